/- Part 5 of the proof of the statement TopResyncsCompareCardSaid: lemmas. No condition of its own. -/
import Derived.SevenTiedAt
import Derived.Test.YtmfeabjhjhjfeaaGreatDoorRows
import Derived.Test.YtmfeabjhjhjfeaaGreatDoorTie
import Derived.Test.YtmfeabjhjhjfeaaGreatDoorCards
import Derived.Test.YtmfeabjhjhjfeaaGreatDoorProg
import Derived.CallsIn
import Derived.Shelf.SlIterI.Sorted
import Derived.Shelf.SortM.Plain
import Derived.Shelf.SortM.SortNone
import Derived.Ground.GgzProg
import Derived.Ground.SlgmProg
import Derived.Shelf.SlSortCmp.NoneTotal
import Derived.Test.YtmfeabjhjhjfeaaGreatDoorM4
namespace Go.Proofs.YtmfeabjhjhjfeaaGreatDoor
open Go.RowKit
theorem rd5:q75 Tryz.prog 5 (BitVec 8):=q75.byte Tryz.underlying5 (by kernel_rfl)
instance rg_standbytop_PlayStep:Rg q11:=⟨fun x=>Rg.rg x.Kind∧Rg.rg x.Volume∧Rg.rg x.Start∧Rg.rg x.Count∧Rg.rg x.First⟩
theorem rd65:q75 Tryz.prog 65 (q11):=(@Reads.struct Tryz.prog 65 _ (BitVec 8×BitVec 8×BitVec 8×BitVec 8×BitVec 8×Unit) (@datProd _ _ (datD (BitVec 8)) (@datProd _ _ (datD (BitVec 8)) (@datProd _ _ (datD (BitVec 8)) (@datProd _ _ (datD (BitVec 8)) (@datProd _ _ (datD (BitVec 8)) datUnit))))) Tryz.underlying65 (by kernel_rfl) (@q104.cons _ _ _ _ _ _ (datD (BitVec 8)) _ rfl rd5 (@q104.cons _ _ _ _ _ _ (datD (BitVec 8)) _ rfl rd5 (@q104.cons _ _ _ _ _ _ (datD (BitVec 8)) _ rfl rd5 (@q104.cons _ _ _ _ _ _ (datD (BitVec 8)) _ rfl rd5 (@q104.cons _ _ _ _ _ _ (datD (BitVec 8)) _ rfl rd5 (.nil _))))))).map rfl fun {H cs a} h=>by
 obtain⟨a0,a1,a2,a3,a4,_⟩:=a;obtain⟨_,_,rfl,⟨rfl,r0⟩,_,_,rfl,⟨rfl,r1⟩,_,_,rfl,⟨rfl,r2⟩,_,_,rfl,⟨rfl,r3⟩,_,_,rfl,⟨rfl,r4⟩,hz⟩:=h;cases hz;exact⟨⟨a0,a1,a2,a3,a4⟩,rfl,r0,r1,r2,r3,r4⟩
theorem rd22:q75 Tryz.prog 22 (List q11):=q75.slice Tryz.underlying22 (by kernel_rfl) rd65 (by decide)
instance rg_Arr3_standbytop_PlayStep:Rg q23:=⟨fun x=>Rg.rg x.e0∧Rg.rg x.e1∧Rg.rg x.e2⟩
theorem rd23:q75 Tryz.prog 23 (q23):=@Reads.mk Tryz.prog 23 q23 (datD _) (by kernel_rfl) fun h=>by
 obtain⟨xs,hl,hD,hg⟩:=q323 Tryz.underlying23 rd22 (by kernel_rfl) h
 match xs,hl,hD,hg with
 | [a0,a1,a2],_,hD,hg=>
  obtain⟨_,_,rfl,⟨A6,n6,c6,s6,rfl,hF6⟩,_,_,rfl,⟨A8,n8,c8,s8,rfl,hF8⟩,_,_,rfl,⟨A10,n10,c10,s10,rfl,hF10⟩,hz⟩:=hD;cases hz;exact⟨⟨a0,a1,a2⟩,⟨A6,n6,c6,s6,A8,n8,c8,s8,A10,n10,c10,s10,rfl,hF6,hF8,hF10⟩,hg a0 (by simp),hg a1 (by simp),hg a2 (by simp)⟩
instance rg_Arr3_uint8:Rg q46:=⟨fun x=>Rg.rg x.e0∧Rg.rg x.e1∧Rg.rg x.e2⟩
theorem rd24:q75 Tryz.prog 24 (q46):=@Reads.mk Tryz.prog 24 q46 (datD _) (by kernel_rfl) fun h=>by
 obtain⟨xs,hl,hD,hg⟩:=q323 Tryz.underlying24 rd5 (by kernel_rfl) h
 match xs,hl,hD,hg with
 | [a0,a1,a2],_,hD,hg=>
  obtain⟨_,_,rfl,rfl,_,_,rfl,rfl,_,_,rfl,rfl,hz⟩:=hD;cases hz;exact⟨⟨a0,a1,a2⟩,rfl,hg a0 (by simp),hg a1 (by simp),hg a2 (by simp)⟩
theorem rd4:q75 Tryz.prog 4 (Bool):=q75.bool Tryz.underlying4 (by kernel_rfl)
instance rg_Arr3_bool:Rg q110:=⟨fun x=>Rg.rg x.e0∧Rg.rg x.e1∧Rg.rg x.e2⟩
theorem rd25:q75 Tryz.prog 25 (q110):=@Reads.mk Tryz.prog 25 q110 (datD _) (by kernel_rfl) fun h=>by
 obtain⟨xs,hl,hD,hg⟩:=q323 Tryz.underlying25 rd4 (by kernel_rfl) h
 match xs,hl,hD,hg with
 | [a0,a1,a2],_,hD,hg=>
  obtain⟨_,_,rfl,rfl,_,_,rfl,rfl,_,_,rfl,rfl,hz⟩:=hD;cases hz;exact⟨⟨a0,a1,a2⟩,rfl,hg a0 (by simp),hg a1 (by simp),hg a2 (by simp)⟩
instance rg_standbytop_PlaySites:Rg q19:=⟨fun x=>Rg.rg x.Base∧Rg.rg x.Writes∧Rg.rg x.Epochs∧Rg.rg x.Cycles∧Rg.rg x.Lost⟩
theorem rd27:q75 Tryz.prog 27 (q19):=(@Reads.struct Tryz.prog 27 _ (List q11×q23×q46×q46×q110×Unit) (@datProd _ _ (datD (List q11)) (@datProd _ _ (datD (q23)) (@datProd _ _ (datD (q46)) (@datProd _ _ (datD (q46)) (@datProd _ _ (datD (q110)) datUnit))))) Tryz.underlying27 (by kernel_rfl) (@q104.cons _ _ _ _ _ _ (datD (List q11)) _ rfl rd22 (@q104.cons _ _ _ _ _ _ (datD (q23)) _ rfl rd23 (@q104.cons _ _ _ _ _ _ (datD (q46)) _ rfl rd24 (@q104.cons _ _ _ _ _ _ (datD (q46)) _ rfl rd24 (@q104.cons _ _ _ _ _ _ (datD (q110)) _ rfl rd25 (.nil _))))))).map rfl fun {H cs a} h=>by
 obtain⟨a0,a1,a2,a3,a4,_⟩:=a;obtain⟨_,_,rfl,⟨⟨A18,n18,c18,s18,rfl,hF18⟩,r0⟩,_,_,rfl,⟨⟨A20,n20,c20,s20,A21,n21,c21,s21,A22,n22,c22,s22,rfl,hF20,hF21,hF22⟩,r1⟩,_,_,rfl,⟨rfl,r2⟩,_,_,rfl,⟨rfl,r3⟩,_,_,rfl,⟨rfl,r4⟩,hz⟩:=h;cases hz;exact⟨⟨a0,a1,a2,a3,a4⟩,⟨A18,n18,c18,s18,A20,n20,c20,s20,A21,n21,c21,s21,A22,n22,c22,s22,rfl,hF18,hF20,hF21,hF22⟩,r0,r1,r2,r3,r4⟩
instance rg_Arr2_uint8:Rg q45:=⟨fun x=>Rg.rg x.e0∧Rg.rg x.e1⟩
theorem rd28:q75 Tryz.prog 28 (q45):=@Reads.mk Tryz.prog 28 q45 (datD _) (by kernel_rfl) fun h=>by
 obtain⟨xs,hl,hD,hg⟩:=q323 Tryz.underlying28 rd5 (by kernel_rfl) h
 match xs,hl,hD,hg with
 | [a0,a1],_,hD,hg=>
  obtain⟨_,_,rfl,rfl,_,_,rfl,rfl,hz⟩:=hD;cases hz;exact⟨⟨a0,a1⟩,rfl,hg a0 (by simp),hg a1 (by simp)⟩
end Go.Proofs.YtmfeabjhjhjfeaaGreatDoor
namespace Go.Proofs.YtmfeabjhjhjfeaaGreatDoor
open Go.RowKit Go.ChangeShapes Go.WideShapes Go.ChangeAt
theorem Tryz.own:ownKnob Tryz.prog.godebug=none:=by kernel_rfl
theorem Tryz.laidOut:laidOutB Tryz.prog=true:=by kernel_rfl
theorem Tryz.doorMet(os:Os)(args:Array Value):laidMetH Tryz.prog [("math/bits.deBruijn64tab",Rows.laid_math_bits_deBruijn64tab)] ((World.doorLaid Tryz.prog 14 os).forCall (fun _ _=>0) ⟨#[],args,[]⟩).memory:=
 laidMetH_of_parts3 (fuel:=8) (laidMet_of_run' 8 (by kernel_rfl) (by kernel_rfl)) (by kernel_rfl) (by kernel_rfl)
theorem q848{W:World}(h:laidMetH Tryz.prog [("math/bits.deBruijn64tab",Rows.laid_math_bits_deBruijn64tab)] W):TabH (HW W) 0:=
 q542 (t:=217) (e:=5) (by kernel_rfl) (by kernel_rfl) Tryz.underlying217 Tryz.underlying5 (by kernel_rfl) (by kernel_rfl) rfl h
theorem lawRes(y:TupD DD [4])(hy:y.1=true){H:Hp}{v:Value}{L:List Ent}(hr:ResR Tryz.prog tab [4] [[false]] y H v L):∃ z,z=true∧v = .bool z∧L=[]:=by
 obtain⟨ρ,_,_,_,_,h1,h2⟩:=hr 0 (fun _=>none) (fun _ _=>rfl) _ _ _ (show resE Tryz.prog tab _ _ y 0=some (.b y.1,[],0) by kernel_rfl);exact⟨y.1,hy,h1,h2⟩
theorem pkw27(v:Value)(cs:List Value):PkR Tryz.prog 27 v cs=(v = .agg cs.toArray):=by kernel_rfl
theorem pkw28(v:Value)(cs:List Value):PkR Tryz.prog 28 v cs=(v = .agg cs.toArray):=by kernel_rfl
end Go.Proofs.YtmfeabjhjhjfeaaGreatDoor
namespace Go.Proofs.YtmfeabjhjhjfeaaGreatDoor
open Go.RowKit
def Z0(Φ:List Int→Prop):Prop:=
 Φ ([5,3]:List Int)
def Z1(x0:Int)(Φ:Bool→Prop):Prop:=
 (x0<1→
 Φ true)∧
 (¬(x0<1)→
 Φ (decide (4096<x0)))
def Z2(x0:List Int)(Φ:Int→Prop):(Int)→((Int)→Prop)→Prop
 | a,rec1=>
 (a<(x0.length:Int)→
 inX a x0.length∧
 Z1 (ix x0 a) fun b=>
 (b=true→
 (0≤a→
 Φ 2)∧
 (¬(0≤a)→
 Φ 0))∧
 (¬(b=true)→
 inI (a+1)∧
 rec1 (a+1)))∧
 (¬(a<(x0.length:Int))→
 (0≤((-1):Int)→
 Φ 2)∧
 (¬(0≤((-1):Int))→
 Φ 0))
def Z3(x0:List Int)(Φ:Int→Prop):Prop:=
 ((x0.length:Int)<1→
 Φ 6)∧
 (¬((x0.length:Int)<1)→
 (8<(x0.length:Int)→
 Φ 6)∧
 (¬(8<(x0.length:Int))→
 LoopW (Z2 x0 Φ) 0))
def q266(x0:Int)(Φ:List Sec→Prop):Prop:=
 0≤x0∧
 lenOk x0.toNat 8∧
 Φ (List.replicate x0.toNat (sec0:Sec))
def q505(x0:List Int)(Φ:List (List Sec)×Int→Prop):(Int×List (List Sec))→((Int×List (List Sec))→Prop)→Prop
 | (a,b),rec1=>
 (a<(x0.length:Int)→
 inX a x0.length∧
 q266 (ix x0 a) fun c=>
 lenOk (b++([c]:List (List Sec))).length 24∧
 inI (a+1)∧
 rec1 ((a+1),(b++([c]:List (List Sec)))))∧
 (¬(a<(x0.length:Int))→
 Φ (b,0))
def q57(x0:List Int)(Φ:List (List Sec)×Int→Prop):Prop:=
 Z3 x0 fun a=>
 (a≠0→
 Φ (([]:List (List Sec)),a))∧
 (¬(a≠0)→
 0≤(x0.length:Int)∧
 lenOk (x0.length:Int).toNat 24∧
 LoopW (q505 x0 Φ) (0,([]:List (List Sec))))
def Z4(x0:Int)(x1:Int)(x2:Int)(Φ:Bool→Prop):Prop:=
 (x1≤x0→
 Φ (decide (x0≤x2)))∧
 (¬(x1≤x0)→
 Φ false)
def Z5(x0:Int)(Φ:Bool→Prop):Prop:=
 Z4 x0 0 3 fun a=>
 Φ a
def Z6(x0:Int)(Φ:Int→Prop):Prop:=
 inI (x0+64)∧
 inI ((x0+64)-1)∧
 (0≤((x0+64)-1)∧inI ((x0+64)-1)∧(0:Int)<64)∧
 Φ (((x0+64)-1) / 64)
def q457(x0:Int)(Φ:q9×Int→Prop):Bool→Prop
 | b=>
 (b=true→
 Φ ((q9.mk 0 ([]:List (BitVec 64))),2))∧
 (¬(b=true)→
 Z6 x0 fun a=>
 0≤a∧
 lenOk a.toNat 8∧
 Φ ((q9.mk x0 (List.replicate a.toNat (0#64:BitVec 64))),0))
def q212(x0:Int)(Φ:q9×Int→Prop):Prop:=
 Join (q457 x0 Φ) fun J1=>
 (x0<0→
 J1 true)∧
 (¬(x0<0)→
 J1 (decide (4096<x0)))
def Z7(x0:List Int)(Φ:List q9×Int→Prop):(Int×List q9)→((Int×List q9)→Prop)→Prop
 | (a,c),rec1=>
 (a<(x0.length:Int)→
 inX a x0.length∧
 q212 (ix x0 a) fun b=>
 (b.2≠0→
 Φ (([]:List q9),b.2))∧
 (¬(b.2≠0)→
 lenOk (c++([b.1]:List q9)).length 32∧
 inI (a+1)∧
 rec1 ((a+1),(c++([b.1]:List q9)))))∧
 (¬(a<(x0.length:Int))→
 Φ (c,0))
def Z8(x0:List Int)(Φ:List q9×Int→Prop):Prop:=
 LoopW (Z7 x0 Φ) (0,([]:List q9))
def Z9(x0:List Int)(Φ:List Int→Prop):Prop:=
 (x0=[]→
 Φ ([]:List Int))∧
 (
 lenOk (([]:List Int)++x0).length 8∧
 Φ (([]:List Int)++x0))
def Z10(a:List (Int×q15))(d:List Int)(Φ:q16×Int→Prop):(Int×List q15)→((Int×List q15)→Prop)→Prop
 | (b,c),rec3=>
 (b<((sortZ (a.map fun p=>p.1)).length:Int)→
 inX b (sortZ (a.map fun p=>p.1)).length∧
 lenOk (c++([(mget a (ix (sortZ (a.map fun p=>p.1)) b) (q15.mk 0 0 ([]:List q9)))]:List q15)).length 40∧
 inI (b+1)∧
 rec3 ((b+1),(c++([(mget a (ix (sortZ (a.map fun p=>p.1)) b) (q15.mk 0 0 ([]:List q9)))]:List q15))))∧
 (¬(b<((sortZ (a.map fun p=>p.1)).length:Int))→
 Φ ((q16.mk d c),0))
def Z11(x0:List Int)(x1:List Int)(x2:Int)(Φ:q16×Int→Prop):(Int×(List (Int×q15)))→((Int×(List (Int×q15)))→Prop)→Prop
 | (a,b),rec2=>
 (a<(x1.length:Int)→
 inX a x1.length∧
 ((mhas b (ix x1 a))=true→
 Φ ((q16.mk ([]:List Int) ([]:List q15)),8))∧
 (¬((mhas b (ix x1 a))=true)→
 Z8 x0 fun c=>
 (c.2≠0→
 Φ ((q16.mk ([]:List Int) ([]:List q15)),c.2))∧
 (¬(c.2≠0)→
 inI (a+1)∧
 rec2 ((a+1),(mput b (ix x1 a) (q15.mk (ix x1 a) x2 c.1))))))∧
 (¬(a<(x1.length:Int))→
 Z4 x2 0 1073741824 fun d=>
 (¬(d=true)→
 Φ ((q16.mk ([]:List Int) ([]:List q15)),2))∧
 (¬(¬(d=true))→
 Z9 x0 fun e=>
 (b.map fun p=>p.1).Nodup∧
 (∀ p,p∈b→inI p.1)∧
 lenOk b.length 8∧
 LoopW (Z10 b e Φ) (0,([]:List q15))))
def Z12(x0:List Int)(x1:List Int)(x2:Int)(Φ:q16×Int→Prop):(Int)→((Int)→Prop)→Prop
 | a,rec1=>
 (a<(x1.length:Int)→
 inX a x1.length∧
 Z5 (ix x1 a) fun b=>
 (¬(b=true)→
 Φ ((q16.mk ([]:List Int) ([]:List q15)),2))∧
 (¬(¬(b=true))→
 inI (a+1)∧
 rec1 (a+1)))∧
 (¬(a<(x1.length:Int))→
 LoopW (Z11 x0 x1 x2 Φ) (0,([]:List (Int×q15))))
def q119(x0:List Int)(x1:List Int)(x2:Int)(Φ:q16×Int→Prop):Prop:=
 q57 x0 fun a=>
 (a.2≠0→
 Φ ((q16.mk ([]:List Int) ([]:List q15)),a.2))∧
 (¬(a.2≠0)→
 (4<(x1.length:Int)→
 Φ ((q16.mk ([]:List Int) ([]:List q15)),6))∧
 (¬(4<(x1.length:Int))→
 LoopW (Z12 x0 x1 x2 Φ) 0))
def Z13(x0:q11)(a:List Int×Unit)(Φ:q10→Prop):(Int×List Sec)→((Int×List Sec)→Prop)→Prop
 | (b,c),rec1=>
 inI ((ix a.1 ((x0.Volume % (2#8)).toNat:Int))-((x0.Start.toNat:Int) % (ix a.1 ((x0.Volume % (2#8)).toNat:Int))))∧
 (0≤(x0.Count.toNat:Int)∧((ix a.1 ((x0.Volume % (2#8)).toNat:Int))-((x0.Start.toNat:Int) % (ix a.1 ((x0.Volume % (2#8)).toNat:Int))))≠(0:Int))∧
 (b≤((x0.Count.toNat:Int) % ((ix a.1 ((x0.Volume % (2#8)).toNat:Int))-((x0.Start.toNat:Int) % (ix a.1 ((x0.Volume % (2#8)).toNat:Int)))))→
 lenOk (c++([(Sec.mk x0.First (BitVec.ofInt 8 b) (0#8) (0#8) (0#8) (0#8) (0#8) (0#8))]:List Sec)).length 8∧
 inI (b+1)∧
 rec1 ((b+1),(c++([(Sec.mk x0.First (BitVec.ofInt 8 b) (0#8) (0#8) (0#8) (0#8) (0#8) (0#8))]:List Sec))))∧
 (¬(b≤((x0.Count.toNat:Int) % ((ix a.1 ((x0.Volume % (2#8)).toNat:Int))-((x0.Start.toNat:Int) % (ix a.1 ((x0.Volume % (2#8)).toNat:Int))))))→
 Φ (q10.mk ((x0.Volume % (2#8)).toNat:Int) ((x0.Start.toNat:Int) % (ix a.1 ((x0.Volume % (2#8)).toNat:Int))) c))
def Z14(x0:q11)(Φ:q10→Prop):Prop:=
 ∃ a:List Int×Unit,Z0 (fun z=>(z,())=a)∧
 (2#8)≠0#8∧
 inX ((x0.Volume % (2#8)).toNat:Int) a.1.length∧
 (0≤(x0.Start.toNat:Int)∧(ix a.1 ((x0.Volume % (2#8)).toNat:Int))≠(0:Int))∧
 (2#8)≠0#8∧
 LoopW (Z13 x0 a Φ) (0,([]:List Sec))
def Z15(x0:List Sec)(Φ:Int→Prop):Prop:=
 Φ (x0.length:Int)
def Z16(x0:List (List Sec))(Φ:List Int→Prop):(Int×List Int)→((Int×List Int)→Prop)→Prop
 | (a,b),rec1=>
 (a<(x0.length:Int)→
 inX a x0.length∧
 Z15 (ix x0 a) fun c=>
 lenOk (b++([c]:List Int)).length 8∧
 inI (a+1)∧
 rec1 ((a+1),(b++([c]:List Int))))∧
 (¬(a<(x0.length:Int))→
 Φ b)
def q173(x0:List (List Sec))(Φ:List Int→Prop):Prop:=
 0≤(x0.length:Int)∧
 lenOk (x0.length:Int).toNat 8∧
 LoopW (Z16 x0 Φ) (0,([]:List Int))
def q72(x0:List (List Sec))(Φ:Int→Prop):Prop:=
 q173 x0 fun a=>
 Z3 a fun b=>
 Φ b
def Z17(x0:List Sec)(Φ:List Sec→Prop):Prop:=
 (x0=[]→
 Φ ([]:List Sec))∧
 (
 lenOk (([]:List Sec)++x0).length 8∧
 Φ (([]:List Sec)++x0))
def q174(x0:List (List Sec))(x1:q10)(Φ:Int→Prop):Bool→Prop
 | a=>
 (a=true→
 Φ 7)∧
 (¬(a=true)→
 ((x1.Data.length:Int)=0→
 Φ 1)∧
 (¬((x1.Data.length:Int)=0)→
 (x1.Start<0→
 Φ 2)∧
 (¬(x1.Start<0)→
 inX x1.Volume x0.length∧
 inI (((ix x0 x1.Volume).length:Int)-(x1.Data.length:Int))∧
 ((((ix x0 x1.Volume).length:Int)-(x1.Data.length:Int))<x1.Start→
 Φ 2)∧
 (¬((((ix x0 x1.Volume).length:Int)-(x1.Data.length:Int))<x1.Start)→
 Φ 0))))
def q111(x0:List (List Sec))(x1:q10)(Φ:Int→Prop):Prop:=
 Join (q174 x0 x1 Φ) fun J1=>
 (x1.Volume<0→
 J1 true)∧
 (¬(x1.Volume<0)→
 J1 (decide ((x0.length:Int)≤x1.Volume)))
def Z18(x0:List (List Sec))(Φ:List (List Sec)→Prop):(List (List Sec)×Int)→((List (List Sec)×Int)→Prop)→Prop
 | (b,a),rec1=>
 (a<(x0.length:Int)→
 inX a x0.length∧
 Z17 (ix x0 a) fun c=>
 lenOk (b++[c]).length 24∧
 inI (a+1)∧
 rec1 ((b++[c]),a+1))∧
 (¬(a<(x0.length:Int))→
 Φ b)
def Z19(x0:List (List Sec))(Φ:List (List Sec)→Prop):Prop:=
 0≤(x0.length:Int)∧
 lenOk (x0.length:Int).toNat 24∧
 LoopW (Z18 x0 Φ) (([]:List (List Sec)),0)
def Z20(x0:List (List Sec))(Φ:List (List Sec)→Prop):Prop:=
 Z19 x0 fun a=>
 Φ a
def Z21(x1:List q10)(Φ:List (List Sec)×Int×Int→Prop):(List (List Sec)×Int)→((List (List Sec)×Int)→Prop)→Prop
 | (b,a),rec1=>
 (a<(x1.length:Int)→
 inX a x1.length∧
 q111 b (ix x1 a) fun c=>
 (c≠0→
 Φ (([]:List (List Sec)),a,c))∧
 (¬(c≠0)→
 inX ((ix x1 a).Volume) b.length∧
 inS ((ix x1 a).Start) ((ix b ((ix x1 a).Volume)).length:Int) (ix b ((ix x1 a).Volume)).length∧
 inI (a+1)∧
 rec1 ((put b ((ix x1 a).Volume) (paste (ix b ((ix x1 a).Volume)) ((ix x1 a).Start) ((ix x1 a).Data))),a+1)))∧
 (¬(a<(x1.length:Int))→
 Φ (b,0,0))
def q98(x0:List (List Sec))(x1:List q10)(Φ:List (List Sec)×Int×Int→Prop):Prop:=
 q72 x0 fun a=>
 (a≠0→
 Φ (([]:List (List Sec)),0,a))∧
 (¬(a≠0)→
 Z20 x0 fun b=>
 LoopW (Z21 x1 Φ) (b,0))
def Z22(x0:q9)(Φ:Int→Prop):Prop:=
 (x0.Size<0→
 Φ 3)∧
 (¬(x0.Size<0)→
 (4096<x0.Size→
 Φ 3)∧
 (¬(4096<x0.Size)→
 ∃ a:Int×Unit,Z6 x0.Size (fun z=>(z,())=a)∧
 ((x0.Words.length:Int)≠a.1→
 Φ 3)∧
 (¬((x0.Words.length:Int)≠a.1)→
 (0≤x0.Size∧64≠(0:Int))∧
 (0<(x0.Size % 64)→
 inI ((x0.Words.length:Int)-1)∧
 inX ((x0.Words.length:Int)-1) x0.Words.length∧
 (0:Int)≤(x0.Size % 64)∧
 (((ix x0.Words ((x0.Words.length:Int)-1)) >>> ((x0.Size % 64):Int).toNat)≠(0#64)→
 Φ 3)∧
 (¬(((ix x0.Words ((x0.Words.length:Int)-1)) >>> ((x0.Size % 64):Int).toNat)≠(0#64))→
 Φ 0))∧
 (¬(0<(x0.Size % 64))→
 Φ 0))))
def Z23(x0:q9)(x1:Int)(Φ:Bool×Int→Prop):Prop:=
 Z22 x0 fun a=>
 (a≠0→
 Φ (false,a))∧
 (¬(a≠0)→
 (x0.Size≠x1→
 Φ (false,22))∧
 (¬(x0.Size≠x1)→
 Φ (true,0)))
def Z24(x0:List q9)(x1:List Int)(Φ:Int→Prop):(Int×List Bool)→((Int×List Bool)→Prop)→Prop
 | (a,c),rec1=>
 (a<(x0.length:Int)→
 inX a x0.length∧
 inX a x1.length∧
 ∃ b:Bool×Int×Unit,Z23 (ix x0 a) (ix x1 a) (fun z=>(z.1,z.2,())=b)∧
 (b.2.1≠0→
 Φ b.2.1)∧
 (¬(b.2.1≠0)→
 lenOk (c++([b.1]:List Bool)).length 1∧
 inI (a+1)∧
 rec1 ((a+1),(c++([b.1]:List Bool)))))∧
 (¬(a<(x0.length:Int))→
 Φ 0)
def Z25(x0:List q9)(x1:List Int)(Φ:Int→Prop):Prop:=
 ((x0.length:Int)≠(x1.length:Int)→
 Φ 6)∧
 (¬((x0.length:Int)≠(x1.length:Int))→
 LoopW (Z24 x0 x1 Φ) (0,([]:List Bool)))
def Z26(x0:q16)(Φ:Int→Prop):(Int×Int)→((Int×Int)→Prop)→Prop
 | (c,a),rec1=>
 (a<(x0.Peers.length:Int)→
 inX a x0.Peers.length∧
 Z5 ((ix x0.Peers a).Site) fun d=>
 (¬(d=true)→
 Φ 2)∧
 (¬(¬(d=true))→
 (((ix x0.Peers a).Site)≤c→
 Φ 8)∧
 (¬(((ix x0.Peers a).Site)≤c)→
 Z4 ((ix x0.Peers a).Common) 0 1073741824 fun e=>
 (¬(e=true)→
 Φ 2)∧
 (¬(¬(e=true))→
 Z25 ((ix x0.Peers a).Dirty) x0.Sizes fun b=>
 (b≠0→
 Φ b)∧
 (¬(b≠0)→
 inI (a+1)∧
 rec1 ((ix x0.Peers a).Site,(a+1)))))))∧
 (¬(a<(x0.Peers.length:Int))→
 Φ 0)
def Z27(x0:q16)(Φ:Int→Prop):Prop:=
 q57 x0.Sizes fun a=>
 (a.2≠0→
 Φ a.2)∧
 (¬(a.2≠0)→
 (4<(x0.Peers.length:Int)→
 Φ 6)∧
 (¬(4<(x0.Peers.length:Int))→
 LoopW (Z26 x0 Φ) ((-1),0)))
def q213(x0:List (List Sec))(x1:q10)(Φ:Int→Prop):Prop:=
 q72 x0 fun a=>
 (a≠0→
 Φ a)∧
 (¬(a≠0)→
 q111 x0 x1 fun b=>
 Φ b)
def Z28(x0:List (BitVec 64))(Φ:List (BitVec 64)→Prop):Prop:=
 (x0=[]→
 Φ ([]:List (BitVec 64)))∧
 (
 lenOk (([]:List (BitVec 64))++x0).length 8∧
 Φ (([]:List (BitVec 64))++x0))
def q175(x0:q9)(Φ:q9→Prop):Prop:=
 ∃ a:List (BitVec 64)×Unit,Z28 x0.Words (fun z=>(z,())=a)∧
 Φ (q9.mk x0.Size a.1)
def Z29(x0:List q9)(Φ:List q9→Prop):(Int×List q9)→((Int×List q9)→Prop)→Prop
 | (a,b),rec1=>
 (a<(x0.length:Int)→
 inX a x0.length∧
 q175 (ix x0 a) fun c=>
 lenOk (b++([c]:List q9)).length 32∧
 inI (a+1)∧
 rec1 ((a+1),(b++([c]:List q9))))∧
 (¬(a<(x0.length:Int))→
 Φ b)
def Z30(x0:List q9)(Φ:List q9→Prop):Prop:=
 LoopW (Z29 x0 Φ) (0,([]:List q9))
def q176(x0:q8)(x1:Int)(Φ:Bool→Prop):Prop:=
 (0≤x0.Start→
 (0≤x0.Count→
 (x0.Start≤x1→
 inI (x1-x0.Start)∧
 Φ (decide (x0.Count≤(x1-x0.Start))))∧
 (¬(x0.Start≤x1)→
 Φ false))∧
 (¬(0≤x0.Count)→
 Φ false))∧
 (¬(0≤x0.Start)→
 Φ false)
def q120(x0:Int)(x1:Int)(x2:Int)(Φ:BitVec 64→Prop):Prop:=
 inI (x0*64)∧
 inI (x1-(x0*64))∧
 inI (x0*64)∧
 inI (x2-(x0*64))∧
 ((if 64<(x2-(x0*64)) then 64 else(x2-(x0*64)))≤(if(x1-(x0*64))<0 then 0 else(x1-(x0*64)))→
 Φ (0#64))∧
 (¬((if 64<(x2-(x0*64)) then 64 else(x2-(x0*64)))≤(if(x1-(x0*64))<0 then 0 else(x1-(x0*64))))→
 inI ((if 64<(x2-(x0*64)) then 64 else(x2-(x0*64)))-(if(x1-(x0*64))<0 then 0 else(x1-(x0*64))))∧
 inI (64-((if 64<(x2-(x0*64)) then 64 else(x2-(x0*64)))-(if(x1-(x0*64))<0 then 0 else(x1-(x0*64)))))∧
 (0:Int)≤(64-((if 64<(x2-(x0*64)) then 64 else(x2-(x0*64)))-(if(x1-(x0*64))<0 then 0 else(x1-(x0*64)))))∧
 (0:Int)≤(if(x1-(x0*64))<0 then 0 else(x1-(x0*64)))∧
 Φ (((18446744073709551615#64) >>> ((64-((if 64<(x2-(x0*64)) then 64 else(x2-(x0*64)))-(if(x1-(x0*64))<0 then 0 else(x1-(x0*64))))):Int).toNat) <<< ((if(x1-(x0*64))<0 then 0 else(x1-(x0*64))):Int).toNat))
def Z31(x0:BitVec 64)(x1:BitVec 64)(Φ:BitVec 64→Prop):Prop:=
 Φ (x0 ||| x1)
def q458(x0:q9)(x1:q8)(c:List (BitVec 64))(Φ:q9×Int→Prop):(Int×List (BitVec 64))→((Int×List (BitVec 64))→Prop)→Prop
 | (a,b),rec1=>
 (a<(c.length:Int)→
 inX a b.length∧
 inI (x1.Start+x1.Count)∧
 ∃ d:BitVec 64×Unit,q120 a x1.Start (x1.Start+x1.Count) (fun z=>(z,())=d)∧
 ∃ e:BitVec 64×Unit,Z31 (ix b a) d.1 (fun z=>(z,())=e)∧
 inX a b.length∧
 inI (a+1)∧
 rec1 ((a+1),(put b a e.1)))∧
 (¬(a<(c.length:Int))→
 Φ ((q9.mk x0.Size b),0))
def q143(x0:q9)(x1:q8)(Φ:q9×Int→Prop):Prop:=
 Z22 x0 fun a=>
 (a≠0→
 Φ ((q9.mk 0 ([]:List (BitVec 64))),a))∧
 (¬(a≠0)→
 q176 x1 x0.Size fun b=>
 (¬(b=true)→
 Φ ((q9.mk 0 ([]:List (BitVec 64))),2))∧
 (¬(¬(b=true))→
 Z28 x0.Words fun c=>
 LoopW (q458 x0 x1 c Φ) (0,c)))
def Z32(a:List ((Int×q15)×List q9))(d:List Int)(Φ:q16×Int→Prop):(Int×List q15)→((Int×List q15)→Prop)→Prop
 | (b,c),rec3=>
 (b<((sortZ ((a.map fun p=>(p.1.1,(q15.mk p.1.2.Site p.1.2.Common p.2))).map fun p=>p.1)).length:Int)→
 inX b (sortZ ((a.map fun p=>(p.1.1,(q15.mk p.1.2.Site p.1.2.Common p.2))).map fun p=>p.1)).length∧
 lenOk (c++([(mget (a.map fun p=>(p.1.1,(q15.mk p.1.2.Site p.1.2.Common p.2))) (ix (sortZ ((a.map fun p=>(p.1.1,(q15.mk p.1.2.Site p.1.2.Common p.2))).map fun p=>p.1)) b) (q15.mk 0 0 ([]:List q9)))]:List q15)).length 40∧
 inI (b+1)∧
 rec3 ((b+1),(c++([(mget (a.map fun p=>(p.1.1,(q15.mk p.1.2.Site p.1.2.Common p.2))) (ix (sortZ ((a.map fun p=>(p.1.1,(q15.mk p.1.2.Site p.1.2.Common p.2))).map fun p=>p.1)) b) (q15.mk 0 0 ([]:List q9)))]:List q15))))∧
 (¬(b<((sortZ ((a.map fun p=>(p.1.1,(q15.mk p.1.2.Site p.1.2.Common p.2))).map fun p=>p.1)).length:Int))→
 Φ ((q16.mk d c),0))
def Z33(x1:q10)(e:(Nat×List Nat))(b:List ((Int×q15)×List q9))(rec2:(((Nat×List Nat))×(List ((Int×q15)×List q9)))→Prop)(i9:Nat)(Φ:q16×Int→Prop):(Int×List q9)→((Int×List q9)→Prop)→Prop
 | (a,d),rec4=>
 (a<(([x1]:List q10).length:Int)→
 inX a ([x1]:List q10).length∧
 inX ((ix ([x1]:List q10) a).Volume) d.length∧
 ∃ c:q9×Int×Unit,q143 (ix d ((ix ([x1]:List q10) a).Volume)) (q8.mk ((ix ([x1]:List q10) a).Start) (((ix ([x1]:List q10) a).Data).length:Int)) (fun z=>(z.1,z.2,())=c)∧
 (c.2.1≠0→
 (c.2.1≠0→
 Φ ((q16.mk ([]:List Int) ([]:List q15)),c.2.1))∧
 (¬(c.2.1≠0)→
 False))∧
 (¬(c.2.1≠0)→
 inX ((ix ([x1]:List q10) a).Volume) d.length∧
 inI (a+1)∧
 rec4 ((a+1),(put d ((ix ([x1]:List q10) a).Volume) c.1))))∧
 (¬(a<(([x1]:List q10).length:Int))→
 ((0:Int)≠0→
 Φ ((q16.mk ([]:List Int) ([]:List q15)),0))∧
 (¬((0:Int)≠0)→
 i9<b.length∧
 (entD b i9).1.1=((entD b i9).1.1)∧
 (∀ i,i<i9→(entD b i).1.1≠((entD b i9).1.1))∧
 rec2 ((e.1,(i9::e.2)),(b.set i9 ((((entD b i9).1.1),(q15.mk (((entD b i9).1.2).Site) (((entD b i9).1.2).Common) ([]:List q9))),d)))))
def Z34(x0:q16)(x1:q10)(Φ:q16×Int→Prop):(((Nat×List Nat))×(List ((Int×q15)×List q9)))→((((Nat×List Nat))×(List ((Int×q15)×List q9)))→Prop)→Prop
 | (b,a),rec2=>
 a.length=b.1∧((∀ i,i<a.length→i∈b.2)→
 Z9 x0.Sizes fun c=>
 (∀ p,p∈a→true=true)∧
 ((a.map fun p=>(p.1.1,(q15.mk p.1.2.Site p.1.2.Common p.2))).map fun p=>p.1).Nodup∧
 (∀ p,p∈(a.map fun p=>(p.1.1,(q15.mk p.1.2.Site p.1.2.Common p.2)))→inI p.1)∧
 lenOk (a.map fun p=>(p.1.1,(q15.mk p.1.2.Site p.1.2.Common p.2))).length 8∧
 LoopW (Z32 a c Φ) (0,([]:List q15)))∧
 ∀ i9,i9<a.length→i9 ∉ b.2→
 a.length=b.1∧
 i9<a.length∧
 i9=i9∧
 LoopW (Z33 x1 b a rec2 i9 Φ) (0,(entD a i9).2)
def Z35(x0:q16)(x1:q10)(Φ:q16×Int→Prop):(Int×(List ((Int×q15)×List q9)))→((Int×(List ((Int×q15)×List q9)))→Prop)→Prop
 | (a,b),rec1=>
 (a<(x0.Peers.length:Int)→
 inX a x0.Peers.length∧
 Z30 ((ix x0.Peers a).Dirty) fun c=>
 mhas (b.map fun p=>p.1) ((ix x0.Peers a).Site)=false∧
 inI (a+1)∧
 rec1 ((a+1),(b++[((((ix x0.Peers a).Site),(q15.mk ((ix x0.Peers a).Site) ((ix x0.Peers a).Common) ([]:List q9))),c)])))∧
 (¬(a<(x0.Peers.length:Int))→
 LoopW (Z34 x0 x1 Φ) ((b.length,[]),b))
def Z36(x0:q16)(x1:q10)(Φ:q16×Int→Prop):Prop:=
 Z27 x0 fun b=>
 (b≠0→
 Φ ((q16.mk ([]:List Int) ([]:List q15)),b))∧
 (¬(b≠0)→
 q57 x0.Sizes fun a=>
 (a.2≠0→
 Φ ((q16.mk ([]:List Int) ([]:List q15)),a.2))∧
 (¬(a.2≠0)→
 q213 a.1 x1 fun c=>
 (c≠0→
 Φ ((q16.mk ([]:List Int) ([]:List q15)),c))∧
 (¬(c≠0)→
 LoopW (Z35 x0 x1 Φ) (0,([]:List ((Int×q15)×List q9))))))
def Z37(x0:q16)(x1:Int)(Φ:List q9×Int×Int→Prop):(Int×(List (Int×q15)))→((Int×(List (Int×q15)))→Prop)→Prop
 | (a,b),rec1=>
 (a<(x0.Peers.length:Int)→
 inX a x0.Peers.length∧
 Z30 ((ix x0.Peers a).Dirty) fun c=>
 inI (a+1)∧
 rec1 ((a+1),(mput b ((ix x0.Peers a).Site) (q15.mk ((ix x0.Peers a).Site) ((ix x0.Peers a).Common) c))))∧
 (¬(a<(x0.Peers.length:Int))→
 (¬((mhas b x1)=true)→
 Φ (([]:List q9),0,7))∧
 (¬(¬((mhas b x1)=true))→
 Φ ((mget b x1 (q15.mk 0 0 ([]:List q9))).Dirty,(mget b x1 (q15.mk 0 0 ([]:List q9))).Common,0)))
def Z38(x0:q16)(x1:Int)(Φ:List q9×Int×Int→Prop):Prop:=
 Z27 x0 fun a=>
 (a≠0→
 Φ (([]:List q9),0,a))∧
 (¬(a≠0)→
 LoopW (Z37 x0 x1 Φ) (0,([]:List (Int×q15))))
def q230(x0:Int)(x1:Int)(Φ:Bool→Prop):Prop:=
 (x1≤x0→
 Φ (decide (x0≤1073741824)))∧
 (¬(x1≤x0)→
 Φ false)
def Z39(x0:List q42)(Φ:Bool→Prop):(Int×Int×Int×Int)→((Int×Int×Int×Int)→Prop)→Prop
 | (a,c,_,b),rec1=>
 (a<(x0.length:Int)→
 inX a x0.length∧
 inI (b+1)∧
 (((ix x0 a).From)≠(b+1)→
 Φ false)∧
 (¬(((ix x0 a).From)≠(b+1))→
 (((ix x0 a).To)<((ix x0 a).From)→
 Φ false)∧
 (¬(((ix x0 a).To)<((ix x0 a).From))→
 (1073741824<((ix x0 a).To)→
 Φ false)∧
 (¬(1073741824<((ix x0 a).To))→
 q230 ((ix x0 a).Epoch) 1 fun d=>
 (¬(d=true)→
 Φ false)∧
 (¬(¬(d=true))→
 (((ix x0 a).Epoch)≤c→
 Φ false)∧
 (¬(((ix x0 a).Epoch)≤c)→
 inI (a+1)∧
 rec1 ((a+1),(ix x0 a).Epoch,(ix x0 a).From,(ix x0 a).To)))))))∧
 (¬(a<(x0.length:Int))→
 Φ true)
def Z40(x0:List q42)(Φ:Bool→Prop):Prop:=
 LoopW (Z39 x0 Φ) (0,0,0,0)
def Z41(x0:q14)(Φ:Int→Prop):(Int)→((Int)→Prop)→Prop
 | a,rec1=>
 (a<(x0.Dirty.length:Int)→
 inX a x0.Dirty.length∧
 Z22 (ix x0.Dirty a) fun b=>
 (b≠0→
 Φ b)∧
 (¬(b≠0)→
 inX a x0.Image.length∧
 (((ix x0.Dirty a).Size)≠((ix x0.Image a).length:Int)→
 Φ 22)∧
 (¬(((ix x0.Dirty a).Size)≠((ix x0.Image a).length:Int))→
 inI (a+1)∧
 rec1 (a+1))))∧
 (¬(a<(x0.Dirty.length:Int))→
 Φ 0)
def q73(x0:q14)(Φ:Int→Prop):Prop:=
 q230 x0.Site 0 fun b=>
 (¬(b=true)→
 Φ 2)∧
 (¬(¬(b=true))→
 Z40 x0.Lineage fun c=>
 (¬(c=true)→
 Φ 3)∧
 (¬(¬(c=true))→
 q72 x0.Image fun a=>
 (a≠0→
 Φ a)∧
 (¬(a≠0)→
 ((x0.Dirty.length:Int)≠(x0.Image.length:Int)→
 Φ 6)∧
 (¬((x0.Dirty.length:Int)≠(x0.Image.length:Int))→
 LoopW (Z41 x0 Φ) 0))))
abbrev Y1:=Int×List Int×List q15×List (List Sec)
def Z42 (x0:Int) (d:List q42) (a:Int) (e:List (List Sec)) (rec2:(Y1)→Prop) (f:List (List Sec)×Int×Int) (b:q16×Int) (Φ:q14×Bool→Prop):Bool→Prop
 | c=>
 (c=true→
 Φ ((q14.mk x0 d ([]:List q9) e),false))∧
 (¬(c=true)→
 inI (a+1)∧
 rec2 ((a+1),b.1.Sizes,b.1.Peers,f.1))
def Z43(x0:Int)(x2:List q11)(d:List q42)(Φ:q14×Bool→Prop):(Y1)→((Y1)→Prop)→Prop
 | (a,f,g,b),rec2=>
 (a<(x2.length:Int)→
 inX a x2.length∧
 Z14 (ix x2 a) fun h=>
 q98 b ([h]:List q10) fun e=>
 Z36 (q16.mk f g) h fun i=>
 Join (Z42 x0 d a b rec2 e i Φ) fun J3=>
 (e.2.2≠0→
 J3 true)∧
 (¬(e.2.2≠0)→
 J3 (decide (i.2≠0))))∧
 (¬(a<(x2.length:Int))→
 Z38 (q16.mk f g) 0 fun c=>
 (c.2.2=0→
 ∃ j:Int×Unit,q73 (q14.mk x0 d c.1 b) (fun z=>(z,())=j)∧
 Φ ((q14.mk x0 d c.1 b),decide (j.1=0)))∧
 (¬(c.2.2=0)→
 Φ ((q14.mk x0 d c.1 b),false)))
def Z44(x0:Int)(x1:List (List Sec))(x2:List q11)(Φ:q14×Bool→Prop):List q42→Prop
 | b=>
 Z0 fun c=>
 q119 c ([0]:List Int) 0 fun a=>
 (a.2≠0→
 Φ ((q14.mk x0 b ([]:List q9) x1),false))∧
 (¬(a.2≠0)→
 LoopW (Z43 x0 x2 b Φ) (0,a.1.Sizes,a.1.Peers,x1))
def Z45(x0:Int)(x1:List (List Sec))(x2:List q11)(x3:Int)(x4:Int)(Φ:q14×Bool→Prop):Prop:=
 Join (Z44 x0 x1 x2 Φ) fun J1=>
 (0<x4→
 J1 ([(q42.mk x3 1 x4)]:List q42))∧
 (¬(0<x4)→
 J1 ([]:List q42))
def Z46(x0:q19)(g:q14×Bool)(Φ:List q14×List Bool×Bool→Prop):(Int×List q14×List Bool)→((Int×List q14×List Bool)→Prop)→Prop
 | (a,b,c),rec2=>
 (a<3→
 (0≤a∧a<(3:Int))∧
 (a=(0:Int)→
 a=a∧
 a=a∧
 ((0:Int)≤0∧0<(3:Int))∧
 (8<(x0.Writes.e0.length:Int)→
 Φ (([]:List q14),([]:List Bool),true))∧
 (¬(8<(x0.Writes.e0.length:Int))→
 ((0:Int)≤0∧0<(3:Int))∧
 ((0:Int)≤0∧0<(3:Int))∧
 (3#8)≠0#8∧
 inI (((x0.Epochs.e0 % (3#8)).toNat:Int)+1)∧
 ((0:Int)≤0∧0<(3:Int))∧
 (6#8)≠0#8∧
 ∃ d:q14×Bool×Unit,Z45 0 g.1.Image x0.Writes.e0 (((x0.Epochs.e0 % (3#8)).toNat:Int)+1) ((x0.Cycles.e0 % (6#8)).toNat:Int) (fun z=>(z.1,z.2,())=d)∧
 (¬(d.2.1=true)→
 Φ (([]:List q14),([]:List Bool),false))∧
 (¬(¬(d.2.1=true))→
 lenOk (b++([d.1]:List q14)).length 80∧
 ((0:Int)≤0∧0<(3:Int))∧
 lenOk (c++([x0.Lost.e0]:List Bool)).length 1∧
 inI ((0:Int)+1)∧
 rec2 (((0:Int)+1),(b++([d.1]:List q14)),(c++([x0.Lost.e0]:List Bool))))))∧
 (a=(1:Int)→
 a=a∧
 a=a∧
 ((0:Int)≤1∧1<(3:Int))∧
 (8<(x0.Writes.e1.length:Int)→
 Φ (([]:List q14),([]:List Bool),true))∧
 (¬(8<(x0.Writes.e1.length:Int))→
 ((0:Int)≤1∧1<(3:Int))∧
 ((0:Int)≤1∧1<(3:Int))∧
 (3#8)≠0#8∧
 inI (((x0.Epochs.e1 % (3#8)).toNat:Int)+1)∧
 ((0:Int)≤1∧1<(3:Int))∧
 (6#8)≠0#8∧
 ∃ e:q14×Bool×Unit,Z45 1 g.1.Image x0.Writes.e1 (((x0.Epochs.e1 % (3#8)).toNat:Int)+1) ((x0.Cycles.e1 % (6#8)).toNat:Int) (fun z=>(z.1,z.2,())=e)∧
 (¬(e.2.1=true)→
 Φ (([]:List q14),([]:List Bool),false))∧
 (¬(¬(e.2.1=true))→
 lenOk (b++([e.1]:List q14)).length 80∧
 ((0:Int)≤1∧1<(3:Int))∧
 lenOk (c++([x0.Lost.e1]:List Bool)).length 1∧
 inI ((1:Int)+1)∧
 rec2 (((1:Int)+1),(b++([e.1]:List q14)),(c++([x0.Lost.e1]:List Bool))))))∧
 (a=(2:Int)→
 a=a∧
 a=a∧
 ((0:Int)≤2∧2<(3:Int))∧
 (8<(x0.Writes.e2.length:Int)→
 Φ (([]:List q14),([]:List Bool),true))∧
 (¬(8<(x0.Writes.e2.length:Int))→
 ((0:Int)≤2∧2<(3:Int))∧
 ((0:Int)≤2∧2<(3:Int))∧
 (3#8)≠0#8∧
 inI (((x0.Epochs.e2 % (3#8)).toNat:Int)+1)∧
 ((0:Int)≤2∧2<(3:Int))∧
 (6#8)≠0#8∧
 ∃ f:q14×Bool×Unit,Z45 2 g.1.Image x0.Writes.e2 (((x0.Epochs.e2 % (3#8)).toNat:Int)+1) ((x0.Cycles.e2 % (6#8)).toNat:Int) (fun z=>(z.1,z.2,())=f)∧
 (¬(f.2.1=true)→
 Φ (([]:List q14),([]:List Bool),false))∧
 (¬(¬(f.2.1=true))→
 lenOk (b++([f.1]:List q14)).length 80∧
 ((0:Int)≤2∧2<(3:Int))∧
 lenOk (c++([x0.Lost.e2]:List Bool)).length 1∧
 inI ((2:Int)+1)∧
 rec2 (((2:Int)+1),(b++([f.1]:List q14)),(c++([x0.Lost.e2]:List Bool))))))∧
 True)∧
 (¬(a<3)→
 Φ (b,c,true))
def Z47(x0:q19)(b:List (List Sec)×Int)(Φ:List q14×List Bool×Bool→Prop):Bool→Prop
 | c=>
 (c=true→
 Φ (([]:List q14),([]:List Bool),decide (b.2=0)))∧
 (¬(c=true)→
 Z45 0 b.1 x0.Base 0 0 fun a=>
 (¬(a.2=true)→
 Φ (([]:List q14),([]:List Bool),false))∧
 (¬(¬(a.2=true))→
 LoopW (Z46 x0 a Φ) (0,([]:List q14),([]:List Bool))))
def Z48(x0:q19)(Φ:List q14×List Bool×Bool→Prop):Prop:=
 Z0 fun b=>
 q57 b fun a=>
 Join (Z47 x0 a Φ) fun J1=>
 (a.2≠0→
 J1 true)∧
 (¬(a.2≠0)→
 J1 (decide (6<(x0.Base.length:Int))))
def Z49(x0:List Sec)(x1:List Sec)(Φ:Bool→Prop):Prop:=
 Φ (decide ((x0.length:Int)=(x1.length:Int)))
def Z50(x0:List (List Sec))(x1:List (List Sec))(Φ:Bool→Prop):(Int)→((Int)→Prop)→Prop
 | a,rec1=>
 (a<(x0.length:Int)→
 inX a x0.length∧
 inX a x1.length∧
 Z49 (ix x0 a) (ix x1 a) fun b=>
 (¬(b=true)→
 Φ false)∧
 (¬(¬(b=true))→
 inI (a+1)∧
 rec1 (a+1)))∧
 (¬(a<(x0.length:Int))→
 Φ true)
def q177(x0:List (List Sec))(x1:List (List Sec))(Φ:Bool→Prop):Prop:=
 ((x0.length:Int)≠(x1.length:Int)→
 Φ false)∧
 (¬((x0.length:Int)≠(x1.length:Int))→
 LoopW (Z50 x0 x1 Φ) 0)
def q506(x0:List q14)(Φ:Int→Prop):(Int)→((Int)→Prop)→Prop
 | a,rec2=>
 (a<(x0.length:Int)→
 inX a x0.length∧
 inX 0 x0.length∧
 ∃ b:Bool×Unit,q177 ((ix x0 a).Image) ((ix x0 0).Image) (fun z=>(z,())=b)∧
 (¬(b.1=true)→
 Φ 22)∧
 (¬(¬(b.1=true))→
 inI (a+1)∧
 rec2 (a+1)))∧
 (¬(a<(x0.length:Int))→
 Φ 0)
def q507(x0:List q14)(Φ:Int→Prop):(Int)→((Int)→Prop)→Prop
 | a,rec1=>
 (a<(x0.length:Int)→
 inX a x0.length∧
 q73 (ix x0 a) fun b=>
 (b≠0→
 Φ b)∧
 (¬(b≠0)→
 inI (a+1)∧
 rec1 (a+1)))∧
 (¬(a<(x0.length:Int))→
 ((x0.length:Int)<1→
 Φ 6)∧
 (¬((x0.length:Int)<1)→
 (4<(x0.length:Int)→
 Φ 6)∧
 (¬(4<(x0.length:Int))→
 LoopW (q506 x0 Φ) 0)))
def q178(x0:List q14)(Φ:Int→Prop):Prop:=
 LoopW (q507 x0 Φ) 0
def q214(x0:List q42)(Φ:q97→Prop):Prop:=
 ((x0.length:Int)=0→
 Φ (q97.mk 0 0))∧
 (¬((x0.length:Int)=0)→
 inI ((x0.length:Int)-1)∧
 inX ((x0.length:Int)-1) x0.length∧
 Φ (q97.mk ((ix x0 ((x0.length:Int)-1)).Epoch) ((ix x0 ((x0.length:Int)-1)).To)))
def Z51(x0:Int)(Φ:Bool→Prop):Prop:=
 Φ (decide (x0≠x0))
def Z52(x0:Int)(x1:Int)(Φ:Int→Prop):Prop:=
 Z51 x0 fun b=>
 Z51 x1 fun a=>
 (b=true→
 (a=true→
 Φ 0)∧
 (¬(a=true)→
 Φ (-1)))∧
 (¬(b=true)→
 (a=true→
 Φ 1)∧
 (¬(a=true)→
 (x0<x1→
 Φ (-1))∧
 (¬(x0<x1)→
 (x1<x0→
 Φ 1)∧
 (¬(x1<x0)→
 Φ 0))))
def Z53(x0:List Int)(x1:List Int)(Φ:Int→Prop):(Int)→((Int)→Prop)→Prop
 | a,rec1=>
 (a<(x0.length:Int)→
 inX a x0.length∧
 ((x1.length:Int)≤a→
 Φ 1)∧
 (¬((x1.length:Int)≤a)→
 inX a x1.length∧
 Z52 (ix x0 a) (ix x1 a) fun b=>
 (b≠0→
 Φ b)∧
 (¬(b≠0)→
 inI (a+1)∧
 rec1 (a+1))))∧
 (¬(a<(x0.length:Int))→
 ((x0.length:Int)<(x1.length:Int)→
 Φ (-1))∧
 (¬((x0.length:Int)<(x1.length:Int))→
 Φ 0))
def Z54(x0:List Int)(x1:List Int)(Φ:Int→Prop):Prop:=
 LoopW (Z53 x0 x1 Φ) 0
def Z55(x0:q14)(x1:q14)(Φ:Int→Prop):Prop:=
 ∃ a:q97×Unit,q214 x0.Lineage (fun z=>(z,())=a)∧
 ∃ b:q97×Unit,q214 x1.Lineage (fun z=>(z,())=b)∧
 ∃ c:Int×Unit,Z54 ([a.1.e0,a.1.e1]:List Int) ([b.1.e0,b.1.e1]:List Int) (fun z=>(z,())=c)∧
 Φ c.1
def Z56(c:Int)(a:Int)(rec1:(Int×Int)→Prop)(_:Int×Int→Prop):Bool→Prop
 | b=>
 (b=true→
 inI (a+1)∧
 rec1 (a,(a+1)))∧
 (¬(b=true)→
 inI (a+1)∧
 rec1 (c,(a+1)))
def Z57(x0:List q14)(x1:List Bool)(Φ:Int×Int→Prop):(Int×Int)→((Int×Int)→Prop)→Prop
 | (a,b),rec1=>
 (b<(x0.length:Int)→
 inX b x0.length∧
 Join (Z56 a b rec1 Φ) fun J2=>
 inX b x1.length∧
 (¬((ix x1 b)=true)→
 (a<0→
 J2 true)∧
 (¬(a<0)→
 inX a x0.length∧
 Z55 (ix x0 b) (ix x0 a) fun c=>
 J2 (decide (0<c))))∧
 (¬(¬((ix x1 b)=true))→
 J2 false))∧
 (¬(b<(x0.length:Int))→
 (a<0→
 Φ (0,17))∧
 (¬(a<0)→
 Φ (a,0)))
def Z58(x0:List q14)(x1:List Bool)(Φ:Int×Int→Prop):Prop:=
 q178 x0 fun a=>
 (a≠0→
 Φ (0,a))∧
 (¬(a≠0)→
 ((x1.length:Int)≠(x0.length:Int)→
 Φ (0,6))∧
 (¬((x1.length:Int)≠(x0.length:Int))→
 LoopW (Z57 x0 x1 Φ) ((-1),0)))
def q267(x0:BitVec 64)(x1:BitVec 64)(Φ:BitVec 64→Prop):Prop:=
 Φ (x0 ||| x1)
def q508(x0:q9)(x1:q9)(Φ:q9×Int→Prop):(Int×List (BitVec 64))→((Int×List (BitVec 64))→Prop)→Prop
 | (a,b),rec1=>
 (a<((List.replicate (x0.Words.length:Int).toNat (0#64:BitVec 64)).length:Int)→
 inX a x0.Words.length∧
 inX a x1.Words.length∧
 ∃ c:BitVec 64×Unit,q267 (ix x0.Words a) (ix x1.Words a) (fun z=>(z,())=c)∧
 inX a b.length∧
 inI (a+1)∧
 rec1 ((a+1),(put b a c.1)))∧
 (¬(a<((List.replicate (x0.Words.length:Int).toNat (0#64:BitVec 64)).length:Int))→
 Φ ((q9.mk x0.Size b),0))
def q179(x0:q9)(x1:q9)(Φ:q9×Int→Prop):Prop:=
 Z22 x0 fun a=>
 (a≠0→
 Φ ((q9.mk 0 ([]:List (BitVec 64))),a))∧
 (¬(a≠0)→
 Z22 x1 fun b=>
 (b≠0→
 Φ ((q9.mk 0 ([]:List (BitVec 64))),b))∧
 (¬(b≠0)→
 (x0.Size≠x1.Size→
 Φ ((q9.mk 0 ([]:List (BitVec 64))),22))∧
 (¬(x0.Size≠x1.Size)→
 0≤(x0.Words.length:Int)∧
 lenOk (x0.Words.length:Int).toNat 8∧
 LoopW (q508 x0 x1 Φ) (0,(List.replicate (x0.Words.length:Int).toNat (0#64:BitVec 64))))))
def Z59(x0:BitVec 64)(Φ:Int→Prop):Prop:=x0≠0#64∧Φ (Lib.ctz 64 x0.toNat:Int)
def Z60(a:Int)(rec1:(List (Int×Unit)×Int)→Prop):(List (Int×Unit)×BitVec 64)→((List (Int×Unit)×BitVec 64)→Prop)→Prop
 | (l2,b),rec2=>
 (b≠(0#64)→
 inI (a*64)∧
 ∃ c:Int×Unit,Z59 b (fun z=>(z,())=c)∧
 inI ((a*64)+c.1)∧
 Yl l2 fun d r7=>(((a*64)+c.1),())=d∧(
 rec2 (r7,(b &&&(b-(1#64)))))∧(
 True))∧
 (¬(b≠(0#64))→
 inI (a+1)∧
 rec1 (l2,(a+1)))
def Z61(x0:q9)(x1:Int):(List (Int×Unit)×Int)→((List (Int×Unit)×Int)→Prop)→Prop
 | (l1,a),rec1=>
 (a<(x0.Words.length:Int)→
 inX a x0.Words.length∧
 ∃ b:BitVec 64×Unit,q120 a x1 x0.Size (fun z=>(z,())=b)∧
 LoopW (Z60 a rec1) (l1,((ix x0.Words a) &&&b.1)))∧
 (¬(a<(x0.Words.length:Int))→
 l1=[])
def q87(x0:q9)(x1:Int)(l:List (Int×Unit)):Prop:=
 ∃ a:Int×Unit,Z22 x0 (fun z=>(z,())=a)∧
 (a.1≠0→
 l=[])∧
 (¬(a.1≠0)→
 LoopW (Z61 x0 x1) (l,0))
def Z62(Φ:List q8→Prop):(List (Int×Unit)×List q8)→((List (Int×Unit)×List q8)→Prop)→Prop
 | (lst,a),rec1=>
 match lst with
 | []=>
 Φ a
 | b::r3=>
 (0<(a.length:Int)→
 inI ((a.length:Int)-1)∧
 inX ((a.length:Int)-1) a.length∧
 inI ((a.length:Int)-1)∧
 inX ((a.length:Int)-1) a.length∧
 inI (((ix a ((a.length:Int)-1)).Start)+((ix a ((a.length:Int)-1)).Count))∧
 ((((ix a ((a.length:Int)-1)).Start)+((ix a ((a.length:Int)-1)).Count))=b.1→
 inI ((a.length:Int)-1)∧
 inX ((a.length:Int)-1) a.length∧
 inI (((ix a ((a.length:Int)-1)).Count)+1)∧
 inX ((a.length:Int)-1) a.length∧
 rec1 (r3,(put a ((a.length:Int)-1) (q8.mk ((ix a ((a.length:Int)-1)).Start) (((ix a ((a.length:Int)-1)).Count)+1)))))∧
 (¬((((ix a ((a.length:Int)-1)).Start)+((ix a ((a.length:Int)-1)).Count))=b.1)→
 lenOk (a++([(q8.mk b.1 1)]:List q8)).length 16∧
 rec1 (r3,(a++([(q8.mk b.1 1)]:List q8)))))∧
 (¬(0<(a.length:Int))→
 lenOk (a++([(q8.mk b.1 1)]:List q8)).length 16∧
 rec1 (r3,(a++([(q8.mk b.1 1)]:List q8))))
def Z63(x0:q9)(Φ:List q8→Prop):Prop:=
 ∃ l4:List (Int×Unit),q87 x0 0 l4∧
 LoopW (Z62 Φ) (l4,([]:List q8))
def Z64(x0:q14)(x1:q14)(Φ:List (List q8)→Prop):(Int×List (List q8))→((Int×List (List q8))→Prop)→Prop
 | (a,b),rec1=>
 (a<((List.replicate (x0.Dirty.length:Int).toNat (([]:List q8):List q8)).length:Int)→
 inX a x0.Dirty.length∧
 inX a x1.Dirty.length∧
 ∃ c:q9×Int×Unit,q179 (ix x0.Dirty a) (ix x1.Dirty a) (fun z=>(z.1,z.2,())=c)∧
 Z63 c.1 fun d=>
 inX a b.length∧
 inI (a+1)∧
 rec1 ((a+1),(put b a d)))∧
 (¬(a<((List.replicate (x0.Dirty.length:Int).toNat (([]:List q8):List q8)).length:Int))→
 Φ b)
def Z65(x0:q14)(x1:q14)(Φ:List (List q8)→Prop):Prop:=
 0≤(x0.Dirty.length:Int)∧
 lenOk (x0.Dirty.length:Int).toNat 24∧
 LoopW (Z64 x0 x1 Φ) (0,(List.replicate (x0.Dirty.length:Int).toNat (([]:List q8):List q8)))
def Z66(x0:Int)(x1:List Sec)(x2:List Sec)(x3:q8)(Φ:List q10→Prop):(Int×List q10×List Sec)→((Int×List q10×List Sec)→Prop)→Prop
 | (b,a,c),rec1=>
 inI (x3.Start+x3.Count)∧
 (b<(x3.Start+x3.Count)→
 inX b x1.length∧
 inX b x2.length∧
 ((ix x1 b)=(ix x2 b)→
 inI (b+1)∧
 rec1 ((b+1),a,c))∧
 (¬((ix x1 b)=(ix x2 b))→
 (0<(a.length:Int)→
 inI ((a.length:Int)-1)∧
 inX ((a.length:Int)-1) a.length∧
 ((a.length:Int)-1)+1=(a.length:Int)∧
 inI ((a.length:Int)-1)∧
 inX ((a.length:Int)-1) a.length∧
 ((a.length:Int)-1)+1=(a.length:Int)∧
 inI (((ix a ((a.length:Int)-1)).Start)+(c.length:Int))∧
 ((((ix a ((a.length:Int)-1)).Start)+(c.length:Int))=b→
 inI ((a.length:Int)-1)∧
 inI ((a.length:Int)-1)∧
 inX ((a.length:Int)-1) a.length∧
 ((a.length:Int)-1)+1=(a.length:Int)∧
 inX b x1.length∧
 lenOk (c++([(ix x1 b)]:List Sec)).length 8∧
 inX ((a.length:Int)-1) a.length∧
 ((a.length:Int)-1)+1=(a.length:Int)∧
 inI (b+1)∧
 rec1 ((b+1),a,(c++([(ix x1 b)]:List Sec))))∧
 (¬((((ix a ((a.length:Int)-1)).Start)+(c.length:Int))=b)→
 inX b x1.length∧
 lenOk ((put a ((a.length:Int)-1) (q10.mk ((ix a ((a.length:Int)-1)).Volume) ((ix a ((a.length:Int)-1)).Start) c))++([(q10.mk x0 b ([]:List Sec))]:List q10)).length 40∧
 inI (b+1)∧
 rec1 ((b+1),((put a ((a.length:Int)-1) (q10.mk ((ix a ((a.length:Int)-1)).Volume) ((ix a ((a.length:Int)-1)).Start) c))++([(q10.mk x0 b ([]:List Sec))]:List q10)),([(ix x1 b)]:List Sec))))∧
 (¬(0<(a.length:Int))→
 inX b x1.length∧
 lenOk ((put a ((a.length:Int)-1) (q10.mk ((ix a ((a.length:Int)-1)).Volume) ((ix a ((a.length:Int)-1)).Start) c))++([(q10.mk x0 b ([]:List Sec))]:List q10)).length 40∧
 inI (b+1)∧
 rec1 ((b+1),((put a ((a.length:Int)-1) (q10.mk ((ix a ((a.length:Int)-1)).Volume) ((ix a ((a.length:Int)-1)).Start) c))++([(q10.mk x0 b ([]:List Sec))]:List q10)),([(ix x1 b)]:List Sec)))))∧
 (¬(b<(x3.Start+x3.Count))→
 Φ (put a ((a.length:Int)-1) (q10.mk ((ix a ((a.length:Int)-1)).Volume) ((ix a ((a.length:Int)-1)).Start) c)))
def Z67(x0:Int)(x1:List Sec)(x2:List Sec)(x3:q8)(Φ:List q10→Prop):Prop:=
 LoopW (Z66 x0 x1 x2 x3 Φ) (x3.Start,([]:List q10),([]:List Sec))
def Z68(x0:List q14)(x1:Int)(x2:Int)(c:List (List q8))(a:Int)(rec2:(Int×List q10)→Prop)(_:List q10×Int→Prop):(Int×List q10)→((Int×List q10)→Prop)→Prop
 | (b,d),rec3=>
 (b<((ix c a).length:Int)→
 inX b (ix c a).length∧
 inX a ((ix x0 x1).Image).length∧
 inX a ((ix x0 x2).Image).length∧
 ∃ e:List q10×Unit,Z67 a (ix ((ix x0 x1).Image) a) (ix ((ix x0 x2).Image) a) (ix (ix c a) b) (fun z=>(z,())=e)∧
 lenOk (d++e.1).length 40∧
 inI (b+1)∧
 rec3 ((b+1),(d++e.1)))∧
 (¬(b<((ix c a).length:Int))→
 inI (a+1)∧
 rec2 ((a+1),d))
def Z69(x0:List q14)(x1:Int)(x2:Int)(a:List (List q8))(Φ:List q10×Int→Prop):(Int×List q10)→((Int×List q10)→Prop)→Prop
 | (b,c),rec2=>
 (b<(a.length:Int)→
 inX b a.length∧
 LoopW (Z68 x0 x1 x2 a b rec2 Φ) (0,c))∧
 (¬(b<(a.length:Int))→
 Φ (c,0))
def Z70(x0:List q14)(x1:Int)(x2:Int)(Φ:List q10×Int→Prop):Bool→Prop
 | a=>
 (a=true→
 Φ (([]:List q10),7))∧
 (¬(a=true)→
 inX x1 x0.length∧
 inX x2 x0.length∧
 Z65 (ix x0 x1) (ix x0 x2) fun b=>
 LoopW (Z69 x0 x1 x2 b Φ) (0,([]:List q10)))
def Z71(x0:List q14)(x1:Int)(x2:Int)(Φ:List q10×Int→Prop):Prop:=
 q178 x0 fun a=>
 (a≠0→
 Φ (([]:List q10),a))∧
 (¬(a≠0)→
 Join (Z70 x0 x1 x2 Φ) fun J1=>
 ((if x2<x1 then x2 else x1)<0→
 J1 true)∧
 (¬((if x2<x1 then x2 else x1)<0)→
 J1 (decide ((x0.length:Int)≤(if x1<x2 then x2 else x1)))))
def Z72(x0:List Sec)(x1:List Sec)(Φ:Bool→Prop):(Int)→((Int)→Prop)→Prop
 | a,rec1=>
 (a<(x0.length:Int)→
 inX a x0.length∧
 inX a x1.length∧
 ((ix x0 a)≠(ix x1 a)→
 Φ false)∧
 (¬((ix x0 a)≠(ix x1 a))→
 inI (a+1)∧
 rec1 (a+1)))∧
 (¬(a<(x0.length:Int))→
 Φ true)
def Z73(x0:List Sec)(x1:List Sec)(Φ:Bool→Prop):Prop:=
 ((x0.length:Int)≠(x1.length:Int)→
 Φ false)∧
 (¬((x0.length:Int)≠(x1.length:Int))→
 LoopW (Z72 x0 x1 Φ) 0)
def Z74(x0:List q10)(x1:List q10)(Φ:Bool→Prop):(Int)→((Int)→Prop)→Prop
 | a,rec1=>
 (a<(x0.length:Int)→
 inX a x0.length∧
 inX a x1.length∧
 (((ix x0 a).Volume)≠((ix x1 a).Volume)→
 Φ false)∧
 (¬(((ix x0 a).Volume)≠((ix x1 a).Volume))→
 inX a x0.length∧
 inX a x1.length∧
 (((ix x0 a).Start)≠((ix x1 a).Start)→
 Φ false)∧
 (¬(((ix x0 a).Start)≠((ix x1 a).Start))→
 inX a x0.length∧
 inX a x1.length∧
 ∃ b:Bool×Unit,Z73 ((ix x0 a).Data) ((ix x1 a).Data) (fun z=>(z,())=b)∧
 (¬(b.1=true)→
 Φ false)∧
 (¬(¬(b.1=true))→
 inI (a+1)∧
 rec1 (a+1)))))∧
 (¬(a<(x0.length:Int))→
 Φ true)
def Z75(x0:List q10)(x1:List q10)(Φ:Bool→Prop):Prop:=
 ((x0.length:Int)≠(x1.length:Int)→
 Φ false)∧
 (¬((x0.length:Int)≠(x1.length:Int))→
 LoopW (Z74 x0 x1 Φ) 0)
def q306(x0:List q10)(x1:List q10)(Φ:Bool→Prop):Prop:=
 Z75 x0 x1 fun a=>
 Φ a
def Z76(Φ:Bool→Prop):Prop:=
 Z0 fun f=>
 q57 f fun a=>
 (a.2≠0→
 Φ false)∧
 (¬(a.2≠0)→
 Z45 0 a.1 ([(q11.mk (0#8) (0#8) (0#8) (0#8) (5#8))]:List q11) 1 2 fun b=>
 Z45 1 a.1 ([]:List q11) 1 1 fun c=>
 Z58 ([b.1,c.1]:List q14) ([false,false]:List Bool) fun d=>
 Z71 ([b.1,c.1]:List q14) 0 1 fun e=>
 (b.2=true→
 (c.2=true→
 (d.2=0→
 (e.2=0→
 (d.1=0→
 q306 e.1 ([(q10.mk 0 0 ([(Sec.mk (5#8) (0#8) (0#8) (0#8) (0#8) (0#8) (0#8) (0#8))]:List Sec))]:List q10) fun g=>
 Φ g)∧
 (¬(d.1=0)→
 Φ false))∧
 (¬(e.2=0)→
 Φ false))∧
 (¬(d.2=0)→
 Φ false))∧
 (¬(c.2=true)→
 Φ false))∧
 (¬(b.2=true)→
 Φ false))
def Z77(x1:Int)(Φ:Int→Prop):Bool→Prop
 | a=>
 (a=true→
 Φ 2)∧
 (¬(a=true)→
 (x1<1→
 Φ 1)∧
 (¬(x1<1)→
 (4096<x1→
 Φ 1)∧
 (¬(4096<x1)→
 Φ 0)))
def Z78(x0:Int)(x1:Int)(Φ:Int→Prop):Prop:=
 Join (Z77 x1 Φ) fun J1=>
 (x0<1→
 J1 true)∧
 (¬(x0<1)→
 J1 (decide (4096<x0)))
def Z79(x0:List Sec)(x1:Int):(List (List Sec×Unit)×Int)→((List (List Sec×Unit)×Int)→Prop)→Prop
 | (l1,a),rec1=>
 (a<(x0.length:Int)→
 inS a (x0.length:Int) x0.length∧
 inI (a+(if((sub x0 a (x0.length:Int)).length:Int)<x1 then((sub x0 a (x0.length:Int)).length:Int) else x1))∧
 inI (a+(if((sub x0 a (x0.length:Int)).length:Int)<x1 then((sub x0 a (x0.length:Int)).length:Int) else x1))∧
 inS a (a+(if((sub x0 a (x0.length:Int)).length:Int)<x1 then((sub x0 a (x0.length:Int)).length:Int) else x1)) x0.length∧
 inS (a+(if((sub x0 a (x0.length:Int)).length:Int)<x1 then((sub x0 a (x0.length:Int)).length:Int) else x1)) (a+(if((sub x0 a (x0.length:Int)).length:Int)<x1 then((sub x0 a (x0.length:Int)).length:Int) else x1)) x0.length∧
 Yl l1 fun b r3=>((sub x0 a (a+(if((sub x0 a (x0.length:Int)).length:Int)<x1 then((sub x0 a (x0.length:Int)).length:Int) else x1))),())=b∧(
 inI (a+x1)∧
 rec1 (r3,(a+x1)))∧(
 True))∧
 (¬(a<(x0.length:Int))→
 l1=[])
def q28(x0:List Sec)(x1:Int)(l:List (List Sec×Unit)):Prop:=
 LoopW (Z79 x0 x1) (l,0)
def Z80(x0:List Sec)(a:Int)(rec1:(Int×BitVec 64)→Prop)(_:BitVec 64→Prop):(Int×BitVec 64)→((Int×BitVec 64)→Prop)→Prop
 | (b,c),rec2=>
 (b<8→
 ((0:Int)≤b∧b<(8:Int))∧
 inI (b+1)∧
 rec2 ((b+1),((c ^^^ ((ix ([(ix x0 a).b0,(ix x0 a).b1,(ix x0 a).b2,(ix x0 a).b3,(ix x0 a).b4,(ix x0 a).b5,(ix x0 a).b6,(ix x0 a).b7]:List (BitVec 8)) b).setWidth 64))*(1099511628211#64))))∧
 (¬(b<8)→
 inI (a+1)∧
 rec1 ((a+1),c))
def Z81(x0:List Sec)(Φ:BitVec 64→Prop):(Int×BitVec 64)→((Int×BitVec 64)→Prop)→Prop
 | (a,b),rec1=>
 (a<(x0.length:Int)→
 inX a x0.length∧
 LoopW (Z80 x0 a rec1 Φ) (0,b))∧
 (¬(a<(x0.length:Int))→
 Φ (b ^^^ (b >>> ((32#64).toNat:Int).toNat)))
def Z82(x0:List Sec)(Φ:BitVec 64→Prop):Prop:=
 LoopW (Z81 x0 Φ) (0,14695981039346656037#64)
def Z83(x0:List (BitVec 8)):(List (BitVec 8×Unit)×Int)→((List (BitVec 8×Unit)×Int)→Prop)→Prop
 | (l1,a),rec1=>
 (a<(x0.length:Int)→
 inX a x0.length∧
 Yl l1 fun b r3=>((ix x0 a),())=b∧(
 inI (a+1)∧
 rec1 (r3,(a+1)))∧(
 True))∧
 (¬(a<(x0.length:Int))→
 l1=[])
def q132(x0:List (BitVec 8))(l:List (BitVec 8×Unit)):Prop:=
 LoopW (Z83 x0) (l,0)
def Z84(Φ:BitVec 64→Prop):(List (BitVec 8×Unit)×BitVec 64)→((List (BitVec 8×Unit)×BitVec 64)→Prop)→Prop
 | (lst,a),rec1=>
 match lst with
 | []=>
 Φ (a ^^^ (a >>> ((32#64).toNat:Int).toNat))
 | b::r3=>
 rec1 (r3,((a ^^^ (b.1.setWidth 64))*(1099511628211#64)))
def Z85(x0:List (BitVec 8))(Φ:BitVec 64→Prop):Prop:=
 ∃ l4:List (BitVec 8×Unit),q132 x0 l4∧
 LoopW (Z84 Φ) (l4,(14695981039346656037#64))
def Z86(Φ:BitVec 64→Prop):BitVec 8×BitVec 8×BitVec 8×BitVec 8×BitVec 8×BitVec 8×BitVec 8×BitVec 8×BitVec 8×BitVec 8×BitVec 8×BitVec 8×BitVec 8×BitVec 8×BitVec 8×BitVec 8→Prop
 | (a,b,c,d,e,f,g,h,i,j,k,l,m,n,o,p)=>
 Z85 ([a,b,c,d,e,f,g,h,i,j,k,l,m,n,o,p]:List (BitVec 8)) fun q=>
 Φ q
def Z87(x0:BitVec 64)(x1:BitVec 64)(Φ:BitVec 64→Prop):Prop:=
 Join (Z86 Φ) fun J1=>
 ((0:Int)<8→
 inI ((8:Int)+0)∧
 inI ((8:Int)*0)∧
 (0:Int)≤0∧
 inI ((8:Int)*0)∧
 (0:Int)≤0∧
 ((0:Int)≤0∧0<(16:Int))∧
 ((0:Int)≤8∧8<(16:Int))∧
 inI ((0:Int)+1)∧
 ((1:Int)<8→
 inI ((8:Int)+1)∧
 inI ((8:Int)*1)∧
 (0:Int)≤8∧
 inI ((8:Int)*1)∧
 (0:Int)≤8∧
 ((0:Int)≤1∧1<(16:Int))∧
 ((0:Int)≤9∧9<(16:Int))∧
 inI ((1:Int)+1)∧
 ((2:Int)<8→
 inI ((8:Int)+2)∧
 inI ((8:Int)*2)∧
 (0:Int)≤16∧
 inI ((8:Int)*2)∧
 (0:Int)≤16∧
 ((0:Int)≤2∧2<(16:Int))∧
 ((0:Int)≤10∧10<(16:Int))∧
 inI ((2:Int)+1)∧
 ((3:Int)<8→
 inI ((8:Int)+3)∧
 inI ((8:Int)*3)∧
 (0:Int)≤24∧
 inI ((8:Int)*3)∧
 (0:Int)≤24∧
 ((0:Int)≤3∧3<(16:Int))∧
 ((0:Int)≤11∧11<(16:Int))∧
 inI ((3:Int)+1)∧
 ((4:Int)<8→
 inI ((8:Int)+4)∧
 inI ((8:Int)*4)∧
 (0:Int)≤32∧
 inI ((8:Int)*4)∧
 (0:Int)≤32∧
 ((0:Int)≤4∧4<(16:Int))∧
 ((0:Int)≤12∧12<(16:Int))∧
 inI ((4:Int)+1)∧
 ((5:Int)<8→
 inI ((8:Int)+5)∧
 inI ((8:Int)*5)∧
 (0:Int)≤40∧
 inI ((8:Int)*5)∧
 (0:Int)≤40∧
 ((0:Int)≤5∧5<(16:Int))∧
 ((0:Int)≤13∧13<(16:Int))∧
 inI ((5:Int)+1)∧
 ((6:Int)<8→
 inI ((8:Int)+6)∧
 inI ((8:Int)*6)∧
 (0:Int)≤48∧
 inI ((8:Int)*6)∧
 (0:Int)≤48∧
 ((0:Int)≤6∧6<(16:Int))∧
 ((0:Int)≤14∧14<(16:Int))∧
 inI ((6:Int)+1)∧
 ((7:Int)<8→
 inI ((8:Int)+7)∧
 inI ((8:Int)*7)∧
 (0:Int)≤56∧
 inI ((8:Int)*7)∧
 (0:Int)≤56∧
 ((0:Int)≤7∧7<(16:Int))∧
 ((0:Int)≤15∧15<(16:Int))∧
 inI ((7:Int)+1)∧
 ((8:Int)<8→
 inI ((8:Int)+8)∧
 inI ((8:Int)*8)∧
 (0:Int)≤64∧
 inI ((8:Int)*8)∧
 (0:Int)≤64∧
 ((0:Int)≤8∧8<(16:Int))∧
 ((0:Int)≤16∧16<(16:Int))∧
 False)∧
 (¬((8:Int)<8)→
 J1 (((x0 >>> (0:Int).toNat).setWidth 8),((x0 >>> (8:Int).toNat).setWidth 8),((x0 >>> (16:Int).toNat).setWidth 8),((x0 >>> (24:Int).toNat).setWidth 8),((x0 >>> (32:Int).toNat).setWidth 8),((x0 >>> (40:Int).toNat).setWidth 8),((x0 >>> (48:Int).toNat).setWidth 8),((x0 >>> (56:Int).toNat).setWidth 8),((x1 >>> (0:Int).toNat).setWidth 8),((x1 >>> (8:Int).toNat).setWidth 8),((x1 >>> (16:Int).toNat).setWidth 8),((x1 >>> (24:Int).toNat).setWidth 8),((x1 >>> (32:Int).toNat).setWidth 8),((x1 >>> (40:Int).toNat).setWidth 8),((x1 >>> (48:Int).toNat).setWidth 8),((x1 >>> (56:Int).toNat).setWidth 8))))∧
 (¬((7:Int)<8)→
 J1 (((x0 >>> (0:Int).toNat).setWidth 8),((x0 >>> (8:Int).toNat).setWidth 8),((x0 >>> (16:Int).toNat).setWidth 8),((x0 >>> (24:Int).toNat).setWidth 8),((x0 >>> (32:Int).toNat).setWidth 8),((x0 >>> (40:Int).toNat).setWidth 8),((x0 >>> (48:Int).toNat).setWidth 8),0#8,((x1 >>> (0:Int).toNat).setWidth 8),((x1 >>> (8:Int).toNat).setWidth 8),((x1 >>> (16:Int).toNat).setWidth 8),((x1 >>> (24:Int).toNat).setWidth 8),((x1 >>> (32:Int).toNat).setWidth 8),((x1 >>> (40:Int).toNat).setWidth 8),((x1 >>> (48:Int).toNat).setWidth 8),0#8)))∧
 (¬((6:Int)<8)→
 J1 (((x0 >>> (0:Int).toNat).setWidth 8),((x0 >>> (8:Int).toNat).setWidth 8),((x0 >>> (16:Int).toNat).setWidth 8),((x0 >>> (24:Int).toNat).setWidth 8),((x0 >>> (32:Int).toNat).setWidth 8),((x0 >>> (40:Int).toNat).setWidth 8),0#8,0#8,((x1 >>> (0:Int).toNat).setWidth 8),((x1 >>> (8:Int).toNat).setWidth 8),((x1 >>> (16:Int).toNat).setWidth 8),((x1 >>> (24:Int).toNat).setWidth 8),((x1 >>> (32:Int).toNat).setWidth 8),((x1 >>> (40:Int).toNat).setWidth 8),0#8,0#8)))∧
 (¬((5:Int)<8)→
 J1 (((x0 >>> (0:Int).toNat).setWidth 8),((x0 >>> (8:Int).toNat).setWidth 8),((x0 >>> (16:Int).toNat).setWidth 8),((x0 >>> (24:Int).toNat).setWidth 8),((x0 >>> (32:Int).toNat).setWidth 8),0#8,0#8,0#8,((x1 >>> (0:Int).toNat).setWidth 8),((x1 >>> (8:Int).toNat).setWidth 8),((x1 >>> (16:Int).toNat).setWidth 8),((x1 >>> (24:Int).toNat).setWidth 8),((x1 >>> (32:Int).toNat).setWidth 8),0#8,0#8,0#8)))∧
 (¬((4:Int)<8)→
 J1 (((x0 >>> (0:Int).toNat).setWidth 8),((x0 >>> (8:Int).toNat).setWidth 8),((x0 >>> (16:Int).toNat).setWidth 8),((x0 >>> (24:Int).toNat).setWidth 8),0#8,0#8,0#8,0#8,((x1 >>> (0:Int).toNat).setWidth 8),((x1 >>> (8:Int).toNat).setWidth 8),((x1 >>> (16:Int).toNat).setWidth 8),((x1 >>> (24:Int).toNat).setWidth 8),0#8,0#8,0#8,0#8)))∧
 (¬((3:Int)<8)→
 J1 (((x0 >>> (0:Int).toNat).setWidth 8),((x0 >>> (8:Int).toNat).setWidth 8),((x0 >>> (16:Int).toNat).setWidth 8),0#8,0#8,0#8,0#8,0#8,((x1 >>> (0:Int).toNat).setWidth 8),((x1 >>> (8:Int).toNat).setWidth 8),((x1 >>> (16:Int).toNat).setWidth 8),0#8,0#8,0#8,0#8,0#8)))∧
 (¬((2:Int)<8)→
 J1 (((x0 >>> (0:Int).toNat).setWidth 8),((x0 >>> (8:Int).toNat).setWidth 8),0#8,0#8,0#8,0#8,0#8,0#8,((x1 >>> (0:Int).toNat).setWidth 8),((x1 >>> (8:Int).toNat).setWidth 8),0#8,0#8,0#8,0#8,0#8,0#8)))∧
 (¬((1:Int)<8)→
 J1 (((x0 >>> (0:Int).toNat).setWidth 8),0#8,0#8,0#8,0#8,0#8,0#8,0#8,((x1 >>> (0:Int).toNat).setWidth 8),0#8,0#8,0#8,0#8,0#8,0#8,0#8)))∧
 (¬((0:Int)<8)→
 J1 (0#8,0#8,0#8,0#8,0#8,0#8,0#8,0#8,0#8,0#8,0#8,0#8,0#8,0#8,0#8,0#8))
def Z88(b:List (BitVec 64))(e:List (List (BitVec 64)))(rec1:(List (BitVec 64)×List (List (BitVec 64)))→Prop)(_:q17→Prop):(Int×List (BitVec 64))→((Int×List (BitVec 64))→Prop)→Prop
 | (a,c),rec2=>
 (a<(b.length:Int)→
 inI (a+1)∧
 ((a+1)<(b.length:Int)→
 inX a b.length∧
 inI (a+1)∧
 inX (a+1) b.length∧
 ∃ d:BitVec 64×Unit,Z87 (ix b a) (ix b (a+1)) (fun z=>(z,())=d)∧
 lenOk (c++([d.1]:List (BitVec 64))).length 8∧
 inI (a+2)∧
 rec2 ((a+2),(c++([d.1]:List (BitVec 64)))))∧
 (¬((a+1)<(b.length:Int))→
 inX a b.length∧
 lenOk (c++([(ix b a)]:List (BitVec 64))).length 8∧
 inI (a+2)∧
 rec2 ((a+2),(c++([(ix b a)]:List (BitVec 64))))))∧
 (¬(a<(b.length:Int))→
 rec1 (c,(e++([b]:List (List (BitVec 64))))))
def Z89(x0:Int)(x1:Int)(Φ:q17→Prop):(List (BitVec 64)×List (List (BitVec 64)))→((List (BitVec 64)×List (List (BitVec 64)))→Prop)→Prop
 | (a,b),rec1=>
 lenOk (b++([a]:List (List (BitVec 64)))).length 24∧
 ((a.length:Int)=1→
 Φ (q17.mk x0 x1 (b++([a]:List (List (BitVec 64))))))∧
 (¬((a.length:Int)=1)→
 LoopW (Z88 a b rec1 Φ) (0,([]:List (BitVec 64))))
def Z90(x0:Int)(x1:Int)(x2:List (BitVec 64))(Φ:q17→Prop):Prop:=
 LoopW (Z89 x0 x1 Φ) (x2,([]:List (List (BitVec 64))))
def Z91(x0:List Sec)(x1:Int)(Φ:q17×Int→Prop):(List (List Sec×Unit)×List (BitVec 64))→((List (List Sec×Unit)×List (BitVec 64))→Prop)→Prop
 | (lst,a),rec1=>
 match lst with
 | []=>
 Z90 (x0.length:Int) x1 a fun c=>
 Φ (c,0)
 | d::r4=>
 ∃ b:BitVec 64×Unit,Z82 d.1 (fun z=>(z,())=b)∧
 lenOk (a++([b.1]:List (BitVec 64))).length 8∧
 rec1 (r4,(a++([b.1]:List (BitVec 64))))
def Z92(x0:List Sec)(x1:Int)(Φ:q17×Int→Prop):Prop:=
 Z78 (x0.length:Int) x1 fun a=>
 (a≠0→
 Φ ((q17.mk 0 0 ([]:List (List (BitVec 64)))),a))∧
 (¬(a≠0)→
 (x1<1→
 False)∧
 (¬(x1<1)→
 ∃ l7:List (List Sec×Unit),q28 x0 x1 l7∧
 LoopW (Z91 x0 x1 Φ) (l7,([]:List (BitVec 64)))))
def Z93(x0:Int)(x1:Int)(Φ:Int→Prop):Prop:=
 inI (x0+x1)∧
 inI ((x0+x1)-1)∧
 (0≤((x0+x1)-1)∧inI ((x0+x1)-1)∧(0:Int)<x1)∧
 Φ (((x0+x1)-1) / x1)
def Z94(x0:List (BitVec 64))(x1:List (BitVec 64))(Φ:Bool→Prop):(Int)→((Int)→Prop)→Prop
 | a,rec1=>
 (a<(x0.length:Int)→
 inX a x0.length∧
 inX a x1.length∧
 ((ix x0 a)≠(ix x1 a)→
 Φ false)∧
 (¬((ix x0 a)≠(ix x1 a))→
 inI (a+1)∧
 rec1 (a+1)))∧
 (¬(a<(x0.length:Int))→
 Φ true)
def Z95(x0:List (BitVec 64))(x1:List (BitVec 64))(Φ:Bool→Prop):Prop:=
 ((x0.length:Int)≠(x1.length:Int)→
 Φ false)∧
 (¬((x0.length:Int)≠(x1.length:Int))→
 LoopW (Z94 x0 x1 Φ) 0)
def Z96(a:Int)(b:Int)(rec1:(Int×Int)→Prop)(_:Int→Prop):Unit→Prop
 | _=>
 (a=1→
 inI ((0:Int)+1)∧
 (0≤((0:Int)+1)∧inI ((0:Int)+1)∧(0:Int)<2)∧
 inI (b+1)∧
 rec1 ((((0:Int)+1) / 2),(b+1)))∧
 (¬(a=1)→
 inI (a+1)∧
 (0≤(a+1)∧inI (a+1)∧(0:Int)<2)∧
 inI (b+1)∧
 rec1 (((a+1) / 2),(b+1)))
def Z97(x0:q17)(b:q17×Unit)(Φ:Int→Prop):(Int)→((Int)→Prop)→Prop
 | a,rec3=>
 (a<(b.1.Levels.length:Int)→
 inX a b.1.Levels.length∧
 inX a x0.Levels.length∧
 Z95 (ix b.1.Levels a) (ix x0.Levels a) fun c=>
 (¬(c=true)→
 Φ 22)∧
 (¬(¬(c=true))→
 inI (a+1)∧
 rec3 (a+1)))∧
 (¬(a<(b.1.Levels.length:Int))→
 Φ 0)
def Z98(x0:q17)(Φ:Int→Prop):(Int×Int)→((Int×Int)→Prop)→Prop
 | (b,a),rec1=>
 (a<(x0.Levels.length:Int)→
 inX a x0.Levels.length∧
 Join (Z96 b a rec1 Φ) fun J2=>
 (((ix x0.Levels a).length:Int)≠b→
 Φ 3)∧
 (¬(((ix x0.Levels a).length:Int)≠b)→
 (b=1→
 inI (a+1)∧
 ((a+1)<(x0.Levels.length:Int)→
 Φ 3)∧
 (¬((a+1)<(x0.Levels.length:Int))→
 J2 ()))∧
 (¬(b=1)→
 J2 ())))∧
 (¬(a<(x0.Levels.length:Int))→
 (b≠0→
 Φ 3)∧
 (¬(b≠0)→
 inX 0 x0.Levels.length∧
 ∃ c:q17×Unit,Z90 x0.Size x0.Leaf (ix x0.Levels 0) (fun z=>(z,())=c)∧
 ((c.1.Levels.length:Int)≠(x0.Levels.length:Int)→
 Φ 22)∧
 (¬((c.1.Levels.length:Int)≠(x0.Levels.length:Int))→
 LoopW (Z97 x0 c Φ) 0)))
def Z99(x0:q17)(Φ:Int→Prop):Prop:=
 Z78 x0.Size x0.Leaf fun a=>
 (a≠0→
 Φ a)∧
 (¬(a≠0)→
 Z93 x0.Size x0.Leaf fun b=>
 LoopW (Z98 x0 Φ) (b,0))
def Z100(x0:q17)(Φ:q17→Prop):(Int×List (List (BitVec 64)))→((Int×List (List (BitVec 64)))→Prop)→Prop
 | (a,b),rec1=>
 (a<(x0.Levels.length:Int)→
 inX a x0.Levels.length∧
 Z28 (ix x0.Levels a) fun c=>
 lenOk (b++([c]:List (List (BitVec 64)))).length 24∧
 inI (a+1)∧
 rec1 ((a+1),(b++([c]:List (List (BitVec 64))))))∧
 (¬(a<(x0.Levels.length:Int))→
 Φ (q17.mk x0.Size x0.Leaf b))
def Z101(x0:q17)(Φ:q17→Prop):Prop:=
 0≤(x0.Levels.length:Int)∧
 lenOk (x0.Levels.length:Int).toNat 24∧
 LoopW (Z100 x0 Φ) (0,([]:List (List (BitVec 64))))
def Z102(x0:Ptr q40)(Φ:q12→Prop):(Int×List Int)→((Int×List Int)→Prop)→Prop
 | (a,b),rec1=>
 (a<(x0.val.Walk.Pending.length:Int)→
 inX a x0.val.Walk.Pending.length∧
 lenOk (b++([(ix x0.val.Walk.Pending a).Start,(ix x0.val.Walk.Pending a).Count]:List Int)).length 8∧
 inI (a+1)∧
 rec1 ((a+1),(b++([(ix x0.val.Walk.Pending a).Start,(ix x0.val.Walk.Pending a).Count]:List Int))))∧
 (¬(a<(x0.val.Walk.Pending.length:Int))→
 Φ (q12.mk 13 0 0 x0.val.Walk.Level 0 0 b ([]:List (BitVec 8))))
def Z103(x0:Ptr q40)(Φ:q12→Prop):Prop:=
 LoopW (Z102 x0 Φ) (0,([x0.val.Walk.Tree.Size,x0.val.Walk.Tree.Leaf]:List Int))
def Z104(x0:q17)(Φ:q18×List q12×Int→Prop):Prop:=
 Z99 x0 fun a=>
 (a≠0→
 Φ ((q18.mk (q17.mk 0 0 ([]:List (List (BitVec 64)))) ([]:List q8) 0 ([]:List q8) 0 false),([]:List q12),a))∧
 (¬(a≠0)→
 ∃ b:q17×Unit,Z101 x0 (fun z=>(z,())=b)∧
 inI ((x0.Levels.length:Int)-1)∧
 ∃ c:q12×Unit,Z103 (Ptr.mk (q40.mk (q18.mk b.1 ([(q8.mk 0 1)]:List q8) ((x0.Levels.length:Int)-1) ([]:List q8) 0 false))) (fun z=>(z,())=c)∧
 Φ ((q18.mk b.1 ([(q8.mk 0 1)]:List q8) ((x0.Levels.length:Int)-1) ([]:List q8) 0 false),([c.1]:List q12),0))
def Z105(x0:List Int)(x1:Int):(List (List Int×Unit)×Int)→((List (List Int×Unit)×Int)→Prop)→Prop
 | (l1,a),rec1=>
 (a<(x0.length:Int)→
 inS a (x0.length:Int) x0.length∧
 inI (a+(if((sub x0 a (x0.length:Int)).length:Int)<x1 then((sub x0 a (x0.length:Int)).length:Int) else x1))∧
 inI (a+(if((sub x0 a (x0.length:Int)).length:Int)<x1 then((sub x0 a (x0.length:Int)).length:Int) else x1))∧
 inS a (a+(if((sub x0 a (x0.length:Int)).length:Int)<x1 then((sub x0 a (x0.length:Int)).length:Int) else x1)) x0.length∧
 inS (a+(if((sub x0 a (x0.length:Int)).length:Int)<x1 then((sub x0 a (x0.length:Int)).length:Int) else x1)) (a+(if((sub x0 a (x0.length:Int)).length:Int)<x1 then((sub x0 a (x0.length:Int)).length:Int) else x1)) x0.length∧
 Yl l1 fun b r3=>((sub x0 a (a+(if((sub x0 a (x0.length:Int)).length:Int)<x1 then((sub x0 a (x0.length:Int)).length:Int) else x1))),())=b∧(
 inI (a+x1)∧
 rec1 (r3,(a+x1)))∧(
 True))∧
 (¬(a<(x0.length:Int))→
 l1=[])
def q54(x0:List Int)(x1:Int)(l:List (List Int×Unit)):Prop:=
 LoopW (Z105 x0 x1) (l,0)
def Z106(x0:List q8)(b:Int)(a:Int)(rec1:(Int×Int)→Prop)(Φ:Int→Prop):Bool→Prop
 | c=>
 (c=true→
 Φ 2)∧
 (¬(c=true)→
 (((ix x0 a).Start)<b→
 Φ 3)∧
 (¬(((ix x0 a).Start)<b)→
 inI (((ix x0 a).Start)+((ix x0 a).Count))∧
 inI ((((ix x0 a).Start)+((ix x0 a).Count))+1)∧
 inI (a+1)∧
 rec1 (((((ix x0 a).Start)+((ix x0 a).Count))+1),(a+1))))
def Z107(x0:List q8)(x1:Int)(Φ:Int→Prop):(Int×Int)→((Int×Int)→Prop)→Prop
 | (b,a),rec1=>
 (a<(x0.length:Int)→
 inX a x0.length∧
 (((ix x0 a).Count)≤0→
 Φ 1)∧
 (¬(((ix x0 a).Count)≤0)→
 Join (Z106 x0 b a rec1 Φ) fun J2=>
 (((ix x0 a).Start)<0→
 J2 true)∧
 (¬(((ix x0 a).Start)<0)→
 inI (x1-((ix x0 a).Start))∧
 J2 (decide ((x1-((ix x0 a).Start))<((ix x0 a).Count))))))∧
 (¬(a<(x0.length:Int))→
 Φ 0)
def Z108(x0:List q8)(x1:Int)(Φ:Int→Prop):Prop:=
 (x1<0→
 Φ 2)∧
 (¬(x1<0)→
 (4096<x1→
 Φ 2)∧
 (¬(4096<x1)→
 LoopW (Z107 x0 x1 Φ) (0,0)))
def Z109(x0:BitVec 64)(Φ:List (BitVec 8)→Prop):(Int×List (BitVec 8))→((Int×List (BitVec 8))→Prop)→Prop
 | (a,b),rec1=>
 (a<8→
 inI (8*a)∧
 (0:Int)≤(8*a)∧
 lenOk (b++([((x0 >>> ((8*a):Int).toNat).setWidth 8)]:List (BitVec 8))).length 1∧
 inI (a+1)∧
 rec1 ((a+1),(b++([((x0 >>> ((8*a):Int).toNat).setWidth 8)]:List (BitVec 8)))))∧
 (¬(a<8)→
 Φ b)
def q29(x0:BitVec 64)(Φ:List (BitVec 8)→Prop):Prop:=
 LoopW (Z109 x0 Φ) (0,([]:List (BitVec 8)))
def Z110(x0:q17)(x1:q12)(c:List q8)(a:Int)(rec5:(Int×List (BitVec 8))→Prop)(_:q12×Int→Prop):(Int×List (BitVec 8))→((Int×List (BitVec 8))→Prop)→Prop
 | (b,d),rec6=>
 (b<((ix c a).Count)→
 inI (((ix c a).Start)+b)∧
 inX (((ix c a).Start)+b) (ix x0.Levels x1.Number).length∧
 ∃ e:List (BitVec 8)×Unit,q29 (ix (ix x0.Levels x1.Number) (((ix c a).Start)+b)) (fun z=>(z,())=e)∧
 lenOk (d++e.1).length 1∧
 inI (b+1)∧
 rec6 ((b+1),(d++e.1)))∧
 (¬(b<((ix c a).Count))→
 inI (a+1)∧
 rec5 ((a+1),d))
def Z111(x0:q17)(x1:q12)(a:List q8)(d:List Int×Unit)(Φ:q12×Int→Prop):(Int×List (BitVec 8))→((Int×List (BitVec 8))→Prop)→Prop
 | (b,c),rec5=>
 (b<(a.length:Int)→
 inX b a.length∧
 LoopW (Z110 x0 x1 a b rec5 Φ) (0,c))∧
 (¬(b<(a.length:Int))→
 Φ ((q12.mk 14 x1.To x1.From x1.Number 0 0 d.1 c),0))
def Z112(x0:q17)(x1:q12)(Φ:q12×Int→Prop):(List (List Int×Unit)×List q8)→((List (List Int×Unit)×List q8)→Prop)→Prop
 | (lst,b),rec4=>
 match lst with
 | []=>
 inX x1.Number x0.Levels.length∧
 Z108 b ((ix x0.Levels x1.Number).length:Int) fun c=>
 (c≠0→
 Φ ((q12.mk 0 0 0 0 0 0 ([]:List Int) ([]:List (BitVec 8))),3))∧
 (¬(c≠0)→
 ∃ d:List Int×Unit,Z9 x1.Values (fun z=>(z,())=d)∧
 LoopW (Z111 x0 x1 b d Φ) (0,([]:List (BitVec 8))))
 | a::r7=>
 inX 0 a.1.length∧
 inX 1 a.1.length∧
 lenOk (b++([(q8.mk (ix a.1 0) (ix a.1 1))]:List q8)).length 16∧
 rec4 (r7,(b++([(q8.mk (ix a.1 0) (ix a.1 1))]:List q8)))
def Z113(x0:q17)(x1:q12)(Φ:q12×Int→Prop):Bool→Prop
 | a=>
 (a=true→
 Φ ((q12.mk 0 0 0 0 0 0 ([]:List Int) ([]:List (BitVec 8))),2))∧
 (¬(a=true)→
 inS 2 (x1.Values.length:Int) x1.Values.length∧
 ((2:Int)<1→
 False)∧
 (¬((2:Int)<1)→
 ∃ l15:List (List Int×Unit),q54 (sub x1.Values 2 (x1.Values.length:Int)) 2 l15∧
 LoopW (Z112 x0 x1 Φ) (l15,([]:List q8))))
def Z114(x0:q17)(x1:q12)(Φ:q12×Int→Prop):Bool→Prop
 | a=>
 (a=true→
 Φ ((q12.mk 0 0 0 0 0 0 ([]:List Int) ([]:List (BitVec 8))),22))∧
 (¬(a=true)→
 Join (Z113 x0 x1 Φ) fun J3=>
 (x1.Number<0→
 J3 true)∧
 (¬(x1.Number<0)→
 J3 (decide ((x0.Levels.length:Int)≤x1.Number))))
def Z115(x0:q17)(x1:q12)(Φ:q12×Int→Prop):Bool→Prop
 | a=>
 (a=true→
 Φ ((q12.mk 0 0 0 0 0 0 ([]:List Int) ([]:List (BitVec 8))),3))∧
 (¬(a=true)→
 Join (Z114 x0 x1 Φ) fun J2=>
 inX 0 x1.Values.length∧
 ((ix x1.Values 0)≠x0.Size→
 J2 true)∧
 (¬((ix x1.Values 0)≠x0.Size)→
 inX 1 x1.Values.length∧
 J2 (decide ((ix x1.Values 1)≠x0.Leaf))))
def Z116(x0:q17)(x1:q12)(Φ:q12×Int→Prop):Prop:=
 Z99 x0 fun a=>
 (a≠0→
 Φ ((q12.mk 0 0 0 0 0 0 ([]:List Int) ([]:List (BitVec 8))),a))∧
 (¬(a≠0)→
 (x1.Kind≠13→
 Φ ((q12.mk 0 0 0 0 0 0 ([]:List Int) ([]:List (BitVec 8))),1))∧
 (¬(x1.Kind≠13)→
 Join (Z115 x0 x1 Φ) fun J1=>
 ((x1.Values.length:Int)<2→
 J1 true)∧
 (¬((x1.Values.length:Int)<2)→
 (0≤(x1.Values.length:Int)∧2≠(0:Int))∧
 J1 (decide (((x1.Values.length:Int) % 2)=1)))))
def Z117(Φ:Int→Prop):Bool→Prop
 | a=>
 (¬(a=true)→
 Φ 3)∧
 (¬(¬(a=true))→
 Φ 0)
def Z118(x0:q18)(Φ:Int→Prop):Unit→Prop
 | _=>
 Join (Z117 Φ) fun J2=>
 (x0.Done=true→
 ((x0.Pending.length:Int)=0→
 Z108 x0.Found x0.Tree.Size fun b=>
 J2 (decide (b=0)))∧
 (¬((x0.Pending.length:Int)=0)→
 J2 false))∧
 (¬(x0.Done=true)→
 (0<(x0.Pending.length:Int)→
 ((x0.Found.length:Int)=0→
 inX x0.Level x0.Tree.Levels.length∧
 ∃ a:Int×Unit,Z108 x0.Pending ((ix x0.Tree.Levels x0.Level).length:Int) (fun z=>(z,())=a)∧
 J2 (decide (a.1=0)))∧
 (¬((x0.Found.length:Int)=0)→
 J2 false))∧
 (¬(0<(x0.Pending.length:Int))→
 J2 false))
def Z119(x0:q18)(Φ:Int→Prop):Prop:=
 Z99 x0.Tree fun a=>
 (a≠0→
 Φ a)∧
 (¬(a≠0)→
 Join (Z118 x0 Φ) fun J1=>
 (x0.Level<0→
 Φ 2)∧
 (¬(x0.Level<0)→
 ((x0.Tree.Levels.length:Int)≤x0.Level→
 Φ 2)∧
 (¬((x0.Tree.Levels.length:Int)≤x0.Level)→
 (x0.Done=true→
 (x0.Level≠0→
 Φ 2)∧
 (¬(x0.Level≠0)→
 (x0.Sent<0→
 Φ 2)∧
 (¬(x0.Sent<0)→
 (8192<x0.Sent→
 Φ 2)∧
 (¬(8192<x0.Sent)→
 J1 ()))))∧
 (¬(x0.Done=true)→
 (x0.Sent<0→
 Φ 2)∧
 (¬(x0.Sent<0)→
 (8192<x0.Sent→
 Φ 2)∧
 (¬(8192<x0.Sent)→
 J1 ()))))))
def Z120(x0:List Int)(x1:List Int)(Φ:Bool→Prop):(Int)→((Int)→Prop)→Prop
 | a,rec1=>
 (a<(x0.length:Int)→
 inX a x0.length∧
 inX a x1.length∧
 ((ix x0 a)≠(ix x1 a)→
 Φ false)∧
 (¬((ix x0 a)≠(ix x1 a))→
 inI (a+1)∧
 rec1 (a+1)))∧
 (¬(a<(x0.length:Int))→
 Φ true)
def Z121(x0:List Int)(x1:List Int)(Φ:Bool→Prop):Prop:=
 ((x0.length:Int)≠(x1.length:Int)→
 Φ false)∧
 (¬((x0.length:Int)≠(x1.length:Int))→
 LoopW (Z120 x0 x1 Φ) 0)
def Z122(x0:q8)(Φ:Int×Int×Bool→Prop):Int→Prop
 | a=>
 Φ ((if x0.Start<0 then 0 else x0.Start),a,decide ((if x0.Start<0 then 0 else x0.Start)<a))
def Z123(x0:q8)(Φ:Int×Int×Bool→Prop):Bool→Prop
 | a=>
 (a=true→
 inI (x0.Start+x0.Count)∧
 Z122 x0 Φ (if 4096<(x0.Start+x0.Count) then 4096 else(x0.Start+x0.Count)))∧
 (¬(a=true)→
 Z122 x0 Φ 4096)
def Z124(x0:q8)(Φ:Int×Int×Bool→Prop):Prop:=
 (x0.Count≤0→
 Φ (0,0,false))∧
 (¬(x0.Count≤0)→
 Join (Z123 x0 Φ) fun J2=>
 (x0.Start<0→
 J2 true)∧
 (¬(x0.Start<0)→
 inI (4096-x0.Start)∧
 J2 (decide (x0.Count<(4096-x0.Start)))))
def Z125(x0:q13)(x1:q13)(Φ:Int→Prop):Prop:=
 Z52 x0.at_ x1.at_ fun a=>
 Φ a
def Z126(xs:List q13)(Φ:List q13→Prop):Prop:=xs.length≤1099511627776∧∀ ys:List q13,ys.Perm xs→ys.Pairwise (fun a b=>a.at_≤b.at_)→Φ ys
def Z127(x0:List (List q8))(a:Int)(rec1:(Int×List q13)→Prop)(_:List q13→Prop):(Int×List q13)→((Int×List q13)→Prop)→Prop
 | (b,d),rec2=>
 (b<((ix x0 a).length:Int)→
 inX b (ix x0 a).length∧
 Z124 (ix (ix x0 a) b) fun c=>
 (c.2.2=true→
 lenOk (d++([(q13.mk c.1 a 1),(q13.mk c.2.1 a (-1))]:List q13)).length 24∧
 inI (b+1)∧
 rec2 ((b+1),(d++([(q13.mk c.1 a 1),(q13.mk c.2.1 a (-1))]:List q13))))∧
 (¬(c.2.2=true)→
 inI (b+1)∧
 rec2 ((b+1),d)))∧
 (¬(b<((ix x0 a).length:Int))→
 inI (a+1)∧
 rec1 ((a+1),d))
def Z128(x0:List (List q8))(Φ:List q13→Prop):(Int×List q13)→((Int×List q13)→Prop)→Prop
 | (a,b),rec1=>
 (a<(x0.length:Int)→
 inX a x0.length∧
 LoopW (Z127 x0 a rec1 Φ) (0,b))∧
 (¬(a<(x0.length:Int))→
 Z126 b fun c=>
 Φ c)
def q121(x0:List (List q8))(Φ:List q13→Prop):Prop:=
 LoopW (Z128 x0 Φ) (0,([]:List q13))
def Z129(x0:Bool)(x1:Bool)(Φ:Bool→Prop):Prop:=
 (x0=true→
 Φ true)∧
 (¬(x0=true)→
 Φ x1)
abbrev Y2:=Int×Bool×Int×Int×Int×List q8
def Z130 (c:List q13) (h:Bool) (a:Int) (f:Int) (g:Int) (e:List q8) (rec1:(Y2)→Prop) (d:Bool) (_:List q8→Prop):Int→Prop
 | b=>
 (¬(d=true)→
 (h=true→
 inI (((ix c a).at_)-b)∧
 lenOk (e++([(q8.mk b (((ix c a).at_)-b))]:List q8)).length 16∧
 inI (a+1)∧
 rec1 (b,d,(a+1),(f+((ix c a).step)),g,(e++([(q8.mk b (((ix c a).at_)-b))]:List q8))))∧
 (¬(h=true)→
 inI (a+1)∧
 rec1 (b,d,(a+1),(f+((ix c a).step)),g,e)))∧
 (¬(¬(d=true))→
 inI (a+1)∧
 rec1 (b,d,(a+1),(f+((ix c a).step)),g,e))
def Z131(a:List q13)(i:Int)(c:Bool)(b:Int)(d:Int)(e:Int)(f:List q8)(rec1:(Y2)→Prop)(g:Bool)(Φ:List q8→Prop):Bool→Prop
 | h=>
 (h=true→
 Z130 a c b d e f rec1 g Φ ((ix a b).at_))∧
 (¬(h=true)→
 Z130 a c b d e f rec1 g Φ i)
def Z132(b:List q13)(g:Int)(c:Bool)(a:Int)(d:Int)(e:Int)(h:List q8)(rec1:(Y2)→Prop)(Φ:List q8→Prop):Bool→Prop
 | i=>
 (i=true→
 inI (a+1)∧
 rec1 (g,c,(a+1),(d+((ix b a).step)),e,h))∧
 (¬(i=true)→
 ((0:Int)≤0∧0<(2:Int))∧
 ((0:Int)≤1∧1<(2:Int))∧
 Z129 (decide (0<(d+((ix b a).step)))) (decide (0<e)) fun f=>
 Join (Z131 b g c a d e h rec1 f Φ) fun J4=>
 (f=true→
 J4 (decide (¬(c=true))))∧
 (¬(f=true)→
 J4 false))
def Z133(c:List q13)(g:Bool)(a:Int)(d:Int)(f:List q8)(rec1:(Y2)→Prop)(e:Bool)(_:List q8→Prop):Int→Prop
 | b=>
 (¬(e=true)→
 (g=true→
 inI (((ix c a).at_)-b)∧
 lenOk (f++([(q8.mk b (((ix c a).at_)-b))]:List q8)).length 16∧
 inI (a+1)∧
 rec1 (b,e,(a+1),d,(d+((ix c a).step)),(f++([(q8.mk b (((ix c a).at_)-b))]:List q8))))∧
 (¬(g=true)→
 inI (a+1)∧
 rec1 (b,e,(a+1),d,(d+((ix c a).step)),f)))∧
 (¬(¬(e=true))→
 inI (a+1)∧
 rec1 (b,e,(a+1),d,(d+((ix c a).step)),f))
def Z134(a:List q13)(h:Int)(c:Bool)(b:Int)(d:Int)(e:List q8)(rec1:(Y2)→Prop)(f:Bool)(Φ:List q8→Prop):Bool→Prop
 | g=>
 (g=true→
 Z133 a c b d e rec1 f Φ ((ix a b).at_))∧
 (¬(g=true)→
 Z133 a c b d e rec1 f Φ h)
def Z135(c:List q13)(f:Int)(d:Bool)(a:Int)(b:Int)(g:List q8)(rec1:(Y2)→Prop)(Φ:List q8→Prop):Bool→Prop
 | h=>
 (h=true→
 inI (a+1)∧
 rec1 (f,d,(a+1),b,(b+((ix c a).step)),g))∧
 (¬(h=true)→
 ((0:Int)≤0∧0<(2:Int))∧
 ((0:Int)≤1∧1<(2:Int))∧
 Z129 (decide (0<b)) (decide (0<(b+((ix c a).step)))) fun e=>
 Join (Z134 c f d a b g rec1 e Φ) fun J7=>
 (e=true→
 J7 (decide (¬(d=true))))∧
 (¬(e=true)→
 J7 false))
def Z136(c:List q13)(g:Bool)(a:Int)(d:Int)(f:List q8)(rec1:(Y2)→Prop)(e:Bool)(_:List q8→Prop):Int→Prop
 | b=>
 (¬(e=true)→
 (g=true→
 inI (((ix c a).at_)-b)∧
 lenOk (f++([(q8.mk b (((ix c a).at_)-b))]:List q8)).length 16∧
 inI (a+1)∧
 rec1 (b,e,(a+1),(d+((ix c a).step)),d,(f++([(q8.mk b (((ix c a).at_)-b))]:List q8))))∧
 (¬(g=true)→
 inI (a+1)∧
 rec1 (b,e,(a+1),(d+((ix c a).step)),d,f)))∧
 (¬(¬(e=true))→
 inI (a+1)∧
 rec1 (b,e,(a+1),(d+((ix c a).step)),d,f))
def Z137(a:List q13)(h:Int)(c:Bool)(b:Int)(d:Int)(e:List q8)(rec1:(Y2)→Prop)(f:Bool)(Φ:List q8→Prop):Bool→Prop
 | g=>
 (g=true→
 Z136 a c b d e rec1 f Φ ((ix a b).at_))∧
 (¬(g=true)→
 Z136 a c b d e rec1 f Φ h)
def Z138(c:List q13)(f:Int)(d:Bool)(a:Int)(b:Int)(g:List q8)(rec1:(Y2)→Prop)(Φ:List q8→Prop):Bool→Prop
 | h=>
 (h=true→
 inI (a+1)∧
 rec1 (f,d,(a+1),(b+((ix c a).step)),b,g))∧
 (¬(h=true)→
 ((0:Int)≤0∧0<(2:Int))∧
 ((0:Int)≤1∧1<(2:Int))∧
 Z129 (decide (0<(b+((ix c a).step)))) (decide (0<b)) fun e=>
 Join (Z137 c f d a b g rec1 e Φ) fun J10=>
 (e=true→
 J10 (decide (¬(d=true))))∧
 (¬(e=true)→
 J10 false))
def Z139(c:List q13)(h:Bool)(a:Int)(f:Int)(g:Int)(e:List q8)(rec1:(Y2)→Prop)(d:Bool)(_:List q8→Prop):Int→Prop
 | b=>
 (¬(d=true)→
 (h=true→
 inI (((ix c a).at_)-b)∧
 lenOk (e++([(q8.mk b (((ix c a).at_)-b))]:List q8)).length 16∧
 inI (a+1)∧
 rec1 (b,d,(a+1),f,(g+((ix c a).step)),(e++([(q8.mk b (((ix c a).at_)-b))]:List q8))))∧
 (¬(h=true)→
 inI (a+1)∧
 rec1 (b,d,(a+1),f,(g+((ix c a).step)),e)))∧
 (¬(¬(d=true))→
 inI (a+1)∧
 rec1 (b,d,(a+1),f,(g+((ix c a).step)),e))
def Z140(a:List q13)(i:Int)(c:Bool)(b:Int)(d:Int)(e:Int)(f:List q8)(rec1:(Y2)→Prop)(g:Bool)(Φ:List q8→Prop):Bool→Prop
 | h=>
 (h=true→
 Z139 a c b d e f rec1 g Φ ((ix a b).at_))∧
 (¬(h=true)→
 Z139 a c b d e f rec1 g Φ i)
def Z141(b:List q13)(g:Int)(c:Bool)(a:Int)(d:Int)(e:Int)(h:List q8)(rec1:(Y2)→Prop)(Φ:List q8→Prop):Bool→Prop
 | i=>
 (i=true→
 inI (a+1)∧
 rec1 (g,c,(a+1),d,(e+((ix b a).step)),h))∧
 (¬(i=true)→
 ((0:Int)≤0∧0<(2:Int))∧
 ((0:Int)≤1∧1<(2:Int))∧
 Z129 (decide (0<d)) (decide (0<(e+((ix b a).step)))) fun f=>
 Join (Z140 b g c a d e h rec1 f Φ) fun J13=>
 (f=true→
 J13 (decide (¬(c=true))))∧
 (¬(f=true)→
 J13 false))
def Z142(b:List q13)(Φ:List q8→Prop):(Y2)→((Y2)→Prop)→Prop
 | (d,e,a,f,g,c),rec1=>
 (a<(b.length:Int)→
 inX a b.length∧
 (0≤((ix b a).list)∧((ix b a).list)<(2:Int))∧
 (((ix b a).list)=(0:Int)→
 ((0:Int)≤0∧0<(2:Int))∧
 inI (f+((ix b a).step))∧
 (0≤((ix b a).list)∧((ix b a).list)<(2:Int))∧
 (((ix b a).list)=(0:Int)→
 ((0:Int)≤0∧0<(2:Int))∧
 Join (Z132 b d e a f g c rec1 Φ) fun J2=>
 inI (a+1)∧
 ((a+1)<(b.length:Int)→
 inI (a+1)∧
 inX (a+1) b.length∧
 J2 (decide (((ix b (a+1)).at_)=((ix b a).at_))))∧
 (¬((a+1)<(b.length:Int))→
 J2 false))∧
 (((ix b a).list)=(1:Int)→
 ((0:Int)≤1∧1<(2:Int))∧
 Join (Z135 b d e a f c rec1 Φ) fun J5=>
 inI (a+1)∧
 ((a+1)<(b.length:Int)→
 inI (a+1)∧
 inX (a+1) b.length∧
 J5 (decide (((ix b (a+1)).at_)=((ix b a).at_))))∧
 (¬((a+1)<(b.length:Int))→
 J5 false))∧
 True)∧
 (((ix b a).list)=(1:Int)→
 ((0:Int)≤1∧1<(2:Int))∧
 inI (g+((ix b a).step))∧
 (0≤((ix b a).list)∧((ix b a).list)<(2:Int))∧
 (((ix b a).list)=(0:Int)→
 ((0:Int)≤0∧0<(2:Int))∧
 Join (Z138 b d e a g c rec1 Φ) fun J8=>
 inI (a+1)∧
 ((a+1)<(b.length:Int)→
 inI (a+1)∧
 inX (a+1) b.length∧
 J8 (decide (((ix b (a+1)).at_)=((ix b a).at_))))∧
 (¬((a+1)<(b.length:Int))→
 J8 false))∧
 (((ix b a).list)=(1:Int)→
 ((0:Int)≤1∧1<(2:Int))∧
 Join (Z141 b d e a f g c rec1 Φ) fun J11=>
 inI (a+1)∧
 ((a+1)<(b.length:Int)→
 inI (a+1)∧
 inX (a+1) b.length∧
 J11 (decide (((ix b (a+1)).at_)=((ix b a).at_))))∧
 (¬((a+1)<(b.length:Int))→
 J11 false))∧
 True)∧
 True)∧
 (¬(a<(b.length:Int))→
 Φ c)
def Z143(x0:List q8)(x1:List q8)(Φ:List q8→Prop):Prop:=
 q121 ([x0,x1]:List (List q8)) fun a=>
 LoopW (Z142 a Φ) (0,false,0,0,0,([]:List q8))
def Z144(b:List q8)(Φ:Int→Prop):(Int×Int)→((Int×Int)→Prop)→Prop
 | (c,a),rec1=>
 (a<(b.length:Int)→
 inX a b.length∧
 inI (c+((ix b a).Count))∧
 inI (a+1)∧
 rec1 ((c+((ix b a).Count)),(a+1)))∧
 (¬(a<(b.length:Int))→
 Φ c)
def Z145(x0:List q8)(Φ:Int→Prop):Prop:=
 Z143 x0 ([]:List q8) fun a=>
 LoopW (Z144 a Φ) (0,0)
def Z146(x0:List (BitVec 8))(x1:List (BitVec 8))(Φ:Bool→Prop):(Int)→((Int)→Prop)→Prop
 | a,rec1=>
 (a<(x0.length:Int)→
 inX a x0.length∧
 inX a x1.length∧
 ((ix x0 a)≠(ix x1 a)→
 Φ false)∧
 (¬((ix x0 a)≠(ix x1 a))→
 inI (a+1)∧
 rec1 (a+1)))∧
 (¬(a<(x0.length:Int))→
 Φ true)
def Z147(x0:List (BitVec 8))(x1:List (BitVec 8))(Φ:Bool→Prop):Prop:=
 ((x0.length:Int)≠(x1.length:Int)→
 Φ false)∧
 (¬((x0.length:Int)≠(x1.length:Int))→
 LoopW (Z146 x0 x1 Φ) 0)
abbrev Y3:=Int×List (BitVec 8)×Int×List Int
def Z148 (b:Int) (a:List (BitVec 8)) (c:Int) (rec4:(Y3)→Prop) (_:q18×List q12×Int→Prop):List Int→Prop
 | d=>
 inS 8 (a.length:Int) a.length∧
 inI (c+1)∧
 inI (b+1)∧
 rec4 ((b+1),(sub a 8 (a.length:Int)),(c+1),d)
def Z149(x0:q18)(c:Int)(a:Int)(d:List (BitVec 8))(e:Int)(b:List Int)(rec4:(Y3)→Prop)(Φ:q18×List q12×Int→Prop):Bool→Prop
 | f=>
 (f=true→
 lenOk (b++([(((ix x0.Pending c).Start)+a)]:List Int)).length 8∧
 Z148 a d e rec4 Φ (b++([(((ix x0.Pending c).Start)+a)]:List Int)))∧
 (¬(f=true)→
 Z148 a d e rec4 Φ b)
def Z150(x0:q18)(c:q17)(a:Int)(rec3:(Y3)→Prop)(Φ:q18×List q12×Int→Prop):(Y3)→((Y3)→Prop)→Prop
 | (b,d,e,f),rec4=>
 (b<((ix x0.Pending a).Count)→
 inI (((ix x0.Pending a).Start)+b)∧
 Join (Z149 x0 a b d e f rec4 Φ) fun J6=>
 (
 inS 0 8 d.length∧
 inX x0.Level c.Levels.length∧
 inX (((ix x0.Pending a).Start)+b) (ix c.Levels x0.Level).length∧
 q29 (ix (ix c.Levels x0.Level) (((ix x0.Pending a).Start)+b)) fun g=>
 Z147 (sub d 0 8) g fun h=>
 J6 (decide (¬(h=true))))∧
 (
 (
 inS 0 8 d.length∧
 inX x0.Level c.Levels.length∧
 inX (((ix x0.Pending a).Start)+b) (ix c.Levels x0.Level).length∧
 q29 (ix (ix c.Levels x0.Level) (((ix x0.Pending a).Start)+b)) fun i=>
 Z147 (sub d 0 8) i fun j=>
 J6 (decide (¬(j=true))))∧
 (
 inX x0.Level c.Levels.length∧
 inX (((ix x0.Pending a).Start)+b) (ix c.Levels x0.Level).length∧
 (
 inS 0 8 d.length∧
 q29 (ix (ix c.Levels x0.Level) (((ix x0.Pending a).Start)+b)) fun k=>
 Z147 (sub d 0 8) k fun l=>
 J6 (decide (¬(l=true))))∧
 (
 q29 (ix (ix c.Levels x0.Level) (((ix x0.Pending a).Start)+b)) fun m=>
 inS 0 8 d.length∧
 Z147 (sub d 0 8) m fun n=>
 J6 (decide (¬(n=true)))))))∧
 (¬(b<((ix x0.Pending a).Count))→
 inI (a+1)∧
 rec3 ((a+1),d,e,f))
def Z151(a:q17)(e:Int)(c:List Int)(Φ:q18×List q12×Int→Prop):(Int×List q8)→((Int×List q8)→Prop)→Prop
 | (b,d),rec7=>
 (b<(c.length:Int)→
 inX b c.length∧
 inI ((ix c b)*a.Leaf)∧
 inI (a.Size-((ix c b)*a.Leaf))∧
 lenOk (d++([(q8.mk ((ix c b)*a.Leaf) (if(a.Size-((ix c b)*a.Leaf))<a.Leaf then(a.Size-((ix c b)*a.Leaf)) else a.Leaf))]:List q8)).length 16∧
 inI (b+1)∧
 rec7 ((b+1),(d++([(q8.mk ((ix c b)*a.Leaf) (if(a.Size-((ix c b)*a.Leaf))<a.Leaf then(a.Size-((ix c b)*a.Leaf)) else a.Leaf))]:List q8))))∧
 (¬(b<(c.length:Int))→
 Z143 d ([]:List q8) fun f=>
 Φ ((q18.mk a ([]:List q8) 0 f e true),([]:List q12),0))
def Z152(x0:q18)(e:q17)(c:List Int)(b:Int)(rec8:(Int×List q8)→Prop)(_:q18×List q12×Int→Prop):(Int×List q8)→((Int×List q8)→Prop)→Prop
 | (d,a),rec9=>
 (d<(([(2*(ix c b)),((2*(ix c b))+1)]:List Int).length:Int)→
 inX d ([(2*(ix c b)),((2*(ix c b))+1)]:List Int).length∧
 inX (x0.Level-1) e.Levels.length∧
 ((ix ([(2*(ix c b)),((2*(ix c b))+1)]:List Int) d)<((ix e.Levels (x0.Level-1)).length:Int)→
 (0<(a.length:Int)→
 inI ((a.length:Int)-1)∧
 inX ((a.length:Int)-1) a.length∧
 inI ((a.length:Int)-1)∧
 inX ((a.length:Int)-1) a.length∧
 inI (((ix a ((a.length:Int)-1)).Start)+((ix a ((a.length:Int)-1)).Count))∧
 ((((ix a ((a.length:Int)-1)).Start)+((ix a ((a.length:Int)-1)).Count))=(ix ([(2*(ix c b)),((2*(ix c b))+1)]:List Int) d)→
 inI ((a.length:Int)-1)∧
 inX ((a.length:Int)-1) a.length∧
 inI (((ix a ((a.length:Int)-1)).Count)+1)∧
 inX ((a.length:Int)-1) a.length∧
 inI (d+1)∧
 rec9 ((d+1),(put a ((a.length:Int)-1) (q8.mk ((ix a ((a.length:Int)-1)).Start) (((ix a ((a.length:Int)-1)).Count)+1)))))∧
 (¬((((ix a ((a.length:Int)-1)).Start)+((ix a ((a.length:Int)-1)).Count))=(ix ([(2*(ix c b)),((2*(ix c b))+1)]:List Int) d))→
 lenOk (a++([(q8.mk (ix ([(2*(ix c b)),((2*(ix c b))+1)]:List Int) d) 1)]:List q8)).length 16∧
 inI (d+1)∧
 rec9 ((d+1),(a++([(q8.mk (ix ([(2*(ix c b)),((2*(ix c b))+1)]:List Int) d) 1)]:List q8)))))∧
 (¬(0<(a.length:Int))→
 lenOk (a++([(q8.mk (ix ([(2*(ix c b)),((2*(ix c b))+1)]:List Int) d) 1)]:List q8)).length 16∧
 inI (d+1)∧
 rec9 ((d+1),(a++([(q8.mk (ix ([(2*(ix c b)),((2*(ix c b))+1)]:List Int) d) 1)]:List q8)))))∧
 (¬((ix ([(2*(ix c b)),((2*(ix c b))+1)]:List Int) d)<((ix e.Levels (x0.Level-1)).length:Int))→
 inI (d+1)∧
 rec9 ((d+1),a)))∧
 (¬(d<(([(2*(ix c b)),((2*(ix c b))+1)]:List Int).length:Int))→
 inI (b+1)∧
 rec8 ((b+1),a))
def Z153(x0:q18)(d:q17)(e:Int)(a:List q8)(Φ:q18×List q12×Int→Prop):(Int×List Int)→((Int×List Int)→Prop)→Prop
 | (b,c),rec10=>
 (b<(a.length:Int)→
 inX b a.length∧
 lenOk (c++([(ix a b).Start,(ix a b).Count]:List Int)).length 8∧
 inI (b+1)∧
 rec10 ((b+1),(c++([(ix a b).Start,(ix a b).Count]:List Int))))∧
 (¬(b<(a.length:Int))→
 (
 Φ ((q18.mk d a (x0.Level-1) x0.Found e x0.Done),([(q12.mk 13 0 0 (x0.Level-1) 0 0 c ([]:List (BitVec 8)))]:List q12),0))∧
 (
 Φ ((q18.mk d a (x0.Level-1) x0.Found e x0.Done),([(q12.mk 13 0 0 (x0.Level-1) 0 0 c ([]:List (BitVec 8)))]:List q12),0)))
def Z154(x0:q18)(c:q17)(e:Int)(a:List Int)(Φ:q18×List q12×Int→Prop):(Int×List q8)→((Int×List q8)→Prop)→Prop
 | (b,d),rec8=>
 (b<(a.length:Int)→
 inX b a.length∧
 inI (2*(ix a b))∧
 inI (2*(ix a b))∧
 inI ((2*(ix a b))+1)∧
 LoopW (Z152 x0 c a b rec8 Φ) (0,d))∧
 (¬(b<(a.length:Int))→
 LoopW (Z153 x0 c e d Φ) (0,([c.Size,c.Leaf]:List Int)))
def Z155(x0:q18)(b:q17)(Φ:q18×List q12×Int→Prop):(Y3)→((Y3)→Prop)→Prop
 | (c,e,d,a),rec3=>
 (c<(x0.Pending.length:Int)→
 inX c x0.Pending.length∧
 LoopW (Z150 x0 b c rec3 Φ) (0,e,d,a))∧
 (¬(c<(x0.Pending.length:Int))→
 (x0.Level=0→
 LoopW (Z151 b d a Φ) (0,([]:List q8)))∧
 (¬(x0.Level=0)→
 ((a.length:Int)=0→
 Φ ((q18.mk b ([]:List q8) 0 x0.Found d true),([]:List q12),0))∧
 (¬((a.length:Int)=0)→
 inI (x0.Level-1)∧
 LoopW (Z154 x0 b d a Φ) (0,([]:List q8)))))
def Z156(x0:q18)(x1:q12)(c:q17)(Φ:q18×List q12×Int→Prop):Bool→Prop
 | b=>
 (b=true→
 Φ ((q18.mk (q17.mk 0 0 ([]:List (List (BitVec 64)))) ([]:List q8) 0 ([]:List q8) 0 false),([]:List q12),22))∧
 (¬(b=true)→
 ∃ a:Int×Unit,Z145 x0.Pending (fun z=>(z,())=a)∧
 inI (8*a.1)∧
 ((x1.Body.length:Int)≠(8*a.1)→
 Φ ((q18.mk (q17.mk 0 0 ([]:List (List (BitVec 64)))) ([]:List q8) 0 ([]:List q8) 0 false),([]:List q12),3))∧
 (¬((x1.Body.length:Int)≠(8*a.1))→
 LoopW (Z155 x0 c Φ) (0,x1.Body,x0.Sent,([]:List Int))))
def Z157(x0:q18)(x1:q12)(c:q17)(Φ:q18×List q12×Int→Prop):(Int×List Int)→((Int×List Int)→Prop)→Prop
 | (a,b),rec1=>
 (a<(x0.Pending.length:Int)→
 inX a x0.Pending.length∧
 lenOk (b++([(ix x0.Pending a).Start,(ix x0.Pending a).Count]:List Int)).length 8∧
 inI (a+1)∧
 rec1 ((a+1),(b++([(ix x0.Pending a).Start,(ix x0.Pending a).Count]:List Int))))∧
 (¬(a<(x0.Pending.length:Int))→
 (x0.Done=true→
 Φ ((q18.mk (q17.mk 0 0 ([]:List (List (BitVec 64)))) ([]:List q8) 0 ([]:List q8) 0 false),([]:List q12),12))∧
 (¬(x0.Done=true)→
 (x1.Kind≠14→
 Φ ((q18.mk (q17.mk 0 0 ([]:List (List (BitVec 64)))) ([]:List q8) 0 ([]:List q8) 0 false),([]:List q12),1))∧
 (¬(x1.Kind≠14)→
 Join (Z156 x0 x1 c Φ) fun J2=>
 (x1.Number≠x0.Level→
 J2 true)∧
 (¬(x1.Number≠x0.Level)→
 Z121 x1.Values b fun d=>
 J2 (decide (¬(d=true)))))))
def Z158(x0:q18)(x1:q12)(Φ:q18×List q12×Int→Prop):Prop:=
 Z119 x0 fun a=>
 (a≠0→
 Φ ((q18.mk (q17.mk 0 0 ([]:List (List (BitVec 64)))) ([]:List q8) 0 ([]:List q8) 0 false),([]:List q12),a))∧
 (¬(a≠0)→
 Z101 x0.Tree fun b=>
 LoopW (Z157 x0 x1 b Φ) (0,([b.Size,b.Leaf]:List Int)))
abbrev Y0:=Int×Int×Int×List (List (BitVec 64))×List q8×Int×List q8×Int×Bool×List q12
def Z159 (x1:q17) (c:Int) (g:Int) (h:Int) (i:List (List (BitVec 64))) (j:List q8) (k:Int) (d:List q8) (e:Int) (l:Bool) (f:List q12) (rec3:(Y0)→Prop) (Φ:List q8×Int×Int→Prop):Bool→Prop
 | m=>
 (m=true→
 inX 0 f.length∧
 ∃ b:q12×Int×Unit,Z116 x1 (ix f 0) (fun z=>(z.1,z.2,())=b)∧
 (b.2.1=0→
 Z158 (q18.mk (q17.mk g h i) j k d e l) b.1 fun a=>
 rec3 (a.2.2,a.1.Tree.Size,a.1.Tree.Leaf,a.1.Tree.Levels,a.1.Pending,a.1.Level,a.1.Found,a.1.Sent,a.1.Done,a.2.1))∧
 (¬(b.2.1=0)→
 rec3 (b.2.1,g,h,i,j,k,d,e,l,f)))∧
 (¬(m=true)→
 (c≠0→
 Φ (([]:List q8),0,c))∧
 (¬(c≠0)→
 Φ (d,e,0)))
def Z160(x1:q17)(Φ:List q8×Int×Int→Prop):(Y0)→((Y0)→Prop)→Prop
 | (a,c,d,e,f,g,h,i,j,b),rec3=>
 Join (Z159 x1 a c d e f g h i j b rec3 Φ) fun J4=>
 (a=0→
 J4 (decide (0<(b.length:Int))))∧
 (¬(a=0)→
 J4 false)
def Z161(x1:q17)(a:q18×List q12×Int)(Φ:List q8×Int×Int→Prop):Int→Prop
 | b=>
 LoopW (Z160 x1 Φ) (b,a.1.Tree.Size,a.1.Tree.Leaf,a.1.Tree.Levels,a.1.Pending,a.1.Level,a.1.Found,a.1.Sent,a.1.Done,a.2.1)
def Z162(x0:q17)(x1:q17)(b:q18×List q12×Int)(Φ:List q8×Int×Int→Prop):Int→Prop
 | a=>
 Join (Z161 x1 b Φ) fun J2=>
 (a=0→
 (x0.Size≠x1.Size→
 J2 22)∧
 (¬(x0.Size≠x1.Size)→
 (x0.Leaf≠x1.Leaf→
 J2 22)∧
 (¬(x0.Leaf≠x1.Leaf)→
 J2 a)))∧
 (¬(a=0)→
 J2 a)
def q122(x0:q17)(x1:q17)(Φ:List q8×Int×Int→Prop):Prop:=
 Z104 x0 fun a=>
 Join (Z162 x0 x1 a Φ) fun J1=>
 (a.2.2=0→
 Z99 x1 fun b=>
 J1 b)∧
 (¬(a.2.2=0)→
 J1 a.2.2)
def Z163(x2:q17)(x3:q17)(a:Int)(b:Int)(rec4:(Int)→Prop)(d:Bool)(c:Int)(rec6:(Bool×Int)→Prop)(Φ:Bool→Prop):Bool→Prop
 | e=>
 (e=true→
 (d=true→
 inI (c+1)∧
 rec6 (true,(c+1)))∧
 (¬(d=true)→
 inI (a-1)∧
 inX (a-1) x2.Levels.length∧
 inX c (ix x2.Levels (a-1)).length∧
 inI (a-1)∧
 inX (a-1) x3.Levels.length∧
 inX c (ix x3.Levels (a-1)).length∧
 inI (c+1)∧
 rec6 (decide ((ix (ix x2.Levels (a-1)) c)≠(ix (ix x3.Levels (a-1)) c)),(c+1))))∧
 (¬(e=true)→
 (d=true→
 inX a x2.Levels.length∧
 inX b (ix x2.Levels a).length∧
 inX a x3.Levels.length∧
 inX b (ix x3.Levels a).length∧
 ((ix (ix x2.Levels a) b)=(ix (ix x3.Levels a) b)→
 Φ true)∧
 (¬((ix (ix x2.Levels a) b)=(ix (ix x3.Levels a) b))→
 inI (b+1)∧
 rec4 (b+1)))∧
 (¬(d=true)→
 inI (b+1)∧
 rec4 (b+1)))
def Z164(x2:q17)(x3:q17)(a:Int)(c:Int)(rec4:(Int)→Prop)(Φ:Bool→Prop):(Bool×Int)→((Bool×Int)→Prop)→Prop
 | (d,b),rec6=>
 Join (Z163 x2 x3 a c rec4 d b rec6 Φ) fun J7=>
 inI (2*c)∧
 inI ((2*c)+1)∧
 (b≤((2*c)+1)→
 inI (a-1)∧
 inX (a-1) x2.Levels.length∧
 (b<((ix x2.Levels (a-1)).length:Int)→
 inI (a-1)∧
 inX (a-1) x3.Levels.length∧
 J7 (decide (b<((ix x3.Levels (a-1)).length:Int))))∧
 (¬(b<((ix x2.Levels (a-1)).length:Int))→
 J7 false))∧
 (¬(b≤((2*c)+1))→
 J7 false)
def Z165(x2:q17)(x3:q17)(a:Int)(rec3:(Int)→Prop)(b:Int)(rec4:(Int)→Prop)(Φ:Bool→Prop):Bool→Prop
 | c=>
 (c=true→
 inI (2*b)∧
 LoopW (Z164 x2 x3 a b rec4 Φ) (false,(2*b)))∧
 (¬(c=true)→
 inI (a+1)∧
 rec3 (a+1))
def Z166(x2:q17)(x3:q17)(a:Int)(rec3:(Int)→Prop)(Φ:Bool→Prop):(Int)→((Int)→Prop)→Prop
 | b,rec4=>
 Join (Z165 x2 x3 a rec3 b rec4 Φ) fun J5=>
 inX a x2.Levels.length∧
 (b<((ix x2.Levels a).length:Int)→
 inX a x3.Levels.length∧
 J5 (decide (b<((ix x3.Levels a).length:Int))))∧
 (¬(b<((ix x2.Levels a).length:Int))→
 J5 false)
def Z167(x2:q17)(x3:q17)(Φ:Bool→Prop):(Int)→((Int)→Prop)→Prop
 | a,rec3=>
 (a<(x2.Levels.length:Int)→
 LoopW (Z166 x2 x3 a rec3 Φ) 0)∧
 (¬(a<(x2.Levels.length:Int))→
 Φ false)
def Z168(x0:List Sec)(x1:List Sec)(x2:q17)(x3:q17)(a:Int)(rec1:(Int)→Prop)(Φ:Bool→Prop):Bool→Prop
 | b=>
 (b=true→
 inX a x0.length∧
 inX a x1.length∧
 ((ix x0 a)≠(ix x1 a)→
 inX 0 x2.Levels.length∧
 inX a (ix x2.Levels 0).length∧
 inX 0 x3.Levels.length∧
 inX a (ix x3.Levels 0).length∧
 ((ix (ix x2.Levels 0) a)=(ix (ix x3.Levels 0) a)→
 Φ true)∧
 (¬((ix (ix x2.Levels 0) a)=(ix (ix x3.Levels 0) a))→
 inI (a+1)∧
 rec1 (a+1)))∧
 (¬((ix x0 a)≠(ix x1 a))→
 inI (a+1)∧
 rec1 (a+1)))∧
 (¬(b=true)→
 LoopW (Z167 x2 x3 Φ) 1)
def Z169(x0:List Sec)(x1:List Sec)(x2:q17)(x3:q17)(Φ:Bool→Prop):(Int)→((Int)→Prop)→Prop
 | a,rec1=>
 Join (Z168 x0 x1 x2 x3 a rec1 Φ) fun J2=>
 (a<(x0.length:Int)→
 (a<(x1.length:Int)→
 inX 0 x2.Levels.length∧
 (a<((ix x2.Levels 0).length:Int)→
 inX 0 x3.Levels.length∧
 J2 (decide (a<((ix x3.Levels 0).length:Int))))∧
 (¬(a<((ix x2.Levels 0).length:Int))→
 J2 false))∧
 (¬(a<(x1.length:Int))→
 J2 false))∧
 (¬(a<(x0.length:Int))→
 J2 false)
def Z170(x0:List Sec)(x1:List Sec)(x2:q17)(x3:q17)(Φ:Bool→Prop):Prop:=
 ((x2.Levels.length:Int)=0→
 Φ false)∧
 (¬((x2.Levels.length:Int)=0)→
 ((x2.Levels.length:Int)≠(x3.Levels.length:Int)→
 Φ false)∧
 (¬((x2.Levels.length:Int)≠(x3.Levels.length:Int))→
 LoopW (Z169 x0 x1 x2 x3 Φ) 0))
def q180(b:Int)(a:List q8)(rec1:(Int×List q8)→Prop)(_:List q8→Prop):Bool→Prop
 | c=>
 (c=true→
 inI ((a.length:Int)-1)∧
 inX ((a.length:Int)-1) a.length∧
 inI (((ix a ((a.length:Int)-1)).Count)+1)∧
 inX ((a.length:Int)-1) a.length∧
 inI (b+1)∧
 rec1 ((b+1),(put a ((a.length:Int)-1) (q8.mk ((ix a ((a.length:Int)-1)).Start) (((ix a ((a.length:Int)-1)).Count)+1)))))∧
 (¬(c=true)→
 lenOk (a++([(q8.mk b 1)]:List q8)).length 16∧
 inI (b+1)∧
 rec1 ((b+1),(a++([(q8.mk b 1)]:List q8))))
def q459(x0:List Bool)(Φ:List q8→Prop):(Int×List q8)→((Int×List q8)→Prop)→Prop
 | (a,b),rec1=>
 (a<(x0.length:Int)→
 inX a x0.length∧
 (¬((ix x0 a)=true)→
 inI (a+1)∧
 rec1 ((a+1),b))∧
 (¬(¬((ix x0 a)=true))→
 Join (q180 a b rec1 Φ) fun J2=>
 (0<a→
 inI (a-1)∧
 inX (a-1) x0.length∧
 J2 (ix x0 (a-1)))∧
 (¬(0<a)→
 J2 false)))∧
 (¬(a<(x0.length:Int))→
 Φ b)
def q215(x0:List Bool)(Φ:List q8→Prop):Prop:=
 LoopW (q459 x0 Φ) (0,([]:List q8))
def Z171(c:Int)(rec1:(Int×List Bool)→Prop)(d:Int)(_:List q8→Prop):(Int×List Bool)→((Int×List Bool)→Prop)→Prop
 | (a,b),rec3=>
 (a<d→
 inX a b.length∧
 inI (a+1)∧
 rec3 ((a+1),(put b a true)))∧
 (¬(a<d)→
 inI (c+1)∧
 rec1 ((c+1),b))
def Z172(a:Int)(b:List Bool)(rec1:(Int×List Bool)→Prop)(Φ:List q8→Prop):Int×Int→Prop
 | (c,d)=>
 LoopW (Z171 a rec1 d Φ) (c,b)
def Z173(x0:List q10)(x1:Int)(Φ:List q8→Prop):(Int×List Bool)→((Int×List Bool)→Prop)→Prop
 | (a,b),rec1=>
 (a<(x0.length:Int)→
 inX a x0.length∧
 (((ix x0 a).Volume)=x1→
 inX a x0.length∧
 inX a x0.length∧
 ((((ix x0 a).Data).length:Int)≤0→
 inI (a+1)∧
 rec1 ((a+1),b))∧
 (¬((((ix x0 a).Data).length:Int)≤0)→
 ((b.length:Int)≤((ix x0 a).Start)→
 inI (a+1)∧
 rec1 ((a+1),b))∧
 (¬((b.length:Int)≤((ix x0 a).Start))→
 Join (Z172 a b rec1 Φ) fun J2=>
 (((ix x0 a).Start)<0→
 inI (((ix x0 a).Start)+(((ix x0 a).Data).length:Int))∧
 J2 (0,(if(((ix x0 a).Start)+(((ix x0 a).Data).length:Int))<(b.length:Int) then(((ix x0 a).Start)+(((ix x0 a).Data).length:Int)) else(b.length:Int))))∧
 (¬(((ix x0 a).Start)<0)→
 inI (((ix x0 a).Start)+(if 4096<(((ix x0 a).Data).length:Int) then 4096 else(((ix x0 a).Data).length:Int)))∧
 J2 ((ix x0 a).Start,(if(((ix x0 a).Start)+(if 4096<(((ix x0 a).Data).length:Int) then 4096 else(((ix x0 a).Data).length:Int)))<(b.length:Int) then(((ix x0 a).Start)+(if 4096<(((ix x0 a).Data).length:Int) then 4096 else(((ix x0 a).Data).length:Int))) else(b.length:Int)))))))∧
 (¬(((ix x0 a).Volume)=x1)→
 inI (a+1)∧
 rec1 ((a+1),b)))∧
 (¬(a<(x0.length:Int))→
 q215 b fun c=>
 Φ c)
def Z174(x0:List q10)(x1:Int)(Φ:List q8→Prop):Prop:=
 0≤(4096:Int)∧
 lenOk (4096:Int).toNat 1∧
 LoopW (Z173 x0 x1 Φ) (0,(List.replicate (4096:Int).toNat (false:Bool)))
def Z175(x0:List (List q8))(x1:List (List q8))(a:Int)(rec1:(Int)→Prop)(Φ:Bool→Prop):(Int)→((Int)→Prop)→Prop
 | b,rec2=>
 inX a x0.length∧
 (b<((ix x0 a).length:Int)→
 inX a x0.length∧
 inX b (ix x0 a).length∧
 inX a x1.length∧
 inX b (ix x1 a).length∧
 ((ix (ix x0 a) b)≠(ix (ix x1 a) b)→
 Φ false)∧
 (¬((ix (ix x0 a) b)≠(ix (ix x1 a) b))→
 inI (b+1)∧
 rec2 (b+1)))∧
 (¬(b<((ix x0 a).length:Int))→
 inI (a+1)∧
 rec1 (a+1))
def Z176(x0:List (List q8))(x1:List (List q8))(Φ:Bool→Prop):(Int)→((Int)→Prop)→Prop
 | a,rec1=>
 (a<(x0.length:Int)→
 inX a x0.length∧
 inX a x1.length∧
 (((ix x0 a).length:Int)≠((ix x1 a).length:Int)→
 Φ false)∧
 (¬(((ix x0 a).length:Int)≠((ix x1 a).length:Int))→
 LoopW (Z175 x0 x1 a rec1 Φ) 0))∧
 (¬(a<(x0.length:Int))→
 Φ true)
def Z177(x0:List (List q8))(x1:List (List q8))(Φ:Bool→Prop):Prop:=
 ((x0.length:Int)≠(x1.length:Int)→
 Φ false)∧
 (¬((x0.length:Int)≠(x1.length:Int))→
 LoopW (Z176 x0 x1 Φ) 0)
def Z178(e:List q10×Int)(f:List (List q8))(Φ:Bool→Prop):(Int×List (List q8))→((Int×List (List q8))→Prop)→Prop
 | (a,b),rec2=>
 (a<2→
 Z174 e.1 a fun c=>
 lenOk (b++([c]:List (List q8))).length 24∧
 inI (a+1)∧
 rec2 ((a+1),(b++([c]:List (List q8)))))∧
 (¬(a<2)→
 Z177 f b fun d=>
 (d=true→
 Z76 fun g=>
 Φ g)∧
 (¬(d=true)→
 Φ false))
def Z179(x1:q45)(a:List q14×List Bool×Bool)(h:List q10×Int)(Φ:Bool→Prop):(Int×List (List q8))→((Int×List (List q8))→Prop)→Prop
 | (b,f),rec1=>
 (b<2→
 inX ((x1.e0 % (3#8)).toNat:Int) a.1.length∧
 inX b ((ix a.1 ((x1.e0 % (3#8)).toNat:Int)).Image).length∧
 Z92 (ix ((ix a.1 ((x1.e0 % (3#8)).toNat:Int)).Image) b) 1 fun c=>
 inX ((x1.e1 % (3#8)).toNat:Int) a.1.length∧
 inX b ((ix a.1 ((x1.e1 % (3#8)).toNat:Int)).Image).length∧
 Z92 (ix ((ix a.1 ((x1.e1 % (3#8)).toNat:Int)).Image) b) 1 fun d=>
 q122 c.1 d.1 fun e=>
 (c.2≠0→
 Φ false)∧
 (¬(c.2≠0)→
 (d.2≠0→
 Φ false)∧
 (¬(d.2≠0)→
 (e.2.2≠0→
 Φ false)∧
 (¬(e.2.2≠0)→
 inX ((x1.e0 % (3#8)).toNat:Int) a.1.length∧
 inX b ((ix a.1 ((x1.e0 % (3#8)).toNat:Int)).Image).length∧
 inX ((x1.e1 % (3#8)).toNat:Int) a.1.length∧
 inX b ((ix a.1 ((x1.e1 % (3#8)).toNat:Int)).Image).length∧
 ∃ g:Bool×Unit,Z170 (ix ((ix a.1 ((x1.e0 % (3#8)).toNat:Int)).Image) b) (ix ((ix a.1 ((x1.e1 % (3#8)).toNat:Int)).Image) b) c.1 d.1 (fun z=>(z,())=g)∧
 (g.1=true→
 Z76 fun i=>
 Φ i)∧
 (¬(g.1=true)→
 lenOk (f++([e.1]:List (List q8))).length 24∧
 inI (b+1)∧
 rec1 ((b+1),(f++([e.1]:List (List q8)))))))))∧
 (¬(b<2)→
 LoopW (Z178 h f Φ) (0,([]:List (List q8))))
def Z180(x0:q19)(x1:q45)(Φ:Bool→Prop):Prop:=
 Z48 x0 fun a=>
 (¬(a.2.2=true)→
 Φ false)∧
 (¬(¬(a.2.2=true))→
 ((a.1.length:Int)=0→
 Z76 fun c=>
 Φ c)∧
 (¬((a.1.length:Int)=0)→
 ((0:Int)≤0∧0<(2:Int))∧
 (3#8)≠0#8∧
 ((0:Int)≤1∧1<(2:Int))∧
 (3#8)≠0#8∧
 Z71 a.1 ((x1.e0 % (3#8)).toNat:Int) ((x1.e1 % (3#8)).toNat:Int) fun b=>
 (b.2≠0→
 Φ false)∧
 (¬(b.2≠0)→
 ((a.1.length:Int)<3→
 Φ false)∧
 (¬((a.1.length:Int)<3)→
 inX ((x1.e0 % (3#8)).toNat:Int) a.1.length∧
 ((((ix a.1 ((x1.e0 % (3#8)).toNat:Int)).Image).length:Int)<2→
 Φ false)∧
 (¬((((ix a.1 ((x1.e0 % (3#8)).toNat:Int)).Image).length:Int)<2)→
 inX ((x1.e1 % (3#8)).toNat:Int) a.1.length∧
 ((((ix a.1 ((x1.e1 % (3#8)).toNat:Int)).Image).length:Int)<2→
 Φ false)∧
 (¬((((ix a.1 ((x1.e1 % (3#8)).toNat:Int)).Image).length:Int)<2)→
 LoopW (Z179 x1 a b Φ) (0,([]:List (List q8)))))))))
def ghT:Hp→Prop:=fun _=>True
def gh:Hp→Prop:=fun H=>TabH H 0
theorem ghUp:GUp gh:=fun _ _ h hle=>h.mono hle
def ct13:Ct DD:=⟨13,[],[60],[[true]],false,fun _ Φ=>Z0 fun y=>Φ (y,())⟩
def pl13:List PE:=[]
def ct71:Ct DD:=⟨71,[3],[4],[[false]],true,fun x Φ=>Z1 x.1 fun y=>Φ (y,())⟩
def pl71:List PE:=[]
def ct30:Ct DD:=⟨30,[60],[35],[[false]],true,fun x Φ=>Z3 x.1 fun y=>Φ (y,())⟩
def pl30:List PE:=[⟨[4,1,0,1,12,0,1,11,0,0,1,1],[],[],⟨[.int],[(0,.kp 0),(1,.kp 1),(7,.kp 4),(8,.v .int)],[],[],[]⟩,false,0⟩]
def ct32:Ct DD:=⟨32,[3],[50],[[true]],false,fun x Φ=>q266 x.1 fun y=>Φ (y,())⟩
def pl32:List PE:=[]
def ct12:Ct DD:=⟨12,[60],[41,35],[[true],[false]],false,fun x Φ=>q57 x.1 fun y=>Φ (y.1,y.2,())⟩
def pl12:List PE:=[⟨[4,1,0,1,1,11,0,1,1],[],[],⟨[.int,.lst 50],[(1,.kp 2),(5,.own 0),(11,.kp 8),(12,.kp 9),(13,.v .int)],[],[50],[]⟩,false,0⟩]
def ct74:Ct DD:=⟨74,[3,3,3],[4],[[false]],true,fun x Φ=>Z4 x.1 x.2.1 x.2.2.1 fun y=>Φ (y,())⟩
def pl74:List PE:=[]
def ct72:Ct DD:=⟨72,[3],[4],[[false]],true,fun x Φ=>Z5 x.1 fun y=>Φ (y,())⟩
def pl72:List PE:=[]
def ct112:Ct DD:=⟨112,[3],[3],[[false]],true,fun x Φ=>Z6 x.1 fun y=>Φ (y,())⟩
def pl112:List PE:=[]
def ct103:Ct DD:=⟨103,[3],[125,35],[[false,true],[false]],false,fun x Φ=>q212 x.1 fun y=>Φ (y.1,y.2,())⟩
def pl103:List PE:=[⟨[0,1],[],[0],⟨[.bool],[(0,.kp 1),(2,.kp 2),(9,.v .bool)],[],[],[]⟩,true,0⟩]
def ct73:Ct DD:=⟨73,[60],[39,35],[[true],[false]],false,fun x Φ=>Z8 x.1 fun y=>Φ (y.1,y.2,())⟩
def pl73:List PE:=[⟨[4,1,0,1,1],[],[],⟨[.int,.lst 125],[(4,.own 0),(9,.kp 4),(10,.kp 5),(11,.v .int)],[],[125],[]⟩,false,0⟩]
def ct60:Ct DD:=⟨60,[60],[60],[[true]],false,fun x Φ=>Z9 x.1 fun y=>Φ (y,())⟩
def pl60:List PE:=[]
def sk104:Sk DD:=⟨104,123,3,161,true,inI,sortZ⟩
def ct33:Ct DD:=⟨33,[60,60,3],[107,35],[[true,true],[false]],false,fun x Φ=>q119 x.1 x.2.1 x.2.2.1 fun y=>Φ (y.1,y.2,())⟩
def pl33:List PE:=[⟨[4,1,0,1,1,1],[],[1],⟨[.int],[(0,.kp 2),(1,.kp 3),(2,.kp 4),(6,.kp 5),(32,.kp 19),(33,.kp 20),(34,.v .int)],[(0,107,[.kp 22,.kp 23])],[],[]⟩,false,0⟩,⟨[4,1,0,1,1,1,1,1],[],[1],⟨[.int,.mp 3 161],[(0,.kp 2),(2,.kp 4),(6,.kp 5),(12,.kp 28),(44,.kp 3),(45,.kp 29),(46,.v .int)],[(0,107,[.kp 22,.kp 23])],[],[(24,.map 3 161 false true)]⟩,false,0⟩,⟨[4,1,0,1,1,13,0,1,1,1,1,1,1,1],[],[33,32,31,0,24,1],⟨[.int,.lst 161],[(0,.kp 28),(3,.own 0),(8,.kp 37),(9,.kp 38),(10,.v .int)],[],[161],[]⟩,false,0⟩]
def ct34:Ct DD:=⟨34,[65],[72],[[false,false,true]],false,fun x Φ=>Z14 x.1 fun y=>Φ (y,())⟩
def pl34:List PE:=[⟨[4,1,0,1,1,1,1],[],[2,1,0],⟨[.int,.lst 70],[(1,.kp 5),(2,.kp 6),(3,.kp 13),(4,.kp 19),(5,.kp 26),(6,.v .int)],[(3,72,[.kp 28,.kp 29,.own 0])],[70],[]⟩,false,0⟩]
def ct125:Ct DD:=⟨125,[50],[3],[[false]],true,fun x Φ=>Z15 x.1 fun y=>Φ (y,())⟩
def pl125:List PE:=[]
def ct106:Ct DD:=⟨106,[41],[60],[[true]],false,fun x Φ=>q173 x.1 fun y=>Φ (y,())⟩
def pl106:List PE:=[⟨[4,1,0,1,1,11,0,1],[],[],⟨[.int,.lst 3],[(1,.kp 2),(5,.own 0),(11,.kp 8),(12,.kp 9),(13,.v .int)],[],[3],[]⟩,false,0⟩]
def ct76:Ct DD:=⟨76,[41],[35],[[false]],true,fun x Φ=>q72 x.1 fun y=>Φ (y,())⟩
def pl76:List PE:=[]
def ct108:Ct DD:=⟨108,[50],[50],[[true]],false,fun x Φ=>Z17 x.1 fun y=>Φ (y,())⟩
def pl108:List PE:=[]
def ct78:Ct DD:=⟨78,[41,72],[35],[[false]],true,fun x Φ=>q111 x.1 x.2.1 fun y=>Φ (y,())⟩
def pl78:List PE:=[⟨[4,0,1],[],[0],⟨[.bool],[(0,.kp 1),(3,.kp 3),(5,.v .bool)],[],[],[]⟩,true,0⟩]
def ct35:Ct DD:=⟨35,[41,34],[41,3,35],[[true],[false],[false]],false,fun x Φ=>q98 x.1 x.2.1 fun y=>Φ (y.1,y.2.1,y.2.2,())⟩
def ct86:Ct DD:=⟨86,[125],[35],[[false]],true,fun x Φ=>Z22 x.1 fun y=>Φ (y,())⟩
def pl86:List PE:=[]
def ct127:Ct DD:=⟨127,[125,3],[4,35],[[false],[false]],true,fun x Φ=>Z23 x.1 x.2.1 fun y=>Φ (y.1,y.2,())⟩
def pl127:List PE:=[]
def ct109:Ct DD:=⟨109,[39,60],[35],[[false]],true,fun x Φ=>Z25 x.1 x.2.1 fun y=>Φ (y,())⟩
def pl109:List PE:=[⟨[4,1,0,1,1,12,0,1,1],[],[],⟨[.int,.lst 4],[(0,.kp 0),(1,.kp 1),(2,.kp 2),(8,.own 0),(13,.kp 7),(14,.v .int)],[],[4],[]⟩,false,0⟩]
def ct79:Ct DD:=⟨79,[107],[35],[[false]],true,fun x Φ=>Z27 x.1 fun y=>Φ (y,())⟩
def pl79:List PE:=[⟨[4,1,0,1,1,1,1],[],[1,0],⟨[.int,.int],[(1,.kp 3),(5,.v .int),(23,.kp 21),(24,.kp 22),(25,.v .int)],[],[],[]⟩,false,0⟩]
def ct80:Ct DD:=⟨80,[41,72],[35],[[false]],true,fun x Φ=>q213 x.1 x.2.1 fun y=>Φ (y,())⟩
def pl80:List PE:=[]
def ct95:Ct DD:=⟨95,[79],[79],[[true]],false,fun x Φ=>Z28 x.1 fun y=>Φ (y,())⟩
def pl95:List PE:=[]
def ct128:Ct DD:=⟨128,[125],[125],[[false,true]],false,fun x Φ=>q175 x.1 fun y=>Φ (y,())⟩
def pl128:List PE:=[]
def ct110:Ct DD:=⟨110,[39],[39],[[true]],false,fun x Φ=>Z30 x.1 fun y=>Φ (y,())⟩
def pl110:List PE:=[⟨[4,1,0,1,1],[],[],⟨[.int,.lst 125],[(3,.own 0),(6,.kp 3),(7,.kp 4),(8,.v .int)],[],[125],[]⟩,false,0⟩]
def ct137:Ct DD:=⟨137,[76,3],[4],[[false]],true,fun x Φ=>q176 x.1 x.2.1 fun y=>Φ (y,())⟩
def pl137:List PE:=[]
def ct115:Ct DD:=⟨115,[3,3,3],[83],[[false]],true,fun x Φ=>q120 x.1 x.2.1 x.2.2.1 fun y=>Φ (y,())⟩
def pl115:List PE:=[]
def ct129:Ct DD:=⟨129,[83,83],[83],[[false]],true,fun x Φ=>Z31 x.1 x.2.1 fun y=>Φ (y,())⟩
def pl129:List PE:=[]
def ct111:Ct DD:=⟨111,[125,76],[125,35],[[false,true],[false]],false,fun x Φ=>q143 x.1 x.2.1 fun y=>Φ (y.1,y.2,())⟩
def pl111:List PE:=[⟨[4,1,0,1,1,1,1,13,0,1],[],[6,5,4,3,2,1,0],⟨[.int,.lst 83],[(3,.kp 11),(4,.kp 12),(5,.kp 13),(6,.kp 14),(9,.own 0),(27,.kp 31),(28,.v .int)],[],[83],[]⟩,false,0⟩]
def ct36:Ct DD:=⟨36,[107,72],[107,35],[[true,true],[false]],false,fun x Φ=>Z36 x.1 x.2.1 fun y=>Φ (y.1,y.2,())⟩
def pl36:List PE:=[⟨[4,1,0,1,1,11,0,1,1,1,1,1],[],[4,3,2,1,0],⟨[.int,.dm 3 161 125],[(3,.kp 10),(8,.kp 12),(9,.kp 13),(10,.v .int)],[],[],[(5,.dmp 3 161 false true 2 125)]⟩,false,0⟩,⟨[4,1,0,1,1,1,1,1,1],[],[4,3,1,0],⟨[.itr,.dm 3 161 125],[(2,.kp 27),(3,.kp 28),(4,.kp 29),(10,.kp 10),(39,.kp 53)],[(2,107,[.kp 17,.kp 18])],[],[(24,.itr 5),(5,.dmp 3 161 false true 2 125)]⟩,false,0⟩,⟨[4,1,0,1,1,14,0,1,12,0,1,1,1,1,1,1,1],[],[58,57,5,56,55,54,2,24,4,3,1,0],⟨[.int,.lst 161],[(0,.kp 10),(3,.own 0),(8,.kp 62),(9,.kp 63),(10,.v .int)],[],[161],[]⟩,false,0⟩,⟨[4,1,0,1,14,0,0,1,4,1,1,5,4,1,0,1,1,1,1,1,1],[],[56,55,24,5,2],⟨[.int,.lst 125],[(0,.kp 57),(10,.kp 61),(11,.kp 62),(12,.v .int)],[],[],[(54,.row 125)]⟩,false,0⟩]
def ct37:Ct DD:=⟨37,[107,3],[39,3,35],[[false],[false],[false]],false,fun x Φ=>Z38 x.1 x.2.1 fun y=>Φ (y.1,y.2.1,y.2.2,())⟩
def pl37:List PE:=[⟨[4,1,0,1,1,11,0,1,1],[],[1,0],⟨[.int,.mp 3 161],[(3,.kp 7),(8,.kp 9),(9,.kp 10),(10,.v .int)],[],[],[(2,.map 3 161 false true)]⟩,false,0⟩]
def ct84:Ct DD:=⟨84,[3,3],[4],[[false]],true,fun x Φ=>q230 x.1 x.2.1 fun y=>Φ (y,())⟩
def pl84:List PE:=[]
def ct85:Ct DD:=⟨85,[38],[4],[[false]],true,fun x Φ=>Z40 x.1 fun y=>Φ (y,())⟩
def pl85:List PE:=[⟨[4,1,0,1,1],[],[],⟨[.int,.int,.int,.int],[(3,.kp 4),(7,.kp 5),(8,.kp 6),(9,.v .int)],[(0,104,[.v .int,.v .int,.v .int])],[],[]⟩,false,0⟩]
def ct38:Ct DD:=⟨38,[43],[35],[[false]],true,fun x Φ=>q73 x.1 fun y=>Φ (y,())⟩
def pl38:List PE:=[⟨[4,1,0,1,1,1,1],[],[0],⟨[.int],[(1,.kp 2),(31,.kp 28),(32,.kp 29),(33,.v .int)],[],[],[]⟩,false,0⟩]
def ct14:Ct DD:=⟨14,[3,41,22,3,3],[43,4],[[false,true,false,false],[false]],false,fun x Φ=>Z45 x.1 x.2.1 x.2.2.1 x.2.2.2.1 x.2.2.2.2.1 fun y=>Φ (y.1,y.2,())⟩
def pl14:List PE:=[⟨[4,1,0,1,1,1,1,1],[24,25],[24,25,23,22,21],⟨[.int,.lst 3,.lst 161,.lst 50],[(2,.kp 4),(10,.kp 7),(12,.kp 12),(13,.kp 33),(15,.v .int)],[(26,107,[.v (.lst 3),.v (.lst 161)]),(1,43,[.kp 13,.kp 40,.kp 15,.v (.lst 50)]),(0,43,[.kp 17,.kp 18,.kp 19,.kp 20])],[],[]⟩,false,0⟩,⟨[0,1,1,1,4,0,1,5,4,1,0,1,1,1,1,1],[],[47,45,46,44,43,42,41,26,1,0],⟨[.bool],[(2,.kp 4),(10,.kp 7),(12,.kp 12),(13,.kp 33),(15,.kp 48),(17,.kp 66),(20,.kp 75),(74,.v .bool)],[],[],[]⟩,true,0⟩,⟨[1,1],[],[0],⟨[.lst 104],[(2,.kp 4),(10,.kp 7),(12,.kp 12)],[(1,43,[.kp 13,.own 0,.kp 15,.kp 16])],[104],[]⟩,true,0⟩]
def ct4:Ct DD:=⟨4,[27],[29,30,4],[[true],[true],[false]],false,fun x Φ=>Z48 x.1 fun y=>Φ (y.1,y.2.1,y.2.2,())⟩
def pl4:List PE:=[⟨[4,1,0,1,1,1,1,1,1,1],[],[29,28,2,1,0],⟨[.int,.lst 43,.lst 4],[(1,.kp 4),(7,.kp 36),(9,.own 0),(10,.own 1),(11,.v .int)],[],[43,4],[]⟩,false,0⟩,⟨[0,1,1],[],[2,1,0],⟨[.bool],[(1,.kp 4),(5,.kp 13),(6,.kp 14),(26,.v .bool)],[],[],[]⟩,true,0⟩]
def ct90:Ct DD:=⟨90,[50,50],[4],[[false]],true,fun x Φ=>Z49 x.1 x.2.1 fun y=>Φ (y,())⟩
def pl90:List PE:=[]
def ct45:Ct DD:=⟨45,[41,41],[4],[[false]],true,fun x Φ=>q177 x.1 x.2.1 fun y=>Φ (y,())⟩
def pl45:List PE:=[⟨[4,1,0,1,1,12,0,1],[],[],⟨[.int],[(1,.kp 1),(2,.kp 2),(15,.kp 9),(16,.kp 10),(17,.v .int)],[],[],[]⟩,false,0⟩]
def ct17:Ct DD:=⟨17,[29],[35],[[false]],true,fun x Φ=>q178 x.1 fun y=>Φ (y,())⟩
def pl17:List PE:=[⟨[4,1,0,1],[],[],⟨[.int],[(0,.kp 0),(8,.kp 2),(9,.kp 3),(10,.v .int)],[],[],[]⟩,false,0⟩,⟨[4,1,0,1,1,1],[],[],⟨[.int],[(0,.kp 0),(28,.kp 0),(29,.kp 13),(30,.v .int)],[],[],[]⟩,false,0⟩]
def ct42:Ct DD:=⟨42,[38],[119],[[false,false]],true,fun x Φ=>q214 x.1 fun y=>Φ (y,())⟩
def pl42:List PE:=[]
def ct113:Ct DD:=⟨113,[3],[4],[[false]],true,fun x Φ=>Z51 x.1 fun y=>Φ (y,())⟩
def pl113:List PE:=[]
def ct87:Ct DD:=⟨87,[3,3],[3],[[false]],true,fun x Φ=>Z52 x.1 x.2.1 fun y=>Φ (y,())⟩
def pl87:List PE:=[]
def ct43:Ct DD:=⟨43,[60,60],[3],[[false]],true,fun x Φ=>Z54 x.1 x.2.1 fun y=>Φ (y,())⟩
def pl43:List PE:=[⟨[4,1,0,1],[],[],⟨[.int],[(0,.kp 0),(1,.kp 1),(9,.kp 3),(10,.kp 4),(11,.v .int)],[],[],[]⟩,false,0⟩]
def ct41:Ct DD:=⟨41,[43,43],[3],[[false]],true,fun x Φ=>Z55 x.1 x.2.1 fun y=>Φ (y,())⟩
def pl41:List PE:=[]
def ct15:Ct DD:=⟨15,[29,30],[3,35],[[false],[false]],true,fun x Φ=>Z58 x.1 x.2.1 fun y=>Φ (y.1,y.2,())⟩
def pl15:List PE:=[⟨[4,1,0,1,1,12,0,1,1,1],[],[0],⟨[.int,.int],[(0,.kp 1),(1,.kp 2),(2,.kp 3),(7,.v .int),(10,.kp 6),(11,.kp 7),(12,.v .int)],[],[],[]⟩,false,0⟩,⟨[1,4,0,1,1,5,4,1,0,1,1,12,0,1,1,1],[10],[10],⟨[.bool],[(0,.kp 1),(1,.kp 2),(2,.kp 3),(7,.kp 11),(8,.kp 18),(10,.kp 6),(11,.kp 7),(12,.kp 12),(33,.v .bool)],[],[],[]⟩,true,0⟩,⟨[0,1,4,0,1,1,5,4,1,0,1,1,12,0,1,1,1],[],[],⟨[],[(0,.kp 0),(1,.kp 0),(3,.kp 0),(4,.kp 0),(6,.kp 0),(7,.kp 0),(8,.kp 0),(9,.kp 0),(10,.kp 0)],[],[0,0,0,1,2,3,4,5,6,7,8,9,10,11,12,13,14,15,16],[]⟩,false,0⟩]
def ct92:Ct DD:=⟨92,[83,83],[83],[[false]],true,fun x Φ=>q267 x.1 x.2.1 fun y=>Φ (y,())⟩
def pl92:List PE:=[]
def ct46:Ct DD:=⟨46,[125,125],[125,35],[[false,true],[false]],false,fun x Φ=>q179 x.1 x.2.1 fun y=>Φ (y.1,y.2,())⟩
def pl46:List PE:=[⟨[4,1,0,1,1,1,1,1,12,0,1],[],[5,4,3,2,1,0],⟨[.int,.lst 83],[(2,.kp 9),(3,.kp 10),(4,.kp 11),(6,.kp 12),(10,.own 0),(35,.kp 35),(36,.v .int)],[],[83],[]⟩,false,0⟩]
def ct116:Ct DD:=⟨116,[83],[3],[[false]],true,fun x Φ=>Z59 x.1 fun y=>Φ (y,())⟩
def it114:It DD:=⟨114,[125,3],[3],fun x l=>q87 x.1 x.2.1 l⟩
def pl114:List PE:=[⟨[4,1,1],[],[],⟨[.int],[(0,.kp 0),(1,.kp 3),(2,.kp 4),(10,.kp 9),(11,.kp 10),(12,.v .int)],[],[],[]⟩,false,0⟩,⟨[4,1,1,4,0,1,1,5,4,1,1],[],[],⟨[.word],[(0,.kp 0),(1,.kp 3),(2,.kp 4),(4,.kp 17),(5,.v .word),(10,.kp 9),(11,.kp 10),(12,.kp 12)],[],[],[]⟩,false,0⟩]
def ct47:Ct DD:=⟨47,[125],[51],[[true]],false,fun x Φ=>Z63 x.1 fun y=>Φ (y,())⟩
def pl47:List PE:=[⟨[4,1,0,1,1],[2,3],[3,2,0],⟨[.lst 76],[],[(1,51,[.own 0])],[76],[]⟩,false,0⟩]
def ct18:Ct DD:=⟨18,[43,43],[44],[[true]],false,fun x Φ=>Z65 x.1 x.2.1 fun y=>Φ (y,())⟩
def pl18:List PE:=[⟨[4,1,0,1,1],[],[1,0],⟨[.int,.lst 51],[(2,.kp 5),(3,.kp 6),(5,.own 0),(14,.kp 14),(15,.v .int)],[],[51],[]⟩,false,0⟩]
def ct19:Ct DD:=⟨19,[3,50,50,76],[34],[[true]],false,fun x Φ=>Z67 x.1 x.2.1 x.2.2.1 x.2.2.2.1 fun y=>Φ (y,())⟩
def pl19:List PE:=[⟨[4,1,0,1,1],[],[0],⟨[.int,.lst 72,.lst 70],[(0,.kp 1),(1,.kp 2),(2,.kp 3),(7,.kp 5),(9,.own 0),(10,.v .int)],[],[300072,70],[]⟩,false,0⟩]
def ct6:Ct DD:=⟨6,[29,3,3],[34,35],[[true],[false]],false,fun x Φ=>Z71 x.1 x.2.1 x.2.2.1 fun y=>Φ (y.1,y.2,())⟩
def pl6:List PE:=[⟨[4,1,0,1,1,1,1,1],[],[12,10,11],⟨[.int,.lst 72],[(9,.kp 18),(10,.kp 19),(11,.own 0),(43,.kp 23),(44,.kp 24),(45,.v .int)],[],[72],[]⟩,false,0⟩,⟨[4,1,1,4,0,1,1,5,4,1,0,1,1,1,1,1],[],[],⟨[.int,.lst 72],[(9,.kp 18),(10,.kp 19),(11,.own 0),(12,.kp 41),(43,.kp 23),(44,.kp 24),(45,.kp 36),(50,.kp 43),(51,.kp 44),(52,.v .int)],[],[72],[]⟩,false,0⟩,⟨[0,1,1],[],[],⟨[.bool],[(0,.kp 0),(1,.kp 1),(2,.kp 2),(32,.v .bool)],[],[],[]⟩,true,0⟩]
def ct88:Ct DD:=⟨88,[50,50],[4],[[false]],true,fun x Φ=>Z73 x.1 x.2.1 fun y=>Φ (y,())⟩
def pl88:List PE:=[⟨[4,1,0,1,1],[],[],⟨[.int],[(0,.kp 0),(1,.kp 1),(5,.v .int)],[],[],[]⟩,false,0⟩]
def ct44:Ct DD:=⟨44,[34,34],[4],[[false]],true,fun x Φ=>Z75 x.1 x.2.1 fun y=>Φ (y,())⟩
def pl44:List PE:=[⟨[4,1,0,1,1],[],[],⟨[.int],[(0,.kp 0),(1,.kp 1),(5,.v .int)],[],[],[]⟩,false,0⟩]
def ct16:Ct DD:=⟨16,[34,34],[4],[[false]],true,fun x Φ=>q306 x.1 x.2.1 fun y=>Φ (y,())⟩
def pl16:List PE:=[]
def ct5:Ct DD:=⟨5,[],[4],[[false]],true,fun _ Φ=>Z76 fun y=>Φ (y,())⟩
def pl5:List PE:=[]
def ct20:Ct DD:=⟨20,[3,3],[35],[[false]],true,fun x Φ=>Z78 x.1 x.2.1 fun y=>Φ (y,())⟩
def pl20:List PE:=[⟨[4,0,1],[],[],⟨[.bool],[(1,.kp 1),(5,.v .bool)],[],[],[]⟩,true,0⟩]
def it48:It DD:=⟨48,[50,3],[50],fun x l=>q28 x.1 x.2.1 l⟩
def pl48:List PE:=[⟨[4,1],[],[],⟨[.int],[(0,.kp 0),(1,.kp 3),(2,.kp 4),(4,.v .int)],[],[],[]⟩,false,0⟩,⟨[0,4,0,1,5,4,1],[],[],⟨[],[(0,.kp 0),(1,.kp 0),(2,.kp 0)],[],[0,0,0,1,2,3,4,5,6],[]⟩,false,0⟩]
def ct22:Ct DD:=⟨22,[50],[83],[[false]],true,fun x Φ=>Z82 x.1 fun y=>Φ (y,())⟩
def pl22:List PE:=[⟨[4,1,9,4,1,0,1,1,11,0,1],[],[0],⟨[.int,.word],[(0,.kp 2),(7,.kp 5),(8,.kp 6),(9,.v .int)],[(1,83,[.v .word])],[],[(3,.jmp)]⟩,false,0⟩,⟨[4,1,1,4,0,1,1,5,4,1,9,4,1,0,1,1,11,0,1],[],[10],⟨[.int,.word],[(0,.kp 2),(7,.kp 5),(8,.kp 6),(9,.kp 11),(13,.kp 16),(14,.v .int)],[(1,83,[.v .word])],[],[(3,.jmp)]⟩,false,0⟩]
def it117:It DD:=⟨117,[92],[5],fun x l=>q132 x.1 l⟩
def pl117:List PE:=[⟨[4,1],[],[],⟨[.int],[(0,.kp 0),(5,.kp 3),(6,.kp 4),(7,.v .int)],[],[],[]⟩,false,0⟩]
def ct94:Ct DD:=⟨94,[92],[83],[[false]],true,fun x Φ=>Z85 x.1 fun y=>Φ (y,())⟩
def pl94:List PE:=[⟨[4,1,0,1,1,11,0,1],[0],[0],⟨[.word],[],[(1,83,[.v .word])],[],[]⟩,false,0⟩]
def ct52:Ct DD:=⟨52,[83,83],[83],[[false]],true,fun x Φ=>Z87 x.1 x.2.1 fun y=>Φ (y,())⟩
def pl52:List PE:=[⟨[1,1],[],[],⟨[.byte,.byte,.byte,.byte,.byte,.byte,.byte,.byte,.byte,.byte,.byte,.byte,.byte,.byte,.byte,.byte],[(5,.kp 4)],[(0,183,[.v .byte,.v .byte,.v .byte,.v .byte,.v .byte,.v .byte,.v .byte,.v .byte,.v .byte,.v .byte,.v .byte,.v .byte,.v .byte,.v .byte,.v .byte,.v .byte])],[],[]⟩,true,0⟩,⟨[8,4,1,0,1,1],[],[],⟨[.lst 9],[],[],[9],[]⟩,false,0⟩]
def ct23:Ct DD:=⟨23,[3,3,79],[47],[[false,false,true]],false,fun x Φ=>Z90 x.1 x.2.1 x.2.2.1 fun y=>Φ (y,())⟩
def pl23:List PE:=[⟨[4,0,1,1,1],[],[0],⟨[.lst 83,.lst 79],[(2,.v (.lst 83)),(6,.kp 5),(7,.kp 9)],[(1,47,[.kp 10,.kp 11,.own 0])],[79],[]⟩,false,0⟩,⟨[4,1,0,1,1,11,1,1,4,5,4,0,1,1,1],[],[17,1,18],⟨[.int,.lst 83],[(0,.kp 19),(1,.kp 20),(5,.own 0),(6,.v .int)],[],[83],[]⟩,false,0⟩]
def ct7:Ct DD:=⟨7,[50,3],[47,35],[[false,false,true],[false]],false,fun x Φ=>Z92 x.1 x.2.1 fun y=>Φ (y.1,y.2,())⟩
def pl7:List PE:=[⟨[4,1,0,1,1,1],[2,3],[3,2,0],⟨[.lst 83],[],[(1,79,[.own 0])],[83],[]⟩,false,0⟩]
def ct55:Ct DD:=⟨55,[3,3],[3],[[false]],true,fun x Φ=>Z93 x.1 x.2.1 fun y=>Φ (y,())⟩
def pl55:List PE:=[]
def ct57:Ct DD:=⟨57,[79,79],[4],[[false]],true,fun x Φ=>Z95 x.1 x.2.1 fun y=>Φ (y,())⟩
def pl57:List PE:=[⟨[4,1,0,1,1],[],[],⟨[.int],[(0,.kp 0),(1,.kp 1),(12,.kp 9),(13,.v .int)],[],[],[]⟩,false,0⟩]
def ct25:Ct DD:=⟨25,[47],[35],[[false]],true,fun x Φ=>Z99 x.1 fun y=>Φ (y,())⟩
def pl25:List PE:=[⟨[4,1,0,1,1,1],[],[0],⟨[.int,.int],[(1,.kp 2),(4,.v .int),(22,.kp 19),(23,.kp 20),(24,.v .int)],[],[],[]⟩,false,0⟩,⟨[1,4,0,1,1,5,4,1,0,1,1,1],[],[],⟨[],[(1,.kp 2),(4,.kp 25),(22,.kp 19),(23,.kp 20),(24,.kp 26)],[],[],[]⟩,true,0⟩,⟨[4,1,0,1,1,14,0,0,1,1,1,1,1,1],[],[25,26,0],⟨[.int],[(1,.kp 24),(2,.kp 28),(15,.kp 34),(16,.kp 35),(17,.v .int)],[],[],[]⟩,false,0⟩]
def ct53:Ct DD:=⟨53,[47],[47],[[false,false,true]],false,fun x Φ=>Z101 x.1 fun y=>Φ (y,())⟩
def pl53:List PE:=[⟨[4,1,0,1,1],[],[1,0],⟨[.int,.lst 79],[(1,.kp 4),(2,.kp 5),(3,.own 0),(11,.kp 12),(12,.kp 13),(13,.v .int)],[],[79],[]⟩,false,0⟩]
def ct54:Ct DD:=⟨54,[135],[94],[[false,false,false,false,false,false,true,false]],false,fun x Φ=>Z103 x.1 fun y=>Φ (y,())⟩
def pl54:List PE:=[⟨[4,1,0,1,1],[],[0],⟨[.int,.lst 3],[(0,.kp 2),(2,.kp 3),(3,.own 0),(23,.kp 22),(24,.kp 23),(25,.v .int)],[],[3],[]⟩,false,0⟩]
def ct24:Ct DD:=⟨24,[47],[87,88,35],[[false,false,false,false,false,false,false,false],[true],[false]],false,fun x Φ=>Z104 x.1 fun y=>Φ (y.1,y.2.1,y.2.2,())⟩
def pl24:List PE:=[⟨[0,1,1,1],[4,2,3],[4,2,3],⟨[],[],[],[],[]⟩,false,0⟩]
def it96:It DD:=⟨96,[60,3],[60],fun x l=>q54 x.1 x.2.1 l⟩
def pl96:List PE:=[⟨[4,1],[],[],⟨[.int],[(0,.kp 0),(1,.kp 3),(2,.kp 4),(4,.v .int)],[],[],[]⟩,false,0⟩,⟨[0,4,0,1,5,4,1],[],[],⟨[],[(0,.kp 0),(1,.kp 0),(2,.kp 0)],[],[0,0,0,1,2,3,4,5,6],[]⟩,false,0⟩]
def ct59:Ct DD:=⟨59,[51,3],[35],[[false]],true,fun x Φ=>Z108 x.1 x.2.1 fun y=>Φ (y,())⟩
def pl59:List PE:=[⟨[4,1,0,1,1,1],[],[],⟨[.int,.int],[(1,.kp 1),(5,.v .int),(14,.kp 10),(15,.kp 11),(16,.v .int)],[],[],[]⟩,false,0⟩,⟨[3,1,4,0,1,4,0,1,1,5,4,1,0,1,1,1],[],[13],⟨[.bool],[(1,.kp 1),(5,.kp 14),(7,.kp 19),(14,.kp 10),(15,.kp 11),(16,.kp 15),(24,.v .bool)],[],[],[]⟩,true,0⟩]
def ct62:Ct DD:=⟨62,[83],[92],[[true]],false,fun x Φ=>q29 x.1 fun y=>Φ (y,())⟩
def pl62:List PE:=[⟨[4,1,0,1,1],[],[],⟨[.int,.lst 5],[(0,.kp 0),(3,.own 0),(5,.v .int)],[],[5],[]⟩,false,0⟩]
def ct26:Ct DD:=⟨26,[47,94],[94,35],[[false,false,false,false,false,false,true,true],[false]],false,fun x Φ=>Z116 x.1 x.2.1 fun y=>Φ (y.1,y.2,())⟩
def pl26:List PE:=[⟨[4,1,0,1,1,1,1],[41,42],[42,41,2,1,0],⟨[.lst 76],[],[(40,51,[.own 0])],[76],[]⟩,false,0⟩,⟨[4,1,9,4,1,0,1,1,1,1,1,1,1,1],[],[53,51,50,40,49,42,41,2,1,0],⟨[.int,.lst 5],[(0,.kp 54),(6,.kp 57),(7,.kp 58),(8,.v .int)],[(52,94,[.kp 61,.kp 62,.kp 63,.kp 64,.kp 65,.kp 66,.kp 67,.own 0])],[5],[(55,.jmp)]⟩,false,0⟩,⟨[4,1,1,4,0,1,1,5,4,1,9,4,1,0,1,1,1,1,1,1,1,1],[],[72],⟨[.int,.lst 5],[(0,.kp 54),(4,.kp 77),(6,.kp 57),(7,.kp 58),(8,.kp 73),(13,.kp 79),(14,.v .int)],[(52,94,[.kp 61,.kp 62,.kp 63,.kp 64,.kp 65,.kp 66,.kp 67,.own 0])],[5],[(55,.jmp)]⟩,false,0⟩,⟨[3,1,3,1,3,1,3,1,4,0,1,1],[],[2,1,0],⟨[.bool],[(2,.kp 5),(3,.kp 6),(4,.kp 7),(55,.v .bool)],[],[],[]⟩,true,0⟩,⟨[3,1,3,1,3,1,4,0,1,1],[],[2,1,0],⟨[.bool],[(2,.kp 5),(3,.kp 6),(4,.kp 7),(37,.v .bool)],[],[],[]⟩,true,0⟩,⟨[3,1,3,1,4,0,1,1],[],[2,1,0],⟨[.bool],[(2,.kp 5),(3,.kp 6),(4,.kp 7),(24,.v .bool)],[],[],[]⟩,true,0⟩]
def ct63:Ct DD:=⟨63,[87],[35],[[false]],true,fun x Φ=>Z119 x.1 fun y=>Φ (y,())⟩
def pl63:List PE:=[⟨[1,1,1,1],[],[0],⟨[.bool],[(4,.v .bool)],[],[],[]⟩,true,0⟩,⟨[1,1],[],[0],⟨[],[(1,.kp 2)],[],[],[]⟩,true,0⟩]
def ct64:Ct DD:=⟨64,[60,60],[4],[[false]],true,fun x Φ=>Z121 x.1 x.2.1 fun y=>Φ (y,())⟩
def pl64:List PE:=[⟨[4,1,0,1,1],[],[],⟨[.int],[(0,.kp 0),(1,.kp 1),(12,.kp 9),(13,.v .int)],[],[],[]⟩,false,0⟩]
def ct138:Ct DD:=⟨138,[76],[3,3,4],[[false],[false],[false]],true,fun x Φ=>Z124 x.1 fun y=>Φ (y.1,y.2.1,y.2.2,())⟩
def pl138:List PE:=[⟨[1,1,1],[],[0],⟨[.int],[(5,.kp 12),(6,.v .int)],[],[],[]⟩,true,0⟩,⟨[0,1,1,1],[],[],⟨[.bool],[(1,.kp 2),(5,.kp 12),(6,.kp 13),(23,.v .bool)],[],[],[]⟩,true,0⟩]
def ct140:Ct DD:=⟨140,[223,223],[3],[[false]],true,fun x Φ=>Z125 x.1 x.2.1 fun y=>Φ (y,())⟩
def pl140:List PE:=[]
def tn139:Tn DD:=⟨139,223,[140],fun xs Φ=>Z126 xs Φ⟩
def ct133:Ct DD:=⟨133,[44],[220],[[true]],false,fun x Φ=>q121 x.1 fun y=>Φ (y,())⟩
def pl133:List PE:=[⟨[4,1,0,1,1],[],[],⟨[.int,.lst 223],[(3,.own 0),(11,.kp 3),(12,.kp 4),(13,.v .int)],[],[223],[]⟩,false,0⟩,⟨[4,1,1,4,0,1,1,5,4,1,0,1,1],[],[],⟨[.int,.lst 223],[(3,.own 0),(4,.kp 13),(11,.kp 3),(12,.kp 4),(13,.kp 8),(18,.kp 15),(19,.kp 16),(20,.v .int)],[],[223],[]⟩,false,0⟩]
def ct120:Ct DD:=⟨120,[4,4],[4],[[false]],true,fun x Φ=>Z129 x.1 x.2.1 fun y=>Φ (y,())⟩
def pl120:List PE:=[]
def ct98:Ct DD:=⟨98,[51,51],[51],[[true]],false,fun x Φ=>Z143 x.1 x.2.1 fun y=>Φ (y,())⟩
def pl98:List PE:=[⟨[4,1,1,1,1,9,4,1,0,1,11,0,1,13,0,1],[],[7,6,2,1,0],⟨[.int,.bool,.int,.int,.int,.lst 76],[(0,.kp 4),(3,.kp 11),(5,.kp 16),(6,.kp 17),(7,.v .int),(8,.v .bool),(16,.kp 20),(17,.kp 21),(18,.v .int)],[(8,119,[.v .int,.v .int]),(3,51,[.own 0])],[76],[(5,.jmp)]⟩,false,0⟩,⟨[1,1,1,1,4,0,1,1,5,4,1,1,1,1,9,4,1,0,1,11,0,1,13,0,1],[],[8,30,3,5,29],⟨[.int],[(0,.kp 4),(3,.kp 11),(5,.kp 16),(6,.kp 17),(7,.v .int),(8,.kp 32),(10,.kp 38),(11,.kp 60),(16,.kp 20),(17,.kp 21),(18,.kp 33)],[],[],[]⟩,true,0⟩,⟨[0,1,1,1,1,4,0,1,1,5,4,1,1,1,1,9,4,1,0,1,11,0,1,13,0,1],[],[],⟨[.bool],[(0,.kp 4),(3,.kp 11),(5,.kp 16),(6,.kp 17),(7,.kp 31),(8,.kp 32),(10,.kp 38),(11,.kp 60),(16,.kp 20),(17,.kp 21),(18,.kp 33),(59,.v .bool)],[],[],[]⟩,true,0⟩,⟨[0,1,1,4,0,1,1,5,4,1,1,1,1,9,4,1,0,1,11,0,1,13,0,1],[],[8,30,3,5,29],⟨[.bool],[(0,.kp 4),(3,.kp 11),(5,.kp 16),(6,.kp 17),(7,.kp 31),(8,.kp 32),(10,.kp 38),(16,.kp 20),(17,.kp 21),(18,.kp 33),(46,.v .bool)],[],[],[]⟩,true,0⟩,⟨[1,1,1,1,4,0,1,1,5,4,1,1,1,1,9,4,1,0,1,11,0,1,13,0,1],[],[8,30,3,5,29],⟨[.int],[(0,.kp 4),(3,.kp 11),(5,.kp 16),(6,.kp 17),(7,.v .int),(8,.kp 32),(10,.kp 38),(11,.kp 60),(16,.kp 20),(17,.kp 21),(18,.kp 33)],[],[],[]⟩,true,0⟩,⟨[0,1,1,1,1,4,0,1,1,5,4,1,1,1,1,9,4,1,0,1,11,0,1,13,0,1],[],[],⟨[.bool],[(0,.kp 4),(3,.kp 11),(5,.kp 16),(6,.kp 17),(7,.kp 31),(8,.kp 32),(10,.kp 38),(11,.kp 60),(16,.kp 20),(17,.kp 21),(18,.kp 33),(59,.v .bool)],[],[],[]⟩,true,0⟩,⟨[0,1,1,4,0,1,1,5,4,1,1,1,1,9,4,1,0,1,11,0,1,13,0,1],[],[8,30,3,5,29],⟨[.bool],[(0,.kp 4),(3,.kp 11),(5,.kp 16),(6,.kp 17),(7,.kp 31),(8,.kp 32),(10,.kp 38),(16,.kp 20),(17,.kp 21),(18,.kp 33),(46,.v .bool)],[],[],[]⟩,true,0⟩,⟨[1,1,1,1,4,0,1,1,5,4,1,1,1,1,9,4,1,0,1,11,0,1,13,0,1],[],[8,30,3,5,29],⟨[.int],[(0,.kp 4),(3,.kp 11),(5,.kp 16),(6,.kp 17),(7,.v .int),(8,.kp 32),(10,.kp 38),(11,.kp 60),(16,.kp 20),(17,.kp 21),(18,.kp 33)],[],[],[]⟩,true,0⟩,⟨[0,1,1,1,1,4,0,1,1,5,4,1,1,1,1,9,4,1,0,1,11,0,1,13,0,1],[],[],⟨[.bool],[(0,.kp 4),(3,.kp 11),(5,.kp 16),(6,.kp 17),(7,.kp 31),(8,.kp 32),(10,.kp 38),(11,.kp 60),(16,.kp 20),(17,.kp 21),(18,.kp 33),(59,.v .bool)],[],[],[]⟩,true,0⟩,⟨[0,1,1,4,0,1,1,5,4,1,1,1,1,9,4,1,0,1,11,0,1,13,0,1],[],[8,30,3,5,29],⟨[.bool],[(0,.kp 4),(3,.kp 11),(5,.kp 16),(6,.kp 17),(7,.kp 31),(8,.kp 32),(10,.kp 38),(16,.kp 20),(17,.kp 21),(18,.kp 33),(46,.v .bool)],[],[],[]⟩,true,0⟩,⟨[1,1,1,1,4,0,1,1,5,4,1,1,1,1,9,4,1,0,1,11,0,1,13,0,1],[],[8,30,3,5,29],⟨[.int],[(0,.kp 4),(3,.kp 11),(5,.kp 16),(6,.kp 17),(7,.v .int),(8,.kp 32),(10,.kp 38),(11,.kp 60),(16,.kp 20),(17,.kp 21),(18,.kp 33)],[],[],[]⟩,true,0⟩,⟨[0,1,1,1,1,4,0,1,1,5,4,1,1,1,1,9,4,1,0,1,11,0,1,13,0,1],[],[],⟨[.bool],[(0,.kp 4),(3,.kp 11),(5,.kp 16),(6,.kp 17),(7,.kp 31),(8,.kp 32),(10,.kp 38),(11,.kp 60),(16,.kp 20),(17,.kp 21),(18,.kp 33),(59,.v .bool)],[],[],[]⟩,true,0⟩,⟨[0,1,1,4,0,1,1,5,4,1,1,1,1,9,4,1,0,1,11,0,1,13,0,1],[],[8,30,3,5,29],⟨[.bool],[(0,.kp 4),(3,.kp 11),(5,.kp 16),(6,.kp 17),(7,.kp 31),(8,.kp 32),(10,.kp 38),(16,.kp 20),(17,.kp 21),(18,.kp 33),(46,.v .bool)],[],[],[]⟩,true,0⟩]
def ct65:Ct DD:=⟨65,[51],[3],[[false]],true,fun x Φ=>Z145 x.1 fun y=>Φ (y,())⟩
def pl65:List PE:=[⟨[4,1,0,1,1],[],[0],⟨[.int,.int],[(3,.v .int),(7,.kp 5),(8,.kp 6),(9,.v .int)],[],[],[]⟩,false,0⟩]
def ct99:Ct DD:=⟨99,[92,92],[4],[[false]],true,fun x Φ=>Z147 x.1 x.2.1 fun y=>Φ (y,())⟩
def pl99:List PE:=[⟨[4,1,0,1,1],[],[],⟨[.int],[(0,.kp 0),(1,.kp 1),(12,.kp 9),(13,.v .int)],[],[],[]⟩,false,0⟩]
def ct27:Ct DD:=⟨27,[87,94],[87,88,35],[[false,false,true,true,false,false,false,false],[true],[false]],false,fun x Φ=>Z158 x.1 x.2.1 fun y=>Φ (y.1,y.2.1,y.2.2,())⟩
def pl27:List PE:=[⟨[4,1,0,1,1,11,0,1,1,1,1],[],[5,4,3,2,1,0],⟨[.int,.lst 3],[(0,.kp 7),(2,.kp 8),(3,.own 0),(23,.kp 27),(24,.kp 28),(25,.v .int)],[],[3],[]⟩,false,0⟩,⟨[4,1,9,4,1,0,1,1,13,0,1,1,1,1,1,1],[],[122,119,71,70,5,3,2,1,0],⟨[.int,.lst 5,.int,.lst 3],[(0,.kp 123),(6,.kp 126),(7,.kp 127),(8,.v .int)],[(121,60,[.own 0]),(120,92,[.v (.lst 5)]),(4,138,[.kp 38,.kp 39,.kp 40,.kp 41,.kp 42,.kp 43,.v .int,.kp 45])],[3],[(124,.jmp)]⟩,false,0⟩,⟨[4,1,1,4,0,1,1,5,4,1,9,4,1,0,1,1,13,0,1,1,1,1,1,1],[],[134],⟨[.int,.lst 5,.int,.lst 3],[(0,.kp 123),(4,.kp 139),(6,.kp 126),(7,.kp 127),(8,.kp 135),(13,.kp 141),(14,.v .int)],[(121,60,[.own 0]),(120,92,[.v (.lst 5)]),(4,138,[.kp 38,.kp 39,.kp 40,.kp 41,.kp 42,.kp 43,.v .int,.kp 45])],[3],[(124,.jmp)]⟩,false,0⟩,⟨[4,7,15,0,1,4,0,1,1,5,4,1,1,4,0,1,1,5,4,1,9,4,1,0,1,1,13,0,1,1,1,1,1,1],[],[120,4],⟨[.lst 3],[(2,.kp 149),(3,.kp 150)],[(121,60,[.own 0])],[3],[]⟩,true,0⟩,⟨[0,4,7,15,0,1,4,0,1,1,5,4,1,1,4,0,1,1,5,4,1,9,4,1,0,1,1,13,0,1,1,1,1,1,1],[],[121,148],⟨[.bool],[(2,.kp 149),(3,.kp 150),(5,.kp 152),(6,.kp 159),(23,.v .bool)],[],[],[]⟩,true,0⟩,⟨[0,0,4,7,15,0,1,4,0,1,1,5,4,1,1,4,0,1,1,5,4,1,9,4,1,0,1,1,13,0,1,1,1,1,1,1],[],[],⟨[],[(1,.kp 0),(4,.kp 0),(5,.kp 0),(6,.kp 0)],[],[1000,0],[]⟩,false,0⟩,⟨[4,1,0,1,1,12,2,1,4,0,1,1,1,1,1,1,1],[],[121,120,4,133,122,119,71,70,5,3,2,1,0],⟨[.int,.lst 76],[(0,.kp 91),(4,.own 0),(12,.kp 139),(13,.kp 140),(14,.v .int)],[],[76],[]⟩,false,0⟩,⟨[4,1,1,1,12,0,3,1,3,1,4,0,1,1,1,1,1,1,1],[],[121,120,133,122,119,71,70,5,3,2,1,0],⟨[.int,.lst 76],[(0,.kp 91),(21,.kp 145),(22,.kp 146),(23,.v .int)],[(4,138,[.kp 38,.kp 39,.kp 40,.own 0,.kp 151,.kp 43,.kp 152,.kp 45])],[76],[]⟩,false,0⟩,⟨[4,1,1,4,0,1,1,5,4,1,1,1,12,0,3,1,3,1,4,0,1,1,1,1,1,1,1],[],[154],⟨[.int,.lst 76],[(0,.kp 91),(21,.kp 145),(22,.kp 146),(23,.kp 155),(32,.kp 165),(33,.kp 166),(34,.v .int)],[(4,138,[.kp 38,.kp 39,.kp 40,.own 0,.kp 151,.kp 43,.kp 152,.kp 45])],[76],[]⟩,false,0⟩,⟨[0,1,3,1,3,1,4,0,1,1,1,1,1,1,1],[4],[4],⟨[],[(0,.kp 0),(1,.kp 0),(2,.kp 0),(3,.kp 0),(4,.kp 0)],[],[7,0,0,1,2,3,4,5,6,7,8,9,7,6,8,9],[]⟩,false,0⟩,⟨[4,1,0,1,1,15,0,1,3,1,3,1,4,0,1,1,1,1,1,1,1],[],[178,153,121,120,133,122,119,71,70,5,3,2,1,0],⟨[.int,.lst 3],[(0,.kp 91),(2,.kp 180),(3,.own 0),(23,.kp 194),(24,.kp 195),(25,.v .int)],[],[3],[]⟩,false,0⟩,⟨[3,1,3,1,4,0,1,1,1,1,1],[70],[71,70,5,4,3,2,1,0],⟨[.bool],[(3,.kp 75),(4,.kp 76),(8,.kp 91),(38,.v .bool)],[],[],[]⟩,true,0⟩]
def ct8:Ct DD:=⟨8,[47,47],[51,3,35],[[false],[false],[false]],false,fun x Φ=>q122 x.1 x.2.1 fun y=>Φ (y.1,y.2.1,y.2.2,())⟩
def pl8:List PE:=[⟨[4,0,1,1,1,1],[],[1,0],⟨[.int,.int,.int,.lst 79,.lst 76,.int,.lst 76,.int,.bool,.lst 94],[(3,.kp 7),(7,.kp 17),(8,.own 0),(9,.v .int)],[(3,87,[.v .int,.v .int,.v (.lst 79),.v (.lst 76),.v .int,.v (.lst 76),.v .int,.v .bool])],[94],[]⟩,false,0⟩,⟨[0,5,4,0,1,1,1,1],[],[3,36],⟨[.bool],[(3,.kp 7),(7,.kp 17),(8,.kp 37),(9,.kp 38),(43,.v .bool)],[],[],[]⟩,true,0⟩,⟨[1,1,1],[],[3,2,1,0],⟨[.int],[(3,.kp 7),(7,.kp 17),(8,.kp 18),(9,.v .int)],[],[],[]⟩,true,0⟩,⟨[1,1],[],[3,2,1,0],⟨[.int],[(2,.kp 6),(3,.kp 7),(7,.kp 17),(8,.kp 18),(9,.v .int)],[],[],[]⟩,true,0⟩]
def ct9:Ct DD:=⟨9,[50,50,47,47],[4],[[false]],true,fun x Φ=>Z170 x.1 x.2.1 x.2.2.1 x.2.2.2.1 fun y=>Φ (y,())⟩
def pl9:List PE:=[⟨[4,1,0,1,1],[],[1,0],⟨[.int],[(0,.kp 2),(1,.kp 3),(6,.kp 6),(7,.kp 7),(9,.v .int)],[],[],[]⟩,false,0⟩,⟨[4,1,0,1,1,1],[],[1,0],⟨[.int],[(6,.kp 6),(7,.kp 7),(10,.v .int)],[],[],[]⟩,false,0⟩,⟨[4,1,4,0,1,5,4,1,0,1,1,1],[],[],⟨[.int],[(6,.kp 6),(7,.kp 7),(10,.kp 32),(11,.v .int)],[],[],[]⟩,false,0⟩,⟨[4,1,0,1,4,0,1,5,4,1,4,0,1,5,4,1,0,1,1,1],[],[],⟨[.bool,.int],[(6,.kp 6),(7,.kp 7),(10,.kp 32),(11,.kp 38),(12,.v .bool),(13,.v .int)],[],[],[]⟩,false,0⟩,⟨[0,5,4,1,0,1,4,0,1,5,4,1,4,0,1,5,4,1,0,1,1,1],[],[],⟨[.bool],[(6,.kp 6),(7,.kp 7),(10,.kp 32),(11,.kp 38),(12,.kp 43),(13,.kp 44),(138,.v .bool)],[],[],[]⟩,true,0⟩,⟨[0,5,4,1,4,0,1,5,4,1,0,1,1,1],[],[],⟨[.bool],[(6,.kp 6),(7,.kp 7),(10,.kp 32),(11,.kp 38),(107,.v .bool)],[],[],[]⟩,true,0⟩,⟨[0,5,4,1,0,1,1],[],[],⟨[.bool],[(0,.kp 2),(1,.kp 3),(6,.kp 6),(7,.kp 7),(9,.kp 29),(54,.v .bool)],[],[],[]⟩,true,0⟩]
def ct29:Ct DD:=⟨29,[30],[51],[[true]],false,fun x Φ=>q215 x.1 fun y=>Φ (y,())⟩
def pl29:List PE:=[⟨[4,1,0,1,1],[],[],⟨[.int,.lst 76],[(0,.kp 0),(3,.own 0),(4,.v .int)],[],[76],[]⟩,false,0⟩,⟨[1,4,0,1,5,4,1,0,1,1],[],[4],⟨[.bool],[(0,.kp 0),(3,.kp 5),(4,.kp 6),(24,.v .bool)],[],[],[]⟩,true,0⟩]
def ct10:Ct DD:=⟨10,[34,3],[51],[[true]],false,fun x Φ=>Z174 x.1 x.2.1 fun y=>Φ (y,())⟩
def pl10:List PE:=[⟨[4,1,0,1,1],[],[],⟨[.int,.lst 4],[(0,.kp 1),(1,.kp 2),(5,.own 0),(6,.v .int)],[],[4],[]⟩,false,0⟩,⟨[2,1,4,0,1,5,4,1,0,1,1],[],[],⟨[],[],[],[13],[]⟩,false,0⟩,⟨[4,1,1,1,1,1,23,2,1,4,0,1,5,4,1,0,1,1],[],[18],⟨[.int,.lst 4],[(0,.kp 8),(5,.kp 38),(6,.v .int)],[],[],[(7,.row 4)]⟩,false,0⟩,⟨[1,1,1,23,2,1,4,0,1,5,4,1,0,1,1],[],[18,7],⟨[.int,.int],[(0,.kp 8),(4,.v .int),(5,.v .int)],[],[],[]⟩,true,0⟩]
def ct11:Ct DD:=⟨11,[44,44],[4],[[false]],true,fun x Φ=>Z177 x.1 x.2.1 fun y=>Φ (y,())⟩
def pl11:List PE:=[⟨[4,1,0,1,1],[],[],⟨[.int],[(0,.kp 0),(1,.kp 1),(5,.v .int)],[],[],[]⟩,false,0⟩,⟨[4,1,1,4,0,1,5,4,1,0,1,1],[],[],⟨[.int],[(0,.kp 0),(1,.kp 1),(5,.kp 9),(6,.v .int)],[],[],[]⟩,false,0⟩]
def ct3:Ct DD:=⟨3,[27,28],[4],[[false]],true,fun x Φ=>Z180 x.1 x.2.1 fun y=>Φ (y,())⟩
def pl3:List PE:=[⟨[4,1,0,1,1,1,1,1,1,1,1,1],[],[4,2,3,1,0],⟨[.int,.lst 51],[(5,.kp 16),(8,.kp 32),(9,.kp 33),(10,.kp 41),(12,.own 0),(13,.v .int)],[],[51],[]⟩,false,0⟩,⟨[4,1,0,1,1,1,1,1,1,1,1,1,1,1],[4],[83,4,2,3,1,0],⟨[.int,.lst 51],[(10,.kp 41),(12,.kp 84),(21,.own 0),(22,.v .int)],[],[51],[]⟩,false,0⟩]
def Eqn(cs:List (Ct DD))(pl:List PE)(S:List (List Nat×Nat))(K:List (Sk DD))(c:Ct DD):Prop:=∀ x Φ,c.W x Φ=topF ⟨Tryz.prog,tab,cs,pl,[],gh,[],S,K⟩ 9 c.f c.ps c.rs c.own x Φ
theorem eq27:Eqn [ct53,ct62,ct63,ct64,ct65,ct98,ct99] pl27 [] [] ct27:=fun x Φ=>by kernel_rfl
theorem eq115:Eqn [] pl115 [] [] ct115:=fun x Φ=>by kernel_rfl
theorem eq37:Eqn [ct79,ct110] pl37 [] [] ct37:=fun x Φ=>by kernel_rfl
theorem eq43:Eqn [ct87] pl43 [] [] ct43:=fun x Φ=>by kernel_rfl
theorem eq73:Eqn [ct103] pl73 [] [] ct73:=fun x Φ=>by kernel_rfl
theorem eq20:Eqn [] pl20 [] [] ct20:=fun x Φ=>by kernel_rfl
theorem eq137:Eqn [] pl137 [] [] ct137:=fun x Φ=>by kernel_rfl
theorem eq32:Eqn [] pl32 [] [] ct32:=fun x Φ=>by kernel_rfl
theorem eq92:Eqn [] pl92 [] [] ct92:=fun x Φ=>by kernel_rfl
theorem eq98:Eqn [ct120,ct133] pl98 [([1,1000025],2),([1,1000030],2)] [] ct98:=fun x Φ=>by kernel_rfl
theorem eq59:Eqn [] pl59 [] [] ct59:=fun x Φ=>by kernel_rfl
theorem eq44:Eqn [ct88] pl44 [] [] ct44:=fun x Φ=>by kernel_rfl
theorem eq86:Eqn [ct112] pl86 [] [] ct86:=fun x Φ=>by kernel_rfl
theorem eq53:Eqn [ct95] pl53 [] [] ct53:=fun x Φ=>by kernel_rfl
theorem eq106:Eqn [ct125] pl106 [] [] ct106:=fun x Φ=>by kernel_rfl
theorem eq41:Eqn [ct42,ct43] pl41 [] [] ct41:=fun x Φ=>by kernel_rfl
theorem eq128:Eqn [ct95] pl128 [] [] ct128:=fun x Φ=>by kernel_rfl
theorem eq120:Eqn [] pl120 [] [] ct120:=fun x Φ=>by kernel_rfl
theorem eq52:Eqn [ct94] pl52 [] [] ct52:=fun x Φ=>by kernel_rfl
theorem eq25:Eqn [ct20,ct23,ct55,ct57] pl25 [] [] ct25:=fun x Φ=>by kernel_rfl
theorem eq133(x:TupD DD ct133.ps)(Φ:TupD DD ct133.rs→Prop):ct133.W x Φ=topF ⟨Tryz.prog,tab,[ct138],pl133,[],gh,[tn139],[],[]⟩ 9 ct133.f ct133.ps ct133.rs ct133.own x Φ:=by kernel_rfl
theorem eq111:Eqn [ct86,ct95,ct115,ct129,ct137] pl111 [] [] ct111:=fun x Φ=>by kernel_rfl
theorem eq78:Eqn [] pl78 [] [] ct78:=fun x Φ=>by kernel_rfl
theorem eq109:Eqn [ct127] pl109 [] [] ct109:=fun x Φ=>by kernel_rfl
theorem eq64:Eqn [] pl64 [] [] ct64:=fun x Φ=>by kernel_rfl
theorem eq94(x:TupD DD ct94.ps)(Φ:TupD DD ct94.rs→Prop):ct94.W x Φ=topF ⟨Tryz.prog,tab,[],pl94,[it117],gh,[],[],[]⟩ 9 ct94.f ct94.ps ct94.rs ct94.own x Φ:=by kernel_rfl
theorem eq112:Eqn [] pl112 [] [] ct112:=fun x Φ=>by kernel_rfl
theorem eq72:Eqn [ct74] pl72 [] [] ct72:=fun x Φ=>by kernel_rfl
theorem eq113:Eqn [] pl113 [] [] ct113:=fun x Φ=>by kernel_rfl
theorem eq36:Eqn [ct12,ct60,ct79,ct80,ct110,ct111] pl36 [([10,0,1,11,0,1,1,1,1,1],125002),([10,0,4,1,1,5,4,1,0,1,1,1,1,1,1],125002),([10,0,11,0,0,1,1,14,0,1,12,0,1,1,1,1,1,1,1],125002),([11,0,0,1,1,1,1,1,1],125002),([13,1,1,4,1,1,5,4,1,0,1,1,1,1,1,1],125002),([14,1,1,4,0,1,1,5,4,1,0,1,1,11,0,1,1,1,1,1],125002)] [sk104] ct36:=fun x Φ=>by kernel_rfl
theorem eq14:Eqn [ct13,ct33,ct34,ct35,ct36,ct37,ct38] pl14 [] [] ct14:=fun x Φ=>by kernel_rfl
theorem eq34:Eqn [ct13] pl34 [] [] ct34:=fun x Φ=>by kernel_rfl
theorem eq11:Eqn [] pl11 [] [] ct11:=fun x Φ=>by kernel_rfl
theorem eq5:Eqn [ct6,ct12,ct13,ct14,ct15,ct16] pl5 [] [] ct5:=fun x Φ=>by kernel_rfl
theorem eq7(x:TupD DD ct7.ps)(Φ:TupD DD ct7.rs→Prop):ct7.W x Φ=topF ⟨Tryz.prog,tab,[ct20,ct22,ct23],pl7,[it48],gh,[],[],[]⟩ 9 ct7.f ct7.ps ct7.rs ct7.own x Φ:=by kernel_rfl
theorem eq24:Eqn [ct25,ct53,ct54] pl24 [] [] ct24:=fun x Φ=>by kernel_rfl
theorem eq45:Eqn [ct90] pl45 [] [] ct45:=fun x Φ=>by kernel_rfl
theorem eq87:Eqn [ct113] pl87 [] [] ct87:=fun x Φ=>by kernel_rfl
theorem eq42:Eqn [] pl42 [] [] ct42:=fun x Φ=>by kernel_rfl
theorem eq140:Eqn [ct87] pl140 [] [] ct140:=fun x Φ=>by kernel_rfl
theorem eq125:Eqn [] pl125 [] [] ct125:=fun x Φ=>by kernel_rfl
theorem eq9:Eqn [] pl9 [] [] ct9:=fun x Φ=>by kernel_rfl
theorem eq10:Eqn [ct29] pl10 [] [] ct10:=fun x Φ=>by kernel_rfl
theorem eq47(x:TupD DD ct47.ps)(Φ:TupD DD ct47.rs→Prop):ct47.W x Φ=topF ⟨Tryz.prog,tab,[],pl47,[it114],gh,[],[],[]⟩ 9 ct47.f ct47.ps ct47.rs ct47.own x Φ:=by kernel_rfl
theorem eq29:Eqn [] pl29 [] [] ct29:=fun x Φ=>by kernel_rfl
theorem eq38:Eqn [ct76,ct84,ct85,ct86] pl38 [] [] ct38:=fun x Φ=>by kernel_rfl
theorem eq85:Eqn [ct84] pl85 [] [] ct85:=fun x Φ=>by kernel_rfl
theorem eq12:Eqn [ct30,ct32] pl12 [] [] ct12:=fun x Φ=>by kernel_rfl
theorem eq57:Eqn [] pl57 [] [] ct57:=fun x Φ=>by kernel_rfl
theorem eq65:Eqn [ct98] pl65 [] [] ct65:=fun x Φ=>by kernel_rfl
theorem eq95:Eqn [] pl95 [] [] ct95:=fun x Φ=>by kernel_rfl
theorem eq74:Eqn [] pl74 [] [] ct74:=fun x Φ=>by kernel_rfl
theorem eq16:Eqn [ct44] pl16 [] [] ct16:=fun x Φ=>by kernel_rfl
theorem eq4:Eqn [ct12,ct13,ct14] pl4 [([9,12,0,0,4,0,1,5,4,1,0,1,1,1,1,1,1,1],3900120003)] [] ct4:=fun x Φ=>by kernel_rfl
theorem eq8:Eqn [ct24,ct25,ct26,ct27] pl8 [] [] ct8:=fun x Φ=>by kernel_rfl
theorem eq23(x:TupD DD ct23.ps)(Φ:TupD DD ct23.rs→Prop):ct23.W x Φ=topS ⟨Tryz.prog,tab,[ct52],pl23,[],gh,[],[],[]⟩ 9 ct23.f ct23.ps ct23.rs ct23.own x Φ:=by kernel_rfl
theorem eq46:Eqn [ct86,ct92] pl46 [] [] ct46:=fun x Φ=>by kernel_rfl
theorem eq15:Eqn [ct17,ct41] pl15 [] [] ct15:=fun x Φ=>by kernel_rfl
theorem eq22:Eqn [] pl22 [] [] ct22:=fun x Φ=>by kernel_rfl
theorem eq54:Eqn [] pl54 [] [] ct54:=fun x Φ=>by kernel_rfl
theorem eq88:Eqn [] pl88 [] [] ct88:=fun x Φ=>by kernel_rfl
theorem eq103:Eqn [ct112] pl103 [] [] ct103:=fun x Φ=>by kernel_rfl
theorem eq127:Eqn [ct86] pl127 [] [] ct127:=fun x Φ=>by kernel_rfl
theorem eq84:Eqn [] pl84 [] [] ct84:=fun x Φ=>by kernel_rfl
theorem eq129:Eqn [] pl129 [] [] ct129:=fun x Φ=>by kernel_rfl
theorem eq13:Eqn [] pl13 [] [] ct13:=fun x Φ=>by kernel_rfl
theorem eq26(x:TupD DD ct26.ps)(Φ:TupD DD ct26.rs→Prop):ct26.W x Φ=topF ⟨Tryz.prog,tab,[ct25,ct59,ct60,ct62],pl26,[it96],gh,[],[],[]⟩ 9 ct26.f ct26.ps ct26.rs ct26.own x Φ:=by kernel_rfl
theorem eq33:Eqn [ct12,ct60,ct72,ct73,ct74] pl33 [] [sk104] ct33:=fun x Φ=>by kernel_rfl
theorem eq63:Eqn [ct25,ct59] pl63 [] [] ct63:=fun x Φ=>by kernel_rfl
theorem eqi48(x:TupD DD it48.cs)(l:List (TupD DD it48.ts)):it48.W x l=iterF ⟨Tryz.prog,tab,[],pl48,[],gh,[],[],[]⟩ it48.f it48.cs it48.ts x l:=by kernel_rfl
theorem eq79:Eqn [ct12,ct72,ct74,ct109] pl79 [] [] ct79:=fun x Φ=>by kernel_rfl
theorem eq17:Eqn [ct38,ct45] pl17 [] [] ct17:=fun x Φ=>by kernel_rfl
theorem eq30:Eqn [ct71] pl30 [] [] ct30:=fun x Φ=>by kernel_rfl
theorem eq99:Eqn [] pl99 [] [] ct99:=fun x Φ=>by kernel_rfl
theorem eqi117(x:TupD DD it117.cs)(l:List (TupD DD it117.ts)):it117.W x l=iterF ⟨Tryz.prog,tab,[],pl117,[],gh,[],[],[]⟩ it117.f it117.cs it117.ts x l:=by kernel_rfl
theorem eq80:Eqn [ct76,ct78] pl80 [] [] ct80:=fun x Φ=>by kernel_rfl
theorem eq60:Eqn [] pl60 [] [] ct60:=fun x Φ=>by kernel_rfl
theorem eq71:Eqn [] pl71 [] [] ct71:=fun x Φ=>by kernel_rfl
theorem eq3:Eqn [ct4,ct5,ct6,ct7,ct8,ct9,ct10,ct11] pl3 [] [] ct3:=fun x Φ=>by kernel_rfl
theorem eq19:Eqn [] pl19 [([11,0,1,1,1],0),([19,3,1,1,1,4,0,1,5,4,1,0,1,1],70002),([20,3,1,1,1,4,0,1,5,4,1,0,1,1],0)] [] ct19:=fun x Φ=>by kernel_rfl
theorem eq6:Eqn [ct17,ct18,ct19] pl6 [] [] ct6:=fun x Φ=>by kernel_rfl
theorem eqi96(x:TupD DD it96.cs)(l:List (TupD DD it96.ts)):it96.W x l=iterF ⟨Tryz.prog,tab,[],pl96,[],gh,[],[],[]⟩ it96.f it96.cs it96.ts x l:=by kernel_rfl
theorem eqi114(x:TupD DD it114.cs)(l:List (TupD DD it114.ts)):it114.W x l=iterF ⟨Tryz.prog,tab,[ct86,ct115,ct116],pl114,[],gh,[],[],[]⟩ it114.f it114.cs it114.ts x l:=by kernel_rfl
theorem eq18:Eqn [ct46,ct47] pl18 [] [] ct18:=fun x Φ=>by kernel_rfl
theorem eq138:Eqn [] pl138 [] [] ct138:=fun x Φ=>by kernel_rfl
theorem eq62:Eqn [] pl62 [] [] ct62:=fun x Φ=>by kernel_rfl
theorem eq110:Eqn [ct128] pl110 [] [] ct110:=fun x Φ=>by kernel_rfl
theorem eq55:Eqn [] pl55 [] [] ct55:=fun x Φ=>by kernel_rfl
theorem eq76:Eqn [ct30,ct106] pl76 [] [] ct76:=fun x Φ=>by kernel_rfl
theorem eq90:Eqn [] pl90 [] [] ct90:=fun x Φ=>by kernel_rfl
end Go.Proofs.YtmfeabjhjhjfeaaGreatDoor
namespace Go.Proofs.YtmfeabjhjhjfeaaGreatDoor
open Go
def rwd{α:Type}:Result α→World
 | .ok _ w=>w
 | .halt _ w=>w
theorem ask_up{α:Type}(a:Ask α):∀ w:World,w.drawn≤(w.ask a).2.drawn:=by
 induction a with
 | done a=>intro w;exact Nat.le_refl _
 | ask what range k ih=>
  intro w;simp only [World.ask]
  split
  ·exact ih _ _
  ·exact Nat.le_trans (Nat.le_succ _) (ih _ { w with drawn:=w.drawn+1 })
theorem q911(w:World)(c:Sys):w.drawn≤(w.sys c).2.drawn:=by
 have h:=ask_up (Kernel.perform c w.os) w;unfold World.sys;generalize w.ask (Kernel.perform c w.os)=r at h;obtain⟨⟨r,os⟩,w'⟩:=r;cases r <;> first | exact h | exact Nat.le_refl _
theorem q509{p:Program}{w w':World}{a k:Addr}{u:TypeId}{v:Value}{b:Bool}{l:List Addr}(h:w.viewStore p a u k v b = .ok (w',l)):w'.drawn=w.drawn:=by
 unfold World.viewStore at h;simp only [bind,Except.bind,pure,Except.pure] at h
 (repeat' split at h) <;> first | contradiction | (simp only [Except.ok.injEq,Prod.mk.injEq] at h;obtain⟨rfl,_⟩:=h;rfl)
theorem q559{p:Program}{w w':World}{a:Addr}{v:Value}{b:Bool}{l:List Addr}(h:w.farStore p a v b = .ok (w',l)):w'.drawn=w.drawn:=by
 unfold World.farStore at h
 split at h
 ·split at h
  ·rename_i r hr
   simp only [Except.ok.injEq] at h;subst h;exact q509 hr
  ·contradiction
 ·contradiction
theorem q510(w:World)(a:Addr)(n:Nat):(w.freeze a n).drawn=w.drawn:=by
 unfold World.freeze;split <;> rfl
theorem q912{α:Type}(p:Program)(s:Sem α):∀ w:World,w.drawn≤(rwd (s.run p w)).drawn:=by
 induction s with
 | pure a=>intro w;exact Nat.le_refl _
 | load m a k ih=>
  intro w;simp only [Sem.run]
  split
  ·exact ih _ _
  ·split
   ·exact ih _ _
   ·exact Nat.le_refl _
 | store m a v k ih=>
  intro w
  have hk:w.drawn≤(rwd (match w.cell? a with
   | some _=>if w.frozen? a then Result.halt (.unsupported (.unsafePointer "a write to bytes that a string shares")) w else k.run p (w.setCell a v)
   | none=>match w.farStore p a v (m == .atomic) with
    | .ok (w,_)=>k.run p w
    | .error h=>.halt h w)).drawn:=by
   split
   ·split
    ·exact Nat.le_refl _
    ·exact ih (w.setCell a _)
   ·split
    ·rename_i hf
     exact Nat.le_trans (Nat.le_of_eq (q559 hf).symm) (ih _)
    ·exact Nat.le_refl _
  cases v <;> simp only [Sem.run] <;> first | exact hk | exact Nat.le_refl _
 | new o k ih=>intro w;exact ih _ { w with heap:=w.heap.push o }
 | shape r k ih=>intro w;exact ih _ _
 | freeze a n k ih=>intro w;exact Nat.le_trans (Nat.le_of_eq (q510 w a n).symm) (ih (w.freeze a n))
 | frozen a k ih=>intro w;exact ih _ _
 | getObj r k ih=>
  intro w;simp only [Sem.run]
  split
  ·exact Nat.le_refl _
  ·exact ih _ _
  ·exact Nat.le_refl _
 | setObj r o k ih=>
  intro w;simp only [Sem.run]
  split
  ·exact Nat.le_refl _
  ·exact ih { w with heap:=w.heap.setIfInBounds r o }
  ·exact Nat.le_refl _
 | choose q k ih=>
  intro w;simp only [Sem.run]
  split
  ·exact ih _ _
  ·exact Nat.le_trans (Nat.le_succ _) (ih _ { w with drawn:=w.drawn+1 })
 | sys c k ih=>intro w;exact Nat.le_trans (q911 w c) (ih _ _)
 | program k ih=>intro w;exact ih _ _
 | mark m k ih=>intro w;exact ih _
 | halt h=>intro w;exact Nat.le_refl _
theorem q60{α:Type}{p:Program}{s:Sem α}{w w':World}{a:α}(h:s.run p w = .ok a w'):w.drawn≤w'.drawn:=by
 have:=q912 p s w;rw [h] at this;exact this
theorem q53{α:Type}{p:Program}{s:Sem α}{w w':World}{x:Halt}(h:s.run p w = .halt x w'):w.drawn≤w'.drawn:=by
 have:=q912 p s w;rw [h] at this;exact this
def gw:GStep→World
 | .go _ w _=>w
 | .comm _ _ _ _ w _=>w
 | .spawn _ _ w _=>w
 | .count _ w _=>w
 | .timer _ _ w _=>w
 | .alone _ _ w _=>w
 | .newcoro _ _ _ w _=>w
 | .coroswitch _ _ _ w _=>w
 | .collect _ w _=>w
 | .watch _ w _=>w
 | .ended _ w _=>w
theorem q66(es:Array Event)(s:GStep):gw (s.after es)=gw s:=by cases s <;> rfl
theorem gw_go(g:Goroutine)(w:World)(es:Array Event):gw (.go g w es)=w:=rfl
theorem q114(g:Goroutine)(c:Array CommCase)(b:Bool)(s:CommShape)(w:World)(es:Array Event):gw (.comm g c b s w es)=w:=rfl
theorem q80(g c:Goroutine)(w:World)(es:Array Event):gw (.spawn g c w es)=w:=rfl
theorem q81(g:Goroutine)(w:World)(es:Array Event):gw (.count g w es)=w:=rfl
theorem q82(g:Goroutine)(o:TimerOp)(w:World)(es:Array Event):gw (.timer g o w es)=w:=rfl
theorem q83(g:Goroutine)(o:Bool)(w:World)(es:Array Event):gw (.alone g o w es)=w:=rfl
theorem q47(g:Goroutine)(c:Nat)(d:Deferred)(w:World)(es:Array Event):gw (.newcoro g c d w es)=w:=rfl
theorem q32(g:Goroutine)(c:Nat)(x:Bool)(w:World)(es:Array Event):gw (.coroswitch g c x w es)=w:=rfl
theorem q48(g:Goroutine)(w:World)(es:Array Event):gw (.collect g w es)=w:=rfl
theorem q84(g:Goroutine)(w:World)(es:Array Event):gw (.watch g w es)=w:=rfl
theorem q85(o:Outcome)(w:World)(es:Array Event):gw (.ended o w es)=w:=rfl
theorem q181(fr:Frame)(m:String)(w:World):gw (endThrow fr m w)=w:=rfl
theorem q656(w:World)(fd:Nat)(t:ByteArray)(o:Outcome):w.drawn≤(gw (endWith w fd t o)).drawn:=by
 have h:=q911 w (.write fd t);unfold endWith;generalize w.sys (.write fd t)=r at h;obtain⟨r,w'⟩:=r;cases r <;> simp only <;> (try split) <;> exact h
theorem q240(p:Program)(fr:Frame)(v:Value)(w:World):gw (endPrinting p fr v w)=w:=by
 unfold endPrinting;simp only
 split <;> rfl
theorem q366(p:Program)(fr:Frame)(cs:List Frame)(d:Option Dying)(m:String)(w:World):w.drawn≤(gw (endFatal p fr cs d m w)).drawn:=by
 unfold endFatal
 extract_lets chain raw shown
 clear_value shown
 split <;> (repeat (first | rw [q66] | rw [gw_go] | rw [q114] | rw [q80] | rw [q81] | rw [q82] | rw [q83] | rw [q47] | rw [q32] | rw [q48] | rw [q84] | rw [q85])) <;> (first | exact Nat.le_refl _ | exact q60 (by assumption) | exact q53 (by assumption))
theorem q657(p:Program)(fr:Frame)(d:Dying)(f:Fatal)(w:World):w.drawn≤(gw (writeOn p fr d f w)).drawn:=by
 unfold writeOn
 extract_lets on
 split
 ·exact Nat.le_refl _
 ·extract_lets write
  clear_value write;simp only [Sem.runT_eq]
  split <;> rename_i h <;> simp only [Prod.mk.injEq] at h <;> (try simp only [on]) <;> (repeat (first | rw [q66] | rw [gw_go] | rw [q114] | rw [q80] | rw [q81] | rw [q82] | rw [q83] | rw [q47] | rw [q32] | rw [q48] | rw [q84] | rw [q85])) <;> first | exact q60 h.1 | exact q53 h.1
theorem die_up(p:Program)(fr:Frame)(d:Dying)(w:World):w.drawn≤(gw (die p fr d w)).drawn:=by
 unfold die
 split
 ·exact q657 _ _ _ _ _
 ·split
  ·split
   ·exact Nat.le_refl _
   ·exact q656 _ _ _ _
  ·simp only [Sem.runT_eq]
   (repeat' split) <;> (repeat (first | rw [q66] | rw [gw_go] | rw [q114] | rw [q80] | rw [q81] | rw [q82] | rw [q83] | rw [q47] | rw [q32] | rw [q48] | rw [q84] | rw [q85])) <;> (try simp only [q240]) <;> (first | exact Nat.le_refl _ | exact q60 (by assumption) | exact q53 (by assumption))
theorem q367(p:Program)(main:Bool)(fr:Frame)(cs:List Frame)(d:Option Dying)(v:Value)(w:World):gw (doReturn p main fr cs d v w)=w:=by
 unfold doReturn
 (repeat' split) <;> rfl
theorem q368(p:Program)(fr:Frame)(cs:List Frame)(dy:Option Dying)(d:Deferred)(w:World):w.drawn≤(gw (callDeferred p fr cs dy d w)).drawn:=by
 unfold callDeferred;simp only [Sem.runT_eq]
 (repeat' split) <;> (repeat (first | rw [q66] | rw [gw_go] | rw [q114] | rw [q80] | rw [q81] | rw [q82] | rw [q83] | rw [q47] | rw [q32] | rw [q48] | rw [q84] | rw [q85])) <;> (try simp only [q181]) <;> first | (first | exact Nat.le_refl _ | exact q60 (by assumption) | exact q53 (by assumption)) | exact Nat.le_trans (q53 (by assumption)) (q366 _ _ _ _ _ _)
theorem q766(p:Program)(main:Bool)(fr:Frame)(cs:List Frame)(dy:Option Dying)(w:World):w.drawn≤(gw (unwind p main fr cs dy w)).drawn:=by
 unfold unwind;simp only [Sem.runT_eq]
 (repeat' split) <;> (repeat (first | rw [q66] | rw [gw_go] | rw [q114] | rw [q80] | rw [q81] | rw [q82] | rw [q83] | rw [q47] | rw [q32] | rw [q48] | rw [q84] | rw [q85])) <;> (try simp only [q367,q240]) <;> first | (first | exact Nat.le_refl _ | exact q60 (by assumption) | exact q53 (by assumption)) | exact q368 _ _ _ _ _ _
theorem q849(p:Program)(fr:Frame)(cs:List Frame)(dy:Option Dying)(g:Nat)(w:World):w.drawn≤(gw (early p fr cs dy g w)).drawn:=by
 unfold early
 extract_lets refuse notYet
 have hn:∀ w',w.drawn≤w'.drawn→w.drawn≤(gw (notYet w')).drawn:=fun w' h=>by
  simp only [notYet]
  (repeat' split) <;> (repeat (first | rw [q66] | rw [gw_go] | rw [q114] | rw [q80] | rw [q81] | rw [q82] | rw [q83] | rw [q47] | rw [q32] | rw [q48] | rw [q84] | rw [q85])) <;> exact h
 have hr:w.drawn≤(gw refuse).drawn:=Nat.le_refl _;clear_value refuse notYet
 (repeat' split) <;> (repeat (first | rw [q66] | rw [gw_go] | rw [q114] | rw [q80] | rw [q81] | rw [q82] | rw [q83] | rw [q47] | rw [q32] | rw [q48] | rw [q84] | rw [q85])) <;> first | exact hr | exact hn _ (Nat.le_refl _) | exact hn _ (q60 (by assumption)) | (first | exact Nat.le_refl _ | exact q60 (by assumption) | exact q53 (by assumption))
theorem q332(p:Program)(l:Bool)(fr:Frame)(cs:List Frame)(dy:Option Dying)(s:Sem Next)(w:World):w.drawn≤(gw (stepG.apply p l fr cs dy s w)).drawn:=by
 unfold stepG.apply
 have hs:(if l=true then s.runT p w #[] else(s.run p w,#[])).1=s.run p w:=by
  cases l <;> simp [Sem.runT_eq]
 generalize (if l=true then s.runT p w #[] else(s.run p w,#[]))=r at hs;obtain⟨r,es⟩:=r;simp only at hs;subst hs;simp only [q66]
 (repeat' split) <;> (repeat (first | rw [q66] | rw [gw_go] | rw [q114] | rw [q80] | rw [q81] | rw [q82] | rw [q83] | rw [q47] | rw [q32] | rw [q48] | rw [q84] | rw [q85])) <;> (try simp only [q181]) <;> first | (first | exact Nat.le_refl _ | exact q60 (by assumption) | exact q53 (by assumption)) | exact Nat.le_trans (q53 (by assumption)) (q366 _ _ _ _ _ _) | exact Nat.le_trans (q53 (by assumption)) (q849 _ _ _ _ _ _)
theorem q767(p:Program)(l:Bool)(fr:Frame)(cs:List Frame)(dy:Option Dying)(w:World):w.drawn≤(gw (stepG.oper p l fr cs dy w)).drawn:=by
 unfold stepG.oper
 (repeat' split) <;> (repeat (first | rw [q66] | rw [gw_go] | rw [q114] | rw [q80] | rw [q81] | rw [q82] | rw [q83] | rw [q47] | rw [q32] | rw [q48] | rw [q84] | rw [q85])) <;> first | (first | exact Nat.le_refl _ | exact q60 (by assumption) | exact q53 (by assumption)) | exact q332 _ _ _ _ _ _ _
theorem q768{α:Type}(d:Nat)(o:Option α)(x:GStep)(f:α→GStep)(hx:d≤(gw x).drawn)(hf:∀ a,d≤(gw (f a)).drawn):d≤(gw (o.elim x f)).drawn:=by
 cases o
 ·exact hx
 ·exact hf _
theorem exec_up(p:Program)(main l:Bool)(fr:Frame)(cs:List Frame)(dy:Option Dying)(w:World):w.drawn≤(gw (stepG.exec p main l fr cs dy w)).drawn:=by
 unfold stepG.exec
 extract_lets go to lost leave
 have hgo:∀ fr w',w.drawn≤w'.drawn→w.drawn≤(gw (go fr w')).drawn:=fun _ _ h=>h;have hto:∀ k,w.drawn≤(gw (to k)).drawn:=fun _=>Nat.le_refl _;have hlost:∀ s,w.drawn≤(gw (lost s)).drawn:=fun _=>Nat.le_refl _
 have hleave:∀ j,w.drawn≤(gw (leave j)).drawn:=fun j=>by
  simp only [leave];clear_value go to lost leave
  split
  ·split <;> first | exact hgo _ _ (Nat.le_refl _) | exact hlost _ | (split <;> first | exact hgo _ _ (Nat.le_refl _) | exact hlost _)
  ·simp only [Sem.runT_eq,q66]
   split
   ·rw [q367];(first | exact Nat.le_refl _ | exact q60 (by assumption) | exact q53 (by assumption))
   ·(repeat (first | rw [q66] | rw [gw_go] | rw [q114] | rw [q80] | rw [q81] | rw [q82] | rw [q83] | rw [q47] | rw [q32] | rw [q48] | rw [q84] | rw [q85])) <;> (first | exact Nat.le_refl _ | exact q60 (by assumption) | exact q53 (by assumption))
 clear_value go to lost leave;simp only [Sem.runT_eq]
 split
 all_goals first
  | exact hleave _
  | exact hto _
  | exact hlost _
  | exact q767 _ _ _ _ _ _
  | exact q332 _ _ _ _ _ _ _
  | exact q768 _ _ _ _ (hleave _) hto
  | exact q768 _ _ _ _ (hlost _) fun _=>q332 _ _ _ _ _ _ _
  | ((repeat' split) <;> (repeat (first | rw [q66] | rw [gw_go] | rw [q114] | rw [q80] | rw [q81] | rw [q82] | rw [q83] | rw [q47] | rw [q32] | rw [q48] | rw [q84] | rw [q85])) <;> (repeat' split) <;> (repeat (first | rw [q66] | rw [gw_go] | rw [q114] | rw [q80] | rw [q81] | rw [q82] | rw [q83] | rw [q47] | rw [q32] | rw [q48] | rw [q84] | rw [q85])) <;> first
    | exact hleave _
    | exact hto _
    | exact hlost _
    | (first | exact Nat.le_refl _ | exact q60 (by assumption) | exact q53 (by assumption))
    | exact q767 _ _ _ _ _ _
    | exact hgo _ _ (Nat.le_refl _)
    | exact hgo _ _ (q60 (by assumption))
    | exact hgo _ _ (q53 (by assumption))
    | exact Nat.le_trans (q60 (by assumption)) (q332 _ _ _ _ _ _ _))
theorem q850(p:Program)(main:Bool)(g:Goroutine)(w:World)(l:Bool):w.drawn≤(gw (stepG p main g w l)).drawn:=by
 unfold stepG;obtain⟨fr,cs,st,dy,of⟩:=g;simp only
 split
 ·exact die_up _ _ _ _
 ·exact exec_up _ _ _ _ _ _ _
 ·exact q766 _ _ _ _ _ _
def upS(d:Nat):Stepped→Prop
 | .next m=>d≤m.world.drawn
 | .ended _ _=>True
theorem q49{d:Nat}{m:Machine}(h:d≤m.world.drawn):upS d (.next m):=h
theorem q25{d:Nat}{o:Outcome}{w:World}:upS d (.ended o w):=trivial
theorem q369{d d':Nat}{s:Stepped}(h:d≤d')(hs:upS d' s):upS d s:=by
 cases s with
 | next m=>exact Nat.le_trans h hs
 | ended o w=>trivial
theorem q560(p:Program)(gs:Array Goroutine)(rest:Rest)(w:World):upS w.drawn (look p gs rest w):=by
 unfold look
 split
 ·split
  extract_lets set
  split
  split
  ·exact q25
  ·split
   ·exact q25
   ·extract_lets pick
    clear_value pick
    split
    ·rename_i h
     exact q49 (q60 h:w.drawn≤_)
    ·exact q25
    ·exact q25
 ·exact q25
theorem q370{rest:Rest}{cs:Array CommCase}{w w':World}(h:waitingAt rest cs w=some w'):w'.drawn=w.drawn:=by
 unfold waitingAt at h
 split at h
 ·split at h
  ·simp only [Option.some.injEq] at h;subst h;rfl
  ·contradiction
 ·simp only [Option.some.injEq] at h;subst h;rfl
theorem q387(p:Program)(rest:Rest)(gs:Array Goroutine)(i:Nat)(g:Goroutine)(cs:Array CommCase)(b:Bool)(s:CommShape)(w:World) :
  upS w.drawn (communicate p rest gs i g cs b s w).1:=by
 unfold communicate
 extract_lets put illMade me other ready pick
 have hput:∀ g gs w' ops,w.drawn≤w'.drawn→upS w.drawn (put g gs w' ops).1:=fun _ _ _ _ h=>h;clear_value put illMade me other ready pick
 split
 ·exact q25
 ·split
  ·split
   ·split
    ·rename_i h
     exact q49 (Nat.le_of_eq (q370 h).symm)
    ·exact q25
   ·exact hput _ _ _ _ (Nat.le_refl _)
  ·split
   ·exact q25
   ·rename_i h1
    have hl:=q60 h1;clear h1;simp only
    (repeat' split) <;> first
     | exact q25
     | exact hput _ _ _ _ hl
     | (refine hput _ _ _ _ (Nat.le_trans hl ?_);(try dsimp only);exact q60 (by assumption))
     | (refine hput _ _ _ _ (Nat.le_trans hl ?_);(try dsimp only);exact q53 (by assumption))
theorem q561(w:World)(c:Nat):(drain w c).2.drawn=w.drawn:=by
 unfold drain
 split <;> rfl
theorem q307(m:Machine)(k:Nat)(t:Timer)(a b:Nat):(retime m k t a b).2.world.drawn=m.world.drawn:=by
 unfold retime;cases t.chan with
 | none=>rfl
 | some c=>exact q561 m.world c
theorem q460{m m':Machine}{op:TimerOp}{v:Value}(h:timerOp m op = .ok (v,m')):m'.world.drawn=m.world.drawn:=by
 have hn:∀ (n:Machine) var f,(∀ k t,(f k t).2.world.drawn=n.world.drawn)→timerOp.named m var f = .ok (v,m')→m'.world.drawn=n.world.drawn:=fun n var f hf h=>by
  unfold timerOp.named at h
  split at h
  ·simp only [Except.ok.injEq] at h
   rw [← hf,h]
  ·contradiction
 unfold timerOp at h
 split at h
 ·split at h
  ·simp only [Except.ok.injEq,Prod.mk.injEq] at h
   obtain⟨_,rfl⟩:=h;rfl
  ·split at h
   ·split at h
    ·contradiction
    ·simp only [Except.ok.injEq,Prod.mk.injEq] at h
     obtain⟨_,rfl⟩:=h;rfl
   ·contradiction
 ·exact hn m _ _ (fun k t=>q307 _ _ _ _ _) h
 ·split at h
  ·rename_i m2 ho
   have h2:=hn m2 _ _ (fun k t=>q307 _ _ _ _ _) h;rw [h2];unfold timerOp.opened at ho
   (repeat' split at ho) <;> first | contradiction | (simp only [Option.some.injEq] at ho;subst ho;rfl)
  ·contradiction
 ·simp only [Except.ok.injEq,Prod.mk.injEq] at h
  obtain⟨_,rfl⟩:=h;rfl
theorem q851(p:Program)(m:Machine)(k:Nat):upS m.world.drawn (serve p m k):=by
 unfold serve
 split
 ·exact q25
 ·exact q49 (Nat.le_refl _)
 ·simp only
  split
  ·exact q25
  ·exact q49 (Nat.le_refl _)
def upM(d:Nat):Move→Prop
 | .goroutine m _=>d≤m.world.drawn
 | .machine s _=>upS d s
theorem q628{d:Nat}{m:Machine}{i:Nat}(h:d≤m.world.drawn):upM d (.goroutine m i):=h
theorem q156{d:Nat}{s:Stepped}{o:Array MemOp}(h:upS d s):upM d (.machine s o):=h
theorem q461(p:Program)(m:Machine):upM m.world.drawn (askOn p m):=by
 unfold askOn
 extract_lets mono rs ds pick
 have hp:∀ m':Machine,upM m'.world.drawn (pick m'):=fun m'=>by
  simp only [pick]
  split
  ·exact q156 q25
  ·rename_i h1
   have h1:=q60 h1
   split
   ·exact q628 h1
   ·split
    ·exact q156 q25
    ·rename_i h2
     exact q628 (Nat.le_trans h1 (q60 h2))
 have hp':∀ m':Machine,m.world.drawn≤m'.world.drawn→upM m.world.drawn (pick m'):=fun m' h=>by
  have:=hp m';generalize pick m'=r at this;cases r with
  | goroutine m i=>exact Nat.le_trans h this
  | machine s o=>exact q369 h this
 clear_value pick;clear hp;clear_value rs ds mono
 split
 ·exact q156 q25
 ·rename_i h1
  have hl:=q60 h1;clear h1;simp only
  split
  ·exact q156 (q369 hl (q851 _ _ _))
  ·split
   ·split
    ·exact q156 (q49 hl)
    ·split
     ·exact q156 (q49 hl)
     ·split
      ·exact q156 q25
      ·exact q156 q25
   ·split
    ·exact hp' _ hl
    ·split
     ·exact q156 q25
     ·rename_i h2
      have h2:=q60 h2;exact hp' _ (Nat.le_trans hl h2)
     ·rename_i h2
      have h2:=q60 h2;exact q156 (q49 (Nat.le_trans hl h2))
     ·rename_i h2
      have h2:=q60 h2;exact hp' _ (Nat.le_trans hl h2)
theorem q913{d d':Nat}{s:Move}(h:d≤d')(hs:upM d' s):upM d s:=by
 cases s with
 | goroutine m i=>exact Nat.le_trans h hs
 | machine s o=>exact q369 h hs
theorem q769(p:Program)(m:Machine):upM m.world.drawn (ask p m):=by
 unfold ask
 split
 ·split
  ·exact q156 q25
  ·rename_i h1
   have h1:=q60 h1
   split
   ·rename_i w' _ _ m' h2
    have h3:=q560 p m.gs m.rest w';rw [h2] at h3;exact q913 (Nat.le_trans h1 h3) (q461 _ _)
   ·rename_i w' _ _ _
    exact q156 (q369 h1 (q560 _ _ _ _))
  ·rename_i h1
   have h1:=q60 h1;exact q913 h1 (q461 _ _)
 ·exact q461 _ _
theorem move_up(p:Program)(m:Machine):upM m.world.drawn (move p m):=by
 unfold move
 split
 ·split
  ·exact q628 (Nat.le_refl _)
  ·exact q156 q25
 ·split
  ·split
   ·exact q628 (Nat.le_refl _)
   ·exact q769 _ _
  ·exact q769 _ _
theorem runT_up(p:Program)(m:Machine)(i:Nat)(l:Bool):upS m.world.drawn (runT p m i l).1:=by
 unfold runT
 extract_lets rest world
 split
 extract_lets wake fn pos s ops done
 have hs:m.world.drawn≤(gw s).drawn:=q850 _ _ _ _ _;clear_value s;cases s <;> simp only [done] <;> simp only [gw] at hs
 case ended=>exact q25
 case comm=>exact q369 hs (q387 _ _ _ _ _ _ _ _ _)
 case go=>exact q49 hs
 case spawn=>exact q49 hs
 case count=>
  split
  ·exact q25
  ·exact q49 hs
 case alone=>exact q49 hs
 case collect=>exact q369 hs (q560 _ _ _ _)
 case watch=>exact q49 hs
 case newcoro=>exact q49 hs
 case coroswitch=>
  split
  ·exact q49 hs
  ·split
   ·rename_i g w es he
    have h:=congrArg gw he;rw [q181] at h;simp only [gw] at h;exact q49 (h ▸ hs)
   ·exact q25
  ·exact q25
 case timer=>
  split
  ·rename_i ht
   exact q49 (Nat.le_trans hs (Nat.le_of_eq (q460 ht).symm))
  ·split
   ·rename_i g w es he
    have h:=congrArg gw he;rw [q181] at h;simp only [gw] at h;exact q49 (h ▸ hs)
   ·exact q25
  ·exact q25
  ·exact q25
theorem step_up(p:Program)(m:Machine):upS m.world.drawn (step p m):=by
 unfold step stepT;have h:=move_up p m;generalize move p m=r at h;cases r with
 | goroutine m' i=>exact q369 h (runT_up _ _ _ _)
 | machine s o=>exact h
theorem step_le{P:Program}{m m':Machine}(h:step P m = .next m'):m.world.drawn≤m'.world.drawn:=by
 have h1:=step_up P m;rw [h] at h1;exact h1
theorem q629{P:Program}{m m':Machine}(h:Steps P m m'):m.world.drawn≤m'.world.drawn:=by
 have h2:=StepsIn.of_steps h;clear h
 induction h2 with
 | refl=>exact Nat.le_refl _
 | head _ hs _ ih=>exact Nat.le_trans (step_le hs) ih
theorem Calls.grows{P:Program}{f:FuncId}{args:Array Value}{w:World}{R:Ending→World→Prop}(h:Calls P f args w R)(ho:∀ w',¬R .outgrown w') :
  Calls P f args w fun e w'=>R e w'∧w.drawn≤w'.drawn:=fun cs=>by
 obtain⟨e,w',fr,hR,hc,hf,hl⟩:=h cs;refine⟨e,w',fr,⟨hR, ?_⟩,hc,hf,hl⟩;cases e with
 | returned v=>exact q629 hc
 | panicked c=>exact q629 hc
 | outgrown=>exact absurd hR (ho w')
end Go.Proofs.YtmfeabjhjhjfeaaGreatDoor
namespace Go.Proofs.YtmfeabjhjhjfeaaGreatDoor
open Go.RowKit
def R0(_:Value):Option (DataW Unit×List MemPlace):=some (.nil,[])
theorem EsR.keysZ{ν:Type}[Dt ν]{H:Hp}{va:Bool}:∀ {l:List (Int×ν)} {i:Nat} {es:List MapEntry},EsR (κ:=Int) (ν:=ν) H false va i es l→(es.map fun x=>x.key)=l.map fun p=>Value.int .i64 p.1
 | [],_,_,h=>by
  have h:_=[]:=h;rw [h];rfl
 | p::l,_,_,⟨e,r,h1,h2,⟨ss,f,h3,h4⟩,h5,h6⟩=>by
  cases h3;rw [h1,List.map_cons,List.map_cons,EsR.keysZ h6,h4];rfl
theorem wfZ{a:Int}(h:inI a):(Lit.int .i64 a).wf=true:=by
 obtain⟨h1,h2⟩:=h;simp only [Lit.wf,Bool.and_eq_true,decide_eq_true_eq];exact⟨h1,h2⟩
theorem owns_of{P:Program}{K:TypeId}(hK:P.underlying K=some (.int .i64)){ν:Type}[Dt ν]{H:Hp}{va:Bool}{w:World}{m:Nat}{es:List MapEntry}{l:List (Int×ν)}(hm:w.heap[m]? = some (.map es.toArray es.length))(he:EsR (κ:=Int) (ν:=ν) H false va 0 es l)(hnd:(l.map fun p=>p.1).Nodup)(hok:∀ p,p∈l→inI p.1)(hlen:l.length≤maxLen) :
  ∃ D:DataW Unit,w.ownsMap P K R0 m l.length D∧Maps.size D=l.length∧(intKeys D).Perm (l.map fun p=>p.1):=by
 have hk:=he.keysZ;have hl:=he.len;have hb:=he.born
 have hrd:∀ x∈es,∃ a,inI a∧x.key = .int .i64 a:=fun x hx=>by
  have:x.key∈l.map fun p=>Value.int .i64 p.1:=by rw [← hk];exact List.mem_map_of_mem hx
  obtain⟨p,hp,e⟩:=List.mem_map.1 this;exact⟨p.1,hok p hp,e.symm⟩
 have hrg:(es.map (Go.WideElems.rg P K R0)).map (fun p=>Go.intOf p.1)=l.map fun p=>p.1:=by
  have h1:(es.map (Go.WideElems.rg P K R0)).map (fun p=>Go.intOf p.1)=(es.map fun x=>x.key).map fun v=>match v with | .int _ a=>a | _=>0:=by
   rw [List.map_map,List.map_map];refine List.map_congr_left fun x hx=>?_;obtain⟨a,h1,h2⟩:=hrd x hx;have h3:Go.WideElems.rd P K R0 x=some (.int .i64 a,(.nil:DataW Unit)):=Go.WideElems.rd_mk (key:=x.key) (val:=x.val) (born:=x.born) (yv:=(.nil,[])) (by rw [h2];exact Maps.keyOf_int_mk hK (wfZ h1)) rfl;have h4:Go.WideElems.rg P K R0 x=(.int .i64 a,.nil):=Go.WideElems.rg_of h3;simp only [Function.comp,h4,h2,Go.intOf]
  rw [h1,hk,List.map_map];rfl
 refine⟨_,⟨es.toArray,es.length,hm,⟨by simpa [hl] using hlen,⟨fun x hx=>?_, ?_, ?_⟩,fun x hx=>?_⟩,by simp [hl],rfl⟩, ?_, ?_⟩
 ·have:x.born∈es.map (·.born):=List.mem_map_of_mem (by simpa using hx)
  rw [hb,List.mem_range'_1] at this;omega
 ·show(es.map (·.born)).Nodup
  rw [hb];exact List.nodup_range'
 ·show(es.map fun x=>x.key).Nodup
  rw [hk];have:(l.map fun p=>Value.int .i64 p.1)=(l.map fun p=>p.1).map fun a=>Value.int .i64 a:=by rw [List.map_map];rfl
  rw [this];exact List.pairwise_map.2 (hnd.imp fun h e=>h (by cases e;rfl))
 ·obtain⟨a,h1,h2⟩:=hrd x (by simpa using hx)
  exact⟨_,Go.WideElems.rd_mk (key:=x.key) (val:=x.val) (born:=x.born) (by rw [h2];exact Maps.keyOf_int_mk hK (wfZ h1)) rfl⟩
 ·show(((es.map (Go.WideElems.rg P K R0)).foldr DataW.insert []).length)=l.length
  rw [(Go.WideShapes.sorted_perm _).length_eq,List.length_map,hl]
 ·show(((es.map (Go.WideElems.rg P K R0)).foldr DataW.insert []).map fun p=>Go.intOf p.1).Perm _
  rw [← hrg];exact(Go.WideShapes.sorted_perm _).map _
theorem q658{l l':List Int}(h:l.Perm l'):l.mergeSort (fun x y=>decide (x≤y))=sortZ l':=by
 refine List.Perm.eq_of_pairwise (le:=fun a b=>a≤b) (fun a b _ _ h1 h2=>Int.le_antisymm h1 h2) ?_ (q211 l') (((List.mergeSort_perm l _).trans h).trans (q229 l').symm);have:=List.pairwise_mergeSort (le:=fun x y:Int=>decide (x≤y)) (fun a b c h1 h2=>by simp only [decide_eq_true_eq] at *;exact Int.le_trans h1 h2) (fun a b=>by simp only [Bool.or_eq_true,decide_eq_true_eq];exact Int.le_total a b) l;exact this.imp fun h=>by simpa using h
theorem DtL.ofZ{H:Hp}:∀ l:List Int,DtL (α:=Int) H (l.map encZ) l
 | []=>rfl
 | x::l=>⟨[encZ x],l.map encZ,rfl,rfl,DtL.ofZ l⟩
end Go.Proofs.YtmfeabjhjhjfeaaGreatDoor
namespace Go.Proofs.YtmfeabjhjhjfeaaGreatDoor
open Go.RowKit Go.Maps Go.Sort Go.Shelf
def Tryz.keysA104_ren : Go.Shelf.Ren := ⟨fun | 7 => 105 | 10 => 123 | n => n, fun | 23 => 159 | 26 => 3 | 3 => 161 | 28 => 149 | 0 => 0 | 27 => 148 | 33 => 118 | 4 => 4 | n => n, fun | n => n⟩
theorem Tryz.keysA104 : Go.Proofs.SlLaysZI.n7 Tryz.prog Tryz.keysA104_ren := {
  mixed := by kernel_rfl
  f7 := ⟨Tryz.f105.name, by decide, Tryz.func105.trans (congrArg some (by kernel_rfl))⟩
  f10 := ⟨Tryz.f123.name, by decide, Tryz.func123.trans (congrArg some (by kernel_rfl))⟩
  t0 := Tryz.underlying0
  a0 := Tryz.isAgg0
  z0 := Tryz.sizeOf0
  v0 := Tryz.zeroValue0
  t4 := Tryz.underlying4
  a4 := Tryz.isAgg4
  z4 := Tryz.sizeOf4
  v4 := Tryz.zeroValue4
  t23 := Tryz.underlying159
  a23 := Tryz.isAgg159
  z23 := Tryz.sizeOf159
  v23 := Tryz.zeroValue159
  t26 := Tryz.underlying3
  a26 := Tryz.isAgg3
  z26 := Tryz.sizeOf3
  v26 := Tryz.zeroValue3
  t27 := Tryz.underlying148
  a27 := Tryz.isAgg148
  z27 := Tryz.sizeOf148
  v27 := Tryz.zeroValue148
  t28 := Tryz.underlying149
  a28 := Tryz.isAgg149
  z28 := Tryz.sizeOf149
  v28 := Tryz.zeroValue149
  t33 := Tryz.underlying118
  a33 := Tryz.isAgg118
  z33 := Tryz.sizeOf118
  v33 := Tryz.zeroValue118 }
def Tryz.sortedA104_ren : Go.Shelf.Ren := ⟨fun | 6 => 104 | 8 => 121 | 9 => 122 | 11 => 134 | 13 => 136 | 12 => 135 | 23 => 150 | 24 => 151 | 14 => 141 | 15 => 142 | 16 => 143 | 17 => 144 | 18 => 145 | 19 => 146 | 20 => 147 | 21 => 148 | 22 => 149 | 25 => 153 | 26 => 154 | 27 => 155 | 28 => 156 | 29 => 157 | 30 => 113 | 31 => 166 | n => n, fun | 26 => 3 | 28 => 149 | 24 => 60 | 0 => 0 | 3 => 3 | 37 => 182 | 48 => 242 | 50 => 83 | 4 => 4 | 40 => 235 | 39 => 234 | 45 => 239 | 5 => 5 | 9 => 9 | 51 => 244 | 55 => 248 | 57 => 255 | 58 => 256 | 33 => 118 | n => n, fun | n => n⟩
theorem Tryz.sortedA104 : Go.Proofs.SlLaysZI.n6 Tryz.prog Tryz.sortedA104_ren := {
  mixed := by kernel_rfl
  f6 := ⟨Tryz.f104.name, by decide, Tryz.func104.trans (congrArg some (by kernel_rfl))⟩
  f8 := ⟨Tryz.f121.name, by decide, Tryz.func121.trans (congrArg some (by kernel_rfl))⟩
  f11 := ⟨Tryz.f134.name, by decide, Tryz.func134.trans (congrArg some (by kernel_rfl))⟩
  t0 := Tryz.underlying0
  a0 := Tryz.isAgg0
  z0 := Tryz.sizeOf0
  v0 := Tryz.zeroValue0
  t24 := Tryz.underlying60
  a24 := Tryz.isAgg60
  z24 := Tryz.sizeOf60
  v24 := Tryz.zeroValue60
  t26 := Tryz.underlying3
  a26 := Tryz.isAgg3
  z26 := Tryz.sizeOf3
  v26 := Tryz.zeroValue3
  t28 := Tryz.underlying149
  a28 := Tryz.isAgg149
  z28 := Tryz.sizeOf149
  v28 := Tryz.zeroValue149
  i26 := by kernel_rfl }
def Tryz.sortA104_ren : Go.Shelf.Ren := ⟨fun | 5 => 122 | 8 => 136 | 7 => 135 | 19 => 150 | 20 => 151 | 10 => 141 | 11 => 142 | 12 => 143 | 13 => 144 | 14 => 145 | 15 => 146 | 16 => 147 | 17 => 148 | 18 => 149 | 30 => 153 | 31 => 154 | 32 => 155 | 33 => 156 | 34 => 157 | 35 => 113 | 40 => 166 | n => n, fun | 23 => 60 | 25 => 3 | 3 => 3 | 32 => 182 | 22 => 60 | 0 => 0 | 44 => 242 | 46 => 83 | 4 => 4 | 36 => 235 | 35 => 234 | 41 => 239 | 5 => 5 | 9 => 9 | 53 => 244 | 57 => 248 | 63 => 255 | 64 => 256 | n => n, fun | n => n⟩
theorem Tryz.sortA104 : Go.Proofs.SlLaysM.n5 Tryz.prog Tryz.sortA104_ren := {
  mixed := by kernel_rfl
  f5 := ⟨Tryz.f122.name, by decide, Tryz.func122.trans (congrArg some (by kernel_rfl))⟩
  f7 := ⟨Tryz.f135.name, by decide, Tryz.func135.trans (congrArg some (by kernel_rfl))⟩
  f8 := Tryz.func136.trans (congrArg some (by kernel_rfl))
  f10 := ⟨Tryz.f141.name, by decide, Tryz.func141.trans (congrArg some (by kernel_rfl))⟩
  f11 := ⟨Tryz.f142.name, by decide, Tryz.func142.trans (congrArg some (by kernel_rfl))⟩
  f12 := ⟨Tryz.f143.name, by decide, Tryz.func143.trans (congrArg some (by kernel_rfl))⟩
  f13 := ⟨Tryz.f144.name, by decide, Tryz.func144.trans (congrArg some (by kernel_rfl))⟩
  f14 := ⟨Tryz.f145.name, by decide, Tryz.func145.trans (congrArg some (by kernel_rfl))⟩
  f15 := ⟨Tryz.f146.name, by decide, Tryz.func146.trans (congrArg some (by kernel_rfl))⟩
  f16 := ⟨Tryz.f147.name, by decide, Tryz.func147.trans (congrArg some (by kernel_rfl))⟩
  f17 := ⟨Tryz.f148.name, by decide, Tryz.func148.trans (congrArg some (by kernel_rfl))⟩
  f18 := ⟨Tryz.f149.name, by decide, Tryz.func149.trans (congrArg some (by kernel_rfl))⟩
  f19 := Tryz.func150.trans (congrArg some (by kernel_rfl))
  f20 := Tryz.func151.trans (congrArg some (by kernel_rfl))
  f30 := ⟨Tryz.f153.name, by decide, Tryz.func153.trans (congrArg some (by kernel_rfl))⟩
  f31 := Tryz.func154.trans (congrArg some (by kernel_rfl))
  f32 := Tryz.func155.trans (congrArg some (by kernel_rfl))
  f33 := ⟨Tryz.f156.name, by decide, Tryz.func156.trans (congrArg some (by kernel_rfl))⟩
  f34 := ⟨Tryz.f157.name, by decide, Tryz.func157.trans (congrArg some (by kernel_rfl))⟩
  f35 := ⟨Tryz.f113.name, by decide, Tryz.func113.trans (congrArg some (by kernel_rfl))⟩
  f40 := ⟨Tryz.f166.name, by decide, Tryz.func166.trans (congrArg some (by kernel_rfl))⟩
  t0 := Tryz.underlying0
  a0 := Tryz.isAgg0
  z0 := Tryz.sizeOf0
  v0 := Tryz.zeroValue0
  t3 := Tryz.underlying3
  a3 := Tryz.isAgg3
  z3 := Tryz.sizeOf3
  v3 := Tryz.zeroValue3
  t4 := Tryz.underlying4
  a4 := Tryz.isAgg4
  z4 := Tryz.sizeOf4
  v4 := Tryz.zeroValue4
  t5 := Tryz.underlying5
  a5 := Tryz.isAgg5
  z5 := Tryz.sizeOf5
  v5 := Tryz.zeroValue5
  t9 := Tryz.underlying9
  a9 := Tryz.isAgg9
  z9 := Tryz.sizeOf9
  v9 := Tryz.zeroValue9
  t22 := Tryz.underlying60
  a22 := Tryz.isAgg60
  z22 := Tryz.sizeOf60
  v22 := Tryz.zeroValue60
  t23 := Tryz.underlying60
  a23 := Tryz.isAgg60
  z23 := Tryz.sizeOf60
  v23 := Tryz.zeroValue60
  t25 := Tryz.underlying3
  a25 := Tryz.isAgg3
  z25 := Tryz.sizeOf3
  v25 := Tryz.zeroValue3
  t32 := Tryz.underlying182
  a32 := Tryz.isAgg182
  z32 := Tryz.sizeOf182
  v32 := Tryz.zeroValue182
  t35 := Tryz.underlying234
  a35 := Tryz.isAgg234
  z35 := Tryz.sizeOf234
  v35 := Tryz.zeroValue234
  t36 := Tryz.underlying235
  a36 := Tryz.isAgg235
  z36 := Tryz.sizeOf235
  v36 := Tryz.zeroValue235
  t41 := Tryz.underlying239
  a41 := Tryz.isAgg239
  z41 := Tryz.sizeOf239
  v41 := Tryz.zeroValue239
  t44 := Tryz.underlying242
  a44 := Tryz.isAgg242
  z44 := Tryz.sizeOf242
  v44 := Tryz.zeroValue242
  t46 := Tryz.underlying83
  a46 := Tryz.isAgg83
  z46 := Tryz.sizeOf83
  v46 := Tryz.zeroValue83
  t53 := Tryz.underlying244
  a53 := Tryz.isAgg244
  z53 := Tryz.sizeOf244
  v53 := Tryz.zeroValue244
  t57 := Tryz.underlying248
  a57 := Tryz.isAgg248
  z57 := Tryz.sizeOf248
  v57 := Tryz.zeroValue248
  t63 := Tryz.underlying255
  a63 := Tryz.isAgg255
  z63 := Tryz.sizeOf255
  v63 := Tryz.zeroValue255
  t64 := Tryz.underlying256
  a64 := Tryz.isAgg256
  z64 := Tryz.sizeOf256
  v64 := Tryz.zeroValue256 }
theorem q852(m:Nat):AnyZI.SortsIn Tryz.prog Tryz.sortedA104_ren Fence.wide m:=
 ⟨fun blk off cap ss W hH hblk hsz=>callsIn_wide.2 (AnyM.slices_Sort_int Tryz.sortA104 blk off cap ss W hH hblk hsz),fun p cap W=>callsIn_wide.2 (AnyM.slices_Sort_int_none Tryz.sortA104 p cap W)⟩
theorem skh104{ν:Type}[Dt ν]{H:Hp}{va:Bool}{w:World}{bx m T:Nat}{es:List MapEntry}{l:List (Int×ν)}(hbx:w.heap[bx]? = some (.cells #[.map (some m)] T (0,0)))(hm:w.heap[m]? = some (.map es.toArray es.length))(he:EsR (κ:=Int) (ν:=ν) H false va 0 es l)(hnd:(l.map fun p=>p.1).Nodup)(hok:∀ p,p∈l→inI p.1)(hlen:lenOk l.length 8) :
  Calls Tryz.prog 104 #[.func (.func 123) #[] #[.pointer (some ⟨bx,0,none⟩)]] w fun e w'=>∃ v s,e = .returned v∧Below w.heap.size w w'∧w'.ownsRow w.heap.size 3 1 v (sortZ (l.map fun p=>p.1)).length s∧DtL (α:=Int) H s (sortZ (l.map fun p=>p.1)):=by
 obtain⟨D0,hown,hsz,hperm⟩:=owns_of (P:=Tryz.prog) (K:=3) (by kernel_rfl) hm he hnd hok hlen.2;have hcell:w.cell? ⟨bx,0,none⟩=some (.map (some m)):=by simp [World.cell?,hbx]
 have hseq:SeqGives Fence.wide 2 Tryz.prog 123 #[.pointer (some ⟨bx,0,none⟩)] encZ (fun ss=>ss.Perm (intKeys D0)) (Maps.size D0) w:=
  AnyZI.keys_gives (ρ:=Tryz.keysA104_ren) { Tryz.keysA104 with } Fence.wide _ trivial rfl (by omega) bx m l.length D0 _ (q34 hbx) hcell hown
 have cS:=AnyZI.sorted_in Tryz.sortedA104 Fence.wide 5 trivial trivial trivial trivial rfl (by omega) (q852 _) (enters_of Tryz.func122 (by kernel_rfl) rfl) 123 #[.pointer (some ⟨bx,0,none⟩)] trivial (enters_of Tryz.func123 (by kernel_rfl) rfl) _ _ (by rw [hsz];exact hlen.2) (by rw [hsz];exact hlen.1) _ hseq;change CallsIn _ _ Tryz.prog 104 _ _ _ at cS;have cG:=Calls.grows (callsIn_wide.1 cS) fun w' ⟨_,_,h,_⟩=>by cases h
 refine cG.mono fun e w' ⟨⟨v,ss,h1,h2,h3,h4,h5⟩,hd⟩=>?_;have hs:=q658 (h2.trans hperm);have hn:ss.length=(sortZ (l.map fun p=>p.1)).length:=by rw [← hs,List.length_mergeSort]
 rw [hs,hn] at h3;exact⟨v,_,h1,⟨h5,hd⟩,h3,DtL.ofZ _⟩
theorem q770:sk104.Ok Tryz.prog:=fun _ _ _ _ _ _ _ hbx hm he hnd hok hlen=>skh104 hbx hm he hnd hok hlen
end Go.Proofs.YtmfeabjhjhjfeaaGreatDoor
namespace Go.Proofs.YtmfeabjhjhjfeaaGreatDoor
open Go.RowKit
section
section
variable {α : Type} [Inhabited α]
theorem q771(enc:α→Value){w:World}{g:Nat}(off:Nat)(d:Array α){cur:Array Value}{e:TypeId}{fr:Nat×Nat}(h:w.heap[g]? = some (.cells cur e fr)):(Sort.putRow enc w g off d).heap[g]? = some (.cells (Sort.putCells enc off d cur) e fr):=by
 simp [Sort.putRow,Sort.mapBlock,Array.getElem?_modify,h,Sort.onCells]
theorem q772(enc:α→Value){w:World}{g:Nat}(off m:Nat)(d:Array α)(os:Array Obj){cur:Array Value}{e:TypeId}{fr:Nat×Nat}(h:w.heap[g]? = some (.cells cur e fr)):(Sort.grow (Sort.putRow enc (Sort.ahead w m) g off d) os).heap[g]? = some (.cells (Sort.putCells enc off d cur) e fr):=by
 have h1:=q771 enc (w:=Sort.ahead w m) off d h;rw [Sort.heap_grow_old _ _ (q34 h1)];exact h1
theorem q415(enc:α→Value){w:World}{g k:Nat}(off m:Nat)(d:Array α)(os:Array Obj)(hk:k<w.heap.size)(hne:k≠g):(Sort.grow (Sort.putRow enc (Sort.ahead w m) g off d) os).heap[k]? = w.heap[k]?:=by
 have hs:k<(Sort.putRow enc (Sort.ahead w m) g off d).heap.size:=by simpa [Sort.putRow,Sort.mapBlock,Sort.ahead] using hk
 rw [Sort.heap_grow_old _ _ hs];simp [Sort.putRow,Sort.mapBlock,Array.getElem?_modify,Sort.ahead,hne.symm]
theorem q511(enc:α→Value){w:World}{g:Nat}(off m:Nat)(d:Array α)(os:Array Obj):w.grownBy (Sort.grow (Sort.putRow enc (Sort.ahead w m) g off d) os) (some g):=
 ⟨rfl,rfl,rfl,by simp [Sort.grow,Sort.putRow,Sort.mapBlock,Sort.ahead],fun k hk hne=>q415 enc off m d os hk (fun e=>hne (by rw [e]))⟩
theorem q462(enc:α→Value)(d:Array α)(cur:Array Value)(h:d.size≤cur.size):(Sort.putCells enc 0 d cur).toList.take d.size=d.toList.map enc:=by
 apply List.ext_getElem?
 intro i;by_cases hi:i<d.size
 ·rw [List.getElem?_take_of_lt hi]
  have hc:i<cur.size:=by omega
  simp [Sort.putCells,hi,hc]
 ·rw [List.getElem?_eq_none,List.getElem?_eq_none]
  ·simpa using hi
  ·simp;omega
theorem q562(enc:α→Value){w:World}{base:Nat}{e:TypeId}{k g n cap:Nat}{s:List Value}(m:Nat)(d:Array α)(os:Array Obj)(ho:w.ownsRow base e k (.slice (some ⟨g,0,none⟩) n cap) n s)(hd:d.size=n*k) :
  (Sort.grow (Sort.putRow enc (Sort.ahead w m) g 0 d) os).ownsRow base e k (.slice (some ⟨g,0,none⟩) n cap) n (d.toList.map enc):=by
 obtain⟨h1,⟨h2,_⟩ | ⟨g',cap',cur,h2,h3,h4,h5,h6,h7,h8⟩⟩:=ho
 ·cases h2
 ·cases h2
  refine⟨by simp [hd],.inr ⟨g,cap,Sort.putCells enc 0 d cur,rfl,h3,q772 enc 0 m d os h4,h5,h6,by simp [Sort.putCells,h7], ?_⟩⟩;rw [← hd];exact q462 enc d cur (by rw [hd,h7];exact Nat.mul_le_mul_right _ h5)
theorem q659{enc:α→Value}{w:World}{base:Nat}{e:TypeId}{k g n cap:Nat}{s:List Value}{d:Array α}(ho:w.ownsRow base e k (.slice (some ⟨g,0,none⟩) n cap) n s)(hs:s=d.toList.map enc):Sort.Holds enc w g 0 d∧g<w.heap.size:=by
 obtain⟨h1,⟨h2,_⟩ | ⟨g',cap',cur,h2,h3,h4,h5,h6,h7,h8⟩⟩:=ho
 ·cases h2
 ·cases h2
  refine⟨fun j hj=>?_,q34 h4⟩;have hn:d.size=n*k:=by rw [← h1,hs];simp
  have hc:cur[j]? = some (enc d[j]!):=by
   have h9:(cur.toList.take (n*k))[j]? = some (enc d[j]!):=by
    rw [h8,hs,List.getElem?_map];simp [hj]
   rw [List.getElem?_take_of_lt (by omega)] at h9;simpa using h9
  refine⟨?_, ?_⟩
  ·simp [World.cell?,h4,hc]
  ·simp only [World.frozen?,h4];simp
end
end
section
theorem Below.grow{w w':World}(h:Below w.heap.size w w'):∃ q os,w'=Sort.grow (w.drewN q) os:=by
 refine⟨w'.drawn-w.drawn,w'.heap.extract w.heap.size w'.heap.size, ?_⟩;have hs:=h.size;have hd:=h.dr
 have e1:w'.heap=w.heap++w'.heap.extract w.heap.size w'.heap.size:=by
  apply Array.ext_getElem?
  intro i;by_cases hi:i<w.heap.size
  ·rw [h.block i hi,Array.getElem?_append_left hi]
  ·rw [Array.getElem?_append_right (by omega)]
   by_cases hj:i<w'.heap.size
   ·rw [Array.getElem?_eq_getElem hj,Array.getElem?_eq_getElem (by simp;omega)]
    congr 1
    simp only [Array.getElem_extract]
    congr 1
    omega
   ·rw [Array.getElem?_eq_none (by omega),Array.getElem?_eq_none (by simp;omega)]
 have e2:w'.drawn=w.drawn+(w'.drawn-w.drawn):=by omega
 obtain⟨heap,tape,drawn,os,output⟩:=w';have h1:os=w.os:=h.os;have h2:tape=w.tape:=h.tape;have h3:output=w.output:=h.output;subst h1 h2 h3;unfold Sort.grow World.drewN;simp only at e1 e2 ⊢;rw [← e1,← e2]
section
variable {α : Type}
theorem q241{enc:α→List Value}{k:Nat}(hk:∀ x,(enc x).length=k):∀ l:List α,(l.flatMap enc).length=l.length*k
 | []=>by simp
 | x::l=>by rw [List.flatMap_cons,List.length_append,hk,q241 hk l,List.length_cons,Nat.succ_mul,Nat.add_comm]
theorem q371{enc:α→List Value}{k:Nat}(hk:∀ x,(enc x).length=k):∀ (l:List α) (t:Nat) (_:t<l.length*k),(l.flatMap enc)[t]? = (l[t / k]?).bind fun x=>(enc x)[t % k]?
 | [],t,h=>by simp at h
 | x::l,t,h=>by
  have k0:0<k:=by rcases Nat.eq_zero_or_pos k with h0 | h0;· subst h0;simp at h
                  ·exact h0
  rw [List.flatMap_cons];by_cases ht:t<k
  ·rw [List.getElem?_append_left (by rw [hk];exact ht),Nat.div_eq_of_lt ht,Nat.mod_eq_of_lt ht]
   rfl
  ·have e1:t / k=(t-k) / k+1:=by rw [Nat.div_eq_sub_div k0 (by omega)]
   have e2:t % k=(t-k) % k:=by rw [Nat.mod_eq_sub_mod (by omega)]
   rw [List.getElem?_append_right (by rw [hk];omega),hk,q371 hk l (t-k) (by rw [List.length_cons,Nat.succ_mul] at h;omega),e1,e2];rfl
variable [Inhabited α]
theorem q416{enc:α→List Value}{k:Nat}(hk:∀ x,(enc x).length=k)(d:Array α):(Sort.flatK enc k d).toList=d.toList.flatMap enc:=by
 have hl:=q241 hk d.toList
 apply List.ext_getElem?
 intro t;by_cases ht:t<d.size*k
 ·have k0:0<k:=by rcases Nat.eq_zero_or_pos k with h0 | h0;· subst h0;simp at ht
                  ·exact h0
  have hd:t / k<d.size:=(Nat.div_lt_iff_lt_mul k0).2 ht;have hm:t % k<k:=Nat.mod_lt _ k0;rw [q371 hk _ t (by rw [Array.length_toList];exact ht)];have e1:=Sort.get_flatK enc k d t ht;have e2:t<(Sort.flatK enc k d).size:=by rw [Sort.size_flatK];exact ht
  rw [getElem!_pos (Sort.flatK enc k d) t e2] at e1;rw [Array.getElem?_toList,Array.getElem?_eq_getElem e2,e1,Array.getElem?_toList,Array.getElem?_eq_getElem hd];have e3:d[t / k]! = d[t / k]:=getElem!_pos d _ hd;rw [e3];have e4:t % k<(enc d[t / k]).length:=by rw [hk];exact hm
  show some ((enc d[t / k])[t % k]!)=(enc d[t / k])[t % k]?;rw [getElem!_pos (enc d[t / k]) _ e4,List.getElem?_eq_getElem e4]
 ·rw [List.getElem?_eq_none,List.getElem?_eq_none]
  ·rw [hl,Array.length_toList];omega
  ·rw [Array.length_toList,Sort.size_flatK];omega
end
theorem DtL.enc{α:Type}[Dt α]{enc:α→List Value}(he:∀ H cs (x:α),Dt.rd H cs x→cs=enc x){H:Hp}:∀ {xs:List α} {cs:List Value},DtL H cs xs→cs=xs.flatMap enc
 | [],_,h=>h
 | _::_,_,⟨_,_,h,h1,h2⟩=>by rw [h,he _ _ _ h1,DtL.enc he h2];rfl
theorem DtL.ofEnc{α:Type}[Dt α]{enc:α→List Value}(he:∀ H (x:α),Dt.rd H (enc x) x){H:Hp}:∀ (xs:List α),DtL H (xs.flatMap enc) xs
 | []=>rfl
 | x::xs=>⟨enc x,xs.flatMap enc,rfl,he H x,DtL.ofEnc he xs⟩
end
def cmpI(a b:Int):Int:=if a<b then -1 else if b<a then 1 else 0
theorem cmpI_lt{a b:Int}:cmpI a b<0↔a<b:=by unfold cmpI;split <;> (try split) <;> omega
theorem q660{α:Type}[Inhabited α]{lt:α→α→Bool}{d d':Array α}(hp:Sort.PermIn 0 d.size d d')(hs:Sort.SortedIn lt 0 d.size d'):d'.toList.Perm d.toList∧d'.toList.Pairwise (fun x y=>lt y x=false):=by
 obtain⟨h1,_,h3⟩:=hp;constructor
 ·rw [Array.extract_eq_self_of_le (by omega),Array.extract_eq_self_of_le (by omega)] at h3
  exact h3
 ·refine List.pairwise_iff_getElem.2 fun i j hi hj hij=>?_
  rw [Array.length_toList] at hi hj;have:=hs i j (Nat.zero_le _) hij (by omega);rw [getElem!_pos d' i hi,getElem!_pos d' j hj] at this;simpa using this
theorem cmpI_W(a b:Int){Φ:Int→Prop}(h:Φ (cmpI a b)):Z52 a b Φ:=by
 unfold cmpI at h;unfold Z52 Z51;refine⟨fun e=>absurd e (by simp),fun _=>⟨fun e=>absurd e (by simp),fun _=>⟨fun e=>?_,fun e=>⟨fun e2=>?_,fun e2=>?_⟩⟩⟩⟩
 ·rw [if_pos e] at h;exact h
 ·rw [if_neg e,if_pos e2] at h;exact h
 ·rw [if_neg e,if_neg e2] at h;exact h
def cmpE(a b:q13):Int:=cmpI a.at_ b.at_
theorem q853(x y:q13):Z125 x y fun v=>v=cmpE x y:=by
 unfold Z125;exact cmpI_W _ _ rfl
theorem ltEn(a b:q13):ltOf cmpE a b=decide (a.at_<b.at_):=by
 unfold ltOf;exact decide_eq_decide.2 cmpI_lt
theorem swoE:Sort.SWO (ltOf cmpE) where
 irrefl x:=by rw [ltEn];simp
 trans x y z h1 h2:=by rw [ltEn] at *;simp only [decide_eq_true_eq] at *;omega
 ntrans x y z h1 h2:=by rw [ltEn] at *;simp only [decide_eq_false_iff_not] at *;omega
theorem leE{a b:q13}(h:ltOf cmpE b a=false):a.at_≤b.at_:=by
 rw [ltEn] at h;simp only [decide_eq_false_iff_not] at h;omega
theorem mo:Tryz.prog.follows .mixedOrders=true:=by kernel_rfl
theorem okU{cs:List (Ct DD)}{pl:List PE}{S:List (List Nat×Nat)}{K:List (Sk DD)}{c:Ct DD}(h:Eqn cs pl S K c)(hE:Env.Ok (⟨Tryz.prog,tab,cs,pl,[],gh,[],S,K⟩:Env DD)):c.Ok Tryz.prog tab gh:=Ct.lift hE 9 c fun x Φ=>by rw [h x Φ];exact id
theorem ok13:ct13.Ok Tryz.prog tab gh:=okU eq13 ⟨tabOk,trivial,mo,trivial,ghUp,trivial,trivial⟩
theorem ok71:ct71.Ok Tryz.prog tab gh:=okU eq71 ⟨tabOk,trivial,mo,trivial,ghUp,trivial,trivial⟩
theorem okT71:ct71.Ok Tryz.prog tab ghT:=Ct.lift (E:=⟨Tryz.prog,tab,[],pl71,[],ghT,[],[],[]⟩) ⟨tabOk,trivial,mo,trivial,fun _ _ _ _=>trivial,trivial,trivial⟩ 9 ct71 fun x Φ=>by
 have h:ct71.W x Φ=topF ⟨Tryz.prog,tab,[],pl71,[],ghT,[],[],[]⟩ 9 ct71.f ct71.ps ct71.rs ct71.own x Φ:=by kernel_rfl
 rw [h];exact id
theorem ok30:ct30.Ok Tryz.prog tab gh:=okU eq30 ⟨tabOk,⟨ok71,trivial⟩,mo,trivial,ghUp,trivial,trivial⟩
theorem okT30:ct30.Ok Tryz.prog tab ghT:=Ct.lift (E:=⟨Tryz.prog,tab,[ct71],pl30,[],ghT,[],[],[]⟩) ⟨tabOk,⟨okT71,trivial⟩,mo,trivial,fun _ _ _ _=>trivial,trivial,trivial⟩ 9 ct30 fun x Φ=>by
 have h:ct30.W x Φ=topF ⟨Tryz.prog,tab,[ct71],pl30,[],ghT,[],[],[]⟩ 9 ct30.f ct30.ps ct30.rs ct30.own x Φ:=by kernel_rfl
 rw [h];exact id
theorem ok32:ct32.Ok Tryz.prog tab gh:=okU eq32 ⟨tabOk,trivial,mo,trivial,ghUp,trivial,trivial⟩
theorem ok12:ct12.Ok Tryz.prog tab gh:=okU eq12 ⟨tabOk,⟨ok30,ok32,trivial⟩,mo,trivial,ghUp,trivial,trivial⟩
theorem ok74:ct74.Ok Tryz.prog tab gh:=okU eq74 ⟨tabOk,trivial,mo,trivial,ghUp,trivial,trivial⟩
theorem ok72:ct72.Ok Tryz.prog tab gh:=okU eq72 ⟨tabOk,⟨ok74,trivial⟩,mo,trivial,ghUp,trivial,trivial⟩
theorem ok112:ct112.Ok Tryz.prog tab gh:=okU eq112 ⟨tabOk,trivial,mo,trivial,ghUp,trivial,trivial⟩
theorem ok103:ct103.Ok Tryz.prog tab gh:=okU eq103 ⟨tabOk,⟨ok112,trivial⟩,mo,trivial,ghUp,trivial,trivial⟩
theorem ok73:ct73.Ok Tryz.prog tab gh:=okU eq73 ⟨tabOk,⟨ok103,trivial⟩,mo,trivial,ghUp,trivial,trivial⟩
theorem ok60:ct60.Ok Tryz.prog tab gh:=okU eq60 ⟨tabOk,trivial,mo,trivial,ghUp,trivial,trivial⟩
theorem ok33:ct33.Ok Tryz.prog tab gh:=okU eq33 ⟨tabOk,⟨ok12,ok60,ok72,ok73,ok74,trivial⟩,mo,trivial,ghUp,trivial,⟨q770,trivial⟩⟩
theorem ok34:ct34.Ok Tryz.prog tab gh:=okU eq34 ⟨tabOk,⟨ok13,trivial⟩,mo,trivial,ghUp,trivial,trivial⟩
theorem ok125:ct125.Ok Tryz.prog tab gh:=okU eq125 ⟨tabOk,trivial,mo,trivial,ghUp,trivial,trivial⟩
theorem okT125:ct125.Ok Tryz.prog tab ghT:=Ct.lift (E:=⟨Tryz.prog,tab,[],pl125,[],ghT,[],[],[]⟩) ⟨tabOk,trivial,mo,trivial,fun _ _ _ _=>trivial,trivial,trivial⟩ 9 ct125 fun x Φ=>by
 have h:ct125.W x Φ=topF ⟨Tryz.prog,tab,[],pl125,[],ghT,[],[],[]⟩ 9 ct125.f ct125.ps ct125.rs ct125.own x Φ:=by kernel_rfl
 rw [h];exact id
theorem ok106:ct106.Ok Tryz.prog tab gh:=okU eq106 ⟨tabOk,⟨ok125,trivial⟩,mo,trivial,ghUp,trivial,trivial⟩
theorem okT106:ct106.Ok Tryz.prog tab ghT:=Ct.lift (E:=⟨Tryz.prog,tab,[ct125],pl106,[],ghT,[],[],[]⟩) ⟨tabOk,⟨okT125,trivial⟩,mo,trivial,fun _ _ _ _=>trivial,trivial,trivial⟩ 9 ct106 fun x Φ=>by
 have h:ct106.W x Φ=topF ⟨Tryz.prog,tab,[ct125],pl106,[],ghT,[],[],[]⟩ 9 ct106.f ct106.ps ct106.rs ct106.own x Φ:=by kernel_rfl
 rw [h];exact id
theorem ok76:ct76.Ok Tryz.prog tab gh:=okU eq76 ⟨tabOk,⟨ok30,ok106,trivial⟩,mo,trivial,ghUp,trivial,trivial⟩
theorem okT76:ct76.Ok Tryz.prog tab ghT:=Ct.lift (E:=⟨Tryz.prog,tab,[ct30,ct106],pl76,[],ghT,[],[],[]⟩) ⟨tabOk,⟨okT30,okT106,trivial⟩,mo,trivial,fun _ _ _ _=>trivial,trivial,trivial⟩ 9 ct76 fun x Φ=>by
 have h:ct76.W x Φ=topF ⟨Tryz.prog,tab,[ct30,ct106],pl76,[],ghT,[],[],[]⟩ 9 ct76.f ct76.ps ct76.rs ct76.own x Φ:=by kernel_rfl
 rw [h];exact id
theorem okT108:ct108.Ok Tryz.prog tab ghT:=Ct.lift (E:=⟨Tryz.prog,tab,[],pl108,[],ghT,[],[],[]⟩) ⟨tabOk,trivial,mo,trivial,fun _ _ _ _=>trivial,trivial,trivial⟩ 9 ct108 fun x Φ=>by
 have h:ct108.W x Φ=topF ⟨Tryz.prog,tab,[],pl108,[],ghT,[],[],[]⟩ 9 ct108.f ct108.ps ct108.rs ct108.own x Φ:=by kernel_rfl
 rw [h];exact id
theorem ok78:ct78.Ok Tryz.prog tab gh:=okU eq78 ⟨tabOk,trivial,mo,trivial,ghUp,trivial,trivial⟩
theorem okT78:ct78.Ok Tryz.prog tab ghT:=Ct.lift (E:=⟨Tryz.prog,tab,[],pl78,[],ghT,[],[],[]⟩) ⟨tabOk,trivial,mo,trivial,fun _ _ _ _=>trivial,trivial,trivial⟩ 9 ct78 fun x Φ=>by
 have h:ct78.W x Φ=topF ⟨Tryz.prog,tab,[],pl78,[],ghT,[],[],[]⟩ 9 ct78.f ct78.ps ct78.rs ct78.own x Φ:=by kernel_rfl
 rw [h];exact id
theorem pk41(v:Value)(cs:List Value):PkR Tryz.prog 41 v cs=(cs=[v]):=by kernel_rfl
theorem q313{H:Hp}(x0:List (List Sec)){A1:Option Addr}{n1 c1:Nat}{s1:List Value}(hF1:Fz (α:=List Sec) H A1 n1 c1 x0 s1){Φ:Int→Prop}(hm:q72 x0 Φ):RetP Tryz.prog 76 #[.slice A1 n1 c1] H (fun _ v L=>∃ y,Φ y∧v = .int .i64 (y)∧L=[]):=by
 refine RetP.mono (okT76 (x0,()) (fun y=>Φ y.1) hm H [.slice A1 n1 c1] trivial ⟨_,[.slice A1 n1 c1],_,rfl,by rw [pk41],(show Dt.rd (α:=List (List Sec)) H _ _ from⟨A1,n1,c1,s1,rfl,hF1⟩),rfl⟩) fun H' v L _ ⟨y,hy,hr⟩=>?_;obtain⟨ρ,_,_,_,_,h1,h2⟩:=hr 0 (fun _=>none) (fun _ _=>rfl) _ _ _ (show resE Tryz.prog tab _ _ y 0=some (.i .i64 y.1,[],0) by kernel_rfl);exact⟨y.1,hy,h1,h2⟩
theorem pk50(v:Value)(cs:List Value):PkR Tryz.prog 50 v cs=(cs=[v]):=by kernel_rfl
theorem q69{H:Hp}(x0:List Sec){A1:Option Addr}{n1 c1:Nat}{s1:List Value}(hF1:Fz (α:=Sec) H A1 n1 c1 x0 s1){Φ:List Sec→Prop}(hm:Z17 x0 Φ):RetP Tryz.prog 108 #[.slice A1 n1 c1] H (fun H' v L=>∃ y,Φ y∧∃ A12,∃ n12,∃ c12,∃ s12,v = .slice A12 n12 c12∧DtL (α:=Sec) H' s12 y∧n12=y.length∧L=[.row (.slice A12 n12 c12) 70 8 n12 s12]):=by
 refine RetP.mono (okT108 (x0,()) (fun y=>Φ y.1) hm H [.slice A1 n1 c1] trivial ⟨_,[.slice A1 n1 c1],_,rfl,by rw [pk50],(show Dt.rd (α:=List Sec) H _ _ from⟨A1,n1,c1,s1,rfl,hF1⟩),rfl⟩) fun H' v L _ ⟨y,hy,hr⟩=>?_;obtain⟨ρ,_,_,_,_,h1,h2⟩:=hr 0 (fun _=>none) (fun _ _=>rfl) _ _ _ (show resE Tryz.prog tab _ _ y 0=some (.own 0,[(0,.row 70 y.1)],1) by kernel_rfl);obtain⟨A,n,c,e1,rfl⟩:=h1;obtain⟨S,L',rfl,⟨A',n',c',s,e2,rfl,e3,e4⟩,e5⟩:=h2;obtain rfl:L'=[]:=e5;rw [e1] at e2;cases e2;exact⟨y.1,hy,A,n,c,s,rfl,e3,e4,rfl⟩
theorem q268{H:Hp}(x0:List (List Sec)){A1:Option Addr}{n1 c1:Nat}{s1:List Value}(hF1:Fz (α:=List Sec) H A1 n1 c1 x0 s1){Φ:List (List Sec)→Prop}(hm:Z19 x0 Φ):RetP Tryz.prog 107 #[.slice A1 n1 c1,.func (.func 108) #[] #[]] H (fun H' v L=>∃ y,Φ y∧∃ A45,∃ n45,∃ c45,∃ s45,∃ rs46,v = .slice A45 n45 c45∧DeepL (α:=List Sec) [70] H' s45 y rs46∧n45=y.length∧L = .row (.slice A45 n45 c45) 50 1 n45 s45::rs46):=by
 refine RetP.of_code Tryz.func107 rfl (nb rfl) fun w0 hM=>?_
 refine CW.sr <| RW.st (Ex.assign (.slice none 0 0) rfl) rfl <| RW.nil <| CW.sr <| RW.st (Ex.move (.slice A1 n1 c1) rfl) rfl <| RW.st (Ex.lenN st40.1 rfl hF1.hn) rfl ?_
 obtain⟨hg8,hm⟩:=hm
 obtain⟨hg9,hm⟩:=hm
 refine RW.makeE (α:=List Sec) hM st40 tz50 rfl rfl hg8 hg9 rfl rfl ?_;intro b2 n3 c4 s5 w hd6 hn7 hM
 refine RW.st (Ex.assign (.slice (some ⟨b2,0,none⟩) n3 c4) rfl) rfl <| RW.nil <| CW.seq <| CW.sr <| RW.st (Ex.move (.slice A1 n1 c1) rfl) rfl <| RW.st (Ex.lenN st40.1 rfl hF1.hn) rfl <| RW.st (Ex.move (.int .i64 0) rfl) rfl <| RW.nil <| CW.block ?_
 obtain⟨m44,hm⟩:=hm
 skip
 refine CW.loop (β:=Nat) (fun n σ w=>∃ (v12:List (List Sec)),∃ (A13:Option Addr),∃ (n14:Nat),∃ (c15:Nat),∃ (s16:List Value),∃ (rs17:List Ent),∃ (v20:Int),∃ Hk10,H.le Hk10∧(∃ τ,σ=sl [(1,.func (.func 108) #[] #[]),(5,.slice A13 n14 c15),(11,.slice A1 n1 c1),(12,.int .i64 ((x0.length:Int))),(13,.int .i64 v20)] τ)∧Mem w0 H w Hk10 (.row (.slice A13 n14 c15) 50 1 n14 s16::rs17)∧(DeepL (α:=List Sec) [70] Hk10 s16 v12 rs17)∧(n14=v12.length)∧LoopN (Z18 x0 Φ) n (v12,v20)) (fun n=>n) m44 ⟨([]:List (List Sec)),(some ⟨b2,0,none⟩),n3,c4,s5,[],0,H,(Hp.le.refl _),q56 ⟨rfl,rfl,rfl,rfl,rfl,trivial⟩,hM,(DeepL.ofNil (Ts:=[70]) hd6),hn7,hm⟩ ?_
 rintro k21 _ w ⟨v12,A13,n14,c15,s16,rs17,v20,Hk10,hle11,⟨τ,rfl⟩,hM,hd18,hn19,hm⟩
 obtain _ | k21:=k21
 · exact hm.elim
 replace hm:(Z18 x0 Φ) (v12,v20) (LoopN (Z18 x0 Φ) k21):=hm
 generalize hrec22:LoopN (Z18 x0 Φ) k21=rec1 at hm
 refine CW.sr <| RW.st (Ex.lss rfl rfl) rfl <| RW.nil <| CW.seq ?_
 refine CW.cond_dec (p:=v20<(x0.length:Int)) rfl (fun hc23=>?_) (fun hc23=>?_)
 ·
  replace hm:=And.left hm hc23
  refine CW.skip <| CW.seq <| CW.block <| CW.sr ?_
  obtain⟨hg24,hm⟩:=hm;refine RW.st (Ex.index st40 rfl rfl v20.toNat (hF1.ne hg24) hg24.nat (hF1.lt hg24)) rfl ?_;obtain⟨_,⟨A25,n25,c25,s25,rfl,hF25⟩,hx26⟩:=DtL.getI (α:=List Sec) (hF1.mono hle11).dat hg24;refine RW.st (Ex.loadE hM hle11 hF1.rdc to50 rfl (hx26 0 _ rfl)) rfl <| RW.st (Ex.assign (.slice A25 n25 c25) rfl) rfl <| RW.nil <| CW.region <| RW.st (Ex.move (.slice A13 n14 c15) rfl) rfl <| RW.st (Ex.move (.func (.func 108) #[] #[]) rfl) rfl <| RW.st (Ex.move (.slice A25 n25 c25) rfl) rfl ?_
  refine RW.callP hM (q69 (ix x0 v20) hF25 hm) en108 rfl rfl rfl rfl ?_;rintro _ w H28 _ hle29 ⟨v27,hm,A30,n30,c30,s30,rfl,hd31,hn32,rfl⟩ hM;refine RW.buildSlice hM st40 tz50 [(0,.slice A30 n30 c30)] [.slice A30 n30 c30] (by decide) rfl rfl rfl (by decide) rfl rfl ?_;intro b33 w hM;obtain⟨hg39,hm⟩:=hm;refine RW.appendH (α:=List Sec) (xs:=v12) (x0:=v27) hM 2 st40 rfl rfl hn19 rfl (fun j u hj=>hM.rowCell (k:=0) rfl rfl hj) rfl (q67 ⟨rfl,trivial⟩) hg39 rfl rfl ?_;intro A35 n36 c37 w hn38 hM;obtain⟨s40,rs41,hd42,hM⟩:=Mem.adopt (α:=List Sec) (Ts:=[70]) (x:=v27) [.row (.slice (some ⟨b33,0,none⟩) 1 1) 50 1 1 [.slice A30 n30 c30],.row (.slice A35 n36 c37) 50 1 n36 (s16++[.slice A30 n30 c30])] (Mem.pickT (L1:=[.row (.slice (some ⟨b33,0,none⟩) 1 1) 50 1 1 [.slice A30 n30 c30],.row (.slice A30 n30 c30) 70 8 n30 s30,.row (.slice A35 n36 c37) 50 1 n36 (s16++[.slice A30 n30 c30])]) (T:=rs17) hM [1,0,2] rfl rfl) 1 rfl (hd18.mono hle29) ⟨A30,n30,c30,s30,rfl,rfl,hd31,hn32⟩
  replace hM:Mem w0 H w H28 (.row (.slice A35 n36 c37) 50 1 n36 s40::rs41):=Mem.pickT (L1:=[.row (.slice (some ⟨b33,0,none⟩) 1 1) 50 1 1 [.slice A30 n30 c30],.row (.slice A35 n36 c37) 50 1 n36 s40]) (T:=rs41) hM [1] rfl rfl
  refine RW.st (Ex.assign (.slice A35 n36 c37) rfl) rfl <| RW.nil <| CW.region ?_
  obtain⟨hg43,hm⟩:=hm;refine RW.st (Ex.add rfl rfl hg43.1 hg43.2) rfl <| RW.st (Ex.move (.int .i64 (v20+1)) rfl) rfl <| RW.nil ?_
  exact And.intro rfl ⟨k21,⟨(v12++[v27]),A35,n36,c37,s40,rs41,v20+1,H28,hle11.trans hle29,q56 ⟨rfl,rfl,rfl,rfl,rfl,trivial⟩,hM,hd42,hn38,(by rw [hrec22];exact hm)⟩,Nat.lt_succ_self _⟩
 ·
  replace hm:=And.right hm hc23
  refine CW.exit ?_;refine CW.sr <| RW.st (Ex.move (.slice A13 n14 c15) rfl) rfl <| RW.st (Ex.assign (.slice A13 n14 c15) rfl) rfl <| RW.nil <| CW.ret ?_
  refine q536 (.inl rfl) rfl (.slice A13 n14 c15) rfl ?_;exact⟨_,_,hM,v12,hm,A13,n14,c15,s16,rs17,rfl,hd18,hn19,rfl⟩
theorem q269{H:Hp}(x0:List (List Sec)){A1:Option Addr}{n1 c1:Nat}{s1:List Value}(hF1:Fz (α:=List Sec) H A1 n1 c1 x0 s1){Φ:List (List Sec)→Prop}(hm:Z20 x0 Φ):RetP Tryz.prog 77 #[.slice A1 n1 c1] H (fun H' v L=>∃ y,Φ y∧∃ A9,∃ n9,∃ c9,∃ s9,∃ rs10,v = .slice A9 n9 c9∧DeepL (α:=List Sec) [70] H' s9 y rs10∧n9=y.length∧L = .row (.slice A9 n9 c9) 50 1 n9 s9::rs10):=by
 refine RetP.of_code Tryz.func77 rfl (nb rfl) fun w0 hM=>?_
 refine CW.sr <| RW.st (Ex.assign (.slice none 0 0) rfl) rfl <| RW.nil <| CW.sr <| RW.st (Ex.move (.slice A1 n1 c1) rfl) rfl ?_
 refine RW.callP hM (q268 x0 hF1 hm) en107 rfl rfl rfl rfl ?_;rintro _ w H3 _ hle4 ⟨v2,hm,A5,n5,c5,s5,rs6,rfl,hd7,hn8,rfl⟩ hM
 replace hM:=Mem.toTail (a:=[.row (.slice A5 n5 c5) 50 1 n5 s5]) (b:=rs6) (c:=[]) hM
 refine RW.st (Ex.assign (.slice A5 n5 c5) rfl) rfl <| RW.nil <| CW.ret ?_
 refine q536 (.inl rfl) rfl (.slice A5 n5 c5) rfl ?_
 exact⟨_,_,hM,v2,hm,A5,n5,c5,s5,rs6,rfl,hd7,hn8,rfl⟩
theorem pk72(v:Value)(cs:List Value):PkR Tryz.prog 72 v cs=(v = .agg cs.toArray):=by kernel_rfl
theorem q372{H:Hp}(x0:List (List Sec))(x1:q10){A1:Option Addr}{n1 c1:Nat}{s1:List Value}(hF1:Fz (α:=List Sec) H A1 n1 c1 x0 s1){A2:Option Addr}{n2 c2:Nat}{s2:List Value}(hF2:Fz (α:=Sec) H A2 n2 c2 x1.Data s2){Φ:Int→Prop}(hm:q111 x0 x1 Φ):RetP Tryz.prog 78 #[.slice A1 n1 c1,.agg #[.int .i64 (x1.Volume),.int .i64 (x1.Start),.slice A2 n2 c2]] H (fun _ v L=>∃ y,Φ y∧v = .int .i64 (y)∧L=[]):=by
 refine RetP.mono (okT78 (x0,x1,()) (fun y=>Φ y.1) hm H [.slice A1 n1 c1,.agg #[.int .i64 (x1.Volume),.int .i64 (x1.Start),.slice A2 n2 c2]] trivial ⟨_,[.slice A1 n1 c1],_,rfl,by rw [pk41],(show Dt.rd (α:=List (List Sec)) H _ _ from⟨A1,n1,c1,s1,rfl,hF1⟩),⟨_,[.int .i64 (x1.Volume),.int .i64 (x1.Start),.slice A2 n2 c2],_,rfl,by rw [pk72],(show Dt.rd (α:=q10) H _ _ from⟨A2,n2,c2,s2,rfl,hF2⟩),rfl⟩⟩) fun H' v L _ ⟨y,hy,hr⟩=>?_;obtain⟨ρ,_,_,_,_,h1,h2⟩:=hr 0 (fun _=>none) (fun _ _=>rfl) _ _ _ (show resE Tryz.prog tab _ _ y 0=some (.i .i64 y.1,[],0) by kernel_rfl);exact⟨y.1,hy,h1,h2⟩
theorem q314{H:Hp}(x0:List (List Sec))(x1:List q10){A1:Option Addr}{n1 c1:Nat}{s1:List Value}(hF1:Fz (α:=List Sec) H A1 n1 c1 x0 s1){A2:Option Addr}{n2 c2:Nat}{s2:List Value}(hF2:Fz (α:=q10) H A2 n2 c2 x1 s2){Φ:List (List Sec)×Int×Int→Prop}(hm:q98 x0 x1 Φ):RetP Tryz.prog 35 #[.slice A1 n1 c1,.slice A2 n2 c2] H (fun H' v L=>∃ y,Φ y∧∃ A89,∃ n89,∃ c89,∃ s89,∃ rs90,v = .tuple #[.slice A89 n89 c89,.int .i64 (y.2.1),.int .i64 (y.2.2)]∧DeepL (α:=List Sec) [70] H' s89 y.1 rs90∧n89=y.1.length∧L = .row (.slice A89 n89 c89) 50 1 n89 s89::rs90):=by
 refine RetP.of_code Tryz.func35 rfl (nb rfl) fun w0 hM=>?_
 refine CW.sr <| RW.st (Ex.assign (.slice none 0 0) rfl) rfl <| RW.st (Ex.assign (.int .i64 0) rfl) rfl <| RW.st (Ex.assign (.int .i64 0) rfl) rfl <| RW.nil <| CW.seq <| CW.sr <| RW.st (Ex.move (.slice A1 n1 c1) rfl) rfl ?_
 refine RW.callP hM (q313 x0 hF1 hm) en76 rfl rfl rfl rfl ?_;rintro _ w H4 _ hle5 ⟨v3,hm,rfl,rfl⟩ hM
 refine RW.st (Ex.assign (.int .i64 v3) rfl) rfl <| RW.nil <| CW.sr <| RW.st (Ex.move (.int .i64 v3) rfl) rfl <| RW.st (Ex.neq rfl rfl) rfl <| RW.nil ?_
 refine CW.cond_dec (p:=v3≠0) rfl (fun hc6=>?_) (fun hc6=>?_)
 ·
  replace hm:=And.left hm hc6
  refine CW.sr <| RW.st (Ex.move (.int .i64 v3) rfl) rfl <| RW.st (Ex.assign (.slice none 0 0) rfl) rfl <| RW.st (Ex.assign (.int .i64 0) rfl) rfl <| RW.st (Ex.assign (.int .i64 v3) rfl) rfl <| RW.nil <| CW.ret ?_
  refine q196 ?_;refine q432 (.inl rfl) rfl (.slice none 0 0) (.int .i64 0) (.int .i64 v3) rfl rfl rfl ?_
  replace hM:=hM.nilRow 50 1
  exact⟨_,_,hM,(([]:List (List Sec)),0,v3),hm,none,0,0,[],[],rfl,(DeepL.nil:DeepL (α:=List Sec) [70] H4 [] [] []),rfl,rfl⟩
 ·
  replace hm:=And.right hm hc6
  refine CW.skip <| CW.sr <| RW.st (Ex.move (.slice A1 n1 c1) rfl) rfl ?_
  refine RW.callP hM (q269 x0 (hF1.mono hle5) hm) en77 rfl rfl rfl rfl ?_;rintro _ w H8 _ hle9 ⟨v7,hm,A10,n10,c10,s10,rs11,rfl,hd12,hn13,rfl⟩ hM
  replace hM:=Mem.toTail (a:=[.row (.slice A10 n10 c10) 50 1 n10 s10]) (b:=rs11) (c:=[]) hM
  refine RW.st (Ex.assign (.slice A10 n10 c10) rfl) rfl <| RW.nil <| CW.seq <| CW.sr <| RW.st (Ex.move (.slice A2 n2 c2) rfl) rfl <| RW.st (Ex.lenN st34.1 rfl hF2.hn) rfl <| RW.st (Ex.move (.int .i64 0) rfl) rfl <| RW.nil <| CW.block ?_
  obtain⟨m88,hm⟩:=hm
  skip
  refine CW.loop (β:=Nat) (fun n σ w=>∃ (v16:List (List Sec)),∃ (A17:Option Addr),∃ (n18:Nat),∃ (c19:Nat),∃ (s20:List Value),∃ (rs21:List Ent),∃ (v24:Int),∃ Hk14,H8.le Hk14∧(∃ τ,σ=sl [(8,.slice A17 n18 c19),(19,.slice A2 n2 c2),(20,.int .i64 ((x1.length:Int))),(21,.int .i64 v24)] τ)∧Mem w0 H w Hk14 (.row (.slice A17 n18 c19) 50 1 n18 s20::rs21)∧(DeepL (α:=List Sec) [70] Hk14 s20 v16 rs21)∧(n18=v16.length)∧LoopN (Z21 x1 Φ) n (v16,v24)) (fun n=>n) m88 ⟨v7,A10,n10,c10,s10,rs11,0,H8,(Hp.le.refl _),q56 ⟨rfl,rfl,rfl,rfl,trivial⟩,hM,hd12,hn13,hm⟩ ?_
  rintro k25 _ w ⟨v16,A17,n18,c19,s20,rs21,v24,Hk14,hle15,⟨τ,rfl⟩,hM,hd22,hn23,hm⟩
  obtain _ | k25:=k25
  · exact hm.elim
  replace hm:(Z21 x1 Φ) (v16,v24) (LoopN (Z21 x1 Φ) k25):=hm
  generalize hrec26:LoopN (Z21 x1 Φ) k25=rec1 at hm;refine CW.sr <| RW.st (Ex.lss rfl rfl) rfl <| RW.nil <| CW.seq ?_
  refine CW.cond_dec (p:=v24<(x1.length:Int)) rfl (fun hc27=>?_) (fun hc27=>?_)
  ·
   replace hm:=And.left hm hc27
   refine CW.skip <| CW.seq <| CW.block <| CW.sr <| RW.st (Ex.move (.int .i64 v24) rfl) rfl ?_
   obtain⟨hg28,hm⟩:=hm;refine RW.st (Ex.index st34 rfl rfl v24.toNat (hF2.ne hg28) hg28.nat (hF2.lt hg28)) rfl ?_;obtain⟨_,⟨A29,n29,c29,s29,rfl,hF29⟩,hx30⟩:=DtL.getI (α:=q10) (hF2.mono ((hle5.trans hle9).trans hle15)).dat hg28;refine RW.st (Ex.loadEA hM ((hle5.trans hle9).trans hle15) hF2.rdc [.int .i64 ((ix x1 v24).Volume),.int .i64 ((ix x1 v24).Start),.slice A29 n29 c29] ta72 rfl (hF2.ne hg28) rfl (q68 (off:=0) (n:=3) hx30 rfl)) rfl ?_;refine RW.alloc hM tz72 [.int .i64 0,.int .i64 0,.slice none 0 0] rfl rfl rfl ?_;intro b31 w hM;refine RW.st (Ex.assign (.int .i64 v24) rfl) rfl ?_;refine RW.store hM 0 (.agg #[.int .i64 ((ix x1 v24).Volume),.int .i64 ((ix x1 v24).Start),.slice A29 n29 c29]) [.int .i64 ((ix x1 v24).Volume),.int .i64 ((ix x1 v24).Start),.slice A29 n29 c29] [.int .i64 ((ix x1 v24).Volume),.int .i64 ((ix x1 v24).Start),.slice A29 n29 c29] sz72 rfl rfl rfl (q67 ⟨rfl,rfl,rfl,trivial⟩) rfl (nb rfl) rfl (.box b31 72 [.int .i64 ((ix x1 v24).Volume),.int .i64 ((ix x1 v24).Start),.slice A29 n29 c29]::.row (.slice A17 n18 c19) 50 1 n18 s20::rs21) rfl rfl rfl ?_;intro w hM;refine RW.nil <| CW.seq <| CW.sr <| RW.st (Ex.move (.slice A17 n18 c19) rfl) rfl <| RW.st (Ex.loadA hM 0 [.int .i64 ((ix x1 v24).Volume),.int .i64 ((ix x1 v24).Start),.slice A29 n29 c29] ta72 rfl rfl rfl rfl) rfl ?_
   have hM1:=hM;obtain⟨H32,hM,hle33,hd34⟩:=DeepL.flat (es:=[.box b31 72 [.int .i64 ((ix x1 v24).Volume),.int .i64 ((ix x1 v24).Start),.slice A29 n29 c29],.row (.slice A17 n18 c19) 50 1 n18 s20]) hM hd22;obtain⟨H35,hM,hle36,hF37⟩:=hM.giveF (α:=List Sec) 1 rfl hd34 hn23;refine RW.callB hM1 hM (q372 v16 (ix x1 v24) hF37 (hF29.mono (hle33.trans hle36)) hm) en78 rfl rfl rfl rfl ?_;clear hM hM1;intro v38 w hm hM;refine RW.st (Ex.assign (.int .i64 v38) rfl) rfl <| RW.nil <| CW.sr <| RW.st (Ex.move (.int .i64 v38) rfl) rfl <| RW.st (Ex.neq rfl rfl) rfl <| RW.nil ?_
   refine CW.cond_dec (p:=v38≠0) rfl (fun hc41=>?_) (fun hc41=>?_)
   ·
    replace hm:=And.left hm hc41
    refine CW.sr <| RW.st (Ex.move (.int .i64 v24) rfl) rfl <| RW.st (Ex.move (.int .i64 v38) rfl) rfl <| RW.st (Ex.assign (.slice none 0 0) rfl) rfl <| RW.st (Ex.assign (.int .i64 v24) rfl) rfl <| RW.st (Ex.assign (.int .i64 v38) rfl) rfl <| RW.nil <| CW.ret ?_
    refine q196 (q399 (q196 (q196 (q399 (q196 ?_)))));refine q432 (.inl rfl) rfl (.slice none 0 0) (.int .i64 v24) (.int .i64 v38) rfl rfl rfl ?_
    replace hM:=hM.nilRow 50 1
    exact⟨_,_,((Mem.dropT (L1:=[.row (.slice none 0 0) 50 1 0 [],.box b31 72 [.int .i64 ((ix x1 v24).Volume),.int .i64 ((ix x1 v24).Start),.slice A29 n29 c29],.row (.slice A17 n18 c19) 50 1 n18 s20]) (T:=rs21) hM).pick [0] rfl rfl),(([]:List (List Sec)),v24,v38),hm,none,0,0,[],[],rfl,(DeepL.nil:DeepL (α:=List Sec) [70] Hk14 [] [] []),rfl,rfl⟩
   ·
    replace hm:=And.right hm hc41
    refine CW.skip ?_;obtain⟨hg42,hm⟩:=hm;obtain⟨c44,_,c45,_,rs46,rfl,⟨A43,n43,c43,s43,rfl,rfl,hF43,hn48⟩,hh47,hM⟩:=Mem.focus [.box b31 72 [.int .i64 ((ix x1 v24).Volume),.int .i64 ((ix x1 v24).Start),.slice A29 n29 c29],.row (.slice A17 n18 c19) 50 1 n18 s20] hM hd22 hg42;have hx49:=Hole.get (ch:=[.slice A43 n43 c43]) hh47;obtain⟨hg55,hm⟩:=hm
    refine CW.drawL 10 [] [(fun Hq us E=>us=[.slice A17 n18 c19]∧E=[]∧True),(fun Hq us E=>us=[.pointer (some ⟨b31,0,none⟩)]∧E=[]∧True),(fun Hq us E=>us=[.int .i64 ((ix x1 v24).Volume)]∧E=[]∧True),(fun Hq us E=>us=[elp A17 ((((ix x1 v24).Volume).toNat)*1+0)]∧E=[]∧True),(fun Hq us E=>us=[.slice A43 n43 c43]∧E=[]∧True),(fun Hq us E=>us=[.pointer (some ⟨b31,1,none⟩)]∧E=[]∧True),(fun Hq us E=>us=[.int .i64 ((ix x1 v24).Start)]∧E=[]∧True),(fun Hq us E=>∃ (A56:Option Addr),∃ (n57:Nat),∃ (c58:Nat),us=[.slice A56 n57 c58]∧E=[]∧View A43 n43 c43 8 ((ix x1 v24).Start) A56 n57 c58∧True),(fun Hq us E=>us=[.pointer (some ⟨b31,2,none⟩)]∧E=[]∧True),(fun Hq us E=>us=[.slice A29 n29 c29]∧E=[]∧True)]
     (fun k=>[[0],[1],[2],[3],[4],[5],[6],[7],[8],[9]].getD k []) (fun _=>none) (by kernel_rfl) hM (by kernel_rfl) (by kernel_rfl) (by kernel_rfl) rfl (by simp only [List.forall_mem_cons];exact⟨fun _ _ _ _ hle ⟨e1,e2,_⟩=>⟨e1,e2,trivial⟩,fun _ _ _ _ hle ⟨e1,e2,_⟩=>⟨e1,e2,trivial⟩,fun _ _ _ _ hle ⟨e1,e2,_⟩=>⟨e1,e2,trivial⟩,fun _ _ _ _ hle ⟨e1,e2,_⟩=>⟨e1,e2,trivial⟩,fun _ _ _ _ hle ⟨e1,e2,_⟩=>⟨e1,e2,trivial⟩,fun _ _ _ _ hle ⟨e1,e2,_⟩=>⟨e1,e2,trivial⟩,fun _ _ _ _ hle ⟨e1,e2,_⟩=>⟨e1,e2,trivial⟩,fun _ _ _ _ hle ⟨A56,n57,c58,e1,e2,hV59,_⟩=>⟨A56,n57,c58,e1,e2,hV59,trivial⟩,fun _ _ _ _ hle ⟨e1,e2,_⟩=>⟨e1,e2,trivial⟩,fun _ _ _ _ hle ⟨e1,e2,_⟩=>⟨e1,e2,trivial⟩,by simp⟩) ⟨?_, ?_, ?_, ?_, ?_, ?_, ?_, ?_, ?_, ?_,trivial⟩ ?_
    ·
     intro H' σ' w R E hle hMR hE0 hE hp hf;obtain rfl:=hE0 rfl;obtain⟨τ,rfl⟩:=q56 (σ:=σ') (l:=[(8,.slice A17 n18 c19)]) ⟨(hf 8 (by kernel_rfl)).trans rfl,trivial⟩;have hM:=Mem.subR (R:=R) hMR;exact RW.step (Ex.move (.slice A17 n18 c19) rfl) rfl rfl rfl (RW.nil ⟨rfl,rfl,_,rfl,H',[],Hp.le.refl _,hMR,rfl,rfl,trivial⟩)
    ·
     intro H' σ' w R E hle hMR hE0 hE hp hf;obtain rfl:=hE0 rfl;obtain⟨τ,rfl⟩:=q56 (σ:=σ') (l:=[(10,.pointer (some ⟨b31,0,none⟩))]) ⟨(hf 10 (by kernel_rfl)).trans rfl,trivial⟩;have hM:=Mem.subR (R:=R) hMR;exact RW.step (Ex.fieldAddr fa72_0 rfl) rfl rfl rfl (RW.nil ⟨rfl,rfl,_,rfl,H',[],Hp.le.refl _,hMR,rfl,rfl,trivial⟩)
    ·
     intro H' σ' w R E hle hMR hE0 hE hp hf;obtain rfl:=hE0 rfl;obtain⟨_,hg⟩:=hp 1 (by decide) (by kernel_rfl);obtain⟨e60,_,_⟩:=hg.get rfl;have e61:σ' 34 = .pointer (some ⟨b31,0,none⟩):=(List.cons.inj e60).1;obtain⟨τ,rfl⟩:=q56 (σ:=σ') (l:=[(34,.pointer (some ⟨b31,0,none⟩))]) ⟨e61,trivial⟩;have hM:=Mem.subR (R:=R) hMR;exact RW.step (Ex.load1 hM 1 to3 rfl rfl rfl) rfl rfl rfl (RW.nil ⟨rfl,rfl,_,rfl,H',[],Hp.le.refl _,hMR,rfl,rfl,trivial⟩)
    ·
     intro H' σ' w R E hle hMR hE0 hE hp hf;obtain rfl:=hE0 rfl;obtain⟨_,hg⟩:=hp 0 (by decide) (by kernel_rfl);obtain⟨e62,_,_⟩:=hg.get rfl;have e63:σ' 33 = .slice A17 n18 c19:=(List.cons.inj e62).1;obtain⟨_,hg⟩:=hp 2 (by decide) (by kernel_rfl);obtain⟨e64,_,_⟩:=hg.get rfl;have e65:σ' 35 = .int .i64 ((ix x1 v24).Volume):=(List.cons.inj e64).1;obtain⟨τ,rfl⟩:=q56 (σ:=σ') (l:=[(33,.slice A17 n18 c19),(35,.int .i64 ((ix x1 v24).Volume))]) ⟨e63,e65,trivial⟩;have hM:=Mem.subR (R:=R) hMR;exact RW.step (Ex.index st41 rfl rfl (((ix x1 v24).Volume).toNat) (hM.rowNeD (α:=List Sec) (p:=2) rfl hn23 hg42) hg42.nat (Nat.lt_of_lt_of_eq hg42.lt (hn23).symm)) rfl rfl rfl (RW.nil ⟨rfl,rfl,_,rfl,H',[],Hp.le.refl _,hMR,rfl,rfl,trivial⟩)
    ·
     intro H' σ' w R E hle hMR hE0 hE hp hf;obtain rfl:=hE0 rfl;obtain⟨_,hg⟩:=hp 3 (by decide) (by kernel_rfl);obtain⟨e66,_,_⟩:=hg.get rfl;have e67:σ' 36=elp A17 ((((ix x1 v24).Volume).toNat)*1+0):=(List.cons.inj e66).1;obtain⟨τ,rfl⟩:=q56 (σ:=σ') (l:=[(36,elp A17 ((((ix x1 v24).Volume).toNat)*1+0))]) ⟨e67,trivial⟩;have hM:=Mem.subR (R:=R) hMR;exact RW.step (Ex.loadR hM 2 rfl to50 (hM.rowNeD (α:=List Sec) (p:=2) rfl hn23 hg42) rfl (hx49 0 _ rfl)) rfl rfl rfl (RW.nil ⟨rfl,rfl,_,rfl,H',[],Hp.le.refl _,hMR,rfl,rfl,trivial⟩)
    ·
     intro H' σ' w R E hle hMR hE0 hE hp hf;obtain rfl:=hE0 rfl;obtain⟨τ,rfl⟩:=q56 (σ:=σ') (l:=[(10,.pointer (some ⟨b31,0,none⟩))]) ⟨(hf 10 (by kernel_rfl)).trans rfl,trivial⟩;have hM:=Mem.subR (R:=R) hMR;exact RW.step (Ex.fieldAddr fa72_1 rfl) rfl rfl rfl (RW.nil ⟨rfl,rfl,_,rfl,H',[],Hp.le.refl _,hMR,rfl,rfl,trivial⟩)
    ·
     intro H' σ' w R E hle hMR hE0 hE hp hf;obtain rfl:=hE0 rfl;obtain⟨_,hg⟩:=hp 5 (by decide) (by kernel_rfl);obtain⟨e68,_,_⟩:=hg.get rfl;have e69:σ' 38 = .pointer (some ⟨b31,1,none⟩):=(List.cons.inj e68).1;obtain⟨τ,rfl⟩:=q56 (σ:=σ') (l:=[(38,.pointer (some ⟨b31,1,none⟩))]) ⟨e69,trivial⟩;have hM:=Mem.subR (R:=R) hMR;exact RW.step (Ex.load1 hM 1 to3 rfl rfl rfl) rfl rfl rfl (RW.nil ⟨rfl,rfl,_,rfl,H',[],Hp.le.refl _,hMR,rfl,rfl,trivial⟩)
    ·
     intro H' σ' w R E hle hMR hE0 hE hp hf;obtain rfl:=hE0 rfl;obtain⟨_,hg⟩:=hp 4 (by decide) (by kernel_rfl);obtain⟨e70,_,_⟩:=hg.get rfl;have e71:σ' 37 = .slice A43 n43 c43:=(List.cons.inj e70).1;obtain⟨_,hg⟩:=hp 6 (by decide) (by kernel_rfl);obtain⟨e72,_,_⟩:=hg.get rfl;have e73:σ' 39 = .int .i64 ((ix x1 v24).Start):=(List.cons.inj e72).1;obtain⟨τ,rfl⟩:=q56 (σ:=σ') (l:=[(37,.slice A43 n43 c43),(39,.int .i64 ((ix x1 v24).Start))]) ⟨e71,e73,trivial⟩;have hM:=Mem.subR (R:=R) hMR;refine RW.sliceLo st50 rfl rfl hn48 hg55 rfl rfl ?_;intro A56 n57 c58 hV59;exact RW.nil ⟨rfl,rfl,_,rfl,H',[],Hp.le.refl _,hMR,A56,n57,c58,rfl,rfl,hV59,trivial⟩
    ·
     intro H' σ' w R E hle hMR hE0 hE hp hf;obtain rfl:=hE0 rfl;obtain⟨τ,rfl⟩:=q56 (σ:=σ') (l:=[(10,.pointer (some ⟨b31,0,none⟩))]) ⟨(hf 10 (by kernel_rfl)).trans rfl,trivial⟩;have hM:=Mem.subR (R:=R) hMR;exact RW.step (Ex.fieldAddr fa72_2 rfl) rfl rfl rfl (RW.nil ⟨rfl,rfl,_,rfl,H',[],Hp.le.refl _,hMR,rfl,rfl,trivial⟩)
    ·
     intro H' σ' w R E hle hMR hE0 hE hp hf;obtain rfl:=hE0 rfl;obtain⟨_,hg⟩:=hp 8 (by decide) (by kernel_rfl);obtain⟨e74,_,_⟩:=hg.get rfl;have e75:σ' 41 = .pointer (some ⟨b31,2,none⟩):=(List.cons.inj e74).1;obtain⟨τ,rfl⟩:=q56 (σ:=σ') (l:=[(41,.pointer (some ⟨b31,2,none⟩))]) ⟨e75,trivial⟩;have hM:=Mem.subR (R:=R) hMR;exact RW.step (Ex.load1 hM 1 to50 rfl rfl rfl) rfl rfl rfl (RW.nil ⟨rfl,rfl,_,rfl,H',[],Hp.le.refl _,hMR,rfl,rfl,trivial⟩)
    ·
     intro HR8 σ' w X miss hms hleR hM hX hX0 hf;simp [subs] at hms;rcases hms with rfl
     ·
      obtain⟨H76,hH8⟩:∃ x,x=HR8:=⟨_,rfl⟩
      subst hH8;have hle77:=hleR;obtain⟨_,g0,y0⟩:=hX 0 (by decide) (by kernel_rfl);obtain⟨_,rfl,_⟩:=g0.get rfl
      replace y0:X 0=[]:=y0
      obtain⟨_,g0,y1⟩:=hX 1 (by decide) (by kernel_rfl);obtain⟨_,rfl,_⟩:=g0.get rfl
      replace y1:X 1=[]:=y1
      obtain⟨_,g0,y2⟩:=hX 2 (by decide) (by kernel_rfl);obtain⟨_,rfl,_⟩:=g0.get rfl
      replace y2:X 2=[]:=y2
      obtain⟨_,g0,y3⟩:=hX 3 (by decide) (by kernel_rfl);obtain⟨_,rfl,_⟩:=g0.get rfl
      replace y3:X 3=[]:=y3
      obtain⟨_,g0,y4⟩:=hX 4 (by decide) (by kernel_rfl);obtain⟨_,rfl,_⟩:=g0.get rfl
      replace y4:X 4=[]:=y4
      obtain⟨_,g0,y5⟩:=hX 5 (by decide) (by kernel_rfl);obtain⟨_,rfl,_⟩:=g0.get rfl
      replace y5:X 5=[]:=y5
      obtain⟨_,g0,y6⟩:=hX 6 (by decide) (by kernel_rfl);obtain⟨_,rfl,_⟩:=g0.get rfl
      replace y6:X 6=[]:=y6
      obtain⟨_,g0,y7⟩:=hX 7 (by decide) (by kernel_rfl);obtain⟨A56,n57,c58,e78,rfl,hV59,_⟩:=g0.get rfl;have e79:σ' 40 = .slice A56 n57 c58:=(List.cons.inj e78).1
      replace y7:X 7=[]:=y7
      obtain⟨_,g0,y8⟩:=hX 8 (by decide) (by kernel_rfl);obtain⟨_,rfl,_⟩:=g0.get rfl
      replace y8:X 8=[]:=y8
      obtain⟨_,g0,y9⟩:=hX 9 (by decide) (by kernel_rfl);obtain⟨e80,rfl,_⟩:=g0.get rfl;have e81:σ' 42 = .slice A29 n29 c29:=(List.cons.inj e80).1
      replace y9:X 9=[]:=y9
      have hfl:flatX X 10=[]:=by
       show X 0++(X 1++(X 2++(X 3++(X 4++(X 5++(X 6++(X 7++(X 8++(X 9++[])))))))))=_;rw [y0,y1,y2,y3,y4,y5,y6,y7,y8,y9];rfl
      rw [hfl] at hM;obtain⟨τ,rfl⟩:=q56 (σ:=σ') (l:=[(8,.slice A17 n18 c19),(19,.slice A2 n2 c2),(20,.int .i64 ((x1.length:Int))),(21,.int .i64 v24),(40,.slice A56 n57 c58),(42,.slice A29 n29 c29)]) ⟨(hf 8 (by kernel_rfl)).trans rfl,(hf 19 (by kernel_rfl)).trans rfl,(hf 20 (by kernel_rfl)).trans rfl,(hf 21 (by kernel_rfl)).trans rfl,e79,e81,trivial⟩;change RA _ _ _ _ _ _ _ (sl [(8,.slice A17 n18 c19),(19,.slice A2 n2 c2),(20,.int .i64 ((x1.length:Int))),(21,.int .i64 v24),(40,.slice A56 n57 c58),(42,.slice A29 n29 c29)] τ) _ 11 _;refine RA.step [10] (by kernel_rfl) rfl ⟨⟨_,rfl, ?_⟩,trivial⟩;refine RW.copyV (α:=Sec) (xs:=(ix v16 ((ix x1 v24).Volume))) (ys:=(ix x1 v24).Data) hM 0 st50 rfl hV59 rfl (hF43.mono hle77) hn48 hg55 rfl hle77 hF29 rfl rfl ?_;intro s82 w hd83 hM;refine RW.nil ?_;refine And.intro rfl ?_;refine RA.done (by kernel_rfl) ?_;refine CW.region ?_;obtain⟨hg84,hm⟩:=hm;refine RW.st (Ex.add rfl rfl hg84.1 hg84.2) rfl <| RW.st (Ex.move (.int .i64 (v24+1)) rfl) rfl <| RW.nil ?_
      obtain⟨s85,rs86,hd87,hM⟩:=Mem.unfocus (α:=List Sec) (Ts:=[70]) (x:=(paste (ix v16 ((ix x1 v24).Volume)) ((ix x1 v24).Start) ((ix x1 v24).Data))) [.box b31 72 [.int .i64 ((ix x1 v24).Volume),.int .i64 ((ix x1 v24).Start),.slice A29 n29 c29],.row (.slice A17 n18 c19) 50 1 n18 (c44++([.slice A43 n43 c43]++c45))] hM 1 rfl (hh47.mono hle77) ⟨A43,n43,c43,s82,rfl,rfl,hd83,(hn48).trans (q256 hg55).symm⟩;exact And.intro rfl ⟨k25,⟨(put v16 ((ix x1 v24).Volume) (paste (ix v16 ((ix x1 v24).Volume)) ((ix x1 v24).Start) ((ix x1 v24).Data))),A17,n18,c19,s85,rs86,v24+1,H76,hle15.trans hle77,q56 ⟨rfl,rfl,rfl,rfl,trivial⟩,(Mem.pickT (L1:=[.box b31 72 [.int .i64 ((ix x1 v24).Volume),.int .i64 ((ix x1 v24).Start),.slice A29 n29 c29],.row (.slice A17 n18 c19) 50 1 n18 s85]) (T:=rs86) hM [1] rfl rfl),hd87,(hn23).trans (q147 _ _ _).symm,(by rw [hrec26];exact hm)⟩,Nat.lt_succ_self _⟩
  ·
   replace hm:=And.right hm hc27
   refine CW.exit ?_;refine CW.sr <| RW.st (Ex.move (.slice A17 n18 c19) rfl) rfl <| RW.st (Ex.assign (.slice A17 n18 c19) rfl) rfl <| RW.st (Ex.assign (.int .i64 0) rfl) rfl <| RW.st (Ex.assign (.int .i64 0) rfl) rfl <| RW.nil <| CW.ret ?_
   refine q432 (.inl rfl) rfl (.slice A17 n18 c19) (.int .i64 0) (.int .i64 0) rfl rfl rfl ?_;exact⟨_,_,hM,(v16,0,0),hm,A17,n18,c19,s20,rs21,rfl,hd22,hn23,rfl⟩
theorem pk34(v:Value)(cs:List Value):PkR Tryz.prog 34 v cs=(cs=[v]):=by kernel_rfl
set_option maxRecDepth 100000 in
theorem ok35:ct35.Ok Tryz.prog tab gh:=by
 intro x Φ hW H vs _ hA;obtain⟨v0,k0,q0,rfl,p0,r0,v1,k1,q1,rfl,p1,r1,hq⟩:=hA;obtain rfl:q1=[]:=hq;rw [pk41] at p0;subst p0;obtain⟨A0,n0,c0,s0,e0,hF0⟩:=(show Dt.rd (α:=List (List Sec)) H _ _ from r0)
 obtain rfl:=(List.cons.inj e0).1;rw [pk34] at p1;subst p1;obtain⟨A1,n1,c1,s1,e1,hF1⟩:=(show Dt.rd (α:=List q10) H _ _ from r1)
 obtain rfl:=(List.cons.inj e1).1;have hW:q98 x.1 x.2.1 (fun y=>Φ (y.1,y.2.1,y.2.2,())):=hW;intro w hw;refine(q314 x.1 x.2.1 hF0 hF1 hW w hw).mono fun e w' ⟨v,H',L',h1,hM,y,hy,A,n,c,s,rs,hv,hd,hn,hL⟩=>?_;subst hL;obtain⟨H2,g1,g2,g3⟩:=DeepL.flat (es:=[_]) hM hd;refine⟨v,H2,_,h1,g1,_,hy,fun nx ρ0 hn0 s' b m hre=>?_⟩;rw [show resE Tryz.prog tab ct35.rs ct35.own (y.1,y.2.1,y.2.2,()) nx=some (.tup [.own nx,.i .i64 y.2.1,.i .i64 y.2.2],[(nx,.row 50 y.1)],nx+1) by kernel_rfl] at hre;cases hre;obtain⟨f1,f2⟩:=q108 hn0 (.r A n c);exact⟨ρ0.put nx (.r A n c),f1,Nat.le_succ _,f2,fun id hid=>RM.put_ne _ _ (Nat.ne_of_lt hid),⟨_,hv,_,_,rfl,⟨A,n,c,RM.put_same _ _ _,rfl⟩,_,_,rfl,rfl,_,_,rfl,rfl,rfl⟩,_,_,rfl,⟨A,n,c,s,RM.put_same _ _ _,rfl,g3,hn⟩,rfl⟩
theorem ok86:ct86.Ok Tryz.prog tab gh:=okU eq86 ⟨tabOk,⟨ok112,trivial⟩,mo,trivial,ghUp,trivial,trivial⟩
theorem ok127:ct127.Ok Tryz.prog tab gh:=okU eq127 ⟨tabOk,⟨ok86,trivial⟩,mo,trivial,ghUp,trivial,trivial⟩
theorem ok109:ct109.Ok Tryz.prog tab gh:=okU eq109 ⟨tabOk,⟨ok127,trivial⟩,mo,trivial,ghUp,trivial,trivial⟩
theorem ok79:ct79.Ok Tryz.prog tab gh:=okU eq79 ⟨tabOk,⟨ok12,ok72,ok74,ok109,trivial⟩,mo,trivial,ghUp,trivial,trivial⟩
theorem ok80:ct80.Ok Tryz.prog tab gh:=okU eq80 ⟨tabOk,⟨ok76,ok78,trivial⟩,mo,trivial,ghUp,trivial,trivial⟩
theorem ok95:ct95.Ok Tryz.prog tab gh:=okU eq95 ⟨tabOk,trivial,mo,trivial,ghUp,trivial,trivial⟩
theorem ok128:ct128.Ok Tryz.prog tab gh:=okU eq128 ⟨tabOk,⟨ok95,trivial⟩,mo,trivial,ghUp,trivial,trivial⟩
theorem ok110:ct110.Ok Tryz.prog tab gh:=okU eq110 ⟨tabOk,⟨ok128,trivial⟩,mo,trivial,ghUp,trivial,trivial⟩
theorem ok137:ct137.Ok Tryz.prog tab gh:=okU eq137 ⟨tabOk,trivial,mo,trivial,ghUp,trivial,trivial⟩
theorem ok115:ct115.Ok Tryz.prog tab gh:=okU eq115 ⟨tabOk,trivial,mo,trivial,ghUp,trivial,trivial⟩
theorem ok129:ct129.Ok Tryz.prog tab gh:=okU eq129 ⟨tabOk,trivial,mo,trivial,ghUp,trivial,trivial⟩
theorem ok111:ct111.Ok Tryz.prog tab gh:=okU eq111 ⟨tabOk,⟨ok86,ok95,ok115,ok129,ok137,trivial⟩,mo,trivial,ghUp,trivial,trivial⟩
theorem ok36:ct36.Ok Tryz.prog tab gh:=okU eq36 ⟨tabOk,⟨ok12,ok60,ok79,ok80,ok110,ok111,trivial⟩,mo,trivial,ghUp,trivial,⟨q770,trivial⟩⟩
theorem ok37:ct37.Ok Tryz.prog tab gh:=okU eq37 ⟨tabOk,⟨ok79,ok110,trivial⟩,mo,trivial,ghUp,trivial,trivial⟩
theorem ok84:ct84.Ok Tryz.prog tab gh:=okU eq84 ⟨tabOk,trivial,mo,trivial,ghUp,trivial,trivial⟩
theorem ok85:ct85.Ok Tryz.prog tab gh:=okU eq85 ⟨tabOk,⟨ok84,trivial⟩,mo,trivial,ghUp,trivial,trivial⟩
theorem ok38:ct38.Ok Tryz.prog tab gh:=okU eq38 ⟨tabOk,⟨ok76,ok84,ok85,ok86,trivial⟩,mo,trivial,ghUp,trivial,trivial⟩
theorem ok14:ct14.Ok Tryz.prog tab gh:=okU eq14 ⟨tabOk,⟨ok13,ok33,ok34,ok35,ok36,ok37,ok38,trivial⟩,mo,trivial,ghUp,trivial,trivial⟩
theorem ok4:ct4.Ok Tryz.prog tab gh:=okU eq4 ⟨tabOk,⟨ok12,ok13,ok14,trivial⟩,mo,trivial,ghUp,trivial,trivial⟩
theorem ok90:ct90.Ok Tryz.prog tab gh:=okU eq90 ⟨tabOk,trivial,mo,trivial,ghUp,trivial,trivial⟩
theorem ok45:ct45.Ok Tryz.prog tab gh:=okU eq45 ⟨tabOk,⟨ok90,trivial⟩,mo,trivial,ghUp,trivial,trivial⟩
theorem ok17:ct17.Ok Tryz.prog tab gh:=okU eq17 ⟨tabOk,⟨ok38,ok45,trivial⟩,mo,trivial,ghUp,trivial,trivial⟩
theorem ok42:ct42.Ok Tryz.prog tab gh:=okU eq42 ⟨tabOk,trivial,mo,trivial,ghUp,trivial,trivial⟩
theorem ok113:ct113.Ok Tryz.prog tab gh:=okU eq113 ⟨tabOk,trivial,mo,trivial,ghUp,trivial,trivial⟩
theorem ok87:ct87.Ok Tryz.prog tab gh:=okU eq87 ⟨tabOk,⟨ok113,trivial⟩,mo,trivial,ghUp,trivial,trivial⟩
theorem ok43:ct43.Ok Tryz.prog tab gh:=okU eq43 ⟨tabOk,⟨ok87,trivial⟩,mo,trivial,ghUp,trivial,trivial⟩
theorem ok41:ct41.Ok Tryz.prog tab gh:=okU eq41 ⟨tabOk,⟨ok42,ok43,trivial⟩,mo,trivial,ghUp,trivial,trivial⟩
theorem ok15:ct15.Ok Tryz.prog tab gh:=okU eq15 ⟨tabOk,⟨ok17,ok41,trivial⟩,mo,trivial,ghUp,trivial,trivial⟩
theorem ok92:ct92.Ok Tryz.prog tab gh:=okU eq92 ⟨tabOk,trivial,mo,trivial,ghUp,trivial,trivial⟩
theorem ok46:ct46.Ok Tryz.prog tab gh:=okU eq46 ⟨tabOk,⟨ok86,ok92,trivial⟩,mo,trivial,ghUp,trivial,trivial⟩
theorem pk83(v:Value)(cs:List Value):PkR Tryz.prog 83 v cs=(cs=[v]):=by kernel_rfl
theorem Ret.toP{P:Program}{f:FuncId}{args:Array Value}{H:Hp}{Φ:Hp→Value→Prop}(h:Ret P f args H Φ):RetP P f args H (fun H' v L=>Φ H' v∧L=[]):=fun w hw=>
 (h w hw).mono fun _ _ ⟨v,H',h1,h2,h3,h4,h5,h6⟩=>⟨v,H',[],h1,⟨h5,h2,h4,h3,by simp,List.Pairwise.nil,by simp⟩,h6,rfl⟩
theorem tz_ret(H:Hp)(x:BitVec 64)(hx:x≠0#64)(hT:TabH H 0):RetV Tryz.prog 116 #[u64 x] H (.int .i64 (Lib.ctz 64 x.toNat:Int)):=by
 obtain⟨cs,T,fr,hb,hc⟩:=hT;obtain⟨hi,htab,hk⟩:=tz_idx hx;refine Ret.of_code Tryz.func116 rfl (Nat.le_of_ble_eq_true rfl) fun w0 hM=>?_;refine CW.seq (CW.region (RW.step (Ex.assign (.int .i64 0) rfl) rfl rfl rfl (RW.nil ?_)));refine CW.seq (CW.seq (CW.region (RW.step (Ex.move (u64 x) rfl) rfl rfl rfl (RW.step (Ex.eql64 (a:=x) (b:=0#64) rfl rfl) rfl rfl rfl (RW.nil ?_)))));refine CW.cond_dec rfl (fun h=>absurd h hx) fun _=>CW.skip ?_;refine CW.seq (CW.region ?_);refine RW.step (Ex.move (u64 x) rfl) rfl rfl rfl ?_;refine RW.step (Ex.move (u64 x) rfl) rfl rfl rfl ?_;refine RW.step (Ex.neg64 (a:=x) rfl) rfl rfl rfl ?_;refine RW.step (Ex.and64 (a:=x) (b:=-x) rfl rfl) rfl rfl rfl ?_;refine RW.step (Ex.mul64 (a:=x &&&-x) (b:=285870213051353865#64) rfl rfl) rfl rfl rfl ?_;refine RW.step (Ex.shr64 (a:=(x &&&-x)*285870213051353865#64) (n:=58) rfl rfl (by omega)) rfl rfl rfl ?_;refine RW.step (Ex.indexArr (arrT_of (n:=64) (e:=5) (sz:=1) (by kernel_rfl)) rfl rfl (((x &&&-x)*285870213051353865#64) >>> (58:Int).toNat).toNat rfl hi) rfl rfl rfl ?_;refine RW.step (Ex.loadH hM (Hp.le.refl _) hb to5 rfl (by rw [Nat.zero_add,Nat.mul_one,hc _ hi,htab])) rfl rfl rfl ?_;refine RW.step (Ex.conv Tryz.underlying5 Tryz.underlying3 rfl (q101 (by omega) (by omega))) rfl rfl rfl ?_;refine RW.step (Ex.assign (.int .i64 (Lib.ctz 64 x.toNat:Int)) rfl) rfl rfl rfl (RW.nil ?_);refine CW.ret ?_
 refine q536 (.inl rfl) rfl (.int .i64 (Lib.ctz 64 x.toNat:Int)) rfl ?_;exact⟨_,_,hM,rfl⟩
set_option maxRecDepth 100000 in
theorem ok116:ct116.Ok Tryz.prog tab gh:=by
 intro x Φ hW H vs hG hA;obtain⟨v0,k0,q0,rfl,p0,r0,hq⟩:=hA;obtain rfl:q0=[]:=hq;rw [pk83] at p0;subst p0;have e0:[v0]=[u64 x.1]:=r0;cases e0;have hW:x.1≠0#64∧Φ ((Lib.ctz 64 (x.1:BitVec 64).toNat:Int),()):=hW;refine RetP.mono (Ret.toP (tz_ret H x.1 hW.1 hG)) fun H' v L _ ⟨hv,hL⟩=>⟨_,hW.2,fun nx ρ0 hn0 s b m hre=>?_⟩
 rw [show resE Tryz.prog tab ct116.rs ct116.own ((Lib.ctz 64 (x.1:BitVec 64).toNat:Int),()) nx=some (.i .i64 (Lib.ctz 64 (x.1:BitVec 64).toNat:Int),[],nx) by kernel_rfl] at hre;cases hre;exact⟨ρ0,RM.le.refl _,Nat.le_refl _,hn0,fun _ _=>rfl,hv,hL⟩
theorem itok114:it114.Ok Tryz.prog gh:=It.lift (E:=⟨Tryz.prog,tab,[ct86,ct115,ct116],pl114,[],gh,[],[],[]⟩) ⟨tabOk,⟨ok86,ok115,ok116,trivial⟩,mo,trivial,ghUp,trivial,trivial⟩ it114 fun x l=>by rw [eqi114];exact id
theorem ok47:ct47.Ok Tryz.prog tab gh:=Ct.lift (E:=⟨Tryz.prog,tab,[],pl47,[it114],gh,[],[],[]⟩) ⟨tabOk,trivial,mo,⟨itok114,trivial⟩,ghUp,trivial,trivial⟩ 9 ct47 fun x Φ=>by rw [eq47];exact id
theorem ok18:ct18.Ok Tryz.prog tab gh:=okU eq18 ⟨tabOk,⟨ok46,ok47,trivial⟩,mo,trivial,ghUp,trivial,trivial⟩
theorem ok19:ct19.Ok Tryz.prog tab gh:=okU eq19 ⟨tabOk,trivial,mo,trivial,ghUp,trivial,trivial⟩
theorem ok6:ct6.Ok Tryz.prog tab gh:=okU eq6 ⟨tabOk,⟨ok17,ok18,ok19,trivial⟩,mo,trivial,ghUp,trivial,trivial⟩
theorem ok88:ct88.Ok Tryz.prog tab gh:=okU eq88 ⟨tabOk,trivial,mo,trivial,ghUp,trivial,trivial⟩
theorem ok44:ct44.Ok Tryz.prog tab gh:=okU eq44 ⟨tabOk,⟨ok88,trivial⟩,mo,trivial,ghUp,trivial,trivial⟩
theorem ok16:ct16.Ok Tryz.prog tab gh:=okU eq16 ⟨tabOk,⟨ok44,trivial⟩,mo,trivial,ghUp,trivial,trivial⟩
theorem ok5:ct5.Ok Tryz.prog tab gh:=okU eq5 ⟨tabOk,⟨ok6,ok12,ok13,ok14,ok15,ok16,trivial⟩,mo,trivial,ghUp,trivial,trivial⟩
theorem ok20:ct20.Ok Tryz.prog tab gh:=okU eq20 ⟨tabOk,trivial,mo,trivial,ghUp,trivial,trivial⟩
theorem itok48:it48.Ok Tryz.prog gh:=It.lift (E:=⟨Tryz.prog,tab,[],pl48,[],gh,[],[],[]⟩) ⟨tabOk,trivial,mo,trivial,ghUp,trivial,trivial⟩ it48 fun x l=>by rw [eqi48];exact id
theorem ok22:ct22.Ok Tryz.prog tab gh:=okU eq22 ⟨tabOk,trivial,mo,trivial,ghUp,trivial,trivial⟩
theorem itok117:it117.Ok Tryz.prog gh:=It.lift (E:=⟨Tryz.prog,tab,[],pl117,[],gh,[],[],[]⟩) ⟨tabOk,trivial,mo,trivial,ghUp,trivial,trivial⟩ it117 fun x l=>by rw [eqi117];exact id
theorem ok94:ct94.Ok Tryz.prog tab gh:=Ct.lift (E:=⟨Tryz.prog,tab,[],pl94,[it117],gh,[],[],[]⟩) ⟨tabOk,trivial,mo,⟨itok117,trivial⟩,ghUp,trivial,trivial⟩ 9 ct94 fun x Φ=>by rw [eq94];exact id
theorem ok52:ct52.Ok Tryz.prog tab gh:=okU eq52 ⟨tabOk,⟨ok94,trivial⟩,mo,trivial,ghUp,trivial,trivial⟩
theorem ok23:ct23.Ok Tryz.prog tab gh:=Ct.liftS (E:=⟨Tryz.prog,tab,[ct52],pl23,[],gh,[],[],[]⟩) ⟨tabOk,⟨ok52,trivial⟩,mo,trivial,ghUp,trivial,trivial⟩ 9 ct23 fun x Φ=>by rw [eq23];exact id
theorem ok7:ct7.Ok Tryz.prog tab gh:=Ct.lift (E:=⟨Tryz.prog,tab,[ct20,ct22,ct23],pl7,[it48],gh,[],[],[]⟩) ⟨tabOk,⟨ok20,ok22,ok23,trivial⟩,mo,⟨itok48,trivial⟩,ghUp,trivial,trivial⟩ 9 ct7 fun x Φ=>by rw [eq7];exact id
theorem ok55:ct55.Ok Tryz.prog tab gh:=okU eq55 ⟨tabOk,trivial,mo,trivial,ghUp,trivial,trivial⟩
theorem ok57:ct57.Ok Tryz.prog tab gh:=okU eq57 ⟨tabOk,trivial,mo,trivial,ghUp,trivial,trivial⟩
theorem ok25:ct25.Ok Tryz.prog tab gh:=okU eq25 ⟨tabOk,⟨ok20,ok23,ok55,ok57,trivial⟩,mo,trivial,ghUp,trivial,trivial⟩
theorem ok53:ct53.Ok Tryz.prog tab gh:=okU eq53 ⟨tabOk,⟨ok95,trivial⟩,mo,trivial,ghUp,trivial,trivial⟩
theorem ok54:ct54.Ok Tryz.prog tab gh:=okU eq54 ⟨tabOk,trivial,mo,trivial,ghUp,trivial,trivial⟩
theorem ok24:ct24.Ok Tryz.prog tab gh:=okU eq24 ⟨tabOk,⟨ok25,ok53,ok54,trivial⟩,mo,trivial,ghUp,trivial,trivial⟩
theorem itok96:it96.Ok Tryz.prog gh:=It.lift (E:=⟨Tryz.prog,tab,[],pl96,[],gh,[],[],[]⟩) ⟨tabOk,trivial,mo,trivial,ghUp,trivial,trivial⟩ it96 fun x l=>by rw [eqi96];exact id
theorem ok59:ct59.Ok Tryz.prog tab gh:=okU eq59 ⟨tabOk,trivial,mo,trivial,ghUp,trivial,trivial⟩
theorem ok62:ct62.Ok Tryz.prog tab gh:=okU eq62 ⟨tabOk,trivial,mo,trivial,ghUp,trivial,trivial⟩
theorem ok26:ct26.Ok Tryz.prog tab gh:=Ct.lift (E:=⟨Tryz.prog,tab,[ct25,ct59,ct60,ct62],pl26,[it96],gh,[],[],[]⟩) ⟨tabOk,⟨ok25,ok59,ok60,ok62,trivial⟩,mo,⟨itok96,trivial⟩,ghUp,trivial,trivial⟩ 9 ct26 fun x Φ=>by rw [eq26];exact id
theorem ok63:ct63.Ok Tryz.prog tab gh:=okU eq63 ⟨tabOk,⟨ok25,ok59,trivial⟩,mo,trivial,ghUp,trivial,trivial⟩
theorem ok64:ct64.Ok Tryz.prog tab gh:=okU eq64 ⟨tabOk,trivial,mo,trivial,ghUp,trivial,trivial⟩
theorem ok138:ct138.Ok Tryz.prog tab gh:=okU eq138 ⟨tabOk,trivial,mo,trivial,ghUp,trivial,trivial⟩
theorem ok140:ct140.Ok Tryz.prog tab gh:=okU eq140 ⟨tabOk,⟨ok87,trivial⟩,mo,trivial,ghUp,trivial,trivial⟩
def Tryz.layE_ren : Go.Shelf.Ren := ⟨fun | 6 => 139 | 15 => 136 | 14 => 152 | 28 => 150 | 29 => 151 | 20 => 158 | 21 => 159 | 22 => 160 | 23 => 161 | 24 => 162 | 25 => 163 | 26 => 164 | 27 => 165 | 46 => 167 | 47 => 154 | 48 => 155 | 49 => 168 | 50 => 169 | 57 => 170 | n => n, fun | 22 => 220 | 24 => 223 | 25 => 232 | 3 => 3 | 39 => 182 | 0 => 0 | 53 => 242 | 55 => 83 | 4 => 4 | 46 => 235 | 45 => 234 | 50 => 239 | 5 => 5 | 9 => 9 | 66 => 244 | 70 => 248 | 76 => 255 | 77 => 256 | n => n, fun | n => n⟩
theorem Tryz.layE : Go.Proofs.SlLaysF0.n6 Tryz.prog Tryz.layE_ren := {
  mixed := by kernel_rfl
  f6 := ⟨Tryz.f139.name, by decide, Tryz.func139.trans (congrArg some (by kernel_rfl))⟩
  f14 := ⟨Tryz.f152.name, by decide, Tryz.func152.trans (congrArg some (by kernel_rfl))⟩
  f15 := Tryz.func136.trans (congrArg some (by kernel_rfl))
  f20 := ⟨Tryz.f158.name, by decide, Tryz.func158.trans (congrArg some (by kernel_rfl))⟩
  f21 := ⟨Tryz.f159.name, by decide, Tryz.func159.trans (congrArg some (by kernel_rfl))⟩
  f22 := ⟨Tryz.f160.name, by decide, Tryz.func160.trans (congrArg some (by kernel_rfl))⟩
  f23 := ⟨Tryz.f161.name, by decide, Tryz.func161.trans (congrArg some (by kernel_rfl))⟩
  f24 := ⟨Tryz.f162.name, by decide, Tryz.func162.trans (congrArg some (by kernel_rfl))⟩
  f25 := ⟨Tryz.f163.name, by decide, Tryz.func163.trans (congrArg some (by kernel_rfl))⟩
  f26 := ⟨Tryz.f164.name, by decide, Tryz.func164.trans (congrArg some (by kernel_rfl))⟩
  f27 := ⟨Tryz.f165.name, by decide, Tryz.func165.trans (congrArg some (by kernel_rfl))⟩
  f28 := Tryz.func150.trans (congrArg some (by kernel_rfl))
  f29 := Tryz.func151.trans (congrArg some (by kernel_rfl))
  f46 := ⟨Tryz.f167.name, by decide, Tryz.func167.trans (congrArg some (by kernel_rfl))⟩
  f47 := Tryz.func154.trans (congrArg some (by kernel_rfl))
  f48 := Tryz.func155.trans (congrArg some (by kernel_rfl))
  f49 := ⟨Tryz.f168.name, by decide, Tryz.func168.trans (congrArg some (by kernel_rfl))⟩
  f50 := ⟨Tryz.f169.name, by decide, Tryz.func169.trans (congrArg some (by kernel_rfl))⟩
  f57 := ⟨Tryz.f170.name, by decide, Tryz.func170.trans (congrArg some (by kernel_rfl))⟩
  t0 := Tryz.underlying0
  a0 := Tryz.isAgg0
  z0 := Tryz.sizeOf0
  v0 := Tryz.zeroValue0
  t3 := Tryz.underlying3
  a3 := Tryz.isAgg3
  z3 := Tryz.sizeOf3
  v3 := Tryz.zeroValue3
  t4 := Tryz.underlying4
  a4 := Tryz.isAgg4
  z4 := Tryz.sizeOf4
  v4 := Tryz.zeroValue4
  t5 := Tryz.underlying5
  a5 := Tryz.isAgg5
  z5 := Tryz.sizeOf5
  v5 := Tryz.zeroValue5
  t9 := Tryz.underlying9
  a9 := Tryz.isAgg9
  z9 := Tryz.sizeOf9
  v9 := Tryz.zeroValue9
  t22 := Tryz.underlying220
  a22 := Tryz.isAgg220
  z22 := Tryz.sizeOf220
  v22 := Tryz.zeroValue220
  t25 := Tryz.underlying232
  a25 := Tryz.isAgg232
  z25 := Tryz.sizeOf232
  v25 := Tryz.zeroValue232
  t39 := Tryz.underlying182
  a39 := Tryz.isAgg182
  z39 := Tryz.sizeOf182
  v39 := Tryz.zeroValue182
  t45 := Tryz.underlying234
  a45 := Tryz.isAgg234
  z45 := Tryz.sizeOf234
  v45 := Tryz.zeroValue234
  t46 := Tryz.underlying235
  a46 := Tryz.isAgg235
  z46 := Tryz.sizeOf235
  v46 := Tryz.zeroValue235
  t50 := Tryz.underlying239
  a50 := Tryz.isAgg239
  z50 := Tryz.sizeOf239
  v50 := Tryz.zeroValue239
  t53 := Tryz.underlying242
  a53 := Tryz.isAgg242
  z53 := Tryz.sizeOf242
  v53 := Tryz.zeroValue242
  t55 := Tryz.underlying83
  a55 := Tryz.isAgg83
  z55 := Tryz.sizeOf83
  v55 := Tryz.zeroValue83
  t66 := Tryz.underlying244
  a66 := Tryz.isAgg244
  z66 := Tryz.sizeOf244
  v66 := Tryz.zeroValue244
  t70 := Tryz.underlying248
  a70 := Tryz.isAgg248
  z70 := Tryz.sizeOf248
  v70 := Tryz.zeroValue248
  t76 := Tryz.underlying255
  a76 := Tryz.isAgg255
  z76 := Tryz.sizeOf255
  v76 := Tryz.zeroValue255
  t77 := Tryz.underlying256
  a77 := Tryz.isAgg256
  z77 := Tryz.sizeOf256
  v77 := Tryz.zeroValue256 }
theorem pk223(v:Value)(cs:List Value):PkR Tryz.prog 223 v cs=(v = .agg cs.toArray):=by kernel_rfl
def encE(x:q13):List Value:=[.int .i64 x.at_,.int .i64 x.list,.int .i64 x.step]
theorem q661{H:Hp}(hG:gh H)(x y:q13)(W:World)(hag:∀ b o,H b=some o→W.heap[b]? = some o):Calls Tryz.prog 140 #[.agg (encE x).toArray,.agg (encE y).toArray] W fun e w'=>e = .returned (.int .i64 (cmpE x y))∧∃ q os,w'=Sort.grow (W.drewN q) os:=by
 refine(ok140 (x,y,()) (fun v=>v.1=cmpE x y) (q853 x y) H [.agg (encE x).toArray,.agg (encE y).toArray] hG ⟨_,encE x,_,rfl,by rw [pk223],rfl,_,encE y,_,rfl,by rw [pk223],rfl,rfl⟩ W hag).mono fun e w' ⟨v,H',L',h1,hM,y',hy,hr⟩=>?_;obtain⟨ρ,_,_,_,_,h2,_⟩:=hr 0 (fun _=>none) (fun _ _=>rfl) _ _ _ (show resE Tryz.prog tab ct140.rs ct140.own y' 0=some (.i .i64 y'.1,[],0) by kernel_rfl);have h2:v = .int .i64 y'.1:=h2;exact⟨by rw [h1,h2,hy],hM.below.grow⟩
set_option maxRecDepth 100000 in
theorem tnh139 {xs:List q13} {Φ:List q13→Prop} (hlen:xs.length≤1099511627776) (hW:∀ ys:List q13,ys.Perm xs→ys.Pairwise (fun a b=>a.at_≤b.at_)→Φ ys) {H:Hp} {w:World} {base:Nat} {v:Value} {n:Nat} {s:List Value} (hG:gh H) (hag:∀ b o,H b=some o→w.heap[b]? = some o) (hap:∀ b,v.ownBlock=some b→H b=none) (ho:w.ownsRow base 223 3 v n s) (hn:n=xs.length) (hd:DtL (α:=q13) H s xs):Calls Tryz.prog 139 (v::fnVs [140]).toArray w fun e w'=>e = .returned (.tuple #[])∧∃ (ys:List q13) (s':List Value),Φ ys∧DtL (α:=q13) H s' ys∧ys.length=xs.length∧w.grownBy w' v.ownBlock∧w.drawn≤w'.drawn∧w'.ownsRow base 223 3 v n s':=by
 have hs:=hd.enc (enc:=encE) fun _ _ _ h=>h;have hk:∀ x:q13,(encE x).length=3:=fun _=>rfl
 have none:∀ p cap,v = .slice p 0 cap→n=0→Calls Tryz.prog 139 (v::fnVs [140]).toArray w fun e w'=>e = .returned (.tuple #[])∧∃ (ys:List q13) (s':List Value),Φ ys∧DtL (α:=q13) H s' ys∧ys.length=xs.length∧w.grownBy w' v.ownBlock∧w.drawn≤w'.drawn∧w'.ownsRow base 223 3 v n s':=by
  intro p cap hv h0;have hx:xs=[]:=List.eq_nil_of_length_eq_zero (hn.symm.trans h0);have hc:=AnyF.slices_SortFunc_none (P:=Tryz.prog) (ρ:=Tryz.layE_ren) { Tryz.layE with } p cap (.func (.func 140) #[] #[]) w;change Calls Tryz.prog 139 _ _ _ at hc;rw [hv];refine hc.mono fun e w' ⟨h2,h3⟩=>⟨h2,xs,s, ?_,hd,rfl, ?_, ?_, ?_⟩
  ·rw [hx] at hW ⊢;exact hW [] (List.Perm.refl _) List.Pairwise.nil
  ·rw [h3];exact⟨rfl,rfl,rfl,Nat.le_refl _,fun _ _ _=>rfl⟩
  ·rw [h3];exact Nat.le_refl _
  ·rw [h3,← hv];exact ho
 obtain⟨_,⟨hv,h0⟩ | ⟨b,cap,cur,hv,_⟩⟩:=id ho
 ·exact none _ _ hv h0
 ·subst hv
  haveI:Inhabited q13:=⟨⟨0,0,0⟩⟩
  have hfl:(Sort.flatK encE 3 xs.toArray).toList=s:=by rw [q416 hk,hs]
  obtain⟨hH,hb⟩:=q659 (enc:=id) (d:=Sort.flatK encE 3 xs.toArray) ho (by rw [List.map_id_fun,hfl];rfl);have hgH:H b=Option.none:=hap b rfl;have eg:∀ args w,(callFunc 140 args).run Tryz.prog w = .ok (.enter 140 args) w:=enters_of Tryz.func140 (by kernel_rfl) rfl
  have hcmp:CmpLays Tryz.prog 140 #[] encE 3 cmpE b 0 xs.toArray.size w:=fun m os dk _ p q=>by
   refine q661 hG p q _ fun b' o hbo=>?_;have h1:=hag b' o hbo;have hne:b'≠b:=by rintro rfl;rw [hgH] at hbo;cases hbo
   exact(q415 id 0 m (Sort.flatK encE 3 dk) os (q34 h1) hne).trans h1
  have ht:TyAgg Tryz.prog 223 3:=q354 (by kernel_rfl);obtain⟨⟨ds,t1,t2⟩,⟨ti,t3,t4⟩⟩:=ht;have hc:=AnyQ.slices_SortFunc Tryz.layE 3 (fun w=>(q103 t1 w).trans (by rw [t2])) (fun w=>(q21 t3 w).trans (by rw [t4])) encE hk (fun x u hu=>by simp only [encE,List.mem_cons,List.not_mem_nil,or_false] at hu;rcases hu with rfl | rfl | rfl <;> rfl) cmpE swoE 140 #[] b 0 cap xs.toArray w eg hcmp hH hb (by rw [List.size_toArray];omega);change Calls Tryz.prog 139 _ _ _ at hc;rw [List.size_toArray,← hn] at hc;refine hc.mono fun e w' ⟨h2,d',m,os,hp,hso,h3⟩=>?_;rw [hn,← List.size_toArray] at hp hso;obtain⟨q1,q2⟩:=q660 hp hso;refine⟨h2,d'.toList,d'.toList.flatMap encE,hW _ q1 (q2.imp fun h=>leE h),DtL.ofEnc (fun _ _=>rfl) _,q1.length_eq, ?_, ?_, ?_⟩
  ·rw [h3];exact q511 id 0 m (Sort.flatK encE 3 d') os
  ·rw [h3];exact Nat.le_add_right _ _
  ·rw [h3]
   have hsz:d'.size=n:=by rw [hn,← q1.length_eq,Array.length_toList]
   have:=q562 id m (Sort.flatK encE 3 d') os ho (by rw [Sort.size_flatK,hsz]);rw [List.map_id_fun,id,q416 hk] at this;exact this
theorem tnok139:tn139.Ok Tryz.prog gh:=fun _ _ hW _ _ _ _ _ _ hG hag hap ho hn hd=>tnh139 hW.1 hW.2 hG hag hap ho hn hd
theorem ok133:ct133.Ok Tryz.prog tab gh:=Ct.lift (E:=⟨Tryz.prog,tab,[ct138],pl133,[],gh,[tn139],[],[]⟩) ⟨tabOk,⟨ok138,trivial⟩,mo,trivial,ghUp,⟨tnok139,trivial⟩,trivial⟩ 9 ct133 fun x Φ=>by rw [eq133];exact id
theorem ok120:ct120.Ok Tryz.prog tab gh:=okU eq120 ⟨tabOk,trivial,mo,trivial,ghUp,trivial,trivial⟩
theorem ok98:ct98.Ok Tryz.prog tab gh:=okU eq98 ⟨tabOk,⟨ok120,ok133,trivial⟩,mo,trivial,ghUp,trivial,trivial⟩
theorem ok65:ct65.Ok Tryz.prog tab gh:=okU eq65 ⟨tabOk,⟨ok98,trivial⟩,mo,trivial,ghUp,trivial,trivial⟩
theorem ok99:ct99.Ok Tryz.prog tab gh:=okU eq99 ⟨tabOk,trivial,mo,trivial,ghUp,trivial,trivial⟩
theorem ok27:ct27.Ok Tryz.prog tab gh:=okU eq27 ⟨tabOk,⟨ok53,ok62,ok63,ok64,ok65,ok98,ok99,trivial⟩,mo,trivial,ghUp,trivial,trivial⟩
theorem ok8:ct8.Ok Tryz.prog tab gh:=okU eq8 ⟨tabOk,⟨ok24,ok25,ok26,ok27,trivial⟩,mo,trivial,ghUp,trivial,trivial⟩
theorem ok9:ct9.Ok Tryz.prog tab gh:=okU eq9 ⟨tabOk,trivial,mo,trivial,ghUp,trivial,trivial⟩
theorem ok29:ct29.Ok Tryz.prog tab gh:=okU eq29 ⟨tabOk,trivial,mo,trivial,ghUp,trivial,trivial⟩
theorem ok10:ct10.Ok Tryz.prog tab gh:=okU eq10 ⟨tabOk,⟨ok29,trivial⟩,mo,trivial,ghUp,trivial,trivial⟩
theorem ok11:ct11.Ok Tryz.prog tab gh:=okU eq11 ⟨tabOk,trivial,mo,trivial,ghUp,trivial,trivial⟩
theorem ok3:ct3.Ok Tryz.prog tab gh:=okU eq3 ⟨tabOk,⟨ok4,ok5,ok6,ok7,ok8,ok9,ok10,ok11,trivial⟩,mo,trivial,ghUp,trivial,trivial⟩
section
theorem iI{x:Int}(h1:-9223372036854775808≤x)(h2:x≤9223372036854775807):inI x:=⟨h1,h2⟩
theorem iX{i:Int}{n:Nat}(h1:0≤i)(h2:i<(n:Int)):inX i n:=⟨h1,h2⟩
theorem iS{a b:Int}{n:Nat}(h1:0≤a)(h2:a≤b)(h3:b≤(n:Int)):inS a b n:=⟨h1,h2,h3⟩
theorem iL{n b:Nat}(h:n≤1000000)(hb:b≤1000000):lenOk n b:=by
 have:=Nat.mul_le_mul h hb;refine⟨by omega, ?_⟩;simp only [maxLen];omega
section
variable {α : Type} [Dt α]
theorem ix_nat(xs:List α)(k:Nat):ix xs (k:Int)=xs.getD k default:=rfl
theorem q30{xs:List α}{k:Nat}(h:k<xs.length):ix xs (k:Int)=xs[k]:=by
 show xs.getD k default=_;rw [List.getD_eq_getElem?_getD,List.getElem?_eq_getElem h];rfl
theorem q63{xs:List α}{k:Nat}(h:k<xs.length):xs.take (k+1)=xs.take k++[ix xs (k:Int)]:=by
 rw [q30 h];exact(List.take_append_getElem h).symm
theorem q61{xs:List α}{i:Int}(h:inX i xs.length):ix xs i∈xs:=by
 have e:=h.nat;have hl:=h.lt;rw [e,q30 hl];exact List.getElem_mem hl
theorem q308{xs ys:List α}(hl:xs.length=ys.length)(h:∀ k:Nat,k<xs.length→ix xs (k:Int)=ix ys (k:Int)):xs=ys:=by
 apply List.ext_getElem hl
 intro k h1 h2;have:=h k h1;rwa [q30 h1,q30 h2] at this
omit [Dt α] in
theorem q563 (xs:List α) (k:Nat) (x:α):put xs (k:Int) x=xs.set k x:=rfl
end
section
variable {A : Type}
theorem LoopW.upS{S:Type}{step:S→(S→Prop)→Prop}(n:Nat)(idx:S→Int)(Inv:Nat→S→Prop)(h:∀ (k:Nat) s rec,k≤n→idx s=(k:Int)→Inv k s→(∀ s',k<n→idx s'=(k:Int)+1→Inv (k+1) s'→rec s')→step s rec){s0:S}(k0:Nat)(hi:idx s0=(k0:Int))(hk:k0≤n)(h0:Inv k0 s0):LoopW step s0:=by
 refine LoopW.of_inv (fun s=>∃ k:Nat,idx s=(k:Int)∧k≤n∧Inv k s) (fun s=>n-(idx s).toNat) ?_ ⟨k0,hi,hk,h0⟩
 rintro s rec ⟨k,he,hk,hI⟩ hrec
 refine h k s rec hk he hI fun s' hlt he' hI'=>hrec s' ⟨k+1,by rw [he'];rfl,hlt,hI'⟩ ?_;show n-(idx s').toNat<n-(idx s).toNat;rw [he,he'];omega
def q144(f:Nat→Int):Nat→Int
 | 0=>0
 | n+1=>if q144 f n≠0 then q144 f n else f n
theorem q417{f:Nat→Int}:∀ {n k:Nat},k<n→(∀ j,j<k→f j=0)→f k≠0→q144 f n=f k
 | 0,_,hk,_,_=>by omega
 | n+1,k,hk,h0,h1=>by
  unfold q144;rcases Nat.lt_or_ge k n with h | h
  ·rw [q417 h h0 h1,if_pos h1]
  ·have e:k=n:=by omega
   subst e
   have:q144 f k=0:=by
    clear h1 hk h
    induction k with
    | zero=>rfl
    | succ k ih=>unfold q144;rw [ih fun j hj=>h0 j (by omega),if_neg (by simp),h0 k (by omega)]
   rw [this,if_neg (by simp)]
theorem q58{f:Nat→Int}:∀ {n:Nat},q144 f n=0↔∀ k,k<n→f k=0
 | 0=>by simp [q144]
 | n+1=>by
  unfold q144;constructor
  ·intro h k hk
   by_cases h1:q144 f n≠0
   ·rw [if_pos h1] at h;exact absurd h h1
   ·rw [if_neg h1] at h
    rcases Nat.lt_or_ge k n with hlt | hge
    ·exact(q58.1 (Classical.not_not.1 h1)) k hlt
    ·have:k=n:=by omega
     subst this;exact h
  ·intro h
   rw [if_neg (by rw [q58.2 fun k hk=>h k (by omega)];simp),h n (by omega)]
end
end
def chkB(b:q9):Int:=chk b.Size b.Words
theorem q216{n:Int}{Φ:Int→Prop}(h0:0≤n)(h1:n≤1000000)(hΦ:Φ ((n+64-1) / 64)):Z6 n Φ:=
 ⟨iI (by omega) (by omega),iI (by omega) (by omega),⟨by omega,iI (by omega) (by omega),by omega⟩,hΦ⟩
theorem q41{b:q9}{Φ:Int→Prop}(hΦ:Φ (chkB b)):Z22 b Φ:=by
 unfold chkB at hΦ;refine⟨fun h=>?_,fun h1=>⟨fun h2=>?_,fun h2=>⟨((b.Size+64-1) / 64,()),q216 (by omega) (by omega) rfl,fun h3=>?_,fun h3=>?_⟩⟩⟩
 ·rw [q537 (by omega)] at hΦ;exact hΦ
 ·rw [q537 (by omega)] at hΦ;exact hΦ
 ·rw [q537 (by simp only at h3;omega)] at hΦ;exact hΦ
 ·have h3:(b.Words.length:Int)=(b.Size+64-1) / 64:=Classical.not_not.1 h3
  have e:∀ h:0<b.Size % 64,ix b.Words ((b.Words.length:Int)-1)=b.Words.getD (b.Words.length-1) 0#64:=fun h=>by
   show b.Words.getD ((b.Words.length:Int)-1).toNat default=_;rw [show((b.Words.length:Int)-1).toNat=b.Words.length-1 by omega];rfl
  refine⟨⟨by omega,by omega⟩,fun h4=>⟨iI (by omega) (by omega),iX (by omega) (by omega),by omega,fun h5=>?_,fun h5=>?_⟩,fun h4=>?_⟩
  ·rw [e h4] at h5
   rw [chk_top (by omega) (by omega) (by omega) h4 h5] at hΦ;exact hΦ
  ·rw [q401 (by omega) (by omega) (by omega) fun h6=>by rw [e h6] at h5;exact Classical.not_not.1 h5] at hΦ;exact hΦ
  ·rw [q401 (by omega) (by omega) (by omega) fun h6=>absurd h6 h4] at hΦ;exact hΦ
theorem q123{b:q9}(h:¬chkB b≠0):0≤b.Size∧b.Size≤4096∧(b.Words.length:Int)=(b.Size+63) / 64:=wf_len (Classical.not_not.1 h)
theorem LoopW.upI{S:Type}{step:S→(S→Prop)→Prop}(n:Nat)(st:Nat→S)(I:Nat→Prop){s:S}(hs:s=st 0)(h0:I 0)
  (h:∀ (k:Nat) rec,k<n→I k→(I (k+1)→∀ s,s=st (k+1)→rec s)→step (st k) rec)(he:∀ rec,I n→step (st n) rec):LoopW step s:=by
 have key:∀ m k,k+m=n→I k→LoopN step (m+1) (st k):=by
  intro m
  induction m with
  | zero=>intro k hk hI;obtain rfl:k=n:=hk;exact he _ hI
  | succ m ih=>intro k hk hI;exact h k _ (by omega) hI fun hI' s hs=>by rw [hs];exact ih (k+1) (by omega) hI'
 exact⟨n+1,by rw [hs];exact key n 0 (by omega) h0⟩
theorem LoopW.upT{S:Type}{step:S→(S→Prop)→Prop}(n:Nat)(st:Nat→S){s:S}(hs:s=st 0)
  (h:∀ (k:Nat) rec,k<n→(∀ s,s=st (k+1)→rec s)→step (st k) rec)(he:∀ rec,step (st n) rec):LoopW step s:=
 LoopW.upI n st (fun _=>True) hs trivial (fun k rec hk _ hr=>h k rec hk (hr trivial)) fun rec _=>he rec
theorem LoopW.findI{step:Int→(Int→Prop)→Prop}(n:Nat)(p:Nat→Bool)(h:∀ (k:Nat) rec,k<n→(∀ j,j<k→p j=false)→(p k=false→rec ((k:Int)+1))→step (k:Int) rec)
  (he:∀ rec,(∀ j,j<n→p j=false)→step (n:Int) rec):LoopW step 0:=
 LoopW.upI n (fun k=>(k:Int)) (fun k=>∀ j,j<k→p j=false) rfl (fun j hj=>absurd hj (Nat.not_lt_zero j)) (fun k rec hk hI hr=>h k rec hk hI fun hp=>hr (fun j hj=>by
  rcases Nat.lt_or_ge j k with h2 | h2
  ·exact hI j h2
  ·obtain rfl:j=k:=by omega
   exact hp) _ rfl) he
theorem q914{α:Type}[Dt α]{xs:List α}{p:α→Bool}:xs.any p=true↔∃ k,k<xs.length∧p (ix xs (k:Int))=true:=by
 rw [List.any_eq_true];constructor
 ·rintro⟨x,hx,hp⟩
  obtain⟨k,hk,rfl⟩:=List.getElem_of_mem hx;exact⟨k,hk,by rw [q30 hk];exact hp⟩
 ·rintro⟨k,hk,hp⟩
  exact⟨xs[k],List.getElem_mem hk,by rw [q30 hk] at hp;exact hp⟩
theorem q512{α:Type}[Dt α]{xs:List α}{p:α→Bool}(h:∀ k,k<xs.length→p (ix xs (k:Int))=false):xs.any p=false:=by
 rw [Bool.eq_false_iff];intro q;obtain⟨k,hk,hp⟩:=q914.1 q;rw [h k hk] at hp;cases hp
theorem q564{α:Type}[Dt α]{xs:List α}{p:α→Bool}{k:Nat}(hk:k<xs.length)(h:p (ix xs (k:Int))=true):xs.any p=true:=q914.2 ⟨k,hk,h⟩
theorem LoopW.anyL{α:Type}[Dt α]{step:Int→(Int→Prop)→Prop}(xs:List α)(p:α→Bool){Φ:Bool→Prop}(hΦ:Φ (xs.any p))(h:∀ (k:Nat) rec,k<xs.length→(p (ix xs (k:Int))=true→Φ true)→(p (ix xs (k:Int))=false→rec ((k:Int)+1))→step (k:Int) rec)
  (he:∀ rec,Φ false→step (xs.length:Int) rec):LoopW step 0:=
 LoopW.findI xs.length (fun k=>p (ix xs (k:Int))) (fun k rec hk _ hr=>h k rec hk (fun hp=>by rw [q564 hk hp] at hΦ;exact hΦ) hr) fun rec hn=>he rec (by rw [q512 hn] at hΦ;exact hΦ)
theorem q20{α:Type}(xs:List α)(x:α):(xs++[x]).length=xs.length+1:=by simp
theorem lenT{α:Type}{xs:List α}{k:Nat}(h:k≤xs.length):(xs.take k).length=k:=by rw [List.length_take];omega
theorem q31{α:Type}(xs:List α):xs.take xs.length=xs:=List.take_length
theorem q37{α β:Type}[Dt α]{xs:List α}{k:Nat}(f:α→β)(h:k<xs.length):(xs.take (k+1)).map f=(xs.take k).map f++[f (ix xs (k:Int))]:=by rw [q63 h,List.map_append];rfl
theorem q293(k:Nat)(p:Nat→Bool):(List.range (k+1)).filter p=(List.range k).filter p++(if p k then [k] else []):=by
 rw [List.range_succ,List.filter_append];congr 1;by_cases hp:p k=true <;> simp [hp]
theorem LoopW.errI{S:Type}{step:S→(S→Prop)→Prop}(n:Nat)(st:Nat→S)(f:Nat→Int){Ψ:Int→Prop}{s:S}(hs:s=st 0)(hΨ:Ψ (q144 f n))
  (h:∀ (k:Nat) rec,k<n→(∀ j,j<k→f j=0)→(f k≠0→Ψ (f k))→(f k=0→∀ s,s=st (k+1)→rec s)→step (st k) rec)(he:∀ rec,(∀ j,j<n→f j=0)→Ψ 0→step (st n) rec):LoopW step s:=
 LoopW.upI n st (fun k=>∀ j,j<k→f j=0) hs (fun j hj=>absurd hj (Nat.not_lt_zero j)) (fun k rec hk hI hr=>h k rec hk hI (fun h1=>by rw [q417 hk hI h1] at hΨ;exact hΨ) fun h0=>hr fun j hj=>by
  rcases Nat.lt_or_ge j k with h2 | h2
  ·exact hI j h2
  ·obtain rfl:j=k:=by omega
   exact h0) fun rec hI=>he rec hI (by rw [q58.2 hI] at hΨ;exact hΨ)
def bmOf(r:BR):q9×Int:=(⟨r.n,r.ws⟩,r.e)
def newB(n:Int):q9:=⟨n,List.replicate ((n+63) / 64).toNat 0#64⟩
theorem q463{n:Int}{Φ:q9×Int→Prop}(h0:0≤n)(h1:n≤4096)(hΦ:Φ (newB n,0)):q212 n Φ:=by
 refine⟨fun q=>absurd q (by omega),fun _=>?_⟩;rw [decide_eq_false (show ¬4096<n by omega)];refine⟨fun q=>(by cases q),fun _=>q216 h0 (by omega) ⟨by omega,iL (by omega) (by omega), ?_⟩⟩;rw [show n+64-1=n+63 by omega];exact hΦ
theorem fits_of{s c n:Int}{Φ:Bool→Prop}(h0:0≤n)(h1:n≤4096)(hΦ:Φ (fitsB s c n)):(0≤s→(0≤c→(s≤n→inI (n-s)∧Φ (decide (c≤n-s)))∧(¬s≤n→Φ false))∧(¬0≤c→Φ false))∧(¬0≤s→Φ false):=by
 have hf:∀ q:¬(0≤s∧0≤c∧s≤n∧c≤n-s),Φ false:=fun q=>by
  have:fitsB s c n=false:=by rw [Bool.eq_false_iff];exact fun z=>q (q197.1 z)
  rw [this] at hΦ;exact hΦ
 refine⟨fun a=>⟨fun b=>⟨fun d=>⟨iI (by omega) (by omega), ?_⟩,fun d=>hf (by omega)⟩,fun b=>hf (by omega)⟩,fun a=>hf (by omega)⟩;by_cases hc:c≤n-s
 ·have:fitsB s c n=true:=q197.2 ⟨a,b,d,hc⟩
  rw [this] at hΦ;rw [decide_eq_true hc];exact hΦ
 ·rw [decide_eq_false hc];exact hf (by omega)
theorem q388{e:q8}{n:Int}{Φ:Bool→Prop}(h0:0≤n)(h1:n≤4096)(hΦ:Φ (fitsB e.Start e.Count n)):q176 e n Φ:=fits_of h0 h1 hΦ
def setBm(b:q9)(e:q8):q9×Int:=bmOf (chR true b.Size b.Words e.Start e.Count)
theorem q242{i f g:Int}{Φ:BitVec 64→Prop}(h0:0≤i)(h1:i≤1000000)(h2:-100000≤f)(h3:f≤1000000)(h4:-100000≤g)(h5:g≤1000000)(hΦ:Φ (maskW i f g)):q120 i f g Φ:=by
 have hm:maskW i f g=if(if 64<g-i*64 then 64 else g-i*64)≤(if f-i*64<0 then 0 else f-i*64) then 0#64 else 18446744073709551615#64 >>> (64-((if 64<g-i*64 then 64 else g-i*64)-(if f-i*64<0 then 0 else f-i*64))).toNat <<< (if f-i*64<0 then 0 else f-i*64).toNat:=rfl;rw [hm] at hΦ;refine⟨iI (by omega) (by omega),iI (by omega) (by omega),iI (by omega) (by omega),iI (by omega) (by omega),fun q=>?_,fun q=>⟨iI (by split <;> split <;> omega) (by split <;> split <;> omega),iI (by split <;> split <;> omega) (by split <;> split <;> omega),by split <;> split <;> omega,by split <;> omega, ?_⟩⟩
 ·rw [if_pos q] at hΦ;exact hΦ
 ·rw [if_neg q] at hΦ;exact hΦ
theorem q182{l:List (BitVec 64)}{Φ:List (BitVec 64)→Prop}(hl:l.length≤1000000)(hΦ:Φ l):Z28 l Φ:=
 ⟨fun h=>by subst h;exact hΦ,iL (by rw [List.nil_append];exact hl) (by omega),hΦ⟩
theorem q464{b:q9}{e:q8}{Φ:q9×Int→Prop}(hΦ:Φ (setBm b e)):q143 b e Φ:=by
 unfold setBm at hΦ;unfold q143;refine q41 ⟨fun q=>?_,fun q=>?_⟩
 ·rw [q821 q] at hΦ;unfold chkB at *;rw [q693 q];exact hΦ
 have hw:=q123 q;refine q388 hw.1 hw.2.1 ⟨fun q2=>by rw [q691 q q2] at hΦ;exact hΦ,fun q2=>?_⟩;have q3:=Classical.not_not.1 q2;rw [q886 q q3] at hΦ;have hf:=q197.1 q3;refine q182 (by omega) ?_;refine LoopW.upI b.Words.length (fun k=>((k:Int),chK true b.Words e.Start (e.Start+e.Count) k)) (fun _=>True) ?_ trivial (fun k rec hk _ hrec=>?_) fun rec _=>?_
 ·exact Prod.ext rfl (q822 true b.Words e.Start (e.Start+e.Count)).symm
 ·have hl:(chK true b.Words e.Start (e.Start+e.Count) k).length=b.Words.length:=q402 _ _ _ _ _
  refine⟨fun _=>⟨iX (by omega) (by omega),iI (by omega) (by omega),(_,()),q242 (by omega) (by omega) (by omega) (by omega) (by omega) (by omega) rfl,(_,()),rfl,iX (by omega) (by omega),iI (by omega) (by omega),hrec trivial _ (Prod.ext rfl ?_)⟩,fun hge=>absurd (show(k:Int)<(b.Words.length:Int) by omega) hge⟩;exact q824 true b.Words e.Start (e.Start+e.Count) hk
 ·refine⟨fun hlt=>absurd (show(b.Words.length:Int)<(b.Words.length:Int) from hlt) (by omega),fun _=>?_⟩
  rw [← q823 true b.Words e.Start (e.Start+e.Count) (Nat.le_refl _)] at hΦ;exact hΦ
def orB(a b:q9):q9×Int:=bmOf (bothR (fun x y=>x ||| y) a.Size a.Words b.Size b.Words)
theorem q513{a b:q9}{Φ:q9×Int→Prop}(hΦ:Φ (orB a b)):q179 a b Φ:=by
 unfold orB at hΦ;unfold q179;refine q41 ⟨fun h=>?_,fun h=>q41 ⟨fun h2=>?_,fun h2=>⟨fun h3=>?_,fun h3=>?_⟩⟩⟩
 ·rw [q345 (bothE_1 h) (by omega)] at hΦ;unfold chkB at *;rw [q693 h];exact hΦ
 ·rw [q345 (bothE_2 h h2) (by omega)] at hΦ;unfold chkB at *;rw [q693 h2];exact hΦ
 ·rw [q345 (bothE_3 h h2 h3) (by omega)] at hΦ;exact hΦ
 ·have hw:=q123 h
  have hw2:=q123 h2;rw [q581 (q692 h h2 h3)] at hΦ;have hl:a.Words.length=b.Words.length:=by omega
  refine⟨by omega,iL (by omega) (by omega), ?_⟩;have hz:(List.zipWith (fun x y=>x ||| y) a.Words b.Words).length=(List.replicate (a.Words.length:Int).toNat (0#64)).length:=by rw [List.length_zipWith,List.length_replicate];omega
  have hr:(List.replicate (a.Words.length:Int).toNat (0#64)).length=a.Words.length:=by simp
  refine LoopW.upI a.Words.length (fun k=>((k:Int),mixK (List.zipWith (fun x y=>x ||| y) a.Words b.Words) (List.replicate (a.Words.length:Int).toNat (0#64)) k)) (fun _=>True) (Prod.ext rfl (q694 _ _).symm) trivial (fun k rec hk _ hrec=>?_) fun rec _=>?_
  ·have hml:=q346 hz k
   refine⟨fun _=>⟨iX (by omega) (by omega),iX (by omega) (by omega),(_,()),rfl,iX (by omega) (by omega),iI (by omega) (by omega),hrec trivial _ (Prod.ext rfl ?_)⟩,fun hge=>absurd (show(k:Int)<((List.replicate (a.Words.length:Int).toNat (0#64)).length:Int) by omega) hge⟩;exact q696 hz (q697 (by omega) (by omega))
  ·refine⟨fun hlt=>absurd (show(a.Words.length:Int)<((List.replicate (a.Words.length:Int).toNat (0#64)).length:Int) from hlt) (by omega),fun _=>?_⟩
   rw [q695 hz (by omega)];exact hΦ
def q44(l:List Int):Int:=if(l.length:Int)<1∨8<(l.length:Int) then 6 else q144 (fun k=>if ix l (k:Int)<1∨4096<ix l (k:Int) then 2 else 0) l.length
def szs(im:List (List Sec)):List Int:=im.map fun v=>(v.length:Int)
def imgE(im:List (List Sec)):Int:=q44 (szs im)
theorem q38(im:List (List Sec)):(szs im).length=im.length:=by unfold szs;rw [List.length_map]
theorem q115{im:List (List Sec)}{k:Nat}(h:k<im.length):ix (szs im) (k:Int)=((ix im (k:Int)).length:Int):=by
 rw [q30 (by rw [q38];exact h),q30 h];unfold szs;rw [List.getElem_map]
theorem q74{l:List Int}(h:q44 l=0):1≤l.length∧l.length≤8:=by
 unfold q44 at h;by_cases hl:(l.length:Int)<1∨8<(l.length:Int)
 ·rw [if_pos hl] at h;cases h
 ·omega
theorem q157{l:List Int}(h:q44 l=0){k:Nat}(hk:k<l.length):1≤ix l (k:Int)∧ix l (k:Int)≤4096:=by
 unfold q44 at h;by_cases hl:(l.length:Int)<1∨8<(l.length:Int)
 ·rw [if_pos hl] at h;cases h
 ·rw [if_neg hl] at h
  have:=q58.1 h k hk;by_cases q:ix l (k:Int)<1∨4096<ix l (k:Int)
  ·rw [if_pos q] at this;cases this
  ·omega
theorem q133{l:List Int}{Φ:Int→Prop}(hΦ:Φ (q44 l)):Z3 l Φ:=by
 unfold q44 at hΦ;by_cases h:(l.length:Int)<1∨8<(l.length:Int)
 ·rw [if_pos h] at hΦ
  exact⟨fun _=>hΦ,fun _=>⟨fun _=>hΦ,fun _=>by omega⟩⟩
 ·rw [if_neg h] at hΦ
  refine⟨fun _=>by omega,fun _=>⟨fun _=>by omega,fun _=>?_⟩⟩;refine LoopW.errI l.length (fun k=>(k:Int)) _ rfl hΦ (fun k rec hk _ h1 h2=>?_) fun rec _ h0=>⟨fun _=>by omega,fun _=>⟨fun _=>by omega,fun _=>h0⟩⟩
  have go:∀ q:ix l (k:Int)<1∨4096<ix l (k:Int),Φ 2:=fun q=>by
   have:=h1 (by rw [if_pos q];omega);rw [if_pos q] at this;exact this
  refine⟨fun _=>⟨iX (by omega) (by omega),fun q=>⟨fun _=>⟨fun _=>go (.inl q),fun _=>by omega⟩,fun r=>absurd rfl r⟩,fun q=>⟨fun r=>⟨fun _=>go (.inr (of_decide_eq_true r)),fun _=>by omega⟩,fun r=>⟨iI (by omega) (by omega),h2 (if_neg (by have:=of_decide_eq_false (Bool.eq_false_iff.2 r);omega)) _ rfl⟩⟩⟩,fun _=>by omega⟩
theorem q389{im:List (List Sec)}{Φ:List Int→Prop}(hl:im.length≤100000)(hΦ:Φ (szs im)):q173 im Φ:=by
 refine⟨by omega,iL (by omega) (by omega), ?_⟩;refine LoopW.upT im.length (fun k=>((k:Int),(im.take k).map fun v=>(v.length:Int))) rfl (fun k rec hk hr=>?_) fun rec=>⟨fun _=>by omega,fun _=>by rw [q31];exact hΦ⟩
 refine⟨fun _=>⟨iX (by omega) (by omega),iL (by rw [q20,List.length_map,lenT (by omega)];omega) (by omega),iI (by omega) (by omega),hr _ (by rw [q37 _ hk];rfl)⟩,fun _=>by omega⟩
theorem q150{im:List (List Sec)}{Φ:Int→Prop}(hl:im.length≤100000)(hΦ:Φ (imgE im)):q72 im Φ:=q389 hl (q133 hΦ)
def zeroI(l:List Int):List (List Sec):=l.map fun n=>List.replicate n.toNat sec0
theorem q270(l:List Int):(zeroI l).length=l.length:=by unfold zeroI;rw [List.length_map]
theorem q854{l:List Int}{k:Nat}(h:k<l.length):ix (zeroI l) (k:Int)=List.replicate (ix l (k:Int)).toNat sec0:=by
 rw [q30 (by rw [q270];exact h),q30 h];unfold zeroI;rw [List.getElem_map]
theorem q373{l:List Int}(h:q44 l=0):szs (zeroI l)=l:=by
 refine q308 (by rw [q38,q270]) fun k hk=>?_;rw [q38,q270] at hk;have:=q157 h hk;rw [q115 (by rw [q270];exact hk),q854 hk,List.length_replicate];omega
theorem q112{l:List Int}{Φ:List (List Sec)×Int→Prop}(h0:q44 l=0→Φ (zeroI l,0))(h1:q44 l≠0→Φ ([],q44 l)):q57 l Φ:=by
 refine q133 ⟨fun q=>h1 q,fun q=>?_⟩;have q:q44 l=0:=Classical.not_not.1 q;have hl:=q74 q;refine⟨by omega,iL (by omega) (by omega), ?_⟩;refine LoopW.upT l.length (fun k=>((k:Int),(l.take k).map fun n=>List.replicate n.toNat sec0)) rfl (fun k rec hk hr=>?_) fun rec=>⟨fun _=>by omega,fun _=>by rw [q31];exact h0 q⟩
 have:=q157 q hk;refine⟨fun _=>⟨iX (by omega) (by omega),by omega,iL (by omega) (by omega),iL (by rw [q20,List.length_map,lenT (by omega)];omega) (by omega),iI (by omega) (by omega),hr _ (by rw [q37 _ hk];rfl)⟩,fun _=>by omega⟩
def fitW(l:List Int)(w:q10):Int:=if w.Volume<0∨(l.length:Int)≤w.Volume then 7 else if(w.Data.length:Int)=0 then 1 else if w.Start<0∨ix l w.Volume-w.Start<(w.Data.length:Int) then 2 else 0
theorem q271{im:List (List Sec)}{w:q10}{Φ:Int→Prop}(hd:w.Data.length≤1000000)(hv:∀ k:Nat,k<im.length→(ix im (k:Int)).length≤1000000)(hΦ:Φ (fitW (szs im) w)):q111 im w Φ:=by
 unfold fitW at hΦ;rw [q38] at hΦ;show(_→q174 _ _ _ _)∧_
 have tail:¬(w.Volume<0∨(im.length:Int)≤w.Volume)→q174 im w Φ false:=fun q=>by
  rw [if_neg q] at hΦ;refine⟨fun r=>(Bool.noConfusion r),fun _=>⟨fun r=>by rw [if_pos (by omega)] at hΦ;exact hΦ,fun r=>?_⟩⟩;rw [if_neg (by omega)] at hΦ;obtain⟨v,hw⟩:=Int.eq_ofNat_of_zero_le (show 0≤w.Volume by omega);have hvl:v<im.length:=by omega
  rw [hw,q115 hvl] at hΦ;have:=hv v hvl;refine⟨fun s=>by rw [if_pos (.inl s)] at hΦ;exact hΦ,fun s=>⟨iX (by omega) (by omega), ?_⟩⟩;rw [hw];exact⟨iI (by omega) (by omega),fun t=>by rw [if_pos (by omega)] at hΦ;exact hΦ,fun t=>by rw [if_neg (by omega)] at hΦ;exact hΦ⟩
 refine⟨fun q=>⟨fun _=>by rw [if_pos (.inl q)] at hΦ;exact hΦ,fun r=>absurd rfl r⟩,fun q=>?_⟩;by_cases r:(im.length:Int)≤w.Volume
 ·rw [decide_eq_true r]
  exact⟨fun _=>by rw [if_pos (.inr r)] at hΦ;exact hΦ,fun r=>absurd rfl r⟩
 ·rw [decide_eq_false r];exact tail (by omega)
theorem q374{im:List (List Sec)}(h:imgE im=0)(k:Nat)(hk:k<im.length):(ix im (k:Int)).length≤4096:=by
 have:=q157 h (k:=k) (by rw [q38];exact hk);rw [q115 hk] at this;omega
theorem q465{im:List (List Sec)}{w:q10}{Φ:Int→Prop}(hd:w.Data.length≤1000000)(h:imgE im=0)(hΦ:Φ (fitW (szs im) w)):q213 im w Φ:=by
 have hl:=q74 h;rw [q38] at hl;exact q150 (by omega) ⟨fun q=>absurd h q,fun _=>q271 hd (fun k hk=>Nat.le_trans (q374 h k hk) (by omega)) hΦ⟩
theorem q662{l:List Int}{k:Nat}(h:k<l.length):((l.take (k+1)).map newB)=(l.take k).map newB++[newB (ix l (k:Int))]:=q37 newB h
theorem q315{l:List Int}{Φ:List q9×Int→Prop}(hl:l.length≤100000)(hs:∀ k:Nat,k<l.length→0≤ix l (k:Int)∧ix l (k:Int)≤4096)(hΦ:Φ (l.map newB,0)):Z8 l Φ:=by
 refine LoopW.upT l.length (fun k=>((k:Int),(l.take k).map newB)) rfl (fun k rec hk hrec=>?_) fun rec=>⟨fun q=>absurd (show(l.length:Int)<(l.length:Int) from q) (by omega),fun _=>?_⟩
 ·refine⟨fun _=>⟨iX (by omega) (by omega),q463 (hs k hk).1 (hs k hk).2 ⟨fun q=>absurd rfl q,fun _=>⟨iL (by simp only [List.length_append,List.length_map,List.length_cons,List.length_nil];rw [lenT (Nat.le_of_lt hk)];omega) (by omega),iI (by omega) (by omega),hrec _ (Prod.ext rfl (q662 hk).symm)⟩⟩⟩,fun q=>absurd (show(k:Int)<(l.length:Int) by omega) q⟩
 ·rw [q31];exact hΦ
def mark1(d:List q9)(w:q10):List q9:=put d w.Volume (setBm (ix d w.Volume) ⟨w.Start,(w.Data.length:Int)⟩).1
def markL(d:List q9)(l:List q10):List q9:=l.foldl mark1 d
theorem q663(d:List q9){l:List q10}{k:Nat}(h:k<l.length):markL d (l.take (k+1))=mark1 (markL d (l.take k)) (ix l (k:Int)):=by
 unfold markL;rw [q63 h,List.foldl_append];rfl
def bmsE(d:List q9)(sizes:List Int)(k:Nat):Int:=if chkB (ix d (k:Int))≠0 then chkB (ix d (k:Int)) else if(ix d (k:Int)).Size≠ix sizes (k:Int) then 22 else 0
def bmsC(d:List q9)(sizes:List Int):Int:=if(d.length:Int)≠(sizes.length:Int) then 6 else q144 (bmsE d sizes) d.length
def peerE(t:q16)(k:Nat):Int:=
 if(ix t.Peers (k:Int)).Site<0∨4≤(ix t.Peers (k:Int)).Site then 2 else if 0<(k:Int)∧(ix t.Peers (k:Int)).Site≤(ix t.Peers ((k:Int)-1)).Site then 8 else if(ix t.Peers (k:Int)).Common<0∨1073741824<(ix t.Peers (k:Int)).Common then 2 else bmsC (ix t.Peers (k:Int)).Dirty t.Sizes
def trkE(t:q16):Int:=if q44 t.Sizes≠0 then q44 t.Sizes else if 4<(t.Peers.length:Int) then 6 else q144 (peerE t) t.Peers.length
theorem q773(op:BitVec 64→BitVec 64→BitVec 64)(f:Bool→Bool→Bool)(hf:∀ a b j,j<64→(op a b).getLsbD j=f (a.getLsbD j) (b.getLsbD j)){ws vs:List (BitVec 64)}(hl:ws.length=vs.length){i:Nat}(hi:i<64*ws.length):bitN (List.zipWith op ws vs) i=f (bitN ws i) (bitN vs i):=by
 have h1:i / 64<ws.length:=by omega
 have h2:i / 64<vs.length:=by omega
 unfold bitN;rw [List.getD_eq_getElem?_getD,q697 h1 h2,Option.getD_some,hf _ _ _ (Nat.mod_lt _ (by decide))]
theorem bit_or{ws vs:List (BitVec 64)}(hl:ws.length=vs.length){i:Nat}(hi:i<64*ws.length):bitN (List.zipWith (fun a b=>a ||| b) ws vs) i=(bitN ws i || bitN vs i):=q773 _ (· || ·) (fun _ _ _ _=>BitVec.getLsbD_or) hl hi
theorem q294{n:Int}{ws:List (BitVec 64)}:chk n ws=0↔0≤n∧n≤4096∧(ws.length:Int)=(n+63) / 64∧∀ i:Nat,i<64*ws.length→n≤(i:Int)→bitN ws i=false:=
 ⟨fun h=>q284.1 (q322 h),fun⟨h1,h2,h3,h4⟩=>q885 h1 h2 h3 h4⟩
theorem chk_zip{op:BitVec 64→BitVec 64→BitVec 64}(f:Bool→Bool→Bool)(h0:f false false=false)(hf:∀ a b j,j<64→(op a b).getLsbD j=f (a.getLsbD j) (b.getLsbD j)){n:Int}{ws vs:List (BitVec 64)}(h1:chk n ws=0)(h2:chk n vs=0):chk n (List.zipWith op ws vs)=0:=by
 obtain⟨a1,a2,a3,a4⟩:=q294.1 h1;obtain⟨_,_,b3,b4⟩:=q294.1 h2;have hl:ws.length=vs.length:=by omega
 have hz:(List.zipWith op ws vs).length=ws.length:=by rw [List.length_zipWith];omega
 refine q294.2 ⟨a1,a2,by rw [hz];exact a3,fun i hi hn=>?_⟩;rw [hz] at hi;rw [q773 op f hf hl hi,a4 i hi hn,b4 i (by omega) hn,h0]
def cov(es:List (Int×Int))(i:Int):Prop:=∃ e∈es,e.1≤i∧i<e.1+e.2
theorem q855{n:Int}{ws:List (BitVec 64)}{s c:Int}(h:chk n ws=0)(hf:fitsB s c n=true):chk n (chW true ws s (s+c))=0:=by
 obtain⟨a1,a2,a3,a4⟩:=q294.1 h;have hff:=q197.1 hf;refine q294.2 ⟨a1,a2,by rw [q99];exact a3,fun i hi hn=>?_⟩;rw [q99] at hi;rw [q690 true ws _ _ i hi,if_neg (by omega)];exact a4 i hi hn
theorem chk_new{n:Int}(h1:0≤n)(h2:n≤4096):chk n (List.replicate ((n+63) / 64).toNat 0#64)=0:=by
 refine q294.2 ⟨h1,h2,by rw [List.length_replicate];omega,fun i hi _=>?_⟩;rw [List.length_replicate] at hi;unfold bitN;rw [List.getD_eq_getElem?_getD,List.getElem?_replicate]
 split <;> simp
theorem bit_new{m i:Nat}:bitN (List.replicate m 0#64) i=false:=by
 unfold bitN;rw [List.getD_eq_getElem?_getD,List.getElem?_replicate]
 split <;> simp
end Go.Proofs.YtmfeabjhjhjfeaaGreatDoor
