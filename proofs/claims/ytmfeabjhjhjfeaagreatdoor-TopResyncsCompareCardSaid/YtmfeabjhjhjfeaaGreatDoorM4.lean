/- Part 4 of the proof of the statement TopResyncsCompareCardSaid: lemmas. No condition of its own. -/
import Derived.Test.YtmfeabjhjhjfeaaGreatDoorM3
namespace Go.Proofs.YtmfeabjhjhjfeaaGreatDoor
open Go.RowKit
section
section
variable {D : Nat → Type} [∀ t, Dt (D t)]
def passR(nx:Nat):Rc D:=⟨[],[],[],false,nx,nx,.c undef,none,false,[]⟩
def knowR:List (Rc D)→Nat→Bool→List (Rc D)
 | [],_,_=>[]
 | r::l,0,b=>⟨r.sl,r.us,r.bi,r.eat,r.lo,r.hi,r.u,some b,r.g,r.nb⟩::l
 | r::l,j+1,b=>r::knowR l j b
def kvOf:SV D→Option Bool
 | .k b=>some b
 | _=>none
inductive GdD(D:Nat→Type) where
 | yes | no | bad
 | ask (j:Nat) (v:SV D) (want:Bool)
def gdD(ops:Array Oper)(recs:List (Rc D))(i:Nat)(gd:Option (Nat×Bool)):GdD D:=match gd with
 | none=>.yes
 | some (j,want)=>bif (dstOf ops j).isSome&&rch ops 40 i j then(match recs[j]? with
  | some rj=>match rj.kv with
   | some b=>bif b == want then .yes else .no
   | none=>match rj.u with
    | .c v=>bif q148 v then .bad else .no
    | .b x=>.ask j (.b x) want
    | .p p d=>.ask j (.p p d) want
    | _=>.bad
  | none=>.bad) else .bad
def oneD(E:Env D)(fr:List (Nat×Blk D))(ops:Array Oper)(base:St D)(i:Nat)(o:Oper)(recs:List (Rc D))(nx:Nat)(K:List (Rc D)→Nat→Prop):Prop:=
 stepD E fr o ⟨miniS ops base recs i o,(miniU ops base recs i o).flatMap (nbU recs base.bk ops.size),base.kn,nx⟩ fun v e nb hi=>
  cdP ((lowS nx (miniS ops base recs i o)&&(lowK nx ((miniU ops base recs i o).flatMap (nbU recs base.bk ops.size))&&(lowV hi v&&lowK hi nb)))&&(miniU ops base recs i o).all fun u=>Nat.blt u recs.length || Nat.ble ops.size u) (K (recs++[⟨miniS ops base recs i o,miniU ops base recs i o,(miniU ops base recs i o).flatMap (nbU recs base.bk ops.size),e,nx,hi,v,kvOf v,true,nb⟩]) hi) False
def drawE(E:Env D)(fr:List (Nat×Blk D))(ops:Array Oper)(base:St D):Nat→List Oper→List (Rc D)→Nat→(List (Rc D)→Nat→Prop)→Prop
 | _,[],recs,nx,K=>K recs nx
 | i,o::l,recs,nx,K=>match gdD ops recs i o.guard with
  | .yes=>oneD E fr ops base i o recs nx fun recs nx=>drawE E fr ops base (i+1) l recs nx K
  | .no=>drawE E fr ops base (i+1) l (recs++[passR nx]) nx K
  | .ask j v want=>askF v
    (cdP want (oneD E fr ops base i o (knowR recs j true) nx (fun recs nx=>drawE E fr ops base (i+1) l recs nx K)) (drawE E fr ops base (i+1) l (knowR recs j true++[passR nx]) nx K))
    (cdP want (drawE E fr ops base (i+1) l (knowR recs j false++[passR nx]) nx K) (oneD E fr ops base i o (knowR recs j false) nx fun recs nx=>drawE E fr ops base (i+1) l recs nx K))
  | .bad=>False
def drawF(E:Env D)(N:Nat)(fr:List (Nat×Blk D))(ops:Array Oper)(st:St D)(K:St D→Prop):Prop:=
 drawE E fr ops st 0 ops.toList [] st.nx fun recs nx=>cdP (chkE ops N&&(chain st.nx recs nx&&chkR ops ops.size st.bk.length recs 0 recs)) (K ⟨finSl ops 0 recs st.sl,finBk recs st.bk ops.size (ops.size+st.bk.length),st.kn,nx⟩) False
def ExtR(recs recs':List (Rc D)):Prop:=∀ (j:Nat) (r:Rc D),recs[j]? = some r→∃ r':Rc D,recs'[j]? = some r'∧r'.u=r.u∧r'.nb=r.nb∧∀ b,r.kv=some b→r'.kv=some b
omit [∀ t,Dt (D t)] in
theorem ExtR.snoc (recs:List (Rc D)) (r:Rc D):ExtR recs (recs++[r]):=fun j q hq=>⟨q,by rw [List.getElem?_append_left (List.getElem?_eq_some_iff.1 hq).1];exact hq,rfl,rfl,fun _ h=>h⟩
omit [∀ t,Dt (D t)] in
theorem q261:∀ {recs:List (Rc D)} {j k:Nat} {b:Bool} {r:Rc D},recs[k]? = some r→(knowR recs j b)[k]? = some (if k=j then⟨r.sl,r.us,r.bi,r.eat,r.lo,r.hi,r.u,some b,r.g,r.nb⟩ else r)
 | [],_,_,_,_,h=>by cases h
 | q::l,0,0,b,r,h=>by cases h;rfl
 | q::l,0,k+1,b,r,h=>by rw [if_neg (by omega)];exact h
 | q::l,j+1,0,b,r,h=>by rw [if_neg (by omega)];exact h
 | q::l,j+1,k+1,b,r,h=>by
  have:=q261 (recs:=l) (j:=j) (k:=k) (b:=b) (r:=r) (by simpa using h);show(knowR l j b)[k]? = _;rw [this];by_cases hk:k=j
  ·rw [if_pos hk,if_pos (by omega)]
  ·rw [if_neg hk,if_neg (by omega)]
omit [∀ t,Dt (D t)] in
theorem q109:∀ {recs:List (Rc D)} {j:Nat} {b:Bool},(knowR recs j b).length=recs.length
 | [],_,_=>rfl
 | _::_,0,_=>rfl
 | _::l,j+1,b=>by
  show(knowR l j b).length+1=l.length+1;rw [q109]
omit [∀ t,Dt (D t)] in
theorem ExtR.know {recs:List (Rc D)} {j:Nat} {b:Bool} (h:∀ r:Rc D,recs[j]? = some r→r.kv=none):ExtR recs (knowR recs j b):=fun k r hr=>by
 refine⟨_,q261 hr, ?_, ?_,fun c hc=>?_⟩
 ·split <;> rfl
 ·split <;> rfl
 ·split
  ·rename_i hk
   subst hk;rw [h r hr] at hc;cases hc
  ·exact hc
variable {E : Env D} {fr : List (Nat × Blk D)} {base : St D} {ops : Array Oper}
theorem Good.ext{P:Program}{G:Hp→Prop}{recs recs':List (Rc D)}{i:Nat}{o:Oper}{r:Rc D}(hx:ExtR recs recs')(hu:∀ u∈r.us,u<ops.size→u<recs.length)(h:Good P G fr base ops recs i o r):Good P G fr base ops recs' i o r:=by
 refine⟨fun t s hts=>?_, ?_,h.kv, ?_,h.low,h.run⟩
 ·rcases h.sl t s hts with ⟨j,rj,h1,h2,h3,h4⟩ | h5
  ·obtain⟨r',e1,e2,_,e3⟩:=hx j rj h1
   refine .inl ⟨j,r',e1,h2,h3, ?_⟩;rcases h4 with h4 | ⟨b,h5,h6⟩
   ·exact .inl (h4.trans e2.symm)
   ·exact .inr ⟨b,e3 b h5,h6⟩
  ·exact .inr h5
 ·have hg:=h.gd
  cases hgu:o.guard with
  | none=>rw [hgu] at hg;exact hg
  | some jw=>
   obtain⟨j,want⟩:=jw;rw [hgu] at hg;obtain⟨rj,d,h1,h2,h3,h4⟩:=hg;obtain⟨r',e1,e2,_,e3⟩:=hx j rj h1;refine⟨r',d,e1,h2,h3, ?_⟩;rcases h4 with ⟨b,h5,h6⟩ | ⟨v,h5,h6⟩
   ·exact .inl ⟨b,e3 b h5,h6⟩
   ·exact .inr ⟨v,e2.trans h5,h6⟩
 ·rw [h.bi]
  have:∀ (l:List Nat),(∀ u∈l,u<ops.size→u<recs.length)→l.flatMap (nbU recs base.bk ops.size)=l.flatMap (nbU recs' base.bk ops.size):=by
   intro l
   induction l with
   | nil=>intro _;rfl
   | cons u l ih=>
    intro hl;rw [List.flatMap_cons,List.flatMap_cons,ih fun v hv=>hl v (by simp [hv])]
    congr 1
    unfold nbU;cases hb:Nat.blt u ops.size with
    | false=>rfl
    | true=>
     have hlt:=hl u (by simp) (q96 hb);obtain⟨r',e1,_,e2,_⟩:=hx u recs[u] (List.getElem?_eq_getElem hlt);rw [cond_true,cond_true,e1,List.getElem?_eq_getElem hlt];exact e2.symm
  exact this _ hu
def InvR(P:Program)(G:Hp→Prop)(fr:List (Nat×Blk D))(base:St D)(ops:Array Oper)(recs:List (Rc D)):Prop:=∀ (j:Nat) (o:Oper) (r:Rc D),ops[j]? = some o→recs[j]? = some r→Good P G fr base ops recs j o r∧∀ u∈r.us,u<ops.size→u<recs.length
theorem InvR.snoc{P:Program}{G:Hp→Prop}{recs:List (Rc D)}{r:Rc D}{o:Oper}(hI:InvR P G fr base ops recs)(ho:ops[recs.length]? = some o)(hg:Good P G fr base ops recs recs.length o r)(hu:∀ u∈r.us,u<ops.size→u<recs.length):InvR P G fr base ops (recs++[r]):=by
 intro j o' q ho' hq;rw [List.length_append];rcases Nat.lt_or_ge j recs.length with h | h
 ·rw [List.getElem?_append_left h] at hq
  obtain⟨h1,h2⟩:=hI j o' q ho' hq;exact⟨h1.ext (ExtR.snoc _ _) h2,fun u hu hn=>Nat.lt_of_lt_of_le (h2 u hu hn) (Nat.le_add_right _ _)⟩
 ·have hj:j=recs.length:=by
   have:=(List.getElem?_eq_some_iff.1 hq).1;rw [List.length_append] at this;have:j<recs.length+1:=this;omega
  subst hj;rw [List.getElem?_append_right (Nat.le_refl _),Nat.sub_self] at hq;cases hq;rw [ho] at ho';cases ho';exact⟨hg.ext (ExtR.snoc _ _) hu,fun u hu' hn=>Nat.lt_of_lt_of_le (hu u hu' hn) (Nat.le_add_right _ _)⟩
omit [∀ t,Dt (D t)] in
theorem q842 {recs:List (Rc D)} {j:Nat} {r:Rc D} {recs':List (Rc D)} (hlen:recs'.length=recs.length) (h:recs'[j]? = some r):∃ q,recs[j]? = some q:=⟨recs[j]'(by rw [← hlen];exact(List.getElem?_eq_some_iff.1 h).1),List.getElem?_eq_getElem _⟩
theorem InvR.know{P:Program}{G:Hp→Prop}{recs:List (Rc D)}{j:Nat}{b:Bool}(hI:InvR P G fr base ops recs)(hn:∀ r:Rc D,recs[j]? = some r→r.kv=none)(hb:∀ r:Rc D,recs[j]? = some r→∀ (H:Hp) (ρ:RM) (x:Value),Rv H ρ x r.u→x = .bool b):InvR P G fr base ops (knowR recs j b):=by
 intro k o q ho hq;obtain⟨r,hr⟩:=q842 q109 hq;rw [q261 hr] at hq;obtain⟨h1,h2⟩:=hI k o r ho hr;have h3:=h1.ext (ExtR.know (b:=b) hn) h2;cases hq
 split
 ·rename_i hk
  subst hk;exact⟨⟨h3.sl,h3.gd,fun c hc H ρ x hx=>by cases hc;exact hb r hr H ρ x hx,h3.bi,h3.low,h3.run⟩,fun u hu hlt=>by rw [q109];exact h2 u hu hlt⟩
 ·exact⟨h3,fun u hu hlt=>by rw [q109];exact h2 u hu hlt⟩
theorem askF_or{v:SV D}{a b:Prop}(h:askF v a b):(a∧∀ (H:Hp) (ρ:RM) (x:Value),Rv H ρ x v→x = .bool true)∨(b∧∀ (H:Hp) (ρ:RM) (x:Value),Rv H ρ x v→x = .bool false):=by
 unfold askF at h
 split at h
 ·rename_i y
  cases y with
  | true=>exact .inl ⟨h.1 rfl,fun H ρ x hx=>hx⟩
  | false=>exact .inr ⟨h.2 (by simp),fun H ρ x hx=>hx⟩
 ·rename_i p d
  by_cases hp:p
  ·exact .inl ⟨h.1 hp,fun H ρ x hx=>(show x=_ from hx).trans (by rw [decide_eq_true hp])⟩
  ·exact .inr ⟨h.2 hp,fun H ρ x hx=>(show x=_ from hx).trans (by rw [decide_eq_false hp])⟩
 ·exact h.elim
def GdOk(ops:Array Oper)(recs:List (Rc D))(i:Nat)(gd:Option (Nat×Bool))(g:Bool):Prop:=match gd with
 | none=>g=true
 | some (j,want)=>∃ rj d,recs[j]? = some rj∧dstOf ops j=some d∧rch ops 40 i j=true∧((∃ b,rj.kv=some b∧g=(b == want))∨(∃ v,rj.u = .c v∧q148 v=false∧g=false))
omit [∀ t,Dt (D t)] in
theorem gdD_ok {recs:List (Rc D)} {i:Nat} {gd:Option (Nat×Bool)}:match gdD ops recs i gd with
  | .yes=>GdOk ops recs i gd true
  | .no=>GdOk ops recs i gd false
  | .ask j v want=>∃ rj,recs[j]? = some rj∧rj.kv=none∧rj.u=v∧∀ b,GdOk ops (knowR recs j b) i gd (b == want)
  | .bad=>True:=by
 unfold gdD;cases gd with
 | none=>rfl
 | some jw=>
  obtain⟨j,want⟩:=jw;simp only;cases hc:(dstOf ops j).isSome&&rch ops 40 i j with
  | false=>simp only [cond_false]
  | true=>
   simp only [cond_true];rw [Bool.and_eq_true] at hc;obtain⟨d,hd⟩:=Option.isSome_iff_exists.1 hc.1;cases hr:recs[j]? with
   | none=>trivial
   | some rj=>
    simp only;cases hk:rj.kv with
    | some b=>
     simp only;cases hb:b == want with
     | true=>exact⟨rj,d,hr,hd,hc.2,.inl ⟨b,hk,hb.symm⟩⟩
     | false=>exact⟨rj,d,hr,hd,hc.2,.inl ⟨b,hk,hb.symm⟩⟩
    | none=>
     simp only;have ask:∀ b,GdOk ops (knowR recs j b) i (some (j,want)) (b == want):=fun b=>⟨_,d,q261 hr,hd,hc.2,.inl ⟨b,by rw [if_pos rfl],rfl⟩⟩
     cases hu:rj.u with
     | c v=>
      simp only;cases hv:q148 v with
      | true=>trivial
      | false=>exact⟨rj,d,hr,hd,hc.2,.inr ⟨v,hu,hv,rfl⟩⟩
     | b x=>exact⟨rj,hr,hk,hu,ask⟩
     | p p i=>exact⟨rj,hr,hk,hu,ask⟩
     | _=>trivial
theorem q843{P:Program}{G:Hp→Prop}{recs:List (Rc D)}{i nx:Nat}{o:Oper}(hg:GdOk ops recs i o.guard false):Good P G fr base ops recs i o (passR nx):=by
 refine⟨(fun t s h=>by cases h),hg,(fun b h=>by cases h),rfl,rfl,.inl ⟨rfl,rfl,fun _ hs hgd hd k=>?_⟩⟩;obtain⟨d,op,ty,ps,af,gd⟩:=o;exact RW.pass hgd hd (k undef _ (fun _ h=>h) rfl)
theorem oneD_ok(hE:E.Ok){i nx:Nat}{o:Oper}{recs:List (Rc D)}{K:List (Rc D)→Nat→Prop}(hI:InvR E.P E.G fr base ops recs)(hlen:recs.length=i)(ho:ops[i]? = some o)(hg:GdOk ops recs i o.guard true)(h:oneD E fr ops base i o recs nx K):∃ recs' nx',K recs' nx'∧recs'.length=i+1∧InvR E.P E.G fr base ops recs':=by
 unfold oneD at h;obtain⟨v,e,nb,hi,h1,h2⟩:=q616 (ops:=ops) hE h;obtain⟨hc,hk⟩:=cifP h1;rw [Bool.and_eq_true,List.all_eq_true] at hc
 have hu:∀ u∈miniU ops base recs i o,u<ops.size→u<recs.length:=fun u hu hn=>by
  have:=hc.2 u hu;rw [Bool.or_eq_true] at this;rcases this with h3 | h3
  ·exact q96 h3
  ·have:=Nat.le_of_ble_eq_true h3;omega
 refine⟨_,_,hk,by rw [List.length_append,hlen];rfl,hI.snoc (by rw [hlen];exact ho) ?_ hu⟩;rw [hlen];refine⟨fun t s hts=>seeT_ok (q327 hts),hg,fun b hb H ρ x hx=>?_,rfl,hc.1,h2 _ _⟩;have hb:kvOf v=some b:=hb;have hx:Rv H ρ x v:=hx;cases v <;> first | (cases hb;exact hx) | cases hb
theorem q328(hE:E.Ok){K:List (Rc D)→Nat→Prop}:∀ {l:List Oper} {i nx:Nat} {recs:List (Rc D)},InvR E.P E.G fr base ops recs→recs.length=i→i+l.length=ops.size→(∀ k o,l[k]? = some o→ops[i+k]? = some o)→drawE E fr ops base i l recs nx K→∃ recs' nx',K recs' nx'∧recs'.length=ops.size∧InvR E.P E.G fr base ops recs'
 | [],i,nx,recs,hI,hlen,hn,_,h=>⟨recs,nx,h,by rw [hlen,← hn];rfl,hI⟩
 | o::l,i,nx,recs,hI,hlen,hn,hl,h=>by
  have ho:ops[i]? = some o:=hl 0 o rfl;have hn':i+1+l.length=ops.size:=by rw [← hn,List.length_cons];omega
  have hl':∀ k o,l[k]? = some o→ops[i+1+k]? = some o:=fun k o' hk=>by
   rw [show i+1+k=i+(k+1) by omega];exact hl (k+1) o' (by simpa using hk)
  have pass:∀ {recs:List (Rc D)},InvR E.P E.G fr base ops recs→recs.length=i→GdOk ops recs i o.guard false→drawE E fr ops base (i+1) l (recs++[passR nx]) nx K→∃ recs' nx',K recs' nx'∧recs'.length=ops.size∧InvR E.P E.G fr base ops recs':=fun hI hlen hg h=>
   q328 hE (hI.snoc (by rw [hlen];exact ho) (by rw [hlen];exact q843 hg) fun u hu=>by cases hu) (by rw [List.length_append,hlen];rfl) hn' hl' h
  have one:∀ {recs:List (Rc D)},InvR E.P E.G fr base ops recs→recs.length=i→GdOk ops recs i o.guard true→(oneD E fr ops base i o recs nx fun recs nx=>drawE E fr ops base (i+1) l recs nx K)→∃ recs' nx',K recs' nx'∧recs'.length=ops.size∧InvR E.P E.G fr base ops recs':=fun hI hlen hg h=>by
   obtain⟨recs',nx',h1,h2,h3⟩:=oneD_ok hE hI hlen ho hg h;exact q328 hE h3 h2 hn' hl' h1
  unfold drawE at h;have hgd:=gdD_ok (ops:=ops) (recs:=recs) (i:=i) (gd:=o.guard)
  split at h
  ·rename_i hq;rw [hq] at hgd;exact one hI hlen hgd h
  ·rename_i hq;rw [hq] at hgd;exact pass hI hlen hgd h
  ·rename_i j v want hq
   rw [hq] at hgd;obtain⟨rj,hr,hk,hu,hgd⟩:=hgd;have hn1:∀ r:Rc D,recs[j]? = some r→r.kv=none:=fun r h=>by rw [hr] at h;cases h;exact hk
   rcases askF_or h with ⟨h,hb⟩ | ⟨h,hb⟩
   ·have hI':=hI.know (b:=true) hn1 fun r h=>by rw [hr] at h;cases h;rw [hu];exact hb
    have:=hgd true;cases want with
    | true=>exact one hI' (q109.trans hlen) this h
    | false=>exact pass hI' (q109.trans hlen) this h
   ·have hI':=hI.know (b:=false) hn1 fun r h=>by rw [hr] at h;cases h;rw [hu];exact hb
    have:=hgd false;cases want with
    | true=>exact pass hI' (q109.trans hlen) this h
    | false=>exact one hI' (q109.trans hlen) this h
  ·exact h.elim
theorem q617(hE:E.Ok)(hm:E.P.follows .mixedOrders=true){F:List Ent}{w0 w:World}{H0 H:Hp}(h0:E.G H0){R:List Ent}{ρ:RM}{L:List Ent}{st:St D}{σ:Nat→Value}{N id:Nat}{rr:Option Nat}{md:Nat}{Q:Exit→List Deferred→(Nat→Value)→World→Prop}{Dd:List Deferred}{K:St D→Prop}(hs:Sat fr F w0 H0 R H ρ L st σ w)(h:drawF E N fr ops st K)(k:Goes fr F w0 H0 R H ρ K fun σ' w'=>Q .normal Dd σ' w'):CW rr md E.P N (.region id ops true) Q Dd σ w:=by
 unfold drawF at h;obtain⟨recs,nx,h1,h2,h3⟩:=q328 (base:=st) (ops:=ops) (l:=ops.toList) (i:=0) (recs:=[]) hE (fun j o r _ hr=>by simp at hr) rfl (by rw [Nat.zero_add];exact Array.length_toList) (fun k o hk=>by rw [Nat.zero_add];simpa using hk) h;obtain⟨hc,hk⟩:=cifP h1;simp only [Bool.and_eq_true] at hc;exact q840 h0 hm hs hc.1 hc.2.1 hc.2.2 h2 (fun j o r ho hr=>(h3 j o r ho hr).1) fun H' ρ' L' σ' w' g1 g2 _ g3=>k _ _ _ _ _ _ hk g1 g2 g3
end
end
section
section
variable {F : Fence} {n : Nat} {P : Program} {ops : Array Oper} {Q : Exit → Act → World → Prop}
def tailB(ops:Array Oper)(c:Nat):Bool:=Nat.ble c ops.size&&(((List.range ops.size).all fun i=>match ops[i]? with
 | some o=>(o.after.all fun e=>!(Region.binds .any e) || Nat.blt e.on i)&&(match o.guard with
  | some (j,_)=>Nat.blt j i
  | none=>true)
 | none=>true)&&(List.range (ops.size-c)).all fun q=>(List.range (c+q)).all fun j=>rch ops 40 (c+q) j)
def LsR(ops:Array Oper)(ls:Array Bool):Prop:=ls.size=ops.size∧∀ i j,done ls i→q26 ops i j=true→done ls j
theorem q71{ls:Array Bool}{i k:Nat}(hi:i<ls.size):done (ls.setIfInBounds i true) k↔k=i∨done ls k:=by
 unfold done;rw [Array.getD_eq_getD_getElem?,Array.getD_eq_getD_getElem?,Array.getElem?_setIfInBounds];by_cases h:i=k
 ·subst h
  simp [hi]
 ·simp only [h,if_false]
  constructor
  ·exact .inr
  ·rintro(rfl | h2)
   ·exact absurd rfl h
   ·exact h2
theorem q262(n i:Nat):¬done (Array.replicate n false) i:=by
 unfold done;rw [Array.getD_eq_getD_getElem?,Array.getElem?_replicate]
 split <;> simp
theorem q263{ls:Array Bool}{i:Nat}(hi:i∈Region.ready .any ops ls){j:Nat}(hj:q26 ops i j=true):done ls j:=by
 obtain⟨hi1,hi2,hi3⟩:=mem_ready.1 hi;have hget:ops[i]? = some ops[i]:=Array.getElem?_eq_getElem hi1;rw [q26,hget] at hj;simp only [← Array.any_toList,List.any_eq_true,Bool.and_eq_true] at hj;obtain⟨e,he,hb,hon⟩:=hj;have:=hi3 _ hget e (Array.mem_toList_iff.1 he) hb;rwa [Nat.eq_of_beq_eq_true hon] at this
theorem q909{ls:Array Bool}{i:Nat}(hi:i<ls.size):ls.getD i true=false↔¬done ls i:=by
 unfold done;rw [Array.getD_eq_getD_getElem?,Array.getD_eq_getD_getElem?,Array.getElem?_eq_getElem hi];simp
theorem q141{ls:Array Bool}(hls:ls.size=ops.size){i:Nat}:i∈Region.ready .any ops ls↔i<ops.size∧¬done ls i∧∀ j,q26 ops i j=true→done ls j:=by
 constructor
 ·intro hi
  obtain⟨hi1,hi2,hi3⟩:=mem_ready.1 hi;exact⟨hi1,(q909 (by omega)).1 hi2,fun j hj=>q263 hi hj⟩
 ·rintro⟨h1,h2,h3⟩
  refine mem_ready.2 ⟨h1,(q909 (by omega)).2 h2,fun o ho e he hb=>?_⟩;refine h3 e.on ?_;rw [q26,ho];simp only [← Array.any_toList,List.any_eq_true,Bool.and_eq_true];exact⟨e,Array.mem_toList_iff.2 he,hb,Nat.beq_refl _⟩
theorem q414(hB:∀ i j,i<ops.size→q26 ops i j=true→j<i){c:Nat}(hT:∀ q,q<ops.size-c→∀ j,j<c+q→rch ops 40 (c+q) j=true) :
  ∀ (l:List Oper) (k:Nat) (ls:Array Bool) (a:Act) (w:World) (fuel:Nat),c≤k→k+l.length=ops.size→(∀ j,l[j]? = ops[k+j]?)→LsR ops ls→(∀ i,i<ops.size→(done ls i↔i<k))→ops.size-k≤fuel→wpListIn F n P ops Q l a w→wpAnyIn F n P .any ops Q fuel ls a w
 | [],k,ls,a,w,fuel,hc,hl,hj,hR,hd,hf,h=>by
  have hr:Region.ready .any ops ls=[]:=by
   cases hx:Region.ready .any ops ls with
   | nil=>rfl
   | cons i r=>
    have hi:=(q141 (ops:=ops) hR.1 (i:=i)).1 (by rw [hx];exact List.mem_cons_self ..);simp at hl;exact absurd ((hd i hi.1).2 (by omega)) hi.2.1
  cases fuel with
  | zero=>exact⟨hr,h⟩
  | succ f=>exact⟨fun _=>h,fun i hi=>by rw [hr] at hi;cases hi⟩
 | o::l,k,ls,a,w,fuel,hc,hl,hj,hR,hd,hf,h=>by
  rw [List.length_cons] at hl;have ho:ops[k]? = some o:=(hj 0).symm;cases fuel with
  | zero=>omega
  | succ f=>
   have hkr:k∈Region.ready .any ops ls:=by
    refine(q141 hR.1).2 ⟨by omega,fun hk=>?_,fun j hjk=>?_⟩
    ·have:=(hd k (by omega)).1 hk
     omega
    ·have:=hB k j (by omega) hjk
     exact(hd j (by omega)).2 this
   refine⟨fun hr=>(by rw [hr] at hkr;cases hkr),fun i hi=>?_⟩;obtain⟨i1,i2,i3⟩:=(q141 hR.1).1 hi
   have hik:i=k:=by
    have hge:k≤i:=by
     rcases Nat.lt_or_ge i k with h1 | h1
     ·exact absurd ((hd i i1).2 h1) i2
     ·exact h1
    rcases Nat.lt_or_ge k i with h1 | h1
    ·have hrc:=hT (i-c) (by omega) k (by omega)
     rw [show c+(i-c)=i by omega] at hrc;have:=q208 hR.2 i3 hrc;have:=(hd k (by omega)).1 this;omega
    ·omega
   subst hik;unfold wpOpIn;rw [ho];simp only;unfold wpListIn at h
   have hR':LsR ops (ls.setIfInBounds i true):=⟨by simpa using hR.1,fun p q hp hq=>by
    rcases(q71 (by rw [hR.1];exact i1)).1 hp with rfl | hp
    ·exact(q71 (by rw [hR.1];exact i1)).2 (.inr (i3 q hq))
    ·exact(q71 (by rw [hR.1];exact i1)).2 (.inr (hR.2 p q hp hq))⟩
   have hd':∀ p,p<ops.size→(done (ls.setIfInBounds i true) p↔p<i+1):=fun p hp=>by
    rw [q71 (by rw [hR.1];exact i1),hd p hp];omega
   have hj':∀ j,l[j]? = ops[i+1+j]?:=fun j=>by
    have:=hj (j+1);rw [show i+1+j=i+(j+1) by omega,← this];rfl
   have next:∀ a w,wpListIn F n P ops Q l a w→wpAnyIn F n P .any ops Q f (ls.setIfInBounds i true) a w:=fun a w h=>q414 hB hT l (i+1) _ a w f (by omega) (by omega) hj' hR' hd' (by omega) h
   split
   ·rename_i hw
    rw [if_pos hw] at h;exact Oper.wpIn_mono next h
   ·rename_i hw
    rw [if_neg hw] at h;exact⟨h.1,next _ _ h.2⟩
theorem wpIn_q{Q1:Exit→Act→World→Prop}(hQ:∀ e a w,e≠.normal→Q1 e a w→Q e a w){o:Oper}{a:Act}{w:World}{K:Act→World→Prop}(hh:o.wpIn F n P a w K Q1):o.wpIn F n P a w K Q:=by
 unfold Oper.wpIn at *;refine⟨hh.1, ?_⟩;have hh:=hh.2;generalize (o.semAt F.round a.eval).run P w=r at *;cases r with
 | ok x w'=>
  cases x <;> simp only [Oper.uponIn] at hh ⊢ <;>
   first
    | exact hh
    | exact hQ _ _ _ (by simp) hh
    | exact⟨hh.1,CallsIn.mono hh.2 (fun e w'' he=>by cases e <;> first | exact he | exact hQ _ _ _ (by simp) he | (obtain⟨x,y,hz⟩:=he;exact⟨x,y,hQ _ _ _ (by simp) hz⟩))⟩
    | exact⟨hh.1,RoundIn.mono hh.2 (fun e w'' he=>by cases e <;> first | exact he | exact hQ _ _ _ (by simp) he | (obtain⟨x,y,hz⟩:=he;exact⟨x,y,hQ _ _ _ (by simp) hz⟩))⟩
 | halt x w'=>cases x <;> simp only [Oper.uponIn] at hh ⊢ <;> first | exact hh | exact hQ _ _ _ (by simp) hh
theorem q655{Q1:Exit→Act→World→Prop}(hB:∀ i j,i<ops.size→q26 ops i j=true→j<i)(hG:∀ (i:Nat) (o:Oper) (j:Nat) (want:Bool),ops[i]? = some o→o.guard=some (j,want)→j<i){c:Nat}(hc:c≤ops.size)(hT:∀ q,q<ops.size-c→∀ j,j<c+q→rch ops 40 (c+q) j=true)
  (hQ:∀ e a w,e≠.normal→Q1 e a w→Q e a w)(hQn:∀ a w,Q1 .normal a w→wpListIn F n P ops Q (ops.toList.drop c) a w) :
  ∀ (fuel:Nat) (ls' ls:Array Bool) (a:Act) (w:World) (fuel':Nat),LsR (ops.extract 0 c) ls'→LsR ops ls→(∀ i,i<c→(done ls i↔done ls' i))→(∀ i,done ls i→i<c)→fuel+(ops.size-c)≤fuel'→wpAnyIn F n P .any (ops.extract 0 c) Q1 fuel ls' a w→wpAnyIn F n P .any ops Q fuel' ls a w:=by
 have hget:∀ i,i<c→(ops.extract 0 c)[i]? = ops[i]?:=fun i hi=>by
  rw [Array.getElem?_extract];simp;omega
 have hsz:(ops.extract 0 c).size=c:=by rw [Array.size_extract];omega
 have hedge:∀ i j,i<c→(q26 (ops.extract 0 c) i j=q26 ops i j):=fun i j hi=>by
  unfold q26;rw [hget i hi]
 have start:∀ (ls:Array Bool) (a:Act) (w:World) (fuel':Nat),LsR ops ls→(∀ i,i<ops.size→(done ls i↔i<c))→ops.size-c≤fuel'→Q1 .normal a w→wpAnyIn F n P .any ops Q fuel' ls a w:=fun ls a w fuel' hR hd hf hq=>
  q414 hB hT (ops.toList.drop c) c ls a w fuel' (Nat.le_refl _) (by rw [List.length_drop,Array.length_toList];omega) (fun j=>by rw [List.getElem?_drop,Array.getElem?_toList]) hR hd hf (hQn a w hq)
 have hall:∀ (ls' ls:Array Bool),LsR (ops.extract 0 c) ls'→LsR ops ls→(∀ i,i<c→(done ls i↔done ls' i))→(∀ i,done ls i→i<c)→Region.ready .any (ops.extract 0 c) ls'=[]→∀ i,i<ops.size→(done ls i↔i<c):=by
  intro ls' ls hR' hR hd hlt hr i hi;refine⟨hlt i,fun hic=>?_⟩;rw [hd i hic]
  revert hic
  induction i using Nat.strongRecOn with
  | _ i ih=>
   intro hic;refine Classical.byContradiction fun hnd=>?_
   have:i∈Region.ready .any (ops.extract 0 c) ls':=by
    refine(q141 hR'.1).2 ⟨by rw [hsz];exact hic,hnd,fun j hj=>?_⟩;rw [hedge i j hic] at hj;have hji:=hB i j hi hj;exact ih j hji (by omega) (by omega)
   rw [hr] at this;cases this
 intro fuel
 induction fuel with
 | zero=>
  intro ls' ls a w fuel' hR' hR hd hlt hf h;exact start ls a w fuel' hR (hall ls' ls hR' hR hd hlt h.1) (by omega) h.2
 | succ f ih=>
  intro ls' ls a w fuel' hR' hR hd hlt hf h;cases hr:Region.ready .any (ops.extract 0 c) ls' with
  | nil=>exact start ls a w fuel' hR (hall ls' ls hR' hR hd hlt hr) (by omega) (h.1 hr)
  | cons i0 r0=>
   cases fuel' with
   | zero=>omega
   | succ f'=>
    have hi0:i0∈Region.ready .any (ops.extract 0 c) ls':=by rw [hr];exact List.mem_cons_self ..
    obtain⟨g1,g2,g3⟩:=(q141 hR'.1).1 hi0;rw [hsz] at g1
    have same:∀ i,i∈Region.ready .any ops ls↔i∈Region.ready .any (ops.extract 0 c) ls':=by
     intro i;rw [q141 hR.1,q141 hR'.1,hsz];constructor
     ·rintro⟨h1,h2,h3⟩
      have hic:i<c:=by
       rcases Nat.lt_or_ge i c with hx | hx
       ·exact hx
       ·have hrc:=hT (i-c) (by omega) i0 (by omega)
        rw [show c+(i-c)=i by omega] at hrc;exact absurd ((hd i0 g1).1 (q208 hR.2 h3 hrc)) g2
      refine⟨hic,fun hx=>h2 ((hd i hic).2 hx),fun j hj=>?_⟩;rw [hedge i j hic] at hj;have:=hB i j h1 hj;exact(hd j (by omega)).1 (h3 j hj)
     ·rintro⟨h1,h2,h3⟩
      refine⟨by omega,fun hx=>h2 ((hd i h1).1 hx),fun j hj=>?_⟩;have:=hB i j (by omega) hj;rw [← hedge i j h1] at hj;exact(hd j (by omega)).2 (h3 j hj)
    refine⟨fun hn=>?_,fun i hi=>?_⟩
    ·have:=(same i0).2 hi0
     rw [hn] at this;cases this
    ·have hi':=(same i).1 hi
     obtain⟨k1,k2,k3⟩:=(q141 hR'.1).1 hi';rw [hsz] at k1;have hop:=h.2 i hi';have hil:i<ls.size:=by rw [hR.1];omega
     have hil':i<ls'.size:=by rw [hR'.1,hsz];exact k1
     have hRn:LsR ops (ls.setIfInBounds i true):=⟨by simpa using hR.1,fun p q hp hq=>by
      rcases(q71 hil).1 hp with rfl | hp
      ·exact(q71 hil).2 (.inr (q263 hi hq))
      ·exact(q71 hil).2 (.inr (hR.2 p q hp hq))⟩
     have hRn':LsR (ops.extract 0 c) (ls'.setIfInBounds i true):=⟨by simpa using hR'.1,fun p q hp hq=>by
      rcases(q71 hil').1 hp with rfl | hp
      ·exact(q71 hil').2 (.inr (k3 q hq))
      ·exact(q71 hil').2 (.inr (hR'.2 p q hp hq))⟩
     have next:∀ a w,wpAnyIn F n P .any (ops.extract 0 c) Q1 f (ls'.setIfInBounds i true) a w→wpAnyIn F n P .any ops Q f' (ls.setIfInBounds i true) a w:=fun a w h=>
      ih _ _ a w f' hRn' hRn (fun p hp=>by rw [q71 hil,q71 hil',hd p hp]) (fun p hp=>by
       rcases(q71 hil).1 hp with rfl | hp
       ·exact k1
       ·exact hlt p hp) (by omega) h
     unfold wpOpIn at hop ⊢;rw [hget i k1] at hop
     split
     ·rename_i ho
      rw [Array.getElem?_eq_none_iff] at ho;omega
     ·rename_i o ho
      simp only [ho] at hop
      have hw:Region.wanted o (yielded (ops.extract 0 c) a.tmps)=Region.wanted o (yielded ops a.tmps):=by
       unfold Region.wanted;cases hgd:o.guard with
       | none=>rfl
       | some q=>
        obtain⟨j,want⟩:=q;have:=hG i o j want ho hgd;simp only [yielded];rw [hget j (by omega)]
      rw [hw] at hop
      split
      ·rename_i hx
       rw [if_pos hx] at hop;exact wpIn_q hQ (Oper.wpIn_mono next hop)
      ·rename_i hx
       rw [if_neg hx] at hop;exact⟨hop.1,next _ _ hop.2⟩
end
section
variable {D : Nat → Type} [∀ t, Dt (D t)] {P : Program} {N : Nat} {fr : List (Nat × Blk D)} {F : List Ent} {w0 w : World} {H0 H : Hp} {R : List Ent} {ρ : RM} {L : List Ent} {σ : Nat → Value} {Dd : List Deferred}
theorem q844{ops:Array Oper}{c:Nat}(h:tailB ops c=true):(∀ i j,i<ops.size→q26 ops i j=true→j<i)∧(∀ (i:Nat) (o:Oper) (j:Nat) (want:Bool),ops[i]? = some o→o.guard=some (j,want)→j<i)∧c≤ops.size∧∀ q,q<ops.size-c→∀ j,j<c+q→rch ops 40 (c+q) j=true:=by
 simp only [tailB,Bool.and_eq_true,List.all_eq_true,List.mem_range] at h;obtain⟨h1,h2,h3⟩:=h;refine⟨fun i j hi hj=>?_,fun i o j want ho hg=>?_,Nat.le_of_ble_eq_true h1,h3⟩
 ·have h4:=h2 i hi
  rw [q26,Array.getElem?_eq_getElem hi] at hj;rw [Array.getElem?_eq_getElem hi] at h4;simp only [Bool.and_eq_true] at h4;simp only [← Array.any_toList,List.any_eq_true,Bool.and_eq_true] at hj;obtain⟨e,he,hb,hon⟩:=hj;have h5:=(Array.all_eq_true_iff_forall_mem.1 h4.1) e (Array.mem_toList_iff.1 he);rw [← Nat.eq_of_beq_eq_true hon];simpa [hb,Nat.blt_eq] using h5
 ·have hi:i<ops.size:=(Array.getElem?_eq_some_iff.1 ho).1
  have h4:=h2 i hi;rw [ho] at h4;simp only [Bool.and_eq_true,hg] at h4;simpa [Nat.blt_eq] using h4.2
theorem q845{E:Env D}(hE:E.Ok)(hm:E.P.follows .mixedOrders=true)(h0:E.G H0){st:St D}{id:Nat}{rr:Option Nat}{md:Nat}{Q:Exit→List Deferred→(Nat→Value)→World→Prop}{ops:Array Oper}{c:Nat}{K:St D→Prop}(hs:Sat fr F w0 H0 R H ρ L st σ w)(ht:tailB ops c=true)(h:drawF E N fr (ops.extract 0 c) st K)
  (k:Goes fr F w0 H0 R H ρ K fun σ' w'=>RW rr md E.P N ops (ops.toList.drop c) Q Dd σ' w'):CW rr md E.P N (.region id ops true) Q Dd σ w:=by
 obtain⟨hB,hG,hc,hT⟩:=q844 ht;have hsz:(ops.extract 0 c).size=c:=by rw [Array.size_extract];omega
 unfold drawF at h;obtain⟨recs,nx,h1,h2,h3⟩:=q328 (base:=st) (ops:=ops.extract 0 c) (l:=(ops.extract 0 c).toList) (i:=0) (recs:=[]) hE (fun j o r _ hr=>by simp at hr) rfl (by rw [Nat.zero_add];exact Array.length_toList) (fun k o hk=>by rw [Nat.zero_add];rwa [Array.getElem?_toList] at hk) h;obtain⟨hck,hk⟩:=cifP h1;simp only [Bool.and_eq_true] at hck;intro a ha;refine wpIn_region_any hm ?_;refine q655 (Q1:=lift N fun e D' σ' w'=>e = .normal∧D'=Dd∧RW rr md E.P N ops (ops.toList.drop c) Q Dd σ' w') hB hG hc hT ?_ ?_ c (Array.replicate c false) _ a _ _ ?_ ?_ ?_ ?_ (by omega) ?_
 ·rintro e a w he ⟨_,_,_,h4,_⟩
  exact absurd h4 he
 ·rintro a w ⟨D',σ',h4,_,rfl,h6⟩
  exact h6 a h4
 ·refine⟨by simp [hsz],fun i j hi=>?_⟩
  have:¬done (Array.replicate c false) i:=q262 _ _;exact absurd hi this
 ·refine⟨by simp,fun i j hi=>?_⟩
  have:¬done (Array.replicate ops.size false) i:=q262 _ _;exact absurd hi this
 ·intro i _
  have h4:¬done (Array.replicate c false) i:=q262 _ _;have h5:¬done (Array.replicate ops.size false) i:=q262 _ _;exact⟨fun hx=>absurd hx h5,fun hx=>absurd hx h4⟩
 ·intro i hi
  have:¬done (Array.replicate ops.size false) i:=q262 _ _;exact absurd hi this
 ·have:=q500 (rr:=rr) (md:=md) (Q:=fun e D' σ' w'=>e = .normal∧D'=Dd∧RW rr md E.P N ops (ops.toList.drop c) Q Dd σ' w') h0 hs hck.1 hck.2.1 hck.2.2 h2 (fun j o r ho hr=>(h3 j o r ho hr).1) (fun H' ρ' L' σ' w' g1 g2 _ g3=>⟨rfl,rfl,k _ _ _ _ _ _ hk g1 g2 g3⟩) a ha
  rwa [hsz] at this
end
end
section
section
variable {F : Fence} {n : Nat} {P : Program} {ops : Array Oper} {Q : Exit → Act → World → Prop}
def q36(F:Fence)(n:Nat)(P:Program)(ops:Array Oper)(Q:Exit→Act→World→Prop)(G:World→Prop):Nat→Array Bool→Act→World→Prop
 | 0,ls,a,w=>Region.ready .any ops ls=[]∧Q .normal a w
 | f+1,ls,a,w=>(Region.ready .any ops ls=[]→Q .normal a w)∧∀ i∈Region.ready .any ops ls,wpOpIn F n P ops Q i (fun a' w'=>G w'∧q36 F n P ops Q G f (ls.setIfInBounds i true) a' w') a w
theorem q36.any{G:World→Prop}:∀ {f:Nat} {ls:Array Bool} {a:Act} {w:World},q36 F n P ops Q G f ls a w→wpAnyIn F n P .any ops Q f ls a w
 | 0,_,_,_,h=>h
 | _+1,_,_,_,h=>⟨h.1,fun i hi=>wpOpIn_mono (fun _ _ k=>k.2.any) (h.2 i hi)⟩
theorem q36.mono{G G':World→Prop}(hG:∀ w,G w→G' w):∀ {f:Nat} {ls:Array Bool} {a:Act} {w:World},q36 F n P ops Q G f ls a w→q36 F n P ops Q G' f ls a w
 | 0,_,_,_,h=>h
 | _+1,_,_,_,h=>⟨h.1,fun i hi=>wpOpIn_mono (fun _ _ k=>⟨hG _ k.1,k.2.mono hG⟩) (h.2 i hi)⟩
def YG(G:World→Prop)(P:Program)(ops:Array Oper)(o:Oper)(v:Value)(a:Act):Prop:=
 ((Region.wanted o (yielded ops a.tmps)=true∧∀ w,G w→(execOp a.eval o).run P w = .ok (.value v) w)∨(Region.wanted o (yielded ops a.tmps)=false∧v=undef))∧∀ w,o.about P w a.eval=none
theorem YG.of_same{G:World→Prop}{o:Oper}{v:Value}{a a':Act}(hy:YG G P ops o v a)(he:execOp a'.eval o=execOp a.eval o)
  (hw:Region.wanted o (yielded ops a'.tmps)=Region.wanted o (yielded ops a.tmps))(hb:∀ w,o.about P w a'.eval=o.about P w a.eval):YG G P ops o v a':=by
 unfold YG at *;rw [he,hw];exact⟨hy.1,fun w=>by rw [hb w];exact hy.2 w⟩
theorem YG.wpOpIn{G:World→Prop}{i:Nat}{o:Oper}{v:Value}{a:Act}(hro:∀ ρ,o.semAt F.round ρ=execOp ρ o)(hi:ops[i]? = some o)(hy:YG G P ops o v a){K:Act→World→Prop}{w:World}(hG:G w)(h:K (a.put o.dst v) w):wpOpIn F n P ops Q i K a w:=by
 unfold Go.wpOpIn;simp only [hi];have hab:∀ f,o.about P w a.eval=some f→F.fn f:=fun f hf=>by rw [hy.2 w] at hf;cases hf
 rcases hy.1 with ⟨hw,hv⟩ | ⟨hw,rfl⟩
 ·simp only [hw,if_true,Oper.wpIn,hro,hv w hG,Oper.uponIn];exact⟨hab,h⟩
 ·simp only [hw,Bool.false_eq_true,if_false];exact⟨hab,h⟩
theorem q554{G:World→Prop}{j:Nat}{oi oj:Oper}{v:Value}(hro:∀ ρ,oj.semAt F.round ρ=execOp ρ oj)(hj:ops[j]? = some oj)(hap:oi.apart ops oj=true)
  (hsi:∀ cs b,oi.op≠.select cs b)(hsj:∀ cs b,oj.op≠.select cs b)
  (hQ:∀ c a w,Q (.panic c) (a.put oi.dst v) w→Q (.panic c) a w){K:Act→World→Prop}{a:Act}{w:World}
  (hy:YG G P ops oi v a)(h:wpOpIn F n P ops Q j K (a.put oi.dst v) w) :
  wpOpIn F n P ops Q j (fun a' w'=>YG G P ops oi v a'∧K (a'.put oi.dst v) w') a w:=by
 obtain⟨h1,h2,h3⟩:=Oper.apart_spec hap
 have keep:∀ (a:Act),YG G P ops oi v a→∀ u,YG G P ops oi v (a.put oj.dst u):=fun a hy u=>
  hy.of_same (execOp_put oi hsi a oj.dst u h3) (wanted_put oi a oj.dst u h3) (fun w=>about_put oi w a oj.dst u h3)
 have keepD:∀ d,YG G P ops oi v { a with defers:=d::a.defers }:=fun d=>hy.of_same rfl rfl (fun _=>rfl);unfold wpOpIn at *;simp only [hj] at *;rw [wanted_put oj a oi.dst v h1,about_put oj w a oi.dst v h1] at h
 split
 ·rename_i hw
  simp only [hw,if_true] at h;unfold Oper.wpIn at *;rw [about_put oj w a oi.dst v h1] at h;refine⟨h.1, ?_⟩;have h:=h.2;rw [hro,execOp_put oj hsj a oi.dst v h1] at h;rw [hro];generalize (execOp a.eval oj).run P w=r at *;cases r with
  | ok x w'=>
   cases x <;> simp only [Oper.uponIn] at h ⊢
   case value u=>exact⟨keep a hy u,by rw [← Act.put_comm a v u h2];exact h⟩
   case skip=>exact⟨keep a hy _,by rw [← Act.put_comm a v undef h2];exact h⟩
   case defer d=>
    refine⟨keep _ (keepD d) _, ?_⟩;rw [← Act.put_comm _ v undef h2,← Act.put_defers];exact h
   case enter f args=>
    refine⟨h.1,CallsIn.mono h.2 fun e w'' he=>?_⟩;cases e with
    | returned u=>exact⟨keep a hy u,by rw [← Act.put_comm a v u h2];exact he⟩
    | panicked c=>exact hQ _ _ _ he
    | outgrown=>exact he
   case row row args=>exact⟨h.1,RowsIn.mono h.2 fun u w'' he=>⟨keep a hy u,by rw [← Act.put_comm a v u h2];exact he⟩⟩
   case round l f tmps assign body=>
    refine⟨h.1,RoundIn.mono h.2 fun e w'' he=>?_⟩;cases e with
    | returned u=>exact⟨keep a hy u,by rw [← Act.put_comm a v u h2];exact he⟩
    | panicked c=>exact hQ _ _ _ he
    | outgrown=>exact he
  | halt x w'=>
   cases x <;> simp only [Oper.uponIn] at h ⊢
   case panic u=>exact hQ _ _ _ h
 ·rename_i hw
  simp only [hw] at h;exact⟨h.1,keep a hy _,by rw [← Act.put_comm a v undef h2];exact h.2⟩
theorem q305{G:World→Prop}{i:Nat}{oi:Oper}{v:Value}(hro:∀ (j:Nat) (o:Oper),ops[j]? = some o→∀ ρ,o.semAt F.round ρ=execOp ρ o)(hi:ops[i]? = some oi)(hsel:∀ (j:Nat) (o:Oper) cs b,ops[j]? = some o→o.op≠.select cs b)
  (hQ:∀ c a w,Q (.panic c) (a.put oi.dst v) w→Q (.panic c) a w) :
  ∀ (fuel:Nat) (listed:Array Bool) (a:Act) (w:World),G w→
   (∀ j oj,ops[j]? = some oj→j≠i→listed.getD j true=false→(∀ e∈oj.after,Region.binds .any e=true→e.on≠i)→oi.apart ops oj=true)→
   i∈Region.ready .any ops listed→YG G P ops oi v a→
   q36 F n P ops Q G fuel (listed.setIfInBounds i true) (a.put oi.dst v) w→q36 F n P ops Q G (fuel+1) listed a w:=by
 intro fuel
 induction fuel with
 | zero=>
  intro listed a w hG _ hr hy H;refine⟨fun h=>(by rw [h] at hr;cases hr),fun j hj=>?_⟩;by_cases hji:j=i
  ·subst hji;exact hy.wpOpIn (hro _ _ hi) hi hG ⟨hG,H⟩
  ·have:=ready_mono hj hji
   rw [H.1] at this;cases this
 | succ fuel ih=>
  intro listed a w hG hfree hr hy H;refine⟨fun h=>(by rw [h] at hr;cases hr),fun j hj=>?_⟩;by_cases hji:j=i
  ·subst hji;exact hy.wpOpIn (hro _ _ hi) hi hG ⟨hG,H⟩
  ·have h1:=H.2 j (ready_mono hj hji)
   obtain⟨hjun,oj,hoj,hall⟩:=Go.mem_ready.1 hj
   have hnot:∀ e∈oj.after,Region.binds .any e=true→e.on≠i:=fun e he hb heq=>by
    have h1:=hall e he hb;have h0:=(Go.mem_ready.1 hr).1;rw [heq] at h1;rcases Nat.lt_or_ge i listed.size with h' | h'
    ·simp [h'] at h0 h1;rw [h0] at h1;cases h1
    ·simp [Array.getElem?_eq_none h'] at h1
   have h2:=q554 (hro _ _ hoj) hoj (hfree j oj hoj hji hjun hnot) (fun cs b=>hsel i oi cs b hi) (fun cs b=>hsel j oj cs b hoj) hQ hy h1
   have hfree':∀ k ok,ops[k]? = some ok→k≠i→(listed.setIfInBounds j true).getD k true=false→
     (∀ e∈ok.after,Region.binds .any e=true→e.on≠i)→oi.apart ops ok=true:=fun k ok hk hki hun hno=>by
    refine hfree k ok hk hki ?_ hno;by_cases hjk:j=k
    ·subst hjk;exact hjun
    ·rw [getD_set_ne true hjk] at hun;exact hun
   refine wpOpIn_mono (fun a' w' h3=>⟨h3.2.1,ih (listed.setIfInBounds j true) a' w' h3.2.1 hfree' (ready_mono hr (Ne.symm hji)) h3.1 ?_⟩) h2;rw [Array.setIfInBounds_comm _ _ hji];exact h3.2.2
theorem Oper.wpIn_QK{o:Oper}{a:Act}{w:World}{K K':Act→World→Prop}{Q Q':Exit→Act→World→Prop}(hK:∀ a w,K a w→K' a w)(hQ:∀ e a w,e≠.normal→Q e a w→Q' e a w)(hh:o.wpIn F n P a w K Q):o.wpIn F n P a w K' Q':=by
 unfold Oper.wpIn at *;refine⟨hh.1, ?_⟩;have hh:=hh.2;have hl:LetsOut Q→LetsOut Q':=fun⟨a,w,h⟩=>⟨a,w,hQ _ _ _ (by simp) h⟩
 generalize (o.semAt F.round a.eval).run P w=r at *;cases r with
 | ok x w'=>
  cases x <;> simp only [Oper.uponIn] at hh ⊢
  case value u=>exact hK _ _ hh
  case skip=>exact hK _ _ hh
  case defer d=>exact hK _ _ hh
  case enter f args=>
   refine⟨hh.1,CallsIn.mono hh.2 fun e w'' he=>?_⟩;cases e with
   | returned u=>exact hK _ _ he
   | panicked c=>exact hQ _ _ _ (by simp) he
   | outgrown=>exact hl he
  case row row args=>exact⟨hh.1,RowsIn.mono hh.2 fun u w'' he=>hK _ _ he⟩
  case round l f tmps assign body=>
   refine⟨hh.1,RoundIn.mono hh.2 fun e w'' he=>?_⟩;cases e with
   | returned u=>exact hK _ _ he
   | panicked c=>exact hQ _ _ _ (by simp) he
   | outgrown=>exact hl he
 | halt x w'=>
  cases x <;> simp only [Oper.uponIn] at hh ⊢
  case panic u=>exact hQ _ _ _ (by simp) hh
end
def q209(o:Oper):Bool:=match o.op with
 | .move _=>true
 | .load _ _=>true
 | .fieldAddr _ _ _=>true
 | .makeFunc _ _ _=>true
 | .nilCheck _=>true
 | .slice _ _ none (some _) none=>true
 | .indexAddr _ _ _=>true
 | _=>false
def flP(ops:Array Oper)(fl:List Nat):List Nat→Array Bool→Bool
 | [],_=>true
 | i::g,ls=>(Region.ready .any ops ls).contains i&&(bif fl.any (Nat.beq i) then(match ops[i]? with | some o=>q209 o | none=>false)&&Region.free .any ops ls i else eqL (Region.ready .any ops ls) [i])&&flP ops fl g (ls.setIfInBounds i true)
def flB(ops:Array Oper)(fl:List Nat):List Nat→Array Bool→Bool
 | [],ls=>(Region.ready .any ops ls).isEmpty
 | i::g,ls=>(Region.ready .any ops ls).contains i&&(bif fl.any (Nat.beq i) then(match ops[i]? with | some o=>q209 o | none=>false)&&Region.free .any ops ls i else eqL (Region.ready .any ops ls) [i])&&flB ops fl g (ls.setIfInBounds i true)
theorem q618:∀ {l m:List Nat},eqL l m=true→l=m
 | [],[],_=>rfl
 | [],_::_,h=>by cases h
 | _::_,[],h=>by cases h
 | a::l,b::m,h=>by
  have h:(Nat.beq a b&&eqL l m)=true:=h;rw [Bool.and_eq_true] at h;rw [Nat.eq_of_beq_eq_true h.1,q618 h.2]
theorem q264{P:Program}{o:Oper}(h:q209 o=true)(a:Act)(w:World):o.about P w a.eval=none:=by
 unfold q209 at h
 split at h
 ·rename_i x hop;unfold Oper.about;rw [hop]
 ·rename_i T x hop;unfold Oper.about;rw [hop]
 ·rename_i T x f hop;unfold Oper.about;rw [hop]
 ·rename_i fn x y hop;unfold Oper.about;rw [hop]
 ·rename_i x hop;unfold Oper.about;rw [hop]
 ·rename_i t x hi hop;unfold Oper.about;rw [hop]
 ·rename_i T x y hop;unfold Oper.about;rw [hop]
 ·cases h
section
variable {D : Nat → Type} [∀ t, Dt (D t)]
def q619(E:Env D)(fr:List (Nat×Blk D))(o:Oper)(st:St D):Option (SV D):=match o.op with
 | .move x=>evO st.sl x
 | .load T x=>match (evO st.sl x).map (res st.kn) with
  | some (.ptr id off)=>match st.lk fr id with
   | some (.fbx _ _)=>ldE E.P E.tb (st.lk fr) (.ptr id off) T
   | _=>none
  | _=>none
 | .fieldAddr T x f=>match fOff E.P T f with
  | some o=>match (evO st.sl x).map (res st.kn) with
   | some (.ptr id off)=>some (.ptr id (off+o))
   | _=>none
  | none=>none
 | .makeFunc fn first cap=>match fn with
  | .func f=>bif Nat.beq cap.size 0 then(mapO (evO st.sl) first.toList).map fun vs=>bif Nat.beq first.size 0 then .fn f vs else .bf f vs else bif Nat.beq first.size 0 then(mapO (evO st.sl) cap.toList).map fun vs=>.fn f vs else none
  | _=>none
 | .nilCheck x=>match (evO st.sl x).map (res st.kn) with
  | some (.ptr id off)=>some (.ptr id off)
  | _=>none
 | _=>none
def q745(E:Env D)(fr:List (Nat×Blk D))(o:Oper)(st:St D):Option (List Prop×SV D):=match o.op with
 | .slice t x none (some hi) none=>match (evO st.sl x).map fun v=>rsV (st.lk fr) (res st.kn v),(evO st.sl hi).map (res st.kn) with
  | some (.fsl e' xs),some (.i .i64 u)=>match slOf D E.P t with
   | some (e,_)=>bif Nat.beq e e' then some ([inS 0 u xs.length],.fsl e' (sub xs 0 u)) else none
   | none=>none
  | _,_=>none
 | .indexAddr T x y=>match (evO st.sl x).map fun v=>rsV (st.lk fr) (res st.kn v),(evO st.sl y).map (res st.kn) with
  | some (.fsl e' xs),some (.i _ n)=>match slOf D E.P T with
   | some (e,_)=>bif Nat.beq e e' then some ([inX n xs.length],.fel e' xs n 0) else none
   | none=>none
  | _,_=>none
 | .load T x=>match (evO st.sl x).map (res st.kn) with
  | some (.fel e xs i off)=>(ldE E.P E.tb (fun _=>none) (.fel e xs i off) T).map fun v=>([],v)
  | _=>none
 | _=>none
def andG:List Prop→Prop→Prop
 | [],K=>K
 | g::r,K=>g∧andG r K
theorem q555:∀ {gs:List Prop} {K:Prop},andG gs K→AllP gs∧K
 | [],_,h=>⟨trivial,h⟩
 | _::_,_,⟨h1,h2⟩=>⟨⟨h1,(q555 h2).1⟩,(q555 h2).2⟩
def panK(kp:Exit→St D→Prop)(e:Exit)(st:St D):Prop:=match e with
 | .panic c=>kp (.panic c) st
 | _=>False
def dstB(ops:Array Oper)(t:Nat):Bool:=ops.toList.any fun o=>match o.dst with
 | some d=>Nat.beq d t
 | none=>false
def cutS(ops:Array Oper):List (Nat×SV D)→List (Nat×SV D)
 | []=>[]
 | p::r=>bif dstB ops p.1 then cutS ops r else p::cutS ops r
omit [∀ t,Dt (D t)] in
theorem q453 {ops:Array Oper} {t:Nat} {v:SV D}:∀ {l:List (Nat×SV D)},getS (cutS ops l) t=some v→(∃ u,getS l t=some u∧(dstB ops t=false→u=v))∧dstB ops t=false
 | [],h=>by cases h
 | (s,u)::r,h=>by
  unfold cutS at h;cases hd:dstB ops s with
  | true=>
   rw [hd,cond_true] at h;obtain⟨⟨x,h1,h2⟩,h3⟩:=q453 h;refine⟨⟨x, ?_,h2⟩,h3⟩;unfold getS;cases hb:Nat.beq t s with
   | true=>
    obtain rfl:=Nat.eq_of_beq_eq_true hb;rw [hd] at h3;cases h3
   | false=>exact h1
  | false=>
   rw [hd,cond_false] at h;unfold getS at h ⊢;cases hb:Nat.beq t s with
   | true=>
    rw [hb,cond_true] at h;cases h;obtain rfl:=Nat.eq_of_beq_eq_true hb;exact⟨⟨_,rfl,fun _=>rfl⟩,hd⟩
   | false=>
    rw [hb,cond_false] at h;exact q453 h
omit [∀ t,Dt (D t)] in
theorem put_defers (a:Act) (d:Option Nat) (v:Value):(a.put d v).defers=a.defers:=by cases d <;> rfl
omit [∀ t,Dt (D t)] in
theorem q620 (a:Act) (d:Option Nat) (v:Value):(a.put d v).tmps.size=a.tmps.size:=by
 cases d with
 | none=>rfl
 | some d=>simp [Act.put]
omit [∀ t,Dt (D t)] in
theorem q746 {ops:Array Oper} {i t:Nat} {o:Oper} (a:Act) (hi:ops[i]? = some o) (ht:dstB ops t=false) (v:Value):(a.put o.dst v).tmps.getD t undef=a.tmps.getD t undef:=by
 cases hd:o.dst with
 | none=>rfl
 | some d=>
  have hne:d≠t:=fun e=>by
   subst e
   have:dstB ops d=true:=by
    unfold dstB;refine List.any_eq_true.2 ⟨o, ?_,by rw [hd];exact Nat.beq_refl d⟩;exact List.mem_of_getElem? (by rw [Array.getElem?_toList];exact hi)
   rw [this] at ht;cases ht
  simp only [Act.put,Array.getD_eq_getD_getElem?,Array.getElem?_setIfInBounds,hne,if_false]
def stepF(E:Env D)(cI:CallX D)(fr:List (Nat×Blk D))(pos:List Nat)(q:Bool)(o:Oper)(st:St D)(K:St D→Prop)(kp:Exit→St D→Prop):Prop:=match q with
 | true=>match q619 E fr o st with
  | some v=>K (st.put o.dst v)
  | none=>match q745 E fr o st with
   | some (gs,v)=>andG gs (K (st.put o.dst v))
   | none=>False
 | false=>stepE E cI fr pos o st K (panK kp)
def runFl(E:Env D)(cI:CallX D)(N:Nat)(fr:List (Nat×Blk D))(pos:List Nat)(ops:Array Oper)(fl:List Nat):List Nat→St D→(St D→Prop)→(Exit→St D→Prop)→Prop
 | [],st,K,_=>K st
 | i::g,st,K,kp=>match ops[i]? with
  | none=>False
  | some o=>cdP (dstOk o.dst N) (match gdE ops st o.guard with
   | .yes=>stepF E cI fr ((10+i)::pos) (fl.any (Nat.beq i)) o st (fun st'=>runFl E cI N fr pos ops fl g st' K kp) kp
   | .no=>runFl E cI N fr pos ops fl g (st.put o.dst (.c undef)) K kp
   | .ask t v want=>askF v
     (cdP want (stepF E cI fr ((10+i)::pos) (fl.any (Nat.beq i)) o (st.know (.tmp t) true) (fun st'=>runFl E cI N fr pos ops fl g st' K kp) kp) (runFl E cI N fr pos ops fl g ((st.know (.tmp t) true).put o.dst (.c undef)) K kp))
     (cdP want (runFl E cI N fr pos ops fl g ((st.know (.tmp t) false).put o.dst (.c undef)) K kp) (stepF E cI fr ((10+i)::pos) (fl.any (Nat.beq i)) o (st.know (.tmp t) false) (fun st'=>runFl E cI N fr pos ops fl g st' K kp) kp))
   | .bad=>False) False
variable {E : Env D} {cI : CallX D} {fr : List (Nat × Blk D)} {F : List Ent} {w0 w : World} {H0 H : Hp} {R : List Ent} {ρ : RM} {L : List Ent} {st : St D} {σ : Nat → Value}
def AgH(H:Hp)(w:World):Prop:=∀ b o,H b=some o→w.heap[b]? = some o
theorem AgH.le{H H':Hp}(h:H.le H'){w:World}(k:AgH H' w):AgH H w:=fun b o e=>k b o (h b o e)
theorem q501(hs:Sat fr F w0 H0 R H ρ L st σ w){o:Oper}{v:SV D}(h:q619 E fr o st=some v):(∃ x,Rv H ρ x v∧∀ w',AgH H w'→Ex E.P σ o.op o.type w' x w')∧∀ (a:Act) w,o.about E.P w a.eval=none:=by
 unfold q619 at h
 split at h
 ·rename_i x hop
  exact⟨⟨_,q35 hs.sl h,fun w' _=>by rw [hop];exact Ex.move _ rfl⟩,fun a w=>by unfold Oper.about;rw [hop]⟩
 ·rename_i T x hop
  refine⟨?_,fun a w=>by unfold Oper.about;rw [hop]⟩
  split at h
  ·rename_i id off hx
   obtain⟨v0,hv0,hv1⟩:=Option.map_eq_some_iff.1 hx;have hv2:=hs.res (q35 hs.sl hv0);rw [hv1] at hv2;obtain⟨b,e1,e2⟩:=hv2
   split at h
   ·rename_i T' cs hl
    obtain⟨L1,S,L2,⟨rfl,b',vs,f1,f2,f3⟩,_⟩:=hs.read hl;rw [e1] at f1;cases f1;have M:∀ {w':World},AgH H w'→Mem w' H w' H []:=fun ha=>Mem.start ha;unfold ldE at h
    split at h
    ·rename_i n hn
     have e3:ldC E.tb (st.lk fr) (.ptr id off) n=some (part cs off n):=by unfold ldC;simp only [hl]
     rw [e3] at h;obtain⟨h1,h2⟩:=cif h;cases h2;have hu:=(f3.drop off).take n;refine⟨_,⟨_,rfl,hu⟩,fun w' ha=>by rw [hop];exact Ex.loadHA (M ha) (Hp.le.refl _) f2 _ (q354 hn) e2 (by rw [RvL.length hu];exact Nat.eq_of_beq_eq_true h1) rfl⟩
    ·obtain⟨h1,h⟩:=cif h
     have e3:ldC E.tb (st.lk fr) (.ptr id off) 1=some (part cs off 1):=by unfold ldC;simp only [hl]
     rw [e3] at h
     split at h
     ·rename_i v' hp
      cases h;have hu:=(f3.drop off).take 1;have hp:part cs off 1=[v]:=Option.some.inj hp;unfold part at hp;rw [hp] at hu;obtain⟨u,q,e4,h3,h4⟩:=hu;obtain rfl:q=[]:=h4;exact⟨u,h3,fun w' ha=>by rw [hop];exact Ex.loadH (M ha) (Hp.le.refl _) f2 (q70 h1) e2 (q287 e4)⟩
     ·cases h
   ·cases h
  ·cases h
 ·rename_i T x f hop
  refine⟨?_,fun a w=>by unfold Oper.about;rw [hop]⟩
  split at h
  ·rename_i o ho
   split at h
   ·rename_i id off hx
    cases h;obtain⟨v0,hv0,hv1⟩:=Option.map_eq_some_iff.1 hx;have hv2:=hs.res (q35 hs.sl hv0);rw [hv1] at hv2;obtain⟨b,e1,e2⟩:=hv2;exact⟨_,⟨b,e1,rfl⟩,fun w' _=>by rw [hop];exact Ex.fieldAddr (q437 ho) e2⟩
   ·cases h
  ·cases h
 ·rename_i fn first cap hop
  refine⟨?_,fun a w=>by unfold Oper.about;rw [hop]⟩
  split at h
  ·rename_i f
   cases h1:Nat.beq cap.size 0 with
   | false=>
    rw [h1,cond_false] at h;obtain⟨h2,h⟩:=cif h;obtain⟨vs,hv,e⟩:=Option.map_eq_some_iff.1 h;have hf:first = #[]:=Array.eq_empty_of_size_eq_zero (Nat.eq_of_beq_eq_true h2)
    subst hf;subst e;exact⟨_,⟨_,rfl,q169 hs hv⟩,fun w' _=>by rw [hop];exact Ex.makeFunc (fs:=[]) rfl rfl⟩
   | true=>
   rw [h1,cond_true] at h;obtain⟨vs,hv,e⟩:=Option.map_eq_some_iff.1 h;have hf:cap = #[]:=Array.eq_empty_of_size_eq_zero (Nat.eq_of_beq_eq_true h1);subst hf;have hr:=q169 hs hv;cases h2:Nat.beq first.size 0 with
   | true=>
    have hf:first = #[]:=Array.eq_empty_of_size_eq_zero (Nat.eq_of_beq_eq_true h2)
    subst hf;rw [h2,cond_true] at e;subst e;exact⟨_,⟨_,rfl,hr⟩,fun w' _=>by rw [hop];exact Ex.makeFunc (fs:=[]) (cs:=[]) rfl rfl⟩
   | false=>
    rw [h2,cond_false] at e;subst e;exact⟨_,⟨_,rfl,hr⟩,fun w' _=>by rw [hop];exact Ex.makeFunc (cs:=[]) rfl rfl⟩
  ·cases h
 ·rename_i x hop
  refine⟨?_,fun a w=>by unfold Oper.about;rw [hop]⟩
  split at h
  ·rename_i id off hx
   cases h;obtain⟨v0,hv0,hv1⟩:=Option.map_eq_some_iff.1 hx;have hv2:=hs.res (q35 hs.sl hv0);rw [hv1] at hv2;obtain⟨b,e1,e2⟩:=hv2;exact⟨_,⟨b,e1,rfl⟩,fun w' _=>by rw [hop];exact Ex.nilCheck e2⟩
  ·cases h
 ·cases h
theorem q747(htb:TbOk E.tb)(hs:Sat fr F w0 H0 R H ρ L st σ w){o:Oper}{v:SV D}{gs:List Prop}(h:q745 E fr o st=some (gs,v))(hg:AllP gs):(∃ x,Rv H ρ x v∧∀ w',AgH H w'→Ex E.P σ o.op o.type w' x w')∧∀ (a:Act) w,o.about E.P w a.eval=none:=by
 unfold q745 at h
 split at h
 ·rename_i t x hi hop
  refine⟨?_,fun a w=>by unfold Oper.about;rw [hop]⟩
  split at h
  ·rename_i e' xs u hx hu
   split at h
   ·rename_i e bts ht
    obtain⟨hee,h⟩:=cif h;have hee:=Nat.eq_of_beq_eq_true hee;subst hee;cases h;obtain⟨v0,hv0,hv1⟩:=Option.map_eq_some_iff.1 hx;have hv2:=q204 hs (hs.res (q35 hs.sl hv0));rw [hv1] at hv2;obtain⟨A,n,c,s,e1,hF⟩:=hv2;obtain⟨A',n',c',cs',h3,h4⟩:=q492 (P:=E.P) (σ:=σ) (ty:=o.type) (ylo:=none) (yhi:=some hi) (lo:=none) (hi:=some u) (q39 ht) e1 hF rfl (congrArg some (q411 hs hu)) hg.1;exact⟨_,⟨A',n',c',cs',rfl,h4⟩,fun w' _=>by rw [hop];exact h3 w'⟩
   ·cases h
  ·cases h
 ·rename_i T x y hop
  refine⟨?_,fun a w=>by unfold Oper.about;rw [hop]⟩
  split at h
  ·rename_i e' xs k n hx hu
   split at h
   ·rename_i e bts ht
    obtain⟨hee,h⟩:=cif h;have hee:=Nat.eq_of_beq_eq_true hee;subst hee;cases h;obtain⟨v0,hv0,hv1⟩:=Option.map_eq_some_iff.1 hx;have hv2:=q204 hs (hs.res (q35 hs.sl hv0));rw [hv1] at hv2;obtain⟨A,n1,c,s,e1,hF⟩:=hv2;have hi:=q411 hs hu;have hxx:=hg.1;exact⟨_,⟨A,n1,c,s,rfl,hF,hxx⟩,fun w' _=>by rw [hop];exact Ex.index (q39 ht) e1 hi n.toNat (hF.ne hxx) hxx.nat (hF.lt hxx)⟩
   ·cases h
  ·cases h
 ·rename_i T x hop
  refine⟨?_,fun a w=>by unfold Oper.about;rw [hop]⟩
  split at h
  ·rename_i e xs i off hx
   obtain⟨v',hv',e0⟩:=Option.map_eq_some_iff.1 h;cases e0;obtain⟨A,n1,c,s,e1,hF,hi⟩:=q411 hs hx;have M:∀ {w':World},AgH H w'→Mem w' H w' H []:=fun ha=>Mem.start ha;unfold ldE at hv'
   split at hv'
   ·rename_i n hn
    split at hv'
    ·rename_i l hl
     obtain⟨g1,g2⟩:=cif hv';cases g2;obtain⟨q,hq,rfl⟩:=Option.map_eq_some_iff.1 hl;obtain⟨ch,h1,h2⟩:=DtL.getI hF.dat hi;have hc:=q105 (ρ:=ρ) htb hq h1;have hu:=(hc.drop off).take n;exact⟨_,⟨_,rfl,hu⟩,fun w' ha=>by rw [hop];exact Ex.loadEA (M ha) (Hp.le.refl _) hF.rdc _ (q354 hn) e1 (hF.ne hi) (by rw [RvL.length hu];exact Nat.eq_of_beq_eq_true g1) (q68 h2 rfl)⟩
    ·cases hv'
   ·obtain⟨g1,hv'⟩:=cif hv'
    split at hv'
    ·rename_i v2 hl
     cases hv';obtain⟨q,hq,e2⟩:=Option.map_eq_some_iff.1 hl;obtain⟨ch,h1,h2⟩:=DtL.getI hF.dat hi;have hc:=q105 (ρ:=ρ) htb hq h1;have hu:=(hc.drop off).take 1;have e2:(q.drop off).take 1=[v]:=e2;rw [e2] at hu;obtain⟨u,q',e4,h3,h4⟩:=hu;obtain rfl:q'=[]:=h4
     have e5:s[i.toNat*Dt.sz (D e)+off]? = some u:=by
      have:=q68 (off:=off) (n:=1) h2 rfl 0 u (by rw [e4];rfl);simpa using this
     exact⟨u,h3,fun w' ha=>by rw [hop];exact Ex.loadE (M ha) (Hp.le.refl _) hF.rdc (q70 g1) e1 e5⟩
    ·cases hv'
  ·cases h
 ·cases h
theorem q362(hE:E.Ok)(h0:E.G H0){pos:List Nat}{r:Option Nat}{md N:Nat}{ops:Array Oper}{fl:List Nat}{Dd:List Deferred}{K:St D→Prop}{kp:Exit→St D→Prop}{Q:Exit→Act→World→Prop}(hQ:∀ (i:Nat) (o:Oper) (v:Value) c a w,ops[i]? = some o→Q (.panic c) (a.put o.dst v) w→Q (.panic c) a w)(hro:∀ (j:Nat) (o:Oper),ops[j]? = some o→∀ ρ,o.semAt (FR r).round ρ=execOp ρ o)(hsel:Region.noSelect ops=true){f i:Nat}{g:List Nat}{ls:Array Bool}{st:St D}{H:Hp}{ρ:RM}{L:List Ent}{σ:Nat→Value}{w:World}{a:Act}
  (hI:q79 E.P cI w0 H0 H ρ)(ha:Rep N Dd σ a)(hs:Sat fr F w0 H0 R H ρ L st σ w)(h:runFl E cI N fr pos ops fl (i::g) st K kp)(hr:(Region.ready .any ops ls).contains i=true)(hfr:fl.any (Nat.beq i)=true→(match ops[i]? with | some o=>q209 o | none=>false)=true∧Region.free .any ops ls i=true)
  (rest:∀ {st':St D} {σ':Nat→Value} {w':World} {H':Hp} {ρ':RM} {L':List Ent} {a':Act},Rep N Dd σ' a'→runFl E cI N fr pos ops fl g st' K kp→H.le H'→RM.le ρ ρ'→Sat fr F w0 H0 R H' ρ' L' st' σ' w'→q36 (FR r) md E.P ops Q (AgH H) f (ls.setIfInBounds i true) a' w')
  (kq:∀ c,Goes fr F w0 H0 R H ρ (kp (.panic c)) fun σ' w'=>∀ a',Rep N Dd σ' a'→Q (.panic c) a' w'):match fl.any (Nat.beq i) with
   | true=>q36 (FR r) md E.P ops Q (AgH H) (f+1) ls a w
   | false=>wpOpIn (FR r) md E.P ops Q i (fun a' w'=>AgH H w'∧q36 (FR r) md E.P ops Q (AgH H) f (ls.setIfInBounds i true) a' w') a w:=by
  unfold runFl at h;have hr:i∈Region.ready .any ops ls:=by simpa using hr
  cases ho:ops[i]? with
  | none=>simp only [ho] at h
  | some o=>
   simp only [ho] at h;obtain⟨hd,h⟩:=cifP h;have ag:AgH H w:=hs.mem.agree;have hwt:Region.wanted o (yielded ops a.tmps)=gdOk ops σ o.guard:=q78 ha
   have quiet:fl.any (Nat.beq i)=true→q209 o=true:=fun hq=>by
    have:=(hfr hq).1;rw [ho] at this;exact this
   have first:∀ {v:Value},fl.any (Nat.beq i)=true→YG (AgH H) E.P ops o v a→q36 (FR r) md E.P ops Q (AgH H) f (ls.setIfInBounds i true) (a.put o.dst v) w→q36 (FR r) md E.P ops Q (AgH H) (f+1) ls a w:=fun hq hy hw=>by
    exact q305 hro ho (Region.noSelect_spec hsel) (fun c a w hc=>hQ _ _ _ c a w ho hc) f ls a w ag (Region.free_spec ho (hfr hq).2) hr hy hw
   have only:fl.any (Nat.beq i)=false→wpOpIn (FR r) md E.P ops Q i (fun a' w'=>AgH H w'∧q36 (FR r) md E.P ops Q (AgH H) f (ls.setIfInBounds i true) a' w') a w→wpOpIn (FR r) md E.P ops Q i (fun a' w'=>AgH H w'∧q36 (FR r) md E.P ops Q (AgH H) f (ls.setIfInBounds i true) a' w') a w:=fun _ hw=>hw;have noAbout:∀ f,o.about E.P w a.eval=some f→(FR r).fn f:=fun f _=>FR_fn _ f
   have pass:∀ {st:St D},Sat fr F w0 H0 R H ρ L st σ w→gdOk ops σ o.guard=false→runFl E cI N fr pos ops fl g (st.put o.dst (.c undef)) K kp→(match fl.any (Nat.beq i) with
   | true=>q36 (FR r) md E.P ops Q (AgH H) (f+1) ls a w
   | false=>wpOpIn (FR r) md E.P ops Q i (fun a' w'=>AgH H w'∧q36 (FR r) md E.P ops Q (AgH H) f (ls.setIfInBounds i true) a' w') a w):=fun hs hg h=>by
    have hw:=rest (ha.put hd undef) h (Hp.le.refl _) (RM.le.refl _) (hs.putU o.dst);cases hq:fl.any (Nat.beq i) with
    | false=>
     refine only hq ?_;unfold wpOpIn;rw [ho];simp only;rw [hwt,hg];exact⟨noAbout,ag,hw⟩
    | true=>exact first hq ⟨.inr ⟨hwt.trans hg,rfl⟩,fun w=>q264 (quiet hq) a w⟩ hw
   have step:∀ {st:St D},Sat fr F w0 H0 R H ρ L st σ w→gdOk ops σ o.guard=true→stepF E cI fr ((10+i)::pos) (fl.any (Nat.beq i)) o st (fun st'=>runFl E cI N fr pos ops fl g st' K kp) kp→(match fl.any (Nat.beq i) with
   | true=>q36 (FR r) md E.P ops Q (AgH H) (f+1) ls a w
   | false=>wpOpIn (FR r) md E.P ops Q i (fun a' w'=>AgH H w'∧q36 (FR r) md E.P ops Q (AgH H) f (ls.setIfInBounds i true) a' w') a w):=fun {st} hs hg h=>by
    unfold stepF at h;cases hq:fl.any (Nat.beq i) with
    | true=>
     rw [hq] at h;simp only at h
     split at h
     ·rename_i v hv
      obtain⟨⟨x,h1,h2⟩,h3⟩:=q501 hs hv;refine first hq ⟨.inl ⟨hwt.trans hg,fun w' hw'=>?_⟩,fun w=>h3 a w⟩ (rest (ha.put hd x) h (Hp.le.refl _) (RM.le.refl _) (hs.put h1 o.dst))
      rw [ha.eval];exact h2 w' hw' _ _ _ _
     ·split at h
      ·rename_i gs v hv
       obtain⟨hgs,h⟩:=q555 h;obtain⟨⟨x,h1,h2⟩,h3⟩:=q747 hE.tb hs hv hgs;refine first hq ⟨.inl ⟨hwt.trans hg,fun w' hw'=>?_⟩,fun w=>h3 a w⟩ (rest (ha.put hd x) h (Hp.le.refl _) (RM.le.refl _) (hs.put h1 o.dst))
       rw [ha.eval];exact h2 w' hw' _ _ _ _
      ·exact h.elim
    | false=>
     rw [hq] at h;simp only at h;refine only hq ?_
     let Q1:Exit→List Deferred→(Nat→Value)→World→Prop:=fun e D' σ' w'=>match e with
      | .normal=>D'=Dd∧AgH H w'∧∀ a',Rep N Dd σ' a'→q36 (FR r) md E.P ops Q (AgH H) f (ls.setIfInBounds i true) a' w'
      | .panic c=>D'=Dd∧∀ a',Rep N Dd σ' a'→Q (.panic c) a' w'
      | _=>False
     have h1:RW r md E.P N ops [o] Q1 Dd σ w:=q613 hE h0 hI hs h hg hd (kq:=fun e st' σ' w' H' ρ' L' hkp g2 g3 g4=>by
      cases e with
      | panic c=>exact⟨rfl,fun a' ha'=>kq c _ _ _ _ _ _ hkp g2 g3 g4 a' ha'⟩
      | _=>exact hkp.elim) fun st' σ' w' H' ρ' L' g1 g2 g3 g4=>RW.nil ⟨rfl,AgH.le g2 g4.mem.agree,fun a' ha'=>rest ha' g1 g2 g3 g4⟩
     have h2:=h1 a ha;unfold wpListIn at h2;unfold wpOpIn;rw [ho];simp only;rw [hwt,hg] at h2 ⊢;simp only [if_true] at h2 ⊢;refine Oper.wpIn_QK (fun a' w' hk=>?_) (fun e a' w' hne hk=>?_) h2
     ·obtain⟨D',σ',g1,g2,g3,g4⟩:=(show lift N Q1 .normal a' w' from hk)
      subst g2;exact⟨g3,g4 a' g1⟩
     ·obtain⟨D',σ',g1,g2⟩:=hk
      cases e with
      | normal=>exact absurd rfl hne
      | panic c=>
       obtain⟨g3,g4⟩:=g2;subst g3;exact g4 a' g1
      | _=>exact g2.elim
   have gok:∀ {j want d} {x:Bool},o.guard=some (j,want)→(ops[j]?).bind (·.dst)=some d→σ d = .bool x→gdOk ops σ o.guard=(x == want):=fun h1 h2 h3=>by
    unfold gdOk;rw [h1];simp only [h2,h3]
   unfold gdE at h;cases hgd:o.guard with
   | none=>
    simp only [hgd] at h;exact step hs (by rw [hgd];rfl) h
   | some jw=>
    obtain⟨j,want⟩:=jw;simp only [hgd] at h;cases hj:(ops[j]?).bind (·.dst) with
    | none=>
     simp only [hj] at h;refine pass hs ?_ h;unfold gdOk;rw [hgd];simp only [hj]
    | some d=>
     simp only [hj] at h;cases hsl:(getS st.sl d).map (res st.kn) with
     | none=>simp only [hsl] at h
     | some s=>
      obtain⟨v0,hv0,hv1⟩:=Option.map_eq_some_iff.1 hsl;have hv2:=hs.res (hs.sl _ _ hv0);rw [hv1] at hv2;simp only [hsl] at h
      have ask:∀ {v:SV D},Rv H ρ (σ d) v→askF v (cdP want (stepF E cI fr ((10+i)::pos) (fl.any (Nat.beq i)) o (st.know (.tmp d) true) (fun st'=>runFl E cI N fr pos ops fl g st' K kp) kp) (runFl E cI N fr pos ops fl g ((st.know (.tmp d) true).put o.dst (.c undef)) K kp))
        (cdP want (runFl E cI N fr pos ops fl g ((st.know (.tmp d) false).put o.dst (.c undef)) K kp) (stepF E cI fr ((10+i)::pos) (fl.any (Nat.beq i)) o (st.know (.tmp d) false) (fun st'=>runFl E cI N fr pos ops fl g st' K kp) kp))→(match fl.any (Nat.beq i) with
   | true=>q36 (FR r) md E.P ops Q (AgH H) (f+1) ls a w
   | false=>wpOpIn (FR r) md E.P ops Q i (fun a' w'=>AgH H w'∧q36 (FR r) md E.P ops Q (AgH H) f (ls.setIfInBounds i true) a' w') a w):=fun hv h=>by
       rcases q245 hv h with ⟨e,h⟩ | ⟨e,h⟩
       ·have hk:=hs.know (c:=.tmp d) (b:=true) e
        have hgg:=gok hgd hj e;cases want with
        | true=>exact step hk hgg h
        | false=>exact pass hk hgg h
       ·have hk:=hs.know (c:=.tmp d) (b:=false) e
        have hgg:=gok hgd hj e;cases want with
        | true=>exact pass hk hgg h
        | false=>exact step hk hgg h
      cases s with
      | k b=>
       simp only at h;have hgg:=gok hgd hj (show σ d = .bool b from hv2);cases hb:b == want with
       | true=>rw [hb] at h;exact step hs (hgg.trans hb) h
       | false=>rw [hb] at h;exact pass hs (hgg.trans hb) h
      | c v=>
       simp only at h;cases hb:q148 v with
       | true=>rw [hb] at h;exact h.elim
       | false=>
        rw [hb] at h;refine pass hs ?_ h;unfold gdOk;rw [hgd];simp only [hj,show σ d=v from hv2];cases v <;> first | rfl | cases hb
      | b x=>exact ask hv2 h
      | p p i=>exact ask hv2 h
      | _=>exact h.elim
def lsO:List Nat→Array Bool→Array Bool
 | [],ls=>ls
 | i::g,ls=>lsO g (ls.setIfInBounds i true)
theorem q329(hE:E.Ok)(h0:E.G H0){pos:List Nat}{r:Option Nat}{md N:Nat}{ops:Array Oper}{fl:List Nat}{Dd:List Deferred}{K:St D→Prop}{kp:Exit→St D→Prop}{Q:Exit→Act→World→Prop}(hQ:∀ (i:Nat) (o:Oper) (v:Value) c a w,ops[i]? = some o→Q (.panic c) (a.put o.dst v) w→Q (.panic c) a w)(hro:∀ (j:Nat) (o:Oper),ops[j]? = some o→∀ ρ,o.semAt (FR r).round ρ=execOp ρ o)(hsel:Region.noSelect ops=true){f:Nat}:∀ {g:List Nat} {ls:Array Bool} {st:St D} {H:Hp} {ρ:RM} {L:List Ent} {σ:Nat→Value} {w:World} {a:Act},
  q79 E.P cI w0 H0 H ρ→Rep N Dd σ a→Sat fr F w0 H0 R H ρ L st σ w→runFl E cI N fr pos ops fl g st K kp→flP ops fl g ls=true→(∀ st' σ' w' H' ρ' L' a',K st'→H.le H'→RM.le ρ ρ'→Sat fr F w0 H0 R H' ρ' L' st' σ' w'→Rep N Dd σ' a'→q36 (FR r) md E.P ops Q (AgH H') f (lsO g ls) a' w')→(∀ c,Goes fr F w0 H0 R H ρ (kp (.panic c)) fun σ' w'=>∀ a',Rep N Dd σ' a'→Q (.panic c) a' w')→q36 (FR r) md E.P ops Q (AgH H) (g.length+f) ls a w
 | [],ls,st,H,ρ,L,σ,w,a,_,ha,hs,h,_,k,_=>by
  rw [List.length_nil,Nat.zero_add];exact k _ _ _ _ _ _ _ h (Hp.le.refl _) (RM.le.refl _) hs ha
 | i::g,ls,st,H,ρ,L,σ,w,a,hI,ha,hs,h,hf,k,kq=>by
  unfold flP at hf;rw [Bool.and_eq_true,Bool.and_eq_true] at hf;obtain⟨⟨hr,hfr⟩,hf⟩:=hf;have h1:=q362 (md:=md) (Q:=Q) (f:=g.length+f) hE h0 hQ hro hsel hI ha hs h hr (fun hq=>by rw [hq,cond_true,Bool.and_eq_true] at hfr;exact hfr) (fun h1 h2 h3 h4 h5=>(q329 hE h0 hQ hro hsel (hI.mono h3 h4) h1 h5 h2 hf (fun st' σ' w' H' ρ' L' a' g1 g2 g3=>k _ _ _ _ _ _ _ g1 (h3.trans g2) (h4.trans g3)) fun c=>(kq c).mono h3 h4).mono fun w hw=>hw.le h3) kq;rw [show(i::g).length+f=g.length+f+1 by rw [List.length_cons];omega];cases hq:fl.any (Nat.beq i) with
  | true=>rw [hq] at h1;exact h1
  | false=>
   rw [hq] at h1;rw [hq,cond_false] at hfr;have e:Region.ready .any ops ls=[i]:=q618 hfr;refine⟨fun h=>(by rw [e] at h;cases h),fun j hj=>?_⟩;rw [e,List.mem_singleton] at hj;subst hj;exact h1
def fkB(ops:Array Oper)(fl:List Nat)(s1 s2:List Nat)(ls:Array Bool):Bool:=match s1,s2 with
 | i::g1,j::g2=>eqL (Region.ready .any ops ls) [i,j]&&(!(fl.any (Nat.beq i))&&(!(fl.any (Nat.beq j))&&(Nat.beq g1.length g2.length&&(flP ops fl g1 (ls.setIfInBounds i true)&&(flP ops fl g2 (ls.setIfInBounds j true)&&((Region.ready .any ops (lsO g1 (ls.setIfInBounds i true))).isEmpty&&(Region.ready .any ops (lsO g2 (ls.setIfInBounds j true))).isEmpty))))))
 | _,_=>false
theorem q846(hE:E.Ok)(h0:E.G H0){pos:List Nat}{r:Option Nat}{md N:Nat}{ops:Array Oper}{fl:List Nat}{Dd:List Deferred}{K:St D→Prop}{kp:Exit→St D→Prop}{Q:Exit→Act→World→Prop}(hQ:∀ (i:Nat) (o:Oper) (v:Value) c a w,ops[i]? = some o→Q (.panic c) (a.put o.dst v) w→Q (.panic c) a w)(hro:∀ (j:Nat) (o:Oper),ops[j]? = some o→∀ ρ,o.semAt (FR r).round ρ=execOp ρ o)(hsel:Region.noSelect ops=true){s1 s2:List Nat}{ls:Array Bool}{st:St D}{H:Hp}{ρ:RM}{L:List Ent}{σ:Nat→Value}{w:World}{a:Act}
  (hI:q79 E.P cI w0 H0 H ρ)(ha:Rep N Dd σ a)(hs:Sat fr F w0 H0 R H ρ L st σ w)(h:runFl E cI N fr pos ops fl s1 st K kp∧runFl E cI N fr pos ops fl s2 st K kp)(hf:fkB ops fl s1 s2 ls=true)(k:Goes fr F w0 H0 R H ρ K (fun σ' w'=>∀ a',Rep N Dd σ' a'→Q .normal a' w'))(kq:∀ c,Goes fr F w0 H0 R H ρ (kp (.panic c)) fun σ' w'=>∀ a',Rep N Dd σ' a'→Q (.panic c) a' w'):q36 (FR r) md E.P ops Q (AgH H) s1.length ls a w:=by
 unfold fkB at hf
 split at hf
 ·rename_i i g1 j g2
  simp only [Bool.and_eq_true,Bool.not_eq_true'] at hf;obtain⟨hr,hi,hj,hl,f1,f2,e1,e2⟩:=hf;have e:=q618 hr;have hl:=Nat.eq_of_beq_eq_true hl
  have one:∀ {q:Nat} {g:List Nat},runFl E cI N fr pos ops fl (q::g) st K kp→q∈Region.ready .any ops ls→fl.any (Nat.beq q)=false→flP ops fl g (ls.setIfInBounds q true)=true→(Region.ready .any ops (lsO g (ls.setIfInBounds q true))).isEmpty=true→wpOpIn (FR r) md E.P ops Q q (fun a' w'=>AgH H w'∧q36 (FR r) md E.P ops Q (AgH H) (g.length+0) (ls.setIfInBounds q true) a' w') a w:=fun {q g} h hq hn hf he=>by
   have h1:=q362 (md:=md) (Q:=Q) (f:=g.length+0) hE h0 hQ hro hsel hI ha hs h (by simpa using hq) (fun hq=>by rw [hn] at hq;cases hq) (fun h1 h2 h3 h4 h5=>(q329 (f:=0) hE h0 hQ hro hsel (hI.mono h3 h4) h1 h5 h2 hf (fun st' σ' w' H' ρ' L' a' g1 g2 g3 g4 g5=>⟨List.isEmpty_iff.1 he,k _ _ _ _ _ _ g1 (h3.trans g2) (h4.trans g3) g4 a' g5⟩) fun c=>(kq c).mono h3 h4).mono fun w hw=>hw.le h3) kq;rw [hn] at h1;exact h1
  refine⟨fun h=>(by rw [e] at h;cases h),fun q hq=>?_⟩;have hm:i∈Region.ready .any ops ls∧j∈Region.ready .any ops ls:=by rw [e];simp
  rw [e] at hq;rcases List.mem_cons.1 hq with rfl | hq
  ·exact one h.1 hm.1 hi f1 e1
  ·obtain rfl:=List.mem_singleton.1 hq
   have:=one h.2 hm.2 hj f2 e2;rw [← hl] at this;exact this
 ·cases hf
def andP:List Prop→Prop
 | []=>True
 | [p]=>p
 | p::q::r=>p∧andP (q::r)
theorem q748:∀ {l:List Prop},andP l→∀ p∈l,p
 | [_],h,_,hp=>by rw [List.mem_singleton.1 hp];exact h
 | _::_::_,⟨h1,h2⟩,p,hp=>by
  rcases List.mem_cons.1 hp with rfl | hp
  ·exact h1
  ·exact q748 h2 p hp
def flN(ops:Array Oper)(fl:List Nat)(ls:Array Bool)(i:Nat):Bool:=fl.any (Nat.beq i)&&((match ops[i]? with | some o=>q209 o | none=>false)&&Region.free .any ops ls i)
def runTr(E:Env D)(cI:CallX D)(N:Nat)(fr:List (Nat×Blk D))(pos:List Nat)(ops:Array Oper)(fl:List Nat):Nat→Array Bool→St D→(St D→Prop)→(Exit→St D→Prop)→Prop
 | 0,ls,st,K,_=>cdP (Region.ready .any ops ls).isEmpty (K st) False
 | f+1,ls,st,K,kp=>match (Region.ready .any ops ls).find? (flN ops fl ls) with
  | some i=>runFl E cI N fr pos ops fl [i] st (fun st'=>runTr E cI N fr pos ops fl f (ls.setIfInBounds i true) st' K kp) kp
  | none=>match Region.ready .any ops ls with
   | []=>False
   | rd=>cdP (rd.all fun i=>!(fl.any (Nat.beq i))) (andP (rd.map fun i=>runFl E cI N fr pos ops fl [i] st (fun st'=>runTr E cI N fr pos ops fl f (ls.setIfInBounds i true) st' K kp) kp)) False
theorem q621(hE:E.Ok)(h0:E.G H0){pos:List Nat}{r:Option Nat}{md N:Nat}{ops:Array Oper}{fl:List Nat}{Dd:List Deferred}{K:St D→Prop}{kp:Exit→St D→Prop}{Q:Exit→Act→World→Prop}(hQ:∀ (i:Nat) (o:Oper) (v:Value) c a w,ops[i]? = some o→Q (.panic c) (a.put o.dst v) w→Q (.panic c) a w)(hro:∀ (j:Nat) (o:Oper),ops[j]? = some o→∀ ρ,o.semAt (FR r).round ρ=execOp ρ o)(hsel:Region.noSelect ops=true):∀ {f:Nat} {ls:Array Bool} {st:St D} {H:Hp} {ρ:RM} {L:List Ent} {σ:Nat→Value} {w:World} {a:Act},
  q79 E.P cI w0 H0 H ρ→Rep N Dd σ a→Sat fr F w0 H0 R H ρ L st σ w→runTr E cI N fr pos ops fl f ls st K kp→(Goes fr F w0 H0 R H ρ K fun σ' w'=>∀ a',Rep N Dd σ' a'→Q .normal a' w')→(∀ c,Goes fr F w0 H0 R H ρ (kp (.panic c)) fun σ' w'=>∀ a',Rep N Dd σ' a'→Q (.panic c) a' w')→q36 (FR r) md E.P ops Q (AgH H) f ls a w
 | 0,ls,st,H,ρ,L,σ,w,a,_,ha,hs,h,k,_=>by
  obtain⟨h1,h2⟩:=cifP h;exact⟨List.isEmpty_iff.1 h1,k _ _ _ _ _ _ h2 (Hp.le.refl _) (RM.le.refl _) hs a ha⟩
 | f+1,ls,st,H,ρ,L,σ,w,a,hI,ha,hs,h,k,kq=>by
  have one:∀ i,runFl E cI N fr pos ops fl [i] st (fun st'=>runTr E cI N fr pos ops fl f (ls.setIfInBounds i true) st' K kp) kp→i∈Region.ready .any ops ls→(fl.any (Nat.beq i)=true→flN ops fl ls i=true)→match fl.any (Nat.beq i) with
   | true=>q36 (FR r) md E.P ops Q (AgH H) (f+1) ls a w
   | false=>wpOpIn (FR r) md E.P ops Q i (fun a' w'=>AgH H w'∧q36 (FR r) md E.P ops Q (AgH H) f (ls.setIfInBounds i true) a' w') a w:=fun i h hr hfl=>
   q362 (md:=md) (Q:=Q) (f:=f) hE h0 hQ hro hsel hI ha hs h (by simpa using hr) (fun hq=>by
    have:=hfl hq;unfold flN at this;rw [hq,Bool.true_and,Bool.and_eq_true] at this
    exact this) (fun h1 h2 h3 h4 h5=>(q621 hE h0 hQ hro hsel (hI.mono h3 h4) h1 h5 h2 (k.mono h3 h4) fun c=>(kq c).mono h3 h4).mono fun w hw=>hw.le h3) kq
  unfold runTr at h
  split at h
  ·rename_i i hi
   have h1:=List.find?_some hi;have h2:=List.mem_of_find?_eq_some hi;have h3:=one i h h2 fun _=>h1
   have h4:fl.any (Nat.beq i)=true:=by
    unfold flN at h1;rw [Bool.and_eq_true] at h1;exact h1.1
   rw [h4] at h3;exact h3
  ·split at h
   ·exact h.elim
   ·rename_i rd hne
    obtain⟨hn,h⟩:=cifP h;refine⟨fun e=>absurd e (by simpa using hne),fun i hi=>?_⟩;have h1:=List.all_eq_true.1 hn i hi;have h1:fl.any (Nat.beq i)=false:=by simpa using h1
    have h3:=one i (q748 h _ (List.mem_map.2 ⟨i,hi,rfl⟩)) hi fun hq=>by rw [h1] at hq;cases hq
    rw [h1] at h3;exact h3
def noDf(ops:Array Oper):Bool:=ops.toList.all fun o=>match o.op with
 | .defer _=>false
 | _=>true
theorem noDf_ok{ops:Array Oper}(h:noDf ops=true){r:Option Nat}(j:Nat)(o:Oper)(ho:ops[j]? = some o)(ρ:Operand→Value):o.semAt (FR r).round ρ=execOp ρ o:=by
 refine Oper.semAt_eq _ _ _ fun c hc=>?_;have h1:=List.all_eq_true.1 h o (List.mem_of_getElem? (by rw [Array.getElem?_toList];exact ho));rw [hc] at h1;cases h1
def trF(E:Env D)(cI:CallX D)(N:Nat)(fr:List (Nat×Blk D))(pos:List Nat)(ops:Array Oper)(fl:List Nat)(st:St D)(K:St D→Prop)(kp:Exit→St D→Prop):Prop:=
 cdP (Region.noSelect ops&&noDf ops) (runTr E cI N fr pos ops fl ops.size (Array.replicate ops.size false) st K fun e st'=>kp e ⟨cutS ops st'.sl,st'.bk,st'.kn,st'.nx⟩) False
theorem trF_ok(hE:E.Ok)(h0:E.G H0)(hI:q79 E.P cI w0 H0 H ρ){pos:List Nat}{r:Option Nat}{md N id:Nat}{ops:Array Oper}{fl:List Nat}{Dd:List Deferred}{K:St D→Prop}{kp:Exit→St D→Prop}{Q:Exit→List Deferred→(Nat→Value)→World→Prop}(hs:Sat fr F w0 H0 R H ρ L st σ w)(h:trF E cI N fr pos ops fl st K kp)
  (k:Goes fr F w0 H0 R H ρ K fun σ' w'=>Q .normal Dd σ' w')(kq:∀ e,Goes fr F w0 H0 R H ρ (kp e) fun σ' w'=>Q e Dd σ' w'):CW r md E.P N (.region id ops true) Q Dd σ w:=fun a ha=>by
 let Q1:Exit→Act→World→Prop:=fun e a w=>match e with
  | .normal=>lift N Q .normal a w
  | .panic c=>∀ a':Act,a'.defers=a.defers→a'.tmps.size=a.tmps.size→(∀ t,dstB ops t=false→a'.tmps.getD t undef=a.tmps.getD t undef)→lift N Q (.panic c) a' w
  | _=>False
 have hs':Sat fr F w0 H0 R H ρ L st σ { w with drawn:=w.drawn+1 }:=⟨hs.mem.drew,hs.sl,hs.bk,hs.fr,hs.kn,hs.nx⟩
 have hQ1:∀ (i:Nat) (o:Oper) (v:Value) c a w,ops[i]? = some o→Q1 (.panic c) (a.put o.dst v) w→Q1 (.panic c) a w:=fun i o v c a w hi hq a' q1 q2 q3=>hq a' (q1.trans (put_defers a o.dst v).symm) (q2.trans (q620 a o.dst v).symm) fun t ht=>(q3 t ht).trans (q746 a hi ht v).symm;have kn:Goes fr F w0 H0 R H ρ K (fun σ' w'=>∀ a',Rep N Dd σ' a'→Q1 .normal a' w'):=fun st' σ' w' H' ρ' L' g1 g2 g3 g4 a' ha'=>⟨Dd,σ',ha',k _ _ _ _ _ _ g1 g2 g3 g4⟩
 have kp1:∀ c,Goes fr F w0 H0 R H ρ (fun st'=>kp (.panic c) ⟨cutS ops st'.sl,st'.bk,st'.kn,st'.nx⟩) fun σ' w'=>∀ a',Rep N Dd σ' a'→Q1 (.panic c) a' w':=fun c st' σ' w' H' ρ' L' g1 g2 g3 g4 a' ha'=>by
  intro a'' q1 q2 q3;refine⟨Dd,fun t=>a''.tmps.getD t undef,⟨q1.trans ha'.1,q2.trans ha'.2.1,fun _=>rfl⟩,kq _ _ _ _ _ _ _ g1 g2 g3 ⟨g4.mem,fun t v hv=>?_,g4.bk,g4.fr,g4.kn,g4.nx⟩⟩;obtain⟨⟨u,e1,e2⟩,e3⟩:=q453 hv;have:=g4.sl t u e1;rw [e2 e3] at this;show Rv H' ρ' (a''.tmps.getD t undef) v;rw [q3 t e3,ha'.2.2 t];exact this
 have h1:q36 (FR r) md E.P ops Q1 (AgH H) ops.size (Array.replicate ops.size false) a { w with drawn:=w.drawn+1 }:=by
  unfold trF at h;obtain⟨hc,h⟩:=cifP h;rw [Bool.and_eq_true] at hc;exact q621 (Q:=Q1) (md:=md) (Dd:=Dd) hE h0 hQ1 (noDf_ok hc.2) hc.1 hI ha hs' h kn kp1
 refine wpIn_mono (wpIn_region_any hE.mo h1.any) fun e a' w' hq=>?_;cases e with
 | normal=>exact hq
 | panic c=>exact hq a' rfl rfl fun _ _=>rfl
 | _=>exact hq.elim
def flF(E:Env D)(cI:CallX D)(N:Nat)(fr:List (Nat×Blk D))(pos:List Nat)(ops:Array Oper)(fl:List Nat)(m:Nat)(g:List Nat)(st:St D)(K:St D→Prop)(kp:Exit→St D→Prop):Prop:=
 match m with
 | 0=>cdP (Region.noSelect ops&&(Nat.beq g.length ops.size&&(flP ops fl g (Array.replicate ops.size false)&&(Region.ready .any ops (lsO g (Array.replicate ops.size false))).isEmpty))) (runFl E cI N fr pos ops fl g st K fun e st'=>kp e ⟨cutS ops st'.sl,st'.bk,st'.kn,st'.nx⟩) False
 | m+1=>cdP (Region.noSelect ops&&(Nat.beq ((g.take m).length+((g.drop m).take (ops.size-m)).length) ops.size&&(flP ops fl (g.take m) (Array.replicate ops.size false)&&fkB ops fl ((g.drop m).take (ops.size-m)) ((g.drop m).drop (ops.size-m)) (lsO (g.take m) (Array.replicate ops.size false)))))
   (runFl E cI N fr pos ops fl (g.take m) st (fun st'=>runFl E cI N fr pos ops fl ((g.drop m).take (ops.size-m)) st' K (fun e st'=>kp e ⟨cutS ops st'.sl,st'.bk,st'.kn,st'.nx⟩)∧runFl E cI N fr pos ops fl ((g.drop m).drop (ops.size-m)) st' K fun e st'=>kp e ⟨cutS ops st'.sl,st'.bk,st'.kn,st'.nx⟩) fun e st'=>kp e ⟨cutS ops st'.sl,st'.bk,st'.kn,st'.nx⟩) False
theorem flF_ok(hE:E.Ok)(h0:E.G H0)(hI:q79 E.P cI w0 H0 H ρ){pos:List Nat}{md N id:Nat}{ops:Array Oper}{fl:List Nat}{m:Nat}{g:List Nat}{Dd:List Deferred}{K:St D→Prop}{kp:Exit→St D→Prop}{Q:Exit→List Deferred→(Nat→Value)→World→Prop}(hs:Sat fr F w0 H0 R H ρ L st σ w)(h:flF E cI N fr pos ops fl m g st K kp)
  (k:Goes fr F w0 H0 R H ρ K fun σ' w'=>Q .normal Dd σ' w')(kq:∀ e,Goes fr F w0 H0 R H ρ (kp e) fun σ' w'=>Q e Dd σ' w'):CW none md E.P N (.region id ops true) Q Dd σ w:=fun a ha=>by
 let Q1:Exit→Act→World→Prop:=fun e a w=>match e with
  | .normal=>lift N Q .normal a w
  | .panic c=>∀ a':Act,a'.defers=a.defers→a'.tmps.size=a.tmps.size→(∀ t,dstB ops t=false→a'.tmps.getD t undef=a.tmps.getD t undef)→lift N Q (.panic c) a' w
  | _=>False
 have hs':Sat fr F w0 H0 R H ρ L st σ { w with drawn:=w.drawn+1 }:=⟨hs.mem.drew,hs.sl,hs.bk,hs.fr,hs.kn,hs.nx⟩
 have hQ1:∀ (i:Nat) (o:Oper) (v:Value) c a w,ops[i]? = some o→Q1 (.panic c) (a.put o.dst v) w→Q1 (.panic c) a w:=fun i o v c a w hi hq a' q1 q2 q3=>hq a' (q1.trans (put_defers a o.dst v).symm) (q2.trans (q620 a o.dst v).symm) fun t ht=>(q3 t ht).trans (q746 a hi ht v).symm;have kn:Goes fr F w0 H0 R H ρ K (fun σ' w'=>∀ a',Rep N Dd σ' a'→Q1 .normal a' w'):=fun st' σ' w' H' ρ' L' g1 g2 g3 g4 a' ha'=>⟨Dd,σ',ha',k _ _ _ _ _ _ g1 g2 g3 g4⟩
 have kp1:∀ c,Goes fr F w0 H0 R H ρ (fun st'=>kp (.panic c) ⟨cutS ops st'.sl,st'.bk,st'.kn,st'.nx⟩) fun σ' w'=>∀ a',Rep N Dd σ' a'→Q1 (.panic c) a' w':=fun c st' σ' w' H' ρ' L' g1 g2 g3 g4 a' ha'=>by
  intro a'' q1 q2 q3;refine⟨Dd,fun t=>a''.tmps.getD t undef,⟨q1.trans ha'.1,q2.trans ha'.2.1,fun _=>rfl⟩,kq _ _ _ _ _ _ _ g1 g2 g3 ⟨g4.mem,fun t v hv=>?_,g4.bk,g4.fr,g4.kn,g4.nx⟩⟩;obtain⟨⟨u,e1,e2⟩,e3⟩:=q453 hv;have:=g4.sl t u e1;rw [e2 e3] at this;show Rv H' ρ' (a''.tmps.getD t undef) v;rw [q3 t e3,ha'.2.2 t];exact this
 have h1:q36 (FR none) md E.P ops Q1 (AgH H) ops.size (Array.replicate ops.size false) a { w with drawn:=w.drawn+1 }:=by
  unfold flF at h
  split at h
  ·obtain⟨hc,h⟩:=cifP h
   simp only [Bool.and_eq_true] at hc;obtain⟨hc1,hc2,hc3,hc4⟩:=hc;have:=q329 (Q:=Q1) (md:=md) (Dd:=Dd) (f:=0) hE h0 hQ1 (fun _ o _ ρ=>Oper.semAt_none ρ o) hc1 hI ha hs' h hc3 (fun st' σ' w' H' ρ' L' a' g1 g2 g3 g4 g5=>⟨List.isEmpty_iff.1 hc4,kn _ _ _ _ _ _ g1 g2 g3 g4 a' g5⟩) kp1;rw [Nat.add_zero,Nat.eq_of_beq_eq_true hc2] at this;exact this
  ·rename_i m
   obtain⟨hc,h⟩:=cifP h;simp only [Bool.and_eq_true] at hc;obtain⟨hc1,hc2,hc3,hc4⟩:=hc;have:=q329 (Q:=Q1) (md:=md) (Dd:=Dd) (f:=((g.drop m).take (ops.size-m)).length) hE h0 hQ1 (fun _ o _ ρ=>Oper.semAt_none ρ o) hc1 hI ha hs' h hc3 (fun st' σ' w' H' ρ' L' a' g1 g2 g3 g4 g5=>q846 (Q:=Q1) (md:=md) (Dd:=Dd) hE h0 hQ1 (fun _ o _ ρ=>Oper.semAt_none ρ o) hc1 (hI.mono g2 g3) g5 g4 g1 hc4 (kn.mono g2 g3) fun c=>(kp1 c).mono g2 g3) kp1;rw [Nat.eq_of_beq_eq_true hc2] at this;exact this
 refine wpIn_mono (wpIn_region_any hE.mo h1.any) fun e a' w' hq=>?_;cases e with
 | normal=>exact hq
 | panic c=>exact hq a' rfl rfl fun _ _=>rfl
 | _=>exact hq.elim
end
end
section
section
variable {r : Option Nat} {m : Nat} {P : Program} {N : Nat} {Q : Exit → List Deferred → (Nat → Value) → World → Prop} {D : List Deferred} {σ : Nat → Value} {w : World}
theorem CW.loopD{c:Code}{β:Type}(Inv:β→List Deferred→(Nat→Value)→World→Prop)(μ:β→Nat)(b:β)(h0:Inv b D σ w)
  (hr:∀ b D σ w,Inv b D σ w→CW r m P N c (thenQ (fun D' σ' w'=>∃ b',Inv b' D' σ' w'∧μ b'<μ b) Q) D σ w):CW r m P N (.loop c) Q D σ w:=by
 intro a ha
 have hmin:∀ (a:Act) (w:World),(∃ b D σ,Rep N D σ a∧Inv b D σ w)→∃ k,(∃ b D σ,Rep N D σ a∧Inv b D σ w∧μ b=k)∧∀ j,(∃ b D σ,Rep N D σ a∧Inv b D σ w∧μ b=j)→k≤j:=by
  intro a w ⟨b,D,σ,h1,h2⟩;exact q578 (fun k=>∃ b D σ,Rep N D σ a∧Inv b D σ w∧μ b=k) (μ b) ⟨b,D,σ,h1,h2,rfl⟩
 let M:Act→World→Nat:=fun a w=>by
  classical
  exact if h:∃ b D σ,Rep N D σ a∧Inv b D σ w then Classical.choose (hmin a w h) else 0
 have hM:∀ a w (h:∃ b D σ,Rep N D σ a∧Inv b D σ w),(∃ b D σ,Rep N D σ a∧Inv b D σ w∧μ b=M a w)∧∀ j,(∃ b D σ,Rep N D σ a∧Inv b D σ w∧μ b=j)→M a w≤j:=by
  intro a w h;have:=Classical.choose_spec (hmin a w h);have e:M a w=Classical.choose (hmin a w h):=dif_pos h;rw [e];exact this
 refine wpIn_loop (fun a w=>∃ b D σ,Rep N D σ a∧Inv b D σ w) M ⟨b,D,σ,ha,h0⟩ ?_;intro a w hI;obtain⟨b,D,σ,h1,h2,h3⟩:=(hM a w hI).1;refine wpIn_mono (hr b D σ w h2 a h1) ?_
 rintro e a' w' ⟨D',σ',h4,h5⟩
 cases e with
 | normal=>
  obtain⟨b',h6,h7⟩:=h5;have hI':∃ b D σ,Rep N D σ a'∧Inv b D σ w':=⟨b',D',σ',h4,h6⟩
  refine⟨hI',Nat.lt_of_le_of_lt ((hM a' w' hI').2 _ ⟨b',D',σ',h4,h6,rfl⟩) ?_⟩;rw [← h3];exact h7
 | _=>exact⟨D',σ',h4,h5⟩
end
def mkD(ms:List Nat):List Deferred:=ms.map mark
def mkO(ms:List Nat):List Ent:=ms.map fun b=>.obj b ddO
def Join{S:Type}(b:S→Prop)(r:(S→Prop)→Prop):Prop:=r b
section
variable {D : Nat → Type} [∀ t, Dt (D t)] {H : Hp} {ρ : RM}
def PksR(P:Program):List Nat→List Value→List (List Value)→Prop
 | [],vs,cs=>vs=[]∧cs=[]
 | t::r,vs,cs=>∃ v q c d,vs=v::q∧cs=c::d∧PkR P t v c∧PksR P r q d
def RvLL(H:Hp)(ρ:RM):List (List Value)→List (List (SV D))→Prop
 | us,[]=>us=[]
 | us,l::m=>∃ u r,us=u::r∧RvL H ρ u l∧RvLL H ρ r m
theorem q246{P:Program}:∀ {ts:List Nat} {vs:List (SV D)} {xs:List Value} {ls:List (List (SV D))},RvL H ρ xs vs→argsC P ts vs=some ls→∃ cs,PksR P ts xs cs∧RvLL H ρ cs ls
 | [],[],xs,ls,hv,h=>by cases h;exact⟨[],⟨hv,rfl⟩,rfl⟩
 | [],_::_,_,_,_,h=>by cases h
 | _::_,[],_,_,_,h=>by cases h
 | t::r,v::vs,xs,ls,⟨y,q,e,h1,h2⟩,h=>by
  rw [argsC] at h;cases hl:argC P t v with
  | none=>simp only [hl] at h;cases h
  | some l=>
   cases hm:argsC P r vs with
   | none=>simp only [hl,hm] at h;cases h
   | some m=>
    simp only [hl,hm] at h;cases h;obtain⟨c,g1,g2⟩:=q544 h1 hl;obtain⟨d,g3,g4⟩:=q246 h2 hm;exact⟨c::d,⟨y,q,c,d,e,rfl,g1,g3⟩,c,d,rfl,g2,g4⟩
theorem q228{P:Program}:∀ {ts:List Nat} {ls:List (List (SV D))} {vs:List (SV D)} {xs:List Value} {cs:List (List Value)},PksR P ts xs cs→RvLL H ρ cs ls→packs P ts ls=some vs→RvL H ρ xs vs
 | [],[],vs,xs,cs,⟨h1,_⟩,_,h=>by cases h;exact h1
 | [],_::_,_,_,_,_,_,h=>by cases h
 | _::_,[],_,_,_,_,_,h=>by cases h
 | t::r,l::m,vs,xs,cs,⟨v,q,c,d,e1,e2,h1,h2⟩,⟨u,s,e3,h3,h4⟩,h=>by
  subst e2;cases e3;rw [packs] at h;cases ha:packT P t l with
  | none=>simp only [ha] at h;cases h
  | some a=>
   cases hb:packs P r m with
   | none=>simp only [ha,hb] at h;cases h
   | some b=>
    simp only [ha,hb] at h;cases h;exact⟨v,q,e1,q593 h1 h3 ha,q228 h2 h4 hb⟩
theorem q170{P:Program}{tb:Tb D}(htb:TbOk tb):∀ {ts:List Nat} {x:TupD D ts} {xs:List Value} {ls:List (List (SV D))},ArgsR P H ts x xs→tupC tb ts x=some ls→∃ cs,PksR P ts xs cs∧RvLL H ρ cs ls
 | [],x,xs,ls,h,hl=>by cases hl;exact⟨[],⟨h,rfl⟩,rfl⟩
 | t::r,x,xs,ls,⟨v,cs,q,e,h1,h2,h3⟩,hl=>by
  rw [tupC] at hl;cases ha:toC tb t x.1 with
  | none=>simp only [ha] at hl;cases hl
  | some a=>
   cases hb:tupC tb r x.2 with
   | none=>simp only [ha,hb] at hl;cases hl
   | some b=>
    simp only [ha,hb] at hl;cases hl;obtain⟨d,g1,g2⟩:=q170 htb h3 hb;exact⟨cs::d,⟨v,q,cs,d,e,rfl,h1,g1⟩,cs,d,rfl,q105 htb ha h2,g2⟩
theorem q502{P:Program}:∀ {ts:List Nat} {x:TupD D ts} {xs:List Value},ArgsR P H ts x xs→xs.length=ts.length
 | [],_,_,h=>by rw [show _=([]:List Value) from h];rfl
 | _::r,_,_,⟨v,cs,q,e,_,_,h⟩=>by rw [e,List.length_cons,q502 h,List.length_cons]
def parS:List Nat→List (SV D)→List (Nat×SV D)→List (Nat×SV D)
 | p::ps,v::vs,l=>parS ps vs (setS l p v)
 | _,_,l=>l
theorem q556:∀ {ps:List Nat} {vs:List (SV D)} {xs:List Value} {l:List (Nat×SV D)} {σ:Nat→Value},SlR H ρ l σ→RvL H ρ xs vs→SlR H ρ (parS ps vs l) (slp ps xs σ)
 | [],_,_,_,_,h,_=>by simpa [parS,slp] using h
 | _::_,[],xs,_,_,h,hv=>by
  rw [show xs=([]:List Value) from hv];simpa [parS,slp] using h
 | p::ps,v::vs,_,l,σ,h,⟨x,q,e,h1,h2⟩=>by
  subst e;exact q556 (ps:=ps) (h.put h1 (some p)) h2
variable {fr : List (Nat × Blk D)} {F : List Ent} {w0 w : World} {H0 : Hp} {R L : List Ent} {st : St D} {σ : Nat → Value}
theorem q330(hs:Sat fr F w0 H0 R H ρ L st σ w):∀ {l:List (SV D)} {vs:List Value},RvL H ρ vs l→RvL H ρ vs (l.map fun v=>rsD (st.lk fr) (resD st.kn v))
 | [],_,h=>h
 | _::_,_,⟨v,r,h1,h2,h3⟩=>⟨v,r,h1,q493 hs (q290 hs h2),q330 hs h3⟩
def capE(tb:Tb D)(st:St D)(fr:List (Nat×Blk D))(t:Nat)(v:SV D):Option (D t):=match v with
 | .ptr id 0=>match st.lk fr id with
  | some (.fbx T us)=>bif Nat.beq T t then ofC tb t (us.map fun v=>rsD (st.lk fr) (resD st.kn v)) else none
  | _=>none
 | _=>none
def capsE(tb:Tb D)(st:St D)(fr:List (Nat×Blk D)):(cs:List Nat)→List (SV D)→Option (TupD D cs)
 | [],[]=>some ()
 | [],_::_=>none
 | _::_,[]=>none
 | t::r,v::q=>match capE tb st fr t v,capsE tb st fr r q with
  | some x,some y=>some (x,y)
  | _,_=>none
theorem capE_ok{tb:Tb D}(htb:TbOk tb)(hs:Sat fr F w0 H0 R H ρ L st σ w){t:Nat}{v:SV D}{y:Value}{x:D t}(hv:Rv H ρ y v)(h:capE tb st fr t v=some x):∃ b us,y = .pointer (some ⟨b,0,none⟩)∧H b=some (.cells (us:List Value).toArray t (0,0))∧Dt.rd (α:=D t) H us x:=by
 unfold capE at h
 split at h
 ·rename_i id
  split at h
  ·rename_i T us hl
   have hT:=cif h;clear h;obtain⟨hT,h⟩:=hT;obtain rfl:=Nat.eq_of_beq_eq_true hT;obtain⟨L1,S,L2,⟨_,c,vs,g1,g2,g3⟩,_⟩:=hs.read hl;obtain⟨c',g4,g5⟩:=hv;rw [g1] at g4;cases g4;exact⟨c,vs,g5,g2,q106 htb h (q330 hs g3)⟩
  ·cases h
 ·cases h
theorem q622{tb:Tb D}(htb:TbOk tb)(hs:Sat fr F w0 H0 R H ρ L st σ w):∀ {cs:List Nat} {l:List (SV D)} {lb:List Value} {x:TupD D cs},RvL H ρ lb l→capsE tb st fr cs l=some x→CapsR H cs x lb
 | [],[],_,_,hv,_=>hv
 | [],_::_,_,_,_,h=>by cases h
 | _::_,[],_,_,_,h=>by cases h
 | t::r,v::q,lb,x,⟨y,p,e,h1,h2⟩,h=>by
  rw [capsE] at h;cases ha:capE tb st fr t v with
  | none=>simp only [ha] at h;cases h
  | some a=>
   cases hb:capsE tb st fr r q with
   | none=>simp only [ha,hb] at h;cases h
   | some b=>
    simp only [ha,hb] at h;cases h;obtain⟨c,us,g1,g2,g3⟩:=capE_ok htb hs h1 ha;exact⟨c,us,p,by rw [e,g1],g2,g3,q622 htb hs h2 hb⟩
end
section
variable {D : Nat → Type} [∀ t, Dt (D t)]
def partB(ids:List Nat):List (Nat×Blk D)→List (Nat×Blk D)×List (Nat×Blk D)
 | []=>([],[])
 | q::r=>match partB ids r with
  | (a,b)=>bif ids.any (Nat.beq q.1) then(q::a,b) else(a,q::b)
theorem q623{ids:List Nat}{H:Hp}{ρ:RM}:∀ {bk a b:List (Nat×Blk D)} {L:List Ent},BkR H ρ bk L→partB ids bk=(a,b)→∃ La Lb,L.Perm (Lb++La)∧BkR H ρ a La∧BkR H ρ b Lb
 | [],a,b,L,h,hp=>by
  cases hp;exact⟨[],[],by rw [show L=[] from h];exact List.Perm.refl _,rfl,rfl⟩
 | (id,q)::r,a,b,L,⟨S,L',h1,h2,h3⟩,hp=>by
  rcases hr:partB ids r with ⟨a',b'⟩
  obtain⟨La,Lb,g1,g2,g3⟩:=q623 h3 hr;unfold partB at hp;rw [hr] at hp;cases hb:ids.any (Nat.beq id) with
  | true=>
   simp only [hb,cond_true] at hp;cases hp;refine⟨S++La,Lb, ?_,⟨S,La,rfl,h2,g2⟩,g3⟩;rw [h1];refine(List.Perm.append_left S g1).trans ?_;rw [← List.append_assoc,← List.append_assoc];exact List.Perm.append_right La List.perm_append_comm
  | false=>
   simp only [hb,cond_false] at hp;cases hp;refine⟨La,S++Lb, ?_,g2,S,Lb,rfl,h2,g3⟩;rw [h1,List.append_assoc];exact List.Perm.append_left S g1
def findP(pos:List Nat):List PE→Option PE
 | []=>none
 | p::r=>bif eqL p.pos pos then some p else findP pos r
def unrN(pos:List Nat)(l:List PE):Nat:=match findP (8::pos) l with
 | some pe=>match pe.tp.rw with
  | [n]=>n
  | _=>0
 | none=>0
def q624{S:Type}(f:S→(S→Prop)→Prop):Nat→S→Prop
 | 0,_=>False
 | n+1,st=>f st (q624 f n)
def findL(pos:List Nat)(ok:PE→Bool):List PE→Option PE
 | []=>none
 | p::r=>bif eqL p.pos pos then(match findP pos r with
  | none=>some p
  | some _=>bif ok p then some p else findL pos ok r) else findL pos ok r
def findJ(pos:List Nat)(ok:PE→Bool):List PE→Option PE
 | []=>none
 | p::r=>bif eqL p.pos pos&&ok p then some p else findJ pos ok r
def okJ(st:St D)(pe:PE):Bool:=bif pe.sure then true else match (st.frzL pe.fz).tag with
 | ⟨sl,bk,_,_⟩=>(pe.kp.all fun i=>(gtB bk i).isSome)&&pe.tp.sl.all fun p=>match p.2 with
  | .kp n=>match getS sl p.1 with
   | some (.kp m)=>Nat.beq m n
   | _=>false
  | _=>true
def findD(pos:List Nat)(st:St D)(l:List PE):Option PE:=match findJ pos (fun pe=>pe.kp.all fun i=>(gtB st.bk i).isSome) l with
 | some pe=>some pe
 | none=>findP pos l
def q210(pe:PE)(st:St D):List (Nat×Blk D)×St D:=match (st.frzL pe.fz).tag with
 | ⟨sl,bk,kn,nx⟩=>match partB pe.kp bk with
  | (k,v)=>(k,⟨sl,v,kn,nx⟩)
def fillE(tp:Tp)(nx:Nat)(st:St D)(fr:List (Nat×Blk D)):Option (TupV D tp.vts):=match insT tp nx st fr with
 | some cs=>tyL tp.vts cs
 | none=>none
def makeE(tp:Tp)(nx:Nat)(kn:List (Nat×SV D))(s:TupV D tp.vts):Option (St D):=mkT tp nx kn (cvL tp.vts s)
def St.back(st:St D)(kept:List (Nat×Blk D)):St D:=⟨st.sl,st.bk++kept,st.kn,st.nx⟩
def fitE(st:St D)(fr:List (Nat×Blk D))(pe:PE):Bool:=match q210 pe st with
 | (kept,st1)=>(fillE pe.tp st1.nx st1 (kept++fr)).isSome
def St.withSl(st:St D)(l:List (Nat×SV D)):St D:=⟨l,st.bk,st.kn,st.nx⟩
mutual
def giveV(rv:SV D→SV D):TV→SV D→List Nat
 | .v _,v=>match rv v with
  | .own id=>[id]
  | _=>[]
 | .agg l,v=>match rv v with
  | .agg us=>q749 rv l us
  | _=>[]
 | .kp _,_=>[]
 | .own _,_=>[]
 | .fn _ _,_=>[]
 | .mpv _,_=>[]
 | .pv _ _,_=>[]
def q749(rv:SV D→SV D):List TV→List (SV D)→List Nat
 | [],_=>[]
 | _::_,[]=>[]
 | t::l,v::r=>giveV rv t v++q749 rv l r
end
def giveS(rv:SV D→SV D)(sl:List (Nat×SV D)):List (Nat×TV)→List Nat
 | []=>[]
 | p::l=>(match getS sl p.1 with
  | some v=>giveV rv p.2 v
  | none=>[])++giveS rv sl l
def giveB(rv:SV D→SV D)(bk:List (Nat×Blk D)):List (Nat×Nat×List TV)→List Nat
 | []=>[]
 | p::l=>(match gtB bk p.1 with
  | some (.box _ cs)=>q749 rv p.2.2 cs
  | _=>[])++giveB rv bk l
def giveT(tp:Tp)(st:St D)(fr:List (Nat×Blk D)):List Nat:=giveS (fun v=>rsV (st.lk fr) (res st.kn v)) st.sl tp.sl++giveB (fun v=>rsV (st.lk fr) (res st.kn v)) st.bk tp.bx
def runC(E:Env D)(cI:CallX D)(N:Nat)(rd:Bool):Code→List Nat→List (Nat×Blk D)→St D→(Exit→St D→Prop)→Prop
 | .skip,_,_,st,K=>K .normal st
 | .ret,_,_,st,K=>K .ret st
 | .exit id,_,_,st,K=>K (.exit id) st
 | .region _ ops false,pos,fr,st,K=>runR E cI N fr pos ops 0 ops.toList st (K .normal) K
 | .region _ ops true,pos,fr,st,K=>preR (q360 (8::pos) E.sp) st fun st=>match findD pos st E.plan with
  | none=>drawF E N fr ops st (K .normal)
  | some pe=>match q210 pe st with
   | (kept,st1)=>match pe.tp.rw with
    | []=>drawF E N (kept++fr) ops st1 fun st'=>K .normal (st'.back kept)
    | [c]=>cdP (tailB ops c) (drawF E N (kept++fr) (ops.extract 0 c) st1 fun st'=>runR E cI N (kept++fr) pos ops c (ops.toList.drop c) st' (fun st''=>K .normal (st''.back kept)) fun e st''=>K e (st''.back kept)) False
    | 1000::_::[]=>trF E cI N (kept++fr) pos ops (pe.tp.sl.map Prod.fst) st1 (fun st'=>K .normal (st'.back kept)) fun e st'=>K e (st'.back kept)
    | m::_::g=>match rd with
     | true=>False
     | false=>flF E cI N (kept++fr) pos ops (pe.tp.sl.map Prod.fst) m g st1 (fun st'=>K .normal (st'.back kept)) fun e st'=>K e (st'.back kept)
 | .cond c a b,pos,fr,st,K=>match (evO st.sl c).map (res st.kn) with
  | some (.k true)=>runC E cI N rd a (2::pos) fr st K
  | some (.k false)=>runC E cI N rd b (3::pos) fr st K
  | some s=>askF s (runC E cI N rd a (2::pos) fr (st.know c true) K) (runC E cI N rd b (3::pos) fr (st.know c false) K)
  | none=>False
 | .block id c,pos,fr,st,K=>runC E cI N rd c (4::pos) fr st fun e st'=>match e with
  | .exit id'=>cdP (Nat.beq id' id) (K .normal st') (K (.exit id') st')
  | e=>K e st'
 | .seq a b,pos,fr,st,K=>match findJ pos (okJ st) E.plan with
  | none=>runC E cI N rd a (0::pos) fr st fun e st'=>match e with
   | .normal=>runC E cI N rd b (1::pos) fr st' K
   | e=>K e st'
  | some pe=>match q210 pe st with
   | (kept,st1)=>Join (fun s=>match makeE pe.tp (st1.nx+pe.up) st1.kn s with
    | some st2=>runC E cI N rd b (1::pos) fr (st2.back kept) K
    | none=>False) fun J=>runC E cI N rd a (0::pos) (kept++fr) st1 fun e st'=>match e with
    | .normal=>match fillE pe.tp (st1.nx+pe.up) (st'.frzL (giveT pe.tp st' (kept++fr))) (kept++fr) with
     | some s=>J s
     | none=>False
    | e=>K e (st'.back kept)
 | .loop c,pos,fr,st,K=>match unrN pos E.plan with
  | n+1=>q624 (fun st rec=>runC E cI N rd c (5::pos) fr st fun e st'=>match e with
   | .normal=>rec st'
   | e=>K e st') (n+1) st
  | 0=>match findL pos (fitE st fr) E.plan with
   | none=>False
   | some pe=>match q210 pe st with
    | (kept,st1)=>match fillE pe.tp st1.nx st1 (kept++fr) with
     | some s0=>LoopW (fun s rec=>match makeE pe.tp st1.nx st1.kn s with
      | some st2=>runC E cI N rd c (5::pos) (kept++fr) st2 fun e st'=>match e with
       | .normal=>match fillE pe.tp st1.nx (st'.frzL (giveT pe.tp st' (kept++fr))) (kept++fr) with
        | some s'=>rec s'
        | none=>False
       | e=>K e (st'.back kept)
      | none=>False) s0
     | none=>False
 | .rangeFunc g ps assign body,pos,fr,st,K=>match rd with
  | true=>False
  | false=>match (evO st.sl g).map (res st.kn) with
   | some (.fn gf caps)=>match findI gf E.its with
    | none=>cdP (entB E.P gf&&(ps.toList.all fun p=>Nat.blt p N)) (cI.it (fun n vs st2 fr2 pos2 K2=>cdP (Nat.beq n st.nx)
      (match remB st2.bk (st.nx+1) with
       | some (.jmp none,bk)=>cdP (Nat.beq vs.length ps.size) (runC E cI N true assign (6::pos2) fr2 ⟨parS ps.toList vs st.sl,bk,st2.kn,st2.nx⟩ fun e st3=>match e with
        | .normal=>runC E cI N true body (7::pos2) fr2 st3 fun e st4=>match e with
         | .normal=>K2 (.k true) ⟨[],(st.nx+1,.jmp none)::st4.bk,st4.kn,st4.nx⟩
         | .ret=>K2 (.k false) ⟨[],(st.nx+1,.jmp (some .ret))::st4.bk,st4.kn,st4.nx⟩
         | .exit id=>K2 (.k false) ⟨[],(st.nx+1,.jmp (some (.exit id)))::st4.bk,st4.kn,st4.nx⟩
         | _=>False
        | _=>False) False
       | _=>False)
      (cI.yl n vs st2 fr2 pos2 K2)) gf (.kp st.nx::caps) ⟨[],(st.nx+1,.jmp none)::st.bk,st.kn,st.nx+2⟩ fr (9::pos) fun st2=>match remB st2.bk (st.nx+1) with
       | some (.jmp none,bk)=>K .normal ⟨st.sl,bk,st2.kn,st2.nx⟩
       | some (.jmp (some .ret),bk)=>K .ret ⟨st.sl,bk,st2.kn,st2.nx⟩
       | some (.jmp (some (.exit id)),bk)=>K (.exit id) ⟨st.sl,bk,st2.kn,st2.nx⟩
       | _=>False) False
    | some it=>match findL pos (fitE st fr) E.plan with
     | some pe=>cdP (entB E.P gf&&((ps.toList.all fun p=>Nat.blt p N)&&Nat.beq ps.size it.ts.length)) (match q210 pe st with
      | (kept,st1)=>match capsE E.tb st1 (kept++fr) it.cs caps with
       | some cx=>match fillE pe.tp st1.nx st1 (kept++fr) with
        | some s0=>∃ l,it.W cx l∧LoopW (fun(q:List (TupD D it.ts)×TupV D pe.tp.vts) rec=>match makeE pe.tp st1.nx st1.kn q.2 with
         | some st2=>match q.1 with
          | []=>K .normal ((st2.withSl st1.sl).back kept)
          | x::r=>match tupC E.tb it.ts x with
           | some ls=>match packs E.P it.ts ls with
            | some vs=>runC E cI N true assign (6::pos) (kept++fr) (st2.withSl (parS ps.toList vs st1.sl)) fun e st3=>match e with
             | .normal=>runC E cI N true body (7::pos) (kept++fr) st3 fun e st4=>match e with
              | .normal=>match fillE pe.tp st1.nx st4 (kept++fr) with
               | some s'=>rec (r,s')
               | none=>False
              | .ret=>K .ret ((st4.withSl st1.sl).back kept)
              | .exit id=>K (.exit id) ((st4.withSl st1.sl).back kept)
              | _=>False
             | _=>False
            | none=>False
           | none=>False
         | none=>False) (l,s0)
        | none=>False
       | none=>False) False
     | none=>False
   | _=>False
 | .goto l,_,_,st,K=>K (.goto l) st
 | .label _,_,_,st,K=>K .normal st
 | _,_,_,_,_=>False
variable {E : Env D} {cI : CallX D} {fr : List (Nat × Blk D)} {F : List Ent} {w0 w : World} {H0 H : Hp} {R : List Ent} {ρ : RM} {L : List Ent} {st : St D} {σ : Nat → Value}
theorem q265{pe:PE}{kept:List (Nat×Blk D)}{st1:St D}(hs:Sat fr F w0 H0 R H ρ L st σ w)(h:q210 pe st=(kept,st1)):∃ H1 ρ1 Lk Lv,H.le H1∧RM.le ρ ρ1∧BkR H1 ρ1 kept Lk∧BkR H1 ρ1 fr F∧Sat (kept++fr) (Lk++F) w0 H0 R H1 ρ1 Lv st1 σ w:=by
 obtain⟨H1,L1,h1,hs1⟩:=hs.frzL pe.fz;obtain⟨ρ1,h2,hs2⟩:=hs1.tag;unfold q210 at h;generalize (st.frzL pe.fz).tag=st2 at h hs2;obtain⟨sl,bk,kn,nx⟩:=st2;rcases hp:partB pe.kp bk with ⟨k,v⟩
 simp only [hp] at h;cases h;obtain⟨La,Lb,g1,g2,g3⟩:=q623 hs2.bk hp;refine⟨H1,ρ1,La,Lb,h1,h2,g2,hs2.fr, ?_,hs2.sl,g3,g2.append hs2.fr,hs2.kn,hs2.nx⟩;refine hs2.mem.perm ?_;have:=g1.append_right (F++R);rwa [List.append_assoc,← List.append_assoc La] at this
theorem Sat.back{kept:List (Nat×Blk D)}{Lk:List Ent}(hs:Sat (kept++fr) (Lk++F) w0 H0 R H ρ L st σ w)(hk:BkR H ρ kept Lk)(hf:BkR H ρ fr F):Sat fr F w0 H0 R H ρ (L++Lk) (st.back kept) σ w:=
 ⟨by have:=hs.mem;rwa [List.append_assoc Lk,← List.append_assoc] at this,hs.sl,hs.bk.append hk,hf,hs.kn,hs.nx⟩
theorem q750{ρ1 ρ ρ':RM}{nx:Nat}(h1:∀ id,nx≤id→ρ1 id=none)(h2:RM.le ρ1 ρ)(h3:∀ n,n<nx→ρ' n=ρ n):RM.le ρ1 ρ':=fun id q hq=>by
 have:id<nx:=by
  rcases Nat.lt_or_ge id nx with h | h
  ·exact h
  ·rw [h1 id h] at hq;cases hq
 rw [h3 id this];exact h2 id q hq
theorem q171{tp:Tp}{nx:Nat}{kn:List (Nat×SV D)}{s:TupV D tp.vts}{H1:Hp}{ρ1:RM}(h1:∀ id,nx≤id→ρ1 id=none)(hH:H1.le H)(hρ:RM.le ρ1 ρ)(hkn:KnR H1 ρ1 kn)(hfr:BkR H1 ρ1 fr F)(hs:Sat fr F w0 H0 R H ρ L st σ w)(h:fillE tp nx st fr=some s):∃ ρ' L' st',makeE tp nx kn s=some st'∧RM.le ρ1 ρ'∧Sat fr F w0 H0 R H ρ' L' st' σ w:=by
 unfold fillE at h
 split at h
 ·rename_i cs hcs
  obtain⟨ρ',L',st',h2,h3,h4⟩:=insT_ok (kn:=kn) hs (fun ρ' hl=>hkn.mono hH (q750 h1 hρ hl)) (fun ρ' hl=>hfr.mono hH (q750 h1 hρ hl)) hcs;refine⟨ρ',L',st', ?_,q750 h1 hρ h3,h4⟩;unfold makeE;rw [tyL_ok h];exact h2
 ·cases h
def GoesM(rd:Bool)(ms:List Nat)(fr:List (Nat×Blk D))(F:List Ent)(w0:World)(H0:Hp)(R:List Ent)(H:Hp)(ρ:RM)(K:St D→Prop)(T:List Nat→(Nat→Value)→World→Prop):Prop:=∀ ms' st' σ' w' H' ρ' L',K st'→(rd=true→ms'=ms)→H.le H'→RM.le ρ ρ'→Sat fr F w0 H0 (mkO ms'++R) H' ρ' L' st' σ' w'→T ms' σ' w'
theorem GoesM.mono{rd:Bool}{ms ms1:List Nat}{H':Hp}{ρ':RM}{K:St D→Prop}{T:List Nat→(Nat→Value)→World→Prop}(h:GoesM rd ms fr F w0 H0 R H ρ K T)(hm:rd=true→ms1=ms)(hH:H.le H')(hρ:RM.le ρ ρ'):GoesM rd ms1 fr F w0 H0 R H' ρ' K T:=fun ms' st σ w H2 ρ2 L hk hm' h1 h2 hs=>h ms' st σ w H2 ρ2 L hk (fun e=>(hm' e).trans (hm e)) (hH.trans h1) (hρ.trans h2) hs
theorem GoesM.go{rd:Bool}{ms:List Nat}{K:St D→Prop}{T:List Nat→(Nat→Value)→World→Prop}(h:GoesM rd ms fr F w0 H0 R H ρ K T)(hk:K st)(hs:Sat fr F w0 H0 (mkO ms++R) H ρ L st σ w):T ms σ w:=h _ _ _ _ _ _ _ hk (fun _=>rfl) (Hp.le.refl _) (RM.le.refl _) hs
theorem GoesM.goes{rd:Bool}{ms:List Nat}{K:St D→Prop}{T:List Nat→(Nat→Value)→World→Prop}(h:GoesM rd ms fr F w0 H0 R H ρ K T):Goes fr F w0 H0 (mkO ms++R) H ρ K (T ms):=fun st σ w H2 ρ2 L hk h1 h2 hs=>h ms st σ w H2 ρ2 L hk (fun _=>rfl) h1 h2 hs
theorem Sat.reR{R':List Ent}{w':World}(hs:Sat fr F w0 H0 R H ρ L st σ w)(h:Mem w0 H0 w' H (L++(F++R'))):Sat fr F w0 H0 R' H ρ L st σ w':=⟨h,hs.sl,hs.bk,hs.fr,hs.kn,hs.nx⟩
theorem q625(A B C:List Ent)(x:Ent)(R:List Ent):(A++(B++(C++R))++[x]).Perm (A++(B++(x::C++R))):=by
 rw [List.append_assoc,List.append_assoc];refine List.Perm.append_left A (List.Perm.append_left B ?_);exact List.perm_append_comm
def RndOk(E:Env D)(cI:CallX D)(N:Nat)(w0:World)(H0:Hp)(c:Code):Prop:=∀ (R:List Ent) (pos:List Nat) (fr:List (Nat×Blk D)) (F:List Ent) (H:Hp) (ρ:RM) (L:List Ent) (st:St D) (σ:Nat→Value) (w:World) (K:Exit→St D→Prop) (Q:Exit→List Deferred→(Nat→Value)→World→Prop) (r:Option Nat),
 q79 E.P cI w0 H0 H ρ→Sat fr F w0 H0 R H ρ L st σ w→runC E cI N true c pos fr st K→(∀ e,Goes fr F w0 H0 R H ρ (K e) fun σ' w'=>Q e [] σ' w')→CW r 0 E.P N c Q [] σ w
theorem q247(A F R:List Ent)(x:Ent):(x::(A++(F++R))).Perm (A++(F++(x::R))):=by
 rw [← List.append_assoc,← List.append_assoc];exact List.perm_middle.symm
theorem q751{N:Nat}{g:Operand}{ps:Array Tmp}{assign body:Code}{gf:Nat}{caps:List (SV D)}{ms:List Nat}{B:List Deferred}{R:List Ent}{pos:List Nat}{K:Exit→St D→Prop}{Q:Exit→List Deferred→(Nat→Value)→World→Prop}(hI:q79 E.P cI w0 H0 H ρ)(hs:Sat fr F w0 H0 (mkO ms++R) H ρ L st σ w)(hg:(evO st.sl g).map (res st.kn)=some (.fn gf caps))
  (h:cdP (entB E.P gf&&(ps.toList.all fun p=>Nat.blt p N)) (cI.it (fun n vs st2 fr2 pos2 K2=>cdP (Nat.beq n st.nx)
      (match remB st2.bk (st.nx+1) with
       | some (.jmp none,bk)=>cdP (Nat.beq vs.length ps.size) (runC E cI N true assign (6::pos2) fr2 ⟨parS ps.toList vs st.sl,bk,st2.kn,st2.nx⟩ fun e st3=>match e with
        | .normal=>runC E cI N true body (7::pos2) fr2 st3 fun e st4=>match e with
         | .normal=>K2 (.k true) ⟨[],(st.nx+1,.jmp none)::st4.bk,st4.kn,st4.nx⟩
         | .ret=>K2 (.k false) ⟨[],(st.nx+1,.jmp (some .ret))::st4.bk,st4.kn,st4.nx⟩
         | .exit id=>K2 (.k false) ⟨[],(st.nx+1,.jmp (some (.exit id)))::st4.bk,st4.kn,st4.nx⟩
         | _=>False
        | _=>False) False
       | _=>False)
      (cI.yl n vs st2 fr2 pos2 K2)) gf (.kp st.nx::caps) ⟨[],(st.nx+1,.jmp none)::st.bk,st.kn,st.nx+2⟩ fr (9::pos) fun st2=>match remB st2.bk (st.nx+1) with
       | some (.jmp none,bk)=>K .normal ⟨st.sl,bk,st2.kn,st2.nx⟩
       | some (.jmp (some .ret),bk)=>K .ret ⟨st.sl,bk,st2.kn,st2.nx⟩
       | some (.jmp (some (.exit id)),bk)=>K (.exit id) ⟨st.sl,bk,st2.kn,st2.nx⟩
       | _=>False) False)
  (hk:∀ e,GoesM false ms fr F w0 H0 R H ρ (K e) fun ms' σ' w'=>Q e (mkD ms'++B) σ' w')(hA:RndOk E cI N w0 H0 assign)(hB:RndOk E cI N w0 H0 body):CW none 0 E.P N (.rangeFunc g ps assign body) Q (mkD ms++B) σ w:=by
 obtain⟨hb,h⟩:=cifP h;rw [Bool.and_eq_true] at hb;obtain⟨hen,hpN⟩:=hb;obtain⟨v0,hv0,hv1⟩:=Option.map_eq_some_iff.1 hg;have hv2:=hs.res (q35 hs.sl hv0);rw [hv1] at hv2;obtain⟨lb,e1,e2⟩:=hv2;refine CW.rangeN (L:=L++(F++(mkO ms++R))) hs.mem e1 (q206 hen) fun l0 lp D0 W1 hl0 hM1=>?_;obtain⟨f1,f2⟩:=q108 hs.nx (.v (.func (.yield lp) #[] #[]));obtain⟨f3,f4⟩:=q108 f2 (.l lp l0);have hn:((ρ.put st.nx (.v (.func (.yield lp) #[] #[]))).put (st.nx+1) (.l lp l0)) st.nx=some (.v (.func (.yield lp) #[] #[])):=f3 _ _ (RM.put_same _ _ _);have hn1:((ρ.put st.nx (.v (.func (.yield lp) #[] #[]))).put (st.nx+1) (.l lp l0)) (st.nx+1)=some (.l lp l0):=RM.put_same _ _ _;generalize (ρ.put st.nx (.v (.func (.yield lp) #[] #[]))).put (st.nx+1) (.l lp l0)=ρ2 at f3 f4 hn hn1;have hρ:RM.le ρ ρ2:=f1.trans f3
 have hs2:Sat fr F w0 H0 (mkO (D0::ms)++R) H ρ2 (.obj lp (.loop (jmpO l0 none))::L) (⟨[],(st.nx+1,.jmp none)::st.bk,st.kn,st.nx+2⟩:St D) (fun _=>undef) W1:=
  ⟨hM1.perm ((q247 L F (mkO ms++R) (.obj D0 ddO)).cons _),(fun t v hv=>nomatch hv),⟨[.obj lp (.loop (jmpO l0 none))],L,rfl,⟨lp,l0,hn1,rfl⟩,hs.bk.mono (Hp.le.refl _) hρ⟩,hs.fr.mono (Hp.le.refl _) hρ,hs.kn.mono (Hp.le.refl _) hρ,f4⟩
 have hv:RvL H ρ2 (Value.func (.yield lp) #[] #[]::lb) (.kp st.nx::caps):=⟨_,lb,rfl,hn,RvL.mono (Hp.le.refl _) hρ _ e2⟩
 refine((hI.it _ gf _ _ fr _ _ F _ H ρ2 _ _ W1 _ h (Hp.le.refl _) hρ ?_ hs2 hv).2).mono fun e B' ⟨v,he,st',hk',H',ρ',L',h1,h2,h3⟩=>⟨v,he, ?_⟩
 ·
  intro n' vs st2 fr2 pos2 K2 F2 R2 H2 ρ3 L2 σ2 W xs x hyl hH2 hρ3 hs3 hxs hx;cases hbq:Nat.beq n' st.nx with
  | false=>
   rw [hbq,q358] at hyl;exact hI.yl n' vs st2 fr2 pos2 K2 F2 R2 H2 ρ3 L2 σ2 W xs x hyl hH2 (hρ.trans hρ3) hs3 hxs hx
  | true=>
   rw [hbq,q833] at hyl;obtain rfl:=Nat.eq_of_beq_eq_true hbq;rw [hρ3 _ _ hn] at hx;cases hx
   split at hyl
   ·rename_i bk hr
    obtain⟨hlen,hyl⟩:=cifP hyl;obtain⟨S1,L1,g1,⟨b,l1,g2,rfl⟩,g5⟩:=hs3.bk.rem hr;rw [hρ3 _ _ hn1] at g2;cases g2;have hM:Mem w0 H0 W H2 (.obj lp (.loop l0)::(L1++(F2++R2))):=hs3.mem.perm (g1.append_right _);refine⟨lp,rfl,q549 hl0 hpN (by rw [RvL.length hxs];exact Nat.eq_of_beq_eq_true hlen) hM ?_⟩
    have hA1:=hA (.obj lp (.loop l0)::R2) _ fr2 F2 H2 ρ3 L1 ⟨parS ps.toList vs st.sl,bk,st2.kn,st2.nx⟩ (slp ps.toList xs σ) W _ (thenQ (rmidQ E.P N body w0 H0 lp l0 fun v w'=>∃ s st',K2 s st'∧Out fr2 F2 w0 H0 R2 H2 ρ3 (fun _=>undef) ⟨[],st'.bk,st'.kn,st'.nx⟩ s v w') fun _ _ _ _=>False) (some lp) (hI.mono hH2 (hρ.trans hρ3))
     ⟨hM.perm (q247 _ _ _ _),q556 (hs.sl.mono hH2 (hρ.trans hρ3)) hxs,g5,hs3.fr,hs3.kn,hs3.nx⟩ hyl
    refine hA1 fun e=>?_;intro st3 σ3 W3 H3 ρ4 L3 k1 k2 k3 k4;cases e with
    | normal=>
     refine⟨rfl,H3,L3++(F2++R2),k4.mem.perm (q247 _ _ _ _).symm,fun W4 hW4=>?_⟩;refine hB (.obj lp (.loop { l0 with state:=.busy })::R2) _ fr2 F2 H3 ρ4 L3 st3 σ3 W4 _ _ (some lp) (hI.mono (hH2.trans k2) ((hρ.trans hρ3).trans k3)) (k4.reR (hW4.perm (q247 _ _ _ _))) k1 fun e=>?_;intro st5 σ5 W5 H5 ρ5 L5 m1 m2 m3 m4;have hM5:Mem w0 H0 W5 H5 (.obj lp (.loop { l0 with state:=.busy })::(L5++(F2++R2))):=m4.mem.perm (q247 _ _ _ _).symm
     have out:∀ (j:Option Exit) {W6:World},Mem w0 H0 W6 H5 (.obj lp (.loop (jmpO l0 j))::(L5++(F2++R2)))→∀ (s:SV D) (v:Value),Rv H5 ρ5 v s→Out fr2 F2 w0 H0 R2 H2 ρ3 (fun _=>undef) (⟨[],(st.nx+1,.jmp j)::st5.bk,st5.kn,st5.nx⟩:St D) s v W6:=fun j W6 hW6 s v hv=>
      ⟨H5,ρ5,.obj lp (.loop (jmpO l0 j))::L5,k2.trans m2,k3.trans m3,⟨hW6,(fun t v hv=>nomatch hv),⟨[.obj lp (.loop (jmpO l0 j))],L5,rfl,⟨lp,l0,(k3.trans m3) _ _ (hρ3 _ _ hn1),rfl⟩,m4.bk⟩,m4.fr,m4.kn,m4.nx⟩,hv⟩
     cases e with
     | normal=>exact⟨rfl,H5,_,hM5,fun W6 hW6=>⟨_,_,m1,out none hW6 _ _ rfl⟩⟩
     | ret=>exact⟨rfl,H5,_,hM5,fun W6 hW6=>⟨_,_,m1,out (some .ret) hW6 _ _ rfl⟩⟩
     | exit id=>exact⟨rfl,H5,_,hM5,fun W6 hW6=>⟨_,_,m1,out (some (.exit id)) hW6 _ _ rfl⟩⟩
     | _=>exact m1.elim
    | _=>exact k1.elim
   ·exact hyl.elim
 ·
  have fin:∀ {j:Option Exit} {bk:List (Nat×Blk D)},remB st'.bk (st.nx+1)=some (.jmp j,bk)→∃ L1,Mem w0 H0 B' H' (.obj lp (.loop (jmpO l0 j))::.obj D0 ddO::(L1++(F++(mkO ms++R))))∧∀ W2,Mem w0 H0 W2 H' (.obj D0 ddO::(L1++(F++(mkO ms++R))))→Sat fr F w0 H0 (mkO (D0::ms)++R) H' ρ' L1 (⟨st.sl,bk,st'.kn,st'.nx⟩:St D) σ W2:=fun {j bk} hr=>by
   obtain⟨S1,L1,g1,⟨b,l1,g2,rfl⟩,g5⟩:=h3.bk.rem hr;rw [h2 _ _ hn1] at g2;cases g2;refine⟨L1, ?_,fun W2 hW2=>⟨hW2.perm (q247 L1 F (mkO ms++R) (.obj D0 ddO)),hs.sl.mono h1 (hρ.trans h2),g5,h3.fr,h3.kn,h3.nx⟩⟩;have hM:Mem w0 H0 B' H' (.obj lp (.loop (jmpO l0 j))::(L1++(F++(.obj D0 ddO::(mkO ms++R))))):=h3.mem.perm (g1.append_right _);exact hM.perm ((q247 L1 F (mkO ms++R) (.obj D0 ddO)).symm.cons _)
  have hle:=hρ.trans h2
  split at hk'
  ·rename_i bk hr
   obtain⟨L1,i1,i2⟩:=fin hr;exact⟨none,H',_,i1,fun W2 hW2=>hk .normal (D0::ms) _ σ W2 H' ρ' L1 hk' (fun h=>by cases h) h1 hle (i2 W2 hW2)⟩
  ·rename_i bk hr
   obtain⟨L1,i1,i2⟩:=fin hr;exact⟨some .ret,H',_,i1,fun W2 hW2=>⟨_,rfl,CW.ret (hk .ret (D0::ms) _ σ W2 H' ρ' L1 hk' (fun h=>by cases h) h1 hle (i2 W2 hW2))⟩⟩
  ·rename_i id bk hr
   obtain⟨L1,i1,i2⟩:=fin hr;exact⟨some (.exit id),H',_,i1,fun W2 hW2=>⟨_,rfl,CW.exit (hk (.exit id) (D0::ms) _ σ W2 H' ρ' L1 hk' (fun h=>by cases h) h1 hle (i2 W2 hW2))⟩⟩
  ·exact hk'.elim
theorem q363(hE:E.Ok)(h0:E.G H0){N:Nat}:∀ (c:Code) {rd:Bool} {ms:List Nat} {B:List Deferred} {R:List Ent} {pos:List Nat} {fr:List (Nat×Blk D)} {F:List Ent} {H:Hp} {ρ:RM} {L:List Ent} {st:St D} {σ:Nat→Value} {w:World} {K:Exit→St D→Prop} {Q:Exit→List Deferred→(Nat→Value)→World→Prop} {r:Option Nat} {md:Nat},
  q79 E.P cI w0 H0 H ρ→(rd=false→r=none∧md=0)→Sat fr F w0 H0 (mkO ms++R) H ρ L st σ w→runC E cI N rd c pos fr st K→(∀ e,GoesM rd ms fr F w0 H0 R H ρ (K e) fun ms' σ' w'=>Q e (mkD ms'++B) σ' w')→CW r md E.P N c Q (mkD ms++B) σ w:=by
 intro c
 induction c with
 | skip=>intro rd ms B R pos fr F H ρ L st σ w K Q r md hI hr hs h hk;exact CW.skip ((hk _).go h hs)
 | ret=>intro rd ms B R pos fr F H ρ L st σ w K Q r md hI hr hs h hk;exact CW.ret ((hk _).go h hs)
 | exit id=>intro rd ms B R pos fr F H ρ L st σ w K Q r md hI hr hs h hk;exact CW.exit ((hk _).go h hs)
 | region id ops draw=>
  intro rd ms B R pos fr F H ρ L st σ w K Q r md hI hr hs h hk;cases draw with
  | false=>
   obtain⟨l⟩:=ops;exact CW.region (q551 hE h0 hI hs h (hk .normal).goes fun e=>(hk e).goes)
  | true=>
   unfold runC at h;obtain⟨st0,hs,h⟩:=preR_ok hs h
   split at h
   ·exact q617 hE hE.mo h0 hs h (hk .normal).goes
   ·rename_i pe hpe
    rcases hsp:q210 pe st0 with ⟨kept,st1⟩
    simp only [hsp] at h;obtain⟨H1,ρ1,Lk,Lv,g1,g2,g3,g4,g5⟩:=q265 hs hsp;have finE:∀ e,Goes (kept++fr) (Lk++F) w0 H0 (mkO ms++R) H1 ρ1 (fun st'=>K e (st'.back kept)) fun σ' w'=>Q e (mkD ms++B) σ' w':=fun e st' σ' w' H' ρ' L' hk' h1 h2 hs'=>(hk e).goes _ _ _ _ _ _ hk' (g1.trans h1) (g2.trans h2) (hs'.back (g3.mono h1 h2) (g4.mono h1 h2));have fin:=finE .normal
    split at h
    ·exact q617 hE hE.mo h0 g5 h fin
    ·rename_i c _
     obtain⟨ht,h⟩:=cifP h;exact q845 hE hE.mo h0 g5 ht h fun st' σ' w' H' ρ' L' hk' h1 h2 hs'=>q551 hE h0 (hI.mono (g1.trans h1) (g2.trans h2)) hs' hk' (fin.mono h1 h2) fun e=>(finE e).mono h1 h2
    ·exact trF_ok hE h0 (hI.mono g1 g2) g5 h fin finE
    ·cases rd with
     | true=>exact h.elim
     | false=>
      obtain⟨rfl,rfl⟩:=hr rfl;exact flF_ok hE h0 (hI.mono g1 g2) g5 h fin finE
 | cond c a b iha ihb=>
  intro rd ms B R pos fr F H ρ L st σ w K Q r md hI hr hs h hk;unfold runC at h;cases hc:(evO st.sl c).map (res st.kn) with
  | none=>simp only [hc] at h
  | some s=>
   obtain⟨v0,hv0,hv1⟩:=Option.map_eq_some_iff.1 hc;have hv2:=hs.res (q35 hs.sl hv0);rw [hv1] at hv2;simp only [hc] at h
   have ask:askF s (runC E cI N rd a (2::pos) fr (st.know c true) K) (runC E cI N rd b (3::pos) fr (st.know c false) K)→CW r md E.P N (.cond c a b) Q (mkD ms++B) σ w:=fun h=>by
    rcases q245 hv2 h with ⟨e,h⟩ | ⟨e,h⟩
    ·exact CW.cond_true e (iha hI hr (hs.know e) h hk)
    ·exact CW.cond_false e (ihb hI hr (hs.know e) h hk)
   cases s with
   | k x=>
    cases x with
    | true=>exact CW.cond_true hv2 (iha hI hr hs h hk)
    | false=>exact CW.cond_false hv2 (ihb hI hr hs h hk)
   | _=>exact ask h
 | block id c ih=>
  intro rd ms B R pos fr F H ρ L st σ w K Q r md hI hr hs h hk;refine CW.block (ih hI hr hs h fun e=>?_);intro ms' st' σ' w' H' ρ' L' h1 hm h2 h3 h4;cases e with
  | exit id'=>
   show bif Nat.beq id' id then Q .normal _ σ' w' else Q (.exit id') _ σ' w';have h1:cdP (Nat.beq id' id) (K .normal st') (K (.exit id') st'):=h1;cases hb:Nat.beq id' id with
   | true=>rw [hb] at h1;exact hk _ _ _ _ _ _ _ _ h1 hm h2 h3 h4
   | false=>rw [hb] at h1;exact hk _ _ _ _ _ _ _ _ h1 hm h2 h3 h4
  | _=>exact hk _ _ _ _ _ _ _ _ h1 hm h2 h3 h4
 | seq a b iha ihb=>
  intro rd ms B R pos fr F H ρ L st σ w K Q r md hI hr hs h hk;unfold runC at h
  split at h
  ·refine CW.seq (iha hI hr hs h fun e=>?_)
   intro ms' st' σ' w' H' ρ' L' h1 hm h2 h3 h4;cases e with
   | normal=>exact ihb (hI.mono h2 h3) hr h4 h1 fun e=>(hk e).mono hm h2 h3
   | _=>exact hk _ _ _ _ _ _ _ _ h1 hm h2 h3 h4
  ·rename_i pe hpe
   rcases hsp:q210 pe st with ⟨kept,st1⟩
   simp only [hsp,Join] at h;obtain⟨H1,ρ1,Lk,Lv,g1,g2,g3,g4,g5⟩:=q265 hs hsp;refine CW.seq (iha (hI.mono g1 g2) hr g5 h fun e=>?_);intro ms' st' σ' w' H' ρ' L' h1 hm h2 h3 h4;cases e with
   | normal=>
    show CW r md E.P N b Q _ σ' w';simp only at h1
    split at h1
    ·rename_i s hfill
     obtain⟨H5,L5,hle5,h5⟩:=h4.frzL (giveT pe.tp st' (kept++fr));have h2':=h2.trans hle5;obtain⟨ρ2,L2,st2,e1,e2,e3⟩:=q171 (kn:=st1.kn) (fun id hid=>g5.nx id (Nat.le_trans (Nat.le_add_right _ _) hid)) h2' h3 g5.kn g5.fr h5 hfill;simp only [e1] at h1;exact ihb (hI.mono (g1.trans h2') (g2.trans e2)) hr (e3.back (g3.mono h2' e2) (g4.mono h2' e2)) h1 fun e=>(hk e).mono hm (g1.trans h2') (g2.trans e2)
    ·exact h1.elim
   | _=>exact hk _ _ _ _ _ _ _ _ h1 hm (g1.trans h2) (g2.trans h3) (h4.back (g3.mono h2 h3) (g4.mono h2 h3))
 | loop c ih=>
  intro rd ms B R pos fr F H ρ L st σ w K Q r md hI hr hs h hk;unfold runC at h
  split at h
  ·rename_i n hn
   clear hn;generalize hstep:(fun(st:St D) (rec:St D→Prop)=>_)=step at h;refine CW.loopD (β:=Nat) (fun n D σ w=>∃ ms' H' ρ' L' st',D=mkD ms'++B∧(rd=true→ms'=ms)∧H.le H'∧RM.le ρ ρ'∧Sat fr F w0 H0 (mkO ms'++R) H' ρ' L' st' σ w∧q624 step n st') (fun n=>n) (n+1) ⟨ms,H,ρ,L,st,rfl,fun _=>rfl,Hp.le.refl _,RM.le.refl _,hs,h⟩ ?_
   rintro n D' σ w ⟨ms',H',ρ',L',st',rfl,hm',f1,f2,f4,f5⟩
   cases n with
   | zero=>exact f5.elim
   | succ n=>
    have f5:step st' (q624 step n):=f5;rw [← hstep] at f5;refine ih (hI.mono f1 f2) hr f4 f5 fun e=>?_;intro ms3 st3 σ3 w3 H3 ρ3 L3 h1 hm3 h2 h3 h4;cases e with
    | normal=>
     simp only at h1;exact⟨n,⟨ms3,H3,ρ3,L3,st3,rfl,fun e=>(hm3 e).trans (hm' e),f1.trans h2,f2.trans h3,h4,by rw [hstep] at h1;exact h1⟩,Nat.lt_succ_self _⟩
    | _=>exact hk _ _ _ _ _ _ _ _ h1 (fun e=>(hm3 e).trans (hm' e)) (f1.trans h2) (f2.trans h3) h4
  ·split at h
   ·exact h.elim
   ·rename_i pe hpe
    rcases hsp:q210 pe st with ⟨kept,st1⟩
    simp only [hsp] at h;obtain⟨H1,ρ1,Lk,Lv,g1,g2,g3,g4,g5⟩:=q265 hs hsp
    split at h
    ·rename_i s0 hs0
     obtain⟨m,hm⟩:=h;generalize hstep:(fun(s:TupV D pe.tp.vts) (rec:TupV D pe.tp.vts→Prop)=>_)=step at hm;obtain⟨ρ2,L2,st2,e1,e2,e3⟩:=q171 (kn:=st1.kn) g5.nx (Hp.le.refl _) (RM.le.refl _) g5.kn g5.fr g5 hs0;refine CW.loopD (β:=Nat) (fun n D σ w=>∃ ms' s H' ρ' L' st',D=mkD ms'++B∧(rd=true→ms'=ms)∧H1.le H'∧RM.le ρ1 ρ'∧makeE pe.tp st1.nx st1.kn s=some st'∧Sat (kept++fr) (Lk++F) w0 H0 (mkO ms'++R) H' ρ' L' st' σ w∧LoopN step n s) (fun n=>n) m ⟨ms,s0,H1,ρ2,L2,st2,rfl,fun _=>rfl,Hp.le.refl _,e2,e1,e3,hm⟩ ?_
     rintro n D' σ w ⟨ms',s,H',ρ',L',st',rfl,hm',f1,f2,f3,f4,f5⟩
     cases n with
     | zero=>exact f5.elim
     | succ n=>
      have f5:step s (LoopN step n):=f5;rw [← hstep] at f5;simp only [f3] at f5;refine ih (hI.mono (g1.trans f1) (g2.trans f2)) hr f4 f5 fun e=>?_;intro ms3 st3 σ3 w3 H3 ρ3 L3 h1 hm3 h2 h3 h4;cases e with
      | normal=>
       simp only at h1
       split at h1
       ·rename_i s' hfill
        obtain⟨H5,L5,hle5,h5⟩:=h4.frzL (giveT pe.tp st3 (kept++fr));obtain⟨ρ4,L4,st4,i1,i2,i3⟩:=q171 (kn:=st1.kn) g5.nx ((f1.trans h2).trans hle5) (f2.trans h3) g5.kn g5.fr h5 hfill;exact⟨n,⟨ms3,s',H5,ρ4,L4,st4,rfl,fun e=>(hm3 e).trans (hm' e),(f1.trans h2).trans hle5,i2,i1,i3,by rw [hstep] at h1;exact h1⟩,Nat.lt_succ_self _⟩
       ·exact h1.elim
      | _=>exact hk _ _ _ _ _ _ _ _ h1 (fun e=>(hm3 e).trans (hm' e)) ((g1.trans f1).trans h2) ((g2.trans f2).trans h3) (h4.back (g3.mono (f1.trans h2) (f2.trans h3)) (g4.mono (f1.trans h2) (f2.trans h3)))
    ·exact h.elim
 | rangeFunc g ps assign body iha ihb=>
  intro rd ms B R pos fr F H ρ L st σ w K Q r md hI hr hs h hk;unfold runC at h;cases rd with
  | true=>exact h.elim
  | false=>
   obtain⟨rfl,rfl⟩:=hr rfl;simp only at h
   split at h
   ·rename_i gf caps hg
    split at h
    ·exact q751 hI hs hg h hk
      (fun R pos fr F H ρ L st σ w K Q r hI' hs' h' hk'=>iha (rd:=true) (ms:=[]) (B:=[]) hI' (fun h=>by cases h) hs' h' fun e ms' st' σ' w' H' ρ' L' k1 k2 k3 k4 k5=>by
       obtain rfl:=k2 rfl
       exact hk' e st' σ' w' H' ρ' L' k1 k3 k4 k5)
      (fun R pos fr F H ρ L st σ w K Q r hI' hs' h' hk'=>ihb (rd:=true) (ms:=[]) (B:=[]) hI' (fun h=>by cases h) hs' h' fun e ms' st' σ' w' H' ρ' L' k1 k2 k3 k4 k5=>by
       obtain rfl:=k2 rfl
       exact hk' e st' σ' w' H' ρ' L' k1 k3 k4 k5)
    ·rename_i it hit
     split at h
     ·rename_i pe hpe
      have hq:=cifP h;clear h;obtain⟨hb,h⟩:=hq;simp only [Bool.and_eq_true] at hb;obtain⟨hen,hpN,hps⟩:=hb;rcases hsp:q210 pe st with ⟨kept,st1⟩
      simp only [hsp] at h;obtain⟨H1,ρ1,Lk,Lv,g1,g2,g3,g4,g5⟩:=q265 hs hsp
      split at h
      ·rename_i cx hcx
       split at h
       ·rename_i s0 hs0
        obtain⟨hok,hf⟩:=q607 hE.its hit;subst hf;obtain⟨v0,hv0,hv1⟩:=Option.map_eq_some_iff.1 hg;have hv2:=hs.res (q35 hs.sl hv0);rw [hv1] at hv2;obtain⟨lb,e1,e2⟩:=hv2;obtain⟨l,hW,h⟩:=h;have hiter:=hok cx l hW H1 lb (hE.gm _ _ h0 g5.mem.old) (q622 hE.tb g5 (RvL.mono g1 g2 _ e2) hcx);have hlen:∀ (k:Nat) (vs:List Value),(∃ y:TupD D it.ts,l[k]? = some y∧ArgsR E.P H1 it.ts y vs)→vs.length=ps.size:=fun k vs ⟨y,_,hy⟩=>(q502 hy).trans (Nat.eq_of_beq_eq_true hps).symm;obtain⟨m,hm⟩:=h;generalize hstep:(fun(q:List (TupD D it.ts)×TupV D pe.tp.vts) (rec:List (TupD D it.ts)×TupV D pe.tp.vts→Prop)=>_)=step at hm;obtain⟨ρ2,L2,st2,f1,f2,f3⟩:=q171 (kn:=st1.kn) g5.nx (Hp.le.refl _) (RM.le.refl _) g5.kn g5.fr g5 hs0;have satOf:∀ {H':Hp} {ρ':RM} {st':St D} {Lx R':List Ent} {W:World} {l':List (Nat×SV D)} {σ':Nat→Value},H1.le H'→RM.le ρ1 ρ'→BkR H' ρ' st'.bk Lx→KnR H' ρ' st'.kn→(∀ id,st'.nx≤id→ρ' id=none)→SlR H' ρ' l' σ'→Mem w0 H0 W H' (Lx++((Lk++F)++R'))→Sat (kept++fr) (Lk++F) w0 H0 R' H' ρ' Lx (st'.withSl l') σ' W:=fun b1 b2 b3 b4 b5 b6 b7=>⟨b7,b6,b3,g5.fr.mono b1 b2,b4,b5⟩
        refine CW.rangeR (H:=H1) (H1:=H1) (L:=L2++((Lk++F)++(mkO ms++R))) (fun k H' L'=>∃ m s ρ' st' Lx,RM.le ρ1 ρ'∧makeE pe.tp st1.nx st1.kn s=some st'∧L'=Lx++((Lk++F)++(mkO ms++R))∧BkR H' ρ' st'.bk Lx∧KnR H' ρ' st'.kn∧(∀ id,st'.nx≤id→ρ' id=none)∧LoopN step m (l.drop k,s)) f3.mem e1 (q206 hen) (Hp.le.refl _) hiter hlen hpN ⟨m,s0,ρ2,st2,L2,f2,f1,rfl,f3.bk,f3.kn,f3.nx,hm⟩ ?_ ?_
        ·rintro l0 D0 rdy bsy k av H' L' W hkl ⟨ay,hay,hargs⟩ hle ⟨m,s,ρ',st',Lx,a1,a2,rfl,a3,a4,a5,a6⟩ hM
         cases m with
         | zero=>exact a6.elim
         | succ m=>
          have a6:step (l.drop k,s) (LoopN step m):=a6;rw [← hstep] at a6;obtain rfl:l[k]=ay:=by rw [List.getElem?_eq_getElem hkl] at hay;exact Option.some.inj hay
          simp only [a2,List.drop_eq_getElem_cons hkl] at a6
          split at a6
          ·rename_i ls hls
           split at a6
           ·rename_i vs hvs
            obtain⟨cs,b1,b2⟩:=q170 (ρ:=ρ1) hE.tb hargs hls;have b3:=q228 b1 b2 hvs;have b4:SlR H' ρ' (parS ps.toList vs st1.sl) (slp ps.toList av σ):=q556 (g5.sl.mono hle a1) (RvL.mono hle a1 _ b3);refine iha (rd:=true) (ms:=[]) (B:=[]) (R:=(mkO ms++R)++[.obj l0 rdy,.obj D0 ddO]) (hI.mono (g1.trans hle) (g2.trans a1)) (fun h=>by cases h) (satOf hle a1 a3 a4 a5 b4 (by simpa [mkO] using hM)) a6 fun e=>?_;intro ms' st3 σ3 W3 H3 ρ3 L3 h1 hm3 h2 h3 h4;obtain rfl:=hm3 rfl;cases e with
            | normal=>
             refine⟨rfl,H3,L3++((Lk++F)++(mkO ms++R)),hle.trans h2,by simpa [mkO] using h4.mem,fun W4 hW4=>?_⟩;refine ihb (rd:=true) (ms:=[]) (B:=[]) (R:=(mkO ms++R)++[.obj l0 bsy,.obj D0 ddO]) (hI.mono (g1.trans (hle.trans h2)) (g2.trans (a1.trans h3))) (fun h=>by cases h) (h4.reR (by simpa [mkO] using hW4)) h1 fun e=>?_;intro ms' st4 σ4 W5 H4 ρ4 L4 k1 km k2 k3 k4;obtain rfl:=km rfl;have kM:Mem w0 H0 W5 H4 ((L4++((Lk++F)++(mkO ms++R)))++[.obj l0 bsy,.obj D0 ddO]):=by simpa [mkO] using k4.mem
             have kle:=hle.trans (h2.trans k2);have kρ:=a1.trans (h3.trans k3)
             have leave:∀ {W6:World},Mem w0 H0 W6 H4 ((L4++((Lk++F)++(mkO ms++R)))++[.obj D0 ddO])→Sat fr F w0 H0 (mkO (D0::ms)++R) H4 ρ4 (L4++Lk) ((st4.withSl st1.sl).back kept) σ W6:=fun hW6=>
              Sat.back (satOf kle kρ k4.bk k4.kn k4.nx (g5.sl.mono kle kρ) (hW6.perm (q625 _ _ _ _ _))) (g3.mono kle kρ) (g4.mono kle kρ)
             cases e with
             | normal=>
              simp only at k1
              split at k1
              ·rename_i s' hfill
               obtain⟨ρ5,L5,st5,i1,i2,i3⟩:=q171 (kn:=st1.kn) g5.nx kle kρ g5.kn g5.fr k4 hfill;refine⟨rfl,H4,L5++((Lk++F)++(mkO ms++R)),kle,by simpa [mkO] using i3.mem,m,s',ρ5,st5,L5,i2,i1,rfl,i3.bk,i3.kn,i3.nx,by rw [hstep] at k1;exact k1⟩
              ·exact k1.elim
             | ret=>exact⟨rfl,H4,_,kle,kM,fun W6 hW6=>hk .ret (D0::ms) _ σ W6 H4 ρ4 _ k1 (fun h=>by cases h) (g1.trans kle) (g2.trans kρ) (leave hW6)⟩
             | exit id=>exact⟨rfl,H4,_,kle,kM,fun W6 hW6=>hk (.exit id) (D0::ms) _ σ W6 H4 ρ4 _ k1 (fun h=>by cases h) (g1.trans kle) (g2.trans kρ) (leave hW6)⟩
             | goto t=>exact k1.elim
             | panic c=>exact k1.elim
             | outgrown=>exact k1.elim
            | exit id=>exact h1.elim
            | goto t=>exact h1.elim
            | ret=>exact h1.elim
            | panic c=>exact h1.elim
            | outgrown=>exact h1.elim
           ·exact a6.elim
          ·exact a6.elim
        ·rintro D0 H' L' W hle ⟨m,s,ρ',st',Lx,a1,a2,rfl,a3,a4,a5,a6⟩ hM
         cases m with
         | zero=>exact a6.elim
         | succ m=>
          have a6:step (l.drop l.length,s) (LoopN step m):=a6;rw [← hstep] at a6;simp only [a2,List.drop_length] at a6;exact hk .normal (D0::ms) _ σ W H' ρ' _ a6 (fun h=>by cases h) (g1.trans hle) (g2.trans a1) (Sat.back (satOf hle a1 a3 a4 a5 (g5.sl.mono hle a1) (hM.perm (q625 _ _ _ _ _))) (g3.mono hle a1) (g4.mono hle a1))
       ·exact h.elim
      ·exact h.elim
     ·exact h.elim
   ·exact h.elim
 | scope c _=>intro rd ms B R pos fr F H ρ L st σ w K Q r md hI hr hs h hk;exact h.elim
 | label l=>intro rd ms B R pos fr F H ρ L st σ w K Q r md hI hr hs h hk;exact CW.label ((hk _).go h hs)
 | goto l=>intro rd ms B R pos fr F H ρ L st σ w K Q r md hI hr hs h hk;exact CW.goto ((hk _).go h hs)
 | refuse s=>intro rd ms B R pos fr F H ρ L st σ w K Q r md hI hr hs h hk;exact h.elim
end
end
section
section
variable {D : Nat → Type} [∀ t, Dt (D t)]
def q149:Nat→List (SV D)→List (Nat×SV D)
 | _,[]=>[]
 | k,v::r=>(k,v)::q149 (k+1) r
variable {E : Env D} {fr : List (Nat × Blk D)} {F : List Ent} {w0 w : World} {H0 H : Hp} {R : List Ent} {ρ : RM} {L : List Ent} {st : St D} {σ : Nat → Value}
theorem q155:∀ {l:List (SV D)} {xs:List Value} {k:Nat},RvL H ρ xs l→SlR H ρ (q149 k l) (sl (enumA k xs) fun _=>undef)
 | [],_,_,_=>fun t v h=>by cases h
 | u::r,xs,k,⟨x,q,e,h1,h2⟩=>fun t v h=>by
  subst e;unfold q149 getS at h;show Rv H ρ (bif Nat.beq t k then x else sl (enumA (k+1) q) (fun _=>undef) t) v;cases hb:Nat.beq t k with
  | true=>rw [hb] at h;cases h;exact h1
  | false=>rw [hb] at h;exact q155 h2 t v h
def isEnd:Exit→Bool
 | .ret=>true
 | .normal=>true
 | _=>false
theorem q172{e:Exit}(h:isEnd e=true):e = .ret∨e = .normal:=by
 cases e <;> first | exact .inl rfl | exact .inr rfl | cases h
def runF(E:Env D):Nat→YlI D→CallI D
 | 0,_=>fun _ _ _ _ _ _ _=>False
 | n+1,yl=>fun f vs st fr pos K kp=>match E.P.funcs[f]? with
  | some fn=>match fn.body with
   | some c=>cdP (entB E.P f&&Nat.ble vs.length fn.ntmps) (runC E ⟨runF E n yl,yl,fun yl' f vs st fr pos K=>runF E n yl' f vs st fr pos (fun _ st'=>K st') fun _ _=>False⟩ fn.ntmps false c pos fr ⟨q149 0 vs,st.bk,st.kn,st.nx⟩ fun e st'=>match e with
    | .panic c=>kp (.panic c) st'
    | e=>cdP (isEnd e) (match mapO (rvE E.P E.tb st' fr) fn.results.toList with
     | some rs=>K (tupV rs) st'
     | none=>False) False) False
   | none=>False
  | none=>False
def noY:YlI D:=fun _ _ _ _ _ _=>False
def callX(E:Env D)(n:Nat):CallX D:=⟨runF E n noY,noY,fun yl' f vs st fr pos K=>runF E n yl' f vs st fr pos (fun _ st'=>K st') fun _ _=>False⟩
theorem q454{P:Program}{fn:Func}{T:Value→World→Prop}{e:Exit}(he:e = .ret∨e = .normal){X:List Ent}:∀ (ms:List Nat) {w:World},Mem w0 H0 w H (mkO ms++X)→(∀ w',Mem w0 H0 w' H X→endQ P fn T e [] σ w')→endQM P fn T e (mkD ms) σ w
 | [],w,hM,k=>k w hM
 | _::ms,_,hM,k=>endQM.mark he hM 0 rfl fun _ hM'=>q454 he ms (hM'.sub (List.sublist_cons_self _ _)) k
theorem q752{T:World→Prop}{X:List Ent}:∀ (ms:List Nat) {w:World},Mem w0 H0 w H (mkO ms++X)→(∀ w',Mem w0 H0 w' H X→T w')→panM T (mkD ms) w
 | [],w,hM,k=>k w hM
 | b::ms,_,hM,k=>⟨b,rfl,hM.objAt (k:=0) rfl,q752 ms ((hM.putObj 0 rfl (.deferred none)).sub (List.sublist_cons_self _ _)) k⟩
theorem q455(A B M R:List Ent):(A++(B++(M++R))).Perm (M++(A++(B++R))):=by
 rw [← List.append_assoc,← List.append_assoc,← List.append_assoc A B R,← List.append_assoc];exact(List.perm_append_comm (l₁:=A++B) (l₂:=M)).append_right R
theorem q79.of_runF(n:Nat){yl:YlI D}{H1:Hp}{ρ1:RM}(hy:YlOk E.P yl w0 H0 H1 ρ1)(ih:∀ {yl:YlI D} {H1:Hp} {ρ1:RM},YlOk E.P yl w0 H0 H1 ρ1→∀ (f:Nat) (vs:List (SV D)) (st:St D) (fr:List (Nat×Blk D)) (pos:List Nat) (K:SV D→St D→Prop) (kp:Exit→St D→Prop) (F R:List Ent) (H:Hp) (ρ:RM) (L:List Ent) (σ:Nat→Value) (w:World) (xs:List Value),
  runF E n yl f vs st fr pos K kp→H1.le H→RM.le ρ1 ρ→Sat fr F w0 H0 R H ρ L st σ w→RvL H ρ xs vs→Enters E.P f∧Calls E.P f xs.toArray w fun e w'=>(∃ v,e = .returned v∧∃ s st',K s st'∧Out fr F w0 H0 R H ρ (fun _=>undef) ⟨[],st'.bk,st'.kn,st'.nx⟩ s v w')∨
   ∃ c,e = .panicked c∧∃ st' H' ρ' L',kp (.panic c) st'∧H.le H'∧RM.le ρ ρ'∧Sat fr F w0 H0 R H' ρ' L' (⟨[],st'.bk,st'.kn,st'.nx⟩:St D) (fun _=>undef) w') :
  q79 E.P ⟨runF E n yl,yl,fun yl' f vs st fr pos K=>runF E n yl' f vs st fr pos (fun _ st'=>K st') fun _ _=>False⟩ w0 H0 H1 ρ1:=
 ⟨ih hy,hy,fun yl' f vs st fr pos K F R H ρ L σ w xs h hH hρ hy' hs hv=>by
  obtain⟨h1,h2⟩:=ih hy' f vs st fr pos (fun _ st'=>K st') (fun _ _=>False) F R H ρ L σ w xs h (Hp.le.refl _) (RM.le.refl _) hs hv;refine⟨h1,h2.mono fun e w' h3=>?_⟩;rcases h3 with ⟨v,rfl,s,st',hk,H',ρ',L',g1,g2,g3,g4⟩ | ⟨c,rfl,st',H',ρ',L',hk,_⟩
  ·exact⟨v,rfl,st',hk,H',ρ',L',g1,g2,g3⟩
  ·exact hk.elim⟩
theorem q753(hE:E.Ok)(h0:E.G H0):∀ (n:Nat) {yl:YlI D} {H1:Hp} {ρ1:RM},YlOk E.P yl w0 H0 H1 ρ1→∀ (f:Nat) (vs:List (SV D)) (st:St D) (fr:List (Nat×Blk D)) (pos:List Nat) (K:SV D→St D→Prop) (kp:Exit→St D→Prop) (F R:List Ent) (H:Hp) (ρ:RM) (L:List Ent) (σ:Nat→Value) (w:World) (xs:List Value),
  runF E n yl f vs st fr pos K kp→H1.le H→RM.le ρ1 ρ→Sat fr F w0 H0 R H ρ L st σ w→RvL H ρ xs vs→Enters E.P f∧Calls E.P f xs.toArray w fun e w'=>(∃ v,e = .returned v∧∃ s st',K s st'∧Out fr F w0 H0 R H ρ (fun _=>undef) ⟨[],st'.bk,st'.kn,st'.nx⟩ s v w')∨
   ∃ c,e = .panicked c∧∃ st' H' ρ' L',kp (.panic c) st'∧H.le H'∧RM.le ρ ρ'∧Sat fr F w0 H0 R H' ρ' L' (⟨[],st'.bk,st'.kn,st'.nx⟩:St D) (fun _=>undef) w'
 | 0=>fun _ _ _ _ _ _ _ _ _ _ _ _ _ _ _ _ h _ _ _ _=>h.elim
 | n+1=>fun hy f vs st fr pos K kp F R H ρ L σ w xs h hH hρ hs hv=>by
  unfold runF at h
  split at h
  ·rename_i fn hf
   split at h
   ·rename_i c hc
    obtain⟨hb,h⟩:=cifP h;rw [Bool.and_eq_true] at hb;refine⟨q206 hb.1, ?_⟩
    have hN:xs.toArray.size≤fn.ntmps:=by
     have:=Nat.le_of_ble_eq_true hb.2;simpa [RvL.length hv] using this
    have hs0:Sat fr F w0 H0 (mkO []++R) H ρ L (⟨q149 0 vs,st.bk,st.kn,st.nx⟩:St D) (sl (enumA 0 xs) fun _=>undef) w:=⟨hs.mem,q155 hv,hs.bk,hs.fr,hs.kn,hs.nx⟩
    refine q386 (R:=fun v w'=>∃ s st',K s st'∧Out fr F w0 H0 R H ρ (fun _=>undef) ⟨[],st'.bk,st'.kn,st'.nx⟩ s v w') (S:=fun c w'=>∃ st' H' ρ' L',kp (.panic c) st'∧H.le H'∧RM.le ρ ρ'∧Sat fr F w0 H0 R H' ρ' L' (⟨[],st'.bk,st'.kn,st'.nx⟩:St D) (fun _=>undef) w') hf hc hN ?_;refine q363 (ms:=[]) (B:=[]) (R:=R) hE h0 c (q79.of_runF n (hy.mono hH hρ) (q753 hE h0 n)) (fun _=>⟨rfl,rfl⟩) hs0 h fun e=>?_;intro ms' st' σ' w' H' ρ' L' h1 _ h2 h3 h4;have hM:=h4.mem.perm (q455 _ _ _ _)
    have hfin:cdP (isEnd e) (match mapO (rvE E.P E.tb st' fr) fn.results.toList with
     | some rs=>K (tupV rs) st'
     | none=>False) False→endQM E.P fn (fun v w'=>∃ s st',K s st'∧Out fr F w0 H0 R H ρ (fun _=>undef) ⟨[],st'.bk,st'.kn,st'.nx⟩ s v w') e (mkD ms') σ' w':=fun h1=>by
     obtain⟨he,h1⟩:=cifP h1;refine q454 (q172 he) ms' hM fun w2 hw2=>?_;have h4:=h4.reR hw2
     split at h1
     ·rename_i rs hrs
      obtain⟨us,g1,g2⟩:=q227 hE.tb h4 hrs;refine⟨q172 he,rfl,q304 us,g2,tupV rs,st',h1,H',ρ',L',h2,h3,⟨h4.mem,(fun t v hv=>nomatch hv),h4.bk,h4.fr,h4.kn,h4.nx⟩,q359 g1⟩
     ·exact h1.elim
    cases e with
    | panic c=>
     show panM _ (mkD ms'++[]) w';rw [List.append_nil];refine q752 ms' hM fun w2 hw2=>?_;have h4:=h4.reR hw2;exact⟨st',H',ρ',L',h1,h2,h3,h4.mem,(fun t v hv=>nomatch hv),h4.bk,h4.fr,h4.kn,h4.nx⟩
    | _=>
     show endQM _ _ _ _ (mkD ms'++[]) _ _;rw [List.append_nil];exact hfin h1
   ·exact h.elim
  ·exact h.elim
theorem noY_ok{P:Program}{H1:Hp}{ρ1:RM}:YlOk (D:=D) P noY w0 H0 H1 ρ1:=fun _ _ _ _ _ _ _ _ _ _ _ _ _ _ _ h=>h.elim
theorem q331(hE:E.Ok)(h0:E.G H0)(n:Nat){H1:Hp}{ρ1:RM}:q79 E.P (callX E n) w0 H0 H1 ρ1:=q79.of_runF n noY_ok (q753 hE h0 n)
def globB:SV D→Bool
 | .i _ _ | .w _ | .y _ | .k _ | .b _ | .p _ _ | .c _ | .nil | .fsl _ _ | .st _=>true
 | _=>false
theorem q847{ρ':RM}{s:SV D}{x:Value}(h:globB s=true)(hx:Rv H ρ x s):Rv H ρ' x s:=by
 cases s <;> first | exact hx | cases h
def rtC:List Bool→List (Nat×Blk D)→List (SV D)→Option (List (SV D)×List (Nat×Blk D))
 | [],bk,l=>match l with
  | []=>some ([],bk)
  | _::_=>none
 | f::fs,bk,l=>match l with
  | []=>none
  | s::r=>match f with
   | true=>match s with
    | .own id=>match remB bk id with
     | some (.row e xs,bk1)=>match rtC fs bk1 r with
      | some (p,bk2)=>some (.fsl e xs::p,bk2)
      | none=>none
     | _=>none
    | .nil=>match rtC fs bk r with
     | some (p,bk2)=>some (.nil::p,bk2)
     | none=>none
    | _=>none
   | false=>bif globB s then(match rtC fs bk r with
    | some (p,bk2)=>some (s::p,bk2)
    | none=>none) else none
def RtR(w0:World)(H0:Hp)(w:World)(H:Hp)(ρ:RM)(fs:List Bool)(us:List Value)(q:List (SV D))(bk':List (Nat×Blk D))(X:List Ent):Prop:=
 ∃ S L',Mem w0 H0 w H (L'++(S++X))∧BkR H ρ bk' L'∧∀ (nx:Nat) (ρ0:RM) (l':List (SV D)) (b:List (Nat×Blk D)) (m:Nat),(∀ id,nx≤id→ρ0 id=none)→ownC fs nx q=some (l',b,m)→∃ ρ',RM.le ρ0 ρ'∧nx≤m∧(∀ id,m≤id→ρ' id=none)∧(∀ id,id<nx→ρ' id=ρ0 id)∧RvL H ρ' us l'∧BkR H ρ' b S
theorem RtR.row{fs:List Bool}{bk':List (Nat×Blk D)}{X:List Ent}{e:Nat}{xs:List (D e)}{A:Option Addr}{n c:Nat}{z:List Value}{L1:List Ent}{q1:List (SV D)}{x:Value}{u:List Value}(hM1:Mem w0 H0 w H (.row (.slice A n c) e (Dt.sz (D e)) n z::(L1++X)))(hd:DtL (α:=D e) H z xs)(hn:n=xs.length)(hx:x = .slice A n c)
  (h:Mem w0 H0 w H (L1++([.row (.slice A n c) e (Dt.sz (D e)) n z]++X))→RtR w0 H0 w H ρ fs u q1 bk' ([.row (.slice A n c) e (Dt.sz (D e)) n z]++X)):RtR w0 H0 w H ρ (true::fs) (x::u) (.fsl e xs::q1) bk' X:=by
 have hM2:Mem w0 H0 w H (L1++([.row (.slice A n c) e (Dt.sz (D e)) n z]++X)):=hM1.perm (by
  rw [← List.append_assoc]
  exact(List.perm_append_comm (l₁:=[Ent.row (.slice A n c) e (Dt.sz (D e)) n z]) (l₂:=L1)).append_right X)
 obtain⟨S,L',a1,a2,a3⟩:=h hM2;refine⟨.row (.slice A n c) e (Dt.sz (D e)) n z::S,L',a1.perm ?_,a2,fun nx ρ0 l' b m hn0 ho=>?_⟩
 ·refine List.Perm.append_left L' ?_
  show(S++([Ent.row (.slice A n c) e (Dt.sz (D e)) n z]++X)).Perm ([Ent.row (.slice A n c) e (Dt.sz (D e)) n z]++S++X);rw [← List.append_assoc];exact List.perm_append_comm.append_right X
 ·rw [ownC] at ho
  cases ho1:ownC fs (nx+1) q1 with
  | none=>simp only [ho1] at ho;cases ho
  | some t=>
   obtain⟨l1,b1,m1⟩:=t;simp only [ho1] at ho;cases ho;obtain⟨f1,f2⟩:=q108 hn0 (.r A n c);obtain⟨ρ',b2,b3,b4,b4',b5,b6⟩:=a3 (nx+1) (ρ0.put nx (.r A n c)) _ _ _ f2 ho1;have e0:ρ' nx=some (.r A n c):=b2 _ _ (RM.put_same _ _ _);exact⟨ρ',f1.trans b2,by omega,b4,fun id hid=>by rw [b4' id (by omega),RM.put_ne _ _ (by omega)],⟨x,u,rfl,⟨A,n,c,e0,hx⟩,b5⟩,_,_,rfl,⟨A,n,c,z,e0,rfl,hd,hn⟩,b6⟩
theorem q626:∀ {fs:List Bool} {l p q:List (SV D)} {us:List Value} {bk bk':List (Nat×Blk D)} {L X:List Ent},Mem w0 H0 w H (L++X)→BkR H ρ bk L→RvL H ρ us l→rtC fs bk l=some (p,bk')→CQL p q→RtR w0 H0 w H ρ fs us q bk' X
 | [],l,p,q,us,bk,bk',L,X,hM,hk,hu,h,hq=>by
  cases l with
  | cons _ _=>cases h
  | nil=>
   cases h;obtain rfl:q=[]:=hq;refine⟨[],L,hM,hk,fun nx ρ0 l' b m hn ho=>?_⟩;cases ho;exact⟨ρ0,RM.le.refl _,Nat.le_refl _,hn,fun _ _=>rfl,hu,rfl⟩
 | f::fs,l,p,q,us,bk,bk',L,X,hM,hk,hu,h,hq=>by
  cases l with
  | nil=>cases h
  | cons s r=>
   obtain⟨x,u,rfl,h1,h2⟩:=hu;unfold rtC at h;cases f with
   | true=>
    simp only at h
    split at h
    ·rename_i id
     split at h
     ·rename_i e xs bk1 hr
      split at h
      ·rename_i p1 bk2 hr1
       cases h;obtain⟨q0,q1,rfl,hcq,hq1⟩:=hq;obtain⟨S1,L1,g1,⟨A,n,c,z,g2,rfl,g3,g4⟩,g5⟩:=hk.rem hr;obtain⟨A',n',c',g6,g7⟩:=h1;rw [g2] at g6;cases g6
       have hq0:q0 = .fsl e xs:=by
        rcases hcq with ⟨e',xs',rfl,h | ⟨h,_⟩⟩ | ⟨hsc,_⟩
        ·exact h.symm
        ·cases h
        ·cases hsc
       subst hq0;exact RtR.row (hM.perm (g1.append_right X)) g3 g4 g7 fun hM2=>q626 hM2 g5 h2 hr1 hq1
      ·cases h
     ·cases h
    ·split at h
     ·rename_i p1 bk2 hr1
      cases h;obtain⟨q0,q1,rfl,hcq,hq1⟩:=hq;rcases hcq with ⟨e',xs',rfl,h | ⟨_,rfl⟩⟩ | ⟨hsc,_⟩
      ·cases h
      ·exact RtR.row (hM.nilRow e' (Dt.sz (D e'))) DtL.nil rfl h1 fun hM2=>q626 hM2 hk h2 hr1 hq1
      ·cases hsc
     ·cases h
    ·cases h
   | false=>
    simp only at h;have hh:=cif h;clear h;obtain⟨hgl,h⟩:=hh
    split at h
    ·rename_i p1 bk2 hr1
     cases h;obtain⟨q0,q1,rfl,hcq,hq1⟩:=hq;obtain⟨S,L',a1,a2,a3⟩:=q626 hM hk h2 hr1 hq1;refine⟨S,L',a1,a2,fun nx ρ0 l' b m hn0 ho=>?_⟩;rw [ownC] at ho;cases ho1:ownC fs nx q1 with
     | none=>simp only [ho1] at ho;cases ho
     | some t=>
      obtain⟨l1,b1,m1⟩:=t;simp only [ho1] at ho;cases ho;obtain⟨ρ',b2,b3,b4,b4',b5,b6⟩:=a3 nx ρ0 _ _ _ hn0 ho1;exact⟨ρ',b2,b3,b4,b4',⟨x,u,rfl,hcq.rv (q847 hgl h1),b5⟩,b6⟩
    ·cases h
def rtCC:List (List Bool)→List (Nat×Blk D)→List (List (SV D))→Option (List (List (SV D)))
 | [],_,l=>match l with
  | []=>some []
  | _::_=>none
 | f::fs,bk,l=>match l with
  | []=>none
  | c::r=>match rtC f bk c with
   | some (p,bk1)=>match rtCC fs bk1 r with
    | some q=>some (p::q)
    | none=>none
   | none=>none
def q142:List (List Bool)→List (List (SV D))→List Nat
 | f::fs,l::ls=>q289 ((f.zip l).filterMap fun p=>bif p.1 then none else some p.2)++q142 fs ls
 | _,_=>[]
def cqTup(tb:Tb D):(ts:List Nat)→TupD D ts→List (List (SV D))→List (List (SV D))→Prop
 | [],_,_,q=>q=[]
 | t::r,y,p,q=>∃ p1 p2 q1 q2,p=p1::p2∧q=q1::q2∧toC tb t y.1=some q1∧CQL p1 q1∧cqTup tb r y.2 p2 q2
theorem q456{tb:Tb D}(htb:TbOk tb):∀ {ts:List Nat} {p:List (List (SV D))} {y:TupD D ts},ofTup tb ts p=some y→∃ q,tupC tb ts y=some q∧cqTup tb ts y p q
 | [],[],y,h=>⟨[],rfl,rfl⟩
 | [],_::_,_,h=>by cases h
 | _::_,[],_,h=>by cases h
 | t::r,p1::p2,y,h=>by
  obtain⟨h1,h2⟩:=q901 h;obtain⟨q1,g1,g2⟩:=q891 htb h1;obtain⟨q2,g3,g4⟩:=q456 htb h2;refine⟨q1::q2, ?_,p1,p2,q1,q2,rfl,rfl,g1,g2,g4⟩;rw [tupC];simp only [g1,g3]
theorem q557{tb:Tb D}:∀ {ts:List Nat} {fs:List (List Bool)} {l p q:List (List (SV D))} {y:TupD D ts} {us:List (List Value)} {bk:List (Nat×Blk D)} {L X:List Ent},Mem w0 H0 w H (L++X)→BkR H ρ bk L→RvLL H ρ us l→rtCC fs bk l=some p→cqTup tb ts y p q→
  ∃ S,Mem w0 H0 w H (S++X)∧∀ (nx:Nat) (ρ0:RM) (l':List (List (SV D))) (b:List (Nat×Blk D)) (m:Nat),(∀ id,nx≤id→ρ0 id=none)→ownCC fs nx q=some (l',b,m)→∃ ρ',RM.le ρ0 ρ'∧nx≤m∧(∀ id,m≤id→ρ' id=none)∧(∀ id,id<nx→ρ' id=ρ0 id)∧RvLL H ρ' us l'∧BkR H ρ' b S
 | [],fs,l,p,q,y,us,bk,L,X,hM,hk,hu,h,hq=>by
  obtain rfl:q=[]:=hq;refine⟨[],hM.sub (List.sublist_append_right L X),fun nx ρ0 l' b m hn ho=>?_⟩;cases fs with
  | cons _ _=>cases ho
  | nil=>
   cases ho;cases l with
   | cons _ _=>cases h
   | nil=>exact⟨ρ0,RM.le.refl _,Nat.le_refl _,hn,fun _ _=>rfl,hu,rfl⟩
 | t::ts,fs,l,p,q,y,us,bk,L,X,hM,hk,hu,h,⟨p1,p2,q1,q2,hp,hq,_,hc,hr⟩=>by
  subst hp;subst hq;cases fs with
  | nil=>cases l <;> cases h
  | cons f fs=>
   cases l with
   | nil=>cases h
   | cons c l=>
    obtain⟨u,v,rfl,h1,h2⟩:=hu;rw [rtCC] at h;cases ha:rtC f bk c with
    | none=>simp only [ha] at h;cases h
    | some a=>
     obtain⟨a1,bk1⟩:=a;cases hb:rtCC fs bk1 l with
     | none=>simp only [ha,hb] at h;cases h
     | some b=>
      simp only [ha,hb] at h;cases h;obtain⟨S1,L1,g1,g2,g3⟩:=q626 hM hk h1 ha hc;obtain⟨S2,k1,k2⟩:=q557 (ts:=ts) g1 g2 h2 hb hr;refine⟨S1++S2,k1.perm ?_,fun nx ρ0 l' b m hn ho=>?_⟩
      ·rw [← List.append_assoc]
       exact List.perm_append_comm.append_right X
      ·rw [ownCC] at ho
       cases ho1:ownC f nx q1 with
       | none=>simp only [ho1] at ho;cases ho
       | some o=>
        obtain⟨l1,b1,m1⟩:=o;cases ho2:ownCC fs m1 q2 with
        | none=>simp only [ho1,ho2] at ho;cases ho
        | some o2=>
         obtain⟨l2,b2,m2⟩:=o2;simp only [ho1,ho2] at ho;cases ho;obtain⟨ρ1,i1,i2,i3,i3',i4,i5⟩:=g3 nx ρ0 _ _ _ hn ho1;obtain⟨ρ2,j1,j2,j3,j3',j4,j5⟩:=k2 m1 ρ1 _ _ _ i3 ho2;exact⟨ρ2,i1.trans j1,by omega,j3,fun id hid=>by rw [j3' id (by omega),i3' id hid],⟨u,v,rfl,RvL.mono (Hp.le.refl _) j1 _ i4,j4⟩,(i5.mono (Hp.le.refl _) j1).append j5⟩
def retF(P:Program)(tb:Tb D)(fn:Func)(rs:List Nat)(own:List (List Bool))(Φ:TupD D rs→Prop)(st:St D):Prop:=match mapO (rvE P tb st []) fn.results.toList with
 | some vs=>match argsC P rs (vs.map fun v=>rsD (st.lk []) (resD st.kn v)) with
  | some ls0=>match mapO (rvE P tb (st.frzL (q142 own ls0)) []) fn.results.toList with
   | some us=>match argsC P rs (us.map fun v=>rsD ((st.frzL (q142 own ls0)).lk []) (resD st.kn v)) with
    | some ls=>match rtCC own (st.frzL (q142 own ls0)).bk ls with
     | some ps=>match ofTup tb rs ps with
      | some y=>Φ y
      | none=>False
     | none=>False
    | none=>False
   | none=>False
  | none=>False
 | none=>False
def topF(E:Env D)(n:Nat)(f:Nat)(ps rs:List Nat)(own:List (List Bool))(x:TupD D ps)(Φ:TupD D rs→Prop):Prop:=match tupC E.tb ps x with
 | some ls=>match packs E.P ps ls with
  | some vs=>match E.P.funcs[f]? with
   | some fn=>match fn.body with
    | some c=>cdP (Nat.ble vs.length fn.ntmps) (runC E (callX E n) fn.ntmps false c [] [] ⟨q149 0 vs,[],[],0⟩ fun e st'=>cdP (isEnd e) (retF E.P E.tb fn rs own Φ st') False) False
    | none=>False
   | none=>False
  | none=>False
 | none=>False
theorem Ct.lift(hE:E.Ok)(n:Nat)(c:Ct D)(h:∀ x Φ,c.W x Φ→topF E n c.f c.ps c.rs c.own x Φ):c.Ok E.P E.tb E.G:=by
 intro x Φ hW H vs hGH hA;have hF:=h x Φ hW;unfold topF at hF
 split at hF
 ·rename_i ls hls
  split at hF
  ·rename_i svs hsv
   split at hF
   ·rename_i fn hfn
    split at hF
    ·rename_i cd hcd
     obtain⟨hN,hF⟩:=cifP hF;obtain⟨cs,g1,g2⟩:=q170 (ρ:=fun _=>none) hE.tb hA hls;have g3:=q228 g1 g2 hsv;refine RetP.of_codeM hfn hcd (by have:=Nat.le_of_ble_eq_true hN;simpa [RvL.length g3] using this) fun w hM=>?_;have hs0:Sat [] [] w H (mkO []++[]) H (fun _=>none) [] (⟨q149 0 svs,[],[],0⟩:St D) (sl (enumA 0 vs) fun _=>undef) w:=⟨hM,q155 g3,rfl,rfl,(fun _ _ h=>nomatch h),fun _ _=>rfl⟩
     refine q363 (ms:=[]) (B:=[]) (R:=[]) hE hGH cd (q331 hE hGH n) (fun _=>⟨rfl,rfl⟩) hs0 hF fun e=>?_;intro ms' st' σ' w' H' ρ' L' h1 _ h2 h3 h4;rw [List.append_nil];obtain⟨he,h1⟩:=cifP h1;refine q454 (q172 he) ms' (h4.mem.perm (q455 _ _ _ _)) fun w2 hw2=>?_;have h4:=h4.reR hw2;unfold retF at h1
     split at h1
     ·rename_i v1 hv1
      split at h1
      ·rename_i ls0 hl0
       split at h1
       ·rename_i us hus
        split at h1
        ·rename_i ls1 hl1
         split at h1
         ·rename_i ps hps
          split at h1
          ·rename_i y hy
           obtain⟨H2,L2,k1,k2⟩:=h4.frzL (q142 c.own ls0);obtain⟨ux,e1,e2⟩:=q227 hE.tb k2 hus;have hkn:=(q357 (q142 c.own ls0) st').2.1;have e3:=q330 k2 e1;rw [hkn] at e3;obtain⟨cs2,e4,e5⟩:=q246 e3 hl1;obtain⟨q,e6,e7⟩:=q456 hE.tb hy;have hM2:=k2.mem;obtain⟨S,i1,i2⟩:=q557 (X:=[]) (by simpa using hM2) k2.bk e5 hps e7;refine⟨q172 he,rfl,q304 ux,e2,H2,S,by simpa using i1,y,h1, ?_⟩;intro nx ρ0 hn0 s b m hres;unfold resE at hres;rw [e6] at hres;simp only at hres
           split at hres
           ·rename_i ls' b' m' ho
            split at hres
            ·rename_i vs' hp
             cases hres;obtain⟨ρ2,j1,j2,j3,j3',j4,j5⟩:=i2 nx ρ0 _ _ _ hn0 ho;exact⟨ρ2,j1,j2,j3,j3',q359 (q228 e4 j4 hp),j5⟩
            ·cases hres
           ·cases hres
          ·exact h1.elim
         ·exact h1.elim
        ·exact h1.elim
       ·exact h1.elim
      ·exact h1.elim
     ·exact h1.elim
    ·exact hF.elim
   ·exact hF.elim
  ·exact hF.elim
 ·exact hF.elim
end
end
section
section
variable {F : Fence} {n : Nat} {P : Program} {ops : Array Oper} {Q : Exit → Act → World → Prop}
theorem q503{Q1:Exit→Act→World→Prop}{o:Oper}{l:List Oper}{a:Act}{w:World}(h:wpListIn F n P ops Q1 [o] a w)(hK:∀ a w,Q1 .normal a w→wpListIn F n P ops Q l a w)(hp:∀ c a w,¬Q1 (.panic c) a w)(hl:¬LetsOut Q1):wpListIn F n P ops Q (o::l) a w:=by
 unfold wpListIn at h ⊢
 split at h
 ·rename_i hw
  rw [if_pos hw];refine⟨h.1, ?_⟩;have h2:=h.2;generalize (o.semAt F.round a.eval).run P w=res at h2;cases res with
  | ok nx w'=>
   cases nx with
   | value v=>exact hK _ _ h2
   | skip=>exact hK _ _ h2
   | defer d=>exact hK _ _ h2
   | enter f args=>
    refine⟨h2.1,h2.2.mono fun e w'' he=>?_⟩;cases e with
    | returned v=>exact hK _ _ he
    | panicked chain=>exact absurd he (hp _ _ _)
    | outgrown=>exact absurd he hl
   | row row args=>exact⟨h2.1,h2.2.mono fun v w'' he=>hK _ _ he⟩
   | round l f tmps assign body=>
    refine⟨h2.1,h2.2.mono fun e w'' he=>?_⟩;cases e with
    | returned v=>exact hK _ _ he
    | panicked chain=>exact absurd he (hp _ _ _)
    | outgrown=>exact absurd he hl
   | _=>exact h2
  | halt x w'=>
   cases x with
   | panic v=>exact absurd h2 (hp _ _ _)
   | _=>exact h2
 ·rename_i hw
  rw [if_neg hw];exact⟨h.1,hK _ _ h.2⟩
end
theorem RW.cons1{r:Option Nat}{md:Nat}{P:Program}{N:Nat}{ops:Array Oper}{o:Oper}{l:List Oper}{Q:Exit→List Deferred→(Nat→Value)→World→Prop}{Dd:List Deferred}{σ:Nat→Value}{w:World}
  (h:RW r md P N ops [o] (fun e D' σ' w'=>e = .normal∧RW r md P N ops l Q D' σ' w') Dd σ w):RW r md P N ops (o::l) Q Dd σ w:=by
 intro a ha;refine q503 (h a ha) (fun a' w' hq=>?_) (fun c a' w' hq=>?_) (fun hq=>?_)
 ·obtain⟨D',σ',h1,_,h2⟩:=hq
  exact h2 a' h1
 ·obtain⟨_,_,_,hn,_⟩:=hq
  cases hn
 ·obtain⟨_,_,_,_,_,hn,_⟩:=hq
  cases hn
def Yl{α:Type}(l:List α)(K:α→List α→Prop):Prop:=match l with
 | []=>False
 | x::r=>K x r
section
variable {D : Nat → Type} [∀ t, Dt (D t)]
def q754(st:St D)(op:Op):Option (List Operand):=match op with
 | .call ⟨.value g,xs,_⟩=>match evO st.sl g with
  | some (.kp 0)=>some xs.toList
  | _=>none
 | _=>none
omit [∀ t,Dt (D t)] in
theorem q755 {st:St D} {op:Op} {xs:List Operand} (h:q754 st op=some xs):∃ g ys tys,op = .call ⟨.value g,ys,tys⟩∧evO st.sl g=some (.kp 0)∧xs=ys.toList:=by
 unfold q754 at h
 split at h
 ·split at h
  ·rename_i hg
   cases h;exact⟨_,_,_,rfl,hg,rfl⟩
  ·cases h
 ·cases h
def memI(P:Program)(tb:Tb D)(st:St D)(fr:List (Nat×Blk D))(op:Op):Option (SV D×St D):=match op with
 | .alloc T=>match alE P st.nx T with
  | some (_,v,ef)=>some (v,st.eff ef)
  | none=>none
 | .box T _=>match q91 st fr op with
  | some [a]=>match bxE st.nx T a with
   | some (_,v,ef)=>some (v,st.eff ef)
   | none=>none
  | _=>none
 | .store T _ _=>match q91 st fr op with
  | some [.ptr id off,b]=>match stE P tb (gtB st.bk) T (.ptr id off) b with
   | some (_,v,ef)=>some (v,st.eff ef)
   | none=>none
  | _=>none
 | _=>none
def isMemI:Op→Bool
 | .alloc _=>true
 | .box _ _=>true
 | .store _ _ _=>true
 | _=>false
def yOp(E:Env D)(fr:List (Nat×Blk D))(ts:List Nat)(o:Oper)(sp:Bool)(st:St D)(rest:List (TupD D ts))(K:Bool→St D→List (TupD D ts)→Prop):Prop:=match q754 st o.op with
 | some xs=>match sp with
  | true=>False
  | false=>Yl rest fun x r=>match mapO (fun x=>(evO st.sl x).map fun v=>rsD (st.lk fr) (resD st.kn v)) xs with
   | some vs=>match argsC E.P ts vs with
    | some ls=>match ofTup E.tb ts ls with
     | some a=>a=x∧K false ((⟨st.sl,[],st.kn,st.nx⟩:St D).put o.dst (.k true)) r∧K true ((⟨st.sl,[],st.kn,st.nx⟩:St D).put o.dst (.k false)) (x::r)
     | none=>False
    | none=>False
   | none=>False
 | none=>match isMemI o.op with
  | true=>match memI E.P E.tb st fr o.op with
   | some (v,st')=>K sp (st'.put o.dst v) rest
   | none=>False
  | false=>stepD E fr o st fun v e _ _=>cdP e False (K sp (st.put o.dst v) rest)
def yFl(E:Env D)(fr:List (Nat×Blk D))(ts:List Nat)(q:Bool)(o:Oper)(sp:Bool)(st:St D)(rest:List (TupD D ts))(K:Bool→St D→List (TupD D ts)→Prop):Prop:=match q with
 | true=>match q619 E fr o st with
  | some v=>K sp (st.put o.dst v) rest
  | none=>False
 | false=>yOp E fr ts o sp st rest K
def runYF(E:Env D)(N:Nat)(fr:List (Nat×Blk D))(ts:List Nat)(ops:Array Oper)(fl:List Nat):List Nat→Bool→St D→List (TupD D ts)→(Bool→St D→List (TupD D ts)→Prop)→Prop
 | [],sp,st,rest,K=>K sp st rest
 | i::g,sp,st,rest,K=>match ops[i]? with
  | none=>False
  | some o=>cdP (dstOk o.dst N) (match gdE ops st o.guard with
   | .yes=>yFl E fr ts (fl.any (Nat.beq i)) o sp st rest fun sp' st' rest'=>runYF E N fr ts ops fl g sp' st' rest' K
   | .no=>runYF E N fr ts ops fl g sp (st.put o.dst (.c undef)) rest K
   | .ask t v want=>askF v
     (cdP want (yFl E fr ts (fl.any (Nat.beq i)) o sp (st.know (.tmp t) true) rest fun sp' st' rest'=>runYF E N fr ts ops fl g sp' st' rest' K) (runYF E N fr ts ops fl g sp ((st.know (.tmp t) true).put o.dst (.c undef)) rest K))
     (cdP want (runYF E N fr ts ops fl g sp ((st.know (.tmp t) false).put o.dst (.c undef)) rest K) (yFl E fr ts (fl.any (Nat.beq i)) o sp (st.know (.tmp t) false) rest fun sp' st' rest'=>runYF E N fr ts ops fl g sp' st' rest' K))
   | .bad=>False) False
def runY(E:Env D)(N:Nat)(fr:List (Nat×Blk D))(ts:List Nat)(ops:Array Oper):List Oper→Bool→St D→List (TupD D ts)→(Bool→St D→List (TupD D ts)→Prop)→Prop
 | [],sp,st,rest,K=>K sp st rest
 | o::l,sp,st,rest,K=>cdP (dstOk o.dst N) (match gdE ops st o.guard with
  | .yes=>yOp E fr ts o sp st rest fun sp' st' rest'=>runY E N fr ts ops l sp' st' rest' K
  | .no=>runY E N fr ts ops l sp (st.put o.dst (.c undef)) rest K
  | .ask t v want=>askF v
    (cdP want (yOp E fr ts o sp (st.know (.tmp t) true) rest fun sp' st' rest'=>runY E N fr ts ops l sp' st' rest' K) (runY E N fr ts ops l sp ((st.know (.tmp t) true).put o.dst (.c undef)) rest K))
    (cdP want (runY E N fr ts ops l sp ((st.know (.tmp t) false).put o.dst (.c undef)) rest K) (yOp E fr ts o sp (st.know (.tmp t) false) rest fun sp' st' rest'=>runY E N fr ts ops l sp' st' rest' K))
  | .bad=>False) False
def runI(E:Env D)(N:Nat)(fr:List (Nat×Blk D))(ts:List Nat):Code→List Nat→Bool→St D→List (TupD D ts)→(Exit→Bool→St D→List (TupD D ts)→Prop)→Prop
 | .skip,_,sp,st,rest,K=>K .normal sp st rest
 | .ret,_,sp,st,rest,K=>K .ret sp st rest
 | .exit id,_,sp,st,rest,K=>K (.exit id) sp st rest
 | .region _ ops dr,pos,sp,st,rest,K=>match dr with
  | false=>runY E N fr ts ops ops.toList sp st rest (K .normal)
  | true=>match findP pos E.plan with
   | some pe=>match pe.tp.rw with
    | 0::0::g=>cdP (Region.noSelect ops&&(Nat.beq g.length ops.size&&flB ops (pe.tp.sl.map (·.1)) g (Array.replicate ops.size false))) (runYF E N fr ts ops (pe.tp.sl.map (·.1)) g sp st rest (K .normal)) False
    | _=>False
   | none=>False
 | .cond c a b,pos,sp,st,rest,K=>match (evO st.sl c).map (res st.kn) with
  | some (.k true)=>runI E N fr ts a (2::pos) sp st rest K
  | some (.k false)=>runI E N fr ts b (3::pos) sp st rest K
  | some s=>askF s (runI E N fr ts a (2::pos) sp (st.know c true) rest K) (runI E N fr ts b (3::pos) sp (st.know c false) rest K)
  | none=>False
 | .block id c,pos,sp,st,rest,K=>runI E N fr ts c (4::pos) sp st rest fun e sp' st' rest'=>match e with
  | .exit id'=>cdP (Nat.beq id' id) (K .normal sp' st' rest') (K (.exit id') sp' st' rest')
  | e=>K e sp' st' rest'
 | .seq a b,pos,sp,st,rest,K=>runI E N fr ts a (0::pos) sp st rest fun e sp' st' rest'=>match e with
  | .normal=>runI E N fr ts b (1::pos) sp' st' rest' K
  | e=>K e sp' st' rest'
 | .loop c,pos,sp,st,rest,K=>match sp,findP pos E.plan with
  | false,some pe=>match fillE pe.tp st.tag.nx st.tag fr with
   | some s0=>LoopW (fun(q:List (TupD D ts)×TupV D pe.tp.vts) rec=>match makeE pe.tp st.tag.nx st.tag.kn q.2 with
    | some st2=>match st2.bk with
     | []=>runI E N fr ts c (5::pos) false st2 q.1 fun e sp' st' rest'=>match e with
      | .normal=>match sp' with
       | false=>match fillE pe.tp st.tag.nx st' fr with
        | some s'=>rec (rest',s')
        | none=>False
       | true=>False
      | e=>K e sp' st' rest'
     | _::_=>False
    | none=>False) (rest,s0)
   | none=>False
  | _,_=>False
 | _,_,_,_,_,_=>False
def JS{α:Type}(J Jx:Nat→World→Prop)(all:List α)(sp:Bool)(rest:List α)(w:World):Prop:=match sp with
 | false=>∃ k,k≤all.length∧J k w∧rest=all.drop k
 | true=>∃ k,k<all.length∧Jx k w
theorem JS.below{α:Type}{J Jx:Nat→World→Prop}(hJ:∀ k A B,J k A→Below A.heap.size A B→J k B)(hJx:∀ k A B,Jx k A→Below A.heap.size A B→Jx k B){all rest:List α}{sp:Bool}{w w':World}(h:JS J Jx all sp rest w)(hb:Below w.heap.size w w'):JS J Jx all sp rest w':=by
 cases sp with
 | false=>obtain⟨k,h0,h1,h2⟩:=h;exact⟨k,h0,hJ _ _ _ h1 hb,h2⟩
 | true=>obtain⟨k,h1,h2⟩:=h;exact⟨k,h1,hJx _ _ _ h2 hb⟩
variable {E : Env D} {N : Nat} {fr : List (Nat × Blk D)} {ts : List Nat} {H : Hp} {lp : Nat} {J Jx : Nat → World → Prop} {all : List (TupD D ts)}
def IS(J Jx:Nat→World→Prop)(all:List (TupD D ts))(fr:List (Nat×Blk D))(H:Hp)(ρ:RM)(sp:Bool)(rest:List (TupD D ts))(st:St D)(σ:Nat→Value)(w:World):Prop:=∃ wy L,Sat fr [] wy H [] H ρ L st σ w∧JS J Jx all sp rest wy
theorem IS.ag{ρ:RM}{sp:Bool}{rest:List (TupD D ts)}{st:St D}{σ:Nat→Value}{w:World}(h:IS J Jx all fr H ρ sp rest st σ w):AgH H w:=by
 obtain⟨wy,L,hs,_⟩:=h;exact hs.mem.agree
theorem IS.put{ρ:RM}{sp:Bool}{rest:List (TupD D ts)}{st:St D}{σ:Nat→Value}{w:World}(h:IS J Jx all fr H ρ sp rest st σ w){x:Value}{v:SV D}(hv:Rv H ρ x v)(d:Option Nat):IS J Jx all fr H ρ sp rest (st.put d v) (upd σ d x) w:=by
 obtain⟨wy,L,hs,hj⟩:=h;exact⟨wy,L,hs.put hv d,hj⟩
theorem IS.know{ρ:RM}{sp:Bool}{rest:List (TupD D ts)}{st:St D}{σ:Nat→Value}{w:World}(h:IS J Jx all fr H ρ sp rest st σ w){c:Operand}{b:Bool}(hc:ev σ c = .bool b):IS J Jx all fr H ρ sp rest (st.know c b) σ w:=by
 obtain⟨wy,L,hs,hj⟩:=h;exact⟨wy,L,hs.know hc,hj⟩
theorem IS.res{ρ:RM}{sp:Bool}{rest:List (TupD D ts)}{st:St D}{σ:Nat→Value}{w:World}(h:IS J Jx all fr H ρ sp rest st σ w){x:Value}{v:SV D}(hv:Rv H ρ x v):Rv H ρ x (Go.Proofs.YtmfeabjhjhjfeaaGreatDoor.res st.kn v):=by
 obtain⟨wy,L,hs,_⟩:=h;exact hs.res hv
theorem IS.slr{ρ:RM}{sp:Bool}{rest:List (TupD D ts)}{st:St D}{σ:Nat→Value}{w:World}(h:IS J Jx all fr H ρ sp rest st σ w):SlR H ρ st.sl σ:=by
 obtain⟨wy,L,hs,_⟩:=h;exact hs.sl
def YOk(P:Program)(ts:List Nat)(H:Hp)(lp:Nat)(J Jx:Nat→World→Prop)(all:List (TupD D ts)):Prop:=∀ k A0 vs,k<all.length→(∃ y,all[k]? = some y∧ArgsR P H ts y vs)→J k A0→(∀ b o,H b=some o→A0.heap[b]? = some o)→Yield P lp vs A0 fun v B=>(∀ b o,H b=some o→B.heap[b]? = some o)∧((v = .bool true∧J (k+1) B)∨(v = .bool false∧Jx k B))
def GoesI(fr:List (Nat×Blk D))(H:Hp)(J Jx:Nat→World→Prop)(all:List (TupD D ts))(ρ:RM)(K:Bool→St D→List (TupD D ts)→Prop)(T:(Nat→Value)→World→Prop):Prop:=∀ sp' st' rest' σ' w' ρ',K sp' st' rest'→RM.le ρ ρ'→IS J Jx all fr H ρ' sp' rest' st' σ' w'→T σ' w'
theorem GoesI.mono{ρ ρ':RM}{K:Bool→St D→List (TupD D ts)→Prop}{T:(Nat→Value)→World→Prop}(h:GoesI fr H J Jx all ρ K T)(hρ:RM.le ρ ρ'):GoesI fr H J Jx all ρ' K T:=fun sp st rest σ w ρ2 hk h1 hs=>h sp st rest σ w ρ2 hk (hρ.trans h1) hs
theorem memI_ok{P:Program}{tb:Tb D}{σ:Nat→Value}{ty:TypeId}{w w0:World}{H0:Hp}{ρ:RM}{R L F:List Ent}{st st':St D}(hs:Sat fr F w0 H0 R H ρ L st σ w){op:Op}{v:SV D}(h:memI P tb st fr op=some (v,st')):Dn P σ op ty w fun x w'=>∃ ρ' L',RM.le ρ ρ'∧Sat fr F w0 H0 R H ρ' L' st' σ w'∧Rv H ρ' x v:=by
 unfold memI at h
 split at h
 ·rename_i T
  split at h
  ·rename_i gs v' ef ha
   cases h;unfold alE at ha
   split at ha
   ·rename_i l hl
    cases ha;obtain⟨z,hz,hc⟩:=q237 hl;intro r md N ops l2 Q Dd d pos af gd hg hd k;refine RW.alloc hs.mem hz z.cells.toList (by simp) hg hd fun b w' hM=>k _ _ ?_;obtain⟨a1,a2⟩:=hs.new (q:=.b b) (b:=.box T l) (Hp.le.refl _) ⟨b,_,RM.put_same _ _ _,rfl,hc _ _⟩ hM;exact⟨_,_,a1,a2,b,RM.put_same _ _ _,rfl⟩
   ·cases ha
  ·cases h
 ·rename_i T x
  split at h
  ·rename_i a hvs
   split at h
   ·rename_i gs v' ef ha
    cases h;unfold bxE at ha;obtain⟨ho,ha⟩:=cif ha;cases ha;obtain⟨y,e,h1⟩:=rv1 (q27 hs hvs);cases e;obtain⟨us,g1,g2⟩:=q203 ho h1;intro r md N ops l2 Q Dd d pos af gd hg hd k;refine RW.box hs.mem _ us rfl g1 hg hd fun b w' hM=>k _ _ ?_;obtain⟨a1,a2⟩:=hs.new (q:=.b b) (b:=.box T (q107 a)) (Hp.le.refl _) ⟨b,us,RM.put_same _ _ _,rfl,g2.mono (Hp.le.refl _) (hs.fresh _)⟩ hM;exact⟨_,_,a1,a2,b,RM.put_same _ _ _,rfl⟩
   ·cases h
  ·cases h
 ·rename_i T x y
  split at h
  ·rename_i id off b hvs
   split at h
   ·rename_i gs v' ef ha
    cases h;obtain⟨x',y',e,h1,h2⟩:=rv2 (q27 hs hvs);cases e;unfold stE at ha;obtain⟨ho,ha⟩:=cif ha;rw [Bool.and_eq_true] at ho;obtain⟨ho,hsz⟩:=ho;obtain⟨us,g1,g2⟩:=q203 ho h2;have hlen:=RvL.length g2;have hsz:∃ i,P.info? T=some i∧i.size=us.length:=by rw [hlen];exact q195 hsz
    have h1c:∀ u∈us,u.oneCell'=true:=q439 ho g2;obtain⟨bl,e1,e2⟩:=h1;intro r md N ops l2 Q Dd d pos af gd hg hd k;simp only at ha
    split at ha
    ·rename_i T' cs hl
     obtain⟨hle,ha⟩:=cif ha;cases ha;obtain⟨L1,S,L2,⟨b',vs,f1,rfl,f3⟩,hM,hK⟩:=hs.write hl;rw [e1] at f1;cases f1;refine RW.store hM L1.length _ us _ hsz e2 rfl g1 h1c (q22 _ _ _) (by rw [hlen,RvL.length f3];exact Nat.le_of_ble_eq_true hle) rfl _ (q140 _ _ _ _) hg hd fun w' hM'=>k _ _ ?_;exact⟨ρ,_,RM.le.refl _,hK (Hp.le.refl _) (RM.le.refl _) ⟨bl,_,e1,rfl,q440 f3 g2⟩ hM' hs.nx,rfl⟩
    ·cases ha
   ·cases h
  ·cases h
 ·cases h
theorem q910(hE:E.Ok)(hG:E.G H)(hJ:∀ k A B,J k A→Below A.heap.size A B→J k B)(hY:YOk E.P ts H lp J Jx all){r:Option Nat}{md:Nat}{ops:Array Oper}{Q:Exit→List Deferred→(Nat→Value)→World→Prop}{Dd:List Deferred}{K:Bool→St D→List (TupD D ts)→Prop}{ρ:RM}(h0:ρ 0=some (.v (.func (.yield lp) #[] #[]))){o:Oper}{l:List Oper}{sp:Bool}{st:St D}{rest:List (TupD D ts)}{σ:Nat→Value}{w:World}(hs:IS J Jx all fr H ρ sp rest st σ w)(h:yOp E fr ts o sp st rest K)(hgd:gdOk ops σ o.guard=true)(hd:dstOk o.dst N=true)
  (hk:GoesI fr H J Jx all ρ K fun σ' w'=>RW r md E.P N ops l Q Dd σ' w'):RW r md E.P N ops (o::l) Q Dd σ w:=by
 obtain⟨wy,L,hs,hj⟩:=hs;unfold yOp at h
 split at h
 ·rename_i xs hy
  split at h
  ·exact h.elim
  ·cases rest with
   | nil=>exact h.elim
   | cons x rr=>
   simp only [Yl] at h;obtain⟨k,_,hJk,hrest⟩:=hj
   have hkl:k<all.length:=by
    rcases Nat.lt_or_ge k all.length with h1 | h1
    ·exact h1
    ·rw [List.drop_eq_nil_of_le h1] at hrest;cases hrest
   rw [List.drop_eq_getElem_cons hkl] at hrest;obtain⟨rfl,rfl⟩:=List.cons.inj hrest
   split at h
   ·rename_i vs hvs
    split at h
    ·rename_i ls hls
     split at h
     ·rename_i a ha
      obtain⟨hax,hT,hF⟩:=h;have hA:=q445 hE.tb ts (q27 hs hvs) hls ha;rw [hax] at hA;obtain⟨d,op,ty,ps,af,gd⟩:=o;obtain⟨g,ys,tys,hop,hg,rfl⟩:=q755 (op:=op) hy;subst hop;have hgv:ρ 0=some (.v (ev σ g)):=q35 hs.sl hg;rw [h0] at hgv
      have hgv:ev σ g = .func (.yield lp) #[] #[]:=by
       have:=Option.some.inj hgv;injection this with this
       exact this.symm
      have fresh:∀ {w':World},(∀ b o,H b=some o→w'.heap[b]? = some o)→Sat fr [] w' H [] H ρ [] (⟨st.sl,[],st.kn,st.nx⟩:St D) σ w':=fun hag=>⟨Mem.start hag,hs.sl,rfl,hs.fr,hs.kn,hs.nx⟩
      refine RW.yield hgv rfl (hY k w _ hkl ⟨_,List.getElem?_eq_getElem hkl,hA⟩ (hJ _ _ _ hJk hs.mem.below) hs.mem.agree) hgd hd fun v w' ⟨hag,hv⟩=>?_;rcases hv with ⟨rfl,hv⟩ | ⟨rfl,hv⟩
      ·exact hk _ _ _ _ _ _ hT (RM.le.refl _) ⟨w',[],(fresh hag).put (v:=.k true) rfl d,(show JS J Jx all false _ _ from⟨k+1,hkl,hv,rfl⟩)⟩
      ·exact hk _ _ _ _ _ _ hF (RM.le.refl _) ⟨w',[],(fresh hag).put (v:=.k false) rfl d,(show JS J Jx all true _ _ from⟨k,hkl,hv⟩)⟩
     ·exact h.elim
    ·exact h.elim
   ·exact h.elim
 ·split at h
  ·split at h
   ·rename_i v st' hm
    obtain⟨d,op,ty,ps,af,gd⟩:=o;refine memI_ok (ty:=ty) hs hm hgd hd fun x w' ⟨ρ',L',a1,a2,a3⟩=>?_;exact hk _ _ _ _ _ _ h a1 ⟨wy,L',a2.put a3 d,hj⟩
   ·exact h.elim
  ·obtain⟨v,e,nb,hi,h1,h2⟩:=q616 (ops:=ops) hE h
   cases e with
   | true=>exact h1.elim
   | false=>
    rcases h2 [] none with ⟨_,_,hq⟩ | ⟨hq,_⟩
    ·refine RW.cons1 (hq hG (show Sat fr [] wy H [] H ρ L ⟨st.sl,st.bk,st.kn,st.nx⟩ σ w from hs) hgd hd fun x w' hm hx=>RW.nil ⟨rfl, ?_⟩)
     have hM:=hm _ hs.mem;exact hk _ _ _ _ _ _ h1 (RM.le.refl _) ⟨wy,L,(⟨hM,hs.sl,hs.bk,hs.fr,hs.kn,hs.nx⟩:Sat fr [] wy H [] H ρ L st σ w').put hx o.dst,hj⟩
    ·cases hq
theorem q558(hE:E.Ok)(hG:E.G H)(hJ:∀ k A B,J k A→Below A.heap.size A B→J k B)(hY:YOk E.P ts H lp J Jx all){r:Option Nat}{md:Nat}{ops:Array Oper}{Q:Exit→List Deferred→(Nat→Value)→World→Prop}{Dd:List Deferred}{K:Bool→St D→List (TupD D ts)→Prop}:∀ {l:List Oper} {ρ:RM} {sp:Bool} {st:St D} {rest:List (TupD D ts)} {σ:Nat→Value} {w:World},ρ 0=some (.v (.func (.yield lp) #[] #[]))→IS J Jx all fr H ρ sp rest st σ w→runY E N fr ts ops l sp st rest K→(GoesI fr H J Jx all ρ K fun σ' w'=>Q .normal Dd σ' w')→RW r md E.P N ops l Q Dd σ w
 | [],ρ,sp,st,rest,σ,w,h0,hs,h,hk=>RW.nil (hk _ _ _ _ _ _ h (RM.le.refl _) hs)
 | o::l,ρ,sp,st,rest,σ,w,h0,hs,h,hk=>by
  unfold runY at h;obtain⟨hd,h⟩:=cifP h;have step:∀ {st:St D},IS J Jx all fr H ρ sp rest st σ w→gdOk ops σ o.guard=true→(yOp E fr ts o sp st rest fun sp' st' rest'=>runY E N fr ts ops l sp' st' rest' K)→RW r md E.P N ops (o::l) Q Dd σ w:=fun hs hgt h=>q910 hE hG hJ hY h0 hs h hgt hd fun sp' st' rest' σ' w' ρ' h1 h2 h3=>q558 hE hG hJ hY (h2 _ _ h0) h3 h1 (hk.mono h2)
  have pass:∀ {st:St D},IS J Jx all fr H ρ sp rest st σ w→gdOk ops σ o.guard=false→runY E N fr ts ops l sp (st.put o.dst (.c undef)) rest K→RW r md E.P N ops (o::l) Q Dd σ w:=fun hs hgf h=>by
   obtain⟨d,op,ty,ps,af,gd⟩:=o;exact RW.pass hgf hd (q558 hE hG hJ hY h0 (hs.put (v:=.c undef) rfl d) h hk)
  have gok:∀ {j want d} {x:Bool},o.guard=some (j,want)→(ops[j]?).bind (·.dst)=some d→σ d = .bool x→gdOk ops σ o.guard=(x == want):=fun h1 h2 h3=>by
   unfold gdOk;rw [h1];simp only [h2,h3]
  unfold gdE at h;cases hgd:o.guard with
  | none=>
   simp only [hgd] at h;exact step hs (by rw [hgd];rfl) h
  | some jw=>
   obtain⟨j,want⟩:=jw;simp only [hgd] at h;cases hj':(ops[j]?).bind (·.dst) with
   | none=>
    simp only [hj'] at h;refine pass hs ?_ h;unfold gdOk;rw [hgd];simp only [hj']
   | some d=>
    simp only [hj'] at h;cases hsl:(getS st.sl d).map (Go.Proofs.YtmfeabjhjhjfeaaGreatDoor.res st.kn) with
    | none=>simp only [hsl] at h
    | some s=>
     obtain⟨v0,hv0,hv1⟩:=Option.map_eq_some_iff.1 hsl;have hv2:=hs.res (hs.slr _ _ hv0);rw [hv1] at hv2;simp only [hsl] at h
     have ask:∀ {v:SV D},Rv H ρ (σ d) v→askF v (cdP want (yOp E fr ts o sp (st.know (.tmp d) true) rest fun sp' st' rest'=>runY E N fr ts ops l sp' st' rest' K) (runY E N fr ts ops l sp ((st.know (.tmp d) true).put o.dst (.c undef)) rest K))
       (cdP want (runY E N fr ts ops l sp ((st.know (.tmp d) false).put o.dst (.c undef)) rest K) (yOp E fr ts o sp (st.know (.tmp d) false) rest fun sp' st' rest'=>runY E N fr ts ops l sp' st' rest' K))→RW r md E.P N ops (o::l) Q Dd σ w:=fun hv h=>by
      rcases q245 hv h with ⟨e,h⟩ | ⟨e,h⟩
      ·have hk:=hs.know (c:=.tmp d) (b:=true) e
       have hgg:=gok hgd hj' e;cases want with
       | true=>exact step hk hgg h
       | false=>exact pass hk hgg h
      ·have hk:=hs.know (c:=.tmp d) (b:=false) e
       have hgg:=gok hgd hj' e;cases want with
       | true=>exact pass hk hgg h
       | false=>exact step hk hgg h
     cases s with
     | k b=>
      simp only at h;have hgg:=gok hgd hj' (show σ d = .bool b from hv2);cases hb:b == want with
      | true=>rw [hb] at h;exact step hs (hgg.trans hb) h
      | false=>rw [hb] at h;exact pass hs (hgg.trans hb) h
     | c v=>
      simp only at h;cases hb:q148 v with
      | true=>rw [hb] at h;exact h.elim
      | false=>
       rw [hb] at h;refine pass hs ?_ h;unfold gdOk;rw [hgd];simp only [hj',show σ d=v from hv2];cases v <;> first | rfl | cases hb
     | b x=>exact ask hv2 h
     | p p i=>exact ask hv2 h
     | _=>exact h.elim
theorem q627(hE:E.Ok)(hG:E.G H)(hJ:∀ k A B,J k A→Below A.heap.size A B→J k B)(hY:YOk E.P ts H lp J Jx all){md:Nat}{ops:Array Oper}{fl:List Nat}{Dd:List Deferred}{K:Bool→St D→List (TupD D ts)→Prop}{Q:Exit→Act→World→Prop}(hQ:∀ c a w,¬Q (.panic c) a w)(hsel:Region.noSelect ops=true):∀ {g:List Nat} {ls:Array Bool} {ρ:RM} {sp:Bool} {st:St D} {rest:List (TupD D ts)} {σ:Nat→Value} {w:World} {a:Act},
  ρ 0=some (.v (.func (.yield lp) #[] #[]))→Rep N Dd σ a→IS J Jx all fr H ρ sp rest st σ w→runYF E N fr ts ops fl g sp st rest K→flB ops fl g ls=true→(GoesI fr H J Jx all ρ K fun σ' w'=>∀ a',Rep N Dd σ' a'→Q .normal a' w')→q36 (FR none) md E.P ops Q (AgH H) g.length ls a w
 | [],ls,ρ,sp,st,rest,σ,w,a,h0,ha,hs,h,hf,k=>⟨List.isEmpty_iff.1 hf,k _ _ _ _ _ _ h (RM.le.refl _) hs a ha⟩
 | i::g,ls,ρ,sp,st,rest,σ,w,a,h0,ha,hs,h,hf,k=>by
  unfold runYF at h;unfold flB at hf;rw [Bool.and_eq_true,Bool.and_eq_true] at hf;obtain⟨⟨hr,hfr⟩,hf⟩:=hf;have hr:i∈Region.ready .any ops ls:=by simpa using hr
  cases ho:ops[i]? with
  | none=>simp only [ho] at h
  | some o=>
   simp only [ho] at h;obtain⟨hd,h⟩:=cifP h;have ag:AgH H w:=hs.ag;have hwt:Region.wanted o (yielded ops a.tmps)=gdOk ops σ o.guard:=q78 ha;have more:∀ {st':St D} {sp':Bool} {rest':List (TupD D ts)} {σ':Nat→Value} {w':World} {ρ':RM} {a':Act},Rep N Dd σ' a'→runYF E N fr ts ops fl g sp' st' rest' K→RM.le ρ ρ'→IS J Jx all fr H ρ' sp' rest' st' σ' w'→q36 (FR none) md E.P ops Q (AgH H) g.length (ls.setIfInBounds i true) a' w':=fun h1 h2 h3 h4=>q627 hE hG hJ hY hQ hsel (h3 _ _ h0) h1 h4 h2 hf (k.mono h3)
   have quiet:fl.any (Nat.beq i)=true→q209 o=true:=fun hq=>by
    rw [hq,cond_true,ho,Bool.and_eq_true] at hfr;exact hfr.1
   have first:∀ {v:Value},fl.any (Nat.beq i)=true→YG (AgH H) E.P ops o v a→q36 (FR none) md E.P ops Q (AgH H) g.length (ls.setIfInBounds i true) (a.put o.dst v) w→q36 (FR none) md E.P ops Q (AgH H) (g.length+1) ls a w:=fun hq hy hw=>by
    rw [hq,cond_true,Bool.and_eq_true] at hfr;exact q305 (fun _ o _ ρ=>Oper.semAt_none ρ o) ho (Region.noSelect_spec hsel) (fun c a w hc=>absurd hc (hQ _ _ _)) g.length ls a w ag (Region.free_spec ho hfr.2) hr hy hw
   have only:fl.any (Nat.beq i)=false→wpOpIn (FR none) md E.P ops Q i (fun a' w'=>AgH H w'∧q36 (FR none) md E.P ops Q (AgH H) g.length (ls.setIfInBounds i true) a' w') a w→q36 (FR none) md E.P ops Q (AgH H) (g.length+1) ls a w:=fun hq hw=>by
    rw [hq,cond_false] at hfr;have e:Region.ready .any ops ls=[i]:=q618 hfr;refine⟨fun h=>(by rw [e] at h;cases h),fun j hj=>?_⟩;rw [e,List.mem_singleton] at hj;subst hj;exact hw
   have noAbout:∀ f,o.about E.P w a.eval=some f→(FR none).fn f:=fun f _=>FR_fn _ f
   have pass:∀ {st:St D},IS J Jx all fr H ρ sp rest st σ w→gdOk ops σ o.guard=false→runYF E N fr ts ops fl g sp (st.put o.dst (.c undef)) rest K→q36 (FR none) md E.P ops Q (AgH H) (g.length+1) ls a w:=fun hs hg h=>by
    have hw:=more (ha.put hd undef) h (RM.le.refl _) (hs.put (v:=.c undef) rfl o.dst);cases hq:fl.any (Nat.beq i) with
    | false=>
     refine only hq ?_;unfold wpOpIn;rw [ho];simp only;rw [hwt,hg];exact⟨noAbout,ag,hw⟩
    | true=>exact first hq ⟨.inr ⟨hwt.trans hg,rfl⟩,fun w=>q264 (quiet hq) a w⟩ hw
   have step:∀ {st:St D},IS J Jx all fr H ρ sp rest st σ w→gdOk ops σ o.guard=true→yFl E fr ts (fl.any (Nat.beq i)) o sp st rest (fun sp' st' rest'=>runYF E N fr ts ops fl g sp' st' rest' K)→q36 (FR none) md E.P ops Q (AgH H) (g.length+1) ls a w:=fun {st} hs hg h=>by
    unfold yFl at h;cases hq:fl.any (Nat.beq i) with
    | true=>
     rw [hq] at h;simp only at h
     split at h
     ·rename_i v hv
      have hs0:=hs;obtain⟨wy,L,hs,hj⟩:=hs;obtain⟨⟨x,h1,h2⟩,h3⟩:=q501 hs hv;refine first hq ⟨.inl ⟨hwt.trans hg,fun w' hw'=>?_⟩,fun w=>h3 a w⟩ (more (ha.put hd x) h (RM.le.refl _) (hs0.put h1 o.dst))
      rw [ha.eval];exact h2 w' hw' _ _ _ _
     ·exact h.elim
    | false=>
     rw [hq] at h;simp only at h;refine only hq ?_
     let Q1:Exit→List Deferred→(Nat→Value)→World→Prop:=fun e D' σ' w'=>match e with
      | .normal=>D'=Dd∧AgH H w'∧∀ a',Rep N Dd σ' a'→q36 (FR none) md E.P ops Q (AgH H) g.length (ls.setIfInBounds i true) a' w'
      | _=>False
     have h1:RW none md E.P N ops [o] Q1 Dd σ w:=q910 hE hG hJ hY h0 hs h hg hd fun sp' st' rest' σ' w' ρ' g1 g2 g3=>RW.nil ⟨rfl,g3.ag,fun a' ha'=>more ha' g1 g2 g3⟩;have h2:=h1 a ha;unfold wpListIn at h2;unfold wpOpIn;rw [ho];simp only;rw [hwt,hg] at h2 ⊢;simp only [if_true] at h2 ⊢;refine Oper.wpIn_QK (fun a' w' hk=>?_) (fun e a' w' hne hk=>?_) h2
     ·obtain⟨D',σ',g1,g2,g3,g4⟩:=(show lift N Q1 .normal a' w' from hk)
      subst g2;exact⟨g3,g4 a' g1⟩
     ·obtain⟨D',σ',g1,g2⟩:=hk
      cases e with
      | normal=>exact absurd rfl hne
      | _=>exact g2.elim
   have gok:∀ {j want d} {x:Bool},o.guard=some (j,want)→(ops[j]?).bind (·.dst)=some d→σ d = .bool x→gdOk ops σ o.guard=(x == want):=fun h1 h2 h3=>by
    unfold gdOk;rw [h1];simp only [h2,h3]
   unfold gdE at h;cases hgd:o.guard with
   | none=>
    simp only [hgd] at h;exact step hs (by rw [hgd];rfl) h
   | some jw=>
    obtain⟨j,want⟩:=jw;simp only [hgd] at h;cases hj:(ops[j]?).bind (·.dst) with
    | none=>
     simp only [hj] at h;refine pass hs ?_ h;unfold gdOk;rw [hgd];simp only [hj]
    | some d=>
     simp only [hj] at h;cases hsl:(getS st.sl d).map (Go.Proofs.YtmfeabjhjhjfeaaGreatDoor.res st.kn) with
     | none=>simp only [hsl] at h
     | some s=>
      obtain⟨v0,hv0,hv1⟩:=Option.map_eq_some_iff.1 hsl;have hv2:=hs.res (hs.slr _ _ hv0);rw [hv1] at hv2;simp only [hsl] at h
      have ask:∀ {v:SV D},Rv H ρ (σ d) v→askF v (cdP want (yFl E fr ts (fl.any (Nat.beq i)) o sp (st.know (.tmp d) true) rest (fun sp' st' rest'=>runYF E N fr ts ops fl g sp' st' rest' K)) (runYF E N fr ts ops fl g sp ((st.know (.tmp d) true).put o.dst (.c undef)) rest K))
        (cdP want (runYF E N fr ts ops fl g sp ((st.know (.tmp d) false).put o.dst (.c undef)) rest K) (yFl E fr ts (fl.any (Nat.beq i)) o sp (st.know (.tmp d) false) rest (fun sp' st' rest'=>runYF E N fr ts ops fl g sp' st' rest' K)))→q36 (FR none) md E.P ops Q (AgH H) (g.length+1) ls a w:=fun hv h=>by
       rcases q245 hv h with ⟨e,h⟩ | ⟨e,h⟩
       ·have hk:=hs.know (c:=.tmp d) (b:=true) e
        have hgg:=gok hgd hj e;cases want with
        | true=>exact step hk hgg h
        | false=>exact pass hk hgg h
       ·have hk:=hs.know (c:=.tmp d) (b:=false) e
        have hgg:=gok hgd hj e;cases want with
        | true=>exact pass hk hgg h
        | false=>exact step hk hgg h
      cases s with
      | k b=>
       simp only at h;have hgg:=gok hgd hj (show σ d = .bool b from hv2);cases hb:b == want with
       | true=>rw [hb] at h;exact step hs (hgg.trans hb) h
       | false=>rw [hb] at h;exact pass hs (hgg.trans hb) h
      | c v=>
       simp only at h;cases hb:q148 v with
       | true=>rw [hb] at h;exact h.elim
       | false=>
        rw [hb] at h;refine pass hs ?_ h;unfold gdOk;rw [hgd];simp only [hj,show σ d=v from hv2];cases v <;> first | rfl | cases hb
      | b x=>exact ask hv2 h
      | p p i=>exact ask hv2 h
      | _=>exact h.elim
theorem runI_ok(hE:E.Ok)(hG:E.G H)(hJ:∀ k A B,J k A→Below A.heap.size A B→J k B)(hY:YOk E.P ts H lp J Jx all):∀ (c:Code) {pos:List Nat} {sp:Bool} {st:St D} {rest:List (TupD D ts)} {σ:Nat→Value} {w:World} {ρ:RM} {K:Exit→Bool→St D→List (TupD D ts)→Prop} {Q:Exit→List Deferred→(Nat→Value)→World→Prop} {md:Nat},
  ρ 0=some (.v (.func (.yield lp) #[] #[]))→IS J Jx all fr H ρ sp rest st σ w→runI E N fr ts c pos sp st rest K→(∀ e,GoesI fr H J Jx all ρ (K e) fun σ' w'=>Q e [] σ' w')→CW none md E.P N c Q [] σ w:=by
 intro c
 induction c with
 | skip=>intro pos sp st rest σ w ρ K Q md h0 hs h hk;exact CW.skip (hk _ _ _ _ _ _ _ h (RM.le.refl _) hs)
 | ret=>intro pos sp st rest σ w ρ K Q md h0 hs h hk;exact CW.ret (hk _ _ _ _ _ _ _ h (RM.le.refl _) hs)
 | exit id=>intro pos sp st rest σ w ρ K Q md h0 hs h hk;exact CW.exit (hk _ _ _ _ _ _ _ h (RM.le.refl _) hs)
 | region id ops draw=>
  intro pos sp st rest σ w ρ K Q md h0 hs h hk;unfold runI at h;cases draw with
  | false=>
   obtain⟨l⟩:=ops;exact CW.region (q558 hE hG hJ hY h0 hs h (hk .normal))
  | true=>
   simp only at h
   split at h
   ·rename_i pe hpe
    split at h
    ·rename_i g hrw
     intro a ha;obtain⟨hc,h⟩:=cifP h;rw [Bool.and_eq_true,Bool.and_eq_true] at hc;obtain⟨hc1,hc2,hc3⟩:=hc
     let Q1:Exit→Act→World→Prop:=fun e a w=>match e with
      | .normal=>lift N Q .normal a w
      | _=>False
     have hs':IS J Jx all fr H ρ sp rest st σ { w with drawn:=w.drawn+1 }:=by
      obtain⟨wy,L,hs,hj⟩:=hs;exact⟨wy,L,⟨hs.mem.drew,hs.sl,hs.bk,hs.fr,hs.kn,hs.nx⟩,hj⟩
     have h1:=q627 (Q:=Q1) (md:=md) (Dd:=[]) hE hG hJ hY (fun _ _ _ hq=>hq) hc1 h0 ha hs' h hc3 fun sp' st' rest' σ' w' ρ' g1 g2 g3 a' ha'=>⟨[],σ',ha',hk _ _ _ _ _ _ _ g1 g2 g3⟩
     rw [Nat.eq_of_beq_eq_true hc2] at h1;refine wpIn_mono (wpIn_region_any hE.mo h1.any) fun e a' w' hq=>?_;cases e with
     | normal=>exact hq
     | _=>exact hq.elim
    ·exact h.elim
   ·exact h.elim
 | cond c a b iha ihb=>
  intro pos sp st rest σ w ρ K Q md h0 hs h hk;unfold runI at h;cases hc:(evO st.sl c).map (Go.Proofs.YtmfeabjhjhjfeaaGreatDoor.res st.kn) with
  | none=>simp only [hc] at h
  | some s=>
   obtain⟨v0,hv0,hv1⟩:=Option.map_eq_some_iff.1 hc;have hv2:=hs.res (q35 hs.slr hv0);rw [hv1] at hv2;simp only [hc] at h
   have ask:askF s (runI E N fr ts a (2::pos) sp (st.know c true) rest K) (runI E N fr ts b (3::pos) sp (st.know c false) rest K)→CW none md E.P N (.cond c a b) Q [] σ w:=fun h=>by
    rcases q245 hv2 h with ⟨e,h⟩ | ⟨e,h⟩
    ·exact CW.cond_true e (iha h0 (hs.know e) h hk)
    ·exact CW.cond_false e (ihb h0 (hs.know e) h hk)
   cases s with
   | k x=>
    cases x with
    | true=>exact CW.cond_true hv2 (iha h0 hs h hk)
    | false=>exact CW.cond_false hv2 (ihb h0 hs h hk)
   | _=>exact ask h
 | block id c ih=>
  intro pos sp st rest σ w ρ K Q md h0 hs h hk;refine CW.block (ih h0 hs h fun e=>?_);intro sp' st' rest' σ' w' ρ' h1 h2 h3;cases e with
  | exit id'=>
   show bif Nat.beq id' id then Q .normal [] σ' w' else Q (.exit id') [] σ' w';have h1:cdP (Nat.beq id' id) (K .normal sp' st' rest') (K (.exit id') sp' st' rest'):=h1;cases hb:Nat.beq id' id with
   | true=>rw [hb] at h1;exact hk _ _ _ _ _ _ _ h1 h2 h3
   | false=>rw [hb] at h1;exact hk _ _ _ _ _ _ _ h1 h2 h3
  | _=>exact hk _ _ _ _ _ _ _ h1 h2 h3
 | seq a b iha ihb=>
  intro pos sp st rest σ w ρ K Q md h0 hs h hk;unfold runI at h;refine CW.seq (iha h0 hs h fun e=>?_);intro sp' st' rest' σ' w' ρ' h1 h2 h3;cases e with
  | normal=>exact ihb (h2 _ _ h0) h3 h1 fun e=>(hk e).mono h2
  | _=>exact hk _ _ _ _ _ _ _ h1 h2 h3
 | loop c ih=>
  intro pos sp st rest σ w ρ K Q md h0 hs h hk;unfold runI at h
  split at h
  ·rename_i pe hpe
   obtain⟨wy,L,hs,hj⟩:=hs;obtain⟨ρ1,g1,g2⟩:=hs.tag
   split at h
   ·rename_i s0 hs0
    obtain⟨m,hm⟩:=h;generalize hstep:(fun(q:List (TupD D ts)×TupV D pe.tp.vts) (rec:List (TupD D ts)×TupV D pe.tp.vts→Prop)=>_)=step at hm;obtain⟨ρ2,L2,st2,e1,e2,e3⟩:=q171 (kn:=st.tag.kn) g2.nx (Hp.le.refl _) (RM.le.refl _) g2.kn g2.fr g2 hs0;refine CW.loop (β:=Nat) (fun n σ w=>∃ rest s ρ' st',RM.le ρ1 ρ'∧makeE pe.tp st.tag.nx st.tag.kn s=some st'∧IS J Jx all fr H ρ' false rest st' σ w∧LoopN step n (rest,s)) (fun n=>n) m ⟨rest,s0,ρ2,st2,e2,e1,⟨wy,L2,e3,hj⟩,hm⟩ ?_
    rintro n σ w ⟨rest,s,ρ',st',f1,f2,f3,f8⟩
    cases n with
    | zero=>exact f8.elim
    | succ n=>
     have f8:step (rest,s) (LoopN step n):=f8;rw [← hstep] at f8;simp only [f2] at f8
     split at f8
     ·refine ih (f1 _ _ (g1 _ _ h0)) f3 f8 fun e=>?_
      intro sp3 st3 rest3 σ3 w3 ρ3 h1 h2 h3;cases e with
      | normal=>
       show []=[]∧_;refine⟨rfl, ?_⟩;simp only at h1;cases sp3 with
       | true=>exact h1.elim
       | false=>
        simp only at h1
        split at h1
        ·rename_i s' hfill
         obtain⟨wy3,L3,hs3,hj3⟩:=h3;obtain⟨ρ4,L4,st4,i1,i2,i3⟩:=q171 (kn:=st.tag.kn) g2.nx (Hp.le.refl _) (f1.trans h2) g2.kn g2.fr hs3 hfill;exact⟨n,⟨rest3,s',ρ4,st4,i2,i1,⟨wy3,L4,i3,hj3⟩,by rw [hstep] at h1;exact h1⟩,Nat.lt_succ_self _⟩
        ·exact h1.elim
      | _=>exact hk _ _ _ _ _ _ _ h1 ((g1.trans f1).trans h2) h3
     ·exact f8.elim
   ·exact h.elim
  ·exact h.elim
 | rangeFunc f ps a b _ _=>intro pos sp st rest σ w ρ K Q md h0 hs h hk;exact h.elim
 | scope c _=>intro pos sp st rest σ w ρ K Q md h0 hs h hk;exact h.elim
 | label l=>intro pos sp st rest σ w ρ K Q md h0 hs h hk;exact h.elim
 | goto l=>intro pos sp st rest σ w ρ K Q md h0 hs h hk;exact h.elim
 | refuse s=>intro pos sp st rest σ w ρ K Q md h0 hs h hk;exact h.elim
def ptrsE:Nat→List Nat→List (SV D)
 | _,[]=>[]
 | n,_::r=>.ptr n 0::ptrsE (n+1) r
def frE:Nat→List Nat→List (List (SV D))→List (Nat×Blk D)
 | n,t::r,c::m=>(n,.fbx t c)::frE (n+1) r m
 | _,_,_=>[]
theorem q504{P:Program}{tb:Tb D}(htb:TbOk tb):∀ {cs:List Nat} {x:TupD D cs} {lb:List Value} {ls:List (List (SV D))} {n:Nat} {ρ0:RM},CapsR H cs x lb→tupC tb cs x=some ls→(∀ id,n≤id→ρ0 id=none)→∃ ρ,RM.le ρ0 ρ∧(∀ id,n+cs.length≤id→ρ id=none)∧RvL H ρ lb (ptrsE (D:=D) n cs)∧BkR H ρ (frE n cs ls) []
 | [],_,lb,ls,n,ρ0,h,hl,hn=>by
  cases hl;exact⟨ρ0,RM.le.refl _,hn,h,rfl⟩
 | t::r,x,lb,ls,n,ρ0,⟨b,us,q,e,h1,h2,h3⟩,hl,hn=>by
  rw [tupC] at hl;cases ha:toC tb t x.1 with
  | none=>simp only [ha] at hl;cases hl
  | some a=>
   cases hb:tupC tb r x.2 with
   | none=>simp only [ha,hb] at hl;cases hl
   | some m=>
    simp only [ha,hb] at hl;cases hl;obtain⟨f1,f2⟩:=q108 hn (.b b);obtain⟨ρ,g1,g2,g3,g4⟩:=q504 (P:=P) htb h3 hb f2;have hp:ρ n=some (.b b):=g1 _ _ (RM.put_same _ _ _);refine⟨ρ,f1.trans g1,fun id hid=>g2 id (by rw [List.length_cons] at hid;omega),⟨_,q,e,⟨b,hp,rfl⟩,g3⟩,[],[],rfl,⟨rfl,b,us,hp,h1,q105 htb ha h2⟩,g4⟩
def iterF(E:Env D)(f:Nat)(cs ts:List Nat)(x:TupD D cs)(l:List (TupD D ts)):Prop:=match tupC E.tb cs x with
 | some ls=>match E.P.funcs[f]? with
  | some fn=>match fn.body with
   | some c=>match fn.results.toList with
    | []=>cdP (Nat.ble (cs.length+1) fn.ntmps) (runI E fn.ntmps (frE 1 cs ls) ts c [] false ⟨q149 0 (.kp 0::ptrsE 1 cs),[],[],1+cs.length⟩ l fun e sp _ rest=>cdP (isEnd e) (match sp with
     | true=>True
     | false=>rest=[]) False) False
    | _::_=>False
   | none=>False
  | none=>False
 | none=>False
theorem It.lift(hE:E.Ok)(it:It D)(h:∀ x l,it.W x l→iterF E it.f it.cs it.ts x l):it.Ok E.P E.G:=by
 intro x l hW H lb hG hC lp J Jx W hag hJ hJx hY hJ0;have hF:=h x l hW;unfold iterF at hF
 split at hF
 ·rename_i ls hls
  split at hF
  ·rename_i fn hfn
   split at hF
   ·rename_i c hc
    split at hF
    ·rename_i hres
     obtain⟨hN,hF⟩:=cifP hF;obtain⟨f1,f2⟩:=q108 (ρ:=fun _=>none) (nx:=0) (fun _ _=>rfl) (.v (.func (.yield lp) #[] #[]));obtain⟨ρ,g1,g2,g3,g4⟩:=q504 (P:=E.P) hE.tb hC hls f2;have h0:ρ 0=some (.v (.func (.yield lp) #[] #[])):=g1 _ _ (RM.put_same _ _ _);have hv:RvL H ρ (Value.func (.yield lp) #[] #[]::lb) (.kp 0::ptrsE 1 it.cs):=⟨_,lb,rfl,h0,g3⟩
     refine q166 hfn hc (by
      have hlen:=RvL.length g3
      have hp:∀ (n:Nat) (cs:List Nat),(ptrsE (D:=D) n cs).length=cs.length:=fun n cs=>by
       induction cs generalizing n with
       | nil=>rfl
       | cons _ _ ih=>simp [ptrsE,ih]
      have:=Nat.le_of_ble_eq_true hN
      simp [hlen,hp];exact this) ?_
     refine runI_ok (all:=l) (J:=J) (Jx:=Jx) (sp:=false) (rest:=l) (H:=H) (ρ:=ρ) hE hG hJ (fun k A0 vs hk hvs hJk hA=>hY k A0 vs hk hvs hJk hA) c h0 ⟨W,[],⟨Mem.start hag,q155 hv,(show BkR H ρ ([]:List (Nat×Blk D)) [] from rfl),g4,(fun _ _ h=>by cases h),fun id hid=>g2 id hid⟩,0,Nat.zero_le _,hJ0,rfl⟩ hF fun e=>?_;intro sp' st' rest' σ' w' ρ' h1 h2 h3;obtain⟨wy3,L3,h3,hj3⟩:=h3;have h4:=hj3.below hJ hJx h3.mem.below;obtain⟨he,h1⟩:=cifP h1;obtain⟨ux,e1,e2⟩:=q227 (vs:=[]) hE.tb h3 (by rw [hres];rfl);refine⟨q172 he,rfl,q304 ux,e2, ?_⟩;cases sp' with
     | true=>
      obtain⟨k,hk,hx⟩:=h4;exact .inr ⟨k,hk,hx⟩
     | false=>
      obtain⟨k,hkn,hk,hr⟩:=h4;have h1:rest'=[]:=h1;rw [h1] at hr;have hkl:l.length≤k:=List.drop_eq_nil_iff.1 hr.symm;rw [show k=l.length by omega] at hk;exact .inl hk
    ·exact hF.elim
   ·exact hF.elim
  ·exact hF.elim
 ·exact hF.elim
end
end
section
section
variable {D : Nat → Type} [∀ t, Dt (D t)]
variable {E : Env D} {w0 w : World} {H0 H : Hp} {ρ : RM} {L : List Ent} {st : St D} {σ : Nat → Value}
theorem retF_ok(hE:E.Ok){fn:Func}{rs:List Nat}{own:List (List Bool)}{Φ:TupD D rs→Prop}(h1:retF E.P E.tb fn rs own Φ st)(hs:Sat [] [] w0 H0 [] H ρ L st σ w) :
  ∃ ux H2 S,(∀ a,Rep fn.ntmps [] σ a→(results fn a.tmps).run E.P w = .ok (q304 ux) w)∧Mem w0 H0 w H2 S∧∃ y,Φ y∧ResR E.P E.tb rs own y H2 (q304 ux) S:=by
 unfold retF at h1
 split at h1
 ·rename_i v1 hv1
  split at h1
  ·rename_i ls0 hl0
   split at h1
   ·rename_i us hus
    split at h1
    ·rename_i ls1 hl1
     split at h1
     ·rename_i ps hps
      split at h1
      ·rename_i y hy
       obtain⟨H2,L2,k1,k2⟩:=hs.frzL (q142 own ls0);obtain⟨ux,e1,e2⟩:=q227 hE.tb k2 hus;have hkn:=(q357 (q142 own ls0) st).2.1;have e3:=q330 k2 e1;rw [hkn] at e3;obtain⟨cs2,e4,e5⟩:=q246 e3 hl1;obtain⟨q,e6,e7⟩:=q456 hE.tb hy;have hM2:=k2.mem;obtain⟨S,i1,i2⟩:=q557 (X:=[]) (by simpa using hM2) k2.bk e5 hps e7;refine⟨ux,H2,S,e2,by simpa using i1,y,h1, ?_⟩;intro nx ρ0 hn0 s b m hres;unfold resE at hres;rw [e6] at hres;simp only at hres
       split at hres
       ·rename_i ls' b' m' ho
        split at hres
        ·rename_i vs' hp
         cases hres;obtain⟨ρ2,j1,j2,j3,j3',j4,j5⟩:=i2 nx ρ0 _ _ _ hn0 ho;exact⟨ρ2,j1,j2,j3,j3',q359 (q228 e4 j4 hp),j5⟩
        ·cases hres
       ·cases hres
      ·exact h1.elim
     ·exact h1.elim
    ·exact h1.elim
   ·exact h1.elim
  ·exact h1.elim
 ·exact h1.elim
end
end
section
section
variable {D : Nat → Type} [∀ t, Dt (D t)]
variable {E : Env D} {w0 w : World} {H0 H : Hp} {ρ : RM} {L : List Ent} {st : St D} {σ : Nat → Value}
def topS(E:Env D)(n:Nat)(f:Nat)(ps rs:List Nat)(own:List (List Bool))(x:TupD D ps)(Φ:TupD D rs→Prop):Prop:=match tupC E.tb ps x with
 | some ls=>match packs E.P ps ls with
  | some vs=>match E.P.funcs[f]? with
   | some fn=>match fn.body with
    | some (.seq a (.scope c))=>match findLabel c 0 with
     | some rest=>cdP (Nat.ble vs.length fn.ntmps) (runC E (callX E n) fn.ntmps false a [0] [] ⟨q149 0 vs,[],[],0⟩ fun e st1=>match e with
      | .normal=>runC E (callX E n) fn.ntmps false c [1] [] st1 fun e st2=>match e with
       | .goto l=>cdP (Nat.beq l 0) (runC E (callX E n) fn.ntmps false rest [9,1] [] st2 fun e st3=>cdP (isEnd e) (retF E.P E.tb fn rs own Φ st3) False) False
       | e=>cdP (isEnd e) (retF E.P E.tb fn rs own Φ st2) False
      | _=>False) False
     | none=>False
    | _=>False
   | none=>False
  | none=>False
 | none=>False
theorem Ct.liftS(hE:E.Ok)(n:Nat)(c:Ct D)(h:∀ x Φ,c.W x Φ→topS E n c.f c.ps c.rs c.own x Φ):c.Ok E.P E.tb E.G:=by
 intro x Φ hW H vs hGH hA;have hF:=h x Φ hW;unfold topS at hF
 split at hF
 ·rename_i ls hls
  split at hF
  ·rename_i svs hsv
   split at hF
   ·rename_i fn hfn
    split at hF
    ·rename_i ca cc hcd
     split at hF
     ·rename_i rest hrest
      obtain⟨hN,hF⟩:=cifP hF;obtain⟨cs,g1,g2⟩:=q170 (ρ:=fun _=>none) hE.tb hA hls;have g3:=q228 g1 g2 hsv;refine RetP.of_codeM hfn hcd (by have:=Nat.le_of_ble_eq_true hN;simpa [RvL.length g3] using this) fun w hM=>?_;have hs0:Sat [] [] w H (mkO []++[]) H (fun _=>none) [] (⟨q149 0 svs,[],[],0⟩:St D) (sl (enumA 0 vs) fun _=>undef) w:=⟨hM,q155 g3,rfl,rfl,(fun _ _ h=>nomatch h),fun _ _=>rfl⟩
      have fin:∀ (e:Exit) (ms':List Nat) (st':St D) (σ':Nat→Value) (w':World) (H':Hp) (ρ':RM) (L':List Ent),cdP (isEnd e) (retF E.P E.tb fn c.rs c.own Φ st') False→Sat [] [] w H (mkO ms'++[]) H' ρ' L' st' σ' w'→
        endQM E.P fn (fun v w'=>∃ H' L',Mem w H w' H' L'∧∃ y,Φ y∧ResR E.P E.tb c.rs c.own y H' v L') e (mkD ms') σ' w':=fun e ms' st' σ' w' H' ρ' L' h1 h4=>by
       obtain⟨he,h1⟩:=cifP h1;refine q454 (q172 he) ms' (h4.mem.perm (q455 _ _ _ _)) fun w2 hw2=>?_;obtain⟨ux,H2,S,r1,r2,y,r3,r4⟩:=retF_ok hE h1 (h4.reR hw2);exact⟨q172 he,rfl,q304 ux,r1,H2,S,r2,y,r3,r4⟩
      refine CW.seq (q363 (ms:=[]) (B:=[]) (R:=[]) hE hGH ca (q331 hE hGH n) (fun _=>⟨rfl,rfl⟩) hs0 hF fun e=>?_);intro ms1 st1 σ1 w1 H1 ρ1 L1 k1 _ k2 k3 k4;cases e with
      | normal=>
       show CW none 0 E.P fn.ntmps (.scope cc) _ (mkD ms1++[]) σ1 w1;refine CW.scope 0 (fun D' σ' w'=>∃ ms' st' H' ρ' L',D'=mkD ms'++[]∧Sat [] [] w H (mkO ms'++[]) H' ρ' L' st' σ' w'∧runC E (callX E n) fn.ntmps false rest [9,1] [] st' fun e st3=>cdP (isEnd e) (retF E.P E.tb fn c.rs c.own Φ st3) False) hrest (q363 (ms:=ms1) (B:=[]) (R:=[]) hE hGH cc (q331 hE hGH n) (fun _=>⟨rfl,rfl⟩) k4 k1 fun e=>?_) ?_
       ·intro ms2 st2 σ2 w2 H2 ρ2 L2 j1 _ j2 j3 j4
        cases e with
        | goto l=>
         obtain⟨hl,j1⟩:=cifP (show cdP (Nat.beq l 0) _ False from j1);exact⟨Nat.eq_of_beq_eq_true hl,ms2,st2,H2,ρ2,L2,rfl,j4,j1⟩
        | ret=>have:=fin .ret ms2 st2 σ2 w2 H2 ρ2 L2 j1 j4;rw [List.append_nil];exact this
        | normal=>have:=fin .normal ms2 st2 σ2 w2 H2 ρ2 L2 j1 j4;rw [List.append_nil];exact this
        | exit id=>exact absurd (cifP (show cdP false _ False from j1)).1 (fun h=>nomatch h)
        | panic ch=>exact absurd (cifP (show cdP false _ False from j1)).1 (fun h=>nomatch h)
        | outgrown=>exact absurd (cifP (show cdP false _ False from j1)).1 (fun h=>nomatch h)
       ·rintro D' σ' w' ⟨ms2,st2,H2,ρ2,L2,rfl,j4,j1⟩
        refine q363 (ms:=ms2) (B:=[]) (R:=[]) hE hGH rest (q331 hE hGH n) (fun _=>⟨rfl,rfl⟩) j4 j1 fun e=>?_;intro ms3 st3 σ3 w3 H3 ρ3 L3 i1 _ i2 i3 i4;have:=fin e ms3 st3 σ3 w3 H3 ρ3 L3 i1 i4;cases e with
        | goto l=>exact absurd (cifP i1).1 (fun h=>nomatch h)
        | _=>rw [List.append_nil];exact this
      | _=>exact k1.elim
     ·exact hF.elim
    ·exact hF.elim
   ·exact hF.elim
  ·exact hF.elim
 ·exact hF.elim
end
end
end Go.Proofs.YtmfeabjhjhjfeaaGreatDoor
namespace Go.Proofs.YtmfeabjhjhjfeaaGreatDoor
def insZ(x:Int):List Int→List Int
 | []=>[x]
 | y::r=>if x≤y then x::y::r else y::insZ x r
def sortZ:List Int→List Int
 | []=>[]
 | x::r=>insZ x (sortZ r)
theorem q364(x:Int):∀ l:List Int,(insZ x l).Perm (x::l)
 | []=>List.Perm.refl _
 | y::r=>by
  unfold insZ
  split
  ·exact List.Perm.refl _
  ·exact((q364 x r).cons y).trans (List.Perm.swap x y r)
theorem q229:∀ l:List Int,(sortZ l).Perm l
 | []=>List.Perm.refl _
 | x::r=>(q364 x (sortZ r)).trans ((q229 r).cons x)
theorem q365(x:Int):∀ l:List Int,l.Pairwise (fun a b=>a≤b)→(insZ x l).Pairwise (fun a b=>a≤b)
 | [],_=>by simp [insZ]
 | y::r,h=>by
  have h1:=List.pairwise_cons.1 h;unfold insZ
  split
  ·rename_i hxy
   refine List.pairwise_cons.2 ⟨fun b hb=>?_,h⟩;rcases List.mem_cons.1 hb with rfl | hb
   ·exact hxy
   ·exact Int.le_trans hxy (h1.1 b hb)
  ·rename_i hxy
   refine List.pairwise_cons.2 ⟨fun b hb=>?_,q365 x r h1.2⟩;rcases List.mem_cons.1 ((q364 x r).mem_iff.1 hb) with rfl | hb
   ·omega
   ·exact h1.1 b hb
theorem q211:∀ l:List Int,(sortZ l).Pairwise fun a b=>a≤b
 | []=>List.Pairwise.nil
 | x::r=>q365 x _ (q211 r)
end Go.Proofs.YtmfeabjhjhjfeaaGreatDoor
namespace Go.Proofs.YtmfeabjhjhjfeaaGreatDoor
open Go.RowKit
structure q11 where
 Kind:BitVec 8
 Volume:BitVec 8
 Start:BitVec 8
 Count:BitVec 8
 First:BitVec 8
 deriving DecidableEq
instance dt_standbytop_PlayStep:Dt q11 where
 default:=⟨0#8,0#8,0#8,0#8,0#8⟩
 sz:=5
 rd H cs x:=cs=[u8 (x.Kind),u8 (x.Volume),u8 (x.Start),u8 (x.Count),u8 (x.First)]
 len h:=by rw [h];rfl
 mono h _:=h
 one h:=by rw [h];exact q67 ⟨rfl,rfl,rfl,rfl,rfl,trivial⟩
structure q23 where
 e0:List q11
 e1:List q11
 e2:List q11
 deriving DecidableEq
instance dt_Arr3_standbytop_PlayStep:Dt q23 where
 default:=⟨[],[],[]⟩
 sz:=3
 rd H cs x:=∃ A0 n0 c0 s0,∃ A1 n1 c1 s1,∃ A2 n2 c2 s2,cs=[.slice A0 n0 c0,.slice A1 n1 c1,.slice A2 n2 c2]∧Fz H A0 n0 c0 x.e0 s0∧Fz H A1 n1 c1 x.e1 s1∧Fz H A2 n2 c2 x.e2 s2
 len:=fun⟨A0,n0,c0,s0,A1,n1,c1,s1,A2,n2,c2,s2,h,h0,h1,h2⟩=>by rw [h];rfl
 mono:=fun⟨A0,n0,c0,s0,A1,n1,c1,s1,A2,n2,c2,s2,h,h0,h1,h2⟩ hle=>⟨A0,n0,c0,s0,A1,n1,c1,s1,A2,n2,c2,s2,h,h0.mono hle,h1.mono hle,h2.mono hle⟩
 one:=fun⟨A0,n0,c0,s0,A1,n1,c1,s1,A2,n2,c2,s2,h,h0,h1,h2⟩=>by rw [h];exact q67 ⟨rfl,rfl,rfl,trivial⟩
structure q46 where
 e0:BitVec 8
 e1:BitVec 8
 e2:BitVec 8
 deriving DecidableEq
instance dt_Arr3_uint8:Dt q46 where
 default:=⟨0#8,0#8,0#8⟩
 sz:=3
 rd H cs x:=cs=[u8 (x.e0),u8 (x.e1),u8 (x.e2)]
 len h:=by rw [h];rfl
 mono h _:=h
 one h:=by rw [h];exact q67 ⟨rfl,rfl,rfl,trivial⟩
structure q110 where
 e0:Bool
 e1:Bool
 e2:Bool
 deriving DecidableEq
instance dt_Arr3_bool:Dt q110 where
 default:=⟨false,false,false⟩
 sz:=3
 rd H cs x:=cs=[.bool x.e0,.bool x.e1,.bool x.e2]
 len h:=by rw [h];rfl
 mono h _:=h
 one h:=by rw [h];exact q67 ⟨rfl,rfl,rfl,trivial⟩
structure q19 where
 Base:List q11
 Writes:q23
 Epochs:q46
 Cycles:q46
 Lost:q110
 deriving DecidableEq
instance dt_standbytop_PlaySites:Dt q19 where
 default:=⟨[],default,default,default,default⟩
 sz:=13
 rd H cs x:=∃ A0 n0 c0 s0,∃ A1 n1 c1 s1,∃ A2 n2 c2 s2,∃ A3 n3 c3 s3,cs=[.slice A0 n0 c0,.slice A1 n1 c1,.slice A2 n2 c2,.slice A3 n3 c3,u8 (x.Epochs.e0),u8 (x.Epochs.e1),u8 (x.Epochs.e2),u8 (x.Cycles.e0),u8 (x.Cycles.e1),u8 (x.Cycles.e2),.bool x.Lost.e0,.bool x.Lost.e1,.bool x.Lost.e2]∧Fz H A0 n0 c0 x.Base s0∧Fz H A1 n1 c1 x.Writes.e0 s1∧Fz H A2 n2 c2 x.Writes.e1 s2∧Fz H A3 n3 c3 x.Writes.e2 s3
 len:=fun⟨A0,n0,c0,s0,A1,n1,c1,s1,A2,n2,c2,s2,A3,n3,c3,s3,h,h0,h1,h2,h3⟩=>by rw [h];rfl
 mono:=fun⟨A0,n0,c0,s0,A1,n1,c1,s1,A2,n2,c2,s2,A3,n3,c3,s3,h,h0,h1,h2,h3⟩ hle=>⟨A0,n0,c0,s0,A1,n1,c1,s1,A2,n2,c2,s2,A3,n3,c3,s3,h,h0.mono hle,h1.mono hle,h2.mono hle,h3.mono hle⟩
 one:=fun⟨A0,n0,c0,s0,A1,n1,c1,s1,A2,n2,c2,s2,A3,n3,c3,s3,h,h0,h1,h2,h3⟩=>by rw [h];exact q67 ⟨rfl,rfl,rfl,rfl,rfl,rfl,rfl,rfl,rfl,rfl,rfl,rfl,rfl,trivial⟩
structure q45 where
 e0:BitVec 8
 e1:BitVec 8
 deriving DecidableEq
instance dt_Arr2_uint8:Dt q45 where
 default:=⟨0#8,0#8⟩
 sz:=2
 rd H cs x:=cs=[u8 (x.e0),u8 (x.e1)]
 len h:=by rw [h];rfl
 mono h _:=h
 one h:=by rw [h];exact q67 ⟨rfl,rfl,trivial⟩
structure q42 where
 Epoch:Int
 From:Int
 To:Int
 deriving DecidableEq
instance dt_api_Span:Dt q42 where
 default:=⟨0,0,0⟩
 sz:=3
 rd H cs x:=cs=[.int .i64 (x.Epoch),.int .i64 (x.From),.int .i64 (x.To)]
 len h:=by rw [h];rfl
 mono h _:=h
 one h:=by rw [h];exact q67 ⟨rfl,rfl,rfl,trivial⟩
structure q9 where
 Size:Int
 Words:List (BitVec 64)
 deriving DecidableEq
instance dt_api_Bitmap:Dt q9 where
 default:=⟨0,[]⟩
 sz:=2
 rd H cs x:=∃ A0 n0 c0 s0,cs=[.int .i64 (x.Size),.slice A0 n0 c0]∧Fz H A0 n0 c0 x.Words s0
 len:=fun⟨A0,n0,c0,s0,h,h0⟩=>by rw [h];rfl
 mono:=fun⟨A0,n0,c0,s0,h,h0⟩ hle=>⟨A0,n0,c0,s0,h,h0.mono hle⟩
 one:=fun⟨A0,n0,c0,s0,h,h0⟩=>by rw [h];exact q67 ⟨rfl,rfl,trivial⟩
structure q14 where
 Site:Int
 Lineage:List q42
 Dirty:List q9
 Image:List (List Sec)
 deriving DecidableEq
instance dt_api_Point:Dt q14 where
 default:=⟨0,[],[],[]⟩
 sz:=4
 rd H cs x:=∃ A0 n0 c0 s0,∃ A1 n1 c1 s1,∃ A2 n2 c2 s2,cs=[.int .i64 (x.Site),.slice A0 n0 c0,.slice A1 n1 c1,.slice A2 n2 c2]∧Fz H A0 n0 c0 x.Lineage s0∧Fz H A1 n1 c1 x.Dirty s1∧Fz H A2 n2 c2 x.Image s2
 len:=fun⟨A0,n0,c0,s0,A1,n1,c1,s1,A2,n2,c2,s2,h,h0,h1,h2⟩=>by rw [h];rfl
 mono:=fun⟨A0,n0,c0,s0,A1,n1,c1,s1,A2,n2,c2,s2,h,h0,h1,h2⟩ hle=>⟨A0,n0,c0,s0,A1,n1,c1,s1,A2,n2,c2,s2,h,h0.mono hle,h1.mono hle,h2.mono hle⟩
 one:=fun⟨A0,n0,c0,s0,A1,n1,c1,s1,A2,n2,c2,s2,h,h0,h1,h2⟩=>by rw [h];exact q67 ⟨rfl,rfl,rfl,rfl,trivial⟩
structure q15 where
 Site:Int
 Common:Int
 Dirty:List q9
 deriving DecidableEq
instance dt_api_Peer:Dt q15 where
 default:=⟨0,0,[]⟩
 sz:=3
 rd H cs x:=∃ A0 n0 c0 s0,cs=[.int .i64 (x.Site),.int .i64 (x.Common),.slice A0 n0 c0]∧Fz H A0 n0 c0 x.Dirty s0
 len:=fun⟨A0,n0,c0,s0,h,h0⟩=>by rw [h];rfl
 mono:=fun⟨A0,n0,c0,s0,h,h0⟩ hle=>⟨A0,n0,c0,s0,h,h0.mono hle⟩
 one:=fun⟨A0,n0,c0,s0,h,h0⟩=>by rw [h];exact q67 ⟨rfl,rfl,rfl,trivial⟩
structure q16 where
 Sizes:List Int
 Peers:List q15
 deriving DecidableEq
instance dt_api_Tracker:Dt q16 where
 default:=⟨[],[]⟩
 sz:=2
 rd H cs x:=∃ A0 n0 c0 s0,∃ A1 n1 c1 s1,cs=[.slice A0 n0 c0,.slice A1 n1 c1]∧Fz H A0 n0 c0 x.Sizes s0∧Fz H A1 n1 c1 x.Peers s1
 len:=fun⟨A0,n0,c0,s0,A1,n1,c1,s1,h,h0,h1⟩=>by rw [h];rfl
 mono:=fun⟨A0,n0,c0,s0,A1,n1,c1,s1,h,h0,h1⟩ hle=>⟨A0,n0,c0,s0,A1,n1,c1,s1,h,h0.mono hle,h1.mono hle⟩
 one:=fun⟨A0,n0,c0,s0,A1,n1,c1,s1,h,h0,h1⟩=>by rw [h];exact q67 ⟨rfl,rfl,trivial⟩
structure q10 where
 Volume:Int
 Start:Int
 Data:List Sec
 deriving DecidableEq
instance dt_api_Write:Dt q10 where
 default:=⟨0,0,[]⟩
 sz:=3
 rd H cs x:=∃ A0 n0 c0 s0,cs=[.int .i64 (x.Volume),.int .i64 (x.Start),.slice A0 n0 c0]∧Fz H A0 n0 c0 x.Data s0
 len:=fun⟨A0,n0,c0,s0,h,h0⟩=>by rw [h];rfl
 mono:=fun⟨A0,n0,c0,s0,h,h0⟩ hle=>⟨A0,n0,c0,s0,h,h0.mono hle⟩
 one:=fun⟨A0,n0,c0,s0,h,h0⟩=>by rw [h];exact q67 ⟨rfl,rfl,rfl,trivial⟩
structure q8 where
 Start:Int
 Count:Int
 deriving DecidableEq
instance dt_api_Extent:Dt q8 where
 default:=⟨0,0⟩
 sz:=2
 rd H cs x:=cs=[.int .i64 (x.Start),.int .i64 (x.Count)]
 len h:=by rw [h];rfl
 mono h _:=h
 one h:=by rw [h];exact q67 ⟨rfl,rfl,trivial⟩
structure q97 where
 e0:Int
 e1:Int
 deriving DecidableEq
instance dt_Arr2_int:Dt q97 where
 default:=⟨0,0⟩
 sz:=2
 rd H cs x:=cs=[.int .i64 (x.e0),.int .i64 (x.e1)]
 len h:=by rw [h];rfl
 mono h _:=h
 one h:=by rw [h];exact q67 ⟨rfl,rfl,trivial⟩
structure q17 where
 Size:Int
 Leaf:Int
 Levels:List (List (BitVec 64))
 deriving DecidableEq
instance dt_api_Tree:Dt q17 where
 default:=⟨0,0,[]⟩
 sz:=3
 rd H cs x:=∃ A0 n0 c0 s0,cs=[.int .i64 (x.Size),.int .i64 (x.Leaf),.slice A0 n0 c0]∧Fz H A0 n0 c0 x.Levels s0
 len:=fun⟨A0,n0,c0,s0,h,h0⟩=>by rw [h];rfl
 mono:=fun⟨A0,n0,c0,s0,h,h0⟩ hle=>⟨A0,n0,c0,s0,h,h0.mono hle⟩
 one:=fun⟨A0,n0,c0,s0,h,h0⟩=>by rw [h];exact q67 ⟨rfl,rfl,rfl,trivial⟩
structure q18 where
 Tree:q17
 Pending:List q8
 Level:Int
 Found:List q8
 Sent:Int
 Done:Bool
 deriving DecidableEq
instance dt_api_Walk:Dt q18 where
 default:=⟨default,[],0,[],0,false⟩
 sz:=8
 rd H cs x:=∃ A0 n0 c0 s0,∃ A1 n1 c1 s1,∃ A2 n2 c2 s2,cs=[.int .i64 (x.Tree.Size),.int .i64 (x.Tree.Leaf),.slice A0 n0 c0,.slice A1 n1 c1,.int .i64 (x.Level),.slice A2 n2 c2,.int .i64 (x.Sent),.bool x.Done]∧Fz H A0 n0 c0 x.Tree.Levels s0∧Fz H A1 n1 c1 x.Pending s1∧Fz H A2 n2 c2 x.Found s2
 len:=fun⟨A0,n0,c0,s0,A1,n1,c1,s1,A2,n2,c2,s2,h,h0,h1,h2⟩=>by rw [h];rfl
 mono:=fun⟨A0,n0,c0,s0,A1,n1,c1,s1,A2,n2,c2,s2,h,h0,h1,h2⟩ hle=>⟨A0,n0,c0,s0,A1,n1,c1,s1,A2,n2,c2,s2,h,h0.mono hle,h1.mono hle,h2.mono hle⟩
 one:=fun⟨A0,n0,c0,s0,A1,n1,c1,s1,A2,n2,c2,s2,h,h0,h1,h2⟩=>by rw [h];exact q67 ⟨rfl,rfl,rfl,rfl,rfl,rfl,rfl,rfl,trivial⟩
structure q12 where
 Kind:Int
 From:Int
 To:Int
 Number:Int
 Value:Int
 Epoch:Int
 Values:List Int
 Body:List (BitVec 8)
 deriving DecidableEq
instance dt_api_Message:Dt q12 where
 default:=⟨0,0,0,0,0,0,[],[]⟩
 sz:=8
 rd H cs x:=∃ A0 n0 c0 s0,∃ A1 n1 c1 s1,cs=[.int .i64 (x.Kind),.int .i64 (x.From),.int .i64 (x.To),.int .i64 (x.Number),.int .i64 (x.Value),.int .i64 (x.Epoch),.slice A0 n0 c0,.slice A1 n1 c1]∧Fz H A0 n0 c0 x.Values s0∧Fz H A1 n1 c1 x.Body s1
 len:=fun⟨A0,n0,c0,s0,A1,n1,c1,s1,h,h0,h1⟩=>by rw [h];rfl
 mono:=fun⟨A0,n0,c0,s0,A1,n1,c1,s1,h,h0,h1⟩ hle=>⟨A0,n0,c0,s0,A1,n1,c1,s1,h,h0.mono hle,h1.mono hle⟩
 one:=fun⟨A0,n0,c0,s0,A1,n1,c1,s1,h,h0,h1⟩=>by rw [h];exact q67 ⟨rfl,rfl,rfl,rfl,rfl,rfl,rfl,rfl,trivial⟩
structure q40 where
 Walk:q18
 deriving DecidableEq
instance dt_compare_walk:Dt q40 where
 default:=⟨default⟩
 sz:=8
 rd H cs x:=∃ A0 n0 c0 s0,∃ A1 n1 c1 s1,∃ A2 n2 c2 s2,cs=[.int .i64 (x.Walk.Tree.Size),.int .i64 (x.Walk.Tree.Leaf),.slice A0 n0 c0,.slice A1 n1 c1,.int .i64 (x.Walk.Level),.slice A2 n2 c2,.int .i64 (x.Walk.Sent),.bool x.Walk.Done]∧Fz H A0 n0 c0 x.Walk.Tree.Levels s0∧Fz H A1 n1 c1 x.Walk.Pending s1∧Fz H A2 n2 c2 x.Walk.Found s2
 len:=fun⟨A0,n0,c0,s0,A1,n1,c1,s1,A2,n2,c2,s2,h,h0,h1,h2⟩=>by rw [h];rfl
 mono:=fun⟨A0,n0,c0,s0,A1,n1,c1,s1,A2,n2,c2,s2,h,h0,h1,h2⟩ hle=>⟨A0,n0,c0,s0,A1,n1,c1,s1,A2,n2,c2,s2,h,h0.mono hle,h1.mono hle,h2.mono hle⟩
 one:=fun⟨A0,n0,c0,s0,A1,n1,c1,s1,A2,n2,c2,s2,h,h0,h1,h2⟩=>by rw [h];exact q67 ⟨rfl,rfl,rfl,rfl,rfl,rfl,rfl,rfl,trivial⟩
structure q13 where
 at_:Int
 list:Int
 step:Int
 deriving DecidableEq
instance dt_extent_end:Dt q13 where
 default:=⟨0,0,0⟩
 sz:=3
 rd H cs x:=cs=[.int .i64 (x.at_),.int .i64 (x.list),.int .i64 (x.step)]
 len h:=by rw [h];rfl
 mono h _:=h
 one h:=by rw [h];exact q67 ⟨rfl,rfl,rfl,trivial⟩
instance dtUnit:Dt Unit where
 default:=()
 sz:=0
 rd _ cs _:=cs=[]
 len h:=by rw [h];rfl
 mono h _:=h
 one h:=by rw [h];intro u hu;cases hu
structure TyR where
 α:Type
 inst:Dt α
def tyOf(t:Nat):TyR:=bif Nat.beq t 4 then⟨Bool,inferInstance⟩ else bif Nat.beq t 65 then⟨q11,inferInstance⟩ else bif Nat.beq t 27 then⟨q19,inferInstance⟩ else bif Nat.beq t 28 then⟨q45,inferInstance⟩ else bif Nat.beq t 104 then⟨q42,inferInstance⟩ else bif Nat.beq t 83 then⟨BitVec 64,inferInstance⟩ else bif Nat.beq t 125 then⟨q9,inferInstance⟩ else bif Nat.beq t 70 then⟨Sec,inferInstance⟩ else bif Nat.beq t 50 then⟨List Sec,inferInstance⟩ else bif Nat.beq t 43 then⟨q14,inferInstance⟩ else bif Nat.beq t 29 then⟨List q14,inferInstance⟩ else bif Nat.beq t 30 then⟨List Bool,inferInstance⟩ else bif Nat.beq t 3 then⟨Int,inferInstance⟩ else bif Nat.beq t 60 then⟨List Int,inferInstance⟩ else bif Nat.beq t 41 then⟨List (List Sec),inferInstance⟩ else bif Nat.beq t 35 then⟨Int,inferInstance⟩ else bif Nat.beq t 40 then⟨List (List Sec),inferInstance⟩ else bif Nat.beq t 22 then⟨List q11,inferInstance⟩ else bif Nat.beq t 161 then⟨q15,inferInstance⟩ else bif Nat.beq t 107 then⟨q16,inferInstance⟩ else bif Nat.beq t 39 then⟨List q9,inferInstance⟩ else bif Nat.beq t 105 then⟨List q15,inferInstance⟩ else bif Nat.beq t 72 then⟨q10,inferInstance⟩ else bif Nat.beq t 34 then⟨List q10,inferInstance⟩ else bif Nat.beq t 79 then⟨List (BitVec 64),inferInstance⟩ else bif Nat.beq t 76 then⟨q8,inferInstance⟩ else bif Nat.beq t 38 then⟨List q42,inferInstance⟩ else bif Nat.beq t 119 then⟨q97,inferInstance⟩ else bif Nat.beq t 51 then⟨List q8,inferInstance⟩ else bif Nat.beq t 44 then⟨List (List q8),inferInstance⟩ else bif Nat.beq t 47 then⟨q17,inferInstance⟩ else bif Nat.beq t 5 then⟨BitVec 8,inferInstance⟩ else bif Nat.beq t 92 then⟨List (BitVec 8),inferInstance⟩ else bif Nat.beq t 87 then⟨q18,inferInstance⟩ else bif Nat.beq t 94 then⟨q12,inferInstance⟩ else bif Nat.beq t 88 then⟨List q12,inferInstance⟩ else bif Nat.beq t 45 then⟨List (List (BitVec 64)),inferInstance⟩ else bif Nat.beq t 138 then⟨q40,inferInstance⟩ else bif Nat.beq t 135 then⟨Ptr q40,inferInstance⟩ else bif Nat.beq t 223 then⟨q13,inferInstance⟩ else bif Nat.beq t 220 then⟨List q13,inferInstance⟩ else⟨Unit,dtUnit⟩
abbrev DD(t:Nat):Type:=(tyOf t).α
instance dtDD (t:Nat):Dt (DD t):=(tyOf t).inst
def xI:SV DD→Option Int
 | .i .i64 n=>some n
 | _=>none
def xW:SV DD→Option (BitVec 64)
 | .w x=>some x
 | _=>none
def xY:SV DD→Option (BitVec 8)
 | .y x=>some x
 | _=>none
def xT:SV DD→Option ByteArray
 | .st x=>some x
 | _=>none
def xS(e:Nat):SV DD→Option (List (DD e))
 | .fsl e' xs=>castL e' e xs
 | .nil=>some []
 | _=>none
theorem xI_cq{a:SV DD}{n:Int}(h:xI a=some n):CQ a (.i .i64 n):=by
 unfold xI at h
 split at h
 ·cases h;exact .inr ⟨rfl,rfl,fun _ _ _ h=>h⟩
 ·cases h
theorem xW_cq{a:SV DD}{n:BitVec 64}(h:xW a=some n):CQ a (.w n):=by
 unfold xW at h
 split at h
 ·cases h;exact .inr ⟨rfl,rfl,fun _ _ _ h=>h⟩
 ·cases h
theorem xY_cq{a:SV DD}{n:BitVec 8}(h:xY a=some n):CQ a (.y n):=by
 unfold xY at h
 split at h
 ·cases h;exact .inr ⟨rfl,rfl,fun _ _ _ h=>h⟩
 ·cases h
theorem xB_cq{a:SV DD}{n:Bool}(h:q202 a=some n):CQ a (.b n):=by
 cases a <;> first | (cases h;exact .inr ⟨rfl,rfl,fun _ _ _ h=>h⟩) | cases h
theorem xS_cq{e:Nat}{a:SV DD}{n:List (DD e)}(h:xS e a=some n):CQ a (.fsl e n):=by
 unfold xS at h
 split at h
 ·obtain⟨he,h1⟩:=q102 h
  subst he;subst h1;exact .inl ⟨_,_,rfl,.inl rfl⟩
 ·cases h;exact .inl ⟨_,_,rfl,.inr ⟨rfl,rfl⟩⟩
 ·cases h
theorem bindS{α β:Type}{o:Option α}{f:α→Option β}{x:β}(h:o.bind f=some x):∃ v,o=some v∧f v=some x:=Option.bind_eq_some_iff.1 h
def ofc4:List (SV DD)→Option (DD 4)
 | [a0]=>(q202 a0).bind fun v0=>some v0
 | _=>none
def ce4:CE DD:=⟨4,fun x=>[.b (x)],ofc4,none⟩
theorem ceOk4:ce4.Ok where
 rdi:=@fun H ρ cs x=>⟨fun h=>by
  obtain h:=(show Dt.rd (α:=Bool) H cs x from h)
  subst h;exact⟨_,_,rfl,rfl,rfl⟩,fun h=>by
  obtain⟨v0,r0,e0,p0,e⟩:=h;have e:r0=[]:=e;subst e;subst e0;have p0:v0=_:=p0;subst p0
  exact(show Dt.rd (α:=Bool) H _ x from rfl)⟩
 cq:=@fun l x h=>by
  change ofc4 l=some x at h;unfold ofc4 at h
  split at h
  ·obtain⟨v0,h0,h⟩:=bindS h
   cases h;exact⟨_,_,rfl,xB_cq h0,rfl⟩
  ·cases h
 eqc:=fun d a b c1 c2 hd h1 h2=>by cases hd
def ofc65:List (SV DD)→Option (DD 65)
 | [a0,a1,a2,a3,a4]=>(xY a0).bind fun v0=>(xY a1).bind fun v1=>(xY a2).bind fun v2=>(xY a3).bind fun v3=>(xY a4).bind fun v4=>some ⟨v0,v1,v2,v3,v4⟩
 | _=>none
def ce65:CE DD:=⟨65,fun x=>[.y (x.Kind),.y (x.Volume),.y (x.Start),.y (x.Count),.y (x.First)],ofc65,some (inferInstanceAs (DecidableEq q11))⟩
theorem sc65(a b:q11):(([.i .u8 ((a.Kind).toNat:Int),.i .u8 ((a.Volume).toNat:Int),.i .u8 ((a.Start).toNat:Int),.i .u8 ((a.Count).toNat:Int),.i .u8 ((a.First).toNat:Int)]:List Sc)=[.i .u8 ((b.Kind).toNat:Int),.i .u8 ((b.Volume).toNat:Int),.i .u8 ((b.Start).toNat:Int),.i .u8 ((b.Count).toNat:Int),.i .u8 ((b.First).toNat:Int)])↔a=b:=by
 cases a;cases b;simp [← BitVec.toNat_inj];omega
theorem ceOk65:ce65.Ok where
 rdi:=@fun H ρ cs x=>⟨fun h=>by
  obtain h:=(show Dt.rd (α:=q11) H cs x from h)
  subst h;exact⟨_,_,rfl,rfl,_,_,rfl,rfl,_,_,rfl,rfl,_,_,rfl,rfl,_,_,rfl,rfl,rfl⟩,fun h=>by
  obtain⟨v0,r0,e0,p0,v1,r1,e1,p1,v2,r2,e2,p2,v3,r3,e3,p3,v4,r4,e4,p4,e⟩:=h;have e:r4=[]:=e;subst e;subst e4;subst e3;subst e2;subst e1;subst e0;have p0:v0=_:=p0;subst p0;have p1:v1=_:=p1;subst p1;have p2:v2=_:=p2;subst p2;have p3:v3=_:=p3;subst p3;have p4:v4=_:=p4;subst p4
  exact(show Dt.rd (α:=q11) H _ x from rfl)⟩
 cq:=@fun l x h=>by
  change ofc65 l=some x at h;unfold ofc65 at h
  split at h
  ·obtain⟨v0,h0,h⟩:=bindS h
   obtain⟨v1,h1,h⟩:=bindS h;obtain⟨v2,h2,h⟩:=bindS h;obtain⟨v3,h3,h⟩:=bindS h;obtain⟨v4,h4,h⟩:=bindS h;cases h;exact⟨_,_,rfl,xY_cq h0,_,_,rfl,xY_cq h1,_,_,rfl,xY_cq h2,_,_,rfl,xY_cq h3,_,_,rfl,xY_cq h4,rfl⟩
  ·cases h
 eqc:=fun d a b c1 c2 hd h1 h2=>by
  cases h1;cases h2;exact sc65 a b
def ofc27:List (SV DD)→Option (DD 27)
 | [a0,a1,a2,a3,a4,a5,a6,a7,a8,a9,a10,a11,a12]=>(xS 65 a0).bind fun v0=>(xS 65 a1).bind fun v1=>(xS 65 a2).bind fun v2=>(xS 65 a3).bind fun v3=>(xY a4).bind fun v4=>(xY a5).bind fun v5=>(xY a6).bind fun v6=>(xY a7).bind fun v7=>(xY a8).bind fun v8=>(xY a9).bind fun v9=>(q202 a10).bind fun v10=>(q202 a11).bind fun v11=>(q202 a12).bind fun v12=>some ⟨v0,⟨v1,v2,v3⟩,⟨v4,v5,v6⟩,⟨v7,v8,v9⟩,⟨v10,v11,v12⟩⟩
 | _=>none
def ce27:CE DD:=⟨27,fun x=>[.fsl 65 (x.Base),.fsl 65 (x.Writes.e0),.fsl 65 (x.Writes.e1),.fsl 65 (x.Writes.e2),.y (x.Epochs.e0),.y (x.Epochs.e1),.y (x.Epochs.e2),.y (x.Cycles.e0),.y (x.Cycles.e1),.y (x.Cycles.e2),.b (x.Lost.e0),.b (x.Lost.e1),.b (x.Lost.e2)],ofc27,none⟩
theorem ceOk27:ce27.Ok where
 rdi:=@fun H ρ cs x=>⟨fun h=>by
  obtain⟨A0,n0,c0,s0,A1,n1,c1,s1,A2,n2,c2,s2,A3,n3,c3,s3,h,h0,h1,h2,h3⟩:=(show Dt.rd (α:=q19) H cs x from h)
  subst h;exact⟨_,_,rfl,⟨A0,n0,c0,s0,rfl,h0⟩,_,_,rfl,⟨A1,n1,c1,s1,rfl,h1⟩,_,_,rfl,⟨A2,n2,c2,s2,rfl,h2⟩,_,_,rfl,⟨A3,n3,c3,s3,rfl,h3⟩,_,_,rfl,rfl,_,_,rfl,rfl,_,_,rfl,rfl,_,_,rfl,rfl,_,_,rfl,rfl,_,_,rfl,rfl,_,_,rfl,rfl,_,_,rfl,rfl,_,_,rfl,rfl,rfl⟩,fun h=>by
  obtain⟨v0,r0,e0,⟨A0,n0,c0,s0,p0,h0⟩,v1,r1,e1,⟨A1,n1,c1,s1,p1,h1⟩,v2,r2,e2,⟨A2,n2,c2,s2,p2,h2⟩,v3,r3,e3,⟨A3,n3,c3,s3,p3,h3⟩,v4,r4,e4,p4,v5,r5,e5,p5,v6,r6,e6,p6,v7,r7,e7,p7,v8,r8,e8,p8,v9,r9,e9,p9,v10,r10,e10,p10,v11,r11,e11,p11,v12,r12,e12,p12,e⟩:=h;have e:r12=[]:=e;subst e;subst e12;subst e11;subst e10;subst e9;subst e8;subst e7;subst e6;subst e5;subst e4;subst e3;subst e2;subst e1;subst e0;subst p0;subst p1;subst p2;subst p3;have p4:v4=_:=p4;subst p4;have p5:v5=_:=p5;subst p5;have p6:v6=_:=p6;subst p6;have p7:v7=_:=p7;subst p7;have p8:v8=_:=p8;subst p8;have p9:v9=_:=p9;subst p9;have p10:v10=_:=p10;subst p10;have p11:v11=_:=p11;subst p11;have p12:v12=_:=p12;subst p12
  exact(show Dt.rd (α:=q19) H _ x from⟨A0,n0,c0,s0,A1,n1,c1,s1,A2,n2,c2,s2,A3,n3,c3,s3,rfl,h0,h1,h2,h3⟩)⟩
 cq:=@fun l x h=>by
  change ofc27 l=some x at h;unfold ofc27 at h
  split at h
  ·obtain⟨v0,h0,h⟩:=bindS h
   obtain⟨v1,h1,h⟩:=bindS h;obtain⟨v2,h2,h⟩:=bindS h;obtain⟨v3,h3,h⟩:=bindS h;obtain⟨v4,h4,h⟩:=bindS h;obtain⟨v5,h5,h⟩:=bindS h;obtain⟨v6,h6,h⟩:=bindS h;obtain⟨v7,h7,h⟩:=bindS h;obtain⟨v8,h8,h⟩:=bindS h;obtain⟨v9,h9,h⟩:=bindS h;obtain⟨v10,h10,h⟩:=bindS h;obtain⟨v11,h11,h⟩:=bindS h;obtain⟨v12,h12,h⟩:=bindS h;cases h;exact⟨_,_,rfl,xS_cq h0,_,_,rfl,xS_cq h1,_,_,rfl,xS_cq h2,_,_,rfl,xS_cq h3,_,_,rfl,xY_cq h4,_,_,rfl,xY_cq h5,_,_,rfl,xY_cq h6,_,_,rfl,xY_cq h7,_,_,rfl,xY_cq h8,_,_,rfl,xY_cq h9,_,_,rfl,xB_cq h10,_,_,rfl,xB_cq h11,_,_,rfl,xB_cq h12,rfl⟩
  ·cases h
 eqc:=fun d a b c1 c2 hd h1 h2=>by cases hd
def ofc28:List (SV DD)→Option (DD 28)
 | [a0,a1]=>(xY a0).bind fun v0=>(xY a1).bind fun v1=>some ⟨v0,v1⟩
 | _=>none
def ce28:CE DD:=⟨28,fun x=>[.y (x.e0),.y (x.e1)],ofc28,some (inferInstanceAs (DecidableEq q45))⟩
theorem sc28(a b:q45):(([.i .u8 ((a.e0).toNat:Int),.i .u8 ((a.e1).toNat:Int)]:List Sc)=[.i .u8 ((b.e0).toNat:Int),.i .u8 ((b.e1).toNat:Int)])↔a=b:=by
 cases a;cases b;simp [← BitVec.toNat_inj];omega
theorem ceOk28:ce28.Ok where
 rdi:=@fun H ρ cs x=>⟨fun h=>by
  obtain h:=(show Dt.rd (α:=q45) H cs x from h)
  subst h;exact⟨_,_,rfl,rfl,_,_,rfl,rfl,rfl⟩,fun h=>by
  obtain⟨v0,r0,e0,p0,v1,r1,e1,p1,e⟩:=h;have e:r1=[]:=e;subst e;subst e1;subst e0;have p0:v0=_:=p0;subst p0;have p1:v1=_:=p1;subst p1
  exact(show Dt.rd (α:=q45) H _ x from rfl)⟩
 cq:=@fun l x h=>by
  change ofc28 l=some x at h;unfold ofc28 at h
  split at h
  ·obtain⟨v0,h0,h⟩:=bindS h
   obtain⟨v1,h1,h⟩:=bindS h;cases h;exact⟨_,_,rfl,xY_cq h0,_,_,rfl,xY_cq h1,rfl⟩
  ·cases h
 eqc:=fun d a b c1 c2 hd h1 h2=>by
  cases h1;cases h2;exact sc28 a b
def q756:List (SV DD)→Option (DD 104)
 | [a0,a1,a2]=>(xI a0).bind fun v0=>(xI a1).bind fun v1=>(xI a2).bind fun v2=>some ⟨v0,v1,v2⟩
 | _=>none
def ce104:CE DD:=⟨104,fun x=>[.i .i64 (x.Epoch),.i .i64 (x.From),.i .i64 (x.To)],q756,some (inferInstanceAs (DecidableEq q42))⟩
theorem sc104(a b:q42):(([.i .i64 (a.Epoch),.i .i64 (a.From),.i .i64 (a.To)]:List Sc)=[.i .i64 (b.Epoch),.i .i64 (b.From),.i .i64 (b.To)])↔a=b:=by
 cases a;cases b;simp
theorem ceOk104:ce104.Ok where
 rdi:=@fun H ρ cs x=>⟨fun h=>by
  obtain h:=(show Dt.rd (α:=q42) H cs x from h)
  subst h;exact⟨_,_,rfl,rfl,_,_,rfl,rfl,_,_,rfl,rfl,rfl⟩,fun h=>by
  obtain⟨v0,r0,e0,p0,v1,r1,e1,p1,v2,r2,e2,p2,e⟩:=h;have e:r2=[]:=e;subst e;subst e2;subst e1;subst e0;have p0:v0=_:=p0;subst p0;have p1:v1=_:=p1;subst p1;have p2:v2=_:=p2;subst p2
  exact(show Dt.rd (α:=q42) H _ x from rfl)⟩
 cq:=@fun l x h=>by
  change q756 l=some x at h;unfold q756 at h
  split at h
  ·obtain⟨v0,h0,h⟩:=bindS h
   obtain⟨v1,h1,h⟩:=bindS h;obtain⟨v2,h2,h⟩:=bindS h;cases h;exact⟨_,_,rfl,xI_cq h0,_,_,rfl,xI_cq h1,_,_,rfl,xI_cq h2,rfl⟩
  ·cases h
 eqc:=fun d a b c1 c2 hd h1 h2=>by
  cases h1;cases h2;exact sc104 a b
def ofc83:List (SV DD)→Option (DD 83)
 | [a0]=>(xW a0).bind fun v0=>some v0
 | _=>none
def ce83:CE DD:=⟨83,fun x=>[.w (x)],ofc83,none⟩
theorem ceOk83:ce83.Ok where
 rdi:=@fun H ρ cs x=>⟨fun h=>by
  obtain h:=(show Dt.rd (α:=BitVec 64) H cs x from h)
  subst h;exact⟨_,_,rfl,rfl,rfl⟩,fun h=>by
  obtain⟨v0,r0,e0,p0,e⟩:=h;have e:r0=[]:=e;subst e;subst e0;have p0:v0=_:=p0;subst p0
  exact(show Dt.rd (α:=BitVec 64) H _ x from rfl)⟩
 cq:=@fun l x h=>by
  change ofc83 l=some x at h;unfold ofc83 at h
  split at h
  ·obtain⟨v0,h0,h⟩:=bindS h
   cases h;exact⟨_,_,rfl,xW_cq h0,rfl⟩
  ·cases h
 eqc:=fun d a b c1 c2 hd h1 h2=>by cases hd
def q757:List (SV DD)→Option (DD 125)
 | [a0,a1]=>(xI a0).bind fun v0=>(xS 83 a1).bind fun v1=>some ⟨v0,v1⟩
 | _=>none
def ce125:CE DD:=⟨125,fun x=>[.i .i64 (x.Size),.fsl 83 (x.Words)],q757,none⟩
theorem ceOk125:ce125.Ok where
 rdi:=@fun H ρ cs x=>⟨fun h=>by
  obtain⟨A0,n0,c0,s0,h,h0⟩:=(show Dt.rd (α:=q9) H cs x from h)
  subst h;exact⟨_,_,rfl,rfl,_,_,rfl,⟨A0,n0,c0,s0,rfl,h0⟩,rfl⟩,fun h=>by
  obtain⟨v0,r0,e0,p0,v1,r1,e1,⟨A0,n0,c0,s0,p1,h0⟩,e⟩:=h;have e:r1=[]:=e;subst e;subst e1;subst e0;have p0:v0=_:=p0;subst p0;subst p1
  exact(show Dt.rd (α:=q9) H _ x from⟨A0,n0,c0,s0,rfl,h0⟩)⟩
 cq:=@fun l x h=>by
  change q757 l=some x at h;unfold q757 at h
  split at h
  ·obtain⟨v0,h0,h⟩:=bindS h
   obtain⟨v1,h1,h⟩:=bindS h;cases h;exact⟨_,_,rfl,xI_cq h0,_,_,rfl,xS_cq h1,rfl⟩
  ·cases h
 eqc:=fun d a b c1 c2 hd h1 h2=>by cases hd
def ofc70:List (SV DD)→Option (DD 70)
 | [a0,a1,a2,a3,a4,a5,a6,a7]=>(xY a0).bind fun v0=>(xY a1).bind fun v1=>(xY a2).bind fun v2=>(xY a3).bind fun v3=>(xY a4).bind fun v4=>(xY a5).bind fun v5=>(xY a6).bind fun v6=>(xY a7).bind fun v7=>some ⟨v0,v1,v2,v3,v4,v5,v6,v7⟩
 | _=>none
def ce70:CE DD:=⟨70,fun x=>[.y (x.b0),.y (x.b1),.y (x.b2),.y (x.b3),.y (x.b4),.y (x.b5),.y (x.b6),.y (x.b7)],ofc70,some (inferInstanceAs (DecidableEq Sec))⟩
theorem sc70(a b:Sec):(([.i .u8 ((a.b0).toNat:Int),.i .u8 ((a.b1).toNat:Int),.i .u8 ((a.b2).toNat:Int),.i .u8 ((a.b3).toNat:Int),.i .u8 ((a.b4).toNat:Int),.i .u8 ((a.b5).toNat:Int),.i .u8 ((a.b6).toNat:Int),.i .u8 ((a.b7).toNat:Int)]:List Sc)=[.i .u8 ((b.b0).toNat:Int),.i .u8 ((b.b1).toNat:Int),.i .u8 ((b.b2).toNat:Int),.i .u8 ((b.b3).toNat:Int),.i .u8 ((b.b4).toNat:Int),.i .u8 ((b.b5).toNat:Int),.i .u8 ((b.b6).toNat:Int),.i .u8 ((b.b7).toNat:Int)])↔a=b:=by
 cases a;cases b;simp [← BitVec.toNat_inj];omega
theorem ceOk70:ce70.Ok where
 rdi:=@fun H ρ cs x=>⟨fun h=>by
  obtain h:=(show Dt.rd (α:=Sec) H cs x from h)
  subst h;exact⟨_,_,rfl,rfl,_,_,rfl,rfl,_,_,rfl,rfl,_,_,rfl,rfl,_,_,rfl,rfl,_,_,rfl,rfl,_,_,rfl,rfl,_,_,rfl,rfl,rfl⟩,fun h=>by
  obtain⟨v0,r0,e0,p0,v1,r1,e1,p1,v2,r2,e2,p2,v3,r3,e3,p3,v4,r4,e4,p4,v5,r5,e5,p5,v6,r6,e6,p6,v7,r7,e7,p7,e⟩:=h;have e:r7=[]:=e;subst e;subst e7;subst e6;subst e5;subst e4;subst e3;subst e2;subst e1;subst e0;have p0:v0=_:=p0;subst p0;have p1:v1=_:=p1;subst p1;have p2:v2=_:=p2;subst p2;have p3:v3=_:=p3;subst p3;have p4:v4=_:=p4;subst p4;have p5:v5=_:=p5;subst p5;have p6:v6=_:=p6;subst p6;have p7:v7=_:=p7;subst p7
  exact(show Dt.rd (α:=Sec) H _ x from rfl)⟩
 cq:=@fun l x h=>by
  change ofc70 l=some x at h;unfold ofc70 at h
  split at h
  ·obtain⟨v0,h0,h⟩:=bindS h
   obtain⟨v1,h1,h⟩:=bindS h;obtain⟨v2,h2,h⟩:=bindS h;obtain⟨v3,h3,h⟩:=bindS h;obtain⟨v4,h4,h⟩:=bindS h;obtain⟨v5,h5,h⟩:=bindS h;obtain⟨v6,h6,h⟩:=bindS h;obtain⟨v7,h7,h⟩:=bindS h;cases h;exact⟨_,_,rfl,xY_cq h0,_,_,rfl,xY_cq h1,_,_,rfl,xY_cq h2,_,_,rfl,xY_cq h3,_,_,rfl,xY_cq h4,_,_,rfl,xY_cq h5,_,_,rfl,xY_cq h6,_,_,rfl,xY_cq h7,rfl⟩
  ·cases h
 eqc:=fun d a b c1 c2 hd h1 h2=>by
  cases h1;cases h2;exact sc70 a b
def ofc50:List (SV DD)→Option (DD 50)
 | [a0]=>(xS 70 a0).bind fun v0=>some v0
 | _=>none
def ce50:CE DD:=⟨50,fun x=>[.fsl 70 (x)],ofc50,none⟩
theorem ceOk50:ce50.Ok where
 rdi:=@fun H ρ cs x=>⟨fun h=>by
  obtain⟨A0,n0,c0,s0,h,h0⟩:=(show Dt.rd (α:=List Sec) H cs x from h)
  subst h;exact⟨_,_,rfl,⟨A0,n0,c0,s0,rfl,h0⟩,rfl⟩,fun h=>by
  obtain⟨v0,r0,e0,⟨A0,n0,c0,s0,p0,h0⟩,e⟩:=h;have e:r0=[]:=e;subst e;subst e0;subst p0
  exact(show Dt.rd (α:=List Sec) H _ x from⟨A0,n0,c0,s0,rfl,h0⟩)⟩
 cq:=@fun l x h=>by
  change ofc50 l=some x at h;unfold ofc50 at h
  split at h
  ·obtain⟨v0,h0,h⟩:=bindS h
   cases h;exact⟨_,_,rfl,xS_cq h0,rfl⟩
  ·cases h
 eqc:=fun d a b c1 c2 hd h1 h2=>by cases hd
def ofc43:List (SV DD)→Option (DD 43)
 | [a0,a1,a2,a3]=>(xI a0).bind fun v0=>(xS 104 a1).bind fun v1=>(xS 125 a2).bind fun v2=>(xS 50 a3).bind fun v3=>some ⟨v0,v1,v2,v3⟩
 | _=>none
def ce43:CE DD:=⟨43,fun x=>[.i .i64 (x.Site),.fsl 104 (x.Lineage),.fsl 125 (x.Dirty),.fsl 50 (x.Image)],ofc43,none⟩
theorem ceOk43:ce43.Ok where
 rdi:=@fun H ρ cs x=>⟨fun h=>by
  obtain⟨A0,n0,c0,s0,A1,n1,c1,s1,A2,n2,c2,s2,h,h0,h1,h2⟩:=(show Dt.rd (α:=q14) H cs x from h)
  subst h;exact⟨_,_,rfl,rfl,_,_,rfl,⟨A0,n0,c0,s0,rfl,h0⟩,_,_,rfl,⟨A1,n1,c1,s1,rfl,h1⟩,_,_,rfl,⟨A2,n2,c2,s2,rfl,h2⟩,rfl⟩,fun h=>by
  obtain⟨v0,r0,e0,p0,v1,r1,e1,⟨A0,n0,c0,s0,p1,h0⟩,v2,r2,e2,⟨A1,n1,c1,s1,p2,h1⟩,v3,r3,e3,⟨A2,n2,c2,s2,p3,h2⟩,e⟩:=h;have e:r3=[]:=e;subst e;subst e3;subst e2;subst e1;subst e0;have p0:v0=_:=p0;subst p0;subst p1;subst p2;subst p3
  exact(show Dt.rd (α:=q14) H _ x from⟨A0,n0,c0,s0,A1,n1,c1,s1,A2,n2,c2,s2,rfl,h0,h1,h2⟩)⟩
 cq:=@fun l x h=>by
  change ofc43 l=some x at h;unfold ofc43 at h
  split at h
  ·obtain⟨v0,h0,h⟩:=bindS h
   obtain⟨v1,h1,h⟩:=bindS h;obtain⟨v2,h2,h⟩:=bindS h;obtain⟨v3,h3,h⟩:=bindS h;cases h;exact⟨_,_,rfl,xI_cq h0,_,_,rfl,xS_cq h1,_,_,rfl,xS_cq h2,_,_,rfl,xS_cq h3,rfl⟩
  ·cases h
 eqc:=fun d a b c1 c2 hd h1 h2=>by cases hd
def ofc29:List (SV DD)→Option (DD 29)
 | [a0]=>(xS 43 a0).bind fun v0=>some v0
 | _=>none
def ce29:CE DD:=⟨29,fun x=>[.fsl 43 (x)],ofc29,none⟩
theorem ceOk29:ce29.Ok where
 rdi:=@fun H ρ cs x=>⟨fun h=>by
  obtain⟨A0,n0,c0,s0,h,h0⟩:=(show Dt.rd (α:=List q14) H cs x from h)
  subst h;exact⟨_,_,rfl,⟨A0,n0,c0,s0,rfl,h0⟩,rfl⟩,fun h=>by
  obtain⟨v0,r0,e0,⟨A0,n0,c0,s0,p0,h0⟩,e⟩:=h;have e:r0=[]:=e;subst e;subst e0;subst p0
  exact(show Dt.rd (α:=List q14) H _ x from⟨A0,n0,c0,s0,rfl,h0⟩)⟩
 cq:=@fun l x h=>by
  change ofc29 l=some x at h;unfold ofc29 at h
  split at h
  ·obtain⟨v0,h0,h⟩:=bindS h
   cases h;exact⟨_,_,rfl,xS_cq h0,rfl⟩
  ·cases h
 eqc:=fun d a b c1 c2 hd h1 h2=>by cases hd
def ofc30:List (SV DD)→Option (DD 30)
 | [a0]=>(xS 4 a0).bind fun v0=>some v0
 | _=>none
def ce30:CE DD:=⟨30,fun x=>[.fsl 4 (x)],ofc30,none⟩
theorem ceOk30:ce30.Ok where
 rdi:=@fun H ρ cs x=>⟨fun h=>by
  obtain⟨A0,n0,c0,s0,h,h0⟩:=(show Dt.rd (α:=List Bool) H cs x from h)
  subst h;exact⟨_,_,rfl,⟨A0,n0,c0,s0,rfl,h0⟩,rfl⟩,fun h=>by
  obtain⟨v0,r0,e0,⟨A0,n0,c0,s0,p0,h0⟩,e⟩:=h;have e:r0=[]:=e;subst e;subst e0;subst p0
  exact(show Dt.rd (α:=List Bool) H _ x from⟨A0,n0,c0,s0,rfl,h0⟩)⟩
 cq:=@fun l x h=>by
  change ofc30 l=some x at h;unfold ofc30 at h
  split at h
  ·obtain⟨v0,h0,h⟩:=bindS h
   cases h;exact⟨_,_,rfl,xS_cq h0,rfl⟩
  ·cases h
 eqc:=fun d a b c1 c2 hd h1 h2=>by cases hd
def ofc3:List (SV DD)→Option (DD 3)
 | [a0]=>(xI a0).bind fun v0=>some v0
 | _=>none
def ce3:CE DD:=⟨3,fun x=>[.i .i64 (x)],ofc3,some (inferInstanceAs (DecidableEq Int))⟩
theorem sc3(a b:Int):(([.i .i64 (a)]:List Sc)=[.i .i64 (b)])↔a=b:=⟨(Dt.ksOk (α:=Int) _ _ rfl).2.2 a b,fun h=>by rw [h]⟩
theorem ceOk3:ce3.Ok where
 rdi:=@fun H ρ cs x=>⟨fun h=>by
  obtain h:=(show Dt.rd (α:=Int) H cs x from h)
  subst h;exact⟨_,_,rfl,rfl,rfl⟩,fun h=>by
  obtain⟨v0,r0,e0,p0,e⟩:=h;have e:r0=[]:=e;subst e;subst e0;have p0:v0=_:=p0;subst p0
  exact(show Dt.rd (α:=Int) H _ x from rfl)⟩
 cq:=@fun l x h=>by
  change ofc3 l=some x at h;unfold ofc3 at h
  split at h
  ·obtain⟨v0,h0,h⟩:=bindS h
   cases h;exact⟨_,_,rfl,xI_cq h0,rfl⟩
  ·cases h
 eqc:=fun d a b c1 c2 hd h1 h2=>by
  cases h1;cases h2;exact sc3 a b
def ofc60:List (SV DD)→Option (DD 60)
 | [a0]=>(xS 3 a0).bind fun v0=>some v0
 | _=>none
def ce60:CE DD:=⟨60,fun x=>[.fsl 3 (x)],ofc60,none⟩
theorem ceOk60:ce60.Ok where
 rdi:=@fun H ρ cs x=>⟨fun h=>by
  obtain⟨A0,n0,c0,s0,h,h0⟩:=(show Dt.rd (α:=List Int) H cs x from h)
  subst h;exact⟨_,_,rfl,⟨A0,n0,c0,s0,rfl,h0⟩,rfl⟩,fun h=>by
  obtain⟨v0,r0,e0,⟨A0,n0,c0,s0,p0,h0⟩,e⟩:=h;have e:r0=[]:=e;subst e;subst e0;subst p0
  exact(show Dt.rd (α:=List Int) H _ x from⟨A0,n0,c0,s0,rfl,h0⟩)⟩
 cq:=@fun l x h=>by
  change ofc60 l=some x at h;unfold ofc60 at h
  split at h
  ·obtain⟨v0,h0,h⟩:=bindS h
   cases h;exact⟨_,_,rfl,xS_cq h0,rfl⟩
  ·cases h
 eqc:=fun d a b c1 c2 hd h1 h2=>by cases hd
def ofc41:List (SV DD)→Option (DD 41)
 | [a0]=>(xS 50 a0).bind fun v0=>some v0
 | _=>none
def ce41:CE DD:=⟨41,fun x=>[.fsl 50 (x)],ofc41,none⟩
theorem ceOk41:ce41.Ok where
 rdi:=@fun H ρ cs x=>⟨fun h=>by
  obtain⟨A0,n0,c0,s0,h,h0⟩:=(show Dt.rd (α:=List (List Sec)) H cs x from h)
  subst h;exact⟨_,_,rfl,⟨A0,n0,c0,s0,rfl,h0⟩,rfl⟩,fun h=>by
  obtain⟨v0,r0,e0,⟨A0,n0,c0,s0,p0,h0⟩,e⟩:=h;have e:r0=[]:=e;subst e;subst e0;subst p0
  exact(show Dt.rd (α:=List (List Sec)) H _ x from⟨A0,n0,c0,s0,rfl,h0⟩)⟩
 cq:=@fun l x h=>by
  change ofc41 l=some x at h;unfold ofc41 at h
  split at h
  ·obtain⟨v0,h0,h⟩:=bindS h
   cases h;exact⟨_,_,rfl,xS_cq h0,rfl⟩
  ·cases h
 eqc:=fun d a b c1 c2 hd h1 h2=>by cases hd
def ofc35:List (SV DD)→Option (DD 35)
 | [a0]=>(xI a0).bind fun v0=>some v0
 | _=>none
def ce35:CE DD:=⟨35,fun x=>[.i .i64 (x)],ofc35,none⟩
theorem ceOk35:ce35.Ok where
 rdi:=@fun H ρ cs x=>⟨fun h=>by
  obtain h:=(show Dt.rd (α:=Int) H cs x from h)
  subst h;exact⟨_,_,rfl,rfl,rfl⟩,fun h=>by
  obtain⟨v0,r0,e0,p0,e⟩:=h;have e:r0=[]:=e;subst e;subst e0;have p0:v0=_:=p0;subst p0
  exact(show Dt.rd (α:=Int) H _ x from rfl)⟩
 cq:=@fun l x h=>by
  change ofc35 l=some x at h;unfold ofc35 at h
  split at h
  ·obtain⟨v0,h0,h⟩:=bindS h
   cases h;exact⟨_,_,rfl,xI_cq h0,rfl⟩
  ·cases h
 eqc:=fun d a b c1 c2 hd h1 h2=>by cases hd
def ofc40:List (SV DD)→Option (DD 40)
 | [a0]=>(xS 50 a0).bind fun v0=>some v0
 | _=>none
def ce40:CE DD:=⟨40,fun x=>[.fsl 50 (x)],ofc40,none⟩
theorem ceOk40:ce40.Ok where
 rdi:=@fun H ρ cs x=>⟨fun h=>by
  obtain⟨A0,n0,c0,s0,h,h0⟩:=(show Dt.rd (α:=List (List Sec)) H cs x from h)
  subst h;exact⟨_,_,rfl,⟨A0,n0,c0,s0,rfl,h0⟩,rfl⟩,fun h=>by
  obtain⟨v0,r0,e0,⟨A0,n0,c0,s0,p0,h0⟩,e⟩:=h;have e:r0=[]:=e;subst e;subst e0;subst p0
  exact(show Dt.rd (α:=List (List Sec)) H _ x from⟨A0,n0,c0,s0,rfl,h0⟩)⟩
 cq:=@fun l x h=>by
  change ofc40 l=some x at h;unfold ofc40 at h
  split at h
  ·obtain⟨v0,h0,h⟩:=bindS h
   cases h;exact⟨_,_,rfl,xS_cq h0,rfl⟩
  ·cases h
 eqc:=fun d a b c1 c2 hd h1 h2=>by cases hd
def ofc22:List (SV DD)→Option (DD 22)
 | [a0]=>(xS 65 a0).bind fun v0=>some v0
 | _=>none
def ce22:CE DD:=⟨22,fun x=>[.fsl 65 (x)],ofc22,none⟩
theorem ceOk22:ce22.Ok where
 rdi:=@fun H ρ cs x=>⟨fun h=>by
  obtain⟨A0,n0,c0,s0,h,h0⟩:=(show Dt.rd (α:=List q11) H cs x from h)
  subst h;exact⟨_,_,rfl,⟨A0,n0,c0,s0,rfl,h0⟩,rfl⟩,fun h=>by
  obtain⟨v0,r0,e0,⟨A0,n0,c0,s0,p0,h0⟩,e⟩:=h;have e:r0=[]:=e;subst e;subst e0;subst p0
  exact(show Dt.rd (α:=List q11) H _ x from⟨A0,n0,c0,s0,rfl,h0⟩)⟩
 cq:=@fun l x h=>by
  change ofc22 l=some x at h;unfold ofc22 at h
  split at h
  ·obtain⟨v0,h0,h⟩:=bindS h
   cases h;exact⟨_,_,rfl,xS_cq h0,rfl⟩
  ·cases h
 eqc:=fun d a b c1 c2 hd h1 h2=>by cases hd
def q758:List (SV DD)→Option (DD 161)
 | [a0,a1,a2]=>(xI a0).bind fun v0=>(xI a1).bind fun v1=>(xS 125 a2).bind fun v2=>some ⟨v0,v1,v2⟩
 | _=>none
def ce161:CE DD:=⟨161,fun x=>[.i .i64 (x.Site),.i .i64 (x.Common),.fsl 125 (x.Dirty)],q758,none⟩
theorem ceOk161:ce161.Ok where
 rdi:=@fun H ρ cs x=>⟨fun h=>by
  obtain⟨A0,n0,c0,s0,h,h0⟩:=(show Dt.rd (α:=q15) H cs x from h)
  subst h;exact⟨_,_,rfl,rfl,_,_,rfl,rfl,_,_,rfl,⟨A0,n0,c0,s0,rfl,h0⟩,rfl⟩,fun h=>by
  obtain⟨v0,r0,e0,p0,v1,r1,e1,p1,v2,r2,e2,⟨A0,n0,c0,s0,p2,h0⟩,e⟩:=h;have e:r2=[]:=e;subst e;subst e2;subst e1;subst e0;have p0:v0=_:=p0;subst p0;have p1:v1=_:=p1;subst p1;subst p2
  exact(show Dt.rd (α:=q15) H _ x from⟨A0,n0,c0,s0,rfl,h0⟩)⟩
 cq:=@fun l x h=>by
  change q758 l=some x at h;unfold q758 at h
  split at h
  ·obtain⟨v0,h0,h⟩:=bindS h
   obtain⟨v1,h1,h⟩:=bindS h;obtain⟨v2,h2,h⟩:=bindS h;cases h;exact⟨_,_,rfl,xI_cq h0,_,_,rfl,xI_cq h1,_,_,rfl,xS_cq h2,rfl⟩
  ·cases h
 eqc:=fun d a b c1 c2 hd h1 h2=>by cases hd
def q759:List (SV DD)→Option (DD 107)
 | [a0,a1]=>(xS 3 a0).bind fun v0=>(xS 161 a1).bind fun v1=>some ⟨v0,v1⟩
 | _=>none
def ce107:CE DD:=⟨107,fun x=>[.fsl 3 (x.Sizes),.fsl 161 (x.Peers)],q759,none⟩
theorem ceOk107:ce107.Ok where
 rdi:=@fun H ρ cs x=>⟨fun h=>by
  obtain⟨A0,n0,c0,s0,A1,n1,c1,s1,h,h0,h1⟩:=(show Dt.rd (α:=q16) H cs x from h)
  subst h;exact⟨_,_,rfl,⟨A0,n0,c0,s0,rfl,h0⟩,_,_,rfl,⟨A1,n1,c1,s1,rfl,h1⟩,rfl⟩,fun h=>by
  obtain⟨v0,r0,e0,⟨A0,n0,c0,s0,p0,h0⟩,v1,r1,e1,⟨A1,n1,c1,s1,p1,h1⟩,e⟩:=h;have e:r1=[]:=e;subst e;subst e1;subst e0;subst p0;subst p1
  exact(show Dt.rd (α:=q16) H _ x from⟨A0,n0,c0,s0,A1,n1,c1,s1,rfl,h0,h1⟩)⟩
 cq:=@fun l x h=>by
  change q759 l=some x at h;unfold q759 at h
  split at h
  ·obtain⟨v0,h0,h⟩:=bindS h
   obtain⟨v1,h1,h⟩:=bindS h;cases h;exact⟨_,_,rfl,xS_cq h0,_,_,rfl,xS_cq h1,rfl⟩
  ·cases h
 eqc:=fun d a b c1 c2 hd h1 h2=>by cases hd
def ofc39:List (SV DD)→Option (DD 39)
 | [a0]=>(xS 125 a0).bind fun v0=>some v0
 | _=>none
def ce39:CE DD:=⟨39,fun x=>[.fsl 125 (x)],ofc39,none⟩
theorem ceOk39:ce39.Ok where
 rdi:=@fun H ρ cs x=>⟨fun h=>by
  obtain⟨A0,n0,c0,s0,h,h0⟩:=(show Dt.rd (α:=List q9) H cs x from h)
  subst h;exact⟨_,_,rfl,⟨A0,n0,c0,s0,rfl,h0⟩,rfl⟩,fun h=>by
  obtain⟨v0,r0,e0,⟨A0,n0,c0,s0,p0,h0⟩,e⟩:=h;have e:r0=[]:=e;subst e;subst e0;subst p0
  exact(show Dt.rd (α:=List q9) H _ x from⟨A0,n0,c0,s0,rfl,h0⟩)⟩
 cq:=@fun l x h=>by
  change ofc39 l=some x at h;unfold ofc39 at h
  split at h
  ·obtain⟨v0,h0,h⟩:=bindS h
   cases h;exact⟨_,_,rfl,xS_cq h0,rfl⟩
  ·cases h
 eqc:=fun d a b c1 c2 hd h1 h2=>by cases hd
def q760:List (SV DD)→Option (DD 105)
 | [a0]=>(xS 161 a0).bind fun v0=>some v0
 | _=>none
def ce105:CE DD:=⟨105,fun x=>[.fsl 161 (x)],q760,none⟩
theorem ceOk105:ce105.Ok where
 rdi:=@fun H ρ cs x=>⟨fun h=>by
  obtain⟨A0,n0,c0,s0,h,h0⟩:=(show Dt.rd (α:=List q15) H cs x from h)
  subst h;exact⟨_,_,rfl,⟨A0,n0,c0,s0,rfl,h0⟩,rfl⟩,fun h=>by
  obtain⟨v0,r0,e0,⟨A0,n0,c0,s0,p0,h0⟩,e⟩:=h;have e:r0=[]:=e;subst e;subst e0;subst p0
  exact(show Dt.rd (α:=List q15) H _ x from⟨A0,n0,c0,s0,rfl,h0⟩)⟩
 cq:=@fun l x h=>by
  change q760 l=some x at h;unfold q760 at h
  split at h
  ·obtain⟨v0,h0,h⟩:=bindS h
   cases h;exact⟨_,_,rfl,xS_cq h0,rfl⟩
  ·cases h
 eqc:=fun d a b c1 c2 hd h1 h2=>by cases hd
def ofc72:List (SV DD)→Option (DD 72)
 | [a0,a1,a2]=>(xI a0).bind fun v0=>(xI a1).bind fun v1=>(xS 70 a2).bind fun v2=>some ⟨v0,v1,v2⟩
 | _=>none
def ce72:CE DD:=⟨72,fun x=>[.i .i64 (x.Volume),.i .i64 (x.Start),.fsl 70 (x.Data)],ofc72,none⟩
theorem ceOk72:ce72.Ok where
 rdi:=@fun H ρ cs x=>⟨fun h=>by
  obtain⟨A0,n0,c0,s0,h,h0⟩:=(show Dt.rd (α:=q10) H cs x from h)
  subst h;exact⟨_,_,rfl,rfl,_,_,rfl,rfl,_,_,rfl,⟨A0,n0,c0,s0,rfl,h0⟩,rfl⟩,fun h=>by
  obtain⟨v0,r0,e0,p0,v1,r1,e1,p1,v2,r2,e2,⟨A0,n0,c0,s0,p2,h0⟩,e⟩:=h;have e:r2=[]:=e;subst e;subst e2;subst e1;subst e0;have p0:v0=_:=p0;subst p0;have p1:v1=_:=p1;subst p1;subst p2
  exact(show Dt.rd (α:=q10) H _ x from⟨A0,n0,c0,s0,rfl,h0⟩)⟩
 cq:=@fun l x h=>by
  change ofc72 l=some x at h;unfold ofc72 at h
  split at h
  ·obtain⟨v0,h0,h⟩:=bindS h
   obtain⟨v1,h1,h⟩:=bindS h;obtain⟨v2,h2,h⟩:=bindS h;cases h;exact⟨_,_,rfl,xI_cq h0,_,_,rfl,xI_cq h1,_,_,rfl,xS_cq h2,rfl⟩
  ·cases h
 eqc:=fun d a b c1 c2 hd h1 h2=>by cases hd
def ofc34:List (SV DD)→Option (DD 34)
 | [a0]=>(xS 72 a0).bind fun v0=>some v0
 | _=>none
def ce34:CE DD:=⟨34,fun x=>[.fsl 72 (x)],ofc34,none⟩
theorem ceOk34:ce34.Ok where
 rdi:=@fun H ρ cs x=>⟨fun h=>by
  obtain⟨A0,n0,c0,s0,h,h0⟩:=(show Dt.rd (α:=List q10) H cs x from h)
  subst h;exact⟨_,_,rfl,⟨A0,n0,c0,s0,rfl,h0⟩,rfl⟩,fun h=>by
  obtain⟨v0,r0,e0,⟨A0,n0,c0,s0,p0,h0⟩,e⟩:=h;have e:r0=[]:=e;subst e;subst e0;subst p0
  exact(show Dt.rd (α:=List q10) H _ x from⟨A0,n0,c0,s0,rfl,h0⟩)⟩
 cq:=@fun l x h=>by
  change ofc34 l=some x at h;unfold ofc34 at h
  split at h
  ·obtain⟨v0,h0,h⟩:=bindS h
   cases h;exact⟨_,_,rfl,xS_cq h0,rfl⟩
  ·cases h
 eqc:=fun d a b c1 c2 hd h1 h2=>by cases hd
def ofc79:List (SV DD)→Option (DD 79)
 | [a0]=>(xS 83 a0).bind fun v0=>some v0
 | _=>none
def ce79:CE DD:=⟨79,fun x=>[.fsl 83 (x)],ofc79,none⟩
theorem ceOk79:ce79.Ok where
 rdi:=@fun H ρ cs x=>⟨fun h=>by
  obtain⟨A0,n0,c0,s0,h,h0⟩:=(show Dt.rd (α:=List (BitVec 64)) H cs x from h)
  subst h;exact⟨_,_,rfl,⟨A0,n0,c0,s0,rfl,h0⟩,rfl⟩,fun h=>by
  obtain⟨v0,r0,e0,⟨A0,n0,c0,s0,p0,h0⟩,e⟩:=h;have e:r0=[]:=e;subst e;subst e0;subst p0
  exact(show Dt.rd (α:=List (BitVec 64)) H _ x from⟨A0,n0,c0,s0,rfl,h0⟩)⟩
 cq:=@fun l x h=>by
  change ofc79 l=some x at h;unfold ofc79 at h
  split at h
  ·obtain⟨v0,h0,h⟩:=bindS h
   cases h;exact⟨_,_,rfl,xS_cq h0,rfl⟩
  ·cases h
 eqc:=fun d a b c1 c2 hd h1 h2=>by cases hd
def ofc76:List (SV DD)→Option (DD 76)
 | [a0,a1]=>(xI a0).bind fun v0=>(xI a1).bind fun v1=>some ⟨v0,v1⟩
 | _=>none
def ce76:CE DD:=⟨76,fun x=>[.i .i64 (x.Start),.i .i64 (x.Count)],ofc76,some (inferInstanceAs (DecidableEq q8))⟩
theorem sc76(a b:q8):(([.i .i64 (a.Start),.i .i64 (a.Count)]:List Sc)=[.i .i64 (b.Start),.i .i64 (b.Count)])↔a=b:=by
 cases a;cases b;simp
theorem ceOk76:ce76.Ok where
 rdi:=@fun H ρ cs x=>⟨fun h=>by
  obtain h:=(show Dt.rd (α:=q8) H cs x from h)
  subst h;exact⟨_,_,rfl,rfl,_,_,rfl,rfl,rfl⟩,fun h=>by
  obtain⟨v0,r0,e0,p0,v1,r1,e1,p1,e⟩:=h;have e:r1=[]:=e;subst e;subst e1;subst e0;have p0:v0=_:=p0;subst p0;have p1:v1=_:=p1;subst p1
  exact(show Dt.rd (α:=q8) H _ x from rfl)⟩
 cq:=@fun l x h=>by
  change ofc76 l=some x at h;unfold ofc76 at h
  split at h
  ·obtain⟨v0,h0,h⟩:=bindS h
   obtain⟨v1,h1,h⟩:=bindS h;cases h;exact⟨_,_,rfl,xI_cq h0,_,_,rfl,xI_cq h1,rfl⟩
  ·cases h
 eqc:=fun d a b c1 c2 hd h1 h2=>by
  cases h1;cases h2;exact sc76 a b
def ofc38:List (SV DD)→Option (DD 38)
 | [a0]=>(xS 104 a0).bind fun v0=>some v0
 | _=>none
def ce38:CE DD:=⟨38,fun x=>[.fsl 104 (x)],ofc38,none⟩
theorem ceOk38:ce38.Ok where
 rdi:=@fun H ρ cs x=>⟨fun h=>by
  obtain⟨A0,n0,c0,s0,h,h0⟩:=(show Dt.rd (α:=List q42) H cs x from h)
  subst h;exact⟨_,_,rfl,⟨A0,n0,c0,s0,rfl,h0⟩,rfl⟩,fun h=>by
  obtain⟨v0,r0,e0,⟨A0,n0,c0,s0,p0,h0⟩,e⟩:=h;have e:r0=[]:=e;subst e;subst e0;subst p0
  exact(show Dt.rd (α:=List q42) H _ x from⟨A0,n0,c0,s0,rfl,h0⟩)⟩
 cq:=@fun l x h=>by
  change ofc38 l=some x at h;unfold ofc38 at h
  split at h
  ·obtain⟨v0,h0,h⟩:=bindS h
   cases h;exact⟨_,_,rfl,xS_cq h0,rfl⟩
  ·cases h
 eqc:=fun d a b c1 c2 hd h1 h2=>by cases hd
def q761:List (SV DD)→Option (DD 119)
 | [a0,a1]=>(xI a0).bind fun v0=>(xI a1).bind fun v1=>some ⟨v0,v1⟩
 | _=>none
def ce119:CE DD:=⟨119,fun x=>[.i .i64 (x.e0),.i .i64 (x.e1)],q761,some (inferInstanceAs (DecidableEq q97))⟩
theorem sc119(a b:q97):(([.i .i64 (a.e0),.i .i64 (a.e1)]:List Sc)=[.i .i64 (b.e0),.i .i64 (b.e1)])↔a=b:=by
 cases a;cases b;simp
theorem ceOk119:ce119.Ok where
 rdi:=@fun H ρ cs x=>⟨fun h=>by
  obtain h:=(show Dt.rd (α:=q97) H cs x from h)
  subst h;exact⟨_,_,rfl,rfl,_,_,rfl,rfl,rfl⟩,fun h=>by
  obtain⟨v0,r0,e0,p0,v1,r1,e1,p1,e⟩:=h;have e:r1=[]:=e;subst e;subst e1;subst e0;have p0:v0=_:=p0;subst p0;have p1:v1=_:=p1;subst p1
  exact(show Dt.rd (α:=q97) H _ x from rfl)⟩
 cq:=@fun l x h=>by
  change q761 l=some x at h;unfold q761 at h
  split at h
  ·obtain⟨v0,h0,h⟩:=bindS h
   obtain⟨v1,h1,h⟩:=bindS h;cases h;exact⟨_,_,rfl,xI_cq h0,_,_,rfl,xI_cq h1,rfl⟩
  ·cases h
 eqc:=fun d a b c1 c2 hd h1 h2=>by
  cases h1;cases h2;exact sc119 a b
def ofc51:List (SV DD)→Option (DD 51)
 | [a0]=>(xS 76 a0).bind fun v0=>some v0
 | _=>none
def ce51:CE DD:=⟨51,fun x=>[.fsl 76 (x)],ofc51,none⟩
theorem ceOk51:ce51.Ok where
 rdi:=@fun H ρ cs x=>⟨fun h=>by
  obtain⟨A0,n0,c0,s0,h,h0⟩:=(show Dt.rd (α:=List q8) H cs x from h)
  subst h;exact⟨_,_,rfl,⟨A0,n0,c0,s0,rfl,h0⟩,rfl⟩,fun h=>by
  obtain⟨v0,r0,e0,⟨A0,n0,c0,s0,p0,h0⟩,e⟩:=h;have e:r0=[]:=e;subst e;subst e0;subst p0
  exact(show Dt.rd (α:=List q8) H _ x from⟨A0,n0,c0,s0,rfl,h0⟩)⟩
 cq:=@fun l x h=>by
  change ofc51 l=some x at h;unfold ofc51 at h
  split at h
  ·obtain⟨v0,h0,h⟩:=bindS h
   cases h;exact⟨_,_,rfl,xS_cq h0,rfl⟩
  ·cases h
 eqc:=fun d a b c1 c2 hd h1 h2=>by cases hd
def ofc44:List (SV DD)→Option (DD 44)
 | [a0]=>(xS 51 a0).bind fun v0=>some v0
 | _=>none
def ce44:CE DD:=⟨44,fun x=>[.fsl 51 (x)],ofc44,none⟩
theorem ceOk44:ce44.Ok where
 rdi:=@fun H ρ cs x=>⟨fun h=>by
  obtain⟨A0,n0,c0,s0,h,h0⟩:=(show Dt.rd (α:=List (List q8)) H cs x from h)
  subst h;exact⟨_,_,rfl,⟨A0,n0,c0,s0,rfl,h0⟩,rfl⟩,fun h=>by
  obtain⟨v0,r0,e0,⟨A0,n0,c0,s0,p0,h0⟩,e⟩:=h;have e:r0=[]:=e;subst e;subst e0;subst p0
  exact(show Dt.rd (α:=List (List q8)) H _ x from⟨A0,n0,c0,s0,rfl,h0⟩)⟩
 cq:=@fun l x h=>by
  change ofc44 l=some x at h;unfold ofc44 at h
  split at h
  ·obtain⟨v0,h0,h⟩:=bindS h
   cases h;exact⟨_,_,rfl,xS_cq h0,rfl⟩
  ·cases h
 eqc:=fun d a b c1 c2 hd h1 h2=>by cases hd
def ofc47:List (SV DD)→Option (DD 47)
 | [a0,a1,a2]=>(xI a0).bind fun v0=>(xI a1).bind fun v1=>(xS 79 a2).bind fun v2=>some ⟨v0,v1,v2⟩
 | _=>none
def ce47:CE DD:=⟨47,fun x=>[.i .i64 (x.Size),.i .i64 (x.Leaf),.fsl 79 (x.Levels)],ofc47,none⟩
theorem ceOk47:ce47.Ok where
 rdi:=@fun H ρ cs x=>⟨fun h=>by
  obtain⟨A0,n0,c0,s0,h,h0⟩:=(show Dt.rd (α:=q17) H cs x from h)
  subst h;exact⟨_,_,rfl,rfl,_,_,rfl,rfl,_,_,rfl,⟨A0,n0,c0,s0,rfl,h0⟩,rfl⟩,fun h=>by
  obtain⟨v0,r0,e0,p0,v1,r1,e1,p1,v2,r2,e2,⟨A0,n0,c0,s0,p2,h0⟩,e⟩:=h;have e:r2=[]:=e;subst e;subst e2;subst e1;subst e0;have p0:v0=_:=p0;subst p0;have p1:v1=_:=p1;subst p1;subst p2
  exact(show Dt.rd (α:=q17) H _ x from⟨A0,n0,c0,s0,rfl,h0⟩)⟩
 cq:=@fun l x h=>by
  change ofc47 l=some x at h;unfold ofc47 at h
  split at h
  ·obtain⟨v0,h0,h⟩:=bindS h
   obtain⟨v1,h1,h⟩:=bindS h;obtain⟨v2,h2,h⟩:=bindS h;cases h;exact⟨_,_,rfl,xI_cq h0,_,_,rfl,xI_cq h1,_,_,rfl,xS_cq h2,rfl⟩
  ·cases h
 eqc:=fun d a b c1 c2 hd h1 h2=>by cases hd
def ofc5:List (SV DD)→Option (DD 5)
 | [a0]=>(xY a0).bind fun v0=>some v0
 | _=>none
def ce5:CE DD:=⟨5,fun x=>[.y (x)],ofc5,none⟩
theorem ceOk5:ce5.Ok where
 rdi:=@fun H ρ cs x=>⟨fun h=>by
  obtain h:=(show Dt.rd (α:=BitVec 8) H cs x from h)
  subst h;exact⟨_,_,rfl,rfl,rfl⟩,fun h=>by
  obtain⟨v0,r0,e0,p0,e⟩:=h;have e:r0=[]:=e;subst e;subst e0;have p0:v0=_:=p0;subst p0
  exact(show Dt.rd (α:=BitVec 8) H _ x from rfl)⟩
 cq:=@fun l x h=>by
  change ofc5 l=some x at h;unfold ofc5 at h
  split at h
  ·obtain⟨v0,h0,h⟩:=bindS h
   cases h;exact⟨_,_,rfl,xY_cq h0,rfl⟩
  ·cases h
 eqc:=fun d a b c1 c2 hd h1 h2=>by cases hd
def ofc92:List (SV DD)→Option (DD 92)
 | [a0]=>(xS 5 a0).bind fun v0=>some v0
 | _=>none
def ce92:CE DD:=⟨92,fun x=>[.fsl 5 (x)],ofc92,none⟩
theorem ceOk92:ce92.Ok where
 rdi:=@fun H ρ cs x=>⟨fun h=>by
  obtain⟨A0,n0,c0,s0,h,h0⟩:=(show Dt.rd (α:=List (BitVec 8)) H cs x from h)
  subst h;exact⟨_,_,rfl,⟨A0,n0,c0,s0,rfl,h0⟩,rfl⟩,fun h=>by
  obtain⟨v0,r0,e0,⟨A0,n0,c0,s0,p0,h0⟩,e⟩:=h;have e:r0=[]:=e;subst e;subst e0;subst p0
  exact(show Dt.rd (α:=List (BitVec 8)) H _ x from⟨A0,n0,c0,s0,rfl,h0⟩)⟩
 cq:=@fun l x h=>by
  change ofc92 l=some x at h;unfold ofc92 at h
  split at h
  ·obtain⟨v0,h0,h⟩:=bindS h
   cases h;exact⟨_,_,rfl,xS_cq h0,rfl⟩
  ·cases h
 eqc:=fun d a b c1 c2 hd h1 h2=>by cases hd
def ofc87:List (SV DD)→Option (DD 87)
 | [a0,a1,a2,a3,a4,a5,a6,a7]=>(xI a0).bind fun v0=>(xI a1).bind fun v1=>(xS 79 a2).bind fun v2=>(xS 76 a3).bind fun v3=>(xI a4).bind fun v4=>(xS 76 a5).bind fun v5=>(xI a6).bind fun v6=>(q202 a7).bind fun v7=>some ⟨⟨v0,v1,v2⟩,v3,v4,v5,v6,v7⟩
 | _=>none
def ce87:CE DD:=⟨87,fun x=>[.i .i64 (x.Tree.Size),.i .i64 (x.Tree.Leaf),.fsl 79 (x.Tree.Levels),.fsl 76 (x.Pending),.i .i64 (x.Level),.fsl 76 (x.Found),.i .i64 (x.Sent),.b (x.Done)],ofc87,none⟩
theorem ceOk87:ce87.Ok where
 rdi:=@fun H ρ cs x=>⟨fun h=>by
  obtain⟨A0,n0,c0,s0,A1,n1,c1,s1,A2,n2,c2,s2,h,h0,h1,h2⟩:=(show Dt.rd (α:=q18) H cs x from h)
  subst h;exact⟨_,_,rfl,rfl,_,_,rfl,rfl,_,_,rfl,⟨A0,n0,c0,s0,rfl,h0⟩,_,_,rfl,⟨A1,n1,c1,s1,rfl,h1⟩,_,_,rfl,rfl,_,_,rfl,⟨A2,n2,c2,s2,rfl,h2⟩,_,_,rfl,rfl,_,_,rfl,rfl,rfl⟩,fun h=>by
  obtain⟨v0,r0,e0,p0,v1,r1,e1,p1,v2,r2,e2,⟨A0,n0,c0,s0,p2,h0⟩,v3,r3,e3,⟨A1,n1,c1,s1,p3,h1⟩,v4,r4,e4,p4,v5,r5,e5,⟨A2,n2,c2,s2,p5,h2⟩,v6,r6,e6,p6,v7,r7,e7,p7,e⟩:=h;have e:r7=[]:=e;subst e;subst e7;subst e6;subst e5;subst e4;subst e3;subst e2;subst e1;subst e0;have p0:v0=_:=p0;subst p0;have p1:v1=_:=p1;subst p1;subst p2;subst p3;have p4:v4=_:=p4;subst p4;subst p5;have p6:v6=_:=p6;subst p6;have p7:v7=_:=p7;subst p7
  exact(show Dt.rd (α:=q18) H _ x from⟨A0,n0,c0,s0,A1,n1,c1,s1,A2,n2,c2,s2,rfl,h0,h1,h2⟩)⟩
 cq:=@fun l x h=>by
  change ofc87 l=some x at h;unfold ofc87 at h
  split at h
  ·obtain⟨v0,h0,h⟩:=bindS h
   obtain⟨v1,h1,h⟩:=bindS h;obtain⟨v2,h2,h⟩:=bindS h;obtain⟨v3,h3,h⟩:=bindS h;obtain⟨v4,h4,h⟩:=bindS h;obtain⟨v5,h5,h⟩:=bindS h;obtain⟨v6,h6,h⟩:=bindS h;obtain⟨v7,h7,h⟩:=bindS h;cases h;exact⟨_,_,rfl,xI_cq h0,_,_,rfl,xI_cq h1,_,_,rfl,xS_cq h2,_,_,rfl,xS_cq h3,_,_,rfl,xI_cq h4,_,_,rfl,xS_cq h5,_,_,rfl,xI_cq h6,_,_,rfl,xB_cq h7,rfl⟩
  ·cases h
 eqc:=fun d a b c1 c2 hd h1 h2=>by cases hd
def ofc94:List (SV DD)→Option (DD 94)
 | [a0,a1,a2,a3,a4,a5,a6,a7]=>(xI a0).bind fun v0=>(xI a1).bind fun v1=>(xI a2).bind fun v2=>(xI a3).bind fun v3=>(xI a4).bind fun v4=>(xI a5).bind fun v5=>(xS 3 a6).bind fun v6=>(xS 5 a7).bind fun v7=>some ⟨v0,v1,v2,v3,v4,v5,v6,v7⟩
 | _=>none
def ce94:CE DD:=⟨94,fun x=>[.i .i64 (x.Kind),.i .i64 (x.From),.i .i64 (x.To),.i .i64 (x.Number),.i .i64 (x.Value),.i .i64 (x.Epoch),.fsl 3 (x.Values),.fsl 5 (x.Body)],ofc94,none⟩
theorem ceOk94:ce94.Ok where
 rdi:=@fun H ρ cs x=>⟨fun h=>by
  obtain⟨A0,n0,c0,s0,A1,n1,c1,s1,h,h0,h1⟩:=(show Dt.rd (α:=q12) H cs x from h)
  subst h;exact⟨_,_,rfl,rfl,_,_,rfl,rfl,_,_,rfl,rfl,_,_,rfl,rfl,_,_,rfl,rfl,_,_,rfl,rfl,_,_,rfl,⟨A0,n0,c0,s0,rfl,h0⟩,_,_,rfl,⟨A1,n1,c1,s1,rfl,h1⟩,rfl⟩,fun h=>by
  obtain⟨v0,r0,e0,p0,v1,r1,e1,p1,v2,r2,e2,p2,v3,r3,e3,p3,v4,r4,e4,p4,v5,r5,e5,p5,v6,r6,e6,⟨A0,n0,c0,s0,p6,h0⟩,v7,r7,e7,⟨A1,n1,c1,s1,p7,h1⟩,e⟩:=h;have e:r7=[]:=e;subst e;subst e7;subst e6;subst e5;subst e4;subst e3;subst e2;subst e1;subst e0;have p0:v0=_:=p0;subst p0;have p1:v1=_:=p1;subst p1;have p2:v2=_:=p2;subst p2;have p3:v3=_:=p3;subst p3;have p4:v4=_:=p4;subst p4;have p5:v5=_:=p5;subst p5;subst p6;subst p7
  exact(show Dt.rd (α:=q12) H _ x from⟨A0,n0,c0,s0,A1,n1,c1,s1,rfl,h0,h1⟩)⟩
 cq:=@fun l x h=>by
  change ofc94 l=some x at h;unfold ofc94 at h
  split at h
  ·obtain⟨v0,h0,h⟩:=bindS h
   obtain⟨v1,h1,h⟩:=bindS h;obtain⟨v2,h2,h⟩:=bindS h;obtain⟨v3,h3,h⟩:=bindS h;obtain⟨v4,h4,h⟩:=bindS h;obtain⟨v5,h5,h⟩:=bindS h;obtain⟨v6,h6,h⟩:=bindS h;obtain⟨v7,h7,h⟩:=bindS h;cases h;exact⟨_,_,rfl,xI_cq h0,_,_,rfl,xI_cq h1,_,_,rfl,xI_cq h2,_,_,rfl,xI_cq h3,_,_,rfl,xI_cq h4,_,_,rfl,xI_cq h5,_,_,rfl,xS_cq h6,_,_,rfl,xS_cq h7,rfl⟩
  ·cases h
 eqc:=fun d a b c1 c2 hd h1 h2=>by cases hd
def ofc88:List (SV DD)→Option (DD 88)
 | [a0]=>(xS 94 a0).bind fun v0=>some v0
 | _=>none
def ce88:CE DD:=⟨88,fun x=>[.fsl 94 (x)],ofc88,none⟩
theorem ceOk88:ce88.Ok where
 rdi:=@fun H ρ cs x=>⟨fun h=>by
  obtain⟨A0,n0,c0,s0,h,h0⟩:=(show Dt.rd (α:=List q12) H cs x from h)
  subst h;exact⟨_,_,rfl,⟨A0,n0,c0,s0,rfl,h0⟩,rfl⟩,fun h=>by
  obtain⟨v0,r0,e0,⟨A0,n0,c0,s0,p0,h0⟩,e⟩:=h;have e:r0=[]:=e;subst e;subst e0;subst p0
  exact(show Dt.rd (α:=List q12) H _ x from⟨A0,n0,c0,s0,rfl,h0⟩)⟩
 cq:=@fun l x h=>by
  change ofc88 l=some x at h;unfold ofc88 at h
  split at h
  ·obtain⟨v0,h0,h⟩:=bindS h
   cases h;exact⟨_,_,rfl,xS_cq h0,rfl⟩
  ·cases h
 eqc:=fun d a b c1 c2 hd h1 h2=>by cases hd
def ofc45:List (SV DD)→Option (DD 45)
 | [a0]=>(xS 79 a0).bind fun v0=>some v0
 | _=>none
def ce45:CE DD:=⟨45,fun x=>[.fsl 79 (x)],ofc45,none⟩
theorem ceOk45:ce45.Ok where
 rdi:=@fun H ρ cs x=>⟨fun h=>by
  obtain⟨A0,n0,c0,s0,h,h0⟩:=(show Dt.rd (α:=List (List (BitVec 64))) H cs x from h)
  subst h;exact⟨_,_,rfl,⟨A0,n0,c0,s0,rfl,h0⟩,rfl⟩,fun h=>by
  obtain⟨v0,r0,e0,⟨A0,n0,c0,s0,p0,h0⟩,e⟩:=h;have e:r0=[]:=e;subst e;subst e0;subst p0
  exact(show Dt.rd (α:=List (List (BitVec 64))) H _ x from⟨A0,n0,c0,s0,rfl,h0⟩)⟩
 cq:=@fun l x h=>by
  change ofc45 l=some x at h;unfold ofc45 at h
  split at h
  ·obtain⟨v0,h0,h⟩:=bindS h
   cases h;exact⟨_,_,rfl,xS_cq h0,rfl⟩
  ·cases h
 eqc:=fun d a b c1 c2 hd h1 h2=>by cases hd
def q762:List (SV DD)→Option (DD 138)
 | [a0,a1,a2,a3,a4,a5,a6,a7]=>(xI a0).bind fun v0=>(xI a1).bind fun v1=>(xS 79 a2).bind fun v2=>(xS 76 a3).bind fun v3=>(xI a4).bind fun v4=>(xS 76 a5).bind fun v5=>(xI a6).bind fun v6=>(q202 a7).bind fun v7=>some ⟨⟨⟨v0,v1,v2⟩,v3,v4,v5,v6,v7⟩⟩
 | _=>none
def ce138:CE DD:=⟨138,fun x=>[.i .i64 (x.Walk.Tree.Size),.i .i64 (x.Walk.Tree.Leaf),.fsl 79 (x.Walk.Tree.Levels),.fsl 76 (x.Walk.Pending),.i .i64 (x.Walk.Level),.fsl 76 (x.Walk.Found),.i .i64 (x.Walk.Sent),.b (x.Walk.Done)],q762,none⟩
theorem ceOk138:ce138.Ok where
 rdi:=@fun H ρ cs x=>⟨fun h=>by
  obtain⟨A0,n0,c0,s0,A1,n1,c1,s1,A2,n2,c2,s2,h,h0,h1,h2⟩:=(show Dt.rd (α:=q40) H cs x from h)
  subst h;exact⟨_,_,rfl,rfl,_,_,rfl,rfl,_,_,rfl,⟨A0,n0,c0,s0,rfl,h0⟩,_,_,rfl,⟨A1,n1,c1,s1,rfl,h1⟩,_,_,rfl,rfl,_,_,rfl,⟨A2,n2,c2,s2,rfl,h2⟩,_,_,rfl,rfl,_,_,rfl,rfl,rfl⟩,fun h=>by
  obtain⟨v0,r0,e0,p0,v1,r1,e1,p1,v2,r2,e2,⟨A0,n0,c0,s0,p2,h0⟩,v3,r3,e3,⟨A1,n1,c1,s1,p3,h1⟩,v4,r4,e4,p4,v5,r5,e5,⟨A2,n2,c2,s2,p5,h2⟩,v6,r6,e6,p6,v7,r7,e7,p7,e⟩:=h;have e:r7=[]:=e;subst e;subst e7;subst e6;subst e5;subst e4;subst e3;subst e2;subst e1;subst e0;have p0:v0=_:=p0;subst p0;have p1:v1=_:=p1;subst p1;subst p2;subst p3;have p4:v4=_:=p4;subst p4;subst p5;have p6:v6=_:=p6;subst p6;have p7:v7=_:=p7;subst p7
  exact(show Dt.rd (α:=q40) H _ x from⟨A0,n0,c0,s0,A1,n1,c1,s1,A2,n2,c2,s2,rfl,h0,h1,h2⟩)⟩
 cq:=@fun l x h=>by
  change q762 l=some x at h;unfold q762 at h
  split at h
  ·obtain⟨v0,h0,h⟩:=bindS h
   obtain⟨v1,h1,h⟩:=bindS h;obtain⟨v2,h2,h⟩:=bindS h;obtain⟨v3,h3,h⟩:=bindS h;obtain⟨v4,h4,h⟩:=bindS h;obtain⟨v5,h5,h⟩:=bindS h;obtain⟨v6,h6,h⟩:=bindS h;obtain⟨v7,h7,h⟩:=bindS h;cases h;exact⟨_,_,rfl,xI_cq h0,_,_,rfl,xI_cq h1,_,_,rfl,xS_cq h2,_,_,rfl,xS_cq h3,_,_,rfl,xI_cq h4,_,_,rfl,xS_cq h5,_,_,rfl,xI_cq h6,_,_,rfl,xB_cq h7,rfl⟩
  ·cases h
 eqc:=fun d a b c1 c2 hd h1 h2=>by cases hd
def q763:List (SV DD)→Option (DD 135)
 | [.fel e xs i off]=>match castL e 138 xs with
  | some [x]=>bif decide (i=0)&&Nat.beq off 0 then some ⟨x⟩ else none
  | _=>none
 | _=>none
def ce135:CE DD:=⟨135,fun x=>[.fel 138 [x.val] 0 0],q763,none⟩
theorem ceOk135:ce135.Ok where
 rdi:=@fun H ρ cs x=>⟨fun h=>by
  obtain⟨A,n,c,s,h,h1⟩:=(show Dt.rd (α:=Ptr q40) H cs x from h)
  exact⟨_,[],h,⟨A,n,c,s,rfl,h1,Int.le_refl _,by show(0:Int)<((1:Nat):Int);decide⟩,rfl⟩,fun h=>by
  obtain⟨v,r,e,⟨A,n,c,s,h,h1,_⟩,e2⟩:=h;have e2:r=[]:=e2;subst e2;subst e;subst h
  exact(show Dt.rd (α:=Ptr q40) H _ x from⟨A,n,c,s,rfl,h1⟩)⟩
 cq:=@fun l x h=>by
  change q763 l=some x at h;unfold q763 at h
  split at h
  ·split at h
   ·rename_i e xs i off y hc
    obtain⟨hb,h⟩:=cif h;cases h;obtain⟨he,h1⟩:=q102 hc;subst he;subst h1;rw [Bool.and_eq_true] at hb;obtain⟨hb1,hb2⟩:=hb;have hb1:=of_decide_eq_true hb1;have hb2:=Nat.eq_of_beq_eq_true hb2;subst hb1;subst hb2;exact⟨_,_,rfl,.inr ⟨rfl,rfl,fun _ _ _ h=>h⟩,rfl⟩
   ·cases h
  ·cases h
 eqc:=fun d a b c1 c2 hd h1 h2=>by cases hd
def q764:List (SV DD)→Option (DD 223)
 | [a0,a1,a2]=>(xI a0).bind fun v0=>(xI a1).bind fun v1=>(xI a2).bind fun v2=>some ⟨v0,v1,v2⟩
 | _=>none
def ce223:CE DD:=⟨223,fun x=>[.i .i64 (x.at_),.i .i64 (x.list),.i .i64 (x.step)],q764,some (inferInstanceAs (DecidableEq q13))⟩
theorem sc223(a b:q13):(([.i .i64 (a.at_),.i .i64 (a.list),.i .i64 (a.step)]:List Sc)=[.i .i64 (b.at_),.i .i64 (b.list),.i .i64 (b.step)])↔a=b:=by
 cases a;cases b;simp
theorem ceOk223:ce223.Ok where
 rdi:=@fun H ρ cs x=>⟨fun h=>by
  obtain h:=(show Dt.rd (α:=q13) H cs x from h)
  subst h;exact⟨_,_,rfl,rfl,_,_,rfl,rfl,_,_,rfl,rfl,rfl⟩,fun h=>by
  obtain⟨v0,r0,e0,p0,v1,r1,e1,p1,v2,r2,e2,p2,e⟩:=h;have e:r2=[]:=e;subst e;subst e2;subst e1;subst e0;have p0:v0=_:=p0;subst p0;have p1:v1=_:=p1;subst p1;have p2:v2=_:=p2;subst p2
  exact(show Dt.rd (α:=q13) H _ x from rfl)⟩
 cq:=@fun l x h=>by
  change q764 l=some x at h;unfold q764 at h
  split at h
  ·obtain⟨v0,h0,h⟩:=bindS h
   obtain⟨v1,h1,h⟩:=bindS h;obtain⟨v2,h2,h⟩:=bindS h;cases h;exact⟨_,_,rfl,xI_cq h0,_,_,rfl,xI_cq h1,_,_,rfl,xI_cq h2,rfl⟩
  ·cases h
 eqc:=fun d a b c1 c2 hd h1 h2=>by
  cases h1;cases h2;exact sc223 a b
def q765:List (SV DD)→Option (DD 220)
 | [a0]=>(xS 223 a0).bind fun v0=>some v0
 | _=>none
def ce220:CE DD:=⟨220,fun x=>[.fsl 223 (x)],q765,none⟩
theorem ceOk220:ce220.Ok where
 rdi:=@fun H ρ cs x=>⟨fun h=>by
  obtain⟨A0,n0,c0,s0,h,h0⟩:=(show Dt.rd (α:=List q13) H cs x from h)
  subst h;exact⟨_,_,rfl,⟨A0,n0,c0,s0,rfl,h0⟩,rfl⟩,fun h=>by
  obtain⟨v0,r0,e0,⟨A0,n0,c0,s0,p0,h0⟩,e⟩:=h;have e:r0=[]:=e;subst e;subst e0;subst p0
  exact(show Dt.rd (α:=List q13) H _ x from⟨A0,n0,c0,s0,rfl,h0⟩)⟩
 cq:=@fun l x h=>by
  change q765 l=some x at h;unfold q765 at h
  split at h
  ·obtain⟨v0,h0,h⟩:=bindS h
   cases h;exact⟨_,_,rfl,xS_cq h0,rfl⟩
  ·cases h
 eqc:=fun d a b c1 c2 hd h1 h2=>by cases hd
def tab:Tb DD:=[ce4,ce65,ce27,ce28,ce104,ce83,ce125,ce70,ce50,ce43,ce29,ce30,ce3,ce60,ce41,ce35,ce40,ce22,ce161,ce107,ce39,ce105,ce72,ce34,ce79,ce76,ce38,ce119,ce51,ce44,ce47,ce5,ce92,ce87,ce94,ce88,ce45,ce138,ce135,ce223,ce220]
theorem tabOk:TbOk tab:=⟨ceOk4,ceOk65,ceOk27,ceOk28,ceOk104,ceOk83,ceOk125,ceOk70,ceOk50,ceOk43,ceOk29,ceOk30,ceOk3,ceOk60,ceOk41,ceOk35,ceOk40,ceOk22,ceOk161,ceOk107,ceOk39,ceOk105,ceOk72,ceOk34,ceOk79,ceOk76,ceOk38,ceOk119,ceOk51,ceOk44,ceOk47,ceOk5,ceOk92,ceOk87,ceOk94,ceOk88,ceOk45,ceOk138,ceOk135,ceOk223,ceOk220,trivial⟩
end Go.Proofs.YtmfeabjhjhjfeaaGreatDoor
