/- Proved: the tied card of the statement TopResyncsCompare: for every argument that can be read the law returns true and leaves its arguments as they were. Conditions: the row's own alone: the table math/bits.deBruijn64tab reads as listed, which the card ties to the program's text. -/
import Derived.Test.YtmfeabjhjhjfeaaGreatDoorM5
namespace Go.Proofs.YtmfeabjhjhjfeaaGreatDoor
open Go.RowKit
theorem q856{x:Int}:∀ {l:List Int},(∀ y∈l,x≤y)→insZ x l=x::l
 | [],_=>rfl
 | y::r,h=>by unfold insZ;rw [if_pos (h y List.mem_cons_self)]
theorem q514:∀ {l:List Int},l.Pairwise (fun a b=>a<b)→sortZ l=l
 | [],_=>rfl
 | x::r,h=>by
  have h1:=List.pairwise_cons.1 h;show insZ x (sortZ r)=_;rw [q514 h1.2];exact q856 fun y hy=>Int.le_of_lt (h1.1 y hy)
theorem q774:∀ {l m:List Int},l.Pairwise (fun a b=>a<b)→m.Pairwise (fun a b=>a<b)→(∀ x,x∈l↔x∈m)→l=m
 | [],[],_,_,_=>rfl
 | [],y::m,_,_,h=>absurd ((h y).2 List.mem_cons_self) List.not_mem_nil
 | x::l,[],_,_,h=>absurd ((h x).1 List.mem_cons_self) List.not_mem_nil
 | x::l,y::m,h1,h2,h=>by
  have a:=List.pairwise_cons.1 h1;have b:=List.pairwise_cons.1 h2
  have e:x=y:=by
   rcases List.mem_cons.1 ((h x).1 List.mem_cons_self) with p | p
   ·exact p
   ·rcases List.mem_cons.1 ((h y).2 List.mem_cons_self) with q | q
    ·exact q.symm
    ·have:=b.1 x p;have:=a.1 y q;omega
  subst e
  congr 1
  refine q774 a.2 b.2 fun z=>⟨fun hz=>?_,fun hz=>?_⟩
  ·rcases List.mem_cons.1 ((h z).1 (List.mem_cons_of_mem _ hz)) with e | e
   ·subst e;have:=a.1 z hz;omega
   ·exact e
  ·rcases List.mem_cons.1 ((h z).2 (List.mem_cons_of_mem _ hz)) with e | e
   ·subst e;have:=b.1 z hz;omega
   ·exact e
theorem q857{l:List Int}(h:l.Nodup):(sortZ l).Pairwise (fun a b=>a<b):=by
 have h1:(sortZ l).Nodup:=(q229 l).nodup_iff.2 h;exact((q211 l).and h1).imp fun q=>by have:=q.1;have:=q.2;omega
theorem q775{l:List Int}{x:Int}:x∈sortZ l↔x∈l:=(q229 l).mem_iff
theorem q630{b:q9}{e:q8}(h:chkB b=0)(hf:fitsB e.Start e.Count b.Size=true):(setBm b e).2=0∧chkB (setBm b e).1=0∧(setBm b e).1.Size=b.Size∧∀ i:Nat,(i:Int)<b.Size→(bitN (setBm b e).1.Words i=true↔bitN b.Words i=true∨(e.Start≤(i:Int)∧(i:Int)<e.Start+e.Count)):=by
 have hw:=q123 (b:=b) (by simpa using h)
 have e1:setBm b e=(⟨b.Size,chW true b.Words e.Start (e.Start+e.Count)⟩,0):=by
  unfold setBm;rw [q886 (by simpa [chkB] using h) hf];rfl
 rw [e1];refine⟨rfl,q855 h hf,rfl,fun i hi=>?_⟩;show bitN (chW true b.Words e.Start (e.Start+e.Count)) i=true↔_;rw [q690 _ _ _ _ _ (by omega)];by_cases hc:e.Start≤(i:Int)∧(i:Int)<e.Start+e.Count
 ·rw [if_pos hc];exact⟨fun _=>.inr hc,fun _=>rfl⟩
 ·rw [if_neg hc];exact⟨fun z=>.inl z,fun z=>z.resolve_right hc⟩
theorem q776{n:Int}(h0:0≤n)(h1:n≤4096):chkB (newB n)=0∧∀ i,bitN (newB n).Words i=false:=⟨chk_new h0 h1,fun _=>bit_new⟩
def covT(w:q10)(v i:Nat):Prop:=w.Volume=(v:Int)∧w.Start≤(i:Int)∧(i:Int)<w.Start+(w.Data.length:Int)
structure BmsOk(sizes:List Int)(d:List q9):Prop where
 len:d.length=sizes.length
 chk:∀ v:Nat,v<sizes.length→chkB (ix d (v:Int))=0∧(ix d (v:Int)).Size=ix sizes (v:Int)
structure q309(sizes:List Int)(d:List q9)(P:Nat→Nat→Prop):Prop extends BmsOk sizes d where
 bit:∀ v i:Nat,v<sizes.length→(i:Int)<ix sizes (v:Int)→(bitN (ix d (v:Int)).Words i=true↔P v i)
theorem q664{b:q9}(h:chkB b=0):b.Words.length≤1000:=by
 have:=q123 (b:=b) (by simpa using h);omega
theorem BmsOk.words{sizes:List Int}{d:List q9}(h:BmsOk sizes d):∀ b∈d,chkB b=0∧b.Words.length≤1000:=fun b hb=>by
 obtain⟨k,hk,rfl⟩:=List.getElem_of_mem hb;have:=(h.chk k (by have:=h.len;omega)).1;rw [q30 hk] at this;exact⟨this,q664 this⟩
theorem q631{sizes:List Int}{v:Nat}(hv:v<sizes.length):ix (sizes.map newB) (v:Int)=newB (ix sizes (v:Int)):=by
 rw [q30 (by rw [List.length_map];exact hv),List.getElem_map,q30 hv]
theorem q217{sizes:List Int}(hs:q44 sizes=0):q309 sizes (sizes.map newB) (fun _ _=>False):=by
 refine⟨⟨List.length_map _,fun v hv=>?_⟩,fun v i hv _=>?_⟩
 ·have:=q157 hs hv
  rw [q631 hv];exact⟨(q776 (by omega) (by omega)).1,rfl⟩
 ·have:=q157 hs hv
  rw [q631 hv,(q776 (by omega) (by omega)).2 i];simp
theorem q333{sizes:List Int}{w:q10}(h:fitW sizes w=0):∃ v:Nat,w.Volume=(v:Int)∧v<sizes.length∧0≤w.Start∧1≤(w.Data.length:Int)∧w.Start+(w.Data.length:Int)≤ix sizes (v:Int):=by
 unfold fitW at h
 split at h
 ·omega
 split at h
 ·omega
 split at h
 ·omega
 rename_i a b c;refine⟨w.Volume.toNat,by omega,by omega,by omega,by omega, ?_⟩;rw [show((w.Volume.toNat:Nat):Int)=w.Volume by omega];omega
theorem q418{sizes:List Int}{d:List q9}(h:BmsOk sizes d){w:q10}(hw:fitW sizes w=0):fitsB w.Start (w.Data.length:Int) (ix d w.Volume).Size=true:=by
 obtain⟨v,hv,hl,h0,h1,h2⟩:=q333 hw;rw [hv,(h.chk v hl).2];exact q197.2 ⟨by omega,by omega,by omega,by omega⟩
theorem q777{sizes:List Int}{d:List q9}(h:BmsOk sizes d){w:q10}(hw:fitW sizes w=0):(setBm (ix d w.Volume) ⟨w.Start,(w.Data.length:Int)⟩).2=0:=by
 obtain⟨v,hv,hl,h0,h1,h2⟩:=q333 hw;have hf:=q418 h hw;rw [hv] at hf ⊢;exact(q630 (e:=⟨w.Start,(w.Data.length:Int)⟩) (h.chk v hl).1 hf).1
theorem q778{α:Type}[Dt α](xs:List α){k:Nat}(x:α)(hk:k<xs.length)(j:Nat):ix (put xs (k:Int) x) (j:Int)=if j=k then x else ix xs (j:Int):=by
 show(xs.set k x).getD j default=_;rw [List.getD_eq_getElem?_getD,List.getElem?_set];by_cases h:k=j
 ·subst h;rw [if_pos rfl,if_pos rfl,if_pos hk];rfl
 ·rw [if_neg h,if_neg (Ne.symm h)];rw [← List.getD_eq_getElem?_getD];rfl
theorem q375{sizes:List Int}{d:List q9}{P:Nat→Nat→Prop}(h:q309 sizes d P){w:q10}(hw:fitW sizes w=0):q309 sizes (mark1 d w) (fun v i=>P v i∨covT w v i):=by
 obtain⟨v0,hv,hl,h0,h1,h2⟩:=q333 hw;have hf:=q418 h.toBmsOk hw;have hlen:=h.len;rw [hv] at hf;obtain⟨s1,s2,s3,s4⟩:=q630 (e:=⟨w.Start,(w.Data.length:Int)⟩) (h.chk v0 hl).1 hf
 have e:∀ v:Nat,ix (mark1 d w) (v:Int)=if v=v0 then(setBm (ix d (v0:Int)) ⟨w.Start,(w.Data.length:Int)⟩).1 else ix d (v:Int):=fun v=>by
  unfold mark1;rw [hv,q778 _ _ (by omega)]
 have c2:=(h.chk v0 hl).2;refine⟨⟨(q147 _ _ _).trans hlen,fun v hv'=>?_⟩,fun v i hv' hi=>?_⟩
 ·rw [e v]
  by_cases hc:v=v0
  ·subst hc;rw [if_pos rfl];exact⟨s2,s3.trans c2⟩
  ·rw [if_neg hc];exact h.chk v hv'
 ·rw [e v]
  by_cases hc:v=v0
  ·subst hc
   rw [if_pos rfl,s4 i (by rw [c2];exact hi),h.bit v i hv' hi];exact or_congr Iff.rfl ⟨fun q=>⟨hv,q.1,q.2⟩,fun q=>⟨q.2.1,q.2.2⟩⟩
  ·rw [if_neg hc,h.bit v i hv' hi]
   exact⟨fun q=>.inl q,fun q=>q.resolve_right fun z=>hc (by have:=z.1;omega)⟩
theorem q858{sizes:List Int}{d:List q9}(h:BmsOk sizes d){w:q10}(hw:fitW sizes w=0):BmsOk sizes (mark1 d w):=
 (q375 (P:=fun v i=>bitN (ix d (v:Int)).Words i=true) ⟨h,fun _ _ _ _=>Iff.rfl⟩ hw).toBmsOk
theorem q632{sizes:List Int}:∀ {l:List q10} {d:List q9},BmsOk sizes d→(∀ w∈l,fitW sizes w=0)→BmsOk sizes (markL d l)
 | [],_,h,_=>h
 | w::l,d,h,hf=>q632 (l:=l) (d:=mark1 d w) (q858 h (hf w List.mem_cons_self)) fun x hx=>hf x (List.mem_cons_of_mem _ hx)
theorem q248{sizes:List Int}:∀ {l:List q10} {d:List q9} {P:Nat→Nat→Prop},q309 sizes d P→(∀ w∈l,fitW sizes w=0)→q309 sizes (markL d l) (fun v i=>P v i∨∃ w∈l,covT w v i)
 | [],d,P,h,_=>⟨h.toBmsOk,fun v i hv hi=>(h.bit v i hv hi).trans ⟨.inl,fun q=>q.resolve_right fun⟨w,hw,_⟩=>absurd hw List.not_mem_nil⟩⟩
 | w::l,d,P,h,hf=>by
  have:=q248 (l:=l) (q375 h (hf w List.mem_cons_self)) fun x hx=>hf x (List.mem_cons_of_mem _ hx);refine⟨this.toBmsOk,fun v i hv hi=>(this.bit v i hv hi).trans ?_⟩;constructor
  ·rintro((q | q) | ⟨x,hx,q⟩)
   ·exact .inl q
   ·exact .inr ⟨w,List.mem_cons_self,q⟩
   ·exact .inr ⟨x,List.mem_cons_of_mem _ hx,q⟩
  ·rintro(q | ⟨x,hx,q⟩)
   ·exact .inl (.inl q)
   ·rcases List.mem_cons.1 hx with rfl | hx
    ·exact .inl (.inr q)
    ·exact .inr ⟨x,hx,q⟩
structure TrkOk(t:q16):Prop where
 hs:q44 t.Sizes=0
 n4:t.Peers.length≤4
 bms:∀ k:Nat,k<t.Peers.length→BmsOk t.Sizes (ix t.Peers (k:Int)).Dirty
 site:∀ k:Nat,k<t.Peers.length→0≤(ix t.Peers (k:Int)).Site∧(ix t.Peers (k:Int)).Site<4
 com:∀ k:Nat,k<t.Peers.length→0≤(ix t.Peers (k:Int)).Common∧(ix t.Peers (k:Int)).Common≤1073741824
 asc:∀ i j:Nat,i<j→j<t.Peers.length→(ix t.Peers (i:Int)).Site<(ix t.Peers (j:Int)).Site
theorem q779{d:List q9}{sizes:List Int}(h:bmsC d sizes=0):BmsOk sizes d:=by
 unfold bmsC at h
 split at h
 ·omega
 ·rename_i hl
  refine⟨by omega,fun v hv=>?_⟩;have:=q58.1 h v (by omega);unfold bmsE at this
  split at this
  ·rename_i q;exact absurd this q
  ·rename_i q
   split at this
   ·omega
   ·rename_i q2;exact⟨Classical.not_not.1 q,Classical.not_not.1 q2⟩
theorem bmsC_of{d:List q9}{sizes:List Int}(h:BmsOk sizes d):bmsC d sizes=0:=by
 have hl:=h.len;unfold bmsC;rw [if_neg (by omega)];refine q58.2 fun k hk=>?_;have:=h.chk k (by omega);unfold bmsE;rw [if_neg (fun q=>q this.1),if_neg (fun q=>q this.2)]
theorem q915{t:q16}(h:trkE t=0):TrkOk t:=by
 unfold trkE at h
 split at h
 ·rename_i q;exact absurd h q
 rename_i q
 split at h
 ·omega
 have hz:=q58.1 h
 have pk:∀ k:Nat,k<t.Peers.length→(0≤(ix t.Peers (k:Int)).Site∧(ix t.Peers (k:Int)).Site<4)∧¬(0<(k:Int)∧(ix t.Peers (k:Int)).Site≤(ix t.Peers ((k:Int)-1)).Site)∧(0≤(ix t.Peers (k:Int)).Common∧(ix t.Peers (k:Int)).Common≤1073741824)∧bmsC (ix t.Peers (k:Int)).Dirty t.Sizes=0:=fun k hk=>by
  have:=hz k hk;unfold peerE at this
  split at this
  ·omega
  split at this
  ·omega
  split at this
  ·omega
  rename_i n1 n2 n3;exact⟨by omega,n2,by omega,this⟩
 refine⟨Classical.not_not.1 q,by omega,fun k hk=>q779 (pk k hk).2.2.2,fun k hk=>(pk k hk).1,fun k hk=>(pk k hk).2.2.1,fun i j hij hj=>?_⟩
 induction j with
 | zero=>omega
 | succ j ih=>
  have h1:=(pk (j+1) hj).2.1;rw [show((j+1:Nat):Int)-1=(j:Int) by omega] at h1;rcases Nat.lt_or_ge i j with h2 | h2
  ·have:=ih h2 (by omega);omega
  ·have:i=j:=by omega
   subst this;omega
theorem q916{t:q16}(h:TrkOk t):trkE t=0:=by
 have h4:=h.n4;unfold trkE;rw [if_neg (fun q=>q h.hs),if_neg (by omega)];refine q58.2 fun k hk=>?_;have h1:=h.site k hk;have h2:=h.com k hk;unfold peerE;rw [if_neg (by omega),if_neg,if_neg (by omega)]
 ·exact bmsC_of (h.bms k hk)
 ·rintro⟨q1,q2⟩
  obtain⟨j,rfl⟩:∃ j,k=j+1:=⟨k-1,by omega⟩
  have:=h.asc j (j+1) (by omega) hk;rw [show((j+1:Nat):Int)-1=(j:Int) by omega] at q2;omega
theorem q859{l:List Int}(h:¬q44 l≠0):l.length≤8∧1≤l.length∧∀ k:Nat,k<l.length→1≤ix l (k:Int)∧ix l (k:Int)≤4096:=by
 have h0:=Classical.not_not.1 h;unfold q44 at h0
 split at h0
 ·omega
 ·refine⟨by omega,by omega,fun k hk=>?_⟩
  have:=q58.1 h0 k hk
  split at this <;> omega
theorem q515{sizes:List Int}{w:q10}(hs:¬q44 sizes≠0)(h:fitW sizes w=0):0≤w.Volume∧w.Volume<(sizes.length:Int)∧1≤w.Data.length∧0≤w.Start∧w.Start+(w.Data.length:Int)≤ix sizes w.Volume∧ix sizes w.Volume≤4096:=by
 unfold fitW at h
 split at h
 ·omega
 split at h
 ·omega
 split at h
 ·omega
 obtain⟨v,hv⟩:=Int.eq_ofNat_of_zero_le (show 0≤w.Volume by omega);have hz:=(q859 hs).2.2 v (by omega);rw [← hv] at hz;omega
theorem q780{α:Type}[Dt α](xs:List α){i j:Nat}(x:α)(hi:i<xs.length):ix (put xs (i:Int) x) (j:Int)=if j=i then x else ix xs (j:Int):=by
 show(xs.set i x).getD j default=if j=i then x else xs.getD j default;rw [List.getD_eq_getElem?_getD,List.getD_eq_getElem?_getD];by_cases h:j=i
 ·subst h;rw [List.getElem?_set_self hi,if_pos rfl];rfl
 ·rw [List.getElem?_set_ne (by omega),if_neg h]
theorem q860{α:Type}[Dt α]{xs ys:List α}{s i:Nat}(h:s+ys.length≤xs.length):ix (paste xs (s:Int) ys) (i:Int)=if s≤i∧i<s+ys.length then ix ys ((i:Int)-(s:Int)) else ix xs (i:Int):=by
 show(paste xs (s:Int) ys).getD i default=if _ then ys.getD ((i:Int)-(s:Int)).toNat default else xs.getD i default;unfold paste;rw [Int.toNat_natCast,List.getD_eq_getElem?_getD,List.getD_eq_getElem?_getD,List.getD_eq_getElem?_getD];have e1:(xs.take s).length=s:=by rw [List.length_take];omega
 have e2:ys.take (xs.length-s)=ys:=List.take_of_length_le (by omega);have e3:min ys.length (xs.length-s)=ys.length:=by omega
 rw [e2,e3];by_cases h1:i<s
 ·rw [if_neg (by omega),List.getElem?_append_left (by omega),List.getElem?_take_of_lt h1]
 ·by_cases h2:i<s+ys.length
  ·rw [if_pos (by omega),List.getElem?_append_right (by omega),e1,List.getElem?_append_left (by omega),show((i:Int)-(s:Int)).toNat=i-s by omega]
  ·rw [if_neg (by omega),List.getElem?_append_right (by omega),e1,List.getElem?_append_right (by omega),List.getElem?_drop]
   congr 2
   omega
theorem paste_len'{α:Type}{xs ys:List α}{s:Nat}(h:s≤xs.length):(paste xs (s:Int) ys).length=xs.length:=q256 ⟨by omega,by omega,by omega⟩
def q243(im:List (List Sec))(w:q10):List (List Sec):=put im w.Volume (paste (ix im w.Volume) w.Start w.Data)
def appL(im:List (List Sec))(l:List q10):List (List Sec):=l.foldl q243 im
theorem q781(im:List (List Sec))(l:List q10)(w:q10):appL im (l++[w])=q243 (appL im l) w:=by unfold appL;rw [List.foldl_append];rfl
structure FitW(sizes:List Int)(w:q10)(v s:Nat):Prop where
 vol:w.Volume=(v:Int)
 start:w.Start=(s:Int)
 hv:v<sizes.length
 len:1≤w.Data.length
 le:((s+w.Data.length:Nat):Int)≤ix sizes (v:Int)
 top:ix sizes (v:Int)≤4096
theorem q565{sizes:List Int}{w:q10}(hs:¬q44 sizes≠0)(h:fitW sizes w=0):∃ v s:Nat,FitW sizes w v s:=by
 have:=q515 hs h;obtain⟨v,hv⟩:=Int.eq_ofNat_of_zero_le this.1;obtain⟨s,hst⟩:=Int.eq_ofNat_of_zero_le this.2.2.2.1;rw [hv,hst] at this;exact⟨v,s,hv,hst,by omega,by omega,by omega,by omega⟩
theorem q419{im:List (List Sec)}{w:q10}{v s:Nat}(h:FitW (szs im) w v s):szs (q243 im w)=szs im:=by
 have hv:=h.hv;rw [q38] at hv;have hle:=h.le;rw [q115 hv] at hle;unfold q243;rw [h.vol,h.start];refine q308 (by rw [q38,q38,q147]) fun k hk=>?_;rw [q38,q147] at hk;rw [q115 (by rw [q147];exact hk),q115 hk,q780 _ _ hv];by_cases hkv:k=v
 ·rw [if_pos hkv,paste_len' (by omega),hkv]
 ·rw [if_neg hkv]
theorem q466{im:List (List Sec)}(hs:¬q44 (szs im)≠0):∀ {l:List q10},(∀ w∈l,fitW (szs im) w=0)→szs (appL im l)=szs im:=by
 intro l
 induction l generalizing im with
 | nil=>intro _;rfl
 | cons w l ih=>
  intro h;obtain⟨v,s,hw⟩:=q565 hs (h w (List.mem_cons_self ..));have e:=q419 hw;show szs (appL (q243 im w) l)=_;rw [ih (by rw [e];exact hs) fun x hx=>by rw [e];exact h x (List.mem_cons_of_mem _ hx),e]
def sec(im:List (List Sec))(v i:Nat):Sec:=ix (ix im (v:Int)) (i:Int)
def covW(w:q10)(v i:Nat):Prop:=w.Volume=(v:Int)∧w.Start≤(i:Int)∧(i:Int)<w.Start+(w.Data.length:Int)
instance (w:q10) (v i:Nat):Decidable (covW w v i):=by unfold covW;infer_instance
theorem q665{im:List (List Sec)}{w:q10}{v0 s0:Nat}(h:FitW (szs im) w v0 s0)(v i:Nat):sec (q243 im w) v i=if covW w v i then ix w.Data ((i:Int)-w.Start) else sec im v i:=by
 have hv:=h.hv;rw [q38] at hv;have hle:=h.le;rw [q115 hv] at hle;have h1:=h.vol;have h2:=h.start;have hc:covW w v i↔v=v0∧s0≤i∧i<s0+w.Data.length:=by unfold covW;omega
 have e:sec (q243 im w) v i=ix (if v=v0 then paste (ix im (v0:Int)) (s0:Int) w.Data else ix im (v:Int)) (i:Int):=by
  unfold sec q243;rw [h1,h2,q780 _ _ hv]
 rw [e];by_cases hkv:v=v0
 ·rw [if_pos hkv,q860 (by omega)]
  subst hkv;by_cases hq:s0≤i∧i<s0+w.Data.length
  ·rw [if_pos hq,if_pos (hc.2 ⟨rfl,hq⟩),h2]
  ·rw [if_neg hq,if_neg (fun q=>hq (hc.1 q).2)];rfl
 ·rw [if_neg hkv,if_neg (fun q=>hkv (hc.1 q).1)];rfl
theorem q633{v i:Nat}:∀ {l:List q10} {im:List (List Sec)},¬q44 (szs im)≠0→(∀ w∈l,fitW (szs im) w=0)→(∀ w∈l,¬covW w v i)→sec (appL im l) v i=sec im v i:=by
 intro l
 induction l with
 | nil=>intro im _ _ _;rfl
 | cons w l ih=>
  intro im hs h hn;obtain⟨v0,s0,hw⟩:=q565 hs (h w (List.mem_cons_self ..));have e:=q419 hw;show sec (appL (q243 im w) l) v i=_;rw [ih (by rw [e];exact hs) (fun x hx=>by rw [e];exact h x (List.mem_cons_of_mem _ hx)) fun x hx=>hn x (List.mem_cons_of_mem _ hx),q665 hw,if_neg (hn w (List.mem_cons_self ..))]
theorem q666{α β:Type}[Dt β](f:α→β→α)(x:α){l:List β}{k:Nat}(h:k<l.length):(l.take (k+1)).foldl f x=f ((l.take k).foldl f x) (ix l (k:Int)):=by
 rw [q63 h,List.foldl_append];rfl
theorem q634{l:List Int}{w:q10}(hs:q44 l=0)(h:fitW l w=0):w.Data.length≤4096:=by
 have:=q515 (by omega) h;omega
theorem q249{l:List Sec}{Φ:List Sec→Prop}(hl:l.length≤1000000)(hΦ:Φ l):Z17 l Φ:=
 ⟨fun h=>(by subst h;exact hΦ),iL hl (by omega),hΦ⟩
theorem q316{im:List (List Sec)}{Φ:List (List Sec)→Prop}(h:imgE im=0)(hΦ:Φ im):Z20 im Φ:=by
 have hl:=q74 h;rw [q38] at hl;refine⟨by omega,iL (by omega) (by omega), ?_⟩;refine LoopW.upT im.length (fun k=>(im.take k,(k:Int))) rfl (fun k rec hk hr=>?_) fun rec=>⟨fun _=>by omega,fun _=>by rw [q31];exact hΦ⟩
 have:=q374 h k hk;refine⟨fun _=>⟨iX (by omega) (by omega),q249 (by omega) ⟨iL (by rw [q20,lenT (by omega)];omega) (by omega),iI (by omega) (by omega),hr _ (by rw [q63 hk];rfl)⟩⟩,fun _=>by omega⟩
theorem q516{im:List (List Sec)}{l:List q10}{k:Nat}(h:k<l.length):appL im (l.take (k+1))=q243 (appL im (l.take k)) (ix l (k:Int)):=by rw [q63 h,q781]
theorem q517{im:List (List Sec)}{l:List q10}(hs:imgE im=0)(hf:∀ w∈l,fitW (szs im) w=0)(k:Nat):szs (appL im (l.take k))=szs im:=q466 (by rw [show q44 (szs im)=0 from hs];simp) fun w hw=>hf w (List.mem_of_mem_take hw)
theorem q390{im:List (List Sec)}{l:List q10}{Φ:List (List Sec)×Int×Int→Prop}(hl:l.length≤1000000)(hs:imgE im=0)(hf:∀ w∈l,fitW (szs im) w=0)(hΦ:Φ (appL im l,0,0)):q98 im l Φ:=by
 have h8:=q74 hs;rw [q38] at h8;refine q150 (by omega) ⟨fun q=>absurd hs q,fun _=>q316 hs ?_⟩;refine LoopW.upT l.length (fun k=>(appL im (l.take k),(k:Int))) rfl (fun k rec hk hr=>?_) fun rec=>⟨fun _=>by omega,fun _=>by rw [q31];exact hΦ⟩
 have hw:=hf _ (q61 (iX (i:=(k:Int)) (n:=l.length) (by omega) (by omega)));have e:=q517 hs hf k;have hs':imgE (appL im (l.take k))=0:=by unfold imgE;rw [e];exact hs
 obtain⟨v,s,hfw⟩:=q565 (by rw [show q44 (szs im)=0 from hs];simp) hw;have hv:=hfw.hv;have hle:=hfw.le;rw [← e,q38] at hv;rw [← e,q115 hv] at hle;refine⟨fun _=>⟨iX (by omega) (by omega),q271 (by have:=q634 (show q44 (szs im)=0 from hs) hw;omega) (fun j hj=>Nat.le_trans (q374 hs' j hj) (by omega)) ?_⟩,fun _=>by omega⟩;rw [e,hw];refine⟨fun q=>absurd rfl q,fun _=>?_⟩;refine⟨by rw [hfw.vol];exact iX (by omega) (by omega),by rw [hfw.vol,hfw.start];exact iS (by omega) (by omega) (by omega),iI (by omega) (by omega),hr _ (by rw [q516 hk];rfl)⟩
theorem q88{l:List Int}{Φ:List Int→Prop}(hl:l.length≤1000000)(hΦ:Φ l):Z9 l Φ:=
 ⟨fun h=>(by subst h;exact hΦ),iL hl (by omega),hΦ⟩
theorem q272{x lo hi:Int}{Φ:Bool→Prop}(h:Φ (decide (lo≤x∧x≤hi))):Z4 x lo hi Φ:=by
 refine⟨fun q=>?_,fun q=>?_⟩
 ·rw [show decide (lo≤x∧x≤hi)=decide (x≤hi) from by simp [q]] at h;exact h
 ·rw [show decide (lo≤x∧x≤hi)=false from decide_eq_false fun r=>q r.1] at h;exact h
theorem q76{x lo hi:Int}{Φ:Bool→Prop}(h1:¬(lo≤x∧x≤hi)→Φ false)(h2:lo≤x∧x≤hi→Φ true):Z4 x lo hi Φ:=by
 refine q272 ?_;by_cases q:lo≤x∧x≤hi
 ·rw [decide_eq_true q];exact h2 q
 ·rw [decide_eq_false q];exact h1 q
theorem q158{x:Int}{Φ:Bool→Prop}(h1:x<0∨4≤x→Φ false)(h2:¬(x<0∨4≤x)→Φ true):Z5 x Φ:=
 q76 (fun q=>h1 (by omega)) fun q=>h2 (by omega)
theorem ff{P Q:Prop}(h:P):(¬(false=true)→P)∧(¬(¬(false=true))→Q):=⟨fun _=>h,fun q=>absurd (by simp) q⟩
theorem tt{P Q:Prop}(h:Q):(¬(true=true)→P)∧(¬(¬(true=true))→Q):=⟨fun q=>absurd rfl q,fun _=>h⟩
theorem q183{d:List q9}{sizes:List Int}{Φ:Int→Prop}(hl:sizes.length≤100000)(hΦ:Φ (bmsC d sizes)):Z25 d sizes Φ:=by
 unfold bmsC at hΦ;refine⟨fun q=>by rw [if_pos q] at hΦ;exact hΦ,fun q=>?_⟩;rw [if_neg q] at hΦ;refine LoopW.errI d.length (fun k=>((k:Int),List.replicate k true)) (bmsE d sizes) rfl hΦ (fun k rec hk _ h1 h2=>⟨fun _=>⟨iX (by omega) (by omega),iX (by omega) (by omega), ?_⟩,fun z=>absurd (show(k:Int)<(d.length:Int) by omega) z⟩) fun rec _ h=>⟨fun z=>absurd (show(d.length:Int)<(d.length:Int) from z) (by omega),fun _=>h⟩
 by_cases a1:chkB (ix d (k:Int))≠0
 ·have e:bmsE d sizes k=chkB (ix d (k:Int)):=if_pos a1
  rw [e] at h1;exact⟨(false,chkB (ix d (k:Int)),()),q41 ⟨fun _=>rfl,fun z=>absurd a1 z⟩,fun _=>h1 a1,fun z=>absurd a1 z⟩
 ·by_cases a2:(ix d (k:Int)).Size≠ix sizes (k:Int)
  ·have e:bmsE d sizes k=22:=by unfold bmsE;rw [if_neg a1,if_pos a2]
   rw [e] at h1;exact⟨(false,22,()),q41 ⟨fun z=>absurd z a1,fun _=>⟨fun _=>rfl,fun z=>absurd a2 z⟩⟩,fun _=>h1 (by decide),fun z=>absurd (show(22:Int)≠0 by decide) z⟩
  ·have e:bmsE d sizes k=0:=by unfold bmsE;rw [if_neg a1,if_neg a2]
   exact⟨(true,0,()),q41 ⟨fun z=>absurd z a1,fun _=>⟨fun z=>absurd z a2,fun _=>rfl⟩⟩,fun z=>absurd rfl z,fun _=>⟨iL (by rw [q20,List.length_replicate];omega) (by omega),iI (by omega) (by omega),h2 e _ (Prod.ext rfl List.replicate_succ'.symm)⟩⟩
theorem q295{t:q16}{Φ:Int→Prop}(hΦ:Φ (trkE t)):Z27 t Φ:=by
 unfold trkE at hΦ;refine q112 (fun q=>⟨fun z=>absurd rfl z,fun _=>?_⟩) fun q=>⟨fun _=>by rw [if_pos q] at hΦ;exact hΦ,fun z=>absurd q z⟩
 rw [if_neg (fun z=>z q)] at hΦ;refine⟨fun q2=>by rw [if_pos q2] at hΦ;exact hΦ,fun q2=>?_⟩;rw [if_neg q2] at hΦ;refine LoopW.errI t.Peers.length (fun k=>((if k=0 then -1 else(ix t.Peers ((k:Int)-1)).Site),(k:Int))) (peerE t) rfl hΦ (fun k rec hk _ h1 h2=>?_) fun rec _ h=>⟨fun z=>absurd (show(t.Peers.length:Int)<(t.Peers.length:Int) from z) (by omega),fun _=>h⟩
 have hlt:(k:Int)<(t.Peers.length:Int):=by omega
 refine⟨fun _=>⟨iX (by omega) hlt,q158 (fun n1=>ff ?_) fun n1=>tt ⟨fun q4=>?_,fun q4=>?_⟩⟩,fun z=>absurd hlt z⟩
 ·have e:peerE t k=2:=if_pos n1
  rw [e] at h1;exact h1 (by decide)
 ·have e:peerE t k=8:=by
   unfold peerE;rw [if_neg n1];by_cases h0:k=0
   ·rw [if_pos h0] at q4;omega
   ·rw [if_neg h0] at q4;rw [if_pos ⟨by omega,q4⟩]
  rw [e] at h1;exact h1 (by decide)
 ·have n2:¬(0<(k:Int)∧(ix t.Peers (k:Int)).Site≤(ix t.Peers ((k:Int)-1)).Site):=fun h=>by
   rw [if_neg (show ¬k=0 by omega)] at q4;exact q4 h.2
  refine q76 (fun q5=>ff ?_) fun q5=>tt (q183 (by have:=q74 q;omega) ?_)
  ·have e:peerE t k=2:=by unfold peerE;rw [if_neg n1,if_neg n2,if_pos (by omega)]
   rw [e] at h1;exact h1 (by decide)
  ·have e:peerE t k=bmsC (ix t.Peers (k:Int)).Dirty t.Sizes:=by unfold peerE;rw [if_neg n1,if_neg n2,if_neg (by omega)]
   rw [e] at h1 h2;refine⟨fun q6=>h1 q6,fun q6=>⟨iI (by omega) (by omega),h2 (Classical.not_not.1 q6) _ (Prod.ext ?_ rfl)⟩⟩;show(ix t.Peers (k:Int)).Site=if k+1=0 then(-1:Int) else(ix t.Peers (((k+1:Nat):Int)-1)).Site;rw [if_neg (Nat.succ_ne_zero k),show((k+1:Nat):Int)-1=(k:Int) by omega]
theorem q189{t:q16}{Φ:Int→Prop}(_:∀ p∈t.Peers,p.Dirty.length≤100000)(hΦ:Φ (trkE t)):Z27 t Φ:=q295 hΦ
theorem q376{κ ν:Type}[DecidableEq κ]{k:κ}{v:ν}:∀ {m:List (κ×ν)},k ∉ m.map (·.1)→mput m k v=m++[(k,v)]
 | [],_=>rfl
 | p::m,h=>by
  have h1:¬k=p.1:=fun e=>h (by rw [e];exact List.mem_cons_self);unfold mput;rw [if_neg h1,q376 fun q=>h (List.mem_cons_of_mem _ q)];rfl
theorem q420{κ ν:Type}[DecidableEq κ]{k:κ}:∀ {m:List (κ×ν)},k ∉ m.map (·.1)→mfind m k=none
 | [],_=>rfl
 | p::m,h=>by
  have h1:¬k=p.1:=fun e=>h (by rw [e];exact List.mem_cons_self);unfold mfind;rw [if_neg h1,q420 fun q=>h (List.mem_cons_of_mem _ q)]
theorem q421{κ ν:Type}[DecidableEq κ]{k:κ}:∀ {m:List (κ×ν)},k∈m.map (·.1)→(mfind m k).isSome=true
 | [],h=>absurd h List.not_mem_nil
 | p::m,h=>by
  unfold mfind;by_cases h1:k=p.1
  ·rw [if_pos h1];rfl
  ·rw [if_neg h1]
   rcases List.mem_cons.1 h with e | e
   ·exact absurd e h1
   ·exact q421 e
theorem q334{κ ν:Type}[DecidableEq κ]{k:κ}{m:List (κ×ν)}:mhas m k=true↔k∈m.map (·.1):=by
 unfold mhas;by_cases h:k∈m.map (·.1)
 ·obtain⟨v,hv⟩:=Option.isSome_iff_exists.1 (q421 h)
  rw [hv];exact⟨fun _=>h,fun _=>rfl⟩
 ·rw [q420 h];exact⟨fun q=>absurd q (by simp),fun q=>absurd q h⟩
theorem q635{κ ν:Type}[DecidableEq κ]:∀ {m:List (κ×ν)} {p:κ×ν},(m.map (·.1)).Nodup→p∈m→mfind m p.1=some p.2
 | [],_,_,h=>absurd h List.not_mem_nil
 | q::m,p,hn,h=>by
  have h1:=List.nodup_cons.1 hn;unfold mfind;rcases List.mem_cons.1 h with rfl | h
  ·rw [if_pos rfl]
  ·rw [if_neg fun e=>h1.1 (List.mem_map.2 ⟨p,h,e⟩)]
   exact q635 h1.2 h
theorem q782{κ ν:Type}[DecidableEq κ]{m:List (κ×ν)}{p:κ×ν}{z:ν}(hn:(m.map (·.1)).Nodup)(h:p∈m):mget m p.1 z=p.2:=by
 unfold mget;rw [q635 hn h]
def keyP(p:q15):Int×q15:=(p.Site,p)
theorem q218(l:List q15):(l.map keyP).map (fun p=>p.1)=l.map (·.Site):=by rw [List.map_map];rfl
theorem q636{l:List q15}{p z:q15}(hn:(l.map (·.Site)).Nodup)(hp:p∈l):mget (l.map keyP) p.Site z=p:=by
 have:=q782 (m:=l.map keyP) (p:=keyP p) (z:=z) (by rw [q218];exact hn) (List.mem_map_of_mem hp);exact this
def noTrk:q16:=⟨[],[]⟩
def badS(s:Int):Bool:=decide (s<0∨4≤s)
def siteK(sites:List Int)(k:Nat):List Int:=((List.range k).map fun j:Nat=>(j:Int)).filter fun s=>decide (s∈sites)
def newP(sizes:List Int)(common s:Int):q15:=⟨s,common,sizes.map newB⟩
def newT(sizes sites:List Int)(common:Int):q16×Int:=
 if q44 sizes≠0 then(noTrk,q44 sizes) else if 4<(sites.length:Int) then(noTrk,6) else if sites.any badS=true then(noTrk,2) else if ¬sites.Nodup then(noTrk,8)
 else if common<0∨1073741824<common then(noTrk,2) else(⟨sizes,(siteK sites 4).map (newP sizes common)⟩,0)
theorem q518{sites:List Int}{k:Nat}{x:Int}:x∈siteK sites k↔(0≤x∧x<(k:Int))∧x∈sites:=by
 unfold siteK;rw [List.mem_filter,decide_eq_true_iff];refine and_congr ⟨fun h=>?_,fun h=>?_⟩ Iff.rfl
 ·obtain⟨j,hj,rfl⟩:=List.mem_map.1 h
  have:=List.mem_range.1 hj;omega
 ·exact List.mem_map.2 ⟨x.toNat,List.mem_range.2 (by omega),by omega⟩
theorem q783(sites:List Int)(k:Nat):(siteK sites k).Pairwise fun a b=>a<b:=by
 unfold siteK;refine List.Pairwise.filter _ (List.pairwise_map.2 (List.pairwise_lt_range.imp fun h=>by omega))
theorem q667(sites:List Int)(k:Nat):siteK sites (k+1)=siteK sites k++(if(k:Int)∈sites then [(k:Int)] else []):=by
 unfold siteK;rw [List.range_succ,List.map_append,List.filter_append]
 congr 1
 by_cases h:(k:Int)∈sites <;> simp [h]
theorem q519(sites:List Int):∀ k:Nat,(siteK sites k).length≤k
 | 0=>Nat.le_refl _
 | k+1=>by
  rw [q667,List.length_append];have:=q519 sites k
  split
  ·rw [List.length_singleton];omega
  ·rw [List.length_nil];omega
theorem q668{sites:List Int}(hb:∀ s∈sites,badS s=false)(hn:sites.Nodup):sortZ sites=siteK sites 4:=by
 refine q774 (q857 hn) (q783 _ _) fun x=>?_;rw [q775,q518];refine⟨fun h=>⟨?_,h⟩,fun h=>h.2⟩;have:=of_decide_eq_false (hb x h);omega
theorem q391{sizes sites:List Int}{common:Int}{Φ:q16×Int→Prop}(hΦ:Φ (newT sizes sites common)):q119 sizes sites common Φ:=by
 unfold newT at hΦ;refine q112 (fun q=>⟨fun z=>absurd rfl z,fun _=>?_⟩) fun q=>⟨fun _=>by rw [if_pos q] at hΦ;exact hΦ,fun z=>absurd q z⟩
 rw [if_neg (fun z=>z q)] at hΦ;refine⟨fun q2=>by rw [if_pos q2] at hΦ;exact hΦ,fun q2=>?_⟩;rw [if_neg q2] at hΦ;refine LoopW.anyL sites badS (Φ:=fun b=>(b=true→Φ (noTrk,2))∧(b=false→LoopW (Z11 sizes sites common Φ) (0,([]:List (Int×q15))))) ⟨fun z=>by rw [if_pos z] at hΦ;exact hΦ,fun z=>?_⟩ (fun k rec hk h1 h2=>⟨fun _=>⟨iX (by omega) (by omega),q158 (fun n=>ff ((h1 (decide_eq_true n)).1 rfl)) fun n=>tt ⟨iI (by omega) (by omega),h2 (decide_eq_false n)⟩⟩,fun q=>absurd (show(k:Int)<(sites.length:Int) by omega) q⟩) fun rec h=>⟨fun q=>absurd q (by omega),fun _=>h.2 rfl⟩
 rw [if_neg (by rw [z];simp)] at hΦ
 have hb:∀ s∈sites,badS s=false:=fun s hs=>by
  cases hx:badS s with
  | false=>rfl
  | true=>rw [List.any_eq_true.2 ⟨s,hs,hx⟩] at z;cases z
 have hs:=q74 q;refine LoopW.upI sites.length (fun k=>((k:Int),(sites.take k).map fun s=>(s,newP sizes common s))) (fun k=>(sites.take k).Nodup) rfl (by simp) (fun k rec hk hI hrec=>?_) fun rec hI=>?_
 ·have hkey:((sites.take k).map fun s=>(s,newP sizes common s)).map (·.1)=sites.take k:=by rw [List.map_map];exact List.map_id' _
  refine⟨fun _=>⟨iX (by omega) (by omega),fun hh=>?_,fun hh=>q315 (by omega) (fun j hj=>by have:=q157 q hj;omega) ⟨fun z=>absurd rfl z,fun _=>⟨iI (by omega) (by omega), ?_⟩⟩⟩,fun q=>absurd (show(k:Int)<(sites.length:Int) by omega) q⟩
  ·have hh:=q334.1 hh
   rw [hkey] at hh;rw [if_pos fun hn=>?_] at hΦ
   ·exact hΦ
   ·have h3:(sites.take (k+1)).Nodup:=hn.sublist (List.take_sublist _ _)
    rw [q63 hk] at h3;have:=(List.nodup_append.1 h3).2.2 _ hh _ (List.mem_singleton.2 rfl);exact this rfl
  ·have hh:ix sites (k:Int) ∉ sites.take k:=fun h=>hh (q334.2 (by rw [hkey];exact h))
   refine hrec ?_ _ (Prod.ext rfl ?_)
   ·rw [q63 hk]
    exact List.nodup_append.2 ⟨hI,List.nodup_cons.2 ⟨List.not_mem_nil,List.nodup_nil⟩,fun a ha b hb e=>hh (by rw [List.mem_singleton.1 hb] at e;rw [← e];exact ha)⟩
   ·rw [q37 _ hk]
    exact q376 (by rw [hkey];exact hh)
 ·rw [q31] at hI ⊢
  rw [if_neg (fun z=>z hI)] at hΦ;have hkey:(sites.map fun s=>(s,newP sizes common s)).map (fun p=>p.1)=sites:=by rw [List.map_map];exact List.map_id' _
  refine⟨fun z=>absurd (show(sites.length:Int)<(sites.length:Int) from z) (by omega),fun _=>q76 (fun q5=>ff (by rw [if_pos (by omega)] at hΦ;exact hΦ)) fun q5=>tt (q88 (by omega) ⟨by rw [hkey];exact hI,fun p hp=>?_,iL (by rw [List.length_map];omega) (by omega), ?_⟩)⟩
  ·obtain⟨s,hs,rfl⟩:=List.mem_map.1 hp
   have:=of_decide_eq_false (hb s hs);exact iI (by show -9223372036854775808≤s;omega) (by show s≤9223372036854775807;omega)
  ·rw [if_neg (show ¬(common<0∨1073741824<common) by omega)] at hΦ
   have hks:sortZ ((sites.map fun s=>(s,newP sizes common s)).map fun p=>p.1)=siteK sites 4:=by rw [hkey];exact q668 hb hI
   have hl4:=q519 sites 4;generalize hz:Z10 (sites.map fun s=>(s,newP sizes common s)) sizes Φ=step;have hstep:∀ s rec,step s rec=Z10 (sites.map fun s=>(s,newP sizes common s)) sizes Φ s rec:=fun s rec=>by rw [hz]
   refine LoopW.upT (siteK sites 4).length (fun k=>((k:Int),((siteK sites 4).take k).map (newP sizes common))) rfl (fun k rec hk hrec=>?_) fun rec=>?_
   ·rw [hstep]
    have hm:ix (siteK sites 4) (k:Int)∈sites:=(q518.1 (q61 (iX (show(0:Int)≤(k:Int) by omega) (by omega)))).2
    have hg:mget (sites.map fun s=>(s,newP sizes common s)) (ix (siteK sites 4) (k:Int)) (q15.mk 0 0 ([]:List q9))=newP sizes common (ix (siteK sites 4) (k:Int)):=
     q782 (m:=sites.map fun s=>(s,newP sizes common s)) (p:=(ix (siteK sites 4) (k:Int),newP sizes common (ix (siteK sites 4) (k:Int)))) (by rw [List.map_map];exact(List.map_id' sites).symm ▸ hI) (List.mem_map.2 ⟨_,hm,rfl⟩)
    unfold Z10;simp only;rw [hks,hg];exact⟨fun _=>⟨iX (by omega) (by omega),iL (by rw [q20,List.length_map,lenT (Nat.le_of_lt hk)];omega) (by omega),iI (by omega) (by omega),hrec _ (Prod.ext rfl (q37 _ hk).symm)⟩,fun q=>absurd (show(k:Int)<((siteK sites 4).length:Int) by omega) q⟩
   ·rw [hstep]
    unfold Z10;simp only;rw [hks,q31];exact⟨fun q=>absurd q (by omega),fun _=>hΦ⟩
theorem TrkOk.small{t:q16}(h:TrkOk t):t.Sizes.length≤8∧t.Peers.length≤4∧∀ p∈t.Peers,p.Dirty.length≤8∧∀ b∈p.Dirty,b.Words.length≤1000:=by
 have h8:=q74 h.hs;refine⟨h8.2,h.n4,fun p hp=>?_⟩;obtain⟨k,hk,rfl⟩:=List.getElem_of_mem hp;have hb:=h.bms k hk;rw [q30 hk] at hb;exact⟨by have:=hb.len;omega,fun b hb'=>(hb.words b hb').2⟩
theorem TrkOk.sites{t:q16}(h:TrkOk t):(t.Peers.map (·.Site)).Pairwise fun a b=>a<b:=by
 rw [List.pairwise_map];refine List.pairwise_iff_getElem.2 fun i j hi hj hij=>?_;have:=h.asc i j hij hj;rwa [q30 hi,q30 hj] at this
theorem q520{l:List Int}(h:l.Pairwise fun a b=>a<b):l.Nodup:=h.imp fun q=>by omega
theorem q392{b:q9}{Φ:q9→Prop}(hl:b.Words.length≤1000000)(hΦ:Φ b):q175 b Φ:=⟨(b.Words,()),q182 hl rfl,hΦ⟩
theorem q159{d:List q9}{Φ:List q9→Prop}(hl:d.length≤100000)(hw:∀ b∈d,b.Words.length≤1000000)(hΦ:Φ d):Z30 d Φ:=by
 refine LoopW.upT d.length (fun k=>((k:Int),d.take k)) rfl (fun k rec hk hrec=>⟨fun _=>⟨iX (by omega) (by omega),q392 (hw _ (q61 (iX (by omega) (by omega)))) ⟨iL (by rw [q20,lenT (Nat.le_of_lt hk)];omega) (by omega),iI (by omega) (by omega),hrec _ (Prod.ext rfl (q63 hk).symm)⟩⟩,fun q=>absurd (show(k:Int)<(d.length:Int) by omega) q⟩) fun rec=>⟨fun q=>absurd (show(d.length:Int)<(d.length:Int) from q) (by omega),fun _=>?_⟩
 rw [q31];exact hΦ
def fndK(l:List q15)(n:Int):Nat:=l.findIdx fun p=>decide (p.Site=n)
theorem q784{l:List q15}{n:Int}(h:fndK l n<l.length):(ix l (fndK l n:Int)).Site=n:=by
 rw [q30 h];exact of_decide_eq_true (List.findIdx_getElem (w:=h))
theorem q861{l:List q15}{n:Int}:fndK l n<l.length↔n∈l.map (·.Site):=by
 constructor
 ·intro h
  exact List.mem_map.2 ⟨_,q61 (iX (show(0:Int)≤(fndK l n:Int) by omega) (by omega)),q784 h⟩
 ·intro h
  obtain⟨p,hp,e⟩:=List.mem_map.1 h;exact List.findIdx_lt_length_of_exists ⟨p,hp,decide_eq_true e⟩
def q521(t:q16)(n:Int):List q9×Int×Int:=
 if trkE t≠0 then([],0,trkE t) else if fndK t.Peers n<t.Peers.length then((ix t.Peers (fndK t.Peers n:Int)).Dirty,(ix t.Peers (fndK t.Peers n:Int)).Common,0) else([],0,7)
theorem q785{l:List q15}{k:Nat}(hk:k<l.length)(hn:(l.map (·.Site)).Nodup):mput ((l.take k).map keyP) (ix l (k:Int)).Site (ix l (k:Int))=(l.take (k+1)).map keyP:=by
 rw [q376]
 ·rw [q37 keyP hk];rfl
 ·rw [q218]
  intro h;have h2:((l.take (k+1)).map (·.Site)).Nodup:=hn.sublist ((List.take_sublist _ _).map _);rw [q37 (·.Site) hk] at h2;exact(List.nodup_append.1 h2).2.2 _ h _ (List.mem_singleton.2 rfl) rfl
theorem q786{l:List q15}{n:Int}(hn:(l.map (·.Site)).Nodup)(h:fndK l n<l.length)(z:q15):mget (l.map keyP) n z=ix l (fndK l n:Int):=by
 have:=q636 (z:=z) hn (q61 (iX (show(0:Int)≤(fndK l n:Int) by omega) (by omega)));rwa [q784 h] at this
theorem q522{l:List q15}{n:Int}:mhas (l.map keyP) n=true↔fndK l n<l.length:=by
 rw [q334,q861];show n∈(l.map keyP).map (fun p=>p.1)↔_;rw [q218]
theorem q317{t:q16}{n:Int}{Φ:List q9×Int×Int→Prop}(hd:∀ p∈t.Peers,p.Dirty.length≤100000)(hΦ:Φ (q521 t n)):Z38 t n Φ:=by
 unfold q521 at hΦ;refine q189 hd ⟨fun q=>by rw [if_pos q] at hΦ;exact hΦ,fun q=>?_⟩;rw [if_neg q] at hΦ;have h:=q915 (Classical.not_not.1 q);obtain⟨h8,h4,hs⟩:=h.small;have hn:=q520 h.sites;refine LoopW.upT t.Peers.length (fun k=>((k:Int),(t.Peers.take k).map keyP)) rfl (fun k rec hk hrec=>?_) fun rec=>⟨fun z=>absurd (show(t.Peers.length:Int)<(t.Peers.length:Int) from z) (by omega),fun _=>?_⟩
 ·have hp:=hs _ (q61 (xs:=t.Peers) (i:=(k:Int)) (iX (by omega) (by omega)))
  exact⟨fun _=>⟨iX (by omega) (by omega),q159 (by omega) (fun b hb=>by have:=hp.2 b hb;omega) ⟨iI (by omega) (by omega),hrec _ (Prod.ext rfl (q785 hk hn))⟩⟩,fun z=>absurd (show(k:Int)<(t.Peers.length:Int) by omega) z⟩
 ·rw [q31]
  refine⟨fun z=>?_,fun z=>?_⟩
  ·rw [if_neg fun q2=>z (q522.2 q2)] at hΦ;exact hΦ
  ·have z:=q522.1 (Classical.not_not.1 z)
   rw [if_pos z] at hΦ;rw [q786 hn z];exact hΦ
theorem q523{l:List q15}(h:(l.map (·.Site)).Pairwise fun a b=>a<b):sortZ ((l.map keyP).map fun p=>p.1)=l.map (·.Site):=by rw [q218];exact q514 h
theorem q787{α β:Type}[Dt α][Dt β](f:α→β){l:List α}{k:Nat}(hk:k<l.length):ix (l.map f) (k:Int)=f (ix l (k:Int)):=by
 rw [q30 (by rw [List.length_map];exact hk),List.getElem_map,q30 hk]
theorem key_at{l:List q15}{k:Nat}(hn:(l.map (·.Site)).Nodup)(hk:k<l.length)(z:q15):mget (l.map keyP) (ix (l.map (·.Site)) (k:Int)) z=ix l (k:Int):=by
 rw [q787 (·.Site) hk];exact q636 hn (q61 (iX (by omega) (by omega)))
def markP(w:q10)(p:q15):q15:=⟨p.Site,p.Common,markL p.Dirty [w]⟩
def q524(t:q16)(w:q10):q16×Int:=
 if trkE t≠0 then(noTrk,trkE t) else if fitW t.Sizes w≠0 then(noTrk,fitW t.Sizes w) else(⟨t.Sizes,t.Peers.map (markP w)⟩,0)
abbrev EntD:=(Int×q15)×List q9
def dE(p:q15):EntD:=((p.Site,⟨p.Site,p.Common,[]⟩),p.Dirty)
def closeD(p:EntD):Int×q15:=(p.1.1,⟨p.1.2.Site,p.1.2.Common,p.2⟩)
theorem q862(l:List q15):(l.map dE).map closeD=l.map keyP:=by rw [List.map_map];rfl
theorem keys_dE(l:List q15):(l.map dE).map (fun p=>p.1)=l.map fun p=>(p.Site,(⟨p.Site,p.Common,[]⟩:q15)):=by rw [List.map_map];rfl
def seenL(w:q10)(l:List q15)(seen:List Nat):List q15:=l.mapIdx fun i p=>if i∈seen then markP w p else p
theorem q43(w:q10)(l:List q15)(seen:List Nat):(seenL w l seen).length=l.length:=List.length_mapIdx
theorem q184{w:q10}{l:List q15}{seen:List Nat}{k:Nat}(hk:k<l.length):ix (seenL w l seen) (k:Int)=if k∈seen then markP w (ix l (k:Int)) else ix l (k:Int):=by
 rw [q30 (by rw [q43];exact hk),q30 hk];unfold seenL;rw [List.getElem_mapIdx]
theorem q788(w:q10)(l:List q15):seenL w l []=l:=by
 refine q308 (q43 _ _ _) fun k hk=>?_;rw [q43] at hk;rw [q184 hk,if_neg List.not_mem_nil]
theorem q789{w:q10}{l:List q15}{seen:List Nat}(h:∀ i,i<l.length→i∈seen):seenL w l seen=l.map (markP w):=by
 refine q308 (by rw [q43,List.length_map]) fun k hk=>?_;rw [q43] at hk;rw [q184 hk,if_pos (h k hk),q787 _ hk]
theorem q790{w:q10}{l:List q15}{seen:List Nat}{k:Nat}(hk:k<l.length):(seenL w l seen).set k (markP w (ix l (k:Int)))=seenL w l (k::seen):=by
 refine q308 (by rw [List.length_set,q43,q43]) fun j hj=>?_;rw [List.length_set,q43] at hj;rw [← q563,q778 _ _ (by rw [q43];exact hk),q184 hj,q184 hj];by_cases e:j=k
 ·subst e;rw [if_pos rfl,if_pos List.mem_cons_self]
 ·rw [if_neg e]
  by_cases h:j∈seen
  ·rw [if_pos h,if_pos (List.mem_cons_of_mem _ h)]
  ·rw [if_neg h,if_neg fun q=>(List.mem_cons.1 q).elim e h]
theorem q566(w:q10)(l:List q15)(seen:List Nat):(seenL w l seen).map (·.Site)=l.map (·.Site):=by
 refine List.ext_getElem (by rw [List.length_map,List.length_map,q43]) fun i h1 h2=>?_;rw [List.length_map,q43] at h1;rw [List.getElem_map,List.getElem_map];have:=q184 (w:=w) (seen:=seen) h1;rw [q30 (by rw [q43];exact h1),q30 h1] at this;rw [this]
 split <;> rfl
theorem q567{l:List q15}{k:Nat}(hk:k<l.length):entD (l.map dE) k=dE (ix l (k:Int)):=by
 unfold entD;rw [List.getD_eq_getElem?_getD,List.getElem?_eq_getElem (by rw [List.length_map];exact hk),List.getElem_map,q30 hk];rfl
theorem q791:∀ {n:Nat} {seen:List Nat},seen.Nodup→(∀ i∈seen,i<n)→seen.length≤n:=by
 intro n
 induction n with
 | zero=>intro seen _ h;cases seen with
  | nil=>exact Nat.le_refl _
  | cons a r=>exact absurd (h a List.mem_cons_self) (Nat.not_lt_zero _)
 | succ n ih=>
  intro seen hn h
  have h1:(seen.erase n).length≤n:=ih (hn.erase n) fun i hi=>by
   have:=h i (List.mem_of_mem_erase hi);have:i≠n:=fun e=>(hn.mem_erase_iff.1 hi).1 e;omega
  have:=List.length_erase (a:=n) (l:=seen)
  split at this <;> omega
theorem q318{t:q16}{w:q10}{Φ:q16×Int→Prop}(hd:∀ p∈t.Peers,p.Dirty.length≤100000)(hw:w.Data.length≤1000000)(hΦ:Φ (q524 t w)):Z36 t w Φ:=by
 unfold q524 at hΦ;refine q189 hd ⟨fun q=>by rw [if_pos q] at hΦ;exact hΦ,fun q=>?_⟩;rw [if_neg q] at hΦ;have h:=q915 (Classical.not_not.1 q);obtain⟨h8,h4,hs⟩:=h.small;have hn:=q520 h.sites;refine q112 (fun q1=>⟨fun z=>absurd rfl z,fun _=>?_⟩) fun q1=>absurd h.hs q1;have hz:szs (zeroI t.Sizes)=t.Sizes:=q373 h.hs;refine q465 hw (by show q44 (szs (zeroI t.Sizes))=0;rw [hz];exact h.hs) ?_;show(fitW (szs (zeroI t.Sizes)) w≠0→Φ (noTrk,fitW (szs (zeroI t.Sizes)) w))∧_;rw [hz];refine⟨fun q2=>by rw [if_pos q2] at hΦ;exact hΦ,fun q2=>?_⟩;rw [if_neg q2] at hΦ;have hf:=Classical.not_not.1 q2;obtain⟨v,hv,hvl,_⟩:=q333 hf;refine LoopW.upT t.Peers.length (fun k=>((k:Int),(t.Peers.take k).map dE)) rfl (fun k rec hk hrec=>?_) fun rec=>⟨fun z=>absurd (show(t.Peers.length:Int)<(t.Peers.length:Int) from z) (by omega),fun _=>?_⟩
 ·have hp:=hs _ (q61 (xs:=t.Peers) (i:=(k:Int)) (iX (by omega) (by omega)))
  refine⟨fun _=>⟨iX (by omega) (by omega),q159 (by omega) (fun b hb=>by have:=hp.2 b hb;omega) ⟨?_,iI (by omega) (by omega),hrec _ (Prod.ext rfl (q37 dE hk).symm)⟩⟩,fun z=>absurd (show(k:Int)<(t.Peers.length:Int) by omega) z⟩;rw [Bool.eq_false_iff];intro hh;have hh:=q334.1 hh;rw [keys_dE,List.map_map] at hh;have h2:((t.Peers.take (k+1)).map (·.Site)).Nodup:=hn.sublist ((List.take_sublist _ _).map _);rw [q37 (·.Site) hk] at h2;exact(List.nodup_append.1 h2).2.2 _ hh _ (List.mem_singleton.2 rfl) rfl
 ·rw [q31]
  refine LoopW.of_inv (fun s=>∃ seen:List Nat,s=((t.Peers.length,seen),(seenL w t.Peers seen).map dE)∧seen.Nodup∧∀ i∈seen,i<t.Peers.length) (fun s=>t.Peers.length-s.1.2.length) ?_ ⟨[],by rw [q788,List.length_map],List.nodup_nil,fun i hi=>absurd hi List.not_mem_nil⟩
  rintro _ rec ⟨seen,rfl,hsn,hsl⟩ hrec
  have hlen:((seenL w t.Peers seen).map dE).length=t.Peers.length:=by rw [List.length_map,q43]
  have hsite:=q566 w t.Peers seen;refine⟨hlen,fun hall=>?_,fun i hi hni=>⟨hlen,hi,rfl, ?_⟩⟩
  ·rw [hlen] at hall
   have hm:=q789 (w:=w) hall;rw [hm] at hsite ⊢;have e1:(((t.Peers.map (markP w)).map dE).map fun p=>(p.1.1,(q15.mk p.1.2.Site p.1.2.Common p.2)))=(t.Peers.map (markP w)).map keyP:=q862 _;have hks:((t.Peers.map (markP w)).map (·.Site)).Pairwise fun a b=>a<b:=by rw [hsite];exact h.sites
   refine q88 (by omega) ⟨fun _ _=>rfl, ?_, ?_, ?_, ?_⟩
   ·rw [e1,q218,hsite];exact hn
   ·rw [e1]
    intro p hp;obtain⟨x,hx,rfl⟩:=List.mem_map.1 hp;obtain⟨y,hy,rfl⟩:=List.mem_map.1 hx;obtain⟨k,hk,rfl⟩:=List.getElem_of_mem hy;have:=h.site k hk;rw [q30 hk] at this;exact iI (by show -9223372036854775808≤(t.Peers[k]).Site;omega) (by show(t.Peers[k]).Site≤9223372036854775807;omega)
   ·rw [e1];exact iL (by rw [List.length_map,List.length_map];omega) (by omega)
   ·have hl2:((t.Peers.map (markP w)).map (·.Site)).length=t.Peers.length:=by rw [List.length_map,List.length_map]
    refine LoopW.upT t.Peers.length (fun k=>((k:Int),(t.Peers.take k).map (markP w))) rfl (fun k rec2 hk hrec2=>?_) fun rec2=>?_
    ·unfold Z32
     simp only;rw [e1,q523 hks,key_at (hsite ▸ hn) (by rw [List.length_map];exact hk),q787 _ hk];exact⟨fun _=>⟨iX (by omega) (by omega),iL (by rw [q20,List.length_map,lenT (Nat.le_of_lt hk)];omega) (by omega),iI (by omega) (by omega),hrec2 _ (Prod.ext rfl (q37 _ hk).symm)⟩,fun z=>absurd (show(k:Int)<(((t.Peers.map (markP w)).map (·.Site)).length:Int) by omega) z⟩
    ·unfold Z32
     simp only;rw [e1,q523 hks,q31];exact⟨fun z=>absurd z (by omega),fun _=>hΦ⟩
  ·rw [hlen] at hi
   have hx:=q184 (w:=w) (seen:=seen) hi;rw [if_neg hni] at hx;have hb:=h.bms i hi;have hin:inX v (ix t.Peers (i:Int)).Dirty.length:=iX (by omega) (by have:=hb.len;omega);have hml:=q147 (ix t.Peers (i:Int)).Dirty w.Volume (setBm (ix (ix t.Peers (i:Int)).Dirty w.Volume) ⟨w.Start,(w.Data.length:Int)⟩).1;have hse:=q777 hb hf;rw [q567 (by rw [q43];exact hi),hx];refine LoopW.upI 1 (fun k=>((k:Int),if k=0 then(ix t.Peers (i:Int)).Dirty else markL (ix t.Peers (i:Int)).Dirty [w])) (fun _=>True) rfl trivial (fun k rec2 hk _ hrec2=>?_) fun rec2 _=>⟨fun z=>absurd (show((1:Nat):Int)<1 from z) (by omega),fun _=>⟨fun z=>absurd rfl z,fun _=>?_⟩⟩
   ·obtain rfl:k=0:=by omega
    refine⟨fun _=>⟨iX (by omega) (by show((0:Nat):Int)<((1:Nat):Int);omega),by show inX w.Volume _;rw [hv];exact hin,((setBm (ix (ix t.Peers (i:Int)).Dirty w.Volume) ⟨w.Start,(w.Data.length:Int)⟩).1,(setBm (ix (ix t.Peers (i:Int)).Dirty w.Volume) ⟨w.Start,(w.Data.length:Int)⟩).2,()),q464 rfl,fun z=>absurd hse z,fun _=>⟨by show inX w.Volume _;rw [hv];exact hin,iI (by omega) (by omega),hrec2 trivial _ rfl⟩⟩,fun z=>absurd (show((0:Nat):Int)<((1:Nat):Int) by omega) z⟩
   ·have eD:entD ((seenL w t.Peers seen).map dE) i=dE (ix t.Peers (i:Int)):=by rw [q567 (by rw [q43];exact hi),hx]
    refine⟨by rw [hlen];exact hi,rfl,fun j hj=>?_,hrec _ ⟨i::seen, ?_,List.nodup_cons.2 ⟨hni,hsn⟩,fun a ha=>(List.mem_cons.1 ha).elim (fun e=>by rw [e];exact hi) (hsl a)⟩ ?_⟩
    ·rw [eD,q567 (by rw [q43];omega)]
     show(ix (seenL w t.Peers seen) (j:Int)).Site≠(ix t.Peers (i:Int)).Site;rw [q184 (by omega)];have:=h.asc j i hj hi
     split
     ·show(ix t.Peers (j:Int)).Site≠_;omega
     ·omega
    ·rw [eD]
     refine Prod.ext rfl ?_;show((seenL w t.Peers seen).map dE).set i (dE (markP w (ix t.Peers (i:Int))))=_;rw [← q790 hi,List.map_set]
    ·have this:(i::seen).length≤t.Peers.length:=q791 (List.nodup_cons.2 ⟨hni,hsn⟩) fun a ha=>(List.mem_cons.1 ha).elim (fun e=>by rw [e];exact hi) (hsl a)
     rw [List.length_cons] at this;show t.Peers.length-(seen.length+1)<t.Peers.length-seen.length;exact Nat.sub_lt_sub_left (by omega) (by omega)
theorem q792(p:Nat→Bool):∀ d k:Nat,(∃ e,k≤e∧e<k+d∧p e=true∧∀ j,k≤j→j<e→p j=false)∨∀ j,k≤j→j<k+d→p j=false
 | 0,k=>.inr fun j h1 h2=>absurd h2 (by omega)
 | d+1,k=>by
  cases hk:p k with
  | true=>exact .inl ⟨k,Nat.le_refl _,by omega,hk,fun j h1 h2=>absurd h2 (by omega)⟩
  | false=>
   rcases q792 p d (k+1) with ⟨e,h1,h2,h3,h4⟩ | h
   ·refine .inl ⟨e,by omega,by omega,h3,fun j a b=>?_⟩
    by_cases q:j=k
    ·rw [q];exact hk
    ·exact h4 j (by omega) b
   ·refine .inr fun j a b=>?_
    by_cases q:j=k
    ·rw [q];exact hk
    ·exact h j (by omega) (by omega)
theorem q793{L:List Nat}{c e:Nat}(h:L[c]? = some e):L.drop c=e::L.drop (c+1):=by
 obtain⟨h1,h2⟩:=List.getElem?_eq_some_iff.1 h;rw [List.drop_eq_getElem_cons h1,h2]
theorem q863(ws:List (BitVec 64))(j:Nat):elB ws 0 j=bitN ws j:=by
 unfold elB;rw [decide_eq_true (show(0:Int)≤(j:Int) by omega),Bool.true_and]
theorem q335(ws:List (BitVec 64))(k:Nat):extsK ws k=q95 (elK ws 0 k):=by
 unfold extsK elK
 congr 1
def elF(k:Nat):Int×Unit:=((k:Int),())
theorem q568(b:q9):q87 b 0 ((elL b.Size b.Words 0).map elF):=by
 refine⟨(chkB b,()),q41 rfl,fun q=>?_,fun q=>?_⟩
 ·rw [q583 q];rfl
 have hc:¬chk b.Size b.Words≠0:=q;have hn:=q123 hc;refine LoopW.upT b.Words.length (fun i=>(((elL b.Size b.Words 0).drop (elK b.Words 0 (64*i)).length).map elF,(i:Int))) rfl (fun i rec hi hrec=>?_) fun rec=>⟨fun z=>absurd (show(b.Words.length:Int)<(b.Words.length:Int) from z) (by omega),fun _=>?_⟩
 ·refine⟨fun _=>⟨iX (by omega) (by omega),(maskW (i:Int) 0 b.Size,()),q242 (by omega) (by omega) (by omega) (by omega) (by omega) (by omega) rfl, ?_⟩,fun z=>absurd (show(i:Int)<(b.Words.length:Int) by omega) z⟩
  refine LoopW.of_inv (fun s=>∃ p:Nat,s.1=((elL b.Size b.Words 0).drop (elK b.Words 0 p).length).map elF∧elX b.Size b.Words 0 i p s.2∧64*i≤p∧p≤64*(i+1)) (fun s=>s.1.length) ?_ ⟨64*i,rfl,q704 _ _ _ _,Nat.le_refl _,by omega⟩
  rintro⟨_,x⟩ rec2 ⟨p,rfl,hx,h1,h2⟩ hrec2
  have hx:elX b.Size b.Words 0 i p x:=hx;refine⟨fun hne=>?_,fun he=>?_⟩
  ·obtain⟨t1,t2,t3,t4,t5,t6⟩:=q585 hx hne
   obtain⟨g1,g2,g3⟩:=q828 hc h1 hx hne;refine⟨iI (by omega) (by omega),((Lib.ctz 64 x.toNat:Int),()),⟨hne,rfl⟩,iI (by simp only;omega) (by simp only;omega), ?_⟩
   have hd:(elL b.Size b.Words 0)[(elK b.Words 0 p).length]? = some (64*i+Lib.ctz 64 x.toNat):=by
    rw [List.getD_eq_getElem?_getD,List.getElem?_eq_getElem g1] at g2;rw [List.getElem?_eq_getElem g1];exact congrArg some g2
   have hd2:=q793 hd;simp only;rw [hd2];refine⟨Prod.ext ?_ rfl,hrec2 _ ⟨64*i+Lib.ctz 64 x.toNat+1, ?_,t6,by omega,by omega⟩ ?_,trivial⟩
   ·show(i:Int)*64+(Lib.ctz 64 x.toNat:Int)=((64*i+Lib.ctz 64 x.toNat:Nat):Int)
    omega
   ·rw [g3]
   ·simp only
    rw [hd2,List.map_cons,List.length_cons];omega
  ·have he:x=0#64:=Classical.not_not.1 he
   subst he;refine⟨iI (by omega) (by omega),hrec _ (Prod.ext ?_ rfl)⟩;have:=elK_skip' h2 (elX_end hc hi h1 hx);simp only;rw [this]
 ·have:=elK_top (a:=0) hc (p:=64*b.Words.length) (by omega) (Nat.le_refl _)
  rw [this,List.drop_eq_nil_of_le (Nat.le_refl _)];rfl
def toX(e:Int×Int):q8:=⟨e.1,e.2⟩
def exts(b:q9):List q8:=(extR b.Size b.Words).map toX
theorem ix_toX(es:List (Int×Int))(k:Nat):ix (es.map toX) (k:Int)=toX (es.getD k (0,0)):=by
 show(es.map toX).getD k default=_;rw [List.getD_eq_getElem?_getD,List.getD_eq_getElem?_getD,List.getElem?_map];cases es[k]? <;> rfl
theorem q467(es:List (Int×Int))(h:0<es.length):ix (es.map toX) (((es.map toX).length:Int)-1)=toX (es.getD (es.length-1) (0,0)):=by
 rw [← ix_toX]
 congr 1
 rw [List.length_map];omega
theorem put_toX(es:List (Int×Int))(h:0<es.length)(x:Int):put (es.map toX) (((es.map toX).length:Int)-1) ⟨(es.getD (es.length-1) (0,0)).1,x⟩=(bumpE es (es.length-1) x).map toX:=by
 unfold put bumpE;rw [List.map_set,show(((es.map toX).length:Int)-1).toNat=es.length-1 by rw [List.length_map];omega];rfl
theorem q231{es:List (Int×Int)}{i:Int}:((0<((es.map toX).length:Int))∧((((ix (es.map toX) (((es.map toX).length:Int)-1)).Start)+((ix (es.map toX) (((es.map toX).length:Int)-1)).Count))=i))↔q129 es i:=by
 unfold q129;by_cases h:0<es.length
 ·rw [q467 es h]
  simp only [toX,List.length_map];constructor
  ·rintro⟨_,h2⟩;exact⟨h,h2⟩
  ·rintro⟨_,h2⟩;exact⟨by omega,h2⟩
 ·constructor
  ·rintro⟨h1,_⟩;rw [List.length_map] at h1;omega
  ·rintro⟨h1,_⟩;exact absurd h1 h
theorem q637{es:List (Int×Int)}{k:Nat}(hf:exB es (k:Int))(hl:es.length≤k)(hk:k≤100000)(h:0<((es.map toX).length:Int)):inI (((es.map toX).length:Int)-1)∧inX (((es.map toX).length:Int)-1) (es.map toX).length∧
  inI (((ix (es.map toX) (((es.map toX).length:Int)-1)).Start)+((ix (es.map toX) (((es.map toX).length:Int)-1)).Count)):=by
 have h':0<es.length:=by rw [List.length_map] at h;omega
 have hg:=q538 hf (show es.length-1<es.length by omega);have e:(es.map toX).length=es.length:=List.length_map _;rw [q467 es h'];simp only [toX];exact⟨iI (by omega) (by omega),iX (by omega) (by omega),iI (by omega) (by omega)⟩
theorem q525{es:List (Int×Int)}{k:Nat}(hf:exB es (k:Int))(hl:es.length≤k)(hk:k≤100000)(h:q129 es (k:Int)):inI (((es.map toX).length:Int)-1)∧inX (((es.map toX).length:Int)-1) (es.map toX).length∧
  inI (((ix (es.map toX) (((es.map toX).length:Int)-1)).Count)+1)∧
  put (es.map toX) (((es.map toX).length:Int)-1) ⟨(ix (es.map toX) (((es.map toX).length:Int)-1)).Start,((ix (es.map toX) (((es.map toX).length:Int)-1)).Count)+1⟩=(addX es (k:Int)).map toX:=by
 have h':=h.1;have hg:=q538 hf (show es.length-1<es.length by omega);have e:(es.map toX).length=es.length:=List.length_map _;rw [q467 es h',q698 h,← put_toX es h'];simp only [toX];exact⟨iI (by omega) (by omega),iX (by omega) (by omega),iI (by omega) (by omega),trivial⟩
theorem q336{es:List (Int×Int)}{e:Nat}(h:¬q129 es (e:Int)):es.map toX++[(q8.mk (e:Int) 1)]=(addX es (e:Int)).map toX:=by
 rw [q826 h,List.map_append];rfl
theorem q296{b:q9}{Φ:List q8→Prop}(hΦ:Φ (exts b)):Z63 b Φ:=by
 refine⟨_,q568 b, ?_⟩;unfold exts at hΦ;by_cases hc:chk b.Size b.Words≠0
 ·rw [q583 hc]
  rw [q699 hc] at hΦ;exact⟨1,hΦ⟩
 have hn:=q123 hc;rw [q701 hc];rw [q700 hc rfl] at hΦ;generalize hN:b.Size.toNat=n at hΦ;refine LoopW.of_inv (fun s=>∃ p:Nat,s=(((elK b.Words 0 n).drop (elK b.Words 0 p).length).map elF,(extsK b.Words p).map toX)∧p≤n) (fun s=>s.1.length) ?_ ⟨0,rfl,Nat.zero_le _⟩
 rintro _ rec ⟨p,rfl,hp⟩ hrec
 rcases q792 (elB b.Words 0) (n-p) p with ⟨e,h1,h2,h3,h4⟩ | h
 ·have hk:=elK_skip' h1 h4
  have hg:=q539 h3 (n:=n) (by omega);have he:extsK b.Words p=extsK b.Words e:=by rw [q335,q335,hk]
  have hy:extsK b.Words (e+1)=addX (extsK b.Words e) (e:Int):=q482 (by rw [← q863];exact h3);have hlen:(elK b.Words 0 (e+1)).length=(elK b.Words 0 e).length+1:=by rw [q702 h3,q20]
  rw [← hk];have hd:=q793 hg;have hf:=q348 b.Words e;have hrec':rec (((elK b.Words 0 n).drop ((elK b.Words 0 e).length+1)).map elF,(addX (extsK b.Words e) (e:Int)).map toX):=hrec _ ⟨e+1,by rw [hlen,hy],by omega⟩ (by simp only;rw [← hk,hd,List.map_cons,List.length_cons];omega);have hdrop:((elK b.Words 0 n).drop (elK b.Words 0 e).length).map elF=elF e::((elK b.Words 0 n).drop ((elK b.Words 0 e).length+1)).map elF:=by rw [hd];rfl
  rw [hdrop,he];refine⟨fun hpos=>?_,fun hneg=>⟨iL (by rw [q20,List.length_map];omega) (by omega), ?_⟩⟩
  ·obtain⟨g1,g2,g3⟩:=q637 hf.1 hf.2 (by omega) hpos
   refine⟨g1,g2,g1,g2,g3,fun hj=>?_,fun hj=>⟨iL (by rw [q20,List.length_map];omega) (by omega), ?_⟩⟩
   ·obtain⟨_,_,k3,k4⟩:=q525 hf.1 hf.2 (by omega) (q231.1 ⟨hpos,hj⟩)
    refine⟨g1,g2,k3,g2, ?_⟩;rw [k4];exact hrec'
   ·have:=q336 (es:=extsK b.Words e) (e:=e) fun q=>hj (q231.2 q).2
    show rec (_,(extsK b.Words e).map toX++[(q8.mk (e:Int) 1)]);rw [this];exact hrec'
  ·have:=q336 (es:=extsK b.Words e) (e:=e) fun q=>hneg (q231.2 q).1
   show rec (_,(extsK b.Words e).map toX++[(q8.mk (e:Int) 1)]);rw [this];exact hrec'
 ·have hk:=elK_skip' hp fun j a c=>h j a (by omega)
  rw [← hk,List.drop_eq_nil_of_le (Nat.le_refl _)];have he:extsK b.Words p=extsK b.Words n:=by rw [q335,q335,hk]
  rw [he];exact hΦ
section
theorem pairE{α β:Type}{a a':α}{b b':β}(h1:a=a')(h2:b=b'):(a,b)=(a',b'):=by rw [h1,h2]
theorem q393{β:Type}(f:Nat→β)(k:Nat):(List.range (k+1)).map f=(List.range k).map f++[f k]:=by rw [List.range_succ,List.map_append];rfl
def inE(e:q8)(x:Int):Prop:=e.Start≤x∧x<e.Start+e.Count
def memE(l:List q8)(x:Int):Prop:=∃ e∈l,inE e x
structure CanE(l:List q8):Prop where
 asc:l.Pairwise fun a b=>a.Start+a.Count<b.Start
 pos:∀ e∈l,0<e.Count
theorem q273{x:Int}:¬memE [] x:=fun⟨_,h,_⟩=>by cases h
theorem q50{e:q8}{l:List q8}{x:Int}:memE (e::l) x↔inE e x∨memE l x:=by simp [memE]
theorem q185{l m:List q8}{x:Int}:memE (l++m) x↔memE l x∨memE m x:=by
 simp only [memE,List.mem_append];constructor
 ·rintro⟨e,h | h,hx⟩
  ·exact .inl ⟨e,h,hx⟩
  ·exact .inr ⟨e,h,hx⟩
 ·rintro(⟨e,h,hx⟩ | ⟨e,h,hx⟩)
  ·exact⟨e,.inl h,hx⟩
  ·exact⟨e,.inr h,hx⟩
theorem CanE.tail{e:q8}{l:List q8}(h:CanE (e::l)):CanE l:=⟨(List.pairwise_cons.1 h.asc).2,fun x hx=>h.pos x (List.mem_cons_of_mem _ hx)⟩
theorem CanE.behind{e:q8}{l:List q8}(h:CanE (e::l)){x:Int}(hx:memE l x):e.Start+e.Count<x:=by
 obtain⟨f,hf,h1,h2⟩:=hx;have:=(List.pairwise_cons.1 h.asc).1 f hf;omega
theorem CanE.uniq:∀ {a b:List q8},CanE a→CanE b→(∀ x,memE a x↔memE b x)→a=b
 | [],[],_,_,_=>rfl
 | [],f::s,_,hb,h=>absurd ((h f.Start).2 (q50.2 (.inl ⟨Int.le_refl _,by have:=hb.pos f List.mem_cons_self;omega⟩))) q273
 | e::r,[],ha,_,h=>absurd ((h e.Start).1 (q50.2 (.inl ⟨Int.le_refl _,by have:=ha.pos e List.mem_cons_self;omega⟩))) q273
 | e::r,f::s,ha,hb,h=>by
  have he:=ha.pos e List.mem_cons_self;have hf:=hb.pos f List.mem_cons_self
  have low:∀ {e f:q8} {r s:List q8},CanE (e::r)→CanE (f::s)→(∀ x,memE (e::r) x→memE (f::s) x)→0<e.Count→0<f.Count→f.Start≤e.Start:=fun {e f r s} ha hb h he hf=>by
   rcases q50.1 (h e.Start (q50.2 (.inl ⟨Int.le_refl _,by omega⟩))) with h1 | h1
   ·exact h1.1
   ·have:=hb.behind h1;omega
  have h1:=low ha hb (fun x=>(h x).1) he hf;have h2:=low hb ha (fun x=>(h x).2) hf he
  have top:∀ {e f:q8} {r s:List q8},CanE (e::r)→(∀ x,memE (f::s) x→memE (e::r) x)→0<e.Count→e.Start=f.Start→f.Count≤e.Count:=fun {e f r s} ha h he hs=>by
   refine Int.not_lt.1 fun hlt=>?_;rcases q50.1 (h (e.Start+e.Count) (q50.2 (.inl ⟨by omega,by omega⟩))) with h1 | h1
   ·exact absurd h1.2 (by omega)
   ·have:=ha.behind h1;omega
  have h3:=top ha (fun x=>(h x).2) he (by omega);have h4:=top hb (fun x=>(h x).1) hf (by omega)
  have hef:e=f:=by
   obtain⟨a1,a2⟩:=e;obtain⟨b1,b2⟩:=f;simp only at h1 h2 h3 h4;rw [show a1=b1 by omega,show a2=b2 by omega]
  subst hef
  have:=CanE.uniq ha.tail hb.tail fun x=>by
   constructor
   ·intro hx
    rcases q50.1 ((h x).1 (q50.2 (.inr hx))) with h5 | h5
    ·have:=ha.behind hx;have:=h5.2;omega
    ·exact h5
   ·intro hx
    rcases q50.1 ((h x).2 (q50.2 (.inr hx))) with h5 | h5
    ·have:=hb.behind hx;have:=h5.2;omega
    ·exact h5
  rw [this]
structure GoodE(l:List q8):Prop where
 ok:∀ e∈l,0≤e.Start∧0<e.Count∧e.Start+e.Count≤4096
def ends1(j:Int)(e:q8):List q13:=[⟨e.Start,j,1⟩,⟨e.Start+e.Count,j,-1⟩]
def endsE(j:Int)(l:List q8):List q13:=l.flatMap (ends1 j)
theorem q134(j:Int):∀ l:List q8,(endsE j l).length=2*l.length
 | []=>rfl
 | e::l=>by unfold endsE;rw [List.flatMap_cons,List.length_append];have:=q134 j l;unfold endsE at this;rw [this,List.length_cons];simp [ends1];omega
def stpD(j:Int)(q:q13):Int:=if q.list=j then q.step else 0
def dep(j:Int)(L:List q13):Int:=(L.map (stpD j)).sum
theorem q232(j:Int)(l m:List q13):dep j (l++m)=dep j l+dep j m:=by unfold dep;rw [List.map_append,List.sum_append]
theorem q638(j:Int){l m:List q13}(h:l.Perm m):dep j l=dep j m:=by
 induction h with
 | nil=>rfl
 | cons x _ ih=>unfold dep at *;rw [List.map_cons,List.map_cons,List.sum_cons,List.sum_cons,ih]
 | swap x y l=>unfold dep;simp only [List.map_cons,List.sum_cons];omega
 | trans _ _ h1 h2=>exact h1.trans h2
def covE1(e:q8)(x:Int):Int:=if e.Start≤x∧x<e.Start+e.Count then 1 else 0
def covE(l:List q8)(x:Int):Int:=(l.map fun e=>covE1 e x).sum
theorem q337:∀ {l:List q8} {x:Int},0≤covE l x∧(0<covE l x↔memE l x)
 | [],x=>⟨by simp [covE],by simp [covE,memE]⟩
 | e::l,x=>by
  obtain⟨h1,h2⟩:=q337 (l:=l) (x:=x);have e1:covE (e::l) x=covE1 e x+covE l x:=by unfold covE;rw [List.map_cons,List.sum_cons]
  rw [e1,q50];unfold covE1;by_cases hx:e.Start≤x∧x<e.Start+e.Count
  ·rw [if_pos hx];exact⟨by omega,fun _=>.inl hx,fun _=>by omega⟩
  ·rw [if_neg hx]
   refine⟨by omega, ?_⟩;rw [Int.zero_add,h2];exact⟨.inr,fun h=>h.resolve_left hx⟩
theorem q274{j k x:Int}:∀ {l:List q8},(∀ e∈l,0<e.Count)→dep j ((endsE k l).filter fun q=>decide (q.at_≤x))=if k=j then covE l x else 0
 | [],_=>by simp [dep,endsE,covE]
 | e::l,h=>by
  have ih:=q274 (j:=j) (k:=k) (x:=x) (l:=l) fun e he=>h e (List.mem_cons_of_mem _ he);have he:=h e List.mem_cons_self;have e1:endsE k (e::l)=ends1 k e++endsE k l:=by unfold endsE;rw [List.flatMap_cons]
  have e2:covE (e::l) x=covE1 e x+covE l x:=by unfold covE;rw [List.map_cons,List.sum_cons]
  rw [e1,List.filter_append,q232,ih,e2]
  have e3:dep j ((ends1 k e).filter fun q=>decide (q.at_≤x))=if k=j then covE1 e x else 0:=by
   unfold ends1 covE1;have d2:∀ p q:q13,dep j [p,q]=stpD j p+stpD j q:=fun p q=>by simp [dep]
   have d1:∀ p:q13,dep j [p]=stpD j p:=fun p=>by simp [dep]
   have s1:stpD j (⟨e.Start,k,1⟩:q13)=if k=j then 1 else 0:=rfl;have s2:stpD j (⟨e.Start+e.Count,k,-1⟩:q13)=if k=j then -1 else 0:=rfl;by_cases h1:e.Start≤x
   ·by_cases h2:e.Start+e.Count≤x
    ·rw [if_neg (show ¬(e.Start≤x∧x<e.Start+e.Count) by omega),List.filter_cons_of_pos (by simpa using h1),List.filter_cons_of_pos (by simpa using h2),List.filter_nil,d2,s1,s2]
     split <;> rfl
    ·rw [if_pos (show e.Start≤x∧x<e.Start+e.Count by omega),List.filter_cons_of_pos (by simpa using h1),List.filter_cons_of_neg (by simpa using h2),List.filter_nil,d1,s1]
   ·rw [if_neg (show ¬(e.Start≤x∧x<e.Start+e.Count) by omega)]
    have h2:¬e.Start+e.Count≤x:=by omega
    rw [List.filter_cons_of_neg (by simpa using h1),List.filter_cons_of_neg (by simpa using h2),List.filter_nil]
    split <;> rfl
  rw [e3]
  split <;> omega
structure EndsL(a b:List q8)(L:List q13):Prop where
 perm:L.Perm (endsE 0 a++endsE 1 b)
 asc:L.Pairwise fun p q=>p.at_≤q.at_
theorem q864{L:List q13}{k:Nat}{x:Int}(h1:∀ q∈L.take k,q.at_≤x)(h2:∀ q∈L.drop k,x<q.at_):L.take k=L.filter fun q=>decide (q.at_≤x):=by
 conv=>rhs;rw [← List.take_append_drop k L]
 rw [List.filter_append,List.filter_eq_self.2 fun q hq=>decide_eq_true (h1 q hq),List.filter_eq_nil_iff.2 fun q hq=>by simpa using h2 q hq,List.append_nil]
theorem q639{L:List q13}(h:L.Pairwise fun p q=>p.at_≤q.at_){i j:Nat}(hij:i≤j)(hj:j<L.length):(ix L (i:Int)).at_≤(ix L (j:Int)).at_:=by
 rw [q30 hj,q30 (by omega)];rcases Nat.lt_or_ge i j with h1 | h1
 ·exact List.pairwise_iff_getElem.1 h i j (by omega) hj h1
 ·obtain rfl:i=j:=by omega
  exact Int.le_refl _
theorem q569{L:List q13}{k:Nat}{q:q13}(h:q∈L.take k):∃ i:Nat,i<k∧i<L.length∧q=ix L (i:Int):=by
 obtain⟨i,hi,rfl⟩:=List.getElem_of_mem h;rw [List.length_take] at hi;exact⟨i,by omega,by omega,by rw [q30 (by omega),List.getElem_take]⟩
theorem q570{L:List q13}{k:Nat}{q:q13}(h:q∈L.drop k):∃ i:Nat,k≤i∧i<L.length∧q=ix L (i:Int):=by
 obtain⟨i,hi,rfl⟩:=List.getElem_of_mem h;rw [List.length_drop] at hi;exact⟨k+i,by omega,by omega,by rw [q30 (by omega),List.getElem_drop]⟩
theorem EndsL.at_pass{a b:List q8}{L:List q13}(h:EndsL a b L)(ha:∀ e∈a,0<e.Count)(hb:∀ e∈b,0<e.Count){k:Nat}{x:Int}(h1:∀ i:Nat,i<k→i<L.length→(ix L (i:Int)).at_≤x)(h2:∀ i:Nat,k≤i→i<L.length→x<(ix L (i:Int)).at_) :
  dep 0 (L.take k)=covE a x∧dep 1 (L.take k)=covE b x:=by
 have e:=q864 (L:=L) (k:=k) (x:=x) (fun q hq=>by obtain⟨i,h3,h4,rfl⟩:=q569 hq;exact h1 i h3 h4) (fun q hq=>by obtain⟨i,h3,h4,rfl⟩:=q570 hq;exact h2 i h3 h4);have hp:=h.perm.filter fun q=>decide (q.at_≤x);rw [e];constructor
 ·rw [q638 0 hp,List.filter_append,q232,q274 ha,q274 hb];simp
 ·rw [q638 1 hp,List.filter_append,q232,q274 ha,q274 hb];simp
theorem q526{j:Int}:∀ {L:List q13},(∀ q∈L,q.step=1∨q.step = -1)→-(L.length:Int)≤dep j L∧dep j L≤(L.length:Int)
 | [],_=>by simp [dep]
 | q::L,h=>by
  have ih:=q526 (j:=j) (L:=L) fun q hq=>h q (List.mem_cons_of_mem _ hq);have e:dep j (q::L)=stpD j q+dep j L:=by unfold dep;rw [List.map_cons,List.sum_cons]
  rw [e,List.length_cons];unfold stpD;rcases h q List.mem_cons_self with h1 | h1 <;> split <;> omega
theorem EndsL.mem{a b:List q8}{L:List q13}(h:EndsL a b L){q:q13}(hq:q∈L):(q.list=0∨q.list=1)∧(q.step=1∨q.step = -1)∧∃ e,(e∈a∨e∈b)∧(q.at_=e.Start∨q.at_=e.Start+e.Count):=by
 have h1:=h.perm.mem_iff.1 hq;rcases List.mem_append.1 h1 with h2 | h2
 ·obtain⟨e,he,h3⟩:=List.mem_flatMap.1 h2
  simp only [ends1,List.mem_cons,List.not_mem_nil,or_false] at h3;rcases h3 with rfl | rfl
  ·exact⟨.inl rfl,.inl rfl,e,.inl he,.inl rfl⟩
  ·exact⟨.inl rfl,.inr rfl,e,.inl he,.inr rfl⟩
 ·obtain⟨e,he,h3⟩:=List.mem_flatMap.1 h2
  simp only [ends1,List.mem_cons,List.not_mem_nil,or_false] at h3;rcases h3 with rfl | rfl
  ·exact⟨.inr rfl,.inl rfl,e,.inr he,.inl rfl⟩
  ·exact⟨.inr rfl,.inr rfl,e,.inr he,.inr rfl⟩
theorem EndsL.len{a b:List q8}{L:List q13}(h:EndsL a b L):L.length=2*a.length+2*b.length:=by
 rw [h.perm.length_eq,List.length_append,q134,q134]
structure Desc(f:Int→Prop)(out:List q8)(start:Int)(ins:Bool)(p:Int):Prop where
 can:CanE out
 low:∀ e∈out,e.Start+e.Count<p
 opn:ins=true→start<p∧∀ e∈out,e.Start+e.Count<start
 all:∀ x,x<p→(f x↔memE out x∨(ins=true∧start≤x))
theorem q640{out:List q8}{p x:Int}(h:∀ e∈out,e.Start+e.Count<p)(hx:p≤x):¬memE out x:=fun⟨e,he,h1⟩=>by
 have:=h e he;have:=h1.2;omega
theorem Desc.opened{f:Int→Prop}{out:List q8}{start x p:Int}(h:Desc f out start false x)(hxp:x<p)(hf:∀ y,x≤y→y<p→f y):Desc f out x true p where
 can:=h.can
 low e he:=by have:=h.low e he;omega
 opn _:=⟨hxp,h.low⟩
 all y hy:=by
  rcases Int.lt_or_le y x with h1 | h1
  ·rw [h.all y h1]
   exact⟨fun q=>q.elim .inl fun q=>by simp at q,fun q=>q.elim .inl fun q=>absurd q.2 (by omega)⟩
  ·exact⟨fun _=>.inr ⟨rfl,h1⟩,fun _=>hf y h1 hy⟩
theorem Desc.closed{f:Int→Prop}{out:List q8}{start x p:Int}(h:Desc f out start true x)(hxp:x<p)(hf:∀ y,x≤y→y<p→¬f y):Desc f (out++[⟨start,x-start⟩]) start false p where
 can:=by
  obtain⟨h1,h2⟩:=h.opn rfl;refine⟨List.pairwise_append.2 ⟨h.can.asc,List.pairwise_singleton _ _,fun a ha b hb=>?_⟩,fun e he=>?_⟩
  ·obtain rfl:=List.mem_singleton.1 hb;exact h2 a ha
  ·rcases List.mem_append.1 he with he | he
   ·exact h.can.pos e he
   ·obtain rfl:=List.mem_singleton.1 he;show 0<x-start;omega
 low e he:=by
  rcases List.mem_append.1 he with he | he
  ·have:=h.low e he;omega
  ·obtain rfl:=List.mem_singleton.1 he;show start+(x-start)<p;omega
 opn q:=by cases q
 all y hy:=by
  rw [q185]
  have hone:memE [⟨start,x-start⟩] y↔start≤y∧y<x:=by
   rw [q50];constructor
   ·rintro(q | q)
    ·exact⟨q.1,by have:=q.2;simp only at this;omega⟩
    ·exact absurd q q273
   ·rintro⟨q1,q2⟩;exact .inl ⟨q1,by show y<start+(x-start);omega⟩
  rw [hone];rcases Int.lt_or_le y x with h1 | h1
  ·rw [h.all y h1]
   exact⟨fun q=>q.elim (fun q=>.inl (.inl q)) fun q=>.inl (.inr ⟨q.2,h1⟩),fun q=>q.elim (fun q=>q.elim .inl fun q=>.inr ⟨rfl,q.1⟩) fun q=>by simp at q⟩
  ·exact⟨fun q=>absurd q (hf y h1 hy),fun q=>q.elim (fun q=>q.elim (fun q=>absurd q (q640 h.low h1)) fun q=>by omega) fun q=>by simp at q⟩
theorem Desc.kept{f:Int→Prop}{out:List q8}{start x p:Int}{ins:Bool}(h:Desc f out start ins x)(hxp:x<p)(hf:∀ y,x≤y→y<p→(f y↔ins=true)):Desc f out start ins p where
 can:=h.can
 low e he:=by have:=h.low e he;omega
 opn q:=⟨by have:=(h.opn q).1;omega,(h.opn q).2⟩
 all y hy:=by
  rcases Int.lt_or_le y x with h1 | h1
  ·exact h.all y h1
  ·rw [hf y h1 hy]
   exact⟨fun q=>.inr ⟨q,by have:=(h.opn q).1;omega⟩,fun q=>q.elim (fun q=>absurd q (q640 h.low h1)) fun q=>q.1⟩
theorem Desc.done{f:Int→Prop}{out:List q8}{start:Int}{ins:Bool}(h:∀ p0,∃ p,p0<p∧Desc f out start ins p){x0:Int}(hf:∀ x,x0≤x→¬f x):CanE out∧∀ x,f x↔memE out x:=by
 obtain⟨p,h1,h2⟩:=h (if x0<start then start else x0)
 have hins:ins=false:=by
  cases ins with
  | false=>rfl
  | true=>
   have:=(h2.all (if x0<start then start else x0) h1).2 (.inr ⟨rfl,by split <;> omega⟩);exact absurd this (hf _ (by split <;> omega))
 refine⟨h2.can,fun x=>?_⟩;obtain⟨q,h3,h4⟩:=h x;rw [h4.all x h3,hins];exact⟨fun q=>q.elim id fun q=>by simp at q,.inl⟩
def DescK(f:Int→Prop)(L:List q13)(k:Nat)(out:List q8)(start:Int)(ins:Bool):Prop:=
 (k<L.length→Desc f out start ins (ix L (k:Int)).at_)∧(k=L.length→∀ p0,∃ p,p0<p∧Desc f out start ins p)
def keepF(kF:Bool→Bool→Bool)(a b:List q8)(x:Int):Prop:=kF (decide (0<covE a x)) (decide (0<covE b x))=true
section
variable {kF : Bool → Bool → Bool} {a b : List q8} {L : List q13}
theorem q527(h:EndsL a b L)(ha:∀ e∈a,0<e.Count)(hb:∀ e∈b,0<e.Count){k:Nat}{y:Int}(h1:∀ i:Nat,i<k→i<L.length→(ix L (i:Int)).at_≤y)(h2:∀ i:Nat,k≤i→i<L.length→y<(ix L (i:Int)).at_) :
  keepF kF a b y↔kF (decide (0<dep 0 (L.take k))) (decide (0<dep 1 (L.take k)))=true:=by
 obtain⟨e1,e2⟩:=h.at_pass ha hb h1 h2;unfold keepF;rw [e1,e2]
theorem q669(h:EndsL a b L)(ha:∀ e∈a,0<e.Count)(hb:∀ e∈b,0<e.Count){k:Nat}(hk:k<L.length){out:List q8}{start:Int}{ins:Bool}(hD:Desc (keepF kF a b) out start ins (ix L (k:Int)).at_)(hbd:k+1<L.length→(ix L ((k+1:Nat):Int)).at_≠(ix L (k:Int)).at_){now:Bool}(hnow:now=kF (decide (0<dep 0 (L.take (k+1)))) (decide (0<dep 1 (L.take (k+1))))) :
  (now=true→ins=false→DescK (keepF kF a b) L (k+1) out (ix L (k:Int)).at_ true)∧(now=false→ins=true→DescK (keepF kF a b) L (k+1) (out++[⟨start,(ix L (k:Int)).at_-start⟩]) start false)∧(now=ins→DescK (keepF kF a b) L (k+1) out start ins):=by
 have cst:∀ (p:Int),(ix L (k:Int)).at_<p→(∀ i:Nat,k+1≤i→i<L.length→p≤(ix L (i:Int)).at_)→∀ y,(ix L (k:Int)).at_≤y→y<p→(keepF kF a b y↔now=true):=fun p _ h2 y h3 h4=>by
  rw [hnow];exact q527 h ha hb (fun i hi hl=>by have:=q639 h.asc (show i≤k by omega) hk;omega) fun i hi hl=>by have:=h2 i hi hl;omega
 have next:∀ (P:Int→Prop),(∀ p,(ix L (k:Int)).at_<p→(∀ i:Nat,k+1≤i→i<L.length→p≤(ix L (i:Int)).at_)→P p)→(k+1<L.length→P (ix L ((k+1:Nat):Int)).at_)∧(k+1=L.length→∀ p0,∃ p,p0<p∧P p):=fun P hP=>by
  refine⟨fun h1=>hP _ ?_ fun i h2 h3=>q639 h.asc h2 h3,fun h1 p0=>?_⟩
  ·have h2:=q639 h.asc (Nat.le_succ k) h1
   have h3:=hbd h1;have h2:(ix L (k:Int)).at_≤(ix L ((k+1:Nat):Int)).at_:=h2
   omega
  ·refine⟨(if p0<(ix L (k:Int)).at_ then(ix L (k:Int)).at_ else p0)+1,by split <;> omega,hP _ (by split <;> omega) fun i h2 h3=>by omega⟩
 refine⟨fun h1 h2=>?_,fun h1 h2=>?_,fun h1=>?_⟩
 ·subst h2
  exact next (fun p=>Desc (keepF kF a b) out (ix L (k:Int)).at_ true p) fun p h3 h4=>hD.opened h3 fun y h5 h6=>(cst p h3 h4 y h5 h6).2 h1
 ·subst h2
  exact next (fun p=>Desc (keepF kF a b) (out++[⟨start,(ix L (k:Int)).at_-start⟩]) start false p) fun p h3 h4=>hD.closed h3 fun y h5 h6 q=>by rw [(cst p h3 h4 y h5 h6).1 q] at h1;cases h1
 ·subst h1
  exact next (fun p=>Desc (keepF kF a b) out start now p) fun p h3 h4=>hD.kept h3 fun y h5 h6=>cst p h3 h4 y h5 h6
theorem q670(h0:kF false false=false)(h:EndsL a b L)(ha:∀ e∈a,0<e.Count)(hb:∀ e∈b,0<e.Count):DescK (keepF kF a b) L 0 [] 0 false:=by
 have key:∀ p,(∀ i:Nat,i<L.length→p≤(ix L (i:Int)).at_)→Desc (keepF kF a b) [] 0 false p:=fun p hp=>
  ⟨⟨List.Pairwise.nil,fun e he=>by cases he⟩,(fun e he=>by cases he),(fun q=>by cases q),fun x hx=>by
   rw [q527 (k:=0) h ha hb (fun i hi _=>absurd hi (Nat.not_lt_zero i)) fun i _ hl=>by have:=hp i hl;omega]
   simp [dep,h0,memE]⟩
 refine⟨fun hl=>key _ fun i hi=>q639 h.asc (Nat.zero_le i) hi,fun hl p0=>⟨p0+1,by omega,key _ fun i hi=>by omega⟩⟩
theorem q865(h0:kF false false=false)(ha:GoodE a)(hb:GoodE b){x:Int}(hx:4096≤x):¬keepF kF a b x:=by
 have z:∀ {l:List q8},GoodE l→¬0<covE l x:=fun {l} hl q=>by
  obtain⟨e,he,h1⟩:=q337.2.1 q;have:=hl.ok e he;have:=h1.2;omega
 unfold keepF;rw [decide_eq_false (z ha),decide_eq_false (z hb),h0];simp
end
theorem q338{v3 now:Bool}{at0 v2 k1:Int}{v7:List q8}{R:Int→Bool→List q8→Prop}(hi:inI k1)(g:(now=true→v3=false→R at0 now v7)∧(now=true→v3=true→R v2 now v7)∧(now=false→v3=false→R v2 now v7)∧(now=false→v3=true→inI (at0-v2)∧lenOk (v7++([(q8.mk v2 (at0-v2))]:List q8)).length 16∧R v2 now (v7++[⟨v2,at0-v2⟩]))) :
  let J3:Int→Prop:=fun st=>(¬(now=true)→(v3=true→inI (at0-st)∧lenOk (v7++([(q8.mk st (at0-st))]:List q8)).length 16∧inI k1∧R st now (v7++([(q8.mk st (at0-st))]:List q8)))∧(¬(v3=true)→inI k1∧R st now v7))∧(¬(¬(now=true))→inI k1∧R st now v7)
  let J4:Bool→Prop:=fun b=>(b=true→J3 at0)∧(¬(b=true)→J3 v2)
  (now=true→J4 (decide (¬(v3=true))))∧(¬(now=true)→J4 false):=by
 obtain⟨g1,g2,g3,g4⟩:=g;cases now <;> cases v3
 ·refine⟨fun q=>(by cases q),fun _=>⟨fun q=>(by cases q),fun _=>⟨fun _=>⟨fun q=>(by cases q),fun _=>⟨hi,g3 rfl rfl⟩⟩,fun q=>absurd (fun h=>by cases h) q⟩⟩⟩
 ·refine⟨fun q=>(by cases q),fun _=>⟨fun q=>(by cases q),fun _=>⟨fun _=>⟨fun _=>⟨(g4 rfl rfl).1,(g4 rfl rfl).2.1,hi,(g4 rfl rfl).2.2⟩,fun q=>absurd rfl q⟩,fun q=>absurd (fun h=>by cases h) q⟩⟩⟩
 ·refine⟨fun _=>⟨fun _=>⟨fun q=>absurd rfl q,fun _=>⟨hi,g1 rfl rfl⟩⟩,fun q=>absurd (by simp) q⟩,fun q=>absurd rfl q⟩
 ·refine⟨fun _=>⟨fun q=>absurd q (by simp),fun _=>⟨fun q=>absurd rfl q,fun _=>⟨hi,g2 rfl rfl⟩⟩⟩,fun q=>absurd rfl q⟩
theorem q641(j:Int){L:List q13}{k:Nat}(hk:k<L.length):dep j (L.take (k+1))=dep j (L.take k)+stpD j (ix L (k:Int)):=by
 rw [q63 hk,q232];simp [dep]
theorem q275{e:q8}{Φ:Int×Int×Bool→Prop}(h:0≤e.Start∧0<e.Count∧e.Start+e.Count≤4096)(hΦ:Φ (e.Start,e.Start+e.Count,true)):Z124 e Φ:=by
 obtain⟨h1,h2,h3⟩:=h;refine⟨fun q=>by omega,fun _=>⟨fun q=>by omega,fun _=>⟨iI (by omega) (by omega), ?_⟩⟩⟩;have e1:(if e.Start<0 then 0 else e.Start)=e.Start:=if_neg (by omega)
 have fin:∀ v,v=e.Start+e.Count→Z122 e Φ v:=fun v hv=>by
  show Φ _;rw [e1,hv,decide_eq_true (show e.Start<e.Start+e.Count by omega)];exact hΦ
 refine⟨fun q=>⟨iI (by omega) (by omega),fin _ (if_neg (by omega))⟩,fun q=>fin _ ?_⟩;have q:¬e.Count<4096-e.Start:=by simpa using q
 omega
theorem q671(j:Int){l:List q8}{k:Nat}(hk:k<l.length):endsE j (l.take (k+1))=endsE j (l.take k)++ends1 j (ix l (k:Int)):=by
 unfold endsE;rw [q63 hk,List.flatMap_append];simp
theorem q394{a b:List q8}{Φ:List q13→Prop}(ha:GoodE a)(hb:GoodE b)(la:a.length≤100000)(lb:b.length≤100000)(hΦ:∀ L,EndsL a b L→Φ L):q121 [a,b] Φ:=by
 have row:∀ (j:Int) (l:List q8) (pre:List q13) (rec1:(Int×List q13)→Prop) (i:Int) (X:List (List q8)),GoodE l→l.length≤100000→pre.length≤200000→ix X i=l→i=j→0≤j→j≤5→rec1 (i+1,pre++endsE j l)→LoopW (Z127 X i rec1 Φ) (0,pre):=by
  intro j l pre rec1 i X hl hn hp hX hij h0 h5 hr;subst hij;refine LoopW.upI l.length (fun k=>((k:Int),pre++endsE i (l.take k))) (fun _=>True) (by simp [endsE]) trivial (fun k rec hk _ hrec=>?_) fun rec _=>?_
  ·unfold Z127
   rw [hX];refine⟨fun _=>⟨iX (by omega) (by omega),q275 (hl.ok _ (q61 (iX (by omega) (by omega)))) ⟨fun _=>?_,fun q=>absurd rfl q⟩⟩,fun q=>absurd (by exact_mod_cast hk) q⟩;have e1:endsE i (l.take (k+1))=endsE i (l.take k)++ends1 i (ix l (k:Int)):=q671 i hk;have hlen:(endsE i (l.take k)).length=2*k:=by rw [q134,List.length_take];omega
   refine⟨iL (by rw [List.length_append,List.length_append,hlen];simp;omega) (by omega),iI (by omega) (by omega),hrec trivial _ ?_⟩;rw [e1,← List.append_assoc];rfl
  ·unfold Z127
   rw [hX];refine⟨fun q=>absurd q (by simp),fun _=>⟨iI (by omega) (by omega), ?_⟩⟩;rw [List.take_length];exact hr
 unfold q121;refine⟨3,⟨fun _=>⟨iX (by omega) (by simp), ?_⟩,fun q=>absurd (show(0:Int)<_ by simp) q⟩⟩;refine row 0 a [] _ 0 [a,b] ha la (by simp) rfl rfl (by omega) (by omega) ?_;refine⟨fun _=>⟨iX (by omega) (by simp), ?_⟩,fun q=>absurd (show(0:Int)+1<_ by simp) q⟩;refine row 1 b ([]++endsE 0 a) _ (0+1) [a,b] hb lb (by rw [List.nil_append,q134];omega) rfl rfl (by omega) (by omega) ?_;refine⟨fun q=>absurd q (by simp),fun _=>⟨?_,fun ys hp hs=>hΦ ys ⟨by rw [List.nil_append] at hp;exact hp,hs⟩⟩⟩;rw [List.nil_append,List.length_append,q134,q134];omega
theorem q86{x y:Bool}{Φ:Bool→Prop}(h:∀ now,now=(fun p q=>p || q) x y→Φ now):Z129 x y Φ:=by
 have:=h _ rfl;cases x <;> cases y <;> simpa [Z129] using this
theorem q145{a b:List q8}{Φ:List q8→Prop}(ha:GoodE a)(hb:GoodE b)(la:a.length≤100000)(lb:b.length≤100000)(hΦ:∀ l,CanE l→(∀ x,memE l x↔keepF (fun p q=>p || q) a b x)→l.length≤400000→Φ l):Z143 a b Φ:=by
 have pa:∀ e∈a,0<e.Count:=fun e he=>(ha.ok e he).2.1;have pb:∀ e∈b,0<e.Count:=fun e he=>(hb.ok e he).2.1;refine q394 ha hb la lb fun L hL=>?_;have hlen:=hL.len;have hst:∀ q∈L,q.step=1∨q.step = -1:=fun q hq=>(hL.mem hq).2.1
 have hat:∀ k:Nat,k<L.length→0≤(ix L (k:Int)).at_∧(ix L (k:Int)).at_≤4096:=fun k hk=>by
  obtain⟨_,_,e,he,h1⟩:=hL.mem (q61 (iX (Int.natCast_nonneg _) (by exact_mod_cast hk)));have:=he.elim (fun q=>ha.ok e q) fun q=>hb.ok e q;omega
 have hsm:∀ (j:Int) (k:Nat),-(500000:Int)≤dep j (L.take k)∧dep j (L.take k)≤500000:=fun j k=>by
  have:=q526 (j:=j) (L:=L.take k) fun q hq=>hst q (List.mem_of_mem_take hq);have h2:(L.take k).length≤L.length:=List.length_take_le' k L;omega
 refine LoopW.upS L.length (fun s=>s.2.2.1) (fun k s=>s.2.2.2.1=dep 0 (L.take k)∧s.2.2.2.2.1=dep 1 (L.take k)∧s.2.2.2.2.2.length≤k∧(s.2.1=true→-1≤s.1∧s.1≤5000)∧DescK (keepF (fun p q=>p || q) a b) L k s.2.2.2.2.2 s.1 s.2.1) ?_ (s0:=(0,false,0,0,0,[])) 0 rfl (Nat.zero_le _) ⟨rfl,rfl,Nat.zero_le _,(fun q=>by cases q),q670 rfl hL pa pb⟩
 rintro k ⟨v2,v3,v4,v5,v6,v7⟩ rec hk hidx ⟨i1,i2,i3,i4,i5⟩ hrec
 simp only at hidx i1 i2 i3 i4 i5;subst hidx;subst i1;subst i2;unfold Z142;refine⟨fun q=>?_,fun q=>?_⟩
 ·have hkl:k<L.length:=by omega
  have hm:=hL.mem (q61 (iX (Int.natCast_nonneg _) (by exact_mod_cast hkl)));have hA:=hat k hkl;have d0:=q641 0 hkl;have d1:=q641 1 hkl;have s0:=hsm 0 k;have s1:=hsm 1 k;have two:((0:Int)≤0∧(0:Int)<2)∧((0:Int)≤1∧(1:Int)<2):=⟨by omega,by omega⟩
  have hlr:0≤(ix L (k:Int)).list∧(ix L (k:Int)).list<2:=by have:=hm.1;omega
  have hi1:inI ((k:Int)+1):=iI (by omega) (by omega)
  have fin:∀ (st:Int) (ins:Bool) (o:List q8) (x0 x1:Int),x0=dep 0 (L.take (k+1))→x1=dep 1 (L.take (k+1))→o.length≤k+1→(ins=true→-1≤st∧st≤5000)→DescK (keepF (fun p q=>p || q) a b) L (k+1) o st ins→rec (st,ins,(k:Int)+1,x0,x1,o):=fun st ins o x0 x1 e0 e1 e2 e3 e4=>hrec _ hkl rfl ⟨e0,e1,e2,e3,e4⟩
  have same:k+1<L.length→(ix L ((k:Int)+1)).at_=(ix L (k:Int)).at_→DescK (keepF (fun p q=>p || q) a b) L (k+1) v7 v2 v3:=fun h1 h2=>⟨fun _=>by
   have:=i5.1 hkl
   rw [← h2] at this;exact this,fun h3=>by omega⟩
  have pass:(k+1<L.length→(ix L ((k:Int)+1)).at_≠(ix L (k:Int)).at_)→∀ now,now=(fun p q=>p || q) (decide (0<dep 0 (L.take (k+1)))) (decide (0<dep 1 (L.take (k+1))))→_:=fun h1 now hn=>q669 hL pa pb hkl (i5.1 hkl) h1 hn
  have go:∀ (x0 x1:Int),x0=dep 0 (L.take (k+1))→x1=dep 1 (L.take (k+1))→(k+1<L.length→(ix L ((k:Int)+1)).at_≠(ix L (k:Int)).at_)→∀ now,now=(fun p q=>p || q) (decide (0<x0)) (decide (0<x1))→
    (now=true→v3=false→rec ((ix L (k:Int)).at_,now,(k:Int)+1,x0,x1,v7))∧(now=true→v3=true→rec (v2,now,(k:Int)+1,x0,x1,v7))∧(now=false→v3=false→rec (v2,now,(k:Int)+1,x0,x1,v7))∧(now=false→v3=true→inI ((ix L (k:Int)).at_-v2)∧lenOk (v7++([(q8.mk v2 ((ix L (k:Int)).at_-v2))]:List q8)).length 16∧rec (v2,now,(k:Int)+1,x0,x1,v7++[⟨v2,(ix L (k:Int)).at_-v2⟩])):=fun x0 x1 e0 e1 hb now hn=>by
   rw [e0,e1] at hn;obtain⟨p1,p2,p3⟩:=pass hb now hn;refine⟨fun h1 h2=>?_,fun h1 h2=>?_,fun h1 h2=>?_,fun h1 h2=>?_⟩
   ·have:=p1 h1 h2;subst h1;exact fin _ _ _ _ _ e0 e1 (by omega) (fun _=>by omega) this
   ·have:=p3 (h1.trans h2.symm);subst h1;subst h2;exact fin _ _ _ _ _ e0 e1 (by omega) i4 this
   ·have:=p3 (h1.trans h2.symm);subst h1;subst h2;exact fin _ _ _ _ _ e0 e1 (by omega) i4 this
   ·have h4:=i4 h2
    have:=p2 h1 h2;subst h1;refine⟨iI (by omega) (by omega),iL (by rw [List.length_append,List.length_singleton];omega) (by omega),fin _ _ _ _ _ e0 e1 (by rw [List.length_append,List.length_singleton];omega) (fun q=>by cases q) this⟩
  refine⟨iX (by omega) q,hlr,fun hl=>⟨two.1,iI (by have:=hm.2.1;omega) (by have:=hm.2.1;omega),hlr,fun _=>⟨two.1,hi1,fun q2=>⟨hi1,iX (by omega) q2, ?_⟩,fun q2=>?_⟩,fun hl2=>absurd (hl.symm.trans hl2) (by omega),trivial⟩,fun hl=>⟨two.2,iI (by have:=hm.2.1;omega) (by have:=hm.2.1;omega),hlr,fun hl2=>absurd (hl2.symm.trans hl) (by omega),fun _=>⟨two.2,hi1,fun q2=>⟨hi1,iX (by omega) q2, ?_⟩,fun q2=>?_⟩,trivial⟩,trivial⟩
  all_goals
   have e0:stpD 0 (ix L (k:Int))=if(ix L (k:Int)).list=0 then(ix L (k:Int)).step else 0:=rfl;have e1:stpD 1 (ix L (k:Int))=if(ix L (k:Int)).list=1 then(ix L (k:Int)).step else 0:=rfl;rw [hl] at e0 e1;simp at e0 e1;rw [e0] at d0;rw [e1] at d1
  ·refine⟨fun h1=>⟨hi1, ?_⟩,fun h1=>⟨two.1,two.2, ?_⟩⟩
   ·exact fin _ _ _ _ _ d0.symm (by omega) (by omega) i4 (same (by omega) (by simpa using h1))
   ·exact q86 fun now hn=>q338 (R:=fun st nw o=>rec (st,nw,(k:Int)+1,dep 0 (L.take k)+(ix L (k:Int)).step,dep 1 (L.take k),o)) hi1 (go _ _ d0.symm (by omega) (fun _=>by simpa using h1) now hn)
  ·refine⟨fun h1=>absurd h1 (by simp),fun h1=>⟨two.1,two.2, ?_⟩⟩
   exact q86 fun now hn=>q338 (R:=fun st nw o=>rec (st,nw,(k:Int)+1,dep 0 (L.take k)+(ix L (k:Int)).step,dep 1 (L.take k),o)) hi1 (go _ _ d0.symm (by omega) (fun h2=>absurd (by exact_mod_cast h2) q2) now hn)
  ·refine⟨fun h1=>⟨hi1, ?_⟩,fun h1=>⟨two.1,two.2, ?_⟩⟩
   ·exact fin _ _ _ _ _ (by omega) d1.symm (by omega) i4 (same (by omega) (by simpa using h1))
   ·exact q86 fun now hn=>q338 (R:=fun st nw o=>rec (st,nw,(k:Int)+1,dep 0 (L.take k),dep 1 (L.take k)+(ix L (k:Int)).step,o)) hi1 (go _ _ (by omega) d1.symm (fun _=>by simpa using h1) now hn)
  ·refine⟨fun h1=>absurd h1 (by simp),fun h1=>⟨two.1,two.2, ?_⟩⟩
   exact q86 fun now hn=>q338 (R:=fun st nw o=>rec (st,nw,(k:Int)+1,dep 0 (L.take k),dep 1 (L.take k)+(ix L (k:Int)).step,o)) hi1 (go _ _ (by omega) d1.symm (fun h2=>absurd (by exact_mod_cast h2) q2) now hn)
 ·have hkn:k=L.length:=by omega
  obtain⟨c1,c2⟩:=Desc.done (x0:=4096) (i5.2 hkn) fun x hx=>q865 rfl ha hb hx;exact hΦ _ c1 (fun x=>(c2 x).symm) (by omega)
theorem q422(es:List (Int×Int))(i:Int):(∃ pre a c,es=pre++[(a,c)]∧a+c=i∧addX es i=pre++[(a,c+1)]∧q129 es i)∨((∀ pre a c,es=pre++[(a,c)]→a+c≠i)∧addX es i=es++[(i,1)]∧¬q129 es i):=by
 rcases List.eq_nil_or_concat es with rfl | ⟨pre,p,rfl⟩
 ·have hj:¬q129 [] i:=fun h=>absurd h.1 (by simp)
  exact .inr ⟨fun pre a c h=>by simp at h,if_neg hj,hj⟩
 ·obtain⟨a,c⟩:=p
  rw [List.concat_eq_append];have hl:(pre++[(a,c)]).length-1=pre.length:=by simp
  have hg:(pre++[(a,c)]).getD ((pre++[(a,c)]).length-1) (0,0)=(a,c):=by rw [hl];simp [List.getD_eq_getElem?_getD]
  by_cases h:a+c=i
  ·have hj:q129 (pre++[(a,c)]) i:=⟨by simp,by rw [hg];exact h⟩
   refine .inl ⟨pre,a,c,rfl,h, ?_,hj⟩;unfold addX;rw [if_pos hj,hg,hl];unfold bumpE;simp
  ·have hj:¬q129 (pre++[(a,c)]) i:=fun q=>h (by have:=q.2;rw [hg] at this;exact this)
   refine .inr ⟨fun pre' a' c' q=>?_,if_neg hj,hj⟩;have:=(List.append_inj' q rfl).2;cases this;exact h
def runX(n:Nat)(p:Nat→Bool):List q8:=(q95 ((List.range n).filter p)).map toX
structure RunX(n:Nat)(p:Nat→Bool)(l:List q8):Prop where
 can:CanE l
 mem:∀ x,memE l x↔∃ i:Nat,i<n∧p i=true∧x=(i:Int)
 low:∀ e∈l,0≤e.Start∧e.Start+e.Count≤(n:Int)
 len:l.length≤n
theorem q160(n:Nat)(p:Nat→Bool):(List.range (n+1)).filter p=(List.range n).filter p++(if p n then [n] else []):=q293 n p
theorem q377(n:Nat)(p:Nat→Bool):runX (n+1) p=if p n=true then(addX (q95 ((List.range n).filter p)) (n:Int)).map toX else runX n p:=by
 unfold runX;rw [q160];by_cases h:p n=true
 ·rw [if_pos h,if_pos h,q347]
 ·rw [if_neg h,if_neg h,List.append_nil]
theorem RunX.add{n:Nat}{p:Nat→Bool}{es:List (Int×Int)}(h:RunX n p (es.map toX))(hp:p n=true):RunX (n+1) p ((addX es (n:Int)).map toX):=by
 have split:∀ x,(∃ i:Nat,i<n+1∧p i=true∧x=(i:Int))↔(∃ i:Nat,i<n∧p i=true∧x=(i:Int))∨x=(n:Int):=fun x=>by
  constructor
  ·rintro⟨i,h1,h2,h3⟩
   rcases Nat.lt_or_ge i n with h4 | h4
   ·exact .inl ⟨i,h4,h2,h3⟩
   ·obtain rfl:i=n:=by omega
    exact .inr h3
  ·rintro(⟨i,h1,h2,h3⟩ | h3)
   ·exact⟨i,by omega,h2,h3⟩
   ·exact⟨n,by omega,hp,h3⟩
 rcases q422 es (n:Int) with ⟨pre,a,c,rfl,h1,h2,_⟩ | ⟨h1,h2,_⟩
 ·rw [h2]
  rw [List.map_append] at h ⊢;have hm:∀ e∈pre.map toX,e.Start+e.Count<a:=fun e he=>(List.pairwise_append.1 h.can.asc).2.2 e he _ (List.mem_singleton.2 rfl);have hlo:=h.low (toX (a,c)) (List.mem_append_right _ (List.mem_singleton.2 rfl));have hpo:=h.can.pos (toX (a,c)) (List.mem_append_right _ (List.mem_singleton.2 rfl));have hlo1:0≤a:=hlo.1;have hpo:0<c:=hpo;refine⟨⟨List.pairwise_append.2 ⟨(List.pairwise_append.1 h.can.asc).1,List.pairwise_singleton _ _,fun e he f hf=>?_⟩,fun e he=>?_⟩,fun x=>?_,fun e he=>?_, ?_⟩
  ·obtain rfl:=List.mem_singleton.1 hf;exact hm e he
  ·rcases List.mem_append.1 he with he | he
   ·exact h.can.pos e (List.mem_append_left _ he)
   ·obtain rfl:=List.mem_singleton.1 he;show 0<c+1;omega
  ·rw [split,← h.mem,q185,q185]
   have e1:∀ d,memE ([(a,d)].map toX) x↔a≤x∧x<a+d:=fun d=>by
    show memE [⟨a,d⟩] x↔_;rw [q50];exact⟨fun q=>q.elim id fun q=>absurd q q273,.inl⟩
   rw [e1,e1,or_assoc];have:(a≤x∧x<a+(c+1))↔((a≤x∧x<a+c)∨x=(n:Int)):=by omega
   rw [this]
  ·rcases List.mem_append.1 he with he | he
   ·have:=h.low e (List.mem_append_left _ he);omega
   ·obtain rfl:=List.mem_singleton.1 he
    show 0≤a∧a+(c+1)≤((n+1:Nat):Int);omega
  ·have:=h.len
   simp at this ⊢;omega
 ·rw [h2]
  have hlt:∀ e∈es.map toX,e.Start+e.Count<(n:Int):=fun e he=>by
   rcases List.eq_nil_or_concat es with rfl | ⟨pre,q,rfl⟩
   ·cases he
   ·obtain⟨a,c⟩:=q
    rw [List.concat_eq_append] at *;have h3:=h1 pre a c rfl;have h4:a+c≤(n:Int):=(h.low (toX (a,c)) (by simp)).2;rw [List.map_append] at he;rcases List.mem_append.1 he with he | he
    ·have h5:=h.can.asc
     rw [List.map_append] at h5;have:e.Start+e.Count<a:=(List.pairwise_append.1 h5).2.2 e he _ (List.mem_singleton.2 rfl);have hpo:0<c:=h.can.pos (toX (a,c)) (by simp);omega
    ·obtain rfl:=List.mem_singleton.1 he
     show a+c<(n:Int);omega
  rw [List.map_append];refine⟨⟨List.pairwise_append.2 ⟨h.can.asc,List.pairwise_singleton _ _,fun e he f hf=>?_⟩,fun e he=>?_⟩,fun x=>?_,fun e he=>?_, ?_⟩
  ·obtain rfl:=List.mem_singleton.1 hf;exact hlt e he
  ·rcases List.mem_append.1 he with he | he
   ·exact h.can.pos e he
   ·obtain rfl:=List.mem_singleton.1 he;show(0:Int)<1;omega
  ·rw [split,← h.mem,q185]
   have e1:memE ([((n:Int),(1:Int))].map toX) x↔x=(n:Int):=by
    show memE [⟨(n:Int),1⟩] x↔_;rw [q50];constructor
    ·rintro(⟨q1,q2⟩ | q)
     ·simp only at q1 q2;omega
     ·exact absurd q q273
    ·rintro rfl;exact .inl ⟨by simp,by simp only;omega⟩
   rw [e1]
  ·rcases List.mem_append.1 he with he | he
   ·have:=h.low e he;omega
   ·obtain rfl:=List.mem_singleton.1 he
    show 0≤(n:Int)∧(n:Int)+1≤((n+1:Nat):Int);omega
  ·have:=h.len
   simp at this ⊢;omega
theorem q33(p:Nat→Bool):∀ n:Nat,RunX n p (runX n p)
 | 0=>⟨⟨by simp [runX,q95],fun e he=>by simp [runX,q95] at he⟩,fun x=>⟨fun h=>by simp [runX,q95,memE] at h,fun⟨i,h,_⟩=>absurd h (Nat.not_lt_zero i)⟩,fun e he=>by simp [runX,q95] at he,by simp [runX,q95]⟩
 | n+1=>by
  have ih:=q33 p n;rw [q377];by_cases h:p n=true
  ·rw [if_pos h];exact RunX.add ih h
  ·rw [if_neg h]
   refine⟨ih.can,fun x=>?_,fun e he=>by have:=ih.low e he;omega,by have:=ih.len;omega⟩;rw [ih.mem];constructor
   ·rintro⟨i,h1,h2,h3⟩;exact⟨i,by omega,h2,h3⟩
   ·rintro⟨i,h1,h2,h3⟩
    refine⟨i, ?_,h2,h3⟩;rcases Nat.lt_or_ge i n with h4 | h4
    ·exact h4
    ·obtain rfl:i=n:=by omega
     exact absurd h2 h
theorem RunX.eq{n:Nat}{p:Nat→Bool}{l:List q8}(hc:CanE l)(hm:∀ x,memE l x↔∃ i:Nat,i<n∧p i=true∧x=(i:Int)):l=runX n p:=
 CanE.uniq hc (q33 p n).can fun x=>by rw [hm,(q33 p n).mem]
theorem q794{n:Nat}{p:Nat→Bool}(hn:n≤4096):GoodE (runX n p):=
 ⟨fun e he=>⟨((q33 p n).low e he).1,(q33 p n).can.pos e he,by have:=((q33 p n).low e he).2;omega⟩⟩
theorem q124{n:Nat}{p q:Nat→Bool}(h:∀ i,i<n→p i=q i):runX n p=runX n q:=by
 refine RunX.eq (q33 p n).can fun x=>?_;rw [(q33 p n).mem];exact⟨fun⟨i,h1,h2,h3⟩=>⟨i,h1,by rw [← h i h1];exact h2,h3⟩,fun⟨i,h1,h2,h3⟩=>⟨i,h1,by rw [h i h1];exact h2,h3⟩⟩
theorem q866{b:q9}{n:Nat}(h:chkB b=0)(hn:b.Size=(n:Int)):exts b=runX n (bitN b.Words):=by
 unfold exts runX;rw [q700 (k:=n) (fun q=>q h) (by omega)];rfl
theorem q642(x:Int):covE [] x=0:=rfl
theorem q297{n:Nat}{p:Nat→Bool}{Φ:List q8→Prop}(hn:n≤4096)(hΦ:Φ (runX n p)):Z143 (runX n p) [] Φ:=
 q145 (q794 hn) ⟨fun e he=>by cases he⟩ (by have:=(q33 p n).len;omega) (by simp) fun l hc hm _=>by
  rw [RunX.eq (n:=n) (p:=p) hc fun x=>by
   rw [hm x];unfold keepF;simp only [Bool.or_eq_true,decide_eq_true_eq];rw [q642,q337.2,(q33 p n).mem]
   exact⟨fun q=>q.elim id fun q=>absurd q (by omega),.inl⟩]
  exact hΦ
theorem orB_ok{a b:q9}(ha:chkB a=0)(hb:chkB b=0)(hs:a.Size=b.Size):(orB a b).2=0∧chkB (orB a b).1=0∧(orB a b).1.Size=a.Size∧∀ i:Nat,(i:Int)<a.Size→(bitN (orB a b).1.Words i=true↔bitN a.Words i=true∨bitN b.Words i=true):=by
 have wa:=q123 (b:=a) (by simpa using ha);have wb:=q123 (b:=b) (by simpa using hb);unfold chkB at ha hb;unfold orB;rw [q581 (q692 (by simpa using ha) (by simpa using hb) (by omega))];rw [← hs] at hb;refine⟨rfl,chk_zip (· || ·) rfl (fun _ _ _ _=>BitVec.getLsbD_or) ha hb,rfl,fun i hi=>?_⟩;show bitN (List.zipWith (fun x y=>x ||| y) a.Words b.Words) i=true↔_;rw [bit_or (by omega) (by omega),Bool.or_eq_true]
theorem q378{α:Type}[Dt α](pre:List α)(x:α):ix (pre++[x]) (((pre++[x]).length:Int)-1)=x:=by
 rw [show(((pre++[x]).length:Int)-1)=((pre.length:Nat):Int) by simp,ix_nat];simp [List.getD_eq_getElem?_getD]
theorem q643{α:Type}(pre:List α)(x y:α):put (pre++[x]) (((pre++[x]).length:Int)-1) y=pre++[y]:=by
 rw [show(((pre++[x]).length:Int)-1)=((pre.length:Nat):Int) by simp,q563];simp
def difB(a b:List Sec)(i:Nat):Bool:=decide (ix a (i:Int)≠ix b (i:Int))
theorem q219{α:Type}[Dt α](f:Nat→α){n v:Nat}(h:v<n):ix ((List.range n).map f) (v:Int)=f v:=by
 rw [q30 (by simp;exact h)];simp
theorem q51{α:Type}(f:Nat→α)(n:Nat):(List.range (n+1)).map f=(List.range n).map f++[f n]:=by rw [List.range_succ,List.map_append];rfl
theorem q795{a b:List (List Sec)}(hs:szs a=szs b):b.length=a.length∧∀ v:Nat,v<a.length→(ix b (v:Int)).length=(ix a (v:Int)).length:=by
 have hlb:b.length=a.length:=by rw [← q38 a,hs,q38]
 refine⟨hlb,fun v hv=>?_⟩;have:ix (szs a) (v:Int)=ix (szs b) (v:Int):=by rw [hs]
 rw [q115 hv,q115 (by omega)] at this;omega
structure RunsX(im:List (List Sec))(l:List (List q8))(p:Nat→Nat→Bool):Prop where
 len:l.length=im.length
 at_:∀ v:Nat,v<im.length→ix l (v:Int)=runX (ix im (v:Int)).length (p v)
theorem q190{n:Nat}{p:Nat→Bool}{Φ:Int→Prop}(hn:n≤4096)(hΦ:Φ 0):Z108 (runX n p) (n:Int) Φ:=by
 have h:=q33 p n;refine⟨fun q=>absurd q (by omega),fun _=>⟨fun q=>absurd q (by omega),fun _=>?_⟩⟩;have hlen:=h.len;generalize runX n p=l at h hlen
 have hat:∀ k:Nat,k<l.length→0<(ix l (k:Int)).Count∧0≤(ix l (k:Int)).Start∧(ix l (k:Int)).Start+(ix l (k:Int)).Count≤(n:Int):=fun k hk=>by
  have hm:=q61 (xs:=l) (i:=(k:Int)) (iX (by omega) (by omega));exact⟨h.can.pos _ hm,h.low _ hm⟩
 refine LoopW.upS l.length (fun s=>s.2) (fun k s=>(k=0→s.1=0)∧(0<k→s.1=(ix l ((k:Int)-1)).Start+(ix l ((k:Int)-1)).Count+1)) ?_ (s0:=(0,0)) 0 rfl (Nat.zero_le _) ⟨fun _=>rfl,fun q=>absurd q (by omega)⟩
 rintro k ⟨v1,v2⟩ rec hk hi ⟨i1,i2⟩ hr
 simp only at hi i1 i2;subst hi;refine⟨fun q=>?_,fun _=>hΦ⟩;have hkl:k<l.length:=by omega
 obtain⟨g1,g2,g3⟩:=hat k hkl
 have hstart:v1≤(ix l (k:Int)).Start:=by
  rcases Nat.eq_zero_or_pos k with h0 | h0
  ·rw [i1 h0];exact g2
  ·rw [i2 h0]
   have:=List.pairwise_iff_getElem.1 h.can.asc (k-1) k (by omega) hkl (by omega);rw [show((k:Int)-1)=((k-1:Nat):Int) by omega,q30 (by omega),q30 hkl];omega
 have J:Z106 l v1 (k:Int) rec Φ false:=⟨fun q=>(by cases q),fun _=>⟨fun q=>absurd q (by omega),fun _=>⟨iI (by omega) (by omega),iI (by omega) (by omega),iI (by omega) (by omega),hr _ hkl rfl ⟨fun q=>absurd q (by omega),fun _=>by simp⟩⟩⟩⟩
 refine⟨iX (by omega) q,fun q=>absurd q (by omega),fun _=>⟨fun q=>absurd q (by omega),fun _=>⟨iI (by omega) (by omega), ?_⟩⟩⟩;rw [decide_eq_false (by omega)];exact J
theorem sum_bd{xs:List Int}{B:Int}(h:∀ x∈xs,0≤x∧x≤B):0≤xs.sum∧xs.sum≤B*xs.length:=by
 induction xs with
 | nil=>simp
 | cons x xs ih=>
  have h1:=h x List.mem_cons_self;have h2:=ih fun y hy=>h y (List.mem_cons_of_mem _ hy);rw [List.sum_cons,List.length_cons];have e:B*((xs.length+1:Nat):Int)=B*(xs.length:Int)+B:=by rw [Int.natCast_add,Int.mul_add];simp
  rw [e];omega
theorem q867{α:Type}[Dt α](f:α→Int){xs:List α}{k:Nat}(h:k<xs.length):((xs.take (k+1)).map f).sum=((xs.take k).map f).sum+f (ix xs (k:Int)):=by
 rw [q63 h,List.map_append,List.sum_append];simp
theorem q868{α:Type}{f:α→Int}{xs:List α}{B:Int}(h:∀ x∈xs,0≤f x∧f x≤B)(h0:0≤B)(k:Nat):0≤((xs.take k).map f).sum∧((xs.take k).map f).sum≤B*xs.length:=by
 have h1:=sum_bd (xs:=(xs.take k).map f) (B:=B) fun y hy=>by
  obtain⟨x,hx,rfl⟩:=List.mem_map.1 hy;exact h x (List.mem_of_mem_take hx)
 rw [List.length_map,List.length_take] at h1;have h2:B*((min k xs.length:Nat):Int)≤B*(xs.length:Int):=Int.mul_le_mul_of_nonneg_left (by omega) h0;omega
def cntX(l:List q8):Int:=(l.map (·.Count)).sum
theorem q672{n:Nat}{p:Nat→Bool}(hn:n≤4096):∀ e∈runX n p,0≤e.Count∧e.Count≤4096:=fun e he=>by
 have h1:=(q33 p n).low e he;have h2:=(q33 p n).can.pos e he;omega
theorem q379{n:Nat}{p:Nat→Bool}{Φ:Int→Prop}(hn:n≤4096)(hΦ:Φ (cntX (runX n p))):Z145 (runX n p) Φ:=by
 refine q297 hn ?_;have hcn:=q672 (p:=p) hn;have hln:=(q33 p n).len;generalize runX n p=l at hcn hln hΦ;refine LoopW.upT l.length (fun j=>(((l.take j).map (·.Count)).sum,(j:Int))) rfl (fun j rec hj hr=>⟨fun u=>?_,fun u=>absurd (show(j:Int)<(l.length:Int) by omega) u⟩) fun rec=>⟨fun u=>absurd (show(l.length:Int)<(l.length:Int) from u) (by omega),fun _=>by rw [q31];exact hΦ⟩
 have hj2:=q868 (f:=fun e:q8=>e.Count) (B:=4096) hcn (by omega) j;have hce:=hcn _ (q61 (xs:=l) (i:=(j:Int)) (iX (by omega) (by omega)));refine⟨iX (by omega) u,iI (by show -9223372036854775808≤_+(ix l (j:Int)).Count;omega) (by show _+(ix l (j:Int)).Count≤_;omega),iI (by omega) (by omega),hr _ ?_⟩;rw [q867 (·.Count) hj];rfl
def tabL{α:Type}(n:Nat)(f:Nat→α):List α:=(List.range n).map f
theorem q796{α:Type}(n:Nat)(f:Nat→α):(tabL n f).length=n:=by unfold tabL;rw [List.length_map,List.length_range]
theorem q869{α:Type}(k:Nat)(f:Nat→α):tabL (k+1) f=tabL k f++[f k]:=q393 f k
def szP:List Int:=[5,3]
def volP(s:q11):Int:=((s.Volume % (2#8)).toNat:Int)
def sizP(s:q11):Int:=ix szP (volP s)
def q161(s:q11):Int:=(s.Start.toNat:Int) % sizP s
def moreP(s:q11):Int:=(s.Count.toNat:Int) % (sizP s-q161 s)
def dataP(s:q11):q10:=⟨volP s,q161 s,tabL ((moreP s).toNat+1) fun i=>Sec.mk s.First (BitVec.ofInt 8 (i:Int)) (0#8) (0#8) (0#8) (0#8) (0#8) (0#8)⟩
theorem q870(s:q11):volP s=0∨volP s=1:=by
 have:(s.Volume % (2#8)).toNat=s.Volume.toNat % 2:=by simp [BitVec.toNat_umod]
 unfold volP;rw [this];omega
theorem q468(s:q11):0≤volP s∧volP s<2∧(sizP s=5∨sizP s=3):=by
 rcases q870 s with h | h
 ·exact⟨by omega,by omega,.inl (by unfold sizP;rw [h];rfl)⟩
 ·exact⟨by omega,by omega,.inr (by unfold sizP;rw [h];rfl)⟩
theorem q380(s:q11):0≤q161 s∧q161 s<sizP s:=by
 have:=(q468 s).2.2;unfold q161;exact⟨Int.emod_nonneg _ (by omega),Int.emod_lt_of_pos _ (by omega)⟩
theorem q644(s:q11):0≤moreP s∧moreP s<sizP s-q161 s:=by
 have h1:=q380 s;unfold moreP;exact⟨Int.emod_nonneg _ (by omega),Int.emod_lt_of_pos _ (by omega)⟩
theorem q871(s:q11):fitW szP (dataP s)=0:=by
 obtain⟨v0,v1,v2⟩:=q468 s;have h1:=q380 s;have h2:=q644 s
 have hl:((dataP s).Data.length:Int)=moreP s+1:=by
  show((tabL ((moreP s).toNat+1) _).length:Int)=_;rw [q796];omega
 have hs:ix szP (dataP s).Volume=sizP s:=rfl;have hv:(dataP s).Volume=volP s:=rfl;have hst:(dataP s).Start=q161 s:=rfl;unfold fitW;rw [hs,hl,hv,hst,if_neg (by show ¬(volP s<0∨(2:Int)≤volP s);omega),if_neg (by omega),if_neg (by omega)]
theorem q319{s:q11}{Φ:q10→Prop}(hΦ:Φ (dataP s)):Z14 s Φ:=by
 obtain⟨v0,v1,v2⟩:=q468 s;have h1:=q380 s;have h2:=q644 s;have e1:ix szP ((s.Volume % (2#8)).toNat:Int)=sizP s:=rfl;have e2:(s.Start.toNat:Int) % sizP s=q161 s:=rfl;have e3:(s.Count.toNat:Int) % (sizP s-q161 s)=moreP s:=rfl;refine⟨(szP,()),rfl,by decide,iX v0 (by show volP s<2;omega),⟨by omega,by show sizP s≠0;omega⟩,by decide, ?_⟩;refine LoopW.upT ((moreP s).toNat+1) (fun k=>((k:Int),tabL k fun i=>Sec.mk s.First (BitVec.ofInt 8 (i:Int)) (0#8) (0#8) (0#8) (0#8) (0#8) (0#8))) rfl (fun k rec hk hr=>?_) fun rec=>?_
 ·refine⟨?_, ?_,fun _=>⟨iL (by rw [q20,q796];omega) (by omega),iI (by omega) (by omega),hr _ (pairE rfl (q869 _ _).symm)⟩,fun q=>absurd (show(k:Int)≤moreP s by omega) q⟩
  ·show inI (sizP s-q161 s);exact iI (by omega) (by omega)
  ·exact⟨by omega,by show sizP s-q161 s≠0;omega⟩
 ·refine⟨?_, ?_,fun q=>absurd (show(((moreP s).toNat+1:Nat):Int)≤moreP s from q) (by omega),fun _=>hΦ⟩
  ·show inI (sizP s-q161 s);exact iI (by omega) (by omega)
  ·exact⟨by omega,by show sizP s-q161 s≠0;omega⟩
theorem q135:q44 szP=0:=by decide
def extsL(p:Nat→Bool):Nat→List q8
 | 0=>[]
 | k+1=>if p k=false then extsL p k else if 0<k∧p (k-1)=true then put (extsL p k) (((extsL p k).length:Int)-1) ⟨(ix (extsL p k) (((extsL p k).length:Int)-1)).Start,(ix (extsL p k) (((extsL p k).length:Int)-1)).Count+1⟩ else extsL p k++[⟨(k:Int),1⟩]
structure ExtP(p:Nat→Bool)(k:Nat)(E:List q8):Prop where
 ne:∀ e∈E,0≤e.Start∧0<e.Count
 gap:E.Pairwise fun e f=>e.Start+e.Count<f.Start
 cov:∀ i:Nat,(i<k∧p i=true)↔∃ e∈E,e.Start≤(i:Int)∧(i:Int)<e.Start+e.Count
 top:∀ e∈E,e.Start+e.Count≤(k:Int)
 last:0<k→p (k-1)=true→∃ F e,E=F++[e]∧e.Start+e.Count=(k:Int)
 len:E.length≤k
theorem ExtP.below{p:Nat→Bool}{k:Nat}{E:List q8}(g:ExtP p k E)(h:¬(0<k∧p (k-1)=true)):∀ e∈E,e.Start+e.Count<(k:Int):=fun e he=>by
 have h1:=g.ne e he;have h2:=g.top e he;by_cases q:e.Start+e.Count=(k:Int)
 ·exact absurd ⟨by omega,((g.cov (k-1)).2 ⟨e,he,by omega,by omega⟩).2⟩ h
 ·omega
theorem q571(p:Nat→Bool):∀ k,ExtP p k (extsL p k)
 | 0=>⟨fun e he=>absurd he List.not_mem_nil,List.Pairwise.nil,fun i=>⟨fun h=>absurd h.1 (Nat.not_lt_zero i),fun⟨e,he,_⟩=>absurd he List.not_mem_nil⟩,fun e he=>absurd he List.not_mem_nil,fun h=>absurd h (Nat.lt_irrefl 0),Nat.le_refl _⟩
 | k+1=>by
  have g:=q571 p k;unfold extsL;by_cases h0:p k=false
  ·rw [if_pos h0]
   refine⟨g.ne,g.gap,fun i=>Iff.trans ⟨fun h=>⟨?_,h.2⟩,fun h=>⟨by omega,h.2⟩⟩ (g.cov i),fun e he=>(by have:=g.top e he;omega),fun _ h=>(by rw [show k+1-1=k by omega,h0] at h;exact Bool.noConfusion h),(by have:=g.len;omega)⟩;have:i≠k:=by rintro rfl;rw [h0] at h;exact Bool.noConfusion h.2
   omega
  ·rw [if_neg h0]
   have h0:p k=true:=by cases hq:p k with
    | true=>rfl
    | false=>exact absurd hq h0
   by_cases h1:0<k∧p (k-1)=true
   ·rw [if_pos h1]
    obtain⟨F,e,hE,he⟩:=g.last h1.1 h1.2;rw [hE,q643,q378];rw [hE] at g;have gp:=List.pairwise_append.1 g.gap;have ge:=g.ne e (by simp);refine⟨fun x hx=>?_,List.pairwise_append.2 ⟨gp.1,by simp,fun x hx y hy=>?_⟩,fun i=>?_,fun x hx=>?_,fun _ _=>⟨F,_,rfl,by show e.Start+(e.Count+1)=_;omega⟩,by have:=g.len;rw [q20] at *;omega⟩
    ·rcases List.mem_append.1 hx with hx | hx
     ·exact g.ne x (List.mem_append_left _ hx)
     ·obtain rfl:=List.mem_singleton.1 hx
      exact⟨ge.1,by show 0<e.Count+1;omega⟩
    ·obtain rfl:=List.mem_singleton.1 hy
     exact gp.2.2 x hx e (by simp)
    ·constructor
     ·rintro⟨h2,h3⟩
      by_cases hi:i=k
      ·exact⟨⟨e.Start,e.Count+1⟩,by simp,by show e.Start≤_;omega,by show(i:Int)<e.Start+(e.Count+1);omega⟩
      ·obtain⟨x,hx,h4,h5⟩:=(g.cov i).1 ⟨by omega,h3⟩
       rcases List.mem_append.1 hx with hx | hx
       ·exact⟨x,List.mem_append_left _ hx,h4,h5⟩
       ·obtain rfl:=List.mem_singleton.1 hx
        exact⟨⟨x.Start,x.Count+1⟩,by simp,h4,by show(i:Int)<x.Start+(x.Count+1);omega⟩
     ·rintro⟨x,hx,h4,h5⟩
      rcases List.mem_append.1 hx with hx | hx
      ·have:=(g.cov i).2 ⟨x,List.mem_append_left _ hx,h4,h5⟩
       exact⟨by omega,this.2⟩
      ·obtain rfl:=List.mem_singleton.1 hx
       have h4:e.Start≤(i:Int):=h4;have h5:(i:Int)<e.Start+(e.Count+1):=h5;by_cases hi:i=k
       ·rw [hi];exact⟨by omega,h0⟩
       ·have:=(g.cov i).2 ⟨e,by simp,h4,by omega⟩
        exact⟨by omega,this.2⟩
    ·rcases List.mem_append.1 hx with hx | hx
     ·have:=g.top x (List.mem_append_left _ hx);omega
     ·obtain rfl:=List.mem_singleton.1 hx
      show e.Start+(e.Count+1)≤_;omega
   ·rw [if_neg h1]
    have hb:=g.below h1;refine⟨fun x hx=>?_,List.pairwise_append.2 ⟨g.gap,by simp,fun x hx y hy=>?_⟩,fun i=>?_,fun x hx=>?_,fun _ _=>⟨_,_,rfl,by show(k:Int)+1=_;omega⟩,by have:=g.len;rw [q20];omega⟩
    ·rcases List.mem_append.1 hx with hx | hx
     ·exact g.ne x hx
     ·obtain rfl:=List.mem_singleton.1 hx
      exact⟨by show 0≤(k:Int);omega,by show(0:Int)<1;omega⟩
    ·obtain rfl:=List.mem_singleton.1 hy
     exact hb x hx
    ·constructor
     ·rintro⟨h2,h3⟩
      by_cases hi:i=k
      ·exact⟨⟨(k:Int),1⟩,by simp,by show(k:Int)≤_;omega,by show(i:Int)<(k:Int)+1;omega⟩
      ·obtain⟨x,hx,h4,h5⟩:=(g.cov i).1 ⟨by omega,h3⟩
       exact⟨x,List.mem_append_left _ hx,h4,h5⟩
     ·rintro⟨x,hx,h4,h5⟩
      rcases List.mem_append.1 hx with hx | hx
      ·have:=(g.cov i).2 ⟨x,hx,h4,h5⟩
       exact⟨by omega,this.2⟩
      ·obtain rfl:=List.mem_singleton.1 hx
       have h4:(k:Int)≤(i:Int):=h4;have h5:(i:Int)<(k:Int)+1:=h5;obtain rfl:i=k:=by omega
       exact⟨by omega,h0⟩
    ·rcases List.mem_append.1 hx with hx | hx
     ·have:=g.top x hx;omega
     ·obtain rfl:=List.mem_singleton.1 hx
      show(k:Int)+1≤_;omega
theorem q298(p:Nat→Bool)(k:Nat):extsL p (k+1)=if p k=false then extsL p k else if 0<k∧p (k-1)=true then put (extsL p k) (((extsL p k).length:Int)-1) ⟨(ix (extsL p k) (((extsL p k).length:Int)-1)).Start,(ix (extsL p k) (((extsL p k).length:Int)-1)).Count+1⟩ else extsL p k++[⟨(k:Int),1⟩]:=rfl
def q116(p:Nat→Bool)(n:Nat):List Bool:=(List.range n).map p
theorem q55(p:Nat→Bool)(n:Nat):(q116 p n).length=n:=by unfold q116;rw [List.length_map,List.length_range]
theorem q276{p:Nat→Bool}{n i:Nat}(h:i<n):ix (q116 p n) (i:Int)=p i:=by
 rw [q30 (by rw [q55];exact h)];unfold q116;simp
theorem q186{p q:Nat→Bool}{n:Nat}(h:∀ i,i<n→p i=q i):q116 p n=q116 q n:=by
 unfold q116;exact List.map_congr_left fun i hi=>h i (List.mem_range.1 hi)
theorem q797{p:Nat→Bool}{n a:Nat}(h:a<n):put (q116 p n) (a:Int) true=q116 (fun i=>decide (i=a) || p i) n:=by
 refine q308 (by rw [q147,q55,q55]) fun i hi=>?_;rw [q147,q55] at hi;rw [q780 _ _ (by rw [q55];exact h),q276 hi,q276 hi];by_cases e:i=a
 ·rw [if_pos e,decide_eq_true e,Bool.true_or]
 ·rw [if_neg e,decide_eq_false e,Bool.false_or]
theorem q469{p:Nat→Bool}{n:Nat}{Φ:List q8→Prop}(hn:n≤100000)(hΦ:Φ (extsL p n)):q215 (q116 p n) Φ:=by
 refine LoopW.upT n (fun k=>((k:Int),extsL p k)) rfl (fun k rec hk hr=>⟨fun _=>⟨iX (by omega) (by rw [q55];omega), ?_⟩,fun q=>absurd (show(k:Int)<((q116 p n).length:Int) by rw [q55];omega) q⟩) fun rec=>⟨fun q=>absurd q (by rw [q55];omega),fun _=>hΦ⟩
 rw [q276 hk];have g:=q571 p k;have gl:=g.len;refine⟨fun q=>⟨iI (by omega) (by omega),hr _ ?_⟩,fun q=>?_⟩
 ·show(_,_)=(_,extsL p (k+1))
  rw [q298,if_pos (by cases hq:p k with
   | true=>exact absurd hq q
   | false=>rfl)];rfl
 ·have q:p k=true:=Classical.not_not.1 q
  have J1:0<k∧p (k-1)=true→q180 (k:Int) (extsL p k) rec Φ true:=fun h1=>by
   obtain⟨F,e,hE,he⟩:=g.last h1.1 h1.2;have hlen:0<(extsL p k).length:=by rw [hE,q20];omega
   have ge:=g.ne e (by rw [hE];simp);have el:ix (extsL p k) (((extsL p k).length:Int)-1)=e:=by rw [hE,q378]
   refine⟨fun _=>⟨iI (by omega) (by omega),iX (by omega) (by omega),by rw [el];exact iI (by omega) (by omega),iX (by omega) (by omega),iI (by omega) (by omega),hr _ ?_⟩,fun r=>absurd rfl r⟩;show(_,_)=(_,extsL p (k+1))
   rw [q298,if_neg (by rw [q];simp),if_pos h1];rfl
  have J0:¬(0<k∧p (k-1)=true)→q180 (k:Int) (extsL p k) rec Φ false:=fun h1=>by
   refine⟨fun r=>Bool.noConfusion r,fun _=>⟨iL (by rw [q20];omega) (by omega),iI (by omega) (by omega),hr _ ?_⟩⟩;show(_,_)=(_,extsL p (k+1))
   rw [q298,if_neg (by rw [q];simp),if_neg h1];rfl
  refine⟨fun r=>⟨iI (by omega) (by omega),iX (by omega) (by rw [q55];omega), ?_⟩,fun r=>J0 (by omega)⟩;rw [show(k:Int)-1=((k-1:Nat):Int) by omega,q276 (by omega)];cases hp:p (k-1) with
  | true=>exact J1 ⟨by omega,hp⟩
  | false=>exact J0 fun t=>by rw [hp] at t;exact Bool.noConfusion t.2
theorem q191{l:List Sec}{Φ:Bool→Prop}(hl:l.length≤1000000)(hΦ:Φ true):Z73 l l Φ:=
 ⟨fun h=>absurd rfl h,fun _=>LoopW.upT l.length (fun k=>(k:Int)) rfl (fun k rec hk hr=>⟨fun hlt=>⟨iX (by omega) hlt,iX (by omega) hlt,fun q=>absurd rfl q,fun _=>⟨iI (by omega) (by omega),hr _ rfl⟩⟩,fun q=>absurd (show(k:Int)<(l.length:Int) by omega) q⟩) fun rec=>⟨fun q=>absurd q (by omega),fun _=>hΦ⟩⟩
theorem q220{l:List q10}{Φ:Bool→Prop}(hl:l.length≤1000000)(hd:∀ w∈l,w.Data.length≤1000000)(hΦ:Φ true):Z75 l l Φ:=
 ⟨fun h=>absurd rfl h,fun _=>LoopW.upT l.length (fun k=>(k:Int)) rfl (fun k rec hk hr=>⟨fun hlt=>⟨iX (by omega) hlt,iX (by omega) hlt,fun q=>absurd rfl q,fun _=>⟨iX (by omega) hlt,iX (by omega) hlt,fun q=>absurd rfl q,fun _=>⟨iX (by omega) hlt,iX (by omega) hlt,(true,()),q191 (hd _ (q61 (iX (by omega) hlt))) rfl,fun q=>absurd rfl q,fun _=>⟨iI (by omega) (by omega),hr _ rfl⟩⟩⟩⟩,fun q=>absurd (show(k:Int)<(l.length:Int) by omega) q⟩) fun rec=>⟨fun q=>absurd q (by omega),fun _=>hΦ⟩⟩
theorem q798(C:List q9){l:List q10}{k:Nat}(hk:k<l.length):markL (markL C (l.take k)) [ix l (k:Int)]=markL C (l.take (k+1)):=by
 rw [q663 C hk];rfl
theorem q381{a b:Int}{Φ:Bool→Prop}(h1:b≤a)(h2:a≤1073741824)(hΦ:Φ true):q230 a b Φ:=⟨fun _=>by rw [decide_eq_true h2];exact hΦ,fun q=>absurd h1 q⟩
theorem q395{p:q14}{Φ:Int→Prop}(h0:0≤p.Site)(h1:p.Site≤3)(hc:∀ Φ:Bool→Prop,Φ true→Z40 p.Lineage Φ)(hs:imgE p.Image=0)(hD:BmsOk (szs p.Image) p.Dirty)(hΦ:Φ 0):q73 p Φ:=by
 have hl:=q74 hs;rw [q38] at hl;have hDl:=hD.len;rw [q38] at hDl;refine q381 h0 (by omega) ⟨fun q=>absurd rfl q,fun _=>hc _ ⟨fun q=>absurd rfl q,fun _=>q150 (by omega) ⟨fun q=>absurd hs q,fun _=>⟨fun q=>absurd (by rw [hDl]) q,fun _=>?_⟩⟩⟩⟩;refine LoopW.upT p.Dirty.length (fun k=>(k:Int)) rfl (fun k rec hk hr=>⟨fun q=>⟨iX (by omega) q,q41 ?_⟩,fun q=>absurd (show(k:Int)<(p.Dirty.length:Int) by omega) q⟩) fun rec=>⟨fun q=>absurd (show(p.Dirty.length:Int)<(p.Dirty.length:Int) from q) (by omega),fun _=>hΦ⟩
 obtain⟨c1,c2⟩:=hD.chk k (by rw [q38];omega);rw [q115 (by omega)] at c2;exact⟨fun q=>absurd c1 q,fun _=>⟨iX (by omega) (by omega),fun q=>absurd c2 q,fun _=>⟨iI (by omega) (by omega),hr _ rfl⟩⟩⟩
theorem q396{a b:List (List Sec)}{Φ:Bool→Prop}(hs:imgE a=0)(h:szs a=szs b)(hΦ:Φ true):q177 a b Φ:=by
 have hl:=q74 hs;rw [q38] at hl;obtain⟨h1,h2⟩:=q795 h;refine⟨fun q=>absurd (by rw [h1]) q,fun _=>LoopW.upT a.length (fun k=>(k:Int)) rfl (fun k rec hk hr=>⟨fun q=>⟨iX (by omega) q,iX (by omega) (by omega), ?_⟩,fun q=>absurd (show(k:Int)<(a.length:Int) by omega) q⟩) fun rec=>⟨fun q=>absurd (show(a.length:Int)<(a.length:Int) from q) (by omega),fun _=>hΦ⟩⟩;have hz:decide (((ix a (k:Int)).length:Int)=((ix b (k:Int)).length:Int))=true:=decide_eq_true (by rw [h2 k hk]);exact⟨fun q=>absurd hz q,fun _=>⟨iI (by omega) (by omega),hr _ rfl⟩⟩
def mrkX(D E:List q9):List (List q8):=(List.range D.length).map fun v:Nat=>exts (orB (ix D (v:Int)) (ix E (v:Int))).1
theorem q799{α:Type}[Dt α](f:Nat→α)(z:α){n k:Nat}(h:k<n):put ((List.range k).map f++List.replicate (n-k) z) (k:Int) (f k)=(List.range (k+1)).map f++List.replicate (n-(k+1)) z:=by
 rw [q563,q51,show n-k=(n-(k+1))+1 by omega,List.replicate_succ];have hl:((List.range k).map f).length=k:=by simp
 rw [List.set_append_right _ _ (by omega),hl,Nat.sub_self,List.set_cons_zero,List.append_assoc];rfl
theorem q382{a b:q14}{G:List (List q8)→Prop}(hl:a.Dirty.length≤100000)(hlb:b.Dirty.length=a.Dirty.length)(hG:G (mrkX a.Dirty b.Dirty)):Z65 a b G:=by
 have e:(a.Dirty.length:Int).toNat=a.Dirty.length:=by simp
 refine⟨by omega,iL (by rw [e];omega) (by omega), ?_⟩;rw [e];refine LoopW.upT a.Dirty.length (fun k=>((k:Int),(List.range k).map (fun v:Nat=>exts (orB (ix a.Dirty (v:Int)) (ix b.Dirty (v:Int))).1)++List.replicate (a.Dirty.length-k) [])) (by simp) (fun k rec hk hr=>?_) fun rec=>?_
 ·have hll:((List.replicate (a.Dirty.length:Int).toNat (([]:List q8):List q8)).length:Int)=a.Dirty.length:=by simp
  refine⟨fun _=>⟨iX (by omega) (by omega),iX (by omega) (by omega),((orB (ix a.Dirty (k:Int)) (ix b.Dirty (k:Int))).1,(orB (ix a.Dirty (k:Int)) (ix b.Dirty (k:Int))).2,()),q513 rfl,q296 ⟨iX (by omega) (by simp;omega),iI (by omega) (by omega),hr _ ?_⟩⟩,fun q=>absurd (by rw [hll];omega) q⟩;rw [q799 (fun v:Nat=>exts (orB (ix a.Dirty (v:Int)) (ix b.Dirty (v:Int))).1) [] hk];rfl
 ·have hll:((List.replicate (a.Dirty.length:Int).toNat (([]:List q8):List q8)).length:Int)=a.Dirty.length:=by simp
  refine⟨fun q=>absurd q (by rw [hll];omega),fun _=>?_⟩;rw [Nat.sub_self,List.replicate_zero,List.append_nil];exact hG
theorem q800{im:List (List Sec)}{D E:List q9}{P Q:Nat→Nat→Prop}(hD:q309 (szs im) D P)(hE:q309 (szs im) E Q):RunsX im (mrkX D E) (fun v i=>bitN (orB (ix D (v:Int)) (ix E (v:Int))).1.Words i)∧∀ v i:Nat,v<im.length→i<(ix im (v:Int)).length→(bitN (orB (ix D (v:Int)) (ix E (v:Int))).1.Words i=true↔P v i∨Q v i):=by
 have hl:=hD.len;rw [q38] at hl;have key:∀ v:Nat,v<im.length→_:=fun v hv=>orB_ok (hD.chk v (by rw [q38];exact hv)).1 (hE.chk v (by rw [q38];exact hv)).1 ((hD.chk v (by rw [q38];exact hv)).2.trans (hE.chk v (by rw [q38];exact hv)).2.symm)
 have size:∀ v:Nat,v<im.length→(ix D (v:Int)).Size=((ix im (v:Int)).length:Int):=fun v hv=>by
  rw [(hD.chk v (by rw [q38];exact hv)).2,q115 hv]
 refine⟨⟨by unfold mrkX;simp;exact hl,fun v hv=>?_⟩,fun v i hv hi=>?_⟩
 ·obtain⟨_,k2,k3,_⟩:=key v hv
  unfold mrkX;rw [q219 _ (by omega)];exact q866 k2 (by rw [k3,size v hv])
 ·obtain⟨_,_,_,k4⟩:=key v hv
  rw [k4 i (by rw [size v hv];omega),hD.bit v i (by rw [q38];exact hv) (by rw [q115 hv];omega),hE.bit v i (by rw [q38];exact hv) (by rw [q115 hv];omega)]
end
def stpH(v:BitVec 64)(b:BitVec 8):BitVec 64:=(v ^^^ b.setWidth 64)*1099511628211#64
def finH(v:BitVec 64):BitVec 64:=v ^^^ (v >>> ((32#64).toNat:Int).toNat)
def foldT(l:List (BitVec 8))(k:Nat):BitVec 64:=(l.take k).foldl stpH 14695981039346656037#64
theorem q423{l:List (BitVec 8)}{k:Nat}(h:k<l.length):foldT l (k+1)=stpH (foldT l k) (ix l (k:Int)):=q666 stpH _ h
def bytS(s:Sec):List (BitVec 8):=[s.b0,s.b1,s.b2,s.b3,s.b4,s.b5,s.b6,s.b7]
def hS(s:Sec):BitVec 64:=finH (foldT (bytS s) 8)
theorem q528{s:Sec}{Φ:BitVec 64→Prop}(hΦ:Φ (hS s)):Z82 [s] Φ:=by
 refine⟨2,⟨fun _=>⟨iX (by omega) (by simp), ?_⟩,fun q=>absurd (show(0:Int)<_ by simp) q⟩⟩;refine LoopW.upT 8 (fun j=>((j:Int),foldT (bytS s) j)) rfl (fun j rec hj hr=>⟨fun _=>⟨⟨by omega,by omega⟩,iI (by omega) (by omega),hr _ (pairE rfl (q423 (l:=bytS s) hj).symm)⟩,fun q=>absurd (show(j:Int)<8 by omega) q⟩) fun rec=>⟨fun q=>absurd q (by decide),fun _=>⟨iI (by omega) (by omega), ?_⟩⟩
 exact⟨fun q=>absurd q (by simp),fun _=>hΦ⟩
def hB(l:List (BitVec 8)):BitVec 64:=finH (foldT l l.length)
theorem q277{l:List (BitVec 8)}{Φ:BitVec 64→Prop}(hl:l.length≤1000000)(hΦ:Φ (hB l)):Z85 l Φ:=by
 refine⟨l.map fun b=>(b,()), ?_, ?_⟩
 ·refine LoopW.upT l.length (fun k=>((l.drop k).map fun b=>(b,()),(k:Int))) (by rw [List.drop_zero];rfl) (fun k rec hk hr=>?_) fun rec=>?_
  ·refine⟨fun _=>⟨iX (by omega) (by omega), ?_⟩,fun q=>absurd (show(k:Int)<(l.length:Int) by omega) q⟩
   rw [List.drop_eq_getElem_cons hk,List.map_cons];exact⟨pairE (q30 hk) rfl,⟨iI (by omega) (by omega),hr _ rfl⟩,trivial⟩
  ·refine⟨fun q=>absurd (show(l.length:Int)<(l.length:Int) from q) (by omega),fun _=>?_⟩
   rw [List.drop_length];rfl
 ·refine LoopW.upT l.length (fun k=>((l.drop k).map fun b=>(b,()),foldT l k)) (by rw [List.drop_zero];rfl) (fun k rec hk hr=>?_) fun rec=>?_
  ·rw [List.drop_eq_getElem_cons hk,List.map_cons]
   refine hr _ (pairE rfl ?_);rw [q423 hk,q30 hk];rfl
  ·rw [List.drop_length];exact hΦ
def bytW(d:BitVec 64):List (BitVec 8):=[(d >>> 0).setWidth 8,(d >>> 8).setWidth 8,(d >>> 16).setWidth 8,(d >>> 24).setWidth 8,(d >>> 32).setWidth 8,(d >>> 40).setWidth 8,(d >>> 48).setWidth 8,(d >>> 56).setWidth 8]
theorem q572(d:BitVec 64):∀ k:Nat,k<8→ix (bytW d) (k:Int)=(d >>> (8*k)).setWidth 8
 | 0,_=>rfl
 | 1,_=>rfl
 | 2,_=>rfl
 | 3,_=>rfl
 | 4,_=>rfl
 | 5,_=>rfl
 | 6,_=>rfl
 | 7,_=>rfl
 | k+8,h=>absurd h (by omega)
theorem q872{a b:BitVec 64}(h:bytW a=bytW b):a=b:=by
 refine BitVec.eq_of_getLsbD_eq fun i hi=>?_;have h1:ix (bytW a) ((i / 8:Nat):Int)=ix (bytW b) ((i / 8:Nat):Int):=by rw [h]
 rw [q572 _ _ (by omega),q572 _ _ (by omega)] at h1;have h2:=congrArg (fun x:BitVec 8=>x.getLsbD (i % 8)) h1;simp only [BitVec.getLsbD_setWidth,BitVec.getLsbD_ushiftRight] at h2;rw [show 8*(i / 8)+i % 8=i by omega,decide_eq_true (show i % 8<8 by omega),Bool.true_and,Bool.true_and] at h2;exact h2
theorem q917{d:BitVec 64}{Φ:List (BitVec 8)→Prop}(hΦ:Φ (bytW d)):q29 d Φ:=by
 refine LoopW.upT 8 (fun k=>((k:Int),(bytW d).take k)) rfl (fun k rec hk hr=>⟨fun _=>⟨iI (by omega) (by omega),by omega,iL (by rw [q20,List.length_take];omega) (by omega),iI (by omega) (by omega),hr _ (pairE rfl ?_)⟩,fun q=>absurd (show(k:Int)<8 by omega) q⟩) fun rec=>⟨fun q=>absurd q (by decide),fun _=>hΦ⟩
 rw [q63 (xs:=bytW d) hk,q572 d k hk];rfl
def hP(a b:BitVec 64):BitVec 64:=hB (bytW a++bytW b)
theorem q320{a b:BitVec 64}{Φ:BitVec 64→Prop}(hΦ:Φ (hP a b)):Z87 a b Φ:=by
 have J:Z85 (bytW a++bytW b) fun v17=>Φ v17:=q277 (show 16≤1000000 by omega) hΦ;have z:∀ {x:Int},0≤x→x≤100→inI x:=fun h1 h2=>iI (by omega) (by omega);refine⟨fun _=>⟨z (by decide) (by decide),z (by decide) (by decide),by decide,z (by decide) (by decide),by decide,by decide,by decide,z (by decide) (by decide), ?_⟩,fun q=>absurd (by decide) q⟩;refine⟨fun _=>⟨z (by decide) (by decide),z (by decide) (by decide),by decide,z (by decide) (by decide),by decide,by decide,by decide,z (by decide) (by decide), ?_⟩,fun q=>absurd (by decide) q⟩;refine⟨fun _=>⟨z (by decide) (by decide),z (by decide) (by decide),by decide,z (by decide) (by decide),by decide,by decide,by decide,z (by decide) (by decide), ?_⟩,fun q=>absurd (by decide) q⟩;refine⟨fun _=>⟨z (by decide) (by decide),z (by decide) (by decide),by decide,z (by decide) (by decide),by decide,by decide,by decide,z (by decide) (by decide), ?_⟩,fun q=>absurd (by decide) q⟩;refine⟨fun _=>⟨z (by decide) (by decide),z (by decide) (by decide),by decide,z (by decide) (by decide),by decide,by decide,by decide,z (by decide) (by decide), ?_⟩,fun q=>absurd (by decide) q⟩;refine⟨fun _=>⟨z (by decide) (by decide),z (by decide) (by decide),by decide,z (by decide) (by decide),by decide,by decide,by decide,z (by decide) (by decide), ?_⟩,fun q=>absurd (by decide) q⟩
 refine⟨fun _=>⟨z (by decide) (by decide),z (by decide) (by decide),by decide,z (by decide) (by decide),by decide,by decide,by decide,z (by decide) (by decide), ?_⟩,fun q=>absurd (by decide) q⟩;refine⟨fun _=>⟨z (by decide) (by decide),z (by decide) (by decide),by decide,z (by decide) (by decide),by decide,by decide,by decide,z (by decide) (by decide), ?_⟩,fun q=>absurd (by decide) q⟩;exact⟨fun q=>absurd q (by decide),fun _=>J⟩
def upAt(l:List (BitVec 64))(i:Nat):BitVec 64:=if 2*i+1<l.length then hP (ix l ((2*i:Nat):Int)) (ix l ((2*i+1:Nat):Int)) else ix l ((2*i:Nat):Int)
def upL(l:List (BitVec 64)):List (BitVec 64):=(List.range ((l.length+1) / 2)).map (upAt l)
def lev(l:List (BitVec 64)):Nat→List (BitVec 64)
 | 0=>l
 | k+1=>upL (lev l k)
def sizK(n:Nat):Nat→Nat
 | 0=>n
 | k+1=>(sizK n k+1) / 2
theorem q77(l:List (BitVec 64)):∀ k,(lev l k).length=sizK l.length k
 | 0=>rfl
 | k+1=>by
  show(upL (lev l k)).length=(sizK l.length k+1) / 2;unfold upL;rw [List.length_map,List.length_range,q77 l k]
theorem q89{n:Nat}(h:1≤n):∀ k,1≤sizK n k∧sizK n k≤n
 | 0=>⟨h,Nat.le_refl _⟩
 | k+1=>by
  have:=q89 h k;show 1≤(sizK n k+1) / 2∧(sizK n k+1) / 2≤n;omega
structure Hg(n H:Nat):Prop where
 pos:1≤n
 le:n≤5
 hle:H≤3
 one:sizK n H=1
 big:∀ k,k<H→1<sizK n k
theorem hg5:Hg 5 3:=⟨by decide,by decide,by decide,by decide,by decide⟩
theorem hg3:Hg 3 2:=⟨by decide,by decide,by decide,by decide,by decide⟩
def lvs(l:List (BitVec 64))(k:Nat):List (List (BitVec 64)):=(List.range k).map (lev l)
theorem q64(l:List (BitVec 64))(k:Nat):(lvs l k).length=k:=by unfold lvs;rw [List.length_map,List.length_range]
theorem q117{l:List (BitVec 64)}{k m:Nat}(h:k<m):ix (lvs l m) (k:Int)=lev l k:=q219 (lev l) h
theorem q645(l:List (BitVec 64))(k:Nat):lvs l (k+1)=lvs l k++[lev l k]:=q51 (lev l) k
theorem q646{n H:Nat}{l:List (BitVec 64)}{x0 x1:Int}{Φ:q17→Prop}(h:Hg n H)(hl:l.length=n)(hΦ:Φ ⟨x0,x1,lvs l (H+1)⟩):Z90 x0 x1 l Φ:=by
 have hle:=h.hle;have hn:=h.le;refine LoopW.upT H (fun k=>(lev l k,lvs l k)) rfl (fun k rec hk hr=>?_) fun rec=>?_
 ·have e:=q77 l k
  have hb:=h.big k hk;have hi:=(q89 h.pos k).2;rw [hl] at e;refine⟨iL (by rw [q20,q64];omega) (by omega),fun q=>absurd q (by omega),fun _=>?_⟩;refine LoopW.upT (((lev l k).length+1) / 2) (fun i=>(((2*i:Nat):Int),(List.range i).map (upAt (lev l k)))) rfl (fun i rec2 h1 hr2=>?_) fun rec2=>?_
  ·refine⟨fun _=>⟨iI (by omega) (by omega),fun q=>⟨iX (by omega) (by omega),iI (by omega) (by omega),iX (by omega) (by omega),(hP (ix (lev l k) ((2*i:Nat):Int)) (ix (lev l k) ((2*i+1:Nat):Int)),()),q320 rfl,iL (by rw [q20,List.length_map,List.length_range];omega) (by omega),iI (by omega) (by omega),hr2 _ (pairE (by omega) ?_)⟩,fun q=>⟨iX (by omega) (by omega),iL (by rw [q20,List.length_map,List.length_range];omega) (by omega),iI (by omega) (by omega),hr2 _ (pairE (by omega) ?_)⟩⟩,fun q=>absurd (show((2*i:Nat):Int)<((lev l k).length:Int) by omega) q⟩
   ·rw [q51]
    unfold upAt;rw [if_pos (by omega)]
   ·rw [q51]
    conv=>rhs;rhs;unfold upAt
    rw [if_neg (by omega)]
  ·refine⟨fun q=>absurd (show((2*(((lev l k).length+1) / 2):Nat):Int)<((lev l k).length:Int) from q) (by omega),fun _=>hr _ (pairE rfl ?_)⟩
   rw [q645]
 ·have e:=q77 l H
  rw [hl,h.one] at e;refine⟨iL (by rw [q20,q64];omega) (by omega),fun _=>?_,fun q=>absurd (show((lev l H).length:Int)=1 by omega) q⟩;rw [q645] at hΦ;exact hΦ
def leafS(a:List Sec):List (BitVec 64):=a.map hS
def treA(a:List Sec)(H:Nat):q17:=⟨(a.length:Int),1,lvs (leafS a) (H+1)⟩
theorem q233(a:List Sec):(leafS a).length=a.length:=by unfold leafS;rw [List.length_map]
theorem q529{n H:Nat}{Φ:Int→Prop}(h:Hg n H)(hΦ:Φ 0):Z78 (n:Int) 1 Φ:=by
 have h1:=h.pos;have h2:=h.le;refine⟨fun q=>absurd q (by omega),fun _=>?_⟩;rw [decide_eq_false (show ¬(4096:Int)<(n:Int) by omega)];exact⟨fun q=>(by cases q),fun _=>⟨fun q=>absurd q (by omega),fun _=>⟨fun q=>absurd q (by omega),fun _=>hΦ⟩⟩⟩
theorem q801{a:List Sec}(hl:a.length≤1000):q28 a 1 (a.map fun s=>([s],())):=by
 refine LoopW.upT a.length (fun k=>((a.drop k).map fun s=>([s],()),(k:Int))) (by rw [List.drop_zero];rfl) (fun k rec hk hr=>?_) fun rec=>?_
 ·have e1:sub a (k:Int) (a.length:Int)=a.drop k:=by
   unfold sub;rw [Int.toNat_natCast];exact List.take_of_length_le (by rw [List.length_drop];omega)
  have e2:(if((sub a (k:Int) (a.length:Int)).length:Int)<1 then((sub a (k:Int) (a.length:Int)).length:Int) else 1)=1:=by
   rw [e1,List.length_drop];exact if_neg (by omega)
  show(((k:Int)<(a.length:Int)→_)∧_);refine⟨fun _=>?_,fun q=>absurd (show(k:Int)<(a.length:Int) by omega) q⟩;rw [e2];refine⟨iS (by omega) (by omega) (by omega),iI (by omega) (by omega),iI (by omega) (by omega),iS (by omega) (by omega) (by omega),iS (by omega) (by omega) (by omega), ?_⟩;rw [List.drop_eq_getElem_cons hk,List.map_cons];refine⟨pairE ?_ rfl,⟨iI (by omega) (by omega),hr _ rfl⟩,trivial⟩;unfold sub;rw [Int.toNat_natCast,show((k:Int)+1-(k:Int)).toNat=1 by omega,List.drop_eq_getElem_cons hk];rfl
 ·refine⟨fun q=>absurd (show(a.length:Int)<(a.length:Int) from q) (by omega),fun _=>?_⟩
  rw [List.drop_length];rfl
theorem q647{a:List Sec}{H:Nat}{Φ:q17×Int→Prop}(h:Hg a.length H)(hΦ:Φ (treA a H,0)):Z92 a 1 Φ:=by
 have hle:=h.le;refine q529 h ⟨fun q=>absurd rfl q,fun _=>⟨fun q=>absurd q (by omega),fun _=>⟨a.map fun s=>([s],()),q801 (by omega), ?_⟩⟩⟩;refine LoopW.upT a.length (fun k=>((a.drop k).map fun s=>([s],()),(a.take k).map hS)) (by rw [List.drop_zero];rfl) (fun k rec hk hr=>?_) fun rec=>?_
 ·rw [List.drop_eq_getElem_cons hk,List.map_cons]
  refine⟨(hS a[k],()),q528 rfl,iL (by rw [q20,List.length_map,List.length_take];omega) (by omega),hr _ (pairE rfl ?_)⟩;rw [q37 hS hk,q30 hk]
 ·rw [List.drop_length,q31]
  exact q646 h (q233 a) hΦ
theorem q573{l:List (BitVec 64)}{Φ:Bool→Prop}(hl:l.length≤1000000)(hΦ:Φ true):Z95 l l Φ:=
 ⟨fun q=>absurd rfl q,fun _=>LoopW.upT l.length (fun k=>(k:Int)) rfl (fun k rec hk hr=>⟨fun _=>⟨iX (by omega) (by omega),iX (by omega) (by omega),fun q=>absurd rfl q,fun _=>⟨iI (by omega) (by omega),hr _ rfl⟩⟩,fun q=>absurd (show(k:Int)<(l.length:Int) by omega) q⟩) fun rec=>⟨fun q=>absurd (show(l.length:Int)<(l.length:Int) from q) (by omega),fun _=>hΦ⟩⟩
theorem q234{n H:Nat}{l:List (BitVec 64)}{Φ:Int→Prop}(h:Hg n H)(hl:l.length=n)(hΦ:Φ 0):Z99 ⟨(n:Int),1,lvs l (H+1)⟩ Φ:=by
 have hle:=h.hle;have hn:=h.le;have hp:=h.pos;have hlen:∀ k,k<H+1→(ix (lvs l (H+1)) (k:Int)).length=sizK n k:=fun k hk=>by rw [q117 hk,q77,hl]
 have hlv:((lvs l (H+1)).length:Int)=(H:Int)+1:=by rw [q64];omega
 refine q529 h ⟨fun q=>absurd rfl q,fun _=>⟨iI (by show _≤(n:Int)+1;omega) (by show(n:Int)+1≤_;omega),iI (by show _≤(n:Int)+1-1;omega) (by show(n:Int)+1-1≤_;omega),⟨by show 0≤(n:Int)+1-1;omega,iI (by show _≤(n:Int)+1-1;omega) (by show(n:Int)+1-1≤_;omega),by show(0:Int)<1;omega⟩, ?_⟩⟩
 refine LoopW.upT (H+1) (fun k=>(if k<H+1 then(sizK n k:Int) else 0,(k:Int))) (pairE (by
  show((n:Int)+1-1) / 1=if 0<H+1 then(n:Int) else 0
  rw [if_pos (Nat.succ_pos H)];omega) rfl) (fun k rec hk hr=>?_) fun rec=>?_
 ·have hs:=q89 hp k
  have hsk:=hlen k hk;rw [if_pos hk];refine⟨fun q=>⟨iX (by omega) q,fun q1=>absurd (show((ix (lvs l (H+1)) (k:Int)).length:Int)=(sizK n k:Int) by rw [hsk]) q1,fun _=>⟨fun q1=>⟨iI (by omega) (by omega),fun q2=>?_,fun q2=>⟨fun _=>⟨iI (by omega) (by omega),⟨by omega,iI (by omega) (by omega),by omega⟩,iI (by omega) (by omega),hr _ (pairE ?_ rfl)⟩,fun q3=>absurd q1 q3⟩⟩,fun q1=>⟨fun q3=>absurd q3 q1,fun _=>⟨iI (by omega) (by omega),⟨by omega,iI (by omega) (by omega),by omega⟩,iI (by omega) (by omega),hr _ (pairE ?_ rfl)⟩⟩⟩⟩,fun q=>absurd (show(k:Int)<((lvs l (H+1)).length:Int) by omega) q⟩
  ·have q2:(k:Int)+1<((lvs l (H+1)).length:Int):=q2
   have:=h.big k (by omega);omega
  ·have q2:¬(k:Int)+1<((lvs l (H+1)).length:Int):=q2
   rw [if_neg (by omega)];rfl
  ·have hkH:k<H:=by
    rcases Nat.lt_or_ge k H with h1 | h1
    ·exact h1
    ·obtain rfl:k=H:=by omega
     exact absurd (by rw [h.one];rfl) q1
   rw [if_pos (show k+1<H+1 by omega)];show((sizK n k:Int)+1) / 2=(((sizK n k+1) / 2:Nat):Int)
   omega
 ·rw [if_neg (Nat.lt_irrefl _)]
  refine⟨fun q=>absurd (show((H+1:Nat):Int)<((lvs l (H+1)).length:Int) from q) (by omega),fun _=>⟨fun q=>absurd rfl q,fun _=>⟨iX (by omega) (by show(0:Int)<((lvs l (H+1)).length:Int);omega),(⟨(n:Int),1,lvs l (H+1)⟩,()), ?_,fun q=>absurd rfl q,fun _=>?_⟩⟩⟩
  ·show Z90 (n:Int) 1 (ix (lvs l (H+1)) 0) _
   rw [show ix (lvs l (H+1)) 0=l from q117 (Nat.succ_pos H)];exact q646 h hl rfl
  ·refine LoopW.upT (H+1) (fun k=>(k:Int)) rfl (fun k rec hk hr=>⟨fun q=>⟨iX (by omega) q,iX (by omega) q,q573 (show(ix (lvs l (H+1)) (k:Int)).length≤1000000 by have:=hlen k hk;have:=(q89 hp k).2;omega) ⟨fun q=>absurd rfl q,fun _=>⟨iI (by omega) (by omega),hr _ rfl⟩⟩⟩,fun q=>absurd (show(k:Int)<((lvs l (H+1)).length:Int) by omega) q⟩) fun rec=>⟨fun q=>absurd (show((H+1:Nat):Int)<((lvs l (H+1)).length:Int) from q) (by omega),fun _=>hΦ⟩
def runL(n:Nat)(p:Nat→Bool):List Nat:=(List.range n).filter p
def numX(l:List q8):List Int:=l.flatMap fun e=>(List.range e.Count.toNat).map fun i:Nat=>e.Start+(i:Int)
theorem q100(l m:List q8):numX (l++m)=numX l++numX m:=List.flatMap_append
theorem q339(e:q8):numX [e]=(List.range e.Count.toNat).map fun i:Nat=>e.Start+(i:Int):=by unfold numX;rw [List.flatMap_cons,List.flatMap_nil,List.append_nil]
theorem q873{es:List (Int×Int)}{n:Nat}(h:∀ e∈es,0≤e.2):numX ((addX es (n:Int)).map toX)=numX (es.map toX)++[(n:Int)]:=by
 rcases q422 es (n:Int) with ⟨pre,a,c,rfl,h1,h2,_⟩ | ⟨_,h2,_⟩
 ·have hc:0≤c:=h (a,c) (by simp)
  obtain⟨m,rfl⟩:=Int.eq_ofNat_of_zero_le hc;rw [h2,List.map_append,List.map_append,q100,q100,List.append_assoc]
  congr 1
  show numX [⟨a,(m:Int)+1⟩]=numX [⟨a,(m:Int)⟩]++_;rw [q339,q339];show(List.range ((m:Int)+1).toNat).map (fun i:Nat=>a+(i:Int))=(List.range (m:Int).toNat).map (fun i:Nat=>a+(i:Int))++_;rw [show((m:Int)+1).toNat=m+1 by omega,Int.toNat_natCast,q51,h1]
 ·rw [h2,List.map_append,q100]
  rfl
theorem q470(p:Nat→Bool):∀ n:Nat,numX (runX n p)=(runL n p).map fun i:Nat=>(i:Int)
 | 0=>rfl
 | n+1=>by
  have ih:=q470 p n
  have hc:∀ e∈q95 (runL n p),0≤e.2:=fun e he=>by
   have:=(q33 p n).can.pos (toX e) (List.mem_map_of_mem he);show 0≤(toX e).Count;omega
  have e1:runL (n+1) p=runL n p++(if p n then [n] else []):=q160 n p;rw [q377,e1];by_cases h:p n=true
  ·rw [if_pos h,if_pos h,List.map_append]
   show numX ((addX (q95 (runL n p)) (n:Int)).map toX)=_;rw [q873 hc];show numX (runX n p)++_=_;rw [ih];rfl
  ·rw [if_neg h,if_neg h,List.append_nil];exact ih
theorem q146{n:Nat}{p:Nat→Bool}{x:Nat}:x∈runL n p↔x<n∧p x=true:=by unfold runL;rw [List.mem_filter,List.mem_range]
theorem q278(n:Nat)(p:Nat→Bool):(runL n p).length≤n:=by
 have:=List.length_filter_le p (List.range n);rw [List.length_range] at this;exact this
theorem q802{S:Type}{n:Nat}{p:Nat→Bool}{F:(Int×S)→((Int×S)→Prop)→Prop}{G:Int→((Int×S)→Prop)→(Int×S)→((Int×S)→Prop)→Prop}(g:Nat→S)
  (hF:∀ (j:Nat) s rec,j<(runX n p).length→LoopW (G (j:Int) rec) (0,s)→F ((j:Int),s) rec)
  (hG:∀ (j i t x:Nat) rec1 rec2,j<(runX n p).length→t<(runL n p).length→(runL n p)[t]? = some x→x<n→p x=true→(ix (runX n p) (j:Int)).Start+(i:Int)=(x:Int)→(i:Int)<(ix (runX n p) (j:Int)).Count→rec2 ((i:Int)+1,g (t+1))→G (j:Int) rec1 ((i:Int),g t) rec2)
  (hGe:∀ (j t:Nat) rec1 rec2,j<(runX n p).length→rec1 ((j:Int)+1,g t)→G (j:Int) rec1 ((ix (runX n p) (j:Int)).Count,g t) rec2)
  (hE:∀ rec,F (((runX n p).length:Int),g (runL n p).length) rec){s0:S}(hs:s0=g 0):LoopW F (0,s0):=by
 subst hs;have hnum:=q470 p n;have hpos:=(q33 p n).can.pos;have hall:((numX (runX n p)).length)=(runL n p).length:=by rw [hnum,List.length_map]
 generalize hes:runX n p=es at *;refine LoopW.upT es.length (fun j=>((j:Int),g (numX (es.take j)).length)) rfl (fun j rec hj hr=>hF j _ rec hj ?_) fun rec=>?_
 ·have hc:=hpos _ (q61 (xs:=es) (i:=(j:Int)) (iX (by omega) (by omega)))
  obtain⟨m,hm⟩:=Int.eq_ofNat_of_zero_le (show 0≤(ix es (j:Int)).Count by omega)
  have e1:numX (es.take (j+1))=numX (es.take j)++(List.range m).map fun i:Nat=>(ix es (j:Int)).Start+(i:Int):=by
   rw [q63 hj,q100,q339,hm,Int.toNat_natCast]
  have e2:numX es=numX (es.take (j+1))++numX (es.drop (j+1)):=by rw [← q100,List.take_append_drop]
  refine LoopW.upT m (fun i=>((i:Int),g ((numX (es.take j)).length+i))) rfl (fun i rec2 hi hr2=>?_) fun rec2=>?_
  ·have e3:(numX es)[(numX (es.take j)).length+i]? = some ((ix es (j:Int)).Start+(i:Int)):=by
    rw [e2,e1,List.append_assoc,List.getElem?_append_right (by omega),show(numX (es.take j)).length+i-(numX (es.take j)).length=i by omega,List.getElem?_append_left (by simpa using hi)];simp [hi]
   rw [hnum,List.getElem?_map] at e3;obtain⟨x,hx,hxe⟩:=Option.map_eq_some_iff.1 e3;have hlt:(numX (es.take j)).length+i<(runL n p).length:=(List.getElem?_eq_some_iff.1 hx).1;have hm2:=q146.1 (List.mem_of_getElem? hx);exact hG j i _ x rec rec2 hj hlt hx hm2.1 hm2.2 hxe.symm (by omega) (hr2 _ rfl)
  ·have:=hGe j ((numX (es.take j)).length+m) rec rec2 hj (hr _ (by
    show((j:Int)+1,g ((numX (es.take j)).length+m))=(((j+1:Nat):Int),g (numX (es.take (j+1))).length)
    rw [e1,List.length_append,List.length_map,List.length_range];rfl))
   rw [hm] at this;exact this
 ·rw [q31,hall];exact hE rec
theorem q874{n:Nat}{p:Nat→Bool}:cntX (runX n p)=((runL n p).length:Int):=by
 have h:=q470 p n;have hpos:=(q33 p n).can.pos
 have h1:∀ l:List q8,(∀ e∈l,0<e.Count)→((numX l).length:Int)=cntX l:=by
  intro l
  induction l with
  | nil=>intro _;rfl
  | cons e l ih=>
   intro he;have h1:=ih fun x hx=>he x (List.mem_cons_of_mem _ hx);have h2:=he e List.mem_cons_self;have e1:numX (e::l)=numX [e]++numX l:=q100 [e] l;have e2:cntX (e::l)=e.Count+cntX l:=by unfold cntX;rw [List.map_cons,List.sum_cons]
   rw [e1,e2,List.length_append,q339,List.length_map,List.length_range];omega
 rw [← h1 _ hpos,h,List.length_map]
def flqX(l:List q8):List Int:=l.flatMap fun e=>[e.Start,e.Count]
theorem q803{l:List q8}{k:Nat}(hk:k<l.length):flqX (l.take (k+1))=flqX (l.take k)++[(ix l (k:Int)).Start,(ix l (k:Int)).Count]:=by
 unfold flqX;rw [q63 hk,List.flatMap_append];simp
theorem q235:∀ l:List q8,(flqX l).length=2*l.length
 | []=>rfl
 | e::l=>by
  have:flqX (e::l)=e.Start::e.Count::flqX l:=by unfold flqX;rw [List.flatMap_cons];rfl
  rw [this,List.length_cons,List.length_cons,q235 l,List.length_cons];omega
def valsQ(s:Int)(l:List q8):List Int:=s::1::flqX l
theorem q125{s:Int}{l:List q8}{k:Nat}(hk:k<l.length):valsQ s (l.take (k+1))=valsQ s (l.take k)++[(ix l (k:Int)).Start,(ix l (k:Int)).Count]:=by
 unfold valsQ;rw [q803 hk];rfl
theorem q162(s:Int)(l:List q8):(valsQ s l).length=2*l.length+2:=by unfold valsQ;rw [List.length_cons,List.length_cons,q235]
def reqQ(s k:Int)(l:List q8):q12:=⟨13,0,0,k,0,0,valsQ s l,[]⟩
theorem q530{t:q17}{Φ:q17→Prop}(hl:t.Levels.length≤1000)(hw:∀ k:Nat,k<t.Levels.length→(ix t.Levels (k:Int)).length≤1000)(hΦ:Φ t):Z101 t Φ:=by
 refine⟨by omega,iL (by rw [Int.toNat_natCast];omega) (by omega),LoopW.upT t.Levels.length (fun k=>((k:Int),t.Levels.take k)) rfl (fun k rec hk hr=>⟨fun _=>⟨iX (by omega) (by omega),q182 (by have:=hw k hk;omega) ⟨iL (by rw [q20,List.length_take];omega) (by omega),iI (by omega) (by omega),hr _ (pairE rfl (q63 hk).symm)⟩⟩,fun q=>absurd (show(k:Int)<(t.Levels.length:Int) by omega) q⟩) fun rec=>⟨fun q=>absurd (show(t.Levels.length:Int)<(t.Levels.length:Int) from q) (by omega),fun _=>?_⟩⟩;rw [q31];exact hΦ
theorem q673{w:q18}{Φ:q12→Prop}(hl:w.Pending.length≤1000)(h1:w.Tree.Leaf=1)(hΦ:Φ (reqQ w.Tree.Size w.Level w.Pending)):Z103 ⟨⟨w⟩⟩ Φ:=by
 refine LoopW.upT w.Pending.length (fun k=>((k:Int),valsQ w.Tree.Size (w.Pending.take k))) (pairE rfl ?_) (fun k rec hk hr=>⟨fun _=>⟨iX (by omega) (by show(k:Int)<(w.Pending.length:Int);omega),iL ?_ (by omega),iI (by omega) (by omega),hr _ (pairE rfl (q125 hk).symm)⟩,fun q=>absurd (show(k:Int)<(w.Pending.length:Int) by omega) q⟩) fun rec=>⟨fun q=>absurd (show(w.Pending.length:Int)<(w.Pending.length:Int) from q) (by omega),fun _=>?_⟩
 ·show [w.Tree.Size,w.Tree.Leaf]=_
  rw [h1,List.take_zero];rfl
 ·show(valsQ w.Tree.Size (w.Pending.take k)++[(ix w.Pending (k:Int)).Start,(ix w.Pending (k:Int)).Count]).length≤1000000
  rw [← q125 hk,q162,List.length_take];omega
 ·rw [q31];exact hΦ
theorem q804{l:List q8}{s:Int}(hl:l.length≤1000):q54 (sub (valsQ s l) 2 ((valsQ s l).length:Int)) 2 (l.map fun e=>([e.Start,e.Count],())):=by
 have e0:sub (valsQ s l) 2 ((valsQ s l).length:Int)=flqX l:=by
  unfold sub;rw [q162];show(flqX l).take _=_;exact List.take_of_length_le (by rw [q235];omega)
 rw [e0];have hfl:=q235 l
 have hd:∀ k:Nat,k<l.length→(flqX l).drop (2*k)=(ix l (k:Int)).Start::(ix l (k:Int)).Count::flqX (l.drop (k+1)):=fun k hk=>by
  have e1:flqX l=flqX (l.take k)++flqX (l.drop k):=by unfold flqX;rw [← List.flatMap_append,List.take_append_drop]
  rw [e1,List.drop_append_of_le_length (by rw [q235,List.length_take];omega),List.drop_of_length_le (by rw [q235,List.length_take];omega),List.nil_append,List.drop_eq_getElem_cons hk,q30 hk];unfold flqX;rw [List.flatMap_cons];rfl
 refine LoopW.upT l.length (fun k=>((l.drop k).map fun e=>([e.Start,e.Count],()),((2*k:Nat):Int))) (by rw [List.drop_zero];rfl) (fun k rec hk hr=>?_) fun rec=>?_
 ·have e1:sub (flqX l) ((2*k:Nat):Int) ((flqX l).length:Int)=(flqX l).drop (2*k):=by
   unfold sub;rw [Int.toNat_natCast];exact List.take_of_length_le (by rw [List.length_drop];omega)
  have e2:(if((sub (flqX l) ((2*k:Nat):Int) ((flqX l).length:Int)).length:Int)<2 then((sub (flqX l) ((2*k:Nat):Int) ((flqX l).length:Int)).length:Int) else 2)=2:=by
   rw [e1,List.length_drop];exact if_neg (by omega)
  show((((2*k:Nat):Int)<((flqX l).length:Int)→_)∧_);refine⟨fun _=>?_,fun q=>absurd (show((2*k:Nat):Int)<((flqX l).length:Int) by omega) q⟩;rw [e2];refine⟨iS (by omega) (by omega) (by omega),iI (by omega) (by omega),iI (by omega) (by omega),iS (by omega) (by omega) (by omega),iS (by omega) (by omega) (by omega), ?_⟩;rw [List.drop_eq_getElem_cons hk,List.map_cons];refine⟨pairE ?_ rfl,⟨iI (by omega) (by omega),hr _ (pairE rfl (by omega))⟩,trivial⟩;unfold sub;rw [Int.toNat_natCast,show(((2*k:Nat):Int)+2-((2*k:Nat):Int)).toNat=2 by omega,hd k hk,q30 hk];rfl
 ·refine⟨fun q=>absurd (show((2*l.length:Nat):Int)<((flqX l).length:Int) from q) (by omega),fun _=>?_⟩
  rw [List.drop_length];rfl
def bodyT(b:List (BitVec 64))(L:List Nat)(t:Nat):List (BitVec 8):=(L.take t).flatMap fun x:Nat=>bytW (ix b (x:Int))
theorem q424{b:List (BitVec 64)}{L:List Nat}{t x:Nat}(h:L[t]? = some x):bodyT b L (t+1)=bodyT b L t++bytW (ix b (x:Int)):=by
 unfold bodyT;rw [List.take_add_one,h,List.flatMap_append];simp
theorem q163{b:List (BitVec 64)}{L:List Nat}:∀ {t:Nat},t≤L.length→(bodyT b L t).length=8*t
 | 0,_=>rfl
 | t+1,h=>by
  rw [q424 (List.getElem?_eq_getElem h),List.length_append,q163 (Nat.le_of_succ_le h)];show 8*t+8=_;omega
theorem q574{l:List Int}{Φ:Bool→Prop}(hl:l.length≤1000000)(hΦ:Φ true):Z121 l l Φ:=
 ⟨fun q=>absurd rfl q,fun _=>LoopW.upT l.length (fun k=>(k:Int)) rfl (fun k rec hk hr=>⟨fun _=>⟨iX (by omega) (by omega),iX (by omega) (by omega),fun q=>absurd rfl q,fun _=>⟨iI (by omega) (by omega),hr _ rfl⟩⟩,fun q=>absurd (show(k:Int)<(l.length:Int) by omega) q⟩) fun rec=>⟨fun q=>absurd (show(l.length:Int)<(l.length:Int) from q) (by omega),fun _=>hΦ⟩⟩
def ansQ(s k:Int)(l:List q8)(body:List (BitVec 8)):q12:=⟨14,0,0,k,0,0,valsQ s l,body⟩
theorem q383{n H k:Nat}{l:List (BitVec 64)}{p:Nat→Bool}{Φ:q12×Int→Prop}(h:Hg n H)(hl:l.length=n)(hk:k≤H)(hΦ:Φ (ansQ (n:Int) (k:Int) (runX (sizK n k) p) (bodyT (lev l k) (runL (sizK n k) p) (runL (sizK n k) p).length),0)) :
  Z116 ⟨(n:Int),1,lvs l (H+1)⟩ (reqQ (n:Int) (k:Int) (runX (sizK n k) p)) Φ:=by
 have hle:=h.hle;have hn:=h.le;have hs:=q89 h.pos k;have hrl:=(q33 p (sizK n k)).len;have hlv:((lvs l (H+1)).length:Int)=(H:Int)+1:=by rw [q64];omega
 have hik:ix (lvs l (H+1)) (k:Int)=lev l k:=q117 (by omega);have hkl:(lev l k).length=sizK n k:=by rw [q77,hl]
 have hvl:=q162 (n:Int) (runX (sizK n k) p);refine q234 h hl ⟨fun q=>absurd rfl q,fun _=>⟨fun q=>absurd rfl q,fun _=>⟨fun q=>absurd (show((valsQ (n:Int) (runX (sizK n k) p)).length:Int)<2 from q) (by omega),fun _=>⟨⟨by omega,by decide⟩, ?_⟩⟩⟩⟩;rw [show decide (((reqQ (n:Int) (k:Int) (runX (sizK n k) p)).Values.length:Int) % 2=1)=false from decide_eq_false (show ¬((valsQ (n:Int) (runX (sizK n k) p)).length:Int) % 2=1 by omega)];refine⟨fun q=>(by cases q),fun _=>⟨iX (by omega) (by show(0:Int)<((valsQ (n:Int) (runX (sizK n k) p)).length:Int);omega),fun q=>absurd rfl q,fun _=>⟨iX (by omega) (by show(1:Int)<((valsQ (n:Int) (runX (sizK n k) p)).length:Int);omega), ?_⟩⟩⟩;rw [show decide (ix (reqQ (n:Int) (k:Int) (runX (sizK n k) p)).Values 1≠(⟨(n:Int),1,lvs l (H+1)⟩:q17).Leaf)=false from decide_eq_false fun q=>q rfl];refine⟨fun q=>(by cases q),fun _=>⟨fun q=>absurd (show(k:Int)<0 from q) (by omega),fun _=>?_⟩⟩;rw [show decide (((⟨(n:Int),1,lvs l (H+1)⟩:q17).Levels.length:Int)≤(reqQ (n:Int) (k:Int) (runX (sizK n k) p)).Number)=false from decide_eq_false (show ¬((lvs l (H+1)).length:Int)≤(k:Int) by omega)]
 refine⟨fun q=>(by cases q),fun _=>⟨iS (by omega) (by show(2:Int)≤((valsQ (n:Int) (runX (sizK n k) p)).length:Int);omega) (by omega),fun q=>absurd q (by omega),fun _=>⟨(runX (sizK n k) p).map fun e:q8=>([e.Start,e.Count],()),q804 (l:=runX (sizK n k) p) (s:=(n:Int)) (by omega), ?_⟩⟩⟩;refine LoopW.upT (runX (sizK n k) p).length (fun j=>(((runX (sizK n k) p).drop j).map fun e:q8=>([e.Start,e.Count],()),(runX (sizK n k) p).take j)) (by rw [List.drop_zero];rfl) (fun j rec hj hr=>?_) fun rec=>?_
 ·rw [List.drop_eq_getElem_cons hj,List.map_cons]
  refine⟨iX (by omega) (by show(0:Int)<2;omega),iX (by omega) (by show(1:Int)<2;omega),iL (by rw [q20,List.length_take];omega) (by omega),hr _ (pairE rfl ?_)⟩;rw [q63 hj,q30 hj];rfl
 ·rw [List.drop_length,q31]
  show inX (k:Int) (lvs l (H+1)).length∧Z108 (runX (sizK n k) p) ((ix (lvs l (H+1)) (k:Int)).length:Int) _;rw [hik,hkl];refine⟨iX (by omega) (by omega),q190 (by omega) ⟨fun q=>absurd rfl q,fun _=>⟨(valsQ (n:Int) (runX (sizK n k) p),()),q88 (by show(valsQ _ _).length≤_;omega) rfl, ?_⟩⟩⟩;have hrL:=q278 (sizK n k) p;refine q802 (n:=sizK n k) (p:=p) (G:=fun a rec=>Z110 _ _ _ a rec _) (fun t=>bodyT (lev l k) (runL (sizK n k) p) t) (fun j s rec hj hL=>⟨fun _=>⟨iX (by omega) (by omega),hL⟩,fun q=>absurd (show(j:Int)<((runX (sizK n k) p).length:Int) by omega) q⟩) (fun j i t x rec1 rec2 hj ht hx hxn _ hst hi hr2=>?_) (fun j t rec1 rec2 hj hr=>⟨fun q=>absurd q (by omega),fun _=>⟨iI (by omega) (by omega),hr⟩⟩) (fun rec=>⟨fun q=>absurd q (by omega),fun _=>hΦ⟩) rfl;refine⟨fun _=>?_,fun q=>absurd hi q⟩;show inI ((ix (runX (sizK n k) p) (j:Int)).Start+(i:Int))∧inX ((ix (runX (sizK n k) p) (j:Int)).Start+(i:Int)) (ix (lvs l (H+1)) (k:Int)).length∧_;rw [hst];refine⟨iI (by omega) (by omega),iX (by omega) (by rw [hik];omega),(bytW (ix (lev l k) (x:Int)),()), ?_,iL ?_ (by omega),iI (by omega) (by have:=(q33 p (sizK n k)).low _ (q61 (xs:=runX (sizK n k) p) (i:=(j:Int)) (iX (by omega) (by omega)));omega), ?_⟩
  ·show q29 (ix (ix (lvs l (H+1)) (k:Int)) (x:Int)) _
   rw [hik];exact q917 rfl
  ·rw [List.length_append,q163 (by omega)];show 8*t+8≤_;omega
  ·rw [q424 hx] at hr2;exact hr2
def dK(la lb:List (BitVec 64))(k i:Nat):Bool:=decide (ix (lev lb k) (i:Int)≠ix (lev la k) (i:Int))
def pend(la lb:List (BitVec 64))(H:Nat):Nat→Nat→Bool
 | 0,_=>true
 | d+1,i=>pend la lb H d (i / 2)&&dK la lb (H-d) (i / 2)
def found(la lb:List (BitVec 64))(H k d:Nat)(i:Nat):Bool:=pend la lb H d i&&dK la lb k i
def walkD(n:Nat)(la lb:List (BitVec 64))(H k d:Nat)(s:Int):q18:=⟨⟨(n:Int),1,lvs la (H+1)⟩,runX (sizK n k) (pend la lb H d),(k:Int),[],s,false⟩
theorem q648{n:Nat}{p:Nat→Bool}(h:runL n p=[]):runX n p=[]:=by
 unfold runX;rw [show(List.range n).filter p=[] from h];rfl
theorem q471{a b:Nat}{p:Nat→Bool}(hab:a≤b)(h:∀ i,a≤i→i<b→p i=false):runX b p=runX a p:=by
 refine RunX.eq (q33 p b).can fun x=>?_;rw [(q33 p b).mem];refine⟨fun⟨i,h1,h2,h3⟩=>⟨i, ?_,h2,h3⟩,fun⟨i,h1,h2,h3⟩=>⟨i,by omega,h2,h3⟩⟩;rcases Nat.lt_or_ge i a with h4 | h4
 ·exact h4
 ·rw [h i h4 h1] at h2;cases h2
theorem q875{n i:Nat}{p:Nat→Bool}(hi:i<n)(h:p i=true):0<(runX n p).length:=by
 obtain⟨e,he,_⟩:=((q33 p n).mem (i:Int)).2 ⟨i,hi,h,rfl⟩;exact List.length_pos_of_mem he
theorem q674{n H k d:Nat}{la lb:List (BitVec 64)}{s:Int}{Φ:Int→Prop}(h:Hg n H)(hl:la.length=n)(hk:k≤H)(h0:0≤s)(h1:s≤1000)(hp:0<(runX (sizK n k) (pend la lb H d)).length)(hΦ:Φ 0):Z119 (walkD n la lb H k d s) Φ:=by
 have hn:=h.le;have hs:=q89 h.pos k;have hlv:((lvs la (H+1)).length:Int)=(H:Int)+1:=by rw [q64];omega
 refine q234 h hl ⟨fun q=>absurd rfl q,fun _=>⟨fun q=>absurd (show(k:Int)<0 from q) (by omega),fun _=>⟨fun q=>absurd (show((lvs la (H+1)).length:Int)≤(k:Int) from q) (by omega),fun _=>⟨fun q=>(by cases q),fun _=>⟨fun q=>absurd (show s<0 from q) (by omega),fun _=>⟨fun q=>absurd (show 8192<s from q) (by omega),fun _=>?_⟩⟩⟩⟩⟩⟩;refine⟨fun q=>(by cases q),fun _=>⟨fun _=>⟨fun _=>⟨iX (show 0≤(k:Int) by omega) (show(k:Int)<((lvs la (H+1)).length:Int) by omega),(0,()), ?_,⟨fun q=>absurd rfl q,fun _=>hΦ⟩⟩,fun q=>absurd rfl q⟩,fun q=>absurd (show(0:Int)<((runX (sizK n k) (pend la lb H d)).length:Int) by omega) q⟩⟩;show Z108 (runX (sizK n k) (pend la lb H d)) ((ix (lvs la (H+1)) (k:Int)).length:Int) _;rw [q117 (by omega),q77,hl];exact q190 (by omega) rfl
theorem q805{a b:List (BitVec 8)}{Φ:Bool→Prop}(hl:a.length≤1000000)(he:a.length=b.length)(hΦ:Φ (decide (a=b))):Z147 a b Φ:=by
 refine⟨fun q=>absurd (by rw [he]) q,fun _=>?_⟩;refine LoopW.upI a.length (fun k=>(k:Int)) (fun k=>∀ j,j<k→ix a (j:Int)=ix b (j:Int)) rfl (fun j hj=>absurd hj (Nat.not_lt_zero j)) (fun k rec hk hI hr=>⟨fun _=>⟨iX (by omega) (by omega),iX (by omega) (by omega),fun q=>?_,fun q=>⟨iI (by omega) (by omega),hr (fun j hj=>?_) _ rfl⟩⟩,fun q=>absurd (show(k:Int)<(a.length:Int) by omega) q⟩) fun rec hI=>⟨fun q=>absurd (show(a.length:Int)<(a.length:Int) from q) (by omega),fun _=>?_⟩
 ·rw [decide_eq_false fun e:a=b=>q (by rw [e])] at hΦ;exact hΦ
 ·rcases Nat.lt_or_ge j k with h2 | h2
  ·exact hI j h2
  ·obtain rfl:j=k:=by omega
   exact Classical.not_not.1 q
 ·rw [decide_eq_true (q308 he fun i hi=>hI i hi)] at hΦ;exact hΦ
theorem q675{b:List (BitVec 64)}{L:List Nat}{t x:Nat}(hx:L[t]? = some x):(bodyT b L L.length).drop (8*t)=bytW (ix b (x:Int))++(bodyT b L L.length).drop (8*(t+1)):=by
 have ht:=(List.getElem?_eq_some_iff.1 hx).1
 have e:∀ m,bodyT b L L.length=bodyT b L m++(L.drop m).flatMap fun x:Nat=>bytW (ix b (x:Int)):=fun m=>by
  unfold bodyT;rw [q31,← List.flatMap_append,List.take_append_drop]
 have dr:∀ m,m≤L.length→(bodyT b L L.length).drop (8*m)=(L.drop m).flatMap fun x:Nat=>bytW (ix b (x:Int)):=fun m hm=>by
  rw [e m,List.drop_append_of_le_length (by rw [q163 hm];exact Nat.le_refl _),List.drop_of_length_le (by rw [q163 hm];exact Nat.le_refl _),List.nil_append]
 rw [dr t (by omega),dr (t+1) (by omega),List.drop_eq_getElem_cons ht,List.flatMap_cons];rw [List.getElem?_eq_getElem ht] at hx;rw [Option.some.inj hx]
def cstL(l:List Nat):List Int:=l.map fun i:Nat=>(i:Int)
theorem q876{x y:List (BitVec 8)}(h:x.length=8):sub (x++y) 0 8=x:=by
 unfold sub;show((x++y).drop 0).take 8=x;rw [List.drop_zero];exact List.take_left' h
theorem q877{x y:List (BitVec 8)}(h:x.length=8):sub (x++y) 8 ((x++y).length:Int)=y:=by
 unfold sub;show((x++y).drop 8).take _=y;rw [List.drop_left' h];exact List.take_of_length_le (by rw [List.length_append];omega)
section
theorem q918{m c:Nat}{q:Nat→Bool}{R:List q8→Prop}{z:Prop}{ci:Int}(hci:ci=(c:Int))(hz:z)(hm:m≤1000)(hc:c<m)(hq:∀ i,q i=true→i<c)(hR:R (runX m fun i=>q i || decide (i=c))) :
  (0<((runX m q).length:Int)→
   inI (((runX m q).length:Int)-1)∧inX (((runX m q).length:Int)-1) (runX m q).length∧inI (((runX m q).length:Int)-1)∧inX (((runX m q).length:Int)-1) (runX m q).length∧
   inI ((ix (runX m q) (((runX m q).length:Int)-1)).Start+(ix (runX m q) (((runX m q).length:Int)-1)).Count)∧
   ((ix (runX m q) (((runX m q).length:Int)-1)).Start+(ix (runX m q) (((runX m q).length:Int)-1)).Count=ci→
    inI (((runX m q).length:Int)-1)∧inX (((runX m q).length:Int)-1) (runX m q).length∧inI ((ix (runX m q) (((runX m q).length:Int)-1)).Count+1)∧inX (((runX m q).length:Int)-1) (runX m q).length∧z∧
    R (put (runX m q) (((runX m q).length:Int)-1) (q8.mk (ix (runX m q) (((runX m q).length:Int)-1)).Start ((ix (runX m q) (((runX m q).length:Int)-1)).Count+1))))∧
   (¬((ix (runX m q) (((runX m q).length:Int)-1)).Start+(ix (runX m q) (((runX m q).length:Int)-1)).Count=ci)→
    lenOk (runX m q++[q8.mk ci 1]).length 16∧z∧R (runX m q++[q8.mk ci 1])))∧
  (¬(0<((runX m q).length:Int))→lenOk (runX m q++[q8.mk ci 1]).length 16∧z∧R (runX m q++[q8.mk ci 1])):=by
 subst hci
 have e1:runX m q=(q95 ((List.range c).filter q)).map toX:=q471 (by omega) fun i h1 _=>by
  cases h2:q i with
  | false=>rfl
  | true=>have:=hq i h2;omega
 have e2:runX m (fun i=>q i || decide (i=c))=(addX (q95 ((List.range c).filter q)) (c:Int)).map toX:=by
  rw [q471 (a:=c+1) (by omega) fun i h1 _=>by
   rw [decide_eq_false (by omega),Bool.or_false];cases h2:q i with
   | false=>rfl
   | true=>have:=hq i h2;omega,q377,if_pos (by rw [decide_eq_true rfl,Bool.or_true])]
  rw [show(List.range c).filter (fun i=>q i || decide (i=c))=(List.range c).filter q from List.filter_congr fun i hi=>by
   have:=List.mem_range.1 hi
   rw [decide_eq_false (by omega),Bool.or_false]]
 have hf:=q33 q c;rw [e2] at hR;rw [e1];unfold runX at hf;generalize q95 ((List.range c).filter q)=es at *
 have hB:exB es (c:Int):=fun e he=>by
  have h1:=hf.low (toX e) (List.mem_map_of_mem he);have h2:=hf.can.pos (toX e) (List.mem_map_of_mem he);simp only [toX] at h1 h2;omega
 have hl:es.length≤c:=by have:=hf.len;rw [List.length_map] at this;exact this
 have hnew:¬q129 es (c:Int)→lenOk (es.map toX++[q8.mk (c:Int) 1]).length 16∧z∧R (es.map toX++[q8.mk (c:Int) 1]):=fun h1=>by
  rw [q336 h1];exact⟨iL (by rw [← q336 h1,q20,List.length_map];omega) (by omega),hz,hR⟩
 refine⟨fun hpos=>?_,fun hneg=>hnew fun q=>hneg (q231.2 q).1⟩;obtain⟨g1,g2,g3⟩:=q637 hB hl (by omega) hpos;refine⟨g1,g2,g1,g2,g3,fun hj=>?_,fun hj=>hnew fun q=>hj (q231.2 q).2⟩;obtain⟨_,_,k3,k4⟩:=q525 hB hl (by omega) (q231.1 ⟨hpos,hj⟩);exact⟨g1,g2,k3,g2,hz,by rw [k4];exact hR⟩
theorem q676{n:Nat}{p:Nat→Bool}{Φ:List q8→Prop}(hn:n≤4096)(hΦ:Φ (runX n p)):Z143 ((runL n p).map fun x:Nat=>(⟨(x:Int),1⟩:q8)) [] Φ:=by
 have hl:=q278 n p;refine q145 ⟨fun e he=>?_⟩ ⟨fun e he=>by cases he⟩ (by rw [List.length_map];omega) (by simp) fun l hc hm _=>?_
 ·obtain⟨x,hx,rfl⟩:=List.mem_map.1 he
  have:=(q146.1 hx).1;exact⟨by show 0≤(x:Int);omega,by show(0:Int)<1;omega,by show(x:Int)+1≤4096;omega⟩
 ·rw [RunX.eq (n:=n) (p:=p) hc fun y=>?_]
  ·exact hΦ
  ·rw [hm y]
   unfold keepF;rw [q642,decide_eq_false (show ¬(0:Int)<0 by omega)];show(decide (0<covE _ y) || false)=true↔_;rw [Bool.or_false,decide_eq_true_iff,q337.2];constructor
   ·rintro⟨e,he,h1,h2⟩
    obtain⟨x,hx,rfl⟩:=List.mem_map.1 he;have h1:(x:Int)≤y:=h1;have h2:y<(x:Int)+1:=h2;have:=q146.1 hx;exact⟨x,this.1,this.2,by omega⟩
   ·rintro⟨x,h1,h2,rfl⟩
    exact⟨⟨(x:Int),1⟩,List.mem_map.2 ⟨x,q146.2 ⟨h1,h2⟩,rfl⟩,Int.le_refl _,by show(x:Int)<(x:Int)+1;omega⟩
theorem q878(n:Nat)(p:Nat→Bool):(runL n p).Pairwise fun a b=>a<b:=List.pairwise_lt_range.filter p
theorem q575(n:Nat)(p q:Nat→Bool):(runL n p).filter q=runL n fun i=>p i&&q i:=by
 unfold runL;rw [List.filter_filter];exact List.filter_congr fun i _=>Bool.and_comm _ _
theorem q279(l:List Nat):(cstL l).length=l.length:=by unfold cstL;rw [List.length_map]
theorem q576{l:List Nat}{j:Nat}(hj:j<l.length):ix (cstL l) (j:Int)=(l[j]:Int):=by
 rw [q30 (by rw [q279];exact hj)];unfold cstL;rw [List.getElem_map]
theorem q649{l:List Nat}{j:Nat}(hj:j<l.length):l.take (j+1)=l.take j++[l[j]]:=by rw [List.take_add_one,List.getElem?_eq_getElem hj];rfl
abbrev treD(n:Nat)(la:List (BitVec 64))(H:Nat):q17:=⟨(n:Int),1,lvs la (H+1)⟩
def gL(la lb:List (BitVec 64))(k:Nat)(L:List Nat)(s:Int)(t:Nat):List (BitVec 8)×Int×List Int:=((bodyT (lev lb k) L L.length).drop (8*t),s+(t:Int),cstL ((L.take t).filter (dK la lb k)))
theorem q879{a b:BitVec 64}{rest:List (BitVec 8)}{Ψ:Bool→Prop}(h:Ψ (decide (b≠a))):Z147 (sub (bytW b++rest) 0 8) (bytW a) fun v=>Ψ (decide (¬(v=true))):=by
 rw [q876 (show(bytW b).length=8 from rfl)];refine q805 (show 8≤1000000 by omega) rfl ?_
 rw [show decide (¬(decide (bytW b=bytW a)=true))=decide (b≠a) from decide_eq_decide.2 (by
  rw [decide_eq_true_iff]
  exact⟨fun q r=>q (by rw [r]),fun q r=>q (q872 r)⟩)]
 exact h
section
variable {n H k d : Nat} {la lb : List (BitVec 64)} {s : Int} {Φ : q18 × List q12 × Int → Prop}
theorem q806{i t x:Nat}{j:Int}{L:List Nat}{rec2:(Y3)→Prop}(h0:0≤s)(h1:s≤900)(hL:L.length≤5)(hx:L[t]? = some x)(hst:(ix (runX (sizK n k) (pend la lb H d)) j).Start+(i:Int)=(x:Int))(hi:(i:Int)≤5)(hr2:rec2 ((i:Int)+1,gL la lb k L s (t+1))) :
  Z149 (walkD n la lb H k d s) j (i:Int) (bytW (ix (lev lb k) (x:Int))++(bodyT (lev lb k) L L.length).drop (8*(t+1))) (s+(t:Int)) (cstL ((L.take t).filter (dK la lb k))) rec2 Φ (dK la lb k x):=by
 have ht:=(List.getElem?_eq_some_iff.1 hx).1
 have hflx:(L.take (t+1)).filter (dK la lb k)=(L.take t).filter (dK la lb k)++(if dK la lb k x=true then [x] else []):=by
  rw [List.take_add_one,hx,List.filter_append]
  congr 1
  show [x].filter _=_;rw [List.filter_cons];rfl
 have hbl:((bodyT (lev lb k) L L.length).drop (8*(t+1))).length≤1000:=by rw [List.length_drop,q163 (Nat.le_refl _)];omega
 unfold gL at hr2;generalize (bodyT (lev lb k) L L.length).drop (8*(t+1))=rest at *;have hbw:∀ y,(bytW y).length=8:=fun _=>rfl
 have J5:Z148 (i:Int) (bytW (ix (lev lb k) (x:Int))++rest) (s+(t:Int)) rec2 Φ (cstL ((L.take (t+1)).filter (dK la lb k))):=by
  refine⟨iS (by omega) (by rw [List.length_append,hbw];omega) (by omega),iI (by omega) (by omega),iI (by omega) (by omega), ?_⟩;rw [q877 (hbw _)];rw [show s+(t:Int)+1=s+((t+1:Nat):Int) by omega];exact hr2
 rw [hflx] at J5
 have hlen:((L.take t).filter (dK la lb k)).length≤5:=by
  have:=List.length_filter_le (dK la lb k) (L.take t);have:(L.take t).length≤L.length:=by rw [List.length_take];omega
  omega
 refine⟨fun q=>?_,fun q=>?_⟩
 ·rw [if_pos q] at J5
  have e:cstL ((L.take t).filter (dK la lb k))++[(ix (runX (sizK n k) (pend la lb H d)) j).Start+(i:Int)]=cstL ((L.take t).filter (dK la lb k)++[x]):=by unfold cstL;rw [List.map_append,hst];rfl
  refine⟨iL (by rw [q20,q279];omega) (by omega), ?_⟩;show Z148 _ _ _ _ _ (cstL ((L.take t).filter (dK la lb k))++[(ix (runX (sizK n k) (pend la lb H d)) j).Start+(i:Int)]);rw [e];exact J5
 ·rw [if_neg q,List.append_nil] at J5
  exact J5
theorem q677(h:Hg n H)(hla:la.length=n)(hk:k≤H){i t x:Nat}{j:Int}{L:List Nat}{rec1 rec2:(Y3)→Prop}(h0:0≤s)(h1:s≤900)(hL:L.length≤5)(hx:L[t]? = some x)(hxn:x<sizK n k)(hst:(ix (runX (sizK n k) (pend la lb H d)) j).Start+(i:Int)=(x:Int))(hi:(i:Int)<(ix (runX (sizK n k) (pend la lb H d)) j).Count)(hi5:(i:Int)≤5)(hr2:rec2 ((i:Int)+1,gL la lb k L s (t+1))) :
  Z150 (walkD n la lb H k d s) (treD n la H) j rec1 Φ ((i:Int),gL la lb k L s t) rec2:=by
 have hn:=h.le;have hs:=q89 h.pos k;have J6:=q806 (n:=n) (H:=H) (d:=d) (Φ:=Φ) h0 h1 hL hx hst hi5 hr2;have hdr:=q675 (b:=lev lb k) hx;have ht:=(List.getElem?_eq_some_iff.1 hx).1;have hik:ix (lvs la (H+1)) (k:Int)=lev la k:=q117 (by omega);have hkI:inX (k:Int) (lvs la (H+1)).length:=iX (by omega) (by rw [q64];omega);have hxI:inX (x:Int) (ix (lvs la (H+1)) (k:Int)).length:=iX (by omega) (by rw [hik,q77,hla];omega);unfold gL;rw [hdr];generalize (bodyT (lev lb k) L L.length).drop (8*(t+1))=rest at *;have hS:inS 0 8 (bytW (ix (lev lb k) (x:Int))++rest).length:=iS (by omega) (by omega) (by rw [List.length_append];show((8+_:Nat):Int) ≥ 8;omega);have hcmp:=q879 (a:=ix (lev la k) (x:Int)) (Ψ:=Z149 (walkD n la lb H k d s) j (i:Int) (bytW (ix (lev lb k) (x:Int))++rest) (s+(t:Int)) (cstL ((L.take t).filter (dK la lb k))) rec2 Φ) (rest:=rest) J6;have hput:∀ (Ψ:List (BitVec 8)→Prop),Ψ (bytW (ix (lev la k) (x:Int)))→q29 (ix (ix (lvs la (H+1)) (k:Int)) (x:Int)) Ψ:=fun Ψ hq=>by rw [hik];exact q917 hq
 refine⟨fun _=>?_,fun q=>absurd hi q⟩;show inI ((ix (runX (sizK n k) (pend la lb H d)) j).Start+(i:Int))∧((inS 0 8 _∧inX (k:Int) (lvs la (H+1)).length∧inX ((ix (runX (sizK n k) (pend la lb H d)) j).Start+(i:Int)) (ix (lvs la (H+1)) (k:Int)).length∧q29 (ix (ix (lvs la (H+1)) (k:Int)) ((ix (runX (sizK n k) (pend la lb H d)) j).Start+(i:Int))) _)∧((inS 0 8 _∧inX (k:Int) (lvs la (H+1)).length∧inX ((ix (runX (sizK n k) (pend la lb H d)) j).Start+(i:Int)) (ix (lvs la (H+1)) (k:Int)).length∧q29 (ix (ix (lvs la (H+1)) (k:Int)) ((ix (runX (sizK n k) (pend la lb H d)) j).Start+(i:Int))) _)∧(inX (k:Int) (lvs la (H+1)).length∧inX ((ix (runX (sizK n k) (pend la lb H d)) j).Start+(i:Int)) (ix (lvs la (H+1)) (k:Int)).length∧(inS 0 8 _∧q29 (ix (ix (lvs la (H+1)) (k:Int)) ((ix (runX (sizK n k) (pend la lb H d)) j).Start+(i:Int))) _)∧q29 (ix (ix (lvs la (H+1)) (k:Int)) ((ix (runX (sizK n k) (pend la lb H d)) j).Start+(i:Int))) _)))
 rw [hst];exact⟨iI (by omega) (by omega),⟨hS,hkI,hxI,hput _ hcmp⟩,⟨hS,hkI,hxI,hput _ hcmp⟩,hkI,hxI,⟨hS,hput _ hcmp⟩,hput _ ⟨hS,hcmp⟩⟩
theorem q678(hn:n≤5){T:q17}(hT1:T.Leaf=1)(hT2:T.Size=(n:Int)){Y:List Nat}{v9:Int}(hY5:Y.length≤5)(hmem:∀ x∈Y,x<n)(hg:Z143 (Y.map fun x:Nat=>(⟨(x:Int),1⟩:q8)) [] fun v=>Φ (⟨T,[],0,v,v9,true⟩,[],0)):LoopW (Z151 T v9 (cstL Y) Φ) (0,[]):=by
 have hY:=q279 Y;refine LoopW.upT Y.length (fun j=>((j:Int),(Y.take j).map fun x:Nat=>(⟨(x:Int),1⟩:q8))) rfl (fun j rec2 hj hr=>⟨fun _=>?_,fun q=>absurd (show(j:Int)<((cstL Y).length:Int) by omega) q⟩) fun rec2=>⟨fun q=>absurd (show(Y.length:Int)<((cstL Y).length:Int) from q) (by omega),fun _=>?_⟩
 ·have hy2:=q576 hj
  have hy3:=hmem _ (List.getElem_mem hj);have htk:=q649 hj;generalize Y[j]=y at *;rw [hT1,hT2,hy2,Int.mul_one,if_neg (show ¬(n:Int)-(y:Int)<1 by omega)];refine⟨iX (by omega) (by omega),iI (by omega) (by omega),iI (by omega) (by omega),iL (by rw [q20,List.length_map,List.length_take];omega) (by omega),iI (by omega) (by omega),hr _ (pairE rfl ?_)⟩;rw [htk,List.map_append];rfl
 ·rw [q31]
  exact hg
theorem q807(h:Hg n H)(hla:la.length=n){k':Nat}(hk:k'+1≤H){Y:List Nat}(hasc:Y.Pairwise fun a b=>a<b){j:Nat}(hj:j<Y.length)(hy:Y[j]<sizK n (k'+1)){rec2:(Int×List q8)→Prop}(hj5:j≤10)
  (hr:rec2 ((j:Int)+1,runX (sizK n k') fun i=>decide (i / 2∈Y.take (j+1)))) :
  LoopW (Z152 (walkD n la lb H (k'+1) d s) (treD n la H) (cstL Y) (j:Int) rec2 Φ) (0,runX (sizK n k') fun i=>decide (i / 2∈Y.take j)):=by
 have hn:=h.le;have hm:=q89 h.pos k';have hkk:sizK n (k'+1)=(sizK n k'+1) / 2:=rfl;have ek:((k'+1:Nat):Int)-1=(k':Int):=by omega
 have hik':ix (lvs la (H+1)) (k':Int)=lev la k':=q117 (by omega);have hkl':(lev la k').length=sizK n k':=by rw [q77,hla]
 have hlv:((lvs la (H+1)).length:Int)=(H:Int)+1:=by rw [q64];omega
 have hy2:=q576 hj;have htk:=q649 hj
 have hbelow:∀ i,decide (i / 2∈Y.take j)=true→i<2*Y[j]:=fun i q=>by
  have q:=of_decide_eq_true q;obtain⟨m,hm1,hm2⟩:=List.getElem_of_mem q;rw [List.length_take] at hm1;rw [List.getElem_take] at hm2;have:=List.pairwise_iff_getElem.1 hasc m j (by omega) hj (by omega);omega
 generalize Y[j]=y at *
 have enext:∀ i,decide (i / 2∈Y.take (j+1))=((decide (i / 2∈Y.take j) || decide (i=2*y)) || decide (i=2*y+1)):=fun i=>by
  rw [htk,Bool.eq_iff_iff];simp only [List.mem_append,List.mem_singleton,Bool.or_eq_true,decide_eq_true_eq];rw [or_assoc];exact or_congr Iff.rfl (by omega)
 have hkI:inX (((k'+1:Nat):Int)-1) (lvs la (H+1)).length:=iX (by omega) (by omega);have hlen:((ix (lvs la (H+1)) (((k'+1:Nat):Int)-1)).length:Int)=(sizK n k':Int):=by rw [ek,hik',hkl']
 have hlast:runX (sizK n k') (fun i=>(decide (i / 2∈Y.take j) || decide (i=2*y)) || decide (i=2*y+1))=runX (sizK n k') fun i=>decide (i / 2∈Y.take (j+1)):=q124 fun i _=>(enext i).symm;generalize hF:Z152 (walkD n la lb H (k'+1) d s) (treD n la H) (cstL Y) (j:Int) rec2 Φ=F
 have last:LoopN F 1 (0+1+1,runX (sizK n k') fun i=>(decide (i / 2∈Y.take j) || decide (i=2*y)) || decide (i=2*y+1)):=by
  rw [hlast,← hF];exact⟨fun q=>absurd (show(0:Int)+1+1<2 from q) (by omega),fun _=>⟨iI (by omega) (by omega),hr⟩⟩
 have second:LoopN F 2 (0+1,runX (sizK n k') fun i=>decide (i / 2∈Y.take j) || decide (i=2*y)):=by
  by_cases q1:2*y+1<sizK n k'
  ·have hadd:=q918 (m:=sizK n k') (c:=2*y+1) (q:=fun i=>decide (i / 2∈Y.take j) || decide (i=2*y)) (R:=fun l=>LoopN F 1 (0+1+1,l)) (z:=inI (0+1+1)) (ci:=2*ix (cstL Y) (j:Int)+1) (by rw [hy2];omega) (iI (by omega) (by omega)) (by omega) q1 (fun i hi=>by
    rcases(Bool.or_eq_true _ _).mp hi with q2 | q2
    ·have:=hbelow i q2;omega
    ·have:=of_decide_eq_true q2;omega) last
   rw [← hF] at hadd ⊢;exact⟨fun _=>⟨iX (by omega) (by show(0:Int)+1<2;omega),hkI,fun _=>hadd,fun q=>absurd (show 2*ix (cstL Y) (j:Int)+1<((ix (lvs la (H+1)) (((k'+1:Nat):Int)-1)).length:Int) by rw [hlen,hy2];omega) q⟩,fun q=>absurd (show(0:Int)+1<2 by omega) q⟩
  ·have e:runX (sizK n k') (fun i=>decide (i / 2∈Y.take j) || decide (i=2*y))=runX (sizK n k') fun i=>(decide (i / 2∈Y.take j) || decide (i=2*y)) || decide (i=2*y+1):=q124 fun i hi=>by rw [decide_eq_false (show ¬i=2*y+1 by omega),Bool.or_false]
   rw [e];generalize runX (sizK n k') (fun i=>(decide (i / 2∈Y.take j) || decide (i=2*y)) || decide (i=2*y+1))=l at *;rw [← hF] at last ⊢;exact⟨fun _=>⟨iX (by omega) (by show(0:Int)+1<2;omega),hkI,fun q=>absurd (show 2*ix (cstL Y) (j:Int)+1<((ix (lvs la (H+1)) (((k'+1:Nat):Int)-1)).length:Int) from q) (by rw [hlen,hy2];omega),fun _=>⟨iI (by omega) (by omega),last⟩⟩,fun q=>absurd (show(0:Int)+1<2 by omega) q⟩
 refine⟨3, ?_⟩;have hadd:=q918 (m:=sizK n k') (c:=2*y) (q:=fun i=>decide (i / 2∈Y.take j)) (R:=fun l=>LoopN F 2 (0+1,l)) (z:=inI (0+1)) (ci:=2*ix (cstL Y) (j:Int)) (by rw [hy2];omega) (iI (by omega) (by omega)) (by omega) (by omega) hbelow second;rw [← hF] at hadd ⊢;exact⟨fun _=>⟨iX (by omega) (by show(0:Int)<2;omega),hkI,fun _=>hadd,fun q=>absurd (show 2*ix (cstL Y) (j:Int)<((ix (lvs la (H+1)) (((k'+1:Nat):Int)-1)).length:Int) by rw [hlen,hy2];omega) q⟩,fun q=>absurd (show(0:Int)<2 by omega) q⟩
end
end
section
section
variable {n H k d : Nat} {la lb : List (BitVec 64)} {s : Int} {Φ : q18 × List q12 × Int → Prop}
theorem q679(h:Hg n H)(hla:la.length=n){k':Nat}(hk:k'+1+d=H){v9:Int}(hg:Φ (walkD n la lb H k' (d+1) v9,[reqQ (n:Int) (k':Int) (runX (sizK n k') (pend la lb H (d+1)))],0)) :
  LoopW (Z154 (walkD n la lb H (k'+1) d s) (treD n la H) v9 (cstL (runL (sizK n (k'+1)) (found la lb H (k'+1) d))) Φ) (0,[]):=by
 have hn:=h.le;have hm:=q89 h.pos k';have hs:=q89 h.pos (k'+1);have hkk:sizK n (k'+1)=(sizK n k'+1) / 2:=rfl;have ek:((k'+1:Nat):Int)-1=(k':Int):=by omega
 have hasc:=q878 (sizK n (k'+1)) (found la lb H (k'+1) d);have hmem:∀ x,x∈runL (sizK n (k'+1)) (found la lb H (k'+1) d)↔x<sizK n (k'+1)∧found la lb H (k'+1) d x=true:=fun x=>q146;have hfl:=q278 (sizK n (k'+1)) (found la lb H (k'+1) d);generalize runL (sizK n (k'+1)) (found la lb H (k'+1) d)=Y at *;have hY:=q279 Y
 have hQ:runX (sizK n k') (fun i=>decide (i / 2∈Y.take Y.length))=runX (sizK n k') (pend la lb H (d+1)):=q124 fun i hi=>by
  rw [q31];show _=(pend la lb H d (i / 2)&&dK la lb (H-d) (i / 2))
  rw [show H-d=k'+1 by omega,Bool.eq_iff_iff,decide_eq_true_iff,hmem];exact⟨fun q=>q.2,fun q=>⟨by omega,q⟩⟩
 refine LoopW.upT Y.length (fun j=>((j:Int),runX (sizK n k') fun i=>decide (i / 2∈Y.take j))) (pairE rfl ?_) (fun j rec2 hj hr=>⟨fun _=>?_,fun q=>absurd (show(j:Int)<((cstL Y).length:Int) by omega) q⟩) fun rec2=>⟨fun q=>absurd (show(Y.length:Int)<((cstL Y).length:Int) from q) (by omega),fun _=>?_⟩
 ·refine(q648 ?_).symm
  unfold runL;refine List.filter_eq_nil_iff.2 fun i _=>?_;rw [List.take_zero];simp
 ·have hy2:=q576 hj
  have hy3:=((hmem _).1 (List.getElem_mem hj)).1;have hL:=q807 (d:=d) (la:=la) (lb:=lb) (s:=s) (Φ:=Φ) h hla (by omega) hasc hj hy3 (rec2:=rec2) (by omega) (hr _ rfl);have hi2:inI (2*ix (cstL Y) (j:Int)):=by rw [hy2];exact iI (by omega) (by omega)
  have hi3:inI (2*ix (cstL Y) (j:Int)+1):=by rw [hy2];exact iI (by omega) (by omega)
  exact⟨iX (by omega) (by omega),hi2,hi2,hi3,hL⟩
 ·rw [hQ]
  have hP':=(q33 (pend la lb H (d+1)) (sizK n k')).len
  have hg':Φ (⟨treD n la H,runX (sizK n k') (pend la lb H (d+1)),((k'+1:Nat):Int)-1,[],v9,false⟩,[⟨13,0,0,((k'+1:Nat):Int)-1,0,0,valsQ (n:Int) (runX (sizK n k') (pend la lb H (d+1))),[]⟩],0):=by
   rw [ek];exact hg
  generalize runX (sizK n k') (pend la lb H (d+1))=P' at *;refine LoopW.upT P'.length (fun j=>((j:Int),valsQ (n:Int) (P'.take j))) rfl (fun j rec3 hj hr=>⟨fun _=>⟨iX (by omega) (by omega),iL ?_ (by omega),iI (by omega) (by omega),hr _ (pairE rfl (q125 hj).symm)⟩,fun q=>absurd (show(j:Int)<(P'.length:Int) by omega) q⟩) fun rec3=>⟨fun q=>absurd (show(P'.length:Int)<(P'.length:Int) from q) (by omega),fun _=>?_⟩
  ·rw [← q125 hj,q162,List.length_take];omega
  ·rw [q31]
   exact⟨hg',hg'⟩
theorem q472(h:Hg n H)(hla:la.length=n)(hk:k+d=H)(h0:0≤s)(h1:s≤900)(hp:0<(runX (sizK n k) (pend la lb H d)).length)
  (g0:k=0→∀ s',s≤s'→s'≤s+5→Φ (⟨treD n la H,[],0,runX n (found la lb H 0 d),s',true⟩,[],0))
  (g1:0<k→runL (sizK n k) (found la lb H k d)=[]→∀ s',s≤s'→s'≤s+5→Φ (⟨treD n la H,[],0,[],s',true⟩,[],0))
  (g2:∀ k',k=k'+1→runL (sizK n k) (found la lb H k d)≠[]→∀ s',s≤s'→s'≤s+5→Φ (walkD n la lb H k' (d+1) s',[reqQ (n:Int) (k':Int) (runX (sizK n k') (pend la lb H (d+1)))],0)) :
  Z158 (walkD n la lb H k d s) (ansQ (n:Int) (k:Int) (runX (sizK n k) (pend la lb H d)) (bodyT (lev lb k) (runL (sizK n k) (pend la lb H d)) (runL (sizK n k) (pend la lb H d)).length)) Φ:=by
 have hle:=h.hle;have hn:=h.le;have hs:=q89 h.pos k;have hrl:=(q33 (pend la lb H d) (sizK n k)).len;have hrL:=q278 (sizK n k) (pend la lb H d);have hlv:((lvs la (H+1)).length:Int)=(H:Int)+1:=by rw [q64];omega
 have hlev:∀ j:Nat,j<(lvs la (H+1)).length→(ix (lvs la (H+1)) (j:Int)).length≤1000:=fun j hj=>by
  rw [q64] at hj;rw [q117 hj,q77,hla];have:=(q89 h.pos j).2;omega
 have hcnt:=q874 (n:=sizK n k) (p:=pend la lb H d);have hflt:(runL (sizK n k) (pend la lb H d)).filter (dK la lb k)=runL (sizK n k) (found la lb H k d):=q575 _ _ _;have hfl:=q278 (sizK n k) (found la lb H k d)
 have hkey:LoopW (Z155 (walkD n la lb H k d s) (treD n la H) Φ) (0,(bodyT (lev lb k) (runL (sizK n k) (pend la lb H d)) (runL (sizK n k) (pend la lb H d)).length,s,([]:List Int))):=by
  refine q802 (n:=sizK n k) (p:=pend la lb H d) (G:=fun a rec=>Z150 (walkD n la lb H k d s) (treD n la H) a rec Φ) (gL la lb k (runL (sizK n k) (pend la lb H d)) s) (fun j st rec hj hl=>⟨fun _=>⟨iX (by omega) (by show(j:Int)<((runX (sizK n k) (pend la lb H d)).length:Int);omega),hl⟩,fun q=>absurd (show(j:Int)<((runX (sizK n k) (pend la lb H d)).length:Int) by omega) q⟩) (fun j i t x rec1 rec2 hj ht hx hxn _ hst hi hr2=>?_) (fun j t rec1 rec2 hj hr=>?_) (fun rec=>?_) ?_
  ·have hlow:=(q33 (pend la lb H d) (sizK n k)).low _ (q61 (xs:=runX (sizK n k) (pend la lb H d)) (i:=(j:Int)) (iX (by omega) (by omega)))
   exact q677 h hla (by omega) h0 h1 (by omega) hx hxn hst hi (by omega) hr2
  ·exact⟨fun q=>absurd (show(ix (runX (sizK n k) (pend la lb H d)) (j:Int)).Count<(ix (runX (sizK n k) (pend la lb H d)) (j:Int)).Count from q) (by omega),fun _=>⟨iI (by omega) (by omega),hr⟩⟩
  ·unfold gL
   rw [q31,hflt];refine⟨fun q=>absurd (show((runX (sizK n k) (pend la lb H d)).length:Int)<((runX (sizK n k) (pend la lb H d)).length:Int) from q) (by omega),fun _=>⟨fun hk0=>?_,fun hk0=>⟨fun hy=>?_,fun hy=>?_⟩⟩⟩
   ·have hk0:(k:Int)=0:=hk0
    obtain rfl:k=0:=by omega
    exact q678 hn rfl rfl (by omega) (fun x hx=>(q146.1 hx).1) (q676 (n:=n) (by omega) (g0 rfl _ (by omega) (by omega)))
   ·have hy:((cstL (runL (sizK n k) (found la lb H k d))).length:Int)=0:=hy
    rw [q279] at hy;exact g1 (by have:¬(k:Int)=0:=hk0;omega) (List.eq_nil_of_length_eq_zero (by omega)) _ (by omega) (by omega)
   ·have hk1:0<k:=by have:¬(k:Int)=0:=hk0;omega
    obtain⟨k',rfl⟩:∃ k',k=k'+1:=⟨k-1,by omega⟩
    have hg:=g2 k' rfl (fun q=>hy (by
     show((cstL (runL (sizK n (k'+1)) (found la lb H (k'+1) d))).length:Int)=0
     rw [q];rfl)) (s+((runL (sizK n (k'+1)) (pend la lb H d)).length:Int)) (by omega) (by omega)
    exact⟨iI (by show _≤((k'+1:Nat):Int)-1;omega) (by show((k'+1:Nat):Int)-1≤_;omega),q679 h hla hk hg⟩
  ·unfold gL
   rw [Nat.mul_zero,List.drop_zero];exact pairE rfl (pairE (by omega) rfl)
 refine q674 h hla (by omega) h0 (by omega) hp ⟨fun q=>absurd rfl q,fun _=>q530 (by show(lvs la (H+1)).length≤_;omega) hlev ?_⟩
 refine LoopW.upT (runX (sizK n k) (pend la lb H d)).length (fun j=>((j:Int),valsQ (n:Int) ((runX (sizK n k) (pend la lb H d)).take j))) rfl (fun j rec hj hr=>⟨fun _=>⟨iX (by omega) (by show(j:Int)<((runX (sizK n k) (pend la lb H d)).length:Int);omega),iL ?_ (by omega),iI (by omega) (by omega),hr _ (pairE rfl (q125 hj).symm)⟩,fun q=>absurd (show(j:Int)<((runX (sizK n k) (pend la lb H d)).length:Int) by omega) q⟩) fun rec=>⟨fun q=>absurd (show((runX (sizK n k) (pend la lb H d)).length:Int)<((runX (sizK n k) (pend la lb H d)).length:Int) from q) (by omega),fun _=>?_⟩
 ·show(valsQ (n:Int) ((runX (sizK n k) (pend la lb H d)).take j)++[(ix (runX (sizK n k) (pend la lb H d)) (j:Int)).Start,(ix (runX (sizK n k) (pend la lb H d)) (j:Int)).Count]).length≤1000000
  rw [← q125 hj,q162,List.length_take];omega
 rw [q31]
 have J2:Z156 (walkD n la lb H k d s) (ansQ (n:Int) (k:Int) (runX (sizK n k) (pend la lb H d)) (bodyT (lev lb k) (runL (sizK n k) (pend la lb H d)) (runL (sizK n k) (pend la lb H d)).length)) (treD n la H) Φ false:=by
  refine⟨fun q=>(by cases q),fun _=>⟨(cntX (runX (sizK n k) (pend la lb H d)),()),q379 (by omega) rfl,iI (by show _≤8*cntX _;omega) (by show 8*cntX _≤_;omega),fun q=>absurd ?_ q,fun _=>hkey⟩⟩;show((bodyT (lev lb k) (runL (sizK n k) (pend la lb H d)) (runL (sizK n k) (pend la lb H d)).length).length:Int)=8*cntX _;rw [q163 (Nat.le_refl _)];omega
 exact⟨fun q=>(by cases q),fun _=>⟨fun q=>absurd rfl q,fun _=>⟨fun q=>absurd rfl q,fun _=>q574 (by show(valsQ _ _).length≤_;rw [q162];omega) J2⟩⟩⟩
end
def q650(n H:Nat)(la lb:List (BitVec 64)):Prop:=∀ k:Nat,k<H→∀ i:Nat,i<sizK n k→dK la lb k i=true→dK la lb (k+1) (i / 2)=true
def anc(x:Nat):Nat→Nat
 | 0=>x
 | k+1=>anc x k / 2
theorem q808{n H x:Nat}(hx:x<n):∀ k:Nat,anc x k<sizK n k
 | 0=>hx
 | k+1=>by
  have:=q808 (n:=n) (H:=H) hx k;show anc x k / 2<(sizK n k+1) / 2;omega
theorem q577{n H x:Nat}{la lb:List (BitVec 64)}(hh:q650 n H la lb)(hx:x<n)(h:dK la lb 0 x=true):∀ k:Nat,k≤H→dK la lb k (anc x k)=true
 | 0,_=>h
 | k+1,hk=>hh k hk _ (q808 (H:=H) hx k) (q577 hh hx h k (by omega))
theorem q473{n H x:Nat}{la lb:List (BitVec 64)}(hh:q650 n H la lb)(hx:x<n)(h:dK la lb 0 x=true):∀ d:Nat,d≤H→pend la lb H d (anc x (H-d))=true
 | 0,_=>rfl
 | d+1,hd=>by
  have ih:=q473 hh hx h d (by omega);have e:anc x (H-(d+1)) / 2=anc x (H-d):=by rw [show H-d=(H-(d+1))+1 by omega];rfl
  show(pend la lb H d (anc x (H-(d+1)) / 2)&&dK la lb (H-d) (anc x (H-(d+1)) / 2))=true;rw [e,ih,q577 hh hx h _ (by omega)];rfl
def Finds(n H:Nat)(la lb:List (BitVec 64))(F:List q8):Prop:=q650 n H la lb→F=runX n (dK la lb 0)
theorem q680{n H d:Nat}{la lb:List (BitVec 64)}(hd:d=H):Finds n H la lb (runX n (found la lb H 0 d)):=fun hh=>by
 subst hd;refine q124 fun x hx=>?_;show(pend la lb d d x&&dK la lb 0 x)=dK la lb 0 x;cases h:dK la lb 0 x with
 | false=>rw [Bool.and_false]
 | true=>
  have:=q473 hh hx h d (Nat.le_refl _);rw [Nat.sub_self] at this;rw [show x=anc x 0 from rfl,this];rfl
theorem q681{n H k d:Nat}{la lb:List (BitVec 64)}(hk:k+d=H)(h:runL (sizK n k) (found la lb H k d)=[]):Finds n H la lb []:=fun hh=>by
 refine(q648 ?_).symm;refine List.filter_eq_nil_iff.2 fun x hx=>?_;have hx:=List.mem_range.1 hx;intro hd;have h1:=q473 hh hx hd d (by omega);rw [show H-d=k by omega] at h1
 have:anc x k∈runL (sizK n k) (found la lb H k d):=q146.2 ⟨q808 (H:=H) hx k,by
  show(pend la lb H d (anc x k)&&dK la lb k (anc x k))=true
  rw [h1,q577 hh hx hd k (by omega)];rfl⟩
 rw [h] at this;cases this
theorem q880{n H:Nat}{la lb:List (BitVec 64)}{Φ:List q8×Int×Int→Prop}(h:Hg n H)(hla:la.length=n)(hlb:lb.length=n)(hΦ:∀ F s,Finds n H la lb F→Φ (F,s,0)) :
  ∀ (k d:Nat) (s:Int),k+d=H→0≤s→s≤5*(d:Int)→0<(runX (sizK n k) (pend la lb H d)).length→LoopN (Z160 (treD n lb H) Φ) (k+2) (0,(n:Int),1,lvs la (H+1),runX (sizK n k) (pend la lb H d),(k:Int),[],s,false,[reqQ (n:Int) (k:Int) (runX (sizK n k) (pend la lb H d))]):=by
 have hle:=h.hle
 have last:∀ (m:Nat) F s,Finds n H la lb F→LoopN (Z160 (treD n lb H) Φ) (m+1) (0,(n:Int),1,lvs la (H+1),[],0,F,s,true,[]):=fun m F s hF=>by
  refine⟨fun _=>?_,fun q=>absurd rfl q⟩;rw [show decide ((0:Int)<(([]:List q12).length:Int))=false from rfl];exact⟨fun q=>(by cases q),fun _=>⟨fun q=>absurd rfl q,fun _=>hΦ F s hF⟩⟩
 intro k
 induction k with
 | zero=>
  intro d s hk h0 h1 hp;refine⟨fun _=>?_,fun q=>absurd rfl q⟩;rw [show decide ((0:Int)<(([reqQ (n:Int) ((0:Nat):Int) (runX (sizK n 0) (pend la lb H d))]:List q12).length:Int))=true from rfl];refine⟨fun _=>⟨iX (by omega) (by show(0:Int)<1;omega),(_,0,()),q383 h hlb (Nat.zero_le H) rfl,fun _=>?_,fun q=>absurd rfl q⟩,fun q=>absurd rfl q⟩;exact q472 h hla hk h0 (by omega) hp (fun _ s' _ _=>last 0 _ _ (q680 (by omega))) (fun q=>absurd q (by omega)) fun k' q=>absurd q (by omega)
 | succ k ih=>
  intro d s hk h0 h1 hp;by_cases hy:runL (sizK n (k+1)) (found la lb H (k+1) d)=[]
  ·refine⟨fun _=>?_,fun q=>absurd rfl q⟩
   rw [show decide ((0:Int)<(([reqQ (n:Int) ((k+1:Nat):Int) (runX (sizK n (k+1)) (pend la lb H d))]:List q12).length:Int))=true from rfl];refine⟨fun _=>⟨iX (by omega) (by show(0:Int)<1;omega),(_,0,()),q383 h hlb (by omega) rfl,fun _=>?_,fun q=>absurd rfl q⟩,fun q=>absurd rfl q⟩;exact q472 h hla hk h0 (by omega) hp (fun q=>absurd q (by omega)) (fun _ hq s' _ _=>last (k+1) _ _ (q681 hk hq)) fun k' _ q=>absurd hy q
  ·have hnext:0<(runX (sizK n k) (pend la lb H (d+1))).length:=by
    obtain⟨y,hy1⟩:=List.exists_mem_of_ne_nil _ hy;obtain⟨hy2,hy3⟩:=q146.1 hy1;have hkk:sizK n (k+1)=(sizK n k+1) / 2:=rfl;refine q875 (i:=2*y) (by omega) ?_;show(pend la lb H d (2*y / 2)&&dK la lb (H-d) (2*y / 2))=true;rw [show 2*y / 2=y by omega,show H-d=k+1 by omega];exact hy3
   refine⟨fun _=>?_,fun q=>absurd rfl q⟩;rw [show decide ((0:Int)<(([reqQ (n:Int) ((k+1:Nat):Int) (runX (sizK n (k+1)) (pend la lb H d))]:List q12).length:Int))=true from rfl];refine⟨fun _=>⟨iX (by omega) (by show(0:Int)<1;omega),(_,0,()),q383 h hlb (by omega) rfl,fun _=>?_,fun q=>absurd rfl q⟩,fun q=>absurd rfl q⟩
   exact q472 h hla hk h0 (by omega) hp (fun q=>absurd q (by omega)) (fun _ hq=>absurd hq hy) fun k' q _ s' q1 q2=>by
    obtain rfl:k'=k:=by omega
    exact ih (d+1) s' (by omega) (by omega) (by omega) hnext
end
theorem q881{n H:Nat}{l:List (BitVec 64)}{Φ:q18×List q12×Int→Prop}(h:Hg n H)(hl:l.length=n)(hΦ:Φ (⟨treD n l H,[⟨0,1⟩],(H:Int),[],0,false⟩,[reqQ (n:Int) (H:Int) [⟨0,1⟩]],0)):Z104 (treD n l H) Φ:=by
 have hle:=h.hle;have hn:=h.le;have hlv:((lvs l (H+1)).length:Int)-1=(H:Int):=by rw [q64];omega
 have hlev:∀ j:Nat,j<(lvs l (H+1)).length→(ix (lvs l (H+1)) (j:Int)).length≤1000:=fun j hj=>by
  rw [q64] at hj;rw [q117 hj,q77,hl];have:=(q89 h.pos j).2;omega
 refine q234 h hl ⟨fun q=>absurd rfl q,fun _=>⟨(treD n l H,()),q530 (by show(lvs l (H+1)).length≤_;rw [q64];omega) hlev rfl, ?_⟩⟩;show inI (((lvs l (H+1)).length:Int)-1)∧∃ v3:q12×Unit,Z103 (Ptr.mk (q40.mk (q18.mk (treD n l H) ([(q8.mk 0 1)]:List q8) (((lvs l (H+1)).length:Int)-1) ([]:List q8) 0 false))) (fun z=>(z,())=v3)∧Φ ((q18.mk (treD n l H) ([(q8.mk 0 1)]:List q8) (((lvs l (H+1)).length:Int)-1) ([]:List q8) 0 false),([v3.1]:List q12),0);rw [hlv];exact⟨iI (by omega) (by omega),(reqQ (n:Int) (H:Int) [⟨0,1⟩],()),q673 (by show 1≤1000;omega) rfl rfl,hΦ⟩
theorem Run_ok{n H:Nat}{la lb:List (BitVec 64)}{Φ:List q8×Int×Int→Prop}(h:Hg n H)(hla:la.length=n)(hlb:lb.length=n)(hΦ:∀ F s,Finds n H la lb F→Φ (F,s,0)):q122 (treD n la H) (treD n lb H) Φ:=by
 have h1:runX (sizK n H) (pend la lb H 0)=[⟨0,1⟩]:=by rw [h.one];rfl
 have hr:=q880 h hla hlb hΦ H 0 0 rfl (by omega) (by omega) (by rw [h1];show 0<1;omega);rw [h1] at hr;refine q881 h hla ⟨fun _=>q234 h hlb ?_,fun q=>absurd rfl q⟩;exact⟨fun _=>⟨fun q=>absurd rfl q,fun _=>⟨fun q=>absurd rfl q,fun _=>⟨_,hr⟩⟩⟩,fun q=>absurd rfl q⟩
def belF(la lb:List (BitVec 64))(k i:Nat):Nat→Bool
 | 0=>false
 | t+1=>belF la lb k i t || dK la lb k (2*i+t)
theorem q474{la lb:List (BitVec 64)}{k i:Nat}:∀ {t:Nat},belF la lb k i t=true↔∃ u,u<t∧dK la lb k (2*i+u)=true
 | 0=>⟨fun q=>(by cases q),fun⟨_,q,_⟩=>absurd q (Nat.not_lt_zero _)⟩
 | t+1=>by
  show(belF la lb k i t || dK la lb k (2*i+t))=true↔_;rw [Bool.or_eq_true,q474];constructor
  ·rintro(⟨u,h1,h2⟩ | h)
   ·exact⟨u,by omega,h2⟩
   ·exact⟨t,by omega,h⟩
  ·rintro⟨u,h1,h2⟩
   rcases Nat.lt_or_ge u t with h3 | h3
   ·exact .inl ⟨u,h3,h2⟩
   ·obtain rfl:u=t:=by omega
    exact .inr h2
theorem dK_flip(la lb:List (BitVec 64))(k i:Nat):decide (ix (lev la k) (i:Int)≠ix (lev lb k) (i:Int))=dK la lb k i:=decide_eq_decide.2 ⟨fun q r=>q r.symm,fun q r=>q r.symm⟩
theorem q809{n H:Nat}{la lb:List (BitVec 64)}(h:Hg n H)(hla:la.length=n)(hlb:lb.length=n){k i:Nat}(hk:k<H)(hi:i<sizK n (k+1)){rec4:Int→Prop}{Φ:Bool→Prop}
  (hbad:(∃ j,j<sizK n k∧j / 2=i∧dK la lb k j=true∧dK la lb (k+1) i=false)→Φ true)(hgood:(∀ j,j<sizK n k→j / 2=i→dK la lb k j=true→dK la lb (k+1) i=true)→rec4 ((i:Int)+1)) :
  LoopW (Z164 (treD n la H) (treD n lb H) ((k+1:Nat):Int) (i:Int) rec4 Φ) (false,2*(i:Int)):=by
 have hn:=h.le;have hle:=h.hle;have hs:=q89 h.pos k;have hkk:sizK n (k+1)=(sizK n k+1) / 2:=rfl;have ek:((k+1:Nat):Int)-1=(k:Int):=by omega
 have la0:ix (lvs la (H+1)) (((k+1:Nat):Int)-1)=lev la k:=by rw [ek];exact q117 (by omega)
 have lb0:ix (lvs lb (H+1)) (((k+1:Nat):Int)-1)=lev lb k:=by rw [ek];exact q117 (by omega)
 have la1:ix (lvs la (H+1)) ((k+1:Nat):Int)=lev la (k+1):=q117 (by omega);have lb1:ix (lvs lb (H+1)) ((k+1:Nat):Int)=lev lb (k+1):=q117 (by omega);have na0:(lev la k).length=sizK n k:=by rw [q77,hla]
 have nb0:(lev lb k).length=sizK n k:=by rw [q77,hlb]
 have na1:(lev la (k+1)).length=sizK n (k+1):=by rw [q77,hla]
 have nb1:(lev lb (k+1)).length=sizK n (k+1):=by rw [q77,hlb]
 have iIk:inI (((k+1:Nat):Int)-1):=iI (by omega) (by omega);have iXa:inX (((k+1:Nat):Int)-1) (lvs la (H+1)).length:=iX (by omega) (by rw [q64];omega);have iXb:inX (((k+1:Nat):Int)-1) (lvs lb (H+1)).length:=iX (by omega) (by rw [q64];omega);have iXa1:inX ((k+1:Nat):Int) (lvs la (H+1)).length:=iX (by omega) (by rw [q64];omega);have iXb1:inX ((k+1:Nat):Int) (lvs lb (H+1)).length:=iX (by omega) (by rw [q64];omega)
 obtain⟨r,hr1,hr2,hr3⟩:∃ r,(r=1∨r=2)∧(∀ u,u<r→2*i+u<sizK n k)∧(r=1→sizK n k≤2*i+1):=by
  by_cases q:2*i+1<sizK n k
  ·exact⟨2,.inr rfl,fun u hu=>by omega,fun q=>by omega⟩
  ·exact⟨1,.inl rfl,fun u hu=>by omega,fun _=>by omega⟩
 have fin:∀ rec6,Z163 (treD n la H) (treD n lb H) ((k+1:Nat):Int) (i:Int) rec4 (belF la lb k i r) ((2*i+r:Nat):Int) rec6 Φ false:=fun rec6=>by
  refine⟨fun q=>(by cases q),fun _=>⟨fun hb=>?_,fun hb=>⟨iI (by omega) (by omega),hgood fun j h1 h2 h3=>?_⟩⟩⟩
  ·obtain⟨u,hu1,hu2⟩:=q474.1 hb
   have hu3:=hr2 u hu1;show inX ((k+1:Nat):Int) (lvs la (H+1)).length∧inX (i:Int) (ix (lvs la (H+1)) ((k+1:Nat):Int)).length∧inX ((k+1:Nat):Int) (lvs lb (H+1)).length∧inX (i:Int) (ix (lvs lb (H+1)) ((k+1:Nat):Int)).length∧(ix (ix (lvs la (H+1)) ((k+1:Nat):Int)) (i:Int)=ix (ix (lvs lb (H+1)) ((k+1:Nat):Int)) (i:Int)→Φ true)∧(¬(ix (ix (lvs la (H+1)) ((k+1:Nat):Int)) (i:Int)=ix (ix (lvs lb (H+1)) ((k+1:Nat):Int)) (i:Int))→inI ((i:Int)+1)∧rec4 ((i:Int)+1))
   rw [la1,lb1];refine⟨iXa1,iX (by omega) (by omega),iXb1,iX (by omega) (by omega),fun q=>hbad ⟨2*i+u,hu3,by omega,hu2,decide_eq_false fun e=>e q.symm⟩,fun q=>⟨iI (by omega) (by omega),hgood fun _ _ _ _=>decide_eq_true fun e=>q e.symm⟩⟩
  ·exfalso
   refine hb (q474.2 ⟨j-2*i, ?_, ?_⟩)
   ·rcases hr1 with rfl | rfl
    ·have:=hr3 rfl;omega
    ·omega
   ·rw [show 2*i+(j-2*i)=j by omega];exact h3
 refine LoopW.upT r (fun t=>(belF la lb k i t,((2*i+t:Nat):Int))) (pairE rfl (by omega)) (fun t rec6 ht hr=>?_) fun rec6=>?_
 ·have ht2:=hr2 t ht
  have J:Z163 (treD n la H) (treD n lb H) ((k+1:Nat):Int) (i:Int) rec4 (belF la lb k i t) ((2*i+t:Nat):Int) rec6 Φ true:=by
   refine⟨fun _=>⟨fun hb=>⟨iI (by omega) (by omega),hr _ (pairE ?_ (by omega))⟩,fun hb=>?_⟩,fun q=>absurd rfl q⟩
   ·show true=(belF la lb k i t || _)
    rw [hb];rfl
   ·show inI (((k+1:Nat):Int)-1)∧inX (((k+1:Nat):Int)-1) (lvs la (H+1)).length∧inX ((2*i+t:Nat):Int) (ix (lvs la (H+1)) (((k+1:Nat):Int)-1)).length∧inI (((k+1:Nat):Int)-1)∧inX (((k+1:Nat):Int)-1) (lvs lb (H+1)).length∧inX ((2*i+t:Nat):Int) (ix (lvs lb (H+1)) (((k+1:Nat):Int)-1)).length∧inI (((2*i+t:Nat):Int)+1)∧rec6 (decide (ix (ix (lvs la (H+1)) (((k+1:Nat):Int)-1)) ((2*i+t:Nat):Int)≠ix (ix (lvs lb (H+1)) (((k+1:Nat):Int)-1)) ((2*i+t:Nat):Int)),((2*i+t:Nat):Int)+1)
    rw [la0,lb0,dK_flip];refine⟨iIk,iXa,iX (by omega) (by omega),iIk,iXb,iX (by omega) (by omega),iI (by omega) (by omega),hr _ (pairE ?_ (by omega))⟩;show _=(belF la lb k i t || _)
    rw [Bool.eq_false_iff.2 hb,Bool.false_or]
  refine⟨iI (by omega) (by omega),iI (by omega) (by omega),fun _=>⟨iIk,iXa,fun _=>⟨iIk,iXb, ?_⟩,fun q=>absurd ?_ q⟩,fun q=>absurd ?_ q⟩
  ·rw [show decide (((2*i+t:Nat):Int)<((ix (treD n lb H).Levels (((k+1:Nat):Int)-1)).length:Int))=true from decide_eq_true (by
    show((2*i+t:Nat):Int)<((ix (lvs lb (H+1)) (((k+1:Nat):Int)-1)).length:Int)
    rw [lb0];omega)]
   exact J
  ·show((2*i+t:Nat):Int)<((ix (lvs la (H+1)) (((k+1:Nat):Int)-1)).length:Int)
   rw [la0];omega
  ·show((2*i+t:Nat):Int)≤2*(i:Int)+1
   omega
 ·refine⟨iI (by omega) (by omega),iI (by omega) (by omega),fun q=>⟨iIk,iXa,fun q2=>?_,fun _=>fin rec6⟩,fun _=>fin rec6⟩
  have q:((2*i+r:Nat):Int)≤2*(i:Int)+1:=q;have q2:((2*i+r:Nat):Int)<((ix (lvs la (H+1)) (((k+1:Nat):Int)-1)).length:Int):=q2;rw [la0] at q2;have:=hr3 (by omega);omega
structure q531(a b:List Sec)(H:Nat):Prop where
 leaf:∀ i:Nat,i<a.length→ix a (i:Int)≠ix b (i:Int)→dK (leafS a) (leafS b) 0 i=true
 node:q650 a.length H (leafS a) (leafS b)
theorem q810{a:List Sec}{i:Nat}(hi:i<a.length):ix (leafS a) (i:Int)=hS (ix a (i:Int)):=by
 rw [q30 (by rw [q233];exact hi),q30 hi];unfold leafS;rw [List.getElem_map]
theorem q221{a b:List Sec}{H:Nat}{c:Bool}{Φ:Bool→Prop}(h:Hg a.length H)(hl:b.length=a.length)(h1:¬q531 a b H→c=true)(h0:q531 a b H→c=false)(hΦ:Φ c):Z170 a b (treA a H) (treA b H) Φ:=by
 have hn:=h.le;have hle:=h.hle;have hla:(leafS a).length=a.length:=q233 a;have hlb:(leafS b).length=a.length:=by rw [q233,hl]
 have eb:treA b H=treD a.length (leafS b) H:=by unfold treA;rw [hl]
 have ea:treA a H=treD a.length (leafS a) H:=rfl;rw [eb,ea];have bad:¬q531 a b H→Φ true:=fun q=>by rw [h1 q] at hΦ;exact hΦ
 have lva:(lvs (leafS a) (H+1)).length=H+1:=q64 _ _;have lvb:(lvs (leafS b) (H+1)).length=H+1:=q64 _ _;have a0:ix (lvs (leafS a) (H+1)) 0=leafS a:=q117 (k:=0) (Nat.succ_pos H);have b0:ix (lvs (leafS b) (H+1)) 0=leafS b:=q117 (k:=0) (Nat.succ_pos H);have xa:inX 0 (lvs (leafS a) (H+1)).length:=iX (by omega) (by rw [lva];omega);have xb:inX 0 (lvs (leafS b) (H+1)).length:=iX (by omega) (by rw [lvb];omega);refine⟨fun q=>absurd (show((lvs (leafS a) (H+1)).length:Int)=0 from q) (by omega),fun _=>⟨fun q=>absurd (show((lvs (leafS a) (H+1)).length:Int)=((lvs (leafS b) (H+1)).length:Int) by omega) q,fun _=>?_⟩⟩;refine LoopW.upI a.length (fun k=>(k:Int)) (fun k=>∀ i:Nat,i<k→ix a (i:Int)≠ix b (i:Int)→dK (leafS a) (leafS b) 0 i=true) rfl (fun i hi=>absurd hi (Nat.not_lt_zero i)) (fun k rec hk hI hr=>?_) fun rec hI=>⟨fun q=>absurd (show(a.length:Int)<(a.length:Int) from q) (by omega),fun _=>⟨fun q=>(by cases q),fun _=>?_⟩⟩
 ·have hda:ix (leafS a) (k:Int)=ix (leafS b) (k:Int)→dK (leafS a) (leafS b) 0 k=false:=fun e=>decide_eq_false fun q=>q e.symm
  have J:Z168 a b (treD a.length (leafS a) H) (treD a.length (leafS b) H) (k:Int) rec Φ true:=by
   refine⟨fun _=>⟨iX (by omega) (by omega),iX (by omega) (by omega),fun q=>?_,fun q=>⟨iI (by omega) (by omega),hr (fun i hi hne=>?_) _ rfl⟩⟩,fun q=>absurd rfl q⟩
   ·show inX 0 (lvs (leafS a) (H+1)).length∧inX (k:Int) (ix (lvs (leafS a) (H+1)) 0).length∧inX 0 (lvs (leafS b) (H+1)).length∧inX (k:Int) (ix (lvs (leafS b) (H+1)) 0).length∧(ix (ix (lvs (leafS a) (H+1)) 0) (k:Int)=ix (ix (lvs (leafS b) (H+1)) 0) (k:Int)→Φ true)∧(¬(ix (ix (lvs (leafS a) (H+1)) 0) (k:Int)=ix (ix (lvs (leafS b) (H+1)) 0) (k:Int))→inI ((k:Int)+1)∧rec ((k:Int)+1))
    rw [a0,b0];refine⟨xa,iX (by omega) (by omega),xb,iX (by omega) (by omega),fun e=>bad fun nc=>?_,fun e=>⟨iI (by omega) (by omega),hr (fun i hi hne=>?_) _ rfl⟩⟩
    ·have:=nc.leaf k hk q
     rw [hda e] at this;cases this
    ·rcases Nat.lt_or_ge i k with h2 | h2
     ·exact hI i h2 hne
     ·obtain rfl:i=k:=by omega
      exact decide_eq_true fun e2=>e e2.symm
   ·rcases Nat.lt_or_ge i k with h2 | h2
    ·exact hI i h2 hne
    ·obtain rfl:i=k:=by omega
     exact absurd hne q
  refine⟨fun _=>⟨fun _=>⟨xa,fun _=>⟨xb, ?_⟩,fun q=>absurd ?_ q⟩,fun q=>absurd (show(k:Int)<(b.length:Int) by omega) q⟩,fun q=>absurd (show(k:Int)<(a.length:Int) by omega) q⟩
  ·rw [show decide ((k:Int)<((ix (treD a.length (leafS b) H).Levels 0).length:Int))=true from decide_eq_true (by
    show(k:Int)<((ix (lvs (leafS b) (H+1)) 0).length:Int)
    rw [b0];omega)]
   exact J
  ·show(k:Int)<((ix (lvs (leafS a) (H+1)) 0).length:Int)
   rw [a0];omega
 ·
  refine LoopW.upI H (fun k=>((k+1:Nat):Int)) (fun k=>∀ m:Nat,m<k→∀ i:Nat,i<sizK a.length m→dK (leafS a) (leafS b) m i=true→dK (leafS a) (leafS b) (m+1) (i / 2)=true) rfl (fun m hm=>absurd hm (Nat.not_lt_zero m)) (fun k rec hk hK hr=>⟨fun _=>?_,fun q=>absurd (show((k+1:Nat):Int)<((lvs (leafS a) (H+1)).length:Int) by omega) q⟩) fun rec hK=>⟨fun q=>absurd (show((H+1:Nat):Int)<((lvs (leafS a) (H+1)).length:Int) from q) (by omega),fun _=>?_⟩
  ·have ka:ix (lvs (leafS a) (H+1)) ((k+1:Nat):Int)=lev (leafS a) (k+1):=q117 (by omega)
   have kb:ix (lvs (leafS b) (H+1)) ((k+1:Nat):Int)=lev (leafS b) (k+1):=q117 (by omega);have na:(lev (leafS a) (k+1)).length=sizK a.length (k+1):=by rw [q77,hla]
   have nb:(lev (leafS b) (k+1)).length=sizK a.length (k+1):=by rw [q77,hlb]
   have hkk:sizK a.length (k+1)=(sizK a.length k+1) / 2:=rfl;have hs:=q89 h.pos (k+1);have xk:inX ((k+1:Nat):Int) (lvs (leafS a) (H+1)).length:=iX (by omega) (by omega);have yk:inX ((k+1:Nat):Int) (lvs (leafS b) (H+1)).length:=iX (by omega) (by omega);refine LoopW.upI (sizK a.length (k+1)) (fun i=>(i:Int)) (fun i=>∀ j:Nat,j<sizK a.length k→j / 2<i→dK (leafS a) (leafS b) k j=true→dK (leafS a) (leafS b) (k+1) (j / 2)=true) rfl (fun j _ hj=>absurd hj (Nat.not_lt_zero _)) (fun i rec4 hi hJ hr4=>⟨xk,fun _=>⟨yk, ?_⟩,fun q=>absurd ?_ q⟩) fun rec4 hJ=>⟨xk,fun q=>?_,fun _=>⟨fun q=>(by cases q),fun _=>⟨iI (by omega) (by omega),hr (fun m hm j hj hd=>?_) _ rfl⟩⟩⟩
   ·rw [show decide ((i:Int)<((ix (treD a.length (leafS b) H).Levels ((k+1:Nat):Int)).length:Int))=true from decide_eq_true (by
     show(i:Int)<((ix (lvs (leafS b) (H+1)) ((k+1:Nat):Int)).length:Int)
     rw [kb];omega)]
    refine⟨fun _=>⟨iI (by omega) (by omega),q809 h hla hlb hk hi (fun⟨j,j1,j2,j3,j4⟩=>bad fun nc=>?_) fun hg=>hr4 (fun j j1 j2 j3=>?_) _ rfl⟩,fun q=>absurd rfl q⟩
    ·have:=nc.node k hk j j1 j3
     rw [j2,j4] at this;cases this
    ·rcases Nat.lt_or_ge (j / 2) i with h2 | h2
     ·exact hJ j j1 h2 j3
     ·have e:j / 2=i:=by omega
      rw [e];exact hg j j1 e j3
   ·show(i:Int)<((ix (lvs (leafS a) (H+1)) ((k+1:Nat):Int)).length:Int)
    rw [ka];omega
   ·have q:((sizK a.length (k+1):Nat):Int)<((ix (lvs (leafS a) (H+1)) ((k+1:Nat):Int)).length:Int):=q
    rw [ka] at q;omega
   ·rcases Nat.lt_or_ge m k with h2 | h2
    ·exact hK m h2 j hj hd
    ·obtain rfl:m=k:=by omega
     exact hJ j hj (by omega) hd
  ·rw [h0 ⟨hI,hK⟩] at hΦ
   exact hΦ
theorem q811{a b:List Sec}{H:Nat}{F:List q8}(hl:b.length=a.length)(nc:q531 a b H)(hF:Finds a.length H (leafS a) (leafS b) F):F=runX a.length (difB a b):=by
 rw [hF nc.node];refine q124 fun i hi=>?_;rw [Bool.eq_iff_iff];constructor
 ·intro q
  refine decide_eq_true fun e=>of_decide_eq_true q ?_;show ix (leafS b) (i:Int)=ix (leafS a) (i:Int);rw [q810 hi,q810 (by omega),e]
 ·intro q
  exact nc.leaf i hi (of_decide_eq_true q)
def trk0(D:List q9):q16:=⟨szP,[⟨0,0,D⟩]⟩
theorem trk0_ok{D:List q9}(hD:BmsOk szP D):TrkOk (trk0 D):=by
 refine⟨q135,by show 1≤4;omega,fun k hk=>?_,fun k hk=>?_,fun k hk=>?_,fun i j hij hj=>?_⟩
 ·have hk:k<1:=hk
  obtain rfl:k=0:=by omega
  exact hD
 ·have hk:k<1:=hk
  obtain rfl:k=0:=by omega
  exact⟨by show(0:Int)≤0;omega,by show(0:Int)<4;omega⟩
 ·have hk:k<1:=hk
  obtain rfl:k=0:=by omega
  exact⟨by show(0:Int)≤0;omega,by show(0:Int)≤_;omega⟩
 ·have hj:j<1:=hj
  omega
theorem write0{D:List q9}{w:q10}(h:TrkOk (trk0 D))(hw:fitW szP w=0):q524 (trk0 D) w=(trk0 (markL D [w]),0):=by
 unfold q524;rw [if_neg (by rw [q916 h];simp),if_neg (by show ¬fitW szP w≠0;rw [hw];simp)];rfl
theorem dirty0{D:List q9}(h:TrkOk (trk0 D)):q521 (trk0 D) 0=(D,0,0):=by
 have f:fndK (trk0 D).Peers 0=0:=by unfold fndK trk0;simp [List.findIdx_cons]
 unfold q521;rw [if_neg (by rw [q916 h];simp),f,if_pos (by show 0<1;omega)];rfl
theorem q919{D:List q9}(h:TrkOk (trk0 D)):∀ p∈(trk0 D).Peers,p.Dirty.length≤100000:=fun p hp=>by
 have:=(h.small.2.2 p hp).1;omega
theorem new0:newT szP [0] 0=(trk0 (szP.map newB),0):=by
 unfold newT;rw [if_neg (by rw [q135];simp),if_neg (by show ¬(4:Int)<1;omega),if_neg (by decide),if_neg (by decide),if_neg (by omega)];rfl
def linQ(e c:Int):List q42:=if 0<c then [⟨e,1,c⟩] else []
theorem linQ_ok{e c:Int}(h1:1≤e)(h2:e≤10)(h3:c≤10){Φ:Bool→Prop}(hΦ:Φ true):Z40 (linQ e c) Φ:=by
 unfold linQ;by_cases hc:0<c
 ·rw [if_pos hc]
  refine⟨2,⟨fun _=>⟨iX (by omega) (by show(0:Int)<1;omega),iI (by omega) (by omega),fun q=>absurd rfl q,fun _=>⟨fun q=>absurd (show c<1 from q) (by omega),fun _=>⟨fun q=>absurd (show 1073741824<c from q) (by omega),fun _=>q381 h1 (by show e≤_;omega) ⟨fun q=>absurd rfl q,fun _=>⟨fun q=>absurd (show e≤0 from q) (by omega),fun _=>⟨iI (by omega) (by omega), ?_⟩⟩⟩⟩⟩⟩,fun q=>absurd (show(0:Int)<1 by omega) q⟩⟩;exact⟨fun q=>absurd (show(0:Int)+1<1 from q) (by omega),fun _=>hΦ⟩
 ·rw [if_neg hc]
  exact⟨1,⟨fun q=>absurd (show(0:Int)<0 from q) (by omega),fun _=>hΦ⟩⟩
def wrQ(l:List q11):List q10:=l.map dataP
theorem q250(l:List q11):∀ w∈wrQ l,fitW szP w=0:=fun w hw=>by
 obtain⟨s,_,rfl⟩:=List.mem_map.1 hw;exact q871 s
def ptQ(site:Int)(im:List (List Sec))(l:List q11)(e c:Int):q14:=⟨site,linQ e c,markL (szP.map newB) (wrQ l),appL im (wrQ l)⟩
structure PtOk(im:List (List Sec))(p:q14):Prop where
 site:0≤p.Site∧p.Site≤3
 lin:∀ Φ:Bool→Prop,Φ true→Z40 p.Lineage Φ
 sz:szs p.Image=szP
 mark:∃ P,q309 szP p.Dirty P∧∀ v i:Nat,¬P v i→sec p.Image v i=sec im v i
theorem PtOk.img{im:List (List Sec)}{p:q14}(h:PtOk im p):imgE p.Image=0:=by unfold imgE;rw [h.sz];exact q135
theorem PtOk.check{im:List (List Sec)}{p:q14}(h:PtOk im p){Φ:Int→Prop}(hΦ:Φ 0):q73 p Φ:=by
 obtain⟨P,hP,_⟩:=h.mark;exact q395 h.site.1 h.site.2 h.lin h.img (by rw [h.sz];exact hP.toBmsOk) hΦ
theorem q532{site e c:Int}{im:List (List Sec)}(l:List q11)(h0:0≤site)(h3:site≤3)(h1:1≤e)(h2:e≤10)(hc:c≤10)(hs:szs im=szP):PtOk im (ptQ site im l e c):=by
 have hs':¬q44 (szs im)≠0:=by rw [hs,q135];simp
 have hf:∀ w∈wrQ l,fitW (szs im) w=0:=by rw [hs];exact q250 l
 refine⟨⟨h0,h3⟩,fun Φ hΦ=>linQ_ok h1 h2 hc hΦ,(q466 hs' hf).trans hs,_,q248 (q217 q135) (q250 l),fun v i q=>?_⟩;exact q633 hs' hf fun w hw hcv=>q (.inr ⟨w,hw,hcv⟩)
theorem lin0_ok{c:Int}(hc:c≤0){Φ:Bool→Prop}(hΦ:Φ true):Z40 (linQ 0 c) Φ:=by
 unfold linQ;rw [if_neg (by omega)];exact⟨1,⟨fun q=>absurd (show(0:Int)<0 from q) (by omega),fun _=>hΦ⟩⟩
theorem ptB_ok{im:List (List Sec)}(l:List q11)(hs:szs im=szP):PtOk im (ptQ 0 im l 0 0):=by
 have hs':¬q44 (szs im)≠0:=by rw [hs,q135];simp
 have hf:∀ w∈wrQ l,fitW (szs im) w=0:=by rw [hs];exact q250 l
 refine⟨⟨by show(0:Int)≤0;omega,by show(0:Int)≤3;omega⟩,fun Φ hΦ=>lin0_ok (Int.le_refl _) hΦ,(q466 hs' hf).trans hs,_,q248 (q217 q135) (q250 l),fun v i q=>?_⟩;exact q633 hs' hf fun w hw hcv=>q (.inr ⟨w,hw,hcv⟩)
theorem q92{site e c:Int}{im:List (List Sec)}{l:List q11}{Φ:q14×Bool→Prop}(hl:l.length≤8)(hs:szs im=szP)(hp:PtOk im (ptQ site im l e c))(hΦ:Φ (ptQ site im l e c,true)):Z45 site im l e c Φ:=by
 have him:imgE im=0:=by unfold imgE;rw [hs];exact q135
 have hwl:(wrQ l).length=l.length:=by unfold wrQ;rw [List.length_map]
 have hk:∀ k,∀ w∈(wrQ l).take k,fitW szP w=0:=fun k w hw=>q250 l w (List.mem_of_mem_take hw);have hD:∀ k,TrkOk (trk0 (markL (szP.map newB) ((wrQ l).take k))):=fun k=>trk0_ok (q632 (q217 q135).toBmsOk (hk k));have hsz:∀ k,szs (appL im ((wrQ l).take k))=szP:=fun k=>(q517 him (fun w hw=>by rw [hs];exact q250 l w hw) k).trans hs
 have main:∀ v1,v1=linQ e c→Z44 site im l Φ v1:=fun v1 hv1=>by
  subst hv1;unfold Z44 Z0;refine(show q119 szP [0] 0 _ from q391 ?_);show(fun v3:q16×Int=>(v3.2≠0→Φ (⟨site,linQ e c,[],im⟩,false))∧(¬(v3.2≠0)→LoopW (Z43 site l (linQ e c) Φ) (0,v3.1.Sizes,v3.1.Peers,im))) (newT szP [0] 0);rw [new0];refine⟨fun q=>absurd rfl q,fun _=>?_⟩;refine LoopW.upT l.length (fun k=>((k:Int),szP,(trk0 (markL (szP.map newB) ((wrQ l).take k))).Peers,appL im ((wrQ l).take k))) rfl (fun k rec hkl hr=>⟨fun q=>⟨iX (by omega) q,q319 ?_⟩,fun q=>absurd (show(k:Int)<(l.length:Int) by omega) q⟩) fun rec=>⟨fun q=>absurd (show(l.length:Int)<(l.length:Int) from q) (by omega),fun _=>?_⟩
  ·have ew:ix (wrQ l) (k:Int)=dataP (ix l (k:Int)):=by
    rw [q30 (by omega),q30 hkl];unfold wrQ;rw [List.getElem_map]
   have hi:imgE (appL im ((wrQ l).take k))=0:=by unfold imgE;rw [hsz k];exact q135
   rw [← ew];have hw:fitW szP (ix (wrQ l) (k:Int))=0:=q250 l _ (q61 (xs:=wrQ l) (i:=(k:Int)) (iX (by omega) (by omega)));refine q390 (show 1≤1000000 by omega) hi (fun w hw2=>by rw [List.mem_singleton.1 hw2,hsz k];exact hw) ?_;refine q318 (q919 (hD k)) (by have:=q634 q135 hw;omega) ?_;show(fun v10:q16×Int=>Join (Z42 site (linQ e c) (k:Int) (appL im ((wrQ l).take k)) rec (appL (appL im ((wrQ l).take k)) [ix (wrQ l) (k:Int)],0,0) v10 Φ) fun J3=>((0:Int)≠0→J3 true)∧(¬((0:Int)≠0)→J3 (decide (v10.2≠0)))) (q524 (trk0 (markL (szP.map newB) ((wrQ l).take k))) (ix (wrQ l) (k:Int)));rw [write0 (hD k) hw,q798 _ (by omega)];refine⟨fun q=>absurd rfl q,fun _=>⟨fun q=>absurd q (by simp),fun _=>⟨iI (by omega) (by omega),hr _ (pairE rfl (pairE rfl (pairE rfl ?_)))⟩⟩⟩;rw [q516 (by omega)];rfl
  ·refine q317 (q919 (hD l.length)) ?_
   show(fun v12:List q9×Int×Int=>(v12.2.2=0→∃ v13:Int×Unit,q73 (⟨site,linQ e c,v12.1,appL im ((wrQ l).take l.length)⟩:q14) (fun z=>(z,())=v13)∧Φ (⟨site,linQ e c,v12.1,appL im ((wrQ l).take l.length)⟩,decide (v13.1=0)))∧(¬(v12.2.2=0)→Φ (⟨site,linQ e c,v12.1,appL im ((wrQ l).take l.length)⟩,false))) (q521 (trk0 (markL (szP.map newB) ((wrQ l).take l.length))) 0);rw [dirty0 (hD l.length),← hwl,q31];exact⟨fun _=>⟨(0,()),hp.check rfl,hΦ⟩,fun q=>absurd rfl q⟩
 refine⟨fun q=>main _ ?_,fun q=>main _ ?_⟩
 ·unfold linQ;rw [if_pos q]
 ·unfold linQ;rw [if_neg q]
theorem mod3(b:BitVec 8):0≤((b % (3#8)).toNat:Int)∧((b % (3#8)).toNat:Int)≤2:=by
 rw [BitVec.toNat_umod];show 0≤((b.toNat % 3:Nat):Int)∧((b.toNat % 3:Nat):Int)≤2;omega
theorem mod6(b:BitVec 8):0≤((b % (6#8)).toNat:Int)∧((b % (6#8)).toNat:Int)≤5:=by
 rw [BitVec.toNat_umod];show 0≤((b.toNat % 6:Nat):Int)∧((b.toNat % 6:Nat):Int)≤5;omega
theorem q475{x:q19}{Φ:List q14×List Bool×Bool→Prop}(h0:Φ ([],[],true))(h1:∀ im p0 p1 p2 ls,PtOk im p0→PtOk im p1→PtOk im p2→Φ ([p0,p1,p2],ls,true)):Z48 x Φ:=by
 unfold Z48 Z0;refine(show q57 szP _ from q112 (fun _=>⟨fun q=>absurd rfl q,fun _=>?_⟩) fun q=>absurd q135 q);have hz:szs (zeroI szP)=szP:=q373 q135;refine⟨fun _=>h0,fun q=>?_⟩
 have hb:x.Base.length≤6:=by
  have q:¬decide ((6:Int)<(x.Base.length:Int))=true:=q;rw [decide_eq_true_iff] at q;omega
 have hB:=ptB_ok x.Base hz;refine q92 (by omega) hz hB ⟨fun q=>absurd rfl q,fun _=>?_⟩;have hs:szs (appL (zeroI szP) (wrQ x.Base))=szP:=hB.sz;show LoopW (Z46 x (ptQ 0 (zeroI szP) x.Base 0 0,true) Φ) (0,[],[]);have m0:=mod3 x.Epochs.e0;have m1:=mod3 x.Epochs.e1;have m2:=mod3 x.Epochs.e2;have c0:=mod6 x.Cycles.e0;have c1:=mod6 x.Cycles.e1;have c2:=mod6 x.Cycles.e2;have k0:=q532 (site:=0) (e:=((x.Epochs.e0 % (3#8)).toNat:Int)+1) (c:=((x.Cycles.e0 % (6#8)).toNat:Int)) x.Writes.e0 (by omega) (by omega) (by omega) (by omega) (by omega) hs;have k1:=q532 (site:=1) (e:=((x.Epochs.e1 % (3#8)).toNat:Int)+1) (c:=((x.Cycles.e1 % (6#8)).toNat:Int)) x.Writes.e1 (by omega) (by omega) (by omega) (by omega) (by omega) hs;have k2:=q532 (site:=2) (e:=((x.Epochs.e2 % (3#8)).toNat:Int)+1) (c:=((x.Cycles.e2 % (6#8)).toNat:Int)) x.Writes.e2 (by omega) (by omega) (by omega) (by omega) (by omega) hs;refine⟨4,⟨fun _=>⟨by decide,fun _=>⟨rfl,rfl,by decide,fun _=>h0,fun q=>⟨by decide,by decide,by decide,iI (by omega) (by omega),by decide,by decide,(_,true,()),q92 (by omega) hs k0 rfl,fun q=>absurd rfl q,fun _=>⟨iL (by show 1≤_;omega) (by omega),by decide,iL (by show 1≤_;omega) (by omega),iI (by omega) (by omega), ?_⟩⟩⟩,fun q=>absurd q (by decide),fun q=>absurd q (by decide),trivial⟩,fun q=>absurd (by decide) q⟩⟩
 refine⟨fun _=>⟨by decide,fun q=>absurd q (by decide),fun _=>⟨rfl,rfl,by decide,fun _=>h0,fun q=>⟨by decide,by decide,by decide,iI (by omega) (by omega),by decide,by decide,(_,true,()),q92 (by omega) hs k1 rfl,fun q=>absurd rfl q,fun _=>⟨iL (by show 2≤_;omega) (by omega),by decide,iL (by show 2≤_;omega) (by omega),iI (by omega) (by omega), ?_⟩⟩⟩,fun q=>absurd q (by decide),trivial⟩,fun q=>absurd (by decide) q⟩;refine⟨fun _=>⟨by decide,fun q=>absurd q (by decide),fun q=>absurd q (by decide),fun _=>⟨rfl,rfl,by decide,fun _=>h0,fun q=>⟨by decide,by decide,by decide,iI (by omega) (by omega),by decide,by decide,(_,true,()),q92 (by omega) hs k2 rfl,fun q=>absurd rfl q,fun _=>⟨iL (by show 3≤_;omega) (by omega),by decide,iL (by show 3≤_;omega) (by omega),iI (by omega) (by omega), ?_⟩⟩⟩,trivial⟩,fun q=>absurd (by decide) q⟩;exact⟨fun q=>absurd q (by decide),fun _=>h1 _ _ _ _ _ k0 k1 k2⟩
theorem q920{im:List (List Sec)}{l:List q14}{Φ:Int→Prop}(h1:1≤l.length)(h4:l.length≤4)(hp:∀ p∈l,PtOk im p)(hΦ:Φ 0):q178 l Φ:=by
 have hat:∀ k:Nat,k<l.length→PtOk im (ix l (k:Int)):=fun k hk=>hp _ (q61 (xs:=l) (i:=(k:Int)) (iX (by omega) (by omega)));refine LoopW.upT l.length (fun k=>(k:Int)) rfl (fun k rec hk hr=>⟨fun _=>⟨iX (by omega) (by omega),(hat k hk).check ⟨fun q=>absurd rfl q,fun _=>⟨iI (by omega) (by omega),hr _ rfl⟩⟩⟩,fun q=>absurd (show(k:Int)<(l.length:Int) by omega) q⟩) fun rec=>⟨fun q=>absurd (show(l.length:Int)<(l.length:Int) from q) (by omega),fun _=>⟨fun q=>absurd q (by omega),fun _=>⟨fun q=>absurd q (by omega),fun _=>?_⟩⟩⟩
 have a0:=hat 0 (by omega);refine LoopW.upT l.length (fun k=>(k:Int)) rfl (fun k rec hk hr=>⟨fun _=>⟨iX (by omega) (by omega),iX (by omega) (by omega),(true,()),q396 (hat k hk).img ((hat k hk).sz.trans a0.sz.symm) rfl,fun q=>absurd rfl q,fun _=>⟨iI (by omega) (by omega),hr _ rfl⟩⟩,fun q=>absurd (show(k:Int)<(l.length:Int) by omega) q⟩) fun rec=>⟨fun q=>absurd (show(l.length:Int)<(l.length:Int) from q) (by omega),fun _=>hΦ⟩
def clsD(st:List q10×List Sec):List q10:=put st.1 ((st.1.length:Int)-1) ⟨(ix st.1 ((st.1.length:Int)-1)).Volume,(ix st.1 ((st.1.length:Int)-1)).Start,st.2⟩
def dfS(v:Int)(a b:List Sec)(s:Int):Nat→List q10×List Sec
 | 0=>([],[])
 | k+1=>if ix a (s+(k:Int))=ix b (s+(k:Int)) then dfS v a b s k
  else if 0<((dfS v a b s k).1.length:Int)∧(ix (dfS v a b s k).1 (((dfS v a b s k).1.length:Int)-1)).Start+((dfS v a b s k).2.length:Int)=s+(k:Int) then((dfS v a b s k).1,(dfS v a b s k).2++[ix a (s+(k:Int))])
  else(clsD (dfS v a b s k)++[⟨v,s+(k:Int),[]⟩],[ix a (s+(k:Int))])
def dfW(v:Int)(a b:List Sec)(e:q8):List q10:=clsD (dfS v a b e.Start e.Count.toNat)
structure DfP(v:Int)(a b:List Sec)(s:Int)(k:Nat)(l:List q10):Prop where
 at_:∀ w∈l,w.Volume=v∧s≤w.Start∧1≤w.Data.length∧w.Start+(w.Data.length:Int)≤s+(k:Int)
 cov:∀ i:Int,(∃ w∈l,w.Start≤i∧i<w.Start+(w.Data.length:Int))↔s≤i∧i<s+(k:Int)∧ix a i≠ix b i
 len:l.length≤k
def DfQ(v:Int)(st:List q10×List Sec):Prop:=st=([],[])∨∃ pre x data,st=(pre++[(⟨v,x,[]⟩:q10)],data)
theorem q280(pre:List q10)(v x:Int)(data:List Sec):clsD (pre++[⟨v,x,[]⟩],data)=pre++[⟨v,x,data⟩]:=by
 unfold clsD;simp only;rw [q378,q643]
theorem DfP.same{v:Int}{a b:List Sec}{s:Int}{k:Nat}{l:List q10}(h:DfP v a b s k l)(he:ix a (s+(k:Int))=ix b (s+(k:Int))):DfP v a b s (k+1) l where
 at_ w hw:=by have:=h.at_ w hw;refine⟨this.1,this.2.1,this.2.2.1,by omega⟩
 cov i:=by
  rw [h.cov i];refine⟨fun⟨h1,h2,h3⟩=>⟨h1,by omega,h3⟩,fun⟨h1,h2,h3⟩=>⟨h1, ?_,h3⟩⟩;rcases Int.lt_or_le i (s+(k:Int)) with h4 | h4
  ·exact h4
  ·obtain rfl:i=s+(k:Int):=by omega
   exact absurd he h3
 len:=by have:=h.len;omega
theorem DfP.more{v:Int}{a b:List Sec}{s:Int}{k:Nat}{l m:List q10}(h:DfP v a b s k l)(hd:ix a (s+(k:Int))≠ix b (s+(k:Int)))(ha:∀ w∈m,w.Volume=v∧s≤w.Start∧1≤w.Data.length∧w.Start+(w.Data.length:Int)≤s+((k+1:Nat):Int))
  (hc:∀ i:Int,(∃ w∈m,w.Start≤i∧i<w.Start+(w.Data.length:Int))↔(∃ w∈l,w.Start≤i∧i<w.Start+(w.Data.length:Int))∨i=s+(k:Int))(hl:m.length≤l.length+1):DfP v a b s (k+1) m where
 at_:=ha
 cov i:=by
  rw [hc i,h.cov i];constructor
  ·rintro(⟨h1,h2,h3⟩ | rfl)
   ·exact⟨h1,by omega,h3⟩
   ·exact⟨by omega,by omega,hd⟩
  ·rintro⟨h1,h2,h3⟩
   rcases Int.lt_or_le i (s+(k:Int)) with h4 | h4
   ·exact .inl ⟨h1,h4,h3⟩
   ·exact .inr (by omega)
 len:=by have:=h.len;omega
theorem q812{v:Int}{a b:List Sec}{s:Int}:∀ k:Nat,DfP v a b s k (clsD (dfS v a b s k))∧DfQ v (dfS v a b s k)
 | 0=>by
  refine⟨⟨fun w hw=>(by cases hw),fun i=>⟨fun⟨w,hw,_⟩=>(by cases hw),fun⟨h1,h2,_⟩=>absurd h2 (by omega)⟩,Nat.le_refl _⟩,.inl rfl⟩
 | k+1=>by
  obtain⟨h1,h2⟩:=q812 (v:=v) (a:=a) (b:=b) (s:=s) k;unfold dfS;generalize dfS v a b s k=st at *;by_cases he:ix a (s+(k:Int))=ix b (s+(k:Int))
  ·rw [if_pos he]
   exact⟨h1.same he,h2⟩
  ·rw [if_neg he]
   rcases h2 with rfl | ⟨pre,x,data,rfl⟩
   ·rw [if_neg (fun q=>absurd q.1 (by decide))]
    refine⟨h1.more he (fun w hw=>?_) (fun i=>?_) ?_,.inr ⟨_,_,_,rfl⟩⟩
    ·have hw:w∈[(⟨v,s+(k:Int),[ix a (s+(k:Int))]⟩:q10)]:=hw
     rw [List.mem_singleton.1 hw];exact⟨rfl,by show s≤s+(k:Int);omega,Nat.le_refl _,by show s+(k:Int)+1≤_;omega⟩
    ·show(∃ w∈[(⟨v,s+(k:Int),[ix a (s+(k:Int))]⟩:q10)],_)↔_
     constructor
     ·rintro⟨w,hw,h3,h4⟩
      rw [List.mem_singleton.1 hw] at h3 h4;have h3:s+(k:Int)≤i:=h3;have h4:i<s+(k:Int)+1:=h4;exact .inr (by omega)
     ·rintro(⟨w,hw,_⟩ | rfl)
      ·cases hw
      ·exact⟨_,List.mem_singleton.2 rfl,Int.le_refl _,by show s+(k:Int)<s+(k:Int)+1;omega⟩
    ·show 1≤0+1;omega
   ·rw [q280] at *
    simp only [q378];have hw0:=h1.at_ ⟨v,x,data⟩ (by simp);simp only at hw0;by_cases hj:x+(data.length:Int)=s+(k:Int)
    ·rw [if_pos ⟨by rw [q20];omega,hj⟩,q280]
     refine⟨h1.more he (fun w hw=>?_) (fun i=>?_) (by rw [q20,q20];omega),.inr ⟨_,_,_,rfl⟩⟩
     ·rcases List.mem_append.1 hw with hw | hw
      ·have:=h1.at_ w (List.mem_append_left _ hw)
       exact⟨this.1,this.2.1,this.2.2.1,by omega⟩
      ·rw [List.mem_singleton.1 hw]
       exact⟨rfl,hw0.2.1,by show 1≤(data++[_]).length;rw [q20];omega,by show x+((data++[_]).length:Int)≤_;rw [q20];omega⟩
     ·constructor
      ·rintro⟨w,hw,h3,h4⟩
       rcases List.mem_append.1 hw with hw | hw
       ·exact .inl ⟨w,List.mem_append_left _ hw,h3,h4⟩
       ·rw [List.mem_singleton.1 hw] at h3 h4
        have h3:x≤i:=h3;have h4:i<x+((data++[ix a (s+(k:Int))]).length:Int):=h4;rw [q20] at h4;rcases Int.lt_or_le i (s+(k:Int)) with h5 | h5
        ·exact .inl ⟨⟨v,x,data⟩,by simp,h3,by show i<x+(data.length:Int);omega⟩
        ·exact .inr (by omega)
      ·rintro(⟨w,hw,h3,h4⟩ | rfl)
       ·rcases List.mem_append.1 hw with hw | hw
        ·exact⟨w,List.mem_append_left _ hw,h3,h4⟩
        ·rw [List.mem_singleton.1 hw] at h3 h4
         have h4:i<x+(data.length:Int):=h4;exact⟨⟨v,x,data++[ix a (s+(k:Int))]⟩,by simp,h3,by show i<x+((data++[_]).length:Int);rw [q20];omega⟩
       ·exact⟨⟨v,x,data++[ix a (s+(k:Int))]⟩,by simp,by show x≤_;omega,by show _<x+((data++[_]).length:Int);rw [q20];omega⟩
    ·rw [if_neg (fun q=>hj q.2),q280]
     refine⟨h1.more he (fun w hw=>?_) (fun i=>?_) (by rw [q20];exact Nat.le_refl _),.inr ⟨_,_,_,rfl⟩⟩
     ·rcases List.mem_append.1 hw with hw | hw
      ·have:=h1.at_ w hw
       exact⟨this.1,this.2.1,this.2.2.1,by omega⟩
      ·rw [List.mem_singleton.1 hw]
       exact⟨rfl,by show s≤s+(k:Int);omega,Nat.le_refl _,by show s+(k:Int)+1≤_;omega⟩
     ·constructor
      ·rintro⟨w,hw,h3,h4⟩
       rcases List.mem_append.1 hw with hw | hw
       ·exact .inl ⟨w,hw,h3,h4⟩
       ·rw [List.mem_singleton.1 hw] at h3 h4
        have h3:s+(k:Int)≤i:=h3;have h4:i<s+(k:Int)+1:=h4;exact .inr (by omega)
      ·rintro(⟨w,hw,h3,h4⟩ | rfl)
       ·exact⟨w,List.mem_append_left _ hw,h3,h4⟩
       ·exact⟨⟨v,s+(k:Int),[ix a (s+(k:Int))]⟩,by simp,Int.le_refl _,by show s+(k:Int)<s+(k:Int)+1;omega⟩
theorem q533{v:Int}{a b:List Sec}{e:q8}{Φ:List q10→Prop}(h0:0≤e.Start)(hc:0≤e.Count)(hl:e.Start+e.Count≤(a.length:Int))(hb:b.length=a.length)(hs:a.length≤5)(hΦ:Φ (dfW v a b e)):Z67 v a b e Φ:=by
 unfold dfW at hΦ;obtain⟨m,hm⟩:=Int.eq_ofNat_of_zero_le hc;rw [hm,Int.toNat_natCast] at hΦ;have hE:inI (e.Start+e.Count):=iI (by omega) (by omega);refine LoopW.upT m (fun k=>(e.Start+(k:Int),(dfS v a b e.Start k).1,(dfS v a b e.Start k).2)) (pairE (by omega) rfl) (fun k rec hk hr=>⟨hE,fun _=>?_,fun q=>absurd (show e.Start+(k:Int)<e.Start+e.Count by omega) q⟩) fun rec=>⟨hE,fun q=>absurd (show e.Start+(m:Int)<e.Start+e.Count from q) (by omega),fun _=>hΦ⟩
 obtain⟨h1,h2⟩:=q812 (v:=v) (a:=a) (b:=b) (s:=e.Start) k;have hx:inX (e.Start+(k:Int)) a.length:=iX (by omega) (by omega);have hy:inX (e.Start+(k:Int)) b.length:=iX (by omega) (by omega);have hi1:inI (e.Start+(k:Int)+1):=iI (by omega) (by omega);have hr:∀ st,st=dfS v a b e.Start (k+1)→rec (e.Start+(k:Int)+1,st.1,st.2):=fun st q=>by subst q;exact hr _ (pairE (by omega) rfl)
 unfold dfS at hr;generalize dfS v a b e.Start k=st at *;refine⟨hx,hy,fun he=>⟨hi1,hr st (by rw [if_pos he])⟩,fun he=>?_⟩;rw [if_neg he] at hr
 have new:¬(0<(st.1.length:Int)∧(ix st.1 ((st.1.length:Int)-1)).Start+(st.2.length:Int)=e.Start+(k:Int))→inX (e.Start+(k:Int)) a.length∧lenOk (clsD st++[(⟨v,e.Start+(k:Int),[]⟩:q10)]).length 40∧inI (e.Start+(k:Int)+1)∧rec (e.Start+(k:Int)+1,clsD st++[(⟨v,e.Start+(k:Int),[]⟩:q10)],[ix a (e.Start+(k:Int))]):=fun q=>by
  rw [if_neg q] at hr;exact⟨hx,iL (by rw [q20];have:=h1.len;omega) (by omega),hi1,hr _ rfl⟩
 refine⟨fun hpos=>?_,fun hneg=>new fun q=>hneg q.1⟩;rcases h2 with rfl | ⟨pre,x,data,rfl⟩
 ·exact absurd (show(0:Int)<0 from hpos) (by omega)
 ·rw [q280] at h1
  have hw0:=h1.at_ ⟨v,x,data⟩ (by simp);have hlen:=h1.len;rw [q20] at hlen;simp only at hw0;have hL:((pre++[(⟨v,x,[]⟩:q10)]).length:Int)=(pre.length:Int)+1:=by rw [q20];omega
  have hI:inI (((pre++[(⟨v,x,[]⟩:q10)]).length:Int)-1):=iI (by omega) (by omega);have hX:inX (((pre++[(⟨v,x,[]⟩:q10)]).length:Int)-1) (pre++[(⟨v,x,[]⟩:q10)]).length:=iX (by omega) (by omega);have hB:((pre++[(⟨v,x,[]⟩:q10)]).length:Int)-1+1=((pre++[(⟨v,x,[]⟩:q10)]).length:Int):=by omega
  have hS:inI ((ix (pre++[(⟨v,x,[]⟩:q10)]) (((pre++[(⟨v,x,[]⟩:q10)]).length:Int)-1)).Start+(data.length:Int)):=by rw [q378];exact iI (by show _≤x+_;omega) (by show x+_≤_;omega)
  refine⟨hI,hX,hB,hI,hX,hB,hS,fun hj=>?_,fun hj=>new fun q=>hj q.2⟩;rw [if_pos ⟨hpos,hj⟩] at hr;exact⟨hI,hI,hX,hB,hx,iL (by show(data++[_]).length≤_;rw [q20];omega) (by omega),hX,hB,hi1,hr _ rfl⟩
theorem q281{α β:Type}{f:α→List β}{c:Nat}:∀ {l:List α},(∀ x∈l,(f x).length≤c)→(l.flatMap f).length≤c*l.length
 | [],_=>Nat.zero_le _
 | x::l,h=>by
  have h1:=h x List.mem_cons_self;have h2:=q281 (f:=f) (l:=l) fun y hy=>h y (List.mem_cons_of_mem _ hy);rw [List.flatMap_cons,List.length_append,List.length_cons,Nat.mul_succ];omega
theorem q813{α β:Type}[Dt α](f:α→List β){l:List α}{k:Nat}(hk:k<l.length):(l.take (k+1)).flatMap f=(l.take k).flatMap f++f (ix l (k:Int)):=by
 rw [q63 hk,List.flatMap_append,List.flatMap_cons,List.flatMap_nil,List.append_nil]
def trV(A B:q14)(v:Nat):List q10:=(ix (mrkX A.Dirty B.Dirty) (v:Int)).flatMap (dfW (v:Int) (ix A.Image (v:Int)) (ix B.Image (v:Int)))
def trW(A B:q14):List q10:=(List.range 2).flatMap (trV A B)
theorem q282{im:List (List Sec)}{p:q14}(h:PtOk im p):p.Image.length=2∧(ix p.Image ((0:Nat):Int)).length=5∧(ix p.Image ((1:Nat):Int)).length=3:=by
 have h0:=congrArg List.length h.sz;rw [q38] at h0;have h0:p.Image.length=2:=h0;have a0:=q115 (im:=p.Image) (k:=0) (by omega);have a1:=q115 (im:=p.Image) (k:=1) (by omega);rw [h.sz] at a0 a1;have a0:(5:Int)=((ix p.Image ((0:Nat):Int)).length:Int):=a0;have a1:(3:Int)=((ix p.Image ((1:Nat):Int)).length:Int):=a1;exact⟨h0,by omega,by omega⟩
theorem q187{im:List (List Sec)}{p:q14}(h:PtOk im p){v:Nat}(hv:v<2):1≤(ix p.Image (v:Int)).length∧(ix p.Image (v:Int)).length≤5:=by
 obtain⟨_,h1,h2⟩:=q282 h
 match v,hv with
 | 0,_=>omega
 | 1,_=>omega
theorem q814{im:List (List Sec)}{p q:q14}(hp:PtOk im p)(hq:PtOk im q){v:Nat}(hv:v<2):(ix q.Image (v:Int)).length=(ix p.Image (v:Int)).length:=by
 obtain⟨_,h1,h2⟩:=q282 hp;obtain⟨_,h3,h4⟩:=q282 hq
 match v,hv with
 | 0,_=>omega
 | 1,_=>omega
theorem q340{im:List (List Sec)}{p:q14}(h:PtOk im p):p.Dirty.length=2:=by
 obtain⟨P,hP,_⟩:=h.mark;exact hP.len
theorem q476{im:List (List Sec)}{A B:q14}(hA:PtOk im A)(hB:PtOk im B):∃ m:Nat→Nat→Bool,(∀ v:Nat,v<2→ix (mrkX A.Dirty B.Dirty) (v:Int)=runX (ix A.Image (v:Int)).length (m v))∧∀ v i:Nat,v<2→i<(ix A.Image (v:Int)).length→ix (ix A.Image (v:Int)) (i:Int)≠ix (ix B.Image (v:Int)) (i:Int)→m v i=true:=by
 obtain⟨P,hP,uP⟩:=hA.mark;obtain⟨Q,hQ,uQ⟩:=hB.mark;have hl:=(q282 hA).1;obtain⟨hR,hM⟩:=q800 (im:=A.Image) (D:=A.Dirty) (E:=B.Dirty) (by rw [hA.sz];exact hP) (by rw [hA.sz];exact hQ);refine⟨_,fun v hv=>hR.at_ v (by omega),fun v i hv hi hd=>?_⟩;rw [hM v i (by omega) hi];by_cases q0:P v i
 ·exact .inl q0
 ·by_cases q1:Q v i
  ·exact .inr q1
  ·exact absurd ((uP v i q0).trans (uQ v i q1).symm) hd
theorem mrk_len{im:List (List Sec)}{A B:q14}(hA:PtOk im A):(mrkX A.Dirty B.Dirty).length=2:=by
 unfold mrkX;rw [List.length_map,List.length_range,q340 hA]
theorem q534{im:List (List Sec)}{A B:q14}(hA:PtOk im A)(hB:PtOk im B){v:Nat}(hv:v<2){e:q8}(he:e∈ix (mrkX A.Dirty B.Dirty) (v:Int)):0≤e.Start∧0≤e.Count∧e.Start+e.Count≤((ix A.Image (v:Int)).length:Int)∧DfP (v:Int) (ix A.Image (v:Int)) (ix B.Image (v:Int)) e.Start e.Count.toNat (dfW (v:Int) (ix A.Image (v:Int)) (ix B.Image (v:Int)) e):=by
 obtain⟨m,hm,_⟩:=q476 hA hB;rw [hm v hv] at he;have h1:=(q33 (m v) (ix A.Image (v:Int)).length).low e he;have h2:=(q33 (m v) (ix A.Image (v:Int)).length).can.pos e he;exact⟨h1.1,by omega,h1.2,(q812 _).1⟩
theorem q815{im:List (List Sec)}{A B:q14}(hA:PtOk im A)(hB:PtOk im B){v:Nat}(hv:v<2):(ix (mrkX A.Dirty B.Dirty) (v:Int)).length≤5:=by
 obtain⟨m,hm,_⟩:=q476 hA hB;rw [hm v hv];have:=(q33 (m v) (ix A.Image (v:Int)).length).len;have:=(q187 hA hv).2;omega
theorem q816{im:List (List Sec)}{A B:q14}(hA:PtOk im A)(hB:PtOk im B){v:Nat}(hv:v<2):∀ e∈ix (mrkX A.Dirty B.Dirty) (v:Int),(dfW (v:Int) (ix A.Image (v:Int)) (ix B.Image (v:Int)) e).length≤5:=fun e he=>by
 obtain⟨h1,h2,h3,h4⟩:=q534 hA hB hv he;have:=h4.len;have:=(q187 hA hv).2;omega
theorem q817{im:List (List Sec)}{A B:q14}(hA:PtOk im A)(hB:PtOk im B){v:Nat}(hv:v<2):(trV A B v).length≤25:=by
 have h1:=q281 (q816 hA hB hv);have h2:=q815 hA hB hv;unfold trV;omega
theorem q384{im:List (List Sec)}{l:List q14}{x y:Nat}{Φ:List q10×Int→Prop}(h4:l.length≤4)(hp:∀ p∈l,PtOk im p)(hx:x<l.length)(hy:y<l.length)(hΦ:Φ (trW (ix l (x:Int)) (ix l (y:Int)),0)):Z71 l (x:Int) (y:Int) Φ:=by
 have hA:PtOk im (ix l (x:Int)):=hp _ (q61 (xs:=l) (i:=(x:Int)) (iX (by omega) (by omega)));have hB:PtOk im (ix l (y:Int)):=hp _ (q61 (xs:=l) (i:=(y:Int)) (iX (by omega) (by omega)))
 have main:Z70 l (x:Int) (y:Int) Φ false:=by
  refine⟨fun q=>(by cases q),fun _=>⟨iX (by omega) (by omega),iX (by omega) (by omega),q382 (by rw [q340 hA];omega) (by rw [q340 hA,q340 hB]) ?_⟩⟩;have hml:=mrk_len (A:=ix l (x:Int)) (B:=ix l (y:Int)) hA;have hrow:=fun v (hv:v<2)=>q815 (v:=v) hA hB hv;have hdl:=fun v (hv:v<2)=>q816 (v:=v) hA hB hv;have hok:=fun v (hv:v<2) e he=>q534 (v:=v) hA hB hv (e:=e) he;have hsm:=fun v (hv:v<2)=>q187 (v:=v) hA hv;have hsame:=fun v (hv:v<2)=>q814 (v:=v) hA hB hv;have hvl:=fun v (hv:v<2)=>q817 (v:=v) hA hB hv;have hla:=(q282 hA).1;have hlb:=(q282 hB).1;refine LoopW.upT 2 (fun v=>((v:Int),(List.range v).flatMap (trV (ix l (x:Int)) (ix l (y:Int))))) rfl (fun v rec hv hr=>⟨fun _=>⟨iX (by omega) (by omega), ?_⟩,fun q=>absurd (show(v:Int)<((mrkX (ix l (x:Int)).Dirty (ix l (y:Int)).Dirty).length:Int) by omega) q⟩) fun rec=>⟨fun q=>absurd (show((2:Nat):Int)<((mrkX (ix l (x:Int)).Dirty (ix l (y:Int)).Dirty).length:Int) from q) (by omega),fun _=>hΦ⟩
  have hpre:((List.range v).flatMap (trV (ix l (x:Int)) (ix l (y:Int)))).length≤25*v:=by
   have:=q281 (l:=List.range v) (f:=trV (ix l (x:Int)) (ix l (y:Int))) (c:=25) fun u hu=>hvl u (by have:=List.mem_range.1 hu;omega);rw [List.length_range] at this;exact this
  have hr:rec ((v:Int)+1,(List.range v).flatMap (trV (ix l (x:Int)) (ix l (y:Int)))++trV (ix l (x:Int)) (ix l (y:Int)) v):=hr _ (pairE rfl (by rw [List.range_succ,List.flatMap_append,List.flatMap_cons,List.flatMap_nil,List.append_nil]));generalize (List.range v).flatMap (trV (ix l (x:Int)) (ix l (y:Int)))=pre at *;have h1:=hrow v hv;have h2:=hdl v hv;have h3:=hok v hv;have h5:=hsm v hv;have h6:=hsame v hv;unfold trV at hr;generalize hes:ix (mrkX (ix l (x:Int)).Dirty (ix l (y:Int)).Dirty) (v:Int)=es at *;refine LoopW.upT es.length (fun j=>((j:Int),pre++(es.take j).flatMap (dfW (v:Int) (ix (ix l (x:Int)).Image (v:Int)) (ix (ix l (y:Int)).Image (v:Int))))) (pairE rfl (by rw [List.take_zero,List.flatMap_nil,List.append_nil])) (fun j rec3 hj hr3=>⟨fun _=>?_,fun q=>?_⟩) fun rec3=>⟨fun q=>?_,fun _=>⟨iI (by omega) (by omega), ?_⟩⟩
  ·rw [hes]
   have hm:=q61 (xs:=es) (i:=(j:Int)) (iX (by omega) (by omega));obtain⟨g1,g2,g3,_⟩:=h3 _ hm;have hfl:((es.take (j+1)).flatMap (dfW (v:Int) (ix (ix l (x:Int)).Image (v:Int)) (ix (ix l (y:Int)).Image (v:Int)))).length≤5*(es.take (j+1)).length:=q281 fun e he=>h2 e (List.mem_of_mem_take he);rw [List.length_take] at hfl;rw [q813 _ hj] at hfl hr3;refine⟨iX (by omega) (by omega),iX (by omega) (by omega),iX (by omega) (by omega),(_,()),q533 g1 g2 g3 h6 h5.2 rfl,iL (by rw [List.append_assoc,List.length_append];exact Nat.le_trans (Nat.add_le_add_left hfl _) (by omega)) (by omega),iI (by omega) (by omega),hr3 _ (pairE rfl (List.append_assoc _ _ _))⟩
  ·rw [hes] at q
   exact absurd (show(j:Int)<(es.length:Int) by omega) q
  ·rw [hes] at q
   exact absurd (show(es.length:Int)<(es.length:Int) from q) (by omega)
  ·rw [q31];exact hr
 refine q920 (by omega) h4 hp ⟨fun q=>absurd rfl q,fun _=>⟨fun q=>absurd q (by split <;> omega),fun _=>?_⟩⟩;rw [decide_eq_false (by split <;> omega)];exact main
def covB(l:List q10)(v:Int)(i:Nat):Bool:=l.any fun w=>decide (v=w.Volume∧w.Start≤(i:Int)∧(i:Int)<w.Start+(w.Data.length:Int))
theorem q882{l:List q10}{v:Int}{i:Nat}:covB l v i=true↔∃ w∈l,v=w.Volume∧w.Start≤(i:Int)∧(i:Int)<w.Start+(w.Data.length:Int):=by
 unfold covB;rw [List.any_eq_true];exact⟨fun⟨w,h1,h2⟩=>⟨w,h1,of_decide_eq_true h2⟩,fun⟨w,h1,h2⟩=>⟨w,h1,decide_eq_true h2⟩⟩
theorem q535{l:List q10}{k:Nat}(hk:k<l.length)(v:Int)(i:Nat):covB (l.take (k+1)) v i=(decide (v=(ix l (k:Int)).Volume∧(ix l (k:Int)).Start≤(i:Int)∧(i:Int)<(ix l (k:Int)).Start+((ix l (k:Int)).Data.length:Int)) || covB (l.take k) v i):=by
 unfold covB;rw [q63 hk,List.any_append,Bool.or_comm];simp only [List.any_cons,List.any_nil,Bool.or_false]
theorem trW_cov{im:List (List Sec)}{A B:q14}(hA:PtOk im A)(hB:PtOk im B){v:Nat}(hv:v<2):runX 4096 (covB (trW A B) (v:Int))=runX (ix A.Image (v:Int)).length (difB (ix A.Image (v:Int)) (ix B.Image (v:Int))):=by
 have hs:=q187 hA hv
 have key:∀ i:Nat,covB (trW A B) (v:Int) i=true↔i<(ix A.Image (v:Int)).length∧ix (ix A.Image (v:Int)) (i:Int)≠ix (ix B.Image (v:Int)) (i:Int):=fun i=>by
  rw [q882];obtain⟨m,hm1,hm2⟩:=q476 hA hB;constructor
  ·rintro⟨w,hw,h1,h2,h3⟩
   obtain⟨u,hu,hw⟩:=List.mem_flatMap.1 hw;have hu:=List.mem_range.1 hu;obtain⟨e,he,hw⟩:=List.mem_flatMap.1 hw;obtain⟨g1,g2,g3,g4⟩:=q534 hA hB hu he;have h4:=(g4.at_ w hw).1;obtain rfl:u=v:=by omega
   have h5:=(g4.cov (i:Int)).1 ⟨w,hw,h2,h3⟩;exact⟨by omega,h5.2.2⟩
  ·rintro⟨h1,h2⟩
   have h3:=hm2 v i hv h1 h2;obtain⟨e,he,h4,h5⟩:=((q33 (m v) (ix A.Image (v:Int)).length).mem (i:Int)).2 ⟨i,h1,h3,rfl⟩;rw [← hm1 v hv] at he;obtain⟨g1,g2,g3,g4⟩:=q534 hA hB hv he;obtain⟨w,hw,h6,h7⟩:=(g4.cov (i:Int)).2 ⟨h4,by omega,h2⟩;exact⟨w,List.mem_flatMap.2 ⟨v,List.mem_range.2 hv,List.mem_flatMap.2 ⟨e,he,hw⟩⟩,(g4.at_ w hw).1.symm,h6,h7⟩
 rw [q471 (a:=(ix A.Image (v:Int)).length) (by omega) fun i h1 _=>by
  rw [Bool.eq_false_iff];intro q;have:=((key i).1 q).1
  omega]
 refine q124 fun i hi=>?_;rw [Bool.eq_iff_iff,key i];exact⟨fun q=>decide_eq_true q.2,fun q=>⟨hi,of_decide_eq_true q⟩⟩
theorem trW_at{im:List (List Sec)}{A B:q14}(hA:PtOk im A)(hB:PtOk im B):∀ w∈trW A B,0≤w.Start∧1≤w.Data.length∧w.Start+(w.Data.length:Int)≤5:=fun w hw=>by
 obtain⟨u,hu,hw⟩:=List.mem_flatMap.1 hw;have hu:=List.mem_range.1 hu;obtain⟨e,he,hw⟩:=List.mem_flatMap.1 hw;obtain⟨g1,g2,g3,g4⟩:=q534 hA hB hu he;have h4:=g4.at_ w hw;have:=(q187 hA hu).2;exact⟨by omega,h4.2.2.1,by omega⟩
theorem trW_len{im:List (List Sec)}{A B:q14}(hA:PtOk im A)(hB:PtOk im B):(trW A B).length≤50:=by
 have:=q281 (l:=List.range 2) (f:=trV A B) (c:=25) fun u hu=>q817 hA hB (List.mem_range.1 hu);rw [List.length_range] at this;exact this
theorem q818(p:Nat→Bool)(n:Nat):extsL p n=runX n p:=by
 have g:=q571 p n;refine RunX.eq ⟨g.gap,fun e he=>(g.ne e he).2⟩ fun x=>?_;constructor
 ·rintro⟨e,he,h1,h2⟩
  have h3:=(g.ne e he).1;obtain⟨i,rfl⟩:=Int.eq_ofNat_of_zero_le (show 0≤x by omega);have:=(g.cov i).2 ⟨e,he,h1,h2⟩;exact⟨i,this.1,this.2,rfl⟩
 ·rintro⟨i,h1,h2,rfl⟩
  obtain⟨e,he,h3,h4⟩:=(g.cov i).1 ⟨h1,h2⟩;exact⟨e,he,h3,h4⟩
theorem q321{l:List q10}{v:Int}{Φ:List q8→Prop}(hl:l.length≤1000000)(hp:∀ w∈l,0≤w.Start∧1≤w.Data.length∧w.Start+(w.Data.length:Int)≤5)(hΦ:Φ (runX 4096 (covB l v))):Z174 l v Φ:=by
 rw [← q818] at hΦ;refine⟨by omega,iL (by show 4096≤1000000;omega) (by omega), ?_⟩
 refine LoopW.upT l.length (fun k=>((k:Int),q116 (covB (l.take k) v) 4096)) (by
  refine pairE rfl ?_;refine q308 (by rw [q55,List.length_replicate];rfl) fun i hi=>?_;have hi:i<4096:=by rw [List.length_replicate] at hi;exact hi
  rw [q276 hi,q30 (by rw [List.length_replicate];exact hi),List.getElem_replicate];rfl) (fun k rec hk hr=>⟨fun _=>⟨iX (by omega) (by omega), ?_⟩,fun q=>absurd (show(k:Int)<(l.length:Int) by omega) q⟩) fun rec=>⟨fun q=>absurd (show(l.length:Int)<(l.length:Int) from q) (by omega),fun _=>by rw [q31];exact q469 (by omega) hΦ⟩
 have hw:=hp _ (q61 (xs:=l) (i:=(k:Int)) (iX (by omega) (by omega)));refine⟨fun q=>⟨iX (by omega) (by omega),iX (by omega) (by omega),fun r=>absurd r (by omega),fun r=>⟨fun s=>?_,fun s=>⟨fun t=>absurd t (by omega),fun t=>?_⟩⟩⟩,fun q=>⟨iI (by omega) (by omega),hr _ ?_⟩⟩
 ·have s:((q116 (covB (l.take k) v) 4096).length:Int)≤(ix l (k:Int)).Start:=s
  rw [q55] at s;omega
 ·obtain⟨a,ha⟩:=Int.eq_ofNat_of_zero_le hw.1
  have e1:(if 4096<((ix l (k:Int)).Data.length:Int) then 4096 else((ix l (k:Int)).Data.length:Int))=((ix l (k:Int)).Data.length:Int):=if_neg (by omega)
  have e2:(if(ix l (k:Int)).Start+((ix l (k:Int)).Data.length:Int)<((q116 (covB (l.take k) v) 4096).length:Int) then(ix l (k:Int)).Start+((ix l (k:Int)).Data.length:Int) else((q116 (covB (l.take k) v) 4096).length:Int))=(ix l (k:Int)).Start+((ix l (k:Int)).Data.length:Int):=by
   rw [q55];split <;> omega
  rw [e1,e2];refine⟨iI (by omega) (by omega), ?_⟩;refine LoopW.upT (ix l (k:Int)).Data.length (fun j=>(((a+j:Nat):Int),q116 (fun i=>decide (a≤i∧i<a+j) || covB (l.take k) v i) 4096)) ?_ (fun j rec2 hj hr2=>⟨fun _=>⟨iX (by omega) (by rw [q55];omega),iI (by omega) (by omega),hr2 _ ?_⟩,fun u=>absurd (show((a+j:Nat):Int)<(ix l (k:Int)).Start+((ix l (k:Int)).Data.length:Int) by omega) u⟩) fun rec2=>⟨fun u=>absurd (show((a+(ix l (k:Int)).Data.length:Nat):Int)<(ix l (k:Int)).Start+((ix l (k:Int)).Data.length:Int) from u) (by omega),fun _=>⟨iI (by omega) (by omega),hr _ ?_⟩⟩
  ·refine pairE (by rw [ha];rfl) ?_
   exact q186 fun i _=>by rw [decide_eq_false (by omega),Bool.false_or]
  ·refine pairE (by omega) ?_
   rw [q797 (by omega)];refine q186 fun i _=>?_;rw [← Bool.or_assoc]
   congr 1
   rw [Bool.eq_iff_iff];simp only [Bool.or_eq_true,decide_eq_true_eq];omega
  ·refine pairE rfl ?_
   refine q186 fun i _=>?_;rw [q535 hk]
   congr 1
   rw [Bool.eq_iff_iff];simp only [decide_eq_true_eq];omega
 ·refine pairE rfl ?_
  refine q186 fun i _=>?_;rw [q535 hk,decide_eq_false (fun t=>q t.1.symm),Bool.false_or]
def exA:q14:=ptQ 0 (zeroI szP) [⟨0#8,0#8,0#8,0#8,5#8⟩] 1 2
def exB':q14:=ptQ 1 (zeroI szP) [] 1 1
theorem ex_trW:trW exA exB'=[⟨0,0,[⟨5#8,0#8,0#8,0#8,0#8,0#8,0#8,0#8⟩]⟩]:=by rfl
theorem q682{a:Int}{Φ:Int→Prop}(hΦ:Φ 0):Z52 a a Φ:=by
 unfold Z52 Z51;rw [decide_eq_false (fun q=>q rfl)];exact⟨fun q=>(by cases q),fun _=>⟨fun q=>(by cases q),fun _=>⟨fun q=>absurd q (by omega),fun _=>⟨fun q=>absurd q (by omega),fun _=>hΦ⟩⟩⟩⟩
theorem q683{a b:Int}{Φ:Int→Prop}(h:a<b)(hΦ:Φ (-1)):Z52 a b Φ:=by
 unfold Z52 Z51;rw [decide_eq_false (fun q=>q rfl),decide_eq_false (fun q=>q rfl)];exact⟨fun q=>(by cases q),fun _=>⟨fun q=>(by cases q),fun _=>⟨fun _=>hΦ,fun q=>absurd h q⟩⟩⟩
theorem ex_cmp{Φ:Int→Prop}(hΦ:Φ (-1)):Z55 exB' exA Φ:=by
 refine⟨(⟨1,1⟩,()),⟨fun q=>absurd q (by decide),fun _=>⟨iI (by decide) (by decide),iX (by decide) (by decide),rfl⟩⟩,(⟨1,2⟩,()),⟨fun q=>absurd q (by decide),fun _=>⟨iI (by decide) (by decide),iX (by decide) (by decide),rfl⟩⟩,(-1,()), ?_,hΦ⟩;refine⟨2,⟨fun _=>⟨iX (by decide) (by decide),fun q=>absurd q (by decide),fun _=>⟨iX (by decide) (by decide), ?_⟩⟩,fun q=>absurd (by decide) q⟩⟩;refine q682 ⟨fun q=>absurd rfl q,fun _=>⟨iI (by decide) (by decide), ?_⟩⟩;refine⟨fun _=>⟨iX (by decide) (by decide),fun q=>absurd q (by decide),fun _=>⟨iX (by decide) (by decide), ?_⟩⟩,fun q=>absurd (by decide) q⟩;exact q683 (by decide) ⟨fun _=>rfl,fun q=>absurd (by decide) q⟩
theorem q136{Φ:Bool→Prop}(hΦ:Φ true):Z76 Φ:=by
 have hz:szs (zeroI szP)=szP:=q373 q135;have kA:PtOk (zeroI szP) exA:=q532 (site:=0) (e:=1) (c:=2) _ (by omega) (by omega) (by omega) (by omega) (by omega) hz;have kB:PtOk (zeroI szP) exB':=q532 (site:=1) (e:=1) (c:=1) _ (by omega) (by omega) (by omega) (by omega) (by omega) hz
 have hp:∀ p∈[exA,exB'],PtOk (zeroI szP) p:=fun p hp=>by
  rcases List.mem_cons.1 hp with rfl | hp
  ·exact kA
  ·rw [List.mem_singleton.1 hp];exact kB
 unfold Z76 Z0;refine(show q57 szP _ from q112 (fun _=>⟨fun q=>absurd rfl q,fun _=>?_⟩) fun q=>absurd q135 q);refine q92 (e:=1) (c:=2) (by show 1≤8;omega) hz kA (q92 (e:=1) (c:=1) (by show 0≤8;omega) hz kB ?_)
 have hchoose:∀ Ψ:Int×Int→Prop,Ψ (0,0)→Z58 [exA,exB'] [false,false] Ψ:=fun Ψ hq=>by
  refine q920 (by show 1≤2;omega) (by show 2≤4;omega) hp ⟨fun q=>absurd rfl q,fun _=>⟨fun q=>absurd rfl q,fun _=>⟨3, ?_⟩⟩⟩;refine⟨fun _=>⟨iX (by decide) (by show(0:Int)<2;omega),iX (by decide) (by show(0:Int)<2;omega),fun _=>⟨fun _=>⟨fun _=>⟨iI (by decide) (by decide), ?_⟩,fun q=>absurd rfl q⟩,fun q=>absurd (by decide) q⟩,fun q=>absurd (show ¬(false=true) by simp) q⟩,fun q=>absurd (show(0:Int)<2 by omega) q⟩;refine⟨fun _=>⟨iX (by decide) (by show(0:Int)+1<2;omega),iX (by decide) (by show(0:Int)+1<2;omega),fun _=>⟨fun q=>absurd q (by decide),fun _=>⟨iX (by decide) (by show(0:Int)<2;omega),ex_cmp ⟨fun q=>(by cases q),fun _=>⟨iI (by decide) (by decide), ?_⟩⟩⟩⟩,fun q=>absurd (show ¬(false=true) by simp) q⟩,fun q=>absurd (show(0:Int)+1<2 by omega) q⟩;exact⟨fun q=>absurd (show(0:Int)+1+1<2 from q) (by omega),fun _=>⟨fun q=>absurd q (by decide),fun _=>hq⟩⟩
 refine hchoose _ ?_;show Z71 [exA,exB'] ((0:Nat):Int) ((1:Nat):Int) _;refine q384 (show 2≤4 by omega) hp (show 0<2 by omega) (show 1<2 by omega) ?_;rw [show trW (ix [exA,exB'] ((0:Nat):Int)) (ix [exA,exB'] ((1:Nat):Int))=[⟨0,0,[⟨5#8,0#8,0#8,0#8,0#8,0#8,0#8,0#8⟩]⟩] from ex_trW];exact⟨fun _=>⟨fun _=>⟨fun _=>⟨fun _=>⟨fun _=>q220 (show 1≤1000000 by omega) (fun w hw=>by rw [List.mem_singleton.1 hw];show 1≤1000000;omega) hΦ,fun q=>absurd rfl q⟩,fun q=>absurd rfl q⟩,fun q=>absurd rfl q⟩,fun q=>absurd rfl q⟩,fun q=>absurd rfl q⟩
theorem same36{a:List (List q8)}{Φ:Bool→Prop}(hl:a.length≤1000)(hr:∀ v:Nat,v<a.length→(ix a (v:Int)).length≤1000)(hΦ:Φ true):Z177 a a Φ:=by
 refine⟨fun q=>absurd rfl q,fun _=>LoopW.upT a.length (fun k=>(k:Int)) rfl (fun k rec hk hrec=>⟨fun _=>⟨iX (by omega) (by omega),iX (by omega) (by omega),fun q=>absurd rfl q,fun _=>?_⟩,fun q=>absurd (show(k:Int)<(a.length:Int) by omega) q⟩) fun rec=>⟨fun q=>absurd (show(a.length:Int)<(a.length:Int) from q) (by omega),fun _=>hΦ⟩⟩;have h1:=hr k hk;have hx:inX (k:Int) a.length:=iX (by omega) (by omega);exact LoopW.upT (ix a (k:Int)).length (fun j=>(j:Int)) rfl (fun j rec2 hj hr2=>⟨hx,fun _=>⟨hx,iX (by omega) (by omega),hx,iX (by omega) (by omega),fun q=>absurd rfl q,fun _=>⟨iI (by omega) (by omega),hr2 _ rfl⟩⟩,fun q=>absurd (show(j:Int)<((ix a (k:Int)).length:Int) by omega) q⟩) fun rec2=>⟨hx,fun q=>absurd (show((ix a (k:Int)).length:Int)<((ix a (k:Int)).length:Int) from q) (by omega),fun _=>⟨iI (by omega) (by omega),hrec _ rfl⟩⟩
def difV(A B:q14)(v:Nat):List q8:=runX (ix A.Image (v:Int)).length (difB (ix A.Image (v:Int)) (ix B.Image (v:Int)))
theorem pt_hg{im:List (List Sec)}{p:q14}(h:PtOk im p){v:Nat}(hv:v<2):∃ H,Hg (ix p.Image (v:Int)).length H:=by
 obtain⟨_,h1,h2⟩:=q282 h
 match v,hv with
 | 0,_=>exact⟨3,by rw [h1];exact hg5⟩
 | 1,_=>exact⟨2,by rw [h2];exact hg3⟩
theorem three{im:List (List Sec)}{p0 p1 p2:q14}(h0:PtOk im p0)(h1:PtOk im p1)(h2:PtOk im p2):∀ p∈[p0,p1,p2],PtOk im p:=fun p hp=>by
 rcases List.mem_cons.1 hp with rfl | hp
 ·exact h0
 ·rcases List.mem_cons.1 hp with rfl | hp
  ·exact h1
  ·rw [List.mem_singleton.1 hp];exact h2
theorem want_ok{im:List (List Sec)}{A B:q14}{Φ:Bool→Prop}(hA:PtOk im A)(hB:PtOk im B)(hΦ:Φ true):LoopW (Z178 (trW A B,0) ((List.range 2).map (difV A B)) Φ) (0,[]):=by
 have hsm:∀ v:Nat,v<2→(difV A B v).length≤5:=fun v hv=>by
  unfold difV;have:=(q33 (difB (ix A.Image (v:Int)) (ix B.Image (v:Int))) (ix A.Image (v:Int)).length).len;have:=(q187 hA hv).2;omega
 refine LoopW.upT 2 (fun v=>((v:Int),(List.range v).map (difV A B))) rfl (fun v rec hv hr=>⟨fun _=>q321 (show(trW A B).length≤1000000 by have:=trW_len hA hB;omega) (trW_at hA hB) ?_,fun q=>absurd (show(v:Int)<2 by omega) q⟩) fun rec=>⟨fun q=>absurd q (by decide),fun _=>same36 (by rw [List.length_map,List.length_range];omega) (fun v hv=>?_) ⟨fun _=>q136 hΦ,fun q=>absurd rfl q⟩⟩
 ·show lenOk ((List.range v).map (difV A B)++[runX 4096 (covB (trW A B) (v:Int))]).length 24∧inI ((v:Int)+1)∧rec ((v:Int)+1,(List.range v).map (difV A B)++[runX 4096 (covB (trW A B) (v:Int))])
  rw [trW_cov hA hB hv];exact⟨iL (by rw [q20,List.length_map,List.length_range];omega) (by omega),iI (by omega) (by omega),hr _ (pairE rfl (q51 (difV A B) v).symm)⟩
 ·rw [List.length_map,List.length_range] at hv
  rw [q219 (difV A B) hv];have:=hsm v hv;omega
theorem q222(x0:q19)(x1:q45)(_:Rg.rg x0)(_:Rg.rg x1):Z180 x0 x1 fun y=>y=true:=by
 refine q475 ⟨fun q=>absurd rfl q,fun _=>⟨fun _=>q136 rfl,fun q=>absurd rfl q⟩⟩ fun im p0 p1 p2 ls h0 h1 h2=>?_;have hp:=three h0 h1 h2;have ha:=mod3 x1.e0;have hb:=mod3 x1.e1;refine⟨fun q=>absurd rfl q,fun _=>⟨fun q=>absurd (show(3:Int)=0 from q) (by omega),fun _=>⟨by decide,by decide,by decide,by decide, ?_⟩⟩⟩;have ia:inX ((x1.e0 % (3#8)).toNat:Int) [p0,p1,p2].length:=iX (by omega) (by show _<(3:Int);omega);have ib:inX ((x1.e1 % (3#8)).toNat:Int) [p0,p1,p2].length:=iX (by omega) (by show _<(3:Int);omega);have hA:PtOk im (ix [p0,p1,p2] ((x1.e0 % (3#8)).toNat:Int)):=hp _ (q61 ia);have hB:PtOk im (ix [p0,p1,p2] ((x1.e1 % (3#8)).toNat:Int)):=hp _ (q61 ib);refine q384 (show 3≤4 by omega) hp (show _<3 by omega) (show _<3 by omega) ?_;have hla:=(q282 hA).1;have hlb:=(q282 hB).1
 have main:LoopW (Z179 x1 ([p0,p1,p2],ls,true) (trW (ix [p0,p1,p2] ((x1.e0 % (3#8)).toNat:Int)) (ix [p0,p1,p2] ((x1.e1 % (3#8)).toNat:Int)),0) fun y=>y=true) (0,[]):=by
  have hwant:=want_ok (Φ:=fun y=>y=true) hA hB rfl;have hsm:=fun v (hv:v<2)=>q187 (v:=v) hA hv;have hsame:=fun v (hv:v<2)=>q814 (v:=v) hA hB hv;have hhg:=fun v (hv:v<2)=>pt_hg (v:=v) hA hv;generalize hAe:ix [p0,p1,p2] ((x1.e0 % (3#8)).toNat:Int)=A at *;generalize hBe:ix [p0,p1,p2] ((x1.e1 % (3#8)).toNat:Int)=B at *;refine LoopW.upT 2 (fun v=>((v:Int),(List.range v).map (difV A B))) rfl (fun v rec hv hr=>⟨fun _=>?_,fun q=>absurd (show(v:Int)<2 by omega) q⟩) fun rec=>⟨fun q=>absurd q (by decide),fun _=>hwant⟩
  obtain⟨H,hH⟩:=hhg v hv;have hsz:=hsame v hv;have hHb:Hg (ix B.Image (v:Int)).length H:=by rw [hsz];exact hH
  have hxa:inX (v:Int) A.Image.length:=iX (by omega) (by omega);have hxb:inX (v:Int) B.Image.length:=iX (by omega) (by omega);have eb:treA (ix B.Image (v:Int)) H=treD (ix A.Image (v:Int)).length (leafS (ix B.Image (v:Int))) H:=by unfold treA;rw [hsz]
  show inX ((x1.e0 % (3#8)).toNat:Int) [p0,p1,p2].length∧inX (v:Int) ((ix [p0,p1,p2] ((x1.e0 % (3#8)).toNat:Int)).Image).length∧Z92 (ix ((ix [p0,p1,p2] ((x1.e0 % (3#8)).toNat:Int)).Image) (v:Int)) 1 _;rw [hAe];refine⟨ia,hxa,q647 hH ?_⟩;show inX ((x1.e1 % (3#8)).toNat:Int) [p0,p1,p2].length∧inX (v:Int) ((ix [p0,p1,p2] ((x1.e1 % (3#8)).toNat:Int)).Image).length∧Z92 (ix ((ix [p0,p1,p2] ((x1.e1 % (3#8)).toNat:Int)).Image) (v:Int)) 1 _;rw [hBe];refine⟨ib,hxb,q647 hHb ?_⟩
  have hrun:∀ Ψ:List q8×Int×Int→Prop,(∀ F s,Finds (ix A.Image (v:Int)).length H (leafS (ix A.Image (v:Int))) (leafS (ix B.Image (v:Int))) F→Ψ (F,s,0))→q122 (treA (ix A.Image (v:Int)) H) (treA (ix B.Image (v:Int)) H) Ψ:=fun Ψ hq=>by
   rw [eb];exact Run_ok hH (q233 _) (by rw [q233,hsz]) hq
  refine hrun _ fun F s hF=>⟨fun q=>absurd rfl q,fun _=>⟨fun q=>absurd rfl q,fun _=>⟨fun q=>absurd rfl q,fun _=>?_⟩⟩⟩
  refine⟨ia,hxa,ib,hxb, ?_⟩;by_cases nc:q531 (ix A.Image (v:Int)) (ix B.Image (v:Int)) H
  ·refine⟨(false,()),q221 (c:=false) hH hsz (fun q=>absurd nc q) (fun _=>rfl) rfl,fun q=>(by cases q),fun _=>?_⟩
   rw [q811 hsz nc hF];exact⟨iL (by rw [q20,List.length_map,List.length_range];omega) (by omega),iI (by omega) (by omega),hr _ (pairE rfl (q51 (difV A B) v).symm)⟩
  ·exact⟨(true,()),q221 (c:=true) hH hsz (fun _=>rfl) (fun q=>absurd q nc) rfl,fun _=>q136 rfl,fun q=>absurd rfl q⟩
 refine⟨fun q=>absurd rfl q,fun _=>⟨fun q=>absurd (show(3:Int)<3 from q) (by omega),fun _=>⟨ia,fun q=>?_,fun _=>⟨ib,fun q=>?_,fun _=>main⟩⟩⟩⟩
 ·have q:((ix [p0,p1,p2] ((x1.e0 % (3#8)).toNat:Int)).Image.length:Int)<2:=q
  omega
 ·have q:((ix [p0,p1,p2] ((x1.e1 % (3#8)).toNat:Int)).Image.length:Int)<2:=q
  omega
end Go.Proofs.YtmfeabjhjhjfeaaGreatDoor
namespace Go.Proofs.YtmfeabjhjhjfeaaGreatDoor
open Go.RowKit Go.ChangeShapes Go.WideShapes Go.ChangeAt
set_option maxRecDepth 100000 in
theorem q164 (os:Os) (started:os.Started) (H:Type) (enc:TypeId×Value→H) :
  ReturnsInHanded {} Tryz.checked os 3 .any (fun w args=>(Rows.topResyncsCompareSpec.pre enc Tryz.prog Tryz.f3 [] false w args∧laidMetH Tryz.prog [("math/bits.deBruijn64tab",Rows.laid_math_bits_deBruijn64tab)] w)∧sizedMet enc Tryz.prog Tryz.f3 (OpenSpec.ofChange Rows.topResyncsCompareSpec) false w args)
   (Rows.topResyncsCompareSpec.post enc Tryz.prog Tryz.f3 false true false false):=by
 refine returnsInHanded_of_change_and (C:=Tryz.checked) (X:=fun w _=>laidMetH Tryz.prog [("math/bits.deBruijn64tab",Rows.laid_math_bits_deBruijn64tab)] w) (fun _ _ _ hh h=>h.of_heap hh) Tryz.own started (by kernel_rfl) Tryz.func3
  (ChangeSpec.witness_shaped (enc:=enc) (C:=Tryz.checked) (os:=os) (X:=fun w _=>laidMetH Tryz.prog [("math/bits.deBruijn64tab",Rows.laid_math_bits_deBruijn64tab)] w) false (World.doorLaid Tryz.prog 14 os) #[.agg #[.slice none 0 0,.slice none 0 0,.slice none 0 0,.slice none 0 0,.int .u8 (0),.int .u8 (0),.int .u8 (0),.int .u8 (0),.int .u8 (0),.int .u8 (0),.bool false,.bool false,.bool false],.agg #[.int .u8 (0),.int .u8 (0)]] 8 rfl (World.shaped_of_RefB (by kernel_rfl) (by kernel_rfl)) (by kernel_rfl) (by kernel_rfl) (by kernel_rfl) (Tryz.doorMet os _)) ?_
 intro W base args ds gs before hval0 hW _ _ hL _;have hval:∀ (j:Nat) t v,Tryz.f3.params[j]? = some t→args[j]? = some v→Value.okWide Tryz.prog W .any base t v:=hval0;have hW':=hW;obtain⟨p,q,hA0,hV,hpq,_,_⟩:=hW;have hA:DataW.TrodAll enc Tryz.prog W 0 (fun _=>true) true Tryz.f3.params.toList args.toList ds p:=hA0;rw [Tryz.params3] at hA hval;obtain⟨v0,v1,d0,d1,p0,p1,rfl,rfl,rfl,h0,h1⟩:=trodAll_two hA;obtain⟨rfl,rfl⟩:=trodVars_none hV;have hT:=q848 hL;obtain⟨ks0,x0,rfl,hr0,hg0⟩:=q708 Tryz.underlying27 rd27 (hval 0 27 v0 rfl rfl) h0;obtain⟨ks1,x1,rfl,hr1,hg1⟩:=q709 Tryz.underlying28 rd28 (hval 1 28 v1 rfl rfl) h1;refine Calls.mono ((RetP.toV (y:=true) (F:=fun z=>.bool z) (RetP.mono (ok3 (x0,x1,()) (fun y=>y.1=true) (q222 x0 x1 hg0 hg1) (HW W) [.agg ks0.toArray,.agg ks1.toArray] hT ⟨_,ks0,_,rfl,by rw [pkw27],(show Dt.rd (α:=q19) (HW W) _ _ from hr0),⟨_,ks1,_,rfl,by rw [pkw28],(show Dt.rd (α:=q45) (HW W) _ _ from hr1),rfl⟩⟩) fun _ _ _ _ ⟨y,hy,hr⟩=>lawRes y hy hr)) W fun b o e=>e) ?_
 rintro e W' ⟨v,_,rfl,_,_,_,hb,rfl⟩
 exact⟨_,rfl,q820 Tryz.laidOut Tryz.underlying4 rfl (by kernel_rfl) hW' rfl rfl hb⟩
theorem q188:Rows.TopResyncsCompareSaid:=
 OpenClaim.holds_of_wide 3 Tryz.f3 rfl rfl rfl rfl rfl rfl rfl ⟨rfl,rfl,rfl,rfl,rfl⟩ rfl rfl rfl rfl rfl (by kernel_rfl) Tryz.func3 (by kernel_rfl)
  (of_decide_eq_true (by kernel_rfl)) (by unfold Func.isWrapper;first | (rw [if_pos (by decide +kernel)];kernel_rfl) | (rw [if_neg (by decide +kernel)];exact⟨rfl,rfl⟩))
  (fun os started H enc _=>q164 os started H enc)
theorem topResyncsCompare_card:Rows.TopResyncsCompareCardSaid:=
 Claim7.holds_tied_plain_at .later [] [.data] true (true, "a9f48224624077f3b202f65b2a5e1761957adc0a1ebb93f4de8092304e9557a8") false
  q188 (fun _ h=>by cases h) (by kernel_rfl) (fun _ h=>by cases h) topResyncsCompare_row_tie rfl ⟨rfl,rfl⟩ (by kernel_rfl) rfl
  (fun f fn hf hfn=>by
   obtain rfl:f=3:=Option.some.inj ((show Tryz.prog.funcNamed "standby/standbytop.TopResyncsCompare" = some 3 by kernel_rfl).symm.trans hf) |>.symm
   obtain rfl:fn=Tryz.f3:=(Option.some.inj (Tryz.func3.symm.trans hfn)).symm
   exact⟨by kernel_rfl,fun j t ht=>by
    rw [Tryz.params3] at ht
    have hm:t∈[27,28]:=by
     have:=Array.mem_of_getElem? ht;simpa using this
    have hall:([27,28].all fun u=>!Tryz.prog.wantsStandIn u)=true:=by kernel_rfl
    exact(show Tryz.prog.wantsStandIn t=false by simpa using List.all_eq_true.1 hall t hm)⟩)
  (by kernel_rfl)
end Go.Proofs.YtmfeabjhjhjfeaaGreatDoor
