import Derived.Shelf.SlSortCmp.NoneTotal
import Derived.Test.YtmaimjajdbgmiaaGreatDoorAm
import Derived.Test.YtmaimjajdbgmiaaGreatDoorAn
import Derived.Test.YtmaimjajdbgmiaaGreatDoorAi
set_option linter.unusedVariables false
set_option linter.unusedSimpArgs false
set_option maxRecDepth 100000
set_option maxHeartbeats 0
open Go.Value renaming int→I,string→V,pointer→X,bool→Y,slice→T,tuple→aB,agg→aC
open Go.IntKind renaming i64→J
open Option renaming none→U,some→G
open Go renaming World→aw,Calls→ax
open Go.Ending renaming returned→ay
open Go.Obj renaming cells→az
open List renaming length_append→aL,setIfInBounds_toArray→aF
open Nat renaming le_refl→aN,le_trans→aO
open Go.Proofs.Tryz
open Go.Proofs.Tryz renaming prog→av
namespace Go.Proofs.YtmaimjajdbgmiaaGreatDoor
open Go.Lib Go.Maps Go.RowKit
section
variable{w w':aw}{sb aZ k i:Nat}{C:Cf}{s s':dM}{a a':gE}{d:eF}{B:Int}
theorem Ny{t a:Int}(ht:0<=t/\t<16)(ha: -1<=a/\a<=1048576):eN (bk 6 t a):=
 ⟨by simp[bk],ht,ha,λh=>by simp[bk]at h,by simp[bk],by show(0:Nat)<=16;omega,λh=>by simp[bk]at h,by show(0:Nat)<=32;omega⟩
theorem YM{t a:Int}{y:Bool}(ht:0<=t/\t<16)(ha: -1<=a/\a<=1048576):eN (fy t a y):=
 ⟨by simp[fy],ht,ha,λh=>by simp[fy]at h,by simp[fy],by show(0:Nat)<=16;omega,λh=>by simp[fy]at h,by show(0:Nat)<=32;omega⟩
abbrev qf6(t:Int)(x:cG)(v:Value):Array Value:=#[I J t,I J x.aS,I J x.last.kind,I J x.last.tx,I J x.last.aS,I J x.last.aY,I J x.last.op,V x.last.key,V x.last.val,I J x.last.mode,Y x.last.yes,v]
theorem Nz(h:gS w sb C aZ s a)(hA:cO C s B)(hB:B<=1099511627776)(cp:aZ<1000000)(j8:s.order.length<=1000){t wait:Int}(ht:0<=t/\t<16){x:cG}(hxa: -1<=x.aS/\x.aS<=1048576)(vA:Option Addr)(vn vc:Nat):
 ax av 75 #[X (G ⟨sb,0,U⟩),aC (qf6 t x (T vA vn vc)),I J wait] w λe w'=>e=ay (I J (dE C s t x.aS wait).2)/\sU w sb C (aZ+2) s a (dE C s t x.aS wait).1 w':=by
 have HH:=O h;have hk:bZ C t<C.ns:=Nat.mod_lt _ (by have:=h.m.ig.w.ns;omega);obtain⟨aS,⟨kd,tx,EH,st,op,key,val,mode,yes⟩,wr⟩:=x;dsimp only at hxa;have Eh:=O (λw' (hN:M w w')=>rY (h.m.aR hN) ht.1);have tX:=O (λw' (hN:M w w')=>pW ((h.m.sh _ hk).aR hN) t);have YN:=O (λw' (hN:M w w')=>Hk ((h.m.sh _ hk).aR hN));have xG:=O (λw' (hN:M w w')=>(show ax av 64 #[X (G ⟨sb,0,U⟩),X (G ⟨a.iz (bZ C t),0,U⟩),aC #[I J 6,I J t,I J aS,I J 0,I J 0,V ⟨#[]⟩,V ⟨#[]⟩,I J 0,Y false]] w' _ from
  mY (h.m.aR hN) hk (c:=bk 6 t aS) (Ny ht hxa) (λe=>by simp[bk]at e) (λe=>by simp[bk]at e) (hA.w.sh _) cp j8))
 have HC:=O (hA.h.QC (bZ C t));have HR:=O (hA.h.SV (bZ C t) t);have HG:=O (hA.g (bZ C t) t)
 try dsimp only
 obtain⟨RR,Kp⟩:=bG (dE C s t aS wait);rw[Kp];unfold dE at Kp;obtain⟨ae,hO⟩:=bG (bO s (bZ C t) (bk 6 t aS));rw[hO]at xG Kp;obtain⟨S1,code,state,VV,HB⟩:=ae;obtain⟨p,hp⟩:=bG (a.iz (bZ C t));rw[hp]at Eh tX YN xG;obtain⟨F,hF⟩:=bG ((s.sh (bZ C t)).rows t);obtain⟨ck,XE⟩:=bG ((s.sh (bZ C t)).clock);rw[hF]at tX HR HG Kp;rw[XE]at YN HC HR Kp;dsimp only at *;obtain⟨RS,RI⟩:=RR;have Kq:=O Kp;have HFD:=O (show∀w',(Instr.field 66 (aC #[I J code,I J state,V VV,Y HB]) 1).run av w'= .ok (I J state) w' from λ_=>by kernel_rfl);clear Kp;dsimp only;clear h hk hA cp j8 hO hp hF XE hxa ht;obtain⟨LB,hLB⟩:=bG (#[I J t,I J aS,I J kd,I J tx,I J EH,I J st,I J op,V key,V val,I J mode,Y yes,T vA vn vc]);have YO:=O hLB;clear hLB;obtain⟨W,hW⟩:=bG (F.getD qS);obtain⟨IS,RD⟩:=bG (F.isSome);rw[hW,RD]at tX;obtain⟨zI,ij,zJ,fg,ee⟩:=W;simp only[uk]at tX;go_enter func75,ntmps75;go_wp2_with fail;obtain⟨w1,bT⟩:=bG (w.alloc (az #[I J t,I J aS,I J kd,I J tx,I J EH,I J st,I J op,V key,V val,I J mode,Y yes,T vA vn vc] 133));have cH:=kb bT;have fK:=O (show aX w1 w.heap.size 133 LB from YO.o▸bT▸aX.new w 133 _);rw[bT];obtain⟨qb,bE⟩:=bG (w.heap.size);rw[bE]at fK
 try simp only[bE]
 clear bT bE;refine(Eh.o _ cH.o).mono ?_;rintro e w2 ⟨rfl,m,rfl⟩;dsimp only;have bJ:=O (show M w (w1.drewN m)from cH.o.drewN m);have gn:=O (fK.o.drewN m);generalize w1.drewN m=w2 at *;have q0:w2.cell? ⟨qb,0,U⟩=G (I J t):=by rw[gn.o.c, <-YO.o];rfl
 have q1:w2.cell? ⟨qb,1,U⟩=G (I J aS):=by rw[gn.o.c, <-YO.o];rfl
 have ql:=gn.o.lt;clear cH fK;go_wp2_with fail;have cE:=O (show M w (w2.alloc (az #[I J 6,I J t,I J aS,I J 0,I J 0,V ⟨#[]⟩,V ⟨#[]⟩,I J 0,Y false] 60))from bJ.o.alloc _);have wQ:=O (show aX (w2.alloc (az #[I J 6,I J t,I J aS,I J 0,I J 0,V ⟨#[]⟩,V ⟨#[]⟩,I J 0,Y false] 60)) qb 133 LB from gn.o.alloc _);have fL:=O (show aX (w2.alloc (az #[I J 6,I J t,I J aS,I J 0,I J 0,V ⟨#[]⟩,V ⟨#[]⟩,I J 0,Y false] 60)) w2.heap.size 60 #[I J 6,I J t,I J aS,I J 0,I J 0,V ⟨#[]⟩,V ⟨#[]⟩,I J 0,Y false]from aX.new w2 60 _);obtain⟨w3,je⟩:=bG (w2.alloc (az #[I J 6,I J t,I J aS,I J 0,I J 0,V ⟨#[]⟩,V ⟨#[]⟩,I J 0,Y false] 60));obtain⟨qc,qq⟩:=bG (w2.heap.size);rw[je]at cE wQ fL;rw[qq]at fL;simp only[je,qq];clear je qq q0 q1 ql bJ gn;refine(tX.o _ cE.o).mono ?_;rintro e w4 ⟨rfl,hN⟩;dsimp only;have dQ:=O (cE.o.t hN);have Fa:=O (wQ.o.ch hN (λh=>h));have iq:=O (fL.o.ch hN (λh=>h));clear hN cE wQ fL;have q0:w4.cell? ⟨qb,0,U⟩=G (I J t):=by rw[Fa.o.c, <-YO.o];rfl
 have q1:w4.cell? ⟨qb,1,U⟩=G (I J aS):=by rw[Fa.o.c, <-YO.o];rfl
 have ql:=Fa.o.lt;have⟨c0,c1,c2,c3,c4⟩:=iP iq.o;have⟨c5,c6,c7,c8⟩:=(show _/\_/\_/\_ from⟨iq.o.c 5,iq.o.c 6,iq.o.c 7,iq.o.c 8⟩);have cl:=iq.o.lt;cases F with
 |none=>
  obtain rfl:false=IS:=RD;obtain⟨rfl,rfl⟩:RS=s/\RI=0:=by
   have e:=Kq.o;dsimp only at e;injection e with e1 e2;exact⟨e1.symm,e2.symm⟩
  clear hW;go_wp2_with fail;go_ret;exact⟨rfl,(sU.same HH.o (dQ.o.alloc _)).mono (by omega)⟩
 |some r=>
  obtain rfl:true=IS:=RD;obtain rfl:r=⟨zI,ij,zJ,fg,ee⟩:=hW;have hr:=HR.o _ rfl;have hg:=HG.o _ rfl;have hc:=HC.o;dsimp only at hr hg⊢;by_cases h1:ij<aS
  ·obtain⟨rfl,rfl⟩:RS=s/\RI=0:=by
    have e:=Kq.o;dsimp only at e;rw[if_pos h1]at e;injection e with e1 e2;exact⟨e1.symm,e2.symm⟩
   have e1:decide (ij<aS)=true:=decide_eq_true h1;go_wp2_with fail;go_ret;exact⟨rfl,(sU.same HH.o (dQ.o.alloc _)).mono (by omega)⟩
  have e1:decide (ij<aS)=false:=decide_eq_false h1;by_cases h2:aS<ij
  ·obtain⟨rfl,rfl⟩:RS=s/\RI=3:=by
    have e:=Kq.o;dsimp only at e;rw[if_neg h1,if_pos h2]at e;injection e with e1 e2;exact⟨e1.symm,e2.symm⟩
   have e2:decide (ij>aS)=true:=decide_eq_true h2;have e2':decide (aS<ij)=true:=decide_eq_true h2;go_wp2_with fail;go_ret;exact⟨rfl,(sU.same HH.o (dQ.o.alloc _)).mono (by omega)⟩
  have e2':decide (aS<ij)=false:=decide_eq_false h2;by_cases h3:fg=1
  ·subst h3;have SI:=O (show(if wait<ck-ee then(S1,state)else(s,(0:Int)))=(RS,RI)from by
    have e:=Kq.o;dsimp only at e;rw[if_neg h1,if_neg h2,if_neg (by simp)]at e;exact e)
   have Wx:IntKind.i64.wrap (ck-ee)=ck-ee:=IntWalk.i64_in _ ⟨by omega,by omega⟩;have dZ:=O (λn=>YN.o ((w4.alloc (az #[I J zI,I J ij,I J zJ,I J 1,I J ee] 186)).drewN n) ((dQ.o.alloc _).drewN n));clear hr hg hc h1 h2;go_upto_region 10 with(fail)
   go_quiet((go_at_call 126;exact oI (dZ.o _)))
   by_cases h4:wait<ck-ee
   ·obtain⟨rfl,rfl⟩:RS=S1/\RI=state:=by
     have e:=SI.o;rw[if_pos h4]at e;injection e with e1 e2;exact⟨e1.symm,e2.symm⟩
    have e4:decide (ck-ee>wait)=true:=decide_eq_true h4;have e4':decide (wait<ck-ee)=true:=decide_eq_true h4;have ff:=O (show M w ((w4.alloc (az #[I J zI,I J ij,I J zJ,I J 1,I J ee] 186)).drewN nq)from(dQ.o.alloc _).drewN _);go_wp2_with fail;refine(xG.o _ ff.o).mono ?_;rintro e w6 ⟨rfl,b6,oA6,oc6,ze,kK⟩;dsimp only;have sJ:=O ze;have lJ:=O kK;clear ze kK;have hfd:=HFD.o;go_wp2_with fail;go_ret;exact⟨rfl,_,(HH.o.aR ff.o).next sJ.o lJ.o,(Sub.bj _ ff.o).trans lJ.o,rfl,rfl,rfl⟩
   ·obtain⟨rfl,rfl⟩:RS=s/\RI=0:=by
     have e:=SI.o;rw[if_neg h4]at e;injection e with e1 e2;exact⟨e1.symm,e2.symm⟩
    have e4:decide (ck-ee>wait)=false:=decide_eq_false h4;have e4':decide (wait<ck-ee)=false:=decide_eq_false h4;have ff:=O (show M w ((w4.alloc (az #[I J zI,I J ij,I J zJ,I J 1,I J ee] 186)).drewN nq)from(dQ.o.alloc _).drewN _);go_wp2_with fail;go_ret;exact⟨rfl,(sU.same HH.o ff.o).mono (by omega)⟩
  ·have e3:(fg==1)=false:=beq_eq_false_iff_ne.2 h3;obtain⟨rfl,rfl⟩:RS=s/\RI=fg:=by
    have e:=Kq.o;dsimp only at e;rw[if_neg h1,if_neg h2,if_pos h3]at e;injection e with e1 e2;exact⟨e1.symm,e2.symm⟩
   go_wp2_with fail;go_ret;exact⟨rfl,(sU.same HH.o (dQ.o.alloc _)).mono (by omega)⟩
end
section
variable{w w':aw}{sb aZ k i:Nat}{C:Cf}{s s':dM}{a a':gE}{d:eF}{B:Int}
theorem NA(h:cO C s B)(hB:B<1099511627776)(t x wait:Int):cO C (dE C s t x wait).1 B:=by
 unfold dE
 repeat' split
 all_goals first|exact h|exact vw h hB _ _
theorem gE.same.trans{a1 a2 a3:gE}(h:a1.same a2)(h':a2.same a3):a1.same a3:=⟨h'.1.trans h.1,h'.2.1.trans h.2.1,h'.2.2.trans h.2.2⟩
def lE(L:List (Int×cG×Value)):List (Int×Int):=L.map λp=>(p.1,p.2.1.aS)
theorem Cq{x:dm}{L:List (Int×cG×Value)}(h1:(L.map (·.1)).Nodup)(h2: ∀t y,x.br t=G y->∃v,(t,y,v)∈L)(h3: ∀p∈L,x.br p.1=G p.2.1):uX x (lE L):=by
 refine⟨by unfold lE;rw[List.map_map];exact h1,λt a=>⟨λh=>?_,λ⟨y,e1,e2⟩=>?_⟩⟩
 ·obtain⟨p,hp,e⟩:=List.mem_map.1 h;injection e with e1 e2;subst e1 e2;exact⟨p.2.1,h3 p hp,rfl⟩
 ·obtain⟨v,hv⟩:=h2 t y e1;subst e2;exact List.mem_map.2 ⟨_,hv,rfl⟩
def RkO(w:aw)(sb:Nat)(C:Cf)(aZ:Nat)(s:dM)(a:gE)(B wait:Int)(k:Nat)(wr:aw):Prop:=
 ∃sk ak,gS wr sb C (aZ+100*k) sk ak/\Sub (a.F C sb s) (ak.F C sb sk) w wr/\a.same ak/\cO C sk B/\(k<=C.h->sk=s)/\(C.h<k->∃ls,uX (s.sh C.h) ls/\sk=ls.foldl (cW C C.h wait) s)
def RkI(w:aw)(sb:Nat)(C:Cf)(aZ:Nat)(s:dM)(a:gE)(B wait:Int)(k:Nat)(A:Option Addr)(n c:Nat)(L:List (Int×cG×Value))(sk:dM)(j:Nat)(wr:aw):Prop:=
 ∃sj aj,gS wr sb C (aZ+100*k+4*j) sj aj/\Sub (a.F C sb s) (aj.F C sb sj) w wr/\a.same aj/\cO C sj B/\lZ wr A n c L/\(∀g,(T A n c).ownBlock=G g->¬aj.F C sb sj g)/\sj=((lE L).take j).foldl (cW C k wait) sk
theorem gS.mono{cY:Nat}(h:gS w sb C aZ s a)(hm:aZ<=cY):gS w sb C cY s a:=⟨h.m.mono hm,h.env,h.cv⟩
theorem Cr(h:gS w sb C aZ s a)(hA:cO C s B)(hB:B<1099511627776)(cp:aZ<=900000){wait:Int}(hw:0<=wait/\wait<=1099511627776):
 ax av 35 #[X (G ⟨sb,0,U⟩),I J wait] w λe w'=>e=ay (I J 0)/\∃ls,uX (s.sh C.h) ls/\sU w sb C (aZ+1000) s a (ls.foldl (cW C C.h wait) s) w':=by
 have sP:=h.m.ig.w.ns;have hh:=h.m.ig.w.h;obtain⟨g,sB,nz,_⟩:=h.m.oD hh;have YP:=O sB;have x2:=h.m.cells.2.2.1;rw[sB]at x2;have xl:=h.m.aW.lt;have w1:decide (wait<0)=false:=decide_eq_false (by omega);have w2:decide (wait>1099511627776)=false:=decide_eq_false (by omega);have w3:decide (1099511627776<wait)=false:=decide_eq_false (by omega);obtain⟨N,hN⟩:=bG (C.ns);have NB:=O hN;rw[hN]at x2 sP hh;have Ab:=O (show RkO w sb C aZ s a B wait 0 w from⟨s,a,h.aR (Ch.r _ w),Sub.refl _ _,⟨rfl,rfl,rfl⟩,hA,λ_=>rfl,λe=>by omega⟩);clear h hA sB hN;go_enter func35,ntmps35;go_wp2_with fail
 go_loopw[21] (λiv wr=>∃k:Nat,k<=N/\iv=I J k/\RkO w sb C aZ s a B wait k wr) (λiv _=>N- (intOf iv).toNat)
 case atStart=>exact⟨0,by omega,rfl,Ab.o⟩
 case round=>
  obtain⟨k,hk,rfl,sk,ak,hg,hs,Tl,hall,he,hf⟩:=hrel;have HG:=O hg;have HS:=O hs;have Oz:=O Tl;have RG:=O hall;have HE:=O he;have HF:=O hf;clear hg hs Tl hall he hf x2 xl;by_cases hlt:k<N
  ·have Dz:k<C.ns:=by rw[NB.o];exact hlt
   have jq:(k:Int)<(N:Int):=by omega
   obtain⟨g',e1,YQ,y⟩:=HG.o.m.oD Dz;rw[Oz.o.1,YP.o]at e1;injection e1 with e1;injection e1 with e1;subst e1;rw[Oz.o.2.2]at y;have JN:=O (yj (HG.o.m.sh k Dz) (by omega));rw[Oz.o.2.2]at JN;obtain⟨p,hp⟩:=bG (a.iz k);have HP:=O hp;rw[hp]at JN y;clear hp;go_wp2_with fail;refine JN.o.mono ?_;rintro e w4 ⟨A,n,c,L,rfl,hL,qd8,hnd,CQ,PB,dL,pV⟩;dsimp only;have JD:=O CQ;have iC:=O PB;have dB:=O hnd;have hlen:=hL.len;have HI0:=O (show RkI w sb C aZ s a B wait k A n c L sk 0 w4 from⟨sk,ak,HG.o.aR pV,HS.o.trans (Sub.bj _ pV),Oz.o,RG.o,hL,λb hb e=>by
    have:=HG.o.m.fC b e;have:=dL b hb;omega,rfl⟩)
   have HWK:=O (HG.o.m.sh k Dz).dR;clear hL CQ PB dL pV hnd y;go_wp2_with fail
   go_loopw[28] (λiv wr=>∃j:Nat,j<=n/\iv=I J j/\RkI w sb C aZ s a B wait k A n c L sk j wr) (λiv _=>n- (intOf iv).toNat)
   case atStart=>exact⟨0,by omega,rfl,HI0.o⟩
   case round=>
    obtain⟨j,hj,rfl,sj,aj,hgj,Tm,NC,Tn,hLj,Tp,hej⟩:=hrel;have HGJ:=O hgj;have HSJ:=O Tm;have HMJ:=O NC;have WO:=O Tn;have HLJ:=O hLj;have HDJ:=O Tp;have Tq:=O hej;clear hgj Tm NC Tn hLj Tp hej;by_cases hlj:j<n
    ·obtain⟨⟨t,x,v⟩,hx⟩:=bh (show j<L.length by omega);obtain⟨kT,VA,vn,vc,hv⟩:=iC.o _ (bS hx);dsimp only at kT hv;subst hv;have YR:k=C.h:=by
      by_cases e:k=C.h
      ·exact e
      ·have:=(RG.o.i.CU k e).2 t;rw[kT]at this;cases this
     have LG:=HWK.o.lk t x kT;have AZ:=RG.o.i.lb t x (by rw[<-YR];exact kT);have JW:((lE L).take (j+1)).foldl (cW C k wait) sk=cW C k wait sj (t,x.aS):=by
      have hp:(lE L)[j]?=G (t,x.aS):=by unfold lE;rw[List.getElem?_map,hx];rfl
      have PC:=bf hp;rw[List.take_succ_eq_append_getElem PC,List.foldl_append, <-Tq.o];rw[List.getElem?_eq_getElem PC]at hp;injection hp with hp;rw[hp];rfl
     obtain⟨b,off,rfl,hb,x0,x1,x2,x3,x4,x5,x6,x7,x8,x9,rE,mq⟩:=HLJ.o.at_ hx;have Ot:(j:Int)<(n:Int):=by omega
     have j8:sj.order.length<=1000:=by have:=jd WO.o.i;have:=WO.o.w.fx;omega
     have Om:=O (λo=>Nz (HGJ.o.aR ((Ch.r _ _).alloc o)) WO.o (by omega) (by omega) j8 LG (show-1<=x.aS/\x.aS<=1048576 from⟨by omega,by omega⟩) VA vn vc (wait:=wait));have YS:=O (NA WO.o hB t x.aS wait);have HAR:=O (show cO C (cW C k wait sj (t,x.aS)) B from YR▸BQ WO.o hB wait (t,x.aS));have Lt:=O (show cW C k wait sj (t,x.aS)=if(dE C sj t x.aS wait).2≠0 then(bO (dE C sj t x.aS wait).1 k (fy t x.aS (decide ((dE C sj t x.aS wait).2=2)))).1 else(dE C sj t x.aS wait).1 from rfl);have vx:=O JW;obtain⟨ae,hO⟩:=bG (dE C sj t x.aS wait);rw[hO]at Om YS Lt;obtain⟨s1,f⟩:=ae;have HX:=O AZ;have HT:=O LG;obtain⟨aS,⟨kd,tx,EH,st,op,key,val,mode,yes⟩,wr'⟩:=x;dsimp only at *;clear hx kT AZ LG JW hO j8 hb YR;go_wp2_with fail;refine(Om.o _).mono ?_;rintro e w5 ⟨rfl,a5,kg,mv,lI⟩;dsimp only;have J8:=O kg;have js:=O mv;have nG:=O lI;clear kg mv lI x0 x1 x2 x3 x4 x5 x6 x7 x8 x9 rE mq;have hjs:(wr.alloc (az #[I J t,I J aS,I J kd,I J tx,I J EH,I J st,I J op,V key,V val,I J mode,Y yes,T VA vn vc] 133)).heap.size=wr.heap.size+1:=World.size_alloc _ _;have mJ:=O ((HLJ.o.aR ((Ch.r _ wr).alloc (az #[I J t,I J aS,I J kd,I J tx,I J EH,I J st,I J op,V key,V val,I J mode,Y yes,T VA vn vc] 133))).ch js.o.ch HDJ.o);have UJ:=O (show∀g',(T (G ⟨b,off,U⟩) n c).ownBlock=G g'->¬a5.F C sb s1 g' from λg' uH e=>by
      rcases js.o.new g' e with e'|e'
      ·exact HDJ.o g' uH e'
      ·have:=(HLJ.o.own.lt g' uH).2;omega)
     have dZ:=O (HSJ.o.trans ((Sub.bj _ ((Ch.r _ wr).alloc (az #[I J t,I J aS,I J kd,I J tx,I J EH,I J st,I J op,V key,V val,I J mode,Y yes,T VA vn vc] 133))).trans js.o));by_cases Wk:f=0
     ·subst Wk;have pv:=O (show s1=((lE L).take (j+1)).foldl (cW C k wait) sk from by rw[vx.o,Lt.o,if_neg (by simp)]);clear hjs;go_wp2_with fail;exact⟨⟨j+1,by omega,by go_num,s1,a5,J8.o.mono (by omega),dZ.o,HMJ.o.trans nG.o,YS.o,mJ.o,UJ.o,pv.o⟩,by simp[intOf];omega⟩
     ·have Ql:=O ((aX.new wr 133 #[I J t,I J aS,I J kd,I J tx,I J EH,I J st,I J op,V key,V val,I J mode,Y yes,T VA vn vc]).ch js.o.ch (λe=>by have:=HGJ.o.m.fC _ e;omega));obtain⟨ar,hY⟩:=bG (decide (f=2));have eY:(f==2)=ar:=by rw[<-hY];rfl
      have e0:(f==0)=false:=beq_eq_false_iff_ne.2 Wk;have j8:s1.order.length<=1000:=by have:=jd YS.o.i;have:=YS.o.w.fx;omega
      have xG:=O (mY J8.o.m Dz (c:=fy t aS ar) (YM HT.o ⟨by have:=HX.o;omega,by have:=HX.o;omega⟩) (λe=>by simp[fy]at e) (λe=>by simp[fy]at e) (YS.o.w.sh k) (by omega) j8);rw[show a5.iz k=p from by rw[(HMJ.o.trans nG.o).2.2];exact HP.o]at xG;have pv:=O (show(bO s1 k (fy t aS ar)).1=((lE L).take (j+1)).foldl (cW C k wait) sk from by rw[vx.o,Lt.o,if_pos Wk,hY]);have YT:=O (show cO C (bO s1 k (fy t aS ar)).1 B from by rw[pv.o,vx.o];exact HAR.o);obtain⟨ae,hO⟩:=bG (bO s1 k (fy t aS ar));rw[hO]at xG pv YT;obtain⟨s2,R⟩:=ae;have qf7:=O (show ax av 64 #[X (G ⟨sb,0,U⟩),X (G ⟨p,0,U⟩),aC #[I J 7,I J t,I J aS,I J 0,I J 0,V ⟨#[]⟩,V ⟨#[]⟩,I J 0,Y ar]] w5 _ from xG.o);have q0:w5.cell? ⟨wr.heap.size,0,U⟩=G (I J t):=Ql.o.c 0;have q1:w5.cell? ⟨wr.heap.size,1,U⟩=G (I J aS):=Ql.o.c 1;have ql:=Ql.o.lt;clear hjs hY Wk j8 hO;go_wp2_with fail;refine qf7.o.mono ?_;rintro e w6 ⟨rfl,b6,oA6,oc6,ze,kK⟩;dsimp only at ze kK⊢;have sJ:=O ze;have lJ:=O kK;clear ze kK q0 q1 ql;go_wp2_with fail;exact⟨⟨j+1,by omega,by go_num,s2,_,(J8.o.next sJ.o lJ.o).mono (by omega),dZ.o.trans lJ.o,(HMJ.o.trans nG.o).trans ⟨rfl,rfl,rfl⟩,YT.o,mJ.o.ch lJ.o.ch UJ.o,λg' uH e=>by
       rcases lJ.o.new g' e with e'|e'
       ·exact UJ.o g' uH e'
       ·have:=(mJ.o.own.lt g' uH).2;omega,pv.o⟩,by simp[intOf];omega⟩
    ·obtain rfl:n=j:=by omega
     have Su:k≠C.h->L=[]:=λe=>by
      cases L with
      |nil=>rfl
      |cons q r=>
       obtain⟨h1,_⟩:=iC.o q (by simp);rw[(RG.o.i.CU k e).2]at h1;cases h1
     have AB:(lE L).take n=lE L:=List.take_of_length_le (by unfold lE;rw[List.length_map];omega);have Tm:sj=(lE L).foldl (cW C k wait) sk:=by rw[Tq.o,AB]
     have gN:=O (show k+1<=C.h->sj=s from λe=>by
      rw[Tm,Su (by omega),HE.o (by omega)];rfl)
     have bH:=O (show C.h<k+1->∃ls,uX (s.sh C.h) ls/\sj=ls.foldl (cW C C.h wait) s from λe=>by
      by_cases ek:k=C.h
      ·have h1:=HE.o (by omega);subst ek;rw[h1]at JD iC Tm;exact⟨lE L,Cq dB.o JD.o (λq hq=>(iC.o q hq).1),Tm⟩
      ·obtain⟨ls,h1,h2⟩:=HF.o (by omega);refine⟨ls,h1,?_⟩;rw[Tm,Su ek, <-h2];rfl)
     clear hlj hj Su AB Tm;go_wp2_with fail;exact⟨⟨k+1,by omega,by go_num,sj,aj,HGJ.o.mono (by omega),HSJ.o,HMJ.o,WO.o,gN.o,bH.o⟩,by simp[intOf];omega⟩
  ·obtain rfl:N=k:=by omega
   clear hlt hk;go_wp2_with fail;go_ret;obtain⟨ls,h1,h2⟩:=HF.o hh;exact⟨rfl,ls,h1,ak,by rw[<-h2];exact⟨HG.o.m.mono (by omega),HG.o.env,HG.o.cv⟩,by rw[<-h2];exact HS.o,Oz.o⟩
end
section
variable{w w':aw}{sb aZ k i:Nat}{C:Cf}{s s':dM}{a a':gE}{d:eF}{B:Int}
theorem Cs(h:gS w sb C aZ s a)(hA:cO C s B)(cp:aZ<=1000000)(tx:Int):
 ax av 73 #[X (G ⟨sb,0,U⟩),I J tx] w λe w'=>∃r:Int,e=ay (I J r)/\(-1<=r/\r<=1048576)/\M w w':=by
 have HA:=O hA;have sP:=h.m.ig.w.ns;have hh:=h.m.ig.w.h;obtain⟨w1,bT⟩:=bG (w.alloc (az #[I J tx] 3));have cH:=kb bT;have H1:=O (h.aR cH.o);have cw:=O (show aX w1 w.heap.size 3 #[I J tx]from bT▸aX.new w 3 _);have Uk:=O bT;obtain⟨g,sB,nz,_⟩:=H1.o.m.oD hh;have YP:=O sB;have x2:=H1.o.m.cells.2.2.1;rw[sB]at x2;have xl:=H1.o.m.aW.lt;obtain⟨N,hN⟩:=bG (C.ns);have NB:=O hN;rw[hN]at x2 sP hh;clear h hA sB hN;go_enter func73,ntmps73;go_wp2_with fail
 try rw[Uk.o]
 obtain⟨qb,bE⟩:=bG (w.heap.size);rw[bE]at cw
 try simp only[bE]
 clear bT bE
 go_loopw[12] (λiv wr=>∃k:Nat,k<=N/\iv=I J k/\M w1 wr) (λiv _=>N- (intOf iv).toNat)
 case atStart=>exact⟨0,by omega,rfl,Ch.r _ _⟩
 case round=>
  obtain⟨k,hk,rfl,hC⟩:=hrel;have HC:=O hC;have HG:=O (H1.o.aR hC);have YU:=O (cw.o.ch hC (λh=>h));clear hC x2 xl;by_cases hlt:k<N
  ·have Dz:k<C.ns:=by rw[NB.o];exact hlt
   have jq:(k:Int)<(N:Int):=by omega
   obtain⟨g',e1,YQ,y⟩:=HG.o.m.oD Dz;rw[YP.o]at e1;injection e1 with e1;injection e1 with e1;subst e1;have C5:=O (yh (HG.o.m.sh k Dz));have HSH:=O (HG.o.m.sh k Dz);obtain⟨p,hp⟩:=bG (a.iz k);rw[hp]at C5 y HSH;clear hp;go_wp2_with fail;refine C5.o.mono ?_;rintro e w4 ⟨A,n,c,L,rfl,hL,hn,cU,dL,pV⟩;dsimp only;have dQ:=O pV;have hB4:=YU.o.ch pV (λh=>h);have XL:=O (zR (o:=tx) hL (by omega) hB4);clear hL cU dL pV y;have x0:=hB4.c 0;have iq:=O hB4;clear x0 hB4;go_wp2_with fail;refine XL.o.mono ?_;rintro e w5 ⟨b,rfl,_,FK⟩;dsimp only;have ff:=O FK;have mM:=O (iq.o.ch FK (λh=>h));clear FK;cases b with
   |false=>
    go_wp2_with fail;exact⟨⟨k+1,by omega,by go_num,(HC.o.t dQ.o).t ff.o⟩,by simp[intOf];omega⟩
   |true=>
    have kD:=O (Cp ((HSH.o.aR dQ.o).aR ff.o) cp tx);have x0:=mM.o.c 0;have xl:=mM.o.lt;go_wp2_with fail;refine kD.o.mono ?_;rintro e w6 ⟨r,rfl,hr,kI⟩;dsimp only;have Sk: -1<=r/\r<=1048576:=by
     rcases hr with rfl|⟨x,hx,rfl⟩
     ·omega
     ·have YR:k=C.h:=by
       by_cases e:k=C.h
       ·exact e
       ·rw[(HA.o.i.CU k e).2]at hx;cases hx
      have:=HA.o.i.lb tx x (by rw[<-YR];exact hx);omega
    have HR:=O Sk;have ir:=O kI;clear hr Sk kI x0 xl;go_wp2_with fail;go_ret;exact⟨r,rfl,HR.o,(((cH.o.t HC.o).t dQ.o).t ff.o).t ir.o⟩
  ·obtain rfl:N=k:=by omega
   clear hlt hk;go_wp2_with fail;go_ret;exact⟨-1,rfl,by omega,cH.o.t HC.o⟩
end
def yk(w0:aw)(g n:Nat)(L:List (Int×Int))(Z:List Value)(wr:aw):Prop:=
 ∃l':List (Int×Int),l'.length=n/\(∀p∈l',p∈L)/\aX wr g 172 (fR l'++Z).toArray/\Ch (λk=>k=g) w0 wr
theorem iN(l:List (Int×Int)):(fR l).length=l.length*2:=pB (m:=2) (λ_ _=>rfl)
section
variable{w w' w0 wr:aw}{g n c i:Nat}{L:List (Int×Int)}{Z:List Value}{p:Int×Int}{A:Option Addr}
theorem yk.aR(h:yk w0 g n L Z wr)(hN:M wr w'):yk w0 g n L Z w':=by
 obtain⟨l',h1,h2,h3,h4⟩:=h;exact⟨l',h1,h2,h3.ch hN (λh=>h),h4.t (hN.mono (λ_ h=>h.elim))⟩
theorem yk.lt(h:yk w0 g n L Z wr):g<wr.heap.size:=by
 obtain⟨l',_,_,h3,_⟩:=h;exact h3.lt
theorem yk.fz(h:yk w0 g n L Z wr)(j:Nat):wr.frozen? ⟨g,j,U⟩=false:=by
 obtain⟨l',_,_,h3,_⟩:=h;exact h3.frozen j
theorem yk.at_(h:yk w0 g n L Z wr)(hi:i<n): ∃p∈L,wr.cell? ⟨g,i*2,U⟩=G (I J p.1)/\wr.cell? ⟨g,i*2+1,U⟩=G (I J p.2):=by
 obtain⟨l',h1,h2,h3,h4⟩:=h;obtain⟨p,hp⟩:=bh (show i<l'.length by omega);have e:=λj hj=>eI (f:=zO) (m:=2) (λ_ _=>rfl) hp (j:=j) hj;have hl:=iN l';refine⟨p,h2 p (bS hp),?_,?_⟩
 ·rw[h3.c,List.getElem?_toArray,List.getElem?_append_left (by omega)];exact e 0 (by omega)
 ·rw[h3.c,List.getElem?_toArray,List.getElem?_append_left (by omega)];exact e 1 (by omega)
theorem ND{l:List (Int×Int)}(hi:i<l.length)(p:Int×Int):((fR l).set (i*2) (I J p.1)).set (i*2+1) (I J p.2)=fR (l.set i p):=by
 induction l generalizing i with
 |nil=>simp at hi
 |cons q r ih=>
  cases i with
  |zero=>rfl
  |succ i=>
   have:=ih (i:=i) (by simpa using hi);show((zO q++fR r).set ((i+1)*2) _).set ((i+1)*2+1) _=zO q++fR (r.set i p);rw[<-this,show(i+1)*2=i*2+2 by omega];rfl
theorem yk.put(h:yk w0 g n L Z wr)(hi:i<n)(hp:p∈L):yk w0 g n L Z ((wr.setCell ⟨g,i*2,U⟩ (I J p.1)).setCell ⟨g,i*2+1,U⟩ (I J p.2)):=by
 obtain⟨l',h1,h2,h3,h4⟩:=h;refine⟨l'.set i p,by rw[List.length_set,h1],λq hq=>?_,?_,(h4.at_ _ _).at_ _ _⟩
 ·rcases List.mem_or_eq_of_mem_set hq with e|e
  ·exact h2 q e
  ·rw[e];exact hp
 ·have hl:=iN l';have:=(h3.bm (i*2) (I J p.1)).bm (i*2+1) (I J p.2);refine bu this ?_;rw[aF,aF,List.set_append_left _ _ (by omega),List.set_append_left _ _ (by rw[List.length_set];omega),ND (by omega)]
theorem yk.cut{zs:List Value}{l':List (Int×Int)}(h1:l'.length=n)(h2: ∀p∈l',p∈L)(hi:i<=n)(hz:zs.length=(n-i)*2)(hb:aX w' g 172 (splice (fR l'++Z) (i*2) zs).toArray)(hl:(fR l'++Z).length=c*2)(tD:n<=c)(hc:c<=maxLen):
 eB w' (G ⟨g,0,U⟩) i c (l'.take i)/\∀p∈l'.take i,p∈L:=by
 refine⟨⟨?_,by rw[List.length_take];omega⟩,λp hp=>h2 p (List.mem_of_mem_take hp)⟩;have Kx:fR l'=fR (l'.take i)++fR (l'.drop i):=by
  unfold fR;rw[<-List.flatMap_append,List.take_append_drop]
 have ht:(fR (l'.take i)).length=i*2:=by rw[iN,List.length_take];omega
 have hd:(fR (l'.drop i)).length=zs.length:=by rw[iN,List.length_drop,hz,h1]
 have mv:splice (fR l'++Z) (i*2) zs=fR (l'.take i)++(zs++Z):=by
  rw[Kx, <-ht,uu hd]
 rw[mv]at hb;exact eh (Z:=zs++Z) (Nat.zero_le _) ht hb (by
  rw[aL,iN,h1]at hl;rw[aL,aL,ht,hz];omega) (by omega) hc
end
section
variable{w w' w0 wr:aw}{g n c i:Nat}{L:List (Int×Int)}{Z:List Value}{p:Int×Int}{A:Option Addr}
theorem ym(h:eB w A n c L)(hn:n<=1000):
 ax av 165 #[T A n c] w λe w'=>∃i L',e=ay (T A i c)/\eB w' A i c L'/\i<=n/\(∀p∈L',p∈L)/\Ch (λk=>(T A n c).ownBlock=G k) w w':=by
 by_cases h2:n<2
 ·have h2':decide ((n:Int)<2)=true:=decide_eq_true (by omega);have H:=O h;clear h;go_enter func165,ntmps165;go_wp2_with fail;go_ret;exact⟨n,L,rfl,H.o,aN _,λ_ h=>h,Ch.r _ _⟩
 ·obtain⟨g,cap,hv,_,hlt⟩:=h.own.form (by omega);injection hv with hA _ hc0;subst hA hc0;obtain⟨Z,hZ,yz,tD,fA⟩:=cV h.own;have H:=O h;have Wh:=O (show yk w g n L Z w from⟨L,h.len,λ_ h=>h,hZ,Ch.r _ _⟩);have Sp:=O yz;have nV:=O fA;have jW:(n:Int)<=1000:=by omega
  have Dk:(n:Int)<=(c:Int):=by omega
  have Jy:(c:Int)<=9223372036854775807:=by unfold maxLen at fA;omega
  have h2':decide ((n:Int)<2)=false:=decide_eq_false (by omega);have h2'':decide (n<2)=false:=decide_eq_false h2;obtain⟨i1,dX,er,eu,eK⟩:=info_parts nM;clear h hZ yz fA hlt;go_enter func165,ntmps165;go_wp2_with fail
  go_loopw[3] (λiv wr=>∃k:Nat,1<=k/\k<=n/\iv=I J k/\M w wr) (λiv _=>n- (intOf iv).toNat)
  case atStart=>exact⟨1,by omega,by omega,rfl,Ch.r _ _⟩
  case round=>
   obtain⟨k,hk1,hk,rfl,hC⟩:=hrel;have HC:=O hC;clear hC;by_cases hlt:k<n
   ·have HE:=O (Wh.o.aR HC.o);obtain⟨p,hp,x0,x1⟩:=HE.o.at_ hlt;obtain⟨q,hq,y0,y1⟩:=HE.o.at_ (show k-1<n by omega);have xl:=HE.o.lt;have jq:(k:Int)<(n:Int):=by omega
    have bT:IntKind.i64.wrap ((k:Int) -1)=((k-1:Nat):Int):=by
     rw[show((k:Int) -1)=((k-1:Nat):Int) by omega];exact IntWalk.i64_in _ ⟨by omega,by omega⟩
    have ew:(k:Int) -1=((k-1:Nat):Int):=by omega
    have je:((k-1:Nat):Int)<(n:Int):=by omega
    obtain⟨km,Wb⟩:=bG (k-1);rw[Wb]at y0 y1 bT ew je;have HP:=O hp;clear hp hq;obtain⟨p1,p2⟩:=p;obtain⟨q1,q2⟩:=q;dsimp only at x0 x1 y0 y1;go_upto_region 6 with(fail)
    go_cut[25] (λv wx=>∃b,v=Y b/\wx=wr.drew)
    case first=>
     by_cases f1:p1=q1
     ·subst f1;by_cases f2:p2=q2
      ·subst f2
       go_region
       all_goals
        go_wp2_with fail;go_meet;exact⟨_,rfl,rfl⟩
      ·have f2':(p2==q2)=false:=beq_eq_false_iff_ne.2 f2
       go_region
       all_goals
        go_wp2_with fail;go_meet;exact⟨_,rfl,rfl⟩
     ·have f1':(p1==q1)=false:=beq_eq_false_iff_ne.2 f1
      go_region
      all_goals
       go_wp2_with fail;go_meet;exact⟨_,rfl,rfl⟩
    case rest=>
     obtain⟨b,rfl,rfl⟩:=hcut;clear x0 x1 y0 y1 xl;cases b with
     |false=>
      go_wp2_with fail;exact⟨⟨k+1,by omega,by omega,by go_num,HC.o.drew⟩,by simp[intOf];omega⟩
     |true=>
      have XE: ¬c=k:=by omega
      have OW:=O (show yk w g n L Z wr.drew from HE.o.aR (aU wr));go_wp2_with fail
      go_loopw[3,5] (λiv jv wy=>∃i m:Nat,iv=I J i/\jv=I J m/\k<=i/\i+1<=k+m/\1<=m/\k+m<=n/\yk w g n L Z wy) (λ_ jv _=>n- (intOf jv).toNat)
      case atStart=>exact⟨k,1,rfl,rfl,by omega,by omega,by omega,by omega,OW.o⟩
      case round=>
       obtain⟨i,m,rfl,rfl,qf8,hi2,sr,jE,hE⟩:=hrel;have DV:=O hE;clear hE;by_cases hlm:k+m<n
       ·obtain⟨p,hp,x0,x1⟩:=DV.o.at_ hlm;obtain⟨q,hq,y0,y1⟩:=DV.o.at_ (show k+(m-1)<n by omega);obtain⟨r,hr,z0,z1⟩:=DV.o.at_ (show i<n by omega);have xl:=DV.o.lt;have xf:=DV.o.fz;obtain⟨mm,Hc⟩:=bG (m-1);have CQ:(m:Int)<((n-k:Nat):Int):=by omega
        have PB:(m:Int)<(n:Int) - (k:Int):=by omega
        have ZL:m<n-k:=by omega
        have bT:IntKind.i64.wrap ((m:Int) -1)=(mm:Int):=by
         rw[show((m:Int) -1)=(mm:Int) by omega];exact IntWalk.i64_in _ ⟨by omega,by omega⟩
        have ew:(m:Int) -1=(mm:Int):=by omega
        have je:(mm:Int)<((n-k:Nat):Int):=by omega
        have lH:(mm:Int)<(n:Int) - (k:Int):=by omega
        have qC:IntKind.i64.wrap (mm:Int)=(mm:Int):=IntWalk.i64_in _ ⟨by omega,by omega⟩;have Aa:(i:Int)<(n:Int):=by omega
        rw[Hc,show(k+mm)*2=k*2+mm*2 by omega]at y0 y1;rw[show(k+m)*2=k*2+m*2 by omega]at x0 x1;have HP:=O hp;clear hp hq hr Hc;obtain⟨p1,p2⟩:=p;obtain⟨q1,q2⟩:=q;dsimp only at x0 x1 y0 y1;go_upto_region 11 with(fail)
        go_cut[44] (λv wx=>∃b,v=Y b/\wx=wr.drew)
        case first=>
         by_cases f1:p1=q1
         ·subst f1;by_cases f2:p2=q2
          ·subst f2
           go_region
           all_goals
            go_wp2_with fail;go_meet;exact⟨_,rfl,rfl⟩
          ·have f2':(p2==q2)=false:=beq_eq_false_iff_ne.2 f2
           go_region
           all_goals
            go_wp2_with fail;go_meet;exact⟨_,rfl,rfl⟩
         ·have f1':(p1==q1)=false:=beq_eq_false_iff_ne.2 f1
          go_region
          all_goals
           go_wp2_with fail;go_meet;exact⟨_,rfl,rfl⟩
        case rest=>
         obtain⟨b,rfl,rfl⟩:=hcut;have C5:=O (DV.o.aR (aU wr));clear y0 y1;cases b with
         |false=>
          clear x0 x1 z0 z1 xl xf;go_wp2_with fail;exact⟨⟨i,m+1,rfl,by go_num,qf8,by omega,by omega,by omega,C5.o⟩,by simp[intOf];omega⟩
         |true=>
          go_wp2_with fail;exact⟨⟨i+1,m+1,by go_num,by go_num,by omega,by omega,by omega,by omega,(DV.o.put (p:=(p1,p2)) (by omega) HP.o).aR (aU _)⟩,by simp[intOf];omega⟩
       ·obtain rfl:n=k+m:=by omega
        have e1:k+m-k=m:=by omega
        have e2:(((k+m-k:Nat):Int))=(m:Int):=by omega
        obtain⟨l',h1,h2,h3,h4⟩:=DV.o;have HB:=O h3;have JD:=O h1;have iC:=O h2;have cK:=O h4;have tH:i<=k+m:=by omega
        have Xp:(i:Int)<=((k+m:Nat):Int):=by omega
        have Xe:i<=c:=by omega
        have Kj:(i:Int)<=(c:Int):=by omega
        have jX:=O (show i*2+(k+m-i)*2<=(fR l'++Z).length by rw[aL,iN];omega);have CW:=O (show(fR l'++Z).length=c*2 from by
         have:=Sp.o;rw[aL,iN,H.o.len]at this;rw[aL,iN,h1];exact this)
        clear h1 h2 h3 h4 hlm;go_wp2_with(first
         |(refine dJ rfl (.tmp 56) 169 rfl 172 2 underlying169 (aC #[I J 0,I J 0]) (λw=>by simp[zeroValue,typeInfo,dX,er]) rfl (by simp[Value.cells,Value.oneCell']) (by omega) g (i*2) (k+m-i) (c-i) (by simp[Act.eval]) (fR l'++Z) 172 HB.o jX.o ?_
           intro w5 zs Ax kg yA))
        go_ret;obtain⟨RO,lI⟩:=yk.cut JD.o iC.o tH Ax kg.o CW.o tD nV.o;exact⟨i,_,rfl,RO,tH,lI,(cK.o.t yA).mono (λk hk=>by rw[hk];rfl)⟩
   ·obtain rfl:n=k:=by omega
    clear hlt hk;go_wp2_with fail;go_ret;exact⟨n,L,rfl,H.o.aR HC.o,aN _,λ_ h=>h,HC.o.mono (λ_ h=>h.elim)⟩
end
end Go.Proofs.YtmaimjajdbgmiaaGreatDoor
namespace Go.Proofs
open Go.Shelf
def Tryz.zS:Go.Shelf.Ren:=⟨λ |6=>161|15=>228|14=>227|28=>301|29=>302|20=>293|21=>294|22=>295|23=>296|24=>297|25=>298|26=>299|27=>300|46=>358|47=>359|48=>360|49=>361|50=>362|57=>384|n=>n,λ |22=>169|24=>172|25=>245|3=>3|39=>204|0=>0|53=>376|55=>247|4=>4|46=>370|45=>369|50=>165|5=>5|9=>9|66=>419|70=>363|76=>441|77=>343|n=>n,λ |n=>n⟩
theorem Tryz.Ct:Go.Proofs.SlLaysF0.n6 av Tryz.zS:={
 mixed:=by kernel_rfl
 f6:=⟨Tryz.f161.name,by decide,func161.trans (congrArg G (by kernel_rfl))⟩
 f14:=⟨Tryz.f227.name,by decide,func227.trans (congrArg G (by kernel_rfl))⟩
 f15:=func228.trans (congrArg G (by kernel_rfl))
 f20:=⟨Tryz.f293.name,by decide,func293.trans (congrArg G (by kernel_rfl))⟩
 f21:=⟨Tryz.f294.name,by decide,func294.trans (congrArg G (by kernel_rfl))⟩
 f22:=⟨Tryz.f295.name,by decide,func295.trans (congrArg G (by kernel_rfl))⟩
 f23:=⟨Tryz.f296.name,by decide,func296.trans (congrArg G (by kernel_rfl))⟩
 f24:=⟨Tryz.f297.name,by decide,func297.trans (congrArg G (by kernel_rfl))⟩
 f25:=⟨Tryz.f298.name,by decide,func298.trans (congrArg G (by kernel_rfl))⟩
 f26:=⟨Tryz.f299.name,by decide,func299.trans (congrArg G (by kernel_rfl))⟩
 f27:=⟨Tryz.f300.name,by decide,func300.trans (congrArg G (by kernel_rfl))⟩
 f28:=func301.trans (congrArg G (by kernel_rfl))
 f29:=func302.trans (congrArg G (by kernel_rfl))
 f46:=⟨Tryz.f358.name,by decide,func358.trans (congrArg G (by kernel_rfl))⟩
 f47:=func359.trans (congrArg G (by kernel_rfl))
 f48:=func360.trans (congrArg G (by kernel_rfl))
 f49:=⟨Tryz.f361.name,by decide,func361.trans (congrArg G (by kernel_rfl))⟩
 f50:=⟨Tryz.f362.name,by decide,func362.trans (congrArg G (by kernel_rfl))⟩
 f57:=⟨Tryz.f384.name,by decide,func384.trans (congrArg G (by kernel_rfl))⟩
 t0:=underlying0
 a0:=Tryz.isAgg0
 z0:=Tryz.sizeOf0
 v0:=Tryz.zeroValue0
 t3:=underlying3
 a3:=Tryz.isAgg3
 z3:=Tryz.sizeOf3
 v3:=Tryz.zeroValue3
 t4:=underlying4
 a4:=Tryz.isAgg4
 z4:=Tryz.sizeOf4
 v4:=Tryz.zeroValue4
 t5:=underlying5
 a5:=Tryz.isAgg5
 z5:=Tryz.sizeOf5
 v5:=Tryz.zeroValue5
 t9:=underlying9
 a9:=Tryz.isAgg9
 z9:=Tryz.sizeOf9
 v9:=Tryz.zeroValue9
 t22:=underlying169
 a22:=Tryz.isAgg169
 z22:=Tryz.sizeOf169
 v22:=Tryz.zeroValue169
 t25:=underlying245
 a25:=Tryz.isAgg245
 z25:=Tryz.sizeOf245
 v25:=Tryz.zeroValue245
 t39:=underlying204
 a39:=Tryz.isAgg204
 z39:=Tryz.sizeOf204
 v39:=Tryz.zeroValue204
 t45:=underlying369
 a45:=Tryz.isAgg369
 z45:=Tryz.sizeOf369
 v45:=Tryz.zeroValue369
 t46:=underlying370
 a46:=Tryz.isAgg370
 z46:=Tryz.sizeOf370
 v46:=Tryz.zeroValue370
 t50:=underlying165
 a50:=Tryz.isAgg165
 z50:=Tryz.sizeOf165
 v50:=Tryz.zeroValue165
 t53:=underlying376
 a53:=Tryz.isAgg376
 z53:=Tryz.sizeOf376
 v53:=Tryz.zeroValue376
 t55:=underlying247
 a55:=Tryz.isAgg247
 z55:=Tryz.sizeOf247
 v55:=Tryz.zeroValue247
 t66:=underlying419
 a66:=Tryz.isAgg419
 z66:=Tryz.sizeOf419
 v66:=Tryz.zeroValue419
 t70:=underlying363
 a70:=Tryz.isAgg363
 z70:=Tryz.sizeOf363
 v70:=Tryz.zeroValue363
 t76:=underlying441
 a76:=Tryz.isAgg441
 z76:=Tryz.sizeOf441
 v76:=Tryz.zeroValue441
 t77:=underlying343
 a77:=Tryz.isAgg343
 z77:=Tryz.sizeOf343
 v77:=Tryz.zeroValue343}
end Go.Proofs
namespace Go.Proofs.YtmaimjajdbgmiaaGreatDoor
open Go.Lib Go.Maps Go.RowKit
section
variable{w w':aw}{sb aZ k i ob:Nat}{C:Cf}{s s':dM}{a a':gE}{d:eF}{B:Int}
theorem vJ(h:gS w sb C aZ s a)(hb:aX w ob 28 #[X (G ⟨sb,0,U⟩)]){x:Int}(hx:0<=x)(y:Int):
 ax av 191 #[aC #[I J x,I J y],X (G ⟨ob,0,U⟩)] w λe w'=>∃b,e=ay (Y b)/\M w w':=by
 have hk:bZ C x<C.ns:=Nat.mod_lt _ (by have:=h.m.ig.w.ns;omega);have Eh:=O (λw' (hN:M w w')=>rY (h.m.aR hN) hx);have tX:=O (λw' (hN:M w w')=>pW ((h.m.sh _ hk).aR hN) x);obtain⟨W,hW⟩:=bG ((((s.sh (bZ C x)).rows x).getD qS));obtain⟨IS,RD⟩:=bG (((s.sh (bZ C x)).rows x).isSome);obtain⟨p,hp⟩:=bG (a.iz (bZ C x));rw[hp]at Eh tX;rw[hW,RD]at tX;obtain⟨zI,ij,zJ,fg,ee⟩:=W;simp only[uk]at tX;have HB:=O hb;clear h hk hp hW RD hx hb;go_enter func191,ntmps191;go_upto_region 1 with(fail);obtain⟨w1,bT⟩:=bG (w.alloc (az #[I J x,I J y] 172));have cH:=kb bT;have fK:=O (show aX w1 w.heap.size 172 #[I J x,I J y]from bT▸aX.new w 172 _);rw[bT];obtain⟨qb,bE⟩:=bG (w.heap.size);rw[bE]at fK
 try simp only[bE]
 clear bT bE;have cw:=O (HB.o.ch cH.o (λh=>h));have b0:=cw.o.c 0;have bl:=cw.o.lt;have q0:=fK.o.c 0;have ql:=fK.o.lt;have dB:=O (show Ch (λ_=>False) w1 w1.drew from aU w1);have cZ:=O (λw' (hN:Ch (λ_=>False) w1 w')=>(show w'.cell? ⟨ob,0,U⟩=G (X (G ⟨sb,0,U⟩))/\w'.cell? ⟨qb,0,U⟩=G (I J x)from⟨(cw.o.ch hN (λh=>h)).c 0,(fK.o.ch hN (λh=>h)).c 0⟩))
 go_cut[4] (λv wr=>∃tb,v=X (G ⟨tb,0,U⟩)/\aX wr tb 186 #[I J zI,I J ij,I J zJ,I J fg,I J ee]/\M w wr)
 case first=>
  go_region_held3(λw'=>w'.cell? ⟨ob,0,U⟩=G (X (G ⟨sb,0,U⟩))/\w'.cell? ⟨qb,0,U⟩=G (I J x))
   (first|with_reducible exact cZ.o _ ((Ch.r (λ_=>False) w1).alloc _).drew|with_reducible exact cZ.o _ dB.o|with_reducible exact cZ.o _ (dB.o.alloc _)|with_reducible exact cZ.o _ bJ.o|with_reducible exact cZ.o _ (bJ.o.alloc _)|with_reducible exact cZ.o _ dQ.o|with_reducible exact cZ.o _ (dQ.o.alloc _)|with_reducible exact cZ.o _ YV.o|with_reducible exact cZ.o _ HW5.o)
   (first
     |(go_at_call 72;(refine(Eh.o _ (cH.o.t (by first|with_reducible exact dB.o|with_reducible exact(dB.o.alloc _)|with_reducible exact((Ch.r (λ_=>False) w1).alloc _).drew))).mono ?_);rintro e w2 ⟨rfl,m,ew⟩
       have bJ:=O (show Ch (λ_=>False) w1 w2 from by subst ew;first|exact dB.o.drewN m|exact(dB.o.alloc _).drewN m|exact(((Ch.r (λ_=>False) w1).alloc _).drew).drewN m)
       (try(have Pz:=O (show aX w2 w1.heap.size 186 #[I J 0,I J 0,I J 0,I J 0,I J 0]from by subst ew;first|exact((aX.new w1.drew 186 #[I J 0,I J 0,I J 0,I J 0,I J 0]).drewN m)|exact(((aX.new w1 186 #[I J 0,I J 0,I J 0,I J 0,I J 0]).drew).drewN m))))
       clear ew;dsimp only)
     |(go_at_call 107;(refine(tX.o _ (cH.o.t (by first|with_reducible exact bJ.o|with_reducible exact(bJ.o.alloc _)))).mono ?_);rintro e w4 ⟨rfl,hN⟩
       have dQ:=O (show Ch (λ_=>False) w1 w4 from by first|exact bJ.o.t hN|exact(bJ.o.alloc _).t hN)
       (try(have jr:=O ((aX.new w2 186 #[I J 0,I J 0,I J 0,I J 0,I J 0]).ch hN (λh=>h))))
       (try(have jr:=O (Pz.o.ch hN (λh=>h))))
       clear hN
       (try(have⟨t0,t1,t2,t3,t4⟩:=(show _/\_/\_/\_/\_ from⟨jr.o.c 0,jr.o.c 1,jr.o.c 2,jr.o.c 3,jr.o.c 4⟩)))
       have NF:w1.heap.size<=w2.heap.size:=bJ.o.size;have NG:w1.heap.size<=w1.heap.size:=aN _;have YV:=O (show Ch (λ_=>False) w1 (((((w4.setCell ⟨w2.heap.size,0,U⟩ (I J zI)).setCell ⟨w2.heap.size,1,U⟩ (I J ij)).setCell ⟨w2.heap.size,2,U⟩ (I J zJ)).setCell ⟨w2.heap.size,3,U⟩ (I J fg)).setCell ⟨w2.heap.size,4,U⟩ (I J ee))from((((((dQ.o.setCell (p:=⟨_,0,U⟩) (.inr NF) _).setCell (p:=⟨_,1,U⟩) (.inr NF) _).setCell (p:=⟨_,2,U⟩) (.inr NF) _).setCell (p:=⟨_,3,U⟩) (.inr NF) _).setCell (p:=⟨_,4,U⟩) (.inr NF) _)));have HW5:=O (show Ch (λ_=>False) w1 (((((w4.setCell ⟨w1.heap.size,0,U⟩ (I J zI)).setCell ⟨w1.heap.size,1,U⟩ (I J ij)).setCell ⟨w1.heap.size,2,U⟩ (I J zJ)).setCell ⟨w1.heap.size,3,U⟩ (I J fg)).setCell ⟨w1.heap.size,4,U⟩ (I J ee))from((((((dQ.o.setCell (p:=⟨_,0,U⟩) (.inr NG) _).setCell (p:=⟨_,1,U⟩) (.inr NG) _).setCell (p:=⟨_,2,U⟩) (.inr NG) _).setCell (p:=⟨_,3,U⟩) (.inr NG) _).setCell (p:=⟨_,4,U⟩) (.inr NG) _)))
       (try(have tl:=jr.o.lt))
       (try(have tf:=jr.o.frozen))
       dsimp only))
  all_goals
   go_wp2_with fail;go_meet
   first
    |(refine⟨w4.heap.size,by with_reducible rfl,?_,?_⟩
      ·with_reducible exact aX.new w4 186 #[I J zI,I J ij,I J zJ,I J fg,I J ee]
      ·exact cH.o.t (dQ.o.alloc _))
    |(refine⟨w2.heap.size,by with_reducible rfl,?_,?_⟩
      ·with_reducible exact(bu (((((jr.o.bm 0 (I J zI)).bm 1 (I J ij)).bm 2 (I J zJ)).bm 3 (I J fg)).bm 4 (I J ee)) (by simp))
      ·exact cH.o.t YV.o)
    |(refine⟨w1.heap.size,by with_reducible rfl,?_,?_⟩
      ·with_reducible exact(bu (((((jr.o.bm 0 (I J zI)).bm 1 (I J ij)).bm 2 (I J zJ)).bm 3 (I J fg)).bm 4 (I J ee)) (by simp))
      ·exact cH.o.t HW5.o)
 case rest=>
  obtain⟨tb,rfl,hT,hN⟩:=hcut;have HT:=O hT;have HN:=O hN;clear hT hN;have t3:=HT.o.c 3;have tl:=HT.o.lt;go_wp2_with fail;go_ret;exact⟨_,rfl,HN.o⟩
end
section
variable{w w':aw}{sb aZ n c ob:Nat}{C:Cf}{s:dM}{a:gE}{L:List (Int×Int)}{A:Option Addr}
theorem EK(h:gS w sb C aZ s a)(hb:aX w ob 28 #[X (G ⟨sb,0,U⟩)])(hE:eB w A n c L)(hn:n<=1000)(hL: ∀p∈L,0<=p.1):
 ax av 192 #[T A n c,.func (.func 191) #[] #[X (G ⟨ob,0,U⟩)]] w λe w'=>M w w'/\(e=ay (I J (-1))\/∃p:Nat,e=ay (I J p)/\p<n):=by
 have H:=O h;have HB:=O hb;have HE:=O hE;have HL:=O hE.len;have HP:=O hL;have jW:(n:Int)<=1000:=by omega
 clear h hb hE hL;go_enter func192,ntmps192;go_wp2_with fail
 go_loopw[8] (λi wr=>∃k:Nat,k<=n/\i=I J k/\M w wr) (λi _=>n- (intOf i).toNat)
 case atStart=>exact⟨0,by omega,rfl,Ch.r _ _⟩
 case round=>
  obtain⟨k,hk,rfl,hC⟩:=hrel;have HC:=O hC;clear hC;by_cases hlt:k<n
  ·obtain⟨⟨x,y⟩,hx⟩:=bh (show k<L.length by rw[HL.o];exact hlt);obtain⟨b,off,rfl,hb,x0,x1⟩:=(HE.o.aR HC.o).at_ hx;have HM:=O (vJ (H.o.aR HC.o) (HB.o.ch HC.o (λh=>h)) (HP.o _ (bS hx)) y);have jq:(k:Int)<(n:Int):=by omega
   clear hx;go_wp2_with fail;refine HM.o.mono ?_;rintro e w2 ⟨bb,rfl,hN⟩;dsimp only;have HN:=O hN;clear hN HM;cases bb with
   |true=>
    go_wp2_with fail;go_ret;exact⟨HC.o.t HN.o,.inr ⟨k,rfl,hlt⟩⟩
   |false=>
    go_wp2_with fail;exact⟨⟨k+1,by omega,by go_num,HC.o.t HN.o⟩,by simp[intOf];omega⟩
  ·obtain rfl:n=k:=by omega
   clear hlt hk;go_wp2_with fail;go_ret;exact⟨HC.o,.inl rfl⟩
theorem NI(h:gS w sb C aZ s a)(hb:aX w ob 28 #[X (G ⟨sb,0,U⟩)])(hE:eB w A n c L)(hn:n<=1000)(hL: ∀p∈L,0<=p.1)(kZ: ∀g,(T A n c).ownBlock=G g->¬a.F C sb s g/\4<=g):
 ax av 189 #[T A n c,.func (.func 191) #[] #[X (G ⟨ob,0,U⟩)]] w λe w'=>∃i L',e=ay (T A i c)/\eB w' A i c L'/\i<=n/\(∀p∈L',p∈L)/\Ch (λk=>(T A n c).ownBlock=G k) w w':=by
 have HI:=O (EK h hb hE hn hL);have H:=O h;have HB:=O hb;have HE:=O hE;have HP:=O hL;have HF:=O kZ;have jW:(n:Int)<=1000:=by omega
 clear h hb hE hL kZ;go_enter func189,ntmps189;go_wp2_with fail;refine HI.o.mono ?_;rintro e w2 ⟨hN,rfl|⟨p,rfl,hp⟩⟩
 ·dsimp only;have HN:=O hN;clear hN;go_wp2_with fail;go_ret;exact⟨n,L,rfl,HE.o.aR HN.o,aN _,λ_ h=>h,HN.o.mono (λ_ h=>h.elim)⟩
 ·dsimp only;have HN:=O hN;clear hN;obtain⟨g,cap,hv,_,hlt⟩:=HE.o.own.form (by omega);injection hv with hA _ hc0;subst hA hc0;obtain⟨Z,hZ,yz,tD,fA⟩:=cV HE.o.own;have T2: ¬ob=g:=λe=>by subst e;exact HB.o.lF hZ (by decide) rfl
  have qf9: ¬g=ob:=λe=>T2 e.symm;have HGO:=O T2;have Wh:=O (show yk w g n L Z w2 from⟨L,HE.o.len,λ_ h=>h,hZ.ch HN.o (λh=>h),HN.o.mono (λ_ h=>h.elim)⟩);have Sp:=O yz;have nV:=O fA;have Dk:(n:Int)<=(c:Int):=by omega
  have Jy:(c:Int)<=9223372036854775807:=by unfold maxLen at fA;omega
  obtain⟨i1,dX,er,eu,eK⟩:=info_parts nM;have d1:((p:Int)== -1)=false:=by simp
  have d2:decide ((p:Int)= -1)=false:=by simp
  clear hZ yz fA hlt T2 qf9;go_wp2_with fail
  go_loopw[5,6] (λiv jv wr=>∃i j:Nat,iv=I J i/\jv=I J j/\i<j/\j<=n/\yk w g n L Z wr) (λ_ jv _=>n- (intOf jv).toNat)
  case atStart=>exact⟨p,p+1,rfl,by go_num,by omega,by omega,Wh.o⟩
  case round=>
   obtain⟨i,j,rfl,rfl,tG,hj,hEj⟩:=hrel;have Tq:=O hEj;clear hEj;by_cases PC:j<n
   ·obtain⟨⟨x,y⟩,hq,x0,x1⟩:=Tq.o.at_ PC;dsimp only at x0 x1;have HQ:=O hq;have xl:=Tq.o.lt;have Ot:(j:Int)<(n:Int):=by omega
    have Aa:(i:Int)<(n:Int):=by omega
    have HGW:=O (show gS wr sb C aZ s a/\aX wr ob 28 #[X (G ⟨sb,0,U⟩)]from by
     obtain⟨l',_,_,_,h4⟩:=Tq.o;exact⟨⟨H.o.m.ch h4 (λq hq e=>(HF.o g rfl).1 (e▸hq)),zL H.o.env h4 (λq e=>by subst e;exact(HF.o q rfl).2),H.o.cv⟩,HB.o.ch h4 HGO.o⟩)
    have HM:=O (vJ (HGW.o.1.aR ((Ch.r _ wr).alloc (az #[I J x,I J y] 172))) (HGW.o.2.alloc _) (HP.o _ HQ.o) y);clear hq;go_wp2_with fail;refine HM.o.mono ?_;rintro e w3 ⟨bb,rfl,gZ⟩;dsimp only;have Pr:=O ((aX.new wr 172 #[I J x,I J y]).ch gZ (λh=>h));have Gq:=O ((Tq.o.aR ((Ch.r _ wr).alloc _)).aR gZ);clear gZ HM x0 x1 xl;cases bb with
    |true=>
     go_wp2_with fail;exact⟨⟨i,j+1,rfl,by go_num,by omega,by omega,Gq.o⟩,by simp[intOf];omega⟩
    |false=>
     have⟨z0,z1⟩:=vS Pr.o;have zl:=Pr.o.lt;obtain⟨r,_,y0,y1⟩:=Gq.o.at_ (show i<n by omega);have yl:=Gq.o.lt;have yf:=Gq.o.fz;go_wp2_with fail;exact⟨⟨i+1,j+1,by go_num,by go_num,by omega,by omega,Gq.o.put (p:=(x,y)) (by omega) HQ.o⟩,by simp[intOf];omega⟩
   ·obtain rfl:n=j:=by omega
    obtain⟨l',h1,h2,h3,h4⟩:=Tq.o;have JA:=O h3;have JD:=O h1;have iC:=O h2;have cK:=O h4;have tH:i<=n:=by omega
    have Xp:(i:Int)<=(n:Int):=by omega
    have Xe:i<=c:=by omega
    have Kj:(i:Int)<=(c:Int):=by omega
    have jX:=O (show i*2+(n-i)*2<=(fR l'++Z).length by rw[aL,iN];omega);have CW:=O (show(fR l'++Z).length=c*2 from by
     have:=Sp.o;rw[aL,iN,HE.o.len]at this;rw[aL,iN,h1];exact this)
    clear h1 h2 h3 h4 PC;go_wp2_with(first
     |(refine dJ rfl (.tmp 38) 169 rfl 172 2 underlying169 (aC #[I J 0,I J 0]) (λw=>by simp[zeroValue,typeInfo,dX,er]) rfl (by simp[Value.cells,Value.oneCell']) (by omega) g (i*2) (n-i) (c-i) (by simp[Act.eval]) (fR l'++Z) 172 JA.o jX.o ?_
       intro w5 zs Ax kg yA))
    go_ret;obtain⟨RO,lI⟩:=yk.cut JD.o iC.o tH Ax kg.o CW.o tD nV.o;exact⟨i,_,rfl,RO,tH,lI,(cK.o.t yA).mono (λk hk=>by rw[hk];rfl)⟩
end
end Go.Proofs.YtmaimjajdbgmiaaGreatDoor
namespace Go.Proofs.YtmaimjajdbgmiaaGreatDoor
open Go.Lib Go.Maps Go.RowKit Go.Sort
def EM(x y:Int×Int):Int:=if fj x.1 y.1≠0 then fj x.1 y.1 else fj x.2 y.2
theorem RU{w:aw}{b:Nat}{u v:Int}(hb:aX w b 3 #[I J u,I J v]):ax av 163 #[T (G ⟨b,0,U⟩) 2 2] w λe w'=>e=ay (I J (if u≠0 then u else v))/\w'=w:=by
 have⟨x0,x1⟩:=vS hb;have xl:=hb.lt;clear hb;by_cases hu:u=0
 ·subst hu;rw[if_neg (by simp)];go_enter func163,ntmps163;go_wp2_with fail
  go_loopw[8] (λiv wr=>∃k:Nat,k<=2/\iv=I J k/\wr=w/\(k=2->v=0)) (λiv _=>2- (intOf iv).toNat)
  case atStart=>exact⟨0,by omega,rfl,rfl,λh=>by omega⟩
  case round=>
   obtain⟨k,hk,rfl,rfl,hv⟩:=hrel;have HV:=O hv;clear hv;rcases(show k=0\/k=1\/k=2 by omega)with rfl|rfl|rfl
   ·go_wp2_with fail;exact⟨⟨1,by omega,by first|trivial|rfl|simp,by first|trivial|rfl|simp,λh=>by omega⟩,by simp[intOf]⟩
   ·by_cases hv:v=0
    ·subst hv;go_wp2_with fail;exact⟨⟨2,by omega,by first|trivial|rfl|simp,by first|trivial|rfl|simp,by first|trivial|rfl|simp⟩,by simp[intOf]⟩
    ·have e0:(v==0)=false:=beq_eq_false_iff_ne.2 hv;go_wp2_with fail;go_ret;exact⟨rfl,rfl⟩
   ·have hv:=HV.o rfl;subst hv;go_wp2_with fail;go_ret;exact⟨rfl,rfl⟩
 ·rw[if_pos hu];have e0:(u==0)=false:=beq_eq_false_iff_ne.2 hu;go_enter func163,ntmps163;go_wp2_with fail
  go_loopw[8] (λiv wr=>iv=I J 0/\wr=w) (λiv _=>0)
  case atStart=>exact⟨rfl,rfl⟩
  case round=>
   obtain⟨rfl,rfl⟩:=hrel;go_wp2_with fail;go_ret;exact⟨rfl,rfl⟩
theorem NJ(x y:Int×Int)(W:aw):ax av 262 #[aC #[I J x.1,I J x.2],aC #[I J y.1,I J y.2]] W λe w'=>e=ay (I J (EM x y))/\∃q os',w'=grow (W.drewN q) os':=by
 have qB:=O (λw'=>tF x.1 y.1 w');have jF:=O (λw'=>tF x.2 y.2 w');unfold EM;obtain⟨u,hu⟩:=bG (fj x.1 y.1);obtain⟨v,hv⟩:=bG (fj x.2 y.2);rw[hu]at qB⊢;rw[hv]at jF⊢;clear hu hv;obtain⟨x1,x2⟩:=x;obtain⟨y1,y2⟩:=y;dsimp only at *;go_enter func262,ntmps262;go_upto_region 1 with(fail);obtain⟨w1,bT⟩:=bG ((W.alloc (az #[I J x1,I J x2] 172)).alloc (az #[I J y1,I J y2] 172));have fK:=O (show aX w1 W.heap.size 172 #[I J x1,I J x2]from bT▸(aX.new W 172 _).alloc _);have cw:=O (show aX w1 (W.heap.size+1) 172 #[I J y1,I J y2]from by
  have:=aX.new (W.alloc (az #[I J x1,I J x2] 172)) 172 #[I J y1,I J y2];rw[World.size_alloc]at this;exact bT▸this)
 have Uk:=O bT;rw[bT];obtain⟨qb,bE⟩:=bG (W.heap.size);rw[bE]at fK cw
 try simp only[bE]
 clear bT bE;have cZ:=O (λw' (hN:Ch (λ_=>False) w1 w')=>(show w'.cell? ⟨qb,0,U⟩=G (I J x1)/\w'.cell? ⟨qb,1,U⟩=G (I J x2)/\w'.cell? ⟨qb+1,0,U⟩=G (I J y1)/\w'.cell? ⟨qb+1,1,U⟩=G (I J y2)from
  ⟨(fK.o.ch hN (λh=>h)).c 0,(fK.o.ch hN (λh=>h)).c 1,(cw.o.ch hN (λh=>h)).c 0,(cw.o.ch hN (λh=>h)).c 1⟩))
 have dB:=O (show Ch (λ_=>False) w1 w1.drew from aU w1);have⟨b0,b1,b2,b3⟩:=cZ.o _ (Ch.r _ w1);have bl:=fK.o.lt;have bl':=cw.o.lt
 go_region_held3(λw'=>w'.cell? ⟨qb,0,U⟩=G (I J x1)/\w'.cell? ⟨qb,1,U⟩=G (I J x2)/\w'.cell? ⟨qb+1,0,U⟩=G (I J y1)/\w'.cell? ⟨qb+1,1,U⟩=G (I J y2))
  (first|with_reducible exact cZ.o _ dB.o|with_reducible exact cZ.o _ ((Ch.r (λ_=>False) w1).alloc _).drew)
  (first
    |(go_at_call 164;(with_reducible refine(qB.o _).mono ?_);rintro e w' ⟨rfl,hw⟩;subst hw;dsimp only)
    |(go_at_call 164;(with_reducible refine(jF.o _).mono ?_);rintro e w' ⟨rfl,hw⟩;subst hw;dsimp only)
    |(go_at_call 163;(with_reducible refine(RU (aX.new w1 3 #[I J u,I J v]).drew).mono ?_);rintro e w' ⟨rfl,hw⟩;subst hw;dsimp only))
 all_goals go_wp2_with fail
 all_goals
  go_ret
  first
   |(refine⟨rfl,1,#[az #[I J x1,I J x2] 172,az #[I J y1,I J y2] 172,az #[I J u,I J v] 3],?_⟩;rw[<-Uk.o,alloc_eq_grow,alloc_eq_grow,alloc_eq_grow,grow_grow,grow_grow,drew_grow];rfl)
   |(refine⟨rfl,1,#[az #[I J x1,I J x2] 172,az #[I J y1,I J y2] 172,az #[I J 0,I J v] 3],?_⟩;rw[<-Uk.o,alloc_eq_grow,alloc_eq_grow,alloc_eq_grow,grow_grow,grow_grow,drew_grow];rfl)
end Go.Proofs.YtmaimjajdbgmiaaGreatDoor
namespace Go.Proofs.YtmaimjajdbgmiaaGreatDoor
open Go.Lib Go.Maps Go.RowKit Go.Shelf Go.Sort
def po(x:Int×Int):List Value:=[I J x.1,I J x.2]
theorem ltE(x y:Int×Int):ltOf EM x y=decide (x.1<y.1\/(x.1=y.1/\x.2<y.2)):=by
 unfold ltOf EM fj;by_cases h1:x.1<y.1
 ·simp[h1]
 ·by_cases h2:y.1<x.1
  ·have h3: ¬x.1=y.1:=by omega
   simp[h1,h2,h3]
  ·have h3:x.1=y.1:=by omega
   by_cases h4:x.2<y.2<;>by_cases h5:y.2<x.2<;>simp[h1,h2,h3,h4,h5]
theorem qg0:SWO (ltOf EM) where
 irrefl x:=by rw[ltE];simp
 trans x y z h1 h2:=by rw[ltE]at *;simp at *;omega
 ntrans x y z h1 h2:=by rw[ltE]at *;simp at *;omega
theorem qg1: ∀w,(isAgg 172).run av w= .ok true w:=Tryz.isAgg172
theorem YW: ∀w,(Go.sizeOf 172).run av w= .ok 2 w:=Tryz.sizeOf172
theorem NK(aW off size:Nat)(w:aw):CmpLays av 262 #[] po 2 EM aW off size w:=
 λ_ _ _ _ x y=>NJ x y _
theorem Ja(aW off cap:Nat)(d:Array (Int×Int))(w:aw)(hH:HoldsK po 2 w aW off d)(hblk:aW<w.heap.size)(jh:d.size<4611686018427387904):
 ax av 161 #[T (G ⟨aW,off,U⟩) d.size cap,.func (.func 262) #[] #[]] w λe w'=>e=ay (aB #[])/\∃d' n os,PermIn 0 d.size d d'/\w'=sortWorldK po 2 w aW off n d' os:=by
 have eg: ∀args w,(callFunc 262 args).run av w= .ok (.enter 262 args) w:=enters_of func262 (by kernel_rfl) rfl;have qg2:=AnyQ.slices_SortFunc Tryz.Ct 2 qg1 YW po (λ_=>rfl) (λx v hv=>by simp[po]at hv;rcases hv with rfl|rfl<;>rfl) EM qg0 262 #[] aW off cap d w eg (NK aW off d.size w) hH hblk jh;exact qg2.mono λe w' ⟨he,d',n,os,hp,_,hw⟩=>⟨he,d',n,os,hp,hw⟩
theorem vK(p:Option Addr)(cap:Nat)(fv:Value)(w:aw):
 ax av 161 #[T p 0 cap,fv] w λe w'=>e=ay (aB #[])/\w'=w:=
 AnyF.slices_SortFunc_none Tryz.Ct p cap fv w
section
theorem vP: ∀(l:List (Int×Int)) (t:Nat),t<l.length*2->(fR l)[t]?=G ((po l[t / 2]!)[t%2]!)
 |[],t,h=>by simp at h
 |p::l,0,h=>rfl
 |p::l,1,h=>rfl
 |p::l,t+2,h=>by
  have h':t<l.length*2:=by simp at h;omega
  have:=vP l t h';have e1:(t+2) / 2=t / 2+1:=by omega
  have e2:(t+2)%2=t%2:=by omega
  rw[e1,e2];simpa [fR,zO]using this
theorem qx: ∀l:List (Int×Int),(fR l).length=l.length*2
 |[]=>rfl
 |p::l=>by have:=qx l;simp[fR,zO]at this⊢;omega
theorem Y9(d:Array (Int×Int)):(flatK po 2 d).toList=fR d.toList:=by
 apply List.ext_getElem?
 intro t;by_cases ht:t<d.size*2
 ·rw[vP _ _ (by simpa using ht),Array.getElem?_toList,Array.getElem?_eq_getElem (by simpa using ht)];have:=get_flatK po 2 d t ht;have hf:t<(flatK po 2 d).size:=by simpa using ht
  have ed:d.toList[t / 2]! =d[t / 2]! :=by
   have h2:t / 2<d.size:=by omega
   rw[getElem!_pos d (t / 2) h2,getElem!_pos d.toList (t / 2) (by simpa using h2),Array.getElem_toList]
  rw[getElem!_pos _ t hf]at this;rw[ed,this]
 ·rw[List.getElem?_eq_none (by simp;omega),List.getElem?_eq_none (by rw[qx];simp;omega)]
variable{w w':aw}{A:Option Addr}{n c:Nat}{L:List (Int×Int)}
theorem Jk{g:Nat}(h:eB w (G ⟨g,0,U⟩) n c L){d':Array (Int×Int)}(hs:d'.size=L.length)(q:Nat)(os:Array Obj):
 eB (sortWorldK po 2 w g 0 q d' os) (G ⟨g,0,U⟩) n c d'.toList:=by
 refine⟨?_,by simp[hs,h.len]⟩;have hn:=h.len;rcases h.own.2 with⟨e0,_⟩|⟨g',C9,cur,e0,hb,hg,TP,hm,jh,ht⟩
 ·cases e0
 ·injection e0 with e1 _ e3;injection e1 with e1;injection e1 with e1;subst e1;subst e3;have hlt:g<w.heap.size:=(Array.getElem?_eq_some_iff.1 hg).1;refine⟨by rw[qx];simp;omega,.inr ⟨g,c,putCells id 0 (flatK po 2 d') cur,rfl,hb,?_,TP,hm,by simpa [putCells]using jh,?_⟩⟩
  ·unfold sortWorldK putRowK;rw[heap_grow_old _ _ (by simp[Go.Sort.putRow,mapBlock,Sort.ahead];exact hlt)];simp[Go.Sort.putRow,mapBlock,Sort.ahead,Array.getElem?_modify,hg,onCells]
  ·apply List.ext_getElem?
   intro j;rw[List.getElem?_take,Array.getElem?_toList];by_cases hj:j<n*2
   ·have TN:j<cur.size:=by omega
    have hjf:j<(flatK po 2 d').size:=by simp;omega
    simp only[if_pos hj,putCells,Array.getElem?_mapIdx,Array.getElem?_eq_getElem TN,Option.map_some];rw[if_pos (by simp;omega), <-Y9,Array.getElem?_toList,Array.getElem?_eq_getElem hjf];simp only[id,Nat.sub_zero];rw[getElem!_pos _ j hjf]
   ·rw[if_neg hj,List.getElem?_eq_none (by rw[qx];simp;omega)]
theorem NX{g:Nat}(hg:g<w.heap.size)(d':Array (Int×Int))(q:Nat)(os:Array Obj):
 Ch (λk=>G g=G k) w (sortWorldK po 2 w g 0 q d' os):=by
 refine⟨rfl,rfl,rfl,by simp[sortWorldK,putRowK,Go.Sort.putRow,mapBlock,Sort.ahead,grow],λk hk hS=>?_⟩;unfold sortWorldK putRowK;rw[heap_grow_old _ _ (by simpa [Go.Sort.putRow,mapBlock,Sort.ahead]using hk)];have: ¬g=k:=λh=>hS (by rw[h]);simp[Go.Sort.putRow,mapBlock,Sort.ahead,Array.getElem?_modify,this]
theorem VO{g:Nat}(h:eB w (G ⟨g,0,U⟩) n c L):HoldsK po 2 w g 0 L.toArray:=by
 have hn:=h.len;rcases h.own.2 with⟨e0,_⟩|⟨g',C9,cur,e0,hb,hg,TP,hm,jh,ht⟩
 ·cases e0
 ·injection e0 with e1 _ e3;injection e1 with e1;injection e1 with e1;subst e1;subst e3;intro j hj;have hj2:j<L.length*2:=by simpa using hj
  have TN:j<cur.size:=by omega
  have e:=get_flatK po 2 L.toArray j (by simpa using hj2);have f:=vP L j hj2;rw[<-ht,List.getElem?_take,if_pos (by omega),Array.getElem?_toList,Array.getElem?_eq_getElem TN]at f;refine⟨?_,by simp[World.frozen?,hg]⟩;rw[Nat.zero_add,e];simpa [World.cell?,hg,TN]using f
theorem Jl(h:eB w A n c L)(hn:n<=1000):
 ax av 161 #[T A n c,.func (.func 262) #[] #[]] w λe w'=>e=ay (aB #[])/\∃L',eB w' A n c L'/\(∀p∈L',p∈L)/\Ch (λk=>(T A n c).ownBlock=G k) w w':=by
 by_cases h0:n=0
 ·subst h0;exact(vK A c _ w).mono λe w' ⟨he,hw⟩=>⟨he,L,hw▸h,λ_ h=>h,hw▸Ch.r _ _⟩
 ·obtain⟨g,cap,hv,_,hlt⟩:=h.own.form (by omega);injection hv with e1 _ e3;subst e1;subst e3;have hz:L.toArray.size=n:=by simpa using h.len
  have:=Ja g 0 c L.toArray w (VO h) hlt (by omega);rw[hz]at this;refine this.mono ?_;rintro e w' ⟨he,d',q,os,hp,rfl⟩;have hs:d'.size=L.length:=by simpa using hp.1
  refine⟨he,d'.toList,Jk h hs q os,λp YJ=>?_,NX hlt d' q os⟩;have hq:=hp.2.2;have hl:=h.len;have q1:d'.extract 0 n=d':=Array.extract_eq_self_of_le (by omega);have q2:L.toArray.extract 0 n=L.toArray:=Array.extract_eq_self_of_le (by omega);rw[q1,q2]at hq;simpa using hq.mem_iff.1 YJ
end
end Go.Proofs.YtmaimjajdbgmiaaGreatDoor
namespace Go.Proofs.YtmaimjajdbgmiaaGreatDoor
open Go.Lib Go.Maps Go.RowKit
section
variable{w w':aw}{sb aZ:Nat}{C:Cf}{s:dM}{a:gE}{B:Int}
def Za(w:aw)(own:List Int)(e:Ending)(w':aw):Prop:=
 ∃A n c L,e=ay (T A n c)/\eB w' A n c L/\n<=256/\(∀p∈L,p.1∈own/\p.2∈own)/\(∀k,(T A n c).ownBlock=G k->w.heap.size<=k)/\M w w'
theorem NY(l:List (Int×Int)): ∀u∈fR l,u.oneCell'=true:=by
 intro u hu;simp only[fR,zO,List.mem_flatMap,List.mem_cons,List.not_mem_nil,or_false]at hu;obtain⟨p,_,rfl|rfl⟩:=hu<;>rfl
theorem NZ(l l':List (Int×Int)):fR (l++l')=fR l++fR l':=by simp[fR]
theorem ES(h:gS w sb C aZ s a)(hA:cO C s B):
 ax av 190 #[X (G ⟨sb,0,U⟩)] w (Za w (s.sh C.h).own):=by
 have H:=O h;have HA:=O hA;have sP:=h.m.ig.w.ns;have hh:=h.m.ig.w.h;obtain⟨g,sB,nz,_⟩:=h.m.oD hh;have YP:=O sB;have x2:=h.m.cells.2.2.1;rw[sB]at x2;have xl:=h.m.aW.lt;obtain⟨N,hN⟩:=bG (C.ns);have NB:=O hN;rw[hN]at x2 sP hh;obtain⟨i1,dX,er,eu,eK⟩:=info_parts nM;have JF:=O dX;have HY0:=O er;have HY1:=O eu;have HY2:=O eK;clear h hA sB hN dX er eu eK;go_enter func190,ntmps190;go_wp2_with fail
 go_loopw[3,13] (λlv iv wr=>∃k A n c L,k<=N/\iv=I J (k:Nat)/\lv=T A n c/\eB wr A n c L/\n<=256/\(k<=C.h->n=0)/\(∀p∈L,p.1∈(s.sh C.h).own/\p.2∈(s.sh C.h).own)/\(∀g,(T A n c).ownBlock=G g->w.heap.size<=g)/\M w wr) (λ_ iv _=>N- (intOf iv).toNat)
 case atStart=>exact⟨0,U,0,0,[],by omega,rfl,rfl,⟨⟨rfl,.inl ⟨rfl,rfl⟩⟩,rfl⟩,by omega,λ_=>rfl,λ_ h=>(by cases h),λg h=>(by cases h),Ch.r _ _⟩
 case round=>
  obtain⟨k,A,n,c,L,hk,rfl,rfl,hE,hn,hz,hL,kZ,hC⟩:=hrel;have HC:=O hC;have HG:=O (H.o.aR hC);have HE:=O hE;have HZ:=O hz;have HL:=O hL;have HF:=O kZ;have HN:=O hn;clear hC x2 xl hE hz hL kZ hn;by_cases hlt:k<N
  ·have Dz:k<C.ns:=by rw[NB.o];exact hlt
   have jq:(k:Int)<(N:Int):=by omega
   obtain⟨g',e1,YQ,y⟩:=HG.o.m.oD Dz;rw[YP.o]at e1;injection e1 with e1;injection e1 with e1;subst e1;have C5:=O (yh (HG.o.m.sh k Dz));obtain⟨p,hp⟩:=bG (a.iz k);rw[hp]at C5 y;clear hp;go_wp2_with fail;refine C5.o.mono ?_;rintro e w4 ⟨A',m,c',L',rfl,hL',hm,cU,dL,pV⟩;dsimp only;have dQ:=O pV;have qD:=O (HE.o.aR pV);have HR:=O (Reads.qN hL'.own);have Zb:m=0\/(n=0/\k=C.h):=by
    by_cases e:k=C.h
    ·exact .inr ⟨HZ.o (by omega),e⟩
    ·left
     have ho:=(HA.o.i.CU k e).1;rw[ho]at cU;cases hL2:L' with
     |nil=>rw[<-hL'.len,hL2];rfl
     |cons p _=>have:=(cU p (by rw[hL2];exact List.mem_cons_self ..)).1;cases this
   have hnm:n+m<=256:=by
    have:=HN.o;rcases Zb with h|h<;>omega
   have hZ':k+1<=C.h->n+m=0:=λh=>by
    have:=HZ.o (by omega);rcases Zb with h'|h'<;>omega
   have Tf: ∀p∈L++L',p.1∈(s.sh C.h).own/\p.2∈(s.sh C.h).own:=λp hp=>by
    rcases List.mem_append.1 hp with h|h
    ·exact HL.o p h
    ·by_cases e:k=C.h
     ·subst e;exact cU p h
     ·have:=cU p h;rw[(HA.o.i.CU k e).1]at this;cases this.1
   have SF:=O hnm;have HZM:=O hZ';have We:=O Tf;have CW:=O (show(L++L').length=n+m from by rw[aL,HE.o.len,hL'.len]);clear hL' hm cU dL pV Zb hnm hZ' Tf y;go_wp2_with(first
    |(at_builtin
      refine bp _ rfl (.tmp 17) (.tmp 19) _ rfl 0 172 i1 _ 2 16 underlying169 JF.o HY0.o HY1.o HY2.o rfl (by omega) _ n (fR L) rfl
       qD.o.own w4.heap.size A' m c' (fR L') rfl HR.o (NY L') (by have:=SF.o;simp only[maxLen];omega) (by have:=SF.o;omega) (by omega) ?_
      intro v8 w8 bM dS dG;obtain⟨A8,c8,rfl⟩:=bz bM;have HOA:=O bM;have iT:=O dS;have kD:=O dG;clear bM dS dG))
   have jh:=HC.o.size;have hsz4:=dQ.o.size;refine⟨⟨k+1,A8,n+m,c8,L++L',by omega,by go_num,rfl,⟨by rw[NZ];exact HOA.o,CW.o⟩,SF.o,HZM.o,We.o,λg hg=>?_,(HC.o.t dQ.o).grown iT.o (λg hg=>.inr (HF.o g hg))⟩,by simp[intOf];omega⟩;rcases kD.o with h|h
   ·exact HF.o g (h▸hg)
   ·rw[h]at hg;injection hg with hg;omega
  ·obtain rfl:N=k:=by omega
   clear hlt hk;have HS:=O (Jl HE.o (by have:=HN.o;omega));go_wp2_with fail;refine HS.o.mono ?_;rintro e w5 ⟨rfl,L5,RO,lI,qE⟩;dsimp only;have dZ:=O qE;have nG:=O lI;have HK:=O (ym RO (by have:=HN.o;omega));clear RO lI qE;go_wp2_with fail;refine HK.o.mono ?_;rintro e w6 ⟨i,L6,rfl,hE6,hi,ze,nC⟩;dsimp only;have iU:=O nC;have sJ:=O ze;have HE6:=O hE6;have KF:=O hi;clear hE6 hi ze nC;go_wp2_with fail;go_ret;exact⟨A,i,c,L6,rfl,HE6.o,aO KF.o HN.o,λp hp=>HL.o p (nG.o p (sJ.o p hp)),λg hg=>HF.o g (by cases A<;>first|exact hg|simpa [Value.ownBlock]using hg),(HC.o.trans dZ.o (λg hg=>.inr (HF.o g hg))).trans iU.o (λg hg=>.inr (HF.o g hg))⟩
end
section
variable{w w':aw}{sb aZ:Nat}{C:Cf}{s:dM}{a:gE}{B:Int}
theorem Jm(h:gS w sb C aZ s a)(hA:cO C s B):
 ax av 118 #[X (G ⟨sb,0,U⟩)] w (Za w (s.sh C.h).own):=by
 have HO:=O hA.i.ow;have HL:=O h.m.aW.lt;have CY:=O (h.cv sb ⟨0,rfl⟩);have CX:=O h.m.fC;obtain⟨w1,bT⟩:=bG (w.alloc (az #[X (G ⟨sb,0,U⟩)] 28));have cH:=kb bT;have cw:=O (show aX w1 w.heap.size 28 #[X (G ⟨sb,0,U⟩)]from bT▸aX.new w 28 _);have H1:=O (h.aR cH.o);have OW:=O (ES H1.o hA);have x0:=cw.o.c 0;have xl:=cw.o.lt;clear h hA;go_enter func118,ntmps118;go_upto_region 1 with(fail)
 try rw[bT]
 obtain⟨qb,bE⟩:=bG (w.heap.size);rw[bE]at cw x0 xl
 try simp only[bE]
 clear bT bE;go_wp2_with fail;refine OW.o.mono ?_;rintro e w2 ⟨A,n,c,L,rfl,hE,hn,hm,hf,hN⟩;dsimp only;have bJ:=O hN;have HM:=O hm;have HF:=O hf;have rG:=O hn;have HD:=O (NI (ob:=qb) (H1.o.aR bJ.o) (cw.o.ch bJ.o (λh=>h)) hE (by omega) (λp hp=>(HO.o _ (hm p hp).1).1) (λg hg=>by
  have h1:=HF.o g hg;have h2:=cH.o.size;exact⟨λhF=>by have:=CX.o g hF;omega,by have:=HL.o;have:=CY.o;omega⟩))
 clear hE hn hm hf hN x0 xl;go_wp2_with fail;refine HD.o.mono ?_;rintro e w3 ⟨i,L3,rfl,hE3,hi,WL,Du⟩;dsimp only;have gT:=O Du;have vV:=O WL;have Gq:=O hE3;have YI:=O hi;clear hE3 hi WL Du;go_wp2_with fail;go_ret;exact⟨A,i,c,L3,rfl,Gq.o,aO YI.o rG.o,λp hp=>HM.o p (vV.o p hp),λg hg=>aO cH.o.size (HF.o g (by cases A<;>first|exact hg|simpa [Value.ownBlock]using hg)),(cH.o.t bJ.o).trans gT.o (λg hg=>.inr (aO cH.o.size (HF.o g hg)))⟩
end
theorem eB.kp{w w':aw}{A:Option Addr}{n c:Nat}{L:List (Int×Int)}(h:eB w A n c L)(hk:Waits.vM w w'):eB w' A n c L:=by
 refine⟨⟨h.own.1,?_⟩,h.len⟩;rcases h.own.2 with h0|⟨g,cap,cur,e0,hb,hg,hr⟩
 ·exact .inl h0
 ·exact .inr ⟨g,cap,cur,e0,hb,hk g 172 cur (by decide) (by decide) hg,hr⟩
theorem fq{w w':aw}(h:Below w.heap.size w w'):M w w':=
 ⟨h.os,h.tape,h.output,h.size,λk hk _=>h.block k hk⟩
section
variable{w w':aw}{sb aZ:Nat}{C:Cf}{s:dM}{a:gE}{B:Int}
theorem Gw{w0 w:aw}{gb:Nat}{l:List Waits.Nd}{n:Nat}{st:Int}(h:Waits.KG w0 gb l w)(hn:(n:Int)<=9223372036854775807:=by omega):
 ax av 97 #[X (G ⟨gb,0,U⟩),I J (n:Nat),I J st] w λe w'=>e=ay (I J (Waits.vN l n st))/\Waits.KG w0 gb (Waits.ma l n st) w'/\Waits.vM w w':=Waits.NN h n st hn
def Tt(K:Nat)(l:List Waits.Nd):Prop:=∀y∈l,y.id<K
theorem Cv{K:Nat}{l:List Waits.Nd}(h:Tt K l){id:Int}(hi:id<K)(st:Int):Tt K (Waits.ma l id st):=by
 unfold Waits.ma;split
 ·intro y hy;rcases List.mem_append.1 hy with e|e
  ·exact h y e
  ·rw[List.mem_singleton]at e;rw[e];exact hi
 ·exact h
theorem N0{K:Nat}{l:List Waits.Nd}(h:Tt K l)(x y:Int):Tt K (Waits.nf l x y):=by
 unfold Waits.nf;split
 ·intro z hz;obtain⟨u,hu,e,_⟩:=Waits.nO hz;rw[e];exact h u hu
 ·exact h
theorem N5{l:List Waits.Nd}{K:Nat}(h:Waits.Ok l)(hK:Tt K l)(k:Nat)(x:Int)(hx:x∈Waits.oa l k):0<=x/\x<K:=by
 unfold Waits.oa at hx;obtain⟨i,hi,rfl⟩:=List.mem_map.1 hx;have hv:=(List.mem_filter.1 hi).2;unfold Waits.EN at hv;unfold Waits.RX;cases e:l[i]? with
 |none=>rw[e]at hv;cases hv
 |some y=>simpa [e]using⟨(h.id0 y (bS e)).1,hK y (bS e)⟩
theorem zU(h:gS w sb C aZ s a)(hA:cO C s B)(hT:Waits.C4 w):
 ax av 71 #[X (G ⟨sb,0,U⟩)] w λe w'=>∃A n c xs,e=ay (T A n c)/\w'.ownsRow w.heap.size 3 1 (T A n c) n (ints xs)/\n<=64/\(∀x∈xs,0<=x/\x<s.dr.length)/\M w w':=by
 have HO:=O hA.i.ow;have Zc:=O hA.w.fx;have H:=O h;have HA:=O hA;have HT:=O hT;have HK:=O (Waits.NM w w (Below.refl _ _));have xl:=h.m.aW.lt;clear h hT;go_enter func71,ntmps71;go_wp2_with fail;refine HK.o.mono ?_;rintro e w1 ⟨rfl,hK,hN⟩;dsimp only;have cH:=O hN;have OW:=O (Jm (H.o.aR hN) HA.o);have HK1:=O hK;clear hK hN;go_wp2_with fail;refine OW.o.mono ?_;rintro e w2 ⟨A,n,c,L,rfl,hE,hn,hm,hf,hN⟩;dsimp only;have YZ:=O (show Waits.KG w w.heap.size [] w2 from⟨⟨_,HK1.o.gm.choose_spec.aR hN⟩,Ch.below HK1.o.below hN (λ_ h=>h.elim) HK1.o.below.size⟩);have DV:=O hE;have HM:=O hm;have HL:=O hE.len;have jW:(n:Int)<=256:=by omega
 obtain⟨gb,Kk⟩:=bG (w.heap.size);rw[Kk]at YZ
 try simp only[Kk]
 clear hE hn hm hf hN hA OW HK1 cH;go_wp2_with fail
 go_loopw[16] (λiv wr=>∃k l,k<=n/\iv=I J (k:Nat)/\Waits.KG w gb l wr/\eB wr A n c L/\Tt s.dr.length l) (λiv _=>n- (intOf iv).toNat)
 case atStart=>exact⟨0,[],by omega,rfl,YZ.o,DV.o,λy hy=>by cases hy⟩
 case round=>
  obtain⟨k,l,hk,rfl,hG,hE,hI⟩:=hrel;have HI:=O hI;clear hI;have HG:=O hG;have HE:=O hE;clear hG hE YZ DV;by_cases hlt:k<n
  ·have jq:(k:Int)<(n:Int):=by omega
   obtain⟨⟨x,y⟩,hx⟩:=bh (show k<L.length by rw[HL.o];exact hlt);have cU:=HM.o _ (bS hx);obtain⟨b,off,rfl,hb,x0,x1⟩:=HE.o.at_ hx;obtain⟨Wi,ot⟩:=HO.o x cU.1;obtain⟨er,eu⟩:=HO.o y cU.2;dsimp only at x0 x1 Wi ot er eu;obtain⟨i,rfl⟩: ∃i:Nat,x=i:=⟨x.toNat,by omega⟩;obtain⟨j,rfl⟩: ∃j:Nat,y=j:=⟨y.toNat,by omega⟩;have NP:i<s.dr.length:=by omega
   have WR:j<s.dr.length:=by omega
   have Aa:(i:Int)<(s.dr.length:Int):=by omega
   have Ot:(j:Int)<(s.dr.length:Int):=by omega
   have iB:(i:Int)<(s.dr.length:Nat):=by omega
   have jB:(j:Int)<(s.dr.length:Nat):=by omega
   have HpB:=O (And.intro iB jB);have hi9:(i:Int)<=9:=by have:=Zc.o;omega
   have hj9:(j:Int)<=9:=by have:=Zc.o;omega
   obtain⟨di,hdi⟩:=bh NP;obtain⟨dj,Tp⟩:=bh WR;have Hdi:=O hdi;have Hdj:=O Tp;obtain⟨f,OV,_,_⟩:=H.o.m.Ck NP;have CY:=O OV;clear cU hx hdi Tp OV Wi ot er eu;go_upto_region 8 with(fail);obtain⟨w3,je⟩:=bG (wr.alloc (az #[I J (i:Nat),I J (j:Nat)] 172));have cE:=kb je;have yY:=O (show aX w3 wr.heap.size 172 #[I J (i:Nat),I J (j:Nat)]from je▸aX.new wr 172 _);rw[je];obtain⟨qb,bE⟩:=bG (wr.heap.size);rw[bE]at yY
   try simp only[bE]
   have HK3:=O (HG.o.aR cE.o);have Gq:=O (HE.o.aR cE.o);have cZ:=O (λw' (hN:M w w') (hq:aX w' qb 172 #[I J (i:Nat),I J (j:Nat)]) (p:Nat) (hp:p<s.dr.length)=>
    (show w'.cell? ⟨qb,0,U⟩=G (I J (i:Nat))/\w'.cell? ⟨qb,1,U⟩=G (I J (j:Nat))/\w'.cell? ⟨sb,3,U⟩=G (T (G ⟨f,0,U⟩) s.dr.length a.cc)/\w'.cell? ⟨f,p*2,U⟩=G (X (G ⟨a.lK p,0,U⟩))from by
      obtain⟨f',e1,y0,y1⟩:=(H.o.aR hN).m.Ck hp;rw[CY.o]at e1;injection e1 with e1;injection e1 with e1;subst e1;exact⟨hq.c 0,hq.c 1,y0,y1⟩))
   clear je bE x0 x1 xl hb
   go_cut[33] (λ_ wx=>∃l',Waits.KG w gb l' wx/\eB wx (G ⟨b,off,U⟩) n c L/\aX wx qb 172 #[I J (i:Nat),I J (j:Nat)]/\Tt s.dr.length l')
   case first=>
    have dB:=O (show M w3 w3.drew from aU w3);have VP:=O (HK3.o.aR dB.o);have C5:=O (Gq.o.aR dB.o);have Gk:=O (yY.o.drew);have pr:=O (cZ.o w3.drew (fq VP.o.below) Gk.o i NP);have⟨c0,c1,c2,c3⟩:=cZ.o w3 (fq HK3.o.below) yY.o i NP;have pv:=O (xS ((H.o.aR (fq VP.o.below)).m.dr i di Hdi.o))
    go_region_held3(λw'=>w'.cell? ⟨qb,0,U⟩=G (I J (i:Nat))/\w'.cell? ⟨qb,1,U⟩=G (I J (j:Nat))/\w'.cell? ⟨sb,3,U⟩=G (T (G ⟨f,0,U⟩) s.dr.length a.cc)/\w'.cell? ⟨f,i*2,U⟩=G (X (G ⟨a.lK i,0,U⟩)))
     (first|with_reducible exact pr.o|with_reducible exact lY.o)
     (first
       |(go_at_call 98;refine(pv.o).mono ?_;rintro e w2 ⟨rfl,ew⟩;subst w2;dsimp only)
       |(go_at_call 97;refine(Gw VP.o).mono ?_;rintro e w4 ⟨rfl,R4,R5⟩
         dsimp only;have Zd:=O R4;have FJ:=O (R5 _ _ _ (by decide) (by decide) Gk.o);have Ze:=O (C5.o.kp R5);have lY:=O (cZ.o w4 (fq R4.below) FJ.o i NP);clear R4 R5))
    all_goals
     go_wp2_with fail;go_meet;exact⟨_,Zd.o,Ze.o,FJ.o,Cv HI.o HpB.o.1 _⟩
   case rest=>
    obtain⟨l2,hK5,RO,hQ5,CR⟩:=hcut;have HI5:=O CR;have HK5:=O hK5;have HE5:=O RO;have DH:=O hQ5;clear hK5 RO hQ5 CR;go_upto_region 9 with(fail);have dB:=O (show M wc wc.drew from aU wc);have VP:=O (HK5.o.aR dB.o);have C5:=O (HE5.o.aR dB.o);have Gk:=O (DH.o.drew);have pr:=O (cZ.o wc.drew (fq VP.o.below) Gk.o j WR);have⟨c0,c1,c2,c3⟩:=cZ.o wc (fq HK5.o.below) DH.o j WR;have pv:=O (xS ((H.o.aR (fq VP.o.below)).m.dr j dj Hdj.o))
    go_region_held3(λw'=>w'.cell? ⟨qb,0,U⟩=G (I J (i:Nat))/\w'.cell? ⟨qb,1,U⟩=G (I J (j:Nat))/\w'.cell? ⟨sb,3,U⟩=G (T (G ⟨f,0,U⟩) s.dr.length a.cc)/\w'.cell? ⟨f,j*2,U⟩=G (X (G ⟨a.lK j,0,U⟩)))
     (first|with_reducible exact pr.o|with_reducible exact lY.o)
     (first
       |(go_at_call 98;refine(pv.o).mono ?_;rintro e w2 ⟨rfl,ew⟩;subst w2;dsimp only)
       |(go_at_call 97;refine(Gw VP.o).mono ?_;rintro e w4 ⟨rfl,R4,R5⟩
         dsimp only;have Zd:=O R4;have FJ:=O (R5 _ _ _ (by decide) (by decide) Gk.o);have Ze:=O (C5.o.kp R5);have lY:=O (cZ.o w4 (fq R4.below) FJ.o j WR);clear R4 R5))
    all_goals
     go_wp2_with fail;exact⟨⟨k+1,_,by omega,by go_num,Zd.o,Ze.o,Cv HI5.o HpB.o.2 _⟩,by simp[intOf];omega⟩
  ·obtain rfl:n=k:=by omega
   clear hlt hk;go_wp2_with fail
   go_loopw[51] (λiv wr=>∃k l,k<=n/\iv=I J (k:Nat)/\Waits.KG w gb l wr/\eB wr A n c L/\Tt s.dr.length l) (λiv _=>n- (intOf iv).toNat)
   case atStart=>exact⟨0,l,by omega,rfl,HG.o,HE.o,HI.o⟩
   case round=>
    clear HG HE HI;obtain⟨k,l,hk,rfl,hG,hE,hI⟩:=hrel;have HI:=O hI;clear hI;have HG:=O hG;have HE:=O hE;clear hG hE;by_cases hlt:k<n
    ·have jq:(k:Int)<(n:Int):=by omega
     obtain⟨⟨x,y⟩,hx⟩:=bh (show k<L.length by rw[HL.o];exact hlt);obtain⟨b,off,rfl,hb,x0,x1⟩:=HE.o.at_ hx;dsimp only at x0 x1;have cE:=O (show M wr (wr.alloc (az #[I J x,I J y] 172))from(Ch.r _ wr).alloc _);have C5:=O (Waits.NS (HG.o.aR cE.o) x y);have Gq:=O (HE.o.aR cE.o);clear hx;go_wp2_with fail;refine C5.o.mono ?_;rintro e w4 ⟨rfl,R4,R5⟩;dsimp only;have Zd:=O R4;have Ze:=O (Gq.o.kp R5);clear R4 R5 x0 x1 C5;go_wp2_with fail;exact⟨⟨k+1,_,by omega,by go_num,Zd.o,Ze.o,N0 HI.o _ _⟩,by simp[intOf];omega⟩
    ·obtain rfl:n=k:=by omega
     clear hlt hk;obtain⟨v,WS⟩:=HG.o.gm;have ZG:=O WS;have HV:=O (Waits.sX WS (HT.o.aR (fq HG.o.below)));clear WS;go_wp2_with fail;refine HV.o.mono ?_;rintro e w5 ⟨A5,c5,rfl,cU,FK⟩;dsimp only;have pN:=O cU;have ff:=O FK;clear cU FK;go_wp2_with fail;go_ret;refine⟨A5,_,c5,_,rfl,jH pN.o HG.o.below.size,aO (Waits.vL _ _) ZG.o.ok.len,λx hx=>?_,(fq HG.o.below).t ff.o⟩;exact N5 ZG.o.ok HI.o _ _ ((List.mergeSort_perm _ _).mem_iff.1 hx)
end
section
variable{w w':aw}{sb aZ cY:Nat}{C:Cf}{s:dM}{a:gE}{B:Int}
theorem ET(h:gS w sb C aZ s a)(hA:cO C s B)(hT:Waits.C4 w)(hB:B<1099511627776)(cp:aZ+200<=1000000):
 ax av 34 #[X (G ⟨sb,0,U⟩)] w λe w'=>e=ay (aB #[])/\∃s',cO C s' B/\s'.dr=s.dr/\sU w sb C (aZ+200) s a s' w':=by
 have HV:=O (zU h hA hT);have H:=O h;have HA:=O hA;have HF:=O hA.w.fx;clear h hA hT;go_enter func34,ntmps34;go_wp2_with fail;refine HV.o.mono ?_;rintro e w1 ⟨A,n,c,xs,rfl,cU,hn,hx,hN⟩;dsimp only;have JF:=O (show eX w1 A n c xs from⟨uZ cU,by have:=cU.1;simpa [ints]using this⟩);have HX:=O hx;have HG0:=O (H.o.aR hN);have HS0:=O (Sub.bj (a.F C sb s) hN);have HN0:=O (λg (hg:(T A n c).ownBlock=G g)=>(show¬a.F C sb s g from λe=>by have:=H.o.m.fC g e;have:=(cU.lt g hg).1;omega));have jW:(n:Int)<=64:=by omega
 clear cU hx hN;go_wp2_with fail
 go_loopw[7] (λiv wr=>∃k s1 a1,k<=n/\iv=I J (k:Nat)/\cO C s1 B/\s1.dr=s.dr/\gS wr sb C (aZ+2*k) s1 a1/\Sub (a.F C sb s) (a1.F C sb s1) w wr/\a.same a1/\eX wr A n c xs/\(∀g,(T A n c).ownBlock=G g->¬a1.F C sb s1 g)) (λiv _=>n- (intOf iv).toNat)
 case atStart=>exact⟨0,s,a,by omega,rfl,HA.o,rfl,HG0.o,HS0.o,⟨rfl,rfl,rfl⟩,JF.o,HN0.o⟩
 case round=>
  obtain⟨k,s1,a1,hk,rfl,Wd,hd1,ZF,hS1,Vo,hI,mr⟩:=hrel;have tJ:=O mr;have Fv:=O ZF;have fK:=O Wd;have Ae:=O hS1;have HD1:=O hd1;have HM1:=O Vo;have HI:=O hI;clear Wd hd1 ZF hS1 Vo hI mr;by_cases hlt:k<n
  ·have jq:(k:Int)<(n:Int):=by omega
   obtain⟨x,hx⟩:=bh (show k<xs.length by rw[HI.o.len];exact hlt);obtain⟨bb,off,rfl,pD,x0⟩:=HI.o.at_ hx;obtain⟨Wi,ot⟩:=HX.o x (bS hx);have Zf:0<=x/\x<16:=by have:=HF.o;omega
   have sP:=Fv.o.m.ig.w.ns;have Dz:bZ C x<C.ns:=Nat.mod_lt _ (by omega);have j8:s1.order.length<=1000:=by have:=jd fK.o.i;have:=fK.o.w.fx;omega
   have Eh:=O (rY Fv.o.m Wi);have HWT:=O (λw' (hN:M wr w')=>Cs (Fv.o.aR hN) fK.o (by omega) x);have xG:=O (λr (hr: -1<=r/\r<=1048576) w' (hN:M wr w')=>mY (Fv.o.aR hN).m Dz (c:=bk 6 x r) (Ny Zf hr) (λe=>by simp[bk]at e) (λe=>by simp[bk]at e) (fK.o.w.sh _) (by omega) j8);clear hx sP Wi ot Zf Dz j8;go_wp2_with fail;refine Eh.o.mono ?_;rintro e w2 ⟨rfl,m,ew⟩;dsimp only;have bJ:=O (show M wr w2 from ew▸(Ch.r _ wr).drewN m);clear ew pD x0;go_wp2_with fail;refine(HWT.o _ bJ.o).mono ?_;rintro e w3 ⟨r,rfl,hr,gZ⟩;dsimp only;have HR:=O hr;have cE:=O (bJ.o.t gZ);clear gZ hr;go_wp2_with fail;refine(xG.o r HR.o w3 cE.o).mono ?_;rintro e w4 ⟨rfl,b4,oA4,oc4,B8,wm⟩;dsimp only;have DK:=O B8;have lY:=O wm;clear B8 wm;go_wp2_with fail;refine⟨⟨k+1,_,_,by omega,by go_num,vw fK.o hB x r,HD1.o,(Fv.o.aR cE.o).next DK.o lY.o,(Ae.o.trans (Sub.bj _ cE.o)).trans lY.o,HM1.o,(HI.o.aR cE.o).ch lY.o.ch tJ.o,λg hg e=>?_⟩,by simp[intOf];omega⟩;rcases lY.o.new g e with e'|e'
   ·exact tJ.o g hg e'
   ·have:=(HI.o.own.lt g hg).2;have:=cE.o.size;omega
  ·obtain rfl:n=k:=by omega
   clear hlt hk;go_wp2_with fail
   go_end0
   exact⟨rfl,s1,fK.o,HD1.o,a1,Fv.o.mono (by omega),Ae.o,HM1.o⟩
end
theorem EU:(av.info? 73).map (λi=>(i.zero,i.size,i.bytes))=G (G (X U),1,8):=by kernel_rfl
abbrev N6(C:Cf)(k:Nat):Cf:={C with ns:=k}
structure N7(w0 w:aw)(sb:Nat)(C:Cf)(k:Nat)(a:gE):Prop where
 aW:aX w sb 72 (JS (N6 C k) a dV)
 ig:mU w a.rb a.rA a.rc a.M6
 Ah:w.ownsRow 0 73 1 (T a.sA k a.sc) k (mX a.iz k)
 rq:dF w a.qb a.qA 0 a.qc []
 an:eA w a.ab a.aA 0 a.ac []
 sh: ∀j,j<k->dH w (a.iz j) C.key 0 iS (a.sh j)
 iu:eG w (a.P (N6 C k) sb dV)
 hi: ∀i g,a.P (N6 C k) sb dV i g->w0.heap.size<=g
 new:M w0 w
 no:a.cA=U/\a.cc=0/\a.oA=U/\a.oc=0/\∀i,∃A n c,a.pl i=T A n c
def gE.one(a:gE)(k:Nat)(A:Option Addr)(c p:Nat)(b:ia):gE:={a with sA:=A,sc:=c,iz:=bK a.iz k p,sh:=bK a.sh k b}
theorem Cw(f:Nat->Nat)(k p:Nat):mX (bK f k p) (k+1)=mX f k++[X (G ⟨p,0,U⟩)]:=by
 unfold mX;rw[List.range_succ,List.map_append];congr 1
 ·exact List.map_congr_left λj hj=>by rw[bC _ _ (by have:=List.mem_range.1 hj;omega)]
 ·simp[bI]
theorem iY{A:Option Addr}{n m c c':Nat}:(T A n c).ownBlock=(T A m c').ownBlock:=by cases A<;>rfl
section
variable{w0 w w1 w2 w':aw}{sb k p c:Nat}{C:Cf}{a:gE}{b:ia}{A:Option Addr}
theorem N7.next(h:N7 w0 w sb C k a)(hN:M w w1)(hp:dH w1 p C.key 0 iS b)(hF: ∀g,b.F p g->w.heap.size<=g)
 (hx:w2.ownsRow 0 73 1 (T A (k+1) c) (k+1) (mX a.iz k++[X (G ⟨p,0,U⟩)])) (zF:Ch (λg=>(T a.sA k a.sc).ownBlock=G g) w1 w2)
 (hat: ∀g,(T A (k+1) c).ownBlock=G g->(T a.sA k a.sc).ownBlock=G g\/w1.heap.size<=g) (o8:Ch (λg=>g=sb) w2 w')
 (hb:aX w' sb 72 (JS (N6 C (k+1)) (a.one k A c p b) dV)):N7 w0 w' sb C (k+1) (a.one k A c p b):=by
 have jh:=h.new.size;have n1: ∀g,¬a.P (N6 C k) sb dV (2*k+7) g:=λg hg=>by
  have hg:if 2*k%2=0 then 2*k / 2<k/\_ else _:=hg;rw[if_pos (by omega)]at hg;have:=hg.1;omega
 obtain⟨p1,s1⟩:=h.iu.Ru (P':=gE.P (N6 C (k+1)) (a.one k a.sA a.sc p b) sb dV) hN (2*k+7) n1 (F:=b.F p) hF hp.fC (λn g hg=>by
  match n,hg with
  |0,hg|1,hg=>exact⟨λe=>by omega,λ_=>hg⟩
  |2,hg=>exact⟨λe=>by omega,λ_=>by
   have hg:(T a.sA (k+1) a.sc).ownBlock=G g:=hg;exact iY.trans hg⟩
  |3,hg|4,hg|5,hg|6,hg=>exact⟨λe=>by omega,λ_=>hg⟩
  |n+7,hg=>
   have hg:if n%2=0 then n / 2<k+1/\(bK a.sh k b (n / 2)).F (bK a.iz k p (n / 2)) g else∃d,([]:List eF)[n / 2]?=G d/\_:=hg;split at hg
   ·rename_i e2;refine⟨λe=>?_,λe=>?_⟩
    ·rw[show n / 2=k by omega,bI,bI]at hg;exact hg.2
    ·rw[bC _ _ (by omega),bC _ _ (by omega)]at hg;show if n%2=0 then n / 2<k/\(a.sh (n / 2)).F (a.iz (n / 2)) g else _;rw[if_pos e2];exact⟨by omega,hg.2⟩
   ·obtain⟨d,hd,_⟩:=hg;simp at hd)
 have OD:=bg h.Ah hN (λ_ _ e=>e);have hb1:=h.aW.ch hN (λe=>e);have eQ: ¬(T a.sA k a.sc).ownBlock=G sb:=aV OD hb1 (by decide);have SZ:=bg hx o8 (λq hq e=>by
  subst e;have:=hat _ hq;rcases this with e|e
  ·exact eQ e
  ·have:=hb1.lt;omega)
 have hC:Ch (λg=>(T a.sA k a.sc).ownBlock=G g\/g=sb) w1 w':=(zF.mono (λg e=>.inl e)).t (o8.mono (λg e=>.inr e));have kZ: ∀i,i≠0->i≠2->∀g,(a.one k a.sA a.sc p b).P (N6 C (k+1)) sb dV i g->¬((T a.sA k a.sc).ownBlock=G g\/g=sb):=λi h0 h2 g hg e=>by
  rcases e with e|e
  ·exact p1.dj i 2 h2 g hg (iY.trans e)
  ·exact p1.dj i 0 h0 g hg e
 obtain⟨p2,s2⟩:=p1.tC (w':=w2) (P':=gE.P (N6 C (k+1)) (a.one k A c p b) sb dV) 2 (F:=λg=>(T A (k+1) c).ownBlock=G g) ⟨zF.mono (λg e=>iY.trans e),λg hg=>(hat g hg).imp (λe=>iY.trans e) id⟩ (λg hg=>(hx.lt g hg).2) (λn g hg=>by
  match n,hg with
  |0,hg|1,hg=>exact⟨λe=>by omega,λ_=>hg⟩
  |2,hg=>exact⟨λ_=>hg,λe=>absurd rfl e⟩
  |3,hg|4,hg|5,hg|6,hg=>exact⟨λe=>by omega,λ_=>hg⟩
  |n+7,hg=>exact⟨λe=>by omega,λ_=>hg⟩)
 refine⟨hb,(h.ig.aR hN).ch hC (λg hg=>kZ 1 (by omega) (by omega) g hg),(by show w'.ownsRow 0 73 1 (T A (k+1) c) (k+1) (mX (bK a.iz k p) (k+1));rw[Cw];exact SZ),(h.rq.aR hN).ch hC (λg hg=>kZ 4 (by omega) (by omega) g hg),(h.an.aR hN).ch hC (λg hg=>kZ 5 (by omega) (by omega) g hg),λj hj=>?_,p2.mono o8.size,λi g hg=>?_,?_,h.no⟩
 ·have hP:=Rw (C:=N6 C (k+1)) (sb:=sb) (s:=dV) (a.one k a.sA a.sc p b) (k:=j) hj;have hf: ∀g,((a.one k a.sA a.sc p b).sh j).F ((a.one k a.sA a.sc p b).iz j) g->¬((T a.sA k a.sc).ownBlock=G g\/g=sb):=λg hg=>kZ (2*j+7) (by omega) (by omega) g (by rw[hP];exact hg);by_cases e:j=k
  ·subst e;show dH w' (bK a.iz j p j) C.key 0 iS (bK a.sh j b j);have hf: ∀g,(bK a.sh j b j).F (bK a.iz j p j) g->¬((T a.sA j a.sc).ownBlock=G g\/g=sb):=hf;rw[bI,bI]at hf⊢;exact hp.ch hC hf
  ·show dH w' (bK a.iz k p j) C.key 0 iS (bK a.sh k b j);have hf: ∀g,(bK a.sh k b j).F (bK a.iz k p j) g->¬((T a.sA k a.sc).ownBlock=G g\/g=sb):=hf;rw[bC _ _ e,bC _ _ e]at hf⊢;exact((h.sh j (by omega)).aR hN).ch hC hf
 ·rcases s2.new g ⟨i,hg⟩with e|e
  ·rcases s1.new g e with⟨j,e⟩|e
   ·exact h.hi j g e
   ·omega
  ·have:=hN.size;omega
 ·refine(h.new.t hN).trans hC (λg e=>.inr ?_);rcases e with e|e
  ·exact h.hi 2 g e
  ·subst e;exact h.hi 0 g rfl
theorem qy{w:aw}(h:gK.Env w):4<=w.heap.size:=by
 have g3:av.globalNamed "internal/strconv.uint64pow10"=G 3:=by kernel_rfl
 have:=rZ g3 h.tN;omega
theorem yn{w:aw}{n:Nat}{l:List ByteArray}(h:Strs w A n l)(sQ:wP l)(hA:A=U->c=0/\n=0)(hw:Mj C)(sP:l.length+1=C.ns)(F9:Iz l C.key=C.h)(Zg:gK.Env w):
 ax av 7 #[T A n c,I J C.tries] w λe w'=>∃sb a,e=ay (aB #[X (G ⟨sb,0,U⟩),I J 0])/\gS w' sb C 0 dV a/\(∀g,a.F C sb dV g->w.heap.size<=g)/\M w w':=by
 have HR:=O (BH h sQ c hA);have HE:=O Zg;have HW:=O hw;have SI:=O @Ro;have QP:=O @Rq;have HSH:=O (λw=>Bh w hw.key.2);obtain⟨i1,dX,er,eu,eK⟩:=info_parts EU;have d1:decide (C.tries<1)=false:=decide_eq_false (by have:=hw.tries;omega);have d2:decide (1048576<C.tries)=false:=decide_eq_false (by have:=hw.tries;omega);obtain⟨N,hN⟩:=bG (C.ns);have OG:=hw.ns;rw[hN]at OG;have HN:=O hN;have Ag:=O F9;have HNL:=O sP;clear h hA hw sP F9 Zg hN;go_enter func7,ntmps7;go_wp2_with fail;refine HR.o.mono ?_;rintro e w1 ⟨rb,rA,rc,rfl,hR,Zh,Aw⟩;dsimp only;have gN:=O hR;have Zi:=O Zh;have cH:=O Aw;clear hR Zh Aw;go_wp2_with fail;refine(SI.o _).mono ?_;rintro e w2 ⟨rfl,hQ,iD⟩;dsimp only;have eC:=O hQ;have bJ:=O iD;clear hQ iD;go_wp2_with fail;refine(QP.o _).mono ?_;rintro e w3 ⟨rfl,hQ,gZ⟩;dsimp only;have yY:=O hQ;have cE:=O gZ;clear hQ gZ;go_upto_region 7 with(fail);obtain⟨w4,lH⟩:=bG (w3.alloc (az #[X (G ⟨rb,0,U⟩),I J C.tries,T U 0 0,T U 0 0,X (G ⟨w1.heap.size,0,U⟩),X (G ⟨w2.heap.size,0,U⟩),T U 0 0] 72));have dQ:=kb lH;have iq:=O (show aX w4 w3.heap.size 72 #[X (G ⟨rb,0,U⟩),I J C.tries,T U 0 0,T U 0 0,X (G ⟨w1.heap.size,0,U⟩),X (G ⟨w2.heap.size,0,U⟩),T U 0 0]from lH▸aX.new w3 72 _);rw[lH];obtain⟨sb,OS⟩:=bG (w3.heap.size);have NB:=O (show N7 w w4 sb C 0 ⟨rb,rA,rc,l,U,0,λ_=>0,λ_=>o6 0,U,0,λ_=>0,λ_=>⟨U,0,U,0,U,0,U,0⟩,λ_=>T U 0 0,w1.heap.size,U,0,w2.heap.size,U,0,U,0⟩from by
  have s1:=cH.o.size;have s2:=bJ.o.size;have s3:=cE.o.size;have s4:=dQ.o.size;have q1:=eC.o.fC;have q2:=yY.o.fC;have q3:=gN.o.fC;have hb:=iq.o;rw[OS]at hb;have hP: ∀i g,gE.P (N6 C 0) ⟨rb,rA,rc,l,U,0,λ_=>0,λ_=>o6 0,U,0,λ_=>0,λ_=>⟨U,0,U,0,U,0,U,0⟩,λ_=>T U 0 0,w1.heap.size,U,0,w2.heap.size,U,0,U,0⟩ sb dV i g->
   (i=0/\g=sb)\/(i=1/\oz rb rA l.length rc g)\/(i=4/\g=w1.heap.size)\/(i=5/\g=w2.heap.size):=λi g hg=>by
   match i,hg with
   |0,hg=>exact .inl ⟨rfl,hg⟩
   |1,hg=>exact .inr (.inl ⟨rfl,hg⟩)
   |2,hg|3,hg=>cases hg
   |4,hg=>
    rcases hg with e|e
    ·exact .inr (.inr (.inl ⟨rfl,e⟩))
    ·cases e
   |5,hg=>
    rcases hg with e|e
    ·exact .inr (.inr (.inr ⟨rfl,e⟩))
    ·cases e
   |6,hg=>cases hg
   |n+7,hg=>
    have hg:if n%2=0 then n / 2<0/\_ else∃d,([]:List eF)[n / 2]?=G d/\_:=hg;split at hg
    ·have:=hg.1;omega
    ·obtain⟨d,hd,_⟩:=hg;simp at hd
  have hb1:=eC.o.aW.lt;have JG:=yY.o.aW.lt;have CV:=hb.lt;refine⟨hb,gN.o.aR ((bJ.o.t cE.o).t dQ.o),World.ownsRow_nil _ _ _ _,eC.o.aR (cE.o.t dQ.o),yY.o.aR dQ.o,λj hj=>by omega,⟨λi j tG g hi hj=>?_,λi g hg=>?_⟩,λi g hg=>?_,((cH.o.t bJ.o).t cE.o).t dQ.o,rfl,rfl,rfl,rfl,λ_=>⟨_,_,_,rfl⟩⟩
  ·have h1:=hP i g hi;have h2:=hP j g hj;have k1:=q3 g;rcases h1 with⟨a,b⟩|⟨a,b⟩|⟨a,b⟩|⟨a,b⟩<;>rcases h2 with⟨a',b'⟩|⟨a',b'⟩|⟨a',b'⟩|⟨a',b'⟩<;>first|omega|(have:=k1 b;omega)|(have:=k1 b';omega)
  ·have k1:=q3 g;rcases hP i g hg with⟨a,b⟩|⟨a,b⟩|⟨a,b⟩|⟨a,b⟩<;>first|omega|(have:=k1 b;omega)
  ·have k1:=Zi.o g;rcases hP i g hg with⟨a,b⟩|⟨a,b⟩|⟨a,b⟩|⟨a,b⟩<;>first|omega|exact k1 b)
 have Zj:=O (pe (gN.o.aR ((bJ.o.t cE.o).t dQ.o)));rw[HNL.o,HN.o]at Zj;simp only[OS];clear lH OS iq;go_wp2_with fail;refine Zj.o.mono ?_;rintro e w5 ⟨rfl,qC⟩;subst w5;dsimp only;have hNI:(N:Int)<=8:=by omega
 go_wp2_with fail
 go_loopw[33] (λiv wr=>∃k a,k<=N/\iv=I J (k:Nat)/\N7 w wr sb C k a/\a.M6=l) (λiv _=>N- (intOf iv).toNat)
 case atStart=>exact⟨0,_,by omega,rfl,NB.o,rfl⟩
 case round=>
  obtain⟨k,a,hk,rfl,hG,hl⟩:=hrel;have HG:=O hG;have HL:=O hl;clear hG hl;by_cases hlt:k<N
  ·have jq:(k:Int)<(N:Int):=by omega
   have dB:=O (show M wr wr.drew from aU wr);have x2:=HG.o.aW.c 2;have xl:=HG.o.aW.lt;have mi:=O (λ(ar:aw) (hC:M wr ar)=>bg HG.o.Ah hC (λ_ _ h=>h));have sK:=O (λ(ar w8:aw) (hC:M wr ar) (hg:ar.grownBy w8 (T a.sA k a.sc).ownBlock)=>show aX w8 sb 72 (JS (N6 C k) a dV)from
    (HG.o.aW.ch hC (λh=>h)).grown hg (λe=>aV HG.o.Ah HG.o.aW (by decide) e.symm))
   have sr:k+1<=maxLen:=by unfold maxLen;omega
   have jE:(k+1)*8<=140737488355328:=by omega
   go_wp2_with fail
   go_region_law(first
    |(refine bL _ rfl (.tmp 39) (.tmp 41) 69 rfl 0 73 i1 _ 1 8 underlying69 dX er eu eK rfl (by decide) (T a.sA k a.sc) k (mX a.iz k) (by simp[Act.eval]) (mi.o _ (ff.o.alloc _)) (w5.heap.size+1) (G ⟨w5.heap.size,0,U⟩) 1 1 [X (G ⟨p,0,U⟩)] (by simp[Act.eval]) (cD w5 73 #[X (G ⟨p,0,U⟩)] 1 1 rfl) (by simp[Value.oneCell']) sr jE (by omega) ?_
      intro v9 w9 cC gV fl;obtain⟨A9,c9,rfl⟩:=bz cC;have mS:=O cC;have rF:=O fl;have gj:=O (sK.o _ w9 (ff.o.alloc _) gV);have nY:=O (Ch.bF gV);clear cC gV fl;have u3:=gj.o.c 2;have ul:=gj.o.lt;have uf:=gj.o.frozen)
    |(go_simp;go_at_call 25;(refine(HSH.o _).mono ?_);rintro e w5 ⟨p,b5,rfl,hM,hF,hN⟩;have ff:=O (show M wr w5 from dB.o.t hN);have nG:=O hM;have TJ:=O hF;clear hM hF hN;dsimp only;have H5:=O (HG.o.aW.ch ff.o (λh=>h));have x3:=H5.o.c 2;have xl:=H5.o.lt))
   all_goals
    have kD:=O (show∀g,(T A9 (k+1) c9).ownBlock=G g->(T a.sA k a.sc).ownBlock=G g\/w5.heap.size<=g from λg hg=>by
     rcases rF.o with e|e
     ·exact .inl (e▸hg)
     ·right
      rw[e]at hg;injection hg with hg;have hg:w5.heap.size+1=g:=by first|exact hg|simpa using hg
      omega)
    have HX:=O (HG.o.next ff.o nG.o TJ.o mS.o (((Ch.r _ w5).alloc _).t nY.o) kD.o ((Ch.r (λk=>k=sb) w9).at_ 2 (T A9 (k+1) c9)) (bu (gj.o.bm 2 (T A9 (k+1) c9)) (by simp[gE.one])));clear x2 xl u3 ul uf mS rF;go_wp2_with fail;exact⟨⟨k+1,_,by omega,by go_num,HX.o,HL.o⟩,by simp[intOf];omega⟩
  ·obtain rfl:N=k:=by omega
   clear hlt hk;go_wp2_with fail;go_ret2;refine⟨sb,a,rfl,?_,λg hg=>?_,HG.o.new⟩
   ·have hN:=HN.o;subst hN;have h:=HG.o;obtain⟨c1,c2,c3,c4,De⟩:=h.no;refine⟨⟨h.aW,⟨h.ig,HL.o▸HNL.o,HL.o▸Ag.o,HW.o⟩,h.Ah,?_,De,h.rq,h.an,?_,h.sh,λi d hd=>by simp[dV]at hd,h.iu⟩,HE.o.aR h.new,λg ⟨i,hg⟩=>?_⟩
    ·rw[c1,c2];exact World.ownsRow_nil _ _ _ _
    ·rw[c3,c4];exact World.ownsRow_nil _ _ _ _
    ·have:=h.hi i g hg;have:=qy HE.o;omega
   ·obtain⟨i,hg⟩:=hg;have hN:=HN.o;subst hN;exact HG.o.hi i g hg
end
def iR(w:aw)(sb:Nat)(C:Cf)(aZ:Nat)(s:dM)(a:gE)(B:Int)(e:Ending)(w':aw):Prop:=
 (∃E,e=ay (I J E))/\∃s',cO C s' (B+1)/\s'.dr.length=s.dr.length/\sU w sb C (aZ+2000) s a s' w'
section
variable{w w':aw}{sb aZ cY:Nat}{C:Cf}{s s':dM}{a:gE}{B B' i:Int}{E:Int}
theorem iR.of(hA:cO C s' B')(hB:B'<=B+1)(hl:s'.dr.length=s.dr.length)(hP:sU w sb C cY s a s' w')(cp:cY<=aZ+2000):iR w sb C aZ s a B (ay (I J E)) w':=by
 obtain⟨a',h1,h2,h3⟩:=hP;exact⟨⟨E,rfl⟩,s',vp hA hB,hl,a',h1.mono cp,h2,h3⟩
theorem iR.bj(h:gS w sb C aZ s a)(hA:cO C s B)(hN:M w w'):iR w sb C aZ s a B (ay (I J E)) w':=
 iR.of hA (by omega) rfl ⟨a,h.aR hN,Sub.bj _ hN,rfl,rfl,rfl⟩ (by omega)
theorem ni(i:Int)(n:Nat):(i<0\/n<=i)\/∃k:Nat,i=k/\k<n:=by
 by_cases h:i<0\/n<=i
 ·exact .inl h
 ·exact .inr ⟨i.toNat,by omega,by omega⟩
theorem zV(hA:cO C s B){i:Nat}{d:eF}(hd:s.dr[i]?=G d):d.ph=8\/∃k c,df C i d=G (k,c):=by
 have h:=hA.w.dr i d hd;have h0:=h.ph;have:d.ph=0\/d.ph=1\/d.ph=2\/d.ph=3\/d.ph=4\/d.ph=5\/d.ph=6\/d.ph=7\/d.ph=8:=by omega
 rcases this with e|e|e|e|e|e|e|e|e
 all_goals first|exact .inl e|(right;simp[df,e];done)|skip
 right
 have hl:=h.l7 e;simp[df,e,hl]
theorem Cx(s:dM)(i:Nat):(gC C s i).dr.length=s.dr.length:=by
 unfold gC;split
 ·rfl
 ·split
  ·rfl
  ·simp
theorem VQ(h:gS w sb C aZ s a)(hA:cO C s B)(hB:B<1099511627776)(cp:aZ<900000)(i:Int):ax av 36 #[X (G ⟨sb,0,U⟩),I J i] w (iR w sb C aZ s a B):=by
 rcases ni i s.dr.length with hi|⟨i,rfl,hi⟩
 ·exact(IY h hi hA.w.fx).mono λe w' ⟨h1,h2⟩=>h1▸iR.bj h hA h2
 ·obtain⟨d,hd⟩:=bh hi;rcases zV hA hd with h8|⟨k,c,hn⟩
  ·exact(vF h hd h8 hA.w.fx).mono λe w' ⟨h1,h2⟩=>h1▸iR.bj h hA h2
  ·have ho:=jd hA.i;have hf:=hA.w.fx;exact(vz h hA (by omega) (by omega) hd hn).mono λe w' ⟨h1,h2⟩=>h1▸iR.of (qv hA h.m.ig.w hB i) (by omega) (Cx s i) h2 (by omega)
theorem Zk(h:gS w sb C aZ s a)(hA:cO C s B)(i:Int):ax av 27 #[X (G ⟨sb,0,U⟩),I J i] w (iR w sb C aZ s a B):=by
 rcases ni i s.dr.length with hi|⟨i,rfl,hi⟩
 ·exact(Nq h hi hA.w.fx).mono λe w' ⟨h1,h2⟩=>h1▸iR.bj h hA h2
 ·obtain⟨d,hd⟩:=bh hi;rcases zV hA hd with h8|⟨k,c,hn⟩
  ·exact(IZ h hd h8 hA.w.fx).mono λe w' ⟨h1,h2⟩=>h1▸iR.bj h hA h2
  ·by_cases hq:s.req.length<512
   ·exact(I0 h hd hn hA.w.fx hq).mono λe w' ⟨h1,h2⟩=>h1▸iR.of (Rn hA h.m.ig.w hd hn) (by omega) rfl h2 (by omega)
   ·exact(I1 h hd hn hA.w.fx (by omega)).mono λe w' ⟨h1,h2⟩=>h1▸iR.bj h hA h2
theorem N8(h:gS w sb C aZ s a)(hA:cO C s B)(hB:B<1099511627776)(cp:aZ<900000)(i:Int):ax av 28 #[X (G ⟨sb,0,U⟩),I J i] w (iR w sb C aZ s a B):=by
 rcases ni i s.req.length with hi|⟨p,rfl,hi⟩
 ·exact(I2 h hi).mono λe w' ⟨h1,h2⟩=>h1▸iR.bj h hA h2
 ·obtain⟨⟨i,k,c⟩,hx⟩:=bh hi;have ho:=jd hA.i;have hf:=hA.w.fx;refine(ED h hA (by omega) (by omega) hx).mono λe w' ⟨E,h1,h2⟩=>h1▸?_;rcases h2 with h2|h2
  ·exact iR.of (vu hA hB hx false) (by omega) rfl h2 (by omega)
  ·exact iR.of (vu hA hB hx true) (by omega) rfl h2 (by omega)
theorem R6(h:gS w sb C aZ s a)(hA:cO C s B)(i:Int):ax av 29 #[X (G ⟨sb,0,U⟩),I J i] w (iR w sb C aZ s a B):=by
 rcases ni i s.ans.length with hi|⟨p,rfl,hi⟩
 ·exact(Nr h hi).mono λe w' ⟨h1,h2⟩=>h1▸iR.bj h hA h2
 ·obtain⟨⟨i,c,r⟩,hx⟩:=bh hi;obtain⟨d,hd⟩:=bh (hA.i.an _ (List.mem_of_getElem? hx)).1;exact(I4 h hA hx hd).mono λe w' ⟨h1,h2⟩=>h1▸iR.of (IJ hA hx hd) (by omega) (by simp) h2 (by omega)
theorem VR(h:gS w sb C aZ s a)(hA:cO C s B)(hB:B<1099511627776)(cp:aZ<900000)(i:Int):ax av 33 #[X (G ⟨sb,0,U⟩),I J i] w (iR w sb C aZ s a B):=by
 rcases ni i C.ns with hi|⟨k,rfl,hk⟩
 ·exact(RK h hi).mono λe w' ⟨h1,h2⟩=>h1▸iR.bj h hA h2
 ·exact(Cm h (hA.w.sh k) hk (by omega)).mono λe w' ⟨h1,h2⟩=>h1▸iR.of (BP hA hB k) (by omega) rfl h2 (by omega)
theorem R7(h:gS w sb C aZ s a){i:Int}(hi:i<0\/1099511627776<i):ax av 35 #[X (G ⟨sb,0,U⟩),I J i] w λe w'=>e=ay (I J 5)/\w'=w:=by
 by_cases h0:i<0
 ·have d0:decide (i<0)=true:=decide_eq_true h0;clear h hi;go_enter func35,ntmps35;go_wp2_with fail;go_ret;exact⟨rfl,rfl⟩
 ·have d0:decide (i<0)=false:=decide_eq_false h0;have d1:decide (1099511627776<i)=true:=decide_eq_true (by omega);clear h hi;go_enter func35,ntmps35;go_wp2_with fail;go_ret;exact⟨rfl,rfl⟩
theorem Cy(k:Nat)(wait:Int)(ls:List (Int×Int)): ∀s:dM,(ls.foldl (cW C k wait) s).dr=s.dr:=by
 induction ls with
 |nil=>exact λ_=>rfl
 |cons x r ih=>
  intro s;rw[List.foldl_cons,ih];unfold cW dE;dsimp only
  (repeat' split)<;>rfl
theorem VS(h:gS w sb C aZ s a)(hA:cO C s B)(hB:B<1099511627776)(cp:aZ<900000)(i:Int):ax av 35 #[X (G ⟨sb,0,U⟩),I J i] w (iR w sb C aZ s a B):=by
 by_cases hi:i<0\/1099511627776<i
 ·exact(R7 h hi).mono λe w' ⟨h1,h2⟩=>h1▸iR.bj h hA (h2▸Ch.r _ _)
 ·exact(Cr h hA hB (by omega) (by omega)).mono λe w' ⟨h1,ls,_,h2⟩=>h1▸iR.of (xU hB i ls s hA) (by omega) (by rw[Cy]) h2 (by omega)
theorem Zl(h:gS w sb C aZ s a)(hA:cO C s B){l:List (Nat×Nat×bQ)}{A:Option Addr}{c:Nat}(hx:dF w' a.qb A l.length c l)(hs:Sub (eO a.qb a.qA s.req.length a.qc) (eO a.qb A l.length c) w w')(hl: ∀q∈l,q∈s.req):iR w sb C aZ s a B (ay (I J E)) w':=
 iR.of (Gd hA hl) (by omega) rfl (let u:=h.m.Eo hx hs;⟨_,h.next u.1 u.2,u.2,rfl,rfl,rfl⟩) (by omega)
theorem qg5(h:gS w sb C aZ s a)(hA:cO C s B){l:List (Nat×bQ×dh)}{A:Option Addr}{c:Nat}(hx:eA w' a.ab A l.length c l)(hs:Sub (eO a.ab a.aA s.ans.length a.ac) (eO a.ab A l.length c) w w')(hl: ∀q∈l,q∈s.ans):iR w sb C aZ s a B (ay (I J E)) w':=
 iR.of (Ge hA hl) (by omega) rfl (let u:=h.m.Ep hx hs;⟨_,h.next u.1 u.2,u.2,rfl,rfl,rfl⟩) (by omega)
theorem Zm(h:gS w sb C aZ s a)(hA:cO C s B)(i:Int):ax av 32 #[X (G ⟨a.qb,0,U⟩),I J i] w (iR w sb C aZ s a B):=by
 rcases ni i s.req.length with hi|⟨p,rfl,hi⟩
 ·exact(Em h.m.rq hi).mono λe w' ⟨h1,h2⟩=>h1▸iR.bj h hA (h2▸Ch.r _ _)
 ·obtain⟨x,hx⟩:=bh hi;by_cases hq:s.req.length<512
  ·refine(Rt h.m.rq hq hx).mono λe w' ⟨h1,A',c',h2,h3⟩=>h1▸Zl h hA (l:=s.req++[x]) (by simpa using h2) (by simpa using h3) λq hq=>?_;rcases List.mem_append.1 hq with e|e
   ·exact e
   ·rw[List.mem_singleton]at e;exact e▸bS hx
  ·exact(zD h.m.rq (by omega) hx).mono λe w' ⟨h1,h2⟩=>h1▸iR.bj h hA h2
end
section
variable{w w1 w':aw}{sb aZ:Nat}{C:Cf}{s:dM}{a:gE}{B:Int}{e:Ending}
theorem iR.pre(hN:M w w1)(h:iR w1 sb C aZ s a B e w'):iR w sb C aZ s a B e w':=by
 obtain⟨h1,s',h2,h3,a',h4,h5,h6⟩:=h;exact⟨h1,s',h2,h3,a',h4,(Sub.bj _ hN).trans h5,h6⟩
abbrev ju(k c i sh wt:Int)(pl:Value):Array Value:=#[I J k,I J c,I J i,I J sh,I J wt,pl]
theorem iR.post{w4 w5:aw}{t:Nat}(h:iR w1 sb C aZ s a B e w4)(hN:M w w1)(ht:w.heap.size<=t)(ht2:t<w1.heap.size\/w4.heap.size<=t)(hF:oo (a.F C sb s) w)(h4:4<=t)(hC:Ch (λg=>g=t) w4 w5):iR w sb C aZ s a B e w5:=by
 obtain⟨h1,s',h2,h3,a',g4,g5,g6⟩:=h;have mr: ∀g,a'.F C sb s' g->¬g=t:=λg hg e=>by
  subst e;rcases g5.new g hg with e|e
  ·have:=hF g e;omega
  ·rcases ht2 with e2|e2
   ·omega
   ·have:=g4.m.fC g hg;omega
 have hS:=(Sub.bj (a.F C sb s) hN).trans g5;exact⟨h1,s',h2,h3,a',⟨g4.m.ch hC mr,zL g4.env hC (λg e=>by omega),g4.cv⟩,⟨hS.ch.trans hC (λg e=>.inr (by omega)),hS.new⟩,g6⟩
theorem R8(h:gS w sb C aZ s a)(hA:cO C s B)(i:Int):ax av 30 #[X (G ⟨a.qb,0,U⟩),I J i] w λe w'=>∃(a0:Int) (a1:Int) (a2:Int) (a3:Int) (a4:Int) (a5:Int) (a6:Int) (ks:ByteArray) (vs:ByteArray) (m:Int) (y:Bool) (E:Int),e=ay (aB #[aC #[I J a0,I J a1,I J a2,I J a3,I J a4,I J a5,I J a6,V ks,V vs,I J m,Y y],I J E])/\iR w sb C aZ s a B (ay (I J E)) w'/\Ch (λg=>a.F C sb s g/\g≠sb) w w':=by
 rcases ni i s.req.length with hi|⟨p,rfl,hi⟩
 ·exact(sR h.m.rq hi).mono λe w' ⟨h1,h2⟩=>⟨_,_,_,_,_,_,_,_,_,_,_,_,h1,iR.bj h hA h2,h2.mono (λ_ e=>e.elim)⟩
 ·obtain⟨x,hx⟩:=bh hi;have hl:(s.req.eraseIdx p).length=s.req.length-1:=by rw[List.length_eraseIdx,if_pos (bf hx)]
  refine(BZ h.m.rq hx).mono λe w' ⟨h1,h2,h3⟩=>?_;have hC:Ch (λg=>a.F C sb s g/\g≠sb) w w':=h3.ch.mono λg hg=>⟨⟨4,hg⟩,λe=>h.m.iu.dj 4 0 (by omega) g hg e⟩;obtain⟨x1,x2,x3⟩:=x;exact⟨_,_,_,_,_,_,_,_,_,_,_,_,h1,Zl h hA (l:=s.req.eraseIdx p) (by rw[hl];exact h2) (by rw[hl];exact h3) (λ_=>tW),hC⟩
theorem R9(h:gS w sb C aZ s a)(hA:cO C s B)(i:Int):ax av 31 #[X (G ⟨a.ab,0,U⟩),I J i] w λe w'=>∃(a0:Int) (a1:Int) (a2:Int) (a3:Int) (a4:Int) (a5:Int) (ks:ByteArray) (vs:ByteArray) (m:Int) (y:Bool) (c0:Int) (c1:Int) (us:ByteArray) (z:Bool) (E:Int),e=ay (aB #[aC #[I J a0,I J a1,I J a2,I J a3,I J a4,I J a5,V ks,V vs,I J m,Y y,I J c0,I J c1,V us,Y z],I J E])/\iR w sb C aZ s a B (ay (I J E)) w'/\Ch (λg=>a.F C sb s g/\g≠sb) w w':=by
 rcases ni i s.ans.length with hi|⟨p,rfl,hi⟩
 ·exact(sS h.m.an hi).mono λe w' ⟨h1,h2⟩=>⟨_,_,_,_,_,_,_,_,_,_,_,_,_,_,_,h1,iR.bj h hA h2,h2.mono (λ_ e=>e.elim)⟩
 ·obtain⟨x,hx⟩:=bh hi;have hl:(s.ans.eraseIdx p).length=s.ans.length-1:=by rw[List.length_eraseIdx,if_pos (bf hx)]
  refine(B0 h.m.an hx).mono λe w' ⟨h1,h2,h3⟩=>?_;have hC:Ch (λg=>a.F C sb s g/\g≠sb) w w':=h3.ch.mono λg hg=>⟨⟨5,hg⟩,λe=>h.m.iu.dj 5 0 (by omega) g hg e⟩;obtain⟨x1,x2,x3⟩:=x;exact⟨_,_,_,_,_,_,_,_,_,_,_,_,_,_,_,h1,qg5 h hA (l:=s.ans.eraseIdx p) (by rw[hl];exact h2) (by rw[hl];exact h3) (λ_=>tW),hC⟩
theorem Zn(h:gS w sb C aZ s a)(hA:cO C s B)(hB:B<1099511627776)(cp:aZ<900000)(hT:Waits.C4 w)(k c i sh wt:Int)(hk:k≠1)(PA:Option Addr)(pn pc:Nat):
 ax av 8 #[X (G ⟨sb,0,U⟩),aC (ju k c i sh wt (T PA pn pc))] w (iR w sb C aZ s a B):=by
 obtain⟨w1,bT⟩:=bG (w.alloc (az (ju k c i sh wt (T PA pn pc)) 36));have HN:=kb bT;have cw:=O (show aX w1 w.heap.size 36 (ju k c i sh wt (T PA pn pc))from bT▸aX.new w 36 _);have h1:=h.aR HN.o;have HT:=O (hT.aR HN.o);have y:=λj=>cw.o.c j;have⟨x0,x1,x2,x3,x4⟩:=(show _/\_/\_/\_/\_ from⟨y 0,y 1,y 2,y 3,y 4⟩);have xl:=cw.o.lt;have d1:(k==1)=false:=beq_eq_false_iff_ne.2 hk;clear y;by_cases e2:k=2
 ·subst e2;have H:=O (Zk h1 hA c);clear h h1 hT d1;go_enter func8,ntmps8;go_wp2_with fail;refine H.o.mono ?_;rintro e w2 hX;obtain⟨E,rfl⟩:=hX.1;dsimp only;have HX:=O (hX.pre HN.o);clear hX;go_wp2_with fail;go_ret;exact HX.o
 by_cases e3:k=3
 ·subst e3;have H:=O (N8 h1 hA hB cp i);clear h h1 hT d1;go_enter func8,ntmps8;go_wp2_with fail;refine H.o.mono ?_;rintro e w2 hX;obtain⟨E,rfl⟩:=hX.1;dsimp only;have HX:=O (hX.pre HN.o);clear hX;go_wp2_with fail;go_ret;exact HX.o
 by_cases e4:k=4
 ·subst e4;have H:=O (R6 h1 hA i);clear h h1 hT d1;go_enter func8,ntmps8;go_wp2_with fail;refine H.o.mono ?_;rintro e w2 hX;obtain⟨E,rfl⟩:=hX.1;dsimp only;have HX:=O (hX.pre HN.o);clear hX;go_wp2_with fail;go_ret;exact HX.o
 by_cases e5:k=5
 ·subst e5;have xs:=h1.m.aW.lt;have HS:=O (λw' (hC:Ch (λg=>g≠sb/\g≠w.heap.size) w1 w')=>(show w'.cell? ⟨sb,4,U⟩=G (X (G ⟨a.qb,0,U⟩))/\w'.cell? ⟨w.heap.size,2,U⟩=G (I J i)from⟨(h1.m.aW.ch hC (λe=>e.1 rfl)).c 4,(cw.o.ch hC (λe=>e.2 rfl)).c 2⟩));have vx:=O (λW (hN:M w1 W)=>R8 (h1.aR hN) hA i);have CX:=O h1.m.fC;have Sn:=O (show∀g,a.F C sb s g->g<w.heap.size from h.m.fC);have h4:4<=w1.heap.size:=h1.four;have dB:=O (show M w1 w1.drew from aU w1);have xC:=O (λo=>(show M w1 (w1.alloc o).drew from((Ch.r _ w1).alloc o).drew));have JP:=O (λo=>(show M w1 (w1.drew.alloc o)from((Ch.r _ w1).drew).alloc o));have wI:=O (show Ch (λg=>g≠sb/\g≠w.heap.size) w1 w1.drew from(Ch.r _ _).drew);have te:w1.heap.size≠sb/\w1.heap.size≠w.heap.size:=⟨by omega,by omega⟩;have⟨y5,y2⟩:=HS.o _ wI.o;clear h h1 hT d1;go_enter func8,ntmps8;go_upto_region 13 with(fail);obtain⟨qb,bE⟩:=bG (w.heap.size);rw[bE]at HS wI Sn te x0 x2 xl y2
  try simp only[bE]
  clear bE
  go_cut[6] (λv wr=>∃E,v=I J E/\iR w1 sb C aZ s a B (ay (I J E)) wr)
  case first=>
   go_region_held3(λw'=>w'.cell? ⟨sb,4,U⟩=G (X (G ⟨a.qb,0,U⟩))/\w'.cell? ⟨qb,2,U⟩=G (I J i))
    (first|with_reducible exact HS.o _ wI.o|with_reducible exact HS.o _ (wI.o.alloc _)|with_reducible exact HS.o _ ((Ch.r (λg=>g≠sb/\g≠qb) w1).alloc _).drew|with_reducible exact HS.o _ cK.o|with_reducible exact HS.o _ (cK.o.alloc _)|with_reducible exact HS.o _ YV.o)
    (first
      |(go_at_call 30;(refine(vx.o _ (by first|with_reducible exact dB.o|with_reducible exact xC.o _|with_reducible exact JP.o _)).mono ?_);rintro e w4 ⟨a0,a1,a2,a3,a4,a5,a6,ks,vs,m,y,E,rfl,hX,hC⟩
        have Pd:=O (show Ch (λg=>g=w1.heap.size) w4 (((((((((((w4.setCell ⟨w1.heap.size,0,U⟩ (I J a0)).setCell ⟨w1.heap.size,1,U⟩ (I J a1)).setCell ⟨w1.heap.size,2,U⟩ (I J a2)).setCell ⟨w1.heap.size,3,U⟩ (I J a3)).setCell ⟨w1.heap.size,4,U⟩ (I J a4)).setCell ⟨w1.heap.size,5,U⟩ (I J a5)).setCell ⟨w1.heap.size,6,U⟩ (I J a6)).setCell ⟨w1.heap.size,7,U⟩ (V ks)).setCell ⟨w1.heap.size,8,U⟩ (V vs)).setCell ⟨w1.heap.size,9,U⟩ (I J m)).setCell ⟨w1.heap.size,10,U⟩ (Y y))from((((((((((((Ch.r (λg=>g=w1.heap.size) w4).setCell (p:=⟨w1.heap.size,0,U⟩) (.inl rfl) _).setCell (p:=⟨w1.heap.size,1,U⟩) (.inl rfl) _).setCell (p:=⟨w1.heap.size,2,U⟩) (.inl rfl) _).setCell (p:=⟨w1.heap.size,3,U⟩) (.inl rfl) _).setCell (p:=⟨w1.heap.size,4,U⟩) (.inl rfl) _).setCell (p:=⟨w1.heap.size,5,U⟩) (.inl rfl) _).setCell (p:=⟨w1.heap.size,6,U⟩) (.inl rfl) _).setCell (p:=⟨w1.heap.size,7,U⟩) (.inl rfl) _).setCell (p:=⟨w1.heap.size,8,U⟩) (.inl rfl) _).setCell (p:=⟨w1.heap.size,9,U⟩) (.inl rfl) _).setCell (p:=⟨w1.heap.size,10,U⟩) (.inl rfl) _))
        (first
          |(have hq:iR w1.drew sb C aZ s a B (ay (I J E)) w4:=by with_reducible exact hX
            have S5:w1.heap.size<=w4.heap.size:=hC.size;have XU:=O (λo=>hq.post dB.o (t:=w4.heap.size) S5 (.inr (aN _)) CX.o (aO h4 S5) ((Ch.r _ w4).alloc o)))
          |(have hq:iR (w1.drew.alloc (az #[I J 0,I J 0,I J 0,I J 0,I J 0,I J 0,I J 0,V ⟨#[]⟩,V ⟨#[]⟩,I J 0,Y false] 62)) sb C aZ s a B (ay (I J E)) w4:=by with_reducible exact hX
            have xD:=O (hq.post (JP.o _) (t:=w1.heap.size) (aN _) (.inl (by simp)) CX.o h4 Pd.o))
          |(have hq:iR (w1.alloc (az #[I J 0,I J 0,I J 0,I J 0,I J 0,I J 0,I J 0,V ⟨#[]⟩,V ⟨#[]⟩,I J 0,Y false] 62)).drew sb C aZ s a B (ay (I J E)) w4:=by with_reducible exact hX
            have xD:=O (hq.post (xC.o _) (t:=w1.heap.size) (aN _) (.inl (by simp)) CX.o h4 Pd.o)))
        have cK:=O (show Ch (λg=>g≠sb/\g≠qb) w1 w4 from Ch.t (by first|exact wI.o|exact wI.o.alloc _|exact((Ch.r _ w1).alloc _).drew) (hC.mono λg hg=>⟨hg.2,by have:=Sn.o g hg.1;omega⟩))
        (try(have jr:=O ((aX.new w1.drew 62 #[I J 0,I J 0,I J 0,I J 0,I J 0,I J 0,I J 0,V ⟨#[]⟩,V ⟨#[]⟩,I J 0,Y false]).ch hC (λe=>by have:=CX.o _ e.1;simp at this))))
        (try(have jr:=O ((aX.new w1 62 #[I J 0,I J 0,I J 0,I J 0,I J 0,I J 0,I J 0,V ⟨#[]⟩,V ⟨#[]⟩,I J 0,Y false]).drew.ch hC (λe=>by have:=CX.o _ e.1;simp at this))))
        clear hX hC
        (try(have⟨t0,t1,t2,t3,t4,t5,t6,t7,t8,t9,t10⟩:=(show _/\_/\_/\_/\_/\_/\_/\_/\_/\_/\_ from⟨jr.o.c 0,jr.o.c 1,jr.o.c 2,jr.o.c 3,jr.o.c 4,jr.o.c 5,jr.o.c 6,jr.o.c 7,jr.o.c 8,jr.o.c 9,jr.o.c 10⟩)))
        (try(have tl:=jr.o.lt))
        (try(have tf:=jr.o.frozen))
        have YV:=O (show Ch (λg=>g≠sb/\g≠qb) w1 (((((((((((w4.setCell ⟨w1.heap.size,0,U⟩ (I J a0)).setCell ⟨w1.heap.size,1,U⟩ (I J a1)).setCell ⟨w1.heap.size,2,U⟩ (I J a2)).setCell ⟨w1.heap.size,3,U⟩ (I J a3)).setCell ⟨w1.heap.size,4,U⟩ (I J a4)).setCell ⟨w1.heap.size,5,U⟩ (I J a5)).setCell ⟨w1.heap.size,6,U⟩ (I J a6)).setCell ⟨w1.heap.size,7,U⟩ (V ks)).setCell ⟨w1.heap.size,8,U⟩ (V vs)).setCell ⟨w1.heap.size,9,U⟩ (I J m)).setCell ⟨w1.heap.size,10,U⟩ (Y y))from(((((((((((cK.o.setCell (p:=⟨_,0,U⟩) (.inl te) _).setCell (p:=⟨_,1,U⟩) (.inl te) _).setCell (p:=⟨_,2,U⟩) (.inl te) _).setCell (p:=⟨_,3,U⟩) (.inl te) _).setCell (p:=⟨_,4,U⟩) (.inl te) _).setCell (p:=⟨_,5,U⟩) (.inl te) _).setCell (p:=⟨_,6,U⟩) (.inl te) _).setCell (p:=⟨_,7,U⟩) (.inl te) _).setCell (p:=⟨_,8,U⟩) (.inl te) _).setCell (p:=⟨_,9,U⟩) (.inl te) _).setCell (p:=⟨_,10,U⟩) (.inl te) _));dsimp only))
   all_goals
    go_wp2_with fail;go_meet;refine⟨E,rfl,?_⟩
    first|with_reducible exact XU.o _|with_reducible exact xD.o
  case rest=>
   obtain⟨E,rfl,hX⟩:=hcut;have HX:=O (hX.pre HN.o);clear hX;go_wp2_with fail;go_ret;exact HX.o
 by_cases e6:k=6
 ·subst e6;have xs:=h1.m.aW.lt;have HS:=O (λw' (hC:Ch (λg=>g≠sb/\g≠w.heap.size) w1 w')=>(show w'.cell? ⟨sb,5,U⟩=G (X (G ⟨a.ab,0,U⟩))/\w'.cell? ⟨w.heap.size,2,U⟩=G (I J i)from⟨(h1.m.aW.ch hC (λe=>e.1 rfl)).c 5,(cw.o.ch hC (λe=>e.2 rfl)).c 2⟩));have vx:=O (λW (hN:M w1 W)=>R9 (h1.aR hN) hA i);have CX:=O h1.m.fC;have Sn:=O (show∀g,a.F C sb s g->g<w.heap.size from h.m.fC);have h4:4<=w1.heap.size:=h1.four;have dB:=O (show M w1 w1.drew from aU w1);have xC:=O (λo=>(show M w1 (w1.alloc o).drew from((Ch.r _ w1).alloc o).drew));have JP:=O (λo=>(show M w1 (w1.drew.alloc o)from((Ch.r _ w1).drew).alloc o));have wI:=O (show Ch (λg=>g≠sb/\g≠w.heap.size) w1 w1.drew from(Ch.r _ _).drew);have te:w1.heap.size≠sb/\w1.heap.size≠w.heap.size:=⟨by omega,by omega⟩;have⟨y5,y2⟩:=HS.o _ wI.o;clear h h1 hT d1;go_enter func8,ntmps8;go_upto_region 16 with(fail);obtain⟨qb,bE⟩:=bG (w.heap.size);rw[bE]at HS wI Sn te x0 x2 xl y2
  try simp only[bE]
  clear bE
  go_cut[8] (λv wr=>∃E,v=I J E/\iR w1 sb C aZ s a B (ay (I J E)) wr)
  case first=>
   go_region_held3(λw'=>w'.cell? ⟨sb,5,U⟩=G (X (G ⟨a.ab,0,U⟩))/\w'.cell? ⟨qb,2,U⟩=G (I J i))
    (first|with_reducible exact HS.o _ wI.o|with_reducible exact HS.o _ (wI.o.alloc _)|with_reducible exact HS.o _ ((Ch.r (λg=>g≠sb/\g≠qb) w1).alloc _).drew|with_reducible exact HS.o _ cK.o|with_reducible exact HS.o _ (cK.o.alloc _)|with_reducible exact HS.o _ YV.o)
    (first
      |(go_at_call 31;(refine(vx.o _ (by first|with_reducible exact dB.o|with_reducible exact xC.o _|with_reducible exact JP.o _)).mono ?_);rintro e w4 ⟨a0,a1,a2,a3,a4,a5,ks,vs,m,y,c0,c1,us,z,E,rfl,hX,hC⟩
        have Pd:=O (show Ch (λg=>g=w1.heap.size) w4 ((((((((((((((w4.setCell ⟨w1.heap.size,0,U⟩ (I J a0)).setCell ⟨w1.heap.size,1,U⟩ (I J a1)).setCell ⟨w1.heap.size,2,U⟩ (I J a2)).setCell ⟨w1.heap.size,3,U⟩ (I J a3)).setCell ⟨w1.heap.size,4,U⟩ (I J a4)).setCell ⟨w1.heap.size,5,U⟩ (I J a5)).setCell ⟨w1.heap.size,6,U⟩ (V ks)).setCell ⟨w1.heap.size,7,U⟩ (V vs)).setCell ⟨w1.heap.size,8,U⟩ (I J m)).setCell ⟨w1.heap.size,9,U⟩ (Y y)).setCell ⟨w1.heap.size,10,U⟩ (I J c0)).setCell ⟨w1.heap.size,11,U⟩ (I J c1)).setCell ⟨w1.heap.size,12,U⟩ (V us)).setCell ⟨w1.heap.size,13,U⟩ (Y z))from(((((((((((((((Ch.r (λg=>g=w1.heap.size) w4).setCell (p:=⟨w1.heap.size,0,U⟩) (.inl rfl) _).setCell (p:=⟨w1.heap.size,1,U⟩) (.inl rfl) _).setCell (p:=⟨w1.heap.size,2,U⟩) (.inl rfl) _).setCell (p:=⟨w1.heap.size,3,U⟩) (.inl rfl) _).setCell (p:=⟨w1.heap.size,4,U⟩) (.inl rfl) _).setCell (p:=⟨w1.heap.size,5,U⟩) (.inl rfl) _).setCell (p:=⟨w1.heap.size,6,U⟩) (.inl rfl) _).setCell (p:=⟨w1.heap.size,7,U⟩) (.inl rfl) _).setCell (p:=⟨w1.heap.size,8,U⟩) (.inl rfl) _).setCell (p:=⟨w1.heap.size,9,U⟩) (.inl rfl) _).setCell (p:=⟨w1.heap.size,10,U⟩) (.inl rfl) _).setCell (p:=⟨w1.heap.size,11,U⟩) (.inl rfl) _).setCell (p:=⟨w1.heap.size,12,U⟩) (.inl rfl) _).setCell (p:=⟨w1.heap.size,13,U⟩) (.inl rfl) _))
        (first
          |(have hq:iR w1.drew sb C aZ s a B (ay (I J E)) w4:=by with_reducible exact hX
            have S5:w1.heap.size<=w4.heap.size:=hC.size;have XU:=O (λo=>hq.post dB.o (t:=w4.heap.size) S5 (.inr (aN _)) CX.o (aO h4 S5) ((Ch.r _ w4).alloc o)))
          |(have hq:iR (w1.drew.alloc (az #[I J 0,I J 0,I J 0,I J 0,I J 0,I J 0,V ⟨#[]⟩,V ⟨#[]⟩,I J 0,Y false,I J 0,I J 0,V ⟨#[]⟩,Y false] 68)) sb C aZ s a B (ay (I J E)) w4:=by with_reducible exact hX
            have xD:=O (hq.post (JP.o _) (t:=w1.heap.size) (aN _) (.inl (by simp)) CX.o h4 Pd.o))
          |(have hq:iR (w1.alloc (az #[I J 0,I J 0,I J 0,I J 0,I J 0,I J 0,V ⟨#[]⟩,V ⟨#[]⟩,I J 0,Y false,I J 0,I J 0,V ⟨#[]⟩,Y false] 68)).drew sb C aZ s a B (ay (I J E)) w4:=by with_reducible exact hX
            have xD:=O (hq.post (xC.o _) (t:=w1.heap.size) (aN _) (.inl (by simp)) CX.o h4 Pd.o)))
        have cK:=O (show Ch (λg=>g≠sb/\g≠qb) w1 w4 from Ch.t (by first|exact wI.o|exact wI.o.alloc _|exact((Ch.r _ w1).alloc _).drew) (hC.mono λg hg=>⟨hg.2,by have:=Sn.o g hg.1;omega⟩))
        (try(have jr:=O ((aX.new w1.drew 68 #[I J 0,I J 0,I J 0,I J 0,I J 0,I J 0,V ⟨#[]⟩,V ⟨#[]⟩,I J 0,Y false,I J 0,I J 0,V ⟨#[]⟩,Y false]).ch hC (λe=>by have:=CX.o _ e.1;simp at this))))
        (try(have jr:=O ((aX.new w1 68 #[I J 0,I J 0,I J 0,I J 0,I J 0,I J 0,V ⟨#[]⟩,V ⟨#[]⟩,I J 0,Y false,I J 0,I J 0,V ⟨#[]⟩,Y false]).drew.ch hC (λe=>by have:=CX.o _ e.1;simp at this))))
        clear hX hC
        (try(have⟨t0,t1,t2,t3,t4,t5,t6,t7,t8,t9,t10,t11,t12,t13⟩:=(show _/\_/\_/\_/\_/\_/\_/\_/\_/\_/\_/\_/\_/\_ from⟨jr.o.c 0,jr.o.c 1,jr.o.c 2,jr.o.c 3,jr.o.c 4,jr.o.c 5,jr.o.c 6,jr.o.c 7,jr.o.c 8,jr.o.c 9,jr.o.c 10,jr.o.c 11,jr.o.c 12,jr.o.c 13⟩)))
        (try(have tl:=jr.o.lt))
        (try(have tf:=jr.o.frozen))
        have YV:=O (show Ch (λg=>g≠sb/\g≠qb) w1 ((((((((((((((w4.setCell ⟨w1.heap.size,0,U⟩ (I J a0)).setCell ⟨w1.heap.size,1,U⟩ (I J a1)).setCell ⟨w1.heap.size,2,U⟩ (I J a2)).setCell ⟨w1.heap.size,3,U⟩ (I J a3)).setCell ⟨w1.heap.size,4,U⟩ (I J a4)).setCell ⟨w1.heap.size,5,U⟩ (I J a5)).setCell ⟨w1.heap.size,6,U⟩ (V ks)).setCell ⟨w1.heap.size,7,U⟩ (V vs)).setCell ⟨w1.heap.size,8,U⟩ (I J m)).setCell ⟨w1.heap.size,9,U⟩ (Y y)).setCell ⟨w1.heap.size,10,U⟩ (I J c0)).setCell ⟨w1.heap.size,11,U⟩ (I J c1)).setCell ⟨w1.heap.size,12,U⟩ (V us)).setCell ⟨w1.heap.size,13,U⟩ (Y z))from((((((((((((((cK.o.setCell (p:=⟨_,0,U⟩) (.inl te) _).setCell (p:=⟨_,1,U⟩) (.inl te) _).setCell (p:=⟨_,2,U⟩) (.inl te) _).setCell (p:=⟨_,3,U⟩) (.inl te) _).setCell (p:=⟨_,4,U⟩) (.inl te) _).setCell (p:=⟨_,5,U⟩) (.inl te) _).setCell (p:=⟨_,6,U⟩) (.inl te) _).setCell (p:=⟨_,7,U⟩) (.inl te) _).setCell (p:=⟨_,8,U⟩) (.inl te) _).setCell (p:=⟨_,9,U⟩) (.inl te) _).setCell (p:=⟨_,10,U⟩) (.inl te) _).setCell (p:=⟨_,11,U⟩) (.inl te) _).setCell (p:=⟨_,12,U⟩) (.inl te) _).setCell (p:=⟨_,13,U⟩) (.inl te) _));dsimp only))
   all_goals
    go_wp2_with fail;go_meet;refine⟨E,rfl,?_⟩
    first|with_reducible exact XU.o _|with_reducible exact xD.o
  case rest=>
   obtain⟨E,rfl,hX⟩:=hcut;have HX:=O (hX.pre HN.o);clear hX;go_wp2_with fail;go_ret;exact HX.o
 by_cases e7:k=7
 ·subst e7;have H:=O (Zm (h1.aR (aU w1)) hA i);have x5:=h1.m.cells.2.2.2.2.1;have xs:=h1.m.aW.lt;clear h h1 hT d1;go_enter func8,ntmps8;go_wp2_with fail
  go_still_tail 6,(by kernel_rfl)
  change wpList _ _ _ _ _ w1.drew;go_wp2_with fail;refine H.o.mono ?_;rintro e w2 hX;obtain⟨E,rfl⟩:=hX.1;dsimp only;have HX:=O (hX.pre (HN.o.t (aU w1)));clear hX;go_wp2_with fail;go_ret;exact HX.o
 by_cases e8:k=8
 ·subst e8;have H:=O (VR h1 hA hB cp sh);clear h h1 hT d1;go_enter func8,ntmps8;go_wp2_with fail;refine H.o.mono ?_;rintro e w2 hX;obtain⟨E,rfl⟩:=hX.1;dsimp only;have HX:=O (hX.pre HN.o);clear hX;go_wp2_with fail;go_ret;exact HX.o
 by_cases e9:k=9
 ·subst e9;have H:=O (ET h1 hA HT.o hB (by omega));clear h h1 hT d1;go_enter func8,ntmps8;go_wp2_with fail;refine H.o.mono ?_;rintro e w2 ⟨rfl,s',ur,hd,hP⟩;dsimp only;have HX:=O (show iR w sb C aZ s a B (ay (I J 0)) w2 from(iR.of ur (by omega) (by rw[hd]) hP (by omega)).pre HN.o);clear ur hd hP;go_wp2_with fail;go_ret;exact HX.o
 by_cases e10:k=10
 ·subst e10;have H:=O (VS h1 hA hB cp wt);clear h h1 hT d1;go_enter func8,ntmps8;go_wp2_with fail;refine H.o.mono ?_;rintro e w2 hX;obtain⟨E,rfl⟩:=hX.1;dsimp only;have HX:=O (hX.pre HN.o);clear hX;go_wp2_with fail;go_ret;exact HX.o
 by_cases e11:k=11
 ·subst e11;have H:=O (VQ h1 hA hB cp c);clear h h1 hT d1;go_enter func8,ntmps8;go_wp2_with fail;refine H.o.mono ?_;rintro e w2 hX;obtain⟨E,rfl⟩:=hX.1;dsimp only;have HX:=O (hX.pre HN.o);clear hX;go_wp2_with fail;go_ret;exact HX.o
 have t2:(k==2)=false:=beq_eq_false_iff_ne.2 e2;have t3:(k==3)=false:=beq_eq_false_iff_ne.2 e3;have t4:(k==4)=false:=beq_eq_false_iff_ne.2 e4;have t5:(k==5)=false:=beq_eq_false_iff_ne.2 e5;have t6:(k==6)=false:=beq_eq_false_iff_ne.2 e6;have t7:(k==7)=false:=beq_eq_false_iff_ne.2 e7;have t8:(k==8)=false:=beq_eq_false_iff_ne.2 e8;have t9:(k==9)=false:=beq_eq_false_iff_ne.2 e9;have t10:(k==10)=false:=beq_eq_false_iff_ne.2 e10;have t11:(k==11)=false:=beq_eq_false_iff_ne.2 e11;have HX:=O (show iR w sb C aZ s a B (ay (I J 1)) w1 from iR.bj h hA HN.o);clear h h1 hT e2 e3 e4 e5 e6 e7 e8 e9 e10 e11 hk;go_enter func8,ntmps8;go_wp2_with fail;go_ret;exact HX.o
end
theorem qz{w:aw}{sb aZ pb:Nat}{C:Cf}{s:dM}{a:gE}(h:gS w sb C aZ s a)(hf:s.dr.length<9)(hP:oB w pb C):
 ax av 8 #[X (G ⟨sb,0,U⟩),aC (ju 1 0 0 0 0 (T (G ⟨pb,0,U⟩) 1 1))] w λe w'=>e=ay (I J 0)/\sU w sb C aZ s a {s with dr:=s.dr++[bW]} w':=by
 obtain⟨w1,bT⟩:=bG (w.alloc (az (ju 1 0 0 0 0 (T (G ⟨pb,0,U⟩) 1 1)) 36));have HN:=kb bT;have cw:=O (show aX w1 w.heap.size 36 (ju 1 0 0 0 0 (T (G ⟨pb,0,U⟩) 1 1))from bT▸aX.new w 36 _);have H:=O (EF (h.aR HN.o) hf (aX.ch hP HN.o (λh=>h)));have x0:=cw.o.c 0;have x5:=cw.o.c 5;have xl:=cw.o.lt;clear h hP hf;go_enter func8,ntmps8;go_wp2_with fail;refine H.o.mono ?_;rintro e w2 ⟨rfl,a',h1,h2,h3⟩;dsimp only;have H1:=O h1;have H2:=O ((Sub.bj (a.F C sb s) HN.o).trans h2);have H3:=O h3;clear h1 h2 h3;go_wp2_with fail;go_ret;exact⟨rfl,a',H1.o,H2.o,H3.o⟩
def Zo(P:Bool->Prop)(e:Ending):Prop:=∃b,e=ay (Y b)/\P b
structure WT where
 k:Int
 c:Int
 i:Int
 sh:Int
 wt:Int
 pA:Option Addr
 pn:Nat
 pc:Nat
 ops:List nu
def OY(x:WT):List Value:=[I J x.k,I J x.c,I J x.i,I J x.sh,I J x.wt,T x.pA x.pn x.pc]
structure ActsM(w:aw)(A:Option Addr)(n:Nat)(L:List WT):Prop where
 len:L.length=n
 rd:Rd w A (L.flatMap OY)
 ops: ∀x∈L,J2 w x.pA x.pn x.ops/\x.pn<=9223372036854775807
section
variable{w w':aw}{A:Option Addr}{n c:Nat}{L:List WT}{l:List nu}
theorem ActsM.aR(h:ActsM w A n L)(hC:M w w'):ActsM w' A n L:=⟨h.len,h.rd.aR hC,λx hx=>⟨(h.ops x hx).1.aR hC,(h.ops x hx).2⟩⟩
theorem ActsM.at_(h:ActsM w A n L){i:Nat}{x:WT}(hx:L[i]?=G x): ∃b off,A=G ⟨b,off,U⟩/\b<w.heap.size/\w.cell? ⟨b,off+i*6,U⟩=G (I J x.k)/\w.cell? ⟨b,off+i*6+1,U⟩=G (I J x.c)/\
 w.cell? ⟨b,off+i*6+2,U⟩=G (I J x.i)/\w.cell? ⟨b,off+i*6+3,U⟩=G (I J x.sh)/\w.cell? ⟨b,off+i*6+4,U⟩=G (I J x.wt)/\w.cell? ⟨b,off+i*6+5,U⟩=G (T x.pA x.pn x.pc):=by
 have g:=λj hj=>eI (f:=OY) (m:=6) (λ_ _=>rfl) hx (j:=j) hj;obtain⟨b,off,hA,hb,hc⟩:=h.rd (fh (g 0 (by omega)));exact⟨b,off,hA,hb,by simpa using hc _ _ (g 0 (by omega)),by simpa [Nat.add_assoc]using hc _ _ (g 1 (by omega)),by simpa [Nat.add_assoc]using hc _ _ (g 2 (by omega)),by simpa [Nat.add_assoc]using hc _ _ (g 3 (by omega)),by simpa [Nat.add_assoc]using hc _ _ (g 4 (by omega)),by simpa [Nat.add_assoc]using hc _ _ (g 5 (by omega))⟩
theorem Jn(h:J2 w A n l)(hn:n<=9223372036854775807):ax av 20 #[T A n c] w λe w'=>Zo (λ_=>True) e/\M w w':=by
 have H:=O h;have HL:=O h.1;have jW:(n:Int)<=9223372036854775807:=by omega
 clear h;go_enter func20,ntmps20;go_wp2_with fail
 go_loopw[7] (λiv wr=>∃k:Nat,k<=n/\iv=I J k/\M w wr) (λiv _=>n- (intOf iv).toNat)
 case atStart=>exact⟨0,by omega,rfl,Ch.r _ _⟩
 case round=>
  obtain⟨k,hk,rfl,hC⟩:=hrel;have HC:=O hC;clear hC;by_cases hlt:k<n
  ·obtain⟨⟨ok,key,val,on⟩,hx⟩:=bh (show k<l.length by rw[HL.o];exact hlt);obtain⟨b,off,rfl,x0,x1,x2,x3⟩:=(H.o.aR HC.o).at_ hx;dsimp only at x0 x1 x2 x3;have xl:b<wr.heap.size:=E7 x0;have jq:(k:Int)<(n:Int):=by omega
   clear hx;go_wp2_with fail
   all_goals first
    |(go_ret;exact⟨⟨_,rfl,trivial⟩,HC.o.alloc _⟩)
    |exact⟨⟨k+1,by omega,by go_num,HC.o.alloc _⟩,by simp[intOf];omega⟩
  ·obtain rfl:n=k:=by omega
   clear hlt hk;go_wp2_with fail;go_ret;exact⟨⟨_,rfl,trivial⟩,HC.o⟩
theorem N9(h:ActsM w A n L)(hn:n<=9223372036854775807):ax av 5 #[T A n c,I J 200] w λe w'=>Zo (λb=>b=true->n<=200) e/\M w w':=by
 have H:=O h;have HL:=O h.len;have jW:(n:Int)<=9223372036854775807:=by omega
 clear h;go_enter func5,ntmps5;go_wp2_with fail
 go_loopw[9] (λiv wr=>∃k:Nat,k<=n/\iv=I J k/\M w wr) (λiv _=>n- (intOf iv).toNat)
 case atStart=>exact⟨0,by omega,rfl,Ch.r _ _⟩
 case round=>
  obtain⟨k,hk,rfl,hC⟩:=hrel;have HC:=O hC;clear hC;by_cases hlt:k<n
  ·obtain⟨⟨ak,ac,ai,Zp,Zq,pA,pn,pc,ops⟩,hx⟩:=bh (show k<L.length by rw[HL.o];exact hlt);have ho:=H.o.ops _ (bS hx);obtain⟨b,off,rfl,hb,x0,x1,x2,x3,x4,x5⟩:=(H.o.aR HC.o).at_ hx;dsimp only at x0 x1 x2 x3 x4 x5 ho;have HP:=O (λw' (hN:M w w')=>Jn (c:=pc) (ho.1.aR hN) ho.2);have jq:(k:Int)<(n:Int):=by omega
   clear hx ho;go_wp2_with fail;refine(HP.o _ (HC.o.alloc _)).mono ?_;rintro e w2 ⟨⟨bb,rfl,_⟩,hN⟩;dsimp only;have bJ:=O ((HC.o.alloc _).t hN);clear hN x0 x1 x2 x3 x4 x5 hb;cases bb with
   |false=>
    go_wp2_with fail;go_ret;exact⟨⟨_,rfl,λe=>by cases e⟩,bJ.o⟩
   |true=>
    go_wp2_with fail;exact⟨⟨k+1,by omega,by go_num,bJ.o⟩,by simp[intOf];omega⟩
  ·obtain rfl:n=k:=by omega
   clear hlt hk;go_wp2_with fail;go_ret;exact⟨⟨_,rfl,λe=>by have:=of_decide_eq_true e;omega⟩,HC.o⟩
end
section
variable{w w0:aw}{sb aZ j:Nat}{C:Cf}{aq:aw->Prop}{a:gE}
def wU(aq:aw->Prop)(e:Ending)(w':aw):Prop:=(∃E,e=ay (I J E))/\aq w'
theorem VT(c i sh wt:Int)(hs: ∀w1,M w w1->ax av 36 #[X (G ⟨sb,0,U⟩),I J c] w1 (wU aq)):ax av 8 #[X (G ⟨sb,0,U⟩),aC (ju 11 c i sh wt (T U 0 0))] w (wU aq):=by
 have cw:=O (aX.new w 36 (ju 11 c i sh wt (T U 0 0)));have H:=O (hs _ ((Ch.r _ w).alloc (az (ju 11 c i sh wt (T U 0 0)) 36)));have⟨x0,x1⟩:=vS cw.o;have xl:=cw.o.lt;clear hs;go_enter func8,ntmps8;go_wp2_with fail;refine H.o.mono ?_;rintro e w2 ⟨⟨E,rfl⟩,hX⟩;dsimp only;have HX:=O hX;clear hX;go_wp2_with fail;go_ret;exact⟨⟨_,rfl⟩,HX.o⟩
theorem Zr(c i sh wt:Int)(hs: ∀w1,M w w1->ax av 33 #[X (G ⟨sb,0,U⟩),I J sh] w1 (wU aq)):ax av 8 #[X (G ⟨sb,0,U⟩),aC (ju 8 c i sh wt (T U 0 0))] w (wU aq):=by
 have cw:=O (aX.new w 36 (ju 8 c i sh wt (T U 0 0)));have H:=O (hs _ ((Ch.r _ w).alloc (az (ju 8 c i sh wt (T U 0 0)) 36)));have x0:=cw.o.c 0;have x3:=cw.o.c 3;have xl:=cw.o.lt;clear hs;go_enter func8,ntmps8;go_wp2_with fail;refine H.o.mono ?_;rintro e w2 ⟨⟨E,rfl⟩,hX⟩;dsimp only;have HX:=O hX;clear hX;go_wp2_with fail;go_ret;exact⟨⟨_,rfl⟩,HX.o⟩
theorem VU(c i sh wt:Int)(hs: ∀w1,M w w1->ax av 35 #[X (G ⟨sb,0,U⟩),I J wt] w1 (wU aq)):ax av 8 #[X (G ⟨sb,0,U⟩),aC (ju 10 c i sh wt (T U 0 0))] w (wU aq):=by
 have cw:=O (aX.new w 36 (ju 10 c i sh wt (T U 0 0)));have H:=O (hs _ ((Ch.r _ w).alloc (az (ju 10 c i sh wt (T U 0 0)) 36)));have x0:=cw.o.c 0;have x4:=cw.o.c 4;have xl:=cw.o.lt;clear hs;go_enter func8,ntmps8;go_wp2_with fail;refine H.o.mono ?_;rintro e w2 ⟨⟨E,rfl⟩,hX⟩;dsimp only;have HX:=O hX;clear hX;go_wp2_with fail;go_ret;exact⟨⟨_,rfl⟩,HX.o⟩
theorem Tu: ∀j,cO jU (fX j) 0
 |0=>vr Ga (Gc jU) (by decide)
 |j+1=>by rw[<-vm];exact qv (Tu j) Ga (by omega) 0
theorem Tv(j:Nat):(fX j).dr.length=1:=by
 induction j with
 |zero=>rfl
 |succ j ih=>rw[<-vm,Cx,ih]
theorem VW(h:gS w sb jU aZ (fX j) a)(cp:aZ<1000000):ax av 8 #[X (G ⟨sb,0,U⟩),aC (ju 11 0 0 0 0 (T U 0 0))] w (wU (sU w sb jU (aZ+2) (fX j) a (fX (j+1)))):=by
 refine VT 0 0 0 0 λw1 hN=>?_;have h1:=h.aR hN;have hA:=Tu j;obtain⟨d,hd⟩:=bh (L:=(fX j).dr) (i:=0) (by rw[Tv];omega);have pre: ∀w',sU w1 sb jU (aZ+2) (fX j) a (fX (j+1)) w'->sU w sb jU (aZ+2) (fX j) a (fX (j+1)) w':=λw' ⟨a',g1,g2,g3⟩=>⟨a',g1,(Sub.bj _ hN).trans g2,g3⟩;rcases zV hA hd with h8|⟨k,c,hn⟩
 ·refine(vF h1 hd h8 hA.w.fx).mono λe w' ⟨e1,e2⟩=>⟨⟨_,e1⟩,pre w' ?_⟩;have hs:=vm j;rw[xT hd (by simp[df,h8])]at hs;rw[<-hs];exact⟨a,⟨(h1.aR e2).m.mono (by omega),(h1.aR e2).env,h1.cv⟩,Sub.bj _ e2,rfl,rfl,rfl⟩
 ·have ho:=jd hA.i;rw[Tv]at ho;refine(vz h1 hA cp (by omega) hd hn).mono λe w' ⟨e1,e2⟩=>⟨⟨_,e1⟩,pre w' ?_⟩;rw[<-vm];exact e2
end
def zZ(w0 w:aw)(sb:Nat)(C:Cf)(nc k:Nat):Prop:=∃aZ s a B,gS w sb C aZ s a/\cO C s B/\s.dr.length=nc/\(∀g,a.F C sb s g->w0.heap.size<=g)/\M w0 w/\aZ<=2000*k/\B<=k
def OZ(w0 w:aw)(sb:Nat)(C:Cf)(nc j:Nat):Prop:=∃aZ s a B,gS w sb C aZ (gW s j) a/\cO C s B/\cO C (gW s j) (B+j)/\s.dr.length=nc/\(∀g,a.F C sb (gW s j) g->w0.heap.size<=g)/\M w0 w/\aZ<=600000+2*j/\B<=1000
def CnF(w0 w:aw)(sb:Nat)(C:Cf)(nc:Nat):Prop:=∃aZ s a,gS w sb C aZ s a/\iA C s/\(∀u,(s.sh C.h).br u=U)/\s.dr.length=nc/\M w0 w/\aZ<=700000
section
variable{w0 w w':aw}{sb pb nc k j:Nat}{C:Cf}{a:gE}
theorem zZ.aR(h:zZ w0 w sb C nc k)(hN:M w w'):zZ w0 w' sb C nc k:=by
 obtain⟨aZ,s,a,B,h1,h2,h3,h4,h5,h6⟩:=h;exact⟨aZ,s,a,B,h1.aR hN,h2,h3,h4,h5.t hN,h6⟩
theorem zZ.news(h:zZ w0 w sb C nc k):M w0 w:=by
 obtain⟨aZ,s,a,B,h1,h2,h3,h4,h5,h6⟩:=h;exact h5
theorem zZ.vQ(h:zZ w0 w sb C nc 0)(hn:nc<9)(hP:oB w pb C):
 ax av 8 #[X (G ⟨sb,0,U⟩),aC (ju 1 0 0 0 0 (T (G ⟨pb,0,U⟩) 1 1))] w λe w'=>e=ay (I J 0)/\zZ w0 w' sb C (nc+1) 0:=by
 obtain⟨aZ,s,a,B,h1,h2,rfl,h4,h5,h6⟩:=h;refine(qz h1 hn hP).mono λe w' ⟨e1,a',g1,g2,_⟩=>⟨e1,aZ,_,a',B,g1,vr h1.m.ig.w h2 hn,by simp,λg hg=>?_,h5.trans g2.ch (λg e=>.inr (h4 g e)),h6⟩;exact(g2.new g hg).elim (h4 g) (λe=>aO h5.size e)
theorem zZ.act(h:zZ w0 w sb C nc k)(hk:k<=200)(hT:Waits.C4 w)(x c i sh wt:Int)(hx:x≠1)(PA:Option Addr)(pn pc:Nat):
 ax av 8 #[X (G ⟨sb,0,U⟩),aC (ju x c i sh wt (T PA pn pc))] w λe w'=>(∃E,e=ay (I J E))/\zZ w0 w' sb C nc (k+1):=by
 obtain⟨aZ,s,a,B,h1,h2,rfl,h4,h5,h6,h7⟩:=h;refine(Zn h1 h2 (by omega) (by omega) hT x c i sh wt hx PA pn pc).mono λe w' ⟨e1,s',g1,g2,a',g3,g4,_⟩=>⟨e1,_,s',a',B+1,g3,g1,g2,λg hg=>?_,h5.trans g4.ch (λg e=>.inr (h4 g e)),by omega,by omega⟩;exact(g4.new g hg).elim (h4 g) (λe=>aO h5.size e)
theorem zZ.V0(h:zZ w0 w sb C nc k)(hk:k<=200):ax av 9 #[X (G ⟨sb,0,U⟩)] w λe w'=>e=ay (I J (C.ns:Nat))/\w'=w/\OZ w0 w sb C nc 0:=by
 obtain⟨aZ,s,a,B,h1,h2,rfl,h4,h5,h6,h7⟩:=h;exact(B6 h1.m).mono λe w' ⟨e1,e2⟩=>⟨e1,e2,aZ,s,a,B,h1,h2,vp h2 (by simp),rfl,h4,h5,by omega,by omega⟩
theorem OZ.tick(h:OZ w0 w sb C nc j)(hj:j<C.ns):ax av 8 #[X (G ⟨sb,0,U⟩),aC (ju 8 0 0 (j:Nat) 0 (T U 0 0))] w (wU λw'=>OZ w0 w' sb C nc (j+1)):=by
 obtain⟨aZ,s,a,B,h1,h2,h3,rfl,h4,h5,h6,h7⟩:=h;have sP:=h1.m.ig.w.ns;refine Zr 0 0 _ 0 λw1 hN=>?_;refine(Cm (h1.aR hN) (h3.w.sh j) hj (by omega)).mono λe w' ⟨e1,a',g1,g2,_⟩=>⟨⟨_,e1⟩,aZ+2,s,a',B,?_,h2,?_,rfl,λg hg=>?_,(h5.t hN).trans g2.ch (λg e=>.inr (h4 g e)),by omega,h7⟩
 ·rw[lV];exact g1
 ·rw[lV];have:=BP h3 (by omega) j;exact vp this (by omega)
 ·rw[lV]at hg;exact(g2.new g hg).elim (h4 g) (λe=>aO (aO h5.size hN.size) e)
theorem OZ.qg7(h:OZ w0 w sb C nc C.ns):ax av 8 #[X (G ⟨sb,0,U⟩),aC (ju 10 0 0 0 0 (T U 0 0))] w (wU λw'=>CnF w0 w' sb C nc):=by
 obtain⟨aZ,s,a,B,h1,h2,h3,rfl,h4,h5,h6,h7⟩:=h;have sP:=h1.m.ig.w.ns;refine VU 0 0 0 0 λw1 hN=>?_;refine(Cr (h1.aR hN) h3 (by omega) (by omega) (wait:=0) (by decide)).mono λe w' ⟨e1,ls,hl,a',g1,g2,_⟩=>?_;obtain⟨r1,r2⟩:=Mg h3.i (QI h2.i h2.h (by omega) (by omega)) hl;refine⟨⟨_,e1⟩,_,_,a',g1,r1,r2,?_,(h5.t hN).trans g2.ch (λg e=>.inr (h4 g e)),by omega⟩;rw[Cy,(rL h2.i C.ns).2.2.1]
def nj(s:dM)(k:Nat):Nat:=((List.range k).filter λi=>(s.dr[i]?).any λd=>decide (d.ph=8)&&decide (d.o=2)).length
theorem EZ{s:dM}{d:eF}(hd:s.dr[k]?=G d):nj s (k+1)=nj s k+if d.ph=8/\d.o=2 then 1 else 0:=by
 unfold nj;rw[List.range_succ,List.filter_append,aL];congr 1
 by_cases h:d.ph=8/\d.o=2
 ·simp[hd,h.1,h.2]
 ·rw[if_neg h];have:(decide (d.ph=8)&&decide (d.o=2))=false:=by
   rw[Bool.and_eq_false_iff];by_cases h8:d.ph=8
   ·exact .inr (decide_eq_false (λe=>h ⟨h8,e⟩))
   ·exact .inl (decide_eq_false h8)
  simp[hd,this]
structure JX(w0 w:aw)(sb:Nat)(C:Cf)(nc:Nat)(s:dM)(m:Nat)(v:ByteArray):Prop where
 st: ∃aZ a,gS w sb C aZ s a/\aZ<=700000
 ncl:s.dr.length=nc
 ml:s.order.length=m
 fx:m<=nc
 num:lN v=m
 vs:v.size<=1000
 val:(s.sh C.h).cur=rH C m
 v:eP (rH C m)=v
 has:fB (rH C m)=decide (0<m)
 told:nj s nc<=m
theorem CnF.ends(h:CnF w0 w sb C nc)(hC:C.n=1)(hn:nc<=9): ∃s m v,JX w0 w sb C nc s m v:=by
 obtain⟨aZ,s,a,h1,h2,h3,rfl,h5,h6⟩:=h;have ho:=jd h2;obtain⟨g1,g2⟩:=uY hC s.order.length (by omega);refine⟨s,_,_,⟨aZ,a,h1,h6⟩,rfl,rfl,ho,g1,?_,QF h2 h3,rfl,g2,QG h2⟩;cases hm:s.order.length with
 |zero=>exact Nat.zero_le _
 |succ m=>
  obtain⟨e1,_⟩:=uY hC m (by omega);show(qO (sumOf C.op (rH C m))).size<=1000;unfold sumOf;have: -1125899906842624<=dN (lN (eP (rH C m))+dN C.op.n)/\dN (lN (eP (rH C m))+dN C.op.n)<=1125899906842624:=by unfold dN;omega
  exact aO (qi (by omega) (by omega)) (by omega)
theorem JX.aR{s:dM}{m:Nat}{v:ByteArray}(h:JX w0 w sb C nc s m v)(hN:M w w'):JX w0 w' sb C nc s m v:=by
 obtain⟨⟨aZ,a,h1,h2⟩,h3⟩:=h;exact⟨⟨aZ,a,h1.aR hN,h2⟩,h3,by assumption,by assumption,by assumption,by assumption,by assumption,by assumption,by assumption,by assumption⟩
theorem JX.value{s:dM}{m:Nat}{v:ByteArray}(h:JX w0 w sb C nc s m v):ax av 10 #[X (G ⟨sb,0,U⟩),V C.key] w λe w'=>e=ay (aB #[V v,Y (decide (0<m))])/\M w w':=by
 obtain⟨aZ,a,h1,h2⟩:=h.st;refine(sV h1.m (by omega)).mono λe w' ⟨e1,e2⟩=>⟨?_,e2⟩;rw[e1,h.val,h.v,h.has]
theorem JX.order{s:dM}{m:Nat}{v:ByteArray}(h:JX w0 w sb C nc s m v)(hn:nc<=9):ax av 11 #[X (G ⟨sb,0,U⟩)] w λe w'=>(∃A c,e=ay (T A m c))/\M w w':=by
 obtain⟨aZ,a,h1,h2⟩:=h.st;have h3:=h.ml;have h4:=h.fx;have:=EG h1.m (by omega);rw[h3]at this;exact this
theorem JX.GA{s:dM}{m:Nat}{v:ByteArray}(h:JX w0 w sb C nc s m v):ax av 12 #[X (G ⟨sb,0,U⟩)] w λe w'=>e=ay (I J (nc:Nat))/\w'=w:=by
 obtain⟨aZ,a,h1,h2⟩:=h.st;have:=B7 h1.m;rw[h.ncl]at this;exact this
theorem JX.state{s:dM}{m:Nat}{v:ByteArray}(h:JX w0 w sb C nc s m v)(hn:nc<=9)(hk:k<nc):ax av 13 #[X (G ⟨sb,0,U⟩),I J (k:Nat)] w λe w'=>∃z:Int,e=ay (I J z)/\w'=w/\nj s (k+1)=nj s k+if z=2 then 1 else 0:=by
 obtain⟨aZ,a,h1,h2⟩:=h.st;have h3:=h.ncl;obtain⟨d,hd⟩:=bh (L:=s.dr) (i:=k) (by omega);refine(vG h1.m hd (by omega)).mono λe w' ⟨e1,e2⟩=>⟨_,e1,e2,?_⟩;rw[EZ hd];by_cases h8:d.ph=8
 ·simp[h8]
 ·simp[h8]
end
