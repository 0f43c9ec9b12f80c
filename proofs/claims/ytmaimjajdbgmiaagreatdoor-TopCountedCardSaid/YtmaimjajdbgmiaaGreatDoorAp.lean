import Derived.Test.YtmaimjajdbgmiaaGreatDoorAj
import Derived.Test.YtmaimjajdbgmiaaGreatDoorAm
set_option linter.unusedVariables false
set_option linter.unusedSimpArgs false
set_option maxRecDepth 100000
set_option maxHeartbeats 0
open Go.Value renaming int→I,string→V,pointer→X,bool→Y,slice→T,tuple→aB,agg→aC
open Go.IntKind renaming i64→J
open Option renaming none→U,some→G
open Go.Ending renaming returned→ay
open Go.Obj renaming cells→az
open List renaming getElem_cons_succ→aI,getElem_cons_zero→aH,getElem_toArray→aG,setIfInBounds_toArray→aF,set_cons_succ→aK,set_cons_zero→aJ
open Nat renaming le_refl→aN,le_trans→aO,lt_of_lt_of_le→aP
open Go renaming World→aw,Calls→ax,bodyPost_ret→aE
open Go.Proofs.Tryz
open Go.Proofs.Tryz renaming prog→av
namespace Go.Proofs.YtmaimjajdbgmiaaGreatDoor
open Go.Lib Go.Maps Go.RowKit
abbrev p9(p:bQ×dh):Array Value:=#[I J p.1.kind,I J p.1.tx,I J p.1.aS,I J p.1.aY,I J p.1.op,V p.1.key,V p.1.val,I J p.1.mode,Y p.1.yes,I J p.2.code,I J p.2.state,V p.2.val,Y p.2.has]
abbrev LC:Value:=aC (p9 (oU,⟨0,0,⟨#[]⟩,false⟩))
theorem Qc(w:aw):(zeroValue 285).run av w= .ok LC w:=by kernel_rfl
structure rC where
 sb:Nat
 sh:ia
 mb:Nat
def rC.F(a:rC)(pb:Nat):Nat->Prop:=λg=>g=pb\/g=a.mb\/a.sh.F a.sb g
structure ic(w:aw)(pb:Nat)(K:ByteArray)(aZ t:Nat)(s:dm)(f:Int->Option (bQ×dh))(a:rC):Prop where
 aW:aX w pb 256 #[X (G ⟨a.sb,0,U⟩),I J (t:Nat),.map (G a.mb)]
 sh:dH w a.sb K aZ s a.sh
 map:cT w a.mb aZ LC (λt=>(f t).map λp=>aC (p9 p))
 cv: ¬a.sh.F a.sb pb/\¬a.sh.F a.sb a.mb
section
variable{w w':aw}{pb aZ t:Nat}{K:ByteArray}{s:dm}{f:Int->Option (bQ×dh)}{a:rC}{c:bQ}
theorem ic.ch{S:Nat->Prop}(h:ic w pb K aZ t s f a)(hC:Ch S w w')(hS: ∀g,a.F pb g->¬S g):ic w' pb K aZ t s f a:=
 ⟨h.aW.ch hC (hS pb (.inl rfl)),h.sh.ch hC (λg hg=>hS g (.inr (.inr hg))),h.map.ch hC (hS a.mb (.inr (.inl rfl))),h.cv⟩
theorem ic.aR(h:ic w pb K aZ t s f a)(hC:M w w'):ic w' pb K aZ t s f a:=h.ch hC (λ_ _ h=>h)
theorem ic.mono(h:ic w pb K aZ t s f a){m:Nat}(hm:aZ<=m):ic w pb K m t s f a:=⟨h.aW,h.sh.mono hm,h.map.mono hm,h.cv⟩
theorem ic.fC(h:ic w pb K aZ t s f a):oo (a.F pb) w:=λg hg=>by
 rcases hg with rfl|rfl|hg
 ·exact h.aW.lt
 ·exact h.map.lt
 ·exact h.sh.fC g hg
theorem DQ(w:aw){K:ByteArray}(hK:K.size<=16):ax av 131 #[] w λe w'=>∃pb a,e=ay (X (G ⟨pb,0,U⟩))/\ic w' pb K 0 0 iS (λ_=>U) a/\(∀g,a.F pb g->w.heap.size<=g)/\M w w':=by
 have HS:=O (Bh w hK);have Hc:= @run_makeMap av;go_enter func131,ntmps131;go_wp2_with fail;refine HS.o.mono ?_;rintro e w1 ⟨sb,a,rfl,hM,hF,hN⟩;dsimp only;have HM:=O hM;have HF:=O hF;have HN:=O hN;clear hM hF hN;go_wp2_with fail;go_ret;have hI:=HM.o.fC;refine⟨w1.heap.size+1,⟨sb,a,w1.heap.size⟩,by simp,⟨?_,?_,?_,?_⟩,?_,?_⟩
 ·have:=aX.new (w1.alloc (.map #[] 0)) 256 #[X (G ⟨sb,0,U⟩),I J 0,.map (G w1.heap.size)];simpa using this
 ·exact HM.o.aR (((Ch.r _ w1).alloc _).alloc _)
 ·exact(uA w1 LC).aR ((Ch.r _ _).alloc _)
 ·exact⟨λh=>by have:=hI _ h;omega,λh=>by have:w1.heap.size<w1.heap.size:=hI _ h;omega⟩
 ·have:=HN.o.size;rintro g (h|h|h)
  ·omega
  ·have h:g=w1.heap.size:=h;omega
  ·exact HF.o g h
 ·exact(HN.o.alloc _).alloc _
theorem DR(h:ic w pb K aZ t s f a):ax av 133 #[X (G ⟨pb,0,U⟩)] w λe w'=>e=ay (I J (t:Nat))/\w'=w:=by
 have x1:=h.aW.c 1;have xl:=h.aW.lt;clear h;go_enter func133,ntmps133;go_wp2_with fail;go_ret;exact⟨rfl,rfl⟩
theorem uO(h:ic w pb K aZ t s f a):ax av 105 #[X (G ⟨pb,0,U⟩)] w λe w'=>e=ay (X (G ⟨a.sb,0,U⟩))/\w'=w:=by
 have x0:=h.aW.c 0;have xl:=h.aW.lt;clear h;go_enter func105,ntmps105;go_wp2_with fail;go_ret;exact⟨rfl,rfl⟩
end
structure LD(K:ByteArray)(s:dm)(c:bQ):Prop where
 n:yR c
 w:eN c
 key:c.kind=2\/c.kind=3\/c.kind=4->c.key=K
 yes:c.kind=4->c.yes=true
 va: ∀x v,s.br c.tx=G x->x.wr=G v->v.size<=32
 k9:c.kind≠9
def Hv(w:aw)(pb:Nat)(K:ByteArray)(aZ t:Nat)(s:dm)(f:Int->Option (bQ×dh))(a:rC)(w':aw):Prop:=
 ∃a',ic w' pb K aZ t s f a'/\Sub (a.F pb) (a'.F pb) w w'
section
variable{w w':aw}{pb aZ t:Nat}{K:ByteArray}{s:dm}{f:Int->Option (bQ×dh)}{a:rC}{c:bQ}
theorem Qd(tm:Int):ax av 200 #[X (G ⟨pb,0,U⟩),aC #[I J tm,V ⟨#[]⟩]] w λe w'=>e=ay (aB #[])/\M w w':=by
 obtain⟨A,n,k,W,GF,hN,hR⟩:=p6 (w.alloc (az #[I J tm,V ⟨#[]⟩] 222)) (d:=⟨#[]⟩) (c:=oU) (y:=false) (.inr ⟨rfl,rfl,rfl⟩);have HR:=O hR;have HN:=O (((Ch.r (λ_=>False) w).alloc _).t hN);clear hR hN;go_enter func200,ntmps200;go_wp2_with fail;refine HR.o.mono ?_;rintro e w3 ⟨rfl,gZ⟩;dsimp only;have cE:=O (HN.o.t gZ);clear GF gZ;go_wp2_with fail
 first|go_end0|(simp only[Exit.inBlock,Exit.then];refine aE (results_none rfl _ _ _) rfl ?_)|refine aE (results_none rfl _ _ _) rfl ?_
 exact⟨rfl,cE.o.alloc _⟩
def DS(w4:aw)(sb:Nat)(K:ByteArray)(aZ:Nat)(S1:dm)(R:dh)(b:ia)(v:Value)(wx:aw):Prop:=
 ∃z b',v=X (G ⟨z,0,U⟩)/\w4.heap.size<=z/\aX wx z 66 (xp R)/\dH wx sb K aZ S1 b'/\Sub (b.F sb) (b'.F sb) w4 wx
theorem XT{w4 W w6:aw}{sb:Nat}{R:dh}{b b':ia}(hN:M w4 W)(hm:dH w6 sb K aZ s b')(hs:Sub (b.F sb) (b'.F sb) W w6):DS w4 sb K aZ s R b (X (G ⟨w6.heap.size,0,U⟩)) (w6.alloc (az (xp R) 66)):=
 ⟨_,b',rfl,aO hN.size hs.ch.size,aX.new w6 66 _,hm.aR ((Ch.r _ _).alloc _),((Sub.bj _ hN).trans hs).trans (Sub.bj _ ((Ch.r _ _).alloc _))⟩
theorem SL{w4 W w6:aw}{sb z:Nat}{R:dh}{b b':ia}(hN:M w4 W)(hz:w4.heap.size<=z)(hb:aX W z 66 #[I J 0,I J 0,V ⟨#[]⟩,Y false])(hI:oo (b.F sb) w4)(hm:dH w6 sb K aZ s b')(hs:Sub (b.F sb) (b'.F sb) W w6):
 aX w6 z 66 #[I J 0,I J 0,V ⟨#[]⟩,Y false]/\DS w4 sb K aZ s R b (X (G ⟨z,0,U⟩)) (cI w6 z R):=by
 have h1: ¬b.F sb z:=λe=>by have:=hI z e;omega
 have h2: ¬b'.F sb z:=λe=>(hs.new z e).elim h1 (λe=>by have:=hb.lt;omega);have O9:=hb.ch hs.ch h1;have t:=((Sub.bj _ hN).trans hs);refine⟨O9,z,b',rfl,hz,bU O9 R,hm.ch (bX w6 z R) (λg hg e=>h2 (e▸hg)),t.ch.trans (bX w6 z R) (λk e=>.inr (by omega)),λg hg=>t.new g hg⟩
theorem za{w4 W w6:aw}{S:Nat->Prop}(h:M w4 W)(h':Ch S W w6):Ch S w4 w6:=Ch.t (h.mono (λ_ h=>h.elim)) h'
theorem Qe(h:ic w pb K aZ t s f a)(hc:LD K s c)(cp:aZ<1000000)(Qf:(fS s c).2.code≠1)(tm:Int):
 ax av 200 #[X (G ⟨pb,0,U⟩),aC #[I J tm,V (gJ (enc c))]] w λe w'=>e=ay (aB #[])/\Hv w pb K (aZ+2) t (fS s c).1 (cQ f c.tx (G (c,(fS s c).2))) a w':=by
 obtain⟨A,n,k,W,GF,hN,hR⟩:=p6 (w.alloc (az #[I J tm,V (gJ (enc c))] 222)) (d:=gJ (enc c)) (c:=c) (y:=true) (.inl ⟨rfl,hc.n,rfl⟩);have HR:=O hR;have HN:=O (((Ch.r (λ_=>False) w).alloc _).t hN);have HH:=O h;have JO:=O (λw' (hM:ic w' pb K aZ t s f a)=>DP hM.sh hc.w hc.key hc.yes hc.va cp);have HG:=O cp;obtain⟨ae,hO⟩:=bG (fS s c);obtain⟨S1,R⟩:=ae;rw[hO]at JO Qf⊢;obtain⟨tx0,tx1⟩:=hc.w.tx;have h9:=hc.k9;clear hR hN h hc hO cp;go_enter func200,ntmps200;go_wp2_with fail;refine HR.o.mono ?_;rintro e w3 ⟨rfl,gZ⟩;dsimp only;have cE:=O (HN.o.t gZ);clear GF gZ;obtain⟨kd,tx,aS,st,op,key,val,mode,yes⟩:=c;obtain⟨code,state,VV,HB⟩:=R;dsimp only at *;go_upto_region 3 with(fail);have dQ:=O (cE.o.alloc (az (bN ⟨kd,tx,aS,st,op,key,val,mode,yes⟩) 60));have iq:=O (aX.new w3 60 (bN ⟨kd,tx,aS,st,op,key,val,mode,yes⟩));have HQ:=O cE.o.size;change Code.wp _ _ _ _ (w3.alloc (az (bN ⟨kd,tx,aS,st,op,key,val,mode,yes⟩) 60));generalize(w3.alloc (az (bN ⟨kd,tx,aS,st,op,key,val,mode,yes⟩) 60))=w4 at *;generalize w3.heap.size=qb at *;have H4:=O (HH.o.aR dQ.o);have cZ:=O (λw' (x:aX w' pb 256 #[X (G ⟨a.sb,0,U⟩),I J (t:Nat),.map (G a.mb)]) (y:aX w' qb 60 (bN ⟨kd,tx,aS,st,op,key,val,mode,yes⟩))=>
  (show w'.cell? ⟨pb,0,U⟩=G (X (G ⟨a.sb,0,U⟩))/\w'.cell? ⟨qb,0,U⟩=G (I J kd)/\w'.cell? ⟨qb,1,U⟩=G (I J tx)/\w'.cell? ⟨qb,2,U⟩=G (I J aS)/\w'.cell? ⟨qb,3,U⟩=G (I J st)/\w'.cell? ⟨qb,4,U⟩=G (I J op)/\w'.cell? ⟨qb,5,U⟩=G (V key)/\w'.cell? ⟨qb,6,U⟩=G (V val)/\w'.cell? ⟨qb,7,U⟩=G (I J mode)/\w'.cell? ⟨qb,8,U⟩=G (Y yes)from
    ⟨x.c 0,y.c 0,y.c 1,y.c 2,y.c 3,y.c 4,y.c 5,y.c 6,y.c 7,y.c 8⟩))
 have lY:=O (cZ.o w4 H4.o.aW iq.o);have js:=O (cZ.o w4.drew H4.o.aW.drew iq.o.drew);have⟨c0,c1,c2,c3,c4,c5,c6,c7,c8,c9⟩:=lY.o;have pl:=H4.o.aW.lt;have ql:=iq.o.lt;have CX:=O H4.o.sh.fC;have xC:=O (λo=>show M w4 (w4.alloc o).drew from((Ch.r _ w4).alloc o).drew);have JP:=O (λo=>show M w4 (w4.drew.alloc o)from((Ch.r _ w4).drew).alloc o);have Uz:=O (λo=>cZ.o (w4.alloc o) (H4.o.aW.alloc o) (iq.o.alloc o));have xr:=O (λo=>cZ.o (w4.alloc o).drew (H4.o.aW.alloc o).drew (iq.o.alloc o).drew);have UA:=O (λo=>cZ.o (w4.drew.alloc o) (H4.o.aW.drew.alloc o) (iq.o.drew.alloc o))
 go_cut[6] (λs wx=>DS w4 a.sb K (aZ+2) S1 ⟨code,state,VV,HB⟩ a.sh s wx)
 case first=>
  go_region_held3(λw'=>w'.cell? ⟨pb,0,U⟩=G (X (G ⟨a.sb,0,U⟩))/\w'.cell? ⟨qb,0,U⟩=G (I J kd)/\w'.cell? ⟨qb,1,U⟩=G (I J tx)/\w'.cell? ⟨qb,2,U⟩=G (I J aS)/\w'.cell? ⟨qb,3,U⟩=G (I J st)/\w'.cell? ⟨qb,4,U⟩=G (I J op)/\w'.cell? ⟨qb,5,U⟩=G (V key)/\w'.cell? ⟨qb,6,U⟩=G (V val)/\w'.cell? ⟨qb,7,U⟩=G (I J mode)/\w'.cell? ⟨qb,8,U⟩=G (Y yes))
   (first|with_reducible exact js.o|with_reducible exact Uz.o _|with_reducible exact xr.o _|with_reducible exact UA.o _|with_reducible exact lJ.o|with_reducible exact Fi.o _|exact ZY.o|fail)
   (first
     |(go_at_call 70
       (first
         |((with_reducible refine(JO.o w4.drew (H4.o.aR (aU w4))).mono ?_);rintro e w6 ⟨rfl,a6,ze,kK⟩;have XU:=O (XT (R:=⟨code,state,VV,HB⟩) (aU w4) ze kK);have DT:=O (za (aU w4) kK.ch))
         |((with_reducible refine(JO.o ((w4.alloc (az #[I J 0,I J 0,V ⟨#[]⟩,Y false] 66)).drew) (H4.o.aR (xC.o _))).mono ?_);rintro e w6 ⟨rfl,a6,ze,kK⟩;have xD:=O (SL (R:=⟨code,state,VV,HB⟩) (xC.o _) (aN _) (aX.new w4 66 _).drew CX.o ze kK);have DT:=O (za (xC.o _) kK.ch);have z0:=xD.o.1.c 0;have z1:=xD.o.1.c 1;have z2:=xD.o.1.c 2;have z3:=xD.o.1.c 3;have zl:=xD.o.1.lt;have zf:=xD.o.1.frozen)
         |((with_reducible refine(JO.o (w4.drew.alloc (az #[I J 0,I J 0,V ⟨#[]⟩,Y false] 66)) (H4.o.aR (JP.o _))).mono ?_);rintro e w6 ⟨rfl,a6,ze,kK⟩;have xD:=O (SL (R:=⟨code,state,VV,HB⟩) (JP.o _) (aN _) (aX.new w4.drew 66 _) CX.o ze kK);have DT:=O (za (JP.o _) kK.ch);have z0:=xD.o.1.c 0;have z1:=xD.o.1.c 1;have z2:=xD.o.1.c 2;have z3:=xD.o.1.c 3;have zl:=xD.o.1.lt;have zf:=xD.o.1.frozen)
         |fail)
       dsimp only;have OJ:=O (H4.o.aW.ch DT.o H4.o.cv.1);have qI:=O (iq.o.ch DT.o (λe=>absurd (HH.o.sh.fC _ e) (Nat.not_lt.2 HQ.o)));have lJ:=O (cZ.o w6 OJ.o qI.o);have Fi:=O (λo=>cZ.o (w6.alloc o) (OJ.o.alloc o) (qI.o.alloc o));have ZY:=O (cZ.o (cI w6 w4.heap.size ⟨code,state,VV,HB⟩) (OJ.o.ch (bX _ _ _) (Nat.ne_of_lt H4.o.aW.lt)) (qI.o.ch (bX _ _ _) (Nat.ne_of_lt iq.o.lt)));clear ze kK;have⟨c0,c1,c2,c3,c4,c5,c6,c7,c8,c9⟩:=lJ.o)
     |fail)
  all_goals
   go_wp2_with fail;go_meet
   first|with_reducible exact XU.o|exact xD.o.2|fail
 case rest=>
  obtain⟨z,a6,rfl,hz,hbz,ze,kK⟩:=hcut;have OK:=O hbz;have sJ:=O ze;have HS:=O kK;have OJ:=O (H4.o.aW.ch kK.ch H4.o.cv.1);have qI:=O (iq.o.ch kK.ch (λe=>by have:=HH.o.sh.fC _ e;have:=HQ.o;omega));have HU6:=O (H4.o.map.ch kK.ch H4.o.cv.2);have CY:=O (show¬a6.F a.sb pb/\¬a6.F a.sb a.mb from⟨λe=>(kK.new _ e).elim H4.o.cv.1 (λe=>by have:=H4.o.aW.lt;omega),λe=>(kK.new _ e).elim H4.o.cv.2 (λe=>by have:=H4.o.map.lt;omega)⟩);clear hz hbz ze kK c0 c1 c2 c3 c4 c5 c6 c7 c8 c9 pl ql;have p2:=OJ.o.c 2;have pl:=OJ.o.lt;have⟨q0,q1,q2,q3,q4,q5,q6,q7,q8⟩:=kq qI.o;have ql:=qI.o.lt;have⟨z0,z1,z2,z3⟩:=eW OK.o;have zl:=OK.o.lt;obtain⟨w7,kA,hm7,kt⟩:=cT.put (HU6.o.aR (aU wc)) (au:=254) (E:=285) (by kernel_rfl) (by have:=HG.o;omega) (x:=tx) (by omega) (by omega) (aC (p9 (⟨kd,tx,aS,st,op,key,val,mode,yes⟩,⟨code,state,VV,HB⟩)));have qH:=O hm7;have xi:=O ((Ch.bF kt).mono (au:=λk=>k=a.mb) (λk hk=>by injection hk with hk;exact hk.symm));clear hm7 kt;have Wh:ic w7 pb K (aZ+2) t S1 (cQ f tx (G (⟨kd,tx,aS,st,op,key,val,mode,yes⟩,⟨code,state,VV,HB⟩))) ⟨a.sb,a6,a.mb⟩:=by
   refine⟨OJ.o.drew.ch xi.o (λe=>HU6.o.fO OJ.o e.symm),((sJ.o.aR (aU wc)).ch xi.o (λg hg e=>CY.o.2 (e▸hg))),?_,CY.o⟩;have e:(λt=>(cQ f tx (G (⟨kd,tx,aS,st,op,key,val,mode,yes⟩,⟨code,state,VV,HB⟩)) t).map λp=>Value.agg (p9 p))=cQ (λt=>(f t).map λp=>Value.agg (p9 p)) tx (G (aC (p9 (⟨kd,tx,aS,st,op,key,val,mode,yes⟩,⟨code,state,VV,HB⟩)))):=by
    funext t
    unfold cQ;split<;>rfl
   rw[e];exact qH.o.mono (by omega)
  have XV:Sub (a.F pb) (rC.F ⟨a.sb,a6,a.mb⟩ pb) w w7:=by
   refine⟨(((dQ.o.mono (λ_ h=>h.elim)).t (HS.o.ch.mono (λg h=>.inr (.inr h)))).drew).t (xi.o.mono (λg h=>.inr (.inl h))),λg hg=>?_⟩;rcases hg with h|h|h
   ·exact .inl (.inl h)
   ·exact .inl (.inr (.inl h))
   ·rcases HS.o.new g h with h|h
    ·exact .inl (.inr (.inr h))
    ·exact .inr (aO dQ.o.size h)
  have HE:=O Wh;have HEF:=O XV;clear Wh XV;dsimp only[p9]at kA;have KE:=O Qf;have ki:=O (show(code !=1)=true from bne_iff_ne.2 Qf);have xt:=O (show(kd !=9)=true from bne_iff_ne.2 h9);clear Qf h9;go_upto_region 5 with(fail)
  all_goals try exact absurd rfl KE.o
  all_goals try(rename_i hx;exact hx.elim (λh=>Bool.noConfusion (ki.o.symm.trans h)) (λh=>Bool.noConfusion (xt.o.symm.trans h)))
  go_still_tail 9,(by kernel_rfl)
  change wpList _ _ _ _ _ wc.drew;go_wp2_with fail
  all_goals
   first|go_end0|(simp only[Exit.inBlock,Exit.then];refine aE (results_none rfl _ _ _) rfl ?_)|refine aE (results_none rfl _ _ _) rfl ?_
   exact⟨rfl,_,HE.o,HEF.o⟩
end
section
variable{w w':aw}{pb aZ cY t:Nat}{K:ByteArray}{s s':dm}{f f':Int->Option (bQ×dh)}{a a':rC}{c:bQ}
theorem Hv.at_(h:Hv w pb K aZ t s f a w')(hI:pb<w.heap.size)(u:Nat):Hv w pb K aZ u s f a (w'.setCell ⟨pb,1,U⟩ (I J (u:Nat))):=by
 obtain⟨b,h,hs⟩:=h;have hc:Ch (λg=>g=pb) w' (w'.setCell ⟨pb,1,U⟩ (I J (u:Nat))):=(Ch.r (λg=>g=pb) w').setCell (p:=⟨pb,1,U⟩) (.inl rfl) _;refine⟨b,⟨bu (h.aW.bm 1 _) (by simp),h.sh.ch hc (λg hg e=>h.cv.1 (e▸hg)),h.map.ch hc (λe=>h.map.fO h.aW e),h.cv⟩,hs.ch.t (hc.mono (λg e=>.inl e)),hs.new⟩
theorem LF(h:ic w pb K aZ t s f a)(ht:t<=100){tm:Int}{d:ByteArray}(hd: ∀w',ic w' pb K aZ t s f a->ax av 200 #[X (G ⟨pb,0,U⟩),aC #[I J tm,V d]] w' λe eZ=>e=ay (aB #[])/\Hv w' pb K cY t s' f' a eZ)
 {q k:Nat} (Wi:w.cell? ⟨q,0,U⟩=G (I J tm)) (ot:w.cell? ⟨q,1,U⟩=G (V d)):
 ax av 134 #[X (G ⟨pb,0,U⟩),I J ((t:Nat)+1),T (G ⟨q,0,U⟩) 1 k] w λe w'=>e=ay (aB #[I J 1,I J 0])/\Hv w pb K cY (t+1) s' f' a w':=by
 have HH:=O h;have HD:=O hd;have htI:(t:Int)<=100:=by omega
 have x1:=h.aW.c 1;have xl:=h.aW.lt;clear h hd ht;go_enter func134,ntmps134;go_wp2_with fail
 go_loopw[8,28] (λv iv wr=>(iv=I J 0/\v=I J 0/\wr=w)\/(iv=I J 1/\v=I J 1/\Hv w pb K cY (t+1) s' f' a wr)) (λ_ iv _=>1- (intOf iv).toNat)
 case atStart=>exact .inl ⟨rfl,rfl,rfl⟩
 case round=>
  rcases hrel with⟨rfl,rfl,rfl⟩|⟨rfl,rfl,hR⟩
  ·have HA:=O (show M wr (wr.alloc (az #[I J tm,V d] 222))from(Ch.r _ _).alloc _);have HM:=O (HH.o.aR HA.o);have HDD:=O (HD.o _ HM.o);go_wp2_with fail;refine HDD.o.mono ?_;rintro e w2 ⟨rfl,hR⟩;dsimp only;obtain⟨b,hm,hs⟩:=hR;have HB:=O (show Hv wr pb K cY t s' f' a w2 from⟨b,hm,(Sub.bj _ HA.o).trans hs⟩);have y1:=hm.aW.c 1;have yl:=hm.aW.lt;have yf:=hm.aW.frozen;clear hm hs;go_wp2_with fail;refine⟨.inr ⟨rfl,rfl,?_⟩,by simp[intOf]⟩;exact HB.o.at_ xl (t+1)
  ·have HR:=O hR;clear hR;go_wp2_with fail;go_ret2;exact⟨rfl,HR.o⟩
theorem DU{r:dh}(h:ic w pb K aZ t s f a)(LG:0<=c.tx/\c.tx<16)(hf:f c.tx=G (c,r)):
 ax av 138 #[X (G ⟨pb,0,U⟩),cn c] w λe w'=>e=ay (aB #[dU r,Y true])/\M w w':=by
 obtain⟨w2,ew⟩:=bG ((w.alloc (az (bN c) 60)).alloc (az #[I J 0,I J 0,V ⟨#[]⟩,Y false] 66));have bJ:=O (show M w w2 from ew▸((Ch.r _ w).alloc _).alloc _);have cJ:=O (show aX w2 w.heap.size 60 (bN c)from ew▸(aX.new w 60 (bN c)).alloc _);have jF:=O (show aX w2 (w.heap.size+1) 66 #[I J 0,I J 0,V ⟨#[]⟩,Y false]from by
  have:=aX.new (w.alloc (az (bN c) 60)) 66 #[I J 0,I J 0,V ⟨#[]⟩,Y false];rw[ew]at this;simpa using this)
 have HM:=O (h.aR bJ.o);have look: ∀W,M w W->(Instr.lookup 254 (.map (G a.mb)) (I J c.tx) true).run av W= .ok (aB #[aC (p9 (c,r)),Y true]) W:=λW hN=>by
  have:=(h.aR hN).map.look_ok (au:=254) (E:=285) (by kernel_rfl) (Qc W) (x:=c.tx) (by omega) (by omega);rw[hf]at this;exact this
 have k1:=look w2.drew bJ.o.drew;have k2:=λo=>look (w2.drew.alloc o) (bJ.o.drew.alloc o);have k3:=λo=>look (w2.alloc o).drew ((bJ.o.alloc o).drew);obtain⟨kd,tx,aS,st,op,key,val,mode,yes⟩:=c;obtain⟨code,state,VV,HB⟩:=r;dsimp only[p9]at *;have p2:=HM.o.aW.c 2;have pl:=HM.o.aW.lt;have b1:=cJ.o.c 1;have bl:=cJ.o.lt;clear h look LG hf;go_enter func138,ntmps138;go_upto_region 3 with(fail);clear ew
 go_region
 change Exit.then _ _ _ _ (w2.alloc (az #[I J kd,I J tx,I J aS,I J st,I J op,V key,V val,I J mode,Y yes,I J code,I J state,V VV,Y HB] 285)).drew;have cE:=O (show M w2 (w2.alloc (az #[I J kd,I J tx,I J aS,I J st,I J op,V key,V val,I J mode,Y yes,I J code,I J state,V VV,Y HB] 285)).drew from((Ch.r _ w2).alloc _).drew);have wv:=O (aX.new w2 285 #[I J kd,I J tx,I J aS,I J st,I J op,V key,V val,I J mode,Y yes,I J code,I J state,V VV,Y HB]).drew;have fL:=O (cJ.o.ch cE.o (λh=>h));have gT:=O (jF.o.ch cE.o (λh=>h));clear k1 k2 k3 p2 pl b1 bl;generalize(w2.alloc (az #[I J kd,I J tx,I J aS,I J st,I J op,V key,V val,I J mode,Y yes,I J code,I J state,V VV,Y HB] 285)).drew=w3 at *;generalize w2.heap.size=z at *;obtain⟨y,hy⟩:=bG (w.heap.size);rw[hy]at fL gT;simp only[hy];have HY:=O hy;clear hy cJ jF;have⟨l0,l1,l2,l3,l4,l5,l6,l7,l8,l9,l10,l11,l12⟩:=(show _/\_/\_/\_/\_/\_/\_/\_/\_/\_/\_/\_/\_ from⟨wv.o.c 0,wv.o.c 1,wv.o.c 2,wv.o.c 3,wv.o.c 4,wv.o.c 5,wv.o.c 6,wv.o.c 7,wv.o.c 8,wv.o.c 9,wv.o.c 10,wv.o.c 11,wv.o.c 12⟩);have⟨b0,b1,b2,b3,b4,b5,b6,b7,b8⟩:=kq fL.o;have⟨c0,c1,c2,c3⟩:=eW gT.o;have ll:=wv.o.lt;have bl:=fL.o.lt;have cl:=gT.o.lt;have cf:=gT.o.frozen;go_wp2_with fail;change bodyPost _ _ _ _ _ (cI w3 (y+1) ⟨code,state,VV,HB⟩);have HP:=O (bU gT.o ⟨code,state,VV,HB⟩);have Pd:=O (bJ.o.t cE.o |>.trans (bX w3 (y+1) ⟨code,state,VV,HB⟩) (λk e=>.inr (by have:=HY.o;omega)));generalize cI w3 (y+1) ⟨code,state,VV,HB⟩=wE at *;clear c0 c1 c2 c3;have⟨g0,g1,g2,g3⟩:=eW HP.o;exact aE (v:=aB #[dU ⟨code,state,VV,HB⟩,Y true]) (by simp[results,results138,go_sem,g0,g1,g2,g3]) rfl ⟨rfl,Pd.o⟩
end
inductive Md|wait (s:Int)|led (L:List kx)
def Md.log:Md->List kx
 | .wait _=>[]
 | .led L=>L
def Md.on:Md->Bool
 | .wait _=>false
 | .led _=>true
def C2(w:aw)(gb:Nat)(a:qJ):Md->Prop
 | .wait s=>(0<=s/\s<=3)/\j6 w gb a (zg s) []
 | .led L=>Wp w gb a L
structure eL where
 wR:Nat
 rA:Option Addr
 rc:Nat
 M6:List ByteArray
 gA:Option Addr
 gc:Nat
 pA:Option Addr
 pc:Nat
 rr:Nat->Nat
 cA:Option Addr
 cc:Nat
 pl:Value
 gb:Nat->Nat
 ga:Nat->qJ
 pb:Nat->Nat
 pa:Nat->rC
 db:Nat
 da:qo
 oA:Option Addr
 on:Nat
 oc:Nat
def JT:Option eF->Nat
 |none=>0
 |some _=>1
def Vf(a:eL):Option eF->List Value
 |none=>[]
 |some _=>[X (G ⟨a.db,0,U⟩),a.pl]
def eL.P(a:eL)(wb:Nat)(d:Option eF):Nat->Nat->Prop
 |0=>λg=>g=wb
 |1=>oz a.wR a.rA a.M6.length a.rc
 |2=>λg=>(T a.gA 2 a.gc).ownBlock=G g
 |3=>λg=>(T a.pA 2 a.pc).ownBlock=G g
 |4=>λg=>g=a.rr 0
 |5=>λg=>g=a.rr 1
 |6=>λg=>(T a.cA (JT d) a.cc).ownBlock=G g
 |7=>λg=>∃x,d=G x/\a.da.F a.db x g
 |n+8=>λg=>if n%2=0 then n / 2<2/\(a.ga (n / 2)).F (a.gb (n / 2)) g else n / 2<2/\(a.pa (n / 2)).F (a.pb (n / 2)) g
def eL.F(a:eL)(wb:Nat)(d:Option eF):Nat->Prop:=JI (a.P wb d)
abbrev Vg(C:Cf)(a:eL)(d:Option eF):Array Value:=#[X (G ⟨a.wR,0,U⟩),I J C.tries,T a.gA 2 a.gc,T a.pA 2 a.pc,T a.cA (JT d) a.cc,T a.oA a.on a.oc]
structure fD(w:aw)(wb:Nat)(C:Cf)(aZ nd:Nat)(m:Nat->Md)(t:Nat->Nat)(sh:Nat->dm)(f:Nat->Int->Option (bQ×dh))(d:Option eF)(a:eL):Prop where
 aW:aX w wb 91 (Vg C a d)
 ig:ie C w a.wR a.rA a.rc a.M6
 xV:w.ownsRow 0 92 1 (T a.gA 2 a.gc) 2 [X (G ⟨a.gb 0,0,U⟩),X (G ⟨a.gb 1,0,U⟩)]
 xW:w.ownsRow 0 94 1 (T a.pA 2 a.pc) 2 [T (G ⟨a.rr 0,0,U⟩) 1 1,T (G ⟨a.rr 1,0,U⟩) 1 1]
 rr: ∀k,k<2->aX w (a.rr k) 174 #[X (G ⟨a.pb k,0,U⟩)]
 cls:w.ownsRow 0 99 2 (T a.cA (JT d) a.cc) (JT d) (Vf a d)
 pl: ∃A n c,a.pl=T A n c
 gr: ∀k,k<2->C2 w (a.gb k) (a.ga k) (m k)/\(a.ga k).dn<=nd
 rp: ∀k,k<2->ic w (a.pb k) C.key aZ (t k) (sh k) (f k) (a.pa k)
 dr: ∀x,d=G x->ey w a.db a.wR C 0 x a.da
 iu:eG w (a.P wb d)
 ns:C.ns=2
 ord:aZ<10->a.oA=U/\a.on=0/\a.oc=0
section
variable{w w':aw}{wb aZ cY nd nd' k:Nat}{C:Cf}{m:Nat->Md}{t:Nat->Nat}{sh:Nat->dm}{f:Nat->Int->Option (bQ×dh)}{d:Option eF}{x y:eF}{a:eL}
theorem C2.fW{gb:Nat}{b:qJ}{ag:Md}(h:C2 w gb b ag): ∃r,j6 w gb b r ag.log/\r.dC=(ag.log.length:Nat)/\decide (r.role=3)=ag.on:=by
 match ag,h with
 | .wait s,h=>exact⟨_,h.2,rfl,rfl⟩
 | .led L,⟨s,q,v,x,_,_,h,_⟩=>exact⟨_,h,rfl,rfl⟩
theorem C2.ch{gb:Nat}{b:qJ}{ag:Md}{S:Nat->Prop}(h:C2 w gb b ag)(hC:Ch S w w')(hS: ∀g,b.F gb g->¬S g):C2 w' gb b ag:=by
 match ag,h with
 | .wait s,h=>exact⟨h.1,h.2.ch hC hS⟩
 | .led L,⟨s,q,v,x,h1,h2,h,h3⟩=>exact⟨s,q,v,x,h1,h2,h.ch hC hS,h3⟩
theorem C2.fC{gb:Nat}{b:qJ}{ag:Md}(h:C2 w gb b ag):oo (b.F gb) w:=by
 obtain⟨r,h,_⟩:=h.fW;exact h.fC
theorem Vh(a:eL)(hk:k<2):a.P wb d (2*k+8)=(a.ga k).F (a.gb k):=by
 funext g
 show(if 2*k%2=0 then 2*k / 2<2/\(a.ga (2*k / 2)).F (a.gb (2*k / 2)) g else _)=_;rw[if_pos (by omega),show 2*k / 2=k by omega];exact propext ⟨λh=>h.2,λh=>⟨hk,h⟩⟩
theorem Vi(a:eL)(hk:k<2):a.P wb d (2*k+9)=(a.pa k).F (a.pb k):=by
 funext g
 show(if(2*k+1)%2=0 then _ else(2*k+1) / 2<2/\(a.pa ((2*k+1) / 2)).F (a.pb ((2*k+1) / 2)) g)=_;rw[if_neg (by omega),show(2*k+1) / 2=k by omega];exact propext ⟨λh=>h.2,λh=>⟨hk,h⟩⟩
theorem qe0(a:eL):a.P wb (G x) 7=a.da.F a.db x:=by
 funext g
 exact propext ⟨λ⟨x',h1,h2⟩=>by injection h1 with h1;subst h1;exact h2,λh=>⟨x,rfl,h⟩⟩
structure S7(w w':aw)(wb:Nat)(C:Cf)(aZ nd:Nat)(m:Nat->Md)(t:Nat->Nat)(sh:Nat->dm)(f:Nat->Int->Option (bQ×dh))(d:Option eF)(a:eL)(af:Nat->Prop):Prop where
 aW: ¬af 0->aX w' wb 91 (Vg C a d)
 ig: ¬af 1->ie C w' a.wR a.rA a.rc a.M6
 xV: ¬af 2->w'.ownsRow 0 92 1 (T a.gA 2 a.gc) 2 [X (G ⟨a.gb 0,0,U⟩),X (G ⟨a.gb 1,0,U⟩)]
 xW: ¬af 3->w'.ownsRow 0 94 1 (T a.pA 2 a.pc) 2 [T (G ⟨a.rr 0,0,U⟩) 1 1,T (G ⟨a.rr 1,0,U⟩) 1 1]
 rr: ¬af 4->¬af 5->∀k,k<2->aX w' (a.rr k) 174 #[X (G ⟨a.pb k,0,U⟩)]
 cls: ¬af 6->w'.ownsRow 0 99 2 (T a.cA (JT d) a.cc) (JT d) (Vf a d)
 gr: ∀k,k<2->¬af (2*k+8)->C2 w' (a.gb k) (a.ga k) (m k)/\(a.ga k).dn<=nd
 rp: ∀k,k<2->¬af (2*k+9)->ic w' (a.pb k) C.key aZ (t k) (sh k) (f k) (a.pa k)
 dr: ¬af 7->∀x,d=G x->ey w' a.db a.wR C 0 x a.da
theorem fD.keeps(h:fD w wb C aZ nd m t sh f d a)(af:Nat->Prop)(hC:Ch (λg=>∃j,af j/\a.P wb d j g) w w'):S7 w w' wb C aZ nd m t sh f d a af:=by
 have cv: ∀(i:Nat),¬af i->∀g,a.P wb d i g->¬ ∃j,af j/\a.P wb d j g:=λi hi g hg ⟨j,hj,uH⟩=>h.iu.cv (j:=i) (i:=j) (λe=>hi (e▸hj)) g hg uH;refine⟨λhj=>h.aW.ch hC (cv 0 hj wb rfl),λhj=>h.ig.ch hC (cv 1 hj),λhj=>bg h.xV hC (cv 2 hj),λhj=>bg h.xW hC (cv 3 hj),λh4 h5 k hk=>(h.rr k hk).ch hC ?_,λhj=>bg h.cls hC (cv 6 hj),
  λk hk hj=>⟨(h.gr k hk).1.ch hC (λg hg=>cv (2*k+8) hj g (by rw[Vh a hk];exact hg)),(h.gr k hk).2⟩,λk hk hj=>(h.rp k hk).ch hC (λg hg=>cv (2*k+9) hj g (by rw[Vi a hk];exact hg)),λhj x hx=>(h.dr x hx).ch hC (λg hg=>cv 7 hj g ⟨x,hx,hg⟩)⟩
 match k,hk with
 |0,_=>exact cv 4 h4 _ rfl
 |1,_=>exact cv 5 h5 _ rfl
theorem fD.oC(h:fD w wb C aZ nd m t sh f d a)(j:Nat)(hC:Ch (a.P wb d j) w w'):S7 w w' wb C aZ nd m t sh f d a (λn=>n=j):=h.keeps _ (hC.mono (λg hg=>⟨j,rfl,hg⟩))
theorem fD.ch{S:Nat->Prop}(h:fD w wb C aZ nd m t sh f d a)(hC:Ch S w w')(hS: ∀g,a.F wb d g->¬S g):fD w' wb C aZ nd m t sh f d a:=by
 have F:=λ(i:Nat) (g:Nat) (hg:a.P wb d i g)=>hS g ⟨i,hg⟩;refine⟨h.aW.ch hC (F 0 wb rfl),h.ig.ch hC (F 1),bg h.xV hC (F 2),bg h.xW hC (F 3),λk hk=>(h.rr k hk).ch hC ?_,bg h.cls hC (F 6),h.pl,λk hk=>⟨(h.gr k hk).1.ch hC (λg hg=>F (2*k+8) g (by rw[Vh a hk];exact hg)),(h.gr k hk).2⟩,
  λk hk=>(h.rp k hk).ch hC (λg hg=>F (2*k+9) g (by rw[Vi a hk];exact hg)),λx hx=>(h.dr x hx).ch hC (λg hg=>F 7 g ⟨x,hx,hg⟩),h.iu.mono hC.size,h.ns,h.ord⟩
 match k,hk with
 |0,_=>exact F 4 _ rfl
 |1,_=>exact F 5 _ rfl
theorem fD.aR(h:fD w wb C aZ nd m t sh f d a)(hC:M w w'):fD w' wb C aZ nd m t sh f d a:=h.ch hC (λ_ _ h=>h)
theorem fD.mono(h:fD w wb C aZ nd m t sh f d a)(hm:aZ<=cY)(hn:nd<=nd'):fD w wb C cY nd' m t sh f d a:=
 ⟨h.aW,h.ig,h.xV,h.xW,h.rr,h.cls,h.pl,λk hk=>⟨(h.gr k hk).1,aO (h.gr k hk).2 hn⟩,λk hk=>(h.rp k hk).mono hm,h.dr,h.iu,h.ns,λe=>h.ord (by omega)⟩
end
section
variable{w w':aw}{wb aZ cY nd nd' k:Nat}{C:Cf}{m:Nat->Md}{t:Nat->Nat}{sh:Nat->dm}{f:Nat->Int->Option (bQ×dh)}{d:Option eF}{x y:eF}{a:eL}
theorem fD.Vj{ag:Md}{b:qJ}(h:fD w wb C aZ nd m t sh f d a)(hk:k<2)(hx:C2 w' (a.gb k) b ag)(hn:b.dn<=nd')(TP:nd<=nd')(hs:Sub ((a.ga k).F (a.gb k)) (b.F (a.gb k)) w w'):
 fD w' wb C aZ nd' (bK m k ag) t sh f d {a with ga:=bK a.ga k b}/\Sub (a.F wb d) (eL.F {a with ga:=bK a.ga k b} wb d) w w':=by
 have hp:=Vh (wb:=wb) (d:=d) a hk;have K:=h.oC (2*k+8) (by rw[hp];exact hs.ch);obtain⟨h1,h2⟩:=h.iu.tC (P':=eL.P {a with ga:=bK a.ga k b} wb d) (2*k+8) (by rw[hp];exact hs) hx.fC (λn g hg=>by
  match n,hg with
  |0,hg|1,hg|2,hg|3,hg|4,hg|5,hg|6,hg|7,hg=>exact⟨λe=>by omega,λ_=>hg⟩
  |n+8,hg=>
   have hg:if n%2=0 then n / 2<2/\(bK a.ga k b (n / 2)).F (a.gb (n / 2)) g else n / 2<2/\(a.pa (n / 2)).F (a.pb (n / 2)) g:=hg;refine⟨λe=>?_,λe=>?_⟩
   ·rw[if_pos (by omega),show n / 2=k by omega,bI]at hg;exact hg.2
   ·show if n%2=0 then n / 2<2/\(a.ga (n / 2)).F (a.gb (n / 2)) g else n / 2<2/\(a.pa (n / 2)).F (a.pb (n / 2)) g;split
    ·rename_i e2;rw[if_pos e2,bC _ _ (by omega)]at hg;exact hg
    ·rename_i e2;rw[if_neg e2]at hg;exact hg)
 refine⟨⟨K.aW (by omega),K.ig (by omega),K.xV (by omega),K.xW (by omega),K.rr (by omega) (by omega),K.cls (by omega),h.pl,λj hj=>?_,λj hj=>K.rp j hj (by omega),K.dr (by omega),h1,h.ns,h.ord⟩,h2⟩;by_cases e:j=k
 ·subst e;show C2 w' (a.gb j) (bK a.ga j b j) (bK m j ag j)/\(bK a.ga j b j).dn<=nd';rw[bI,bI];exact⟨hx,hn⟩
 ·show C2 w' (a.gb j) (bK a.ga k b j) (bK m k ag j)/\(bK a.ga k b j).dn<=nd';rw[bC _ _ e,bC _ _ e];have:=K.gr j hj (by omega);exact⟨this.1,aO this.2 TP⟩
theorem fD.Vk{au:Nat}{S:dm}{aa:Int->Option (bQ×dh)}{b:rC}(h:fD w wb C aZ nd m t sh f d a)(hk:k<2)(hx:ic w' (a.pb k) C.key cY au S aa b)(hm:aZ<=cY)(hs:Sub ((a.pa k).F (a.pb k)) (b.F (a.pb k)) w w'):
 fD w' wb C cY nd m (bK t k au) (bK sh k S) (bK f k aa) d {a with pa:=bK a.pa k b}/\Sub (a.F wb d) (eL.F {a with pa:=bK a.pa k b} wb d) w w':=by
 have hp:=Vi (wb:=wb) (d:=d) a hk;have K:=h.oC (2*k+9) (by rw[hp];exact hs.ch);obtain⟨h1,h2⟩:=h.iu.tC (P':=eL.P {a with pa:=bK a.pa k b} wb d) (2*k+9) (by rw[hp];exact hs) hx.fC (λn g hg=>by
  match n,hg with
  |0,hg|1,hg|2,hg|3,hg|4,hg|5,hg|6,hg|7,hg=>exact⟨λe=>by omega,λ_=>hg⟩
  |n+8,hg=>
   have hg:if n%2=0 then n / 2<2/\(a.ga (n / 2)).F (a.gb (n / 2)) g else n / 2<2/\(bK a.pa k b (n / 2)).F (a.pb (n / 2)) g:=hg;refine⟨λe=>?_,λe=>?_⟩
   ·rw[if_neg (by omega),show n / 2=k by omega,bI]at hg;exact hg.2
   ·show if n%2=0 then n / 2<2/\(a.ga (n / 2)).F (a.gb (n / 2)) g else n / 2<2/\(a.pa (n / 2)).F (a.pb (n / 2)) g;split
    ·rename_i e2;rw[if_pos e2]at hg;exact hg
    ·rename_i e2;rw[if_neg e2,bC _ _ (by omega)]at hg;exact hg)
 refine⟨⟨K.aW (by omega),K.ig (by omega),K.xV (by omega),K.xW (by omega),K.rr (by omega) (by omega),K.cls (by omega),h.pl,λj hj=>K.gr j hj (by omega),λj hj=>?_,K.dr (by omega),h1,h.ns,λe=>h.ord (by omega)⟩,h2⟩;by_cases e:j=k
 ·subst e;show ic w' (a.pb j) C.key cY (bK t j au j) (bK sh j S j) (bK f j aa j) (bK a.pa j b j);rw[bI,bI,bI,bI];exact hx
 ·show ic w' (a.pb j) C.key cY (bK t k au j) (bK sh k S j) (bK f k aa j) (bK a.pa k b j);rw[bC _ _ e,bC _ _ e,bC _ _ e,bC _ _ e];exact(K.rp j hj (by omega)).mono hm
theorem fD.zE{b:qo}(h:fD w wb C aZ nd m t sh f (G x) a)(hx:ey w' a.db a.wR C 0 y b)(hs:Sub (a.da.F a.db x) (b.F a.db y) w w'):
 fD w' wb C aZ nd m t sh f (G y) {a with da:=b}/\Sub (a.F wb (G x)) (eL.F {a with da:=b} wb (G y)) w w':=by
 have hp:=qe0 (wb:=wb) (x:=x) a;have K:=h.oC 7 (by rw[hp];exact hs.ch);obtain⟨h1,h2⟩:=h.iu.tC (P':=eL.P {a with da:=b} wb (G y)) 7 (by rw[hp];exact hs) hx.fC (λn g hg=>by
  match n,hg with
  |0,hg|1,hg|2,hg|3,hg|4,hg|5,hg|6,hg=>exact⟨λe=>by omega,λ_=>hg⟩
  |7,⟨z,h1,h2⟩=>injection h1 with h1;subst h1;exact⟨λ_=>h2,λe=>(e rfl).elim⟩
  |n+8,hg=>exact⟨λe=>by omega,λ_=>hg⟩)
 exact⟨⟨K.aW (by omega),K.ig (by omega),K.xV (by omega),K.xW (by omega),K.rr (by omega) (by omega),K.cls (by omega),h.pl,λj hj=>K.gr j hj (by omega),λj hj=>K.rp j hj (by omega),λz hz=>by injection hz with hz;subst hz;exact hx,h1,h.ns,h.ord⟩,h2⟩
theorem fD.S8{A:Option Addr}{n c:Nat}(h:fD w wb C aZ nd m t sh f d a)(ho:aZ<10->A=U/\n=0/\c=0):fD (w.setCell ⟨wb,5,U⟩ (T A n c)) wb C aZ nd m t sh f d {a with oA:=A,on:=n,oc:=c}/\Sub (a.F wb d) (eL.F {a with oA:=A,on:=n,oc:=c} wb d) w (w.setCell ⟨wb,5,U⟩ (T A n c)):=by
 have hC:Ch (a.P wb d 0) w (w.setCell ⟨wb,5,U⟩ (T A n c)):=(Ch.r (λg=>g=wb) w).setCell (p:=⟨wb,5,U⟩) (.inl rfl) _;have K:=h.oC 0 hC;have hb:aX (w.setCell ⟨wb,5,U⟩ (T A n c)) wb 91 (Vg C {a with oA:=A,on:=n,oc:=c} d):=bu (h.aW.bm 5 (T A n c)) (by simp);have hP:eL.P {a with oA:=A,on:=n,oc:=c} wb d=a.P wb d:=by
  funext i g
  match i with
  |0|1|2|3|4|5|6|7|i+8=>rfl
 refine⟨⟨hb,K.ig (by omega),K.xV (by omega),K.xW (by omega),K.rr (by omega) (by omega),K.cls (by omega),h.pl,λj hj=>K.gr j hj (by omega),λj hj=>K.rp j hj (by omega),K.dr (by omega),?_,h.ns,ho⟩,?_⟩
 ·rw[hP];exact h.iu.mono hC.size
 ·unfold eL.F;rw[hP];exact⟨hC.mono (λg hg=>⟨0,hg⟩),λg hg=>.inl hg⟩
structure WoC(w:aw)(wb:Nat)(C:Cf)(d:Option eF)(a:eL)(g p:Nat):Prop where
 w0:w.cell? ⟨wb,0,U⟩=G (X (G ⟨a.wR,0,U⟩))
 w2:w.cell? ⟨wb,2,U⟩=G (T (G ⟨g,0,U⟩) 2 a.gc)
 w3:w.cell? ⟨wb,3,U⟩=G (T (G ⟨p,0,U⟩) 2 a.pc)
 w4:w.cell? ⟨wb,4,U⟩=G (T a.cA (JT d) a.cc)
 w5:w.cell? ⟨wb,5,U⟩=G (T a.oA a.on a.oc)
 g0: ∀k:Nat,k<2->w.cell? ⟨g,k,U⟩=G (X (G ⟨a.gb k,0,U⟩))
 p0: ∀k:Nat,k<2->w.cell? ⟨p,k,U⟩=G (T (G ⟨a.rr k,0,U⟩) 1 1)
 r0: ∀k:Nat,k<2->w.cell? ⟨a.rr k,0,U⟩=G (X (G ⟨a.pb k,0,U⟩))
theorem fD.j7(h:fD w wb C aZ nd m t sh f d a): ∃g p,a.gA=G ⟨g,0,U⟩/\a.pA=G ⟨p,0,U⟩/\g<w.heap.size/\p<w.heap.size:=by
 obtain⟨g,c1,hv,_,CQ⟩:=h.xV.form (by omega);obtain⟨p,c2,Ws,_,PB⟩:=h.xW.form (by omega);injection hv with hA _ _;injection Ws with hB _ _;exact⟨g,p,hA,hB,CQ,PB⟩
theorem fD.fW(h:fD w wb C aZ nd m t sh f d a){g p:Nat}(hA:a.gA=G ⟨g,0,U⟩)(hB:a.pA=G ⟨p,0,U⟩):WoC w wb C d a g p:=by
 obtain⟨b,off,e,_,hc⟩:=(Rd.own h.xV) (by simp);rw[hA]at e;injection e with e;injection e with e1 e2;subst e1 e2;obtain⟨b,off,e,_,OT⟩:=(Rd.own h.xW) (by simp);rw[hB]at e;injection e with e;injection e with e1 e2;subst e1 e2;refine⟨h.aW.c 0,by rw[<-hA];exact h.aW.c 2,by rw[<-hB];exact h.aW.c 3,h.aW.c 4,h.aW.c 5,λk hk=>?_,λk hk=>?_,λk hk=>(h.rr k hk).c 0⟩
 ·match k,hk with
  |0,_=>simpa using hc 0 _ rfl
  |1,_=>simpa using hc 1 _ rfl
 ·match k,hk with
  |0,_=>simpa using OT 0 _ rfl
  |1,_=>simpa using OT 1 _ rfl
theorem fD.WB(h:fD w wb C aZ nd m t sh f (G x) a): ∃q,a.cA=G ⟨q,0,U⟩/\q<w.heap.size/\w.cell? ⟨q,0,U⟩=G (X (G ⟨a.db,0,U⟩)):=by
 obtain⟨q,c1,hv,_,hl⟩:=h.cls.form (by show 0<1;omega);injection hv with hA _ _;obtain⟨b,off,e,_,hc⟩:=(Rd.own h.cls) (by simp[Vf]);rw[hA]at e;injection e with e;injection e with e1 e2;subst e1 e2;exact⟨q,hA,hl,by simpa using hc 0 _ rfl⟩
end
section
variable{w w':aw}{wb aZ nd k:Nat}{C:Cf}{m:Nat->Md}{t:Nat->Nat}{sh:Nat->dm}{f:Nat->Int->Option (bQ×dh)}{d:Option eF}{x:eF}{a:eL}
theorem B4(h:fD w wb C aZ nd m t sh f d a):ax av 92 #[X (G ⟨wb,0,U⟩)] w λe w'=>e=ay (I J (JT d:Nat))/\w=w':=by
 have x4:w.cell? ⟨wb,4,U⟩=G (T a.cA (JT d) a.cc):=h.aW.c 4;have xl:=h.aW.lt;clear h;go_enter func92,ntmps92;go_wp2_with fail;go_ret;exact⟨rfl,rfl⟩
theorem Rx(h:fD w wb C aZ nd m t sh f d a):ax av 172 #[X (G ⟨wb,0,U⟩)] w λe w'=>e=ay (I J 2)/\w=w':=by
 have x2:=h.aW.c 2;have xl:=h.aW.lt;clear h;go_enter func172,ntmps172;go_wp2_with fail;go_ret;exact⟨rfl,rfl⟩
theorem Yu(h:fD w wb C aZ nd m t sh f d a):ax av 136 #[X (G ⟨wb,0,U⟩),I J 0] w λe w'=>e=ay (Y true)/\w=w':=by
 obtain⟨g,p,hA,hB,hg,hp⟩:=h.j7;have S:=h.fW hA hB;have x3:=S.w3;have p0:=S.p0 0 (by omega);have xl:=h.aW.lt;clear h S;go_enter func136,ntmps136;go_wp2_with fail;go_ret;exact⟨rfl,rfl⟩
theorem isW(h:fD w wb C aZ nd m t sh f (G x) a):ax av 53 #[X (G ⟨wb,0,U⟩),I J 0] w λe w'=>e=ay (Y true)/\w=w':=by
 have x4:w.cell? ⟨wb,4,U⟩=G (T a.cA 1 a.cc):=h.aW.c 4;have xl:=h.aW.lt;clear h;go_enter func53,ntmps53;go_wp2_with fail;go_ret;exact⟨rfl,rfl⟩
theorem Er(h:fD w wb C aZ nd m t sh f (G x) a):ax av 19 #[X (G ⟨wb,0,U⟩),I J 0] w λe w'=>e=ay (I J (if x.ph=8 then x.o else 1))/\w=w':=by
 have HI:=O (isW h);have HS:=O (xR (h.dr x rfl));obtain⟨q,hq,Jx,y0⟩:=h.WB;have x4:w.cell? ⟨wb,4,U⟩=G (T (G ⟨q,0,U⟩) 1 a.cc):=by rw[<-hq];exact h.aW.c 4
 have xl:=h.aW.lt;clear h hq;generalize(if x.ph=8 then x.o else 1)=r at *;go_enter func19,ntmps19;go_wp2_with fail;refine HI.o.mono ?_;rintro e w2 ⟨rfl,rfl⟩;dsimp only;go_wp2_with fail;refine HS.o.mono ?_;rintro e w2 ⟨rfl,rfl⟩;dsimp only;go_wp2_with fail;go_ret;exact⟨rfl,rfl⟩
theorem Vl(h:fD w wb C aZ nd m t sh f (G x) a)(h8:x.ph=8)(ho:x.o=2):ax av 49 #[X (G ⟨wb,0,U⟩)] w λe w'=>e=ay (T U 0 0)/\w=w':=by
 have HC:=O (show ax av 92 #[X (G ⟨wb,0,U⟩)] w (λe w'=>e=ay (I J 1)/\w=w')from B4 h);have HS:=O (Er h);rw[if_pos h8,ho]at HS;clear h h8 ho;go_enter func49,ntmps49;go_wp2_with fail;refine HC.o.mono ?_;rintro e w2 ⟨rfl,rfl⟩;dsimp only;go_wp2_with fail
 go_loop[3,7] (λv iv=>v=T U 0 0/\(iv=I J 0\/iv=I J 1)) (λ_ iv=>(1-intOf iv).toNat)
 case atStart=>exact⟨rfl,.inl rfl⟩
 case round=>
  obtain⟨rfl,rfl|rfl⟩:=hrel
  ·go_wp2_with fail;refine HS.o.mono ?_;rintro e w2 ⟨rfl,rfl⟩;dsimp only;go_wp2_with fail
   go_round
   case rel=>exact⟨rfl,.inr rfl⟩
   case measure=>simp[intOf]
  ·go_wp2_with fail;go_ret;exact⟨rfl,rfl⟩
theorem Yv(h:fD w wb C aZ nd m t sh f d a)(hk:k<2):ax av 104 #[X (G ⟨wb,0,U⟩),I J (k:Nat)] w λe w'=>e=ay (X (G ⟨a.pb k,0,U⟩))/\w=w':=by
 have HS:=O (Rx h);obtain⟨g,p,hA,hB,hg,hp⟩:=h.j7;have S:=h.fW hA hB;have x3:=S.w3;have p0:=S.p0 k hk;have r0:=S.r0 k hk;have rl:=(h.rr k hk).lt;have xl:=h.aW.lt;have jq:(k:Int)<2:=by omega
 clear h S;go_enter func104,ntmps104;go_wp2_with fail;refine HS.o.mono ?_;rintro e w2 ⟨rfl,rfl⟩;dsimp only;go_wp2_with fail
 go_loop[5,24] (λv iv=>(v=X U/\iv=I J 0)\/(v=X (G ⟨a.pb k,0,U⟩)/\iv=I J 1)) (λ_ iv=>(1-intOf iv).toNat)
 case atStart=>exact .inl ⟨rfl,rfl⟩
 case round=>
  rcases hrel with⟨rfl,rfl⟩|⟨rfl,rfl⟩
  ·go_wp2_with fail
   go_round
   case rel=>exact .inr ⟨rfl,rfl⟩
   case measure=>simp[intOf]
  ·go_wp2_with fail;go_ret;exact⟨rfl,rfl⟩
theorem atW(h:fD w wb C aZ nd m t sh f d a)(hk:k<2):ax av 52 #[X (G ⟨wb,0,U⟩),I J (k:Nat)] w λe w'=>e=ay (X (G ⟨(a.pa k).sb,0,U⟩))/\w=w':=by
 have HB:=O (Yv h hk);have HS:=O (uO (h.rp k hk));clear h hk;go_enter func52,ntmps52;go_wp2_with fail;refine HB.o.mono ?_;rintro e w2 ⟨rfl,rfl⟩;dsimp only;go_wp2_with fail;refine HS.o.mono ?_;rintro e w2 ⟨rfl,rfl⟩;dsimp only;go_wp2_with fail;go_ret;exact⟨rfl,rfl⟩
end
section
variable{w w':aw}{wb aZ nd k:Nat}{C:Cf}{m:Nat->Md}{t:Nat->Nat}{sh:Nat->dm}{f:Nat->Int->Option (bQ×dh)}{d:Option eF}{x:eF}{a:eL}
theorem IL(w:aw)(z:Int):Reads (w.alloc (az #[I J z] 3)) (w.heap.size+1) 1 (G ⟨w.heap.size,0,U⟩) 1 [I J z]:=by
 have:=cD w 3 #[I J z] 1 1 rfl;simpa using this
theorem Vm(h:fD w wb C aZ nd m t sh f (G x) a)(h8:x.ph≠8):ax av 49 #[X (G ⟨wb,0,U⟩)] w λe w'=>∃q c,e=ay (T (G ⟨q,0,U⟩) 1 c)/\w'.cell? ⟨q,0,U⟩=G (I J 0)/\w.heap.size<=q/\q<w'.heap.size/\M w w':=by
 have HC:=O (show ax av 92 #[X (G ⟨wb,0,U⟩)] w (λe w'=>e=ay (I J 1)/\w=w')from B4 h);have HS:=O (Er h);rw[if_neg h8]at HS;obtain⟨i1,dX,er,eu,eK⟩:=info_parts ry;clear h h8;go_enter func49,ntmps49;go_wp2_with fail;refine HC.o.mono ?_;rintro e w2 ⟨rfl,rfl⟩;dsimp only;go_wp2_with fail
 go_loopw[3,7] (λv iv wr=>(v=T U 0 0/\iv=I J 0/\wr=w)\/(iv=I J 1/\M w wr/\∃A c,v=T A 1 c/\wr.ownsRow w.heap.size 3 1 v 1 [I J 0])) (λ_ iv _=>(1-intOf iv).toNat)
 case atStart=>exact .inl ⟨rfl,rfl,rfl⟩
 case round=>
  rcases hrel with⟨rfl,rfl,rfl⟩|⟨rfl,hN,A,c,rfl,ho⟩
  ·go_wp2_with fail;refine HS.o.mono ?_;rintro e w2 ⟨rfl,rfl⟩;dsimp only;go_wp2_with(first
    |(at_builtin
      refine bp _ rfl (.tmp 14) (.tmp 16) 40 rfl wr.heap.size 3 i1 _ 1 8 underlying40 dX er eu eK rfl (by omega) (T U 0 0) 0 [] rfl (World.ownsRow_nil _ _ _ _) (wr.heap.size+1) (G ⟨wr.heap.size,0,U⟩) 1 1 [I J 0] rfl (IL wr 0) (by simp[Value.oneCell']) (by unfold maxLen;omega) (by omega) (by simp) ?_;intro v' w' h1 h2 h3;obtain⟨A',c',rfl⟩:=bz h1;have HO:=O h1;have HG:=O (((Ch.r (λ_=>False) wr).alloc _).grown h2 (by intro k hk;cases hk));clear h1 h2 h3)
    |fail)
   refine⟨.inr ⟨rfl,HG.o,_,_,rfl,by simpa using HO.o⟩,by simp[intOf]⟩
  ·have HO:=O ho;have HN:=O hN;clear ho hN;go_wp2_with fail;go_ret;obtain⟨g,cap,hv,Oj,hlt⟩:=HO.o.form (by omega);injection hv with hA _ _;subst hA;obtain⟨b,off,e,_,hc⟩:=(Rd.own HO.o) (by simp);injection e with e;injection e with e1 e2;subst e1 e2;exact⟨g,c,rfl,by simpa using hc 0 _ rfl,Oj,hlt,HN.o⟩
end
section
variable{w w':aw}{wb pb aZ nd k:Nat}{C:Cf}{c:bQ}
theorem contains_nil(z:Int):ax av 202 #[T U 0 0,I J z] w λe w'=>e=ay (Y false)/\w=w':=by
 have HI:=O (show ax av 273 #[T U 0 0,I J z] w λe w'=>e=ay (I J (-1))/\w=w' from by
  go_enter func273,ntmps273;go_wp2_with fail
  go_loop[8] (λiv=>iv=I J 0) (λ_=>0)
  case atStart=>exact rfl
  case round=>
   subst hrel;go_wp2_with fail;go_ret;exact⟨rfl,rfl⟩)
 go_enter func202,ntmps202;go_wp2_with fail;refine HI.o.mono ?_;rintro e w2 ⟨rfl,rfl⟩;dsimp only;go_wp2_with fail;go_ret;exact⟨rfl,rfl⟩
theorem Es(tm:Int):ax av 135 #[X (G ⟨wb,0,U⟩),X (G ⟨pb,0,U⟩),aC #[I J tm,V ⟨#[]⟩]] w λe w'=>e=ay (aB #[])/\M w w':=by
 obtain⟨A,n,k,W,GF,hN,hR⟩:=p6 (w.alloc (az #[I J tm,V ⟨#[]⟩] 222)) (d:=⟨#[]⟩) (c:=oU) (y:=false) (.inr ⟨rfl,rfl,rfl⟩);have HR:=O hR;have HN:=O (((Ch.r (λ_=>False) w).alloc _).t hN);clear hR hN;go_enter func135,ntmps135;go_wp2_with fail;refine HR.o.mono ?_;rintro e w3 ⟨rfl,gZ⟩;dsimp only;have cE:=O (HN.o.t gZ);clear GF gZ;go_upto_region 2 with(fail);refine wp_region_held_drew (S:=(λw'=>True)) (by kernel_rfl) trivial (λLm=>?_);refine wpAnyH_take (i:=0) (v:=?_) rfl (by kernel_rfl) (by kernel_rfl) (by kernel_rfl) (λ_ _ _ h=>h) (Or.inl ⟨by rfl,?_⟩) (by trivial) ?_
 rotate_left 1
 ·(intro w kn;(try dsimp only at kn);go_simp)<;>with_reducible rfl
 try simp only[Act.put,aG,aH,aI,aF,aJ,aK]
 refine wpAnyH_take (i:=1) (v:=?_) rfl (by kernel_rfl) (by kernel_rfl) (by kernel_rfl) (λ_ _ _ h=>h) (Or.inl ⟨by rfl,?_⟩) (by trivial) ?_
 rotate_left 1
 ·(intro w kn;(try dsimp only at kn);go_simp)<;>with_reducible rfl
 try simp only[Act.put,aG,aH,aI,aF,aJ,aK]
 refine wpAnyH_take (i:=2) (v:=?_) rfl (by kernel_rfl) (by kernel_rfl) (by kernel_rfl) (λ_ _ _ h=>h) (Or.inl ⟨by rfl,?_⟩) (by trivial) ?_
 rotate_left 1
 ·(intro w kn;(try dsimp only at kn);go_simp)<;>with_reducible rfl
 try simp only[Act.put,aG,aH,aI,aF,aJ,aK]
 refine wpAnyH_take (i:=3) (v:=undef) rfl (by kernel_rfl) (by kernel_rfl) (by kernel_rfl) (λ_ _ _ h=>h) (Or.inr ⟨by rfl,rfl⟩) (by trivial) ?_
 try simp only[Act.put,aG,aH,aI,aF,aJ,aK]
 refine wpAnyH_take (i:=4) (v:=undef) rfl (by kernel_rfl) (by kernel_rfl) (by kernel_rfl) (λ_ _ _ h=>h) (Or.inr ⟨by rfl,rfl⟩) (by trivial) ?_
 try simp only[Act.put,aG,aH,aI,aF,aJ,aK]
 refine wpAnyH_take (i:=5) (v:=undef) rfl (by kernel_rfl) (by kernel_rfl) (by kernel_rfl) (λ_ _ _ h=>h) (Or.inr ⟨by rfl,rfl⟩) (by trivial) ?_
 try simp only[Act.put,aG,aH,aI,aF,aJ,aK]
 refine wpAnyH_take (i:=6) (v:=?_) rfl (by kernel_rfl) (by kernel_rfl) (by kernel_rfl) (λ_ _ _ h=>h) (Or.inl ⟨by rfl,?_⟩) (by trivial) ?_
 rotate_left 1
 ·(intro w kn;(try dsimp only at kn);go_simp)<;>with_reducible rfl
 try simp only[Act.put,aG,aH,aI,aF,aJ,aK]
 refine wpAnyH_take (i:=7) (v:=?_) rfl (by kernel_rfl) (by kernel_rfl) (by kernel_rfl) (λ_ _ _ h=>h) (Or.inl ⟨by rfl,?_⟩) (by trivial) ?_
 rotate_left 1
 ·(intro w kn;(try dsimp only at kn);go_simp)<;>with_reducible rfl
 try simp only[Act.put,aG,aH,aI,aF,aJ,aK]
 refine wpAnyH_take (i:=8) (v:=undef) rfl (by kernel_rfl) (by kernel_rfl) (by kernel_rfl) (λ_ _ _ h=>h) (Or.inr ⟨by rfl,rfl⟩) (by trivial) ?_
 try simp only[Act.put,aG,aH,aI,aF,aJ,aK]
 refine wpAnyH_take (i:=9) (v:=undef) rfl (by kernel_rfl) (by kernel_rfl) (by kernel_rfl) (λ_ _ _ h=>h) (Or.inr ⟨by rfl,rfl⟩) (by trivial) ?_
 try simp only[Act.put,aG,aH,aI,aF,aJ,aK]
 refine wpAnyH_take (i:=10) (v:=undef) rfl (by kernel_rfl) (by kernel_rfl) (by kernel_rfl) (λ_ _ _ h=>h) (Or.inr ⟨by rfl,rfl⟩) (by trivial) ?_
 try simp only[Act.put,aG,aH,aI,aF,aJ,aK]
 refine wpAnyH_take (i:=11) (v:=undef) rfl (by kernel_rfl) (by kernel_rfl) (by kernel_rfl) (λ_ _ _ h=>h) (Or.inr ⟨by rfl,rfl⟩) (by trivial) ?_
 try simp only[Act.put,aG,aH,aI,aF,aJ,aK]
 refine wpAnyH_take (i:=12) (v:=undef) rfl (by kernel_rfl) (by kernel_rfl) (by kernel_rfl) (λ_ _ _ h=>h) (Or.inr ⟨by rfl,rfl⟩) (by trivial) ?_
 try simp only[Act.put,aG,aH,aI,aF,aJ,aK]
 refine wpAnyH_take (i:=13) (v:=undef) rfl (by kernel_rfl) (by kernel_rfl) (by kernel_rfl) (λ_ _ _ h=>h) (Or.inr ⟨by rfl,rfl⟩) (by trivial) ?_
 try simp only[Act.put,aG,aH,aI,aF,aJ,aK]
 refine wpAnyH_take (i:=14) (v:=undef) rfl (by kernel_rfl) (by kernel_rfl) (by kernel_rfl) (λ_ _ _ h=>h) (Or.inr ⟨by rfl,rfl⟩) (by trivial) ?_
 try simp only[Act.put,aG,aH,aI,aF,aJ,aK]
 refine wpAnyH_take (i:=15) (v:=?_) rfl (by kernel_rfl) (by kernel_rfl) (by kernel_rfl) (λ_ _ _ h=>h) (Or.inl ⟨by rfl,?_⟩) (by trivial) ?_
 rotate_left 1
 ·(intro w kn;(try dsimp only at kn);go_simp)<;>with_reducible rfl
 try simp only[Act.put,aG,aH,aI,aF,aJ,aK]
 refine wpAnyH_done (by kernel_rfl) ?_ _;go_wp2_with fail
 first|go_end0|(simp only[Exit.inBlock,Exit.then];refine aE (results_none rfl _ _ _) rfl ?_)|refine aE (results_none rfl _ _ _) rfl ?_
 exact⟨rfl,(cE.o.alloc _).drew⟩
theorem Et(hc:yR c)(h5:c.kind≠5)(tm:Int):ax av 135 #[X (G ⟨wb,0,U⟩),X (G ⟨pb,0,U⟩),aC #[I J tm,V (gJ (enc c))]] w λe w'=>e=ay (aB #[])/\M w w':=by
 obtain⟨A,n,k,W,GF,hN,hR⟩:=p6 (w.alloc (az #[I J tm,V (gJ (enc c))] 222)) (d:=gJ (enc c)) (c:=c) (y:=true) (.inl ⟨rfl,hc,rfl⟩);have HR:=O hR;have HN:=O (((Ch.r (λ_=>False) w).alloc _).t hN);have hk5:(c.kind !=5)=true:=bne_iff_ne.2 h5;clear hR hN h5 hc;go_enter func135,ntmps135;go_wp2_with fail;refine HR.o.mono ?_;rintro e w3 ⟨rfl,gZ⟩;dsimp only;have cE:=O (HN.o.t gZ);clear GF gZ;obtain⟨kd,tx,aS,st,op,key,val,mode,yes⟩:=c;dsimp only at *;go_upto_region 2 with(fail);have iq:=O (aX.new w3 60 (bN ⟨kd,tx,aS,st,op,key,val,mode,yes⟩)).drew;refine wp_region_held_drew (S:=(λw'=>w'.cell? ⟨w3.heap.size,0,U⟩=G (I J kd))) (by kernel_rfl) (iq.o.c 0) (λLm=>?_);refine wpAnyH_take (i:=0) (v:=?_) rfl (by kernel_rfl) (by kernel_rfl) (by kernel_rfl) (λ_ _ _ h=>h) (Or.inl ⟨by rfl,?_⟩) (by trivial) ?_
 rotate_left 1
 ·(intro w kn;(try dsimp only at kn);go_simp)<;>with_reducible rfl
 try simp only[Act.put,aG,aH,aI,aF,aJ,aK]
 refine wpAnyH_take (i:=1) (v:=?_) rfl (by kernel_rfl) (by kernel_rfl) (by kernel_rfl) (λ_ _ _ h=>h) (Or.inl ⟨by rfl,?_⟩) (by trivial) ?_
 rotate_left 1
 ·(intro w kn;(try dsimp only at kn);go_simp)<;>with_reducible rfl
 try simp only[Act.put,aG,aH,aI,aF,aJ,aK]
 refine wpAnyH_take (i:=2) (v:=?_) rfl (by kernel_rfl) (by kernel_rfl) (by kernel_rfl) (λ_ _ _ h=>h) (Or.inl ⟨by rfl,?_⟩) (by trivial) ?_
 rotate_left 1
 ·(intro w kn;(try dsimp only at kn);go_simp)<;>with_reducible rfl
 try simp only[Act.put,aG,aH,aI,aF,aJ,aK]
 refine wpAnyH_take (i:=3) (v:=?_) rfl (by kernel_rfl) (by kernel_rfl) (by kernel_rfl) (λ_ _ _ h=>h) (Or.inl ⟨by rfl,?_⟩) (by trivial) ?_
 rotate_left 1
 ·(intro w kn;(try dsimp only at kn);go_simp)<;>with_reducible rfl
 try simp only[Act.put,aG,aH,aI,aF,aJ,aK]
 refine wpAnyH_take (i:=4) (v:=?_) rfl (by kernel_rfl) (by kernel_rfl) (by kernel_rfl) (λ_ _ _ h=>h) (Or.inl ⟨by rfl,?_⟩) (by trivial) ?_
 rotate_left 1
 ·(intro w kn;(try dsimp only at kn);go_simp)<;>with_reducible rfl
 try simp only[Act.put,aG,aH,aI,aF,aJ,aK]
 refine wpAnyH_take (i:=5) (v:=?_) rfl (by kernel_rfl) (by kernel_rfl) (by kernel_rfl) (λ_ _ _ h=>h) (Or.inl ⟨by rfl,?_⟩) (by trivial) ?_
 rotate_left 1
 ·(intro w kn;(try dsimp only at kn);go_simp)<;>with_reducible rfl
 try simp only[Act.put,aG,aH,aI,aF,aJ,aK]
 refine wpAnyH_take (i:=6) (v:=?_) rfl (by kernel_rfl) (by kernel_rfl) (by kernel_rfl) (λ_ _ _ h=>h) (Or.inl ⟨by rfl,?_⟩) (by trivial) ?_
 rotate_left 1
 ·(intro w kn;(try dsimp only at kn);go_simp)<;>with_reducible rfl
 try simp only[Act.put,aG,aH,aI,aF,aJ,aK]
 refine wpAnyH_take (i:=7) (v:=?_) rfl (by kernel_rfl) (by kernel_rfl) (by kernel_rfl) (λ_ _ _ h=>h) (Or.inl ⟨by rfl,?_⟩) (by trivial) ?_
 rotate_left 1
 ·(intro w kn;(try dsimp only at kn);go_simp)<;>with_reducible rfl
 try simp only[Act.put,aG,aH,aI,aF,aJ,aK]
 refine wpAnyH_take (i:=8) (v:=undef) rfl (by kernel_rfl) (by kernel_rfl) (by kernel_rfl) (λ_ _ _ h=>h) (Or.inr ⟨by rfl,rfl⟩) (by trivial) ?_
 try simp only[Act.put,aG,aH,aI,aF,aJ,aK]
 refine wpAnyH_take (i:=9) (v:=undef) rfl (by kernel_rfl) (by kernel_rfl) (by kernel_rfl) (λ_ _ _ h=>h) (Or.inr ⟨by rfl,rfl⟩) (by trivial) ?_
 try simp only[Act.put,aG,aH,aI,aF,aJ,aK]
 refine wpAnyH_take (i:=10) (v:=undef) rfl (by kernel_rfl) (by kernel_rfl) (by kernel_rfl) (λ_ _ _ h=>h) (Or.inr ⟨by rfl,rfl⟩) (by trivial) ?_
 try simp only[Act.put,aG,aH,aI,aF,aJ,aK]
 refine wpAnyH_take (i:=11) (v:=undef) rfl (by kernel_rfl) (by kernel_rfl) (by kernel_rfl) (λ_ _ _ h=>h) (Or.inr ⟨by rfl,rfl⟩) (by trivial) ?_
 try simp only[Act.put,aG,aH,aI,aF,aJ,aK]
 refine wpAnyH_take (i:=12) (v:=undef) rfl (by kernel_rfl) (by kernel_rfl) (by kernel_rfl) (λ_ _ _ h=>h) (Or.inr ⟨by rfl,rfl⟩) (by trivial) ?_
 try simp only[Act.put,aG,aH,aI,aF,aJ,aK]
 refine wpAnyH_take (i:=13) (v:=undef) rfl (by kernel_rfl) (by kernel_rfl) (by kernel_rfl) (λ_ _ _ h=>h) (Or.inr ⟨by rfl,rfl⟩) (by trivial) ?_
 try simp only[Act.put,aG,aH,aI,aF,aJ,aK]
 refine wpAnyH_take (i:=14) (v:=undef) rfl (by kernel_rfl) (by kernel_rfl) (by kernel_rfl) (λ_ _ _ h=>h) (Or.inr ⟨by rfl,rfl⟩) (by trivial) ?_
 try simp only[Act.put,aG,aH,aI,aF,aJ,aK]
 refine wpAnyH_take (i:=15) (v:=?_) rfl (by kernel_rfl) (by kernel_rfl) (by kernel_rfl) (λ_ _ _ h=>h) (Or.inl ⟨by rfl,?_⟩) (by trivial) ?_
 rotate_left 1
 ·(intro w kn;(try dsimp only at kn);go_simp)<;>with_reducible rfl
 try simp only[Act.put,aG,aH,aI,aF,aJ,aK]
 refine wpAnyH_done (by kernel_rfl) ?_ _;go_wp2_with fail
 first|go_end0|(simp only[Exit.inBlock,Exit.then];refine aE (results_none rfl _ _ _) rfl ?_)|refine aE (results_none rfl _ _ _) rfl ?_
 exact⟨rfl,(cE.o.alloc _).drew⟩
end
def M9(w:aw)(wb:Nat)(C:Cf)(aZ nd:Nat)(m:Nat->Md)(t:Nat->Nat)(sh:Nat->dm)(f:Nat->Int->Option (bQ×dh))(d:Option eF)(a:eL)(e:Ending)(w':aw):Prop:=
 e=ay (aB #[])/\∃A n c,fD w' wb C aZ nd m t sh f d {a with oA:=A,on:=n,oc:=c}/\Sub (a.F wb d) (eL.F {a with oA:=A,on:=n,oc:=c} wb d) w w'
def Ry(w:aw)(z:Nat)(r:cz):aw:=((((w.setCell ⟨z,0,U⟩ (I J r.tx)).setCell ⟨z,1,U⟩ (I J r.aS)).setCell ⟨z,2,U⟩ (I J r.aY)).setCell ⟨z,3,U⟩ (I J r.state)).setCell ⟨z,4,U⟩ (I J r.heard)
theorem zG(w:aw)(z:Nat)(r:cz):Ch (λk=>k=z) w (Ry w z r):=
 (((((Ch.r (λk=>k=z) w).setCell (p:=⟨z,0,U⟩) (.inl rfl) _).setCell (p:=⟨z,1,U⟩) (.inl rfl) _).setCell (p:=⟨z,2,U⟩) (.inl rfl) _).setCell (p:=⟨z,3,U⟩) (.inl rfl) _).setCell (p:=⟨z,4,U⟩) (.inl rfl) _
theorem Na{w:aw}{z:Nat}{t:TypeId}{a b c d e:Value}(h:aX w z t #[a,b,c,d,e])(r:cz):aX (Ry w z r) z t #[I J r.tx,I J r.aS,I J r.aY,I J r.state,I J r.heard]:=((((h.bm 0 _).bm 1 _).bm 2 _).bm 3 _).bm 4 _
def Eu(w:aw)(qb:Nat)(r:cz)(fo:Bool)(c:bQ)(s u:Value)(wx:aw):Prop:=
 ∃z,s=X (G ⟨z,0,U⟩)/\u=Y fo/\M w wx/\aX wx z 186 #[I J r.tx,I J r.aS,I J r.aY,I J r.state,I J r.heard]/\aX wx qb 60 (bN c)
theorem Yw{w w6:aw}{qb:Nat}{r:cz}{fo:Bool}{c:bQ}(hN:M w w6)(hq:aX w6 qb 60 (bN c)):Eu w qb r fo c (X (G ⟨w6.heap.size,0,U⟩)) (Y fo) (w6.alloc (az #[I J r.tx,I J r.aS,I J r.aY,I J r.state,I J r.heard] 186)):=
 ⟨_,rfl,rfl,hN.alloc _,aX.new w6 186 _,hq.alloc _⟩
theorem Yx{w w6:aw}{qb z:Nat}{r:cz}{fo:Bool}{c:bQ}{x0 x1 x2 x3 x4:Value}(hN:M w w6)(hq:aX w6 qb 60 (bN c))(hz:aX w6 z 186 #[x0,x1,x2,x3,x4])(hw:w.heap.size<=z):Eu w qb r fo c (X (G ⟨z,0,U⟩)) (Y fo) (Ry w6 z r):=
 ⟨z,rfl,rfl,hN.trans (zG _ _ _) (λk e=>.inr (by rw[e];exact hw)),Na hz r,hq.ch (zG _ _ _) (λe=>hq.lF hz (by decide) e)⟩
section
variable{w w':aw}{wb aZ nd k:Nat}{C:Cf}{m:Nat->Md}{t:Nat->Nat}{sh:Nat->dm}{f:Nat->Int->Option (bQ×dh)}{d:Option eF}{a:eL}{c:bQ}
theorem M9.bj(h:fD w wb C aZ nd m t sh f d a)(hN:M w w'):M9 w wb C aZ nd m t sh f d a (ay (aB #[])) w':=⟨rfl,a.oA,a.on,a.oc,h.aR hN,Sub.bj _ hN⟩
theorem M9.qe1{A:Option Addr}{n q:Nat}(h:fD w wb C aZ nd m t sh f d a)(hg:10<=aZ)(hN:M w w'):M9 w wb C aZ nd m t sh f d a (ay (aB #[])) (w'.setCell ⟨wb,5,U⟩ (T A n q)):=
 ⟨rfl,A,n,q,((h.aR hN).S8 (λe=>by omega)).1,(Sub.bj _ hN).trans ((h.aR hN).S8 (λe=>by omega)).2⟩
theorem Rz(h:fD w wb C aZ nd m t sh f d a)(hk:k<2)(hc:yR c)(h5:c.kind=5)(ho:a.oA=U/\a.on=0/\a.oc=0)(hg:10<=aZ)(tm:Int):
 ax av 135 #[X (G ⟨wb,0,U⟩),X (G ⟨a.pb k,0,U⟩),aC #[I J tm,V (gJ (enc c))]] w (M9 w wb C aZ nd m t sh f d a):=by
 obtain⟨A,n,k',W,GF,hN,hR⟩:=p6 (w.alloc (az #[I J tm,V (gJ (enc c))] 222)) (d:=gJ (enc c)) (c:=c) (y:=true) (.inl ⟨rfl,hc,rfl⟩);have HR:=O hR;have HN:=O (((Ch.r (λ_=>False) w).alloc _).t hN);have HH:=O h;have HK:=O hk;have HO:=O ho;have qe2:=O hg;have GN:=O (λ(w:aw)=>contains_nil (w:=w) c.tx);have HSR:=O (λw' (hN:M w w')=>uO ((h.aR hN).rp k hk));have tX:=O (λw' (hN:M w w')=>pW ((h.aR hN).rp k hk).sh c.tx);obtain⟨r,hr⟩:=bG (((sh k).rows c.tx).getD qS);obtain⟨fo,Yy⟩:=bG (((sh k).rows c.tx).isSome);rw[hr,Yy]at tX;obtain⟨i1,dX,er,eu,eK⟩:=info_parts ry;clear hR hN hc h hk ho hr Yy hg;go_enter func135,ntmps135;go_wp2_with fail;refine HR.o.mono ?_;rintro e w3 ⟨rfl,gZ⟩;dsimp only;have cE:=O (HN.o.t gZ);clear GF gZ;obtain⟨kd,tx,aS,st,op,key,val,mode,yes⟩:=c;dsimp only at *;subst h5;go_upto_region 2 with(fail);have dQ:=O (cE.o.alloc (az (bN ⟨5,tx,aS,st,op,key,val,mode,yes⟩) 60));have iq:=O (aX.new w3 60 (bN ⟨5,tx,aS,st,op,key,val,mode,yes⟩));change Code.wp _ _ _ _ (w3.alloc (az (bN ⟨5,tx,aS,st,op,key,val,mode,yes⟩) 60));generalize(w3.alloc (az (bN ⟨5,tx,aS,st,op,key,val,mode,yes⟩) 60))=w4 at *;generalize w3.heap.size=qb at *;have H4:=O (HH.o.aR dQ.o);have o5:w4.cell? ⟨wb,5,U⟩=G (T U 0 0):=by
  have:=H4.o.aW.c 5;rw[this];obtain⟨e1,e2,e3⟩:=HO.o;simp[e1,e2,e3]
 have lY:=O (show w4.cell? ⟨qb,0,U⟩=G (I J 5)/\w4.cell? ⟨qb,1,U⟩=G (I J tx)/\w4.cell? ⟨wb,5,U⟩=G (T U 0 0)from⟨iq.o.c 0,iq.o.c 1,o5⟩);have js:=O (show w4.drew.cell? ⟨qb,0,U⟩=G (I J 5)/\w4.drew.cell? ⟨qb,1,U⟩=G (I J tx)/\w4.drew.cell? ⟨wb,5,U⟩=G (T U 0 0)from lY.o);have⟨s0,s1,s2⟩:=lY.o;have wl:=H4.o.aW.lt;have ql:=iq.o.lt
 go_region_held3(λw'=>w'.cell? ⟨qb,0,U⟩=G (I J 5)/\w'.cell? ⟨qb,1,U⟩=G (I J tx)/\w'.cell? ⟨wb,5,U⟩=G (T U 0 0))
  (first|with_reducible exact js.o|fail)
  (first
    |(go_at_call 202;(with_reducible refine(GN.o _).mono ?_);rintro e w6 ⟨rfl,rfl⟩;dsimp only)
    |fail)
 go_upto_region 3 with(fail);clear s0 s1 s2 o5 lY js;have dB:=O (show M w w4.drew from dQ.o.drew);have Gk:=O (iq.o.drew);generalize w4.drew=w5 at *;have s1:=Gk.o.c 1;have pl:=((HH.o.aR dB.o).rp k HK.o).aW.lt;have ql:=Gk.o.lt;unfold uk at tX;have js:=O (show w5.drew.cell? ⟨qb,1,U⟩=G (I J tx)from Gk.o.c 1);have Uz:=O (λo=>show(w5.alloc o).cell? ⟨qb,1,U⟩=G (I J tx)from(Gk.o.alloc o).c 1);have xr:=O (λo=>show(w5.alloc o).drew.cell? ⟨qb,1,U⟩=G (I J tx)from(Gk.o.alloc o).drew.c 1);have UA:=O (λo=>show(w5.drew.alloc o).cell? ⟨qb,1,U⟩=G (I J tx)from(Gk.o.drew.alloc o).c 1);have N1:=O (show M w w5.drew from dB.o.drew);have N2:=O (λo=>show M w (w5.alloc o).drew from(dB.o.alloc o).drew);have N3:=O (λo=>show M w (w5.drew.alloc o)from dB.o.drew.alloc o)
 go_cut[8,9] (λs u wx=>Eu w qb r fo ⟨5,tx,aS,st,op,key,val,mode,yes⟩ s u wx)
 case first=>
  go_region_held3(λw'=>w'.cell? ⟨qb,1,U⟩=G (I J tx))
   (first|with_reducible exact js.o|with_reducible exact Uz.o _|with_reducible exact xr.o _|with_reducible exact UA.o _|with_reducible exact lJ.o|with_reducible exact Fi.o _|exact ZY.o|fail)
   (first
     |(go_at_call 105;(first
        |((with_reducible refine(HSR.o _ N1.o).mono ?_);rintro e w6 ⟨rfl,rfl⟩)
        |((with_reducible refine(HSR.o _ (N2.o _)).mono ?_);rintro e w6 ⟨rfl,rfl⟩)
        |((with_reducible refine(HSR.o _ (N3.o _)).mono ?_);rintro e w6 ⟨rfl,rfl⟩)
        |fail);dsimp only)
     |(go_at_call 107;(first
        |((with_reducible refine(tX.o _ N1.o).mono ?_);rintro e w6 ⟨rfl,kI⟩
          have DT:=O (show M w w6 from N1.o.t kI);have qI:=O (Gk.o.drew.ch kI (λh=>h)))
        |((with_reducible refine(tX.o _ (N2.o _)).mono ?_);rintro e w6 ⟨rfl,kI⟩
          have DT:=O (show M w w6 from(N2.o _).t kI);have qI:=O ((Gk.o.alloc _).drew.ch kI (λh=>h));have xX:=O ((aX.new w5 186 #[I J 0,I J 0,I J 0,I J 0,I J 0]).drew.ch kI (λh=>h)))
        |((with_reducible refine(tX.o _ (N3.o _)).mono ?_);rintro e w6 ⟨rfl,kI⟩
          have DT:=O (show M w w6 from(N3.o _).t kI);have qI:=O ((Gk.o.drew.alloc _).ch kI (λh=>h));have xX:=O ((aX.new w5.drew 186 #[I J 0,I J 0,I J 0,I J 0,I J 0]).ch kI (λh=>h)))
        |fail)
       dsimp only
       (try(have⟨z0,z1,z2,z3,z4⟩:=(show _/\_/\_/\_/\_ from⟨xX.o.c 0,xX.o.c 1,xX.o.c 2,xX.o.c 3,xX.o.c 4⟩)))
       (try(have zl:=xX.o.lt))
       (try(have zf:=xX.o.frozen))
       have s1:=qI.o.c 1;have lJ:=O (show w6.cell? ⟨qb,1,U⟩=G (I J tx)from qI.o.c 1)
       (try(have ZY:=O (show(Ry w6 w5.heap.size r).cell? ⟨qb,1,U⟩=G (I J tx)from(qI.o.ch (zG _ _ _) (λe=>qI.o.lF xX.o (by decide) e)).c 1)))
       have Fi:=O (λo=>show(w6.alloc o).cell? ⟨qb,1,U⟩=G (I J tx)from(qI.o.alloc o).c 1);clear kI)
     |fail)
  all_goals
   go_wp2_with fail;go_meet
   first|with_reducible exact Yw DT.o qI.o|exact Yx DT.o qI.o xX.o dB.o.size|fail
 case rest=>
  obtain⟨z,rfl,rfl,kI,Vn,S9⟩:=hcut;have ir:=O kI;have⟨z0,z1,z2,z3,z4⟩:=iP Vn;have zl:=Vn.lt;have qI:=O S9;have sJ:=O (HH.o.aR kI);have q1':=S9.c 1;have q2':=S9.c 2;clear kI Vn S9 s1;go_upto_region 5 with(fail)
  all_goals try
   (first|go_end0|(simp only[Exit.inBlock,Exit.then];refine aE (results_none rfl _ _ _) rfl ?_)|refine aE (results_none rfl _ _ _) rfl ?_)
   exact M9.bj HH.o ir.o
  have o5:wc.cell? ⟨wb,5,U⟩=G (T U 0 0):=by
   have:=sJ.o.aW.c 5;rw[this];obtain⟨e1,e2,e3⟩:=HO.o;simp[e1,e2,e3]
  have wl':=sJ.o.aW.lt;have ql':=qI.o.lt;have lG:=O (λ(W:aw) (hb:aX W wc.heap.size 3 #[I J tx])=>show Reads W (wc.heap.size+1) 1 (G ⟨wc.heap.size,0,U⟩) 1 [I J tx]from⟨rfl,λ_=>⟨_,rfl,by simp,λj u hu=>by
   rw[show(⟨wc.heap.size,0,U⟩:Addr).add j=⟨wc.heap.size,j,U⟩ by unfold Addr.add;split<;>simp_all,hb.c];simpa using hu⟩⟩)
  have sK:=O (λ(W w8:aw) (hC:M wc W) (hg:W.grownBy w8 (T U 0 0).ownBlock)=>show aX w8 wb 91 (Vg C a d)from
   (sJ.o.aW.ch hC (λh=>h)).grown hg (by intro e;cases e))
  have gI:=O (λ(W w8:aw) (hC:M wc W) (hg:W.grownBy w8 (T U 0 0).ownBlock)=>show M w w8 from
   (ir.o.t hC).grown hg (by intro k hk;cases hk))
  go_region_law((refine bL _ rfl (.tmp 58) (.tmp 61) 40 rfl 0 3 i1 _ 1 8 underlying40 dX er eu eK rfl (by omega) (T U 0 0) 0 [] (by simp[Act.eval]) (World.ownsRow_nil _ _ _ _) (wc.heap.size+1) (G ⟨wc.heap.size,0,U⟩) 1 1 [I J tx] (by simp[Act.eval]) (lG.o _ (by first|exact aX.new _ _ _|exact(aX.new _ _ _).drew)) (by simp[Value.oneCell']) (by simp only[maxLen];omega) (by omega) (Nat.zero_le _) ?_);intro v9 w9 cC gV fl;obtain⟨A9,c9,rfl⟩:=bz cC;have gj:=O (sK.o _ w9 (by first|exact((Ch.r _ wc).drew).alloc _|exact((Ch.r _ wc).alloc _).drew|exact(Ch.r _ wc).alloc _) gV);have IM:=O (gI.o _ w9 (by first|exact((Ch.r _ wc).drew).alloc _|exact((Ch.r _ wc).alloc _).drew|exact(Ch.r _ wc).alloc _) gV);have q0:=gj.o.c 5;have ql:=gj.o.lt;have qf:=gj.o.frozen 5;clear cC gV fl)
  all_goals
   go_wp2_with fail
   first|go_end0|(simp only[Exit.inBlock,Exit.then];refine aE (results_none rfl _ _ _) rfl ?_)|refine aE (results_none rfl _ _ _) rfl ?_
   exact M9.qe1 HH.o qe2.o IM.o
end
structure eL.same(a b:eL):Prop where
 wR:b.wR=a.wR
 gA:b.gA=a.gA
 gc:b.gc=a.gc
 pA:b.pA=a.pA
 pc:b.pc=a.pc
 rr:b.rr=a.rr
 cA:b.cA=a.cA
 cc:b.cc=a.cc
 gb:b.gb=a.gb
 pb:b.pb=a.pb
 db:b.db=a.db
theorem eL.same.rfl'(a:eL):a.same a:=⟨rfl,rfl,rfl,rfl,rfl,rfl,rfl,rfl,rfl,rfl,rfl⟩
theorem eL.same.trans{a b c:eL}(h:a.same b)(h':b.same c):a.same c:=⟨h'.1.trans h.1,h'.2.trans h.2,h'.3.trans h.3,h'.4.trans h.4,h'.5.trans h.5,h'.6.trans h.6,h'.7.trans h.7,h'.8.trans h.8,h'.9.trans h.9,h'.10.trans h.10,h'.11.trans h.11⟩
section
variable{w w':aw}{wb aZ cY nd k:Nat}{C:Cf}{m:Nat->Md}{t:Nat->Nat}{sh:Nat->dm}{f:Nat->Int->Option (bQ×dh)}{d:Option eF}{a:eL}{c:bQ}
theorem rX(h:fD w wb C aZ nd m t sh f d a)(hk:k<2)(ht:t k=(m k).log.length):ax av 82 #[X (G ⟨wb,0,U⟩),I J (k:Nat),I J 0] w λe w'=>e=ay (aB #[])/\w=w':=by
 obtain⟨r,hG,hc,_⟩:=(h.gr k hk).1.fW;have hl:=hG.node.log.len;have HN:=O (lq hG);have HC:=O (Bj hG.node (by rw[hc,hl]));have HA:=O (DR (h.rp k hk));rw[ht,hl]at HA;obtain⟨g,p,hA,hB,hg,hp⟩:=h.j7;have S:=h.fW hA hB;have x2:=S.w2;have x3:=S.w3;have g0:=S.g0 k hk;have p0:=S.p0 k hk;have r0:=S.r0 k hk;have rl:=(h.rr k hk).lt;have xl:=h.aW.lt;have jq:(k:Int)<2:=by omega
 have oV:=hG.node.log.fx;have jW:((a.ga k).n:Int)<=100:=by omega
 generalize(a.ga k).n=n at *;clear h hG S hc hl ht oV;go_enter func82,ntmps82;go_wp2_with fail;refine HN.o.mono ?_;rintro e w2 ⟨rfl,rfl⟩;dsimp only;go_wp2_with fail;refine HA.o.mono ?_;rintro e w2 ⟨rfl,rfl⟩;dsimp only;go_wp2_with fail;refine HC.o.mono ?_;rintro e w2 ⟨rfl,rfl⟩;dsimp only;go_wp2_with fail
 go_loop[67] (λiv=>iv=I J 0) (λ_=>0)
 case atStart=>exact rfl
 case round=>
  subst hrel;go_wp2_with fail
  first|go_end0|(simp only[Exit.inBlock,Exit.then];refine aE (results_none rfl _ _ _) rfl ?_)|refine aE (results_none rfl _ _ _) rfl ?_
  exact⟨rfl,rfl⟩
end
def Nb(w:aw)(wb:Nat)(C:Cf)(aZ nd:Nat)(m:Nat->Md)(t:Nat->Nat)(sh:Nat->dm)(f:Nat->Int->Option (bQ×dh))(d:Option eF)(a:eL)(d0:Option eF)(w':aw):Prop:=
 ∃a',fD w' wb C aZ nd m t sh f d a'/\Sub (a.F wb d0) (a'.F wb d) w w'/\a.same a'
section
variable{w w':aw}{wb aZ cY nd k:Nat}{C:Cf}{m:Nat->Md}{t:Nat->Nat}{sh:Nat->dm}{f:Nat->Int->Option (bQ×dh)}{d:Option eF}{a:eL}{c:bQ}
theorem B5{w3 W w6:aw}{pb u z:Nat}{K:ByteArray}{s:dm}{aa:Int->Option (bQ×dh)}{b:rC}{ty:TypeId}{cs:Array Value}(hR:Hv W pb K aZ u s aa b w6)(hM:M w3 W)(hb:aX w3 z ty cs)(hz: ¬b.F pb z):Hv w3 pb K aZ u s aa b w6/\aX w6 z ty cs:=by
 obtain⟨b',h1,h2⟩:=hR;exact⟨⟨b',h1,(Sub.bj _ hM).trans h2⟩,(hb.ch hM (λh=>h)).ch h2.ch hz⟩
theorem Nc(h:fD w wb C aZ nd m t sh f d a)(hk:k<2){tm:Int}{dt:ByteArray}(ht:t k+1=(m k).log.length)(zH:(m k).log[t k]?=G (tm,dt))(cp:aZ<=cY){s':dm}{f':Int->Option (bQ×dh)}
 (hd: ∀w b,ic w (a.pb k) C.key aZ (t k) (sh k) (f k) b->ax av 200 #[X (G ⟨a.pb k,0,U⟩),aC #[I J tm,V dt]] w λe w'=>e=ay (aB #[])/\Hv w (a.pb k) C.key cY (t k) s' f' b w')
 (hn: ∀w b,fD w wb C cY nd m (bK t k (t k+1)) (bK sh k s') (bK f k f') d b->a.same b->b.oA=a.oA/\b.on=a.on/\b.oc=a.oc->ax av 135 #[X (G ⟨wb,0,U⟩),X (G ⟨a.pb k,0,U⟩),aC #[I J tm,V dt]] w (M9 w wb C cY nd m (bK t k (t k+1)) (bK sh k s') (bK f k f') d b)):
 ax av 82 #[X (G ⟨wb,0,U⟩),I J (k:Nat),I J 0] w λe w'=>e=ay (aB #[])/\Nb w wb C cY nd m (bK t k (t k+1)) (bK sh k s') (bK f k f') d a d w':=by
 obtain⟨r,hG,hc,_⟩:=(h.gr k hk).1.fW;have hl:=hG.node.log.len;have Nf:=hG.node;obtain⟨au,hT⟩:=bG (t k);rw[hT]at ht zH hd;rw[<-hl.trans rfl, <-ht]at Nf;have HN:=O (lq hG);have HC:=O (LR Nf (by rw[hc, <-ht];rfl) zH);have HA:=O (λw' (hN:M w w')=>DR ((h.aR hN).rp k hk));rw[hT]at HA;obtain⟨g,p,hA,hB,hg,hp⟩:=h.j7;have S:=h.fW hA hB;have x2:=S.w2;have x3:=S.w3;have g0:=S.g0 k hk;have p0:=S.p0 k hk;have r0:=S.r0 k hk;have rl:=(h.rr k hk).lt;have xl:=h.aW.lt;have jq:(k:Int)<2:=by omega
 have oV:=hG.node.log.fx;have HTT:=O (show au<=100 by omega);have htI:(au:Int)<=100:=by omega
 have HH:=O h;have HK:=O hk;have HD:=O hd;have tJ:=O hn;have vx:=O hT;have HAG:=O cp;clear h hG S hc hl ht oV Nf hk hd hn zH hT cp;go_enter func82,ntmps82;go_wp2_with fail;refine HN.o.mono ?_;rintro e w2 ⟨rfl,rfl⟩;dsimp only;go_wp2_with fail;refine(HA.o _ (Ch.r _ _)).mono ?_;rintro e w2 ⟨rfl,ew⟩;subst w2;dsimp only;go_wp2_with fail;refine HC.o.mono ?_;rintro e w2 ⟨A2,c2,rfl,ho,iD⟩;obtain⟨q,cap,hv,ZB,hq2⟩:=ho.form (by omega);injection hv with hA2 _ _;subst hA2;obtain⟨b,off,e,_,Xi⟩:=(Rd.own ho) (by simp);injection e with e;injection e with e1 e2;subst e1 e2;have y0:w2.cell? ⟨q,0,U⟩=G (I J tm):=by simpa using Xi 0 _ rfl
 have y1:w2.cell? ⟨q,1,U⟩=G (V dt):=by simpa using Xi 1 _ rfl
 have bJ:=O iD;dsimp only;clear ho Xi iD x2 x3 g0 p0 r0 rl xl;go_wp2_with fail
 go_loopw[67] (λiv wr=>(iv=I J 0/\wr=w2)\/(iv=I J 1/\Nb w wb C cY nd m (bK t k (t k+1)) (bK sh k s') (bK f k f') d a d wr)) (λiv _=>1- (intOf iv).toNat)
 case atStart=>exact .inl ⟨rfl,rfl⟩
 case round=>
  rcases hrel with⟨rfl,rfl⟩|⟨rfl,hP⟩
  ·go_upto_region 9 with(fail);have fL:=O (aX.new wr 222 #[I J tm,V dt]);have cE:=O (show M w (wr.alloc (az #[I J tm,V dt] 222))from bJ.o.alloc _);change Code.wp _ _ _ _ (wr.alloc (az #[I J tm,V dt] 222));have HZ:=O bJ.o.size;generalize(wr.alloc (az #[I J tm,V dt] 222))=w3 at *;generalize wr.heap.size=z at *;have H3:=O (HH.o.aR cE.o);have⟨s0,s1⟩:=vS fL.o;have zl:=fL.o.lt;have pw:IntKind.i64.wrap ((au:Int)+1)=(au:Int)+1:=IntWalk.i64_in _ (by omega);have HZF:=O (show¬(a.pa k).F (a.pb k) z from λe=>absurd ((HH.o.rp k HK.o).fC _ e) (Nat.not_lt.2 HZ.o));have cZ:=O (λw' (y:aX w' z 222 #[I J tm,V dt])=>show w'.cell? ⟨z,0,U⟩=G (I J tm)/\w'.cell? ⟨z,1,U⟩=G (V dt)from⟨y.c 0,y.c 1⟩);have js:=O (cZ.o w3.drew fL.o.drew);have Uz:=O (λo=>cZ.o (w3.alloc o) (fL.o.alloc o));have xr:=O (λo=>cZ.o (w3.alloc o).drew (fL.o.alloc o).drew);have UA:=O (λo=>cZ.o (w3.drew.alloc o) (fL.o.drew.alloc o));have N1:=O (show M w w3.drew from cE.o.drew);have N2:=O (λo=>show M w (w3.alloc o).drew from(cE.o.alloc o).drew);have N3:=O (λo=>show M w (w3.drew.alloc o)from cE.o.drew.alloc o);have M2:=O (λo=>show M w3 (w3.alloc o).drew from((Ch.r _ w3).alloc o).drew);have M3:=O (λo=>show M w3 (w3.drew.alloc o)from((Ch.r _ w3).drew).alloc o);have gO:=O (λW q (hN:M w3 W) (hq:aX W q 222 #[I J tm,V dt])=>LF (k:=1) (((H3.o.rp k HK.o)).aR hN) (by rw[vx.o];exact HTT.o) (λw' hM=>HD.o w' _ (by rw[<-vx.o];exact hM)|>.mono λe eZ h=>by rw[vx.o];exact h) (hq.c 0) (hq.c 1));rw[vx.o]at gO
   go_cut[] (λwx=>Hv w3 (a.pb k) C.key cY (au+1) s' f' (a.pa k) wx/\aX wx z 222 #[I J tm,V dt])
   case first=>
    go_region_held3(λw'=>w'.cell? ⟨z,0,U⟩=G (I J tm)/\w'.cell? ⟨z,1,U⟩=G (V dt))
     (first|with_reducible exact js.o|with_reducible exact Uz.o _|with_reducible exact xr.o _|with_reducible exact UA.o _|with_reducible exact lJ.o|fail)
     (first
       |(go_at_call 133;(first
          |((with_reducible refine(HA.o _ N1.o).mono ?_);rintro e w6 ⟨rfl,rfl⟩)
          |((with_reducible refine(HA.o _ (N2.o _)).mono ?_);rintro e w6 ⟨rfl,rfl⟩)
          |((with_reducible refine(HA.o _ (N3.o _)).mono ?_);rintro e w6 ⟨rfl,rfl⟩)
          |fail);dsimp only)
       |(go_at_call 134;(first
          |((with_reducible refine(gO.o _ w3.heap.size (M2.o _) (aX.new w3 222 _).drew).mono ?_);rintro e w6 ⟨rfl,Ul⟩
            have tQ:=O (B5 Ul (M2.o _) fL.o HZF.o))
          |((with_reducible refine(gO.o _ w3.heap.size (M3.o _) (aX.new w3.drew 222 _)).mono ?_);rintro e w6 ⟨rfl,Ul⟩
            have tQ:=O (B5 Ul (M3.o _) fL.o HZF.o))
          |fail)
         dsimp only;clear Ul;have lJ:=O (cZ.o w6 tQ.o.2))
       |fail)
    all_goals
     go_wp2_with fail;go_meet;exact tQ.o
   case rest=>
    obtain⟨⟨b,hm,hs⟩,hz⟩:=hcut;have HU:=O ((HH.o.aR cE.o).Vk HK.o hm HAG.o hs);have HNT:=O (tJ.o wc {a with pa:=bK a.pa k b} (by rw[vx.o];exact HU.o.1) ⟨rfl,rfl,rfl,rfl,rfl,rfl,rfl,rfl,rfl,rfl,rfl⟩ ⟨rfl,rfl,rfl⟩);have⟨t0,t1⟩:=vS hz;have tl:=hz.lt;clear hm hs hz s0 s1 zl;go_wp2_with fail;refine HNT.o.mono ?_;rintro e w7 ⟨rfl,A7,n7,c7,hW7,Xs⟩;dsimp only;have HP:=O (show Nb w wb C cY nd m (bK t k (t k+1)) (bK sh k s') (bK f k f') d a d w7 from⟨_,hW7,((Sub.bj _ cE.o).trans HU.o.2).trans Xs,⟨rfl,rfl,rfl,rfl,rfl,rfl,rfl,rfl,rfl,rfl,rfl⟩⟩);clear hW7 Xs;go_wp2_with fail;exact⟨.inr ⟨rfl,HP.o⟩,by simp[intOf]⟩
  ·have HP:=O hP;clear hP;go_wp2_with fail
   first|go_end0|(simp only[Exit.inBlock,Exit.then];refine aE (results_none rfl _ _ _) rfl ?_)|refine aE (results_none rfl _ _ _) rfl ?_
   exact⟨rfl,HP.o⟩
end
structure WD where
 aZ:Nat
 t:Nat->Nat
 sh:Nat->dm
 f:Nat->Int->Option (bQ×dh)
def WoZ(w:aw)(wb:Nat)(C:Cf)(nd:Nat)(m:Nat->Md)(z:WD)(d:Option eF)(a:eL):Prop:=fD w wb C z.aZ nd m z.t z.sh z.f d a
section
variable{w w':aw}{wb aZ cY nd k:Nat}{C:Cf}{m:Nat->Md}{d:Option eF}{a:eL}{Z:Nat->WD}{Q:Nat->eL->Prop}
def Ng(w:aw)(wb:Nat)(C:Cf)(nd:Nat)(m:Nat->Md)(z:WD)(d:Option eF)(a:eL)(Q:eL->Prop)(w':aw):Prop:=
 ∃a',WoZ w' wb C nd m z d a'/\Sub (a.F wb d) (a'.F wb d) w w'/\a.same a'/\Q a'
theorem Ng.trans{z z':WD}{w1 w2:aw}{Q Q':eL->Prop}(h:Ng w wb C nd m z d a Q w1)(hs: ∀a1,WoZ w1 wb C nd m z d a1->Q a1->Ng w1 wb C nd m z' d a1 Q' w2):Ng w wb C nd m z' d a Q' w2:=by
 obtain⟨a1,h1,h2,h3,h4⟩:=h;obtain⟨a2,g1,g2,g3,g4⟩:=hs a1 h1 h4;exact⟨a2,g1,h2.trans g2,h3.trans g3,g4⟩
theorem xY(h:WoZ w wb C nd m (Z 0) d a)(hQ:Q 0 a)(hs: ∀k,k<2->∀w a,WoZ w wb C nd m (Z k) d a->Q k a->ax av 82 #[X (G ⟨wb,0,U⟩),I J (k:Nat),I J 0] w λe w'=>e=ay (aB #[])/\Ng w wb C nd m (Z (k+1)) d a (Q (k+1)) w'):
 ax av 44 #[X (G ⟨wb,0,U⟩)] w λe w'=>e=ay (aB #[])/\Ng w wb C nd m (Z 2) d a (Q 2) w':=by
 have HP:=O (show Ng w wb C nd m (Z 0) d a (Q 0) w from⟨a,h,Sub.refl _ _,eL.same.rfl' a,hQ⟩);obtain⟨g,p,hA,hB,hg,hp⟩:=h.j7;have S:=h.fW hA hB;have IP:=O (And.intro hA hB);have HS:=O hs;have x3:=S.w3;have xl:=h.aW.lt;clear h hQ hs S hA hB;go_enter func44,ntmps44;go_wp2_with fail
 go_loopw[10] (λiv wr=>∃k:Nat,k<=2/\iv=I J k/\Ng w wb C nd m (Z k) d a (Q k) wr) (λiv _=>2- (intOf iv).toNat)
 case atStart=>exact⟨0,by omega,rfl,HP.o⟩
 case round=>
  obtain⟨k,hk,rfl,hP⟩:=hrel;by_cases hlt:k<2
  ·obtain⟨a1,h1,OS,Vo,hq⟩:=hP;have S:=h1.fW (g:=g) (p:=p) (by rw[Vo.gA];exact IP.o.1) (by rw[Vo.pA];exact IP.o.2);have p0:=S.p0 k hlt;have rl:=(h1.rr k hlt).lt;have jq:(k:Int)<2:=by omega
   have HC:=O (HS.o k hlt wr a1 h1 hq);have Wv:=O (show Ng w wb C nd m (Z k) d a (λb=>b=a1) wr from⟨a1,h1,OS,Vo,rfl⟩);have HK:=O hlt;clear S h1 OS Vo hq hlt hk;go_wp2_with fail
   go_loopw[17] (λiv wx=>(iv=I J 0/\wx=wr)\/(iv=I J 1/\Ng w wb C nd m (Z (k+1)) d a (Q (k+1)) wx)) (λiv _=>1- (intOf iv).toNat)
   case atStart=>exact .inl ⟨rfl,rfl⟩
   case round=>
    rcases hrel with⟨rfl,rfl⟩|⟨rfl,hP⟩
    ·go_wp2_with fail;refine HC.o.mono ?_;rintro e w6 ⟨rfl,hF⟩;have HF:=O (show Ng w wb C nd m (Z (k+1)) d a (Q (k+1)) w6 from Wv.o.trans λb hb e=>by subst e;exact hF);dsimp only;clear hF;go_wp2_with fail;exact⟨.inr ⟨rfl,HF.o⟩,by simp[intOf]⟩
    ·have HF:=O hP;clear hP;go_wp2_with fail;exact⟨⟨k+1,by have:=HK.o;omega,rfl,HF.o⟩,by have:=HK.o;simp[intOf];omega⟩
  ·obtain rfl:k=2:=by omega
   have HF:=O hP;clear hP hlt hk;go_wp2_with fail
   first|go_end0|(simp only[Exit.inBlock,Exit.then];refine aE (results_none rfl _ _ _) rfl ?_)|refine aE (results_none rfl _ _ _) rfl ?_
   exact⟨rfl,HF.o⟩
end
def GwP(w:aw)(wb:Nat)(C:Cf)(aZ nd:Nat)(m:Nat->Md)(t:Nat->Nat)(sh:Nat->dm)(f:Nat->Int->Option (bQ×dh))(d:Option eF)(a:eL)(k:Nat)(w':aw):Prop:=
 ∃b,fD w' wb C aZ nd m t sh f d {a with ga:=bK a.ga k b}/\Sub (a.F wb d) (eL.F {a with ga:=bK a.ga k b} wb d) w w'
section
variable{w w':aw}{wb aZ cY nd k:Nat}{C:Cf}{m:Nat->Md}{t:Nat->Nat}{sh:Nat->dm}{f:Nat->Int->Option (bQ×dh)}{d:Option eF}{a:eL}{c:bQ}{aq:aw->Prop}
theorem tY(h:fD w wb C aZ nd m t sh f d a)(hk:k<2)(hf:ax av 44 #[X (G ⟨wb,0,U⟩)] w λe w'=>e=ay (aB #[])/\aq w'):
 ax av 48 #[X (G ⟨wb,0,U⟩),I J (k:Nat)] w λe w'=>e=ay (aB #[])/\aq w':=by
 obtain⟨r,hG,_⟩:=(h.gr k hk).1.fW;have HS:=O (Qt hG);have HF:=O hf;obtain⟨g,p,hA,hB,hg,hp⟩:=h.j7;have S:=h.fW hA hB;have x2:=S.w2;have g0:=S.g0 k hk;have xl:=h.aW.lt;have jq:(k:Int)<2:=by omega
 clear h hG S hk hf;go_enter func48,ntmps48;go_wp2_with fail;refine HS.o.mono ?_;rintro e w2 ⟨rfl,rfl⟩;dsimp only;go_wp2_with fail;refine HF.o.mono ?_;rintro e w2 ⟨rfl,hX⟩;dsimp only;have HX:=O hX;clear hX;go_wp2_with fail
 first|go_end0|(simp only[Exit.inBlock,Exit.then];refine aE (results_none rfl _ _ _) rfl ?_)|refine aE (results_none rfl _ _ _) rfl ?_
 exact⟨rfl,HX.o⟩
theorem fD.Yz{ag:Md}{w1:aw}(h:fD w wb C aZ nd m t sh f d a)(hk:k<2)(hN:M w w1){e:Ending}(hq:UF w1 (a.gb k) (a.ga k) (λw' b=>C2 w' (a.gb k) b ag) e w'):e=ay (I J 0)/\GwP w wb C aZ (nd+1500) (bK m k ag) t sh f d a k w':=by
 obtain⟨h1,b,h2,h3,h4,_⟩:=hq;have:=(h.aR hN).Vj hk h2 (nd':=nd+1500) (by have:=(h.gr k hk).2;omega) (by omega) h3;exact⟨h1,b,this.1,(Sub.bj _ hN).trans this.2⟩
theorem Nh{L:List kx}(h:fD w wb C aZ nd m t sh f d a)(hk:k<2)(hm:m k= .led L)(hL:L.length<100)(hnd:nd<=200000)(hc:yR c):
 ax av 137 #[X (G ⟨wb,0,U⟩),I J (k:Nat),I J 0,cn c] w λe w'=>e=ay (I J 0)/\GwP w wb C aZ (nd+1500) (bK m k (.led (L++[(1,gJ (enc c))]))) t sh f d a k w':=by
 have HE:=O (Hj (w.alloc (az (bN c) 60)) hc);have HA:=O (show M w (w.alloc (az (bN c) 60))from(Ch.r _ w).alloc _);have jh:(gJ (enc c)).size<=512:=by
  have:=hc.ke;have:=hc.va
  have hs:(gJ (enc c)).size=(enc c).length:=by simp[gJ,ByteArray.size]
  rw[hs];simp[enc,wF,pT];omega
 have HH:=O h;have HK:=O hk;have HG:=O (λw' (hN:M w w')=>UG (gb:=a.gb k) (a:=a.ga k) (L:=L) (by have:=((h.aR hN).gr k hk).1;rw[hm]at this;exact this) (aO (h.gr k hk).2 hnd) hL (gJ (enc c)) jh);obtain⟨g,p,hA,hB,hg,hp⟩:=h.j7;have IP:=O (And.intro hA hB);have jq:(k:Int)<2:=by omega
 have HBC:=O (aX.new w 60 (bN c));have⟨b0,b1,b2,b3,b4,b5,b6,b7,b8⟩:=kq HBC.o;obtain⟨dt,Qu⟩:=bG (gJ (enc c));rw[Qu]at HE HG jh⊢;obtain⟨kd,tx,aS,st,op,key,val,mode,yes⟩:=c;clear h hk hc hA hB Qu jh;go_enter func137,ntmps137;go_wp2_with fail;refine HE.o.mono ?_;rintro e w2 ⟨rfl,hN⟩;dsimp only;have HN:=O (show M w w2 from HA.o.t hN);have S:=(HH.o.aR HN.o).fW IP.o.1 IP.o.2;have x2:=S.w2;have g0:=S.g0 k HK.o;have xl:=(HH.o.aR HN.o).aW.lt;clear hN S b0 b1 b2 b3 b4 b5 b6 b7 b8;go_wp2_with fail;refine(HG.o _ HN.o).mono ?_;intro e w3 hq;obtain⟨h1,h2⟩:=HH.o.Yz (ag:=.led (L++[(1,dt)])) HK.o HN.o hq;subst h1;have HP:=O h2;dsimp only;clear hq h2;go_wp2_with fail;go_ret;exact⟨rfl,HP.o⟩
end
section
variable{w w':aw}{wb aZ cY nd k:Nat}{C:Cf}{m:Nat->Md}{t:Nat->Nat}{sh:Nat->dm}{f:Nat->Int->Option (bQ×dh)}{x:eF}{a:eL}{c:bQ}
theorem qe3{L:List kx}(h:fD w wb C aZ nd m t sh f (G x) a)(hx:df C 0 x=G (k,c))(hk:k<2)(hm:m k= .led L)(hL:L.length<100)(hnd:nd<=200000)(hc:yR c):
 ax av 85 #[X (G ⟨wb,0,U⟩),I J 0,I J 0] w λe w'=>e=ay (I J 0)/\GwP w wb C aZ (nd+1500) (bK m k (.led (L++[(1,gJ (enc c))]))) t sh f (G x) a k w':=by
 have HI:=O (isW h);have HA:=O (Yu h);have HX:=O (gP (h.dr x rfl) h.ig hx);have HP:=O (λw' (hN:M w w')=>Nh (h.aR hN) hk hm hL hnd hc);obtain⟨q,hq,Jx,y0⟩:=h.WB;have x4:w.cell? ⟨wb,4,U⟩=G (T (G ⟨q,0,U⟩) 1 a.cc):=by rw[<-hq];exact h.aW.c 4
 have xl:=h.aW.lt;obtain⟨dt,Qu⟩:=bG (gJ (enc c));rw[Qu]at HP⊢;obtain⟨kd,tx,aS,st,op,key,val,mode,yes⟩:=c;clear h hx hk hm hL hnd hc hq Qu;go_enter func85,ntmps85;go_wp2_with fail;refine HI.o.mono ?_;rintro e w2 ⟨rfl,rfl⟩;dsimp only;go_wp2_with fail;refine HA.o.mono ?_;rintro e w2 ⟨rfl,rfl⟩;dsimp only;go_wp2_with fail;refine HX.o.mono ?_;rintro e w2 ⟨rfl,hN⟩;dsimp only;have HN:=O (show M w (w2.alloc (az (bN ⟨kd,tx,aS,st,op,key,val,mode,yes⟩) 60))from Ch.alloc hN _);have HB:=O (aX.new w2 60 (bN ⟨kd,tx,aS,st,op,key,val,mode,yes⟩));have⟨b0,b1,b2,b3,b4,b5,b6,b7,b8⟩:=kq HB.o;clear hN x4 y0 xl Jx;go_wp2_with fail;refine(HP.o _ HN.o).mono ?_;rintro e w3 ⟨rfl,b',h1,h2⟩;dsimp only;have HE:=O (show GwP w wb C aZ (nd+1500) (bK m k (.led (L++[(1,dt)]))) t sh f (G x) a k w3 from⟨b',h1,(Sub.bj _ HN.o).trans h2⟩);clear h1 h2 b0 b1 b2 b3 b4 b5 b6 b7 b8;go_wp2_with fail;go_ret;exact⟨rfl,HE.o⟩
end
def Ni(w:aw)(qb:Nat)(r:dh)(c:bQ)(s u:Value)(wx:aw):Prop:=
 ∃z,s=X (G ⟨z,0,U⟩)/\u=Y true/\M w wx/\aX wx z 66 (xp r)/\aX wx qb 60 (bN c)
section
variable{w w' w6:aw}{wb aZ cY nd k z qb:Nat}{C:Cf}{m:Nat->Md}{t:Nat->Nat}{sh:Nat->dm}{f:Nat->Int->Option (bQ×dh)}{x:eF}{a:eL}{c:bQ}{r:dh}
theorem qe4(hN:M w w6)(hq:aX w6 qb 60 (bN c)):Ni w qb r c (X (G ⟨w6.heap.size,0,U⟩)) (Y true) (w6.alloc (az (xp r) 66)):=
 ⟨_,rfl,rfl,hN.alloc _,aX.new w6 66 _,hq.alloc _⟩
theorem qe5{x0 x1 x2 x3:Value}(hN:M w w6)(hq:aX w6 qb 60 (bN c))(hz:aX w6 z 66 #[x0,x1,x2,x3])(hw:w.heap.size<=z):Ni w qb r c (X (G ⟨z,0,U⟩)) (Y true) (cI w6 z r):=
 ⟨z,rfl,rfl,hN.trans (bX _ _ _) (λk e=>.inr (by rw[e];exact hw)),bU hz r,hq.ch (bX _ _ _) (λe=>hq.lF hz (by decide) e)⟩
theorem YA(h:fD w wb C aZ nd m t sh f (G x) a)(hx:df C 0 x=G (k,c))(hk:k<2)(hc:0<=c.tx/\c.tx<16)(hf:f k c.tx=G (c,r))(hE:gK.Env w)(hr:rM r):
 ax av 86 #[X (G ⟨wb,0,U⟩),I J 0,I J 0] w λe w'=>e=ay (I J 0)/\Nb w wb C aZ nd m t sh f (G (fk C 0 x c r)) a (G x) w':=by
 have HI:=O (isW h);have HA:=O (Yu h);have HX:=O (gP (h.dr x rfl) h.ig hx);have HH:=O h;have HK:=O hk;have QP:=O (λw' (hN:M w w')=>DU ((h.aR hN).rp k hk) hc hf);have HT:=O (λw' (hN:M w w')=>vk (cm:=c) ((h.aR hN).dr x rfl) (h.aR hN).ig (hE.aR hN) hr);obtain⟨q,hq,Jx,y0⟩:=h.WB;have jj:=O (λw' (hN:M w w')=>show w'.cell? ⟨wb,4,U⟩=G (T (G ⟨q,0,U⟩) 1 a.cc)/\w'.cell? ⟨q,0,U⟩=G (X (G ⟨a.db,0,U⟩))from by
  obtain⟨q',hq',_,y0'⟩:=(h.aR hN).WB;rw[hq]at hq';injection hq' with e;injection e with e;subst e;exact⟨by rw[<-hq];exact(h.aR hN).aW.c 4,y0'⟩)
 have x4:w.cell? ⟨wb,4,U⟩=G (T (G ⟨q,0,U⟩) 1 a.cc):=by rw[<-hq];exact h.aW.c 4
 have xl:=h.aW.lt;obtain⟨g,p,sB,Vp,hg,hp⟩:=h.j7;have IP:=O (And.intro sB Vp);have jq:(k:Int)<2:=by omega
 have Bb:=O Jx;obtain⟨kd,tx,aS,st,op,key,val,mode,yes⟩:=c;obtain⟨code,state,VV,HB⟩:=r;obtain⟨d',YB⟩:=bG (fk C 0 x ⟨kd,tx,aS,st,op,key,val,mode,yes⟩ ⟨code,state,VV,HB⟩);rw[YB]at HT⊢;clear h hx hk hc hf hE hr hq sB Vp YB;go_enter func86,ntmps86;go_wp2_with fail;refine HI.o.mono ?_;rintro e w2 ⟨rfl,rfl⟩;dsimp only;go_wp2_with fail;refine HA.o.mono ?_;rintro e w2 ⟨rfl,rfl⟩;dsimp only;go_wp2_with fail;refine HX.o.mono ?_;rintro e w2 ⟨rfl,hN⟩;dsimp only;have HN:=O (show M w (w2.alloc (az (bN ⟨kd,tx,aS,st,op,key,val,mode,yes⟩) 60))from Ch.alloc hN _);have RB:=O (aX.new w2 60 (bN ⟨kd,tx,aS,st,op,key,val,mode,yes⟩));have tB:=O (λw' (hN:M w w')=>(HH.o.aR hN).fW IP.o.1 IP.o.2);have S:=tB.o _ HN.o;have x3:=S.w3;have p0:=S.p0 k HK.o;have r0:=S.r0 k HK.o;have rl:=((HH.o.aR HN.o).rr k HK.o).lt;clear hN x4 y0 xl Jx S;have xl:=(HH.o.aR HN.o).aW.lt;have HZ:=O (rfl:w2.heap.size=w2.heap.size);go_upto_region 8 with(fail);change Code.wp _ _ _ _ (w2.alloc (az (bN ⟨kd,tx,aS,st,op,key,val,mode,yes⟩) 60));generalize(w2.alloc (az (bN ⟨kd,tx,aS,st,op,key,val,mode,yes⟩) 60))=w3 at *;generalize w2.heap.size=qb at *;clear HZ x3 p0 r0 rl xl;have cZ:=O (λw' (hN:M w w') (y:aX w' qb 60 (bN ⟨kd,tx,aS,st,op,key,val,mode,yes⟩))=>(show w'.cell? ⟨wb,3,U⟩=G (T (G ⟨p,0,U⟩) 2 a.pc)/\w'.cell? ⟨p,k,U⟩=G (T (G ⟨a.rr k,0,U⟩) 1 1)/\w'.cell? ⟨a.rr k,0,U⟩=G (X (G ⟨a.pb k,0,U⟩))/\w'.cell? ⟨qb,0,U⟩=G (I J kd)/\w'.cell? ⟨qb,1,U⟩=G (I J tx)/\w'.cell? ⟨qb,2,U⟩=G (I J aS)/\w'.cell? ⟨qb,3,U⟩=G (I J st)/\w'.cell? ⟨qb,4,U⟩=G (I J op)/\w'.cell? ⟨qb,5,U⟩=G (V key)/\w'.cell? ⟨qb,6,U⟩=G (V val)/\w'.cell? ⟨qb,7,U⟩=G (I J mode)/\w'.cell? ⟨qb,8,U⟩=G (Y yes)from
  ⟨(tB.o _ hN).w3,(tB.o _ hN).p0 k HK.o,(tB.o _ hN).r0 k HK.o,y.c 0,y.c 1,y.c 2,y.c 3,y.c 4,y.c 5,y.c 6,y.c 7,y.c 8⟩))
 have N1:=O (show M w w3.drew from HN.o.drew);have N2:=O (λo=>show M w (w3.alloc o).drew from(HN.o.alloc o).drew);have N3:=O (λo=>show M w (w3.drew.alloc o)from HN.o.drew.alloc o);have N4:=O (λo=>show M w (w3.alloc o)from HN.o.alloc o);have lY:=O (cZ.o w3 HN.o RB.o);have js:=O (cZ.o w3.drew N1.o RB.o.drew);have Uz:=O (λo=>cZ.o (w3.alloc o) (N4.o o) (RB.o.alloc o));have xr:=O (λo=>cZ.o (w3.alloc o).drew (N2.o o) (RB.o.alloc o).drew);have UA:=O (λo=>cZ.o (w3.drew.alloc o) (N3.o o) (RB.o.drew.alloc o));have⟨s0,s1,s2,b0,b1,b2,b3,b4,b5,b6,b7,b8⟩:=lY.o;have xl:=(HH.o.aR HN.o).aW.lt;have rl:=((HH.o.aR HN.o).rr k HK.o).lt;have pl:p<w3.heap.size:=aP hp HN.o.size;have ql:=RB.o.lt
 go_cut[10,11] (λs u wx=>Ni w qb ⟨code,state,VV,HB⟩ ⟨kd,tx,aS,st,op,key,val,mode,yes⟩ s u wx)
 case first=>
  go_region_held3(λw'=>w'.cell? ⟨wb,3,U⟩=G (T (G ⟨p,0,U⟩) 2 a.pc)/\w'.cell? ⟨p,k,U⟩=G (T (G ⟨a.rr k,0,U⟩) 1 1)/\w'.cell? ⟨a.rr k,0,U⟩=G (X (G ⟨a.pb k,0,U⟩))/\w'.cell? ⟨qb,0,U⟩=G (I J kd)/\w'.cell? ⟨qb,1,U⟩=G (I J tx)/\w'.cell? ⟨qb,2,U⟩=G (I J aS)/\w'.cell? ⟨qb,3,U⟩=G (I J st)/\w'.cell? ⟨qb,4,U⟩=G (I J op)/\w'.cell? ⟨qb,5,U⟩=G (V key)/\w'.cell? ⟨qb,6,U⟩=G (V val)/\w'.cell? ⟨qb,7,U⟩=G (I J mode)/\w'.cell? ⟨qb,8,U⟩=G (Y yes))
   (first|with_reducible exact js.o|with_reducible exact Uz.o _|with_reducible exact xr.o _|with_reducible exact UA.o _|with_reducible exact lJ.o|with_reducible exact Fi.o _|exact ZY.o|fail)
   (first
     |(go_at_call 138;(first
        |((with_reducible refine(QP.o _ N1.o).mono ?_);rintro e w6 ⟨rfl,kI⟩
          have DT:=O (show M w w6 from N1.o.t kI);have qI:=O (RB.o.drew.ch kI (λh=>h)))
        |((with_reducible refine(QP.o _ (N2.o _)).mono ?_);rintro e w6 ⟨rfl,kI⟩
          have DT:=O (show M w w6 from(N2.o _).t kI);have qI:=O ((RB.o.alloc _).drew.ch kI (λh=>h));have xX:=O ((aX.new w3 66 #[I J 0,I J 0,V ⟨#[]⟩,Y false]).drew.ch kI (λh=>h)))
        |((with_reducible refine(QP.o _ (N3.o _)).mono ?_);rintro e w6 ⟨rfl,kI⟩
          have DT:=O (show M w w6 from(N3.o _).t kI);have qI:=O ((RB.o.drew.alloc _).ch kI (λh=>h));have xX:=O ((aX.new w3.drew 66 #[I J 0,I J 0,V ⟨#[]⟩,Y false]).ch kI (λh=>h)))
        |fail)
       dsimp only
       (try(have⟨z0,z1,z2,z3⟩:=(show _/\_/\_/\_ from⟨xX.o.c 0,xX.o.c 1,xX.o.c 2,xX.o.c 3⟩)))
       (try(have zl:=xX.o.lt))
       (try(have zf:=xX.o.frozen))
       have lJ:=O (cZ.o w6 DT.o qI.o)
       (try(have ZY:=O (cZ.o (cI w6 w3.heap.size ⟨code,state,VV,HB⟩) (DT.o.trans (bX _ _ _) (λk e=>.inr (by rw[e];exact HN.o.size))) (qI.o.ch (bX _ _ _) (λe=>qI.o.lF xX.o (by decide) e)))))
       have Fi:=O (λo=>cZ.o (w6.alloc o) (DT.o.alloc o) (qI.o.alloc o));clear kI)
     |fail)
  all_goals
   go_wp2_with fail;go_meet
   first|with_reducible exact qe4 DT.o qI.o|exact qe5 DT.o qI.o xX.o HN.o.size|fail
 case rest=>
  obtain⟨z,rfl,rfl,kI,Vn,S9⟩:=hcut;have ir:=O kI;have qI:=O S9;have⟨z0,z1,z2,z3⟩:=eW Vn;have zl:=Vn.lt;have⟨c4,cq⟩:=jj.o _ kI;have wl:=(HH.o.aR kI).aW.lt;have qhl:q<wc.heap.size:=aP Bb.o kI.size;clear s0 s1 s2 b0 b1 b2 b3 b4 b5 b6 b7 b8;have⟨b0,b1,b2,b3,b4,b5,b6,b7,b8⟩:=kq S9;have bl:=S9.lt;clear kI Vn S9;go_upto_region 11 with(fail)
  go_still_tail 10,(by kernel_rfl)
  change wpList _ _ _ _ _ wc.drew;go_wp2_with fail;refine(HT.o wc.drew ir.o.drew).mono ?_;rintro e w7 ⟨bb,e7,rfl,hd7,hs7⟩;have HP:=O ((HH.o.aR (show M w wc.drew from ir.o.drew)).zE hd7 hs7);have HE:=O (show Nb w wb C aZ nd m t sh f (G d') a (G x) w7 from⟨_,HP.o.1,(Sub.bj _ (show M w wc.drew from ir.o.drew)).trans HP.o.2,⟨rfl,rfl,rfl,rfl,rfl,rfl,rfl,rfl,rfl,rfl,rfl⟩⟩);dsimp only;clear hd7 hs7;go_wp2_with fail;go_ret;exact⟨rfl,HE.o⟩
end
section
variable{w w':aw}{wb aZ cY nd k:Nat}{C:Cf}{m:Nat->Md}{t:Nat->Nat}{sh:Nat->dm}{f:Nat->Int->Option (bQ×dh)}{d:Option eF}{a:eL}{c:bQ}
theorem pg(h:fD w wb C aZ nd m t sh f d a)(ht: ∀j,j<2->t j=(m j).log.length):ax av 44 #[X (G ⟨wb,0,U⟩)] w λe w'=>e=ay (aB #[])/\Nb w wb C aZ nd m t sh f d a d w':=by
 refine(xY (Z:=λ_=>⟨aZ,t,sh,f⟩) (Q:=λ_ _=>True) h trivial (λj hj w b hb _=>(rX hb hj (ht j hj)).mono λe w' ⟨h1,h2⟩=>?_)).mono λe w' ⟨h1,b,h2,h3,h4,_⟩=>⟨h1,b,h2,h3,h4⟩;subst h2;exact⟨h1,b,hb,Sub.refl _ _,eL.same.rfl' b,trivial⟩
theorem xZ(h:fD w wb C aZ nd m t sh f d a)(hk:k<2){tm:Int}{dt:ByteArray}(ht:t k+1=(m k).log.length)(IQ: ∀j,j<2->j≠k->t j=(m j).log.length)(zH:(m k).log[t k]?=G (tm,dt))(cp:aZ<=cY){s':dm}{f':Int->Option (bQ×dh)}
 (hd: ∀w b,ic w (a.pb k) C.key aZ (t k) (sh k) (f k) b->ax av 200 #[X (G ⟨a.pb k,0,U⟩),aC #[I J tm,V dt]] w λe w'=>e=ay (aB #[])/\Hv w (a.pb k) C.key cY (t k) s' f' b w')
 (hn: ∀w b,fD w wb C cY nd m (bK t k (t k+1)) (bK sh k s') (bK f k f') d b->a.same b->b.oA=a.oA/\b.on=a.on/\b.oc=a.oc->ax av 135 #[X (G ⟨wb,0,U⟩),X (G ⟨a.pb k,0,U⟩),aC #[I J tm,V dt]] w (M9 w wb C cY nd m (bK t k (t k+1)) (bK sh k s') (bK f k f') d b)):
 ax av 44 #[X (G ⟨wb,0,U⟩)] w λe w'=>e=ay (aB #[])/\Nb w wb C cY nd m (bK t k (t k+1)) (bK sh k s') (bK f k f') d a d w':=by
 let Z0:WD:=⟨aZ,t,sh,f⟩
 let Z1:WD:=⟨cY,bK t k (t k+1),bK sh k s',bK f k f'⟩
 have key:=xY (w:=w) (wb:=wb) (C:=C) (nd:=nd) (m:=m) (d:=d) (Z:=λj=>if j<=k then Z0 else Z1) (Q:=λj b=>j<=k->b=a) (a:=a) (by rw[if_pos (Nat.zero_le k)];exact h) (λ_=>rfl) (λj hj w b hb hq=>?_)
 ·refine key.mono ?_;rintro e w' ⟨h1,b,h2,h3,h4,_⟩;rw[if_neg (by omega)]at h2;exact⟨h1,b,h2,h3,h4⟩
 by_cases Ta:j=k
 ·subst Ta;rw[if_pos (aN _)]at hb;rw[if_neg (by omega)];obtain rfl:=hq (aN _);refine(Nc (show fD w wb C aZ nd m t sh f d b from hb) hj ht zH cp hd hn).mono λe w' ⟨h1,b',h2,h3,h4⟩=>⟨h1,b',h2,h3,h4,λh=>by omega⟩
 ·by_cases hlt:j<k
  ·rw[if_pos (by omega)]at hb;rw[if_pos (by omega)];refine(rX (show fD w wb C aZ nd m t sh f d b from hb) hj (IQ j hj Ta)).mono λe w' ⟨h1,h2⟩=>?_;subst h2;exact⟨h1,b,hb,Sub.refl _ _,eL.same.rfl' b,λ_=>hq (by omega)⟩
  ·rw[if_neg (by omega)]at hb;rw[if_neg (by omega)];refine(rX (show fD w wb C cY nd m (bK t k (t k+1)) (bK sh k s') (bK f k f') d b from hb) hj (by rw[bC _ _ Ta];exact IQ j hj Ta)).mono λe w' ⟨h1,h2⟩=>?_;subst h2;exact⟨h1,b,hb,Sub.refl _ _,eL.same.rfl' b,λh=>by omega⟩
theorem Ev(h:fD w wb C aZ nd m t sh f d a)(hk:k<2){tm:Int}(ht:t k+1=(m k).log.length)(IQ: ∀j,j<2->j≠k->t j=(m j).log.length)(zH:(m k).log[t k]?=G (tm,⟨#[]⟩)):
 ax av 44 #[X (G ⟨wb,0,U⟩)] w λe w'=>e=ay (aB #[])/\Nb w wb C aZ nd m (bK t k (t k+1)) sh f d a d w':=by
 have e1:bK sh k (sh k)=sh:=by funext j;unfold bK;split<;>simp_all
 have e2:bK f k (f k)=f:=by funext j;unfold bK;split<;>simp_all
 have:=xZ h hk ht IQ zH (aN aZ) (s':=sh k) (f':=f k) (λw b hb=>(Qd (pb:=a.pb k) tm).mono λe w' ⟨h1,h2⟩=>⟨h1,b,hb.aR h2,Sub.bj _ h2⟩)
  (λw b hb _ _=>(Es tm).mono λe w' ⟨h1,h2⟩=>by subst h1;exact M9.bj hb h2)
 rw[e1,e2]at this;exact this
theorem Ew(h:fD w wb C aZ nd m t sh f d a)(hk:k<2){tm:Int}(ht:t k+1=(m k).log.length)(IQ: ∀j,j<2->j≠k->t j=(m j).log.length)(zH:(m k).log[t k]?=G (tm,gJ (enc c)))(cp:aZ<1000000)
 (hc:LD C.key (sh k) c) (Qf:(fS (sh k) c).2.code≠1) (h5:c.kind=5->aZ=8):
 ax av 44 #[X (G ⟨wb,0,U⟩)] w λe w'=>e=ay (aB #[])/\Nb w wb C (aZ+2) nd m (bK t k (t k+1)) (bK sh k (fS (sh k) c).1) (bK f k (cQ (f k) c.tx (G (c,(fS (sh k) c).2)))) d a d w':=by
 refine xZ h hk ht IQ zH (by omega) (λw b hb=>Qe hb hc cp Qf tm) (λw b hb hs ho=>?_);by_cases e:c.kind=5
 ·have h8:=h5 e;obtain⟨o1,o2,o3⟩:=h.ord (by omega);have:=Rz hb hk hc.n e ⟨ho.1.trans o1,ho.2.1.trans o2,ho.2.2.trans o3⟩ (by omega) tm;rw[hs.pb]at this;exact this
 ·exact(Et hc.n e tm).mono λe' w' ⟨h1,h2⟩=>by subst h1;exact M9.bj hb h2
end
theorem Vz{S:Nat->Prop}{w w':aw}(h:Waits.C4 w)(hs:4<=w.heap.size)(hC:Ch S w w')(hS: ∀g,S g->4<=g):Waits.C4 w':=λj hj=>(World.cell?_of_block (hC.block 0 (by omega) (λe=>by have:=hS 0 e;omega))).trans (h j hj)
structure Tg(w:aw)(wb:Nat)(d:Option eF)(a:eL):Prop where
 env:gK.Env w
 tN:Waits.C4 w
 cv: ∀g,a.F wb d g->4<=g
theorem Tg.four{w:aw}{wb:Nat}{d:Option eF}{a:eL}(h:Tg w wb d a):4<=w.heap.size:=by
 have g3:av.globalNamed "internal/strconv.uint64pow10"=G 3:=by kernel_rfl
 have:=rZ g3 h.env.tN;omega
theorem Tg.next{w w':aw}{wb:Nat}{d d':Option eF}{a a':eL}(h:Tg w wb d a)(hs:Sub (a.F wb d) (a'.F wb d') w w'):Tg w' wb d' a':=
 ⟨zL h.env hs.ch h.cv,Vz h.tN h.four hs.ch h.cv,λg hg=>by
   rcases hs.new g hg with e|e
   ·exact h.cv g e
   ·have:=h.four;omega⟩
section
variable{w w':aw}{wb aZ cY nd k:Nat}{C:Cf}{m:Nat->Md}{t:Nat->Nat}{sh:Nat->dm}{f:Nat->Int->Option (bQ×dh)}{x:eF}{a:eL}{c:bQ}
theorem IW{s:Int}(h:fD w wb C aZ nd m t sh f (G x) a)(hx:df C 0 x=G (k,c))(hk:k<2)(hm:m k= .wait s):ax av 50 #[X (G ⟨wb,0,U⟩),I J 0] w λe w'=>e=ay (aB #[])/\M w w':=by
 have HX:=O (gP (h.dr x rfl) h.ig hx);have HL:=O (λw' (hN:M w w')=>show ax av 94 #[X (G ⟨a.gb k,0,U⟩)] w' (λe eZ=>e=ay (aB #[I J 0,Y false])/\w'=eZ)from by
  obtain⟨r,hG,_,hr⟩:=((h.aR hN).gr k hk).1.fW;have:=FU hG;rw[hr,hm]at this;exact this)
 obtain⟨q,hq,Jx,y0⟩:=h.WB;have x4:w.cell? ⟨wb,4,U⟩=G (T (G ⟨q,0,U⟩) 1 a.cc):=by rw[<-hq];exact h.aW.c 4
 have xl:=h.aW.lt;obtain⟨g,p,hA,hB,hg,hp⟩:=h.j7;have tB:=O (λw' (hN:M w w')=>(h.aR hN).fW hA hB);have HK:=O hk;have jq:(k:Int)<2:=by omega
 obtain⟨kd,tx,aS,st,op,key,val,mode,yes⟩:=c;clear h hx hk hm hq hA hB;go_enter func50,ntmps50;go_wp2_with fail;refine HX.o.mono ?_;rintro e w2 ⟨rfl,hN⟩;dsimp only;have HN:=O (show M w (w2.alloc (az (bN ⟨kd,tx,aS,st,op,key,val,mode,yes⟩) 60))from Ch.alloc hN _);have x2:=(tB.o _ HN.o).w2;have g0:=(tB.o _ HN.o).g0 k HK.o;have zl:wb<(w2.alloc (az (bN ⟨kd,tx,aS,st,op,key,val,mode,yes⟩) 60)).heap.size:=aP xl HN.o.size;have gl:g<(w2.alloc (az (bN ⟨kd,tx,aS,st,op,key,val,mode,yes⟩) 60)).heap.size:=aP hg HN.o.size;clear hN x4 y0 xl Jx;go_wp2_with fail;refine(HL.o _ HN.o).mono ?_;rintro e w3 ⟨rfl,rfl⟩;dsimp only;go_wp2_with fail
 first|go_end0|(simp only[Exit.inBlock,Exit.then];refine aE (results_none rfl _ _ _) rfl ?_)|refine aE (results_none rfl _ _ _) rfl ?_
 exact⟨rfl,HN.o⟩
theorem Np{L:List kx}(h:fD w wb C aZ nd m t sh f (G x) a)(hx:df C 0 x=G (k,c))(hk:k<2)(hm:m k= .led L)(hL:L.length<100)(hnd:nd<=200000)(ht: ∀j,j<2->t j=(m j).log.length)(cp:aZ<1000000)
 (hc:LD C.key (sh k) c) (Qf:(fS (sh k) c).2.code≠1) (h5:c.kind=5->aZ=8) (hE:Tg w wb (G x) a) (hr:rM (fS (sh k) c).2):
 ax av 50 #[X (G ⟨wb,0,U⟩),I J 0] w λe w'=>e=ay (aB #[])/\
  Nb w wb C (aZ+2) (nd+1500) (bK m k (.led (L++[(1,gJ (enc c))]))) (bK t k (t k+1)) (bK sh k (fS (sh k) c).1) (bK f k (cQ (f k) c.tx (G (c,(fS (sh k) c).2)))) (G (fk C 0 x c (fS (sh k) c).2)) a (G x) w':=by
 have HX:=O (gP (h.dr x rfl) h.ig hx);have HL:=O (λw' (hN:M w w')=>show ax av 94 #[X (G ⟨a.gb k,0,U⟩)] w' (λe eZ=>e=ay (aB #[I J 0,Y true])/\w'=eZ)from by
  obtain⟨r,hG,_,hr⟩:=((h.aR hN).gr k hk).1.fW;have:=FU hG;rw[hr,hm]at this;exact this)
 obtain⟨ag,hM⟩:=bG (bK m k (.led (L++[(1,gJ (enc c))])));have hMk:ag k= .led (L++[(1,gJ (enc c))]):=by rw[<-hM,bI]
 have JW:t k=L.length:=by rw[ht k hk,hm];rfl
 have Ba:=O (λw' (hN:M w w')=>qe3 (h.aR hN) hx hk hm hL hnd hc.n);obtain⟨ae,hO⟩:=bG (fS (sh k) c);have VB:=O (λw' b (h':fD w' wb C aZ (nd+1500) ag t sh f (G x) b) (ho:b.oA=a.oA/\b.on=a.on/\b.oc=a.oc)=>tY h' hk (Ew h' hk (tm:=1) (c:=c) (by rw[hMk,JW];simp[Md.log]) (λj hj Ta=>by rw[<-hM,bC _ _ Ta];exact ht j hj) (by rw[hMk,JW];simp[Md.log]) cp hc Qf h5));have HHR:=O (λw' b (h':fD w' wb C (aZ+2) (nd+1500) ag (bK t k (t k+1)) (bK sh k (fS (sh k) c).1) (bK f k (cQ (f k) c.tx (G (c,(fS (sh k) c).2)))) (G x) b) (hE':Tg w' wb (G x) b)=>YA h' hx hk hc.w.tx (by rw[bI,bD]) hE'.env hr);rw[hM]at Ba⊢;rw[hO]at VB HHR⊢;have HE:=O hE;obtain⟨q,hq,Jx,y0⟩:=h.WB;have x4:w.cell? ⟨wb,4,U⟩=G (T (G ⟨q,0,U⟩) 1 a.cc):=by rw[<-hq];exact h.aW.c 4
 have xl:=h.aW.lt;obtain⟨g,p,hA,hB,hg,hp⟩:=h.j7;have tB:=O (λw' (hN:M w w')=>(h.aR hN).fW hA hB);have HK:=O hk;have jq:(k:Int)<2:=by omega
 obtain⟨d',YB⟩:=bG (fk C 0 x c ae.2);rw[YB]at HHR⊢;obtain⟨F',hF'⟩:=bG (bK f k (cQ (f k) c.tx (G (c,ae.2))));rw[hF']at VB HHR⊢;obtain⟨kd,tx,aS,st,op,key,val,mode,yes⟩:=c;clear h hx hk hm hq hA hB hL hnd ht cp hc Qf h5 hE hr hM hMk JW hO YB hF';go_enter func50,ntmps50;go_wp2_with fail;refine HX.o.mono ?_;rintro e w2 ⟨rfl,hN⟩;dsimp only;have HN:=O (show M w (w2.alloc (az (bN ⟨kd,tx,aS,st,op,key,val,mode,yes⟩) 60))from Ch.alloc hN _);have x2:=(tB.o _ HN.o).w2;have g0:=(tB.o _ HN.o).g0 k HK.o;have zl:wb<(w2.alloc (az (bN ⟨kd,tx,aS,st,op,key,val,mode,yes⟩) 60)).heap.size:=aP xl HN.o.size;have gl:g<(w2.alloc (az (bN ⟨kd,tx,aS,st,op,key,val,mode,yes⟩) 60)).heap.size:=aP hg HN.o.size;clear hN x4 y0 xl Jx;go_wp2_with fail;refine(HL.o _ HN.o).mono ?_;rintro e w3 ⟨rfl,rfl⟩;dsimp only;go_wp2_with fail;refine(Ba.o _ HN.o).mono ?_;rintro e w4 ⟨rfl,b4,h4,s4⟩;dsimp only;have lY:=O ((Sub.bj _ HN.o).trans s4);have HT:=O (VB.o _ _ h4 ⟨rfl,rfl,rfl⟩);clear h4 s4 x2 g0 zl gl;go_wp2_with fail;refine HT.o.mono ?_;rintro e w5 ⟨rfl,a5,h5,s5,m5⟩;dsimp only;have js:=O (lY.o.trans s5);have nG:=O (show a.same a5 from⟨m5.1,m5.2,m5.3,m5.4,m5.5,m5.6,m5.7,m5.8,m5.9,m5.10,m5.11⟩);have HR:=O (HHR.o _ _ h5 (HE.o.next js.o));clear h5 s5 m5;go_wp2_with fail;refine HR.o.mono ?_;rintro e w6 ⟨rfl,a6,h6,s6,m6⟩;have HF:=O (show Nb w wb C (aZ+2) (nd+1500) ag (bK t k (t k+1)) (bK sh k ae.1) F' (G d') a (G x) w6 from⟨a6,h6,js.o.trans s6,nG.o.trans m6⟩);dsimp only;clear h6 s6 m6;go_wp2_with fail
 first|go_end0|(simp only[Exit.inBlock,Exit.then];refine aE (results_none rfl _ _ _) rfl ?_)|refine aE (results_none rfl _ _ _) rfl ?_
 exact⟨rfl,HF.o⟩
end
