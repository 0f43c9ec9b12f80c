import Derived.Test.YtmaimjajdbgmiaaGreatDoorAp
import Derived.Test.YtmaimjajdbgmiaaGreatDoorAo
set_option linter.unusedVariables false
set_option linter.unusedSimpArgs false
set_option maxRecDepth 100000
set_option maxHeartbeats 0
open Go.Value renaming int→I,string→V,pointer→X,bool→Y,slice→T,tuple→aB,agg→aC
open Go.IntKind renaming i64→J
open Option renaming none→U,some→G
open Go.Ending renaming returned→ay
open Go.Obj renaming cells→az
open Nat renaming le_refl→aN,le_trans→aO,lt_of_lt_of_le→aP
open Go renaming World→aw,Calls→ax,bodyPost_ret→aE
open Go.Proofs.Tryz
open Go.Proofs.Tryz renaming prog→av
namespace Go.Proofs.YtmaimjajdbgmiaaGreatDoor
open Go.Lib Go.Maps Go.RowKit
def Few(sh:Nat->dm):Prop:=∀k,k<2->(sh k).own=[]\/∃y,(sh k).own=[y]
section
variable{w w':aw}{wb aZ nd k:Nat}{C:Cf}{m:Nat->Md}{t:Nat->Nat}{sh:Nat->dm}{f:Nat->Int->Option (bQ×dh)}{d:Option eF}{a:eL}
theorem VI(h:fD w wb C aZ nd m t sh f d a)(hf:Few sh):ax av 96 #[X (G ⟨wb,0,U⟩)] w λe w'=>e=ay (T U 0 0)/\M w w':=by
 have kD:=O (λw' (hN:M w w') k (hk:k<2)=>atW (h.aR hN) hk);have C5:=O (λw' (hN:M w w') k (hk:k<2)=>IX ((h.aR hN).rp k hk).sh (hf k hk));have KD:=O (λ(w:aw)=>vK U 0 (.func (.func 162) #[] #[]) w);have KE:=O (λ(w:aw)=>show ax av 165 #[T U 0 0] w (λe w'=>e=ay (T U 0 0)/\M w w')from(ym (w:=w) (A:=U) (n:=0) (c:=0) (L:=[]) ⟨World.ownsRow_nil _ _ _ _,rfl⟩ (by omega)).mono λe w' ⟨i,L',h1,_,h3,_,h5⟩=>by
  obtain rfl:i=0:=by omega
  exact⟨h1,h5.mono (λk hk=>by cases hk)⟩)
 obtain⟨g,p,hA,hB,hg,hp⟩:=h.j7;have x2:=(h.fW hA hB).w2;have xl:=h.aW.lt;clear h hf hA hB;go_enter func96,ntmps96;go_wp2_with fail
 go_loopw[3,14] (λv iv wr=>∃k:Nat,k<=2/\iv=I J k/\v=T U 0 0/\M w wr) (λ_ iv _=>2- (intOf iv).toNat)
 case atStart=>exact⟨0,by omega,rfl,rfl,Ch.r _ _⟩
 case round=>
  obtain⟨k,hk,rfl,rfl,hN⟩:=hrel;have HN:=O hN;by_cases hlt:k<2
  ·have jq:(k:Int)<2:=by omega
   have HK:=O hlt;have H1:=O (kD.o wr hN k hlt);have H2:=O (C5.o wr hN k hlt);clear hN hlt hk x2 xl;go_wp2_with fail;refine H1.o.mono ?_;rintro e w2 ⟨rfl,rfl⟩;dsimp only;go_wp2_with fail;refine H2.o.mono ?_;rintro e w2 ⟨rfl,iD⟩;dsimp only;have bJ:=O (show M w w2 from HN.o.t iD);clear iD;go_wp2_with fail
   go_loop[3,22] (λv iv=>v=T U 0 0/\iv=I J 0) (λ_ _=>0)
   case atStart=>exact⟨rfl,rfl⟩
   case round=>
    obtain⟨rfl,rfl⟩:=hrel;go_wp2_with fail;exact⟨⟨k+1,by have:=HK.o;omega,rfl,rfl,bJ.o⟩,by have:=HK.o;simp[intOf];omega⟩
  ·obtain rfl:k=2:=by omega
   clear hlt hk hN;go_wp2_with fail;refine(KD.o _).mono ?_;rintro e w2 ⟨rfl,hw⟩;subst w2;dsimp only;go_wp2_with fail;refine(KE.o _).mono ?_;rintro e w3 ⟨rfl,gZ⟩;dsimp only;have cE:=O (show M w w3 from HN.o.t gZ);clear gZ;go_wp2_with fail;go_ret;exact⟨rfl,cE.o⟩
end
section
variable{w w':aw}{wb aZ nd k:Nat}{C:Cf}{m:Nat->Md}{t:Nat->Nat}{sh:Nat->dm}{f:Nat->Int->Option (bQ×dh)}{d:Option eF}{a:eL}
theorem R1(h:fD w wb C aZ nd m t sh f d a)(hf:Few sh)(hT:Waits.C4 w):ax av 51 #[X (G ⟨wb,0,U⟩)] w λe w'=>e=ay (aB #[])/\M w w':=by
 have HK:=O (Waits.NM w w (Below.refl _ _));have HE:=O (λw' (hN:M w w')=>VI (h.aR hN) hf);have HT:=O hT;clear h hf hT;go_enter func51,ntmps51;go_wp2_with fail;refine HK.o.mono ?_;rintro e w2 ⟨rfl,hG,hN⟩;dsimp only;have HG:=O hG;have HN:=O hN;clear hG hN;go_wp2_with fail;refine(HE.o _ HN.o).mono ?_;rintro e w3 ⟨rfl,gZ⟩;dsimp only;obtain⟨v,WS⟩:=HG.o.gm;have HV:=O (Waits.sX (WS.aR gZ) (HT.o.aR (HN.o.t gZ)));have cE:=O (show M w w3 from HN.o.t gZ);clear WS gZ;go_wp2_with fail
 go_loop[13] (λiv=>iv=I J 0) (λ_=>0)
 case atStart=>exact rfl
 case round=>
  subst hrel;go_wp2_with fail;refine HV.o.mono ?_;rintro e w4 ⟨A,c,rfl,ho,pV⟩;have dQ:=O (show M w w4 from cE.o.t pV);clear ho pV;change _;go_wp2_with fail
  go_loop[55] (λiv=>iv=I J 0) (λ_=>0)
  case atStart=>exact rfl
  case round=>
   subst hrel;go_wp2_with fail
   first|go_end0|(simp only[Exit.inBlock,Exit.then];refine aE (results_none rfl _ _ _) rfl ?_)|refine aE (results_none rfl _ _ _) rfl ?_
   exact⟨rfl,dQ.o⟩
end
def oG:Md->Md
 | .wait s=>if s=3 then .led [(1,emp)]else .wait (s+1)
 | .led L=>.led L
section
variable{w w':aw}{gb wb aZ nd k:Nat}{b:qJ}{ag:Md}{C:Cf}{m:Nat->Md}{t:Nat->Nat}{sh:Nat->dm}{f:Nat->Int->Option (bQ×dh)}{d:Option eF}{a:eL}
theorem VJ(h:C2 w gb b ag)(sM:b.dn<=200000){dr:Int}(hd:ag.on=false->dr=0)(dt:ByteArray):ax av 47 #[X (G ⟨gb,0,U⟩),aC (mT 1 dr dt)] w (UF w gb b λw' a'=>C2 w' gb a' (oG ag)):=by
 match ag,h,hd with
 | .led L,h,_=>exact Qr h sM dr dt
 | .wait s,⟨hs,h⟩,hd=>
   obtain rfl:=hd rfl;by_cases e:s=3
   ·subst e;exact Qq h sM dt
   ·refine(Qp h (by omega) sM dt).mono λe' w' ⟨h1,a',h2,h3⟩=>⟨h1,a',?_,h3⟩;show C2 w' gb a' (if s=3 then .led [(1,emp)]else .wait (s+1));rw[if_neg e];exact⟨by omega,h2⟩
end
def R2(w:aw)(wb:Nat)(a:eL):Prop:=∃C aZ nd m t sh f d b,fD w wb C aZ nd m t sh f d b/\a.same b
section
variable{w:aw}{wb:Nat}{a:eL}{n:Nat}{P P':Nat->aw->Prop}{Pa:aw->Prop}
theorem VK(h0:P 0 w)(hn:n<=1000)
 (acc: ∀i w,P i w->R2 w wb a)
 (tick: ∀k,k<2->∀w,P k w->∀dt,ax av 47 #[X (G ⟨a.gb k,0,U⟩),aC (mT 1 ((n:Int) / 20%4) dt)] w λe w'=>e=ay (I J 0)/\P' k w')
 (Y1: ∀k,k<2->∀w,P' k w->ax av 48 #[X (G ⟨wb,0,U⟩),I J (k:Nat)] w λe w'=>e=ay (aB #[])/\P (k+1) w')
 (going: ∀w,P 2 w->ax av 49 #[X (G ⟨wb,0,U⟩)] w λe w'=>(e=ay (T U 0 0)/\P 3 w')\/(∃q c,e=ay (T (G ⟨q,0,U⟩) 1 c)/\w'.cell? ⟨q,0,U⟩=G (I J 0)/\Pa w'))
 (asks: ∀w,Pa w->ax av 50 #[X (G ⟨wb,0,U⟩),I J 0] w λe w'=>e=ay (aB #[])/\P 3 w')
 (det: ∀w,P 3 w->ax av 51 #[X (G ⟨wb,0,U⟩)] w λe w'=>e=ay (aB #[])/\P 3 w')
 (Y2: ∀k,k<2->∀w,P 3 w->ax av 48 #[X (G ⟨wb,0,U⟩),I J (k:Nat)] w λe w'=>e=ay (aB #[])/\P 3 w')
 (ends: ∀w,P 3 w->ax av 49 #[X (G ⟨wb,0,U⟩)] w λe w'=>∃A n c,e=ay (T A n c)/\P 3 w'):
 ax av 17 #[X (G ⟨wb,0,U⟩),I J (n:Nat)] w λe w'=>∃z:Int,e=ay (I J z)/\P 3 w':=by
 have HA:=O acc;have HT:=O tick;have HS:=O Y1;have HG:=O going;have HK:=O asks;have HD:=O det;have HE:=O Y2;have HF:=O ends;have H0:=O h0;have jW:(n:Int)<=1000:=by omega
 have d1:max (n:Int) 0=(n:Int):=by omega
 obtain⟨C,aZ,nd,m,t,sh,f,d,b,hM,hs⟩:=acc 0 w h0;obtain⟨g,p,hA,hB,hg,hp⟩:=hM.j7;have IP:=O (show a.gA=G ⟨g,0,U⟩/\a.pA=G ⟨p,0,U⟩from⟨hs.gA.symm.trans hA,hs.pA.symm.trans hB⟩);have tB:=O (λw' (h:R2 w' wb a)=>show w'.cell? ⟨wb,2,U⟩=G (T (G ⟨g,0,U⟩) 2 a.gc)/\(∀k:Nat,k<2->w'.cell? ⟨g,k,U⟩=G (X (G ⟨a.gb k,0,U⟩)))/\wb<w'.heap.size/\g<w'.heap.size from by
  obtain⟨C,aZ,nd,m,t,sh,f,d,b,hM,hs⟩:=h;obtain⟨g',p',ur,hB',uH,YJ⟩:=hM.j7;have e1:=(hs.gA.symm.trans ur).symm.trans IP.o.1;injection e1 with e1;injection e1 with e1;subst e1;have S:=hM.fW ur hB';exact⟨by have:=S.w2;rw[hs.gc]at this;exact this,λk hk=>by have:=S.g0 k hk;rw[hs.gb]at this;exact this,hM.aW.lt,uH⟩)
 have HC:=O (λw' (h:R2 w' wb a) k (hk:k<2)=>show ax av 46 #[X (G ⟨a.gb k,0,U⟩)] w' (λe eZ=>e=ay (I J 1)/\w'=eZ)from by
  obtain⟨C,aZ,nd,m,t,sh,f,d,b,hM,hs⟩:=h;obtain⟨r,hG,_⟩:=(hM.gr k hk).1.fW;have:=zi hG;rw[hs.gb]at this;exact this)
 obtain⟨x2,_,xl,gl⟩:=tB.o w (HA.o 0 w H0.o);clear h0 acc tick Y1 going asks det Y2 ends hM hs hA hB hg hp;go_enter func17,ntmps17;go_wp2_with fail
 go_loopw[18] (λiv wr=>∃k:Nat,k<=2/\iv=I J k/\P k wr) (λiv _=>2- (intOf iv).toNat)
 case atStart=>exact⟨0,by omega,rfl,H0.o⟩
 case round=>
  obtain⟨k,hk,rfl,hP⟩:=hrel;by_cases hlt:k<2
  ·have jq:(k:Int)<2:=by omega
   have Ts:=O hlt;obtain⟨x2,g0,xl,gl⟩:=tB.o wr (HA.o k wr hP);have gk:=g0 k hlt;have YN:=O (HC.o wr (HA.o k wr hP) k hlt);have vx:=O (HT.o k hlt wr hP);have HSK:=O (λw'=>HS.o k hlt w');clear g0 hlt hP hk;go_wp2_with fail;refine YN.o.mono ?_;rintro e w2 ⟨rfl,rfl⟩;dsimp only;go_wp2_with fail
   go_loopw[25] (λiv wx=>(iv=I J 0/\wx=wr)\/(iv=I J 1/\P (k+1) wx)) (λiv _=>1- (intOf iv).toNat)
   case atStart=>exact .inl ⟨rfl,rfl⟩
   case round=>
    rcases hrel with⟨rfl,rfl⟩|⟨rfl,hP⟩
    ·go_wp2_with fail;refine(vx.o ⟨#[]⟩).mono ?_;rintro e w3 ⟨rfl,hP3⟩;dsimp only;have pr:=O (HSK.o _ hP3);clear hP3;go_wp2_with fail;refine pr.o.mono ?_;rintro e w4 ⟨rfl,hP4⟩;dsimp only;have HP4:=O hP4;clear hP4;go_wp2_with fail;exact⟨.inr ⟨rfl,HP4.o⟩,by simp[intOf]⟩
    ·have xn:=O hP;clear hP;go_wp2_with fail;exact⟨⟨k+1,by have:=Ts.o;omega,rfl,xn.o⟩,by have:=Ts.o;simp[intOf];omega⟩
  ·obtain rfl:k=2:=by omega
   have PM:=O (HG.o wr hP);clear hlt hk x2 xl gl;go_wp2_with fail;refine PM.o.mono ?_;rintro e w5 (⟨rfl,Y3⟩|⟨q,c,rfl,hq,Y3⟩)
   ·dsimp only;have OU:=O Y3;clear Y3;go_wp2_with fail
    go_loop[46] (λiv=>iv=I J 0) (λ_=>0)
    case atStart=>exact rfl
    case round=>
     subst hrel;have HDT:=O (HD.o _ OU.o);go_wp2_with fail;refine HDT.o.mono ?_;rintro e w7 ⟨rfl,VL⟩;dsimp only;have HP7:=O VL;obtain⟨x2,_,xl,gl⟩:=tB.o w7 (HA.o 3 w7 VL);clear VL;go_wp2_with fail
     go_loopw[61] (λiv wx=>∃k:Nat,k<=2/\iv=I J k/\P 3 wx) (λiv _=>2- (intOf iv).toNat)
     case atStart=>exact⟨0,by omega,rfl,HP7.o⟩
     case round=>
      obtain⟨k,hk,rfl,hP⟩:=hrel;by_cases hlt:k<2
      ·have jq:(k:Int)<2:=by omega
       have HEK:=O (HE.o k hlt _ hP);have Ts:=O hlt;clear hP hlt hk x2 xl gl;go_wp2_with fail;refine HEK.o.mono ?_;rintro e w8 ⟨rfl,Y4⟩;dsimp only;have HP8:=O Y4;clear Y4;go_wp2_with fail;exact⟨⟨k+1,by have:=Ts.o;omega,rfl,HP8.o⟩,by have:=Ts.o;simp[intOf];omega⟩
      ·obtain rfl:k=2:=by omega
       have HFF:=O (HF.o _ hP);clear hP hlt hk x2 xl gl;go_wp2_with fail;refine HFF.o.mono ?_;rintro e w9 ⟨A9,n9,c9,rfl,Y5⟩;dsimp only;have QR:=O Y5;clear Y5;go_wp2_with fail;go_ret;exact⟨_,rfl,QR.o⟩
   ·dsimp only;have HKK:=O (HK.o w5 Y3);clear Y3;go_wp2_with fail
    go_loopw[46] (λiv wx=>(iv=I J 0/\wx=w5)\/(iv=I J 1/\P 3 wx)) (λiv _=>1- (intOf iv).toNat)
    case atStart=>exact .inl ⟨rfl,rfl⟩
    case round=>
     rcases hrel with⟨rfl,rfl⟩|⟨rfl,Y6⟩
     ·go_wp2_with fail;refine HKK.o.mono ?_;rintro e w6 ⟨rfl,Y6⟩;dsimp only;have OJ:=O Y6;clear Y6;go_wp2_with fail;exact⟨.inr ⟨rfl,OJ.o⟩,by simp[intOf]⟩
     ·have OJ:=O Y6;clear Y6 hq;have HDT:=O (HD.o _ OJ.o);go_wp2_with fail;refine HDT.o.mono ?_;rintro e w7 ⟨rfl,VL⟩;dsimp only;have HP7:=O VL;obtain⟨x2,_,xl,gl⟩:=tB.o w7 (HA.o 3 w7 VL);clear VL;go_wp2_with fail
      go_loopw[61] (λiv wx=>∃k:Nat,k<=2/\iv=I J k/\P 3 wx) (λiv _=>2- (intOf iv).toNat)
      case atStart=>exact⟨0,by omega,rfl,HP7.o⟩
      case round=>
       obtain⟨k,hk,rfl,hP⟩:=hrel;by_cases hlt:k<2
       ·have jq:(k:Int)<2:=by omega
        have HEK:=O (HE.o k hlt _ hP);have Ts:=O hlt;clear hP hlt hk x2 xl gl;go_wp2_with fail;refine HEK.o.mono ?_;rintro e w8 ⟨rfl,Y4⟩;dsimp only;have HP8:=O Y4;clear Y4;go_wp2_with fail;exact⟨⟨k+1,by have:=Ts.o;omega,rfl,HP8.o⟩,by have:=Ts.o;simp[intOf];omega⟩
       ·obtain rfl:k=2:=by omega
        have HFF:=O (HF.o _ hP);clear hP hlt hk x2 xl gl;go_wp2_with fail;refine HFF.o.mono ?_;rintro e w9 ⟨A9,n9,c9,rfl,Y5⟩;dsimp only;have QR:=O Y5;clear Y5;go_wp2_with fail;go_ret;exact⟨_,rfl,QR.o⟩
end
end Go.Proofs.YtmaimjajdbgmiaaGreatDoor
namespace Go.Proofs.YtmaimjajdbgmiaaGreatDoor
open Go.Lib Go.RowKit
theorem nh:two.size<=32:=qi (by decide) (by decide)
theorem Y7(j:Nat):Few (fX j).sh:=λk hk=>by
 match j,k,hk with
 |0,_,_=>exact .inl rfl
 |1,0,_|1,1,_|2,1,_|3,1,_|4,1,_|5,1,_|j+6,0,_|j+6,1,_=>exact .inl rfl
 |2,0,_|3,0,_|4,0,_|5,0,_=>exact .inr ⟨0,rfl⟩
structure Y8(j:Nat)(x:eF)(c:bQ):Prop where
 dr:(fX j).dr=[x]
 nx:df jU 0 x=G (0,c)
 ok:LD iM ((fX j).sh 0) c
 co:(fS ((fX j).sh 0) c).2.code≠1
 rw_:rM (fS ((fX j).sh 0) c).2
 k5:c.kind=5->j=4
 ph:x.ph≠8
theorem Y8.of{j:Nat}{x:eF}{c:bQ}{r:dh}(dr:(fX j).dr=[x])(nx:df jU 0 x=G (0,c))(ok:LD iM ((fX j).sh 0) c)(hr:(fS ((fX j).sh 0) c).2=r)(hc:r.code=0)(hv:r.val=emp)(k5:c.kind=5->j=4)(ph:x.ph≠8):Y8 j x c:=
 ⟨dr,nx,ok,by rw[hr,hc];decide,by rw[hr];exact⟨by rw[hv];decide,λ_=>hv⟩,k5,ph⟩
theorem EP(j:Nat)(hj:j<6): ∃x c,Y8 j x c:=by
 match j,hj with
 |0,_=>exact⟨bW,{bk 1 0 0 with aY:=1},.of (r:=gX 1 0) rfl rfl ⟨⟨by decide,by decide,by decide,by decide,by decide,by decide,by decide,by decide⟩,⟨by decide,by decide,by decide,λ_=>by decide,by decide,by decide,(λh=>by cases h),by decide⟩,λh=>(by rcases h with h|h|h<;>cases h),λh=>(by cases h),λx v h=>(by cases h),by decide⟩ rfl rfl rfl (λh=>by cases h) (by decide)⟩
 |1,_=>exact⟨⟨0,1,0,U,U,[],[0],[],1⟩,cA 2 0 iM emp 2 false,.of (r:=cL) rfl rfl ⟨⟨by decide,by decide,by decide,by decide,by decide,by decide,by decide,by decide⟩,⟨by decide,by decide,by decide,(λh=>by cases h),by decide,by decide,λ_=>rfl,by decide⟩,λ_=>rfl,λh=>(by cases h),λx v h=>(by cases h),by decide⟩ rfl rfl rfl (λh=>by cases h) (by decide)⟩
 |2,_=>exact⟨⟨0,3,0,U,U,[],[0],[],1⟩,cA 3 1 iM emp 0 false,.of (r:=⟨0,0,emp,false⟩) rfl rfl ⟨⟨by decide,by decide,by decide,by decide,by decide,by decide,by decide,by decide⟩,⟨by decide,by decide,by decide,(λh=>by cases h),by decide,by decide,(λh=>by cases h),by decide⟩,λ_=>rfl,λh=>(by cases h),λx v h h2=>(by
  have h:G (⟨0,cA 2 0 iM emp 2 false,U⟩:cG)=G x:=h;injection h with h;subst h;cases h2),by decide⟩ rfl rfl rfl (λh=>by cases h) (by decide)⟩
 |3,_=>
  have hr:cR (cA 4 2 iM two 0 true)=true:=by
   unfold cR cA;dsimp only;rw[decide_eq_false (show¬32<two.size by have:=nh;omega)];decide
  refine⟨⟨0,4,0,G two,G two,[G two],[0],[],1⟩,cA 4 2 iM two 0 true,.of (r:=cL) rfl rfl ⟨⟨by decide,by decide,by decide,by decide,by decide,by decide,by decide,nh⟩,⟨by decide,by decide,by decide,(λh=>by cases h),by decide,by decide,(λh=>by cases h),nh⟩,λ_=>rfl,λh=>rfl,λx v h h2=>(by
   have h:G (⟨0,cA 3 1 iM emp 0 false,U⟩:cG)=G x:=h;injection h with h;subst h;cases h2),by decide⟩ ?_ rfl rfl (λh=>by cases h) (by decide)⟩
  unfold fS;rw[hr];rfl
 |4,_=>exact⟨⟨0,5,1,G two,G two,[G two],[0],[],1⟩,bk 5 0 0,.of (r:=gX 2 0) rfl rfl ⟨⟨by decide,by decide,by decide,by decide,by decide,by decide,by decide,by decide⟩,⟨by decide,by decide,by decide,(λh=>by cases h),by decide,by decide,(λh=>by cases h),by decide⟩,λh=>(by rcases h with h|h|h<;>cases h),λh=>(by cases h),λx v h h2=>(by
  have h:G (⟨0,cA 4 2 iM two 0 true,G two⟩:cG)=G x:=h;injection h with h;subst h;injection h2 with h2;subst h2;exact nh),by decide⟩ rfl rfl rfl (λ_=>rfl) (by decide)⟩
 |5,_=>exact⟨⟨0,7,1,G two,G two,[G two],[0],[0],2⟩,fy 0 0 true,.of (r:=cL) rfl rfl ⟨⟨by decide,by decide,by decide,by decide,by decide,by decide,by decide,by decide⟩,⟨by decide,by decide,by decide,(λh=>by cases h),by decide,by decide,(λh=>by cases h),by decide⟩,λh=>(by rcases h with h|h|h<;>cases h),λh=>(by cases h),λx v h h2=>(by
  have h:G (⟨0,cA 4 2 iM two 0 true,G two⟩:cG)=G x:=h;injection h with h;subst h;injection h2 with h2;subst h2;exact nh),by decide⟩ rfl rfl rfl (λh=>by cases h) (by decide)⟩
theorem VM(f:Nat->dm)(k:Nat)(a:dm):bK f k a=dP f k a:=rfl
theorem Y8.next{j:Nat}{x:eF}{c:bQ}(h:Y8 j x c):bK (fX j).sh 0 (fS ((fX j).sh 0) c).1=(fX (j+1)).sh/\(fX (j+1)).dr=[fk jU 0 x c (fS ((fX j).sh 0) c).2]:=by
 have hs:=vm j;rw[iy (d:=x) (by rw[h.dr];rfl) h.nx]at hs;have h1:=congrArg dM.sh hs;have h2:=congrArg dM.dr hs;refine⟨?_,?_⟩
 ·rw[VM];exact h1
 ·rw[<-h2,h.dr];rfl
theorem NU(j:Nat)(hj:6<=j): ∃x,(fX j).dr=[x]/\x.ph=8/\x.o=2:=by
 obtain⟨n,rfl⟩: ∃n,j=n+6:=⟨j-6,by omega⟩;exact⟨_,rfl,rfl,rfl⟩
end Go.Proofs.YtmaimjajdbgmiaaGreatDoor
namespace Go.Proofs.YtmaimjajdbgmiaaGreatDoor
open Go.Lib Go.Maps Go.RowKit
structure VN(w0 w:aw)(wb:Nat)(d:Option eF)(a:eL):Prop where
 e:Tg w wb d a
 hi: ∀g,a.F wb d g->w0.heap.size<=g
 new:M w0 w
theorem VN.next{w0 w w':aw}{wb:Nat}{d d':Option eF}{a a':eL}(h:VN w0 w wb d a)(hs:Sub (a.F wb d) (a'.F wb d') w w'):VN w0 w' wb d' a':=
 ⟨h.e.next hs,λg hg=>(hs.new g hg).elim (h.hi g) (λe=>aO h.new.size e),h.new.trans hs.ch (λg e=>.inr (h.hi g e))⟩
def RW(w0 w:aw)(wb:Nat)(a:eL)(nd j:Nat)(Q:(Nat->Md)->Prop):Prop:=
 ∃m t f b x,Q m/\fD w wb jU (2*j) nd m t (fX j).sh f (G x) b/\(fX j).dr=[x]/\a.same b/\VN w0 w wb (G x) b/\∀k,k<2->t k=(m k).log.length
def RT(w0 w:aw)(wb:Nat)(a:eL)(nd j k:Nat)(Q:(Nat->Md)->Prop):Prop:=
 ∃m t f b x,Q m/\fD w wb jU (2*j) nd (bK m k (oG (m k))) t (fX j).sh f (G x) b/\(fX j).dr=[x]/\a.same b/\VN w0 w wb (G x) b/\∀k,k<2->t k=(m k).log.length
def zT(j:Nat)(m:Nat->Md):Prop:=∀k,k<2->∃L,m k= .led L/\L.length<=1+j
section
variable{w0 w w':aw}{wb nd nd' j j' k n:Nat}{a:eL}{Q Q':(Nat->Md)->Prop}
theorem RW.aR(h:RW w0 w wb a nd j Q)(hN:M w w'):RW w0 w' wb a nd j Q:=by
 obtain⟨m,t,f,b,x,hQ,hM,hd,hs,hE,ht⟩:=h;exact⟨m,t,f,b,x,hQ,hM.aR hN,hd,hs,hE.next (Sub.bj _ hN),ht⟩
theorem RW.NV(h:RW w0 w wb a nd j Q)(hn:nd<=nd')(hQ: ∀m,Q m->Q' m):RW w0 w wb a nd' j Q':=by
 obtain⟨m,t,f,b,x,hq,hM,hd,hs,hE,ht⟩:=h;exact⟨m,t,f,b,x,hQ m hq,hM.mono (aN _) hn,hd,hs,hE,ht⟩
theorem RW.at_(h:RW w0 w wb a nd j Q):R2 w wb a:=by
 obtain⟨m,t,f,b,x,hQ,hM,hd,hs,hE,ht⟩:=h;exact⟨_,_,_,_,_,_,_,_,_,hM,hs⟩
theorem RW.tick(h:RW w0 w wb a nd j Q)(hk:k<2)(hnd:nd<=200000){dr:Int}(IU: ∀m,Q m->(m k).on=false->dr=0)(dt:ByteArray):
 ax av 47 #[X (G ⟨a.gb k,0,U⟩),aC (mT 1 dr dt)] w λe w'=>e=ay (I J 0)/\RT w0 w' wb a (nd+1500) j k Q:=by
 obtain⟨m,t,f,b,x,hQ,hM,hd,hs,hE,ht⟩:=h;have hg:=hM.gr k hk;rw[<-hs.gb];refine(VJ hg.1 (aO hg.2 hnd) (IU m hQ) dt).mono λe w' hq=>?_;obtain⟨h1,b',h2,h3⟩:=hM.Yz hk (Ch.r _ w) hq;exact⟨h1,m,t,f,_,x,hQ,h2,hd,⟨hs.1,hs.2,hs.3,hs.4,hs.5,hs.6,hs.7,hs.8,hs.9,hs.10,hs.11⟩,hE.next h3,ht⟩
theorem Ji(ag:Md):(oG ag).log=ag.log\/(ag= .wait 3/\oG ag= .led [(1,emp)]):=by
 match ag with
 | .led L=>exact .inl rfl
 | .wait s=>
   by_cases e:s=3
   ·subst e;exact .inr ⟨rfl,by simp[oG]⟩
   ·exact .inl (by simp[oG,e,Md.log])
theorem RT.settle(h:RT w0 w wb a nd j k Q)(hk:k<2)(hQ: ∀m,Q m->Q' (bK m k (oG (m k)))):
 ax av 48 #[X (G ⟨wb,0,U⟩),I J (k:Nat)] w λe w'=>e=ay (aB #[])/\RW w0 w' wb a nd j Q':=by
 obtain⟨m,t,f,b,x,hq,hM,hd,hs,hE,ht⟩:=h;rcases Ji (m k)with e|⟨e1,e2⟩
 ·have Fm: ∀i,i<2->t i=(bK m k (oG (m k)) i).log.length:=λi hi=>by
   by_cases ei:i=k
   ·subst ei;rw[bI,e];exact ht i hi
   ·rw[bC _ _ ei];exact ht i hi
  refine(tY hM hk (pg hM Fm)).mono λe w' ⟨h1,b',h2,h3,h4⟩=>⟨h1,_,t,f,b',x,hQ m hq,h2,hd,hs.trans h4,hE.next h3,Fm⟩
 ·have JW:t k=0:=by rw[ht k hk,e1];rfl
  have hl:(bK m k (oG (m k)) k).log=[(1,emp)]:=by rw[bI,e2];rfl
  refine(tY hM hk (Ev hM hk (tm:=1) (by rw[hl,JW];rfl) (λi hi hik=>by rw[bC _ _ hik];exact ht i hi) (by rw[hl,JW];rfl))).mono λe w' ⟨h1,b',h2,h3,h4⟩=>⟨h1,_,_,f,b',x,hQ m hq,h2,hd,hs.trans h4,hE.next h3,λi hi=>?_⟩;by_cases ei:i=k
  ·subst ei;rw[bI,hl,JW];rfl
  ·rw[bC _ _ ei,bC _ _ ei];exact ht i hi
theorem RW.settle(h:RW w0 w wb a nd j Q)(hk:k<2):ax av 48 #[X (G ⟨wb,0,U⟩),I J (k:Nat)] w λe w'=>e=ay (aB #[])/\RW w0 w' wb a nd j Q:=by
 obtain⟨m,t,f,b,x,hq,hM,hd,hs,hE,ht⟩:=h;exact(tY hM hk (pg hM ht)).mono λe w' ⟨h1,b',h2,h3,h4⟩=>⟨h1,m,t,f,b',x,hq,h2,hd,hs.trans h4,hE.next h3,ht⟩
theorem RW.det(h:RW w0 w wb a nd j Q):ax av 51 #[X (G ⟨wb,0,U⟩)] w λe w'=>e=ay (aB #[])/\RW w0 w' wb a nd j Q:=by
 have hh:=h;obtain⟨m,t,f,b,x,hq,hM,hd,hs,hE,ht⟩:=h;exact(R1 hM (Y7 j) hE.e.tN).mono λe w' ⟨h1,h2⟩=>⟨h1,hh.aR h2⟩
theorem RW.going(h:RW w0 w wb a nd j Q):ax av 49 #[X (G ⟨wb,0,U⟩)] w λe w'=>(e=ay (T U 0 0)/\6<=j/\RW w0 w' wb a nd j Q)\/(∃q c,e=ay (T (G ⟨q,0,U⟩) 1 c)/\w'.cell? ⟨q,0,U⟩=G (I J 0)/\j<6/\RW w0 w' wb a nd j Q):=by
 have hh:=h;obtain⟨m,t,f,b,x,hq,hM,hd,hs,hE,ht⟩:=h;by_cases hj:j<6
 ·obtain⟨y,c,F⟩:=EP j hj;have e:=F.dr;rw[hd]at e;injection e with e _;subst e;exact(Vm hM F.ph).mono λe w' ⟨q,c,h1,h2,_,_,h3⟩=>.inr ⟨q,c,h1,h2,hj,hh.aR h3⟩
 ·obtain⟨y,e,h8,ho⟩:=NU j (by omega);rw[hd]at e;injection e with e _;subst e;exact(Vl hM h8 ho).mono λe w' ⟨h1,h2⟩=>.inl ⟨h1,by omega,h2▸hh⟩
theorem RW.ends(h:RW w0 w wb a nd j Q):ax av 49 #[X (G ⟨wb,0,U⟩)] w λe w'=>∃A n c,e=ay (T A n c)/\RW w0 w' wb a nd j Q:=
 h.going.mono λe w' h=>by
   rcases h with⟨h1,_,h2⟩|⟨q,c,h1,_,_,h2⟩
   ·exact⟨_,_,_,h1,h2⟩
   ·exact⟨_,_,_,h1,h2⟩
theorem RW.NW(h:RW w0 w wb a nd j Q)(hj:j<6)(hQ: ∀m,Q m->∃s,m 0= .wait s):ax av 50 #[X (G ⟨wb,0,U⟩),I J 0] w λe w'=>e=ay (aB #[])/\RW w0 w' wb a nd j Q:=by
 have hh:=h;obtain⟨m,t,f,b,x,hq,hM,hd,hs,hE,ht⟩:=h;obtain⟨y,c,F⟩:=EP j hj;have e:=F.dr;rw[hd]at e;injection e with e _;subst e;obtain⟨s,hm⟩:=hQ m hq;exact(IW hM F.nx (by omega) hm).mono λe w' ⟨h1,h2⟩=>⟨h1,hh.aR h2⟩
theorem RW.Gv(h:RW w0 w wb a nd j (zT j))(hj:j<6)(hnd:nd<=200000):ax av 50 #[X (G ⟨wb,0,U⟩),I J 0] w λe w'=>e=ay (aB #[])/\RW w0 w' wb a (nd+1500) (j+1) (zT (j+1)):=by
 obtain⟨m,t,f,b,x,hq,hM,hd,hs,hE,ht⟩:=h;obtain⟨y,c,F⟩:=EP j hj;have e:=F.dr;rw[hd]at e;injection e with e _;subst e;obtain⟨L,hm,hL⟩:=hq 0 (by omega);obtain⟨n1,n2⟩:=F.next;have:=Np hM F.nx (by omega) hm (by omega) hnd ht (by omega) F.ok F.co (λh=>by have:=F.k5 h;omega) hE.e F.rw_;rw[n1]at this;refine this.mono λe w' ⟨h1,b',h2,h3,h4⟩=>⟨h1,_,_,_,b',_,λi hi=>?_,h2,n2,hs.trans h4,hE.next h3,λi hi=>?_⟩
 ·by_cases ei:i=0
  ·subst ei;rw[bI];exact⟨_,rfl,by simp;omega⟩
  ·rw[bC _ _ ei];obtain⟨L',h1,h2⟩:=hq i hi;exact⟨L',h1,by omega⟩
 ·by_cases ei:i=0
  ·subst ei;rw[bI,bI,ht 0 hi,hm];simp[Md.log]
  ·rw[bC _ _ ei,bC _ _ ei];exact ht i hi
theorem sg{Qs:Nat->(Nat->Md)->Prop}(h:RW w0 w wb a nd j (Qs 0))(hn:n<=1000)(hnd:nd<=190000)(JW: ∀k,k<2->∀m,Qs k m->Qs (k+1) (bK m k (oG (m k))))(IU: ∀k,k<2->∀m,Qs k m->(m k).on=false->(n:Int) / 20%4=0)
 (mr:6<=j->j'=j/\∀m,Qs 2 m->Q' m) (qg4: ∀w,j<6->RW w0 w wb a (nd+3000) j (Qs 2)->ax av 50 #[X (G ⟨wb,0,U⟩),I J 0] w λe w'=>e=ay (aB #[])/\RW w0 w' wb a (nd+4500) j' Q'):
 ax av 17 #[X (G ⟨wb,0,U⟩),I J (n:Nat)] w λe w'=>∃z:Int,e=ay (I J z)/\RW w0 w' wb a (nd+4500) j' Q':=by
 let P:Nat->aw->Prop:=λi w=>if i=3 then RW w0 w wb a (nd+4500) j' Q' else RW w0 w wb a (nd+1500*min i 2) j (Qs (min i 2))
 have e0:P 0=λw=>RW w0 w wb a nd j (Qs 0):=rfl;have e2:P 2=λw=>RW w0 w wb a (nd+3000) j (Qs 2):=rfl;have e3:P 3=λw=>RW w0 w wb a (nd+4500) j' Q':=rfl;have ek: ∀k,k<2->P k=λw=>RW w0 w wb a (nd+1500*k) j (Qs k):=λk hk=>by
  match k,hk with
  |0,_=>rfl
  |1,_=>rfl
 have ek1: ∀k,k<2->P (k+1)=λw=>RW w0 w wb a (nd+1500*k+1500) j (Qs (k+1)):=λk hk=>by
  match k,hk with
  |0,_=>rfl
  |1,_=>rfl
 have key:=VK (w:=w) (wb:=wb) (a:=a) (n:=n) (P:=P) (P':=λk w=>RT w0 w wb a (nd+1500*k+1500) j k (Qs k)) (Pa:=λw=>j<6/\RW w0 w wb a (nd+3000) j (Qs 2)) h hn (λi w hP=>by
  by_cases e:i=3
  ·subst e;exact RW.at_ (show RW w0 w wb a (nd+4500) j' Q' from hP)
  ·have hP:if i=3 then RW w0 w wb a (nd+4500) j' Q' else RW w0 w wb a (nd+1500*min i 2) j (Qs (min i 2)):=hP;rw[if_neg e]at hP;exact hP.at_) (λk hk w hP dt=>?_) (λk hk w hP=>?_) (λw hP=>?_) (λw hP=>?_) (λw hP=>?_) (λk hk w hP=>?_) (λw hP=>?_)
 ·exact key
 ·rw[ek k hk]at hP;exact RW.tick hP hk (by omega) (IU k hk) dt
 ·rw[ek1 k hk];exact RT.settle hP hk (JW k hk)
 ·rw[e2]at hP;refine(RW.going hP).mono λe w' h=>?_;rcases h with⟨h1,h6,h2⟩|⟨q,c,h1,hc,h6,h2⟩
  ·obtain⟨rfl,hQ⟩:=mr h6;exact .inl ⟨h1,h2.NV (by omega) hQ⟩
  ·exact .inr ⟨q,c,h1,hc,h6,h2⟩
 ·exact qg4 w hP.1 hP.2
 ·exact RW.det hP
 ·exact RW.settle hP hk
 ·exact RW.ends hP
theorem ER(hn:n<3)(h:RW w0 w wb a nd 0 (λm=>∀k,k<2->m k= .wait n))(hnd:nd<=190000):
 ax av 17 #[X (G ⟨wb,0,U⟩),I J (n:Nat)] w λe w'=>∃z:Int,e=ay (I J z)/\RW w0 w' wb a (nd+4500) 0 (λm=>∀k,k<2->m k= .wait (n+1:Nat)):=by
 refine sg (Qs:=λi m=>∀k,k<2->m k= .wait (if k<i then((n:Int)+1)else n)) (h.NV (aN _) (λm hm k hk=>by rw[hm k hk,if_neg (by omega)])) (by omega) hnd (λi hi m hm k hk=>?_) (λk hk m hm _=>by omega) (λh=>by omega) (λw hj h=>?_)
 ·by_cases e:k=i
  ·subst e;rw[bI,hm k hk,if_neg (by omega),if_pos (by omega)];show(if(n:Int)=3 then _ else _)=_;rw[if_neg (by omega)]
  ·rw[bC _ _ e,hm k hk];by_cases e2:k<i
   ·rw[if_pos e2,if_pos (by omega)]
   ·rw[if_neg e2,if_neg (by omega)]
 ·refine(h.NW hj (λm hm=>⟨_,hm 0 (by omega)⟩)).mono λe w' ⟨h1,h2⟩=>⟨h1,h2.NV (by omega) (λm hm k hk=>by rw[hm k hk,if_pos hk];rfl)⟩
theorem Cu(h:RW w0 w wb a nd 0 (λm=>∀k,k<2->m k= .wait 3))(hnd:nd<=190000):
 ax av 17 #[X (G ⟨wb,0,U⟩),I J (3:Nat)] w λe w'=>∃z:Int,e=ay (I J z)/\RW w0 w' wb a (nd+4500) 1 (zT 1):=by
 refine sg (Qs:=λi m=>∀k,k<2->m k=if k<i then .led [(1,emp)]else .wait 3) (h.NV (aN _) (λm hm k hk=>by rw[hm k hk,if_neg (by omega)])) (by omega) hnd (λi hi m hm k hk=>?_) (λk hk m hm _=>by decide) (λh=>by omega) (λw hj h=>?_)
 ·by_cases e:k=i
  ·subst e;rw[bI,hm k hk,if_neg (by omega),if_pos (by omega)];rfl
  ·rw[bC _ _ e,hm k hk];by_cases e2:k<i
   ·rw[if_pos e2,if_pos (by omega)]
   ·rw[if_neg e2,if_neg (by omega)]
 ·exact RW.Gv (h.NV (aN _) (λm hm k hk=>by rw[hm k hk,if_pos hk];exact⟨_,rfl,by simp⟩)) hj (by omega)
theorem Jj(h:RW w0 w wb a nd j (zT j))(hj:j<=6)(hn:n<=1000)(hnd:nd<=190000):
 ax av 17 #[X (G ⟨wb,0,U⟩),I J (n:Nat)] w λe w'=>∃z:Int,e=ay (I J z)/\RW w0 w' wb a (nd+4500) (min (j+1) 6) (zT (min (j+1) 6)):=by
 refine sg (Qs:=λi m=>zT j m) h hn hnd (λi hi m hm k hk=>?_) (λk hk m hm ho=>?_) (λh6=>?_) (λw hj h=>?_)
 ·obtain⟨L,h1,h2⟩:=hm k hk;by_cases e:k=i
  ·subst e;rw[bI,h1];exact⟨L,rfl,h2⟩
  ·rw[bC _ _ e];exact⟨L,h1,h2⟩
 ·obtain⟨L,h1,h2⟩:=hm k hk;rw[h1]at ho;cases ho
 ·have e:j=6:=by omega
  subst e;exact⟨rfl,λm hm=>hm⟩
 ·rw[show min (j+1) 6=j+1 by omega];exact RW.Gv h hj (by omega)
def RQ(w0 w:aw)(wb:Nat)(a:eL)(n:Nat):Prop:=if n<=3 then RW w0 w wb a (4500*n) 0 (λm=>∀k,k<2->m k= .wait n)else RW w0 w wb a (4500*n) (min (n-3) 6) (zT (min (n-3) 6))
theorem R3(h:RQ w0 w wb a n)(hn:n<30):ax av 17 #[X (G ⟨wb,0,U⟩),I J (n:Nat)] w λe w'=>∃z:Int,e=ay (I J z)/\RQ w0 w' wb a (n+1):=by
 unfold RQ at h⊢;by_cases h3:n<3
 ·rw[if_pos (by omega)]at h;refine(ER h3 h (by omega)).mono λe w' ⟨z,h1,h2⟩=>⟨z,h1,?_⟩;rw[if_pos (by omega),show 4500*(n+1)=4500*n+4500 by omega];exact h2
 ·by_cases h4:n=3
  ·subst h4;rw[if_pos (by omega)]at h;exact(Cu h (by omega)).mono λe w' ⟨z,h1,h2⟩=>⟨z,h1,h2⟩
  ·rw[if_neg (by omega)]at h;refine(Jj h (by omega) (by omega) (by omega)).mono λe w' ⟨z,h1,h2⟩=>⟨z,h1,?_⟩;rw[if_neg (by omega),show 4500*(n+1)=4500*n+4500 by omega,show min (n+1-3) 6=min (min (n-3) 6+1) 6 by omega];exact h2
end
section
variable{w w':aw}{wb aZ nd k:Nat}{C:Cf}{m:Nat->Md}{t:Nat->Nat}{sh:Nat->dm}{f:Nat->Int->Option (bQ×dh)}{d:Option eF}{a:eL}
theorem VX(h:fD w wb C aZ nd m t sh f d a)(hC:C.h<2)(cp:aZ<=1000000):ax av 18 #[X (G ⟨wb,0,U⟩),V C.key] w λe w'=>e=ay (aB #[V (eP (sh C.h).cur),Y (fB (sh C.h).cur)])/\M w w':=by
 have HO:=O (show ax av 37 #[X (G ⟨a.wR,0,U⟩),V C.key] w (λe w'=>e=ay (I J (C.h:Nat))/\M w w')from by have:=nK h.ig.m C.key;rw[h.ig.S3]at this;exact this);have HA:=O (λw' (hN:M w w')=>atW (h.aR hN) hC);have HV:=O (λw' (hN:M w w')=>uF ((h.aR hN).rp _ hC).sh cp);have x0:=h.aW.c 0;have xl:=h.aW.lt;clear h;go_enter func18,ntmps18;go_wp2_with fail;refine HO.o.mono ?_;rintro e w2 ⟨rfl,hN⟩;dsimp only;have HN:=O hN;clear hN x0 xl;go_wp2_with fail;refine(HA.o _ HN.o).mono ?_;rintro e w3 ⟨rfl,rfl⟩;dsimp only;go_wp2_with fail;refine(HV.o _ HN.o).mono ?_;rintro e w4 ⟨rfl,pV⟩;dsimp only;have dQ:=O (show M w w4 from HN.o.t pV);clear pV;go_wp2_with fail;go_ret2;exact⟨rfl,dQ.o⟩
end
section
variable{w w':aw}{wb:Nat}{aq ar:aw->Prop}{A:Option Addr}{n c:Nat}
abbrev Zs(A:Option Addr)(n c:Nat):Array Value:=#[I J 2,I J 0,I J 0,I J 0,I J 0,I J 0,I J 0,I J 0,I J 0,I J 0,I J 0,I .u8 0,V ⟨#[]⟩,T A n c]
theorem Zt(hs: ∀w1,M w w1->ax av 84 #[X (G ⟨wb,0,U⟩),T A n c] w1 λe w'=>e=ay (I J 0)/\aq w'):ax av 45 #[X (G ⟨wb,0,U⟩),aC (Zs A n c)] w λe w'=>e=ay (I J 0)/\aq w':=by
 have HB:=O (aX.new w 52 (Zs A n c));have HS:=O (hs _ ((Ch.r _ w).alloc (az (Zs A n c) 52)));have x0:=HB.o.c 0;have o9:=HB.o.c 13;clear hs;go_enter func45,ntmps45;go_wp2_with fail;refine HS.o.mono ?_;rintro e w2 ⟨rfl,hX⟩;dsimp only;have HX:=O hX;clear hX;go_wp2_with fail;go_ret;exact⟨rfl,HX.o⟩
theorem doW(hs: ∀w1,M w w1->ax av 84 #[X (G ⟨wb,0,U⟩),T A n c] w1 λe w'=>e=ay (I J 0)/\aq w')(hf: ∀w1,aq w1->ax av 44 #[X (G ⟨wb,0,U⟩)] w1 λe w'=>e=ay (aB #[])/\ar w'):
 ax av 16 #[X (G ⟨wb,0,U⟩),aC (Zs A n c)] w λe w'=>e=ay (I J 0)/\ar w':=by
 have HD:=O (λw1 (hN:M w w1)=>Zt (A:=A) (n:=n) (c:=c) (wb:=wb) (aq:=aq) (λw2 iD=>hs w2 (hN.t iD)));have HF:=O hf;clear hs hf;go_enter func16,ntmps16;go_wp2_with fail;refine(HD.o _ ((Ch.r _ w).alloc _)).mono ?_;rintro e w2 ⟨rfl,hX⟩;dsimp only;have tI:=O (HF.o _ hX);clear hX;go_wp2_with fail;refine tI.o.mono ?_;rintro e w3 ⟨rfl,hY⟩;dsimp only;have HY:=O hY;clear hY;go_wp2_with fail;go_ret;exact⟨rfl,HY.o⟩
end
section
variable{w w1 w2 w':aw}{wb aZ nd k db:Nat}{C:Cf}{m:Nat->Md}{t:Nat->Nat}{sh:Nat->dm}{f:Nat->Int->Option (bQ×dh)}{a:eL}{e:qo}{v:Value}{A:Option Addr}{c:Nat}
theorem fD.EE(h:fD w wb C aZ nd m t sh f U a)(hD:ey w' db a.wR C 0 bW e)(hF: ∀g,e.F db bW g->w.heap.size<=g)(ho:w'.ownsRow 0 99 2 (T A 1 c) 1 [X (G ⟨db,0,U⟩),v])(hA: ∀g,(T A 1 c).ownBlock=G g->w.heap.size<=g)(Tp: ∀g,(T A 1 c).ownBlock=G g->¬e.F db bW g)
 (hv: ∃A n c,v=T A n c) (hC:Ch (λg=>g=wb) w w') (hb:aX w' wb 91 (Vg C {a with cA:=A,cc:=c,pl:=v,db:=db,da:=e} (G bW))):
 fD w' wb C aZ nd m t sh f (G bW) {a with cA:=A,cc:=c,pl:=v,db:=db,da:=e}/\Sub (a.F wb U) (eL.F {a with cA:=A,cc:=c,pl:=v,db:=db,da:=e} wb (G bW)) w w':=by
 have K:=h.oC 0 hC;have CH: ∀i g,i≠6->i≠7->eL.P {a with cA:=A,cc:=c,pl:=v,db:=db,da:=e} wb (G bW) i g->a.P wb U i g:=λi g h6 h7 hg=>by
  match i,hg with
  |0,hg|1,hg|2,hg|3,hg|4,hg|5,hg=>exact hg
  |6,_=>exact(h6 rfl).elim
  |7,_=>exact(h7 rfl).elim
  |i+8,hg=>exact hg
 have n6: ∀g,eL.P {a with cA:=A,cc:=c,pl:=v,db:=db,da:=e} wb (G bW) 6 g->(T A 1 c).ownBlock=G g:=λg hg=>hg;have n7: ∀g,eL.P {a with cA:=A,cc:=c,pl:=v,db:=db,da:=e} wb (G bW) 7 g->e.F db bW g:=λg ⟨x,h1,h2⟩=>by injection h1 with h1;subst h1;exact h2
 have big: ∀i g,(i=6\/i=7)->eL.P {a with cA:=A,cc:=c,pl:=v,db:=db,da:=e} wb (G bW) i g->w.heap.size<=g:=λi g hi hg=>by
  rcases hi with rfl|rfl
  ·exact hA g (n6 g hg)
  ·exact hF g (n7 g hg)
 refine⟨⟨hb,K.ig (by omega),K.xV (by omega),K.xW (by omega),K.rr (by omega) (by omega),ho,hv,λj hj=>K.gr j hj (by omega),λj hj=>K.rp j hj (by omega),λx hx=>by injection hx with hx;subst hx;exact hD,⟨λi j tG g hi hj=>?_,λi g hg=>?_⟩,h.ns,h.ord⟩,hC.mono (λg hg=>⟨0,hg⟩),λg ⟨i,hg⟩=>?_⟩
 ·by_cases i1:i=6\/i=7
  ·by_cases j1:j=6\/j=7
   ·rcases i1 with rfl|rfl<;>rcases j1 with rfl|rfl
    ·exact tG rfl
    ·exact Tp g (n6 g hi) (n7 g hj)
    ·exact Tp g (n6 g hj) (n7 g hi)
    ·exact tG rfl
   ·have h1:=big i g i1 hi;have h2:=h.iu.fC j g (CH j g (λe=>j1 (.inl e)) (λe=>j1 (.inr e)) hj);omega
  ·have h2:=h.iu.fC i g (CH i g (λe=>i1 (.inl e)) (λe=>i1 (.inr e)) hi);by_cases j1:j=6\/j=7
   ·have h1:=big j g j1 hj;omega
   ·exact h.iu.dj i j tG g (CH i g (λe=>i1 (.inl e)) (λe=>i1 (.inr e)) hi) (CH j g (λe=>j1 (.inl e)) (λe=>j1 (.inr e)) hj)
 ·by_cases i1:i=6\/i=7
  ·rcases i1 with rfl|rfl
   ·exact(ho.lt g (n6 g hg)).2
   ·exact hD.fC g (n7 g hg)
  ·exact aP (h.iu.fC i g (CH i g (λe=>i1 (.inl e)) (λe=>i1 (.inr e)) hg)) hC.size
 ·by_cases i1:i=6\/i=7
  ·exact .inr (big i g i1 hg)
  ·exact .inl ⟨i,CH i g (λe=>i1 (.inl e)) (λe=>i1 (.inr e)) hg⟩
end
section
variable{w w':aw}{wb pb aZ nd:Nat}{C:Cf}{m:Nat->Md}{t:Nat->Nat}{sh:Nat->dm}{f:Nat->Int->Option (bQ×dh)}{a:eL}
theorem Jo:(av.info? 99).map (λi=>(i.zero,i.size,i.bytes))=G (G (aC #[X U,T U 0 0]),2,32):=by kernel_rfl
theorem Sa(h:fD w wb C aZ nd m t sh f U a)(xo:a.cA=U/\a.cc=0)(hP:oB w pb C):
 ax av 84 #[X (G ⟨wb,0,U⟩),T (G ⟨pb,0,U⟩) 1 1] w λe w'=>e=ay (I J 0)/\∃a',fD w' wb C aZ nd m t sh f (G bW) a'/\Sub (a.F wb U) (a'.F wb (G bW)) w w'/\a'.oA=a.oA/\a'.on=a.on/\a'.oc=a.oc:=by
 obtain⟨i1,dX,er,eu,eK⟩:=info_parts Jo;obtain⟨hc1,OT⟩:=xo;have HH:=O h;have dB:=O (show M w w.drew from aU w);have gI:=O (show ax av 59 #[I J 0,I J 1,X (G ⟨a.wR,0,U⟩),T (G ⟨pb,0,U⟩) 1 1,I J C.tries] w.drew λe w'=>
  ∃db b,e=ay (aB #[X (G ⟨db,0,U⟩),I J 0])/\ey w' db a.wR C 0 bW b/\(∀g,b.F db bW g->w.drew.heap.size<=g)/\M w.drew w' from BN (i:=0) (h.ig.aR dB.o) (aX.ch hP dB.o (λh=>h)) (by omega))
 have jj:=O (λw' (hN:M w w')=>Cl.uQ (c:=1) (rQ (aX.ch hP hN (λh=>h))) (by simp[Wy,Value.oneCell']) (by omega));have cZ:=O (λw' (hN:M w w')=>(show w'.cell? ⟨wb,0,U⟩=G (X (G ⟨a.wR,0,U⟩))/\w'.cell? ⟨wb,1,U⟩=G (I J C.tries)from⟨(h.aR hN).aW.c 0,(h.aR hN).aW.c 1⟩));have H34:=O (λw' (hN:M w w')=>show w'.cell? ⟨wb,4,U⟩=G (T U 0 0)from by have:=(h.aR hN).aW.c 4;rw[this];simp[hc1,OT,JT]);have x4:=H34.o _ (Ch.r _ w);have⟨x0,x1⟩:=cZ.o _ (Ch.r _ w);have xl:=h.aW.lt;have Wx:IntKind.i64.wrap 1=1:=by decide
 clear h hP hc1 OT;go_enter func84,ntmps84;go_upto_region 4 with(fail)
 go_cut[6,7] (λv6 v7 wr=>∃db e,v6=X (G ⟨db,0,U⟩)/\v7=I J 0/\ey wr db a.wR C 0 bW e/\(∀g,e.F db bW g->w.heap.size<=g)/\M w wr)
 case first=>
  go_region_held3(λw'=>w'.cell? ⟨wb,0,U⟩=G (X (G ⟨a.wR,0,U⟩))/\w'.cell? ⟨wb,1,U⟩=G (I J C.tries))
   (first|with_reducible exact cZ.o _ dB.o|with_reducible exact cZ.o _ jn.o|fail)
   (first
     |(go_at_call 59;(with_reducible refine gI.o.mono ?_);rintro e w4 ⟨db,e4,rfl,hD,hF,hN⟩
       dsimp only;have Nj:=O hD;have B9:=O hF;have jn:=O (show M w w4 from dB.o.t hN);clear hD hF hN)
     |fail)
  all_goals
   go_wp2_with fail;go_meet;exact⟨db,e4,rfl,rfl,Nj.o,B9.o,jn.o⟩
 case rest=>
  obtain⟨db,e4,rfl,rfl,hD,hF,hN⟩:=hcut;have Nj:=O hD;have B9:=O hF;have dQ:=O hN;clear hD hF hN x0 x1 x4 xl;have H4:=O (HH.o.aR dQ.o);have x4:=H34.o _ dQ.o;have xl:=H4.o.aW.lt;have VF:=O (λw' (hN:M wc w')=>jj.o w' (dQ.o.t hN));have Nt:=O (show M wc wc.drew from aU wc);go_upto_region 7 with(fail);have sK:=O (λ(ar w8:aw) (hC:M wc ar) (hg:ar.grownBy w8 (T U 0 0).ownBlock)=>show aX w8 wb 91 (Vg C a U)from
   (H4.o.aW.ch hC (λh=>h)).grown hg (by intro e;cases e))
  go_region_law(first
   |(refine bL _ rfl (.tmp 38) (.tmp 43) 89 rfl 0 99 i1 _ 2 32 underlying89 dX er eu eK rfl (by decide) (T U 0 0) 0 [] (by simp[Act.eval]) (World.ownsRow_nil _ _ _ _) (w5.heap.size+1) (G ⟨w5.heap.size,0,U⟩) 1 1 [X (G ⟨db,0,U⟩),T pA 1 pc] (by simp[Act.eval]) (cD w5 99 #[X (G ⟨db,0,U⟩),T pA 1 pc] 1 2 rfl) (by simp[Value.oneCell']) (by unfold maxLen;omega) (by omega) (by omega) ?_
     intro v9 w9 cC gV fl;obtain⟨A9,c9,rfl⟩:=bz cC;have mS:=O cC;have rF:=O fl;have gj:=O (sK.o _ w9 (ff.o.alloc _) gV);have nY:=O (Ch.bF gV);clear cC gV fl;have u4:=gj.o.c 4;have ul:=gj.o.lt;have uf:=gj.o.frozen)
   |(go_simp;go_at_call 60;(refine(VF.o _ Nt.o).mono ?_);rintro e w5 ⟨pA,pc,rfl,ho,hN⟩;have ff:=O (show M wc w5 from Nt.o.t hN);clear ho hN;dsimp only;have H5:=O (H4.o.aR ff.o);have x4:=H34.o _ (dQ.o.t ff.o);have xl:=H5.o.aW.lt))
  all_goals
   have IM:=O (show M wc w9 from((ff.o.alloc _).t (nY.o.mono (λk hk=>by cases hk))));have HX9:=O (show∀g,(T A9 1 c9).ownBlock=G g->wc.heap.size<=g from λk hk=>by
    rcases rF.o with e|e
    ·have e:(T A9 1 c9).ownBlock=U:=e;rw[e]at hk;cases hk
    ·have e:(T A9 1 c9).ownBlock=G _:=e;rw[e]at hk;injection hk with hk;have hk:w5.heap.size+1=k:=by first|exact hk|simpa using hk
     have:=ff.o.size;omega)
   clear x4 xl u4 ul uf;have hlt:=HH.o.aW.lt;have hle:=dQ.o.size;have hS:=(Ch.r (λg=>g=wb) w9).setCell (p:=⟨wb,4,U⟩) (.inl rfl) (T A9 1 c9);have HU:=O (HH.o.EE (e:=e4) (v:=T pA 1 pc) (A:=A9) (c:=c9) ((Nj.o.aR IM.o).ch hS (λg hg e=>by have:=B9.o g hg;omega)) B9.o (bg mS.o hS (λg hg e=>by have:=HX9.o g hg;omega)) (λg hg=>aO hle (HX9.o g hg)) (λg hg hg2=>absurd (Nj.o.fC g hg2) (Nat.not_lt.2 (HX9.o g hg))) ⟨_,_,_,rfl⟩ (((dQ.o.t IM.o).mono (λ_ h=>h.elim)).t hS) (bu (gj.o.bm 4 (T A9 1 c9)) (by simp[JT])));clear hS;go_wp2_with fail;go_ret;exact⟨rfl,_,HU.o.1,HU.o.2,rfl,rfl,rfl⟩
end
section
variable{w w1 w2 w':aw}{P P':Nat->Nat->Prop}{F ae:Nat->Prop}
theorem eG.grow(h:eG w P)(hN:M w w1)(i j:Nat)(tG:i≠j)(hj: ∀g,¬P j g)(hF: ∀g,F g->w.heap.size<=g)(hFi:oo F w1)(zF:Ch (P i) w1 w2)(hat: ∀g,ae g->P i g\/w1.heap.size<=g)(hO:oo ae w2)(o8:Ch (P 0) w2 w')
 (hP: ∀n g,P' n g->(n=i->ae g)/\(n=j->F g)/\(n≠i->n≠j->P n g)):eG w' P'/\Ch (λg=>P 0 g\/P i g) w w'/\Sub (JI P) (JI P') w w':=by
 obtain⟨p1,s1⟩:=h.Ru (P':=th P j F) hN j hj hF hFi (λn g hg=>by
  by_cases e:n=j
  ·subst e;rw[gG]at hg;exact⟨λ_=>hg,λh=>absurd rfl h⟩
  ·rw[cM P F e]at hg;exact⟨λh=>absurd h e,λ_=>hg⟩)
 obtain⟨p2,s2⟩:=p1.tC (P':=P') i (F:=ae) (by rw[cM P F tG];exact⟨zF,hat⟩) hO (λn g hg=>⟨λe=>(hP n g hg).1 e,λe=>by
  by_cases ej:n=j
  ·subst ej;rw[gG];exact(hP n g hg).2.1 rfl
  ·rw[cM P F ej];exact(hP n g hg).2.2 e ej⟩)
 have hC:Ch (λg=>P 0 g\/P i g) w w':=((hN.mono (λ_ h=>h.elim)).t (zF.mono (λg e=>.inr e))).t (o8.mono (λg e=>.inl e));exact⟨p2.mono o8.size,hC,hC.mono (λg e=>e.elim (λe=>⟨0,e⟩) (λe=>⟨i,e⟩)),λg hg=>(s1.trans s2).new g hg⟩
end
def eL.Q(a:eL)(wb n p r:Nat):Nat->Nat->Prop
 |0=>λg=>g=wb
 |1=>oz a.wR a.rA a.M6.length a.rc
 |2=>λg=>(T a.gA 2 a.gc).ownBlock=G g
 |3=>λg=>(T a.pA 2 a.pc).ownBlock=G g
 |k+4=>λg=>if k%3=0 then k / 3<n/\(a.ga (k / 3)).F (a.gb (k / 3)) g else if k%3=1 then k / 3<p/\g=a.rr (k / 3)else k / 3<r/\(a.pa (k / 3)).F (a.pb (k / 3)) g
def Sb(f:Nat->Nat)(n:Nat):List Value:=(List.range n).map λk=>T (G ⟨f k,0,U⟩) 1 1
abbrev WU(C:Cf)(n p:Nat)(a:eL):Array Value:=#[X (G ⟨a.wR,0,U⟩),I J C.tries,T a.gA n a.gc,T a.pA p a.pc,T U 0 0,T U 0 0]
structure qK(w0 w:aw)(wb:Nat)(C:Cf)(n p r:Nat)(a:eL):Prop where
 aW:aX w wb 91 (WU C n p a)
 ig:ie C w a.wR a.rA a.rc a.M6
 xV:w.ownsRow 0 92 1 (T a.gA n a.gc) n (mX a.gb n)
 xW:w.ownsRow 0 94 1 (T a.pA p a.pc) p (Sb a.rr p)
 rr: ∀k,k<p->aX w (a.rr k) 174 #[if k<r then X (G ⟨a.pb k,0,U⟩)else X U]
 gr: ∀k,k<n->j6 w (a.gb k) (a.ga k) (zg 0) []/\(a.ga k).dn=0
 rp: ∀k,k<r->ic w (a.pb k) C.key 0 0 iS (λ_=>U) (a.pa k)
 iu:eG w (a.Q wb n p r)
 hi: ∀i g,a.Q wb n p r i g->w0.heap.size<=g
 new:M w0 w
 no:a.cA=U/\a.cc=0/\a.oA=U/\a.on=0/\a.oc=0/\a.pl=T U 0 0
def eL.Cz(a:eL)(n gb:Nat)(b:qJ)(A:Option Addr)(c:Nat):eL:={a with gA:=A,gc:=c,gb:=bK a.gb n gb,ga:=bK a.ga n b}
def eL.Jp(a:eL)(p q:Nat)(A:Option Addr)(c:Nat):eL:={a with pA:=A,pc:=c,rr:=bK a.rr p q}
def eL.Jq(a:eL)(r pb:Nat)(b:rC):eL:={a with pb:=bK a.pb r pb,pa:=bK a.pa r b}
theorem Sc(f:Nat->Nat)(k p:Nat):Sb (bK f k p) (k+1)=Sb f k++[T (G ⟨p,0,U⟩) 1 1]:=by
 unfold Sb;rw[List.range_succ,List.map_append];congr 1
 ·exact List.map_congr_left λj hj=>by rw[bC _ _ (by have:=List.mem_range.1 hj;omega)]
 ·simp[bI]
section
variable{w0 w w1 w2 w':aw}{wb n p r k c gb q pb:Nat}{C:Cf}{a:eL}{b:qJ}{e:rC}{A:Option Addr}
theorem q0(a:eL)(wb n p r k g:Nat):a.Q wb n p r (3*k+4) g↔(k<n/\(a.ga k).F (a.gb k) g):=by
 show(if 3*k%3=0 then 3*k / 3<n/\(a.ga (3*k / 3)).F (a.gb (3*k / 3)) g else _)↔_;rw[if_pos (by omega),show 3*k / 3=k by omega]
theorem q1(a:eL)(wb n p r k g:Nat):a.Q wb n p r (3*k+5) g↔(k<p/\g=a.rr k):=by
 show(if(3*k+1)%3=0 then _ else if(3*k+1)%3=1 then(3*k+1) / 3<p/\g=a.rr ((3*k+1) / 3)else _)↔_;rw[if_neg (by omega),if_pos (by omega),show(3*k+1) / 3=k by omega]
theorem q2(a:eL)(wb n p r k g:Nat):a.Q wb n p r (3*k+6) g↔(k<r/\(a.pa k).F (a.pb k) g):=by
 show(if(3*k+2)%3=0 then _ else if(3*k+2)%3=1 then _ else(3*k+2) / 3<r/\(a.pa ((3*k+2) / 3)).F (a.pb ((3*k+2) / 3)) g)↔_;rw[if_neg (by omega),if_neg (by omega),show(3*k+2) / 3=k by omega]
theorem qK.Cz(h:qK w0 w wb C n p r a)(hN:M w w1)(hx:j6 w1 gb b (zg 0) [])(hd:b.dn=0)(hF: ∀g,b.F gb g->w.heap.size<=g)
 (ho:w2.ownsRow 0 92 1 (T A (n+1) c) (n+1) (mX a.gb n++[X (G ⟨gb,0,U⟩)])) (zF:Ch (λg=>(T a.gA n a.gc).ownBlock=G g) w1 w2)
 (hat: ∀g,(T A (n+1) c).ownBlock=G g->(T a.gA n a.gc).ownBlock=G g\/w1.heap.size<=g) (o8:Ch (λg=>g=wb) w2 w') (hb:aX w' wb 91 (WU C (n+1) p (a.Cz n gb b A c))):
 qK w0 w' wb C (n+1) p r (a.Cz n gb b A c):=by
 have jh:=h.new.size;obtain⟨p1,hC,s1⟩:=h.iu.grow (P':=(a.Cz n gb b A c).Q wb (n+1) p r) hN 2 (3*n+4) (by omega) (λg hg=>by have:=(q0 a wb n p r n g).1 hg;omega) (F:=b.F gb) hF hx.fC (ae:=λg=>(T A (n+1) c).ownBlock=G g)
  (zF.mono (λg e=>iY.trans e)) (λg hg=>(hat g hg).imp (λe=>iY.trans e) id) (λg hg=>(ho.lt g hg).2) o8 (λm g hg=>by
  match m,hg with
  |0,hg|1,hg|3,hg=>exact⟨λe=>by omega,λe=>by omega,λ_ _=>hg⟩
  |2,hg=>exact⟨λ_=>by have hg:(T A 2 c).ownBlock=G g:=hg;exact iY.trans hg,λe=>by omega,λe=>(e rfl).elim⟩
  |k+4,hg=>
   have hg:if k%3=0 then k / 3<n+1/\(bK a.ga n b (k / 3)).F (bK a.gb n gb (k / 3)) g else if k%3=1 then k / 3<p/\g=a.rr (k / 3)else k / 3<r/\(a.pa (k / 3)).F (a.pb (k / 3)) g:=hg;refine⟨λe=>by omega,λe=>?_,λ_ e=>?_⟩
   ·rw[if_pos (by omega),show k / 3=n by omega,bI,bI]at hg;exact hg.2
   ·show if k%3=0 then k / 3<n/\(a.ga (k / 3)).F (a.gb (k / 3)) g else if k%3=1 then k / 3<p/\g=a.rr (k / 3)else k / 3<r/\(a.pa (k / 3)).F (a.pb (k / 3)) g;by_cases e3:k%3=0
    ·rw[if_pos e3]at hg⊢;rw[bC _ _ (by omega),bC _ _ (by omega)]at hg;exact⟨by omega,hg.2⟩
    ·rw[if_neg e3]at hg⊢;exact hg)
 have cv: ∀i,i≠0->i≠2->∀g,a.Q wb n p r i g->¬(a.Q wb n p r 0 g\/a.Q wb n p r 2 g):=λi h0 h2 g hg e=>e.elim (h.iu.dj i 0 h0 g hg) (h.iu.dj i 2 h2 g hg);refine⟨hb,h.ig.ch hC (cv 1 (by omega) (by omega)),by
  show w'.ownsRow 0 92 1 (T A (n+1) c) (n+1) (mX (bK a.gb n gb) (n+1));rw[Cw];exact bg ho o8 (λg hg e=>p1.dj 2 0 (by omega) g (iY.trans hg) e),bg h.xW hC (λg hg=>cv 3 (by omega) (by omega) g (iY.trans hg)),λk hk=>(h.rr k hk).ch hC (cv (3*k+5) (by omega) (by omega) _ ((q1 a wb n p r k _).2 ⟨hk,rfl⟩)),λk hk=>?_,
  λk hk=>(h.rp k hk).ch hC (λg hg=>cv (3*k+6) (by omega) (by omega) _ ((q2 a wb n p r k g).2 ⟨hk,hg⟩)),p1,λi g hg=>?_,?_,h.no⟩
 ·show j6 w' (bK a.gb n gb k) (bK a.ga n b k) (zg 0) []/\(bK a.ga n b k).dn=0;by_cases e:k=n
  ·subst e;rw[bI,bI];refine⟨hx.ch (S:=λg=>a.Q wb k p r 0 g\/a.Q wb k p r 2 g) ((zF.mono (λg e=>.inr (iY.trans e))).t (o8.mono (λg e=>.inl e))) (λg hg e=>?_),hd⟩;have h1:=hF g hg;have h2:=e.elim (h.iu.fC 0 g) (h.iu.fC 2 g);omega
  ·rw[bC _ _ e,bC _ _ e];have:=h.gr k (by omega);exact⟨this.1.ch hC (λg hg=>cv (3*k+4) (by omega) (by omega) _ ((q0 a wb n p r k g).2 ⟨by omega,hg⟩)),this.2⟩
 ·rcases s1.new g ⟨i,hg⟩with⟨j,e⟩|e
  ·exact h.hi j g e
  ·omega
 ·exact h.new.trans hC (λg e=>.inr (e.elim (h.hi 0 g) (h.hi 2 g)))
theorem qK.Jp(h:qK w0 w wb C n p r a)(hr:r<=p)(hN:M w w1)(hx:aX w1 q 174 #[X U])(hF:w.heap.size<=q)
 (ho:w2.ownsRow 0 94 1 (T A (p+1) c) (p+1) (Sb a.rr p++[T (G ⟨q,0,U⟩) 1 1])) (zF:Ch (λg=>(T a.pA p a.pc).ownBlock=G g) w1 w2)
 (hat: ∀g,(T A (p+1) c).ownBlock=G g->(T a.pA p a.pc).ownBlock=G g\/w1.heap.size<=g) (o8:Ch (λg=>g=wb) w2 w') (hb:aX w' wb 91 (WU C n (p+1) (a.Jp p q A c))):
 qK w0 w' wb C n (p+1) r (a.Jp p q A c):=by
 have jh:=h.new.size;obtain⟨p1,hC,s1⟩:=h.iu.grow (P':=(a.Jp p q A c).Q wb n (p+1) r) hN 3 (3*p+5) (by omega) (λg hg=>by have:=(q1 a wb n p r p g).1 hg;omega) (F:=λg=>g=q) (λg hg=>by omega) (λg hg=>by rw[hg];exact hx.lt) (ae:=λg=>(T A (p+1) c).ownBlock=G g)
  (zF.mono (λg e=>iY.trans e)) (λg hg=>(hat g hg).imp (λe=>iY.trans e) id) (λg hg=>(ho.lt g hg).2) o8 (λm g hg=>by
  match m,hg with
  |0,hg|1,hg|2,hg=>exact⟨λe=>by omega,λe=>by omega,λ_ _=>hg⟩
  |3,hg=>exact⟨λ_=>by have hg:(T A 2 c).ownBlock=G g:=hg;exact iY.trans hg,λe=>by omega,λe=>(e rfl).elim⟩
  |k+4,hg=>
   have hg:if k%3=0 then k / 3<n/\(a.ga (k / 3)).F (a.gb (k / 3)) g else if k%3=1 then k / 3<p+1/\g=bK a.rr p q (k / 3)else k / 3<r/\(a.pa (k / 3)).F (a.pb (k / 3)) g:=hg;refine⟨λe=>by omega,λe=>?_,λ_ e=>?_⟩
   ·rw[if_neg (by omega),if_pos (by omega),show k / 3=p by omega,bI]at hg;exact hg.2
   ·show if k%3=0 then k / 3<n/\(a.ga (k / 3)).F (a.gb (k / 3)) g else if k%3=1 then k / 3<p/\g=a.rr (k / 3)else k / 3<r/\(a.pa (k / 3)).F (a.pb (k / 3)) g;by_cases e3:k%3=1
    ·rw[if_neg (by omega),if_pos e3]at hg⊢;rw[bC _ _ (by omega)]at hg;exact⟨by omega,hg.2⟩
    ·rw[if_neg e3]at hg⊢;exact hg)
 have cv: ∀i,i≠0->i≠3->∀g,a.Q wb n p r i g->¬(a.Q wb n p r 0 g\/a.Q wb n p r 3 g):=λi h0 h2 g hg e=>e.elim (h.iu.dj i 0 h0 g hg) (h.iu.dj i 3 h2 g hg);refine⟨hb,h.ig.ch hC (cv 1 (by omega) (by omega)),bg h.xV hC (λg hg=>cv 2 (by omega) (by omega) g (iY.trans hg)),by
  show w'.ownsRow 0 94 1 (T A (p+1) c) (p+1) (Sb (bK a.rr p q) (p+1));rw[Sc];exact bg ho o8 (λg hg e=>p1.dj 3 0 (by omega) g (iY.trans hg) e),λk hk=>?_,λk hk=>⟨(h.gr k hk).1.ch hC (λg hg=>cv (3*k+4) (by omega) (by omega) _ ((q0 a wb n p r k g).2 ⟨hk,hg⟩)),(h.gr k hk).2⟩,
  λk hk=>(h.rp k hk).ch hC (λg hg=>cv (3*k+6) (by omega) (by omega) _ ((q2 a wb n p r k g).2 ⟨hk,hg⟩)),p1,λi g hg=>?_,?_,h.no⟩
 ·show aX w' (bK a.rr p q k) 174 #[if k<r then X (G ⟨a.pb k,0,U⟩)else X U];by_cases e:k=p
  ·subst e;rw[bI,if_neg (by omega)];refine hx.ch (S:=λg=>a.Q wb n k r 0 g\/a.Q wb n k r 3 g) ((zF.mono (λg e=>.inr (iY.trans e))).t (o8.mono (λg e=>.inl e))) (λe=>?_);have h2:=e.elim (h.iu.fC 0 q) (h.iu.fC 3 q);omega
  ·rw[bC _ _ e];exact(h.rr k (by omega)).ch hC (cv (3*k+5) (by omega) (by omega) _ ((q1 a wb n p r k _).2 ⟨by omega,rfl⟩))
 ·rcases s1.new g ⟨i,hg⟩with⟨j,e⟩|e
  ·exact h.hi j g e
  ·omega
 ·exact h.new.trans hC (λg e=>.inr (e.elim (h.hi 0 g) (h.hi 3 g)))
theorem qK.Jq(h:qK w0 w wb C n p r a)(hrp:r<p)(hN:M w w1)(hx:ic w1 pb C.key 0 0 iS (λ_=>U) e)(hF: ∀g,e.F pb g->w.heap.size<=g)
 (o8:Ch (λg=>g=a.rr r) w1 w') (hb:aX w' (a.rr r) 174 #[X (G ⟨pb,0,U⟩)]):qK w0 w' wb C n p (r+1) (a.Jq r pb e):=by
 have jh:=h.new.size;have n1: ∀g,¬a.Q wb n p r (3*r+6) g:=λg hg=>by have:=(q2 a wb n p r r g).1 hg;omega
 obtain⟨p1,s1⟩:=h.iu.Ru (P':=(a.Jq r pb e).Q wb n p (r+1)) hN (3*r+6) n1 (F:=e.F pb) hF hx.fC (λm g hg=>by
  match m,hg with
  |0,hg|1,hg|2,hg|3,hg=>exact⟨λe=>by omega,λ_=>hg⟩
  |k+4,hg=>
   have hg:if k%3=0 then k / 3<n/\(a.ga (k / 3)).F (a.gb (k / 3)) g else if k%3=1 then k / 3<p/\g=a.rr (k / 3)else k / 3<r+1/\(bK a.pa r e (k / 3)).F (bK a.pb r pb (k / 3)) g:=hg;refine⟨λe=>?_,λe=>?_⟩
   ·rw[if_neg (by omega),if_neg (by omega),show k / 3=r by omega,bI,bI]at hg;exact hg.2
   ·show if k%3=0 then k / 3<n/\(a.ga (k / 3)).F (a.gb (k / 3)) g else if k%3=1 then k / 3<p/\g=a.rr (k / 3)else k / 3<r/\(a.pa (k / 3)).F (a.pb (k / 3)) g;by_cases e3:k%3=2
    ·rw[if_neg (by omega),if_neg (by omega)]at hg⊢;rw[bC _ _ (by omega),bC _ _ (by omega)]at hg;exact⟨by omega,hg.2⟩
    ·by_cases e4:k%3=0
     ·rw[if_pos e4]at hg⊢;exact hg
     ·rw[if_neg e4,if_pos (by omega)]at hg⊢;exact hg)
 have hC:Ch (λg=>g=a.rr r) w w':=(hN.mono (λ_ h=>h.elim)).t o8;have hq:=(q1 a wb n p r r (a.rr r)).2 ⟨hrp,rfl⟩;have cv: ∀i,i≠3*r+5->∀g,a.Q wb n p r i g->¬g=a.rr r:=λi hi g hg e=>h.iu.dj i (3*r+5) hi g hg (by rw[e];exact hq);refine⟨h.aW.ch hC (cv 0 (by omega) wb rfl),h.ig.ch hC (cv 1 (by omega)),bg h.xV hC (λg hg=>cv 2 (by omega) g (iY.trans hg)),bg h.xW hC (λg hg=>cv 3 (by omega) g (iY.trans hg)),λk hk=>?_,
  λk hk=>⟨(h.gr k hk).1.ch hC (λg hg=>cv (3*k+4) (by omega) _ ((q0 a wb n p r k g).2 ⟨hk,hg⟩)),(h.gr k hk).2⟩,λk hk=>?_,p1.mono o8.size,λi g hg=>?_,?_,h.no⟩
 ·show aX w' (a.rr k) 174 #[if k<r+1 then X (G ⟨bK a.pb r pb k,0,U⟩)else X U];by_cases e:k=r
  ·subst e;rw[bI,if_pos (by omega)];exact hb
  ·rw[bC _ _ e];have:=(h.rr k hk).ch hC (cv (3*k+5) (by omega) _ ((q1 a wb n p r k _).2 ⟨hk,rfl⟩));by_cases e2:k<r
   ·rw[if_pos e2]at this;rw[if_pos (by omega)];exact this
   ·rw[if_neg e2]at this;rw[if_neg (by omega)];exact this
 ·show ic w' (bK a.pb r pb k) C.key 0 0 iS (λ_=>U) (bK a.pa r e k);by_cases e:k=r
  ·subst e;rw[bI,bI];exact hx.ch o8 (λg hg e=>by
    have h1:=hF g hg;have h2:=h.iu.fC _ _ hq;omega)
  ·rw[bC _ _ e,bC _ _ e];exact(h.rp k (by omega)).ch hC (λg hg=>cv (3*k+6) (by omega) _ ((q2 a wb n p r k g).2 ⟨by omega,hg⟩))
 ·rcases s1.new g ⟨i,hg⟩with⟨j,e⟩|e
  ·exact h.hi j g e
  ·omega
 ·exact h.new.trans hC (λg e=>.inr (by rw[e];exact h.hi _ _ hq))
theorem qK.whole(h:qK w0 w wb C 2 2 2 a)(sP:C.ns=2):fD w wb C 0 0 (λ_=>.wait 0) (λ_=>0) (λ_=>iS) (λ_ _=>U) U a/\(∀g,a.F wb U g->w0.heap.size<=g):=by
 obtain⟨c1,c2,o1,o2,o3,De⟩:=h.no;have key: ∀i g,a.P wb U i g->∃j,a.Q wb 2 2 2 j g/\(i=0/\j=0\/i=1/\j=1\/i=2/\j=2\/i=3/\j=3\/i=4/\j=5\/i=5/\j=8\/(∃k,i=2*k+8/\j=3*k+4)\/(∃k,i=2*k+9/\j=3*k+6)):=λi g hg=>by
  match i,hg with
  |0,hg=>exact⟨0,hg,by omega⟩
  |1,hg=>exact⟨1,hg,by omega⟩
  |2,hg=>exact⟨2,hg,by omega⟩
  |3,hg=>exact⟨3,hg,by omega⟩
  |4,hg=>exact⟨5,(q1 a wb 2 2 2 0 g).2 ⟨by omega,hg⟩,by omega⟩
  |5,hg=>exact⟨8,(q1 a wb 2 2 2 1 g).2 ⟨by omega,hg⟩,by omega⟩
  |6,hg=>have hg:(T a.cA 0 a.cc).ownBlock=G g:=hg;rw[c1]at hg;cases hg
  |7,⟨x,hx,_⟩=>cases hx
  |k+8,hg=>
   have hg:if k%2=0 then k / 2<2/\(a.ga (k / 2)).F (a.gb (k / 2)) g else k / 2<2/\(a.pa (k / 2)).F (a.pb (k / 2)) g:=hg;by_cases e:k%2=0
   ·rw[if_pos e]at hg;exact⟨3*(k / 2)+4,(q0 a wb 2 2 2 (k / 2) g).2 hg,.inr (.inr (.inr (.inr (.inr (.inr (.inl ⟨k / 2,by omega,rfl⟩))))))⟩
   ·rw[if_neg e]at hg;exact⟨3*(k / 2)+6,(q2 a wb 2 2 2 (k / 2) g).2 hg,.inr (.inr (.inr (.inr (.inr (.inr (.inr ⟨k / 2,by omega,rfl⟩))))))⟩
 refine⟨⟨bu h.aW (by simp[WU,Vg,c1,c2,o1,o2,o3,JT]),h.ig,h.xV,h.xW,λk hk=>?_,?_,⟨_,_,_,De⟩,λk hk=>⟨⟨by omega,(h.gr k hk).1⟩,by have:=(h.gr k hk).2;omega⟩,λk hk=>h.rp k hk,λx hx=>(by cases hx),⟨λi j tG g hi hj=>?_,λi g hg=>?_⟩,sP,λ_=>⟨o1,o2,o3⟩⟩,λg ⟨i,hg⟩=>?_⟩
 ·have:=h.rr k hk;rw[if_pos hk]at this;exact this
 ·rw[c1,c2];exact World.ownsRow_nil _ _ _ _
 ·obtain⟨i',h1,e1⟩:=key i g hi;obtain⟨j',h2,e2⟩:=key j g hj;refine h.iu.dj i' j' (λe=>?_) g h1 h2;rcases e1 with e1|e1|e1|e1|e1|e1|⟨k,e1⟩|⟨k,e1⟩<;>rcases e2 with e2|e2|e2|e2|e2|e2|⟨l,e2⟩|⟨l,e2⟩<;>omega
 ·obtain⟨i',h1,_⟩:=key i g hg;exact h.iu.fC i' g h1
 ·obtain⟨i',h1,_⟩:=key i g hg;exact h.hi i' g h1
end
section
variable{w0 w:aw}{wb k r:Nat}{C:Cf}{a:eL}
theorem qK.j7(h:qK w0 w wb C 2 2 r a): ∃g p,a.gA=G ⟨g,0,U⟩/\a.pA=G ⟨p,0,U⟩:=by
 obtain⟨g,c1,hv,_,CQ⟩:=h.xV.form (by omega);obtain⟨p,c2,Ws,_,PB⟩:=h.xW.form (by omega);injection hv with hA _ _;injection Ws with hB _ _;exact⟨g,p,hA,hB⟩
theorem qK.fW(h:qK w0 w wb C 2 2 r a){g p:Nat}(hA:a.gA=G ⟨g,0,U⟩)(hB:a.pA=G ⟨p,0,U⟩):
 w.cell? ⟨wb,2,U⟩=G (T (G ⟨g,0,U⟩) 2 a.gc)/\w.cell? ⟨wb,3,U⟩=G (T (G ⟨p,0,U⟩) 2 a.pc)/\(∀k:Nat,k<2->w.cell? ⟨g,k,U⟩=G (X (G ⟨a.gb k,0,U⟩)))/\(∀k:Nat,k<2->w.cell? ⟨p,k,U⟩=G (T (G ⟨a.rr k,0,U⟩) 1 1)):=by
 obtain⟨b,off,e,_,hc⟩:=(Rd.own h.xV) (by simp[mX]);rw[hA]at e;injection e with e;injection e with e1 e2;subst e1 e2;obtain⟨b,off,e,_,OT⟩:=(Rd.own h.xW) (by simp[Sb]);rw[hB]at e;injection e with e;injection e with e1 e2;subst e1 e2;refine⟨by rw[<-hA];exact h.aW.c 2,by rw[<-hB];exact h.aW.c 3,λk hk=>?_,λk hk=>?_⟩
 ·have:=hc k (X (G ⟨a.gb k,0,U⟩)) (by simp[mX,hk]);simpa using this
 ·have:=OT k (T (G ⟨a.rr k,0,U⟩) 1 1) (by simp[Sb,hk]);simpa using this
theorem Oa(h:qK w0 w wb C 2 2 k a)(hk:k<2):ax av 82 #[X (G ⟨wb,0,U⟩),I J (k:Nat),I J 0] w λe w'=>
 e=ay (aB #[])/\∃a',qK w0 w' wb C 2 2 (k+1) a'/\a'.pA=a.pA/\a'.pc=a.pc/\a'.rr=a.rr:=by
 have HH:=O h;have HK:=O hk;have HN:=O (lq (h.gr k hk).1);have HR:=O (λw=>DQ w h.ig.w.key.2);obtain⟨g,p,hA,hB⟩:=h.j7;have IP:=O (And.intro hA hB);have⟨x2,x3,JB,QL⟩:=h.fW hA hB;have g0:=JB k hk;have p0:=QL k hk;have YU:=O (show aX w (a.rr k) 174 #[X U]from by have:=h.rr k hk;rw[if_neg (Nat.lt_irrefl k)]at this;exact this);have r0:=YU.o.c 0;have rl:=YU.o.lt;have xl:=h.aW.lt;have jq:(k:Int)<2:=by omega
 have dB:=O (show M w w.drew from aU w);have cZ:=O (λw' (hN:M w w')=>(show w'.cell? ⟨wb,3,U⟩=G (T (G ⟨p,0,U⟩) 2 a.pc)/\w'.cell? ⟨p,k,U⟩=G (T (G ⟨a.rr k,0,U⟩) 1 1)from by
  have H:qK w0 w' wb C 2 2 k a:=⟨h.aW.ch hN (λh=>h),h.ig.aR hN,bg h.xV hN (λ_ _ h=>h),bg h.xW hN (λ_ _ h=>h),λk hk=>(h.rr k hk).ch hN (λh=>h),λk hk=>⟨(h.gr k hk).1.ch hN (λ_ _ h=>h),(h.gr k hk).2⟩,λk hk=>(h.rp k hk).aR hN,h.iu.aR hN,h.hi,h.new.t hN,h.no⟩;have⟨_,x3,_,QL⟩:=H.fW hA hB;exact⟨x3,QL k hk⟩))
 clear h hA hB JB QL hk;go_enter func82,ntmps82;go_wp2_with fail;refine HN.o.mono ?_;rintro e w2 ⟨rfl,rfl⟩;dsimp only;go_upto_if 40 with(fail)
 go_cut[] (λwx=>∃pb e,qK w0 wx wb C 2 2 (k+1) (a.Jq k pb e))
 case first=>
  go_upto_region 4 with(fail)
  go_region_held3(λw'=>w'.cell? ⟨wb,3,U⟩=G (T (G ⟨p,0,U⟩) 2 a.pc)/\w'.cell? ⟨p,k,U⟩=G (T (G ⟨a.rr k,0,U⟩) 1 1))
   (first|with_reducible exact cZ.o _ dB.o|with_reducible exact cZ.o _ ir.o|exact Fi.o|fail)
   (first
     |(go_at_call 131;(with_reducible refine(HR.o _).mono ?_);rintro e w6 ⟨pb,e6,rfl,hM,hF,hN⟩
       dsimp only;have ir:=O (show M w w6 from dB.o.t hN);have sJ:=O hM;have Ox:=O (show∀g,e6.F pb g->w.heap.size<=g from hF);have oX:=O (YU.o.ch ir.o (λh=>h));have r6:=oX.o.c 0;have rl6:=oX.o.lt;have rf6:=oX.o.frozen;have HX:=O (HH.o.Jq HK.o ir.o sJ.o Ox.o ((Ch.r (λg=>g=a.rr k) w6).at_ 0 (X (G ⟨pb,0,U⟩))) (bu (oX.o.bm 0 (X (G ⟨pb,0,U⟩))) (by simp)));have Fi:=O (show(w6.setCell ⟨a.rr k,0,U⟩ (X (G ⟨pb,0,U⟩))).cell? ⟨wb,3,U⟩=G (T (G ⟨p,0,U⟩) 2 a.pc)/\(w6.setCell ⟨a.rr k,0,U⟩ (X (G ⟨pb,0,U⟩))).cell? ⟨p,k,U⟩=G (T (G ⟨a.rr k,0,U⟩) 1 1)from by
        have⟨_,y3,_,q0⟩:=HX.o.fW (g:=g) (p:=p) IP.o.1 IP.o.2;exact⟨y3,q0 k HK.o⟩)
       clear hM hF hN)
     |fail)
  all_goals
   clear r6 rl6 rf6;go_wp2_with fail;go_meet;exact⟨pb,e6,HX.o⟩
 case rest=>
  obtain⟨pb,e6,hX⟩:=hcut;have HX:=O hX;have⟨y2,y3,_,ZA⟩:=hX.fW (g:=g) (p:=p) IP.o.1 IP.o.2;have q0:=ZA k HK.o;have hr:=hX.rr k HK.o;rw[if_pos (Nat.lt_succ_self k)]at hr;have z0:=hr.c 0;have zl:=hr.lt;have yl:=hX.aW.lt;have hl:=((hX.gr k HK.o).1).node.log.len;have GN:=O (Bj ((hX.gr k HK.o).1).node (by rw[<-hl];rfl));rw[<-hl]at GN;have HA:=O (DR (hX.rp k (Nat.lt_succ_self k)));simp only[eL.Jq,bI]at HA GN z0 zl q0 y3;clear hX ZA hr hl x2 x3 g0 p0 r0 rl xl y2;go_wp2_with fail;refine HA.o.mono ?_;rintro e w3 ⟨rfl,je⟩;subst w3;dsimp only;go_wp2_with fail;refine GN.o.mono ?_;rintro e w3 ⟨rfl,rfl⟩;dsimp only;go_wp2_with fail
  go_loop[67] (λiv=>iv=I J 0) (λ_=>0)
  case atStart=>exact rfl
  case round=>
   subst hrel;go_wp2_with fail
   first|go_end0|(simp only[Exit.inBlock,Exit.then];refine aE (results_none rfl _ _ _) rfl ?_)|refine aE (results_none rfl _ _ _) rfl ?_
   exact⟨rfl,_,HX.o,rfl,rfl,rfl⟩
theorem Jr(h:qK w0 w wb C 2 2 0 a):ax av 44 #[X (G ⟨wb,0,U⟩)] w λe w'=>e=ay (aB #[])/\∃a',qK w0 w' wb C 2 2 2 a':=by
 have HP:=O (show∃a',qK w0 w wb C 2 2 0 a'/\a'.pA=a.pA/\a'.pc=a.pc/\a'.rr=a.rr from⟨a,h,rfl,rfl,rfl⟩);obtain⟨g,p,hA,hB⟩:=h.j7;have HB:=O hB;have⟨_,x3,_,_⟩:=h.fW hA hB;have xl:=h.aW.lt;clear h hA hB;go_enter func44,ntmps44;go_wp2_with fail
 go_loopw[10] (λiv wr=>∃k:Nat,k<=2/\iv=I J k/\∃a',qK w0 wr wb C 2 2 k a'/\a'.pA=a.pA/\a'.pc=a.pc/\a'.rr=a.rr) (λiv _=>2- (intOf iv).toNat)
 case atStart=>exact⟨0,by omega,rfl,HP.o⟩
 case round=>
  obtain⟨k,hk,rfl,a1,h1,Vp,hpc,Zu⟩:=hrel;by_cases hlt:k<2
  ·obtain⟨g1,p1,Wd,_⟩:=h1.j7;have⟨_,_,_,QL⟩:=h1.fW (g:=g1) (p:=p) Wd (Vp.trans HB.o);have p0:=QL k hlt;rw[Zu]at p0;have rl:=(h1.rr k hlt).lt;rw[Zu]at rl;have jq:(k:Int)<2:=by omega
   have HC:=O (Oa h1 hlt);have HE:=O (And.intro Vp (And.intro hpc Zu));have HK:=O hlt;clear h1 Vp hpc Zu hlt hk QL;go_wp2_with fail
   go_loopw[17] (λiv wx=>(iv=I J 0/\wx=wr)\/(iv=I J 1/\∃a',qK w0 wx wb C 2 2 (k+1) a'/\a'.pA=a.pA/\a'.pc=a.pc/\a'.rr=a.rr)) (λiv _=>1- (intOf iv).toNat)
   case atStart=>exact .inl ⟨rfl,rfl⟩
   case round=>
    rcases hrel with⟨rfl,rfl⟩|⟨rfl,hP⟩
    ·go_wp2_with fail;refine HC.o.mono ?_;rintro e w6 ⟨rfl,a6,hX,e1,e2,e3⟩;have HF:=O (show∃a',qK w0 w6 wb C 2 2 (k+1) a'/\a'.pA=a.pA/\a'.pc=a.pc/\a'.rr=a.rr from⟨a6,hX,e1.trans HE.o.1,e2.trans HE.o.2.1,e3.trans HE.o.2.2⟩);dsimp only;clear hX e1 e2 e3;go_wp2_with fail;exact⟨.inr ⟨rfl,HF.o⟩,by simp[intOf]⟩
    ·have HF:=O hP;clear hP;go_wp2_with fail;exact⟨⟨k+1,by have:=HK.o;omega,rfl,HF.o⟩,by have:=HK.o;simp[intOf];omega⟩
  ·obtain rfl:k=2:=by omega
   have HF:=O h1;clear h1 Vp hpc Zu hlt hk;go_wp2_with fail
   first|go_end0|(simp only[Exit.inBlock,Exit.then];refine aE (results_none rfl _ _ _) rfl ?_)|refine aE (results_none rfl _ _ _) rfl ?_
   exact⟨rfl,_,HF.o⟩
end
theorem EV:(av.info? 92).map (λi=>(i.zero,i.size,i.bytes))=G (G (X U),1,8):=by kernel_rfl
theorem Js:(av.info? 94).map (λi=>(i.zero,i.size,i.bytes))=G (G (T U 0 0),1,24):=by kernel_rfl
theorem CB:(av.info? 174).map (λi=>(i.zero,i.size,i.bytes))=G (G (X U),1,8):=by kernel_rfl
theorem mk_one(w:aw):(Instr.makeSlice 94 (I J 1) (I J 1)).run av w= .ok (T (G ⟨w.heap.size,0,U⟩) 1 1) (w.alloc (az #[X U] 174)):=by
 obtain⟨i,h1,h2,h3,h4⟩:=info_parts CB;simp only[Instr.makeSlice,asInt,asIntOf,newRow];simp[run_underlying underlying94,typeInfo,h1,h4,show IntKind.i64.wrap 1=1 by decide];exact congrArg (λa=>w.alloc (az a 174)) (show madeCells (X U).cells (1*1)=#[X U]from by kernel_rfl)
section
variable{w:aw}{n c:Nat}{A:Option Addr}{C:Cf}{l:List ByteArray}
theorem Ob(h:Strs w A n l)(sQ:wP l)(hA:A=U->c=0/\n=0)(hw:Mj C)(sP:l.length+1=C.ns)(h2:C.ns=2)(F9:Iz l C.key=C.h)(h4:4<=w.heap.size):
 ax av 15 #[T A n c,I J 1,I J C.tries] w λe w'=>∃wb a,e=ay (aB #[X (G ⟨wb,0,U⟩),I J 0])/\fD w' wb C 0 0 (λ_=>.wait 0) (λ_=>0) (λ_=>iS) (λ_ _=>U) U a/\
  (∀g,a.F wb U g->w.heap.size<=g)/\M w w'/\a.cA=U/\a.cc=0/\a.oA=U/\a.on=0/\a.oc=0:=by
 have HR:=O (BH h sQ c hA);have HG:=O LY;have HW:=O hw;have H4:=O h4;obtain⟨i1,dX,er,eu,eK⟩:=info_parts EV;obtain⟨i2,hi2,Zb,Oq,hz2⟩:=info_parts Js;have d1:decide (C.tries<1)=false:=decide_eq_false (by have:=hw.tries;omega);have d2:decide (1048576<C.tries)=false:=decide_eq_false (by have:=hw.tries;omega);have Ag:=O F9;have HNL:=O sP;have jF:=O h2;have CQ:l.length+1=2:=sP.trans h2;have HL:=O CQ;clear h hA hw sP F9 h4 h2 CQ;go_enter func15,ntmps15;go_wp2_with fail;refine HR.o.mono ?_;rintro e w1 ⟨rb,rA,rc,rfl,hR,Zh,Aw⟩;dsimp only;have gN:=O hR;have Zi:=O Zh;have cH:=O Aw;clear hR Zh Aw;go_upto_region 7 with(fail);obtain⟨w4,lH⟩:=bG (w1.alloc (az #[X (G ⟨rb,0,U⟩),I J C.tries,T U 0 0,T U 0 0,T U 0 0,T U 0 0] 91));have dQ:=kb lH;have iq:=O (show aX w4 w1.heap.size 91 #[X (G ⟨rb,0,U⟩),I J C.tries,T U 0 0,T U 0 0,T U 0 0,T U 0 0]from lH▸aX.new w1 91 _);rw[lH];obtain⟨wb,Us⟩:=bG (w1.heap.size);have NB:=O (show qK w w4 wb C 0 0 0 ⟨rb,rA,rc,l,U,0,U,0,λ_=>0,U,0,T U 0 0,λ_=>0,λ_=>⟨U,0,0,0,0,0,U,0,0,U,0,0⟩,λ_=>0,λ_=>⟨0,o6 0,0⟩,0,⟨U,0,U,0,U,0,U,0⟩,U,0,0⟩from by
  have s1:=cH.o.size;have s4:=dQ.o.size;have q3:=gN.o.fC;have hb:=iq.o;rw[Us]at hb;have CV:=hb.lt;have hP: ∀i g,eL.Q ⟨rb,rA,rc,l,U,0,U,0,λ_=>0,U,0,T U 0 0,λ_=>0,λ_=>⟨U,0,0,0,0,0,U,0,0,U,0,0⟩,λ_=>0,λ_=>⟨0,o6 0,0⟩,0,⟨U,0,U,0,U,0,U,0⟩,U,0,0⟩ wb 0 0 0 i g->
   (i=0/\g=wb)\/(i=1/\oz rb rA l.length rc g):=λi g hg=>by
   match i,hg with
   |0,hg=>exact .inl ⟨rfl,hg⟩
   |1,hg=>exact .inr ⟨rfl,hg⟩
   |2,hg=>cases hg
   |3,hg=>cases hg
   |k+4,hg=>
    have hg:if k%3=0 then k / 3<0/\_ else if k%3=1 then k / 3<0/\_ else k / 3<0/\_:=hg;split at hg
    ·have:=hg.1;omega
    ·split at hg
     ·have:=hg.1;omega
     ·have:=hg.1;omega
  refine⟨hb,⟨gN.o.aR dQ.o,HNL.o,Ag.o,HW.o⟩,World.ownsRow_nil _ _ _ _,World.ownsRow_nil _ _ _ _,λk hk=>by omega,λk hk=>by omega,λk hk=>by omega,⟨λi j tG g hi hj=>?_,λi g hg=>?_⟩,λi g hg=>?_,cH.o.t dQ.o,rfl,rfl,rfl,rfl,rfl,rfl⟩
  ·have h1:=hP i g hi;have h2:=hP j g hj;have k1:=q3 g;rcases h1 with⟨a,b⟩|⟨a,b⟩<;>rcases h2 with⟨a',b'⟩|⟨a',b'⟩<;>first|omega|(have:=k1 b;omega)|(have:=k1 b';omega)
  ·have k1:=q3 g;rcases hP i g hg with⟨a,b⟩|⟨a,b⟩<;>first|omega|(have:=k1 b;omega)
  ·have k1:=Zi.o g;rcases hP i g hg with⟨a,b⟩|⟨a,b⟩<;>first|omega|exact k1 b)
 have Zj:=O (pe (gN.o.aR dQ.o));rw[HL.o]at Zj;simp only[Us];clear lH Us iq;go_wp2_with fail;refine Zj.o.mono ?_;rintro e w5 ⟨rfl,qC⟩;subst w5;dsimp only;go_wp2_with fail
 go_loopw[41] (λiv wr=>∃k a,k<=2/\iv=I J (k:Nat)/\qK w wr wb C k k 0 a) (λiv _=>2- (intOf iv).toNat)
 case atStart=>exact⟨0,_,by omega,rfl,NB.o⟩
 case round=>
  obtain⟨k,a,hk,rfl,hG⟩:=hrel;have HH:=O hG;clear hG;by_cases hlt:k<2
  ·have jq:(k:Int)<2:=by omega
   have dB:=O (show M wr wr.drew from aU wr);have TU:=O (show 4<=wr.heap.size from aO H4.o HH.o.new.size);have x2:=HH.o.aW.c 2;have xl:=HH.o.aW.lt;have mi:=O (λ(ar:aw) (hC:M wr ar)=>bg HH.o.xV hC (λ_ _ h=>h));have sK:=O (λ(ar w8:aw) (hC:M wr ar) (hg:ar.grownBy w8 (T a.gA k a.gc).ownBlock)=>show aX w8 wb 91 (WU C k k a)from
    (HH.o.aW.ch hC (λh=>h)).grown hg (λe=>aV HH.o.xV HH.o.aW (by decide) e.symm))
   have sr:k+1<=maxLen:=by unfold maxLen;omega
   have jE:(k+1)*8<=140737488355328:=by omega
   have WL:(k+1)*24<=140737488355328:=by omega
   go_upto_region 9 with(fail)
   go_cut[] (λwx=>∃gb b A c,qK w wx wb C (k+1) k 0 (a.Cz k gb b A c))
   case first=>
    go_region_law(first
     |(refine bL _ rfl (.tmp 47) (.tmp 50) 87 rfl 0 92 i1 _ 1 8 underlying87 dX er eu eK rfl (by decide) (T a.gA k a.gc) k (mX a.gb k) (by simp[Act.eval]) (mi.o _ (ff.o.alloc _)) (w5.heap.size+1) (G ⟨w5.heap.size,0,U⟩) 1 1 [X (G ⟨p,0,U⟩)] (by simp[Act.eval]) (cD w5 92 #[X (G ⟨p,0,U⟩)] 1 1 rfl) (by simp[Value.oneCell']) sr jE (by omega) ?_
       intro v9 w9 cC gV fl;obtain⟨A9,c9,rfl⟩:=bz cC;have mS:=O cC;have rF:=O fl;have gj:=O (sK.o _ w9 (ff.o.alloc _) gV);have nY:=O (Ch.bF gV);clear cC gV fl;have u3:=gj.o.c 2;have ul:=gj.o.lt;have uf:=gj.o.frozen)
     |(go_simp;go_at_call 43;(refine(HG.o _ (aO TU.o (show wr.heap.size<=_ from by first|exact dB.o.size|exact aN _))).mono ?_);rintro e w5 ⟨p,b5,rfl,hM,hd,hF,hN⟩;have ff:=O (show M wr w5 from dB.o.t hN);have nG:=O hM;have TJ:=O (show∀g,b5.F p g->wr.heap.size<=g from hF);have UJ:=O hd;clear hM hF hN hd;dsimp only;have H5:=O (HH.o.aW.ch ff.o (λh=>h));have x3:=H5.o.c 2;have xl:=H5.o.lt))
    all_goals
     have kD:=O (show∀g,(T A9 (k+1) c9).ownBlock=G g->(T a.gA k a.gc).ownBlock=G g\/w5.heap.size<=g from λg hg=>by
      rcases rF.o with e|e
      ·exact .inl (e▸hg)
      ·right
       rw[e]at hg;injection hg with hg;have hg:w5.heap.size+1=g:=by first|exact hg|simpa using hg
       omega)
     have HX:=O (HH.o.Cz ff.o nG.o UJ.o TJ.o mS.o (((Ch.r _ w5).alloc _).t nY.o) kD.o ((Ch.r (λk=>k=wb) w9).at_ 2 (T A9 (k+1) c9)) (bu (gj.o.bm 2 (T A9 (k+1) c9)) (by simp[eL.Cz])));clear x2 xl u3 ul uf mS rF;go_wp2_with fail;go_meet;exact⟨p,b5,A9,c9,HX.o⟩
   case rest=>
    obtain⟨gb,b,A1,c1,hX⟩:=hcut;obtain⟨a1,ha1⟩:=bG (a.Cz k gb b A1 c1);rw[ha1]at hX;have HX:=O hX;clear hX x2 xl ha1 mi sK;have x3:=HX.o.aW.c 3;have xl:=HX.o.aW.lt;have mi:=O (λ(ar:aw) (hC:M wc ar)=>bg HX.o.xW hC (λ_ _ h=>h));have sK:=O (λ(ar w8:aw) (hC:M wc ar) (hg:ar.grownBy w8 (T a1.pA k a1.pc).ownBlock)=>show aX w8 wb 91 (WU C (k+1) k a1)from
     (HX.o.aW.ch hC (λh=>h)).grown hg (λe=>aV HX.o.xW HX.o.aW (by decide) e.symm))
    go_upto_region 10 with(fail);have mk:=λw=>mk_one w;have lG:=O (λ(ar:aw) (hb:aX ar (wc.heap.size+1) 94 #[T (G ⟨wc.heap.size,0,U⟩) 1 1])=>show Reads ar (wc.heap.size+1+1) 1 (G ⟨wc.heap.size+1,0,U⟩) 1 [T (G ⟨wc.heap.size,0,U⟩) 1 1]from
     ⟨rfl,λ_=>⟨_,rfl,by simp,λj u hu=>by
       match j,hu with
       |0,hu=>
        have hu:G (T (G ⟨wc.heap.size,0,U⟩) 1 1)=G u:=hu;injection hu with hu;subst hu;exact hb.c 0⟩⟩)
    have cJ:=O (show aX ((wc.alloc (az #[X U] 174)).alloc (az #[T (G ⟨wc.heap.size,0,U⟩) 1 1] 94)) (wc.heap.size+1) 94 #[T (G ⟨wc.heap.size,0,U⟩) 1 1]from by
     have:=aX.new (wc.alloc (az #[X U] 174)) 94 #[T (G ⟨wc.heap.size,0,U⟩) 1 1];simpa using this)
    have HW2:=O (show M wc ((wc.alloc (az #[X U] 174)).alloc (az #[T (G ⟨wc.heap.size,0,U⟩) 1 1] 94)).drew from(((Ch.r _ wc).alloc _).alloc _).drew)
    go_region_law(refine bL _ rfl (.tmp 58) (.tmp 61) 88 rfl 0 94 i2 _ 1 24 underlying88 hi2 Zb Oq hz2 rfl (by decide) (T a1.pA k a1.pc) k (Sb a1.rr k) (by simp[Act.eval]) (mi.o _ (HW2.o)) (wc.heap.size+1+1) (G ⟨wc.heap.size+1,0,U⟩) 1 1 [T (G ⟨wc.heap.size,0,U⟩) 1 1] (by simp[Act.eval]) (lG.o _ cJ.o.drew) (by simp[Value.oneCell']) sr WL (Nat.zero_le _) ?_
                  intro v9 w9 cC gV fl;obtain⟨A9,c9,rfl⟩:=bz cC;have mS:=O cC;have rF:=O fl;have HY:=O (show∃ar,M wc ar/\aX ar wc.heap.size 174 #[X U]/\ar.heap.size=wc.heap.size+1+1/\Ch (λg=>(T a1.pA k a1.pc).ownBlock=G g) ar w9 from⟨_,HW2.o,((aX.new wc 174 _).alloc _).drew,by simp,Ch.bF gV⟩);have gj:=O (sK.o _ w9 (HW2.o) gV);clear cC gV fl;have u3:=gj.o.c 3;have ul:=gj.o.lt;have uf:=gj.o.frozen)
    all_goals
     obtain⟨ar,hY1,hY2,hY3,hY4⟩:=HY.o;have kD:=O (show∀g,(T A9 (k+1) c9).ownBlock=G g->(T a1.pA k a1.pc).ownBlock=G g\/ar.heap.size<=g from λg hg=>by
      rcases rF.o with e|e
      ·exact .inl (e▸hg)
      ·right
       rw[e]at hg;injection hg with hg;have hg:wc.heap.size+1+1=g:=by first|exact hg|simpa using hg
       omega)
     have xt:=O (HX.o.Jp (Nat.zero_le _) hY1 hY2 (aN _) mS.o hY4 kD.o ((Ch.r (λk=>k=wb) w9).at_ 3 (T A9 (k+1) c9)) (bu (gj.o.bm 3 (T A9 (k+1) c9)) (by simp[eL.Jp])));clear x3 xl u3 ul uf mS rF hY1 hY2 hY3 hY4 mk;go_wp2_with fail;exact⟨⟨_,_,_,_,_,_,_,_,_,_,_,_,_,_,_,_,_,_,_,_,_,_,_,_,_,⟨k+1,_,by omega,by go_num,xt.o⟩,rfl⟩,by simp[intOf];omega⟩
  ·obtain rfl:k=2:=by omega
   have HFD:=O (Jr HH.o);clear hlt hk;go_wp2_with fail;refine HFD.o.mono ?_;rintro e w6 ⟨rfl,a6,hX⟩;have HX:=O hX;clear hX;dsimp only;go_wp2_with fail;go_ret2;have h:=HX.o.whole jF.o;obtain⟨c1,c2,o1,o2,o3,De⟩:=HX.o.no;exact⟨wb,a6,rfl,h.1,h.2,HX.o.new,c1,c2,o1,o2,o3⟩
end
def Jt:List ByteArray:=[⟨#[98]⟩]
theorem Gx:wP Jt:=⟨by decide,λs hs=>by simp[Jt]at hs;subst hs;decide,λi a b hi _ _=>by simp[Jt]at hi⟩
theorem Gy:Iz Jt jU.key=jU.h:=by
 kernel_rfl
theorem Oc:two=⟨#[50]⟩:=by
 kernel_rfl
def zW(w0 w:aw)(sb j:Nat):Prop:=∃a,gS w sb jU (2*j) (fX j) a/\(∀g,a.F jU sb (fX j) g->w0.heap.size<=g)/\M w0 w
section
variable{w0 w w' w1:aw}{sb wb pb j n q:Nat}{a:eL}
theorem zW.aR(h:zW w0 w sb j)(hN:M w w'):zW w0 w' sb j:=by
 obtain⟨a,h1,h2,h3⟩:=h;exact⟨a,h1.aR hN,h2,h3.t hN⟩
theorem zW.step(h:zW w0 w sb j)(hj:j<=400):ax av 8 #[X (G ⟨sb,0,U⟩),aC (ju 11 0 0 0 0 (T U 0 0))] w (wU λw'=>zW w0 w' sb (j+1)):=by
 obtain⟨a,h1,h2,h3⟩:=h;refine(VW h1 (by omega)).mono λe w' ⟨e1,a',g1,g2,_⟩=>⟨e1,a',g1,λg hg=>?_,h3.trans g2.ch (λg e=>.inr (h2 g e))⟩;exact(g2.new g hg).elim (h2 g) (λe=>aO h3.size e)
theorem zW.start(h4:gK.Env w)(hB:aX w q 9 #[V ⟨#[98]⟩]):ax av 7 #[T (G ⟨q,0,U⟩) 1 1,I J 2] w λe w'=>∃sb a,e=ay (aB #[X (G ⟨sb,0,U⟩),I J 0])/\gS w' sb jU 0 dV a/\(∀g,a.F jU sb dV g->w.heap.size<=g)/\M w w':=
 yn (C:=jU) (A:=G ⟨q,0,U⟩) (n:=1) (c:=1) (l:=Jt) ⟨rfl,λ_=>⟨q,0,rfl,hB.lt,λi v hv=>by
  match i,hv with
  |0,hv=>
   have hv:G (V ⟨#[98]⟩)=G v:=hv;injection hv with hv;subst hv;exact hB.c 0⟩⟩ Gx (λe=>by cases e) Ga rfl Gy h4
theorem zW.vQ{a:gE}(h:gS w sb jU 0 dV a)(hF: ∀g,a.F jU sb dV g->w0.heap.size<=g)(hN:M w0 w)(hP:oB w pb jU):
 ax av 8 #[X (G ⟨sb,0,U⟩),aC (ju 1 0 0 0 0 (T (G ⟨pb,0,U⟩) 1 1))] w λe w'=>e=ay (I J 0)/\zW w0 w' sb 0:=by
 refine(qz h (by decide) hP).mono λe w' ⟨e1,a',g1,g2,_⟩=>⟨e1,a',g1,λg hg=>?_,hN.trans g2.ch (λg e=>.inr (hF g e))⟩;exact(g2.new g hg).elim (hF g) (λe=>aO hN.size e)
theorem zW.value(h:zW w0 w sb 9):ax av 10 #[X (G ⟨sb,0,U⟩),V ⟨#[97]⟩] w λe w'=>e=ay (aB #[V ⟨#[50]⟩,Y true])/\M w w':=by
 obtain⟨a,h1,h2,h3⟩:=h;refine(sV h1.m (by omega)).mono λe w' ⟨e1,e2⟩=>⟨?_,e2⟩;rw[e1, <-Oc];rfl
theorem zW.state(h:zW w0 w sb 9):ax av 13 #[X (G ⟨sb,0,U⟩),I J 0] w λe w'=>e=ay (I J 2)/\w'=w:=by
 obtain⟨a,h1,h2,h3⟩:=h;exact vG (i:=0) h1.m (d:=⟨0,8,1,G two,G two,[G two],[0],[],2⟩) rfl (by decide)
theorem VY.start(h4:4<=w.heap.size)(hB:aX w q 9 #[V ⟨#[98]⟩]):ax av 15 #[T (G ⟨q,0,U⟩) 1 1,I J 1,I J 2] w λe w'=>∃wb a,e=ay (aB #[X (G ⟨wb,0,U⟩),I J 0])/\fD w' wb jU 0 0 (λ_=>.wait 0) (λ_=>0) (λ_=>iS) (λ_ _=>U) U a/\
 (∀g,a.F wb U g->w.heap.size<=g)/\M w w'/\a.cA=U/\a.cc=0/\a.oA=U/\a.on=0/\a.oc=0:=
 Ob (C:=jU) (A:=G ⟨q,0,U⟩) (n:=1) (c:=1) (l:=Jt) ⟨rfl,λ_=>⟨q,0,rfl,hB.lt,λi v hv=>by
  match i,hv with
  |0,hv=>
   have hv:G (V ⟨#[98]⟩)=G v:=hv;injection hv with hv;subst hv;exact hB.c 0⟩⟩ Gx (λe=>by cases e) Ga rfl rfl Gy h4
theorem VY.vQ(h:fD w wb jU 0 0 (λ_=>.wait 0) (λ_=>0) (λ_=>iS) (λ_ _=>U) U a)(hX:VN w0 w wb U a)(hc:a.cA=U/\a.cc=0)(hP:oB w pb jU):
 ax av 16 #[X (G ⟨wb,0,U⟩),aC (Zs (G ⟨pb,0,U⟩) 1 1)] w λe w'=>e=ay (I J 0)/\∃b,RQ w0 w' wb b 0:=by
 refine doW (aq:=λw'=>∃b,fD w' wb jU 0 0 (λ_=>.wait 0) (λ_=>0) (λ_=>iS) (λ_ _=>U) (G bW) b/\VN w0 w' wb (G bW) b) (λw1 hN=>?_) (λw1 ⟨b,h1,h2⟩=>?_)
 ·refine(Sa (h.aR hN) hc (aX.ch hP hN (λh=>h))).mono λe w' ⟨e1,b,g1,g2,_⟩=>⟨e1,b,g1,(hX.next (Sub.bj _ hN)).next g2⟩
 ·refine(pg h1 (λ_ _=>rfl)).mono λe w' ⟨e1,b',g1,g2,g3⟩=>⟨e1,b',?_⟩;exact⟨_,_,_,b',bW,λ_ _=>rfl,g1,rfl,eL.same.rfl' b',h2.next g2,λ_ _=>rfl⟩
theorem RQ.new(h:RQ w0 w wb a n):M w0 w:=by
 unfold RQ at h;split at h
 ·obtain⟨m,t,f,b,x,hq,hM,hd,hs,hE,ht⟩:=h;exact hE.new
 ·obtain⟨m,t,f,b,x,hq,hM,hd,hs,hE,ht⟩:=h;exact hE.new
theorem RQ.aR(h:RQ w0 w wb a n)(hN:M w w'):RQ w0 w' wb a n:=by
 unfold RQ at h⊢;split at h
 ·rename_i e;rw[if_pos e];exact RW.aR h hN
 ·rename_i e;rw[if_neg e];exact RW.aR h hN
theorem VY.value(h:RQ w0 w wb a 30):ax av 18 #[X (G ⟨wb,0,U⟩),V ⟨#[97]⟩] w λe w'=>e=ay (aB #[V ⟨#[50]⟩,Y true])/\M w w':=by
 obtain⟨m,t,f,b,x,hq,hM,hd,hs,hE,ht⟩:=(show RW w0 w wb a 135000 6 (zT 6)from h);refine(VX hM (by decide) (by omega)).mono λe w' ⟨e1,e2⟩=>⟨?_,e2⟩;rw[e1, <-Oc];rfl
theorem VY.state(h:RQ w0 w wb a 30):ax av 19 #[X (G ⟨wb,0,U⟩),I J 0] w λe w'=>e=ay (I J 2)/\w'=w:=by
 obtain⟨m,t,f,b,x,hq,hM,hd,hs,hE,ht⟩:=(show RW w0 w wb a 135000 6 (zT 6)from h);obtain⟨y,hy,h8,ho⟩:=NU 6 (by omega);rw[hd]at hy;injection hy with hy _;subst hy;refine(Er hM).mono λe w' ⟨e1,e2⟩=>⟨?_,e2.symm⟩;rw[e1,if_pos h8,ho]
end
theorem EW(w:aw)(hE:gK.Env w)(hT:Waits.C4 w):ax av 4 #[] w λe w'=>e=ay (Y true)/\M w w':=by
 have HE:=O hE;have HT:=O hT;have h4:=qy hE;clear hE hT h4;go_enter func4,ntmps4;go_upto_region 2 with(fail);obtain⟨w1,bT⟩:=bG (w.alloc (az #[I J 5,V ⟨#[97]⟩,V ⟨#[]⟩,I J 2] 33));obtain⟨pb,hpb⟩:=bG (w.heap.size);have Wv:=O (show oB w1 pb jU from bT▸hpb▸aX.new w 33 _);have cH:=kb bT;rw[bT]
 try simp only[hpb]
 clear bT hpb;go_wp2_with fail;refine(zW.start (HE.o.aR (cH.o.alloc _)) (aX.new w1 9 #[V ⟨#[98]⟩])).mono ?_;rintro e w3 ⟨sb,sa,rfl,hG,hF,hN⟩;dsimp only;have G0:=O hG;have cE:=O (show M w1 w3 from((Ch.r (λ_=>False) w1).alloc _).t hN);have Pf:=O (show∀g,sa.F jU sb dV g->w1.heap.size<=g from λg hg=>by have:=hF g hg;simp at this;omega);clear hG hF hN;go_wp2_with fail;refine(zW.vQ G0.o Pf.o cE.o (aX.ch Wv.o cE.o (λh=>h))).mono ?_;rintro e w4 ⟨rfl,hA⟩;dsimp only;have Fa:=O hA;clear hA;go_wp2_with fail
 go_loopw[24] (λiv wr=>∃j:Nat,j<=9/\iv=I J j/\zW w1 wr sb j) (λiv _=>9- (intOf iv).toNat)
 case atStart=>exact⟨0,by omega,rfl,Fa.o⟩
 case round=>
  obtain⟨j,hj,rfl,hA⟩:=hrel;have HA:=O hA;clear hA;by_cases hlt:j<9
  ·have Ot:(j:Int)<9:=by omega
   have HC:=O (zW.step HA.o (by omega));go_wp2_with fail;refine HC.o.mono ?_;rintro e w5 ⟨⟨E,rfl⟩,hX⟩;dsimp only;have HX:=O hX;clear hX;go_wp2_with fail;exact⟨⟨j+1,by omega,by go_num,HX.o⟩,by simp[intOf];omega⟩
  ·obtain rfl:j=9:=by omega
   clear hlt hj;have VZ:=O (show M w1 wr from by obtain⟨_,_,_,h⟩:=HA.o;exact h);have HPR:=O (aX.ch Wv.o VZ.o (λh=>h));have HER:=O (HE.o.aR (cH.o.t VZ.o));have HTR:=O (HT.o.aR (cH.o.t VZ.o));go_wp2_with fail;obtain⟨w6,sZ⟩:=bG (wr.alloc (az #[V ⟨#[98]⟩] 9));have ir:=kb sZ;have oX:=O (show aX w6 wr.heap.size 9 #[V ⟨#[98]⟩]from sZ▸aX.new wr 9 _);rw[sZ];clear sZ;refine(VY.start (qy (HER.o.aR ir.o)) oX.o).mono ?_;rintro e w7 ⟨wb,wa,rfl,hM,hF,hN,c1,c2,_⟩;dsimp only;have Fi:=O (VY.vQ hM ⟨⟨HER.o.aR (ir.o.t hN),HTR.o.aR (ir.o.t hN),λg hg=>aO (qy (HER.o.aR ir.o)) (hF g hg)⟩,hF,hN⟩ ⟨c1,c2⟩ (aX.ch HPR.o (ir.o.t hN) (λh=>h)));clear hM hF hN c1 c2;go_wp2_with fail;refine Fi.o.mono ?_;rintro e w8 ⟨rfl,ab,hQ⟩;dsimp only;have HQ8:=O hQ;clear hQ;go_wp2_with fail
   go_loopw[8,39] (λ_ iv wx=>∃n:Nat,n<=30/\iv=I J n/\RQ w6 wx wb ab n) (λ_ iv _=>30- (intOf iv).toNat)
   case atStart=>exact⟨0,by omega,rfl,HQ8.o⟩
   case round=>
    obtain⟨n,hn,rfl,hQ⟩:=hrel;have HQ:=O hQ;clear hQ;by_cases hlt:n<30
    ·have jW:(n:Int)<30:=by omega
     have HC:=O (R3 HQ.o hlt);go_wp2_with fail;refine HC.o.mono ?_;rintro e w9 ⟨z,rfl,hX⟩;dsimp only;have HX:=O hX;clear hX;go_wp2_with fail;exact⟨⟨n+1,by omega,by go_num,HX.o⟩,by simp[intOf];omega⟩
    ·obtain rfl:n=30:=by omega
     clear hlt hn;have HV:=O (zW.value (HA.o.aR (ir.o.t HQ.o.new)));go_wp2_with fail;refine HV.o.mono ?_;rintro e w9 ⟨rfl,WV⟩;dsimp only;have IM:=O WV;have Xk:=O (VY.value (HQ.o.aR WV));clear WV;go_wp2_with fail;refine Xk.o.mono ?_;rintro e Kv ⟨rfl,Az⟩;dsimp only;have GW:=O (IM.o.t Az);have Ae:=O (zW.state (HA.o.aR ((ir.o.t HQ.o.new).t GW.o)));have kj:=O (VY.state (HQ.o.aR GW.o));clear Az;go_wp2_with fail;refine Ae.o.mono ?_;rintro e Jz ⟨rfl,hw⟩;subst Jz;dsimp only;go_wp2_with fail;refine kj.o.mono ?_;rintro e Jz ⟨rfl,hw⟩;subst Jz;dsimp only;go_wp2_with fail;go_ret;exact⟨rfl,(((cH.o.t VZ.o).t ir.o).t HQ.o.new).t GW.o⟩
def Jw:ByteArray:=⟨#[99]⟩
def Sg(tr:Int)(l:List ByteArray):Cf:=⟨Jw,1,1+tr,l.length+1,Iz l Jw⟩
theorem Tw{tr:Int}{l:List ByteArray}(h0:0<=tr)(h1:tr<256)(sQ:wP l):Mj (Sg tr l):=
 ⟨show 0<Jw.size/\Jw.size<=16 by decide,show(-1125899906842624:Int)<=1/\(1:Int)<=1125899906842624 by decide,⟨by show 1<=1+tr;omega,by show 1+tr<=256;omega⟩,⟨by show 1<=l.length+1;omega,by have:=sQ.len;show l.length+1<=8;omega⟩,by show Iz l Jw<l.length+1;have:=of_le l Jw;omega⟩
theorem counted_walk{w:aw}{A A2:Option Addr}{n c n2 c2:Nat}{l:List ByteArray}{L:List WT}{tr cl:Int}(hE:gK.Env w)(hT:Waits.C4 w)(hs:Strs w A n l)(hA:A=U->c=0/\n=0)(hn:n<=9223372036854775807)(TI:0<=tr/\tr<256)(xo:0<=cl/\cl<256)(ha:ActsM w A2 n2 L)(Wn:n2<=9223372036854775807):
 ax av 3 #[T A n c,I .u8 tr,I .u8 cl,T A2 n2 c2] w λe w'=>e=ay (Y true)/\Below w.heap.size w w':=by
 have HT:=O hT;have RG:=O (EW w hE hT);have UX:=O (λw' (hN:M w w')=>N9 (c:=c2) (ha.aR hN) Wn);have kD:=O ha;have Zi:=O (λw' (hN:M w w')=>Iu (hs.aR hN) hn c);have NB:=O (λ(sQ:wP l) w' (hN:M w w')=>show ax av 7 #[T A n c,I J (1+tr)] w' _ from yn (C:=Sg tr l) (hs.aR hN) sQ hA (Tw TI.1 TI.2 sQ) rfl rfl (hE.aR hN));obtain⟨t0,t1⟩:=TI;obtain⟨c0,c1⟩:=xo;have hLL:=ha.len;have iC:=O hLL;clear hE hT hs hA ha hLL;go_enter func3,ntmps3;go_wp2_with fail;refine RG.o.mono ?_;rintro e w1 ⟨rfl,Aw⟩;dsimp only;have cH:=O Aw;clear Aw;go_wp2_with fail;refine(UX.o _ cH.o).mono ?_;rintro e w2 ⟨⟨bb,rfl,Xn⟩,iD⟩;dsimp only;have bJ:=O (cH.o.t iD);clear iD;cases bb with
 |false=>
  go_wp2_with fail;go_ret;exact⟨rfl,bJ.o.kN (λ_ h=>h.elim) (aN _)⟩
 |true=>
  have Zw:=Xn rfl;clear Xn;go_wp2_with fail;refine(Zi.o _ bJ.o).mono ?_;rintro e w3 ⟨R,rfl,hR,gZ⟩;dsimp only;have cE:=O (bJ.o.t gZ);have HR:=O hR;clear hR gZ;by_cases hR0:R=0
  ·have sQ:=HR.o hR0;have F7:=O sQ;have HW:=O (Tw t0 t1 sQ);subst hR0;clear sQ;go_wp2_with fail;refine(NB.o F7.o _ cE.o).mono ?_;rintro e w4 ⟨sb,sa,rfl,hG,hF,pV⟩;dsimp only;have lY:=O (show zZ w3 w4 sb (Sg tr l) 0 0 from⟨0,dV,sa,0,hG,Gc _,rfl,hF,pV,by omega,by simp⟩);clear hG hF pV;go_wp2_with fail
   go_loopw[39] (λiv wr=>∃k:Nat,(k:Int)<=cl%10/\iv=I .u8 k/\zZ w3 wr sb (Sg tr l) k 0) (λiv _=>10- (intOf iv).toNat)
   case atStart=>exact⟨0,by omega,rfl,lY.o⟩
   case round=>
    obtain⟨k,hk,rfl,hS⟩:=hrel;have HS:=O hS;clear hS;by_cases hlt:(k:Int)<cl%10
    ·go_wp2_with fail;refine(zZ.vQ (HS.o.aR ((Ch.r _ wr).alloc _)) (by omega) (aX.new wr 33 #[I J 5,V ⟨#[99]⟩,V ⟨#[]⟩,I J 1])).mono ?_;rintro e w5 ⟨rfl,hX⟩;dsimp only;have HX:=O hX;clear hX;go_wp2_with fail;exact⟨⟨k+1,by omega,by go_num,HX.o⟩,by simp[intOf];omega⟩
    ·have hkM:cl%10=(k:Int):=by omega
     have hk9:k<=9:=by omega
     have WN:=O hkM;have Zx:=O hk9;rw[hkM];clear hlt hk hkM hk9;go_wp2_with fail
     go_loopw[49] (λiv wr=>∃j:Nat,j<=n2/\iv=I J j/\zZ w3 wr sb (Sg tr l) k j) (λiv _=>n2- (intOf iv).toNat)
     case atStart=>exact⟨0,by omega,rfl,HS.o⟩
     case round=>
      rename_i wr0;obtain⟨j,hj,rfl,hS⟩:=hrel;have HS:=O hS;clear hS;have VZ:=O (show M w wr from cE.o.t HS.o.news);by_cases hlt:j<n2
      ·obtain⟨⟨ak,ac,ai,Zp,Zq,pA,pn,pc,ops⟩,hx⟩:=bh (show j<L.length by rw[iC.o];exact hlt);obtain⟨b,off,rfl,hb,x0,x1,x2,x3,x4,x5⟩:=(kD.o.aR VZ.o).at_ hx;dsimp only at x0 x1 x2 x3 x4 x5;have Ot:(j:Int)<(n2:Int):=by omega
       clear hx;go_upto_region 13 with(fail);obtain⟨w6,sZ⟩:=bG (wr.alloc (az (ju ak ac ai Zp Zq (T pA pn pc)) 36));have oX:=O (show aX w6 wr.heap.size 36 (ju ak ac ai Zp Zq (T pA pn pc))from sZ▸aX.new wr 36 _);have ir:=kb sZ;change Code.wp _ _ _ _ (wr.alloc (az (ju ak ac ai Zp Zq (T pA pn pc)) 36));rw[sZ];clear sZ x0 x1 x2 x3 x4 x5;have lJ:=O (HS.o.aR ir.o);have Z3:=O (HT.o.aR (VZ.o.t ir.o));have y:=λj=>oX.o.c j;have⟨x0,x1,x2,x3,x4,x5⟩:=(show _/\_/\_/\_/\_/\_ from⟨y 0,y 1,y 2,y 3,y 4,y 5⟩);have xl:=oX.o.lt;clear y;by_cases e1:ak=1
       ·subst e1;go_wp2_with fail;exact⟨⟨j+1,by omega,by go_num,by
         obtain⟨aZ,s,a,B,h1,h2,h3,h4,h5,h6,h7⟩:=lJ.o;exact⟨aZ,s,a,B,h1,h2,h3,h4,h5,by omega,by omega⟩⟩,by simp[intOf];omega⟩
       ·have qg8:=O (zZ.act lJ.o (by omega) Z3.o ak ac ai Zp Zq e1 pA pn pc);have d1:(ak==1)=false:=beq_eq_false_iff_ne.2 e1;go_wp2_with fail;refine qg8.o.mono ?_;rintro e w7 ⟨⟨E,rfl⟩,hX⟩;dsimp only;have HX:=O hX;clear hX x0 x1 x2 x3 x4 x5 xl;go_wp2_with fail;exact⟨⟨j+1,by omega,by go_num,HX.o⟩,by simp[intOf];omega⟩
      ·obtain rfl:j=n2:=by omega
       have qg9:=O (zZ.V0 HS.o Zw);clear hlt hj;go_wp2_with fail;refine qg9.o.mono ?_;rintro e w6 ⟨rfl,hw,hX⟩;subst w6;dsimp only;have HX:=O hX;clear hX;have sP:(((Sg tr l).ns:Nat):Int)<=8:=by have:=HW.o.ns;omega
       obtain⟨N,hN⟩:=bG ((Sg tr l).ns);have HN:=O hN;rw[hN]at sP
       try simp only[hN]
       clear hN;go_wp2_with fail
       go_loopw[62] (λiv wx=>∃i:Nat,i<=N/\iv=I J i/\OZ w3 wx sb (Sg tr l) k i) (λiv _=>N- (intOf iv).toNat)
       case atStart=>exact⟨0,by omega,rfl,HX.o⟩
       case round=>
        obtain⟨i,hi,rfl,hS⟩:=hrel;by_cases hlt:i<N
        ·have Aa:(i:Int)<(N:Int):=by omega
         have HC:=O (OZ.tick hS (by rw[HN.o];exact hlt));clear hS;go_wp2_with fail;refine HC.o.mono ?_;rintro e w7 ⟨⟨E,rfl⟩,hX⟩;dsimp only;have HX7:=O hX;clear hX;go_wp2_with fail;exact⟨⟨i+1,by omega,by go_num,HX7.o⟩,by simp[intOf];omega⟩
        ·obtain rfl:i=N:=by omega
         have HC:=O (OZ.qg7 (show OZ _ _ _ _ _ (Sg tr l).ns from HN.o.symm▸hS));clear hS hlt hi;go_wp2_with fail;refine HC.o.mono ?_;rintro e w7 ⟨⟨E,rfl⟩,hX⟩;dsimp only;have Wr:=O (show M w3 w7 from by obtain⟨_,_,_,_,_,_,_,h,_⟩:=hX;exact h);obtain⟨s,m,v,hZ⟩:=CnF.ends hX rfl Zx.o;have HZ:=O hZ;have hm9:(m:Int)<=9:=by have:=hZ.fx;have:=Zx.o;omega
         clear hX hZ;have HV:=O (show ax av 10 #[X (G ⟨sb,0,U⟩),V ⟨#[99]⟩] w7 _ from HZ.o.value);go_wp2_with fail;refine HV.o.mono ?_;rintro e w8 ⟨rfl,OG⟩;dsimp only;have HN8:=O OG;have HO:=O ((HZ.o.aR OG).order Zx.o);clear OG;go_wp2_with fail;refine HO.o.mono ?_;rintro e w9 ⟨⟨A9,c9,rfl⟩,WV⟩;dsimp only;have IM:=O (HN8.o.t WV);have WW:=O (HZ.o.aR IM.o);clear WV;go_wp2_with fail;refine WW.o.GA.mono ?_;rintro e Kv ⟨rfl,hw⟩;subst Kv;dsimp only;have hkI9:(k:Int)<=9:=by have:=Zx.o;omega
         go_wp2_with fail
         go_loopw[17,83] (λtv iv wx=>∃i:Nat,i<=k/\iv=I J i/\tv=I J (nj s i)/\wx=w9) (λ_ iv _=>k- (intOf iv).toNat)
         case atStart=>exact⟨0,by omega,rfl,rfl,rfl⟩
         case round=>
          obtain⟨i,hi,rfl,rfl,hw⟩:=hrel;subst hw;have LA:(nj s i:Int)<=9:=by
           have h1:nj s i<=i:=by
            unfold nj;exact aO (List.length_filter_le _ _) (by simp)
           omega
          by_cases hlt:i<k
          ·have Aa:(i:Int)<(k:Int):=by omega
           have HC:=O (WW.o.state Zx.o hlt);go_wp2_with fail;refine HC.o.mono ?_;rintro e Jz ⟨z,rfl,hw,hz⟩;subst Jz;dsimp only;have HZZ:=O hz;clear hz;by_cases ez:z=2
           ·subst ez;go_wp2_with fail;exact⟨⟨i+1,by omega,by go_num,by rw[HZZ.o,if_pos rfl];go_num,by first|rfl|trivial⟩,by simp[intOf];omega⟩
           ·have dz:(z==2)=false:=beq_eq_false_iff_ne.2 ez;go_wp2_with fail;exact⟨⟨i+1,by omega,by go_num,by rw[HZZ.o,if_neg ez];rfl,by first|rfl|trivial⟩,by simp[intOf];omega⟩
          ·obtain rfl:i=k:=by omega
           have htm:(nj s i:Int)<=(m:Int):=by have:=WW.o.told;omega
           have jj:=O WW.o.GA;have SF:=O (λw=>gK.EX v WW.o.vs w);rw[WW.o.num]at SF;have hb:decide (0<m)=decide ((0:Int)<(m:Int)):=by
            by_cases h:0<m
            ·rw[decide_eq_true h,decide_eq_true (by omega)]
            ·rw[decide_eq_false h,decide_eq_false (by omega)]
           have Wb:=WN.o;rw[hb];clear hlt hi hb;go_wp2_with fail;refine jj.o.mono ?_;rintro e Jz ⟨rfl,hw⟩;subst Jz;dsimp only;go_wp2_with fail;refine(SF.o _).mono ?_;rintro e w12 ⟨rfl,Zy⟩;dsimp only;have qh0:=O Zy;clear Zy;go_wp2_with fail;go_ret;exact⟨by simp,(((cE.o.t Wr.o).t IM.o).t qh0.o).kN (λ_ h=>h.elim) (aN _)⟩
  ·go_wp2_with fail;go_ret;exact⟨rfl,cE.o.kN (λ_ h=>h.elim) (aN _)⟩
