import Derived.Shelf.SlIterI.Nil
import Derived.Maps.Ext
import Derived.Test.YtmaimjajdbgmiaaGreatDoorAh
set_option linter.unusedVariables false
set_option linter.unusedSimpArgs false
set_option maxRecDepth 100000
set_option maxHeartbeats 0
open Go.Value renaming int→I,string→V,pointer→X,bool→Y,slice→T,agg→aC
open Go.IntKind renaming i64→J
open Option renaming none→U,some→G
open Go renaming World→aw,Calls→ax
open Go.Ending renaming returned→ay
open Go.Obj renaming cells→az
open List renaming length_append→aL
open Nat renaming le_refl→aN,le_trans→aO
open Go.Proofs.Tryz
open Go.Proofs.Tryz renaming prog→av
namespace Go.Proofs.YtmaimjajdbgmiaaGreatDoor
open Go.Lib Go.RowKit
theorem oF{l:List Int}(h:l.Pairwise (· <= ·)):(Lib.compact l).Nodup:=by
 unfold Lib.compact Lib.compactUpTo;rw[List.Nodup,List.pairwise_map,List.pairwise_filter];refine List.pairwise_lt_range.imp_of_mem λ{i j} hi hj tG _ hk=>?_;have hi:=List.mem_range.1 hi;have hj:=List.mem_range.1 hj;have ei:l.toArray[i]! =l[i]:=by rw[getElem!_pos l.toArray i (by simpa using hi)];simp
 have ej:l.toArray[j]! =l[j]:=by rw[getElem!_pos l.toArray j (by simpa using hj)];simp
 have ep:l.toArray[j-1]! =l[j-1]'(by omega):=by rw[getElem!_pos l.toArray (j-1) (by simp;omega)];simp
 unfold Lib.keeps at hk;rw[decide_eq_true_eq,ej,ep]at hk;have hk:l[j]≠l[j-1]'(by omega):=by
  rcases hk with e|e
  ·omega
  ·exact e
 have h1:=List.pairwise_iff_getElem.1 h (j-1) j (by omega) hj (by omega);have h2:l[i]<=l[j-1]'(by omega):=by
  by_cases e:i=j-1
  ·subst e;exact Int.le_refl _
  ·exact List.pairwise_iff_getElem.1 h i (j-1) (by omega) (by omega) (by omega)
 rw[ei,ej];omega
theorem Cg(l:List Int):(l.mergeSort λx y=>decide (x<=y)).Pairwise (· <= ·):=by
 have:=List.pairwise_mergeSort (le:=λx y:Int=>decide (x<=y)) (λa b c Dy hbc=>by simp at *;omega) (λa b=>by simp;omega) l;exact this.imp (λh=>by simpa using h)
theorem eX.at_{w:aw}{A:Option Addr}{n c:Nat}{l:List Int}(h:eX w A n c l){i:Nat}{x:Int}(hx:l[i]?=G x): ∃b off,A=G ⟨b,off,U⟩/\b<w.heap.size/\w.cell? ⟨b,off+i,U⟩=G (I J x):=by
 have GY:(ints l)[i]?=G (I J x):=by simp[ints,hx]
 obtain⟨b,off,hA,hb,hc⟩:=(Rd.own h.own) (fh GY);exact⟨b,off,hA,hb,hc _ _ GY⟩
section
variable{w w':aw}{lb g:Nat}{K:ByteArray}{A HA QA:Option Addr}{c hc qn qc:Nat}{hs qs:List Int}{y:Int}
theorem Ci(h:kV w lb K (G ⟨g,0,U⟩) c HA 1 hc QA qn qc [y] qs)(o:Int):ax av 194 #[X (G ⟨lb,0,U⟩),I J o] w λe w'=>∃SA sn sc R,e=ay (T SA sn sc)/\eX w' SA sn sc R/\(∀z∈R,z∈y::qs)/\R.Nodup/\(∀k,(T SA sn sc).ownBlock=G k->w.heap.size<=k)/\M w w':=by
 have H:=O h;have wB:=O h.ho;have KN:=O h.qu;have iC:=O h.qu.len;have qnI:(qn:Int)<=1000:=by have:=h.qu.fx;omega
 obtain⟨i1,dX,er,eu,eK⟩:=info_parts iH;obtain⟨g',e,hl,eQ,dL,y0,y1,y2⟩:=h.line;injection e with e;injection e with e1 _;subst e1;have x0:=h.aW.c 0;have xl:=h.aW.lt;clear h dL;go_enter func194,ntmps194;go_wp2_with fail
 go_loopw[5,17] (λv i wr=>M w wr/\((i=I J 0/\v=T U 0 0)\/(i=I J 1/\∃SA sn sc R,v=T SA sn sc/\eX wr SA sn sc R/\sn<=1000000/\(∀z∈R,z∈y::qs)/\(∀b,(T SA sn sc).ownBlock=G b->w.heap.size<=b)))) (λ_ i _=>1- (intOf i).toNat)
 case atStart=>exact⟨Ch.r _ _,.inl ⟨rfl,rfl⟩⟩
 case round=>
  obtain⟨hC,hr⟩:=hrel;have HC:=O hC;have wC:=O (H.o.aR hC);clear hC y0 y1 y2 x0 xl;rcases hr with⟨rfl,rfl⟩|⟨rfl,SA,sn,sc,R,rfl,hI,Fj,hR,gu⟩
  ·obtain⟨g'',e,hl,eQ,dL,y0,y1,y2⟩:=wC.o.line;injection e with e;injection e with e1 _;subst e1;clear dL;go_wp2_with fail;obtain⟨wx,PF⟩:=bG (wr.alloc (az #[V K,T HA 1 hc,T QA qn qc] 321));have HB:=O (show aX wx wr.heap.size 321 #[V K,T HA 1 hc,T QA qn qc]from PF▸aX.new wr 321 _);have KO:=O (show M w wx from PF▸HC.o.alloc _);obtain⟨ob,sD⟩:=bG (wr.heap.size);rw[sD]at HB
   try rw[PF]
   try simp only[sD]
   clear PF sD y0 y1 y2 hl eQ
   go_loopw[5,24] (λv i wr=>∃(k:Nat) (SA:Option Addr) (sn sc:Nat) (R:List Int),k<=qn/\i=I J k/\v=T SA sn sc/\eX wr SA sn sc R/\sn<=k*1000/\(∀z∈R,z∈y::qs)/\(∀b,(T SA sn sc).ownBlock=G b->wx.heap.size<=b)/\M wx wr) (λ_ i _=>qn- (intOf i).toNat)
   case atStart=>exact⟨0,U,0,0,[],by omega,rfl,rfl,⟨World.ownsRow_nil _ _ _ _,rfl⟩,by omega,(λz hz=>by cases hz),(λb hb=>by cases hb),Ch.r _ _⟩
   case round=>
    obtain⟨k,SA,sn,sc,R,hk,rfl,rfl,hI,Fj,hR,gu,hC⟩:=hrel;have HI:=O hI;have HR:=O hR;have gI:=O gu;have HC:=O hC;have HSN:=O Fj;clear hI hR gu hC Fj;by_cases hlt:k<qn
    ·obtain⟨x,hx⟩:=bh (show k<qs.length by rw[iC.o];exact hlt);obtain⟨b,off,rfl,hb,x0,x1⟩:=((KN.o.aR (KO.o.t HC.o)).rd).at_ hx;have jq:(k:Int)<(qn:Int):=by omega
     clear hx;by_cases e:x=o
     ·subst e;go_upto_region 11 with(fail);obtain⟨wz,bV⟩:=bG (wr.alloc (az #[I J x,I J 2] 316));have OK:=O (show aX wz wr.heap.size 316 #[I J x,I J 2]from bV▸aX.new wr 316 _);have YH:=kb bV
      try rw[bV]
      generalize wr.heap.size=pb at *;have HBO:=O ((HB.o.ch HC.o (λh=>h)).ch YH.o (λh=>h));have HSI:=O (HI.o.aR YH.o);have HCW:=O (show M wx wz.drew from(HC.o.t YH.o).drew);have K6:=O (λw' (hN:M wx w')=>sF (c:=hc) ((wB.o.aR (KO.o.t hN)).rd) x);have xn:=O (λw' (hq:fN w' (G ⟨b,off,U⟩) k (qs.take k))=>sF (c:=qc) hq x);have HQZ:=O (((KN.o.aR (KO.o.t (HC.o.t YH.o))).rd).take (Nat.le_of_lt hlt));have qq:qn<=qc:=AQ KN.o.own;have hkq:(k:Int)<=(qc:Int):=by omega
      have Fj:=HSN.o;have hk9:k<=999:=by omega
      have qe9:=O (λ(WI:Option Addr) (Cj WJ:Nat) (wa:aw) (Th:eX wa WI Cj WJ ([y].filter (· ≠x)))=>(show Cj<=1 from by
       rw[<-Th.len];exact aO (List.length_filter_le _ _) (by simp)))
      have qf0:=O (λ(WI:Option Addr) (Cj WJ:Nat) (wa:aw) (Th:eX wa WI Cj WJ ((qs.take k).filter (· ≠x)))=>(show Cj<=k from by
       rw[<-Th.len];exact aO (List.length_filter_le _ _) (by rw[List.length_take];omega)))
      have HOO:=O (λb' ta (hA:(G ⟨b,off,U⟩:Option Addr)=G ⟨b',ta,U⟩)=>gU (bg KN.o.own (KO.o.t (HC.o.t YH.o)) (λ_ _ h=>h)) HSI.o.own (by decide) b' (by injection hA with hA;injection hA with hA;subst hA;rfl));clear bV x0 x1 qq
      go_region_held3(λw'=>w'.cell? ⟨ob,1,U⟩=G (T HA 1 hc)/\w'.cell? ⟨ob,2,U⟩=G (T (G ⟨b,off,U⟩) qn qc)/\w'.cell? ⟨pb,0,U⟩=G (I J x)/\w'.cell? ⟨pb,1,U⟩=G (I J 2))
       (first|exact AR b19 b29|exact AR b18 b28|exact AR b17 b27|exact AR b1a b2a|exact AR HBO.o OK.o)
       (first
         |(go_at_call_of 263 (T HA 1 hc);refine(K6.o _ HCW.o).mono ?_;rintro e wa ⟨WI,Cj,WJ,rfl,Th,hn1,oO⟩;have b1a:=HBO.o.drew.ch oO (λh=>h);have b2a:=OK.o.drew.ch oO (λh=>h);have hNz:=(aU wz).t oO;have CQ:=qe9.o WI Cj WJ _ Th;have sr:sn+Cj<=maxLen:=(by unfold maxLen;omega);have jE:(sn+Cj)*8<=140737488355328:=(by omega))
         |(refine bL _ rfl (.tmp 33) (.tmp 37) _ rfl 0 3 i1 _ 1 8 underlying40 dX er eu eK rfl Nat.one_pos (T SA sn sc) sn (ints R) rfl
            (bg HSI.o.own hNz (λ_ _ h=>h)) wa.heap.size WI Cj WJ (ints ([y].filter (· ≠x))) rfl Th.Wa (AP _) sr jE (Nat.zero_le _) ?_
           intro v7 w7 fc kt jG;obtain⟨A7,c7,rfl⟩:=bz fc;have b17:=b1a.grown kt (λe=>aV HSI.o.own HBO.o (by decide) e.symm);have b27:=b2a.grown kt (λe=>aV HSI.o.own OK.o (by decide) e.symm);have hq7:=(HQZ.o.aR hNz).chH (Ch.bF kt) (λb' ta hA hS=>HOO.o b' ta hA hS))
         |(go_at_call_of 263 (T (G ⟨b,off,U⟩) k qc);refine(xn.o _ hq7).mono ?_;rintro e wb ⟨SA2,WK,sc2,rfl,hI2,Wn,xm⟩;have b18:=b17.ch xm (λh=>h);have b28:=b27.ch xm (λh=>h);have PB:=qf0.o SA2 WK sc2 _ hI2;have WL:sn+Cj+WK<=maxLen:=(by unfold maxLen;omega);have B8:(sn+Cj+WK)*8<=140737488355328:=(by omega))
         |(refine bL _ rfl (.tmp 38) (.tmp 44) _ rfl 0 3 i1 _ 1 8 underlying40 dX er eu eK rfl Nat.one_pos (T A7 (sn+Cj) c7) (sn+Cj) _ rfl
            (bg fc xm (λ_ _ h=>h)) wb.heap.size SA2 WK sc2 (ints ((qs.take k).filter (· ≠x))) rfl hI2.Wa (AP _) WL B8 (Nat.zero_le _) ?_
           intro v9 w9 cC gV fl;obtain⟨A9,c9,rfl⟩:=bz cC;have b19:=b18.grown gV (λe=>aV fc b17 (by decide) e.symm);have b29:=b28.grown gV (λe=>aV fc b27 (by decide) e.symm)))
      all_goals
       have Oq:=HCW.o.size;have AG: ∀b',(T A7 (sn+Cj) c7).ownBlock=G b'->wx.heap.size<=b':=uC jG gI.o (aO Oq oO.size);have Ti: ∀b',(T A9 (sn+Cj+WK) c9).ownBlock=G b'->wx.heap.size<=b':=uC fl AG (aO (aO Oq oO.size) (aO kt.size xm.size));have hCF:M wx w9:=(((HCW.o.t oO:M wx wa).trans (Ch.bF kt) (λb' vT=>.inr (gI.o b' vT)):M wx w7).t xm:M wx wb).trans (Ch.bF gV) (λb' vT=>.inr (AG b' vT));have FE:=O (show eX w9 A9 (sn+Cj+WK) c9 (R++[y].filter (· ≠x)++(qs.take k).filter (· ≠x))from⟨by simpa [ints]using cC,by have h1:=HI.o.len;have h2:=Th.len;have h3:=hI2.len;rw[aL,aL];omega⟩);have IM:=O Ti;have nY:=O hCF;clear hCF Ti AG cC gV fl fc kt jG Th hI2 b19 b29 b18 b28 b17 b27 b1a b2a oO xm hNz hq7 hn1 Wn;go_wp2_with fail;refine⟨⟨k+1,A9,_,c9,_,by omega,by go_num,rfl,FE.o,by omega,?_,IM.o,nY.o⟩,by simp[intOf];omega⟩;intro z hz;rcases List.mem_append.1 hz with hz|hz
       ·rcases List.mem_append.1 hz with hz|hz
        ·exact HR.o z hz
        ·have:=(List.mem_filter.1 hz).1;simp at this;subst this;exact List.mem_cons_self
       ·exact List.mem_cons_of_mem _ (List.mem_of_mem_take (List.mem_filter.1 hz).1)
     ·have d1:(x==o)=false:=by simpa using e
      clear e;go_wp2_with fail;refine⟨⟨k+1,SA,sn,sc,R,by omega,by go_num,rfl,HI.o.aR ((Ch.r _ _).alloc _),by have:=HSN.o;omega,HR.o,gI.o,HC.o.alloc _⟩,by simp[intOf];omega⟩
    ·obtain rfl:qn=k:=by omega
     have Fj:=HSN.o;have hq:=KN.o.fx;clear hlt hk;go_wp2_with fail;exact⟨⟨KO.o.t HC.o,.inr ⟨rfl,SA,sn,sc,R,rfl,HI.o,by omega,HR.o,λb hb=>aO KO.o.size (gI.o b hb)⟩⟩,by simp[intOf]⟩
  ·have HI:=O hI;have HR:=O hR;have gI:=O gu;have HS:=O (jZ hI Fj);clear hI gu hR;go_wp2_with fail;refine HS.o.mono ?_;rintro e w5 ⟨rfl,CR,qE⟩;dsimp only;have Pt:=O (gv CR);have ff:=O ((HC.o.trans qE (λb hb=>.inr (gI.o b hb)):M w w5));clear CR qE;go_wp2_with fail;refine Pt.o.mono ?_;rintro e w6 ⟨rfl,G7,nC⟩;dsimp only;have KF:=O G7;have ir:=O ((ff.o.trans nC (λb hb=>.inr (gI.o b hb)):M w w6));clear G7 nC;go_wp2_with fail;go_ret;refine⟨SA,_,sc,_,rfl,KF.o,λz hz=>?_,oF (Cg R),λb hb=>gI.o b (by cases SA<;>exact hb),ir.o⟩;have:=sC hz;rw[List.mem_mergeSort]at this;exact HR.o z this
end
end Go.Proofs.YtmaimjajdbgmiaaGreatDoor
namespace Go.Proofs.YtmaimjajdbgmiaaGreatDoor
open Go.Lib Go.Maps Go.RowKit
def zO(p:Int×Int):List Value:=[I J p.1,I J p.2]
def fR(l:List (Int×Int)):List Value:=l.flatMap zO
structure eB(w:aw)(A:Option Addr)(n c:Nat)(l:List (Int×Int)):Prop where
 own:w.ownsRow 0 172 2 (T A n c) n (fR l)
 len:l.length=n
theorem nM:(av.info? 172).map (λi=>(i.zero,i.size,i.bytes))=G (G (aC #[I J 0,I J 0]),2,16):=by kernel_rfl
section
variable{w w':aw}{sb aZ:Nat}{K:ByteArray}{s:dm}{a:ia}
theorem eB.ch{S:Nat->Prop}{A:Option Addr}{n c:Nat}{l:List (Int×Int)}(h:eB w A n c l)(hC:Ch S w w')(hS: ∀g,(T A n c).ownBlock=G g->¬S g):eB w' A n c l:=⟨bg h.own hC hS,h.len⟩
theorem eB.aR{A:Option Addr}{n c:Nat}{l:List (Int×Int)}(h:eB w A n c l)(hC:M w w'):eB w' A n c l:=h.ch hC (λ_ _ h=>h)
theorem eB.push{v8:Value}{w8:aw}{li:List (Int×Int)}{sn:Nat}{x y:Int}(h:w8.ownsRow 0 172 2 v8 (sn+1) (fR li++[I J x,I J y]))(hl:li.length=sn): ∃A8 c8,v8=T A8 (sn+1) c8/\eB w8 A8 (sn+1) c8 (li++[(x,y)]):=by
 obtain⟨A8,c8,rfl⟩:=bz h;exact⟨A8,c8,rfl,by simpa [fR,zO]using h,by simp[hl]⟩
def VC(w:aw)(own:List Int)(e:Ending)(w':aw):Prop:=
 ∃A n c L,e=ay (T A n c)/\eB w' A n c L/\n<=256/\(∀p∈L,p.1∈own/\p.2∈own)/\(∀k,(T A n c).ownBlock=G k->w.heap.size<=k)/\M w w'
theorem EB(h:dH w sb K aZ s a)(cU:s.own=[]):ax av 120 #[X (G ⟨sb,0,U⟩)] w (VC w s.own):=by
 obtain⟨_,_,_,x3,_⟩:=h.cells;have xl:=h.aW.lt;have vE:=h.wD;rw[cU]at vE;obtain⟨A,c,hl,_⟩:=vE;have HO:=O (sG hl);clear h hl;go_enter func120,ntmps120;go_wp2_with fail;refine HO.o.mono ?_;rintro e w2 ⟨rfl,hN⟩;dsimp only;have HN:=O hN;clear hN;go_wp2_with fail
 go_loopw[3,16] (λv i wr=>v=T U 0 0/\i=I J 0/\M w2 wr) (λ_ _ _=>0)
 case atStart=>exact⟨rfl,rfl,Ch.r _ _⟩
 case round=>
  obtain⟨rfl,rfl,hC⟩:=hrel;have HC:=O hC;clear hC;go_wp2_with fail;go_ret;exact⟨U,0,0,[],rfl,⟨World.ownsRow_nil _ _ _ _,rfl⟩,by omega,λp hp=>(by cases hp),λk hk=>(by cases hk),HN.o.t HC.o⟩
theorem EC(h:dH w sb K aZ s a){y:Int}{q:List Int}(cU:s.own=y::q):ax av 120 #[X (G ⟨sb,0,U⟩)] w (VC w s.own):=by
 obtain⟨_,_,_,x3,_⟩:=h.cells;have xl:=h.aW.lt;have vE:=h.wD;have hall:=h.dR.ok;have HM:=O h;rw[cU]at vE hall⊢;obtain⟨g,c,HA,hc,QA,qc,hl,_⟩:=vE;have RG:=O hall;have HO:=O (uB hl);have HB:=O (λw' (hN:M w w') o=>Ci (hl.aR hN) o);obtain⟨i1,dX,er,eu,eK⟩:=info_parts nM;clear h hl cU hall;go_enter func120,ntmps120;go_wp2_with fail;refine HO.o.mono ?_;rintro e wO ⟨SA,sn,sc,rfl,hI,hnO,Tj⟩;dsimp only;have tJ:=O Tj;have hnd:=oF (Cg ([y]++q));have vU: ∀z∈Lib.compact (([y]++q).mergeSort λx y=>decide (x<=y)),z∈y::q:=λz hz=>by
  have:=sC hz;rw[List.mem_mergeSort]at this;exact this
 have Yy:=A0 hnd (λz hz=>RG.o z (vU z hz));generalize Lib.compact (([y]++q).mergeSort λx y=>decide (x<=y))=OL at *;have HIO:=O hI;have Qh:=O vU;have hs16:sn<=16:=by rw[<-hI.len];exact Yy
 clear hI Tj hnO hnd vU Yy x3 xl HO;go_wp2_with fail
 go_loopw[3,16] (λv i wr=>∃(k:Nat) (A:Option Addr) (n c:Nat) (L:List (Int×Int)),k<=sn/\i=I J k/\v=T A n c/\eB wr A n c L/\n<=k*16/\(∀p∈L,p.1∈y::q/\p.2∈y::q)/\(∀b,(T A n c).ownBlock=G b->wO.heap.size<=b)/\M wO wr) (λ_ i _=>sn- (intOf i).toNat)
 case atStart=>exact⟨0,U,0,0,[],by omega,rfl,rfl,⟨World.ownsRow_nil _ _ _ _,rfl⟩,by omega,λp hp=>(by cases hp),λb hb=>(by cases hb),Ch.r _ _⟩
 case round=>
  obtain⟨k,A,n,c,L,hk,rfl,rfl,hE,hn,hL,hb,hC⟩:=hrel;have HE:=O hE;have HN:=O hn;have HL:=O hL;have WM:=O hb;have HC:=O hC;clear hE hn hL hb hC;by_cases hlt:k<sn
  ·obtain⟨x,hx⟩:=bh (show k<OL.length by rw[HIO.o.len];exact hlt);obtain⟨bb,off,rfl,pD,x0⟩:=(HIO.o.aR HC.o).at_ hx;have HX:=O (Qh.o x (bS hx));have jq:(k:Int)<(sn:Int):=by omega
   obtain⟨_,_,_,x3,_⟩:=(HM.o.aR (tJ.o.t HC.o)).cells;have xl:=(HM.o.aR (tJ.o.t HC.o)).aW.lt;have T3:=O (HB.o wr (tJ.o.t HC.o) x);clear hx;go_wp2_with fail;refine T3.o.mono ?_;rintro e w2 ⟨RA,rn,rc,R,rfl,hI,hR,hRn,hnR,iD⟩;dsimp only;have hr16:rn<=16:=by rw[<-hI.len];exact A0 hRn (λz hz=>RG.o z (hR z hz))
   have HI:=O hI;have HR:=O hR;have bJ:=O iD;have DV:=O (HE.o.aR iD);clear hI hR hRn hnR iD x0 x3 xl pD T3;go_wp2_with fail
   go_loopw[3,27] (λv i wr=>∃(j:Nat) (A:Option Addr) (n c:Nat) (L:List (Int×Int)),j<=rn/\i=I J j/\v=T A n c/\eB wr A n c L/\n<=k*16+j/\(∀p∈L,p.1∈y::q/\p.2∈y::q)/\(∀b,(T A n c).ownBlock=G b->wO.heap.size<=b)/\M wO wr/\(∀k',RA=G k'->True)/\eX wr RA rn rc R) (λ_ i _=>rn- (intOf i).toNat)
   case atStart=>exact⟨0,A,n,c,L,by omega,rfl,rfl,DV.o,by have:=HN.o;omega,HL.o,WM.o,HC.o.t bJ.o,λ_ _=>trivial,HI.o⟩
   case round=>
    obtain⟨j,A',n',c',L',hj,rfl,rfl,hE,hn,hL,hb,hC,_,hI⟩:=hrel;have Gq:=O hE;have wv:=O hL;have fL:=O hb;have gT:=O hC;have YI:=O hI;have hn3:=hn;clear hE hn hL hb hC hI;by_cases GZ:j<rn
    ·obtain⟨z,hz⟩:=bh (show j<R.length by rw[HI.o.len];exact GZ);obtain⟨zb,zo,rfl,hzl,z0⟩:=YI.o.at_ hz;have HZ:=O (HR.o z (bS hz));have Ot:(j:Int)<(rn:Int):=by omega
     clear hz;have lG:=O (show Reads (wr.alloc (az #[I J x,I J z] 172)) (wr.heap.size+1) 2 (G ⟨wr.heap.size,0,U⟩) 1 [I J x,I J z]from⟨rfl,λ_=>⟨_,rfl,by simp,λi u hu=>by
      rw[show(⟨wr.heap.size,0,U⟩:Addr).add i=⟨wr.heap.size,i,U⟩ by unfold Addr.add;split<;>simp_all,(aX.new wr 172 #[I J x,I J z]).c];simpa using hu⟩⟩)
     have xC:=O (show M wr (wr.alloc (az #[I J x,I J z] 172))from(Ch.r _ wr).alloc _);have OW:=O (Gq.o.aR xC.o);go_wp2_with(first
      |(at_builtin
        refine bp _ rfl (.tmp 31) (.tmp 35) _ rfl 0 172 i1 _ 2 16 underlying169 dX er eu eK rfl (by omega) (T A' n' c') n' (fR L') rfl
         OW.o.own (wr.heap.size+1) _ 1 1 [I J x,I J z] rfl lG.o (by simp[Value.oneCell']) (by simp only[maxLen];omega) (by omega) (Nat.zero_le _) ?_
        intro v8 w8 bM dS dG;obtain⟨A8,c8,rfl,hE8⟩:=eB.push bM OW.o.len;have HE8:=O hE8;have iT:=O (Ch.bF dS);have nS:=O dG;clear bM dS dG hE8))
     have hs:=gT.o.size;refine⟨⟨j+1,A8,n'+1,c8,L'++[(x,z)],by omega,by go_num,rfl,HE8.o,by omega,λp hp=>?_,λb hb=>?_,(gT.o.t xC.o).trans iT.o (λb hb=>.inr (fL.o b hb)),λ_ _=>trivial,?_⟩,by simp[intOf];omega⟩
     ·rcases List.mem_append.1 hp with hp|hp
      ·exact wv.o p hp
      ·obtain rfl:=List.mem_singleton.1 hp;exact⟨HX.o,HZ.o⟩
     ·rcases nS.o with e|e
      ·exact fL.o b (e▸hb)
      ·rw[hb]at e;injection e with e;simp at e;omega
     ·exact(YI.o.aR xC.o).ch iT.o (λb hb JG=>gU (YI.o.aR xC.o).own OW.o.own (by decide) b hb JG)
    ·obtain rfl:rn=j:=by omega
     clear GZ hj;go_wp2_with fail;exact⟨⟨k+1,A',n',c',L',by omega,by go_num,rfl,Gq.o,by omega,wv.o,fL.o,gT.o⟩,by simp[intOf];omega⟩
  ·obtain rfl:sn=k:=by omega
   have hn:=HN.o;clear hlt hk;go_wp2_with fail;go_ret;exact⟨A,n,c,L,rfl,HE.o,by omega,HL.o,λb hb=>aO tJ.o.size (WM.o b hb),tJ.o.t HC.o⟩
theorem yh(h:dH w sb K aZ s a):ax av 120 #[X (G ⟨sb,0,U⟩)] w (VC w s.own):=by
 cases e:s.own with
 |nil=>exact e▸EB h e
 |cons y q=>exact e▸EC h e
end
section
variable{w w':aw}{lb g c hc qn qc sb aZ:Nat}{HA QA:Option Addr}{K:ByteArray}{y:Int}{s:dm}{a:ia}
theorem Gr(w:aw):eX w U 0 0 []:=⟨World.ownsRow_nil _ _ _ _,rfl⟩
theorem zP(h:kV w lb K (G ⟨g,0,U⟩) c HA 1 hc QA qn qc [y] [])(o:Int):ax av 194 #[X (G ⟨lb,0,U⟩),I J o] w λe w'=>e=ay (T U 0 0)/\M w w':=by
 have H:=O h;obtain rfl:qn=0:=h.qu.len.symm;obtain⟨g',e,hl,eQ,dL,y0,y1,y2⟩:=h.line;injection e with e;injection e with e1 _;subst e1;have x0:=h.aW.c 0;have xl:=h.aW.lt;clear h dL;go_enter func194,ntmps194;go_wp2_with fail
 go_loopw[5,17] (λv i wr=>M w wr/\v=T U 0 0/\(i=I J 0\/i=I J 1)) (λ_ i _=>1- (intOf i).toNat)
 case atStart=>exact⟨Ch.r _ _,rfl,.inl rfl⟩
 case round=>
  obtain⟨hC,rfl,hr⟩:=hrel;have HC:=O hC;have wC:=O (H.o.aR hC);clear hC y0 y1 y2 x0 xl;rcases hr with rfl|rfl
  ·obtain⟨g'',e,hl,eQ,dL,y0,y1,y2⟩:=wC.o.line;injection e with e;injection e with e1 _;subst e1;clear dL;go_wp2_with fail
   go_loop[5,24] (λv i=>v=T U 0 0/\i=I J 0) (λ_ _=>0)
   case atStart=>exact⟨rfl,rfl⟩
   case round=>
    obtain⟨rfl,rfl⟩:=hrel;go_wp2_with fail;exact⟨⟨HC.o.alloc _,rfl,.inr rfl⟩,by simp[intOf]⟩
  ·have HS:=O (jZ (Gr wr) (by omega));go_wp2_with fail;refine HS.o.mono ?_;rintro e w5 ⟨rfl,CR,qE⟩;dsimp only;have Pt:=O (gv (Gr w5));have ff:=O ((HC.o.trans qE (λb hb=>by cases hb):M w w5));clear CR qE;go_wp2_with fail;refine Pt.o.mono ?_;rintro e w6 ⟨rfl,G7,nC⟩;dsimp only;have ir:=O ((ff.o.trans nC (λb hb=>by cases hb):M w w6));clear G7 nC;go_wp2_with fail;go_ret;exact⟨rfl,ir.o⟩
theorem IX(h:dH w sb K aZ s a)(cU:s.own=[]\/∃y,s.own=[y]):ax av 120 #[X (G ⟨sb,0,U⟩)] w λe w'=>e=ay (T U 0 0)/\M w w':=by
 rcases cU with cU|⟨y,cU⟩
 ·obtain⟨_,_,_,x3,_⟩:=h.cells;have xl:=h.aW.lt;have vE:=h.wD;rw[cU]at vE;obtain⟨A,c,hl,_⟩:=vE;have HO:=O (sG hl);clear h hl;go_enter func120,ntmps120;go_wp2_with fail;refine HO.o.mono ?_;rintro e w2 ⟨rfl,hN⟩;dsimp only;have HN:=O hN;clear hN;go_wp2_with fail
  go_loopw[3,16] (λv i wr=>v=T U 0 0/\i=I J 0/\M w2 wr) (λ_ _ _=>0)
  case atStart=>exact⟨rfl,rfl,Ch.r _ _⟩
  case round=>
   obtain⟨rfl,rfl,hC⟩:=hrel;have HC:=O hC;clear hC;go_wp2_with fail;go_ret;exact⟨rfl,HN.o.t HC.o⟩
 ·obtain⟨_,_,_,x3,_⟩:=h.cells;have xl:=h.aW.lt;have vE:=h.wD;have HM:=O h;rw[cU]at vE;obtain⟨g,c,HA,hc,QA,qc,hl,_⟩:=vE;have HO:=O (uB hl);have HB:=O (λw' (hN:M w w') o=>zP (hl.aR hN) o);clear h hl cU;go_enter func120,ntmps120;go_wp2_with fail;refine HO.o.mono ?_;rintro e wO ⟨SA,sn,sc,rfl,hI,hnO,Tj⟩;dsimp only;have tJ:=O Tj;have hOL:Lib.compact (([y]++[]).mergeSort λx y=>decide (x<=y))=[y]:=by simp[Lib.compact];rfl
  rw[hOL]at hI;obtain rfl:sn=1:=hI.len.symm;have HIO:=O hI;clear hI Tj hnO x3 xl HO hOL;go_wp2_with fail
  go_loopw[3,16] (λv i wr=>v=T U 0 0/\(i=I J 0\/i=I J 1)/\M wO wr) (λ_ i _=>1- (intOf i).toNat)
  case atStart=>exact⟨rfl,.inl rfl,Ch.r _ _⟩
  case round=>
   obtain⟨rfl,hr,hC⟩:=hrel;have HC:=O hC;clear hC;rcases hr with rfl|rfl
   ·obtain⟨bb,off,rfl,pD,x0⟩:=(HIO.o.aR HC.o).at_ (i:=0) rfl;obtain⟨_,_,_,x3,_⟩:=(HM.o.aR (tJ.o.t HC.o)).cells;have xl:=(HM.o.aR (tJ.o.t HC.o)).aW.lt;have T3:=O (HB.o wr (tJ.o.t HC.o) y);rw[Nat.add_zero]at x0;go_wp2_with fail;refine T3.o.mono ?_;rintro e w2 ⟨rfl,iD⟩;dsimp only;have bJ:=O iD;clear iD x0 x3 xl pD T3;go_wp2_with fail
    go_loop[3,27] (λv i=>v=T U 0 0/\i=I J 0) (λ_ _=>0)
    case atStart=>exact⟨rfl,rfl⟩
    case round=>
     obtain⟨rfl,rfl⟩:=hrel;go_wp2_with fail;exact⟨⟨rfl,.inr rfl,HC.o.t bJ.o⟩,by simp[intOf]⟩
   ·go_wp2_with fail;go_ret;exact⟨rfl,tJ.o.t HC.o⟩
end
end Go.Proofs.YtmaimjajdbgmiaaGreatDoor
namespace Go.Proofs
open Go.RowKit Go.Maps Go.Sort Go.Shelf
def Tryz.yi:Go.Shelf.Ren:=⟨λ |7=>124|10=>196|n=>n,λ |23=>115|26=>3|3=>200|28=>197|0=>0|27=>196|33=>82|4=>4|n=>n,λ |n=>n⟩
theorem Tryz.Tk:Go.Proofs.SlLaysZI.n7 av Tryz.yi:={
 mixed:=by kernel_rfl
 f7:=⟨Tryz.f124.name,by decide,func124.trans (congrArg G (by kernel_rfl))⟩
 f10:=⟨Tryz.f196.name,by decide,func196.trans (congrArg G (by kernel_rfl))⟩
 t0:=underlying0
 a0:=Tryz.isAgg0
 z0:=Tryz.sizeOf0
 v0:=Tryz.zeroValue0
 t4:=underlying4
 a4:=Tryz.isAgg4
 z4:=Tryz.sizeOf4
 v4:=Tryz.zeroValue4
 t23:=underlying115
 a23:=Tryz.isAgg115
 z23:=Tryz.sizeOf115
 v23:=Tryz.zeroValue115
 t26:=underlying3
 a26:=Tryz.isAgg3
 z26:=Tryz.sizeOf3
 v26:=Tryz.zeroValue3
 t27:=underlying196
 a27:=Tryz.isAgg196
 z27:=Tryz.sizeOf196
 v27:=Tryz.zeroValue196
 t28:=underlying197
 a28:=Tryz.isAgg197
 z28:=Tryz.sizeOf197
 v28:=Tryz.zeroValue197
 t33:=underlying82
 a33:=Tryz.isAgg82
 z33:=Tryz.sizeOf82
 v33:=Tryz.zeroValue82}
def Tryz.sW:Go.Shelf.Ren:=⟨λ |6=>123|8=>195|9=>170|11=>264|13=>228|12=>234|23=>301|24=>302|14=>303|15=>304|16=>305|17=>306|18=>307|19=>308|20=>309|21=>310|22=>311|25=>363|26=>359|27=>360|28=>364|29=>365|30=>229|31=>385|n=>n,λ |26=>3|28=>197|24=>40|0=>0|3=>3|37=>204|48=>376|50=>247|4=>4|40=>370|39=>369|45=>165|5=>5|9=>9|51=>419|55=>363|57=>441|58=>343|33=>82|n=>n,λ |n=>n⟩
theorem Tryz.RL:Go.Proofs.SlLaysZI.n6 av Tryz.sW:={
 mixed:=by kernel_rfl
 f6:=⟨Tryz.f123.name,by decide,func123.trans (congrArg G (by kernel_rfl))⟩
 f8:=⟨Tryz.f195.name,by decide,func195.trans (congrArg G (by kernel_rfl))⟩
 f11:=⟨Tryz.f264.name,by decide,func264.trans (congrArg G (by kernel_rfl))⟩
 t0:=underlying0
 a0:=Tryz.isAgg0
 z0:=Tryz.sizeOf0
 v0:=Tryz.zeroValue0
 t24:=underlying40
 a24:=Tryz.isAgg40
 z24:=Tryz.sizeOf40
 v24:=Tryz.zeroValue40
 t26:=underlying3
 a26:=Tryz.isAgg3
 z26:=Tryz.sizeOf3
 v26:=Tryz.zeroValue3
 t28:=underlying197
 a28:=Tryz.isAgg197
 z28:=Tryz.sizeOf197
 v28:=Tryz.zeroValue197
 i26:=by kernel_rfl}
theorem Tryz.VG(m:Nat):AnyZI.SortsIn av Tryz.sW Fence.wide m:=
 ⟨λaW off cap ss W hH hblk jh=>callsIn_wide.2 (AnyM.slices_Sort_int Tryz.pE aW off cap ss W hH hblk jh),
  λp cap W=>callsIn_wide.2 (AnyM.slices_Sort_int_none Tryz.pE p cap W)⟩
theorem Tryz.I6(mb:Option Nat)(W:aw):ax av 124 #[.map mb] W λe w'=>e=ay (.func (.func 196) #[] #[X (G ⟨W.heap.size,0,U⟩)])/\w'=W.alloc (az #[.map mb] 115):=by
 have h:CallsIn Fence.wide 5 av 124 #[.map mb] W λe w'=>e=ay (.func (.func 196) #[] #[X (G ⟨W.heap.size,0,U⟩)])/\w'=W.alloc (az #[.map mb] 115):=AnyZI.keys_in Tryz.Tk Fence.wide 5 trivial rfl mb W;exact callsIn_wide.1 h
theorem Tryz.Cn{H:Type}(b nn:Nat)(D0:DataW H)(R:Value->Option (DataW H×List MemPlace))(w:aw)(cU:w.ownsMap av 3 R b nn D0)(RF:Maps.size D0<=maxLen)(lM:Maps.size D0*8<=140737488355328):
 ax av 123 #[.func (.func 196) #[] #[X (G ⟨w.heap.size,0,U⟩)]] (w.alloc (az #[.map (G b)] 115)) λe w'=>∃(v:Value) (ss:List Int),e=ay v/\ss.Perm (intKeys D0)/\
  w'.ownsRow (w.alloc (az #[.map (G b)] 115)).heap.size 3 1 v ss.length ((ss.mergeSort (λx y=>decide (x<=y))).map encZ)/\(v=T U 0 0↔ss=[])/\Below (w.alloc (az #[.map (G b)] 115)).heap.size (w.alloc (az #[.map (G b)] 115)) w':=by
 have pD:=cU.lt;have qf3:SeqGives Fence.wide 2 av 196 #[X (G ⟨w.heap.size,0,U⟩)] encZ (λss=>ss.Perm (intKeys D0)) (Maps.size D0) (w.alloc (az #[.map (G b)] 115)):=
  AnyZI.keys_gives (ρ:=Tryz.yi) {Tryz.Tk with} Fence.wide _ trivial rfl (by omega) w.heap.size b nn D0 _ (by simp) (by simp) (by
   obtain⟨es,clock,hb,Ft,hs,hD⟩:=cU;exact⟨es,clock,(Below.heap_alloc _ _ b pD).trans hb,Ft,hs,hD⟩)
 have cS:=AnyZI.sorted_in Tryz.RL Fence.wide 5 trivial trivial trivial trivial rfl (by omega) (Tryz.VG _) (enters_of func170 (by kernel_rfl) rfl) 196 #[X (G ⟨w.heap.size,0,U⟩)] trivial (enters_of func196 (by kernel_rfl) rfl) _ _ RF lM _ qf3;change CallsIn _ _ av 123 _ _ _ at cS;exact callsIn_wide.1 cS
end Go.Proofs
namespace Go.Proofs.YtmaimjajdbgmiaaGreatDoor
open Go.Lib Go.Maps Go.RowKit Go.Shelf Go.Sort
theorem Co{H:Type}{D:DataW H}(hs: ∃es,D= .map es/\∀p∈es,KeysOf av 3 p.1)(k:Int):k∈intKeys D↔Maps.has D (.int .i64 k)=true:=by
 obtain⟨es,rfl,hk⟩:=hs;rw[Maps.has_eq];unfold intKeys;rw[List.mem_map,List.any_eq_true]
 constructor
 ·rintro⟨p,hp,rfl⟩;refine⟨p,hp,?_⟩;obtain⟨v,hv⟩:=hk p hp;obtain⟨x,_,hx,_⟩:=Maps.keyOf_i64 underlying3 hv;rw[hx];simp[Go.intOf,Lit.sameKey]
 ·rintro⟨p,hp,hpk⟩;refine⟨p,hp,?_⟩;obtain⟨v,hv⟩:=hk p hp;obtain⟨x,_,hx,_⟩:=Maps.keyOf_i64 underlying3 hv;rw[hx]at hpk⊢;simpa [Go.intOf,Lit.sameKey]using hpk
theorem wT{H:Type}{D:DataW H}(hs: ∃es,D= .map es/\∀p∈es,KeysOf av 3 p.1)(hc:Maps.Canon D):(intKeys D).Nodup:=by
 obtain⟨es,rfl,hk⟩:=hs;obtain⟨es',he,hp,_⟩:=hc;injection he with he;subst he;unfold intKeys;have:=Maps.apart_of_rising hp;rw[List.Nodup,List.pairwise_map];refine(List.Pairwise.imp_of_mem (λ{p q} YJ hq' h=>?_) this);obtain⟨v,hv⟩:=hk p YJ;obtain⟨v',ti⟩:=hk q hq';obtain⟨x,_,hx,_⟩:=Maps.keyOf_i64 underlying3 hv;obtain⟨y,_,hy,_⟩:=Maps.keyOf_i64 underlying3 ti;rw[hx,hy]at h⊢;intro e;simp only[Go.intOf]at e;exact h (by rw[e])
structure YK(w:aw)(A:Option Addr)(n c:Nat)(ks:List Int):Prop where
 int:eX w A n c ks
 nd:ks.Nodup
theorem I7{w:aw}{b n:Nat}{z:Value}{g:Int->Option Value}(h:cT w b n z g)(hn:n<=1000000):
 ax av 124 #[.map (G b)] w (λe w1=>e= .returned (.func (.func 196) #[] #[.pointer (G ⟨w.heap.size,0,U⟩)])/\w1=w.alloc (.cells #[.map (G b)] 115))/\
 ax av 123 #[.func (.func 196) #[] #[.pointer (G ⟨w.heap.size,0,U⟩)]] (w.alloc (.cells #[.map (G b)] 115)) λe w'=>∃A m c ks,e= .returned (.slice A m c)/\YK w' A m c ks/\(∀k,k∈ks↔(g k).isSome=true)/\(∀k,(T A m c).ownBlock=G k->w.heap.size<=k)/\M w w':=by
 refine⟨Tryz.I6 _ _,?_⟩;obtain⟨D,ho,hat,AO⟩:=h;have jh:Maps.size D<=n:=by
  obtain⟨es,clock,_,F,hs,rfl⟩:=ho;rw[Maps.size_eq,length_sorted];simpa using hs
 have hk:=ho.keysOf;have hcn:=ho.canon uz;refine(Tryz.Cn b n D Cells.RH w ho (by unfold maxLen;omega) (by omega)).mono ?_;rintro e w' ⟨v,ss,rfl,hS,fI,hnil,hb⟩;have hlen:ss.length=(ss.mergeSort λx y=>decide (x<=y)).length:=(List.length_mergeSort _).symm;have hbs:(w.alloc (.cells #[.map (G b)] 115)).heap.size=w.heap.size+1:=by simp
 have gu:=λk hk=>(fI.lt k hk).1;have Nu:=ownsRow_base_a fI (Nat.zero_le _);rw[hlen]at Nu;obtain⟨A,c,hv⟩:=bz Nu;subst hv;refine⟨A,_,c,ss.mergeSort λx y=>decide (x<=y),rfl,⟨⟨Nu,rfl⟩,(List.mergeSort_perm _ _).nodup_iff.2 (hS.nodup_iff.2 (wT hk hcn))⟩,λk=>?_,λk hk=>?_,((Ch.r _ w).alloc _).t (Ch.mA hb λk hk _=>hk)⟩
 ·rw[List.mem_mergeSort,hS.mem_iff,Co hk,AO]
 ·have:=gu k hk;omega
end Go.Proofs.YtmaimjajdbgmiaaGreatDoor
namespace Go.Proofs.YtmaimjajdbgmiaaGreatDoor.Cl
open Go.Lib Go.RowKit
theorem Nv:(av.info? 203).map (λi=>(i.zero,i.size,i.bytes))=G (G (aC #[V ⟨#[]⟩,V ⟨#[]⟩,Y false]),3,40):=by kernel_rfl
theorem vH(w:aw)(c:Nat):ax av 125 #[T U 0 c] w λe w'=>e=ay (T U 0 0)/\w=w':=by
 have heq:=λ(w:aw) (a:Option Addr) (n c n' c':Nat)=>Lib.run_eql_slice_nil (P:=av) w 131 203 a n c n' c' underlying131;go_enter func125,ntmps125;go_wp2_with fail;go_ret;exact⟨rfl,rfl⟩
theorem I8{w:aw}{ad:Addr}{n:Nat}{xs:List Value}(h:Reads w w.heap.size 3 (G ad) n xs)(h1: ∀u∈xs,u.oneCell'=true)(hn:n<=1000000)(c:Nat):
 ax av 125 #[T (G ad) n c] w λe w'=>∃A' c',e=ay (T A' n c')/\w'.ownsRow w.heap.size 203 3 (T A' n c') n xs/\M w w':=by
 have HR:=O (h.alloc (aN _) (az #[] 203));have HO:=O (ln w 203 3);have H1:=O h1;obtain⟨i1,dX,er,eu,eK⟩:=parts Nv;clear h h1;have heq:=λ(w:aw) (a:Option Addr) (n c n' c':Nat)=>Lib.run_eql_slice_nil (P:=av) w 131 203 a n c n' c' underlying131;go_enter func125,ntmps125;go_wp2_with(first
  |(at_builtin
    refine bp _ rfl (.tmp 5) (.tmp 6) _ rfl w.heap.size 203 i1 _ 3 40 underlying131 dX er eu eK rfl (by omega) _ 0 [] rfl
     HO.o w.heap.size _ n _ xs rfl HR.o H1.o (by simp only[maxLen];omega) (by omega) (by simp) ?_
    intro v8 w8 bM dS dG;obtain⟨A8,c8,rfl⟩:=bz bM;have mh:=O bM;have iT:=O (Ch.bF dS);clear bM dS dG))
 go_ret;refine⟨A8,c8,by simp,?_,?_⟩
 ·have:=mh.o;simpa using this
 ·exact(((Ch.r _ w).alloc _:M w _)).trans iT.o (λb hb=>.inr (by have hb:(G w.heap.size:Option Nat)=G b:=hb;injection hb with hb;omega))
end Go.Proofs.YtmaimjajdbgmiaaGreatDoor.Cl
namespace Go.Proofs.YtmaimjajdbgmiaaGreatDoor
open Go.Lib Go.Maps Go.RowKit
def vI(p:Int×cG×Value):List Value:=match p with
 |(t,x,v)=>[I J t,I J x.aS,I J x.last.kind,I J x.last.tx,I J x.last.aS,I J x.last.aY,I J x.last.op,V x.last.key,V x.last.val,I J x.last.mode,Y x.last.yes,v]
def VH(l:List (Int×cG×Value)):List Value:=l.flatMap vI
structure lZ(w:aw)(A:Option Addr)(n c:Nat)(l:List (Int×cG×Value)):Prop where
 own:w.ownsRow 0 133 12 (T A n c) n (VH l)
 len:l.length=n
theorem I9:(av.info? 133).map (λi=>(i.zero,i.size,i.bytes))=G (G (aC #[I J 0,I J 0,I J 0,I J 0,I J 0,I J 0,I J 0,V ⟨#[]⟩,V ⟨#[]⟩,I J 0,Y false,T U 0 0]),12,128):=by kernel_rfl
section
variable{w w':aw}{sb aZ:Nat}{K:ByteArray}{s:dm}{a:ia}
theorem lZ.ch{S:Nat->Prop}{A:Option Addr}{n c:Nat}{l:List (Int×cG×Value)}(h:lZ w A n c l)(hC:Ch S w w')(hS: ∀g,(T A n c).ownBlock=G g->¬S g):lZ w' A n c l:=⟨bg h.own hC hS,h.len⟩
theorem lZ.aR{A:Option Addr}{n c:Nat}{l:List (Int×cG×Value)}(h:lZ w A n c l)(hC:M w w'):lZ w' A n c l:=h.ch hC (λ_ _ h=>h)
theorem RN{A:Option Addr}{n c:Nat}{x:kB}{K:ByteArray}(h:w.ownsRow 0 203 3 (T A n c) n (qG K x))(hn:n<=1):
 ax av 125 #[T A n c] w λe w'=>∃A' c',e=ay (T A' n c')/\M w w':=by
 cases A with
 |none=>
  have h0:n=0:=by
   rcases h.2 with⟨e,_⟩|⟨g,cap,cur,e,_⟩
   ·injection e with _ e _
   ·injection e with e _ _;cases e
  subst h0;exact(Cl.vH w c).mono λe w' ⟨q1,q2⟩=>⟨U,0,q1,by subst q2;exact Ch.r _ _⟩
 |some ad=>exact(Cl.I8 (Reads.qN h) (λu hu=>by unfold qG at hu;cases x<;>simp at hu;rcases hu with rfl|rfl|rfl<;>rfl) (by omega) c).mono λe w' ⟨A',c',q1,_,q2⟩=>⟨A',c',q1,q2⟩
theorem zQ{lb:Nat}{x:cG}{v:Value}(b:aX w lb 200 (pS x v)):w.cell? ⟨lb,0,U⟩=G (I J x.aS)/\w.cell? ⟨lb,1,U⟩=G (I J x.last.kind)/\w.cell? ⟨lb,2,U⟩=G (I J x.last.tx)/\w.cell? ⟨lb,3,U⟩=G (I J x.last.aS)/\w.cell? ⟨lb,4,U⟩=G (I J x.last.aY)/\w.cell? ⟨lb,5,U⟩=G (I J x.last.op)/\w.cell? ⟨lb,6,U⟩=G (V x.last.key)/\w.cell? ⟨lb,7,U⟩=G (V x.last.val)/\w.cell? ⟨lb,8,U⟩=G (I J x.last.mode)/\w.cell? ⟨lb,9,U⟩=G (Y x.last.yes)/\w.cell? ⟨lb,10,U⟩=G (v):=
 ⟨b.c 0,b.c 1,b.c 2,b.c 3,b.c 4,b.c 5,b.c 6,b.c 7,b.c 8,b.c 9,b.c 10⟩
theorem Nw(w:aw)(p:Int×cG×Value):Reads (w.alloc (az (vI p).toArray 133)) (w.heap.size+1) 12 (G ⟨w.heap.size,0,U⟩) 1 (vI p):=
 ⟨rfl,λ_=>⟨_,rfl,by simp,λi u hu=>by
   rw[show(⟨w.heap.size,0,U⟩:Addr).add i=⟨w.heap.size,i,U⟩ by unfold Addr.add;split<;>simp_all,(aX.new w 133 (vI p).toArray).c];simpa using hu⟩⟩
theorem Nx(p:Int×cG×Value)(hp:p.2.2.oneCell'=true): ∀u∈vI p,u.oneCell'=true:=by
 obtain⟨t,x,v⟩:=p;intro u hu;simp[vI]at hu;rcases hu with rfl|rfl|rfl|rfl|rfl|rfl|rfl|rfl|rfl|rfl|rfl|rfl
 all_goals first|rfl|exact hp
def qf4(w:aw)(f:Int->Option cG)(e:Ending)(w':aw):Prop:=
 ∃A n c L,e=ay (T A n c)/\lZ w' A n c L/\n<=16/\(L.map (·.1)).Nodup/\(∀t x,f t=G x->∃v,(t,x,v)∈L)/\(∀p∈L,f p.1=G p.2.1/\∃A n c,p.2.2=T A n c)/\(∀k,(T A n c).ownBlock=G k->w.heap.size<=k)/\M w w'
theorem yj(h:dH w sb K aZ s a)(cp:aZ<=1000000):ax av 74 #[X (G ⟨sb,0,U⟩)] w (qf4 w s.br):=by
 obtain⟨_,_,_,_,_,x5,_⟩:=h.cells;have xl:=h.aW.lt;have HK:=O (I7 h.gp.map cp);have HM:=O h;obtain⟨i1,dX,er,eu,eK⟩:=info_parts I9;clear h;go_enter func74,ntmps74;go_wp2_with fail;refine HK.o.1.mono ?_;rintro e w1 ⟨rfl,bT⟩;dsimp only;subst bT;go_wp2_with fail;refine HK.o.2.mono ?_;rintro e wO ⟨KA,m,kc,ks,rfl,hKM,L2,gu,Tj⟩;dsimp only;have qf5:m<=16:=by
  rw[<-hKM.int.len];refine A0 hKM.nd (λt ht=>?_);have:=(L2 t).1 ht;cases hl:s.br t with
  |none=>rw[hl]at this;cases this
  |some x=>exact HM.o.dR.lk t x hl
 have WN:=O hKM;have ZX:=O L2;have tJ:=O Tj;clear hKM L2 gu Tj x5 xl HK;go_wp2_with fail
 go_loopw[3,16] (λv i wr=>∃(k:Nat) (A:Option Addr) (n c:Nat) (L:List (Int×cG×Value)),k<=m/\i=I J k/\v=T A n c/\lZ wr A n c L/\n=k/\L.map (·.1)=ks.take k/\(∀p∈L,s.br p.1=G p.2.1/\∃A n c,p.2.2=T A n c)/\(∀b,(T A n c).ownBlock=G b->wO.heap.size<=b)/\M wO wr) (λ_ i _=>m- (intOf i).toNat)
 case atStart=>exact⟨0,U,0,0,[],by omega,rfl,rfl,⟨World.ownsRow_nil _ _ _ _,rfl⟩,rfl,rfl,λp hp=>(by cases hp),λb hb=>(by cases hb),Ch.r _ _⟩
 case round=>
  obtain⟨k,A,n,c,L,hk,rfl,rfl,hE,rfl,hLt,hL,hb,hC⟩:=hrel;have HE:=O hE;have my:=O hLt;have HL:=O hL;have WM:=O hb;have HC:=O hC;clear hE hLt hL hb hC;by_cases hlt:n<m
  ·obtain⟨t,hx⟩:=bh (show n<ks.length by rw[WN.o.int.len];exact hlt);obtain⟨bb,off,rfl,pD,x0⟩:=(WN.o.int.aR HC.o).at_ hx;have HX:=O hx;obtain⟨x,YL⟩: ∃x,s.br t=G x:=by
    have:=(ZX.o t).1 (bS hx);cases hl:s.br t with
    |none=>rw[hl]at this;cases this
    |some x=>exact⟨x,rfl⟩
   have HLX:=O YL;have ht:=HM.o.dR.lk t x YL;have Wf:=O (HM.o.aR (tJ.o.t HC.o));have fI:=Wf.o.gp.row t;rw[YL]at fI;dsimp only at fI;obtain⟨WA,WC,hW⟩:=bz fI;rw[hW]at fI;have tE:(Instr.lookup 115 (.map (G a.bR)) (I J t) false).run av wr= .ok (aC #[I J x.aS,I J x.last.kind,I J x.last.tx,I J x.last.aS,I J x.last.aY,I J x.last.op,V x.last.key,V x.last.val,I J x.last.mode,Y x.last.yes,(T WA (ft x.wr) WC)]) wr:=by
    have:=Wf.o.gp.map.look underlying115 (yQ wr) (x:=t) (by omega) (by omega);rw[YL,hW]at this;exact this
   obtain⟨_,_,_,_,_,x5,_⟩:=Wf.o.cells;have xl:=Wf.o.aW.lt;have jq:(n:Int)<(m:Int):=by omega
   have tX:=O fI;clear hx YL fI hW;go_upto_region 8 with(fail);obtain⟨wz,bV⟩:=bG (wr.alloc (az #[I J x.aS,I J x.last.kind,I J x.last.tx,I J x.last.aS,I J x.last.aY,I J x.last.op,V x.last.key,V x.last.val,I J x.last.mode,Y x.last.yes,(T WA (ft x.wr) WC)] 200));have HNZ:=kb bV;have OK:=O (show aX wz wr.heap.size 200 (pS x (T WA (ft x.wr) WC))from bV▸aX.new wr 200 _);obtain⟨lb,AZ⟩:=bG (wr.heap.size);rw[AZ]at OK
   try rw[bV]
   try simp only[AZ]
   clear bV AZ x0 tE x5 xl pD;have jj:=O (λw' (hN:M wz w')=>RN (lT tX.o (HNZ.o.t hN)) (show ft x.wr<=1 from by unfold ft;split<;>omega));have HEZ:=O (HE.o.aR HNZ.o);have Yp:0<12:=by decide
   have sr:n+1<=maxLen:=by unfold maxLen;omega
   have jE:(n+1)*128<=140737488355328:=by omega
   go_region_held3(λw'=>w'.cell? ⟨lb,0,U⟩=G (I J x.aS)/\w'.cell? ⟨lb,1,U⟩=G (I J x.last.kind)/\w'.cell? ⟨lb,2,U⟩=G (I J x.last.tx)/\w'.cell? ⟨lb,3,U⟩=G (I J x.last.aS)/\w'.cell? ⟨lb,4,U⟩=G (I J x.last.aY)/\w'.cell? ⟨lb,5,U⟩=G (I J x.last.op)/\w'.cell? ⟨lb,6,U⟩=G (V x.last.key)/\w'.cell? ⟨lb,7,U⟩=G (V x.last.val)/\w'.cell? ⟨lb,8,U⟩=G (I J x.last.mode)/\w'.cell? ⟨lb,9,U⟩=G (Y x.last.yes)/\w'.cell? ⟨lb,10,U⟩=G ((T WA (ft x.wr) WC)))
    (first|exact zQ OK.o.drew|exact zQ ba|exact zQ (ba.alloc _)|exact zQ bd)
    (first
      |(go_at_call 125;refine(jj.o _ (aU wz)).mono ?_;rintro e wa ⟨CA,cc,rfl,oO⟩;have ba:=OK.o.drew.ch oO (λh=>h);have xm:=(aU wz).t oO)
      |(refine bL _ rfl (.tmp 26) (.tmp 36) _ rfl 0 133 i1 _ 12 128 underlying129 dX er eu eK rfl Yp (T A n c) n (VH L) rfl
         (lT HEZ.o.own (xm.alloc _)) (wa.heap.size+1) (G ⟨wa.heap.size,0,U⟩) 1 1 (vI (t,x,T CA (ft x.wr) cc)) rfl (Nw wa _) (Nx _ rfl) sr jE (Nat.zero_le _) ?_
        intro v9 w9 cC gV fl;obtain⟨A9,c9,rfl⟩:=bz cC;have bd:=(ba.alloc (az (vI (t,x,T CA (ft x.wr) cc)).toArray 133)).grown gV (λe=>aV (lT HEZ.o.own (xm.alloc _)) (ba.alloc (az (vI (t,x,T CA (ft x.wr) cc)).toArray 133)) (by decide) e.symm)))
   all_goals
    have mS:=O (show lZ w9 A9 (n+1) c9 (L++[(t,x,T CA (ft x.wr) cc)])from⟨by simpa [VH]using cC,by rw[aL,HE.o.len];rfl⟩);have IM:=O (show M wO w9 from((HC.o.t (HNZ.o.t xm)).alloc (az (vI (t,x,T CA (ft x.wr) cc)).toArray 133)).trans (Ch.bF gV) (λb hb=>.inr (WM.o b hb)));have gj:=O (show∀b,(T A9 (n+1) c9).ownBlock=G b->wO.heap.size<=b from λb hb=>by
     rcases fl with e|e
     ·exact WM.o b (e▸hb)
     ·rw[hb]at e;injection e with e;have h1:=(HC.o.t (HNZ.o.t xm)).size;simp at e;omega)
    clear cC gV fl bd ba oO xm;go_wp2_with fail;refine⟨⟨n+1,A9,n+1,c9,L++[(t,x,T CA (ft x.wr) cc)],by omega,by go_num,rfl,mS.o,rfl,?_,λp hp=>?_,gj.o,IM.o⟩,by simp[intOf];omega⟩
    ·rw[List.map_append,my.o,List.take_add_one,HX.o];rfl
    ·rcases List.mem_append.1 hp with hp|hp
     ·exact HL.o p hp
     ·obtain rfl:=List.mem_singleton.1 hp;exact⟨HLX.o,_,_,_,rfl⟩
  ·obtain rfl:n=m:=by omega
   clear hlt hk;go_wp2_with fail;go_ret;have hkl:=WN.o.int.len;have hLT:=my.o;rw[List.take_of_length_le (by omega)]at hLT;refine⟨A,n,c,L,rfl,HE.o,qf5,by rw[hLT];exact WN.o.nd,λt x LG=>?_,HL.o,λb hb=>aO tJ.o.size (WM.o b hb),tJ.o.t HC.o⟩;have:t∈L.map (·.1):=by
    rw[hLT,ZX.o,LG];rfl
   obtain⟨⟨t',x',v'⟩,hp,rfl⟩:=List.mem_map.1 this;have h2:=(HL.o _ hp).1;dsimp only at h2 LG;rw[LG]at h2;injection h2 with h2;subst h2;exact⟨v',hp⟩
end
section
variable{w w':aw}{sb aZ:Nat}{K:ByteArray}{s:dm}{a:ia}
theorem lZ.at_{A:Option Addr}{n c:Nat}{l:List (Int×cG×Value)}(h:lZ w A n c l){i:Nat}{t:Int}{x:cG}{v:Value}(hx:l[i]?=G (t,x,v)): ∃b off,A=G ⟨b,off,U⟩/\b<w.heap.size/\w.cell? ⟨b,off+i*12,U⟩=G (I J t)/\w.cell? ⟨b,off+i*12+1,U⟩=G (I J x.aS)/\w.cell? ⟨b,off+i*12+2,U⟩=G (I J x.last.kind)/\w.cell? ⟨b,off+i*12+3,U⟩=G (I J x.last.tx)/\w.cell? ⟨b,off+i*12+4,U⟩=G (I J x.last.aS)/\w.cell? ⟨b,off+i*12+5,U⟩=G (I J x.last.aY)/\w.cell? ⟨b,off+i*12+6,U⟩=G (I J x.last.op)/\w.cell? ⟨b,off+i*12+7,U⟩=G (V x.last.key)/\w.cell? ⟨b,off+i*12+8,U⟩=G (V x.last.val)/\w.cell? ⟨b,off+i*12+9,U⟩=G (I J x.last.mode)/\w.cell? ⟨b,off+i*12+10,U⟩=G (Y x.last.yes)/\w.cell? ⟨b,off+i*12+11,U⟩=G (v):=by
 have g:=λj hj=>eI (f:=vI) (m:=12) (λ⟨_,_,_⟩ _=>rfl) hx (j:=j) hj;obtain⟨b,off,hA,hb,hc⟩:=(Rd.own h.own) (fh (g 0 (by omega)));refine⟨b,off,hA,hb,?_,?_,?_,?_,?_,?_,?_,?_,?_,?_,?_,?_⟩
 ·have:=hc _ _ (g 0 (by omega));simpa using this
 ·have:=hc _ _ (g 1 (by omega));simpa [Nat.add_assoc]using this
 ·have:=hc _ _ (g 2 (by omega));simpa [Nat.add_assoc]using this
 ·have:=hc _ _ (g 3 (by omega));simpa [Nat.add_assoc]using this
 ·have:=hc _ _ (g 4 (by omega));simpa [Nat.add_assoc]using this
 ·have:=hc _ _ (g 5 (by omega));simpa [Nat.add_assoc]using this
 ·have:=hc _ _ (g 6 (by omega));simpa [Nat.add_assoc]using this
 ·have:=hc _ _ (g 7 (by omega));simpa [Nat.add_assoc]using this
 ·have:=hc _ _ (g 8 (by omega));simpa [Nat.add_assoc]using this
 ·have:=hc _ _ (g 9 (by omega));simpa [Nat.add_assoc]using this
 ·have:=hc _ _ (g 10 (by omega));simpa [Nat.add_assoc]using this
 ·have:=hc _ _ (g 11 (by omega));simpa [Nat.add_assoc]using this
theorem Cp(h:dH w sb K aZ s a)(cp:aZ<=1000000)(tx:Int):ax av 122 #[X (G ⟨sb,0,U⟩),I J tx] w λe w'=>∃r:Int,e=ay (I J r)/\(r= -1\/∃x,s.br tx=G x/\r=x.aS)/\M w w':=by
 have HL:=O (yj h cp);clear h;go_enter func122,ntmps122;go_wp2_with fail;refine HL.o.mono ?_;rintro e wO ⟨A,n,c,L,rfl,hE,hn,_,_,hf,_,hN⟩;dsimp only;have HE:=O hE;have HF:=O hf;have HN:=O hN;have hlen:=hE.len;have Dr:=O hlen;clear hE hf hN hlen HL;go_wp2_with fail
 go_loopw[10] (λi wr=>∃k:Nat,k<=n/\i=I J k/\M wO wr) (λi _=>n- (intOf i).toNat)
 case atStart=>exact⟨0,by omega,rfl,Ch.r _ _⟩
 case round=>
  obtain⟨k,hk,rfl,hC⟩:=hrel;have HC:=O hC;clear hC;by_cases hlt:k<n
  ·obtain⟨⟨t,x,v⟩,hx⟩:=bh (show k<L.length by rw[Dr.o];exact hlt);obtain⟨b,off,rfl,hb,x0,x1,x2,x3,x4,x5,x6,x7,x8,x9,rE,mq⟩:=(HE.o.aR HC.o).at_ hx;obtain⟨kT,VA,vn,vc,hv⟩:=HF.o _ (bS hx);have HX:=O kT;dsimp only at hv;subst hv;have jq:(k:Int)<(n:Int):=by omega
   clear hx kT;by_cases e:t=tx
   ·subst e;have d1:(t==t)=true:=by simp
    go_wp2_with fail;go_ret;exact⟨_,rfl,.inr ⟨x,HX.o,rfl⟩,HN.o.t (HC.o.alloc _)⟩
   ·have d1:(t==tx)=false:=by simpa using e
    have d2:decide (t=tx)=false:=by simpa using e
    clear e;go_wp2_with fail;exact⟨⟨k+1,by omega,by go_num,HC.o.alloc _⟩,by simp[intOf];omega⟩
  ·obtain rfl:n=k:=by omega
   clear hlt hk;go_wp2_with fail;go_ret;exact⟨_,rfl,.inl rfl,HN.o.t HC.o⟩
end
end Go.Proofs.YtmaimjajdbgmiaaGreatDoor
namespace Go.Proofs.YtmaimjajdbgmiaaGreatDoor
open Go.Lib Go.RowKit
section
variable{w w':aw}{A:Option Addr}{n c ob:Nat}{l:List (Int×Int)}{o:Int}
theorem eB.at_(h:eB w A n c l){i:Nat}{p:Int×Int}(hx:l[i]?=G p): ∃b off,A=G ⟨b,off,U⟩/\b<w.heap.size/\w.cell? ⟨b,off+i*2,U⟩=G (I J p.1)/\w.cell? ⟨b,off+i*2+1,U⟩=G (I J p.2):=by
 have g:=λj hj=>eI (f:=zO) (m:=2) (λ_ _=>rfl) hx (j:=j) hj;obtain⟨b,off,hA,hb,hc⟩:=(Rd.own h.own) (fh (g 0 (by omega)));refine⟨b,off,hA,hb,?_,?_⟩
 ·have:=hc _ _ (g 0 (by omega));simpa using this
 ·have:=hc _ _ (g 1 (by omega));simpa [Nat.add_assoc]using this
theorem EI(h:aX w ob 3 #[I J o])(x y:Int):ax av 121 #[aC #[I J x,I J y],X (G ⟨ob,0,U⟩)] w λe w'=>e=ay (Y (x==o))/\M w w':=by
 have HN:=O (show M w (w.alloc (az #[I J x,I J y] 172))from(Ch.r _ w).alloc _);have x0:=(h.alloc (az #[I J x,I J y] 172)).c 0;have xl:=h.lt;clear h;go_enter func121,ntmps121;go_wp2_with fail;go_ret;exact⟨rfl,HN.o⟩
theorem EJ(h:eB w A n c l)(hn:n<=1000000)(hb:aX w ob 3 #[I J o]):
 ax av 192 #[T A n c,.func (.func 121) #[] #[X (G ⟨ob,0,U⟩)]] w λe w'=>M w w'/\(e=ay (I J (-1))\/∃p:Nat,e=ay (I J p)/\p<n/\∃q∈l,q.1=o):=by
 have H:=O h;have HB:=O hb;have HL:=O h.len;have jW:(n:Int)<=1000000:=by omega
 clear h hb;go_enter func192,ntmps192;go_wp2_with fail
 go_loopw[8] (λi wr=>∃k:Nat,k<=n/\i=I J k/\M w wr) (λi _=>n- (intOf i).toNat)
 case atStart=>exact⟨0,by omega,rfl,Ch.r _ _⟩
 case round=>
  obtain⟨k,hk,rfl,hC⟩:=hrel;have HC:=O hC;clear hC;by_cases hlt:k<n
  ·obtain⟨⟨x,y⟩,hx⟩:=bh (show k<l.length by rw[HL.o];exact hlt);obtain⟨b,off,rfl,hb,x0,x1⟩:=(H.o.aR HC.o).at_ hx;have HM:=O (EI (HB.o.ch HC.o (λh=>h)) x y);have HX:=O (bS hx);have jq:(k:Int)<(n:Int):=by omega
   clear hx;by_cases e:x=o
   ·subst e;rw[show(x==x)=true by simp]at HM;go_wp2_with fail;refine HM.o.mono ?_;rintro e w2 ⟨rfl,hN⟩;dsimp only;have HN:=O hN;clear hN HM;go_wp2_with fail;go_ret;exact⟨HC.o.t HN.o,.inr ⟨k,rfl,hlt,_,HX.o,rfl⟩⟩
   ·rw[show(x==o)=false by simpa using e]at HM;clear e;go_wp2_with fail;refine HM.o.mono ?_;rintro e w2 ⟨rfl,hN⟩;dsimp only;have HN:=O hN;clear hN HM;go_wp2_with fail;exact⟨⟨k+1,by omega,by go_num,HC.o.t HN.o⟩,by simp[intOf];omega⟩
  ·obtain rfl:n=k:=by omega
   clear hlt hk;go_wp2_with fail;go_ret;exact⟨HC.o,.inl rfl⟩
theorem zR(h:eB w A n c l)(hn:n<=1000000)(hb:aX w ob 3 #[I J o]):
 ax av 119 #[T A n c,.func (.func 121) #[] #[X (G ⟨ob,0,U⟩)]] w λe w'=>∃b,e=ay (Y b)/\(b=true->∃q∈l,q.1=o)/\M w w':=by
 have HI:=O (EJ h hn hb);have jW:(n:Int)<=1000000:=by omega
 clear h hb hn;go_enter func119,ntmps119;go_wp2_with fail;refine HI.o.mono ?_;rintro e w2 ⟨hN,rfl|⟨p,rfl,hp,hq⟩⟩
 ·have HN:=O hN;clear hN HI;dsimp only;go_wp2_with fail;go_ret;exact⟨_,rfl,(λh=>by simp at h),HN.o⟩
 ·have HN:=O hN;have HQ:=O hq;have Df:(0:Int)<=(p:Int):=by omega
  clear hN HI hq;dsimp only;go_wp2_with fail;go_ret;exact⟨_,rfl,λ_=>HQ.o,HN.o⟩
end
