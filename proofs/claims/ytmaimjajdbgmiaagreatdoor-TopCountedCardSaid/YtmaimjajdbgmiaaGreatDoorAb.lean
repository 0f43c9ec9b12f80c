import Derived.Test.YtmaimjajdbgmiaaGreatDoorProg
import Derived.Lib.Overlaps
import Derived.Deep.RegionLaw
import Derived.Test.YtmaimjajdbgmiaaGreatDoorAa
set_option linter.unusedVariables false
set_option linter.unusedSimpArgs false
set_option maxRecDepth 100000
set_option maxHeartbeats 0
open Go.Value renaming int→I,pointer→X,bool→Y,slice→T,tuple→aB,agg→aC
open Go.IntKind renaming i64→J
open Option renaming none→U,some→G
open Go.Ending renaming returned→ay
open Go.Obj renaming cells→az
open List renaming length_append→aL
open Nat renaming le_refl→aN,le_trans→aO,lt_of_lt_of_le→aP
open Go renaming World→aw,Calls→ax,bodyPost_ret→aE
open Go.Proofs.Tryz
open Go.Proofs.Tryz renaming prog→av
namespace Go.Proofs.YtmaimjajdbgmiaaGreatDoor
open Go.Lib Go.RowKit
theorem E9(a:Int)(w:aw):ax av 229 #[I J a] w λe w'=>e=ay (Y false)/\w'=w:=by
 have h1:(a !=a)=false:=by simp
 have h2:decide (a=a)=true:=by simp
 go_enter func229,ntmps229;go_wp2_with fail;go_ret;exact⟨rfl,rfl⟩
theorem tF(a b:Int)(w:aw):ax av 164 #[I J a,I J b] w λe w'=>e=ay (I J (fj a b))/\w'=w:=by
 have ha:=E9 a w;have hb:=E9 b w;obtain⟨R,hR⟩:=bG (fj a b);rw[hR];have HR:=O hR;clear hR;by_cases h1:a<b
 ·have d1:decide (a<b)=true:=by simpa using h1
  obtain rfl:R= -1:=by rw[<-HR.o];unfold fj;rw[if_pos h1]
  clear h1;go_enter func164,ntmps164;go_wp2_with fail;refine ha.mono ?_;rintro e w' ⟨rfl,rfl⟩;go_wp2_with fail;refine hb.mono ?_;rintro e w' ⟨rfl,rfl⟩;go_wp2_with fail;go_ret;exact⟨rfl,rfl⟩
 ·have d1:decide (a<b)=false:=by simpa using h1
  by_cases h2:b<a
  ·have d2:decide (b<a)=true:=by simpa using h2
   obtain rfl:R=1:=by rw[<-HR.o];unfold fj;rw[if_neg h1,if_pos h2]
   clear h1 h2;go_enter func164,ntmps164;go_wp2_with fail;refine ha.mono ?_;rintro e w' ⟨rfl,rfl⟩;go_wp2_with fail;refine hb.mono ?_;rintro e w' ⟨rfl,rfl⟩;go_wp2_with fail;go_ret;exact⟨rfl,rfl⟩
  ·have d2:decide (b<a)=false:=by simpa using h2
   obtain rfl:R=0:=by rw[<-HR.o];unfold fj;rw[if_neg h1,if_neg h2]
   clear h1 h2;go_enter func164,ntmps164;go_wp2_with fail;refine ha.mono ?_;rintro e w' ⟨rfl,rfl⟩;go_wp2_with fail;refine hb.mono ?_;rintro e w' ⟨rfl,rfl⟩;go_wp2_with fail;go_ret;exact⟨rfl,rfl⟩
def iG(r:cz):List Value:=[I J r.tx,I J r.aS,I J r.aY,I J r.state,I J r.heard]
def dY(l:List cz):List Value:=l.flatMap iG
theorem wX(r:cz)(x:Int)(w:aw):ax av 313 #[aC #[I J r.tx,I J r.aS,I J r.aY,I J r.state,I J r.heard],I J x] w λe w'=>e=ay (I J (fj r.tx x))/\M w w':=by
 have hc:=λw=>tF r.tx x w;have HN:=O (show M w (w.alloc (az #[I J r.tx,I J r.aS,I J r.aY,I J r.state,I J r.heard] 186))from(Ch.r _ w).alloc _);go_enter func313,ntmps313;go_wp2_with fail;refine(hc _).mono ?_;rintro e w' ⟨rfl,rfl⟩;go_wp2_with fail;go_ret;exact⟨rfl,HN.o⟩
def oq(l:List cz):Prop:=l.Pairwise λa b=>a.tx<b.tx
theorem yw{l:List cz}(h:oq l){i j:Nat}{a b:cz}(ha:l[i]?=G a)(hb:l[j]?=G b)(tG:i<=j):a.tx<=b.tx:=by
 by_cases e:i=j
 ·subst e;rw[ha]at hb;injection hb with hb;rw[hb];exact Int.le_refl _
 ·have hi:=bf ha;have hj:=bf hb;have:=List.pairwise_iff_getElem.1 h i j hi hj (by omega);rw[List.getElem?_eq_getElem hi]at ha;rw[List.getElem?_eq_getElem hj]at hb;injection ha with ha;injection hb with hb;rw[ha,hb]at this;omega
structure J5(l:List cz)(x:Int)(p:Nat):Prop where
 le:p<=l.length
 lo: ∀i r,i<p->l[i]?=G r->r.tx<x
 hi: ∀i r,p<=i->l[i]?=G r->x<=r.tx
def O8(l:List cz)(x:Int)(p:Nat):Bool:=(l[p]?).any λr=>decide (r.tx=x)
theorem Dc{l:List cz}{i:Nat}{r:cz}(h:l[i]?=G r): ∀j,j<5->(dY l)[i*5+j]?=(iG r)[j]?:=λj hj=>eI (f:=iG) (m:=5) (λ_ _=>rfl) h hj
def uh(w:aw)(A:Option Addr)(n:Nat)(l:List cz):Prop:=l.length=n/\n<=1000000/\Rd w A (dY l)
section
variable{w w':aw}{A:Option Addr}{n:Nat}{l:List cz}
theorem uh.aR(h:uh w A n l)(hc:M w w'):uh w' A n l:=⟨h.1,h.2.1,h.2.2.aR hc⟩
theorem uh.at_(h:uh w A n l){i:Nat}{r:cz}(ho:l[i]?=G r): ∃b off,A=G ⟨b,off,U⟩/\b<w.heap.size/\w.cell? ⟨b,off+i*5,U⟩=G (I J r.tx)/\w.cell? ⟨b,off+i*5+1,U⟩=G (I J r.aS)/\
 w.cell? ⟨b,off+i*5+2,U⟩=G (I J r.aY)/\w.cell? ⟨b,off+i*5+3,U⟩=G (I J r.state)/\w.cell? ⟨b,off+i*5+4,U⟩=G (I J r.heard):=by
 have g:=Dc ho;obtain⟨b,off,hA,hb,hc⟩:=h.2.2 (fh (show(dY l)[i*5+0]?=G (I J r.tx) by rw[g 0 (by omega)];rfl));refine⟨b,off,hA,hb,hc (i*5) _ (g 0 (by omega)),?_,?_,?_,?_⟩
 ·rw[Nat.add_assoc];exact hc _ _ (by rw[g 1 (by omega)];rfl)
 ·rw[Nat.add_assoc];exact hc _ _ (by rw[g 2 (by omega)];rfl)
 ·rw[Nat.add_assoc];exact hc _ _ (by rw[g 3 (by omega)];rfl)
 ·rw[Nat.add_assoc];exact hc _ _ (by rw[g 4 (by omega)];rfl)
end
theorem Dd{w:aw}{A:Option Addr}{n c:Nat}{l:List cz}(h:uh w A n l)(hs:oq l)(x:Int):
 ax av 312 #[T A n c,I J x,.func (.func 313) #[] #[]] w λe w'=>∃p,J5 l x p/\e=ay (aB #[I J (p:Nat),Y (O8 l x p)])/\M w w':=by
 have H:=O h;have HS:=O hs;have HL:=O h.1;have hn:(n:Int)<=1000000:=by have:=h.2.1;omega
 clear h hs;go_enter func312,ntmps312;go_wp2_with fail
 go_loopw[9,10] (λiv jv wr=>∃i j:Nat,i<=j/\j<=n/\iv=I J i/\jv=I J j/\(∀a r,a<i->l[a]?=G r->r.tx<x)/\(∀a r,j<=a->l[a]?=G r->x<=r.tx)/\M w wr) (λiv jv _=>(intOf jv).toNat- (intOf iv).toNat)
 case atStart=>exact⟨0,n,by omega,by omega,rfl,rfl,λa r ha=>absurd ha (by omega),λa r ha hr=>absurd (bf hr) (by rw[HL.o];omega),Ch.r _ _⟩
 case round=>
  obtain⟨i,j,tG,hj,rfl,rfl,hlo,hhi,hC⟩:=hrel;have HC:=O hC;have HLO:=O hlo;have HHI:=O hhi;clear hlo hhi hC;by_cases hlt:i<j
  ·obtain⟨m,hm⟩:=bG ((i+j) / 2);obtain⟨r,hr⟩:=bh (show m<l.length by rw[HL.o];omega);obtain⟨b,off,rfl,hb,x0,x1,x2,x3,x4⟩:=(H.o.aR HC.o).at_ hr;have HF:=O (wX r x wr);have HR:=O hr;have sr:i<=m:=by omega
   have jE:m<j:=by omega
   have e2:((i:Int)+(j:Int)) / 2=(m:Int):=by omega
   have HE:=O e2;clear e2 hr;by_cases hx:r.tx<x
   ·have HX:=O hx;rw[show fj r.tx x= -1 by unfold fj;rw[if_pos hx]]at HF;clear hx;go_wp2_with fail;refine HF.o.mono ?_;rintro e w2 ⟨rfl,hN⟩;dsimp only;have jF:=O (HC.o.t hN);clear hN;go_wp2_with fail;refine⟨⟨m+1,j,by omega,by omega,by rw[HE.o];go_num,rfl,λa r' ha Sk=>?_,HHI.o,jF.o⟩,by simp[intOf];omega⟩;have:=yw HS.o Sk HR.o (by omega);have:=HX.o;omega
   ·have HX:=O hx;rw[show fj r.tx x=if x<r.tx then 1 else 0 by unfold fj;rw[if_neg hx]]at HF;obtain⟨q,hq⟩: ∃q:Int,(if x<r.tx then 1 else 0)=q:=⟨_,rfl⟩;rw[hq]at HF;have ZA:0<=q:=by rw[<-hq];split<;>omega
    have ZB:q<=1:=by rw[<-hq];split<;>omega
    have dq:decide (q<0)=false:=by simp;omega
    clear hx hq;go_wp2_with fail;refine HF.o.mono ?_;rintro e w2 ⟨rfl,hN⟩;dsimp only;have jF:=O (HC.o.t hN);clear hN;go_wp2_with fail;refine⟨⟨i,m,by omega,by omega,rfl,by rw[HE.o],HLO.o,λa r' ha Sk=>?_,jF.o⟩,by simp[intOf];omega⟩;have:=yw HS.o HR.o Sk ha;have:=HX.o;omega
  ·obtain rfl:i=j:=by omega
   have HP:=O (show J5 l x i from⟨by rw[HL.o];omega,HLO.o,HHI.o⟩);by_cases tH:i<n
   ·obtain⟨r,hr⟩:=bh (show i<l.length by rw[HL.o];exact tH);obtain⟨b,off,rfl,hb,x0,x1,x2,x3,x4⟩:=(H.o.aR HC.o).at_ hr;have HF:=O (wX r x wr);have HA:=O (show O8 l x i=decide (r.tx=x) by unfold O8;rw[hr];rfl);have Oj:=HHI.o i r (by omega) hr;have d1:decide ((i:Int)<(n:Int))=true:=by simp;omega
    obtain⟨q,hq⟩: ∃q:Int,fj r.tx x=q:=⟨_,rfl⟩;have HQ:=O (show(q==0)=decide (r.tx=x) by
     rw[<-hq];unfold fj;rw[if_neg (by omega)];split
     ·rw[show decide (r.tx=x)=false by simp;omega];rfl
     ·rw[show decide (r.tx=x)=true by simp;omega];rfl)
    rw[hq]at HF;clear hq hr hlt Oj tG;rcases ZC:(q==0)with _|_
    ·have HQQ:=O ZC;have dq:decide (q=0)=false:=by simpa using ZC
     go_wp2_with fail;refine HF.o.mono ?_;rintro e w2 ⟨rfl,hN⟩;dsimp only;have jF:=O (HC.o.t hN);clear hN;go_wp2_with fail;go_ret2;exact⟨i,HP.o,by rw[HA.o, <-HQ.o,HQQ.o];rfl,jF.o⟩
    ·have HQQ:=O ZC;obtain rfl:q=0:=by simpa using ZC
     go_wp2_with fail;refine HF.o.mono ?_;rintro e w2 ⟨rfl,hN⟩;dsimp only;have jF:=O (HC.o.t hN);clear hN;go_wp2_with fail;go_ret2;exact⟨i,HP.o,by rw[HA.o, <-HQ.o];rfl,jF.o⟩
   ·obtain rfl:n=i:=by omega
    have HA:=O (show O8 l x n=false by unfold O8;rw[List.getElem?_eq_none (by rw[HL.o];omega)];rfl);have d1:decide ((n:Int)<(n:Int))=false:=by simp
    clear hlt tH tG hj;go_wp2_with fail;go_ret2;exact⟨n,HP.o,by rw[HA.o];rfl,HC.o⟩
structure fu(w:aw)(tb:Nat)(A:Option Addr)(n c:Nat)(l:List cz):Prop where
 aW:aX w tb 184 #[T A n c]
 own:w.ownsRow 0 186 5 (T A n c) n (dY l)
 GK:oq l
 len:l.length=n
 fx:n<=1000
def gg(tb:Nat)(A:Option Addr)(n c:Nat):Nat->Prop:=λg=>g=tb\/(T A n c).ownBlock=G g
section
variable{w w':aw}{tb:Nat}{A:Option Addr}{n c:Nat}{l:List cz}
theorem fu.rows(h:fu w tb A n c l):uh w A n l:=⟨h.len,by have:=h.fx;omega,Rd.own h.own⟩
theorem fu.ch{S:Nat->Prop}(h:fu w tb A n c l)(hc:Ch S w w')(hS: ∀g,gg tb A n c g->¬S g):fu w' tb A n c l:=
 ⟨h.aW.ch hc (hS tb (.inl rfl)),bg h.own hc (λk hk=>hS k (.inr hk)),h.GK,h.len,h.fx⟩
theorem fu.aR(h:fu w tb A n c l)(hc:M w w'):fu w' tb A n c l:=h.ch hc (λ_ _ h=>h)
theorem fu.fC(h:fu w tb A n c l):oo (gg tb A n c) w:=λg hg=>by
 rcases hg with e|e
 ·rw[e];exact h.aW.lt
 ·exact(h.own.lt g e).2
theorem fu.row(h:fu w tb A n c l){p:Nat}{r:cz}(hp:l[p]?=G r): ∃rb,A=G ⟨rb,0,U⟩/\rb<w.heap.size/\rb≠tb/\(∀j,w.frozen? ⟨rb,j,U⟩=false)/\w.cell? ⟨rb,p*5,U⟩=G (I J r.tx)/\w.cell? ⟨rb,p*5+1,U⟩=G (I J r.aS)/\
 w.cell? ⟨rb,p*5+2,U⟩=G (I J r.aY)/\w.cell? ⟨rb,p*5+3,U⟩=G (I J r.state)/\w.cell? ⟨rb,p*5+4,U⟩=G (I J r.heard):=by
 have hn:0<n:=by have:=bf hp;have:=h.len;omega
 obtain⟨g,cap,hv,_,hlt⟩:=h.own.form hn;injection hv with hA _ _;subst hA;obtain⟨b,off,e,hb,x0,x1,x2,x3,x4⟩:=h.rows.at_ hp;injection e with e;injection e with e1 e2;subst e1 e2;simp only[Nat.zero_add]at x0 x1 x2 x3 x4;refine⟨g,rfl,hlt,λe=>?_,λj=>h.own.frozenAt j,x0,x1,x2,x3,x4⟩;subst e;exact aV h.own h.aW (by decide) rfl
theorem wY{l:List cz}(h:oq l){p q:Nat}{r s:cz}(hp:l[p]?=G r)(hq:l[q]?=G s)(e:r.tx=s.tx):p=q:=by
 have key: ∀{p q:Nat} {r s:cz},l[p]?=G r->l[q]?=G s->r.tx=s.tx->¬p<q:=λ{p q r s} hp hq e hlt=>by
  have De:=bf hp;have Jx:=bf hq;have:=List.pairwise_iff_getElem.1 h p q De Jx hlt;rw[List.getElem?_eq_getElem De]at hp;rw[List.getElem?_eq_getElem Jx]at hq;injection hp with hp;injection hq with hq;rw[hp,hq]at this;omega
 have a:=key hp hq e;have b:=key hq hp e.symm;omega
theorem kR(h:fu w tb A n c l)(x:Int):ax av 235 #[X (G ⟨tb,0,U⟩),I J x] w λe w'=>∃p,J5 l x p/\e=ay (aB #[I J (p:Nat),Y (O8 l x p)])/\M w w':=by
 have HS:=O (Dd (c:=c) h.rows h.GK x);have x0:=h.aW.c 0;have xl:=h.aW.lt;clear h;go_enter func235,ntmps235;go_wp2_with fail;refine HS.o.mono ?_;rintro e w' ⟨p,hp,rfl,hN⟩;dsimp only;have HP:=O hp;have HN:=O hN;clear hp hN HS;go_wp2_with fail;go_ret2;exact⟨p,HP.o,rfl,HN.o⟩
theorem kS(h:fu w tb A n c l){p:Nat}{r:cz}(hp:l[p]?=G r){x:Int}(hx:r.tx=x):ax av 235 #[X (G ⟨tb,0,U⟩),I J x] w λe w'=>e=ay (aB #[I J (p:Nat),Y true])/\M w w':=
 (kR h x).mono λe w' ⟨q,hq,he,hN⟩=>by
   have De:=bf hp;have ZB:q<=p:=by
    rcases Nat.lt_or_ge p q with hlt|Oj
    ·have:=hq.lo p r hlt hp;omega
    ·exact Oj
   obtain⟨s,hs⟩:=bh (show q<l.length by omega);have h1:=hq.hi q s (aN _) hs;have h2:=yw h.GK hs hp ZB;obtain rfl:=wY h.GK hs hp (by omega);exact⟨by rw[he];unfold O8;rw[hp];simp[hx],hN⟩
theorem oM(h:fu w tb A n c l){x:Int}(hx: ∀r∈l,r.tx≠x):ax av 235 #[X (G ⟨tb,0,U⟩),I J x] w λe w'=>∃p,J5 l x p/\e=ay (aB #[I J (p:Nat),Y false])/\M w w':=
 (kR h x).mono λe w' ⟨q,hq,he,hN⟩=>⟨q,hq,by
   rw[he];have:O8 l x q=false:=by
    unfold O8;cases hs:l[q]? with
    |none=>rfl
    |some s=>simpa using hx s (bS hs)
   rw[this],hN⟩
theorem jO(tx aS now:Int)(h0:0<=tx)(h1:tx<=1048576)(h2:0<=aS)(h3:aS<=1048576)(h4:0<=now)(h5:now<=1099511627776)(w:aw):
 ax av 247 #[X (G ⟨tb,0,U⟩),I J tx,I J aS,I J now] w λe w'=>e=ay (Y true)/\w'=w:=by
 have d0:decide (0<=tx)=true:=by simpa using h0
 have d1:decide (tx<=1048576)=true:=by simpa using h1
 have d2:decide (0<=aS)=true:=by simpa using h2
 have d3:decide (aS<=1048576)=true:=by simpa using h3
 have d4:decide (0<=now)=true:=by simpa using h4
 have d5:decide (now<=1099511627776)=true:=by simpa using h5
 go_enter func247,ntmps247;go_wp2_with fail;go_ret;exact⟨rfl,rfl⟩
theorem pG(h:fu w tb A n c l){x:Int}(hx: ∀r∈l,r.tx≠x)(aS:Int):ax av 248 #[X (G ⟨tb,0,U⟩),I J x,I J aS] w λe w'=>e=ay (aB #[I J 1,X U])/\M w w':=by
 have HF:=O (oM h hx);clear h hx;go_enter func248,ntmps248;go_wp2_with fail;refine HF.o.mono ?_;rintro e w' ⟨p,hp,rfl,hN⟩;dsimp only;have HN:=O hN;clear hp hN HF;go_wp2_with fail;go_ret2;exact⟨rfl,HN.o⟩
theorem pH(h:fu w tb A n c l){p:Nat}{r:cz}(hp:l[p]?=G r){x:Int}(hx:r.tx=x)(aS:Int){rb:Nat}(hA:A=G ⟨rb,0,U⟩):
 ax av 248 #[X (G ⟨tb,0,U⟩),I J x,I J aS] w λe w'=>e=ay (aB #[I J (fj aS r.aS),X (G ⟨rb,p*5,U⟩)])/\M w w':=by
 have HF:=O (kS h hp hx);have H:=O h;have HP:=O hp;have TE:p<n:=by have:=bf hp;have:=h.len;omega
 have hn:(n:Int)<=1000:=by have:=h.fx;omega
 subst hA;clear h hx hp;go_enter func248,ntmps248;go_wp2_with fail;refine HF.o.mono ?_;rintro e w2 ⟨rfl,hN⟩;dsimp only;have HN:=O hN;have H2:=O (H.o.aR hN);obtain⟨GL,e,hl,eQ,dL,x0,x1,x2,x3,x4⟩:=H2.o.row HP.o;injection e with e;injection e with e1 _;subst e1;have y0:=H2.o.aW.c 0;have hc:=O (λk=>show ax av 164 #[I J aS,I J r.aS] (w2.drewN k) (λe w'=>e=ay (I J (fj aS r.aS))/\∃m,w'=w2.drewN m)from(tF aS r.aS (w2.drewN k)).mono λe w' h=>⟨h.1,k,h.2⟩);have Df:(p:Int)<(n:Int):=by omega
 have y1:=H2.o.aW.lt;clear hN HF dL;go_wp2_with fail
 go_quiet((go_at_call 164;exact hc.o _))
 go_wp2_with fail;go_ret2;exact⟨rfl,HN.o.drewN nq⟩
end
structure FT(l:List cz)(f:Rows):Prop where
 yes: ∀(p:Nat) (r:cz),l[p]?=G r->f r.tx=G r
 no: ∀x r,f x=G r->r.tx=x/\r∈l
theorem FT.none_{l:List cz}{f:Rows}(h:FT l f){x:Int}(hx:f x=U): ∀r∈l,r.tx≠x:=λr hr e=>by
 obtain⟨p,hp⟩:=List.mem_iff_getElem?.1 hr;have:=h.yes p r hp;rw[e,hx]at this;cases this
theorem FT.some_{l:List cz}{f:Rows}(h:FT l f){x:Int}{r:cz}(hx:f x=G r): ∃p:Nat,l[p]?=G r/\r.tx=x:=by
 obtain⟨h1,h2⟩:=h.no x r hx;obtain⟨p,hp⟩:=List.mem_iff_getElem?.1 h2;exact⟨p,hp,h1⟩
theorem FT.bm{l:List cz}{f:Rows}(h:FT l f)(hs:oq l){p:Nat}{r r':cz}(hp:l[p]?=G r)(ht:r'.tx=r.tx):FT (l.set p r') (cQ f r.tx (G r')):=by
 have De:=bf hp;refine⟨λq s hq=>?_,λx s hx=>?_⟩
 ·by_cases e:p=q
  ·subst e;rw[List.getElem?_set_self De]at hq;injection hq with hq;subst hq;rw[ht];exact bD _ _ _
  ·rw[List.getElem?_set_ne e]at hq;rw[bP _ _ (λe'=>e (wY hs hp hq e'.symm))];exact h.yes q s hq
 ·by_cases e:x=r.tx
  ·subst e;rw[bD]at hx;injection hx with hx;subst hx;exact⟨ht,List.mem_iff_getElem?.2 ⟨p,List.getElem?_set_self De⟩⟩
  ·rw[bP _ _ e]at hx;obtain⟨h1,h2⟩:=h.no x s hx;obtain⟨q,hq⟩:=List.mem_iff_getElem?.1 h2;refine⟨h1,List.mem_iff_getElem?.2 ⟨q,?_⟩⟩;rw[List.getElem?_set_ne (λe'=>e (by
    subst e';rw[hp]at hq;injection hq with hq;rw[hq,h1]))]
   exact hq
theorem J6{l:List cz}(hs:oq l){p:Nat}{r r':cz}(hp:l[p]?=G r)(ht:r'.tx=r.tx):oq (l.set p r'):=by
 have De:=bf hp;have hpr:l[p]=r:=by
  rw[List.getElem?_eq_getElem De]at hp;injection hp
 refine List.pairwise_iff_getElem.2 λi j hi hj tG=>?_;have ZE:i<l.length:=by simpa using hi
 have V5:j<l.length:=by simpa using hj
 have key:=List.pairwise_iff_getElem.1 hs i j ZE V5 tG;simp only[List.getElem_set];split
 ·rename_i e;subst e;rw[if_neg (by omega),ht, <-hpr];exact key
 ·split
  ·rename_i e;subst e;rw[ht, <-hpr];exact key
  ·exact key
section
variable{w w':aw}{tb:Nat}{A:Option Addr}{n c:Nat}{l:List cz}{f:Rows}
theorem fu.bm(h:fu w tb A n c l){p:Nat}{r r':cz}(hp:l[p]?=G r)(ht:r'.tx=r.tx){rb:Nat}(hA:A=G ⟨rb,0,U⟩){j:Nat}(hj:j<5){u:Value}(hu:iG r'=(iG r).set j u):
 fu (w.setCell ⟨rb,p*5+j,U⟩ u) tb A n c (l.set p r'):=by
 subst hA;refine⟨h.aW.cv (p:=⟨rb,p*5+j,U⟩) (λe=>?_) u,?_,J6 h.GK hp ht,by simp[h.len],h.fx⟩
 ·refine aV h.own h.aW (by decide) ?_;dsimp only at e;subst e;rfl
 ·have:=(h.own.stored (p*5+j) u).1;unfold dY at this⊢;rwa[pC (f:=iG) (m:=5) (λ_ _=>rfl) hp hj hu]at this
theorem yx{rb:Nat}(hA:A=G ⟨rb,0,U⟩){p:Nat}{w1 w2:aw}(hc:M w1 w2)(u:Value):Ch (gg tb A n c) w1 (w2.setCell ⟨rb,p,U⟩ u):=by
 subst hA;exact(hc.mono (λ_ h=>h.elim)).setCell (p:=⟨rb,p,U⟩) (.inl (.inr rfl)) u
end
theorem pI:(av.info? 186).map (λi=>(i.zero,i.size,i.bytes))=G (G (aC #[I J 0,I J 0,I J 0,I J 0,I J 0]),5,40):=by kernel_rfl
def J7(w:aw)(ov:Value)(n i:Nat)(xs vs:List Value)(e:Ending)(w':aw):Prop:=
 ∃(A':Option Addr) (c':Nat),e=ay (T A' (n+1) c')/\w'.ownsRow 0 186 5 (T A' (n+1) c') (n+1) (xs.take (i*5)++(vs++xs.drop (i*5)))/\Ch (λg=>ov.ownBlock=G g) w w'/\((T A' (n+1) c').ownBlock=ov.ownBlock\/∃g,(T A' (n+1) c').ownBlock=G g/\w.heap.size<=g)
theorem Dh{α:Type}{xs Z vs:List α}{k m:Nat}(hk:k<=xs.length)(hm:vs.length=m)(hZ:m<=Z.length):
 splice (splice (xs++Z) (k+m) (xs.drop k)) k vs=(xs.take k++(vs++xs.drop k))++Z.drop m:=by
 have d1:(xs++Z).drop (xs.length+m)=Z.drop m:=by
  rw[List.drop_append];simp
 have e1:splice (xs++Z) (k+m) (xs.drop k)=(xs++Z).take (k+m)++(xs.drop k++Z.drop m):=by
  unfold splice;rw[List.length_drop,show k+m+(xs.length-k)=xs.length+m by omega,d1]
 rw[e1];have l1:((xs++Z).take (k+m)).length=k+m:=by rw[List.length_take,aL];omega
 have t1:((xs++Z).take (k+m)++(xs.drop k++Z.drop m)).take k=xs.take k:=by
  rw[List.take_append_of_le_length (by omega),List.take_take,show min k (k+m)=k by omega,List.take_append_of_le_length hk]
 have t2:((xs++Z).take (k+m)++(xs.drop k++Z.drop m)).drop (k+m)=xs.drop k++Z.drop m:=by
  have:=List.drop_left (l₁:=(xs++Z).take (k+m)) (l₂:=xs.drop k++Z.drop m);rwa[l1]at this
 unfold splice;rw[hm,t1,t2];simp
section
variable{w:aw}{vb:Nat}{vs:List Value}
theorem insert_nil(hv:aX w vb 186 vs.toArray)(ny:vs.length=5)(qQ: ∀u∈vs,u.oneCell'=true):
 ax av 326 #[T U 0 0,I J 0,T (G ⟨vb,0,U⟩) 1 1] w (J7 w (T U 0 0) 0 0 [] vs):=by
 obtain⟨i1,dX,er,eu,eK⟩:=info_parts pI;have we:=O qQ;have lG:=O (show Reads w w.heap.size 5 (G ⟨vb,0,U⟩) 1 vs from⟨by rw[ny],λ_=>⟨_,rfl,hv.lt,λj u hu=>by
  rw[show(⟨vb,0,U⟩:Addr).add j=⟨vb,j,U⟩ by unfold Addr.add;split<;>simp_all,hv.c];simpa using hu⟩⟩)
 clear hv ny qQ;go_enter func326,ntmps326;go_wp2_with(first
  |(at_builtin
    refine bp _ rfl (.tmp 23) (.tmp 24) _ rfl 0 186 i1 _ 5 40 underlying182 dX er eu eK rfl (by omega) (T U 0 0) 0 [] rfl
     (World.ownsRow_nil w 0 186 5) w.heap.size (G ⟨vb,0,U⟩) 1 1 vs rfl lG.o we.o (by simp only[maxLen];omega) (by omega) (Nat.zero_le _) ?_
    intro v8 w8 bM dS dG;obtain⟨A8,c8,rfl⟩:=bz bM;have mh:=O bM;have iT:=O (Ch.bF dS);have nS:=O dG;clear bM dS dG))
 go_ret;refine⟨A8,c8,rfl,by simpa using mh.o,iT.o.mono (λk hk=>hk.symm▸rfl),?_⟩;rcases nS.o with h|h
 ·exact .inl h
 ·exact .inr ⟨_,h,aN _⟩
theorem Di{g n c:Nat}{xs:List Value}(h:w.ownsRow 0 186 5 (T (G ⟨g,0,U⟩) n c) n xs)(hn:n<=1000)(hv:aX w vb 186 vs.toArray)(ny:vs.length=5)(qQ: ∀u∈vs,u.oneCell'=true):
 ax av 326 #[T (G ⟨g,0,U⟩) n c,I J n,T (G ⟨vb,0,U⟩) 1 1] w (J7 w (T (G ⟨g,0,U⟩) n c) n n xs vs):=by
 obtain⟨i1,dX,er,eu,eK⟩:=info_parts pI;have H:=O h;have we:=O qQ;have lG:=O (show Reads w w.heap.size 5 (G ⟨vb,0,U⟩) 1 vs from⟨by rw[ny],λ_=>⟨_,rfl,hv.lt,λj u hu=>by
  rw[show(⟨vb,0,U⟩:Addr).add j=⟨vb,j,U⟩ by unfold Addr.add;split<;>simp_all,hv.c];simpa using hu⟩⟩)
 obtain⟨Z,_,_,tD,fA⟩:=cV h;have Jy:(c:Int)<=9223372036854775807:=by unfold maxLen at fA;omega
 have jW:(n:Int)<=1000:=by omega
 have Dk:(n:Int)<=(c:Int):=by omega
 clear h hv ny qQ fA;go_enter func326,ntmps326;go_wp2_with(first
  |(at_builtin
    refine bp _ rfl (.tmp 23) (.tmp 24) _ rfl 0 186 i1 _ 5 40 underlying182 dX er eu eK rfl (by omega) (T (G ⟨g,0,U⟩) n c) n xs rfl
     H.o w.heap.size (G ⟨vb,0,U⟩) 1 1 vs rfl lG.o we.o (by simp only[maxLen];omega) (by omega) (Nat.zero_le _) ?_
    intro v8 w8 bM dS dG;obtain⟨A8,c8,rfl⟩:=bz bM;have mh:=O bM;have iT:=O (Ch.bF dS);have nS:=O dG;clear bM dS dG))
 all_goals
  go_ret;refine⟨A8,c8,rfl,?_,iT.o.mono (λk hk=>hk.symm▸rfl),?_⟩
  ·have hl:=H.o.1;rw[List.take_of_length_le (by omega),List.drop_of_length_le (by omega),List.append_nil];exact mh.o
  ·rcases nS.o with h|h
   ·exact .inl h
   ·exact .inr ⟨_,h,aN _⟩
theorem yy{g n c i:Nat}{xs:List Value}(h:w.ownsRow 0 186 5 (T (G ⟨g,0,U⟩) n c) n xs)(ot: ∀u∈xs,u.oneCell'=true)(hn:n<=1000)(hi:i<n)(hc:n<c)(hv:aX w vb 186 vs.toArray)(ny:vs.length=5)(qQ: ∀u∈vs,u.oneCell'=true)(eQ:g≠vb):
 ax av 326 #[T (G ⟨g,0,U⟩) n c,I J i,T (G ⟨vb,0,U⟩) 1 1] w (J7 w (T (G ⟨g,0,U⟩) n c) n i xs vs):=by
 obtain⟨i1,dX,er,eu,eK⟩:=info_parts pI;have H:=O h;have HV:=O hv;have we:=O qQ;obtain⟨Z,hb,pD,tD,fA⟩:=cV h;have HB:=O hb;have Jy:(c:Int)<=9223372036854775807:=by unfold maxLen at fA;omega
 have jW:(n:Int)<=1000:=by omega
 have Dk:(n:Int)<(c:Int):=by omega
 have Aa:(i:Int)<(n:Int):=by omega
 have d1:decide ((c:Int)<(n:Int)+1)=false:=by simp;omega
 have d2:((i:Int)==(n:Int))=false:=by simp;omega
 have d3:decide ((i:Int)=(n:Int))=false:=by simp;omega
 have hci: ¬c=i:=by omega
 have hci1: ¬c=i+1:=by omega
 have iO: ∀lb cb,(callFunc 372 #[T (G ⟨vb,0,U⟩) 1 1,T (G ⟨g,(i+1)*5,U⟩) lb cb]).run av w= .ok (.value (Y false)) w:=λlb cb=>by
  rw[run_callFunc_extern func372 (by kernel_rfl) (by kernel_rfl) (by kernel_rfl) (e:=Extern.SlicesOverlaps.overlaps #[182,182] #[4]) (by kernel_rfl),
   Lib.run_overlaps_apart w 182 4 186 underlying182 5 (λw=>by simp[sizeOf,typeInfo,dX,eu]) ⟨vb,0,U⟩ ⟨g,(i+1)*5,U⟩ 1 1 lb cb (λe=>eQ e.symm) 186 186 5 (c*5)
    (by unfold aX at hv;simp[World.shape?,hv,ny]) (by unfold aX at hb;simp only[World.shape?,hb,List.size_toArray,pD]) (by omega) (hv.frozen 0) (hv.frozen 5)]
  rfl
 have su:=h.1;have jh:(av.info? 186).map (·.size)=G 5:=by rw[dX];simp[eu]
 have sr:Nat.min (n+1-i) (n-i)=n-i:=by simp only[Nat.min_def];split<;>omega
 have jE:Nat.min 1 (n+1-i)=1:=by simp only[Nat.min_def];split<;>omega
 have yz:5<=Z.length:=by
  have:=pD;rw[aL,su]at this;have:n*5+5<=c*5:=by omega
  omega
 have GN:=O (show(xs.drop (i*5)).length=Nat.min (n+1-i) (n-i)*5 by rw[sr,List.length_drop,su];omega);have TF:=O (show∀j v,(xs.drop (i*5))[j]?=G v->w.cell? ((⟨g,i*5,U⟩:Addr).add j)=G v from λj v hj=>by
  rw[show(⟨g,i*5,U⟩:Addr).add j=⟨g,i*5+j,U⟩ by unfold Addr.add;split<;>simp_all,hb.c];rw[List.getElem?_drop]at hj;simp only[List.getElem?_toArray];rw[List.getElem?_append_left (bf hj)];exact hj)
 have jX:=O (show(i+1)*5+(xs.drop (i*5)).length<=(xs++Z).length by rw[List.length_drop,aL,su];omega);have qB:=O (show∀u∈xs.drop (i*5),u.oneCell'=true from λu hu=>ot u (List.mem_of_mem_drop hu));have HVN:=O (show vs.length=Nat.min 1 (n+1-i)*5 by rw[jE,ny]);have V6:=O (λ(w':aw) (vT:aX w' vb 186 vs.toArray)=>show∀j v,vs[j]?=G v->w'.cell? ((⟨vb,0,U⟩:Addr).add j)=G v from λj v hj=>by
  rw[show(⟨vb,0,U⟩:Addr).add j=⟨vb,j,U⟩ by unfold Addr.add;split<;>simp_all,vT.c];simpa using hj)
 have pJ:=O (show i*5+vs.length<=(splice (xs++Z) ((i+1)*5) (xs.drop (i*5))).length by rw[length_splice _ _ _ jX.o,aL,ny,su];omega);have GO:=O (show splice (splice (xs++Z) ((i+1)*5) (xs.drop (i*5))) (i*5) vs=(xs.take (i*5)++(vs++xs.drop (i*5)))++Z.drop 5 from by
  have:=Dh (xs:=xs) (Z:=Z) (vs:=vs) (k:=i*5) (m:=5) (by omega) ny yz;rw[show(i+1)*5=i*5+5 by omega];exact this)
 have qR:=O (show(xs.take (i*5)++(vs++xs.drop (i*5))).length=(n+1)*5/\((xs.take (i*5)++(vs++xs.drop (i*5)))++Z.drop 5).length=c*5 from by
  rw[aL]at pD;simp only[aL,List.length_take,List.length_drop,ny];omega)
 clear h hv ny qQ fA ot hb pD su sr jE yz;have bT:IntKind.i64.wrap ((i:Int)+1)=(i:Int)+1:=IntWalk.i64_in _ ⟨by omega,by omega⟩;have ew:((i:Int)+1).toNat=i+1:=by omega
 have je:(i:Int)+1<=(n:Int)+1:=by omega
 have lH:(0:Int)<=(i:Int)+1:=by omega
 have qC:(i:Int)<=(n:Int)+1:=by omega
 have sZ:i<=n+1:=by omega
 go_enter func326,ntmps326;go_wp2_with fail
 go_region_law((refine mE rfl (.tmp 73) (.tmp 76) 182 182 rfl 186 5 underlying182 jh g ((i+1)*5) (n-i) (c- (i+1)) ⟨g,i*5,U⟩ (n+1-i) (c-i) (by simp[Act.eval,Act.put]) (by simp[Act.eval,Act.put]) (xs++Z) 186 HB.o (xs.drop (i*5)) GN.o TF.o jX.o qB.o ?_);intro w4 TG wg)
 have cK:=O (show Ch (λk=>k=g) w w4 from((Ch.r _ w).drew).t wg);have HV4:=O (HV.o.ch cK.o (λe=>eQ e.symm));go_wp2_with(first
  |(refine kP rfl (.tmp 80) (.tmp 81) 182 182 rfl 186 5 underlying182 jh g (i*5) (n+1-i) (c-i) ⟨vb,0,U⟩ 1 1 rfl rfl (splice (xs++Z) ((i+1)*5) (xs.drop (i*5))) 186 TG.o vs HVN.o (λj v hj=>V6.o w4 HV4.o j v hj) pJ.o we.o ?_
    intro w5 kg yA))
 go_ret;have HF:=qR.o;refine⟨G ⟨g,0,U⟩,c,rfl,?_,?_,.inl rfl⟩
 ·have nT:=kg.o;rw[GO.o]at nT;exact eh (Z:=Z.drop 5) (Nat.zero_le _) HF.1 nT HF.2 (by omega) (by have:=H.o;obtain⟨_,_,_,_,hh⟩:=cV this;exact hh)
 ·exact(cK.o.t yA).mono (λk hk=>by rw[hk];rfl)
theorem Ap{α:Type}{xs R vs:List α}{k m:Nat}(hk:k<=xs.length)(hm:vs.length=m)(hR:m+(xs.length-k)<=R.length):
 splice (splice (xs.take k++R) k vs) (k+m) (xs.drop k)=(xs.take k++(vs++xs.drop k))++R.drop (m+(xs.length-k)):=by
 have l0:(xs.take k).length=k:=by rw[List.length_take];omega
 have e1:splice (xs.take k++R) k vs=(xs.take k++vs)++R.drop m:=by
  unfold splice;have t1:(xs.take k++R).take k=xs.take k:=by
   have:=List.take_left (l₁:=xs.take k) (l₂:=R);rwa[l0]at this
  have t2:(xs.take k++R).drop (k+m)=R.drop m:=by
   have:=List.drop_append (l₁:=xs.take k) (l₂:=R) (i:=k+m);rw[this,l0,List.drop_of_length_le (by omega),show k+m-k=m by omega,List.nil_append]
  rw[hm,t1,t2,List.append_assoc]
 rw[e1];have l1:(xs.take k++vs).length=k+m:=by rw[aL,l0,hm]
 unfold splice;have t1:((xs.take k++vs)++R.drop m).take (k+m)=xs.take k++vs:=by
  have:=List.take_left (l₁:=xs.take k++vs) (l₂:=R.drop m);rwa[l1]at this
 have t2:((xs.take k++vs)++R.drop m).drop (k+m+(xs.drop k).length)=R.drop (m+(xs.length-k)):=by
  rw[<-List.drop_drop];have:=List.drop_left (l₁:=xs.take k++vs) (l₂:=R.drop m);rw[l1]at this;rw[this,List.drop_drop,List.length_drop]
 rw[t1,t2];simp
theorem Aq{g n i:Nat}{xs:List Value}(h:w.ownsRow 0 186 5 (T (G ⟨g,0,U⟩) n n) n xs)(ot: ∀u∈xs,u.oneCell'=true)(hn:n<=1000)(hi:i<n)(hv:aX w vb 186 vs.toArray)(ny:vs.length=5)(qQ: ∀u∈vs,u.oneCell'=true):
 ax av 326 #[T (G ⟨g,0,U⟩) n n,I J i,T (G ⟨vb,0,U⟩) 1 1] w (J7 w (T (G ⟨g,0,U⟩) n n) n i xs vs):=by
 obtain⟨i1,dX,er,eu,eK⟩:=info_parts pI;have we:=O qQ;obtain⟨Z,hb,pD,_,_⟩:=cV h;have su:=h.1;have jW:(n:Int)<=1000:=by omega
 have Aa:(i:Int)<(n:Int):=by omega
 have jh:(av.info? 186).map (·.size)=G 5:=by rw[dX];simp[eu]
 have nz:=hb.lt;have hvlt:=hv.lt;obtain⟨aa,hG⟩:=bG (grownCap w (n+1) n 186);have ZF:n+1<=aa:=by rw[<-hG];exact grownCap_ge _ _ _ _
 have hG2:aa<=maxLen:=by rw[<-hG];exact grownCap_le_maxLen _ _ _ _ (by unfold maxLen;omega)
 obtain⟨R,hR⟩: ∃R:List Value,(Builtin.zeroCells (Value.agg #[I J 0,I J 0,I J 0,I J 0,I J 0]).cells (n+1-i)++Builtin.zeroCells (Value.agg #[I J 0,I J 0,I J 0,I J 0,I J 0]).cells (aa- (n+1))).toList=R:=⟨_,rfl⟩;have W9:R.length=(aa-i)*5:=by
  rw[<-hR];simp[Builtin.zeroCells,Value.cells];omega
 have Sl: ∀j v,xs[j]?=G v->w.cell? ⟨g,j,U⟩=G v:=λj v hj=>by
  rw[hb.c];simp only[List.getElem?_toArray];rw[List.getElem?_append_left (bf hj)];exact hj
 have hold:(Builtin.firstCells i1.size i (T (G ⟨g,0,U⟩) i n)).run av w.drew= .ok (xs.take (i*5)).toArray w.drew:=by
  rw[eu];exact run_firstCells_some w.drew 5 i ⟨g,0,U⟩ i n (xs.take (i*5)) (by rw[List.length_take];omega) (λj v hj=>by
   rw[show(⟨g,0,U⟩:Addr).add j=⟨g,j,U⟩ by unfold Addr.add;split<;>simp_all];rw[List.getElem?_take]at hj;split at hj
   ·exact Sl j v hj
   ·cases hj)
 obtain⟨W1,Xa⟩:=bG (w.drew.alloc (az (xs.take (i*5)++R).toArray 186));have hrz: ∀ty,(Builtin.append_ #[182,3] ty #[T (G ⟨g,0,U⟩) i n,I J ((n:Int)+1- (i:Int))]).run av w= .ok (T (G ⟨w.heap.size,0,U⟩) (n+1) aa) W1:=λty=>by
  have hf:=Lib.run_append_grow_zeros w 182 3 ty 186 i1 _ J J underlying182 underlying3 dX er (G ⟨g,0,U⟩) i n (xs.take (i*5)) hold (n+1-i) (by omega) (by rw[eu];omega) (by omega) (by omega) (by rw[eK];omega) (by rw[eK,show i+(n+1-i)=n+1 by omega];exact growslice_fits (by omega) (by omega));rw[show i+(n+1-i)=n+1 by omega,hG]at hf;rw[show(n:Int)+1- (i:Int)=((n+1-i:Nat):Int) by omega,hf, <-Xa];congr 2
  rw[<-hR];simp
 have hWs:W1.heap.size=w.heap.size+1:=by rw[<-Xa];simp
 have cH:=O (show M w W1 from by rw[<-Xa];exact((Ch.r _ w).drew).alloc _);have cw:=O (show aX W1 w.heap.size 186 (xs.take (i*5)++R).toArray from by rw[<-Xa];exact aX.new w.drew _ _);have HV:=O (hv.ch cH.o (λe=>e));have HXC:=O (λ(w':aw) (hc:Ch (λk=>k=w.heap.size) W1 w') (j:Nat) (v:Value) (hj:xs[j]?=G v)=>show w'.cell? ⟨g,j,U⟩=G v from by
  have vT:=(hb.ch cH.o (λe=>e)).ch hc (λe=>by omega);rw[vT.c];simp only[List.getElem?_toArray];rw[List.getElem?_append_left (bf hj)];exact hj)
 have jE:Nat.min 1 (n+1-i)=1:=by simp only[Nat.min_def];split<;>omega
 have HVN:=O (show vs.length=Nat.min 1 (n+1-i)*5 by rw[jE,ny]);have V6:=O (show∀j v,vs[j]?=G v->W1.cell? ((⟨vb,0,U⟩:Addr).add j)=G v from λj v hj=>by
  rw[show(⟨vb,0,U⟩:Addr).add j=⟨vb,j,U⟩ by unfold Addr.add;split<;>simp_all,HV.o.c];simpa using hj)
 have jX:=O (show i*5+vs.length<=(xs.take (i*5)++R).length by rw[aL,List.length_take,W9,ny];omega);have GN:=O (show(xs.drop (i*5)).length=Nat.min (n-i) (n-i)*5 by rw[show Nat.min (n-i) (n-i)=n-i from Nat.min_self _,List.length_drop,su];omega);have pJ:=O (show(i+1)*5+(xs.drop (i*5)).length<=(splice (xs.take (i*5)++R) (i*5) vs).length by rw[length_splice _ _ _ jX.o,aL,List.length_take,List.length_drop,W9];omega);have TF:=O (λ(w':aw) (hc:Ch (λk=>k=w.heap.size) W1 w')=>show∀j v,(xs.drop (i*5))[j]?=G v->w'.cell? ((⟨g,i*5,U⟩:Addr).add j)=G v from λj v hj=>by
  rw[show(⟨g,i*5,U⟩:Addr).add j=⟨g,i*5+j,U⟩ by unfold Addr.add;split<;>simp_all];rw[List.getElem?_drop]at hj;exact HXC.o w' hc _ v hj)
 have qB:=O (show∀u∈xs.drop (i*5),u.oneCell'=true from λu hu=>ot u (List.mem_of_mem_drop hu));have GO:=O (show splice (splice (xs.take (i*5)++R) (i*5) vs) ((i+1)*5) (xs.drop (i*5))=(xs.take (i*5)++(vs++xs.drop (i*5)))++R.drop (5+(xs.length-i*5))from by
  have:=Ap (xs:=xs) (R:=R) (vs:=vs) (k:=i*5) (m:=5) (by omega) ny (by rw[W9];omega);rw[show(i+1)*5=i*5+5 by omega];exact this)
 have qR:=O (show(xs.take (i*5)++(vs++xs.drop (i*5))).length=(n+1)*5/\((xs.take (i*5)++(vs++xs.drop (i*5)))++R.drop (5+(xs.length-i*5))).length=aa*5 from by
  simp only[aL,List.length_take,List.length_drop,ny,W9];omega)
 have ZG:=O hG2;have hGI:(aa:Int)<=9223372036854775807:=by unfold maxLen at hG2;omega
 have hg1: ¬aa=i:=by omega
 have hg2: ¬aa=i+1:=by omega
 have hci: ¬n=i:=by omega
 have d1:decide ((n:Int)<(n:Int)+1)=true:=by simp;omega
 have d2:((i:Int)==(n:Int))=false:=by simp;omega
 have d3:decide ((i:Int)=(n:Int))=false:=by simp;omega
 have bT:IntKind.i64.wrap ((i:Int)+1)=(i:Int)+1:=IntWalk.i64_in _ ⟨by omega,by omega⟩;have ew:((i:Int)+1).toNat=i+1:=by omega
 have je:(i:Int)+1<=(n:Int)+1:=by omega
 have lH:(0:Int)<=(i:Int)+1:=by omega
 have qC:(i:Int)<=(n:Int)+1:=by omega
 have sZ:i<=n+1:=by omega
 have ZH:(n:Int)+1<=(aa:Int):=by omega
 have hw8:(i:Int)<=(n:Int):=by omega
 have hw9:i<=n:=by omega
 clear h hv ny qQ ot hb pD su hold Sl W9 hR hG Xa jE hG2;go_enter func326,ntmps326;go_wp2_with(first
  |(at_builtin;refine Lib.wpList_append_run _ rfl (.tmp 34) (.tmp 39) 182 3 rfl _ _ rfl rfl _ _ (hrz _) ?_)
  |(refine kP rfl (.tmp 43) (.tmp 44) 182 182 rfl 186 5 underlying182 jh w.heap.size (i*5) (n+1-i) (aa-i) ⟨vb,0,U⟩ 1 1 rfl rfl (xs.take (i*5)++R) 186 cw.o vs HVN.o V6.o jX.o we.o ?_
    intro w5 kg yA))
 have J8:=kg
 go_region_law((refine mE rfl (.tmp 50) (.tmp 53) 182 182 rfl 186 5 underlying182 jh w.heap.size ((i+1)*5) (n-i) (aa- (i+1)) ⟨g,i*5,U⟩ (n-i) (n-i) (by simp[Act.eval,Act.put]) (by simp[Act.eval,Act.put]) (splice (xs.take (i*5)++R) (i*5) vs) 186 kg.o (xs.drop (i*5)) GN.o (TF.o _ yA.drew) pJ.o qB.o ?_);intro w6 hg6 V7)
 have iU:=O (show Ch (λk=>k=w.heap.size) W1 w6 from(yA.drew).t V7);clear yA V7;go_wp2_with fail;go_ret;have HF:=qR.o;refine⟨G ⟨w.heap.size,0,U⟩,aa,rfl,?_,?_,.inr ⟨w.heap.size,rfl,aN _⟩⟩
 ·have O9:=hg6.o;rw[GO.o]at O9;exact eh (Nat.zero_le _) HF.1 O9 HF.2 ZF ZG.o
 ·exact(cH.o.mono (λ_ h=>h.elim)).trans iU.o (λk hk=>.inr (by omega))
end
section
variable{w:aw}{tb:Nat}{A:Option Addr}{n c:Nat}{l:List cz}{f:Rows}
theorem Dl(h:fu w tb A n c l)(hf:FT l f)(tx aS:Int)(b0:0<=tx)(b1:tx<=1048576)(b2:0<=aS)(b3:aS<=1048576):
 ax av 182 #[X (G ⟨tb,0,U⟩),I J tx,I J aS] w λe w'=>∃l',fu w' tb A n c l'/\FT l' (cg f tx aS).1/\e=ay (aB #[I J (cg f tx aS).2.1,I J (cg f tx aS).2.2])/\Ch (gg tb A n c) w w':=by
 have HR:=O (jO (tb:=tb) tx aS 0 b0 b1 b2 b3 (by decide) (by decide) w);have H:=O h;have HF:=O hf;clear b0 b1 b2 b3;cases kT:f tx with
 |none=>
  have HH:=O (pG h (hf.none_ kT) aS);have HD:=O (show cg f tx aS=(f,0,6) by unfold cg;rw[kT]);clear h hf kT;go_enter func182,ntmps182;go_wp2_with fail;refine HR.o.mono ?_;rintro e w1 ⟨rfl,rfl⟩;dsimp only;go_wp2_with fail;refine HH.o.mono ?_;rintro e w2 ⟨rfl,hN⟩;dsimp only;have HN:=O hN;clear hN HH;go_wp2_with fail;go_ret2;exact⟨l,H.o.aR HN.o,by rw[HD.o];exact HF.o,by rw[HD.o];rfl,HN.o.mono (λ_ h=>h.elim)⟩
 |some r=>
  obtain⟨p,hp,ht⟩:=hf.some_ kT;obtain⟨rb,hA,_⟩:=h.row hp;have HH:=O (pH h hp ht aS hA);have HP:=O hp;have HT:=O ht;have HA:=O hA;have tI:=O kT;clear h hf kT hp ht hA;by_cases h1:r.aS<aS
  ·have HD:=O (show cg f tx aS=(f,0,6) by unfold cg;rw[tI.o];simp[h1]);rw[show fj aS r.aS=1 by unfold fj;rw[if_neg (by omega),if_pos h1]]at HH;clear h1;go_enter func182,ntmps182;go_wp2_with fail;refine HR.o.mono ?_;rintro e w1 ⟨rfl,rfl⟩;dsimp only;go_wp2_with fail;refine HH.o.mono ?_;rintro e w2 ⟨rfl,hN⟩;dsimp only;have HN:=O hN;clear hN HH;go_wp2_with fail;go_ret2;exact⟨l,H.o.aR HN.o,by rw[HD.o];exact HF.o,by rw[HD.o];rfl,HN.o.mono (λ_ h=>h.elim)⟩
  by_cases h2:aS<r.aS
  ·have HD:=O (show cg f tx aS=(f,3,0) by unfold cg;rw[tI.o];simp[h1,h2]);rw[show fj aS r.aS= -1 by unfold fj;rw[if_pos h2]]at HH;clear h1 h2;go_enter func182,ntmps182;go_wp2_with fail;refine HR.o.mono ?_;rintro e w1 ⟨rfl,rfl⟩;dsimp only;go_wp2_with fail;refine HH.o.mono ?_;rintro e w2 ⟨rfl,hN⟩;dsimp only;have HN:=O hN;clear hN HH;go_wp2_with fail;go_ret2;exact⟨l,H.o.aR HN.o,by rw[HD.o];exact HF.o,by rw[HD.o];rfl,HN.o.mono (λ_ h=>h.elim)⟩
  rw[show fj aS r.aS=0 by unfold fj;rw[if_neg h2,if_neg h1]]at HH;by_cases h3:r.state=1
  ·have HD:=O (show cg f tx aS=(cQ f tx (G {r with state:=2}),2,0) by unfold cg;rw[tI.o];simp[h1,h2,h3]);have H3:=O h3;have d1:(r.state==1)=true:=by simpa using h3
   clear h1 h2;go_enter func182,ntmps182;go_wp2_with fail;refine HR.o.mono ?_;rintro e w1 ⟨rfl,rfl⟩;dsimp only;go_wp2_with fail;refine HH.o.mono ?_;rintro e w2 ⟨rfl,hN⟩;dsimp only;have HN:=O hN;have H2:=O (H.o.aR hN);obtain⟨GL,e,hl,eQ,dL,x0,x1,x2,x3,x4⟩:=H2.o.row HP.o;rw[HA.o]at e;injection e with e;injection e with e1 _;subst e1;have hf3:=dL (p*5+3);rw[H3.o]at x3;clear hN HH dL h3 d1;go_wp2_with fail;go_ret2;exact⟨l.set p {r with state:=2},H2.o.bm (r':={r with state:=2}) HP.o rfl HA.o (j:=3) (by decide) rfl,by rw[HD.o, <-HT.o];exact HF.o.bm H2.o.GK HP.o rfl,by rw[HD.o];rfl,yx HA.o HN.o _⟩
  by_cases h4:r.state=2
  ·have HD:=O (show cg f tx aS=(f,2,0) by unfold cg;rw[tI.o];simp[h1,h2,h4]);have H3:=O h4;clear h1 h2 h3;go_enter func182,ntmps182;go_wp2_with fail;refine HR.o.mono ?_;rintro e w1 ⟨rfl,rfl⟩;dsimp only;go_wp2_with fail;refine HH.o.mono ?_;rintro e w2 ⟨rfl,hN⟩;dsimp only;have HN:=O hN;have H2:=O (H.o.aR hN);obtain⟨GL,e,hl,eQ,dL,x0,x1,x2,x3,x4⟩:=H2.o.row HP.o;rw[HA.o]at e;injection e with e;injection e with e1 _;subst e1;rw[H3.o]at x3;clear hN HH dL h4;go_wp2_with fail;go_ret2;exact⟨l,H2.o,by rw[HD.o];exact HF.o,by rw[HD.o];rfl,HN.o.mono (λ_ h=>h.elim)⟩
  ·have HD:=O (show cg f tx aS=(f,3,0) by unfold cg;rw[tI.o];simp[h1,h2,h3,h4]);have d1:(r.state==1)=false:=by simpa using h3
   have d2:(r.state==2)=false:=by simpa using h4
   clear h1 h2 h3 h4;go_enter func182,ntmps182;go_wp2_with fail;refine HR.o.mono ?_;rintro e w1 ⟨rfl,rfl⟩;dsimp only;go_wp2_with fail;refine HH.o.mono ?_;rintro e w2 ⟨rfl,hN⟩;dsimp only;have HN:=O hN;have H2:=O (H.o.aR hN);obtain⟨GL,e,hl,eQ,dL,x0,x1,x2,x3,x4⟩:=H2.o.row HP.o;rw[HA.o]at e;injection e with e;injection e with e1 _;subst e1;clear hN HH dL;go_wp2_with fail;go_ret2;exact⟨l,H2.o,by rw[HD.o];exact HF.o,by rw[HD.o];rfl,HN.o.mono (λ_ h=>h.elim)⟩
theorem J9(h:fu w tb A n c l)(hf:FT l f)(tx aS now:Int)(b0:0<=tx)(b1:tx<=1048576)(b2:0<=aS)(b3:aS<=1048576)(b4:0<=now)(b5:now<=1099511627776):
 ax av 184 #[X (G ⟨tb,0,U⟩),I J tx,I J aS,I J now] w λe w'=>∃l',fu w' tb A n c l'/\FT l' (eE f tx aS now).1/\e=ay (aB #[I J (eE f tx aS now).2.1,I J (eE f tx aS now).2.2])/\Ch (gg tb A n c) w w':=by
 have HR:=O (jO (tb:=tb) tx aS now b0 b1 b2 b3 b4 b5 w);have H:=O h;have HF:=O hf;clear b0 b1 b2 b3 b4 b5;cases kT:f tx with
 |none=>
  have HH:=O (pG h (hf.none_ kT) aS);have HD:=O (show eE f tx aS now=(f,0,6) by unfold eE;rw[kT]);clear h hf kT;go_enter func184,ntmps184;go_wp2_with fail;refine HR.o.mono ?_;rintro e w1 ⟨rfl,rfl⟩;dsimp only;go_wp2_with fail;refine HH.o.mono ?_;rintro e w2 ⟨rfl,hN⟩;dsimp only;have HN:=O hN;clear hN HH;go_wp2_with fail;go_ret2;exact⟨l,H.o.aR HN.o,by rw[HD.o];exact HF.o,by rw[HD.o];rfl,HN.o.mono (λ_ h=>h.elim)⟩
 |some r=>
  obtain⟨p,hp,ht⟩:=hf.some_ kT;obtain⟨rb,hA,_⟩:=h.row hp;have HH:=O (pH h hp ht aS hA);have HP:=O hp;have HT:=O ht;have HA:=O hA;have tI:=O kT;clear h hf kT hp ht hA;by_cases h1:r.aS<aS
  ·have HD:=O (show eE f tx aS now=(f,0,6) by unfold eE;rw[tI.o];simp[h1]);rw[show fj aS r.aS=1 by unfold fj;rw[if_neg (by omega),if_pos h1]]at HH;clear h1;go_enter func184,ntmps184;go_wp2_with fail;refine HR.o.mono ?_;rintro e w1 ⟨rfl,rfl⟩;dsimp only;go_wp2_with fail;refine HH.o.mono ?_;rintro e w2 ⟨rfl,hN⟩;dsimp only;have HN:=O hN;clear hN HH;go_wp2_with fail;go_ret2;exact⟨l,H.o.aR HN.o,by rw[HD.o];exact HF.o,by rw[HD.o];rfl,HN.o.mono (λ_ h=>h.elim)⟩
  by_cases h2:aS<r.aS
  ·have HD:=O (show eE f tx aS now=(f,3,0) by unfold eE;rw[tI.o];simp[h1,h2]);rw[show fj aS r.aS= -1 by unfold fj;rw[if_pos h2]]at HH;clear h1 h2;go_enter func184,ntmps184;go_wp2_with fail;refine HR.o.mono ?_;rintro e w1 ⟨rfl,rfl⟩;dsimp only;go_wp2_with fail;refine HH.o.mono ?_;rintro e w2 ⟨rfl,hN⟩;dsimp only;have HN:=O hN;clear hN HH;go_wp2_with fail;go_ret2;exact⟨l,H.o.aR HN.o,by rw[HD.o];exact HF.o,by rw[HD.o];rfl,HN.o.mono (λ_ h=>h.elim)⟩
  rw[show fj aS r.aS=0 by unfold fj;rw[if_neg h2,if_neg h1]]at HH;by_cases h3:r.state=1
  ·have H3:=O h3;have d1:(r.state==1)=true:=by simpa using h3
   by_cases hm:now<=r.heard
   ·have HD:=O (show eE f tx aS now=(cQ f tx (G {r with heard:=r.heard}),1,0) by unfold eE;rw[tI.o];dsimp only;rw[if_neg h1,if_neg h2,if_pos h3,Int.max_eq_left hm];exact Prod.ext rfl (Prod.ext h3 rfl));clear h1 h2;go_enter func184,ntmps184;go_wp2_with fail;refine HR.o.mono ?_;rintro e w1 ⟨rfl,rfl⟩;dsimp only;go_wp2_with fail;refine HH.o.mono ?_;rintro e w2 ⟨rfl,hN⟩;dsimp only;have HN:=O hN;have H2:=O (H.o.aR hN);obtain⟨GL,e,hl,eQ,dL,x0,x1,x2,x3,x4⟩:=H2.o.row HP.o;rw[HA.o]at e;injection e with e;injection e with e1 _;subst e1;have hf4:=dL (p*5+4);rw[H3.o]at x3;clear hN HH dL h3 d1;go_wp2_with fail;go_ret2;exact⟨l.set p {r with heard:=r.heard},H2.o.bm (r':={r with heard:=r.heard}) HP.o rfl HA.o (j:=4) (by decide) rfl,by rw[HD.o, <-HT.o];exact HF.o.bm H2.o.GK HP.o rfl,by rw[HD.o];rfl,yx HA.o HN.o _⟩
   ·have HD:=O (show eE f tx aS now=(cQ f tx (G {r with heard:=now}),1,0) by unfold eE;rw[tI.o];dsimp only;rw[if_neg h1,if_neg h2,if_pos h3,Int.max_eq_right (show r.heard<=now by omega)];exact Prod.ext rfl (Prod.ext h3 rfl));clear h1 h2;go_enter func184,ntmps184;go_wp2_with fail;refine HR.o.mono ?_;rintro e w1 ⟨rfl,rfl⟩;dsimp only;go_wp2_with fail;refine HH.o.mono ?_;rintro e w2 ⟨rfl,hN⟩;dsimp only;have HN:=O hN;have H2:=O (H.o.aR hN);obtain⟨GL,e,hl,eQ,dL,x0,x1,x2,x3,x4⟩:=H2.o.row HP.o;rw[HA.o]at e;injection e with e;injection e with e1 _;subst e1;have hf4:=dL (p*5+4);rw[H3.o]at x3;clear hN HH dL h3 d1;go_wp2_with fail;go_ret2;exact⟨l.set p {r with heard:=now},H2.o.bm (r':={r with heard:=now}) HP.o rfl HA.o (j:=4) (by decide) rfl,by rw[HD.o, <-HT.o];exact HF.o.bm H2.o.GK HP.o rfl,by rw[HD.o];rfl,yx HA.o HN.o _⟩
  ·have HD:=O (show eE f tx aS now=(f,r.state,0) by unfold eE;rw[tI.o];simp[h1,h2,h3]);have d1:(r.state==1)=false:=by simpa using h3
   clear h1 h2 h3;go_enter func184,ntmps184;go_wp2_with fail;refine HR.o.mono ?_;rintro e w1 ⟨rfl,rfl⟩;dsimp only;go_wp2_with fail;refine HH.o.mono ?_;rintro e w2 ⟨rfl,hN⟩;dsimp only;have HN:=O hN;have H2:=O (H.o.aR hN);obtain⟨GL,e,hl,eQ,dL,x0,x1,x2,x3,x4⟩:=H2.o.row HP.o;rw[HA.o]at e;injection e with e;injection e with e1 _;subst e1;clear hN HH dL;go_wp2_with fail;go_ret2;exact⟨l,H2.o,by rw[HD.o];exact HF.o,by rw[HD.o];rfl,HN.o.mono (λ_ h=>h.elim)⟩
end
theorem ui(l:List cz): ∀u∈dY l,u.oneCell'=true:=by
 intro u hu;unfold dY at hu;obtain⟨r,_,hr⟩:=List.mem_flatMap.1 hu;simp only[iG,List.mem_cons,List.not_mem_nil,or_false]at hr;rcases hr with rfl|rfl|rfl|rfl|rfl<;>rfl
theorem Dm(r:cz): ∀u∈iG r,u.oneCell'=true:=λu hu=>ui [r] u (by simpa [dY]using hu)
theorem Dn{w:aw}{A:Option Addr}{n c i vb:Nat}{xs vs:List Value}(h:w.ownsRow 0 186 5 (T A n c) n xs)(ot: ∀u∈xs,u.oneCell'=true)(hn:n<=1000)(hi:i<=n)(hv:aX w vb 186 vs.toArray)(ny:vs.length=5)
 (qQ: ∀u∈vs,u.oneCell'=true) (eQ:(T A n c).ownBlock≠G vb):ax av 326 #[T A n c,I J i,T (G ⟨vb,0,U⟩) 1 1] w (J7 w (T A n c) n i xs vs):=by
 have uj:(A=U/\n=0/\c=0)\/∃g,A=G ⟨g,0,U⟩:=by
  rcases h.2 with⟨e,h0⟩|⟨g,cap,cur,e,_⟩
  ·injection e with e1 e2 e3;exact .inl ⟨e1,e2,e3⟩
  ·injection e with e1 e2 e3;exact .inr ⟨g,e1⟩
 rcases uj with⟨rfl,rfl,rfl⟩|⟨g,rfl⟩
 ·obtain rfl:i=0:=by omega
  have hx:xs=[]:=List.eq_nil_of_length_eq_zero (by simpa using h.1);subst hx;exact insert_nil hv ny qQ
 ·obtain⟨Z,_,_,tD,_⟩:=cV h;by_cases e:i=n
  ·subst e;exact Di h hn hv ny qQ
  ·by_cases e2:n=c
   ·subst e2;exact Aq h ot hn (by omega) hv ny qQ
   ·exact yy h ot hn (by omega) (by omega) hv ny qQ (λe=>eQ (by subst e;rfl))
def yB(l:List cz)(p:Nat)(r:cz):List cz:=l.take p++(r::l.drop p)
theorem GP(l:List cz): ∀p,(dY l).take (p*5)=dY (l.take p):=by
 induction l with
 |nil=>intro p;simp[dY]
 |cons a t ih=>
  intro p;cases p with
  |zero=>simp[dY]
  |succ p=>
   have:dY (a::t)=iG a++dY t:=by simp[dY]
   rw[this,List.take_append,show(iG a).length=5 from rfl,show(p+1)*5-5=p*5 by omega,ih p,List.take_of_length_le (by show 5<=(p+1)*5;omega)];simp[dY]
theorem GQ(l:List cz): ∀p,(dY l).drop (p*5)=dY (l.drop p):=by
 induction l with
 |nil=>intro p;simp[dY]
 |cons a t ih=>
  intro p;cases p with
  |zero=>simp[dY]
  |succ p=>
   have:dY (a::t)=iG a++dY t:=by simp[dY]
   rw[this,List.drop_append,show(iG a).length=5 from rfl,show(p+1)*5-5=p*5 by omega,ih p,List.drop_of_length_le (by show 5<=(p+1)*5;omega)];simp
theorem Ka(l:List cz)(p:Nat)(r:cz):(dY l).take (p*5)++(iG r++(dY l).drop (p*5))=dY (yB l p r):=by
 rw[GP,GQ];simp[yB,dY]
theorem yC{l:List cz}{p:Nat}{r s:cz}:s∈yB l p r↔s=r\/s∈l:=by
 unfold yB;rw[List.mem_append,List.mem_cons]
 constructor
 ·rintro(h|h|h)
  ·exact .inr (List.mem_of_mem_take h)
  ·exact .inl h
  ·exact .inr (List.mem_of_mem_drop h)
 ·rintro(h|h)
  ·exact .inr (.inl h)
  ·rw[<-List.take_append_drop p l,List.mem_append]at h;rcases h with h|h
   ·exact .inl h
   ·exact .inr (.inr h)
theorem Kb{l:List cz}(hs:oq l){p:Nat}{r:cz}(hp:J5 l r.tx p)(hn: ∀s∈l,s.tx≠r.tx):oq (yB l p r):=by
 have hlt: ∀s∈l.take p,s.tx<r.tx:=λs Ar=>by
  obtain⟨i,hi⟩:=List.mem_iff_getElem?.1 Ar;rw[List.getElem?_take]at hi;split at hi
  ·rename_i h;exact hp.lo i s h hi
  ·cases hi
 have hgt: ∀s∈l.drop p,r.tx<s.tx:=λs Ar=>by
  obtain⟨i,hi⟩:=List.mem_iff_getElem?.1 Ar;rw[List.getElem?_drop]at hi;have h1:=hp.hi (p+i) s (by omega) hi;have h2:=hn s (bS hi);omega
 have hpw:(l.take p++l.drop p).Pairwise λa b=>a.tx<b.tx:=by rw[List.take_append_drop];exact hs
 obtain⟨h1,h2,h3⟩:=List.pairwise_append.1 hpw;refine List.pairwise_append.2 ⟨h1,List.pairwise_cons.2 ⟨λs Ar=>hgt s Ar,h2⟩,λa ha b hb=>?_⟩;rcases List.mem_cons.1 hb with e|hb
 ·subst e;exact hlt a ha
 ·exact h3 a ha b hb
theorem GR{l:List cz}{f:Rows}(h1: ∀r∈l,f r.tx=G r)(h2: ∀x r,f x=G r->r.tx=x/\r∈l):FT l f:=⟨λp r hp=>h1 r (bS hp),h2⟩
theorem TH{l:List cz}{f:Rows}(h:FT l f){p:Nat}{r:cz}(hn: ∀s∈l,s.tx≠r.tx):FT (yB l p r) (cQ f r.tx (G r)):=by
 refine GR (λs hs=>?_) (λx s hx=>?_)
 ·rcases yC.1 hs with e|hs
  ·subst e;exact bD _ _ _
  ·rw[bP _ _ (hn s hs)];obtain⟨q,hq⟩:=List.mem_iff_getElem?.1 hs;exact h.yes q s hq
 ·by_cases e:x=r.tx
  ·subst e;rw[bD]at hx;injection hx with hx;subst hx;exact⟨rfl,yC.2 (.inl rfl)⟩
  ·rw[bP _ _ e]at hx;obtain⟨g1,g2⟩:=h.no x s hx;exact⟨g1,yC.2 (.inr g2)⟩
theorem Pb{l:List cz}{p:Nat}{r:cz}:(yB l p r).length=l.length+1:=by
 unfold yB;rw[aL,List.length_cons,List.length_take,List.length_drop];omega
section
variable{w:aw}{tb:Nat}{A:Option Addr}{n c:Nat}{l:List cz}{f:Rows}
def s8(w:aw)(tb:Nat)(A:Option Addr)(n c:Nat)(g:Rows)(st code:Int)(e:Ending)(w':aw):Prop:=
 ∃A' n' c' l',fu w' tb A' n' c' l'/\FT l' g/\e=ay (aB #[I J st,I J code])/\Sub (gg tb A n c) (gg tb A' n' c') w w'
theorem Pc(h:fu w tb A n c l)(hf:FT l f)(hn:n<1000)(r:cz)(hx:f r.tx=U):
 ax av 249 #[X (G ⟨tb,0,U⟩),aC #[I J r.tx,I J r.aS,I J r.aY,I J r.state,I J r.heard]] w (s8 w tb A n c (cQ f r.tx (G r)) r.state 0):=by
 have mr:=hf.none_ hx;have gI:=O (show M w (w.alloc (az #[I J r.tx,I J r.aS,I J r.aY,I J r.state,I J r.heard] 186))from(Ch.r _ w).alloc _);have Ab:=O (aX.new w 186 #[I J r.tx,I J r.aS,I J r.aY,I J r.state,I J r.heard]);have HF:=O (oM (h.aR gI.o) mr);have H:=O h;have tJ:=O mr;have Om:=O hf;have jW:(n:Int)<1000:=by omega
 clear h hf hx mr;go_enter func249,ntmps249;go_wp2_with fail;refine HF.o.mono ?_;rintro e w2 ⟨p,hp,rfl,hN⟩;dsimp only;have HP:=O hp;have bJ:=O (gI.o.t hN);have H2:=O (H.o.aR bJ.o);have bH:=O (Ab.o.ch hN (λh=>h));have y0:=H2.o.aW.c 0;have yl:=H2.o.aW.lt;have yf:=H2.o.aW.frozen 0;obtain⟨rk,iZ⟩:=bG (w.heap.size);have yD:=O iZ;rw[iZ]at bH;have⟨z0,z1,z2,z3,z4⟩:=iP bH.o;have zl:=bH.o.lt;clear hp hN HF;have qa3:=O (λ(w':aw) (hc:M w2 w') (hb:aX w' w2.heap.size 186 (iG r).toArray)=>Dn (c:=c) (i:=p) (bg H2.o.own hc (λ_ _ h=>h)) (ui l) (by omega) (by have:=HP.o.le;have:=H2.o.len;omega) hb rfl (Dm r) (λe=>by
  have:=(H2.o.own.lt _ e).2;omega))
 have HK:=O (λ(w' w4:aw) (hc:M w2 w') (wg:Ch (λg=>(T A n c).ownBlock=G g) w' w4)=>(show aX w4 tb 184 #[T A n c]from(H2.o.aW.ch hc (λh=>h)).ch wg (aV H2.o.own H2.o.aW (by decide))));have sw:=O (λ(w' w4:aw) (hc:M w2 w') (wg:Ch (λg=>(T A n c).ownBlock=G g) w' w4)=>(show aX w4 rk 186 #[I J r.tx,I J r.aS,I J r.aY,I J r.state,I J r.heard]from(bH.o.ch hc (λh=>h)).ch wg (λe=>by
  have:=(H.o.own.lt _ e).2;have:=yD.o;omega)))
 have Pd:=O (λ(w' w4:aw) (hc:M w2 w') (wg:Ch (λg=>(T A n c).ownBlock=G g) w' w4)=>(show Ch (λg=>(T A n c).ownBlock=G g) w2 w4 from(hc.mono (λ_ h=>h.elim)).t wg));have HAH:=O (λ(w':aw) (v:Value) (hc:M w2 w') (ha:v.ownBlock=(T A n c).ownBlock\/∃g,v.ownBlock=G g/\w'.heap.size<=g)=>(show∀g,v.ownBlock=G g->(T A n c).ownBlock=G g\/w2.heap.size<=g from λg hg=>by
  rcases ha with e|⟨g',e,hl⟩
  ·exact .inl (by rw[<-e];exact hg)
  ·rw[hg]at e;injection e with e;have:=hc.size;exact .inr (by omega)))
 have Dp: ¬tb=rk:=λe=>by
  subst e;exact aX.lF H2.o.aW bH.o (by decide) rfl
 have Xb: ¬rk=tb:=λe=>Dp e.symm;go_wp2_with fail;simp only[iZ];clear iZ yf
 go_region_law((go_simp;go_at_call 326;(refine(qa3.o _ (by first|exact((Ch.r _ w2).drew).alloc _|exact((Ch.r _ w2).alloc _).drew) (by first|exact aX.new _ _ _|exact(aX.new _ _ _).drew)).mono ?_);rintro e w4 ⟨A4,c4,rfl,ho4,wg,ha4⟩;have iq:=O (HK.o _ w4 (by first|exact((Ch.r _ w2).drew).alloc _|exact((Ch.r _ w2).alloc _).drew) wg);have k0:=iq.o.c 0;have kl:=iq.o.lt;have kf:=iq.o.frozen 0;have On:=O (sw.o _ w4 (by first|exact((Ch.r _ w2).drew).alloc _|exact((Ch.r _ w2).alloc _).drew) wg);have m3:=On.o.c 3;have ml:=On.o.lt;have qD:=O ho4;have cK:=O (Pd.o _ w4 (by first|exact((Ch.r _ w2).drew).alloc _|exact((Ch.r _ w2).alloc _).drew) wg);have Fa:=O (HAH.o _ _ (by first|exact((Ch.r _ w2).drew).alloc _|exact((Ch.r _ w2).alloc _).drew) ha4);clear ho4 wg ha4;dsimp only))
 all_goals
  go_wp2_with fail;go_ret2;refine⟨A4,n+1,c4,yB l p r,⟨iq.o.bm 0 _,?_,Kb H2.o.GK HP.o tJ.o,by rw[Pb,H2.o.len],by omega⟩,TH Om.o tJ.o,rfl,?_,?_⟩
  ·rw[<-Ka];exact fi qD.o (aV qD.o iq.o (by decide)) _
  ·have h1:Ch (gg tb A n c) w w4:=(bJ.o.mono (λ_ h=>h.elim)).t (cK.o.mono (λk hk=>.inr hk));exact h1.setCell (p:=⟨tb,0,U⟩) (.inl (.inl rfl)) _
  ·intro g hg;rcases hg with e|e
   ·exact .inl (.inl e)
   ·rcases Fa.o g e with e|e
    ·exact .inl (.inr e)
    ·exact .inr (aO bJ.o.size e)
end
section
variable{w:aw}{tb:Nat}{A:Option Addr}{n c:Nat}{l:List cz}{f:Rows}
def kU(w:aw)(rb k:Nat)(r:cz):aw:=
 ((((w.setCell ⟨rb,k,U⟩ (I J r.tx)).setCell ⟨rb,k+1,U⟩ (I J r.aS)).setCell ⟨rb,k+2,U⟩ (I J r.aY)).setCell ⟨rb,k+3,U⟩ (I J r.state)).setCell ⟨rb,k+4,U⟩ (I J r.heard)
theorem fu.kU(h:fu w tb A n c l){p:Nat}{r r':cz}(hp:l[p]?=G r)(ht:r'.tx=r.tx){rb:Nat}(hA:A=G ⟨rb,0,U⟩):fu (kU w rb (p*5) r') tb A n c (l.set p r'):=by
 have De:=bf hp;have e:=λx:cz=>List.getElem?_set_self (l:=l) (a:=x) De;have h0:=h.bm (r':={r with tx:=r'.tx}) hp ht hA (j:=0) (by decide) (u:=I J r'.tx) rfl;have h1:=h0.bm (r':={r with tx:=r'.tx,aS:=r'.aS}) (e _) rfl hA (j:=1) (by decide) (u:=I J r'.aS) rfl;rw[List.set_set]at h1;have h2:=h1.bm (r':={r with tx:=r'.tx,aS:=r'.aS,aY:=r'.aY}) (e _) rfl hA (j:=2) (by decide) (u:=I J r'.aY) rfl;rw[List.set_set]at h2;have h3:=h2.bm (r':={r with tx:=r'.tx,aS:=r'.aS,aY:=r'.aY,state:=r'.state}) (e _) rfl hA (j:=3) (by decide) (u:=I J r'.state) rfl;rw[List.set_set]at h3;have h4:=h3.bm (r':=r') (e _) rfl hA (j:=4) (by decide) (u:=I J r'.heard) rfl;rw[List.set_set]at h4;exact h4
theorem pK(w:aw)(rb k:Nat)(r:cz):Ch (λg=>g=rb) w (kU w rb k r):=
 (((((Ch.r (λg=>g=rb) w).setCell (p:=⟨rb,k,U⟩) (.inl rfl) _).setCell (p:=⟨rb,k+1,U⟩) (.inl rfl) _).setCell (p:=⟨rb,k+2,U⟩) (.inl rfl) _).setCell (p:=⟨rb,k+3,U⟩) (.inl rfl) _).setCell (p:=⟨rb,k+4,U⟩) (.inl rfl) _
theorem Kc(h:fu w tb A n c l)(hf:FT l f)(r o:cz)(hx:f r.tx=G o)(ho:o.state≠3):
 ax av 249 #[X (G ⟨tb,0,U⟩),aC #[I J r.tx,I J r.aS,I J r.aY,I J r.state,I J r.heard]] w (s8 w tb A n c f 0 8):=by
 obtain⟨p,hp,ht⟩:=hf.some_ hx;have gI:=O (show M w (w.alloc (az #[I J r.tx,I J r.aS,I J r.aY,I J r.state,I J r.heard] 186))from(Ch.r _ w).alloc _);have HF:=O (kS (h.aR gI.o) hp ht);have H:=O h;have HP:=O hp;have Om:=O hf;have Df:(p:Int)<(n:Int):=by have:=bf hp;have:=h.len;omega
 have d1:(o.state !=3)=true:=by simpa using ho
 have d2:decide (o.state=3)=false:=by simpa using ho
 have jW:(n:Int)<=1000:=by have:=h.fx;omega
 clear h hf hx hp ht ho;go_enter func249,ntmps249;go_wp2_with fail;refine HF.o.mono ?_;rintro e w2 ⟨rfl,hN⟩;dsimp only;have bJ:=O (gI.o.t hN);have H2:=O (H.o.aR bJ.o);obtain⟨rb,rfl,hl,eQ,dL,x0,x1,x2,x3,x4⟩:=H2.o.row HP.o;have y0:=H2.o.aW.c 0;have qR:=O (λw' (hc:M w2 w')=>(show s8 w tb (G ⟨rb,0,U⟩) n c f 0 8 (ay (aB #[I J 0,I J 8])) w' from⟨_,n,c,l,H2.o.aR hc,Om.o,rfl,Sub.bj _ (bJ.o.t hc)⟩));have oN:=O (show M w2 (w2.alloc (az #[I J o.tx,I J o.aS,I J o.aY,I J o.state,I J o.heard] 186))from(Ch.r _ w2).alloc _);clear hN HF dL;go_wp2_with fail;go_ret2;exact qR.o _ oN.o
theorem Kd(h:fu w tb A n c l)(hf:FT l f)(r o:cz)(hx:f r.tx=G o)(ho:o.state=3)(hs:0<o.aY):
 ax av 249 #[X (G ⟨tb,0,U⟩),aC #[I J r.tx,I J r.aS,I J r.aY,I J r.state,I J r.heard]] w (s8 w tb A n c (cQ f r.tx (G {r with aY:=o.aY})) r.state 0):=by
 obtain⟨p,hp,ht⟩:=hf.some_ hx;have gI:=O (show M w (w.alloc (az #[I J r.tx,I J r.aS,I J r.aY,I J r.state,I J r.heard] 186))from(Ch.r _ w).alloc _);have Ab:=O (aX.new w 186 #[I J r.tx,I J r.aS,I J r.aY,I J r.state,I J r.heard]);have HF:=O (kS (h.aR gI.o) hp ht);have H:=O h;have HP:=O hp;have HT:=O ht;have Om:=O hf;have Df:(p:Int)<(n:Int):=by have:=bf hp;have:=h.len;omega
 have d3:decide (0<o.aY)=true:=by simpa using hs
 have jW:(n:Int)<=1000:=by have:=h.fx;omega
 have HS:=O ho;clear h hf hx hp ht ho hs;go_enter func249,ntmps249;go_wp2_with fail;refine HF.o.mono ?_;rintro e w2 ⟨rfl,hN⟩;dsimp only;have bJ:=O (gI.o.t hN);have H2:=O (H.o.aR bJ.o);have bH:=O (Ab.o.ch hN (λh=>h));obtain⟨rb,rfl,hl,eQ,dL,x0,x1,x2,x3,x4⟩:=H2.o.row HP.o;rw[HS.o]at x3;have y0:=H2.o.aW.c 0;obtain⟨rk,iZ⟩:=bG (w.heap.size);have yD:=O iZ;rw[iZ]at bH;have⟨z0,z1,z2,z3,z4⟩:=iP bH.o;have zl:=bH.o.lt;have zf:=bH.o.frozen 2;have Dp: ¬rk=rb:=λe=>by
  have:=(H.o.own.lt rb rfl).2;omega
 have Xb: ¬rb=rk:=λe=>Dp e.symm;have yl:=H2.o.aW.lt;have TI: ¬tb=rk:=λe=>by
  subst e;exact aX.lF H2.o.aW bH.o (by decide) rfl
 have hrt: ¬rk=tb:=λe=>TI e.symm;clear hN HF;go_wp2_with fail
 try simp only[iZ]
 have jx:=O (show aX ((w2.setCell ⟨rk,2,U⟩ (I J o.aY)).alloc (az #[I J o.tx,I J o.aS,I J o.aY,I J 3,I J o.heard] 186)) rk 186 #[I J r.tx,I J r.aS,I J o.aY,I J r.state,I J r.heard]from(bH.o.bm 2 (I J o.aY)).alloc _);have gT:=O (show Ch (λg=>g=rk) w2 ((w2.setCell ⟨rk,2,U⟩ (I J o.aY)).alloc (az #[I J o.tx,I J o.aS,I J o.aY,I J 3,I J o.heard] 186))from((Ch.r (λg=>g=rk) w2).setCell (p:=⟨rk,2,U⟩) (.inl rfl) _).alloc _);generalize((w2.setCell ⟨rk,2,U⟩ (I J o.aY)).alloc (az #[I J o.tx,I J o.aS,I J o.aY,I J 3,I J o.heard] 186))=w3 at *;have H3:=O (H2.o.ch gT.o (λg hg e=>by
  rcases hg with k|k
  ·omega
  ·simp[Value.ownBlock]at k;omega))
 clear x0 x1 x2 x3 x4 y0 yl z0 z1 z2 z3 z4 zl zf hl dL;obtain⟨GL,e,hl,_,dL,x0,x1,x2,x3,x4⟩:=H3.o.row HP.o;injection e with e;injection e with e1 _;subst e1;have y0:=H3.o.aW.c 0;have yl:=H3.o.aW.lt;have⟨z0,z1,z2,z3,z4⟩:=iP jx.o;have zl:=jx.o.lt;have f0:=dL (p*5);have f1:=dL (p*5+1);have f2:=dL (p*5+2);have f3:=dL (p*5+3);have f4:=dL (p*5+4);clear dL iZ
 go_region
 have HX:=O (show kU w3 rb (p*5) {r with aY:=o.aY}=((((w3.setCell ⟨rb,p*5,U⟩ (I J r.tx)).setCell ⟨rb,p*5+1,U⟩ (I J r.aS)).setCell ⟨rb,p*5+2,U⟩ (I J o.aY)).setCell ⟨rb,p*5+3,U⟩ (I J r.state)).setCell ⟨rb,p*5+4,U⟩ (I J r.heard)from rfl);rw[<-HX.o];have H5:=O ((H3.o.kU (r':={r with aY:=o.aY}) HP.o HT.o.symm rfl).aR ((Ch.r _ _).drew));have dZ:=O (show Ch (λg=>g=rb) w3 (kU w3 rb (p*5) {r with aY:=o.aY}).drew from(pK w3 rb (p*5) _).drew);have s9:=O (jx.o.ch dZ.o (λe=>Dp e));have TJ:=O (show FT (l.set p {r with aY:=o.aY}) (cQ f r.tx (G {r with aY:=o.aY}))from by
  have:=Om.o.bm H.o.GK HP.o (r':={r with aY:=o.aY}) HT.o.symm;rw[HT.o]at this;exact this)
 generalize(kU w3 rb (p*5) {r with aY:=o.aY}).drew=w5 at *;have m3:=s9.o.c 3;have ml:=s9.o.lt;clear x0 x1 x2 x3 x4 y0 yl z0 z1 z2 z3 z4 zl f0 f1 f2 f3 f4 HX;go_wp2_with fail;go_ret2;refine⟨_,n,c,_,H5.o,TJ.o,rfl,?_,λg hg=>.inl hg⟩;have h1:Ch (gg tb (G ⟨rb,0,U⟩) n c) w w2:=bJ.o.mono (λ_ h=>h.elim);have h2:Ch (λg=>g=rk) w w3:=(bJ.o.mono (λ_ h=>h.elim)).t gT.o;refine⟨dZ.o.os.trans h2.os,dZ.o.tape.trans h2.tape,dZ.o.output.trans h2.output,aO h2.size dZ.o.size,λk hk ZI=>?_⟩;rw[dZ.o.block k (aP hk h2.size) (λe=>ZI (.inr (by rw[e];rfl))),h2.block k hk (λe=>by have:=yD.o;omega)]
theorem GS(h:fu w tb A n c l)(hf:FT l f)(r o:cz)(hx:f r.tx=G o)(ho:o.state=3)(hs: ¬0<o.aY):
 ax av 249 #[X (G ⟨tb,0,U⟩),aC #[I J r.tx,I J r.aS,I J r.aY,I J r.state,I J r.heard]] w (s8 w tb A n c (cQ f r.tx (G r)) r.state 0):=by
 obtain⟨p,hp,ht⟩:=hf.some_ hx;have gI:=O (show M w (w.alloc (az #[I J r.tx,I J r.aS,I J r.aY,I J r.state,I J r.heard] 186))from(Ch.r _ w).alloc _);have Ab:=O (aX.new w 186 #[I J r.tx,I J r.aS,I J r.aY,I J r.state,I J r.heard]);have HF:=O (kS (h.aR gI.o) hp ht);have H:=O h;have HP:=O hp;have HT:=O ht;have Om:=O hf;have Df:(p:Int)<(n:Int):=by have:=bf hp;have:=h.len;omega
 have d3:decide (0<o.aY)=false:=by simpa using hs
 have jW:(n:Int)<=1000:=by have:=h.fx;omega
 have HS:=O ho;clear h hf hx hp ht ho hs;go_enter func249,ntmps249;go_wp2_with fail;refine HF.o.mono ?_;rintro e w2 ⟨rfl,hN⟩;dsimp only;have bJ:=O (gI.o.t hN);have H2:=O (H.o.aR bJ.o);have bH:=O (Ab.o.ch hN (λh=>h));obtain⟨rb,rfl,hl,eQ,dL,x0,x1,x2,x3,x4⟩:=H2.o.row HP.o;rw[HS.o]at x3;have y0:=H2.o.aW.c 0;obtain⟨rk,iZ⟩:=bG (w.heap.size);have yD:=O iZ;rw[iZ]at bH;have⟨z0,z1,z2,z3,z4⟩:=iP bH.o;have zl:=bH.o.lt;have Dp: ¬rk=rb:=λe=>by
  have:=(H.o.own.lt rb rfl).2;omega
 have Xb: ¬rb=rk:=λe=>Dp e.symm;have yl:=H2.o.aW.lt;have TI: ¬tb=rk:=λe=>by
  subst e;exact aX.lF H2.o.aW bH.o (by decide) rfl
 have hrt: ¬rk=tb:=λe=>TI e.symm;clear hN HF;go_wp2_with fail
 try simp only[iZ]
 have jx:=O (show aX (w2.alloc (az #[I J o.tx,I J o.aS,I J o.aY,I J 3,I J o.heard] 186)) rk 186 #[I J r.tx,I J r.aS,I J r.aY,I J r.state,I J r.heard]from bH.o.alloc _);have gT:=O (show Ch (λg=>g=rk) w2 (w2.alloc (az #[I J o.tx,I J o.aS,I J o.aY,I J 3,I J o.heard] 186))from(Ch.r (λg=>g=rk) w2).alloc _);generalize(w2.alloc (az #[I J o.tx,I J o.aS,I J o.aY,I J 3,I J o.heard] 186))=w3 at *;have H3:=O (H2.o.ch gT.o (λg hg e=>by
  rcases hg with k|k
  ·omega
  ·simp[Value.ownBlock]at k;omega))
 clear x0 x1 x2 x3 x4 y0 yl z0 z1 z2 z3 z4 zl hl dL;obtain⟨GL,e,hl,_,dL,x0,x1,x2,x3,x4⟩:=H3.o.row HP.o;injection e with e;injection e with e1 _;subst e1;have y0:=H3.o.aW.c 0;have yl:=H3.o.aW.lt;have⟨z0,z1,z2,z3,z4⟩:=iP jx.o;have zl:=jx.o.lt;have f0:=dL (p*5);have f1:=dL (p*5+1);have f2:=dL (p*5+2);have f3:=dL (p*5+3);have f4:=dL (p*5+4);clear dL iZ
 go_region
 have HX:=O (show kU w3 rb (p*5) r=((((w3.setCell ⟨rb,p*5,U⟩ (I J r.tx)).setCell ⟨rb,p*5+1,U⟩ (I J r.aS)).setCell ⟨rb,p*5+2,U⟩ (I J r.aY)).setCell ⟨rb,p*5+3,U⟩ (I J r.state)).setCell ⟨rb,p*5+4,U⟩ (I J r.heard)from rfl);rw[<-HX.o];have H5:=O ((H3.o.kU (r':=r) HP.o HT.o.symm rfl).aR ((Ch.r _ _).drew));have dZ:=O (show Ch (λg=>g=rb) w3 (kU w3 rb (p*5) r).drew from(pK w3 rb (p*5) _).drew);have s9:=O (jx.o.ch dZ.o (λe=>Dp e));have TJ:=O (show FT (l.set p r) (cQ f r.tx (G r))from by
  have:=Om.o.bm H.o.GK HP.o (r':=r) HT.o.symm;rw[HT.o]at this;exact this)
 generalize(kU w3 rb (p*5) r).drew=w5 at *;have m3:=s9.o.c 3;have ml:=s9.o.lt;clear x0 x1 x2 x3 x4 y0 yl z0 z1 z2 z3 z4 zl f0 f1 f2 f3 f4 HX;go_wp2_with fail;go_ret2;refine⟨_,n,c,_,H5.o,TJ.o,rfl,?_,λg hg=>.inl hg⟩;have h1:Ch (gg tb (G ⟨rb,0,U⟩) n c) w w2:=bJ.o.mono (λ_ h=>h.elim);have h2:Ch (λg=>g=rk) w w3:=(bJ.o.mono (λ_ h=>h.elim)).t gT.o;refine⟨dZ.o.os.trans h2.os,dZ.o.tape.trans h2.tape,dZ.o.output.trans h2.output,aO h2.size dZ.o.size,λk hk ZI=>?_⟩;rw[dZ.o.block k (aP hk h2.size) (λe=>ZI (.inr (by rw[e];rfl))),h2.block k hk (λe=>by have:=yD.o;omega)]
theorem nA(h:fu w tb A n c l)(hf:FT l f)(hn:n<1000)(r:cz):
 ax av 249 #[X (G ⟨tb,0,U⟩),aC #[I J r.tx,I J r.aS,I J r.aY,I J r.state,I J r.heard]] w (s8 w tb A n c (putRow f r).1 (putRow f r).2.1 (putRow f r).2.2):=by
 cases hx:f r.tx with
 |none=>
  rw[show putRow f r=(cQ f r.tx (G r),r.state,0) by unfold putRow;rw[hx]];exact Pc h hf hn r hx
 |some o=>
  by_cases ho:o.state=3
  ·by_cases hs:0<o.aY
   ·rw[show putRow f r=(cQ f r.tx (G {r with aY:=o.aY}),r.state,0) by unfold putRow;rw[hx];simp[ho,hs]];exact Kd h hf r o hx ho hs
   ·rw[show putRow f r=(cQ f r.tx (G r),r.state,0) by unfold putRow;rw[hx];simp[ho,hs]];exact GS h hf r o hx ho hs
  ·rw[show putRow f r=(f,0,8) by unfold putRow;rw[hx];simp[ho]];exact Kc h hf r o hx ho
end
section
variable{w:aw}{tb:Nat}{A:Option Addr}{n c:Nat}{l:List cz}{f:Rows}
theorem Ke(h:fu w tb A n c l)(hf:FT l f)(hn:n<1000)(tx aS aY now:Int)(b0:0<=tx)(b1:tx<=1048576)(b2:0<=aS)(b3:aS<=1048576)(b6:1<=aY)(b7:aY<=1099511627776)(b4:0<=now)(b5:now<=1099511627776):
 ax av 181 #[X (G ⟨tb,0,U⟩),I J tx,I J aS,I J aY,I J now] w (s8 w tb A n c (eD f tx aS aY now).1 (eD f tx aS aY now).2.1 (eD f tx aS aY now).2.2):=by
 have HR:=O (jO (tb:=tb) tx aS now b0 b1 b2 b3 b4 b5 w);have H:=O h;have HF:=O hf;have e6:decide (aY<1)=false:=by simp;omega
 have e7:decide (1099511627776<aY)=false:=by simp;omega
 clear b6 b7;clear b0 b1 b2 b3 b4 b5;cases kT:f tx with
 |none=>
  have HH:=O (pG h (hf.none_ kT) aS);have HD:=O (show eD f tx aS aY now=putRow f ⟨tx,aS,aY,1,now⟩ by unfold eD;rw[kT]);clear h hf kT;go_enter func181,ntmps181;go_wp2_with fail;refine HR.o.mono ?_;rintro e w1 ⟨rfl,rfl⟩;dsimp only;go_wp2_with fail;refine HH.o.mono ?_;rintro e w2 ⟨rfl,hN⟩;dsimp only;have HN:=O hN;have pL:=O (nA (H.o.aR hN) HF.o hn ⟨tx,aS,aY,1,now⟩);have HD:=O HD;clear hN HH;go_wp2_with fail;refine pL.o.mono ?_;rintro e w3 ⟨A',n',c',l',hT,Kf,rfl,hS⟩;dsimp only;have Pe:=O hT;have Pf:=O Kf;have pr:=O hS;clear hT Kf hS pL;go_wp2_with fail;go_ret2;exact⟨A',n',c',l',Pe.o,by rw[HD.o.o];exact Pf.o,by rw[HD.o.o];rfl,(Sub.bj _ HN.o).trans pr.o⟩
 |some r=>
  obtain⟨p,hp,ht⟩:=hf.some_ kT;obtain⟨rb,hA,_⟩:=h.row hp;have HH:=O (pH h hp ht aS hA);have HP:=O hp;have HA:=O hA;have tI:=O kT;clear h hf kT hp ht hA;by_cases h1:r.aS<aS
  ·have HD:=O (show eD f tx aS aY now=putRow f ⟨tx,aS,aY,1,now⟩ by unfold eD;rw[tI.o];simp[h1]);rw[show fj aS r.aS=1 by unfold fj;rw[if_neg (by omega),if_pos h1]]at HH;clear h1;go_enter func181,ntmps181;go_wp2_with fail;refine HR.o.mono ?_;rintro e w1 ⟨rfl,rfl⟩;dsimp only;go_wp2_with fail;refine HH.o.mono ?_;rintro e w2 ⟨rfl,hN⟩;dsimp only;have HN:=O hN;have pL:=O (nA (H.o.aR hN) HF.o hn ⟨tx,aS,aY,1,now⟩);have HD:=O HD;clear hN HH;go_wp2_with fail;refine pL.o.mono ?_;rintro e w3 ⟨A',n',c',l',hT,Kf,rfl,hS⟩;dsimp only;have Pe:=O hT;have Pf:=O Kf;have pr:=O hS;clear hT Kf hS pL;go_wp2_with fail;go_ret2;exact⟨A',n',c',l',Pe.o,by rw[HD.o.o];exact Pf.o,by rw[HD.o.o];rfl,(Sub.bj _ HN.o).trans pr.o⟩
  by_cases h2:aS<r.aS
  ·have HD:=O (show eD f tx aS aY now=(f,0,9) by unfold eD;rw[tI.o];simp[h1,h2]);rw[show fj aS r.aS= -1 by unfold fj;rw[if_pos h2]]at HH;clear h1 h2;go_enter func181,ntmps181;go_wp2_with fail;refine HR.o.mono ?_;rintro e w1 ⟨rfl,rfl⟩;dsimp only;go_wp2_with fail;refine HH.o.mono ?_;rintro e w2 ⟨rfl,hN⟩;dsimp only;have HN:=O hN;clear hN HH;go_wp2_with fail;go_ret2;exact⟨A,n,c,l,H.o.aR HN.o,by rw[HD.o];exact HF.o,by rw[HD.o];rfl,Sub.bj _ HN.o⟩
  rw[show fj aS r.aS=0 by unfold fj;rw[if_neg h2,if_neg h1]]at HH;by_cases h3:r.state=3
  ·have HD:=O (show eD f tx aS aY now=(f,0,9) by unfold eD;rw[tI.o];simp[h1,h3]);have H3:=O h3;have d1:(r.state==3)=true:=by simpa using h3
   clear h1 h2;go_enter func181,ntmps181;go_wp2_with fail;refine HR.o.mono ?_;rintro e w1 ⟨rfl,rfl⟩;dsimp only;go_wp2_with fail;refine HH.o.mono ?_;rintro e w2 ⟨rfl,hN⟩;dsimp only;have HN:=O hN;have H2:=O (H.o.aR hN);obtain⟨GL,e,hl,eQ,dL,x0,x1,x2,x3,x4⟩:=H2.o.row HP.o;rw[HA.o]at e;injection e with e;injection e with e1 _;subst e1;rw[H3.o]at x3;clear hN HH dL h3 d1;go_wp2_with fail;go_ret2;exact⟨A,n,c,l,H2.o,by rw[HD.o];exact HF.o,by rw[HD.o];rfl,Sub.bj _ HN.o⟩
  ·have HD:=O (show eD f tx aS aY now=(f,r.state,0) by unfold eD;rw[tI.o];simp[h1,h2,h3]);have d1:(r.state==3)=false:=by simpa using h3
   clear h1 h2 h3;go_enter func181,ntmps181;go_wp2_with fail;refine HR.o.mono ?_;rintro e w1 ⟨rfl,rfl⟩;dsimp only;go_wp2_with fail;refine HH.o.mono ?_;rintro e w2 ⟨rfl,hN⟩;dsimp only;have HN:=O hN;have H2:=O (H.o.aR hN);obtain⟨GL,e,hl,eQ,dL,x0,x1,x2,x3,x4⟩:=H2.o.row HP.o;rw[HA.o]at e;injection e with e;injection e with e1 _;subst e1;clear hN HH dL;go_wp2_with fail;go_ret2;exact⟨A,n,c,l,H2.o,by rw[HD.o];exact HF.o,by rw[HD.o];rfl,Sub.bj _ HN.o⟩
theorem Kg(h:fu w tb A n c l)(hf:FT l f)(hn:n<1000)(tx aS now:Int)(b0:0<=tx)(b1:tx<=1048576)(b2:0<=aS)(b3:aS<=1048576)(b4:0<=now)(b5:now<=1099511627776):
 ax av 183 #[X (G ⟨tb,0,U⟩),I J tx,I J aS,I J now] w (s8 w tb A n c (dI f tx aS now).1 (dI f tx aS now).2.1 (dI f tx aS now).2.2):=by
 have HR:=O (jO (tb:=tb) tx aS now b0 b1 b2 b3 b4 b5 w);have H:=O h;have HF:=O hf;clear b0 b1 b2 b3 b4 b5;cases kT:f tx with
 |none=>
  have HH:=O (pG h (hf.none_ kT) aS);have HD:=O (show dI f tx aS now=putRow f ⟨tx,aS,0,3,now⟩ by unfold dI;rw[kT]);clear h hf kT;go_enter func183,ntmps183;go_wp2_with fail;refine HR.o.mono ?_;rintro e w1 ⟨rfl,rfl⟩;dsimp only;go_wp2_with fail;refine HH.o.mono ?_;rintro e w2 ⟨rfl,hN⟩;dsimp only;have HN:=O hN;have pL:=O (nA (H.o.aR hN) HF.o hn ⟨tx,aS,0,3,now⟩);have HD:=O HD;clear hN HH;go_wp2_with fail;refine pL.o.mono ?_;rintro e w3 ⟨A',n',c',l',hT,Kf,rfl,hS⟩;dsimp only;have Pe:=O hT;have Pf:=O Kf;have pr:=O hS;clear hT Kf hS pL;go_wp2_with fail;go_ret2;exact⟨A',n',c',l',Pe.o,by rw[HD.o.o];exact Pf.o,by rw[HD.o.o];rfl,(Sub.bj _ HN.o).trans pr.o⟩
 |some r=>
  obtain⟨p,hp,ht⟩:=hf.some_ kT;obtain⟨rb,hA,_⟩:=h.row hp;have HH:=O (pH h hp ht aS hA);have HP:=O hp;have HT:=O ht;have HA:=O hA;have tI:=O kT;clear h hf kT hp ht hA;by_cases h1:r.aS<aS
  ·have HD:=O (show dI f tx aS now=putRow f ⟨tx,aS,0,3,now⟩ by unfold dI;rw[tI.o];simp[h1]);rw[show fj aS r.aS=1 by unfold fj;rw[if_neg (by omega),if_pos h1]]at HH;clear h1;go_enter func183,ntmps183;go_wp2_with fail;refine HR.o.mono ?_;rintro e w1 ⟨rfl,rfl⟩;dsimp only;go_wp2_with fail;refine HH.o.mono ?_;rintro e w2 ⟨rfl,hN⟩;dsimp only;have HN:=O hN;have pL:=O (nA (H.o.aR hN) HF.o hn ⟨tx,aS,0,3,now⟩);have HD:=O HD;clear hN HH;go_wp2_with fail;refine pL.o.mono ?_;rintro e w3 ⟨A',n',c',l',hT,Kf,rfl,hS⟩;dsimp only;have Pe:=O hT;have Pf:=O Kf;have pr:=O hS;clear hT Kf hS pL;go_wp2_with fail;go_ret2;exact⟨A',n',c',l',Pe.o,by rw[HD.o.o];exact Pf.o,by rw[HD.o.o];rfl,(Sub.bj _ HN.o).trans pr.o⟩
  by_cases h2:aS<r.aS
  ·have HD:=O (show dI f tx aS now=(f,3,0) by unfold dI;rw[tI.o];simp[h1,h2]);rw[show fj aS r.aS= -1 by unfold fj;rw[if_pos h2]]at HH;clear h1 h2;go_enter func183,ntmps183;go_wp2_with fail;refine HR.o.mono ?_;rintro e w1 ⟨rfl,rfl⟩;dsimp only;go_wp2_with fail;refine HH.o.mono ?_;rintro e w2 ⟨rfl,hN⟩;dsimp only;have HN:=O hN;clear hN HH;go_wp2_with fail;go_ret2;exact⟨A,n,c,l,H.o.aR HN.o,by rw[HD.o];exact HF.o,by rw[HD.o];rfl,Sub.bj _ HN.o⟩
  rw[show fj aS r.aS=0 by unfold fj;rw[if_neg h2,if_neg h1]]at HH;by_cases h3:r.state=1
  ·have HD:=O (show dI f tx aS now=(cQ f tx (G {r with state:=3}),3,0) by unfold dI;rw[tI.o];simp[h1,h2,h3]);have H3:=O h3;have d1:(r.state==1)=true:=by simpa using h3
   clear h1 h2;go_enter func183,ntmps183;go_wp2_with fail;refine HR.o.mono ?_;rintro e w1 ⟨rfl,rfl⟩;dsimp only;go_wp2_with fail;refine HH.o.mono ?_;rintro e w2 ⟨rfl,hN⟩;dsimp only;have HN:=O hN;have H2:=O (H.o.aR hN);obtain⟨GL,e,hl,eQ,dL,x0,x1,x2,x3,x4⟩:=H2.o.row HP.o;rw[HA.o]at e;injection e with e;injection e with e1 _;subst e1;have hf3:=dL (p*5+3);rw[H3.o]at x3;clear hN HH dL h3 d1;go_wp2_with fail;go_ret2;exact⟨A,n,c,l.set p {r with state:=3},H2.o.bm (r':={r with state:=3}) HP.o rfl HA.o (j:=3) (by decide) rfl,by rw[HD.o, <-HT.o];exact HF.o.bm H2.o.GK HP.o rfl,by rw[HD.o];rfl,⟨yx HA.o HN.o _,λg hg=>.inl hg⟩⟩
  by_cases h4:r.state=3
  ·have HD:=O (show dI f tx aS now=(f,3,0) by unfold dI;rw[tI.o];simp[h1,h2,h4]);have H3:=O h4;clear h1 h2 h3;go_enter func183,ntmps183;go_wp2_with fail;refine HR.o.mono ?_;rintro e w1 ⟨rfl,rfl⟩;dsimp only;go_wp2_with fail;refine HH.o.mono ?_;rintro e w2 ⟨rfl,hN⟩;dsimp only;have HN:=O hN;have H2:=O (H.o.aR hN);obtain⟨GL,e,hl,eQ,dL,x0,x1,x2,x3,x4⟩:=H2.o.row HP.o;rw[HA.o]at e;injection e with e;injection e with e1 _;subst e1;rw[H3.o]at x3;clear hN HH dL h4;go_wp2_with fail;go_ret2;exact⟨A,n,c,l,H2.o,by rw[HD.o];exact HF.o,by rw[HD.o];rfl,Sub.bj _ HN.o⟩
  ·have HD:=O (show dI f tx aS now=(f,2,0) by unfold dI;rw[tI.o];simp[h1,h2,h3,h4]);have d1:(r.state==1)=false:=by simpa using h3
   have d2:(r.state==3)=false:=by simpa using h4
   clear h1 h2 h3 h4;go_enter func183,ntmps183;go_wp2_with fail;refine HR.o.mono ?_;rintro e w1 ⟨rfl,rfl⟩;dsimp only;go_wp2_with fail;refine HH.o.mono ?_;rintro e w2 ⟨rfl,hN⟩;dsimp only;have HN:=O hN;have H2:=O (H.o.aR hN);obtain⟨GL,e,hl,eQ,dL,x0,x1,x2,x3,x4⟩:=H2.o.row HP.o;rw[HA.o]at e;injection e with e;injection e with e1 _;subst e1;clear hN HH dL;go_wp2_with fail;go_ret2;exact⟨A,n,c,l,H2.o,by rw[HD.o];exact HF.o,by rw[HD.o];rfl,Sub.bj _ HN.o⟩
end
section
variable{w:aw}{tb:Nat}{A:Option Addr}{n c:Nat}{l:List cz}{f:Rows}
def qS:cz:=⟨0,0,0,0,0⟩
def uk(r:cz):Value:=aC #[I J r.tx,I J r.aS,I J r.aY,I J r.state,I J r.heard]
theorem pM(w:aw):ax av 58 #[] w λe w'=>e=ay (X (G ⟨w.heap.size,0,U⟩))/\w'=w.alloc (az #[T U 0 0] 184):=by
 go_enter func58,ntmps58;go_wp2_with fail;go_ret;exact⟨rfl,rfl⟩
theorem Pg(h:fu w tb A n c l)(hf:FT l f)(tx:Int):ax av 174 #[X (G ⟨tb,0,U⟩),I J tx] w λe w'=>e=ay (aB #[uk ((f tx).getD qS),Y (f tx).isSome])/\M w w':=by
 have gI:=O (show M w (w.alloc (az #[I J 0,I J 0,I J 0,I J 0,I J 0] 186))from(Ch.r _ w).alloc _);have Ab:=O (aX.new w 186 #[I J 0,I J 0,I J 0,I J 0,I J 0]);cases kT:f tx with
 |none=>
  have HF:=O (oM (h.aR gI.o) (hf.none_ kT));clear h hf kT;go_enter func174,ntmps174;go_wp2_with fail;refine HF.o.mono ?_;rintro e w2 ⟨p,hp,rfl,hN⟩;dsimp only;have bJ:=O (gI.o.t hN);have bH:=O (Ab.o.ch hN (λh=>h));have⟨z0,z1,z2,z3,z4⟩:=iP bH.o;have zl:=bH.o.lt;clear hp hN HF;obtain⟨rk,iZ⟩:=bG (w.heap.size);rw[iZ]at bH z0 z1 z2 z3 z4 zl;have zf:=bH.o.frozen;have f0:=zf 0;have f1:=zf 1;have f2:=zf 2;have f3:=zf 3;have f4:=zf 4;have yD:=O iZ;clear zf;go_wp2_with fail
  try simp only[iZ]
  have HX:=O (show aX (kU w2 rk 0 qS) rk 186 #[I J 0,I J 0,I J 0,I J 0,I J 0]from((((bH.o.bm 0 _).bm 1 _).bm 2 _).bm 3 _).bm 4 _);have HC:=O (pK w2 rk 0 qS);change bodyPost _ _ _ _ _ (kU w2 rk 0 qS);generalize kU w2 rk 0 qS=w5 at *;have⟨g0,g1,g2,g3,g4⟩:=iP HX.o;refine aE (v:=aB #[uk qS,Y false]) (by simp[results,results174,go_sem,g0,g1,g2,g3,g4,uk,qS]) rfl ⟨rfl,?_⟩;exact(bJ.o.mono (λ_ h=>h.elim)).trans HC.o (λk hk=>.inr (by have:=yD.o;omega))
 |some r=>
  obtain⟨p,hp,ht⟩:=hf.some_ kT;have HF:=O (kS (h.aR gI.o) hp ht);have H:=O h;have HP:=O hp;have Df:(p:Int)<(n:Int):=by have:=bf hp;have:=h.len;omega
  have jW:(n:Int)<=1000:=by have:=h.fx;omega
  clear h hf kT hp ht;go_enter func174,ntmps174;go_wp2_with fail;refine HF.o.mono ?_;rintro e w2 ⟨rfl,hN⟩;dsimp only;have bJ:=O (gI.o.t hN);have H2:=O (H.o.aR bJ.o);have bH:=O (Ab.o.ch hN (λh=>h));obtain⟨rb,rfl,hl,eQ,dL,x0,x1,x2,x3,x4⟩:=H2.o.row HP.o;have y0:=H2.o.aW.c 0;have yl:=H2.o.aW.lt;obtain⟨rk,iZ⟩:=bG (w.heap.size);rw[iZ]at bH;have⟨z0,z1,z2,z3,z4⟩:=iP bH.o;have zl:=bH.o.lt;have zf:=bH.o.frozen;have f0:=zf 0;have f1:=zf 1;have f2:=zf 2;have f3:=zf 3;have f4:=zf 4;have yD:=O iZ;clear zf dL hN HF;go_wp2_with fail
  try simp only[iZ]
  have HX:=O (show aX (kU w2 rk 0 r) rk 186 #[I J r.tx,I J r.aS,I J r.aY,I J r.state,I J r.heard]from((((bH.o.bm 0 _).bm 1 _).bm 2 _).bm 3 _).bm 4 _);have HC:=O (pK w2 rk 0 r);change bodyPost _ _ _ _ _ (kU w2 rk 0 r);generalize kU w2 rk 0 r=w5 at *;have⟨g0,g1,g2,g3,g4⟩:=iP HX.o;refine aE (v:=aB #[uk r,Y true]) (by simp[results,results174,go_sem,g0,g1,g2,g3,g4,uk]) rfl ⟨rfl,?_⟩;exact(bJ.o.mono (λ_ h=>h.elim)).trans HC.o (λk hk=>.inr (by have:=yD.o;omega))
end
