import Derived.Test.YtmaimjajdbgmiaaGreatDoorAk
import Derived.Test.YtmaimjajdbgmiaaGreatDoorAl
import Derived.Test.YtmaimjajdbgmiaaGreatDoorAh
set_option linter.unusedVariables false
set_option linter.unusedSimpArgs false
set_option maxRecDepth 100000
set_option maxHeartbeats 0
open Go.Value renaming int→I,string→V,pointer→X,bool→Y,slice→T,tuple→aB,agg→aC
open Go.IntKind renaming i64→J
open Option renaming none→U,some→G
open Go.Ending renaming returned→ay
open Go.Obj renaming cells→az
open List renaming length_append→aL
open Go renaming World→aw,Calls→ax,bodyPost_ret→aE
open Go.Proofs.Tryz
open Go.Proofs.Tryz renaming prog→av
namespace Go.Proofs.YtmaimjajdbgmiaaGreatDoor
open Go.Lib Go.Maps Go.RowKit
section
variable{w w':aw}{P P':Nat->Nat->Prop}{F:Nat->Prop}{i j:Nat}
theorem eG.tC(h:eG w P)(j:Nat)(hs:Sub (P j) F w w')(hF:oo F w')(hP: ∀n g,P' n g->(n=j->F g)/\(n≠j->P n g)):eG w' P'/\Sub (JI P) (JI P') w w':=by
 have h0:=h.cQ j hs hF;have key: ∀n g,P' n g->th P j F n g:=λn g hg=>by
  by_cases e:n=j
  ·subst e;rw[gG];exact(hP n g hg).1 rfl
  ·rw[cM P F e];exact(hP n g hg).2 e
 refine⟨⟨λa b Dy g ha hb=>h0.dj a b Dy g (key a g ha) (key b g hb),λa g ha=>h0.fC a g (key a g ha)⟩,(eG.sub j hs).ch,λg ⟨n,hg⟩=>(eG.sub j hs).new g ⟨n,key n g hg⟩⟩
theorem eG.Ru(h:eG w P)(hC:M w w')(j:Nat)(hj: ∀g,¬P j g)(hF: ∀g,F g->w.heap.size<=g)(hF':oo F w')(hP: ∀n g,P' n g->(n=j->F g)/\(n≠j->P n g)):eG w' P'/\Sub (JI P) (JI P') w w':=
 h.tC j ⟨hC.mono (λ_ h=>h.elim),λg hg=>.inr (hF g hg)⟩ hF' hP
end
structure gE where
 rb:Nat
 rA:Option Addr
 rc:Nat
 M6:List ByteArray
 sA:Option Addr
 sc:Nat
 iz:Nat->Nat
 sh:Nat->ia
 cA:Option Addr
 cc:Nat
 lK:Nat->Nat
 rW:Nat->qo
 pl:Nat->Value
 qb:Nat
 qA:Option Addr
 qc:Nat
 ab:Nat
 aA:Option Addr
 ac:Nat
 oA:Option Addr
 oc:Nat
def gE.P(C:Cf)(a:gE)(sb:Nat)(s:dM):Nat->Nat->Prop
 |0=>λg=>g=sb
 |1=>oz a.rb a.rA a.M6.length a.rc
 |2=>λg=>(T a.sA C.ns a.sc).ownBlock=G g
 |3=>λg=>(T a.cA s.dr.length a.cc).ownBlock=G g
 |4=>eO a.qb a.qA s.req.length a.qc
 |5=>eO a.ab a.aA s.ans.length a.ac
 |6=>λg=>(T a.oA s.order.length a.oc).ownBlock=G g
 |n+7=>λg=>if n%2=0 then n / 2<C.ns/\(a.sh (n / 2)).F (a.iz (n / 2)) g else∃d,s.dr[n / 2]?=G d/\(a.rW (n / 2)).F (a.lK (n / 2)) d g
def gE.F(C:Cf)(a:gE)(sb:Nat)(s:dM):Nat->Prop:=JI (a.P C sb s)
abbrev JS(C:Cf)(a:gE)(s:dM):Array Value:=#[X (G ⟨a.rb,0,U⟩),I J C.tries,T a.sA C.ns a.sc,T a.cA s.dr.length a.cc,X (G ⟨a.qb,0,U⟩),X (G ⟨a.ab,0,U⟩),T a.oA s.order.length a.oc]
def mX(f:Nat->Nat)(n:Nat):List Value:=(List.range n).map λk=>X (G ⟨f k,0,U⟩)
def B3(f:Nat->Nat)(v:Nat->Value)(n:Nat):List Value:=(List.range n).flatMap λk=>[X (G ⟨f k,0,U⟩),v k]
structure gR(w:aw)(sb:Nat)(C:Cf)(aZ:Nat)(s:dM)(a:gE):Prop where
 aW:aX w sb 72 (JS C a s)
 ig:ie C w a.rb a.rA a.rc a.M6
 Ah:w.ownsRow 0 73 1 (T a.sA C.ns a.sc) C.ns (mX a.iz C.ns)
 cls:w.ownsRow 0 85 2 (T a.cA s.dr.length a.cc) s.dr.length (B3 a.lK a.pl s.dr.length)
 Rv: ∀i,∃A n c,a.pl i=T A n c
 rq:dF w a.qb a.qA s.req.length a.qc s.req
 an:eA w a.ab a.aA s.ans.length a.ac s.ans
 ord:w.ownsRow 0 3 1 (T a.oA s.order.length a.oc) s.order.length (ints s.order)
 sh: ∀k,k<C.ns->dH w (a.iz k) C.key aZ (s.sh k) (a.sh k)
 dr: ∀(i:Nat) d,s.dr[i]?=G d->ey w (a.lK i) a.rb C i d (a.rW i)
 iu:eG w (a.P C sb s)
section
variable{w w':aw}{sb aZ cY k i:Nat}{C:Cf}{s s':dM}{a:gE}{x:dm}{b:ia}{d d':eF}{e:qo}
theorem Rw(a:gE)(hk:k<C.ns):a.P C sb s (2*k+7)=(a.sh k).F (a.iz k):=by
 funext g
 show(if 2*k%2=0 then 2*k / 2<C.ns/\(a.sh (2*k / 2)).F (a.iz (2*k / 2)) g else _)=_;rw[if_pos (by omega),show 2*k / 2=k by omega];exact propext ⟨λh=>h.2,λh=>⟨hk,h⟩⟩
theorem Vd(a:gE)(hd:s.dr[i]?=G d):a.P C sb s (2*i+8)=(a.rW i).F (a.lK i) d:=by
 funext g
 show(if(2*i+1)%2=0 then _ else∃d,s.dr[(2*i+1) / 2]?=G d/\(a.rW ((2*i+1) / 2)).F (a.lK ((2*i+1) / 2)) d g)=_;rw[if_neg (by omega),show(2*i+1) / 2=i by omega];exact propext ⟨λ⟨d',h1,h2⟩=>by rw[hd]at h1;injection h1 with h1;subst h1;exact h2,λh=>⟨d,hd,h⟩⟩
theorem gR.fC(h:gR w sb C aZ s a):oo (a.F C sb s) w:=h.iu.all
structure S6(w w':aw)(sb:Nat)(C:Cf)(aZ:Nat)(s:dM)(a:gE)(af:Nat->Prop):Prop where
 aW: ¬af 0->aX w' sb 72 (JS C a s)
 ig: ¬af 1->ie C w' a.rb a.rA a.rc a.M6
 Ah: ¬af 2->w'.ownsRow 0 73 1 (T a.sA C.ns a.sc) C.ns (mX a.iz C.ns)
 cls: ¬af 3->w'.ownsRow 0 85 2 (T a.cA s.dr.length a.cc) s.dr.length (B3 a.lK a.pl s.dr.length)
 rq: ¬af 4->dF w' a.qb a.qA s.req.length a.qc s.req
 an: ¬af 5->eA w' a.ab a.aA s.ans.length a.ac s.ans
 ord: ¬af 6->w'.ownsRow 0 3 1 (T a.oA s.order.length a.oc) s.order.length (ints s.order)
 sh: ∀k,k<C.ns->¬af (2*k+7)->dH w' (a.iz k) C.key aZ (s.sh k) (a.sh k)
 dr: ∀(i:Nat) d,s.dr[i]?=G d->¬af (2*i+8)->ey w' (a.lK i) a.rb C i d (a.rW i)
theorem gR.keeps(h:gR w sb C aZ s a)(af:Nat->Prop)(hC:Ch (λg=>∃j,af j/\a.P C sb s j g) w w'):S6 w w' sb C aZ s a af:=by
 have cv: ∀(i:Nat),¬af i->∀g,a.P C sb s i g->¬ ∃j,af j/\a.P C sb s j g:=λi hi g hg ⟨j,hj,uH⟩=>h.iu.cv (j:=i) (i:=j) (λe=>hi (e▸hj)) g hg uH;exact⟨λhj=>h.aW.ch hC (cv 0 hj sb rfl),λhj=>h.ig.ch hC (cv 1 hj),λhj=>bg h.Ah hC (cv 2 hj),λhj=>bg h.cls hC (cv 3 hj),λhj=>h.rq.ch hC (cv 4 hj),λhj=>h.an.ch hC (cv 5 hj),λhj=>bg h.ord hC (cv 6 hj),
  λk hk hj=>(h.sh k hk).ch hC (λg hg=>cv (2*k+7) hj g (by rw[Rw a hk];exact hg)),λi d hd hj=>(h.dr i d hd).ch hC (λg hg=>cv (2*i+8) hj g (by rw[Vd a hd];exact hg))⟩
theorem gR.oC(h:gR w sb C aZ s a)(j:Nat)(hC:Ch (a.P C sb s j) w w'):S6 w w' sb C aZ s a (λn=>n=j):=h.keeps _ (hC.mono (λg hg=>⟨j,rfl,hg⟩))
theorem gR.aR(h:gR w sb C aZ s a)(hC:M w w'):gR w' sb C aZ s a:=
 ⟨h.aW.ch hC (λh=>h),h.ig.aR hC,bg h.Ah hC (λ_ _ h=>h),bg h.cls hC (λ_ _ h=>h),h.Rv,h.rq.aR hC,h.an.aR hC,bg h.ord hC (λ_ _ h=>h),λk hk=>(h.sh k hk).aR hC,λi d hd=>(h.dr i d hd).aR hC,h.iu.aR hC⟩
theorem gR.ch{S:Nat->Prop}(h:gR w sb C aZ s a)(hC:Ch S w w')(hS: ∀g,a.F C sb s g->¬S g):gR w' sb C aZ s a:=by
 have f:=λ(i:Nat) (g:Nat) (hg:a.P C sb s i g)=>hS g ⟨i,hg⟩;exact⟨h.aW.ch hC (f 0 sb rfl),h.ig.ch hC (f 1),bg h.Ah hC (f 2),bg h.cls hC (f 3),h.Rv,h.rq.ch hC (f 4),h.an.ch hC (f 5),bg h.ord hC (f 6),
  λk hk=>(h.sh k hk).ch hC (λg hg=>f (2*k+7) g (by rw[Rw a hk];exact hg)),λi d hd=>(h.dr i d hd).ch hC (λg hg=>f (2*i+8) g (by rw[Vd a hd];exact hg)),h.iu.mono hC.size⟩
theorem gR.mono(h:gR w sb C aZ s a)(hm:aZ<=cY):gR w sb C cY s a:=⟨h.aW,h.ig,h.Ah,h.cls,h.Rv,h.rq,h.an,h.ord,λk hk=>(h.sh k hk).mono hm,h.dr,h.iu⟩
def bK{α:Type}(f:Nat->α)(k:Nat)(v:α):Nat->α:=λj=>if j=k then v else f j
theorem bI{α:Type}(f:Nat->α)(k:Nat)(v:α):bK f k v k=v:=if_pos rfl
theorem bC{α:Type}(f:Nat->α){k j:Nat}(v:α)(h:j≠k):bK f k v j=f j:=if_neg h
theorem gR.M7(h:gR w sb C aZ s a)(hk:k<C.ns)(hx:dH w' (a.iz k) C.key cY x b)(hs:Sub ((a.sh k).F (a.iz k)) (b.F (a.iz k)) w w')(hm:aZ<=cY):
 gR w' sb C cY {s with sh:=dP s.sh k x} {a with sh:=bK a.sh k b}/\Sub (a.F C sb s) (gE.F C {a with sh:=bK a.sh k b} sb {s with sh:=dP s.sh k x}) w w':=by
 have hp:=Rw (C:=C) (sb:=sb) (s:=s) a hk;have K:=h.oC (2*k+7) (by rw[hp];exact hs.ch);obtain⟨h1,h2⟩:=h.iu.tC (P':=gE.P C {a with sh:=bK a.sh k b} sb {s with sh:=dP s.sh k x}) (2*k+7) (by rw[hp];exact hs) hx.fC (λn g hg=>by
  match n,hg with
  |0,hg=>exact⟨λe=>by omega,λ_=>hg⟩
  |1,hg=>exact⟨λe=>by omega,λ_=>hg⟩
  |2,hg=>exact⟨λe=>by omega,λ_=>hg⟩
  |3,hg=>exact⟨λe=>by omega,λ_=>hg⟩
  |4,hg=>exact⟨λe=>by omega,λ_=>hg⟩
  |5,hg=>exact⟨λe=>by omega,λ_=>hg⟩
  |6,hg=>exact⟨λe=>by omega,λ_=>hg⟩
  |n+7,hg=>
   have hg:if n%2=0 then n / 2<C.ns/\(bK a.sh k b (n / 2)).F (a.iz (n / 2)) g else∃d,s.dr[n / 2]?=G d/\(a.rW (n / 2)).F (a.lK (n / 2)) d g:=hg;refine⟨λe=>?_,λe=>?_⟩
   ·rw[if_pos (by omega),show n / 2=k by omega,bI]at hg;exact hg.2
   ·show if n%2=0 then n / 2<C.ns/\(a.sh (n / 2)).F (a.iz (n / 2)) g else∃d,s.dr[n / 2]?=G d/\(a.rW (n / 2)).F (a.lK (n / 2)) d g;split
    ·rename_i e2;rw[if_pos e2,bC _ _ (by omega)]at hg;exact hg
    ·rename_i e2;rw[if_neg e2]at hg;exact hg)
 refine⟨⟨K.aW (by omega),K.ig (by omega),K.Ah (by omega),K.cls (by omega),h.Rv,K.rq (by omega),K.an (by omega),K.ord (by omega),λj hj=>?_,λi d hd=>K.dr i d hd (by omega),h1⟩,h2⟩;by_cases e:j=k
 ·subst e;show dH w' (a.iz j) C.key cY (dP s.sh j x j) (bK a.sh j b j);rw[fH,bI];exact hx
 ·show dH w' (a.iz j) C.key cY (dP s.sh k x j) (bK a.sh k b j);rw[gq _ _ e,bC _ _ e];exact(K.sh j hj (by omega)).mono hm
theorem gR.zE(h:gR w sb C aZ s a)(hd:s.dr[i]?=G d)(hx:ey w' (a.lK i) a.rb C i d' e)(hs:Sub ((a.rW i).F (a.lK i) d) (e.F (a.lK i) d') w w'):
 gR w' sb C aZ {s with dr:=s.dr.set i d'} {a with rW:=bK a.rW i e}/\Sub (a.F C sb s) (gE.F C {a with rW:=bK a.rW i e} sb {s with dr:=s.dr.set i d'}) w w':=by
 have hp:=Vd (C:=C) (sb:=sb) a hd;have hi:=bf hd;have hl:(s.dr.set i d').length=s.dr.length:=List.length_set;have En: ∀j y,(s.dr.set i d')[j]?=G y->(j=i/\y=d')\/(j≠i/\s.dr[j]?=G y):=λj y hy=>by
  by_cases e:j=i
  ·subst e;rw[List.getElem?_set_self hi]at hy;injection hy with hy;exact .inl ⟨rfl,hy.symm⟩
  ·rw[List.getElem?_set_ne (λh=>e h.symm)]at hy;exact .inr ⟨e,hy⟩
 have K:=h.oC (2*i+8) (by rw[hp];exact hs.ch);obtain⟨h1,h2⟩:=h.iu.tC (P':=gE.P C {a with rW:=bK a.rW i e} sb {s with dr:=s.dr.set i d'}) (2*i+8) (by rw[hp];exact hs) hx.fC (λn g hg=>by
  match n,hg with
  |0,hg=>exact⟨λe=>by omega,λ_=>hg⟩
  |1,hg=>exact⟨λe=>by omega,λ_=>hg⟩
  |2,hg=>exact⟨λe=>by omega,λ_=>hg⟩
  |3,hg=>
   have hg:(T a.cA (s.dr.set i d').length a.cc).ownBlock=G g:=hg;rw[hl]at hg;exact⟨λe=>by omega,λ_=>hg⟩
  |4,hg=>exact⟨λe=>by omega,λ_=>hg⟩
  |5,hg=>exact⟨λe=>by omega,λ_=>hg⟩
  |6,hg=>exact⟨λe=>by omega,λ_=>hg⟩
  |n+7,hg=>
   have hg:if n%2=0 then n / 2<C.ns/\(a.sh (n / 2)).F (a.iz (n / 2)) g else∃y,(s.dr.set i d')[n / 2]?=G y/\(bK a.rW i e (n / 2)).F (a.lK (n / 2)) y g:=hg;refine⟨λe=>?_,λe=>?_⟩
   ·rw[if_neg (by omega),show n / 2=i by omega,bI]at hg;obtain⟨y,h1,h2⟩:=hg;rcases En i y h1 with⟨_,rfl⟩|⟨e,_⟩
    ·exact h2
    ·exact(e rfl).elim
   ·show if n%2=0 then n / 2<C.ns/\(a.sh (n / 2)).F (a.iz (n / 2)) g else∃d,s.dr[n / 2]?=G d/\(a.rW (n / 2)).F (a.lK (n / 2)) d g;split
    ·rename_i e2;rw[if_pos e2]at hg;exact hg
    ·rename_i e2;rw[if_neg e2,bC _ _ (by omega)]at hg;obtain⟨y,h1,h2⟩:=hg;rcases En _ y h1 with⟨e,_⟩|⟨_,e⟩
     ·omega
     ·exact⟨y,e,h2⟩)
 refine⟨⟨?_,K.ig (by omega),K.Ah (by omega),?_,h.Rv,K.rq (by omega),K.an (by omega),K.ord (by omega),λj hj=>K.sh j hj (by omega),λj y hy=>?_,h1⟩,h2⟩
 ·have:=K.aW (by omega);unfold JS at this⊢;dsimp only;rw[hl];exact this
 ·have:=K.cls (by omega);dsimp only;rw[hl];exact this
 ·rcases En j y hy with⟨rfl,rfl⟩|⟨e1,e2⟩
  ·show ey w' (a.lK j) a.rb C j _ (bK a.rW j e j);rw[bI];exact hx
  ·show ey w' (a.lK j) a.rb C j y (bK a.rW i e j);rw[bC _ _ e1];exact K.dr j y e2 (by omega)
theorem gR.Eo(h:gR w sb C aZ s a){l:List (Nat×Nat×bQ)}{A:Option Addr}{c:Nat}(hx:dF w' a.qb A l.length c l)(hs:Sub (eO a.qb a.qA s.req.length a.qc) (eO a.qb A l.length c) w w'):
 gR w' sb C aZ {s with req:=l} {a with qA:=A,qc:=c}/\Sub (a.F C sb s) (gE.F C {a with qA:=A,qc:=c} sb {s with req:=l}) w w':=by
 have K:=h.oC 4 hs.ch;obtain⟨h1,h2⟩:=h.iu.tC (P':=gE.P C {a with qA:=A,qc:=c} sb {s with req:=l}) 4 hs hx.fC (λn g hg=>by
  match n,hg with
  |0,hg=>exact⟨λe=>by omega,λ_=>hg⟩
  |1,hg=>exact⟨λe=>by omega,λ_=>hg⟩
  |2,hg=>exact⟨λe=>by omega,λ_=>hg⟩
  |3,hg=>exact⟨λe=>by omega,λ_=>hg⟩
  |4,hg=>exact⟨λ_=>hg,λe=>absurd rfl e⟩
  |5,hg=>exact⟨λe=>by omega,λ_=>hg⟩
  |6,hg=>exact⟨λe=>by omega,λ_=>hg⟩
  |n+7,hg=>exact⟨λe=>by omega,λ_=>hg⟩)
 exact⟨⟨K.aW (by omega),K.ig (by omega),K.Ah (by omega),K.cls (by omega),h.Rv,hx,K.an (by omega),K.ord (by omega),λj hj=>K.sh j hj (by omega),λi d hd=>K.dr i d hd (by omega),h1⟩,h2⟩
theorem gR.Ep(h:gR w sb C aZ s a){l:List (Nat×bQ×dh)}{A:Option Addr}{c:Nat}(hx:eA w' a.ab A l.length c l)(hs:Sub (eO a.ab a.aA s.ans.length a.ac) (eO a.ab A l.length c) w w'):
 gR w' sb C aZ {s with ans:=l} {a with aA:=A,ac:=c}/\Sub (a.F C sb s) (gE.F C {a with aA:=A,ac:=c} sb {s with ans:=l}) w w':=by
 have K:=h.oC 5 hs.ch;obtain⟨h1,h2⟩:=h.iu.tC (P':=gE.P C {a with aA:=A,ac:=c} sb {s with ans:=l}) 5 hs hx.fC (λn g hg=>by
  match n,hg with
  |0,hg=>exact⟨λe=>by omega,λ_=>hg⟩
  |1,hg=>exact⟨λe=>by omega,λ_=>hg⟩
  |2,hg=>exact⟨λe=>by omega,λ_=>hg⟩
  |3,hg=>exact⟨λe=>by omega,λ_=>hg⟩
  |4,hg=>exact⟨λe=>by omega,λ_=>hg⟩
  |5,hg=>exact⟨λ_=>hg,λe=>absurd rfl e⟩
  |6,hg=>exact⟨λe=>by omega,λ_=>hg⟩
  |n+7,hg=>exact⟨λe=>by omega,λ_=>hg⟩)
 exact⟨⟨K.aW (by omega),K.ig (by omega),K.Ah (by omega),K.cls (by omega),h.Rv,K.rq (by omega),hx,K.ord (by omega),λj hj=>K.sh j hj (by omega),λi d hd=>K.dr i d hd (by omega),h1⟩,h2⟩
theorem gR.Ve(h:gR w sb C aZ s a){w1:aw}{l:List Int}{A:Option Addr}{c:Nat}(hx:w1.ownsRow 0 3 1 (T A l.length c) l.length (ints l))(zF:Ch (λg=>(T a.oA s.order.length a.oc).ownBlock=G g) w w1)
 (hat: ∀g,(T A l.length c).ownBlock=G g->(T a.oA s.order.length a.oc).ownBlock=G g\/w.heap.size<=g) (o8:Ch (λg=>g=sb) w1 w') (hb:aX w' sb 72 (JS C {a with oA:=A,oc:=c} {s with order:=l})):
 gR w' sb C aZ {s with order:=l} {a with oA:=A,oc:=c}/\Sub (a.F C sb s) (gE.F C {a with oA:=A,oc:=c} sb {s with order:=l}) w w':=by
 have OS:aX w1 sb 72 (JS C a s):=h.aW.ch zF (λe=>aV h.ord h.aW (by decide) e);have SZ:=bg hx o8 (λk hk e=>aV hx OS (by decide) (by rw[<-e];exact hk));have hC:Ch (λg=>∃j,(j=6\/j=0)/\a.P C sb s j g) w w':=(zF.mono (λg hg=>⟨6,.inl rfl,hg⟩)).t (o8.mono (λg hg=>⟨0,.inr rfl,hg⟩));have K:=h.keeps _ hC;have hs:Sub (a.P C sb s 6) (λg=>(T A l.length c).ownBlock=G g) w w1:=⟨zF,hat⟩;obtain⟨h1,h2⟩:=h.iu.tC (P':=gE.P C {a with oA:=A,oc:=c} sb {s with order:=l}) 6 hs (λg hg=>(hx.lt g hg).2) (λn g hg=>by
  match n,hg with
  |0,hg=>exact⟨λe=>by omega,λ_=>hg⟩
  |1,hg=>exact⟨λe=>by omega,λ_=>hg⟩
  |2,hg=>exact⟨λe=>by omega,λ_=>hg⟩
  |3,hg=>exact⟨λe=>by omega,λ_=>hg⟩
  |4,hg=>exact⟨λe=>by omega,λ_=>hg⟩
  |5,hg=>exact⟨λe=>by omega,λ_=>hg⟩
  |6,hg=>exact⟨λ_=>hg,λe=>absurd rfl e⟩
  |n+7,hg=>exact⟨λe=>by omega,λ_=>hg⟩)
 exact⟨⟨hb,K.ig (by omega),K.Ah (by omega),K.cls (by omega),h.Rv,K.rq (by omega),K.an (by omega),SZ,λj hj=>K.sh j hj (by omega),λi d hd=>K.dr i d hd (by omega),h1.mono o8.size⟩,
  h2.trans ⟨o8.mono (λg hg=>⟨0,hg⟩),λg hg=>.inl hg⟩⟩
theorem gR.cells(h:gR w sb C aZ s a):w.cell? ⟨sb,0,U⟩=G (X (G ⟨a.rb,0,U⟩))/\w.cell? ⟨sb,1,U⟩=G (I J C.tries)/\w.cell? ⟨sb,2,U⟩=G (T a.sA C.ns a.sc)/\w.cell? ⟨sb,3,U⟩=G (T a.cA s.dr.length a.cc)/\
 w.cell? ⟨sb,4,U⟩=G (X (G ⟨a.qb,0,U⟩))/\w.cell? ⟨sb,5,U⟩=G (X (G ⟨a.ab,0,U⟩))/\w.cell? ⟨sb,6,U⟩=G (T a.oA s.order.length a.oc):=
 ⟨h.aW.c 0,h.aW.c 1,h.aW.c 2,h.aW.c 3,h.aW.c 4,h.aW.c 5,h.aW.c 6⟩
theorem gR.oD(h:gR w sb C aZ s a)(hk:k<C.ns): ∃g,a.sA=G ⟨g,0,U⟩/\g<w.heap.size/\w.cell? ⟨g,k,U⟩=G (X (G ⟨a.iz k,0,U⟩)):=by
 obtain⟨g,cap,hv,_,hlt⟩:=h.Ah.form (by omega);injection hv with hA _ _;have hg:(mX a.iz C.ns)[k]?=G (X (G ⟨a.iz k,0,U⟩)):=by simp[mX,hk]
 obtain⟨b,off,e,_,hc⟩:=(Rd.own h.Ah) (by intro e;rw[e]at hg;simp at hg);rw[hA]at e;injection e with e;injection e with e1 e2;subst e1 e2;exact⟨g,hA,hlt,by simpa using hc k _ hg⟩
theorem M8(f:Nat->Nat)(v:Nat->Value){n:Nat}(hi:i<n):(B3 f v n)[i*2]?=G (X (G ⟨f i,0,U⟩)):=by
 have h0:(List.range n)[i]?=G i:=by simp[hi]
 exact eI (f:=λk=>[X (G ⟨f k,0,U⟩),v k]) (m:=2) (λ_ _=>rfl) h0 (j:=0) (by omega)
theorem gR.Gj(h:gR w sb C aZ s a)(hi:i<s.dr.length): ∃g,a.cA=G ⟨g,0,U⟩/\g<w.heap.size/\w.cell? ⟨g,i*2,U⟩=G (X (G ⟨a.lK i,0,U⟩)):=by
 obtain⟨g,cap,hv,_,hlt⟩:=h.cls.form (by omega);injection hv with hA _ _;have hg:=M8 a.lK a.pl hi;obtain⟨b,off,e,_,hc⟩:=(Rd.own h.cls) (by intro e;rw[e]at hg;simp at hg);rw[hA]at e;injection e with e;injection e with e1 e2;subst e1 e2;exact⟨g,hA,hlt,by simpa using hc (i*2) _ hg⟩
end
section
variable{w w':aw}{sb aZ cY k i:Nat}{C:Cf}{s s':dM}{a:gE}{x:dm}{b:ia}{d d':eF}{e:qo}
theorem Ex(h:gR w sb C aZ s a)(hi:i<s.dr.length)(hf:s.dr.length<=9):ax av 40 #[X (G ⟨sb,0,U⟩),I J (i:Nat)] w λe w'=>e=ay (Y true)/\w'=w:=by
 have⟨x0,x1,x2,x3,x4,x5,x6⟩:=h.cells;have xl:=h.aW.lt;have h1:decide (i<s.dr.length)=true:=decide_eq_true hi;have h2:decide ((0:Int)<=(i:Int))=true:=decide_eq_true (by omega);clear h x0 x1 x2 x4 x5 x6 hi;go_enter func40,ntmps40;go_wp2_with fail;go_ret;exact⟨rfl,rfl⟩
theorem YC(h:gR w sb C aZ s a){i:Int}(hi:i<0\/s.dr.length<=i)(hf:s.dr.length<=9):ax av 40 #[X (G ⟨sb,0,U⟩),I J i] w λe w'=>e=ay (Y false)/\w'=w:=by
 have⟨x0,x1,x2,x3,x4,x5,x6⟩:=h.cells;have xl:=h.aW.lt;by_cases h0:i<0
 ·have h2:decide ((0:Int)<=i)=false:=decide_eq_false (by omega);clear h x0 x1 x2 x4 x5 x6 hi;go_enter func40,ntmps40;go_wp2_with fail;go_ret;exact⟨rfl,rfl⟩
 ·have h2:decide ((0:Int)<=i)=true:=decide_eq_true (by omega);have h1:decide (i<(s.dr.length:Int))=false:=decide_eq_false (by omega);clear h x0 x1 x2 x4 x5 x6 hi h0;go_enter func40,ntmps40;go_wp2_with fail;go_ret;exact⟨rfl,rfl⟩
theorem rY(h:gR w sb C aZ s a){tx:Int}(h0:0<=tx):ax av 72 #[X (G ⟨sb,0,U⟩),I J tx] w λe w'=>e=ay (X (G ⟨a.iz (bZ C tx),0,U⟩))/\∃m,w'=w.drewN m:=by
 have sP:=h.ig.w.ns;have hk:bZ C tx<C.ns:=Nat.mod_lt _ (by omega);have⟨x0,x1,x2,x3,x4,x5,x6⟩:=h.cells;have xl:=h.aW.lt;obtain⟨g,hA,nz,y⟩:=h.oD hk;rw[hA]at x2;obtain⟨hm,hHM⟩:=bG (bZ C tx);have e1:tx.tmod (C.ns:Int)=((hm:Nat):Int):=by
  rw[<-hHM];unfold bZ;rw[Int.tmod_eq_emod_of_nonneg h0,Int.natCast_emod,Int.toNat_of_nonneg h0]
 have e2:tx%(C.ns:Int)=((hm:Nat):Int):=by
  rw[<-hHM];unfold bZ;rw[Int.natCast_emod,Int.toNat_of_nonneg h0]
 rw[hHM]at hk y⊢;have hz:(C.ns:Int)≠0:=by omega
 have jq:(hm:Int)<(C.ns:Int):=by omega
 obtain⟨p,hp⟩:=bG (a.iz hm);rw[hp]at y⊢;clear h x0 x1 x3 x4 x5 x6 hA hHM hp;go_enter func72,ntmps72;go_upto_region 1 with(fail)
 go_region
 all_goals
  go_wp2_with fail;go_ret;exact⟨rfl,1,rfl⟩
theorem B6(h:gR w sb C aZ s a):ax av 9 #[X (G ⟨sb,0,U⟩)] w λe w'=>e=ay (I J (C.ns:Nat))/\w'=w:=by
 have⟨x0,x1,x2,x3,x4,x5,x6⟩:=h.cells;have xl:=h.aW.lt;clear h x0 x1 x3 x4 x5 x6;go_enter func9,ntmps9;go_wp2_with fail;go_ret;exact⟨rfl,rfl⟩
theorem B7(h:gR w sb C aZ s a):ax av 12 #[X (G ⟨sb,0,U⟩)] w λe w'=>e=ay (I J (s.dr.length:Nat))/\w'=w:=by
 have⟨x0,x1,x2,x3,x4,x5,x6⟩:=h.cells;have xl:=h.aW.lt;clear h x0 x1 x2 x4 x5 x6;go_enter func12,ntmps12;go_wp2_with fail;go_ret;exact⟨rfl,rfl⟩
theorem mY(h:gR w sb C aZ s a)(hk:k<C.ns){c:bQ}(hc:eN c)(fT:c.kind=2\/c.kind=3\/c.kind=4->c.key=C.key)(wG:c.kind=4->c.yes=true)(hv:QJ (s.sh k))(cp:aZ<1000000)(j8:s.order.length<=1000):
 ax av 64 #[X (G ⟨sb,0,U⟩),X (G ⟨a.iz k,0,U⟩),cn c] w λe w'=>e=ay (dU (bO s k c).2)/\
  ∃b oA oc,gR w' sb C (aZ+2) (bO s k c).1 {a with sh:=bK a.sh k b,oA:=oA,oc:=oc}/\Sub (a.F C sb s) (gE.F C {a with sh:=bK a.sh k b,oA:=oA,oc:=oc} sb (bO s k c).1) w w':=by
 have HH:=O h;have HK:=O hk;have JO:=O (λw' (hN:M w w')=>DP ((h.sh k hk).aR hN) hc fT wG (hv.wr _) cp);have tX:=O (λw' (hN:M w w')=>pW ((h.sh k hk).aR hN) c.tx);obtain⟨W,hW⟩:=bG (((s.sh k).rows c.tx).getD qS);obtain⟨IS,RD⟩:=bG (((s.sh k).rows c.tx).isSome);obtain⟨ae,hO⟩:=bG (fS (s.sh k) c);obtain⟨aq,R⟩:=ae;rw[hW,RD]at tX;rw[hO]at JO;have HDS:=O (show bO s k c=({s with sh:=dP s.sh k aq,order:=if c.kind=5/\W.aS=c.aS/\W.state=1/\R.state=2 then s.order++[c.tx]else s.order},R)from by
  unfold bO;dsimp only;rw[hO, <-hW];rfl)
 rw[HDS.o];obtain⟨kd,tx,aS,st,op,key,val,mode,yes⟩:=c;obtain⟨zI,ij,zJ,fg,ee⟩:=W;obtain⟨code,state,VV,HB⟩:=R;dsimp only at *;obtain⟨p,hp⟩:=bG (a.iz k);have HP:=O hp;have wB:=O j8;rw[hp]at JO tX⊢;simp only[uk]at tX;clear h hk hc fT wG hv cp j8 hW RD hO hp;go_enter func64,ntmps64;go_wp2_with fail;obtain⟨w1,bT⟩:=bG ((w.alloc (az #[I J kd,I J tx,I J aS,I J st,I J op,V key,V val,I J mode,Y yes] 60)).alloc (az #[I J 0,I J 0,V ⟨#[]⟩,Y false] 66));have cH:=(fZ bT).1;have fK:=O (show aX w1 w.heap.size 60 #[I J kd,I J tx,I J aS,I J st,I J op,V key,V val,I J mode,Y yes]from bT▸(aX.new w 60 _).alloc _);have cw:=(fZ bT).2;rw[bT];obtain⟨qb,bE⟩:=bG (w.heap.size);rw[bE]at fK cw
 try simp only[bE]
 have dp:=O bE;clear bT bE;refine(tX.o _ cH.o).mono ?_;rintro e w2 ⟨rfl,hN⟩;dsimp only;have bJ:=O (cH.o.t hN);have gn:=O (fK.o.ch hN (λh=>h));have cJ:=O (cw.o.ch hN (λh=>h));clear hN;have⟨q0,q1,q2,q3,q4⟩:=iP gn.o;have⟨q5,q6,q7,q8⟩:=(show _/\_/\_/\_ from⟨gn.o.c 5,gn.o.c 6,gn.o.c 7,gn.o.c 8⟩);have ql:=gn.o.lt;go_wp2_with fail;have cE:=O (show M w (w2.alloc (az #[I J zI,I J ij,I J zJ,I J fg,I J ee] 186))from bJ.o.alloc _);have wQ:=O (show aX (w2.alloc (az #[I J zI,I J ij,I J zJ,I J fg,I J ee] 186)) qb 60 #[I J kd,I J tx,I J aS,I J st,I J op,V key,V val,I J mode,Y yes]from gn.o.alloc _);have fL:=O (show aX (w2.alloc (az #[I J zI,I J ij,I J zJ,I J fg,I J ee] 186)) (qb+1) 66 #[I J 0,I J 0,V ⟨#[]⟩,Y false]from cJ.o.alloc _);have jx:=O (show aX (w2.alloc (az #[I J zI,I J ij,I J zJ,I J fg,I J ee] 186)) w2.heap.size 186 #[I J zI,I J ij,I J zJ,I J fg,I J ee]from aX.new w2 186 _);have eC:=O (show qb+1<w2.heap.size from cJ.o.lt);obtain⟨w3,je⟩:=bG (w2.alloc (az #[I J zI,I J ij,I J zJ,I J fg,I J ee] 186));obtain⟨qc,qq⟩:=bG (w2.heap.size);rw[je]at cE wQ fL jx;rw[qq]at jx eC;simp only[je,qq];have yY:=O (show qb+1<w3.heap.size from fL.o.lt);clear je qq q0 q1 q2 q3 q4 q5 q6 q7 q8 ql;refine(JO.o _ cE.o).mono ?_;rintro e w4 h4;obtain⟨rfl,b,hx,hs⟩:=h4;dsimp only at hx⊢;have H3:=O (HH.o.aR cE.o);have Af:=O (show∀g,w.heap.size<=g->¬(a.sh k).F p g from λg hg e=>by have:=(HH.o.sh k HK.o).fC g (by rw[HP.o];exact e);omega);have H4:=O (H3.o.M7 HK.o (by rw[HP.o];exact hx) (by rw[HP.o];exact hs) (by omega:aZ<=aZ+2));have Fa:=O (wQ.o.ch hs.ch (Af.o _ (by have:=dp.o;omega)));have iq:=O (fL.o.ch hs.ch (Af.o _ (by have:=dp.o;omega)));have On:=O (jx.o.ch hs.ch (Af.o _ (by have:=dp.o;have:=eC.o;omega)));clear hx hs;go_upto_region 3 with(fail);have H5:=O (show gR (w4.alloc (az #[I J code,I J state,V VV,Y HB] 66)) sb C (aZ+2) _ _/\Sub _ _ w (w4.alloc (az #[I J code,I J state,V VV,Y HB] 66))from⟨H4.o.1.aR ((Ch.r _ w4).alloc _),((Sub.bj _ cE.o).trans H4.o.2).trans (Sub.bj _ ((Ch.r _ w4).alloc _))⟩);have Mx:=O (show aX (w4.alloc (az #[I J code,I J state,V VV,Y HB] 66)) qb 60 #[I J kd,I J tx,I J aS,I J st,I J op,V key,V val,I J mode,Y yes]from Fa.o.alloc _);have mM:=O (show aX (w4.alloc (az #[I J code,I J state,V VV,Y HB] 66)) (qb+1) 66 #[I J 0,I J 0,V ⟨#[]⟩,Y false]from iq.o.alloc _);have s9:=O (show aX (w4.alloc (az #[I J code,I J state,V VV,Y HB] 66)) qc 186 #[I J zI,I J ij,I J zJ,I J fg,I J ee]from On.o.alloc _);have OU:=O (show aX (w4.alloc (az #[I J code,I J state,V VV,Y HB] 66)) w4.heap.size 66 #[I J code,I J state,V VV,Y HB]from aX.new w4 66 _);have FJ:=O (show qc<w4.heap.size from On.o.lt);obtain⟨w5,qC⟩:=bG (w4.alloc (az #[I J code,I J state,V VV,Y HB] 66));obtain⟨qd,hqd⟩:=bG (w4.heap.size);rw[qC]at H5 Mx mM s9 OU;rw[hqd]at OU FJ;change Code.wp _ _ _ _ (w4.alloc (az #[I J code,I J state,V VV,Y HB] 66));simp only[qC,hqd];clear qC hqd gn cJ wQ fL jx Fa iq On tX JO bJ cH fK cw;have⟨c0,c1,c2⟩:=O3 Mx.o;have cl:=Mx.o.lt;have⟨r1,r3⟩:=(show _/\_ from⟨s9.o.c 1,s9.o.c 3⟩);have rl:=s9.o.lt;have p1:=OU.o.c 1;have pl:=OU.o.lt
 obtain⟨B,hB⟩:=bG (decide (kd=5/\ij=aS/\fg=1/\state=2))
 go_cut[39] (λv wr=>v=Y B/\wr=w5)
 case first=>
  by_cases e1:kd=5
  ·subst e1;by_cases e2:ij=aS
   ·subst e2;have f2:(ij==ij)=true:=beq_self_eq_true _;by_cases e3:fg=1
    ·subst e3;by_cases e4:state=2
     ·subst e4;go_wp2_with fail;go_meet;exact⟨by rw[<-hB];rfl,rfl⟩
     ·have f4:(state==2)=false:=beq_eq_false_iff_ne.2 e4;go_wp2_with fail;go_meet;exact⟨by rw[<-hB,decide_eq_false (by simp[e4])],rfl⟩
    ·have f3:(fg==1)=false:=beq_eq_false_iff_ne.2 e3;go_wp2_with fail;go_meet;exact⟨by rw[<-hB,decide_eq_false (by simp[e3])],rfl⟩
   ·have f2:(ij==aS)=false:=beq_eq_false_iff_ne.2 e2;go_wp2_with fail;go_meet;exact⟨by rw[<-hB,decide_eq_false (by simp[e2])],rfl⟩
  ·have f1:(kd==5)=false:=beq_eq_false_iff_ne.2 e1;go_wp2_with fail;go_meet;exact⟨by rw[<-hB,decide_eq_false (by simp[e1])],rfl⟩
 case rest=>
  obtain⟨rfl,hwc⟩:=hcut;subst wc;have Wr:=O (show∀g,w.heap.size<=g->g<w3.heap.size->¬gE.F C {a with sh:=bK a.sh k b} sb {s with sh:=dP s.sh k aq} g from λg h1 h2 hg=>by
   rcases H4.o.2.new g hg with e|e
   ·have:=HH.o.fC g e;omega
   ·omega)
  clear c0 c1 c2 cl r1 r3 rl p1 pl;cases B with
  |false=>
   have hN:=of_decide_eq_false hB;have⟨p0,p1,p2,p3⟩:=eW OU.o;have pl:=OU.o.lt;have⟨z0,z1,z2,z3⟩:=eW mM.o;have zl:=mM.o.lt;have zf:=mM.o.frozen;have rG:=O hN;clear hN hB;go_wp2_with fail;change bodyPost _ _ _ _ _ (cI w5 (qb+1) (⟨code,state,VV,HB⟩:dh));have HY:=O (bU mM.o (⟨code,state,VV,HB⟩:dh));have hq:=dp.o;have iU:=O (bX w5 (qb+1) (⟨code,state,VV,HB⟩:dh));have HM:=O (H5.o.1.ch iU.o (λg hg e=>Wr.o g (by omega) (by have:=yY.o;omega) hg));have HS:=O (show Sub _ _ w (cI w5 (qb+1) (⟨code,state,VV,HB⟩:dh))from⟨H5.o.2.ch.trans iU.o (λk hk=>.inr (by omega)),H5.o.2.new⟩);generalize cI w5 (qb+1) (⟨code,state,VV,HB⟩:dh)=w6 at *;have⟨g0,g1,g2,g3⟩:=eW HY.o;refine aE (v:=dU (⟨code,state,VV,HB⟩:dh)) (by simp[results,results64,go_sem,g0,g1,g2,g3]) rfl ⟨rfl,b,a.oA,a.oc,?_⟩
   try rw[if_neg rG.o]
   exact⟨HM.o,HS.o⟩
  |true=>
   obtain⟨rfl,rfl,rfl,rfl⟩:=of_decide_eq_true hB;clear hB;obtain⟨i1,dX,er,eu,eK⟩:=info_parts iH;have x6:w5.cell? ⟨sb,6,U⟩=G (T a.oA s.order.length a.oc):=H5.o.1.aW.c 6;have xl:=H5.o.1.aW.lt;have c1:=Mx.o.c 1;have cl:=Mx.o.lt;have hon:=wB.o;have sr:s.order.length+1<=maxLen:=by unfold maxLen;omega
   have jE:(s.order.length+1)*8<=140737488355328:=by omega
   have mi:=O (λ(ar:aw) (hC:M w5 ar)=>bg H5.o.1.ord hC (λ_ _ h=>h));have sK:=O (λ(ar w8:aw) (hC:M w5 ar) (hg:ar.grownBy w8 (T a.oA s.order.length a.oc).ownBlock)=>show aX w8 sb 72 (JS C {a with sh:=bK a.sh k b} {s with sh:=dP s.sh k aq})from
    (H5.o.1.aW.ch hC (λh=>h)).grown hg (λe=>aV H5.o.1.ord H5.o.1.aW (by decide) e.symm))
   go_upto_region 4 with(fail)
   go_region_law((refine bL _ rfl (.tmp 44) (.tmp 47) 40 rfl 0 3 i1 _ 1 8 underlying40 dX er eu eK rfl (by decide) (T a.oA s.order.length a.oc) s.order.length (ints s.order) (by simp[Act.eval]) (mi.o _ (by first|exact((Ch.r _ w5).drew).alloc _|exact((Ch.r _ w5).alloc _).drew|exact(Ch.r _ w5).alloc _)) (w5.heap.size+1) (G ⟨w5.heap.size,0,U⟩) 1 1 [I J tx] (by simp[Act.eval]) (by first|exact cD _ 3 #[I J tx] 1 1 rfl|exact(cD w5 3 #[I J tx] 1 1 rfl).drew) (by simp[Value.oneCell']) sr jE (by omega) ?_;intro v9 w9 cC gV fl;obtain⟨A9,c9,rfl⟩:=bz cC;have mS:=O cC;have Ay:=O gV;have rF:=O fl;have gj:=O (sK.o _ w9 (by first|exact((Ch.r _ w5).drew).alloc _|exact((Ch.r _ w5).alloc _).drew|exact(Ch.r _ w5).alloc _) gV);have nY:=O (Ch.bF gV);clear cC gV fl;have u6:=gj.o.c 6;have ul:=gj.o.lt;have uf:=gj.o.frozen))
   all_goals
    have Vq:=O (show Ch (λk=>(T a.oA s.order.length a.oc).ownBlock=G k) w5 w9 from by first|exact(((Ch.r _ w5).alloc _).drew).t nY.o|exact(((Ch.r _ w5).drew).alloc _).t nY.o|exact((Ch.r _ w5).alloc _).t nY.o);have QP:=O (show∀k,(T A9 (s.order.length+1) c9).ownBlock=G k->(T a.oA s.order.length a.oc).ownBlock=G k\/w5.heap.size<=k from λk hk=>by
     rcases rF.o with e|e
     ·exact .inl (e▸hk)
     ·right
      rw[e]at hk;injection hk with hk;have hk:w5.heap.size+1=k:=by first|exact hk|simpa using hk
      omega)
    have HX:=O (show w9.ownsRow 0 3 1 (T A9 (s.order++[tx]).length c9) (s.order++[tx]).length (ints (s.order++[tx]))from by
     have:=mS.o;rw[aL,show ints (s.order++[tx])=ints s.order++[I J tx] by simp[ints]];exact this)
    have lJ:=O ((Ch.r (λk=>k=sb) w9).at_ 6 (T A9 (s.order.length+1) c9));have HU:=O (H5.o.1.Ve (l:=s.order++[tx]) (A:=A9) (c:=c9) HX.o Vq.o (λk hk=>QP.o k (by rw[aL]at hk;exact hk)) lJ.o (bu (gj.o.bm 6 (T A9 (s.order.length+1) c9)) (by simp)));have QR:=O (OU.o.ch Vq.o (λe=>aV H5.o.1.ord OU.o (by decide) e));have YD:=O (mM.o.ch Vq.o (λe=>aV H5.o.1.ord mM.o (by decide) e));have QS:=O (QR.o.ch lJ.o (λe=>QR.o.lF gj.o (by decide) e));have Be:=O (YD.o.ch lJ.o (λe=>YD.o.lF gj.o (by decide) e));clear u6 ul uf x6 xl c1 cl mS Ay rF;generalize w9.setCell ⟨sb,6,U⟩ (T A9 (s.order.length+1) c9)=Kv at *;have⟨p0,p1,p2,p3⟩:=eW QS.o;have pl:=QS.o.lt;have⟨z0,z1,z2,z3⟩:=eW Be.o;have zl:=Be.o.lt;have zf:=Be.o.frozen;go_wp2_with fail;change bodyPost _ _ _ _ _ (cI Kv (qb+1) (⟨code,2,VV,HB⟩:dh));have HY:=O (bU Be.o (⟨code,2,VV,HB⟩:dh));have hq:=dp.o;have iU:=O (bX Kv (qb+1) (⟨code,2,VV,HB⟩:dh));have HM:=O (HU.o.1.ch iU.o (λg hg e=>by
     rcases HU.o.2.new g hg with h'|h'
     ·exact Wr.o g (by omega) (by have:=yY.o;omega) h'
     ·have:=mM.o.lt;omega))
    have HS:=O (show Sub _ _ w (cI Kv (qb+1) (⟨code,2,VV,HB⟩:dh))from⟨(H5.o.2.trans HU.o.2).ch.trans iU.o (λk hk=>.inr (by omega)),(H5.o.2.trans HU.o.2).new⟩);generalize cI Kv (qb+1) (⟨code,2,VV,HB⟩:dh)=w6 at *;have⟨g0,g1,g2,g3⟩:=eW HY.o;refine aE (v:=dU (⟨code,2,VV,HB⟩:dh)) (by simp[results,results64,go_sem,g0,g1,g2,g3]) rfl ⟨rfl,b,A9,c9,?_⟩
    try rw[if_pos ⟨rfl,rfl,rfl,rfl⟩]
    exact⟨HM.o,HS.o⟩
end
abbrev zK:Array Value:=#[I J 0,I J 0,I J 0,I J 0,I J 0,I J 0,I J 0,V ⟨#[]⟩,V ⟨#[]⟩,I J 0,Y false]
section
variable{w w':aw}{sb aZ cY k i:Nat}{C:Cf}{s s':dM}{a:gE}{x:dm}{b:ia}{d d':eF}{e:qo}{cm:bQ}
theorem Gl{b:Nat}{w:aw}{cs:Array Value}(h:aX w b 62 cs)(h11:cs.size=11)(i k:Nat)(cm:bQ):aX (ka w b i k cm) b 62 (jL ⟨i,k,cm⟩).toArray:=
 bu (((((((((((h.bm 0 (I J (i:Nat))).bm 1 (I J (k:Nat))).bm 2 (I J cm.kind)).bm 3 (I J cm.tx)).bm 4 (I J cm.aS)).bm 5 (I J cm.aY)).bm 6 (I J cm.op)).bm 7 (V cm.key)).bm 8 (V cm.val)).bm 9 (I J cm.mode)).bm 10 (Y cm.yes)) (by
  rcases cs with⟨l⟩
  match l,h11 with
  |[v0,v1,v2,v3,v4,v5,v6,v7,v8,v9,v10],_=>simp[jL])
theorem ya(h:gR w sb C aZ s a){i:Int}(hi:i<0\/s.dr.length<=i)(hf:s.dr.length<=9):
 ax av 61 #[X (G ⟨sb,0,U⟩),I J i] w λe w'=>e=ay (aB #[aC zK,I J 6])/\M w w':=by
 have OP:=O (YC (h.aR ((Ch.r _ w).alloc (az zK 62))) hi hf);clear h hi;go_enter func61,ntmps61;go_wp2_with fail;refine OP.o.mono ?_;rintro e w2 ⟨rfl,ew⟩;subst w2;dsimp only;go_wp2_with fail;exact aE (v:=aB #[aC zK,I J 6]) (by simp[results,results61,go_sem]) rfl ⟨rfl,(Ch.r _ w).alloc _⟩
theorem vy(h:gR w sb C aZ s a)(hd:s.dr[i]?=G d)(hn:d.ph=8)(hf:s.dr.length<=9):
 ax av 61 #[X (G ⟨sb,0,U⟩),I J (i:Nat)] w λe w'=>e=ay (aB #[aC zK,I J 8])/\M w w':=by
 have hi:=bf hd;obtain⟨w1,bT⟩:=bG (w.alloc (az zK 62));have cH:=kb bT;have H1:=O (h.aR cH.o);have OP:=O (Ex H1.o hi hf);have oN:=O (MA (H1.o.dr i d hd) hn);have cw:=O (show aX w1 w.heap.size 62 zK from bT▸aX.new w 62 _);have x3:=H1.o.cells.2.2.2.1;have xl:=H1.o.aW.lt;obtain⟨g,hA,nz,y⟩:=H1.o.Gj hi;rw[hA]at x3;have Aa:(i:Int)<(s.dr.length:Int):=by omega
 clear h hd hn hA;go_enter func61,ntmps61;go_wp2_with fail
 try rw[bT]
 obtain⟨qb,bE⟩:=bG (w.heap.size);rw[bE]at cw
 try simp only[bE]
 have dp:=O bE;clear bT bE;refine OP.o.mono ?_;rintro e w2 ⟨rfl,ew⟩;subst w2;dsimp only;go_wp2_with fail;refine oN.o.mono ?_;rintro e w2 ⟨rfl,hN⟩;dsimp only;have bJ:=O (cH.o.t hN);have cJ:=O (cw.o.ch hN (λh=>h));clear hN x3 xl y nz;have⟨z0,z1,z2,z3,z4,z5⟩:=(show _/\_/\_/\_/\_/\_ from⟨cJ.o.c 0,cJ.o.c 1,cJ.o.c 2,cJ.o.c 3,cJ.o.c 4,cJ.o.c 5⟩);have⟨z6,z7,z8,z9,Yt⟩:=(show _/\_/\_/\_/\_ from⟨cJ.o.c 6,cJ.o.c 7,cJ.o.c 8,cJ.o.c 9,cJ.o.c 10⟩);have zl:=cJ.o.lt;have zf:=cJ.o.frozen;go_wp2_with fail;change bodyPost _ _ _ _ _ ((ka w2 qb 0 0 ⟨0,0,0,0,0,⟨#[]⟩,⟨#[]⟩,0,false⟩).alloc _);have HY:=O ((Gl cJ.o rfl 0 0 ⟨0,0,0,0,0,⟨#[]⟩,⟨#[]⟩,0,false⟩).alloc (az (bN ⟨0,0,0,0,0,⟨#[]⟩,⟨#[]⟩,0,false⟩) 60));have cE:=O (((bJ.o.trans (rV w2 qb 0 0 ⟨0,0,0,0,0,⟨#[]⟩,⟨#[]⟩,0,false⟩) (λk hk=>.inr (by have:=dp.o;omega))).alloc (az (bN ⟨0,0,0,0,0,⟨#[]⟩,⟨#[]⟩,0,false⟩) 60)));change bodyPost _ _ _ _ _ ((ka w2 qb 0 0 ⟨0,0,0,0,0,⟨#[]⟩,⟨#[]⟩,0,false⟩).alloc (az (bN ⟨0,0,0,0,0,⟨#[]⟩,⟨#[]⟩,0,false⟩) 60));generalize(ka w2 qb 0 0 ⟨0,0,0,0,0,⟨#[]⟩,⟨#[]⟩,0,false⟩).alloc (az (bN ⟨0,0,0,0,0,⟨#[]⟩,⟨#[]⟩,0,false⟩) 60)=w3 at *;have⟨g0,g1,g2,g3,g4,g5⟩:=(show _/\_/\_/\_/\_/\_ from⟨HY.o.c 0,HY.o.c 1,HY.o.c 2,HY.o.c 3,HY.o.c 4,HY.o.c 5⟩);have⟨g6,g7,g8,g9,g10⟩:=(show _/\_/\_/\_/\_ from⟨HY.o.c 6,HY.o.c 7,HY.o.c 8,HY.o.c 9,HY.o.c 10⟩);exact aE (v:=aB #[aC zK,I J 8]) (by simp[results,results61,go_sem,jL,g0,g1,g2,g3,g4,g5,g6,g7,g8,g9,g10]) rfl ⟨rfl,cE.o⟩
theorem pj(h:gR w sb C aZ s a)(hd:s.dr[i]?=G d){k:Nat}(hn:df C i d=G (k,cm))(hf:s.dr.length<=9):
 ax av 61 #[X (G ⟨sb,0,U⟩),I J (i:Nat)] w λe w'=>e=ay (aB #[aC (jL ⟨i,k,cm⟩).toArray,I J 0])/\M w w':=by
 have hi:=bf hd;obtain⟨w1,bT⟩:=bG (w.alloc (az zK 62));have cH:=kb bT;have H1:=O (h.aR cH.o);have OP:=O (Ex H1.o hi hf);have oN:=O (gP (H1.o.dr i d hd) H1.o.ig hn);have cw:=O (show aX w1 w.heap.size 62 zK from bT▸aX.new w 62 _);have x3:=H1.o.cells.2.2.2.1;have xl:=H1.o.aW.lt;obtain⟨g,hA,nz,y⟩:=H1.o.Gj hi;rw[hA]at x3;have Aa:(i:Int)<(s.dr.length:Int):=by omega
 clear h hd hn hA;go_enter func61,ntmps61;go_wp2_with fail
 try rw[bT]
 obtain⟨qb,bE⟩:=bG (w.heap.size);rw[bE]at cw
 try simp only[bE]
 have dp:=O bE;clear bT bE;refine OP.o.mono ?_;rintro e w2 ⟨rfl,ew⟩;subst w2;dsimp only;go_wp2_with fail;refine oN.o.mono ?_;rintro e w2 ⟨rfl,hN⟩;dsimp only;have bJ:=O (cH.o.t hN);have cJ:=O (cw.o.ch hN (λh=>h));clear hN x3 xl y nz;have⟨z0,z1,z2,z3,z4,z5⟩:=(show _/\_/\_/\_/\_/\_ from⟨cJ.o.c 0,cJ.o.c 1,cJ.o.c 2,cJ.o.c 3,cJ.o.c 4,cJ.o.c 5⟩);have⟨z6,z7,z8,z9,Yt⟩:=(show _/\_/\_/\_/\_ from⟨cJ.o.c 6,cJ.o.c 7,cJ.o.c 8,cJ.o.c 9,cJ.o.c 10⟩);have zl:=cJ.o.lt;have zf:=cJ.o.frozen;go_wp2_with fail;obtain⟨kd,tx,aS,st,op,key,val,mode,yes⟩:=cm;change bodyPost _ _ _ _ _ ((ka w2 qb i k ⟨kd,tx,aS,st,op,key,val,mode,yes⟩).alloc _);have HY:=O ((Gl cJ.o rfl i k ⟨kd,tx,aS,st,op,key,val,mode,yes⟩).alloc (az (bN ⟨kd,tx,aS,st,op,key,val,mode,yes⟩) 60));have cE:=O (((bJ.o.trans (rV w2 qb i k ⟨kd,tx,aS,st,op,key,val,mode,yes⟩) (λk hk=>.inr (by have:=dp.o;omega))).alloc (az (bN ⟨kd,tx,aS,st,op,key,val,mode,yes⟩) 60)));change bodyPost _ _ _ _ _ ((ka w2 qb i k ⟨kd,tx,aS,st,op,key,val,mode,yes⟩).alloc (az (bN ⟨kd,tx,aS,st,op,key,val,mode,yes⟩) 60));generalize(ka w2 qb i k ⟨kd,tx,aS,st,op,key,val,mode,yes⟩).alloc (az (bN ⟨kd,tx,aS,st,op,key,val,mode,yes⟩) 60)=w3 at *;have⟨g0,g1,g2,g3,g4,g5⟩:=(show _/\_/\_/\_/\_/\_ from⟨HY.o.c 0,HY.o.c 1,HY.o.c 2,HY.o.c 3,HY.o.c 4,HY.o.c 5⟩);have⟨g6,g7,g8,g9,g10⟩:=(show _/\_/\_/\_/\_ from⟨HY.o.c 6,HY.o.c 7,HY.o.c 8,HY.o.c 9,HY.o.c 10⟩);exact aE (v:=aB #[aC (jL ⟨i,k,⟨kd,tx,aS,st,op,key,val,mode,yes⟩⟩).toArray,I J 0]) (by simp[results,results61,go_sem,jL,g0,g1,g2,g3,g4,g5,g6,g7,g8,g9,g10]) rfl ⟨rfl,cE.o⟩
end
theorem Ey{P:Program}{S:Nat->Prop}{g:Nat}{W W':aw}{n:String}{cs:Array Value}(h:Ch S W W')(hg:P.globalNamed n=G g)(hl:g<W.heap.size)(hS: ¬S g)(hv:W.var? P n=G cs):W'.var? P n=G cs:=by
 unfold World.var? at hv⊢;simp only[hg,Option.bind_some]at hv⊢;rw[h.block g hl hS];exact hv
theorem rZ{P:Program}{g:Nat}{W:aw}{n:String}{cs:Array Value}(hg:P.globalNamed n=G g)(hv:W.var? P n=G cs):g<W.heap.size:=by
 unfold World.var? at hv;simp only[hg,Option.bind_some]at hv;rcases Nat.lt_or_ge g W.heap.size with h|h
 ·exact h
 ·rw[Array.getElem?_eq_none h]at hv;cases hv
theorem zL{S:Nat->Prop}{w w':aw}(h:gK.Env w)(hC:Ch S w w')(hS: ∀g,S g->4<=g):gK.Env w':=by
 have g1:av.globalNamed "strconv.ErrSyntax"=G 1:=by kernel_rfl
 have g2:av.globalNamed "strconv.ErrRange"=G 2:=by kernel_rfl
 have g3:av.globalNamed "internal/strconv.uint64pow10"=G 3:=by kernel_rfl
 obtain⟨tp,p,e⟩:=h.bad;obtain⟨tp',p',e'⟩:=h.cv;exact⟨Ey hC g3 (rZ g3 h.tN) (λe=>by have:=hS _ e;omega) h.tN,⟨tp,p,Ey hC g1 (rZ g1 e) (λe=>by have:=hS _ e;omega) e⟩,⟨tp',p',Ey hC g2 (rZ g2 e') (λe=>by have:=hS _ e;omega) e'⟩⟩
structure gS(w:aw)(sb:Nat)(C:Cf)(aZ:Nat)(s:dM)(a:gE):Prop where
 m:gR w sb C aZ s a
 env:gK.Env w
 cv: ∀g,a.F C sb s g->4<=g
def gE.same(a a':gE):Prop:=a'.sA=a.sA/\a'.sc=a.sc/\a'.iz=a.iz
def sU(w:aw)(sb:Nat)(C:Cf)(aZ:Nat)(s:dM)(a:gE)(s':dM)(w':aw):Prop:=
 ∃a',gS w' sb C aZ s' a'/\Sub (a.F C sb s) (a'.F C sb s') w w'/\a.same a'
section
variable{w w' eZ:aw}{sb aZ cY k i:Nat}{C:Cf}{s s':dM}{a a':gE}{x:dm}{b:ia}{d d':eF}{e:qo}{cm:bQ}
theorem gS.aR(h:gS w sb C aZ s a)(hC:M w w'):gS w' sb C aZ s a:=⟨h.m.aR hC,h.env.aR hC,h.cv⟩
theorem gS.four(h:gS w sb C aZ s a):4<=w.heap.size:=by
 have g3:av.globalNamed "internal/strconv.uint64pow10"=G 3:=by kernel_rfl
 have:=rZ g3 h.env.tN;omega
theorem gS.next(h:gS w sb C aZ s a)(hm:gR w' sb C cY s' a')(hs:Sub (a.F C sb s) (a'.F C sb s') w w'):gS w' sb C cY s' a':=
 ⟨hm,zL h.env hs.ch h.cv,λg hg=>by
   rcases hs.new g hg with e|e
   ·exact h.cv g e
   ·have:=h.four;omega⟩
theorem gR.fW(h:gR w sb C aZ s a)(hk:k<C.ns)(hi:i<s.dr.length): ∃g f,a.sA=G ⟨g,0,U⟩/\a.cA=G ⟨f,0,U⟩/\w.cell? ⟨sb,2,U⟩=G (T (G ⟨g,0,U⟩) C.ns a.sc)/\w.cell? ⟨sb,3,U⟩=G (T (G ⟨f,0,U⟩) s.dr.length a.cc)/\
 w.cell? ⟨g,k,U⟩=G (X (G ⟨a.iz k,0,U⟩))/\w.cell? ⟨f,i*2,U⟩=G (X (G ⟨a.lK i,0,U⟩)):=by
 obtain⟨g,hA,_,y⟩:=h.oD hk;obtain⟨f,hB,_,z⟩:=h.Gj hi;have x2:=h.cells.2.2.1;have x3:=h.cells.2.2.2.1;rw[hA]at x2;rw[hB]at x3;exact⟨g,f,hA,hB,x2,x3,y,z⟩
theorem vz(h:gS w sb C aZ s a){B:Int}(hA:cO C s B)(cp:aZ<1000000)(j8:s.order.length<=1000)(hd:s.dr[i]?=G d)(hn:df C i d=G (k,cm)):
 ax av 36 #[X (G ⟨sb,0,U⟩),I J (i:Nat)] w λe w'=>e=ay (I J 0)/\sU w sb C (aZ+2) s a (gC C s i) w':=by
 have hi:=bf hd;obtain⟨g1,g2,g3,g4,g5,g6⟩:=vq hA h.m.ig.w hd hn;have oN:=O (pj h.m hd hn hA.w.fx);have xG:=O (λw' (hN:M w w')=>mY (h.m.aR hN) g3 g2.w g2.key g2.yes (hA.w.sh k) cp j8);have HRP:=O (MW hA.w g2.w.va k).2;have HH:=O h;have IU:(bO s k cm).1.dr=s.dr:=rfl;have HD:=O hd;have HS:=O (iy hd hn);obtain⟨ae,hO⟩:=bG (bO s k cm);obtain⟨S1,R⟩:=ae;rw[hO]at xG HRP HS IU;dsimp only at IU;have Tb:=O IU;have HK:=O g3;obtain⟨kd,tx,aS,st,op,key,val,mode,yes⟩:=cm;obtain⟨code,state,VV,HB⟩:=R;dsimp only at *;have jq:(k:Int)<(C.ns:Int):=by omega
 have Aa:(i:Int)<(s.dr.length:Int):=by omega
 clear h hA cp j8 hd hn g1 g2 g3 g4 g5 g6 IU hO;go_enter func36,ntmps36;go_wp2_with fail;refine oN.o.mono ?_;rintro e w1 ⟨rfl,hN⟩;dsimp only[jL];have cH:=O hN;clear hN;go_upto_region 4 with(fail);obtain⟨w2,ew⟩:=bG (w1.alloc (az #[I J (i:Nat),I J (k:Nat),I J kd,I J tx,I J aS,I J st,I J op,V key,V val,I J mode,Y yes] 62));have bJ:=O (show M w w2 from ew▸cH.o.alloc _);have cJ:=O (show aX w2 w1.heap.size 62 #[I J (i:Nat),I J (k:Nat),I J kd,I J tx,I J aS,I J st,I J op,V key,V val,I J mode,Y yes]from ew▸aX.new w1 62 _);have gD:=O (show w.heap.size<=w1.heap.size from cH.o.size);change Code.wp _ _ _ _ (w1.alloc (az #[I J (i:Nat),I J (k:Nat),I J kd,I J tx,I J aS,I J st,I J op,V key,V val,I J mode,Y yes] 62));rw[ew];obtain⟨qb,bE⟩:=bG (w1.heap.size);rw[bE]at cJ gD
 try simp only[bE]
 clear ew bE;have H2:=O (HH.o.m.aR bJ.o);obtain⟨g,f,sB,OV,_,_,_,_⟩:=H2.o.fW HK.o hi;have cZ:=O (λw' cY s' a' (hm:gR w' sb C cY s' a') (h1:a'.sA=a.sA/\a'.sc=a.sc) (h2:a'.cA=a.cA/\a'.cc=a.cc) (h3:a'.iz=a.iz/\a'.lK=a.lK) (hl:s'.dr.length=s.dr.length) (hq:aX w' qb 62 #[I J (i:Nat),I J (k:Nat),I J kd,I J tx,I J aS,I J st,I J op,V key,V val,I J mode,Y yes])=>
  (show w'.cell? ⟨sb,2,U⟩=G (T (G ⟨g,0,U⟩) C.ns a.sc)/\w'.cell? ⟨sb,3,U⟩=G (T (G ⟨f,0,U⟩) s.dr.length a.cc)/\w'.cell? ⟨g,k,U⟩=G (X (G ⟨a.iz k,0,U⟩))/\w'.cell? ⟨f,i*2,U⟩=G (X (G ⟨a.lK i,0,U⟩))/\w'.cell? ⟨qb,1,U⟩=G (I J (k:Nat))/\w'.cell? ⟨qb,2,U⟩=G (I J kd)/\w'.cell? ⟨qb,3,U⟩=G (I J tx)/\w'.cell? ⟨qb,4,U⟩=G (I J aS)/\w'.cell? ⟨qb,5,U⟩=G (I J st)/\w'.cell? ⟨qb,6,U⟩=G (I J op)/\w'.cell? ⟨qb,7,U⟩=G (V key)/\w'.cell? ⟨qb,8,U⟩=G (V val)/\w'.cell? ⟨qb,9,U⟩=G (I J mode)/\w'.cell? ⟨qb,10,U⟩=G (Y yes)from by
    obtain⟨g',f',e1,e2,y0,y1,y2,y3⟩:=hm.fW HK.o (i:=i) (by omega);rw[h1.1,sB]at e1;rw[h2.1,OV]at e2;injection e1 with e1;injection e1 with e1;injection e2 with e2;injection e2 with e2;subst e1 e2;rw[h1.2]at y0;rw[h2.2,hl]at y1;rw[h3.1]at y2;rw[h3.2]at y3;exact⟨y0,y1,y2,y3,hq.c 1,hq.c 2,hq.c 3,hq.c 4,hq.c 5,hq.c 6,hq.c 7,hq.c 8,hq.c 9,hq.c 10⟩))
 have kj:=O (cZ.o w2 aZ s a H2.o ⟨rfl,rfl⟩ ⟨rfl,rfl⟩ ⟨rfl,rfl⟩ rfl cJ.o);have dB:=O (show M w2 w2.drew from aU w2);have pr:=O (cZ.o w2.drew aZ s a (H2.o.aR dB.o) ⟨rfl,rfl⟩ ⟨rfl,rfl⟩ ⟨rfl,rfl⟩ rfl cJ.o.drew);have⟨c1,c2,c3,c4,c5,c6,c7,c8,c9,IC,c11,c12,c13,c14⟩:=kj.o;have xl:=H2.o.aW.lt;have bl:=cJ.o.lt;clear sB OV
 go_region_held3(λw'=>w'.cell? ⟨sb,2,U⟩=G (T (G ⟨g,0,U⟩) C.ns a.sc)/\w'.cell? ⟨sb,3,U⟩=G (T (G ⟨f,0,U⟩) s.dr.length a.cc)/\w'.cell? ⟨g,k,U⟩=G (X (G ⟨a.iz k,0,U⟩))/\w'.cell? ⟨f,i*2,U⟩=G (X (G ⟨a.lK i,0,U⟩))/\w'.cell? ⟨qb,1,U⟩=G (I J (k:Nat))/\w'.cell? ⟨qb,2,U⟩=G (I J kd)/\w'.cell? ⟨qb,3,U⟩=G (I J tx)/\w'.cell? ⟨qb,4,U⟩=G (I J aS)/\w'.cell? ⟨qb,5,U⟩=G (I J st)/\w'.cell? ⟨qb,6,U⟩=G (I J op)/\w'.cell? ⟨qb,7,U⟩=G (V key)/\w'.cell? ⟨qb,8,U⟩=G (V val)/\w'.cell? ⟨qb,9,U⟩=G (I J mode)/\w'.cell? ⟨qb,10,U⟩=G (Y yes))
  (first|with_reducible exact pr.o|with_reducible exact lY.o|with_reducible exact js.o)
  (first
    |(go_at_call 64;refine(xG.o _ (bJ.o.t dB.o)).mono ?_;rintro e w4 ⟨rfl,b4,oA4,oc4,B8,wm⟩
      dsimp only;have DK:=O B8;have B9:=O wm;have FJ:=O ((cJ.o.ch dB.o (λh=>h)).ch wm.ch (λe=>by have:=HH.o.m.fC _ e;have:=gD.o;omega));have lY:=O (cZ.o w4 _ _ _ B8 ⟨rfl,rfl⟩ ⟨rfl,rfl⟩ ⟨rfl,rfl⟩ (by rw[Tb.o]) FJ.o);have KB:=O ((HH.o.aR (bJ.o.t dB.o)).next B8 wm);have Nj:=O (show S1.dr[i]?=G d from by rw[Tb.o];exact HD.o);clear B8 wm;have⟨c1,c2,c3,c4,c5,c6,c7,c8,c9,IC,c11,c12,c13,c14⟩:=lY.o)
    |(go_at_call 65;refine(vk (cm:=⟨kd,tx,aS,st,op,key,val,mode,yes⟩) (DK.o.dr i d Nj.o) DK.o.ig KB.o.env HRP.o).mono ?_;rintro e w5 ⟨bb,e5,rfl,Tc,mv⟩
      dsimp only;have JU:=O (DK.o.zE Nj.o Tc mv);have DH:=O (FJ.o.ch mv.ch (λe=>by
       have e':gE.F C {a with sh:=bK a.sh k b4,oA:=oA4,oc:=oc4} sb S1 qb:=⟨2*i+8,by rw[Vd _ Nj.o];exact e⟩;rcases B9.o.new _ e' with e''|e''
       ·have:=HH.o.m.fC _ e'';have:=gD.o;omega
       ·have:=(cJ.o.ch dB.o (λh=>h)).lt;omega))
      have js:=O (cZ.o w5 _ _ _ JU.o.1 ⟨rfl,rfl⟩ ⟨rfl,rfl⟩ ⟨rfl,rfl⟩ (by simp[Tb.o]) DH.o);clear Tc mv))
 all_goals
  go_wp2_with fail;go_ret;refine⟨rfl,{a with sh:=bK a.sh k b4,oA:=oA4,oc:=oc4,rW:=bK a.rW i e5},?_⟩;rw[HS.o, <-Tb.o];exact⟨KB.o.next JU.o.1 JU.o.2,((Sub.bj _ (bJ.o.t dB.o)).trans B9.o).trans JU.o.2,rfl,rfl,rfl⟩
end
section
variable{w w' eZ:aw}{sb aZ cY k i:Nat}{C:Cf}{s s':dM}{a a':gE}{x:dm}{b:ia}{d d':eF}{e:qo}{cm:bQ}{B:Int}
theorem sU.same(h:gS w sb C aZ s a)(hN:M w w'):sU w sb C aZ s a s w':=⟨a,h.aR hN,Sub.bj _ hN,rfl,rfl,rfl⟩
theorem sU.mono(h:sU w sb C aZ s a s' w')(hm:aZ<=cY):sU w sb C cY s a s' w':=by
 obtain⟨a',h1,h2⟩:=h;exact⟨a',⟨h1.m.mono hm,h1.env,h1.cv⟩,h2⟩
theorem IY(h:gS w sb C aZ s a){i:Int}(hi:i<0\/s.dr.length<=i)(hf:s.dr.length<=9):
 ax av 36 #[X (G ⟨sb,0,U⟩),I J i] w λe w'=>e=ay (I J 6)/\M w w':=by
 have oN:=O (ya h.m hi hf);clear h hi;go_enter func36,ntmps36;go_wp2_with fail;refine oN.o.mono ?_;rintro e w1 ⟨rfl,hN⟩;dsimp only;have cH:=O hN;clear hN;go_wp2_with fail;go_ret;exact⟨rfl,cH.o.alloc _⟩
theorem vF(h:gS w sb C aZ s a)(hd:s.dr[i]?=G d)(hn:d.ph=8)(hf:s.dr.length<=9):
 ax av 36 #[X (G ⟨sb,0,U⟩),I J (i:Nat)] w λe w'=>e=ay (I J 8)/\M w w':=by
 have oN:=O (vy h.m hd hn hf);clear h hd hn;go_enter func36,ntmps36;go_wp2_with fail;refine oN.o.mono ?_;rintro e w1 ⟨rfl,hN⟩;dsimp only;have cH:=O hN;clear hN;go_wp2_with fail;go_ret;exact⟨rfl,cH.o.alloc _⟩
theorem Nq(h:gS w sb C aZ s a){i:Int}(hi:i<0\/s.dr.length<=i)(hf:s.dr.length<=9):
 ax av 27 #[X (G ⟨sb,0,U⟩),I J i] w λe w'=>e=ay (I J 6)/\M w w':=by
 have oN:=O (ya h.m hi hf);clear h hi;go_enter func27,ntmps27;go_wp2_with fail;refine oN.o.mono ?_;rintro e w1 ⟨rfl,hN⟩;dsimp only;have cH:=O hN;clear hN;go_wp2_with fail;go_ret;exact⟨rfl,cH.o.alloc _⟩
theorem IZ(h:gS w sb C aZ s a)(hd:s.dr[i]?=G d)(hn:d.ph=8)(hf:s.dr.length<=9):
 ax av 27 #[X (G ⟨sb,0,U⟩),I J (i:Nat)] w λe w'=>e=ay (I J 8)/\M w w':=by
 have oN:=O (vy h.m hd hn hf);clear h hd hn;go_enter func27,ntmps27;go_wp2_with fail;refine oN.o.mono ?_;rintro e w1 ⟨rfl,hN⟩;dsimp only;have cH:=O hN;clear hN;go_wp2_with fail;go_ret;exact⟨rfl,cH.o.alloc _⟩
theorem I0(h:gS w sb C aZ s a)(hd:s.dr[i]?=G d)(hn:df C i d=G (k,cm))(hf:s.dr.length<=9)(hq:s.req.length<512):
 ax av 27 #[X (G ⟨sb,0,U⟩),I J (i:Nat)] w λe w'=>e=ay (I J 0)/\sU w sb C aZ s a {s with req:=s.req++[(i,k,cm)]} w':=by
 have oN:=O (pj h.m hd hn hf);have HH:=O h;obtain⟨kd,tx,aS,st,op,key,val,mode,yes⟩:=cm;have tB:=O (λw' (hN:M w w')=>(show ax av 62 #[X (G ⟨a.qb,0,U⟩),aC #[I J (i:Nat),I J (k:Nat),I J kd,I J tx,I J aS,I J st,I J op,V key,V val,I J mode,Y yes]] w' _ from BU (h.m.rq.aR hN) hq (i,k,⟨kd,tx,aS,st,op,key,val,mode,yes⟩)))
 try dsimp only at *
 clear h hd hn hq;go_enter func27,ntmps27;go_wp2_with fail;refine oN.o.mono ?_;rintro e w1 ⟨rfl,hN⟩;dsimp only[jL];have cH:=O hN;clear hN;go_upto_region 4 with(fail);obtain⟨w2,ew⟩:=bG (w1.alloc (az #[I J (i:Nat),I J (k:Nat),I J kd,I J tx,I J aS,I J st,I J op,V key,V val,I J mode,Y yes] 62));have bJ:=O (show M w w2 from ew▸cH.o.alloc _);have cJ:=O (show aX w2 w1.heap.size 62 #[I J (i:Nat),I J (k:Nat),I J kd,I J tx,I J aS,I J st,I J op,V key,V val,I J mode,Y yes]from ew▸aX.new w1 62 _);have gD:=O (show w.heap.size<=w1.heap.size from cH.o.size);change Code.wp _ _ _ _ (w1.alloc (az #[I J (i:Nat),I J (k:Nat),I J kd,I J tx,I J aS,I J st,I J op,V key,V val,I J mode,Y yes] 62));rw[ew];obtain⟨qb,bE⟩:=bG (w1.heap.size);rw[bE]at cJ gD
 try simp only[bE]
 clear ew bE;have H2:=O (HH.o.m.aR bJ.o);have dB:=O (show M w2 w2.drew from aU w2);have cZ:=O (λw' (h4:w'.cell? ⟨sb,4,U⟩=G (X (G ⟨a.qb,0,U⟩))) (hq:aX w' qb 62 #[I J (i:Nat),I J (k:Nat),I J kd,I J tx,I J aS,I J st,I J op,V key,V val,I J mode,Y yes])=>(show w'.cell? ⟨sb,4,U⟩=G (X (G ⟨a.qb,0,U⟩))/\w'.cell? ⟨qb,0,U⟩=G (I J (i:Nat))/\w'.cell? ⟨qb,1,U⟩=G (I J (k:Nat))/\w'.cell? ⟨qb,2,U⟩=G (I J kd)/\w'.cell? ⟨qb,3,U⟩=G (I J tx)/\w'.cell? ⟨qb,4,U⟩=G (I J aS)/\w'.cell? ⟨qb,5,U⟩=G (I J st)/\w'.cell? ⟨qb,6,U⟩=G (I J op)/\w'.cell? ⟨qb,7,U⟩=G (V key)/\w'.cell? ⟨qb,8,U⟩=G (V val)/\w'.cell? ⟨qb,9,U⟩=G (I J mode)/\w'.cell? ⟨qb,10,U⟩=G (Y yes)from⟨h4,hq.c 0,hq.c 1,hq.c 2,hq.c 3,hq.c 4,hq.c 5,hq.c 6,hq.c 7,hq.c 8,hq.c 9,hq.c 10⟩));have kj:=O (cZ.o w2 H2.o.cells.2.2.2.2.1 cJ.o);have pr:=O (cZ.o w2.drew (H2.o.aR dB.o).cells.2.2.2.2.1 cJ.o.drew);have⟨c,c0,c1,c2,c3,c4,c5,c6,c7,c8,c9,IC⟩:=kj.o;have xl:=H2.o.aW.lt;have bl:=cJ.o.lt
 go_region_held3(λw'=>w'.cell? ⟨sb,4,U⟩=G (X (G ⟨a.qb,0,U⟩))/\w'.cell? ⟨qb,0,U⟩=G (I J (i:Nat))/\w'.cell? ⟨qb,1,U⟩=G (I J (k:Nat))/\w'.cell? ⟨qb,2,U⟩=G (I J kd)/\w'.cell? ⟨qb,3,U⟩=G (I J tx)/\w'.cell? ⟨qb,4,U⟩=G (I J aS)/\w'.cell? ⟨qb,5,U⟩=G (I J st)/\w'.cell? ⟨qb,6,U⟩=G (I J op)/\w'.cell? ⟨qb,7,U⟩=G (V key)/\w'.cell? ⟨qb,8,U⟩=G (V val)/\w'.cell? ⟨qb,9,U⟩=G (I J mode)/\w'.cell? ⟨qb,10,U⟩=G (Y yes))
  (first|with_reducible exact pr.o|with_reducible exact lY.o)
  (first
    |(go_at_call 62;refine(tB.o _ (bJ.o.t dB.o)).mono ?_;rintro e w4 ⟨rfl,A4,c4,hx,hs⟩
      dsimp only;have HU4:=O ((H2.o.aR dB.o).Eo (l:=s.req++[(i,k,⟨kd,tx,aS,st,op,key,val,mode,yes⟩)]) (by rw[aL];exact hx) (by rw[aL];exact hs));have FJ:=O ((cJ.o.ch dB.o (λh=>h)).ch hs.ch (λe=>by have:=HH.o.m.rq.fC _ e;have:=gD.o;omega));have lY:=O (cZ.o w4 HU4.o.1.cells.2.2.2.2.1 FJ.o);clear hx hs))
 all_goals
  go_wp2_with fail;go_ret;exact⟨rfl,_,(HH.o.aR (bJ.o.t dB.o)).next HU4.o.1 HU4.o.2,(Sub.bj _ (bJ.o.t dB.o)).trans HU4.o.2,rfl,rfl,rfl⟩
theorem I1(h:gS w sb C aZ s a)(hd:s.dr[i]?=G d)(hn:df C i d=G (k,cm))(hf:s.dr.length<=9)(hq:512<=s.req.length):
 ax av 27 #[X (G ⟨sb,0,U⟩),I J (i:Nat)] w λe w'=>e=ay (I J 7)/\M w w':=by
 have oN:=O (pj h.m hd hn hf);have HH:=O h;obtain⟨kd,tx,aS,st,op,key,val,mode,yes⟩:=cm;have tB:=O (λw' (hN:M w w')=>(show ax av 62 #[X (G ⟨a.qb,0,U⟩),aC #[I J (i:Nat),I J (k:Nat),I J kd,I J tx,I J aS,I J st,I J op,V key,V val,I J mode,Y yes]] w' _ from BS (h.m.rq.aR hN) hq (i,k,⟨kd,tx,aS,st,op,key,val,mode,yes⟩)))
 try dsimp only at *
 clear h hd hn hq;go_enter func27,ntmps27;go_wp2_with fail;refine oN.o.mono ?_;rintro e w1 ⟨rfl,hN⟩;dsimp only[jL];have cH:=O hN;clear hN;go_upto_region 4 with(fail);obtain⟨w2,ew⟩:=bG (w1.alloc (az #[I J (i:Nat),I J (k:Nat),I J kd,I J tx,I J aS,I J st,I J op,V key,V val,I J mode,Y yes] 62));have bJ:=O (show M w w2 from ew▸cH.o.alloc _);have cJ:=O (show aX w2 w1.heap.size 62 #[I J (i:Nat),I J (k:Nat),I J kd,I J tx,I J aS,I J st,I J op,V key,V val,I J mode,Y yes]from ew▸aX.new w1 62 _);have gD:=O (show w.heap.size<=w1.heap.size from cH.o.size);change Code.wp _ _ _ _ (w1.alloc (az #[I J (i:Nat),I J (k:Nat),I J kd,I J tx,I J aS,I J st,I J op,V key,V val,I J mode,Y yes] 62));rw[ew];obtain⟨qb,bE⟩:=bG (w1.heap.size);rw[bE]at cJ gD
 try simp only[bE]
 clear ew bE;have H2:=O (HH.o.m.aR bJ.o);have dB:=O (show M w2 w2.drew from aU w2);have cZ:=O (λw' (h4:w'.cell? ⟨sb,4,U⟩=G (X (G ⟨a.qb,0,U⟩))) (hq:aX w' qb 62 #[I J (i:Nat),I J (k:Nat),I J kd,I J tx,I J aS,I J st,I J op,V key,V val,I J mode,Y yes])=>(show w'.cell? ⟨sb,4,U⟩=G (X (G ⟨a.qb,0,U⟩))/\w'.cell? ⟨qb,0,U⟩=G (I J (i:Nat))/\w'.cell? ⟨qb,1,U⟩=G (I J (k:Nat))/\w'.cell? ⟨qb,2,U⟩=G (I J kd)/\w'.cell? ⟨qb,3,U⟩=G (I J tx)/\w'.cell? ⟨qb,4,U⟩=G (I J aS)/\w'.cell? ⟨qb,5,U⟩=G (I J st)/\w'.cell? ⟨qb,6,U⟩=G (I J op)/\w'.cell? ⟨qb,7,U⟩=G (V key)/\w'.cell? ⟨qb,8,U⟩=G (V val)/\w'.cell? ⟨qb,9,U⟩=G (I J mode)/\w'.cell? ⟨qb,10,U⟩=G (Y yes)from⟨h4,hq.c 0,hq.c 1,hq.c 2,hq.c 3,hq.c 4,hq.c 5,hq.c 6,hq.c 7,hq.c 8,hq.c 9,hq.c 10⟩));have kj:=O (cZ.o w2 H2.o.cells.2.2.2.2.1 cJ.o);have pr:=O (cZ.o w2.drew (H2.o.aR dB.o).cells.2.2.2.2.1 cJ.o.drew);have⟨c,c0,c1,c2,c3,c4,c5,c6,c7,c8,c9,IC⟩:=kj.o;have xl:=H2.o.aW.lt;have bl:=cJ.o.lt
 go_region_held3(λw'=>w'.cell? ⟨sb,4,U⟩=G (X (G ⟨a.qb,0,U⟩))/\w'.cell? ⟨qb,0,U⟩=G (I J (i:Nat))/\w'.cell? ⟨qb,1,U⟩=G (I J (k:Nat))/\w'.cell? ⟨qb,2,U⟩=G (I J kd)/\w'.cell? ⟨qb,3,U⟩=G (I J tx)/\w'.cell? ⟨qb,4,U⟩=G (I J aS)/\w'.cell? ⟨qb,5,U⟩=G (I J st)/\w'.cell? ⟨qb,6,U⟩=G (I J op)/\w'.cell? ⟨qb,7,U⟩=G (V key)/\w'.cell? ⟨qb,8,U⟩=G (V val)/\w'.cell? ⟨qb,9,U⟩=G (I J mode)/\w'.cell? ⟨qb,10,U⟩=G (Y yes))
  (first|with_reducible exact pr.o|with_reducible exact lY.o)
  (first
    |(go_at_call 62;refine(tB.o _ (bJ.o.t dB.o)).mono ?_;rintro e w4 ⟨rfl,hN⟩
      dsimp only;have dQ:=O ((bJ.o.t dB.o).t hN);have lY:=O (cZ.o w4 ((H2.o.aR dB.o).aR hN).cells.2.2.2.2.1 (cJ.o.drew.ch hN (λh=>h)));clear hN))
 all_goals
  go_wp2_with fail;go_ret;exact⟨rfl,dQ.o⟩
end
section
variable{w w' eZ:aw}{sb aZ cY k i p:Nat}{C:Cf}{s s':dM}{a a':gE}{x:dm}{b:ia}{d d':eF}{e:qo}{cm:bQ}{B:Int}{r:dh}
theorem Gs{α:Type}{l:List α}{p:Nat}{x:α}(h:l[p]?=G x):(l.eraseIdx p).length=l.length-1:=List.length_eraseIdx_of_lt (bf h)
theorem gR.Gt(h:gR w sb C aZ s a)(hk:k<C.ns): ∃g,a.sA=G ⟨g,0,U⟩/\w.cell? ⟨sb,2,U⟩=G (T (G ⟨g,0,U⟩) C.ns a.sc)/\w.cell? ⟨g,k,U⟩=G (X (G ⟨a.iz k,0,U⟩))/\w.cell? ⟨sb,5,U⟩=G (X (G ⟨a.ab,0,U⟩)):=by
 obtain⟨g,hA,_,y⟩:=h.oD hk;have x2:=h.cells.2.2.1;rw[hA]at x2;exact⟨g,hA,x2,y,h.cells.2.2.2.2.2.1⟩
theorem gR.Ck(h:gR w sb C aZ s a)(hi:i<s.dr.length): ∃f,a.cA=G ⟨f,0,U⟩/\w.cell? ⟨sb,3,U⟩=G (T (G ⟨f,0,U⟩) s.dr.length a.cc)/\w.cell? ⟨f,i*2,U⟩=G (X (G ⟨a.lK i,0,U⟩)):=by
 obtain⟨f,hB,_,z⟩:=h.Gj hi;have x3:=h.cells.2.2.2.1;rw[hB]at x3;exact⟨f,hB,x3,z⟩
theorem I2(h:gS w sb C aZ s a){i:Int}(hi:i<0\/s.req.length<=i):
 ax av 28 #[X (G ⟨sb,0,U⟩),I J i] w λe w'=>e=ay (I J 6)/\M w w':=by
 have vx:=O (sR h.m.rq hi);have x:=h.m.cells.2.2.2.2.1;have xl:=h.m.aW.lt;clear h hi;go_enter func28,ntmps28;go_wp2_with fail;refine vx.o.mono ?_;rintro e w1 ⟨rfl,hN⟩;dsimp only;have cH:=O hN;clear hN;go_wp2_with fail;go_ret;exact⟨rfl,cH.o.alloc _⟩
theorem Nr(h:gS w sb C aZ s a){i:Int}(hi:i<0\/s.ans.length<=i):
 ax av 29 #[X (G ⟨sb,0,U⟩),I J i] w λe w'=>e=ay (I J 6)/\M w w':=by
 have vx:=O (sS h.m.an hi);have x:=h.m.cells.2.2.2.2.2.1;have xl:=h.m.aW.lt;clear h hi;go_enter func29,ntmps29;go_wp2_with fail;refine vx.o.mono ?_;rintro e w1 ⟨rfl,hN⟩;dsimp only;have cH:=O hN;clear hN;go_wp2_with fail;go_ret;exact⟨rfl,cH.o.alloc _⟩
theorem ED(h:gS w sb C aZ s a)(hA:cO C s B)(cp:aZ<1000000)(j8:s.order.length<=1000)(hx:s.req[p]?=G (i,k,cm)):
 ax av 28 #[X (G ⟨sb,0,U⟩),I J (p:Nat)] w λe w'=>∃(E:Int),e=ay (I J E)/\
  (sU w sb C (aZ+2) s a {(bO {s with req:=s.req.eraseIdx p} k cm).1 with ans:=s.ans} w'\/sU w sb C (aZ+2) s a {(bO {s with req:=s.req.eraseIdx p} k cm).1 with ans:=s.ans++[(i,cm,(bO {s with req:=s.req.eraseIdx p} k cm).2)]} w'):=by
 have vx:=O (BZ h.m.rq hx);obtain⟨g2,g3⟩:=hA.w.rq _ (List.mem_of_getElem? hx);dsimp only at g2 g3;have hl:=Gs hx;have HU:=O (λw' (h1:dF w' a.qb a.qA (s.req.length-1) a.qc (s.req.eraseIdx p)) (h2:Sub (eO a.qb a.qA s.req.length a.qc) (eO a.qb a.qA (s.req.length-1) a.qc) w w')=>h.m.Eo (l:=s.req.eraseIdx p) (by rw[hl];exact h1) (by rw[hl];exact h2));have xG:=O (λw' a1 (hm:gR w' sb C aZ {s with req:=s.req.eraseIdx p} a1)=>mY hm g3 g2.w g2.key g2.yes (hA.w.sh k) cp j8);have HH:=O h;have HK:=O g3;have IU:(bO {s with req:=s.req.eraseIdx p} k cm).1.ans=s.ans:=rfl;obtain⟨ae,hO⟩:=bG (bO {s with req:=s.req.eraseIdx p} k cm);rw[hO]at xG IU⊢;obtain⟨S1,R⟩:=ae;dsimp only at IU;have Tb:=O IU;have jq:(k:Int)<(C.ns:Int):=by omega
 have x4:=h.m.cells.2.2.2.2.1;have xl:=h.m.aW.lt;obtain⟨kd,tx,aS,st,op,key,val,mode,yes⟩:=cm;obtain⟨code,state,VV,HB⟩:=R
 try dsimp only at *
 clear h hA cp j8 hx g2 g3 hl IU hO;go_enter func28,ntmps28;go_wp2_with fail;refine vx.o.mono ?_;rintro e w1 ⟨rfl,ot,OD⟩;dsimp only[jL];have I3:=O (HU.o w1 ot OD);clear ot OD x4 xl;go_upto_region 4 with(fail);obtain⟨w2,ew⟩:=bG (w1.alloc (az #[I J (i:Nat),I J (k:Nat),I J kd,I J tx,I J aS,I J st,I J op,V key,V val,I J mode,Y yes] 62));have bJ:=kb ew;have cJ:=O (show aX w2 w1.heap.size 62 #[I J (i:Nat),I J (k:Nat),I J kd,I J tx,I J aS,I J st,I J op,V key,V val,I J mode,Y yes]from ew▸aX.new w1 62 _);have Ow:=O I3.o.1.fC;change Code.wp _ _ _ _ (w1.alloc (az #[I J (i:Nat),I J (k:Nat),I J kd,I J tx,I J aS,I J st,I J op,V key,V val,I J mode,Y yes] 62));rw[ew];obtain⟨qb,bE⟩:=bG (w1.heap.size);have dp:=O bE;rw[bE]at cJ
 try simp only[bE]
 clear ew bE;have H2:=O (I3.o.1.aR bJ.o);obtain⟨g,sB,_,_,_⟩:=H2.o.Gt HK.o;have cZ:=O (λw' cY s' a' (hm:gR w' sb C cY s' a') (h1:a'.sA=a.sA/\a'.sc=a.sc) (h3:a'.iz=a.iz/\a'.ab=a.ab) (hq:aX w' qb 62 #[I J (i:Nat),I J (k:Nat),I J kd,I J tx,I J aS,I J st,I J op,V key,V val,I J mode,Y yes])=>
  (show w'.cell? ⟨sb,2,U⟩=G (T (G ⟨g,0,U⟩) C.ns a.sc)/\w'.cell? ⟨g,k,U⟩=G (X (G ⟨a.iz k,0,U⟩))/\w'.cell? ⟨sb,5,U⟩=G (X (G ⟨a.ab,0,U⟩))/\w'.cell? ⟨qb,0,U⟩=G (I J (i:Nat))/\w'.cell? ⟨qb,1,U⟩=G (I J (k:Nat))/\w'.cell? ⟨qb,2,U⟩=G (I J kd)/\w'.cell? ⟨qb,3,U⟩=G (I J tx)/\w'.cell? ⟨qb,4,U⟩=G (I J aS)/\w'.cell? ⟨qb,5,U⟩=G (I J st)/\w'.cell? ⟨qb,6,U⟩=G (I J op)/\w'.cell? ⟨qb,7,U⟩=G (V key)/\w'.cell? ⟨qb,8,U⟩=G (V val)/\w'.cell? ⟨qb,9,U⟩=G (I J mode)/\w'.cell? ⟨qb,10,U⟩=G (Y yes)from by
    obtain⟨g',e1,y0,y1,y2⟩:=hm.Gt HK.o;have VD:a.sA=G ⟨g,0,U⟩:=sB;rw[h1.1,VD]at e1;injection e1 with e1;injection e1 with e1;subst e1;rw[h1.2]at y0;rw[h3.1]at y1;rw[h3.2]at y2;exact⟨y0,y1,y2,hq.c 0,hq.c 1,hq.c 2,hq.c 3,hq.c 4,hq.c 5,hq.c 6,hq.c 7,hq.c 8,hq.c 9,hq.c 10⟩))
 have kj:=O (cZ.o w2 _ _ _ H2.o ⟨rfl,rfl⟩ ⟨rfl,rfl⟩ cJ.o);have dB:=O (show M w2 w2.drew from aU w2);have pr:=O (cZ.o w2.drew _ _ _ (H2.o.aR dB.o) ⟨rfl,rfl⟩ ⟨rfl,rfl⟩ cJ.o.drew);have⟨b0,b1,b2,c0,c1,c2,c3,c4,c5,c6,c7,c8,c9,IC⟩:=kj.o;have xl:=H2.o.aW.lt;have bl:=cJ.o.lt;clear sB;by_cases hf:s.ans.length<512
 all_goals have HF:=O hf
 all_goals clear hf
 ·go_region_held3(λw'=>w'.cell? ⟨sb,2,U⟩=G (T (G ⟨g,0,U⟩) C.ns a.sc)/\w'.cell? ⟨g,k,U⟩=G (X (G ⟨a.iz k,0,U⟩))/\w'.cell? ⟨sb,5,U⟩=G (X (G ⟨a.ab,0,U⟩))/\w'.cell? ⟨qb,0,U⟩=G (I J (i:Nat))/\w'.cell? ⟨qb,1,U⟩=G (I J (k:Nat))/\w'.cell? ⟨qb,2,U⟩=G (I J kd)/\w'.cell? ⟨qb,3,U⟩=G (I J tx)/\w'.cell? ⟨qb,4,U⟩=G (I J aS)/\w'.cell? ⟨qb,5,U⟩=G (I J st)/\w'.cell? ⟨qb,6,U⟩=G (I J op)/\w'.cell? ⟨qb,7,U⟩=G (V key)/\w'.cell? ⟨qb,8,U⟩=G (V val)/\w'.cell? ⟨qb,9,U⟩=G (I J mode)/\w'.cell? ⟨qb,10,U⟩=G (Y yes))
   (first|with_reducible exact pr.o|with_reducible exact lY.o|with_reducible exact js.o)
   (first
     |(go_at_call 64;refine(xG.o _ _ (H2.o.aR dB.o)).mono ?_;rintro e w4 ⟨rfl,b4,oA4,oc4,B8,wm⟩
       dsimp only;have DK:=O B8;have B9:=O wm;have FJ:=O ((cJ.o.ch dB.o (λh=>h)).ch wm.ch (λe=>by have:=Ow.o _ e;have:=dp.o;omega));have lY:=O (cZ.o w4 _ _ _ B8 ⟨rfl,rfl⟩ ⟨rfl,rfl⟩ FJ.o);clear B8 wm;have⟨b0,b1,b2,c0,c1,c2,c3,c4,c5,c6,c7,c8,c9,IC⟩:=lY.o)
     |(go_at_call 63;refine(show ax av 63 #[X (G ⟨a.ab,0,U⟩),aC #[I J (i:Nat),I J kd,I J tx,I J aS,I J st,I J op,V key,V val,I J mode,Y yes,I J code,I J state,V VV,Y HB]] _ _ from M5 DK.o.an (by rw[Tb.o];exact HF.o) (i,⟨kd,tx,aS,st,op,key,val,mode,yes⟩,⟨code,state,VV,HB⟩)).mono ?_;rintro e w5 ⟨rfl,A5,c5,Tc,mv⟩
       dsimp only;have JU:=O (DK.o.Ep (l:=S1.ans++[(i,⟨kd,tx,aS,st,op,key,val,mode,yes⟩,⟨code,state,VV,HB⟩)]) (by rw[aL];exact Tc) (by rw[aL];exact mv));have DH:=O (FJ.o.ch mv.ch (λe=>by
        have e':=B9.o.new qb ⟨5,e⟩;rcases e' with e''|e''
        ·have:=Ow.o _ e'';have:=dp.o;omega
        ·have:=(cJ.o.ch dB.o (λh=>h)).lt;omega))
       have js:=O (cZ.o w5 _ _ _ JU.o.1 ⟨rfl,rfl⟩ ⟨rfl,rfl⟩ DH.o);clear Tc mv))
  all_goals
   go_wp2_with fail;go_ret;refine⟨⟨_,rfl⟩,.inr ?_⟩;have hG:=((HH.o.next I3.o.1 I3.o.2).aR (bJ.o.t dB.o)).next DK.o B9.o;rw[<-Tb.o];exact⟨_,hG.next JU.o.1 JU.o.2,((I3.o.2.trans (Sub.bj _ (bJ.o.t dB.o))).trans B9.o).trans JU.o.2,rfl,rfl,rfl⟩
 ·go_region_held3(λw'=>w'.cell? ⟨sb,2,U⟩=G (T (G ⟨g,0,U⟩) C.ns a.sc)/\w'.cell? ⟨g,k,U⟩=G (X (G ⟨a.iz k,0,U⟩))/\w'.cell? ⟨sb,5,U⟩=G (X (G ⟨a.ab,0,U⟩))/\w'.cell? ⟨qb,0,U⟩=G (I J (i:Nat))/\w'.cell? ⟨qb,1,U⟩=G (I J (k:Nat))/\w'.cell? ⟨qb,2,U⟩=G (I J kd)/\w'.cell? ⟨qb,3,U⟩=G (I J tx)/\w'.cell? ⟨qb,4,U⟩=G (I J aS)/\w'.cell? ⟨qb,5,U⟩=G (I J st)/\w'.cell? ⟨qb,6,U⟩=G (I J op)/\w'.cell? ⟨qb,7,U⟩=G (V key)/\w'.cell? ⟨qb,8,U⟩=G (V val)/\w'.cell? ⟨qb,9,U⟩=G (I J mode)/\w'.cell? ⟨qb,10,U⟩=G (Y yes))
   (first|with_reducible exact pr.o|with_reducible exact lY.o|with_reducible exact js.o)
   (first
     |(go_at_call 64;refine(xG.o _ _ (H2.o.aR dB.o)).mono ?_;rintro e w4 ⟨rfl,b4,oA4,oc4,B8,wm⟩
       dsimp only;have DK:=O B8;have B9:=O wm;have FJ:=O ((cJ.o.ch dB.o (λh=>h)).ch wm.ch (λe=>by have:=Ow.o _ e;have:=dp.o;omega));have lY:=O (cZ.o w4 _ _ _ B8 ⟨rfl,rfl⟩ ⟨rfl,rfl⟩ FJ.o);clear B8 wm;have⟨b0,b1,b2,c0,c1,c2,c3,c4,c5,c6,c7,c8,c9,IC⟩:=lY.o)
     |(go_at_call 63;refine(show ax av 63 #[X (G ⟨a.ab,0,U⟩),aC #[I J (i:Nat),I J kd,I J tx,I J aS,I J st,I J op,V key,V val,I J mode,Y yes,I J code,I J state,V VV,Y HB]] _ _ from M4 DK.o.an (by rw[Tb.o];have:=HF.o;omega) (i,⟨kd,tx,aS,st,op,key,val,mode,yes⟩,⟨code,state,VV,HB⟩)).mono ?_;rintro e w5 ⟨rfl,hN⟩
       dsimp only;have ff:=O hN;have js:=O (cZ.o w5 _ _ _ (DK.o.aR hN) ⟨rfl,rfl⟩ ⟨rfl,rfl⟩ (FJ.o.ch hN (λh=>h)));clear hN))
  all_goals
   go_wp2_with fail;go_ret;refine⟨⟨_,rfl⟩,.inl ?_⟩;have hG:=((HH.o.next I3.o.1 I3.o.2).aR (bJ.o.t dB.o)).next DK.o B9.o;rw[<-Tb.o];exact⟨_,hG.aR ff.o,((I3.o.2.trans (Sub.bj _ (bJ.o.t dB.o))).trans B9.o).trans (Sub.bj _ ff.o),rfl,rfl,rfl⟩
theorem I4(h:gS w sb C aZ s a)(hA:cO C s B)(hx:s.ans[p]?=G (i,cm,r))(hd:s.dr[i]?=G d):
 ax av 29 #[X (G ⟨sb,0,U⟩),I J (p:Nat)] w λe w'=>e=ay (I J 0)/\
  sU w sb C aZ s a {s with ans:=s.ans.eraseIdx p,dr:=s.dr.set i (fk C i d cm r)} w':=by
 have vx:=O (B0 h.m.an hx);obtain⟨g2,g3⟩:=hA.w.an _ (List.mem_of_getElem? hx);dsimp only at g2 g3;have hl:=Gs hx;have HU:=O (λw' (h1:eA w' a.ab a.aA (s.ans.length-1) a.ac (s.ans.eraseIdx p)) (h2:Sub (eO a.ab a.aA s.ans.length a.ac) (eO a.ab a.aA (s.ans.length-1) a.ac) w w')=>h.m.Ep (l:=s.ans.eraseIdx p) (by rw[hl];exact h1) (by rw[hl];exact h2));have HH:=O h;have HRP:=O g3;have hi:=bf hd;have HI:=O hi;have HD:=O hd;have Aa:(i:Int)<(s.dr.length:Int):=by omega
 have x5:=h.m.cells.2.2.2.2.2.1;have xl:=h.m.aW.lt;obtain⟨kd,tx,aS,st,op,key,val,mode,yes⟩:=cm;obtain⟨code,state,VV,HB⟩:=r
 try dsimp only at *
 clear h hA hx g2 g3 hl hd hi;go_enter func29,ntmps29;go_wp2_with fail;refine vx.o.mono ?_;rintro e w1 ⟨rfl,ot,OD⟩;dsimp only[rU];have I3:=O (HU.o w1 ot OD);clear ot OD x5 xl;go_upto_region 3 with(fail);obtain⟨w2,ew⟩:=bG (w1.alloc (az #[I J (i:Nat),I J kd,I J tx,I J aS,I J st,I J op,V key,V val,I J mode,Y yes,I J code,I J state,V VV,Y HB] 68));have bJ:=kb ew;have cJ:=O (show aX w2 w1.heap.size 68 #[I J (i:Nat),I J kd,I J tx,I J aS,I J st,I J op,V key,V val,I J mode,Y yes,I J code,I J state,V VV,Y HB]from ew▸aX.new w1 68 _);have Ow:=O I3.o.1.fC;change Code.wp _ _ _ _ (w1.alloc (az #[I J (i:Nat),I J kd,I J tx,I J aS,I J st,I J op,V key,V val,I J mode,Y yes,I J code,I J state,V VV,Y HB] 68));rw[ew];obtain⟨qb,bE⟩:=bG (w1.heap.size);have dp:=O bE;rw[bE]at cJ
 try simp only[bE]
 clear ew bE;have H2:=O (I3.o.1.aR bJ.o);obtain⟨f,OV,_,_⟩:=H2.o.Ck HI.o;have cZ:=O (λw' cY s' a' (hm:gR w' sb C cY s' a') (h1:a'.cA=a.cA/\a'.cc=a.cc) (h3:a'.lK=a.lK) (hl:s'.dr.length=s.dr.length) (hq:aX w' qb 68 #[I J (i:Nat),I J kd,I J tx,I J aS,I J st,I J op,V key,V val,I J mode,Y yes,I J code,I J state,V VV,Y HB])=>
  (show w'.cell? ⟨sb,3,U⟩=G (T (G ⟨f,0,U⟩) s.dr.length a.cc)/\w'.cell? ⟨f,i*2,U⟩=G (X (G ⟨a.lK i,0,U⟩))/\w'.cell? ⟨qb,0,U⟩=G (I J (i:Nat))/\w'.cell? ⟨qb,1,U⟩=G (I J kd)/\w'.cell? ⟨qb,2,U⟩=G (I J tx)/\w'.cell? ⟨qb,3,U⟩=G (I J aS)/\w'.cell? ⟨qb,4,U⟩=G (I J st)/\w'.cell? ⟨qb,5,U⟩=G (I J op)/\w'.cell? ⟨qb,6,U⟩=G (V key)/\w'.cell? ⟨qb,7,U⟩=G (V val)/\w'.cell? ⟨qb,8,U⟩=G (I J mode)/\w'.cell? ⟨qb,9,U⟩=G (Y yes)/\w'.cell? ⟨qb,10,U⟩=G (I J code)/\w'.cell? ⟨qb,11,U⟩=G (I J state)/\w'.cell? ⟨qb,12,U⟩=G (V VV)/\w'.cell? ⟨qb,13,U⟩=G (Y HB)from by
    obtain⟨f',e1,y0,y1⟩:=hm.Ck (i:=i) (by rw[hl];exact HI.o);have qf1:a.cA=G ⟨f,0,U⟩:=OV;rw[h1.1,qf1]at e1;injection e1 with e1;injection e1 with e1;subst e1;rw[h1.2,hl]at y0;rw[h3]at y1;exact⟨y0,y1,hq.c 0,hq.c 1,hq.c 2,hq.c 3,hq.c 4,hq.c 5,hq.c 6,hq.c 7,hq.c 8,hq.c 9,hq.c 10,hq.c 11,hq.c 12,hq.c 13⟩))
 have kj:=O (cZ.o w2 _ _ _ H2.o ⟨rfl,rfl⟩ rfl rfl cJ.o);have dB:=O (show M w2 w2.drew from aU w2);have pr:=O (cZ.o w2.drew _ _ _ (H2.o.aR dB.o) ⟨rfl,rfl⟩ rfl rfl cJ.o.drew);have⟨b0,b1,c0,c1,c2,c3,c4,c5,c6,c7,c8,c9,IC,c11,c12,c13⟩:=kj.o;have xl:=H2.o.aW.lt;have bl:=cJ.o.lt;have G0:=O ((HH.o.next I3.o.1 I3.o.2).aR (bJ.o.t dB.o));clear OV
 go_region_held3(λw'=>w'.cell? ⟨sb,3,U⟩=G (T (G ⟨f,0,U⟩) s.dr.length a.cc)/\w'.cell? ⟨f,i*2,U⟩=G (X (G ⟨a.lK i,0,U⟩))/\w'.cell? ⟨qb,0,U⟩=G (I J (i:Nat))/\w'.cell? ⟨qb,1,U⟩=G (I J kd)/\w'.cell? ⟨qb,2,U⟩=G (I J tx)/\w'.cell? ⟨qb,3,U⟩=G (I J aS)/\w'.cell? ⟨qb,4,U⟩=G (I J st)/\w'.cell? ⟨qb,5,U⟩=G (I J op)/\w'.cell? ⟨qb,6,U⟩=G (V key)/\w'.cell? ⟨qb,7,U⟩=G (V val)/\w'.cell? ⟨qb,8,U⟩=G (I J mode)/\w'.cell? ⟨qb,9,U⟩=G (Y yes)/\w'.cell? ⟨qb,10,U⟩=G (I J code)/\w'.cell? ⟨qb,11,U⟩=G (I J state)/\w'.cell? ⟨qb,12,U⟩=G (V VV)/\w'.cell? ⟨qb,13,U⟩=G (Y HB))
  (first|with_reducible exact pr.o|with_reducible exact js.o)
  (first
    |(go_at_call 65;refine(vk (cm:=⟨kd,tx,aS,st,op,key,val,mode,yes⟩) (r:=⟨code,state,VV,HB⟩) (G0.o.m.dr i d HD.o) G0.o.m.ig G0.o.env HRP.o).mono ?_;rintro e w5 ⟨bb,e5,rfl,Tc,mv⟩
      dsimp only;have JU:=O (G0.o.m.zE (i:=i) (d:=d) HD.o Tc mv);have DH:=O ((cJ.o.ch dB.o (λh=>h)).ch mv.ch (λe=>by
       have:=Ow.o qb ⟨2*i+8,by rw[Vd (s:={s with ans:=s.ans.eraseIdx p}) (d:=d) _ HD.o];exact e⟩;have:=dp.o;omega))
      have js:=O (cZ.o w5 _ _ _ JU.o.1 ⟨rfl,rfl⟩ rfl (by simp) DH.o);clear Tc mv))
 all_goals
  go_wp2_with fail;go_ret;exact⟨rfl,_,G0.o.next JU.o.1 JU.o.2,(I3.o.2.trans (Sub.bj _ (bJ.o.t dB.o))).trans JU.o.2,rfl,rfl,rfl⟩
end
section
variable{w w1 w2 w':aw}{sb aZ cY k i p db:Nat}{C:Cf}{s s':dM}{a a':gE}{x:dm}{b:ia}{d d':eF}{e:qo}{cm:bQ}{B:Int}{r:dh}{A:Option Addr}{c:Nat}{v:Value}
theorem I5(f:Nat->Nat)(g:Nat->Value)(n db:Nat)(v:Value):B3 (bK f n db) (bK g n v) (n+1)=B3 f g n++[X (G ⟨db,0,U⟩),v]:=by
 unfold B3;rw[List.range_succ,List.flatMap_append];congr 1
 ·rw[List.flatMap_def,List.flatMap_def];congr 1
  exact List.map_congr_left λk hk=>by
   have:=List.mem_range.1 hk;rw[bC _ _ (by omega),bC _ _ (by omega)]
 ·simp[bI]
def gE.more(a:gE)(n:Nat)(A:Option Addr)(c db:Nat)(e:qo)(v:Value):gE:={a with cA:=A,cc:=c,lK:=bK a.lK n db,rW:=bK a.rW n e,pl:=bK a.pl n v}
theorem gR.EE(h:gR w sb C aZ s a)(hN:M w w1)(hD:ey w1 db a.rb C s.dr.length bW e)(hF: ∀g,e.F db bW g->w.heap.size<=g)
 (hx:w2.ownsRow 0 85 2 (T A (s.dr.length+1) c) (s.dr.length+1) (B3 a.lK a.pl s.dr.length++[X (G ⟨db,0,U⟩),v])) (zF:Ch (λg=>(T a.cA s.dr.length a.cc).ownBlock=G g) w1 w2)
 (hat: ∀g,(T A (s.dr.length+1) c).ownBlock=G g->(T a.cA s.dr.length a.cc).ownBlock=G g\/w1.heap.size<=g) (o8:Ch (λg=>g=sb) w2 w')
 (hb:aX w' sb 72 #[X (G ⟨a.rb,0,U⟩),I J C.tries,T a.sA C.ns a.sc,T A (s.dr.length+1) c,X (G ⟨a.qb,0,U⟩),X (G ⟨a.ab,0,U⟩),T a.oA s.order.length a.oc])
 (hv: ∃A n c,v=T A n c):
 gR w' sb C aZ {s with dr:=s.dr++[bW]} (a.more s.dr.length A c db e v)/\Sub (a.F C sb s) (gE.F C (a.more s.dr.length A c db e v) sb {s with dr:=s.dr++[bW]}) w w':=by
 have hlen:(s.dr++[bW]).length=s.dr.length+1:=by simp
 have En: ∀j y,(s.dr++[bW])[j]?=G y->(j=s.dr.length/\y=bW)\/(j<s.dr.length/\s.dr[j]?=G y):=λj y hy=>by
  by_cases e:j<s.dr.length
  ·rw[List.getElem?_append_left e]at hy;exact .inr ⟨e,hy⟩
  ·rw[List.getElem?_append_right (by omega)]at hy;have h0:=bf hy;simp at h0;rw[show j-s.dr.length=0 by omega]at hy;simp at hy;exact .inl ⟨by omega,hy.symm⟩
 have h1:=h.aR hN;have OS:aX w2 sb 72 (JS C a s):=h1.aW.ch zF (λe=>aV h1.cls h1.aW (by decide) e);have SZ:=bg hx o8 (λk hk e=>aV hx OS (by decide) (by rw[<-e];exact hk));have hC:Ch (λg=>∃j,(j=3\/j=0)/\a.P C sb s j g) w1 w':=(zF.mono (λg hg=>⟨3,.inl rfl,hg⟩)).t (o8.mono (λg hg=>⟨0,.inr rfl,hg⟩));have K:=h1.keeps _ hC;have hDn:ey w' db a.rb C s.dr.length bW e:=by
  refine hD.ch hC (λg hg ⟨j,_,hj⟩=>?_);have:=h.iu.fC j g hj;have:=hF g hg;omega
 have n1: ∀g,¬a.P C sb s (2*s.dr.length+8) g:=λg hg=>by
  have hg:if(2*s.dr.length+1)%2=0 then _ else∃d,s.dr[(2*s.dr.length+1) / 2]?=G d/\(a.rW ((2*s.dr.length+1) / 2)).F (a.lK ((2*s.dr.length+1) / 2)) d g:=hg;rw[if_neg (by omega),show(2*s.dr.length+1) / 2=s.dr.length by omega]at hg;obtain⟨d,h1,_⟩:=hg;have:=bf h1;omega
 obtain⟨q1,q2⟩:=h.iu.Ru (P':=th (a.P C sb s) (2*s.dr.length+8) (e.F db bW)) hN (2*s.dr.length+8) n1 hF hD.fC (λn g hg=>⟨λe'=>by subst e';rw[gG]at hg;exact hg,λe'=>by rw[cM _ _ e']at hg;exact hg⟩);have hs:Sub (th (a.P C sb s) (2*s.dr.length+8) (e.F db bW) 3) (λg=>(T A (s.dr.length+1) c).ownBlock=G g) w1 w2:=by
  rw[cM _ _ (by omega)];exact⟨zF,hat⟩
 obtain⟨q3,q4⟩:=q1.tC (P':=gE.P C (a.more s.dr.length A c db e v) sb {s with dr:=s.dr++[bW]}) 3 hs (λg hg=>(hx.lt g hg).2) (λn g hg=>by
  match n,hg with
  |0,hg=>exact⟨λe=>by omega,λ_=>by rw[cM _ _ (by omega)];exact hg⟩
  |1,hg=>exact⟨λe=>by omega,λ_=>by rw[cM _ _ (by omega)];exact hg⟩
  |2,hg=>exact⟨λe=>by omega,λ_=>by rw[cM _ _ (by omega)];exact hg⟩
  |3,hg=>
   have hg:(T A (s.dr++[bW]).length c).ownBlock=G g:=hg;rw[hlen]at hg;exact⟨λ_=>hg,λe=>absurd rfl e⟩
  |4,hg=>exact⟨λe=>by omega,λ_=>by rw[cM _ _ (by omega)];exact hg⟩
  |5,hg=>exact⟨λe=>by omega,λ_=>by rw[cM _ _ (by omega)];exact hg⟩
  |6,hg=>exact⟨λe=>by omega,λ_=>by rw[cM _ _ (by omega)];exact hg⟩
  |n+7,hg=>
   have hg:if n%2=0 then n / 2<C.ns/\(a.sh (n / 2)).F (a.iz (n / 2)) g else∃y,(s.dr++[bW])[n / 2]?=G y/\(bK a.rW s.dr.length e (n / 2)).F (bK a.lK s.dr.length db (n / 2)) y g:=hg;refine⟨λe=>by omega,λ_=>?_⟩;by_cases e2:n+7=2*s.dr.length+8
   ·rw[e2,gG];rw[if_neg (by omega),show n / 2=s.dr.length by omega,bI,bI]at hg;obtain⟨y,h1,h2⟩:=hg;rcases En _ y h1 with⟨_,rfl⟩|⟨e,_⟩
    ·exact h2
    ·omega
   ·rw[cM _ _ e2];show if n%2=0 then n / 2<C.ns/\(a.sh (n / 2)).F (a.iz (n / 2)) g else∃d,s.dr[n / 2]?=G d/\(a.rW (n / 2)).F (a.lK (n / 2)) d g;split
    ·rename_i e3;rw[if_pos e3]at hg;exact hg
    ·rename_i e3;rw[if_neg e3,bC _ _ (by omega),bC _ _ (by omega)]at hg;obtain⟨y,h1,h2⟩:=hg;rcases En _ y h1 with⟨e,_⟩|⟨_,e⟩
     ·omega
     ·exact⟨y,e,h2⟩)
 refine⟨⟨?_,K.ig (by omega),K.Ah (by omega),?_,λj=>?_,K.rq (by omega),K.an (by omega),K.ord (by omega),λj hj=>K.sh j hj (by omega),λj y hy=>?_,q3.mono o8.size⟩,(q2.trans q4).trans ⟨o8.mono (λg hg=>⟨0,by subst hg;show g=g;rfl⟩),λg hg=>.inl hg⟩⟩
 ·unfold JS gE.more;dsimp only;rw[hlen];exact hb
 ·unfold gE.more;dsimp only;rw[hlen,I5];exact SZ
 ·show∃A n c,bK a.pl s.dr.length v j=T A n c;unfold bK;split
  ·exact hv
  ·exact h.Rv j
 ·rcases En j y hy with⟨rfl,rfl⟩|⟨e1,e2⟩
  ·show ey w' (bK a.lK s.dr.length db s.dr.length) a.rb C s.dr.length _ (bK a.rW s.dr.length e s.dr.length);rw[bI,bI];exact hDn
  ·show ey w' (bK a.lK s.dr.length db j) a.rb C j y (bK a.rW s.dr.length e j);rw[bC _ _ (by omega),bC _ _ (by omega)];exact K.dr j y e2 (by omega)
theorem VE:eN jI:=⟨by decide,by decide,by decide,λh=>by simp[jI,bk]at h,by decide,by show(0:Nat)<=16;omega,λh=>by simp[jI,bk]at h,by show(0:Nat)<=32;omega⟩
theorem RJ(s:dM)(k:Nat):jc s k={s with sh:=dP s.sh k (fS (s.sh k) jI).1}:=by
 unfold jc bO;dsimp only;rw[if_neg (λh=>by have:=h.1;simp[jI,bk]at this)]
theorem Cm(h:gS w sb C aZ s a)(hv:QJ (s.sh k))(hk:k<C.ns)(cp:aZ<1000000):
 ax av 33 #[X (G ⟨sb,0,U⟩),I J (k:Nat)] w λe w'=>e=ay (I J 0)/\sU w sb C (aZ+2) s a (jc s k) w':=by
 have HH:=O h;have sP:=h.m.ig.w.ns;have JO:=O (show ax av 70 #[X (G ⟨a.iz k,0,U⟩),aC #[I J 9,I J 0,I J 0,I J 0,I J 0,V ⟨#[]⟩,V ⟨#[]⟩,I J 0,Y false]] w _ from DP (c:=jI) (h.m.sh k hk) VE (λe=>by simp[jI,bk]at e) (λe=>by simp[jI,bk]at e) (hv.wr _) cp);obtain⟨g,hA,nz,y⟩:=h.m.oD hk;have x2:=h.m.cells.2.2.1;rw[hA]at x2;have xl:=h.m.aW.lt;have h1:decide (C.ns<=k)=false:=decide_eq_false (by omega);have h2:decide ((k:Int)<0)=false:=decide_eq_false (by omega);have HK:=O hk;rw[RJ];obtain⟨ae,hO⟩:=bG (fS (s.sh k) jI);rw[hO]at JO⊢;clear h hA hv hO;go_enter func33,ntmps33;go_wp2_with fail;refine JO.o.mono ?_;rintro e w4 h4;obtain⟨rfl,b4,hx,hs⟩:=h4;dsimp only;have HU:=O (HH.o.m.M7 HK.o hx hs (by omega:aZ<=aZ+2));clear hx hs;go_wp2_with fail;go_ret;exact⟨rfl,_,HH.o.next HU.o.1 HU.o.2,HU.o.2,rfl,rfl,rfl⟩
theorem RK(h:gS w sb C aZ s a){i:Int}(hi:i<0\/C.ns<=i):
 ax av 33 #[X (G ⟨sb,0,U⟩),I J i] w λe w'=>e=ay (I J 6)/\M w w':=by
 have x2:=h.m.cells.2.2.1;have xl:=h.m.aW.lt;by_cases h0:i<0
 ·have h2:decide (i<0)=true:=decide_eq_true h0;clear h hi;go_enter func33,ntmps33;go_wp2_with fail;go_ret;exact⟨rfl,Ch.r _ _⟩
 ·have h2:decide (i<0)=false:=decide_eq_false h0;have h1:decide (i>=(C.ns:Int))=true:=decide_eq_true (by omega);have h3:decide ((C.ns:Int)<=i)=true:=decide_eq_true (by omega);clear h hi h0;go_enter func33,ntmps33;go_wp2_with fail;go_ret;exact⟨rfl,Ch.r _ _⟩
end
section
variable{w w1 w2 w':aw}{sb aZ cY k i p db pb:Nat}{C:Cf}{s s':dM}{a a':gE}
theorem Ns:(av.info? 85).map (λi=>(i.zero,i.size,i.bytes))=G (G (aC #[X U,T U 0 0]),2,32):=by kernel_rfl
theorem EF(h:gS w sb C aZ s a)(hf:s.dr.length<9)(hP:oB w pb C):
 ax av 26 #[X (G ⟨sb,0,U⟩),T (G ⟨pb,0,U⟩) 1 1] w λe w'=>e=ay (I J 0)/\sU w sb C aZ s a {s with dr:=s.dr++[bW]} w':=by
 obtain⟨i1,dX,er,eu,eK⟩:=info_parts Ns;have HH:=O h;have dB:=O (show M w w.drew from aU w);have gI:=O (BN (i:=(s.dr.length:Int)) (h.m.ig.aR dB.o) (aX.ch hP dB.o (λh=>h)) (by omega));have jj:=O (λw' (hN:M w w')=>Cl.uQ (c:=1) (rQ (aX.ch hP hN (λh=>h))) (by simp[Wy,Value.oneCell']) (by omega));have hfI:(s.dr.length:Int)<9:=by omega
 have hfn:s.dr.length<9:=hf;have Wx:IntKind.i64.wrap ((s.dr.length:Int)+1)=(s.dr.length:Int)+1:=IntWalk.i64_in _ ⟨by omega,by omega⟩;have cZ:=O (λw' (hN:M w w')=>(show w'.cell? ⟨sb,0,U⟩=G (X (G ⟨a.rb,0,U⟩))/\w'.cell? ⟨sb,1,U⟩=G (I J C.tries)from⟨(h.m.aR hN).cells.1,(h.m.aR hN).cells.2.1⟩));have x3:=h.m.cells.2.2.2.1;have⟨x0,x1⟩:=cZ.o _ (Ch.r _ w);have xl:=h.m.aW.lt;clear h hP hf;go_enter func26,ntmps26;go_upto_region 4 with(fail)
 go_cut[6,7] (λv6 v7 wr=>∃db e,v6=X (G ⟨db,0,U⟩)/\v7=I J 0/\ey wr db a.rb C s.dr.length bW e/\(∀g,e.F db bW g->w.heap.size<=g)/\M w wr)
 case first=>
  go_region_held3(λw'=>w'.cell? ⟨sb,0,U⟩=G (X (G ⟨a.rb,0,U⟩))/\w'.cell? ⟨sb,1,U⟩=G (I J C.tries))
   (first|with_reducible exact cZ.o _ dB.o|with_reducible exact cZ.o _ jn.o)
   (first
     |(go_at_call 59;with_reducible refine gI.o.mono ?_;rintro e w4 ⟨db,e4,rfl,hD,hF,hN⟩
       dsimp only;have Nj:=O hD;have B9:=O hF;have jn:=O (show M w w4 from dB.o.t hN);clear hD hF hN))
  all_goals
   go_wp2_with fail;go_meet;exact⟨db,e4,rfl,rfl,Nj.o,B9.o,jn.o⟩
 case rest=>
  obtain⟨db,e4,rfl,rfl,hD,hF,hN⟩:=hcut;have Nj:=O hD;have B9:=O hF;have dQ:=O hN;clear hD hF hN x0 x1 x3 xl;have H4:=O (HH.o.m.aR dQ.o);have x3:=H4.o.cells.2.2.2.1;have xl:=H4.o.aW.lt;have VF:=O (λw' (hN:M wc w')=>jj.o w' (dQ.o.t hN));have Nt:=O (show M wc wc.drew from aU wc);go_upto_region 7 with(fail);obtain⟨n,hn⟩:=bG (s.dr.length);have sr:s.dr.length+1<=maxLen:=by unfold maxLen;omega
  have jE:(s.dr.length+1)*32<=140737488355328:=by omega
  have mi:=O (λ(ar:aw) (hC:M wc ar)=>bg H4.o.cls hC (λ_ _ h=>h));have sK:=O (λ(ar w8:aw) (hC:M wc ar) (hg:ar.grownBy w8 (T a.cA s.dr.length a.cc).ownBlock)=>show aX w8 sb 72 (JS C a s)from
   (H4.o.aW.ch hC (λh=>h)).grown hg (λe=>aV H4.o.cls H4.o.aW (by decide) e.symm))
  clear hn
  go_region_law(first
   |(refine bL _ rfl (.tmp 38) (.tmp 43) 70 rfl 0 85 i1 _ 2 32 underlying70 dX er eu eK rfl (by decide) (T a.cA s.dr.length a.cc) s.dr.length (B3 a.lK a.pl s.dr.length) (by simp[Act.eval]) (mi.o _ (ff.o.alloc _)) (w5.heap.size+1) (G ⟨w5.heap.size,0,U⟩) 1 1 [X (G ⟨db,0,U⟩),T pA 1 pc] (by simp[Act.eval]) (cD w5 85 #[X (G ⟨db,0,U⟩),T pA 1 pc] 1 2 rfl) (by simp[Value.oneCell']) sr jE (by omega) ?_
     intro v9 w9 cC gV fl;obtain⟨A9,c9,rfl⟩:=bz cC;have mS:=O cC;have rF:=O fl;have gj:=O (sK.o _ w9 (ff.o.alloc _) gV);have nY:=O (Ch.bF gV);clear cC gV fl;have u3:=gj.o.c 3;have ul:=gj.o.lt;have uf:=gj.o.frozen)
   |(go_simp;go_at_call 60;(refine(VF.o _ Nt.o).mono ?_);rintro e w5 ⟨pA,pc,rfl,ho,hN⟩;have ff:=O (show M wc w5 from Nt.o.t hN);clear ho hN;dsimp only;have H5:=O (H4.o.aR ff.o);have x3:=H5.o.cells.2.2.2.1;have xl:=H5.o.aW.lt))
  all_goals
   have qf2:=O (show Ch (λk=>(T a.cA s.dr.length a.cc).ownBlock=G k) wc w9 from((ff.o.alloc _).mono (λ_ h=>h.elim)).t nY.o);have kD:=O (show∀k,(T A9 (s.dr.length+1) c9).ownBlock=G k->(T a.cA s.dr.length a.cc).ownBlock=G k\/wc.heap.size<=k from λk hk=>by
    rcases rF.o with e|e
    ·exact .inl (e▸hk)
    ·right
     rw[e]at hk;injection hk with hk;have hk:w5.heap.size+1=k:=by first|exact hk|simpa using hk
     have:=ff.o.size;omega)
   have HU:=O (HH.o.m.EE (A:=A9) (c:=c9) (v:=T pA 1 pc) dQ.o Nj.o B9.o mS.o qf2.o kD.o ((Ch.r (λk=>k=sb) w9).at_ 3 (T A9 (s.dr.length+1) c9)) (bu (gj.o.bm 3 (T A9 (s.dr.length+1) c9)) (by simp)) ⟨_,_,_,rfl⟩);clear x3 xl u3 ul uf mS rF;go_wp2_with fail;go_ret;exact⟨rfl,_,HH.o.next HU.o.1 HU.o.2,HU.o.2,rfl,rfl,rfl⟩
end
section
variable{w w':aw}{sb aZ k i:Nat}{C:Cf}{s s':dM}{a a':gE}{d:eF}
theorem vG(h:gR w sb C aZ s a)(hd:s.dr[i]?=G d)(hf:s.dr.length<=9):
 ax av 13 #[X (G ⟨sb,0,U⟩),I J (i:Nat)] w λe w'=>e=ay (I J (if d.ph=8 then d.o else 1))/\w'=w:=by
 have hi:=bf hd;have OP:=O (Ex h hi hf);have pv:=O (xR (h.dr i d hd));have Aa:(i:Int)<(s.dr.length:Int):=by omega
 obtain⟨f,OV,x3,y⟩:=h.Ck hi;have xl:=h.aW.lt;obtain⟨ah,hV⟩:=bG ((if d.ph=8 then d.o else 1));rw[hV]at pv⊢;clear h hd OV hV;go_enter func13,ntmps13;go_wp2_with fail;refine OP.o.mono ?_;rintro e w2 ⟨rfl,ew⟩;subst w2;dsimp only;go_wp2_with fail;refine pv.o.mono ?_;rintro e w2 ⟨rfl,ew⟩;subst w2;dsimp only;go_wp2_with fail;go_ret;exact⟨rfl,rfl⟩
theorem EG(h:gR w sb C aZ s a)(hn:s.order.length<=1000):
 ax av 11 #[X (G ⟨sb,0,U⟩)] w λe w'=>(∃A c,e=ay (T A s.order.length c))/\M w w':=by
 have x6:=h.cells.2.2.2.2.2.2;have xl:=h.aW.lt;have jj:aD (ax av 39 #[T a.oA s.order.length a.oc] w λe w'=>(∃A c,e=ay (T A s.order.length c))/\M w w'):=O (by
  cases hA:a.oA with
  |none=>
   have h0:s.order.length=0:=by
    rcases Nat.eq_zero_or_pos s.order.length with e|e
    ·exact e
    ·obtain⟨g,cap,hv,_,_⟩:=h.ord.form e;injection hv with hv _ _;rw[hA]at hv;cases hv
   rw[h0];exact(Cl.uS w a.oc).mono λe w' ⟨h1,h2⟩=>⟨⟨U,0,h1⟩,h2▸Ch.r _ _⟩
  |some ad=>
   have ho:=h.ord;rw[hA]at ho;exact(Cl.Hy (Reads.qN ho) (by intro u hu;obtain⟨z,_,rfl⟩:=List.mem_map.1 hu;rfl) (by omega) a.oc).mono λe w' ⟨A',c',h1,_,h3⟩=>⟨⟨A',c',h1⟩,h3⟩)
 clear h;go_enter func11,ntmps11;go_wp2_with fail;refine jj.o.mono ?_;rintro e w2 ⟨⟨A,c,rfl⟩,hN⟩;dsimp only;have HN:=O hN;clear hN;go_wp2_with fail;go_ret;exact⟨⟨A,c,rfl⟩,HN.o⟩
theorem sV(h:gR w sb C aZ s a)(cp:aZ<=1000000):
 ax av 10 #[X (G ⟨sb,0,U⟩),V C.key] w λe w'=>e=ay (aB #[V (eP (s.sh C.h).cur),Y (fB (s.sh C.h).cur)])/\M w w':=by
 have hk:=h.ig.w.h;have dB:=O (show M w w.drew from aU w);have Ag:=O (nK (h.ig.aR dB.o).m C.key);rw[h.ig.S3]at Ag;have HVA:=O (λw' (hN:M w w')=>uF ((h.sh C.h hk).aR hN) cp);obtain⟨g,sB,_,_,_⟩:=h.Gt hk;have cZ:=O (λw' (hN:M w w')=>(show w'.cell? ⟨sb,0,U⟩=G (X (G ⟨a.rb,0,U⟩))/\w'.cell? ⟨sb,2,U⟩=G (T (G ⟨g,0,U⟩) C.ns a.sc)/\w'.cell? ⟨g,C.h,U⟩=G (X (G ⟨a.iz C.h,0,U⟩))from by
  obtain⟨g',e1,y0,y1,_⟩:=(h.aR hN).Gt hk;have VD:a.sA=G ⟨g,0,U⟩:=sB;rw[VD]at e1;injection e1 with e1;injection e1 with e1;subst e1;exact⟨(h.aR hN).cells.1,y0,y1⟩))
 have⟨x0,x2,y⟩:=cZ.o _ (Ch.r _ w);have jq:(C.h:Int)<(C.ns:Int):=by omega
 have xl:=h.aW.lt;obtain⟨ah,hV⟩:=bG (eP (s.sh C.h).cur);obtain⟨HB,Yi⟩:=bG (fB (s.sh C.h).cur);rw[hV,Yi]at HVA⊢;clear h hV Yi sB hk;go_enter func10,ntmps10;go_upto_region 3 with(fail)
 go_region_held3(λw'=>w'.cell? ⟨sb,0,U⟩=G (X (G ⟨a.rb,0,U⟩))/\w'.cell? ⟨sb,2,U⟩=G (T (G ⟨g,0,U⟩) C.ns a.sc)/\w'.cell? ⟨g,C.h,U⟩=G (X (G ⟨a.iz C.h,0,U⟩)))
  (first|with_reducible exact cZ.o _ dB.o|with_reducible exact cZ.o _ dQ.o|with_reducible exact cZ.o _ ff.o)
  (first
    |(go_at_call 37;refine Ag.o.mono ?_;rintro e w4 ⟨rfl,hN⟩;have dQ:=O (show M w w4 from dB.o.t hN);clear hN;dsimp only;have⟨x0,x2,y⟩:=cZ.o _ dQ.o)
    |(go_at_call 38;refine(HVA.o _ dQ.o).mono ?_;rintro e w5 ⟨rfl,hN⟩;have ff:=O (show M w w5 from dQ.o.t hN);clear hN;dsimp only))
 all_goals
  go_wp2_with fail;exact aE (v:=aB #[V ah,Y HB]) (by simp[results,results10,go_sem]) rfl ⟨rfl,ff.o⟩
end
