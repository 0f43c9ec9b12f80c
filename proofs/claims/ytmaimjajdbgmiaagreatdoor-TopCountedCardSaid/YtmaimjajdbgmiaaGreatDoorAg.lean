import Derived.Test.YtmaimjajdbgmiaaGreatDoorAf
set_option linter.unusedVariables false
set_option linter.unusedSimpArgs false
set_option maxRecDepth 100000
set_option maxHeartbeats 0
open Option renaming none→U,some→G
open List renaming length_append→aL,length_singleton→aM
open Nat renaming le_refl→aN
namespace Go.Proofs.YtmaimjajdbgmiaaGreatDoor
open Go.Lib Go.RowKit
def Z7(f f':Rows):Prop:=∀tx r,f tx=G r->∃r',f' tx=G r'/\((r'.aS=r.aS/\(r'.state=r.state\/r.state=1))\/(r.state=3/\r.aS<r'.aS))
theorem Z7.refl(f:Rows):Z7 f f:=λtx r h=>⟨r,h,.inl ⟨rfl,.inl rfl⟩⟩
def SQ(f:Rows):Prop:=∀tx r,f tx=G r->r.state=1\/r.state=2\/r.state=3
structure uU(f f':Rows)(tx aS:Int)(dec:Bool):Prop where
 le:Z7 f f'
 st:SQ f->SQ f'
 new: ∀t r',f' t=G r'->r'.state=2->(∃r,f t=G r/\r.aS=r'.aS/\r.state=2)\/(dec=true/\t=tx/\r'.aS=aS/\∃r,f t=G r/\r.aS=aS/\r.state=1)
theorem uU.refl(f:Rows)(tx aS:Int)(b:Bool):uU f f tx aS b:=⟨Z7.refl f,λh=>h,λt r h hs=>.inl ⟨r,h,rfl,hs⟩⟩
theorem nI{f:Rows}{r:cz}(hn: ∀o,f r.tx=G o->o.aS<r.aS)(hs:r.state=1\/r.state=3)(aS:Int)(b:Bool):uU f (putRow f r).1 r.tx aS b:=by
 have key: ∀v:cz,v.aS=r.aS->v.state=r.state->(∀o,f r.tx=G o->o.state=3)->uU f (cQ f r.tx (G v)) r.tx aS b:=by
  intro v qQ Ws ho;refine⟨λt o h=>?_,λkO t o h=>?_,λt o h h2=>?_⟩
  ·by_cases e:t=r.tx
   ·subst e;exact⟨v,bD _ _ _,.inr ⟨ho o h,by rw[qQ];exact hn o h⟩⟩
   ·exact⟨o,by rw[bP _ _ e];exact h,.inl ⟨rfl,.inl rfl⟩⟩
  ·by_cases e:t=r.tx
   ·subst e;rw[bD]at h;injection h with h;subst h;rw[Ws];rcases hs with h|h<;>simp[h]
   ·rw[bP _ _ e]at h;exact kO t o h
  ·by_cases e:t=r.tx
   ·subst e;rw[bD]at h;injection h with h;subst h;rw[Ws]at h2;omega
   ·rw[bP _ _ e]at h;exact .inl ⟨o,h,rfl,h2⟩
 unfold putRow;split
 ·rename_i h;exact key r rfl rfl (λo ho=>by rw[h]at ho;cases ho)
 ·rename_i CH h;split
  ·rename_i h3;exact key _ rfl rfl (λo ho=>by rw[h]at ho;injection ho with ho;subst ho;exact h3)
  ·exact uU.refl _ _ _ _
theorem FV(f:Rows)(tx aS aY now:Int):uU f (eD f tx aS aY now).1 tx aS false:=by
 unfold eD;split
 ·rename_i h;exact nI (r:=⟨tx,aS,aY,1,now⟩) (λo ho=>by rw[h]at ho;cases ho) (.inl rfl) _ _
 ·rename_i r h;split
  ·rename_i h1;exact nI (r:=⟨tx,aS,aY,1,now⟩) (λo ho=>by rw[h]at ho;injection ho with ho;subst ho;exact h1) (.inl rfl) _ _
  ·split<;>exact uU.refl _ _ _ _
theorem D1{f:Rows}{tx aS:Int}{r v:cz}{b:Bool}(h:f tx=G r)(ha:v.aS=r.aS)(hs:v.state=r.state\/r.state=1)(h3:v.state=1\/v.state=2\/v.state=3\/v.state=r.state)
 (h2:v.state=2->r.state=2\/(b=true/\r.aS=aS/\r.state=1)):uU f (cQ f tx (G v)) tx aS b:=by
 refine⟨λt o ho=>?_,λkO t o ho=>?_,λt o ho X4=>?_⟩
 ·by_cases e:t=tx
  ·subst e;rw[h]at ho;injection ho with ho;subst ho;exact⟨v,bD _ _ _,.inl ⟨ha,hs⟩⟩
  ·exact⟨o,by rw[bP _ _ e];exact ho,.inl ⟨rfl,.inl rfl⟩⟩
 ·by_cases e:t=tx
  ·subst e;rw[bD]at ho;injection ho with ho;subst ho;have:=kO t r h;omega
  ·rw[bP _ _ e]at ho;exact kO t o ho
 ·by_cases e:t=tx
  ·subst e;rw[bD]at ho;injection ho with ho;subst ho;rcases h2 X4 with h'|⟨h1,h4,h5⟩
   ·exact .inl ⟨r,h,ha.symm,h'⟩
   ·exact .inr ⟨h1,rfl,by omega,r,h,h4,h5⟩
  ·rw[bP _ _ e]at ho;exact .inl ⟨o,ho,rfl,X4⟩
theorem xH(f:Rows)(tx aS:Int):uU f (cg f tx aS).1 tx aS true:=by
 unfold cg;split
 ·exact uU.refl _ _ _ _
 ·rename_i r h;split
  ·exact uU.refl _ _ _ _
  ·split
   ·exact uU.refl _ _ _ _
   ·rename_i h1 h2;split
    ·rename_i h3;exact D1 h rfl (.inr h3) (.inr (.inl rfl)) (λ_=>.inr ⟨rfl,by omega,h3⟩)
    ·split<;>exact uU.refl _ _ _ _
theorem FW(f:Rows)(tx aS now:Int):uU f (dI f tx aS now).1 tx aS false:=by
 unfold dI;split
 ·rename_i h;exact nI (r:=⟨tx,aS,0,3,now⟩) (λo ho=>by rw[h]at ho;cases ho) (.inr rfl) _ _
 ·rename_i r h;split
  ·rename_i h1;exact nI (r:=⟨tx,aS,0,3,now⟩) (λo ho=>by rw[h]at ho;injection ho with ho;subst ho;exact h1) (.inr rfl) _ _
  ·split
   ·exact uU.refl _ _ _ _
   ·split
    ·rename_i h3;exact D1 h rfl (.inr h3) (.inr (.inr (.inl rfl))) (λh=>by cases h)
    ·split<;>exact uU.refl _ _ _ _
theorem FX(f:Rows)(tx aS now:Int):uU f (eE f tx aS now).1 tx aS false:=by
 unfold eE;split
 ·exact uU.refl _ _ _ _
 ·rename_i r h;split
  ·exact uU.refl _ _ _ _
  ·split
   ·exact uU.refl _ _ _ _
   ·dsimp only;split
    ·exact D1 h rfl (.inl rfl) (.inr (.inr (.inr rfl))) (λh2=>.inl h2)
    ·exact uU.refl _ _ _ _
theorem Bp{f:Rows}{tx aS aY now:Int}:((eD f tx aS aY now).2.2=9->∃r,(eD f tx aS aY now).1 tx=G r/\(aS<r.aS\/(r.aS=aS/\r.state=3)))/\
 ((eD f tx aS aY now).2.2=0->(eD f tx aS aY now).2.1=1->∃r,(eD f tx aS aY now).1 tx=G r/\aS<=r.aS):=by
 have Bq:(∀r:cz,r.tx=tx->r.aS=aS->r.state=1->((putRow f r).2.2=9->False)/\((putRow f r).2.2=0->∃o,(putRow f r).1 tx=G o/\aS<=o.aS)):=by
  intro r h1 h2 h3;subst h1;unfold putRow;split
  ·exact⟨(λh=>by cases h),λ_=>⟨r,bD _ _ _,by omega⟩⟩
  ·split
   ·exact⟨(λh=>by cases h),λ_=>⟨_,bD _ _ _,by show aS<=r.aS;omega⟩⟩
   ·exact⟨(λh=>by cases h),λh=>by cases h⟩
 unfold eD;split
 ·obtain⟨a,b⟩:=Bq ⟨tx,aS,aY,1,now⟩ rfl rfl rfl;exact⟨λh=>(a h).elim,λh _=>b h⟩
 ·rename_i r h;split
  ·obtain⟨a,b⟩:=Bq ⟨tx,aS,aY,1,now⟩ rfl rfl rfl;exact⟨λh=>(a h).elim,λh _=>b h⟩
  ·split
   ·rename_i h1 h2;refine⟨λ_=>⟨r,h,by omega⟩,λh=>by cases h⟩
   ·refine⟨(λh=>by cases h),λ_ _=>⟨r,h,by omega⟩⟩
theorem uV{f:Rows}{tx aS:Int}:(cg f tx aS).2.2=0->((cg f tx aS).2.1=3->SQ f->∃r,(cg f tx aS).1 tx=G r/\(aS<r.aS\/(r.aS=aS/\r.state=3)))/\
 ((cg f tx aS).2.1=2->∃r,(cg f tx aS).1 tx=G r/\r.aS=aS/\r.state=2):=by
 unfold cg;split
 ·intro h;cases h
 ·rename_i r h;split
  ·intro h;cases h
  ·split
   ·rename_i h1 h2;exact λ_=>⟨λ_ _=>⟨r,h,.inl h2⟩,λh=>by cases h⟩
   ·rename_i h1 h2;split
    ·exact λ_=>⟨(λh=>by cases h),λ_=>⟨_,bD _ _ _,by show r.aS=aS;omega,rfl⟩⟩
    ·split
     ·rename_i h3 h4;exact λ_=>⟨(λh=>by cases h),λ_=>⟨r,h,by omega,h4⟩⟩
     ·rename_i h3 h4;exact λ_=>⟨λ_ kO=>⟨r,h,.inr ⟨by omega,by have:=kO tx r h;omega⟩⟩,λh=>by cases h⟩
theorem Br{f:Rows}{tx aS now:Int}:(dI f tx aS now).2.2=0->((dI f tx aS now).2.1=3->∃r,(dI f tx aS now).1 tx=G r/\(aS<r.aS\/(r.aS=aS/\r.state=3)))/\
 ((dI f tx aS now).2.1=2->SQ f->∃r,(dI f tx aS now).1 tx=G r/\r.aS=aS/\r.state=2):=by
 have Bq:(∀r:cz,r.tx=tx->r.aS=aS->r.state=3->(putRow f r).2.2=0->(putRow f r).2.1=3/\∃o,(putRow f r).1 tx=G o/\(aS<o.aS\/(o.aS=aS/\o.state=3))):=by
  intro r h1 h2 h3;subst h1;unfold putRow;split
  ·exact λ_=>⟨h3,r,bD _ _ _,.inr ⟨h2,h3⟩⟩
  ·split
   ·exact λ_=>⟨h3,_,bD _ _ _,.inr ⟨h2,h3⟩⟩
   ·intro h;cases h
 unfold dI;split
 ·intro h;obtain⟨a,b⟩:=Bq ⟨tx,aS,0,3,now⟩ rfl rfl rfl h;exact⟨λ_=>b,λh=>by rw[a]at h;cases h⟩
 ·rename_i r h;split
  ·intro h;obtain⟨a,b⟩:=Bq ⟨tx,aS,0,3,now⟩ rfl rfl rfl h;exact⟨λ_=>b,λh=>by rw[a]at h;cases h⟩
  ·split
   ·rename_i h1 h2;exact λ_=>⟨λ_=>⟨r,h,.inl h2⟩,λh=>by cases h⟩
   ·rename_i h1 h2;split
    ·exact λ_=>⟨λ_=>⟨_,bD _ _ _,.inr ⟨by show r.aS=aS;omega,rfl⟩⟩,λh=>by cases h⟩
    ·split
     ·rename_i h3 h4;exact λ_=>⟨λ_=>⟨r,h,.inr ⟨by omega,h4⟩⟩,λh=>by cases h⟩
     ·rename_i h3 h4;exact λ_=>⟨(λh=>by cases h),λ_ kO=>⟨r,h,by omega,by have:=kO tx r h;omega⟩⟩
theorem LZ{f:Rows}{tx aS now:Int}(h0:(eE f tx aS now).2.2=0)(h3:(eE f tx aS now).2.1=3): ∃r,(eE f tx aS now).1 tx=G r/\(aS<r.aS\/(r.aS=aS/\r.state=3)):=by
 unfold eE at h0 h3⊢;split at h0
 ·cases h0
 ·rename_i r h;rw[h]at h3;dsimp only at h3 h0⊢;split at h0
  ·cases h0
  ·rename_i h1;rw[if_neg h1]at h3⊢;split at h3
   ·rename_i h2;rw[if_pos h2];exact⟨r,h,.inl h2⟩
   ·rename_i h2;rw[if_neg h2];dsimp only at h3⊢;rw[if_neg (by omega)];exact⟨r,h,.inr ⟨by omega,h3⟩⟩
section
variable(C:Cf)
def nZ(s:dM)(tx:Int):Option cz:=(s.sh (bZ C tx)).rows tx
def iX(s:dM)(tx a:Int):Prop:=∃r,nZ C s tx=G r/\(a<r.aS\/(r.aS=a/\r.state=3))
def dK(s:dM)(tx a:Int):Prop:=∃r,nZ C s tx=G r/\r.aS=a/\r.state=2
def sN(s:dM)(tx a:Int):Prop:=∃r,nZ C s tx=G r/\a<=r.aS
def eH(s:dM)(tx a:Int):Prop:=∃d,(s.sh C.h).cr tx=G d/\a<=d
def jC(s:dM)(tx:Int):Prop:=(s.sh C.h).own.head?=G tx
def ko(s:dM):kB:=(s.sh C.h).cur
noncomputable def sO (r:kB):ByteArray:=qO (sumOf C.op r)
noncomputable def rH:Nat->kB
 |0=>U
 |m+1=>G (sO C (rH m))
def kJ(s:dM)(tx a:Int)(x:kB):Prop:=eH C s tx a\/∃L,(s.sh C.h).br tx=G L/\L.aS=a/\jC C s tx/\x=ko C s
def tw(s:dM)(tx a:Int):Prop:=eH C s tx a\/∃L,(s.sh C.h).br tx=G L/\L.aS=a/\L.wr.isSome=true
structure Le(s s':dM):Prop where
 dead: ∀{tx a},iX C s tx a->iX C s' tx a
 comm: ∀{tx a},dK C s tx a->dK C s' tx a
 wM: ∀{tx a},sN C s tx a->sN C s' tx a
 fresh: ∀{tx a x},kJ C s tx a x->kJ C s' tx a x
 dec: ∀{tx a},tw C s tx a->tw C s' tx a
structure Inv(s:dM):Prop where
 st: ∀k,SQ (s.sh k).rows
 nd:s.order.Nodup
 om: ∀tx,tx∈s.order↔ ∃a,dK C s tx a
 dn: ∀tx d,(s.sh C.h).cr tx=G d->iX C s tx d\/dK C s tx d
 lv: ∀tx L,(s.sh C.h).br tx=G L->sN C s tx L.aS/\¬eH C s tx L.aS/\∀v,L.wr=G v->jC C s tx/\v=sO C (ko C s)/\2<=L.last.op
 cl: ∀tx a,dK C s tx a->tw C s tx a
 va: ∃AL:List Int,AL.Nodup/\(∀tx,tx∈AL↔ ∃a,dK C s tx a/\eH C s tx a)/\ko C s=rH C AL.length
structure iK(s:dM)(k:Nat)(c:bQ):Prop where
 Z8:c.kind=2\/c.kind=3\/c.kind=4\/c.kind=7->k=C.h
 atHome:c.kind=1\/c.kind=5\/c.kind=6\/c.kind=8->k=bZ C c.tx
 op:(c.kind=2->c.op=0)/\(c.kind=3->c.op=1)/\(c.kind=4->c.op=2)
 lock:c.kind=2->sN C s c.tx c.aS
 put:c.kind=4->∃x,kJ C s c.tx c.aS x/\c.val=sO C x
 dec:c.kind=5->tw C s c.tx c.aS
 fin:c.kind=7->(c.yes=true->dK C s c.tx c.aS)/\(c.yes=false->iX C s c.tx c.aS)
structure gy(s:dM)(c:bQ)(r:dh):Prop where
 wM:c.kind=1->(r.code=9->iX C s c.tx c.aS)/\(r.code=0->r.state=1->sN C s c.tx c.aS)
 get:c.kind=3->r.code=0->kJ C s c.tx c.aS (if r.has then G r.val else U)
 put:c.kind=4->r.code=0->tw C s c.tx c.aS
 dec:c.kind=5\/c.kind=6->r.code=0->(r.state=3->iX C s c.tx c.aS)/\(r.state=2->dK C s c.tx c.aS)
 X5:c.kind=8->r.code=0->r.state=3->iX C s c.tx c.aS
end
section
variable{C:Cf}{s s' s'':dM}
theorem Le.refl(s:dM):Le C s s:=⟨id,id,id,id,id⟩
theorem iK.le{k:Nat}{c:bQ}(h:iK C s k c)(hl:Le C s s'):iK C s' k c:=
 ⟨h.Z8,h.atHome,h.op,λx=>hl.wM (h.lock x),λx=>by obtain⟨y,h1,h2⟩:=h.put x;exact⟨y,hl.fresh h1,h2⟩,λx=>hl.dec (h.dec x),λx=>⟨λy=>hl.comm ((h.fin x).1 y),λy=>hl.dead ((h.fin x).2 y)⟩⟩
theorem gy.le{c:bQ}{r:dh}(h:gy C s c r)(hl:Le C s s'):gy C s' c r:=
 ⟨λx=>⟨λy=>hl.dead ((h.wM x).1 y),λy z=>hl.wM ((h.wM x).2 y z)⟩,λx y=>hl.fresh (h.get x y),λx y=>hl.dec (h.put x y),λx y=>⟨λz=>hl.dead ((h.dec x y).1 z),λz=>hl.comm ((h.dec x y).2 z)⟩,λx y z=>hl.dead (h.X5 x y z)⟩
theorem gy.Wt{c:bQ}{r:dh}(h1:r.code≠0)(h9:c.kind=1->r.code≠9):gy C s c r:=
 ⟨λx=>⟨λy=>(h9 x y).elim,λy=>(h1 y).elim⟩,λ_ y=>(h1 y).elim,λ_ y=>(h1 y).elim,λ_ y=>(h1 y).elim,λ_ y=>(h1 y).elim⟩
theorem xI{tx a b:Int}(h:iX C s tx a)(h':dK C s tx b)(hb:b<=a):False:=by
 obtain⟨r,h1,h2⟩:=h;obtain⟨r',h3,h4,h5⟩:=h';rw[h1]at h3;injection h3 with h3;subst h3;omega
theorem xJ{tx a b:Int}(h:dK C s tx a)(h':dK C s tx b):a=b:=by
 obtain⟨r,h1,h2,_⟩:=h;obtain⟨r',h3,h4,_⟩:=h';rw[h1]at h3;injection h3 with h3;subst h3;omega
theorem X6{k:Nat}{f':Rows}{o':List Int}{tx aS:Int}{b:Bool}(hk:k=bZ C tx)(ht:uU (s.sh k).rows f' tx aS b):
 ∀t r,nZ C s t=G r->∃r',nZ C {s with sh:=dP s.sh k {s.sh k with rows:=f'},order:=o'} t=G r'/\((r'.aS=r.aS/\(r'.state=r.state\/r.state=1))\/(r.state=3/\r.aS<r'.aS)):=by
 intro t r h;unfold nZ at h⊢;by_cases e:bZ C t=k
 ·rw[e]at h⊢;dsimp only;rw[fH];exact ht.le t r h
 ·dsimp only;rw[gq _ _ e];exact⟨r,h,.inl ⟨rfl,.inl rfl⟩⟩
theorem UK(k:Nat)(f':Rows)(o':List Int):let s':dM:={s with sh:=dP s.sh k {s.sh k with rows:=f'},order:=o'}
 (s'.sh C.h).cr=(s.sh C.h).cr/\(s'.sh C.h).br=(s.sh C.h).br/\(s'.sh C.h).own=(s.sh C.h).own/\(s'.sh C.h).cur=(s.sh C.h).cur:=by
 by_cases e:C.h=k
 ·subst e;simp only[fH];exact⟨trivial,trivial,trivial,trivial⟩
 ·simp only[gq _ _ e];exact⟨trivial,trivial,trivial,trivial⟩
theorem FY{s s':dM}(hr: ∀t r,nZ C s t=G r->∃r',nZ C s' t=G r'/\((r'.aS=r.aS/\(r'.state=r.state\/r.state=1))\/(r.state=3/\r.aS<r'.aS)))
 (hf: ∀{tx a x},kJ C s tx a x->kJ C s' tx a x) (hd: ∀{tx a},tw C s tx a->tw C s' tx a):Le C s s':=by
 refine⟨?_,?_,?_,hf,hd⟩
 ·rintro tx a ⟨r,h1,h2⟩;obtain⟨r',h3,h4⟩:=hr tx r h1;exact⟨r',h3,by omega⟩
 ·rintro tx a ⟨r,h1,h2,h3⟩;obtain⟨r',h4,h5⟩:=hr tx r h1;exact⟨r',h4,by omega,by omega⟩
 ·rintro tx a ⟨r,h1,h2⟩;obtain⟨r',h3,h4⟩:=hr tx r h1;exact⟨r',h3,by omega⟩
theorem lr(h:Inv C s){k:Nat}{f':Rows}{o':List Int}{tx aS:Int}{b:Bool}(hk:k=bZ C tx)(ht:uU (s.sh k).rows f' tx aS b)
 (qd3:b=true->tw C s tx aS)
 (ho:(∃r,(s.sh k).rows tx=G r/\r.aS=aS/\r.state=1/\o'=s.order++[tx]/\∃r',f' tx=G r'/\r'.aS=aS/\r'.state=2)\/(o'=s.order/\∀t r',f' t=G r'->r'.state=2->∃r,(s.sh k).rows t=G r/\r.aS=r'.aS/\r.state=2)):
 Inv C {s with sh:=dP s.sh k {s.sh k with rows:=f'},order:=o'}/\Le C s {s with sh:=dP s.sh k {s.sh k with rows:=f'},order:=o'}:=by
 obtain⟨e1,e2,e3,e4⟩:=UK (C:=C) (s:=s) k f' o';have hle:=X6 (C:=C) (o':=o') hk ht;have D2: ∀t a,dK C {s with sh:=dP s.sh k {s.sh k with rows:=f'},order:=o'} t a->dK C s t a\/(b=true/\t=tx/\a=aS/\∃r,(s.sh k).rows tx=G r/\r.aS=aS/\r.state=1):=by
  rintro t a ⟨r,h1,h2,h3⟩;unfold nZ at h1;dsimp only at h1;by_cases e:bZ C t=k
  ·rw[e,fH]at h1;rcases ht.new t r h1 h3 with⟨r0,g1,g2,g3⟩|⟨g0,g1,g2,g3⟩
   ·exact .inl ⟨r0,by unfold nZ;rw[e];exact g1,by omega,g3⟩
   ·subst g1;exact .inr ⟨g0,rfl,by omega,g3⟩
  ·rw[gq _ _ e]at h1;exact .inl ⟨r,h1,h2,h3⟩
 generalize Ar:({s with sh:=dP s.sh k {s.sh k with rows:=f'},order:=o'}:dM)=s' at *;have j8:s'.order=o':=by rw[<-Ar]
 have qd4: ∀j,SQ (s'.sh j).rows:=by
  intro j;rw[<-Ar];by_cases e:j=k
  ·subst e;show SQ (dP s.sh j _ j).rows;rw[fH];exact ht.st (h.st j)
  ·show SQ (dP s.sh k _ j).rows;rw[gq _ _ e];exact h.st j
 have fI: ∀r',f' tx=G r'->nZ C s' tx=G r':=by
  intro r' hr;rw[<-Ar];unfold nZ;rw[<-hk];show(dP s.sh k _ k).rows tx=_;rw[fH];exact hr
 clear Ar;have Bt: ∀t a,eH C s' t a↔eH C s t a:=λt a=>by unfold eH;rw[e1]
 have kv: ∀t,jC C s' t↔jC C s t:=λt=>by unfold jC;rw[e3]
 have ev:ko C s'=ko C s:=e4;have hL:Le C s s':=by
  refine FY hle (λ{t a x} hx=>?_) (λ{t a} hx=>?_)
  ·unfold kJ at hx⊢;rw[Bt,e2,kv,ev];exact hx
  ·unfold tw at hx⊢;rw[Bt,e2];exact hx
 refine⟨⟨qd4,?_,?_,?_,?_,?_,?_⟩,hL⟩
 ·rw[j8];rcases ho with⟨r,h1,h2,h3,h4,_⟩|⟨h4,_⟩
  ·rw[h4,List.nodup_append];refine⟨h.nd,by simp,λx hx y hy=>?_⟩;simp only[List.mem_singleton]at hy;subst hy;rintro rfl;obtain⟨a,r2,g1,g2,g3⟩:=(h.om x).1 hx;unfold nZ at g1;rw[<-hk,h1]at g1;injection g1 with g1;subst g1;omega
  ·rw[h4];exact h.nd
 ·intro t;rw[j8]
  constructor
  ·intro Fm;rcases ho with⟨r,h1,h2,h3,h4,r',h5,h6,h7⟩|⟨h4,_⟩
   ·rw[h4]at Fm;rcases List.mem_append.1 Fm with Fm|Fm
    ·obtain⟨a,ha⟩:=(h.om t).1 Fm;exact⟨a,hL.comm ha⟩
    ·simp only[List.mem_singleton]at Fm;subst Fm;exact⟨aS,r',fI r' h5,h6,h7⟩
   ·rw[h4]at Fm;obtain⟨a,ha⟩:=(h.om t).1 Fm;exact⟨a,hL.comm ha⟩
  ·rintro⟨a,ha⟩;have L2:dK C s t a->t∈o':=λhx=>by
    have:=(h.om t).2 ⟨a,hx⟩;rcases ho with⟨_,_,_,_,h4,_⟩|⟨h4,_⟩
    ·rw[h4];simp[this]
    ·rw[h4];exact this
   rcases D2 t a ha with hx|⟨_,rfl,_,r,g1,g2,g3⟩
   ·exact L2 hx
   ·rcases ho with⟨_,_,_,_,h4,_⟩|⟨h4,h5⟩
    ·rw[h4];simp
    ·obtain⟨r2,k1,k2,k3⟩:=ha;obtain⟨r3,k4⟩: ∃r3,f' t=G r3:=by
      obtain⟨r3,k5,_⟩:=ht.le t r g1;exact⟨r3,k5⟩
     rw[fI r3 k4]at k1;injection k1 with k1;subst k1;obtain⟨r4,k5,k6,k7⟩:=h5 t r3 k4 k3;rw[g1]at k5;injection k5 with k5;subst k5;omega
 ·intro t d hd;rw[e1]at hd;rcases h.dn t d hd with hx|hx
  ·exact .inl (hL.dead hx)
  ·exact .inr (hL.comm hx)
 ·intro t L UL;rw[e2]at UL;obtain⟨g1,g2,g3⟩:=h.lv t L UL;exact⟨hL.wM g1,by rw[Bt];exact g2,λv hv=>by rw[kv,ev];exact g3 v hv⟩
 ·intro t a ha;rcases D2 t a ha with hx|⟨hb,rfl,rfl,_⟩
  ·exact hL.dec (h.cl t a hx)
  ·exact hL.dec (qd3 hb)
 ·obtain⟨AL,g1,g2,g3⟩:=h.va;refine⟨AL,g1,λt=>?_,by rw[ev];exact g3⟩;rw[g2]
  constructor
  ·rintro⟨a,x,y⟩;exact⟨a,hL.comm x,by rw[Bt];exact y⟩
  ·rintro⟨a,x,y⟩;rw[Bt]at y;rcases D2 t a x with hx|⟨hb,rfl,rfl,r,k1,k2,k3⟩
   ·exact⟨a,hx,y⟩
   ·obtain⟨dd,y1,y2⟩:=y;have hr:nZ C s t=G r:=by unfold nZ;rw[<-hk];exact k1
    rcases h.dn t dd y1 with⟨r2,z1,z2⟩|⟨r2,z1,z2,z3⟩
    ·rw[hr]at z1;injection z1 with z1;subst z1;omega
    ·rw[hr]at z1;injection z1 with z1;subst z1;omega
end
structure oy(a b:dm)(tx:Int):Prop where
 rows:b.rows=a.rows
 lv: ∀t,t≠tx->b.br t=a.br t
 dn: ∀t,t≠tx->b.cr t=a.cr t
 head: ∀t,a.own.head?=G t->(t≠tx\/b.br tx≠U)->b.own.head?=G t
 X7: ∀d,a.cr tx=G d->∃d',b.cr tx=G d'/\d<=d'
 live: ∀L,a.br tx=G L->(∃d,b.cr tx=G d/\L.aS<=d)\/(∃L',b.br tx=G L'/\L'.aS=L.aS/\(L.wr.isSome=true->L'.wr.isSome=true))
 cur:b.cur=a.cur\/(a.own.head?=G tx/\b.br tx=U)
def jt(C:Cf)(s:dM)(b:dm):dM:={s with sh:=dP s.sh C.h b}
section
variable{C:Cf}{s:dM}{b:dm}{tx:Int}
theorem eV:(jt C s b).sh C.h=b:=fH _ _ _
theorem xK(h:b.rows=(s.sh C.h).rows)(k:Nat):((jt C s b).sh k).rows=(s.sh k).rows:=by
 unfold jt;by_cases e:k=C.h
 ·subst e;dsimp only;rw[fH,h]
 ·dsimp only;rw[gq _ _ e]
theorem FZ(h:b.rows=(s.sh C.h).rows)(t:Int):nZ C (jt C s b) t=nZ C s t:=by
 unfold nZ;rw[xK h]
theorem lU(h:oy (s.sh C.h) b tx){t a:Int}(hd:eH C s t a):eH C (jt C s b) t a:=by
 obtain⟨d,h1,h2⟩:=hd;unfold eH;rw[eV];by_cases e:t=tx
 ·subst e;obtain⟨d',h3,h4⟩:=h.X7 d h1;exact⟨d',h3,by omega⟩
 ·exact⟨d,by rw[h.dn t e];exact h1,h2⟩
theorem j9(h:oy (s.sh C.h) b tx):Le C s (jt C s b):=by
 have hm:=λt=>FZ (C:=C) (s:=s) h.rows t;refine FY (λt r hr=>⟨r,by rw[hm];exact hr,.inl ⟨rfl,.inl rfl⟩⟩) (λ{t a x} hx=>?_) (λ{t a} hx=>?_)
 ·rcases hx with hx|⟨L,h1,h2,h3,h4⟩
  ·exact .inl (lU h hx)
  ·by_cases e:t=tx
   ·subst e;rcases h.live L h1 with⟨d,g1,g2⟩|⟨L',g1,g2,g3⟩
    ·exact .inl ⟨d,by rw[eV];exact g1,by omega⟩
    ·have eQ:b.br t≠U:=by rw[g1];simp
     refine .inr ⟨L',by rw[eV];exact g1,by omega,?_,?_⟩
     ·unfold jC;rw[eV];exact h.head t h3 (.inr eQ)
     ·unfold ko;rw[eV];rcases h.cur with hc|⟨_,hc⟩
      ·rw[hc];exact h4
      ·exact(eQ hc).elim
   ·refine .inr ⟨L,by rw[eV,h.lv t e];exact h1,h2,?_,?_⟩
    ·unfold jC;rw[eV];exact h.head t h3 (.inl e)
    ·unfold ko;rw[eV];rcases h.cur with hc|⟨hc,_⟩
     ·rw[hc];exact h4
     ·unfold jC at h3;rw[h3]at hc;injection hc with hc;exact(e hc).elim
 ·rcases hx with hx|⟨L,h1,h2,h3⟩
  ·exact .inl (lU h hx)
  ·by_cases e:t=tx
   ·subst e;rcases h.live L h1 with⟨d,g1,g2⟩|⟨L',g1,g2,g3⟩
    ·exact .inl ⟨d,by rw[eV];exact g1,by omega⟩
    ·exact .inr ⟨L',by rw[eV];exact g1,by omega,g3 h3⟩
   ·exact .inr ⟨L,by rw[eV,h.lv t e];exact h1,h2,h3⟩
theorem jS(hI:Inv C s)(h:oy (s.sh C.h) b tx)
 (sM: ∀d,b.cr tx=G d->(s.sh C.h).cr tx=G d\/iX C s tx d\/dK C s tx d)
 (SR: ∀L,b.br tx=G L->sN C s tx L.aS/\(¬ ∃d,b.cr tx=G d/\L.aS<=d)/\∀v,L.wr=G v->b.own.head?=G tx/\v=sO C b.cur/\2<=L.last.op)
 (hva:(b.cur=ko C s/\∀a,dK C s tx a->(∃d,b.cr tx=G d/\a<=d)->eH C s tx a)\/
   ((∀a,dK C s tx a->¬eH C s tx a)/\(∃a,dK C s tx a/\∃d,b.cr tx=G d/\a<=d)/\b.cur=G (sO C (ko C s)))):Inv C (jt C s b):=by
 have hL:=j9 h;have hm:=λt=>FZ (C:=C) (s:=s) h.rows t;have fA: ∀t a,dK C (jt C s b) t a↔dK C s t a:=λt a=>by unfold dK;rw[hm]
 have hdd: ∀t,t≠tx->∀a,eH C (jt C s b) t a↔eH C s t a:=λt e a=>by unfold eH;rw[eV,h.dn t e]
 have Qu: ∀a,eH C (jt C s b) tx a↔ ∃d,b.cr tx=G d/\a<=d:=λa=>by unfold eH;rw[eV]
 refine⟨λk=>by rw[xK h.rows];exact hI.st k,hI.nd,λt=>?_,λt d hd=>?_,λt L UL=>?_,λt a ha=>hL.dec (hI.cl t a ((fA t a).1 ha)),?_⟩
 ·rw[show(jt C s b).order=s.order from rfl,hI.om];exact⟨λ⟨a,x⟩=>⟨a,(fA t a).2 x⟩,λ⟨a,x⟩=>⟨a,(fA t a).1 x⟩⟩
 ·rw[eV]at hd;by_cases e:t=tx
  ·subst e;rcases sM d hd with hx|hx|hx
   ·rcases hI.dn t d hx with hy|hy
    ·exact .inl (hL.dead hy)
    ·exact .inr (hL.comm hy)
   ·exact .inl (hL.dead hx)
   ·exact .inr (hL.comm hx)
  ·rw[h.dn t e]at hd;rcases hI.dn t d hd with hy|hy
   ·exact .inl (hL.dead hy)
   ·exact .inr (hL.comm hy)
 ·rw[eV]at UL;by_cases e:t=tx
  ·subst e;obtain⟨g1,g2,g3⟩:=SR L UL;refine⟨hL.wM g1,by rw[Qu];exact g2,λv hv=>?_⟩;unfold jC ko;rw[eV];exact g3 v hv
  ·rw[h.lv t e]at UL;obtain⟨g1,g2,g3⟩:=hI.lv t L UL;refine⟨hL.wM g1,by rw[hdd t e];exact g2,λv hv=>?_⟩;obtain⟨k1,k2,k3⟩:=g3 v hv;unfold jC ko;rw[eV];refine⟨h.head t k1 (.inl e),?_,k3⟩;rcases h.cur with hc|⟨hc,_⟩
   ·rw[hc];exact k2
   ·unfold jC at k1;rw[k1]at hc;injection hc with hc;exact(e hc).elim
 ·obtain⟨AL,g1,g2,g3⟩:=hI.va;rcases hva with⟨hc,hn⟩|⟨hn,⟨a0,ha0,X2⟩,hc⟩
  ·refine⟨AL,g1,λt=>?_,by unfold ko;rw[eV,hc];exact g3⟩;rw[g2]
   constructor
   ·rintro⟨a,x,y⟩;exact⟨a,(fA t a).2 x,lU h y⟩
   ·rintro⟨a,x,y⟩;have x:=(fA t a).1 x;by_cases e:t=tx
    ·subst e;exact⟨a,x,hn a x ((Qu a).1 y)⟩
    ·exact⟨a,x,(hdd t e a).1 y⟩
  ·have TD:tx∉AL:=λhx=>by
    obtain⟨a,x,y⟩:=(g2 tx).1 hx;exact hn a x y
   refine⟨AL++[tx],?_,λt=>?_,?_⟩
   ·rw[List.nodup_append];exact⟨g1,by simp,λx hx y hy=>by
     simp only[List.mem_singleton]at hy;subst hy;rintro rfl;exact TD hx⟩
   ·rw[List.mem_append,g2,List.mem_singleton]
    constructor
    ·rintro(⟨a,x,y⟩|rfl)
     ·exact⟨a,(fA t a).2 x,lU h y⟩
     ·exact⟨a0,(fA t a0).2 ha0,(Qu a0).2 X2⟩
    ·rintro⟨a,x,y⟩;have x:=(fA t a).1 x;by_cases e:t=tx
     ·exact .inr e
     ·exact .inl ⟨a,x,(hdd t e a).1 y⟩
   ·unfold ko;rw[eV,hc,aL,aM,rH,g3]
end
theorem L4{l:List Int}{t tx:Int}(h:l.head?=G t):(mf l tx).head?=G t:=by
 unfold mf;split
 ·exact h
 ·cases l with
  |nil=>cases h
  |cons a r=>simpa using h
theorem head_filter{l:List Int}{t tx:Int}(h:l.head?=G t)(e:t≠tx):(l.filter (λo=> !decide (o=tx))).head?=G t:=by
 cases l with
 |nil=>cases h
 |cons a r=>
  simp only[List.head?_cons,Option.some.injEq]at h;subst h;rw[List.filter_cons,if_pos (by simp[e])];rfl
theorem xL{l:List Int}{t:Int}:im l t=true↔l.head?=G t:=by
 unfold im;exact beq_iff_eq
section
variable{C:Cf}{s:dM}{c:bQ}
theorem rI(h:iE (s.sh C.h) c=0): ¬eH C s c.tx c.aS/\∀x,(s.sh C.h).br c.tx=G x->x.aS=c.aS/\¬c.op<x.last.op:=by
 have SS:gM (s.sh C.h) c.tx c.aS=true↔eH C s c.tx c.aS:=by
  unfold gM eH;cases hd:(s.sh C.h).cr c.tx with
  |none=>simp
  |some d=>simp
 unfold iE at h;split at h
 ·rename_i h1;split at h
  ·cases h
  ·rename_i h2;exact⟨λhx=>h2 (SS.2 hx),λx hx=>by rw[h1]at hx;cases hx⟩
 ·rename_i x h1;split at h
  ·cases h
  ·rename_i h2;split at h
   ·cases h
   ·rename_i h3;split at h
    ·cases h
    ·rename_i h4;refine⟨λhx=>h2 (.inl (SS.2 hx)),λy hy=>?_⟩;rw[h1]at hy;injection hy with hy;subst hy;have: ¬c.aS<x.aS:=λhx=>h2 (.inr hx);exact⟨by omega,λhx=>h4 (.inl hx)⟩
theorem xM:gM (s.sh C.h) c.tx c.aS=true↔eH C s c.tx c.aS:=by
 unfold gM eH;cases hd:(s.sh C.h).cr c.tx with
 |none=>simp
 |some d=>simp
theorem rJ{own:List Int}{Qv:cG}(cU: ∀t,(s.sh C.h).own.head?=G t->own.head?=G t)(oY: ∀L,(s.sh C.h).br c.tx=G L->Qv.aS=L.aS/\(L.wr.isSome=true->Qv.wr.isSome=true)):
 oy (s.sh C.h) {s.sh C.h with br:=cQ (s.sh C.h).br c.tx (G Qv),own:=own} c.tx:=by
 refine⟨rfl,λt e=>bP _ _ e,λ_ _=>rfl,λt ht _=>cU t ht,λd hd=>⟨d,hd,Int.le_refl _⟩,λL hL=>.inr ⟨Qv,bD _ _ _,oY L hL⟩,.inl rfl⟩
theorem L7(hI:Inv C s)(hk:c.kind=2)(hO:iK C s C.h c)(hl:iE (s.sh C.h) c=0):Inv C (jt C s (kQ (s.sh C.h) c).1)/\Le C s (jt C s (kQ (s.sh C.h) c).1):=by
 obtain⟨hnd,SR⟩:=rI hl;unfold kQ;dsimp only;have kO:oy (s.sh C.h) {s.sh C.h with br:=cQ (s.sh C.h).br c.tx (G ⟨c.aS,c,match(s.sh C.h).br c.tx with|none=>U|some x=>x.wr⟩),own:=mf (s.sh C.h).own c.tx} c.tx:=
  rJ (λt ht=>L4 ht) (λL hL=>by
   rw[hL];exact⟨(SR L hL).1.symm,id⟩)
 refine⟨jS hI kO (λd hd=>.inl hd) (λL hL=>?_) (.inl ⟨rfl,λa _ hx=>hx⟩),j9 kO⟩;dsimp only at hL;rw[bD]at hL;injection hL with hL;subst hL;refine⟨hO.lock hk,hnd,λv hv=>?_⟩;dsimp only at hv⊢;cases hx:(s.sh C.h).br c.tx with
 |none=>rw[hx]at hv;cases hv
 |some x=>
  rw[hx]at hv;obtain⟨_,_,g3⟩:=hI.lv c.tx x hx;obtain⟨k1,k2,k3⟩:=g3 v hv;have:=(SR x hx).2;have:=hO.op.1 hk;omega
theorem Qw(hI:Inv C s)(hk:c.kind=3)(hO:iK C s C.h c)(hl:iE (s.sh C.h) c=0):
 Inv C (jt C s (mg (s.sh C.h) c).1)/\Le C s (jt C s (mg (s.sh C.h) c).1)/\gy C (jt C s (mg (s.sh C.h) c).1) c (mg (s.sh C.h) c).2:=by
 obtain⟨hnd,SR⟩:=rI hl;have Bu:jt C s (s.sh C.h)=s:=by
  unfold jt;have:dP s.sh C.h (s.sh C.h)=s.sh:=by
   funext k
   unfold dP;split
   ·rename_i e;rw[e]
   ·rfl
  rw[this]
 unfold mg;split
 ·rw[Bu];exact⟨hI,Le.refl _,gy.Wt (by simp[cF]) (λh=>by omega)⟩
 ·rename_i x hx;split
  ·rename_i hh;have hh:=xL.1 hh;dsimp only;obtain⟨ha,hop⟩:=SR x hx;obtain⟨g1,g2,g3⟩:=hI.lv c.tx x hx;have hw:x.wr=U:=by
    cases hw:x.wr with
    |none=>rfl
    |some v=>
     obtain⟨_,_,k3⟩:=g3 v hw;have:=hO.op.2.1 hk;omega
   have kO:oy (s.sh C.h) {s.sh C.h with br:=cQ (s.sh C.h).br c.tx (G ⟨x.aS,c,x.wr⟩)} c.tx:=
    rJ (own:=(s.sh C.h).own) (λt ht=>ht) (λL hL=>by
     rw[hx]at hL;injection hL with hL;subst hL;exact⟨rfl,id⟩)
   refine⟨jS hI kO (λd hd=>.inl hd) (λL hL=>?_) (.inl ⟨rfl,λa _ hx=>hx⟩),j9 kO,?_⟩
   ·dsimp only at hL;rw[bD]at hL;injection hL with hL;subst hL;refine⟨g1,g2,λv hv=>?_⟩;dsimp only at hv;rw[hw]at hv;cases hv
   ·rw[hw];dsimp only;refine⟨λh=>by omega,λ_ _=>.inr ⟨⟨x.aS,c,U⟩,?_,ha,?_,?_⟩,λh=>by omega,λh=>by omega,λh=>by omega⟩
    ·rw[eV];exact bD _ _ _
    ·unfold jC;rw[eV];exact hh
    ·unfold ko;rw[eV];cases(s.sh C.h).cur with
     |none=>rfl
     |some v=>rfl
  ·rw[Bu];exact⟨hI,Le.refl _,gy.Wt (by simp[cF]) (λh=>by omega)⟩
theorem nJ(C:Cf)(s:dM):jt C s (s.sh C.h)=s:=by
 unfold jt;have:dP s.sh C.h (s.sh C.h)=s.sh:=by
  funext k
  unfold dP;split
  ·rename_i e;rw[e]
  ·rfl
 rw[this]
theorem Qx(hI:Inv C s)(hk:c.kind=4)(hO:iK C s C.h c)(hl:iE (s.sh C.h) c=0):
 Inv C (jt C s (gY (s.sh C.h) c).1)/\Le C s (jt C s (gY (s.sh C.h) c).1)/\gy C (jt C s (gY (s.sh C.h) c).1) c (gY (s.sh C.h) c).2:=by
 obtain⟨hnd,SR⟩:=rI hl;unfold gY;split
 ·rw[nJ];exact⟨hI,Le.refl _,gy.Wt (by simp[cF]) (λh=>by omega)⟩
 ·rename_i x hx;split
  ·rename_i hh;have hh:=xL.1 hh;dsimp only;obtain⟨ha,hop⟩:=SR x hx;obtain⟨g1,g2,g3⟩:=hI.lv c.tx x hx;have kO:oy (s.sh C.h) {s.sh C.h with br:=cQ (s.sh C.h).br c.tx (G ⟨x.aS,c,G c.val⟩)} c.tx:=
    rJ (own:=(s.sh C.h).own) (λt ht=>ht) (λL hL=>by
     rw[hx]at hL;injection hL with hL;subst hL;exact⟨rfl,λ_=>rfl⟩)
   have hval:c.val=sO C (ko C s):=by
    obtain⟨y,h1,h2⟩:=hO.put hk;rcases h1 with h1|⟨L,_,_,_,h4⟩
    ·exact(hnd h1).elim
    ·rw[h2,h4]
   refine⟨jS hI kO (λd hd=>.inl hd) (λL hL=>?_) (.inl ⟨rfl,λa _ hx=>hx⟩),j9 kO,?_⟩
   ·dsimp only at hL;rw[bD]at hL;injection hL with hL;subst hL;refine⟨g1,g2,λv hv=>?_⟩;dsimp only at hv⊢;injection hv with hv;exact⟨hh,by rw[<-hv];exact hval,by have:=hO.op.2.2 hk;omega⟩
   ·refine⟨λh=>by omega,λh=>by omega,λ_ _=>.inr ⟨⟨x.aS,c,G c.val⟩,?_,ha,rfl⟩,λh=>by omega,λh=>by omega⟩;rw[eV];exact bD _ _ _
  ·rw[nJ];exact⟨hI,Le.refl _,gy.Wt (by simp[cF]) (λh=>by omega)⟩
theorem Qy(hI:Inv C s)(hk:c.kind=7)(hO:iK C s C.h c):
 Inv C (jt C s (en (s.sh C.h) c).1)/\Le C s (jt C s (en (s.sh C.h) c).1):=by
 unfold en;split
 ·rw[nJ];exact⟨hI,Le.refl _⟩
 ·rename_i iO;have hnd: ¬eH C s c.tx c.aS:=λh=>iO (xM.2 h);have Z9:iX C s c.tx c.aS\/dK C s c.tx c.aS:=by
   cases hy:c.yes with
   |true=>exact .inr ((hO.fin hk).1 hy)
   |false=>exact .inl ((hO.fin hk).2 hy)
  have hdm: ∀d,(s.sh C.h).cr c.tx=G d->d<c.aS:=λd hd=>by
   rcases Int.lt_or_le d c.aS with h|h
   ·exact h
   ·exact(hnd ⟨d,hd,h⟩).elim
  have gu: ∀a,dK C s c.tx a->a<=c.aS->a=c.aS/\dK C s c.tx c.aS:=λa ha hle=>by
   rcases Z9 with h|h
   ·exact(xI h ha hle).elim
   ·exact⟨xJ ha h,h⟩
  split
  ·rename_i hx;dsimp only;have kO:oy (s.sh C.h) {s.sh C.h with cr:=cQ (s.sh C.h).cr c.tx (G c.aS)} c.tx:=
    ⟨rfl,λ_ _=>rfl,λt e=>bP _ _ e,λt ht _=>ht,λd hd=>⟨c.aS,bD _ _ _,Int.le_of_lt (hdm d hd)⟩,(λL hL=>by rw[hx]at hL;cases hL),.inl rfl⟩
   refine⟨jS hI kO (λd hd=>?_) (λL hL=>?_) (.inl ⟨rfl,λa ha hd=>?_⟩),j9 kO⟩
   ·dsimp only at hd;rw[bD]at hd;injection hd with hd;subst hd;exact .inr Z9
   ·dsimp only at hL;rw[hx]at hL;cases hL
   ·dsimp only at hd;obtain⟨d,hd,hle⟩:=hd;rw[bD]at hd;injection hd with hd;subst hd;obtain⟨rfl,hc⟩:=gu a ha hle;rcases hI.cl _ _ hc with h|⟨L,h1,_⟩
    ·exact h
    ·rw[hx]at h1;cases h1
  ·rename_i x hx;obtain⟨g1,g2,g3⟩:=hI.lv c.tx x hx;split
   ·rw[nJ];exact⟨hI,Le.refl _⟩
   ·rename_i h1;split
    ·rename_i h2;dsimp only;have kO:oy (s.sh C.h) {s.sh C.h with cr:=cQ (s.sh C.h).cr c.tx (G c.aS)} c.tx:=
      ⟨rfl,λ_ _=>rfl,λt e=>bP _ _ e,λt ht _=>ht,λd hd=>⟨c.aS,bD _ _ _,Int.le_of_lt (hdm d hd)⟩,λL hL=>.inr ⟨L,hL,rfl,id⟩,.inl rfl⟩
     refine⟨jS hI kO (λd hd=>?_) (λL hL=>?_) (.inl ⟨rfl,λa ha hd=>?_⟩),j9 kO⟩
     ·dsimp only at hd;rw[bD]at hd;injection hd with hd;subst hd;exact .inr Z9
     ·dsimp only at hL⊢;rw[hx]at hL;injection hL with hL;subst hL;refine⟨g1,?_,g3⟩;rintro⟨d,hd,hle⟩;rw[bD]at hd;injection hd with hd;omega
     ·dsimp only at hd;obtain⟨d,hd,hle⟩:=hd;rw[bD]at hd;injection hd with hd;subst hd;obtain⟨rfl,hc⟩:=gu a ha hle;rcases hI.cl _ _ hc with h|⟨L,Qz,h2',_⟩
      ·exact h
      ·rw[hx]at Qz;injection Qz with Qz;subst Qz;exact(h2 h2').elim
    ·rename_i h2;have h2:x.aS=c.aS:=Decidable.not_not.1 h2;dsimp only;have e1:(oL (s.sh C.h) c x).rows=(s.sh C.h).rows:=rfl;have e2:(oL (s.sh C.h) c x).br=cQ (s.sh C.h).br c.tx U:=rfl;have e3:(oL (s.sh C.h) c x).cr=cQ (s.sh C.h).cr c.tx (G c.aS):=rfl;have e4:(oL (s.sh C.h) c x).own=(s.sh C.h).own.filter (λo=> !decide (o=c.tx)):=rfl;have e5:(oL (s.sh C.h) c x).cur=if c.yes then(match x.wr with|some v=>G v|none=>(s.sh C.h).cur)else(s.sh C.h).cur:=rfl;generalize oL (s.sh C.h) c x=b at *;have kO:oy (s.sh C.h) b c.tx:=by
      refine⟨e1,λt e=>by rw[e2];exact bP _ _ e,λt e=>by rw[e3];exact bP _ _ e,λt ht e=>?_,λd hd=>⟨c.aS,by rw[e3];exact bD _ _ _,Int.le_of_lt (hdm d hd)⟩,
       λL hL=>.inl ⟨c.aS,by rw[e3];exact bD _ _ _,?_⟩,?_⟩
      ·rw[e4];rcases e with e|e
       ·exact head_filter ht e
       ·rw[e2,bD]at e;exact(e rfl).elim
      ·rw[hx]at hL;injection hL with hL;subst hL;omega
      ·rw[e5];split
       ·split
        ·rename_i v hv;refine .inr ⟨(g3 v hv).1,by rw[e2];exact bD _ _ _⟩
        ·exact .inl rfl
       ·exact .inl rfl
     refine⟨jS hI kO (λd hd=>?_) (λL hL=>?_) ?_,j9 kO⟩
     ·rw[e3,bD]at hd;injection hd with hd;subst hd;exact .inr Z9
     ·rw[e2,bD]at hL;cases hL
     ·cases hy:c.yes with
      |false=>
       rw[hy]at e5;refine .inl ⟨e5,λa ha hd=>?_⟩;obtain⟨d,hd,hle⟩:=hd;rw[e3,bD]at hd;injection hd with hd;subst hd;exact(xI ((hO.fin hk).2 hy) ha hle).elim
      |true=>
       have hc:=(hO.fin hk).1 hy;rcases hI.cl _ _ hc with h|⟨L,Qz,h2',h3'⟩
       ·exact(hnd h).elim
       ·rw[hx]at Qz;injection Qz with Qz;subst Qz;obtain⟨v,hv⟩:=Option.isSome_iff_exists.1 h3';rw[hy,hv]at e5;refine .inr ⟨λa ha hd=>?_,⟨c.aS,hc,c.aS,by rw[e3];exact bD _ _ _,Int.le_refl _⟩,?_⟩
        ·obtain rfl:=xJ ha hc;exact hnd hd
        ·rw[e5];simp only[if_true];rw[(g3 v hv).2.1]
end
section
variable{C:Cf}{s:dM}{c:bQ}{k:Nat}
theorem Ik(f:Nat->dm)(k:Nat):dP f k (f k)=f:=by
 funext x
 unfold dP;split
 ·rename_i e;rw[e]
 ·rfl
theorem zk(f:Rows)(tx aS:Int):(∃r,f tx=G r/\r.aS=aS/\r.state=1/\cg f tx aS=(cQ f tx (G {r with state:=2}),2,0))\/
 ((cg f tx aS).1=f/\¬(((f tx).getD ⟨0,0,0,0,0⟩).aS=aS/\((f tx).getD ⟨0,0,0,0,0⟩).state=1)):=by
 unfold cg;split
 ·rename_i h;refine .inr ⟨rfl,?_⟩;rw[h];simp
 ·rename_i r h;rw[h];simp only[Option.getD_some];split
  ·exact .inr ⟨rfl,by omega⟩
  ·split
   ·exact .inr ⟨rfl,by omega⟩
   ·split
    ·rename_i h3;exact .inl ⟨r,rfl,by omega,h3,rfl⟩
    ·rename_i h3;split
     ·exact .inr ⟨rfl,λh=>h3 h.2⟩
     ·exact .inr ⟨rfl,λh=>h3 h.2⟩
theorem Il(hI:Inv C s)(k:Nat)(x:Int):Inv C {s with sh:=dP s.sh k {s.sh k with clock:=x}}/\Le C s {s with sh:=dP s.sh k {s.sh k with clock:=x}}:=by
 generalize Ar:({s with sh:=dP s.sh k {s.sh k with clock:=x}}:dM)=s';have SU: ∀j,(s'.sh j).rows=(s.sh j).rows:=by
  intro j;rw[<-Ar];dsimp only;by_cases e:j=k
  ·subst e;rw[fH]
  ·rw[gq _ _ e]
 have hh:(s'.sh C.h).cr=(s.sh C.h).cr/\(s'.sh C.h).br=(s.sh C.h).br/\(s'.sh C.h).own=(s.sh C.h).own/\(s'.sh C.h).cur=(s.sh C.h).cur:=by
  rw[<-Ar];dsimp only;by_cases e:C.h=k
  ·rw[e,fH];exact⟨rfl,rfl,rfl,rfl⟩
  ·rw[gq _ _ e];exact⟨rfl,rfl,rfl,rfl⟩
 have ho:s'.order=s.order:=by rw[<-Ar]
 clear Ar;obtain⟨e1,e2,e3,e4⟩:=hh;have hm: ∀t,nZ C s' t=nZ C s t:=λt=>by unfold nZ;rw[SU]
 have hL:Le C s s':=FY (λt r hr=>⟨r,by rw[hm];exact hr,.inl ⟨rfl,.inl rfl⟩⟩)
  (λ{t a y} h=>by unfold kJ eH jC ko at *;rw[e1,e2,e3,e4];exact h) (λ{t a} h=>by unfold tw eH at *;rw[e1,e2];exact h)
 have fA: ∀t a,dK C s' t a↔dK C s t a:=λt a=>by unfold dK;rw[hm]
 refine⟨⟨λj=>by rw[SU];exact hI.st j,by rw[ho];exact hI.nd,λt=>?_,λt d h=>?_,λt L h=>?_,λt a h=>hL.dec (hI.cl t a ((fA t a).1 h)),?_⟩,hL⟩
 ·rw[ho,hI.om];exact⟨λ⟨a,y⟩=>⟨a,(fA t a).2 y⟩,λ⟨a,y⟩=>⟨a,(fA t a).1 y⟩⟩
 ·rw[e1]at h;rcases hI.dn t d h with y|y
  ·exact .inl (hL.dead y)
  ·exact .inr (hL.comm y)
 ·rw[e2]at h;obtain⟨g1,g2,g3⟩:=hI.lv t L h;unfold eH jC ko at *;rw[e1,e3,e4];exact⟨hL.wM g1,g2,g3⟩
 ·obtain⟨AL,g1,g2,g3⟩:=hI.va;refine⟨AL,g1,λt=>?_,by unfold ko at *;rw[e4];exact g3⟩;rw[g2];unfold eH;rw[e1];exact⟨λ⟨a,y,z⟩=>⟨a,(fA t a).2 y,z⟩,λ⟨a,y,z⟩=>⟨a,(fA t a).1 y,z⟩⟩
theorem pd{f':Rows}{o':List Int}(hk:k=bZ C c.tx):nZ C {s with sh:=dP s.sh k {s.sh k with rows:=f'},order:=o'} c.tx=f' c.tx:=by
 unfold nZ;dsimp only;rw[<-hk,fH]
theorem L8(hI:Inv C s)(hO:iK C s k c):Inv C (bO s k c).1/\Le C s (bO s k c).1/\gy C (bO s k c).1 c (bO s k c).2:=by
 have Bu: ∀o:List Int,o=s.order->({s with sh:=dP s.sh k (s.sh k),order:=o}:dM)=s:=λo ho=>by rw[Ik,ho]
 unfold bO fS;dsimp only;by_cases hR:cR c=true
 ·rw[if_pos hR];by_cases h9:c.kind=9
  ·rw[if_pos h9];dsimp only;rw[if_neg (by omega)];obtain⟨a,b⟩:=Il hI k (min ((s.sh k).clock+1) 1099511627776);exact⟨a,b,⟨λh=>by omega,λh=>by omega,λh=>by omega,λh=>by omega,λh=>by omega⟩⟩
  ·rw[if_neg h9];by_cases h7:c.kind=7
   ·rw[if_pos h7];rw[if_neg (by omega)];obtain rfl:=hO.Z8 (by omega);obtain⟨a,b⟩:=Qy hI h7 hO;exact⟨a,b,⟨λh=>by omega,λh=>by omega,λh=>by omega,λh=>by omega,λh=>by omega⟩⟩
   ·rw[if_neg h7];by_cases ht:c.kind=1\/c.kind=5\/c.kind=6\/c.kind=8
    ·rw[if_pos ht];have hk:=hO.atHome ht;unfold dO;dsimp only;rcases ht with h|h|h|h
     ·simp only[h,if_true,show¬((1:Int)=5) by decide,false_and,if_false];obtain⟨a,b⟩:=lr (o':=s.order) hI hk (FV (s.sh k).rows c.tx c.aS c.aY (s.sh k).clock) (λh=>by cases h) (.inr ⟨rfl,λt r' h1 h2=>by
       rcases(FV (s.sh k).rows c.tx c.aS c.aY (s.sh k).clock).new t r' h1 h2 with h|⟨h,_⟩
       ·exact h
       ·cases h⟩)
      refine⟨a,b,⟨λ_=>⟨λg=>?_,λg g'=>?_⟩,λg=>by omega,λg=>by omega,λg=>by omega,λg=>by omega⟩⟩
      ·unfold iX;rw[pd hk];exact Bp.1 g
      ·unfold sN;rw[pd hk];exact Bp.2 g g'
     ·simp only[h,if_true,show¬((5:Int)=1) by decide,true_and,if_false];have Ma: ∀o':List Int,gy C {s with sh:=dP s.sh k {s.sh k with rows:=(cg (s.sh k).rows c.tx c.aS).1},order:=o'} c (gX (cg (s.sh k).rows c.tx c.aS).2.1 (cg (s.sh k).rows c.tx c.aS).2.2):=λo'=>
       ⟨λg=>by omega,λg=>by omega,λg=>by omega,λ_ g=>⟨λg'=>by
         unfold iX;rw[pd hk];exact(uV g).1 g' (hI.st k),λg'=>by
         unfold dK;rw[pd hk];exact(uV g).2 g'⟩,λg=>by omega⟩
      rcases zk (s.sh k).rows c.tx c.aS with⟨r,h1,h2,h3,h4⟩|⟨h1,h2⟩
      ·have e:((s.sh k).rows c.tx).getD ⟨0,0,0,0,0⟩=r:=by rw[h1];rfl
       rw[if_pos ⟨by rw[e];exact h2,by rw[e];exact h3,by rw[h4];rfl⟩];obtain⟨a,b⟩:=lr (o':=s.order++[c.tx]) hI hk (xH (s.sh k).rows c.tx c.aS) (λ_=>hO.dec h) (.inl ⟨r,h1,h2,h3,rfl,{r with state:=2},by rw[h4];exact bD _ _ _,h2,rfl⟩);exact⟨a,b,Ma _⟩
      ·rw[if_neg (λg=>h2 ⟨g.1,g.2.1⟩)];obtain⟨a,b⟩:=lr (o':=s.order) hI hk (xH (s.sh k).rows c.tx c.aS) (λ_=>hO.dec h) (.inr ⟨rfl,λt r' g1 g2=>by
        rw[h1]at g1;exact⟨r',g1,rfl,g2⟩⟩)
       exact⟨a,b,Ma _⟩
     ·simp only[h,if_true,show¬((6:Int)=1) by decide,show¬((6:Int)=5) by decide,false_and,if_false];obtain⟨a,b⟩:=lr (o':=s.order) hI hk (FW (s.sh k).rows c.tx c.aS (s.sh k).clock) (λh=>by cases h) (.inr ⟨rfl,λt r' h1 h2=>by
       rcases(FW (s.sh k).rows c.tx c.aS (s.sh k).clock).new t r' h1 h2 with h|⟨h,_⟩
       ·exact h
       ·cases h⟩)
      refine⟨a,b,⟨λg=>by omega,λg=>by omega,λg=>by omega,λ_ g=>⟨λg'=>?_,λg'=>?_⟩,λg=>by omega⟩⟩
      ·unfold iX;rw[pd hk];exact(Br g).1 g'
      ·unfold dK;rw[pd hk];exact(Br g).2 g' (hI.st k)
     ·simp only[h,show¬((8:Int)=1) by decide,show¬((8:Int)=5) by decide,show¬((8:Int)=6) by decide,false_and,if_false];obtain⟨a,b⟩:=lr (o':=s.order) hI hk (FX (s.sh k).rows c.tx c.aS (s.sh k).clock) (λh=>by cases h) (.inr ⟨rfl,λt r' h1 h2=>by
       rcases(FX (s.sh k).rows c.tx c.aS (s.sh k).clock).new t r' h1 h2 with h|⟨h,_⟩
       ·exact h
       ·cases h⟩)
      refine⟨a,b,⟨λg=>by omega,λg=>by omega,λg=>by omega,λg=>by omega,λ_ g g'=>?_⟩⟩;unfold iX;rw[pd hk];exact LZ g g'
    ·rw[if_neg ht];have hk:c.kind=2\/c.kind=3\/c.kind=4:=by
      unfold cR at hR;rw[if_neg h9]at hR;by_cases e:c.kind=2\/c.kind=3\/c.kind=4
      ·exact e
      ·rw[if_neg (λh=>ht (.inl h)),if_neg e]at hR;simp at hR;omega
     obtain rfl:=hO.Z8 (by omega);by_cases hl:iE (s.sh C.h) c≠0
     ·rw[if_pos hl];dsimp only;rw[if_neg (by omega),Bu _ rfl];exact⟨hI,Le.refl _,gy.Wt hl (λh=>by omega)⟩
     ·rw[if_neg hl];have hl:=Decidable.not_not.1 hl;rcases hk with h|h|h
      ·rw[if_pos h];rw[if_neg (by omega)];obtain⟨a,b⟩:=L7 hI h hO hl;exact⟨a,b,⟨λh=>by omega,λh=>by omega,λh=>by omega,λh=>by omega,λh=>by omega⟩⟩
      ·rw[if_neg (by omega),if_pos h];rw[if_neg (by omega)];exact Qw hI h hO hl
      ·rw[if_neg (by omega),if_neg (by omega)];rw[if_neg (by omega)];exact Qx hI h hO hl
 ·rw[if_neg hR];dsimp only;rw[if_neg (by simp[cF]),Bu _ rfl];exact⟨hI,Le.refl _,gy.Wt (by simp[cF]) (λ_=>by simp[cF])⟩
end
structure rK(C:Cf)(s:dM)(tx:Int)(d:eF):Prop where
 ph:0<=d.ph/\d.ph<=8
 zm:d.ph=1\/d.ph=2\/d.ph=3\/d.ph=4->d.at_=0
 tc:d.bY=[]\/d.bY=[(C.h:Int)]
 wM:1<=d.ph->d.ph<=5->sN C s tx d.aS
 put:d.ph=4->∃x,kJ C s tx d.aS x/\d.write=G (sO C x)
 dec:d.ph=5->tw C s tx d.aS
 fin:d.ph=7->d.left=[(C.h:Int)]/\((d.o=2/\dK C s tx d.aS)\/(d.o=3/\iX C s tx d.aS))
 ovr:d.ph=8->d.o=2->dK C s tx d.aS
section
variable{C:Cf}{s s':dM}{tx:Int}{d:eF}{c:bQ}{k:Nat}{r:dh}
theorem rK.le(h:rK C s tx d)(hl:Le C s s'):rK C s' tx d:=
 ⟨h.ph,h.zm,h.tc,λa b=>hl.wM (h.wM a b),λa=>by obtain⟨x,h1,h2⟩:=h.put a;exact⟨x,hl.fresh h1,h2⟩,λa=>hl.dec (h.dec a),λa=>by
   obtain⟨h1,h2⟩:=h.fin a;refine⟨h1,?_⟩;rcases h2 with⟨h2,h3⟩|⟨h2,h3⟩
   ·exact .inl ⟨h2,hl.comm h3⟩
   ·exact .inr ⟨h2,hl.dead h3⟩,λa b=>hl.comm (h.ovr a b)⟩
theorem UM(C:Cf)(s:dM)(tx:Int):rK C s tx bW:=
 ⟨by decide,λh=>by simp[bW]at h,.inl rfl,λh=>by simp[bW]at h,λh=>by simp[bW]at h,λh=>by simp[bW]at h,λh=>by simp[bW]at h,λh=>by simp[bW]at h⟩
theorem F0(h:rK C s tx d)(hn:df C tx d=G (k,c)):iK C s k c/\c.tx=tx/\c.aS=d.aS:=by
 unfold df at hn;split at hn
 ·injection hn with hn;injection hn with h1 h2;subst h1 h2;exact⟨⟨λh=>by simp[bk]at h,λ_=>rfl,by simp[bk],λh=>by simp[bk]at h,λh=>by simp[bk]at h,λh=>by simp[bk]at h,λh=>by simp[bk]at h⟩,rfl,rfl⟩
 split at hn
 ·rename_i h0 h1;injection hn with hn;injection hn with e1 e2;subst e1 e2;exact⟨⟨λ_=>rfl,λh=>by simp[bk]at h,by simp[bk,h.zm (.inl h1)],λ_=>h.wM (by omega) (by omega),λh=>by simp[bk]at h,λh=>by simp[bk]at h,λh=>by simp[bk]at h⟩,rfl,rfl⟩
 split at hn
 ·injection hn with hn;injection hn with e1 e2;subst e1 e2;exact⟨⟨λh=>by simp[bk]at h,λ_=>rfl,by simp[bk],λh=>by simp[bk]at h,λh=>by simp[bk]at h,λh=>by simp[bk]at h,λh=>by simp[bk]at h⟩,rfl,rfl⟩
 split at hn
 ·rename_i h0 h1 h2 h3;injection hn with hn;injection hn with e1 e2;subst e1 e2;exact⟨⟨λ_=>rfl,λh=>by simp[bk]at h,by simp[bk,h.zm (.inr (.inr (.inl h3)))],λh=>by simp[bk]at h,λh=>by simp[bk]at h,λh=>by simp[bk]at h,λh=>by simp[bk]at h⟩,rfl,rfl⟩
 split at hn
 ·rename_i h0 h1 h2 h3 h4;injection hn with hn;injection hn with e1 e2;subst e1 e2;obtain⟨x,g1,g2⟩:=h.put h4;exact⟨⟨λ_=>rfl,λh=>by simp[bk]at h,by simp[bk,h.zm (.inr (.inr (.inr h4)))],λh=>by simp[bk]at h,λ_=>⟨x,g1,by dsimp only;rw[g2];rfl⟩,λh=>by simp[bk]at h,λh=>by simp[bk]at h⟩,rfl,rfl⟩
 split at hn
 ·rename_i h0 h1 h2 h3 h4 h5;injection hn with hn;injection hn with e1 e2;subst e1 e2;exact⟨⟨λh=>by simp[bk]at h,λ_=>rfl,by simp[bk],λh=>by simp[bk]at h,λh=>by simp[bk]at h,λ_=>h.dec h5,λh=>by simp[bk]at h⟩,rfl,rfl⟩
 split at hn
 ·injection hn with hn;injection hn with e1 e2;subst e1 e2;exact⟨⟨λh=>by simp[bk]at h,λ_=>rfl,by simp[bk],λh=>by simp[bk]at h,λh=>by simp[bk]at h,λh=>by simp[bk]at h,λh=>by simp[bk]at h⟩,rfl,rfl⟩
 split at hn
 ·rename_i h7;obtain⟨g1,g2⟩:=h.fin h7;rw[g1]at hn;dsimp only at hn;injection hn with hn;injection hn with e1 e2;subst e1 e2;refine⟨⟨λ_=>by simp,λh=>by simp[bk]at h,by simp[bk],λh=>by simp[bk]at h,λh=>by simp[bk]at h,λh=>by simp[bk]at h,λ_=>⟨λg=>?_,λg=>?_⟩⟩,rfl,rfl⟩
  ·have g:=of_decide_eq_true g;rcases g2 with⟨_,g3⟩|⟨g3,_⟩
   ·exact g3
   ·omega
  ·have g:=of_decide_eq_false g;rcases g2 with⟨g3,_⟩|⟨_,g3⟩
   ·exact(g g3).elim
   ·exact g3
 ·cases hn
theorem Im(h:rK C s tx d)(hn:df C tx d=G (k,c)):(d.ph=0->c.kind=1)/\(d.ph=1->c.kind=2)/\(d.ph=2->c.kind=8)/\(d.ph=3->c.kind=3)/\(d.ph=4->c.kind=4)/\(d.ph=5->c.kind=5)/\(d.ph=6->c.kind=6)/\(d.ph=7->c.kind=7):=by
 have hp:=h.ph;unfold df at hn;split at hn
 ·injection hn with hn;injection hn with e1 e2;subst e1 e2;simp[bk];omega
 split at hn
 ·injection hn with hn;injection hn with e1 e2;subst e1 e2;simp[bk];omega
 split at hn
 ·injection hn with hn;injection hn with e1 e2;subst e1 e2;simp[bk];omega
 split at hn
 ·injection hn with hn;injection hn with e1 e2;subst e1 e2;simp[bk];omega
 split at hn
 ·injection hn with hn;injection hn with e1 e2;subst e1 e2;simp[bk];omega
 split at hn
 ·injection hn with hn;injection hn with e1 e2;subst e1 e2;simp[bk];omega
 split at hn
 ·injection hn with hn;injection hn with e1 e2;subst e1 e2;simp[bk];omega
 split at hn
 ·rename_i h7;obtain⟨g1,g2⟩:=h.fin h7;rw[g1]at hn;dsimp only at hn;injection hn with hn;injection hn with e1 e2;subst e1 e2;simp[bk];omega
 ·cases hn
theorem xN(h1:d.bY=[]\/d.bY=[(C.h:Int)])(h2:d.o=2->dK C s tx d.aS):rK C s tx (iF C d):=by
 unfold iF;split
 ·rename_i h;exact⟨by simp,λg=>by simp at g,h1,λ_ g=>by simp at g,λg=>by simp at g,λg=>by simp at g,λg=>by simp at g,λ_ _=>h2 h⟩
 ·rename_i h;split
  ·exact⟨by simp,λg=>by simp at g,h1,λ_ g=>by simp at g,λg=>by simp at g,λg=>by simp at g,λg=>by simp at g,λ_ g=>(h g).elim⟩
  ·exact⟨by simp,λg=>by simp at g,.inl rfl,λg=>by simp at g,λg=>by simp at g,λg=>by simp at g,λg=>by simp at g,λg=>by simp at g⟩
theorem zn{st:Int}(h1:d.bY=[]\/d.bY=[(C.h:Int)])(h2:(st=2/\dK C s tx d.aS)\/(st=3/\iX C s tx d.aS)):rK C s tx (jV C d st):=by
 unfold jV;dsimp only;split
 ·refine xN h1 (λg=>?_);dsimp only at g⊢;rcases h2 with⟨_,h⟩|⟨h,_⟩
  ·exact h
  ·omega
 ·rename_i h;exact⟨by simp,λg=>by simp at g,h1,λ_ g=>by simp at g,λg=>by simp at g,λg=>by simp at g,λ_=>⟨h1.resolve_left h,h2⟩,λg=>by simp at g⟩
theorem QB(h:rK C s tx d)(hr:gy C s c r):rK C s tx (fk C tx d c r):=by
 unfold fk;split
 ·exact h
 ·rename_i k want hn;split
  ·rename_i e;subst e;obtain⟨_,ht,ha⟩:=F0 h hn;obtain⟨n0,n1,n2,n3,n4,n5,n6,n7⟩:=Im h hn;have hp:=h.ph;split
   ·rename_i hph;unfold fG;split
    ·exact⟨by simp,λg=>by simp at g,h.tc,λ_ g=>by simp at g,λg=>by simp at g,λg=>by simp at g,λg=>by simp at g,λg=>by simp at g⟩
    split
    ·rename_i g0 g1;exact⟨by simp,λ_=>h.zm (by omega),h.tc,λ_ _=>h.wM (by omega) (by omega),λg=>by simp at g,λg=>by simp at g,λg=>by simp at g,λg=>by simp at g⟩
    split
    ·exact h
    split
    ·rename_i g0 g1 g2 g3;exact⟨by simp,λ_=>h.zm (by omega),h.tc,λ_ _=>h.wM (by omega) (by omega),λg=>by simp at g,λg=>by simp at g,λg=>by simp at g,λg=>by simp at g⟩
    split
    ·rename_i g0 g1 g2 g3 g4;have hf:=hr.get (n3 g4) (Decidable.not_not.1 g2);rw[ht,ha]at hf;unfold GJ;refine⟨by simp,λ_=>h.zm (by omega),h.tc,λ_ _=>h.wM (by omega) (by omega),λ_=>⟨_,hf,?_⟩,λg=>by simp at g,λg=>by simp at g,λg=>by simp at g⟩;simp[jw,Cf.op,sO]
    ·rename_i g0 g1 g2 g3 g4;have h4:d.ph=4:=by omega
     have hd:=hr.put (n4 h4) (Decidable.not_not.1 g2);rw[ht,ha]at hd;unfold gF;have h0:=h.zm (by omega);rw[if_pos (by omega)];exact⟨by simp,λg=>by simp at g,h.tc,λ_ _=>h.wM (by omega) (by omega),λg=>by simp at g,λ_=>hd,λg=>by simp at g,λg=>by simp at g⟩
   ·rename_i hph;split
    ·rename_i h7;obtain⟨g1,g2⟩:=h.fin h7;split
     ·dsimp only;rw[g1];simp only[List.tail_cons,if_true];refine xN h.tc (λg=>?_);dsimp only at g⊢;rcases g2 with⟨_,g3⟩|⟨g3,_⟩
      ·exact g3
      ·omega
     ·exact h
    ·rename_i h7;unfold mF;split
     ·rename_i g0;have:=(hr.wM (n0 g0.1)).1 g0.2;rw[ht,ha]at this;exact zn h.tc (.inr ⟨rfl,this⟩)
     split
     ·rename_i g0 g1;have:=(hr.wM (n0 g1.1)).2 g1.2.1 g1.2.2;rw[ht,ha]at this;unfold gF;rw[if_neg (by decide)];refine⟨by simp,λ_=>rfl,?_,λ_ _=>this,λg=>by simp at g,λg=>by simp at g,λg=>by simp at g,λg=>by simp at g⟩;dsimp only;rcases h.tc with g|g<;>rw[g]<;>simp
     split
     ·rename_i g0 g1 g2;have:=hr.X5 (n2 g2.1) g2.2.1 g2.2.2;rw[ht,ha]at this;exact zn h.tc (.inr ⟨rfl,this⟩)
     split
     ·rename_i g0 g1 g2 g3;exact⟨by simp,λ_=>h.zm (by omega),h.tc,λ_ _=>h.wM (by omega) (by omega),λg=>by simp at g,λg=>by simp at g,λg=>by simp at g,λg=>by simp at g⟩
     split
     ·rename_i g0 g1 g2 g3 g4;have hk:c.kind=5\/c.kind=6:=by
       rcases g4.1 with g|g
       ·exact .inl (n5 g)
       ·exact .inr (n6 g)
      have hd:=hr.dec hk g4.2.1;rw[ht,ha]at hd;refine zn h.tc ?_;rcases g4.2.2 with g|g
      ·exact .inl ⟨g,hd.2 g⟩
      ·exact .inr ⟨g,hd.1 g⟩
     ·exact h
  ·exact h
end
structure iA(C:Cf)(s:dM):Prop where
 inv:Inv C s
 dr: ∀(i:Nat) d,s.dr[i]?=G d->rK C s i d
 rq: ∀q∈s.req,q.1<s.dr.length/\q.2.2.tx=q.1/\iK C s q.2.1 q.2.2
 an: ∀a∈s.ans,a.1<s.dr.length/\gy C s a.2.1 a.2.2
 CU: ∀k,k≠C.h->(s.sh k).own=[]/\∀t,(s.sh k).br t=U
 od: ∀t∈s.order,0<=t/\t<s.dr.length
 ow: ∀t∈(s.sh C.h).own,0<=t/\t<s.dr.length
 lb: ∀t L,(s.sh C.h).br t=G L->0<=t/\t<=1048576/\0<=L.aS/\L.aS<=1048576
section
variable{C:Cf}{s:dM}{c:bQ}{k:Nat}{r:dh}
theorem Bv(x:dm)(c:bQ):((fS x c).1.own=x.own\/c.kind=2\/c.kind=7)/\((fS x c).1.br=x.br\/c.kind=2\/c.kind=3\/c.kind=4\/c.kind=7):=by
 unfold fS;split
 ·split
  ·exact⟨.inl rfl,.inl rfl⟩
  split
  ·rename_i h;exact⟨.inr (.inr h),.inr (.inr (.inr (.inr h)))⟩
  split
  ·exact⟨.inl rfl,.inl rfl⟩
  split
  ·exact⟨.inl rfl,.inl rfl⟩
  split
  ·rename_i h;exact⟨.inr (.inl h),.inr (.inl h)⟩
  ·rename_i hr h9 h7 ht hl h2;have hk:c.kind=3\/c.kind=4:=by
    unfold cR at hr;rw[if_neg h9]at hr;by_cases e:c.kind=2\/c.kind=3\/c.kind=4
    ·omega
    ·rw[if_neg (λh=>ht (.inl h)),if_neg e]at hr;simp at hr;omega
   refine⟨.inl ?_,by omega⟩;split
   ·unfold mg;split
    ·rfl
    ·split<;>rfl
   ·unfold gY;split
    ·rfl
    ·split<;>rfl
 ·exact⟨.inl rfl,.inl rfl⟩
theorem UN(x:dm)(c:bQ): ∀t∈(fS x c).1.own,t∈x.own\/(c.kind=2/\t=c.tx):=by
 intro t ht;rcases(Bv x c).1 with h|h|h
 ·rw[h]at ht;exact .inl ht
 ·unfold fS at ht;split at ht
  ·rw[if_neg (by omega),if_neg (by omega),if_neg (by omega)]at ht;split at ht
   ·exact .inl ht
   ·unfold kQ at ht;dsimp only at ht;unfold mf at ht;split at ht
    ·exact .inl ht
    ·rcases List.mem_append.1 ht with g|g
     ·exact .inl g
     ·exact .inr ⟨h,by simpa using g⟩
  ·exact .inl ht
 ·unfold fS at ht;split at ht
  ·unfold en at ht
   repeat' split at ht
   all_goals first|exact .inl ht|exact .inl (List.mem_filter.1 ht).1
  ·exact .inl ht
theorem Bw(h:cR c=true)(h9:c.kind≠9):0<=c.tx/\c.tx<=1048576/\0<=c.aS/\c.aS<=1048576:=by
 unfold cR at h;rw[if_neg h9]at h;simp only[Bool.and_eq_true,decide_eq_true_eq]at h;omega
theorem Mb(x:dm)(c:bQ)(t:Int)(L:cG)(h:(fS x c).1.br t=G L):(∃L0,x.br t=G L0/\L0.aS=L.aS)\/(t=c.tx/\L.aS=c.aS/\cR c=true/\c.kind≠9):=by
 have key: ∀(v:cG),cQ x.br c.tx (G v) t=G L->(v.aS=c.aS/\cR c=true/\c.kind≠9)\/(∃L0,x.br c.tx=G L0/\L0.aS=v.aS)->(∃L0,x.br t=G L0/\L0.aS=L.aS)\/(t=c.tx/\L.aS=c.aS/\cR c=true/\c.kind≠9):=λv hv hh=>by
  by_cases e:t=c.tx
  ·subst e;rw[bD]at hv;injection hv with hv;subst hv;rcases hh with⟨h1,h2⟩|h1
   ·exact .inr ⟨rfl,h1,h2⟩
   ·exact .inl h1
  ·rw[bP _ _ e]at hv;exact .inl ⟨L,hv,rfl⟩
 unfold fS at h;split at h
 ·rename_i hr;split at h
  ·exact .inl ⟨L,h,rfl⟩
  rename_i h9;split at h
  ·unfold en at h;split at h
   ·exact .inl ⟨L,h,rfl⟩
   split at h
   ·exact .inl ⟨L,h,rfl⟩
   split at h
   ·exact .inl ⟨L,h,rfl⟩
   split at h
   ·exact .inl ⟨L,h,rfl⟩
   ·have h:cQ x.br c.tx U t=G L:=h;by_cases e:t=c.tx
    ·subst e;rw[bD]at h;cases h
    ·rw[bP _ _ e]at h;exact .inl ⟨L,h,rfl⟩
  split at h
  ·exact .inl ⟨L,h,rfl⟩
  split at h
  ·exact .inl ⟨L,h,rfl⟩
  split at h
  ·exact key _ h (.inl ⟨rfl,hr,h9⟩)
  split at h
  ·unfold mg at h;split at h
   ·exact .inl ⟨L,h,rfl⟩
   ·rename_i y hy;split at h
    ·exact key _ h (.inr ⟨y,hy,rfl⟩)
    ·exact .inl ⟨L,h,rfl⟩
  ·unfold gY at h;split at h
   ·exact .inl ⟨L,h,rfl⟩
   ·rename_i y hy;split at h
    ·exact key _ h (.inr ⟨y,hy,rfl⟩)
    ·exact .inl ⟨L,h,rfl⟩
 ·exact .inl ⟨L,h,rfl⟩
theorem qg(h:iA C s)(hO:iK C s k c)(hx:c.kind=2\/c.kind=5->0<=c.tx/\c.tx<s.dr.length):iA C (bO s k c).1/\Le C s (bO s k c).1/\gy C (bO s k c).1 c (bO s k c).2:=by
 obtain⟨h1,h2,h3⟩:=L8 h.inv hO;have F2: ∀j,((bO s k c).1.sh j)=if j=k then(fS (s.sh k) c).1 else s.sh j:=λj=>rfl;refine⟨⟨h1,λi d hd=>(h.dr i d hd).le h2,λq hq=>⟨(h.rq q hq).1,(h.rq q hq).2.1,(h.rq q hq).2.2.le h2⟩,λa ha=>⟨(h.an a ha).1,(h.an a ha).2.le h2⟩,λj hj=>?_,λt ht=>?_,λt ht=>?_,λt L hL=>?_⟩,h2,h3⟩
 ·rw[F2];split
  ·rename_i e;subst e;obtain⟨g1,g2⟩:=Bv (s.sh j) c;obtain⟨o1,o2⟩:=h.CU j hj;have hn: ¬(c.kind=2\/c.kind=3\/c.kind=4\/c.kind=7):=λe=>hj (hO.Z8 e);exact⟨by rw[g1.resolve_right (by omega)];exact o1,λt=>by rw[g2.resolve_right (by omega)];exact o2 t⟩
  ·exact h.CU j hj
 ·have ht:t∈s.order\/(c.kind=5/\t=c.tx):=by
   unfold bO at ht;dsimp only at ht;split at ht
   ·rename_i g;rcases List.mem_append.1 ht with e|e
    ·exact .inl e
    ·exact .inr ⟨g.1,by simpa using e⟩
   ·exact .inl ht
  rcases ht with e|⟨e,rfl⟩
  ·exact h.od t e
  ·exact hx (.inr e)
 ·rw[F2]at ht;split at ht
  ·rename_i e;rw[<-e]at ht;rcases UN _ _ t ht with g|⟨g,rfl⟩
   ·exact h.ow t g
   ·exact hx (.inl g)
  ·exact h.ow t ht
 ·rw[F2]at hL;split at hL
  ·rename_i e;rw[<-e]at hL;rcases Mb _ _ t L hL with⟨L0,g1,g2⟩|⟨g1,g2,g3,g4⟩
   ·have:=h.lb t L0 g1;omega
   ·have:=Bw g3 g4;omega
  ·exact h.lb t L hL
theorem tS{s':dM}(h:s'.sh=s.sh):Le C s s':=by
 have hm: ∀t,nZ C s' t=nZ C s t:=λt=>by unfold nZ;rw[h]
 exact FY (λt r hr=>⟨r,by rw[hm];exact hr,.inl ⟨rfl,.inl rfl⟩⟩) (λ{t a y} hy=>by unfold kJ eH jC ko at *;rw[h];exact hy) (λ{t a} hy=>by unfold tw eH at *;rw[h];exact hy)
theorem Mc{s':dM}(hI:Inv C s)(h:s'.sh=s.sh)(ho:s'.order=s.order):Inv C s':=by
 have fA: ∀t a,dK C s' t a↔dK C s t a:=λt a=>by unfold dK nZ;rw[h]
 have hL:Le C s s':=tS h;refine⟨λj=>by rw[h];exact hI.st j,by rw[ho];exact hI.nd,λt=>?_,λt d g=>?_,λt L g=>?_,λt a g=>hL.dec (hI.cl t a ((fA t a).1 g)),?_⟩
 ·rw[ho,hI.om];exact⟨λ⟨a,y⟩=>⟨a,(fA t a).2 y⟩,λ⟨a,y⟩=>⟨a,(fA t a).1 y⟩⟩
 ·rw[h]at g;rcases hI.dn t d g with y|y
  ·exact .inl (hL.dead y)
  ·exact .inr (hL.comm y)
 ·rw[h]at g;obtain⟨g1,g2,g3⟩:=hI.lv t L g;unfold eH jC ko at *;rw[h];exact⟨hL.wM g1,g2,g3⟩
 ·obtain⟨AL,g1,g2,g3⟩:=hI.va;refine⟨AL,g1,λt=>?_,by unfold ko at *;rw[h];exact g3⟩;rw[g2];unfold eH;rw[h];exact⟨λ⟨a,y,z⟩=>⟨a,(fA t a).2 y,z⟩,λ⟨a,y,z⟩=>⟨a,(fA t a).1 y,z⟩⟩
theorem uW(h:iA C s){dr:List eF}{req:List (Nat×Nat×bQ)}{ans:List (Nat×bQ×dh)}(hl:s.dr.length<=dr.length)(h1: ∀(i:Nat) d,dr[i]?=G d->rK C s i d)
 (h2: ∀q∈req,q.1<dr.length/\q.2.2.tx=q.1/\iK C s q.2.1 q.2.2) (h3: ∀a∈ans,a.1<dr.length/\gy C s a.2.1 a.2.2):iA C {s with dr:=dr,req:=req,ans:=ans}:=by
 have hL:Le C s {s with dr:=dr,req:=req,ans:=ans}:=tS rfl;exact⟨Mc h.inv rfl rfl,λi d hd=>(h1 i d hd).le hL,λq hq=>⟨(h2 q hq).1,(h2 q hq).2.1,(h2 q hq).2.2.le hL⟩,λa ha=>⟨(h3 a ha).1,(h3 a ha).2.le hL⟩,h.CU,
  λt ht=>by have:=h.od t ht;exact⟨this.1,by show t<(dr.length:Int);omega⟩,λt ht=>by have:=h.ow t ht;exact⟨this.1,by show t<(dr.length:Int);omega⟩,h.lb⟩
theorem Io(h:iA C s){i:Nat}{d:eF}(hd:s.dr[i]?=G d)(hr:gy C s c r):iA C {s with dr:=s.dr.set i (fk C i d c r)}:=by
 have:=uW (dr:=s.dr.set i (fk C i d c r)) (req:=s.req) (ans:=s.ans) h (by simp) (λj d' hj=>?_) (λq hq=>by simpa using h.rq q hq) (λa ha=>by simpa using h.an a ha)
 ·exact this
 ·by_cases e:i=j
  ·subst e;rw[List.getElem?_set_self (bf hd)]at hj;injection hj with hj;subst hj;exact QB (h.dr i d hd) hr
  ·rw[List.getElem?_set_ne e]at hj;exact h.dr j d' hj
end
def jI:bQ:=bk 9 0 0
def jc(s:dM)(k:Nat):dM:=(bO s k jI).1
def dE(C:Cf)(s:dM)(t a wait:Int):dM×Int:=
 match(s.sh (bZ C t)).rows t with
 |none=>(s,0)
 |some r=>if r.aS<a then(s,0)else if a<r.aS then(s,3)else if r.state≠1 then(s,r.state)else
  if wait<(s.sh (bZ C t)).clock-r.heard then((bO s (bZ C t) (bk 6 t a)).1,(bO s (bZ C t) (bk 6 t a)).2.state)else(s,0)
def cW(C:Cf)(k:Nat)(wait:Int)(s:dM)(x:Int×Int):dM:=
 let o:=dE C s x.1 x.2 wait
 if o.2≠0 then(bO o.1 k (fy x.1 x.2 (decide (o.2=2)))).1 else o.1
def uX(x:dm)(l:List (Int×Int)):Prop:=(l.map (·.1)).Nodup/\∀t a,(t,a)∈l↔ ∃L,x.br t=G L/\L.aS=a
structure D3(s:dM)(B:Int):Prop where
 QC: ∀k,0<=(s.sh k).clock/\(s.sh k).clock<=B
 SV: ∀k t r,(s.sh k).rows t=G r->r.heard<=(s.sh k).clock
def zq(f f':Rows)(now:Int):Prop:=∀t r',f' t=G r'->r'.heard<=now\/∃r,f t=G r/\r'.heard=r.heard
theorem zq.refl(f:Rows)(now:Int):zq f f now:=λt r h=>.inr ⟨r,h,rfl⟩
theorem qh{f:Rows}{k:Int}{v:cz}{now:Int}(h:v.heard<=now\/∃r,f k=G r/\v.heard=r.heard):zq f (cQ f k (G v)) now:=by
 intro t r' ht;by_cases e:t=k
 ·subst e;rw[bD]at ht;injection ht with ht;subst ht;exact h
 ·rw[bP _ _ e]at ht;exact .inr ⟨r',ht,rfl⟩
theorem tT(f:Rows)(r:cz):zq f (putRow f r).1 r.heard:=by
 unfold putRow;split
 ·exact qh (.inl (Int.le_refl _))
 ·split
  ·exact qh (.inl (Int.le_refl _))
  ·exact zq.refl _ _
theorem Ip(x:dm)(c:bQ):zq x.rows (dO x c).1.rows (max x.clock (if c.kind=8 then(match x.rows c.tx with|some r=>r.heard|none=>x.clock)else x.clock)):=by
 have Me: ∀{f f':Rows} {a b:Int},a<=b->zq f f' a->zq f f' b:=λDy h t r ht=>by
  rcases h t r ht with g|g
  ·exact .inl (by omega)
  ·exact .inr g
 unfold dO;dsimp only;split
 ·refine Me (a:=x.clock) (by omega) ?_;unfold eD;split
  ·exact tT _ ⟨c.tx,c.aS,c.aY,1,x.clock⟩
  ·split
   ·exact tT _ ⟨c.tx,c.aS,c.aY,1,x.clock⟩
   ·split<;>exact zq.refl _ _
 ·split
  ·refine Me (a:=x.clock) (by omega) ?_;unfold cg;split
   ·exact zq.refl _ _
   ·rename_i r h;split
    ·exact zq.refl _ _
    ·split
     ·exact zq.refl _ _
     ·split
      ·exact qh (.inr ⟨r,h,rfl⟩)
      ·split<;>exact zq.refl _ _
  ·split
   ·refine Me (a:=x.clock) (by omega) ?_;unfold dI;split
    ·exact tT _ ⟨c.tx,c.aS,0,3,x.clock⟩
    ·rename_i r h;split
     ·exact tT _ ⟨c.tx,c.aS,0,3,x.clock⟩
     ·split
      ·exact zq.refl _ _
      ·split
       ·exact qh (.inr ⟨r,h,rfl⟩)
       ·split<;>exact zq.refl _ _
   ·unfold eE;split
    ·exact zq.refl _ _
    ·rename_i r h;split
     ·exact zq.refl _ _
     ·split
      ·exact zq.refl _ _
      ·dsimp only;split
       ·refine qh ?_;dsimp only;by_cases g:r.heard<=x.clock
        ·exact .inl (by omega)
        ·exact .inr ⟨r,h,by omega⟩
       ·exact zq.refl _ _
theorem zr(x:dm)(c:bQ):((fS x c).1.rows=x.rows/\(fS x c).1.clock=(if c.kind=9 then min (x.clock+1) 1099511627776 else x.clock))\/((fS x c).1.rows=(dO x c).1.rows/\(fS x c).1.clock=x.clock):=by
 unfold fS;split
 ·split
  ·rename_i h9;exact .inl ⟨rfl,rfl⟩
  ·rename_i h9;split
   ·refine .inl ?_;unfold en
    repeat' split
    all_goals exact⟨rfl,rfl⟩
   ·split
    ·exact .inr ⟨rfl,rfl⟩
    ·refine .inl ?_;split
     ·exact⟨rfl,rfl⟩
     ·split
      ·exact⟨rfl,rfl⟩
      ·split
       ·unfold mg
        repeat' split
        all_goals exact⟨rfl,rfl⟩
       ·unfold gY
        repeat' split
        all_goals exact⟨rfl,rfl⟩
 ·rename_i hr;refine .inl ⟨rfl,?_⟩;have h9: ¬c.kind=9:=λh=>hr (by unfold cR;rw[if_pos h]);rw[if_neg h9]
theorem UO{s:dM}{B:Int}(h:D3 s B)(k:Nat)(c:bQ)(hB:B<1099511627776):D3 (bO s k c).1 (if c.kind=9 then B+1 else B):=by
 have F2: ∀j,((bO s k c).1.sh j)=if j=k then(fS (s.sh k) c).1 else s.sh j:=λj=>rfl;refine⟨λj=>?_,λj t r hr=>?_⟩
 ·rw[F2];have:=h.QC k;have:=h.QC j;split
  ·rcases zr (s.sh k) c with⟨_,g⟩|⟨_,g⟩
   ·rw[g];split<;>omega
   ·rw[g];split<;>omega
  ·split<;>omega
 ·rw[F2]at hr⊢;split at hr
  ·rename_i e;rw[if_pos e];have hc:=h.QC k;rcases zr (s.sh k) c with⟨g1,g2⟩|⟨g1,g2⟩
   ·rw[g1]at hr;have:=h.SV k t r hr;rw[g2];split<;>omega
   ·rw[g1]at hr;rw[g2];rcases Ip (s.sh k) c t r hr with g|⟨r0,g3,g4⟩
    ·split at g
     ·split at g
      ·rename_i r0 h0;have:=h.SV k c.tx r0 h0;omega
      ·omega
     ·omega
    ·have:=h.SV k t r0 g3;omega
  ·rename_i e;rw[if_neg e];exact h.SV j t r hr
section
variable{C:Cf}{s:dM}
def zt(C:Cf)(s:dM):Prop:=∀t r,nZ C s t=G r->r.state=1->r.heard<(s.sh (bZ C t)).clock
theorem Bx(C:Cf)(s:dM)(t a:Int):iK C s (bZ C t) (bk 6 t a):=
 ⟨λh=>by simp[bk]at h,λ_=>rfl,by simp[bk],λh=>by simp[bk]at h,λh=>by simp[bk]at h,λh=>by simp[bk]at h,λh=>by simp[bk]at h⟩
theorem F3{t a:Int}{y:Bool}(h1:y=true->dK C s t a)(h2:y=false->iX C s t a):iK C s C.h (fy t a y):=
 ⟨λ_=>rfl,λh=>by simp[fy]at h,by simp[fy],λh=>by simp[fy]at h,λh=>by simp[fy]at h,λh=>by simp[fy]at h,λ_=>⟨h1,h2⟩⟩
theorem zu(h:iA C s)(t a wait:Int):iA C (dE C s t a wait).1/\Le C s (dE C s t a wait).1/\((dE C s t a wait).2=2->dK C (dE C s t a wait).1 t a)/\((dE C s t a wait).2≠0->(dE C s t a wait).2≠2->iX C (dE C s t a wait).1 t a):=by
 unfold dE;split
 ·exact⟨h,Le.refl _,λg=>by simp at g,λg=>by simp at g⟩
 ·rename_i r hr;have hm:nZ C s t=G r:=hr;split
  ·exact⟨h,Le.refl _,λg=>by simp at g,λg=>by simp at g⟩
  split
  ·rename_i h1 h2;exact⟨h,Le.refl _,λg=>by simp at g,λ_ _=>⟨r,hm,.inl h2⟩⟩
  split
  ·rename_i h1 h2 h3;have kO:=h.inv.st _ t r hr;exact⟨h,Le.refl _,λg=>⟨r,hm,by omega,g⟩,λ_ g=>⟨r,hm,.inr ⟨by omega,by dsimp only at g;omega⟩⟩⟩
  split
  ·rename_i h1 h2 h3 h4;obtain⟨g1,g2,g3⟩:=qg h (Bx C s t a) (λe=>by simp[bk]at e);refine⟨g1,g2,λe=>?_,λe e'=>?_⟩
   all_goals
    have Ma:(bO s (bZ C t) (bk 6 t a)).2.state=3/\(bO s (bZ C t) (bk 6 t a)).2.code=0\/(bO s (bZ C t) (bk 6 t a)).2.state=0:=by
     unfold bO fS;dsimp only;split
     ·rw[if_neg (by simp[bk]),if_neg (by simp[bk]),if_pos (by simp[bk])];unfold dO;dsimp only;rw[if_neg (by simp[bk]),if_neg (by simp[bk]),if_pos (by simp[bk])];unfold dI;rw[show(bk 6 t a).tx=t from rfl,hr];dsimp only;rw[if_neg (show¬r.aS<(bk 6 t a).aS from h1),if_neg (show¬(bk 6 t a).aS<r.aS from h2),if_pos (Decidable.not_not.1 h3)];exact .inl ⟨rfl,rfl⟩
     ·exact .inr rfl
   ·rcases Ma with⟨x,_⟩|x
    ·rw[x]at e;cases e
    ·rw[x]at e;cases e
   ·rcases Ma with⟨x,y⟩|x
    ·exact(g3.dec (.inr rfl) y).1 x
    ·exact(e x).elim
  ·exact⟨h,Le.refl _,λg=>by simp at g,λg=>by simp at g⟩
theorem QD(h:iA C s)(wait:Int)(x:Int×Int):iA C (cW C C.h wait s x):=by
 obtain⟨g1,g2,g3,g4⟩:=zu h x.1 x.2 wait;unfold cW;dsimp only;split
 ·rename_i eQ;exact(qg g1 (F3 (λe=>g3 (of_decide_eq_true e)) (λe=>g4 eQ (of_decide_eq_false e))) (λe=>by simp[fy]at e)).1
 ·exact g1
end
theorem F4:lN emp=0:=mz (gL (.inl rfl))
theorem QE{n:Int}(h0: -1125899906842624<=n)(h1:n<=1125899906842624):lN (qO n)=n:=by
 unfold lN;rw[ji];exact C6 h0 h1
section
variable{C:Cf}{s:dM}
theorem UQ(s:dM)(C:Cf)(t a:Int):((bO s (bZ C t) (bk 6 t a)).1.sh C.h).br=(s.sh C.h).br/\((bO s (bZ C t) (bk 6 t a)).1.sh C.h).cr=(s.sh C.h).cr:=by
 have F2: ∀j,((bO s (bZ C t) (bk 6 t a)).1.sh j)=if j=bZ C t then(fS (s.sh (bZ C t)) (bk 6 t a)).1 else s.sh j:=λj=>rfl;rw[F2];split
 ·rename_i e;rw[e];unfold fS;split
  ·rw[if_neg (by simp[bk]),if_neg (by simp[bk]),if_pos (by simp[bk])];exact⟨rfl,rfl⟩
  ·exact⟨rfl,rfl⟩
 ·exact⟨rfl,rfl⟩
theorem UR(h:zt C s)(t a:Int):zt C (bO s (bZ C t) (bk 6 t a)).1:=by
 have F2: ∀j,((bO s (bZ C t) (bk 6 t a)).1.sh j)=if j=bZ C t then(fS (s.sh (bZ C t)) (bk 6 t a)).1 else s.sh j:=λj=>rfl;have SK:(fS (s.sh (bZ C t)) (bk 6 t a)).1.clock=(s.sh (bZ C t)).clock/\∀u r,(fS (s.sh (bZ C t)) (bk 6 t a)).1.rows u=G r->r.state=1->(s.sh (bZ C t)).rows u=G r:=by
  unfold fS;split
  ·rw[if_neg (by simp[bk]),if_neg (by simp[bk]),if_pos (by simp[bk])];unfold dO;dsimp only;rw[if_neg (by simp[bk]),if_neg (by simp[bk]),if_pos (by simp[bk])];refine⟨rfl,λu r hu h1=>?_⟩;have key: ∀(f:Rows) (k:Int) (v:cz),v.state≠1->cQ f k (G v) u=G r->f u=G r:=λf k v hv hh=>by
    by_cases e:u=k
    ·subst e;rw[bD]at hh;injection hh with hh;subst hh;exact(hv h1).elim
    ·rwa[bP _ _ e]at hh
   have Bq: ∀v:cz,v.state=3->(putRow (s.sh (bZ C t)).rows v).1 u=G r->(s.sh (bZ C t)).rows u=G r:=λv hv hh=>by
    unfold putRow at hh;split at hh
    ·exact key _ _ _ (by omega) hh
    ·split at hh
     ·exact key _ _ _ (by dsimp only;omega) hh
     ·exact hh
   unfold dI at hu;split at hu
   ·exact Bq _ rfl hu
   ·split at hu
    ·exact Bq _ rfl hu
    ·split at hu
     ·exact hu
     ·split at hu
      ·exact key _ _ _ (by simp) hu
      ·split at hu<;>exact hu
  ·exact⟨rfl,λu r hu _=>hu⟩
 intro u r hu h1;unfold nZ at hu;rw[F2]at hu⊢;split at hu
 ·rename_i e;rw[if_pos e,SK.1, <-e];exact h u r (by unfold nZ;rw[e];exact SK.2 u r hu h1) h1
 ·rename_i e;rw[if_neg e];exact h u r hu h1
theorem Iq(h:iA C s)(hq:zt C s){t:Int}{L:cG}(hL:(s.sh C.h).br t=G L):
 (dE C s t L.aS 0).2≠0/\((dE C s t L.aS 0).1.sh C.h).br=(s.sh C.h).br/\((dE C s t L.aS 0).1.sh C.h).cr=(s.sh C.h).cr/\zt C (dE C s t L.aS 0).1:=by
 obtain⟨⟨r,g1,g2⟩,_,_⟩:=h.inv.lv t L hL;have kO:=h.inv.st _ t r g1;have g1':(s.sh (bZ C t)).rows t=G r:=g1;unfold dE;rw[g1'];dsimp only;rw[if_neg (by omega)];split
 ·exact⟨by simp,rfl,rfl,hq⟩
 ·split
  ·rename_i h3;exact⟨by dsimp only;omega,rfl,rfl,hq⟩
  ·rename_i h2 h3;have:=hq t r g1 (Decidable.not_not.1 h3);rw[if_pos (by omega)];obtain⟨k1,k2⟩:=UQ s C t L.aS;refine⟨?_,k1,k2,UR hq t L.aS⟩;dsimp only;unfold bO fS;dsimp only;split
   ·rw[if_neg (by simp[bk]),if_neg (by simp[bk]),if_pos (by simp[bk])];unfold dO;dsimp only;rw[if_neg (by simp[bk]),if_neg (by simp[bk]),if_pos (by simp[bk])];unfold dI;rw[show(bk 6 t L.aS).tx=t from rfl,g1'];dsimp only;rw[if_neg (show¬r.aS<(bk 6 t L.aS).aS by show¬r.aS<L.aS;omega),if_neg (show¬(bk 6 t L.aS).aS<r.aS from h2),if_pos (Decidable.not_not.1 h3)];simp[gX]
   ·rename_i hr;have hb:=h.lb t L hL;exact(hr (by
     unfold cR bk;simp only[show¬((6:Int)=9) by decide,show¬((6:Int)=1) by decide,show¬((6:Int)=2\/(6:Int)=3\/(6:Int)=4) by decide,if_false];simp;omega)).elim
theorem Bz{t:Int}{L:cG}(hL:(s.sh C.h).br t=G L)(hb:0<=t/\t<=1048576/\0<=L.aS/\L.aS<=1048576)(hn: ¬eH C s t L.aS)(y:Bool):
 (∀u,((bO s C.h (fy t L.aS y)).1.sh C.h).br u=if u=t then U else(s.sh C.h).br u)/\(∀k,((bO s C.h (fy t L.aS y)).1.sh k).rows=(s.sh k).rows)/\
 ∀k,((bO s C.h (fy t L.aS y)).1.sh k).clock=(s.sh k).clock:=by
 have F2: ∀j,((bO s C.h (fy t L.aS y)).1.sh j)=if j=C.h then(fS (s.sh C.h) (fy t L.aS y)).1 else s.sh j:=λj=>rfl;have hr:cR (fy t L.aS y)=true:=by
  unfold cR fy;simp only[show¬((7:Int)=9) by decide,show¬((7:Int)=1) by decide,show¬((7:Int)=2\/(7:Int)=3\/(7:Int)=4) by decide,if_false];simp;omega
 have iO: ¬gM (s.sh C.h) t L.aS=true:=λh=>hn (xM (c:=(fy t L.aS y)).1 h);have SK:(fS (s.sh C.h) (fy t L.aS y)).1=oL (s.sh C.h) (fy t L.aS y) L:=by
  unfold fS;rw[if_pos hr,if_neg (by simp[fy]),if_pos (by simp[fy])];unfold en;rw[if_neg (show¬gM (s.sh C.h) (fy t L.aS y).tx (fy t L.aS y).aS=true from iO),show(fy t L.aS y).tx=t from rfl,hL];dsimp only;rw[if_neg (by simp[fy]),if_neg (by simp[fy])]
 refine⟨λu=>?_,λk=>?_,λk=>?_⟩
 ·rw[F2,if_pos rfl,SK];rfl
 ·rw[F2];split
  ·rename_i e;rw[SK,e];rfl
  ·rfl
 ·rw[F2];split
  ·rename_i e;rw[SK,e];rfl
  ·rfl
theorem Mf(h:iA C s)(hq:zt C s){t:Int}{L:cG}(hL:(s.sh C.h).br t=G L):
 iA C (cW C C.h 0 s (t,L.aS))/\zt C (cW C C.h 0 s (t,L.aS))/\(∀u,((cW C C.h 0 s (t,L.aS)).sh C.h).br u=if u=t then U else(s.sh C.h).br u):=by
 refine⟨QD h 0 (t,L.aS),?_⟩;obtain⟨g1,g2,g3,g4⟩:=Iq h hq hL;have hs:=(zu h t L.aS 0).1;unfold cW;dsimp only;rw[if_pos g1];generalize OD:(dE C s t L.aS 0).1=s1 at *;have hn: ¬eH C s1 t L.aS:=by
  unfold eH;rw[g3];exact(h.inv.lv t L hL).2.1
 obtain⟨k1,k2,k3⟩:=Bz (C:=C) (s:=s1) (t:=t) (L:=L) (by rw[g2];exact hL) (h.lb t L hL) hn (decide ((dE C s t L.aS 0).2=2));refine⟨λu r hu h1=>?_,λu=>by rw[k1,g2]⟩;unfold nZ at hu;rw[k2]at hu;rw[k3];exact g4 u r hu h1
theorem xO: ∀(ls:List (Int×Int)) (s:dM),iA C s->zt C s->(ls.map (·.1)).Nodup->(∀x∈ls,∃L,(s.sh C.h).br x.1=G L/\L.aS=x.2)->
 iA C (ls.foldl (cW C C.h 0) s)/\∀u,((ls.foldl (cW C C.h 0) s).sh C.h).br u=if u∈ls.map (·.1)then U else(s.sh C.h).br u
 |[],s,h,_,_,_=>⟨h,λu=>by simp⟩
 |(t,a)::r,s,h,hq,hnd,hl=>by
  obtain⟨L,h1,h2⟩:=hl (t,a) (by simp);dsimp only at h1 h2;subst h2;obtain⟨g1,g2,g3⟩:=Mf h hq h1;rw[List.map_cons,List.nodup_cons]at hnd;obtain⟨k1,k2⟩:=xO r (cW C C.h 0 s (t,L.aS)) g1 g2 hnd.2 (λx hx=>by
   obtain⟨L',e1,e2⟩:=hl x (by simp[hx]);refine⟨L',?_,e2⟩;rw[g3,if_neg]
   ·exact e1
   ·intro e;exact hnd.1 (by rw[<-e];exact List.mem_map.2 ⟨x,hx,rfl⟩))
  refine⟨k1,λu=>?_⟩;rw[List.foldl_cons,k2,g3,List.map_cons];by_cases e2:u∈r.map (·.1)
  ·rw[if_pos e2,if_pos (List.mem_cons_of_mem _ e2)]
  ·rw[if_neg e2];by_cases e1:u=t
   ·rw[if_pos e1,if_pos (by rw[e1];exact List.mem_cons_self)]
   ·rw[if_neg e1,if_neg (λh=>by
     rcases List.mem_cons.1 h with h|h
     ·exact e1 h
     ·exact e2 h)]
theorem Mg(h:iA C s)(hq:zt C s){ls:List (Int×Int)}(hl:uX (s.sh C.h) ls):iA C (ls.foldl (cW C C.h 0) s)/\∀u,((ls.foldl (cW C C.h 0) s).sh C.h).br u=U:=by
 obtain⟨g1,g2⟩:=xO ls s h hq hl.1 (λx hx=>(hl.2 x.1 x.2).1 hx);refine⟨g1,λu=>?_⟩;rw[g2];split
 ·rfl
 ·rename_i hu;cases hx:(s.sh C.h).br u with
  |none=>rfl
  |some L=>exact(hu (List.mem_map.2 ⟨(u,L.aS),(hl.2 u L.aS).2 ⟨L,hx,rfl⟩,rfl⟩)).elim
theorem QF(h:iA C s)(hn: ∀u,(s.sh C.h).br u=U):ko C s=rH C s.order.length:=by
 obtain⟨AL,g1,g2,g3⟩:=h.inv.va;have hm: ∀t,t∈AL↔t∈s.order:=λt=>by
  rw[g2,h.inv.om]
  constructor
  ·rintro⟨a,x,_⟩;exact⟨a,x⟩
  ·rintro⟨a,x⟩;refine⟨a,x,?_⟩;rcases h.inv.cl t a x with y|⟨L,y,_⟩
   ·exact y
   ·rw[hn]at y;cases y
 rw[g3,((List.perm_ext_iff_of_nodup g1 h.inv.nd).2 hm).length_eq]
theorem uY(hC:C.n=1): ∀m:Nat,m<=1000->lN (eP (rH C m))=m/\fB (rH C m)=decide (0<m)
 |0,_=>⟨F4,rfl⟩
 |m+1,hm=>by
  obtain⟨g1,_⟩:=uY hC m (by omega);refine⟨?_,rfl⟩;show lN (qO (sumOf C.op (rH C m)))=_;unfold sumOf;rw[g1,show C.op.n=C.n from rfl,hC,show dN (1:Int)=1 by decide];have e:dN ((m:Int)+1)=(m:Int)+1:=by unfold dN;omega
  rw[e,QE (by omega) (by omega)];simp
theorem QG(h:iA C s):((List.range s.dr.length).filter λi=>(s.dr[i]?).any λd=>decide (d.ph=8)&&decide (d.o=2)).length<=s.order.length:=by
 have wH:(((List.range s.dr.length).filter λi=>(s.dr[i]?).any λd=>decide (d.ph=8)&&decide (d.o=2)).map λi:Nat=>(i:Int)).length<=s.order.length:=by
  refine List.Nodup.length_le_of_subset ?_ λx hx=>?_
  ·exact List.pairwise_map.2 ((List.Pairwise.filter _ List.nodup_range).imp (λh e=>h (by omega)))
  ·obtain⟨i,hi,rfl⟩:=List.mem_map.1 hx;have hi:=(List.mem_filter.1 hi).2;cases hd:s.dr[i]? with
   |none=>rw[hd]at hi;cases hi
   |some d=>
    rw[hd]at hi;simp at hi;exact(h.inv.om _).2 ⟨d.aS,(h.dr i d hd).ovr hi.1 hi.2⟩
 simpa using wH
theorem jd(h:iA C s):s.order.length<=s.dr.length:=by
 have h1:=List.Nodup.length_le_of_subset h.inv.nd (l₂:=(List.range s.dr.length).map λi:Nat=>(i:Int)) λx hx=>by
  have:=h.od x hx;exact List.mem_map.2 ⟨x.toNat,List.mem_range.2 (by omega),by omega⟩
 simpa using h1
end
def dV:dM:=⟨λ_=>iS,[],[],[],[]⟩
theorem Mh(C:Cf):iA C dV:=by
 have mr: ∀t a,¬dK C dV t a:=λt a h=>by
  obtain⟨r,h1,_⟩:=h;cases h1
 refine⟨⟨λk t r h=>(by cases h),List.nodup_nil,λt=>⟨λh=>(by cases h),λ⟨a,h⟩=>(mr t a h).elim⟩,λt d h=>(by cases h),λt L h=>(by cases h),λt a h=>(mr t a h).elim,[],List.nodup_nil,λt=>⟨λh=>(by cases h),λ⟨a,h,_⟩=>(mr t a h).elim⟩,rfl⟩,
  λi d h=>(by simp[dV]at h),λq h=>(by cases h),λa h=>(by cases h),λk _=>⟨rfl,λt=>rfl⟩,λt h=>(by cases h),λt h=>(by cases h),λt L h=>(by cases h)⟩
theorem Mi:D3 dV 0:=⟨λk=>⟨Int.le_refl _,Int.le_refl _⟩,λk t r h=>(by cases h)⟩
theorem BA{C:Cf}{s:dM}(h:iA C s):iA C {s with dr:=s.dr++[bW]}:=by
 have:=uW (dr:=s.dr++[bW]) (req:=s.req) (ans:=s.ans) h (by simp) (λi d hd=>?_) (λq hq=>⟨by have:=(h.rq q hq).1;simp;omega,(h.rq q hq).2⟩) (λa ha=>⟨by have:=(h.an a ha).1;simp;omega,(h.an a ha).2⟩)
 ·exact this
 ·by_cases e:i<s.dr.length
  ·rw[List.getElem?_append_left e]at hd;exact h.dr i d hd
  ·rw[List.getElem?_append_right (by omega)]at hd;have h0:=bf hd;simp at h0;rw[show i-s.dr.length=0 by omega]at hd;simp at hd;subst hd;exact UM C s i
def gW(s:dM)(n:Nat):dM:=(List.range n).foldl jc s
theorem lV(s:dM)(n:Nat):gW s (n+1)=jc (gW s n) n:=by
 unfold gW;rw[List.range_succ,List.foldl_append];rfl
theorem QH(s:dM)(k j:Nat):(jc s k).sh j=if j=k then{s.sh k with clock:=min ((s.sh k).clock+1) 1099511627776}else s.sh j:=by
 show dP s.sh k (fS (s.sh k) jI).1 j=_;unfold dP;split
 ·unfold fS;rw[if_pos (show cR jI=true by decide),if_pos (show jI.kind=9 from rfl)]
 ·rfl
theorem D4(s:dM)(k:Nat):(jc s k).dr=s.dr/\(jc s k).req=s.req/\(jc s k).ans=s.ans/\(jc s k).order=s.order:=by
 refine⟨rfl,rfl,rfl,?_⟩;unfold jc bO;dsimp only;rw[if_neg (λh=>by have:=h.1;simp[jI,bk]at this)]
theorem BC(C:Cf)(s:dM)(k:Nat):iK C s k jI:=
 ⟨λh=>by simp[jI,bk]at h,λh=>by simp[jI,bk]at h,by simp[jI,bk],λh=>by simp[jI,bk]at h,λh=>by simp[jI,bk]at h,λh=>by simp[jI,bk]at h,λh=>by simp[jI,bk]at h⟩
theorem Ir{C:Cf}{s:dM}(h:iA C s)(k:Nat):iA C (jc s k):=(qg h (BC C s k) (λe=>by simp[jI,bk]at e)).1
theorem rL{C:Cf}{s:dM}(h:iA C s): ∀n,iA C (gW s n)/\(∀j,(gW s n).sh j=if j<n then{s.sh j with clock:=min ((s.sh j).clock+1) 1099511627776}else s.sh j)/\(gW s n).dr=s.dr/\(gW s n).order=s.order
 |0=>⟨h,λj=>by rw[if_neg (by omega)];rfl,rfl,rfl⟩
 |n+1=>by
  obtain⟨h1,h2,h3,h4⟩:=rL h n;rw[lV];obtain⟨k1,_,_,k4⟩:=D4 (gW s n) n;refine⟨Ir h1 n,λj=>?_,by rw[k1,h3],by rw[k4,h4]⟩;rw[QH];by_cases e:j=n
  ·subst e;rw[if_pos rfl,if_pos (by omega),h2,if_neg (by omega)]
  ·rw[if_neg e,h2];by_cases e2:j<n
   ·rw[if_pos e2,if_pos (by omega)]
   ·rw[if_neg e2,if_neg (by omega)]
theorem QI{C:Cf}{s:dM}{B:Int}(h:iA C s)(hH:D3 s B)(hB:B<1099511627776)(sP:0<C.ns):zt C (gW s C.ns):=by
 obtain⟨_,h2,_,_⟩:=rL h C.ns;intro t r hr _;have hlt:bZ C t<C.ns:=Nat.mod_lt _ sP;unfold nZ at hr;rw[h2,if_pos hlt]at hr⊢;have h1:=hH.SV _ t r hr;have h3:=hH.QC (bZ C t);dsimp only;omega
theorem vOf_some(v:ByteArray):eP (G v)=v:=rfl
structure Mj(C:Cf):Prop where
 key:0<C.key.size/\C.key.size<=16
 n: -1125899906842624<=C.n/\C.n<=1125899906842624
 tries:1<=C.tries/\C.tries<=256
 ns:1<=C.ns/\C.ns<=8
 h:C.h<C.ns
structure JQ(C:Cf)(d:eF):Prop where
 ph:0<=d.ph/\d.ph<=8
 at_:0<=d.at_/\d.at_<=1
 zm:d.ph=1\/d.ph=2\/d.ph=3\/d.ph=4->d.at_=0
 aS:0<=d.aS/\d.aS<C.tries
 o:1<=d.o/\d.o<=3
 tc:d.bY=[]\/d.bY=[(C.h:Int)]
 t0:d.ph=0->d.bY=[]
 lf:d.left=[]\/(d.left=[(C.h:Int)]/\d.bY=[(C.h:Int)])
 l7:d.ph=7->d.left=[(C.h:Int)]
 rs:d.res.length<=1
 r3:d.ph<=3->d.res=[]
 wr:d.ph=4->fB d.write=true
 vl:(eP d.last).size<=32/\(eP d.write).size<=32
structure rM(r:dh):Prop where
 va:r.val.size<=32
 nv:r.has=false->r.val=emp
theorem qi{n:Int}(h0: -9999999999999999<=n)(h1:n<=9999999999999999):(qO n).size<=32:=by
 have h:(qO n).size=(itoa n).length:=by
  rw[<-ji,Array.length_toList];rfl
 rw[h];have:=JZ h0 h1;omega
theorem BD(o:nu)(x:kB):(qO (sumOf o x)).size<=32:=by
 have:=mC (lN (eP x)+dN o.n);exact qi (by unfold sumOf;omega) (by unfold sumOf;omega)
theorem F5{C:Cf}(h:1<=C.tries):JQ C bW:=
 ⟨by decide,by decide,λ_=>rfl,⟨by decide,by show(0:Int)<C.tries;omega⟩,by decide,.inl rfl,λ_=>rfl,.inl rfl,λh=>by simp[bW]at h,by decide,λ_=>rfl,λh=>by simp[bW]at h,by decide⟩
section
variable{C:Cf}{d:eF}{c:bQ}{r:dh}{tx:Int}
theorem BF(h1:0<=d.at_/\d.at_<=1)(h2:0<=d.aS/\d.aS<C.tries)(h3:1<=d.o/\d.o<=3)(h4:d.bY=[]\/d.bY=[(C.h:Int)])(h5:d.res.length<=1)
 (h6:(eP d.last).size<=32/\(eP d.write).size<=32) (hl:d.left=[]):JQ C (iF C d):=by
 unfold iF;split
 ·exact⟨by simp,h1,λg=>by simp at g,h2,h3,h4,λg=>by simp at g,.inl hl,λg=>by simp at g,h5,λg=>by simp at g,λg=>by simp at g,h6⟩
 ·split
  ·exact⟨by simp,h1,λg=>by simp at g,h2,h3,h4,λg=>by simp at g,.inl hl,λg=>by simp at g,by simp,λg=>rfl,λg=>by simp at g,h6⟩
  ·rename_i g1 g2;exact⟨by simp,h1,λg=>by simp at g,⟨by dsimp only;omega,by dsimp only;omega⟩,by simp,.inl rfl,λ_=>rfl,.inl rfl,λg=>by simp at g,by simp,λ_=>rfl,λg=>by simp at g,⟨by show(0:Nat)<=32;omega,h6.2⟩⟩
theorem D5(h:JQ C d){st:Int}(hs:1<=st/\st<=3):JQ C (jV C d st):=by
 unfold jV;dsimp only;split
 ·rename_i e;exact BF h.at_ h.aS hs h.tc h.rs h.vl e
 ·rename_i e;have e':=h.tc.resolve_left e;exact⟨by simp,h.at_,λg=>by simp at g,h.aS,hs,h.tc,λg=>by simp at g,.inr ⟨e',e'⟩,λ_=>e',h.rs,λg=>by simp at g,λg=>by simp at g,h.vl⟩
theorem BG(h:JQ C d){n:Int}(hn:0<=n/\n<=1)(h0:n=0->d.res=[]/\d.left=[]):JQ C (gF C d n):=by
 unfold gF;split
 ·rename_i g;exact⟨by simp,hn,λg=>by simp at g,h.aS,h.o,h.tc,λg=>by simp at g,h.lf,λg=>by simp at g,h.rs,λg=>by simp at g,λg=>by simp at g,h.vl⟩
 ·rename_i g;obtain⟨e1,e2⟩:=h0 (by omega);refine⟨by simp,hn,λ_=>by dsimp only;omega,h.aS,h.o,?_,λg=>by simp at g,.inl e2,λg=>by simp at g,h.rs,λ_=>e1,λg=>by simp at g,h.vl⟩;dsimp only;rcases h.tc with e|e<;>rw[e]<;>simp
theorem Mk(h:JQ C d):JQ C (fk C tx d c r):=by
 unfold fk;split
 ·exact h
 split
 ·have hp:=h.ph;split
  ·rename_i hph;have h0:=h.zm (by omega);unfold fG;split
   ·exact⟨by simp,h.at_,λg=>by simp at g,h.aS,h.o,h.tc,λg=>by simp at g,h.lf,λg=>by simp at g,h.rs,λg=>by simp at g,λg=>by simp at g,h.vl⟩
   split
   ·rename_i g0 g1;exact⟨by simp,h.at_,λ_=>h0,h.aS,h.o,h.tc,λg=>by simp at g,h.lf,λg=>by simp at g,h.rs,λ_=>h.r3 (by omega),λg=>by simp at g,h.vl⟩
   split
   ·exact h
   split
   ·rename_i g0 g1 g2 g3;exact⟨by simp,h.at_,λ_=>h0,h.aS,h.o,h.tc,λg=>by simp at g,h.lf,λg=>by simp at g,h.rs,λ_=>h.r3 (by omega),λg=>by simp at g,h.vl⟩
   split
   ·rename_i g0 g1 g2 g3 g4;unfold GJ;have hr:=h.r3 (by omega);refine⟨by simp,h.at_,λ_=>h0,h.aS,h.o,h.tc,λg=>by simp at g,h.lf,λg=>by simp at g,by simp[hr],λg=>by simp at g,λ_=>by simp[jw,Cf.op,fB],?_⟩
    constructor
    ·simp only[il,Cf.op,if_true,vOf_some];exact BD _ _
    ·simp only[jw,Cf.op,if_true];exact BD _ _
   ·rename_i g0 g1 g2 g3 g4;exact BG h (by omega) (λe=>by omega)
  ·split
   ·rename_i h7;have h7':=h.l7 h7;split
    ·dsimp only;rw[h7'];simp only[List.tail_cons,if_true];exact BF h.at_ h.aS h.o h.tc h.rs h.vl rfl
    ·exact h
   ·rename_i hn h7;unfold mF;split
    ·exact D5 h (by omega)
    split
    ·rename_i g0 g1;refine BG h (by omega) (λ_=>⟨h.r3 (by omega),?_⟩);rcases h.lf with e|⟨_,e⟩
     ·exact e
     ·rw[h.t0 g1.1]at e;simp at e
    split
    ·exact D5 h (by omega)
    split
    ·rename_i g3;exact⟨by simp,h.at_,λ_=>h.zm (by omega),h.aS,h.o,h.tc,λg=>by simp at g,h.lf,λg=>by simp at g,h.rs,λ_=>h.r3 (by omega),λg=>by simp at g,h.vl⟩
    split
    ·rename_i g4;exact D5 h (by omega)
    ·exact h
 ·exact h
theorem US{i k:Nat}(h:JQ C d)(hW:Mj C)(hi:i<16)(hn:df C i d=G (k,c)):
 eN c/\k<C.ns/\(c.kind=2\/c.kind=3\/c.kind=4->c.key=C.key)/\(c.kind=4->c.yes=true)/\c.tx=i/\c.kind≠9:=by
 have ha:=h.aS;have hT:=hW.tries;have hC:=hW.key.2;have hh:=hW.h;have sP:=hW.ns;have hm:bZ C i<C.ns:=Nat.mod_lt _ (by omega);have ho:=h.at_;unfold df at hn;split at hn
 ·injection hn with hn;injection hn with e1 e2;subst e1 e2;exact⟨⟨by simp[bk],⟨by simp[bk],by simp[bk];omega⟩,⟨by simp[bk];omega,by simp[bk];omega⟩,λ_=>⟨by simp;omega,by simp;omega⟩,by simp[bk],by simp[bk,emp,ByteArray.size],λg=>by simp[bk]at g,by simp[bk,emp,ByteArray.size]⟩,hm,λg=>by simp[bk]at g,λg=>by simp[bk]at g,rfl,by simp[bk]⟩
 split at hn
 ·injection hn with hn;injection hn with e1 e2;subst e1 e2;exact⟨⟨by simp[bk],⟨by simp[bk],by simp[bk];omega⟩,⟨by simp[bk];omega,by simp[bk];omega⟩,λg=>by simp[bk]at g,⟨by simp;omega,by simp;omega⟩,hC,λ_=>rfl,by simp[bk,emp,ByteArray.size]⟩,hh,λ_=>rfl,λg=>by simp[bk]at g,rfl,by simp[bk]⟩
 split at hn
 ·injection hn with hn;injection hn with e1 e2;subst e1 e2;exact⟨⟨by simp[bk],⟨by simp[bk],by simp[bk];omega⟩,⟨by simp[bk];omega,by simp[bk];omega⟩,λg=>by simp[bk]at g,by simp[bk],by simp[bk,emp,ByteArray.size],λg=>by simp[bk]at g,by simp[bk,emp,ByteArray.size]⟩,hm,λg=>by simp[bk]at g,λg=>by simp[bk]at g,rfl,by simp[bk]⟩
 split at hn
 ·injection hn with hn;injection hn with e1 e2;subst e1 e2;exact⟨⟨by simp[bk],⟨by simp[bk],by simp[bk];omega⟩,⟨by simp[bk];omega,by simp[bk];omega⟩,λg=>by simp[bk]at g,⟨by simp;omega,by simp;omega⟩,hC,λg=>by simp[bk]at g,by simp[bk,emp,ByteArray.size]⟩,hh,λ_=>rfl,λg=>by simp[bk]at g,rfl,by simp[bk]⟩
 split at hn
 ·rename_i h4;injection hn with hn;injection hn with e1 e2;subst e1 e2;exact⟨⟨by simp[bk],⟨by simp[bk],by simp[bk];omega⟩,⟨by simp[bk];omega,by simp[bk];omega⟩,λg=>by simp[bk]at g,⟨by simp;omega,by simp;omega⟩,hC,λg=>by simp[bk]at g,h.vl.2⟩,hh,λ_=>rfl,λ_=>h.wr h4,rfl,by simp[bk]⟩
 split at hn
 ·injection hn with hn;injection hn with e1 e2;subst e1 e2;exact⟨⟨by simp[bk],⟨by simp[bk],by simp[bk];omega⟩,⟨by simp[bk];omega,by simp[bk];omega⟩,λg=>by simp[bk]at g,by simp[bk],by simp[bk,emp,ByteArray.size],λg=>by simp[bk]at g,by simp[bk,emp,ByteArray.size]⟩,hm,λg=>by simp[bk]at g,λg=>by simp[bk]at g,rfl,by simp[bk]⟩
 split at hn
 ·injection hn with hn;injection hn with e1 e2;subst e1 e2;exact⟨⟨by simp[bk],⟨by simp[bk],by simp[bk];omega⟩,⟨by simp[bk];omega,by simp[bk];omega⟩,λg=>by simp[bk]at g,by simp[bk],by simp[bk,emp,ByteArray.size],λg=>by simp[bk]at g,by simp[bk,emp,ByteArray.size]⟩,hm,λg=>by simp[bk]at g,λg=>by simp[bk]at g,rfl,by simp[bk]⟩
 split at hn
 ·rename_i h7;rw[h.l7 h7]at hn;dsimp only at hn;injection hn with hn;injection hn with e1 e2;subst e1 e2;exact⟨⟨by simp[bk],⟨by simp[bk],by simp[bk];omega⟩,⟨by simp[bk];omega,by simp[bk];omega⟩,λg=>by simp[bk]at g,⟨by simp,by simp;omega⟩,by simp[bk,emp,ByteArray.size],λg=>by simp[bk]at g,by simp[bk,emp,ByteArray.size]⟩,by simpa using hh,λg=>by simp[bk]at g,λg=>by simp[bk]at g,rfl,by simp[bk]⟩
 ·cases hn
end
structure QJ(s:dm):Prop where
 wr: ∀t x v,s.br t=G x->x.wr=G v->v.size<=32
 cu:(eP s.cur).size<=32
theorem QK:QJ iS:=⟨λt x v h=>(by cases h),by show(0:Nat)<=32;omega⟩
section
variable{s:dm}{c:bQ}
theorem zv(h:QJ s){t:Int}{x:cG}(hx: ∀v,x.wr=G v->v.size<=32){o:List Int}:QJ {s with br:=cQ s.br t (G x),own:=o}:=by
 refine⟨λu y v hu hv=>?_,h.cu⟩;dsimp only at hu;by_cases e:u=t
 ·subst e;rw[bD]at hu;injection hu with hu;subst hu;exact hx v hv
 ·rw[bP _ _ e]at hu;exact h.wr u y v hu hv
theorem UT(h:QJ s)(hc:c.val.size<=32):QJ (fS s c).1/\rM (fS s c).2:=by
 have z: ∀n:Int,rM (cF n):=λn=>⟨by show(0:Nat)<=32;omega,λ_=>rfl⟩;unfold fS;split
 ·split
  ·exact⟨⟨h.wr,h.cu⟩,z 0⟩
  split
  ·unfold en;split
   ·exact⟨h,z 0⟩
   split
   ·exact⟨⟨h.wr,h.cu⟩,z 0⟩
   ·rename_i x hx;split
    ·exact⟨h,z 8⟩
    split
    ·exact⟨⟨h.wr,h.cu⟩,z 0⟩
    ·refine⟨⟨λu y v hu hv=>?_,?_⟩,z 0⟩
     ·have hu:cQ s.br c.tx U u=G y:=hu;by_cases e:u=c.tx
      ·subst e;rw[bD]at hu;cases hu
      ·rw[bP _ _ e]at hu;exact h.wr u y v hu hv
     ·show(eP (if c.yes then(match x.wr with|some v=>G v|none=>s.cur)else s.cur)).size<=32;split
      ·cases hw:x.wr with
       |none=>exact h.cu
       |some v=>exact h.wr _ x v hx hw
      ·exact h.cu
  split
  ·exact⟨⟨h.wr,h.cu⟩,⟨by show(0:Nat)<=32;omega,λ_=>rfl⟩⟩
  split
  ·exact⟨h,z _⟩
  split
  ·refine⟨zv h (λv hv=>?_),z _⟩;cases hl:s.br c.tx with
   |none=>rw[hl]at hv;cases hv
   |some x=>rw[hl]at hv;exact h.wr _ x v hl hv
  split
  ·unfold mg;split
   ·exact⟨h,z _⟩
   ·rename_i x hx;split
    ·refine⟨zv (x:=⟨x.aS,c,x.wr⟩) h (λv hv=>h.wr _ x v hx hv),?_⟩;cases hw:x.wr with
     |none=>exact⟨h.cu,λe=>by cases hc:s.cur with|none=>rfl|some v=>dsimp only at e;rw[hc]at e;cases e⟩
     |some v=>exact⟨h.wr _ x v hx hw,λe=>by cases e⟩
    ·exact⟨h,z _⟩
  ·unfold gY;split
   ·exact⟨h,z _⟩
   ·split
    ·exact⟨zv h (λv hv=>by injection hv with hv;subst hv;exact hc),z _⟩
    ·exact⟨h,z _⟩
 ·exact⟨h,z _⟩
end
noncomputable def gC (C:Cf) (s:dM) (i:Nat):dM:=
 match s.dr[i]? with
 |none=>s
 |some d=>
  match df C i d with
  |none=>s
  |some (k,c)=>{(bO s k c).1 with dr:=s.dr.set i (fk C i d c (bO s k c).2)}
section
variable{C:Cf}{s:dM}{i k:Nat}{d:eF}{c:bQ}
theorem iy(hd:s.dr[i]?=G d)(hn:df C i d=G (k,c)):gC C s i={(bO s k c).1 with dr:=s.dr.set i (fk C i d c (bO s k c).2)}:=by
 unfold gC;rw[hd];dsimp only;rw[hn]
theorem xT(hd:s.dr[i]?=G d)(hn:df C i d=U):gC C s i=s:=by
 unfold gC;rw[hd];dsimp only;rw[hn]
theorem jT(hn:df C i d=G (k,c))(r:dh):fk C i d c r=if d.ph=1\/d.ph=3\/d.ph=4 then fG C d r else
 if d.ph=7 then(if r.code=0 then(let d':={d with left:=d.left.tail};if d'.left=[]then iF C d' else d')else d)else mF C d r:=by
 unfold fk;rw[hn];dsimp only;rw[if_pos rfl]
end
def iM:ByteArray:=⟨#[97]⟩
def jU:Cf:=⟨iM,2,2,2,0⟩
theorem Ga:Mj jU:=⟨by decide,by decide,by decide,by decide,by decide⟩
def st0:dM:={dV with dr:=[bW]}
def rR(state:Int):Rows:=cQ (λ_=>U) 0 (G ⟨0,0,1,state,0⟩)
def JR(c:bQ)(x:kB):Int->Option cG:=cQ (λ_=>U) 0 (G ⟨0,c,x⟩)
def cA(kind op:Int)(key:ByteArray)(val:ByteArray)(mode:Int)(yes:Bool):bQ:=⟨kind,0,0,0,op,key,val,mode,yes⟩
def tz(m:Int)(cur:kB)(own:List Int)(rows:Rows)(br:Int->Option cG)(cr:Int->Option Int):dm:=⟨0,m,cur,own,rows,br,cr⟩
def two:ByteArray:=qO 2
def n0{α:Type}:Int->Option α:=λ_=>U
def fX:Nat->dM
 |0=>st0
 |1=>⟨dP dV.sh 0 (tz 0 U [] (rR 1) n0 n0),[⟨0,1,0,U,U,[],[0],[],1⟩],[],[],[]⟩
 |2=>⟨dP dV.sh 0 (tz 0 U [0] (rR 1) (JR (cA 2 0 iM emp 2 false) U) n0),[⟨0,3,0,U,U,[],[0],[],1⟩],[],[],[]⟩
 |3=>⟨dP dV.sh 0 (tz 0 U [0] (rR 1) (JR (cA 3 1 iM emp 0 false) U) n0),[⟨0,4,0,G two,G two,[G two],[0],[],1⟩],[],[],[]⟩
 |4=>⟨dP dV.sh 0 (tz 0 U [0] (rR 1) (JR (cA 4 2 iM two 0 true) (G two)) n0),[⟨0,5,1,G two,G two,[G two],[0],[],1⟩],[],[],[]⟩
 |5=>⟨dP dV.sh 0 (tz 0 U [0] (rR 2) (JR (cA 4 2 iM two 0 true) (G two)) n0),[⟨0,7,1,G two,G two,[G two],[0],[0],2⟩],[],[],[0]⟩
 |_=>⟨dP dV.sh 0 (tz 1 (G two) [] (rR 2) n0 (cQ n0 0 (G 0))),[⟨0,8,1,G two,G two,[G two],[0],[],2⟩],[],[],[0]⟩
theorem lB(f:Nat->dm)(k:Nat)(a b:dm):dP (dP f k a) k b=dP f k b:=by
 funext x
 unfold dP;split<;>rfl
theorem tU{α:Type}(f:Int->Option α)(k:Int)(a b:Option α):cQ (cQ f k a) k b=cQ f k b:=by
 funext x
 unfold cQ;split<;>rfl
theorem MU{α:Type}(k:Int):cQ (n0 (α:=α)) k U=n0:=by
 funext x
 unfold cQ n0;split<;>rfl
theorem Gb:qO (sumOf jU.op U)=two:=by
 unfold sumOf two;rw[J0,F4];rfl
theorem Rg:gC jU (fX 0) 0=fX 1:=by
 have hn:df jU (0:Nat) bW=G (0,{bk 1 0 0 with aY:=1}):=rfl;rw[iy (s:=fX 0) (d:=bW) rfl hn,jT hn];have hd:bO (fX 0) 0 {bk 1 0 0 with aY:=1}=({fX 0 with sh:=dP dV.sh 0 (tz 0 U [] (rR 1) n0 n0)},gX 1 0):=rfl;rw[hd];rfl
theorem Rh:gC jU (fX 1) 0=fX 2:=by
 have hn:df jU (0:Nat) ⟨0,1,0,U,U,[],[0],[],1⟩=G (0,cA 2 0 iM emp 2 false):=rfl;rw[iy (s:=fX 1) (d:=⟨0,1,0,U,U,[],[0],[],1⟩) rfl hn,jT hn];have hd:bO (fX 1) 0 (cA 2 0 iM emp 2 false)=({fX 1 with sh:=dP (fX 1).sh 0 (tz 0 U [0] (rR 1) (JR (cA 2 0 iM emp 2 false) U) n0)},cL):=rfl;rw[hd];simp only[fX,lB];rfl
theorem Ri:gC jU (fX 2) 0=fX 3:=by
 have hn:df jU (0:Nat) ⟨0,3,0,U,U,[],[0],[],1⟩=G (0,cA 3 1 iM emp 0 false):=rfl;rw[iy (s:=fX 2) (d:=⟨0,3,0,U,U,[],[0],[],1⟩) rfl hn,jT hn];have hd:bO (fX 2) 0 (cA 3 1 iM emp 0 false)=({fX 2 with sh:=dP (fX 2).sh 0 (tz 0 U [0] (rR 1) (cQ (JR (cA 2 0 iM emp 2 false) U) 0 (G ⟨0,cA 3 1 iM emp 0 false,U⟩)) n0)},⟨0,0,emp,false⟩):=rfl;rw[hd];simp only[fX,lB];rw[if_pos (by decide)];unfold fG;rw[if_neg (by decide),if_neg (by decide),if_neg (by decide),if_neg (by decide),if_pos rfl];unfold GJ;have e1:jw jU.op (if(false:Bool)=true then G emp else U) U=G two:=by simp[jw,Cf.op, <-Gb,jU]
 have e2:il jU.op (if(false:Bool)=true then G emp else U) U=G two:=by simp[il,Cf.op, <-Gb,jU]
 dsimp only;rw[e1,e2];unfold JR;rw[tU];rfl
theorem Rj:gC jU (fX 3) 0=fX 4:=by
 have hn:df jU (0:Nat) ⟨0,4,0,G two,G two,[G two],[0],[],1⟩=G (0,cA 4 2 iM two 0 true):=rfl;rw[iy (s:=fX 3) (d:=⟨0,4,0,G two,G two,[G two],[0],[],1⟩) rfl hn,jT hn];have hr:cR (cA 4 2 iM two 0 true)=true:=by
  have:(two.size)<=32:=qi (by decide) (by decide);unfold cR cA;dsimp only;rw[decide_eq_false (show¬32<two.size by omega)];decide
 have hd:bO (fX 3) 0 (cA 4 2 iM two 0 true)=({fX 3 with sh:=dP (fX 3).sh 0 (tz 0 U [0] (rR 1) (cQ (JR (cA 3 1 iM emp 0 false) U) 0 (G ⟨0,cA 4 2 iM two 0 true,G two⟩)) n0)},cL):=by
  unfold bO fS;rw[hr];rfl
 rw[hd];simp only[fX,lB];unfold JR;rw[tU];rfl
theorem Rk:gC jU (fX 4) 0=fX 5:=by
 have hn:df jU (0:Nat) ⟨0,5,1,G two,G two,[G two],[0],[],1⟩=G (0,bk 5 0 0):=rfl;rw[iy (s:=fX 4) (d:=⟨0,5,1,G two,G two,[G two],[0],[],1⟩) rfl hn,jT hn];have hd:bO (fX 4) 0 (bk 5 0 0)=({fX 4 with sh:=dP (fX 4).sh 0 (tz 0 U [0] (cQ (rR 1) 0 (G ⟨0,0,1,2,0⟩)) (JR (cA 4 2 iM two 0 true) (G two)) n0),order:=[0]},gX 2 0):=rfl;rw[hd];simp only[fX,lB];unfold rR;rw[tU];rfl
theorem Rl:gC jU (fX 5) 0=fX 6:=by
 have hn:df jU (0:Nat) ⟨0,7,1,G two,G two,[G two],[0],[0],2⟩=G (0,fy 0 0 true):=rfl;rw[iy (s:=fX 5) (d:=⟨0,7,1,G two,G two,[G two],[0],[0],2⟩) rfl hn,jT hn];have hd:bO (fX 5) 0 (fy 0 0 true)=({fX 5 with sh:=dP (fX 5).sh 0 (tz 1 (G two) [] (rR 2) (cQ (JR (cA 4 2 iM two 0 true) (G two)) 0 U) (cQ n0 0 (G 0)))},cL):=rfl;rw[hd];simp only[fX,lB];unfold JR;rw[tU,show(λ_:Int=>(U:Option cG))=n0 from rfl,MU];rfl
theorem Rm(n:Nat):gC jU (fX (n+6)) 0=fX (n+6):=
 xT (s:=fX (n+6)) (d:=⟨0,8,1,G two,G two,[G two],[0],[],2⟩) rfl rfl
theorem vm(n:Nat):gC jU (fX n) 0=fX (n+1):=by
 match n with
 |0=>exact Rg
 |1=>exact Rh
 |2=>exact Ri
 |3=>exact Rj
 |4=>exact Rk
 |5=>exact Rl
 |n+6=>exact Rm n
structure U7(C:Cf)(c:bQ):Prop where
 w:eN c
 key:c.kind=2\/c.kind=3\/c.kind=4->c.key=C.key
 yes:c.kind=4->c.yes=true
 nt:c.kind≠9
structure U8(C:Cf)(s:dM):Prop where
 sh: ∀k,QJ (s.sh k)
 dr: ∀(i:Nat) d,s.dr[i]?=G d->JQ C d
 rq: ∀q∈s.req,U7 C q.2.2/\q.2.1<C.ns
 an: ∀a∈s.ans,eN a.2.1/\rM a.2.2
 fx:s.dr.length<=9
def mV(f:Rows):Prop:=∀t r,f t=G r->0<=r.heard
theorem lC{f:Rows}(h:mV f){k:Int}{v:cz}(hv:0<=v.heard):mV (cQ f k (G v)):=by
 intro t r hr;by_cases e:t=k
 ·subst e;rw[bD]at hr;injection hr with hr;subst hr;exact hv
 ·rw[bP _ _ e]at hr;exact h t r hr
theorem rS{f:Rows}(h:mV f){r:cz}(hv:0<=r.heard):mV (putRow f r).1:=by
 unfold putRow;split
 ·exact lC h hv
 ·split
  ·exact lC h hv
  ·exact h
theorem MV{x:dm}(h:mV x.rows)(hc:0<=x.clock)(c:bQ):mV (fS x c).1.rows:=by
 rcases zr x c with⟨e,_⟩|⟨e,_⟩
 ·rw[e];exact h
 ·rw[e];unfold dO;dsimp only;split
  ·unfold eD
   repeat' split
   all_goals first|exact rS h hc|exact h
  split
  ·unfold cg;split
   ·exact h
   ·rename_i r hr
    repeat' split
    all_goals first|exact lC h (h _ r hr)|exact h
  split
  ·unfold dI;split
   ·exact rS h hc
   ·rename_i r hr
    repeat' split
    all_goals first|exact rS h hc|exact lC h (h _ r hr)|exact h
  ·unfold eE;split
   ·exact h
   ·rename_i r hr
    repeat' split
    all_goals first|exact lC h (by have:=h _ r hr;dsimp only;omega)|exact h
structure cO(C:Cf)(s:dM)(B:Int):Prop where
 i:iA C s
 h:D3 s B
 w:U8 C s
 g: ∀k,mV (s.sh k).rows
section
variable{C:Cf}{s:dM}{B:Int}{c:bQ}{k i:Nat}{d:eF}{r:dh}
theorem MW(h:U8 C s)(hc:c.val.size<=32)(k:Nat):U8 C (bO s k c).1/\rM (bO s k c).2:=by
 obtain⟨h1,h2⟩:=UT (h.sh k) hc;refine⟨⟨λj=>?_,h.dr,h.rq,h.an,h.fx⟩,h2⟩;show QJ (dP s.sh k (fS (s.sh k) c).1 j);unfold dP;split
 ·exact h1
 ·exact h.sh j
theorem mW(h:cO C s B)(hO:iK C s k c)(hc:c.val.size<=32)(hx:c.kind=2\/c.kind=5->0<=c.tx/\c.tx<s.dr.length)(hB:B<1099511627776):
 cO C (bO s k c).1 (if c.kind=9 then B+1 else B)/\Le C s (bO s k c).1/\gy C (bO s k c).1 c (bO s k c).2/\rM (bO s k c).2:=by
 obtain⟨h1,h2,h3⟩:=qg h.i hO hx;obtain⟨h4,h5⟩:=MW h.w hc k;refine⟨⟨h1,UO h.h k c hB,h4,λj=>?_⟩,h2,h3,h5⟩;show mV (dP s.sh k (fS (s.sh k) c).1 j).rows;unfold dP;split
 ·exact MV (h.g k) (h.h.QC k).1 c
 ·exact h.g j
theorem vp(h:cO C s B){B':Int}(hB:B<=B'):cO C s B':=⟨h.i,⟨λk=>⟨(h.h.QC k).1,by have:=(h.h.QC k).2;omega⟩,h.h.SV⟩,h.w,h.g⟩
theorem rT{s':dM}(h:D3 s B)(e:s'.sh=s.sh):D3 s' B:=⟨λk=>by rw[e];exact h.QC k,λk t r hr=>by rw[e]at hr⊢;exact h.SV k t r hr⟩
theorem tV(h:cO C s B){dr:List eF}{req:List (Nat×Nat×bQ)}{ans:List (Nat×bQ×dh)}(hl:s.dr.length<=dr.length)(hf:dr.length<=9)(h1: ∀(i:Nat) d,dr[i]?=G d->rK C s i d/\JQ C d)
 (h2: ∀q∈req,(q.1<dr.length/\q.2.2.tx=q.1/\iK C s q.2.1 q.2.2)/\U7 C q.2.2/\q.2.1<C.ns) (h3: ∀a∈ans,(a.1<dr.length/\gy C s a.2.1 a.2.2)/\eN a.2.1/\rM a.2.2):cO C {s with dr:=dr,req:=req,ans:=ans} B:=
 ⟨uW h.i hl (λi d hd=>(h1 i d hd).1) (λq hq=>(h2 q hq).1) (λa ha=>(h3 a ha).1),rT h.h rfl,⟨h.w.sh,λi d hd=>(h1 i d hd).2,λq hq=>(h2 q hq).2,λa ha=>(h3 a ha).2,hf⟩,h.g⟩
theorem BO(h:cO C s B)(hd:s.dr[i]?=G d)(hr:gy C s c r):cO C {s with dr:=s.dr.set i (fk C i d c r)} B:=by
 refine⟨Io h.i hd hr,rT h.h rfl,⟨h.w.sh,λj d' hj=>?_,h.w.rq,h.w.an,by simpa using h.w.fx⟩,h.g⟩;by_cases e:i=j
 ·subst e;have hj:(s.dr.set i (fk C i d c r))[i]?=G d':=hj;rw[List.getElem?_set_self (bf hd)]at hj;injection hj with hj;subst hj;exact Mk (h.w.dr i d hd)
 ·have hj:(s.dr.set i (fk C i d c r))[j]?=G d':=hj;rw[List.getElem?_set_ne e]at hj;exact h.w.dr j d' hj
theorem vq(h:cO C s B)(hC:Mj C)(hd:s.dr[i]?=G d)(hn:df C i d=G (k,c)):iK C s k c/\U7 C c/\k<C.ns/\c.tx=i/\c.kind≠9/\i<s.dr.length:=by
 have hi:=bf hd;have hf:=h.w.fx;obtain⟨g1,g2,g3,g4,g5,g6⟩:=US (h.w.dr i d hd) hC (by omega) hn;exact⟨(F0 (h.i.dr i d hd) hn).1,⟨g1,g3,g4,g6⟩,g2,g5,g6,hi⟩
theorem qv(h:cO C s B)(hC:Mj C)(hB:B<1099511627776)(i:Nat):cO C (gC C s i) B:=by
 unfold gC;split
 ·exact h
 ·rename_i d hd;split
  ·exact h
  ·rename_i k c hn;obtain⟨g1,g2,g3,g4,g5,g6⟩:=vq h hC hd hn;obtain⟨k1,k2,k3,k4⟩:=mW h g1 g2.w.va (λ_=>by omega) hB;rw[if_neg g5]at k1;exact BO (s:=(bO s k c).1) k1 hd k3
theorem vr(hC:Mj C)(h:cO C s B)(hl:s.dr.length<9):cO C {s with dr:=s.dr++[bW]} B:=by
 refine⟨BA h.i,rT h.h rfl,⟨h.w.sh,λi d hd=>?_,h.w.rq,h.w.an,by simp;omega⟩,h.g⟩;have hd:(s.dr++[bW])[i]?=G d:=hd;by_cases e:i<s.dr.length
 ·rw[List.getElem?_append_left e]at hd;exact h.w.dr i d hd
 ·rw[List.getElem?_append_right (by omega)]at hd;have h0:=bf hd;simp at h0;rw[show i-s.dr.length=0 by omega]at hd;simp at hd;subst hd;exact F5 hC.tries.1
theorem Gc(C:Cf):cO C dV 0:=⟨Mh C,Mi,⟨λk=>QK,λi d hd=>by simp[dV]at hd,λq hq=>by simp[dV]at hq,λa ha=>by simp[dV]at ha,by simp[dV]⟩,λk t r h=>by cases h⟩
theorem tW{α:Type}{l:List α}{p:Nat}{x:α}(h:x∈l.eraseIdx p):x∈l:=List.mem_of_mem_eraseIdx h
theorem Rn(h:cO C s B)(hC:Mj C)(hd:s.dr[i]?=G d)(hn:df C i d=G (k,c)):cO C {s with req:=s.req++[(i,k,c)]} B:=by
 obtain⟨g1,g2,g3,g4,g5,g6⟩:=vq h hC hd hn;have:=tV (dr:=s.dr) (req:=s.req++[(i,k,c)]) (ans:=s.ans) h (aN _) h.w.fx (λj e he=>⟨h.i.dr j e he,h.w.dr j e he⟩) (λq hq=>?_) (λa ha=>⟨h.i.an a ha,h.w.an a ha⟩)
 ·exact this
 ·rcases List.mem_append.1 hq with e|e
  ·exact⟨h.i.rq q e,h.w.rq q e⟩
  ·simp at e;subst e;exact⟨⟨g6,g4,g1⟩,g2,g3⟩
theorem Gd(h:cO C s B){req:List (Nat×Nat×bQ)}(hr: ∀q∈req,q∈s.req):cO C {s with req:=req} B:=
 tV (dr:=s.dr) (req:=req) (ans:=s.ans) h (aN _) h.w.fx (λj e he=>⟨h.i.dr j e he,h.w.dr j e he⟩) (λq hq=>⟨h.i.rq q (hr q hq),h.w.rq q (hr q hq)⟩) (λa ha=>⟨h.i.an a ha,h.w.an a ha⟩)
theorem Ge(h:cO C s B){ans:List (Nat×bQ×dh)}(hr: ∀a∈ans,a∈s.ans):cO C {s with ans:=ans} B:=
 tV (dr:=s.dr) (req:=s.req) (ans:=ans) h (aN _) h.w.fx (λj e he=>⟨h.i.dr j e he,h.w.dr j e he⟩) (λq hq=>⟨h.i.rq q hq,h.w.rq q hq⟩) (λa ha=>⟨h.i.an a (hr a ha),h.w.an a (hr a ha)⟩)
theorem vu(h:cO C s B)(hB:B<1099511627776){p:Nat}{q:Nat×Nat×bQ}(hq:s.req[p]?=G q)(y:Bool):
 cO C {(bO {s with req:=s.req.eraseIdx p} q.2.1 q.2.2).1 with ans:=if y then s.ans++[(q.1,q.2.2,(bO {s with req:=s.req.eraseIdx p} q.2.1 q.2.2).2)]else s.ans} B:=by
 have hm:q∈s.req:=List.mem_of_getElem? hq;obtain⟨a1,a2,a3⟩:=h.i.rq q hm;obtain⟨a4,a5⟩:=h.w.rq q hm;have h0:cO C {s with req:=s.req.eraseIdx p} B:=Gd h (λ_=>tW);have a3':iK C {s with req:=s.req.eraseIdx p} q.2.1 q.2.2:=a3.le (tS rfl);obtain⟨k1,k2,k3,k4⟩:=mW h0 a3' a4.w.va (λ_=>by show _/\q.2.2.tx<((s.dr.length:Nat):Int);omega) hB;have k1:cO C (bO {s with req:=s.req.eraseIdx p} q.2.1 q.2.2).1 B:=by
  rwa[if_neg a4.nt]at k1
 cases y with
 |false=>exact k1
 |true=>
  have:=tV (s:=(bO {s with req:=s.req.eraseIdx p} q.2.1 q.2.2).1) (dr:=s.dr) (req:=s.req.eraseIdx p) (ans:=s.ans++[(q.1,q.2.2,(bO {s with req:=s.req.eraseIdx p} q.2.1 q.2.2).2)]) k1 (aN _) h.w.fx (λj e he=>⟨k1.i.dr j e he,k1.w.dr j e he⟩) (λq hq=>⟨k1.i.rq q hq,k1.w.rq q hq⟩) (λa ha=>?_)
  ·exact this
  ·rcases List.mem_append.1 ha with e|e
   ·exact⟨k1.i.an a e,k1.w.an a e⟩
   ·simp at e;subst e;exact⟨⟨a1,k3⟩,a4.w,k4⟩
theorem IJ(h:cO C s B){p:Nat}{a:Nat×bQ×dh}(ha:s.ans[p]?=G a)(hd:s.dr[a.1]?=G d):cO C {s with ans:=s.ans.eraseIdx p,dr:=s.dr.set a.1 (fk C a.1 d a.2.1 a.2.2)} B:=by
 have hm:a∈s.ans:=List.mem_of_getElem? ha;have h0:cO C {s with ans:=s.ans.eraseIdx p} B:=Ge h (λ_=>tW);exact BO (s:={s with ans:=s.ans.eraseIdx p}) h0 hd ((h.i.an a hm).2.le (tS rfl))
theorem vw(h:cO C s B)(hB:B<1099511627776)(t a:Int):cO C (bO s (bZ C t) (bk 6 t a)).1 B:=by
 have:=(mW h (Bx C s t a) (c:=bk 6 t a) (by show(0:Nat)<=32;omega) (λe=>by simp[bk]at e) hB).1;rwa[if_neg (by simp[bk])]at this
theorem BP(h:cO C s B)(hB:B<1099511627776)(k:Nat):cO C (jc s k) (B+1):=by
 have:=(mW h (BC C s k) (by show(0:Nat)<=32;omega) (λe=>by simp[jI,bk]at e) hB).1;rwa[if_pos (by rfl)]at this
theorem BQ(h:cO C s B)(hB:B<1099511627776)(wait:Int)(x:Int×Int):cO C (cW C C.h wait s x) B:=by
 obtain⟨g1,g2,g3,g4⟩:=zu h.i x.1 x.2 wait;have hf:cO C (dE C s x.1 x.2 wait).1 B:=by
  unfold dE
  repeat' split
  all_goals first|exact h|exact vw h hB _ _
 unfold cW;dsimp only;split
 ·rename_i eQ;have:=(mW hf (F3 (λe=>g3 (of_decide_eq_true e)) (λe=>g4 eQ (of_decide_eq_false e))) (by show(0:Nat)<=32;omega) (λe=>by simp[fy]at e) hB).1;rwa[if_neg (by simp[fy])]at this
 ·exact hf
theorem xU(hB:B<1099511627776)(wait:Int): ∀(ls:List (Int×Int)) (s:dM),cO C s B->cO C (ls.foldl (cW C C.h wait) s) B
 |[],s,h=>h
 |x::r,s,h=>xU hB wait r _ (BQ h hB wait x)
end
