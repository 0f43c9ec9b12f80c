import Derived.Laws.StructEq
import Derived.Test.YtmaimjajdbgmiaaGreatDoorAd
set_option linter.unusedVariables false
set_option linter.unusedSimpArgs false
set_option maxRecDepth 100000
set_option maxHeartbeats 0
open Go.Value renaming int→I,string→V,pointer→X,bool→Y,slice→T,tuple→aB,agg→aC
open Go.IntKind renaming i64→J
open Option renaming none→U,some→G
open Go.Ending renaming returned→ay
open Go.Obj renaming cells→az
open List renaming getElem_cons_succ→aI,getElem_cons_zero→aH,getElem_toArray→aG,setIfInBounds_toArray→aF,set_cons_succ→aK,set_cons_zero→aJ
open Nat renaming le_refl→aN,le_trans→aO
open Go renaming World→aw,Calls→ax,bodyPost_ret→aE
open Go.Proofs.Tryz
open Go.Proofs.Tryz renaming prog→av
namespace Go.Proofs.YtmaimjajdbgmiaaGreatDoor
open Go.Lib Go.Maps Go.RowKit
def JI(P:Nat->Nat->Prop):Nat->Prop:=λg=>∃i,P i g
def th(P:Nat->Nat->Prop)(i:Nat)(F:Nat->Prop):Nat->Nat->Prop:=λj=>if j=i then F else P j
structure eG(w:aw)(P:Nat->Nat->Prop):Prop where
 dj: ∀i j,i≠j->Dj (P i) (P j)
 fC: ∀i,oo (P i) w
section
variable{w w':aw}{P:Nat->Nat->Prop}{F:Nat->Prop}{i j:Nat}
theorem gG(P:Nat->Nat->Prop)(i:Nat)(F:Nat->Prop):th P i F i=F:=if_pos rfl
theorem cM(P:Nat->Nat->Prop)(F:Nat->Prop)(h:j≠i):th P i F j=P j:=if_neg h
theorem eG.aR(h:eG w P)(hC:M w w'):eG w' P:=⟨h.dj,λi=>(h.fC i).mono hC.size⟩
theorem eG.mono(h:eG w P)(hs:w.heap.size<=w'.heap.size):eG w' P:=⟨h.dj,λi=>(h.fC i).mono hs⟩
theorem eG.cv(h:eG w P)(tG:j≠i): ∀g,P j g->¬P i g:=λg hj hi=>h.dj j i tG g hj hi
theorem eG.cQ(h:eG w P)(i:Nat)(hs:Sub (P i) F w w')(hF:oo F w'):eG w' (th P i F):=by
 refine⟨λa b Dy=>?_,λa=>?_⟩
 ·by_cases ha:a=i
  ·subst ha;rw[gG,cM P F (λe=>Dy e.symm)];exact hs.dj (h.dj a b Dy) (h.fC b)
  ·rw[cM P F ha];by_cases hb:b=i
   ·subst hb;rw[gG];exact(hs.dj (h.dj b a (λe=>Dy e.symm)) (h.fC a)).symm
   ·rw[cM P F hb];exact h.dj a b Dy
 ·by_cases ha:a=i
  ·subst ha;rw[gG];exact hF
  ·rw[cM P F ha];exact(h.fC a).mono hs.ch.size
theorem eG.sub(i:Nat)(hs:Sub (P i) F w w'):Sub (JI P) (JI (th P i F)) w w':=
 ⟨hs.ch.mono (λg hg=>⟨i,hg⟩),λg ⟨a,ha⟩=>by
   by_cases e:a=i
   ·subst e;rw[gG]at ha;rcases hs.new g ha with h1|h1
    ·exact .inl ⟨_,h1⟩
    ·exact .inr h1
   ·rw[cM P F e]at ha;exact .inl ⟨a,ha⟩⟩
theorem eG.all(h:eG w P):oo (JI P) w:=λg ⟨i,hi⟩=>h.fC i g hi
end
abbrev RH(v:Value):Option (DataW Value×List MemPlace):=Cells.RH v
theorem uz:Keyed av 3:=int_keyed underlying3
def cT(w:aw)(b n:Nat)(z:Value)(g:Int->Option Value):Prop:=
 ∃D:DataW Value,w.ownsMap av 3 Cells.RH b n D/\(∀t,D.atKey (.int .i64 t) (.held z)= .held ((g t).getD z))/\(∀t,Maps.has D (.int .i64 t)=(g t).isSome)
section
variable{w w':aw}{b n:Nat}{z:Value}{g:Int->Option Value}{au E:TypeId}
theorem cT.lt(h:cT w b n z g):b<w.heap.size:=by
 obtain⟨D,h1,_⟩:=h;exact h1.lt
theorem cT.ch{S:Nat->Prop}(h:cT w b n z g)(hC:Ch S w w')(hb: ¬S b):cT w' b n z g:=by
 obtain⟨D,h1,h2⟩:=h;exact⟨D,Cells.yN h1 hC hb,h2⟩
theorem cT.aR(h:cT w b n z g)(hC:M w w'):cT w' b n z g:=h.ch hC (λh=>h)
theorem cT.mono(h:cT w b n z g){n':Nat}(hn:n<=n'):cT w b n' z g:=by
 obtain⟨D,h1,h2⟩:=h;exact⟨D,h1.mono hn,h2⟩
theorem cT.fO(h:cT w b n z g){k:Nat}{t:TypeId}{cs:Array Value}(hk:aX w k t cs):b≠k:=by
 obtain⟨D,h1,_⟩:=h;exact Cells.tK h1 hk
theorem cT.kF(h:cT w b n z g){base:Nat}{e:TypeId}{size m:Nat}{v:Value}{xs:List Value}(hv:w.ownsRow base e size v m xs):v.ownBlock≠G b:=by
 obtain⟨D,h1,_⟩:=h;exact Cells.yO h1 hv
theorem tM{x:Int}(h0: -9223372036854775808<=x)(h1:x<=9223372036854775807):keyOf av 3 (.int .i64 x)=G (.int .i64 x):=
 keyOf_int_mk underlying3 (by simp[Lit.wf,IntKind.min,IntKind.max,IntKind.bits,IntKind.signed];omega)
theorem uA(w:aw)(z:Value):cT (w.alloc (.map #[] 0)) w.heap.size 0 z (λ_=>U):=⟨.map [],World.ownsMap_made w _ _ _,λt=>rfl,λt=>rfl⟩
theorem cT.look_ok(h:cT w b n z g)(ht:av.underlying au=G (.map 3 E))(hz:(zeroValue E).run av w= .ok z w){x:Int}(h0: -9223372036854775808<=x)(h1:x<=9223372036854775807):
 (Instr.lookup au (.map (G b)) (.int .i64 x) true).run av w= .ok (.tuple #[(g x).getD z,.bool (g x).isSome]) w:=by
 obtain⟨D,ho,hat,AO⟩:=h;obtain⟨v,ps,kA,hv⟩:=ho.look_ok uz ht hz (zd:=.held z) (zp:=[]) rfl (tM h0 h1);rw[hat]at hv;rw[kA,AO];simp only[Cells.RH,Option.some.injEq,Prod.mk.injEq,DataW.held.injEq]at hv;rw[hv.1]
theorem cT.look(h:cT w b n z g)(ht:av.underlying au=G (.map 3 E))(hz:(zeroValue E).run av w= .ok z w){x:Int}(h0: -9223372036854775808<=x)(h1:x<=9223372036854775807):
 (Instr.lookup au (.map (G b)) (.int .i64 x) false).run av w= .ok ((g x).getD z) w:=by
 obtain⟨D,ho,hat,AO⟩:=h;obtain⟨v,ps,kA,hv⟩:=ho.lookup uz ht hz (zd:=.held z) (zp:=[]) rfl (tM h0 h1);rw[hat]at hv;rw[kA];simp only[Cells.RH,Option.some.injEq,Prod.mk.injEq,DataW.held.injEq]at hv;rw[hv.1]
theorem cT.put(h:cT w b n z g)(ht:av.underlying au=G (.map 3 E))(hn:n<1000000000){x:Int}(h0: -9223372036854775808<=x)(h1:x<=9223372036854775807)(v:Value):
 ∃w',(Instr.mapUpdate au (.map (G b)) (.int .i64 x) v).run av w= .ok () w'/\cT w' b (n+1) z (cQ g x (G v))/\w.grownBy w' (G b):=by
 obtain⟨D,ho,hat,AO⟩:=h;obtain⟨w',kA,Oo,hg⟩:=ho.update uz ht (by unfold maxLen;omega) (tM h0 h1) (val:=v) (d:=.held v) (ps:=[]) rfl;refine⟨w',kA,⟨_,Oo,λt=>?_,λt=>?_⟩,hg⟩
 ·by_cases e:t=x
  ·subst e;rw[atKey_put_same ho.isMap (by trivial),bD];rfl
  ·rw[atKey_put_other (by intro e';injection e' with _ e';exact e e'),hat t,bP g _ e]
 ·by_cases e:t=x
  ·subst e;rw[has_put_same ho.isMap (by trivial),bD];rfl
  ·rw[has_put_other (by intro e';injection e' with _ e';exact e e'),AO t,bP g _ e]
theorem Hf{w w':aw}(h:w.mapTurned w' b):Ch (λk=>k=b) w w':=(Ch.bF h.grown).mono (λk hk=>by injection hk with hk;exact hk.symm)
theorem cT.del(h:cT w b n z g)(ht:av.underlying au=G (.map 3 E)){x:Int}(h0: -9223372036854775808<=x)(h1:x<=9223372036854775807)(ty:TypeId):
 ∃w',(Builtin.delete_ #[au,3] ty #[.map (G b),.int .i64 x]).run av w= .ok (.tuple #[]) w'/\cT w' b n z (cQ g x U)/\Ch (λk=>k=b) w w':=by
 obtain⟨D,ho,hat,AO⟩:=h;obtain⟨w',kA,Oo,hg⟩:=ho.drop uz ht (tM h0 h1) ty;refine⟨w',kA,⟨_,Oo,λt=>?_,λt=>?_⟩,Hf hg⟩
 ·by_cases e:t=x
  ·subst e;rw[atKey_del_same,bD];rfl
  ·rw[atKey_del_other (by intro e';injection e' with _ e';exact e e'),hat t,bP g _ e]
 ·by_cases e:t=x
  ·subst e;rw[has_del_same,bD];rfl
  ·rw[has_del_other (by intro e';injection e' with _ e';exact e e'),AO t,bP g _ e]
end
abbrev bN(c:bQ):Array Value:=#[I J c.kind,I J c.tx,I J c.aS,I J c.aY,I J c.op,V c.key,V c.val,I J c.mode,Y c.yes]
abbrev cn(c:bQ):Value:=aC (bN c)
abbrev xp(r:dh):Array Value:=#[I J r.code,I J r.state,V r.val,Y r.has]
abbrev dU(r:dh):Value:=aC (xp r)
abbrev pS(x:cG)(v:Value):Array Value:=#[I J x.aS,I J x.last.kind,I J x.last.tx,I J x.last.aS,I J x.last.aY,I J x.last.op,V x.last.key,V x.last.val,I J x.last.mode,Y x.last.yes,v]
abbrev gH(x:cG)(v:Value):Value:=aC (pS x v)
def oU:bQ:=⟨0,0,0,0,0,⟨#[]⟩,⟨#[]⟩,0,false⟩
def qh3:cG:=⟨0,oU,U⟩
def Hh:Value:=T U 0 0
abbrev mK:Value:=aC #[I J 0,I J 0,I J 0,I J 0,I J 0,I J 0,V ⟨#[]⟩,V ⟨#[]⟩,I J 0,Y false,T U 0 0]
theorem yQ(w:aw):(zeroValue 200).run av w= .ok mK w:=by kernel_rfl
theorem Uc(w:aw):(zeroValue 3).run av w= .ok (I J 0) w:=by kernel_rfl
def qG(K:ByteArray)(x:kB):List Value:=match x with
 |none=>[]
 |some v=>[V K,V v,Y true]
def ft(x:kB):Nat:=if x.isSome then 1 else 0
structure kG(w:aw)(b n:Nat)(K:ByteArray)(f:Int->Option cG)(W:Int->Value):Prop where
 map:cT w b n mK (λt=>(f t).map λx=>gH x (W t))
 row: ∀t,w.ownsRow 0 203 3 (W t) (match f t with|none=>0|some x=>ft x.wr) (match f t with|none=>[]|some x=>qG K x.wr)
 tg: ∀t,f t=U->W t=Hh
 apart: ∀t t' g,t≠t'->(W t).ownBlock=G g->(W t').ownBlock≠G g
def sI(b:Nat)(W:Int->Value):Nat->Prop:=λg=>g=b\/∃t,(W t).ownBlock=G g
structure DC(K:ByteArray)(cs:Cells.CS)(s:dm)(aZ:Nat):Prop where
 uE:Cells.Good cs
 floor:cs.floor=0
 last:cs.last<=s.dw
 fx:(cs.f K.data.toList).length<=aZ
 CU: ∀k,k≠K.data.toList->cs.f k=[]
 val:Cells.valOf (cs.f K.data.toList) Cells.cX=(eP s.cur,fB s.cur)
structure ShW(s:dm):Prop where
 c0:0<=s.clock
 c1:s.clock<=1099511627776
 m0:0<=s.dw
 m1:s.dw<=1099511627776
 rk: ∀t r,s.rows t=G r->0<=t/\t<16
 ok: ∀t∈s.own,0<=t/\t<16
 nd:s.own.Nodup
 lk: ∀t x,s.br t=G x->0<=t/\t<16
structure ia where
 cb:Nat
 mb:Nat
 ah:List UInt8->Value
 DD:Nat
 Fl:Nat->Prop
 mw:Nat
 At:Option Addr
 nt:Nat
 ct:Nat
 bR:Nat
 W:Int->Value
 mL:Nat
def ia.P(a:ia)(sb:Nat):Nat->Nat->Prop
 |0=>λg=>g=sb
 |1=>Cells.ox a.cb a.mb a.ah
 |2=>a.Fl
 |3=>gg a.mw a.At a.nt a.ct
 |4=>sI a.bR a.W
 |5=>λg=>g=a.mL
 |_=>λ_=>False
def SD(s:dm)(a:ia):Array Value:=#[I J s.clock,I J s.dw,X (G ⟨a.cb,0,U⟩),X (G ⟨a.DD,0,U⟩),X (G ⟨a.mw,0,U⟩),.map (G a.bR),.map (G a.mL)]
structure dH(w:aw)(sb:Nat)(K:ByteArray)(aZ:Nat)(s:dm)(a:ia):Prop where
 aW:aX w sb 118 (SD s a)
 KV: ∃D cs,Cells.CM w 0 a.cb a.mb aZ D a.ah cs/\DC K cs s aZ
 wD:iW w a.DD K a.Fl s.own
 tN: ∃L,fu w a.mw a.At a.nt a.ct L/\FT L s.rows
 gp:kG w a.bR aZ K s.br a.W
 AW:cT w a.mL aZ (I J 0) (λt=>(s.cr t).map (I J))
 iu:eG w (a.P sb)
 dR:ShW s
 key:K.size<=16
def ia.F(a:ia)(sb:Nat):Nat->Prop:=JI (a.P sb)
section
variable{w w':aw}{sb b n aZ:Nat}{K:ByteArray}{s:dm}{a:ia}{f:Int->Option cG}{W:Int->Value}
theorem kG.ch{S:Nat->Prop}(h:kG w b n K f W)(hC:Ch S w w')(hS: ∀g,sI b W g->¬S g):kG w' b n K f W:=
 ⟨h.map.ch hC (hS b (.inl rfl)),λt=>bg (h.row t) hC (λg hg=>hS g (.inr ⟨t,hg⟩)),h.tg,h.apart⟩
theorem kG.mono(h:kG w b n K f W){m:Nat}(hm:n<=m):kG w b m K f W:=⟨h.map.mono hm,h.row,h.tg,h.apart⟩
theorem kG.fC(h:kG w b n K f W):oo (sI b W) w:=λg hg=>by
 rcases hg with e|⟨t,e⟩
 ·rw[e];exact h.map.lt
 ·exact((h.row t).lt g e).2
theorem DC.mono{cs:Cells.CS}(h:DC K cs s aZ){m:Nat}(hm:aZ<=m):DC K cs s m:=⟨h.uE,h.floor,h.last,aO h.fx hm,h.CU,h.val⟩
theorem dH.cv(h:dH w sb K aZ s a){S:Nat->Prop}(hS: ∀g,a.F sb g->¬S g)(i:Nat): ∀g,a.P sb i g->¬S g:=λg hg=>hS g ⟨i,hg⟩
theorem dH.ch{S:Nat->Prop}(h:dH w sb K aZ s a)(hC:Ch S w w')(hS: ∀g,a.F sb g->¬S g):dH w' sb K aZ s a:=by
 obtain⟨D,cs,hc,hr⟩:=h.KV;obtain⟨L,ht,hf⟩:=h.tN;exact⟨h.aW.ch hC (h.cv hS 0 sb rfl),⟨D,cs,hc.ch hC (h.cv hS 1),hr⟩,h.wD.ch hC (h.cv hS 2),⟨L,ht.ch hC (h.cv hS 3),hf⟩,h.gp.ch hC (h.cv hS 4),h.AW.ch hC (h.cv hS 5 _ rfl),h.iu.mono hC.size,h.dR,h.key⟩
theorem dH.aR(h:dH w sb K aZ s a)(hC:M w w'):dH w' sb K aZ s a:=h.ch hC (λ_ _ h=>h)
theorem dH.mono(h:dH w sb K aZ s a){m:Nat}(hm:aZ<=m):dH w sb K m s a:=by
 obtain⟨D,cs,hc,hr⟩:=h.KV;exact⟨h.aW,⟨D,cs,hc.mono hm,hr.mono hm⟩,h.wD,h.tN,h.gp.mono hm,h.AW.mono hm,h.iu,h.dR,h.key⟩
theorem dH.fC(h:dH w sb K aZ s a):oo (a.F sb) w:=h.iu.all
theorem dH.cells(h:dH w sb K aZ s a):w.cell? ⟨sb,0,U⟩=G (I J s.clock)/\w.cell? ⟨sb,1,U⟩=G (I J s.dw)/\w.cell? ⟨sb,2,U⟩=G (X (G ⟨a.cb,0,U⟩))/\w.cell? ⟨sb,3,U⟩=G (X (G ⟨a.DD,0,U⟩))/\
 w.cell? ⟨sb,4,U⟩=G (X (G ⟨a.mw,0,U⟩))/\w.cell? ⟨sb,5,U⟩=G (.map (G a.bR))/\w.cell? ⟨sb,6,U⟩=G (.map (G a.mL)):=
 ⟨h.aW.c 0,h.aW.c 1,h.aW.c 2,h.aW.c 3,h.aW.c 4,h.aW.c 5,h.aW.c 6⟩
end
structure eN(c:bQ):Prop where
 kd:1<=c.kind/\c.kind<=9
 tx:0<=c.tx/\c.tx<16
 at_: -1<=c.aS/\c.aS<=1048576
 st:c.kind=1->1<=c.aY/\c.aY<=1099511627776
 op:0<=c.op/\c.op<=1048576
 ke:c.key.size<=16
 mo:c.kind=2->c.mode=2
 va:c.val.size<=32
theorem AY{c:bQ}(h:eN c):cR c=(decide (c.kind=9)||decide (0<=c.aS)):=by
 obtain⟨⟨k0,k1⟩,⟨t0,t1⟩,⟨a0,a1⟩,hs,⟨o0,o1⟩,hk,hm,hv⟩:=h;unfold cR;by_cases e:c.kind=9
 ·rw[if_pos e];simp[e]
 ·rw[if_neg e,decide_eq_false e,Bool.false_or];have d1:decide (0<=c.tx)=true:=decide_eq_true t0;have d2:decide (c.tx<=1048576)=true:=decide_eq_true (by omega);have d3:decide (c.aS<=1048576)=true:=decide_eq_true a1;have d4:decide (32<c.val.size)=false:=decide_eq_false (by omega);have d5:(decide (c.kind=2)&&(!decide (c.mode=1)&& !decide (c.mode=2)))=false:=by
   by_cases e2:c.kind=2
   ·simp[hm e2]
   ·simp[e2]
  rw[d1,d2,d3,d4,d5];simp only[Bool.and_false,Bool.or_false,Bool.not_false,Bool.true_and,Bool.and_true];have nU:(if c.kind=1 then decide (1<=c.aY)&&decide (c.aY<=1099511627776)else if c.kind=2\/c.kind=3\/c.kind=4 then(decide (0<=c.op)&&decide (c.op<=1048576))&&decide (c.key.size<=16)else decide (5<=c.kind)&&decide (c.kind<=8))=true:=by
   split
   ·rename_i e1;obtain⟨s0,s1⟩:=hs e1;simp[s0,s1]
   ·split
    ·simp[o0,o1,hk]
    ·simp;omega
  rw[nU,Bool.true_and]
section
variable{w w':aw}{sb aZ:Nat}{K:ByteArray}{s:dm}{a:ia}{c:bQ}
theorem ea(h:eN c)(w:aw):ax av 111 #[cn c] w λe w'=>e=ay (Y (cR c))/\M w w':=by
 rw[AY h];obtain⟨kd,tx,aS,st,op,key,val,mode,yes⟩:=c;obtain⟨⟨k0,k1⟩,⟨t0,t1⟩,⟨a0,a1⟩,hs,⟨o0,o1⟩,hk,hm,hv⟩:=h;dsimp only at *;have HN:=O (show M w (w.alloc (az #[I J kd,I J tx,I J aS,I J st,I J op,V key,V val,I J mode,Y yes] 60))from(Ch.r _ w).alloc _);have q1:decide (16<(key.size:Int))=false:=decide_eq_false (by omega);have q2:decide (16<key.size)=false:=decide_eq_false (by omega);have q3:decide (32<(val.size:Int))=false:=decide_eq_false (by omega);have q4:decide (32<val.size)=false:=decide_eq_false (by omega);have q5:decide (op<0)=false:=decide_eq_false (by omega);have q6:decide (1048576<op)=false:=decide_eq_false (by omega);have q7:decide (tx<=1048576)=true:=decide_eq_true (by omega);have q8:decide (0<=tx)=true:=decide_eq_true (by omega);have q9:decide (aS<=1048576)=true:=decide_eq_true (by omega);by_cases e9:kd=9
 ·subst e9;simp only[decide_true,Bool.true_or];clear hs hm hk hv;go_enter func111,ntmps111;go_wp2_with fail;go_ret;exact⟨rfl,HN.o⟩
 rw[decide_eq_false e9,Bool.false_or];by_cases ha:0<=aS
 ·have u1:decide (0<=aS)=true:=decide_eq_true ha;rw[u1];by_cases e1:kd=1
  ·subst e1;obtain⟨s0,s1⟩:=hs rfl;have r1:decide (st<1)=false:=decide_eq_false (by omega);have r2:decide (1099511627776<st)=false:=decide_eq_false (by omega);clear hs hm hk hv e9 k0 k1;go_enter func111,ntmps111;go_wp2_with fail;go_ret;exact⟨rfl,HN.o⟩
  by_cases e2:kd=2
  ·subst e2;obtain rfl:mode=2:=hm rfl;clear hs hm hk hv e9 k0 k1 e1;go_enter func111,ntmps111;go_wp2_with fail;go_ret;exact⟨rfl,HN.o⟩
  by_cases e3:kd=3
  ·subst e3;clear hs hm hk hv e9 k0 k1 e1 e2;go_enter func111,ntmps111;go_wp2_with fail;go_ret;exact⟨rfl,HN.o⟩
  by_cases e4:kd=4
  ·subst e4;clear hs hm hk hv e9 k0 k1 e1 e2 e3;cases yes
   all_goals
    go_enter func111,ntmps111;go_wp2_with fail;go_ret;exact⟨rfl,HN.o⟩
  ·clear hs hm hk hv;rcases(show kd=5\/kd=6\/kd=7\/kd=8 by omega)with rfl|rfl|rfl|rfl
   all_goals
    clear e9 k0 k1 e1 e2 e3 e4;go_enter func111,ntmps111;go_wp2_with fail;go_ret;exact⟨rfl,HN.o⟩
 ·have u1:decide (0<=aS)=false:=decide_eq_false ha;rw[u1];by_cases e1:kd=1
  ·subst e1;obtain⟨s0,s1⟩:=hs rfl;have r1:decide (st<1)=false:=decide_eq_false (by omega);have r2:decide (1099511627776<st)=false:=decide_eq_false (by omega);clear hs hm hk hv e9 k0 k1;go_enter func111,ntmps111;go_wp2_with fail;go_ret;exact⟨rfl,HN.o⟩
  by_cases e2:kd=2
  ·subst e2;obtain rfl:mode=2:=hm rfl;clear hs hm hk hv e9 k0 k1 e1;go_enter func111,ntmps111;go_wp2_with fail;go_ret;exact⟨rfl,HN.o⟩
  by_cases e3:kd=3
  ·subst e3;clear hs hm hk hv e9 k0 k1 e1 e2;go_enter func111,ntmps111;go_wp2_with fail;go_ret;exact⟨rfl,HN.o⟩
  by_cases e4:kd=4
  ·subst e4;clear hs hm hk hv e9 k0 k1 e1 e2 e3;cases yes
   all_goals
    go_enter func111,ntmps111;go_wp2_with fail;go_ret;exact⟨rfl,HN.o⟩
  ·clear hs hm hk hv;rcases(show kd=5\/kd=6\/kd=7\/kd=8 by omega)with rfl|rfl|rfl|rfl
   all_goals
    clear e9 k0 k1 e1 e2 e3 e4;go_enter func111,ntmps111;go_wp2_with fail;go_ret;exact⟨rfl,HN.o⟩
theorem jl(h:dH w sb K aZ s a){tx:Int}(ht:0<=tx/\tx<16)(aS:Int):ax av 178 #[X (G ⟨sb,0,U⟩),I J tx,I J aS] w λe w'=>e=ay (Y (gM s tx aS))/\w=w':=by
 obtain⟨_,_,_,_,_,_,x6⟩:=h.cells;have tE:=h.AW.look_ok underlying116 (Uc w) (x:=tx) (by omega) (by omega);unfold gM;cases hd:s.cr tx with
 |none=>
  rw[hd]at tE;simp only[Option.map_none,Option.getD_none,Option.isSome_none]at tE;clear h hd;go_enter func178,ntmps178;go_wp2_with fail;go_ret;exact⟨rfl,rfl⟩
 |some d=>
  rw[hd]at tE;simp only[Option.map_some,Option.getD_some,Option.isSome_some]at tE;clear h hd;go_enter func178,ntmps178;go_wp2_with fail;go_ret;exact⟨rfl,rfl⟩
theorem Hk(h:dH w sb K aZ s a):ax av 126 #[X (G ⟨sb,0,U⟩)] w λe w'=>e=ay (I J s.clock)/\w=w':=by
 obtain⟨x0,_⟩:=h.cells;clear h;go_enter func126,ntmps126;go_wp2_with fail;go_ret;exact⟨rfl,rfl⟩
theorem uF(h:dH w sb K aZ s a)(cp:aZ<=1000000):ax av 38 #[X (G ⟨sb,0,U⟩),V K] w λe w'=>e=ay (aB #[V (eP s.cur),Y (fB s.cur)])/\M w w':=by
 obtain⟨_,_,x2,_⟩:=h.cells;obtain⟨D,cs,hc,hr⟩:=h.KV;have HG:=O (Cells.tL hc hr.uE (key:=K) (by have:=h.key;unfold maxLen;omega) (by have:=hr.fx;omega));rw[hr.val]at HG;clear h hc hr;go_enter func38,ntmps38;go_wp2_with fail;refine HG.o.mono ?_;rintro e w2 ⟨rfl,hN⟩;dsimp only;have HN:=O hN;clear hN HG;go_wp2_with fail;go_ret2;exact⟨rfl,HN.o⟩
theorem pW(h:dH w sb K aZ s a)(tx:Int):ax av 107 #[X (G ⟨sb,0,U⟩),I J tx] w λe w'=>e=ay (aB #[uk ((s.rows tx).getD qS),Y (s.rows tx).isSome])/\M w w':=by
 have gI:=O (show M w (w.alloc (az #[I J 0,I J 0,I J 0,I J 0,I J 0] 186))from(Ch.r _ w).alloc _);have Ab:=O (aX.new w 186 #[I J 0,I J 0,I J 0,I J 0,I J 0]);obtain⟨_,_,_,_,x4,_⟩:=(h.aR gI.o).cells;obtain⟨L,ht,hf⟩:=(h.aR gI.o).tN;have HF:=O (Pg ht hf tx);obtain⟨r,hr⟩:=bG ((s.rows tx).getD qS);obtain⟨q,hq⟩:=bG ((s.rows tx).isSome);rw[hr,hq]at HF;rw[hr,hq];have xl:=h.aW.lt;clear h ht hf hr hq;unfold uk at *;go_enter func107,ntmps107;go_wp2_with fail;refine HF.o.mono ?_;rintro e w2 ⟨rfl,hN⟩;dsimp only;have bJ:=O (gI.o.t hN);have bH:=O (Ab.o.ch hN (λh=>h));obtain⟨rk,iZ⟩:=bG (w.heap.size);rw[iZ]at bH;have⟨z0,z1,z2,z3,z4⟩:=iP bH.o;have zl:=bH.o.lt;have zf:=bH.o.frozen;have f0:=zf 0;have f1:=zf 1;have f2:=zf 2;have f3:=zf 3;have f4:=zf 4;have yD:=O iZ;simp only[iZ];clear zf hN HF x4 iZ;go_wp2_with fail;have HX:=O (show aX (kU w2 rk 0 r) rk 186 #[I J r.tx,I J r.aS,I J r.aY,I J r.state,I J r.heard]from((((bH.o.bm 0 _).bm 1 _).bm 2 _).bm 3 _).bm 4 _);have HC:=O (pK w2 rk 0 r);change bodyPost _ _ _ _ _ (kU w2 rk 0 r);generalize kU w2 rk 0 r=w5 at *;have⟨g0,g1,g2,g3,g4⟩:=iP HX.o;refine aE (v:=aB #[aC #[I J r.tx,I J r.aS,I J r.aY,I J r.state,I J r.heard],Y q]) (by simp[results,results107,go_sem,g0,g1,g2,g3,g4]) rfl ⟨rfl,?_⟩;exact(bJ.o.mono (λ_ h=>h.elim)).trans HC.o (λk hk=>.inr (by have:=yD.o;omega))
end
theorem pX{f:Rows}{r:cz}{t:Int}{x:cz}(h:(putRow f r).1 t=G x):t=r.tx\/∃y,f t=G y:=by
 unfold putRow at h;by_cases e:t=r.tx
 ·exact .inl e
 ·refine .inr ?_;split at h
  ·dsimp only at h;rw[bP f _ e]at h;exact⟨_,h⟩
  ·split at h
   ·dsimp only at h;rw[bP f _ e]at h;exact⟨_,h⟩
   ·exact⟨_,h⟩
theorem uG{f:Rows}{k:Int}{v:Option cz}{t:Int}{x:cz}(h:cQ f k v t=G x):t=k\/∃y,f t=G y:=by
 by_cases e:t=k
 ·exact .inl e
 ·rw[bP f _ e]at h;exact .inr ⟨_,h⟩
theorem lR(s:dm)(c:bQ){t:Int}{x:cz}(h:(dO s c).1.rows t=G x):t=c.tx\/∃y,s.rows t=G y:=by
 unfold dO at h;dsimp only at h;split at h
 ·unfold eD at h;split at h
  ·exact pX h
  ·split at h
   ·exact pX h
   ·split at h
    ·exact .inr ⟨_,h⟩
    ·exact .inr ⟨_,h⟩
 ·split at h
  ·unfold cg at h;split at h
   ·exact .inr ⟨_,h⟩
   ·split at h
    ·exact .inr ⟨_,h⟩
    ·split at h
     ·exact .inr ⟨_,h⟩
     ·split at h
      ·exact uG h
      ·split at h
       ·exact .inr ⟨_,h⟩
       ·exact .inr ⟨_,h⟩
  ·split at h
   ·unfold dI at h;split at h
    ·exact pX h
    ·split at h
     ·exact pX h
     ·split at h
      ·exact .inr ⟨_,h⟩
      ·split at h
       ·exact uG h
       ·split at h
        ·exact .inr ⟨_,h⟩
        ·exact .inr ⟨_,h⟩
   ·unfold eE at h;split at h
    ·exact .inr ⟨_,h⟩
    ·split at h
     ·exact .inr ⟨_,h⟩
     ·split at h
      ·exact .inr ⟨_,h⟩
      ·dsimp only at h;split at h
       ·exact uG h
       ·exact .inr ⟨_,h⟩
theorem Uf{l:List cz}(h:oq l)(h0: ∀r∈l,0<=r.tx): ∀(i:Nat) (r:cz),l[i]?=G r->(i:Int)<=r.tx:=by
 intro i;induction i with
 |zero=>intro r hr;exact h0 r (List.mem_of_getElem? hr)
 |succ i ih=>
  intro r hr;have hi:=bf hr;obtain⟨x,hx⟩:=bh (L:=l) (i:=i) (by omega);have h1:=ih x hx;have h2:=List.pairwise_iff_getElem.1 h i (i+1) (by omega) hi (Nat.lt_succ_self i);rw[List.getElem?_eq_getElem (by omega)]at hx;rw[List.getElem?_eq_getElem hi]at hr;injection hx with hx;injection hr with hr;rw[hx,hr]at h2;omega
section
variable{w w':aw}{sb aZ:Nat}{K:ByteArray}{s:dm}{a:ia}{c:bQ}
theorem dH.tO{L:List cz}(h:dH w sb K aZ s a)(ht:fu w a.mw a.At a.nt a.ct L)(hf:FT L s.rows):a.nt<=16:=by
 rcases Nat.lt_or_ge 16 a.nt with hlt|Oj
 ·obtain⟨r,hr⟩:=bh (L:=L) (i:=16) (by rw[ht.len];exact hlt);have h1:=Uf ht.GK (λr hr=>by
   obtain⟨p,hp⟩:=List.getElem?_of_mem hr;exact(h.dR.rk _ _ (hf.yes p r hp)).1) 16 r hr
  have h2:=(h.dR.rk _ _ (hf.yes 16 r hr)).2;omega
 ·exact Oj
theorem dH.tP(h:dH w sb K aZ s a){A':Option Addr}{n' c':Nat}{l':List cz}{g:Rows}(hT:fu w' a.mw A' n' c' l')(hF:FT l' g)(hs:Sub (gg a.mw a.At a.nt a.ct) (gg a.mw A' n' c') w w')(iZ: ∀t r,g t=G r->0<=t/\t<16):
 dH w' sb K aZ {s with rows:=g} {a with At:=A',nt:=n',ct:=c'}/\Sub (a.F sb) (({a with At:=A',nt:=n',ct:=c'}:ia).F sb) w w':=by
 have hP:({a with At:=A',nt:=n',ct:=c'}:ia).P sb=th (a.P sb) 3 (gg a.mw A' n' c'):=by
  funext j
  rcases j with _|_|_|_|_|_|j<;>rfl
 have xj:Sub (a.P sb 3) (gg a.mw A' n' c') w w':=hs;obtain⟨D,cs,hc,hr⟩:=h.KV;have cv: ∀j,j≠3->∀g,a.P sb j g->¬gg a.mw a.At a.nt a.ct g:=λj hj g hg=>h.iu.cv (i:=3) hj g hg;refine⟨⟨h.aW.ch hs.ch (cv 0 (by decide) sb rfl),⟨D,cs,hc.ch hs.ch (cv 1 (by decide)),⟨hr.uE,hr.floor,hr.last,hr.fx,hr.CU,hr.val⟩⟩,h.wD.ch hs.ch (cv 2 (by decide)),⟨l',hT,hF⟩,h.gp.ch hs.ch (cv 4 (by decide)),h.AW.ch hs.ch (cv 5 (by decide) _ rfl),?_,?_,h.key⟩,?_⟩
 ·rw[hP];exact h.iu.cQ 3 xj hT.fC
 ·exact⟨h.dR.c0,h.dR.c1,h.dR.m0,h.dR.m1,iZ,h.dR.ok,h.dR.nd,h.dR.lk⟩
 ·unfold ia.F;rw[hP];exact eG.sub 3 xj
theorem jz{w:aw}{qb:Nat}(b1:aX w sb 118 (SD s a))(b2:aX w qb 60 (bN c)):
 w.cell? ⟨sb,0,U⟩=G (I J s.clock)/\w.cell? ⟨sb,4,U⟩=G (X (G ⟨a.mw,0,U⟩))/\w.cell? ⟨qb,1,U⟩=G (I J c.tx)/\w.cell? ⟨qb,2,U⟩=G (I J c.aS)/\w.cell? ⟨qb,3,U⟩=G (I J c.aY):=
 ⟨b1.c 0,b1.c 4,b2.c 1,b2.c 2,b2.c 3⟩
theorem KZ{F:Nat->Prop}{l:List Int}{lb g:Nat}{t:TypeId}{cs:Array Value}(h:iW w lb K F l)(hb:aX w g t cs)(h1:t≠181)(h2:t≠321)(h3:t≠316): ¬F g:=by
 cases l with
 |nil=>
  obtain⟨A,c,hl,rfl⟩:=h;rintro(e|e)
  ·subst e;exact aX.lF hb hl.aW h1 rfl
  ·exact aV hl.own hb (λe=>h2 e.symm) e
 |cons x q=>
  obtain⟨g',c,HA,hc,QA,qc,hl,rfl⟩:=h;rintro(e|e|e|e)
  ·subst e;exact aX.lF hb hl.aW h1 rfl
  ·exact aV hl.own hb (λe=>h2 e.symm) e
  ·exact aV hl.ho.own hb (λe=>h3 e.symm) e
  ·exact aV hl.qu.own hb (λe=>h3 e.symm) e
theorem dH.bw(h:dH w sb K aZ s a){g:Nat}{t:TypeId}{cs:Array Value}(hb:aX w g t cs)(ht:t≠118/\t≠178/\t≠273/\t≠181/\t≠321/\t≠316/\t≠184/\t≠186/\t≠203): ¬a.F sb g:=by
 obtain⟨t1,t2,t3,t4,t5,t6,t7,t8,t9⟩:=ht;rintro⟨i,hi⟩;obtain⟨D,E6,hc,_⟩:=h.KV;obtain⟨L,hT,_⟩:=h.tN;rcases i with _|_|_|_|_|_|i
 ·have e:g=sb:=hi;subst e;exact aX.lF hb h.aW t1 rfl
 ·exact hc.cv hb t2 t3 hi
 ·exact KZ h.wD hb t4 t5 t6 hi
 ·rcases hi with e|e
  ·subst e;exact aX.lF hb hT.aW t7 rfl
  ·exact aV hT.own hb (λe=>t8 e.symm) e
 ·rcases hi with e|⟨t',e⟩
  ·subst e;exact h.gp.map.fO hb rfl
  ·exact aV (h.gp.row t') hb (λe=>t9 e.symm) e
 ·have e:g=a.mL:=hi;subst e;exact h.AW.fO hb rfl
 ·exact hi
theorem mN:(60:Nat)≠118/\(60:Nat)≠178/\(60:Nat)≠273/\(60:Nat)≠181/\(60:Nat)≠321/\(60:Nat)≠316/\(60:Nat)≠184/\(60:Nat)≠186/\(60:Nat)≠203:=by decide
theorem cy:(66:Nat)≠118/\(66:Nat)≠178/\(66:Nat)≠273/\(66:Nat)≠181/\(66:Nat)≠321/\(66:Nat)≠316/\(66:Nat)≠184/\(66:Nat)≠186/\(66:Nat)≠203:=by decide
theorem yW:(200:Nat)≠118/\(200:Nat)≠178/\(200:Nat)≠273/\(200:Nat)≠181/\(200:Nat)≠321/\(200:Nat)≠316/\(200:Nat)≠184/\(200:Nat)≠186/\(200:Nat)≠203:=by decide
theorem Sub.tail{F F' au:Nat->Prop}{w w' eZ:aw}(h:Sub F F' w w')(hc:Ch au w' eZ)(hT: ∀k,au k->w.heap.size<=k):Sub F F' w eZ:=⟨h.ch.trans hc (λk hk=>.inr (hT k hk)),h.new⟩
theorem Sub.head{F F':Nat->Prop}{w0 w w':aw}(hN:M w0 w)(h:Sub F F' w w'):Sub F F' w0 w':=(Sub.bj F hN).trans h
def cI(w:aw)(rk:Nat)(r:dh):aw:=(((w.setCell ⟨rk,0,U⟩ (I J r.code)).setCell ⟨rk,1,U⟩ (I J r.state)).setCell ⟨rk,2,U⟩ (V r.val)).setCell ⟨rk,3,U⟩ (Y r.has)
theorem bX(w:aw)(rk:Nat)(r:dh):Ch (λk=>k=rk) w (cI w rk r):=
 ((((Ch.r (λk=>k=rk) w).setCell (p:=⟨rk,0,U⟩) (.inl rfl) _).setCell (p:=⟨rk,1,U⟩) (.inl rfl) _).setCell (p:=⟨rk,2,U⟩) (.inl rfl) _).setCell (p:=⟨rk,3,U⟩) (.inl rfl) _
theorem bU{w:aw}{rk:Nat}{t:TypeId}{x y z u:Value}(h:aX w rk t #[x,y,z,u])(r:dh):aX (cI w rk r) rk t (xp r):=(((h.bm 0 _).bm 1 _).bm 2 _).bm 3 _
def jQ(w:aw)(sb:Nat)(K:ByteArray)(aZ:Nat)(a:ia)(o:dm×dh)(e:Ending)(w':aw):Prop:=
 e=ay (dU o.2)/\∃a',dH w' sb K aZ o.1 a'/\Sub (a.F sb) (a'.F sb) w w'
theorem PL(h:dH w sb K aZ s a)(hc:eN c)(ha:0<=c.aS)(hk:c.kind=1):ax av 113 #[X (G ⟨sb,0,U⟩),cn c] w (jQ w sb K aZ a (dO s c)):=by
 have iZ: ∀t r,(dO s c).1.rows t=G r->0<=t/\t<16:=λt r hr=>by
  rcases lR s c hr with e|⟨y,hy⟩
  ·rw[e];exact hc.tx
  ·exact h.dR.rk t y hy
 have Fu:dO s c=({s with rows:=(eD s.rows c.tx c.aS c.aY s.clock).1},gX (eD s.rows c.tx c.aS c.aY s.clock).2.1 (eD s.rows c.tx c.aS c.aY s.clock).2.2):=by
  unfold dO;simp[hk]
 rw[Fu]at iZ⊢;have h1:=hc.tx;have h2:=hc.at_;have K5:=hc.st;have G6:=h.dR.c0;have bT:=h.dR.c1;obtain⟨kd,tx,aS,st,op,key,val,mode,yes⟩:=c;dsimp only at *;subst hk;have HC:=O (λw' (hm:dH w' sb K aZ s a)=>(show ax av 181 #[X (G ⟨a.mw,0,U⟩),I J tx,I J aS,I J st,I J s.clock] w' (s8 w' a.mw a.At a.nt a.ct (eD s.rows tx aS st s.clock).1 (eD s.rows tx aS st s.clock).2.1 (eD s.rows tx aS st s.clock).2.2)from by
  obtain⟨L,ht,hf⟩:=hm.tN;have oV:=hm.tO ht hf;exact Ke ht hf (by omega) tx aS st s.clock (by omega) (by omega) ha (by omega) (K5 rfl).1 (K5 rfl).2 G6 bT))
 generalize hG:(eD s.rows tx aS st s.clock).1=aa at *;generalize O2:(eD s.rows tx aS st s.clock).2.1=ST at *;generalize Ug:(eD s.rows tx aS st s.clock).2.2=CO at *;clear hG O2 Ug Fu;have HU:=O (λw1 w2 (hm:dH w1 sb K aZ s a) A' n' c' l' (hT:fu w2 a.mw A' n' c' l') (hF:FT l' aa) (hs:Sub (gg a.mw a.At a.nt a.ct) (gg a.mw A' n' c') w1 w2)=>hm.tP hT hF hs iZ);have HM:=O h;clear h iZ hc;go_enter func113,ntmps113;go_upto_region 4 with(fail);obtain⟨wz,bV⟩:=bG (((w.alloc (az #[I J 1,I J tx,I J aS,I J st,I J op,V key,V val,I J mode,Y yes] 60)).alloc (az #[I J 0,I J 0,V ⟨#[]⟩,Y false] 66)).alloc (az #[I J 0,I J 0,V ⟨#[]⟩,Y false] 66));have HN:=O (show M w wz from bV▸(((Ch.r _ w).alloc _).alloc _).alloc _);have HQ:=O (show aX wz w.heap.size 60 (bN ⟨1,tx,aS,st,op,key,val,mode,yes⟩)from bV▸((aX.new w 60 _).alloc _).alloc _);have gN:=O (show aX wz (w.heap.size+1) 66 #[I J 0,I J 0,V ⟨#[]⟩,Y false]from by
  have:=(aX.new (w.alloc (az (bN ⟨1,tx,aS,st,op,key,val,mode,yes⟩) 60)) 66 #[I J 0,I J 0,V ⟨#[]⟩,Y false]).alloc (az #[I J 0,I J 0,V ⟨#[]⟩,Y false] 66);rw[World.size_alloc]at this;exact bV▸this)
 have bH:=O (show aX wz (w.heap.size+1+1) 66 #[I J 0,I J 0,V ⟨#[]⟩,Y false]from by
  have:=aX.new ((w.alloc (az (bN ⟨1,tx,aS,st,op,key,val,mode,yes⟩) 60)).alloc (az #[I J 0,I J 0,V ⟨#[]⟩,Y false] 66)) 66 #[I J 0,I J 0,V ⟨#[]⟩,Y false];rw[World.size_alloc,World.size_alloc]at this;exact bV▸this)
 have de:=HM.o.aW.lt;obtain⟨qb,bE⟩:=bG (w.heap.size);rw[bE]at HQ gN bH de
 try rw[bV]
 try simp only[bE]
 have dp:=O bE;have n1:sb≠qb+1+1:=by omega
 have n2:qb≠qb+1+1:=by omega
 have n3:qb+1≠qb+1+1:=by omega
 have re:=O (HM.o.aR HN.o);have Uh:=O (re.o.bw HQ.o mN);have K6:=O (re.o.bw gN.o cy);have xn:=O (re.o.bw bH.o cy);clear bV bE
 go_region_held3(λw'=>w'.cell? ⟨sb,0,U⟩=G (I J s.clock)/\w'.cell? ⟨sb,4,U⟩=G (X (G ⟨a.mw,0,U⟩))/\w'.cell? ⟨qb,1,U⟩=G (I J tx)/\w'.cell? ⟨qb,2,U⟩=G (I J aS)/\w'.cell? ⟨qb,3,U⟩=G (I J st))
  (first|exact jz ((b1.cv n1 _).cv n1 _) ((bq.cv n2 _).cv n2 _)|exact jz (b1.cv n1 _) (bq.cv n2 _)|exact jz b1 bq|exact jz re.o.aW HQ.o)
  (first
    |(go_at_call 181;refine(HC.o _ (re.o.aR (aU wz))).mono ?_;rintro e wa ⟨A',n',c',l',hT,hF,rfl,hs⟩
      obtain⟨jE,j3⟩:=HU.o _ _ (re.o.aR (aU wz)) _ _ _ _ hT hF hs;have b1:=jE.aW;have bq:=HQ.o.drew.ch j3.ch Uh.o;have DE:=gN.o.drew.ch j3.ch K6.o;have rf:=bH.o.drew.ch j3.ch xn.o;have⟨z0,z1⟩:=vS rf;have f0:=rf.frozen 0;have f1:=rf.frozen 1))
 all_goals
  have Fv:=O (jE.bw DE cy);have PM:=O (jE.bw rf cy);have cN:=O jE;have xr:=O j3;have xt:=O (show aX ((wa.setCell ⟨qb+1+1,1,U⟩ (I J ST)).setCell ⟨qb+1+1,0,U⟩ (I J CO)) (qb+1+1) 66 #[I J CO,I J ST,V ⟨#[]⟩,Y false]from(rf.bm 1 _).bm 0 _);have ki:=O (show aX ((wa.setCell ⟨qb+1+1,1,U⟩ (I J ST)).setCell ⟨qb+1+1,0,U⟩ (I J CO)) (qb+1) 66 #[I J 0,I J 0,V ⟨#[]⟩,Y false]from(DE.cv n3 _).cv n3 _);have K7:=O (show Ch (λk=>k=qb+1+1) wa ((wa.setCell ⟨qb+1+1,1,U⟩ (I J ST)).setCell ⟨qb+1+1,0,U⟩ (I J CO))from((Ch.r (λk=>k=qb+1+1) wa).setCell (p:=⟨qb+1+1,1,U⟩) (.inl rfl) _).setCell (p:=⟨qb+1+1,0,U⟩) (.inl rfl) _);clear jE j3 b1 bq DE rf z0 z1 f0 f1 hT hF hs;generalize((wa.setCell ⟨qb+1+1,1,U⟩ (I J ST)).setCell ⟨qb+1+1,0,U⟩ (I J CO))=wS at *;have⟨z0,z1,z2,z3⟩:=eW xt.o;have zl:=xt.o.lt;have⟨y0,y1,y2,y3⟩:=eW ki.o;have yl:=ki.o.lt;have f0:=ki.o.frozen 0;have f1:=ki.o.frozen 1;have f2:=ki.o.frozen 2;have f3:=ki.o.frozen 3;go_wp2_with fail;change bodyPost _ _ _ _ _ (cI wS (qb+1) (gX ST CO));have HY:=O (bU ki.o (gX ST CO));have cK:=O (bX wS (qb+1) (gX ST CO));generalize cI wS (qb+1) (gX ST CO)=wE at *;have⟨g0,g1,g2,g3⟩:=eW HY.o;refine aE (v:=dU (gX ST CO)) (by simp[results,results113,go_sem,g0,g1,g2,g3]) rfl ⟨rfl,_,cN.o.ch (Ch.trans (K7.o.mono (au:=λk=>k=qb+1\/k=qb+1+1) (λk hk=>.inr hk)) cK.o (λk hk=>.inl (.inl hk))) ?_,?_⟩
  ·rintro g hg (e|e)
   ·subst e;exact Fv.o hg
   ·subst e;exact PM.o hg
  ·exact((xr.o.head ((HN.o:M w wz).drew)).tail K7.o (λk hk=>by have:=dp.o;omega)).tail cK.o (λk hk=>by have:=dp.o;omega)
theorem PN(h:dH w sb K aZ s a)(hc:eN c)(ha:0<=c.aS)(hk:c.kind=5):ax av 113 #[X (G ⟨sb,0,U⟩),cn c] w (jQ w sb K aZ a (dO s c)):=by
 have iZ: ∀t r,(dO s c).1.rows t=G r->0<=t/\t<16:=λt r hr=>by
  rcases lR s c hr with e|⟨y,hy⟩
  ·rw[e];exact hc.tx
  ·exact h.dR.rk t y hy
 have Fu:dO s c=({s with rows:=(cg s.rows c.tx c.aS).1},gX (cg s.rows c.tx c.aS).2.1 (cg s.rows c.tx c.aS).2.2):=by
  unfold dO;simp[hk]
 rw[Fu]at iZ⊢;have h1:=hc.tx;have h2:=hc.at_;have K5:=hc.st;have G6:=h.dR.c0;have bT:=h.dR.c1;obtain⟨kd,tx,aS,st,op,key,val,mode,yes⟩:=c;dsimp only at *;subst hk;have HC:=O (λw' (hm:dH w' sb K aZ s a)=>(show ax av 182 #[X (G ⟨a.mw,0,U⟩),I J tx,I J aS] w' (s8 w' a.mw a.At a.nt a.ct (cg s.rows tx aS).1 (cg s.rows tx aS).2.1 (cg s.rows tx aS).2.2)from by
  obtain⟨L,ht,hf⟩:=hm.tN;have oV:=hm.tO ht hf;exact(Dl ht hf tx aS (by omega) (by omega) ha (by omega)).mono λe w2 ⟨l2,q1,q2,q3,q4⟩=>⟨_,_,_,l2,q1,q2,q3,⟨q4,λg hg=>.inl hg⟩⟩))
 generalize hG:(cg s.rows tx aS).1=aa at *;generalize O2:(cg s.rows tx aS).2.1=ST at *;generalize Ug:(cg s.rows tx aS).2.2=CO at *;clear hG O2 Ug Fu;have HU:=O (λw1 w2 (hm:dH w1 sb K aZ s a) A' n' c' l' (hT:fu w2 a.mw A' n' c' l') (hF:FT l' aa) (hs:Sub (gg a.mw a.At a.nt a.ct) (gg a.mw A' n' c') w1 w2)=>hm.tP hT hF hs iZ);have HM:=O h;clear h iZ hc;go_enter func113,ntmps113;go_upto_region 6 with(fail);obtain⟨wz,bV⟩:=bG (((w.alloc (az #[I J 5,I J tx,I J aS,I J st,I J op,V key,V val,I J mode,Y yes] 60)).alloc (az #[I J 0,I J 0,V ⟨#[]⟩,Y false] 66)).alloc (az #[I J 0,I J 0,V ⟨#[]⟩,Y false] 66));have HN:=O (show M w wz from bV▸(((Ch.r _ w).alloc _).alloc _).alloc _);have HQ:=O (show aX wz w.heap.size 60 (bN ⟨5,tx,aS,st,op,key,val,mode,yes⟩)from bV▸((aX.new w 60 _).alloc _).alloc _);have gN:=O (show aX wz (w.heap.size+1) 66 #[I J 0,I J 0,V ⟨#[]⟩,Y false]from by
  have:=(aX.new (w.alloc (az (bN ⟨5,tx,aS,st,op,key,val,mode,yes⟩) 60)) 66 #[I J 0,I J 0,V ⟨#[]⟩,Y false]).alloc (az #[I J 0,I J 0,V ⟨#[]⟩,Y false] 66);rw[World.size_alloc]at this;exact bV▸this)
 have bH:=O (show aX wz (w.heap.size+1+1) 66 #[I J 0,I J 0,V ⟨#[]⟩,Y false]from by
  have:=aX.new ((w.alloc (az (bN ⟨5,tx,aS,st,op,key,val,mode,yes⟩) 60)).alloc (az #[I J 0,I J 0,V ⟨#[]⟩,Y false] 66)) 66 #[I J 0,I J 0,V ⟨#[]⟩,Y false];rw[World.size_alloc,World.size_alloc]at this;exact bV▸this)
 have de:=HM.o.aW.lt;obtain⟨qb,bE⟩:=bG (w.heap.size);rw[bE]at HQ gN bH de
 try rw[bV]
 try simp only[bE]
 have dp:=O bE;have n1:sb≠qb+1+1:=by omega
 have n2:qb≠qb+1+1:=by omega
 have n3:qb+1≠qb+1+1:=by omega
 have re:=O (HM.o.aR HN.o);have Uh:=O (re.o.bw HQ.o mN);have K6:=O (re.o.bw gN.o cy);have xn:=O (re.o.bw bH.o cy);clear bV bE
 go_region_held3(λw'=>w'.cell? ⟨sb,0,U⟩=G (I J s.clock)/\w'.cell? ⟨sb,4,U⟩=G (X (G ⟨a.mw,0,U⟩))/\w'.cell? ⟨qb,1,U⟩=G (I J tx)/\w'.cell? ⟨qb,2,U⟩=G (I J aS)/\w'.cell? ⟨qb,3,U⟩=G (I J st))
  (first|exact jz ((b1.cv n1 _).cv n1 _) ((bq.cv n2 _).cv n2 _)|exact jz (b1.cv n1 _) (bq.cv n2 _)|exact jz b1 bq|exact jz re.o.aW HQ.o)
  (first
    |(go_at_call 182;refine(HC.o _ (re.o.aR (aU wz))).mono ?_;rintro e wa ⟨A',n',c',l',hT,hF,rfl,hs⟩
      obtain⟨jE,j3⟩:=HU.o _ _ (re.o.aR (aU wz)) _ _ _ _ hT hF hs;have b1:=jE.aW;have bq:=HQ.o.drew.ch j3.ch Uh.o;have DE:=gN.o.drew.ch j3.ch K6.o;have rf:=bH.o.drew.ch j3.ch xn.o;have⟨z0,z1⟩:=vS rf;have f0:=rf.frozen 0;have f1:=rf.frozen 1))
 all_goals
  have Fv:=O (jE.bw DE cy);have PM:=O (jE.bw rf cy);have cN:=O jE;have xr:=O j3;have xt:=O (show aX ((wa.setCell ⟨qb+1+1,1,U⟩ (I J ST)).setCell ⟨qb+1+1,0,U⟩ (I J CO)) (qb+1+1) 66 #[I J CO,I J ST,V ⟨#[]⟩,Y false]from(rf.bm 1 _).bm 0 _);have ki:=O (show aX ((wa.setCell ⟨qb+1+1,1,U⟩ (I J ST)).setCell ⟨qb+1+1,0,U⟩ (I J CO)) (qb+1) 66 #[I J 0,I J 0,V ⟨#[]⟩,Y false]from(DE.cv n3 _).cv n3 _);have K7:=O (show Ch (λk=>k=qb+1+1) wa ((wa.setCell ⟨qb+1+1,1,U⟩ (I J ST)).setCell ⟨qb+1+1,0,U⟩ (I J CO))from((Ch.r (λk=>k=qb+1+1) wa).setCell (p:=⟨qb+1+1,1,U⟩) (.inl rfl) _).setCell (p:=⟨qb+1+1,0,U⟩) (.inl rfl) _);clear jE j3 b1 bq DE rf z0 z1 f0 f1 hT hF hs;generalize((wa.setCell ⟨qb+1+1,1,U⟩ (I J ST)).setCell ⟨qb+1+1,0,U⟩ (I J CO))=wS at *;have⟨z0,z1,z2,z3⟩:=eW xt.o;have zl:=xt.o.lt;have⟨y0,y1,y2,y3⟩:=eW ki.o;have yl:=ki.o.lt;have f0:=ki.o.frozen 0;have f1:=ki.o.frozen 1;have f2:=ki.o.frozen 2;have f3:=ki.o.frozen 3;go_wp2_with fail;change bodyPost _ _ _ _ _ (cI wS (qb+1) (gX ST CO));have HY:=O (bU ki.o (gX ST CO));have cK:=O (bX wS (qb+1) (gX ST CO));generalize cI wS (qb+1) (gX ST CO)=wE at *;have⟨g0,g1,g2,g3⟩:=eW HY.o;refine aE (v:=dU (gX ST CO)) (by simp[results,results113,go_sem,g0,g1,g2,g3]) rfl ⟨rfl,_,cN.o.ch (Ch.trans (K7.o.mono (au:=λk=>k=qb+1\/k=qb+1+1) (λk hk=>.inr hk)) cK.o (λk hk=>.inl (.inl hk))) ?_,?_⟩
  ·rintro g hg (e|e)
   ·subst e;exact Fv.o hg
   ·subst e;exact PM.o hg
  ·exact((xr.o.head ((HN.o:M w wz).drew)).tail K7.o (λk hk=>by have:=dp.o;omega)).tail cK.o (λk hk=>by have:=dp.o;omega)
theorem PO(h:dH w sb K aZ s a)(hc:eN c)(ha:0<=c.aS)(hk:c.kind=6):ax av 113 #[X (G ⟨sb,0,U⟩),cn c] w (jQ w sb K aZ a (dO s c)):=by
 have iZ: ∀t r,(dO s c).1.rows t=G r->0<=t/\t<16:=λt r hr=>by
  rcases lR s c hr with e|⟨y,hy⟩
  ·rw[e];exact hc.tx
  ·exact h.dR.rk t y hy
 have Fu:dO s c=({s with rows:=(dI s.rows c.tx c.aS s.clock).1},gX (dI s.rows c.tx c.aS s.clock).2.1 (dI s.rows c.tx c.aS s.clock).2.2):=by
  unfold dO;simp[hk]
 rw[Fu]at iZ⊢;have h1:=hc.tx;have h2:=hc.at_;have K5:=hc.st;have G6:=h.dR.c0;have bT:=h.dR.c1;obtain⟨kd,tx,aS,st,op,key,val,mode,yes⟩:=c;dsimp only at *;subst hk;have HC:=O (λw' (hm:dH w' sb K aZ s a)=>(show ax av 183 #[X (G ⟨a.mw,0,U⟩),I J tx,I J aS,I J s.clock] w' (s8 w' a.mw a.At a.nt a.ct (dI s.rows tx aS s.clock).1 (dI s.rows tx aS s.clock).2.1 (dI s.rows tx aS s.clock).2.2)from by
  obtain⟨L,ht,hf⟩:=hm.tN;have oV:=hm.tO ht hf;exact Kg ht hf (by omega) tx aS s.clock (by omega) (by omega) ha (by omega) G6 bT))
 generalize hG:(dI s.rows tx aS s.clock).1=aa at *;generalize O2:(dI s.rows tx aS s.clock).2.1=ST at *;generalize Ug:(dI s.rows tx aS s.clock).2.2=CO at *;clear hG O2 Ug Fu;have HU:=O (λw1 w2 (hm:dH w1 sb K aZ s a) A' n' c' l' (hT:fu w2 a.mw A' n' c' l') (hF:FT l' aa) (hs:Sub (gg a.mw a.At a.nt a.ct) (gg a.mw A' n' c') w1 w2)=>hm.tP hT hF hs iZ);have HM:=O h;clear h iZ hc;go_enter func113,ntmps113;go_upto_region 8 with(fail);obtain⟨wz,bV⟩:=bG (((w.alloc (az #[I J 6,I J tx,I J aS,I J st,I J op,V key,V val,I J mode,Y yes] 60)).alloc (az #[I J 0,I J 0,V ⟨#[]⟩,Y false] 66)).alloc (az #[I J 0,I J 0,V ⟨#[]⟩,Y false] 66));have HN:=O (show M w wz from bV▸(((Ch.r _ w).alloc _).alloc _).alloc _);have HQ:=O (show aX wz w.heap.size 60 (bN ⟨6,tx,aS,st,op,key,val,mode,yes⟩)from bV▸((aX.new w 60 _).alloc _).alloc _);have gN:=O (show aX wz (w.heap.size+1) 66 #[I J 0,I J 0,V ⟨#[]⟩,Y false]from by
  have:=(aX.new (w.alloc (az (bN ⟨6,tx,aS,st,op,key,val,mode,yes⟩) 60)) 66 #[I J 0,I J 0,V ⟨#[]⟩,Y false]).alloc (az #[I J 0,I J 0,V ⟨#[]⟩,Y false] 66);rw[World.size_alloc]at this;exact bV▸this)
 have bH:=O (show aX wz (w.heap.size+1+1) 66 #[I J 0,I J 0,V ⟨#[]⟩,Y false]from by
  have:=aX.new ((w.alloc (az (bN ⟨6,tx,aS,st,op,key,val,mode,yes⟩) 60)).alloc (az #[I J 0,I J 0,V ⟨#[]⟩,Y false] 66)) 66 #[I J 0,I J 0,V ⟨#[]⟩,Y false];rw[World.size_alloc,World.size_alloc]at this;exact bV▸this)
 have de:=HM.o.aW.lt;obtain⟨qb,bE⟩:=bG (w.heap.size);rw[bE]at HQ gN bH de
 try rw[bV]
 try simp only[bE]
 have dp:=O bE;have n1:sb≠qb+1+1:=by omega
 have n2:qb≠qb+1+1:=by omega
 have n3:qb+1≠qb+1+1:=by omega
 have re:=O (HM.o.aR HN.o);have Uh:=O (re.o.bw HQ.o mN);have K6:=O (re.o.bw gN.o cy);have xn:=O (re.o.bw bH.o cy);clear bV bE
 go_region_held3(λw'=>w'.cell? ⟨sb,0,U⟩=G (I J s.clock)/\w'.cell? ⟨sb,4,U⟩=G (X (G ⟨a.mw,0,U⟩))/\w'.cell? ⟨qb,1,U⟩=G (I J tx)/\w'.cell? ⟨qb,2,U⟩=G (I J aS)/\w'.cell? ⟨qb,3,U⟩=G (I J st))
  (first|exact jz ((b1.cv n1 _).cv n1 _) ((bq.cv n2 _).cv n2 _)|exact jz (b1.cv n1 _) (bq.cv n2 _)|exact jz b1 bq|exact jz re.o.aW HQ.o)
  (first
    |(go_at_call 183;refine(HC.o _ (re.o.aR (aU wz))).mono ?_;rintro e wa ⟨A',n',c',l',hT,hF,rfl,hs⟩
      obtain⟨jE,j3⟩:=HU.o _ _ (re.o.aR (aU wz)) _ _ _ _ hT hF hs;have b1:=jE.aW;have bq:=HQ.o.drew.ch j3.ch Uh.o;have DE:=gN.o.drew.ch j3.ch K6.o;have rf:=bH.o.drew.ch j3.ch xn.o;have⟨z0,z1⟩:=vS rf;have f0:=rf.frozen 0;have f1:=rf.frozen 1))
 all_goals
  have Fv:=O (jE.bw DE cy);have PM:=O (jE.bw rf cy);have cN:=O jE;have xr:=O j3;have xt:=O (show aX ((wa.setCell ⟨qb+1+1,1,U⟩ (I J ST)).setCell ⟨qb+1+1,0,U⟩ (I J CO)) (qb+1+1) 66 #[I J CO,I J ST,V ⟨#[]⟩,Y false]from(rf.bm 1 _).bm 0 _);have ki:=O (show aX ((wa.setCell ⟨qb+1+1,1,U⟩ (I J ST)).setCell ⟨qb+1+1,0,U⟩ (I J CO)) (qb+1) 66 #[I J 0,I J 0,V ⟨#[]⟩,Y false]from(DE.cv n3 _).cv n3 _);have K7:=O (show Ch (λk=>k=qb+1+1) wa ((wa.setCell ⟨qb+1+1,1,U⟩ (I J ST)).setCell ⟨qb+1+1,0,U⟩ (I J CO))from((Ch.r (λk=>k=qb+1+1) wa).setCell (p:=⟨qb+1+1,1,U⟩) (.inl rfl) _).setCell (p:=⟨qb+1+1,0,U⟩) (.inl rfl) _);clear jE j3 b1 bq DE rf z0 z1 f0 f1 hT hF hs;generalize((wa.setCell ⟨qb+1+1,1,U⟩ (I J ST)).setCell ⟨qb+1+1,0,U⟩ (I J CO))=wS at *;have⟨z0,z1,z2,z3⟩:=eW xt.o;have zl:=xt.o.lt;have⟨y0,y1,y2,y3⟩:=eW ki.o;have yl:=ki.o.lt;have f0:=ki.o.frozen 0;have f1:=ki.o.frozen 1;have f2:=ki.o.frozen 2;have f3:=ki.o.frozen 3;go_wp2_with fail;change bodyPost _ _ _ _ _ (cI wS (qb+1) (gX ST CO));have HY:=O (bU ki.o (gX ST CO));have cK:=O (bX wS (qb+1) (gX ST CO));generalize cI wS (qb+1) (gX ST CO)=wE at *;have⟨g0,g1,g2,g3⟩:=eW HY.o;refine aE (v:=dU (gX ST CO)) (by simp[results,results113,go_sem,g0,g1,g2,g3]) rfl ⟨rfl,_,cN.o.ch (Ch.trans (K7.o.mono (au:=λk=>k=qb+1\/k=qb+1+1) (λk hk=>.inr hk)) cK.o (λk hk=>.inl (.inl hk))) ?_,?_⟩
  ·rintro g hg (e|e)
   ·subst e;exact Fv.o hg
   ·subst e;exact PM.o hg
  ·exact((xr.o.head ((HN.o:M w wz).drew)).tail K7.o (λk hk=>by have:=dp.o;omega)).tail cK.o (λk hk=>by have:=dp.o;omega)
theorem PQ(h:dH w sb K aZ s a)(hc:eN c)(ha:0<=c.aS)(hk:c.kind=8):ax av 113 #[X (G ⟨sb,0,U⟩),cn c] w (jQ w sb K aZ a (dO s c)):=by
 have iZ: ∀t r,(dO s c).1.rows t=G r->0<=t/\t<16:=λt r hr=>by
  rcases lR s c hr with e|⟨y,hy⟩
  ·rw[e];exact hc.tx
  ·exact h.dR.rk t y hy
 have Fu:dO s c=({s with rows:=(eE s.rows c.tx c.aS s.clock).1},gX (eE s.rows c.tx c.aS s.clock).2.1 (eE s.rows c.tx c.aS s.clock).2.2):=by
  unfold dO;simp[hk]
 rw[Fu]at iZ⊢;have h1:=hc.tx;have h2:=hc.at_;have K5:=hc.st;have G6:=h.dR.c0;have bT:=h.dR.c1;obtain⟨kd,tx,aS,st,op,key,val,mode,yes⟩:=c;dsimp only at *;subst hk;have HC:=O (λw' (hm:dH w' sb K aZ s a)=>(show ax av 184 #[X (G ⟨a.mw,0,U⟩),I J tx,I J aS,I J s.clock] w' (s8 w' a.mw a.At a.nt a.ct (eE s.rows tx aS s.clock).1 (eE s.rows tx aS s.clock).2.1 (eE s.rows tx aS s.clock).2.2)from by
  obtain⟨L,ht,hf⟩:=hm.tN;have oV:=hm.tO ht hf;exact(J9 ht hf tx aS s.clock (by omega) (by omega) ha (by omega) G6 bT).mono λe w2 ⟨l2,q1,q2,q3,q4⟩=>⟨_,_,_,l2,q1,q2,q3,⟨q4,λg hg=>.inl hg⟩⟩))
 generalize hG:(eE s.rows tx aS s.clock).1=aa at *;generalize O2:(eE s.rows tx aS s.clock).2.1=ST at *;generalize Ug:(eE s.rows tx aS s.clock).2.2=CO at *;clear hG O2 Ug Fu;have HU:=O (λw1 w2 (hm:dH w1 sb K aZ s a) A' n' c' l' (hT:fu w2 a.mw A' n' c' l') (hF:FT l' aa) (hs:Sub (gg a.mw a.At a.nt a.ct) (gg a.mw A' n' c') w1 w2)=>hm.tP hT hF hs iZ);have HM:=O h;clear h iZ hc;go_enter func113,ntmps113;go_upto_region 10 with(fail);obtain⟨wz,bV⟩:=bG (((w.alloc (az #[I J 8,I J tx,I J aS,I J st,I J op,V key,V val,I J mode,Y yes] 60)).alloc (az #[I J 0,I J 0,V ⟨#[]⟩,Y false] 66)).alloc (az #[I J 0,I J 0,V ⟨#[]⟩,Y false] 66));have HN:=O (show M w wz from bV▸(((Ch.r _ w).alloc _).alloc _).alloc _);have HQ:=O (show aX wz w.heap.size 60 (bN ⟨8,tx,aS,st,op,key,val,mode,yes⟩)from bV▸((aX.new w 60 _).alloc _).alloc _);have gN:=O (show aX wz (w.heap.size+1) 66 #[I J 0,I J 0,V ⟨#[]⟩,Y false]from by
  have:=(aX.new (w.alloc (az (bN ⟨8,tx,aS,st,op,key,val,mode,yes⟩) 60)) 66 #[I J 0,I J 0,V ⟨#[]⟩,Y false]).alloc (az #[I J 0,I J 0,V ⟨#[]⟩,Y false] 66);rw[World.size_alloc]at this;exact bV▸this)
 have bH:=O (show aX wz (w.heap.size+1+1) 66 #[I J 0,I J 0,V ⟨#[]⟩,Y false]from by
  have:=aX.new ((w.alloc (az (bN ⟨8,tx,aS,st,op,key,val,mode,yes⟩) 60)).alloc (az #[I J 0,I J 0,V ⟨#[]⟩,Y false] 66)) 66 #[I J 0,I J 0,V ⟨#[]⟩,Y false];rw[World.size_alloc,World.size_alloc]at this;exact bV▸this)
 have de:=HM.o.aW.lt;obtain⟨qb,bE⟩:=bG (w.heap.size);rw[bE]at HQ gN bH de
 try rw[bV]
 try simp only[bE]
 have dp:=O bE;have n1:sb≠qb+1+1:=by omega
 have n2:qb≠qb+1+1:=by omega
 have n3:qb+1≠qb+1+1:=by omega
 have re:=O (HM.o.aR HN.o);have Uh:=O (re.o.bw HQ.o mN);have K6:=O (re.o.bw gN.o cy);have xn:=O (re.o.bw bH.o cy);clear bV bE
 go_region_held3(λw'=>w'.cell? ⟨sb,0,U⟩=G (I J s.clock)/\w'.cell? ⟨sb,4,U⟩=G (X (G ⟨a.mw,0,U⟩))/\w'.cell? ⟨qb,1,U⟩=G (I J tx)/\w'.cell? ⟨qb,2,U⟩=G (I J aS)/\w'.cell? ⟨qb,3,U⟩=G (I J st))
  (first|exact jz ((b1.cv n1 _).cv n1 _) ((bq.cv n2 _).cv n2 _)|exact jz (b1.cv n1 _) (bq.cv n2 _)|exact jz b1 bq|exact jz re.o.aW HQ.o)
  (first
    |(go_at_call 184;refine(HC.o _ (re.o.aR (aU wz))).mono ?_;rintro e wa ⟨A',n',c',l',hT,hF,rfl,hs⟩
      obtain⟨jE,j3⟩:=HU.o _ _ (re.o.aR (aU wz)) _ _ _ _ hT hF hs;have b1:=jE.aW;have bq:=HQ.o.drew.ch j3.ch Uh.o;have DE:=gN.o.drew.ch j3.ch K6.o;have rf:=bH.o.drew.ch j3.ch xn.o;have⟨z0,z1⟩:=vS rf;have f0:=rf.frozen 0;have f1:=rf.frozen 1))
 all_goals
  have Fv:=O (jE.bw DE cy);have PM:=O (jE.bw rf cy);have cN:=O jE;have xr:=O j3;have xt:=O (show aX ((wa.setCell ⟨qb+1+1,1,U⟩ (I J ST)).setCell ⟨qb+1+1,0,U⟩ (I J CO)) (qb+1+1) 66 #[I J CO,I J ST,V ⟨#[]⟩,Y false]from(rf.bm 1 _).bm 0 _);have ki:=O (show aX ((wa.setCell ⟨qb+1+1,1,U⟩ (I J ST)).setCell ⟨qb+1+1,0,U⟩ (I J CO)) (qb+1) 66 #[I J 0,I J 0,V ⟨#[]⟩,Y false]from(DE.cv n3 _).cv n3 _);have K7:=O (show Ch (λk=>k=qb+1+1) wa ((wa.setCell ⟨qb+1+1,1,U⟩ (I J ST)).setCell ⟨qb+1+1,0,U⟩ (I J CO))from((Ch.r (λk=>k=qb+1+1) wa).setCell (p:=⟨qb+1+1,1,U⟩) (.inl rfl) _).setCell (p:=⟨qb+1+1,0,U⟩) (.inl rfl) _);clear jE j3 b1 bq DE rf z0 z1 f0 f1 hT hF hs;generalize((wa.setCell ⟨qb+1+1,1,U⟩ (I J ST)).setCell ⟨qb+1+1,0,U⟩ (I J CO))=wS at *;have⟨z0,z1,z2,z3⟩:=eW xt.o;have zl:=xt.o.lt;have⟨y0,y1,y2,y3⟩:=eW ki.o;have yl:=ki.o.lt;have f0:=ki.o.frozen 0;have f1:=ki.o.frozen 1;have f2:=ki.o.frozen 2;have f3:=ki.o.frozen 3;go_wp2_with fail;change bodyPost _ _ _ _ _ (cI wS (qb+1) (gX ST CO));have HY:=O (bU ki.o (gX ST CO));have cK:=O (bX wS (qb+1) (gX ST CO));generalize cI wS (qb+1) (gX ST CO)=wE at *;have⟨g0,g1,g2,g3⟩:=eW HY.o;refine aE (v:=dU (gX ST CO)) (by simp[results,results113,go_sem,g0,g1,g2,g3]) rfl ⟨rfl,_,cN.o.ch (Ch.trans (K7.o.mono (au:=λk=>k=qb+1\/k=qb+1+1) (λk hk=>.inr hk)) cK.o (λk hk=>.inl (.inl hk))) ?_,?_⟩
  ·rintro g hg (e|e)
   ·subst e;exact Fv.o hg
   ·subst e;exact PM.o hg
  ·exact((xr.o.head ((HN.o:M w wz).drew)).tail K7.o (λk hk=>by have:=dp.o;omega)).tail cK.o (λk hk=>by have:=dp.o;omega)
end
theorem kG.set{w w':aw}{b n m:Nat}{K:ByteArray}{f:Int->Option cG}{W:Int->Value}{S:Nat->Prop}(h:kG w b n K f W)(tx:Int)(v:Value)(x:cG)
 (hm:cT w' b m mK (cQ (λt=>(f t).map λx=>gH x (W t)) tx (G (gH x v)))) (fI:w'.ownsRow 0 203 3 v (ft x.wr) (qG K x.wr)) (hC:Ch S w w') (hS: ∀t,t≠tx->∀g,(W t).ownBlock=G g->¬S g)
 (hv: ∀g,v.ownBlock=G g->(W tx).ownBlock=G g\/w.heap.size<=g):kG w' b m K (cQ f tx (G x)) (λt=>if t=tx then v else W t):=by
 refine⟨?_,λt=>?_,λt ht=>?_,λt t' g eQ hg uH=>?_⟩
 ·have e:(λt=>(cQ f tx (G x) t).map λx=>gH x (if t=tx then v else W t))=cQ (λt=>(f t).map λx=>gH x (W t)) tx (G (gH x v)):=by
   funext t
   by_cases e:t=tx
   ·subst e;rw[bD,bD,if_pos rfl];rfl
   ·rw[bP _ _ e,bP _ _ e,if_neg e]
  rw[e];exact hm
 ·by_cases e:t=tx
  ·subst e;rw[bD,if_pos rfl];exact fI
  ·rw[bP _ _ e,if_neg e];exact bg (h.row t) hC (hS t e)
 ·by_cases e:t=tx
  ·subst e;rw[bD]at ht;cases ht
  ·rw[bP _ _ e]at ht;rw[if_neg e];exact h.tg t ht
 ·have key: ∀t,t≠tx->(W t).ownBlock=G g->v.ownBlock=G g->False:=λt ht h1 h2=>by
   rcases hv g h2 with h3|h3
   ·exact h.apart t tx g ht h1 h3
   ·have:=((h.row t).lt g h1).2;omega
  by_cases e:t=tx
  ·rw[if_pos e]at hg;rw[if_neg (λe'=>eQ (e.trans e'.symm))]at uH;exact key t' (λe'=>eQ (e.trans e'.symm)) uH hg
  ·rw[if_neg e]at hg;by_cases e':t'=tx
   ·rw[if_pos e']at uH;exact key t e hg uH
   ·rw[if_neg e']at uH;exact h.apart t t' g eQ hg uH
theorem kG.del{w w':aw}{b n:Nat}{K:ByteArray}{f:Int->Option cG}{W:Int->Value}(h:kG w b n K f W)(tx:Int)
 (hm:cT w' b n mK (cQ (λt=>(f t).map λx=>gH x (W t)) tx U)) (hC:Ch (λk=>k=b) w w'):kG w' b n K (cQ f tx U) (λt=>if t=tx then Hh else W t):=by
 refine⟨?_,λt=>?_,λt ht=>?_,λt t' g eQ hg uH=>?_⟩
 ·have e:(λt=>(cQ f tx U t).map λx=>gH x (if t=tx then Hh else W t))=cQ (λt=>(f t).map λx=>gH x (W t)) tx U:=by
   funext t
   by_cases e:t=tx
   ·subst e;rw[bD,bD];rfl
   ·rw[bP _ _ e,bP _ _ e,if_neg e]
  rw[e];exact hm
 ·by_cases e:t=tx
  ·subst e;rw[bD,if_pos rfl];exact World.ownsRow_nil _ _ _ _
  ·rw[bP _ _ e,if_neg e];exact bg (h.row t) hC (λg hg hb=>h.map.kF (h.row t) (by rw[hg,hb]))
 ·by_cases e:t=tx
  ·rw[if_pos e]
  ·rw[bP _ _ e]at ht;rw[if_neg e];exact h.tg t ht
 ·by_cases e:t=tx
  ·rw[if_pos e]at hg;cases hg
  ·rw[if_neg e]at hg;by_cases e':t'=tx
   ·rw[if_pos e']at uH;cases uH
   ·rw[if_neg e']at uH;exact h.apart t t' g eQ hg uH
section
variable{w w':aw}{sb aZ m:Nat}{K:ByteArray}{s:dm}{a:ia}{c:bQ}
theorem dH.yX(h:dH w sb K aZ s a){f':Int->Option cG}{W':Int->Value}(hl:kG w' a.bR m K f' W')(hs:Sub (sI a.bR a.W) (sI a.bR W') w w')(hk: ∀t x,f' t=G x->0<=t/\t<16)(hm:aZ<=m):
 dH w' sb K m {s with br:=f'} {a with W:=W'}/\Sub (a.F sb) (({a with W:=W'}:ia).F sb) w w':=by
 have hP:({a with W:=W'}:ia).P sb=th (a.P sb) 4 (sI a.bR W'):=by
  funext j
  rcases j with _|_|_|_|_|_|j<;>rfl
 have xj:Sub (a.P sb 4) (sI a.bR W') w w':=hs;have cv: ∀j,j≠4->∀g,a.P sb j g->¬(sI a.bR a.W) g:=λj hj g hg=>h.iu.cv (i:=4) hj g hg;obtain⟨D,cs,hc,hr⟩:=h.KV;obtain⟨L,hT,hF⟩:=h.tN;refine⟨⟨h.aW.ch hs.ch (cv 0 (by decide) sb rfl),⟨D,cs,(hc.ch hs.ch (cv 1 (by decide))).mono hm,⟨hr.uE,hr.floor,hr.last,aO hr.fx hm,hr.CU,hr.val⟩⟩,h.wD.ch hs.ch (cv 2 (by decide)),⟨L,hT.ch hs.ch (cv 3 (by decide)),hF⟩,hl,(h.AW.ch hs.ch (cv 5 (by decide) _ rfl)).mono hm,?_,⟨h.dR.c0,h.dR.c1,h.dR.m0,h.dR.m1,h.dR.rk,h.dR.ok,h.dR.nd,hk⟩,h.key⟩,?_⟩
 ·rw[hP];exact h.iu.cQ 4 xj hl.fC
 ·unfold ia.F;rw[hP];exact eG.sub 4 xj
theorem dH.pY(h:dH w sb K aZ s a){F':Nat->Prop}{PR:List Int}(hl:iW w' a.DD K F' PR)(hs:Sub a.Fl F' w w')(hk: ∀t∈PR,0<=t/\t<16)(hnd:PR.Nodup)(hm:aZ<=m):
 dH w' sb K m {s with own:=PR} {a with Fl:=F'}/\Sub (a.F sb) (({a with Fl:=F'}:ia).F sb) w w':=by
 have hP:({a with Fl:=F'}:ia).P sb=th (a.P sb) 2 (F'):=by
  funext j
  rcases j with _|_|_|_|_|_|j<;>rfl
 have xj:Sub (a.P sb 2) (F') w w':=hs;have cv: ∀j,j≠2->∀g,a.P sb j g->¬(a.Fl) g:=λj hj g hg=>h.iu.cv (i:=2) hj g hg;obtain⟨D,cs,hc,hr⟩:=h.KV;obtain⟨L,hT,hF⟩:=h.tN;refine⟨⟨h.aW.ch hs.ch (cv 0 (by decide) sb rfl),⟨D,cs,(hc.ch hs.ch (cv 1 (by decide))).mono hm,⟨hr.uE,hr.floor,hr.last,aO hr.fx hm,hr.CU,hr.val⟩⟩,hl,⟨L,hT.ch hs.ch (cv 3 (by decide)),hF⟩,(h.gp.ch hs.ch (cv 4 (by decide))).mono hm,(h.AW.ch hs.ch (cv 5 (by decide) _ rfl)).mono hm,?_,⟨h.dR.c0,h.dR.c1,h.dR.m0,h.dR.m1,h.dR.rk,hk,hnd,h.dR.lk⟩,h.key⟩,?_⟩
 ·rw[hP];exact h.iu.cQ 2 xj hl.fC
 ·unfold ia.F;rw[hP];exact eG.sub 2 xj
theorem dH.PS(h:dH w sb K aZ s a){d':Int->Option Int}(hl:cT w' a.mL m (I J 0) (λt=>(d' t).map (I J)))(hC:Ch (λg=>g=a.mL) w w')(hm:aZ<=m):
 dH w' sb K m {s with cr:=d'} a/\Sub (a.F sb) (a.F sb) w w':=by
 have hs:Sub (λg=>g=a.mL) (λg=>g=a.mL) w w':=⟨hC,λg hg=>.inl hg⟩;obtain⟨D,cs,hc,hr⟩:=h.KV;obtain⟨L,hT,hF⟩:=h.tN;have cv: ∀j,j≠5->∀g,a.P sb j g->¬(g=a.mL):=λj hj g hg=>h.iu.cv (i:=5) hj g hg;refine⟨⟨h.aW.ch hs.ch (cv 0 (by decide) sb rfl),⟨D,cs,(hc.ch hs.ch (cv 1 (by decide))).mono hm,⟨hr.uE,hr.floor,hr.last,aO hr.fx hm,hr.CU,hr.val⟩⟩,h.wD.ch hs.ch (cv 2 (by decide)),⟨L,hT.ch hs.ch (cv 3 (by decide)),hF⟩,(h.gp.ch hs.ch (cv 4 (by decide))).mono hm,hl,h.iu.mono hC.size,⟨h.dR.c0,h.dR.c1,h.dR.m0,h.dR.m1,h.dR.rk,h.dR.ok,h.dR.nd,h.dR.lk⟩,h.key⟩,⟨hC.mono (λg hg=>⟨5,hg⟩),λg hg=>.inl hg⟩⟩
theorem dH.Fw(h:dH w sb K aZ s a)(ck mo:Int)(hb:aX w' sb 118 (SD {s with clock:=ck,dw:=mo} a))(hC:Ch (λg=>g=sb) w w')(h0:0<=ck)(h1:ck<=1099511627776)(h2:s.dw<=mo)(h3:mo<=1099511627776):
 dH w' sb K aZ {s with clock:=ck,dw:=mo} a/\Sub (a.F sb) (a.F sb) w w':=by
 obtain⟨D,cs,hc,hr⟩:=h.KV;obtain⟨L,hT,hF⟩:=h.tN;have cv: ∀j,j≠0->∀g,a.P sb j g->¬(g=sb):=λj hj g hg=>h.iu.cv (i:=0) hj g hg;refine⟨⟨hb,⟨D,cs,hc.ch hC (cv 1 (by decide)),⟨hr.uE,hr.floor,Int.le_trans hr.last h2,hr.fx,hr.CU,hr.val⟩⟩,h.wD.ch hC (cv 2 (by decide)),⟨L,hT.ch hC (cv 3 (by decide)),hF⟩,h.gp.ch hC (cv 4 (by decide)),h.AW.ch hC (cv 5 (by decide) _ rfl),h.iu.mono hC.size,⟨h0,h1,Int.le_trans h.dR.m0 h2,h3,h.dR.rk,h.dR.ok,h.dR.nd,h.dR.lk⟩,h.key⟩,⟨hC.mono (λg hg=>⟨0,hg⟩),λg hg=>.inl hg⟩⟩
theorem dH.PT(h:dH w sb K aZ s a){D':DataW Value}{V':List UInt8->Value}{E6:Cells.CS}{XB:kB}(hl:Cells.CM w' 0 a.cb a.mb m D' V' E6)(hs:Sub (Cells.ox a.cb a.mb a.ah) (Cells.ox a.cb a.mb V') w w')(Sk:DC K E6 {s with cur:=XB} m)(hm:aZ<=m):
 dH w' sb K m {s with cur:=XB} {a with ah:=V'}/\Sub (a.F sb) (({a with ah:=V'}:ia).F sb) w w':=by
 have hP:({a with ah:=V'}:ia).P sb=th (a.P sb) 1 (Cells.ox a.cb a.mb V'):=by
  funext j
  rcases j with _|_|_|_|_|_|j<;>rfl
 have xj:Sub (a.P sb 1) (Cells.ox a.cb a.mb V') w w':=hs;have cv: ∀j,j≠1->∀g,a.P sb j g->¬(Cells.ox a.cb a.mb a.ah) g:=λj hj g hg=>h.iu.cv (i:=1) hj g hg;obtain⟨L,hT,hF⟩:=h.tN;refine⟨⟨h.aW.ch hs.ch (cv 0 (by decide) sb rfl),⟨D',E6,hl,Sk⟩,h.wD.ch hs.ch (cv 2 (by decide)),⟨L,hT.ch hs.ch (cv 3 (by decide)),hF⟩,(h.gp.ch hs.ch (cv 4 (by decide))).mono hm,(h.AW.ch hs.ch (cv 5 (by decide) _ rfl)).mono hm,?_,⟨h.dR.c0,h.dR.c1,h.dR.m0,h.dR.m1,h.dR.rk,h.dR.ok,h.dR.nd,h.dR.lk⟩,h.key⟩,?_⟩
 ·rw[hP];exact h.iu.cQ 1 xj (λg hg=>(hl.low hg).2)
 ·unfold ia.F;rw[hP];exact eG.sub 1 xj
end
def ZS(c d:bQ):Bool:=(c.kind==d.kind)&&((c.tx==d.tx)&&((c.aS==d.aS)&&((c.aY==d.aY)&&((c.op==d.op)&&((c.key.toList==d.key.toList)&&((c.val.toList==d.val.toList)&&((c.mode==d.mode)&&(c.yes==d.yes))))))))
theorem PU(c d:bQ):ZS c d=decide (c=d):=by
 obtain⟨a1,a2,a3,a4,a5,a6,a7,a8,a9⟩:=c;obtain⟨b1,b2,b3,b4,b5,b6,b7,b8,b9⟩:=d;rw[Bool.eq_iff_iff];simp[ZS,yu]
theorem PV(c d:bQ)(w:aw):(binOp .neq 60 (cn c) (cn d)).run av w= .ok (Y (!decide (c=d))) w:=by
 have h60:=underlying60;by_cases e:c=d
 ·subst e;simp[go_sem]
 ·have e':ZS c d=false:=by rw[PU];simpa using e
  simp only[e,decide_false,Bool.not_false];unfold ZS at e';simp[go_sem]
  repeat' split
  all_goals first|rfl|simp_all
theorem cT.eT{w:aw}{b n:Nat}{K:ByteArray}{f:Int->Option cG}{W:Int->Value}(h:kG w b n K f W){x:Int}(hx:0<=x/\x<16):
 (Instr.lookup 115 (.map (G b)) (I J x) true).run av w= .ok (aB #[((f x).map λy=>gH y (W x)).getD mK,Y (f x).isSome]) w:=by
 have:=h.map.look_ok underlying115 (yQ w) (x:=x) (by omega) (by omega);rw[this];simp
section
variable{w w':aw}{sb aZ:Nat}{K:ByteArray}{s:dm}{a:ia}{c:bQ}
theorem kY(h:dH w sb K aZ s a)(hc:eN c):ax av 114 #[X (G ⟨sb,0,U⟩),cn c] w λe w'=>e=ay (I J (iE s c))/\M w w':=by
 have h1:=hc.tx;obtain⟨kd,tx,aS,st,op,key,val,mode,yes⟩:=c;dsimp only at *;have de:=h.aW.lt;obtain⟨E,hE⟩:=bG (iE s ⟨kd,tx,aS,st,op,key,val,mode,yes⟩);rw[hE];unfold iE at hE;dsimp only at hE;have tj:=O (λw' (hN:M w w')=>jl (h.aR hN) h1 aS);cases hl:s.br tx with
 |none=>
  rw[hl]at hE;dsimp only at hE;cases iO:gM s tx aS
  all_goals
   rw[iO]at hE tj
   first|obtain rfl:E=0:=hE.symm|obtain rfl:E=9:=hE.symm
   clear iO;have jA:=O (λw' (hN:M w w')=>(show w'.cell? ⟨sb,5,U⟩=G (.map (G a.bR))/\(Instr.lookup 115 (.map (G a.bR)) (I J tx) true).run av w'= .ok (aB #[aC #[I J 0,I J 0,I J 0,I J 0,I J 0,I J 0,V ⟨#[]⟩,V ⟨#[]⟩,I J 0,Y false,T U 0 0],Y false]) w' from by
    refine⟨(h.aR hN).cells.2.2.2.2.2.1,?_⟩;have:=cT.eT (h.aR hN).gp h1;rw[hl]at this;exact this))
   clear hl h hc;go_enter func114,ntmps114;go_upto_region 1 with(fail);obtain⟨wz,bV⟩:=bG (w.alloc (az #[I J kd,I J tx,I J aS,I J st,I J op,V key,V val,I J mode,Y yes] 60));have HN:=kb bV;have HQ:=O (show aX wz w.heap.size 60 (bN ⟨kd,tx,aS,st,op,key,val,mode,yes⟩)from bV▸aX.new w 60 _);obtain⟨qb,bE⟩:=bG (w.heap.size);rw[bE]at HQ de
   try rw[bV]
   try simp only[bE]
   have HS:=O (λw' (hN:M wz w')=>(show w'.cell? ⟨sb,5,U⟩=G (.map (G a.bR))/\(Instr.lookup 115 (.map (G a.bR)) (I J tx) true).run av w'= .ok (aB #[aC #[I J 0,I J 0,I J 0,I J 0,I J 0,I J 0,V ⟨#[]⟩,V ⟨#[]⟩,I J 0,Y false,T U 0 0],Y false]) w'/\w'.cell? ⟨qb,1,U⟩=G (I J tx)from
    ⟨(jA.o w' (HN.o.t hN)).1,(jA.o w' (HN.o.t hN)).2,(HQ.o.ch hN (λh=>h)).c 1⟩))
   clear bV bE
   go_region_held3(λw'=>w'.cell? ⟨sb,5,U⟩=G (.map (G a.bR))/\(Instr.lookup 115 (.map (G a.bR)) (I J tx) true).run av w'= .ok (aB #[aC #[I J 0,I J 0,I J 0,I J 0,I J 0,I J 0,V ⟨#[]⟩,V ⟨#[]⟩,I J 0,Y false,T U 0 0],Y false]) w'/\w'.cell? ⟨qb,1,U⟩=G (I J tx))
    (first|exact HS.o _ (aU wz)|exact HS.o _ ((aU wz).alloc _))
    (fail)
   all_goals
    obtain⟨wq,PW⟩:=bG ((wz.alloc (az #[I J 0,I J 0,I J 0,I J 0,I J 0,I J 0,V ⟨#[]⟩,V ⟨#[]⟩,I J 0,Y false,T U 0 0] 200)).drew);have HL:=O (show aX wq wz.heap.size 200 #[I J 0,I J 0,I J 0,I J 0,I J 0,I J 0,V ⟨#[]⟩,V ⟨#[]⟩,I J 0,Y false,T U 0 0]from PW▸(aX.new wz 200 _).drew);have jF:=O (show M wz wq from PW▸((Ch.r _ wz).alloc _).drew);obtain⟨lb,AZ⟩:=bG (wz.heap.size);rw[AZ]at HL
    try rw[PW]
    try simp only[AZ]
    have eC:=O (HQ.o.ch jF.o (λh=>h));have z1:=eC.o.c 1;have z2:=eC.o.c 2;have z4:=eC.o.c 4;have zl:=eC.o.lt;have l0:=HL.o.c 0;have l5:=HL.o.c 5;have ll:=HL.o.lt;have j4:=O (HN.o.t jF.o);clear PW AZ;go_wp2_with(go_at_call 178;refine(tj.o _ j4.o).mono ?_;rintro e w3 ⟨rfl,rfl⟩);go_ret;exact⟨rfl,j4.o⟩
 |some x=>
  obtain⟨xa,⟨lk,lt,la,ls,lo,DF,DG,lm,ly⟩,xw⟩:=x;rw[hl]at hE;dsimp only at hE;obtain⟨WA,wc,hW⟩:=bz (h.gp.row tx);rw[hl]at hW;dsimp only at hW;generalize ft xw=wn at hW;have HNE:=O (λw'=>PV ⟨kd,tx,aS,st,op,key,val,mode,yes⟩ ⟨lk,lt,la,ls,lo,DF,DG,lm,ly⟩ w');obtain⟨D,hD⟩:=bG (decide ((⟨kd,tx,aS,st,op,key,val,mode,yes⟩:bQ)=⟨lk,lt,la,ls,lo,DF,DG,lm,ly⟩));rw[hD]at HNE;have HD:=O hD;have Kz:=O hE;clear hD hE;have jA:=O (λw' (hN:M w w')=>(show w'.cell? ⟨sb,5,U⟩=G (.map (G a.bR))/\(Instr.lookup 115 (.map (G a.bR)) (I J tx) true).run av w'= .ok (aB #[aC #[I J xa,I J lk,I J lt,I J la,I J ls,I J lo,V DF,V DG,I J lm,Y ly,T WA wn wc],Y true]) w' from by
   refine⟨(h.aR hN).cells.2.2.2.2.2.1,?_⟩;have:=cT.eT (h.aR hN).gp h1;rw[hl,hW]at this;exact this))
  clear hl h hc hW;go_enter func114,ntmps114;go_upto_region 1 with(fail);obtain⟨wz,bV⟩:=bG (w.alloc (az #[I J kd,I J tx,I J aS,I J st,I J op,V key,V val,I J mode,Y yes] 60));have HN:=kb bV;have HQ:=O (show aX wz w.heap.size 60 (bN ⟨kd,tx,aS,st,op,key,val,mode,yes⟩)from bV▸aX.new w 60 _);obtain⟨qb,bE⟩:=bG (w.heap.size);rw[bE]at HQ de
  try rw[bV]
  try simp only[bE]
  have HS:=O (λw' (hN:M wz w')=>(show w'.cell? ⟨sb,5,U⟩=G (.map (G a.bR))/\(Instr.lookup 115 (.map (G a.bR)) (I J tx) true).run av w'= .ok (aB #[aC #[I J xa,I J lk,I J lt,I J la,I J ls,I J lo,V DF,V DG,I J lm,Y ly,T WA wn wc],Y true]) w'/\w'.cell? ⟨qb,1,U⟩=G (I J tx)from
   ⟨(jA.o w' (HN.o.t hN)).1,(jA.o w' (HN.o.t hN)).2,(HQ.o.ch hN (λh=>h)).c 1⟩))
  clear bV bE
  go_region_held3(λw'=>w'.cell? ⟨sb,5,U⟩=G (.map (G a.bR))/\(Instr.lookup 115 (.map (G a.bR)) (I J tx) true).run av w'= .ok (aB #[aC #[I J xa,I J lk,I J lt,I J la,I J ls,I J lo,V DF,V DG,I J lm,Y ly,T WA wn wc],Y true]) w'/\w'.cell? ⟨qb,1,U⟩=G (I J tx))
   (first|exact HS.o _ (aU wz)|exact HS.o _ ((aU wz).alloc _))
   (fail)
  all_goals
   obtain⟨wq,PW⟩:=bG ((wz.alloc (az #[I J xa,I J lk,I J lt,I J la,I J ls,I J lo,V DF,V DG,I J lm,Y ly,T WA wn wc] 200)).drew);have HL:=O (show aX wq wz.heap.size 200 #[I J xa,I J lk,I J lt,I J la,I J ls,I J lo,V DF,V DG,I J lm,Y ly,T WA wn wc]from PW▸(aX.new wz 200 _).drew);have jF:=O (show M wz wq from PW▸((Ch.r _ wz).alloc _).drew);obtain⟨lb,AZ⟩:=bG (wz.heap.size);rw[AZ]at HL
   try rw[PW]
   try simp only[AZ]
   have eC:=O (HQ.o.ch jF.o (λh=>h));have z1:=eC.o.c 1;have z2:=eC.o.c 2;have z4:=eC.o.c 4;have zl:=eC.o.lt;have l0:=HL.o.c 0;have l5:=HL.o.c 5;have ll:=HL.o.lt;have j4:=O (HN.o.t jF.o);clear PW AZ;have q0:=eC.o.c 0;have q3:=eC.o.c 3;have q5:=eC.o.c 5;have q6:=eC.o.c 6;have q7:=eC.o.c 7;have q8:=eC.o.c 8;have m1:=HL.o.c 1;have m2:=HL.o.c 2;have m3:=HL.o.c 3;have m4:=HL.o.c 4;have m6:=HL.o.c 6;have m7:=HL.o.c 7;have m8:=HL.o.c 8;have m9:=HL.o.c 9;cases iO:gM s tx aS
   ·rw[iO]at tj;by_cases e1:aS<xa
    ·have u1:decide (aS<xa)=true:=decide_eq_true e1;obtain rfl:E=9:=by rw[<-Kz.o];rw[if_pos (.inr e1)]
     clear e1 iO;go_wp2_with(go_at_call 178;refine(tj.o _ j4.o).mono ?_;rintro e w3 ⟨rfl,rfl⟩);go_ret;exact⟨rfl,j4.o⟩
    have u1:decide (aS<xa)=false:=decide_eq_false e1;by_cases e2:xa<aS
    ·have u2:decide (xa<aS)=true:=decide_eq_true e2;obtain rfl:E=8:=by rw[<-Kz.o];rw[if_neg (by rw[iO];simp;omega),if_pos e2]
     clear e1 e2 iO;go_wp2_with(go_at_call 178;refine(tj.o _ j4.o).mono ?_;rintro e w3 ⟨rfl,rfl⟩);go_ret;exact⟨rfl,j4.o⟩
    have u2:decide (xa<aS)=false:=decide_eq_false e2;by_cases e3:op<lo
    ·have u3:decide (op<lo)=true:=decide_eq_true e3;obtain rfl:E=9:=by rw[<-Kz.o];rw[if_neg (by rw[iO];simp;omega),if_neg e2,if_pos (.inl e3)]
     clear e1 e2 e3 iO;go_wp2_with(go_at_call 178;refine(tj.o _ j4.o).mono ?_;rintro e w3 ⟨rfl,rfl⟩);go_ret;exact⟨rfl,j4.o⟩
    have u3:decide (op<lo)=false:=decide_eq_false e3;by_cases e4:op=lo
    ·subst e4;cases D
     ·have eQ:=of_decide_eq_false HD.o;obtain rfl:E=9:=by rw[<-Kz.o];rw[if_neg (by rw[iO];simp;omega),if_neg e2,if_pos (.inr ⟨rfl,eQ⟩)]
      have K8:=O eQ;clear e1 e2 e3 iO eQ;go_wp2_with(go_at_call 178;refine(tj.o _ j4.o).mono ?_;rintro e w3 ⟨rfl,rfl⟩)
      all_goals first
       |(go_ret;exact⟨rfl,j4.o⟩)
       |exact absurd rfl K8.o
       |(exfalso;exact K8.o (by rw[bQ.mk.injEq];refine⟨?_,?_,?_,?_,?_,?_,?_,?_,?_⟩<;>first|rfl|assumption|exact yu.1 (by assumption)|(cases yes<;>cases ly<;>simp_all)))
     ·have heq:=of_decide_eq_true HD.o;obtain rfl:E=0:=by rw[<-Kz.o];rw[if_neg (by rw[iO];simp;omega),if_neg e2,if_neg (by rw[heq];simp)]
      injection heq with g1 g2 g3 g4 g5 g6 g7 g8 g9;subst g1 g2 g3 g4 g6 g7 g8 g9;clear e1 e2 e3 iO;go_wp2_with(go_at_call 178;refine(tj.o _ j4.o).mono ?_;rintro e w3 ⟨rfl,rfl⟩);go_ret;exact⟨rfl,j4.o⟩
    ·have u4:(op==lo)=false:=by rw[beq_eq_false_iff_ne];exact e4
     obtain rfl:E=0:=by rw[<-Kz.o];rw[if_neg (by rw[iO];simp;omega),if_neg e2,if_neg (by simp[e4];omega)]
     clear e1 e2 e3 e4 iO;go_wp2_with(go_at_call 178;refine(tj.o _ j4.o).mono ?_;rintro e w3 ⟨rfl,rfl⟩);go_ret;exact⟨rfl,j4.o⟩
   ·rw[iO]at tj;obtain rfl:E=9:=by rw[<-Kz.o];rw[if_pos (.inl iO)]
    clear iO;go_wp2_with(go_at_call 178;refine(tj.o _ j4.o).mono ?_;rintro e w3 ⟨rfl,rfl⟩);go_ret;exact⟨rfl,j4.o⟩
end
theorem cT.xu{w:aw}{b n:Nat}{K:ByteArray}{f:Int->Option cG}{W:Int->Value}(h:kG w b n K f W){x:Int}(hx:0<=x/\x<16):
 (Instr.lookup 115 (.map (G b)) (I J x) false).run av w= .ok (((f x).map λy=>gH y (W x)).getD mK) w:=by
 exact h.map.look underlying115 (yQ w) (x:=x) (by omega) (by omega)
theorem xv{l:List Int}{o:Int}(h:l.Nodup):(mf l o).Nodup:=by
 unfold mf;split
 ·exact h
 ·rename_i hn;rw[List.nodup_append];exact⟨h,by simp,λa ha b hb=>by
   simp at hb;subst hb;exact λe=>hn (e▸ha)⟩
theorem Fx{l:List Int}{o x:Int}(h:x∈mf l o):x∈l\/x=o:=by
 unfold mf at h;split at h
 ·exact .inl h
 ·rcases List.mem_append.1 h with h|h
  ·exact .inl h
  ·exact .inr (by simpa using h)
theorem A0{l:List Int}(h:l.Nodup)(hb: ∀t∈l,0<=t/\t<16):l.length<=16:=by
 have hs:(l.mergeSort λx y=>decide (x<=y)).Pairwise (· <= ·):=by
  have:=List.pairwise_mergeSort (le:=λx y:Int=>decide (x<=y)) (λa b c Dy hbc=>by simp at *;omega) (λa b=>by simp;omega) l;exact this.imp (λh=>by simpa using h)
 have hn:(l.mergeSort λx y=>decide (x<=y)).Nodup:=(List.mergeSort_perm l _).nodup_iff.2 h;have hlt: ∀(i:Nat) (x:Int),(l.mergeSort λx y=>decide (x<=y))[i]?=G x->(i:Int)<=x:=by
  intro i;induction i with
  |zero=>intro x hx;exact(hb x (List.mem_mergeSort.1 (List.mem_of_getElem? hx))).1
  |succ i ih=>
   intro x hx;have hi:=bf hx;obtain⟨y,hy⟩:=bh (L:=l.mergeSort λx y=>decide (x<=y)) (i:=i) (by omega);have h1:=ih y hy;have h2:=List.pairwise_iff_getElem.1 hs i (i+1) (by omega) hi (Nat.lt_succ_self i);have h3:=List.pairwise_iff_getElem.1 hn i (i+1) (by omega) hi (Nat.lt_succ_self i);rw[List.getElem?_eq_getElem (by omega)]at hy;rw[List.getElem?_eq_getElem hi]at hx;injection hx with hx;injection hy with hy;rw[hx,hy]at h2 h3;omega
 rcases Nat.lt_or_ge 16 l.length with hl|hl
 ·obtain⟨x,hx⟩:=bh (L:=l.mergeSort λx y=>decide (x<=y)) (i:=16) (by rw[List.length_mergeSort];exact hl);have h1:=hlt 16 x hx;have h2:=(hb x (List.mem_mergeSort.1 (List.mem_of_getElem? hx))).2;omega
 ·exact hl
theorem jm{w:aw}{sb qb:Nat}{s:dm}{a:ia}{c:bQ}(b1:aX w sb 118 (SD s a))(b2:aX w qb 60 (bN c)):
 w.cell? ⟨sb,3,U⟩=G (X (G ⟨a.DD,0,U⟩))/\w.cell? ⟨sb,5,U⟩=G (.map (G a.bR))/\w.cell? ⟨qb,1,U⟩=G (I J c.tx)/\w.cell? ⟨qb,2,U⟩=G (I J c.aS)/\w.cell? ⟨qb,5,U⟩=G (V c.key)/\w.cell? ⟨qb,7,U⟩=G (I J c.mode):=
 ⟨b1.c 3,b1.c 5,b2.c 1,b2.c 2,b2.c 5,b2.c 7⟩
def setLast(w:aw)(lb:Nat)(c:bQ):aw:=
 ((((((((w.setCell ⟨lb,1,U⟩ (I J c.kind)).setCell ⟨lb,2,U⟩ (I J c.tx)).setCell ⟨lb,3,U⟩ (I J c.aS)).setCell ⟨lb,4,U⟩ (I J c.aY)).setCell ⟨lb,5,U⟩ (I J c.op)).setCell ⟨lb,6,U⟩ (V c.key)).setCell ⟨lb,7,U⟩ (V c.val)).setCell ⟨lb,8,U⟩ (I J c.mode)).setCell ⟨lb,9,U⟩ (Y c.yes)
theorem pZ(w:aw)(lb:Nat)(c:bQ):Ch (λk=>k=lb) w (setLast w lb c):=
 (((((((((Ch.r (λk=>k=lb) w).setCell (p:=⟨lb,1,U⟩) (.inl rfl) _).setCell (p:=⟨lb,2,U⟩) (.inl rfl) _).setCell (p:=⟨lb,3,U⟩) (.inl rfl) _).setCell (p:=⟨lb,4,U⟩) (.inl rfl) _).setCell (p:=⟨lb,5,U⟩) (.inl rfl) _).setCell (p:=⟨lb,6,U⟩) (.inl rfl) _).setCell (p:=⟨lb,7,U⟩) (.inl rfl) _).setCell (p:=⟨lb,8,U⟩) (.inl rfl) _).setCell (p:=⟨lb,9,U⟩) (.inl rfl) _
theorem bu{w:aw}{g:Nat}{t:TypeId}{cs E6:Array Value}(h:aX w g t cs)(e:cs=E6):aX w g t E6:=e▸h
theorem mO{w:aw}{lb:Nat}{t:TypeId}{x0 x1 x2 x3 x4 x5 x6 x7 x8 x9 v:Value}(h:aX w lb t #[x0,x1,x2,x3,x4,x5,x6,x7,x8,x9,v])(c:bQ):
 aX (setLast w lb c) lb t #[x0,I J c.kind,I J c.tx,I J c.aS,I J c.aY,I J c.op,V c.key,V c.val,I J c.mode,Y c.yes,v]:=
 bu (((((((((h.bm 1 (I J c.kind)).bm 2 (I J c.tx)).bm 3 (I J c.aS)).bm 4 (I J c.aY)).bm 5 (I J c.op)).bm 6 (V c.key)).bm 7 (V c.val)).bm 8 (I J c.mode)).bm 9 (Y c.yes)) (by simp)
section
variable{w w':aw}{sb aZ:Nat}{K:ByteArray}{s:dm}{a:ia}{c:bQ}
def ia.rh(a:ia)(tx:Int)(v:Value):ia:={a with W:=λt=>if t=tx then v else a.W t}
theorem uI{wl w5:aw}(h:dH wl sb K aZ s a)(hC:Ch (λk=>k=a.bR) wl.drew w5){tx:Int}(ht:0<=tx/\tx<16){v:Value}(hv:a.W tx=v){x0:kB}(h0:(match s.br tx with|none=>U|some x=>x.wr)=x0)(x:cG)
 (hm:cT w5 a.bR (aZ+1) mK (cQ (λt=>(s.br t).map λx=>gH x (a.W t)) tx (G (gH x v)))) (hx:x.wr=x0):
 dH w5 sb K (aZ+1) {s with br:=cQ s.br tx (G x)} (a.rh tx v)/\Sub (a.F sb) ((a.rh tx v).F sb) wl.drew w5:=by
 have hd:=h.aR (aU wl);have kZ: ∀t g,(a.W t).ownBlock=G g->¬g=a.bR:=λt g hg e=>by
  subst e;exact hd.gp.map.kF (hd.gp.row t) hg
 refine hd.yX (kG.set hd.gp tx v x hm ?_ hC (λt _ g hg=>kZ t g hg) (λg hg=>.inl (hv▸hg))) ⟨hC.mono (λk hk=>.inl hk),λg hg=>?_⟩ (λt y hy=>?_) (Nat.le_succ _)
 ·have hr:=bg (hd.gp.row tx) hC (kZ tx);rw[hv]at hr;rw[hx, <-h0];cases hl:s.br tx with
  |none=>rw[hl]at hr;exact hr
  |some y=>rw[hl]at hr;exact hr
 ·rcases hg with e|⟨t,e⟩
  ·exact .inl (.inl e)
  ·refine .inl (.inr ⟨t,?_⟩);dsimp only at e;split at e
   ·rename_i e2;subst e2;rw[hv];exact e
   ·exact e
 ·by_cases e:t=tx
  ·rw[e];exact ht
  ·rw[bP _ _ e]at hy;exact h.dR.lk t y hy
theorem Hl(h:dH w sb K aZ s a)(hc:eN c)(hk:c.kind=2)(fT:c.key=K)(cp:aZ<=1000000)(hl:s.br c.tx=U):
 ax av 115 #[X (G ⟨sb,0,U⟩),cn c] w (jQ w sb K (aZ+1) a (kQ s c)):=by
 have h1:=hc.tx;have vU:=hc.mo hk;have XC:=O (show kQ s c=({s with br:=cQ s.br c.tx (G ⟨c.aS,c,U⟩),own:=mf s.own c.tx},cF (qW s.own c.tx))from by
  unfold kQ qW;rw[hl])
 rw[XC.o];obtain⟨kd,tx,aS,st,op,key,val,mode,yes⟩:=c;dsimp only at *;subst vU fT hk;have hW:a.W tx=T U 0 0:=h.gp.tg tx hl;have Fy:=O hW;have HM:=O h;have de:=h.aW.lt;have CW:=O hl;have jA:=O (λw' (hN:M w w')=>(show w'.cell? ⟨sb,5,U⟩=G (.map (G a.bR))/\(Instr.lookup 115 (.map (G a.bR)) (I J tx) false).run av w'= .ok (aC #[I J 0,I J 0,I J 0,I J 0,I J 0,I J 0,V ⟨#[]⟩,V ⟨#[]⟩,I J 0,Y false,T U 0 0]) w' from by
  refine⟨(h.aR hN).cells.2.2.2.2.2.1,?_⟩;have:=cT.xu (h.aR hN).gp h1;rw[hl,hW]at this;exact this))
 have Ba:=O (λw' F' (hL:iW w' a.DD key F' s.own)=>AJ hL h.dR.nd (by have:=A0 h.dR.nd h.dR.ok;omega) h1.1 h.key);obtain⟨RC,Ui⟩:=bG (qW s.own tx);rw[Ui]at Ba;rw[Ui];clear hl h hc hW Ui XC;go_enter func115,ntmps115;go_upto_region 1 with(fail);obtain⟨wz,bV⟩:=bG ((w.alloc (az #[I J 2,I J tx,I J aS,I J st,I J op,V key,V val,I J 2,Y yes] 60)).alloc (az #[I J 0,I J 0,V ⟨#[]⟩,Y false] 66));have HN:=(fZ bV).1;have HQ:=O (show aX wz w.heap.size 60 (bN ⟨2,tx,aS,st,op,key,val,2,yes⟩)from bV▸(aX.new w 60 _).alloc _);have HR:=(fZ bV).2;have fY:wz.heap.size=w.heap.size+1+1:=by rw[<-bV];simp
 obtain⟨qb,bE⟩:=bG (w.heap.size);rw[bE]at HQ HR de fY
 try rw[bV]
 try simp only[bE]
 have dp:=O bE;have HS:=O (λw' (hN:M wz w')=>(show w'.cell? ⟨sb,5,U⟩=G (.map (G a.bR))/\(Instr.lookup 115 (.map (G a.bR)) (I J tx) false).run av w'= .ok (aC #[I J 0,I J 0,I J 0,I J 0,I J 0,I J 0,V ⟨#[]⟩,V ⟨#[]⟩,I J 0,Y false,T U 0 0]) w'/\w'.cell? ⟨qb,1,U⟩=G (I J tx)from
  ⟨(jA.o w' (HN.o.t hN)).1,(jA.o w' (HN.o.t hN)).2,(HQ.o.ch hN (λh=>h)).c 1⟩))
 have ku:=O fY;clear bV bE fY
 go_cut[5] (λv wq=>v=X (G ⟨qb+1+1,0,U⟩)/\M wz wq/\aX wq (qb+1+1) 200 #[I J 0,I J 0,I J 0,I J 0,I J 0,I J 0,V ⟨#[]⟩,V ⟨#[]⟩,I J 0,Y false,T U 0 0])
 case first=>
  go_region_held3(λw'=>w'.cell? ⟨sb,5,U⟩=G (.map (G a.bR))/\(Instr.lookup 115 (.map (G a.bR)) (I J tx) false).run av w'= .ok (aC #[I J 0,I J 0,I J 0,I J 0,I J 0,I J 0,V ⟨#[]⟩,V ⟨#[]⟩,I J 0,Y false,T U 0 0]) w'/\w'.cell? ⟨qb,1,U⟩=G (I J tx))
   (first|exact HS.o _ (aU wz)|exact HS.o _ ((aU wz).alloc _))
   (fail)
  all_goals
   go_wp2_with fail;go_meet;refine⟨by rw[ku.o],((Ch.r _ wz).alloc _).drew,?_⟩;rw[<-ku.o];exact(aX.new wz 200 _).drew
 case rest=>
  obtain⟨rfl,fw,mn⟩:=hcut;have j4:=O fw;have gD:=O (HQ.o.ch fw (λh=>h));have gN:=O (HR.o.ch fw (λh=>h));have kH:=O mn;have iw:=O (HM.o.aR (HN.o.t fw));clear fw mn;have⟨q0,q1,q2,q3,q4⟩:=iP gD.o;have⟨q5,q6,q7,q8⟩:=(show _/\_/\_/\_ from⟨gD.o.c 5,gD.o.c 6,gD.o.c 7,gD.o.c 8⟩);have ql:=gD.o.lt;have lf:=kH.o.frozen;have ll:=kH.o.lt;have⟨l0,l1,l2,l3,l4⟩:=iP kH.o;have⟨l5,l6,l7,l8,l9⟩:=(show _/\_/\_/\_/\_ from⟨kH.o.c 5,kH.o.c 6,kH.o.c 7,kH.o.c 8,kH.o.c 9⟩);have eQ:qb≠qb+1+1:=by omega
  go_wp2_with fail
  go_region
  change Exit.then _ _ _ _ (setLast (wc.setCell ⟨qb+1+1,0,U⟩ (I J aS)) (qb+1+1) ⟨2,tx,aS,st,op,key,val,2,yes⟩).drew;have fJ:=O (show aX (setLast (wc.setCell ⟨qb+1+1,0,U⟩ (I J aS)) (qb+1+1) ⟨2,tx,aS,st,op,key,val,2,yes⟩).drew (qb+1+1) 200 (pS ⟨aS,⟨2,tx,aS,st,op,key,val,2,yes⟩,U⟩ (T U 0 0))from(mO (kH.o.bm 0 (I J aS)) _).drew);have jj:=O (show Ch (λk=>k=qb+1+1) wc (setLast (wc.setCell ⟨qb+1+1,0,U⟩ (I J aS)) (qb+1+1) ⟨2,tx,aS,st,op,key,val,2,yes⟩).drew from(((Ch.r (λk=>k=qb+1+1) wc).setCell (p:=⟨qb+1+1,0,U⟩) (.inl rfl) _).t (pZ _ _ _)).drew);have xn:=O (iw.o.bw kH.o yW);generalize(setLast (wc.setCell ⟨qb+1+1,0,U⟩ (I J aS)) (qb+1+1) ⟨2,tx,aS,st,op,key,val,2,yes⟩).drew=wl at *;have xx:=O (iw.o.ch jj.o (λg hg e=>by subst e;exact xn.o hg));have Bb:=O (gD.o.ch jj.o (by omega));have Fz:=O (gN.o.ch jj.o (by omega));clear q0 q1 q2 q3 q4 q5 q6 q7 q8 ql lf ll l0 l1 l2 l3 l4 l5 l6 l7 l8 l9;go_upto_region 3 with(fail);obtain⟨b3,b5,b1,_⟩:=jm xx.o.aW Bb.o;have⟨l0,l1,l2,l3,l4⟩:=iP fJ.o;have⟨l5,l6,l7,l8,l9⟩:=(show _/\_/\_/\_/\_ from⟨fJ.o.c 5,fJ.o.c 6,fJ.o.c 7,fJ.o.c 8,fJ.o.c 9⟩);have l10:=fJ.o.c 10;obtain⟨w5,lg,lI,kg⟩:=cT.put (xx.o.gp.map.aR (aU wl)) underlying115 (by omega) (x:=tx) (by omega) (by omega) (gH ⟨aS,⟨2,tx,aS,st,op,key,val,2,yes⟩,U⟩ (T U 0 0));have dZ:=O ((Ch.bF kg).mono (au:=λk=>k=a.bR) (λk hk=>by injection hk with hk;exact hk.symm));have nG:=O (uI xx.o dZ.o h1 Fy.o (x0:=U) (by rw[CW.o]) ⟨aS,⟨2,tx,aS,st,op,key,val,2,yes⟩,U⟩ lI rfl);clear kg lI
  go_still_tail 7,(by kernel_rfl)
  change wpList _ _ _ _ _ wl.drew;go_wp2_with fail;clear b3 b5 b1 l0 l1 l2 l3 l4 l5 l6 l7 l8 l9 l10 lg;obtain⟨lI,mv⟩:=nG.o;have sJ:=O lI;have js:=O mv;have JC:=xx.o.aR (aU wl);have K9:=O (xx.o.bw Bb.o mN);have La:=O (xx.o.bw Fz.o cy);have DH:=O (Bb.o.drew.ch mv.ch K9.o);have s9:=O (Fz.o.drew.ch mv.ch La.o);clear lI mv JC nG;go_upto_region 4 with(fail);obtain⟨b3,_,b1,_,b5,b7⟩:=jm sJ.o.aW DH.o;have Bc:=O (Ba.o w5.drew a.Fl (sJ.o.wD.aR (aU w5)))
  go_still_tail 10,(by kernel_rfl)
  change wpList _ _ _ _ _ w5.drew;go_wp2_with fail;refine Bc.o.mono ?_;rintro e w6 ⟨rfl,F6,FA,kK⟩;dsimp only;have h6:=(sJ.o.aR (aU w5)).pY (m:=aZ+1) FA kK (λt ht=>by
   rcases Fx ht with e|e
   ·exact HM.o.dR.ok t e
   ·rw[e];exact h1) (xv HM.o.dR.nd) (aN _)
  have qH:=O h6.1;have lJ:=O h6.2;have XD:=sJ.o.bw s9.o cy;have tQ:=O (s9.o.drew.ch h6.2.ch XD);clear h6 FA kK XD b3 b1 b5 b7 Bc;have⟨y0,y1,y2,y3⟩:=eW tQ.o;have yl:=tQ.o.lt;have f0:=tQ.o.frozen 0;have f1:=tQ.o.frozen 1;have f2:=tQ.o.frozen 2;have f3:=tQ.o.frozen 3;go_wp2_with fail;change bodyPost _ _ _ _ _ (cI w6 (qb+1) (cF RC));have HY:=O (bU tQ.o (cF RC));have cK:=O (bX w6 (qb+1) (cF RC));generalize cI w6 (qb+1) (cF RC)=wE at *;have⟨g0,g1,g2,g3⟩:=eW HY.o;have gO:=O (qH.o.bw tQ.o cy);refine aE (v:=dU (cF RC)) (by simp[results,results115,go_sem,g0,g1,g2,g3]) rfl ⟨rfl,_,qH.o.ch cK.o (λg hg e=>by subst e;exact gO.o hg),?_⟩;have hq:=dp.o;have e1:Sub (a.F sb) (a.F sb) w wl:=(Sub.bj _ (HN.o.t j4.o)).tail jj.o (λk hk=>by omega);exact(((e1.trans ((Sub.bj _ (aU wl)).trans js.o)).trans ((Sub.bj _ (aU w5)).trans lJ.o)).tail cK.o (λk hk=>by omega))
theorem Hm(h:dH w sb K aZ s a)(hc:eN c)(hk:c.kind=2)(fT:c.key=K)(cp:aZ<=1000000){x:cG}(hl:s.br c.tx=G x):
 ax av 115 #[X (G ⟨sb,0,U⟩),cn c] w (jQ w sb K (aZ+1) a (kQ s c)):=by
 have h1:=hc.tx;have vU:=hc.mo hk;have XC:=O (show kQ s c=({s with br:=cQ s.br c.tx (G ⟨c.aS,c,x.wr⟩),own:=mf s.own c.tx},cF (qW s.own c.tx))from by
  unfold kQ qW;rw[hl])
 rw[XC.o];obtain⟨kd,tx,aS,st,op,key,val,mode,yes⟩:=c;dsimp only at *;subst vU fT hk;obtain⟨WA,WC,hW⟩:=bz (show w.ownsRow 0 203 3 (a.W tx) (ft x.wr) (qG key x.wr)from by have:=h.gp.row tx;rw[hl]at this;exact this);have Fy:=O hW;have HM:=O h;have de:=h.aW.lt;have CW:=O hl;have jA:=O (λw' (hN:M w w')=>(show w'.cell? ⟨sb,5,U⟩=G (.map (G a.bR))/\(Instr.lookup 115 (.map (G a.bR)) (I J tx) false).run av w'= .ok (aC #[I J x.aS,I J x.last.kind,I J x.last.tx,I J x.last.aS,I J x.last.aY,I J x.last.op,V x.last.key,V x.last.val,I J x.last.mode,Y x.last.yes,T WA (ft x.wr) WC]) w' from by
  refine⟨(h.aR hN).cells.2.2.2.2.2.1,?_⟩;have:=cT.xu (h.aR hN).gp h1;rw[hl,hW]at this;exact this))
 have Ba:=O (λw' F' (hL:iW w' a.DD key F' s.own)=>AJ hL h.dR.nd (by have:=A0 h.dR.nd h.dR.ok;omega) h1.1 h.key);obtain⟨RC,Ui⟩:=bG (qW s.own tx);rw[Ui]at Ba;rw[Ui];clear hl h hc hW Ui XC;go_enter func115,ntmps115;go_upto_region 1 with(fail);obtain⟨wz,bV⟩:=bG ((w.alloc (az #[I J 2,I J tx,I J aS,I J st,I J op,V key,V val,I J 2,Y yes] 60)).alloc (az #[I J 0,I J 0,V ⟨#[]⟩,Y false] 66));have HN:=(fZ bV).1;have HQ:=O (show aX wz w.heap.size 60 (bN ⟨2,tx,aS,st,op,key,val,2,yes⟩)from bV▸(aX.new w 60 _).alloc _);have HR:=(fZ bV).2;have fY:wz.heap.size=w.heap.size+1+1:=by rw[<-bV];simp
 obtain⟨qb,bE⟩:=bG (w.heap.size);rw[bE]at HQ HR de fY
 try rw[bV]
 try simp only[bE]
 have dp:=O bE;have HS:=O (λw' (hN:M wz w')=>(show w'.cell? ⟨sb,5,U⟩=G (.map (G a.bR))/\(Instr.lookup 115 (.map (G a.bR)) (I J tx) false).run av w'= .ok (aC #[I J x.aS,I J x.last.kind,I J x.last.tx,I J x.last.aS,I J x.last.aY,I J x.last.op,V x.last.key,V x.last.val,I J x.last.mode,Y x.last.yes,T WA (ft x.wr) WC]) w'/\w'.cell? ⟨qb,1,U⟩=G (I J tx)from
  ⟨(jA.o w' (HN.o.t hN)).1,(jA.o w' (HN.o.t hN)).2,(HQ.o.ch hN (λh=>h)).c 1⟩))
 have ku:=O fY;clear bV bE fY
 go_cut[5] (λv wq=>v=X (G ⟨qb+1+1,0,U⟩)/\M wz wq/\aX wq (qb+1+1) 200 #[I J x.aS,I J x.last.kind,I J x.last.tx,I J x.last.aS,I J x.last.aY,I J x.last.op,V x.last.key,V x.last.val,I J x.last.mode,Y x.last.yes,T WA (ft x.wr) WC])
 case first=>
  go_region_held3(λw'=>w'.cell? ⟨sb,5,U⟩=G (.map (G a.bR))/\(Instr.lookup 115 (.map (G a.bR)) (I J tx) false).run av w'= .ok (aC #[I J x.aS,I J x.last.kind,I J x.last.tx,I J x.last.aS,I J x.last.aY,I J x.last.op,V x.last.key,V x.last.val,I J x.last.mode,Y x.last.yes,T WA (ft x.wr) WC]) w'/\w'.cell? ⟨qb,1,U⟩=G (I J tx))
   (first|exact HS.o _ (aU wz)|exact HS.o _ ((aU wz).alloc _))
   (fail)
  all_goals
   go_wp2_with fail;go_meet;refine⟨by rw[ku.o],((Ch.r _ wz).alloc _).drew,?_⟩;rw[<-ku.o];exact(aX.new wz 200 _).drew
 case rest=>
  obtain⟨rfl,fw,mn⟩:=hcut;have j4:=O fw;have gD:=O (HQ.o.ch fw (λh=>h));have gN:=O (HR.o.ch fw (λh=>h));have kH:=O mn;have iw:=O (HM.o.aR (HN.o.t fw));clear fw mn;have⟨q0,q1,q2,q3,q4⟩:=iP gD.o;have⟨q5,q6,q7,q8⟩:=(show _/\_/\_/\_ from⟨gD.o.c 5,gD.o.c 6,gD.o.c 7,gD.o.c 8⟩);have ql:=gD.o.lt;have lf:=kH.o.frozen;have ll:=kH.o.lt;have⟨l0,l1,l2,l3,l4⟩:=iP kH.o;have⟨l5,l6,l7,l8,l9⟩:=(show _/\_/\_/\_/\_ from⟨kH.o.c 5,kH.o.c 6,kH.o.c 7,kH.o.c 8,kH.o.c 9⟩);have eQ:qb≠qb+1+1:=by omega
  go_wp2_with fail
  go_region
  change Exit.then _ _ _ _ (setLast (wc.setCell ⟨qb+1+1,0,U⟩ (I J aS)) (qb+1+1) ⟨2,tx,aS,st,op,key,val,2,yes⟩).drew;have fJ:=O (show aX (setLast (wc.setCell ⟨qb+1+1,0,U⟩ (I J aS)) (qb+1+1) ⟨2,tx,aS,st,op,key,val,2,yes⟩).drew (qb+1+1) 200 (pS ⟨aS,⟨2,tx,aS,st,op,key,val,2,yes⟩,U⟩ (T WA (ft x.wr) WC))from(mO (kH.o.bm 0 (I J aS)) _).drew);have jj:=O (show Ch (λk=>k=qb+1+1) wc (setLast (wc.setCell ⟨qb+1+1,0,U⟩ (I J aS)) (qb+1+1) ⟨2,tx,aS,st,op,key,val,2,yes⟩).drew from(((Ch.r (λk=>k=qb+1+1) wc).setCell (p:=⟨qb+1+1,0,U⟩) (.inl rfl) _).t (pZ _ _ _)).drew);have xn:=O (iw.o.bw kH.o yW);generalize(setLast (wc.setCell ⟨qb+1+1,0,U⟩ (I J aS)) (qb+1+1) ⟨2,tx,aS,st,op,key,val,2,yes⟩).drew=wl at *;have xx:=O (iw.o.ch jj.o (λg hg e=>by subst e;exact xn.o hg));have Bb:=O (gD.o.ch jj.o (by omega));have Fz:=O (gN.o.ch jj.o (by omega));clear q0 q1 q2 q3 q4 q5 q6 q7 q8 ql lf ll l0 l1 l2 l3 l4 l5 l6 l7 l8 l9;go_upto_region 3 with(fail);obtain⟨b3,b5,b1,_⟩:=jm xx.o.aW Bb.o;have⟨l0,l1,l2,l3,l4⟩:=iP fJ.o;have⟨l5,l6,l7,l8,l9⟩:=(show _/\_/\_/\_/\_ from⟨fJ.o.c 5,fJ.o.c 6,fJ.o.c 7,fJ.o.c 8,fJ.o.c 9⟩);have l10:=fJ.o.c 10;obtain⟨w5,lg,lI,kg⟩:=cT.put (xx.o.gp.map.aR (aU wl)) underlying115 (by omega) (x:=tx) (by omega) (by omega) (gH ⟨aS,⟨2,tx,aS,st,op,key,val,2,yes⟩,U⟩ (T WA (ft x.wr) WC));have dZ:=O ((Ch.bF kg).mono (au:=λk=>k=a.bR) (λk hk=>by injection hk with hk;exact hk.symm));have nG:=O (uI xx.o dZ.o h1 Fy.o (x0:=x.wr) (by rw[CW.o]) ⟨aS,⟨2,tx,aS,st,op,key,val,2,yes⟩,x.wr⟩ lI rfl);clear kg lI
  go_still_tail 7,(by kernel_rfl)
  change wpList _ _ _ _ _ wl.drew;go_wp2_with fail;clear b3 b5 b1 l0 l1 l2 l3 l4 l5 l6 l7 l8 l9 l10 lg;obtain⟨lI,mv⟩:=nG.o;have sJ:=O lI;have js:=O mv;have JC:=xx.o.aR (aU wl);have K9:=O (xx.o.bw Bb.o mN);have La:=O (xx.o.bw Fz.o cy);have DH:=O (Bb.o.drew.ch mv.ch K9.o);have s9:=O (Fz.o.drew.ch mv.ch La.o);clear lI mv JC nG;go_upto_region 4 with(fail);obtain⟨b3,_,b1,_,b5,b7⟩:=jm sJ.o.aW DH.o;have Bc:=O (Ba.o w5.drew a.Fl (sJ.o.wD.aR (aU w5)))
  go_still_tail 10,(by kernel_rfl)
  change wpList _ _ _ _ _ w5.drew;go_wp2_with fail;refine Bc.o.mono ?_;rintro e w6 ⟨rfl,F6,FA,kK⟩;dsimp only;have h6:=(sJ.o.aR (aU w5)).pY (m:=aZ+1) FA kK (λt ht=>by
   rcases Fx ht with e|e
   ·exact HM.o.dR.ok t e
   ·rw[e];exact h1) (xv HM.o.dR.nd) (aN _)
  have qH:=O h6.1;have lJ:=O h6.2;have XD:=sJ.o.bw s9.o cy;have tQ:=O (s9.o.drew.ch h6.2.ch XD);clear h6 FA kK XD b3 b1 b5 b7 Bc;have⟨y0,y1,y2,y3⟩:=eW tQ.o;have yl:=tQ.o.lt;have f0:=tQ.o.frozen 0;have f1:=tQ.o.frozen 1;have f2:=tQ.o.frozen 2;have f3:=tQ.o.frozen 3;go_wp2_with fail;change bodyPost _ _ _ _ _ (cI w6 (qb+1) (cF RC));have HY:=O (bU tQ.o (cF RC));have cK:=O (bX w6 (qb+1) (cF RC));generalize cI w6 (qb+1) (cF RC)=wE at *;have⟨g0,g1,g2,g3⟩:=eW HY.o;have gO:=O (qH.o.bw tQ.o cy);refine aE (v:=dU (cF RC)) (by simp[results,results115,go_sem,g0,g1,g2,g3]) rfl ⟨rfl,_,qH.o.ch cK.o (λg hg e=>by subst e;exact gO.o hg),?_⟩;have hq:=dp.o;have e1:Sub (a.F sb) (a.F sb) w wl:=(Sub.bj _ (HN.o.t j4.o)).tail jj.o (λk hk=>by omega);exact(((e1.trans ((Sub.bj _ (aU wl)).trans js.o)).trans ((Sub.bj _ (aU w5)).trans lJ.o)).tail cK.o (λk hk=>by omega))
end
theorem qc0(K v:ByteArray)(b:Bool)(w:aw):ax av 258 #[aC #[V K,V v,Y b],V K] w λe w'=>e=ay (I J 0)/\M w w':=by
 have nQ:=O (Au K);have HN:=O (show M w (w.alloc (az #[V K,V v,Y b] 203))from(Ch.r _ w).alloc _);go_enter func258,ntmps258;go_wp2_with fail;refine(nQ.o _).mono ?_;rintro e w' ⟨rfl,rfl⟩;go_wp2_with fail;go_ret;exact⟨rfl,HN.o⟩
theorem Lk(w:aw)(A:Option Addr)(c:Nat)(K:ByteArray):ax av 257 #[T A 0 c,V K,.func (.func 258) #[] #[]] w λe w'=>e=ay (aB #[I J 0,Y false])/\M w w':=by
 go_enter func257,ntmps257;go_wp2_with fail
 go_loopw[9,10] (λiv jv wr=>iv=I J 0/\jv=I J 0/\M w wr) (λiv jv _=>0)
 case atStart=>exact⟨rfl,rfl,Ch.r _ _⟩
 case round=>
  obtain⟨rfl,rfl,hC⟩:=hrel;have HC:=O hC;clear hC;go_wp2_with fail;go_ret2;exact⟨rfl,HC.o⟩
section
variable{w w':aw}{A:Option Addr}{K v:ByteArray}{c:Nat}
theorem FH(h:Rd w A (qG K (G v))): ∃b off,A=G ⟨b,off,U⟩/\b<w.heap.size/\w.cell? ⟨b,off,U⟩=G (V K)/\w.cell? ⟨b,off+1,U⟩=G (V v)/\w.cell? ⟨b,off+2,U⟩=G (Y true):=by
 obtain⟨b,off,hA,hb,hx⟩:=h (by simp[qG]);exact⟨b,off,hA,hb,hx 0 _ rfl,hx 1 _ rfl,hx 2 _ rfl⟩
theorem Ll(h:Rd w A (qG K (G v))):ax av 257 #[T A 1 c,V K,.func (.func 258) #[] #[]] w λe w'=>e=ay (aB #[I J 0,Y true])/\M w w':=by
 have H:=O h;have HF:=O (qc0 K v true);clear h;go_enter func257,ntmps257;go_wp2_with fail
 go_loopw[9,10] (λiv jv wr=>∃j:Nat,j<=1/\iv=I J 0/\jv=I J j/\M w wr) (λiv jv _=>(intOf jv).toNat)
 case atStart=>exact⟨1,by omega,rfl,rfl,Ch.r _ _⟩
 case round=>
  obtain⟨j,hj,rfl,rfl,hC⟩:=hrel;have HC:=O hC;have H2:=O (show Rd wr A (qG K (G v))from Rd.aR H.o hC);obtain⟨b,off,rfl,hb,x0,x1,x2⟩:=FH H2.o;clear hC;by_cases h1:j=1
  ·subst h1;clear hj;go_wp2_with fail;refine(HF.o _).mono ?_;rintro e w2 ⟨rfl,hN⟩;dsimp only;have jF:=O (HC.o.t hN);clear hN;go_wp2_with fail;exact⟨⟨0,by omega,rfl,rfl,jF.o⟩,by simp[intOf]⟩
  ·obtain rfl:j=0:=by omega
   clear hj h1;go_wp2_with fail;refine(HF.o _).mono ?_;rintro e w2 ⟨rfl,hN⟩;dsimp only;have jF:=O (HC.o.t hN);clear hN;go_wp2_with fail;go_ret2;exact⟨rfl,jF.o⟩
end
theorem P3{w:aw}{A:Option Addr}{K:ByteArray}{c:Nat}{x:kB}(h:Rd w A (qG K x)):ax av 257 #[T A (ft x) c,V K,.func (.func 258) #[] #[]] w λe w'=>e=ay (aB #[I J 0,Y x.isSome])/\M w w':=by
 cases x with
 |none=>exact Lk w A c K
 |some v=>exact Ll h
theorem xA{w:aw}{A:Option Addr}{K:ByteArray}{c:Nat}{x:cG}(h:Rd w A (qG K x.wr)):ax av 187 #[gH x (T A (ft x.wr) c),V K] w λe w'=>e=ay (aB #[I J 0,Y x.wr.isSome])/\M w w':=by
 have HN:=O (show M w (w.alloc (az (pS x (T A (ft x.wr) c)) 200))from(Ch.r _ w).alloc _);have HS:=O (P3 (c:=c) (x:=x.wr) (h.aR HN.o));clear h;go_enter func187,ntmps187;go_wp2_with fail;refine HS.o.mono ?_;rintro e w' ⟨rfl,hN⟩;have bJ:=O (HN.o.t hN);clear hN;dsimp only;go_wp2_with fail;go_ret2;exact⟨rfl,bJ.o⟩
theorem lS{w:aw}{lb:Nat}{K:ByteArray}{F:Nat->Prop}{l:List Int}(h:iW w lb K F l)(o:Int):
 ax av 186 #[X (G ⟨lb,0,U⟩),I J o,V K] w λe w'=>e=ay (I J (if im l o then 2 else 0))/\M w w':=by
 cases l with
 |nil=>
  obtain⟨A,c,h,rfl⟩:=h;exact KI h K o
 |cons x q=>
  obtain⟨g,c,HA,hc,QA,qc,h,rfl⟩:=h;have e:(if im (x::q) o=true then(2:Int)else 0)=if o∈[x]then 2 else 0:=by
   by_cases e:o=x
   ·subst e;simp[im]
   ·simp[im,e,Ne.symm e]
  rw[e];exact KJ h o
section
variable{w w':aw}{sb aZ:Nat}{K:ByteArray}{s:dm}{a:ia}{c:bQ}
theorem get_none(h:dH w sb K aZ s a)(hc:eN c)(hk:c.kind=3)(fT:c.key=K)(cp:aZ<1000000)(hl:s.br c.tx=U):
 ax av 116 #[X (G ⟨sb,0,U⟩),cn c] w (jQ w sb K (aZ+1) a (s,cF 8)):=by
 have h1:=hc.tx;obtain⟨kd,tx,aS,st,op,key,val,mode,yes⟩:=c;dsimp only at *;subst hk fT;have HM:=O h;have de:=h.aW.lt;have jA:=O (λw' (hN:M w w')=>(show w'.cell? ⟨sb,5,U⟩=G (.map (G a.bR))/\(Instr.lookup 115 (.map (G a.bR)) (I J tx) true).run av w'= .ok (aB #[aC #[I J 0,I J 0,I J 0,I J 0,I J 0,I J 0,V ⟨#[]⟩,V ⟨#[]⟩,I J 0,Y false,T U 0 0],Y false]) w' from by
  refine⟨(h.aR hN).cells.2.2.2.2.2.1,?_⟩;have:=cT.eT (h.aR hN).gp h1;rw[hl]at this;exact this))
 clear h hl hc;go_enter func116,ntmps116;go_upto_region 1 with(fail);obtain⟨wz,bV⟩:=bG ((w.alloc (az #[I J 3,I J tx,I J aS,I J st,I J op,V key,V val,I J mode,Y yes] 60)).alloc (az #[I J 0,I J 0,V ⟨#[]⟩,Y false] 66));have HN:=(fZ bV).1;have HQ:=O (show aX wz w.heap.size 60 (bN ⟨3,tx,aS,st,op,key,val,mode,yes⟩)from bV▸(aX.new w 60 _).alloc _);have HR:=(fZ bV).2;have fY:wz.heap.size=w.heap.size+1+1:=by rw[<-bV];simp
 obtain⟨qb,bE⟩:=bG (w.heap.size);rw[bE]at HQ HR de fY
 try rw[bV]
 try simp only[bE]
 have dp:=O bE;have HS:=O (λw' (hN:M wz w')=>(show w'.cell? ⟨sb,5,U⟩=G (.map (G a.bR))/\(Instr.lookup 115 (.map (G a.bR)) (I J tx) true).run av w'= .ok (aB #[aC #[I J 0,I J 0,I J 0,I J 0,I J 0,I J 0,V ⟨#[]⟩,V ⟨#[]⟩,I J 0,Y false,T U 0 0],Y false]) w'/\w'.cell? ⟨qb,1,U⟩=G (I J tx)from
  ⟨(jA.o w' (HN.o.t hN)).1,(jA.o w' (HN.o.t hN)).2,(HQ.o.ch hN (λh=>h)).c 1⟩))
 have ku:=O fY;clear bV bE fY
 go_cut[5,6] (λv v2 wq=>v=X (G ⟨qb+1+1,0,U⟩)/\v2=Y false/\M wz wq/\aX wq (qb+1+1) 200 #[I J 0,I J 0,I J 0,I J 0,I J 0,I J 0,V ⟨#[]⟩,V ⟨#[]⟩,I J 0,Y false,T U 0 0])
 case first=>
  go_region_held3(λw'=>w'.cell? ⟨sb,5,U⟩=G (.map (G a.bR))/\(Instr.lookup 115 (.map (G a.bR)) (I J tx) true).run av w'= .ok (aB #[aC #[I J 0,I J 0,I J 0,I J 0,I J 0,I J 0,V ⟨#[]⟩,V ⟨#[]⟩,I J 0,Y false,T U 0 0],Y false]) w'/\w'.cell? ⟨qb,1,U⟩=G (I J tx))
   (first|exact HS.o _ (aU wz)|exact HS.o _ ((aU wz).alloc _))
   (fail)
  all_goals
   go_wp2_with fail;go_meet;refine⟨by rw[ku.o],rfl,((Ch.r _ wz).alloc _).drew,?_⟩;rw[<-ku.o];exact(aX.new wz 200 _).drew
 case rest=>
  obtain⟨rfl,rfl,fw,mn⟩:=hcut;have j4:=O fw;have gN:=O (HR.o.ch fw (λh=>h));have iw:=O (HM.o.aR (HN.o.t fw));clear fw mn;go_upto_region 2 with(fail);refine wp_region_held_drew (S:=(λw'=>True)) (by kernel_rfl) trivial (λLm=>?_);refine wpAnyH_take (i:=0) (v:=?_) rfl (by kernel_rfl) (by kernel_rfl) (by kernel_rfl) (λ_ _ _ h=>h) (Or.inl ⟨by rfl,?_⟩) (by trivial) ?_
  rotate_left 1
  ·(intro w kn;(try dsimp only at kn);go_simp)<;>with_reducible rfl
  try simp only[Act.put,aG,aH,aI,aF,aJ,aK]
  refine wpAnyH_take (i:=1) (v:=?_) rfl (by kernel_rfl) (by kernel_rfl) (by kernel_rfl) (λ_ _ _ h=>h) (Or.inl ⟨by rfl,?_⟩) (by trivial) ?_
  rotate_left 1
  ·(intro w kn;(try dsimp only at kn);go_simp)<;>with_reducible rfl
  try simp only[Act.put,aG,aH,aI,aF,aJ,aK]
  refine wpAnyH_take (i:=2) (v:=?_) rfl (by kernel_rfl) (by kernel_rfl) (by kernel_rfl) (λ_ _ _ h=>h) (Or.inl ⟨by rfl,?_⟩) (by trivial) ?_
  rotate_left 1
  ·(intro w kn;(try dsimp only at kn);go_simp)<;>with_reducible rfl
  try simp only[Act.put,aG,aH,aI,aF,aJ,aK]
  refine wpAnyH_take (i:=3) (v:=undef) rfl (by kernel_rfl) (by kernel_rfl) (by kernel_rfl) (λ_ _ _ h=>h) (Or.inr ⟨by rfl,rfl⟩) (by trivial) ?_
  try simp only[Act.put,aG,aH,aI,aF,aJ,aK]
  refine wpAnyH_take (i:=4) (v:=undef) rfl (by kernel_rfl) (by kernel_rfl) (by kernel_rfl) (λ_ _ _ h=>h) (Or.inr ⟨by rfl,rfl⟩) (by trivial) ?_
  try simp only[Act.put,aG,aH,aI,aF,aJ,aK]
  refine wpAnyH_take (i:=5) (v:=undef) rfl (by kernel_rfl) (by kernel_rfl) (by kernel_rfl) (λ_ _ _ h=>h) (Or.inr ⟨by rfl,rfl⟩) (by trivial) ?_
  try simp only[Act.put,aG,aH,aI,aF,aJ,aK]
  refine wpAnyH_take (i:=6) (v:=undef) rfl (by kernel_rfl) (by kernel_rfl) (by kernel_rfl) (λ_ _ _ h=>h) (Or.inr ⟨by rfl,rfl⟩) (by trivial) ?_
  try simp only[Act.put,aG,aH,aI,aF,aJ,aK]
  refine wpAnyH_take (i:=7) (v:=undef) rfl (by kernel_rfl) (by kernel_rfl) (by kernel_rfl) (λ_ _ _ h=>h) (Or.inr ⟨by rfl,rfl⟩) (by trivial) ?_
  try simp only[Act.put,aG,aH,aI,aF,aJ,aK]
  refine wpAnyH_take (i:=8) (v:=undef) rfl (by kernel_rfl) (by kernel_rfl) (by kernel_rfl) (λ_ _ _ h=>h) (Or.inr ⟨by rfl,rfl⟩) (by trivial) ?_
  try simp only[Act.put,aG,aH,aI,aF,aJ,aK]
  refine wpAnyH_take (i:=9) (v:=undef) rfl (by kernel_rfl) (by kernel_rfl) (by kernel_rfl) (λ_ _ _ h=>h) (Or.inr ⟨by rfl,rfl⟩) (by trivial) ?_
  try simp only[Act.put,aG,aH,aI,aF,aJ,aK]
  refine wpAnyH_take (i:=10) (v:=undef) rfl (by kernel_rfl) (by kernel_rfl) (by kernel_rfl) (λ_ _ _ h=>h) (Or.inr ⟨by rfl,rfl⟩) (by trivial) ?_
  try simp only[Act.put,aG,aH,aI,aF,aJ,aK]
  refine wpAnyH_take (i:=11) (v:=undef) rfl (by kernel_rfl) (by kernel_rfl) (by kernel_rfl) (λ_ _ _ h=>h) (Or.inr ⟨by rfl,rfl⟩) (by trivial) ?_
  try simp only[Act.put,aG,aH,aI,aF,aJ,aK]
  refine wpAnyH_take (i:=12) (v:=undef) rfl (by kernel_rfl) (by kernel_rfl) (by kernel_rfl) (λ_ _ _ h=>h) (Or.inr ⟨by rfl,rfl⟩) (by trivial) ?_
  try simp only[Act.put,aG,aH,aI,aF,aJ,aK]
  refine wpAnyH_take (i:=13) (v:=?_) rfl (by kernel_rfl) (by kernel_rfl) (by kernel_rfl) (λ_ _ _ h=>h) (Or.inl ⟨by rfl,?_⟩) (by trivial) ?_
  rotate_left 1
  ·(intro w kn;(try dsimp only at kn);go_simp)<;>with_reducible rfl
  try simp only[Act.put,aG,aH,aI,aF,aJ,aK]
  refine wpAnyH_done (by kernel_rfl) ?_ _;obtain⟨wd,Uo⟩:=bG (wc.drew);have DJ:=O (show M wc wd from Uo▸aU wc)
  try rw[Uo]
  have bH:=O (gN.o.ch DJ.o (λh=>h));have cN:=O (iw.o.aR DJ.o);clear Uo;have⟨y0,y1,y2,y3⟩:=eW bH.o;have yl:=bH.o.lt;have f0:=bH.o.frozen 0;have f1:=bH.o.frozen 1;have f2:=bH.o.frozen 2;have f3:=bH.o.frozen 3;go_wp2_with fail;change bodyPost _ _ _ _ _ (cI wd (qb+1) (cF 8));have HY:=O (bU bH.o (cF 8));have cK:=O (bX wd (qb+1) (cF 8));generalize cI wd (qb+1) (cF 8)=wE at *;have⟨g0,g1,g2,g3⟩:=eW HY.o;have gO:=O (cN.o.bw bH.o cy);refine aE (v:=dU (cF 8)) (by simp[results,results116,go_sem,g0,g1,g2,g3]) rfl ⟨rfl,a,(cN.o.ch cK.o (λg hg e=>by subst e;exact gO.o hg)).mono (Nat.le_succ _),?_⟩;have hq:=dp.o;exact(Sub.bj _ ((HN.o.t j4.o).t DJ.o)).tail cK.o (λk hk=>by omega)
theorem P4(h:dH w sb K aZ s a)(hc:eN c)(hk:c.kind=3)(fT:c.key=K)(cp:aZ<1000000){x:cG}(hl:s.br c.tx=G x)(kv:im s.own c.tx=false):
 ax av 116 #[X (G ⟨sb,0,U⟩),cn c] w (jQ w sb K (aZ+1) a (s,cF 8)):=by
 have h1:=hc.tx;obtain⟨kd,tx,aS,st,op,key,val,mode,yes⟩:=c;dsimp only at *;subst hk fT;obtain⟨WA,WC,hW⟩:=bz (show w.ownsRow 0 203 3 (a.W tx) (ft x.wr) (qG key x.wr)from by have:=h.gp.row tx;rw[hl]at this;exact this);have HM:=O h;have de:=h.aW.lt;have jA:=O (λw' (hN:M w w')=>(show w'.cell? ⟨sb,5,U⟩=G (.map (G a.bR))/\(Instr.lookup 115 (.map (G a.bR)) (I J tx) true).run av w'= .ok (aB #[aC #[I J x.aS,I J x.last.kind,I J x.last.tx,I J x.last.aS,I J x.last.aY,I J x.last.op,V x.last.key,V x.last.val,I J x.last.mode,Y x.last.yes,T WA (ft x.wr) WC],Y true]) w' from by
  refine⟨(h.aR hN).cells.2.2.2.2.2.1,?_⟩;have:=cT.eT (h.aR hN).gp h1;rw[hl,hW]at this;exact this))
 clear h hl hc;go_enter func116,ntmps116;go_upto_region 1 with(fail);obtain⟨wz,bV⟩:=bG ((w.alloc (az #[I J 3,I J tx,I J aS,I J st,I J op,V key,V val,I J mode,Y yes] 60)).alloc (az #[I J 0,I J 0,V ⟨#[]⟩,Y false] 66));have HN:=(fZ bV).1;have HQ:=O (show aX wz w.heap.size 60 (bN ⟨3,tx,aS,st,op,key,val,mode,yes⟩)from bV▸(aX.new w 60 _).alloc _);have HR:=(fZ bV).2;have fY:wz.heap.size=w.heap.size+1+1:=by rw[<-bV];simp
 obtain⟨qb,bE⟩:=bG (w.heap.size);rw[bE]at HQ HR de fY
 try rw[bV]
 try simp only[bE]
 have dp:=O bE;have HS:=O (λw' (hN:M wz w')=>(show w'.cell? ⟨sb,5,U⟩=G (.map (G a.bR))/\(Instr.lookup 115 (.map (G a.bR)) (I J tx) true).run av w'= .ok (aB #[aC #[I J x.aS,I J x.last.kind,I J x.last.tx,I J x.last.aS,I J x.last.aY,I J x.last.op,V x.last.key,V x.last.val,I J x.last.mode,Y x.last.yes,T WA (ft x.wr) WC],Y true]) w'/\w'.cell? ⟨qb,1,U⟩=G (I J tx)from
  ⟨(jA.o w' (HN.o.t hN)).1,(jA.o w' (HN.o.t hN)).2,(HQ.o.ch hN (λh=>h)).c 1⟩))
 have ku:=O fY;clear bV bE fY
 go_cut[5,6] (λv v2 wq=>v=X (G ⟨qb+1+1,0,U⟩)/\v2=Y true/\M wz wq/\aX wq (qb+1+1) 200 #[I J x.aS,I J x.last.kind,I J x.last.tx,I J x.last.aS,I J x.last.aY,I J x.last.op,V x.last.key,V x.last.val,I J x.last.mode,Y x.last.yes,T WA (ft x.wr) WC])
 case first=>
  go_region_held3(λw'=>w'.cell? ⟨sb,5,U⟩=G (.map (G a.bR))/\(Instr.lookup 115 (.map (G a.bR)) (I J tx) true).run av w'= .ok (aB #[aC #[I J x.aS,I J x.last.kind,I J x.last.tx,I J x.last.aS,I J x.last.aY,I J x.last.op,V x.last.key,V x.last.val,I J x.last.mode,Y x.last.yes,T WA (ft x.wr) WC],Y true]) w'/\w'.cell? ⟨qb,1,U⟩=G (I J tx))
   (first|exact HS.o _ (aU wz)|exact HS.o _ ((aU wz).alloc _))
   (fail)
  all_goals
   go_wp2_with fail;go_meet;refine⟨by rw[ku.o],rfl,((Ch.r _ wz).alloc _).drew,?_⟩;rw[<-ku.o];exact(aX.new wz 200 _).drew
 case rest=>
  obtain⟨rfl,rfl,fw,mn⟩:=hcut;have j4:=O fw;have gD:=O (HQ.o.ch fw (λh=>h));have gN:=O (HR.o.ch fw (λh=>h));have iw:=O (HM.o.aR (HN.o.t fw));clear fw mn;have wB:=O (λw' (hN:M wc w')=>(show ax av 186 #[X (G ⟨a.DD,0,U⟩),I J tx,V key] w' (λe eZ=>e=ay (I J 0)/\M w' eZ)from by
   have:=lS (iw.o.aR hN).wD tx;rw[kv]at this;exact this))
  clear kv;go_upto_region 2 with(fail);have kj:=O (λw' (hN:M wc w')=>jm (iw.o.aR hN).aW (gD.o.ch hN (λh=>h)))
  go_cut[34] (λv wq=>v=Y true/\M wc wq)
  case first=>
   go_region_held3(λw'=>w'.cell? ⟨sb,3,U⟩=G (X (G ⟨a.DD,0,U⟩))/\w'.cell? ⟨sb,5,U⟩=G (.map (G a.bR))/\w'.cell? ⟨qb,1,U⟩=G (I J tx)/\w'.cell? ⟨qb,2,U⟩=G (I J aS)/\w'.cell? ⟨qb,5,U⟩=G (V key)/\w'.cell? ⟨qb,7,U⟩=G (I J mode))
    (first|exact kj.o _ (aU wc)|exact kj.o _ jn.o)
    (first|(go_at_call 186;refine(wB.o _ (aU wc)).mono ?_;rintro e w' ⟨rfl,hN⟩;have jn:=O ((aU wc).t hN);clear hN;dsimp only;have⟨s3,s5,s1,s2,s6,s7⟩:=kj.o _ jn.o))
   all_goals
    go_wp2_with fail;go_meet;exact⟨rfl,jn.o⟩
  case rest=>
   obtain⟨rfl,uK⟩:=hcut;have DJ:=O uK;have bH:=O (gN.o.ch uK (λh=>h));have cN:=O (iw.o.aR uK);clear uK;have⟨y0,y1,y2,y3⟩:=eW bH.o;have yl:=bH.o.lt;have f0:=bH.o.frozen 0;have f1:=bH.o.frozen 1;have f2:=bH.o.frozen 2;have f3:=bH.o.frozen 3;go_wp2_with fail;change bodyPost _ _ _ _ _ (cI wc (qb+1) (cF 8));have HY:=O (bU bH.o (cF 8));have cK:=O (bX wc (qb+1) (cF 8));generalize cI wc (qb+1) (cF 8)=wE at *;have⟨g0,g1,g2,g3⟩:=eW HY.o;have gO:=O (cN.o.bw bH.o cy);refine aE (v:=dU (cF 8)) (by simp[results,results116,go_sem,g0,g1,g2,g3]) rfl ⟨rfl,a,(cN.o.ch cK.o (λg hg e=>by subst e;exact gO.o hg)).mono (Nat.le_succ _),?_⟩;have hq:=dp.o;exact(Sub.bj _ ((HN.o.t j4.o).t DJ.o)).tail cK.o (λk hk=>by omega)
end
section
variable{w w':aw}{sb aZ:Nat}{K:ByteArray}{s:dm}{a:ia}{c:bQ}
theorem XJ{w:aw}{sb qb:Nat}{s:dm}{a:ia}{c:bQ}(b1:aX w sb 118 (SD s a))(b2:aX w qb 60 (bN c)):
 w.cell? ⟨sb,2,U⟩=G (X (G ⟨a.cb,0,U⟩))/\w.cell? ⟨qb,5,U⟩=G (V c.key):=⟨b1.c 2,b2.c 5⟩
theorem dH.qc1(h:dH w sb K aZ s a)(cp:aZ<=1000000):ax av 78 #[X (G ⟨a.cb,0,U⟩),V K] w λe w'=>e=ay (aB #[V (eP s.cur),Y (fB s.cur)])/\M w w':=by
 obtain⟨D,cs,hc,hr⟩:=h.KV;have:=Cells.tL hc hr.uE (key:=K) (by have:=h.key;unfold maxLen;omega) (aO hr.fx cp);rw[hr.val]at this;exact this
theorem Up(h:dH w sb K aZ s a)(hc:eN c)(hk:c.kind=3)(fT:c.key=K)(cp:aZ<1000000){x:cG}{RR:dh}(hl:s.br c.tx=G x)(kv:im s.own c.tx=true)(hR:(match x.wr with|some v=>⟨0,0,v,true⟩|none=>⟨0,0,eP s.cur,fB s.cur⟩)=RR):
 ax av 116 #[X (G ⟨sb,0,U⟩),cn c] w (jQ w sb K (aZ+1) a ({s with br:=cQ s.br c.tx (G ⟨x.aS,c,x.wr⟩)},RR)):=by
 have h1:=hc.tx;obtain⟨kd,tx,aS,st,op,key,val,mode,yes⟩:=c;dsimp only at *;subst hk fT;have Kq:=O hR;clear hR;obtain⟨WA,WC,hW⟩:=bz (show w.ownsRow 0 203 3 (a.W tx) (ft x.wr) (qG key x.wr)from by have:=h.gp.row tx;rw[hl]at this;exact this);have HM:=O h;have de:=h.aW.lt;have CW:=O hl;have jA:=O (λw' (hN:M w w')=>(show w'.cell? ⟨sb,5,U⟩=G (.map (G a.bR))/\(Instr.lookup 115 (.map (G a.bR)) (I J tx) true).run av w'= .ok (aB #[aC #[I J x.aS,I J x.last.kind,I J x.last.tx,I J x.last.aS,I J x.last.aY,I J x.last.op,V x.last.key,V x.last.val,I J x.last.mode,Y x.last.yes,T WA (ft x.wr) WC],Y true]) w' from by
  refine⟨(h.aR hN).cells.2.2.2.2.2.1,?_⟩;have:=cT.eT (h.aR hN).gp h1;rw[hl,hW]at this;exact this))
 have Fy:=O hW;have xg:=O cp;clear h hl hc;go_enter func116,ntmps116;go_upto_region 1 with(fail);obtain⟨wz,bV⟩:=bG ((w.alloc (az #[I J 3,I J tx,I J aS,I J st,I J op,V key,V val,I J mode,Y yes] 60)).alloc (az #[I J 0,I J 0,V ⟨#[]⟩,Y false] 66));have HN:=(fZ bV).1;have HQ:=O (show aX wz w.heap.size 60 (bN ⟨3,tx,aS,st,op,key,val,mode,yes⟩)from bV▸(aX.new w 60 _).alloc _);have HR:=(fZ bV).2;have fY:wz.heap.size=w.heap.size+1+1:=by rw[<-bV];simp
 obtain⟨qb,bE⟩:=bG (w.heap.size);rw[bE]at HQ HR de fY
 try rw[bV]
 try simp only[bE]
 have dp:=O bE;have HS:=O (λw' (hN:M wz w')=>(show w'.cell? ⟨sb,5,U⟩=G (.map (G a.bR))/\(Instr.lookup 115 (.map (G a.bR)) (I J tx) true).run av w'= .ok (aB #[aC #[I J x.aS,I J x.last.kind,I J x.last.tx,I J x.last.aS,I J x.last.aY,I J x.last.op,V x.last.key,V x.last.val,I J x.last.mode,Y x.last.yes,T WA (ft x.wr) WC],Y true]) w'/\w'.cell? ⟨qb,1,U⟩=G (I J tx)from
  ⟨(jA.o w' (HN.o.t hN)).1,(jA.o w' (HN.o.t hN)).2,(HQ.o.ch hN (λh=>h)).c 1⟩))
 have ku:=O fY;clear bV bE fY
 go_cut[5,6] (λv v2 wq=>v=X (G ⟨qb+1+1,0,U⟩)/\v2=Y true/\M wz wq/\aX wq (qb+1+1) 200 #[I J x.aS,I J x.last.kind,I J x.last.tx,I J x.last.aS,I J x.last.aY,I J x.last.op,V x.last.key,V x.last.val,I J x.last.mode,Y x.last.yes,T WA (ft x.wr) WC])
 case first=>
  go_region_held3(λw'=>w'.cell? ⟨sb,5,U⟩=G (.map (G a.bR))/\(Instr.lookup 115 (.map (G a.bR)) (I J tx) true).run av w'= .ok (aB #[aC #[I J x.aS,I J x.last.kind,I J x.last.tx,I J x.last.aS,I J x.last.aY,I J x.last.op,V x.last.key,V x.last.val,I J x.last.mode,Y x.last.yes,T WA (ft x.wr) WC],Y true]) w'/\w'.cell? ⟨qb,1,U⟩=G (I J tx))
   (first|exact HS.o _ (aU wz)|exact HS.o _ ((aU wz).alloc _))
   (fail)
  all_goals
   go_wp2_with fail;go_meet;refine⟨by rw[ku.o],rfl,((Ch.r _ wz).alloc _).drew,?_⟩;rw[<-ku.o];exact(aX.new wz 200 _).drew
 case rest=>
  obtain⟨rfl,rfl,fw,mn⟩:=hcut;have j4:=O fw;have gD:=O (HQ.o.ch fw (λh=>h));have gN:=O (HR.o.ch fw (λh=>h));have kH:=O mn;have iw:=O (HM.o.aR (HN.o.t fw));clear fw mn;have wB:=O (λw' (hN:M wc w')=>(show ax av 186 #[X (G ⟨a.DD,0,U⟩),I J tx,V key] w' (λe eZ=>e=ay (I J 2)/\M w' eZ)from by
   have:=lS (iw.o.aR hN).wD tx;rw[kv]at this;exact this))
  clear kv;go_upto_region 2 with(fail);have kj:=O (λw' (hN:M wc w')=>jm (iw.o.aR hN).aW (gD.o.ch hN (λh=>h)))
  go_cut[34] (λv wq=>v=Y false/\M wc wq)
  case first=>
   go_region_held3(λw'=>w'.cell? ⟨sb,3,U⟩=G (X (G ⟨a.DD,0,U⟩))/\w'.cell? ⟨sb,5,U⟩=G (.map (G a.bR))/\w'.cell? ⟨qb,1,U⟩=G (I J tx)/\w'.cell? ⟨qb,2,U⟩=G (I J aS)/\w'.cell? ⟨qb,5,U⟩=G (V key)/\w'.cell? ⟨qb,7,U⟩=G (I J mode))
    (first|exact kj.o _ (aU wc)|exact kj.o _ jn.o)
    (first|(go_at_call 186;refine(wB.o _ (aU wc)).mono ?_;rintro e w' ⟨rfl,hN⟩;have jn:=O ((aU wc).t hN);clear hN;dsimp only;have⟨s3,s5,s1,s2,s6,s7⟩:=kj.o _ jn.o))
   all_goals
    go_wp2_with fail;go_meet;exact⟨rfl,jn.o⟩
  case rest=>
   obtain⟨rfl,uK⟩:=hcut;have DJ:=O uK;have eC:=O (gD.o.ch uK (λh=>h));have bH:=O (gN.o.ch uK (λh=>h));have iC:=O (kH.o.ch uK (λh=>h));have cN:=O (iw.o.aR uK);clear uK;have⟨q0,q1,q2,q3,q4⟩:=iP eC.o;have⟨q5,q6,q7,q8⟩:=(show _/\_/\_/\_ from⟨eC.o.c 5,eC.o.c 6,eC.o.c 7,eC.o.c 8⟩);have ql:=eC.o.lt;have lf:=iC.o.frozen;have ll:=iC.o.lt;have⟨l0,l1,l2,l3,l4⟩:=iP iC.o;have⟨l5,l6,l7,l8,l9⟩:=(show _/\_/\_/\_/\_ from⟨iC.o.c 5,iC.o.c 6,iC.o.c 7,iC.o.c 8,iC.o.c 9⟩);have eQ:qb≠qb+1+1:=by omega
   go_upto_region 5 with(fail);change Code.wp _ _ _ _ (setLast wc (qb+1+1) ⟨3,tx,aS,st,op,key,val,mode,yes⟩);have fJ:=O (show aX (setLast wc (qb+1+1) ⟨3,tx,aS,st,op,key,val,mode,yes⟩) (qb+1+1) 200 (pS ⟨x.aS,⟨3,tx,aS,st,op,key,val,mode,yes⟩,x.wr⟩ (T WA (ft x.wr) WC))from mO iC.o _);have jj:=O (show Ch (λk=>k=qb+1+1) wc (setLast wc (qb+1+1) ⟨3,tx,aS,st,op,key,val,mode,yes⟩)from pZ _ _ _);have xn:=O (cN.o.bw iC.o yW);generalize(setLast wc (qb+1+1) ⟨3,tx,aS,st,op,key,val,mode,yes⟩)=wl at *;have xx:=O (cN.o.ch jj.o (λg hg e=>by subst e;exact xn.o hg));have Bb:=O (eC.o.ch jj.o (by omega));have Fz:=O (bH.o.ch jj.o (by omega));clear q0 q1 q2 q3 q4 q5 q6 q7 q8 ql lf ll l0 l1 l2 l3 l4 l5 l6 l7 l8 l9;obtain⟨b3,b5,b1,_⟩:=jm xx.o.aW Bb.o;have⟨l0,l1,l2,l3,l4⟩:=iP fJ.o;have⟨l5,l6,l7,l8,l9⟩:=(show _/\_/\_/\_/\_ from⟨fJ.o.c 5,fJ.o.c 6,fJ.o.c 7,fJ.o.c 8,fJ.o.c 9⟩);have l10:=fJ.o.c 10;obtain⟨w5,lg,lI,kg⟩:=cT.put (xx.o.gp.map.aR (aU wl)) underlying115 (by omega) (x:=tx) (by omega) (by omega) (gH ⟨x.aS,⟨3,tx,aS,st,op,key,val,mode,yes⟩,x.wr⟩ (T WA (ft x.wr) WC));have dZ:=O ((Ch.bF kg).mono (au:=λk=>k=a.bR) (λk hk=>by injection hk with hk;exact hk.symm));have nG:=O (uI xx.o dZ.o h1 Fy.o (x0:=x.wr) (by rw[CW.o]) ⟨x.aS,⟨3,tx,aS,st,op,key,val,mode,yes⟩,x.wr⟩ lI rfl);clear kg lI
   go_still_tail 7,(by kernel_rfl)
   change wpList _ _ _ _ _ wl.drew;go_upto_region 6 with(fail);clear b3 b5 b1 l0 l1 l2 l3 l4 l5 l6 l7 l8 l9 l10 lg;obtain⟨lI,mv⟩:=nG.o;have sJ:=O lI;have js:=O mv;have K9:=O (xx.o.bw Bb.o mN);have La:=O (xx.o.bw Fz.o cy);have qc2:=O (xx.o.bw fJ.o yW);have DH:=O (Bb.o.drew.ch mv.ch K9.o);have s9:=O (Fz.o.drew.ch mv.ch La.o);have mJ:=O (show aX w5 (qb+1+1) 200 #[I J x.aS,I J 3,I J tx,I J aS,I J st,I J op,V key,V val,I J mode,Y yes,(T WA (ft x.wr) WC)]from fJ.o.drew.ch mv.ch qc2.o);clear lI mv nG;have OE:=O (show ax av 187 #[aC #[I J x.aS,I J 3,I J tx,I J aS,I J st,I J op,V key,V val,I J mode,Y yes,T WA (ft x.wr) WC],V key] w5 (λe w'=>e=ay (aB #[I J 0,Y x.wr.isSome])/\M w5 w')from xA (c:=WC) (x:=⟨x.aS,⟨3,tx,aS,st,op,key,val,mode,yes⟩,x.wr⟩) (Rd.own (show w5.ownsRow 0 203 3 (T WA (ft x.wr) WC) (ft x.wr) (qG key x.wr)from by
    have:=sJ.o.gp.row tx;dsimp only[ia.rh]at this;rw[bD,if_pos rfl]at this;exact this)))
   have⟨l0,l1,l2,l3,l4⟩:=iP mJ.o;have⟨l5,l6,l7,l8,l9⟩:=(show _/\_/\_/\_/\_ from⟨mJ.o.c 5,mJ.o.c 6,mJ.o.c 7,mJ.o.c 8,mJ.o.c 9⟩);have l10:=mJ.o.c 10;have q5:=DH.o.c 5;go_wp2_with fail
   with_reducible refine OE.o.mono ?_
   rintro e w6 ⟨rfl,kI⟩;dsimp only;clear l0 l1 l2 l3 l4 l5 l6 l7 l8 l9 l10 q5 OE;have ir:=O kI;have qH:=O (sJ.o.aR kI);have Uq:=O (DH.o.ch kI (λh=>h));have Bd:=O (s9.o.ch kI (λh=>h));have V9:=O (mJ.o.ch kI (λh=>h));clear kI;obtain⟨XW,Bf⟩:=bG (x.wr);have HX:=O Bf;have Ln:Rd w6 WA (qG key XW):=by
    have:=(qH.o.gp.row tx);dsimp only[ia.rh]at this;rw[bD,if_pos rfl]at this;dsimp only at this;rw[Bf]at this;exact Rd.own this
   have SH:=O (show Sub (a.F sb) ((a.rh tx (T WA (ft x.wr) WC)).F sb) w w6 from by
    have hq:=dp.o;have e1:Sub (a.F sb) (a.F sb) w wl:=(Sub.bj _ ((HN.o.t j4.o).t DJ.o)).tail jj.o (λk hk=>by omega);exact(e1.trans ((Sub.bj _ (aU wl)).trans js.o)).trans (Sub.bj _ ir.o))
   cases XW with
   |some v=>
    have l10:w6.cell? ⟨qb+1+1,10,U⟩=G (T WA 1 WC):=by have:=V9.o.c 10;rw[Bf]at this;exact this
    obtain⟨wb,wo,rfl,wlt,x0,x1,x2⟩:=FH Ln;have ll:=V9.o.lt;simp only[Bf,Option.isSome_some];clear Bf Ln;have bH:=Bd;have cN:=qH;have⟨y0,y1,y2,y3⟩:=eW bH.o;have yl:=bH.o.lt;have f0:=bH.o.frozen 0;have f1:=bH.o.frozen 1;have f2:=bH.o.frozen 2;have f3:=bH.o.frozen 3;go_wp2_with fail
    go_region
    change Exit.then _ _ _ _ (cI w6 (qb+1) (⟨0,0,v,true⟩:dh)).drew;have HY:=O (bU bH.o (⟨0,0,v,true⟩:dh)).drew;have cK:=O (bX w6 (qb+1) (⟨0,0,v,true⟩:dh)).drew;generalize(cI w6 (qb+1) (⟨0,0,v,true⟩:dh)).drew=wE at *;have⟨g0,g1,g2,g3⟩:=eW HY.o;clear y0 y1 y2 y3 yl f0 f1 f2 f3;have gO:=O (cN.o.bw bH.o cy);go_wp2_with fail;refine aE (v:=dU (⟨0,0,v,true⟩:dh)) (by simp[results,results116,go_sem,g0,g1,g2,g3]) rfl ⟨by rw[<-Kq.o,HX.o],a.rh tx (T (G ⟨wb,wo,U⟩) (ft x.wr) WC),cN.o.ch cK.o (λg hg e=>by subst e;exact gO.o hg),?_⟩;have hq:=dp.o;exact SH.o.tail cK.o (λk hk=>by omega)
   |none=>
    have HGE:=O (λw' (hN:M w6 w')=>(qH.o.aR hN).qc1 (by have:=xg.o;omega));have cZ:=O (λw' (hN:M w6 w')=>XJ (qH.o.aR hN).aW (Uq.o.ch hN (λh=>h)));simp only[Bf,Option.isSome_none];clear Bf Ln;go_upto_region 9 with(fail)
    go_cut[9,10] (λv v2 wq=>v=V (eP s.cur)/\v2=Y (fB s.cur)/\M w6 wq)
    case first=>
     go_region_held3(λw'=>w'.cell? ⟨sb,2,U⟩=G (X (G ⟨a.cb,0,U⟩))/\w'.cell? ⟨qb,5,U⟩=G (V key))
      (first|exact cZ.o _ (aU w6)|exact cZ.o _ jn.o)
      (first|(go_at_call 78;refine(HGE.o _ (aU w6)).mono ?_;rintro e w' ⟨rfl,hN⟩;have jn:=O ((aU w6).t hN);clear hN;dsimp only;have⟨s3,s5⟩:=cZ.o _ jn.o))
     all_goals
      go_wp2_with fail;go_meet;exact⟨rfl,rfl,jn.o⟩
    case rest=>
     obtain⟨rfl,rfl,OG⟩:=hcut;have HN8:=O OG;have cN:=O (qH.o.aR OG);have bH:=O (Bd.o.ch OG (λh=>h));clear OG;have⟨y0,y1,y2,y3⟩:=eW bH.o;have yl:=bH.o.lt;have f0:=bH.o.frozen 0;have f1:=bH.o.frozen 1;have f2:=bH.o.frozen 2;have f3:=bH.o.frozen 3;go_wp2_with fail;change bodyPost _ _ _ _ _ (cI wc (qb+1) (⟨0,0,eP s.cur,fB s.cur⟩:dh));have HY:=O (bU bH.o (⟨0,0,eP s.cur,fB s.cur⟩:dh));have cK:=O (bX wc (qb+1) (⟨0,0,eP s.cur,fB s.cur⟩:dh));generalize cI wc (qb+1) (⟨0,0,eP s.cur,fB s.cur⟩:dh)=wE at *;have⟨g0,g1,g2,g3⟩:=eW HY.o;have gO:=O (cN.o.bw bH.o cy);refine aE (v:=dU (⟨0,0,eP s.cur,fB s.cur⟩:dh)) (by simp[results,results116,go_sem,g0,g1,g2,g3]) rfl ⟨by rw[<-Kq.o,HX.o],a.rh tx (T WA (ft x.wr) WC),cN.o.ch cK.o (λg hg e=>by subst e;exact gO.o hg),?_⟩;have hq:=dp.o;exact(SH.o.trans (Sub.bj _ HN8.o)).tail cK.o (λk hk=>by omega)
end
end Go.Proofs.YtmaimjajdbgmiaaGreatDoor
namespace Go.Proofs.YtmaimjajdbgmiaaGreatDoor
open Go.Lib Go.RowKit
theorem Lp:(av.info? 203).map (λi=>(i.zero,i.size,i.bytes))=G (G (aC #[V ⟨#[]⟩,V ⟨#[]⟩,Y false]),3,40):=by kernel_rfl
theorem Lq{w:aw}{vb:Nat}{vs:List Value}{A:Option Addr}{c:Nat}(h:w.ownsRow 0 203 3 (T A 0 c) 0 [])(hv:aX w vb 203 vs.toArray)(ny:vs.length=3)(qQ: ∀u∈vs,u.oneCell'=true):
 ax av 188 #[T A 0 c,I J 0,T (G ⟨vb,0,U⟩) 1 1] w λe w'=>∃(A':Option Addr) (c':Nat),e=ay (T A' 1 c')/\w'.ownsRow 0 203 3 (T A' 1 c') 1 vs/\Ch (λg=>(T A 0 c).ownBlock=G g) w w'/\((T A' 1 c').ownBlock=(T A 0 c).ownBlock\/(T A' 1 c').ownBlock=G w.heap.size):=by
 obtain⟨i1,dX,er,eu,eK⟩:=info_parts Lp;have H:=O h;have we:=O qQ;have lG:=O (show Reads w w.heap.size 3 (G ⟨vb,0,U⟩) 1 vs from⟨by rw[ny],λ_=>⟨_,rfl,hv.lt,λj u hu=>by
  rw[show(⟨vb,0,U⟩:Addr).add j=⟨vb,j,U⟩ by unfold Addr.add;split<;>simp_all,hv.c];simpa using hu⟩⟩)
 have uj:(A=U/\c=0)\/∃g,A=G ⟨g,0,U⟩/\c<=maxLen:=by
  rcases h.2 with⟨e,h0⟩|⟨g,cap,cur,e,_⟩
  ·injection e with e1 e2 e3;exact .inl ⟨e1,e3⟩
  ·injection e with e1 e2 e3;subst e1;obtain⟨Z,_,_,_,fA⟩:=cV h;exact .inr ⟨g,rfl,fA⟩
 clear h hv ny qQ;rcases uj with⟨rfl,rfl⟩|⟨g,rfl,fA⟩
 ·go_enter func188,ntmps188;go_wp2_with(first
   |(at_builtin
     refine bp _ rfl (.tmp 23) (.tmp 24) _ rfl 0 203 i1 _ 3 40 underlying131 dX er eu eK rfl (by omega) (T U 0 0) 0 [] rfl
      H.o w.heap.size (G ⟨vb,0,U⟩) 1 1 vs rfl lG.o we.o (by simp only[maxLen];omega) (by omega) (Nat.zero_le _) ?_
     intro v8 w8 bM dS dG;obtain⟨A8,c8,rfl⟩:=bz bM;have mh:=O bM;have iT:=O (Ch.bF dS);have nS:=O dG;clear bM dS dG))
  all_goals
   go_ret;exact⟨A8,c8,rfl,mh.o,iT.o.mono (λk hk=>hk.symm▸rfl),nS.o⟩
 ·have Jy:(c:Int)<=9223372036854775807:=by unfold maxLen at fA;omega
  have hc0:(0:Int)<=(c:Int):=by omega
  clear fA;go_enter func188,ntmps188;go_wp2_with(first
   |(at_builtin
     refine bp _ rfl (.tmp 23) (.tmp 24) _ rfl 0 203 i1 _ 3 40 underlying131 dX er eu eK rfl (by omega) (T (G ⟨g,0,U⟩) 0 c) 0 [] rfl
      H.o w.heap.size (G ⟨vb,0,U⟩) 1 1 vs rfl lG.o we.o (by simp only[maxLen];omega) (by omega) (Nat.zero_le _) ?_
     intro v8 w8 bM dS dG;obtain⟨A8,c8,rfl⟩:=bz bM;have mh:=O bM;have iT:=O (Ch.bF dS);have nS:=O dG;clear bM dS dG))
  all_goals
   go_ret;exact⟨A8,c8,rfl,mh.o,iT.o.mono (λk hk=>hk.symm▸rfl),nS.o⟩
