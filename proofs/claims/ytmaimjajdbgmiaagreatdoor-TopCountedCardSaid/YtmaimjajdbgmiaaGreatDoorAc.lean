import Derived.Shelf.SlGeneric
import Derived.Ground.SlgmProg
import Derived.Ground.Names2Prog
import Derived.Shelf.SortM.Plain
import Derived.Shelf.SortM.SortNone
import Derived.Shelf.Slices.CompactI
import Derived.Deep.RegionHeld3
import Derived.Deep.DeepCutAuto
import Derived.Sort.OwnSortedInts
import Derived.Test.YtmaimjajdbgmiaaGreatDoorAb
set_option linter.unusedVariables false
set_option linter.unusedSimpArgs false
set_option maxRecDepth 100000
set_option maxHeartbeats 0
open Go.Value renaming int→I,string→V,pointer→X,bool→Y,slice→T,tuple→aB,agg→aC
open Go.IntKind renaming i64→J
open Option renaming none→U,some→G
open Go.Ending renaming returned→ay
open Go.Obj renaming cells→az
open List renaming length_append→aL,setIfInBounds_toArray→aF
open Nat renaming le_refl→aN,le_trans→aO,lt_of_lt_of_le→aP
open Go renaming World→aw,Calls→ax,bodyPost_ret→aE
open Go.Proofs.Tryz
open Go.Proofs.Tryz renaming prog→av
namespace Go.Proofs
open Go.Shelf
def Tryz.yv:Go.Shelf.Ren:=⟨λ |5=>170|8=>228|7=>234|19=>301|20=>302|10=>303|11=>304|12=>305|13=>306|14=>307|15=>308|16=>309|17=>310|18=>311|30=>363|31=>359|32=>360|33=>364|34=>365|35=>229|40=>385|n=>n,λ |23=>40|25=>3|3=>3|32=>204|22=>40|0=>0|44=>376|46=>247|4=>4|36=>370|35=>369|41=>165|5=>5|9=>9|53=>419|57=>363|63=>441|64=>343|n=>n,λ |n=>n⟩
theorem Tryz.pE:Go.Proofs.SlLaysM.n5 av Tryz.yv:={
 mixed:=by kernel_rfl
 f5:=⟨Tryz.f170.name,by decide,func170.trans (congrArg G (by kernel_rfl))⟩
 f7:=⟨Tryz.f234.name,by decide,func234.trans (congrArg G (by kernel_rfl))⟩
 f8:=func228.trans (congrArg G (by kernel_rfl))
 f10:=⟨Tryz.f303.name,by decide,func303.trans (congrArg G (by kernel_rfl))⟩
 f11:=⟨Tryz.f304.name,by decide,func304.trans (congrArg G (by kernel_rfl))⟩
 f12:=⟨Tryz.f305.name,by decide,func305.trans (congrArg G (by kernel_rfl))⟩
 f13:=⟨Tryz.f306.name,by decide,func306.trans (congrArg G (by kernel_rfl))⟩
 f14:=⟨Tryz.f307.name,by decide,func307.trans (congrArg G (by kernel_rfl))⟩
 f15:=⟨Tryz.f308.name,by decide,func308.trans (congrArg G (by kernel_rfl))⟩
 f16:=⟨Tryz.f309.name,by decide,func309.trans (congrArg G (by kernel_rfl))⟩
 f17:=⟨Tryz.f310.name,by decide,func310.trans (congrArg G (by kernel_rfl))⟩
 f18:=⟨Tryz.f311.name,by decide,func311.trans (congrArg G (by kernel_rfl))⟩
 f19:=func301.trans (congrArg G (by kernel_rfl))
 f20:=func302.trans (congrArg G (by kernel_rfl))
 f30:=⟨Tryz.f363.name,by decide,func363.trans (congrArg G (by kernel_rfl))⟩
 f31:=func359.trans (congrArg G (by kernel_rfl))
 f32:=func360.trans (congrArg G (by kernel_rfl))
 f33:=⟨Tryz.f364.name,by decide,func364.trans (congrArg G (by kernel_rfl))⟩
 f34:=⟨Tryz.f365.name,by decide,func365.trans (congrArg G (by kernel_rfl))⟩
 f35:=⟨Tryz.f229.name,by decide,func229.trans (congrArg G (by kernel_rfl))⟩
 f40:=⟨Tryz.f385.name,by decide,func385.trans (congrArg G (by kernel_rfl))⟩
 t0:=underlying0
 a0:=Tryz.isAgg0
 z0:=Tryz.sizeOf0
 v0:=Tryz.zeroValue0
 t3:=underlying3
 a3:=Tryz.isAgg3
 z3:=Tryz.sizeOf3
 v3:=Tryz.zeroValue3
 t4:=underlying4
 a4:=Tryz.isAgg4
 z4:=Tryz.sizeOf4
 v4:=Tryz.zeroValue4
 t5:=underlying5
 a5:=Tryz.isAgg5
 z5:=Tryz.sizeOf5
 v5:=Tryz.zeroValue5
 t9:=underlying9
 a9:=Tryz.isAgg9
 z9:=Tryz.sizeOf9
 v9:=Tryz.zeroValue9
 t22:=underlying40
 a22:=Tryz.isAgg40
 z22:=Tryz.sizeOf40
 v22:=Tryz.zeroValue40
 t23:=underlying40
 a23:=Tryz.isAgg40
 z23:=Tryz.sizeOf40
 v23:=Tryz.zeroValue40
 t25:=underlying3
 a25:=Tryz.isAgg3
 z25:=Tryz.sizeOf3
 v25:=Tryz.zeroValue3
 t32:=underlying204
 a32:=Tryz.isAgg204
 z32:=Tryz.sizeOf204
 v32:=Tryz.zeroValue204
 t35:=underlying369
 a35:=Tryz.isAgg369
 z35:=Tryz.sizeOf369
 v35:=Tryz.zeroValue369
 t36:=underlying370
 a36:=Tryz.isAgg370
 z36:=Tryz.sizeOf370
 v36:=Tryz.zeroValue370
 t41:=underlying165
 a41:=Tryz.isAgg165
 z41:=Tryz.sizeOf165
 v41:=Tryz.zeroValue165
 t44:=underlying376
 a44:=Tryz.isAgg376
 z44:=Tryz.sizeOf376
 v44:=Tryz.zeroValue376
 t46:=underlying247
 a46:=Tryz.isAgg247
 z46:=Tryz.sizeOf247
 v46:=Tryz.zeroValue247
 t53:=underlying419
 a53:=Tryz.isAgg419
 z53:=Tryz.sizeOf419
 v53:=Tryz.zeroValue419
 t57:=underlying363
 a57:=Tryz.isAgg363
 z57:=Tryz.sizeOf363
 v57:=Tryz.zeroValue363
 t63:=underlying441
 a63:=Tryz.isAgg441
 z63:=Tryz.sizeOf441
 v63:=Tryz.zeroValue441
 t64:=underlying343
 a64:=Tryz.isAgg343
 z64:=Tryz.sizeOf343
 v64:=Tryz.zeroValue343}
def Tryz.sY:Go.Shelf.Ren:=⟨λ |20=>246|n=>n,λ |22=>40|3=>3|4=>4|0=>0|n=>n,λ |n=>n⟩
theorem Tryz.Ao:Go.Proofs.Lays2.n20 av Tryz.sY:={
 mixed:=by kernel_rfl
 f20:=func246.trans (congrArg G (by kernel_rfl))
 t0:=underlying0
 a0:=Tryz.isAgg0
 z0:=Tryz.sizeOf0
 v0:=Tryz.zeroValue0
 t3:=underlying3
 a3:=Tryz.isAgg3
 z3:=Tryz.sizeOf3
 v3:=Tryz.zeroValue3
 t4:=underlying4
 a4:=Tryz.isAgg4
 z4:=Tryz.sizeOf4
 v4:=Tryz.zeroValue4
 t22:=underlying40
 a22:=Tryz.isAgg40
 z22:=Tryz.sizeOf40
 v22:=Tryz.zeroValue40
 i3:=by kernel_rfl}
open Go.Sort Go.RowKit in
theorem Tryz.slices_Sort_int(aW off cap:Nat)(zs:List Int)(w:aw)(hH:Holds (I J) w aW off zs.toArray)(hblk:aW<w.heap.size)(jh:zs.length<4611686018427387904):
 ax av 170 #[T (G ⟨aW,off,U⟩) zs.length cap] w λe w'=>
  e=ay (aB #[])/\∃n os,w'=grow (putRow (I J) (Sort.ahead w n) aW off (zs.mergeSort λx y=>decide (x<=y)).toArray) os:=AnyM.slices_Sort_int Tryz.pE aW off cap zs w hH hblk jh
open Go.RowKit Go.Sort in
theorem Tryz.slices_Sort_int_none(p:Option Addr)(cap:Nat)(w:aw):
 ax av 170 #[T p 0 cap] w λe w'=>e=ay (aB #[])/\w'=w:=AnyM.slices_Sort_int_none Tryz.pE p cap w
open Go.RowKit Go.Sort in
theorem Tryz.slices_Compact_int(aW off cap:Nat)(zs:List Int)(w:aw)(hH:Holds (I J) w aW off zs.toArray)(jh:zs.length<=9223372036854775807)(W8:zs.length<=cap):
 ax av 246 #[T (G ⟨aW,off,U⟩) zs.length cap] w λe w'=>e=ay (T (G ⟨aW,off,U⟩) (Lib.compact zs).length cap)/\∃q,w'=putRow (I J) (Sort.ahead w q) aW off (Lib.compact zs++List.replicate (zs.length- (Lib.compact zs).length) 0).toArray:=Any.slices_Compact_int Tryz.Ao aW off cap zs w hH jh W8
end Go.Proofs
namespace Go.Proofs.YtmaimjajdbgmiaaGreatDoor
open Go.Lib Go.RowKit
def kC(o:Int):List Value:=[I J o,I J 2]
def cP(l:List Int):List Value:=l.flatMap kC
theorem fV(l:List Int):(cP l).length=l.length*2:=pB (m:=2) (λ_ _=>rfl)
theorem qT{l:List Int}{i:Nat}{o:Int}(h:l[i]?=G o):(cP l)[i*2]?=G (I J o)/\(cP l)[i*2+1]?=G (I J 2):=by
 have g:=λj hj=>eI (f:=kC) (m:=2) (λ_ _=>rfl) h (j:=j) hj;exact⟨g 0 (by omega),g 1 (by omega)⟩
theorem wZ(l:List Int): ∀u∈cP l,u.oneCell'=true:=by
 intro u hu;obtain⟨r,_,hr⟩:=List.mem_flatMap.1 hu;simp only[kC,List.mem_cons,List.not_mem_nil,or_false]at hr;rcases hr with rfl|rfl<;>rfl
def fN(w:aw)(A:Option Addr)(n:Nat)(l:List Int):Prop:=l.length=n/\n<=1000/\Rd w A (cP l)
section
variable{w w':aw}{A:Option Addr}{n c:Nat}{l:List Int}
theorem fN.aR(h:fN w A n l)(hc:M w w'):fN w' A n l:=⟨h.1,h.2.1,h.2.2.aR hc⟩
theorem fN.at_(h:fN w A n l){i:Nat}{o:Int}(ho:l[i]?=G o): ∃b off,A=G ⟨b,off,U⟩/\b<w.heap.size/\w.cell? ⟨b,off+i*2,U⟩=G (I J o)/\w.cell? ⟨b,off+i*2+1,U⟩=G (I J 2):=by
 obtain⟨g0,g1⟩:=qT ho;obtain⟨b,off,hA,hb,hc⟩:=h.2.2 (fh g0);exact⟨b,off,hA,hb,hc _ _ g0,by rw[Nat.add_assoc];exact hc _ _ g1⟩
theorem mG(h:fN w A n l)(x:Int):ax av 253 #[T A n c,I J x] w λe w'=>e=ay (I J (if x∈l then 2 else 0))/\M w w':=by
 have H:=O h;have HL:=O h.1;have hn:(n:Int)<=1000:=by have:=h.2.1;omega
 obtain⟨R,hR⟩: ∃R:Int,(if x∈l then 2 else 0)=R:=⟨_,rfl⟩;rw[hR];have HR:=O hR;clear h hR;go_enter func253,ntmps253;go_wp2_with fail
 go_loopw[9] (λi wr=>∃k:Nat,k<=n/\i=I J k/\(∀j o,j<k->l[j]?=G o->o≠x)/\M w wr) (λi _=>n- (intOf i).toNat)
 case atStart=>exact⟨0,by omega,rfl,λj o hj=>absurd hj (by omega),Ch.r _ _⟩
 case round=>
  obtain⟨k,hk,rfl,nU,hC⟩:=hrel;have HC:=O hC;have HP:=O nU;clear nU hC;by_cases hlt:k<n
  ·obtain⟨o,ho⟩:=bh (show k<l.length by rw[HL.o];exact hlt);obtain⟨b,off,rfl,hb,x0,x1⟩:=(H.o.aR HC.o).at_ ho;have CI:=O (HC.o.alloc (az #[I J o,I J 2] 316));have HO:=O ho;clear ho;by_cases e:o=x
   ·subst e;obtain rfl:R=2:=by rw[<-HR.o,if_pos (bS HO.o)]
    have d1:(o==o)=true:=by simp
    go_wp2_with fail;go_ret;exact⟨rfl,CI.o⟩
   ·have d1:(o==x)=false:=by simpa using e
    have d2:decide (o=x)=false:=by simpa using e
    have HE:=O e;clear e;go_wp2_with fail;refine⟨⟨k+1,by omega,by go_num,λj o' hj Oo=>?_,CI.o⟩,by simp[intOf];omega⟩;by_cases e:j=k
    ·subst e;have:=HO.o.symm.trans Oo;injection this with this;rw[<-this];exact HE.o
    ·exact HP.o j o' (by omega) Oo
  ·obtain rfl:n=k:=by omega
   obtain rfl:R=0:=by
    rw[<-HR.o,if_neg];intro hx;obtain⟨j,hj⟩:=List.mem_iff_getElem?.1 hx;exact HP.o j x (by have:=bf hj;have:=HL.o;omega) hj rfl
   clear hlt hk;go_wp2_with fail;go_ret;exact⟨rfl,HC.o⟩
theorem um(w:aw):ax av 335 #[I J 2,I J 2] w λe w'=>e=ay (Y true)/\w'=w:=by
 go_enter func335,ntmps335;go_wp2_with fail;go_ret;exact⟨rfl,rfl⟩
theorem Kh(h:fN w A n l):ax av 369 #[T A n c,I J 2] w λe w'=>e=ay (Y (decide (n=0)))/\M w w':=by
 have H:=O h;have HL:=O h.1;have hn:(n:Int)<=1000:=by have:=h.2.1;omega
 have jj:=O um;clear h;by_cases h0:n=0
 ·subst h0;go_enter func369,ntmps369;go_wp2_with fail
  go_loopw[9] (λi wr=>i=I J 0/\M w wr) (λi _=>0)
  case atStart=>exact⟨rfl,Ch.r _ _⟩
  case round=>
   obtain⟨rfl,hC⟩:=hrel;have HC:=O hC;clear hC;go_wp2_with fail;go_ret;exact⟨rfl,HC.o⟩
 ·obtain⟨o,ho⟩:=bh (show 0<l.length by rw[HL.o];omega);have jW:(0:Int)<(n:Int):=by omega
  have HD:=O (show decide (n=0)=false by simpa using h0);go_enter func369,ntmps369;go_wp2_with fail
  go_loopw[9] (λi wr=>i=I J 0/\M w wr) (λi _=>0)
  case atStart=>exact⟨rfl,Ch.r _ _⟩
  case round=>
   obtain⟨rfl,hC⟩:=hrel;have HC:=O hC;obtain⟨b,off,rfl,hb,x0,x1⟩:=(H.o.aR HC.o).at_ ho;have CI:=O (HC.o.alloc (az #[I J o,I J 2] 316));simp only[Nat.zero_mul,Nat.add_zero]at x0 x1;clear hC ho;go_wp2_with fail;refine(jj.o _).mono ?_;rintro e w2 ⟨rfl,rfl⟩;dsimp only;go_wp2_with fail;go_ret;exact⟨by rw[HD.o];rfl,CI.o⟩
theorem Ph(K:ByteArray)(w:aw):ax av 333 #[V K] w λe w'=>e=ay (Y false)/\w'=w:=by
 have h1:(K.toList==K.toList)=true:=by simp
 go_enter func333,ntmps333;go_wp2_with fail;go_ret;exact⟨rfl,rfl⟩
end
theorem xd: ∀l:List UInt8,Op.bytesLess l l=false
 |[]=>rfl
 |a::t=>by
  have:=xd t;simp[Op.bytesLess,this]
theorem Au(K:ByteArray)(w:aw):ax av 259 #[V K,V K] w λe w'=>e=ay (I J 0)/\w'=w:=by
 have HN:=O (Ph K);have d1:=xd K.toList;go_enter func259,ntmps259;go_wp2_with fail;refine(HN.o _).mono ?_;rintro e w' ⟨rfl,rfl⟩;go_wp2_with fail;refine(HN.o _).mono ?_;rintro e w' ⟨rfl,rfl⟩;go_wp2_with fail;go_ret;exact⟨rfl,rfl⟩
def gh(K:ByteArray)(HA:Option Addr)(hn hc:Nat)(QA:Option Addr)(qn qc:Nat):List Value:=[V K,T HA hn hc,T QA qn qc]
theorem Dq(K:ByteArray)(HA:Option Addr)(hn hc:Nat)(QA:Option Addr)(qn qc:Nat)(w:aw):ax av 328 #[aC #[V K,T HA hn hc,T QA qn qc],V K] w λe w'=>e=ay (I J 0)/\M w w':=by
 have nQ:=O (Au K);have HN:=O (show M w (w.alloc (az #[V K,T HA hn hc,T QA qn qc] 321))from(Ch.r _ w).alloc _);go_enter func328,ntmps328;go_wp2_with fail;refine(nQ.o _).mono ?_;rintro e w' ⟨rfl,rfl⟩;go_wp2_with fail;go_ret;exact⟨rfl,HN.o⟩
theorem yE(w:aw)(A:Option Addr)(c:Nat)(K:ByteArray):ax av 327 #[T A 0 c,V K,.func (.func 328) #[] #[]] w λe w'=>e=ay (aB #[I J 0,Y false])/\M w w':=by
 go_enter func327,ntmps327;go_wp2_with fail
 go_loopw[9,10] (λiv jv wr=>iv=I J 0/\jv=I J 0/\M w wr) (λiv jv _=>0)
 case atStart=>exact⟨rfl,rfl,Ch.r _ _⟩
 case round=>
  obtain⟨rfl,rfl,hC⟩:=hrel;have HC:=O hC;clear hC;go_wp2_with fail;go_ret2;exact⟨rfl,HC.o⟩
def jy(w:aw)(A:Option Addr)(K:ByteArray)(HA:Option Addr)(hn hc:Nat)(QA:Option Addr)(qn qc:Nat):Prop:=Rd w A (gh K HA hn hc QA qn qc)
section
variable{w w':aw}{A:Option Addr}{K:ByteArray}{HA QA:Option Addr}{hn hc qn qc c:Nat}
theorem jy.at_(h:jy w A K HA hn hc QA qn qc): ∃b off,A=G ⟨b,off,U⟩/\b<w.heap.size/\w.cell? ⟨b,off,U⟩=G (V K)/\w.cell? ⟨b,off+1,U⟩=G (T HA hn hc)/\w.cell? ⟨b,off+2,U⟩=G (T QA qn qc):=by
 obtain⟨b,off,hA,hb,hx⟩:=h (by simp[gh]);exact⟨b,off,hA,hb,hx 0 _ rfl,hx 1 _ rfl,hx 2 _ rfl⟩
theorem yF(h:jy w A K HA hn hc QA qn qc):ax av 327 #[T A 1 c,V K,.func (.func 328) #[] #[]] w λe w'=>e=ay (aB #[I J 0,Y true])/\M w w':=by
 have H:=O h;have HF:=O (Dq K HA hn hc QA qn qc);clear h;go_enter func327,ntmps327;go_wp2_with fail
 go_loopw[9,10] (λiv jv wr=>∃j:Nat,j<=1/\iv=I J 0/\jv=I J j/\M w wr) (λiv jv _=>(intOf jv).toNat)
 case atStart=>exact⟨1,by omega,rfl,rfl,Ch.r _ _⟩
 case round=>
  obtain⟨j,hj,rfl,rfl,hC⟩:=hrel;have HC:=O hC;have H2:=O (show jy wr A K HA hn hc QA qn qc from Rd.aR H.o hC);obtain⟨b,off,rfl,hb,x0,x1,x2⟩:=H2.o.at_;clear hC;by_cases h1:j=1
  ·subst h1;clear hj;go_wp2_with fail;refine(HF.o _).mono ?_;rintro e w2 ⟨rfl,hN⟩;dsimp only;have jF:=O (HC.o.t hN);clear hN;go_wp2_with fail;exact⟨⟨0,by omega,rfl,rfl,jF.o⟩,by simp[intOf]⟩
  ·obtain rfl:j=0:=by omega
   clear hj h1;go_wp2_with fail;refine(HF.o _).mono ?_;rintro e w2 ⟨rfl,hN⟩;dsimp only;have jF:=O (HC.o.t hN);clear hN;go_wp2_with fail;go_ret2;exact⟨rfl,jF.o⟩
end
structure Ac(w:aw)(A:Option Addr)(n c:Nat)(l:List Int):Prop where
 own:w.ownsRow 0 316 2 (T A n c) n (cP l)
 len:l.length=n
 fx:n<=1000
structure wh(w:aw)(lb:Nat)(A:Option Addr)(c:Nat):Prop where
 aW:aX w lb 181 [T A 0 c].toArray
 own:w.ownsRow 0 321 3 (T A 0 c) 0 []
structure kV(w:aw)(lb:Nat)(K:ByteArray)(A:Option Addr)(c:Nat)(HA:Option Addr)(hn hc:Nat)(QA:Option Addr)(qn qc:Nat)(hs qs:List Int):Prop where
 aW:aX w lb 181 [T A 1 c].toArray
 own:w.ownsRow 0 321 3 (T A 1 c) 1 (gh K HA hn hc QA qn qc)
 ho:Ac w HA hn hc hs
 qu:Ac w QA qn qc qs
 ap: ∀g,(T HA hn hc).ownBlock=G g->¬(T QA qn qc).ownBlock=G g
def mH(lb:Nat)(A:Option Addr)(c:Nat):Nat->Prop:=λg=>g=lb\/(T A 0 c).ownBlock=G g
def fe(lb:Nat)(A:Option Addr)(c:Nat)(HA:Option Addr)(hn hc:Nat)(QA:Option Addr)(qn qc:Nat):Nat->Prop:=
 λg=>g=lb\/(T A 1 c).ownBlock=G g\/(T HA hn hc).ownBlock=G g\/(T QA qn qc).ownBlock=G g
section
variable{w w':aw}{lb:Nat}{K:ByteArray}{A HA QA:Option Addr}{c hn hc qn qc n:Nat}{hs qs l:List Int}
theorem Ac.ch{S:Nat->Prop}(h:Ac w A n c l)(hC:Ch S w w')(hS: ∀g,(T A n c).ownBlock=G g->¬S g):Ac w' A n c l:=⟨bg h.own hC hS,h.len,h.fx⟩
theorem Ac.aR(h:Ac w A n c l)(hC:M w w'):Ac w' A n c l:=h.ch hC (λ_ _ h=>h)
theorem Ac.rd(h:Ac w A n c l):fN w A n l:=⟨h.len,h.fx,Rd.own h.own⟩
theorem wh.ch{S:Nat->Prop}(h:wh w lb A c)(hC:Ch S w w')(hS: ∀g,mH lb A c g->¬S g):wh w' lb A c:=
 ⟨h.aW.ch hC (hS lb (.inl rfl)),bg h.own hC (λk hk=>hS k (.inr hk))⟩
theorem wh.aR(h:wh w lb A c)(hC:M w w'):wh w' lb A c:=h.ch hC (λ_ _ h=>h)
theorem kV.ch{S:Nat->Prop}(h:kV w lb K A c HA hn hc QA qn qc hs qs)(hC:Ch S w w')(hS: ∀g,fe lb A c HA hn hc QA qn qc g->¬S g):kV w' lb K A c HA hn hc QA qn qc hs qs:=
 ⟨h.aW.ch hC (hS lb (.inl rfl)),bg h.own hC (λk hk=>hS k (.inr (.inl hk))),h.ho.ch hC (λk hk=>hS k (.inr (.inr (.inl hk)))),h.qu.ch hC (λk hk=>hS k (.inr (.inr (.inr hk)))),h.ap⟩
theorem kV.aR(h:kV w lb K A c HA hn hc QA qn qc hs qs)(hC:M w w'):kV w' lb K A c HA hn hc QA qn qc hs qs:=h.ch hC (λ_ _ h=>h)
theorem wh.fC(h:wh w lb A c):oo (mH lb A c) w:=λg hg=>by
 rcases hg with e|e
 ·rw[e];exact h.aW.lt
 ·exact(h.own.lt g e).2
theorem kV.fC(h:kV w lb K A c HA hn hc QA qn qc hs qs):oo (fe lb A c HA hn hc QA qn qc) w:=λg hg=>by
 rcases hg with e|e|e|e
 ·rw[e];exact h.aW.lt
 ·exact(h.own.lt g e).2
 ·exact(h.ho.own.lt g e).2
 ·exact(h.qu.own.lt g e).2
theorem kV.rd(h:kV w lb K A c HA hn hc QA qn qc hs qs):jy w A K HA hn hc QA qn qc:=Rd.own h.own
theorem kV.line(h:kV w lb K A c HA hn hc QA qn qc hs qs): ∃g,A=G ⟨g,0,U⟩/\g<w.heap.size/\g≠lb/\(∀j,w.frozen? ⟨g,j,U⟩=false)/\w.cell? ⟨g,0,U⟩=G (V K)/\w.cell? ⟨g,1,U⟩=G (T HA hn hc)/\w.cell? ⟨g,2,U⟩=G (T QA qn qc):=by
 obtain⟨g,cap,hv,_,hlt⟩:=h.own.form (by omega);injection hv with hA _ _;subst hA;obtain⟨b,off,e,hb,x0,x1,x2⟩:=h.rd.at_;injection e with e;injection e with e1 e2;subst e1 e2;refine⟨g,rfl,hlt,λe=>?_,λj=>h.own.frozenAt j,x0,x1,x2⟩;subst e;exact aV h.own h.aW (by decide) rfl
theorem Fb(h:wh w lb A c):ax av 251 #[X (G ⟨lb,0,U⟩),V K] w λe w'=>e=ay (aB #[I J 0,Y false])/\M w w':=by
 have HS:=O (yE w A c K);have x0:=h.aW.c 0;have xl:=h.aW.lt;clear h;go_enter func251,ntmps251;go_wp2_with fail;refine HS.o.mono ?_;rintro e w' ⟨rfl,hN⟩;dsimp only;have HN:=O hN;clear hN HS;go_wp2_with fail;go_ret2;exact⟨rfl,HN.o⟩
theorem yG(h:kV w lb K A c HA hn hc QA qn qc hs qs):ax av 251 #[X (G ⟨lb,0,U⟩),V K] w λe w'=>e=ay (aB #[I J 0,Y true])/\M w w':=by
 have HS:=O (yF (c:=c) h.rd);have x0:=h.aW.c 0;have xl:=h.aW.lt;clear h;go_enter func251,ntmps251;go_wp2_with fail;refine HS.o.mono ?_;rintro e w' ⟨rfl,hN⟩;dsimp only;have HN:=O hN;clear hN HS;go_wp2_with fail;go_ret2;exact⟨rfl,HN.o⟩
theorem yH(hq:fN w QA qn qs)(hh:fN w HA hn hs)(hx: ∀o t,qs=o::t->o∉hs):ax av 322 #[aC #[V K,T HA hn hc,T QA qn qc]] w λe w'=>e=ay (Y (decide (0<qn)&&decide (hn=0)))/\M w w':=by
 have HN:=O (show M w (w.alloc (az #[V K,T HA hn hc,T QA qn qc] 321))from(Ch.r _ w).alloc _);cases qs with
 |nil=>
  have h0:qn=0:=by have:=hq.1;simpa using this.symm
  subst h0;have HR:=O (show(decide (0<0)&&decide (hn=0))=false by simp);rw[HR.o];clear hq hh hx HR;go_enter func322,ntmps322;go_wp2_with fail;go_ret;exact⟨rfl,HN.o⟩
 |cons o t=>
  have ho:o∉hs:=hx o t rfl;have h0:0<qn:=by have:=hq.1;simp at this;omega
  have h0I:(0:Int)<(qn:Int):=by omega
  obtain⟨b,off,rfl,hb,x0,x1⟩:=(hq.aR HN.o).at_ (i:=0) (o:=o) rfl;simp only[Nat.zero_mul,Nat.add_zero]at x0 x1;have bJ:=O (show M w ((w.alloc (az #[V K,T HA hn hc,T (G ⟨b,off,U⟩) qn qc] 321)).alloc (az #[I J o,I J 2] 316))from((Ch.r _ w).alloc _).alloc _);have B1:=O ((aX.new w 321 #[V K,T HA hn hc,T (G ⟨b,off,U⟩) qn qc]).ch (show M _ ((w.alloc (az #[V K,T HA hn hc,T (G ⟨b,off,U⟩) qn qc] 321)).alloc (az #[I J o,I J 2] 316))from(Ch.r _ _).alloc _) (λh=>h));have B2:=O (aX.new (w.alloc (az #[V K,T HA hn hc,T (G ⟨b,off,U⟩) qn qc] 321)) 316 #[I J o,I J 2]);have HO:=O (mG (c:=hc) (hh.aR bJ.o) o);rw[if_neg ho]at HO;have HH:=O hh;have d0:(decide (0<qn)&&decide (hn=0))=decide (hn=0):=by simp[h0]
  rw[d0];clear hq hh hx ho d0;go_enter func322,ntmps322;go_wp2_with fail;refine HO.o.mono ?_;rintro e w2 ⟨rfl,hN⟩;dsimp only;have cE:=O (bJ.o.t hN);have HF:=O (Kh (c:=hc) (HH.o.aR cE.o));have y1:=(B1.o.ch hN (λh=>h)).c 1;have z1:=(B2.o.ch hN (λh=>h)).c 1;have yl:=(B1.o.ch hN (λh=>h)).lt;have zl:=(B2.o.ch hN (λh=>h)).lt;simp only[World.size_alloc]at z1 zl;clear hN HO;go_wp2_with fail;refine HF.o.mono ?_;rintro e w3 ⟨rfl,hN⟩;dsimp only;have dQ:=O (cE.o.t hN);clear hN;go_wp2_with fail;go_ret;exact⟨rfl,dQ.o⟩
end
end Go.Proofs.YtmaimjajdbgmiaaGreatDoor
namespace Go.Proofs.YtmaimjajdbgmiaaGreatDoor
open Go.RowKit
section
variable{P:Program}
theorem mI(b:Nat): ∀(vs:List Value) (o:Nat) (w:aw),Ch (λk=>k=b) w (w.setCells b o vs)
 |[],_,w=>Ch.r _ w
 |v::r,o,w=>((Ch.r (λk=>k=b) w).setCell (p:=⟨b,o,U⟩) (.inl rfl) v).trans (mI b r (o+1) _) (λk hk=>.inl hk)
theorem Av(xs:List Value)(o:Nat)(v:Value)(r:List Value)(h:o<xs.length):splice (xs.set o v) (o+1) r=splice xs o (v::r):=by
 unfold splice;rw[List.take_set,List.drop_set];rw[if_pos (by omega)];have e:(List.take (o+1) xs).set o v=xs.take o++[v]:=by
  rw[List.take_add_one,List.set_append_right _ _ (by rw[List.length_take];omega)];rw[List.length_take,show o-min o xs.length=0 by omega,List.getElem?_eq_getElem h];rfl
 rw[e,List.length_cons,show o+1+r.length=o+(r.length+1) by omega];simp
theorem lO{b:Nat}{t:TypeId}: ∀(vs:List Value) (o:Nat) (w:aw) (cs:List Value),aX w b t cs.toArray->o+vs.length<=cs.length->aX (w.setCells b o vs) b t (splice cs o vs).toArray
 |[],o,w,cs,h,_=>by simpa [splice,World.setCells]using h
 |v::r,o,w,cs,h,hl=>by
  have ZJ:o+1+r.length<=cs.length:=by simp at hl;omega
  have h1:aX (w.setCell ⟨b,o,U⟩ v) b t (cs.set o v).toArray:=by simpa using h.bm o v
  have:=lO r (o+1) _ (cs.set o v) h1 (by rw[List.length_set];exact ZJ);rw[Av _ _ _ _ (by omega)]at this;exact this
theorem wi{z:Array Value}(hz: ∀u∈z.toList,u.oneCell'=true)(h0:0<z.size)(n:Nat): ∀u∈(Builtin.zeroCells z n).toList,u.oneCell'=true:=by
 intro u hu;simp only[Builtin.zeroCells,Array.toList_map,List.mem_map]at hu;obtain⟨i,_,rfl⟩:=hu;refine hz _ ?_;have hi:i%z.size<z.size:=Nat.mod_lt _ h0;rw[getElem!_pos z (i%z.size) hi];simp
theorem uo(w:aw)(dT ty elem:TypeId)(sz:Nat)(hu:P.underlying dT=G (.slice elem))(z:Value)(hz: ∀w,(zeroValue elem).run P w= .ok z w)(fY:z.cells.size=sz)(Oq: ∀u∈z.cells.toList,u.oneCell'=true)(jh:0<sz)
 (g off n c:Nat) (cur:List Value) (t:TypeId) (hg:aX w g t cur.toArray) (oK:off+n*sz<=cur.length):
 (Builtin.clear_ #[dT] ty #[T (G ⟨g,off,U⟩) n c]).run P w= .ok (aB #[]) (w.setCells g off (Builtin.zeroCells z.cells n).toList):=by
 have hl:(Builtin.zeroCells z.cells n).toList.length=n*sz:=by rw[Array.length_toList,size_zeroCells,fY]
 have h1:=wi Oq (by omega) n;generalize hZ:(Builtin.zeroCells z.cells n).toList=zs at hl h1⊢;have kO:=run_storeCells_cells (P:=P) g off zs 0 w (λj hj=>by
  rw[hg.c];simp;omega) (λj hj=>hg.frozen _) h1
 simp only[Nat.add_zero]at kO;cases n with
 |zero=>
  have:zs=[]:=List.eq_nil_of_length_eq_zero (by simpa using hl);subst this;simp[Builtin.clear_,run_underlying hu,World.setCells]
 |succ m=>simp[Builtin.clear_,run_underlying hu,hz,hZ,kO]
theorem wj{w:aw}{o:Oper}{a:Act}{K:Act->aw->Prop}{Q:Exit->Act->aw->Prop}(d:Operand)(dT:TypeId)
 (ho:o.op= .call {callee:=.builtin .clear,args:=#[d],argTypes:=#[dT]}) (elem:TypeId) (sz:Nat) (hu:P.underlying dT=G (.slice elem)) (z:Value) (hz: ∀w,(zeroValue elem).run P w= .ok z w) (fY:z.cells.size=sz)
 (Oq: ∀u∈z.cells.toList,u.oneCell'=true) (jh:0<sz) (g off n c:Nat) (hd:a.eval d=T (G ⟨g,off,U⟩) n c) (cur:List Value) (t:TypeId) (hg:aX w g t cur.toArray) (oK:off+n*sz<=cur.length)
 (h: ∀w' zs,zs.length=n*sz->aD (aX w' g t (splice cur off zs).toArray)->Ch (λk=>k=g) w w'->K (a.put o.dst (aB #[])) w'):o.wp P a w K Q:=by
 have kA:=uo (P:=P) w dT o.type elem sz hu z hz fY Oq jh g off n c cur t hg oK;have hl:(Builtin.zeroCells z.cells n).toList.length=n*sz:=by rw[Array.length_toList,size_zeroCells,fY]
 unfold Oper.wp;simp[execOp,ho,resolve,invoke,builtin,hd,kA,Result.andThen];exact h _ _ hl (lO _ _ _ _ hg (by rw[hl];exact oK)) (mI _ _ _ _)
theorem dJ{w:aw}{ops:Array Oper}{rest:List Oper}{o:Oper}{a:Act}{Q:Exit->Act->aw->Prop}(C8:o.guard=U)(d:Operand)(dT:TypeId)
 (ho:o.op= .call {callee:=.builtin .clear,args:=#[d],argTypes:=#[dT]}) (elem:TypeId) (sz:Nat) (hu:P.underlying dT=G (.slice elem)) (z:Value) (hz: ∀w,(zeroValue elem).run P w= .ok z w) (fY:z.cells.size=sz)
 (Oq: ∀u∈z.cells.toList,u.oneCell'=true) (jh:0<sz) (g off n c:Nat) (hd:a.eval d=T (G ⟨g,off,U⟩) n c) (cur:List Value) (t:TypeId) (hg:aX w g t cur.toArray) (oK:off+n*sz<=cur.length)
 (h: ∀w' zs,zs.length=n*sz->aD (aX w' g t (splice cur off zs).toArray)->Ch (λk=>k=g) w w'->wpList P ops Q rest (a.put o.dst (aB #[])) w'):wpList P ops Q (o::rest) a w:=
 wpList_plain C8 λ_ hK=>wj d dT ho elem sz hu z hz fY Oq jh g off n c hd cur t hg oK λw' zs h1 h2 h3=>hK _ _ (h w' zs h1 h2 h3)
theorem jY{w:aw}{ops:Array Oper}{o:Oper}{a:Act}{K:Act->aw->Prop}{Q:Exit->Act->aw->Prop}{E:Prop}(C8:o.guard=U)(s x:Operand)(t:TypeId)
 (ho:o.op= .call {callee:=.builtin .append,args:=#[s,x],argTypes:=#[t,t]}) (e:TypeId) (i:TypeInfo) (size:Nat) (h1:P.underlying t=G (.slice e)) (h2:P.info? e=G i) (h4:i.size=size)
 (b off n cap:Nat) (hs:a.eval s=T (G ⟨b,off,U⟩) n cap) (ad:Addr) (m c:Nat) (news:List Value) (hx:a.eval x=T (G ad) m c) (hn:news.length=m*size)
 (hc: ∀j u,news[j]?=G u->w.cell? (ad.add j)=G u) (h1c: ∀u∈news,u.oneCell'=true) (Xc:n+m<=cap)
 (cur:List Value) (t':TypeId) (hg:aX w b t' cur.toArray) (oK:off+n*size+news.length<=cur.length)
 (hK: ∀w',aD (aX w' b t' (splice cur (off+n*size) news).toArray)->Ch (λk=>k=b) w w'->K (a.put o.dst (T (G ⟨b,off,U⟩) (n+m) cap)) w'):
 if Region.wanted o (yielded ops a.tmps)=true then Oper.wp P o a w K Q else E:=
 step_append_room C8 s x t ho e i size h1 h2 h4 b off n cap hs ad m c news hx hn hc h1c Xc (λj hj=>⟨by rw[hg.c];simp;omega,hg.frozen _⟩)
  (hK _ (lO _ _ _ _ hg oK) (mI _ _ _ _))
end
end Go.Proofs.YtmaimjajdbgmiaaGreatDoor
namespace Go.Proofs.YtmaimjajdbgmiaaGreatDoor
open Go.Lib Go.RowKit
theorem nB:(av.info? 316).map (λi=>(i.zero,i.size,i.bytes))=G (G (aC #[I J 0,I J 0]),2,16):=by kernel_rfl
theorem GU{w:aw}{vb:Nat}{vs:List Value}{A:Option Addr}{c:Nat}(h:w.ownsRow 0 316 2 (T A 0 c) 0 [])(hv:aX w vb 316 vs.toArray)(ny:vs.length=2)(qQ: ∀u∈vs,u.oneCell'=true):
 ax av 254 #[T A 0 c,I J 0,T (G ⟨vb,0,U⟩) 1 1] w λe w'=>∃(A':Option Addr) (c':Nat),e=ay (T A' 1 c')/\w'.ownsRow 0 316 2 (T A' 1 c') 1 vs/\Ch (λg=>(T A 0 c).ownBlock=G g) w w'/\((T A' 1 c').ownBlock=(T A 0 c).ownBlock\/(T A' 1 c').ownBlock=G w.heap.size):=by
 obtain⟨i1,dX,er,eu,eK⟩:=info_parts nB;have H:=O h;have we:=O qQ;have lG:=O (show Reads w w.heap.size 2 (G ⟨vb,0,U⟩) 1 vs from⟨by rw[ny],λ_=>⟨_,rfl,hv.lt,λj u hu=>by
  rw[show(⟨vb,0,U⟩:Addr).add j=⟨vb,j,U⟩ by unfold Addr.add;split<;>simp_all,hv.c];simpa using hu⟩⟩)
 have uj:(A=U/\c=0)\/∃g,A=G ⟨g,0,U⟩/\c<=maxLen:=by
  rcases h.2 with⟨e,h0⟩|⟨g,cap,cur,e,_⟩
  ·injection e with e1 e2 e3;exact .inl ⟨e1,e3⟩
  ·injection e with e1 e2 e3;subst e1;obtain⟨Z,_,_,_,fA⟩:=cV h;exact .inr ⟨g,rfl,fA⟩
 clear h hv ny qQ;rcases uj with⟨rfl,rfl⟩|⟨g,rfl,fA⟩
 ·go_enter func254,ntmps254;go_wp2_with(first
   |(at_builtin
     refine bp _ rfl (.tmp 23) (.tmp 24) _ rfl 0 316 i1 _ 2 16 underlying319 dX er eu eK rfl (by omega) (T U 0 0) 0 [] rfl
      H.o w.heap.size (G ⟨vb,0,U⟩) 1 1 vs rfl lG.o we.o (by simp only[maxLen];omega) (by omega) (Nat.zero_le _) ?_
     intro v8 w8 bM dS dG;obtain⟨A8,c8,rfl⟩:=bz bM;have mh:=O bM;have iT:=O (Ch.bF dS);have nS:=O dG;clear bM dS dG))
  all_goals
   go_ret;exact⟨A8,c8,rfl,mh.o,iT.o.mono (λk hk=>hk.symm▸rfl),nS.o⟩
 ·have Jy:(c:Int)<=9223372036854775807:=by unfold maxLen at fA;omega
  have hc0:(0:Int)<=(c:Int):=by omega
  clear fA;go_enter func254,ntmps254;go_wp2_with(first
   |(at_builtin
     refine bp _ rfl (.tmp 23) (.tmp 24) _ rfl 0 316 i1 _ 2 16 underlying319 dX er eu eK rfl (by omega) (T (G ⟨g,0,U⟩) 0 c) 0 [] rfl
      H.o w.heap.size (G ⟨vb,0,U⟩) 1 1 vs rfl lG.o we.o (by simp only[maxLen];omega) (by omega) (Nat.zero_le _) ?_
     intro v8 w8 bM dS dG;obtain⟨A8,c8,rfl⟩:=bz bM;have mh:=O bM;have iT:=O (Ch.bF dS);have nS:=O dG;clear bM dS dG))
  all_goals
   go_ret;exact⟨A8,c8,rfl,mh.o,iT.o.mono (λk hk=>hk.symm▸rfl),nS.o⟩
theorem xe:(av.info? 321).map (λi=>(i.zero,i.size,i.bytes))=G (G (aC #[V ⟨#[]⟩,T U 0 0,T U 0 0]),3,64):=by kernel_rfl
theorem GV{w:aw}{vb:Nat}{vs:List Value}{A:Option Addr}{c:Nat}(h:w.ownsRow 0 321 3 (T A 0 c) 0 [])(hv:aX w vb 321 vs.toArray)(ny:vs.length=3)(qQ: ∀u∈vs,u.oneCell'=true):
 ax av 252 #[T A 0 c,I J 0,T (G ⟨vb,0,U⟩) 1 1] w λe w'=>∃(A':Option Addr) (c':Nat),e=ay (T A' 1 c')/\w'.ownsRow 0 321 3 (T A' 1 c') 1 vs/\Ch (λg=>(T A 0 c).ownBlock=G g) w w'/\((T A' 1 c').ownBlock=(T A 0 c).ownBlock\/(T A' 1 c').ownBlock=G w.heap.size):=by
 obtain⟨i1,dX,er,eu,eK⟩:=info_parts xe;have H:=O h;have we:=O qQ;have lG:=O (show Reads w w.heap.size 3 (G ⟨vb,0,U⟩) 1 vs from⟨by rw[ny],λ_=>⟨_,rfl,hv.lt,λj u hu=>by
  rw[show(⟨vb,0,U⟩:Addr).add j=⟨vb,j,U⟩ by unfold Addr.add;split<;>simp_all,hv.c];simpa using hu⟩⟩)
 have uj:(A=U/\c=0)\/∃g,A=G ⟨g,0,U⟩/\c<=maxLen:=by
  rcases h.2 with⟨e,h0⟩|⟨g,cap,cur,e,_⟩
  ·injection e with e1 e2 e3;exact .inl ⟨e1,e3⟩
  ·injection e with e1 e2 e3;subst e1;obtain⟨Z,_,_,_,fA⟩:=cV h;exact .inr ⟨g,rfl,fA⟩
 clear h hv ny qQ;rcases uj with⟨rfl,rfl⟩|⟨g,rfl,fA⟩
 ·go_enter func252,ntmps252;go_wp2_with(first
   |(at_builtin
     refine bp _ rfl (.tmp 23) (.tmp 24) _ rfl 0 321 i1 _ 3 64 underlying179 dX er eu eK rfl (by omega) (T U 0 0) 0 [] rfl
      H.o w.heap.size (G ⟨vb,0,U⟩) 1 1 vs rfl lG.o we.o (by simp only[maxLen];omega) (by omega) (Nat.zero_le _) ?_
     intro v8 w8 bM dS dG;obtain⟨A8,c8,rfl⟩:=bz bM;have mh:=O bM;have iT:=O (Ch.bF dS);have nS:=O dG;clear bM dS dG))
  all_goals
   go_ret;exact⟨A8,c8,rfl,mh.o,iT.o.mono (λk hk=>hk.symm▸rfl),nS.o⟩
 ·have Jy:(c:Int)<=9223372036854775807:=by unfold maxLen at fA;omega
  have hc0:(0:Int)<=(c:Int):=by omega
  clear fA;go_enter func252,ntmps252;go_wp2_with(first
   |(at_builtin
     refine bp _ rfl (.tmp 23) (.tmp 24) _ rfl 0 321 i1 _ 3 64 underlying179 dX er eu eK rfl (by omega) (T (G ⟨g,0,U⟩) 0 c) 0 [] rfl
      H.o w.heap.size (G ⟨vb,0,U⟩) 1 1 vs rfl lG.o we.o (by simp only[maxLen];omega) (by omega) (Nat.zero_le _) ?_
     intro v8 w8 bM dS dG;obtain⟨A8,c8,rfl⟩:=bz bM;have mh:=O bM;have iT:=O (Ch.bF dS);have nS:=O dG;clear bM dS dG))
  all_goals
   go_ret;exact⟨A8,c8,rfl,mh.o,iT.o.mono (λk hk=>hk.symm▸rfl),nS.o⟩
theorem yI(w:aw)(A:Option Addr)(c:Nat)(x:Int):ax av 370 #[T A 0 c,I J x,.func (.func 371) #[] #[]] w λe w'=>e=ay (aB #[I J 0,Y false])/\M w w':=by
 go_enter func370,ntmps370;go_wp2_with fail
 go_loopw[9,10] (λiv jv wr=>iv=I J 0/\jv=I J 0/\M w wr) (λiv jv _=>0)
 case atStart=>exact⟨rfl,rfl,Ch.r _ _⟩
 case round=>
  obtain⟨rfl,rfl,hC⟩:=hrel;have HC:=O hC;clear hC;go_wp2_with fail;go_ret2;exact⟨rfl,HC.o⟩
theorem TK(o:Int): ∀u∈kC o,u.oneCell'=true:=λu hu=>wZ [o] u (by simpa [cP]using hu)
section
variable{w w':aw}{A:Option Addr}{n c:Nat}{l:List Int}
def HoP(w:aw)(ov:Value)(l:List Int)(e:Ending)(w':aw):Prop:=
 ∃(A':Option Addr) (c':Nat),e=ay (T A' l.length c')/\Ac w' A' l.length c' l/\Ch (λg=>ov.ownBlock=G g) w w'/\∀g,(T A' l.length c').ownBlock=G g->ov.ownBlock=G g\/w.heap.size<=g
theorem TL(h:Ac w A 0 c [])(o:Int):ax av 324 #[T A 0 c,aC #[I J o,I J 2]] w (HoP w (T A 0 c) [o]):=by
 have gI:=O (show M w (w.alloc (az #[I J o,I J 2] 316))from(Ch.r _ w).alloc _);have B1:=O (aX.new w 316 #[I J o,I J 2]);have HS:=O (yI (w.alloc (az #[I J o,I J 2] 316)) A c o);have H:=O h;clear h;go_enter func324,ntmps324;go_wp2_with fail;refine HS.o.mono ?_;rintro e w2 ⟨rfl,hN⟩;dsimp only;have bJ:=O (gI.o.t hN);have B2:=O (B1.o.ch hN (λh=>h));have⟨y0,y1⟩:=vS B2.o;have yl:=B2.o.lt;clear hN HS;go_wp2_with fail;have cE:=O (show M w (w2.alloc (az #[I J o,I J 2] 316))from bJ.o.alloc _);have HI:=O (GU (H.o.aR cE.o).own (show aX (w2.alloc (az #[I J o,I J 2] 316)) w2.heap.size 316 (kC o).toArray from aX.new w2 316 #[I J o,I J 2]) rfl (TK o));refine HI.o.mono ?_;rintro e w4 ⟨A',c',rfl,cU,hC,hat⟩;dsimp only;have qD:=O cU;have cK:=O hC;have Fa:=O hat;clear cU hC hat HI;go_wp2_with fail;go_ret;refine⟨A',c',rfl,⟨by simpa [cP]using qD.o,rfl,by simp⟩,(cE.o.mono (λ_ h=>h.elim)).trans cK.o (λk hk=>.inl hk),λg hg=>?_⟩;rcases Fa.o with e|e
 ·exact .inl (e▸hg)
 ·right
  have:=e.symm.trans hg;injection this with this;have h3:=cE.o.size;omega
end
theorem Ki{w:aw}{g n c i j:Nat}{xs:List Value}(h:w.ownsRow 0 316 2 (T (G ⟨g,0,U⟩) n c) n xs)(ot: ∀u∈xs,u.oneCell'=true)(hn:n<=100000)(hi:i<n)(hj:j=i+1):
 ax av 323 #[T (G ⟨g,0,U⟩) n c,I J i,I J j] w λe w'=>e=ay (T (G ⟨g,0,U⟩) (n-1) c)/\w'.ownsRow 0 316 2 (T (G ⟨g,0,U⟩) (n-1) c) (n-1) (xs.take (i*2)++xs.drop (j*2))/\Ch (λk=>k=g) w w':=by
 obtain⟨i1,dX,er,eu,eK⟩:=info_parts nB;obtain⟨Z,hb,pD,tD,fA⟩:=cV h;have HB:=O hb;have Jy:(c:Int)<=9223372036854775807:=by unfold maxLen at fA;omega
 have jW:(n:Int)<=100000:=by omega
 have Dk:(n:Int)<=(c:Int):=by omega
 have Ot:(j:Int)<=(n:Int):=by omega
 have TM:(i:Int)<=(j:Int):=by omega
 have Kj:(i:Int)<=(c:Int):=by omega
 have Xd:(j:Int)<=(c:Int):=by omega
 have Xe:i<=c:=by omega
 have TN:j<=c:=by omega
 have hjn:j<=n:=by omega
 have tG:i<=j:=by omega
 have d1:((i:Int)==(j:Int))=false:=by simp;omega
 have d2:decide ((i:Int)=(j:Int))=false:=by simp;omega
 have d3: ¬i=j:=by omega
 have su:=h.1;have hlen:(xs.drop (j*2)).length=(n-j)*2:=by rw[List.length_drop,su];omega
 obtain⟨A,hA,qP⟩: ∃A:Addr,(if c=j then(G (⟨g,0,U⟩:Addr))else G ⟨g,j*2,U⟩)=G A/\aD (∀t u,(xs.drop (j*2))[t]?=G u->w.drew.cell? (A.add t)=G u):=by
  by_cases e:c=j
  ·refine⟨⟨g,0,U⟩,by simp[e],λt u hu=>?_⟩;have h0:(xs.drop (j*2)).length=0:=by rw[hlen];omega
   rw[List.length_eq_zero_iff.1 h0]at hu;simp at hu
  ·refine⟨⟨g,j*2,U⟩,by simp[e],λt u hu=>?_⟩;rw[show(⟨g,j*2,U⟩:Addr).add t=⟨g,j*2+t,U⟩ by unfold Addr.add;split<;>simp_all];show w.cell? _=_;rw[hb.c];rw[List.getElem?_drop]at hu;simp only[List.getElem?_toArray];rw[List.getElem?_append_left (bf hu)];exact hu
 obtain⟨m,hm⟩:=bG (i+(n-j));have Dr:=O hlen;have ki:=O (show∀u∈xs.drop (j*2),u.oneCell'=true from λu hu=>ot u (List.mem_of_mem_drop hu));have jX:=O (show 0+i*2+(xs.drop (j*2)).length<=(xs++Z).length by rw[hlen,aL,su];omega);have pJ:=O (show m*2+(n-m)*2<=(splice (xs++Z) (0+i*2) (xs.drop (j*2))).length by rw[length_splice _ _ _ jX.o,aL,su];omega);have qR:=O (λ(zs:List Value) (hz:zs.length=(n-m)*2)=>show splice (splice (xs++Z) (0+i*2) (xs.drop (j*2))) (m*2) zs=(xs.take (i*2)++xs.drop (j*2))++(zs++Z)from by
  have e1:splice (xs++Z) (0+i*2) (xs.drop (j*2))=(xs.take (i*2)++xs.drop (j*2))++(xs.drop ((n-1)*2)++Z):=by
   unfold splice;rw[Nat.zero_add,hlen,List.take_append_of_le_length (by omega),List.drop_append_of_le_length (by omega),show i*2+(n-j)*2=(n-1)*2 by omega,List.append_assoc]
  rw[e1];have l1:(xs.take (i*2)++xs.drop (j*2)).length=m*2:=by rw[aL,hlen,List.length_take];omega
  have l2:(xs.drop ((n-1)*2)).length=2:=by rw[List.length_drop,su];omega
  unfold splice;have t1:=List.take_left (l₁:=xs.take (i*2)++xs.drop (j*2)) (l₂:=xs.drop ((n-1)*2)++Z);rw[l1]at t1;have t2:((xs.take (i*2)++xs.drop (j*2))++(xs.drop ((n-1)*2)++Z)).drop (m*2+zs.length)=Z:=by
   rw[<-List.append_assoc];have t3:=List.drop_left (l₁:=(xs.take (i*2)++xs.drop (j*2))++xs.drop ((n-1)*2)) (l₂:=Z);rw[aL,l1,l2]at t3;rw[hz,show(n-m)*2=2 by omega];exact t3
  rw[t1,t2])
 have mi:=O (show(xs.take (i*2)++xs.drop (j*2)).length=(n-1)*2/\∀zs:List Value,zs.length=(n-m)*2->((xs.take (i*2)++xs.drop (j*2))++(zs++Z)).length=c*2 from by
  refine⟨by rw[aL,hlen,List.length_take];omega,λzs hz=>?_⟩;rw[aL]at pD;rw[aL,aL,aL,hlen,List.length_take,hz];omega)
 have nV:=O fA;have TP:m<=n:=by omega
 have Xf:m<=c:=by omega
 have Aw:n-1=m:=by omega
 rw[Aw]at mi⊢;have hmI:((i:Int)+((n-j:Nat):Int))=(m:Int):=by omega
 clear h ot hn hj hb pD su hlen fA Aw;go_enter func323,ntmps323;go_wp2_with fail
 go_region_law((refine jY rfl (.tmp 22) (.tmp 25) 319 rfl 316 i1 2 underlying319 dX eu g 0 i c (by simp[Act.eval,Act.put]) A (n-j) (c-j) (xs.drop (j*2)) (by simp[Act.eval,Act.put]) Dr.o qP.o ki.o (by omega) (xs++Z) 316 HB.o jX.o ?_);intro w4 TG wg)
 have cK:=O (show Ch (λk=>k=g) w w4 from((Ch.r _ w).drew).t wg);clear wg;go_wp2_with(first
  |(refine dJ rfl (.tmp 31) 319 rfl 316 2 underlying319 (aC #[I J 0,I J 0]) (λw=>by simp[zeroValue,typeInfo,dX,er]) rfl (by simp[Value.cells,Value.oneCell']) (by omega) g (m*2) (n-m) (c-m) (by simp[Act.eval]) (splice (xs++Z) (0+i*2) (xs.drop (j*2))) 316 TG.o pJ.o ?_
    intro w5 zs Ax kg yA))
 go_ret;refine⟨rfl,?_,cK.o.t yA⟩;have nT:=kg.o;rw[qR.o zs Ax]at nT;exact eh (Z:=zs++Z) (Nat.zero_le _) mi.o.1 nT (mi.o.2 zs Ax) (by omega) nV.o
theorem iH:(av.info? 3).map (λi=>(i.zero,i.size,i.bytes))=G (G (I J 0),1,8):=by kernel_rfl
section
variable{w w':aw}{lb g:Nat}{K:ByteArray}{A HA QA:Option Addr}{c hn hc qn qc n:Nat}{hs qs l t:List Int}{o:Int}
theorem Ac.form(h:Ac w A n c l)(hn:0<n): ∃b,A=G ⟨b,0,U⟩/\b<w.heap.size:=by
 obtain⟨g,cap,hv,_,hlt⟩:=h.own.form hn;injection hv with hA _ _;exact⟨g,hA,hlt⟩
theorem Ds(h:kV w lb K (G ⟨g,0,U⟩) c HA hn hc QA qn qc hs qs)(hx:qs=[]\/hs≠[]/\∀o t,qs=o::t->o∉hs):
 ax av 243 #[X (G ⟨g,0,U⟩)] w λe w'=>e=ay (T U 0 0)/\M w w':=by
 have H:=O h;have hm: ∀w',M w w'->ax av 322 #[aC #[V K,T HA hn hc,T QA qn qc]] w' λe eZ=>e=ay (Y false)/\M w' eZ:=λw' hC=>by
  have h2:=H.o.aR hC;refine(yH h2.qu.rd h2.ho.rd ?_).mono ?_
  ·intro o t e;rcases hx with rfl|⟨_,hx⟩
   ·cases e
   ·exact hx o t e
  ·rintro e eZ ⟨rfl,hN⟩;refine⟨?_,hN⟩;congr 2
   rcases hx with rfl|⟨eQ,_⟩
   ·have:qn=0:=by have:=h.qu.len;simpa using this.symm
    simp[this]
   ·have: ¬hn=0:=by
     intro e;have:=h.ho.len;rw[e]at this;exact eQ (List.eq_nil_of_length_eq_zero this)
    simp[this]
 have HM:=O hm;clear h hx hm;go_enter func243,ntmps243;go_wp2_with fail
 go_loopw[3] (λv wr=>v=T U 0 0/\M w wr) (λ_ _=>0)
 case atStart=>exact⟨rfl,Ch.r _ _⟩
 case round=>
  obtain⟨rfl,hC⟩:=hrel;have HC:=O hC;obtain⟨g',e,hl,eQ,dL,x0,x1,x2⟩:=(H.o.aR hC).line;injection e with e;injection e with e1 _;subst e1;have HMC:=O (HM.o _ hC);clear hC dL;go_wp2_with fail;refine HMC.o.mono ?_;rintro e w2 ⟨rfl,hN⟩;dsimp only;have jF:=O (HC.o.t hN);clear hN;go_wp2_with fail;go_ret;exact⟨rfl,jF.o⟩
def Xg(w:aw)(lb g:Nat)(K:ByteArray)(c:Nat)(HA:Option Addr)(hc:Nat)(QA:Option Addr)(qn qc:Nat)(o:Int)(t:List Int)(v:Value)(w':aw):Prop:=
 ∃(uq:Option Addr) (nQ:Nat) (SA:Option Addr) (sc:Nat),v=T SA 1 sc/\w'.ownsRow 0 3 1 v 1 [I J o]/\(∀k,v.ownBlock=G k->w.heap.size<=k)/\
  kV w' lb K (G ⟨g,0,U⟩) c uq 1 nQ QA t.length qc [o] t/\Ch (λk=>k=g\/(T HA 0 hc).ownBlock=G k\/(T QA qn qc).ownBlock=G k) w w'/\
  ∀k,(T uq 1 nQ).ownBlock=G k->(T HA 0 hc).ownBlock=G k\/w.heap.size<=k
theorem Pj(h:kV w lb K (G ⟨g,0,U⟩) c HA 0 hc QA qn qc [] (o::t))(hx:o∉t):
 ax av 243 #[X (G ⟨g,0,U⟩)] w λe w'=>∃v,e=ay v/\Xg w lb g K c HA hc QA qn qc o t v w':=by
 have H:=O h;have HX:=O hx;have hq:qn=t.length+1:=by have:=h.qu.len;simpa using this.symm
 subst hq;clear h hx;go_enter func243,ntmps243;go_wp2_with fail
 go_loopw[3] (λv wr=>(v=T U 0 0/\M w wr)\/Xg w lb g K c HA hc QA (t.length+1) qc o t v wr) (λv _=>match v with|T _ 0 _=>1|_=>0)
 case atStart=>exact .inl ⟨rfl,Ch.r _ _⟩
 case round=>
  rcases hrel with⟨rfl,hC⟩|⟨uq,nQ,SA,sc,rfl,cU,gu,hL,hC,hat⟩
  ·have HC:=O hC;have H1:=O (H.o.aR hC);obtain⟨g',e,hl,eQ,dL,x0,x1,x2⟩:=H1.o.line;injection e with e;injection e with e1 _;subst e1;have HM:=O (yH (K:=K) (hc:=hc) (qc:=qc) H1.o.qu.rd H1.o.ho.rd (λo t _=>List.not_mem_nil));rw[show(decide (0<t.length+1)&&decide (0=0))=true by simp]at HM;clear hC dL;go_wp2_with fail;refine HM.o.mono ?_;rintro e w2 ⟨rfl,hN⟩;dsimp only;have jF:=O (HC.o.t hN);have H2:=O (H1.o.aR hN);obtain⟨g',e,hl,eQ,dL,y0,y1,y2⟩:=H2.o.line;injection e with e;injection e with e1 _;subst e1;obtain⟨b,hQA,hb⟩:=H2.o.qu.form (by omega);subst hQA;obtain⟨b',off,e,_,z0,z1⟩:=H2.o.qu.rd.at_ (i:=0) (o:=o) rfl;injection e with e;injection e with e1 e2;subst e1 e2;simp only[Nat.zero_mul,Nat.add_zero,Nat.zero_add]at z0 z1;have jW:(0:Int)<((t.length:Int)+1):=by omega
   have TQ:=O (show M w (w2.alloc (az #[I J o,I J 2] 316))from jF.o.alloc _);have BX:=O (aX.new w2 316 #[I J o,I J 2]);have H3:=O (H.o.aR TQ.o);have HD:=O (Ki (i:=0) (j:=1) H3.o.qu.own (wZ _) (by have:=H3.o.qu.fx;omega) (by omega) rfl);clear hN HM dL;go_wp2_with fail;refine HD.o.mono ?_;rintro e w4 ⟨rfl,cU,Ad⟩;dsimp only;have Kk: ¬b=g:=λe=>by
    subst e;obtain⟨cur,ev⟩:=ef H3.o.own;exact aV H3.o.qu.own ev (by decide) rfl
   have xg:=O Kk;have cJ:=O (show b<w2.heap.size from hb);have qD:=O (show w4.ownsRow 0 316 2 (T (G ⟨b,0,U⟩) t.length qc) t.length (cP t)from cU);have sw:=O (bg H3.o.own Ad (λk hk e=>by injection hk with hk;exact Kk (e.symm.trans hk.symm)));have V8:=O (H3.o.ho.ch Ad (λk hk e=>H3.o.ap k hk (by rw[e];rfl)));have BX4:=O (BX.o.ch Ad (λe=>by have:=cJ.o;omega));have TR:=O (H3.o.aW.ch Ad (λe=>aV H3.o.qu.own H3.o.aW (by decide) (by rw[e];rfl)));obtain⟨g',ta,e,Kl,v0,v1,v2⟩:=(show jy w4 (G ⟨g,0,U⟩) K HA 0 hc (G ⟨b,0,U⟩) (t.length+1) qc from Rd.own sw.o).at_;injection e with e;injection e with e1 e2;subst e1 e2;simp only[Nat.zero_add]at v1 v2;have vf:=sw.o.frozenAt 2;have cK:=O Ad;simp only[Nat.add_sub_cancel];clear cU Ad HD Kk y0 y1 y2 z0 z1 x0 x1 x2;go_wp2_with fail;have mJ:=O (show(w4.setCell ⟨g,2,U⟩ (T (G ⟨b,0,U⟩) t.length qc)).ownsRow 0 321 3 (T (G ⟨g,0,U⟩) 1 c) 1 (gh K HA 0 hc (G ⟨b,0,U⟩) t.length qc)from(sw.o.stored 2 _).1);have J8:=O (Ch.setCell (p:=⟨g,2,U⟩) (Ch.r (λk=>k=g) w4) (.inl rfl) (T (G ⟨b,0,U⟩) t.length qc));have pN:=O (bg qD.o J8.o (λk hk e=>by injection hk with hk;exact xg.o (hk.trans e)));have hHg: ∀(w':aw) (A':Option Addr) (n' c':Nat) (xs:List Value),w'.ownsRow 0 316 2 (T A' n' c') n' xs->w'.ownsRow 0 321 3 (T (G ⟨g,0,U⟩) 1 c) 1 (gh K HA 0 hc (G ⟨b,0,U⟩) t.length qc)->¬(T A' n' c').ownBlock=G g:=λw' A' n' c' xs h1 h2=>by
    obtain⟨cur,ev⟩:=ef h2;exact aV h1 ev (by decide)
   have HHG:=O hHg;have hHA: ¬(T HA 0 hc).ownBlock=G g:=by
    obtain⟨cur,ev⟩:=ef sw.o;exact aV V8.o.own ev (by decide)
   have TS:=O hHA;have HH5:=O (V8.o.ch J8.o (λk hk e=>hHA (by rw[<-e];exact hk)));have hxg: ¬w2.heap.size=g:=by
    obtain⟨cur,ev⟩:=ef sw.o;exact aX.lF BX4.o ev (by decide)
   have Xh:=O (BX4.o.ch J8.o hxg);have Fc: ¬lb=g:=by
    obtain⟨cur,ev⟩:=ef sw.o;exact aX.lF TR.o ev (by decide)
   have xh:=O Fc;have TT:=O (TR.o.ch J8.o Fc);have dZ:=O (show Ch (λk=>k=g\/(T HA 0 hc).ownBlock=G k\/(T (G ⟨b,0,U⟩) (t.length+1) qc).ownBlock=G k) w (w4.setCell ⟨g,2,U⟩ (T (G ⟨b,0,U⟩) t.length qc))from
    ((TQ.o.mono (λ_ h=>h.elim)).t (cK.o.mono (λk hk=>.inr (.inr (by rw[hk];rfl))))).t (J8.o.mono (λk hk=>.inl hk)))
   generalize w4.setCell ⟨g,2,U⟩ (T (G ⟨b,0,U⟩) t.length qc)=w5 at *;have pL:=O (λ(w':aw) (hC:M w5 w')=>TL (HH5.o.aR hC) o);have HK6:=O (λ(w' w6:aw) (hC:M w5 w') (nC:Ch (λk=>(T HA 0 hc).ownBlock=G k) w' w6)=>show w6.ownsRow 0 321 3 (T (G ⟨g,0,U⟩) 1 c) 1 (gh K HA 0 hc (G ⟨b,0,U⟩) t.length qc)from
    bg (bg mJ.o hC (λ_ _ h=>h)) nC (λk hk e=>TS.o (by cases hk;exact e)))
   obtain⟨g',ta,e,CJ,v0,v1,v2⟩:=(show jy w5 (G ⟨g,0,U⟩) K HA 0 hc (G ⟨b,0,U⟩) t.length qc from Rd.own mJ.o).at_;injection e with e;injection e with e1 e2;subst e1 e2;simp only[Nat.zero_add]at v1 v2;have⟨z0,z1⟩:=vS Xh.o;have zl:=Xh.o.lt;clear vf hHg hHA hxg Fc cK sw J8 qD V8 BX4 TR Kl
   go_region_law((go_simp;go_at_call 324;(refine(pL.o _ (by first|exact(Ch.r _ w5).drew|exact Ch.r _ w5)).mono ?_);rintro e w6 ⟨A6,c6,rfl,ho6,V7,ha6⟩;have Km:=O (HK6.o _ w6 (by first|exact(Ch.r _ w5).drew|exact Ch.r _ w5) V7);have CK:=O ho6;have iU:=O V7;have iV:=O ha6;obtain⟨g',ta,e,hl6,q0,q1,q2⟩:=(show jy w6 (G ⟨g,0,U⟩) K HA 0 hc (G ⟨b,0,U⟩) t.length qc from Rd.own Km.o).at_;injection e with e;injection e with e1 e2;subst e1 e2;simp only[Nat.zero_add]at q1 q2;have vf6:=Km.o.frozenAt 1;clear ho6 V7 ha6;dsimp only))
   all_goals
    have HH7:=O (fi CK.o.own (a:=⟨g,1,U⟩) (HHG.o w6 A6 1 c6 _ CK.o.own Km.o) (T A6 1 c6));have V9:=O (show(w6.setCell ⟨g,1,U⟩ (T A6 1 c6)).ownsRow 0 321 3 (T (G ⟨g,0,U⟩) 1 c) 1 (gh K A6 1 c6 (G ⟨b,0,U⟩) t.length qc)from(Km.o.stored 1 _).1);have wk:=O (Ch.setCell (p:=⟨g,1,U⟩) (Ch.r (λk=>k=g) w6) (.inl rfl) (T A6 1 c6));have Kn:=O (show Ch (λk=>(T HA 0 hc).ownBlock=G k) w5 w6 from by first|exact iU.o|exact((Ch.r _ w5).drew).t iU.o);have td:=O (bg (bg pN.o Kn.o (λk hk e=>H3.o.ap k e hk)) wk.o (λk hk e=>xg.o (by injection hk with hk;exact hk.trans e)));have qa4:=O ((TT.o.ch Kn.o (λe=>aV HH5.o.own TT.o (by decide) e)).ch wk.o xh.o);have BX7:=O ((Xh.o.ch Kn.o (λe=>by have:=(H2.o.ho.own.lt _ e).2;omega)).ch wk.o (λe=>by
     obtain⟨cur,ev⟩:=ef mJ.o;exact aX.lF Xh.o ev (by decide) e))
    have xi:=O ((dZ.o.t (Kn.o.mono (λk hk=>.inr (.inl hk)))).t (wk.o.mono (λk hk=>.inl hk)));have TU:=O (show w.heap.size<=w5.heap.size from dZ.o.size);have Fe:=O (show∀k,(T A6 1 c6).ownBlock=G k->(T HA 0 hc).ownBlock=G k\/w.heap.size<=k from λk hk=>by
     rcases iV.o k hk with e|e
     ·exact .inl e
     ·right
      have e':w5.heap.size<=k:=by first|exact e|simpa using e
      have:=TU.o;omega)
    generalize w6.setCell ⟨g,1,U⟩ (T A6 1 c6)=w7 at *;have z0:=BX7.o.c 0;have zl:=BX7.o.lt;obtain⟨i1,dX,er,eu,eK⟩:=info_parts iH;have lG:=O (show Reads (w7.alloc (az #[I J o] 3)) (w7.heap.size+1) 1 (G ⟨w7.heap.size,0,U⟩) 1 [I J o]from⟨rfl,λ_=>⟨_,rfl,by simp,λj u hu=>by
     rw[show(⟨w7.heap.size,0,U⟩:Addr).add j=⟨w7.heap.size,j,U⟩ by unfold Addr.add;split<;>simp_all,(aX.new w7 3 #[I J o]).c];simpa using hu⟩⟩)
    clear mJ pN HH5 Xh TT iU Kn CK Km pL HK6 wk iV q0 q1 q2 vf6 v0 v1 v2 CJ hl6;go_wp2_with(first
     |(at_builtin
       refine bp _ rfl (.tmp 32) (.tmp 35) _ rfl 0 3 i1 _ 1 8 underlying40 dX er eu eK rfl (by omega) (T U 0 0) 0 [] rfl
        (World.ownsRow_nil _ 0 3 1) (w7.heap.size+1) _ 1 1 [I J o] rfl lG.o (by simp[Value.oneCell']) (by simp only[maxLen];omega) (by omega) (Nat.zero_le _) ?_
       intro v8 w8 bM dS dG;obtain⟨A8,c8,rfl⟩:=bz bM;have mh:=O bM;have iT:=O (Ch.bF dS);have nS:=O dG;clear bM dS dG))
    have HF:=O (show M w7 w8 from((Ch.r _ w7).alloc _).trans (iT.o.mono (au:=λk=>w7.heap.size<=k) (λk hk=>by cases hk)) (λk hk=>.inr hk));refine⟨.inr ⟨A6,c6,A8,c8,rfl,mh.o,λk hk=>?_,⟨qa4.o.ch HF.o (λh=>h),bg V9.o HF.o (λ_ _ h=>h),⟨bg HH7.o HF.o (λ_ _ h=>h),rfl,by simp⟩,⟨bg td.o HF.o (λ_ _ h=>h),rfl,by have:=H2.o.qu.fx;omega⟩,λk hk kW=>?_⟩,xi.o.t (HF.o.mono (λ_ h=>h.elim)),Fe.o⟩,by simp⟩
    ·rcases nS.o with e|e
     ·rw[hk]at e;cases e
     ·rw[hk]at e;injection e with e;have:=xi.o.size;simp at e;omega
    ·rcases Fe.o k hk with e|e
     ·exact H3.o.ap k e kW
     ·have:=(H.o.qu.own.lt k kW).2;omega
  ·have HL:=O hL;have HC:=O hC;have HO:=O cU;have gI:=O gu;have kD:=O hat;obtain⟨g',e,hl,eQ,dL,x0,x1,x2⟩:=HL.o.line;injection e with e;injection e with e1 _;subst e1;have HM:=O (yH (K:=K) (hc:=nQ) (qc:=qc) hL.qu.rd hL.ho.rd (λo' t' e Oo=>HX.o (by
    have:o'=o:=by simpa using Oo
    subst this;rw[e];exact List.mem_cons_self)))
   rw[show(decide (0<t.length)&&decide (1=0))=false by simp]at HM;clear hC dL hL cU gu hat;go_wp2_with fail;refine HM.o.mono ?_;rintro e w2 ⟨rfl,hN⟩;dsimp only;have HN:=O hN;clear hN HM;go_wp2_with fail;go_ret;exact⟨_,rfl,uq,nQ,SA,sc,rfl,bg HO.o HN.o (λ_ _ h=>h),gI.o,HL.o.aR HN.o,HC.o.t (HN.o.mono (λ_ h=>h.elim)),kD.o⟩
end
theorem qU(w:aw):ax av 250 #[I J 2] w λe w'=>e=ay (Y true)/\w'=w:=by
 go_enter func250,ntmps250;go_wp2_with fail;go_ret;exact⟨rfl,rfl⟩
section
variable{w w':aw}{lb g:Nat}{K:ByteArray}{A HA QA:Option Addr}{c hn hc qn qc n:Nat}{hs qs l t:List Int}{o:Int}
theorem Pk(h:wh w lb A c)(ho:0<=o)(hK:K.size<=16):
 ax av 185 #[X (G ⟨lb,0,U⟩),I J o,V K,I J 2] w λe w'=>e=ay (I J 0)/\∃(g c' hb:Nat),kV w' lb K (G ⟨g,0,U⟩) c' (G ⟨hb,0,U⟩) 1 1 U 0 0 [o] []/\Sub (mH lb A c) (fe lb (G ⟨g,0,U⟩) c' (G ⟨hb,0,U⟩) 1 1 U 0 0) w w':=by
 have H:=O h;have HM:=O qU;have d1:decide (o<0)=false:=by simp;omega
 have d2:decide (16<(K.size:Int))=false:=by simp;omega
 have HF:=O (λK=>Fb (K:=K) h);clear h;go_enter func185,ntmps185;go_wp2_with fail;refine(HM.o _).mono ?_;rintro e w' ⟨rfl,hw⟩;subst w';dsimp only;go_wp2_with fail;refine(HF.o _).mono ?_;rintro e w2 ⟨rfl,hN⟩;dsimp only;have HN:=O hN;have H2:=O (H.o.aR hN);have x0:=H2.o.aW.c 0;have xl:=H2.o.aW.lt;clear hN;go_wp2_with fail;have B1:=aX.new w2 316 #[I J o,I J 2];have cE:=O (show M w (w2.alloc (az #[I J o,I J 2] 316))from HN.o.alloc _);have xj:(w2.alloc (az #[I J o,I J 2] 316)).heap.size=w2.heap.size+1:=World.size_alloc _ _;generalize je:w2.alloc (az #[I J o,I J 2] 316)=w3 at *;obtain⟨hb,hhb⟩:=bG (w2.heap.size);rw[hhb]at xj B1⊢;have B2:=aX.new w3 321 #[V K,T (G ⟨hb,0,U⟩) 1 1,T U 0 0];rw[xj]at B2;have dQ:=O (show M w (w3.alloc (az #[V K,T (G ⟨hb,0,U⟩) 1 1,T U 0 0] 321))from cE.o.alloc _);have B14:=O (B1.alloc (az #[V K,T (G ⟨hb,0,U⟩) 1 1,T U 0 0] 321));have wm:(w3.alloc (az #[V K,T (G ⟨hb,0,U⟩) 1 1,T U 0 0] 321)).heap.size=hb+2:=by rw[World.size_alloc,xj]
 generalize w3.alloc (az #[V K,T (G ⟨hb,0,U⟩) 1 1,T U 0 0] 321)=w4 at *;have H4:=O (H.o.aR dQ.o);have HI:=O (GV H4.o.own (show aX w4 (hb+1) 321 (gh K (G ⟨hb,0,U⟩) 1 1 U 0 0).toArray from B2) rfl (λu hu=>by
  simp only[gh,List.mem_cons,List.not_mem_nil,or_false]at hu;rcases hu with rfl|rfl|rfl<;>rfl))
 have HOH:=O (show w4.ownsRow 0 316 2 (T (G ⟨hb,0,U⟩) 1 1) 1 (cP [o])from eh (Z:=[]) (Nat.zero_le _) rfl B14.o rfl (by omega) (by simp[maxLen]));have HHB:=O hhb;have HWS:=O (show w.heap.size<=w2.heap.size from HN.o.size);clear B1 B2 je hhb;refine HI.o.mono ?_;rintro e w5 ⟨A',c',rfl,cU,hC,hat⟩;dsimp only;have hnA: ∀k,(T A 0 c).ownBlock=G k->k<w.heap.size:=λk hk=>(H.o.own.lt k hk).2;have mJ:=O (H4.o.aW.ch hC (λe=>aV H4.o.own H4.o.aW (by decide) e));have pN:=O (bg HOH.o hC (λk hk e=>by
  have h1:=hnA k e;injection hk with hk;have hk:hb=k:=hk;have:=HHB.o;have:=HWS.o;omega))
 obtain⟨g,cap,hv,_,hlt⟩:=cU.form (by omega);injection hv with ur _ Xi;subst ur Xi;have mi:=O cU;have HC:=O hC;have kD:=O hat;have x0:=mJ.o.c 0;have xl:=mJ.o.lt;have xf:=mJ.o.frozen 0;clear cU hC hat hnA;go_wp2_with fail;go_ret;have nz: ¬g=lb:=λe=>aV mi.o mJ.o (by decide) (by rw[e];rfl);have hhl: ¬hb=lb:=λe=>aV pN.o mJ.o (by decide) (by rw[e];rfl);refine⟨rfl,g,c',hb,⟨by simpa using mJ.o.bm 0 (T (G ⟨g,0,U⟩) 1 c'),fi mi.o (λe=>nz (by injection e)) _,⟨fi pN.o (λe=>hhl (by injection e)) _,rfl,by omega⟩,⟨World.ownsRow_nil _ _ _ _,rfl,by omega⟩,λk _ e=>by cases e⟩,⟨?_,λk hk=>?_⟩⟩
 ·exact((dQ.o.mono (λ_ h=>h.elim)).t (HC.o.mono (λk hk=>.inr hk))).setCell (p:=⟨lb,0,U⟩) (.inl (.inl rfl)) _
 ·rcases hk with e|e|e|e
  ·exact .inl (.inl e)
  ·rcases kD.o with e2|e2
   ·exact .inl (.inr (e2▸e))
   ·right
    rw[e2]at e;injection e with e;have:=HHB.o;have:=HWS.o;omega
  ·right
   injection e with e;have e:hb=k:=e;have:=HHB.o;have:=HWS.o;omega
  ·cases e
end
section
variable{w w':aw}{lb g:Nat}{K:ByteArray}{A HA QA:Option Addr}{c hn hc qn qc n:Nat}{hs qs l t:List Int}{o x:Int}
theorem Ff(w:aw):M w w.drew:=(Ch.r _ w).drew
theorem sx{w w' eZ:aw}(h:M w w')(h':M w' eZ):M w eZ:=h.t h'
theorem lX(h:kV w lb K (G ⟨g,0,U⟩) c HA hn hc QA qn qc hs qs)(hC:M w w'):w'.cell? ⟨g,1,U⟩=G (T HA hn hc)/\w'.cell? ⟨g,2,U⟩=G (T QA qn qc):=by
 obtain⟨g',e,hl,eQ,dL,x0,x1,x2⟩:=(h.aR hC).line;injection e with e;injection e with e1 _;subst e1;exact⟨x1,x2⟩
theorem Ko(h:kV w lb K (G ⟨g,0,U⟩) c HA 1 hc QA qn qc [x] qs)(ho:0<=o)(hK:K.size<=16)(hx:o=x\/o∈qs):
 ax av 185 #[X (G ⟨lb,0,U⟩),I J o,V K,I J 2] w λe w'=>e=ay (I J (if o=x then 0 else 10))/\M w w':=by
 have H:=O h;have HX:=O hx;obtain⟨RR,Kp⟩: ∃RR:Int,(if o=x then 0 else 10)=RR:=⟨_,rfl⟩;rw[Kp];have Kq:=O Kp;have HM:=O qU;have d1:decide (o<0)=false:=by simp;omega
 have d2:decide (16<(K.size:Int))=false:=by simp;omega
 have HF:=O (yG h);clear h hx Kp;go_enter func185,ntmps185;go_wp2_with fail;refine(HM.o _).mono ?_;rintro e w' ⟨rfl,hw⟩;subst w';dsimp only;go_wp2_with fail;refine HF.o.mono ?_;rintro e w2 ⟨rfl,hN⟩;dsimp only;have HN:=O hN;have H2:=O (H.o.aR hN);have x0:=H2.o.aW.c 0;have xl:=H2.o.aW.lt;have nz:g<w2.heap.size:=by
  obtain⟨cur,ev⟩:=ef H2.o.own;exact ev.lt
 clear hN;go_wp2_with fail;obtain⟨V1,TV⟩: ∃V1:Int,(if o∈[x]then 2 else 0)=V1:=⟨_,rfl⟩;obtain⟨V2,TW⟩: ∃V2:Int,(if o∈qs then 2 else 0)=V2:=⟨_,rfl⟩;have Xj:=O (λ(w':aw) (hC:M w2 w')=>show ax av 253 #[T HA 1 hc,I J o] w' (λe eZ=>e=ay (I J V1)/\M w' eZ)from TV▸mG (c:=hc) (H2.o.ho.rd.aR hC) o);have wu:=O (λ(w':aw) (hC:M w2 w')=>show ax av 253 #[T QA qn qc,I J o] w' (λe eZ=>e=ay (I J V2)/\M w' eZ)from TW▸mG (c:=qc) (H2.o.qu.rd.aR hC) o);have we:=O TV;have Xk:=O TW;clear TV TW
 go_cut[12,13] (λs1 s2 wx=>s1=I J V1/\s2=I J V2/\M w2 wx)
 case first=>
  have y:=lX H2.o (Ch.r _ _);have y1:=y.1;have y2:=y.2;clear y;have Kr:=O (Ff w2)
  go_region_held3(λw'=>w'.cell? ⟨g,1,U⟩=G (T HA 1 hc)/\w'.cell? ⟨g,2,U⟩=G (T QA qn qc))
   (first|exact lX H2.o Ks|exact lX H2.o Kt|exact lX H2.o Kr.o|exact lX H2.o (Ch.r _ _))
   (first
     |(go_at_call 253;with_reducible refine(Xj.o _ Ks).mono ?_;rintro e wa ⟨rfl,oO⟩;have Kt:M w2 wa:=sx Ks oO)
     |(go_at_call 253;with_reducible refine(Xj.o _ Kr.o).mono ?_;rintro e wa ⟨rfl,oO⟩;have Kt:M w2 wa:=sx Kr.o oO)
     |(go_at_call 253;with_reducible refine(wu.o _ Kt).mono ?_;rintro e wb ⟨rfl,xm⟩;have Ks:M w2 wb:=sx Kt xm)
     |(go_at_call 253;with_reducible refine(wu.o _ Kr.o).mono ?_;rintro e wb ⟨rfl,xm⟩;have Ks:M w2 wb:=sx Kr.o xm))
  all_goals
   go_wp2_with fail;go_meet
   first|exact⟨rfl,rfl,Kt⟩|exact⟨rfl,rfl,Ks⟩
 case rest=>
  obtain⟨rfl,rfl,hQ⟩:=hcut;have HQ:=O hQ;by_cases TX:o=x
  ·obtain rfl:V1=2:=by rw[<-we.o,if_pos (by simp[TX])]
   obtain rfl:RR=0:=by rw[<-Kq.o,if_pos TX]
   clear hQ TX;go_wp2_with fail;go_ret;exact⟨rfl,HN.o.t (HQ.o.alloc _)⟩
  ·obtain rfl:V1=0:=by rw[<-we.o,if_neg (by simpa using TX)]
   obtain rfl:V2=2:=by rw[<-Xk.o,if_pos (HX.o.resolve_left TX)]
   obtain rfl:RR=10:=by rw[<-Kq.o,if_neg TX]
   clear hQ TX;go_wp2_with fail;go_ret;exact⟨rfl,HN.o.t (HQ.o.alloc _)⟩
theorem Ku(h:kV w lb K (G ⟨g,0,U⟩) c HA 1 hc QA qn qc [x] qs)(ho:0<=o)(hK:K.size<=16)(hxx:x∉qs)(hx:o≠x/\o∉qs)(Sm:qn<1000):
 ax av 185 #[X (G ⟨lb,0,U⟩),I J o,V K,I J 2] w λe w'=>e=ay (I J 10)/\∃Xl Xm,kV w' lb K (G ⟨g,0,U⟩) c HA 1 hc Xl (qn+1) Xm [x] (qs++[o])/\Sub (fe lb (G ⟨g,0,U⟩) c HA 1 hc QA qn qc) (fe lb (G ⟨g,0,U⟩) c HA 1 hc Xl (qn+1) Xm) w w':=by
 have H:=O h;have HX:=O hx;have HXX:=O hxx;have Sn:=O Sm;have HM:=O qU;have d1:decide (o<0)=false:=by simp;omega
 have d2:decide (16<(K.size:Int))=false:=by simp;omega
 have HF:=O (yG h);clear h hx hxx Sm;go_enter func185,ntmps185;go_wp2_with fail;refine(HM.o _).mono ?_;rintro e w' ⟨rfl,hw⟩;subst w';dsimp only;go_wp2_with fail;refine HF.o.mono ?_;rintro e w2 ⟨rfl,hN⟩;dsimp only;have HN:=O hN;have H2:=O (H.o.aR hN);have x0:=H2.o.aW.c 0;have xl:=H2.o.aW.lt;have nz:g<w2.heap.size:=by
  obtain⟨cur,ev⟩:=ef H2.o.own;exact ev.lt
 clear hN;go_wp2_with fail;obtain⟨V1,TV⟩: ∃V1:Int,(if o∈[x]then 2 else 0)=V1:=⟨_,rfl⟩;obtain⟨V2,TW⟩: ∃V2:Int,(if o∈qs then 2 else 0)=V2:=⟨_,rfl⟩;have Xj:=O (λ(w':aw) (hC:M w2 w')=>show ax av 253 #[T HA 1 hc,I J o] w' (λe eZ=>e=ay (I J V1)/\M w' eZ)from TV▸mG (c:=hc) (H2.o.ho.rd.aR hC) o);have wu:=O (λ(w':aw) (hC:M w2 w')=>show ax av 253 #[T QA qn qc,I J o] w' (λe eZ=>e=ay (I J V2)/\M w' eZ)from TW▸mG (c:=qc) (H2.o.qu.rd.aR hC) o);have we:=O TV;have Xk:=O TW;clear TV TW
 go_cut[12,13] (λs1 s2 wx=>s1=I J V1/\s2=I J V2/\M w2 wx)
 case first=>
  have y:=lX H2.o (Ch.r _ _);have y1:=y.1;have y2:=y.2;clear y;have Kr:=O (Ff w2)
  go_region_held3(λw'=>w'.cell? ⟨g,1,U⟩=G (T HA 1 hc)/\w'.cell? ⟨g,2,U⟩=G (T QA qn qc))
   (first|exact lX H2.o Ks|exact lX H2.o Kt|exact lX H2.o Kr.o|exact lX H2.o (Ch.r _ _))
   (first
     |(go_at_call 253;with_reducible refine(Xj.o _ Ks).mono ?_;rintro e wa ⟨rfl,oO⟩;have Kt:M w2 wa:=sx Ks oO)
     |(go_at_call 253;with_reducible refine(Xj.o _ Kr.o).mono ?_;rintro e wa ⟨rfl,oO⟩;have Kt:M w2 wa:=sx Kr.o oO)
     |(go_at_call 253;with_reducible refine(wu.o _ Kt).mono ?_;rintro e wb ⟨rfl,xm⟩;have Ks:M w2 wb:=sx Kt xm)
     |(go_at_call 253;with_reducible refine(wu.o _ Kr.o).mono ?_;rintro e wb ⟨rfl,xm⟩;have Ks:M w2 wb:=sx Kr.o xm))
  all_goals
   go_wp2_with fail;go_meet
   first|exact⟨rfl,rfl,Kt⟩|exact⟨rfl,rfl,Ks⟩
 case rest=>
  obtain⟨rfl,rfl,hQ⟩:=hcut;have HQ:=O hQ;obtain rfl:V1=0:=by rw[<-we.o,if_neg (by simpa using HX.o.1)]
  obtain rfl:V2=0:=by rw[<-Xk.o,if_neg HX.o.2]
  have TY:=O (aX.new wc 316 #[I J o,I J 2]);have cE:=O (show M w (wc.alloc (az #[I J o,I J 2] 316))from HN.o.t (HQ.o.alloc _));have hz:=lX H2.o (show M w2 (wc.alloc (az #[I J o,I J 2] 316))from HQ.o.alloc _);have z1:=hz.1;have z2:=hz.2;have zf:(wc.alloc (az #[I J o,I J 2] 316)).frozen? ⟨g,2,U⟩=false:=(H.o.aR cE.o).own.frozenAt 2;clear hQ hz;go_upto_region 10 with(fail);obtain⟨bb,Xn⟩:=bG (wc.heap.size);rw[Xn]at TY⊢;generalize je:wc.alloc (az #[I J o,I J 2] 316)=w3 at *;have H3:=O (H.o.aR cE.o);obtain⟨i1,dX,er,eu,eK⟩:=info_parts nB;have⟨y0,y1⟩:=vS TY.o;have yl:=TY.o.lt;have lG:=O (λ(W:aw) (hb:aX W w3.heap.size 316 #[I J o,I J 2])=>show Reads W (w3.heap.size+1) 2 (G ⟨w3.heap.size,0,U⟩) 1 [I J o,I J 2]from⟨rfl,λ_=>⟨_,rfl,by simp,λj u hu=>by
   rw[show(⟨w3.heap.size,0,U⟩:Addr).add j=⟨w3.heap.size,j,U⟩ by unfold Addr.add;split<;>simp_all,hb.c];simpa using hu⟩⟩)
  have qa5:=O (λ(W:aw) (hC:M w3 W)=>(H3.o.aR hC).qu.own);have Ou: ¬(T QA qn qc).ownBlock=G g:=by
   obtain⟨cur,ev⟩:=ef H3.o.own;exact aV H3.o.qu.own ev (by decide)
  have HGQ:=O Ou;have HK8:=O (λ(W w8:aw) (hC:M w3 W) (CL:Ch (λk=>(T QA qn qc).ownBlock=G k) W w8)=>show w8.ownsRow 0 321 3 (T (G ⟨g,0,U⟩) 1 c) 1 (gh K HA 1 hc QA qn qc)from
   bg (H3.o.aR hC).own CL (λk hk e=>HGQ.o (by cases hk;exact e)))
  have hqI:(qn:Int)<=1000:=by have:=Sn.o;omega
  have hqN:qn<=1000:=by have:=Sn.o;omega
  clear je Xn Ou;have hgl3:g<w3.heap.size:=by
   obtain⟨cur,ev⟩:=ef H3.o.own;exact ev.lt
  go_region_law((refine bL _ rfl (.tmp 80) (.tmp 82) 319 rfl 0 316 i1 _ 2 16 underlying319 dX er eu eK rfl (by omega) (T QA qn qc) qn (cP qs) (by simp[Act.eval]) (qa5.o _ (by first|exact((Ch.r _ w3).drew).alloc _|exact((Ch.r _ w3).alloc _).drew|exact(Ch.r _ w3).alloc _)) (w3.heap.size+1) (G ⟨w3.heap.size,0,U⟩) 1 1 [I J o,I J 2] (by simp[Act.eval]) (lG.o _ (by first|exact aX.new _ _ _|exact(aX.new _ _ _).drew)) (by simp[Value.oneCell']) (by simp only[maxLen];omega) (by omega) (Nat.zero_le _) ?_);intro v8 w8 ho8 dS ha8;obtain⟨A8,c8,rfl⟩:=bz ho8;have mh:=O ho8;have Fg:=O (Ch.bF dS);have nS:=O ha8;have ZK:=O (HK8.o _ w8 (by first|exact((Ch.r _ w3).drew).alloc _|exact((Ch.r _ w3).alloc _).drew|exact(Ch.r _ w3).alloc _) Fg.o);have vf8:=ZK.o.frozenAt 2;obtain⟨g',ta,e,hl8,q0,q1,q2⟩:=(show jy w8 (G ⟨g,0,U⟩) K HA 1 hc QA qn qc from Rd.own ZK.o).at_;injection e with e;injection e with e1 e2;subst e1 e2;simp only[Nat.zero_add]at q1 q2;clear ho8 dS ha8)
  all_goals
   have TZ:=O (show Ch (λk=>(T QA qn qc).ownBlock=G k) w3 w8 from by first|exact(((Ch.r _ w3).alloc _).drew).t Fg.o|exact(((Ch.r _ w3).drew).alloc _).t Fg.o|exact((Ch.r _ w3).alloc _).t Fg.o);have Ay:=O (Ch.setCell (p:=⟨g,2,U⟩) (Ch.r (λk=>k=g) w8) (.inl rfl) (T A8 (qn+1) c8));have Pm: ∀k,(T A8 (qn+1) c8).ownBlock=G k->(T QA qn qc).ownBlock=G k\/w3.heap.size<=k:=λk hk=>by
    rcases nS.o with e|e
    ·exact .inl (e▸hk)
    ·right
     rw[hk]at e;injection e with e;have e:k=w3.heap.size+1:=by first|exact e|simpa using e
     omega
   have Fc: ¬lb=g:=by
    obtain⟨cur,ev⟩:=ef H3.o.own;exact aX.lF H3.o.aW ev (by decide)
   have sB: ¬(T A8 (qn+1) c8).ownBlock=G g:=by
    obtain⟨cur,ev⟩:=ef ZK.o;exact aV mh.o ev (by decide)
   have Ov: ¬(T HA 1 hc).ownBlock=G g:=by
    obtain⟨cur,ev⟩:=ef H3.o.own;exact aV H3.o.ho.own ev (by decide)
   have L9:=O (show kV (w8.setCell ⟨g,2,U⟩ (T A8 (qn+1) c8)) lb K (G ⟨g,0,U⟩) c HA 1 hc A8 (qn+1) c8 [x] (qs++[o])from
    ⟨(H3.o.aW.ch TZ.o (λe=>aV H3.o.qu.own H3.o.aW (by decide) e)).ch Ay.o Fc,(ZK.o.stored 2 _).1,
      (H3.o.ho.ch TZ.o (λk hk e=>H3.o.ap k hk e)).ch Ay.o (λk hk e=>Ov (by rw[<-e];exact hk)),
      ⟨by rw[show cP (qs++[o])=cP qs++[I J o,I J 2] by simp[cP,kC]];exact bg mh.o Ay.o (λk hk e=>sB (by rw[<-e];exact hk)),by simp[H3.o.qu.len],by have:=Sn.o;omega⟩,
      λk hk kW=>by
       rcases Pm k kW with e|e
       ·exact H3.o.ap k hk e
       ·have:=(H3.o.ho.own.lt k hk).2;omega⟩)
   have HS9:=O (show Sub (fe lb (G ⟨g,0,U⟩) c HA 1 hc QA qn qc) (fe lb (G ⟨g,0,U⟩) c HA 1 hc A8 (qn+1) c8) w (w8.setCell ⟨g,2,U⟩ (T A8 (qn+1) c8))from
    ⟨((cE.o.mono (λ_ h=>h.elim)).t (TZ.o.mono (λk hk=>.inr (.inr (.inr hk))))).t (Ay.o.mono (λk hk=>.inr (.inl (by rw[hk];rfl)))),λk hk=>by
      rcases hk with e|e|e|e
      ·exact .inl (.inl e)
      ·exact .inl (.inr (.inl e))
      ·exact .inl (.inr (.inr (.inl e)))
      ·rcases Pm k e with e|e
       ·exact .inl (.inr (.inr (.inr e)))
       ·exact .inr (aO cE.o.size e)⟩)
   clear Pm Fc sB Ov q0 q1 q2 hl8 vf8 y0 y1 yl;generalize w8.setCell ⟨g,2,U⟩ (T A8 (qn+1) c8)=w9 at *;have T1:=O (Ds L9.o (.inr ⟨by simp,λo' t' e=>by
    have hm:o'∈qs++[o]:=by rw[e];exact List.mem_cons_self
    intro Oo;have e1:o'=x:=by simpa using Oo
    subst e1;rcases List.mem_append.1 hm with h|h
    ·exact HXX.o h
    ·have h:o'=o:=by simpa using h
     exact HX.o.1 h.symm⟩))
   go_wp2_with fail;refine T1.o.mono ?_;rintro e Kv ⟨rfl,Az⟩;dsimp only;have GW:=O Az;have Pn:=O (mG (c:=hc) (L9.o.aR Az).ho.rd o);rw[if_neg (by simpa using HX.o.1)]at Pn;have r:=(lX L9.o Az).1;have rl:g<Kv.heap.size:=by
    obtain⟨cur,ev⟩:=ef (L9.o.aR Az).own;exact ev.lt
   clear Az;go_wp2_with fail;refine Pn.o.mono ?_;rintro e Jz ⟨rfl,Xo⟩;dsimp only;have Po:=O Xo;clear Xo;go_wp2_with fail;go_ret;exact⟨rfl,A8,c8,(L9.o.aR GW.o).aR Po.o,HS9.o.trans ((Sub.bj _ GW.o).trans (Sub.bj _ Po.o))⟩
end
section
variable{w w':aw}{A:Option Addr}{n c ob:Nat}{l:List Int}{o x:Int}
theorem AA(h:aX w ob 3 #[I J o])(x:Int):ax av 241 #[aC #[I J x,I J 2],X (G ⟨ob,0,U⟩)] w λe w'=>e=ay (Y (decide (x=o)))/\M w w':=by
 have HN:=O (show M w (w.alloc (az #[I J x,I J 2] 316))from(Ch.r _ w).alloc _);have x0:=(h.alloc (az #[I J x,I J 2] 316)).c 0;have xl:=h.lt;clear h;go_enter func241,ntmps241;go_wp2_with fail;go_ret;exact⟨rfl,HN.o⟩
theorem qV(h:fN w A n l)(hb:aX w ob 3 #[I J o]):
 ax av 321 #[T A n c,.func (.func 241) #[] #[X (G ⟨ob,0,U⟩)]] w λe w'=>M w w'/\((e=ay (I J (-1))/\o∉l)\/∃p:Nat,e=ay (I J p)/\l[p]?=G o/\o∉l.take p):=by
 have H:=O h;have HB:=O hb;have HL:=O h.1;have hn:(n:Int)<=1000:=by have:=h.2.1;omega
 clear h hb;go_enter func321,ntmps321;go_wp2_with fail
 go_loopw[8] (λi wr=>∃k:Nat,k<=n/\i=I J k/\o∉l.take k/\M w wr) (λi _=>n- (intOf i).toNat)
 case atStart=>exact⟨0,by omega,rfl,by simp,Ch.r _ _⟩
 case round=>
  obtain⟨k,hk,rfl,nU,hC⟩:=hrel;have HC:=O hC;have HP:=O nU;clear nU hC;by_cases hlt:k<n
  ·obtain⟨x,hx⟩:=bh (show k<l.length by rw[HL.o];exact hlt);obtain⟨b,off,rfl,hb,x0,x1⟩:=(H.o.aR HC.o).at_ hx;have HM:=O (AA (HB.o.ch HC.o (λh=>h)) x);have HX:=O hx;have jq:(k:Int)<(n:Int):=by omega
   clear hx;by_cases e:x=o
   ·subst e;rw[show decide (x=x)=true by simp]at HM;go_wp2_with fail;refine HM.o.mono ?_;rintro e w2 ⟨rfl,hN⟩;dsimp only;have HN:=O hN;clear hN HM;go_wp2_with fail;go_ret;exact⟨HC.o.t HN.o,.inr ⟨k,rfl,HX.o,HP.o⟩⟩
   ·rw[show decide (x=o)=false by simpa using e]at HM;have HE:=O e;clear e;go_wp2_with fail;refine HM.o.mono ?_;rintro e w2 ⟨rfl,hN⟩;dsimp only;have HN:=O hN;clear hN HM;go_wp2_with fail;refine⟨⟨k+1,by omega,by go_num,?_,HC.o.t HN.o⟩,by simp[intOf];omega⟩;rw[List.take_add_one,HX.o];intro hm;rcases List.mem_append.1 hm with h|h
    ·exact HP.o h
    ·have h:o=x:=by simpa using h
     exact HE.o h.symm
  ·obtain rfl:n=k:=by omega
   clear hlt hk;go_wp2_with fail;go_ret;exact⟨HC.o,.inl ⟨rfl,by have:=HP.o;rwa[List.take_of_length_le (by rw[HL.o];omega)]at this⟩⟩
theorem GX{l:List Int}{Z:List Value}{W:aw}{g i:Nat}{x r:Int}(h:aX W g 316 (cP l++Z).toArray)(hr:l[i]?=G r):aX ((W.setCell ⟨g,i*2,U⟩ (I J x)).setCell ⟨g,i*2+1,U⟩ (I J 2)) g 316 (cP (l.set i x)++Z).toArray:=by
 have hlt:=bf hr;have hl:=fV l;have e1:(cP l).set (i*2+0) (I J x)=cP (l.set i x):=pC (f:=kC) (m:=2) (λ_ _=>rfl) hr (by omega) rfl;have hr2:(l.set i x)[i]?=G x:=by simp[hlt]
 have e2:(cP (l.set i x)).set (i*2+1) (I J 2)=cP ((l.set i x).set i x):=pC (f:=kC) (m:=2) (λ_ _=>rfl) hr2 (by omega) rfl;rw[List.set_set]at e2;have h1:=h.bm (i*2) (I J x);have h2:=h1.bm (i*2+1) (I J 2);rw[show((cP l++Z).toArray.setIfInBounds (i*2) (I J x)).setIfInBounds (i*2+1) (I J 2)=(cP (l.set i x)++Z).toArray by
  rw[aF,aF,List.set_append_left _ _ (by rw[hl];omega)];rw[show i*2=i*2+0 from rfl,e1,Nat.add_zero,List.set_append_left _ _ (by rw[fV,List.length_set];omega),e2]]at h2
 exact h2
theorem Kw{l:List Int}{i:Nat}{x:Int}(h:i<l.length):(l.set i x).take (i+1)=l.take i++[x]:=by
 rw[List.take_add_one,List.take_set_of_le (aN _)];simp[h]
theorem set_drop{l:List Int}{i j:Nat}{x:Int}(h:i<j):(l.set i x).drop j=l.drop j:=List.drop_set_of_lt h
end
theorem uu{a b Z zs:List Value}(h:b.length=zs.length):splice ((a++b)++Z) a.length zs=a++(zs++Z):=by
 unfold splice;rw[<-h, <-aL,List.drop_left,List.append_assoc a b Z,List.take_left]
section
variable{w w':aw}{A:Option Addr}{n c ob:Nat}{l:List Int}{o x:Int}
def qa6(w0:aw)(g:Nat)(l:List Int)(o:Int)(Z:List Value)(i j:Nat)(wr:aw):Prop:=
 ∃l':List Int,l'.length=l.length/\i<j/\j<=l.length/\l'.take i=(l.take j).filter (· ≠o)/\l'.drop j=l.drop j/\aX wr g 316 (cP l'++Z).toArray/\Ch (λk=>k=g) w0 wr
theorem Fh(h:Ac w A n c l)(hb:aX w ob 3 #[I J o]):
 ax av 242 #[T A n c,.func (.func 241) #[] #[X (G ⟨ob,0,U⟩)]] w λe w'=>e=ay (T A (l.filter (· ≠o)).length c)/\Ac w' A (l.filter (· ≠o)).length c (l.filter (· ≠o))/\Ch (λk=>(T A n c).ownBlock=G k) w w':=by
 have H:=O h;have HB:=O hb;have HI:=O (qV (c:=c) h.rd hb);by_cases tH:o∈l
 ·obtain⟨F,hF⟩:=bG (l.filter (· ≠o));rw[hF];have HF:=O hF;have te:0<n:=by have:=h.len;have:=List.length_pos_of_mem tH;omega
  obtain⟨g,rfl,hg⟩:=h.form te;obtain⟨Z,hZ,yz,tD,fA⟩:=cV h.own;have HZ:=O hZ;have Sp:=O yz;have nV:=O fA;have HL:=O h.len;have Ow:=O tH;have hn:(n:Int)<=1000:=by have:=h.fx;omega
  have Dk:(n:Int)<=(c:Int):=by omega
  have Jy:(c:Int)<=9223372036854775807:=by unfold maxLen at fA;omega
  have T2: ¬ob=g:=by
   intro e;subst e;exact aX.lF hb hZ (by decide) rfl
  have HGO:=O T2;obtain⟨i1,dX,er,eu,eK⟩:=info_parts nB;clear h hb hF hZ yz fA tH;go_enter func242,ntmps242;go_wp2_with fail;refine HI.o.mono ?_;rintro e w2 ⟨hN,⟨rfl,mr⟩|⟨p,rfl,hp,nU⟩⟩
  ·exact absurd Ow.o mr
  ·dsimp only;have HN:=O hN;have HP:=O hp;have Pp:=O nU;have TE:p<n:=by have:=bf hp;have:=HL.o;omega
   have d1:((p:Int)== -1)=false:=by simp
   have d2:decide ((p:Int)= -1)=false:=by simp
   clear hN hp nU;go_wp2_with fail
   go_loopw[5,6] (λiv jv wr=>∃i j:Nat,iv=I J i/\jv=I J j/\qa6 w2 g l o Z i j wr) (λ_ jv _=>n- (intOf jv).toNat)
   case atStart=>
    refine⟨p,p+1,rfl,by go_num,l,rfl,by omega,by have:=HL.o;omega,?_,rfl,HZ.o.ch HN.o (λh=>h),Ch.r _ _⟩;rw[List.take_add_one,HP.o,List.filter_append,List.filter_eq_self.2 (λa ha=>by
     have:a≠o:=λe=>Pp.o (by rw[<-e];exact ha);simpa using this)]
    simp
   case round=>
    obtain⟨i,j,rfl,rfl,l',ZJ,tG,hj,AB,Sq,hblk,hC⟩:=hrel;have Pq:=O ZJ;have HT:=O AB;have HD:=O Sq;have JA:=O hblk;have HC:=O hC;have hjn:j<=n:=by have:=HL.o;omega
    clear ZJ AB Sq hblk hC hj;by_cases hlt:j<n
    ·obtain⟨x,hx⟩:=bh (show j<l.length by rw[HL.o];exact hlt);have GY:l'[j]?=G x:=by
      have e1:(l'.drop j)[0]?=(l.drop j)[0]?:=by rw[HD.o]
      rw[List.getElem?_drop,List.getElem?_drop]at e1;simpa [hx]using e1
     have HX:=O hx;have JB:=qT GY;have GZ:j*2+1<(cP l').length:=by rw[fV];have:=Pq.o;have:=HL.o;omega
     have x0:wr.cell? ⟨g,j*2,U⟩=G (I J x):=by
      rw[JA.o.c,List.getElem?_toArray,List.getElem?_append_left (by omega)];exact JB.1
     have x1:wr.cell? ⟨g,j*2+1,U⟩=G (I J 2):=by
      rw[JA.o.c,List.getElem?_toArray,List.getElem?_append_left (by omega)];exact JB.2
     have gl:=JA.o.lt;have gf:=JA.o.frozen;have T3:=O (aX.new wr 316 #[I J x,I J 2]);have HM:=O (AA (show aX (wr.alloc (az #[I J x,I J 2] 316)) ob 3 #[I J o]from(((HB.o.ch HN.o (λh=>h)).ch HC.o HGO.o).alloc _)) x);have Ot:(j:Int)<(n:Int):=by omega
     have TM:(i:Int)<(j:Int):=by omega
     clear hx GY JB GZ;by_cases e:x=o
     ·subst e;rw[show decide (x=x)=true by simp]at HM;go_wp2_with fail;refine HM.o.mono ?_;rintro e w3 ⟨rfl,gZ⟩;dsimp only;have cE:=O gZ;clear gZ HM;go_wp2_with fail;refine⟨⟨i,j+1,rfl,by go_num,l',Pq.o,by omega,by have:=HL.o;omega,?_,?_,(JA.o.alloc _).ch cE.o (λh=>h),HC.o.t ((((Ch.r _ wr).alloc _).t cE.o).mono (λ_ h=>h.elim))⟩,by simp[intOf];omega⟩
      ·rw[List.take_add_one,HX.o,List.filter_append,HT.o];simp
      ·have e1:=congrArg (List.drop 1) HD.o;rwa[List.drop_drop,List.drop_drop]at e1
     ·rw[show decide (x=o)=false by simpa using e]at HM;have HE:=O e;clear e;go_wp2_with fail;refine HM.o.mono ?_;rintro e w3 ⟨rfl,gZ⟩;dsimp only;have cE:=O gZ;have Pr:=O (T3.o.ch gZ (λh=>h));have G0:=O ((JA.o.alloc (az #[I J x,I J 2] 316)).ch gZ (λh=>h));have⟨z0,z1⟩:=vS Pr.o;have zl:=Pr.o.lt;have yl:=G0.o.lt;have yf:=G0.o.frozen;obtain⟨r,hr⟩:=bh (show i<l'.length by have:=Pq.o;have:=HL.o;omega);have HR:=O hr;have JB:=qT hr;have GZ:i*2+1<(cP l').length:=by rw[fV];have:=Pq.o;have:=HL.o;omega
      have y0:w3.cell? ⟨g,i*2,U⟩=G (I J r):=by
       rw[G0.o.c,List.getElem?_toArray,List.getElem?_append_left (by omega)];exact JB.1
      have y1:w3.cell? ⟨g,i*2+1,U⟩=G (I J 2):=by
       rw[G0.o.c,List.getElem?_toArray,List.getElem?_append_left (by omega)];exact JB.2
      have f0:=yf (i*2);have f1:=yf (i*2+1);have Xp:(i:Int)<(n:Int):=by omega
      clear gZ HM gf yf hr JB GZ x0 x1;go_wp2_with fail;have Sr:=O (GX (x:=x) G0.o HR.o);refine⟨⟨i+1,j+1,by go_num,by go_num,l'.set i x,by rw[List.length_set,Pq.o],by omega,by have:=HL.o;omega,?_,?_,Sr.o,?_⟩,by simp[intOf];omega⟩
      ·rw[Kw (by have:=Pq.o;have:=HL.o;omega),HT.o,List.take_add_one,HX.o,List.filter_append];have:[x].filter (λy=>decide (y≠o))=[x]:=by simp[HE.o]
       simp[HE.o]
      ·rw[set_drop (by omega)];have e1:=congrArg (List.drop 1) HD.o;rwa[List.drop_drop,List.drop_drop]at e1
      ·exact((HC.o.t ((((Ch.r _ wr).alloc _).t cE.o).mono (λ_ h=>h.elim))).setCell (p:=⟨g,i*2,U⟩) (.inl rfl) _).setCell (p:=⟨g,i*2+1,U⟩) (.inl rfl) _
    ·obtain rfl:n=j:=by omega
     have hFl:F.length=i:=by
      rw[<-HF.o];have e1:=HT.o;have e2:l.take n=l:=List.take_of_length_le (by rw[HL.o];exact aN _);rw[e2]at e1;rw[<-e1,List.length_take];have:=Pq.o;have:=HL.o;omega
     have hF2:l'.take i=F:=by
      rw[HT.o,List.take_of_length_le (by rw[HL.o];omega)];exact HF.o
     have xn:=O hF2;have Sr:=O hFl;have Aa:(i:Int)<=(n:Int):=by omega
     have Kj:(i:Int)<=(c:Int):=by omega
     have Xe:i<=c:=by omega
     have hin2:i<=n:=by omega
     have jX:=O (show i*2+(n-i)*2<=(cP l'++Z).length by rw[aL,fV];have:=Pq.o;have:=HL.o;omega);clear hlt hFl hF2;go_wp2_with(first
      |(refine dJ rfl (.tmp 38) 319 rfl 316 2 underlying319 (aC #[I J 0,I J 0]) (λw=>by simp[zeroValue,typeInfo,dX,er]) rfl (by simp[Value.cells,Value.oneCell']) (by omega) g (i*2) (n-i) (c-i) (by simp[Act.eval]) (cP l'++Z) 316 JA.o jX.o ?_
        intro w5 zs Ax kg yA))
     go_ret;refine⟨by rw[Sr.o];rfl,⟨?_,rfl,by rw[Sr.o];omega⟩,(HN.o.mono (λ_ h=>h.elim)).t ((HC.o.t yA).mono (λk hk=>by rw[hk];rfl))⟩;rw[Sr.o];have nT:=kg.o;have Kx:cP l'=cP (l'.take i)++cP (l'.drop i):=by
      unfold cP;rw[<-List.flatMap_append,List.take_append_drop]
     have JC:(cP (l'.drop i)).length=zs.length:=by
      rw[fV,Ax,List.length_drop];have:=Pq.o;have:=HL.o;rw[show l'.length-i=n-i by omega]
     have htl:(cP (l'.take i)).length=i*2:=by rw[xn.o,fV,Sr.o]
     have mv:splice (cP l'++Z) (i*2) zs=cP F++(zs++Z):=by
      rw[Kx, <-htl,uu JC,xn.o]
     rw[mv]at nT;exact eh (Z:=zs++Z) (Nat.zero_le _) (by rw[fV,Sr.o]) nT (by
      have:=Sp.o;rw[aL,fV]at this;rw[aL,aL,fV,Sr.o,Ax];have:=HL.o;omega) (by omega) nV.o
 ·have hF:l.filter (· ≠o)=l:=List.filter_eq_self.2 (λa ha=>by
   have:a≠o:=λe=>tH (e▸ha);simpa using this)
  rw[hF];have HL:=O h.len;have Ow:=O tH;clear h hb hF tH;go_enter func242,ntmps242;go_wp2_with fail;refine HI.o.mono ?_;rintro e w2 ⟨hN,⟨rfl,mr⟩|⟨p,rfl,hp,nU⟩⟩
  ·dsimp only;have HN:=O hN;clear hN mr;go_wp2_with fail;go_ret;refine⟨by rw[HL.o];rfl,?_,HN.o.mono (λ_ h=>h.elim)⟩;rw[HL.o];exact H.o.aR HN.o
  ·exact absurd (bS hp) Ow.o
end
section
variable{w w':aw}{A HA QA:Option Addr}{K:ByteArray}{g hn hc qn qc c:Nat}
theorem G1(hh:hn<=1000)(hq:qn<=1000)(w:aw):ax av 245 #[aC #[V K,T HA hn hc,T QA qn qc]] w λe w'=>e=ay (Y (decide (hn+qn=0)))/\M w w':=by
 have HN:=O (show M w (w.alloc (az #[V K,T HA hn hc,T QA qn qc] 321))from(Ch.r _ w).alloc _);have h1:(hn:Int)<=1000:=by omega
 have h2:(qn:Int)<=1000:=by omega
 by_cases e:hn+qn=0
 ·obtain rfl:hn=0:=by omega
  obtain rfl:qn=0:=by omega
  go_enter func245,ntmps245;go_wp2_with fail;go_ret;exact⟨rfl,HN.o⟩
 ·rw[show decide (hn+qn=0)=false by simpa using e];have d1:((hn:Int)+(qn:Int)==0)=false:=by simp;omega
  have d2:decide ((hn:Int)+(qn:Int)=0)=false:=by simp;omega
  have w1:IntKind.i64.wrap ((hn:Int)+(qn:Int))=(hn:Int)+(qn:Int):=IntWalk.i64_in _ ⟨by omega,by omega⟩;clear e;go_enter func245,ntmps245;go_wp2_with fail;go_ret;exact⟨by first|rfl|simp[d1]|simp[d2],HN.o⟩
theorem AD(w:aw)(A:Option Addr)(c:Nat):ax av 325 #[T A 0 c,.func (.func 245) #[] #[]] w λe w'=>e=ay (I J (-1))/\M w w':=by
 go_enter func325,ntmps325;go_wp2_with fail
 go_loopw[8] (λi wr=>i=I J 0/\M w wr) (λi _=>0)
 case atStart=>exact⟨rfl,Ch.r _ _⟩
 case round=>
  obtain⟨rfl,hC⟩:=hrel;have HC:=O hC;clear hC;go_wp2_with fail;go_ret;exact⟨rfl,HC.o⟩
theorem uv(h:jy w A K HA hn hc QA qn qc)(hh:hn<=1000)(hq:qn<=1000):ax av 325 #[T A 1 c,.func (.func 245) #[] #[]] w λe w'=>e=ay (I J (if hn+qn=0 then 0 else-1))/\M w w':=by
 have H:=O h;have HE:=O (G1 (K:=K) (HA:=HA) (QA:=QA) (hc:=hc) (qc:=qc) hh hq);obtain⟨D,hD⟩:=bG (decide (hn+qn=0));rw[hD]at HE;rw[show(if hn+qn=0 then(0:Int)else-1)=if D then 0 else-1 by rw[<-hD];simp];clear h hD hh hq;cases D
 ·go_enter func325,ntmps325;go_wp2_with fail
  go_loopw[8] (λi wr=>∃k:Nat,k<=1/\i=I J k/\M w wr) (λi _=>1- (intOf i).toNat)
  case atStart=>exact⟨0,by omega,rfl,Ch.r _ _⟩
  case round=>
   obtain⟨k,hk,rfl,hC⟩:=hrel;have HC:=O hC;by_cases h0:k=0
   ·subst h0;obtain⟨b,off,rfl,hb,x0,x1,x2⟩:=(show jy wr A K HA hn hc QA qn qc from Rd.aR H.o hC).at_;clear hC hk;go_wp2_with fail;refine(HE.o _).mono ?_;rintro e w2 ⟨rfl,hN⟩;dsimp only;have HN:=O hN;clear hN;go_wp2_with fail;exact⟨⟨1,by omega,rfl,HC.o.t HN.o⟩,by simp[intOf]⟩
   ·obtain rfl:k=1:=by omega
    clear hC hk h0;go_wp2_with fail;go_ret;exact⟨rfl,HC.o⟩
 ·go_enter func325,ntmps325;go_wp2_with fail
  go_loopw[8] (λi wr=>i=I J 0/\M w wr) (λi _=>0)
  case atStart=>exact⟨rfl,Ch.r _ _⟩
  case round=>
   obtain⟨rfl,hC⟩:=hrel;have HC:=O hC;obtain⟨b,off,rfl,hb,x0,x1,x2⟩:=(show jy wr A K HA hn hc QA qn qc from Rd.aR H.o hC).at_;clear hC;go_wp2_with fail;refine(HE.o _).mono ?_;rintro e w2 ⟨rfl,hN⟩;dsimp only;have HN:=O hN;clear hN;go_wp2_with fail;go_ret;exact⟨rfl,HC.o.t HN.o⟩
end
section
variable{w w':aw}{A HA QA:Option Addr}{K:ByteArray}{g hn hc qn qc c:Nat}
theorem G2(w:aw)(A:Option Addr)(c:Nat):ax av 244 #[T A 0 c,.func (.func 245) #[] #[]] w λe w'=>e=ay (T A 0 c)/\M w w':=by
 have HI:=O (AD w A c);go_enter func244,ntmps244;go_wp2_with fail;refine HI.o.mono ?_;rintro e w2 ⟨rfl,hN⟩;dsimp only;have HN:=O hN;clear hN HI;go_wp2_with fail;go_ret;exact⟨rfl,HN.o⟩
theorem G3(h:jy w A K HA hn hc QA qn qc)(hh:hn<=1000)(hq:qn<=1000)(h0: ¬hn+qn=0):ax av 244 #[T A 1 c,.func (.func 245) #[] #[]] w λe w'=>e=ay (T A 1 c)/\M w w':=by
 have HI:=O (uv (c:=c) h hh hq);rw[if_neg h0]at HI;clear h hh hq h0;go_enter func244,ntmps244;go_wp2_with fail;refine HI.o.mono ?_;rintro e w2 ⟨rfl,hN⟩;dsimp only;have HN:=O hN;clear hN HI;go_wp2_with fail;go_ret;exact⟨rfl,HN.o⟩
theorem G4(h:w.ownsRow 0 321 3 (T (G ⟨g,0,U⟩) 1 c) 1 (gh K HA 0 hc QA 0 qc)):ax av 244 #[T (G ⟨g,0,U⟩) 1 c,.func (.func 245) #[] #[]] w λe w'=>e=ay (T (G ⟨g,0,U⟩) 0 c)/\w'.ownsRow 0 321 3 (T (G ⟨g,0,U⟩) 0 c) 0 []/\Ch (λk=>k=g) w w':=by
 have HI:=O (uv (c:=c) (Rd.own h:jy w (G ⟨g,0,U⟩) K HA 0 hc QA 0 qc) (by omega) (by omega));rw[if_pos rfl]at HI;obtain⟨Z,hZ,yz,tD,fA⟩:=cV h;have HZ:=O hZ;have Sp:=O yz;have nV:=O fA;have Jy:(c:Int)<=9223372036854775807:=by unfold maxLen at fA;omega
 have hc1:(1:Int)<=(c:Int):=by omega
 have hc0:(0:Int)<=(c:Int):=by omega
 obtain⟨i1,dX,er,eu,eK⟩:=info_parts xe;clear h hZ yz fA;go_enter func244,ntmps244;go_wp2_with fail;refine HI.o.mono ?_;rintro e w2 ⟨rfl,hN⟩;dsimp only;have HN:=O hN;have cJ:=O (HZ.o.ch hN (λh=>h));have jX:=O (show 0+1*3<=(gh K HA 0 hc QA 0 qc++Z).length by rw[Sp.o];omega);clear hN HI;go_wp2_with fail
 go_loopw[5,6] (λiv jv wr=>iv=I J 0/\jv=I J 1/\wr=w2) (λ_ _ _=>0)
 case atStart=>exact⟨rfl,rfl,rfl⟩
 case round=>
  obtain⟨rfl,rfl,hw⟩:=hrel;subst wr;go_wp2_with(first
   |(refine dJ rfl (.tmp 38) 179 rfl 321 3 underlying179 (aC #[V ⟨#[]⟩,T U 0 0,T U 0 0]) (λw=>by simp[zeroValue,typeInfo,dX,er]) rfl (by simp[Value.cells,Value.oneCell']) (by omega) g 0 1 c (by simp[Act.eval]) (gh K HA 0 hc QA 0 qc++Z) 321 cJ.o jX.o ?_
     intro w5 zs Ax kg yA))
  go_ret;refine⟨rfl,?_,(HN.o.mono (λ_ h=>h.elim)).t yA⟩;refine eh (xs:=[]) (Z:=splice (gh K HA 0 hc QA 0 qc++Z) 0 zs) (Nat.zero_le _) rfl (by simpa using kg.o) ?_ (by omega) nV.o;rw[List.nil_append,length_splice _ _ _ (by rw[Ax];exact jX.o)];exact Sp.o
end
def ints(l:List Int):List Value:=l.map (I J)
structure eX(w:aw)(A:Option Addr)(n c:Nat)(l:List Int):Prop where
 own:w.ownsRow 0 3 1 (T A n c) n (ints l)
 len:l.length=n
section
variable{w w':aw}{A:Option Addr}{n c:Nat}{l:List Int}
theorem eX.ch{S:Nat->Prop}(h:eX w A n c l)(hC:Ch S w w')(hS: ∀g,(T A n c).ownBlock=G g->¬S g):eX w' A n c l:=⟨bg h.own hC hS,h.len⟩
theorem eX.aR(h:eX w A n c l)(hC:M w w'):eX w' A n c l:=h.ch hC (λ_ _ h=>h)
theorem eX.form(h:eX w A n c l):(A=U/\n=0/\c=0)\/∃g,A=G ⟨g,0,U⟩:=by
 rcases h.own.2 with⟨e,h0⟩|⟨g,cap,cur,e,_⟩
 ·injection e with e1 e2 e3;exact .inl ⟨e1,e2,e3⟩
 ·injection e with e1 e2 e3;exact .inr ⟨g,e1⟩
theorem Ky(l:List Int):(ints l).length=l.length:=by simp[ints]
theorem jZ(h:eX w A n c l)(hn:n<=1000000):ax av 170 #[T A n c] w λe w'=>e=ay (aB #[])/\eX w' A n c (l.mergeSort λx y=>decide (x<=y))/\Ch (λk=>(T A n c).ownBlock=G k) w w':=by
 rcases h.form with⟨rfl,rfl,rfl⟩|⟨g,rfl⟩
 ·obtain rfl:l=[]:=List.eq_nil_of_length_eq_zero h.len;refine(Tryz.slices_Sort_int_none U 0 w).mono ?_;rintro e w' ⟨rfl,hw⟩;subst w';exact⟨rfl,⟨by simpa using h.own,by simp⟩,Ch.r _ _⟩
 ·obtain⟨Z,hZ,yz,tD,fA⟩:=cV h.own;have hl:=h.len;have hH:=holds_of_blockI (ss:=l) hZ (by simp[ints]);subst hl;refine(Tryz.slices_Sort_int g 0 c l w hH hZ.lt (by omega)).mono ?_;rintro e w' ⟨rfl,q,os,rfl⟩;refine⟨rfl,⟨?_,List.length_mergeSort _⟩,(Ch.bF (grownBy_sortedI _)).mono (λk hk=>by rw[<-hk];rfl)⟩;exact ownsRow_sortedI (List.length_mergeSort _) (Nat.zero_le _) hZ tD fA (by simpa using yz)
theorem AE(l:List Int):(Lib.compact l).length<=l.length:=by
 unfold Lib.compact Lib.compactUpTo;rw[List.length_map];exact aO (List.length_filter_le _ _) (by simp)
theorem sC{l:List Int}{x:Int}(h:x∈Lib.compact l):x∈l:=by
 unfold Lib.compact Lib.compactUpTo at h;obtain⟨j,hj,rfl⟩:=List.mem_map.1 h;have hj:=List.mem_range.1 (List.mem_filter.1 hj).1;rw[getElem!_pos l.toArray j (by simpa using hj)];simp
theorem gv(h:eX w A n c l):ax av 246 #[T A n c] w λe w'=>e=ay (T A (Lib.compact l).length c)/\eX w' A (Lib.compact l).length c (Lib.compact l)/\Ch (λk=>(T A n c).ownBlock=G k) w w':=by
 rcases h.form with⟨rfl,rfl,rfl⟩|⟨g,rfl⟩
 ·obtain rfl:l=[]:=List.eq_nil_of_length_eq_zero h.len;have H:=O h;clear h;go_enter func246,ntmps246;go_wp2_with fail;go_ret;exact⟨rfl,H.o,Ch.r _ _⟩
 ·obtain⟨Z,hZ,yz,tD,fA⟩:=cV h.own;have hl:=h.len;have hH:=holds_of_blockI (ss:=l) hZ (by simp[ints]);subst hl;refine(Tryz.slices_Compact_int g 0 c l w hH (by unfold maxLen at fA;omega) tD).mono ?_;rintro e w' ⟨rfl,q,rfl⟩;have xo:=AE l;have e1:=ownsRow_sortedI (w:=w) (base:=0) (n:=q) (os:=#[]) (ss:=l) (ts:=Lib.compact l++List.replicate (l.length- (Lib.compact l).length) 0) (by simp;omega) (Nat.zero_le _) hZ tD fA (by simpa using yz);have e2:=grownBy_sortedI (w:=w) (g:=g) (n:=q) (os:=#[]) (Lib.compact l++List.replicate (l.length- (Lib.compact l).length) 0).toArray;rw[Sort.grow_empty]at e1 e2;refine⟨rfl,⟨?_,rfl⟩,(Ch.bF e2).mono (λk hk=>by rw[<-hk];rfl)⟩;obtain⟨Z2,hZ2,Xq,_,_⟩:=cV e1;rw[List.map_append,List.append_assoc]at hZ2 Xq;exact eh (Nat.zero_le _) (by simp[ints]) hZ2 Xq (by omega) fA
end
def ou(hs qs:List Int):List Int:=if hs=[]then qs.take 1 else []
def gi(hs qs:List Int):List Int:=if hs=[]then qs.take 1 else hs
def iI(hs qs:List Int):List Int:=if hs=[]then qs.drop 1 else qs
section
variable{w w':aw}{lb g:Nat}{K:ByteArray}{A HA QA:Option Addr}{c hn hc qn qc n:Nat}{hs qs l t:List Int}{o x:Int}
theorem Ps(h:kV w lb K (G ⟨g,0,U⟩) c HA hn hc QA qn qc hs qs)(hd:(hs++qs).Nodup):
 ax av 243 #[X (G ⟨g,0,U⟩)] w λe w'=>∃uq nQ SA sn sc,e=ay (T SA sn sc)/\eX w' SA sn sc (ou hs qs)/\(∀k,(T SA sn sc).ownBlock=G k->w.heap.size<=k)/\
  kV w' lb K (G ⟨g,0,U⟩) c uq (gi hs qs).length nQ QA (iI hs qs).length qc (gi hs qs) (iI hs qs)/\
  Sub (fe lb (G ⟨g,0,U⟩) c HA hn hc QA qn qc) (fe lb (G ⟨g,0,U⟩) c uq (gi hs qs).length nQ QA (iI hs qs).length qc) w w':=by
 by_cases hh:hs=[]
 ·subst hh;have h0:hn=0:=by have:=h.ho.len;simpa using this.symm
  subst h0;cases qs with
  |nil=>
   have h0:qn=0:=by have:=h.qu.len;simpa using this.symm
   subst h0;refine(Ds h (.inl rfl)).mono ?_;rintro e w' ⟨rfl,hN⟩;exact⟨HA,hc,U,0,0,rfl,⟨World.ownsRow_nil _ _ _ _,rfl⟩,λk hk=>(by cases hk),h.aR hN,Sub.bj _ hN⟩
  |cons y t=>
   have hq:qn=t.length+1:=by have:=h.qu.len;simpa using this.symm
   subst hq;refine(Pj h (by simpa using(List.nodup_cons.1 (by simpa using hd)).1)).mono ?_;rintro e w' ⟨v,rfl,uq,nQ,SA,sc,rfl,cU,gu,hL,hC,hat⟩;refine⟨uq,nQ,SA,1,sc,rfl,⟨cU,rfl⟩,gu,hL,hC.mono (λk hk=>?_),λk hk=>?_⟩
   ·rcases hk with e|e|e
    ·exact .inr (.inl (by rw[e];rfl))
    ·exact .inr (.inr (.inl e))
    ·exact .inr (.inr (.inr e))
   ·rcases hk with e|e|e|e
    ·exact .inl (.inl e)
    ·exact .inl (.inr (.inl e))
    ·rcases hat k e with e|e
     ·exact .inl (.inr (.inr (.inl e)))
     ·exact .inr e
    ·refine .inl (.inr (.inr (.inr ?_)));obtain⟨b,hb,_⟩:=h.qu.form (by omega);subst hb;exact e
 ·have e1:ou hs qs=[]:=if_neg hh;have e2:gi hs qs=hs:=if_neg hh;have e3:iI hs qs=qs:=if_neg hh;rw[e1,e2,e3,h.ho.len,h.qu.len];refine(Ds h ?_).mono ?_
  ·refine .inr ⟨hh,λo t e ho=>?_⟩;subst e;exact(List.nodup_append.1 hd).2.2 o ho o (List.mem_cons_self) rfl
  ·rintro e w' ⟨rfl,hN⟩;exact⟨HA,hc,U,0,0,rfl,⟨World.ownsRow_nil _ _ _ _,rfl⟩,λk hk=>(by cases hk),h.aR hN,Sub.bj _ hN⟩
theorem pO(A:Option Addr)(n m c:Nat):(T A n c).ownBlock=(T A m c).ownBlock:=by
 cases A<;>rfl
theorem kV.qa7(h:kV w lb K (G ⟨g,0,U⟩) c HA hn hc QA qn qc hs qs){w1:aw}{n':Nat}{l:List Int}(hC:Ch (λk=>(T HA hn hc).ownBlock=G k) w w1)(hl:Ac w1 HA n' hc l):
 kV (w1.setCell ⟨g,1,U⟩ (T HA n' hc)) lb K (G ⟨g,0,U⟩) c HA n' hc QA qn qc l qs/\Sub (fe lb (G ⟨g,0,U⟩) c HA hn hc QA qn qc) (fe lb (G ⟨g,0,U⟩) c HA n' hc QA qn qc) w (w1.setCell ⟨g,1,U⟩ (T HA n' hc)):=by
 have sD:(T HA n' hc).ownBlock=(T HA hn hc).ownBlock:=pO _ _ _ _;obtain⟨cur,ev⟩:=ef h.own;have Ov: ¬(T HA hn hc).ownBlock=G g:=aV h.ho.own ev (by decide);have Ou: ¬(T QA qn qc).ownBlock=G g:=aV h.qu.own ev (by decide);have Fc: ¬lb=g:=aX.lF h.aW ev (by decide);have HG:=Ch.setCell (p:=⟨g,1,U⟩) (Ch.r (λk=>k=g) w1) (.inl rfl) (T HA n' hc);have JD:=bg h.own hC (λk hk e=>Ov (by cases hk;exact e));refine⟨⟨(h.aW.ch hC (λe=>aV h.ho.own h.aW (by decide) e)).ch HG Fc,(JD.stored 1 _).1,hl.ch HG (λk hk e=>Ov (by rw[sD]at hk;rw[<-e];exact hk)),
  (h.qu.ch hC (λk hk e=>h.ap k e hk)).ch HG (λk hk e=>Ou (by rw[<-e];exact hk)),λk hk kW=>h.ap k (sD▸hk) kW⟩,⟨(hC.mono (λk hk=>.inr (.inr (.inl hk)))).t (HG.mono (λk hk=>.inr (.inl (by rw[hk];rfl)))),λk hk=>?_⟩⟩
 rcases hk with e|e|e|e
 ·exact .inl (.inl e)
 ·exact .inl (.inr (.inl e))
 ·exact .inl (.inr (.inr (.inl (sD▸e))))
 ·exact .inl (.inr (.inr (.inr e)))
theorem kV.qa8(h:kV w lb K (G ⟨g,0,U⟩) c HA hn hc QA qn qc hs qs){w1:aw}{n':Nat}{l:List Int}(hC:Ch (λk=>(T QA qn qc).ownBlock=G k) w w1)(hl:Ac w1 QA n' qc l):
 kV (w1.setCell ⟨g,2,U⟩ (T QA n' qc)) lb K (G ⟨g,0,U⟩) c HA hn hc QA n' qc hs l/\Sub (fe lb (G ⟨g,0,U⟩) c HA hn hc QA qn qc) (fe lb (G ⟨g,0,U⟩) c HA hn hc QA n' qc) w (w1.setCell ⟨g,2,U⟩ (T QA n' qc)):=by
 have sD:(T QA n' qc).ownBlock=(T QA qn qc).ownBlock:=pO _ _ _ _;obtain⟨cur,ev⟩:=ef h.own;have Ov: ¬(T HA hn hc).ownBlock=G g:=aV h.ho.own ev (by decide);have Ou: ¬(T QA qn qc).ownBlock=G g:=aV h.qu.own ev (by decide);have Fc: ¬lb=g:=aX.lF h.aW ev (by decide);have HG:=Ch.setCell (p:=⟨g,2,U⟩) (Ch.r (λk=>k=g) w1) (.inl rfl) (T QA n' qc);have JD:=bg h.own hC (λk hk e=>Ou (by cases hk;exact e));refine⟨⟨(h.aW.ch hC (λe=>aV h.qu.own h.aW (by decide) e)).ch HG Fc,(JD.stored 2 _).1,(h.ho.ch hC (λk hk e=>h.ap k hk e)).ch HG (λk hk e=>Ov (by rw[<-e];exact hk)),
  hl.ch HG (λk hk e=>Ou (by rw[sD]at hk;rw[<-e];exact hk)),λk hk kW=>h.ap k hk (sD▸kW)⟩,⟨(hC.mono (λk hk=>.inr (.inr (.inr hk)))).t (HG.mono (λk hk=>.inr (.inl (by rw[hk];rfl)))),λk hk=>?_⟩⟩
 rcases hk with e|e|e|e
 ·exact .inl (.inl e)
 ·exact .inl (.inr (.inl e))
 ·exact .inl (.inr (.inr (.inl e)))
 ·exact .inl (.inr (.inr (.inr (sD▸e))))
end
theorem eX.reads{w:aw}{A:Option Addr}{n c:Nat}{l:List Int}(h:eX w A n c l):Reads w w.heap.size 1 A n (ints l):=by
 refine⟨by rw[Ky,h.len,Nat.mul_one],λhn=>?_⟩;rcases h.form with⟨rfl,rfl,rfl⟩|⟨g,rfl⟩
 ·omega
 ·obtain⟨Z,hZ,yz,_,_⟩:=cV h.own;refine⟨_,rfl,hZ.lt,λj u hj=>?_⟩;rw[show(⟨g,0,U⟩:Addr).add j=⟨g,j,U⟩ by unfold Addr.add;split<;>simp_all,hZ.c,List.getElem?_toArray,List.getElem?_append_left (bf hj)];exact hj
section
variable{w w':aw}{lb g:Nat}{K:ByteArray}{A HA QA:Option Addr}{c hn hc qn qc n:Nat}{hs qs l t:List Int}{o x:Int}
theorem Dt(h:wh w lb A c)(o:Int):ax av 180 #[X (G ⟨lb,0,U⟩),I J o] w λe w'=>e=ay (T U 0 0)/\wh w' lb A c/\Ch (λk=>k=lb) w w':=by
 have HN:=O (show M w (w.alloc (az #[I J o] 3))from(Ch.r _ w).alloc _);have H:=O h;have HD:=O (λw=>G2 w A c);have HS:=O (Tryz.slices_Sort_int_none U 0);have Pt:=O (λw=>gv (w:=w) (A:=U) (n:=0) (c:=0) (l:=[]) ⟨World.ownsRow_nil _ _ _ _,rfl⟩);have x0:=(H.o.aR HN.o).aW.c 0;have xl:=(H.o.aR HN.o).aW.lt;clear h;go_enter func180,ntmps180;go_wp2_with fail
 go_loopw[5,17] (λv i wr=>v=T U 0 0/\i=I J 0/\M w wr) (λ_ _ _=>0)
 case atStart=>exact⟨rfl,rfl,HN.o⟩
 case round=>
  obtain⟨rfl,rfl,hC⟩:=hrel;have HC:=O hC;have H2:=O (H.o.aR hC);have y0:=H2.o.aW.c 0;have yl:=H2.o.aW.lt;clear hC x0 xl;go_wp2_with fail;refine(HD.o _).mono ?_;rintro e w2 ⟨rfl,hN⟩;dsimp only;have bJ:=O hN;have H3:=O (H2.o.aR hN);have z0:=H3.o.aW.c 0;have zl:=H3.o.aW.lt;have zf:=H3.o.aW.frozen 0;clear hN y0 yl;go_wp2_with fail;have H4:=O (show wh (w2.setCell ⟨lb,0,U⟩ (T A 0 c)) lb A c from⟨by simpa using H3.o.aW.bm 0 (T A 0 c),fi H3.o.own (λe=>aV H3.o.own H3.o.aW (by decide) e) _⟩);have cK:=O (show Ch (λk=>k=lb) w (w2.setCell ⟨lb,0,U⟩ (T A 0 c))from((HC.o.t bJ.o).mono (au:=λk=>k=lb) (λ_ h=>h.elim)).setCell (p:=⟨lb,0,U⟩) (.inl rfl) _);generalize w2.setCell ⟨lb,0,U⟩ (T A 0 c)=w4 at *;refine(HS.o _).mono ?_;rintro e w5 ⟨rfl,hw⟩;subst w5;dsimp only;go_wp2_with fail;refine(Pt.o _).mono ?_;rintro e w6 ⟨rfl,_,nC⟩;dsimp only;have ir:=O (show M w4 w6 from nC.mono (λk hk=>by cases hk));clear nC;go_wp2_with fail;go_ret;exact⟨rfl,H4.o.aR ir.o,cK.o.t (ir.o.mono (λ_ h=>h.elim))⟩
theorem Ss(H Q:List Int)(h:gi H Q=[]):iI H Q=[]:=by
 unfold gi at h;unfold iI;split at h
 ·rename_i hh;rw[if_pos hh];cases Q with
  |nil=>rfl
  |cons a t=>simp at h
 ·contradiction
theorem AF{l:List Int}(h:l.length<=1):(l.mergeSort λx y=>decide (x<=y))=l:=by
 match l with
 |[]=>simp
 |[x]=>simp
 |x::y::t=>simp at h
theorem sE{l:List Int}(h:l.length<=1):Lib.compact l=l:=Lib.compact_all l (λj hj=>Lib.keeps_lt_one _ j (by omega))
theorem gU{w:aw}{e1 e2:TypeId}{s1 s2 n1 n2:Nat}{v1 v2:Value}{xs1 xs2:List Value}(h1:w.ownsRow 0 e1 s1 v1 n1 xs1)(h2:w.ownsRow 0 e2 s2 v2 n2 xs2)(eQ:e1≠e2): ∀k,v1.ownBlock=G k->¬v2.ownBlock=G k:=by
 intro k hk kW;rcases h2.2 with⟨e,_⟩|⟨b,cap,cur,e,_,hb,_⟩
 ·rw[e]at kW;cases kW
 ·rw[e]at kW;injection kW with kW;have kW:b=k:=kW;subst kW;exact aV h1 (show aX w b e2 cur from hb) eQ hk
theorem Pu{sn sc:Nat}{SA:Option Addr}{li:List Int}(h:wh w lb A c)(hi:eX w SA sn sc li): ∀k,mH lb A c k->¬(T SA sn sc).ownBlock=G k:=λk hk kW=>by
 rcases hk with e|e
 ·rw[e]at kW;exact aV hi.own h.aW (by decide) kW
 ·exact gU h.own hi.own (by decide) k e kW
theorem Pv{sn sc:Nat}{SA:Option Addr}{li:List Int}(h:kV w lb K A c HA hn hc QA qn qc hs qs)(hi:eX w SA sn sc li): ∀k,fe lb A c HA hn hc QA qn qc k->¬(T SA sn sc).ownBlock=G k:=λk hk kW=>by
 rcases hk with e|e|e|e
 ·rw[e]at kW;exact aV hi.own h.aW (by decide) kW
 ·exact gU h.own hi.own (by decide) k e kW
 ·exact gU h.ho.own hi.own (by decide) k e kW
 ·exact gU h.qu.own hi.own (by decide) k e kW
def LvR(w:aw)(lb g:Nat)(K:ByteArray)(c:Nat)(HA:Option Addr)(hn hc:Nat)(QA:Option Addr)(qn qc:Nat)(H Q:List Int)(e:Ending)(w':aw):Prop:=
 ∃SA sn sc,e=ay (T SA sn sc)/\eX w' SA sn sc (ou H Q)/\(∀k,(T SA sn sc).ownBlock=G k->w.heap.size<=k)/\
  ((gi H Q=[]/\wh w' lb (G ⟨g,0,U⟩) c/\Sub (fe lb (G ⟨g,0,U⟩) c HA hn hc QA qn qc) (mH lb (G ⟨g,0,U⟩) c) w w')\/
   (gi H Q≠[]/\∃uq nQ,kV w' lb K (G ⟨g,0,U⟩) c uq (gi H Q).length nQ QA (iI H Q).length qc (gi H Q) (iI H Q)/\
     Sub (fe lb (G ⟨g,0,U⟩) c HA hn hc QA qn qc) (fe lb (G ⟨g,0,U⟩) c uq (gi H Q).length nQ QA (iI H Q).length qc) w w'))
def LvP(w:aw)(lb g:Nat)(K:ByteArray)(c:Nat)(HA:Option Addr)(hn hc:Nat)(QA:Option Addr)(qn qc:Nat)(H Q:List Int)(v:Value)(w':aw):Prop:=
 ∃SA sn sc uq nQ,v=T SA sn sc/\eX w' SA sn sc (ou H Q)/\(∀k,(T SA sn sc).ownBlock=G k->w.heap.size<=k)/\
  kV w' lb K (G ⟨g,0,U⟩) c uq (gi H Q).length nQ QA (iI H Q).length qc (gi H Q) (iI H Q)/\
  Sub (fe lb (G ⟨g,0,U⟩) c HA hn hc QA qn qc) (fe lb (G ⟨g,0,U⟩) c uq (gi H Q).length nQ QA (iI H Q).length qc) w w'
theorem G5(h:kV w lb K (G ⟨g,0,U⟩) c HA hn hc QA qn qc hs qs)(hd:(hs++qs).Nodup)(o:Int)(H Q:List Int)(hH:hs.filter (· ≠o)=H)(hQ:qs.filter (· ≠o)=Q):
 ax av 180 #[X (G ⟨lb,0,U⟩),I J o] w (LvR w lb g K c HA hn hc QA qn qc H Q):=by
 have HN:=O (show M w (w.alloc (az #[I J o] 3))from(Ch.r _ w).alloc _);have HB:=O (aX.new w 3 #[I J o]);have H1:=O h;have dB:=O (show(H++Q).Nodup from by rw[<-hH, <-hQ, <-List.filter_append];exact hd.sublist List.filter_sublist);have HEH:=O hH;have HEQ:=O hQ;have x0:=(H1.o.aR HN.o).aW.c 0;have xl:=(H1.o.aR HN.o).aW.lt;clear h hd hH hQ;go_enter func180,ntmps180;go_wp2_with fail;obtain⟨w0,G6⟩:=bG (w.alloc (az #[I J o] 3));obtain⟨ob,sD⟩:=bG (w.heap.size);rw[sD]at HB;rw[G6]at HN HB x0 xl⊢;simp only[sD];clear G6 sD
 go_loopw[5,17] (λv i wr=>(v=T U 0 0/\i=I J 0/\wr=w0)\/(i=I J 1/\LvP w lb g K c HA hn hc QA qn qc H Q v wr)) (λ_ i _=>1- (intOf i).toNat)
 case atStart=>exact .inl ⟨rfl,rfl,rfl⟩
 case round=>
  rcases hrel with⟨rfl,rfl,hw⟩|⟨rfl,SA,sn,sc,uq,nQ,rfl,hI,gu,hL,hS⟩
  ·subst wr;have H2:=O (H1.o.aR HN.o);obtain⟨g',e,hl,eQ,dL,y0,y1,y2⟩:=H2.o.line;injection e with e;injection e with e1 _;subst e1;have HD:=O (Fh H2.o.ho HB.o);rw[HEH.o]at HD;clear dL;go_wp2_with fail;refine HD.o.mono ?_;rintro e w3 ⟨rfl,hH3,Du⟩;dsimp only;have Ov: ¬(T HA hn hc).ownBlock=G g:=by
    obtain⟨cur,ev⟩:=ef H2.o.own;exact aV H2.o.ho.own ev (by decide)
   have hog: ¬ob=g:=by
    obtain⟨cur,ev⟩:=ef H2.o.own;exact aX.lF HB.o ev (by decide)
   have hoH: ¬(T HA hn hc).ownBlock=G ob:=aV H2.o.ho.own HB.o (by decide);have wv:=O (bg H2.o.own Du (λk hk e=>Ov (by cases hk;exact e)));have fL:=O (HB.o.ch Du hoH);have mj:=O (H2.o.qa7 Du hH3);have iq:=O (fL.o.ch (Ch.setCell (p:=⟨g,1,U⟩) (Ch.r (λk=>k=g) w3) (.inl rfl) (T HA H.length hc)) hog);obtain⟨g',ta,e,ZL,v0,v1,v2⟩:=(show jy w3 (G ⟨g,0,U⟩) K HA hn hc QA qn qc from Rd.own wv.o).at_;injection e with e;injection e with e1 e2;subst e1 e2;simp only[Nat.zero_add]at v1 v2;have vf:=wv.o.frozenAt 1;have JE:lb<w3.heap.size:=aP H2.o.aW.lt Du.size;clear Ov hog hoH hH3 Du HD y0 y1 y2 hl;go_wp2_with fail;generalize w3.setCell ⟨g,1,U⟩ (T HA H.length hc)=w4 at *;have Xr:=O (Fh mj.o.1.qu iq.o);rw[HEQ.o]at Xr;refine Xr.o.mono ?_;rintro e w5 ⟨rfl,hH5,qE⟩;dsimp only;have Ou: ¬(T QA qn qc).ownBlock=G g:=by
    obtain⟨cur,ev⟩:=ef mj.o.1.own;exact aV mj.o.1.qu.own ev (by decide)
   have mJ:=O (bg mj.o.1.own qE (λk hk e=>Ou (by cases hk;exact e)));have St:=O (mj.o.1.qa8 qE hH5);obtain⟨g',ta,e,CJ,q0,q1,q2⟩:=(show jy w5 (G ⟨g,0,U⟩) K HA H.length hc QA qn qc from Rd.own mJ.o).at_;injection e with e;injection e with e1 e2;subst e1 e2;simp only[Nat.zero_add]at q1 q2;have qf:=mJ.o.frozenAt 2;clear Ou hH5 qE Xr v0 v1 v2 vf ZL;go_wp2_with fail;generalize w5.setCell ⟨g,2,U⟩ (T QA Q.length qc)=w6 at *;have T1:=O (Ps St.o.1 dB.o);refine T1.o.mono ?_;rintro e w7 ⟨uq,nQ,SA,sn,sc,rfl,hI7,AG,hL7,Xs⟩;dsimp only;have HI7:=O hI7;have V9:=O hL7;have Fi:=O (((Sub.bj _ HN.o).trans mj.o.2).trans (St.o.2.trans Xs));have Fj:sn<=1:=by
    rw[<-hI7.len];unfold ou;split
    ·simp;omega
    ·simp
   clear hI7 AG hL7 Xs q0 q1 q2 qf CJ;obtain⟨i1,dX,er,eu,eK⟩:=info_parts iH;go_wp2_with(first
    |(at_builtin
      refine bp _ rfl (.tmp 44) (.tmp 46) _ rfl 0 3 i1 _ 1 8 underlying40 dX er eu eK rfl (by omega) (T U 0 0) 0 [] rfl
       (World.ownsRow_nil _ 0 3 1) w7.heap.size SA sn sc (ints (ou H Q)) rfl HI7.o.reads (λu hu=>by
         obtain⟨_,_,rfl⟩:=List.mem_map.1 hu;rfl) (by simp only[maxLen];omega) (by omega) (Nat.zero_le _) ?_
      intro v8 w8 bM dS dG;obtain⟨A8,c8,rfl⟩:=bz bM;have mh:=O bM;have iT:=O (Ch.bF dS);have nS:=O dG;clear bM dS dG))
   have HF:=O (show M w7 w8 from iT.o.mono (λk hk=>by cases hk));refine⟨.inr ⟨rfl,A8,sn,c8,uq,nQ,rfl,⟨by simpa using mh.o,HI7.o.len⟩,λk hk=>?_,V9.o.aR HF.o,Fi.o.trans (Sub.bj _ HF.o)⟩,by simp[intOf]⟩;rcases nS.o with e|e
   ·have ZM:(T A8 (0+sn) c8).ownBlock=G k:=by rw[Nat.zero_add];exact hk
    rw[ZM]at e;cases e
   ·have ZM:(T A8 (0+sn) c8).ownBlock=G k:=by rw[Nat.zero_add];exact hk
    rw[ZM]at e;injection e with e;have:=Fi.o.ch.size;omega
  ·have HI:=O hI;have gI:=O gu;have HL:=O hL;have HS:=O hS;have Fj:sn<=1:=by
    rw[<-hI.len];unfold ou;split
    ·simp;omega
    ·simp
   have x0:=hL.aW.c 0;have xl:=hL.aW.lt;clear hI gu hL hS;have HE:=O (Ss H Q);by_cases hE:gi H Q=[]
   ·have Su:=HL.o;have hQ0:=HE.o hE;rw[hE,hQ0]at Su;have HD:=O (G4 Su.own);have ZN:=O Su;have Kz:=O hE;clear Su hQ0 hE;go_wp2_with fail;refine HD.o.mono ?_;rintro e w2 ⟨rfl,cU,hC⟩;dsimp only;have Fc: ¬lb=g:=by
     obtain⟨cur,ev⟩:=ef ZN.o.own;exact aX.lF ZN.o.aW ev (by decide)
    have cJ:=O (ZN.o.aW.ch hC Fc);have z0:=cJ.o.c 0;have zl:=cJ.o.lt;have zf:=cJ.o.frozen 0;have Xt:=O (HI.o.ch hC (λk hk e=>gU ZN.o.own HI.o.own (by decide) g rfl (e▸hk)));have qa9:=O cU;have jF:=O hC;have xh:=O Fc;clear cU hC x0 xl Fc HD;go_wp2_with fail;have sw:=O (show wh (w2.setCell ⟨lb,0,U⟩ (T (G ⟨g,0,U⟩) 0 c)) lb (G ⟨g,0,U⟩) c from
     ⟨by simpa using cJ.o.bm 0 (T (G ⟨g,0,U⟩) 0 c),fi qa9.o (λe=>xh.o (by injection e with e;exact e.symm)) _⟩)
    have KB:=O (Ch.setCell (p:=⟨lb,0,U⟩) (Ch.r (λk=>k=lb) w2) (.inl rfl) (T (G ⟨g,0,U⟩) 0 c));have KC:=O (Xt.o.ch KB.o (λk hk e=>aV Xt.o.own cJ.o (by decide) (by rw[<-e];exact hk)));have lY:=O (HS.o.trans (show Sub _ (mH lb (G ⟨g,0,U⟩) c) wr (w2.setCell ⟨lb,0,U⟩ (T (G ⟨g,0,U⟩) 0 c))from⟨(jF.o.mono (λk hk=>.inr (.inl (by rw[hk];rfl)))).t (KB.o.mono (λk hk=>.inl hk)),λk hk=>by
     rcases hk with e|e
     ·exact .inl (.inl e)
     ·exact .inl (.inr (.inl e))⟩))
    generalize w2.setCell ⟨lb,0,U⟩ (T (G ⟨g,0,U⟩) 0 c)=w4 at *;have CQ:(ou H Q).length<=1:=by rw[KC.o.len];exact Fj
    have KD:=O (jZ KC.o (by omega));rw[AF CQ]at KD;go_wp2_with fail;refine KD.o.mono ?_;rintro e w5 ⟨rfl,CR,qE⟩;dsimp only;have dZ:=O qE;have KE:=O (gv CR);rw[sE CQ]at KE;clear CR qE KD;go_wp2_with fail;refine KE.o.mono ?_;rintro e w6 ⟨rfl,G7,nC⟩;dsimp only;have KF:=O G7;have iU:=O nC;clear G7 nC KE;rw[KC.o.len]at KF;have hlen:=KC.o.len;simp only[hlen];have Ox:=O (show Ch (λk=>(T SA sn sc).ownBlock=G k) w4 w6 from dZ.o.t iU.o);go_wp2_with fail;go_ret;exact⟨SA,sn,sc,rfl,KF.o,gI.o,.inl ⟨Kz.o,sw.o.ch Ox.o (Pu sw.o KC.o),lY.o.ch.trans Ox.o (λk hk=>.inr (gI.o k hk)),lY.o.new⟩⟩
   ·have hnE: ¬(gi H Q).length+(iI H Q).length=0:=λe=>hE (List.eq_nil_of_length_eq_zero (by omega));have HD:=O (G3 (c:=c) HL.o.rd HL.o.ho.fx HL.o.qu.fx hnE);have Kz:=O hE;clear hE hnE;go_wp2_with fail;refine HD.o.mono ?_;rintro e w2 ⟨rfl,hN⟩;dsimp only;have iC:=O (HL.o.aR hN);have Xt:=O (HI.o.aR hN);have bJ:=O hN;have z0:=iC.o.aW.c 0;have zl:=iC.o.aW.lt;have zf:=iC.o.aW.frozen 0;clear hN x0 xl HD;go_wp2_with fail;have KB:=O (Ch.setCell (p:=⟨lb,0,U⟩) (Ch.r (λk=>k=lb) w2) (.inl rfl) (T (G ⟨g,0,U⟩) 1 c));have sw:=O (show kV (w2.setCell ⟨lb,0,U⟩ (T (G ⟨g,0,U⟩) 1 c)) lb K (G ⟨g,0,U⟩) c uq (gi H Q).length nQ QA (iI H Q).length qc (gi H Q) (iI H Q)from
     ⟨by simpa using iC.o.aW.bm 0 (T (G ⟨g,0,U⟩) 1 c),bg iC.o.own KB.o (λk hk e=>aV iC.o.own iC.o.aW (by decide) (by rw[<-e];exact hk)),
       iC.o.ho.ch KB.o (λk hk e=>aV iC.o.ho.own iC.o.aW (by decide) (by rw[<-e];exact hk)),iC.o.qu.ch KB.o (λk hk e=>aV iC.o.qu.own iC.o.aW (by decide) (by rw[<-e];exact hk)),iC.o.ap⟩)
    have KC:=O (Xt.o.ch KB.o (λk hk e=>aV Xt.o.own iC.o.aW (by decide) (by rw[<-e];exact hk)));have lY:=O (HS.o.trans (show Sub _ (fe lb (G ⟨g,0,U⟩) c uq (gi H Q).length nQ QA (iI H Q).length qc) wr (w2.setCell ⟨lb,0,U⟩ (T (G ⟨g,0,U⟩) 1 c))from⟨(bJ.o.mono (λ_ h=>h.elim)).t (KB.o.mono (λk hk=>.inl hk)),λk hk=>.inl hk⟩));generalize w2.setCell ⟨lb,0,U⟩ (T (G ⟨g,0,U⟩) 1 c)=w4 at *;have CQ:(ou H Q).length<=1:=by rw[KC.o.len];exact Fj
    have KD:=O (jZ KC.o (by omega));rw[AF CQ]at KD;go_wp2_with fail;refine KD.o.mono ?_;rintro e w5 ⟨rfl,CR,qE⟩;dsimp only;have dZ:=O qE;have KE:=O (gv CR);rw[sE CQ]at KE;clear CR qE KD;go_wp2_with fail;refine KE.o.mono ?_;rintro e w6 ⟨rfl,G7,nC⟩;dsimp only;have KF:=O G7;have iU:=O nC;clear G7 nC KE;rw[KC.o.len]at KF;have hlen:=KC.o.len;simp only[hlen];have Ox:=O (show Ch (λk=>(T SA sn sc).ownBlock=G k) w4 w6 from dZ.o.t iU.o);go_wp2_with fail;go_ret;exact⟨SA,sn,sc,rfl,KF.o,gI.o,.inr ⟨Kz.o,uq,nQ,sw.o.ch Ox.o (Pv sw.o KC.o),lY.o.ch.trans Ox.o (λk hk=>.inr (gI.o k hk)),lY.o.new⟩⟩
end
def G8(w:aw)(rk:Nat)(a b c:Value):aw:=((w.setCell ⟨rk,0,U⟩ a).setCell ⟨rk,1,U⟩ b).setCell ⟨rk,2,U⟩ c
theorem Fk(w:aw)(rk:Nat)(a b c:Value):Ch (λk=>k=rk) w (G8 w rk a b c):=
 (((Ch.r (λk=>k=rk) w).setCell (p:=⟨rk,0,U⟩) (.inl rfl) a).setCell (p:=⟨rk,1,U⟩) (.inl rfl) b).setCell (p:=⟨rk,2,U⟩) (.inl rfl) c
theorem AH{w:aw}{rk:Nat}{t:TypeId}{x y z:Value}(h:aX w rk t #[x,y,z])(a b c:Value):aX (G8 w rk a b c) rk t #[a,b,c]:=(((h.bm 0 a).bm 1 b).bm 2 c)
section
variable{w w':aw}{lb g:Nat}{K:ByteArray}{A HA QA:Option Addr}{c hn hc qn qc n:Nat}{hs qs l t:List Int}{o x:Int}
theorem KH(w:aw):ax av 57 #[] w λe w'=>e=ay (X (G ⟨w.heap.size,0,U⟩))/\w'=w.alloc (az #[T U 0 0] 181):=by
 go_enter func57,ntmps57;go_wp2_with fail;go_ret;exact⟨rfl,rfl⟩
theorem Pw(w:aw):wh (w.alloc (az #[T U 0 0] 181)) w.heap.size U 0:=⟨aX.new _ _ _,World.ownsRow_nil _ _ _ _⟩
theorem Px(h:wh w lb A c)(K:ByteArray):ax av 256 #[X (G ⟨lb,0,U⟩),V K] w λe w'=>e=ay (aC #[V ⟨#[]⟩,T U 0 0,T U 0 0])/\M w w':=by
 have HN:=O (show M w (w.alloc (az #[V ⟨#[]⟩,T U 0 0,T U 0 0] 321))from(Ch.r _ w).alloc _);have HB:=O (aX.new w 321 #[V ⟨#[]⟩,T U 0 0,T U 0 0]);have HF:=O (Fb (K:=K) (h.aR HN.o));clear h;go_enter func256,ntmps256;go_wp2_with fail;refine HF.o.mono ?_;rintro e w2 ⟨rfl,hN⟩;dsimp only;have bJ:=O (HN.o.t hN);have cJ:=O (HB.o.ch hN (λh=>h));obtain⟨rk,iZ⟩:=bG (w.heap.size);rw[iZ]at cJ;simp only[iZ];have⟨z0,z1,z2⟩:=O3 cJ.o;have zl:=cJ.o.lt;have f0:=cJ.o.frozen 0;have f1:=cJ.o.frozen 1;have f2:=cJ.o.frozen 2;have yD:=O iZ;clear hN HF iZ;go_wp2_with fail;change bodyPost _ _ _ _ _ (G8 w2 rk (V ⟨#[]⟩) (T U 0 0) (T U 0 0));have HX:=O (AH cJ.o (V ⟨#[]⟩) (T U 0 0) (T U 0 0));have HC:=O (Fk w2 rk (V ⟨#[]⟩) (T U 0 0) (T U 0 0));generalize G8 w2 rk (V ⟨#[]⟩) (T U 0 0) (T U 0 0)=w5 at *;have⟨g0,g1,g2⟩:=O3 HX.o;refine aE (v:=aC #[V ⟨#[]⟩,T U 0 0,T U 0 0]) (by simp[results,results256,go_sem,g0,g1,g2]) rfl ⟨rfl,?_⟩;exact(bJ.o.mono (au:=λ_=>False) (λ_ h=>h.elim)).trans HC.o (λk hk=>.inr (by have:=yD.o;omega))
theorem Py(h:kV w lb K (G ⟨g,0,U⟩) c HA hn hc QA qn qc hs qs):ax av 256 #[X (G ⟨lb,0,U⟩),V K] w λe w'=>e=ay (aC #[V K,T HA hn hc,T QA qn qc])/\M w w':=by
 have HN:=O (show M w (w.alloc (az #[V ⟨#[]⟩,T U 0 0,T U 0 0] 321))from(Ch.r _ w).alloc _);have HB:=O (aX.new w 321 #[V ⟨#[]⟩,T U 0 0,T U 0 0]);have HF:=O (yG (h.aR HN.o));have H1:=O h;clear h;go_enter func256,ntmps256;go_wp2_with fail;refine HF.o.mono ?_;rintro e w2 ⟨rfl,hN⟩;dsimp only;have bJ:=O (HN.o.t hN);have H2:=O (H1.o.aR bJ.o);obtain⟨g',e,hl,eQ,dL,y0,y1,y2⟩:=H2.o.line;injection e with e;injection e with e1 _;subst e1;have x0:=H2.o.aW.c 0;have xl:=H2.o.aW.lt;have cJ:=O (HB.o.ch hN (λh=>h));obtain⟨rk,iZ⟩:=bG (w.heap.size);rw[iZ]at cJ;simp only[iZ];have⟨z0,z1,z2⟩:=O3 cJ.o;have zl:=cJ.o.lt;have f0:=cJ.o.frozen 0;have f1:=cJ.o.frozen 1;have f2:=cJ.o.frozen 2;have yD:=O iZ;clear hN HF iZ dL;go_wp2_with fail;change bodyPost _ _ _ _ _ (G8 w2 rk (V K) (T HA hn hc) (T QA qn qc));have HX:=O (AH cJ.o (V K) (T HA hn hc) (T QA qn qc));have HC:=O (Fk w2 rk (V K) (T HA hn hc) (T QA qn qc));generalize G8 w2 rk (V K) (T HA hn hc) (T QA qn qc)=w5 at *;have⟨g0,g1,g2⟩:=O3 HX.o;refine aE (v:=aC #[V K,T HA hn hc,T QA qn qc]) (by simp[results,results256,go_sem,g0,g1,g2]) rfl ⟨rfl,?_⟩;exact(bJ.o.mono (au:=λ_=>False) (λ_ h=>h.elim)).trans HC.o (λk hk=>.inr (by have:=yD.o;omega))
theorem KI(h:wh w lb A c)(K:ByteArray)(o:Int):ax av 186 #[X (G ⟨lb,0,U⟩),I J o,V K] w λe w'=>e=ay (I J 0)/\M w w':=by
 have HL:=O (Px h K);have HO:=O (λw=>mG (w:=w) (A:=U) (n:=0) (c:=0) (l:=[]) ⟨rfl,by omega,λh=>absurd rfl h⟩ o);clear h;have hfd: ∀w':aw,(Instr.field 321 (aC #[V ⟨#[]⟩,T U 0 0,T U 0 0]) 1).run av w'= .ok (T U 0 0) w':=λ_=>by kernel_rfl
 go_enter func186,ntmps186;go_wp2_with fail;refine HL.o.mono ?_;rintro e w2 ⟨rfl,hN⟩;dsimp only;have bJ:=O hN;clear hN HL;go_wp2_with fail;refine(HO.o _).mono ?_;rintro e w3 ⟨rfl,hN⟩;dsimp only;have cE:=O hN;clear hN HO;go_wp2_with fail;go_ret;exact⟨by simp,bJ.o.t cE.o⟩
theorem KJ(h:kV w lb K (G ⟨g,0,U⟩) c HA hn hc QA qn qc hs qs)(o:Int):ax av 186 #[X (G ⟨lb,0,U⟩),I J o,V K] w λe w'=>e=ay (I J (if o∈hs then 2 else 0))/\M w w':=by
 have HL:=O (Py h);have HO:=O (λw' (hC:M w w')=>mG (c:=hc) (h.aR hC).ho.rd o);obtain⟨R,hR⟩: ∃R:Int,(if o∈hs then 2 else 0)=R:=⟨_,rfl⟩;rw[hR]at HO;rw[hR];clear h hR;have hfd: ∀w':aw,(Instr.field 321 (aC #[V K,T HA hn hc,T QA qn qc]) 1).run av w'= .ok (T HA hn hc) w':=λ_=>by kernel_rfl
 go_enter func186,ntmps186;go_wp2_with fail;refine HL.o.mono ?_;rintro e w2 ⟨rfl,hN⟩;dsimp only;have bJ:=O hN;have wu:=O (HO.o _ hN);clear hN HL;go_wp2_with fail;refine wu.o.mono ?_;rintro e w3 ⟨rfl,hN⟩;dsimp only;have cE:=O hN;clear hN wu;go_wp2_with fail;go_ret;exact⟨rfl,bJ.o.t cE.o⟩
end
def iW(w:aw)(lb:Nat)(K:ByteArray)(F:Nat->Prop):List Int->Prop
 |[]=>∃A c,wh w lb A c/\F=mH lb A c
 |x::q=>∃g c HA hc QA qc,kV w lb K (G ⟨g,0,U⟩) c HA 1 hc QA q.length qc [x] q/\F=fe lb (G ⟨g,0,U⟩) c HA 1 hc QA q.length qc
def qW(l:List Int)(o:Int):Int:=if im (mf l o) o then 0 else 10
section
variable{w w':aw}{lb:Nat}{K:ByteArray}{F:Nat->Prop}{l:List Int}{o:Int}
theorem iW.aR(h:iW w lb K F l)(hC:M w w'):iW w' lb K F l:=by
 cases l with
 |nil=>
  obtain⟨A,c,h,e⟩:=h;exact⟨A,c,h.aR hC,e⟩
 |cons x q=>
  obtain⟨g,c,HA,hc,QA,qc,h,e⟩:=h;exact⟨g,c,HA,hc,QA,qc,h.aR hC,e⟩
theorem iW.ch{S:Nat->Prop}(h:iW w lb K F l)(hC:Ch S w w')(hS: ∀g,F g->¬S g):iW w' lb K F l:=by
 cases l with
 |nil=>
  obtain⟨A,c,h,rfl⟩:=h;exact⟨A,c,h.ch hC hS,rfl⟩
 |cons x q=>
  obtain⟨g,c,HA,hc,QA,qc,h,rfl⟩:=h;exact⟨g,c,HA,hc,QA,qc,h.ch hC hS,rfl⟩
theorem iW.fC(h:iW w lb K F l):oo F w:=by
 cases l with
 |nil=>
  obtain⟨A,c,h,rfl⟩:=h;exact h.fC
 |cons x q=>
  obtain⟨g,c,HA,hc,QA,qc,h,rfl⟩:=h;exact h.fC
theorem AJ(h:iW w lb K F l)(hd:l.Nodup)(hl:l.length<1000)(ho:0<=o)(hK:K.size<=16):
 ax av 185 #[X (G ⟨lb,0,U⟩),I J o,V K,I J 2] w λe w'=>e=ay (I J (qW l o))/\∃F',iW w' lb K F' (mf l o)/\Sub F F' w w':=by
 cases l with
 |nil=>
  obtain⟨A,c,h,rfl⟩:=h;refine(Pk h ho hK).mono ?_;rintro e w' ⟨rfl,g,c',hb,h1,hs⟩;exact⟨by simp[qW,mf,im],_,⟨g,c',_,_,_,_,h1,rfl⟩,hs⟩
 |cons x q=>
  obtain⟨g,c,HA,hc,QA,qc,h,rfl⟩:=h;have hx:=(List.nodup_cons.1 hd).1;by_cases tH:o=x\/o∈q
  ·refine(Ko h ho hK tH).mono ?_;rintro e w' ⟨rfl,hN⟩;have e1:mf (x::q) o=x::q:=if_pos (by simpa using tH);have heE:qW (x::q) o=if o=x then 0 else 10:=by
    unfold qW;rw[e1];by_cases e:o=x
    ·subst e;simp[im]
    ·simp[im,e,Ne.symm e]
   refine⟨by rw[show qW (x::q) o=if o=x then 0 else 10 from heE],_,?_,Sub.bj _ hN⟩;rw[e1];exact⟨g,c,HA,hc,QA,qc,h.aR hN,rfl⟩
  ·have eQ:o≠x:=λe=>tH (.inl e);refine(Ku h ho hK hx ⟨eQ,λe=>tH (.inr e)⟩ (by simp at hl;omega)).mono ?_;rintro e w' ⟨rfl,Xl,Xm,h1,hs⟩;have e1:mf (x::q) o=x::(q++[o]):=by
    unfold mf;rw[if_neg (by simpa using tH)];rfl
   refine⟨by rw[show qW (x::q) o=10 by unfold qW;rw[e1];simp[im,Ne.symm eQ]],fe lb (G ⟨g,0,U⟩) c HA 1 hc Xl (q.length+1) Xm,?_,hs⟩;rw[e1];exact⟨g,c,HA,hc,Xl,Xm,by simpa using h1,by simp⟩
def T4(l:List Int)(o:Int):List Int:=match l with
 |[]=>[]
 |x::q=>ou ([x].filter (· ≠o)) (q.filter (· ≠o))
theorem oP(h:iW w lb K F l)(hd:l.Nodup)(o:Int):
 ax av 180 #[X (G ⟨lb,0,U⟩),I J o] w λe w'=>∃SA sn sc F',e=ay (T SA sn sc)/\eX w' SA sn sc (T4 l o)/\(∀k,(T SA sn sc).ownBlock=G k->w.heap.size<=k)/\iW w' lb K F' (l.filter (· ≠o))/\Sub F F' w w':=by
 cases l with
 |nil=>
  obtain⟨A,c,h,rfl⟩:=h;refine(Dt h o).mono ?_;rintro e w' ⟨rfl,h1,hC⟩;exact⟨U,0,0,_,rfl,⟨World.ownsRow_nil _ _ _ _,rfl⟩,λk hk=>(by cases hk),⟨A,c,h1,rfl⟩,⟨hC.mono (λk hk=>.inl hk),λk hk=>.inl hk⟩⟩
 |cons x q=>
  obtain⟨g,c,HA,hc,QA,qc,h,rfl⟩:=h;refine(G5 h hd o _ _ rfl rfl).mono ?_;rintro e w' ⟨SA,sn,sc,rfl,hI,gu,ht⟩;have key:gi ([x].filter (· ≠o)) (q.filter (· ≠o))++iI ([x].filter (· ≠o)) (q.filter (· ≠o))=(x::q).filter (· ≠o):=by
   rw[show x::q=[x]++q from rfl,List.filter_append];unfold gi iI;split
   ·rename_i hh;rw[hh,List.nil_append,List.take_append_drop]
   ·rfl
  have T5:(gi ([x].filter (· ≠o)) (q.filter (· ≠o))).length<=1:=by
   unfold gi;split
   ·simp;omega
   ·exact aO (List.length_filter_le _ _) (by simp)
  rw[<-key];generalize hHo:gi ([x].filter (· ≠o)) (q.filter (· ≠o))=HH at *;have hem:=Ss ([x].filter (· ≠o)) (q.filter (· ≠o));rw[hHo]at hem;generalize iI ([x].filter (· ≠o)) (q.filter (· ≠o))=QQ at *;rcases ht with⟨e,h1,hs⟩|⟨e,uq,nQ,h1,hs⟩
  ·subst e;have hq:QQ=[]:=hem rfl;subst hq;exact⟨SA,sn,sc,_,rfl,hI,gu,⟨_,_,h1,rfl⟩,hs⟩
  ·match HH,e,T5 with
   |[y],_,_=>exact⟨SA,sn,sc,_,rfl,hI,gu,⟨g,c,uq,nQ,QA,qc,h1,rfl⟩,hs⟩
end
section
variable{w w':aw}{A:Option Addr}{n c:Nat}{l:List Int}{o x:Int}
theorem eX.push{v8:Value}{w8:aw}{li:List Int}{sn:Nat}(h:w8.ownsRow 0 3 1 v8 (sn+1) (ints li++[I J x]))(hl:li.length=sn): ∃A8 c8,v8=T A8 (sn+1) c8/\eX w8 A8 (sn+1) c8 (li++[x]):=by
 obtain⟨A8,c8,rfl⟩:=bz h;exact⟨A8,c8,rfl,by simpa [ints]using h,by simp[hl]⟩
theorem sF(h:fN w A n l)(o:Int):ax av 263 #[T A n c,aC #[I J o,I J 2]] w λe w'=>∃SA sn sc,e=ay (T SA sn sc)/\eX w' SA sn sc (l.filter (· ≠o))/\(∀k,(T SA sn sc).ownBlock=G k->w.heap.size<=k)/\M w w':=by
 have H:=O h;have HL:=O h.1;have hn:(n:Int)<=1000:=by have:=h.2.1;omega
 have jj:=O um;have HN:=O (show M w (w.alloc (az #[I J o,I J 2] 316))from(Ch.r _ w).alloc _);have HB:=O (aX.new w 316 #[I J o,I J 2]);obtain⟨i1,dX,er,eu,eK⟩:=info_parts iH;clear h;go_enter func263,ntmps263;go_wp2_with fail;obtain⟨w0,G6⟩:=bG (w.alloc (az #[I J o,I J 2] 316));obtain⟨ob,sD⟩:=bG (w.heap.size);rw[sD]at HB;rw[G6]at HN HB⊢;simp only[sD];clear G6 sD
 go_loopw[5,10] (λv i wr=>∃(k:Nat) (SA:Option Addr) (sn sc:Nat),k<=n/\i=I J k/\v=T SA sn sc/\eX wr SA sn sc ((l.take k).filter (· ≠o))/\(∀b,(T SA sn sc).ownBlock=G b->w0.heap.size<=b)/\M w0 wr) (λ_ i _=>n- (intOf i).toNat)
 case atStart=>exact⟨0,U,0,0,by omega,rfl,rfl,⟨World.ownsRow_nil _ _ _ _,rfl⟩,λb hb=>(by cases hb),Ch.r _ _⟩
 case round=>
  obtain⟨k,SA,sn,sc,hk,rfl,rfl,hI,gu,hC⟩:=hrel;have HI:=O hI;have gI:=O gu;have HC:=O hC;have Fj:sn<=1000:=by
   rw[<-hI.len];have h1:=List.length_filter_le (· ≠o) (l.take k);rw[List.length_take]at h1;have:=HL.o;omega
  clear hI gu hC;by_cases hlt:k<n
  ·obtain⟨x,hx⟩:=bh (show k<l.length by rw[HL.o];exact hlt);obtain⟨b,off,rfl,hb,x0,x1⟩:=(H.o.aR (HN.o.t HC.o)).at_ hx;have HX:=O hx;have cJ:=O (HB.o.ch HC.o (λh=>h));have⟨y0,y1⟩:=vS cJ.o;have yl:=cJ.o.lt;have jq:(k:Int)<(n:Int):=by omega
   have hT:(l.take (k+1)).filter (· ≠o)=(l.take k).filter (· ≠o)++(if x=o then []else [x]):=by
    rw[List.take_add_one,HX.o,List.filter_append];by_cases e:x=o<;>simp[e]
   have HT:=O hT;clear hx hT;by_cases e:x=o
   ·subst e;go_wp2_with fail;refine⟨⟨k+1,SA,sn,sc,by omega,by go_num,rfl,?_,gI.o,HC.o.alloc _⟩,by simp[intOf];omega⟩;have:=HT.o;rw[if_pos rfl,List.append_nil]at this;rw[this];exact HI.o.aR ((Ch.r _ _).alloc _)
   ·have d1:(x==o)=false:=by simpa using e
    have d2:decide (x=o)=false:=by simpa using e
    have d3:(x !=o)=true:=by simpa using e
    have HE:=O e;clear e;go_wp2_with fail;refine(jj.o _).mono ?_;rintro e w1 ⟨rfl,bT⟩;dsimp only;have fL:=O (show aX w1 wr.heap.size 316 #[I J x,I J 2]from bT▸aX.new wr 316 #[I J x,I J 2]);have qB:=O (show M wr w1 from bT▸(Ch.r _ wr).alloc _);clear bT;have z0:=fL.o.c 0;have zl:=fL.o.lt;have lG:=O (show Reads (w1.alloc (az #[I J x] 3)) (w1.heap.size+1) 1 (G ⟨w1.heap.size,0,U⟩) 1 [I J x]from⟨rfl,λ_=>⟨_,rfl,by simp,λj u hu=>by
     rw[show(⟨w1.heap.size,0,U⟩:Addr).add j=⟨w1.heap.size,j,U⟩ by unfold Addr.add;split<;>simp_all,(aX.new w1 3 #[I J x]).c];simpa using hu⟩⟩)
    have JF:=O (HI.o.aR (show M wr (w1.alloc (az #[I J x] 3))from qB.o.alloc _));go_wp2_with(first
     |(at_builtin
       refine bp _ rfl (.tmp 26) (.tmp 29) _ rfl 0 3 i1 _ 1 8 underlying40 dX er eu eK rfl (by omega) (T SA sn sc) sn (ints ((l.take k).filter (· ≠o))) rfl
        JF.o.own (w1.heap.size+1) _ 1 1 [I J x] rfl lG.o (by simp[Value.oneCell']) (by simp only[maxLen];omega) (by omega) (Nat.zero_le _) ?_
       intro v8 w8 bM dS dG;obtain⟨A8,c8,rfl,Sv⟩:=eX.push bM JF.o.len;have Xu:=O Sv;have iT:=O (Ch.bF dS);have nS:=O dG;clear bM dS dG Sv))
    have Pz:=HT.o;rw[if_neg HE.o]at Pz;refine⟨⟨k+1,A8,sn+1,c8,by omega,by go_num,rfl,?_,λb hb=>?_,((HC.o.t qB.o).alloc _).trans iT.o (λb hb=>.inr (gI.o b hb))⟩,by simp[intOf];omega⟩
    ·rw[Pz];exact Xu.o
    ·rcases nS.o with e|e
     ·exact gI.o b (e▸hb)
     ·rw[hb]at e;injection e with e;have h1:=HC.o.size;have h2:=qB.o.size;simp at e;omega
  ·obtain rfl:n=k:=by omega
   have hT:l.take n=l:=List.take_of_length_le (by rw[HL.o];exact aN _);rw[hT]at HI;clear hlt hk hT;go_wp2_with fail;go_ret;exact⟨SA,sn,sc,rfl,HI.o,λb hb=>aO HN.o.size (gI.o b hb),HN.o.t HC.o⟩
end
section
variable{w w':aw}{lb:Nat}{A:Option Addr}{c:Nat}
theorem sG(h:wh w lb A c):ax av 193 #[X (G ⟨lb,0,U⟩)] w λe w'=>e=ay (T U 0 0)/\M w w':=by
 have HS:=O (Tryz.slices_Sort_int_none U 0);have Pt:=O (λw=>gv (w:=w) (A:=U) (n:=0) (c:=0) (l:=[]) ⟨World.ownsRow_nil _ _ _ _,rfl⟩);have x0:=h.aW.c 0;have xl:=h.aW.lt;clear h;go_enter func193,ntmps193;go_wp2_with fail
 go_loopw[3,17] (λv i wr=>v=T U 0 0/\i=I J 0/\M w wr) (λ_ _ _=>0)
 case atStart=>exact⟨rfl,rfl,Ch.r _ _⟩
 case round=>
  obtain⟨rfl,rfl,hC⟩:=hrel;have HC:=O hC;clear hC;go_wp2_with fail;refine(HS.o _).mono ?_;rintro e w5 ⟨rfl,hw⟩;subst w5;dsimp only;go_wp2_with fail;refine(Pt.o _).mono ?_;rintro e w6 ⟨rfl,_,nC⟩;dsimp only;have ir:=O (show M wr w6 from nC.mono (λk hk=>by cases hk));clear nC;go_wp2_with fail;go_ret;exact⟨rfl,HC.o.t ir.o⟩
end
section
variable{w w':aw}{lb g:Nat}{K:ByteArray}{A HA QA:Option Addr}{c hn hc qn qc:Nat}{hs qs:List Int}
theorem uB(h:kV w lb K (G ⟨g,0,U⟩) c HA hn hc QA qn qc hs qs):ax av 193 #[X (G ⟨lb,0,U⟩)] w λe w'=>∃SA sn sc,e=ay (T SA sn sc)/\eX w' SA sn sc (Lib.compact ((hs++qs).mergeSort λx y=>decide (x<=y)))/\(∀k,(T SA sn sc).ownBlock=G k->w.heap.size<=k)/\M w w':=by
 have H:=O h;have wB:=O h.ho;have KN:=O h.qu;have JD:=O h.ho.len;have iC:=O h.qu.len;have jW:(hn:Int)<=1000:=by have:=h.ho.fx;omega
 have qnI:(qn:Int)<=1000:=by have:=h.qu.fx;omega
 obtain⟨i1,dX,er,eu,eK⟩:=info_parts iH;obtain⟨g',e,hl,eQ,dL,y0,y1,y2⟩:=h.line;injection e with e;injection e with e1 _;subst e1;have x0:=h.aW.c 0;have xl:=h.aW.lt;clear h dL;go_enter func193,ntmps193;go_wp2_with fail
 go_loopw[3,17] (λv i wr=>M w wr/\((i=I J 0/\v=T U 0 0)\/(i=I J 1/\∃SA sn sc,v=T SA sn sc/\eX wr SA sn sc (hs++qs)/\(∀b,(T SA sn sc).ownBlock=G b->w.heap.size<=b)))) (λ_ i _=>1- (intOf i).toNat)
 case atStart=>exact⟨Ch.r _ _,.inl ⟨rfl,rfl⟩⟩
 case round=>
  obtain⟨hC,hr⟩:=hrel;have HC:=O hC;have wC:=O (H.o.aR hC);clear hC y0 y1 y2 x0 xl;rcases hr with⟨rfl,rfl⟩|⟨rfl,SA,sn,sc,rfl,hI,gu⟩
  ·obtain⟨g'',e,hl,eQ,dL,y0,y1,y2⟩:=wC.o.line;injection e with e;injection e with e1 _;subst e1;clear dL;go_wp2_with fail;obtain⟨wx,PF⟩:=bG (wr.alloc (az #[V K,T HA hn hc,T QA qn qc] 321));have HB:=O (show aX wx wr.heap.size 321 #[V K,T HA hn hc,T QA qn qc]from PF▸aX.new wr 321 _);have KO:=O (show M w wx from PF▸HC.o.alloc _);obtain⟨ob,sD⟩:=bG (wr.heap.size);rw[sD]at HB
   try rw[PF]
   try simp only[sD]
   clear PF sD y0 y1 y2 hl eQ
   go_loopw[3,24] (λv i wr=>∃(k:Nat) (SA:Option Addr) (sn sc:Nat),k<=hn/\i=I J k/\v=T SA sn sc/\eX wr SA sn sc (hs.take k)/\(∀b,(T SA sn sc).ownBlock=G b->wx.heap.size<=b)/\M wx wr) (λ_ i _=>hn- (intOf i).toNat)
   case atStart=>exact⟨0,U,0,0,by omega,rfl,rfl,⟨World.ownsRow_nil _ _ _ _,rfl⟩,λb hb=>(by cases hb),Ch.r _ _⟩
   case round=>
    obtain⟨k,SA,sn,sc,hk,rfl,rfl,hI,gu,hC⟩:=hrel;have HI:=O hI;have gI:=O gu;have HC:=O hC;have Fj:sn<=2000:=by
     rw[<-hI.len];have h1:=wB.o.fx;have h0:=wB.o.len;have h2:=wB.o.fx;simp;omega
    clear hI gu hC;by_cases hlt:k<hn
    ·obtain⟨x,hx⟩:=bh (show k<hs.length by rw[wB.o.len];exact hlt);obtain⟨b,off,rfl,hb,x0,x1⟩:=((wB.o.aR (KO.o.t HC.o)).rd).at_ hx;have HX:=O hx;have jq:(k:Int)<(hn:Int):=by omega
     have hT:(hs.take (k+1))=(hs.take k)++[x]:=by
      rw[List.take_add_one,HX.o];simp
     have HT:=O hT;clear hx hT;have lG:=O (show Reads ((wr.alloc (az #[I J x,I J 2] 316)).alloc (az #[I J x] 3)) (wr.heap.size+1+1) 1 (G ⟨wr.heap.size+1,0,U⟩) 1 [I J x]from by
      have:=cD (wr.alloc (az #[I J x,I J 2] 316)) 3 #[I J x] 1 1 rfl;rwa[World.size_alloc]at this)
     have JF:=O (HI.o.aR (show M wr ((wr.alloc (az #[I J x,I J 2] 316)).alloc (az #[I J x] 3))from((Ch.r _ _).alloc _).alloc _));go_wp2_with(first
      |(at_builtin
        refine bp _ rfl (.tmp 28) (.tmp 31) _ rfl 0 3 i1 _ 1 8 underlying40 dX er eu eK rfl (by omega) (T SA sn sc) sn (ints (hs.take k)) rfl
         JF.o.own (wr.heap.size+1+1) _ 1 1 [I J x] rfl lG.o (by simp[Value.oneCell']) (by simp only[maxLen];omega) (by omega) (Nat.zero_le _) ?_
        intro v8 w8 bM dS dG;obtain⟨A8,c8,rfl,Sv⟩:=eX.push bM JF.o.len;have Xu:=O Sv;have iT:=O (Ch.bF dS);have nS:=O dG;clear bM dS dG Sv))
     refine⟨⟨k+1,A8,sn+1,c8,by omega,by go_num,rfl,?_,λb hb=>?_,((HC.o.alloc _).alloc _).trans iT.o (λb hb=>.inr (gI.o b hb))⟩,by simp[intOf];omega⟩
     ·rw[HT.o];exact Xu.o
     ·rcases nS.o with e|e
      ·exact gI.o b (e▸hb)
      ·rw[hb]at e;injection e with e;have h1:=HC.o.size;simp at e;omega
    ·obtain rfl:hn=k:=by omega
     have hT:(hs.take hn)=hs:=by
      rw[List.take_of_length_le (by rw[wB.o.len];exact aN _)]
     rw[hT]at HI;clear hlt hk hT;have B1:=HB.o.ch HC.o (λh=>h);have z2:=B1.c 2;have zl:=B1.lt;clear B1;go_wp2_with fail
     go_loopw[3,37] (λv i wr=>∃(k:Nat) (SA:Option Addr) (sn sc:Nat),k<=qn/\i=I J k/\v=T SA sn sc/\eX wr SA sn sc (hs++qs.take k)/\(∀b,(T SA sn sc).ownBlock=G b->wx.heap.size<=b)/\M wx wr) (λ_ i _=>qn- (intOf i).toNat)
     case atStart=>exact⟨0,SA,sn,sc,by omega,rfl,rfl,by simpa using HI.o,gI.o,HC.o⟩
     case round=>
      obtain⟨k,SA,sn,sc,hk,rfl,rfl,hI,gu,hC⟩:=hrel;have HI:=O hI;have gI:=O gu;have HC:=O hC;have Fj:sn<=2000:=by
       rw[<-hI.len];have h1:=KN.o.fx;have h0:=wB.o.len;have h2:=wB.o.fx;simp;omega
      clear hI gu hC;by_cases hlt:k<qn
      ·obtain⟨x,hx⟩:=bh (show k<qs.length by rw[KN.o.len];exact hlt);obtain⟨b,off,rfl,hb,x0,x1⟩:=((KN.o.aR (KO.o.t HC.o)).rd).at_ hx;have HX:=O hx;have jq:(k:Int)<(qn:Int):=by omega
       have hT:(hs++qs.take (k+1))=(hs++qs.take k)++[x]:=by
        rw[List.take_add_one,HX.o];simp
       have HT:=O hT;clear hx hT;have lG:=O (show Reads ((wr.alloc (az #[I J x,I J 2] 316)).alloc (az #[I J x] 3)) (wr.heap.size+1+1) 1 (G ⟨wr.heap.size+1,0,U⟩) 1 [I J x]from by
        have:=cD (wr.alloc (az #[I J x,I J 2] 316)) 3 #[I J x] 1 1 rfl;rwa[World.size_alloc]at this)
       have JF:=O (HI.o.aR (show M wr ((wr.alloc (az #[I J x,I J 2] 316)).alloc (az #[I J x] 3))from((Ch.r _ _).alloc _).alloc _));go_wp2_with(first
        |(at_builtin
          refine bp _ rfl (.tmp 41) (.tmp 44) _ rfl 0 3 i1 _ 1 8 underlying40 dX er eu eK rfl (by omega) (T SA sn sc) sn (ints (hs++qs.take k)) rfl
           JF.o.own (wr.heap.size+1+1) _ 1 1 [I J x] rfl lG.o (by simp[Value.oneCell']) (by simp only[maxLen];omega) (by omega) (Nat.zero_le _) ?_
          intro v8 w8 bM dS dG;obtain⟨A8,c8,rfl,Sv⟩:=eX.push bM JF.o.len;have Xu:=O Sv;have iT:=O (Ch.bF dS);have nS:=O dG;clear bM dS dG Sv))
       refine⟨⟨k+1,A8,sn+1,c8,by omega,by go_num,rfl,?_,λb hb=>?_,((HC.o.alloc _).alloc _).trans iT.o (λb hb=>.inr (gI.o b hb))⟩,by simp[intOf];omega⟩
       ·rw[HT.o];exact Xu.o
       ·rcases nS.o with e|e
        ·exact gI.o b (e▸hb)
        ·rw[hb]at e;injection e with e;have h1:=HC.o.size;simp at e;omega
      ·obtain rfl:qn=k:=by omega
       have hT:(hs++qs.take qn)=hs++qs:=by
        rw[List.take_of_length_le (by rw[KN.o.len];exact aN _)]
       rw[hT]at HI;clear hlt hk hT;go_wp2_with fail;exact⟨⟨KO.o.t HC.o,.inr ⟨rfl,SA,sn,sc,rfl,HI.o,λb hb=>aO KO.o.size (gI.o b hb)⟩⟩,by simp[intOf]⟩
  ·have HI:=O hI;have gI:=O gu;have Fj:sn<=2000:=by
    rw[<-hI.len];have h1:=wB.o.fx;have h2:=KN.o.fx;have h3:=JD.o;have h4:=iC.o;simp;omega
   have HS:=O (jZ hI (by omega));clear hI gu;go_wp2_with fail;refine HS.o.mono ?_;rintro e w5 ⟨rfl,CR,qE⟩;dsimp only;have Pt:=O (gv CR);have ff:=O ((HC.o.trans qE (λb hb=>.inr (gI.o b hb)):M w w5));clear CR qE;go_wp2_with fail;refine Pt.o.mono ?_;rintro e w6 ⟨rfl,G7,nC⟩;dsimp only;have KF:=O G7;have ir:=O ((ff.o.trans nC (λb hb=>.inr (gI.o b hb)):M w w6));clear G7 nC;go_wp2_with fail;go_ret;exact⟨SA,_,sc,rfl,KF.o,λb hb=>gI.o b (by cases SA<;>exact hb),ir.o⟩
end
theorem fN.chH{w w':aw}{A:Option Addr}{n:Nat}{l:List Int}{S:Nat->Prop}(h:fN w A n l)(hC:Ch S w w')(hS: ∀b off,A=G ⟨b,off,U⟩->¬S b):fN w' A n l:=⟨h.1,h.2.1,h.2.2.ch hC hS⟩
theorem fN.take{w:aw}{A:Option Addr}{n:Nat}{l:List Int}(h:fN w A n l){k:Nat}(hk:k<=n):fN w A k (l.take k):=by
 refine⟨by rw[List.length_take,h.1];omega,by have:=h.2.1;omega,λhn=>?_⟩;have e:cP (l.take k)=(cP l).take (k*2):=by
  have: ∀(l:List Int) (k:Nat),cP (l.take k)=(cP l).take (k*2):=by
   intro l;induction l with
   |nil=>intro k;simp[cP]
   |cons a t ih=>
    intro k;rcases k with _|k
    ·simp[cP]
    ·have h1:cP (a::t.take k)=[I J a,I J 2]++cP (t.take k):=by simp[cP,kC]
     have h2:cP (a::t)=[I J a,I J 2]++cP t:=by simp[cP,kC]
     rw[List.take_succ_cons,h1,h2,ih k,Nat.add_mul,Nat.one_mul];rfl
  exact this l k
 have eQ:cP l≠[]:=λe'=>hn (by rw[e,e'];simp);obtain⟨b,off,hA,hb,hc⟩:=h.2.2 eQ;refine⟨b,off,hA,hb,λi v hv=>hc i v ?_⟩;rw[e,List.getElem?_take]at hv;split at hv
 ·exact hv
 ·cases hv
theorem AP(l:List Int): ∀u∈ints l,u.oneCell'=true:=by
 intro u hu;obtain⟨x,_,rfl⟩:=List.mem_map.1 hu;rfl
theorem eX.Wa{w:aw}{A:Option Addr}{n c:Nat}{l:List Int}(h:eX w A n c l):Reads w w.heap.size 1 A n (ints l):=Reads.qN h.own
theorem uC{w:aw}{SA:Option Addr}{sn sc n:Nat}{v:Value}(hat:v.ownBlock=(T SA sn sc).ownBlock\/v.ownBlock=G w.heap.size)(hS: ∀b,(T SA sn sc).ownBlock=G b->n<=b)(hn:n<=w.heap.size): ∀b,v.ownBlock=G b->n<=b:=by
 intro b hb;rcases hat with e|e
 ·exact hS b (e▸hb)
 ·rw[hb]at e;injection e with e;omega
theorem AQ{w:aw}{B n c size:Nat}{e:TypeId}{A:Option Addr}{xs:List Value}(h:w.ownsRow B e size (T A n c) n xs):n<=c:=by
 rcases h.2 with⟨h0,h1⟩|⟨g,cap,cur,hv,hg,hh,tD,_⟩
 ·omega
 ·injection hv with _ _ hq;omega
theorem aU(w:aw):M w w.drew:=(Ch.r _ w).drew
def S4(w:aw)(ob pb:Nat)(HA QA:Option Addr)(hc qn qc:Nat)(x:Int):Prop:=
 w.cell? ⟨ob,1,U⟩=G (T HA 1 hc)/\w.cell? ⟨ob,2,U⟩=G (T QA qn qc)/\w.cell? ⟨pb,0,U⟩=G (I J x)/\w.cell? ⟨pb,1,U⟩=G (I J 2)
theorem AR{w:aw}{ob pb:Nat}{K:ByteArray}{HA QA:Option Addr}{hc qn qc:Nat}{x:Int}(b1:aX w ob 321 #[V K,T HA 1 hc,T QA qn qc])(b2:aX w pb 316 #[I J x,I J 2]):
 w.cell? ⟨ob,1,U⟩=G (T HA 1 hc)/\w.cell? ⟨ob,2,U⟩=G (T QA qn qc)/\w.cell? ⟨pb,0,U⟩=G (I J x)/\w.cell? ⟨pb,1,U⟩=G (I J 2):=
 ⟨b1.c 1,b1.c 2,b2.c 0,b2.c 1⟩
section
variable{w w':aw}{lb g:Nat}{K:ByteArray}{A HA QA:Option Addr}{c hc qn qc:Nat}{hs qs:List Int}{y:Int}
end
