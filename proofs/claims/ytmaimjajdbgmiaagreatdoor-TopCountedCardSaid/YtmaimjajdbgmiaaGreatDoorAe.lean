import Derived.Laws.StructEq
import Derived.Ground.NamesProg
import Derived.Shelf.Strconv.Itoa3
import Derived.Shelf.Strconv.ErrVarAll
import Derived.Lib.SmallJoins
import Derived.Stop.Joined
import Derived.Test.YtmaimjajdbgmiaaGreatDoorAd
set_option linter.unusedVariables false
set_option linter.unusedSimpArgs false
set_option maxRecDepth 100000
set_option maxHeartbeats 0
open Go.Value renaming int→I,string→V,pointer→X,bool→Y,slice→T,tuple→aB,agg→aC
open Go.IntKind renaming i64→J
open Option renaming none→U,some→G
open Go.Ending renaming returned→ay
open Go.Obj renaming cells→az
open List renaming getElem_cons_zero→aH,length_append→aL
open Nat renaming le_refl→aN,le_trans→aO
open Go renaming World→aw,Calls→ax,bodyPost_ret→aE
open Go.Proofs.Tryz
open Go.Proofs.Tryz renaming prog→av
namespace Go.Proofs.YtmaimjajdbgmiaaGreatDoor
open Go.Lib Go.RowKit
def Strs(w:aw)(A:Option Addr)(n:Nat)(l:List ByteArray):Prop:=l.length=n/\Rd w A (l.map V)
theorem Strs.aR{w w':aw}{A:Option Addr}{n:Nat}{l:List ByteArray}(h:Strs w A n l)(hc:M w w'):Strs w' A n l:=⟨h.1,h.2.aR hc⟩
theorem Strs.at_{w:aw}{A:Option Addr}{n:Nat}{l:List ByteArray}(h:Strs w A n l){i:Nat}{s:ByteArray}(hs:l[i]?=G s): ∃b off,A=G ⟨b,off,U⟩/\b<w.heap.size/\w.cell? ⟨b,off+i,U⟩=G (V s):=by
 have h1:(l.map V)[i]?=G (V s):=by simp[hs]
 obtain⟨b,off,hA,hb,hc⟩:=h.2 (fh h1);exact⟨b,off,hA,hb,hc _ _ h1⟩
def X8(s:ByteArray):Bool:=decide (0<s.size)&&decide (s.size<=16)
def D6(a b:ByteArray):Bool:=Op.bytesLess a.toList b.toList
def Ml(l:List ByteArray)(n:Nat):Prop:=∀i a b,i+1<n->l[i]?=G a->l[i+1]?=G b->D6 a b=true
structure wP(l:List ByteArray):Prop where
 len:l.length<=7
 ok: ∀s∈l,X8 s=true
 Dw:Ml l l.length
section
variable{w w':aw}{A:Option Addr}{n:Nat}{l:List ByteArray}
theorem Iu(h:Strs w A n l)(hn:n<=9223372036854775807)(c:Nat):ax av 6 #[T A n c] w λe w'=>∃R:Int,e=ay (I J R)/\(R=0->wP l)/\M w w':=by
 have H:=O h;have HL:=O h.1;clear h;have jW:(n:Int)<=9223372036854775807:=by omega
 by_cases h7:7<n
 ·have d1:decide (7<(n:Int))=true:=by simp;omega
  have d2:decide (7<n)=true:=by simpa using h7
  clear h7;go_enter func6,ntmps6;go_wp2_with fail;go_ret;exact⟨7,rfl,(λe=>by cases e),Ch.r _ _⟩
 have d1:decide (7<(n:Int))=false:=by simp;omega
 have d2:decide (7<n)=false:=by simpa using h7
 have Z4:(n:Int)<=7:=by omega
 clear h7;go_enter func6,ntmps6;go_wp2_with fail
 go_loopw[11] (λi wr=>∃k:Nat,k<=n/\i=I J k/\(∀j s,j<k->l[j]?=G s->X8 s=true)/\M w wr) (λi _=>n- (intOf i).toNat)
 case atStart=>exact⟨0,by omega,rfl,λj s hj=>absurd hj (by omega),Ch.r _ _⟩
 case round=>
  obtain⟨k,hk,rfl,sQ,hC⟩:=hrel;have HC:=O hC;have F7:=O sQ;clear hC sQ;by_cases hlt:k<n
  ·obtain⟨s,hs⟩:=bh (show k<l.length by rw[HL.o];exact hlt);obtain⟨b,off,rfl,hb,x0⟩:=(H.o.aR HC.o).at_ hs;have HS:=O hs;clear hs;have jq:(k:Int)<(n:Int):=by omega
   by_cases h0:s.size=0
   ·have e1:((s.size:Int)==0)=true:=by rw[beq_iff_eq];omega
    have e2:(s.size==0)=true:=by simpa using h0
    clear h0;go_wp2_with fail;go_ret;exact⟨1,rfl,(λe=>by cases e),HC.o⟩
   ·have e1:((s.size:Int)==0)=false:=by rw[beq_eq_false_iff_ne];omega
    have e2:(s.size==0)=false:=by simpa using h0
    have e0: ¬s.size=0:=h0;by_cases OQ:16<s.size
    ·have e3:decide (16<(s.size:Int))=true:=by simp;omega
     have e4:decide (16<s.size)=true:=by simpa using OQ
     clear OQ h0;go_wp2_with fail;go_ret;exact⟨1,rfl,(λe=>by cases e),HC.o⟩
    ·have e3:decide (16<(s.size:Int))=false:=by simp;omega
     have e4:decide (16<s.size)=false:=by simpa using OQ
     have HO:=O (show X8 s=true by unfold X8;simp;omega);clear OQ h0;go_wp2_with fail;refine⟨⟨k+1,by omega,by go_num,λj t hj ht=>?_,HC.o⟩,by simp[intOf];omega⟩;by_cases e:j=k
     ·subst e;rw[HS.o]at ht;injection ht with ht;subst ht;exact HO.o
     ·exact F7.o j t (by omega) ht
  ·obtain rfl:n=k:=by omega
   clear hlt hk;go_wp2_with fail
   go_loopw[5] (λi wr2=>∃k:Nat,1<=k/\(k<=n\/k=1)/\i=I J k/\Ml l k/\M w wr2) (λi _=>n- (intOf i).toNat)
   case atStart=>exact⟨1,by omega,.inr rfl,rfl,λi a b hi=>absurd hi (by omega),HC.o⟩
   case round=>
    obtain⟨k,hk1,hk,rfl,hri,hC⟩:=hrel;have jF:=O hC;have lj:=O hri;clear hC hri;by_cases hlt:k<n
    ·obtain⟨p,rfl⟩: ∃p,k=p+1:=⟨k-1,by omega⟩;obtain⟨x,hx⟩:=bh (show p<l.length by rw[HL.o];omega);obtain⟨y,hy⟩:=bh (show p+1<l.length by rw[HL.o];exact hlt);obtain⟨b,off,rfl,hb,x0⟩:=(H.o.aR jF.o).at_ hx;obtain⟨b',ta,e,_,y0⟩:=(H.o.aR jF.o).at_ hy;injection e with e;injection e with e1 e2;subst e1 e2;have HX:=O hx;have HY:=O hy;clear hx hy;have jq:((p+1:Nat):Int)<(n:Int):=by omega
     have Df:(p:Int)<(n:Int):=by omega
     have bT:IntKind.i64.wrap (((p+1:Nat):Int) -1)=(p:Int):=by rw[show(((p+1:Nat):Int) -1)=p by omega];exact IntWalk.i64_in _ (by omega)
     have ew:IntKind.i64.wrap ((p:Int)+1-1)=(p:Int):=by rw[show((p:Int)+1-1)=p by omega];exact IntWalk.i64_in _ (by omega)
     have QL:(0:Int)<=(p:Int):=by omega
     have hp1:(0:Int)<=(p:Int)+1:=by omega
     have hp2:((p:Int)+1).toNat=p+1:=by omega
     have hp3:(p:Int)+1<(n:Int):=by omega
     have cw:=O (λ(hB:Op.bytesLess x.toList y.toList=true) (i:Nat) (a b:ByteArray) (hi:i+1<p+1+1) (ha:l[i]?=G a) (hb:l[i+1]?=G b)=>(show D6 a b=true from by
      by_cases e:i=p
      ·subst e;rw[HX.o]at ha;rw[HY.o]at hb;injection ha with ha;injection hb with hb;subst ha hb;exact hB
      ·exact lj.o i a b (by omega) ha hb))
     cases hB:Op.bytesLess x.toList y.toList
     ·go_wp2_with fail
      go_quiet(fail)
      go_wp2_with fail;go_ret;exact⟨5,rfl,(λe=>by cases e),jF.o.drewN _⟩
     ·have cJ:=O (cw.o hB);go_wp2_with fail
      go_quiet(fail)
      go_wp2_with fail;exact⟨⟨p+2,by omega,by omega,by go_num,cJ.o,jF.o.drewN _⟩,by simp[intOf];omega⟩
    ·have d5:decide ((k:Int)<(n:Int))=false:=by simp;omega
     have d6:decide (k<n)=false:=by simp;omega
     have qR:=O (show wP l from⟨by rw[HL.o];omega,λs hs=>by
      obtain⟨i,hi⟩:=List.getElem?_of_mem hs;exact F7.o i s (by have:=bf hi;rw[HL.o]at this;exact this) hi,λi a b hi=>by
      rw[HL.o]at hi;rcases hk with hk|hk
      ·exact lj.o i a b (by omega)
      ·exact absurd hi (by omega)⟩)
     clear hk hk1 hlt;go_wp2_with fail;go_ret;exact⟨0,rfl,λ_=>qR.o,jF.o⟩
end
theorem Iw(s:ByteArray):s.data.toList.length=s.size:=by cases s;rfl
theorem D7{s:ByteArray}(h:0<s.size):s.toList.isEmpty=false/\decide (s.toList=[])=false/\s.toList≠[]:=by
 have h1:s.toList≠[]:=by
  rw[ByteArray.toList_eq];intro e;have:=congrArg List.length e;rw[Iw,List.length_nil]at this;omega
 refine⟨?_,by simpa using h1,h1⟩;rcases hl:s.toList with _|_
 ·exact absurd hl h1
 ·rfl
theorem qj: ∀(x y:List UInt8),Op.bytesLess x y=decide (x<y)
 |[],[]=>by simp[Op.bytesLess]
 |_::_,[]=>by simp[Op.bytesLess]
 |[],_::_=>by simp[Op.bytesLess]
 |a::x,b::y=>by
  rw[Op.bytesLess,qj x y];simp only[List.cons_lt_cons_iff];by_cases h1:a<b<;>by_cases h2:a=b<;>by_cases h3:x<y<;>simp[h1,h2,h3]
theorem Ix{a b:List UInt8}(h:Op.bytesLess a b=true):Op.bytesLess b a=false/\(b==a)=false:=by
 rw[qj]at h⊢;simp at h;refine⟨by simpa using List.le_of_lt h,?_⟩;rw[beq_eq_false_iff_ne];rintro rfl;exact List.lt_irrefl _ h
section
variable{w w':aw}{A:Option Addr}{n:Nat}{l:List ByteArray}
theorem Mm(h:Strs w A n l)(sQ:wP l)(c:Nat):ax av 54 #[T A n c] w λe w'=>e=ay (I J 0)/\M w w':=by
 have H:=O h;have HL:=O h.1;have F7:=O sQ;have Z4:(n:Int)<=7:=by have:=sQ.len;have:=h.1;omega
 have d1:decide (7<(n:Int))=false:=by simp;omega
 have d2:decide (7<n)=false:=by simp;omega
 clear h sQ;go_enter func54,ntmps54;go_wp2_with fail
 go_loopw[11] (λi wr=>∃k:Nat,k<=n/\i=I J k/\M w wr) (λi _=>n- (intOf i).toNat)
 case atStart=>exact⟨0,by omega,rfl,Ch.r _ _⟩
 case round=>
  obtain⟨k,hk,rfl,hC⟩:=hrel;have HC:=O hC;clear hC;by_cases hlt:k<n
  ·obtain⟨s,hs⟩:=bh (show k<l.length by rw[HL.o];exact hlt);obtain⟨b,off,rfl,hb,x0⟩:=(H.o.aR HC.o).at_ hs;have ho:=F7.o.ok s (List.mem_of_getElem? hs);unfold X8 at ho;simp at ho;have jq:(k:Int)<(n:Int):=by omega
   obtain⟨e1,e2,e3⟩:=D7 ho.1;have e4:decide (16<(s.size:Int))=false:=by simp;omega
   have e5:decide (16<s.size)=false:=by simp;omega
   clear hs ho;go_wp2_with fail;exact⟨⟨k+1,by omega,by go_num,HC.o⟩,by simp[intOf];omega⟩
  ·obtain rfl:n=k:=by omega
   clear hlt hk;go_wp2_with fail
   go_loopw[25] (λi wr=>∃k:Nat,k<=n/\i=I J k/\M w wr) (λi _=>n- (intOf i).toNat)
   case atStart=>exact⟨0,by omega,rfl,HC.o⟩
   case round=>
    obtain⟨k,hk,rfl,hC⟩:=hrel;have jF:=O hC;clear hC;by_cases hlt:k<n
    ·rcases Nat.eq_zero_or_pos k with rfl|yM
     ·have q1:decide ((0:Int)<((0:Nat):Int))=false:=by simp
      have q2:decide (0<0)=false:=by simp
      have jW:(0:Int)<(n:Int):=by omega
      go_wp2_with fail
      go_quiet(fail)
      go_wp2_with fail;exact⟨⟨1,by omega,by go_num,jF.o.drewN _⟩,by simp[intOf];omega⟩
     ·obtain⟨p,rfl⟩: ∃p,k=p+1:=⟨k-1,by omega⟩;obtain⟨x,hx⟩:=bh (show p<l.length by rw[HL.o];omega);obtain⟨y,hy⟩:=bh (show p+1<l.length by rw[HL.o];exact hlt);have hr:=F7.o.Dw p x y (by rw[HL.o];exact hlt) hx hy;unfold D6 at hr;obtain⟨hr2,hr3⟩:=Ix hr;obtain⟨b,off,rfl,hb,x0⟩:=(H.o.aR jF.o).at_ hx;obtain⟨b',ta,e,_,y0⟩:=(H.o.aR jF.o).at_ hy;injection e with e;injection e with e1 e2;subst e1 e2;clear hx hy;have jq:((p+1:Nat):Int)<(n:Int):=by omega
      have Df:(p:Int)<(n:Int):=by omega
      have bT:IntKind.i64.wrap (((p+1:Nat):Int) -1)=(p:Int):=by rw[show(((p+1:Nat):Int) -1)=p by omega];exact IntWalk.i64_in _ (by omega)
      have ew:IntKind.i64.wrap ((p:Int)+1-1)=(p:Int):=by rw[show((p:Int)+1-1)=p by omega];exact IntWalk.i64_in _ (by omega)
      have QL:(0:Int)<=(p:Int):=by omega
      have hp1:(0:Int)<=(p:Int)+1:=by omega
      have hp2:((p:Int)+1).toNat=p+1:=by omega
      have hp3:(p:Int)+1<(n:Int):=by omega
      have q1:decide ((0:Int)<(p:Int)+1)=true:=decide_eq_true (by omega);go_wp2_with fail
      go_quiet(fail)
      go_wp2_with fail;exact⟨⟨p+2,by omega,by go_num,jF.o.drewN _⟩,by simp[intOf];omega⟩
    ·have d5:decide ((k:Int)<(n:Int))=false:=by simp;omega
     have d6:decide (k<n)=false:=by simp;omega
     clear hk hlt;go_wp2_with fail;go_ret;exact⟨rfl,jF.o⟩
end
end Go.Proofs.YtmaimjajdbgmiaaGreatDoor
namespace Go.Proofs.YtmaimjajdbgmiaaGreatDoor
open Go.Lib Go.RowKit Go.Shelf Go.Sort
structure Iy(w:aw)(A:Option Addr)(n c:Nat)(l:List ByteArray):Prop where
 own:w.ownsRow 0 9 1 (T A n c) n (l.map V)
 len:l.length=n
structure mU(w:aw)(rb:Nat)(A:Option Addr)(c:Nat)(l:List ByteArray):Prop where
 aW:aX w rb 102 #[T A l.length c]
 str:Iy w A l.length c l
 ok:wP l
def oz(rb:Nat)(A:Option Addr)(n c:Nat):Nat->Prop:=λg=>g=rb\/(T A n c).ownBlock=G g
def Iz(l:List ByteArray)(key:ByteArray):Nat:=l.countP λs=> !(D6 key s)
theorem of_le(l:List ByteArray)(key:ByteArray):Iz l key<=l.length:=List.countP_le_length
theorem uZ{w:aw}{B e s n:Nat}{v:Value}{xs:List Value}(h:w.ownsRow B e s v n xs):w.ownsRow 0 e s v n xs:=⟨h.1,by
 rcases h.2 with h1|⟨g,cap,cur,h1,_,h2⟩
 ·exact .inl h1
 ·exact .inr ⟨g,cap,cur,h1,Nat.zero_le _,h2⟩⟩
section
variable{w w':aw}{rb n c:Nat}{A:Option Addr}{l:List ByteArray}
theorem Iy.rd(h:Iy w A n c l):Strs w A n l:=⟨h.len,Rd.own h.own⟩
theorem Iy.ch{S:Nat->Prop}(h:Iy w A n c l)(hC:Ch S w w')(hS: ∀g,(T A n c).ownBlock=G g->¬S g):Iy w' A n c l:=⟨bg h.own hC hS,h.len⟩
theorem mU.ch{S:Nat->Prop}(h:mU w rb A c l)(hC:Ch S w w')(hS: ∀g,oz rb A l.length c g->¬S g):mU w' rb A c l:=⟨h.aW.ch hC (hS _ (.inl rfl)),h.str.ch hC (λg hg=>hS g (.inr hg)),h.ok⟩
theorem mU.aR(h:mU w rb A c l)(hC:M w w'):mU w' rb A c l:=h.ch hC (λ_ _ h=>h)
theorem mU.fC(h:mU w rb A c l):oo (oz rb A l.length c) w:=λg hg=>by
 rcases hg with e|e
 ·rw[e];exact h.aW.lt
 ·exact(h.str.own.lt g e).2
theorem pe(h:mU w rb A c l):ax av 24 #[X (G ⟨rb,0,U⟩)] w λe w'=>e=ay (I J (l.length+1:Nat))/\w=w':=by
 have x0:=h.aW.c 0;have hl:(l.length:Int)<=7:=by have:=h.ok.len;omega
 clear h;generalize l.length=n at *;go_enter func24,ntmps24;go_wp2_with fail;go_ret;exact⟨rfl,rfl⟩
theorem BH(h:Strs w A n l)(sQ:wP l)(c:Nat)(hA:A=U->c=0/\n=0):ax av 21 #[T A n c] w λe w'=>∃rb A' c',e=ay (aB #[X (G ⟨rb,0,U⟩),I J 0])/\mU w' rb A' c' l/\(∀g,oz rb A' l.length c' g->w.heap.size<=g)/\M w w':=by
 have HR:=O (Mm h sQ c);have F7:=O sQ;have hn:=h.1;have Z4:=sQ.len;have HH:=O h;have jj:=O (show∀w2,M w w2->ax av 55 #[T A n c] w2 λe w'=>∃A' c',e=ay (T A' n c')/\w'.ownsRow w2.heap.size 9 1 (T A' n c') n (l.map V)/\M w2 w' from λw2 hN=>by
  cases A with
  |none=>
   obtain⟨rfl,rfl⟩:=hA rfl;obtain rfl:l=[]:=List.eq_nil_of_length_eq_zero hn;exact(Cl.uP w2 0).mono λe w' ⟨q1,q2⟩=>⟨U,0,q1,⟨rfl,.inl ⟨rfl,rfl⟩⟩,by subst q2;exact Ch.r _ _⟩
  |some ad=>
   refine Cl.Hw ⟨by simp[hn],λhp=>?_⟩ (λu hu=>by obtain⟨s,_,rfl⟩:=List.mem_map.1 hu;rfl) (by omega) c;obtain⟨b,off,e,hb,hc⟩:=(HH.o.aR hN).2 (λe=>by have:=congrArg List.length e;simp at this;subst this;simp at hn;omega);injection e with e;subst e;exact⟨_,rfl,hb,λj u hu=>by rw[show(⟨b,off,U⟩:Addr).add j=⟨b,off+j,U⟩ by unfold Addr.add;split<;>simp_all];exact hc j u hu⟩)
 clear h sQ hA;go_enter func21,ntmps21;go_wp2_with fail;refine HR.o.mono ?_;rintro e w2 ⟨rfl,hN⟩;dsimp only;have HN:=O hN;have jF:=O (jj.o w2 hN);clear hN HR;go_wp2_with fail;refine jF.o.mono ?_;rintro e w3 ⟨A',c',rfl,hO,gZ⟩;dsimp only;have HO:=O hO;have cE:=O gZ;clear hO gZ;go_wp2_with fail;go_ret2;subst hn;refine⟨w3.heap.size,A',c',rfl,⟨aX.new _ _ _,⟨uZ (bg HO.o ((Ch.r (λ_=>False) w3).alloc _) (λ_ _ h=>h)),rfl⟩,F7.o⟩,λg hg=>?_,(HN.o.t cE.o).alloc _⟩;rcases hg with e|e
 ·subst e;exact aO HN.o.size cE.o.size
 ·exact aO HN.o.size (HO.o.lt g e).1
theorem X9(lb ab rb g off n cap i:Nat)(K s:ByteArray)(W:aw)(hi:i<n)(ha:W.cell? ⟨lb,0,U⟩=G (X (G ⟨rb,0,U⟩)))(hr:W.cell? ⟨rb,0,U⟩=G (T (G ⟨g,off,U⟩) n cap))
 (hx:W.cell? ⟨ab,0,U⟩=G (V K)) (hc:W.cell? ⟨g,off+i,U⟩=G (V s)):
 ax av 77 (#[I J i]++#[X (G ⟨lb,0,U⟩),X (G ⟨ab,0,U⟩)]) W λe w'=>e=ay (Y (D6 K s))/\∃q,w'=W.drewN q:=by
 have hiz:(i:Int)<(n:Int):=by omega
 have hlt:D6 K s= !(Op.bytesLess s.toList K.toList||s.toList==K.toList):=by
  unfold D6;rw[qj,qj];by_cases h1:s.toList=K.toList
  ·rw[h1];simp
  ·have:(s.toList==K.toList)=false:=by simpa using h1
   rw[this,Bool.or_false];rw[Bool.eq_iff_iff];simp
   constructor
   ·exact λh=>List.le_of_lt h
   ·intro h;exact Std.lt_of_le_of_ne h (λe=>h1 e.symm)
 rw[hlt];clear hlt;go_enter func77,ntmps77
 go_wp2
 go_region
 all_goals go_wp2
 all_goals go_ret
 all_goals exact⟨by first|rfl|simp,1,rfl⟩
def xP(l:List ByteArray)(K:ByteArray)(i:Nat):Bool:=match l[i]? with
 |some s=>D6 K s
 |none=>false
theorem xQ{a b c:ByteArray}(h:D6 a b=true)(h':D6 b c=true):D6 a c=true:=by
 unfold D6 at *;rw[qj]at *;simp at *;exact List.lt_trans h h'
theorem Mn{l:List ByteArray}(h:Ml l l.length){i j:Nat}{a b:ByteArray}(ha:l[i]?=G a)(hb:l[j]?=G b)(tG:i<j):D6 a b=true:=by
 induction j generalizing b with
 |zero=>omega
 |succ j ih=>
  have hj:=bf hb;obtain⟨x,hx⟩:=bh (L:=l) (i:=j) (by omega);have h1:=h j x b hj hx hb;by_cases e:i=j
  ·subst e;rw[ha]at hx;injection hx with hx;rw[hx];exact h1
  ·exact xQ (ih hx (by omega)) h1
theorem qm{α:Type}(p:α->Bool): ∀(l:List α) (q:Nat->Bool),(∀i v,l[i]?=G v->q i=p v)->(List.range l.length).countP q=l.countP p
 |[],q,h=>rfl
 |x::r,q,h=>by
  rw[List.length_cons,List.range_succ_eq_map,List.countP_cons,List.countP_cons,List.countP_map,h 0 x rfl];rw[qm p r (q∘Nat.succ) (λi v hv=>h (i+1) v (by simpa using hv))]
theorem nK(h:mU w rb A c l)(K:ByteArray):ax av 37 #[X (G ⟨rb,0,U⟩),V K] w λe w'=>e=ay (I J (Iz l K:Nat))/\M w w':=by
 obtain⟨W0,JH⟩: ∃W0,W0=(w.alloc (az #[X (G ⟨rb,0,U⟩)] 54)).alloc (az #[V K] 9):=⟨_,rfl⟩;have te:M w W0:=by rw[JH];exact((Ch.r _ w).alloc _).alloc _
 have ca:W0.cell? ⟨w.heap.size,0,U⟩=G (X (G ⟨rb,0,U⟩)):=by
  rw[JH,World.cell?_alloc_lt _ _ _ (by simp),(aX.new w 54 #[X (G ⟨rb,0,U⟩)]).c];rfl
 have cx:W0.cell? ⟨w.heap.size+1,0,U⟩=G (V K):=by
  rw[JH];have:=(aX.new (w.alloc (az #[X (G ⟨rb,0,U⟩)] 54)) 9 #[V K]).c 0;rwa[World.size_alloc]at this
 have JJ:=h.ok.len;have h0:=h.aR te;have eg: ∀args w,(callFunc 77 args).run av w= .ok (.enter 77 args) w:=enters_of func77 (by kernel_rfl) rfl;have hS:=Any.sort_Search Tryz.Fo 77 #[X (G ⟨w.heap.size,0,U⟩),X (G ⟨w.heap.size+1,0,U⟩)] l.length (xP l K) W0 eg (by omega)
  (λk os i hi=>by
    obtain⟨s,hs⟩:=bh hi;obtain⟨g,off,e,hb,c0⟩:=h0.str.rd.at_ hs;have r0:=h0.aW.c 0;rw[e]at r0;have tE:xP l K i=D6 K s:=by unfold xP;rw[hs]
    rw[tE];exact(X9 w.heap.size (w.heap.size+1) rb g off l.length c i K s _ hi (cell_grown (block_lt_of_cell ca) ca k os) (cell_grown (block_lt_of_cell r0) r0 k os) (cell_grown (block_lt_of_cell cx) cx k os) (cell_grown (block_lt_of_cell c0) c0 k os)).mono
     λ_ _ ⟨he,q,hq⟩=>⟨he,q,#[],by rw[hq,grow_empty]⟩)
  (λa b Dy hb hp=>by
    obtain⟨v,hv⟩:=bh (Nat.lt_of_le_of_lt Dy hb);obtain⟨u,hu⟩:=bh hb;unfold xP at hp⊢;rw[hv]at hp;rw[hu];rcases Nat.eq_or_lt_of_le Dy with e|e
    ·subst e;rw[hv]at hu;injection hu with hu;rw[<-hu];exact hp
    ·exact xQ hp (Mn h.ok.Dw hv hu e))
 have KM:(List.range l.length).countP (λi=> !xP l K i)=Iz l K:=qm (λs=> !(D6 K s)) l _ λi v hv=>by
  unfold xP;rw[hv]
 rw[KM]at hS;change ax av 76 _ _ _ at hS;have x0:=(h.aR (show M w (w.alloc (az #[X (G ⟨rb,0,U⟩)] 54))from(Ch.r _ w).alloc _)).aW.c 0;have x1:=h0.aW.c 0;rw[JH]at x1;have xl:=h.aW.lt;clear ca cx KM h h0;generalize Iz l K=r at hS⊢;generalize l.length=n at *;have jW:(n:Int)<=7:=by omega
 have HN:=O te;clear te;go_enter func37,ntmps37;go_wp2_with(go_at_call 76;rw[<-JH];refine hS.mono ?_;rintro e w' ⟨rfl,q,os,rfl⟩);go_ret;refine⟨rfl,?_⟩;rw[<-JH];exact HN.o.t (Ch.mA (below_grown_sl W0.heap.size W0 q os (aN _)) (λk hk _=>hk))
end
end Go.Proofs.YtmaimjajdbgmiaaGreatDoor
namespace Go.Proofs.YtmaimjajdbgmiaaGreatDoor.gK
open Go.Lib Go.RowKit
theorem F8{k:IntKind}{a b:Int}(h:a=b):Ending.returned (.int k a)=ay (.int k b):=by rw[h]
theorem fp(s:ByteArray):s.data.toList.length=s.size:=by cases s;rfl
theorem lu{s:ByteArray}(h:s.size=0):s=⟨#[]⟩:=by
 have h1:=fp s;rw[h]at h1;have h2:=List.eq_nil_of_length_eq_zero h1;exact key_inj (by rw[h2])
theorem rN{s:ByteArray}(h:0<s.size):s.toList.isEmpty=false/\decide (s.toList=[])=false/\s.toList≠[]:=by
 have h1:s.toList≠[]:=by
  rw[ByteArray.toList_eq];intro e;have:=congrArg List.length e;rw[fp,List.length_nil]at this;omega
 refine⟨?_,by simpa using h1,h1⟩;rcases hl:s.toList with _|_
 ·exact absurd hl h1
 ·rfl
theorem rO(n:Int)(w:aw):ax av 315 #[I J n] w λe w'=>e=ay (I J (dN n))/\w=w':=by
 go_enter func315,ntmps315;go_wp2_with fail
 all_goals
  go_ret;exact⟨F8 (by unfold dN;omega),rfl⟩
theorem u5(o:nu)(w:aw):ax av 237 #[aC #[I J o.k,V o.key,V o.val,I J o.n]] w λe w'=>e=ay (Y (WX o))/\M w w':=by
 obtain⟨K,key,val,N⟩:=o;unfold WX;dsimp only;by_cases h2:2<=K
 ·have d:decide (2<=K)=true:=by simpa using h2
  have d2:decide (K<=5)=decide (K<=5):=rfl;rw[d];go_enter func237,ntmps237;go_wp2_with fail;go_ret;exact⟨rfl,(Ch.r _ w).alloc _⟩
 ·have d:decide (2<=K)=false:=by simpa using h2
  rw[d];go_enter func237,ntmps237;go_wp2_with fail;go_ret;exact⟨rfl,(Ch.r _ w).alloc _⟩
theorem jO(o:nu)(w:aw):ax av 173 #[aC #[I J o.k,V o.key,V o.val,I J o.n]] w λe w'=>e=ay (Y (okB o))/\M w w':=by
 obtain⟨K,key,val,N⟩:=o;unfold okB;dsimp only;have fin: ∀(a b:Bool),a=b->Ending.returned (Y a)=ay (Y b):=λ_ _ h=>by rw[h]
 by_cases h6:K=6
 ·subst h6;go_enter func173,ntmps173;go_wp2_with fail;go_ret;exact⟨rfl,(Ch.r _ w).alloc _⟩
 have d6:(K==6)=false:=by simpa using h6
 rw[d6,Bool.false_or];have Mo: ∀b:Bool,b=(decide (0<key.size)&&decide (key.size<=16))->((key.size=0/\b=false)\/(0<key.size/\b=decide ((key.size:Int)<=16))):=λb hb=>by
  rcases Nat.eq_zero_or_pos key.size with h|h
  ·exact .inl ⟨h,by rw[hb,h];rfl⟩
  ·refine .inr ⟨h,?_⟩;rw[hb,decide_eq_true h,Bool.true_and];exact decide_eq_decide.2 (by omega)
 obtain⟨Q,hQ⟩:=bG ((decide (0<key.size)&&decide (key.size<=16)));rw[hQ];have hk:=Mo Q hQ.symm;clear hQ Mo;by_cases h2:K=2
 ·subst h2;by_cases hv:val.size<=32
  ·have dv:decide (32<(val.size:Int))=false:=by simp;omega
   have dv':decide (32<val.size)=false:=by simp;omega
   rw[decide_eq_true hv];rcases hk with⟨yM,rfl⟩|⟨yM,rfl⟩
   ·obtain rfl:=lu yM;clear yM;go_enter func173,ntmps173;go_wp2_with fail;go_ret;exact⟨rfl,(Ch.r _ w).alloc _⟩
   ·obtain⟨e1,e2,e3⟩:=rN yM;clear yM;go_enter func173,ntmps173;go_wp2_with fail;go_ret;exact⟨by simp,(Ch.r _ w).alloc _⟩
  ·have dv:decide (32<(val.size:Int))=true:=by simp;omega
   have dv':decide (32<val.size)=true:=by simp;omega
   rw[decide_eq_false hv];clear hk;go_enter func173,ntmps173;go_wp2_with fail;go_ret;exact⟨by simp,(Ch.r _ w).alloc _⟩
 have d2:(K==2)=false:=by simpa using h2
 rw[d2];by_cases h5:K=5
 ·subst h5;by_cases hn: -1125899906842624<=N/\N<=1125899906842624
  ·have n1:decide (N< -1125899906842624)=false:=by simp;omega
   have n2:decide (1125899906842624<N)=false:=by simp;omega
   rw[decide_eq_true hn.1,decide_eq_true hn.2];clear hn;rcases hk with⟨yM,rfl⟩|⟨yM,rfl⟩
   ·obtain rfl:=lu yM;clear yM;go_enter func173,ntmps173;go_wp2_with fail;go_ret;exact⟨rfl,(Ch.r _ w).alloc _⟩
   ·obtain⟨e1,e2,e3⟩:=rN yM;clear yM;go_enter func173,ntmps173;go_wp2_with fail;go_ret;exact⟨by simp,(Ch.r _ w).alloc _⟩
  ·have hb:(decide (-1125899906842624<=N)&&decide (N<=1125899906842624))=false:=by
    rcases Classical.em (-1125899906842624<=N)with h|h
    ·rw[decide_eq_false (λh'=>hn ⟨h,h'⟩),Bool.and_false]
    ·rw[decide_eq_false h,Bool.false_and]
   rw[hb];clear hk;by_cases hl:N< -1125899906842624
   ·have n1:decide (N< -1125899906842624)=true:=by simpa using hl
    clear hn hl hb;go_enter func173,ntmps173;go_wp2_with fail;go_ret;exact⟨by simp,(Ch.r _ w).alloc _⟩
   ·have n1:decide (N< -1125899906842624)=false:=by simpa using hl
    have n2:decide (1125899906842624<N)=true:=by simp;omega
    clear hn hl hb;go_enter func173,ntmps173;go_wp2_with fail;go_ret;exact⟨by simp,(Ch.r _ w).alloc _⟩
 have d5:(K==5)=false:=by simpa using h5
 rw[d5];by_cases Yc:K=1\/K=3\/K=4
 ·rcases Yc with rfl|rfl|rfl
  all_goals
   rcases hk with⟨yM,rfl⟩|⟨yM,rfl⟩
   ·obtain rfl:=lu yM;clear yM;go_enter func173,ntmps173;go_wp2_with fail;go_ret;exact⟨rfl,(Ch.r _ w).alloc _⟩
   ·obtain⟨e1,e2,e3⟩:=rN yM;clear yM;go_enter func173,ntmps173;go_wp2_with fail;go_ret;exact⟨by simp,(Ch.r _ w).alloc _⟩
 ·have d1:(K==1)=false:=by simp;omega
  have d3:(K==3)=false:=by simp;omega
  have d4:(K==4)=false:=by simp;omega
  rw[d1,d3,d4];clear hk Yc h5 h2 h6;go_enter func173,ntmps173;go_wp2_with fail;go_ret;exact⟨by simp,(Ch.r _ w).alloc _⟩
end Go.Proofs.YtmaimjajdbgmiaaGreatDoor.gK
namespace Go.Proofs
open Go.Shelf
def Tryz.zw:Go.Shelf.Ren:=⟨λ |171=>367|243=>388|246=>401|283=>409|284=>410|285=>411|286=>412|129=>302|317=>417|318=>418|319=>419|320=>420|337=>423|338=>232|n=>n,λ |3=>3|9=>9|2=>2|4=>4|171=>468|0=>0|53=>247|37=>142|5=>5|173=>470|212=>493|51=>376|20=>20|213=>494|46=>204|232=>497|233=>377|n=>n,λ |17=>3|18=>4|19=>0|n=>n⟩
theorem Tryz.Mp:Go.Proofs.LaysM.n171 av Tryz.zw:={
 mixed:=by kernel_rfl
 f129:=func302.trans (congrArg G (by kernel_rfl))
 f171:=func367.trans (congrArg G (by kernel_rfl))
 f243:=func388.trans (congrArg G (by kernel_rfl))
 f246:=func401.trans (congrArg G (by kernel_rfl))
 f283:=func409.trans (congrArg G (by kernel_rfl))
 f284:=func410.trans (congrArg G (by kernel_rfl))
 f285:=func411.trans (congrArg G (by kernel_rfl))
 f286:=func412.trans (congrArg G (by kernel_rfl))
 f317:=func417.trans (congrArg G (by kernel_rfl))
 f318:=func418.trans (congrArg G (by kernel_rfl))
 f319:=func419.trans (congrArg G (by kernel_rfl))
 f320:=func420.trans (congrArg G (by kernel_rfl))
 f337:=func423.trans (congrArg G (by kernel_rfl))
 f338:=func232.trans (congrArg G (by kernel_rfl))
 t0:=underlying0
 a0:=Tryz.isAgg0
 z0:=Tryz.sizeOf0
 v0:=Tryz.zeroValue0
 t2:=underlying2
 a2:=Tryz.isAgg2
 z2:=Tryz.sizeOf2
 v2:=Tryz.zeroValue2
 t3:=underlying3
 a3:=Tryz.isAgg3
 z3:=Tryz.sizeOf3
 v3:=Tryz.zeroValue3
 t4:=underlying4
 a4:=Tryz.isAgg4
 z4:=Tryz.sizeOf4
 v4:=Tryz.zeroValue4
 t5:=underlying5
 a5:=Tryz.isAgg5
 z5:=Tryz.sizeOf5
 v5:=Tryz.zeroValue5
 t9:=underlying9
 a9:=Tryz.isAgg9
 z9:=Tryz.sizeOf9
 v9:=Tryz.zeroValue9
 t20:=underlying20
 a20:=Tryz.isAgg20
 z20:=Tryz.sizeOf20
 v20:=Tryz.zeroValue20
 t37:=underlying142
 a37:=Tryz.isAgg142
 z37:=Tryz.sizeOf142
 v37:=Tryz.zeroValue142
 t46:=underlying204
 a46:=Tryz.isAgg204
 z46:=Tryz.sizeOf204
 v46:=Tryz.zeroValue204
 t51:=underlying376
 a51:=Tryz.isAgg376
 z51:=Tryz.sizeOf376
 v51:=Tryz.zeroValue376
 t53:=underlying247
 a53:=Tryz.isAgg247
 z53:=Tryz.sizeOf247
 v53:=Tryz.zeroValue247
 t171:=underlying468
 a171:=Tryz.isAgg468
 z171:=Tryz.sizeOf468
 v171:=Tryz.zeroValue468
 t173:=underlying470
 a173:=Tryz.isAgg470
 z173:=Tryz.sizeOf470
 v173:=Tryz.zeroValue470
 t212:=underlying493
 a212:=Tryz.isAgg493
 z212:=Tryz.sizeOf493
 v212:=Tryz.zeroValue493
 t213:=underlying494
 a213:=Tryz.isAgg494
 z213:=Tryz.sizeOf494
 t232:=underlying497
 a232:=Tryz.isAgg497
 z232:=Tryz.sizeOf497
 v232:=Tryz.zeroValue497
 t233:=underlying377
 a233:=Tryz.isAgg377
 z233:=Tryz.sizeOf377
 v233:=Tryz.zeroValue377
 g17:=by kernel_rfl
 g18:=by kernel_rfl
 g19:=by kernel_rfl
 i0:=by kernel_rfl
 i2:=by kernel_rfl
 i3:=by kernel_rfl
 i4:=by kernel_rfl
 i5:=by kernel_rfl
 i9:=by kernel_rfl
 i20:=by kernel_rfl
 i37:=by kernel_rfl
 i46:=by kernel_rfl
 i51:=by kernel_rfl
 i53:=by kernel_rfl
 i171:=by kernel_rfl
 i173:=by kernel_rfl
 i212:=by kernel_rfl
 i232:=by kernel_rfl
 i233:=by kernel_rfl
 m17:=by kernel_rfl
 m18:=by kernel_rfl
 m19:=by kernel_rfl}
def Tryz.SX:Go.Shelf.Ren:=⟨λ |171=>367|243=>388|246=>401|283=>409|284=>410|285=>411|286=>412|129=>302|317=>417|318=>418|319=>419|320=>420|337=>423|338=>232|n=>n,λ |3=>3|9=>9|2=>2|4=>4|171=>468|0=>0|53=>247|37=>142|5=>5|173=>470|212=>493|51=>376|20=>20|213=>494|46=>204|232=>497|233=>377|n=>n,λ |17=>3|18=>4|19=>0|n=>n⟩
def Tryz.zx:Go.Shelf.Ren:=⟨λ |172=>366|244=>386|245=>387|247=>396|279=>397|280=>398|281=>399|282=>400|287=>406|316=>407|171=>367|205=>408|321=>415|322=>416|243=>388|246=>401|283=>409|284=>410|285=>411|286=>412|129=>302|317=>417|318=>418|319=>419|320=>420|337=>423|338=>232|n=>n,λ |9=>9|3=>3|75=>427|76=>428|4=>4|5=>5|167=>451|37=>142|0=>0|85=>452|2=>2|168=>454|53=>247|175=>462|46=>204|210=>466|127=>488|145=>491|143=>489|21=>21|171=>468|173=>470|212=>493|51=>376|20=>20|213=>494|232=>497|233=>377|80=>515|n=>n,λ |15=>1|16=>2|17=>3|18=>4|19=>0|n=>n⟩
theorem Tryz.u7:Go.Proofs.LaysC.n172 av Tryz.zx:={
 mixed:=by kernel_rfl
 f129:=func302.trans (congrArg G (by kernel_rfl))
 f171:=func367.trans (congrArg G (by kernel_rfl))
 f172:=func366.trans (congrArg G (by kernel_rfl))
 f205:=func408.trans (congrArg G (by kernel_rfl))
 f243:=func388.trans (congrArg G (by kernel_rfl))
 f244:=func386.trans (congrArg G (by kernel_rfl))
 f245:=func387.trans (congrArg G (by kernel_rfl))
 f246:=func401.trans (congrArg G (by kernel_rfl))
 f247:=func396.trans (congrArg G (by kernel_rfl))
 f279:=func397.trans (congrArg G (by kernel_rfl))
 f280:=func398.trans (congrArg G (by kernel_rfl))
 f281:=func399.trans (congrArg G (by kernel_rfl))
 f282:=func400.trans (congrArg G (by kernel_rfl))
 f283:=func409.trans (congrArg G (by kernel_rfl))
 f284:=func410.trans (congrArg G (by kernel_rfl))
 f285:=func411.trans (congrArg G (by kernel_rfl))
 f286:=func412.trans (congrArg G (by kernel_rfl))
 f287:=func406.trans (congrArg G (by kernel_rfl))
 f316:=func407.trans (congrArg G (by kernel_rfl))
 f317:=func417.trans (congrArg G (by kernel_rfl))
 f318:=func418.trans (congrArg G (by kernel_rfl))
 f319:=func419.trans (congrArg G (by kernel_rfl))
 f320:=func420.trans (congrArg G (by kernel_rfl))
 f321:=func415.trans (congrArg G (by kernel_rfl))
 f322:=func416.trans (congrArg G (by kernel_rfl))
 f337:=func423.trans (congrArg G (by kernel_rfl))
 f338:=func232.trans (congrArg G (by kernel_rfl))
 t0:=underlying0
 a0:=Tryz.isAgg0
 z0:=Tryz.sizeOf0
 v0:=Tryz.zeroValue0
 t2:=underlying2
 a2:=Tryz.isAgg2
 z2:=Tryz.sizeOf2
 v2:=Tryz.zeroValue2
 t3:=underlying3
 a3:=Tryz.isAgg3
 z3:=Tryz.sizeOf3
 v3:=Tryz.zeroValue3
 t4:=underlying4
 a4:=Tryz.isAgg4
 z4:=Tryz.sizeOf4
 v4:=Tryz.zeroValue4
 t5:=underlying5
 a5:=Tryz.isAgg5
 z5:=Tryz.sizeOf5
 v5:=Tryz.zeroValue5
 t9:=underlying9
 a9:=Tryz.isAgg9
 z9:=Tryz.sizeOf9
 v9:=Tryz.zeroValue9
 t20:=underlying20
 a20:=Tryz.isAgg20
 z20:=Tryz.sizeOf20
 v20:=Tryz.zeroValue20
 t21:=underlying21
 a21:=Tryz.isAgg21
 z21:=Tryz.sizeOf21
 v21:=Tryz.zeroValue21
 t37:=underlying142
 a37:=Tryz.isAgg142
 z37:=Tryz.sizeOf142
 v37:=Tryz.zeroValue142
 t46:=underlying204
 a46:=Tryz.isAgg204
 z46:=Tryz.sizeOf204
 v46:=Tryz.zeroValue204
 t51:=underlying376
 a51:=Tryz.isAgg376
 z51:=Tryz.sizeOf376
 v51:=Tryz.zeroValue376
 t53:=underlying247
 a53:=Tryz.isAgg247
 z53:=Tryz.sizeOf247
 v53:=Tryz.zeroValue247
 t75:=underlying427
 a75:=Tryz.isAgg427
 z75:=Tryz.sizeOf427
 v75:=Tryz.zeroValue427
 t76:=underlying428
 a76:=Tryz.isAgg428
 z76:=Tryz.sizeOf428
 v76:=Tryz.zeroValue428
 t85:=underlying452
 a85:=Tryz.isAgg452
 z85:=Tryz.sizeOf452
 v85:=Tryz.zeroValue452
 t127:=underlying488
 a127:=Tryz.isAgg488
 z127:=Tryz.sizeOf488
 v127:=Tryz.zeroValue488
 t143:=underlying489
 a143:=Tryz.isAgg489
 z143:=Tryz.sizeOf489
 v143:=Tryz.zeroValue489
 t145:=underlying491
 a145:=Tryz.isAgg491
 z145:=Tryz.sizeOf491
 v145:=Tryz.zeroValue491
 t167:=underlying451
 a167:=Tryz.isAgg451
 z167:=Tryz.sizeOf451
 v167:=Tryz.zeroValue451
 t168:=underlying454
 a168:=Tryz.isAgg454
 z168:=Tryz.sizeOf454
 v168:=Tryz.zeroValue454
 t171:=underlying468
 a171:=Tryz.isAgg468
 z171:=Tryz.sizeOf468
 v171:=Tryz.zeroValue468
 t173:=underlying470
 a173:=Tryz.isAgg470
 z173:=Tryz.sizeOf470
 v173:=Tryz.zeroValue470
 t175:=underlying462
 a175:=Tryz.isAgg462
 z175:=Tryz.sizeOf462
 v175:=Tryz.zeroValue462
 t210:=underlying466
 a210:=Tryz.isAgg466
 z210:=Tryz.sizeOf466
 v210:=Tryz.zeroValue466
 t212:=underlying493
 a212:=Tryz.isAgg493
 z212:=Tryz.sizeOf493
 v212:=Tryz.zeroValue493
 t213:=underlying494
 a213:=Tryz.isAgg494
 z213:=Tryz.sizeOf494
 t232:=underlying497
 a232:=Tryz.isAgg497
 z232:=Tryz.sizeOf497
 v232:=Tryz.zeroValue497
 t233:=underlying377
 a233:=Tryz.isAgg377
 z233:=Tryz.sizeOf377
 v233:=Tryz.zeroValue377
 g15:=by kernel_rfl
 g16:=by kernel_rfl
 g17:=by kernel_rfl
 g18:=by kernel_rfl
 g19:=by kernel_rfl
 t80:=underlying515
 a80:=Tryz.isAgg515
 z80:=Tryz.sizeOf515
 v80:=Tryz.zeroValue515
 i0:=by kernel_rfl
 i2:=by kernel_rfl
 i3:=by kernel_rfl
 i4:=by kernel_rfl
 i5:=by kernel_rfl
 i9:=by kernel_rfl
 i20:=by kernel_rfl
 i21:=by kernel_rfl
 i37:=by kernel_rfl
 i46:=by kernel_rfl
 i51:=by kernel_rfl
 i53:=by kernel_rfl
 i75:=by kernel_rfl
 i76:=by kernel_rfl
 i80:=by kernel_rfl
 i85:=by kernel_rfl
 i127:=by kernel_rfl
 i143:=by kernel_rfl
 i145:=by kernel_rfl
 i167:=by kernel_rfl
 i168:=by kernel_rfl
 i171:=by kernel_rfl
 i173:=by kernel_rfl
 i175:=by kernel_rfl
 i210:=by kernel_rfl
 i212:=by kernel_rfl
 i232:=by kernel_rfl
 i233:=by kernel_rfl
 m15:=by kernel_rfl
 m16:=by kernel_rfl
 m17:=by kernel_rfl
 m18:=by kernel_rfl
 m19:=by kernel_rfl
 c0:=by kernel_rfl
 c2:=by kernel_rfl
 c3:=by kernel_rfl
 c4:=by kernel_rfl
 c5:=by kernel_rfl
 c9:=by kernel_rfl
 c20:=by kernel_rfl
 c21:=by kernel_rfl
 c37:=by kernel_rfl
 c46:=by kernel_rfl
 c51:=by kernel_rfl
 c53:=by kernel_rfl
 c75:=by kernel_rfl
 c76:=by kernel_rfl
 c80:=by kernel_rfl
 c85:=by kernel_rfl
 c127:=by kernel_rfl
 c143:=by kernel_rfl
 c145:=by kernel_rfl
 c167:=by kernel_rfl
 c168:=by kernel_rfl
 c171:=by kernel_rfl
 c173:=by kernel_rfl
 c175:=by kernel_rfl
 c210:=by kernel_rfl
 c212:=by kernel_rfl
 c213:=by kernel_rfl
 c232:=by kernel_rfl
 c233:=by kernel_rfl}
end Go.Proofs
namespace Go.Proofs.YtmaimjajdbgmiaaGreatDoor.gK
open Go.Lib Go.RowKit Go.Sort
structure Env(w:aw):Prop where
 tN:Lib.TabIs av w "internal/strconv.uint64pow10" .u64 Lib.pow10Tab
 bad: ∃tp p,w.var? av "strconv.ErrSyntax"=G #[.iface tp p]
 cv: ∃tp p,w.var? av "strconv.ErrRange"=G #[.iface tp p]
theorem Env.below{w w':aw}(h:Env w)(hb:Below w.heap.size w w'):Env w':=
 ⟨Joins.tab_stays (g:=3) (by kernel_rfl) h.tN hb (aN _),by
   obtain⟨tp,p,e⟩:=h.bad;exact⟨tp,p,Joins.var_stays (g:=1) (by kernel_rfl) e hb (aN _)⟩,by
   obtain⟨tp,p,e⟩:=h.cv;exact⟨tp,p,Joins.var_stays (g:=2) (by kernel_rfl) e hb (aN _)⟩⟩
theorem Env.aR{w w':aw}(h:Env w)(hc:M w w'):Env w':=h.below (hc.kN (λ_ h=>h.elim) (aN _))
theorem jJ{w w':aw}(hb:Below w.heap.size w w'):M w w':=Ch.mA hb λk hk _=>hk
theorem D8{w:aw}(k:Nat)(os:Array Obj):Below w.heap.size w (grow (w.drewN k) os):=
 ⟨rfl,rfl,rfl,by simp[grow],λi hi=>by
   show(w.heap++os)[i]?=_;rw[Array.getElem?_append_left hi]⟩
theorem Mq(n:Int)(h0: -9223372036854775808<=n)(h1:n<=9223372036854775807){w:aw}(hE:Env w):
 ax av 367 #[I J n] w λe w'=>e=ay (V (qO n))/\M w w':=
 (Any.strconv_Itoa Tryz.Mp n h0 h1 w hE.tN).mono λe w' ⟨he,k,os,hw⟩=>⟨he,by subst hw;exact jJ (D8 k os)⟩
theorem IA{w:aw}(t:TypeId)(s:_):M w (Lib.bytesWorld w t s):=by
 exact jJ (Joins.below_bytesWorld _ _ _ _ (aN _))
theorem QM(s:ByteArray)(hs:s.size<=1000)(v:Int)(h:Lib.atoiAll s.data.toList= .ok v)(w:aw):
 ax av 366 #[V s] w λe w'=>e=ay (aB #[I J v,.nilIface])/\M w w':=
 (Any.strconv_Atoi_ok Tryz.u7 s (by omega) v h w).mono λe w' ⟨he,hw⟩=>⟨he,by
   rcases hw with rfl|⟨t,rfl⟩
   ·exact Ch.r _ _
   ·exact IA _ _⟩
theorem Mr(s:ByteArray)(hs:s.size<=1000)(h: ∀v,Lib.atoiAll s.data.toList≠.ok v){w:aw}(hE:Env w):
 ax av 366 #[V s] w λe w'=>(∃v N,e=ay (aB #[I J v,.iface 454 (X (G ⟨N,0,U⟩))]))/\M w w':=by
 rcases hA:Lib.atoiAll s.data.toList with v|_|_
 ·exact absurd hA (h v)
 ·obtain⟨tp,p,e⟩:=hE.bad;exact(Any.strconv_Atoi_syntax_var Tryz.u7 s (by omega) hA tp p w e).mono λe w' ⟨N,he,_,_,hb⟩=>⟨⟨_,N,he⟩,jJ hb⟩
 ·obtain⟨tp,p,e⟩:=hE.cv;exact(Any.strconv_Atoi_range_var Tryz.u7 s (by omega) hA tp p w e).mono λe w' ⟨N,he,_,_,hb⟩=>⟨⟨_,N,he⟩,jJ hb⟩
theorem BI(n:Int)(h0: -9223372036854775808<=n)(h1:n<=9223372036854775807){w:aw}(hE:Env w):
 ax av 317 #[I J n] w λe w'=>e=ay (V (qO n))/\M w w':=by
 have HI:=O (Mq n h0 h1 hE);clear hE;go_enter func317,ntmps317;go_wp2_with fail;refine HI.o.mono ?_;rintro e w2 ⟨rfl,hN⟩;dsimp only;have HN:=O hN;clear hN;go_wp2_with fail;go_ret;exact⟨rfl,HN.o⟩
theorem D9(n:Int)(s:ByteArray):((qO n).toList=s.toList)↔itoa n=s.data.toList:=by
 rw[yu]
 constructor
 ·intro h;rw[<-ji,h]
 ·intro h;exact key_inj (by rw[ji,h])
theorem Ea(s:ByteArray)(hs:s.size<=1000){w:aw}(hE:Env w):
 ax av 316 #[V s] w λe w'=>e=ay (I J (lN s))/\M w w':=by
 rcases Classical.em (∃v,Lib.atoiAll s.data.toList= .ok v)with⟨v,hv⟩|mr
 ·have HA:=O (QM s hs v hv w);have hb:=Lib.atoiAll_bounds hv;have HT:=O (λw' (hc:M w w')=>BI v hb.1 hb.2 (hE.aR hc));have HC:=O (λw'=>rO v w');obtain⟨R,hR⟩:=bG (lN s);rw[hR];have hn:=mz (Tx hv);have HR:=O (hR.symm.trans hn);obtain⟨au,hT⟩:=bG (qO v);have hte:=D9 v s;rw[hT]at HT hte;obtain⟨C,hC⟩:=bG (dN v);rw[hC]at HC;have Wu:=O hC;have SY:=O hte;clear hE hv hn hR hT hte hC hb;by_cases h1:au.toList=s.toList
  ·have b1:(au.toList !=s.toList)=false:=by simpa using h1
   have b0:(au.toList==s.toList)=true:=by simpa using h1
   have b1':decide (au.toList=s.toList)=true:=by simpa using h1
   by_cases h2:C=v
   ·have b2:(C !=v)=false:=by simpa using h2
    have hr:R=v:=by
     have hc: -1125899906842624<=v/\v<=1125899906842624:=by
      have:=Wu.o;unfold dN at this;omega
     rw[HR.o,if_pos ⟨SY.o.1 h1,hc⟩]
    subst hr;clear h1 h2;go_enter func316,ntmps316;go_wp2_with fail;refine HA.o.mono ?_;rintro e w2 ⟨rfl,hN⟩;dsimp only;have HN:=O hN;clear hN;go_wp2_with fail;refine(HT.o _ HN.o).mono ?_;rintro e w3 ⟨rfl,hN⟩;dsimp only;have bJ:=O (HN.o.t hN);clear hN;go_wp2_with fail;refine(HC.o _).mono ?_;rintro e w4 ⟨rfl,rfl⟩;dsimp only;go_wp2_with fail;go_ret;exact⟨rfl,bJ.o⟩
   ·have b2:(C !=v)=true:=by simpa using h2
    have hr:R=0:=by
     rw[HR.o,if_neg];rintro⟨_,h3,h4⟩;refine h2 ?_;rw[<-Wu.o];unfold dN;omega
    subst hr;clear h1 h2;go_enter func316,ntmps316;go_wp2_with fail;refine HA.o.mono ?_;rintro e w2 ⟨rfl,hN⟩;dsimp only;have HN:=O hN;clear hN;go_wp2_with fail;refine(HT.o _ HN.o).mono ?_;rintro e w3 ⟨rfl,hN⟩;dsimp only;have bJ:=O (HN.o.t hN);clear hN;go_wp2_with fail;refine(HC.o _).mono ?_;rintro e w4 ⟨rfl,rfl⟩;dsimp only;go_wp2_with fail;go_ret;exact⟨rfl,bJ.o⟩
  ·have b1:(au.toList !=s.toList)=true:=by simpa using h1
   have b0:(au.toList==s.toList)=false:=by simpa using h1
   have b1':decide (au.toList=s.toList)=false:=by simpa using h1
   have hr:R=0:=by
    rw[HR.o,if_neg];rintro⟨h3,_⟩;exact h1 (SY.o.2 h3)
   subst hr;clear h1;go_enter func316,ntmps316;go_wp2_with fail;refine HA.o.mono ?_;rintro e w2 ⟨rfl,hN⟩;dsimp only;have HN:=O hN;clear hN;go_wp2_with fail;refine(HT.o _ HN.o).mono ?_;rintro e w3 ⟨rfl,hN⟩;dsimp only;have bJ:=O (HN.o.t hN);clear hN;go_wp2_with fail;go_ret;exact⟨rfl,bJ.o⟩
 ·have HA:=O (Mr s hs (λv hv=>mr ⟨v,hv⟩) hE);have hr:lN s=0:=mz (O1 λv hv=>mr ⟨v,hv⟩);rw[hr];clear hr mr hE;go_enter func316,ntmps316;go_wp2_with fail;refine HA.o.mono ?_;rintro e w2 ⟨⟨v,N,rfl⟩,hN⟩;dsimp only;have HN:=O hN;clear hN;go_wp2_with fail;go_ret;exact⟨rfl,HN.o⟩
end Go.Proofs.YtmaimjajdbgmiaaGreatDoor.gK
namespace Go.Proofs.YtmaimjajdbgmiaaGreatDoor.gK
open Go.RowKit Go.Sort
def norm(v:ByteArray)(h:Bool):kB:=if h then G v else U
theorem Eb(v:ByteArray)(h:Bool)(hn:h=false->v=⟨#[]⟩)(w:aw):ax av 314 #[aC #[V v,Y h]] w λe w'=>e=ay (aC #[V v,Y h])/\M w w':=by
 cases h
 ·obtain rfl:=hn rfl;go_enter func314,ntmps314;go_wp2_with fail;exact aE (v:=aC #[V ⟨#[]⟩,Y false]) (by simp[results,results314,go_sem]) rfl ⟨rfl,((Ch.r _ w).alloc _).alloc _⟩
 ·clear hn;go_enter func314,ntmps314;go_wp2_with fail;exact aE (v:=aC #[V v,Y true]) (by simp[results,results314,go_sem]) rfl ⟨rfl,((Ch.r _ w).alloc _).alloc _⟩
theorem BJ(r:kB):fB r=false->eP r=⟨#[]⟩:=by cases r<;>simp[fB,eP,emp]
structure SB(w w':aw)(b:Nat)(cs:Array Value)(HV:ByteArray)(HB:Bool)(LV:ByteArray)(LB:Bool)(x y:Value×Value):Prop where
 nw:M w w'
 hb:w.heap.size<=b
 b0:aX w' b 33 cs
 b1:aX w' (b+1) 138 #[V HV,Y HB]
 b2:aX w' (b+1+1) 138 #[V LV,Y LB]
 b3:aX w' (b+1+1+1) 138 #[x.1,x.2]
 b4:aX w' (b+1+1+1+1) 138 #[y.1,y.2]
section
variable{w w' eZ:aw}{b:Nat}{cs:Array Value}{HV LV:ByteArray}{HB LB:Bool}{x y:Value×Value}
theorem SB.drew(h:SB w w' b cs HV HB LV LB x y):SB w w'.drew b cs HV HB LV LB x y:=⟨h.nw.drew,h.hb,h.b0,h.b1,h.b2,h.b3,h.b4⟩
theorem SB.aR(h:SB w w' b cs HV HB LV LB x y)(hc:M w' eZ):SB w eZ b cs HV HB LV LB x y:=
 ⟨h.nw.t hc,h.hb,h.b0.ch hc (λh=>h),h.b1.ch hc (λh=>h),h.b2.ch hc (λh=>h),h.b3.ch hc (λh=>h),h.b4.ch hc (λh=>h)⟩
theorem SB.Yd(h:SB w w' b cs HV HB LV LB x y):SB w ((w'.setCell ⟨b+1,0,U⟩ (V HV)).setCell ⟨b+1,1,U⟩ (Y HB)) b cs HV HB LV LB x y:=by
 have hb:=h.hb;have e:=(h.b1.bm 0 (V HV)).bm 1 (Y HB);refine⟨(h.nw.setCell (.inr (by dsimp only;omega)) _).setCell (.inr (by dsimp only;omega)) _,h.hb,?_,e,?_,?_,?_⟩
 ·exact(h.b0.cv (by dsimp only;omega) _).cv (by dsimp only;omega) _
 ·exact(h.b2.cv (by dsimp only;omega) _).cv (by dsimp only;omega) _
 ·exact(h.b3.cv (by dsimp only;omega) _).cv (by dsimp only;omega) _
 ·exact(h.b4.cv (by dsimp only;omega) _).cv (by dsimp only;omega) _
theorem SB.Ye(h:SB w w' b cs HV HB LV LB x y):SB w ((w'.setCell ⟨b+1+1,0,U⟩ (V LV)).setCell ⟨b+1+1,1,U⟩ (Y LB)) b cs HV HB LV LB x y:=by
 have hb:=h.hb;have e:=(h.b2.bm 0 (V LV)).bm 1 (Y LB);refine⟨(h.nw.setCell (.inr (by dsimp only;omega)) _).setCell (.inr (by dsimp only;omega)) _,h.hb,?_,?_,e,?_,?_⟩
 ·exact(h.b0.cv (by dsimp only;omega) _).cv (by dsimp only;omega) _
 ·exact(h.b1.cv (by dsimp only;omega) _).cv (by dsimp only;omega) _
 ·exact(h.b3.cv (by dsimp only;omega) _).cv (by dsimp only;omega) _
 ·exact(h.b4.cv (by dsimp only;omega) _).cv (by dsimp only;omega) _
theorem SB.Ms(h:SB w w' b cs HV HB LV LB x y)(u v:Value):SB w ((w'.setCell ⟨b+1+1+1,0,U⟩ u).setCell ⟨b+1+1+1,1,U⟩ v) b cs HV HB LV LB (u,v) y:=by
 have hb:=h.hb;have e:=(h.b3.bm 0 u).bm 1 v;refine⟨(h.nw.setCell (.inr (by dsimp only;omega)) _).setCell (.inr (by dsimp only;omega)) _,h.hb,?_,?_,?_,e,?_⟩
 ·exact(h.b0.cv (by dsimp only;omega) _).cv (by dsimp only;omega) _
 ·exact(h.b1.cv (by dsimp only;omega) _).cv (by dsimp only;omega) _
 ·exact(h.b2.cv (by dsimp only;omega) _).cv (by dsimp only;omega) _
 ·exact(h.b4.cv (by dsimp only;omega) _).cv (by dsimp only;omega) _
theorem SB.Mt(h:SB w w' b cs HV HB LV LB x y)(u v:Value):SB w ((w'.setCell ⟨b+1+1+1+1,0,U⟩ u).setCell ⟨b+1+1+1+1,1,U⟩ v) b cs HV HB LV LB x (u,v):=by
 have hb:=h.hb;have e:=(h.b4.bm 0 u).bm 1 v;refine⟨(h.nw.setCell (.inr (by dsimp only;omega)) _).setCell (.inr (by dsimp only;omega)) _,h.hb,?_,?_,?_,?_,e⟩
 ·exact(h.b0.cv (by dsimp only;omega) _).cv (by dsimp only;omega) _
 ·exact(h.b1.cv (by dsimp only;omega) _).cv (by dsimp only;omega) _
 ·exact(h.b2.cv (by dsimp only;omega) _).cv (by dsimp only;omega) _
 ·exact(h.b3.cv (by dsimp only;omega) _).cv (by dsimp only;omega) _
theorem SB.cells{K N:Int}{key val:ByteArray}(h:SB w w' b #[I J K,V key,V val,I J N] HV HB LV LB x y):
 w'.cell? ⟨b,0,U⟩=G (I J K)/\w'.cell? ⟨b,2,U⟩=G (V val)/\w'.cell? ⟨b,3,U⟩=G (I J N)/\
 w'.cell? ⟨b+1,0,U⟩=G (V HV)/\w'.cell? ⟨b+1,1,U⟩=G (Y HB)/\w'.cell? ⟨b+1+1,0,U⟩=G (V LV)/\w'.cell? ⟨b+1+1,1,U⟩=G (Y LB)/\
 w'.cell? ⟨b+1+1+1,0,U⟩=G x.1/\w'.cell? ⟨b+1+1+1,1,U⟩=G x.2/\w'.cell? ⟨b+1+1+1+1,0,U⟩=G y.1/\w'.cell? ⟨b+1+1+1+1,1,U⟩=G y.2:=
 ⟨by rw[h.b0.c];rfl,by rw[h.b0.c];rfl,by rw[h.b0.c];rfl,by rw[h.b1.c];rfl,by rw[h.b1.c];rfl,by rw[h.b2.c];rfl,by rw[h.b2.c];rfl,by rw[h.b3.c];rfl,by rw[h.b3.c];rfl,by rw[h.b4.c];rfl,by rw[h.b4.c];rfl⟩
theorem SB.free(h:SB w w' b cs HV HB LV LB x y):(∀i,w'.frozen? ⟨b+1,i,U⟩=false)/\(∀i,w'.frozen? ⟨b+1+1,i,U⟩=false)/\(∀i,w'.frozen? ⟨b+1+1+1,i,U⟩=false)/\(∀i,w'.frozen? ⟨b+1+1+1+1,i,U⟩=false):=
 ⟨h.b1.frozen,h.b2.frozen,h.b3.frozen,h.b4.frozen⟩
end
theorem Mu(w:aw)(cs:Array Value)(HV LV:ByteArray)(HB LB:Bool):
 SB w (((((w.alloc (az cs 33)).alloc (az #[V HV,Y HB] 138)).alloc (az #[V LV,Y LB] 138)).alloc (az #[V ⟨#[]⟩,Y false] 138)).alloc (az #[V ⟨#[]⟩,Y false] 138)) w.heap.size cs HV HB LV LB (V ⟨#[]⟩,Y false) (V ⟨#[]⟩,Y false):=by
 refine⟨((((((Ch.r _ w).alloc _).alloc _).alloc _).alloc _).alloc _),aN _,?_,?_,?_,?_,?_⟩
 ·exact((((aX.new w 33 cs).alloc _).alloc _).alloc _).alloc _
 ·have:=aX.new (w.alloc (az cs 33)) 138 #[V HV,Y HB];rw[World.size_alloc]at this;exact((this.alloc _).alloc _).alloc _
 ·have:=aX.new ((w.alloc (az cs 33)).alloc (az #[V HV,Y HB] 138)) 138 #[V LV,Y LB];rw[World.size_alloc,World.size_alloc]at this;exact(this.alloc _).alloc _
 ·have:=aX.new (((w.alloc (az cs 33)).alloc (az #[V HV,Y HB] 138)).alloc (az #[V LV,Y LB] 138)) 138 #[V ⟨#[]⟩,Y false];rw[World.size_alloc,World.size_alloc,World.size_alloc]at this;exact this.alloc _
 ·have:=aX.new ((((w.alloc (az cs 33)).alloc (az #[V HV,Y HB] 138)).alloc (az #[V LV,Y LB] 138)).alloc (az #[V ⟨#[]⟩,Y false] 138)) 138 #[V ⟨#[]⟩,Y false];rw[World.size_alloc,World.size_alloc,World.size_alloc,World.size_alloc]at this;exact this
theorem Mv(o:nu)(h1:1<=o.k)(h5:o.k<=5)(has last:kB){w:aw}(hE:Env w)(hv:(eP has).size<=1000):
 ax av 236 #[aC #[I J o.k,V o.key,V o.val,I J o.n],aC #[V (eP has),Y (fB has)],aC #[V (eP last),Y (fB last)]] w λe w'=>
  e=ay (aB #[aC #[V (eP (jw o has last)),Y (fB (jw o has last))],aC #[V (eP (il o has last)),Y (fB (il o has last))]])/\M w w':=by
 have Wv:=O (BJ has);have HP2:=O (BJ last);obtain⟨K,key,val,N⟩:=o;dsimp only at h1 h5;generalize ot:eP has=HV at *;generalize SZ:fB has=HB at *;generalize hx3:eP last=LV at *;generalize hx4:fB last=LB at *;have ki:=O ot;have xt:=O SZ;have Pr:=O hx3;have XX:=O hx4;clear ot SZ hx3 hx4;have HE:=O hE;clear hE;have xr:=O (Mu w #[I J K,V key,V val,I J N] HV LV HB LB);go_enter func236,ntmps236;go_upto_region 1 with(fail);generalize(((((w.alloc (az #[I J K,V key,V val,I J N] 33)).alloc (az #[V HV,Y HB] 138)).alloc (az #[V LV,Y LB] 138)).alloc (az #[V ⟨#[]⟩,Y false] 138)).alloc (az #[V ⟨#[]⟩,Y false] 138))=w5 at *;generalize w.heap.size=b at *
 go_cut[] (λwx=>SB w wx b #[I J K,V key,V val,I J N] HV HB LV LB (V ⟨#[]⟩,Y false) (V ⟨#[]⟩,Y false))
 case first=>
  have c:=xr.o.cells;obtain⟨_,_,_,k0,k1,k2,k3,_⟩:=c
  go_region_with ((go_at_call 314;refine(Eb _ _ (by first|exact Wv.o|exact HP2.o) _).mono ?_;rintro e wa ⟨rfl,oO⟩;(first
   |(have Ww:=xr.o.aR oO;obtain⟨_,_,_,k0,k1,k2,k3,_⟩:=Ww.cells;obtain⟨f1,f2,_,_⟩:=Ww.free)
   |(have Ww:=xr.o.drew.aR oO;obtain⟨_,_,_,k0,k1,k2,k3,_⟩:=Ww.cells;obtain⟨f1,f2,_,_⟩:=Ww.free)
   |(have hSb:=Ww.aR oO;obtain⟨_,_,_,k0,k1,k2,k3,_⟩:=hSb.cells;obtain⟨f1,f2,_,_⟩:=hSb.free))))
  all_goals
   go_wp2_with fail;go_meet
   first
    |exact hSb.Yd.Ye
    |exact hSb.Ye.Yd
 case rest=>
  have hS:=hcut;obtain⟨c0,c2,c3,k0,k1,k2,k3,r0,r1,r2,r3⟩:=hS.cells;obtain⟨_,_,f3,f4⟩:=hS.free;have HS:=O hS;clear hcut hS xr;rcases(by omega:K=1\/K=2\/K=3\/K=4\/K=5)with rfl|rfl|rfl|rfl|rfl
  ·go_wp2_with fail
   go_region
   all_goals
    have hF:=((HS.o.Ms (V ⟨#[]⟩) (Y false)).Mt (V HV) (Y HB)).drew;obtain⟨_,_,_,_,_,_,_,g0,g1,g2,g3⟩:=hF.cells;clear c0 c2 c3 k0 k1 k2 k3 r0 r1 r2 r3 f3 f4;go_wp2_with fail;refine aE (v:=aB #[aC #[(V ⟨#[]⟩),(Y false)],aC #[(V HV),(Y HB)]]) (by simp[results,results236,go_sem,g0,g1,g2,g3]) rfl ⟨?_,hF.nw⟩;rw[<-ki.o, <-xt.o];rfl
  ·go_wp2_with fail
   go_region
   all_goals
    have hF:=((HS.o.Ms (V val) (Y true)).Mt (V HV) (Y HB)).drew;obtain⟨_,_,_,_,_,_,_,g0,g1,g2,g3⟩:=hF.cells;clear c0 c2 c3 k0 k1 k2 k3 r0 r1 r2 r3 f3 f4;go_wp2_with fail;refine aE (v:=aB #[aC #[(V val),(Y true)],aC #[(V HV),(Y HB)]]) (by simp[results,results236,go_sem,g0,g1,g2,g3]) rfl ⟨?_,hF.nw⟩;rw[<-ki.o, <-xt.o];rfl
  ·go_wp2_with fail
   go_region
   all_goals
    have hF:=((HS.o.Ms (V ⟨#[]⟩) (Y false)).Mt (V HV) (Y HB)).drew;obtain⟨_,_,_,_,_,_,_,g0,g1,g2,g3⟩:=hF.cells;clear c0 c2 c3 k0 k1 k2 k3 r0 r1 r2 r3 f3 f4;go_wp2_with fail;refine aE (v:=aB #[aC #[(V ⟨#[]⟩),(Y false)],aC #[(V HV),(Y HB)]]) (by simp[results,results236,go_sem,g0,g1,g2,g3]) rfl ⟨?_,hF.nw⟩;rw[<-ki.o, <-xt.o];rfl
  ·go_wp2_with fail
   go_region
   all_goals
    have hF:=((HS.o.Ms (V LV) (Y LB)).Mt (V HV) (Y HB)).drew;obtain⟨_,_,_,_,_,_,_,g0,g1,g2,g3⟩:=hF.cells;clear c0 c2 c3 k0 k1 k2 k3 r0 r1 r2 r3 f3 f4;go_wp2_with fail;refine aE (v:=aB #[aC #[(V LV),(Y LB)],aC #[(V HV),(Y HB)]]) (by simp[results,results236,go_sem,g0,g1,g2,g3]) rfl ⟨?_,hF.nw⟩;rw[<-ki.o, <-xt.o, <-Pr.o, <-XX.o];rfl
  ·have Yf:=O (λw' (hc:M w w')=>Ea HV hv (HE.o.aR hc));have cJ:=O (Da HV);obtain⟨NH,hNH⟩:=bG (lN HV);rw[hNH]at Yf cJ;have JG:=cJ.o;have OA:=mC N;have Wx:IntKind.i64.wrap (NH+dN N)=NH+dN N:=IntWalk.i64_in _ ⟨by omega,by omega⟩;have Oz:=O (show sumOf ⟨5,key,val,N⟩ has=dN (NH+dN N) by unfold sumOf;rw[ki.o,hNH]);obtain⟨S,hS⟩:=bG (dN (NH+dN N));have CV:=mC (NH+dN N);have jj:=O (λw'=>rO (NH+dN N) w');have GN:=O (λw'=>rO N w');rw[hS]at Oz jj CV;obtain⟨CN,hCN⟩:=bG (dN N);rw[hCN]at Wx jj GN OA;have FP:=O (λw' (hc:M w w')=>BI S (by omega) (by omega) (HE.o.aR hc));clear hNH hCN hS;go_wp2_with fail
   go_region_held3(λw'=>w'.cell? ⟨b+1,0,U⟩=G (V HV)/\w'.cell? ⟨b,3,U⟩=G (I J N)) (first
    |(exact⟨(HS.o.aR oO).cells.2.2.2.1,(HS.o.aR oO).cells.2.2.1⟩)
    |(exact⟨(HS.o.drew.aR oO).cells.2.2.2.1,(HS.o.drew.aR oO).cells.2.2.1⟩)
    |(exact⟨HS.o.cells.2.2.2.1,HS.o.cells.2.2.1⟩))
    (first
      |(go_at_call 316;(first|refine(Yf.o _ HS.o.nw).mono ?_|refine(Yf.o _ HS.o.nw.drew).mono ?_|refine(Yf.o _ (HS.o.nw.drewN _)).mono ?_);rintro e wa ⟨rfl,oO⟩)
      |(go_at_call_of 315 (I J N);refine(GN.o _).mono ?_;rintro e wb ⟨rfl,rfl⟩)
      |(go_at_call 315;refine(jj.o _).mono ?_;rintro e wb ⟨rfl,rfl⟩))
   all_goals
    first
     |have Ae:=O (HS.o.aR oO)
     |have Ae:=O (HS.o.drew.aR oO)
    clear c0 c2 c3 k0 k1 k2 k3 r0 r1 r2 r3 f3 f4 oO;go_wp2_with fail;refine(FP.o _ Ae.o.nw).mono ?_;rintro e w2 ⟨rfl,hN⟩;dsimp only;have kj:=O (Ae.o.aR hN);have HT0:=O (show(5:Int)=5/\sumOf ⟨5,key,val,N⟩ has=S from⟨rfl,Oz.o⟩);obtain⟨au,hT⟩:=bG (qO S);rw[hT];have HT:=O hT;clear hN hT FP jj GN Yf Wx;have pr:=O (kj.o.aR ((Ch.r _ w2).alloc (az #[V au,Y true] 138)));have XZ:=O (aX.new w2 138 #[V au,Y true]);have l3:=kj.o.b3.lt;have l4:=kj.o.b4.lt;go_upto_region 14 with(fail);generalize w2.alloc (az #[V au,Y true] 138)=w3 at *;generalize w2.heap.size=tb at *;obtain⟨_,_,f3,f4⟩:=pr.o.free;obtain⟨_,_,_,_,_,_,_,r0,r1,r2,r3⟩:=pr.o.cells;have q3:tb≠b+1+1+1:=by omega
    have q4:tb≠b+1+1+1+1:=by omega
    have p3:b+1+1+1≠tb:=by omega
    have p4:b+1+1+1+1≠tb:=by omega
    have⟨t0,t1⟩:=vS XZ.o
    go_region
    all_goals
     have hF:=((pr.o.Ms (V au) (Y true)).Mt (V au) (Y true)).drew;obtain⟨_,_,_,_,_,_,_,g0,g1,g2,g3⟩:=hF.cells;clear f3 f4 t0 t1 r0 r1 r2 r3;go_wp2_with fail;refine aE (v:=aB #[aC #[V au,Y true],aC #[V au,Y true]]) (by simp[results,results236,go_sem,g0,g1,g2,g3]) rfl ⟨?_,hF.nw⟩;have e1:jw ⟨5,key,val,N⟩ has last=G au:=by unfold jw;simp only[HT0.o.2,HT.o];rfl
     have e2:il ⟨5,key,val,N⟩ has last=G au:=by unfold il;simp only[HT0.o.2,HT.o];rfl
     rw[e1,e2];rfl
end Go.Proofs.YtmaimjajdbgmiaaGreatDoor.gK
namespace Go.Proofs.YtmaimjajdbgmiaaGreatDoor.gK
open Go.Lib Go.RowKit
theorem qv{l:List nu}{k:Nat}{o:nu}(h:l[k]?=G o):(l.take (k+1)).all okB=((l.take k).all okB&&okB o):=by
 have hk:=bf h;rw[List.take_succ_eq_append_getElem hk];rw[List.getElem?_eq_getElem hk]at h;injection h with h;simp[h]
theorem Re{l:List nu}{k:Nat}{o:nu}(h:l[k]?=G o)(hb:okB o=false):l.all okB=false:=by
 rw[List.all_eq_false];exact⟨o,bS h,by rw[hb];simp⟩
theorem IH{w:aw}{A:Option Addr}{n c:Nat}{l:List nu}(h:J2 w A n l):
 ax av 106 #[T A n c] w λe w'=>e=ay (I J (oJ l))/\M w w':=by
 have hn:=h.1;have H:=O h;obtain⟨R,hR⟩:=bG (oJ l);have HR:=O hR;rw[hR];have HL:=O hn;clear h hR hn;by_cases OQ:16<n
 ·have d:decide (16<(n:Int))=true:=by simp;omega
  have d':decide (16<n)=true:=by simpa using OQ
  have hr:R=4:=by rw[<-HR.o];unfold oJ;rw[if_pos (by rw[HL.o];exact OQ)]
  subst hr;clear OQ;go_enter func106,ntmps106;go_wp2_with fail;go_ret;exact⟨rfl,Ch.r _ _⟩
 have d:decide (16<(n:Int))=false:=by simp;omega
 have d':decide (16<n)=false:=by simpa using OQ
 have qd8:(n:Int)<=16:=by omega
 have bH:=O (show R=if l.all okB then 0 else 1 by rw[<-HR.o];unfold oJ;rw[if_neg (by rw[HL.o];omega)]);clear OQ;go_enter func106,ntmps106;go_wp2_with fail
 go_loopw[10] (λi wr=>∃k:Nat,k<=n/\i=I J k/\(l.take k).all okB=true/\M w wr) (λi _=>n- (intOf i).toNat)
 case atStart=>exact⟨0,by omega,rfl,by simp,Ch.r _ _⟩
 case round=>
  obtain⟨k,hk,rfl,hall,hC⟩:=hrel;have HC:=O hC;have HA:=O hall;clear hall hC;by_cases hlt:k<n
  ·obtain⟨o,ho⟩:=bh (show k<l.length by rw[HL.o];exact hlt);obtain⟨b,off,rfl,x0,x1,x2,x3⟩:=(H.o.aR HC.o).at_ ho;have HS:=O (qv ho);have HN:=O (λhb=>Re ho hb);have HX:=O (λw=>jO o w);obtain⟨K,key,val,N⟩:=o;dsimp only at x0 x1 x2 x3;have CI:=O (HC.o.alloc (az #[I J K,V key,V val,I J N] 33));clear ho;obtain⟨B,hB⟩:=bG (okB ⟨K,key,val,N⟩);rw[hB]at HX HS HN;clear hB;go_wp2_with fail;refine(HX.o _).mono ?_;rintro e w2 ⟨rfl,iD⟩;dsimp only;have bJ:=O (CI.o.t iD);clear iD HX CI x0 x1 x2 x3;cases B
   ·have hr:R=1:=by rw[bH.o,HN.o rfl];rfl
    subst hr;go_wp2_with fail;go_ret;exact⟨rfl,bJ.o⟩
   ·go_wp2_with fail;exact⟨⟨k+1,by omega,by go_num,by rw[HS.o,HA.o];rfl,bJ.o⟩,by simp[intOf];omega⟩
  ·obtain rfl:k=n:=by omega
   have hr:R=0:=by
    rw[bH.o];have:=HA.o;rw[List.take_of_length_le (by rw[HL.o];omega)]at this;rw[this];rfl
   subst hr;clear hlt hk;go_wp2_with fail;go_ret;exact⟨rfl,HC.o⟩
end Go.Proofs.YtmaimjajdbgmiaaGreatDoor.gK
namespace Go.Proofs.YtmaimjajdbgmiaaGreatDoor.gK
open Go.RowKit Go.Sort
theorem Od(w:aw)(d:Int)(h0:0<=d)(h1:d<10):
 (Go.convert 142 9 (T (G ⟨w.heap.size,0,U⟩) 1 1)).run av (w.alloc (az #[I .u8 (48+d)] 5))= .ok (V ⟨#[UInt8.ofNat (48+d.toNat)]⟩) (w.alloc (az #[I .u8 (48+d)] 5)):=by
 refine run_convert_bytes_back (P:=av) (w.alloc (az #[I .u8 (48+d)] 5)) 142 9 5 ⟨w.heap.size,0,U⟩ 1 [UInt8.ofNat (48+d.toNat)] underlying142 underlying5 underlying9 λj hj=>?_;have hj0:j=0:=by simp at hj;omega
 subst hj0;show(w.alloc (az #[I .u8 (48+d)] 5)).cell? ⟨w.heap.size,0,U⟩=_;rw[(aX.new w 5 #[I .u8 (48+d)]).c];simp only[aH];rw[ik (by omega)];show G (I .u8 (48+d))=_;congr 2
 omega
theorem pq(c:UInt8)(s:ByteArray):(({data:=#[c]}:ByteArray)++s).data.toList=c::s.data.toList:=by
 rw[Joins.data_append];rfl
theorem Gz{a b:ByteArray}(h:a=b):Ending.returned (V a)=ay (V b):=by rw[h]
theorem yo{d:Nat}(h:d<10):(48:UInt8)+UInt8.ofNat d=UInt8.ofNat (48+d):=by
 apply UInt8.toNat_inj.1
 rw[ik h,UInt8.toNat_add,UInt8.toNat_ofNat'];have:(48:UInt8).toNat=48:=rfl;rw[this];omega
theorem Ju{a:Int}(ha:0<=a)(h: ¬a<10):Lib.decDigits a.toNat=Lib.decDigits (a / 10).toNat++[(48:UInt8)+UInt8.ofNat (a%10).toNat]:=by
 rw[px (by omega),yo (by omega)];congr 2
 ·omega
 ·congr 2;omega
theorem Oe{a:Int}(ha:0<=a)(h:a<10):Lib.decDigits a.toNat=[(48:UInt8)+UInt8.ofNat (a%10).toNat]:=by
 rw[jN (by omega),yo (by omega)];congr 2;omega
theorem CC(n:Int)(hn:0<=n)(hM:n<=1125899906842624)(w:aw):
 ax av 42 #[I J n] w λe w'=>e=ay (V (qO n))/\M w w':=by
 have te:decide (n<0)=false:=by simpa using hn
 have hlen:=ua (n:=n) (by omega) (by omega);rw[fE (by omega)]at hlen;have wC:=O hlen;have FP:=O (show(qO n).data.toList=Lib.decDigits n.toNat by rw[ji,fE (by omega)]);clear hlen;go_enter func42,ntmps42;go_wp2_with fail
 go_loopw[0,3] (λi v wr=>∃(a:Int) (s:ByteArray),0<=a/\a<=1125899906842624/\i=I J a/\v=V s/\Lib.decDigits n.toNat=Lib.decDigits a.toNat++s.data.toList/\M w wr) (λi _ _=>(intOf i).toNat)
 case atStart=>exact⟨n,⟨#[]⟩,hn,hM,rfl,rfl,by simp,Ch.r _ _⟩
 case round=>
  obtain⟨a,s,ha,haM,rfl,rfl,hd,hC⟩:=hrel;have hs:s.size<=40:=by
   have h1:=congrArg List.length hd;rw[aL,fp]at h1;have:=wC.o;omega
  have CI:=O (hC.alloc (az #[I .u8 (48+a%10)] 5));have HD:=O hd;have GF:=Od wr (a%10) (by omega) (by omega);have Wx:IntKind.u8.wrap (48+a%10)=48+a%10:=IntWalk.u8_in _ ⟨by omega,by omega⟩;clear hC hd;by_cases Oi:a<10
  ·have t:(a / 10==0)=true:=by simp;omega
   have t':decide (a / 10=0)=true:=by simp;omega
   have HL:=O (Oe ha Oi);clear Oi;go_wp2_with fail;go_ret;refine⟨Gz (key_inj ?_),CI.o⟩;rw[FP.o,HD.o,HL.o,pq];rfl
  ·have t:(a / 10==0)=false:=by simp;omega
   have t':decide (a / 10=0)=false:=by simp;omega
   have h0:0<=a / 10:=by omega
   have hlt:(a / 10).toNat<a.toNat:=by omega
   have HL:=O (Ju ha Oi);clear Oi;go_wp2_with fail;refine⟨⟨a / 10,_,h0,by omega,rfl,rfl,?_,CI.o⟩,by simpa [intOf]using hlt⟩;rw[HD.o,HL.o,pq];simp
theorem CD(n:Int)(h0: -1125899906842624<=n)(h1:n<=1125899906842624)(w:aw):
 ax av 42 #[I J n] w λe w'=>e=ay (V (qO n))/\M w w':=by
 by_cases hn:0<=n
 ·exact CC n hn h1 w
 ·have HT:=O (λw=>CC (-n) (by omega) (by omega) w);have hl:decide (n<0)=true:=by simp;omega
  have hlen:=ua (n:= -n) (by omega) (by omega);have jh:(qO (-n)).size<=40:=by rw[<-fp,ji];omega
  have FP:=O (show(qO n).data.toList=45::(qO (-n)).data.toList by
   rw[ji,ji,eR (by omega),fE (by omega)];congr 2
   omega)
  generalize qO (-n)=au at *;clear hlen;go_enter func42,ntmps42;go_wp2_with fail;refine(HT.o _).mono ?_;rintro e w2 ⟨rfl,hN⟩;dsimp only;have HN:=O hN;clear hN;go_wp2_with fail;go_ret;refine⟨Gz (key_inj ?_),HN.o⟩;rw[FP.o,pq]
end Go.Proofs.YtmaimjajdbgmiaaGreatDoor.gK
namespace Go.Proofs.YtmaimjajdbgmiaaGreatDoor.gK
open Go.RowKit Go.Sort
theorem Jv(s:ByteArray):(s.extract 1 s.size).data.toList=s.data.toList.drop 1:=by
 simp[ByteArray.data_extract,List.extract];rw[List.take_of_length_le];have:=fp s;simp at this⊢
theorem kz{s:ByteArray}{v:Int}(h:kM s.data.toList v):lN s=v:=mz h
theorem vR(t:ByteArray)(k:Nat)(h:k<t.size):t.data.toList.take (k+1)=t.data.toList.take k++[t[k]]:=by
 rw[List.take_succ_eq_append_getElem (by simpa using h)];rfl
theorem yq(t:ByteArray)(k:Nat)(h:k<t.size):t[k]∈t.data.toList:=by
 have:t.data.toList[k]'(by simpa using h)=t[k]:=rfl;rw[<-this];exact List.getElem_mem _
theorem zX{s:ByteArray}{c:UInt8}{r:List UInt8}(h:s.data.toList=c::r)(hc:c.toNat=45):fF s.data.toList=r:=by
 rw[h];unfold fF;dsimp only;rw[if_pos hc]
theorem zY{s:ByteArray}{c:UInt8}{r:List UInt8}(h:s.data.toList=c::r)(hc: ¬c.toNat=45):fF s.data.toList=s.data.toList:=by
 rw[h];unfold fF;dsimp only;rw[if_neg hc]
structure Dg(t:ByteArray)(k:Nat)(N:Int):Prop where
 val:N=nP 0 (t.data.toList.take k)
 dig: ∀c∈t.data.toList.take k,si c
theorem Dg.bound{t:ByteArray}{k:Nat}{N:Int}(h:Dg t k N)(hk:k<=16):0<=N/\N<=9999999999999999/\(k<16->N<=999999999999999):=by
 have h1:=ub (t.data.toList.take k) 0 0 h.dig (by decide);rw[Nat.zero_add]at h1;have hl:(t.data.toList.take k).length<=k:=List.length_take_le _ _;have h2:(10:Nat) ^ (t.data.toList.take k).length<=10 ^ 16:=Nat.pow_le_pow_right (by decide) (by omega);have e16:(10:Nat) ^ 16=10000000000000000:=by decide
 have e15:(10:Nat) ^ 15=1000000000000000:=by decide
 have hv:=h.val;refine⟨by omega,by omega,λZM=>?_⟩;have h3:(10:Nat) ^ (t.data.toList.take k).length<=10 ^ 15:=Nat.pow_le_pow_right (by decide) (by omega);omega
theorem Dg.next{t:ByteArray}{k:Nat}{N:Int}(h:Dg t k N)(hk:k<t.size)(hd:si t[k]):Dg t (k+1) (N*10+((t[k].toNat:Int) -48)):=by
 refine⟨?_,λc hc=>?_⟩
 ·rw[vR t k hk,wV,h.val];unfold si at hd;omega
 ·rw[vR t k hk,List.mem_append,List.mem_singleton]at hc;rcases hc with hc|hc
  ·exact h.dig c hc
  ·rw[hc];exact hd
theorem Dg.zero(t:ByteArray):Dg t 0 0:=⟨rfl,by simp⟩
theorem CE{s t:ByteArray}{N:Int}(ht:t.data.toList=fF s.data.toList)(h:Dg t t.size N):spell s.data.toList=if t.size<s.size then-N else N:=by
 have hv:=h.val;rw[List.take_of_length_le (by rw[fp];omega),ht]at hv;unfold spell;rw[<-ht,fp,fp,ht, <-hv]
theorem EX(s:ByteArray)(hs:s.size<=1000)(w:aw):
 ax av 14 #[V s] w λe w'=>e=ay (I J (lN s))/\M w w':=by
 obtain⟨R,hR⟩:=bG (lN s);rw[hR];have HR:=O hR;clear hR;have hsI:(s.size:Int)<=1000:=by omega
 rcases Nat.eq_zero_or_pos s.size with h0|h0
 ·obtain rfl:=lu h0;have hr:R=0:=by rw[<-HR.o];exact kz (gL (.inl rfl))
  subst hr;clear h0 hs hsI;go_enter func14,ntmps14;go_wp2_with fail;go_ret;exact⟨rfl,Ch.r _ _⟩
 obtain⟨c,r,hcr⟩: ∃c r,s.data.toList=c::r:=by
  rcases hl:s.data.toList with _|⟨c,r⟩
  ·have:=fp s;rw[hl]at this;simp at this;omega
  ·exact⟨c,r,rfl⟩
 have hs0:s[0]=c:=by
  have h1:s.data.toList[0]?=G c:=by rw[hcr];rfl
  have h2:s.data.toList[0]?=G s[0]:=List.getElem?_eq_getElem (by simpa using h0);rw[h1]at h2;injection h2 with h2;exact h2.symm
 have hp:decide (0<(s.size:Int))=true:=by simp;omega
 have YJ:decide (0<s.size)=true:=by simpa using h0
 have HS0:=O hs0;have HCR:=O hcr;clear hs0 hcr;by_cases hc:c.toNat=45
 ·have hu:=zX HCR.o hc;have t0:(((s[0]'h0).toNat:Int)==45)=true:=by rw[HS0.o];simp;omega
  have HT:=O (show(s.extract 1 s.size).data.toList=fF s.data.toList by rw[hu,Jv,HCR.o];rfl);have jh:(s.extract 1 s.size).size=s.size-1:=by rw[<-fp,HT.o,hu, <-fp s,HCR.o];simp
  have Fu:(s.extract 1 s.size).size<s.size:=by omega
  clear hu hc jh;go_enter func14,ntmps14;go_upto_region 4 with(fail);generalize s.extract 1 s.size=t at *;rcases Nat.eq_zero_or_pos t.size with hz|hz
  ·have hr:R=0:=by rw[<-HR.o];refine kz (gL (.inl ?_));rw[<-HT.o];exact List.eq_nil_of_length_eq_zero (by rw[fp];exact hz)
   obtain rfl:=lu hz;subst hr;clear hz;go_wp2_with fail;go_ret;exact⟨rfl,Ch.r _ _⟩
  have z1:((t.size:Int)==0)=false:=by simp only[beq_eq_false_iff_ne];omega
  have z2:(t.size==0)=false:=by simp only[beq_eq_false_iff_ne];omega
  by_cases hl:16<t.size
  ·have hr:R=0:=by rw[<-HR.o];refine kz (gL (.inr ?_));rw[<-HT.o,fp];exact hl
   have l1:decide (16<(t.size:Int))=true:=by simp;omega
   have l2:decide (16<t.size)=true:=by simpa using hl
   subst hr;clear hl;go_wp2_with fail;go_ret;exact⟨rfl,Ch.r _ _⟩
  have l1:decide (16<(t.size:Int))=false:=by simp;omega
  have l2:decide (16<t.size)=false:=by simpa using hl
  have l3:(t.size:Int)<=16:=by omega
  clear hl;go_wp2_with fail
  go_loop[4,5] (λnv iv=>∃(k:Nat) (N:Int),k<=t.size/\iv=I J k/\nv=I J N/\Dg t k N) (λ_ iv=>t.size- (intOf iv).toNat)
  case atStart=>exact⟨0,0,by omega,rfl,rfl,Dg.zero _⟩
  case round=>
   obtain⟨k,N,hk,rfl,rfl,hD⟩:=hrel;obtain⟨b0,b1,b2⟩:=hD.bound (by omega);have HD:=O hD;clear hD;by_cases hlt:k<t.size
   ·have hN:=b2 (by omega);have HX:=O (HD.o.next hlt);have HM:=O (yq t k hlt);have qg6:(t[k].toNat:Int)<=255:=by have:=t[k].toNat_lt;omega
    clear b2;by_cases hd:si t[k]
    ·have HY:=O (HX.o hd);unfold si at hd;have d1:decide ((t[k].toNat:Int)<48)=false:=by simp;omega
     have d2:decide (57<(t[k].toNat:Int))=false:=by simp;omega
     have d3:48<=(t[k].toNat:Int):=by omega
     have d4:(t[k].toNat:Int)<=57:=by omega
     clear hd HX;go_wp2_with fail
     go_round
     case rel=>exact⟨k+1,_,by omega,by go_num,rfl,HY.o⟩
     case measure=>simp[intOf];omega
    ·have hr:R=0:=by rw[<-HR.o];exact kz (sq (c:=t[k]) (by rw[<-HT.o];exact HM.o) hd)
     subst hr;by_cases Sd:(t[k].toNat:Int)<48
     ·have d1:decide ((t[k].toNat:Int)<48)=true:=by simpa using Sd
      clear hd Sd HX;go_wp2_with fail;go_ret;exact⟨rfl,Ch.r _ _⟩
     ·have d1:decide ((t[k].toNat:Int)<48)=false:=by simpa using Sd
      have d2:decide (57<(t[k].toNat:Int))=true:=by unfold si at hd;simp;omega
      clear hd Sd HX;go_wp2_with fail;go_ret;exact⟨rfl,Ch.r _ _⟩
   ·obtain rfl:k=t.size:=by omega
    have Kx:=CE HT.o HD.o;have HV:=O (kz (E5 s.data.toList));rw[if_pos Fu]at Kx;have tl1:decide ((t.size:Int)<(s.size:Int))=true:=by simp;omega
    have tl2:decide (t.size<s.size)=true:=by simpa using Fu
    have GO:=O Kx;clear hlt Kx b2 hk;have v0: -9999999999999999<= -N:=by omega
    have v1: -N<=0:=by omega
    go_upto_region 15 with(fail);generalize-N=ah at *;clear b0 b1 HD;by_cases m1:ah< -1125899906842624
    ·have hr:R=0:=by rw[<-HR.o,HV.o,GO.o,if_neg (by omega)]
     have e1:decide (ah< -1125899906842624)=true:=by simpa using m1
     subst hr;clear m1;go_wp2_with fail;go_ret;exact⟨rfl,Ch.r _ _⟩
    have e1:decide (ah< -1125899906842624)=false:=by simpa using m1
    by_cases m2:1125899906842624<ah
    ·have hr:R=0:=by rw[<-HR.o,HV.o,GO.o,if_neg (by omega)]
     have e2:decide (1125899906842624<ah)=true:=by simpa using m2
     subst hr;clear m1 m2;go_wp2_with fail;go_ret;exact⟨rfl,Ch.r _ _⟩
    have e2:decide (1125899906842624<ah)=false:=by simpa using m2
    have FP:=O (λw=>CD ah (by omega) (by omega) w);have SY:=O (D9 ah s);have Zv:=O (show-1125899906842624<=ah/\ah<=1125899906842624 from⟨by omega,by omega⟩);generalize qO ah=aq at *;clear m1 m2;by_cases q:aq.toList=s.toList
    ·have q0:(aq.toList==s.toList)=true:=by simpa using q
     have q1:(aq.toList !=s.toList)=false:=by simpa using q
     have hr:R=ah:=by rw[<-HR.o,HV.o,GO.o,if_pos ⟨Zv.o.1,Zv.o.2,SY.o.1 q⟩]
     subst hr;clear q;go_wp2_with fail;refine(FP.o _).mono ?_;rintro e w2 ⟨rfl,hN⟩;dsimp only;have HN:=O hN;clear hN;go_wp2_with fail;go_ret;exact⟨rfl,HN.o⟩
    ·have q0:(aq.toList==s.toList)=false:=by simpa using q
     have q1:(aq.toList !=s.toList)=true:=by simpa using q
     have hr:R=0:=by rw[<-HR.o,HV.o,GO.o,if_neg (λh=>q (SY.o.2 h.2.2))]
     subst hr;clear q;go_wp2_with fail;refine(FP.o _).mono ?_;rintro e w2 ⟨rfl,hN⟩;dsimp only;have HN:=O hN;clear hN;go_wp2_with fail;go_ret;exact⟨rfl,HN.o⟩
 ·have hu:=zY HCR.o hc;have t0:(((s[0]'h0).toNat:Int)==45)=false:=by rw[HS0.o];simp;omega
  have HT:=O (show s.data.toList=fF s.data.toList from hu.symm);clear hu hc;go_enter func14,ntmps14;rcases Nat.eq_zero_or_pos s.size with hz|hz
  ·omega
  have z1:((s.size:Int)==0)=false:=by simp only[beq_eq_false_iff_ne];omega
  have z2:(s.size==0)=false:=by simp only[beq_eq_false_iff_ne];omega
  by_cases hl:16<s.size
  ·have hr:R=0:=by rw[<-HR.o];refine kz (gL (.inr ?_));rw[<-HT.o,fp];exact hl
   have l1:decide (16<(s.size:Int))=true:=by simp;omega
   have l2:decide (16<s.size)=true:=by simpa using hl
   subst hr;clear hl;go_wp2_with fail;go_ret;exact⟨rfl,Ch.r _ _⟩
  have l1:decide (16<(s.size:Int))=false:=by simp;omega
  have l2:decide (16<s.size)=false:=by simpa using hl
  have l3:(s.size:Int)<=16:=by omega
  clear hl;go_wp2_with fail
  go_loop[4,5] (λnv iv=>∃(k:Nat) (N:Int),k<=s.size/\iv=I J k/\nv=I J N/\Dg s k N) (λ_ iv=>s.size- (intOf iv).toNat)
  case atStart=>exact⟨0,0,by omega,rfl,rfl,Dg.zero _⟩
  case round=>
   obtain⟨k,N,hk,rfl,rfl,hD⟩:=hrel;obtain⟨b0,b1,b2⟩:=hD.bound (by omega);have HD:=O hD;clear hD;by_cases hlt:k<s.size
   ·have hN:=b2 (by omega);have HX:=O (HD.o.next hlt);have HM:=O (yq s k hlt);have qg6:(s[k].toNat:Int)<=255:=by have:=s[k].toNat_lt;omega
    clear b2;by_cases hd:si s[k]
    ·have HY:=O (HX.o hd);unfold si at hd;have d1:decide ((s[k].toNat:Int)<48)=false:=by simp;omega
     have d2:decide (57<(s[k].toNat:Int))=false:=by simp;omega
     have d3:48<=(s[k].toNat:Int):=by omega
     have d4:(s[k].toNat:Int)<=57:=by omega
     clear hd HX;go_wp2_with fail
     go_round
     case rel=>exact⟨k+1,_,by omega,by go_num,rfl,HY.o⟩
     case measure=>simp[intOf];omega
    ·have hr:R=0:=by rw[<-HR.o];exact kz (sq (c:=s[k]) (by rw[<-HT.o];exact HM.o) hd)
     subst hr;by_cases Sd:(s[k].toNat:Int)<48
     ·have d1:decide ((s[k].toNat:Int)<48)=true:=by simpa using Sd
      clear hd Sd HX;go_wp2_with fail;go_ret;exact⟨rfl,Ch.r _ _⟩
     ·have d1:decide ((s[k].toNat:Int)<48)=false:=by simpa using Sd
      have d2:decide (57<(s[k].toNat:Int))=true:=by unfold si at hd;simp;omega
      clear hd Sd HX;go_wp2_with fail;go_ret;exact⟨rfl,Ch.r _ _⟩
   ·obtain rfl:k=s.size:=by omega
    have Kx:=CE HT.o HD.o;have HV:=O (kz (E5 s.data.toList));rw[if_neg (by omega)]at Kx;have GO:=O Kx;clear hlt Kx b2 hk;have v0:(0:Int)<=N:=b0;have v1:N<=9999999999999999:=b1;by_cases m1:N< -1125899906842624
    ·have hr:R=0:=by rw[<-HR.o,HV.o,GO.o,if_neg (by omega)]
     have e1:decide (N< -1125899906842624)=true:=by simpa using m1
     subst hr;clear m1;go_wp2_with fail;go_ret;exact⟨rfl,Ch.r _ _⟩
    have e1:decide (N< -1125899906842624)=false:=by simpa using m1
    by_cases m2:1125899906842624<N
    ·have hr:R=0:=by rw[<-HR.o,HV.o,GO.o,if_neg (by omega)]
     have e2:decide (1125899906842624<N)=true:=by simpa using m2
     subst hr;clear m1 m2;go_wp2_with fail;go_ret;exact⟨rfl,Ch.r _ _⟩
    have e2:decide (1125899906842624<N)=false:=by simpa using m2
    have FP:=O (λw=>CD N (by omega) (by omega) w);have SY:=O (D9 N s);have Zv:=O (show-1125899906842624<=N/\N<=1125899906842624 from⟨by omega,by omega⟩);generalize qO N=aq at *;clear m1 m2;by_cases q:aq.toList=s.toList
    ·have q0:(aq.toList==s.toList)=true:=by simpa using q
     have q1:(aq.toList !=s.toList)=false:=by simpa using q
     have hr:R=N:=by rw[<-HR.o,HV.o,GO.o,if_pos ⟨Zv.o.1,Zv.o.2,SY.o.1 q⟩]
     subst hr;clear q;go_wp2_with fail;refine(FP.o _).mono ?_;rintro e w2 ⟨rfl,hN⟩;dsimp only;have HN:=O hN;clear hN;go_wp2_with fail;go_ret;exact⟨rfl,HN.o⟩
    ·have q0:(aq.toList==s.toList)=false:=by simpa using q
     have q1:(aq.toList !=s.toList)=true:=by simpa using q
     have hr:R=0:=by rw[<-HR.o,HV.o,GO.o,if_neg (λh=>q (SY.o.2 h.2.2))]
     subst hr;clear q;go_wp2_with fail;refine(FP.o _).mono ?_;rintro e w2 ⟨rfl,hN⟩;dsimp only;have HN:=O hN;clear hN;go_wp2_with fail;go_ret;exact⟨rfl,HN.o⟩
end Go.Proofs.YtmaimjajdbgmiaaGreatDoor.gK
