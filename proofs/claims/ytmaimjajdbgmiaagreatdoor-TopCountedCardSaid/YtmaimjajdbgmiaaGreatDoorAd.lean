import Derived.Deep.Slices
import Derived.Deep.Fields
import Derived.Shelf.SlSorted.Search
import Derived.Maps.Own
import Derived.Maps.OwnOps
import Derived.Maps.Views
import Derived.WalkSmall
import Derived.Lib.TrailingZeros
import Derived.Ground.Names7Prog
import Derived.Shelf.Spec.TrailingZeros
import Derived.StillTailTactics
import Derived.Test.YtmaimjajdbgmiaaGreatDoorAc
set_option linter.unusedVariables false
set_option linter.unusedSimpArgs false
set_option maxRecDepth 100000
set_option maxHeartbeats 0
open Go.Value renaming int→I,string→V,pointer→X,bool→Y,slice→T,tuple→aB,agg→aC
open Go.IntKind renaming i64→J
open Option renaming none→U,some→G
open Go renaming World→aw,Calls→ax
open Go.Ending renaming returned→ay
open Go.Obj renaming cells→az
open List renaming length_append→aL,length_singleton→aM
open Nat renaming le_refl→aN,le_trans→aO,lt_of_lt_of_le→aP
open Go.Proofs.Tryz
open Go.Proofs.Tryz renaming prog→av
namespace Go.Proofs.YtmaimjajdbgmiaaGreatDoor.Cells
open Go.RowKit
structure kh where
 t:Int
 val:ByteArray
 has:Bool
deriving DecidableEq
def eS(l:List kh):List Value:=l.flatMap λv=>[I J v.t,V v.val,Y v.has]
theorem G9(l:List kh):(eS l).length=l.length*3:=pB (m:=3) (λ_ _=>rfl)
theorem ja(l:List kh)(v:kh):eS (l++[v])=eS l++[I J v.t,V v.val,Y v.has]:=by simp[eS]
theorem Ha(l:List kh){i:Nat}{v:kh}(h:l[i]?=G v):(eS l)[i*3]?=G (I J v.t)/\(eS l)[i*3+1]?=G (V v.val)/\(eS l)[i*3+2]?=G (Y v.has):=by
 refine⟨?_,?_,?_⟩
 ·have:=eI (f:=λv:kh=>[I J v.t,V v.val,Y v.has]) (m:=3) (λ_ _=>rfl) h (j:=0) (by omega);simpa [eS]using this
 ·have:=eI (f:=λv:kh=>[I J v.t,V v.val,Y v.has]) (m:=3) (λ_ _=>rfl) h (j:=1) (by omega);simpa [eS]using this
 ·have:=eI (f:=λv:kh=>[I J v.t,V v.val,Y v.has]) (m:=3) (λ_ _=>rfl) h (j:=2) (by omega);simpa [eS]using this
theorem Dv(l:List kh)(k:Nat):(eS l).take (k*3)=eS (l.take k):=by
 induction k generalizing l with
 |zero=>simp[eS]
 |succ k ih=>
  cases l with
  |nil=>simp[eS]
  |cons x r=>
   have h1:eS (x::r)=I J x.t::V x.val::Y x.has::eS r:=by simp[eS]
   have h2:eS (x::r.take k)=I J x.t::V x.val::Y x.has::eS (r.take k):=by simp[eS]
   rw[List.take_succ_cons,h1,h2, <-ih r,Nat.add_mul,Nat.one_mul];rfl
def Hb(l:List kh)(m:Int):Nat:=l.countP λv=>decide (v.t<=m)
theorem T8(l:List kh)(m:Int):Hb l m<=l.length:=List.countP_le_length
def valOf(l:List kh)(m:Int):ByteArray×Bool:=if Hb l m=0 then(ByteArray.empty,false)else match l[Hb l m-1]? with
 |some v=>(v.val,v.has)
 |none=>(ByteArray.empty,false)
def Xx(o:Option kh)(k:Nat)(m:Int):Nat:=match o with
 |some v=>if v.has=false/\v.t<=m then k+1 else k
 |none=>k
def qh2(l:List kh)(m:Int):Nat:=Xx l[Hb l m-1]? (Hb l m-1) m
theorem pQ{α:Type}(p:α->Bool): ∀(l:List α) (q:Nat->Bool),(∀i v,l[i]?=G v->q i=p v)->(List.range l.length).countP q=l.countP p
 |[],q,h=>rfl
 |x::r,q,h=>by
  rw[List.length_cons,List.range_succ_eq_map,List.countP_cons,List.countP_cons,List.countP_map,h 0 x rfl];rw[pQ p r (q∘Nat.succ) (λi v hv=>h (i+1) v (by simpa using hv))]
structure CS where
 f:List UInt8->List kh
 last:Int
 floor:Int
def cX:Int:=1099511627776
def nW(f:List UInt8->List kh)(k:List UInt8)(l:List kh):List UInt8->List kh:=λj=>if j=k then l else f j
def cutAt(l:List kh)(m:Int):List kh:=match l.getLast? with
 |some v=>if v.t=m then l.dropLast else l
 |none=>l
def ux(s:CS)(k v:ByteArray)(m:Int):Int:=if 16<k.size\/32<v.size\/m<0\/cX<m then 1 else if m<s.last\/m<=s.floor then 5 else 0
def kE(v:ByteArray)(has:Bool)(m:Int):kh:=⟨m,if has then v else⟨#[]⟩,has⟩
def gY(s:CS)(k v:ByteArray)(has:Bool)(m:Int):CS:=if ux s k v m=0 then{s with f:=nW s.f k.data.toList (cutAt (s.f k.data.toList) m++[kE v has m]),last:=m}else s
structure Good(s:CS):Prop where
 Dw: ∀k,(s.f k).Pairwise λa b=>a.t<b.t
 ZO: ∀k,∀v∈s.f k,0<=v.t/\v.t<=s.last
 l0:0<=s.last
 l1:s.last<=cX
 f0:0<=s.floor
 f1:s.floor<=cX
def qY:CS:=⟨λ_=>[],0,0⟩
theorem Dx:Good qY:=⟨λ_=>List.Pairwise.nil,λ_ _ h=>by simp[qY]at h,Int.le_refl 0,by simp[qY,cX],Int.le_refl 0,by simp[qY,cX]⟩
end Go.Proofs.YtmaimjajdbgmiaaGreatDoor.Cells
namespace Go.Proofs.YtmaimjajdbgmiaaGreatDoor
open Go.ChangeShapes Go.Deep Go.RowKit Go.WideShapes
section
variable{H:Type}{enc:TypeId×Value->H}{P:Program}{w:aw}{base:Nat}{spare:Nat->Bool}{held:Bool}
theorem kr{t e:TypeId}{fs:Array Field}{fuel:Nat}{cs:List Value}{x:DataW H×List MemPlace}(ht:P.underlying t=G (.slice e))(he:P.underlying e=G (.struct fs))
 (T5:oneCellFields P fs=true) (hC:P.cellsOf e=fs.size) (h:DataW.trod enc P w base spare held fuel t cs=G x):
 (cs=[.slice U 0 0]/\x=(.nil,[]))\/
 ∃(a:Addr) (len cap m:Nat) (D:Nat->DataW H) (Pl:Nat->List MemPlace),cs=[.slice (G a) len cap]/\base<=a.block/\len<=cap/\cap<=maxLen/\m=(if spare a.block then cap else len)/\
  x=(.slice ((List.range len).map D) ((List.range (m-len)).map λj=>D (len+j)),MemPlace.row a (m*fs.size)++(List.range m).flatMap Pl)/\
  ∀i,i<m->∃(ys:List (DataW H×List MemPlace)) (n:Nat),D i= .agg (ys.map (·.1))/\Pl i=ys.flatMap (·.2)/\ys.length=fs.size/\
   ∀(j:Nat) (f:Field),fs[j]?=G f->∃(v:Value) (y:DataW H×List MemPlace),w.cell? (a.add (i*fs.size+j))=G v/\ys[j]?=G y/\DataW.trod enc P w base spare held n f.type [v]=G y:=by
 rcases open_slice ht h with h0|⟨a,len,cap,m,n,D,Pl,uy,hb,hl,hm,Hc,hx,hi⟩
 ·exact .inl h0
 ·refine .inr ⟨a,len,cap,m,D,Pl,uy,hb,hl,hm,Hc,by rw[hC]at hx;exact hx,λi him=>?_⟩;obtain⟨E6,hc,Fm⟩:=hi i him;rw[hC]at hc;obtain⟨ys,n',Sx,hy,hlen,hyl,hf⟩:=DataW.trod_struct he Fm;obtain⟨_,xo,hat⟩:=World.cells?_some hc;simp only[Prod.mk.injEq]at hy;refine⟨ys,n',hy.1,hy.2,hyl,λj f hj=>?_⟩;obtain⟨ho,hk⟩:=hone_of T5 j f hj;have PC:j<fs.size:=(Array.getElem?_eq_some_iff.1 hj).1;have mD:=hat j PC;have hv:E6[j]?=G (E6[j]'(by omega)):=List.getElem?_eq_getElem (by omega);have h1:=hf j f hj;rw[ho,hk]at h1;have Xy:(E6.drop j).take 1=[E6[j]'(by omega)]:=by
   rw[List.drop_eq_getElem_cons (by omega)];rfl
  rw[Xy]at h1;have hys:ys[j]?=G (ys[j]'(by omega)):=List.getElem?_eq_getElem (by omega);refine⟨_,_,?_,hys,h1.trans hys⟩;rw[<-Go.Deep.add_add,mD,hv]
end
def qb0:Value->Bool
 | .bool b=>b
 |_=>false
theorem yK(b off i:Nat):(⟨b,off,U⟩:Addr).add i=⟨b,off+i,U⟩:=by
 unfold Addr.add;split<;>simp_all
theorem yL{w:aw}{a:Addr}{v:Value}(h:w.cell? (a.add 0)=G v): ∃b off,a=⟨b,off,U⟩:=by
 obtain⟨b,o,s⟩:=a;have hs:s=U:=by simpa [Addr.add]using World.cell?_spot h
 exact⟨b,o,by rw[hs]⟩
theorem block_lt_of_cell{w:aw}{b o:Nat}{s:Option Nat}{v:Value}(h:w.cell? ⟨b,o,s⟩=G v):b<w.heap.size:=by
 unfold World.cell? at h;split at h
 ·rename_i c e f hb;exact lt_of_block hb
 ·cases h
def Ints(q:IntKind)(w:aw)(A:Option Addr)(n:Nat)(zs:List Int):Prop:=
 zs.length=n/\n<=maxLen/\(∀x∈zs,(Lit.int q x).wf=true)/\
   (0<n->∃b off,A=G ⟨b,off,U⟩/\b<w.heap.size/\∀i x,zs[i]?=G x->w.cell? ⟨b,off+i,U⟩=G (.int q x))
section
variable{H:Type}{enc:TypeId×Value->H}{P:Program}{w:aw}{base:Nat}{spare:Nat->Bool}{held:Bool}
end
end Go.Proofs.YtmaimjajdbgmiaaGreatDoor
namespace Go.Proofs
open Go.Shelf
def Tryz.AK:Go.Shelf.Ren:=⟨λ |16=>76|n=>n,λ |3=>3|35=>82|4=>4|38=>204|n=>n,λ |n=>n⟩
theorem Tryz.Fo:Go.Proofs.SlLaysO.n16 av Tryz.AK:={
 mixed:=by kernel_rfl
 f16:=func76.trans (congrArg G (by kernel_rfl))
 t3:=underlying3
 a3:=Tryz.isAgg3
 z3:=Tryz.sizeOf3
 v3:=Tryz.zeroValue3
 t4:=underlying4
 a4:=Tryz.isAgg4
 z4:=Tryz.sizeOf4
 v4:=Tryz.zeroValue4
 t35:=underlying82
 a35:=Tryz.isAgg82
 z35:=Tryz.sizeOf82
 v35:=Tryz.zeroValue82
 t38:=underlying204
 a38:=Tryz.isAgg204
 z38:=Tryz.sizeOf204
 v38:=Tryz.zeroValue204}
end Go.Proofs
namespace Go.Proofs.YtmaimjajdbgmiaaGreatDoor.Cells
open Go.RowKit Go.Sort Go.Shelf
def Sy(w:aw)(A:Option Addr)(l:List kh):Prop:=l≠[]->∃g off,A=G ⟨g,off,U⟩/\∀i v,l[i]?=G v->
 w.cell? ⟨g,off+i*3,U⟩=G (I J v.t)/\w.cell? ⟨g,off+i*3+1,U⟩=G (V v.val)/\w.cell? ⟨g,off+i*3+2,U⟩=G (Y v.has)
theorem Sy.aR{w w':aw}{A:Option Addr}{l:List kh}(h:Sy w A l)(hc:M w w'):Sy w' A l:=λhl=>by
 obtain⟨g,off,hA,hh⟩:=h hl;refine⟨g,off,hA,λi v hv=>?_⟩;obtain⟨h0,h1,h2⟩:=hh i v hv;exact⟨eJ hc h0,eJ hc h1,eJ hc h2⟩
theorem Sy.at_{w:aw}{A:Option Addr}{l:List kh}(h:Sy w A l){i:Nat}{v:kh}(hv:l[i]?=G v): ∃g off,A=G ⟨g,off,U⟩/\
 w.cell? ⟨g,off+i*3,U⟩=G (I J v.t)/\w.cell? ⟨g,off+i*3+1,U⟩=G (V v.val)/\w.cell? ⟨g,off+i*3+2,U⟩=G (Y v.has):=by
 obtain⟨g,off,hA,hh⟩:=h (λe=>by subst e;simp at hv);exact⟨g,off,hA,hh i v hv⟩
theorem PD(lb ab g off n cap:Nat)(t m:Int)(i:Nat)(W:aw)(hi:i<n)
 (ha:W.cell? ⟨lb,0,U⟩=G (T (G ⟨g,off,U⟩) n cap)) (hx:W.cell? ⟨ab,0,U⟩=G (I J m)) (hc:W.cell? ⟨g,off+i*3,U⟩=G (I J t)):
 ax av 265 (#[I J i]++#[X (G ⟨lb,0,U⟩),X (G ⟨ab,0,U⟩)]) W λe w'=>e=ay (Y (decide (m<t)))/\∃q,w'=W.drewN q:=by
 have hiz:(i:Int)<(n:Int):=by omega
 go_enter func265,ntmps265
 go_wp2
 go_region
 all_goals go_wp2
 all_goals go_ret
 all_goals exact⟨by first|rfl|simp,1,rfl⟩
def qZ(l:List kh)(m:Int)(i:Nat):Bool:=match l[i]? with
 |some v=>decide (m<v.t)
 |none=>false
theorem T9(A:Option Addr)(cap:Nat)(l:List kh)(m:Int)(w:aw)(h:Sy w A l)(hr:l.Pairwise λa b=>a.t<b.t)(hlen:l.length<=1000000):
 ax av 197 #[T A l.length cap,I J m] w λe w'=>e=ay (I J (Hb l m:Nat))/\M w w':=by
 obtain⟨W0,JH⟩: ∃W0,W0=(w.alloc (az #[T A l.length cap] 206)).alloc (az #[I J m] 3):=⟨_,rfl⟩;have te:M w W0:=by rw[JH];exact((Ch.r _ w).alloc _).alloc _
 have ca:W0.cell? ⟨w.heap.size,0,U⟩=G (T A l.length cap):=by
  rw[JH,World.cell?_alloc_lt _ _ _ (by simp),(aX.new w 206 #[T A l.length cap]).c];rfl
 have cx:W0.cell? ⟨w.heap.size+1,0,U⟩=G (I J m):=by
  rw[JH];have:=(aX.new (w.alloc (az #[T A l.length cap] 206)) 3 #[I J m]).c 0;rwa[World.size_alloc]at this
 have eg: ∀args w,(callFunc 265 args).run av w= .ok (.enter 265 args) w:=enters_of func265 (by kernel_rfl) rfl;have hS:=Any.sort_Search Tryz.Fo 265 #[X (G ⟨w.heap.size,0,U⟩),X (G ⟨w.heap.size+1,0,U⟩)] l.length (qZ l m) W0 eg (by omega)
  (λk os i hi=>by
    obtain⟨v,hv⟩:=bh hi;obtain⟨g,off,rfl,c0,_,_⟩:=(h.aR te).at_ hv;have hl:qZ l m i=decide (m<v.t):=by unfold qZ;rw[hv]
    rw[hl];exact(PD w.heap.size (w.heap.size+1) g off l.length cap v.t m i _ hi (cell_grown (block_lt_of_cell ca) ca k os) (cell_grown (block_lt_of_cell cx) cx k os) (cell_grown (block_lt_of_cell c0) c0 k os)).mono
     λ_ _ ⟨he,q,hq⟩=>⟨he,q,#[],by rw[hq,grow_empty]⟩)
  (λa b Dy hb hp=>by
    obtain⟨v,hv⟩:=bh (Nat.lt_of_le_of_lt Dy hb);obtain⟨u,hu⟩:=bh hb;unfold qZ at hp⊢;rw[hv]at hp;rw[hu];simp at hp⊢;rcases Nat.eq_or_lt_of_le Dy with e|e
    ·subst e;rw[hv]at hu;injection hu with hu;rw[<-hu];exact hp
    ·have h1:=List.pairwise_iff_getElem.1 hr a b (bf hv) (bf hu) e;rw[List.getElem?_eq_getElem (bf hv)]at hv;rw[List.getElem?_eq_getElem (bf hu)]at hu;injection hv with hv;injection hu with hu;rw[hv,hu]at h1;omega)
 have KM:(List.range l.length).countP (λi=> !qZ l m i)=Hb l m:=pQ _ l _ λi v hv=>by
  unfold qZ;rw[hv];simp[<-decide_not,Int.not_lt]
 rw[KM]at hS;change ax av 76 _ _ _ at hS;clear ca cx KM h;generalize Hb l m=r at hS⊢;generalize l.length=n at *;have HN:=O te;clear te;go_enter func197,ntmps197;go_wp2_with(go_at_call 76;rw[<-JH];refine hS.mono ?_;rintro e w' ⟨rfl,q,os,rfl⟩);go_ret;refine⟨rfl,?_⟩;rw[<-JH];exact HN.o.t (Ch.mA (below_grown_sl W0.heap.size W0 q os (aN _)) (λk hk _=>hk))
theorem Hd(A:Option Addr)(cap:Nat)(l:List kh)(m:Int)(w:aw)(h:Sy w A l)(hr:l.Pairwise λa b=>a.t<b.t)(hlen:l.length<=1000000):
 ax av 127 #[T A l.length cap,I J m] w λe w'=>e=ay (aB #[V (valOf l m).1,Y (valOf l m).2])/\M w w':=by
 have hu:=O (T9 A cap l m w h hr hlen);have hle:=T8 l m;by_cases h0:Hb l m=0
 ·have hv:valOf l m=(ByteArray.empty,false):=by unfold valOf;rw[if_pos h0]
  rw[hv];rw[h0]at hu;clear hv h0 h hle;go_enter func127,ntmps127;go_wp2_with(go_at_call 197;refine hu.o.mono ?_;rintro e w2 ⟨rfl,hN⟩;have HN:=O hN;clear hN);go_ret2;exact⟨rfl,HN.o⟩
 ·obtain⟨k,hk⟩: ∃k,Hb l m=k+1:=⟨Hb l m-1,by omega⟩;obtain⟨v,hv⟩:=bh (L:=l) (i:=k) (by omega);have he:valOf l m=(v.val,v.has):=by unfold valOf;rw[if_neg h0,hk,Nat.add_sub_cancel,hv]
  rw[he];rw[hk]at hu;obtain⟨g,off,rfl,c0,c1,c2⟩:=h.at_ hv;have Dz:k<l.length:=bf hv;have jq:(k:Int)<(l.length:Int):=by omega
  have HD:=O (And.intro c1 c2);have bT:IntKind.i64.wrap ((k:Int)+1-1)=(k:Int):=by rw[Int.add_sub_cancel];exact IntWalk.i64_in _ (by omega)
  have ew:IntKind.i64.wrap (((k+1:Nat):Int) -1)=(k:Int):=by rw[show(((k+1:Nat):Int) -1)=k by omega];exact IntWalk.i64_in _ (by omega)
  have yM:(0:Int)<=(k:Int):=by omega
  have hd:(((k+1:Nat):Int)==0)=false:=by simp;omega
  clear he h0 h hk hv hle c0 c1 c2;obtain⟨vt,vv,vh⟩:=v;simp only at HD⊢;generalize l.length=n at *;go_enter func127,ntmps127;go_wp2_with(go_at_call 197;refine hu.o.mono ?_;rintro e w2 ⟨rfl,hN⟩;obtain⟨q1,q2⟩:=HD.o;have d1:=eJ hN q1;have d2:=eJ hN q2;have HN:=O hN;clear hN q1 q2)
  go_quiet(fail)
  go_wp2_with fail;go_ret2;exact⟨rfl,HN.o.drewN _⟩
theorem oQ(m:Int)(w:aw):ax av 240 #[I J m] w λe w'=>e=ay (Y (decide (0<=m)&&decide (m<=1099511627776)))/\w=w':=by
 by_cases h:0<=m
 ·have hd:decide (0<=m)=true:=by simpa using h
  rw[hd,Bool.true_and];clear h;go_enter func240,ntmps240
  go_wp2
  go_ret;exact⟨rfl,rfl⟩
 ·have hd:decide (0<=m)=false:=by simpa using h
  rw[hd,Bool.false_and];clear h;go_enter func240,ntmps240
  go_wp2
  go_ret;exact⟨rfl,rfl⟩
end Go.Proofs.YtmaimjajdbgmiaaGreatDoor.Cells
namespace Go.Proofs.YtmaimjajdbgmiaaGreatDoor
open Go.Lib Go.Maps Go.RowKit
def IMap(P:Program)(K E:TypeId)(w:aw)(b n:Nat)(D:DataW Unit)(f:Int->Int):Prop:=
 w.ownsMap P K (plainElem P E) b n D/\IsMap D/\∀x,D.atKey (.int .i64 x) (.lit (.int .i64 0))= .lit (.int .i64 (f x))
section
variable{P:Program}{K E:TypeId}{w w':aw}{b n:Nat}{D:DataW Unit}{f:Int->Int}
end
end Go.Proofs.YtmaimjajdbgmiaaGreatDoor
namespace Go.Proofs.YtmaimjajdbgmiaaGreatDoor.Cells
open Go.RowKit Go.Maps
section
variable{H:Type}{P:Program}{K E:TypeId}{w w':aw}{b n:Nat}{D:DataW H}{R:Value->Option (DataW H×List MemPlace)}
theorem yN{S:Nat->Prop}(h:w.ownsMap P K R b n D)(hc:Ch S w w')(hb: ¬S b):w'.ownsMap P K R b n D:=by
 have hlt:=h.lt;obtain⟨es,clock,Sz,F,hs,hD⟩:=h;exact⟨es,clock,(hc.block b hlt hb).trans Sz,F,hs,hD⟩
theorem tK{g:Nat}{t:TypeId}{cs:Array Value}(h:w.ownsMap P K R b n D)(hg:aX w g t cs):b≠g:=by
 rintro rfl;obtain⟨es,clock,Sz,_⟩:=h;unfold aX at hg;rw[hg]at Sz;cases Sz
theorem yO{base:Nat}{e:TypeId}{size m:Nat}{v:Value}{xs:List Value}(h:w.ownsMap P K R b n D)(hv:w.ownsRow base e size v m xs):v.ownBlock≠G b:=by
 rcases hv.2 with⟨rfl,_⟩|⟨g',cap,cur,rfl,_,hh,_⟩
 ·simp[Value.ownBlock]
 ·intro he;have:g'=b:=by simpa [Value.ownBlock]using he
  subst this;exact tK (g:=g') (t:=e) h hh rfl
end
def RH(v:Value):Option (DataW Value×List MemPlace):=G (.held v,[])
def He:Value:=.slice U 0 0
theorem oT:Keyed av 9:=string_keyed underlying9
theorem PE(w:aw):(zeroValue 206).run av w= .ok He w:=by kernel_rfl
structure CM(w:aw)(B cb mb n:Nat)(D:DataW Value)(ah:List UInt8->Value)(s:CS):Prop where
 aW:aX w cb 178 #[.map (G mb),.int .i64 s.last,.int .i64 s.floor]
 map:w.ownsMap av 9 RH mb n D
 at_: ∀k,D.atKey (.string k) (.held He)= .held (ah k)
 row: ∀k,w.ownsRow B 273 3 (ah k) (s.f k).length (eS (s.f k))
 has: ∀k,Maps.has D (.string k)=true↔s.f k≠[]
 apart: ∀k k' g,k≠k'->(ah k).ownBlock=G g->(ah k').ownBlock≠G g
 cB:B<=cb
 mB:B<=mb
def ox(cb mb:Nat)(ah:List UInt8->Value)(g:Nat):Prop:=g=cb\/g=mb\/∃k,(ah k).ownBlock=G g
def CP(B cb mb n:Nat)(ah:List UInt8->Value)(s:CS)(w w':aw):Prop:=
 ∃D' V',CM w' B cb mb n D' V' s/\Ch (ox cb mb ah) w w'/\∀k g,(V' k).ownBlock=G g->(∃k',(ah k').ownBlock=G g)\/w.heap.size<=g
theorem yP{w:aw}{B:Nat}{A:Option Addr}{c:Nat}{l:List kh}(h:w.ownsRow B 273 3 (.slice A l.length c) l.length (eS l)):Sy w A l:=λhl=>by
 have J1:0<l.length:=by cases l;exact absurd rfl hl;simp
 obtain⟨g,cap,hv,hg,_⟩:=h.form J1;injection hv with hA hn hq;subst hA;refine⟨g,0,rfl,λi v hv=>?_⟩;obtain⟨h0,h1,h2⟩:=Ha l hv;have a:=h.cells (g:=g) rfl _ _ h0;have b:=h.cells (g:=g) rfl _ _ h1;have d:=h.cells (g:=g) rfl _ _ h2;rw[yK]at a b d;exact⟨a,b,d⟩
theorem ra{w:aw}{B size n:Nat}{e:TypeId}{v:Value}{xs:List Value}(h:w.ownsRow B e size v n xs){g:Nat}(hg:v.ownBlock=G g):B<=g/\g<w.heap.size:=by
 rcases h.2 with⟨rfl,_⟩|⟨g',cap,cur,rfl,hB,hh,_⟩
 ·simp[Value.ownBlock]at hg
 ·simp[Value.ownBlock]at hg;subst hg;exact⟨hB,aX.lt hh⟩
section
variable{w w':aw}{B cb mb n:Nat}{D:DataW Value}{ah:List UInt8->Value}{s:CS}
theorem CM.isMap(h:CM w B cb mb n D ah s):IsMap D:=by
 obtain⟨es,clock,_,_,_,rfl⟩:=h.map;exact⟨_,rfl⟩
theorem CM.ne(h:CM w B cb mb n D ah s):mb≠cb:=tK h.map h.aW
theorem CM.ch{S:Nat->Prop}(h:CM w B cb mb n D ah s)(hc:Ch S w w')(hS: ∀g,ox cb mb ah g->¬S g):CM w' B cb mb n D ah s:=
 ⟨h.aW.ch hc (hS _ (.inl rfl)),yN h.map hc (hS _ (.inr (.inl rfl))),h.at_,λk=>bg (h.row k) hc (λg hg=>hS g (.inr (.inr ⟨k,hg⟩))),h.has,h.apart,h.cB,h.mB⟩
theorem CM.aR(h:CM w B cb mb n D ah s)(hc:M w w'):CM w' B cb mb n D ah s:=h.ch hc λ_ _ h=>h
theorem CM.mono(h:CM w B cb mb n D ah s){n':Nat}(hn:n<=n'):CM w B cb mb n' D ah s:=⟨h.aW,h.map.mono hn,h.at_,h.row,h.has,h.apart,h.cB,h.mB⟩
theorem CM.low(h:CM w B cb mb n D ah s){g:Nat}(hg:ox cb mb ah g):B<=g/\g<w.heap.size:=by
 rcases hg with rfl|rfl|⟨k,hk⟩
 ·exact⟨h.cB,h.aW.lt⟩
 ·exact⟨h.mB,h.map.lt⟩
 ·exact ra (h.row k) hk
theorem CM.cv(h:CM w B cb mb n D ah s){g:Nat}{t:TypeId}{cs:Array Value}(hg:aX w g t cs)(h1:t≠178)(h2:t≠273): ¬ox cb mb ah g:=by
 rintro(rfl|rfl|⟨k,hk⟩)
 ·exact aX.lF hg h.aW h1 rfl
 ·exact tK h.map hg rfl
 ·exact aV (h.row k) hg (λe=>h2 e.symm) hk
theorem CM.c0(h:CM w B cb mb n D ah s):w.cell? ⟨cb,0,U⟩=G (.map (G mb)):=by rw[h.aW.c];rfl
theorem CM.c1(h:CM w B cb mb n D ah s):w.cell? ⟨cb,1,U⟩=G (.int .i64 s.last):=by rw[h.aW.c];rfl
theorem CM.c2(h:CM w B cb mb n D ah s):w.cell? ⟨cb,2,U⟩=G (.int .i64 s.floor):=by rw[h.aW.c];rfl
theorem CM.look(h:CM w B cb mb n D ah s){key:ByteArray}(hk:key.size<=maxLen):(Instr.lookup 176 (.map (G mb)) (.string key) false).run av w= .ok (ah key.data.toList) w:=by
 obtain⟨v,ps,kA,hv⟩:=h.map.lookup oT underlying176 (PE w) (zd:=.held He) (zp:=[]) rfl (WideMaps.keyOf_string_mk underlying9 hk);rw[kA];rw[h.at_]at hv;simp only[RH,Option.some.injEq,Prod.mk.injEq,DataW.held.injEq]at hv;rw[hv.1]
end
theorem Ua(w:aw)(B:Nat)(hB:B<=w.heap.size):CM ((w.alloc (.map #[] 0)).alloc (.cells #[.map (G w.heap.size),.int .i64 0,.int .i64 0] 178)) B (w.heap.size+1) w.heap.size 0 (.map []) (λ_=>He) qY:=by
 refine⟨?_,(World.ownsMap_made w _ _ _).alloc _,λ_=>rfl,λk=>⟨rfl,.inl ⟨rfl,rfl⟩⟩,λk=>by simp[qY,Maps.has],λk k' g _ h=>by simp[He,Value.ownBlock]at h,by omega,hB⟩;have:=aX.new (w.alloc (.map #[] 0)) 178 #[.map (G w.heap.size),.int .i64 0,.int .i64 0];rwa[World.size_alloc]at this
theorem pM(w:aw):ax av 56 #[] w λe w'=>e= .returned (.pointer (G ⟨w.heap.size+1,0,U⟩))/\w'=(w.alloc (.map #[] 0)).alloc (.cells #[.map (G w.heap.size),.int .i64 0,.int .i64 0] 178):=by
 have Hc:= @run_makeMap av;go_enter func56,ntmps56
 go_wp2
 go_ret;exact⟨by simp,by simp⟩
section
variable{w:aw}{B cb mb n:Nat}{D:DataW Value}{ah:List UInt8->Value}{s:CS}
theorem tL(h:CM w B cb mb n D ah s)(hg:Good s){key:ByteArray}(hk:key.size<=maxLen)(hl:(s.f key.data.toList).length<=1000000):
 ax av 78 #[.pointer (G ⟨cb,0,U⟩),.string key] w λe w'=>e= .returned (.tuple #[.string (valOf (s.f key.data.toList) cX).1,.bool (valOf (s.f key.data.toList) cX).2])/\M w w':=by
 have tE:=h.look hk;obtain⟨A,c,hv⟩:=bz (h.row key.data.toList);have fI:=h.row key.data.toList;rw[hv]at tE fI;have HV:=O (Hd A c _ cX w (yP fI) (hg.Dw _) hl);have c0:=h.c0;clear h hv fI hg;generalize s.f key.data.toList=l at *;unfold cX at HV;generalize hvo:valOf l 1099511627776=vo at *;unfold cX;rw[hvo];clear hvo;generalize l.length=N at *;go_enter func78,ntmps78;go_wp2_with fail;refine HV.o.mono ?_;rintro e w2 ⟨rfl,hN⟩;dsimp only;have HN:=O hN;clear hN HV;go_wp2_with fail;go_ret2;exact⟨rfl,HN.o⟩
end
end Go.Proofs.YtmaimjajdbgmiaaGreatDoor.Cells
namespace Go.Proofs.YtmaimjajdbgmiaaGreatDoor.Cells
open Go.RowKit Go.Maps
theorem KP:(av.info? 273).map (λi=>(i.zero,i.size,i.bytes))=G (G (.agg #[.int .i64 0,.string ⟨#[]⟩,.bool false]),3,32):=by kernel_rfl
theorem info_parts{t:TypeId}{z:Option Value}{a b:Nat}(h:(av.info? t).map (λi=>(i.zero,i.size,i.bytes))=G (z,a,b)): ∃i,av.info? t=G i/\i.zero=z/\i.size=a/\i.bytes=b:=by
 obtain⟨i,h1,h2⟩:=Option.map_eq_some_iff.1 h;injection h2 with h2 h3;injection h3 with h3 h4;exact⟨i,h1,h2,h3,h4⟩
section
variable{w w7 w8:aw}{B cb mb n:Nat}{D:DataW Value}{ah:List UInt8->Value}{s:CS}
theorem CM.kF(h:CM w B cb mb n D ah s)(k:List UInt8):(ah k).ownBlock≠G cb/\(ah k).ownBlock≠G mb:=⟨aV (h.row k) h.aW (by decide),yO h.map (h.row k)⟩
theorem CM.mid(h:CM w B cb mb n D ah s){k:List UInt8}{u:Value}(SC:u.ownBlock=(ah k).ownBlock){o:Obj}(kt:(w.drew.alloc o).grownBy w7 u.ownBlock):
 Ch (λg=>u.ownBlock=G g) w w7/\w7.ownsMap av 9 RH mb n D/\aX w7 cb 178 #[.map (G mb),.int .i64 s.last,.int .i64 s.floor]:=by
 obtain⟨r1,r2⟩:=h.kF k;have hc:Ch (λg=>u.ownBlock=G g) w w7:=(((Ch.r _ w).drew).alloc o).grown kt (λg hg=>.inl hg);exact⟨hc,yN h.map hc (by rw[SC];exact r2),h.aW.ch hc (by rw[SC];exact r1)⟩
theorem nE(h:CM w B cb mb n D ah s){k:List UInt8}{u:Value}(SC:u.ownBlock=(ah k).ownBlock){o:Obj}(kt:(w.drew.alloc o).grownBy w7 u.ownBlock){v7:Value}{l7:List kh}(ho7:w7.ownsRow B 273 3 v7 l7.length (eS l7))
 (hat:v7.ownBlock=u.ownBlock\/v7.ownBlock=G (w.drew.alloc o).heap.size) (qF:w8.ownsMap av 9 RH mb (n+1) (D.put (.string k) (.held v7))) (dS:w7.grownBy w8 (G mb)) (eQ:l7≠[]) (m:Int):
 CP B cb mb (n+1) ah {s with f:=nW s.f k l7,last:=m} w (w8.setCell ⟨cb,1,U⟩ (.int .i64 m)):=by
 obtain⟨c7,m7,b7⟩:=h.mid SC kt;have c8:Ch (λg=>g=mb) w7 w8:=(Ch.bF dS).mono λg hg=>by injection hg with hg;exact hg.symm
 have c9:Ch (λg=>g=cb) w8 (w8.setCell ⟨cb,1,U⟩ (.int .i64 m)):=(Ch.r (λg=>g=cb) w8).setCell (p:=⟨cb,1,U⟩) (.inl rfl) _;have fA:=h.ne;have b8:=b7.ch c8 (λe=>fA e.symm);have qb1:v7.ownBlock≠G cb:=aV ho7 b7 (by decide);have qb2:v7.ownBlock≠G mb:=yO m7 ho7;have jh:w.heap.size<=(w.drew.alloc o).heap.size:=by rw[World.size_alloc];exact Nat.le_succ _
 refine⟨D.put (.string k) (.held v7),λj=>if j=k then v7 else ah j,⟨?_,yN qF c9 fA,λj=>?_,λj=>?_,λj=>?_,λj j' g hj=>?_,h.cB,h.mB⟩,?_,λj g hg=>?_⟩
 ·have:=b8.bm 1 (.int .i64 m);rwa[show(#[.map (G mb),.int .i64 s.last,.int .i64 s.floor]:Array Value).setIfInBounds 1 (.int .i64 m)=#[.map (G mb),.int .i64 m,.int .i64 s.floor] by simp]at this
 ·by_cases e:j=k
  ·subst e;rw[atKey_put_same h.isMap (by trivial),if_pos rfl]
  ·rw[atKey_put_other (by intro e';injection e' with e';exact e e'),h.at_ j,if_neg e]
 ·by_cases e:j=k
  ·subst e;simp only[if_pos,nW];exact bg (bg ho7 c8 (λg hg e=>qb2 (e▸hg))) c9 (λg hg e=>qb1 (e▸hg))
  ·simp only[nW,if_neg e];obtain⟨r1,r2⟩:=h.kF j;exact bg (bg (bg (h.row j) c7 (λg hg hu=>h.apart j k g e hg (SC▸hu))) c8 (λg hg e=>r2 (e▸hg))) c9 (λg hg e=>r1 (e▸hg))
 ·by_cases e:j=k
  ·subst e;rw[has_put_same h.isMap (by trivial)];simp[nW,eQ]
  ·rw[has_put_other (by intro e';injection e' with e';exact e e'),h.has j];simp[nW,e]
 ·have Xz: ∀j g,j≠k->(ah j).ownBlock=G g->v7.ownBlock≠G g:=by
   intro j g e hg hv;rcases hat with h1|h1
   ·rw[h1,SC]at hv;exact h.apart j k g e hg hv
   ·rw[h1]at hv;injection hv with hv;have:=(ra (h.row j) hg).2;omega
  by_cases e:j=k
  ·subst e;rw[if_pos rfl,if_neg (λe=>hj e.symm)];intro hv ti;exact Xz j' g (λe=>hj e.symm) ti hv
  ·rw[if_neg e];by_cases e':j'=k
   ·subst e';rw[if_pos rfl];exact λhv=>Xz j g e hv
   ·rw[if_neg e'];exact h.apart j j' g hj
 ·exact((c7.mono λg hg=>.inr (.inr ⟨k,SC▸hg⟩)).t (c8.mono λg hg=>.inr (.inl hg))).t (c9.mono λg hg=>.inl hg)
 ·dsimp only at hg;by_cases e:j=k
  ·rw[if_pos e]at hg;rcases hat with h1|h1
   ·exact .inl ⟨k,by rw[<-SC, <-h1];exact hg⟩
   ·rw[h1]at hg;injection hg with hg;exact .inr (by omega)
  ·rw[if_neg e]at hg;exact .inl ⟨j,hg⟩
end
theorem CP.refl{w:aw}{B cb mb n:Nat}{D:DataW Value}{ah:List UInt8->Value}{s:CS}(h:CM w B cb mb n D ah s):CP B cb mb (n+1) ah s w w:=
 ⟨D,ah,h.mono (Nat.le_succ n),Ch.r _ _,λk g hg=>.inl ⟨k,hg⟩⟩
theorem PG{w:aw}{B cb mb n:Nat}{D:DataW Value}{ah:List UInt8->Value}{s:CS}(h:CM w B cb mb n D ah s)(key val:ByteArray)(has:Bool)(m:Int)(nX:16<key.size\/32<val.size\/m<0\/cX<m):
 ax av 179 #[.pointer (G ⟨cb,0,U⟩),.string key,.string val,.bool has,.int .i64 m] w λe w'=>e= .returned (.int .i64 1)/\w=w':=by
 have vU:=O (oQ m w);clear h;by_cases h1:16<key.size
 ·have d1:decide (16<(key.size:Int))=true:=by simp;omega
  clear nX;go_enter func179,ntmps179;go_wp2_with fail;go_ret;exact⟨rfl,rfl⟩
 ·have d1:decide (16<(key.size:Int))=false:=by simp;omega
  have d1':decide (16<key.size)=false:=by simp;omega
  by_cases h2:32<val.size
  ·have d2:decide (32<(val.size:Int))=true:=by simp;omega
   clear nX;go_enter func179,ntmps179;go_wp2_with fail;go_ret;exact⟨rfl,rfl⟩
  ·have d2:decide (32<(val.size:Int))=false:=by simp;omega
   have d2':decide (32<val.size)=false:=by simp;omega
   have d3:(decide (0<=m)&&decide (m<=1099511627776))=false:=by
    unfold cX at nX;by_cases h3:0<=m
    ·rw[decide_eq_false (show¬m<=1099511627776 by omega),Bool.and_false]
    ·rw[decide_eq_false h3,Bool.false_and]
   rw[d3]at vU;clear nX d3;go_enter func179,ntmps179;go_wp2_with(go_at_call 240;refine vU.o.mono ?_;rintro e w2 ⟨rfl,rfl⟩);go_ret;exact⟨rfl,rfl⟩
theorem KQ{w:aw}{B cb mb n:Nat}{D:DataW Value}{ah:List UInt8->Value}{s:CS}(h:CM w B cb mb n D ah s)(key val:ByteArray)(has:Bool)(m:Int)(h1:key.size<=16)(h2:val.size<=32)(h3:0<=m)(h4:m<=cX)(nX:m<s.last\/m<=s.floor):
 ax av 179 #[.pointer (G ⟨cb,0,U⟩),.string key,.string val,.bool has,.int .i64 m] w λe w'=>e= .returned (.int .i64 5)/\w=w':=by
 have vU:=O (oQ m w);unfold cX at h4;have d1:decide (16<(key.size:Int))=false:=by simp;omega
 have d1':decide (16<key.size)=false:=by simp;omega
 have d2:decide (32<(val.size:Int))=false:=by simp;omega
 have d2':decide (32<val.size)=false:=by simp;omega
 rw[decide_eq_true h3,decide_eq_true h4,Bool.true_and]at vU;have c1:=h.c1;have c2:=h.c2;clear h h1 h2;generalize s.last=L at *;generalize s.floor=F at *;by_cases h5:m<L
 ·have d5:decide (m<L)=true:=by simpa using h5
  clear nX;go_enter func179,ntmps179;go_wp2_with(go_at_call 240;refine vU.o.mono ?_;rintro e w2 ⟨rfl,rfl⟩);go_ret;exact⟨rfl,rfl⟩
 ·have d5:decide (m<L)=false:=by simpa using h5
  have d6:decide (m<=F)=true:=by simp;omega
  clear nX;go_enter func179,ntmps179;go_wp2_with(go_at_call 240;refine vU.o.mono ?_;rintro e w2 ⟨rfl,rfl⟩);go_ret;exact⟨rfl,rfl⟩
theorem Fp{w:aw}{B n c size:Nat}{e:TypeId}{A:Option Addr}{xs:List Value}(h:w.ownsRow B e size (.slice A n c) n xs):n<=c:=by
 rcases h.2 with⟨h0,h1⟩|⟨g,cap,cur,hv,hg,hh,tD,_⟩
 ·omega
 ·injection hv with _ _ hq;omega
theorem AU{w:aw}{B:Nat}{A:Option Addr}{c:Nat}{l:List kh}{k:Nat}(h:w.ownsRow B 273 3 (.slice A l.length c) l.length (eS l))(hk:l.length=k+1):w.ownsRow B 273 3 (.slice A k c) k (eS l.dropLast):=by
 refine⟨by rw[G9,List.length_dropLast,hk];rfl,?_⟩;rcases h.2 with⟨h0,_⟩|⟨g,cap,cur,hv,hg,hh,tD,fA,uy,ev⟩
 ·injection h0 with _ h0;omega
 ·injection hv with hA hn hq;subst hA hq;refine .inr ⟨g,c,cur,rfl,hg,hh,by omega,fA,uy,?_⟩;have:cur.toList.take (k*3)=(cur.toList.take (l.length*3)).take (k*3):=by rw[List.take_take];congr 1;omega
  rw[this,ev,Dv,List.dropLast_eq_take,hk];rfl
theorem Ub{w:aw}{B cb mb n:Nat}{D:DataW Value}{ah:List UInt8->Value}{s:CS}(h:CM w B cb mb n D ah s)(hB:B<=w.heap.size)(hn:n<=1000000)(key val:ByteArray)(has:Bool)(m:Int)(h1:key.size<=16)(h2:val.size<=32)(h3:0<=m)(h4:m<=cX)(h5: ¬m<s.last)(h6: ¬m<=s.floor)
 (hl:(s.f key.data.toList).length<=1000000):
 ax av 179 #[.pointer (G ⟨cb,0,U⟩),.string key,.string val,.bool has,.int .i64 m] w λe w'=>e= .returned (.int .i64 0)/\
  CP B cb mb (n+1) ah {s with f:=nW s.f key.data.toList (cutAt (s.f key.data.toList) m++[kE val has m]),last:=m} w w':=by
 have vU:=O (oQ m w);unfold cX at h4;have d1:decide (16<(key.size:Int))=false:=by simp;omega
 have d1':decide (16<key.size)=false:=by simp;omega
 have d2:decide (32<(val.size:Int))=false:=by simp;omega
 have d2':decide (32<val.size)=false:=by simp;omega
 have d5:decide (m<s.last)=false:=by simpa using h5
 have d6:decide (m<=s.floor)=false:=by simpa using h6
 rw[decide_eq_true h3,decide_eq_true h4,Bool.true_and]at vU;obtain⟨i1,dX,er,eu,eK⟩:=info_parts KP;have Wb:key.size<=maxLen:=by unfold maxLen;omega
 have fT:=WideMaps.keyOf_string_mk underlying9 Wb;have tE:=h.look Wb;obtain⟨A,c,hv⟩:=bz (h.row key.data.toList);have fI:=h.row key.data.toList;rw[hv]at tE fI;have c0:=h.c0;have c1:=h.c1;have c2:=h.c2;have HH:=O h;have HV:=O hv;clear h hv h1 h2 h5 h6 Wb;generalize key.data.toList=kk at *;obtain⟨l,JE⟩:=bG (s.f kk);rw[JE]at tE fI HV hl⊢;clear JE;cases has
 ·rcases Nat.eq_zero_or_pos l.length with hz|hz
  ·obtain rfl:l=[]:=List.eq_nil_of_length_eq_zero hz;have hu:=fI;have mj:=O (show cutAt ([]:List kh) m=[]from rfl);have wC:=O (show([]:List kh).length=0 from rfl);simp only[List.length_nil]at tE hu;have HU:=O hu;have AV:=O (show(T A 0 c).ownBlock=(ah kk).ownBlock from by rw[HV.o];rfl);have KR:=O (λ(w7 w8:aw) v7 l7 JJ ho hg hat qF dS=>nE (w7:=w7) (w8:=w8) (v7:=v7) (l7:=l7) (o:=.cells #[.int .i64 m,.string ⟨#[]⟩,.bool false] 273) HH.o AV.o hg ho hat qF dS JJ m);have PH:(w.alloc (.cells #[.int .i64 m,.string ⟨#[]⟩,.bool false] 273)).cell? ⟨cb,0,U⟩=G (.map (G mb)):=(HH.o.aR ((Ch.r _ w).alloc _)).c0;clear hu fI;go_enter func179,ntmps179;go_wp2_with(go_at_call 240;refine vU.o.mono ?_;rintro e w2 ⟨rfl,rfl⟩)
   go_region_law(first
    |(refine bL _ rfl (.tmp 77) (.tmp 82) _ rfl B 273 i1 _ 3 32 underlying206 dX er eu eK rfl (by omega) (.slice A 0 c) 0 (eS ([]:List kh)) rfl
       (bg HU.o (((Ch.r (λ_=>False) w).drew).alloc _) (λ_ _ h=>h)) _ (G ⟨w.heap.size,0,U⟩) 1 1 [.int .i64 m,.string ⟨#[]⟩,.bool false] rfl (cD w.drew 273 #[.int .i64 m,.string ⟨#[]⟩,.bool false] 1 3 rfl) (by simp[Value.oneCell']) (by simp only[maxLen];omega) (by omega) (by simp;omega) ?_
      intro v7 w7 fc kt jG;obtain⟨KS,jk,lQ⟩:=HH.o.mid AV.o kt;have e0:w7.cell? ⟨cb,0,U⟩=G (.map (G mb)):=(by rw[lQ.c];rfl);obtain⟨w8,kX,bM,dS⟩:=jk.update oT underlying176 (by unfold maxLen;omega) fT (val:=v7) (d:=.held v7) (ps:=[]) rfl;have uD:aX w8 cb 178 _:=lQ.grown dS (λe=>by injection e with e;exact HH.o.ne e.symm);have f8:=uD.frozen 1;have e8:=uD.c 1;simp at e8;have td:=O fc;have wk:=O kt;have Fe:=O jG;have sH:=O bM;have iT:=O dS;clear KS jk lQ fc kt jG bM dS uD))
   all_goals
    go_wp2_with fail;go_ret;refine⟨rfl,?_⟩;rw[mj.o];exact KR.o w7 w8 v7 (([]:List kh)++[kE val false m]) (by simp) (by have:=td.o;rw[aL,ja];simpa [kE,wC.o]using this) wk.o Fe.o sH.o iT.o
  ·obtain⟨k,hk⟩: ∃k,l.length=k+1:=⟨l.length-1,by omega⟩;obtain⟨x,hx⟩:=bh (L:=l) (i:=k) (by omega);have pR:l.getLast?=G x:=by rw[List.getLast?_eq_getElem?,hk,Nat.add_sub_cancel];exact hx
   obtain⟨g,off,rfl,x0,_,_⟩:=(yP fI).at_ hx;have jq:(k:Int)<((k+1:Nat):Int):=by omega
   have J1:decide ((0:Int)<((k+1:Nat):Int))=true:=by simp
   have hkb:k<1000000:=by omega
   have hkc:k+1<=c:=by rw[<-hk];exact Fp fI
   have qb3:(k:Int)<=(c:Int):=by omega
   by_cases ht:x.t=m
   ·have hu:=AU fI hk;have mj:=O (show cutAt l m=l.dropLast from by unfold cutAt;rw[pR];simp[ht]);have wC:=O (show l.dropLast.length=k from by rw[List.length_dropLast,hk];rfl);rw[hk]at tE fI;rw[ht]at x0;clear pR hx ht hz hk;have HU:=O hu;have AV:=O (show(T (G ⟨g,off,U⟩) k c).ownBlock=(ah kk).ownBlock from by rw[HV.o];rfl);have KR:=O (λ(w7 w8:aw) v7 l7 JJ ho hg hat qF dS=>nE (w7:=w7) (w8:=w8) (v7:=v7) (l7:=l7) (o:=.cells #[.int .i64 m,.string ⟨#[]⟩,.bool false] 273) HH.o AV.o hg ho hat qF dS JJ m);have PH:(w.alloc (.cells #[.int .i64 m,.string ⟨#[]⟩,.bool false] 273)).cell? ⟨cb,0,U⟩=G (.map (G mb)):=(HH.o.aR ((Ch.r _ w).alloc _)).c0;clear hu fI;go_enter func179,ntmps179;go_wp2_with(go_at_call 240;refine vU.o.mono ?_;rintro e w2 ⟨rfl,rfl⟩)
    go_region_law(first
     |(refine bL _ rfl (.tmp 77) (.tmp 82) _ rfl B 273 i1 _ 3 32 underlying206 dX er eu eK rfl (by omega) (.slice (G ⟨g,off,U⟩) k c) k (eS l.dropLast) rfl
        (bg HU.o (((Ch.r (λ_=>False) w).drew).alloc _) (λ_ _ h=>h)) _ (G ⟨w.heap.size,0,U⟩) 1 1 [.int .i64 m,.string ⟨#[]⟩,.bool false] rfl (cD w.drew 273 #[.int .i64 m,.string ⟨#[]⟩,.bool false] 1 3 rfl) (by simp[Value.oneCell']) (by simp only[maxLen];omega) (by omega) (by simp;omega) ?_
       intro v7 w7 fc kt jG;obtain⟨KS,jk,lQ⟩:=HH.o.mid AV.o kt;have e0:w7.cell? ⟨cb,0,U⟩=G (.map (G mb)):=(by rw[lQ.c];rfl);obtain⟨w8,kX,bM,dS⟩:=jk.update oT underlying176 (by unfold maxLen;omega) fT (val:=v7) (d:=.held v7) (ps:=[]) rfl;have uD:aX w8 cb 178 _:=lQ.grown dS (λe=>by injection e with e;exact HH.o.ne e.symm);have f8:=uD.frozen 1;have e8:=uD.c 1;simp at e8;have td:=O fc;have wk:=O kt;have Fe:=O jG;have sH:=O bM;have iT:=O dS;clear KS jk lQ fc kt jG bM dS uD))
    all_goals
     go_wp2_with fail;go_ret;refine⟨rfl,?_⟩;rw[mj.o];exact KR.o w7 w8 v7 (l.dropLast++[kE val false m]) (by simp) (by have:=td.o;rw[aL,ja];simpa [kE,wC.o]using this) wk.o Fe.o sH.o iT.o
   ·have hu:=fI;have mj:=O (show cutAt l m=l from by unfold cutAt;rw[pR];simp[ht]);have wC:=O hk;rw[hk]at tE hu;have dt:(x.t==m)=false:=by simpa using ht
    clear pR hx ht hz;have HU:=O hu;have AV:=O (show(T (G ⟨g,off,U⟩) (k+1) c).ownBlock=(ah kk).ownBlock from by rw[HV.o];rfl);have KR:=O (λ(w7 w8:aw) v7 l7 JJ ho hg hat qF dS=>nE (w7:=w7) (w8:=w8) (v7:=v7) (l7:=l7) (o:=.cells #[.int .i64 m,.string ⟨#[]⟩,.bool false] 273) HH.o AV.o hg ho hat qF dS JJ m);have PH:(w.alloc (.cells #[.int .i64 m,.string ⟨#[]⟩,.bool false] 273)).cell? ⟨cb,0,U⟩=G (.map (G mb)):=(HH.o.aR ((Ch.r _ w).alloc _)).c0;clear hu fI;go_enter func179,ntmps179;go_wp2_with(go_at_call 240;refine vU.o.mono ?_;rintro e w2 ⟨rfl,rfl⟩)
    go_region_law(first
     |(refine bL _ rfl (.tmp 77) (.tmp 82) _ rfl B 273 i1 _ 3 32 underlying206 dX er eu eK rfl (by omega) (.slice (G ⟨g,off,U⟩) (k+1) c) (k+1) (eS l) rfl
        (bg HU.o (((Ch.r (λ_=>False) w).drew).alloc _) (λ_ _ h=>h)) _ (G ⟨w.heap.size,0,U⟩) 1 1 [.int .i64 m,.string ⟨#[]⟩,.bool false] rfl (cD w.drew 273 #[.int .i64 m,.string ⟨#[]⟩,.bool false] 1 3 rfl) (by simp[Value.oneCell']) (by simp only[maxLen];omega) (by omega) (by simp;omega) ?_
       intro v7 w7 fc kt jG;obtain⟨KS,jk,lQ⟩:=HH.o.mid AV.o kt;have e0:w7.cell? ⟨cb,0,U⟩=G (.map (G mb)):=(by rw[lQ.c];rfl);obtain⟨w8,kX,bM,dS⟩:=jk.update oT underlying176 (by unfold maxLen;omega) fT (val:=v7) (d:=.held v7) (ps:=[]) rfl;have uD:aX w8 cb 178 _:=lQ.grown dS (λe=>by injection e with e;exact HH.o.ne e.symm);have f8:=uD.frozen 1;have e8:=uD.c 1;simp at e8;have td:=O fc;have wk:=O kt;have Fe:=O jG;have sH:=O bM;have iT:=O dS;clear KS jk lQ fc kt jG bM dS uD))
    all_goals
     go_wp2_with fail;go_ret;refine⟨rfl,?_⟩;rw[mj.o];exact KR.o w7 w8 v7 (l++[kE val false m]) (by simp) (by have:=td.o;rw[aL,ja];simpa [kE,wC.o]using this) wk.o Fe.o sH.o iT.o
 ·rcases Nat.eq_zero_or_pos l.length with hz|hz
  ·obtain rfl:l=[]:=List.eq_nil_of_length_eq_zero hz;have hu:=fI;have mj:=O (show cutAt ([]:List kh) m=[]from rfl);have wC:=O (show([]:List kh).length=0 from rfl);simp only[List.length_nil]at tE hu;have HU:=O hu;have AV:=O (show(T A 0 c).ownBlock=(ah kk).ownBlock from by rw[HV.o];rfl);have KR:=O (λ(w7 w8:aw) v7 l7 JJ ho hg hat qF dS=>nE (w7:=w7) (w8:=w8) (v7:=v7) (l7:=l7) (o:=.cells #[.int .i64 m,.string val,.bool true] 273) HH.o AV.o hg ho hat qF dS JJ m);have PH:(w.alloc (.cells #[.int .i64 m,.string val,.bool true] 273)).cell? ⟨cb,0,U⟩=G (.map (G mb)):=(HH.o.aR ((Ch.r _ w).alloc _)).c0;clear hu fI;go_enter func179,ntmps179;go_wp2_with(go_at_call 240;refine vU.o.mono ?_;rintro e w2 ⟨rfl,rfl⟩)
   go_region_law(first
    |(refine bL _ rfl (.tmp 77) (.tmp 82) _ rfl B 273 i1 _ 3 32 underlying206 dX er eu eK rfl (by omega) (.slice A 0 c) 0 (eS ([]:List kh)) rfl
       (bg HU.o (((Ch.r (λ_=>False) w).drew).alloc _) (λ_ _ h=>h)) _ (G ⟨w.heap.size,0,U⟩) 1 1 [.int .i64 m,.string val,.bool true] rfl (cD w.drew 273 #[.int .i64 m,.string val,.bool true] 1 3 rfl) (by simp[Value.oneCell']) (by simp only[maxLen];omega) (by omega) (by simp;omega) ?_
      intro v7 w7 fc kt jG;obtain⟨KS,jk,lQ⟩:=HH.o.mid AV.o kt;have e0:w7.cell? ⟨cb,0,U⟩=G (.map (G mb)):=(by rw[lQ.c];rfl);obtain⟨w8,kX,bM,dS⟩:=jk.update oT underlying176 (by unfold maxLen;omega) fT (val:=v7) (d:=.held v7) (ps:=[]) rfl;have uD:aX w8 cb 178 _:=lQ.grown dS (λe=>by injection e with e;exact HH.o.ne e.symm);have f8:=uD.frozen 1;have e8:=uD.c 1;simp at e8;have td:=O fc;have wk:=O kt;have Fe:=O jG;have sH:=O bM;have iT:=O dS;clear KS jk lQ fc kt jG bM dS uD))
   all_goals
    go_wp2_with fail;go_ret;refine⟨rfl,?_⟩;rw[mj.o];exact KR.o w7 w8 v7 (([]:List kh)++[kE val true m]) (by simp) (by have:=td.o;rw[aL,ja];simpa [kE,wC.o]using this) wk.o Fe.o sH.o iT.o
  ·obtain⟨k,hk⟩: ∃k,l.length=k+1:=⟨l.length-1,by omega⟩;obtain⟨x,hx⟩:=bh (L:=l) (i:=k) (by omega);have pR:l.getLast?=G x:=by rw[List.getLast?_eq_getElem?,hk,Nat.add_sub_cancel];exact hx
   obtain⟨g,off,rfl,x0,_,_⟩:=(yP fI).at_ hx;have jq:(k:Int)<((k+1:Nat):Int):=by omega
   have J1:decide ((0:Int)<((k+1:Nat):Int))=true:=by simp
   have hkb:k<1000000:=by omega
   have hkc:k+1<=c:=by rw[<-hk];exact Fp fI
   have qb3:(k:Int)<=(c:Int):=by omega
   by_cases ht:x.t=m
   ·have hu:=AU fI hk;have mj:=O (show cutAt l m=l.dropLast from by unfold cutAt;rw[pR];simp[ht]);have wC:=O (show l.dropLast.length=k from by rw[List.length_dropLast,hk];rfl);rw[hk]at tE fI;rw[ht]at x0;clear pR hx ht hz hk;have HU:=O hu;have AV:=O (show(T (G ⟨g,off,U⟩) k c).ownBlock=(ah kk).ownBlock from by rw[HV.o];rfl);have KR:=O (λ(w7 w8:aw) v7 l7 JJ ho hg hat qF dS=>nE (w7:=w7) (w8:=w8) (v7:=v7) (l7:=l7) (o:=.cells #[.int .i64 m,.string val,.bool true] 273) HH.o AV.o hg ho hat qF dS JJ m);have PH:(w.alloc (.cells #[.int .i64 m,.string val,.bool true] 273)).cell? ⟨cb,0,U⟩=G (.map (G mb)):=(HH.o.aR ((Ch.r _ w).alloc _)).c0;clear hu fI;go_enter func179,ntmps179;go_wp2_with(go_at_call 240;refine vU.o.mono ?_;rintro e w2 ⟨rfl,rfl⟩)
    go_region_law(first
     |(refine bL _ rfl (.tmp 77) (.tmp 82) _ rfl B 273 i1 _ 3 32 underlying206 dX er eu eK rfl (by omega) (.slice (G ⟨g,off,U⟩) k c) k (eS l.dropLast) rfl
        (bg HU.o (((Ch.r (λ_=>False) w).drew).alloc _) (λ_ _ h=>h)) _ (G ⟨w.heap.size,0,U⟩) 1 1 [.int .i64 m,.string val,.bool true] rfl (cD w.drew 273 #[.int .i64 m,.string val,.bool true] 1 3 rfl) (by simp[Value.oneCell']) (by simp only[maxLen];omega) (by omega) (by simp;omega) ?_
       intro v7 w7 fc kt jG;obtain⟨KS,jk,lQ⟩:=HH.o.mid AV.o kt;have e0:w7.cell? ⟨cb,0,U⟩=G (.map (G mb)):=(by rw[lQ.c];rfl);obtain⟨w8,kX,bM,dS⟩:=jk.update oT underlying176 (by unfold maxLen;omega) fT (val:=v7) (d:=.held v7) (ps:=[]) rfl;have uD:aX w8 cb 178 _:=lQ.grown dS (λe=>by injection e with e;exact HH.o.ne e.symm);have f8:=uD.frozen 1;have e8:=uD.c 1;simp at e8;have td:=O fc;have wk:=O kt;have Fe:=O jG;have sH:=O bM;have iT:=O dS;clear KS jk lQ fc kt jG bM dS uD))
    all_goals
     go_wp2_with fail;go_ret;refine⟨rfl,?_⟩;rw[mj.o];exact KR.o w7 w8 v7 (l.dropLast++[kE val true m]) (by simp) (by have:=td.o;rw[aL,ja];simpa [kE,wC.o]using this) wk.o Fe.o sH.o iT.o
   ·have hu:=fI;have mj:=O (show cutAt l m=l from by unfold cutAt;rw[pR];simp[ht]);have wC:=O hk;rw[hk]at tE hu;have dt:(x.t==m)=false:=by simpa using ht
    clear pR hx ht hz;have HU:=O hu;have AV:=O (show(T (G ⟨g,off,U⟩) (k+1) c).ownBlock=(ah kk).ownBlock from by rw[HV.o];rfl);have KR:=O (λ(w7 w8:aw) v7 l7 JJ ho hg hat qF dS=>nE (w7:=w7) (w8:=w8) (v7:=v7) (l7:=l7) (o:=.cells #[.int .i64 m,.string val,.bool true] 273) HH.o AV.o hg ho hat qF dS JJ m);have PH:(w.alloc (.cells #[.int .i64 m,.string val,.bool true] 273)).cell? ⟨cb,0,U⟩=G (.map (G mb)):=(HH.o.aR ((Ch.r _ w).alloc _)).c0;clear hu fI;go_enter func179,ntmps179;go_wp2_with(go_at_call 240;refine vU.o.mono ?_;rintro e w2 ⟨rfl,rfl⟩)
    go_region_law(first
     |(refine bL _ rfl (.tmp 77) (.tmp 82) _ rfl B 273 i1 _ 3 32 underlying206 dX er eu eK rfl (by omega) (.slice (G ⟨g,off,U⟩) (k+1) c) (k+1) (eS l) rfl
        (bg HU.o (((Ch.r (λ_=>False) w).drew).alloc _) (λ_ _ h=>h)) _ (G ⟨w.heap.size,0,U⟩) 1 1 [.int .i64 m,.string val,.bool true] rfl (cD w.drew 273 #[.int .i64 m,.string val,.bool true] 1 3 rfl) (by simp[Value.oneCell']) (by simp only[maxLen];omega) (by omega) (by simp;omega) ?_
       intro v7 w7 fc kt jG;obtain⟨KS,jk,lQ⟩:=HH.o.mid AV.o kt;have e0:w7.cell? ⟨cb,0,U⟩=G (.map (G mb)):=(by rw[lQ.c];rfl);obtain⟨w8,kX,bM,dS⟩:=jk.update oT underlying176 (by unfold maxLen;omega) fT (val:=v7) (d:=.held v7) (ps:=[]) rfl;have uD:aX w8 cb 178 _:=lQ.grown dS (λe=>by injection e with e;exact HH.o.ne e.symm);have f8:=uD.frozen 1;have e8:=uD.c 1;simp at e8;have td:=O fc;have wk:=O kt;have Fe:=O jG;have sH:=O bM;have iT:=O dS;clear KS jk lQ fc kt jG bM dS uD))
    all_goals
     go_wp2_with fail;go_ret;refine⟨rfl,?_⟩;rw[mj.o];exact KR.o w7 w8 v7 (l++[kE val true m]) (by simp) (by have:=td.o;rw[aL,ja];simpa [kE,wC.o]using this) wk.o Fe.o sH.o iT.o
theorem Hg(l:List kh)(m:Int): ∀v∈cutAt l m,v∈l:=by
 intro v hv;unfold cutAt at hv;split at hv
 ·split at hv
  ·rw[List.dropLast_eq_take]at hv;exact List.mem_of_mem_take hv
  ·exact hv
 ·exact hv
theorem DB{l:List kh}(h:l.Pairwise λa b=>a.t<b.t)(m:Int):(cutAt l m).Pairwise λa b=>a.t<b.t:=by
 unfold cutAt;split
 ·split
  ·rw[List.dropLast_eq_take];exact h.sublist (List.take_sublist _ _)
  ·exact h
 ·exact h
theorem KT{l:List kh}(h:l.Pairwise λa b=>a.t<b.t){m:Int}(hm: ∀v∈l,v.t<=m): ∀v∈cutAt l m,v.t<m:=by
 intro v hv;unfold cutAt at hv;rcases hl:l.getLast? with _|x
 ·rw[hl]at hv;rw[List.getLast?_eq_none_iff]at hl;subst hl;simp at hv
 ·rw[hl]at hv;obtain⟨r,rfl⟩:=List.getLast?_eq_some_iff.1 hl;have hp:=List.pairwise_append.1 h;have hx:=hm x (by simp);simp only at hv;split at hv
  ·rename_i hxt;rw[List.dropLast_concat]at hv;have:=hp.2.2 v hv x (by simp);omega
  ·rename_i hxt;rcases List.mem_append.1 hv with hv|hv
   ·have:=hp.2.2 v hv x (by simp);omega
   ·simp at hv;subst hv;omega
theorem KU{s:CS}(h:Good s)(key val:ByteArray)(has:Bool)(m:Int):Good (gY s key val has m):=by
 unfold gY;split
 ·rename_i he;unfold ux at he;split at he
  ·omega
  split at he
  ·omega
  rename_i h1 h2;have hle: ∀k,∀v∈s.f k,v.t<=m:=λk v hv=>by have:=(h.ZO k v hv).2;omega
  refine⟨λk=>?_,λk v hv=>?_,by show 0<=m;omega,by show m<=cX;omega,h.f0,h.f1⟩
  ·show(nW _ _ _ k).Pairwise _;unfold nW;split
   ·rw[List.pairwise_append];refine⟨DB (h.Dw _) m,by simp,λa ha b hb=>?_⟩;simp at hb;subst hb;exact KT (h.Dw _) (hle _) a ha
   ·exact h.Dw k
  ·show 0<=v.t/\v.t<=m;have ti:v∈nW s.f key.data.toList (cutAt (s.f key.data.toList) m++[kE val has m]) k:=hv;unfold nW at ti;split at ti
   ·rcases List.mem_append.1 ti with ti|ti
    ·have:=h.ZO _ v (Hg _ _ v ti);omega
    ·simp at ti;subst ti;simp[kE];omega
   ·have:=h.ZO _ v ti;omega
 ·exact h
section
variable{w:aw}{B cb mb n:Nat}{D:DataW Value}{ah:List UInt8->Value}{s:CS}
theorem nA(h:CM w B cb mb n D ah s)(hB:B<=w.heap.size)(hn:n<=1000000)(key val:ByteArray)(has:Bool)(m:Int)(hl:(s.f key.data.toList).length<=1000000):
 ax av 179 #[.pointer (G ⟨cb,0,U⟩),.string key,.string val,.bool has,.int .i64 m] w λe w'=>e= .returned (.int .i64 (ux s key val m))/\CP B cb mb (n+1) ah (gY s key val has m) w w':=by
 by_cases h1:16<key.size\/32<val.size\/m<0\/cX<m
 ·have e1:ux s key val m=1:=by unfold ux;rw[if_pos h1]
  have e2:gY s key val has m=s:=by unfold gY;rw[e1];rfl
  rw[e1,e2];exact(PG h key val has m h1).mono λ_ _ ⟨q1,q2⟩=>⟨q1,by subst q2;exact CP.refl h⟩
 ·by_cases h2:m<s.last\/m<=s.floor
  ·have e1:ux s key val m=5:=by unfold ux;rw[if_neg h1,if_pos h2]
   have e2:gY s key val has m=s:=by unfold gY;rw[e1];rfl
   rw[e1,e2];exact(KQ h key val has m (by omega) (by omega) (by omega) (by omega) h2).mono λ_ _ ⟨q1,q2⟩=>⟨q1,by subst q2;exact CP.refl h⟩
  ·have e1:ux s key val m=0:=by unfold ux;rw[if_neg h1,if_neg h2]
   have e2:gY s key val has m={s with f:=nW s.f key.data.toList (cutAt (s.f key.data.toList) m++[kE val has m]),last:=m}:=by unfold gY;rw[e1];rfl
   rw[e1,e2];exact Ub h hB hn key val has m (by omega) (by omega) (by omega) (by omega) (by omega) (by omega) hl
end
end Go.Proofs.YtmaimjajdbgmiaaGreatDoor.Cells
namespace Go.Proofs.YtmaimjajdbgmiaaGreatDoor.Cl
open Go.Lib Go.RowKit
theorem parts{t:TypeId}{z:Option Value}{a b:Nat}(h:(av.info? t).map (λi=>(i.zero,i.size,i.bytes))=G (z,a,b)): ∃i,av.info? t=G i/\i.zero=z/\i.size=a/\i.bytes=b:=by
 obtain⟨i,h1,h2⟩:=Option.map_eq_some_iff.1 h;injection h2 with h2 h3;injection h3 with h3 h4;exact⟨i,h1,h2,h3,h4⟩
theorem ln(w:aw)(e:TypeId)(size:Nat):(w.alloc (az #[] e)).ownsRow w.heap.size e size (T (G ⟨w.heap.size,0,U⟩) 0 0) 0 []:=
 ⟨by simp,.inr ⟨w.heap.size,0,#[],rfl,aN _,aX.new w e #[],aN _,Nat.zero_le _,by simp,by simp⟩⟩
theorem LH:(av.info? 9).map (λi=>(i.zero,i.size,i.bytes))=G (G (V ⟨#[]⟩),1,16):=by kernel_rfl
theorem uP(w:aw)(c:Nat):ax av 55 #[T U 0 c] w λe w'=>e=ay (T U 0 0)/\w=w':=by
 have heq:=λ(w:aw) (a:Option Addr) (n c n' c':Nat)=>Lib.run_eql_slice_nil (P:=av) w 22 9 a n c n' c' underlying22;go_enter func55,ntmps55;go_wp2_with fail;go_ret;exact⟨rfl,rfl⟩
theorem Hw{w:aw}{ad:Addr}{n:Nat}{xs:List Value}(h:Reads w w.heap.size 1 (G ad) n xs)(h1: ∀u∈xs,u.oneCell'=true)(hn:n<=1000000)(c:Nat):
 ax av 55 #[T (G ad) n c] w λe w'=>∃A' c',e=ay (T A' n c')/\w'.ownsRow w.heap.size 9 1 (T A' n c') n xs/\M w w':=by
 have HR:=O (h.alloc (aN _) (az #[] 9));have HO:=O (ln w 9 1);have H1:=O h1;obtain⟨i1,dX,er,eu,eK⟩:=parts LH;clear h h1;have heq:=λ(w:aw) (a:Option Addr) (n c n' c':Nat)=>Lib.run_eql_slice_nil (P:=av) w 22 9 a n c n' c' underlying22;go_enter func55,ntmps55;go_wp2_with(first
  |(at_builtin
    refine bp _ rfl (.tmp 5) (.tmp 6) _ rfl w.heap.size 9 i1 _ 1 16 underlying22 dX er eu eK rfl (by omega) _ 0 [] rfl
     HO.o w.heap.size _ n _ xs rfl HR.o H1.o (by simp only[maxLen];omega) (by omega) (by simp) ?_
    intro v8 w8 bM dS dG;obtain⟨A8,c8,rfl⟩:=bz bM;have mh:=O bM;have iT:=O (Ch.bF dS);clear bM dS dG))
 go_ret;refine⟨A8,c8,by simp,?_,?_⟩
 ·have:=mh.o;simpa using this
 ·exact(((Ch.r _ w).alloc _:M w _)).trans iT.o (λb hb=>.inr (by have hb:(G w.heap.size:Option Nat)=G b:=hb;injection hb with hb;omega))
theorem Qg:(av.info? 33).map (λi=>(i.zero,i.size,i.bytes))=G (G (aC #[I J 0,V ⟨#[]⟩,V ⟨#[]⟩,I J 0]),4,48):=by kernel_rfl
theorem uQ{w:aw}{ad:Addr}{n:Nat}{xs:List Value}(h:Reads w w.heap.size 4 (G ad) n xs)(h1: ∀u∈xs,u.oneCell'=true)(hn:n<=1000000)(c:Nat):
 ax av 60 #[T (G ad) n c] w λe w'=>∃A' c',e=ay (T A' n c')/\w'.ownsRow w.heap.size 33 4 (T A' n c') n xs/\M w w':=by
 have HR:=O (h.alloc (aN _) (az #[] 33));have HO:=O (ln w 33 4);have H1:=O h1;obtain⟨i1,dX,er,eu,eK⟩:=parts Qg;clear h h1;have heq:=λ(w:aw) (a:Option Addr) (n c n' c':Nat)=>Lib.run_eql_slice_nil (P:=av) w 34 33 a n c n' c' underlying34;go_enter func60,ntmps60;go_wp2_with(first
  |(at_builtin
    refine bp _ rfl (.tmp 5) (.tmp 6) _ rfl w.heap.size 33 i1 _ 4 48 underlying34 dX er eu eK rfl (by omega) _ 0 [] rfl
     HO.o w.heap.size _ n _ xs rfl HR.o H1.o (by simp only[maxLen];omega) (by omega) (by simp) ?_
    intro v8 w8 bM dS dG;obtain⟨A8,c8,rfl⟩:=bz bM;have mh:=O bM;have iT:=O (Ch.bF dS);clear bM dS dG))
 go_ret;refine⟨A8,c8,by simp,?_,?_⟩
 ·have:=mh.o;simpa using this
 ·exact(((Ch.r _ w).alloc _:M w _)).trans iT.o (λb hb=>.inr (by have hb:(G w.heap.size:Option Nat)=G b:=hb;injection hb with hb;omega))
theorem LI:(av.info? 222).map (λi=>(i.zero,i.size,i.bytes))=G (G (aC #[I J 0,V ⟨#[]⟩]),2,24):=by kernel_rfl
theorem uR(w:aw)(c:Nat):ax av 198 #[T U 0 c] w λe w'=>e=ay (T U 0 0)/\w=w':=by
 have heq:=λ(w:aw) (a:Option Addr) (n c n' c':Nat)=>Lib.run_eql_slice_nil (P:=av) w 145 222 a n c n' c' underlying145;go_enter func198,ntmps198;go_wp2_with fail;go_ret;exact⟨rfl,rfl⟩
theorem Hx{w:aw}{ad:Addr}{n:Nat}{xs:List Value}(h:Reads w w.heap.size 2 (G ad) n xs)(h1: ∀u∈xs,u.oneCell'=true)(hn:n<=1000000)(c:Nat):
 ax av 198 #[T (G ad) n c] w λe w'=>∃A' c',e=ay (T A' n c')/\w'.ownsRow w.heap.size 222 2 (T A' n c') n xs/\M w w':=by
 have HR:=O (h.alloc (aN _) (az #[] 222));have HO:=O (ln w 222 2);have H1:=O h1;obtain⟨i1,dX,er,eu,eK⟩:=parts LI;clear h h1;have heq:=λ(w:aw) (a:Option Addr) (n c n' c':Nat)=>Lib.run_eql_slice_nil (P:=av) w 145 222 a n c n' c' underlying145;go_enter func198,ntmps198;go_wp2_with(first
  |(at_builtin
    refine bp _ rfl (.tmp 5) (.tmp 6) _ rfl w.heap.size 222 i1 _ 2 24 underlying145 dX er eu eK rfl (by omega) _ 0 [] rfl
     HO.o w.heap.size _ n _ xs rfl HR.o H1.o (by simp only[maxLen];omega) (by omega) (by simp) ?_
    intro v8 w8 bM dS dG;obtain⟨A8,c8,rfl⟩:=bz bM;have mh:=O bM;have iT:=O (Ch.bF dS);clear bM dS dG))
 go_ret;refine⟨A8,c8,by simp,?_,?_⟩
 ·have:=mh.o;simpa using this
 ·exact(((Ch.r _ w).alloc _:M w _)).trans iT.o (λb hb=>.inr (by have hb:(G w.heap.size:Option Nat)=G b:=hb;injection hb with hb;omega))
theorem LJ:(av.info? 3).map (λi=>(i.zero,i.size,i.bytes))=G (G (I J 0),1,8):=by kernel_rfl
theorem uS(w:aw)(c:Nat):ax av 39 #[T U 0 c] w λe w'=>e=ay (T U 0 0)/\w=w':=by
 have heq:=λ(w:aw) (a:Option Addr) (n c n' c':Nat)=>Lib.run_eql_slice_nil (P:=av) w 40 3 a n c n' c' underlying40;go_enter func39,ntmps39;go_wp2_with fail;go_ret;exact⟨rfl,rfl⟩
theorem Hy{w:aw}{ad:Addr}{n:Nat}{xs:List Value}(h:Reads w w.heap.size 1 (G ad) n xs)(h1: ∀u∈xs,u.oneCell'=true)(hn:n<=1000000)(c:Nat):
 ax av 39 #[T (G ad) n c] w λe w'=>∃A' c',e=ay (T A' n c')/\w'.ownsRow w.heap.size 3 1 (T A' n c') n xs/\M w w':=by
 have HR:=O (h.alloc (aN _) (az #[] 3));have HO:=O (ln w 3 1);have H1:=O h1;obtain⟨i1,dX,er,eu,eK⟩:=parts LJ;clear h h1;have heq:=λ(w:aw) (a:Option Addr) (n c n' c':Nat)=>Lib.run_eql_slice_nil (P:=av) w 40 3 a n c n' c' underlying40;go_enter func39,ntmps39;go_wp2_with(first
  |(at_builtin
    refine bp _ rfl (.tmp 5) (.tmp 6) _ rfl w.heap.size 3 i1 _ 1 8 underlying40 dX er eu eK rfl (by omega) _ 0 [] rfl
     HO.o w.heap.size _ n _ xs rfl HR.o H1.o (by simp only[maxLen];omega) (by omega) (by simp) ?_
    intro v8 w8 bM dS dG;obtain⟨A8,c8,rfl⟩:=bz bM;have mh:=O bM;have iT:=O (Ch.bF dS);clear bM dS dG))
 go_ret;refine⟨A8,c8,by simp,?_,?_⟩
 ·have:=mh.o;simpa using this
 ·exact(((Ch.r _ w).alloc _:M w _)).trans iT.o (λb hb=>.inr (by have hb:(G w.heap.size:Option Nat)=G b:=hb;injection hb with hb;omega))
end Go.Proofs.YtmaimjajdbgmiaaGreatDoor.Cl
namespace Go.Proofs.YtmaimjajdbgmiaaGreatDoor.Waits
open Go.RowKit
structure Nd where
 id:Int
 st:Int
 zt9:Nat
def mZ(l:List Nd):List Value:=l.flatMap λx=>[I J x.id,I J x.st,I .u64 x.zt9]
structure Ok(l:List Nd):Prop where
 len:l.length<=64
 bits: ∀x:Nd,x∈l->x.zt9<2 ^ l.length
 ids:(l.map Nd.id).Nodup
 self: ∀(i:Nat) (x:Nd),l[i]?=G x->x.zt9.testBit i=false
 id0: ∀x:Nd,x∈l->0<=x.id/\x.id<=9223372036854775807
 st0: ∀x:Nd,x∈l->0<=x.st/\x.st<=1099511627776
structure GM(w:aw)(B gb:Nat)(l:List Nd)(v:Value):Prop where
 aW:aX w gb 241 #[v]
 own:w.ownsRow B 250 3 v l.length (mZ l)
 bB:B<=gb
 ok:Ok l
section
variable{w w':aw}{B gb:Nat}{l:List Nd}{v:Value}
theorem GM.ch{S:Nat->Prop}(h:GM w B gb l v)(hc:Ch S w w')(h1: ¬S gb)(h2: ∀k,v.ownBlock=G k->¬S k):GM w' B gb l v:=
 ⟨h.aW.ch hc h1,bg h.own hc h2,h.bB,h.ok⟩
theorem GM.aR(h:GM w B gb l v)(hc:M w w'):GM w' B gb l v:=h.ch hc (λh=>h) (λ_ _ h=>h)
theorem GM.c0(h:GM w B gb l v):w.cell? ⟨gb,0,U⟩=G v:=by rw[h.aW.c];rfl
theorem IV(l:List Nd){i:Nat}{x:Nd}(h:l[i]?=G x):(mZ l)[i*3]?=G (I J x.id)/\(mZ l)[i*3+1]?=G (I J x.st)/\(mZ l)[i*3+2]?=G (I .u64 x.zt9):=by
 have g: ∀j,j<3->(mZ l)[i*3+j]?=([I J x.id,I J x.st,I .u64 x.zt9]:List Value)[j]?:=λj hj=>eI (f:=λx:Nd=>[I J x.id,I J x.st,I .u64 x.zt9]) (m:=3) (λ_ _=>rfl) h hj;exact⟨g 0 (by omega),g 1 (by omega),g 2 (by omega)⟩
theorem GM.at_(h:GM w B gb l v){i:Nat}{x:Nd}(hx:l[i]?=G x): ∃g c,v=T (G ⟨g,0,U⟩) l.length c/\w.cell? ⟨g,i*3,U⟩=G (I J x.id)/\w.cell? ⟨g,i*3+1,U⟩=G (I J x.st)/\
 w.cell? ⟨g,i*3+2,U⟩=G (I .u64 x.zt9):=by
 obtain⟨g,c,hv,_,_⟩:=h.own.form (Nat.lt_of_le_of_lt (Nat.zero_le _) (bf hx));obtain⟨r0,r1,r2⟩:=IV l hx;have a:=h.own.cells (g:=g) (by rw[hv];rfl) _ _ r0;have b:=h.own.cells (g:=g) (by rw[hv];rfl) _ _ r1;have d:=h.own.cells (g:=g) (by rw[hv];rfl) _ _ r2;rw[yK,Nat.zero_add]at a b d;exact⟨g,c,hv,a,b,d⟩
end
theorem Ca{i:Nat}(h:i<64):(2:Nat) ^ i<18446744073709551616:=by
 have:(2:Nat) ^ i<2 ^ 64:=Nat.pow_lt_pow_right (by decide) h;omega
theorem Vr{s i:Nat}(hs:s<18446744073709551616)(hi:i<64):(bits BinOp.and IntKind.u64 ((s:Int) / 2 ^ i) 1==1)=s.testBit i:=by
 have h1:(s:Int) / 2 ^ i=((s / 2 ^ i:Nat):Int):=by simp
 have h2:s / 2 ^ i<=s:=Nat.div_le_self _ _;rw[h1,Nat.testBit_eq_decide_div_mod_eq];generalize s / 2 ^ i=q at *;rw[and_one_u64 _ (by omega) (by omega)];by_cases h:q%2=1
 ·rw[decide_eq_true h,show(q:Int)%2=1 by omega];rfl
 ·rw[decide_eq_false h,show(q:Int)%2=0 by omega];rfl
theorem Gm(s i:Nat)(hs:s<18446744073709551616)(hi:i<64)(w:aw):ax av 169 #[I .u64 s,I J i] w λe w'=>e=ay (Y (s.testBit i))/\w=w':=by
 have Aa:(i:Int)<64:=by omega
 go_enter func169,ntmps169;go_wp2_with fail;go_ret;refine⟨?_,rfl⟩;show Ending.returned (Y (bits BinOp.and IntKind.u64 ((s:Int) / 2 ^ i) 1==1))=_;rw[Vr hs hi]
theorem pM(w:aw):ax av 95 #[] w λe w'=>e=ay (X (G ⟨w.heap.size,0,U⟩))/\w'=w.alloc (az #[T U 0 0] 241):=by
 go_enter func95,ntmps95;go_wp2_with fail;go_ret;exact⟨rfl,rfl⟩
end Go.Proofs.YtmaimjajdbgmiaaGreatDoor.Waits
namespace Go.Proofs.YtmaimjajdbgmiaaGreatDoor.Waits
open Go.RowKit
def firstIdx(p:Nd->Bool)(W:List Nd):Int:=match W.findIdx? p with
 |some i=>(i:Int)
 |none=> -1
theorem Cb{p:Nd->Bool}{W:List Nd}{k:Nat}{x:Nd}(hx:W[k]?=G x)(hp:p x=true)(hb: ∀(j:Nat) (y:Nd),j<k->W[j]?=G y->p y=false):firstIdx p W=k:=by
 unfold firstIdx;have:W.findIdx? p=G k:=by
  rw[List.findIdx?_eq_some_iff_getElem];have hk:=bf hx;refine⟨hk,?_,λj hj=>?_⟩
  ·rw[List.getElem?_eq_getElem hk]at hx;injection hx with hx;rw[hx];exact hp
  ·have:=hb j _ hj (List.getElem?_eq_getElem (by omega));simp[this]
 rw[this]
theorem firstIdx_none{p:Nd->Bool}{W:List Nd}(hb: ∀(j:Nat) (y:Nd),j<W.length->W[j]?=G y->p y=false):firstIdx p W= -1:=by
 unfold firstIdx;have:W.findIdx? p=U:=by
  rw[List.findIdx?_eq_none_iff];intro x hx;obtain⟨j,hj,rfl⟩:=List.mem_iff_getElem.1 hx;exact hb j _ hj (List.getElem?_eq_getElem hj)
 rw[this]
def idxOf(l:List Nd)(id:Int):Int:=firstIdx (λx=>x.id==id) l
theorem sd(l:List Nd)(id:Int):(idxOf l id= -1/\∀x:Nd,x∈l->x.id≠id)\/∃(i:Nat) (x:Nd),idxOf l id=i/\l[i]?=G x/\x.id=id:=by
 unfold idxOf firstIdx;rcases h:l.findIdx? (λx=>x.id==id)with _|i
 ·refine .inl ⟨by rw[h],λx hx=>?_⟩;have:=List.findIdx?_eq_none_iff.1 h x hx;simpa using this
 ·obtain⟨hi,hp,_⟩:=List.findIdx?_eq_some_iff_getElem.1 h;exact .inr ⟨i,l[i],by rw[h],List.getElem?_eq_getElem hi,by simpa using hp⟩
theorem Vs(x1 x2:Int)(x3:Nat)(id:Int)(ib:Nat)(w:aw)(hc:w.cell? ⟨ib,0,U⟩=G (I J id)):
 ax av 231 #[aC #[I J x1,I J x2,I .u64 x3],X (G ⟨ib,0,U⟩)] w λe w'=>e=ay (Y (x1==id))/\M w w':=by
 have hlt:ib<w.heap.size:=block_lt_of_cell hc;have nQ:(w.alloc (az #[I J x1,I J x2,I .u64 x3] 250)).cell? ⟨ib,0,U⟩=G (I J id):=by rw[World.cell?_alloc_lt _ _ _ hlt];exact hc
 have HN:=O (show M w (w.alloc (az #[I J x1,I J x2,I .u64 x3] 250))from(Ch.r _ _).alloc _);clear hlt;go_enter func231,ntmps231
 go_wp2
 go_ret;exact⟨rfl,HN.o⟩
theorem qV{w:aw}{B b:Nat}{l:List Nd}{v:Value}(h:GM w B b l v)(id:Int)(ib:Nat)(hc:w.cell? ⟨ib,0,U⟩=G (I J id)):
 ax av 230 #[v,.func (.func 231) #[] #[X (G ⟨ib,0,U⟩)]] w λe w'=>e=ay (I J (idxOf l id))/\M w w':=by
 obtain⟨A,q,rfl⟩:=bz h.own;obtain⟨R,hR⟩:=bG (idxOf l id);rw[hR];have HR:=O hR;clear hR;have HH:=O (And.intro h hc);have WE:=h.ok.len;clear h hc;go_enter func230,ntmps230;go_wp2_with fail
 go_loopw[8] (λi w'=>∃k:Nat,k<=l.length/\i=I J k/\(∀(j:Nat) (y:Nd),j<k->l[j]?=G y->(λx:Nd=>x.id==id) y=false)/\M w w') (λi _=>l.length- (intOf i).toNat)
 case atStart=>exact⟨0,by omega,rfl,λj y hj=>absurd hj (by omega),Ch.r _ _⟩
 case round=>
  obtain⟨k,hk,rfl,nU,hC⟩:=hrel;by_cases hlt:k<l.length
  ·obtain⟨x,hx⟩:=bh hlt;obtain⟨h,hc⟩:=HH.o;obtain⟨g,cap,hv,r0,r1,r2⟩:=h.at_ hx;injection hv with hA hn hq;subst hA;have e0:=eJ hC r0;have e1:=eJ hC r1;have e2:=eJ hC r2;have xo:=O (Vs x.id x.st x.zt9 id ib wr (eJ hC hc));have Pp:=O nU;have HX:=O hx;have HC:=O hC;clear r0 r1 r2 nU hx hC h hc hq hn;rcases WG:(λx:Nd=>x.id==id) x with _|_
   ·rw[show(x.id==id)=false from WG]at xo;have HPX:=O WG;clear WG;go_wp2_with(go_at_call 231;(with_reducible refine(xo.o).mono ?_);rintro e w2 ⟨rfl,hN⟩;have HN:=O hN;clear hN);refine⟨⟨k+1,by omega,by go_num,λj y hj hy=>?_,HC.o.t HN.o⟩,by simp[intOf];omega⟩;by_cases Ta:j=k
    ·subst Ta;have:=HX.o.symm.trans hy;injection this with this;rw[<-this];exact HPX.o
    ·exact Pp.o j y (by omega) hy
   ·rw[show(x.id==id)=true from WG]at xo;have yD:=O (HR.o.symm.trans (Cb HX.o WG Pp.o));clear WG;go_wp2_with(go_at_call 231;(with_reducible refine(xo.o).mono ?_);rintro e w2 ⟨rfl,hN⟩;have HN:=O hN;clear hN);go_ret;exact⟨by rw[yD.o];rfl,HC.o.t HN.o⟩
  ·obtain rfl:k=l.length:=by omega
   have yD:=O (HR.o.symm.trans (firstIdx_none nU));have HC:=O hC;clear hlt hk nU hC;go_wp2_with fail;go_ret;exact⟨by rw[yD.o];rfl,HC.o⟩
theorem kR{w:aw}{B b:Nat}{l:List Nd}{v:Value}(h:GM w B b l v)(id:Int):
 ax av 166 #[X (G ⟨b,0,U⟩),I J id] w λe w'=>e=ay (I J (idxOf l id))/\M w w':=by
 have hC:M w (w.alloc (az #[I J id] 3)):=(Ch.r _ w).alloc _;have c0:=(h.aR hC).c0;have HI:=O (qV (h.aR hC) id w.heap.size (by rw[(aX.new w 3 #[I J id]).c];rfl));have HC:=O hC;clear hC h;go_enter func166,ntmps166;go_wp2_with(go_at_call 230;(with_reducible refine(HI.o).mono ?_);rintro e w2 ⟨rfl,hN⟩;have HN:=O hN;clear hN);go_ret;exact⟨rfl,HC.o.t HN.o⟩
def JV(a b:Nd):Bool:=decide (a.st<b.st)||((a.st==b.st)&&decide (a.id<b.id))
theorem Ez(a b:Nd)(w:aw):ax av 233 #[aC #[I J a.id,I J a.st,I .u64 a.zt9],aC #[I J b.id,I J b.st,I .u64 b.zt9]] w λe w'=>e=ay (Y (JV a b))/\M w w':=by
 obtain⟨a1,a2,a3⟩:=a;obtain⟨b1,b2,b3⟩:=b;have HN:=O (show M w ((w.alloc (az #[I J a1,I J a2,I .u64 a3] 250)).alloc (az #[I J b1,I J b2,I .u64 b3] 250))from((Ch.r _ w).alloc _).alloc _);by_cases h1:a2<b2
 ·have d1:decide (a2<b2)=true:=decide_eq_true h1;have HB:=O (show JV ⟨a1,a2,a3⟩ ⟨b1,b2,b3⟩=true from by simp[JV,h1]);clear h1;go_enter func233,ntmps233;go_wp2_with fail;go_ret;exact⟨by rw[HB.o];rfl,HN.o⟩
 ·have d1:decide (a2<b2)=false:=decide_eq_false h1;by_cases h2:a2=b2
  ·have d2:(a2==b2)=true:=by simpa using h2
   have HB:=O (show JV ⟨a1,a2,a3⟩ ⟨b1,b2,b3⟩=decide (a1<b1)from by simp[JV,h2]);clear h1 h2;go_enter func233,ntmps233;go_wp2_with fail;go_ret;exact⟨by rw[HB.o];rfl,HN.o⟩
  ·have d2:(a2==b2)=false:=by simpa using h2
   have HB:=O (show JV ⟨a1,a2,a3⟩ ⟨b1,b2,b3⟩=false from by simp[JV,h1,h2]);clear h1 h2;go_enter func233,ntmps233;go_wp2_with fail;go_ret;exact⟨by rw[HB.o];rfl,HN.o⟩
end Go.Proofs.YtmaimjajdbgmiaaGreatDoor.Waits
namespace Go.Proofs.YtmaimjajdbgmiaaGreatDoor.Waits
open Go.RowKit
def Eg(l:List Nd)(i j:Nat):Prop:=∃x:Nd,l[i]?=G x/\x.zt9.testBit j=true
inductive Way (l:List Nd) (by_:Nat) (i:Nat):Nat->Prop
 |one {j:Nat} (h:Eg l i j):Way l by_ i j
 |more {j k:Nat} (h:Way l by_ i j) (hb:by_.testBit j=true) (h':Eg l j k):Way l by_ i k
def jM(l:List Nd)(i:Nat):Nat:=(l.getD i ⟨0,0,0⟩).zt9
theorem qw{l:List Nd}{i:Nat}{x:Nd}(h:l[i]?=G x):jM l i=x.zt9:=by
 unfold jM;rw[List.getD_eq_getElem?_getD,h];rfl
theorem zM{l:List Nd}{i j:Nat}:Eg l i j↔(jM l i).testBit j=true:=by
 constructor
 ·rintro⟨x,hx,h⟩;rwa[qw hx]
 ·intro h;unfold jM at h;rw[List.getD_eq_getElem?_getD]at h;rcases hx:l[i]? with _|x
  ·rw[hx]at h;simp at h
  ·rw[hx]at h;exact⟨x,hx,h⟩
def full:Nat:=18446744073709551615
def minus(a b:Nat):Nat:=a&&&(full-b)
theorem yb{a b j:Nat}(ha:a<18446744073709551616)(hb:b<18446744073709551616):(minus a b).testBit j=(a.testBit j&& !b.testBit j):=by
 unfold minus full;rw[Nat.testBit_and];by_cases hj:j<64
 ·have:(18446744073709551615-b)=2 ^ 64- (b+1):=by omega
  rw[this,Nat.testBit_two_pow_sub_succ (by omega)];simp[hj]
 ·have:a.testBit j=false:=Nat.testBit_lt_two_pow (aP (show a<2 ^ 64 by omega) (Nat.pow_le_pow_right (by decide) (by omega)));rw[this];simp
theorem Cc{a b:Nat}(ha:a<18446744073709551616):minus a b<18446744073709551616:=Nat.lt_of_le_of_lt Nat.and_le_left ha
theorem Gn{a b:Nat}(ha:a<18446744073709551616)(hb:b<18446744073709551616):a|||b<18446744073709551616:=Nat.or_lt_two_pow (n:=64) ha hb
theorem nL{i j:Nat}:(2 ^ i).testBit j=decide (i=j):=Nat.testBit_two_pow
theorem zN{x:Nat}(h0:x≠0)(h:x<18446744073709551616):Lib.ctz 64 x<64/\x.testBit (Lib.ctz 64 x)=true:=by
 unfold Lib.ctz;rw[if_neg h0];obtain⟨m,hm,hk⟩:=Lib.ctzFrom_spec 64 x (by omega) (by omega);refine⟨hk,?_⟩;generalize Lib.ctzFrom 64 x=k at *;rw[hm,Nat.mul_comm,Nat.testBit_mul_two_pow];simp
def na(l:List Nd)(by_:Nat)(seen todo:Nat):Nat×Nat:=
 let i:=Lib.ctz 64 todo
 let t:=minus todo (2 ^ i)
 let s:=seen|||2 ^ i
 (s,if by_.testBit i then t|||minus (jM l i) s else t)
noncomputable def Vt (l:List Nd) (by_:Nat) (n:Nat):Nat->Nat->Nat:=
 Nat.rec (λs _=>s) (λ_ ih s t=>if t=0 then s else ih (na l by_ s t).1 (na l by_ s t).2) n
theorem vB(l:List Nd)(by_ n s t:Nat):Vt l by_ (n+1) s t=if t=0 then s else Vt l by_ n (na l by_ s t).1 (na l by_ s t).2:=rfl
noncomputable def vC (l:List Nd) (by_ at_:Nat):Nat:=Vt l by_ 18446744073709551616 0 (jM l at_)
structure C3(l:List Nd)(by_ at_ n s t:Nat):Prop where
 Td:s<18446744073709551616
 t64:t<2 ^ l.length
 fuel:18446744073709551616-s<=n
 apart: ∀j,s.testBit j=true->t.testBit j=false
 sound: ∀j,s.testBit j=true\/t.testBit j=true->Way l by_ at_ j
 start: ∀j,Eg l at_ j->s.testBit j=true\/t.testBit j=true
 shut: ∀i j,s.testBit i=true->by_.testBit i=true->Eg l i j->s.testBit j=true\/t.testBit j=true
theorem yc{l:List Nd}(h:Ok l)(i:Nat):jM l i<2 ^ l.length:=by
 unfold jM;rw[List.getD_eq_getElem?_getD];rcases hx:l[i]? with _|x
 ·exact Nat.two_pow_pos _
 ·exact h.bits x (bS hx)
theorem ye{l:List Nd}(h:Ok l){a:Nat}(ha:a<2 ^ l.length):a<18446744073709551616:=by
 have h2:2 ^ l.length<=2 ^ 64:=Nat.pow_le_pow_right (by decide) h.len;omega
theorem vD{a n j:Nat}(ha:a<2 ^ n)(hj:a.testBit j=true):j<n:=by
 rcases Nat.lt_or_ge j n with h|h
 ·exact h
 ·rw[Nat.testBit_lt_two_pow (aP ha (Nat.pow_le_pow_right (by decide) h))]at hj;cases hj
theorem pk{a n:Nat}(h: ∀j,a.testBit j=true->j<n):a<2 ^ n:=by
 rcases Nat.lt_or_ge a (2 ^ n)with h'|h'
 ·exact h'
 ·obtain⟨i,hi,hb⟩:=Nat.exists_ge_and_testBit_of_ge_two_pow h';have:=h i hb;omega
theorem C3.begin{l:List Nd}(h:Ok l)(by_ at_:Nat):C3 l by_ at_ 18446744073709551616 0 (jM l at_):=
 ⟨by decide,yc h _,by omega,by simp,λj hj=>by
   rcases hj with hj|hj
   ·simp at hj
   ·exact .one (zM.2 hj),λj hj=>.inr (zM.1 hj),by simp⟩
theorem C3.next{l:List Nd}(h:Ok l){by_ at_ n s t:Nat}(hm:C3 l by_ at_ (n+1) s t)(ht:t≠0):C3 l by_ at_ n (na l by_ s t).1 (na l by_ s t).2:=by
 have t64:=ye h hm.t64;obtain⟨hi,hb⟩:=zN ht t64;have Vu:=vD hm.t64 hb;unfold na;generalize Lib.ctz 64 t=i at *;simp only;have p64:=Ca hi;have hsi:s.testBit i=false:=by
  rcases hs:s.testBit i with _|_
  ·rfl
  ·rw[hm.apart i hs]at hb;cases hb
 have Td:=Gn hm.Td p64;have qe6:=ye h (yc h i);have bs: ∀j,(s|||2 ^ i).testBit j=(s.testBit j||decide (i=j)):=λj=>by rw[Nat.testBit_or,nL]
 have bt: ∀j,(minus t (2 ^ i)).testBit j=(t.testBit j&& !decide (i=j)):=λj=>by rw[yb t64 p64,nL]
 have bo: ∀j,(minus (jM l i) (s|||2 ^ i)).testBit j=((jM l i).testBit j&& !(s.testBit j||decide (i=j))):=λj=>by rw[yb qe6 Td,bs]
 have bn: ∀j,(if by_.testBit i=true then minus t (2 ^ i)|||minus (jM l i) (s|||2 ^ i)else minus t (2 ^ i)).testBit j=
  ((t.testBit j&& !decide (i=j))||(by_.testBit i&&((jM l i).testBit j&& !(s.testBit j||decide (i=j))))):=λj=>by
  split
  ·rename_i CG;rw[Nat.testBit_or,bt,bo,CG,Bool.true_and]
  ·rename_i CG;rw[bt];simp[CG]
 generalize(if by_.testBit i=true then minus t (2 ^ i)|||minus (jM l i) (s|||2 ^ i)else minus t (2 ^ i))=au at *;have qh5:s<s|||2 ^ i:=by
  rcases Nat.lt_or_ge s (s|||2 ^ i)with h'|h'
  ·exact h'
  ·have h1:s<=s|||2 ^ i:=Nat.left_le_or;have e:s=s|||2 ^ i:=Nat.le_antisymm h1 h';have:=bs i;rw[<-e,hsi]at this;simp at this
 have YE:Way l by_ at_ i:=hm.sound i (.inr hb);have keep: ∀j,s.testBit j=true\/t.testBit j=true->(s|||2 ^ i).testBit j=true\/au.testBit j=true:=λj hj=>by
  rw[bs,bn];by_cases e:i=j
  ·exact .inl (by simp[e])
  ·rcases hj with hj|hj
   ·exact .inl (by simp[hj])
   ·exact .inr (by simp[hj,e])
 refine⟨Td,pk λj hj=>?_,by have:=hm.fuel;omega,λj hj=>?_,λj hj=>?_,λj hj=>keep j (hm.start j hj),λa j ha CG hE=>?_⟩
 ·rw[bn]at hj;simp only[Bool.or_eq_true,Bool.and_eq_true]at hj;rcases hj with hj|hj
  ·exact vD hm.t64 hj.1
  ·exact vD (yc h i) hj.2.1
 ·rw[bs]at hj;rw[bn];simp only[Bool.or_eq_true,decide_eq_true_eq]at hj;rcases hj with hj|hj
  ·simp[hm.apart j hj,hj]
  ·simp[hj]
 ·rw[bs,bn]at hj;simp only[Bool.or_eq_true,Bool.and_eq_true,decide_eq_true_eq]at hj;rcases hj with(hj|hj)|(hj|hj)
  ·exact hm.sound j (.inl hj)
  ·exact hj▸YE
  ·exact hm.sound j (.inr hj.1)
  ·exact .more YE hj.1 (zM.2 hj.2.1)
 ·rw[bs]at ha;simp only[Bool.or_eq_true,decide_eq_true_eq]at ha;rcases ha with ha|ha
  ·exact keep j (hm.shut a j ha CG hE)
  ·subst ha;have:=zM.1 hE;rw[bs,bn];by_cases e:i=j
   ·exact .inl (by simp[e])
   ·by_cases hs:s.testBit j=true
    ·exact .inl (by simp[hs])
    ·exact .inr (by simp[CG,this,e,hs])
theorem C3.grow{l:List Nd}(h:Ok l){by_ at_ n s t:Nat}(hm:C3 l by_ at_ n s t)(ht:t≠0):s<s|||2 ^ Lib.ctz 64 t:=by
 obtain⟨hi,hb⟩:=zN ht (ye h hm.t64);generalize Lib.ctz 64 t=i at *;rcases Nat.lt_or_ge s (s|||2 ^ i)with h'|h'
 ·exact h'
 ·have e:s=s|||2 ^ i:=Nat.le_antisymm Nat.left_le_or h';have hsi:s.testBit i=false:=by
   rcases hs:s.testBit i with _|_
   ·rfl
   ·rw[hm.apart i hs]at hb;cases hb
  have:(s|||2 ^ i).testBit i=(s.testBit i||decide (i=i)):=by rw[Nat.testBit_or,nL]
  rw[<-e,hsi]at this;simp at this
theorem C3.end_{l:List Nd}{by_ at_ n s:Nat}(hm:C3 l by_ at_ n s 0)(j:Nat):s.testBit j=true↔Way l by_ at_ j:=by
 refine⟨λh=>hm.sound j (.inl h),λh=>?_⟩;induction h with
 |one h=>have:=hm.start _ h;simpa using this
 |more h hb h' ih=>have:=hm.shut _ _ ih hb h';simpa using this
theorem C3.pos{l:List Nd}{by_ at_ n s t:Nat}(hm:C3 l by_ at_ n s t): ∃m,n=m+1:=⟨n-1,by have:=hm.Td;have:=hm.fuel;omega⟩
theorem Cd{l:List Nd}(h:Ok l){by_ at_:Nat}: ∀(n s t:Nat),C3 l by_ at_ n s t->(Vt l by_ n s t<18446744073709551616/\∀j,(Vt l by_ n s t).testBit j=true↔Way l by_ at_ j)
 |0,s,t,hm=>by obtain⟨m,hm'⟩:=hm.pos;omega
 |n+1,s,t,hm=>by
  rw[vB];by_cases ht:t=0
  ·rw[if_pos ht];subst ht;exact⟨hm.Td,hm.end_⟩
  ·rw[if_neg ht];exact Cd h n _ _ (hm.next h ht)
theorem Nk{l:List Nd}(h:Ok l)(by_ at_:Nat):vC l by_ at_<18446744073709551616:=(Cd h _ _ _ (C3.begin h by_ at_)).1
end Go.Proofs.YtmaimjajdbgmiaaGreatDoor.Waits
namespace Go.Proofs
open Go.Shelf
def Tryz.Nl:Go.Shelf.Ren:=⟨λ |29=>232|n=>n,λ |22=>247|3=>3|4=>4|25=>204|54=>377|0=>0|5=>5|n=>n,λ |1=>0|n=>n⟩
theorem Tryz.qe7:Go.Proofs.Lays7.n29 av Tryz.Nl:={
 mixed:=by kernel_rfl
 f29:=func232.trans (congrArg G (by kernel_rfl))
 t0:=underlying0
 a0:=Tryz.isAgg0
 z0:=Tryz.sizeOf0
 v0:=Tryz.zeroValue0
 i0:=by kernel_rfl
 t3:=underlying3
 a3:=Tryz.isAgg3
 z3:=Tryz.sizeOf3
 v3:=Tryz.zeroValue3
 i3:=by kernel_rfl
 t4:=underlying4
 a4:=Tryz.isAgg4
 z4:=Tryz.sizeOf4
 v4:=Tryz.zeroValue4
 i4:=by kernel_rfl
 t5:=underlying5
 a5:=Tryz.isAgg5
 z5:=Tryz.sizeOf5
 v5:=Tryz.zeroValue5
 i5:=by kernel_rfl
 t22:=underlying247
 a22:=Tryz.isAgg247
 z22:=Tryz.sizeOf247
 v22:=Tryz.zeroValue247
 i22:=by kernel_rfl
 t25:=underlying204
 a25:=Tryz.isAgg204
 z25:=Tryz.sizeOf204
 v25:=Tryz.zeroValue204
 i25:=by kernel_rfl
 t54:=underlying377
 a54:=Tryz.isAgg377
 z54:=Tryz.sizeOf377
 g1:=by kernel_rfl}
open Go.RowKit in
theorem Tryz.qe8(x:Nat)(hx:x<18446744073709551616)(w:aw)(hT:x≠0->TabAt 0 Lib.deBruijn64tab w):
 ax av 232 #[I .u64 x] w λe w'=>e=ay (I J (Lib.ctz 64 x))/\w'=w:=Any7.bits_TrailingZeros64 Tryz.qe7 x hx w hT
end Go.Proofs
namespace Go.Proofs.YtmaimjajdbgmiaaGreatDoor.Waits
open Go.RowKit
abbrev C4(w:aw):Prop:=TabAt 0 Lib.deBruijn64tab w
theorem C4.aR{w w':aw}(h:C4 w)(hc:M w w'):C4 w':=λj hj=>eJ hc (h j hj)
theorem Te{i:Nat}(hi:i<64):IntKind.u64.wrap ((2:Int) ^ i)=((2 ^ i:Nat):Int):=by
 have h:=Ca hi;have e:(2:Int) ^ i=((2 ^ i:Nat):Int):=by simp
 rw[e];generalize(2:Nat) ^ i=q at *;rw[IntKind.wrap_u64];omega
theorem Vv{S i:Nat}(hS:S<18446744073709551616)(hi:i<64):bits BinOp.or IntKind.u64 (S:Int) (IntKind.u64.wrap ((2:Int) ^ i))=((S|||2 ^ i:Nat):Int):=by rw[Te hi,u64_or_nat _ _ hS (Ca hi)]
theorem YF{au i:Nat}(hT:au<18446744073709551616)(hi:i<64):bits BinOp.andNot IntKind.u64 (au:Int) (IntKind.u64.wrap ((2:Int) ^ i))=((minus au (2 ^ i):Nat):Int):=by
 rw[Te hi,u64_andNot_nat _ _ hT (Ca hi)];rfl
theorem Nn{w:aw}{B b:Nat}{l:List Nd}{v:Value}(h:GM w B b l v)(hT:C4 w){a by_:Nat}(ha:a<l.length)(CG:by_<18446744073709551616):
 ax av 167 #[X (G ⟨b,0,U⟩),I J a,I .u64 by_] w λe w'=>e=ay (I .u64 (vC l by_ a))/\M w w':=by
 obtain⟨A,q,rfl⟩:=bz h.own;obtain⟨x,hx⟩:=bh ha;obtain⟨g,cap,hv,r0,r1,r2⟩:=h.at_ hx;injection hv with hA hn hq;subst hA hq;have hto:=qw hx;rw[<-hto]at r2;have Vw:=C3.begin h.ok by_ a;have c0:=h.c0;obtain⟨R,hR⟩:=bG (vC l by_ a);rw[hR];have hR:Vt l by_ 18446744073709551616 0 (jM l a)=R:=hR;obtain⟨T0,hT0⟩:=bG (jM l a);rw[hT0]at hR Vw r2;have HR:=O hR;have HM:=O Vw;have HH:=O h;have HT:=O hT;have WE:=h.ok.len;have haI:(a:Int)<(l.length:Int):=by omega
 clear hR Vw h hT hto hT0 hx hn r0 r1;generalize hLN:l.length=LN at *;have wC:=O hLN;clear hLN;go_enter func167,ntmps167;go_wp2_with fail
 go_quiet(fail)
 go_wp2_with fail
 go_loopw[7,8] (λs t w'=>∃(n S au:Nat),s=I .u64 S/\t=I .u64 au/\C3 l by_ a n S au/\Vt l by_ n S au=R/\M w w') (λs _ _=>18446744073709551616- (intOf s).toNat)
 case atStart=>exact⟨_,0,T0,rfl,rfl,HM.o,HR.o,by first|exact Ch.r _ _|exact(Ch.r _ _).drew|exact(Ch.r _ _).drewN _⟩
 case round=>
  obtain⟨n,S,au,rfl,rfl,hM,hR,hC⟩:=hrel;by_cases ht:au=0
  ·subst ht;obtain⟨m,rfl⟩:=hM.pos;rw[vB,if_pos rfl]at hR;have bH:=O hR;have HC:=O hC;clear hM hR hC;go_wp2_with fail;go_ret;exact⟨by rw[<-bH.o];rfl,HC.o⟩
  ·obtain⟨m,rfl⟩:=hM.pos;rw[vB,if_neg ht]at hR;have Tf:=hM.next HH.o.ok ht;have t64:=ye HH.o.ok hM.t64;obtain⟨hi,hb⟩:=zN ht t64;have Vu:=vD hM.t64 hb;have HTZ:=O (Tryz.qe8 au t64 wr (λ_=>HT.o.aR hC));have dT:((au:Int)!=0)=true:=by simp;omega
   have dT':(au !=0)=true:=by simp;omega
   unfold na at hR Tf;simp only at hR Tf;have YG:=O hM.Td;have hMs:=O (show S<(S|||2 ^ Lib.ctz 64 au)/\(S|||2 ^ Lib.ctz 64 au)<18446744073709551616 from⟨C3.grow HH.o.ok hM ht,Tf.Td⟩);have TS:=O (λw'=>Gm by_ (Lib.ctz 64 au) CG hi w');generalize hgi:Lib.ctz 64 au=i at *;have Aa:(i:Int)<64:=by omega
   obtain⟨y,hy⟩:=bh (show i<l.length from Vu);obtain⟨g',C9,ti,s0,s1,s2⟩:=(HH.o.aR hC).at_ hy;injection ti with ur Sx hq';injection ur with ur;injection ur with ur;subst ur;rw[<-qw hy]at s2;have PH:=(HH.o.aR hC).c0;have hilI:(i:Int)<(LN:Int):=by have:=wC.o;omega
   have HR':=O hR;have HM':=O Tf;have HC':=O hC;clear hR Tf hC hM s0 s1 hy Sx hq' hb Vu;have Vx:=YG.o;have E1:=O (Vv Vx hi);have E2:=O (YF t64 hi);have o64:=Gn Vx (Ca hi);have u64:=ye HH.o.ok (yc HH.o.ok i);have m64:=Cc (b:=2 ^ i) t64;have E3:=O (show bits BinOp.andNot IntKind.u64 (jM l i:Int) ((S|||2 ^ i:Nat):Int)=((minus (jM l i) (S|||2 ^ i):Nat):Int)from by rw[u64_andNot_nat _ _ u64 o64];rfl);have E4:=O (u64_or_nat (minus au (2 ^ i)) (minus (jM l i) (S|||2 ^ i)) m64 (Cc u64));have hgr:=hMs.o;clear o64 u64 m64 Vx t64 YG hMs;rcases hbt:by_.testBit i with _|_
   all_goals
    rw[hbt]at TS HR' HM';clear hbt;go_wp2_with(first
     |(go_at_call 232;refine HTZ.o.mono ?_;rintro e w2 ⟨rfl,rfl⟩)
     |(go_at_call 169;refine(TS.o _).mono ?_;rintro e w2 ⟨rfl,rfl⟩))
   ·rw[E1.o,E2.o];exact⟨⟨m,_,_,rfl,rfl,HM'.o,HR'.o,HC'.o⟩,by simp only[intOf,Int.toNat_natCast];omega⟩
   ·rw[E1.o,E2.o,E3.o,E4.o];exact⟨⟨m,_,_,rfl,rfl,HM'.o,HR'.o,HC'.o⟩,by simp only[intOf,Int.toNat_natCast];omega⟩
def lD(l:List Nd)(y:Nd):Nat->Nat
 |0=>0
 |k+1=>match l[k]? with
  |some x=>if JV x y then lD l y k|||2 ^ k else lD l y k
  |none=>lD l y k
theorem yg{l:List Nd}{y x:Nd}{k:Nat}(h:l[k]?=G x):lD l y (k+1)=if JV x y then lD l y k|||2 ^ k else lD l y k:=by
 rw[lD,h]
theorem Ce(l:List Nd)(y:Nd)(j:Nat): ∀k,(lD l y k).testBit j=true↔j<k/\∃x:Nd,l[j]?=G x/\JV x y=true
 |0=>by simp[lD]
 |k+1=>by
  have ih:=Ce l y j k;rcases hx:l[k]? with _|x
  ·rw[lD,hx];simp only;rw[ih];refine⟨λ⟨h,h'⟩=>⟨by omega,h'⟩,λ⟨h,h'⟩=>⟨?_,h'⟩⟩;rcases Nat.lt_or_ge j k with h1|h1
   ·exact h1
   ·obtain rfl:j=k:=by omega
    obtain⟨x,GY,_⟩:=h';rw[hx]at GY;cases GY
  ·rw[yg hx];by_cases hb:JV x y=true
   ·rw[if_pos hb,Nat.testBit_or,nL,Bool.or_eq_true,ih,decide_eq_true_eq]
    constructor
    ·rintro(⟨h,h'⟩|rfl)
     ·exact⟨by omega,h'⟩
     ·exact⟨by omega,x,hx,hb⟩
    ·rintro⟨h,h'⟩;rcases Nat.lt_or_ge j k with h1|h1
     ·exact .inl ⟨h1,h'⟩
     ·exact .inr (by omega)
   ·rw[if_neg hb,ih];refine⟨λ⟨h,h'⟩=>⟨by omega,h'⟩,λ⟨h,h'⟩=>⟨?_,h'⟩⟩;rcases Nat.lt_or_ge j k with h1|h1
    ·exact h1
    ·obtain rfl:j=k:=by omega
     obtain⟨x',GY,vT⟩:=h';rw[hx]at GY;injection GY with GY;subst GY;exact absurd vT hb
theorem Gp(l:List Nd)(y:Nd){k:Nat}(hk:k<=64):lD l y k<18446744073709551616:=by
 have h1:lD l y k<2 ^ k:=pk λj hj=>((Ce l y j k).1 hj).1;have h2:(2:Nat) ^ k<=2 ^ 64:=Nat.pow_le_pow_right (by decide) hk;omega
theorem EA{w:aw}{B b:Nat}{l:List Nd}{v:Value}(h:GM w B b l v){a:Nat}{y:Nd}(ha:l[a]?=G y):
 ax av 168 #[X (G ⟨b,0,U⟩),I J a] w λe w'=>e=ay (I .u64 (lD l y l.length))/\M w w':=by
 obtain⟨A,q,rfl⟩:=bz h.own;have c0:=h.c0;have WE:=h.ok.len;have haI:(a:Int)<(l.length:Int):=by have:=bf ha;omega
 have HH:=O h;have HA:=O ha;clear h ha;generalize hn:l.length=n at *;have HN:=O hn;clear hn;have RF:(n:Int)<=64:=by omega
 go_enter func168,ntmps168;go_wp2_with fail
 go_loopw[5,13] (λs i w'=>∃k S:Nat,k<=n/\i=I J k/\s=I .u64 S/\S=lD l y k/\M w w') (λ_ i _=>n- (intOf i).toNat)
 case atStart=>exact⟨0,0,by omega,rfl,rfl,rfl,Ch.r _ _⟩
 case round=>
  obtain⟨k,S,hk,rfl,rfl,hS,hC⟩:=hrel;by_cases hlt:k<n
  ·obtain⟨x,hx⟩:=bh (L:=l) (i:=k) (by rw[HN.o];exact hlt);obtain⟨g,cap,hv,r0,r1,r2⟩:=(HH.o.aR hC).at_ hx;obtain⟨g',C9,ti,s0,s1,s2⟩:=(HH.o.aR hC).at_ HA.o;have Vy:=hv.symm.trans ti;injection hv with hA hn hq;subst hA;injection Vy with Vy _ _;injection Vy with Vy;injection Vy with Vy;subst Vy;have E:=O (Vv (S:=S) (i:=k) (by rw[hS];exact Gp l y (by omega)) (by omega));have PH:=(HH.o.aR hC).c0;have WH:M wr (wr.alloc (az #[I J x.id,I J x.st,I .u64 x.zt9] 250)):=(Ch.r _ wr).alloc _;have BX:=O (aX.new wr 250 #[I J x.id,I J x.st,I .u64 x.zt9]);have y0:=eJ WH PH;have y1:=eJ WH s0;have y2:=eJ WH s1;have y3:=eJ WH s2;have CI:=O (hC.t WH);have pv:=O (yg (y:=y) hx);have HS:=O hS;clear hC WH hS hx ti hq hn;go_upto_region 5 with(fail);generalize wr.alloc (az #[I J x.id,I J x.st,I .u64 x.zt9] 250)=wb at *;generalize wr.heap.size=bx at *;clear r0 r1 r2 s0 s1 s2 PH;have x0:wb.cell? ⟨bx,0,U⟩=G (I J x.id):=by rw[BX.o.c];rfl
   have x1:wb.cell? ⟨bx,1,U⟩=G (I J x.st):=by rw[BX.o.c];rfl
   have x2:wb.cell? ⟨bx,2,U⟩=G (I .u64 x.zt9):=by rw[BX.o.c];rfl
   have HBE:=O (Ez x y wb.drew);obtain⟨be,hbe⟩:=bG (JV x y);rw[hbe]at HBE pv;clear hbe;go_wp2_with fail
   go_still_tail 8,(by kernel_rfl)
   change wpList _ _ _ _ _ wb.drew;go_wp2_with fail;refine HBE.o.mono ?_;rintro e w3 ⟨rfl,gZ⟩;dsimp only;have gT:=O (CI.o.t (((Ch.r (λ_=>False) wb).drew).t gZ));clear gZ x0 x1 x2 y0 y1 y2 y3 HBE;cases be
   ·go_wp2_with fail;exact⟨⟨k+1,_,by omega,by go_num,rfl,by rw[pv.o,HS.o];rfl,gT.o⟩,by simp[intOf];omega⟩
   ·go_wp2_with fail;rw[E.o];exact⟨⟨k+1,_,by omega,by go_num,rfl,by rw[pv.o,HS.o];rfl,gT.o⟩,by simp[intOf];omega⟩
  ·obtain rfl:k=n:=by omega
   have HS:=O hS;have HC:=O hC;clear hlt hk hS hC;go_wp2_with fail;go_ret;exact⟨by rw[<-HS.o];rfl,HC.o⟩
end Go.Proofs.YtmaimjajdbgmiaaGreatDoor.Waits
namespace Go.Proofs.YtmaimjajdbgmiaaGreatDoor.Waits
open Go.RowKit Go.Sort
theorem info_parts{t:TypeId}{z:Option Value}{a b:Nat}(h:(av.info? t).map (λi=>(i.zero,i.size,i.bytes))=G (z,a,b)): ∃i,av.info? t=G i/\i.zero=z/\i.size=a/\i.bytes=b:=by
 obtain⟨i,h1,h2⟩:=Option.map_eq_some_iff.1 h;injection h2 with h2 h3;injection h3 with h3 h4;exact⟨i,h1,h2,h3,h4⟩
theorem iH:(av.info? 3).map (λi=>(i.zero,i.size,i.bytes))=G (G (I J 0),1,8):=by kernel_rfl
abbrev NL(zs:List Int):List Int:=zs.mergeSort λx y=>decide (x<=y)
abbrev ints(zs:List Int):List Value:=zs.map (I J)
theorem jZ{base n cap:Nat}{A:Option Addr}{zs:List Int}{w:aw}(h:w.ownsRow base 3 1 (T A n cap) n (ints zs))(hn:n<=1000000):
 ax av 170 #[T A n cap] w λe w'=>
  e=ay (aB #[])/\w'.ownsRow base 3 1 (T A n cap) n (ints (NL zs))/\Ch (λk=>(T A n cap).ownBlock=G k) w w':=by
 have hlen:=h.1;rcases h.2 with⟨h0,h1⟩|⟨g',C9,cur,hv,hg,hb,tD,fA,uy,ev⟩
 ·injection h0 with hA Sx hq;subst hA Sx hq;obtain rfl:zs=[]:=by simpa [ints]using hlen
  refine(Tryz.slices_Sort_int_none U 0 w).mono ?_;rintro e w' ⟨he,rfl⟩;exact⟨he,by simpa [NL,ints]using h,Ch.r _ _⟩
 ·injection hv with hA Sx hq;subst hA hq;have hzl:zs.length=n:=by simpa [ints]using hlen
  subst hzl;have YX:cur.toList.take zs.length=zs.map (I J):=by simpa using ev
  have hlt:g'<w.heap.size:=aX.lt (t:=3) hb;refine(Tryz.slices_Sort_int g' 0 cap zs w (holds_of_blockI hb YX) hlt (by omega)).mono ?_;rintro e w' ⟨he,k,os,rfl⟩;refine⟨he,ownsRow_sortedI (by simp) hg hb tD fA uy,?_⟩;have:=grownBy_sortedI (w:=w) (g:=g') (n:=k) (os:=os) ((zs.mergeSort λx y=>decide (x<=y)).toArray);exact(Ch.bF this).mono λj hj=>by injection hj with hj;subst hj;rfl
theorem RV{w w' eZ:aw}{base n cap:Nat}{A:Option Addr}{e:TypeId}{xs:List Value}(h:w'.ownsRow base e 1 (T A n cap) n xs)(hb:w.heap.size<=base)(h1:M w w')(h2:Ch (λk=>(T A n cap).ownBlock=G k) w' eZ):M w eZ:=
 Ch.trans h1 h2 λk hk=>.inr (by
   rcases h.2 with⟨h0,_⟩|⟨g',C9,cur,hv,hg,_⟩
   ·rw[h0]at hk;simp[Value.ownBlock]at hk
   ·rw[hv]at hk;simp[Value.ownBlock]at hk;omega)
theorem ra{w:aw}{B size n:Nat}{e:TypeId}{v:Value}{xs:List Value}(h:w.ownsRow B e size v n xs){g:Nat}(hg:v.ownBlock=G g):B<=g/\g<w.heap.size:=by
 rcases h.2 with⟨rfl,_⟩|⟨g',cap,cur,rfl,hB,hh,_⟩
 ·simp[Value.ownBlock]at hg
 ·simp[Value.ownBlock]at hg;subst hg;exact⟨hB,aX.lt hh⟩
def RX(l:List Nd)(i:Nat):Int:=(l.getD i ⟨0,0,0⟩).id
theorem RY{l:List Nd}{i:Nat}{x:Nd}(h:l[i]?=G x):RX l i=x.id:=by
 unfold RX;rw[List.getD_eq_getElem?_getD,h];rfl
theorem Jb(zs:List Int)(z:Int):ints (zs++[z])=ints zs++[I J z]:=by simp[ints]
noncomputable def EN (l:List Nd) (i:Nat):Bool:=match l[i]? with
 |some y=>(vC l (lD l y l.length) i).testBit i
 |none=>false
noncomputable def oa (l:List Nd) (k:Nat):List Int:=((List.range k).filter (EN l)).map (RX l)
theorem Jc{l:List Nd}{k:Nat}{x:Nd}(h:l[k]?=G x):oa l (k+1)=oa l k++(if EN l k then [x.id]else []):=by
 unfold oa;rw[List.range_succ,List.filter_append,List.map_append];congr 1
 by_cases hv:EN l k=true
 ·rw[if_pos hv];simp[hv,RY h]
 ·rw[if_neg hv];simp[hv]
theorem vL(l:List Nd)(k:Nat):(oa l k).length<=k:=by
 unfold oa;rw[List.length_map];exact aO (List.length_filter_le _ _) (by simp)
theorem sX{w:aw}{B b:Nat}{l:List Nd}{v:Value}(h:GM w B b l v)(hT:C4 w):
 ax av 100 #[X (G ⟨b,0,U⟩)] w λe w'=>∃A c,e=ay (T A (oa l l.length).length c)/\w'.ownsRow w.heap.size 3 1 (T A (oa l l.length).length c) (oa l l.length).length (ints (NL (oa l l.length)))/\M w w':=by
 obtain⟨A,q,rfl⟩:=bz h.own;have c0:=h.c0;have WE:=h.ok.len;have HH:=O h;have HT:=O hT;obtain⟨i1,dX,er,eu,eK⟩:=info_parts iH;clear h hT;generalize hn:l.length=n at *;have HN:=O hn;clear hn;have RF:(n:Int)<=64:=by omega
 go_enter func100,ntmps100;go_wp2_with fail
 go_loopw[3,13] (λo i w'=>∃k:Nat,k<=n/\i=I J k/\w'.ownsRow w.heap.size 3 1 o (oa l k).length (ints (oa l k))/\M w w') (λ_ i _=>n- (intOf i).toNat)
 case atStart=>exact⟨0,by omega,rfl,⟨rfl,.inl ⟨rfl,rfl⟩⟩,Ch.r _ _⟩
 case round=>
  obtain⟨k,hk,rfl,hO,hC⟩:=hrel;obtain⟨A',c',rfl⟩:=bz hO;have HC:=O hC;have HO:=O hO;have jh:=hC.size;by_cases hlt:k<n
  ·obtain⟨x,hx⟩:=bh (L:=l) (i:=k) (by rw[HN.o];exact hlt);obtain⟨g,cap,hv,r0,r1,r2⟩:=(HH.o.aR hC).at_ hx;injection hv with hA hn hq;subst hA;have hVS:=Jc hx;have hvk:EN l k=(vC l (lD l x l.length) k).testBit k:=by unfold EN;rw[hx]
   have hCb:M wr (wr.alloc (az #[I J x.id,I J x.st,I .u64 x.zt9] 250)):=(Ch.r _ wr).alloc _;have BX:=O (aX.new wr 250 #[I J x.id,I J x.st,I .u64 x.zt9]);have CI:=O (hC.t hCb);have HEL:=O (EA (HH.o.aR CI.o) hx);have HFR:=O (λw' (hc:M w w')=>Nn (a:=k) (by_:=lD l x l.length) (HH.o.aR hc) (HT.o.aR hc) (by rw[HN.o];exact hlt) (Gp l x (by rw[HN.o];exact WE)));have TS:=O (λw'=>Gm (vC l (lD l x l.length) k) k (Nk HH.o.ok _ _) (by omega) w');obtain⟨vb,hvb⟩:=bG (EN l k);rw[<-hvk,hvb]at TS;rw[hvb]at hVS;have V6:=O hVS;have ny:=vL l k;have HOB:=O (bg HO.o hCb (λ_ _ h=>h));clear hC hO hx hn hq hvk hvb hVS hCb;generalize vC l (lD l x l.length) k=F at *;generalize lD l x l.length=EL at *;generalize YY:(oa l k).length=vn at *;go_upto_region 7 with(fail);generalize wr.alloc (az #[I J x.id,I J x.st,I .u64 x.zt9] 250)=wb at *;generalize wr.heap.size=bx at *;clear r0 r1 r2;go_wp2_with fail;refine HEL.o.mono ?_;rintro e w2 ⟨rfl,iD⟩;have bJ:=O iD;clear iD HEL;dsimp only;go_wp2_with fail;refine(HFR.o _ (CI.o.t bJ.o)).mono ?_;rintro e w3 ⟨rfl,gZ⟩;have cE:=O (bJ.o.t gZ);clear gZ HFR bJ;dsimp only;go_wp2_with fail;refine(TS.o _).mono ?_;rintro e w4 ⟨rfl,rfl⟩;dsimp only;have gT:=O (CI.o.t cE.o);have JK:=O (bg HOB.o cE.o (λ_ _ h=>h));have hsz3:=gT.o.size;cases vb
   ·go_wp2_with fail;refine⟨⟨k+1,by omega,by go_num,?_,gT.o⟩,by simp[intOf];omega⟩;rw[V6.o];simp only[Bool.false_eq_true,if_false,List.append_nil];rw[YY];exact JK.o
   ·have x0:w3.cell? ⟨bx,0,U⟩=G (I J x.id):=by rw[(BX.o.ch cE.o (λh=>h)).c];rfl
    go_wp2_with(first
     |(at_builtin
       refine bp _ rfl (.tmp 26) (.tmp 29) _ rfl w.heap.size 3 i1 _ 1 8 underlying40 dX er eu eK rfl (by omega) _ vn (ints (oa l k)) rfl
        (bg JK.o ((Ch.r (λ_=>False) _).alloc _) (λ_ _ h=>h)) (w3.heap.size+1) (G ⟨w3.heap.size,0,U⟩) 1 1 [I J x.id] rfl (cD w3 3 #[I J x.id] 1 1 rfl) (by simp[Value.oneCell']) (by simp only[maxLen];omega) (by omega) (by simp;omega) ?_
       intro v7 w7 fc kt jG;have td:=O fc;have wk:=O kt;clear fc kt jG))
    refine⟨⟨k+1,by omega,by go_num,?_,((gT.o:Ch (λ_=>False) w w3).alloc _).grown wk.o (λg hg=>.inr (ra JK.o hg).1)⟩,by simp[intOf];omega⟩;rw[V6.o];simp only[if_true];rw[Jb,aL,YY];exact td.o
  ·obtain rfl:k=n:=by omega
   have ny:=vL l k;generalize YY:(oa l k).length=vn at *;have HS:=O (jZ hO (by omega));have wu:=O hO;clear hlt hk hO hC;go_wp2_with fail;refine HS.o.mono ?_;rintro e w2 ⟨rfl,X4,OT⟩;have HF:=O (RV wu.o (aN _) HC.o OT);have JK:=O X4;clear X4 OT;dsimp only;go_wp2_with fail;go_ret;exact⟨A',c',by rw[YY];rfl,by rw[YY];exact JK.o,HF.o⟩
end Go.Proofs.YtmaimjajdbgmiaaGreatDoor.Waits
namespace Go.Proofs.YtmaimjajdbgmiaaGreatDoor.Waits
open Go.RowKit Go.Sort
theorem Jd:(av.info? 250).map (λi=>(i.zero,i.size,i.bytes))=G (G (aC #[I J 0,I J 0,I .u64 0]),3,24):=by kernel_rfl
structure KG(w0:aw)(gb:Nat)(l:List Nd)(w:aw):Prop where
 gm: ∃v,GM w w0.heap.size gb l v
 below:Below w0.heap.size w0 w
def vM(w w':aw):Prop:=∀g t cs,t≠250->t≠241->aX w g t cs->aX w' g t cs
theorem vM.refl(w:aw):vM w w:=λ_ _ _ _ _ h=>h
theorem vM.trans{w w' eZ:aw}(h:vM w w')(h':vM w' eZ):vM w eZ:=λg t cs h1 h2 hb=>h' g t cs h1 h2 (h g t cs h1 h2 hb)
theorem vM.aR{w w':aw}(h:M w w'):vM w w':=λg t cs _ _ hb=>hb.ch h (λh=>h)
section
variable{w0 w w':aw}{gb:Nat}{l:List Nd}
theorem KG.size(h:KG w0 gb l w):w0.heap.size<=w.heap.size:=h.below.size
theorem KG.aR(h:KG w0 gb l w)(hc:M w w'):KG w0 gb l w':=by
 obtain⟨v,hm⟩:=h.gm;exact⟨⟨v,hm.aR hc⟩,Ch.below h.below hc (λ_ h=>h.elim) h.below.size⟩
theorem NM(w0 w:aw)(hb:Below w0.heap.size w0 w):ax av 95 #[] w λe w'=>e=ay (X (G ⟨w.heap.size,0,U⟩))/\KG w0 w.heap.size [] w'/\M w w':=
 (pM w).mono λ_ _ ⟨h1,h2⟩=>by
   have hc:M w (w.alloc (az #[T U 0 0] 241)):=(Ch.r _ w).alloc _;subst h2;exact⟨h1,⟨⟨_,aX.new w 241 _,⟨rfl,.inl ⟨rfl,rfl⟩⟩,hb.size,⟨by simp,by simp,by simp,by simp,by simp,by simp⟩⟩,Ch.below hb hc (λ_ h=>h.elim) hb.size⟩,hc⟩
end
def vN(l:List Nd)(id st:Int):Int:=
 if id<0\/st<0\/1099511627776<st then 1 else
  match l.find? (λx=>x.id==id)with
  |some x=>if x.st=st then 0 else 8
  |none=>if 64<=l.length then 7 else 0
def ma(l:List Nd)(id st:Int):List Nd:=if vN l id st=0/\∀x:Nd,x∈l->x.id≠id then l++[⟨id,st,0⟩]else l
theorem Je{α:Type}{l:List α}(h:l.Nodup){i j:Nat}(hi:i<l.length)(hj:j<l.length)(e:l[i]=l[j]):i=j:=by
 rcases Nat.lt_trichotomy i j with hl|hl|hl
 ·exact absurd e (List.pairwise_iff_getElem.1 h i j hi hj hl)
 ·exact hl
 ·exact absurd e.symm (List.pairwise_iff_getElem.1 h j i hj hi hl)
theorem RZ{l:List Nd}(hn:(l.map Nd.id).Nodup){i:Nat}{x:Nd}(hx:l[i]?=G x):l.find? (λy=>y.id==x.id)=G x:=by
 rcases hf:l.find? (λy=>y.id==x.id)with _|y
 ·have:=List.find?_eq_none.1 hf x (bS hx);simp at this
 ·have h1:=List.find?_some hf;have h2:=List.mem_of_find?_eq_some hf;simp at h1;obtain⟨j,hj⟩:=List.mem_iff_getElem?.1 h2;have e1:(l.map Nd.id)[j]?=G x.id:=by rw[List.getElem?_map,hj,Option.map_some,h1]
  have e2:(l.map Nd.id)[i]?=G x.id:=by rw[List.getElem?_map,hx];rfl
  have V5:=bf e1;have ZE:=bf e2;have:j=i:=by
   rw[List.getElem?_eq_getElem V5]at e1;rw[List.getElem?_eq_getElem ZE]at e2;injection e1 with e1;injection e2 with e2;exact Je hn V5 ZE (e1.trans e2.symm)
  subst this;rw[hx]at hj;injection hj with hj;rw[hj];rw[hj]at hf;exact hf
theorem R0{l:List Nd}(h:Ok l){id st:Int}(hl:l.length<64)(h0:0<=id)(h1:id<=9223372036854775807)(hs:0<=st/\st<=1099511627776)(hn: ∀x:Nd,x∈l->x.id≠id):Ok (l++[⟨id,st,0⟩]):=by
 refine⟨by simp;omega,λx hx=>?_,?_,λi x hx=>?_,λx hx=>?_,λx hx=>?_⟩
 ·rw[aL,aM];rcases List.mem_append.1 hx with hx|hx
  ·have:=h.bits x hx;rw[Nat.pow_succ];omega
  ·simp at hx;subst hx;exact Nat.two_pow_pos _
 ·rw[List.map_append,List.nodup_append];refine⟨h.ids,by simp,λa ha b hb e=>?_⟩;simp at hb;obtain⟨x,hx,rfl⟩:=List.mem_map.1 ha;exact hn x hx (e.trans hb)
 ·by_cases hi:i<l.length
  ·rw[List.getElem?_append_left hi]at hx;exact h.self i x hx
  ·rw[List.getElem?_append_right (by omega)]at hx;have:=bS hx;simp at this;subst this;simp
 ·rcases List.mem_append.1 hx with hx|hx
  ·exact h.id0 x hx
  ·simp at hx;subst hx;exact⟨h0,h1⟩
 ·rcases List.mem_append.1 hx with hx|hx
  ·exact h.st0 x hx
  ·simp at hx;subst hx;exact hs
theorem EO(l:List Nd)(x:Nd):mZ (l++[x])=mZ l++[I J x.id,I J x.st,I .u64 x.zt9]:=by simp[mZ]
section
variable{w0 w:aw}{gb:Nat}{l:List Nd}
theorem NN(h:KG w0 gb l w)(id st:Int)(hid:id<=9223372036854775807):
 ax av 97 #[X (G ⟨gb,0,U⟩),I J id,I J st] w λe w'=>e=ay (I J (vN l id st))/\KG w0 gb (ma l id st) w'/\vM w w':=by
 obtain⟨E,hE⟩:=bG (vN l id st);by_cases nX:id<0\/st<0\/1099511627776<st
 ·have og:E=1:=by rw[<-hE];unfold vN;rw[if_pos nX]
  have hL:ma l id st=l:=by unfold ma;rw[hE,og,if_neg (by simp)]
  rw[hL,hE,og];have HH:=O h;clear h hE hL og;by_cases h1:id<0
  ·have d:decide (id<0)=true:=decide_eq_true h1;clear nX;go_enter func97,ntmps97;go_wp2_with fail;go_ret;exact⟨rfl,HH.o,vM.refl _⟩
  ·have d:decide (id<0)=false:=decide_eq_false h1;by_cases h2:st<0
   ·have d2:decide (st<0)=true:=decide_eq_true h2;clear nX;go_enter func97,ntmps97;go_wp2_with fail;go_ret;exact⟨rfl,HH.o,vM.refl _⟩
   ·have d2:decide (st<0)=false:=decide_eq_false h2;have d3:decide (1099511627776<st)=true:=decide_eq_true (by omega);have h3:1099511627776<st:=by omega
    clear nX;go_enter func97,ntmps97;go_wp2_with fail;go_ret;exact⟨rfl,HH.o,vM.refl _⟩
 ·have d1:decide (id<0)=false:=decide_eq_false (by omega);have d2:decide (st<0)=false:=decide_eq_false (by omega);have d3:decide (1099511627776<st)=false:=decide_eq_false (by omega);obtain⟨v,hm⟩:=h.gm;obtain⟨A,q,rfl⟩:=bz hm.own;have OX:=O (kR hm id);have WE:=hm.ok.len;rcases sd l id with⟨hx,mr⟩|⟨i,p,hx,Gu,NP⟩
  ·rw[hx]at OX;have hfn:l.find? (λx=>x.id==id)=U:=List.find?_eq_none.2 λx hx=>by simpa using mr x hx
   have og:E=if 64<=l.length then 7 else 0:=by
    rw[<-hE];unfold vN;rw[if_neg nX,hfn]
   by_cases Tr:64<=l.length
   ·rw[if_pos Tr]at og;have hL:ma l id st=l:=by unfold ma;rw[hE,og,if_neg (by simp)]
    rw[hL,hE,og];have HH:=O h;have HM:=O hm;clear h hE hL og hx hfn mr hm;generalize hn:l.length=n at *;have dl:decide ((64:Int)<=(n:Int))=true:=by simp;omega
    have dl':decide (64<=n)=true:=by simp;omega
    clear hn;go_enter func97,ntmps97;go_wp2_with fail;refine OX.o.mono ?_;rintro e w2 ⟨rfl,iD⟩;have c0:=(HM.o.aR iD).c0;have bJ:=O iD;clear iD OX;dsimp only;go_wp2_with fail;go_ret;exact⟨rfl,HH.o.aR bJ.o,vM.aR bJ.o⟩
   ·rw[if_neg Tr]at og;have hL:ma l id st=l++[⟨id,st,0⟩]:=by unfold ma;rw[hE,og,if_pos ⟨rfl,mr⟩]
    rw[hL,hE,og];have HH:=O h;have HM:=O hm;have F7:=O (R0 (st:=st) hm.ok (by omega) (by omega) hid (by omega) mr);obtain⟨i1,dX,er,eu,eK⟩:=info_parts Jd;have hszw:=h.size;clear h hE hL og hx hfn mr hm nX;generalize hn:l.length=n at *;have HN:=O hn;have dl:decide ((64:Int)<=(n:Int))=false:=by simp;omega
    have dl':decide (64<=n)=false:=by simp;omega
    have RF:(n:Int)<=64:=by omega
    clear hn;go_enter func97,ntmps97;go_wp2_with fail;refine OX.o.mono ?_;rintro e w2 ⟨rfl,iD⟩;have c0:=(HM.o.aR iD).c0;have cN:=O (HM.o.aR iD);have YZ:=O (HH.o.aR iD);have bJ:=O iD;have hsz2:=YZ.o.size;clear iD OX;dsimp only;go_wp2_with(first
     |(at_builtin
       refine bp _ rfl (.tmp 54) (.tmp 58) _ rfl w0.heap.size 250 i1 _ 3 24 underlying239 dX er eu eK rfl (by omega) _ n (mZ l) rfl
        (by have:=cN.o.own;rw[HN.o]at this;exact bg this ((Ch.r (λ_=>False) _).alloc _) (λ_ _ h=>h)) (w2.heap.size+1) (G ⟨w2.heap.size,0,U⟩) 1 1 [I J id,I J st,I .u64 0] rfl (cD w2 250 #[I J id,I J st,I .u64 0] 1 3 rfl) (by simp[Value.oneCell']) (by simp only[maxLen];omega) (by omega) (by simp;omega) ?_
       intro v7 w7 fc kt jG;have lQ:=(cN.o.aW.alloc (az #[I J id,I J st,I .u64 0] 250)).grown kt (λe=>aV cN.o.own cN.o.aW (by decide) e.symm);have f7:=lQ.frozen 0;have e7:=lQ.c 0;simp at e7;have td:=O fc;have wk:=O kt;have ZU:=O lQ;obtain⟨A7,c7,rfl⟩:=bz fc;clear fc kt jG lQ))
    go_ret;have Y0:Ch (λg=>g=gb\/(T A n q).ownBlock=G g) w (w7.setCell ⟨gb,0,U⟩ (T A7 (n+1) c7)):=
     ((((Ch.r (λ_=>False) w).t bJ.o).alloc _).mono (λ_ h=>h.elim)|>.grown wk.o (λg hg=>.inl (.inr hg))).setCell (p:=⟨gb,0,U⟩) (.inl (.inl rfl)) _
    refine⟨rfl,⟨⟨T A7 (n+1) c7,⟨?_,?_,HM.o.bB,F7.o⟩⟩,Ch.below HH.o.below Y0 (λg hg=>?_) HH.o.size⟩,λg t cs h1 h2 hb=>hb.ch Y0 (λhg=>?_)⟩
    ·have:=ZU.o.bm 0 (T A7 (n+1) c7);simpa using this
    ·rw[aL,HN.o,aM,EO];exact fi td.o (λe=>aV td.o ZU.o (by decide) e) _
    ·rcases hg with rfl|hg
     ·exact HM.o.bB
     ·exact(ra HM.o.own hg).1
    ·rcases hg with rfl|hg
     ·exact HM.o.aW.lF hb (λe=>h2 e.symm) rfl
     ·exact aV HM.o.own hb (λe=>h1 e.symm) hg
  ·rw[hx]at OX;subst NP;have hfn:=RZ hm.ok.ids Gu;have og:E=if p.st=st then 0 else 8:=by
    rw[<-hE];unfold vN;rw[if_neg nX,hfn]
   have hL:ma l p.id st=l:=by unfold ma;rw[if_neg (λhh=>hh.2 p (bS Gu) rfl)]
   rw[hL,hE];have HH:=O h;have HM:=O hm;have HX:=O Gu;have Vu:=bf Gu;have Aa:(i:Int)<(l.length:Int):=by omega
   have dg:decide ((0:Int)<=(i:Int))=true:=by simp
   clear h hE hL hx hfn hm nX Gu;by_cases kO:p.st=st
   ·rw[if_pos kO]at og;have ds:(p.st==st)=true:=by simpa using kO
    subst og;clear kO;go_enter func97,ntmps97;go_wp2_with fail;refine OX.o.mono ?_;rintro e w2 ⟨rfl,iD⟩;obtain⟨g,cap,hv,r0,r1,r2⟩:=(HM.o.aR iD).at_ HX.o;injection hv with hA hn hq;subst hA;have c0:=(HM.o.aR iD).c0;have bJ:=O iD;clear iD OX hn hq;dsimp only;go_wp2_with fail;go_ret;exact⟨rfl,HH.o.aR bJ.o,vM.aR bJ.o⟩
   ·rw[if_neg kO]at og;have ds:(p.st==st)=false:=by simpa using kO
    subst og;clear kO;go_enter func97,ntmps97;go_wp2_with fail;refine OX.o.mono ?_;rintro e w2 ⟨rfl,iD⟩;obtain⟨g,cap,hv,r0,r1,r2⟩:=(HM.o.aR iD).at_ HX.o;injection hv with hA hn hq;subst hA;have c0:=(HM.o.aR iD).c0;have bJ:=O iD;clear iD OX hn hq;dsimp only;go_wp2_with fail;go_ret;exact⟨rfl,HH.o.aR bJ.o,vM.aR bJ.o⟩
end
end Go.Proofs.YtmaimjajdbgmiaaGreatDoor.Waits
namespace Go.Proofs.YtmaimjajdbgmiaaGreatDoor.Waits
open Go.RowKit Go.Sort
def vO(l:List Nd)(a b:Int):Int:=if a=b then 1 else if idxOf l a<0\/idxOf l b<0 then 6 else 0
def ky(l:List Nd)(i:Nat)(t:Nat):List Nd:=l.modify i (λx=>(⟨x.id,x.st,t⟩:Nd))
def nf(l:List Nd)(a b:Int):List Nd:=if vO l a b=0 then ky l (idxOf l a).toNat (jM l (idxOf l a).toNat|||2 ^ (idxOf l b).toNat)else l
theorem Jf{l:List Nd}{i:Nat}{x:Nd}(h:l[i]?=G x)(t:Nat):ky l i t=l.set i (⟨x.id,x.st,t⟩:Nd):=by
 unfold ky;refine List.ext_getElem? λk=>?_;rw[List.getElem?_modify,List.getElem?_set];have hl:=bf h;by_cases e:i=k
 ·subst e;rw[h];simp[hl]
 ·simp[e]
theorem nN(l:List Nd)(i t:Nat):(ky l i t).length=l.length:=by simp[ky]
theorem se(l:List Nd)(i t j:Nat):(ky l i t)[j]?=(l[j]?).map λx=>if i=j then(⟨x.id,x.st,t⟩:Nd)else x:=by
 unfold ky;rw[List.getElem?_modify];rcases l[j]? with _|x
 ·rfl
 ·rfl
theorem Jg{β:Type}(f:Nd->β)(hf: ∀(x:Nd) (t:Nat),f (⟨x.id,x.st,t⟩:Nd)=f x)(l:List Nd)(i t:Nat):(ky l i t).map f=l.map f:=by
 refine List.ext_getElem? λj=>?_;rw[List.getElem?_map,List.getElem?_map,se];rcases l[j]? with _|x
 ·rfl
 ·simp only[Option.map_some];split
  ·rw[hf]
  ·rfl
theorem nO{l:List Nd}{i t:Nat}{x:Nd}(h:x∈ky l i t): ∃y:Nd,y∈l/\x.id=y.id/\x.st=y.st/\(x.zt9=t\/x.zt9=y.zt9):=by
 obtain⟨j,hj⟩:=List.mem_iff_getElem?.1 h;rw[se]at hj;rcases hy:l[j]? with _|y
 ·rw[hy]at hj;cases hj
 ·rw[hy]at hj;injection hj with hj;refine⟨y,bS hy,?_⟩;subst hj;split
  ·exact⟨rfl,rfl,.inl rfl⟩
  ·exact⟨rfl,rfl,.inr rfl⟩
theorem NQ{l:List Nd}(h:Ok l){i t:Nat}(ht:t<2 ^ l.length)(hi:t.testBit i=false):Ok (ky l i t):=by
 refine⟨by rw[nN];exact h.len,λx hx=>?_,by rw[Jg _ (λ_ _=>rfl)];exact h.ids,λj x hx=>?_,λx hx=>?_,λx hx=>?_⟩
 ·rw[nN];obtain⟨y,hy,_,_,e⟩:=nO hx;rcases e with e|e
  ·rw[e];exact ht
  ·rw[e];exact h.bits y hy
 ·rw[se]at hx;rcases hy:l[j]? with _|y
  ·rw[hy]at hx;cases hx
  ·rw[hy]at hx;injection hx with hx;subst hx;simp only;by_cases e:i=j
   ·rw[if_pos e];rw[<-e];exact hi
   ·rw[if_neg e];exact h.self j y hy
 ·obtain⟨y,hy,e,_⟩:=nO hx;rw[e];exact h.id0 y hy
 ·obtain⟨y,hy,_,e,_⟩:=nO hx;rw[e];exact h.st0 y hy
theorem Jh{l:List Nd}{i:Nat}{x:Nd}(h:l[i]?=G x)(t:Nat):(mZ l).set (i*3+2) (I .u64 t)=mZ (l.set i (⟨x.id,x.st,t⟩:Nd)):=
 pC (f:=λx:Nd=>[I J x.id,I J x.st,I .u64 x.zt9]) (m:=3) (λ_ _=>rfl) h (j:=2) (by omega) rfl
section
variable{w0 w:aw}{gb:Nat}{l:List Nd}
theorem NR{g q:Nat}(hm:GM w w0.heap.size gb l (T (G ⟨g,0,U⟩) l.length q))(hb:Below w0.heap.size w0 w){i t:Nat}(hi:i<l.length)(sQ:Ok (ky l i t)):
 GM (w.setCell ⟨g,i*3+2,U⟩ (I .u64 t)) w0.heap.size gb (ky l i t) (T (G ⟨g,0,U⟩) (ky l i t).length q)/\Below w0.heap.size w0 (w.setCell ⟨g,i*3+2,U⟩ (I .u64 t))/\vM w (w.setCell ⟨g,i*3+2,U⟩ (I .u64 t)):=by
 obtain⟨x,hx⟩:=bh hi;obtain⟨cur,ev⟩:=ef hm.own;have nb:gb≠g:=hm.aW.lF ev (by decide);have Y0:Ch (λk=>k=g) w (w.setCell ⟨g,i*3+2,U⟩ (I .u64 t)):=(Ch.r (λk=>k=g) w).setCell (p:=⟨g,i*3+2,U⟩) (.inl rfl) _;refine⟨⟨?_,?_,hm.bB,sQ⟩,Ch.below hb Y0 (λk hk=>?_) hb.size,λk t' cs h1 h2 hk=>hk.ch Y0 (λe=>?_)⟩
 ·rw[nN];exact hm.aW.cv (p:=⟨g,i*3+2,U⟩) nb _
 ·have:=(hm.own.stored (i*3+2) (I .u64 t)).1;rw[Jh hx, <-Jf hx]at this;rw[nN];exact this
 ·subst hk;exact(ra hm.own (g:=k) rfl).1
 ·subst e;exact ev.lF hk (λe=>h1 e.symm) rfl
theorem NS(h:KG w0 gb l w)(x y:Int):
 ax av 99 #[X (G ⟨gb,0,U⟩),I J x,I J y] w λe w'=>e=ay (I J (vO l x y))/\KG w0 gb (nf l x y) w'/\vM w w':=by
 obtain⟨E,hE⟩:=bG (vO l x y);by_cases NT:x=y
 ·have og:E=1:=by rw[<-hE];unfold vO;rw[if_pos NT]
  have hL:nf l x y=l:=by unfold nf;rw[hE,og,if_neg (by decide)]
  rw[hL,hE,og];have HH:=O h;have d:(x==y)=true:=by simpa using NT
  clear h hE hL og NT;go_enter func99,ntmps99;go_wp2_with fail;go_ret;exact⟨rfl,HH.o,vM.refl _⟩
 ·have d:(x==y)=false:=by simpa using NT
  obtain⟨v,hm⟩:=h.gm;have CY:=O (kR hm x);have Af:=O (λw' (hc:M w w')=>kR (hm.aR hc) y);have HH:=O h;have WE:=hm.ok.len;rcases sd l x with⟨hx,_⟩|⟨i,p,hx,Gu,NP⟩
  ·have og:E=6:=by rw[<-hE];unfold vO;rw[if_neg NT,if_pos (.inl (by rw[hx];decide))]
   have hL:nf l x y=l:=by unfold nf;rw[hE,og,if_neg (by decide)]
   rw[hL,hE,og];rw[hx]at CY;clear h hE hL og NT hx hm;go_enter func99,ntmps99;go_wp2_with fail;refine CY.o.mono ?_;rintro e w2 ⟨rfl,iD⟩;have bJ:=O iD;clear iD CY;dsimp only;go_wp2_with fail;refine(Af.o _ bJ.o).mono ?_;rintro e w3 ⟨rfl,gZ⟩;have cE:=O (bJ.o.t gZ);clear gZ Af bJ;dsimp only;go_wp2_with fail;go_ret;exact⟨rfl,HH.o.aR cE.o,vM.aR cE.o⟩
  ·have dx:decide ((i:Int)<0)=false:=by simp
   rcases sd l y with⟨hy,_⟩|⟨j,p',hy,WQ,WR⟩
   ·have og:E=6:=by rw[<-hE];unfold vO;rw[if_neg NT,if_pos (.inr (by rw[hy];decide))]
    have hL:nf l x y=l:=by unfold nf;rw[hE,og,if_neg (by decide)]
    rw[hL,hE,og];rw[hx]at CY;rw[hy]at Af;clear h hE hL og NT hx hy hm Gu NP;go_enter func99,ntmps99;go_wp2_with fail;refine CY.o.mono ?_;rintro e w2 ⟨rfl,iD⟩;have bJ:=O iD;clear iD CY;dsimp only;go_wp2_with fail;refine(Af.o _ bJ.o).mono ?_;rintro e w3 ⟨rfl,gZ⟩;have cE:=O (bJ.o.t gZ);clear gZ Af bJ;dsimp only;go_wp2_with fail;go_ret;exact⟨rfl,HH.o.aR cE.o,vM.aR cE.o⟩
   ·have dy:decide ((j:Int)<0)=false:=by simp
    have og:E=0:=by rw[<-hE];unfold vO;rw[if_neg NT,if_neg (by rw[hx,hy];omega)]
    have hL:nf l x y=ky l i (jM l i|||2 ^ j):=by unfold nf;rw[hE,og,if_pos rfl,hx,hy,Int.toNat_natCast,Int.toNat_natCast]
    rw[hL,hE,og];rw[hx]at CY;rw[hy]at Af;obtain⟨g,q,hv,r0,r1,r2⟩:=hm.at_ Gu;subst hv;have Vu:=bf Gu;have PC:=bf WQ;have Aa:(i:Int)<(l.length:Int):=by omega
    have Ot:(j:Int)<64:=by omega
    have qg3:j<64:=by omega
    have eQ:i≠j:=λe=>by
     subst e;rw[Gu]at WQ;injection WQ with WQ;exact NT (by rw[<-NP, <-WR,WQ])
    have ht:jM l i|||2 ^ j<2 ^ l.length:=pk λk hk=>by
     rw[Nat.testBit_or,nL,Bool.or_eq_true,decide_eq_true_eq]at hk;rcases hk with hk|hk
     ·exact vD (yc hm.ok i) hk
     ·omega
    have hti:(jM l i|||2 ^ j).testBit i=false:=by
     rw[Nat.testBit_or,nL,qw Gu,hm.ok.self i p Gu];simp;omega
    have F7:=O (NQ hm.ok ht hti);have HB:=O (Vv (ye hm.ok (yc hm.ok i)) qg3);rw[<-qw Gu]at r2;have HM:=O hm;have HX:=O r2;have HIL:=O Vu;obtain⟨au,hT⟩:=bG (jM l i|||2 ^ j);rw[hT]at F7 HB;rw[hT];clear h hE hL og NT hx hy hm Gu NP WQ WR ht hti r0 r1 r2 hT Vu PC;go_enter func99,ntmps99;go_wp2_with fail;refine CY.o.mono ?_;rintro e w2 ⟨rfl,iD⟩;have bJ:=O iD;clear iD CY;dsimp only;go_wp2_with fail;refine(Af.o _ bJ.o).mono ?_;rintro e w3 ⟨rfl,gZ⟩;have vV:=O (HM.o.aR (bJ.o.t gZ));have r2:=eJ (bJ.o.t gZ) HX.o;have c0:=vV.o.c0;have f2:=vV.o.own.frozenAt (i*3+2);have cE:=O (bJ.o.t gZ);clear gZ Af bJ;dsimp only;go_wp2_with fail;rw[HB.o];go_ret;obtain⟨k1,k2,k3⟩:=NR vV.o (HH.o.aR cE.o).below HIL.o F7.o;exact⟨rfl,⟨⟨_,k1⟩,k2⟩,(vM.aR cE.o).trans k3⟩
end
end Go.Proofs.YtmaimjajdbgmiaaGreatDoor.Waits
