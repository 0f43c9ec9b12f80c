import Derived.Tactics
import Derived.Tactics2
import Derived.Laws.Pointers
import Derived.Laws.LoneSync
import Derived.RegionCalls
import Derived.ChangeAlike
import Derived.Lib.AppendStr
import Derived.Laws.IdiomStrings
import Derived.Laws.BytesArg
import Derived.Test.YtmaimjajdbgmiaaGreatDoorAf
set_option linter.unusedVariables false
set_option linter.unusedSimpArgs false
set_option maxRecDepth 100000
set_option maxHeartbeats 0
open Go.Value renaming int→I,string→V,pointer→X,bool→Y,slice→T,tuple→aB,agg→aC
open Go.IntKind renaming i64→J
open Option renaming none→U,some→G
open Go.Ending renaming returned→ay
open Go.Obj renaming cells→az
open List renaming length_append→aL
open Nat renaming le_refl→aN,le_trans→aO
open Go renaming World→aw,Calls→ax,bodyPost_ret→aE
open Go.Proofs.Tryz
open Go.Proofs.Tryz renaming prog→av
namespace Go.Proofs.YtmaimjajdbgmiaaGreatDoor
open Go.RowKit
theorem Am(b o:Nat)(x:Int)(w:aw)(h0:w.cell? ⟨b,o,U⟩=G (I .u32 x)):
 ax av 424 #[X (G ⟨b,o,U⟩)] w λe w'=>e=ay (Y (x !=0))/\w=w':=by
 have hl:=run_call_load (P:=av) func426 (by kernel_rfl) (by kernel_rfl) (by kernel_rfl) .u32 (by kernel_rfl) h0;go_enter func424,ntmps424
 go_wp2
 go_ret;exact⟨rfl,rfl⟩
theorem J3(w:aw):(callFunc 434 #[]).run av w= .ok (.value (aB #[])) w:=run_call_mark0 func434 (by kernel_rfl) (by kernel_rfl) (by kernel_rfl) .disable (by kernel_rfl) w
theorem J4(w:aw):(callFunc 436 #[]).run av w= .ok (.value (aB #[])) w:=run_call_mark0 func436 (by kernel_rfl) (by kernel_rfl) (by kernel_rfl) .enable (by kernel_rfl) w
theorem TA(a:Addr)(w:aw):(callFunc 437 #[X (G a)]).run av w= .ok (.value (aB #[])) w:=run_call_marked func437 (by kernel_rfl) (by kernel_rfl) (by kernel_rfl) .acquire (by kernel_rfl) a w
theorem TB(a:Addr)(w:aw):(callFunc 439 #[X (G a)]).run av w= .ok (.value (aB #[])) w:=run_call_marked func439 (by kernel_rfl) (by kernel_rfl) (by kernel_rfl) .releaseMerge (by kernel_rfl) a w
theorem GD(a:Addr)(x:Value)(u:FrameMode)(w:aw)(hc:w.cell? a=G x)(hz:w.frozen? a=false):
 CallsD av 429 #[X (G a),Y true] u w λe u' w'=>u'=u/\(e=ay (aB #[])/\w'=w.drew.setCell a (I .u32 1)):=by
 have nQ:w.drew.cell? a=G x:=by go_simp
 have hz':w.drew.frozen? a=false:=by go_simp
 have kO:=run_call_store (P:=av) func432 (by kernel_rfl) (by kernel_rfl) (by kernel_rfl) (by kernel_rfl) (k:=.u32) (y:=1) nQ hz'
 go_enter_d func429,ntmps429
 go_wp2
 go_region_calls
 all_goals(go_end0;exact⟨rfl,rfl⟩)
theorem Db(a:Addr)(u:FrameMode)(w:aw)(hc:w.cell? a=G (I .i32 1))(hz:w.frozen? a=false):
 CallsD av 428 #[X (G a)] u w λe u' w'=>u'=u/\(e=ay (aB #[])/\w'=w.setCell a (I .i32 0)):=by
 have hd:=J3;have he:=J4;have hr:=TB;have hadd:=run_call_add (P:=av) func440 (by kernel_rfl) (by kernel_rfl) (by kernel_rfl) .i32 (by kernel_rfl) (y:= -1) (s:=0) hc hz (by simp[go_sem];rfl);have GF:=run_convert_to_unsafe (P:=av) (src:=505) (dst:=509) underlying505 underlying509 (by kernel_rfl) hc
 go_enter_d func428,ntmps428
 go_wp2
 go_end0
 go_wp2
 go_end0
 exact⟨rfl,rfl⟩
theorem O5(a:Addr)(w:aw)(hc:w.cell? a=G (I .i32 0))(hz:w.frozen? a=false):
 ax av 427 #[X (G a)] w λe w'=>e=ay (aB #[])/\w'=w.setCell a (I .i32 1):=by
 have hd:=J3;have he:=J4;have ha:=TA;have hcas:=run_call_cas_hit (P:=av) func435 (by kernel_rfl) (by kernel_rfl) (by kernel_rfl) .i32 (by kernel_rfl) (y:=1) hc hz;have nQ:(w.setCell a (I .i32 1)).cell? a=G (I .i32 1):=World.cell?_setCell_same w a _ hc;have GF:=run_convert_to_unsafe (P:=av) (src:=505) (dst:=509) underlying505 underlying509 (by kernel_rfl) nQ;go_enter func427,ntmps427
 go_wp2
 first|go_end0|(simp only[Exit.inBlock,Exit.then];refine aE (results_none rfl _ _ _) rfl ?_)|refine aE (results_none rfl _ _ _) rfl ?_
 go_wp2
 go_end0
 exact⟨rfl,rfl⟩
structure TC(cs:Array Value)(d k m:Int):Prop where
 sz:cs.size=260
 d:cs[0]?=G (I .u32 d)
 k:cs[1]?=G (I .i32 k)
 m:cs[3]?=G (I J m)
 l: ∀i,i<256->∃v,cs[4+i]?=G (I .u32 v)
def CT(w:aw)(b:Nat)(d k m:Int):Prop:=∃cs,aX w b 485 cs/\TC cs d k m
def CP(w:aw)(b:Nat)(d k m:Int)(e:Ending)(w':aw):Prop:=e=ay (aB #[])/\CT w' b d k m/\Ch (λg=>g=b) w w'
section
variable{w w':aw}{b:Nat}{d k m:Int}
theorem CT.W5(h:CT w b d k m)(x:Int):CT (w.setCell ⟨b,0,U⟩ (I .u32 x)) b x k m:=by
 obtain⟨cs,hb,h⟩:=h;refine⟨_,hb.bm 0 _,by simp[h.sz],by simp[h.sz],by simp[h.k],by simp[h.m],λi hi=>?_⟩;obtain⟨v,hv⟩:=h.l i hi;exact⟨v,by rw[Array.getElem?_setIfInBounds_ne (by omega)];exact hv⟩
theorem CT.Sj(h:CT w b d k m)(x:Int):CT (w.setCell ⟨b,1,U⟩ (I .i32 x)) b d x m:=by
 obtain⟨cs,hb,h⟩:=h;refine⟨_,hb.bm 1 _,by simp[h.sz],by simp[h.d],by simp[h.sz],by simp[h.m],λi hi=>?_⟩;obtain⟨v,hv⟩:=h.l i hi;exact⟨v,by rw[Array.getElem?_setIfInBounds_ne (by omega)];exact hv⟩
theorem CT.W6(h:CT w b d k m)(x:Int):CT (w.setCell ⟨b,3,U⟩ (I J x)) b d k x:=by
 obtain⟨cs,hb,h⟩:=h;refine⟨_,hb.bm 3 _,by simp[h.sz],by simp[h.d],by simp[h.k],by simp[h.sz],λi hi=>?_⟩;obtain⟨v,hv⟩:=h.l i hi;exact⟨v,by rw[Array.getElem?_setIfInBounds_ne (by omega)];exact hv⟩
theorem CT.W7(h:CT w b d k m){j:Nat}(hj:j<256)(x:Int):CT (w.setCell ⟨b,4+j,U⟩ (I .u32 x)) b d k m:=by
 obtain⟨cs,hb,h⟩:=h;refine⟨_,hb.bm (4+j) _,by simp[h.sz],?_,?_,?_,λi hi=>?_⟩
 ·rw[Array.getElem?_setIfInBounds_ne (by omega)];exact h.d
 ·rw[Array.getElem?_setIfInBounds_ne (by omega)];exact h.k
 ·rw[Array.getElem?_setIfInBounds_ne (by omega)];exact h.m
 ·by_cases e:j=i
  ·subst e;exact⟨x,by rw[Array.getElem?_setIfInBounds_self_of_lt (by rw[h.sz];omega)]⟩
  ·obtain⟨v,hv⟩:=h.l i hi;exact⟨v,by rw[Array.getElem?_setIfInBounds_ne (by omega)];exact hv⟩
theorem CT.cd(h:CT w b d k m):w.cell? ⟨b,0,U⟩=G (I .u32 d):=by obtain⟨cs,hb,h⟩:=h;rw[hb.c];exact h.d
theorem CT.ck(h:CT w b d k m):w.cell? ⟨b,1,U⟩=G (I .i32 k):=by obtain⟨cs,hb,h⟩:=h;rw[hb.c];exact h.k
theorem CT.cm(h:CT w b d k m):w.cell? ⟨b,3,U⟩=G (I J m):=by obtain⟨cs,hb,h⟩:=h;rw[hb.c];exact h.m
theorem CT.cl(h:CT w b d k m){i:Nat}(hi:i<256): ∃v,w.cell? ⟨b,4+i,U⟩=G (I .u32 v):=by obtain⟨cs,hb,h⟩:=h;rw[hb.c];exact h.l i hi
theorem CT.fz(h:CT w b d k m)(i:Nat):w.frozen? ⟨b,i,U⟩=false:=by obtain⟨cs,hb,h⟩:=h;exact hb.frozen i
theorem CT.drew(h:CT w b d k m):CT w.drew b d k m:=h
theorem CT.lt(h:CT w b d k m):b<w.heap.size:=by obtain⟨cs,hb,h⟩:=h;exact hb.lt
theorem GG(h:CT w b d k m)(hm:0<=m/\m<=5):ax av 422 #[X (G ⟨b,0,U⟩)] w (CP w b d k (m+1)):=by
 have HS:=O (h.W6 (m+1));have HC:=O (show Ch (λg=>g=b) w (w.setCell ⟨b,3,U⟩ (I J (m+1)))from(Ch.r (λg=>g=b) w).setCell (p:=⟨b,3,U⟩) (.inl rfl) _);have x3:=h.cm;have xf:=h.fz 3;have xl:=h.lt;clear h;go_enter func422,ntmps422;go_wp2_with fail;generalize w.setCell ⟨b,3,U⟩ (I J (m+1))=w1 at *;clear x3 xf
 go_loopw[12] (λiv wr=>∃i:Nat,i<=256/\iv=I J i/\CT wr b d k (m+1)/\Ch (λg=>g=b) w wr) (λiv _=>256- (intOf iv).toNat)
 case atStart=>exact⟨0,by omega,rfl,HS.o,HC.o⟩
 case round=>
  obtain⟨i,hi,rfl,hT,hC⟩:=hrel;have HT:=O hT;have HD:=O hC;clear hT hC;by_cases hlt:i<256
  ·obtain⟨v,hv⟩:=HT.o.cl hlt;have hf:=HT.o.fz (4+i);have pD:=HT.o.lt;have Aa:(i:Int)<256:=by omega
   go_wp2_with fail
   go_loop[3,17] (λrv jv=>∃(r:Int) (j:Nat),j<=8/\rv=I .u32 r/\jv=I J j) (λ_ jv=>8- (intOf jv).toNat)
   case atStart=>exact⟨_,0,by omega,rfl,rfl⟩
   case round=>
    obtain⟨r,j,hj,rfl,rfl⟩:=hrel;by_cases hlj:j<8
    ·go_wp2_with fail
     all_goals
      go_round
      case rel=>exact⟨_,j+1,by omega,rfl,by go_num⟩
      case measure=>simp[intOf];omega
    ·obtain rfl:j=8:=by omega
     go_wp2_with fail;exact⟨⟨i+1,by omega,by go_num,HT.o.W7 hlt _,HD.o.setCell (p:=⟨b,4+i,U⟩) (.inl rfl) _⟩,by simp[intOf];omega⟩
  ·obtain rfl:i=256:=by omega
   clear hlt hi;go_wp2_with fail
   go_end0
   exact⟨rfl,HT.o,HD.o⟩
theorem GH(h:CT w b 0 0 0):
 ax av 425 #[X (G ⟨b,0,U⟩),.func (.func 422) #[X (G ⟨b,0,U⟩)] #[]] w (CP w b 1 0 1):=by
 have TD: ∀(x:Bool) (w:aw),(Op.unary .not (Y x)).run av w= .ok (Y (!x)) w:=λ_ _=>rfl;have h1:=h.Sj 1;have c1:Ch (λg=>g=b) w (w.setCell ⟨b,1,U⟩ (I .i32 1)):=(Ch.r (λk=>k=b) w).setCell (p:=⟨b,1,U⟩) (.inl rfl) _;have tE:=O (O5 ⟨b,1,U⟩ w h.ck (h.fz 1));have hld:=O (Am b 0 0 (w.setCell ⟨b,1,U⟩ (I .i32 1)) h1.cd);have hfl:=O (GG h1 (by omega));have c1:=O c1;have h:=O h;generalize w.setCell ⟨b,1,U⟩ (I .i32 1)=w1 at *
 go_enter_defers func425,ntmps425
 go_wp2_with(first|(go_at_call 427;(with_reducible refine(tE.o).mono ?_);rintro e w' ⟨rfl,rfl⟩)|(go_at_call 424;(with_reducible refine(hld.o).mono ?_);rintro e w' ⟨rfl,rfl⟩)|
  (go_at_call 422;(with_reducible refine(hfl.o).mono ?_);rintro e w2 ⟨rfl,hT,hC⟩;have HT:=O hT;have HC:=O hC;clear hT hC))
 have H1:CT (w2.drew.setCell ⟨b,0,U⟩ (I .u32 1)) b 1 1 (0+1):=HT.o.drew.W5 1;have H2:=H1.Sj 0;have HO:Ch (λg=>g=b) w ((w2.drew.setCell ⟨b,0,U⟩ (I .u32 1)).setCell ⟨b,1,U⟩ (I .i32 0)):=
  ((c1.o.t HC.o).drew.setCell (p:=⟨b,0,U⟩) (.inl rfl) _).setCell (p:=⟨b,1,U⟩) (.inl rfl) _
 refine leaves_cons (f:=429) (args:=#[X (G ⟨b,0,U⟩),Y true]) (by simp) (by simp[go_sem]) ?_;refine(GD ⟨b,0,U⟩ _ .returning w2 HT.o.cd (HT.o.fz 0)).mono ?_;rintro e u' eZ ⟨rfl,rfl,rfl⟩;refine leaves_cons (f:=428) (args:=#[X (G ⟨b,1,U⟩)]) (by simp[settle]) (by simp[go_sem]) ?_;refine(Db ⟨b,1,U⟩ _ _ H1.ck (H1.fz 1)).mono ?_;rintro e u' eZ ⟨rfl,rfl,rfl⟩;have qa2:CT ((w2.drew.setCell ⟨b,0,U⟩ (I .u32 1)).setCell ⟨b,1,U⟩ (I .i32 0)) b 1 0 1/\Ch (λg=>g=b) w ((w2.drew.setCell ⟨b,0,U⟩ (I .u32 1)).setCell ⟨b,1,U⟩ (I .i32 0)):=⟨H2,HO⟩;simpa [Leaves,settle,results,results425,CP]using qa2
theorem O6(h:CT w b 0 0 0):
 ax av 421 #[X (G ⟨b,0,U⟩),.func (.func 422) #[X (G ⟨b,0,U⟩)] #[]] w (CP w b 1 0 1):=by
 have TD: ∀(x:Bool) (w:aw),(Op.unary .not (Y x)).run av w= .ok (Y (!x)) w:=λ_ _=>rfl;have hld:=O (Am b 0 0 w h.cd);have hsl:=O (GH h);clear h;go_enter func421,ntmps421;go_wp2_with(first|(go_at_call 424;(with_reducible refine(hld.o).mono ?_);rintro e w' ⟨rfl,rfl⟩)|
  (go_at_call 425;(with_reducible refine(hsl.o).mono ?_);rintro e w2 ⟨rfl,hT,hC⟩;have HT:=O hT;have HC:=O hC;clear hT hC))
 go_end0
 exact⟨rfl,HT.o,HC.o⟩
end
abbrev lW(l:List UInt8):List Value:=l.map λb=>I .u8 b.toNat
theorem E8(l:List UInt8): ∀u∈lW l,u.oneCell'=true:=by
 intro u hu;obtain⟨z,_,rfl⟩:=List.mem_map.1 hu;rfl
theorem O7{l:List UInt8}{i:Nat}(h:i<l.length): ∃v:UInt8,(lW l)[i]?=G (I .u8 v.toNat):=⟨l[i],by simp[h]⟩
end Go.Proofs.YtmaimjajdbgmiaaGreatDoor
namespace Go.Proofs.YtmaimjajdbgmiaaGreatDoor
open Go.Lib Go.RowKit
theorem qX:(av.info? 5).map (λi=>(i.zero,i.size,i.bytes))=G (G (I .u8 0),1,1):=by kernel_rfl
def OB(w:aw)(B:Nat)(A:Option Addr)(n c:Nat)(l:List UInt8):Prop:=w.ownsRow B 5 1 (T A n c) n (lW l)/\l.length=n
def Xv(w:aw)(B:Nat)(l:List UInt8)(e:Ending)(w':aw):Prop:=∃A n c,e=ay (T A n c)/\OB w' B A n c l/\Below B w w'
section
variable{w w':aw}{B n c m cx:Nat}{A aq:Option Addr}{l l2:List UInt8}
theorem OB.ch{S:Nat->Prop}(h:OB w B A n c l)(hC:Ch S w w')(hS: ∀g,S g->g<B):OB w' B A n c l:=⟨bg h.1 hC (λg hg e=>by have:=(h.1.lt g hg).1;have:=hS g e;omega),h.2⟩
theorem OB.aR(h:OB w B A n c l)(hC:M w w'):OB w' B A n c l:=h.ch hC (λ_ h=>h.elim)
theorem OB.tg(w:aw)(B:Nat):OB w B U 0 0 []:=⟨World.ownsRow_nil _ _ _ _,rfl⟩
theorem jP(w:aw)(l:List UInt8)(hl:l.length=n):Reads (w.alloc (az (lW l).toArray 5)) (w.heap.size+1) 1 (G ⟨w.heap.size,0,U⟩) n (lW l):=by
 have:=cD w 5 (lW l).toArray n 1 (by simp[hl]);simpa using this
theorem eM{ops:Array Oper}{rest:List Oper}{o:Oper}{a:Act}{Q:Exit->Act->aw->Prop}{BB:Nat}(C8:o.guard=U)(s x:Operand)
 (ho:o.op= .call {callee:=.builtin .append,args:=#[s,x],argTypes:=#[142,142]}) (hs:a.eval s=T A n c) (hx:a.eval x=T aq m cx) (h:OB w B A n c l) (hr:Reads w BB 1 aq m (lW l2)) (hn:n+m<=100000) (hB:B<=w.heap.size)
 (k: ∀A' c' w',OB w' B A' (n+m) c' (l++l2)->Below B w w'->wpList av ops Q rest (a.put o.dst (T A' (n+m) c')) w'):wpList av ops Q (o::rest) a w:=by
 obtain⟨i1,dX,er,eu,eK⟩:=info_parts qX;have PB:l2.length=m:=by have:=hr.1;simpa using this
 refine bp w C8 s x 142 ho B 5 i1 _ 1 1 underlying142 dX er eu eK rfl (by omega) _ n (lW l) hs h.1 BB aq m cx (lW l2) hx hr (E8 l2) (by unfold maxLen;omega) (by omega) hB ?_;intro v' w' h1 h2 h3;obtain⟨A',c',rfl⟩:=bz h1;refine k A' c' w' ⟨by simpa [lW]using h1,by rw[aL,h.2,PB]⟩ (Ch.kN (Ch.bF h2) (λg hg=>(h.1.lt g hg).1) hB)
end
theorem pP{w:aw}(B:Nat)(hB:B<=w.heap.size){o:Obj}:Below B w (w.alloc o):=(Below.refl _ _).alloc hB _
def jf(x j:Nat):UInt8:=UInt8.ofNat (x / 256 ^ j%256)
def pt(x:Nat):List UInt8:=[jf x 7,jf x 6,jf x 5,jf x 4,jf x 3,jf x 2,jf x 1,jf x 0]
theorem lP(x j:Nat):(jf x j).toNat=x / 256 ^ j%256:=by
 unfold jf;rw[UInt8.toNat_ofNat'];omega
theorem j0(x j:Nat):IntKind.u8.wrap ((x:Int) / ((256 ^ j:Nat):Int))=((jf x j).toNat:Int):=by
 rw[lP];simp only[Int.natCast_emod,Int.natCast_ediv];simp[IntKind.wrap,IntKind.signed,IntKind.bits]
theorem nD{w:aw}{B n c:Nat}{A:Option Addr}{l:List UInt8}(h:OB w B A n c l)(hn:n<=1000)(hB:B<=w.heap.size)(x:Nat)(hx:x<9223372036854775808):
 ax av 343 #[T A n c,I J (x:Nat)] w (Xv w B (l++pt x)):=by
 have H:=O h;have e7:(x:Int) / 72057594037927936=((jf x 7).toNat:Int):=by rw[lP];simp only[Int.natCast_emod,Int.natCast_ediv];omega
 have e6:IntKind.u8.wrap ((x:Int) / 281474976710656)=((jf x 6).toNat:Int):=by simpa using j0 x 6
 have e5:IntKind.u8.wrap ((x:Int) / 1099511627776)=((jf x 5).toNat:Int):=by simpa using j0 x 5
 have e4:IntKind.u8.wrap ((x:Int) / 4294967296)=((jf x 4).toNat:Int):=by simpa using j0 x 4
 have e3:IntKind.u8.wrap ((x:Int) / 16777216)=((jf x 3).toNat:Int):=by simpa using j0 x 3
 have e2:IntKind.u8.wrap ((x:Int) / 65536)=((jf x 2).toNat:Int):=by simpa using j0 x 2
 have e1:IntKind.u8.wrap ((x:Int) / 256)=((jf x 1).toNat:Int):=by simpa using j0 x 1
 have e0:IntKind.u8.wrap (x:Int)=((jf x 0).toNat:Int):=by simpa using j0 x 0
 have HE:=O e7;clear e7;clear h;go_enter func343,ntmps343;go_wp2_with fail
 go_loopw[0,5] (λv iv wr=>∃(j:Int) (m:Nat) (A:Option Addr) (c:Nat),(-1<=j/\j<=7)/\iv=I J j/\v=T A m c/\m=n+(7-j).toNat/\OB wr B A m c (l++(pt x).take (7-j).toNat)/\Below B w wr) (λ_ iv _=>(intOf iv+1).toNat)
 case atStart=>exact⟨7,n,A,c,by omega,rfl,rfl,rfl,by simpa using H.o,Below.refl _ _⟩
 case round=>
  obtain⟨j,m,A,c,hj,rfl,rfl,hm,hO,hb⟩:=hrel;have HO:=O hO;have HB:=O hb;have HM:=O hm;have Xw:B<=wr.heap.size:=aO hB hb.size;have sr:m<=1010:=by omega
  clear hO hb hm;by_cases hlt:0<=j
  ·have h8:j=7\/j=6\/j=5\/j=4\/j=3\/j=2\/j=1\/j=0:=by omega
   clear hlt hj;rcases h8 with rfl|rfl|rfl|rfl|rfl|rfl|rfl|rfl
   all_goals
    have e7:=HE.o;go_wp2_with(first
     |(at_builtin
       refine eM rfl (.tmp 10) (.tmp 18) rfl rfl rfl (HO.o.aR ((Ch.r _ _).alloc _)) (jP (n:=1) wr [_] rfl) (by omega) (by simp;omega) ?_;intro A' c' w' KK vT;have T6:=O KK;have T7:=O vT;clear KK vT))
    refine⟨⟨_,m+1,A',c',?_,rfl,rfl,?_,?_,HB.o.trans ((pP B Xw).trans T7.o)⟩,by simp[intOf]⟩
    ·omega
    ·have:=HM.o;omega
    ·simpa [pt]using T6.o
  ·obtain rfl:j= -1:=by omega
   clear hlt hj;go_wp2_with fail;go_ret;exact⟨_,_,_,rfl,HO.o,HB.o⟩
section
variable{w w':aw}{B n c:Nat}{A:Option Addr}{l:List UInt8}
theorem yJ{ops:Array Oper}{rest:List Oper}{o:Oper}{a:Act}{Q:Exit->Act->aw->Prop}{str:ByteArray}(C8:o.guard=U)(s x:Operand)
 (ho:o.op= .call {callee:=.builtin .append,args:=#[s,x],argTypes:=#[142,9]}) (hs:a.eval s=T A n c) (hx:a.eval x=V str) (h:OB w B A n c l) (hn:n+str.size<=100000) (hB:B<=w.heap.size)
 (k: ∀A' c' w',OB w' B A' (n+str.size) c' (l++str.data.toList)->Below B w w'->wpList av ops Q rest (a.put o.dst (T A' (n+str.size) c')) w'):wpList av ops Q (o::rest) a w:=by
 obtain⟨i1,dX,er,eu,eK⟩:=info_parts qX;refine wpList_plain C8 λK hK=>?_;obtain⟨v',w',kA,h2,h3,_⟩:=run_append_own_string (P:=av) w B 142 9 o.type 5 i1 underlying142 underlying9 dX er eu eK (T A n c) n (lW l) h.1 str (by unfold maxLen;omega) (by omega) hB;obtain⟨A',c',rfl⟩:=bz h2;unfold Oper.wp execOp;simp only[ho,resolve,invoke,builtin,Sem.run_bind,Sem.run_pure,Result.andThen_ok,List.map_toArray,List.map_cons,List.map_nil,hs,hx,kA];refine hK _ _ (k A' c' w' ⟨?_,by rw[aL,h.2];rfl⟩ (Ch.kN (Ch.bF h3) (λg hg=>(h.1.lt g hg).1) hB));have:lW (l++str.data.toList)=lW l++strCells str:=by unfold lW strCells;simp
 rw[this];exact h2
theorem KL(h:OB w B A n c l)(hn:n<=1000)(hB:B<=w.heap.size)(y:Bool):
 ax av 342 #[T A n c,Y y] w (Xv w B (l++[if y then 1 else 0])):=by
 have H:=O h;have HB:=O (λ(o:Obj)=>(pP B hB:Below B w (w.alloc o)));clear h;cases y
 all_goals
  go_enter func342,ntmps342;go_wp2_with(first
   |(at_builtin
     (first|refine eM rfl (.tmp 6) (.tmp 7) rfl rfl rfl (H.o.aR ((Ch.r _ _).alloc _)) (jP (n:=1) w [1] rfl) (by omega) (by simp;omega) ?_|refine eM rfl (.tmp 9) (.tmp 10) rfl rfl rfl (H.o.aR ((Ch.r _ _).alloc _)) (jP (n:=1) w [0] rfl) (by omega) (by simp;omega) ?_)
     intro A' c' w' KK vT;have T6:=O KK;have T7:=O vT;clear KK vT))
  go_ret;exact⟨_,_,_,rfl,T6.o,(HB.o _).trans T7.o⟩
theorem uw(h:OB w B A n c l)(hn:n<=1000)(hB:B<=w.heap.size)(s:ByteArray)(hs:s.size<=600):
 ax av 341 #[T A n c,V s] w (Xv w B (l++[jf s.size 1,jf s.size 0]++s.data.toList)):=by
 have H:=O h;have HB:=O (λ(o:Obj)=>(pP B hB:Below B w (w.alloc o)));have hsI:(s.size:Int)<=600:=by omega
 have e1:(s.size:Int) / 256=((jf s.size 1).toNat:Int):=by rw[lP];simp only[Int.natCast_emod,Int.natCast_ediv];omega
 have e0:(s.size:Int)%256=((jf s.size 0).toNat:Int):=by rw[lP];simp
 have em:min (s.size:Int) 65535=s.size:=by omega
 clear h;go_enter func341,ntmps341;go_wp2_with(first
  |(at_builtin
    refine eM rfl (.tmp 9) (.tmp 15) rfl rfl rfl (H.o.aR ((Ch.r _ _).alloc _)) (jP (n:=2) w [_,_] rfl) (by omega) (by simp;omega) ?_;intro A' c' w' KK vT;have T6:=O KK;have T7:=O vT;have hBs:=vT.size;clear KK vT)
  |(at_builtin
    go_loud (refine yJ rfl (.tmp 17) (.tmp 20) rfl rfl rfl T6.o (by omega) (by simp at hBs;omega) ?_)
    intro A2 c2 w2 Sw JG;have wu:=O Sw;have cJ:=O JG;clear Sw JG))
 go_ret;exact⟨_,_,_,rfl,wu.o,((HB.o _).trans T7.o).trans cJ.o⟩
end
def wF(s:ByteArray):List UInt8:=[jf s.size 1,jf s.size 0]++s.data.toList
def enc(c:bQ):List UInt8:=pt c.kind.toNat++pt c.tx.toNat++pt c.aS.toNat++pt c.aY.toNat++pt c.op.toNat++wF c.key++wF c.val++pt c.mode.toNat++[if c.yes then 1 else 0]
def gJ(l:List UInt8):ByteArray:=⟨l.toArray⟩
structure yR(c:bQ):Prop where
 kd:0<=c.kind/\c.kind<=9
 tx:0<=c.tx/\c.tx<16
 at_:0<=c.aS/\c.aS<=1048576
 st:0<=c.aY/\c.aY<=1099511627776
 op:0<=c.op/\c.op<=1048576
 mo:0<=c.mode/\c.mode<=2
 ke:c.key.size<=16
 va:c.val.size<=32
theorem pT(x:Nat):(pt x).length=8:=rfl
theorem xq(xs:List Nat):(xs.flatMap pt).length=xs.length*8:=pB (λx _=>pT x)
section
variable{w w':aw}{B n c:Nat}{A:Option Addr}{l:List UInt8}
theorem OB.str(h:OB w B A n c l):(convert 142 9 (T A n c)).run av w= .ok (V (gJ l)) w:=by
 rcases A with _|ad
 ·have h0:n=0:=by
   rcases Nat.eq_zero_or_pos n with e|e
   ·exact e
   ·obtain⟨g,cap,hv,_,_⟩:=h.1.form e;cases hv
  subst h0;have:l=[]:=List.eq_nil_of_length_eq_zero h.2;subst this;exact run_convert_bytes_nil w 142 5 underlying142 underlying5 0 c 9 underlying9
 ·have hl:=h.2;subst hl;refine run_convert_bytes_back w 142 9 5 ad c l underlying142 underlying5 underlying9 (λj hj=>?_);have hr:=Reads.qN h.1;obtain⟨ad',e,_,hc⟩:=hr.2 (by omega);injection e with e;subst e;exact hc j _ (by simp[hj])
theorem AX(h:OB w B A n c l)(hn:n<=800)(hB:B<=w.heap.size){XA:Option Addr}{xc:Nat}{xs:List Nat}{xb:Nat}(hXA:XA=G ⟨xb,0,U⟩)(ZP:xb<B)(hx: ∀i x,xs[i]?=G x->w.cell? ⟨xb,i,U⟩=G (I J (x:Nat)))(Ol: ∀x∈xs,x<9223372036854775808){m:Nat}(hm:xs.length=m)(lI:m<=5):
 ax av 340 #[T A n c,T XA m xc] w (Xv w B (l++xs.flatMap pt)):=by
 subst hXA;have H:=O h;have HX:=O hx;have HM:=O hm;have H63:=O Ol;have hmI:(m:Int)<=5:=by omega
 clear h hx hm Ol;go_enter func340,ntmps340;go_wp2_with fail
 go_loopw[0,9] (λv iv wr=>∃(k:Nat) (A:Option Addr) (q c:Nat),k<=m/\iv=I J k/\v=T A q c/\q=n+k*8/\OB wr B A q c (l++(xs.take k).flatMap pt)/\Below B w wr) (λ_ iv _=>m- (intOf iv).toNat)
 case atStart=>exact⟨0,A,n,c,by omega,rfl,rfl,by omega,by simpa using H.o,Below.refl _ _⟩
 case round=>
  obtain⟨k,A,q,c,hk,rfl,rfl,hq,hO,hb⟩:=hrel;have HO:=O hO;have HB:=O hb;have Xw:B<=wr.heap.size:=aO hB hb.size;have HQ:=O hq;have ZB:q<=900:=by omega
  clear hO hb hq;by_cases hlt:k<m
  ·obtain⟨x,hx⟩:=bh (show k<xs.length by rw[HM.o];exact hlt);have jq:(k:Int)<(m:Int):=by omega
   have y:=(HB.o.cell (p:=⟨xb,k,U⟩) ZP).trans (HX.o k x hx);have yl:xb<wr.heap.size:=by omega
   have HI:=O (nD HO.o (by omega) Xw x (H63.o x (bS hx)));have HXX:=O hx;clear hx;go_wp2_with fail;refine HI.o.mono ?_;rintro e w2 ⟨A2,n2,c2,rfl,Sw,JG⟩;dsimp only;have wu:=O Sw;have cJ:=O JG;clear Sw JG y HI;go_wp2_with fail;refine⟨⟨k+1,A2,n2,c2,by omega,by go_num,rfl,?_,?_,HB.o.trans cJ.o⟩,by simp[intOf];omega⟩
   ·have h1:=wu.o.2;have h2:=HO.o.2;rw[aL,pT]at h1;have:=HQ.o;omega
   ·have:=wu.o;rw[List.take_add_one,HXX.o,List.flatMap_append, <-List.append_assoc];simpa using this
  ·obtain rfl:m=k:=by omega
   clear hlt hk;go_wp2_with fail;go_ret;refine⟨_,_,_,rfl,?_,HB.o⟩;have:=HO.o;rwa[List.take_of_length_le (by rw[HM.o];exact aN _)]at this
end
def Oy:Array Value:=(I .u32 0::I .i32 0::I .u32 0::I J 0::List.replicate 256 (I .u32 0)).toArray
theorem PI(w:aw):(zeroValue 485).run av w= .ok (aC Oy) w:=by kernel_rfl
theorem Ud:TC Oy 0 0 0:=⟨by simp[Oy],by simp[Oy],by simp[Oy],by simp[Oy],λi hi=>⟨0,by
 unfold Oy;rw[List.getElem?_toArray,show 4+i=i+1+1+1+1 by omega,List.getElem?_cons_succ,List.getElem?_cons_succ,List.getElem?_cons_succ,List.getElem?_cons_succ,List.getElem?_replicate,if_pos hi]⟩⟩
theorem qb4(x y:Int): ∃q:Nat,bits .xor .u8 x y=(q:Int)/\q<256:=by
 obtain⟨z,hz⟩:=bG ((BitVec.ofInt IntKind.u8.bits x^^^BitVec.ofInt IntKind.u8.bits y).toNat);have hlt:z<256:=hz▸(BitVec.ofInt IntKind.u8.bits x^^^BitVec.ofInt IntKind.u8.bits y).isLt;refine⟨z,?_,hlt⟩;simp only[bits,hz];simp[IntKind.wrap,IntKind.signed,IntKind.bits];omega
theorem KW(w:aw):ax av 404 #[] w λe w'=>e=ay (X (G ⟨w.heap.size,0,U⟩))/\CT w' w.heap.size 0 0 0/\M w w':=by
 have hz:=PI;have HT1:=O (show CT (w.alloc (az Oy 485)) w.heap.size 0 0 0 from⟨_,aX.new _ _ _,Ud⟩);have cH:=O (show M w (w.alloc (az Oy 485))from(Ch.r _ w).alloc _);generalize Oy=Z at *;go_enter func404,ntmps404;go_wp2_with fail;go_ret;exact⟨rfl,HT1.o,cH.o⟩
theorem KX{w:aw}{b n c:Nat}{A:Option Addr}{l:List UInt8}(ht:CT w b 0 0 0)(h:Rd w A (lW l))(hA: ∀g o,A=G ⟨g,o,U⟩->g≠b)(hl:l.length=n)(hn:n<=5000):
 ax av 414 #[X (G ⟨b,0,U⟩),I .u32 0,T A n c] w λe w'=>(∃x,e=ay (I .u32 x))/\Ch (λg=>g=b) w w':=by
 have hmf: ∀(fn:Fn) (first cap:Array Value) (w:aw),(Instr.makeFunc fn first cap).run av w= .ok (.func fn first cap) w:=λ_ _ _ _=>rfl;have HD:=O (O6 ht);have H:=O h;have HA:=O hA;have HL:=O hl;have jW:(n:Int)<=5000:=by omega
 have pD:=ht.lt;clear ht h hA hl;go_enter func414,ntmps414;go_wp2_with fail;refine HD.o.mono ?_;rintro e w2 ⟨rfl,hT,hC⟩;dsimp only;have HT:=O hT;have HC:=O hC;have H2:=O (H.o.ch hC (λg o e hg=>HA.o g o e hg));clear hT hC pD;go_wp2_with fail
 go_loop[7,22] (λrv iv=>∃(x:Int) (k:Nat),k<=n/\rv=I .u32 x/\iv=I J k) (λ_ iv=>n- (intOf iv).toNat)
 case atStart=>exact⟨_,0,by omega,rfl,rfl⟩
 case round=>
  obtain⟨x,k,hk,rfl,rfl⟩:=hrel;by_cases hlt:k<n
  ·obtain⟨v,hv⟩:=O7 (show k<l.length by rw[HL.o];exact hlt);obtain⟨g,o,rfl,hg,hc⟩:=H2.o (by intro e;rw[e]at hv;simp at hv);have y:=hc k _ hv;have jq:(k:Int)<(n:Int):=by omega
   obtain⟨q,hq,hq2⟩:=qb4 (x%256) (v.toNat:Int);obtain⟨t,ht⟩:=HT.o.cl hq2;have pD:=HT.o.lt;have hqI:(q:Int)<256:=by omega
   clear hc hv;go_wp2_with fail
   go_round
   case rel=>exact⟨_,k+1,by omega,rfl,by go_num⟩
   case measure=>simp[intOf];omega
  ·obtain rfl:n=k:=by omega
   clear hlt hk;go_wp2_with fail;go_ret;exact⟨⟨_,rfl⟩,HC.o⟩
theorem PJ{w:aw}{n c:Nat}{A:Option Addr}{l:List UInt8}(h:Rd w A (lW l))(eQ:l≠[])(hl:l.length=n)(hn:n<=5000):
 ax av 395 #[T A n c] w λe w'=>(∃x,e=ay (I .u32 x))/\M w w':=by
 have HN:=O (KW w);have H:=O h;have HL:=O hl;clear h hl;go_enter func395,ntmps395;go_wp2_with fail;refine HN.o.mono ?_;rintro e w2 ⟨rfl,hT,hN⟩;dsimp only;have bJ:=O hN;have HA:=O (KX (c:=c) hT (H.o.aR hN) (λg o e=>by
  obtain⟨g',o',e',hg,_⟩:=H.o (by simpa using eQ);rw[e]at e';injection e' with e';injection e' with e1 _;omega) HL.o hn)
 clear hT hN;go_wp2_with(first|(go_at_call 405;go_in));refine HA.o.mono ?_;rintro e w3 ⟨⟨x,rfl⟩,hC⟩;dsimp only;have HC:=O (bJ.o.trans hC (λk hk=>.inr (by omega)));clear hC;go_wp2_with fail;go_ret;exact⟨⟨_,rfl⟩,HC.o⟩
def u8i(x:Int):UInt8:=UInt8.ofNat (x%256).toNat
theorem pU(x:Int):x%256=((u8i x).toNat:Int):=by
 unfold u8i;rw[UInt8.toNat_ofNat'];omega
theorem PK(w:aw)(x:Int):ax av 394 #[I .u32 x] w λe w'=>∃l:List UInt8,l.length=4/\Xv w w.heap.size l e w':=by
 have e0:=pU x;have e1:=pU (x / 256);have e2:=pU (x / 65536);have e3:=pU (x / 16777216);go_enter func394,ntmps394;go_wp2_with fail
 go_loopw[3,5] (λv iv wr=>∃(j:Int) (A:Option Addr) (q c:Nat) (l:List UInt8),(0<=j/\j<=4)/\iv=I J j/\v=T A q c/\q=j.toNat/\OB wr w.heap.size A q c l/\Below w.heap.size w wr) (λ_ iv _=>4- (intOf iv).toNat)
 case atStart=>exact⟨0,U,0,0,[],by omega,rfl,rfl,rfl,OB.tg _ _,Below.refl _ _⟩
 case round=>
  obtain⟨j,A,q,c,l,hj,rfl,rfl,hq,hO,hb⟩:=hrel;have HO:=O hO;have HB:=O hb;have HQ:=O hq;have Xw:w.heap.size<=wr.heap.size:=hb.size;have hq4:q<=4:=by omega
  clear hO hb hq;by_cases hlt:j<4
  ·have h4:j=0\/j=1\/j=2\/j=3:=by omega
   clear hlt hj;rcases h4 with rfl|rfl|rfl|rfl
   all_goals
    go_wp2_with(first
     |(at_builtin
       go_loud (refine eM rfl (.tmp 8) (.tmp 15) rfl rfl rfl (HO.o.aR ((Ch.r _ _).alloc _)) (jP (n:=1) wr [_] rfl) (by omega) (by simp;omega) ?_)
       intro A' c' w' KK vT;have T6:=O KK;have T7:=O vT;clear KK vT))
    refine⟨⟨_,A',q+1,c',_,?_,rfl,rfl,?_,T6.o,HB.o.trans ((pP _ Xw).trans T7.o)⟩,by simp[intOf]⟩
    ·omega
    ·have:=HQ.o;omega
  ·obtain rfl:j=4:=by omega
   clear hlt hj;go_wp2_with fail;go_ret;exact⟨l,HO.o.2.trans HQ.o,A,q,c,rfl,HO.o,HB.o⟩
theorem OB.rd{w:aw}{B n c:Nat}{A:Option Addr}{l:List UInt8}(h:OB w B A n c l):Rd w A (lW l):=Rd.own h.1
theorem OB.Wa{w:aw}{B n c:Nat}{A:Option Addr}{l:List UInt8}(h:OB w B A n c l):Reads w w.heap.size 1 A n (lW l):=Reads.qN h.1
theorem gw{B:Nat}{w1 w3 w4:aw}(h:M w1 w3)(hb:Below B w3 w4)(hB:w1.heap.size<=B):M w1 w4:=
 h.trans (Ch.mA hb (λk _ hn=>by omega):Ch (λk=>B<=k) w3 w4) (λk hk=>.inr (by omega))
theorem yS{w w':aw}(h:Below w.heap.size w w'):M w w':=⟨h.os,h.tape,h.output,h.size,λk hk _=>h.block k hk⟩
theorem Fq(z:Int)(h:0<=z/\z<256): ∃y:UInt8,z=(y.toNat:Int):=⟨u8i z,by rw[<-pU];omega⟩
theorem jH{w:aw}{B B' size n:Nat}{e:TypeId}{v:Value}{xs:List Value}(h:w.ownsRow B e size v n xs)(hB:B'<=B):w.ownsRow B' e size v n xs:=by
 refine⟨h.1,?_⟩;rcases h.2 with h0|⟨g,cap,cur,e0,hb,hg,hr⟩
 ·exact .inl h0
 ·exact .inr ⟨g,cap,cur,e0,aO hB hb,hg,hr⟩
theorem Ue{B:Nat}(w:aw)(k:UInt8)(hB:B<=w.heap.size):OB (w.alloc (az #[I .u8 (k.toNat:Int)] 5)) B (G ⟨w.heap.size,0,U⟩) 1 1 [k]:=
 ⟨⟨rfl,.inr ⟨w.heap.size,1,#[I .u8 (k.toNat:Int)],rfl,hB,aX.new w 5 _,aN _,by unfold maxLen;omega,rfl,rfl⟩⟩,rfl⟩
theorem KY{w:aw}{A:Option Addr}{n:Nat}{l:List UInt8}(h:Rd w A (lW l))(hl:l.length=n):Reads w w.heap.size 1 A n (lW l):=⟨by simp[hl],λhn=>by
 obtain⟨b,off,e,hb,hc⟩:=h (by intro e;simp at e;subst e;simp at hl;omega);exact⟨_,e,hb,λj u hu=>by
  rw[show(⟨b,off,U⟩:Addr).add j=⟨b,off+j,U⟩ by unfold Addr.add;split<;>simp_all];exact hc j u hu⟩⟩
theorem yT{w:aw}{B n c:Nat}{A:Option Addr}{l:List UInt8}(h:OB w B A n c l)(eQ:l≠[])(hn:n<=1000)(hB:B<=w.heap.size):
 ax av 383 #[T U 0 0,T A n c] w λe w'=>∃A' n' c' l',e=ay (aB #[T A' n' c',I J 0])/\n'=n+8/\OB w' w.heap.size A' n' c' l'/\M w w':=by
 have jW:(n:Int)<=1000:=by omega
 have hl:=h.2;have H:=O h;have HC:=O (λw' (hN:M w w')=>PJ (c:=c) (h.rd.aR hN) eQ hl (by omega));have Oz:=O PK;obtain⟨y0,e0⟩:=Fq ((n:Int)%256) (by omega);obtain⟨y1,e1⟩:=Fq ((n:Int) / 256) (by omega);obtain⟨y2,e2⟩:=Fq (255- (y0.toNat:Int)) (by have:=y0.toNat_lt;omega);obtain⟨y3,e3⟩:=Fq (255- (y1.toNat:Int)) (by have:=y1.toNat_lt;omega);obtain⟨w1,bT⟩:=bG (w.alloc (az #[I .u8 (y1.toNat:Int),I .u8 (y0.toNat:Int),I .u8 (y3.toNat:Int),I .u8 (y2.toNat:Int)] 5));have cH:=kb bT;have gN:=O (show Reads w1 (w.heap.size+1) 1 (G ⟨w.heap.size,0,U⟩) 4 (lW [y1,y0,y3,y2])from by rw[<-bT];exact jP w [y1,y0,y3,y2] rfl);have qb5:=O (OB.tg w1 w.heap.size);clear h;go_enter func383,ntmps383;go_wp2_with(first
  |(at_builtin
    refine eM rfl (.tmp 18) (.tmp 25) rfl rfl rfl qb5.o gN.o (by omega) cH.o.size ?_;intro A2 c2 w2 Sw JG;have wu:=O Sw;have bJ:=O (gw cH.o JG (aN _));have H2:=O (H.o.aR bJ.o);clear Sw JG)
  |(at_builtin
    refine eM rfl (.tmp 27) (.tmp 28) rfl rfl rfl wu.o H2.o.Wa (by omega) bJ.o.size ?_;intro A3 c3 w3 SE OA;have JK:=O SE;have cE:=O (gw bJ.o OA (aN _));clear SE OA)
  |(go_at_call 395;(with_reducible refine(HC.o _ cE.o).mono ?_);rintro e w4 ⟨⟨x,rfl⟩,pV⟩;have dQ:=O (cE.o.t pV);have qD:=O (JK.o.aR pV);clear pV)
  |(go_at_call 394;(with_reducible refine(Oz.o _ _).mono ?_);rintro e w5 ⟨l5,CJ,A5,n5,c5,rfl,yU,nT⟩;have pN:=O yU;have ff:=O (gw dQ.o nT dQ.o.size);have CK:=O (qD.o.aR (yS nT));obtain rfl:n5=4:=yU.2.symm.trans CJ;clear yU nT CJ)
  |(at_builtin
    refine eM rfl (.tmp 30) (.tmp 33) rfl rfl rfl CK.o pN.o.Wa (by omega) ff.o.size ?_;intro A7 c7 w7 OC lQ;have td:=O OC;have ZQ:=O (gw ff.o lQ (aN _));clear OC lQ))
 go_ret2;exact⟨_,_,_,_,rfl,by omega,td.o,ZQ.o⟩
theorem yV{w:aw}{n c:Nat}{A:Option Addr}{l:List UInt8}(k:UInt8)(hk:(k.toNat:Int)≠0)(h:Rd w A (lW l))(hl:l.length=n)(hn:n<=900):
 ax av 356 #[aC #[I .u8 (k.toNat:Int),T A n c]] w λe w'=>∃A' n' c' l',e=ay (aB #[T A' n' c',I J 0])/\n'=n+9/\OB w' w.heap.size A' n' c' l'/\M w w':=by
 have jW:(n:Int)<=900:=by omega
 have d1:((k.toNat:Int)==0)=false:=beq_eq_false_iff_ne.2 hk;have d2:decide ((k.toNat:Int)=0)=false:=decide_eq_false hk;obtain⟨w1,bT⟩:=bG (w.alloc (az #[I .u8 (k.toNat:Int),T A n c] 366));have cH:=kb bT;have cw:=O (show aX w1 w.heap.size 366 #[I .u8 (k.toNat:Int),T A n c]from bT▸aX.new w 366 _);have⟨x0,x1⟩:=vS cw.o;have xl:=cw.o.lt;obtain⟨w2,ew⟩:=bG (w1.alloc (az #[I .u8 (k.toNat:Int)] 5));have bJ:=O (show M w w2 from cH.o.t (ew▸(Ch.r _ w1).alloc _));have wu:=O (show OB w2 w.heap.size (G ⟨w1.heap.size,0,U⟩) 1 1 [k]from ew▸Ue w1 k cH.o.size);have cJ:=O (show aX w2 w.heap.size 366 #[I .u8 (k.toNat:Int),T A n c]from ew▸cw.o.alloc _);have y1:=cJ.o.c 1;have yl:=cJ.o.lt;have lG:=O (KY (h.aR bJ.o) hl);clear h hl hk;go_enter func356,ntmps356;go_wp2_with(first
  |(at_builtin
    refine eM rfl (.tmp 15) (.tmp 17) rfl rfl rfl wu.o lG.o (by omega) bJ.o.size ?_;intro A3 c3 w3 SE OA;have cE:=O (gw bJ.o OA (aN _));have HP:=O (yT SE (by simp) (by omega) cE.o.size);clear SE OA))
 refine HP.o.mono ?_;rintro e w4 ⟨A4,n4,c4,l4,rfl,hn4,Fs,pV⟩;dsimp only;have qD:=O Fs;have dQ:=O pV;have sw:=O hn4;clear Fs pV hn4;go_wp2_with fail;go_ret2;exact⟨_,_,_,_,rfl,by have:=sw.o;omega,⟨jH qD.o.1 cE.o.size,qD.o.2⟩,cE.o.t dQ.o⟩
section
variable{w w':aw}{B n c:Nat}{A:Option Addr}{l:List UInt8}
theorem Hi(w:aw){c:bQ}(h:yR c):ax av 274 #[cn c] w λe w'=>∃A n c',e=ay (aB #[T A n c',I J 0])/\OB w' (w.heap.size+2) A n c' (enc c)/\n<=200/\M w w':=by
 obtain⟨kd,tx,aS,st,op,key,val,mode,yes⟩:=c;obtain⟨⟨a0,a1⟩,⟨b0,b1⟩,⟨c0,c1⟩,⟨d0,d1⟩,⟨f0,f1⟩,⟨g0,g1⟩,hke,hva⟩:=h;dsimp only at *;obtain⟨kd,rfl⟩:=Int.eq_ofNat_of_zero_le a0;obtain⟨tx,rfl⟩:=Int.eq_ofNat_of_zero_le b0;obtain⟨aS,rfl⟩:=Int.eq_ofNat_of_zero_le c0;obtain⟨st,rfl⟩:=Int.eq_ofNat_of_zero_le d0;obtain⟨op,rfl⟩:=Int.eq_ofNat_of_zero_le f0;obtain⟨mode,rfl⟩:=Int.eq_ofNat_of_zero_le g0;have jq:(key.size:Int)<=16:=by omega
 have hvI:(val.size:Int)<=32:=by omega
 have HE:=O (show enc ⟨kd,tx,aS,st,op,key,val,mode,yes⟩=[kd,tx,aS,st,op].flatMap pt++[jf key.size 1,jf key.size 0]++key.data.toList++[jf val.size 1,jf val.size 0]++val.data.toList++pt mode++[if yes then 1 else 0]from by simp[enc,wF]);obtain⟨w1,bT⟩:=bG (w.alloc (az (bN ⟨kd,tx,aS,st,op,key,val,mode,yes⟩) 60));have cH:=kb bT;have cw:=O (show aX w1 w.heap.size 60 (bN ⟨kd,tx,aS,st,op,key,val,mode,yes⟩)from bT▸aX.new w 60 _);have Ae:=O (show w1.heap.size=w.heap.size+1 from bT▸(by simp));obtain⟨w2,ew⟩:=bG (w1.alloc (az #[I J kd,I J tx,I J aS,I J st,I J op] 3));have bJ:=kb ew;have cJ:=O (show aX w2 w1.heap.size 3 #[I J kd,I J tx,I J aS,I J st,I J op]from ew▸aX.new w1 3 _);have kj:=O (show w2.heap.size=w.heap.size+2 from ew▸(by simp[Ae.o]));have SF:=O (AX (xs:=[kd,tx,aS,st,op]) (xc:=5) (m:=5) (OB.tg w2 (w.heap.size+2)) (by omega) (by rw[kj.o];exact aN _) (xb:=w1.heap.size) rfl (by rw[Ae.o];omega) (λi x hx=>by
  rw[cJ.o.c i]
  match i,hx with
  |0,hx=>injection hx with hx;subst hx;rfl
  |1,hx=>injection hx with hx;subst hx;rfl
  |2,hx=>injection hx with hx;subst hx;rfl
  |3,hx=>injection hx with hx;subst hx;rfl
  |4,hx=>injection hx with hx;subst hx;rfl) (λx hx=>by simp only[List.mem_cons,List.not_mem_nil,or_false]at hx;omega) rfl (by omega))
 have⟨x0,x1,x2,x3,x4,x5,x6⟩:=(show _/\_/\_/\_/\_/\_/\_ from⟨cw.o.c 0,cw.o.c 1,cw.o.c 2,cw.o.c 3,cw.o.c 4,cw.o.c 5,cw.o.c 6⟩);have xl:=cw.o.lt;clear a0 b0 c0 d0 f0 g0;go_enter func274,ntmps274;go_upto_region 1 with(fail);go_wp2_with fail;refine SF.o.mono ?_;rintro e w3 ⟨A3,n3,c3,rfl,SE,OA⟩;dsimp only;have JK:=O SE;have fL:=O OA;clear SE OA;obtain⟨qb,bE⟩:=bG (w.heap.size);have HQ:=O bE;rw[bE]at cw Ae kj JK fL;have cE:=O (show M w1 w3 from gw bJ.o fL.o (by have:=Ae.o;omega));have cZ:=O (λw' (hN:M w1 w')=>(show w'.cell? ⟨qb,5,U⟩=G (V key)/\w'.cell? ⟨qb,6,U⟩=G (V val)/\w'.cell? ⟨qb,7,U⟩=G (I J mode)/\w'.cell? ⟨qb,8,U⟩=G (Y yes)from⟨(cw.o.ch hN (λh=>h)).c 5,(cw.o.ch hN (λh=>h)).c 6,(cw.o.ch hN (λh=>h)).c 7,(cw.o.ch hN (λh=>h)).c 8⟩));clear x0 x1 x2 x3 x4 x5 x6 xl;go_upto_region 4 with(fail)
 try simp only[bE]
 have⟨x5,x6,x7,x8⟩:=cZ.o _ cE.o
 go_cut[4] (λv wr=>∃A n c,v=T A n c/\OB wr (qb+2) A n c ([kd,tx,aS,st,op].flatMap pt++[jf key.size 1,jf key.size 0]++key.data.toList++[jf val.size 1,jf val.size 0]++val.data.toList)/\Below (qb+2) w3 wr)
 case first=>
  have Pe:=O (uw (JK.o.aR (aU w3)) (by have:=JK.o.2;simp[pt]at this;omega) (by have:=kj.o;have:=fL.o.size;show qb+2<=w3.heap.size;omega) key (by omega));have dB:=O (show M w1 w3.drew from cE.o.t (aU w3));have OD:=Ae.o;have ZR:=kj.o;have xj:=fL.o.size;have ZL:=JK.o.2;have Kl:=xq [kd,tx,aS,st,op]
  go_region_held3(λw'=>w'.cell? ⟨qb,5,U⟩=G (V key)/\w'.cell? ⟨qb,6,U⟩=G (V val)/\w'.cell? ⟨qb,7,U⟩=G (I J mode)/\w'.cell? ⟨qb,8,U⟩=G (Y yes))
   (first|with_reducible exact cZ.o _ dB.o|with_reducible exact cZ.o _ dQ.o|with_reducible exact cZ.o _ ff.o)
   (first
     |(go_at_call_of 341 (T A3 n3 c3);refine Pe.o.mono ?_;rintro e w4 ⟨A4,n4,c4,rfl,Fs,CV⟩
       have qD:=O Fs;have iq:=O CV;have dQ:=O (show M w1 w4 from gw dB.o CV (by omega));have CJ:=Fs.2;have mv:=CV.size;clear Fs CV;dsimp only)
     |(go_at_call_of 341 (T A4 n4 c4);refine(uw qD.o (by simp at ZL Kl CJ;omega) (by simp at mv;omega) val (by omega)).mono ?_;rintro e w5 ⟨A5,n5,c5,rfl,yU,nT⟩
       have pN:=O yU;have mM:=O nT;have ff:=O (show M w1 w5 from gw dQ.o nT (by omega));clear yU nT;dsimp only))
  all_goals
   go_wp2_with fail;go_meet;exact⟨A5,n5,c5,rfl,pN.o,(((Below.refl _ _).drew).trans iq.o).trans mM.o⟩
 case rest=>
  obtain⟨A5,n5,c5,rfl,yU,nT⟩:=hcut;have OD:=Ae.o;have ZR:=kj.o;have xj:=fL.o.size;have mv:=nT.size;have CJ:=yU.2;have Kl:=xq [kd,tx,aS,st,op];have Wc:n5<=150:=by have h1:key.data.toList.length=key.size:=rfl;have h2:val.data.toList.length=val.size:=rfl;simp only[aL,Kl,h1,h2,List.length_cons,List.length_nil]at CJ;omega
  have ff:=O (show M w1 wc from gw cE.o nT (by omega));have dB:=O (show M w1 wc.drew from ff.o.t (aU wc));have HI5:=O (nD (yU.aR (aU wc)) (by omega) (by show qb+2<=wc.heap.size;omega) mode (by omega));have⟨x5,x6,x7,x8⟩:=cZ.o _ ff.o;have pN:=O yU;clear nT yU CJ Kl;go_upto_region 5 with(fail)
  go_region_held3(λw'=>w'.cell? ⟨qb,5,U⟩=G (V key)/\w'.cell? ⟨qb,6,U⟩=G (V val)/\w'.cell? ⟨qb,7,U⟩=G (I J mode)/\w'.cell? ⟨qb,8,U⟩=G (Y yes))
   (first|with_reducible exact cZ.o _ dB.o|with_reducible exact cZ.o _ ir.o|with_reducible exact cZ.o _ ZQ.o)
   (first
     |(go_at_call 343;(with_reducible refine HI5.o.mono ?_);rintro e w6 ⟨A6,n6,c6,rfl,hO6,O9⟩
       have CK:=O hO6;have ir:=O (show M w1 w6 from gw dB.o O9 (by omega));have hl6:n6<=n5+8:=by have h1:=hO6.2;have h2:=pN.o.2;rw[aL,h2,pT]at h1;omega
       have kK:=O9.size;clear hO6 O9;dsimp only)
     |(go_at_call 342;(with_reducible refine(KL CK.o (by omega) (by simp at kK;omega) yes).mono ?_);rintro e w7 ⟨A7,n7,c7,rfl,OC,lQ⟩
       have td:=O OC;have ZQ:=O (show M w1 w7 from gw ir.o lQ (by omega));clear OC lQ;dsimp only))
  all_goals
   go_wp2_with fail;go_ret2;refine⟨A7,n7,c7,rfl,?_,?_,cH.o.t ZQ.o⟩
   ·rw[HE.o,HQ.o];exact td.o
   ·have h1:=td.o.2;have h2:=CK.o.2;rw[aL,h2]at h1;simp at h1;omega
theorem Hj(w:aw){c:bQ}(h:yR c):ax av 203 #[cn c] w λe w'=>e=ay (aB #[V (gJ (enc c)),I J 0])/\M w w':=by
 have HC:=O (λw=>Hi w h);have HB:=O (aX.new w 60 (bN c));have HN:=O (show M w (w.alloc (az (bN c) 60))from(Ch.r _ w).alloc _);have x:=λi=>HB.o.c i;have⟨x0,x1,x2,x3,x4,x5,x6,x7,x8⟩:=(show _/\_/\_/\_/\_/\_/\_/\_/\_ from⟨x 0,x 1,x 2,x 3,x 4,x 5,x 6,x 7,x 8⟩);have xl:=HB.o.lt;obtain⟨kd,tx,aS,st,op,key,val,mode,yes⟩:=c;clear h x;go_enter func203,ntmps203;go_wp2_with fail;refine(HC.o _).mono ?_;rintro e w2 ⟨A,n,c',rfl,hO,hn,hN⟩;dsimp only;have GF:=hO.str;have bJ:=O (HN.o.t hN);clear hO hN x0 x1 x2 x3 x4 x5 x6 x7 x8 xl;go_wp2_with fail;go_ret2;exact⟨rfl,bJ.o⟩
end
