import Derived.Test.YtmaimjajdbgmiaaGreatDoorRows
import Derived.Stop.LaidErr
import Derived.OpenShut
import Derived.Test.YtmaimjajdbgmiaaGreatDoorChecked
import GoSem.ClaimSeven
import Derived.JoinedOf
import Derived.Test.YtmaimjajdbgmiaaGreatDoorAo
set_option linter.unusedVariables false
set_option linter.unusedSimpArgs false
set_option maxRecDepth 100000
set_option maxHeartbeats 0
open Go.Value renaming int→I,string→V
open Option renaming none→U,some→G
open Go renaming World→aw
open Go.Proofs.Tryz
open Go.Proofs.Tryz renaming prog→av
namespace Go.Proofs.YtmaimjajdbgmiaaGreatDoor
open Go Go.ChangeAt Go.ChangeShapes Go.Deep Go.Lib Go.RowKit Go.WideShapes
theorem star: "*"++ "errors.errorString"= "*errors.errorString":=by decide
theorem Og(u:TypeId)(h:av.typeName? 3 u=G "*errors.errorString"):u=489:=
 typeName_ptr_named (nm:= "errors.errorString") (by rw[star];kernel_rfl) (by kernel_rfl) (by decide) u (by rw[star];exact h)
theorem env_of{W:aw}(hL:laidMet av [("math/bits.deBruijn32tab",Rows.laid_math_bits_deBruijn32tab),("math/bits.deBruijn64tab",Rows.laid_math_bits_deBruijn64tab),("internal/strconv.uint64pow10",Rows.laid_internal_strconv_uint64pow10),("strconv.ErrRange",Rows.laid_strconv_ErrRange),("strconv.ErrSyntax",Rows.laid_strconv_ErrSyntax)] W):gK.Env W:=by
 have h2:=hL.tail.tail;have h3:=h2.tail;have h4:=h3.tail;have hP:laidMet av (("internal/strconv.uint64pow10",Go.Lib.tabData .u64 Go.Lib.pow10Tab)::[("strconv.ErrRange",Rows.laid_strconv_ErrRange),("strconv.ErrSyntax",Rows.laid_strconv_ErrSyntax)]) W:=h2;refine⟨Go.Lib.tabIs_of_head (show av.globalNamed "internal/strconv.uint64pow10"=G 3 by kernel_rfl) (show(av.globals[3]?).map (·.type)=G 493 by kernel_rfl) underlying493 underlying247 (by kernel_rfl) (by kernel_rfl) hP,?_,?_⟩
 ·obtain⟨a0,s0,hv0, -, -, -⟩:=laid_sentinel h4 (show av.globalNamed "strconv.ErrSyntax"=G 1 by kernel_rfl) (show(av.globals[1]?).map (·.type)=G 427 by kernel_rfl) underlying427 Og underlying489 underlying491 rfl rfl underlying9 (by kernel_rfl) (by kernel_rfl);exact⟨_,_,hv0⟩
 ·obtain⟨a0,s0,hv0, -, -, -⟩:=laid_sentinel h3 (show av.globalNamed "strconv.ErrRange"=G 2 by kernel_rfl) (show(av.globals[2]?).map (·.type)=G 427 by kernel_rfl) underlying427 Og underlying489 underlying491 rfl rfl underlying9 (by kernel_rfl) (by kernel_rfl);exact⟨_,_,hv0⟩
theorem tab_of{W:aw}(hL:laidMet av [("math/bits.deBruijn32tab",Rows.laid_math_bits_deBruijn32tab),("math/bits.deBruijn64tab",Rows.laid_math_bits_deBruijn64tab),("internal/strconv.uint64pow10",Rows.laid_internal_strconv_uint64pow10),("strconv.ErrRange",Rows.laid_strconv_ErrRange),("strconv.ErrSyntax",Rows.laid_strconv_ErrSyntax)] W):Waits.C4 W:=by
 have h2:=hL.tail;have hP:laidMet av (("math/bits.deBruijn64tab",Go.Lib.tabData .u8 (Go.Lib.deBruijn64tab.map Int.ofNat))::[("internal/strconv.uint64pow10",Rows.laid_internal_strconv_uint64pow10),("strconv.ErrRange",Rows.laid_strconv_ErrRange),("strconv.ErrSyntax",Rows.laid_strconv_ErrSyntax)]) W:=h2;have hT:=Go.Lib.tabIs_of_head (show av.globalNamed "math/bits.deBruijn64tab"=G 0 by kernel_rfl) (show(av.globals[0]?).map (·.type)=G 377 by kernel_rfl) underlying377 underlying5 (by kernel_rfl) (by kernel_rfl) hP;intro j hj;have h:=hT.cell (show av.globalNamed "math/bits.deBruijn64tab"=G 0 by kernel_rfl) j (by simpa using hj);rw[h];congr 2
 simp[List.getD,hj]
theorem CF{α:Type}{f:α->List Value}{m:Nat}(hm:0<m)(hf: ∀x,(f x).length=m): ∀{l:List α} {i:Nat} {v:Value},(l.flatMap f)[i]?=G v->∃o,l[i / m]?=G o/\(f o)[i%m]?=G v
 |[],i,v,h=>by simp at h
 |a::l,i,v,h=>by
  rw[List.flatMap_cons]at h;by_cases hi:i<m
  ·rw[List.getElem?_append_left (by rw[hf];exact hi)]at h;exact⟨a,by rw[Nat.div_eq_of_lt hi];rfl,by rw[Nat.mod_eq_of_lt hi];exact h⟩
  ·rw[List.getElem?_append_right (by rw[hf];omega),hf]at h;obtain⟨o,h1,h2⟩:=CF hm hf h;obtain⟨q,rfl⟩: ∃q,i=q+m:=⟨i-m,by omega⟩;rw[Nat.add_sub_cancel]at h1 h2;exact⟨o,by rw[Nat.add_div_right _ hm];exact h1,by rw[Nat.add_mod_right];exact h2⟩
theorem pick{α:Type}{P:Nat->α->Prop}: ∀{n:Nat},(∀i,i<n->∃x,P i x)->∃l:List α,l.length=n/\∀i x,l[i]?=G x->P i x
 |0,_=>⟨[],rfl,by simp⟩
 |n+1,h=>by
  obtain⟨l,hl,hp⟩:=pick (n:=n) (λi hi=>h i (by omega));obtain⟨x,hx⟩:=h n (by omega);refine⟨l++[x],by simp[hl],λi y hy=>?_⟩;by_cases hi:i<l.length
  ·rw[List.getElem?_append_left hi]at hy;exact hp i y hy
  ·rw[List.getElem?_append_right (by omega)]at hy;have h0:=bf hy;simp at h0;rw[show i-l.length=0 by omega]at hy;simp at hy;subst hy;rw[show i=n by omega];exact hx
theorem Oh{α:Type}{w:aw}{a:Addr}{f:α->List Value}{m n:Nat}{l:List α}(hm:0<m)(hf: ∀x,(f x).length=m)(hl:l.length=n)(hp: ∀i x,l[i]?=G x->∀(r:Nat) (v:Value),(f x)[r]?=G v->w.cell? (a.add (i*m+r))=G v):Rd w (G a) (l.flatMap f):=λeQ=>by
 cases l with
 |nil=>exact absurd rfl eQ
 |cons x r=>
  obtain⟨v,hv⟩:=bh (L:=f x) (i:=0) (by rw[hf];exact hm);have h0:=hp 0 x rfl 0 v hv;rw[Nat.zero_mul,Nat.zero_add]at h0;obtain⟨b,off,rfl⟩:=yL h0;refine⟨b,off,rfl,by rw[yK]at h0;exact block_lt_of_cell h0,λi v hv=>?_⟩;obtain⟨o,h1,h2⟩:=CF hm hf hv;have:=hp _ o h1 _ v h2;rw[yK]at this;rwa[show i / m*m+i%m=i by have:=Nat.div_add_mod i m;rw[Nat.mul_comm];exact this]at this
section
variable{H:Type}{enc:TypeId×Value->H}{w:aw}{base:Nat}{spare:Nat->Bool}{held:Bool}{fuel:Nat}
theorem V3{v:Value}{x:DataW H×List MemPlace}(h:DataW.trod enc av w base spare held fuel 34 [v]=G x): ∃A n c,v= .slice A n c:=by
 rcases Go.Deep.open_slice underlying34 h with⟨e,_⟩|⟨a,len,cap,_,_,_,_,e,_⟩
 ·injection e with e;exact⟨_,_,_,e⟩
 ·injection e with e;exact⟨_,_,_,e⟩
theorem V4{a0:Option Addr}{n c:Nat}{x:DataW H×List MemPlace}(h:DataW.trod enc av w base spare held fuel 34 [.slice a0 n c]=G x): ∃l:List nu,J2 w a0 n l/\n<=maxLen:=by
 rcases kr underlying34 underlying33 (by kernel_rfl) (by kernel_rfl) h with⟨uy,_⟩|⟨a,len,cap,m,D,Pl,uy,_,hl,hm,Hc,_,hi⟩
 ·simp at uy;obtain⟨rfl,rfl,rfl⟩:=uy;exact⟨[],⟨rfl,λh=>absurd rfl h⟩,by simp[maxLen]⟩
 ·simp at uy;obtain⟨rfl,rfl,rfl⟩:=uy;have hle:n<=m:=by rw[Hc];split<;>omega
  have mD: ∀i,i<n->∃o:nu,∀(r:Nat) (v:Value),[I .i64 o.k,.string o.key,.string o.val,.int .i64 o.n][r]?=G v->w.cell? (a.add (i*4+r))=G v:=by
   intro i tH;obtain⟨ys,k,_,_,_,hf⟩:=hi i (by omega);obtain⟨v0,y0,h0,_,t0⟩:=hf 0 _ rfl;obtain⟨v1,y1,h1,_,t1⟩:=hf 1 _ rfl;obtain⟨v2,y2,h2,_,t2⟩:=hf 2 _ rfl;obtain⟨v3,y3,h3,_,t3⟩:=hf 3 _ rfl;obtain⟨K,e0,_,_⟩:=DataW.trod_int underlying3 t0;obtain⟨S,e1,_,_⟩:=DataW.trod_string underlying9 t1;obtain⟨au,e2,_,_⟩:=DataW.trod_string underlying9 t2;obtain⟨ag,e3,_,_⟩:=DataW.trod_int underlying3 t3;simp at e0 e1 e2 e3;subst e0 e1 e2 e3;refine⟨⟨K,S,au,ag⟩,λr v hv=>?_⟩
   match r,hv with
   |0,hv=>simp at hv;subst hv;exact h0
   |1,hv=>simp at hv;subst hv;exact h1
   |2,hv=>simp at hv;subst hv;exact h2
   |3,hv=>simp at hv;subst hv;exact h3
   |r+4,hv=>simp at hv
  obtain⟨l,JE,hp⟩:=pick mD;exact⟨l,⟨JE,Oh (m:=4) (by omega) (λ_=>rfl) JE hp⟩,by omega⟩
theorem strs_of{a0:Option Addr}{n c:Nat}{x:DataW H×List MemPlace}(h:DataW.trod enc av w base spare held fuel 22 [.slice a0 n c]=G x):(∃l:List ByteArray,Strs w a0 n l)/\n<=maxLen/\(a0=U->c=0/\n=0):=by
 rcases Go.Deep.open_slice1 underlying22 (by kernel_rfl) h with⟨uy,_⟩|⟨a,len,cap,m,k,ah,D,Pl,uy,_,hl,hm,Hc,_,hi⟩
 ·simp at uy;obtain⟨rfl,rfl,rfl⟩:=uy;exact⟨⟨[],rfl,λh=>absurd rfl h⟩,by simp[maxLen],λ_=>⟨rfl,rfl⟩⟩
 ·simp at uy;obtain⟨rfl,rfl,rfl⟩:=uy;have hle:n<=m:=by rw[Hc];split<;>omega
  have mD: ∀i,i<n->∃s:ByteArray,∀(r:Nat) (v:Value),[V s][r]?=G v->w.cell? (a.add (i*1+r))=G v:=by
   intro i tH;obtain⟨hv,ht⟩:=hi i (by omega);obtain⟨S,e0,_,_⟩:=DataW.trod_string underlying9 ht;simp at e0;rw[e0]at hv;refine⟨S,λr v h=>?_⟩
   match r,h with
   |0,h=>simp at h;subst h;simpa using hv
   |r+1,h=>simp at h
  obtain⟨l,JE,hp⟩:=pick mD;refine⟨⟨l,JE,?_⟩,by omega,λe=>by cases e⟩;have:=Oh (m:=1) (by omega) (λ_=>rfl) JE hp;rwa[<-List.map_eq_flatMap]at this
theorem acts_of{a0:Option Addr}{n c:Nat}{x:DataW H×List MemPlace}(h:DataW.trod enc av w base spare held fuel 23 [.slice a0 n c]=G x): ∃L,ActsM w a0 n L/\n<=maxLen:=by
 rcases kr underlying23 underlying36 (by kernel_rfl) (by kernel_rfl) h with⟨uy,_⟩|⟨a,len,cap,m,D,Pl,uy,_,hl,hm,Hc,_,hi⟩
 ·simp at uy;obtain⟨rfl,rfl,rfl⟩:=uy;exact⟨[],⟨rfl,λh=>absurd rfl h,λx hx=>by cases hx⟩,by simp[maxLen]⟩
 ·simp at uy;obtain⟨rfl,rfl,rfl⟩:=uy;have hle:n<=m:=by rw[Hc];split<;>omega
  have mD: ∀i,i<n->∃x:WT,(∀(r:Nat) (v:Value),(OY x)[r]?=G v->w.cell? (a.add (i*6+r))=G v)/\J2 w x.pA x.pn x.ops/\x.pn<=maxLen:=by
   intro i tH;obtain⟨ys,k,_,_,_,hf⟩:=hi i (by omega);obtain⟨v0,y0,h0,_,t0⟩:=hf 0 _ rfl;obtain⟨v1,y1,h1,_,t1⟩:=hf 1 _ rfl;obtain⟨v2,y2,h2,_,t2⟩:=hf 2 _ rfl;obtain⟨v3,y3,h3,_,t3⟩:=hf 3 _ rfl;obtain⟨v4,y4,h4,_,t4⟩:=hf 4 _ rfl;obtain⟨v5,y5,h5,_,t5⟩:=hf 5 _ rfl;obtain⟨K0,e0,_,_⟩:=DataW.trod_int underlying3 t0;obtain⟨K1,e1,_,_⟩:=DataW.trod_int underlying3 t1;obtain⟨K2,e2,_,_⟩:=DataW.trod_int underlying3 t2;obtain⟨K3,e3,_,_⟩:=DataW.trod_int underlying3 t3;obtain⟨K4,e4,_,_⟩:=DataW.trod_int underlying3 t4;obtain⟨A5,q5,c5,e5⟩:=V3 t5;subst e5;simp at e0 e1 e2 e3 e4;subst e0 e1 e2 e3 e4;obtain⟨p,hp,hpm⟩:=V4 t5;refine⟨⟨K0,K1,K2,K3,K4,A5,q5,c5,p⟩,λr v hv=>?_,hp,hpm⟩
   match r,hv with
   |0,hv=>simp[OY]at hv;subst hv;exact h0
   |1,hv=>simp[OY]at hv;subst hv;exact h1
   |2,hv=>simp[OY]at hv;subst hv;exact h2
   |3,hv=>simp[OY]at hv;subst hv;exact h3
   |4,hv=>simp[OY]at hv;subst hv;exact h4
   |5,hv=>simp[OY]at hv;subst hv;exact h5
   |r+6,hv=>simp[OY]at hv
  obtain⟨l,JE,hp⟩:=pick mD;refine⟨l,⟨JE,Oh (m:=6) (by omega) (λ_=>rfl) JE (λi x hx=>(hp i x hx).1),λx hx=>?_⟩,by omega⟩;obtain⟨i,hx⟩:=List.getElem?_of_mem hx;exact⟨(hp i x hx).2.1,(hp i x hx).2.2⟩
end
end Go.Proofs.YtmaimjajdbgmiaaGreatDoor
namespace Go.Proofs.YtmaimjajdbgmiaaGreatDoor
open Go
theorem goes_of_none{P:Program}{c:OpenClaim}(h:P.funcs.toList.any Func.goes=false)(hs:(match c.start with| .entering=>true|_=>false)=true):c.goesBy P=false:=by
 have hf: ∀g:Nat,(P.funcs[g]?).any Func.goes=false:=λg=>by
  cases hg:P.funcs[g]? with
  |none=>rfl
  |some fn=>
   have hm:fn∈P.funcs.toList:=by
    rw[Array.mem_toList_iff];exact Array.mem_of_getElem? hg
   exact Bool.eq_false_iff.2 λe=>by
    have:=List.any_eq_false.1 h fn hm;exact this e
 have T2: ∀f,P.goes f=false:=λf=>by
  unfold Program.goes;rw[Bool.or_eq_false_iff];refine⟨?_,?_⟩
  ·refine Bool.eq_false_iff.2 λe=>?_;simp only[hf]at e;simp at e
  ·rw[Bool.and_eq_false_iff]
   right
   rw[<-Array.any_toList];exact h
 unfold OpenClaim.goesBy Program.goesAt Program.goesFrom;rw[Bool.or_eq_false_iff];refine⟨?_,?_⟩
 ·cases P.funcNamed c.func with
  |none=>rfl
  |some f=>exact T2 f
 ·split
  ·rfl
  ·rename_i hx;split at hs
   ·rename_i hy;exact(hx hy).elim
   ·cases hs
theorem none_goes:av.funcs.toList.any Func.goes=false:=by kernel_rfl
abbrev rc:OpenClaim:=Rows.topCountedRow
abbrev rs:ChangeSpec:=Rows.topCountedSpec
noncomputable abbrev rP:Program:=Tryz.pinned.checked.prog
theorem k1:(rc.wf (OpenSpec.ofChange rs)&&laidOutB rP&&mapsRowed rP&&Tryz.f3.params.all (rP.readableRec ·)&&namedTie rP rc.named rs.vars&&(rc.stops==[])&&(rP.stops==[])&&(rc.knobs==[])&&(rP.stopKnobs==[]))=true:=by kernel_rfl
theorem k2:(rc.inPlace==rP.inPlace 3)=true:=by kernel_rfl
theorem k3:(rc.unfollowed==rP.unfollowed 3)=true:=by kernel_rfl
theorem k4:(rc.recurses==rP.recurses 3)=true:=by kernel_rfl
theorem k5:(rc.named==rP.varsNamed 3)=true:=by kernel_rfl
theorem k6:(rc.maps==(Tryz.f3.params.toList++rs.plain.varTypes rP).any (rP.mapsRec ·))=true:=by kernel_rfl
theorem k7:(rc.ifaces==(Tryz.f3.params.toList++rs.plain.varTypes rP).any (rP.ifacesRec ·))=true:=by kernel_rfl
theorem k8:(rc.mapsOut==rP.mapsAmong Tryz.f3.resultTypes.toList)=true:=by kernel_rfl
theorem k9:(rc.loops==(Tryz.f3.params.toList++rs.plain.varTypes rP).any (rP.loopsFrom ·))=true:=by kernel_rfl
theorem k10:(rc.wideKeys==(Tryz.f3.params.toList++rs.plain.varTypes rP++Tryz.f3.resultTypes.toList).any (rP.wideKeysFrom ·))=true:=by kernel_rfl
theorem k11:rs.vars.all (rP.varReadable ·)=true:=by kernel_rfl
theorem k12:Tryz.f3.resultTypes.all (λt=>rP.readableRec t&&decide (t<rP.types.size))=true:=by kernel_rfl
theorem k13:(rc.ifacesOut==Tryz.f3.resultTypes.toList.any (rP.ifacesRec ·))=true:=by kernel_rfl
theorem k14:(rc.loopsOut==Tryz.f3.resultTypes.toList.any (rP.loopsFrom ·))=true:=by kernel_rfl
theorem k15:(rc.plainKeys==rP.plainKeys)=true:=by kernel_rfl
theorem k16:rc.shortTexts.isNone=true:=by kernel_rfl
theorem k17:rP.stopsHeard=true:=by kernel_rfl
theorem k18:rP.mayEnter=true:=by kernel_rfl
theorem k19:(rc.lifted==rP.liftsFinal)=true:=by kernel_rfl
theorem k20:(rP.make==G rc.make)=true:=by kernel_rfl
theorem k21:(rc.kinds==(if rc.domain.isEmpty then []else Tryz.f3.params.toList.map λt=>match rP.underlying t with|some (.int k)=>G k|_=>U))=true:=by kernel_rfl
theorem k22:(rc.pinned==rc.pinnedBy)=true:=by kernel_rfl
theorem k23:(rc.veiled==(Tryz.f3.params.toList++rs.plain.varTypes rP++Tryz.f3.resultTypes.toList).any (rP.veiledRec ·))=true:=by kernel_rfl
theorem k24:rc.veiledFits rP Tryz.f3.params.toList (Tryz.f3.params.toList++rs.plain.varTypes rP++Tryz.f3.resultTypes.toList)=true:=by kernel_rfl
theorem am{a b:Bool}(h:a=true)(g:b=true):(a&&b)=true:=by rw[h,g];rfl
theorem closed3:joinedFacts Tryz.pinned.checked.prog 3 Tryz.f3 Rows.topCountedSpec Rows.topCountedRow=true:=by
 unfold joinedFacts;exact am (am (am (am (am (am (am (am (am (am (am (am (am (am (am (am (am (am (am (am (am (am (am k1 k2) k3) k4) k5) k6) k7) k8) k9) k10) k11) k12) k13) k14) k15) k16) k17) k18) k19) k20) k21) k22) k23) k24
