import Derived.Test.YtmaimjajdbgmiaaGreatDoorAf
set_option linter.unusedVariables false
set_option linter.unusedSimpArgs false
set_option maxRecDepth 100000
set_option maxHeartbeats 0
open Go.Value renaming int→I,string→V,pointer→X,bool→Y,slice→T,tuple→aB,agg→aC
open Go.IntKind renaming i64→J
open Option renaming none→U,some→G
open Go.Ending renaming returned→ay
open Go.Obj renaming cells→az
open List renaming length_append→aL
open Go renaming World→aw,Calls→ax,bodyPost_ret→aE
open Go.Proofs.Tryz
open Go.Proofs.Tryz renaming prog→av
namespace Go.Proofs.YtmaimjajdbgmiaaGreatDoor
open Go.Lib Go.RowKit
def eO(nb:Nat)(A:Option Addr)(n c:Nat):Nat->Prop:=λg=>g=nb\/(T A n c).ownBlock=G g
def jL(x:Nat×Nat×bQ):List Value:=match x with
 |⟨i,k,cm⟩=>[I J (i:Nat),I J (k:Nat),I J cm.kind,I J cm.tx,I J cm.aS,I J cm.aY,I J cm.op,V cm.key,V cm.val,I J cm.mode,Y cm.yes]
def reqs(l:List (Nat×Nat×bQ)):List Value:=l.flatMap jL
structure dF(w:aw)(nb:Nat)(A:Option Addr)(n c:Nat)(l:List (Nat×Nat×bQ)):Prop where
 aW:aX w nb 105 #[T A n c]
 own:w.ownsRow 0 62 11 (T A n c) n (reqs l)
 len:l.length=n
 fx:n<=512
theorem BR:(av.info? 62).map (λi=>(i.zero,i.size,i.bytes))=G (G (aC #[I J 0,I J 0,I J 0,I J 0,I J 0,I J 0,I J 0,V ⟨#[]⟩,V ⟨#[]⟩,I J 0,Y false]),11,104):=by kernel_rfl
theorem zz(x:Nat×Nat×bQ):(jL x).length=11:=by obtain⟨i,k,cm⟩:=x;rfl
theorem Gf(x:Nat×Nat×bQ): ∀u∈jL x,u.oneCell'=true:=by
 obtain⟨i,k,cm⟩:=x;intro u hu;simp[jL]at hu;rcases hu with rfl|rfl|rfl|rfl|rfl|rfl|rfl|rfl|rfl|rfl|rfl<;>rfl
theorem MX(l:List (Nat×Nat×bQ)): ∀u∈reqs l,u.oneCell'=true:=by
 intro u hu;obtain⟨x,_,hx⟩:=List.mem_flatMap.1 hu;exact Gf x u hx
section
variable{w w':aw}{nb n c:Nat}{A:Option Addr}{l:List (Nat×Nat×bQ)}
theorem dF.ch{S:Nat->Prop}(h:dF w nb A n c l)(hC:Ch S w w')(hS: ∀g,eO nb A n c g->¬S g):dF w' nb A n c l:=⟨h.aW.ch hC (hS nb (.inl rfl)),bg h.own hC (λg hg=>hS g (.inr hg)),h.len,h.fx⟩
theorem dF.aR(h:dF w nb A n c l)(hC:M w w'):dF w' nb A n c l:=h.ch hC (λ_ _ h=>h)
theorem dF.fC(h:dF w nb A n c l):oo (eO nb A n c) w:=λg hg=>by
 rcases hg with e|e
 ·rw[e];exact h.aW.lt
 ·exact(h.own.lt g e).2
theorem Ro(w:aw):ax av 22 #[] w λe w'=>e=ay (X (G ⟨w.heap.size,0,U⟩))/\dF w' w.heap.size U 0 0 []/\M w w':=by
 have HB:=O (aX.new w 105 #[T U 0 0]);have HN:=O (show M w (w.alloc (az #[T U 0 0] 105))from(Ch.r _ w).alloc _);go_enter func22,ntmps22;go_wp2_with fail;go_ret;exact⟨rfl,⟨HB.o,World.ownsRow_nil _ _ _ _,rfl,by omega⟩,HN.o⟩
theorem Ej(h:dF w nb A n c l){i:Int}(h0:0<=i)(h1:i<n):ax av 66 #[X (G ⟨nb,0,U⟩),I J i] w λe w'=>e=ay (I J 0)/\w'=w:=by
 have x0:=h.aW.c 0;have xl:=h.aW.lt;have hn:(n:Int)<=512:=by have:=h.fx;omega
 clear h;go_enter func66,ntmps66;go_wp2_with fail;go_ret;exact⟨rfl,rfl⟩
theorem MZ(h:dF w nb A n c l){i:Int}(h0:i<0\/n<=i):ax av 66 #[X (G ⟨nb,0,U⟩),I J i] w λe w'=>e=ay (I J 6)/\w'=w:=by
 have x0:=h.aW.c 0;have xl:=h.aW.lt;have hn:(n:Int)<=512:=by have:=h.fx;omega
 clear h;rcases h0 with h0|h0
 ·go_enter func66,ntmps66;go_wp2_with fail;go_ret;exact⟨rfl,rfl⟩
 ·have h2:0<=i:=by omega
  go_enter func66,ntmps66;go_wp2_with fail;go_ret;exact⟨rfl,rfl⟩
theorem BS(h:dF w nb A n c l)(hn:512<=n)(x:Nat×Nat×bQ):ax av 62 #[X (G ⟨nb,0,U⟩),aC (jL x).toArray] w λe w'=>e=ay (I J 7)/\M w w':=by
 obtain⟨i,k,cm⟩:=x;have HB:=O (show aX (w.alloc (az #[I J (i:Nat),I J (k:Nat),I J cm.kind,I J cm.tx,I J cm.aS,I J cm.aY,I J cm.op,V cm.key,V cm.val,I J cm.mode,Y cm.yes] 62)) nb 105 #[T A n c]from h.aW.alloc _);have HN:=O (show M w (w.alloc (az #[I J (i:Nat),I J (k:Nat),I J cm.kind,I J cm.tx,I J cm.aS,I J cm.aY,I J cm.op,V cm.key,V cm.val,I J cm.mode,Y cm.yes] 62))from(Ch.r _ w).alloc _);have jW:(512:Int)<=(n:Int):=by omega
 have x0:=HB.o.c 0;have xl:=h.aW.lt;clear h;dsimp only[jL];go_enter func62,ntmps62;go_wp2_with fail;go_ret;exact⟨rfl,HN.o⟩
theorem BU(h:dF w nb A n c l)(hn:n<512)(x:Nat×Nat×bQ):ax av 62 #[X (G ⟨nb,0,U⟩),aC (jL x).toArray] w λe w'=>e=ay (I J 0)/\∃A' c',dF w' nb A' (n+1) c' (l++[x])/\Sub (eO nb A n c) (eO nb A' (n+1) c') w w':=by
 obtain⟨aq,hX⟩:=bG (x);obtain⟨i,k,cm⟩:=x;obtain⟨i1,dX,er,eu,eK⟩:=info_parts BR;have HH:=O h;have jW:(n:Int)<512:=by omega
 have x0:=(show aX (w.alloc (az #[I J (i:Nat),I J (k:Nat),I J cm.kind,I J cm.tx,I J cm.aS,I J cm.aY,I J cm.op,V cm.key,V cm.val,I J cm.mode,Y cm.yes] 62)) nb 105 #[T A n c]from h.aW.alloc _).c 0;have xl:=h.aW.lt;have Yp:0<11:=by decide
 have sr:n+1<=maxLen:=by unfold maxLen;omega
 have jE:(n+1)*104<=140737488355328:=by omega
 clear h hX;dsimp only[jL];go_enter func62,ntmps62;go_upto_region 5 with(fail);obtain⟨wz,bV⟩:=bG (w.alloc (az #[I J (i:Nat),I J (k:Nat),I J cm.kind,I J cm.tx,I J cm.aS,I J cm.aY,I J cm.op,V cm.key,V cm.val,I J cm.mode,Y cm.yes] 62));have HN:=kb bV;have HQ:=O (show aX wz w.heap.size 62 #[I J (i:Nat),I J (k:Nat),I J cm.kind,I J cm.tx,I J cm.aS,I J cm.aY,I J cm.op,V cm.key,V cm.val,I J cm.mode,Y cm.yes]from bV▸aX.new w 62 _);obtain⟨qb,bE⟩:=bG (w.heap.size);rw[bE]at HQ
 try rw[bV]
 try simp only[bE]
 have dp:=O bE;clear bV bE x0 xl;have HZ:=O (HH.o.aR HN.o);have z0:=HZ.o.aW.c 0;have zl:=HZ.o.aW.lt;have⟨y0,y1,y2,y3,y4,y5,y6,y7,y8⟩:=kq HQ.o;have y9:=HQ.o.c 9;have Yq:=HQ.o.c 10;have yl:=HQ.o.lt;have lG:=O (λ(W:aw) (hb:aX W wz.heap.size 62 #[I J (i:Nat),I J (k:Nat),I J cm.kind,I J cm.tx,I J cm.aS,I J cm.aY,I J cm.op,V cm.key,V cm.val,I J cm.mode,Y cm.yes])=>show Reads W (wz.heap.size+1) 11 (G ⟨wz.heap.size,0,U⟩) 1 [I J (i:Nat),I J (k:Nat),I J cm.kind,I J cm.tx,I J cm.aS,I J cm.aY,I J cm.op,V cm.key,V cm.val,I J cm.mode,Y cm.yes]from⟨rfl,λ_=>⟨_,rfl,by simp,λj u hu=>by
  rw[show(⟨wz.heap.size,0,U⟩:Addr).add j=⟨wz.heap.size,j,U⟩ by unfold Addr.add;split<;>simp_all,hb.c];simpa using hu⟩⟩)
 have HON:=O (Gf ⟨i,k,cm⟩);have mi:=O (λ(W:aw) (hC:M wz W)=>bg HZ.o.own hC (λ_ _ h=>h));have sK:=O (λ(W w8:aw) (hC:M wz W) (hg:W.grownBy w8 (T A n c).ownBlock)=>show aX w8 nb 105 #[T A n c]from
  (HZ.o.aW.ch hC (λh=>h)).grown hg (λe=>aV HZ.o.own HZ.o.aW (by decide) e.symm))
 go_region_law((refine bL _ rfl (.tmp 19) (.tmp 21) 103 rfl 0 62 i1 _ 11 104 underlying103 dX er eu eK rfl Yp (T A n c) n (reqs l) (by simp[Act.eval]) (mi.o _ (by first|exact((Ch.r _ wz).drew).alloc _|exact((Ch.r _ wz).alloc _).drew|exact(Ch.r _ wz).alloc _)) (wz.heap.size+1) (G ⟨wz.heap.size,0,U⟩) 1 1 [I J (i:Nat),I J (k:Nat),I J cm.kind,I J cm.tx,I J cm.aS,I J cm.aY,I J cm.op,V cm.key,V cm.val,I J cm.mode,Y cm.yes] (by simp[Act.eval]) (lG.o _ (by first|exact aX.new _ _ _|exact(aX.new _ _ _).drew)) HON.o sr jE (Nat.zero_le _) ?_);intro v9 w9 cC gV fl;obtain⟨A9,c9,rfl⟩:=bz cC;have mS:=O cC;have nY:=O (Ch.bF gV);have rF:=O fl;have gj:=O (sK.o _ w9 (by first|exact((Ch.r _ wz).drew).alloc _|exact((Ch.r _ wz).alloc _).drew|exact(Ch.r _ wz).alloc _) gV);have q0:=gj.o.c 0;have ql:=gj.o.lt;have qf:=gj.o.frozen 0;clear cC gV fl)
 all_goals
  have BM:=O (show Ch (λk=>(T A n c).ownBlock=G k) wz w9 from by first|exact(((Ch.r _ wz).alloc _).drew).t nY.o|exact(((Ch.r _ wz).drew).alloc _).t nY.o|exact((Ch.r _ wz).alloc _).t nY.o);have HS:=O (Ch.setCell (p:=⟨nb,0,U⟩) (Ch.r (λk=>k=nb) w9) (.inl rfl) (T A9 (n+1) c9));have hq:=dp.o;have hz:=HN.o.size;have Pm: ∀k,(T A9 (n+1) c9).ownBlock=G k->(T A n c).ownBlock=G k\/w.heap.size<=k:=λk hk=>by
   rcases rF.o with e|e
   ·exact .inl (e▸hk)
   ·right
    rw[hk]at e;injection e with e;have e:k=wz.heap.size+1:=by first|exact e|simpa using e
    omega
  have hl:reqs (l++[⟨i,k,cm⟩])=reqs l++[I J (i:Nat),I J (k:Nat),I J cm.kind,I J cm.tx,I J cm.aS,I J cm.aY,I J cm.op,V cm.key,V cm.val,I J cm.mode,Y cm.yes]:=by simp[reqs,jL]
  have M0:=O (show dF (w9.setCell ⟨nb,0,U⟩ (T A9 (n+1) c9)) nb A9 (n+1) c9 (l++[⟨i,k,cm⟩])from
   ⟨bu (gj.o.bm 0 (T A9 (n+1) c9)) (by simp),by rw[hl];exact bg mS.o HS.o (λk hk e=>aV mS.o gj.o (by decide) (by rw[<-e];exact hk)),by simp[HH.o.len],by omega⟩)
  have SH:=O (show Sub (eO nb A n c) (eO nb A9 (n+1) c9) w (w9.setCell ⟨nb,0,U⟩ (T A9 (n+1) c9))from
   ⟨((HN.o.mono (λ_ h=>h.elim)).t (BM.o.mono (λk hk=>.inr hk))).t (HS.o.mono (λk hk=>.inl hk)),λk hk=>by
     rcases hk with e|e
     ·exact .inl (.inl e)
     ·rcases Pm k e with e|e
      ·exact .inl (.inr e)
      ·exact .inr e⟩)
  clear q0 ql qf hq hz Pm
  first
  |(go_wp2_with fail
    go_ret;exact⟨rfl,A9,c9,M0.o,SH.o⟩)
  |(go_wp2_with fail
    go_ret;exact⟨rfl,A9,c9,M0.o.aR (aU _),SH.o.trans (Sub.bj _ (aU _))⟩)
end
theorem Rp{w:aw}{g n c i j:Nat}{xs:List Value}(h:w.ownsRow 0 62 11 (T (G ⟨g,0,U⟩) n c) n xs)(ot: ∀u∈xs,u.oneCell'=true)(hn:n<=100000)(hi:i<n)(hj:j=i+1):
 ax av 67 #[T (G ⟨g,0,U⟩) n c,I J i,I J j] w λe w'=>e=ay (T (G ⟨g,0,U⟩) (n-1) c)/\w'.ownsRow 0 62 11 (T (G ⟨g,0,U⟩) (n-1) c) (n-1) (xs.take (i*11)++xs.drop (j*11))/\Ch (λk=>k=g) w w':=by
 obtain⟨i1,dX,er,eu,eK⟩:=info_parts BR;obtain⟨Z,hb,pD,tD,fA⟩:=cV h;have HB:=O hb;have Jy:(c:Int)<=9223372036854775807:=by unfold maxLen at fA;omega
 have jW:(n:Int)<=100000:=by omega
 have Dk:(n:Int)<=(c:Int):=by omega
 have Ot:(j:Int)<=(n:Int):=by omega
 have TM:(i:Int)<=(j:Int):=by omega
 have Kj:(i:Int)<=(c:Int):=by omega
 have Xd:(j:Int)<=(c:Int):=by omega
 have Xe:i<=c:=by omega
 have TN:j<=c:=by omega
 have hjn:j<=n:=by omega
 have tG:i<=j:=by omega
 have d1:((i:Int)==(j:Int))=false:=by simp;omega
 have d2:decide ((i:Int)=(j:Int))=false:=by simp;omega
 have d3: ¬i=j:=by omega
 have su:=h.1;have hlen:(xs.drop (j*11)).length=(n-j)*11:=by rw[List.length_drop,su];omega
 obtain⟨A,hA,qP⟩: ∃A:Addr,(if c=j then(G (⟨g,0,U⟩:Addr))else G ⟨g,j*11,U⟩)=G A/\aD (∀t u,(xs.drop (j*11))[t]?=G u->w.drew.cell? (A.add t)=G u):=by
  by_cases e:c=j
  ·refine⟨⟨g,0,U⟩,by simp[e],λt u hu=>?_⟩;have h0:(xs.drop (j*11)).length=0:=by rw[hlen];omega
   rw[List.length_eq_zero_iff.1 h0]at hu;simp at hu
  ·refine⟨⟨g,j*11,U⟩,by simp[e],λt u hu=>?_⟩;rw[show(⟨g,j*11,U⟩:Addr).add t=⟨g,j*11+t,U⟩ by unfold Addr.add;split<;>simp_all];show w.cell? _=_;rw[hb.c];rw[List.getElem?_drop]at hu;simp only[List.getElem?_toArray];rw[List.getElem?_append_left (bf hu)];exact hu
 obtain⟨m,hm⟩:=bG (i+(n-j));have Dr:=O hlen;have ki:=O (show∀u∈xs.drop (j*11),u.oneCell'=true from λu hu=>ot u (List.mem_of_mem_drop hu));have jX:=O (show 0+i*11+(xs.drop (j*11)).length<=(xs++Z).length by rw[hlen,aL,su];omega);have pJ:=O (show m*11+(n-m)*11<=(splice (xs++Z) (0+i*11) (xs.drop (j*11))).length by rw[length_splice _ _ _ jX.o,aL,su];omega);have qR:=O (λ(zs:List Value) (hz:zs.length=(n-m)*11)=>show splice (splice (xs++Z) (0+i*11) (xs.drop (j*11))) (m*11) zs=(xs.take (i*11)++xs.drop (j*11))++(zs++Z)from by
  have e1:splice (xs++Z) (0+i*11) (xs.drop (j*11))=(xs.take (i*11)++xs.drop (j*11))++(xs.drop ((n-1)*11)++Z):=by
   unfold splice;rw[Nat.zero_add,hlen,List.take_append_of_le_length (by omega),List.drop_append_of_le_length (by omega),show i*11+(n-j)*11=(n-1)*11 by omega,List.append_assoc]
  rw[e1];have l1:(xs.take (i*11)++xs.drop (j*11)).length=m*11:=by rw[aL,hlen,List.length_take];omega
  have l2:(xs.drop ((n-1)*11)).length=11:=by rw[List.length_drop,su];omega
  unfold splice;have t1:=List.take_left (l₁:=xs.take (i*11)++xs.drop (j*11)) (l₂:=xs.drop ((n-1)*11)++Z);rw[l1]at t1;have t2:((xs.take (i*11)++xs.drop (j*11))++(xs.drop ((n-1)*11)++Z)).drop (m*11+zs.length)=Z:=by
   rw[<-List.append_assoc];have t3:=List.drop_left (l₁:=(xs.take (i*11)++xs.drop (j*11))++xs.drop ((n-1)*11)) (l₂:=Z);rw[aL,l1,l2]at t3;rw[hz,show(n-m)*11=11 by omega];exact t3
  rw[t1,t2])
 have mi:=O (show(xs.take (i*11)++xs.drop (j*11)).length=(n-1)*11/\∀zs:List Value,zs.length=(n-m)*11->((xs.take (i*11)++xs.drop (j*11))++(zs++Z)).length=c*11 from by
  refine⟨by rw[aL,hlen,List.length_take];omega,λzs hz=>?_⟩;rw[aL]at pD;rw[aL,aL,aL,hlen,List.length_take,hz];omega)
 have nV:=O fA;have TP:m<=n:=by omega
 have Xf:m<=c:=by omega
 have Aw:n-1=m:=by omega
 rw[Aw]at mi⊢;have hmI:((i:Int)+((n-j:Nat):Int))=(m:Int):=by omega
 clear h ot hn hj hb pD su hlen fA Aw;go_enter func67,ntmps67;go_wp2_with fail
 go_region_law((refine jY rfl (.tmp 22) (.tmp 25) 103 rfl 62 i1 11 underlying103 dX eu g 0 i c (by simp[Act.eval,Act.put]) A (n-j) (c-j) (xs.drop (j*11)) (by simp[Act.eval,Act.put]) Dr.o qP.o ki.o (by omega) (xs++Z) 62 HB.o jX.o ?_);intro w4 TG wg)
 have cK:=O (show Ch (λk=>k=g) w w4 from((Ch.r _ w).drew).t wg);clear wg;go_wp2_with(first
  |(refine dJ rfl (.tmp 31) 103 rfl 62 11 underlying103 (aC #[I J 0,I J 0,I J 0,I J 0,I J 0,I J 0,I J 0,V ⟨#[]⟩,V ⟨#[]⟩,I J 0,Y false]) (λw=>by simp[zeroValue,typeInfo,dX,er]) rfl (by simp[Value.cells,Value.oneCell']) (by omega) g (m*11) (n-m) (c-m) (by simp[Act.eval]) (splice (xs++Z) (0+i*11) (xs.drop (j*11))) 62 TG.o pJ.o ?_
    intro w5 zs Ax kg yA))
 go_ret;refine⟨rfl,?_,cK.o.t yA⟩;have nT:=kg.o;rw[qR.o zs Ax]at nT;exact eh (Z:=zs++Z) (Nat.zero_le _) mi.o.1 nT (mi.o.2 zs Ax) (by omega) nV.o
def rU(x:Nat×bQ×dh):List Value:=match x with
 |⟨i,cm,r⟩=>[I J (i:Nat),I J cm.kind,I J cm.tx,I J cm.aS,I J cm.aY,I J cm.op,V cm.key,V cm.val,I J cm.mode,Y cm.yes,I J r.code,I J r.state,V r.val,Y r.has]
def zA(l:List (Nat×bQ×dh)):List Value:=l.flatMap rU
structure eA(w:aw)(nb:Nat)(A:Option Addr)(n c:Nat)(l:List (Nat×bQ×dh)):Prop where
 aW:aX w nb 108 #[T A n c]
 own:w.ownsRow 0 68 14 (T A n c) n (zA l)
 len:l.length=n
 fx:n<=512
theorem BV:(av.info? 68).map (λi=>(i.zero,i.size,i.bytes))=G (G (aC #[I J 0,I J 0,I J 0,I J 0,I J 0,I J 0,V ⟨#[]⟩,V ⟨#[]⟩,I J 0,Y false,I J 0,I J 0,V ⟨#[]⟩,Y false]),14,136):=by kernel_rfl
theorem zB(x:Nat×bQ×dh):(rU x).length=14:=by obtain⟨i,cm,r⟩:=x;rfl
theorem Gg(x:Nat×bQ×dh): ∀u∈rU x,u.oneCell'=true:=by
 obtain⟨i,cm,r⟩:=x;intro u hu;simp[rU]at hu;rcases hu with rfl|rfl|rfl|rfl|rfl|rfl|rfl|rfl|rfl|rfl|rfl|rfl|rfl|rfl<;>rfl
theorem M1(l:List (Nat×bQ×dh)): ∀u∈zA l,u.oneCell'=true:=by
 intro u hu;obtain⟨x,_,hx⟩:=List.mem_flatMap.1 hu;exact Gg x u hx
section
variable{w w':aw}{nb n c:Nat}{A:Option Addr}{l:List (Nat×bQ×dh)}
theorem eA.ch{S:Nat->Prop}(h:eA w nb A n c l)(hC:Ch S w w')(hS: ∀g,eO nb A n c g->¬S g):eA w' nb A n c l:=⟨h.aW.ch hC (hS nb (.inl rfl)),bg h.own hC (λg hg=>hS g (.inr hg)),h.len,h.fx⟩
theorem eA.aR(h:eA w nb A n c l)(hC:M w w'):eA w' nb A n c l:=h.ch hC (λ_ _ h=>h)
theorem eA.fC(h:eA w nb A n c l):oo (eO nb A n c) w:=λg hg=>by
 rcases hg with e|e
 ·rw[e];exact h.aW.lt
 ·exact(h.own.lt g e).2
theorem Rq(w:aw):ax av 23 #[] w λe w'=>e=ay (X (G ⟨w.heap.size,0,U⟩))/\eA w' w.heap.size U 0 0 []/\M w w':=by
 have HB:=O (aX.new w 108 #[T U 0 0]);have HN:=O (show M w (w.alloc (az #[T U 0 0] 108))from(Ch.r _ w).alloc _);go_enter func23,ntmps23;go_wp2_with fail;go_ret;exact⟨rfl,⟨HB.o,World.ownsRow_nil _ _ _ _,rfl,by omega⟩,HN.o⟩
theorem U9(h:eA w nb A n c l){i:Int}(h0:0<=i)(h1:i<n):ax av 68 #[X (G ⟨nb,0,U⟩),I J i] w λe w'=>e=ay (I J 0)/\w'=w:=by
 have x0:=h.aW.c 0;have xl:=h.aW.lt;have hn:(n:Int)<=512:=by have:=h.fx;omega
 clear h;go_enter func68,ntmps68;go_wp2_with fail;go_ret;exact⟨rfl,rfl⟩
theorem Va(h:eA w nb A n c l){i:Int}(h0:i<0\/n<=i):ax av 68 #[X (G ⟨nb,0,U⟩),I J i] w λe w'=>e=ay (I J 6)/\w'=w:=by
 have x0:=h.aW.c 0;have xl:=h.aW.lt;have hn:(n:Int)<=512:=by have:=h.fx;omega
 clear h;rcases h0 with h0|h0
 ·go_enter func68,ntmps68;go_wp2_with fail;go_ret;exact⟨rfl,rfl⟩
 ·have h2:0<=i:=by omega
  go_enter func68,ntmps68;go_wp2_with fail;go_ret;exact⟨rfl,rfl⟩
theorem M4(h:eA w nb A n c l)(hn:512<=n)(x:Nat×bQ×dh):ax av 63 #[X (G ⟨nb,0,U⟩),aC (rU x).toArray] w λe w'=>e=ay (I J 7)/\M w w':=by
 obtain⟨i,cm,r⟩:=x;have HB:=O (show aX (w.alloc (az #[I J (i:Nat),I J cm.kind,I J cm.tx,I J cm.aS,I J cm.aY,I J cm.op,V cm.key,V cm.val,I J cm.mode,Y cm.yes,I J r.code,I J r.state,V r.val,Y r.has] 68)) nb 108 #[T A n c]from h.aW.alloc _);have HN:=O (show M w (w.alloc (az #[I J (i:Nat),I J cm.kind,I J cm.tx,I J cm.aS,I J cm.aY,I J cm.op,V cm.key,V cm.val,I J cm.mode,Y cm.yes,I J r.code,I J r.state,V r.val,Y r.has] 68))from(Ch.r _ w).alloc _);have jW:(512:Int)<=(n:Int):=by omega
 have x0:=HB.o.c 0;have xl:=h.aW.lt;clear h;dsimp only[rU];go_enter func63,ntmps63;go_wp2_with fail;go_ret;exact⟨rfl,HN.o⟩
theorem M5(h:eA w nb A n c l)(hn:n<512)(x:Nat×bQ×dh):ax av 63 #[X (G ⟨nb,0,U⟩),aC (rU x).toArray] w λe w'=>e=ay (I J 0)/\∃A' c',eA w' nb A' (n+1) c' (l++[x])/\Sub (eO nb A n c) (eO nb A' (n+1) c') w w':=by
 obtain⟨aq,hX⟩:=bG (x);obtain⟨i,cm,r⟩:=x;obtain⟨i1,dX,er,eu,eK⟩:=info_parts BV;have HH:=O h;have jW:(n:Int)<512:=by omega
 have x0:=(show aX (w.alloc (az #[I J (i:Nat),I J cm.kind,I J cm.tx,I J cm.aS,I J cm.aY,I J cm.op,V cm.key,V cm.val,I J cm.mode,Y cm.yes,I J r.code,I J r.state,V r.val,Y r.has] 68)) nb 108 #[T A n c]from h.aW.alloc _).c 0;have xl:=h.aW.lt;have Yp:0<14:=by decide
 have sr:n+1<=maxLen:=by unfold maxLen;omega
 have jE:(n+1)*136<=140737488355328:=by omega
 clear h hX;dsimp only[rU];go_enter func63,ntmps63;go_upto_region 5 with(fail);obtain⟨wz,bV⟩:=bG (w.alloc (az #[I J (i:Nat),I J cm.kind,I J cm.tx,I J cm.aS,I J cm.aY,I J cm.op,V cm.key,V cm.val,I J cm.mode,Y cm.yes,I J r.code,I J r.state,V r.val,Y r.has] 68));have HN:=kb bV;have HQ:=O (show aX wz w.heap.size 68 #[I J (i:Nat),I J cm.kind,I J cm.tx,I J cm.aS,I J cm.aY,I J cm.op,V cm.key,V cm.val,I J cm.mode,Y cm.yes,I J r.code,I J r.state,V r.val,Y r.has]from bV▸aX.new w 68 _);obtain⟨qb,bE⟩:=bG (w.heap.size);rw[bE]at HQ
 try rw[bV]
 try simp only[bE]
 have dp:=O bE;clear bV bE x0 xl;have HZ:=O (HH.o.aR HN.o);have z0:=HZ.o.aW.c 0;have zl:=HZ.o.aW.lt;have⟨y0,y1,y2,y3,y4,y5,y6,y7,y8⟩:=kq HQ.o;have y9:=HQ.o.c 9;have Yq:=HQ.o.c 10;have y11:=HQ.o.c 11;have y12:=HQ.o.c 12;have y13:=HQ.o.c 13;have yl:=HQ.o.lt;have lG:=O (λ(W:aw) (hb:aX W wz.heap.size 68 #[I J (i:Nat),I J cm.kind,I J cm.tx,I J cm.aS,I J cm.aY,I J cm.op,V cm.key,V cm.val,I J cm.mode,Y cm.yes,I J r.code,I J r.state,V r.val,Y r.has])=>show Reads W (wz.heap.size+1) 14 (G ⟨wz.heap.size,0,U⟩) 1 [I J (i:Nat),I J cm.kind,I J cm.tx,I J cm.aS,I J cm.aY,I J cm.op,V cm.key,V cm.val,I J cm.mode,Y cm.yes,I J r.code,I J r.state,V r.val,Y r.has]from⟨rfl,λ_=>⟨_,rfl,by simp,λj u hu=>by
  rw[show(⟨wz.heap.size,0,U⟩:Addr).add j=⟨wz.heap.size,j,U⟩ by unfold Addr.add;split<;>simp_all,hb.c];simpa using hu⟩⟩)
 have HON:=O (Gg ⟨i,cm,r⟩);have mi:=O (λ(W:aw) (hC:M wz W)=>bg HZ.o.own hC (λ_ _ h=>h));have sK:=O (λ(W w8:aw) (hC:M wz W) (hg:W.grownBy w8 (T A n c).ownBlock)=>show aX w8 nb 108 #[T A n c]from
  (HZ.o.aW.ch hC (λh=>h)).grown hg (λe=>aV HZ.o.own HZ.o.aW (by decide) e.symm))
 go_region_law((refine bL _ rfl (.tmp 19) (.tmp 21) 106 rfl 0 68 i1 _ 14 136 underlying106 dX er eu eK rfl Yp (T A n c) n (zA l) (by simp[Act.eval]) (mi.o _ (by first|exact((Ch.r _ wz).drew).alloc _|exact((Ch.r _ wz).alloc _).drew|exact(Ch.r _ wz).alloc _)) (wz.heap.size+1) (G ⟨wz.heap.size,0,U⟩) 1 1 [I J (i:Nat),I J cm.kind,I J cm.tx,I J cm.aS,I J cm.aY,I J cm.op,V cm.key,V cm.val,I J cm.mode,Y cm.yes,I J r.code,I J r.state,V r.val,Y r.has] (by simp[Act.eval]) (lG.o _ (by first|exact aX.new _ _ _|exact(aX.new _ _ _).drew)) HON.o sr jE (Nat.zero_le _) ?_);intro v9 w9 cC gV fl;obtain⟨A9,c9,rfl⟩:=bz cC;have mS:=O cC;have nY:=O (Ch.bF gV);have rF:=O fl;have gj:=O (sK.o _ w9 (by first|exact((Ch.r _ wz).drew).alloc _|exact((Ch.r _ wz).alloc _).drew|exact(Ch.r _ wz).alloc _) gV);have q0:=gj.o.c 0;have ql:=gj.o.lt;have qf:=gj.o.frozen 0;clear cC gV fl)
 all_goals
  have BM:=O (show Ch (λk=>(T A n c).ownBlock=G k) wz w9 from by first|exact(((Ch.r _ wz).alloc _).drew).t nY.o|exact(((Ch.r _ wz).drew).alloc _).t nY.o|exact((Ch.r _ wz).alloc _).t nY.o);have HS:=O (Ch.setCell (p:=⟨nb,0,U⟩) (Ch.r (λk=>k=nb) w9) (.inl rfl) (T A9 (n+1) c9));have hq:=dp.o;have hz:=HN.o.size;have Pm: ∀k,(T A9 (n+1) c9).ownBlock=G k->(T A n c).ownBlock=G k\/w.heap.size<=k:=λk hk=>by
   rcases rF.o with e|e
   ·exact .inl (e▸hk)
   ·right
    rw[hk]at e;injection e with e;have e:k=wz.heap.size+1:=by first|exact e|simpa using e
    omega
  have hl:zA (l++[⟨i,cm,r⟩])=zA l++[I J (i:Nat),I J cm.kind,I J cm.tx,I J cm.aS,I J cm.aY,I J cm.op,V cm.key,V cm.val,I J cm.mode,Y cm.yes,I J r.code,I J r.state,V r.val,Y r.has]:=by simp[zA,rU]
  have M0:=O (show eA (w9.setCell ⟨nb,0,U⟩ (T A9 (n+1) c9)) nb A9 (n+1) c9 (l++[⟨i,cm,r⟩])from
   ⟨bu (gj.o.bm 0 (T A9 (n+1) c9)) (by simp),by rw[hl];exact bg mS.o HS.o (λk hk e=>aV mS.o gj.o (by decide) (by rw[<-e];exact hk)),by simp[HH.o.len],by omega⟩)
  have SH:=O (show Sub (eO nb A n c) (eO nb A9 (n+1) c9) w (w9.setCell ⟨nb,0,U⟩ (T A9 (n+1) c9))from
   ⟨((HN.o.mono (λ_ h=>h.elim)).t (BM.o.mono (λk hk=>.inr hk))).t (HS.o.mono (λk hk=>.inl hk)),λk hk=>by
     rcases hk with e|e
     ·exact .inl (.inl e)
     ·rcases Pm k e with e|e
      ·exact .inl (.inr e)
      ·exact .inr e⟩)
  clear q0 ql qf hq hz Pm
  first
  |(go_wp2_with fail
    go_ret;exact⟨rfl,A9,c9,M0.o,SH.o⟩)
  |(go_wp2_with fail
    go_ret;exact⟨rfl,A9,c9,M0.o.aR (aU _),SH.o.trans (Sub.bj _ (aU _))⟩)
end
theorem Rr{w:aw}{g n c i j:Nat}{xs:List Value}(h:w.ownsRow 0 68 14 (T (G ⟨g,0,U⟩) n c) n xs)(ot: ∀u∈xs,u.oneCell'=true)(hn:n<=100000)(hi:i<n)(hj:j=i+1):
 ax av 69 #[T (G ⟨g,0,U⟩) n c,I J i,I J j] w λe w'=>e=ay (T (G ⟨g,0,U⟩) (n-1) c)/\w'.ownsRow 0 68 14 (T (G ⟨g,0,U⟩) (n-1) c) (n-1) (xs.take (i*14)++xs.drop (j*14))/\Ch (λk=>k=g) w w':=by
 obtain⟨i1,dX,er,eu,eK⟩:=info_parts BV;obtain⟨Z,hb,pD,tD,fA⟩:=cV h;have HB:=O hb;have Jy:(c:Int)<=9223372036854775807:=by unfold maxLen at fA;omega
 have jW:(n:Int)<=100000:=by omega
 have Dk:(n:Int)<=(c:Int):=by omega
 have Ot:(j:Int)<=(n:Int):=by omega
 have TM:(i:Int)<=(j:Int):=by omega
 have Kj:(i:Int)<=(c:Int):=by omega
 have Xd:(j:Int)<=(c:Int):=by omega
 have Xe:i<=c:=by omega
 have TN:j<=c:=by omega
 have hjn:j<=n:=by omega
 have tG:i<=j:=by omega
 have d1:((i:Int)==(j:Int))=false:=by simp;omega
 have d2:decide ((i:Int)=(j:Int))=false:=by simp;omega
 have d3: ¬i=j:=by omega
 have su:=h.1;have hlen:(xs.drop (j*14)).length=(n-j)*14:=by rw[List.length_drop,su];omega
 obtain⟨A,hA,qP⟩: ∃A:Addr,(if c=j then(G (⟨g,0,U⟩:Addr))else G ⟨g,j*14,U⟩)=G A/\aD (∀t u,(xs.drop (j*14))[t]?=G u->w.drew.cell? (A.add t)=G u):=by
  by_cases e:c=j
  ·refine⟨⟨g,0,U⟩,by simp[e],λt u hu=>?_⟩;have h0:(xs.drop (j*14)).length=0:=by rw[hlen];omega
   rw[List.length_eq_zero_iff.1 h0]at hu;simp at hu
  ·refine⟨⟨g,j*14,U⟩,by simp[e],λt u hu=>?_⟩;rw[show(⟨g,j*14,U⟩:Addr).add t=⟨g,j*14+t,U⟩ by unfold Addr.add;split<;>simp_all];show w.cell? _=_;rw[hb.c];rw[List.getElem?_drop]at hu;simp only[List.getElem?_toArray];rw[List.getElem?_append_left (bf hu)];exact hu
 obtain⟨m,hm⟩:=bG (i+(n-j));have Dr:=O hlen;have ki:=O (show∀u∈xs.drop (j*14),u.oneCell'=true from λu hu=>ot u (List.mem_of_mem_drop hu));have jX:=O (show 0+i*14+(xs.drop (j*14)).length<=(xs++Z).length by rw[hlen,aL,su];omega);have pJ:=O (show m*14+(n-m)*14<=(splice (xs++Z) (0+i*14) (xs.drop (j*14))).length by rw[length_splice _ _ _ jX.o,aL,su];omega);have qR:=O (λ(zs:List Value) (hz:zs.length=(n-m)*14)=>show splice (splice (xs++Z) (0+i*14) (xs.drop (j*14))) (m*14) zs=(xs.take (i*14)++xs.drop (j*14))++(zs++Z)from by
  have e1:splice (xs++Z) (0+i*14) (xs.drop (j*14))=(xs.take (i*14)++xs.drop (j*14))++(xs.drop ((n-1)*14)++Z):=by
   unfold splice;rw[Nat.zero_add,hlen,List.take_append_of_le_length (by omega),List.drop_append_of_le_length (by omega),show i*14+(n-j)*14=(n-1)*14 by omega,List.append_assoc]
  rw[e1];have l1:(xs.take (i*14)++xs.drop (j*14)).length=m*14:=by rw[aL,hlen,List.length_take];omega
  have l2:(xs.drop ((n-1)*14)).length=14:=by rw[List.length_drop,su];omega
  unfold splice;have t1:=List.take_left (l₁:=xs.take (i*14)++xs.drop (j*14)) (l₂:=xs.drop ((n-1)*14)++Z);rw[l1]at t1;have t2:((xs.take (i*14)++xs.drop (j*14))++(xs.drop ((n-1)*14)++Z)).drop (m*14+zs.length)=Z:=by
   rw[<-List.append_assoc];have t3:=List.drop_left (l₁:=(xs.take (i*14)++xs.drop (j*14))++xs.drop ((n-1)*14)) (l₂:=Z);rw[aL,l1,l2]at t3;rw[hz,show(n-m)*14=14 by omega];exact t3
  rw[t1,t2])
 have mi:=O (show(xs.take (i*14)++xs.drop (j*14)).length=(n-1)*14/\∀zs:List Value,zs.length=(n-m)*14->((xs.take (i*14)++xs.drop (j*14))++(zs++Z)).length=c*14 from by
  refine⟨by rw[aL,hlen,List.length_take];omega,λzs hz=>?_⟩;rw[aL]at pD;rw[aL,aL,aL,hlen,List.length_take,hz];omega)
 have nV:=O fA;have TP:m<=n:=by omega
 have Xf:m<=c:=by omega
 have Aw:n-1=m:=by omega
 rw[Aw]at mi⊢;have hmI:((i:Int)+((n-j:Nat):Int))=(m:Int):=by omega
 clear h ot hn hj hb pD su hlen fA Aw;go_enter func69,ntmps69;go_wp2_with fail
 go_region_law((refine jY rfl (.tmp 22) (.tmp 25) 106 rfl 68 i1 14 underlying106 dX eu g 0 i c (by simp[Act.eval,Act.put]) A (n-j) (c-j) (xs.drop (j*14)) (by simp[Act.eval,Act.put]) Dr.o qP.o ki.o (by omega) (xs++Z) 68 HB.o jX.o ?_);intro w4 TG wg)
 have cK:=O (show Ch (λk=>k=g) w w4 from((Ch.r _ w).drew).t wg);clear wg;go_wp2_with(first
  |(refine dJ rfl (.tmp 31) 106 rfl 68 14 underlying106 (aC #[I J 0,I J 0,I J 0,I J 0,I J 0,I J 0,V ⟨#[]⟩,V ⟨#[]⟩,I J 0,Y false,I J 0,I J 0,V ⟨#[]⟩,Y false]) (λw=>by simp[zeroValue,typeInfo,dX,er]) rfl (by simp[Value.cells,Value.oneCell']) (by omega) g (m*14) (n-m) (c-m) (by simp[Act.eval]) (splice (xs++Z) (0+i*14) (xs.drop (j*14))) 68 TG.o pJ.o ?_
    intro w5 zs Ax kg yA))
 go_ret;refine⟨rfl,?_,cK.o.t yA⟩;have nT:=kg.o;rw[qR.o zs Ax]at nT;exact eh (Z:=zs++Z) (Nat.zero_le _) mi.o.1 nT (mi.o.2 zs Ax) (by omega) nV.o
section
variable{α β:Type}{f:α->List β}{m:Nat}
theorem Gh(h: ∀x,(f x).length=m): ∀(l:List α) (p:Nat),(l.flatMap f).take (p*m)=(l.take p).flatMap f
 |[],p=>by simp
 |x::r,0=>by simp
 |x::r,p+1=>by
  rw[List.flatMap_cons,List.take_succ_cons,List.flatMap_cons,List.take_append,h x,List.take_of_length_le (by rw[h x,Nat.add_mul];omega),show(p+1)*m-m=p*m by rw[Nat.add_mul];omega,Gh h r p]
theorem Gi(h: ∀x,(f x).length=m): ∀(l:List α) (p:Nat),(l.flatMap f).drop (p*m)=(l.drop p).flatMap f
 |[],p=>by simp
 |x::r,0=>by simp
 |x::r,p+1=>by
  rw[List.flatMap_cons,List.drop_succ_cons,List.drop_append,h x,List.drop_of_length_le (by rw[h x,Nat.add_mul];omega),show(p+1)*m-m=p*m by rw[Nat.add_mul];omega,Gi h r p,List.nil_append]
theorem BW(h: ∀x,(f x).length=m)(l:List α)(i:Nat):(l.flatMap f).take (i*m)++(l.flatMap f).drop ((i+1)*m)=(l.eraseIdx i).flatMap f:=by
 rw[Gh h,Gi h, <-List.flatMap_append,List.eraseIdx_eq_take_drop_succ]
end
section
variable{w w':aw}{nb n c:Nat}{A:Option Addr}
theorem dF.at_{l:List (Nat×Nat×bQ)}(h:dF w nb A n c l){p:Nat}{x:Nat×Nat×bQ}(hx:l[p]?=G x): ∃g,A=G ⟨g,0,U⟩/\g<w.heap.size/\∀j u,(jL x)[j]?=G u->w.cell? ⟨g,p*11+j,U⟩=G u:=by
 have hn:0<n:=by have:=bf hx;have:=h.len;omega
 obtain⟨g,cap,hv,_,hlt⟩:=h.own.form hn;injection hv with hA _ _;subst hA;refine⟨g,rfl,hlt,λj u hu=>?_⟩;have hj:j<11:=by have:=bf hu;rw[zz]at this;exact this
 have hg:=eI (f:=jL) (m:=11) (λx _=>zz x) hx hj;rw[hu]at hg;obtain⟨b,off,e,_,hc⟩:=(Rd.own h.own) (fh hg);injection e with e;injection e with e1 e2;subst e1 e2;have:=hc _ _ hg;simpa using this
theorem eA.at_{l:List (Nat×bQ×dh)}(h:eA w nb A n c l){p:Nat}{x:Nat×bQ×dh}(hx:l[p]?=G x): ∃g,A=G ⟨g,0,U⟩/\g<w.heap.size/\∀j u,(rU x)[j]?=G u->w.cell? ⟨g,p*14+j,U⟩=G u:=by
 have hn:0<n:=by have:=bf hx;have:=h.len;omega
 obtain⟨g,cap,hv,_,hlt⟩:=h.own.form hn;injection hv with hA _ _;subst hA;refine⟨g,rfl,hlt,λj u hu=>?_⟩;have hj:j<14:=by have:=bf hu;rw[zB]at this;exact this
 have hg:=eI (f:=rU) (m:=14) (λx _=>zB x) hx hj;rw[hu]at hg;obtain⟨b,off,e,_,hc⟩:=(Rd.own h.own) (fh hg);injection e with e;injection e with e1 e2;subst e1 e2;have:=hc _ _ hg;simpa using this
end
section
variable{w w':aw}{nb n c:Nat}{A:Option Addr}
def ka(w:aw)(b i k:Nat)(cm:bQ):aw:=(((((((((((w.setCell ⟨b,0,U⟩ (I J (i:Nat))).setCell ⟨b,1,U⟩ (I J (k:Nat))).setCell ⟨b,2,U⟩ (I J cm.kind)).setCell ⟨b,3,U⟩ (I J cm.tx)).setCell ⟨b,4,U⟩ (I J cm.aS)).setCell ⟨b,5,U⟩ (I J cm.aY)).setCell ⟨b,6,U⟩ (I J cm.op)).setCell ⟨b,7,U⟩ (V cm.key)).setCell ⟨b,8,U⟩ (V cm.val)).setCell ⟨b,9,U⟩ (I J cm.mode)).setCell ⟨b,10,U⟩ (Y cm.yes))
theorem rV(w:aw)(b i k:Nat)(cm:bQ):Ch (λg=>g=b) w (ka w b i k cm):=((((((((((((Ch.r (λg=>g=b) w).setCell (p:=⟨b,0,U⟩) (.inl rfl) _).setCell (p:=⟨b,1,U⟩) (.inl rfl) _).setCell (p:=⟨b,2,U⟩) (.inl rfl) _).setCell (p:=⟨b,3,U⟩) (.inl rfl) _).setCell (p:=⟨b,4,U⟩) (.inl rfl) _).setCell (p:=⟨b,5,U⟩) (.inl rfl) _).setCell (p:=⟨b,6,U⟩) (.inl rfl) _).setCell (p:=⟨b,7,U⟩) (.inl rfl) _).setCell (p:=⟨b,8,U⟩) (.inl rfl) _).setCell (p:=⟨b,9,U⟩) (.inl rfl) _).setCell (p:=⟨b,10,U⟩) (.inl rfl) _)
theorem Ek{b:Nat}(h:aX w b 62 #[I J 0,I J 0,I J 0,I J 0,I J 0,I J 0,I J 0,V ⟨#[]⟩,V ⟨#[]⟩,I J 0,Y false])(i k:Nat)(cm:bQ):aX (ka w b i k cm) b 62 #[I J (i:Nat),I J (k:Nat),I J cm.kind,I J cm.tx,I J cm.aS,I J cm.aY,I J cm.op,V cm.key,V cm.val,I J cm.mode,Y cm.yes]:=bu (((((((((((h.bm 0 (I J (i:Nat))).bm 1 (I J (k:Nat))).bm 2 (I J cm.kind)).bm 3 (I J cm.tx)).bm 4 (I J cm.aS)).bm 5 (I J cm.aY)).bm 6 (I J cm.op)).bm 7 (V cm.key)).bm 8 (V cm.val)).bm 9 (I J cm.mode)).bm 10 (Y cm.yes)) (by simp)
theorem BZ{l:List (Nat×Nat×bQ)}(h:dF w nb A n c l){p:Nat}{x:Nat×Nat×bQ}(hx:l[p]?=G x):
 ax av 30 #[X (G ⟨nb,0,U⟩),I J p] w λe w'=>e=ay (aB #[aC (jL x).toArray,I J 0])/\dF w' nb A (n-1) c (l.eraseIdx p)/\Sub (eO nb A n c) (eO nb A (n-1) c) w w':=by
 have HH:=O h;have TE:p<n:=by have:=bf hx;have:=h.len;omega
 have Wc:n<=512:=h.fx;have Df:(p:Int)<(n:Int):=by omega
 have jW:(n:Int)<=512:=by omega
 have kD:=O (λw' (hN:M w w')=>Ej (h.aR hN) (i:=(p:Int)) (by omega) Df);have HX:=O hx;obtain⟨i,k,cm⟩:=x;clear h hx;go_enter func30,ntmps30;go_wp2_with fail;refine(kD.o _ (((Ch.r _ w).alloc _).alloc _)).mono ?_;rintro e w2 ⟨rfl,ew⟩;subst ew;dsimp only;have HZ:=O (HH.o.aR (((Ch.r _ w).alloc (az #[I J 0,I J 0,I J 0,I J 0,I J 0,I J 0,I J 0,V ⟨#[]⟩,V ⟨#[]⟩,I J 0,Y false] 62)).alloc (az #[I J 0,I J 0,I J 0,I J 0,I J 0,I J 0,I J 0,V ⟨#[]⟩,V ⟨#[]⟩,I J 0,Y false] 62)));obtain⟨g,rfl,nz,hc⟩:=HZ.o.at_ HX.o;have x0:=HZ.o.aW.c 0;have xl:=HZ.o.aW.lt;have⟨r0,r1,r2,r3,r4,r5⟩:=(show _/\_/\_/\_/\_/\_ from⟨hc 0 _ rfl,hc 1 _ rfl,hc 2 _ rfl,hc 3 _ rfl,hc 4 _ rfl,hc 5 _ rfl⟩);have⟨r6,r7,r8,r9,Yr⟩:=(show _/\_/\_/\_/\_ from⟨hc 6 _ rfl,hc 7 _ rfl,hc 8 _ rfl,hc 9 _ rfl,hc 10 _ rfl⟩);simp only[Nat.add_zero]at r0;clear hc;go_upto_region 6 with(fail);obtain⟨w3,je⟩:=bG ((w.alloc (az #[I J 0,I J 0,I J 0,I J 0,I J 0,I J 0,I J 0,V ⟨#[]⟩,V ⟨#[]⟩,I J 0,Y false] 62)).alloc (az #[I J (i:Nat),I J (k:Nat),I J cm.kind,I J cm.tx,I J cm.aS,I J cm.aY,I J cm.op,V cm.key,V cm.val,I J cm.mode,Y cm.yes] 62));have cE:=(fZ je).1;have iq:=O (show aX w3 w.heap.size 62 #[I J 0,I J 0,I J 0,I J 0,I J 0,I J 0,I J 0,V ⟨#[]⟩,V ⟨#[]⟩,I J 0,Y false]from je▸(aX.new w 62 _).alloc _);have oX:=(fZ je).2;rw[je];obtain⟨qb,bE⟩:=bG (w.heap.size);rw[bE]at iq oX
 try simp only[bE]
 have dp:=O bE;clear je bE x0 xl r0 r1 r2 r3 r4 r5 r6 r7 r8 r9 Yr nz;have H3:=O (HH.o.aR cE.o);have x0:=H3.o.aW.c 0;have xl:=H3.o.aW.lt;have HD:=O (Rp (i:=p) (j:=p+1) H3.o.own (MX l) (by omega) TE rfl);go_wp2_with fail;refine HD.o.mono ?_;rintro e w4 ⟨rfl,hO,Ad⟩;dsimp only;have JB:=(HH.o.own.lt g rfl).2;have qd9:=HH.o.aW.lt;have hq:=dp.o;have Ys: ¬nb=g:=λe=>aV H3.o.own H3.o.aW (by decide) (by rw[e];rfl);have qD:=O hO;have cK:=O Ad;have dQ:=O (H3.o.aW.ch Ad Ys);have Vb:=O (iq.o.ch Ad (by omega));have Vc:=O (oX.o.ch Ad (by omega));clear hO Ad x0 xl HD;have x0:=dQ.o.c 0;have xl:=dQ.o.lt;have xf:=dQ.o.frozen 0;go_upto_region 7 with(fail);have js:=O (Ch.setCell (p:=⟨nb,0,U⟩) (Ch.r (λk=>k=nb) w4) (.inl rfl) (T (G ⟨g,0,U⟩) (n-1) c));have ff:=O (show aX (w4.setCell ⟨nb,0,U⟩ (T (G ⟨g,0,U⟩) (n-1) c)) nb 105 #[T (G ⟨g,0,U⟩) (n-1) c]from bu (dQ.o.bm 0 (T (G ⟨g,0,U⟩) (n-1) c)) (by simp));generalize w4.setCell ⟨nb,0,U⟩ (T (G ⟨g,0,U⟩) (n-1) c)=w5 at *;have gQ:=O (Vb.o.ch js.o (by omega));have iQ:=O (Vc.o.ch js.o (by omega));have pN:=O (bg qD.o js.o (λk hk e=>Ys (by rw[<-e];cases hk;rfl)));clear x0 xl xf;have⟨y0,y1,y2,y3,y4,y5⟩:=(show _/\_/\_/\_/\_/\_ from⟨iQ.o.c 0,iQ.o.c 1,iQ.o.c 2,iQ.o.c 3,iQ.o.c 4,iQ.o.c 5⟩);have⟨y6,y7,y8,y9,Yq⟩:=(show _/\_/\_/\_/\_ from⟨iQ.o.c 6,iQ.o.c 7,iQ.o.c 8,iQ.o.c 9,iQ.o.c 10⟩);have yl:=iQ.o.lt;have⟨z0,z1,z2,z3,z4,z5⟩:=(show _/\_/\_/\_/\_/\_ from⟨gQ.o.c 0,gQ.o.c 1,gQ.o.c 2,gQ.o.c 3,gQ.o.c 4,gQ.o.c 5⟩);have⟨z6,z7,z8,z9,Yt⟩:=(show _/\_/\_/\_/\_ from⟨gQ.o.c 6,gQ.o.c 7,gQ.o.c 8,gQ.o.c 9,gQ.o.c 10⟩);have zl:=gQ.o.lt;have zf:=gQ.o.frozen;go_wp2_with fail;change bodyPost _ _ _ _ _ (ka w5 qb i k cm);have HY:=O (Ek gQ.o i k cm);have iU:=O (rV w5 qb i k cm);generalize ka w5 qb i k cm=w6 at *;clear y0 y1 y2 y3 y4 y5 y6 y7 y8 y9 Yq z0 z1 z2 z3 z4 z5 z6 z7 z8 z9 Yt zf;have⟨g0,g1,g2,g3,g4,g5⟩:=(show _/\_/\_/\_/\_/\_ from⟨HY.o.c 0,HY.o.c 1,HY.o.c 2,HY.o.c 3,HY.o.c 4,HY.o.c 5⟩);have⟨g6,g7,g8,g9,g10⟩:=(show _/\_/\_/\_/\_ from⟨HY.o.c 6,HY.o.c 7,HY.o.c 8,HY.o.c 9,HY.o.c 10⟩);refine aE (v:=aB #[aC #[I J (i:Nat),I J (k:Nat),I J cm.kind,I J cm.tx,I J cm.aS,I J cm.aY,I J cm.op,V cm.key,V cm.val,I J cm.mode,Y cm.yes],I J 0]) (by simp[results,results30,go_sem,g0,g1,g2,g3,g4,g5,g6,g7,g8,g9,g10]) rfl ⟨rfl,⟨ff.o.ch iU.o (by omega),?_,?_,by omega⟩,?_⟩
 ·rw[show reqs (l.eraseIdx p)=(reqs l).take (p*11)++(reqs l).drop ((p+1)*11)from(BW zz l p).symm];exact bg pN.o iU.o (λk hk e=>by have kW:(G g:Option Nat)=G k:=hk;injection kW with kW;omega)
 ·rw[List.length_eraseIdx_of_lt (by rw[HH.o.len];omega),HH.o.len]
 ·exact⟨((((cE.o.mono (λ_ h=>h.elim)).t (cK.o.mono (λk hk=>.inr (by rw[hk];rfl)))).t (js.o.mono (λk hk=>.inl hk))).trans iU.o (λk hk=>.inr (by omega))),λk hk=>.inl (by rcases hk with e|e;exact .inl e;exact .inr e)⟩
end
section
variable{w w':aw}{nb n c:Nat}{A:Option Addr}
def zC(w:aw)(b i:Nat)(cm:bQ)(r:dh):aw:=((((((((((((((w.setCell ⟨b,0,U⟩ (I J (i:Nat))).setCell ⟨b,1,U⟩ (I J cm.kind)).setCell ⟨b,2,U⟩ (I J cm.tx)).setCell ⟨b,3,U⟩ (I J cm.aS)).setCell ⟨b,4,U⟩ (I J cm.aY)).setCell ⟨b,5,U⟩ (I J cm.op)).setCell ⟨b,6,U⟩ (V cm.key)).setCell ⟨b,7,U⟩ (V cm.val)).setCell ⟨b,8,U⟩ (I J cm.mode)).setCell ⟨b,9,U⟩ (Y cm.yes)).setCell ⟨b,10,U⟩ (I J r.code)).setCell ⟨b,11,U⟩ (I J r.state)).setCell ⟨b,12,U⟩ (V r.val)).setCell ⟨b,13,U⟩ (Y r.has))
theorem IK(w:aw)(b i:Nat)(cm:bQ)(r:dh):Ch (λg=>g=b) w (zC w b i cm r):=(((((((((((((((Ch.r (λg=>g=b) w).setCell (p:=⟨b,0,U⟩) (.inl rfl) _).setCell (p:=⟨b,1,U⟩) (.inl rfl) _).setCell (p:=⟨b,2,U⟩) (.inl rfl) _).setCell (p:=⟨b,3,U⟩) (.inl rfl) _).setCell (p:=⟨b,4,U⟩) (.inl rfl) _).setCell (p:=⟨b,5,U⟩) (.inl rfl) _).setCell (p:=⟨b,6,U⟩) (.inl rfl) _).setCell (p:=⟨b,7,U⟩) (.inl rfl) _).setCell (p:=⟨b,8,U⟩) (.inl rfl) _).setCell (p:=⟨b,9,U⟩) (.inl rfl) _).setCell (p:=⟨b,10,U⟩) (.inl rfl) _).setCell (p:=⟨b,11,U⟩) (.inl rfl) _).setCell (p:=⟨b,12,U⟩) (.inl rfl) _).setCell (p:=⟨b,13,U⟩) (.inl rfl) _)
theorem El{b:Nat}(h:aX w b 68 #[I J 0,I J 0,I J 0,I J 0,I J 0,I J 0,V ⟨#[]⟩,V ⟨#[]⟩,I J 0,Y false,I J 0,I J 0,V ⟨#[]⟩,Y false])(i:Nat)(cm:bQ)(r:dh):aX (zC w b i cm r) b 68 #[I J (i:Nat),I J cm.kind,I J cm.tx,I J cm.aS,I J cm.aY,I J cm.op,V cm.key,V cm.val,I J cm.mode,Y cm.yes,I J r.code,I J r.state,V r.val,Y r.has]:=bu ((((((((((((((h.bm 0 (I J (i:Nat))).bm 1 (I J cm.kind)).bm 2 (I J cm.tx)).bm 3 (I J cm.aS)).bm 4 (I J cm.aY)).bm 5 (I J cm.op)).bm 6 (V cm.key)).bm 7 (V cm.val)).bm 8 (I J cm.mode)).bm 9 (Y cm.yes)).bm 10 (I J r.code)).bm 11 (I J r.state)).bm 12 (V r.val)).bm 13 (Y r.has)) (by simp)
theorem B0{l:List (Nat×bQ×dh)}(h:eA w nb A n c l){p:Nat}{x:Nat×bQ×dh}(hx:l[p]?=G x):
 ax av 31 #[X (G ⟨nb,0,U⟩),I J p] w λe w'=>e=ay (aB #[aC (rU x).toArray,I J 0])/\eA w' nb A (n-1) c (l.eraseIdx p)/\Sub (eO nb A n c) (eO nb A (n-1) c) w w':=by
 have HH:=O h;have TE:p<n:=by have:=bf hx;have:=h.len;omega
 have Wc:n<=512:=h.fx;have Df:(p:Int)<(n:Int):=by omega
 have jW:(n:Int)<=512:=by omega
 have kD:=O (λw' (hN:M w w')=>U9 (h.aR hN) (i:=(p:Int)) (by omega) Df);have HX:=O hx;obtain⟨i,cm,r⟩:=x;clear h hx;go_enter func31,ntmps31;go_wp2_with fail;refine(kD.o _ (((Ch.r _ w).alloc _).alloc _)).mono ?_;rintro e w2 ⟨rfl,ew⟩;subst ew;dsimp only;have HZ:=O (HH.o.aR (((Ch.r _ w).alloc (az #[I J 0,I J 0,I J 0,I J 0,I J 0,I J 0,V ⟨#[]⟩,V ⟨#[]⟩,I J 0,Y false,I J 0,I J 0,V ⟨#[]⟩,Y false] 68)).alloc (az #[I J 0,I J 0,I J 0,I J 0,I J 0,I J 0,V ⟨#[]⟩,V ⟨#[]⟩,I J 0,Y false,I J 0,I J 0,V ⟨#[]⟩,Y false] 68)));obtain⟨g,rfl,nz,hc⟩:=HZ.o.at_ HX.o;have x0:=HZ.o.aW.c 0;have xl:=HZ.o.aW.lt;have⟨r0,r1,r2,r3,r4,r5⟩:=(show _/\_/\_/\_/\_/\_ from⟨hc 0 _ rfl,hc 1 _ rfl,hc 2 _ rfl,hc 3 _ rfl,hc 4 _ rfl,hc 5 _ rfl⟩);have⟨r6,r7,r8,r9,Yr⟩:=(show _/\_/\_/\_/\_ from⟨hc 6 _ rfl,hc 7 _ rfl,hc 8 _ rfl,hc 9 _ rfl,hc 10 _ rfl⟩);have⟨r11,r12,r13⟩:=(show _/\_/\_ from⟨hc 11 _ rfl,hc 12 _ rfl,hc 13 _ rfl⟩);simp only[Nat.add_zero]at r0;clear hc;go_upto_region 6 with(fail);obtain⟨w3,je⟩:=bG ((w.alloc (az #[I J 0,I J 0,I J 0,I J 0,I J 0,I J 0,V ⟨#[]⟩,V ⟨#[]⟩,I J 0,Y false,I J 0,I J 0,V ⟨#[]⟩,Y false] 68)).alloc (az #[I J (i:Nat),I J cm.kind,I J cm.tx,I J cm.aS,I J cm.aY,I J cm.op,V cm.key,V cm.val,I J cm.mode,Y cm.yes,I J r.code,I J r.state,V r.val,Y r.has] 68));have cE:=(fZ je).1;have iq:=O (show aX w3 w.heap.size 68 #[I J 0,I J 0,I J 0,I J 0,I J 0,I J 0,V ⟨#[]⟩,V ⟨#[]⟩,I J 0,Y false,I J 0,I J 0,V ⟨#[]⟩,Y false]from je▸(aX.new w 68 _).alloc _);have oX:=(fZ je).2;rw[je];obtain⟨qb,bE⟩:=bG (w.heap.size);rw[bE]at iq oX
 try simp only[bE]
 have dp:=O bE;clear je bE x0 xl r0 r1 r2 r3 r4 r5 r6 r7 r8 r9 Yr r11 r12 r13 nz;have H3:=O (HH.o.aR cE.o);have x0:=H3.o.aW.c 0;have xl:=H3.o.aW.lt;have HD:=O (Rr (i:=p) (j:=p+1) H3.o.own (M1 l) (by omega) TE rfl);go_wp2_with fail;refine HD.o.mono ?_;rintro e w4 ⟨rfl,hO,Ad⟩;dsimp only;have JB:=(HH.o.own.lt g rfl).2;have qd9:=HH.o.aW.lt;have hq:=dp.o;have Ys: ¬nb=g:=λe=>aV H3.o.own H3.o.aW (by decide) (by rw[e];rfl);have qD:=O hO;have cK:=O Ad;have dQ:=O (H3.o.aW.ch Ad Ys);have Vb:=O (iq.o.ch Ad (by omega));have Vc:=O (oX.o.ch Ad (by omega));clear hO Ad x0 xl HD;have x0:=dQ.o.c 0;have xl:=dQ.o.lt;have xf:=dQ.o.frozen 0;go_upto_region 7 with(fail);have js:=O (Ch.setCell (p:=⟨nb,0,U⟩) (Ch.r (λk=>k=nb) w4) (.inl rfl) (T (G ⟨g,0,U⟩) (n-1) c));have ff:=O (show aX (w4.setCell ⟨nb,0,U⟩ (T (G ⟨g,0,U⟩) (n-1) c)) nb 108 #[T (G ⟨g,0,U⟩) (n-1) c]from bu (dQ.o.bm 0 (T (G ⟨g,0,U⟩) (n-1) c)) (by simp));generalize w4.setCell ⟨nb,0,U⟩ (T (G ⟨g,0,U⟩) (n-1) c)=w5 at *;have gQ:=O (Vb.o.ch js.o (by omega));have iQ:=O (Vc.o.ch js.o (by omega));have pN:=O (bg qD.o js.o (λk hk e=>Ys (by rw[<-e];cases hk;rfl)));clear x0 xl xf;have⟨y0,y1,y2,y3,y4,y5⟩:=(show _/\_/\_/\_/\_/\_ from⟨iQ.o.c 0,iQ.o.c 1,iQ.o.c 2,iQ.o.c 3,iQ.o.c 4,iQ.o.c 5⟩);have⟨y6,y7,y8,y9,Yq⟩:=(show _/\_/\_/\_/\_ from⟨iQ.o.c 6,iQ.o.c 7,iQ.o.c 8,iQ.o.c 9,iQ.o.c 10⟩);have⟨y11,y12,y13⟩:=(show _/\_/\_ from⟨iQ.o.c 11,iQ.o.c 12,iQ.o.c 13⟩);have yl:=iQ.o.lt;have⟨z0,z1,z2,z3,z4,z5⟩:=(show _/\_/\_/\_/\_/\_ from⟨gQ.o.c 0,gQ.o.c 1,gQ.o.c 2,gQ.o.c 3,gQ.o.c 4,gQ.o.c 5⟩);have⟨z6,z7,z8,z9,Yt⟩:=(show _/\_/\_/\_/\_ from⟨gQ.o.c 6,gQ.o.c 7,gQ.o.c 8,gQ.o.c 9,gQ.o.c 10⟩);have⟨z11,z12,z13⟩:=(show _/\_/\_ from⟨gQ.o.c 11,gQ.o.c 12,gQ.o.c 13⟩);have zl:=gQ.o.lt;have zf:=gQ.o.frozen;go_wp2_with fail;change bodyPost _ _ _ _ _ (zC w5 qb i cm r);have HY:=O (El gQ.o i cm r);have iU:=O (IK w5 qb i cm r);generalize zC w5 qb i cm r=w6 at *;clear y0 y1 y2 y3 y4 y5 y6 y7 y8 y9 Yq y11 y12 y13 z0 z1 z2 z3 z4 z5 z6 z7 z8 z9 Yt z11 z12 z13 zf;have⟨g0,g1,g2,g3,g4,g5⟩:=(show _/\_/\_/\_/\_/\_ from⟨HY.o.c 0,HY.o.c 1,HY.o.c 2,HY.o.c 3,HY.o.c 4,HY.o.c 5⟩);have⟨g6,g7,g8,g9,g10⟩:=(show _/\_/\_/\_/\_ from⟨HY.o.c 6,HY.o.c 7,HY.o.c 8,HY.o.c 9,HY.o.c 10⟩);have⟨g11,g12,g13⟩:=(show _/\_/\_ from⟨HY.o.c 11,HY.o.c 12,HY.o.c 13⟩);refine aE (v:=aB #[aC #[I J (i:Nat),I J cm.kind,I J cm.tx,I J cm.aS,I J cm.aY,I J cm.op,V cm.key,V cm.val,I J cm.mode,Y cm.yes,I J r.code,I J r.state,V r.val,Y r.has],I J 0]) (by simp[results,results31,go_sem,g0,g1,g2,g3,g4,g5,g6,g7,g8,g9,g10,g11,g12,g13]) rfl ⟨rfl,⟨ff.o.ch iU.o (by omega),?_,?_,by omega⟩,?_⟩
 ·rw[show zA (l.eraseIdx p)=(zA l).take (p*14)++(zA l).drop ((p+1)*14)from(BW zB l p).symm];exact bg pN.o iU.o (λk hk e=>by have kW:(G g:Option Nat)=G k:=hk;injection kW with kW;omega)
 ·rw[List.length_eraseIdx_of_lt (by rw[HH.o.len];omega),HH.o.len]
 ·exact⟨((((cE.o.mono (λ_ h=>h.elim)).t (cK.o.mono (λk hk=>.inr (by rw[hk];rfl)))).t (js.o.mono (λk hk=>.inl hk))).trans iU.o (λk hk=>.inr (by omega))),λk hk=>.inl (by rcases hk with e|e;exact .inl e;exact .inr e)⟩
end
section
variable{w w':aw}{nb n c:Nat}{A:Option Addr}
theorem Rt{l:List (Nat×Nat×bQ)}(h:dF w nb A n c l)(hn:n<512){p:Nat}{x:Nat×Nat×bQ}(hx:l[p]?=G x):
 ax av 32 #[X (G ⟨nb,0,U⟩),I J p] w λe w'=>e=ay (I J 0)/\∃A' c',dF w' nb A' (n+1) c' (l++[x])/\Sub (eO nb A n c) (eO nb A' (n+1) c') w w':=by
 have TE:p<n:=by have:=bf hx;have:=h.len;omega
 have Df:(p:Int)<(n:Int):=by omega
 have jW:(n:Int)<=512:=by omega
 have kD:=O (Ej h (i:=(p:Int)) (by omega) Df);have tB:=O (BU h hn x);obtain⟨i,k,cm⟩:=x;obtain⟨g,rfl,nz,hc⟩:=h.at_ hx;have x0:=h.aW.c 0;have xl:=h.aW.lt;have⟨r0,r1,r2,r3,r4,r5⟩:=(show _/\_/\_/\_/\_/\_ from⟨hc 0 _ rfl,hc 1 _ rfl,hc 2 _ rfl,hc 3 _ rfl,hc 4 _ rfl,hc 5 _ rfl⟩);have⟨r6,r7,r8,r9,Yr⟩:=(show _/\_/\_/\_/\_ from⟨hc 6 _ rfl,hc 7 _ rfl,hc 8 _ rfl,hc 9 _ rfl,hc 10 _ rfl⟩);simp only[Nat.add_zero]at r0;dsimp only[jL]at tB;clear hc h hx;go_enter func32,ntmps32;go_wp2_with fail;refine kD.o.mono ?_;rintro e w2 ⟨rfl,ew⟩;subst w2;dsimp only;go_wp2_with fail;refine tB.o.mono ?_;rintro e w3 ⟨rfl,hp⟩;have HP:=O hp;clear hp;dsimp only;go_wp2_with fail;go_ret;exact⟨rfl,HP.o⟩
end
section
variable{w w':aw}{nb n c:Nat}{A:Option Addr}
theorem Em{l:List (Nat×Nat×bQ)}(h:dF w nb A n c l){i:Int}(h0:i<0\/n<=i):
 ax av 32 #[X (G ⟨nb,0,U⟩),I J i] w λe w'=>e=ay (I J 6)/\w'=w:=by
 have kD:=O (MZ h h0);clear h h0;go_enter func32,ntmps32;go_wp2_with fail;refine kD.o.mono ?_;rintro e w2 ⟨rfl,ew⟩;subst w2;dsimp only;go_wp2_with fail;go_ret;exact⟨rfl,rfl⟩
theorem sR{l:List (Nat×Nat×bQ)}(h:dF w nb A n c l){i:Int}(h0:i<0\/n<=i):
 ax av 30 #[X (G ⟨nb,0,U⟩),I J i] w λe w'=>e=ay (aB #[aC #[I J 0,I J 0,I J 0,I J 0,I J 0,I J 0,I J 0,V ⟨#[]⟩,V ⟨#[]⟩,I J 0,Y false],I J 6])/\M w w':=by
 have kD:=O (λw' (hN:M w w')=>MZ (h.aR hN) h0);clear h h0;go_enter func30,ntmps30;go_wp2_with fail;refine(kD.o _ (((Ch.r _ w).alloc _).alloc _)).mono ?_;rintro e w2 ⟨rfl,ew⟩;subst w2;dsimp only;go_wp2_with fail;refine aE (v:=aB #[aC #[I J 0,I J 0,I J 0,I J 0,I J 0,I J 0,I J 0,V ⟨#[]⟩,V ⟨#[]⟩,I J 0,Y false],I J 6]) (by simp[results,results30,go_sem]) rfl ⟨rfl,((Ch.r _ w).alloc _).alloc _⟩
end
section
variable{w w':aw}{nb n c:Nat}{A:Option Addr}
theorem sS{l:List (Nat×bQ×dh)}(h:eA w nb A n c l){i:Int}(h0:i<0\/n<=i):
 ax av 31 #[X (G ⟨nb,0,U⟩),I J i] w λe w'=>e=ay (aB #[aC #[I J 0,I J 0,I J 0,I J 0,I J 0,I J 0,V ⟨#[]⟩,V ⟨#[]⟩,I J 0,Y false,I J 0,I J 0,V ⟨#[]⟩,Y false],I J 6])/\M w w':=by
 have kD:=O (λw' (hN:M w w')=>Va (h.aR hN) h0);clear h h0;go_enter func31,ntmps31;go_wp2_with fail;refine(kD.o _ (((Ch.r _ w).alloc _).alloc _)).mono ?_;rintro e w2 ⟨rfl,ew⟩;subst w2;dsimp only;go_wp2_with fail;refine aE (v:=aB #[aC #[I J 0,I J 0,I J 0,I J 0,I J 0,I J 0,V ⟨#[]⟩,V ⟨#[]⟩,I J 0,Y false,I J 0,I J 0,V ⟨#[]⟩,Y false],I J 6]) (by simp[results,results31,go_sem]) rfl ⟨rfl,((Ch.r _ w).alloc _).alloc _⟩
theorem zD{l:List (Nat×Nat×bQ)}(h:dF w nb A n c l)(hn:512<=n){p:Nat}{x:Nat×Nat×bQ}(hx:l[p]?=G x):
 ax av 32 #[X (G ⟨nb,0,U⟩),I J p] w λe w'=>e=ay (I J 7)/\M w w':=by
 have TE:p<n:=by have:=bf hx;have:=h.len;omega
 have Df:(p:Int)<(n:Int):=by omega
 have jW:(n:Int)<=512:=by have:=h.fx;omega
 have kD:=O (Ej h (i:=(p:Int)) (by omega) Df);have tB:=O (BS h hn x);obtain⟨i,k,cm⟩:=x;obtain⟨g,rfl,nz,hc⟩:=h.at_ hx;have x0:=h.aW.c 0;have xl:=h.aW.lt;have⟨r0,r1,r2,r3,r4,r5⟩:=(show _/\_/\_/\_/\_/\_ from⟨hc 0 _ rfl,hc 1 _ rfl,hc 2 _ rfl,hc 3 _ rfl,hc 4 _ rfl,hc 5 _ rfl⟩);have⟨r6,r7,r8,r9,Yr⟩:=(show _/\_/\_/\_/\_ from⟨hc 6 _ rfl,hc 7 _ rfl,hc 8 _ rfl,hc 9 _ rfl,hc 10 _ rfl⟩);simp only[Nat.add_zero]at r0;dsimp only[jL]at tB;clear hc h hx;go_enter func32,ntmps32;go_wp2_with fail;refine kD.o.mono ?_;rintro e w2 ⟨rfl,ew⟩;subst w2;dsimp only;go_wp2_with fail;refine tB.o.mono ?_;rintro e w3 ⟨rfl,hp⟩;have HP:=O hp;clear hp;dsimp only;go_wp2_with fail;go_ret;exact⟨rfl,HP.o⟩
end
