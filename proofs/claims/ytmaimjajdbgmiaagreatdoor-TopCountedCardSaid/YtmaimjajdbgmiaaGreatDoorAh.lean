import Derived.Test.YtmaimjajdbgmiaaGreatDoorAf
set_option linter.unusedVariables false
set_option linter.unusedSimpArgs false
set_option maxRecDepth 100000
set_option maxHeartbeats 0
open Go.Value renaming int→I,string→V,pointer→X,bool→Y,slice→T,tuple→aB,agg→aC
open Go.IntKind renaming i64→J
open Option renaming none→U,some→G
open Go.Ending renaming returned→ay
open Go.Obj renaming cells→az
open List renaming getElem_cons_succ→aI,getElem_cons_zero→aH,getElem_toArray→aG,length_append→aL,length_singleton→aM,setIfInBounds_toArray→aF,set_cons_succ→aK,set_cons_zero→aJ
open Nat renaming le_refl→aN
open Go renaming World→aw,Calls→ax,bodyPost_ret→aE
open Go.Proofs.Tryz
open Go.Proofs.Tryz renaming prog→av
namespace Go.Proofs.YtmaimjajdbgmiaaGreatDoor
open Go.Lib Go.Maps Go.RowKit
section
variable{w w':aw}{sb aZ:Nat}{K:ByteArray}{s:dm}{a:ia}{c:bQ}
theorem xB{w5:aw}(h:dH w sb K aZ s a){tx:Int}(ht:0<=tx/\tx<16)(hC:Ch (λk=>k=a.bR\/(a.W tx).ownBlock=G k) w w5){v:Value}(hv: ∀g,v.ownBlock=G g->(a.W tx).ownBlock=G g\/w.heap.size<=g)(x:cG)
 (hm:cT w5 a.bR (aZ+1) mK (cQ (λt=>(s.br t).map λx=>gH x (a.W t)) tx (G (gH x v)))) (fI:w5.ownsRow 0 203 3 v (ft x.wr) (qG K x.wr)):
 dH w5 sb K (aZ+1) {s with br:=cQ s.br tx (G x)} (a.rh tx v)/\Sub (a.F sb) ((a.rh tx v).F sb) w w5:=by
 have kZ: ∀t,t≠tx->∀g,(a.W t).ownBlock=G g->¬(g=a.bR\/(a.W tx).ownBlock=G g):=λt ht g hg e=>by
  rcases e with e|e
  ·subst e;exact h.gp.map.kF (h.gp.row t) hg
  ·exact h.gp.apart t tx g ht hg e
 refine h.yX (kG.set h.gp tx v x hm fI hC (λt ht g hg=>kZ t ht g hg) hv) ⟨hC.mono (λk hk=>hk.elim .inl (λe=>.inr ⟨tx,e⟩)),λg hg=>?_⟩ (λt y hy=>?_) (Nat.le_succ _)
 ·rcases hg with e|⟨t,e⟩
  ·exact .inl (.inl e)
  ·dsimp only at e;split at e
   ·rename_i e2;subst e2;rcases hv g e with e3|e3
    ·exact .inl (.inr ⟨_,e3⟩)
    ·exact .inr e3
   ·exact .inl (.inr ⟨t,e⟩)
 ·by_cases e:t=tx
  ·rw[e];exact ht
  ·rw[bP _ _ e]at hy;exact h.dR.lk t y hy
theorem lT{base:Nat}{e:TypeId}{size n:Nat}{v:Value}{xs:List Value}(h:w.ownsRow base e size v n xs)(hN:M w w'):w'.ownsRow base e size v n xs:=bg h hN (λ_ _ h=>h)
def mP(w:aw)(K v:ByteArray):aw:=w.alloc (az #[V K,V v,Y true] 203)
theorem nH(w:aw)(K v:ByteArray):M w (mP w K v):=(Ch.r _ w).alloc _
theorem rB(w:aw)(K v:ByteArray):aX (mP w K v) w.heap.size 203 #[V K,V v,Y true]:=aX.new w 203 _
def FI(w:aw)(g:Nat)(K v:ByteArray):aw:=((w.setCell ⟨g,0,U⟩ (V K)).setCell ⟨g,1,U⟩ (V v)).setCell ⟨g,2,U⟩ (Y true)
theorem Lr(w:aw)(g:Nat)(K v:ByteArray):Ch (λk=>k=g) w (FI w g K v):=
 (((Ch.r (λk=>k=g) w).setCell (p:=⟨g,0,U⟩) (.inl rfl) _).setCell (p:=⟨g,1,U⟩) (.inl rfl) _).setCell (p:=⟨g,2,U⟩) (.inl rfl) _
theorem Hp{g c:Nat}{x:ByteArray}(h:w.ownsRow 0 203 3 (T (G ⟨g,0,U⟩) 1 c) 1 (qG K (G x)))(v:ByteArray):(FI w g K v).ownsRow 0 203 3 (T (G ⟨g,0,U⟩) 1 c) 1 (qG K (G v)):=
 (((h.stored 0 (V K)).1.stored 1 (V v)).1.stored 2 (Y true)).1
theorem Ls(h:dH w sb K aZ s a)(hc:eN c)(hk:c.kind=4)(fT:c.key=K)(cp:aZ<1000000)(hl:s.br c.tx=U):
 ax av 117 #[X (G ⟨sb,0,U⟩),cn c] w (jQ w sb K (aZ+1) a (s,cF 8)):=by
 have h1:=hc.tx;obtain⟨kd,tx,aS,st,op,key,val,mode,yes⟩:=c;dsimp only at *;subst hk fT;have HM:=O h;have de:=h.aW.lt;have jA:=O (λw' (hN:M w w')=>(show w'.cell? ⟨sb,5,U⟩=G (.map (G a.bR))/\(Instr.lookup 115 (.map (G a.bR)) (I J tx) true).run av w'= .ok (aB #[aC #[I J 0,I J 0,I J 0,I J 0,I J 0,I J 0,V ⟨#[]⟩,V ⟨#[]⟩,I J 0,Y false,T U 0 0],Y false]) w' from by
  refine⟨(h.aR hN).cells.2.2.2.2.2.1,?_⟩;have:=cT.eT (h.aR hN).gp h1;rw[hl]at this;exact this))
 clear h hl hc;go_enter func117,ntmps117;go_upto_region 1 with(fail);obtain⟨wz,bV⟩:=bG ((w.alloc (az #[I J 4,I J tx,I J aS,I J st,I J op,V key,V val,I J mode,Y yes] 60)).alloc (az #[I J 0,I J 0,V ⟨#[]⟩,Y false] 66));have HN:=(fZ bV).1;have HQ:=O (show aX wz w.heap.size 60 (bN ⟨4,tx,aS,st,op,key,val,mode,yes⟩)from bV▸(aX.new w 60 _).alloc _);have HR:=(fZ bV).2;have fY:wz.heap.size=w.heap.size+1+1:=by rw[<-bV];simp
 obtain⟨qb,bE⟩:=bG (w.heap.size);rw[bE]at HQ HR de fY
 try rw[bV]
 try simp only[bE]
 have dp:=O bE;have HS:=O (λw' (hN:M wz w')=>(show w'.cell? ⟨sb,5,U⟩=G (.map (G a.bR))/\(Instr.lookup 115 (.map (G a.bR)) (I J tx) true).run av w'= .ok (aB #[aC #[I J 0,I J 0,I J 0,I J 0,I J 0,I J 0,V ⟨#[]⟩,V ⟨#[]⟩,I J 0,Y false,T U 0 0],Y false]) w'/\w'.cell? ⟨qb,1,U⟩=G (I J tx)from
  ⟨(jA.o w' (HN.o.t hN)).1,(jA.o w' (HN.o.t hN)).2,(HQ.o.ch hN (λh=>h)).c 1⟩))
 have ku:=O fY;clear bV bE fY
 go_cut[5,6] (λv v2 wq=>v=X (G ⟨qb+1+1,0,U⟩)/\v2=Y false/\M wz wq/\aX wq (qb+1+1) 200 #[I J 0,I J 0,I J 0,I J 0,I J 0,I J 0,V ⟨#[]⟩,V ⟨#[]⟩,I J 0,Y false,T U 0 0])
 case first=>
  go_region_held3(λw'=>w'.cell? ⟨sb,5,U⟩=G (.map (G a.bR))/\(Instr.lookup 115 (.map (G a.bR)) (I J tx) true).run av w'= .ok (aB #[aC #[I J 0,I J 0,I J 0,I J 0,I J 0,I J 0,V ⟨#[]⟩,V ⟨#[]⟩,I J 0,Y false,T U 0 0],Y false]) w'/\w'.cell? ⟨qb,1,U⟩=G (I J tx))
   (first|exact HS.o _ (aU wz)|exact HS.o _ ((aU wz).alloc _))
   (fail)
  all_goals
   go_wp2_with fail;go_meet;refine⟨by rw[ku.o],rfl,((Ch.r _ wz).alloc _).drew,?_⟩;rw[<-ku.o];exact(aX.new wz 200 _).drew
 case rest=>
  obtain⟨rfl,rfl,fw,mn⟩:=hcut;have j4:=O fw;have gN:=O (HR.o.ch fw (λh=>h));have iw:=O (HM.o.aR (HN.o.t fw));clear fw mn;go_upto_region 2 with(fail);refine wp_region_held_drew (S:=(λw'=>True)) (by kernel_rfl) trivial (λLm=>?_);refine wpAnyH_take (i:=0) (v:=?_) rfl (by kernel_rfl) (by kernel_rfl) (by kernel_rfl) (λ_ _ _ h=>h) (Or.inl ⟨by rfl,?_⟩) (by trivial) ?_
  rotate_left 1
  ·(intro w kn;(try dsimp only at kn);go_simp)<;>with_reducible rfl
  try simp only[Act.put,aG,aH,aI,aF,aJ,aK]
  refine wpAnyH_take (i:=1) (v:=?_) rfl (by kernel_rfl) (by kernel_rfl) (by kernel_rfl) (λ_ _ _ h=>h) (Or.inl ⟨by rfl,?_⟩) (by trivial) ?_
  rotate_left 1
  ·(intro w kn;(try dsimp only at kn);go_simp)<;>with_reducible rfl
  try simp only[Act.put,aG,aH,aI,aF,aJ,aK]
  refine wpAnyH_take (i:=2) (v:=?_) rfl (by kernel_rfl) (by kernel_rfl) (by kernel_rfl) (λ_ _ _ h=>h) (Or.inl ⟨by rfl,?_⟩) (by trivial) ?_
  rotate_left 1
  ·(intro w kn;(try dsimp only at kn);go_simp)<;>with_reducible rfl
  try simp only[Act.put,aG,aH,aI,aF,aJ,aK]
  refine wpAnyH_take (i:=3) (v:=undef) rfl (by kernel_rfl) (by kernel_rfl) (by kernel_rfl) (λ_ _ _ h=>h) (Or.inr ⟨by rfl,rfl⟩) (by trivial) ?_
  try simp only[Act.put,aG,aH,aI,aF,aJ,aK]
  refine wpAnyH_take (i:=4) (v:=undef) rfl (by kernel_rfl) (by kernel_rfl) (by kernel_rfl) (λ_ _ _ h=>h) (Or.inr ⟨by rfl,rfl⟩) (by trivial) ?_
  try simp only[Act.put,aG,aH,aI,aF,aJ,aK]
  refine wpAnyH_take (i:=5) (v:=undef) rfl (by kernel_rfl) (by kernel_rfl) (by kernel_rfl) (λ_ _ _ h=>h) (Or.inr ⟨by rfl,rfl⟩) (by trivial) ?_
  try simp only[Act.put,aG,aH,aI,aF,aJ,aK]
  refine wpAnyH_take (i:=6) (v:=undef) rfl (by kernel_rfl) (by kernel_rfl) (by kernel_rfl) (λ_ _ _ h=>h) (Or.inr ⟨by rfl,rfl⟩) (by trivial) ?_
  try simp only[Act.put,aG,aH,aI,aF,aJ,aK]
  refine wpAnyH_take (i:=7) (v:=undef) rfl (by kernel_rfl) (by kernel_rfl) (by kernel_rfl) (λ_ _ _ h=>h) (Or.inr ⟨by rfl,rfl⟩) (by trivial) ?_
  try simp only[Act.put,aG,aH,aI,aF,aJ,aK]
  refine wpAnyH_take (i:=8) (v:=undef) rfl (by kernel_rfl) (by kernel_rfl) (by kernel_rfl) (λ_ _ _ h=>h) (Or.inr ⟨by rfl,rfl⟩) (by trivial) ?_
  try simp only[Act.put,aG,aH,aI,aF,aJ,aK]
  refine wpAnyH_take (i:=9) (v:=undef) rfl (by kernel_rfl) (by kernel_rfl) (by kernel_rfl) (λ_ _ _ h=>h) (Or.inr ⟨by rfl,rfl⟩) (by trivial) ?_
  try simp only[Act.put,aG,aH,aI,aF,aJ,aK]
  refine wpAnyH_take (i:=10) (v:=undef) rfl (by kernel_rfl) (by kernel_rfl) (by kernel_rfl) (λ_ _ _ h=>h) (Or.inr ⟨by rfl,rfl⟩) (by trivial) ?_
  try simp only[Act.put,aG,aH,aI,aF,aJ,aK]
  refine wpAnyH_take (i:=11) (v:=undef) rfl (by kernel_rfl) (by kernel_rfl) (by kernel_rfl) (λ_ _ _ h=>h) (Or.inr ⟨by rfl,rfl⟩) (by trivial) ?_
  try simp only[Act.put,aG,aH,aI,aF,aJ,aK]
  refine wpAnyH_take (i:=12) (v:=undef) rfl (by kernel_rfl) (by kernel_rfl) (by kernel_rfl) (λ_ _ _ h=>h) (Or.inr ⟨by rfl,rfl⟩) (by trivial) ?_
  try simp only[Act.put,aG,aH,aI,aF,aJ,aK]
  refine wpAnyH_take (i:=13) (v:=?_) rfl (by kernel_rfl) (by kernel_rfl) (by kernel_rfl) (λ_ _ _ h=>h) (Or.inl ⟨by rfl,?_⟩) (by trivial) ?_
  rotate_left 1
  ·(intro w kn;(try dsimp only at kn);go_simp)<;>with_reducible rfl
  try simp only[Act.put,aG,aH,aI,aF,aJ,aK]
  refine wpAnyH_done (by kernel_rfl) ?_ _;obtain⟨wd,Uo⟩:=bG (wc.drew);have DJ:=O (show M wc wd from Uo▸aU wc)
  try rw[Uo]
  have bH:=O (gN.o.ch DJ.o (λh=>h));have cN:=O (iw.o.aR DJ.o);clear Uo;have⟨y0,y1,y2,y3⟩:=eW bH.o;have yl:=bH.o.lt;have f0:=bH.o.frozen 0;have f1:=bH.o.frozen 1;have f2:=bH.o.frozen 2;have f3:=bH.o.frozen 3;go_wp2_with fail;change bodyPost _ _ _ _ _ (cI wd (qb+1) (cF 8));have HY:=O (bU bH.o (cF 8));have cK:=O (bX wd (qb+1) (cF 8));generalize cI wd (qb+1) (cF 8)=wE at *;have⟨g0,g1,g2,g3⟩:=eW HY.o;have gO:=O (cN.o.bw bH.o cy);refine aE (v:=dU (cF 8)) (by simp[results,results117,go_sem,g0,g1,g2,g3]) rfl ⟨rfl,a,(cN.o.ch cK.o (λg hg e=>by subst e;exact gO.o hg)).mono (Nat.le_succ _),?_⟩;have hq:=dp.o;exact(Sub.bj _ ((HN.o.t j4.o).t DJ.o)).tail cK.o (λk hk=>by omega)
theorem P5(h:dH w sb K aZ s a)(hc:eN c)(hk:c.kind=4)(fT:c.key=K)(cp:aZ<1000000){x:cG}(hl:s.br c.tx=G x)(kv:im s.own c.tx=false):
 ax av 117 #[X (G ⟨sb,0,U⟩),cn c] w (jQ w sb K (aZ+1) a (s,cF 8)):=by
 have h1:=hc.tx;obtain⟨kd,tx,aS,st,op,key,val,mode,yes⟩:=c;dsimp only at *;subst hk fT;obtain⟨WA,WC,hW⟩:=bz (show w.ownsRow 0 203 3 (a.W tx) (ft x.wr) (qG key x.wr)from by have:=h.gp.row tx;rw[hl]at this;exact this);have HM:=O h;have de:=h.aW.lt;have jA:=O (λw' (hN:M w w')=>(show w'.cell? ⟨sb,5,U⟩=G (.map (G a.bR))/\(Instr.lookup 115 (.map (G a.bR)) (I J tx) true).run av w'= .ok (aB #[aC #[I J x.aS,I J x.last.kind,I J x.last.tx,I J x.last.aS,I J x.last.aY,I J x.last.op,V x.last.key,V x.last.val,I J x.last.mode,Y x.last.yes,T WA (ft x.wr) WC],Y true]) w' from by
  refine⟨(h.aR hN).cells.2.2.2.2.2.1,?_⟩;have:=cT.eT (h.aR hN).gp h1;rw[hl,hW]at this;exact this))
 clear h hl hc;go_enter func117,ntmps117;go_upto_region 1 with(fail);obtain⟨wz,bV⟩:=bG ((w.alloc (az #[I J 4,I J tx,I J aS,I J st,I J op,V key,V val,I J mode,Y yes] 60)).alloc (az #[I J 0,I J 0,V ⟨#[]⟩,Y false] 66));have HN:=(fZ bV).1;have HQ:=O (show aX wz w.heap.size 60 (bN ⟨4,tx,aS,st,op,key,val,mode,yes⟩)from bV▸(aX.new w 60 _).alloc _);have HR:=(fZ bV).2;have fY:wz.heap.size=w.heap.size+1+1:=by rw[<-bV];simp
 obtain⟨qb,bE⟩:=bG (w.heap.size);rw[bE]at HQ HR de fY
 try rw[bV]
 try simp only[bE]
 have dp:=O bE;have HS:=O (λw' (hN:M wz w')=>(show w'.cell? ⟨sb,5,U⟩=G (.map (G a.bR))/\(Instr.lookup 115 (.map (G a.bR)) (I J tx) true).run av w'= .ok (aB #[aC #[I J x.aS,I J x.last.kind,I J x.last.tx,I J x.last.aS,I J x.last.aY,I J x.last.op,V x.last.key,V x.last.val,I J x.last.mode,Y x.last.yes,T WA (ft x.wr) WC],Y true]) w'/\w'.cell? ⟨qb,1,U⟩=G (I J tx)from
  ⟨(jA.o w' (HN.o.t hN)).1,(jA.o w' (HN.o.t hN)).2,(HQ.o.ch hN (λh=>h)).c 1⟩))
 have ku:=O fY;clear bV bE fY
 go_cut[5,6] (λv v2 wq=>v=X (G ⟨qb+1+1,0,U⟩)/\v2=Y true/\M wz wq/\aX wq (qb+1+1) 200 #[I J x.aS,I J x.last.kind,I J x.last.tx,I J x.last.aS,I J x.last.aY,I J x.last.op,V x.last.key,V x.last.val,I J x.last.mode,Y x.last.yes,T WA (ft x.wr) WC])
 case first=>
  go_region_held3(λw'=>w'.cell? ⟨sb,5,U⟩=G (.map (G a.bR))/\(Instr.lookup 115 (.map (G a.bR)) (I J tx) true).run av w'= .ok (aB #[aC #[I J x.aS,I J x.last.kind,I J x.last.tx,I J x.last.aS,I J x.last.aY,I J x.last.op,V x.last.key,V x.last.val,I J x.last.mode,Y x.last.yes,T WA (ft x.wr) WC],Y true]) w'/\w'.cell? ⟨qb,1,U⟩=G (I J tx))
   (first|exact HS.o _ (aU wz)|exact HS.o _ ((aU wz).alloc _))
   (fail)
  all_goals
   go_wp2_with fail;go_meet;refine⟨by rw[ku.o],rfl,((Ch.r _ wz).alloc _).drew,?_⟩;rw[<-ku.o];exact(aX.new wz 200 _).drew
 case rest=>
  obtain⟨rfl,rfl,fw,mn⟩:=hcut;have j4:=O fw;have gD:=O (HQ.o.ch fw (λh=>h));have gN:=O (HR.o.ch fw (λh=>h));have iw:=O (HM.o.aR (HN.o.t fw));clear fw mn;have wB:=O (λw' (hN:M wc w')=>(show ax av 186 #[X (G ⟨a.DD,0,U⟩),I J tx,V key] w' (λe eZ=>e=ay (I J 0)/\M w' eZ)from by
   have:=lS (iw.o.aR hN).wD tx;rw[kv]at this;exact this))
  clear kv;go_upto_region 2 with(fail);have kj:=O (λw' (hN:M wc w')=>jm (iw.o.aR hN).aW (gD.o.ch hN (λh=>h)))
  go_cut[33] (λv wq=>v=Y true/\M wc wq)
  case first=>
   go_region_held3(λw'=>w'.cell? ⟨sb,3,U⟩=G (X (G ⟨a.DD,0,U⟩))/\w'.cell? ⟨sb,5,U⟩=G (.map (G a.bR))/\w'.cell? ⟨qb,1,U⟩=G (I J tx)/\w'.cell? ⟨qb,2,U⟩=G (I J aS)/\w'.cell? ⟨qb,5,U⟩=G (V key)/\w'.cell? ⟨qb,7,U⟩=G (I J mode))
    (first|exact kj.o _ (aU wc)|exact kj.o _ jn.o)
    (first|(go_at_call 186;refine(wB.o _ (aU wc)).mono ?_;rintro e w' ⟨rfl,hN⟩;have jn:=O ((aU wc).t hN);clear hN;dsimp only;have⟨s3,s5,s1,s2,s6,s7⟩:=kj.o _ jn.o))
   all_goals
    go_wp2_with fail;go_meet;exact⟨rfl,jn.o⟩
  case rest=>
   obtain⟨rfl,uK⟩:=hcut;have DJ:=O uK;have bH:=O (gN.o.ch uK (λh=>h));have cN:=O (iw.o.aR uK);clear uK;have⟨y0,y1,y2,y3⟩:=eW bH.o;have yl:=bH.o.lt;have f0:=bH.o.frozen 0;have f1:=bH.o.frozen 1;have f2:=bH.o.frozen 2;have f3:=bH.o.frozen 3;go_wp2_with fail;change bodyPost _ _ _ _ _ (cI wc (qb+1) (cF 8));have HY:=O (bU bH.o (cF 8));have cK:=O (bX wc (qb+1) (cF 8));generalize cI wc (qb+1) (cF 8)=wE at *;have⟨g0,g1,g2,g3⟩:=eW HY.o;have gO:=O (cN.o.bw bH.o cy);refine aE (v:=dU (cF 8)) (by simp[results,results117,go_sem,g0,g1,g2,g3]) rfl ⟨rfl,a,(cN.o.ch cK.o (λg hg e=>by subst e;exact gO.o hg)).mono (Nat.le_succ _),?_⟩;have hq:=dp.o;exact(Sub.bj _ ((HN.o.t j4.o).t DJ.o)).tail cK.o (λk hk=>by omega)
end
section
variable{w w':aw}{sb aZ:Nat}{K:ByteArray}{s:dm}{a:ia}{c:bQ}
theorem Ur(h:dH w sb K aZ s a)(hc:eN c)(hk:c.kind=4)(fT:c.key=K)(cp:aZ<1000000){x:cG}(hl:s.br c.tx=G x)(kv:im s.own c.tx=true)(wG:c.yes=true):
 ax av 117 #[X (G ⟨sb,0,U⟩),cn c] w (jQ w sb K (aZ+1) a ({s with br:=cQ s.br c.tx (G ⟨x.aS,c,G c.val⟩)},cL)):=by
 have h1:=hc.tx;obtain⟨kd,tx,aS,st,op,key,val,mode,yes⟩:=c;dsimp only at *;subst hk fT wG;obtain⟨WA,WC,hW⟩:=bz (show w.ownsRow 0 203 3 (a.W tx) (ft x.wr) (qG key x.wr)from by have:=h.gp.row tx;rw[hl]at this;exact this);have HM:=O h;have de:=h.aW.lt;have CW:=O hl;have jA:=O (λw' (hN:M w w')=>(show w'.cell? ⟨sb,5,U⟩=G (.map (G a.bR))/\(Instr.lookup 115 (.map (G a.bR)) (I J tx) true).run av w'= .ok (aB #[aC #[I J x.aS,I J x.last.kind,I J x.last.tx,I J x.last.aS,I J x.last.aY,I J x.last.op,V x.last.key,V x.last.val,I J x.last.mode,Y x.last.yes,T WA (ft x.wr) WC],Y true]) w' from by
  refine⟨(h.aR hN).cells.2.2.2.2.2.1,?_⟩;have:=cT.eT (h.aR hN).gp h1;rw[hl,hW]at this;exact this))
 have Fy:=O hW;have xg:=O cp;clear h hl hc;go_enter func117,ntmps117;go_upto_region 1 with(fail);obtain⟨wz,bV⟩:=bG ((w.alloc (az #[I J 4,I J tx,I J aS,I J st,I J op,V key,V val,I J mode,Y true] 60)).alloc (az #[I J 0,I J 0,V ⟨#[]⟩,Y false] 66));have HN:=(fZ bV).1;have HQ:=O (show aX wz w.heap.size 60 (bN ⟨4,tx,aS,st,op,key,val,mode,true⟩)from bV▸(aX.new w 60 _).alloc _);have HR:=(fZ bV).2;have fY:wz.heap.size=w.heap.size+1+1:=by rw[<-bV];simp
 obtain⟨qb,bE⟩:=bG (w.heap.size);rw[bE]at HQ HR de fY
 try rw[bV]
 try simp only[bE]
 have dp:=O bE;have HS:=O (λw' (hN:M wz w')=>(show w'.cell? ⟨sb,5,U⟩=G (.map (G a.bR))/\(Instr.lookup 115 (.map (G a.bR)) (I J tx) true).run av w'= .ok (aB #[aC #[I J x.aS,I J x.last.kind,I J x.last.tx,I J x.last.aS,I J x.last.aY,I J x.last.op,V x.last.key,V x.last.val,I J x.last.mode,Y x.last.yes,T WA (ft x.wr) WC],Y true]) w'/\w'.cell? ⟨qb,1,U⟩=G (I J tx)from
  ⟨(jA.o w' (HN.o.t hN)).1,(jA.o w' (HN.o.t hN)).2,(HQ.o.ch hN (λh=>h)).c 1⟩))
 have ku:=O fY;clear bV bE fY
 go_cut[5,6] (λv v2 wq=>v=X (G ⟨qb+1+1,0,U⟩)/\v2=Y true/\M wz wq/\aX wq (qb+1+1) 200 #[I J x.aS,I J x.last.kind,I J x.last.tx,I J x.last.aS,I J x.last.aY,I J x.last.op,V x.last.key,V x.last.val,I J x.last.mode,Y x.last.yes,T WA (ft x.wr) WC])
 case first=>
  go_region_held3(λw'=>w'.cell? ⟨sb,5,U⟩=G (.map (G a.bR))/\(Instr.lookup 115 (.map (G a.bR)) (I J tx) true).run av w'= .ok (aB #[aC #[I J x.aS,I J x.last.kind,I J x.last.tx,I J x.last.aS,I J x.last.aY,I J x.last.op,V x.last.key,V x.last.val,I J x.last.mode,Y x.last.yes,T WA (ft x.wr) WC],Y true]) w'/\w'.cell? ⟨qb,1,U⟩=G (I J tx))
   (first|exact HS.o _ (aU wz)|exact HS.o _ ((aU wz).alloc _))
   (fail)
  all_goals
   go_wp2_with fail;go_meet;refine⟨by rw[ku.o],rfl,((Ch.r _ wz).alloc _).drew,?_⟩;rw[<-ku.o];exact(aX.new wz 200 _).drew
 case rest=>
  obtain⟨rfl,rfl,fw,mn⟩:=hcut;have j4:=O fw;have gD:=O (HQ.o.ch fw (λh=>h));have gN:=O (HR.o.ch fw (λh=>h));have kH:=O mn;have iw:=O (HM.o.aR (HN.o.t fw));clear fw mn;have wB:=O (λw' (hN:M wc w')=>(show ax av 186 #[X (G ⟨a.DD,0,U⟩),I J tx,V key] w' (λe eZ=>e=ay (I J 2)/\M w' eZ)from by
   have:=lS (iw.o.aR hN).wD tx;rw[kv]at this;exact this))
  clear kv;go_upto_region 2 with(fail);have kj:=O (λw' (hN:M wc w')=>jm (iw.o.aR hN).aW (gD.o.ch hN (λh=>h)))
  go_cut[33] (λv wq=>v=Y false/\M wc wq)
  case first=>
   go_region_held3(λw'=>w'.cell? ⟨sb,3,U⟩=G (X (G ⟨a.DD,0,U⟩))/\w'.cell? ⟨sb,5,U⟩=G (.map (G a.bR))/\w'.cell? ⟨qb,1,U⟩=G (I J tx)/\w'.cell? ⟨qb,2,U⟩=G (I J aS)/\w'.cell? ⟨qb,5,U⟩=G (V key)/\w'.cell? ⟨qb,7,U⟩=G (I J mode))
    (first|exact kj.o _ (aU wc)|exact kj.o _ jn.o)
    (first|(go_at_call 186;refine(wB.o _ (aU wc)).mono ?_;rintro e w' ⟨rfl,hN⟩;have jn:=O ((aU wc).t hN);clear hN;dsimp only;have⟨s3,s5,s1,s2,s6,s7⟩:=kj.o _ jn.o))
   all_goals
    go_wp2_with fail;go_meet;exact⟨rfl,jn.o⟩
  case rest=>
   obtain⟨rfl,uK⟩:=hcut;have DJ:=O uK;have eC:=O (gD.o.ch uK (λh=>h));have bH:=O (gN.o.ch uK (λh=>h));have iC:=O (kH.o.ch uK (λh=>h));have cN:=O (iw.o.aR uK);clear uK;have q5:=eC.o.c 5;have q6:=eC.o.c 6;have q8:=eC.o.c 8;have ql:=eC.o.lt;go_upto_region 7 with(fail);change Code.wp _ _ _ _ (mP wc key val);have dQ:=O (nH wc key val);have iq:=O (rB wc key val);generalize mP wc key val=w4 at *;obtain⟨wb,Us⟩:=bG (wc.heap.size);rw[Us]at iq
   try simp only[Us]
   have FJ:=O (eC.o.ch dQ.o (λh=>h));have On:=O (bH.o.ch dQ.o (λh=>h));have sw:=O (show aX w4 (qb+1+1) 200 #[I J x.aS,I J x.last.kind,I J x.last.tx,I J x.last.aS,I J x.last.aY,I J x.last.op,V x.last.key,V x.last.val,I J x.last.mode,Y x.last.yes,T WA (ft x.wr) WC]from iC.o.ch dQ.o (λh=>h));have DK:=O (cN.o.aR dQ.o);clear q5 q6 q8 ql Us;have OE:=O (show ax av 187 #[aC #[I J x.aS,I J x.last.kind,I J x.last.tx,I J x.last.aS,I J x.last.aY,I J x.last.op,V x.last.key,V x.last.val,I J x.last.mode,Y x.last.yes,T WA (ft x.wr) WC],V key] w4 (λe w'=>e=ay (aB #[I J 0,Y x.wr.isSome])/\M w4 w')from xA (c:=WC) (x:=x) (Rd.own (show w4.ownsRow 0 203 3 (T WA (ft x.wr) WC) (ft x.wr) (qG key x.wr)from by
    have:=DK.o.gp.row tx;rw[CW.o,Fy.o]at this;exact this)))
   have⟨l0,l1,l2,l3,l4⟩:=iP sw.o;have⟨l5,l6,l7,l8,l9⟩:=(show _/\_/\_/\_/\_ from⟨sw.o.c 5,sw.o.c 6,sw.o.c 7,sw.o.c 8,sw.o.c 9⟩);have l10:=sw.o.c 10;have q5:=FJ.o.c 5;go_wp2_with fail
   with_reducible refine OE.o.mono ?_
   rintro e w5 ⟨rfl,FK⟩;dsimp only;clear l0 l1 l2 l3 l4 l5 l6 l7 l8 l9 l10 q5 OE;have gI:=O (show M w w5 from(((HN.o.t j4.o).t DJ.o).t dQ.o).t FK);have mM:=O (iq.o.ch FK (λh=>h));have DH:=O (FJ.o.ch FK (λh=>h));have s9:=O (On.o.ch FK (λh=>h));have mJ:=O (sw.o.ch FK (λh=>h));have nG:=O (DK.o.aR FK);have mQ:w5.ownsRow 0 203 3 (T WA (ft x.wr) WC) (ft x.wr) (qG key x.wr):=by
    have:=nG.o.gp.row tx;rw[CW.o,Fy.o]at this;exact this
   clear FK;obtain⟨XW,Bf⟩:=bG (x.wr);have HX:=O Bf;cases XW with
   |some v0=>
    rw[Bf]at mQ;obtain⟨g,cap,hv5,_,qc3⟩:=World.ownsRow.form mQ (show 0<1 by omega);injection hv5 with hA hv6 hv7;subst hA;subst hv7;clear hv6;have f0:=mQ.frozenAt 0;have f1:=mQ.frozenAt 1;have f2:=mQ.frozenAt 2;have Lt:=O mQ;have l10:w5.cell? ⟨qb+1+1,10,U⟩=G (T (G ⟨g,0,U⟩) 1 WC):=by have:=mJ.o.c 10;rw[Bf]at this;exact this
    have ll:=mJ.o.lt;have⟨b0,b1,b2⟩:=O3 mM.o;have bl:=mM.o.lt;obtain⟨g',ta,hA,_,z0,z1,z2⟩:=FH (Rd.own mQ);injection hA with hA;injection hA with Wd hA2;subst Wd hA2;simp only[Nat.zero_add]at z1 z2;simp only[Bf,Option.isSome_some];clear Bf mQ;go_upto_region 11 with(fail);change Code.wp _ _ _ _ (FI w5 g key val);have iU:=O (Lr w5 g key val);have XK:=O (Hp Lt.o val);generalize FI w5 g key val=wE at *;have DL:=O (DH.o.ch iU.o (λe=>aV Lt.o DH.o (by decide) (by rw[e];rfl)));have SI:=O (s9.o.ch iU.o (λe=>aV Lt.o s9.o (by decide) (by rw[e];rfl)));have p7:=O (show aX wE (qb+1+1) 200 #[I J x.aS,I J x.last.kind,I J x.last.tx,I J x.last.aS,I J x.last.aY,I J x.last.op,V x.last.key,V x.last.val,I J x.last.mode,Y x.last.yes,T (G ⟨g,0,U⟩) 1 WC]from by
     have:=mJ.o.ch iU.o (λe=>aV Lt.o mJ.o (by decide) (by rw[e];rfl));rw[HX.o]at this;exact this)
    have XL:=O (show Ch (λk=>(a.W tx).ownBlock=G k) w wE from(gI.o.mono (λ_ h=>h.elim)).t (iU.o.mono (λk hk=>by subst hk;rw[Fy.o];rfl)));have HHV:=O (show∀g',(T (G ⟨g,0,U⟩) 1 WC).ownBlock=G g'->(a.W tx).ownBlock=G g'\/w.heap.size<=g' from λg' hg=>.inl (by rw[Fy.o];exact hg));clear f0 f1 f2 l10 ll b0 b1 b2 bl z0 z1 z2 qc3;have⟨q0,q1,q2,q3,q4⟩:=iP DL.o;have⟨q5,q6,q7,q8⟩:=(show _/\_/\_/\_ from⟨DL.o.c 5,DL.o.c 6,DL.o.c 7,DL.o.c 8⟩);have ql:=DL.o.lt;have lf:=p7.o.frozen;have ll:=p7.o.lt;have⟨l0,l1,l2,l3,l4⟩:=iP p7.o;have⟨l5,l6,l7,l8,l9⟩:=(show _/\_/\_/\_/\_ from⟨p7.o.c 5,p7.o.c 6,p7.o.c 7,p7.o.c 8,p7.o.c 9⟩);have eQ:qb≠qb+1+1:=by omega
    go_upto_region 12 with(fail);change Code.wp _ _ _ _ (setLast wE (qb+1+1) ⟨4,tx,aS,st,op,key,val,mode,true⟩);have fJ:=O (show aX (setLast wE (qb+1+1) ⟨4,tx,aS,st,op,key,val,mode,true⟩) (qb+1+1) 200 (pS ⟨x.aS,⟨4,tx,aS,st,op,key,val,mode,true⟩,G val⟩ (T (G ⟨g,0,U⟩) 1 WC))from mO p7.o _);have jj:=O (show Ch (λk=>k=qb+1+1) wE (setLast wE (qb+1+1) ⟨4,tx,aS,st,op,key,val,mode,true⟩)from pZ _ _ _);generalize(setLast wE (qb+1+1) ⟨4,tx,aS,st,op,key,val,mode,true⟩)=wl at *;have Bb:=O (DL.o.ch jj.o (by omega));have Fz:=O (SI.o.ch jj.o (by omega));have hq:=dp.o;have DM:=O (show Ch (λk=>(a.W tx).ownBlock=G k) w wl from XL.o.trans jj.o (λk hk=>.inr (by omega)));have HBS:=O (HM.o.aW.ch DM.o (λhk=>aV (HM.o.gp.row tx) HM.o.aW (by decide) hk));have DN:=O (HM.o.gp.map.ch DM.o (λhk=>HM.o.gp.map.kF (HM.o.gp.row tx) hk));have Lu:=O (bg XK.o jj.o (λk hk e=>aV XK.o p7.o (by decide) (by rw[<-e];exact hk)));clear q0 q1 q2 q3 q4 q5 q6 q7 q8 ql lf ll l0 l1 l2 l3 l4 l5 l6 l7 l8 l9 hq;obtain⟨b3,b5,b1,_⟩:=jm HBS.o Bb.o;have⟨l0,l1,l2,l3,l4⟩:=iP fJ.o;have⟨l5,l6,l7,l8,l9⟩:=(show _/\_/\_/\_/\_ from⟨fJ.o.c 5,fJ.o.c 6,fJ.o.c 7,fJ.o.c 8,fJ.o.c 9⟩);have l10:=fJ.o.c 10;obtain⟨w8,kX,qF,dS⟩:=cT.put (DN.o.aR (aU wl)) underlying115 (by have:=xg.o;omega) (x:=tx) (by omega) (by omega) (gH ⟨x.aS,⟨4,tx,aS,st,op,key,val,mode,true⟩,G val⟩ (T (G ⟨g,0,U⟩) 1 WC));have Fg:=O ((Ch.bF dS).mono (au:=λk=>k=a.bR) (λk hk=>by injection hk with hk;exact hk.symm));have sH:=O (xB HM.o h1 (((DM.o.drew).mono (λk hk=>.inr hk)).t (Fg.o.mono (λk hk=>.inl hk))) HHV.o ⟨x.aS,⟨4,tx,aS,st,op,key,val,mode,true⟩,G val⟩ qF (bg (lT Lu.o (aU wl)) Fg.o (λk hk e=>by subst e;exact(DN.o.aR (aU wl)).kF (lT Lu.o (aU wl)) hk)));clear dS qF
    go_still_tail 7,(by kernel_rfl)
    change wpList _ _ _ _ _ wl.drew;go_upto_region 13 with(fail);have cN:=O sH.o.1;have bH:=O (Fz.o.drew.ch Fg.o (λe=>(DN.o.aR (aU wl)).fO Fz.o.drew e.symm));clear b3 b5 b1 l0 l1 l2 l3 l4 l5 l6 l7 l8 l9 l10;have⟨y0,y1,y2,y3⟩:=eW bH.o;have yl:=bH.o.lt;have f0:=bH.o.frozen 0;have f1:=bH.o.frozen 1;have f2:=bH.o.frozen 2;have f3:=bH.o.frozen 3;go_wp2_with fail;change bodyPost _ _ _ _ _ (cI w8 (qb+1) cL);have HY:=O (bU bH.o cL);have cK:=O (bX w8 (qb+1) cL);generalize cI w8 (qb+1) cL=wE at *;have⟨g0,g1,g2,g3⟩:=eW HY.o;have gO:=O (cN.o.bw bH.o cy);refine aE (v:=dU cL) (by simp[results,results117,go_sem,g0,g1,g2,g3]) rfl ⟨rfl,a.rh tx (T (G ⟨g,0,U⟩) 1 WC),cN.o.ch cK.o (λg hg e=>by subst e;exact gO.o hg),?_⟩;have hq:=dp.o;exact sH.o.2.tail cK.o (λk hk=>by omega)
   |none=>
    rw[Bf]at mQ;have Lt:=O mQ;have l10:w5.cell? ⟨qb+1+1,10,U⟩=G (T WA 0 WC):=by have:=mJ.o.c 10;rw[Bf]at this;exact this
    have ll:=mJ.o.lt;have⟨b0,b1,b2⟩:=O3 mM.o;have bl:=mM.o.lt;simp only[Bf,Option.isSome_none];clear Bf mQ;have xC:=O (show M w5 (mP w5 key val)from nH w5 key val);have Ow:=O (Lq (vs:=[V key,V val,Y true]) (lT Lt.o (nH w5 key val)) (rB w5 key val) rfl (by intro u hu;simp at hu;rcases hu with rfl|rfl|rfl<;>rfl));have jh:(mP w5 key val).heap.size=w5.heap.size+1:=by unfold mP;simp
    go_wp2_with fail;change ax _ _ _ (mP w5 key val) _;generalize mP w5 key val=wA at *
    with_reducible refine Ow.o.mono ?_
    rintro e w6 ⟨A',c',rfl,cU,nC,hat⟩;dsimp only;have iU:=O nC;have iV:=O hat;have XM:=O cU;have TU:=O jh;have kZ: ∀{k t cs},aX wA k t cs->t≠203->¬(T WA 0 WC).ownBlock=G k:=λhb eQ e=>aV (lT Lt.o xC.o) hb (Ne.symm eQ) e;have XN:=O (DH.o.ch xC.o (λh=>h));have qI:=O (XN.o.ch nC (kZ XN.o (by decide)));have XO:=O (s9.o.ch xC.o (λh=>h));have tQ:=O (XO.o.ch nC (kZ XO.o (by decide)));have XP:=O (mJ.o.ch xC.o (λh=>h));have Km:=O (XP.o.ch nC (kZ XP.o (by decide)));clear kZ nC hat cU jh l10 ll b0 b1 b2 bl Ow;have ll:=Km.o.lt;have l10:=Km.o.c 10;have lf:=Km.o.frozen 10;go_upto_region 11 with(fail);have p7:=O (show aX (w6.setCell ⟨qb+1+1,10,U⟩ (T A' 1 c')) (qb+1+1) 200 #[I J x.aS,I J x.last.kind,I J x.last.tx,I J x.last.aS,I J x.last.aY,I J x.last.op,V x.last.key,V x.last.val,I J x.last.mode,Y x.last.yes,T A' 1 c']from bu (Km.o.bm 10 (T A' 1 c')) (by simp));have xi:=O (show Ch (λk=>k=qb+1+1) w6 (w6.setCell ⟨qb+1+1,10,U⟩ (T A' 1 c'))from(Ch.r (λk=>k=qb+1+1) w6).setCell (p:=⟨qb+1+1,10,U⟩) (.inl rfl) _);generalize w6.setCell ⟨qb+1+1,10,U⟩ (T A' 1 c')=wE at *;have hq:=dp.o;have DL:=O (qI.o.ch xi.o (by omega));have SI:=O (tQ.o.ch xi.o (by omega));have XK:=O (bg XM.o xi.o (λk hk e=>aV XM.o Km.o (by decide) (by rw[<-e];exact hk)));have XL:=O (show Ch (λk=>(a.W tx).ownBlock=G k) w wE from(((gI.o.t xC.o).mono (λ_ h=>h.elim)).t (iU.o.mono (λk hk=>by rw[Fy.o];cases WA<;>exact hk))).trans xi.o (λk hk=>.inr (by omega)));have HHV:=O (show∀g',(T A' 1 c').ownBlock=G g'->(a.W tx).ownBlock=G g'\/w.heap.size<=g' from λg' hg=>by
     rcases iV.o with e|e
     ·exact .inl (by rw[Fy.o];rw[e]at hg;cases WA<;>exact hg)
     ·rw[e]at hg;injection hg with hg;have h1:=gI.o.size;have h2:=TU.o;exact .inr (by omega))
    clear hq ll l10 lf;have⟨q0,q1,q2,q3,q4⟩:=iP DL.o;have⟨q5,q6,q7,q8⟩:=(show _/\_/\_/\_ from⟨DL.o.c 5,DL.o.c 6,DL.o.c 7,DL.o.c 8⟩);have ql:=DL.o.lt;have lf:=p7.o.frozen;have ll:=p7.o.lt;have⟨l0,l1,l2,l3,l4⟩:=iP p7.o;have⟨l5,l6,l7,l8,l9⟩:=(show _/\_/\_/\_/\_ from⟨p7.o.c 5,p7.o.c 6,p7.o.c 7,p7.o.c 8,p7.o.c 9⟩);have eQ:qb≠qb+1+1:=by omega
    go_upto_region 12 with(fail);change Code.wp _ _ _ _ (setLast wE (qb+1+1) ⟨4,tx,aS,st,op,key,val,mode,true⟩);have fJ:=O (show aX (setLast wE (qb+1+1) ⟨4,tx,aS,st,op,key,val,mode,true⟩) (qb+1+1) 200 (pS ⟨x.aS,⟨4,tx,aS,st,op,key,val,mode,true⟩,G val⟩ (T A' 1 c'))from mO p7.o _);have jj:=O (show Ch (λk=>k=qb+1+1) wE (setLast wE (qb+1+1) ⟨4,tx,aS,st,op,key,val,mode,true⟩)from pZ _ _ _);generalize(setLast wE (qb+1+1) ⟨4,tx,aS,st,op,key,val,mode,true⟩)=wl at *;have Bb:=O (DL.o.ch jj.o (by omega));have Fz:=O (SI.o.ch jj.o (by omega));have hq:=dp.o;have DM:=O (show Ch (λk=>(a.W tx).ownBlock=G k) w wl from XL.o.trans jj.o (λk hk=>.inr (by omega)));have HBS:=O (HM.o.aW.ch DM.o (λhk=>aV (HM.o.gp.row tx) HM.o.aW (by decide) hk));have DN:=O (HM.o.gp.map.ch DM.o (λhk=>HM.o.gp.map.kF (HM.o.gp.row tx) hk));have Lu:=O (bg XK.o jj.o (λk hk e=>aV XK.o p7.o (by decide) (by rw[<-e];exact hk)));clear q0 q1 q2 q3 q4 q5 q6 q7 q8 ql lf ll l0 l1 l2 l3 l4 l5 l6 l7 l8 l9 hq;obtain⟨b3,b5,b1,_⟩:=jm HBS.o Bb.o;have⟨l0,l1,l2,l3,l4⟩:=iP fJ.o;have⟨l5,l6,l7,l8,l9⟩:=(show _/\_/\_/\_/\_ from⟨fJ.o.c 5,fJ.o.c 6,fJ.o.c 7,fJ.o.c 8,fJ.o.c 9⟩);have l10:=fJ.o.c 10;obtain⟨w8,kX,qF,dS⟩:=cT.put (DN.o.aR (aU wl)) underlying115 (by have:=xg.o;omega) (x:=tx) (by omega) (by omega) (gH ⟨x.aS,⟨4,tx,aS,st,op,key,val,mode,true⟩,G val⟩ (T A' 1 c'));have Fg:=O ((Ch.bF dS).mono (au:=λk=>k=a.bR) (λk hk=>by injection hk with hk;exact hk.symm));have sH:=O (xB HM.o h1 (((DM.o.drew).mono (λk hk=>.inr hk)).t (Fg.o.mono (λk hk=>.inl hk))) HHV.o ⟨x.aS,⟨4,tx,aS,st,op,key,val,mode,true⟩,G val⟩ qF (bg (lT Lu.o (aU wl)) Fg.o (λk hk e=>by subst e;exact(DN.o.aR (aU wl)).kF (lT Lu.o (aU wl)) hk)));clear dS qF
    go_still_tail 7,(by kernel_rfl)
    change wpList _ _ _ _ _ wl.drew;go_upto_region 13 with(fail);have cN:=O sH.o.1;have bH:=O (Fz.o.drew.ch Fg.o (λe=>(DN.o.aR (aU wl)).fO Fz.o.drew e.symm));clear b3 b5 b1 l0 l1 l2 l3 l4 l5 l6 l7 l8 l9 l10;have⟨y0,y1,y2,y3⟩:=eW bH.o;have yl:=bH.o.lt;have f0:=bH.o.frozen 0;have f1:=bH.o.frozen 1;have f2:=bH.o.frozen 2;have f3:=bH.o.frozen 3;go_wp2_with fail;change bodyPost _ _ _ _ _ (cI w8 (qb+1) cL);have HY:=O (bU bH.o cL);have cK:=O (bX w8 (qb+1) cL);generalize cI w8 (qb+1) cL=wE at *;have⟨g0,g1,g2,g3⟩:=eW HY.o;have gO:=O (cN.o.bw bH.o cy);refine aE (v:=dU cL) (by simp[results,results117,go_sem,g0,g1,g2,g3]) rfl ⟨rfl,a.rh tx (T A' 1 c'),cN.o.ch cK.o (λg hg e=>by subst e;exact gO.o hg),?_⟩;have hq:=dp.o;exact sH.o.2.tail cK.o (λk hk=>by omega)
end
theorem P6(l:List Cells.kh)(m:Int):(Cells.cutAt l m).length<=l.length:=by
 unfold Cells.cutAt;split
 ·split
  ·simp
  ·exact aN _
 ·exact aN _
theorem P7{l:List Cells.kh}{m:Int}{v:Cells.kh}(h:v∈Cells.cutAt l m):v∈l:=by
 unfold Cells.cutAt at h;split at h
 ·split at h
  ·exact List.dropLast_subset l h
  ·exact h
 ·exact h
theorem P8{K:ByteArray}{cs:Cells.CS}{s:dm}{aZ:Nat}(h:DC K cs s aZ)(h0:0<s.dw)(h1:s.dw<=1099511627776){v:ByteArray}(hv:v.size<=32)(hK:K.size<=16):
 DC K (Cells.gY cs K v true s.dw) {s with cur:=G v} (aZ+1):=by
 have hE:Cells.ux cs K v s.dw=0:=by
  have:=h.last;have:=h.floor;unfold Cells.ux;rw[if_neg (by unfold Cells.cX;omega),if_neg (by omega)]
 have hS:Cells.gY cs K v true s.dw={cs with f:=Cells.nW cs.f K.data.toList (Cells.cutAt (cs.f K.data.toList) s.dw++[Cells.kE v true s.dw]),last:=s.dw}:=by
  unfold Cells.gY;rw[if_pos hE]
 have hG:=Cells.KU h.uE K v true s.dw;rw[hS]at hG⊢;refine⟨hG,h.floor,Int.le_refl _,?_,λk hk=>?_,?_⟩
 ·have:=h.fx;have:=P6 (cs.f K.data.toList) s.dw;simp only[Cells.nW,if_pos,aL,aM];omega
 ·simp only[Cells.nW,if_neg hk];exact h.CU k hk
 ·simp only[Cells.nW,if_pos];have hall:Cells.Hb (Cells.cutAt (cs.f K.data.toList) s.dw++[Cells.kE v true s.dw]) Cells.cX=(Cells.cutAt (cs.f K.data.toList) s.dw).length+1:=by
   unfold Cells.Hb;rw[List.countP_eq_length.2,aL]
   ·rfl
   ·intro x hx;rcases List.mem_append.1 hx with hx|hx
    ·have h2:=(h.uE.ZO _ x (P7 hx)).2;have h3:=h.uE.l1;simp;omega
    ·simp at hx;subst hx;simp[Cells.kE,Cells.cX];exact h1
  unfold Cells.valOf;rw[hall];simp[Cells.kE,eP,fB]
section
variable{w w':aw}{sb aZ:Nat}{K:ByteArray}{s:dm}{a:ia}{c:bQ}
theorem tR{wl w5:aw}(h:dH wl sb K aZ s a){tx aS:Int}(hg:wl.drew.grownBy w5 (G a.mL))(hm:cT w5 a.mL (aZ+1) (I J 0) (cQ (λt=>(s.cr t).map (I J)) tx (G (I J aS)))):
 dH w5 sb K (aZ+1) {s with cr:=cQ s.cr tx (G aS)} a/\Sub (a.F sb) (a.F sb) wl.drew w5:=by
 refine(h.aR (aU wl)).PS (d':=cQ s.cr tx (G aS)) ?_ ((Ch.bF hg).mono (λk hk=>by injection hk with hk;exact hk.symm)) (Nat.le_succ _);have e:(λt=>(cQ s.cr tx (G aS) t).map (I J))=cQ (λt=>(s.cr t).map (I J)) tx (G (I J aS)):=by
  funext t
  by_cases e:t=tx
  ·subst e;rw[bD,bD];rfl
  ·rw[bP _ _ e,bP _ _ e]
 rw[e];exact hm
theorem FL{w:aw}{sb qb:Nat}{s:dm}{a:ia}{c:bQ}(b1:aX w sb 118 (SD s a))(b2:aX w qb 60 (bN c)):
 w.cell? ⟨sb,6,U⟩=G (.map (G a.mL))/\w.cell? ⟨qb,1,U⟩=G (I J c.tx)/\w.cell? ⟨qb,2,U⟩=G (I J c.aS):=⟨b1.c 6,b2.c 1,b2.c 2⟩
theorem Hq(h:dH w sb K aZ s a)(hc:eN c)(hk:c.kind=7)(cp:aZ<1000000)(hl:s.br c.tx=U)(iO:gM s c.tx c.aS=true):
 ax av 112 #[X (G ⟨sb,0,U⟩),cn c] w (jQ w sb K (aZ+2) a (s,cL)):=by
 have h1:=hc.tx;obtain⟨kd,tx,aS,st,op,key,val,mode,yes⟩:=c;dsimp only at *;subst hk;have HM:=O h;have de:=h.aW.lt;have jA:=O (λw' (hN:M w w')=>(show w'.cell? ⟨sb,5,U⟩=G (.map (G a.bR))/\(Instr.lookup 115 (.map (G a.bR)) (I J tx) true).run av w'= .ok (aB #[aC #[I J 0,I J 0,I J 0,I J 0,I J 0,I J 0,V ⟨#[]⟩,V ⟨#[]⟩,I J 0,Y false,T U 0 0],Y false]) w' from by
  refine⟨(h.aR hN).cells.2.2.2.2.2.1,?_⟩;have:=cT.eT (h.aR hN).gp h1;rw[hl]at this;exact this))
 clear h hl hc;go_enter func112,ntmps112;go_upto_region 1 with(fail);obtain⟨wz,bV⟩:=bG ((w.alloc (az #[I J 7,I J tx,I J aS,I J st,I J op,V key,V val,I J mode,Y yes] 60)).alloc (az #[I J 0,I J 0,V ⟨#[]⟩,Y false] 66));have HN:=(fZ bV).1;have HQ:=O (show aX wz w.heap.size 60 (bN ⟨7,tx,aS,st,op,key,val,mode,yes⟩)from bV▸(aX.new w 60 _).alloc _);have HR:=(fZ bV).2;have fY:wz.heap.size=w.heap.size+1+1:=by rw[<-bV];simp
 obtain⟨qb,bE⟩:=bG (w.heap.size);rw[bE]at HQ HR de fY
 try rw[bV]
 try simp only[bE]
 have dp:=O bE;have HS:=O (λw' (hN:M wz w')=>(show w'.cell? ⟨sb,5,U⟩=G (.map (G a.bR))/\(Instr.lookup 115 (.map (G a.bR)) (I J tx) true).run av w'= .ok (aB #[aC #[I J 0,I J 0,I J 0,I J 0,I J 0,I J 0,V ⟨#[]⟩,V ⟨#[]⟩,I J 0,Y false,T U 0 0],Y false]) w'/\w'.cell? ⟨qb,1,U⟩=G (I J tx)from
  ⟨(jA.o w' (HN.o.t hN)).1,(jA.o w' (HN.o.t hN)).2,(HQ.o.ch hN (λh=>h)).c 1⟩))
 have ku:=O fY;clear bV bE fY
 go_cut[5,6] (λv v2 wq=>v=X (G ⟨qb+1+1,0,U⟩)/\v2=Y false/\M wz wq/\aX wq (qb+1+1) 200 #[I J 0,I J 0,I J 0,I J 0,I J 0,I J 0,V ⟨#[]⟩,V ⟨#[]⟩,I J 0,Y false,T U 0 0])
 case first=>
  go_region_held3(λw'=>w'.cell? ⟨sb,5,U⟩=G (.map (G a.bR))/\(Instr.lookup 115 (.map (G a.bR)) (I J tx) true).run av w'= .ok (aB #[aC #[I J 0,I J 0,I J 0,I J 0,I J 0,I J 0,V ⟨#[]⟩,V ⟨#[]⟩,I J 0,Y false,T U 0 0],Y false]) w'/\w'.cell? ⟨qb,1,U⟩=G (I J tx))
   (first|exact HS.o _ (aU wz)|exact HS.o _ ((aU wz).alloc _))
   (fail)
  all_goals
   go_wp2_with fail;go_meet;refine⟨by rw[ku.o],rfl,((Ch.r _ wz).alloc _).drew,?_⟩;rw[<-ku.o];exact(aX.new wz 200 _).drew
 case rest=>
  obtain⟨rfl,rfl,fw,mn⟩:=hcut;have j4:=O fw;have gD:=O (HQ.o.ch fw (λh=>h));have gN:=O (HR.o.ch fw (λh=>h));have iw:=O (HM.o.aR (HN.o.t fw));clear fw mn;have tj:=O (show ax av 178 #[X (G ⟨sb,0,U⟩),I J tx,I J aS] wc (λe eZ=>e=ay (Y true)/\wc=eZ)from by
   have:=jl iw.o h1 aS;rw[iO]at this;exact this)
  clear iO;have q1:=gD.o.c 1;have q2:=gD.o.c 2;have ql:=gD.o.lt;have cN:=iw;have bH:=gN;have⟨y0,y1,y2,y3⟩:=eW bH.o;have yl:=bH.o.lt;have f0:=bH.o.frozen 0;have f1:=bH.o.frozen 1;have f2:=bH.o.frozen 2;have f3:=bH.o.frozen 3;go_wp2_with(go_at_call 178;refine tj.o.mono ?_;rintro e w3 ⟨rfl,rfl⟩);change bodyPost _ _ _ _ _ (cI wc (qb+1) cL);have HY:=O (bU bH.o cL);have cK:=O (bX wc (qb+1) cL);generalize cI wc (qb+1) cL=wE at *;have⟨g0,g1,g2,g3⟩:=eW HY.o;have gO:=O (cN.o.bw bH.o cy);refine aE (v:=dU cL) (by simp[results,results112,go_sem,g0,g1,g2,g3]) rfl ⟨rfl,a,(cN.o.ch cK.o (λg hg e=>by subst e;exact gO.o hg)).mono (by omega),?_⟩;have hq:=dp.o;exact(Sub.bj _ (HN.o.t j4.o)).tail cK.o (λk hk=>by omega)
theorem Hr(h:dH w sb K aZ s a)(hc:eN c)(hk:c.kind=7)(cp:aZ<1000000){x:cG}(hl:s.br c.tx=G x)(iO:gM s c.tx c.aS=true):
 ax av 112 #[X (G ⟨sb,0,U⟩),cn c] w (jQ w sb K (aZ+2) a (s,cL)):=by
 have h1:=hc.tx;obtain⟨kd,tx,aS,st,op,key,val,mode,yes⟩:=c;dsimp only at *;subst hk;obtain⟨WA,WC,hW⟩:=bz (show w.ownsRow 0 203 3 (a.W tx) (ft x.wr) (qG K x.wr)from by have:=h.gp.row tx;rw[hl]at this;exact this);have HM:=O h;have de:=h.aW.lt;have jA:=O (λw' (hN:M w w')=>(show w'.cell? ⟨sb,5,U⟩=G (.map (G a.bR))/\(Instr.lookup 115 (.map (G a.bR)) (I J tx) true).run av w'= .ok (aB #[aC #[I J x.aS,I J x.last.kind,I J x.last.tx,I J x.last.aS,I J x.last.aY,I J x.last.op,V x.last.key,V x.last.val,I J x.last.mode,Y x.last.yes,T WA (ft x.wr) WC],Y true]) w' from by
  refine⟨(h.aR hN).cells.2.2.2.2.2.1,?_⟩;have:=cT.eT (h.aR hN).gp h1;rw[hl,hW]at this;exact this))
 clear h hl hc;go_enter func112,ntmps112;go_upto_region 1 with(fail);obtain⟨wz,bV⟩:=bG ((w.alloc (az #[I J 7,I J tx,I J aS,I J st,I J op,V key,V val,I J mode,Y yes] 60)).alloc (az #[I J 0,I J 0,V ⟨#[]⟩,Y false] 66));have HN:=(fZ bV).1;have HQ:=O (show aX wz w.heap.size 60 (bN ⟨7,tx,aS,st,op,key,val,mode,yes⟩)from bV▸(aX.new w 60 _).alloc _);have HR:=(fZ bV).2;have fY:wz.heap.size=w.heap.size+1+1:=by rw[<-bV];simp
 obtain⟨qb,bE⟩:=bG (w.heap.size);rw[bE]at HQ HR de fY
 try rw[bV]
 try simp only[bE]
 have dp:=O bE;have HS:=O (λw' (hN:M wz w')=>(show w'.cell? ⟨sb,5,U⟩=G (.map (G a.bR))/\(Instr.lookup 115 (.map (G a.bR)) (I J tx) true).run av w'= .ok (aB #[aC #[I J x.aS,I J x.last.kind,I J x.last.tx,I J x.last.aS,I J x.last.aY,I J x.last.op,V x.last.key,V x.last.val,I J x.last.mode,Y x.last.yes,T WA (ft x.wr) WC],Y true]) w'/\w'.cell? ⟨qb,1,U⟩=G (I J tx)from
  ⟨(jA.o w' (HN.o.t hN)).1,(jA.o w' (HN.o.t hN)).2,(HQ.o.ch hN (λh=>h)).c 1⟩))
 have ku:=O fY;clear bV bE fY
 go_cut[5,6] (λv v2 wq=>v=X (G ⟨qb+1+1,0,U⟩)/\v2=Y true/\M wz wq/\aX wq (qb+1+1) 200 #[I J x.aS,I J x.last.kind,I J x.last.tx,I J x.last.aS,I J x.last.aY,I J x.last.op,V x.last.key,V x.last.val,I J x.last.mode,Y x.last.yes,T WA (ft x.wr) WC])
 case first=>
  go_region_held3(λw'=>w'.cell? ⟨sb,5,U⟩=G (.map (G a.bR))/\(Instr.lookup 115 (.map (G a.bR)) (I J tx) true).run av w'= .ok (aB #[aC #[I J x.aS,I J x.last.kind,I J x.last.tx,I J x.last.aS,I J x.last.aY,I J x.last.op,V x.last.key,V x.last.val,I J x.last.mode,Y x.last.yes,T WA (ft x.wr) WC],Y true]) w'/\w'.cell? ⟨qb,1,U⟩=G (I J tx))
   (first|exact HS.o _ (aU wz)|exact HS.o _ ((aU wz).alloc _))
   (fail)
  all_goals
   go_wp2_with fail;go_meet;refine⟨by rw[ku.o],rfl,((Ch.r _ wz).alloc _).drew,?_⟩;rw[<-ku.o];exact(aX.new wz 200 _).drew
 case rest=>
  obtain⟨rfl,rfl,fw,mn⟩:=hcut;have j4:=O fw;have gD:=O (HQ.o.ch fw (λh=>h));have gN:=O (HR.o.ch fw (λh=>h));have iw:=O (HM.o.aR (HN.o.t fw));clear fw mn;have tj:=O (show ax av 178 #[X (G ⟨sb,0,U⟩),I J tx,I J aS] wc (λe eZ=>e=ay (Y true)/\wc=eZ)from by
   have:=jl iw.o h1 aS;rw[iO]at this;exact this)
  clear iO;have q1:=gD.o.c 1;have q2:=gD.o.c 2;have ql:=gD.o.lt;have cN:=iw;have bH:=gN;have⟨y0,y1,y2,y3⟩:=eW bH.o;have yl:=bH.o.lt;have f0:=bH.o.frozen 0;have f1:=bH.o.frozen 1;have f2:=bH.o.frozen 2;have f3:=bH.o.frozen 3;go_wp2_with(go_at_call 178;refine tj.o.mono ?_;rintro e w3 ⟨rfl,rfl⟩);change bodyPost _ _ _ _ _ (cI wc (qb+1) cL);have HY:=O (bU bH.o cL);have cK:=O (bX wc (qb+1) cL);generalize cI wc (qb+1) cL=wE at *;have⟨g0,g1,g2,g3⟩:=eW HY.o;have gO:=O (cN.o.bw bH.o cy);refine aE (v:=dU cL) (by simp[results,results112,go_sem,g0,g1,g2,g3]) rfl ⟨rfl,a,(cN.o.ch cK.o (λg hg e=>by subst e;exact gO.o hg)).mono (by omega),?_⟩;have hq:=dp.o;exact(Sub.bj _ (HN.o.t j4.o)).tail cK.o (λk hk=>by omega)
theorem Lv(h:dH w sb K aZ s a)(hc:eN c)(hk:c.kind=7)(cp:aZ<1000000)(hl:s.br c.tx=U)(iO:gM s c.tx c.aS=false):
 ax av 112 #[X (G ⟨sb,0,U⟩),cn c] w (jQ w sb K (aZ+2) a ({s with cr:=cQ s.cr c.tx (G c.aS)},cL)):=by
 have h1:=hc.tx;obtain⟨kd,tx,aS,st,op,key,val,mode,yes⟩:=c;dsimp only at *;subst hk;have HM:=O h;have de:=h.aW.lt;have jA:=O (λw' (hN:M w w')=>(show w'.cell? ⟨sb,5,U⟩=G (.map (G a.bR))/\(Instr.lookup 115 (.map (G a.bR)) (I J tx) true).run av w'= .ok (aB #[aC #[I J 0,I J 0,I J 0,I J 0,I J 0,I J 0,V ⟨#[]⟩,V ⟨#[]⟩,I J 0,Y false,T U 0 0],Y false]) w' from by
  refine⟨(h.aR hN).cells.2.2.2.2.2.1,?_⟩;have:=cT.eT (h.aR hN).gp h1;rw[hl]at this;exact this))
 have xg:=O cp;clear h hl hc;go_enter func112,ntmps112;go_upto_region 1 with(fail);obtain⟨wz,bV⟩:=bG ((w.alloc (az #[I J 7,I J tx,I J aS,I J st,I J op,V key,V val,I J mode,Y yes] 60)).alloc (az #[I J 0,I J 0,V ⟨#[]⟩,Y false] 66));have HN:=(fZ bV).1;have HQ:=O (show aX wz w.heap.size 60 (bN ⟨7,tx,aS,st,op,key,val,mode,yes⟩)from bV▸(aX.new w 60 _).alloc _);have HR:=(fZ bV).2;have fY:wz.heap.size=w.heap.size+1+1:=by rw[<-bV];simp
 obtain⟨qb,bE⟩:=bG (w.heap.size);rw[bE]at HQ HR de fY
 try rw[bV]
 try simp only[bE]
 have dp:=O bE;have HS:=O (λw' (hN:M wz w')=>(show w'.cell? ⟨sb,5,U⟩=G (.map (G a.bR))/\(Instr.lookup 115 (.map (G a.bR)) (I J tx) true).run av w'= .ok (aB #[aC #[I J 0,I J 0,I J 0,I J 0,I J 0,I J 0,V ⟨#[]⟩,V ⟨#[]⟩,I J 0,Y false,T U 0 0],Y false]) w'/\w'.cell? ⟨qb,1,U⟩=G (I J tx)from
  ⟨(jA.o w' (HN.o.t hN)).1,(jA.o w' (HN.o.t hN)).2,(HQ.o.ch hN (λh=>h)).c 1⟩))
 have ku:=O fY;clear bV bE fY
 go_cut[5,6] (λv v2 wq=>v=X (G ⟨qb+1+1,0,U⟩)/\v2=Y false/\M wz wq/\aX wq (qb+1+1) 200 #[I J 0,I J 0,I J 0,I J 0,I J 0,I J 0,V ⟨#[]⟩,V ⟨#[]⟩,I J 0,Y false,T U 0 0])
 case first=>
  go_region_held3(λw'=>w'.cell? ⟨sb,5,U⟩=G (.map (G a.bR))/\(Instr.lookup 115 (.map (G a.bR)) (I J tx) true).run av w'= .ok (aB #[aC #[I J 0,I J 0,I J 0,I J 0,I J 0,I J 0,V ⟨#[]⟩,V ⟨#[]⟩,I J 0,Y false,T U 0 0],Y false]) w'/\w'.cell? ⟨qb,1,U⟩=G (I J tx))
   (first|exact HS.o _ (aU wz)|exact HS.o _ ((aU wz).alloc _))
   (fail)
  all_goals
   go_wp2_with fail;go_meet;refine⟨by rw[ku.o],rfl,((Ch.r _ wz).alloc _).drew,?_⟩;rw[<-ku.o];exact(aX.new wz 200 _).drew
 case rest=>
  obtain⟨rfl,rfl,fw,mn⟩:=hcut;have j4:=O fw;have gD:=O (HQ.o.ch fw (λh=>h));have gN:=O (HR.o.ch fw (λh=>h));have iw:=O (HM.o.aR (HN.o.t fw));clear fw mn;have tj:=O (show ax av 178 #[X (G ⟨sb,0,U⟩),I J tx,I J aS] wc (λe eZ=>e=ay (Y false)/\wc=eZ)from by
   have:=jl iw.o h1 aS;rw[iO]at this;exact this)
  clear iO;have q1:=gD.o.c 1;have q2:=gD.o.c 2;have ql:=gD.o.lt;have cN:=iw;have bH:=gN;go_upto_region 6 with(go_at_call 178;refine tj.o.mono ?_;rintro e w3 ⟨rfl,rfl⟩);obtain⟨b6,b1,b2⟩:=FL iw.o.aW gD.o;obtain⟨w5,lg,lI,kg⟩:=cT.put ((iw.o.aR (aU wc)).AW) underlying116 (by have:=xg.o;omega) (x:=tx) (by omega) (by omega) (I J aS);have nG:=O (tR iw.o kg lI);have dZ:=O ((Ch.bF kg).mono (au:=λk=>k=a.mL) (λk hk=>by injection hk with hk;exact hk.symm));clear kg lI
  go_still_tail 8,(by kernel_rfl)
  change wpList _ _ _ _ _ wc.drew;go_upto_region 7 with(fail);have cN:=O nG.o.1;have js:=O nG.o.2;have mR:=(iw.o.aR (aU wc)).AW;have bH:=O (gN.o.drew.ch dZ.o (λe=>mR.fO gN.o.drew e.symm));clear b6 b1 b2 lg mR q1 q2 ql;have⟨y0,y1,y2,y3⟩:=eW bH.o;have yl:=bH.o.lt;have f0:=bH.o.frozen 0;have f1:=bH.o.frozen 1;have f2:=bH.o.frozen 2;have f3:=bH.o.frozen 3;go_wp2_with fail;change bodyPost _ _ _ _ _ (cI w5 (qb+1) cL);have HY:=O (bU bH.o cL);have cK:=O (bX w5 (qb+1) cL);generalize cI w5 (qb+1) cL=wE at *;have⟨g0,g1,g2,g3⟩:=eW HY.o;have gO:=O (cN.o.bw bH.o cy);refine aE (v:=dU cL) (by simp[results,results112,go_sem,g0,g1,g2,g3]) rfl ⟨rfl,a,(cN.o.ch cK.o (λg hg e=>by subst e;exact gO.o hg)).mono (by omega),?_⟩;have hq:=dp.o;exact((Sub.bj _ (HN.o.t (j4.o.t (aU _)))).trans js.o).tail cK.o (λk hk=>by omega)
theorem P9(h:dH w sb K aZ s a)(hc:eN c)(hk:c.kind=7)(cp:aZ<1000000){x:cG}(hl:s.br c.tx=G x)(iO:gM s c.tx c.aS=false)(oY:x.aS<c.aS):
 ax av 112 #[X (G ⟨sb,0,U⟩),cn c] w (jQ w sb K (aZ+2) a (s,cF 8)):=by
 have h1:=hc.tx;obtain⟨kd,tx,aS,st,op,key,val,mode,yes⟩:=c;dsimp only at *;subst hk;obtain⟨WA,WC,hW⟩:=bz (show w.ownsRow 0 203 3 (a.W tx) (ft x.wr) (qG K x.wr)from by have:=h.gp.row tx;rw[hl]at this;exact this);have HM:=O h;have de:=h.aW.lt;have jA:=O (λw' (hN:M w w')=>(show w'.cell? ⟨sb,5,U⟩=G (.map (G a.bR))/\(Instr.lookup 115 (.map (G a.bR)) (I J tx) true).run av w'= .ok (aB #[aC #[I J x.aS,I J x.last.kind,I J x.last.tx,I J x.last.aS,I J x.last.aY,I J x.last.op,V x.last.key,V x.last.val,I J x.last.mode,Y x.last.yes,T WA (ft x.wr) WC],Y true]) w' from by
  refine⟨(h.aR hN).cells.2.2.2.2.2.1,?_⟩;have:=cT.eT (h.aR hN).gp h1;rw[hl,hW]at this;exact this))
 have uL:=O oY;clear oY;clear h hl hc;go_enter func112,ntmps112;go_upto_region 1 with(fail);obtain⟨wz,bV⟩:=bG ((w.alloc (az #[I J 7,I J tx,I J aS,I J st,I J op,V key,V val,I J mode,Y yes] 60)).alloc (az #[I J 0,I J 0,V ⟨#[]⟩,Y false] 66));have HN:=(fZ bV).1;have HQ:=O (show aX wz w.heap.size 60 (bN ⟨7,tx,aS,st,op,key,val,mode,yes⟩)from bV▸(aX.new w 60 _).alloc _);have HR:=(fZ bV).2;have fY:wz.heap.size=w.heap.size+1+1:=by rw[<-bV];simp
 obtain⟨qb,bE⟩:=bG (w.heap.size);rw[bE]at HQ HR de fY
 try rw[bV]
 try simp only[bE]
 have dp:=O bE;have HS:=O (λw' (hN:M wz w')=>(show w'.cell? ⟨sb,5,U⟩=G (.map (G a.bR))/\(Instr.lookup 115 (.map (G a.bR)) (I J tx) true).run av w'= .ok (aB #[aC #[I J x.aS,I J x.last.kind,I J x.last.tx,I J x.last.aS,I J x.last.aY,I J x.last.op,V x.last.key,V x.last.val,I J x.last.mode,Y x.last.yes,T WA (ft x.wr) WC],Y true]) w'/\w'.cell? ⟨qb,1,U⟩=G (I J tx)from
  ⟨(jA.o w' (HN.o.t hN)).1,(jA.o w' (HN.o.t hN)).2,(HQ.o.ch hN (λh=>h)).c 1⟩))
 have ku:=O fY;clear bV bE fY
 go_cut[5,6] (λv v2 wq=>v=X (G ⟨qb+1+1,0,U⟩)/\v2=Y true/\M wz wq/\aX wq (qb+1+1) 200 #[I J x.aS,I J x.last.kind,I J x.last.tx,I J x.last.aS,I J x.last.aY,I J x.last.op,V x.last.key,V x.last.val,I J x.last.mode,Y x.last.yes,T WA (ft x.wr) WC])
 case first=>
  go_region_held3(λw'=>w'.cell? ⟨sb,5,U⟩=G (.map (G a.bR))/\(Instr.lookup 115 (.map (G a.bR)) (I J tx) true).run av w'= .ok (aB #[aC #[I J x.aS,I J x.last.kind,I J x.last.tx,I J x.last.aS,I J x.last.aY,I J x.last.op,V x.last.key,V x.last.val,I J x.last.mode,Y x.last.yes,T WA (ft x.wr) WC],Y true]) w'/\w'.cell? ⟨qb,1,U⟩=G (I J tx))
   (first|exact HS.o _ (aU wz)|exact HS.o _ ((aU wz).alloc _))
   (fail)
  all_goals
   go_wp2_with fail;go_meet;refine⟨by rw[ku.o],rfl,((Ch.r _ wz).alloc _).drew,?_⟩;rw[<-ku.o];exact(aX.new wz 200 _).drew
 case rest=>
  obtain⟨rfl,rfl,fw,mn⟩:=hcut;have j4:=O fw;have gD:=O (HQ.o.ch fw (λh=>h));have gN:=O (HR.o.ch fw (λh=>h));have kH:=O mn;have iw:=O (HM.o.aR (HN.o.t fw));clear fw mn;have tj:=O (show ax av 178 #[X (G ⟨sb,0,U⟩),I J tx,I J aS] wc (λe eZ=>e=ay (Y false)/\wc=eZ)from by
   have:=jl iw.o h1 aS;rw[iO]at this;exact this)
  clear iO;have q1:=gD.o.c 1;have q2:=gD.o.c 2;have ql:=gD.o.lt;have cN:=iw;have bH:=gN;have d1:decide (x.aS<aS)=true:=decide_eq_true uL.o;have l0:=kH.o.c 0;have ll:=kH.o.lt;have⟨y0,y1,y2,y3⟩:=eW bH.o;have yl:=bH.o.lt;have f0:=bH.o.frozen 0;have f1:=bH.o.frozen 1;have f2:=bH.o.frozen 2;have f3:=bH.o.frozen 3;go_wp2_with(go_at_call 178;refine tj.o.mono ?_;rintro e w3 ⟨rfl,rfl⟩);change bodyPost _ _ _ _ _ (cI wc (qb+1) (cF 8));have HY:=O (bU bH.o (cF 8));have cK:=O (bX wc (qb+1) (cF 8));generalize cI wc (qb+1) (cF 8)=wE at *;have⟨g0,g1,g2,g3⟩:=eW HY.o;have gO:=O (cN.o.bw bH.o cy);refine aE (v:=dU (cF 8)) (by simp[results,results112,go_sem,g0,g1,g2,g3]) rfl ⟨rfl,a,(cN.o.ch cK.o (λg hg e=>by subst e;exact gO.o hg)).mono (by omega),?_⟩;have hq:=dp.o;exact(Sub.bj _ (HN.o.t j4.o)).tail cK.o (λk hk=>by omega)
theorem Qa(h:dH w sb K aZ s a)(hc:eN c)(hk:c.kind=7)(cp:aZ<1000000){x:cG}(hl:s.br c.tx=G x)(iO:gM s c.tx c.aS=false)(oY:c.aS<x.aS):
 ax av 112 #[X (G ⟨sb,0,U⟩),cn c] w (jQ w sb K (aZ+2) a ({s with cr:=cQ s.cr c.tx (G c.aS)},cL)):=by
 have h1:=hc.tx;obtain⟨kd,tx,aS,st,op,key,val,mode,yes⟩:=c;dsimp only at *;subst hk;obtain⟨WA,WC,hW⟩:=bz (show w.ownsRow 0 203 3 (a.W tx) (ft x.wr) (qG K x.wr)from by have:=h.gp.row tx;rw[hl]at this;exact this);have HM:=O h;have de:=h.aW.lt;have jA:=O (λw' (hN:M w w')=>(show w'.cell? ⟨sb,5,U⟩=G (.map (G a.bR))/\(Instr.lookup 115 (.map (G a.bR)) (I J tx) true).run av w'= .ok (aB #[aC #[I J x.aS,I J x.last.kind,I J x.last.tx,I J x.last.aS,I J x.last.aY,I J x.last.op,V x.last.key,V x.last.val,I J x.last.mode,Y x.last.yes,T WA (ft x.wr) WC],Y true]) w' from by
  refine⟨(h.aR hN).cells.2.2.2.2.2.1,?_⟩;have:=cT.eT (h.aR hN).gp h1;rw[hl,hW]at this;exact this))
 have xg:=O cp;have uL:=O oY;clear oY;clear h hl hc;go_enter func112,ntmps112;go_upto_region 1 with(fail);obtain⟨wz,bV⟩:=bG ((w.alloc (az #[I J 7,I J tx,I J aS,I J st,I J op,V key,V val,I J mode,Y yes] 60)).alloc (az #[I J 0,I J 0,V ⟨#[]⟩,Y false] 66));have HN:=(fZ bV).1;have HQ:=O (show aX wz w.heap.size 60 (bN ⟨7,tx,aS,st,op,key,val,mode,yes⟩)from bV▸(aX.new w 60 _).alloc _);have HR:=(fZ bV).2;have fY:wz.heap.size=w.heap.size+1+1:=by rw[<-bV];simp
 obtain⟨qb,bE⟩:=bG (w.heap.size);rw[bE]at HQ HR de fY
 try rw[bV]
 try simp only[bE]
 have dp:=O bE;have HS:=O (λw' (hN:M wz w')=>(show w'.cell? ⟨sb,5,U⟩=G (.map (G a.bR))/\(Instr.lookup 115 (.map (G a.bR)) (I J tx) true).run av w'= .ok (aB #[aC #[I J x.aS,I J x.last.kind,I J x.last.tx,I J x.last.aS,I J x.last.aY,I J x.last.op,V x.last.key,V x.last.val,I J x.last.mode,Y x.last.yes,T WA (ft x.wr) WC],Y true]) w'/\w'.cell? ⟨qb,1,U⟩=G (I J tx)from
  ⟨(jA.o w' (HN.o.t hN)).1,(jA.o w' (HN.o.t hN)).2,(HQ.o.ch hN (λh=>h)).c 1⟩))
 have ku:=O fY;clear bV bE fY
 go_cut[5,6] (λv v2 wq=>v=X (G ⟨qb+1+1,0,U⟩)/\v2=Y true/\M wz wq/\aX wq (qb+1+1) 200 #[I J x.aS,I J x.last.kind,I J x.last.tx,I J x.last.aS,I J x.last.aY,I J x.last.op,V x.last.key,V x.last.val,I J x.last.mode,Y x.last.yes,T WA (ft x.wr) WC])
 case first=>
  go_region_held3(λw'=>w'.cell? ⟨sb,5,U⟩=G (.map (G a.bR))/\(Instr.lookup 115 (.map (G a.bR)) (I J tx) true).run av w'= .ok (aB #[aC #[I J x.aS,I J x.last.kind,I J x.last.tx,I J x.last.aS,I J x.last.aY,I J x.last.op,V x.last.key,V x.last.val,I J x.last.mode,Y x.last.yes,T WA (ft x.wr) WC],Y true]) w'/\w'.cell? ⟨qb,1,U⟩=G (I J tx))
   (first|exact HS.o _ (aU wz)|exact HS.o _ ((aU wz).alloc _))
   (fail)
  all_goals
   go_wp2_with fail;go_meet;refine⟨by rw[ku.o],rfl,((Ch.r _ wz).alloc _).drew,?_⟩;rw[<-ku.o];exact(aX.new wz 200 _).drew
 case rest=>
  obtain⟨rfl,rfl,fw,mn⟩:=hcut;have j4:=O fw;have gD:=O (HQ.o.ch fw (λh=>h));have gN:=O (HR.o.ch fw (λh=>h));have kH:=O mn;have iw:=O (HM.o.aR (HN.o.t fw));clear fw mn;have tj:=O (show ax av 178 #[X (G ⟨sb,0,U⟩),I J tx,I J aS] wc (λe eZ=>e=ay (Y false)/\wc=eZ)from by
   have:=jl iw.o h1 aS;rw[iO]at this;exact this)
  clear iO;have q1:=gD.o.c 1;have q2:=gD.o.c 2;have ql:=gD.o.lt;have cN:=iw;have bH:=gN;have d1:decide (x.aS<aS)=false:=decide_eq_false (by have:=uL.o;omega);have l0:=kH.o.c 0;have ll:=kH.o.lt;go_upto_region 6 with(go_at_call 178;refine tj.o.mono ?_;rintro e w3 ⟨rfl,rfl⟩);obtain⟨b6,b1,b2⟩:=FL iw.o.aW gD.o;obtain⟨w5,lg,lI,kg⟩:=cT.put ((iw.o.aR (aU wc)).AW) underlying116 (by have:=xg.o;omega) (x:=tx) (by omega) (by omega) (I J aS);have nG:=O (tR iw.o kg lI);have dZ:=O ((Ch.bF kg).mono (au:=λk=>k=a.mL) (λk hk=>by injection hk with hk;exact hk.symm));clear kg lI
  go_still_tail 8,(by kernel_rfl)
  change wpList _ _ _ _ _ wc.drew;go_upto_region 7 with(fail);have cN:=O nG.o.1;have js:=O nG.o.2;have mR:=(iw.o.aR (aU wc)).AW;have eC:=O (gD.o.drew.ch dZ.o (λe=>mR.fO gD.o.drew e.symm));have bH:=O (gN.o.drew.ch dZ.o (λe=>mR.fO gN.o.drew e.symm));have iC:=O (kH.o.drew.ch dZ.o (λe=>mR.fO kH.o.drew e.symm));clear b6 b1 b2 lg mR q1 q2 ql;have d2:(x.aS==aS)=false:=by rw[beq_eq_false_iff_ne];have:=uL.o;omega
  have d3:decide (x.aS=aS)=false:=decide_eq_false (by have:=uL.o;omega);clear l0 ll;have l0:=iC.o.c 0;have ll:=iC.o.lt;have q2:=eC.o.c 2;have ql:=eC.o.lt;have⟨y0,y1,y2,y3⟩:=eW bH.o;have yl:=bH.o.lt;have f0:=bH.o.frozen 0;have f1:=bH.o.frozen 1;have f2:=bH.o.frozen 2;have f3:=bH.o.frozen 3;go_wp2_with fail;change bodyPost _ _ _ _ _ (cI w5 (qb+1) cL);have HY:=O (bU bH.o cL);have cK:=O (bX w5 (qb+1) cL);generalize cI w5 (qb+1) cL=wE at *;have⟨g0,g1,g2,g3⟩:=eW HY.o;have gO:=O (cN.o.bw bH.o cy);refine aE (v:=dU cL) (by simp[results,results112,go_sem,g0,g1,g2,g3]) rfl ⟨rfl,a,(cN.o.ch cK.o (λg hg e=>by subst e;exact gO.o hg)).mono (by omega),?_⟩;have hq:=dp.o;exact((Sub.bj _ (HN.o.t (j4.o.t (aU _)))).trans js.o).tail cK.o (λk hk=>by omega)
end
section
variable{w w':aw}{sb aZ m:Nat}{K:ByteArray}{s:dm}{a:ia}{c:bQ}
theorem uM{wl w5:aw}(h:dH wl sb K aZ s a){tx:Int}(hm:cT w5 a.bR aZ mK (cQ (λt=>(s.br t).map λx=>gH x (a.W t)) tx U))(hC:Ch (λk=>k=a.bR) wl.drew w5):
 dH w5 sb K aZ {s with br:=cQ s.br tx U} (a.rh tx Hh)/\Sub (a.F sb) ((a.rh tx Hh).F sb) wl.drew w5:=by
 have hd:=h.aR (aU wl);refine hd.yX (kG.del hd.gp tx hm hC) ⟨hC.mono (λk hk=>.inl hk),λg hg=>?_⟩ (λt y hy=>?_) (aN _)
 ·rcases hg with e|⟨t,e⟩
  ·exact .inl (.inl e)
  ·refine .inl (.inr ⟨t,?_⟩);dsimp only at e;split at e
   ·cases e
   ·exact e
 ·by_cases e:t=tx
  ·subst e;rw[bD]at hy;cases hy
  ·rw[bP _ _ e]at hy;exact h.dR.lk t y hy
theorem FM(l:List Int)(o:Int):l.filter (λx=> !decide (x=o))=l.filter (· ≠o):=by
 congr 1
 funext x
 simp
theorem Bg(h:dH w sb K aZ s a)(hc:eN c)(hk:c.kind=7)(cp:aZ<1000000){x:cG}(hl:s.br c.tx=G x)(iO:gM s c.tx c.aS=false)(oY:x.aS=c.aS)(mr:c.yes=false\/x.wr=U):
 ax av 112 #[X (G ⟨sb,0,U⟩),cn c] w (jQ w sb K (aZ+2) a (oL s c x,cL)):=by
 have h1:=hc.tx;obtain⟨kd,tx,aS,st,op,key,val,mode,yes⟩:=c;dsimp only at *;subst hk;have Af:=O (show oL s ⟨7,tx,aS,st,op,key,val,mode,yes⟩ x={s with own:=s.own.filter (· ≠tx),br:=cQ s.br tx U,cr:=cQ s.cr tx (G aS)}from by
  unfold oL;rw[FM];rcases mr with e|e
  ·rw[e];simp
  ·rw[e];simp)
 have tJ:=O mr;clear mr;obtain⟨WA,WC,hW⟩:=bz (show w.ownsRow 0 203 3 (a.W tx) (ft x.wr) (qG K x.wr)from by have:=h.gp.row tx;rw[hl]at this;exact this);have HM:=O h;have de:=h.aW.lt;have jA:=O (λw' (hN:M w w')=>(show w'.cell? ⟨sb,5,U⟩=G (.map (G a.bR))/\(Instr.lookup 115 (.map (G a.bR)) (I J tx) true).run av w'= .ok (aB #[aC #[I J x.aS,I J x.last.kind,I J x.last.tx,I J x.last.aS,I J x.last.aY,I J x.last.op,V x.last.key,V x.last.val,I J x.last.mode,Y x.last.yes,T WA (ft x.wr) WC],Y true]) w' from by
  refine⟨(h.aR hN).cells.2.2.2.2.2.1,?_⟩;have:=cT.eT (h.aR hN).gp h1;rw[hl,hW]at this;exact this))
 have xg:=O cp;have uL:=O oY;clear oY;clear h hl hc;go_enter func112,ntmps112;go_upto_region 1 with(fail);obtain⟨wz,bV⟩:=bG ((w.alloc (az #[I J 7,I J tx,I J aS,I J st,I J op,V key,V val,I J mode,Y yes] 60)).alloc (az #[I J 0,I J 0,V ⟨#[]⟩,Y false] 66));have HN:=(fZ bV).1;have HQ:=O (show aX wz w.heap.size 60 (bN ⟨7,tx,aS,st,op,key,val,mode,yes⟩)from bV▸(aX.new w 60 _).alloc _);have HR:=(fZ bV).2;have fY:wz.heap.size=w.heap.size+1+1:=by rw[<-bV];simp
 obtain⟨qb,bE⟩:=bG (w.heap.size);rw[bE]at HQ HR de fY
 try rw[bV]
 try simp only[bE]
 have dp:=O bE;have HS:=O (λw' (hN:M wz w')=>(show w'.cell? ⟨sb,5,U⟩=G (.map (G a.bR))/\(Instr.lookup 115 (.map (G a.bR)) (I J tx) true).run av w'= .ok (aB #[aC #[I J x.aS,I J x.last.kind,I J x.last.tx,I J x.last.aS,I J x.last.aY,I J x.last.op,V x.last.key,V x.last.val,I J x.last.mode,Y x.last.yes,T WA (ft x.wr) WC],Y true]) w'/\w'.cell? ⟨qb,1,U⟩=G (I J tx)from
  ⟨(jA.o w' (HN.o.t hN)).1,(jA.o w' (HN.o.t hN)).2,(HQ.o.ch hN (λh=>h)).c 1⟩))
 have ku:=O fY;clear bV bE fY
 go_cut[5,6] (λv v2 wq=>v=X (G ⟨qb+1+1,0,U⟩)/\v2=Y true/\M wz wq/\aX wq (qb+1+1) 200 #[I J x.aS,I J x.last.kind,I J x.last.tx,I J x.last.aS,I J x.last.aY,I J x.last.op,V x.last.key,V x.last.val,I J x.last.mode,Y x.last.yes,T WA (ft x.wr) WC])
 case first=>
  go_region_held3(λw'=>w'.cell? ⟨sb,5,U⟩=G (.map (G a.bR))/\(Instr.lookup 115 (.map (G a.bR)) (I J tx) true).run av w'= .ok (aB #[aC #[I J x.aS,I J x.last.kind,I J x.last.tx,I J x.last.aS,I J x.last.aY,I J x.last.op,V x.last.key,V x.last.val,I J x.last.mode,Y x.last.yes,T WA (ft x.wr) WC],Y true]) w'/\w'.cell? ⟨qb,1,U⟩=G (I J tx))
   (first|exact HS.o _ (aU wz)|exact HS.o _ ((aU wz).alloc _))
   (fail)
  all_goals
   go_wp2_with fail;go_meet;refine⟨by rw[ku.o],rfl,((Ch.r _ wz).alloc _).drew,?_⟩;rw[<-ku.o];exact(aX.new wz 200 _).drew
 case rest=>
  obtain⟨rfl,rfl,fw,mn⟩:=hcut;have j4:=O fw;have gD:=O (HQ.o.ch fw (λh=>h));have gN:=O (HR.o.ch fw (λh=>h));have kH:=O mn;have iw:=O (HM.o.aR (HN.o.t fw));clear fw mn;have tj:=O (show ax av 178 #[X (G ⟨sb,0,U⟩),I J tx,I J aS] wc (λe eZ=>e=ay (Y false)/\wc=eZ)from by
   have:=jl iw.o h1 aS;rw[iO]at this;exact this)
  clear iO;have q1:=gD.o.c 1;have q2:=gD.o.c 2;have ql:=gD.o.lt;have cN:=iw;have bH:=gN;have l0:=kH.o.c 0;have ll:=kH.o.lt;rw[uL.o]at l0;have d1:decide (aS<aS)=false:=by simp
  go_upto_region 6 with(go_at_call 178;refine tj.o.mono ?_;rintro e w3 ⟨rfl,rfl⟩);obtain⟨b6,b1,b2⟩:=FL iw.o.aW gD.o;obtain⟨w5,lg,lI,kg⟩:=cT.put ((iw.o.aR (aU wc)).AW) underlying116 (by have:=xg.o;omega) (x:=tx) (by omega) (by omega) (I J aS);have nG:=O (tR iw.o kg lI);have dZ:=O ((Ch.bF kg).mono (au:=λk=>k=a.mL) (λk hk=>by injection hk with hk;exact hk.symm));clear kg lI
  go_still_tail 8,(by kernel_rfl)
  change wpList _ _ _ _ _ wc.drew;go_upto_region 7 with(fail);have cN:=O nG.o.1;have js:=O nG.o.2;have mR:=(iw.o.aR (aU wc)).AW;have eC:=O (gD.o.drew.ch dZ.o (λe=>mR.fO gD.o.drew e.symm));have bH:=O (gN.o.drew.ch dZ.o (λe=>mR.fO gN.o.drew e.symm));have iC:=O (kH.o.drew.ch dZ.o (λe=>mR.fO kH.o.drew e.symm));clear b6 b1 b2 lg mR q1 q2 ql;have d2:(aS==aS)=true:=by simp
  have d4:(aS !=aS)=false:=by simp
  clear l0 ll;have l0:=iC.o.c 0;rw[uL.o]at l0;have ll:=iC.o.lt;have q2:=eC.o.c 2;have q8:=eC.o.c 8;have ql:=eC.o.lt;have l10:=iC.o.c 10;have qc4:=O (show yes=false\/(ft x.wr)=0 from tJ.o.imp id (λe=>by rw[e];rfl));generalize ft x.wr=wn at *;have tq:=cN;have OH:=eC;have OI:=bH;have pv:=O (show Sub (a.F sb) (a.F sb) w w5 from((Sub.bj _ (HN.o.t (j4.o.t (aU _)))).trans js.o));cases yes with
  |false=>
   go_upto_region 16 with(fail);obtain⟨b3,b5,b1,_⟩:=jm tq.o.aW OH.o;have JN:=O (oP (tq.o.wD.aR (aU w5)) tq.o.dR.nd tx)
   go_still_tail 6,(by kernel_rfl)
   change wpList _ _ _ _ _ w5.drew;go_wp2_with fail;refine JN.o.mono ?_;rintro e w6 ⟨SA,sn,sc,F6,rfl,_,_,FA,kK⟩;dsimp only;have h6:=(tq.o.aR (aU w5)).pY (m:=aZ+1) FA kK (λt ht=>tq.o.dR.ok t (List.mem_filter.1 ht).1) (tq.o.dR.nd.sublist List.filter_sublist) (aN _);have qH:=O h6.1;have Fi:=O h6.2;have dL:=tq.o.bw OI.o cy;have Lw:=tq.o.bw OH.o mN;have Bd:=O (OI.o.drew.ch h6.2.ch dL);have Uq:=O (OH.o.drew.ch h6.2.ch Lw);clear h6 FA kK dL Lw b3 b1 b5 JN;go_upto_region 17 with(fail);obtain⟨b3,b5,b1,_⟩:=jm qH.o.aW Uq.o;obtain⟨w8,kX,qF,CL⟩:=cT.del ((qH.o.aR (aU w6)).gp.map) underlying115 (x:=tx) (by omega) (by omega) 0;have sH:=O (uM qH.o qF CL);have wH:=(qH.o.aR (aU w6)).gp.map;have bH:=O (Bd.o.drew.ch CL (λe=>wH.fO Bd.o.drew e.symm));have cN:=O sH.o.1;clear qF CL wH
   go_still_tail 6,(by kernel_rfl)
   change wpList _ _ _ _ _ w6.drew;go_upto_region 18 with(fail);clear b3 b5 b1 kX;clear q2 q8 ql l0 l10 ll;have⟨y0,y1,y2,y3⟩:=eW bH.o;have yl:=bH.o.lt;have f0:=bH.o.frozen 0;have f1:=bH.o.frozen 1;have f2:=bH.o.frozen 2;have f3:=bH.o.frozen 3;go_wp2_with fail;change bodyPost _ _ _ _ _ (cI w8 (qb+1) cL);have HY:=O (bU bH.o cL);have cK:=O (bX w8 (qb+1) cL);generalize cI w8 (qb+1) cL=wE at *;have⟨g0,g1,g2,g3⟩:=eW HY.o;have gO:=O (cN.o.bw bH.o cy);rw[Af.o];refine aE (v:=dU cL) (by simp[results,results112,go_sem,g0,g1,g2,g3]) rfl ⟨rfl,_,(cN.o.ch cK.o (λg hg e=>by subst e;exact gO.o hg)).mono (by omega),?_⟩;have hq:=dp.o;exact((pv.o.trans ((Sub.bj _ (aU _)).trans Fi.o)).trans ((Sub.bj _ (aU _)).trans sH.o.2)).tail cK.o (λk hk=>by omega)
  |true=>
   obtain rfl:wn=0:=by
    rcases qc4.o with e|e
    ·cases e
    ·exact e
   go_upto_region 16 with(fail);obtain⟨b3,b5,b1,_⟩:=jm tq.o.aW OH.o;have JN:=O (oP (tq.o.wD.aR (aU w5)) tq.o.dR.nd tx)
   go_still_tail 6,(by kernel_rfl)
   change wpList _ _ _ _ _ w5.drew;go_wp2_with fail;refine JN.o.mono ?_;rintro e w6 ⟨SA,sn,sc,F6,rfl,_,_,FA,kK⟩;dsimp only;have h6:=(tq.o.aR (aU w5)).pY (m:=aZ+1) FA kK (λt ht=>tq.o.dR.ok t (List.mem_filter.1 ht).1) (tq.o.dR.nd.sublist List.filter_sublist) (aN _);have qH:=O h6.1;have Fi:=O h6.2;have dL:=tq.o.bw OI.o cy;have Lw:=tq.o.bw OH.o mN;have Bd:=O (OI.o.drew.ch h6.2.ch dL);have Uq:=O (OH.o.drew.ch h6.2.ch Lw);clear h6 FA kK dL Lw b3 b1 b5 JN;go_upto_region 17 with(fail);obtain⟨b3,b5,b1,_⟩:=jm qH.o.aW Uq.o;obtain⟨w8,kX,qF,CL⟩:=cT.del ((qH.o.aR (aU w6)).gp.map) underlying115 (x:=tx) (by omega) (by omega) 0;have sH:=O (uM qH.o qF CL);have wH:=(qH.o.aR (aU w6)).gp.map;have bH:=O (Bd.o.drew.ch CL (λe=>wH.fO Bd.o.drew e.symm));have cN:=O sH.o.1;clear qF CL wH
   go_still_tail 6,(by kernel_rfl)
   change wpList _ _ _ _ _ w6.drew;go_upto_region 18 with(fail);clear b3 b5 b1 kX;clear q2 q8 ql l0 l10 ll;have⟨y0,y1,y2,y3⟩:=eW bH.o;have yl:=bH.o.lt;have f0:=bH.o.frozen 0;have f1:=bH.o.frozen 1;have f2:=bH.o.frozen 2;have f3:=bH.o.frozen 3;go_wp2_with fail;change bodyPost _ _ _ _ _ (cI w8 (qb+1) cL);have HY:=O (bU bH.o cL);have cK:=O (bX w8 (qb+1) cL);generalize cI w8 (qb+1) cL=wE at *;have⟨g0,g1,g2,g3⟩:=eW HY.o;have gO:=O (cN.o.bw bH.o cy);rw[Af.o];refine aE (v:=dU cL) (by simp[results,results112,go_sem,g0,g1,g2,g3]) rfl ⟨rfl,_,(cN.o.ch cK.o (λg hg e=>by subst e;exact gO.o hg)).mono (by omega),?_⟩;have hq:=dp.o;exact((pv.o.trans ((Sub.bj _ (aU _)).trans Fi.o)).trans ((Sub.bj _ (aU _)).trans sH.o.2)).tail cK.o (λk hk=>by omega)
end
section
variable{w w':aw}{sb aZ m:Nat}{K:ByteArray}{s:dm}{a:ia}{c:bQ}
def Ut(w:aw)(sb qb m:Nat)(K:ByteArray)(s:dm)(a:ia)(v:ByteArray)(c:bQ)(i:Value)(wr:aw):Prop:=
 (i=I J 0/\dH wr sb K m s a/\Sub (a.F sb) (a.F sb) w wr/\aX wr qb 60 (bN c)/\aX wr (qb+1) 66 #[I J 0,I J 0,V ⟨#[]⟩,Y false])\/
 (i=I J 1/\∃a1,dH wr sb K (m+1) {s with cur:=G v} a1/\Sub (a.F sb) (a1.F sb) w wr/\aX wr qb 60 (bN c)/\aX wr (qb+1) 66 #[I J 0,I J 0,V ⟨#[]⟩,Y false])
theorem Hs(h:dH w sb K aZ s a)(hc:eN c)(hk:c.kind=7)(cp:aZ<1000000){v:ByteArray}{x:cG}(hl:s.br c.tx=G x)(iO:gM s c.tx c.aS=false)(oY:x.aS=c.aS)(wG:c.yes=true)(hw:x.wr=G v)(hv:v.size<=32):
 ax av 112 #[X (G ⟨sb,0,U⟩),cn c] w (jQ w sb K (aZ+2) a (oL s c x,cL)):=by
 have h1:=hc.tx;obtain⟨kd,tx,aS,st,op,key,val,mode,yes⟩:=c;dsimp only at *;subst hk wG;have Af:=O (show oL s ⟨7,tx,aS,st,op,key,val,mode,true⟩ x={s with dw:=min (s.dw+1) 1099511627776,cur:=G v,own:=s.own.filter (· ≠tx),br:=cQ s.br tx U,cr:=cQ s.cr tx (G aS)}from by
  unfold oL;rw[FM,hw];simp)
 have HW:=O hw;have HVV:=O hv;clear hw hv;obtain⟨WA,WC,hW⟩:=bz (show w.ownsRow 0 203 3 (a.W tx) (ft x.wr) (qG K x.wr)from by have:=h.gp.row tx;rw[hl]at this;exact this);have HM:=O h;have de:=h.aW.lt;have CW:=O hl;have jA:=O (λw' (hN:M w w')=>(show w'.cell? ⟨sb,5,U⟩=G (.map (G a.bR))/\(Instr.lookup 115 (.map (G a.bR)) (I J tx) true).run av w'= .ok (aB #[aC #[I J x.aS,I J x.last.kind,I J x.last.tx,I J x.last.aS,I J x.last.aY,I J x.last.op,V x.last.key,V x.last.val,I J x.last.mode,Y x.last.yes,T WA (ft x.wr) WC],Y true]) w' from by
  refine⟨(h.aR hN).cells.2.2.2.2.2.1,?_⟩;have:=cT.eT (h.aR hN).gp h1;rw[hl,hW]at this;exact this))
 have xg:=O cp;have Fy:=O hW;have uL:=O oY;clear oY;clear h hl hc;go_enter func112,ntmps112;go_upto_region 1 with(fail);obtain⟨wz,bV⟩:=bG ((w.alloc (az #[I J 7,I J tx,I J aS,I J st,I J op,V key,V val,I J mode,Y true] 60)).alloc (az #[I J 0,I J 0,V ⟨#[]⟩,Y false] 66));have HN:=(fZ bV).1;have HQ:=O (show aX wz w.heap.size 60 (bN ⟨7,tx,aS,st,op,key,val,mode,true⟩)from bV▸(aX.new w 60 _).alloc _);have HR:=(fZ bV).2;have fY:wz.heap.size=w.heap.size+1+1:=by rw[<-bV];simp
 obtain⟨qb,bE⟩:=bG (w.heap.size);rw[bE]at HQ HR de fY
 try rw[bV]
 try simp only[bE]
 have dp:=O bE;have HS:=O (λw' (hN:M wz w')=>(show w'.cell? ⟨sb,5,U⟩=G (.map (G a.bR))/\(Instr.lookup 115 (.map (G a.bR)) (I J tx) true).run av w'= .ok (aB #[aC #[I J x.aS,I J x.last.kind,I J x.last.tx,I J x.last.aS,I J x.last.aY,I J x.last.op,V x.last.key,V x.last.val,I J x.last.mode,Y x.last.yes,T WA (ft x.wr) WC],Y true]) w'/\w'.cell? ⟨qb,1,U⟩=G (I J tx)from
  ⟨(jA.o w' (HN.o.t hN)).1,(jA.o w' (HN.o.t hN)).2,(HQ.o.ch hN (λh=>h)).c 1⟩))
 have ku:=O fY;clear bV bE fY
 go_cut[5,6] (λv v2 wq=>v=X (G ⟨qb+1+1,0,U⟩)/\v2=Y true/\M wz wq/\aX wq (qb+1+1) 200 #[I J x.aS,I J x.last.kind,I J x.last.tx,I J x.last.aS,I J x.last.aY,I J x.last.op,V x.last.key,V x.last.val,I J x.last.mode,Y x.last.yes,T WA (ft x.wr) WC])
 case first=>
  go_region_held3(λw'=>w'.cell? ⟨sb,5,U⟩=G (.map (G a.bR))/\(Instr.lookup 115 (.map (G a.bR)) (I J tx) true).run av w'= .ok (aB #[aC #[I J x.aS,I J x.last.kind,I J x.last.tx,I J x.last.aS,I J x.last.aY,I J x.last.op,V x.last.key,V x.last.val,I J x.last.mode,Y x.last.yes,T WA (ft x.wr) WC],Y true]) w'/\w'.cell? ⟨qb,1,U⟩=G (I J tx))
   (first|exact HS.o _ (aU wz)|exact HS.o _ ((aU wz).alloc _))
   (fail)
  all_goals
   go_wp2_with fail;go_meet;refine⟨by rw[ku.o],rfl,((Ch.r _ wz).alloc _).drew,?_⟩;rw[<-ku.o];exact(aX.new wz 200 _).drew
 case rest=>
  obtain⟨rfl,rfl,fw,mn⟩:=hcut;have j4:=O fw;have gD:=O (HQ.o.ch fw (λh=>h));have gN:=O (HR.o.ch fw (λh=>h));have kH:=O mn;have iw:=O (HM.o.aR (HN.o.t fw));clear fw mn;have tj:=O (show ax av 178 #[X (G ⟨sb,0,U⟩),I J tx,I J aS] wc (λe eZ=>e=ay (Y false)/\wc=eZ)from by
   have:=jl iw.o h1 aS;rw[iO]at this;exact this)
  clear iO;have q1:=gD.o.c 1;have q2:=gD.o.c 2;have ql:=gD.o.lt;have cN:=iw;have bH:=gN;have l0:=kH.o.c 0;have ll:=kH.o.lt;rw[uL.o]at l0;have d1:decide (aS<aS)=false:=by simp
  go_upto_region 6 with(go_at_call 178;refine tj.o.mono ?_;rintro e w3 ⟨rfl,rfl⟩);obtain⟨b6,b1,b2⟩:=FL iw.o.aW gD.o;obtain⟨w5,lg,lI,kg⟩:=cT.put ((iw.o.aR (aU wc)).AW) underlying116 (by have:=xg.o;omega) (x:=tx) (by omega) (by omega) (I J aS);have nG:=O (tR iw.o kg lI);have dZ:=O ((Ch.bF kg).mono (au:=λk=>k=a.mL) (λk hk=>by injection hk with hk;exact hk.symm));clear kg lI
  go_still_tail 8,(by kernel_rfl)
  change wpList _ _ _ _ _ wc.drew;go_upto_region 7 with(fail);have cN:=O nG.o.1;have js:=O nG.o.2;have mR:=(iw.o.aR (aU wc)).AW;have eC:=O (gD.o.drew.ch dZ.o (λe=>mR.fO gD.o.drew e.symm));have bH:=O (gN.o.drew.ch dZ.o (λe=>mR.fO gN.o.drew e.symm));have iC:=O (kH.o.drew.ch dZ.o (λe=>mR.fO kH.o.drew e.symm));clear b6 b1 b2 lg mR q1 q2 ql;have d2:(aS==aS)=true:=by simp
  have d4:(aS !=aS)=false:=by simp
  clear l0 ll;have l0:=iC.o.c 0;rw[uL.o]at l0;have ll:=iC.o.lt;have q2:=eC.o.c 2;have q8:=eC.o.c 8;have ql:=eC.o.lt;have l10:w5.cell? ⟨qb+1+1,10,U⟩=G (T WA 1 WC):=by have:=iC.o.c 10;rw[HW.o]at this;exact this
  obtain⟨_,m1,_⟩:=cN.o.cells;have sl:=cN.o.aW.lt;have sf:=cN.o.aW.frozen 1;have ZV:=cN.o.dR.m0;have ZW:=cN.o.dR.m1;have pv:=O (show Sub (a.F sb) (a.F sb) w w5 from((Sub.bj _ (HN.o.t (j4.o.t (aU _)))).trans js.o));dsimp only at m1 ZV ZW;go_upto_region 11 with(fail);obtain⟨MM,FN⟩:=bG (min (s.dw+1) 1099511627776);rw[FN];rw[FN]at Af;have XQ:=O (cN.o.Fw (w':=w5.setCell ⟨sb,1,U⟩ (I J MM)) s.clock MM (bu (cN.o.aW.bm 1 (I J MM)) (by simp[SD])) ((Ch.r (λg=>g=sb) w5).setCell (p:=⟨sb,1,U⟩) (.inl rfl) _) cN.o.dR.c0 cN.o.dR.c1 (by rw[<-FN];dsimp only;omega) (by rw[<-FN];omega));have We:=O (show 0<MM/\MM<=1099511627776 from by rw[<-FN];omega);have Uu:Ch (λg=>g=sb) w5 (w5.setCell ⟨sb,1,U⟩ (I J MM)):=(Ch.r (λg=>g=sb) w5).setCell (p:=⟨sb,1,U⟩) (.inl rfl) _;have HQ9:=O (eC.o.ch Uu (λe=>aX.lF eC.o cN.o.aW (by decide) e));have FE:=O (bH.o.ch Uu (λe=>aX.lF bH.o cN.o.aW (by decide) e));have HL9:=O (iC.o.ch Uu (λe=>aX.lF iC.o cN.o.aW (by decide) e));clear Uu l0 ll q2 q8 ql l10 m1 sl sf ZV ZW FN d2 d4;generalize w5.setCell ⟨sb,1,U⟩ (I J MM)=w9 at *;have HS9:=O (pv.o.trans XQ.o.2);have l10:w9.cell? ⟨qb+1+1,10,U⟩=G (T WA 1 WC):=by have:=HL9.o.c 10;rw[HW.o]at this;exact this
  have ll:=HL9.o.lt;have HF0:=O (show Ut w sb qb (aZ+1) K {s with dw:=MM,cr:=cQ s.cr tx (G aS)} a v ⟨7,tx,aS,st,op,key,val,mode,true⟩ (I J 0) w9 from .inl ⟨rfl,XQ.o.1,HS9.o,HQ9.o,FE.o⟩);go_wp2_with fail
  go_loopw[75] (λi wr=>Ut w sb qb (aZ+1) K {s with dw:=MM,cr:=cQ s.cr tx (G aS)} a v ⟨7,tx,aS,st,op,key,val,mode,true⟩ i wr) (λi _=>1- (intOf i).toNat)
  case atStart=>exact HF0.o
  case round=>
   rcases hrel with⟨rfl,hM,hS,hQ,hR⟩|⟨rfl,aT,hM,hS,hQ,hR⟩
   ·have Wf:=O hM;have HSr:=O hS;have HQr:=O hQ;have HRr:=O hR;obtain⟨wb,wo,rfl,wlt,x0,x1,x2⟩:=FH (show Rd wr WA (qG K (G v))from by
     have:=hM.gp.row tx;dsimp only at this;rw[CW.o,Fy.o]at this;dsimp only at this;rw[HW.o]at this;exact Rd.own this)
    clear hM hS hQ hR l10 ll;go_upto_region 14 with(fail);have TQ:=O (nH wr K v);have HBb:=O (rB wr K v);change Code.wp _ _ _ _ (mP wr K v);generalize mP wr K v=wN at *;obtain⟨nb,SJ⟩:=bG (wr.heap.size);rw[SJ]at HBb
    try simp only[SJ]
    have Wg:=O (Wf.o.aR TQ.o);have HQb:=O (HQr.o.ch TQ.o (λh=>h));have HRb:=O (HRr.o.ch TQ.o (λh=>h));clear SJ x0 x1 x2 wlt;obtain⟨_,m1,m2,_⟩:=Wg.o.cells;have⟨b0,b1,b2⟩:=O3 HBb.o;have bl:=HBb.o.lt;obtain⟨D,cs,hc,hr⟩:=(Wg.o.aR (aU wN)).KV;have HR_:=O hr;have HPU:=O (Cells.nA hc (Nat.zero_le _) (by have:=xg.o;omega) K v true MM (by have:=hr.fx;have:=xg.o;omega));clear hc hr;dsimp only at m1
    go_still_tail 14,(by kernel_rfl)
    change wpList _ _ _ _ _ wN.drew;go_wp2_with fail;refine HPU.o.mono ?_;rintro e w2 ⟨rfl,D',V',hCM,hCh,hV⟩;dsimp only;have XR:=P8 HR_.o We.o.1 We.o.2 HVV.o Wg.o.key;have XS:=(Wg.o.aR (aU wN)).PT hCM ⟨hCh,λg hg=>by
     rcases hg with e|e|⟨k,e⟩
     ·exact .inl (.inl e)
     ·exact .inl (.inr (.inl e))
     ·rcases hV k g e with h1|h1
      ·exact .inl (.inr (.inr h1))
      ·exact .inr h1⟩ XR (Nat.le_succ _)
    have dL:=Wg.o.bw HRb.o cy;have Lw:=Wg.o.bw HQb.o mN;have K6:=O (show Ut w sb qb (aZ+1) K {s with dw:=MM,cr:=cQ s.cr tx (G aS)} a v ⟨7,tx,aS,st,op,key,val,mode,true⟩ (I J 1) w2 from
     .inr ⟨rfl,_,XS.1,(HSr.o.trans (Sub.bj _ (TQ.o.t (aU wN)))).trans XS.2,HQb.o.drew.ch XS.2.ch Lw,HRb.o.drew.ch XS.2.ch dL⟩)
    clear hCM hCh hV XR XS dL Lw HPU m1 m2 b0 b1 b2 bl;go_wp2_with fail;exact⟨K6.o,by simp[intOf]⟩
   ·have tq:=O hM;have pv:=O hS;have OH:=O hQ;have OI:=O hR;clear hM hS hQ hR l10 ll;go_upto_region 16 with(fail);obtain⟨b3,b5,b1,_⟩:=jm tq.o.aW OH.o;have JN:=O (oP (tq.o.wD.aR (aU wr)) tq.o.dR.nd tx)
    go_still_tail 6,(by kernel_rfl)
    change wpList _ _ _ _ _ wr.drew;go_wp2_with fail;refine JN.o.mono ?_;rintro e w6 ⟨SA,sn,sc,F6,rfl,_,_,FA,kK⟩;dsimp only;have h6:=(tq.o.aR (aU wr)).pY (m:=aZ+2) FA kK (λt ht=>tq.o.dR.ok t (List.mem_filter.1 ht).1) (tq.o.dR.nd.sublist List.filter_sublist) (aN _);have qH:=O h6.1;have Fi:=O h6.2;have dL:=tq.o.bw OI.o cy;have Lw:=tq.o.bw OH.o mN;have Bd:=O (OI.o.drew.ch h6.2.ch dL);have Uq:=O (OH.o.drew.ch h6.2.ch Lw);clear h6 FA kK dL Lw b3 b1 b5 JN;go_upto_region 17 with(fail);obtain⟨b3,b5,b1,_⟩:=jm qH.o.aW Uq.o;obtain⟨w8,kX,qF,CL⟩:=cT.del ((qH.o.aR (aU w6)).gp.map) underlying115 (x:=tx) (by omega) (by omega) 0;have sH:=O (uM qH.o qF CL);have wH:=(qH.o.aR (aU w6)).gp.map;have bH:=O (Bd.o.drew.ch CL (λe=>wH.fO Bd.o.drew e.symm));have cN:=O sH.o.1;clear qF CL wH
    go_still_tail 6,(by kernel_rfl)
    change wpList _ _ _ _ _ w6.drew;go_upto_region 18 with(fail);clear b3 b5 b1 kX;have⟨y0,y1,y2,y3⟩:=eW bH.o;have yl:=bH.o.lt;have f0:=bH.o.frozen 0;have f1:=bH.o.frozen 1;have f2:=bH.o.frozen 2;have f3:=bH.o.frozen 3;go_wp2_with fail;change bodyPost _ _ _ _ _ (cI w8 (qb+1) cL);have HY:=O (bU bH.o cL);have cK:=O (bX w8 (qb+1) cL);generalize cI w8 (qb+1) cL=wE at *;have⟨g0,g1,g2,g3⟩:=eW HY.o;have gO:=O (cN.o.bw bH.o cy);rw[Af.o];refine aE (v:=dU cL) (by simp[results,results112,go_sem,g0,g1,g2,g3]) rfl ⟨rfl,_,(cN.o.ch cK.o (λg hg e=>by subst e;exact gO.o hg)).mono (by omega),?_⟩;have hq:=dp.o;exact((pv.o.trans ((Sub.bj _ (aU _)).trans Fi.o)).trans ((Sub.bj _ (aU _)).trans sH.o.2)).tail cK.o (λk hk=>by omega)
  end
section
variable{w w':aw}{sb aZ m:Nat}{K:ByteArray}{s:dm}{a:ia}{c:bQ}{R:dm×dh}
theorem jQ.mono{e:Ending}(h:jQ w sb K aZ a R e w')(hm:aZ<=m):jQ w sb K m a R e w':=by
 obtain⟨h1,a',h2,h3⟩:=h;exact⟨h1,a',h2.mono hm,h3⟩
theorem Lx(h:dH w sb K aZ s a)(hc:eN c)(hk:c.kind=2)(fT:c.key=K)(cp:aZ<1000000):ax av 115 #[X (G ⟨sb,0,U⟩),cn c] w (jQ w sb K (aZ+1) a (kQ s c)):=by
 cases hl:s.br c.tx with
 |none=>exact Hl h hc hk fT (by omega) hl
 |some x=>exact Hm h hc hk fT (by omega) hl
theorem tL(h:dH w sb K aZ s a)(hc:eN c)(hk:c.kind=3)(fT:c.key=K)(cp:aZ<1000000):ax av 116 #[X (G ⟨sb,0,U⟩),cn c] w (jQ w sb K (aZ+1) a (mg s c)):=by
 cases hl:s.br c.tx with
 |none=>
  have e:mg s c=(s,cF 8):=by unfold mg;rw[hl]
  rw[e];exact get_none h hc hk fT cp hl
 |some x=>
  cases hh:im s.own c.tx with
  |false=>
   have e:mg s c=(s,cF 8):=by unfold mg;rw[hl];dsimp only;rw[hh];rfl
   rw[e];exact P4 h hc hk fT cp hl hh
  |true=>
   have e:mg s c=({s with br:=cQ s.br c.tx (G ⟨x.aS,c,x.wr⟩)},match x.wr with|some v=>⟨0,0,v,true⟩|none=>⟨0,0,eP s.cur,fB s.cur⟩):=by unfold mg;rw[hl];dsimp only;rw[hh];rfl
   rw[e];exact Up h hc hk fT cp hl hh rfl
theorem Lz(h:dH w sb K aZ s a)(hc:eN c)(hk:c.kind=4)(fT:c.key=K)(wG:c.yes=true)(cp:aZ<1000000):ax av 117 #[X (G ⟨sb,0,U⟩),cn c] w (jQ w sb K (aZ+1) a (gY s c)):=by
 cases hl:s.br c.tx with
 |none=>
  have e:gY s c=(s,cF 8):=by unfold gY;rw[hl]
  rw[e];exact Ls h hc hk fT cp hl
 |some x=>
  cases hh:im s.own c.tx with
  |false=>
   have e:gY s c=(s,cF 8):=by unfold gY;rw[hl];dsimp only;rw[hh];rfl
   rw[e];exact P5 h hc hk fT cp hl hh
  |true=>
   have e:gY s c=({s with br:=cQ s.br c.tx (G ⟨x.aS,c,G c.val⟩)},cL):=by unfold gY;rw[hl];dsimp only;rw[hh];rfl
   rw[e];exact Ur h hc hk fT cp hl hh wG
theorem DO(h:dH w sb K aZ s a)(hc:eN c)(hk:c.kind=7)(hv: ∀x v,s.br c.tx=G x->x.wr=G v->v.size<=32)(cp:aZ<1000000):ax av 112 #[X (G ⟨sb,0,U⟩),cn c] w (jQ w sb K (aZ+2) a (en s c)):=by
 cases iO:gM s c.tx c.aS with
 |true=>
  have e:en s c=(s,cL):=by unfold en;rw[iO];rfl
  rw[e];cases hl:s.br c.tx with
  |none=>exact Hq h hc hk cp hl iO
  |some x=>exact Hr h hc hk cp hl iO
 |false=>
  cases hl:s.br c.tx with
  |none=>
   have e:en s c=({s with cr:=cQ s.cr c.tx (G c.aS)},cL):=by unfold en;rw[iO,hl];rfl
   rw[e];exact Lv h hc hk cp hl iO
  |some x=>
   by_cases h1:x.aS<c.aS
   ·have e:en s c=(s,cF 8):=by unfold en;rw[iO,hl];simp[h1]
    rw[e];exact P9 h hc hk cp hl iO h1
   ·by_cases h2:x.aS=c.aS
    ·have e:en s c=(oL s c x,cL):=by unfold en;rw[iO,hl];simp[h2]
     rw[e];cases hy:c.yes with
     |false=>exact Bg h hc hk cp hl iO h2 (.inl hy)
     |true=>
      cases hw:x.wr with
      |none=>exact Bg h hc hk cp hl iO h2 (.inr hw)
      |some v=>exact Hs h hc hk cp hl iO h2 hy hw (hv x v hl hw)
    ·have e:en s c=({s with cr:=cQ s.cr c.tx (G c.aS)},cL):=by unfold en;rw[iO,hl];simp[h1,h2]
     rw[e];exact Qa h hc hk cp hl iO (by omega)
end
section
variable{w w':aw}{sb aZ m:Nat}{K:ByteArray}{s:dm}{a:ia}{c:bQ}
theorem qc5(h:dH w sb K aZ s a)(hc:eN c)(hk:c.kind=7)(hr:cR c=true){RR:dm×dh}(hd: ∀w',M w w'->ax av 112 #[X (G ⟨sb,0,U⟩),cn c] w' (jQ w' sb K (aZ+2) a RR)):ax av 70 #[X (G ⟨sb,0,U⟩),cn c] w (jQ w sb K (aZ+2) a RR):=by
 have lj:=O (λw'=>ea hc w');have HM:=O h;have de:=h.aW.lt;have HD:=O hd;clear hd;obtain⟨kd,tx,aS,st,op,key,val,mode,yes⟩:=c
 try dsimp only at *
 subst hk;rw[hr]at lj;clear h hc hr;go_enter func70,ntmps70;go_upto_region 1 with(fail);obtain⟨wz,bV⟩:=bG ((w.alloc (az #[I J 7,I J tx,I J aS,I J st,I J op,V key,V val,I J mode,Y yes] 60)).alloc (az #[I J 0,I J 0,V ⟨#[]⟩,Y false] 66));have HN:=(fZ bV).1;have HQ:=O (show aX wz w.heap.size 60 (bN ⟨7,tx,aS,st,op,key,val,mode,yes⟩)from bV▸(aX.new w 60 _).alloc _);have HR:=(fZ bV).2;obtain⟨qb,bE⟩:=bG (w.heap.size);rw[bE]at HQ HR de
 try rw[bV]
 try simp only[bE]
 have dp:=O bE;clear bV bE;have⟨q0,q1,q2,q3,q4,q5,q6,q7,q8⟩:=kq HQ.o;have ql:=HQ.o.lt;go_wp2_with fail;refine(lj.o _).mono ?_;rintro e w2 ⟨rfl,hN⟩;dsimp only;have bJ:=O (HN.o.t hN);have eC:=O (HQ.o.ch hN (λh=>h));have bH:=O (HR.o.ch hN (λh=>h));have cN:=O (HM.o.aR bJ.o);clear hN q0 q1 q2 q3 q4 q5 q6 q7 q8 ql;have⟨q0,q1,q2,q3,q4,q5,q6,q7,q8⟩:=kq eC.o;have ql:=eC.o.lt;go_wp2_with fail;refine(HD.o _ bJ.o).mono ?_;rintro e w6 ⟨rfl,a',uN,oZ⟩;dsimp only;have dL:=cN.o.bw bH.o cy;have bH:=O (bH.o.ch oZ.ch dL);have cN:=O uN;have lJ:=O oZ;obtain⟨RS,RP⟩:=RR;dsimp only at cN;clear dL uN oZ q0 q1 q2 q3 q4 q5 q6 q7 q8 ql;have⟨y0,y1,y2,y3⟩:=eW bH.o;have yl:=bH.o.lt;have f0:=bH.o.frozen 0;have f1:=bH.o.frozen 1;have f2:=bH.o.frozen 2;have f3:=bH.o.frozen 3;go_wp2_with fail;change bodyPost _ _ _ _ _ (cI w6 (qb+1) RP);have HY:=O (bU bH.o RP);have cK:=O (bX w6 (qb+1) RP);generalize cI w6 (qb+1) RP=wE at *;have⟨g0,g1,g2,g3⟩:=eW HY.o;have gO:=O (cN.o.bw bH.o cy);refine aE (v:=dU RP) (by simp[results,results70,go_sem,g0,g1,g2,g3]) rfl ⟨rfl,_,(cN.o.ch cK.o (λg hg e=>by subst e;exact gO.o hg)).mono (by omega),?_⟩;have hq:=dp.o;exact((Sub.bj _ bJ.o).trans lJ.o).tail cK.o (λk hk=>by omega)
theorem do_1(h:dH w sb K aZ s a)(hc:eN c)(hk:c.kind=1)(hr:cR c=true){RR:dm×dh}(hd: ∀w',M w w'->ax av 113 #[X (G ⟨sb,0,U⟩),cn c] w' (jQ w' sb K (aZ+2) a RR)):ax av 70 #[X (G ⟨sb,0,U⟩),cn c] w (jQ w sb K (aZ+2) a RR):=by
 have lj:=O (λw'=>ea hc w');have HM:=O h;have de:=h.aW.lt;have HD:=O hd;clear hd;obtain⟨kd,tx,aS,st,op,key,val,mode,yes⟩:=c
 try dsimp only at *
 subst hk;rw[hr]at lj;clear h hc hr;go_enter func70,ntmps70;go_upto_region 1 with(fail);obtain⟨wz,bV⟩:=bG ((w.alloc (az #[I J 1,I J tx,I J aS,I J st,I J op,V key,V val,I J mode,Y yes] 60)).alloc (az #[I J 0,I J 0,V ⟨#[]⟩,Y false] 66));have HN:=(fZ bV).1;have HQ:=O (show aX wz w.heap.size 60 (bN ⟨1,tx,aS,st,op,key,val,mode,yes⟩)from bV▸(aX.new w 60 _).alloc _);have HR:=(fZ bV).2;obtain⟨qb,bE⟩:=bG (w.heap.size);rw[bE]at HQ HR de
 try rw[bV]
 try simp only[bE]
 have dp:=O bE;clear bV bE;have⟨q0,q1,q2,q3,q4,q5,q6,q7,q8⟩:=kq HQ.o;have ql:=HQ.o.lt;go_wp2_with fail;refine(lj.o _).mono ?_;rintro e w2 ⟨rfl,hN⟩;dsimp only;have bJ:=O (HN.o.t hN);have eC:=O (HQ.o.ch hN (λh=>h));have bH:=O (HR.o.ch hN (λh=>h));have cN:=O (HM.o.aR bJ.o);clear hN q0 q1 q2 q3 q4 q5 q6 q7 q8 ql;have⟨q0,q1,q2,q3,q4,q5,q6,q7,q8⟩:=kq eC.o;have ql:=eC.o.lt;go_wp2_with fail;refine(HD.o _ bJ.o).mono ?_;rintro e w6 ⟨rfl,a',uN,oZ⟩;dsimp only;have dL:=cN.o.bw bH.o cy;have bH:=O (bH.o.ch oZ.ch dL);have cN:=O uN;have lJ:=O oZ;obtain⟨RS,RP⟩:=RR;dsimp only at cN;clear dL uN oZ q0 q1 q2 q3 q4 q5 q6 q7 q8 ql;have⟨y0,y1,y2,y3⟩:=eW bH.o;have yl:=bH.o.lt;have f0:=bH.o.frozen 0;have f1:=bH.o.frozen 1;have f2:=bH.o.frozen 2;have f3:=bH.o.frozen 3;go_wp2_with fail;change bodyPost _ _ _ _ _ (cI w6 (qb+1) RP);have HY:=O (bU bH.o RP);have cK:=O (bX w6 (qb+1) RP);generalize cI w6 (qb+1) RP=wE at *;have⟨g0,g1,g2,g3⟩:=eW HY.o;have gO:=O (cN.o.bw bH.o cy);refine aE (v:=dU RP) (by simp[results,results70,go_sem,g0,g1,g2,g3]) rfl ⟨rfl,_,(cN.o.ch cK.o (λg hg e=>by subst e;exact gO.o hg)).mono (by omega),?_⟩;have hq:=dp.o;exact((Sub.bj _ bJ.o).trans lJ.o).tail cK.o (λk hk=>by omega)
theorem qc6(h:dH w sb K aZ s a)(hc:eN c)(hk:c.kind=5)(hr:cR c=true){RR:dm×dh}(hd: ∀w',M w w'->ax av 113 #[X (G ⟨sb,0,U⟩),cn c] w' (jQ w' sb K (aZ+2) a RR)):ax av 70 #[X (G ⟨sb,0,U⟩),cn c] w (jQ w sb K (aZ+2) a RR):=by
 have lj:=O (λw'=>ea hc w');have HM:=O h;have de:=h.aW.lt;have HD:=O hd;clear hd;obtain⟨kd,tx,aS,st,op,key,val,mode,yes⟩:=c
 try dsimp only at *
 subst hk;rw[hr]at lj;clear h hc hr;go_enter func70,ntmps70;go_upto_region 1 with(fail);obtain⟨wz,bV⟩:=bG ((w.alloc (az #[I J 5,I J tx,I J aS,I J st,I J op,V key,V val,I J mode,Y yes] 60)).alloc (az #[I J 0,I J 0,V ⟨#[]⟩,Y false] 66));have HN:=(fZ bV).1;have HQ:=O (show aX wz w.heap.size 60 (bN ⟨5,tx,aS,st,op,key,val,mode,yes⟩)from bV▸(aX.new w 60 _).alloc _);have HR:=(fZ bV).2;obtain⟨qb,bE⟩:=bG (w.heap.size);rw[bE]at HQ HR de
 try rw[bV]
 try simp only[bE]
 have dp:=O bE;clear bV bE;have⟨q0,q1,q2,q3,q4,q5,q6,q7,q8⟩:=kq HQ.o;have ql:=HQ.o.lt;go_wp2_with fail;refine(lj.o _).mono ?_;rintro e w2 ⟨rfl,hN⟩;dsimp only;have bJ:=O (HN.o.t hN);have eC:=O (HQ.o.ch hN (λh=>h));have bH:=O (HR.o.ch hN (λh=>h));have cN:=O (HM.o.aR bJ.o);clear hN q0 q1 q2 q3 q4 q5 q6 q7 q8 ql;have⟨q0,q1,q2,q3,q4,q5,q6,q7,q8⟩:=kq eC.o;have ql:=eC.o.lt;go_wp2_with fail;refine(HD.o _ bJ.o).mono ?_;rintro e w6 ⟨rfl,a',uN,oZ⟩;dsimp only;have dL:=cN.o.bw bH.o cy;have bH:=O (bH.o.ch oZ.ch dL);have cN:=O uN;have lJ:=O oZ;obtain⟨RS,RP⟩:=RR;dsimp only at cN;clear dL uN oZ q0 q1 q2 q3 q4 q5 q6 q7 q8 ql;have⟨y0,y1,y2,y3⟩:=eW bH.o;have yl:=bH.o.lt;have f0:=bH.o.frozen 0;have f1:=bH.o.frozen 1;have f2:=bH.o.frozen 2;have f3:=bH.o.frozen 3;go_wp2_with fail;change bodyPost _ _ _ _ _ (cI w6 (qb+1) RP);have HY:=O (bU bH.o RP);have cK:=O (bX w6 (qb+1) RP);generalize cI w6 (qb+1) RP=wE at *;have⟨g0,g1,g2,g3⟩:=eW HY.o;have gO:=O (cN.o.bw bH.o cy);refine aE (v:=dU RP) (by simp[results,results70,go_sem,g0,g1,g2,g3]) rfl ⟨rfl,_,(cN.o.ch cK.o (λg hg e=>by subst e;exact gO.o hg)).mono (by omega),?_⟩;have hq:=dp.o;exact((Sub.bj _ bJ.o).trans lJ.o).tail cK.o (λk hk=>by omega)
theorem qc7(h:dH w sb K aZ s a)(hc:eN c)(hk:c.kind=6)(hr:cR c=true){RR:dm×dh}(hd: ∀w',M w w'->ax av 113 #[X (G ⟨sb,0,U⟩),cn c] w' (jQ w' sb K (aZ+2) a RR)):ax av 70 #[X (G ⟨sb,0,U⟩),cn c] w (jQ w sb K (aZ+2) a RR):=by
 have lj:=O (λw'=>ea hc w');have HM:=O h;have de:=h.aW.lt;have HD:=O hd;clear hd;obtain⟨kd,tx,aS,st,op,key,val,mode,yes⟩:=c
 try dsimp only at *
 subst hk;rw[hr]at lj;clear h hc hr;go_enter func70,ntmps70;go_upto_region 1 with(fail);obtain⟨wz,bV⟩:=bG ((w.alloc (az #[I J 6,I J tx,I J aS,I J st,I J op,V key,V val,I J mode,Y yes] 60)).alloc (az #[I J 0,I J 0,V ⟨#[]⟩,Y false] 66));have HN:=(fZ bV).1;have HQ:=O (show aX wz w.heap.size 60 (bN ⟨6,tx,aS,st,op,key,val,mode,yes⟩)from bV▸(aX.new w 60 _).alloc _);have HR:=(fZ bV).2;obtain⟨qb,bE⟩:=bG (w.heap.size);rw[bE]at HQ HR de
 try rw[bV]
 try simp only[bE]
 have dp:=O bE;clear bV bE;have⟨q0,q1,q2,q3,q4,q5,q6,q7,q8⟩:=kq HQ.o;have ql:=HQ.o.lt;go_wp2_with fail;refine(lj.o _).mono ?_;rintro e w2 ⟨rfl,hN⟩;dsimp only;have bJ:=O (HN.o.t hN);have eC:=O (HQ.o.ch hN (λh=>h));have bH:=O (HR.o.ch hN (λh=>h));have cN:=O (HM.o.aR bJ.o);clear hN q0 q1 q2 q3 q4 q5 q6 q7 q8 ql;have⟨q0,q1,q2,q3,q4,q5,q6,q7,q8⟩:=kq eC.o;have ql:=eC.o.lt;go_wp2_with fail;refine(HD.o _ bJ.o).mono ?_;rintro e w6 ⟨rfl,a',uN,oZ⟩;dsimp only;have dL:=cN.o.bw bH.o cy;have bH:=O (bH.o.ch oZ.ch dL);have cN:=O uN;have lJ:=O oZ;obtain⟨RS,RP⟩:=RR;dsimp only at cN;clear dL uN oZ q0 q1 q2 q3 q4 q5 q6 q7 q8 ql;have⟨y0,y1,y2,y3⟩:=eW bH.o;have yl:=bH.o.lt;have f0:=bH.o.frozen 0;have f1:=bH.o.frozen 1;have f2:=bH.o.frozen 2;have f3:=bH.o.frozen 3;go_wp2_with fail;change bodyPost _ _ _ _ _ (cI w6 (qb+1) RP);have HY:=O (bU bH.o RP);have cK:=O (bX w6 (qb+1) RP);generalize cI w6 (qb+1) RP=wE at *;have⟨g0,g1,g2,g3⟩:=eW HY.o;have gO:=O (cN.o.bw bH.o cy);refine aE (v:=dU RP) (by simp[results,results70,go_sem,g0,g1,g2,g3]) rfl ⟨rfl,_,(cN.o.ch cK.o (λg hg e=>by subst e;exact gO.o hg)).mono (by omega),?_⟩;have hq:=dp.o;exact((Sub.bj _ bJ.o).trans lJ.o).tail cK.o (λk hk=>by omega)
theorem qc8(h:dH w sb K aZ s a)(hc:eN c)(hk:c.kind=8)(hr:cR c=true){RR:dm×dh}(hd: ∀w',M w w'->ax av 113 #[X (G ⟨sb,0,U⟩),cn c] w' (jQ w' sb K (aZ+2) a RR)):ax av 70 #[X (G ⟨sb,0,U⟩),cn c] w (jQ w sb K (aZ+2) a RR):=by
 have lj:=O (λw'=>ea hc w');have HM:=O h;have de:=h.aW.lt;have HD:=O hd;clear hd;obtain⟨kd,tx,aS,st,op,key,val,mode,yes⟩:=c
 try dsimp only at *
 subst hk;rw[hr]at lj;clear h hc hr;go_enter func70,ntmps70;go_upto_region 1 with(fail);obtain⟨wz,bV⟩:=bG ((w.alloc (az #[I J 8,I J tx,I J aS,I J st,I J op,V key,V val,I J mode,Y yes] 60)).alloc (az #[I J 0,I J 0,V ⟨#[]⟩,Y false] 66));have HN:=(fZ bV).1;have HQ:=O (show aX wz w.heap.size 60 (bN ⟨8,tx,aS,st,op,key,val,mode,yes⟩)from bV▸(aX.new w 60 _).alloc _);have HR:=(fZ bV).2;obtain⟨qb,bE⟩:=bG (w.heap.size);rw[bE]at HQ HR de
 try rw[bV]
 try simp only[bE]
 have dp:=O bE;clear bV bE;have⟨q0,q1,q2,q3,q4,q5,q6,q7,q8⟩:=kq HQ.o;have ql:=HQ.o.lt;go_wp2_with fail;refine(lj.o _).mono ?_;rintro e w2 ⟨rfl,hN⟩;dsimp only;have bJ:=O (HN.o.t hN);have eC:=O (HQ.o.ch hN (λh=>h));have bH:=O (HR.o.ch hN (λh=>h));have cN:=O (HM.o.aR bJ.o);clear hN q0 q1 q2 q3 q4 q5 q6 q7 q8 ql;have⟨q0,q1,q2,q3,q4,q5,q6,q7,q8⟩:=kq eC.o;have ql:=eC.o.lt;go_wp2_with fail;refine(HD.o _ bJ.o).mono ?_;rintro e w6 ⟨rfl,a',uN,oZ⟩;dsimp only;have dL:=cN.o.bw bH.o cy;have bH:=O (bH.o.ch oZ.ch dL);have cN:=O uN;have lJ:=O oZ;obtain⟨RS,RP⟩:=RR;dsimp only at cN;clear dL uN oZ q0 q1 q2 q3 q4 q5 q6 q7 q8 ql;have⟨y0,y1,y2,y3⟩:=eW bH.o;have yl:=bH.o.lt;have f0:=bH.o.frozen 0;have f1:=bH.o.frozen 1;have f2:=bH.o.frozen 2;have f3:=bH.o.frozen 3;go_wp2_with fail;change bodyPost _ _ _ _ _ (cI w6 (qb+1) RP);have HY:=O (bU bH.o RP);have cK:=O (bX w6 (qb+1) RP);generalize cI w6 (qb+1) RP=wE at *;have⟨g0,g1,g2,g3⟩:=eW HY.o;have gO:=O (cN.o.bw bH.o cy);refine aE (v:=dU RP) (by simp[results,results70,go_sem,g0,g1,g2,g3]) rfl ⟨rfl,_,(cN.o.ch cK.o (λg hg e=>by subst e;exact gO.o hg)).mono (by omega),?_⟩;have hq:=dp.o;exact((Sub.bj _ bJ.o).trans lJ.o).tail cK.o (λk hk=>by omega)
theorem qc9(h:dH w sb K aZ s a)(hc:eN c)(hk:c.kind=2)(hr:cR c=true){RR:dm×dh}(hlt:iE s c=0)(hd: ∀w',M w w'->ax av 115 #[X (G ⟨sb,0,U⟩),cn c] w' (jQ w' sb K (aZ+2) a RR)):ax av 70 #[X (G ⟨sb,0,U⟩),cn c] w (jQ w sb K (aZ+2) a RR):=by
 have lj:=O (λw'=>ea hc w');have HM:=O h;have de:=h.aW.lt;have HD:=O hd;clear hd;have my:=O (λw' (hN:M w w')=>(show ax av 114 #[X (G ⟨sb,0,U⟩),cn c] w' (λe eZ=>e=ay (I J 0)/\M w' eZ)from by have:=kY (h.aR hN) hc;rw[hlt]at this;exact this));clear hlt;obtain⟨kd,tx,aS,st,op,key,val,mode,yes⟩:=c
 try dsimp only at *
 subst hk;rw[hr]at lj;clear h hc hr;go_enter func70,ntmps70;go_upto_region 1 with(fail);obtain⟨wz,bV⟩:=bG ((w.alloc (az #[I J 2,I J tx,I J aS,I J st,I J op,V key,V val,I J mode,Y yes] 60)).alloc (az #[I J 0,I J 0,V ⟨#[]⟩,Y false] 66));have HN:=(fZ bV).1;have HQ:=O (show aX wz w.heap.size 60 (bN ⟨2,tx,aS,st,op,key,val,mode,yes⟩)from bV▸(aX.new w 60 _).alloc _);have HR:=(fZ bV).2;obtain⟨qb,bE⟩:=bG (w.heap.size);rw[bE]at HQ HR de
 try rw[bV]
 try simp only[bE]
 have dp:=O bE;clear bV bE;have⟨q0,q1,q2,q3,q4,q5,q6,q7,q8⟩:=kq HQ.o;have ql:=HQ.o.lt;go_wp2_with fail;refine(lj.o _).mono ?_;rintro e w2 ⟨rfl,hN⟩;dsimp only;have bJ:=O (HN.o.t hN);have eC:=O (HQ.o.ch hN (λh=>h));have bH:=O (HR.o.ch hN (λh=>h));have cN:=O (HM.o.aR bJ.o);clear hN q0 q1 q2 q3 q4 q5 q6 q7 q8 ql;have⟨q0,q1,q2,q3,q4,q5,q6,q7,q8⟩:=kq eC.o;have ql:=eC.o.lt;go_wp2_with fail;refine(my.o _ bJ.o).mono ?_;rintro e w3 ⟨rfl,hN⟩;dsimp only;have cE:=O (bJ.o.t hN);have yY:=O (eC.o.ch hN (λh=>h));have jx:=O (bH.o.ch hN (λh=>h));have vV:=O (cN.o.aR hN);clear hN q0 q1 q2 q3 q4 q5 q6 q7 q8 ql;have⟨q0,q1,q2,q3,q4,q5,q6,q7,q8⟩:=kq yY.o;have ql:=yY.o.lt;go_wp2_with fail;refine(HD.o _ cE.o).mono ?_;rintro e w6 ⟨rfl,a',uN,oZ⟩;dsimp only;have dL:=vV.o.bw jx.o cy;have bH:=O (jx.o.ch oZ.ch dL);have cN:=O uN;have lJ:=O oZ;obtain⟨RS,RP⟩:=RR;dsimp only at cN;clear dL uN oZ q0 q1 q2 q3 q4 q5 q6 q7 q8 ql;have⟨y0,y1,y2,y3⟩:=eW bH.o;have yl:=bH.o.lt;have f0:=bH.o.frozen 0;have f1:=bH.o.frozen 1;have f2:=bH.o.frozen 2;have f3:=bH.o.frozen 3;go_wp2_with fail;change bodyPost _ _ _ _ _ (cI w6 (qb+1) RP);have HY:=O (bU bH.o RP);have cK:=O (bX w6 (qb+1) RP);generalize cI w6 (qb+1) RP=wE at *;have⟨g0,g1,g2,g3⟩:=eW HY.o;have gO:=O (cN.o.bw bH.o cy);refine aE (v:=dU RP) (by simp[results,results70,go_sem,g0,g1,g2,g3]) rfl ⟨rfl,_,(cN.o.ch cK.o (λg hg e=>by subst e;exact gO.o hg)).mono (by omega),?_⟩;have hq:=dp.o;exact((Sub.bj _ cE.o).trans lJ.o).tail cK.o (λk hk=>by omega)
theorem qd0(h:dH w sb K aZ s a)(hc:eN c)(hk:c.kind=3)(hr:cR c=true){RR:dm×dh}(hlt:iE s c=0)(hd: ∀w',M w w'->ax av 116 #[X (G ⟨sb,0,U⟩),cn c] w' (jQ w' sb K (aZ+2) a RR)):ax av 70 #[X (G ⟨sb,0,U⟩),cn c] w (jQ w sb K (aZ+2) a RR):=by
 have lj:=O (λw'=>ea hc w');have HM:=O h;have de:=h.aW.lt;have HD:=O hd;clear hd;have my:=O (λw' (hN:M w w')=>(show ax av 114 #[X (G ⟨sb,0,U⟩),cn c] w' (λe eZ=>e=ay (I J 0)/\M w' eZ)from by have:=kY (h.aR hN) hc;rw[hlt]at this;exact this));clear hlt;obtain⟨kd,tx,aS,st,op,key,val,mode,yes⟩:=c
 try dsimp only at *
 subst hk;rw[hr]at lj;clear h hc hr;go_enter func70,ntmps70;go_upto_region 1 with(fail);obtain⟨wz,bV⟩:=bG ((w.alloc (az #[I J 3,I J tx,I J aS,I J st,I J op,V key,V val,I J mode,Y yes] 60)).alloc (az #[I J 0,I J 0,V ⟨#[]⟩,Y false] 66));have HN:=(fZ bV).1;have HQ:=O (show aX wz w.heap.size 60 (bN ⟨3,tx,aS,st,op,key,val,mode,yes⟩)from bV▸(aX.new w 60 _).alloc _);have HR:=(fZ bV).2;obtain⟨qb,bE⟩:=bG (w.heap.size);rw[bE]at HQ HR de
 try rw[bV]
 try simp only[bE]
 have dp:=O bE;clear bV bE;have⟨q0,q1,q2,q3,q4,q5,q6,q7,q8⟩:=kq HQ.o;have ql:=HQ.o.lt;go_wp2_with fail;refine(lj.o _).mono ?_;rintro e w2 ⟨rfl,hN⟩;dsimp only;have bJ:=O (HN.o.t hN);have eC:=O (HQ.o.ch hN (λh=>h));have bH:=O (HR.o.ch hN (λh=>h));have cN:=O (HM.o.aR bJ.o);clear hN q0 q1 q2 q3 q4 q5 q6 q7 q8 ql;have⟨q0,q1,q2,q3,q4,q5,q6,q7,q8⟩:=kq eC.o;have ql:=eC.o.lt;go_wp2_with fail;refine(my.o _ bJ.o).mono ?_;rintro e w3 ⟨rfl,hN⟩;dsimp only;have cE:=O (bJ.o.t hN);have yY:=O (eC.o.ch hN (λh=>h));have jx:=O (bH.o.ch hN (λh=>h));have vV:=O (cN.o.aR hN);clear hN q0 q1 q2 q3 q4 q5 q6 q7 q8 ql;have⟨q0,q1,q2,q3,q4,q5,q6,q7,q8⟩:=kq yY.o;have ql:=yY.o.lt;go_wp2_with fail;refine(HD.o _ cE.o).mono ?_;rintro e w6 ⟨rfl,a',uN,oZ⟩;dsimp only;have dL:=vV.o.bw jx.o cy;have bH:=O (jx.o.ch oZ.ch dL);have cN:=O uN;have lJ:=O oZ;obtain⟨RS,RP⟩:=RR;dsimp only at cN;clear dL uN oZ q0 q1 q2 q3 q4 q5 q6 q7 q8 ql;have⟨y0,y1,y2,y3⟩:=eW bH.o;have yl:=bH.o.lt;have f0:=bH.o.frozen 0;have f1:=bH.o.frozen 1;have f2:=bH.o.frozen 2;have f3:=bH.o.frozen 3;go_wp2_with fail;change bodyPost _ _ _ _ _ (cI w6 (qb+1) RP);have HY:=O (bU bH.o RP);have cK:=O (bX w6 (qb+1) RP);generalize cI w6 (qb+1) RP=wE at *;have⟨g0,g1,g2,g3⟩:=eW HY.o;have gO:=O (cN.o.bw bH.o cy);refine aE (v:=dU RP) (by simp[results,results70,go_sem,g0,g1,g2,g3]) rfl ⟨rfl,_,(cN.o.ch cK.o (λg hg e=>by subst e;exact gO.o hg)).mono (by omega),?_⟩;have hq:=dp.o;exact((Sub.bj _ cE.o).trans lJ.o).tail cK.o (λk hk=>by omega)
theorem qd1(h:dH w sb K aZ s a)(hc:eN c)(hk:c.kind=4)(hr:cR c=true){RR:dm×dh}(hlt:iE s c=0)(hd: ∀w',M w w'->ax av 117 #[X (G ⟨sb,0,U⟩),cn c] w' (jQ w' sb K (aZ+2) a RR)):ax av 70 #[X (G ⟨sb,0,U⟩),cn c] w (jQ w sb K (aZ+2) a RR):=by
 have lj:=O (λw'=>ea hc w');have HM:=O h;have de:=h.aW.lt;have HD:=O hd;clear hd;have my:=O (λw' (hN:M w w')=>(show ax av 114 #[X (G ⟨sb,0,U⟩),cn c] w' (λe eZ=>e=ay (I J 0)/\M w' eZ)from by have:=kY (h.aR hN) hc;rw[hlt]at this;exact this));clear hlt;obtain⟨kd,tx,aS,st,op,key,val,mode,yes⟩:=c
 try dsimp only at *
 subst hk;rw[hr]at lj;clear h hc hr;go_enter func70,ntmps70;go_upto_region 1 with(fail);obtain⟨wz,bV⟩:=bG ((w.alloc (az #[I J 4,I J tx,I J aS,I J st,I J op,V key,V val,I J mode,Y yes] 60)).alloc (az #[I J 0,I J 0,V ⟨#[]⟩,Y false] 66));have HN:=(fZ bV).1;have HQ:=O (show aX wz w.heap.size 60 (bN ⟨4,tx,aS,st,op,key,val,mode,yes⟩)from bV▸(aX.new w 60 _).alloc _);have HR:=(fZ bV).2;obtain⟨qb,bE⟩:=bG (w.heap.size);rw[bE]at HQ HR de
 try rw[bV]
 try simp only[bE]
 have dp:=O bE;clear bV bE;have⟨q0,q1,q2,q3,q4,q5,q6,q7,q8⟩:=kq HQ.o;have ql:=HQ.o.lt;go_wp2_with fail;refine(lj.o _).mono ?_;rintro e w2 ⟨rfl,hN⟩;dsimp only;have bJ:=O (HN.o.t hN);have eC:=O (HQ.o.ch hN (λh=>h));have bH:=O (HR.o.ch hN (λh=>h));have cN:=O (HM.o.aR bJ.o);clear hN q0 q1 q2 q3 q4 q5 q6 q7 q8 ql;have⟨q0,q1,q2,q3,q4,q5,q6,q7,q8⟩:=kq eC.o;have ql:=eC.o.lt;go_wp2_with fail;refine(my.o _ bJ.o).mono ?_;rintro e w3 ⟨rfl,hN⟩;dsimp only;have cE:=O (bJ.o.t hN);have yY:=O (eC.o.ch hN (λh=>h));have jx:=O (bH.o.ch hN (λh=>h));have vV:=O (cN.o.aR hN);clear hN q0 q1 q2 q3 q4 q5 q6 q7 q8 ql;have⟨q0,q1,q2,q3,q4,q5,q6,q7,q8⟩:=kq yY.o;have ql:=yY.o.lt;go_wp2_with fail;refine(HD.o _ cE.o).mono ?_;rintro e w6 ⟨rfl,a',uN,oZ⟩;dsimp only;have dL:=vV.o.bw jx.o cy;have bH:=O (jx.o.ch oZ.ch dL);have cN:=O uN;have lJ:=O oZ;obtain⟨RS,RP⟩:=RR;dsimp only at cN;clear dL uN oZ q0 q1 q2 q3 q4 q5 q6 q7 q8 ql;have⟨y0,y1,y2,y3⟩:=eW bH.o;have yl:=bH.o.lt;have f0:=bH.o.frozen 0;have f1:=bH.o.frozen 1;have f2:=bH.o.frozen 2;have f3:=bH.o.frozen 3;go_wp2_with fail;change bodyPost _ _ _ _ _ (cI w6 (qb+1) RP);have HY:=O (bU bH.o RP);have cK:=O (bX w6 (qb+1) RP);generalize cI w6 (qb+1) RP=wE at *;have⟨g0,g1,g2,g3⟩:=eW HY.o;have gO:=O (cN.o.bw bH.o cy);refine aE (v:=dU RP) (by simp[results,results70,go_sem,g0,g1,g2,g3]) rfl ⟨rfl,_,(cN.o.ch cK.o (λg hg e=>by subst e;exact gO.o hg)).mono (by omega),?_⟩;have hq:=dp.o;exact((Sub.bj _ cE.o).trans lJ.o).tail cK.o (λk hk=>by omega)
end
section
variable{w w':aw}{sb aZ m:Nat}{K:ByteArray}{s:dm}{a:ia}{c:bQ}
theorem Uv(h:dH w sb K aZ s a)(hc:eN c)(hr:cR c=false):ax av 70 #[X (G ⟨sb,0,U⟩),cn c] w (jQ w sb K (aZ+2) a (s,cF 1)):=by
 have lj:=O (λw'=>ea hc w');have HM:=O h;have de:=h.aW.lt;obtain⟨kd,tx,aS,st,op,key,val,mode,yes⟩:=c
 try dsimp only at *
 rw[hr]at lj;clear h hc hr;go_enter func70,ntmps70;go_upto_region 1 with(fail);obtain⟨wz,bV⟩:=bG ((w.alloc (az #[I J kd,I J tx,I J aS,I J st,I J op,V key,V val,I J mode,Y yes] 60)).alloc (az #[I J 0,I J 0,V ⟨#[]⟩,Y false] 66));have HN:=(fZ bV).1;have HQ:=O (show aX wz w.heap.size 60 (bN ⟨kd,tx,aS,st,op,key,val,mode,yes⟩)from bV▸(aX.new w 60 _).alloc _);have HR:=(fZ bV).2;obtain⟨qb,bE⟩:=bG (w.heap.size);rw[bE]at HQ HR de
 try rw[bV]
 try simp only[bE]
 have dp:=O bE;clear bV bE;have⟨q0,q1,q2,q3,q4,q5,q6,q7,q8⟩:=kq HQ.o;have ql:=HQ.o.lt;go_wp2_with fail;refine(lj.o _).mono ?_;rintro e w2 ⟨rfl,hN⟩;dsimp only;have bJ:=O (HN.o.t hN);have bH:=O (HR.o.ch hN (λh=>h));have cN:=O (HM.o.aR bJ.o);clear hN q0 q1 q2 q3 q4 q5 q6 q7 q8 ql;have⟨y0,y1,y2,y3⟩:=eW bH.o;have yl:=bH.o.lt;have f0:=bH.o.frozen 0;have f1:=bH.o.frozen 1;have f2:=bH.o.frozen 2;have f3:=bH.o.frozen 3;go_wp2_with fail;change bodyPost _ _ _ _ _ (cI w2 (qb+1) (cF 1));have HY:=O (bU bH.o (cF 1));have cK:=O (bX w2 (qb+1) (cF 1));generalize cI w2 (qb+1) (cF 1)=wE at *;have⟨g0,g1,g2,g3⟩:=eW HY.o;have gO:=O (cN.o.bw bH.o cy);refine aE (v:=dU (cF 1)) (by simp[results,results70,go_sem,g0,g1,g2,g3]) rfl ⟨rfl,_,(cN.o.ch cK.o (λg hg e=>by subst e;exact gO.o hg)).mono (by omega),?_⟩;have hq:=dp.o;exact(Sub.bj _ bJ.o).tail cK.o (λk hk=>by omega)
theorem Uw(h:dH w sb K aZ s a)(hc:eN c)(hk:c.kind=2)(hr:cR c=true){E:Int}(hlt:iE s c=E)(he:E≠0):ax av 70 #[X (G ⟨sb,0,U⟩),cn c] w (jQ w sb K (aZ+2) a (s,cF E)):=by
 have lj:=O (λw'=>ea hc w');have HM:=O h;have de:=h.aW.lt;have my:=O (λw' (hN:M w w')=>(show ax av 114 #[X (G ⟨sb,0,U⟩),cn c] w' (λe eZ=>e=ay (I J E)/\M w' eZ)from by have:=kY (h.aR hN) hc;rw[hlt]at this;exact this));have d1:(E !=0)=true:=by simpa using he
 have d2:(E==0)=false:=by simpa using he
 clear hlt;obtain⟨kd,tx,aS,st,op,key,val,mode,yes⟩:=c
 try dsimp only at *
 subst hk;rw[hr]at lj;clear h hc hr;go_enter func70,ntmps70;go_upto_region 1 with(fail);obtain⟨wz,bV⟩:=bG ((w.alloc (az #[I J 2,I J tx,I J aS,I J st,I J op,V key,V val,I J mode,Y yes] 60)).alloc (az #[I J 0,I J 0,V ⟨#[]⟩,Y false] 66));have HN:=(fZ bV).1;have HQ:=O (show aX wz w.heap.size 60 (bN ⟨2,tx,aS,st,op,key,val,mode,yes⟩)from bV▸(aX.new w 60 _).alloc _);have HR:=(fZ bV).2;obtain⟨qb,bE⟩:=bG (w.heap.size);rw[bE]at HQ HR de
 try rw[bV]
 try simp only[bE]
 have dp:=O bE;clear bV bE;have⟨q0,q1,q2,q3,q4,q5,q6,q7,q8⟩:=kq HQ.o;have ql:=HQ.o.lt;go_wp2_with fail;refine(lj.o _).mono ?_;rintro e w2 ⟨rfl,hN⟩;dsimp only;have bJ:=O (HN.o.t hN);have eC:=O (HQ.o.ch hN (λh=>h));have bH:=O (HR.o.ch hN (λh=>h));have cN:=O (HM.o.aR bJ.o);clear hN q0 q1 q2 q3 q4 q5 q6 q7 q8 ql;have⟨q0,q1,q2,q3,q4,q5,q6,q7,q8⟩:=kq eC.o;have ql:=eC.o.lt;go_wp2_with fail;refine(my.o _ bJ.o).mono ?_;rintro e w3 ⟨rfl,hN⟩;dsimp only;have cE:=O (bJ.o.t hN);have jx:=O (bH.o.ch hN (λh=>h));have vV:=O (cN.o.aR hN);clear hN q0 q1 q2 q3 q4 q5 q6 q7 q8 ql;have⟨y0,y1,y2,y3⟩:=eW jx.o;have yl:=jx.o.lt;have f0:=jx.o.frozen 0;have f1:=jx.o.frozen 1;have f2:=jx.o.frozen 2;have f3:=jx.o.frozen 3;go_wp2_with fail;change bodyPost _ _ _ _ _ (cI w3 (qb+1) (cF E));have HY:=O (bU jx.o (cF E));have cK:=O (bX w3 (qb+1) (cF E));generalize cI w3 (qb+1) (cF E)=wE at *;have⟨g0,g1,g2,g3⟩:=eW HY.o;have gO:=O (vV.o.bw jx.o cy);refine aE (v:=dU (cF E)) (by simp[results,results70,go_sem,g0,g1,g2,g3]) rfl ⟨rfl,_,(vV.o.ch cK.o (λg hg e=>by subst e;exact gO.o hg)).mono (by omega),?_⟩;have hq:=dp.o;exact(Sub.bj _ cE.o).tail cK.o (λk hk=>by omega)
theorem Ux(h:dH w sb K aZ s a)(hc:eN c)(hk:c.kind=3)(hr:cR c=true){E:Int}(hlt:iE s c=E)(he:E≠0):ax av 70 #[X (G ⟨sb,0,U⟩),cn c] w (jQ w sb K (aZ+2) a (s,cF E)):=by
 have lj:=O (λw'=>ea hc w');have HM:=O h;have de:=h.aW.lt;have my:=O (λw' (hN:M w w')=>(show ax av 114 #[X (G ⟨sb,0,U⟩),cn c] w' (λe eZ=>e=ay (I J E)/\M w' eZ)from by have:=kY (h.aR hN) hc;rw[hlt]at this;exact this));have d1:(E !=0)=true:=by simpa using he
 have d2:(E==0)=false:=by simpa using he
 clear hlt;obtain⟨kd,tx,aS,st,op,key,val,mode,yes⟩:=c
 try dsimp only at *
 subst hk;rw[hr]at lj;clear h hc hr;go_enter func70,ntmps70;go_upto_region 1 with(fail);obtain⟨wz,bV⟩:=bG ((w.alloc (az #[I J 3,I J tx,I J aS,I J st,I J op,V key,V val,I J mode,Y yes] 60)).alloc (az #[I J 0,I J 0,V ⟨#[]⟩,Y false] 66));have HN:=(fZ bV).1;have HQ:=O (show aX wz w.heap.size 60 (bN ⟨3,tx,aS,st,op,key,val,mode,yes⟩)from bV▸(aX.new w 60 _).alloc _);have HR:=(fZ bV).2;obtain⟨qb,bE⟩:=bG (w.heap.size);rw[bE]at HQ HR de
 try rw[bV]
 try simp only[bE]
 have dp:=O bE;clear bV bE;have⟨q0,q1,q2,q3,q4,q5,q6,q7,q8⟩:=kq HQ.o;have ql:=HQ.o.lt;go_wp2_with fail;refine(lj.o _).mono ?_;rintro e w2 ⟨rfl,hN⟩;dsimp only;have bJ:=O (HN.o.t hN);have eC:=O (HQ.o.ch hN (λh=>h));have bH:=O (HR.o.ch hN (λh=>h));have cN:=O (HM.o.aR bJ.o);clear hN q0 q1 q2 q3 q4 q5 q6 q7 q8 ql;have⟨q0,q1,q2,q3,q4,q5,q6,q7,q8⟩:=kq eC.o;have ql:=eC.o.lt;go_wp2_with fail;refine(my.o _ bJ.o).mono ?_;rintro e w3 ⟨rfl,hN⟩;dsimp only;have cE:=O (bJ.o.t hN);have jx:=O (bH.o.ch hN (λh=>h));have vV:=O (cN.o.aR hN);clear hN q0 q1 q2 q3 q4 q5 q6 q7 q8 ql;have⟨y0,y1,y2,y3⟩:=eW jx.o;have yl:=jx.o.lt;have f0:=jx.o.frozen 0;have f1:=jx.o.frozen 1;have f2:=jx.o.frozen 2;have f3:=jx.o.frozen 3;go_wp2_with fail;change bodyPost _ _ _ _ _ (cI w3 (qb+1) (cF E));have HY:=O (bU jx.o (cF E));have cK:=O (bX w3 (qb+1) (cF E));generalize cI w3 (qb+1) (cF E)=wE at *;have⟨g0,g1,g2,g3⟩:=eW HY.o;have gO:=O (vV.o.bw jx.o cy);refine aE (v:=dU (cF E)) (by simp[results,results70,go_sem,g0,g1,g2,g3]) rfl ⟨rfl,_,(vV.o.ch cK.o (λg hg e=>by subst e;exact gO.o hg)).mono (by omega),?_⟩;have hq:=dp.o;exact(Sub.bj _ cE.o).tail cK.o (λk hk=>by omega)
theorem Uy(h:dH w sb K aZ s a)(hc:eN c)(hk:c.kind=4)(hr:cR c=true){E:Int}(hlt:iE s c=E)(he:E≠0):ax av 70 #[X (G ⟨sb,0,U⟩),cn c] w (jQ w sb K (aZ+2) a (s,cF E)):=by
 have lj:=O (λw'=>ea hc w');have HM:=O h;have de:=h.aW.lt;have my:=O (λw' (hN:M w w')=>(show ax av 114 #[X (G ⟨sb,0,U⟩),cn c] w' (λe eZ=>e=ay (I J E)/\M w' eZ)from by have:=kY (h.aR hN) hc;rw[hlt]at this;exact this));have d1:(E !=0)=true:=by simpa using he
 have d2:(E==0)=false:=by simpa using he
 clear hlt;obtain⟨kd,tx,aS,st,op,key,val,mode,yes⟩:=c
 try dsimp only at *
 subst hk;rw[hr]at lj;clear h hc hr;go_enter func70,ntmps70;go_upto_region 1 with(fail);obtain⟨wz,bV⟩:=bG ((w.alloc (az #[I J 4,I J tx,I J aS,I J st,I J op,V key,V val,I J mode,Y yes] 60)).alloc (az #[I J 0,I J 0,V ⟨#[]⟩,Y false] 66));have HN:=(fZ bV).1;have HQ:=O (show aX wz w.heap.size 60 (bN ⟨4,tx,aS,st,op,key,val,mode,yes⟩)from bV▸(aX.new w 60 _).alloc _);have HR:=(fZ bV).2;obtain⟨qb,bE⟩:=bG (w.heap.size);rw[bE]at HQ HR de
 try rw[bV]
 try simp only[bE]
 have dp:=O bE;clear bV bE;have⟨q0,q1,q2,q3,q4,q5,q6,q7,q8⟩:=kq HQ.o;have ql:=HQ.o.lt;go_wp2_with fail;refine(lj.o _).mono ?_;rintro e w2 ⟨rfl,hN⟩;dsimp only;have bJ:=O (HN.o.t hN);have eC:=O (HQ.o.ch hN (λh=>h));have bH:=O (HR.o.ch hN (λh=>h));have cN:=O (HM.o.aR bJ.o);clear hN q0 q1 q2 q3 q4 q5 q6 q7 q8 ql;have⟨q0,q1,q2,q3,q4,q5,q6,q7,q8⟩:=kq eC.o;have ql:=eC.o.lt;go_wp2_with fail;refine(my.o _ bJ.o).mono ?_;rintro e w3 ⟨rfl,hN⟩;dsimp only;have cE:=O (bJ.o.t hN);have jx:=O (bH.o.ch hN (λh=>h));have vV:=O (cN.o.aR hN);clear hN q0 q1 q2 q3 q4 q5 q6 q7 q8 ql;have⟨y0,y1,y2,y3⟩:=eW jx.o;have yl:=jx.o.lt;have f0:=jx.o.frozen 0;have f1:=jx.o.frozen 1;have f2:=jx.o.frozen 2;have f3:=jx.o.frozen 3;go_wp2_with fail;change bodyPost _ _ _ _ _ (cI w3 (qb+1) (cF E));have HY:=O (bU jx.o (cF E));have cK:=O (bX w3 (qb+1) (cF E));generalize cI w3 (qb+1) (cF E)=wE at *;have⟨g0,g1,g2,g3⟩:=eW HY.o;have gO:=O (vV.o.bw jx.o cy);refine aE (v:=dU (cF E)) (by simp[results,results70,go_sem,g0,g1,g2,g3]) rfl ⟨rfl,_,(vV.o.ch cK.o (λg hg e=>by subst e;exact gO.o hg)).mono (by omega),?_⟩;have hq:=dp.o;exact(Sub.bj _ cE.o).tail cK.o (λk hk=>by omega)
theorem Qb(h:dH w sb K aZ s a)(hc:eN c)(hk:c.kind=9)(hr:cR c=true){MM:Int}(FN:min (s.clock+1) 1099511627776=MM):ax av 70 #[X (G ⟨sb,0,U⟩),cn c] w (jQ w sb K (aZ+2) a ({s with clock:=MM},cL)):=by
 have lj:=O (λw'=>ea hc w');have HM:=O h;have de:=h.aW.lt;have We:=O FN;clear FN;obtain⟨kd,tx,aS,st,op,key,val,mode,yes⟩:=c
 try dsimp only at *
 subst hk;rw[hr]at lj;clear h hc hr;go_enter func70,ntmps70;go_upto_region 1 with(fail);obtain⟨wz,bV⟩:=bG ((w.alloc (az #[I J 9,I J tx,I J aS,I J st,I J op,V key,V val,I J mode,Y yes] 60)).alloc (az #[I J 0,I J 0,V ⟨#[]⟩,Y false] 66));have HN:=(fZ bV).1;have HQ:=O (show aX wz w.heap.size 60 (bN ⟨9,tx,aS,st,op,key,val,mode,yes⟩)from bV▸(aX.new w 60 _).alloc _);have HR:=(fZ bV).2;obtain⟨qb,bE⟩:=bG (w.heap.size);rw[bE]at HQ HR de
 try rw[bV]
 try simp only[bE]
 have dp:=O bE;clear bV bE;have⟨q0,q1,q2,q3,q4,q5,q6,q7,q8⟩:=kq HQ.o;have ql:=HQ.o.lt;go_wp2_with fail;refine(lj.o _).mono ?_;rintro e w2 ⟨rfl,hN⟩;dsimp only;have bJ:=O (HN.o.t hN);have eC:=O (HQ.o.ch hN (λh=>h));have bH:=O (HR.o.ch hN (λh=>h));have cN:=O (HM.o.aR bJ.o);clear hN q0 q1 q2 q3 q4 q5 q6 q7 q8 ql;have⟨q0,q1,q2,q3,q4,q5,q6,q7,q8⟩:=kq eC.o;have ql:=eC.o.lt;obtain⟨m0,_⟩:=cN.o.cells;have sl:=cN.o.aW.lt;have sf:=cN.o.aW.frozen 0;have ZV:=cN.o.dR.c0;have ZW:=cN.o.dR.c1;go_upto_region 6 with(fail);have FN:=We.o;rw[FN];have XQ:=O (cN.o.Fw (w':=w2.setCell ⟨sb,0,U⟩ (I J MM)) MM s.dw (bu (cN.o.aW.bm 0 (I J MM)) (by simp[SD])) ((Ch.r (λg=>g=sb) w2).setCell (p:=⟨sb,0,U⟩) (.inl rfl) _) (by rw[<-FN];omega) (by rw[<-FN];omega) (Int.le_refl _) cN.o.dR.m1);have Uu:Ch (λg=>g=sb) w2 (w2.setCell ⟨sb,0,U⟩ (I J MM)):=(Ch.r (λg=>g=sb) w2).setCell (p:=⟨sb,0,U⟩) (.inl rfl) _;have FE:=O (bH.o.ch Uu (λe=>aX.lF bH.o cN.o.aW (by decide) e));clear Uu m0 sl sf ZV ZW q0 q1 q2 q3 q4 q5 q6 q7 q8 ql;clear FN;generalize w2.setCell ⟨sb,0,U⟩ (I J MM)=w9 at *;have HMX:=O XQ.o.1;have⟨y0,y1,y2,y3⟩:=eW FE.o;have yl:=FE.o.lt;have f0:=FE.o.frozen 0;have f1:=FE.o.frozen 1;have f2:=FE.o.frozen 2;have f3:=FE.o.frozen 3;go_wp2_with fail;change bodyPost _ _ _ _ _ (cI w9 (qb+1) cL);have HY:=O (bU FE.o cL);have cK:=O (bX w9 (qb+1) cL);generalize cI w9 (qb+1) cL=wE at *;have⟨g0,g1,g2,g3⟩:=eW HY.o;have gO:=O (HMX.o.bw FE.o cy);refine aE (v:=dU cL) (by simp[results,results70,go_sem,g0,g1,g2,g3]) rfl ⟨rfl,_,(HMX.o.ch cK.o (λg hg e=>by subst e;exact gO.o hg)).mono (Nat.le_add_right aZ 2),?_⟩;have hq:=dp.o;exact((Sub.bj _ bJ.o).trans XQ.o.2).tail cK.o (λk hk=>by omega)
theorem DP(h:dH w sb K aZ s a)(hc:eN c)(fT:c.kind=2\/c.kind=3\/c.kind=4->c.key=K)(wG:c.kind=4->c.yes=true)(hv: ∀x v,s.br c.tx=G x->x.wr=G v->v.size<=32)(cp:aZ<1000000):
 ax av 70 #[X (G ⟨sb,0,U⟩),cn c] w (jQ w sb K (aZ+2) a (fS s c)):=by
 cases hr:cR c with
 |false=>
  have e:fS s c=(s,cF 1):=by unfold fS;rw[hr];rfl
  rw[e];exact Uv h hc hr
 |true=>
  obtain⟨k0,k1⟩:=hc.kd;have oY:c.kind≠9->0<=c.aS:=λhk=>by
   rw[AY hc]at hr;simp[hk]at hr;exact hr
  have hk:c.kind=9\/c.kind=7\/(c.kind=1\/c.kind=5\/c.kind=6\/c.kind=8)\/(c.kind=2\/c.kind=3\/c.kind=4):=by omega
  rcases hk with hk|hk|hk|hk
  ·have e:fS s c=({s with clock:=min (s.clock+1) 1099511627776},cL):=by unfold fS;rw[hr];simp[hk]
   rw[e];exact Qb h hc hk hr rfl
  ·have e:fS s c=en s c:=by unfold fS;rw[hr];simp[hk]
   rw[e];exact qc5 h hc hk hr (λw' hN=>DO (h.aR hN) hc hk hv cp)
  ·have e:fS s c=dO s c:=by unfold fS;rw[hr,if_pos rfl,if_neg (by omega),if_neg (by omega),if_pos hk]
   rw[e];have ha:=oY (by omega);rcases hk with hk|hk|hk|hk
   ·exact do_1 h hc hk hr (λw' hN=>(PL (h.aR hN) hc ha hk).mono λe eZ hp=>hp.mono (by omega))
   ·exact qc6 h hc hk hr (λw' hN=>(PN (h.aR hN) hc ha hk).mono λe eZ hp=>hp.mono (by omega))
   ·exact qc7 h hc hk hr (λw' hN=>(PO (h.aR hN) hc ha hk).mono λe eZ hp=>hp.mono (by omega))
   ·exact qc8 h hc hk hr (λw' hN=>(PQ (h.aR hN) hc ha hk).mono λe eZ hp=>hp.mono (by omega))
  ·have hky:=fT hk;by_cases hlt:iE s c=0
   ·rcases hk with hk|hk|hk
    ·have e:fS s c=kQ s c:=by unfold fS;rw[hr,if_pos rfl,if_neg (by omega),if_neg (by omega),if_neg (by omega),if_neg (by simp[hlt]),if_pos hk]
     rw[e];exact qc9 h hc hk hr hlt (λw' hN=>(Lx (h.aR hN) hc hk hky cp).mono λe eZ hp=>hp.mono (by omega))
    ·have e:fS s c=mg s c:=by unfold fS;rw[hr,if_pos rfl,if_neg (by omega),if_neg (by omega),if_neg (by omega),if_neg (by simp[hlt]),if_neg (by omega),if_pos hk]
     rw[e];exact qd0 h hc hk hr hlt (λw' hN=>(tL (h.aR hN) hc hk hky cp).mono λe eZ hp=>hp.mono (by omega))
    ·have e:fS s c=gY s c:=by unfold fS;rw[hr,if_pos rfl,if_neg (by omega),if_neg (by omega),if_neg (by omega),if_neg (by simp[hlt]),if_neg (by omega),if_neg (by omega)]
     rw[e];exact qd1 h hc hk hr hlt (λw' hN=>(Lz (h.aR hN) hc hk hky (wG hk) cp).mono λe eZ hp=>hp.mono (by omega))
   ·have e:fS s c=(s,cF (iE s c)):=by unfold fS;rw[hr,if_pos rfl,if_neg (by omega),if_neg (by omega),if_neg (by omega),if_pos hlt]
    rw[e];rcases hk with hk|hk|hk
    ·exact Uw h hc hk hr rfl hlt
    ·exact Ux h hc hk hr rfl hlt
    ·exact Uy h hc hk hr rfl hlt
end
def o4(w:aw):aw:=
 (((((w.alloc (.map #[] 0)).alloc (az #[.map (G w.heap.size),I J 0,I J 0] 178)).alloc (az #[T U 0 0] 181)).alloc (az #[T U 0 0] 184)).alloc (.map #[] 0)).alloc (.map #[] 0)
def o6(n:Nat):ia:=⟨n+1,n,λ_=>Cells.He,n+2,mH (n+2) U 0,n+3,U,0,0,n+4,λ_=>Hh,n+5⟩
def yZ(n:Nat):Array Value:=#[I J 0,I J 0,X (G ⟨n+1,0,U⟩),X (G ⟨n+2,0,U⟩),X (G ⟨n+3,0,U⟩),.map (G (n+4)),.map (G (n+5))]
theorem Ht(w:aw):M w ((o4 w).alloc (az (yZ w.heap.size) 118)):=
 (((((((Ch.r _ w).alloc _).alloc _).alloc _).alloc _).alloc _).alloc _).alloc _
theorem Hu(w:aw){K:ByteArray}(hK:K.size<=16):dH ((o4 w).alloc (az (yZ w.heap.size) 118)) (w.heap.size+6) K 0 iS (o6 w.heap.size):=by
 have hs:(o4 w).heap.size=w.heap.size+6:=by unfold o4;simp
 have hb:=aX.new (o4 w) 118 (yZ w.heap.size);rw[hs]at hb;obtain⟨n,hn⟩:=bG (w.heap.size);have fA:=Cells.Ua w 0 (Nat.zero_le _);have nw: ∀(w1:aw) (o:Obj),M w1 (w1.alloc o):=λw1 o=>(Ch.r _ w1).alloc _;obtain⟨w2,ew⟩:=bG ((w.alloc (.map #[] 0)).alloc (az #[.map (G w.heap.size),I J 0,I J 0] 178));have h2:w2.heap.size=n+2:=by rw[<-ew, <-hn];simp
 obtain⟨w3,je⟩:=bG (w2.alloc (az #[T U 0 0] 181));have h3:w3.heap.size=n+3:=by rw[<-je];simp[h2]
 obtain⟨w4,lH⟩:=bG (w3.alloc (az #[T U 0 0] 184));have h4:w4.heap.size=n+4:=by rw[<-lH];simp[h3]
 obtain⟨w5,qC⟩:=bG (w4.alloc (.map #[] 0));have h5:w5.heap.size=n+5:=by rw[<-qC];simp[h4]
 obtain⟨w6,sZ⟩:=bG (w5.alloc (.map #[] 0));have h6:w6.heap.size=n+6:=by rw[<-sZ];simp[h5]
 have e6:o4 w=w6:=by unfold o4;rw[ew,je,lH,qC,sZ]
 have tE:=Pw w2;have LA:aX w4 (n+3) 184 #[T U 0 0]:=by
  have:=aX.new w3 184 #[T U 0 0];rw[h3,lH]at this;exact this
 have hli:cT w5 (n+4) 0 mK (λ_=>U):=by
  have:=uA w4 mK;rw[h4,qC]at this;exact this
 have SK:cT w6 (n+5) 0 (I J 0) (λ_=>U):=by
  have:=uA w5 (I J 0);rw[h5,sZ]at this;exact this
 rw[h2,je]at tE;rw[ew,hn]at fA;rw[e6]at hb⊢;obtain⟨w7,ZH⟩:=bG (w6.alloc (az (yZ w.heap.size) 118));rw[ZH,hn]at hb⊢;have h7:w7.heap.size=n+7:=by rw[<-ZH];simp[h6]
 have n6:M w6 w7:=ZH▸nw _ _;have n5:M w5 w7:=(sZ▸nw w5 _:M w5 w6).t n6;have n4:M w4 w7:=(qC▸nw w4 _:M w4 w5).t n5;have n3:M w3 w7:=(lH▸nw w3 _:M w3 w4).t n4;have n2:M w2 w7:=(je▸nw w2 _:M w2 w3).t n3;have mr: ∀i g,(o6 n).P (n+6) i g->n<=g/\g<n+7/\(i=0/\g=n+6\/i=1/\g<=n+1\/i=2/\g=n+2\/i=3/\g=n+3\/i=4/\g=n+4\/i=5/\g=n+5):=by
  intro i g hg;rcases i with _|_|_|_|_|_|i
  ·have:g=n+6:=hg;omega
  ·rcases hg with e|e|⟨k,e⟩
   ·have:g=n+1:=e;omega
   ·have:g=n:=e;omega
   ·cases e
  ·rcases hg with e|e
   ·omega
   ·cases e
  ·rcases hg with e|e
   ·have:g=n+3:=e;omega
   ·cases e
  ·rcases hg with e|⟨t,e⟩
   ·have:g=n+4:=e;omega
   ·cases e
  ·have:g=n+5:=hg;omega
  ·exact hg.elim
 refine⟨hb,⟨_,_,fA.ch n2 (λ_ _ h=>h),⟨Cells.Dx,rfl,Int.le_refl _,aN _,λ_ _=>rfl,rfl⟩⟩,⟨U,0,tE.aR n3,rfl⟩,⟨[],⟨LA.ch n4 (λh=>h),World.ownsRow_nil _ _ _ _,List.Pairwise.nil,rfl,Nat.zero_le 1000⟩,⟨λp r hp=>(by simp at hp),λx r hx=>(by cases hx)⟩⟩,⟨hli.aR n5,λt=>World.ownsRow_nil _ _ _ _,λt _=>rfl,λt t' g _ hg=>(by cases hg)⟩,SK.aR n6,⟨λi j tG g hi hj=>?_,λi g hg=>?_⟩,⟨Int.le_refl _,by decide,Int.le_refl _,by decide,λt r hr=>(by cases hr),λt ht=>(by simp[iS]at ht),List.nodup_nil,λt x hx=>(by cases hx)⟩,hK⟩
 ·have h1:=mr i g hi;have h2:=mr j g hj;omega
 ·have:=mr i g hg;omega
theorem Bh(w:aw){K:ByteArray}(hK:K.size<=16):
 ax av 25 #[] w λe w'=>∃sb a,e=ay (X (G ⟨sb,0,U⟩))/\dH w' sb K 0 iS a/\(∀g,a.F sb g->w.heap.size<=g)/\M w w':=by
 have ZX:=O (Hu w hK);have gI:=O (Ht w);have HC:=O (@Cells.pM);have HL:=O (@KH);have HT:=O (@pM);have Hc:= @run_makeMap av;go_enter func25,ntmps25;go_wp2_with fail;refine(HC.o _).mono ?_;rintro e w2 ⟨rfl,ew⟩;dsimp only;go_wp2_with fail;refine(HL.o _).mono ?_;rintro e w3 ⟨rfl,je⟩;dsimp only;go_wp2_with fail;refine(HT.o _).mono ?_;rintro e w4 ⟨rfl,lH⟩;dsimp only;subst ew je lH;go_wp2_with fail;go_ret;refine⟨w.heap.size+6,o6 w.heap.size,by simp,ZX.o,?_,gI.o⟩;rintro g ⟨i,hg⟩;rcases i with _|_|_|_|_|_|i
 ·have:g=w.heap.size+6:=hg;omega
 ·rcases hg with e|e|⟨k,e⟩
  ·have:g=w.heap.size+1:=e;omega
  ·have:g=w.heap.size:=e;omega
  ·cases e
 ·rcases hg with e|e
  ·omega
  ·cases e
 ·rcases hg with e|e
  ·have:g=w.heap.size+3:=e;omega
  ·cases e
 ·rcases hg with e|⟨t,e⟩
  ·have:g=w.heap.size+4:=e;omega
  ·cases e
 ·have:g=w.heap.size+5:=hg;omega
 ·exact hg.elim
