import Derived.Test.YtmaimjajdbgmiaaGreatDoorAg
import Derived.Test.YtmaimjajdbgmiaaGreatDoorAe
set_option linter.unusedVariables false
set_option linter.unusedSimpArgs false
set_option maxRecDepth 100000
set_option maxHeartbeats 0
open Go.Value renaming int→I,string→V,pointer→X,bool→Y,slice→T,tuple→aB,agg→aC
open Go.IntKind renaming i64→J
open Option renaming none→U,some→G
open Go.Ending renaming returned→ay
open Go.Obj renaming cells→az
open Go renaming World→aw,Calls→ax,bodyPost_ret→aE
open Go.Proofs.Tryz
open Go.Proofs.Tryz renaming prog→av
namespace Go.Proofs.YtmaimjajdbgmiaaGreatDoor
open Go.Lib Go.Maps Go.RowKit
structure qo where
 pA:Option Addr
 pc:Nat
 rA:Option Addr
 rc:Nat
 tA:Option Addr
 tc:Nat
 lA:Option Addr
 lc:Nat
def Wy(C:Cf):List Value:=[I J 5,V C.key,V emp,I J C.n]
abbrev Ec(C:Cf)(rb:Nat)(i:Int)(d:eF)(a:qo):Array Value:=
 #[I J i,I J (i+1),I J C.tries,X (G ⟨rb,0,U⟩),T a.pA 1 a.pc,I J d.aS,I J d.ph,I J d.at_,V (eP d.last),Y (fB d.last),V (eP d.write),Y (fB d.write),
   T a.rA d.res.length a.rc,T a.tA d.bY.length a.tc,T a.lA d.left.length a.lc,I J d.o,Y false]
structure dW(w:aw)(db rb:Nat)(C:Cf)(i:Int)(d:eF)(a:qo):Prop where
 aW:aX w db 141 (Ec C rb i d a)
 vd:w.ownsRow 0 33 4 (T a.pA 1 a.pc) 1 (Wy C)
 res:w.ownsRow 0 138 2 (T a.rA d.res.length a.rc) d.res.length (Si d.res)
 S0:w.ownsRow 0 3 1 (T a.tA d.bY.length a.tc) d.bY.length (ints d.bY)
 QN:d.left≠[]->a.lA=a.tA/\a.lc=a.tc
 idx:0<=i/\i<16
structure ey(w:aw)(db rb:Nat)(C:Cf)(i:Int)(d:eF)(a:qo):Prop extends dW w db rb C i d a where
 dR:JQ C d
def qo.F(a:qo)(db:Nat)(d:eF):Nat->Prop:=λg=>
 g=db\/(T a.pA 1 a.pc).ownBlock=G g\/(T a.rA d.res.length a.rc).ownBlock=G g\/(T a.tA d.bY.length a.tc).ownBlock=G g
section
variable{w w':aw}{db rb c:Nat}{C:Cf}{i:Int}{d:eF}{a:qo}{A:Option Addr}{l:List ByteArray}
theorem dW.ch{S:Nat->Prop}(h:dW w db rb C i d a)(hC:Ch S w w')(hS: ∀g,a.F db d g->¬S g):dW w' db rb C i d a:=
 ⟨h.aW.ch hC (hS _ (.inl rfl)),bg h.vd hC (λk hk=>hS k (.inr (.inl hk))),bg h.res hC (λk hk=>hS k (.inr (.inr (.inl hk)))),bg h.S0 hC (λk hk=>hS k (.inr (.inr (.inr hk)))),h.QN,h.idx⟩
theorem dW.aR(h:dW w db rb C i d a)(hC:M w w'):dW w' db rb C i d a:=h.ch hC (λ_ _ h=>h)
theorem ey.ch{S:Nat->Prop}(h:ey w db rb C i d a)(hC:Ch S w w')(hS: ∀g,a.F db d g->¬S g):ey w' db rb C i d a:=⟨h.todW.ch hC hS,h.dR⟩
theorem ey.aR(h:ey w db rb C i d a)(hC:M w w'):ey w' db rb C i d a:=h.ch hC (λ_ _ h=>h)
theorem dW.fC(h:dW w db rb C i d a):oo (a.F db d) w:=λg hg=>by
 rcases hg with rfl|hg|hg|hg
 ·exact h.aW.lt
 ·exact(h.vd.lt g hg).2
 ·exact(h.res.lt g hg).2
 ·exact(h.S0.lt g hg).2
theorem dW.cells(h:dW w db rb C i d a):w.cell? ⟨db,0,U⟩=G (I J i)/\w.cell? ⟨db,1,U⟩=G (I J (i+1))/\w.cell? ⟨db,2,U⟩=G (I J C.tries)/\w.cell? ⟨db,3,U⟩=G (X (G ⟨rb,0,U⟩))/\
 w.cell? ⟨db,4,U⟩=G (T a.pA 1 a.pc)/\w.cell? ⟨db,5,U⟩=G (I J d.aS)/\w.cell? ⟨db,6,U⟩=G (I J d.ph)/\w.cell? ⟨db,7,U⟩=G (I J d.at_)/\w.cell? ⟨db,8,U⟩=G (V (eP d.last))/\
 w.cell? ⟨db,9,U⟩=G (Y (fB d.last))/\w.cell? ⟨db,10,U⟩=G (V (eP d.write))/\w.cell? ⟨db,11,U⟩=G (Y (fB d.write))/\w.cell? ⟨db,12,U⟩=G (T a.rA d.res.length a.rc)/\
 w.cell? ⟨db,13,U⟩=G (T a.tA d.bY.length a.tc)/\w.cell? ⟨db,14,U⟩=G (T a.lA d.left.length a.lc)/\w.cell? ⟨db,15,U⟩=G (I J d.o)/\w.cell? ⟨db,16,U⟩=G (Y false):=
 ⟨h.aW.c 0,h.aW.c 1,h.aW.c 2,h.aW.c 3,h.aW.c 4,h.aW.c 5,h.aW.c 6,h.aW.c 7,h.aW.c 8,h.aW.c 9,h.aW.c 10,h.aW.c 11,h.aW.c 12,h.aW.c 13,h.aW.c 14,h.aW.c 15,h.aW.c 16⟩
theorem dW.lx(h:dW w db rb C i d a){n:Int}(e:d.ph=n):w.cell? ⟨db,6,U⟩=G (I J n):=by subst e;exact h.aW.c 6
theorem dW.Wz(h:dW w db rb C i d a): ∃g,a.pA=G ⟨g,0,U⟩/\g<w.heap.size/\w.cell? ⟨g,0,U⟩=G (I J 5)/\w.cell? ⟨g,1,U⟩=G (V C.key)/\w.cell? ⟨g,2,U⟩=G (V emp)/\w.cell? ⟨g,3,U⟩=G (I J C.n):=by
 obtain⟨g,cap,hv,_,hlt⟩:=h.vd.form (by omega);injection hv with hA _ _;refine⟨g,hA,hlt,?_⟩;obtain⟨b,off,e,_,hc⟩:=(Rd.own h.vd) (by simp[Wy]);rw[hA]at e;injection e with e;injection e with e1 e2;subst e1 e2;exact⟨by simpa using hc 0 _ rfl,by simpa using hc 1 _ rfl,by simpa using hc 2 _ rfl,by simpa using hc 3 _ rfl⟩
end
def jK(w:aw)(b:Nat)(c:bQ):aw:=(((((((((w.setCell ⟨b,0,U⟩ (I J c.kind)).setCell ⟨b,1,U⟩ (I J c.tx)).setCell ⟨b,2,U⟩ (I J c.aS)).setCell ⟨b,3,U⟩ (I J c.aY)).setCell ⟨b,4,U⟩ (I J c.op)).setCell ⟨b,5,U⟩ (V c.key)).setCell ⟨b,6,U⟩ (V c.val)).setCell ⟨b,7,U⟩ (I J c.mode)).setCell ⟨b,8,U⟩ (Y c.yes))
theorem fQ(w:aw)(b:Nat)(c:bQ):Ch (λg=>g=b) w (jK w b c):=(((((((((Ch.r (λg=>g=b) w).setCell (p:=⟨b,0,U⟩) (.inl rfl) _).setCell (p:=⟨b,1,U⟩) (.inl rfl) _).setCell (p:=⟨b,2,U⟩) (.inl rfl) _).setCell (p:=⟨b,3,U⟩) (.inl rfl) _).setCell (p:=⟨b,4,U⟩) (.inl rfl) _).setCell (p:=⟨b,5,U⟩) (.inl rfl) _).setCell (p:=⟨b,6,U⟩) (.inl rfl) _).setCell (p:=⟨b,7,U⟩) (.inl rfl) _).setCell (p:=⟨b,8,U⟩) (.inl rfl) _
theorem gz{w:aw}{b:Nat}{v0 v1 v2 v3 v4 v5 v6 v7 v8:Value}(h:aX w b 60 #[v0,v1,v2,v3,v4,v5,v6,v7,v8])(c:bQ):aX (jK w b c) b 60 (bN c):=
 bu (((((((((h.bm 0 (I J c.kind)).bm 1 (I J c.tx)).bm 2 (I J c.aS)).bm 3 (I J c.aY)).bm 4 (I J c.op)).bm 5 (V c.key)).bm 6 (V c.val)).bm 7 (I J c.mode)).bm 8 (Y c.yes)) (by simp)
section
variable{w w':aw}{db rb c:Nat}{C:Cf}{i:Int}{d:eF}{a:qo}{A:Option Addr}{l:List ByteArray}
theorem fM(h:ey w db rb C i d a)(k:Int):ax av 155 #[X (G ⟨db,0,U⟩),I J k] w λe w'=>e=ay (cn (bk k i d.aS))/\M w w':=by
 have⟨x0,x1,x2,x3,x4,x5,x6,x7,x8,x9,rE,mq,tu,o9,C0,BK,Ed⟩:=h.cells;have hl:=h.aW.lt;clear h x1 x2 x3 x4 x6 x7 x8 x9 rE mq tu o9 C0 BK Ed;go_enter func155,ntmps155;go_upto_region 1 with(fail)
 go_region
 change Exit.then _ _ _ _ (w.alloc (az (bN (bk k i d.aS)) 60)).drew;have HB:=O (aX.new w 60 (bN (bk k i d.aS))).drew;have HN:=O (show M w (w.alloc (az (bN (bk k i d.aS)) 60)).drew from((Ch.r _ w).alloc _).drew);generalize(w.alloc (az (bN (bk k i d.aS)) 60)).drew=wE at *;have⟨g0,g1,g2,g3,g4⟩:=iP HB.o;have⟨g5,g6,g7,g8⟩:=(show _/\_/\_/\_ from⟨HB.o.c 5,HB.o.c 6,HB.o.c 7,HB.o.c 8⟩);go_wp2_with fail;exact aE (v:=cn (bk k i d.aS)) (by simp[results,results155,go_sem,g0,g1,g2,g3,g4,g5,g6,g7,g8]) rfl ⟨rfl,HN.o⟩
theorem qp(h:ey w db rb C i d a)(hR:mU w rb A c l)(hl:l.length+1=C.ns)(sP:C.ns<=8):ax av 156 #[X (G ⟨db,0,U⟩)] w λe w'=>e=ay (I J (bZ C i:Nat))/\∃m,w'=w.drewN m:=by
 have⟨x0,x1,x2,x3,x4,x5,x6,x7,x8,x9,rE,mq,tu,o9,C0,BK,Ed⟩:=h.cells;have JC:=h.aW.lt;obtain⟨i0,i1⟩:=h.idx;have HS:=O (λn=>pe (hR.aR ((Ch.r _ w).drewN n)));have hm:(i:Int).tmod ((l.length+1:Nat):Int)=((bZ C i:Nat):Int):=by
  unfold bZ;rw[hl,Int.tmod_eq_emod_of_nonneg i0,Int.natCast_emod,Int.toNat_of_nonneg i0]
 have hv:i%(C.ns:Int)=((bZ C i:Nat):Int):=by
  unfold bZ;rw[Int.natCast_emod,Int.toNat_of_nonneg i0]
 have hz:((l.length+1:Nat):Int)≠0:=by omega
 clear h hR x1 x2 x4 x5 x6 x7 x8 x9 rE mq tu o9 C0 BK Ed;go_enter func156,ntmps156;go_upto_region 1 with(fail)
 go_quiet((go_at_call 24;exact oI (HS.o _)))
 go_wp2_with fail;go_ret;exact⟨gK.F8 hv,_,rfl⟩
theorem Mw(K:ByteArray)(n:Int)(w:aw):ax av 226 #[aC #[I J 5,V K,V emp,I J n]] w λe w'=>e=ay (I J 2)/\M w w':=by
 have HW:=O (λw=>gK.u5 ⟨5,K,emp,n⟩ w);have hw:WX ⟨5,K,emp,n⟩=true:=rfl;rw[hw]at HW;dsimp only at HW;go_enter func226,ntmps226;go_wp2_with fail;refine(HW.o _).mono ?_;rintro e w2 ⟨rfl,hN⟩;dsimp only;have HN:=O hN;clear hN;go_wp2_with fail;go_ret;exact⟨rfl,((Ch.r _ w).alloc _).t HN.o⟩
theorem xR(h:ey w db rb C i d a):ax av 41 #[X (G ⟨db,0,U⟩)] w λe w'=>e=ay (I J (if d.ph=8 then d.o else 1))/\w'=w:=by
 have⟨x0,x1,x2,x3,x4,x5,x6,x7,x8,x9,rE,mq,tu,o9,C0,BK,Ed⟩:=h.cells;have hl:=h.aW.lt;clear h x0 x1 x2 x3 x4 x5 x7 x8 x9 rE mq tu o9 C0 Ed;by_cases h8:d.ph=8
 ·rw[if_pos h8];rw[h8]at x6;go_enter func41,ntmps41;go_wp2_with fail;go_ret;exact⟨rfl,rfl⟩
 ·rw[if_neg h8];have e8:(d.ph==8)=false:=beq_eq_false_iff_ne.2 h8;go_enter func41,ntmps41;go_wp2_with fail;go_ret;exact⟨rfl,rfl⟩
theorem xS(h:ey w db rb C i d a):ax av 98 #[X (G ⟨db,0,U⟩)] w λe w'=>e=ay (I J (i+1))/\w'=w:=by
 have⟨x0,x1,x2,x3,x4,x5,x6,x7,x8,x9,rE,mq,tu,o9,C0,BK,Ed⟩:=h.cells;have hl:=h.aW.lt;clear h x0 x2 x3 x4 x5 x6 x7 x8 x9 rE mq tu o9 C0 BK Ed;go_enter func98,ntmps98;go_wp2_with fail;go_ret;exact⟨rfl,rfl⟩
end
section
variable{w w':aw}{db rb c:Nat}{C:Cf}{i:Int}{d:eF}{a:qo}{A:Option Addr}{l:List ByteArray}
theorem BL(h:ey w db rb C i d a)(hR:mU w rb A c l)(F9:Iz l C.key=C.h)(hat:d.at_=0):
 ax av 157 #[X (G ⟨db,0,U⟩),I J 2,I J 0] w λe w'=>e=ay (aB #[I J (C.h:Nat),cn {bk 2 i d.aS with op:=0,key:=C.key,mode:=2},Y true])/\M w w':=by
 have HH:=O h;have nV:=O (λw' (hN:M w w')=>fM (h.aR hN) 2);have Ag:=O (λw' (hN:M w w')=>nK (hR.aR hN) C.key);rw[F9]at Ag;have Qh:=O (λw'=>Mw C.key C.n w');have⟨x0,x1,x2,x3,x4,x5,x6,x7,x8,x9,rE,mq,tu,o9,C0,BK,Ed⟩:=h.cells;obtain⟨g,hA,nz,y0,y1,y2,y3⟩:=h.Wz;have JC:=h.aW.lt;have kD:=O hat;rw[hA]at x4;rw[hat]at x7;clear h hR F9 hat hA x0 x1 x2 x3 x5 x6 x8 x9 rE mq tu o9 C0 BK Ed;go_enter func157,ntmps157;go_upto_region 1 with(fail)
 go_region
 obtain⟨w1,bT⟩:=bG (((w.alloc (az #[I J 0,I J 0,I J 0,I J 0,I J 0,V ⟨#[]⟩,V ⟨#[]⟩,I J 0,Y false] 60)).alloc (az #[I J 5,V C.key,V emp,I J C.n] 33)).drew);have cH:=O (show M w w1 from bT▸(((Ch.r _ w).alloc _).alloc _).drew);have fK:=O (show aX w1 w.heap.size 60 #[I J 0,I J 0,I J 0,I J 0,I J 0,V ⟨#[]⟩,V ⟨#[]⟩,I J 0,Y false]from bT▸((aX.new w 60 _).alloc _).drew);have cw:=O (show aX w1 (w.heap.size+1) 33 #[I J 5,V C.key,V emp,I J C.n]from by
  have:=(aX.new (w.alloc (az #[I J 0,I J 0,I J 0,I J 0,I J 0,V ⟨#[]⟩,V ⟨#[]⟩,I J 0,Y false] 60)) 33 #[I J 5,V C.key,V emp,I J C.n]).drew;rw[World.size_alloc]at this;exact bT▸this)
 rw[bT];obtain⟨qb,bE⟩:=bG (w.heap.size);rw[bE]at fK cw
 try simp only[bE]
 have dp:=O bE;clear bT bE x4 x7 y0 y1 y2 y3 nz JC;go_wp2_with fail;refine(nV.o _ cH.o).mono ?_;rintro e w2 ⟨rfl,hN⟩;dsimp only;have bJ:=O (cH.o.t hN);have gn:=O (fK.o.ch hN (λh=>h));have cJ:=O (cw.o.ch hN (λh=>h));clear hN;have x7:=(HH.o.aR bJ.o).aW.c 7;have hat:=kD.o;have xl:=(HH.o.aR bJ.o).aW.lt;have y1:=cJ.o.c 1;have yl:=cJ.o.lt;go_upto_region 3 with(fail)
 go_region
 change Exit.then _ _ _ _ (w2.alloc (az (bN (⟨2,i,d.aS,0,0,C.key,emp,0,false⟩:bQ)) 60)).drew;have cE:=O (show M w (w2.alloc (az (bN (⟨2,i,d.aS,0,0,C.key,emp,0,false⟩:bQ)) 60)).drew from(bJ.o.alloc _).drew);have wQ:=O (show aX (w2.alloc (az (bN (⟨2,i,d.aS,0,0,C.key,emp,0,false⟩:bQ)) 60)).drew qb 60 #[I J 0,I J 0,I J 0,I J 0,I J 0,V ⟨#[]⟩,V ⟨#[]⟩,I J 0,Y false]from(gn.o.alloc _).drew);have fL:=O (show aX (w2.alloc (az (bN (⟨2,i,d.aS,0,0,C.key,emp,0,false⟩:bQ)) 60)).drew (qb+1) 33 #[I J 5,V C.key,V emp,I J C.n]from(cJ.o.alloc _).drew);have gT:=O (show aX (w2.alloc (az (bN (⟨2,i,d.aS,0,0,C.key,emp,0,false⟩:bQ)) 60)).drew w2.heap.size 60 (bN (⟨2,i,d.aS,0,0,C.key,emp,0,false⟩:bQ))from(aX.new w2 60 _).drew);have eC:=O (show qb+1<w2.heap.size from cJ.o.lt);generalize(w2.alloc (az (bN (⟨2,i,d.aS,0,0,C.key,emp,0,false⟩:bQ)) 60)).drew=w3 at *;obtain⟨qc,qq⟩:=bG (w2.heap.size);rw[qq]at gT eC
 try simp only[qq]
 clear qq x7 xl y1 yl hat;have⟨y0,y1,y2,y3⟩:=eW fL.o;have yl:=fL.o.lt;go_wp2_with fail;refine(Qh.o _).mono ?_;rintro e w4 ⟨rfl,hN⟩;dsimp only;have dQ:=O (cE.o.t hN);have Fa:=O (wQ.o.ch hN (λh=>h));have iq:=O (fL.o.ch hN (λh=>h));have cK:=O (gT.o.ch hN (λh=>h));clear hN y0 y1 y2 y3 yl;have z7:=cK.o.c 7;have zl:=cK.o.lt;have zf:=cK.o.frozen 7;go_upto_region 9 with(fail);have dZ:=O (show aX (w4.setCell ⟨qc,7,U⟩ (I J 2)) qc 60 (bN (⟨2,i,d.aS,0,0,C.key,emp,2,false⟩:bQ))from bu (cK.o.bm 7 (I J 2)) (by simp));have hq:=eC.o;have Mx:=O (show aX (w4.setCell ⟨qc,7,U⟩ (I J 2)) qb 60 #[I J 0,I J 0,I J 0,I J 0,I J 0,V ⟨#[]⟩,V ⟨#[]⟩,I J 0,Y false]from Fa.o.cv (show qb≠qc by omega) _);have mM:=O (show aX (w4.setCell ⟨qc,7,U⟩ (I J 2)) (qb+1) 33 #[I J 5,V C.key,V emp,I J C.n]from iq.o.cv (show qb+1≠qc by omega) _);have bE:=dp.o;have ff:=O (show M w (w4.setCell ⟨qc,7,U⟩ (I J 2))from dQ.o.setCell (p:=⟨qc,7,U⟩) (.inr (by show w.heap.size<=qc;omega)) _);generalize w4.setCell ⟨qc,7,U⟩ (I J 2)=w5 at *;clear z7 zl zf hq bE;have cZ:=O (λw' (hN:M w5 w')=>(show w'.cell? ⟨db,3,U⟩=G (X (G ⟨rb,0,U⟩))/\w'.cell? ⟨qb+1,1,U⟩=G (V C.key)/\w'.cell? ⟨qc,0,U⟩=G (I J 2)/\w'.cell? ⟨qc,1,U⟩=G (I J i)/\w'.cell? ⟨qc,2,U⟩=G (I J d.aS)/\w'.cell? ⟨qc,3,U⟩=G (I J 0)/\w'.cell? ⟨qc,4,U⟩=G (I J 0)/\w'.cell? ⟨qc,5,U⟩=G (V C.key)/\w'.cell? ⟨qc,6,U⟩=G (V emp)/\w'.cell? ⟨qc,7,U⟩=G (I J 2)/\w'.cell? ⟨qc,8,U⟩=G (Y false)from⟨(HH.o.aR (ff.o.t hN)).aW.c 3,(mM.o.ch hN (λh=>h)).c 1,(dZ.o.ch hN (λh=>h)).c 0,(dZ.o.ch hN (λh=>h)).c 1,(dZ.o.ch hN (λh=>h)).c 2,(dZ.o.ch hN (λh=>h)).c 3,(dZ.o.ch hN (λh=>h)).c 4,(dZ.o.ch hN (λh=>h)).c 5,(dZ.o.ch hN (λh=>h)).c 6,(dZ.o.ch hN (λh=>h)).c 7,(dZ.o.ch hN (λh=>h)).c 8⟩));have⟨s0,s1,c0,c1,c2,c3,c4,c5,c6,c7,c8⟩:=cZ.o _ (Ch.r _ w5);have sl:=(HH.o.aR ff.o).aW.lt;have cl:=dZ.o.lt;have bl:=mM.o.lt;have My:=O (λw' (hN:M w5 w')=>(show(λw'=>w'.cell? ⟨db,3,U⟩=G (X (G ⟨rb,0,U⟩))/\w'.cell? ⟨qb+1,1,U⟩=G (V C.key)/\w'.cell? ⟨qc,0,U⟩=G (I J 2)/\w'.cell? ⟨qc,1,U⟩=G (I J i)/\w'.cell? ⟨qc,2,U⟩=G (I J d.aS)/\w'.cell? ⟨qc,3,U⟩=G (I J 0)/\w'.cell? ⟨qc,4,U⟩=G (I J 0)/\w'.cell? ⟨qc,5,U⟩=G (V C.key)/\w'.cell? ⟨qc,6,U⟩=G (V emp)/\w'.cell? ⟨qc,7,U⟩=G (I J 2)/\w'.cell? ⟨qc,8,U⟩=G (Y false)) ((((((((((w'.setCell ⟨qb,0,U⟩ (I J 2)).setCell ⟨qb,1,U⟩ (I J i)).setCell ⟨qb,2,U⟩ (I J d.aS)).setCell ⟨qb,3,U⟩ (I J 0)).setCell ⟨qb,4,U⟩ (I J 0)).setCell ⟨qb,5,U⟩ (V C.key)).setCell ⟨qb,6,U⟩ (V emp)).setCell ⟨qb,7,U⟩ (I J 2)).setCell ⟨qb,8,U⟩ (Y false)))from by
  have hq:=eC.o;have e:=fQ w' qb (⟨2,i,d.aS,0,0,C.key,emp,2,false⟩:bQ);have m:=cZ.o w' hN;have k1:=(HH.o.aR (ff.o.t hN)).aW;have k2:=mM.o.ch hN (λh=>h);have k3:=dZ.o.ch hN (λh=>h);have n1: ¬db=qb:=λe=>by have:=HH.o.aW.lt;have:=dp.o;omega
  exact⟨(k1.ch e n1).c 3,(k2.ch e (by omega)).c 1,(k3.ch e (by omega)).c 0,(k3.ch e (by omega)).c 1,(k3.ch e (by omega)).c 2,(k3.ch e (by omega)).c 3,(k3.ch e (by omega)).c 4,(k3.ch e (by omega)).c 5,(k3.ch e (by omega)).c 6,(k3.ch e (by omega)).c 7,(k3.ch e (by omega)).c 8⟩))
 have dB:=O (show M w5 w5.drew from aU w5);dsimp only at My
 go_region_held3(λw'=>w'.cell? ⟨db,3,U⟩=G (X (G ⟨rb,0,U⟩))/\w'.cell? ⟨qb+1,1,U⟩=G (V C.key)/\w'.cell? ⟨qc,0,U⟩=G (I J 2)/\w'.cell? ⟨qc,1,U⟩=G (I J i)/\w'.cell? ⟨qc,2,U⟩=G (I J d.aS)/\w'.cell? ⟨qc,3,U⟩=G (I J 0)/\w'.cell? ⟨qc,4,U⟩=G (I J 0)/\w'.cell? ⟨qc,5,U⟩=G (V C.key)/\w'.cell? ⟨qc,6,U⟩=G (V emp)/\w'.cell? ⟨qc,7,U⟩=G (I J 2)/\w'.cell? ⟨qc,8,U⟩=G (Y false))
  (first|with_reducible exact cZ.o _ dB.o|with_reducible exact cZ.o _ jn.o|with_reducible exact My.o _ jn.o)
  (first|(go_at_call 37;refine(Ag.o _ (ff.o.t (aU w5))).mono ?_;rintro e w' ⟨rfl,hN⟩;have jn:=O (show M w5 w' from(aU w5).t hN);clear hN;dsimp only;have⟨s0,s1,c0,c1,c2,c3,c4,c5,c6,c7,c8⟩:=cZ.o _ jn.o;have iV:=O (Mx.o.ch jn.o (λh=>h));have zl:=iV.o.lt;have zf:=iV.o.frozen;have z0:=iV.o.c 0;have z1:=iV.o.c 1;have z2:=iV.o.c 2;have z3:=iV.o.c 3;have z4:=iV.o.c 4;have z5:=iV.o.c 5;have z6:=iV.o.c 6;have z7:=iV.o.c 7;have z8:=iV.o.c 8))
 all_goals
  go_wp2_with fail;change bodyPost _ _ _ _ _ (jK _ qb (⟨2,i,d.aS,0,0,C.key,emp,2,false⟩:bQ));have HY:=O (gz iV.o (⟨2,i,d.aS,0,0,C.key,emp,2,false⟩:bQ));have iU:=O (fQ w' qb (⟨2,i,d.aS,0,0,C.key,emp,2,false⟩:bQ));have ir:=O ((ff.o.t jn.o).trans iU.o (λk hk=>.inr (by have:=dp.o;omega)));generalize jK w' qb (⟨2,i,d.aS,0,0,C.key,emp,2,false⟩:bQ)=w7 at *;have⟨g0,g1,g2,g3,g4⟩:=iP HY.o;have⟨g5,g6,g7,g8⟩:=(show _/\_/\_/\_ from⟨HY.o.c 5,HY.o.c 6,HY.o.c 7,HY.o.c 8⟩);exact aE (v:=aB #[I J (C.h:Nat),cn (⟨2,i,d.aS,0,0,C.key,emp,2,false⟩:bQ),Y true]) (by simp[results,results157,go_sem,g0,g1,g2,g3,g4,g5,g6,g7,g8]) rfl ⟨rfl,ir.o⟩
theorem Ee(h:ey w db rb C i d a)(hR:mU w rb A c l)(F9:Iz l C.key=C.h)(hat:d.at_=0):
 ax av 157 #[X (G ⟨db,0,U⟩),I J 3,I J 1] w λe w'=>e=ay (aB #[I J (C.h:Nat),cn {bk 3 i d.aS with op:=1,key:=C.key},Y true])/\M w w':=by
 have HH:=O h;have nV:=O (λw' (hN:M w w')=>fM (h.aR hN) 3);have Ag:=O (λw' (hN:M w w')=>nK (hR.aR hN) C.key);rw[F9]at Ag;have⟨x0,x1,x2,x3,x4,x5,x6,x7,x8,x9,rE,mq,tu,o9,C0,BK,Ed⟩:=h.cells;obtain⟨g,hA,nz,y0,y1,y2,y3⟩:=h.Wz;have JC:=h.aW.lt;have kD:=O hat;rw[hA]at x4;rw[hat]at x7;clear h hR F9 hat hA x0 x1 x2 x3 x5 x6 x8 x9 rE mq tu o9 C0 BK Ed;go_enter func157,ntmps157;go_upto_region 1 with(fail)
 go_region
 obtain⟨w1,bT⟩:=bG (((w.alloc (az #[I J 0,I J 0,I J 0,I J 0,I J 0,V ⟨#[]⟩,V ⟨#[]⟩,I J 0,Y false] 60)).alloc (az #[I J 5,V C.key,V emp,I J C.n] 33)).drew);have cH:=O (show M w w1 from bT▸(((Ch.r _ w).alloc _).alloc _).drew);have fK:=O (show aX w1 w.heap.size 60 #[I J 0,I J 0,I J 0,I J 0,I J 0,V ⟨#[]⟩,V ⟨#[]⟩,I J 0,Y false]from bT▸((aX.new w 60 _).alloc _).drew);have cw:=O (show aX w1 (w.heap.size+1) 33 #[I J 5,V C.key,V emp,I J C.n]from by
  have:=(aX.new (w.alloc (az #[I J 0,I J 0,I J 0,I J 0,I J 0,V ⟨#[]⟩,V ⟨#[]⟩,I J 0,Y false] 60)) 33 #[I J 5,V C.key,V emp,I J C.n]).drew;rw[World.size_alloc]at this;exact bT▸this)
 rw[bT];obtain⟨qb,bE⟩:=bG (w.heap.size);rw[bE]at fK cw
 try simp only[bE]
 have dp:=O bE;clear bT bE x4 x7 y0 y1 y2 y3 nz JC;go_wp2_with fail;refine(nV.o _ cH.o).mono ?_;rintro e w2 ⟨rfl,hN⟩;dsimp only;have bJ:=O (cH.o.t hN);have gn:=O (fK.o.ch hN (λh=>h));have cJ:=O (cw.o.ch hN (λh=>h));clear hN;have x7:=(HH.o.aR bJ.o).aW.c 7;have hat:=kD.o;have xl:=(HH.o.aR bJ.o).aW.lt;have y1:=cJ.o.c 1;have yl:=cJ.o.lt;go_upto_region 3 with(fail)
 go_region
 change Exit.then _ _ _ _ (w2.alloc (az (bN (⟨3,i,d.aS,0,1,C.key,emp,0,false⟩:bQ)) 60)).drew;have cE:=O (show M w (w2.alloc (az (bN (⟨3,i,d.aS,0,1,C.key,emp,0,false⟩:bQ)) 60)).drew from(bJ.o.alloc _).drew);have wQ:=O (show aX (w2.alloc (az (bN (⟨3,i,d.aS,0,1,C.key,emp,0,false⟩:bQ)) 60)).drew qb 60 #[I J 0,I J 0,I J 0,I J 0,I J 0,V ⟨#[]⟩,V ⟨#[]⟩,I J 0,Y false]from(gn.o.alloc _).drew);have fL:=O (show aX (w2.alloc (az (bN (⟨3,i,d.aS,0,1,C.key,emp,0,false⟩:bQ)) 60)).drew (qb+1) 33 #[I J 5,V C.key,V emp,I J C.n]from(cJ.o.alloc _).drew);have gT:=O (show aX (w2.alloc (az (bN (⟨3,i,d.aS,0,1,C.key,emp,0,false⟩:bQ)) 60)).drew w2.heap.size 60 (bN (⟨3,i,d.aS,0,1,C.key,emp,0,false⟩:bQ))from(aX.new w2 60 _).drew);have eC:=O (show qb+1<w2.heap.size from cJ.o.lt);generalize(w2.alloc (az (bN (⟨3,i,d.aS,0,1,C.key,emp,0,false⟩:bQ)) 60)).drew=w3 at *;obtain⟨qc,qq⟩:=bG (w2.heap.size);rw[qq]at gT eC
 try simp only[qq]
 clear qq x7 xl y1 yl hat;go_upto_region 9 with(fail);have ff:=cE;have Mx:=wQ;have mM:=fL;have dZ:=gT;have cZ:=O (λw' (hN:M w3 w')=>(show w'.cell? ⟨db,3,U⟩=G (X (G ⟨rb,0,U⟩))/\w'.cell? ⟨qb+1,1,U⟩=G (V C.key)/\w'.cell? ⟨qc,0,U⟩=G (I J 3)/\w'.cell? ⟨qc,1,U⟩=G (I J i)/\w'.cell? ⟨qc,2,U⟩=G (I J d.aS)/\w'.cell? ⟨qc,3,U⟩=G (I J 0)/\w'.cell? ⟨qc,4,U⟩=G (I J 1)/\w'.cell? ⟨qc,5,U⟩=G (V C.key)/\w'.cell? ⟨qc,6,U⟩=G (V emp)/\w'.cell? ⟨qc,7,U⟩=G (I J 0)/\w'.cell? ⟨qc,8,U⟩=G (Y false)from⟨(HH.o.aR (ff.o.t hN)).aW.c 3,(mM.o.ch hN (λh=>h)).c 1,(dZ.o.ch hN (λh=>h)).c 0,(dZ.o.ch hN (λh=>h)).c 1,(dZ.o.ch hN (λh=>h)).c 2,(dZ.o.ch hN (λh=>h)).c 3,(dZ.o.ch hN (λh=>h)).c 4,(dZ.o.ch hN (λh=>h)).c 5,(dZ.o.ch hN (λh=>h)).c 6,(dZ.o.ch hN (λh=>h)).c 7,(dZ.o.ch hN (λh=>h)).c 8⟩));have⟨s0,s1,c0,c1,c2,c3,c4,c5,c6,c7,c8⟩:=cZ.o _ (Ch.r _ w3);have sl:=(HH.o.aR ff.o).aW.lt;have cl:=dZ.o.lt;have bl:=mM.o.lt;have My:=O (λw' (hN:M w3 w')=>(show(λw'=>w'.cell? ⟨db,3,U⟩=G (X (G ⟨rb,0,U⟩))/\w'.cell? ⟨qb+1,1,U⟩=G (V C.key)/\w'.cell? ⟨qc,0,U⟩=G (I J 3)/\w'.cell? ⟨qc,1,U⟩=G (I J i)/\w'.cell? ⟨qc,2,U⟩=G (I J d.aS)/\w'.cell? ⟨qc,3,U⟩=G (I J 0)/\w'.cell? ⟨qc,4,U⟩=G (I J 1)/\w'.cell? ⟨qc,5,U⟩=G (V C.key)/\w'.cell? ⟨qc,6,U⟩=G (V emp)/\w'.cell? ⟨qc,7,U⟩=G (I J 0)/\w'.cell? ⟨qc,8,U⟩=G (Y false)) ((((((((((w'.setCell ⟨qb,0,U⟩ (I J 3)).setCell ⟨qb,1,U⟩ (I J i)).setCell ⟨qb,2,U⟩ (I J d.aS)).setCell ⟨qb,3,U⟩ (I J 0)).setCell ⟨qb,4,U⟩ (I J 1)).setCell ⟨qb,5,U⟩ (V C.key)).setCell ⟨qb,6,U⟩ (V emp)).setCell ⟨qb,7,U⟩ (I J 0)).setCell ⟨qb,8,U⟩ (Y false)))from by
  have hq:=eC.o;have e:=fQ w' qb (⟨3,i,d.aS,0,1,C.key,emp,0,false⟩:bQ);have m:=cZ.o w' hN;have k1:=(HH.o.aR (ff.o.t hN)).aW;have k2:=mM.o.ch hN (λh=>h);have k3:=dZ.o.ch hN (λh=>h);have n1: ¬db=qb:=λe=>by have:=HH.o.aW.lt;have:=dp.o;omega
  exact⟨(k1.ch e n1).c 3,(k2.ch e (by omega)).c 1,(k3.ch e (by omega)).c 0,(k3.ch e (by omega)).c 1,(k3.ch e (by omega)).c 2,(k3.ch e (by omega)).c 3,(k3.ch e (by omega)).c 4,(k3.ch e (by omega)).c 5,(k3.ch e (by omega)).c 6,(k3.ch e (by omega)).c 7,(k3.ch e (by omega)).c 8⟩))
 have dB:=O (show M w3 w3.drew from aU w3);dsimp only at My
 go_region_held3(λw'=>w'.cell? ⟨db,3,U⟩=G (X (G ⟨rb,0,U⟩))/\w'.cell? ⟨qb+1,1,U⟩=G (V C.key)/\w'.cell? ⟨qc,0,U⟩=G (I J 3)/\w'.cell? ⟨qc,1,U⟩=G (I J i)/\w'.cell? ⟨qc,2,U⟩=G (I J d.aS)/\w'.cell? ⟨qc,3,U⟩=G (I J 0)/\w'.cell? ⟨qc,4,U⟩=G (I J 1)/\w'.cell? ⟨qc,5,U⟩=G (V C.key)/\w'.cell? ⟨qc,6,U⟩=G (V emp)/\w'.cell? ⟨qc,7,U⟩=G (I J 0)/\w'.cell? ⟨qc,8,U⟩=G (Y false))
  (first|with_reducible exact cZ.o _ dB.o|with_reducible exact cZ.o _ jn.o|with_reducible exact My.o _ jn.o)
  (first|(go_at_call 37;refine(Ag.o _ (ff.o.t (aU w3))).mono ?_;rintro e w' ⟨rfl,hN⟩;have jn:=O (show M w3 w' from(aU w3).t hN);clear hN;dsimp only;have⟨s0,s1,c0,c1,c2,c3,c4,c5,c6,c7,c8⟩:=cZ.o _ jn.o;have iV:=O (Mx.o.ch jn.o (λh=>h));have zl:=iV.o.lt;have zf:=iV.o.frozen;have z0:=iV.o.c 0;have z1:=iV.o.c 1;have z2:=iV.o.c 2;have z3:=iV.o.c 3;have z4:=iV.o.c 4;have z5:=iV.o.c 5;have z6:=iV.o.c 6;have z7:=iV.o.c 7;have z8:=iV.o.c 8))
 all_goals
  go_wp2_with fail;change bodyPost _ _ _ _ _ (jK _ qb (⟨3,i,d.aS,0,1,C.key,emp,0,false⟩:bQ));have HY:=O (gz iV.o (⟨3,i,d.aS,0,1,C.key,emp,0,false⟩:bQ));have iU:=O (fQ w' qb (⟨3,i,d.aS,0,1,C.key,emp,0,false⟩:bQ));have ir:=O ((ff.o.t jn.o).trans iU.o (λk hk=>.inr (by have:=dp.o;omega)));generalize jK w' qb (⟨3,i,d.aS,0,1,C.key,emp,0,false⟩:bQ)=w7 at *;have⟨g0,g1,g2,g3,g4⟩:=iP HY.o;have⟨g5,g6,g7,g8⟩:=(show _/\_/\_/\_ from⟨HY.o.c 5,HY.o.c 6,HY.o.c 7,HY.o.c 8⟩);exact aE (v:=aB #[I J (C.h:Nat),cn (⟨3,i,d.aS,0,1,C.key,emp,0,false⟩:bQ),Y true]) (by simp[results,results157,go_sem,g0,g1,g2,g3,g4,g5,g6,g7,g8]) rfl ⟨rfl,ir.o⟩
theorem Ef(h:ey w db rb C i d a)(hR:mU w rb A c l)(F9:Iz l C.key=C.h)(hat:d.at_=0):
 ax av 157 #[X (G ⟨db,0,U⟩),I J 4,I J 2] w λe w'=>e=ay (aB #[I J (C.h:Nat),cn {bk 4 i d.aS with op:=2,key:=C.key,val:=eP d.write,yes:=fB d.write},Y true])/\M w w':=by
 have HH:=O h;have nV:=O (λw' (hN:M w w')=>fM (h.aR hN) 4);have Ag:=O (λw' (hN:M w w')=>nK (hR.aR hN) C.key);rw[F9]at Ag;have⟨x0,x1,x2,x3,x4,x5,x6,x7,x8,x9,rE,mq,tu,o9,C0,BK,Ed⟩:=h.cells;obtain⟨g,hA,nz,y0,y1,y2,y3⟩:=h.Wz;have JC:=h.aW.lt;have kD:=O hat;rw[hA]at x4;rw[hat]at x7;clear h hR F9 hat hA x0 x1 x2 x3 x5 x6 x8 x9 rE mq tu o9 C0 BK Ed;go_enter func157,ntmps157;go_upto_region 1 with(fail)
 go_region
 obtain⟨w1,bT⟩:=bG (((w.alloc (az #[I J 0,I J 0,I J 0,I J 0,I J 0,V ⟨#[]⟩,V ⟨#[]⟩,I J 0,Y false] 60)).alloc (az #[I J 5,V C.key,V emp,I J C.n] 33)).drew);have cH:=O (show M w w1 from bT▸(((Ch.r _ w).alloc _).alloc _).drew);have fK:=O (show aX w1 w.heap.size 60 #[I J 0,I J 0,I J 0,I J 0,I J 0,V ⟨#[]⟩,V ⟨#[]⟩,I J 0,Y false]from bT▸((aX.new w 60 _).alloc _).drew);have cw:=O (show aX w1 (w.heap.size+1) 33 #[I J 5,V C.key,V emp,I J C.n]from by
  have:=(aX.new (w.alloc (az #[I J 0,I J 0,I J 0,I J 0,I J 0,V ⟨#[]⟩,V ⟨#[]⟩,I J 0,Y false] 60)) 33 #[I J 5,V C.key,V emp,I J C.n]).drew;rw[World.size_alloc]at this;exact bT▸this)
 rw[bT];obtain⟨qb,bE⟩:=bG (w.heap.size);rw[bE]at fK cw
 try simp only[bE]
 have dp:=O bE;clear bT bE x4 x7 y0 y1 y2 y3 nz JC;go_wp2_with fail;refine(nV.o _ cH.o).mono ?_;rintro e w2 ⟨rfl,hN⟩;dsimp only;have bJ:=O (cH.o.t hN);have gn:=O (fK.o.ch hN (λh=>h));have cJ:=O (cw.o.ch hN (λh=>h));clear hN;have x7:=(HH.o.aR bJ.o).aW.c 7;have hat:=kD.o;have xl:=(HH.o.aR bJ.o).aW.lt;have y1:=cJ.o.c 1;have yl:=cJ.o.lt;go_upto_region 3 with(fail)
 go_region
 change Exit.then _ _ _ _ (w2.alloc (az (bN (⟨4,i,d.aS,0,2,C.key,emp,0,false⟩:bQ)) 60)).drew;have cE:=O (show M w (w2.alloc (az (bN (⟨4,i,d.aS,0,2,C.key,emp,0,false⟩:bQ)) 60)).drew from(bJ.o.alloc _).drew);have wQ:=O (show aX (w2.alloc (az (bN (⟨4,i,d.aS,0,2,C.key,emp,0,false⟩:bQ)) 60)).drew qb 60 #[I J 0,I J 0,I J 0,I J 0,I J 0,V ⟨#[]⟩,V ⟨#[]⟩,I J 0,Y false]from(gn.o.alloc _).drew);have fL:=O (show aX (w2.alloc (az (bN (⟨4,i,d.aS,0,2,C.key,emp,0,false⟩:bQ)) 60)).drew (qb+1) 33 #[I J 5,V C.key,V emp,I J C.n]from(cJ.o.alloc _).drew);have gT:=O (show aX (w2.alloc (az (bN (⟨4,i,d.aS,0,2,C.key,emp,0,false⟩:bQ)) 60)).drew w2.heap.size 60 (bN (⟨4,i,d.aS,0,2,C.key,emp,0,false⟩:bQ))from(aX.new w2 60 _).drew);have eC:=O (show qb+1<w2.heap.size from cJ.o.lt);generalize(w2.alloc (az (bN (⟨4,i,d.aS,0,2,C.key,emp,0,false⟩:bQ)) 60)).drew=w3 at *;obtain⟨qc,qq⟩:=bG (w2.heap.size);rw[qq]at gT eC
 try simp only[qq]
 clear qq x7 xl y1 yl hat;have rE:=(HH.o.aR cE.o).aW.c 10;have mq:=(HH.o.aR cE.o).aW.c 11;have xl:=(HH.o.aR cE.o).aW.lt;have z6:=gT.o.c 6;have z8:=gT.o.c 8;have zl:=gT.o.lt;have zf6:=gT.o.frozen 6;have zf8:=gT.o.frozen 8;go_upto_region 8 with(fail)
 go_region
 change Exit.inBlock _ _ _ _ ((w3.setCell ⟨qc,6,U⟩ (V (eP d.write))).setCell ⟨qc,8,U⟩ (Y (fB d.write))).drew;have dZ:=O (show aX ((w3.setCell ⟨qc,6,U⟩ (V (eP d.write))).setCell ⟨qc,8,U⟩ (Y (fB d.write))).drew qc 60 (bN (⟨4,i,d.aS,0,2,C.key,eP d.write,0,fB d.write⟩:bQ))from(bu ((gT.o.bm 6 (V (eP d.write))).bm 8 (Y (fB d.write))) (by simp)).drew);have hq:=eC.o;have Mx:=O (show aX ((w3.setCell ⟨qc,6,U⟩ (V (eP d.write))).setCell ⟨qc,8,U⟩ (Y (fB d.write))).drew qb 60 #[I J 0,I J 0,I J 0,I J 0,I J 0,V ⟨#[]⟩,V ⟨#[]⟩,I J 0,Y false]from((wQ.o.cv (show qb≠qc by omega) _).cv (show qb≠qc by omega) _).drew);have mM:=O (show aX ((w3.setCell ⟨qc,6,U⟩ (V (eP d.write))).setCell ⟨qc,8,U⟩ (Y (fB d.write))).drew (qb+1) 33 #[I J 5,V C.key,V emp,I J C.n]from((fL.o.cv (show qb+1≠qc by omega) _).cv (show qb+1≠qc by omega) _).drew);have bE:=dp.o;have ff:=O (show M w ((w3.setCell ⟨qc,6,U⟩ (V (eP d.write))).setCell ⟨qc,8,U⟩ (Y (fB d.write))).drew from((cE.o.setCell (p:=⟨qc,6,U⟩) (.inr (by show w.heap.size<=qc;omega)) _).setCell (p:=⟨qc,8,U⟩) (.inr (by show w.heap.size<=qc;omega)) _).drew);generalize((w3.setCell ⟨qc,6,U⟩ (V (eP d.write))).setCell ⟨qc,8,U⟩ (Y (fB d.write))).drew=w5 at *;clear rE mq xl z6 z8 zl zf6 zf8 hq bE;go_upto_region 9 with(fail);have cZ:=O (λw' (hN:M w5 w')=>(show w'.cell? ⟨db,3,U⟩=G (X (G ⟨rb,0,U⟩))/\w'.cell? ⟨qb+1,1,U⟩=G (V C.key)/\w'.cell? ⟨qc,0,U⟩=G (I J 4)/\w'.cell? ⟨qc,1,U⟩=G (I J i)/\w'.cell? ⟨qc,2,U⟩=G (I J d.aS)/\w'.cell? ⟨qc,3,U⟩=G (I J 0)/\w'.cell? ⟨qc,4,U⟩=G (I J 2)/\w'.cell? ⟨qc,5,U⟩=G (V C.key)/\w'.cell? ⟨qc,6,U⟩=G (V (eP d.write))/\w'.cell? ⟨qc,7,U⟩=G (I J 0)/\w'.cell? ⟨qc,8,U⟩=G (Y (fB d.write))from⟨(HH.o.aR (ff.o.t hN)).aW.c 3,(mM.o.ch hN (λh=>h)).c 1,(dZ.o.ch hN (λh=>h)).c 0,(dZ.o.ch hN (λh=>h)).c 1,(dZ.o.ch hN (λh=>h)).c 2,(dZ.o.ch hN (λh=>h)).c 3,(dZ.o.ch hN (λh=>h)).c 4,(dZ.o.ch hN (λh=>h)).c 5,(dZ.o.ch hN (λh=>h)).c 6,(dZ.o.ch hN (λh=>h)).c 7,(dZ.o.ch hN (λh=>h)).c 8⟩));have⟨s0,s1,c0,c1,c2,c3,c4,c5,c6,c7,c8⟩:=cZ.o _ (Ch.r _ w5);have sl:=(HH.o.aR ff.o).aW.lt;have cl:=dZ.o.lt;have bl:=mM.o.lt;have My:=O (λw' (hN:M w5 w')=>(show(λw'=>w'.cell? ⟨db,3,U⟩=G (X (G ⟨rb,0,U⟩))/\w'.cell? ⟨qb+1,1,U⟩=G (V C.key)/\w'.cell? ⟨qc,0,U⟩=G (I J 4)/\w'.cell? ⟨qc,1,U⟩=G (I J i)/\w'.cell? ⟨qc,2,U⟩=G (I J d.aS)/\w'.cell? ⟨qc,3,U⟩=G (I J 0)/\w'.cell? ⟨qc,4,U⟩=G (I J 2)/\w'.cell? ⟨qc,5,U⟩=G (V C.key)/\w'.cell? ⟨qc,6,U⟩=G (V (eP d.write))/\w'.cell? ⟨qc,7,U⟩=G (I J 0)/\w'.cell? ⟨qc,8,U⟩=G (Y (fB d.write))) ((((((((((w'.setCell ⟨qb,0,U⟩ (I J 4)).setCell ⟨qb,1,U⟩ (I J i)).setCell ⟨qb,2,U⟩ (I J d.aS)).setCell ⟨qb,3,U⟩ (I J 0)).setCell ⟨qb,4,U⟩ (I J 2)).setCell ⟨qb,5,U⟩ (V C.key)).setCell ⟨qb,6,U⟩ (V (eP d.write))).setCell ⟨qb,7,U⟩ (I J 0)).setCell ⟨qb,8,U⟩ (Y (fB d.write))))from by
  have hq:=eC.o;have e:=fQ w' qb (⟨4,i,d.aS,0,2,C.key,eP d.write,0,fB d.write⟩:bQ);have m:=cZ.o w' hN;have k1:=(HH.o.aR (ff.o.t hN)).aW;have k2:=mM.o.ch hN (λh=>h);have k3:=dZ.o.ch hN (λh=>h);have n1: ¬db=qb:=λe=>by have:=HH.o.aW.lt;have:=dp.o;omega
  exact⟨(k1.ch e n1).c 3,(k2.ch e (by omega)).c 1,(k3.ch e (by omega)).c 0,(k3.ch e (by omega)).c 1,(k3.ch e (by omega)).c 2,(k3.ch e (by omega)).c 3,(k3.ch e (by omega)).c 4,(k3.ch e (by omega)).c 5,(k3.ch e (by omega)).c 6,(k3.ch e (by omega)).c 7,(k3.ch e (by omega)).c 8⟩))
 have dB:=O (show M w5 w5.drew from aU w5);dsimp only at My
 go_region_held3(λw'=>w'.cell? ⟨db,3,U⟩=G (X (G ⟨rb,0,U⟩))/\w'.cell? ⟨qb+1,1,U⟩=G (V C.key)/\w'.cell? ⟨qc,0,U⟩=G (I J 4)/\w'.cell? ⟨qc,1,U⟩=G (I J i)/\w'.cell? ⟨qc,2,U⟩=G (I J d.aS)/\w'.cell? ⟨qc,3,U⟩=G (I J 0)/\w'.cell? ⟨qc,4,U⟩=G (I J 2)/\w'.cell? ⟨qc,5,U⟩=G (V C.key)/\w'.cell? ⟨qc,6,U⟩=G (V (eP d.write))/\w'.cell? ⟨qc,7,U⟩=G (I J 0)/\w'.cell? ⟨qc,8,U⟩=G (Y (fB d.write)))
  (first|with_reducible exact cZ.o _ dB.o|with_reducible exact cZ.o _ jn.o|with_reducible exact My.o _ jn.o)
  (first|(go_at_call 37;refine(Ag.o _ (ff.o.t (aU w5))).mono ?_;rintro e w' ⟨rfl,hN⟩;have jn:=O (show M w5 w' from(aU w5).t hN);clear hN;dsimp only;have⟨s0,s1,c0,c1,c2,c3,c4,c5,c6,c7,c8⟩:=cZ.o _ jn.o;have iV:=O (Mx.o.ch jn.o (λh=>h));have zl:=iV.o.lt;have zf:=iV.o.frozen;have z0:=iV.o.c 0;have z1:=iV.o.c 1;have z2:=iV.o.c 2;have z3:=iV.o.c 3;have z4:=iV.o.c 4;have z5:=iV.o.c 5;have z6:=iV.o.c 6;have z7:=iV.o.c 7;have z8:=iV.o.c 8))
 all_goals
  go_wp2_with fail;change bodyPost _ _ _ _ _ (jK _ qb (⟨4,i,d.aS,0,2,C.key,eP d.write,0,fB d.write⟩:bQ));have HY:=O (gz iV.o (⟨4,i,d.aS,0,2,C.key,eP d.write,0,fB d.write⟩:bQ));have iU:=O (fQ w' qb (⟨4,i,d.aS,0,2,C.key,eP d.write,0,fB d.write⟩:bQ));have ir:=O ((ff.o.t jn.o).trans iU.o (λk hk=>.inr (by have:=dp.o;omega)));generalize jK w' qb (⟨4,i,d.aS,0,2,C.key,eP d.write,0,fB d.write⟩:bQ)=w7 at *;have⟨g0,g1,g2,g3,g4⟩:=iP HY.o;have⟨g5,g6,g7,g8⟩:=(show _/\_/\_/\_ from⟨HY.o.c 5,HY.o.c 6,HY.o.c 7,HY.o.c 8⟩);exact aE (v:=aB #[I J (C.h:Nat),cn (⟨4,i,d.aS,0,2,C.key,eP d.write,0,fB d.write⟩:bQ),Y true]) (by simp[results,results157,go_sem,g0,g1,g2,g3,g4,g5,g6,g7,g8]) rfl ⟨rfl,ir.o⟩
end
section
variable{w w':aw}{db rb c:Nat}{C:Cf}{i:Int}{d:eF}{a:qo}{A:Option Addr}{l:List ByteArray}
structure ie(C:Cf)(w:aw)(rb:Nat)(A:Option Addr)(c:Nat)(l:List ByteArray):Prop where
 m:mU w rb A c l
 ns:l.length+1=C.ns
 S3:Iz l C.key=C.h
 w:Mj C
theorem ie.aR(h:ie C w rb A c l)(hC:M w w'):ie C w' rb A c l:=⟨h.m.aR hC,h.ns,h.S3,h.w⟩
theorem ie.ch{S:Nat->Prop}(h:ie C w rb A c l)(hC:Ch S w w')(hS: ∀g,oz rb A l.length c g->¬S g):ie C w' rb A c l:=⟨h.m.ch hC hS,h.ns,h.S3,h.w⟩
theorem ey.Mz(h:ey w db rb C i d a)(hp:d.ph=7): ∃g,w.cell? ⟨db,14,U⟩=G (T (G ⟨g,0,U⟩) 1 a.lc)/\g<w.heap.size/\w.cell? ⟨g,0,U⟩=G (I J (C.h:Int))/\
 d.left=[(C.h:Int)]/\d.bY=[(C.h:Int)]/\a.tA=G ⟨g,0,U⟩/\a.lc=a.tc:=by
 have hl:=h.dR.l7 hp;have ht:d.bY=[(C.h:Int)]:=by
  rcases h.dR.lf with e|e
  ·rw[hl]at e;cases e
  ·exact e.2
 obtain⟨e1,e2⟩:=h.QN (by rw[hl];simp);have S5:w.cell? ⟨db,14,U⟩=G (T a.lA d.left.length a.lc):=h.aW.c 14;have UU:=h.S0;rw[ht]at UU;obtain⟨g,cap,hv,_,hlt⟩:=UU.form (by simp);injection hv with hA _ _;obtain⟨b,off,e,_,hc⟩:=(Rd.own UU) (by simp[ints]);rw[hA]at e;injection e with e;injection e with e3 e4;subst e3 e4;rw[hl,e1,hA]at S5;exact⟨g,S5,hlt,by simpa using hc 0 _ rfl,hl,ht,hA,e2⟩
abbrev zc:Array Value:=#[I J 0,I J 0,I J 0,I J 0,I J 0,V ⟨#[]⟩,V ⟨#[]⟩,I J 0,Y false]
theorem UW(h:ey w db rb C i d a)(hR:ie C w rb A c l)(hp:d.ph=1):
 ax av 93 #[X (G ⟨db,0,U⟩)] w λe w'=>e=ay (aB #[I J (C.h:Nat),cn (⟨2,i,d.aS,0,0,C.key,emp,2,false⟩:bQ),Y true])/\M w w':=by
 have x6:=h.lx hp;have xl:=h.aW.lt;have UX:=O (λw' (hN:M w w')=>BL (h.aR hN) (hR.m.aR hN) hR.S3 (h.dR.zm (by omega)));clear h hR hp;go_enter func93,ntmps93;go_wp2_with fail;obtain⟨w1,bT⟩:=bG (w.alloc (az #[I J 0,I J 0,I J 0,I J 0,I J 0,V ⟨#[]⟩,V ⟨#[]⟩,I J 0,Y false] 60));have cH:=kb bT;have fK:=O (show aX w1 w.heap.size 60 #[I J 0,I J 0,I J 0,I J 0,I J 0,V ⟨#[]⟩,V ⟨#[]⟩,I J 0,Y false]from bT▸aX.new w 60 _);rw[bT];obtain⟨qb,bE⟩:=bG (w.heap.size);rw[bE]at fK
 try simp only[bE]
 have dp:=O bE;clear bT bE x6 xl;refine(UX.o _ cH.o).mono ?_;rintro e w3 ⟨rfl,hN⟩;dsimp only;have rG:=O (cH.o.t hN);have HA:=O (fK.o.ch hN (λh=>h));clear hN;have zl:=HA.o.lt;have zf:=HA.o.frozen;have⟨z0,z1,z2,z3,z4,z5,z6,z7,z8⟩:=kq HA.o;go_wp2_with fail;change bodyPost _ _ _ _ _ (jK w3 qb (⟨2,i,d.aS,0,0,C.key,emp,2,false⟩:bQ));have HY:=O (gz HA.o (⟨2,i,d.aS,0,0,C.key,emp,2,false⟩:bQ));have ir:=O (rG.o.trans (fQ w3 qb (⟨2,i,d.aS,0,0,C.key,emp,2,false⟩:bQ)) (λk hk=>.inr (by have:=dp.o;omega)));generalize jK w3 qb (⟨2,i,d.aS,0,0,C.key,emp,2,false⟩:bQ)=w7 at *;have⟨g0,g1,g2,g3,g4⟩:=iP HY.o;have⟨g5,g6,g7,g8⟩:=(show _/\_/\_/\_ from⟨HY.o.c 5,HY.o.c 6,HY.o.c 7,HY.o.c 8⟩);exact aE (v:=aB #[I J (C.h:Nat),cn (⟨2,i,d.aS,0,0,C.key,emp,2,false⟩:bQ),Y true]) (by simp[results,results93,go_sem,g0,g1,g2,g3,g4,g5,g6,g7,g8]) rfl ⟨rfl,ir.o⟩
theorem UY(h:ey w db rb C i d a)(hR:ie C w rb A c l)(hp:d.ph=3):
 ax av 93 #[X (G ⟨db,0,U⟩)] w λe w'=>e=ay (aB #[I J (C.h:Nat),cn (⟨3,i,d.aS,0,1,C.key,emp,0,false⟩:bQ),Y true])/\M w w':=by
 have x6:=h.lx hp;have xl:=h.aW.lt;have UX:=O (λw' (hN:M w w')=>Ee (h.aR hN) (hR.m.aR hN) hR.S3 (h.dR.zm (by omega)));clear h hR hp;go_enter func93,ntmps93;go_wp2_with fail;obtain⟨w1,bT⟩:=bG (w.alloc (az #[I J 0,I J 0,I J 0,I J 0,I J 0,V ⟨#[]⟩,V ⟨#[]⟩,I J 0,Y false] 60));have cH:=kb bT;have fK:=O (show aX w1 w.heap.size 60 #[I J 0,I J 0,I J 0,I J 0,I J 0,V ⟨#[]⟩,V ⟨#[]⟩,I J 0,Y false]from bT▸aX.new w 60 _);rw[bT];obtain⟨qb,bE⟩:=bG (w.heap.size);rw[bE]at fK
 try simp only[bE]
 have dp:=O bE;clear bT bE x6 xl;refine(UX.o _ cH.o).mono ?_;rintro e w3 ⟨rfl,hN⟩;dsimp only;have rG:=O (cH.o.t hN);have HA:=O (fK.o.ch hN (λh=>h));clear hN;have zl:=HA.o.lt;have zf:=HA.o.frozen;have⟨z0,z1,z2,z3,z4,z5,z6,z7,z8⟩:=kq HA.o;go_wp2_with fail;change bodyPost _ _ _ _ _ (jK w3 qb (⟨3,i,d.aS,0,1,C.key,emp,0,false⟩:bQ));have HY:=O (gz HA.o (⟨3,i,d.aS,0,1,C.key,emp,0,false⟩:bQ));have ir:=O (rG.o.trans (fQ w3 qb (⟨3,i,d.aS,0,1,C.key,emp,0,false⟩:bQ)) (λk hk=>.inr (by have:=dp.o;omega)));generalize jK w3 qb (⟨3,i,d.aS,0,1,C.key,emp,0,false⟩:bQ)=w7 at *;have⟨g0,g1,g2,g3,g4⟩:=iP HY.o;have⟨g5,g6,g7,g8⟩:=(show _/\_/\_/\_ from⟨HY.o.c 5,HY.o.c 6,HY.o.c 7,HY.o.c 8⟩);exact aE (v:=aB #[I J (C.h:Nat),cn (⟨3,i,d.aS,0,1,C.key,emp,0,false⟩:bQ),Y true]) (by simp[results,results93,go_sem,g0,g1,g2,g3,g4,g5,g6,g7,g8]) rfl ⟨rfl,ir.o⟩
theorem UZ(h:ey w db rb C i d a)(hR:ie C w rb A c l)(hp:d.ph=4):
 ax av 93 #[X (G ⟨db,0,U⟩)] w λe w'=>e=ay (aB #[I J (C.h:Nat),cn (⟨4,i,d.aS,0,2,C.key,eP d.write,0,fB d.write⟩:bQ),Y true])/\M w w':=by
 have x6:=h.lx hp;have xl:=h.aW.lt;have UX:=O (λw' (hN:M w w')=>Ef (h.aR hN) (hR.m.aR hN) hR.S3 (h.dR.zm (by omega)));clear h hR hp;go_enter func93,ntmps93;go_wp2_with fail;obtain⟨w1,bT⟩:=bG (w.alloc (az #[I J 0,I J 0,I J 0,I J 0,I J 0,V ⟨#[]⟩,V ⟨#[]⟩,I J 0,Y false] 60));have cH:=kb bT;have fK:=O (show aX w1 w.heap.size 60 #[I J 0,I J 0,I J 0,I J 0,I J 0,V ⟨#[]⟩,V ⟨#[]⟩,I J 0,Y false]from bT▸aX.new w 60 _);rw[bT];obtain⟨qb,bE⟩:=bG (w.heap.size);rw[bE]at fK
 try simp only[bE]
 have dp:=O bE;clear bT bE x6 xl;refine(UX.o _ cH.o).mono ?_;rintro e w3 ⟨rfl,hN⟩;dsimp only;have rG:=O (cH.o.t hN);have HA:=O (fK.o.ch hN (λh=>h));clear hN;have zl:=HA.o.lt;have zf:=HA.o.frozen;have⟨z0,z1,z2,z3,z4,z5,z6,z7,z8⟩:=kq HA.o;go_wp2_with fail;change bodyPost _ _ _ _ _ (jK w3 qb (⟨4,i,d.aS,0,2,C.key,eP d.write,0,fB d.write⟩:bQ));have HY:=O (gz HA.o (⟨4,i,d.aS,0,2,C.key,eP d.write,0,fB d.write⟩:bQ));have ir:=O (rG.o.trans (fQ w3 qb (⟨4,i,d.aS,0,2,C.key,eP d.write,0,fB d.write⟩:bQ)) (λk hk=>.inr (by have:=dp.o;omega)));generalize jK w3 qb (⟨4,i,d.aS,0,2,C.key,eP d.write,0,fB d.write⟩:bQ)=w7 at *;have⟨g0,g1,g2,g3,g4⟩:=iP HY.o;have⟨g5,g6,g7,g8⟩:=(show _/\_/\_/\_ from⟨HY.o.c 5,HY.o.c 6,HY.o.c 7,HY.o.c 8⟩);exact aE (v:=aB #[I J (C.h:Nat),cn (⟨4,i,d.aS,0,2,C.key,eP d.write,0,fB d.write⟩:bQ),Y true]) (by simp[results,results93,go_sem,g0,g1,g2,g3,g4,g5,g6,g7,g8]) rfl ⟨rfl,ir.o⟩
theorem U0(h:ey w db rb C i d a)(hR:ie C w rb A c l)(hp:d.ph=2):
 ax av 93 #[X (G ⟨db,0,U⟩)] w λe w'=>e=ay (aB #[I J (bZ C i:Nat),cn (bk 8 i d.aS),Y true])/\M w w':=by
 have x6:=h.lx hp;have xl:=h.aW.lt;have Eh:=O (λw' (hN:M w w')=>qp (h.aR hN) (hR.m.aR hN) hR.ns hR.w.ns.2);have nV:=O (λw' (hN:M w w')=>fM (h.aR hN) 8);clear h hR hp;go_enter func93,ntmps93;go_wp2_with fail;obtain⟨w1,bT⟩:=bG (w.alloc (az #[I J 0,I J 0,I J 0,I J 0,I J 0,V ⟨#[]⟩,V ⟨#[]⟩,I J 0,Y false] 60));have cH:=kb bT;have fK:=O (show aX w1 w.heap.size 60 #[I J 0,I J 0,I J 0,I J 0,I J 0,V ⟨#[]⟩,V ⟨#[]⟩,I J 0,Y false]from bT▸aX.new w 60 _);rw[bT];obtain⟨qb,bE⟩:=bG (w.heap.size);rw[bE]at fK
 try simp only[bE]
 have dp:=O bE;clear bT bE x6 xl;refine(Eh.o _ cH.o).mono ?_;rintro e w2 ⟨rfl,m,rfl⟩;dsimp only;have bJ:=O (show M w (w1.drewN m)from cH.o.drewN m);have gn:=O (fK.o.drewN m);go_wp2_with fail;refine(nV.o _ bJ.o).mono ?_;rintro e w3 ⟨rfl,hN⟩;dsimp only;have rG:=O (bJ.o.t hN);have HA:=O (gn.o.ch hN (λh=>h));clear hN;have zl:=HA.o.lt;have zf:=HA.o.frozen;have⟨z0,z1,z2,z3,z4,z5,z6,z7,z8⟩:=kq HA.o;go_wp2_with fail;change bodyPost _ _ _ _ _ (jK w3 qb (bk 8 i d.aS));have HY:=O (gz HA.o (bk 8 i d.aS));have ir:=O (rG.o.trans (fQ w3 qb (bk 8 i d.aS)) (λk hk=>.inr (by have:=dp.o;omega)));generalize jK w3 qb (bk 8 i d.aS)=w7 at *;have⟨g0,g1,g2,g3,g4⟩:=iP HY.o;have⟨g5,g6,g7,g8⟩:=(show _/\_/\_/\_ from⟨HY.o.c 5,HY.o.c 6,HY.o.c 7,HY.o.c 8⟩);exact aE (v:=aB #[I J (bZ C i:Nat),cn (bk 8 i d.aS),Y true]) (by simp[results,results93,go_sem,g0,g1,g2,g3,g4,g5,g6,g7,g8]) rfl ⟨rfl,ir.o⟩
theorem U1(h:ey w db rb C i d a)(hR:ie C w rb A c l)(hp:d.ph=5):
 ax av 93 #[X (G ⟨db,0,U⟩)] w λe w'=>e=ay (aB #[I J (bZ C i:Nat),cn (bk 5 i d.aS),Y true])/\M w w':=by
 have x6:=h.lx hp;have xl:=h.aW.lt;have Eh:=O (λw' (hN:M w w')=>qp (h.aR hN) (hR.m.aR hN) hR.ns hR.w.ns.2);have nV:=O (λw' (hN:M w w')=>fM (h.aR hN) 5);clear h hR hp;go_enter func93,ntmps93;go_wp2_with fail;obtain⟨w1,bT⟩:=bG (w.alloc (az #[I J 0,I J 0,I J 0,I J 0,I J 0,V ⟨#[]⟩,V ⟨#[]⟩,I J 0,Y false] 60));have cH:=kb bT;have fK:=O (show aX w1 w.heap.size 60 #[I J 0,I J 0,I J 0,I J 0,I J 0,V ⟨#[]⟩,V ⟨#[]⟩,I J 0,Y false]from bT▸aX.new w 60 _);rw[bT];obtain⟨qb,bE⟩:=bG (w.heap.size);rw[bE]at fK
 try simp only[bE]
 have dp:=O bE;clear bT bE x6 xl;refine(Eh.o _ cH.o).mono ?_;rintro e w2 ⟨rfl,m,rfl⟩;dsimp only;have bJ:=O (show M w (w1.drewN m)from cH.o.drewN m);have gn:=O (fK.o.drewN m);go_wp2_with fail;refine(nV.o _ bJ.o).mono ?_;rintro e w3 ⟨rfl,hN⟩;dsimp only;have rG:=O (bJ.o.t hN);have HA:=O (gn.o.ch hN (λh=>h));clear hN;have zl:=HA.o.lt;have zf:=HA.o.frozen;have⟨z0,z1,z2,z3,z4,z5,z6,z7,z8⟩:=kq HA.o;go_wp2_with fail;change bodyPost _ _ _ _ _ (jK w3 qb (bk 5 i d.aS));have HY:=O (gz HA.o (bk 5 i d.aS));have ir:=O (rG.o.trans (fQ w3 qb (bk 5 i d.aS)) (λk hk=>.inr (by have:=dp.o;omega)));generalize jK w3 qb (bk 5 i d.aS)=w7 at *;have⟨g0,g1,g2,g3,g4⟩:=iP HY.o;have⟨g5,g6,g7,g8⟩:=(show _/\_/\_/\_ from⟨HY.o.c 5,HY.o.c 6,HY.o.c 7,HY.o.c 8⟩);exact aE (v:=aB #[I J (bZ C i:Nat),cn (bk 5 i d.aS),Y true]) (by simp[results,results93,go_sem,g0,g1,g2,g3,g4,g5,g6,g7,g8]) rfl ⟨rfl,ir.o⟩
theorem U2(h:ey w db rb C i d a)(hR:ie C w rb A c l)(hp:d.ph=6):
 ax av 93 #[X (G ⟨db,0,U⟩)] w λe w'=>e=ay (aB #[I J (bZ C i:Nat),cn (bk 6 i d.aS),Y true])/\M w w':=by
 have x6:=h.lx hp;have xl:=h.aW.lt;have Eh:=O (λw' (hN:M w w')=>qp (h.aR hN) (hR.m.aR hN) hR.ns hR.w.ns.2);have nV:=O (λw' (hN:M w w')=>fM (h.aR hN) 6);clear h hR hp;go_enter func93,ntmps93;go_wp2_with fail;obtain⟨w1,bT⟩:=bG (w.alloc (az #[I J 0,I J 0,I J 0,I J 0,I J 0,V ⟨#[]⟩,V ⟨#[]⟩,I J 0,Y false] 60));have cH:=kb bT;have fK:=O (show aX w1 w.heap.size 60 #[I J 0,I J 0,I J 0,I J 0,I J 0,V ⟨#[]⟩,V ⟨#[]⟩,I J 0,Y false]from bT▸aX.new w 60 _);rw[bT];obtain⟨qb,bE⟩:=bG (w.heap.size);rw[bE]at fK
 try simp only[bE]
 have dp:=O bE;clear bT bE x6 xl;refine(Eh.o _ cH.o).mono ?_;rintro e w2 ⟨rfl,m,rfl⟩;dsimp only;have bJ:=O (show M w (w1.drewN m)from cH.o.drewN m);have gn:=O (fK.o.drewN m);go_wp2_with fail;refine(nV.o _ bJ.o).mono ?_;rintro e w3 ⟨rfl,hN⟩;dsimp only;have rG:=O (bJ.o.t hN);have HA:=O (gn.o.ch hN (λh=>h));clear hN;have zl:=HA.o.lt;have zf:=HA.o.frozen;have⟨z0,z1,z2,z3,z4,z5,z6,z7,z8⟩:=kq HA.o;go_wp2_with fail;change bodyPost _ _ _ _ _ (jK w3 qb (bk 6 i d.aS));have HY:=O (gz HA.o (bk 6 i d.aS));have ir:=O (rG.o.trans (fQ w3 qb (bk 6 i d.aS)) (λk hk=>.inr (by have:=dp.o;omega)));generalize jK w3 qb (bk 6 i d.aS)=w7 at *;have⟨g0,g1,g2,g3,g4⟩:=iP HY.o;have⟨g5,g6,g7,g8⟩:=(show _/\_/\_/\_ from⟨HY.o.c 5,HY.o.c 6,HY.o.c 7,HY.o.c 8⟩);exact aE (v:=aB #[I J (bZ C i:Nat),cn (bk 6 i d.aS),Y true]) (by simp[results,results93,go_sem,g0,g1,g2,g3,g4,g5,g6,g7,g8]) rfl ⟨rfl,ir.o⟩
theorem U3(h:ey w db rb C i d a)(hR:ie C w rb A c l)(hp:d.ph=0):
 ax av 93 #[X (G ⟨db,0,U⟩)] w λe w'=>e=ay (aB #[I J (bZ C i:Nat),cn (⟨1,i,d.aS,i+1,0,emp,emp,0,false⟩:bQ),Y true])/\M w w':=by
 have HH:=O h;have x6:=h.lx hp;have xl:=h.aW.lt;have Eh:=O (λw' (hN:M w w')=>qp (h.aR hN) (hR.m.aR hN) hR.ns hR.w.ns.2);have nV:=O (λw' (hN:M w w')=>fM (h.aR hN) 1);clear h hR hp;go_enter func93,ntmps93;go_wp2_with fail;obtain⟨w1,bT⟩:=bG (w.alloc (az #[I J 0,I J 0,I J 0,I J 0,I J 0,V ⟨#[]⟩,V ⟨#[]⟩,I J 0,Y false] 60));have cH:=kb bT;have fK:=O (show aX w1 w.heap.size 60 #[I J 0,I J 0,I J 0,I J 0,I J 0,V ⟨#[]⟩,V ⟨#[]⟩,I J 0,Y false]from bT▸aX.new w 60 _);rw[bT];obtain⟨qb,bE⟩:=bG (w.heap.size);rw[bE]at fK
 try simp only[bE]
 have dp:=O bE;clear bT bE x6 xl;refine(nV.o _ cH.o).mono ?_;rintro e w2 ⟨rfl,hN⟩;dsimp only;have bJ:=O (cH.o.t hN);have gn:=O (fK.o.ch hN (λh=>h));clear hN;have x1:=(HH.o.aR bJ.o).aW.c 1;have xl:=(HH.o.aR bJ.o).aW.lt;go_upto_region 7 with(fail);have cE:=O (show M w (w2.alloc (az (bN (⟨1,i,d.aS,i+1,0,emp,emp,0,false⟩:bQ)) 60))from bJ.o.alloc _);have wQ:=O (show aX (w2.alloc (az (bN (⟨1,i,d.aS,i+1,0,emp,emp,0,false⟩:bQ)) 60)) qb 60 #[I J 0,I J 0,I J 0,I J 0,I J 0,V ⟨#[]⟩,V ⟨#[]⟩,I J 0,Y false]from gn.o.alloc _);have dZ:=O (show aX (w2.alloc (az (bN (⟨1,i,d.aS,i+1,0,emp,emp,0,false⟩:bQ)) 60)) w2.heap.size 60 (bN (⟨1,i,d.aS,i+1,0,emp,emp,0,false⟩:bQ))from aX.new w2 60 _);have eC:=O (show qb<w2.heap.size from gn.o.lt);obtain⟨w5,qC⟩:=bG (w2.alloc (az (bN (⟨1,i,d.aS,i+1,0,emp,emp,0,false⟩:bQ)) 60));obtain⟨qc,qq⟩:=bG (w2.heap.size);rw[qC]at cE wQ dZ;rw[qq]at dZ eC;change Code.wp _ _ _ _ (w2.alloc (az (bN (⟨1,i,d.aS,i+1,0,emp,emp,0,false⟩:bQ)) 60));simp only[qC,qq];clear qC qq x1 xl;have cZ:=O (λw' (hN:M w5 w')=>(show w'.cell? ⟨qc,0,U⟩=G (I J 1)/\w'.cell? ⟨qc,1,U⟩=G (I J i)/\w'.cell? ⟨qc,2,U⟩=G (I J d.aS)/\w'.cell? ⟨qc,3,U⟩=G (I J (i+1))/\w'.cell? ⟨qc,4,U⟩=G (I J 0)/\w'.cell? ⟨qc,5,U⟩=G (V emp)/\w'.cell? ⟨qc,6,U⟩=G (V emp)/\w'.cell? ⟨qc,7,U⟩=G (I J 0)/\w'.cell? ⟨qc,8,U⟩=G (Y false)from⟨(dZ.o.ch hN (λh=>h)).c 0,(dZ.o.ch hN (λh=>h)).c 1,(dZ.o.ch hN (λh=>h)).c 2,(dZ.o.ch hN (λh=>h)).c 3,(dZ.o.ch hN (λh=>h)).c 4,(dZ.o.ch hN (λh=>h)).c 5,(dZ.o.ch hN (λh=>h)).c 6,(dZ.o.ch hN (λh=>h)).c 7,(dZ.o.ch hN (λh=>h)).c 8⟩));have My:=O (λw' (hN:M w5 w')=>(show(λw'=>w'.cell? ⟨qc,0,U⟩=G (I J 1)/\w'.cell? ⟨qc,1,U⟩=G (I J i)/\w'.cell? ⟨qc,2,U⟩=G (I J d.aS)/\w'.cell? ⟨qc,3,U⟩=G (I J (i+1))/\w'.cell? ⟨qc,4,U⟩=G (I J 0)/\w'.cell? ⟨qc,5,U⟩=G (V emp)/\w'.cell? ⟨qc,6,U⟩=G (V emp)/\w'.cell? ⟨qc,7,U⟩=G (I J 0)/\w'.cell? ⟨qc,8,U⟩=G (Y false)) ((((((((((w'.setCell ⟨qb,0,U⟩ (I J 1)).setCell ⟨qb,1,U⟩ (I J i)).setCell ⟨qb,2,U⟩ (I J d.aS)).setCell ⟨qb,3,U⟩ (I J (i+1))).setCell ⟨qb,4,U⟩ (I J 0)).setCell ⟨qb,5,U⟩ (V emp)).setCell ⟨qb,6,U⟩ (V emp)).setCell ⟨qb,7,U⟩ (I J 0)).setCell ⟨qb,8,U⟩ (Y false)))from by
  have hq:=eC.o;have e:=fQ w' qb (⟨1,i,d.aS,i+1,0,emp,emp,0,false⟩:bQ);have k3:=dZ.o.ch hN (λh=>h);exact⟨(k3.ch e (by omega)).c 0,(k3.ch e (by omega)).c 1,(k3.ch e (by omega)).c 2,(k3.ch e (by omega)).c 3,(k3.ch e (by omega)).c 4,(k3.ch e (by omega)).c 5,(k3.ch e (by omega)).c 6,(k3.ch e (by omega)).c 7,(k3.ch e (by omega)).c 8⟩))
 have dB:=O (show M w5 w5.drew from aU w5);dsimp only at My;have⟨c0,c1,c2,c3,c4,c5,c6,c7,c8⟩:=cZ.o _ (Ch.r _ w5);have cl:=dZ.o.lt
 go_region_held3(λw'=>w'.cell? ⟨qc,0,U⟩=G (I J 1)/\w'.cell? ⟨qc,1,U⟩=G (I J i)/\w'.cell? ⟨qc,2,U⟩=G (I J d.aS)/\w'.cell? ⟨qc,3,U⟩=G (I J (i+1))/\w'.cell? ⟨qc,4,U⟩=G (I J 0)/\w'.cell? ⟨qc,5,U⟩=G (V emp)/\w'.cell? ⟨qc,6,U⟩=G (V emp)/\w'.cell? ⟨qc,7,U⟩=G (I J 0)/\w'.cell? ⟨qc,8,U⟩=G (Y false))
  (first|with_reducible exact cZ.o _ dB.o|with_reducible exact cZ.o _ jn.o|with_reducible exact My.o _ jn.o)
  (first|(go_at_call 156;refine(Eh.o _ (cE.o.t dB.o)).mono ?_;rintro e w' ⟨rfl,m,rfl⟩;have jn:=O (show M w5 (w5.drew.drewN m)from dB.o.drewN m);generalize w5.drew.drewN m=w' at *;dsimp only;have⟨c0,c1,c2,c3,c4,c5,c6,c7,c8⟩:=cZ.o _ jn.o;have iV:=O (wQ.o.ch jn.o (λh=>h));have zl:=iV.o.lt;have zf:=iV.o.frozen;have z0:=iV.o.c 0;have z1:=iV.o.c 1;have z2:=iV.o.c 2;have z3:=iV.o.c 3;have z4:=iV.o.c 4;have z5:=iV.o.c 5;have z6:=iV.o.c 6;have z7:=iV.o.c 7;have z8:=iV.o.c 8))
 all_goals
  go_wp2_with fail;have rG:=O (cE.o.t jn.o);change bodyPost _ _ _ _ _ (jK w' qb (⟨1,i,d.aS,i+1,0,emp,emp,0,false⟩:bQ));have HY:=O (gz iV.o (⟨1,i,d.aS,i+1,0,emp,emp,0,false⟩:bQ));have ir:=O (rG.o.trans (fQ w' qb (⟨1,i,d.aS,i+1,0,emp,emp,0,false⟩:bQ)) (λk hk=>.inr (by have:=dp.o;omega)));generalize jK w' qb (⟨1,i,d.aS,i+1,0,emp,emp,0,false⟩:bQ)=w7 at *;have⟨g0,g1,g2,g3,g4⟩:=iP HY.o;have⟨g5,g6,g7,g8⟩:=(show _/\_/\_/\_ from⟨HY.o.c 5,HY.o.c 6,HY.o.c 7,HY.o.c 8⟩);exact aE (v:=aB #[I J (bZ C i:Nat),cn (⟨1,i,d.aS,i+1,0,emp,emp,0,false⟩:bQ),Y true]) (by simp[results,results93,go_sem,g0,g1,g2,g3,g4,g5,g6,g7,g8]) rfl ⟨rfl,ir.o⟩
theorem U4(h:ey w db rb C i d a)(hR:ie C w rb A c l)(hp:d.ph=7):
 ax av 93 #[X (G ⟨db,0,U⟩)] w λe w'=>e=ay (aB #[I J (C.h:Nat),cn (⟨7,i,d.aS,0,(C.h:Int),emp,emp,0,decide (d.o=2)⟩:bQ),Y true])/\M w w':=by
 have HH:=O h;have x6:=h.lx hp;have xl:=h.aW.lt;have nV:=O (λw' (hN:M w w')=>fM (h.aR hN) 7);obtain⟨ar,hY⟩:=bG (decide (d.o=2));have eY:(d.o==2)=ar:=by rw[<-hY];rfl
 rw[hY];have HP:=O hp;have EY:=O eY;clear h hR hp hY eY;go_enter func93,ntmps93;go_wp2_with fail;obtain⟨w1,bT⟩:=bG (w.alloc (az #[I J 0,I J 0,I J 0,I J 0,I J 0,V ⟨#[]⟩,V ⟨#[]⟩,I J 0,Y false] 60));have cH:=kb bT;have fK:=O (show aX w1 w.heap.size 60 #[I J 0,I J 0,I J 0,I J 0,I J 0,V ⟨#[]⟩,V ⟨#[]⟩,I J 0,Y false]from bT▸aX.new w 60 _);rw[bT];obtain⟨qb,bE⟩:=bG (w.heap.size);rw[bE]at fK
 try simp only[bE]
 have dp:=O bE;clear bT bE x6 xl;refine(nV.o _ cH.o).mono ?_;rintro e w2 ⟨rfl,hN⟩;dsimp only;have bJ:=O (cH.o.t hN);have gn:=O (fK.o.ch hN (λh=>h));clear hN;obtain⟨g,q14,nz,gc,_,_,_,_⟩:=(HH.o.aR bJ.o).Mz HP.o;have BK:=(HH.o.aR bJ.o).aW.c 15;have xl:=(HH.o.aR bJ.o).aW.lt;have eY:=EY.o;go_upto_region 22 with(fail)
 go_region
 change Exit.then _ _ _ _ (w2.alloc (az (bN (⟨7,i,d.aS,0,(C.h:Int),emp,emp,0,ar⟩:bQ)) 60)).drew;have cE:=O (show M w (w2.alloc (az (bN (⟨7,i,d.aS,0,(C.h:Int),emp,emp,0,ar⟩:bQ)) 60)).drew from(bJ.o.alloc _).drew);have wQ:=O (show aX (w2.alloc (az (bN (⟨7,i,d.aS,0,(C.h:Int),emp,emp,0,ar⟩:bQ)) 60)).drew qb 60 #[I J 0,I J 0,I J 0,I J 0,I J 0,V ⟨#[]⟩,V ⟨#[]⟩,I J 0,Y false]from(gn.o.alloc _).drew);have gT:=O (show aX (w2.alloc (az (bN (⟨7,i,d.aS,0,(C.h:Int),emp,emp,0,ar⟩:bQ)) 60)).drew w2.heap.size 60 (bN (⟨7,i,d.aS,0,(C.h:Int),emp,emp,0,ar⟩:bQ))from(aX.new w2 60 _).drew);have eC:=O (show qb<w2.heap.size from gn.o.lt);generalize(w2.alloc (az (bN (⟨7,i,d.aS,0,(C.h:Int),emp,emp,0,ar⟩:bQ)) 60)).drew=w3 at *;obtain⟨qc,qq⟩:=bG (w2.heap.size);rw[qq]at gT eC
 try simp only[qq]
 clear qq BK xl q14 nz gc eY;obtain⟨g',q14,nz,gc,_,_,_,_⟩:=(HH.o.aR cE.o).Mz HP.o;have xl:=(HH.o.aR cE.o).aW.lt;have⟨c0,c1,c2,c3,c4⟩:=iP gT.o;have⟨c5,c6,c7,c8⟩:=(show _/\_/\_/\_ from⟨gT.o.c 5,gT.o.c 6,gT.o.c 7,gT.o.c 8⟩);have cl:=gT.o.lt;have zl:=wQ.o.lt;have zf:=wQ.o.frozen;have⟨z0,z1,z2,z3,z4,z5,z6,z7,z8⟩:=kq wQ.o;go_upto_region 23 with(fail)
 go_region
 change Exit.then _ _ _ _ (jK w3 qb (⟨7,i,d.aS,0,(C.h:Int),emp,emp,0,ar⟩:bQ)).drew;have HY:=O (gz wQ.o (⟨7,i,d.aS,0,(C.h:Int),emp,emp,0,ar⟩:bQ)).drew;have ir:=O (cE.o.trans (fQ w3 qb (⟨7,i,d.aS,0,(C.h:Int),emp,emp,0,ar⟩:bQ)) (λk hk=>.inr (by have:=dp.o;omega))).drew;generalize(jK w3 qb (⟨7,i,d.aS,0,(C.h:Int),emp,emp,0,ar⟩:bQ)).drew=w7 at *;clear z0 z1 z2 z3 z4 z5 z6 z7 z8 zl zf c0 c1 c2 c3 c4 c5 c6 c7 c8 cl q14 nz gc xl;have⟨g0,g1,g2,g3,g4⟩:=iP HY.o;have⟨g5,g6,g7,g8⟩:=(show _/\_/\_/\_ from⟨HY.o.c 5,HY.o.c 6,HY.o.c 7,HY.o.c 8⟩);go_wp2_with fail;exact aE (v:=aB #[I J (C.h:Nat),cn (⟨7,i,d.aS,0,(C.h:Int),emp,emp,0,ar⟩:bQ),Y true]) (by simp[results,results93,go_sem,g0,g1,g2,g3,g4,g5,g6,g7,g8]) rfl ⟨rfl,ir.o⟩
theorem MA(h:ey w db rb C i d a)(hp:d.ph=8):
 ax av 93 #[X (G ⟨db,0,U⟩)] w λe w'=>e=ay (aB #[I J 0,aC zc,Y false])/\M w w':=by
 have x6:=h.lx hp;have xl:=h.aW.lt;clear h hp;go_enter func93,ntmps93;go_wp2_with fail;have HB:=aX.new w 60 zc;have⟨g0,g1,g2,g3,g4⟩:=iP HB;have⟨g5,g6,g7,g8⟩:=(show _/\_/\_/\_ from⟨HB.c 5,HB.c 6,HB.c 7,HB.c 8⟩);exact aE (v:=aB #[I J 0,aC zc,Y false]) (by simp[results,results93,go_sem,g0,g1,g2,g3,g4,g5,g6,g7,g8]) rfl ⟨rfl,(Ch.r _ w).alloc _⟩
theorem gP(h:ey w db rb C i d a)(hR:ie C w rb A c l){k:Nat}{cm:bQ}(hn:df C i d=G (k,cm)):
 ax av 93 #[X (G ⟨db,0,U⟩)] w λe w'=>e=ay (aB #[I J (k:Nat),cn cm,Y true])/\M w w':=by
 have hp:=h.dR.ph;unfold df at hn;split at hn
 ·injection hn with hn;injection hn with e1 e2;subst e1 e2;exact U3 h hR (by assumption)
 split at hn
 ·have h0:=h.dR.zm (by omega);rw[h0]at hn;injection hn with hn;injection hn with e1 e2;subst e1 e2;exact UW h hR (by assumption)
 split at hn
 ·injection hn with hn;injection hn with e1 e2;subst e1 e2;exact U0 h hR (by assumption)
 split at hn
 ·have h0:=h.dR.zm (by omega);rw[h0]at hn;injection hn with hn;injection hn with e1 e2;subst e1 e2;exact UY h hR (by assumption)
 split at hn
 ·have h0:=h.dR.zm (by omega);rw[h0]at hn;injection hn with hn;injection hn with e1 e2;subst e1 e2;exact UZ h hR (by assumption)
 split at hn
 ·injection hn with hn;injection hn with e1 e2;subst e1 e2;exact U1 h hR (by assumption)
 split at hn
 ·injection hn with hn;injection hn with e1 e2;subst e1 e2;exact U2 h hR (by assumption)
 split at hn
 ·rename_i h7;rw[h.dR.l7 h7]at hn;injection hn with hn;injection hn with e1 e2;subst e1 e2;exact U4 h hR h7
 ·cases hn
end
def jD(w:aw)(db rb:Nat)(C:Cf)(i:Int)(d:eF)(a:qo)(d':eF)(e:Ending)(w':aw):Prop:=
 e=ay (aB #[])/\∃a',dW w' db rb C i d' a'/\Sub (a.F db d) (a'.F db d') w w'
section
variable{w w':aw}{db rb c:Nat}{C:Cf}{i:Int}{d d':eF}{a a':qo}{A:Option Addr}{l:List ByteArray}
theorem qt(w:aw)(e:TypeId)(size:Nat):w.ownsRow 0 e size (T U 0 0) 0 []:=World.ownsRow_nil w 0 e size
theorem dW.cQ(h:dW w db rb C i d a)(hC:Ch (λk=>k=db) w w')(hb:aX w' db 141 (Ec C rb i d' a'))(e1:a'.pA=a.pA/\a'.pc=a.pc)
 (e2:(d'.res=d.res/\a'.rA=a.rA/\a'.rc=a.rc)\/(d'.res=[]/\a'.rA=U/\a'.rc=0)) (e3:(d'.bY=d.bY/\a'.tA=a.tA/\a'.tc=a.tc)\/(d'.bY=[]/\a'.tA=U/\a'.tc=0))
 (hl:d'.left≠[]->a'.lA=a'.tA/\a'.lc=a'.tc):dW w' db rb C i d' a'/\Sub (a.F db d) (a'.F db d') w w':=by
 obtain⟨p1,p2⟩:=e1;have np: ∀k,(T a.pA 1 a.pc).ownBlock=G k->¬k=db:=λk hk e=>aV h.vd h.aW (by decide) (by rw[<-e];exact hk);have nr: ∀k,(T a.rA d.res.length a.rc).ownBlock=G k->¬k=db:=λk hk e=>aV h.res h.aW (by decide) (by rw[<-e];exact hk);have nt: ∀k,(T a.tA d.bY.length a.tc).ownBlock=G k->¬k=db:=λk hk e=>aV h.S0 h.aW (by decide) (by rw[<-e];exact hk);refine⟨⟨hb,by rw[p1,p2];exact bg h.vd hC np,?_,?_,hl,h.idx⟩,⟨hC.mono (λk hk=>.inl hk),λg hg=>.inl ?_⟩⟩
 ·rcases e2 with⟨r1,r2,r3⟩|⟨r1,r2,r3⟩
  ·rw[r1,r2,r3];exact bg h.res hC nr
  ·rw[r1,r2,r3];exact qt _ _ _
 ·rcases e3 with⟨r1,r2,r3⟩|⟨r1,r2,r3⟩
  ·rw[r1,r2,r3];exact bg h.S0 hC nt
  ·rw[r1,r2,r3];exact qt _ _ _
 ·rcases hg with hg|hg|hg|hg
  ·exact .inl hg
  ·rw[p1,p2]at hg;exact .inr (.inl hg)
  ·rcases e2 with⟨r1,r2,r3⟩|⟨r1,r2,r3⟩
   ·rw[r1,r2,r3]at hg;exact .inr (.inr (.inl hg))
   ·rw[r1,r2,r3]at hg;cases hg
  ·rcases e3 with⟨r1,r2,r3⟩|⟨r1,r2,r3⟩
   ·rw[r1,r2,r3]at hg;exact .inr (.inr (.inr hg))
   ·rw[r1,r2,r3]at hg;cases hg
theorem Ch.at_{b:Nat}(h:Ch (λk=>k=b) w w')(j:Nat)(v:Value):Ch (λk=>k=b) w (w'.setCell ⟨b,j,U⟩ v):=h.setCell (p:=⟨b,j,U⟩) (.inl rfl) v
theorem vg(h:dW w db rb C i d a)(hb:0<=d.aS/\d.aS<=1000):ax av 109 #[X (G ⟨db,0,U⟩)] w (jD w db rb C i d a (iF C d)):=by
 have HH:=O h;have⟨x0,x1,x2,x3,x4,x5,x6,x7,x8,x9,rE,mq,tu,o9,C0,BK,Ed⟩:=h.cells;have xl:=h.aW.lt;have xf:=h.aW.frozen;unfold iF;by_cases h2:d.o=2
 ·rw[if_pos h2];rw[h2]at BK;clear h hb h2;go_enter func109,ntmps109;go_wp2_with fail;refine aE (v:=aB #[]) (by simp[results,results109,go_sem]) rfl ?_;exact⟨rfl,a,HH.o.cQ ((Ch.r _ w).at_ 6 _) (bu (HH.o.aW.bm 6 (I J 8)) (by simp)) ⟨rfl,rfl⟩ (.inl ⟨rfl,rfl,rfl⟩) (.inl ⟨rfl,rfl,rfl⟩) HH.o.QN⟩
 ·rw[if_neg h2];have e2:(d.o==2)=false:=beq_eq_false_iff_ne.2 h2;obtain⟨b0,b1⟩:=hb;have bT:IntKind.i64.wrap (d.aS+1)=d.aS+1:=IntWalk.i64_in _ ⟨by omega,by omega⟩;by_cases h3:C.tries<=d.aS+1
  ·rw[if_pos h3];have e3:decide (d.aS+1>=C.tries)=true:=decide_eq_true h3;clear h h2 h3;go_enter func109,ntmps109;go_upto_region 5 with(fail)
   go_region
   go_wp2_with fail;refine aE (v:=aB #[]) (by simp[results,results109,go_sem]) rfl ?_;exact⟨rfl,{a with rA:=U,rc:=0},HH.o.cQ (((Ch.r _ w).at_ 6 _).at_ 12 _).drew (bu ((HH.o.aW.bm 6 (I J 8)).bm 12 (T U 0 0)).drew (by simp)) ⟨rfl,rfl⟩ (.inr ⟨rfl,rfl,rfl⟩) (.inl ⟨rfl,rfl,rfl⟩) HH.o.QN⟩
  ·rw[if_neg h3];have e3:decide (d.aS+1>=C.tries)=false:=decide_eq_false h3;clear h h2 h3;go_enter func109,ntmps109;go_upto_region 5 with(fail)
   go_region
   go_wp2_with fail;refine aE (v:=aB #[]) (by simp[results,results109,go_sem]) rfl ?_;exact⟨rfl,{a with rA:=U,rc:=0,tA:=U,tc:=0,lA:=U,lc:=0},HH.o.cQ (((((((((Ch.r _ w).at_ 5 _).at_ 6 _).at_ 15 _).at_ 8 _).at_ 9 _).at_ 12 _).at_ 13 _).at_ 14 _).drew
    (bu ((((((((HH.o.aW.bm 5 (I J (d.aS+1))).bm 6 (I J 0)).bm 15 (I J 1)).bm 8 (V ⟨#[]⟩)).bm 9 (Y false)).bm 12 (T U 0 0)).bm 13 (T U 0 0)).bm 14 (T U 0 0)).drew (by simp[eP,fB,emp]))
    ⟨rfl,rfl⟩ (.inr ⟨rfl,rfl,rfl⟩) (.inr ⟨rfl,rfl,rfl⟩) (λh=>absurd rfl h)⟩
theorem lz(h:dW w db rb C i d a)(hb:0<=d.aS/\d.aS<=1000)(st:Int):ax av 177 #[X (G ⟨db,0,U⟩),I J st] w (jD w db rb C i d a (jV C d st)):=by
 have⟨x0,x1,x2,x3,x4,x5,x6,x7,x8,x9,rE,mq,tu,o9,C0,BK,Ed⟩:=h.cells;have xl:=h.aW.lt;have xf:=h.aW.frozen;have HU:=O (h.cQ (d':={d with o:=st,left:=d.bY,ph:=7}) (a':={a with lA:=a.tA,lc:=a.tc}) ((((Ch.r _ w).at_ 15 (I J st)).at_ 14 (T a.tA d.bY.length a.tc)).at_ 6 (I J 7))
  (bu (((h.aW.bm 15 (I J st)).bm 14 (T a.tA d.bY.length a.tc)).bm 6 (I J 7)) (by simp)) ⟨rfl,rfl⟩ (.inl ⟨rfl,rfl,rfl⟩) (.inl ⟨rfl,rfl,rfl⟩) (λ_=>⟨rfl,rfl⟩))
 have HB:=O (vg HU.o.1 hb);unfold jV;dsimp only;by_cases ht:d.bY=[]
 ·rw[if_pos ht];have e1:(((d.bY.length:Nat):Int)==0)=true:=by rw[ht];rfl
  clear h hb ht;go_enter func177,ntmps177;go_wp2_with fail;refine HB.o.mono ?_;rintro e w2 ⟨rfl,a2,h2,s2⟩;dsimp only;have H2:=O h2;have S2:=O s2;clear h2 s2;go_wp2_with fail;refine aE (v:=aB #[]) (by simp[results,results177,go_sem]) rfl ?_;exact⟨rfl,a2,H2.o,HU.o.2.trans S2.o⟩
 ·rw[if_neg ht];have e0:((d.bY.length:Nat):Int)≠0:=by
   intro e;exact ht (List.eq_nil_of_length_eq_zero (by omega))
  have e1:(((d.bY.length:Nat):Int)==0)=false:=beq_eq_false_iff_ne.2 e0;clear h hb ht e0;go_enter func177,ntmps177;go_wp2_with fail;refine aE (v:=aB #[]) (by simp[results,results177,go_sem]) rfl ?_;exact⟨rfl,_,HU.o⟩
end
section
variable{w w':aw}{db rb c:Nat}{C:Cf}{i:Int}{d d':eF}{a a':qo}{A:Option Addr}{l:List ByteArray}
theorem MB(w:aw)(A:Option Addr)(c:Nat)(x:Int):ax av 238 #[T A 0 c,I J x] w λe w'=>e=ay (aB #[I J 0,Y false])/\M w w':=by
 go_enter func238,ntmps238
 go_wp2
 go_loopw[7,8] (λiv jv wr=>iv=I J 0/\jv=I J 0/\M w wr) (λ_ _ _=>0)
 case atStart=>exact⟨rfl,rfl,Ch.r _ _⟩
 case round=>
  obtain⟨rfl,rfl,hN⟩:=hrel;have HN:=O hN;clear hN;go_wp2_with fail;exact aE (v:=aB #[I J 0,Y false]) (by simp[results,results238,go_sem]) rfl ⟨rfl,HN.o⟩
theorem IB{vb:Nat}{x:Int}(h:w.ownsRow 0 3 1 (T A 0 c) 0 [])(hv:aX w vb 3 #[I J x]):
 ax av 239 #[T A 0 c,I J 0,T (G ⟨vb,0,U⟩) 1 1] w λe w'=>∃(A':Option Addr) (c':Nat),e=ay (T A' 1 c')/\w'.ownsRow 0 3 1 (T A' 1 c') 1 [I J x]/\
  Ch (λg=>(T A 0 c).ownBlock=G g) w w'/\((T A' 1 c').ownBlock=(T A 0 c).ownBlock\/(T A' 1 c').ownBlock=G w.heap.size):=by
 obtain⟨i1,dX,er,eu,eK⟩:=info_parts iH;have H:=O h;have lG:=O (show Reads w w.heap.size 1 (G ⟨vb,0,U⟩) 1 [I J x]from⟨rfl,λ_=>⟨_,rfl,hv.lt,λj u hu=>by
  rw[show(⟨vb,0,U⟩:Addr).add j=⟨vb,j,U⟩ by unfold Addr.add;split<;>simp_all,hv.c];simpa using hu⟩⟩)
 clear h hv;go_enter func239,ntmps239;go_wp2_with(first
  |(at_builtin
    refine bp _ rfl (.tmp 23) (.tmp 24) _ rfl 0 3 i1 _ 1 8 underlying40 dX er eu eK rfl (by omega) (T A 0 c) 0 [] rfl
     H.o w.heap.size (G ⟨vb,0,U⟩) 1 1 [I J x] rfl lG.o (by simp[Value.oneCell']) (by simp only[maxLen];omega) (by omega) (Nat.zero_le _) ?_
    intro v8 w8 bM dS dG;obtain⟨A8,c8,rfl⟩:=bz bM;have mh:=O bM;have iT:=O (Ch.bF dS);have nS:=O dG;clear bM dS dG))
 go_ret;exact⟨A8,c8,rfl,by simpa using mh.o,iT.o,nS.o⟩
theorem MC(h:dW w db rb C i d a):ax av 176 #[X (G ⟨db,0,U⟩),I J 1] w (jD w db rb C i d a (gF C d 1)):=by
 have HH:=O h;have x4:w.cell? ⟨db,4,U⟩=G (T a.pA 1 a.pc):=h.aW.c 4;have x6:=h.aW.c 6;have x7:=h.aW.c 7;have xl:=h.aW.lt;have xf:=h.aW.frozen;unfold gF;rw[if_pos (by decide)];clear h;go_enter func176,ntmps176;go_wp2_with fail;refine aE (v:=aB #[]) (by simp[results,results176,go_sem]) rfl ?_;exact⟨rfl,a,HH.o.cQ (((Ch.r _ w).at_ 7 _).at_ 6 _) (bu ((HH.o.aW.bm 7 (I J 1)).bm 6 (I J 5)) (by simp)) ⟨rfl,rfl⟩ (.inl ⟨rfl,rfl,rfl⟩) (.inl ⟨rfl,rfl,rfl⟩) HH.o.QN⟩
theorem MD(h:dW w db rb C i d a)(hR:ie C w rb A c l)(ht:d.bY=[])(Yg:d.left=[]):ax av 176 #[X (G ⟨db,0,U⟩),I J 0] w (jD w db rb C i d a (gF C d 0)):=by
 have HH:=O h;have nR: ∀g,oz rb A l.length c g->¬g=db:=λg hg e=>by
  rcases hg with hg|hg
  ·exact hR.m.aW.lF h.aW (by decide) (by omega)
  ·exact aV hR.m.str.own h.aW (by decide) (by rw[<-e];exact hg)
 have lG:=O (λw' (hC:Ch (λk=>k=db) w w')=>hR.ch hC nR);obtain⟨g,hA,nz,y0,y1,y2,y3⟩:=h.Wz;have x4:w.cell? ⟨db,4,U⟩=G (T a.pA 1 a.pc):=h.aW.c 4;have x6:=h.aW.c 6;have x7:=h.aW.c 7;have xl:=h.aW.lt;have xf:=h.aW.frozen;have HAA:=O hA;have ng: ¬g=db:=λe=>aV h.vd h.aW (by decide) (by rw[hA,e];rfl);have ng': ¬db=g:=λe=>ng e.symm;have e0:gF C d 0={d with at_:=0,ph:=1,bY:=[(C.h:Int)]}:=by
  unfold gF;rw[if_neg (by decide),ht];rfl
 rw[e0];have HT:=O ht;have HLF:=O Yg;rw[hA]at x4;clear h hR ht Yg hA e0;go_enter func176,ntmps176;go_upto_region 2 with(fail);have Yh:=O (HH.o.cQ (d':={d with at_:=0,ph:=1}) (a':=a) (((Ch.r _ w).at_ 7 (I J 0)).at_ 6 (I J 1)) (bu ((HH.o.aW.bm 7 (I J 0)).bm 6 (I J 1)) (by simp)) ⟨rfl,rfl⟩ (.inl ⟨rfl,rfl,rfl⟩) (.inl ⟨rfl,rfl,rfl⟩) HH.o.QN);have bH:=O (lG.o _ (((Ch.r _ w).at_ 7 (I J 0)).at_ 6 (I J 1)));generalize(w.setCell ⟨db,7,U⟩ (I J 0)).setCell ⟨db,6,U⟩ (I J 1)=w2 at *;clear x4 x6 x7 xl xf y0 y1 y2 y3 nz;have cZ:=O (λw' (hN:M w2 w')=>(show w'.cell? ⟨db,3,U⟩=G (X (G ⟨rb,0,U⟩))/\w'.cell? ⟨db,4,U⟩=G (T (G ⟨g,0,U⟩) 1 a.pc)/\w'.cell? ⟨g,1,U⟩=G (V C.key)from by
  have H2:=Yh.o.1.aR hN;obtain⟨g',ur,_,_,y1,_,_⟩:=H2.Wz;have x4:w'.cell? ⟨db,4,U⟩=G (T a.pA 1 a.pc):=H2.aW.c 4;rw[HAA.o]at ur x4;injection ur with ur;injection ur with ur;subst ur;exact⟨H2.aW.c 3,x4,y1⟩))
 have Ag:=O (λw' (hN:M w2 w')=>nK (bH.o.aR hN).m C.key);rw[bH.o.S3]at Ag;have⟨s0,s1,s2⟩:=cZ.o _ (Ch.r _ w2);have sl:=Yh.o.1.aW.lt;have dB:=O (show M w2 w2.drew from aU w2)
 go_region_held3(λw'=>w'.cell? ⟨db,3,U⟩=G (X (G ⟨rb,0,U⟩))/\w'.cell? ⟨db,4,U⟩=G (T (G ⟨g,0,U⟩) 1 a.pc)/\w'.cell? ⟨g,1,U⟩=G (V C.key))
  (first|with_reducible exact cZ.o _ dB.o|with_reducible exact cZ.o _ jn.o)
  (first|(go_at_call 37;refine(Ag.o _ dB.o).mono ?_;rintro e w' ⟨rfl,hN⟩;have jn:=O (show M w2 w' from dB.o.t hN);clear hN;dsimp only))
 all_goals
  have H3:=O (Yh.o.1.aR jn.o);have o9:w'.cell? ⟨db,13,U⟩=G (T a.tA 0 a.tc):=by
   have:=H3.o.aW.c 13;rw[show(Ec C rb i {d with at_:=0,ph:=1} a)[13]?=G (T a.tA d.bY.length a.tc)from rfl,HT.o]at this;exact this
  have xl:=H3.o.aW.lt;go_wp2_with fail;refine(MB _ _ _ _).mono ?_;rintro e w4 ⟨rfl,hN⟩;dsimp only;have dQ:=O (jn.o.t hN);have H4:=O (H3.o.aR hN);clear hN o9 xl;have o9:w4.cell? ⟨db,13,U⟩=G (T a.tA 0 a.tc):=by
   have:=H4.o.aW.c 13;rw[show(Ec C rb i {d with at_:=0,ph:=1} a)[13]?=G (T a.tA d.bY.length a.tc)from rfl,HT.o]at this;exact this
  have xl:=H4.o.aW.lt;go_wp2_with fail;have pN:=O (show(w4.alloc (az #[I J (C.h:Int)] 3)).ownsRow 0 3 1 (T a.tA 0 a.tc) 0 []from by
   have:=(H4.o.aR ((Ch.r _ w4).alloc (az #[I J (C.h:Int)] 3))).S0;dsimp only at this;rw[HT.o]at this;exact this)
  refine(IB pN.o (aX.new w4 3 #[I J (C.h:Int)])).mono ?_;rintro e w6 ⟨A',c',rfl,ho,hc,hat⟩;dsimp only;have H5:=O (H4.o.aR ((Ch.r _ w4).alloc (az #[I J (C.h:Int)] 3)));have ff:=O (dQ.o.alloc (az #[I J (C.h:Int)] 3));have CK:=O ho;have iU:=O hc;have kD:=O hat;have oX:=O (H5.o.aW.ch hc (λe=>aV pN.o H5.o.aW (by decide) e));clear ho hc hat o9 xl;generalize w4.alloc (az #[I J (C.h:Int)] 3)=w5 at *;have o9:=oX.o.c 13;have xl:=oX.o.lt;have xf:=oX.o.frozen;go_wp2_with fail;refine aE (v:=aB #[]) (by simp[results,results176,go_sem]) rfl ?_;have eQ: ∀k,(T A' 1 c').ownBlock=G k->¬k=db:=λk hk e=>aV CK.o oX.o (by decide) (by rw[<-e];exact hk);have hC7:=(Ch.r (λk=>k=db) w6).at_ 13 (T A' 1 c');have qE:=iU.o;have np: ∀k,(T a.pA 1 a.pc).ownBlock=G k->¬(T a.tA 0 a.tc).ownBlock=G k:=λk hk e=>gU H5.o.vd pN.o (by decide) k hk e;have nr: ∀k,(T a.rA d.res.length a.rc).ownBlock=G k->¬(T a.tA 0 a.tc).ownBlock=G k:=λk hk e=>gU H5.o.res pN.o (by decide) k hk e;have hp6:=bg H5.o.vd qE np;have hr6:=bg H5.o.res qE nr;have e1:(T a.tA d.bY.length a.tc).ownBlock=(T a.tA 0 a.tc).ownBlock:=by rw[HT.o];rfl
  refine⟨rfl,{a with tA:=A',tc:=c'},⟨bu (oX.o.bm 13 (T A' 1 c')) (by simp),bg hp6 hC7 (λk hk e=>aV hp6 oX.o (by decide) (by rw[<-e];exact hk)),bg hr6 hC7 (λk hk e=>aV hr6 oX.o (by decide) (by rw[<-e];exact hk)),
   bg CK.o hC7 eQ,λe=>absurd HLF.o e,HH.o.idx⟩,?_,λk hk=>?_⟩
  ·exact((Yh.o.2.ch.t (ff.o.mono (λ_ h=>h.elim))).t (qE.mono (λk hk=>.inr (.inr (.inr (by rw[e1];exact hk)))))).t (hC7.mono (λk hk=>.inl hk))
  ·rcases hk with hk|hk|hk|hk
   ·exact .inl (.inl hk)
   ·exact .inl (.inr (.inl hk))
   ·exact .inl (.inr (.inr (.inl hk)))
   ·rcases kD.o with e|e
    ·exact .inl (.inr (.inr (.inr (by rw[e1, <-e];exact hk))))
    ·have hk:(T A' 1 c').ownBlock=G k:=hk;rw[e]at hk;injection hk with hk;have s1:=Yh.o.2.ch.size;have s2:=ff.o.size;exact .inr (by omega)
end
section
variable{w w':aw}{db rb c:Nat}{C:Cf}{i:Int}{d d':eF}{a a':qo}{A:Option Addr}{l:List ByteArray}
theorem ME:(av.info? 138).map (λi=>(i.zero,i.size,i.bytes))=G (G (aC #[V ⟨#[]⟩,Y false]),2,24):=by kernel_rfl
abbrev opC(C:Cf):Array Value:=#[I J 5,V C.key,V emp,I J C.n]
theorem QO(h:dW w db rb C i d a)(hE:gK.Env w)(h0:d.at_=0)(hr:d.res=[])(code state:Int)(has:kB)(hv:(eP has).size<=1000):
 ax av 175 #[X (G ⟨db,0,U⟩),aC #[I J code,I J state,V (eP has),Y (fB has)]] w
  (jD w db rb C i d a {d with write:=jw C.op has d.last,last:=il C.op has d.last,res:=[il C.op has d.last],ph:=4}):=by
 obtain⟨i1,dX,er,eu,eK⟩:=info_parts ME;have HH:=O h;have pv:=O (λw' (hN:M w w')=>(show ax av 236 #[aC #[I J 5,V C.key,V emp,I J C.n],aC #[V (eP has),Y (fB has)],aC #[V (eP d.last),Y (fB d.last)]] w' _ from
  gK.Mv C.op (by show(1:Int)<=5;decide) (by show(5:Int)<=5;decide) has d.last (hE.aR hN) hv))
 have OE:=O (λw'=>(show ax av 237 #[aC #[I J 5,V C.key,V emp,I J C.n]] w' _ from gK.u5 ⟨5,C.key,emp,C.n⟩ w'));rw[show WX ⟨5,C.key,emp,C.n⟩=true from rfl]at OE;obtain⟨W,hW⟩:=bG (jw C.op has d.last);obtain⟨R,hR⟩:=bG (il C.op has d.last);rw[hW,hR]at pv⊢;clear hW hR;obtain⟨VV,hVV⟩:=bG (eP has);obtain⟨HB,Yi⟩:=bG (fB has);rw[hVV,Yi]at pv⊢;clear hVV Yi hv hE;obtain⟨g,hA,nz,y0,y1,y2,y3⟩:=h.Wz;have x4:w.cell? ⟨db,4,U⟩=G (T a.pA 1 a.pc):=h.aW.c 4;have x7:w.cell? ⟨db,7,U⟩=G (I J d.at_):=h.aW.c 7;have xl:=h.aW.lt;have Ab:=O hr;rw[hA]at x4;rw[h0]at x7;clear h h0 hr hA;go_enter func175,ntmps175;go_upto_region 1 with(fail)
 go_region
 obtain⟨w1,bT⟩:=bG (((w.alloc (az #[I J code,I J state,V VV,Y HB] 66)).alloc (az (opC C) 33)).drew);have cH:=O (show M w w1 from bT▸(((Ch.r _ w).alloc _).alloc _).drew);have fK:=O (show aX w1 w.heap.size 66 #[I J code,I J state,V VV,Y HB]from bT▸((aX.new w 66 _).alloc _).drew);have cw:=O (show aX w1 (w.heap.size+1) 33 (opC C)from by
  have:=(aX.new (w.alloc (az #[I J code,I J state,V VV,Y HB] 66)) 33 (opC C)).drew;rw[World.size_alloc]at this;exact bT▸this)
 rw[bT];obtain⟨qb,bE⟩:=bG (w.heap.size);rw[bE]at fK cw
 try simp only[bE]
 have dp:=O bE;clear bT bE x4 x7 y0 y1 y2 y3 nz xl;have H1:=O (HH.o.aR cH.o);have x8:=H1.o.aW.c 8;have x9:=H1.o.aW.c 9;have xl:=H1.o.aW.lt;have⟨a2,a3⟩:=(show _/\_ from⟨fK.o.c 2,fK.o.c 3⟩);have al:=fK.o.lt;have⟨y0,y1,y2,y3⟩:=eW cw.o;have yl:=cw.o.lt;have Yj:=O (pv.o w1.drew cH.o.drew);go_upto_region 2 with(fail)
 go_cut[15] (λ_ wr=>∃w2,M w1 w2/\wr=((((w2.setCell ⟨db,10,U⟩ (V (eP W))).setCell ⟨db,11,U⟩ (Y (fB W))).setCell ⟨db,8,U⟩ (V (eP R))).setCell ⟨db,9,U⟩ (Y (fB R))))
 case first=>
  go_region_law((go_simp;go_at_call 236;refine Yj.o.mono ?_;rintro e w2 ⟨rfl,hN⟩;have bJ:=O (show M w1 w2 from(aU w1).t hN);clear hN;dsimp only;have H2:=O (H1.o.aR bJ.o);have u8:=H2.o.aW.c 8;have u9:=H2.o.aW.c 9;have u10:=H2.o.aW.c 10;have u11:=H2.o.aW.c 11;have ul:=H2.o.aW.lt;have uf:=H2.o.aW.frozen))
  all_goals
   go_wp2_with fail;go_meet;exact⟨w2,bJ.o,rfl⟩
 case rest=>
  obtain⟨w2,iD,rfl⟩:=hcut;have H2:=O (H1.o.aR iD);have bJ:=O (cH.o.t iD);have cJ:=O (cw.o.ch iD (λh=>h));have HU:=O (H2.o.cQ (d':={d with write:=W,last:=R}) (a':=a) (((((Ch.r _ w2).at_ 10 (V (eP W))).at_ 11 (Y (fB W))).at_ 8 (V (eP R))).at_ 9 (Y (fB R)))
   (bu ((((H2.o.aW.bm 10 (V (eP W))).bm 11 (Y (fB W))).bm 8 (V (eP R))).bm 9 (Y (fB R))) (by simp)) ⟨rfl,rfl⟩ (.inl ⟨rfl,rfl,rfl⟩) (.inl ⟨rfl,rfl,rfl⟩) H2.o.QN)
  have HC:=O (((((Ch.r (λk=>k=db) w2).at_ 10 (V (eP W))).at_ 11 (Y (fB W))).at_ 8 (V (eP R))).at_ 9 (Y (fB R)));have Sm: ¬qb+1=db:=λe=>by have:=HH.o.aW.lt;have:=dp.o;omega
  have fL:=O (cJ.o.ch HC.o Sm);clear iD Sm x8 x9 xl a2 a3 al y0 y1 y2 y3 yl pv Yj fK cw cJ H1;generalize((((w2.setCell ⟨db,10,U⟩ (V (eP W))).setCell ⟨db,11,U⟩ (Y (fB W))).setCell ⟨db,8,U⟩ (V (eP R))).setCell ⟨db,9,U⟩ (Y (fB R)))=w3 at *;have wv:=HU;have x8:w3.cell? ⟨db,8,U⟩=G (V (eP R)):=HU.o.1.aW.c 8;have x9:w3.cell? ⟨db,9,U⟩=G (Y (fB R)):=HU.o.1.aW.c 9;have tu:w3.cell? ⟨db,12,U⟩=G (T a.rA 0 a.rc):=by
   have:=HU.o.1.aW.c 12;rw[show(Ec C rb i {d with write:=W,last:=R} a)[12]?=G (T a.rA d.res.length a.rc)from rfl,Ab.o]at this;exact this
  have xl:=HU.o.1.aW.lt;have mi:=O (show w3.ownsRow 0 138 2 (T a.rA 0 a.rc) 0 []from by
   have:=HU.o.1.res;dsimp only at this;rw[Ab.o]at this;exact this)
  have HOX:=O (λ(aq:aw) (hC:M w3 aq)=>bg mi.o hC (λ_ _ h=>h));have sK:=O (λ(aq w8:aw) (hC:M w3 aq) (hg:aq.grownBy w8 (T a.rA 0 a.rc).ownBlock)=>show aX w8 db 141 (Ec C rb i {d with write:=W,last:=R} a)from
   (HU.o.1.aW.ch hC (λh=>h)).grown hg (λe=>aV mi.o HU.o.1.aW (by decide) e.symm))
  have sr:0+1<=maxLen:=by unfold maxLen;omega
  go_upto_region 3 with(fail)
  go_region_law((refine bL _ rfl (.tmp 39) (.tmp 44) 139 rfl 0 138 i1 _ 2 24 underlying139 dX er eu eK rfl (by decide) (T a.rA 0 a.rc) 0 [] (by simp[Act.eval]) (HOX.o _ (by first|exact((Ch.r _ w3).drew).alloc _|exact((Ch.r _ w3).alloc _).drew|exact(Ch.r _ w3).alloc _)) (w3.heap.size+1) (G ⟨w3.heap.size,0,U⟩) 1 1 [V (eP R),Y (fB R)] (by simp[Act.eval]) (by first|exact cD _ 138 #[V (eP R),Y (fB R)] 1 2 rfl|exact(cD w3 138 #[V (eP R),Y (fB R)] 1 2 rfl).drew) (by simp[Value.oneCell']) sr (by omega) (by omega) ?_;intro v9 w9 cC gV fl;obtain⟨A9,c9,rfl⟩:=bz cC;have mS:=O cC;have Ay:=O gV;have rF:=O fl;have gj:=O (sK.o _ w9 (by first|exact((Ch.r _ w3).drew).alloc _|exact((Ch.r _ w3).alloc _).drew|exact(Ch.r _ w3).alloc _) gV);have nY:=O (Ch.bF gV);clear cC gV fl;have u12:=gj.o.c 12;have ul:=gj.o.lt;have uf:=gj.o.frozen))
  all_goals
   have BM:=O (show Ch (λk=>(T a.rA 0 a.rc).ownBlock=G k) w3 w9 from by first|exact(((Ch.r _ w3).alloc _).drew).t nY.o|exact(((Ch.r _ w3).drew).alloc _).t nY.o|exact((Ch.r _ w3).alloc _).t nY.o);have QP:=O (show∀k,(T A9 1 c9).ownBlock=G k->(T a.rA 0 a.rc).ownBlock=G k\/w3.heap.size<=k from λk hk=>by
    rcases rF.o with e|e
    ·exact .inl (e▸hk)
    ·right
     have kW:(T A9 1 c9).ownBlock=G k:=hk;rw[show(T A9 1 c9).ownBlock=_ from e]at kW;injection kW with kW;have kW:w3.heap.size+1=k:=by first|exact kW|simpa using kW
     omega)
   have HQ9:=O (fL.o.ch BM.o (λe=>aV mi.o fL.o (by decide) e));have Sm: ¬qb+1=db:=λe=>by have:=HH.o.aW.lt;have:=dp.o;omega
   have hS:=(Ch.r (λk=>k=db) w9).at_ 12 (T A9 1 c9);have QR:=O (bg HU.o.1.vd BM.o (λk hk e=>gU HU.o.1.vd mi.o (by decide) k hk e));have HT9:=O (bg HU.o.1.S0 BM.o (λk hk e=>gU HU.o.1.S0 mi.o (by decide) k hk e));have Yk:=O (show w9.ownsRow 0 138 2 (T A9 1 c9) 1 [V (eP R),Y (fB R)]from by simpa using mS.o);have QS:=O (bg QR.o hS (λk hk e=>aV QR.o gj.o (by decide) (by rw[<-e];exact hk)));have qd5:=O (bg HT9.o hS (λk hk e=>aV HT9.o gj.o (by decide) (by rw[<-e];exact hk)));have Pn:=O (bg Yk.o hS (λk hk e=>aV Yk.o gj.o (by decide) (by rw[<-e];exact hk)));have Yl:=O (HQ9.o.ch hS Sm);have Be:=O (show aX (w9.setCell ⟨db,12,U⟩ (T A9 1 c9)) db 141 (Ec C rb i {d with write:=W,last:=R,res:=[R]} {a with rA:=A9,rc:=c9})from bu (gj.o.bm 12 (T A9 1 c9)) (by simp));have qd6:=O hS;clear hS Sm u12 ul uf x8 x9 tu xl mS Ay rF;generalize w9.setCell ⟨db,12,U⟩ (T A9 1 c9)=Kv at *;have⟨y0,y1,y2,y3⟩:=eW Yl.o;have yl:=Yl.o.lt;go_wp2_with fail;refine(OE.o Kv).mono ?_;rintro e Jz ⟨rfl,hN⟩;dsimp only;have Po:=O hN;have Ei:=O (Be.o.ch hN (λh=>h));have Ym:=O (bg QS.o hN (λ_ _ h=>h));have Yn:=O (bg qd5.o hN (λ_ _ h=>h));have Yo:=O (bg Pn.o hN (λ_ _ h=>h));clear hN y0 y1 y2 y3 yl;have u6:=Ei.o.c 6;have ul:=Ei.o.lt;have uf:=Ei.o.frozen;go_wp2_with fail;refine aE (v:=aB #[]) (by simp[results,results175,go_sem]) rfl ?_;have hS:=(Ch.r (λk=>k=db) Jz).at_ 6 (I J 4);have e1:(T a.rA d.res.length a.rc).ownBlock=(T a.rA 0 a.rc).ownBlock:=by rw[Ab.o];rfl
   refine⟨rfl,{a with rA:=A9,rc:=c9},⟨bu (Ei.o.bm 6 (I J 4)) (by simp),bg Ym.o hS (λk hk e=>aV Ym.o Ei.o (by decide) (by rw[<-e];exact hk)),bg Yo.o hS (λk hk e=>aV Yo.o Ei.o (by decide) (by rw[<-e];exact hk)),
    bg Yn.o hS (λk hk e=>aV Yn.o Ei.o (by decide) (by rw[<-e];exact hk)),HH.o.QN,HH.o.idx⟩,?_,λk hk=>?_⟩
   ·exact(((((bJ.o.mono (λ_ h=>h.elim)).t (HU.o.2.ch)).t (BM.o.mono (λk hk=>.inr (.inr (.inl (by rw[e1];exact hk)))))).t (qd6.o.mono (λk hk=>.inl hk))).t (Po.o.mono (λ_ h=>h.elim))).t (hS.mono (λk hk=>.inl hk))
   ·rcases hk with hk|hk|hk|hk
    ·exact .inl (.inl hk)
    ·exact .inl (.inr (.inl hk))
    ·rcases QP.o k hk with e|e
     ·exact .inl (.inr (.inr (.inl (by rw[e1];exact e))))
     ·have s1:=HU.o.2.ch.size;have s2:=bJ.o.size;exact .inr (by omega)
    ·exact .inl (.inr (.inr (.inr hk)))
end
section
variable{w w' w1:aw}{db rb c:Nat}{C:Cf}{i:Int}{d d' d1:eF}{a a' a1:qo}{A:Option Addr}{l:List ByteArray}
theorem jD.aR{e:Ending}(hN:M w w1)(h:jD w1 db rb C i d a d' e w'):jD w db rb C i d a d' e w':=by
 obtain⟨h1,a',h2,h3⟩:=h;exact⟨h1,a',h2,(Sub.bj _ hN).trans h3⟩
theorem U5(h:dW w db rb C i d a)(p:Int):jD w db rb C i d a {d with ph:=p} (ay (aB #[])) (w.setCell ⟨db,6,U⟩ (I J p)):=
 ⟨rfl,a,h.cQ ((Ch.r _ w).at_ 6 _) (bu (h.aW.bm 6 (I J p)) (by simp)) ⟨rfl,rfl⟩ (.inl ⟨rfl,rfl,rfl⟩) (.inl ⟨rfl,rfl,rfl⟩) h.QN⟩
theorem iL(h:dW w db rb C i d a)(p:Int)(o:Obj):jD w db rb C i d a {d with ph:=p} (ay (aB #[])) ((w.setCell ⟨db,6,U⟩ (I J p)).alloc o):=by
 obtain⟨h1,a',h2,h3⟩:=U5 h p;exact⟨rfl,a',h2.aR ((Ch.r _ _).alloc o),h3.trans (Sub.bj _ ((Ch.r _ _).alloc o))⟩
theorem gB(h:dW w db rb C i d a):jD w db rb C i d a d (ay (aB #[])) w:=⟨rfl,a,h,Sub.refl _ _⟩
theorem QT(h:dW w db rb C i d a)(hp:d.ph=1){state:Int}{VV:ByteArray}{HB:Bool}:ax av 108 #[X (G ⟨db,0,U⟩),aC #[I J 9,I J state,V VV,Y HB]] w (jD w db rb C i d a {d with ph:=6}):=by
 have HH:=O h;have x6:w.cell? ⟨db,6,U⟩=G (I J 1):=by have:=h.lx hp;exact this
 have x7:w.cell? ⟨db,7,U⟩=G (I J d.at_):=h.aW.c 7;have xl:=h.aW.lt;have xf:=h.aW.frozen;clear h hp;go_enter func108,ntmps108;go_wp2_with fail;refine aE (v:=aB #[]) (by simp[results,results108,go_sem]) rfl ?_;exact iL HH.o 6 _
theorem QU(h:dW w db rb C i d a)(hp:d.ph=1){state:Int}{VV:ByteArray}{HB:Bool}:ax av 108 #[X (G ⟨db,0,U⟩),aC #[I J 8,I J state,V VV,Y HB]] w (jD w db rb C i d a {d with ph:=6}):=by
 have HH:=O h;have x6:w.cell? ⟨db,6,U⟩=G (I J 1):=by have:=h.lx hp;exact this
 have x7:w.cell? ⟨db,7,U⟩=G (I J d.at_):=h.aW.c 7;have xl:=h.aW.lt;have xf:=h.aW.frozen;clear h hp;go_enter func108,ntmps108;go_wp2_with fail;refine aE (v:=aB #[]) (by simp[results,results108,go_sem]) rfl ?_;exact iL HH.o 6 _
theorem QV(h:dW w db rb C i d a)(hp:d.ph=1){state:Int}{code:Int}(h9:code≠9)(h8:code≠8)(Oi:code≠10)(h0:code≠0){VV:ByteArray}{HB:Bool}:ax av 108 #[X (G ⟨db,0,U⟩),aC #[I J code,I J state,V VV,Y HB]] w (jD w db rb C i d a d):=by
 have HN:=O (show M w (w.alloc (az #[I J code,I J state,V VV,Y HB] 66))from(Ch.r _ w).alloc _);have H1:=O (h.aR (w':=w.alloc (az #[I J code,I J state,V VV,Y HB] 66)) ((Ch.r _ w).alloc _));have x6:w.cell? ⟨db,6,U⟩=G (I J 1):=by have:=h.lx hp;exact this
 have x7:w.cell? ⟨db,7,U⟩=G (I J d.at_):=h.aW.c 7;have xl:=h.aW.lt;have xf:=h.aW.frozen;have e9:(code==9)=false:=beq_eq_false_iff_ne.2 h9;have e8:(code==8)=false:=beq_eq_false_iff_ne.2 h8;have e0:(code==0)=false:=beq_eq_false_iff_ne.2 h0;have e10:(code==10)=false:=beq_eq_false_iff_ne.2 Oi;clear h9 h8 h0 Oi;clear h hp;go_enter func108,ntmps108;go_wp2_with fail;refine aE (v:=aB #[]) (by simp[results,results108,go_sem]) rfl ?_;exact(gB H1.o).aR HN.o
theorem QW(h:dW w db rb C i d a)(hp:d.ph=3){state:Int}{VV:ByteArray}{HB:Bool}:ax av 108 #[X (G ⟨db,0,U⟩),aC #[I J 9,I J state,V VV,Y HB]] w (jD w db rb C i d a {d with ph:=6}):=by
 have HH:=O h;have x6:w.cell? ⟨db,6,U⟩=G (I J 3):=by have:=h.lx hp;exact this
 have x7:w.cell? ⟨db,7,U⟩=G (I J d.at_):=h.aW.c 7;have xl:=h.aW.lt;have xf:=h.aW.frozen;clear h hp;go_enter func108,ntmps108;go_wp2_with fail;refine aE (v:=aB #[]) (by simp[results,results108,go_sem]) rfl ?_;exact iL HH.o 6 _
theorem QX(h:dW w db rb C i d a)(hp:d.ph=3){state:Int}{VV:ByteArray}{HB:Bool}:ax av 108 #[X (G ⟨db,0,U⟩),aC #[I J 8,I J state,V VV,Y HB]] w (jD w db rb C i d a {d with ph:=6}):=by
 have HH:=O h;have x6:w.cell? ⟨db,6,U⟩=G (I J 3):=by have:=h.lx hp;exact this
 have x7:w.cell? ⟨db,7,U⟩=G (I J d.at_):=h.aW.c 7;have xl:=h.aW.lt;have xf:=h.aW.frozen;clear h hp;go_enter func108,ntmps108;go_wp2_with fail;refine aE (v:=aB #[]) (by simp[results,results108,go_sem]) rfl ?_;exact iL HH.o 6 _
theorem QY(h:dW w db rb C i d a)(hp:d.ph=3){state:Int}{code:Int}(h9:code≠9)(h8:code≠8)(h0:code≠0){VV:ByteArray}{HB:Bool}:ax av 108 #[X (G ⟨db,0,U⟩),aC #[I J code,I J state,V VV,Y HB]] w (jD w db rb C i d a d):=by
 have HN:=O (show M w (w.alloc (az #[I J code,I J state,V VV,Y HB] 66))from(Ch.r _ w).alloc _);have H1:=O (h.aR (w':=w.alloc (az #[I J code,I J state,V VV,Y HB] 66)) ((Ch.r _ w).alloc _));have x6:w.cell? ⟨db,6,U⟩=G (I J 3):=by have:=h.lx hp;exact this
 have x7:w.cell? ⟨db,7,U⟩=G (I J d.at_):=h.aW.c 7;have xl:=h.aW.lt;have xf:=h.aW.frozen;have e9:(code==9)=false:=beq_eq_false_iff_ne.2 h9;have e8:(code==8)=false:=beq_eq_false_iff_ne.2 h8;have e0:(code==0)=false:=beq_eq_false_iff_ne.2 h0;clear h9 h8 h0;clear h hp;go_enter func108,ntmps108;go_wp2_with fail;refine aE (v:=aB #[]) (by simp[results,results108,go_sem]) rfl ?_;exact(gB H1.o).aR HN.o
theorem QZ(h:dW w db rb C i d a)(hp:d.ph=4){state:Int}{VV:ByteArray}{HB:Bool}:ax av 108 #[X (G ⟨db,0,U⟩),aC #[I J 9,I J state,V VV,Y HB]] w (jD w db rb C i d a {d with ph:=6}):=by
 have HH:=O h;have x6:w.cell? ⟨db,6,U⟩=G (I J 4):=by have:=h.lx hp;exact this
 have x7:w.cell? ⟨db,7,U⟩=G (I J d.at_):=h.aW.c 7;have xl:=h.aW.lt;have xf:=h.aW.frozen;clear h hp;go_enter func108,ntmps108;go_wp2_with fail;refine aE (v:=aB #[]) (by simp[results,results108,go_sem]) rfl ?_;exact iL HH.o 6 _
theorem Q0(h:dW w db rb C i d a)(hp:d.ph=4){state:Int}{VV:ByteArray}{HB:Bool}:ax av 108 #[X (G ⟨db,0,U⟩),aC #[I J 8,I J state,V VV,Y HB]] w (jD w db rb C i d a {d with ph:=6}):=by
 have HH:=O h;have x6:w.cell? ⟨db,6,U⟩=G (I J 4):=by have:=h.lx hp;exact this
 have x7:w.cell? ⟨db,7,U⟩=G (I J d.at_):=h.aW.c 7;have xl:=h.aW.lt;have xf:=h.aW.frozen;clear h hp;go_enter func108,ntmps108;go_wp2_with fail;refine aE (v:=aB #[]) (by simp[results,results108,go_sem]) rfl ?_;exact iL HH.o 6 _
theorem Q1(h:dW w db rb C i d a)(hp:d.ph=4){state:Int}{code:Int}(h9:code≠9)(h8:code≠8)(h0:code≠0){VV:ByteArray}{HB:Bool}:ax av 108 #[X (G ⟨db,0,U⟩),aC #[I J code,I J state,V VV,Y HB]] w (jD w db rb C i d a d):=by
 have HN:=O (show M w (w.alloc (az #[I J code,I J state,V VV,Y HB] 66))from(Ch.r _ w).alloc _);have H1:=O (h.aR (w':=w.alloc (az #[I J code,I J state,V VV,Y HB] 66)) ((Ch.r _ w).alloc _));have x6:w.cell? ⟨db,6,U⟩=G (I J 4):=by have:=h.lx hp;exact this
 have x7:w.cell? ⟨db,7,U⟩=G (I J d.at_):=h.aW.c 7;have xl:=h.aW.lt;have xf:=h.aW.frozen;have e9:(code==9)=false:=beq_eq_false_iff_ne.2 h9;have e8:(code==8)=false:=beq_eq_false_iff_ne.2 h8;have e0:(code==0)=false:=beq_eq_false_iff_ne.2 h0;clear h9 h8 h0;clear h hp;go_enter func108,ntmps108;go_wp2_with fail;refine aE (v:=aB #[]) (by simp[results,results108,go_sem]) rfl ?_;exact(gB H1.o).aR HN.o
theorem MF(h:dW w db rb C i d a)(hp:d.ph=1){state:Int}{VV:ByteArray}{HB:Bool}:ax av 108 #[X (G ⟨db,0,U⟩),aC #[I J 10,I J state,V VV,Y HB]] w (jD w db rb C i d a {d with ph:=2}):=by
 have HH:=O h;have x6:w.cell? ⟨db,6,U⟩=G (I J 1):=by have:=h.lx hp;exact this
 have x7:w.cell? ⟨db,7,U⟩=G (I J d.at_):=h.aW.c 7;have xl:=h.aW.lt;have xf:=h.aW.frozen;clear h hp;go_enter func108,ntmps108;go_wp2_with fail;refine aE (v:=aB #[]) (by simp[results,results108,go_sem]) rfl ?_;exact iL HH.o 2 _
theorem Q2(h:dW w db rb C i d a)(hp:d.ph=1){state:Int}{VV:ByteArray}{HB:Bool}:ax av 108 #[X (G ⟨db,0,U⟩),aC #[I J 0,I J state,V VV,Y HB]] w (jD w db rb C i d a {d with ph:=3}):=by
 have HH:=O h;have x6:w.cell? ⟨db,6,U⟩=G (I J 1):=by have:=h.lx hp;exact this
 have x7:w.cell? ⟨db,7,U⟩=G (I J d.at_):=h.aW.c 7;have xl:=h.aW.lt;have xf:=h.aW.frozen;clear h hp;go_enter func108,ntmps108;go_wp2_with fail;refine aE (v:=aB #[]) (by simp[results,results108,go_sem]) rfl ?_;exact iL HH.o 3 _
theorem Q3(h:dW w db rb C i d a)(hp:d.ph=4){state:Int}(h0:d.at_=0){VV:ByteArray}{HB:Bool}:ax av 108 #[X (G ⟨db,0,U⟩),aC #[I J 0,I J state,V VV,Y HB]] w (jD w db rb C i d a (gF C d 1)):=by
 have HN:=O (show M w (w.alloc (az #[I J 0,I J state,V VV,Y HB] 66))from(Ch.r _ w).alloc _);have H1:=O (h.aR (w':=w.alloc (az #[I J 0,I J state,V VV,Y HB] 66)) ((Ch.r _ w).alloc _));have x6:w.cell? ⟨db,6,U⟩=G (I J 4):=by have:=h.lx hp;exact this
 have x7:w.cell? ⟨db,7,U⟩=G (I J d.at_):=h.aW.c 7;have xl:=h.aW.lt;have xf:=h.aW.frozen;rw[h0]at x7;clear h0;clear h hp;go_enter func108,ntmps108;go_wp2_with fail;refine(MC H1.o).mono ?_;rintro e w2 h2;obtain⟨rfl,h2⟩:=h2;dsimp only;have H2:=O h2;clear h2;go_wp2_with fail;refine aE (v:=aB #[]) (by simp[results,results108,go_sem]) rfl ?_;exact jD.aR HN.o ⟨rfl,H2.o⟩
theorem Q4(h:dW w db rb C i d a)(hp:d.ph=3)(hE:gK.Env w)(h0:d.at_=0)(hr:d.res=[])(state:Int)(has:kB)(hv:(eP has).size<=1000):
 ax av 108 #[X (G ⟨db,0,U⟩),aC #[I J 0,I J state,V (eP has),Y (fB has)]] w
  (jD w db rb C i d a {d with write:=jw C.op has d.last,last:=il C.op has d.last,res:=[il C.op has d.last],ph:=4}):=by
 have HN:=O (show M w (w.alloc (az #[I J 0,I J state,V (eP has),Y (fB has)] 66))from(Ch.r _ w).alloc _);have HG:=O (QO (h.aR HN.o) (hE.aR HN.o) h0 hr 0 state has hv);obtain⟨D,hD⟩: ∃D:eF,{d with write:=jw C.op has d.last,last:=il C.op has d.last,res:=[il C.op has d.last],ph:=4}=D:=⟨_,rfl⟩;rw[hD]at HG⊢;have x6:w.cell? ⟨db,6,U⟩=G (I J 3):=h.lx hp;have xl:=h.aW.lt;generalize eP has=VV at *;generalize fB has=HB at *;clear h hp hE h0 hr hD hv;go_enter func108,ntmps108;go_wp2_with fail;refine(HG.o).mono ?_;rintro e w2 h2;obtain⟨rfl,h2⟩:=h2;dsimp only;have H2:=O h2;clear h2;go_wp2_with fail;refine aE (v:=aB #[]) (by simp[results,results108,go_sem]) rfl ?_;exact jD.aR HN.o ⟨rfl,H2.o⟩
theorem Q5(h:dW w db rb C i d a)(hp:d.ph=0){state:Int}(hb:0<=d.aS/\d.aS<=1000){VV:ByteArray}{HB:Bool}:ax av 110 #[X (G ⟨db,0,U⟩),aC #[I J 9,I J state,V VV,Y HB]] w (jD w db rb C i d a (jV C d 3)):=by
 have HN:=O (show M w (w.alloc (az #[I J 9,I J state,V VV,Y HB] 66))from(Ch.r _ w).alloc _);have H1:=O (h.aR (w':=w.alloc (az #[I J 9,I J state,V VV,Y HB] 66)) ((Ch.r _ w).alloc _));have x6:w.cell? ⟨db,6,U⟩=G (I J 0):=by have:=h.lx hp;exact this
 have x7:w.cell? ⟨db,7,U⟩=G (I J d.at_):=h.aW.c 7;have xl:=h.aW.lt;have xf:=h.aW.frozen;have cw:=O hb;clear hb;clear h hp;go_enter func110,ntmps110;go_wp2_with fail;refine(lz H1.o cw.o 3).mono ?_;rintro e w2 h2;obtain⟨rfl,h2⟩:=h2;dsimp only;have H2:=O h2;clear h2;go_wp2_with fail;refine aE (v:=aB #[]) (by simp[results,results110,go_sem]) rfl ?_;exact jD.aR HN.o ⟨rfl,H2.o⟩
theorem MG(h:dW w db rb C i d a)(hp:d.ph=0)(hR:ie C w rb A c l)(ht:d.bY=[])(Yg:d.left=[]){VV:ByteArray}{HB:Bool}:ax av 110 #[X (G ⟨db,0,U⟩),aC #[I J 0,I J 1,V VV,Y HB]] w (jD w db rb C i d a (gF C d 0)):=by
 have HN:=O (show M w (w.alloc (az #[I J 0,I J 1,V VV,Y HB] 66))from(Ch.r _ w).alloc _);have H1:=O (h.aR (w':=w.alloc (az #[I J 0,I J 1,V VV,Y HB] 66)) ((Ch.r _ w).alloc _));have x6:w.cell? ⟨db,6,U⟩=G (I J 0):=by have:=h.lx hp;exact this
 have x7:w.cell? ⟨db,7,U⟩=G (I J d.at_):=h.aW.c 7;have xl:=h.aW.lt;have xf:=h.aW.frozen;have HR:=O (hR.aR HN.o);have HT:=O ht;have HLF:=O Yg;clear hR ht Yg;clear h hp;go_enter func110,ntmps110;go_wp2_with fail;refine(MD H1.o HR.o HT.o HLF.o).mono ?_;rintro e w2 h2;obtain⟨rfl,h2⟩:=h2;dsimp only;have H2:=O h2;clear h2;go_wp2_with fail;refine aE (v:=aB #[]) (by simp[results,results110,go_sem]) rfl ?_;exact jD.aR HN.o ⟨rfl,H2.o⟩
theorem Q6(h:dW w db rb C i d a)(hp:d.ph=0){code state:Int}(h9:code≠9)(h0:code≠0){VV:ByteArray}{HB:Bool}:ax av 110 #[X (G ⟨db,0,U⟩),aC #[I J code,I J state,V VV,Y HB]] w (jD w db rb C i d a d):=by
 have HN:=O (show M w (w.alloc (az #[I J code,I J state,V VV,Y HB] 66))from(Ch.r _ w).alloc _);have H1:=O (h.aR (w':=w.alloc (az #[I J code,I J state,V VV,Y HB] 66)) ((Ch.r _ w).alloc _));have x6:w.cell? ⟨db,6,U⟩=G (I J 0):=by have:=h.lx hp;exact this
 have x7:w.cell? ⟨db,7,U⟩=G (I J d.at_):=h.aW.c 7;have xl:=h.aW.lt;have xf:=h.aW.frozen;have e9:(code==9)=false:=beq_eq_false_iff_ne.2 h9;have e0:(code==0)=false:=beq_eq_false_iff_ne.2 h0;clear h9 h0;clear h hp;go_enter func110,ntmps110;go_wp2_with fail;refine aE (v:=aB #[]) (by simp[results,results110,go_sem]) rfl ?_;exact(gB H1.o).aR HN.o
theorem MH(h:dW w db rb C i d a)(hp:d.ph=2)(hb:0<=d.aS/\d.aS<=1000){VV:ByteArray}{HB:Bool}:ax av 110 #[X (G ⟨db,0,U⟩),aC #[I J 0,I J 3,V VV,Y HB]] w (jD w db rb C i d a (jV C d 3)):=by
 have HN:=O (show M w (w.alloc (az #[I J 0,I J 3,V VV,Y HB] 66))from(Ch.r _ w).alloc _);have H1:=O (h.aR (w':=w.alloc (az #[I J 0,I J 3,V VV,Y HB] 66)) ((Ch.r _ w).alloc _));have x6:w.cell? ⟨db,6,U⟩=G (I J 2):=by have:=h.lx hp;exact this
 have x7:w.cell? ⟨db,7,U⟩=G (I J d.at_):=h.aW.c 7;have xl:=h.aW.lt;have xf:=h.aW.frozen;have cw:=O hb;clear hb;clear h hp;go_enter func110,ntmps110;go_wp2_with fail;refine(lz H1.o cw.o 3).mono ?_;rintro e w2 h2;obtain⟨rfl,h2⟩:=h2;dsimp only;have H2:=O h2;clear h2;go_wp2_with fail;refine aE (v:=aB #[]) (by simp[results,results110,go_sem]) rfl ?_;exact jD.aR HN.o ⟨rfl,H2.o⟩
theorem Q7(h:dW w db rb C i d a)(hp:d.ph=2){code state:Int}(h0:code≠0){VV:ByteArray}{HB:Bool}:ax av 110 #[X (G ⟨db,0,U⟩),aC #[I J code,I J state,V VV,Y HB]] w (jD w db rb C i d a {d with ph:=1}):=by
 have HH:=O h;have x6:w.cell? ⟨db,6,U⟩=G (I J 2):=by have:=h.lx hp;exact this
 have x7:w.cell? ⟨db,7,U⟩=G (I J d.at_):=h.aW.c 7;have xl:=h.aW.lt;have xf:=h.aW.frozen;have e0:(code==0)=false:=beq_eq_false_iff_ne.2 h0;clear h0;clear h hp;go_enter func110,ntmps110;go_wp2_with fail;refine aE (v:=aB #[]) (by simp[results,results110,go_sem]) rfl ?_;exact iL HH.o 1 _
theorem MI(h:dW w db rb C i d a)(hp:d.ph=5)(hb:0<=d.aS/\d.aS<=1000){VV:ByteArray}{HB:Bool}:ax av 110 #[X (G ⟨db,0,U⟩),aC #[I J 0,I J 2,V VV,Y HB]] w (jD w db rb C i d a (jV C d 2)):=by
 have HN:=O (show M w (w.alloc (az #[I J 0,I J 2,V VV,Y HB] 66))from(Ch.r _ w).alloc _);have H1:=O (h.aR (w':=w.alloc (az #[I J 0,I J 2,V VV,Y HB] 66)) ((Ch.r _ w).alloc _));have x6:w.cell? ⟨db,6,U⟩=G (I J 5):=by have:=h.lx hp;exact this
 have x7:w.cell? ⟨db,7,U⟩=G (I J d.at_):=h.aW.c 7;have xl:=h.aW.lt;have xf:=h.aW.frozen;have cw:=O hb;clear hb;clear h hp;go_enter func110,ntmps110;go_wp2_with fail;refine(lz H1.o cw.o 2).mono ?_;rintro e w2 h2;obtain⟨rfl,h2⟩:=h2;dsimp only;have H2:=O h2;clear h2;go_wp2_with fail;refine aE (v:=aB #[]) (by simp[results,results110,go_sem]) rfl ?_;exact jD.aR HN.o ⟨rfl,H2.o⟩
theorem MJ(h:dW w db rb C i d a)(hp:d.ph=5)(hb:0<=d.aS/\d.aS<=1000){VV:ByteArray}{HB:Bool}:ax av 110 #[X (G ⟨db,0,U⟩),aC #[I J 0,I J 3,V VV,Y HB]] w (jD w db rb C i d a (jV C d 3)):=by
 have HN:=O (show M w (w.alloc (az #[I J 0,I J 3,V VV,Y HB] 66))from(Ch.r _ w).alloc _);have H1:=O (h.aR (w':=w.alloc (az #[I J 0,I J 3,V VV,Y HB] 66)) ((Ch.r _ w).alloc _));have x6:w.cell? ⟨db,6,U⟩=G (I J 5):=by have:=h.lx hp;exact this
 have x7:w.cell? ⟨db,7,U⟩=G (I J d.at_):=h.aW.c 7;have xl:=h.aW.lt;have xf:=h.aW.frozen;have cw:=O hb;clear hb;clear h hp;go_enter func110,ntmps110;go_wp2_with fail;refine(lz H1.o cw.o 3).mono ?_;rintro e w2 h2;obtain⟨rfl,h2⟩:=h2;dsimp only;have H2:=O h2;clear h2;go_wp2_with fail;refine aE (v:=aB #[]) (by simp[results,results110,go_sem]) rfl ?_;exact jD.aR HN.o ⟨rfl,H2.o⟩
theorem Q8(h:dW w db rb C i d a)(hp:d.ph=5){code state:Int}(h0:code≠0){VV:ByteArray}{HB:Bool}:ax av 110 #[X (G ⟨db,0,U⟩),aC #[I J code,I J state,V VV,Y HB]] w (jD w db rb C i d a d):=by
 have HN:=O (show M w (w.alloc (az #[I J code,I J state,V VV,Y HB] 66))from(Ch.r _ w).alloc _);have H1:=O (h.aR (w':=w.alloc (az #[I J code,I J state,V VV,Y HB] 66)) ((Ch.r _ w).alloc _));have x6:w.cell? ⟨db,6,U⟩=G (I J 5):=by have:=h.lx hp;exact this
 have x7:w.cell? ⟨db,7,U⟩=G (I J d.at_):=h.aW.c 7;have xl:=h.aW.lt;have xf:=h.aW.frozen;have e0:(code==0)=false:=beq_eq_false_iff_ne.2 h0;clear h0;clear h hp;go_enter func110,ntmps110;go_wp2_with fail;refine aE (v:=aB #[]) (by simp[results,results110,go_sem]) rfl ?_;exact(gB H1.o).aR HN.o
theorem MK(h:dW w db rb C i d a)(hp:d.ph=6)(hb:0<=d.aS/\d.aS<=1000){VV:ByteArray}{HB:Bool}:ax av 110 #[X (G ⟨db,0,U⟩),aC #[I J 0,I J 2,V VV,Y HB]] w (jD w db rb C i d a (jV C d 2)):=by
 have HN:=O (show M w (w.alloc (az #[I J 0,I J 2,V VV,Y HB] 66))from(Ch.r _ w).alloc _);have H1:=O (h.aR (w':=w.alloc (az #[I J 0,I J 2,V VV,Y HB] 66)) ((Ch.r _ w).alloc _));have x6:w.cell? ⟨db,6,U⟩=G (I J 6):=by have:=h.lx hp;exact this
 have x7:w.cell? ⟨db,7,U⟩=G (I J d.at_):=h.aW.c 7;have xl:=h.aW.lt;have xf:=h.aW.frozen;have cw:=O hb;clear hb;clear h hp;go_enter func110,ntmps110;go_wp2_with fail;refine(lz H1.o cw.o 2).mono ?_;rintro e w2 h2;obtain⟨rfl,h2⟩:=h2;dsimp only;have H2:=O h2;clear h2;go_wp2_with fail;refine aE (v:=aB #[]) (by simp[results,results110,go_sem]) rfl ?_;exact jD.aR HN.o ⟨rfl,H2.o⟩
theorem ML(h:dW w db rb C i d a)(hp:d.ph=6)(hb:0<=d.aS/\d.aS<=1000){VV:ByteArray}{HB:Bool}:ax av 110 #[X (G ⟨db,0,U⟩),aC #[I J 0,I J 3,V VV,Y HB]] w (jD w db rb C i d a (jV C d 3)):=by
 have HN:=O (show M w (w.alloc (az #[I J 0,I J 3,V VV,Y HB] 66))from(Ch.r _ w).alloc _);have H1:=O (h.aR (w':=w.alloc (az #[I J 0,I J 3,V VV,Y HB] 66)) ((Ch.r _ w).alloc _));have x6:w.cell? ⟨db,6,U⟩=G (I J 6):=by have:=h.lx hp;exact this
 have x7:w.cell? ⟨db,7,U⟩=G (I J d.at_):=h.aW.c 7;have xl:=h.aW.lt;have xf:=h.aW.frozen;have cw:=O hb;clear hb;clear h hp;go_enter func110,ntmps110;go_wp2_with fail;refine(lz H1.o cw.o 3).mono ?_;rintro e w2 h2;obtain⟨rfl,h2⟩:=h2;dsimp only;have H2:=O h2;clear h2;go_wp2_with fail;refine aE (v:=aB #[]) (by simp[results,results110,go_sem]) rfl ?_;exact jD.aR HN.o ⟨rfl,H2.o⟩
theorem Q9(h:dW w db rb C i d a)(hp:d.ph=6){code state:Int}(h0:code≠0){VV:ByteArray}{HB:Bool}:ax av 110 #[X (G ⟨db,0,U⟩),aC #[I J code,I J state,V VV,Y HB]] w (jD w db rb C i d a d):=by
 have HN:=O (show M w (w.alloc (az #[I J code,I J state,V VV,Y HB] 66))from(Ch.r _ w).alloc _);have H1:=O (h.aR (w':=w.alloc (az #[I J code,I J state,V VV,Y HB] 66)) ((Ch.r _ w).alloc _));have x6:w.cell? ⟨db,6,U⟩=G (I J 6):=by have:=h.lx hp;exact this
 have x7:w.cell? ⟨db,7,U⟩=G (I J d.at_):=h.aW.c 7;have xl:=h.aW.lt;have xf:=h.aW.frozen;have e0:(code==0)=false:=beq_eq_false_iff_ne.2 h0;clear h0;clear h hp;go_enter func110,ntmps110;go_wp2_with fail;refine aE (v:=aB #[]) (by simp[results,results110,go_sem]) rfl ?_;exact(gB H1.o).aR HN.o
theorem MN(h:dW w db rb C i d a)(hp:d.ph=0){state:Int}(t1:state≠1){VV:ByteArray}{HB:Bool}:ax av 110 #[X (G ⟨db,0,U⟩),aC #[I J 0,I J state,V VV,Y HB]] w (jD w db rb C i d a d):=by
 have HN:=O (show M w (w.alloc (az #[I J 0,I J state,V VV,Y HB] 66))from(Ch.r _ w).alloc _);have H1:=O (h.aR (w':=w.alloc (az #[I J 0,I J state,V VV,Y HB] 66)) ((Ch.r _ w).alloc _));have x6:w.cell? ⟨db,6,U⟩=G (I J 0):=by have:=h.lx hp;exact this
 have x7:w.cell? ⟨db,7,U⟩=G (I J d.at_):=h.aW.c 7;have xl:=h.aW.lt;have xf:=h.aW.frozen;have s1:(state==1)=false:=beq_eq_false_iff_ne.2 t1;clear t1;by_cases t2:state=2
 ·subst t2;clear h hp;go_enter func110,ntmps110;go_wp2_with fail;refine aE (v:=aB #[]) (by simp[results,results110,go_sem]) rfl ?_;exact(gB H1.o).aR HN.o
 have s2:(state==2)=false:=beq_eq_false_iff_ne.2 t2;by_cases t3:state=3
 ·subst t3;clear h hp;go_enter func110,ntmps110;go_wp2_with fail;refine aE (v:=aB #[]) (by simp[results,results110,go_sem]) rfl ?_;exact(gB H1.o).aR HN.o
 have s3:(state==3)=false:=beq_eq_false_iff_ne.2 t3;clear h hp;go_enter func110,ntmps110;go_wp2_with fail;refine aE (v:=aB #[]) (by simp[results,results110,go_sem]) rfl ?_;exact(gB H1.o).aR HN.o
theorem MO(h:dW w db rb C i d a)(hp:d.ph=2){state:Int}(t3:state≠3){VV:ByteArray}{HB:Bool}:ax av 110 #[X (G ⟨db,0,U⟩),aC #[I J 0,I J state,V VV,Y HB]] w (jD w db rb C i d a {d with ph:=1}):=by
 have HH:=O h;have x6:w.cell? ⟨db,6,U⟩=G (I J 2):=by have:=h.lx hp;exact this
 have x7:w.cell? ⟨db,7,U⟩=G (I J d.at_):=h.aW.c 7;have xl:=h.aW.lt;have xf:=h.aW.frozen;have s3:(state==3)=false:=beq_eq_false_iff_ne.2 t3;clear t3;by_cases t2:state=2
 ·subst t2;clear h hp;go_enter func110,ntmps110;go_wp2_with fail;refine aE (v:=aB #[]) (by simp[results,results110,go_sem]) rfl ?_;exact iL HH.o 1 _
 have s2:(state==2)=false:=beq_eq_false_iff_ne.2 t2;clear h hp;go_enter func110,ntmps110;go_wp2_with fail;refine aE (v:=aB #[]) (by simp[results,results110,go_sem]) rfl ?_;exact iL HH.o 1 _
theorem MP(h:dW w db rb C i d a)(hp:d.ph=5){state:Int}(t2:state≠2)(t3:state≠3){VV:ByteArray}{HB:Bool}:ax av 110 #[X (G ⟨db,0,U⟩),aC #[I J 0,I J state,V VV,Y HB]] w (jD w db rb C i d a d):=by
 have HN:=O (show M w (w.alloc (az #[I J 0,I J state,V VV,Y HB] 66))from(Ch.r _ w).alloc _);have H1:=O (h.aR (w':=w.alloc (az #[I J 0,I J state,V VV,Y HB] 66)) ((Ch.r _ w).alloc _));have x6:w.cell? ⟨db,6,U⟩=G (I J 5):=by have:=h.lx hp;exact this
 have x7:w.cell? ⟨db,7,U⟩=G (I J d.at_):=h.aW.c 7;have xl:=h.aW.lt;have xf:=h.aW.frozen;have s2:(state==2)=false:=beq_eq_false_iff_ne.2 t2;have s3:(state==3)=false:=beq_eq_false_iff_ne.2 t3;clear t2 t3;clear h hp;go_enter func110,ntmps110;go_wp2_with fail;refine aE (v:=aB #[]) (by simp[results,results110,go_sem]) rfl ?_;exact(gB H1.o).aR HN.o
theorem MQ(h:dW w db rb C i d a)(hp:d.ph=6){state:Int}(t2:state≠2)(t3:state≠3){VV:ByteArray}{HB:Bool}:ax av 110 #[X (G ⟨db,0,U⟩),aC #[I J 0,I J state,V VV,Y HB]] w (jD w db rb C i d a d):=by
 have HN:=O (show M w (w.alloc (az #[I J 0,I J state,V VV,Y HB] 66))from(Ch.r _ w).alloc _);have H1:=O (h.aR (w':=w.alloc (az #[I J 0,I J state,V VV,Y HB] 66)) ((Ch.r _ w).alloc _));have x6:w.cell? ⟨db,6,U⟩=G (I J 6):=by have:=h.lx hp;exact this
 have x7:w.cell? ⟨db,7,U⟩=G (I J d.at_):=h.aW.c 7;have xl:=h.aW.lt;have xf:=h.aW.frozen;have s2:(state==2)=false:=beq_eq_false_iff_ne.2 t2;have s3:(state==3)=false:=beq_eq_false_iff_ne.2 t3;clear t2 t3;clear h hp;go_enter func110,ntmps110;go_wp2_with fail;refine aE (v:=aB #[]) (by simp[results,results110,go_sem]) rfl ?_;exact(gB H1.o).aR HN.o
end
section
variable{w w' w1:aw}{db rb c:Nat}{C:Cf}{i:Int}{d d' d1:eF}{a a' a1:qo}{A:Option Addr}{l:List ByteArray}{r:dh}{cm:bQ}
theorem Ra(hr:rM r): ∃has:kB,r=⟨r.code,r.state,eP has,fB has⟩/\(if r.has then G r.val else U)=has/\(eP has).size<=1000:=by
 refine⟨if r.has then G r.val else U,?_,rfl,?_⟩
 ·obtain⟨code,state,val,has⟩:=r;cases has with
  |false=>have:val=emp:=hr.nv rfl;subst this;rfl
  |true=>rfl
 ·have:=hr.va;cases hh:r.has with
  |false=>show(0:Nat)<=1000;omega
  |true=>show r.val.size<=1000;omega
theorem zy(h:ey w db rb C i d a)(hE:gK.Env w)(hr:rM r)(hp:d.ph=1\/d.ph=3\/d.ph=4):
 ax av 108 #[X (G ⟨db,0,U⟩),dU r] w (jD w db rb C i d a (fG C d r)):=by
 have h0:=h.dR.zm (by omega);obtain⟨has,e1,e2,e3⟩:=Ra hr;have R:=h.todW;by_cases c9:r.code=9
 ·unfold fG;rw[if_pos (.inl c9)];have e:dU r=aC #[I J 9,I J r.state,V r.val,Y r.has]:=by rw[<-c9]
  rw[e];rcases hp with hp|hp|hp
  ·exact QT R hp
  ·exact QW R hp
  ·exact QZ R hp
 by_cases c8:r.code=8
 ·unfold fG;rw[if_pos (.inr c8)];have e:dU r=aC #[I J 8,I J r.state,V r.val,Y r.has]:=by rw[<-c8]
  rw[e];rcases hp with hp|hp|hp
  ·exact QU R hp
  ·exact QX R hp
  ·exact Q0 R hp
 unfold fG;rw[if_neg (by omega)];by_cases c0:r.code=0
 ·have e:dU r=aC #[I J 0,I J r.state,V r.val,Y r.has]:=by rw[<-c0]
  rw[if_neg (by omega),if_neg (by omega)];rcases hp with hp|hp|hp
  ·rw[if_pos hp,e];exact Q2 R hp
  ·rw[if_neg (by omega),if_pos hp];have hr0:=h.dR.r3 (by omega);have e':GJ C d r={d with write:=jw C.op has d.last,last:=il C.op has d.last,res:=[il C.op has d.last],ph:=4}:=by
    unfold GJ;rw[e2,hr0];rfl
   have e4:dU r=aC #[I J 0,I J r.state,V (eP has),Y (fB has)]:=by rw[e1, <-c0]
   rw[e',e4];exact Q4 R hp hE h0 hr0 r.state has e3
  ·rw[if_neg (by omega),if_neg (by omega),h0,e];exact Q3 R hp h0
 ·by_cases IC:d.ph=1/\r.code=10
  ·rw[if_pos IC];have e:dU r=aC #[I J 10,I J r.state,V r.val,Y r.has]:=by rw[<-IC.2]
   rw[e];exact MF R IC.1
  ·rw[if_neg IC,if_pos c0];rcases hp with hp|hp|hp
   ·exact QV R hp c9 c8 (λe=>IC ⟨hp,e⟩) c0
   ·exact QY R hp c9 c8 c0
   ·exact Q1 R hp c9 c8 c0
theorem ID(h:ey w db rb C i d a)(hR:ie C w rb A c l)(hp:d.ph=0\/d.ph=2\/d.ph=5\/d.ph=6):
 ax av 110 #[X (G ⟨db,0,U⟩),dU r] w (jD w db rb C i d a (mF C d r)):=by
 have R:=h.todW;have hb:0<=d.aS/\d.aS<=1000:=by have:=h.dR.aS;have:=hR.w.tries;omega
 have key: ∀{k s:Int},r.code=k->r.state=s->dU r=aC #[I J k,I J s,V r.val,Y r.has]:=λe1 e2=>by rw[<-e1, <-e2]
 unfold mF;by_cases c0:r.code=0
 ·rcases hp with hp|hp|hp|hp
  ·rw[if_neg (by omega)];by_cases s1:r.state=1
   ·rw[if_pos ⟨hp,c0,s1⟩,key c0 s1];refine MG R hp hR (h.dR.t0 hp) ?_;rcases h.dR.lf with e|⟨_,e⟩
    ·exact e
    ·rw[h.dR.t0 hp]at e;cases e
   ·rw[if_neg (by omega),if_neg (by omega),if_neg (by omega),if_neg (by omega),key c0 rfl];exact MN R hp s1
  ·rw[if_neg (by omega),if_neg (by omega)];by_cases s3:r.state=3
   ·rw[if_pos ⟨hp,c0,s3⟩,key c0 s3];exact MH R hp hb
   ·rw[if_neg (by omega),if_pos hp,key c0 rfl];exact MO R hp s3
  ·rw[if_neg (by omega),if_neg (by omega),if_neg (by omega),if_neg (by omega)];by_cases s2:r.state=2
   ·rw[if_pos ⟨.inl hp,c0,.inl s2⟩,key c0 s2,s2];exact MI R hp hb
   by_cases s3:r.state=3
   ·rw[if_pos ⟨.inl hp,c0,.inr s3⟩,key c0 s3,s3];exact MJ R hp hb
   ·rw[if_neg (by omega),key c0 rfl];exact MP R hp s2 s3
  ·rw[if_neg (by omega),if_neg (by omega),if_neg (by omega),if_neg (by omega)];by_cases s2:r.state=2
   ·rw[if_pos ⟨.inr hp,c0,.inl s2⟩,key c0 s2,s2];exact MK R hp hb
   by_cases s3:r.state=3
   ·rw[if_pos ⟨.inr hp,c0,.inr s3⟩,key c0 s3,s3];exact ML R hp hb
   ·rw[if_neg (by omega),key c0 rfl];exact MQ R hp s2 s3
 ·rcases hp with hp|hp|hp|hp
  ·by_cases c9:r.code=9
   ·rw[if_pos ⟨hp,c9⟩,key c9 rfl];exact Q5 R hp hb
   ·rw[if_neg (by omega),if_neg (by omega),if_neg (by omega),if_neg (by omega),if_neg (by omega)];exact Q6 R hp c9 c0
  ·rw[if_neg (by omega),if_neg (by omega),if_neg (by omega),if_pos hp];exact Q7 R hp c0
  ·rw[if_neg (by omega),if_neg (by omega),if_neg (by omega),if_neg (by omega),if_neg (by omega)];exact Q8 R hp c0
  ·rw[if_neg (by omega),if_neg (by omega),if_neg (by omega),if_neg (by omega),if_neg (by omega)];exact Q9 R hp c0
def U6(w:aw)(db rb:Nat)(C:Cf)(i:Int)(d:eF)(a:qo)(d':eF)(e:Ending)(w':aw):Prop:=
 ∃b a',e=ay (Y b)/\dW w' db rb C i d' a'/\Sub (a.F db d) (a'.F db d') w w'
theorem IE(h:ey w db rb C i d a)(hR:ie C w rb A c l)(hp:d.ph=8):ax av 65 #[X (G ⟨db,0,U⟩),cn cm,dU r] w (U6 w db rb C i d a d):=by
 have oN:=O (λw' (hN:M w w')=>MA (h.aR hN) hp);have HH:=O h;obtain⟨kd,tx,aS,st,op,key,val,mode,yes⟩:=cm;obtain⟨code,state,VV,HB⟩:=r
 try dsimp only at *
 clear hp;clear h hR;go_enter func65,ntmps65;go_wp2_with fail;obtain⟨w1,bT⟩:=bG ((w.alloc (az #[I J kd,I J tx,I J aS,I J st,I J op,V key,V val,I J mode,Y yes] 60)).alloc (az #[I J code,I J state,V VV,Y HB] 66));have cH:=(fZ bT).1;have fK:=O (show aX w1 w.heap.size 60 #[I J kd,I J tx,I J aS,I J st,I J op,V key,V val,I J mode,Y yes]from bT▸(aX.new w 60 _).alloc _);have cw:=(fZ bT).2;rw[bT];obtain⟨qb,bE⟩:=bG (w.heap.size);rw[bE]at fK cw
 try simp only[bE]
 clear bT bE;refine(oN.o _ cH.o).mono ?_;rintro e w2 ⟨rfl,hN⟩;dsimp only;have bJ:=O (cH.o.t hN);have gn:=O (fK.o.ch hN (λh=>h));have cJ:=O (cw.o.ch hN (λh=>h));clear hN;have⟨q0,q1,q2,q3,q4⟩:=iP gn.o;have⟨q5,q6,q7,q8⟩:=(show _/\_/\_/\_ from⟨gn.o.c 5,gn.o.c 6,gn.o.c 7,gn.o.c 8⟩);have ql:=gn.o.lt;have⟨r0,r1,r2,r3⟩:=eW cJ.o;have rl:=cJ.o.lt;go_wp2_with fail;go_ret;exact⟨false,a,rfl,(HH.o.aR (bJ.o.alloc _)).todW,Sub.bj _ (bJ.o.alloc _)⟩
theorem Rb(h:ey w db rb C i d a)(hR:ie C w rb A c l){k:Nat}{want:bQ}(hn:df C i d=G (k,want))(eQ:cm≠want):ax av 65 #[X (G ⟨db,0,U⟩),cn cm,dU r] w (U6 w db rb C i d a d):=by
 have oN:=O (λw' (hN:M w w')=>gP (h.aR hN) (hR.aR hN) hn);have HH:=O h;obtain⟨kd,tx,aS,st,op,key,val,mode,yes⟩:=cm;obtain⟨code,state,VV,HB⟩:=r
 try dsimp only at *
 obtain⟨kd2,tx2,att2,st2,op2,key2,val2,qh4,qd7⟩:=want;have K8:=O eQ;clear hn eQ;clear h hR;go_enter func65,ntmps65;go_wp2_with fail;obtain⟨w1,bT⟩:=bG ((w.alloc (az #[I J kd,I J tx,I J aS,I J st,I J op,V key,V val,I J mode,Y yes] 60)).alloc (az #[I J code,I J state,V VV,Y HB] 66));have cH:=(fZ bT).1;have fK:=O (show aX w1 w.heap.size 60 #[I J kd,I J tx,I J aS,I J st,I J op,V key,V val,I J mode,Y yes]from bT▸(aX.new w 60 _).alloc _);have cw:=(fZ bT).2;rw[bT];obtain⟨qb,bE⟩:=bG (w.heap.size);rw[bE]at fK cw
 try simp only[bE]
 clear bT bE;refine(oN.o _ cH.o).mono ?_;rintro e w2 ⟨rfl,hN⟩;dsimp only;have bJ:=O (cH.o.t hN);have gn:=O (fK.o.ch hN (λh=>h));have cJ:=O (cw.o.ch hN (λh=>h));clear hN;have⟨q0,q1,q2,q3,q4⟩:=iP gn.o;have⟨q5,q6,q7,q8⟩:=(show _/\_/\_/\_ from⟨gn.o.c 5,gn.o.c 6,gn.o.c 7,gn.o.c 8⟩);have ql:=gn.o.lt;have⟨r0,r1,r2,r3⟩:=eW cJ.o;have rl:=cJ.o.lt;go_wp2_with fail
 all_goals first
  |(go_ret;exact⟨false,a,rfl,(HH.o.aR (bJ.o.alloc _)).todW,Sub.bj _ (bJ.o.alloc _)⟩)
  |exact absurd rfl K8.o
  |(exfalso;exact K8.o (by rw[bQ.mk.injEq];refine⟨?_,?_,?_,?_,?_,?_,?_,?_,?_⟩<;>first|rfl|assumption|exact yu.1 (by assumption)|(cases yes<;>cases qd7<;>simp_all)))
theorem MR(h:ey w db rb C i d a)(hR:ie C w rb A c l){k:Nat}(hn:df C i d=G (k,cm))(hE:gK.Env w)(hr:rM r)(hp:d.ph=1\/d.ph=3\/d.ph=4):ax av 65 #[X (G ⟨db,0,U⟩),cn cm,dU r] w (U6 w db rb C i d a (fG C d r)):=by
 have oN:=O (λw' (hN:M w w')=>gP (h.aR hN) (hR.aR hN) hn);have HH:=O h;obtain⟨kd,tx,aS,st,op,key,val,mode,yes⟩:=cm;obtain⟨code,state,VV,HB⟩:=r
 try dsimp only at *
 have Wu:=O (λw' (hN:M w w')=>zy (h.aR hN) (hE.aR hN) hr hp);clear hn hE hr;clear h hR;go_enter func65,ntmps65;go_wp2_with fail;obtain⟨w1,bT⟩:=bG ((w.alloc (az #[I J kd,I J tx,I J aS,I J st,I J op,V key,V val,I J mode,Y yes] 60)).alloc (az #[I J code,I J state,V VV,Y HB] 66));have cH:=(fZ bT).1;have fK:=O (show aX w1 w.heap.size 60 #[I J kd,I J tx,I J aS,I J st,I J op,V key,V val,I J mode,Y yes]from bT▸(aX.new w 60 _).alloc _);have cw:=(fZ bT).2;rw[bT];obtain⟨qb,bE⟩:=bG (w.heap.size);rw[bE]at fK cw
 try simp only[bE]
 clear bT bE;refine(oN.o _ cH.o).mono ?_;rintro e w2 ⟨rfl,hN⟩;dsimp only;have bJ:=O (cH.o.t hN);have gn:=O (fK.o.ch hN (λh=>h));have cJ:=O (cw.o.ch hN (λh=>h));clear hN;have⟨q0,q1,q2,q3,q4⟩:=iP gn.o;have⟨q5,q6,q7,q8⟩:=(show _/\_/\_/\_ from⟨gn.o.c 5,gn.o.c 6,gn.o.c 7,gn.o.c 8⟩);have ql:=gn.o.lt;have⟨r0,r1,r2,r3⟩:=eW cJ.o;have rl:=cJ.o.lt;rcases hp with hp|hp|hp
 all_goals
  have x6:=(HH.o.aR bJ.o).lx hp;have xl:=(HH.o.aR bJ.o).aW.lt;clear hp;go_wp2_with fail;have cE:=O (show M w (w2.alloc (az #[I J kd,I J tx,I J aS,I J st,I J op,V key,V val,I J mode,Y yes] 60))from bJ.o.alloc _);generalize w2.alloc (az #[I J kd,I J tx,I J aS,I J st,I J op,V key,V val,I J mode,Y yes] 60)=w3 at *;refine(Wu.o _ cE.o).mono ?_;rintro e w4 h4;obtain⟨rfl,a4,h4,s4⟩:=h4;dsimp only;have H4:=O h4;have S4:=O ((Sub.bj _ cE.o).trans s4);clear h4 s4;go_wp2_with fail;go_ret;exact⟨true,a4,rfl,H4.o,S4.o⟩
theorem MS(h:ey w db rb C i d a)(hR:ie C w rb A c l){k:Nat}(hn:df C i d=G (k,cm))(hp:d.ph=0\/d.ph=2\/d.ph=5\/d.ph=6):ax av 65 #[X (G ⟨db,0,U⟩),cn cm,dU r] w (U6 w db rb C i d a (mF C d r)):=by
 have oN:=O (λw' (hN:M w w')=>gP (h.aR hN) (hR.aR hN) hn);have HH:=O h;obtain⟨kd,tx,aS,st,op,key,val,mode,yes⟩:=cm;obtain⟨code,state,VV,HB⟩:=r
 try dsimp only at *
 have Wu:=O (λw' (hN:M w w')=>ID (r:=⟨code,state,VV,HB⟩) (h.aR hN) (hR.aR hN) hp);clear hn;clear h hR;go_enter func65,ntmps65;go_wp2_with fail;obtain⟨w1,bT⟩:=bG ((w.alloc (az #[I J kd,I J tx,I J aS,I J st,I J op,V key,V val,I J mode,Y yes] 60)).alloc (az #[I J code,I J state,V VV,Y HB] 66));have cH:=(fZ bT).1;have fK:=O (show aX w1 w.heap.size 60 #[I J kd,I J tx,I J aS,I J st,I J op,V key,V val,I J mode,Y yes]from bT▸(aX.new w 60 _).alloc _);have cw:=(fZ bT).2;rw[bT];obtain⟨qb,bE⟩:=bG (w.heap.size);rw[bE]at fK cw
 try simp only[bE]
 clear bT bE;refine(oN.o _ cH.o).mono ?_;rintro e w2 ⟨rfl,hN⟩;dsimp only;have bJ:=O (cH.o.t hN);have gn:=O (fK.o.ch hN (λh=>h));have cJ:=O (cw.o.ch hN (λh=>h));clear hN;have⟨q0,q1,q2,q3,q4⟩:=iP gn.o;have⟨q5,q6,q7,q8⟩:=(show _/\_/\_/\_ from⟨gn.o.c 5,gn.o.c 6,gn.o.c 7,gn.o.c 8⟩);have ql:=gn.o.lt;have⟨r0,r1,r2,r3⟩:=eW cJ.o;have rl:=cJ.o.lt;rcases hp with hp|hp|hp|hp
 all_goals
  have x6:=(HH.o.aR bJ.o).lx hp;have xl:=(HH.o.aR bJ.o).aW.lt;clear hp;go_wp2_with fail;have cE:=O (show M w (w2.alloc (az #[I J kd,I J tx,I J aS,I J st,I J op,V key,V val,I J mode,Y yes] 60))from bJ.o.alloc _);generalize w2.alloc (az #[I J kd,I J tx,I J aS,I J st,I J op,V key,V val,I J mode,Y yes] 60)=w3 at *;refine(Wu.o _ cE.o).mono ?_;rintro e w4 h4;obtain⟨rfl,a4,h4,s4⟩:=h4;dsimp only;have H4:=O h4;have S4:=O ((Sub.bj _ cE.o).trans s4);clear h4 s4;go_wp2_with fail;go_ret;exact⟨true,a4,rfl,H4.o,S4.o⟩
theorem IG(h:ey w db rb C i d a)(hR:ie C w rb A c l){k:Nat}(hn:df C i d=G (k,cm))(hp:d.ph=7)(h0:r.code≠0):ax av 65 #[X (G ⟨db,0,U⟩),cn cm,dU r] w (U6 w db rb C i d a d):=by
 have oN:=O (λw' (hN:M w w')=>gP (h.aR hN) (hR.aR hN) hn);have HH:=O h;obtain⟨kd,tx,aS,st,op,key,val,mode,yes⟩:=cm;obtain⟨code,state,VV,HB⟩:=r
 try dsimp only at *
 have e0:(code==0)=false:=beq_eq_false_iff_ne.2 h0;clear hn h0;clear h hR;go_enter func65,ntmps65;go_wp2_with fail;obtain⟨w1,bT⟩:=bG ((w.alloc (az #[I J kd,I J tx,I J aS,I J st,I J op,V key,V val,I J mode,Y yes] 60)).alloc (az #[I J code,I J state,V VV,Y HB] 66));have cH:=(fZ bT).1;have fK:=O (show aX w1 w.heap.size 60 #[I J kd,I J tx,I J aS,I J st,I J op,V key,V val,I J mode,Y yes]from bT▸(aX.new w 60 _).alloc _);have cw:=(fZ bT).2;rw[bT];obtain⟨qb,bE⟩:=bG (w.heap.size);rw[bE]at fK cw
 try simp only[bE]
 clear bT bE;refine(oN.o _ cH.o).mono ?_;rintro e w2 ⟨rfl,hN⟩;dsimp only;have bJ:=O (cH.o.t hN);have gn:=O (fK.o.ch hN (λh=>h));have cJ:=O (cw.o.ch hN (λh=>h));clear hN;have⟨q0,q1,q2,q3,q4⟩:=iP gn.o;have⟨q5,q6,q7,q8⟩:=(show _/\_/\_/\_ from⟨gn.o.c 5,gn.o.c 6,gn.o.c 7,gn.o.c 8⟩);have ql:=gn.o.lt;have⟨r0,r1,r2,r3⟩:=eW cJ.o;have rl:=cJ.o.lt;have x6:=(HH.o.aR bJ.o).lx hp;have xl:=(HH.o.aR bJ.o).aW.lt;clear hp;go_wp2_with fail;go_ret;exact⟨true,a,rfl,(HH.o.aR (bJ.o.alloc _)).todW,Sub.bj _ (bJ.o.alloc _)⟩
theorem MT(h:ey w db rb C i d a)(hR:ie C w rb A c l){k:Nat}(hn:df C i d=G (k,cm))(hp:d.ph=7)(h0:r.code=0):ax av 65 #[X (G ⟨db,0,U⟩),cn cm,dU r] w (U6 w db rb C i d a (iF C {d with left:=[]})):=by
 have oN:=O (λw' (hN:M w w')=>gP (h.aR hN) (hR.aR hN) hn);have HH:=O h;obtain⟨kd,tx,aS,st,op,key,val,mode,yes⟩:=cm;obtain⟨code,state,VV,HB⟩:=r
 try dsimp only at *
 obtain rfl:code=0:=h0;have HW:=O hR.w;clear hn;clear h hR;go_enter func65,ntmps65;go_wp2_with fail;obtain⟨w1,bT⟩:=bG ((w.alloc (az #[I J kd,I J tx,I J aS,I J st,I J op,V key,V val,I J mode,Y yes] 60)).alloc (az #[I J 0,I J state,V VV,Y HB] 66));have cH:=(fZ bT).1;have fK:=O (show aX w1 w.heap.size 60 #[I J kd,I J tx,I J aS,I J st,I J op,V key,V val,I J mode,Y yes]from bT▸(aX.new w 60 _).alloc _);have cw:=(fZ bT).2;rw[bT];obtain⟨qb,bE⟩:=bG (w.heap.size);rw[bE]at fK cw
 try simp only[bE]
 clear bT bE;refine(oN.o _ cH.o).mono ?_;rintro e w2 ⟨rfl,hN⟩;dsimp only;have bJ:=O (cH.o.t hN);have gn:=O (fK.o.ch hN (λh=>h));have cJ:=O (cw.o.ch hN (λh=>h));clear hN;have⟨q0,q1,q2,q3,q4⟩:=iP gn.o;have⟨q5,q6,q7,q8⟩:=(show _/\_/\_/\_ from⟨gn.o.c 5,gn.o.c 6,gn.o.c 7,gn.o.c 8⟩);have ql:=gn.o.lt;have⟨r0,r1,r2,r3⟩:=eW cJ.o;have rl:=cJ.o.lt;have x6:=(HH.o.aR bJ.o).lx hp;have xl:=(HH.o.aR bJ.o).aW.lt;have xf:=(HH.o.aR bJ.o).aW.frozen;obtain⟨g,q14,nz,gc,_,_,hA,hlc⟩:=(HH.o.aR bJ.o).Mz hp;clear hp;have HUP:=O (λaq ar=>(HH.o.aR bJ.o).cQ (d':={d with left:=[]}) (a':={a with lA:=aq,lc:=ar}) ((Ch.r _ w2).at_ 14 (T aq 0 ar)) (bu ((HH.o.aR bJ.o).aW.bm 14 (T aq 0 ar)) (by simp)) ⟨rfl,rfl⟩ (.inl ⟨rfl,rfl,rfl⟩) (.inl ⟨rfl,rfl,rfl⟩) (λe=>absurd rfl e));have HB0:=O (show 0<=d.aS/\d.aS<=1000 from by have:=HH.o.dR.aS;have:=HW.o.tries;omega);go_wp2_with fail
 all_goals
  refine(vg ((HUP.o _ _).1.aR ((Ch.r _ _).alloc _)) HB0.o).mono ?_;rintro e w4 h4;obtain⟨rfl,a4,h4,s4⟩:=h4;dsimp only;have H4:=O h4;have S4:=O (((Sub.bj _ bJ.o).trans (HUP.o _ _).2).trans ((Sub.bj _ ((Ch.r _ _).alloc _)).trans s4));clear h4 s4;go_wp2_with fail;go_ret;exact⟨true,a4,rfl,H4.o,S4.o⟩
theorem vk(h:ey w db rb C i d a)(hR:ie C w rb A c l)(hE:gK.Env w)(hr:rM r):ax av 65 #[X (G ⟨db,0,U⟩),cn cm,dU r] w
 λe w'=>∃b a',e=ay (Y b)/\ey w' db rb C i (fk C i d cm r) a'/\Sub (a.F db d) (a'.F db (fk C i d cm r)) w w':=by
 have fin: ∀{d' e w'},fk C i d cm r=d'->U6 w db rb C i d a d' e w'->∃b a',e=ay (Y b)/\ey w' db rb C i (fk C i d cm r) a'/\Sub (a.F db d) (a'.F db (fk C i d cm r)) w w':=λhe ⟨b,a',h1,h2,h3⟩=>by
  subst he;exact⟨b,a',h1,⟨h2,Mk h.dR⟩,h3⟩
 cases hn:df C i d with
 |none=>
  have hp:d.ph=8:=by
   have:=h.dR.ph;unfold df at hn
   repeat' split at hn
   all_goals first|omega|cases hn
   rename_i e;have:=h.dR.l7 (by assumption);rw[this]at e;cases e
  exact(IE h hR hp).mono λe w'=>fin (by unfold fk;rw[hn])
 |some x=>
  obtain⟨k,want⟩:=x;by_cases he:cm=want
  ·subst he;have ht:fk C i d cm r=if d.ph=1\/d.ph=3\/d.ph=4 then fG C d r else if d.ph=7 then(if r.code=0 then(let d':={d with left:=d.left.tail};if d'.left=[]then iF C d' else d')else d)else mF C d r:=by
    unfold fk;rw[hn];dsimp only;rw[if_pos rfl]
   have hp:=h.dR.ph;by_cases h1:d.ph=1\/d.ph=3\/d.ph=4
   ·exact(MR h hR hn hE hr h1).mono λe w'=>fin (by rw[ht,if_pos h1])
   by_cases h7:d.ph=7
   ·by_cases h0:r.code=0
    ·exact(MT h hR hn h7 h0).mono λe w'=>fin (by rw[ht,if_neg h1,if_pos h7,if_pos h0,h.dR.l7 h7];rfl)
    ·exact(IG h hR hn h7 h0).mono λe w'=>fin (by rw[ht,if_neg h1,if_pos h7,if_neg h0])
   have h8:d.ph≠8:=λe=>by
    unfold df at hn;rw[if_neg (by omega),if_neg (by omega),if_neg (by omega),if_neg (by omega),if_neg (by omega),if_neg (by omega),if_neg (by omega),if_neg (by omega)]at hn;cases hn
   exact(MS h hR hn (by omega)).mono λe w'=>fin (by rw[ht,if_neg h1,if_neg h7])
  ·exact(Rb h hR hn he).mono λe w'=>fin (by unfold fk;rw[hn];dsimp only;rw[if_neg he])
end
section
variable{w w' w1:aw}{db rb c pb:Nat}{C:Cf}{i:Int}{d d' d1:eF}{a a' a1:qo}{A:Option Addr}{l:List ByteArray}
def oB(w:aw)(pb:Nat)(C:Cf):Prop:=aX w pb 33 #[I J 5,V C.key,V emp,I J C.n]
theorem II(h:oB w pb C):J2 w (G ⟨pb,0,U⟩) 1 [C.op]:=⟨rfl,λ_=>⟨pb,0,rfl,aX.lt h,λi v hv=>by
 have hi:=bf hv;have:=aX.c h i;rw[Nat.zero_add,this];have hv:[I IntKind.i64 5,V C.key,V emp,I IntKind.i64 C.n][i]?=G v:=hv;simpa using hv⟩⟩
theorem rQ(h:oB w pb C):Reads w w.heap.size 4 (G ⟨pb,0,U⟩) 1 (Wy C):=⟨rfl,λ_=>⟨_,rfl,aX.lt h,λj u hu=>by
 rw[show(⟨pb,0,U⟩:Addr).add j=⟨pb,j,U⟩ by unfold Addr.add;split<;>simp_all,aX.c h];have hu:[I IntKind.i64 5,V C.key,V emp,I IntKind.i64 C.n][j]?=G u:=hu;simpa using hu⟩⟩
theorem Rf(hW:Mj C):oJ [C.op]=0:=by
 have h1:=hW.key;have h2:=hW.n;unfold oJ;rw[if_neg (by simp)];have:okB C.op=true:=by
  unfold okB Cf.op;simp;omega
 simp[this]
theorem BN(hR:ie C w rb A c l)(hP:oB w pb C)(hi:0<=i/\i<16):
 ax av 59 #[I J i,I J (i+1),X (G ⟨rb,0,U⟩),T (G ⟨pb,0,U⟩) 1 1,I J C.tries] w λe w'=>
  ∃db a,e=ay (aB #[X (G ⟨db,0,U⟩),I J 0])/\ey w' db rb C i bW a/\(∀g,a.F db bW g->w.heap.size<=g)/\M w w':=by
 have OI:=O (gK.IH (c:=1) (II hP));rw[Rf hR.w]at OI;have jj:=O (λw' (hN:M w w')=>Cl.uQ (c:=1) (rQ (aX.ch hP hN (λh=>h))) (by simp[Wy,Value.oneCell']) (by omega));obtain⟨t0,t1⟩:=hR.w.tries;have HW:=O hR.w;obtain⟨i0,i1⟩:=hi;clear hR hP;go_enter func59,ntmps59;go_wp2_with fail;refine OI.o.mono ?_;rintro e w2 ⟨rfl,hN⟩;dsimp only;have bJ:=O hN;clear hN;go_wp2_with fail;refine(jj.o _ bJ.o).mono ?_;rintro e w3 ⟨pA,pc,rfl,ho,hN⟩;dsimp only;have cE:=O (bJ.o.t hN);have HO:=O ho;have hz:=bJ.o.size;clear hN ho;go_wp2_with fail;refine aE (v:=aB #[X (G ⟨w3.heap.size,0,U⟩),I J 0]) (by simp[results,results59,go_sem]) rfl ?_;have pV:=cE.o.alloc (az #[I J i,I J (i+1),I J C.tries,X (G ⟨rb,0,U⟩),T pA 1 pc,I J 0,I J 0,I J 0,V ⟨#[]⟩,Y false,V ⟨#[]⟩,Y false,T U 0 0,T U 0 0,T U 0 0,I J 1,Y false] 141);have hc:=(Ch.r (λ_=>False) w3).alloc (az #[I J i,I J (i+1),I J C.tries,X (G ⟨rb,0,U⟩),T pA 1 pc,I J 0,I J 0,I J 0,V ⟨#[]⟩,Y false,V ⟨#[]⟩,Y false,T U 0 0,T U 0 0,T U 0 0,I J 1,Y false] 141);refine⟨w3.heap.size,⟨pA,pc,U,0,U,0,U,0⟩,rfl,⟨⟨aX.new w3 141 _,uZ (bg HO.o hc (λ_ _ h=>h)),qt _ _ _,qt _ _ _,λe=>absurd rfl e,⟨i0,i1⟩⟩,F5 HW.o.tries.1⟩,λg hg=>?_,pV⟩;have hz3:=cE.o.size;rcases hg with hg|hg|hg|hg
 ·omega
 ·have:=HO.o.lt g hg;omega
 ·cases hg
 ·cases hg
end
