import Derived.Laws.BitsLemmas
import Derived.Test.YtmaimjajdbgmiaaGreatDoorAi
set_option linter.unusedVariables false
set_option linter.unusedSimpArgs false
set_option maxRecDepth 100000
set_option maxHeartbeats 0
open Go.Value renaming int→I,string→V,pointer→X,bool→Y,slice→T,tuple→aB,agg→aC
open Go.IntKind renaming i64→J
open Option renaming none→U,some→G
open Go.Ending renaming returned→ay
open Go.Obj renaming cells→az
open List renaming length_append→aL
open Nat renaming le_refl→aN,le_trans→aO,lt_of_lt_of_le→aP
open Go renaming World→aw,Calls→ax,bodyPost_ret→aE
open Go.Proofs.Tryz
open Go.Proofs.Tryz renaming prog→av
namespace Go.Proofs.YtmaimjajdbgmiaaGreatDoor
open Go.Lib Go.RowKit
structure RdM(w:aw)(B rb bb off c:Nat)(l:List UInt8):Prop where
 aW:aX w rb 401 #[T (G ⟨bb,off,U⟩) l.length c,Y false]
 cap:l.length<=c/\c<=9223372036854775807
 rd: ∀i v,(lW l)[i]?=G v->w.cell? ⟨bb,off+i,U⟩=G v
 lt:bb<B
 ge:B<=rb
 sz:B<=w.heap.size
def RM(B rb:Nat)(l:List UInt8)(w:aw):Prop:=∃bb off c,RdM w B rb bb off c l
def FB(f:Bool)(rb:Nat)(w:aw):Prop:=∃A n c b,aX w rb 401 #[T A n c,Y b]/\(b=true\/f=false/\n=0)/\n<=9223372036854775807
section
variable{w w':aw}{B rb bb off c k:Nat}{l:List UInt8}
theorem RM.ch{S:Nat->Prop}(h:RM B rb l w)(hC:Ch S w w')(hS: ∀g,S g->B<=g/\g≠rb):RM B rb l w':=by
 obtain⟨bb,off,c,h⟩:=h;exact⟨bb,off,c,h.aW.ch hC (λe=>(hS _ e).2 rfl),h.cap,λi v hv=>(World.cell?_of_block (hC.block bb (aP h.lt h.sz) (λe=>by have:=(hS _ e).1;have:=h.lt;omega))).trans (h.rd i v hv),h.lt,h.ge,aO h.sz hC.size⟩
theorem FB.ch{f:Bool}{S:Nat->Prop}(h:FB f rb w)(hC:Ch S w w')(hS: ∀g,S g->g≠rb):FB f rb w':=by
 obtain⟨A,n,c,b,h,h2⟩:=h;exact⟨A,n,c,b,h.ch hC (λe=>hS _ e rfl),h2⟩
theorem uJ{v:Value}{b:Bool}(hb:aX w rb 401 #[v,Y b]):ax av 377 #[X (G ⟨rb,0,U⟩)] w λe w'=>e=ay (Y b)/\w=w':=by
 have x1:=hb.c 1;have xl:=hb.lt;clear hb;go_enter func377,ntmps377;go_wp2_with fail;go_ret;exact⟨rfl,rfl⟩
theorem ri{v:Value}{b:Bool}(hb:aX w rb 401 #[v,Y b]):ax av 337 #[X (G ⟨rb,0,U⟩)] w λe w'=>e=ay (aB #[])/\FB true rb w'/\Ch (λg=>g=rb) w w':=by
 have x1:=hb.c 1;have x0:=hb.c 0;have xl:=hb.lt;have xf:=hb.frozen;have HB:=O hb;clear hb;go_enter func337,ntmps337;go_wp2_with fail
 first|go_end0|(simp only[Exit.inBlock,Exit.then];refine aE (results_none rfl _ _ _) rfl ?_)|refine aE (results_none rfl _ _ _) rfl ?_
 exact⟨rfl,⟨U,0,0,true,bu ((HB.o.bm 1 (Y true)).bm 0 (T U 0 0)) (by simp),.inl rfl,by omega⟩,((Ch.r (λg=>g=rb) w).setCell (p:=⟨rb,1,U⟩) (.inl rfl) _).setCell (p:=⟨rb,0,U⟩) (.inl rfl) _⟩
def DeP(w:aw)(rb:Nat)(v:Value)(e:Ending)(w':aw):Prop:=e=ay v/\FB true rb w'/\Ch (λg=>g=rb) w w'
theorem rj{f:Bool}(h:FB f rb w)(hk:1<=k)(kW:k<9223372036854775807):ax av 336 #[X (G ⟨rb,0,U⟩),I J (k:Nat)] w (DeP w rb (T U 0 0)):=by
 obtain⟨A,n,c,b,hb,h1,h2⟩:=h;have HF:=O (uJ hb);have HG:=O (ri hb);have x0:=hb.c 0;have xl:=hb.lt;have xf:=hb.frozen;have jq:1<=(k:Int):=by omega
 clear hb;cases b
 ·obtain rfl:n=0:=h1.elim (λh=>by cases h) (λh=>h.2);clear h1;go_enter func336,ntmps336;go_wp2_with fail;refine HF.o.mono ?_;rintro e w2 ⟨rfl,rfl⟩;dsimp only;go_wp2_with fail;refine HG.o.mono ?_;rintro e w2 ⟨rfl,hD,hC⟩;dsimp only;go_wp2_with fail;go_ret;exact⟨rfl,hD,hC⟩
 ·clear x0;go_enter func336,ntmps336;go_wp2_with fail;refine HF.o.mono ?_;rintro e w2 ⟨rfl,rfl⟩;dsimp only;go_wp2_with fail;refine HG.o.mono ?_;rintro e w2 ⟨rfl,hD,hC⟩;dsimp only;go_wp2_with fail;go_ret;exact⟨rfl,hD,hC⟩
theorem PX(hb: ∃v,aX w rb 401 #[v,Y false]):ax av 377 #[X (G ⟨rb,0,U⟩)] w λe w'=>e=ay (Y false)/\w=w':=by
 obtain⟨v,hb⟩:=hb;have x1:=hb.c 1;have xl:=hb.lt;clear hb;go_enter func377,ntmps377;go_wp2_with fail;go_ret;exact⟨rfl,rfl⟩
def PaP(w:aw)(B rb k:Nat)(l:List UInt8)(e:Ending)(w':aw):Prop:=
 ∃bb off c,e=ay (T (G ⟨bb,off,U⟩) k c)/\(∀i v,(lW (l.take k))[i]?=G v->w'.cell? ⟨bb,off+i,U⟩=G v)/\bb<B/\RM B rb (l.drop k) w'/\Ch (λg=>g=rb) w w'
theorem p5(h:RM B rb l w)(hk:k<=l.length):ax av 336 #[X (G ⟨rb,0,U⟩),I J (k:Nat)] w (PaP w B rb k l):=by
 obtain⟨bb,off,c,h⟩:=h;have HH:=O h;have HL:=O (aP h.lt h.sz);have iC:=O (show bb≠rb from by have:=h.lt;have:=h.ge;omega);have HF:=O (PX ⟨_,h.aW⟩);obtain⟨n,hn⟩:=bG (l.length);have hb:=h.aW;have hcp:=h.cap;rw[hn]at hb hk hcp;have⟨x0,x1⟩:=vS hb;have xl:=hb.lt;have xf:=hb.frozen;have jq:(k:Int)<=(n:Int):=by omega
 have jW:(n:Int)<=(c:Int):=by omega
 have Jy:(c:Int)<=9223372036854775807:=by omega
 have hd:(l.drop k).length=n-k:=by rw[List.length_drop,hn]
 have hT: ∀i v,(lW (l.take k))[i]?=G v->w.cell? ⟨bb,off+i,U⟩=G v:=λi v hv=>h.rd i v (by
  have ti:((lW l).take k)[i]?=G v:=by simpa [lW,List.map_take]using hv
  rw[List.getElem?_take]at ti;split at ti
  ·exact ti
  ·cases ti)
 have HT:=O hT;have HD:=O hd;have HB:=O hb;by_cases XE:c=k
 ·obtain rfl:c=n:=by omega
  subst XE;have hC:=O (show Ch (λg=>g=rb) w (w.setCell ⟨rb,0,U⟩ (T (G ⟨bb,off,U⟩) 0 0))from(Ch.r (λg=>g=rb) w).setCell (p:=⟨rb,0,U⟩) (.inl rfl) _);have hl0:l.drop c=[]:=List.drop_eq_nil_of_le (by omega);have HR:=O (show RM B rb (l.drop c) (w.setCell ⟨rb,0,U⟩ (T (G ⟨bb,off,U⟩) 0 0))from by
   rw[hl0];exact⟨bb,off,0,bu (HB.o.bm 0 (T (G ⟨bb,off,U⟩) 0 0)) (by simp),⟨aN _,by omega⟩,λi v hv=>by simp at hv,HH.o.lt,HH.o.ge,aO HH.o.sz hC.o.size⟩)
  clear h hb hcp hT hd hn hl0;go_enter func336,ntmps336;go_wp2_with fail;refine HF.o.mono ?_;rintro e w2 ⟨rfl,rfl⟩;dsimp only;go_wp2_with fail;go_ret;exact⟨bb,off,_,rfl,λi v hv=>(World.cell?_of_block (hC.o.block bb HL.o iC.o)).trans (HT.o i v hv),HH.o.lt,HR.o,hC.o⟩
 ·have hC:=O (show Ch (λg=>g=rb) w (w.setCell ⟨rb,0,U⟩ (T (G ⟨bb,off+k,U⟩) (n-k) (c-k)))from(Ch.r (λg=>g=rb) w).setCell (p:=⟨rb,0,U⟩) (.inl rfl) _);have HR:=O (show RM B rb (l.drop k) (w.setCell ⟨rb,0,U⟩ (T (G ⟨bb,off+k,U⟩) (n-k) (c-k)))from
   ⟨bb,off+k,c-k,bu (HB.o.bm 0 (T (G ⟨bb,off+k,U⟩) (n-k) (c-k))) (by rw[HD.o];simp),⟨by rw[HD.o];omega,by omega⟩,λi v hv=>(World.cell?_of_block (hC.o.block bb HL.o iC.o)).trans (by
     have h2:(lW l)[k+i]?=G v:=by
      have ti:((lW l).drop k)[i]?=G v:=by simpa [lW,List.map_drop]using hv
      rwa[List.getElem?_drop]at ti
     have:=HH.o.rd (k+i) v h2;rwa[<-Nat.add_assoc]at this),HH.o.lt,HH.o.ge,aO HH.o.sz hC.o.size⟩)
  have ZI:((n-k:Nat):Int)=(n:Int) - (k:Int):=by omega
  clear h hb hcp hT hd hn;go_enter func336,ntmps336;go_wp2_with fail;refine HF.o.mono ?_;rintro e w2 ⟨rfl,rfl⟩;dsimp only;go_wp2_with fail;go_ret;exact⟨bb,off,_,rfl,λi v hv=>(World.cell?_of_block (hC.o.block bb HL.o iC.o)).trans (HT.o i v hv),HH.o.lt,HR.o,hC.o⟩
end
section
variable{w w':aw}{B rb:Nat}{l:List UInt8}
def DI(w:aw)(rb:Nat)(v:Value)(R:aw->Prop)(e:Ending)(w':aw):Prop:=e=ay v/\R w'/\Ch (λg=>g=rb) w w'
theorem oW(n:Int)(h0:0<=n)(h1:n<2 ^ 64):IntKind.u64.wrap n=n:=by
 simp[IntKind.wrap,IntKind.signed,IntKind.bits];omega
theorem XF(x j:Nat)(hx:x<9223372036854775808):bits .or .u64 (((x / 256 ^ (j+1):Nat):Int)*256) ((jf x j).toNat:Int)=((x / 256 ^ j:Nat):Int):=by
 rw[lP];have h1:x / 256 ^ j<9223372036854775808:=Nat.lt_of_le_of_lt (Nat.div_le_self _ _) hx;have h2:x / 256 ^ (j+1)=x / 256 ^ j / 256:=by rw[Nat.pow_succ,Nat.div_div_eq_div_mul]
 rw[h2];generalize x / 256 ^ j=y at h1;rw[bits_join .u64 64 (by decide) oW 8 _ _ (by omega) (by omega) (by omega) (by omega) (by omega) (by omega)];omega
def tk(x j:Nat):Int:=((x / 256 ^ (8-j):Nat):Int)
theorem Lb(x j:Nat)(hj:j<8)(hx:x<9223372036854775808):bits .or .u64 (tk x j*256) ((jf x (7-j)).toNat:Int)=tk x (j+1):=by
 have:=XF x (7-j) hx;have e1:7-j+1=8-j:=by omega
 have e2:8- (j+1)=7-j:=by omega
 unfold tk;rw[e2];rw[e1]at this;exact this
theorem Uj(x j:Nat)(hj:j<8)(hx:x<9223372036854775808):0<=tk x j/\tk x j<72057594037927936:=by
 have h2:x / 256 ^ (8-j)=x / 256 ^ (7-j) / 256:=by rw[Nat.div_div_eq_div_mul, <-Nat.pow_succ,show(7-j).succ=8-j from by omega]
 have h1:x / 256 ^ (7-j)<9223372036854775808:=Nat.lt_of_le_of_lt (Nat.div_le_self _ _) hx;unfold tk;rw[h2];generalize x / 256 ^ (7-j)=y at h1;omega
theorem ru{x:Nat}(h:RM B rb (pt x++l) w)(hx:x<9223372036854775808):ax av 338 #[X (G ⟨rb,0,U⟩),I J (-9223372036854775808),I J 9223372036854775807] w (DI w rb (I J (x:Nat)) (RM B rb l)):=by
 have HP:=O (p5 (k:=8) h (by simp[pt]));have HX:=O hx;have hxI:(x:Int)<=9223372036854775807:=by omega
 have hxJ: -9223372036854775808<=(x:Int):=by omega
 clear h hx;go_enter func338,ntmps338;go_wp2_with fail;refine HP.o.mono ?_;rintro e w2 ⟨bb,off,c,rfl,hr,hlt,hR,hC⟩;dsimp only;have HR:=O hR;have HC:=O hC;have HB:=O (show∀j:Nat,j<8->w2.cell? ⟨bb,off+j,U⟩=G (I .u8 ((jf x (7-j)).toNat:Int))from λj hj=>hr j _ (by
  match j,hj with
  |0,_=>rfl
  |1,_=>rfl
  |2,_=>rfl
  |3,_=>rfl
  |4,_=>rfl
  |5,_=>rfl
  |6,_=>rfl
  |7,_=>rfl))
 clear hr hlt hR hC;go_wp2_with fail
 go_loopw[7,16] (λv iv wr=>∃(j:Nat),j<=8/\iv=I J j/\v=I .u64 (tk x j)/\wr=w2) (λ_ iv _=>8- (intOf iv).toNat)
 case atStart=>exact⟨0,by omega,rfl,by unfold tk;rw[Nat.div_eq_of_lt (aP HX.o (by decide))];rfl,rfl⟩
 case round=>
  obtain⟨j,hj,rfl,rfl,rfl⟩:=hrel;have V5:(j:Int)<=8:=by omega
  by_cases hlt:j<8
  ·have qb6:(j:Int)<8:=by omega
   have cj:=HB.o j hlt;obtain⟨p0,p1⟩:=Uj x j hlt HX.o;have ps:=Lb x j hlt HX.o;clear hlt;have pb:IntKind.u64.wrap ((jf x (7-j)).toNat:Int)=((jf x (7-j)).toNat:Int):=oW _ (by omega) (by have:=(jf x (7-j)).toNat_lt;omega);have pw:IntKind.u64.wrap (tk x j*256)=tk x j*256:=oW _ (by omega) (by omega);go_wp2_with fail;refine⟨⟨j+1,by omega,?_,?_,trivial⟩,?_⟩
   ·rfl
   ·rfl
   ·simp[intOf];omega
  ·obtain rfl:j=8:=by omega
   clear hlt hj V5;have p8:tk x 8=(x:Int):=by simp[tk]
   rw[p8];go_wp2_with fail;go_ret;exact⟨rfl,by simpa [pt]using HR.o,HC.o⟩
theorem lh{f:Bool}(h:FB f rb w):ax av 338 #[X (G ⟨rb,0,U⟩),I J (-9223372036854775808),I J 9223372036854775807] w (DI w rb (I J 0) (FB true rb)):=by
 have HP:=O (rj (k:=8) h (by omega) (by omega));clear h;go_enter func338,ntmps338;go_wp2_with fail;refine HP.o.mono ?_;rintro e w2 ⟨rfl,hD,hC⟩;dsimp only;have HC:=O hC;obtain⟨A,n,c,b,hb,hd⟩:=hD;have HG:=O (ri hb);clear hb hd hC;go_wp2_with fail
 go_loopw[7,16] (λv iv wr=>iv=I J 0/\v=I .u64 0/\wr=w2) (λ_ iv _=>0)
 case atStart=>exact⟨rfl,rfl,rfl⟩
 case round=>
  obtain⟨rfl,rfl,rfl⟩:=hrel;go_wp2_with fail;refine HG.o.mono ?_;rintro e w3 ⟨rfl,hD,hC⟩;dsimp only;go_wp2_with fail;go_ret;exact⟨rfl,hD,HC.o.t hC⟩
theorem jb{v:Value}{R:aw->Prop}(h:ax av 338 #[X (G ⟨rb,0,U⟩),I J (-9223372036854775808),I J 9223372036854775807] w (DI w rb v R)):ax av 270 #[X (G ⟨rb,0,U⟩)] w (DI w rb v R):=by
 have H:=O h;clear h;go_enter func270,ntmps270;go_wp2_with fail;refine H.o.mono ?_;rintro e w2 ⟨rfl,hD,hC⟩;dsimp only;go_wp2_with fail;go_ret;exact⟨rfl,hD,hC⟩
theorem PY{y:Bool}(h:RM B rb ((if y then 1 else 0)::l) w):ax av 271 #[X (G ⟨rb,0,U⟩)] w (DI w rb (Y y) (RM B rb l)):=by
 have heq:=λ(w:aw) (a:Option Addr) (n c n' c':Nat)=>Lib.run_eql_slice_nil (P:=av) w 142 5 a n c n' c' underlying142;have HP:=O (p5 (k:=1) h (by simp));clear h;cases y
 all_goals
  go_enter func271,ntmps271;go_wp2_with fail;refine HP.o.mono ?_;rintro e w2 ⟨bb,off,c,rfl,hr,hlt,hR,hC⟩;dsimp only;have c0:=hr 0 _ rfl;simp only[Bool.false_eq_true,if_false,if_true,Nat.add_zero,show(0:UInt8).toNat=0 from rfl,show(1:UInt8).toNat=1 from rfl,Int.ofNat_zero,Int.ofNat_one]at c0;have HR:=O hR;have HC:=O hC;clear hr hlt hR hC;go_wp2_with fail;go_ret;exact⟨rfl,by simpa using HR.o,HC.o⟩
theorem Hn{f:Bool}(h:FB f rb w):ax av 271 #[X (G ⟨rb,0,U⟩)] w (DI w rb (Y false) (FB true rb)):=by
 have heq:=λ(w:aw) (a:Option Addr) (n c n' c':Nat)=>Lib.run_eql_slice_nil (P:=av) w 142 5 a n c n' c' underlying142;have HP:=O (rj (k:=1) h (by omega) (by omega));clear h;go_enter func271,ntmps271;go_wp2_with fail;refine HP.o.mono ?_;rintro e w2 ⟨rfl,hD,hC⟩;dsimp only;have HC:=O hC;obtain⟨A,n,c,b,hb,hd⟩:=hD;have HG:=O (ri hb);clear hb hd hC;go_wp2_with fail;refine HG.o.mono ?_;rintro e w3 ⟨rfl,hD,hC⟩;dsimp only;go_wp2_with fail;go_ret;exact⟨rfl,hD,HC.o.t hC⟩
theorem xy{f:Bool}{k:Nat}(h:FB f rb w):ax av 269 #[X (G ⟨rb,0,U⟩),I J (k:Nat)] w (DI w rb (V ⟨#[]⟩) (FB true rb)):=by
 have heq:=λ(w:aw) (a:Option Addr) (n c n' c':Nat)=>Lib.run_eql_slice_nil (P:=av) w 142 5 a n c n' c' underlying142;have HP:=O (rj (k:=2) h (by omega) (by omega));clear h;go_enter func269,ntmps269;go_wp2_with fail;refine HP.o.mono ?_;rintro e w2 ⟨rfl,hD,hC⟩;dsimp only;go_wp2_with fail;go_ret;exact⟨rfl,hD,hC⟩
theorem PZ(h:RM B rb [] w):ax av 339 #[X (G ⟨rb,0,U⟩)] w λe w'=>e=ay (Y true)/\w=w':=by
 obtain⟨bb,off,c,h⟩:=h;have hb:=h.aW;have x0:=hb.c 0;have xl:=hb.lt;have HF:=O (uJ hb);clear h hb;go_enter func339,ntmps339;go_wp2_with fail;refine HF.o.mono ?_;rintro e w2 ⟨rfl,rfl⟩;dsimp only;go_wp2_with fail;go_ret;exact⟨rfl,rfl⟩
theorem Ho(h:FB true rb w):ax av 339 #[X (G ⟨rb,0,U⟩)] w λe w'=>e=ay (Y false)/\w=w':=by
 obtain⟨A,n,c,b,hb,hd,_⟩:=h;obtain rfl:b=true:=hd.elim id (λh=>by cases h.1);have HF:=O (uJ hb);clear hb hd;go_enter func339,ntmps339;go_wp2_with fail;refine HF.o.mono ?_;rintro e w2 ⟨rfl,rfl⟩;dsimp only;go_wp2_with fail;go_ret;exact⟨rfl,rfl⟩
end
section
variable{w w':aw}{B rb:Nat}{l:List UInt8}
theorem XG(x:Nat)(hx:x<65536):bits .or J (((jf x 1).toNat:Int)*256) ((jf x 0).toNat:Int)=(x:Int):=by
 have h1:((jf x 1).toNat:Int)=((x / 256:Nat):Int):=by rw[lP];simp;omega
 have h0:((jf x 0).toNat:Int)=((x%256:Nat):Int):=by rw[lP];simp
 rw[h1,h0,bits_join J 63 (by decide) (λn h0 h1=>by simp[IntKind.wrap,IntKind.signed,IntKind.bits];omega) 8 _ _ (by omega) (by omega) (by omega) (by omega) (by omega) (by omega)];omega
theorem FC{s:ByteArray}{k:Nat}(h:RM B rb (wF s++l) w)(hs:s.size<=k)(hk:k<=32):ax av 269 #[X (G ⟨rb,0,U⟩),I J (k:Nat)] w (DI w rb (V s) (RM B rb l)):=by
 have heq:=λ(w:aw) (a:Option Addr) (n c n' c':Nat)=>Lib.run_eql_slice_nil (P:=av) w 142 5 a n c n' c' underlying142;have HP:=O (p5 (k:=2) h (by simp[wF]));have hsI:(s.size:Int)<=k:=by omega
 have h32:(k:Int)<=32:=by omega
 have j2:=XG s.size (by omega);have b1:=(jf s.size 1).toNat_lt;have b0:=(jf s.size 0).toNat_lt;have b1I:((jf s.size 1).toNat:Int)<256:=by omega
 have pw:IntKind.i64.wrap (((jf s.size 1).toNat:Int)*256)=((jf s.size 1).toNat:Int)*256:=by simp[IntKind.wrap,IntKind.signed,IntKind.bits];omega
 have pw1:IntKind.i64.wrap ((jf s.size 1).toNat:Int)=((jf s.size 1).toNat:Int):=by simp[IntKind.wrap,IntKind.signed,IntKind.bits];omega
 have pw0:IntKind.i64.wrap ((jf s.size 0).toNat:Int)=((jf s.size 0).toNat:Int):=by simp[IntKind.wrap,IntKind.signed,IntKind.bits];omega
 clear h hs b1 b0;go_enter func269,ntmps269;go_wp2_with fail;refine HP.o.mono ?_;rintro e w2 ⟨bb,off,c,rfl,hr,hlt,hR,hC⟩;dsimp only;have HC:=O hC;have c0:w2.cell? ⟨bb,off,U⟩=G (I .u8 ((jf s.size 1).toNat:Int)):=hr 0 _ rfl;have c1:w2.cell? ⟨bb,off+1,U⟩=G (I .u8 ((jf s.size 0).toNat:Int)):=hr 1 _ rfl;have HP2:=O (λn=>p5 (k:=s.size) (w:=w2.drewN n) (l:=s.data.toList++l) ((show RM B rb (s.data.toList++l) w2 from by simpa [wF]using hR).ch ((Ch.r (λ_=>False) _).drewN n) (λ_ h=>h.elim)) (by simp));clear hr hlt hR hC;go_wp2_with fail
 go_quiet(fail)
 go_wp2_with fail;refine(HP2.o _).mono ?_;rintro e w3 ⟨XH,Lc,c2,rfl,hr,hlt,hR,hC⟩;have HO:=O (show(convert 142 9 (T (G ⟨XH,Lc,U⟩) s.size c2)).run av w3= .ok (V s) w3 from run_convert_bytes_back w3 142 9 5 ⟨XH,Lc,U⟩ c2 s.data.toList underlying142 underlying5 underlying9 (λj hj=>(congrArg w3.cell? (show(⟨XH,Lc,U⟩:Addr).add j=⟨XH,Lc+j,U⟩ by unfold Addr.add;split<;>simp_all)).trans <| show w3.cell? ⟨XH,Lc+j,U⟩=G (I .u8 ((s.data.toList[j]).toNat:Int))from hr j _ (by
  have e1:(s.data.toList++l).take s.size=s.data.toList:=by simp
  rw[e1];unfold lW;rw[List.getElem?_map,List.getElem?_eq_getElem hj];rfl)))
 have ho:=HO.o;dsimp only;go_wp2_with fail;go_ret;exact⟨rfl,by simpa using hR,(HC.o.drewN _).t hC⟩
end
theorem ry:(av.info? 3).map (λi=>(i.zero,i.size,i.bytes))=G (G (I J 0),1,8):=by kernel_rfl
theorem P0(w:aw):(Instr.makeSlice 40 (I J 5) (I J 5)).run av w= .ok (T (G ⟨w.heap.size,0,U⟩) 5 5) (w.alloc (az #[I J 0,I J 0,I J 0,I J 0,I J 0] 3)):=by
 obtain⟨i,h1,h2,h3,h4⟩:=info_parts ry;simp only[Instr.makeSlice,asInt,asIntOf,newRow];simp[run_underlying underlying40,typeInfo,h1,h4,show IntKind.i64.wrap 5=5 by decide];exact congrArg (λa=>w.alloc (az a 3)) (show madeCells (I J 0).cells (5*1)=#[I J 0,I J 0,I J 0,I J 0,I J 0]from by kernel_rfl)
structure XI(B:Nat)(R:Nat->Nat->aw->Prop)(c:bQ)(y:Bool):Prop where
 ch: ∀{i rb w w'} {S:Nat->Prop},B<=rb->R i rb w->Ch S w w'->(∀g,S g->B<=g/\g≠rb)->R i rb w'
 lt: ∀{i rb w},R i rb w->rb<w.heap.size
 num: ∀{i rb w},i<5->B<=rb->R i rb w->ax av 270 #[X (G ⟨rb,0,U⟩)] w (DI w rb (I J (match i with|0=>c.kind|1=>c.tx|2=>c.aS|3=>c.aY|_=>c.op)) (R (i+1) rb))
 key: ∀{rb w},B<=rb->R 5 rb w->ax av 269 #[X (G ⟨rb,0,U⟩),I J 16] w (DI w rb (V c.key) (R 6 rb))
 val: ∀{rb w},B<=rb->R 6 rb w->ax av 269 #[X (G ⟨rb,0,U⟩),I J 32] w (DI w rb (V c.val) (R 7 rb))
 mo: ∀{rb w},B<=rb->R 7 rb w->ax av 270 #[X (G ⟨rb,0,U⟩)] w (DI w rb (I J c.mode) (R 8 rb))
 yes: ∀{rb w},B<=rb->R 8 rb w->ax av 271 #[X (G ⟨rb,0,U⟩)] w (DI w rb (Y c.yes) (R 9 rb))
 done: ∀{rb w},B<=rb->R 9 rb w->ax av 339 #[X (G ⟨rb,0,U⟩)] w λe w'=>e=ay (Y y)/\w=w'
def FD(c:bQ)(k:Nat):Array Value:=#[I J (if 0<k then c.kind else 0),I J (if 1<k then c.tx else 0),I J (if 2<k then c.aS else 0),I J (if 3<k then c.aY else 0),I J (if 4<k then c.op else 0)]
section
variable{w w':aw}{B rb:Nat}{c:bQ}{y:Bool}{R:Nat->Nat->aw->Prop}
theorem P1(h:XI B R c y)(hb:B<=rb)(hR:R 0 rb w):ax av 268 #[X (G ⟨rb,0,U⟩),I J 5] w λe w'=>∃q,e=ay (T (G ⟨q,0,U⟩) 5 5)/\aX w' q 3 (FD c 5)/\w.heap.size<=q/\R 5 rb w'/\Ch (λg=>g=rb) w w':=by
 have H:=O h;have HB:=O hb;have HL:=O (h.lt hR);have HK:=O (show B<=w.heap.size from aO hb (Nat.le_of_lt (h.lt hR)));have mk:=P0 w;have hq:rb≠w.heap.size:=by have:=h.lt hR;omega
 have HR:=O (h.ch hb hR ((Ch.r (λ_=>False) w).alloc (az #[I J 0,I J 0,I J 0,I J 0,I J 0] 3)) (λ_ h=>h.elim));have HA:=O ((Ch.r (λg=>g=rb) w).alloc (az #[I J 0,I J 0,I J 0,I J 0,I J 0] 3));have HN:=O (aX.new w 3 #[I J 0,I J 0,I J 0,I J 0,I J 0]);generalize hwa:w.alloc (az #[I J 0,I J 0,I J 0,I J 0,I J 0] 3)=wa at mk HR HA HN;have HQ:=O (aN w.heap.size);generalize hqa:w.heap.size=q at mk HN hq HQ HL HK;have HS:=O hqa;clear hwa h hb hR hqa;go_enter func268,ntmps268;go_wp2_with fail
 go_loopw[11] (λiv wr=>∃k:Nat,k<=5/\iv=I J k/\aX wr q 3 (FD c k)/\R k rb wr/\Ch (λg=>g=rb) w wr) (λiv _=>5- (intOf iv).toNat)
 case atStart=>exact⟨0,by omega,rfl,HN.o,HR.o,HA.o⟩
 case round=>
  obtain⟨k,hk,rfl,Sz,ZT,hC⟩:=hrel;have hC':=O hC;have JA:=O Sz;by_cases hlt:k<5
  ·have jj:=O (H.o.num hlt HB.o ZT);have qb6:(k:Int)<5:=by omega
   have my:=O hlt;clear Sz ZT hC hlt hk;go_wp2_with fail;refine jj.o.mono ?_;rintro e w3 ⟨rfl,hR3,Du⟩;dsimp only;have jx:=O hR3;have gT:=O Du;have fL:=O (JA.o.ch Du (λe=>hq e.symm));have xl:=fL.o.lt;have xf:=fL.o.frozen;obtain⟨v,xk⟩: ∃v,w3.cell? ⟨q,k,U⟩=G v:=⟨_,by rw[fL.o.c k];exact Array.getElem?_eq_getElem (by simpa [FD]using my.o)⟩;clear hR3 Du;go_wp2_with fail;refine⟨⟨k+1,by have:=my.o;omega,rfl,?_,?_,?_⟩,by have:=my.o;simp[intOf];omega⟩
   ·refine bu (fL.o.bm k _) ?_;have:=my.o;have h5:k=0\/k=1\/k=2\/k=3\/k=4:=by omega
    rcases h5 with rfl|rfl|rfl|rfl|rfl<;>simp[FD]
   ·exact H.o.ch HB.o jx.o ((Ch.r (λg=>g=q) w3).setCell (p:=⟨q,k,U⟩) (.inl rfl) _) (λg e=>by have:=HL.o;have:=HK.o;omega)
   ·exact(hC'.o.t gT.o).setCell (p:=⟨q,k,U⟩) (.inr (by rw[HS.o];exact HQ.o)) _
  ·obtain rfl:k=5:=by omega
   have HRk:=O ZT;clear hlt hk Sz ZT hC;go_wp2_with fail;go_ret;exact⟨_,rfl,JA.o,HQ.o,HRk.o,hC'.o⟩
end
theorem wpList_store_row{ops:Array Oper}{rest:List Oper}{o:Oper}{a:Act}{w:aw}{Q:Exit->Act->aw->Prop}(hg:o.guard=U)(ty:TypeId)(x y:Operand)(ho:o.op= .store ty x y)
 (g:Nat) (cells:Array Value) (hx:a.eval x=X (G ⟨g,0,U⟩)) (hy:a.eval y=aC cells) {t:TypeId} {CH:Array Value} (h:aX w g t CH) (hi:(av.info? ty).map (·.size)=G cells.size)
 (hold:CH.size=cells.size) (h1:cells.all (·.oneCell')=true)
 (k: ∀W,aX W g t cells->Ch (λk=>k=g) w W->wpList av ops Q rest (a.put o.dst undef) W):wpList av ops Q (o::rest) a w:=
 wpList_plain hg λ_ hK=>wp_store_row ty x y ho g cells hx hy t CH h hi hold h1 (hK _ _ (k _ (setRow_heap w g CH cells t _ h) ⟨rfl,rfl,rfl,by simp[World.setRow],λk _ hk=>setRow_other w g k cells hk⟩))
section
variable{w w':aw}{B rb:Nat}{c:bQ}{y:Bool}{R:Nat->Nat->aw->Prop}
theorem Ld(h:XI B R c y)(hb:B<=rb)(hR:R 9 rb w):ax av 272 #[X (G ⟨rb,0,U⟩),cn c] w λe w'=>e=ay (aB #[cn (if y then c else oU),I J (if y then 0 else 2)])/\M w w':=by
 have HR:=O (h.ch hb hR (((Ch.r (λ_=>False) w).alloc (az (bN c) 60)).alloc (az (bN oU) 60)) (λ_ h=>h.elim));have HD:=O (h.done hb HR.o);clear h hb hR;have H1:=O (show aX ((w.alloc (az (bN c) 60)).alloc (az (bN c) 60)) (w.heap.size+1) 60 (bN c)from by have:=aX.new (w.alloc (az (bN c) 60)) 60 (bN c);simpa using this);cases y
 ·go_enter func272,ntmps272;go_wp2_with fail;refine HD.o.mono ?_;rintro e w2 ⟨rfl,rfl⟩;dsimp only;go_wp2_with fail;change bodyPost _ _ _ _ _ (((w.alloc (az (bN c) 60)).alloc (az (bN oU) 60)).alloc (az (bN oU) 60));exact aE (v:=aB #[cn oU,I J 2]) (by simp[results,results272,go_sem,oU]) rfl ⟨rfl,(((Ch.r _ w).alloc _).alloc _).alloc _⟩
 ·go_enter func272,ntmps272;go_wp2_with fail;refine HD.o.mono ?_;rintro e w2 ⟨rfl,rfl⟩;dsimp only;go_wp2_with fail;have g:=λi=>H1.o.c i;have⟨g0,g1,g2,g3,g4,g5,g6,g7,g8⟩:=(show _/\_/\_/\_/\_/\_/\_/\_/\_ from⟨g 0,g 1,g 2,g 3,g 4,g 5,g 6,g 7,g 8⟩);change bodyPost _ _ _ _ _ ((w.alloc (az (bN c) 60)).alloc (az (bN c) 60));exact aE (v:=aB #[cn c,I J 0]) (by simp[results,results272,go_sem,g0,g1,g2,g3,g4,g5,g6,g7,g8]) rfl ⟨rfl,((Ch.r _ w).alloc _).alloc _⟩
theorem Lf(w:aw)(A:Option Addr)(n k:Nat):ax av 267 #[T A n k] w λe w'=>e=ay (X (G ⟨w.heap.size,0,U⟩))/\w'=w.alloc (az #[T A n k,Y false] 401):=by
 go_enter func267,ntmps267;go_wp2_with fail;go_ret;exact⟨rfl,rfl⟩
theorem xz{A:Option Addr}{n k:Nat}(h:XI w.heap.size R c y)(h0: ∀rb w',w.heap.size<=rb->M w w'->aX w' rb 401 #[T A n k,Y false]->R 0 rb w'):
 ax av 201 #[T A n k] w λe w'=>e=ay (aB #[cn (if y then c else oU),I J (if y then 0 else 2)])/\M w w':=by
 have H:=O h;obtain⟨B,hB⟩:=bG (w.heap.size);rw[hB]at H h0;have lG:=O (λw=>Lf w A n k);obtain⟨w1,bT⟩:=bG (w.alloc (az #[I J 0,I J 0,I J 0,I J 0,I J 0,V ⟨#[]⟩,V ⟨#[]⟩,I J 0,Y false] 60));have Uk:=kb bT;have Ae:=O (show w1.heap.size=B+1 from bT▸(by simp[hB]));have cw:=O (show aX w1 B 60 #[I J 0,I J 0,I J 0,I J 0,I J 0,V ⟨#[]⟩,V ⟨#[]⟩,I J 0,Y false]from bT▸hB▸aX.new w 60 _);obtain⟨w2,ew⟩:=bG (w1.alloc (az #[T A n k,Y false] 401));have HW2:=kb ew;have cJ:=O (show aX w2 (B+1) 401 #[T A n k,Y false]from Ae.o▸ew▸aX.new w1 401 _);have Ab:=O (h0 (B+1) w2 (by omega) (Uk.o.t HW2.o) cJ.o);have KD:=O (P1 H.o (by omega) Ab.o);have HW:=O ew;have SG:=O hB;clear h h0 ew hB;go_enter func201,ntmps201;go_wp2_with fail;rw[SG.o];refine(lG.o _).mono ?_;rintro e w' ⟨rfl,hw'⟩;rw[HW.o]at hw';subst hw';rw[Ae.o];dsimp only;clear bT;go_wp2_with fail;refine KD.o.mono ?_;rintro e w3 ⟨q,rfl,Lg,hq,hR5,Du⟩;dsimp only;have gT:=O Du;have c0:w3.cell? ⟨q,0,U⟩=G (I J c.kind):=Lg.c 0;have c1:w3.cell? ⟨q,1,U⟩=G (I J c.tx):=Lg.c 1;have c2:w3.cell? ⟨q,2,U⟩=G (I J c.aS):=Lg.c 2;have c3:w3.cell? ⟨q,3,U⟩=G (I J c.aY):=Lg.c 3;have c4:w3.cell? ⟨q,4,U⟩=G (I J c.op):=Lg.c 4;have d0:(w3.alloc (az #[I J 0,I J 0,I J 0,I J 0,I J 0,V ⟨#[]⟩,V ⟨#[]⟩,I J 0,Y false] 60)).cell? ⟨q,0,U⟩=G (I J c.kind):=(Lg.alloc _).c 0;have d1:(w3.alloc (az #[I J 0,I J 0,I J 0,I J 0,I J 0,V ⟨#[]⟩,V ⟨#[]⟩,I J 0,Y false] 60)).cell? ⟨q,1,U⟩=G (I J c.tx):=(Lg.alloc _).c 1;have d2:(w3.alloc (az #[I J 0,I J 0,I J 0,I J 0,I J 0,V ⟨#[]⟩,V ⟨#[]⟩,I J 0,Y false] 60)).cell? ⟨q,2,U⟩=G (I J c.aS):=(Lg.alloc _).c 2;have d3:(w3.alloc (az #[I J 0,I J 0,I J 0,I J 0,I J 0,V ⟨#[]⟩,V ⟨#[]⟩,I J 0,Y false] 60)).cell? ⟨q,3,U⟩=G (I J c.aY):=(Lg.alloc _).c 3;have d4:(w3.alloc (az #[I J 0,I J 0,I J 0,I J 0,I J 0,V ⟨#[]⟩,V ⟨#[]⟩,I J 0,Y false] 60)).cell? ⟨q,4,U⟩=G (I J c.op):=(Lg.alloc _).c 4;have s9:=O hR5;clear Lg hq hR5 Du;go_wp2_with fail
 go_region
 change Exit.then _ _ _ _ (w3.alloc (az #[I J c.kind,I J c.tx,I J c.aS,I J c.aY,I J c.op,V ⟨#[]⟩,V ⟨#[]⟩,I J 0,Y false] 60)).drew;clear c0 c1 c2 c3 c4 d0 d1 d2 d3 d4;have iq:=O (aX.new w3 60 #[I J c.kind,I J c.tx,I J c.aS,I J c.aY,I J c.op,V ⟨#[]⟩,V ⟨#[]⟩,I J 0,Y false]).drew;have cK:=O (((Ch.r (λ_=>False) w3).alloc (az #[I J c.kind,I J c.tx,I J c.aS,I J c.aY,I J c.op,V ⟨#[]⟩,V ⟨#[]⟩,I J 0,Y false] 60)).drew);have my:=O (H.o.lt s9.o);have On:=O (H.o.ch (by omega) s9.o cK.o (λ_ h=>h.elim));have HDQ:=O (rfl:w3.heap.size=w3.heap.size);generalize(w3.alloc (az #[I J c.kind,I J c.tx,I J c.aS,I J c.aY,I J c.op,V ⟨#[]⟩,V ⟨#[]⟩,I J 0,Y false] 60)).drew=w4 at *;generalize hD:w3.heap.size=D at *;clear hD HDQ;have HK:=O (H.o.key (by omega) On.o);go_wp2_with fail;refine HK.o.mono ?_;rintro e w5 ⟨rfl,Ul,qE⟩;dsimp only;have tQ:=O Ul;have dZ:=O qE;clear Ul qE;have HV:=O (H.o.val (by omega) tQ.o);go_wp2_with fail;refine HV.o.mono ?_;rintro e w6 ⟨rfl,hR7,nC⟩;dsimp only;have Bd:=O hR7;have iU:=O (dZ.o.t nC);clear hR7 nC;have oX:=O (iq.o.ch iU.o (λe=>by have:=my.o;omega));have x5:=oX.o.c 5;have x6:=oX.o.c 6;have xl:=oX.o.lt;have xf:=oX.o.frozen;have ZU:=O (show aX ((w6.setCell ⟨D,5,U⟩ (V c.key)).setCell ⟨D,6,U⟩ (V c.val)) D 60 #[I J c.kind,I J c.tx,I J c.aS,I J c.aY,I J c.op,V c.key,V c.val,I J 0,Y false]from bu ((oX.o.bm 5 (V c.key)).bm 6 (V c.val)) (by simp));have xi:=O (show Ch (λg=>g=D) w6 ((w6.setCell ⟨D,5,U⟩ (V c.key)).setCell ⟨D,6,U⟩ (V c.val))from((Ch.r (λg=>g=D) w6).setCell (p:=⟨D,5,U⟩) (.inl rfl) _).setCell (p:=⟨D,6,U⟩) (.inl rfl) _);have qb7:=O (H.o.ch (by omega) Bd.o xi.o (λg e=>by have:=my.o;omega));have HM:=O (H.o.mo (by omega) qb7.o);go_wp2_with fail;refine HM.o.mono ?_;rintro e w8 ⟨rfl,hR8,CL⟩;dsimp only;have HR8:=O hR8;have Fg:=O CL;clear hR8 CL x5 x6 xl xf HM;have HY:=O (H.o.yes (by omega) HR8.o);go_wp2_with fail;refine HY.o.mono ?_;rintro e w9 ⟨rfl,hR9,JL⟩;dsimp only;have FE:=O hR9;have nY:=O (Fg.o.t JL);clear hR9 JL HY;have gj:=O (ZU.o.ch nY.o (λe=>by have:=my.o;omega));have x7:=gj.o.c 7;have x8:=gj.o.c 8;have xl:=gj.o.lt;have xf:=gj.o.frozen;have Be:=O (show aX ((w9.setCell ⟨D,7,U⟩ (I J c.mode)).setCell ⟨D,8,U⟩ (Y c.yes)) D 60 (bN c)from bu ((gj.o.bm 7 (I J c.mode)).bm 8 (Y c.yes)) (by simp));have Um:=O (show Ch (λg=>g=D) w9 ((w9.setCell ⟨D,7,U⟩ (I J c.mode)).setCell ⟨D,8,U⟩ (Y c.yes))from((Ch.r (λg=>g=D) w9).setCell (p:=⟨D,7,U⟩) (.inl rfl) _).setCell (p:=⟨D,8,U⟩) (.inl rfl) _);have qb8:=O (H.o.ch (by omega) FE.o Um.o (λg e=>by have:=my.o;omega));have HZ:=O (Ld H.o (by omega) qb8.o);have⟨e0,e1,e2,e3,e4,e5,e6,e7,e8⟩:=kq Be.o;go_wp2_with fail;refine HZ.o.mono ?_;rintro e Jz ⟨rfl,hN⟩;have Un:=O ((((((((cw.o.ch HW2.o (λh=>h)).ch gT.o (λe=>by first|omega|exact e|(have:=my.o;omega))).ch cK.o (λe=>by first|omega|exact e|(have:=my.o;omega))).ch iU.o (λe=>by first|omega|exact e|(have:=my.o;omega))).ch xi.o (λe=>by first|omega|exact e|(have:=my.o;omega))).ch nY.o (λe=>by first|omega|exact e|(have:=my.o;omega))).ch Um.o (λe=>by first|omega|exact e|(have:=my.o;omega))).ch hN (λh=>h))
 have HCF:=O (show M w Jz from((((((((Uk.o.t HW2.o).trans gT.o (λk e=>.inr (by have:=SG.o;have:=my.o;first|omega|exact e.elim))).trans cK.o (λk e=>.inr (by have:=SG.o;have:=my.o;first|omega|exact e.elim))).trans iU.o (λk e=>.inr (by have:=SG.o;have:=my.o;first|omega|exact e.elim))).trans xi.o (λk e=>.inr (by have:=SG.o;have:=my.o;first|omega|exact e.elim))).trans nY.o (λk e=>.inr (by have:=SG.o;have:=my.o;first|omega|exact e.elim))).trans Um.o (λk e=>.inr (by have:=SG.o;have:=my.o;first|omega|exact e.elim))).trans hN (λk e=>e.elim)));clear hN e0 e1 e2 e3 e4 e5 e6 e7 e8 x7 x8 xl xf HZ;cases y
 all_goals
  dsimp only;go_wp2_with(first
   |(first
      |refine wpList_store_row rfl 60 (.tmp 2) (.tmp 42) rfl B (bN oU) rfl rfl Un.o (by kernel_rfl) rfl (by simp[Value.oneCell']) ?_
      |refine wpList_store_row rfl 60 (.tmp 2) (.tmp 42) rfl B (bN c) rfl rfl Un.o (by kernel_rfl) rfl (by simp[Value.oneCell']) ?_
     intro W hbW hcW;have HWN:=O (HCF.o.trans hcW (λk e=>.inr (by rw[e];exact Nat.le_of_eq SG.o)));have sK:=O hbW;clear hbW hcW))
  have⟨g0,g1,g2,g3,g4,g5,g6,g7,g8⟩:=kq sK.o;change bodyPost _ _ _ _ _ W
  first
   |exact aE (v:=aB #[cn oU,I J 2]) (by simp[results,results201,go_sem,g0,g1,g2,g3,g4,g5,g6,g7,g8]) rfl ⟨rfl,HWN.o⟩
   |exact aE (v:=aB #[cn c,I J 0]) (by simp[results,results201,go_sem,g0,g1,g2,g3,g4,g5,g6,g7,g8]) rfl ⟨rfl,HWN.o⟩
end
def Lh(c:bQ):List (List UInt8):=[pt c.kind.toNat,pt c.tx.toNat,pt c.aS.toNat,pt c.aY.toNat,pt c.op.toNat,wF c.key,wF c.val,pt c.mode.toNat,[if c.yes then 1 else 0]]
def JM(c:bQ)(i:Nat):List UInt8:=((Lh c).drop i).flatten
theorem P2(c:bQ):JM c 0=enc c:=by simp[JM,Lh,enc]
section
variable{w w':aw}{B rb:Nat}{c:bQ}
theorem rz{x:Int}{R:aw->Prop}(h0:0<=x)(h:ax av 338 #[X (G ⟨rb,0,U⟩),I J (-9223372036854775808),I J 9223372036854775807] w (DI w rb (I J (x.toNat:Nat)) R)):ax av 270 #[X (G ⟨rb,0,U⟩)] w (DI w rb (I J x) R):=by
 rw[Int.toNat_of_nonneg h0]at h;exact jb h
theorem Li(h:yR c):XI B (λi rb w=>RM B rb (JM c i) w) c true where
 ch:=λ_ hR hC hS=>hR.ch hC hS
 lt:=λhR=>by obtain⟨bb,off,k,hR⟩:=hR;exact hR.aW.lt
 num:=λ{i rb w} hi hb hR=>by
  match i,hi with
  |0,_=>exact rz (x:=c.kind) h.kd.1 (ru (l:=JM c 1) hR (by have:=h.kd.2;omega))
  |1,_=>exact rz (x:=c.tx) h.tx.1 (ru (l:=JM c 2) hR (by have:=h.tx.2;omega))
  |2,_=>exact rz (x:=c.aS) h.at_.1 (ru (l:=JM c 3) hR (by have:=h.at_.2;omega))
  |3,_=>exact rz (x:=c.aY) h.st.1 (ru (l:=JM c 4) hR (by have:=h.st.2;omega))
  |4,_=>exact rz (x:=c.op) h.op.1 (ru (l:=JM c 5) hR (by have:=h.op.2;omega))
 key:=λhb hR=>FC (k:=16) (l:=JM c 6) hR h.ke (by omega)
 val:=λhb hR=>FC (k:=32) (l:=JM c 7) hR h.va (by omega)
 mo:=λhb hR=>rz h.mo.1 (ru (l:=JM c 8) hR (by have:=h.mo.2;omega))
 yes:=λhb hR=>PY (l:=JM c 9) hR
 done:=λhb hR=>PZ (B:=B) hR
theorem Lj:XI B (λi rb w=>FB (decide (0<i)) rb w) oU false where
 ch:=λ_ hR hC hS=>hR.ch hC (λg e=>(hS g e).2)
 lt:=λhR=>by obtain⟨A,n,k,b,hR,_⟩:=hR;exact hR.lt
 num:=λ{i rb w} hi hb hR=>by
  match i,hi with
  |0,_=>exact jb (lh hR)
  |1,_=>exact jb (lh hR)
  |2,_=>exact jb (lh hR)
  |3,_=>exact jb (lh hR)
  |4,_=>exact jb (lh hR)
 key:=λhb hR=>xy (k:=16) hR
 val:=λhb hR=>xy (k:=32) hR
 mo:=λhb hR=>jb (lh hR)
 yes:=λhb hR=>Hn hR
 done:=λhb hR=>Ho hR
def qb9(d:ByteArray)(c:bQ)(y:Bool):Prop:=(y=true/\yR c/\d=gJ (enc c))\/(y=false/\c=oU/\d=⟨#[]⟩)
theorem p6(w:aw){d:ByteArray}{y:Bool}(h:qb9 d c y): ∃A n k W,(convert 9 142 (V d)).run av w= .ok (T A n k) W/\M w W/\
 ax av 201 #[T A n k] W λe w'=>e=ay (aB #[cn c,I J (if y then 0 else 2)])/\M W w':=by
 refine⟨_,_,_,_,run_bytes_of_string w 9 142 5 d underlying9 underlying142 underlying5,((Ch.r _ w).drew).alloc _,?_⟩;have hg:d.size<=1000000->grownCap w d.size 0 5<=9223372036854775807:=λh=>aO (grownCap_le_maxLen w d.size 0 5 (by unfold maxLen;omega)) (by unfold maxLen;omega);have hg2:=grownCap_ge w d.size 0 5;generalize grownCap w d.size 0 5=k at *;rcases h with⟨rfl,hc,rfl⟩|⟨rfl,rfl,rfl⟩
 ·have hl:(enc c).length<=1000:=by
   have:=hc.ke;have:=hc.va
   simp[enc,wF,pT];omega
  have hs:(gJ (enc c)).size=(enc c).length:=by simp[gJ,ByteArray.size]
  refine(xz (Li hc) (λrb w' hb hN hB=>?_)).mono (λe w' h=>h);rw[P2];refine⟨w.heap.size,0,k,by rw[hs]at hB;exact hB,⟨by omega,hg (by omega)⟩,λi v hv=>?_,by simp,hb,by simpa using hN.size⟩;rw[World.cell?_of_block (hN.block w.heap.size (by simp) (λh=>h))];have:((w.drew.alloc (az (bytesRow (gJ (enc c)) k) 5 ((bytesRow (gJ (enc c)) k).size,(bytesRow (gJ (enc c)) k).size+1))).heap)[w.heap.size]?=G (az (bytesRow (gJ (enc c)) k) 5 ((bytesRow (gJ (enc c)) k).size,(bytesRow (gJ (enc c)) k).size+1)):=heap_alloc_new w.drew _;simp only[World.cell?,this];have hi:i<(enc c).length:=by
   have:=(List.getElem?_eq_some_iff.1 hv).1;simpa [lW]using this
  rw[Nat.zero_add];simp only[bytesRow,gJ,Array.getElem?_append];simp only[lW,List.getElem?_map]at hv;simp[hi]at hv⊢;exact hv
 ·refine(xz Lj (λrb w' hb hN hB=>⟨_,_,_,_,hB,.inr ⟨rfl,rfl⟩,by simp⟩)).mono (λe w' h=>h)
end
abbrev kx:=Int×ByteArray
def UB(e:kx):List Value:=[I J e.1,V e.2]
def Hz(L:List kx):List Value:=L.flatMap UB
theorem LK:(av.info? 222).map (λi=>(i.zero,i.size,i.bytes))=G (G (aC #[I J 0,V ⟨#[]⟩]),2,24):=by kernel_rfl
structure lp(w:aw)(lb:Nat)(A:Option Addr)(n c:Nat)(L:List kx):Prop where
 aW:aX w lb 276 #[T A n c]
 own:w.ownsRow 4 222 2 (T A n c) n (Hz L)
 len:L.length=n
 fx:n<=100
 hi:4<=lb
def gx(lb:Nat)(A:Option Addr)(n c:Nat):Nat->Prop:=λg=>g=lb\/(T A n c).ownBlock=G g
section
variable{w w':aw}{lb n c:Nat}{A:Option Addr}{L:List kx}{e:kx}
theorem lp.ch{S:Nat->Prop}(h:lp w lb A n c L)(hC:Ch S w w')(hS: ∀g,gx lb A n c g->¬S g):lp w' lb A n c L:=
 ⟨h.aW.ch hC (hS _ (.inl rfl)),bg h.own hC (λg hg=>hS g (.inr hg)),h.len,h.fx,h.hi⟩
theorem lp.aR(h:lp w lb A n c L)(hC:M w w'):lp w' lb A n c L:=h.ch hC (λ_ _ h=>h)
theorem lp.fC(h:lp w lb A n c L):oo (gx lb A n c) w:=λg hg=>by
 rcases hg with rfl|hg
 ·exact h.aW.lt
 ·exact(h.own.lt g hg).2
theorem lp.at_(h:lp w lb A n c L){i:Nat}(he:L[i]?=G e): ∃g,A=G ⟨g,0,U⟩/\g<w.heap.size/\w.cell? ⟨g,i*2,U⟩=G (I J e.1)/\w.cell? ⟨g,i*2+1,U⟩=G (V e.2):=by
 obtain⟨g,cap,hv,_,hlt⟩:=h.own.form (by have:=bf he;rw[h.len]at this;omega);injection hv with hA _ _;have hg:=λj hj=>eI (f:=UB) (m:=2) (λ_ _=>rfl) he (j:=j) hj;obtain⟨b,off,e1,_,hc⟩:=(Rd.own h.own) (fh (hg 0 (by omega)));rw[hA]at e1;injection e1 with e1;injection e1 with e1 e2;subst e1 e2;exact⟨g,hA,hlt,by simpa using hc _ _ (hg 0 (by omega)),by simpa using hc _ _ (hg 1 (by omega))⟩
def j5(L:List kx):Int:=(L.getLast?.map (·.1)).getD 0
theorem jR(h:lp w lb A n c L):ax av 266 #[X (G ⟨lb,0,U⟩)] w λe w'=>e=ay (aB #[I J (n:Nat),I J (j5 L)])/\∃m,w'=w.drewN m:=by
 have x0:=h.aW.c 0;have xl:=h.aW.lt;have oV:=h.fx;have hn:(n:Int)<=100:=by omega
 rcases Nat.eq_zero_or_pos n with h0|h0
 ·subst h0;obtain rfl:L=[]:=List.eq_nil_of_length_eq_zero h.len;clear h;go_enter func266,ntmps266
  go_wp2
  go_ret2;exact⟨rfl,0,rfl⟩
 ·obtain⟨e,he⟩:=bh (show n-1<L.length by rw[h.len];omega);obtain⟨g,rfl,hg,y0,y1⟩:=h.at_ he;have hT:j5 L=e.1:=by
   unfold j5;rw[List.getLast?_eq_getElem?,h.len,he];rfl
  rw[hT];obtain⟨k,rfl⟩: ∃k,n=k+1:=⟨n-1,by omega⟩;simp only[Nat.add_sub_cancel]at y0 y1;have d1:(((k+1:Nat):Int)==0)=false:=by rw[beq_eq_false_iff_ne];omega
  have d2:((k+1:Nat):Int) -1=(k:Int):=by omega
  have d3:IntKind.i64.wrap (k:Int)=k:=IntWalk.i64_in _ (by omega);have d4:(0:Int)<=(k:Int):=by omega
  have d5:(k:Int)<((k+1:Nat):Int):=by omega
  clear h he hT;go_enter func266,ntmps266;go_wp2_with fail
  go_quiet(fail)
  go_wp2_with fail;go_ret2;exact⟨rfl,_,rfl⟩
end
structure Nd where
 term:Int
 fP:Int
 role:Int
 eU:Int
 since:Int
 quiet:Int
 dC:Int
 fU:Int
 heard:Int
 nx:Int
 dD:Bool
 fr:Int
abbrev vW(r:Nd)(lb:Nat):Array Value:=
 #[I J 0,I J 1,I J 4,I J 2,I J r.term,I J r.fP,I J r.role,I J r.eU,I J r.since,I J r.quiet,I J r.dC,X (G ⟨lb,0,U⟩),I .u64 r.fU,I .u64 r.heard,
   I J r.nx,I J 0,I J 0,I J 0,I J 0,I J 0,I J 0,I J 0,I J 0,I J 0,I J 0,I J 0,I J 0,I J 0,T U 0 0,Y r.dD,I J r.fr]
structure jo(w:aw)(xb lb:Nat)(A:Option Addr)(n c:Nat)(r:Nd)(L:List kx):Prop where
 aW:aX w xb 215 (vW r lb)
 log:lp w lb A n c L
 hi:4<=xb
def ix(xb lb:Nat)(A:Option Addr)(n c:Nat):Nat->Prop:=λg=>g=xb\/gx lb A n c g
section
variable{w w':aw}{xb lb n c:Nat}{A:Option Addr}{L:List kx}{r r':Nd}
theorem jo.ch{S:Nat->Prop}(h:jo w xb lb A n c r L)(hC:Ch S w w')(hS: ∀g,ix xb lb A n c g->¬S g):jo w' xb lb A n c r L:=
 ⟨h.aW.ch hC (hS _ (.inl rfl)),h.log.ch hC (λg hg=>hS g (.inr hg)),h.hi⟩
theorem jo.aR(h:jo w xb lb A n c r L)(hC:M w w'):jo w' xb lb A n c r L:=h.ch hC (λ_ _ h=>h)
theorem jo.fC(h:jo w xb lb A n c r L):oo (ix xb lb A n c) w:=λg hg=>by
 rcases hg with rfl|hg
 ·exact h.aW.lt
 ·exact h.log.fC g hg
theorem jo.xne(h:jo w xb lb A n c r L): ∀g,gx lb A n c g->g≠xb:=λg hg e=>by
 subst e;rcases hg with e|e
 ·subst e;exact h.aW.lF h.log.aW (by decide) rfl
 ·exact aV h.log.own h.aW (by decide) e
theorem jo.cQ(h:jo w xb lb A n c r L)(hC:Ch (λg=>g=xb) w w')(hb:aX w' xb 215 (vW r' lb)):jo w' xb lb A n c r' L/\Sub (ix xb lb A n c) (ix xb lb A n c) w w':=
 ⟨⟨hb,h.log.ch hC (λg hg=>h.xne g hg),h.hi⟩,hC.mono (λg hg=>.inl hg),λg hg=>.inl hg⟩
def Wj(w:aw)(xb lb:Nat)(A:Option Addr)(n c:Nat)(v:Value)(r':Nd)(n':Nat)(L':List kx)(e:Ending)(w':aw):Prop:=
 e=ay v/\∃A' c',jo w' xb lb A' n' c' r' L'/\Sub (ix xb lb A n c) (ix xb lb A' n' c') w w'
theorem LL(w:aw):ax av 351 #[I .u64 1] w λe w'=>e=ay (I J 1)/\w=w':=by
 go_enter func351,ntmps351;go_wp2_with(go_at_call 382;go_in);go_ret;exact⟨by kernel_rfl,rfl⟩
theorem qa(h:jo w xb lb A n c r L):ax av 277 #[X (G ⟨xb,0,U⟩),I .u64 1] w λe w'=>e=ay (Y true)/\∃m,w'=w.drewN m:=by
 have x1:=h.aW.c 1;have xl:=h.aW.lt;have HO:=O LL;clear h;go_enter func277,ntmps277;go_wp2_with fail
 go_quiet((go_at_call 351;exact oI (HO.o _)))
 go_wp2
 go_ret;exact⟨rfl,_,rfl⟩
theorem rD(h:jo w xb lb A n c r L):ax av 278 #[X (G ⟨xb,0,U⟩)] w λe w'=>e=ay (aB #[])/\w'=w.setCell ⟨xb,8,U⟩ (I J 0):=by
 have⟨x0,x1⟩:=vS h.aW;have x8:=h.aW.c 8;have xl:=h.aW.lt;have xf:=h.aW.frozen 8;clear h;go_enter func278,ntmps278;go_wp2_with fail
 go_loop[10] (λiv=>iv=I J 0\/iv=I J 1) (λiv=>(1-intOf iv).toNat)
 case atStart=>exact .inl rfl
 case round=>
  rcases hrel with rfl|rfl
  ·go_wp2_with fail
   go_round
   case rel=>exact .inr rfl
   case measure=>simp[intOf]
  ·go_wp2_with fail
   go_end0
   exact⟨rfl,rfl⟩
abbrev CZ(s q h v x:Int)(dD:Bool)(fr dC:Int):Nd:=⟨1,0,3,0,s,q,dC,v,h,x,dD,fr⟩
theorem HJ(h:jo w xb lb A n c r L)(h0:r.fr=0)(k:Int):ax av 282 #[X (G ⟨xb,0,U⟩),I J k] w λe w'=>e=ay (aB #[])/\w'=w.setCell ⟨xb,30,U⟩ (I J k):=by
 have x:=h.aW.c 30;have xl:=h.aW.lt;have xf:=h.aW.frozen 30;obtain⟨term,fP,role,eU,since,quiet,dC,fU,heard,nx,dD,fr⟩:=r;dsimp only at h0;subst h0;clear h;go_enter func282,ntmps282;go_wp2_with fail
 go_end0
 exact⟨rfl,rfl⟩
theorem LM(h:lp w lb A n c L){i:Nat}{e:kx}(he:L[i]?=G e):ax av 352 #[X (G ⟨lb,0,U⟩),I J ((i:Nat)+1)] w λe' w'=>e'=ay (aB #[I J e.1,Y true])/\w'=w:=by
 have x0:=h.aW.c 0;have xl:=h.aW.lt;have oV:=h.fx;have hi:=bf he;rw[h.len]at hi;obtain⟨g,rfl,hg,y0,y1⟩:=h.at_ he;have hn:(n:Int)<=100:=by omega
 have Aa:(i:Int)<n:=by omega
 have d1:decide ((i:Int)+1<0)=false:=decide_eq_false (by omega);have d2:decide ((n:Int)<(i:Int)+1)=false:=decide_eq_false (by omega);have d3:(((i:Int)+1)==0)=false:=by rw[beq_eq_false_iff_ne];omega
 clear h he;go_enter func352,ntmps352;go_wp2_with fail;go_ret2;exact⟨rfl,rfl⟩
theorem H7(h:jo w xb lb A (n+1) c r L)(h1:r.term=1)(hc:r.dC=n)(hL:j5 L=1):ax av 283 #[X (G ⟨xb,0,U⟩)] w λe w'=>e=ay (aB #[])/\jo w' xb lb A (n+1) c {r with dC:=n+1,since:=0} L/\Ch (λg=>g=xb) w w':=by
 have HH:=O h;have xh:=O (jR h.log);have oV:=h.log.fx;obtain⟨e,he⟩:=bh (show n<L.length by rw[h.log.len];omega);have hT:j5 L=e.1:=by
  unfold j5;rw[List.getLast?_eq_getElem?,h.log.len,Nat.add_sub_cancel,he];rfl
 have HE:=O (λw' (hN:M w w')=>LM (h.log.aR hN) he);rw[hT]at xh hL;rw[hL]at HE xh;have HM:=O (λw' (hN:M w w')=>qa (h.aR hN));obtain⟨term,fP,role,eU,since,quiet,dC,fU,heard,nx,dD,fr⟩:=r;dsimp only at h1 hc;subst h1 hc;have⟨x0,x1,x4,rE,mq⟩:=(show _/\_/\_/\_/\_ from⟨h.aW.c 0,h.aW.c 1,h.aW.c 4,h.aW.c 10,h.aW.c 11⟩);have xl:=h.aW.lt;have hn:(n:Int)<=100:=by omega
 clear h he hT;go_enter func283,ntmps283;go_wp2_with fail;refine xh.o.mono ?_;rintro e w2 ⟨rfl,m,ew⟩;dsimp only;have bJ:=O (show M w w2 from ew▸(Ch.r _ w).drewN m);have H2:=O (HH.o.aR bJ.o);clear ew x0 x1 x4 rE mq xl;have⟨x0,x1,x4,rE,mq⟩:=(show _/\_/\_/\_/\_ from⟨H2.o.aW.c 0,H2.o.aW.c 1,H2.o.aW.c 4,H2.o.aW.c 10,H2.o.aW.c 11⟩);have xl:=H2.o.aW.lt;have xf:=H2.o.aW.frozen 10;have d1:decide ((n:Int)<(n:Int)+1)=true:=decide_eq_true (by omega);have DV:=O (HE.o _ bJ.o);go_wp2_with fail
 go_loopw[4] (λiv wr=>iv=I J ((n:Nat)+1)/\w2=wr) (λ_ _=>0)
 case atStart=>exact⟨by simp,rfl⟩
 case round=>
  obtain⟨rfl,rfl⟩:=hrel;go_wp2_with fail;refine DV.o.mono ?_;rintro e w3 ⟨rfl,je⟩;subst w3;dsimp only;go_wp2_with fail
  go_loop[7,51] (λhv iv=>hv=I .u64 1/\(iv=I J 0\/iv=I J 1)) (λ_ iv=>(1-intOf iv).toNat)
  case atStart=>exact⟨rfl,.inl rfl⟩
  case round=>
   obtain⟨rfl,rfl|rfl⟩:=hrel
   ·go_wp2_with fail
    go_round
    case rel=>exact⟨rfl,.inr rfl⟩
    case measure=>simp[intOf]
   ·go_wp2_with fail;refine(HM.o _ bJ.o).mono ?_;rintro e w4 ⟨rfl,m,lH⟩;dsimp only;have cK:=O (show M w2 w4 from lH▸(Ch.r _ w2).drewN m);have H4:=O (H2.o.aR cK.o);clear lH x0 x1 x4 rE mq xl xf;have rE:=H4.o.aW.c 10;have xf:=H4.o.aW.frozen 10;have xl:=H4.o.aW.lt;obtain⟨w5,qC⟩:=bG (w4.setCell ⟨xb,10,U⟩ (I J ((n:Int)+1)));have dZ:=O (show Ch (λg=>g=xb) w4 w5 from qC▸(Ch.r (λg=>g=xb) w4).setCell (p:=⟨xb,10,U⟩) (.inl rfl) _);have mM:=O (show aX w5 xb 215 (vW ⟨1,fP,role,eU,since,quiet,(n:Int)+1,fU,heard,nx,dD,fr⟩ lb)from qC▸bu (H4.o.aW.bm 10 (I J ((n:Int)+1))) (by simp));have HT:=O (rD (H4.o.cQ dZ.o mM.o).1);go_wp2_with fail;refine HT.o.mono ?_;rintro e w6 ⟨rfl,sZ⟩;dsimp only;have oX:=O (show aX w6 xb 215 (vW ⟨1,fP,role,eU,0,quiet,(n:Int)+1,fU,heard,nx,dD,fr⟩ lb)from sZ▸bu (mM.o.bm 8 (I J 0)) (by simp));have iU:=O (show Ch (λg=>g=xb) w4 w6 from dZ.o.t (sZ▸(Ch.r (λg=>g=xb) w5).setCell (p:=⟨xb,8,U⟩) (.inl rfl) _));clear sZ qC;go_wp2_with fail
    first|go_end0|(simp only[Exit.inBlock,Exit.then];refine aE (results_none rfl _ _ _) rfl ?_)|refine aE (results_none rfl _ _ _) rfl ?_
    exact⟨rfl,(H4.o.cQ iU.o oX.o).1,((bJ.o.t cK.o).mono (λ_ h=>h.elim)).t iU.o⟩
end
theorem o7(L:List kx)(e:kx):j5 (L++[e])=e.1:=by simp[j5]
theorem H8(L:List kx)(e:kx):Hz (L++[e])=Hz L++[I J e.1,V e.2]:=by simp[Hz,UB]
section
variable{w w':aw}{xb lb n c:Nat}{A:Option Addr}{L:List kx}{r r':Nd}
theorem lp.push{w2 w9:aw}{A9:Option Addr}{c9:Nat}{t:Int}{d:ByteArray}(h:lp w2 lb A n c L)(hN:M w w2)(hn:n<100)(hl:oo (gx lb A n c) w)(ho:w9.ownsRow 4 222 2 (T A9 (n+1) c9) (n+1) (Hz L++[I J t,V d]))(hC:Ch (λg=>(T A n c).ownBlock=G g) w2 w9)
 (hat: ∀g,(T A9 (n+1) c9).ownBlock=G g->(T A n c).ownBlock=G g\/w2.heap.size<=g) (hb9:aX w9 lb 276 #[T A n c]) (o8:Ch (λg=>g=lb) w9 w') (hb:aX w' lb 276 #[T A9 (n+1) c9]):
 lp w' lb A9 (n+1) c9 (L++[(t,d)])/\Sub (gx lb A n c) (gx lb A9 (n+1) c9) w w':=by
 refine⟨⟨hb,?_,by simp[h.len],by omega,h.hi⟩,⟨?_,λg hg=>?_⟩⟩
 ·rw[H8];exact bg ho o8 (λg hg e=>aV ho hb9 (by decide) (by rw[<-e];exact hg))
 ·exact((hN.mono (λ_ e=>e.elim)).t (hC.mono (λg hg=>.inr hg))).t (o8.mono (λg hg=>.inl hg))
 ·rcases hg with e|e
  ·exact .inl (.inl e)
  ·rcases hat g e with e|e
   ·exact .inl (.inr e)
   ·have:=hN.size;exact .inr (by omega)
theorem DW(h:lp w lb A n c L)(hn:n<100)(t:Int)(ht:j5 L<=t)(d:ByteArray):ax av 281 #[X (G ⟨lb,0,U⟩),aC #[I J t,V d]] w λe w'=>e=ay (I J 0)/\∃A' c',lp w' lb A' (n+1) c' (L++[(t,d)])/\Sub (gx lb A n c) (gx lb A' (n+1) c') w w':=by
 obtain⟨i1,dX,er,eu,eK⟩:=info_parts LK;have HH:=O h;have jW:(n:Int)<100:=by omega
 obtain⟨w1,bT⟩:=bG (w.alloc (az #[I J t,V d] 222));have cH:=kb bT;have cw:=O (show aX w1 w.heap.size 222 #[I J t,V d]from bT▸aX.new w 222 _);have xh:=O (jR (h.aR cH.o));obtain⟨au,hT⟩:=bG (j5 L);rw[hT]at ht xh;have d1:decide (t<au)=false:=decide_eq_false (by omega);have sr:n+1<=maxLen:=by unfold maxLen;omega
 have jE:(n+1)*24<=140737488355328:=by omega
 clear h hT ht;go_enter func281,ntmps281;go_wp2_with fail;refine xh.o.mono ?_;rintro e w2 ⟨rfl,m,ew⟩;dsimp only;have bJ:=O (show M w1 w2 from ew▸(Ch.r _ w1).drewN m);have H2:=O (HH.o.aR (cH.o.t bJ.o));have cJ:=O (cw.o.ch bJ.o (λh=>h));clear ew;have⟨y0,y1⟩:=vS cJ.o;have yl:=cJ.o.lt;have x0:=H2.o.aW.c 0;have xl:=H2.o.aW.lt;have xf:=H2.o.aW.frozen 0;have mi:=O (λ(ar:aw) (hC:M w2 ar)=>bg H2.o.own hC (λ_ _ h=>h));have sK:=O (λ(ar w8:aw) (hC:M w2 ar) (hg:ar.grownBy w8 (T A n c).ownBlock)=>show aX w8 lb 276 #[T A n c]from
  (H2.o.aW.ch hC (λh=>h)).grown hg (λe=>aV H2.o.own H2.o.aW (by decide) e.symm))
 go_upto_region 8 with(fail)
 go_region_law(first
  |(refine bL _ rfl (.tmp 27) (.tmp 29) 145 rfl 4 222 i1 _ 2 24 underlying145 dX er eu eK rfl (by decide) (T A n c) n (Hz L) (by simp[Act.eval]) (mi.o _ (by first|exact((Ch.r _ w2).drew).alloc _|exact((Ch.r _ w2).alloc _).drew)) (w2.heap.size+1) (G ⟨w2.heap.size,0,U⟩) 1 1 [I J t,V d] (by simp[Act.eval]) (by first|exact cD w2.drew 222 #[I J t,V d] 1 2 rfl|exact(cD w2 222 #[I J t,V d] 1 2 rfl).drew) (by simp[Value.oneCell']) sr jE (by have:=H2.o.hi;simp;omega) ?_
    intro v9 w9 cC gV fl;obtain⟨A9,c9,rfl⟩:=bz cC;have mS:=O cC;have rF:=O fl;have gj:=O (sK.o _ w9 (by first|exact((Ch.r _ w2).drew).alloc _|exact((Ch.r _ w2).alloc _).drew) gV);have nY:=O (show Ch (λg=>(T A n c).ownBlock=G g) w2 w9 from Ch.grown (by first|exact((Ch.r _ w2).drew).alloc _|exact((Ch.r _ w2).alloc _).drew) gV (λg hg=>.inl hg));clear cC gV fl;have u0:=gj.o.c 0;have ul:=gj.o.lt;have uf:=gj.o.frozen))
 all_goals
  have kD:=O (show∀g,(T A9 (n+1) c9).ownBlock=G g->(T A n c).ownBlock=G g\/w2.heap.size<=g from λg hg=>by
   rcases rF.o with e|e
   ·exact .inl (e▸hg)
   ·right
    rw[e]at hg;injection hg with hg;have hg:w2.heap.size+1=g:=by first|exact hg|simpa using hg
    omega)
  have HX:=O (H2.o.push (cH.o.t bJ.o) hn HH.o.fC mS.o nY.o kD.o gj.o ((Ch.r (λk=>k=lb) w9).setCell (p:=⟨lb,0,U⟩) (.inl rfl) _) (bu (gj.o.bm 0 (T A9 (n+1) c9)) (by simp)));clear u0 ul uf y0 y1 yl x0 xl xf;go_wp2_with fail;go_ret;exact⟨rfl,A9,c9,HX.o⟩
theorem jo.qd2{A':Option Addr}{n' c':Nat}{L':List kx}(h:jo w xb lb A n c r L)(hL:lp w' lb A' n' c' L')(hs:Sub (gx lb A n c) (gx lb A' n' c') w w'):jo w' xb lb A' n' c' r L'/\Sub (ix xb lb A n c) (ix xb lb A' n' c') w w':=
 ⟨⟨h.aW.ch hs.ch (λe=>h.xne xb e rfl),hL,h.hi⟩,hs.ch.mono (λg e=>.inr e),λg hg=>by
   rcases hg with e|e
   ·exact .inl (.inl e)
   ·exact(hs.new g e).imp .inr id⟩
theorem FO(h:jo w xb lb A n c r L)(hn:n<100)(h1:r.term=1)(hc:r.dC=n)(hf:r.fr=0)(hT:j5 L<=1)(d:ByteArray):
 ax av 210 #[X (G ⟨xb,0,U⟩),V d] w (Wj w xb lb A n c (I J 0) {r with dC:=n+1,since:=0,fr:=n+1} (n+1) (L++[(1,d)])):=by
 have HH:=O h;have dB:=O (show M w w.drew from aU w);have HAD:=O (λw' (hN:M w w')=>DW (h.log.aR hN) hn 1 hT d);have jW:(n:Int)<100:=by omega
 obtain⟨term,fP,role,eU,since,quiet,dC,fU,heard,nx,dD,fr⟩:=r;dsimp only at h1 hc hf⊢;subst h1 hc hf;have cZ:=O (λw' (hB:aX w' xb 215 (vW ⟨1,fP,role,eU,since,quiet,(n:Int),fU,heard,nx,dD,0⟩ lb))=>(show w'.cell? ⟨xb,4,U⟩=G (I J 1)/\w'.cell? ⟨xb,11,U⟩=G (X (G ⟨lb,0,U⟩))from⟨hB.c 4,hB.c 11⟩));have⟨x4,mq⟩:=cZ.o _ h.aW;have xl:=h.aW.lt;have Wk: ∀r',jo w xb lb A n c r' L->oo (ix xb lb A n c) w:=λ_ h=>h.fC;clear h Wk;go_enter func210,ntmps210;go_upto_region 1 with(fail)
 go_cut[5] (λv wr=>v=I J 0/\∃A' c',jo wr xb lb A' (n+1) c' ⟨1,fP,role,eU,since,quiet,(n:Int),fU,heard,nx,dD,0⟩ (L++[(1,d)])/\Sub (ix xb lb A n c) (ix xb lb A' (n+1) c') w wr)
 case first=>
  go_region_held3(λw'=>w'.cell? ⟨xb,4,U⟩=G (I J 1)/\w'.cell? ⟨xb,11,U⟩=G (X (G ⟨lb,0,U⟩)))
   (first|with_reducible exact cZ.o _ HH.o.aW.drew|with_reducible exact cZ.o _ XX.o.1.aW)
   (first
     |(go_at_call 281;(with_reducible refine(HAD.o _ dB.o).mono ?_);rintro e w4 ⟨rfl,A',c',hL,hs⟩
       have XX:=O ((HH.o.aR dB.o).qd2 hL hs);clear hL hs;dsimp only))
  all_goals
   go_wp2_with fail;go_meet;exact⟨rfl,A',c',XX.o.1,(Sub.bj _ dB.o).trans XX.o.2⟩
 case rest=>
  obtain⟨rfl,A',c',hX,hs⟩:=hcut;have HX:=O hX;have HS:=O hs;have xh:=O (jR hX.log);rw[o7]at xh;have mq:=hX.aW.c 11;have xl:=hX.aW.lt;clear hX hs x4;go_wp2_with fail;refine xh.o.mono ?_;rintro e w2 ⟨rfl,m,ew⟩;dsimp only;have bJ:=O (show M wc w2 from ew▸(Ch.r _ wc).drewN m);have H2:=O (HX.o.aR bJ.o);have HD:=O (HJ H2.o rfl ((n:Int)+1));clear ew mq xl;go_wp2_with fail;refine HD.o.mono ?_;rintro e w3 ⟨rfl,je⟩;dsimp only;have fL:=O (show aX w3 xb 215 (vW ⟨1,fP,role,eU,since,quiet,(n:Int),fU,heard,nx,dD,(n:Int)+1⟩ lb)from je▸bu (H2.o.aW.bm 30 (I J ((n:Int)+1))) (by simp));have gT:=O (show Ch (λg=>g=xb) w2 w3 from je▸(Ch.r (λg=>g=xb) w2).setCell (p:=⟨xb,30,U⟩) (.inl rfl) _);have H3:=O (H2.o.cQ gT.o fL.o);have HTA:=O (rD H3.o.1);clear je;go_wp2_with fail;refine HTA.o.mono ?_;rintro e w4 ⟨rfl,lH⟩;dsimp only;have iq:=O (show aX w4 xb 215 (vW ⟨1,fP,role,eU,0,quiet,(n:Int),fU,heard,nx,dD,(n:Int)+1⟩ lb)from lH▸bu (fL.o.bm 8 (I J 0)) (by simp));have cK:=O (show Ch (λg=>g=xb) w2 w4 from gT.o.t (lH▸(Ch.r (λg=>g=xb) w3).setCell (p:=⟨xb,8,U⟩) (.inl rfl) _));have H4:=O (H2.o.cQ cK.o iq.o);have HAG:=O (H7 H4.o.1 rfl rfl (o7 _ _));clear lH;go_wp2_with fail;refine HAG.o.mono ?_;rintro e w5 ⟨rfl,hM,hC⟩;dsimp only;have H5:=O (show jo w5 xb lb A' (n+1) c' ⟨1,fP,role,eU,0,quiet,(n:Int)+1,fU,heard,nx,dD,(n:Int)+1⟩ (L++[(1,d)])from hM);have dZ:=O (cK.o.t hC);clear hM hC;go_wp2_with fail;go_ret;exact⟨rfl,A',c',H5.o,(HS.o.trans (Sub.bj _ bJ.o)).trans (H2.o.cQ dZ.o H5.o.aW).2⟩
theorem H9(h:jo w xb lb A n c r L):ax av 211 #[X (G ⟨xb,0,U⟩)] w λe w'=>e=ay (I J (n:Nat))/\∃m,w'=w.drewN m:=by
 have xh:=O (jR h.log);have mq:=h.aW.c 11;have xl:=h.aW.lt;clear h;go_enter func211,ntmps211;go_wp2_with fail;refine xh.o.mono ?_;rintro e w2 ⟨rfl,m,ew⟩;dsimp only;have HW:=O ew;clear ew;go_wp2_with fail;go_ret;exact⟨rfl,m,HW.o⟩
theorem Bi(h:jo w xb lb A n c r L)(hr:r.role=3)(hn:n<100)(h1:r.term=1)(hc:r.dC=n)(hf:r.fr=0)(hT:j5 L<=1)(d:ByteArray)(hd:d.size<=512):
 ax av 146 #[X (G ⟨xb,0,U⟩),V d] w (Wj w xb lb A n c (aB #[I J ((n:Nat)+1),I J 0]) {r with dC:=n+1,since:=0,fr:=n+1} (n+1) (L++[(1,d)])):=by
 have HA:=O (FO h hn h1 hc hf hT d);have hdI:(d.size:Int)<=512:=by omega
 have x6:=h.aW.c 6;have xl:=h.aW.lt;obtain⟨R,hR⟩:=bG ({r with dC:=(n:Int)+1,since:=0,fr:=(n:Int)+1});rw[hR]at HA⊢;obtain⟨term,fP,role,eU,since,quiet,dC,fU,heard,nx,dD,fr⟩:=r;dsimp only at hr x6;subst hr;clear h h1 hc hf hR;go_enter func146,ntmps146;go_wp2_with fail;refine HA.o.mono ?_;rintro e w2 ⟨rfl,A',c',hM,hs⟩;dsimp only;have HM:=O hM;have HS:=O hs;have HL:=O (H9 hM);clear hM hs x6 xl;go_wp2_with fail;refine HL.o.mono ?_;rintro e w3 ⟨rfl,m,je⟩;dsimp only;have HN:=O (show M w2 w3 from je▸(Ch.r _ w2).drewN m);clear je;go_wp2_with fail;go_ret2;exact⟨by simp,A',c',HM.o.aR HN.o,HS.o.trans (Sub.bj _ HN.o)⟩
end
section
variable{w w':aw}{xb lb n c:Nat}{A:Option Addr}{L:List kx}{r r':Nd}
theorem Ia(h:jo w xb lb A 0 c r [])(h1:r.term=1)(h0:r.fP=0)(hc:r.dC=0)(hf:r.fr=0):
 ax av 288 #[X (G ⟨xb,0,U⟩)] w (Wj w xb lb A 0 c (aB #[]) (CZ 0 0 0 r.fU 1 r.dD 1 1) 1 [(1,emp)]):=by
 have HH:=O h;obtain⟨term,fP,role,eU,since,quiet,dC,fU,heard,nx,dD,fr⟩:=r;dsimp only at h1 h0 hc hf⊢;subst h1 h0 hc hf;have⟨x0,x1,x6,x7,x8,x9,mq,o9⟩:=(show _/\_/\_/\_/\_/\_/\_/\_ from⟨h.aW.c 0,h.aW.c 1,h.aW.c 6,h.aW.c 7,h.aW.c 8,h.aW.c 9,h.aW.c 11,h.aW.c 13⟩);have xl:=h.aW.lt;have xf:=h.aW.frozen;clear h;go_enter func288,ntmps288;go_upto_region 1 with(fail);obtain⟨w1,bT⟩:=bG (((((w.setCell ⟨xb,8,U⟩ (I J 0)).setCell ⟨xb,9,U⟩ (I J 0)).setCell ⟨xb,6,U⟩ (I J 3)).setCell ⟨xb,7,U⟩ (I J 0)).setCell ⟨xb,13,U⟩ (I .u64 0));have cw:=O (show aX w1 xb 215 (vW ⟨1,0,3,0,0,0,0,fU,0,nx,dD,0⟩ lb)from bT▸bu (((((HH.o.aW.bm 8 (I J 0)).bm 9 (I J 0)).bm 6 (I J 3)).bm 7 (I J 0)).bm 13 (I .u64 0)) (by simp));have qB:=O (show Ch (λg=>g=xb) w w1 from bT▸((((((Ch.r (λg=>g=xb) w).setCell (p:=⟨xb,8,U⟩) (.inl rfl) _).setCell (p:=⟨xb,9,U⟩) (.inl rfl) _).setCell (p:=⟨xb,6,U⟩) (.inl rfl) _).setCell (p:=⟨xb,7,U⟩) (.inl rfl) _).setCell (p:=⟨xb,13,U⟩) (.inl rfl) _));have H1:=O (HH.o.cQ qB.o cw.o);rw[bT];clear bT x0 x1 x6 x7 x8 x9 mq o9 xl xf;have xh:=O (jR H1.o.1.log);have mq:=cw.o.c 11;have xl:=cw.o.lt;go_wp2_with fail;refine xh.o.mono ?_;rintro e w2 ⟨rfl,m,ew⟩;dsimp only;have bJ:=O (show M w1 w2 from ew▸(Ch.r _ w1).drewN m);have H2:=O (H1.o.1.aR bJ.o);clear ew mq xl;have x1:=H2.o.aW.c 1;have xl:=H2.o.aW.lt;have hT:j5 ([]:List kx)=0:=rfl;go_wp2_with fail
 go_loopw[36] (λiv wr=>(iv=I J 0/\wr=w2)\/(iv=I J 1/\jo wr xb lb A 0 c ⟨1,0,3,0,0,0,0,fU,0,1,dD,0⟩ []/\Ch (λg=>g=xb) w2 wr)) (λiv _=>(1-intOf iv).toNat)
 case atStart=>exact .inl ⟨rfl,rfl⟩
 case round=>
  rcases hrel with⟨rfl,hw⟩|⟨rfl,hM,hC⟩
  ·subst wr;have C0:=H2.o.aW.c 14;have x21:=H2.o.aW.c 21;have xf:=H2.o.aW.frozen;go_wp2_with fail
   go_region
   have fL:=O (show aX ((w2.setCell ⟨xb,14,U⟩ (I J 1)).setCell ⟨xb,21,U⟩ (I J 0)).drew xb 215 (vW ⟨1,0,3,0,0,0,0,fU,0,1,dD,0⟩ lb)from(bu ((H2.o.aW.bm 14 (I J 1)).bm 21 (I J 0)) (by simp)).drew);have gT:=O (show Ch (λg=>g=xb) w2 ((w2.setCell ⟨xb,14,U⟩ (I J 1)).setCell ⟨xb,21,U⟩ (I J 0)).drew from(((Ch.r (λg=>g=xb) w2).setCell (p:=⟨xb,14,U⟩) (.inl rfl) _).setCell (p:=⟨xb,21,U⟩) (.inl rfl) _).drew);go_wp2_with fail;exact⟨.inr ⟨rfl,(H2.o.cQ gT.o fL.o).1,gT.o⟩,by simp[intOf]⟩
  ·have H3:=O hM;have gT:=O hC;have HA:=O (FO hM (by omega) rfl rfl rfl (by decide) emp);clear hM hC x1 xl;go_wp2_with fail;refine HA.o.mono ?_;rintro e w4 ⟨rfl,A',c',hM,hs⟩;dsimp only;have H4:=O hM;have lY:=O (((H1.o.2.trans (Sub.bj _ bJ.o)).trans (H2.o.cQ gT.o H3.o.aW).2).trans hs);clear hM hs;go_wp2_with fail
   go_end0
   exact⟨rfl,A',c',by simpa using H4.o,lY.o⟩
theorem DX(h:jo w xb lb A 0 c r [])(h1:r.term=0)(hc:r.dC=0)(hf:r.fr=0):
 ax av 279 #[X (G ⟨xb,0,U⟩)] w (Wj w xb lb A 0 c (aB #[]) (CZ 0 0 0 1 1 true 1 1) 1 [(1,emp)]):=by
 have HH:=O h;obtain⟨term,fP,role,eU,since,quiet,dC,fU,heard,nx,dD,fr⟩:=r;dsimp only at h1 hc hf⊢;subst h1 hc hf;have⟨x0,x4,x5,x6,x8,tu⟩:=(show _/\_/\_/\_/\_/\_ from⟨h.aW.c 0,h.aW.c 4,h.aW.c 5,h.aW.c 6,h.aW.c 8,h.aW.c 12⟩);have xl:=h.aW.lt;have xf:=h.aW.frozen;clear h;go_enter func279,ntmps279;go_upto_region 1 with(fail);obtain⟨w1,bT⟩:=bG (((w.setCell ⟨xb,8,U⟩ (I J 0)).setCell ⟨xb,6,U⟩ (I J 2)).setCell ⟨xb,12,U⟩ (I .u64 1));have cw:=O (show aX w1 xb 215 (vW ⟨0,fP,2,eU,0,quiet,0,1,heard,nx,dD,0⟩ lb)from bT▸bu (((HH.o.aW.bm 8 (I J 0)).bm 6 (I J 2)).bm 12 (I .u64 1)) (by simp));have qB:=O (show Ch (λg=>g=xb) w w1 from bT▸(((Ch.r (λg=>g=xb) w).setCell (p:=⟨xb,8,U⟩) (.inl rfl) _).setCell (p:=⟨xb,6,U⟩) (.inl rfl) _).setCell (p:=⟨xb,12,U⟩) (.inl rfl) _);have H1:=O (HH.o.cQ qB.o cw.o);rw[bT];clear bT x0 x4 x5 x6 x8 tu xl xf;have⟨x0,x4,x5,x17⟩:=(show _/\_/\_/\_ from⟨cw.o.c 0,cw.o.c 4,cw.o.c 5,cw.o.c 29⟩);have xl:=cw.o.lt;have xf:=cw.o.frozen
 go_region
 have fL:=O (show aX (((w1.setCell ⟨xb,4,U⟩ (I J 1)).setCell ⟨xb,5,U⟩ (I J 0)).setCell ⟨xb,29,U⟩ (Y true)).drew xb 215 (vW ⟨1,0,2,eU,0,quiet,0,1,heard,nx,true,0⟩ lb)from(bu (((cw.o.bm 4 (I J 1)).bm 5 (I J 0)).bm 29 (Y true)) (by simp)).drew);have gT:=O (show Ch (λg=>g=xb) w1 (((w1.setCell ⟨xb,4,U⟩ (I J 1)).setCell ⟨xb,5,U⟩ (I J 0)).setCell ⟨xb,29,U⟩ (Y true)).drew from((((Ch.r (λg=>g=xb) w1).setCell (p:=⟨xb,4,U⟩) (.inl rfl) _).setCell (p:=⟨xb,5,U⟩) (.inl rfl) _).setCell (p:=⟨xb,29,U⟩) (.inl rfl) _).drew);change Exit.then _ _ _ _ (((w1.setCell ⟨xb,4,U⟩ (I J 1)).setCell ⟨xb,5,U⟩ (I J 0)).setCell ⟨xb,29,U⟩ (Y true)).drew;generalize(((w1.setCell ⟨xb,4,U⟩ (I J 1)).setCell ⟨xb,5,U⟩ (I J 0)).setCell ⟨xb,29,U⟩ (Y true)).drew=w3 at *;have H3:=O (H1.o.1.cQ gT.o fL.o);have Qh:=O (qa H3.o.1);clear x0 x4 x5 x17 xl xf;have tu:=fL.o.c 12;have xl:=fL.o.lt;go_wp2_with fail;refine Qh.o.mono ?_;rintro e w4 ⟨rfl,m,lH⟩;dsimp only;have dQ:=O (show M w3 w4 from lH▸(Ch.r _ w3).drewN m);have H4:=O (H3.o.1.aR dQ.o);have p7:=O (Ia H4.o rfl rfl rfl rfl);clear lH tu xl;go_wp2_with fail;refine p7.o.mono ?_;rintro e w5 ⟨rfl,A',c',hM,hs⟩;dsimp only;have H5:=O hM;have js:=O (((H1.o.2.trans H3.o.2).trans (Sub.bj _ dQ.o)).trans hs);clear hM hs;go_wp2_with fail
 first|go_end0|(simp only[Exit.inBlock,Exit.then];refine aE (results_none rfl _ _ _) rfl ?_)|refine aE (results_none rfl _ _ _) rfl ?_
 exact⟨rfl,A',c',H5.o,js.o⟩
theorem LO(h:jo w xb lb A 0 c r [])(h1:r.term=0)(hc:r.dC=0)(hf:r.fr=0):
 ax av 209 #[X (G ⟨xb,0,U⟩)] w (Wj w xb lb A 0 c (aB #[]) (CZ 0 0 0 1 1 true 1 1) 1 [(1,emp)]):=by
 have HH:=O h;obtain⟨term,fP,role,eU,since,quiet,dC,fU,heard,nx,dD,fr⟩:=r;dsimp only at h1 hc hf⊢;subst h1 hc hf;have⟨x0,x6,x7,x8,tu⟩:=(show _/\_/\_/\_/\_ from⟨h.aW.c 0,h.aW.c 6,h.aW.c 7,h.aW.c 8,h.aW.c 12⟩);have xl:=h.aW.lt;have xf:=h.aW.frozen;clear h;go_enter func209,ntmps209;go_upto_region 1 with(fail);obtain⟨w1,bT⟩:=bG ((((w.setCell ⟨xb,8,U⟩ (I J 0)).setCell ⟨xb,6,U⟩ (I J 1)).setCell ⟨xb,7,U⟩ (I J (-1))).setCell ⟨xb,12,U⟩ (I .u64 1));have cw:=O (show aX w1 xb 215 (vW ⟨0,fP,1, -1,0,quiet,0,1,heard,nx,dD,0⟩ lb)from bT▸bu ((((HH.o.aW.bm 8 (I J 0)).bm 6 (I J 1)).bm 7 (I J (-1))).bm 12 (I .u64 1)) (by simp));have qB:=O (show Ch (λg=>g=xb) w w1 from bT▸((((Ch.r (λg=>g=xb) w).setCell (p:=⟨xb,8,U⟩) (.inl rfl) _).setCell (p:=⟨xb,6,U⟩) (.inl rfl) _).setCell (p:=⟨xb,7,U⟩) (.inl rfl) _).setCell (p:=⟨xb,12,U⟩) (.inl rfl) _);have H1:=O (HH.o.cQ qB.o cw.o);rw[bT];clear bT x0 x6 x7 x8 tu xl xf;have Qh:=O (qa H1.o.1);have tu:=cw.o.c 12;have xl:=cw.o.lt;go_wp2_with fail;refine Qh.o.mono ?_;rintro e w4 ⟨rfl,m,lH⟩;dsimp only;have dQ:=O (show M w1 w4 from lH▸(Ch.r _ w1).drewN m);have H4:=O (H1.o.1.aR dQ.o);have pv:=O (DX H4.o rfl rfl rfl);clear lH tu xl;go_wp2_with fail;refine pv.o.mono ?_;rintro e w5 ⟨rfl,A',c',hM,hs⟩;dsimp only;have H5:=O hM;have js:=O ((H1.o.2.trans (Sub.bj _ dQ.o)).trans hs);clear hM hs;go_wp2_with fail
 first|go_end0|(simp only[Exit.inBlock,Exit.then];refine aE (results_none rfl _ _ _) rfl ?_)|refine aE (results_none rfl _ _ _) rfl ?_
 exact⟨rfl,A',c',H5.o,js.o⟩
end
section
variable{w w':aw}{xb lb n c:Nat}{A:Option Addr}{L:List kx}{r r':Nd}{s q v x fr cm:Int}{dD:Bool}
def SM(w:aw)(xb lb:Nat)(A:Option Addr)(n c:Nat)(v x fr cm:Int)(dD:Bool)(L:List kx)(e:Ending)(w':aw):Prop:=
 e=ay (aB #[])/\∃s q,(0<=s/\s<=1)/\(0<=q/\q<=3)/\jo w' xb lb A n c (CZ s q 0 v x dD fr cm) L/\Ch (λg=>g=xb) w w'
theorem LP(h:jo w xb lb A n c (CZ s q 0 v x dD fr cm) L)(hs:0<=s/\s<=5)(hq:0<=q/\q<=3):
 ax av 208 #[X (G ⟨xb,0,U⟩)] w (SM w xb lb A n c v x fr cm dD L):=by
 have HH:=O h;have⟨x0,x2,x3,x8,x9,o9⟩:=(show _/\_/\_/\_/\_/\_ from⟨h.aW.c 0,h.aW.c 2,h.aW.c 3,h.aW.c 8,h.aW.c 9,h.aW.c 13⟩);have xl:=h.aW.lt;have xf:=h.aW.frozen;clear h;go_enter func208,ntmps208;go_upto_region 1 with(fail);obtain⟨w1,bT⟩:=bG (w.setCell ⟨xb,9,U⟩ (I J (q+1)));have cw:=O (show aX w1 xb 215 (vW (CZ s (q+1) 0 v x dD fr cm) lb)from bT▸bu (HH.o.aW.bm 9 (I J (q+1))) (by simp));have qB:=O (show Ch (λg=>g=xb) w w1 from bT▸(Ch.r (λg=>g=xb) w).setCell (p:=⟨xb,9,U⟩) (.inl rfl) _);have H1:=O (HH.o.cQ qB.o cw.o);rw[bT];clear bT x0 x2 x3 x8 x9 o9 xl xf;have⟨x0,x2,x3,x8,x9,o9⟩:=(show _/\_/\_/\_/\_/\_ from⟨cw.o.c 0,cw.o.c 2,cw.o.c 3,cw.o.c 8,cw.o.c 9,cw.o.c 13⟩);have xl:=cw.o.lt;have xf:=cw.o.frozen
 go_quiet(fail)
 have dB:=O (show M w1 (w1.drewN nq)from(Ch.r _ w1).drewN nq);generalize w1.drewN nq=w2 at *;have H2:=O (H1.o.1.aR dB.o);clear x0 x2 x3 x8 x9 o9 xl xf;go_upto_if 18 with(fail)
 go_cut[0] (λv0 wr=>v0=X (G ⟨xb,0,U⟩)/\∃q',(0<=q'/\q'<=3)/\jo wr xb lb A n c (CZ s q' 0 v x dD fr cm) L/\Ch (λg=>g=xb) w wr)
 case first=>
  by_cases h3:q=3
  ·subst h3;have⟨x0,o9⟩:=(show _/\_ from⟨H2.o.aW.c 0,H2.o.aW.c 13⟩);have xl:=H2.o.aW.lt;have xf:=H2.o.aW.frozen;have hb:bits BinOp.or IntKind.u64 0 1=1:=by kernel_rfl
   go_wp2_with fail
   go_quiet(fail)
   have cE:=O (show M w2 (w2.drewN nq)from(Ch.r _ w2).drewN nq);generalize w2.drewN nq=w3 at *;have H3:=O (H2.o.aR cE.o);obtain⟨w4,lH⟩:=bG ((w3.setCell ⟨xb,9,U⟩ (I J 0)).setCell ⟨xb,13,U⟩ (I .u64 0));have iq:=O (show aX w4 xb 215 (vW (CZ s 0 0 v x dD fr cm) lb)from lH▸bu ((H3.o.aW.bm 9 (I J 0)).bm 13 (I .u64 0)) (by simp));have cK:=O (show Ch (λg=>g=xb) w3 w4 from lH▸((Ch.r (λg=>g=xb) w3).setCell (p:=⟨xb,9,U⟩) (.inl rfl) _).setCell (p:=⟨xb,13,U⟩) (.inl rfl) _);have H4:=O (H3.o.cQ cK.o iq.o);have Qh:=O (qa H4.o.1);clear x0 o9 xl xf;have x9:=H3.o.aW.c 9;have o9:=H3.o.aW.c 13;have xl:=H3.o.aW.lt;have xf:=H3.o.aW.frozen;go_upto_region 4 with(fail)
   try rw[lH]
   go_wp2_with fail;refine Qh.o.mono ?_;rintro e w5 ⟨rfl,m,qC⟩;dsimp only;have ff:=O (show M w4 w5 from qC▸(Ch.r _ w4).drewN m);have H5:=O (H4.o.1.aR ff.o);clear qC x9 o9 xl xf;go_wp2_with fail;go_meet;exact⟨rfl,0,by omega,H5.o,(((qB.o.t (dB.o.mono (λ_ e=>e.elim))).t (cE.o.mono (λ_ e=>e.elim))).t cK.o).t (ff.o.mono (λ_ e=>e.elim))⟩
  ·have d1:decide (4<=q+1)=false:=decide_eq_false (by omega);go_wp2_with fail;go_meet;exact⟨rfl,q+1,by omega,H2.o,qB.o.t (dB.o.mono (λ_ e=>e.elim))⟩
 case rest=>
  obtain⟨rfl,q',hq',hM,hC⟩:=hcut;have H3:=O hM;have gT:=O hC;have⟨x3,x8⟩:=(show _/\_ from⟨hM.aW.c 3,hM.aW.c 8⟩);have xl:=hM.aW.lt;clear hM hC;go_upto_region 7 with(fail)
  go_quiet(fail)
  have dQ:=O (show M wc (wc.drewN nq)from(Ch.r _ wc).drewN nq);generalize wc.drewN nq=w4 at *;have H4:=O (H3.o.aR dQ.o);have HT:=O (rD H4.o);clear x3 x8 xl;by_cases h2:2<=s
  ·have d2:decide (2<=s)=true:=decide_eq_true h2;go_wp2_with fail;refine HT.o.mono ?_;rintro e w5 ⟨rfl,qC⟩;dsimp only;have mM:=O (show aX w5 xb 215 (vW (CZ 0 q' 0 v x dD fr cm) lb)from qC▸bu (H4.o.aW.bm 8 (I J 0)) (by simp));have dZ:=O (show Ch (λg=>g=xb) w4 w5 from qC▸(Ch.r (λg=>g=xb) w4).setCell (p:=⟨xb,8,U⟩) (.inl rfl) _);clear qC;go_wp2_with fail
   go_end0
   exact⟨rfl,0,q',by omega,hq',(H4.o.cQ dZ.o mM.o).1,(gT.o.t (dQ.o.mono (λ_ e=>e.elim))).t dZ.o⟩
  ·have d2:decide (2<=s)=false:=decide_eq_false h2;go_wp2_with fail
   go_end0
   exact⟨rfl,s,q',by omega,hq',H4.o,gT.o.t (dQ.o.mono (λ_ e=>e.elim))⟩
theorem Ib(h:jo w xb lb A n c (CZ s q 0 v x dD fr cm) L)(hs:0<=s/\s<=1)(hq:0<=q/\q<=3)(d:Int):
 ax av 144 #[X (G ⟨xb,0,U⟩),I J d] w (SM w xb lb A n c v x fr cm dD L):=by
 have⟨x6,x8⟩:=(show _/\_ from⟨h.aW.c 6,h.aW.c 8⟩);have xl:=h.aW.lt;have xf:=h.aW.frozen;obtain⟨w1,bT⟩:=bG (w.setCell ⟨xb,8,U⟩ (I J (s+1)));have cw:=O (show aX w1 xb 215 (vW (CZ (s+1) q 0 v x dD fr cm) lb)from bT▸bu (h.aW.bm 8 (I J (s+1))) (by simp));have qB:=O (show Ch (λg=>g=xb) w w1 from bT▸(Ch.r (λg=>g=xb) w).setCell (p:=⟨xb,8,U⟩) (.inl rfl) _);have HL:=O (LP (h.cQ qB.o cw.o).1 (by omega) hq);clear h;go_enter func144,ntmps144;go_upto_region 2 with(fail);clear x6 x8 xl xf;have x6:=cw.o.c 6;have xl:=cw.o.lt;go_wp2_with fail;refine HL.o.mono ?_;rintro e w2 ⟨rfl,s',q',Ar,hq',hM,hC⟩;dsimp only;have HM:=O hM;have HC:=O (qB.o.t hC);clear hM hC x6 xl bT;go_wp2_with fail
 go_end0
 exact⟨rfl,s',q',Ar,hq',HM.o,HC.o⟩
abbrev zg(s:Int):Nd:=⟨0, -1,0, -1,s,0,0,0,0,0,false,0⟩
theorem Ic(h:jo w xb lb A 0 c (zg s) [])(hs:0<=s/\s<=2):
 ax av 144 #[X (G ⟨xb,0,U⟩),I J 0] w λe w'=>e=ay (aB #[])/\jo w' xb lb A 0 c (zg (s+1)) []/\Ch (λg=>g=xb) w w':=by
 have⟨x2,x4,x6,x8⟩:=(show _/\_/\_/\_ from⟨h.aW.c 2,h.aW.c 4,h.aW.c 6,h.aW.c 8⟩);have xl:=h.aW.lt;have xf:=h.aW.frozen;obtain⟨w1,bT⟩:=bG (w.setCell ⟨xb,8,U⟩ (I J (s+1)));have cw:=O (show aX w1 xb 215 (vW (zg (s+1)) lb)from bT▸bu (h.aW.bm 8 (I J (s+1))) (by simp));have qB:=O (show Ch (λg=>g=xb) w w1 from bT▸(Ch.r (λg=>g=xb) w).setCell (p:=⟨xb,8,U⟩) (.inl rfl) _);have H1:=O (h.cQ qB.o cw.o).1;have d1:decide (4<=s+1)=false:=decide_eq_false (by omega);clear h;go_enter func144,ntmps144;go_upto_region 2 with(fail);clear x2 x4 x6 x8 xl xf;have⟨x2,x4,x6,x8⟩:=(show _/\_/\_/\_ from⟨cw.o.c 2,cw.o.c 4,cw.o.c 6,cw.o.c 8⟩);have xl:=cw.o.lt;go_upto_region 4 with(fail)
 go_quiet(fail)
 go_wp2_with fail
 go_end0
 exact⟨rfl,H1.o.aR ((Ch.r _ _).drewN _),qB.o.drewN _⟩
theorem Ie(h:jo w xb lb A 0 c (zg 3) []):
 ax av 144 #[X (G ⟨xb,0,U⟩),I J 0] w (Wj w xb lb A 0 c (aB #[]) (CZ 0 0 0 1 1 true 1 1) 1 [(1,emp)]):=by
 have⟨x2,x4,x6,x8⟩:=(show _/\_/\_/\_ from⟨h.aW.c 2,h.aW.c 4,h.aW.c 6,h.aW.c 8⟩);have xl:=h.aW.lt;have xf:=h.aW.frozen;obtain⟨w1,bT⟩:=bG (w.setCell ⟨xb,8,U⟩ (I J 4));have cw:=O (show aX w1 xb 215 (vW (zg 4) lb)from bT▸bu (h.aW.bm 8 (I J 4)) (by simp));have qB:=O (show Ch (λg=>g=xb) w w1 from bT▸(Ch.r (λg=>g=xb) w).setCell (p:=⟨xb,8,U⟩) (.inl rfl) _);have H1:=O (h.cQ qB.o cw.o);clear h;go_enter func144,ntmps144;go_upto_region 2 with(fail);clear x2 x4 x6 x8 xl xf;have⟨x2,x4,x6,x8⟩:=(show _/\_/\_/\_ from⟨cw.o.c 2,cw.o.c 4,cw.o.c 6,cw.o.c 8⟩);have xl:=cw.o.lt;go_upto_region 4 with(fail)
 go_quiet(fail)
 have bJ:=O (show M w1 (w1.drewN nq)from(Ch.r _ w1).drewN nq);generalize w1.drewN nq=w2 at *;have HA:=O (LO (H1.o.1.aR bJ.o) rfl rfl rfl);clear x2 x4 x6 x8 xl;go_wp2_with fail;refine HA.o.mono ?_;rintro e w3 ⟨rfl,A',c',hM,hs⟩;dsimp only;have HM:=O hM;have HS:=O ((H1.o.2.trans (Sub.bj _ bJ.o)).trans hs);clear hM hs;go_wp2_with fail
 go_end0
 exact⟨rfl,A',c',HM.o,HS.o⟩
end
section
variable{w w':aw}{xb lb n c:Nat}{A:Option Addr}{L:List kx}{r r':Nd}{s q v x fr cm:Int}{dD:Bool}
def XY(w:aw)(C1:kx)(e:Ending)(w':aw):Prop:=∃A c,e=ay (T A 1 c)/\w'.ownsRow w.heap.size 222 2 (T A 1 c) 1 [I J C1.1,V C1.2]/\M w w'
theorem xE(h:lp w lb A (n+1) c L){C1:kx}(he:L[n]?=G C1){m:Int}(hm:1<=m/\m<=2000):
 ax av 199 #[X (G ⟨lb,0,U⟩),I J ((n:Nat)+1),I J m] w (XY w C1):=by
 have HH:=O h;have xh:=O (jR h);have oV:=h.fx;have jW:(n:Int)<=99:=by omega
 obtain⟨au,hT⟩:=bG (j5 L);rw[hT]at xh;have d1:max ((n:Int)+1) 1=(n:Int)+1:=by omega
 have d2:decide (m<1)=false:=decide_eq_false (by omega);have d3:min m 1=1:=by omega
 have HE:=O he;clear h hT he;go_enter func199,ntmps199;go_wp2_with fail;refine xh.o.mono ?_;rintro e w2 ⟨rfl,k,ew⟩;dsimp only;have bJ:=O (show M w w2 from ew▸(Ch.r _ w).drewN k);have H2:=O (HH.o.aR bJ.o);obtain⟨g,rfl,hg,y0,y1⟩:=H2.o.at_ HE.o;have x0:=H2.o.aW.c 0;have xl:=H2.o.aW.lt;have W8:=AQ H2.o.own;clear ew;have jj:=O (Cl.Hx (c:=c-n) (ad:=⟨g,n*2,U⟩) (xs:=[I J C1.1,V C1.2]) (w:=w2) ⟨rfl,λ_=>⟨_,rfl,hg,λj u hu=>by
  match j,hu with
  |0,hu=>injection hu with hu;subst hu;exact y0
  |1,hu=>injection hu with hu;subst hu;exact y1⟩⟩ (by simp[Value.oneCell']) (n:=1) (by omega))
 have TU:=O bJ.o.size;clear y0 y1;go_wp2_with fail;refine jj.o.mono ?_;rintro e w3 ⟨A3,c3,rfl,ho,hN⟩;dsimp only;have HO:=O (jH ho TU.o);have cE:=O (bJ.o.t hN);clear ho hN;go_wp2_with fail;go_ret;exact⟨A3,c3,rfl,HO.o,cE.o⟩
abbrev uT(dD:Bool)(term fP fr:Int)(A:Option Addr)(n c:Nat):Value:=aC #[Y dD,I J term,I J fP,I J fr,T A n c]
theorem Ig(h:jo w xb lb A n c r L)(h0:r.dD=false)(h1:r.fr=0):
 ax av 224 #[X (G ⟨xb,0,U⟩)] w λe w'=>e=ay (aB #[uT false 0 0 0 U 0 0,Y false])/\M w w':=by
 have ZZ:=h.aW.c 29;have Wm:=h.aW.c 30;have xl:=h.aW.lt;obtain⟨term,fP,role,eU,since,quiet,dC,fU,heard,nx,dD,fr⟩:=r;dsimp only at h0 h1;subst h0 h1;clear h;go_enter func224,ntmps224;go_wp2_with fail;exact aE (v:=aB #[uT false 0 0 0 U 0 0,Y false]) (by simp[results,results224,go_sem]) rfl ⟨rfl,by first|exact(Ch.r _ w).alloc _|exact((Ch.r _ w).alloc _).setCell (.inr (by simp)) _⟩
theorem Ih(h:jo w xb lb A (n+1) c r L)(h1:r.fr=(n:Int)+1){C1:kx}(he:L[n]?=G C1):
 ax av 224 #[X (G ⟨xb,0,U⟩)] w λe w'=>∃A' c',e=ay (aB #[uT r.dD r.term r.fP ((n:Int)+1) A' 1 c',Y true])/\w'.ownsRow w.heap.size 222 2 (T A' 1 c') 1 [I J C1.1,V C1.2]/\jo w' xb lb A (n+1) c {r with dD:=false,fr:=0} L/\Ch (λg=>g=xb) w w':=by
 have HH:=O h;obtain⟨term,fP,role,eU,since,quiet,dC,fU,heard,nx,dD,fr⟩:=r;dsimp only at h1⊢;subst h1;have oV:=h.log.fx;have jW:(n:Int)<=99:=by omega
 obtain⟨w1,bT⟩:=bG (w.alloc (az #[Y false,I J 0,I J 0,I J 0,T U 0 0] 298));have cH:=kb bT;have cw:=O (show aX w1 w.heap.size 298 #[Y false,I J 0,I J 0,I J 0,T U 0 0]from bT▸aX.new w 298 _);have H1:=O (h.aR cH.o);have HF:=O (λw' (hN:M w w')=>xE (h.log.aR hN) he (m:=1024) (by omega));have⟨x4,x5,mq,ZZ,Wm⟩:=(show _/\_/\_/\_/\_ from⟨H1.o.aW.c 4,H1.o.aW.c 5,H1.o.aW.c 11,H1.o.aW.c 29,H1.o.aW.c 30⟩);have xl:=H1.o.aW.lt;have xf:=H1.o.aW.frozen;have d1:(((n:Int)+1)==0)=false:=by rw[beq_eq_false_iff_ne];omega
 have d2:decide (0<(n:Int)+1)=true:=decide_eq_true (by omega);have d3:decide ((n:Int)+1=0)=false:=decide_eq_false (by omega);clear h he;have XZ:=O (λb=>(show aX (w1.alloc (az #[Y b,I J term,I J fP,I J 0,T U 0 0] 298)).drew w1.heap.size 298 #[Y b,I J term,I J fP,I J 0,T U 0 0]from(aX.new w1 298 _).drew));have rG:=O (λb=>(show M w1 (w1.alloc (az #[Y b,I J term,I J fP,I J 0,T U 0 0] 298)).drew from((Ch.r _ w1).alloc _).drew));have ZA:w.heap.size<w1.heap.size:=cw.o.lt;cases dD
 all_goals
  go_enter func224,ntmps224;go_upto_region 3 with(fail)
  try rw[bT]
  go_region
  (first
    |(have fL:=O (XZ.o false);have cE:=O (rG.o false)
      change Exit.then _ _ _ _ (w1.alloc (az #[Y false,I J term,I J fP,I J 0,T U 0 0] 298)).drew;generalize(w1.alloc (az #[Y false,I J term,I J fP,I J 0,T U 0 0] 298)).drew=w3 at *)
    |(have fL:=O (XZ.o true);have cE:=O (rG.o true)
      change Exit.then _ _ _ _ (w1.alloc (az #[Y true,I J term,I J fP,I J 0,T U 0 0] 298)).drew;generalize(w1.alloc (az #[Y true,I J term,I J fP,I J 0,T U 0 0] 298)).drew=w3 at *))
  clear XZ rG x4 x5 mq ZZ Wm xl xf;obtain⟨tb,LA⟩:=bG (w1.heap.size);rw[LA]at fL
  try simp only[LA]
  have X0:=O LA;clear LA;have H3:=O (H1.o.aR cE.o);have cZ:=O (λw' (hC:Ch (λg=>g=tb) w3 w')=>(show w'.cell? ⟨xb,11,U⟩=G (X (G ⟨lb,0,U⟩))/\w'.cell? ⟨xb,30,U⟩=G (I J ((n:Int)+1))from by
   have eQ:xb≠tb:=λe=>by have:=H1.o.aW.lt;have:=X0.o;omega
   exact⟨(H3.o.aW.ch hC eQ).c 11,(H3.o.aW.ch hC eQ).c 30⟩))
  have⟨mq,Wm⟩:=cZ.o _ (Ch.r _ _);have xl:=H3.o.aW.lt;have⟨t0,t1,t2,t3,t4⟩:=iP fL.o;have tl:=fL.o.lt;have tf:=fL.o.frozen;have wI:=O (show Ch (λg=>g=tb) w3 w3.drew from(Ch.r _ _).drew);have dB:=O (show M w w3.drew from(cH.o.t cE.o).drew);go_upto_region 5 with(fail)
  go_region_held3(λw'=>w'.cell? ⟨xb,11,U⟩=G (X (G ⟨lb,0,U⟩))/\w'.cell? ⟨xb,30,U⟩=G (I J ((n:Int)+1)))
   (first|with_reducible exact cZ.o _ wI.o|with_reducible exact cZ.o _ cK.o|with_reducible exact cZ.o _ (cK.o.setCell (p:=⟨tb,3,U⟩) (.inl rfl) _)|with_reducible exact cZ.o _ (wI.o.setCell (p:=⟨tb,3,U⟩) (.inl rfl) _)|with_reducible exact cZ.o _ ((cK.o.setCell (p:=⟨tb,3,U⟩) (.inl rfl) _).setCell (p:=⟨tb,4,U⟩) (.inl rfl) _)|with_reducible exact cZ.o _ (cK.o.setCell (p:=⟨tb,4,U⟩) (.inl rfl) _))
   (first
     |(go_at_call 199;(refine(HF.o _ (by first|with_reducible exact dB.o|with_reducible exact(dB.o.setCell (p:=⟨tb,3,U⟩) (.inr (by omega)) _))).mono ?_);rintro e w4 ⟨A4,c4,rfl,ho,hN⟩
       have qD:=O ho;have cK:=O (show Ch (λg=>g=tb) w3 w4 from Ch.t (by first|exact wI.o|exact wI.o.setCell (p:=⟨tb,3,U⟩) (.inl rfl) _) (hN.mono (λ_ e=>e.elim)))
       (first
         |have jr:=O (fL.o.drew.ch hN (λh=>h))
         |have jr:=O ((fL.o.drew.bm 3 _).ch hN (λh=>h)))
       clear ho hN;dsimp only;have⟨t0,t1,t2,t3,t4⟩:=iP jr.o;have tl:=jr.o.lt;have tf:=jr.o.frozen))
  all_goals
   have HXI:=O H1.o.fC;change Exit.then _ _ _ _ ((w4.setCell ⟨tb,3,U⟩ (I J ((n:Int)+1))).setCell ⟨tb,4,U⟩ (T A4 1 c4));have HT5:=O ((jr.o.bm 3 (I J ((n:Int)+1))).bm 4 (T A4 1 c4));have dZ:=O ((cK.o.setCell (p:=⟨tb,3,U⟩) (.inl rfl) (I J ((n:Int)+1))).setCell (p:=⟨tb,4,U⟩) (.inl rfl) (T A4 1 c4));have pN:=O (fi (fi qD.o (a:=⟨tb,3,U⟩) (aV qD.o jr.o (by decide)) (I J ((n:Int)+1))) (a:=⟨tb,4,U⟩) (aV qD.o jr.o (by decide)) (T A4 1 c4));generalize(w4.setCell ⟨tb,3,U⟩ (I J ((n:Int)+1))).setCell ⟨tb,4,U⟩ (T A4 1 c4)=w5 at *;clear t0 t1 t2 t3 t4 tl tf mq Wm xl jr cK cZ fL;have H5:=O (H3.o.ch dZ.o (λg hg e=>by have:=HXI.o g hg;have:=X0.o;omega));have ZZ:=H5.o.aW.c 29;have Wm:=H5.o.aW.c 30;have xl:=H5.o.aW.lt;have xf:=H5.o.aW.frozen;go_upto_region 7 with(fail);obtain⟨w6,sZ⟩:=bG ((w5.setCell ⟨xb,29,U⟩ (Y false)).setCell ⟨xb,30,U⟩ (I J 0));have HX6:=O (show aX w6 xb 215 (vW ⟨term,fP,role,eU,since,quiet,dC,fU,heard,nx,false,0⟩ lb)from sZ▸bu ((H5.o.aW.bm 29 (Y false)).bm 30 (I J 0)) (by simp));have iU:=O (show Ch (λg=>g=xb) w5 w6 from sZ▸((Ch.r (λg=>g=xb) w5).setCell (p:=⟨xb,29,U⟩) (.inl rfl) _).setCell (p:=⟨xb,30,U⟩) (.inl rfl) _);have LG:tb≠xb:=λe=>by have:=H1.o.aW.lt;have:=X0.o;omega
   have Z3:=O (HT5.o.ch iU.o LG);have hqx:w.heap.size≠xb:=λe=>by have:=HH.o.aW.lt;omega
   have hqt:w.heap.size≠tb:=by have:=X0.o;omega
   have qI:=O (((cw.o.ch cE.o (λh=>h)).ch dZ.o hqt).ch iU.o hqx);have CK:=O (bg pN.o iU.o (λg hg e=>aV pN.o H5.o.aW (by decide) (by rw[<-e];exact hg)))
   try rw[sZ]
   clear sZ ZZ Wm xl xf;have⟨t0,t1,t2,t3,t4⟩:=iP Z3.o;have tl:=Z3.o.lt;have⟨q0,q1,q2,q3,q4⟩:=iP qI.o;have ql:=qI.o.lt;have qf:=qI.o.frozen;have xi:=O (λ(b:Bool)=>(((((Ch.r (λg=>g=w.heap.size) w6).setCell (p:=⟨w.heap.size,0,U⟩) (.inl rfl) (Y b)).setCell (p:=⟨w.heap.size,1,U⟩) (.inl rfl) (I J term)).setCell (p:=⟨w.heap.size,2,U⟩) (.inl rfl) (I J fP)).setCell (p:=⟨w.heap.size,3,U⟩) (.inl rfl) (I J ((n:Int)+1))).setCell (p:=⟨w.heap.size,4,U⟩) (.inl rfl) (T A4 1 c4));have H6:=O (H5.o.cQ iU.o HX6.o).1;have Ox:=O (λw' (hC:Ch (λg=>g=w.heap.size) w6 w')=>(show w'.ownsRow w.heap.size 222 2 (T A4 1 c4) 1 [I J C1.1,V C1.2]/\jo w' xb lb A (n+1) c ⟨term,fP,role,eU,since,quiet,dC,fU,heard,nx,false,0⟩ L/\Ch (λg=>g=xb) w w' from
    ⟨jH (bg CK.o hC (λg hg e=>aV CK.o qI.o (by decide) (by rw[<-e];exact hg))) dB.o.size,H6.o.ch hC (λg hg e=>by have:=HH.o.fC g hg;omega),
      ((((cH.o.t cE.o).mono (λ_ e=>e.elim)).trans dZ.o (λg e=>.inr (by have:=X0.o;omega))).t iU.o).trans hC (λg e=>.inr (by omega))⟩))
   go_wp2_with fail
   first
    |exact aE (v:=aB #[uT false term fP ((n:Int)+1) A4 1 c4,Y true]) (by simp[results,results224,go_sem,q0,q1,q2,q3,q4]) rfl ⟨A4,c4,rfl,Ox.o _ (xi.o false)⟩
    |exact aE (v:=aB #[uT true term fP ((n:Int)+1) A4 1 c4,Y true]) (by simp[results,results224,go_sem,q0,q1,q2,q3,q4]) rfl ⟨A4,c4,rfl,Ox.o _ (xi.o true)⟩
end
section
variable{w w':aw}{xb lb n c:Nat}{A:Option Addr}{L:List kx}{r r':Nd}
theorem Qi(h:jo w xb lb A n c r L):ax av 206 #[X (G ⟨xb,0,U⟩)] w λe w'=>e=ay (T U 0 0)/\jo w' xb lb A n c r L/\Ch (λg=>g=xb) w w':=by
 have x28:=h.aW.c 28;have xl:=h.aW.lt;have xf:=h.aW.frozen;have HB:=O (show aX (w.setCell ⟨xb,28,U⟩ (T U 0 0)) xb 215 (vW r lb)from bu (h.aW.bm 28 (T U 0 0)) (by simp));have HC:=O (show Ch (λg=>g=xb) w (w.setCell ⟨xb,28,U⟩ (T U 0 0))from(Ch.r (λg=>g=xb) w).setCell (p:=⟨xb,28,U⟩) (.inl rfl) _);have H:=O (h.cQ HC.o HB.o).1;clear h;go_enter func206,ntmps206;go_wp2_with fail;go_ret;exact⟨rfl,H.o,HC.o⟩
theorem LQ(h:jo w xb lb A n c r L):ax av 158 #[X (G ⟨xb,0,U⟩)] w λe w'=>e=ay (I J r.role)/\w=w':=by
 have x6:=h.aW.c 6;have xl:=h.aW.lt;clear h;go_enter func158,ntmps158;go_wp2_with fail;go_ret;exact⟨rfl,rfl⟩
theorem Bj(h:jo w xb lb A n c r L)(hc:r.dC=n):ax av 132 #[X (G ⟨xb,0,U⟩),I J ((n:Nat)+1)] w λe w'=>e=ay (T U 0 0)/\w=w':=by
 have rE:=h.aW.c 10;have xl:=h.aW.lt;have oV:=h.log.fx;have hn:(n:Int)<=100:=by omega
 obtain⟨term,fP,role,eU,since,quiet,dC,fU,heard,nx,dD,fr⟩:=r;dsimp only at hc;subst hc;have d1:max ((n:Int)+1) 1=(n:Int)+1:=by omega
 clear h;go_enter func132,ntmps132;go_wp2_with fail;go_ret;exact⟨rfl,rfl⟩
theorem LR(h:jo w xb lb A (n+1) c r L)(hc:r.dC=(n:Int)+1){C1:kx}(he:L[n]?=G C1):ax av 132 #[X (G ⟨xb,0,U⟩),I J ((n:Nat)+1)] w (XY w C1):=by
 have rE:=h.aW.c 10;have mq:=h.aW.c 11;have xl:=h.aW.lt;have oV:=h.log.fx;have hn:(n:Int)<=99:=by omega
 have HF:=O (xE (h.log.aR (aU w)) he (m:=1) (by omega));obtain⟨term,fP,role,eU,since,quiet,dC,fU,heard,nx,dD,fr⟩:=r;dsimp only at hc;subst hc;have d1:max ((n:Int)+1) 1=(n:Int)+1:=by omega
 have d2:IntKind.i64.wrap ((n:Int)+1- ((n:Int)+1))=0:=by rw[Int.sub_self];rfl
 clear h;go_enter func132,ntmps132;go_upto_region 6 with(fail)
 go_still_tail 12,(by kernel_rfl)
 change wpList _ _ _ _ _ w.drew;go_wp2_with fail;refine HF.o.mono ?_;rintro e w2 ⟨A2,c2,rfl,ho,hN⟩;dsimp only;have HO:=O ho;have HN:=O (show M w w2 from(aU w).t hN);clear ho hN;go_wp2_with fail;go_ret;exact⟨A2,c2,rfl,HO.o,HN.o⟩
end
theorem Bk(w:aw):ax av 128 #[aC #[I J 0,I J (-1),T U 0 0]] w λe w'=>e=ay (Y true)/\M w w':=by
 go_enter func128,ntmps128;go_wp2_with fail
 go_loopw[9] (λiv wr=>iv=I J 0/\wr=w.alloc (az #[I J 0,I J (-1),T U 0 0] 155)) (λ_ _=>0)
 case atStart=>exact⟨rfl,rfl⟩
 case round=>
  obtain⟨rfl,hw⟩:=hrel;subst hw;go_wp2_with fail;go_ret;exact⟨rfl,(Ch.r _ w).alloc _⟩
theorem UC(w:aw):ax av 129 #[T U 0 0] w λe w'=>e=ay (X (G ⟨w.heap.size,0,U⟩))/\w'=w.alloc (az #[T U 0 0] 276):=by
 have HC:=O (Cl.uR w 0);go_enter func129,ntmps129;go_wp2_with fail;refine HC.o.mono ?_;rintro e w2 ⟨rfl,rfl⟩;dsimp only;go_wp2_with fail;go_ret;exact⟨rfl,rfl⟩
theorem Qj(w:aw)(h4:4<=w.heap.size):ax av 80 #[I J 0,I J 1,I J 4,I J 2,aC #[I J 0,I J (-1),T U 0 0]] w λe w'=>∃xb lb,e=ay (aB #[X (G ⟨xb,0,U⟩),I J 0])/\jo w' xb lb U 0 0 (zg 0) []/\w.heap.size<=xb/\w.heap.size<=lb/\M w w':=by
 obtain⟨w1,bT⟩:=bG (w.alloc (az #[I J 0,I J (-1),T U 0 0] 155));have cH:=kb bT;have cw:=O (show aX w1 w.heap.size 155 #[I J 0,I J (-1),T U 0 0]from bT▸aX.new w 155 _);have HR:=O (Bk w1);have HL:=O UC;have V8:=O h4;have⟨x0,x1,x2⟩:=O3 cw.o;have xl:=cw.o.lt;clear h4;go_enter func80,ntmps80;go_wp2_with fail;refine HR.o.mono ?_;rintro e w2 ⟨rfl,hN⟩;dsimp only;have bJ:=O hN;have cJ:=O (cw.o.ch hN (λh=>h));clear hN x0 x1 x2 xl;obtain⟨qb,bE⟩:=bG (w.heap.size);rw[bE]at cJ
 try simp only[bE]
 have cZ:=O (λw' (hN:Ch (λ_=>False) w2 w')=>(show w'.cell? ⟨qb,0,U⟩=G (I J 0)/\w'.cell? ⟨qb,1,U⟩=G (I J (-1))/\w'.cell? ⟨qb,2,U⟩=G (T U 0 0)from⟨(cJ.o.ch hN (λh=>h)).c 0,(cJ.o.ch hN (λh=>h)).c 1,(cJ.o.ch hN (λh=>h)).c 2⟩));have dB:=O (show Ch (λ_=>False) w2 w2.drew from aU w2);have⟨x0,x1,x2⟩:=cZ.o _ (Ch.r _ w2);have xl:=cJ.o.lt;go_upto_region 5 with(fail)
 go_region_held3(λw'=>w'.cell? ⟨qb,0,U⟩=G (I J 0)/\w'.cell? ⟨qb,1,U⟩=G (I J (-1))/\w'.cell? ⟨qb,2,U⟩=G (T U 0 0))
  (first|with_reducible exact cZ.o _ dB.o|with_reducible exact cZ.o _ dQ.o|with_reducible exact cZ.o _ (dQ.o.alloc _))
  (first
    |(go_at_call 129;(with_reducible refine(HL.o _).mono ?_);rintro e w4 ⟨rfl,lH⟩
      have dQ:=O (show Ch (λ_=>False) w2 w4 from lH▸dB.o.alloc _);have iq:=O (show aX w4 w2.drew.heap.size 276 #[T U 0 0]from lH▸aX.new w2.drew 276 _);clear lH;dsimp only))
 all_goals
  go_wp2_with fail;go_ret2;have s4:w2.heap.size<=w4.heap.size:=dQ.o.size;have s2:=bJ.o.size;have s1:=cH.o.size;have hB:aX (w4.alloc (az (vW (zg 0) w2.heap.size) 215)) w4.heap.size 215 (vW (zg 0) w2.heap.size):=aX.new w4 215 _;refine⟨w4.heap.size,w2.heap.size,rfl,⟨hB,⟨iq.o.alloc _,World.ownsRow_nil _ _ _ _,rfl,by omega,by have:=V8.o;omega⟩,by have:=V8.o;omega⟩,by omega,by omega,(((cH.o.t bJ.o).t dQ.o).alloc _)⟩
structure iJ(w:aw)(db:Nat)(A:Option Addr)(n c:Nat):Prop where
 aW: ∃sy:Int,aX w db 217 #[T A n c,I J sy]
 own: ∃l,OB w 4 A n c l
 hi:4<=db
section
variable{w w':aw}{db n c m xc:Nat}{A aq:Option Addr}{l:List UInt8}
theorem iJ.ch{S:Nat->Prop}(h:iJ w db A n c)(hC:Ch S w w')(hS: ∀g,gx db A n c g->¬S g):iJ w' db A n c:=by
 obtain⟨sy,hb⟩:=h.aW;obtain⟨l,ho⟩:=h.own;exact⟨⟨sy,hb.ch hC (hS _ (.inl rfl))⟩,⟨l,bg ho.1 hC (λg hg=>hS g (.inr hg)),ho.2⟩,h.hi⟩
theorem iJ.aR(h:iJ w db A n c)(hC:M w w'):iJ w' db A n c:=h.ch hC (λ_ _ h=>h)
theorem iJ.fC(h:iJ w db A n c):oo (gx db A n c) w:=λg hg=>by
 obtain⟨sy,hb⟩:=h.aW;obtain⟨l,ho⟩:=h.own;rcases hg with rfl|hg
 ·exact hb.lt
 ·exact(ho.1.lt g hg).2
theorem Qk(w:aw)(h4:4<=w.heap.size):ax av 81 #[] w λe w'=>e=ay (X (G ⟨w.heap.size,0,U⟩))/\iJ w' w.heap.size U 0 0/\M w w':=by
 have HB:=O (aX.new w 217 #[T U 0 0,I J 0]);have H4:=O h4;clear h4;go_enter func81,ntmps81;go_wp2_with fail;go_ret;exact⟨rfl,⟨⟨_,HB.o⟩,⟨[],OB.tg _ _⟩,H4.o⟩,(Ch.r _ w).alloc _⟩
def DkP(w:aw)(db:Nat)(A:Option Addr)(n c k:Nat)(e:Ending)(w':aw):Prop:=
 e=ay (I J 0)/\∃A' n' c',n'<=n+k/\iJ w' db A' n' c'/\Sub (gx db A n c) (gx db A' n' c') w w'
theorem wJ(h:iJ w db A n c)(hr:Reads w w.heap.size 1 aq m (lW l))(hn:n+m<=300000):ax av 357 #[X (G ⟨db,0,U⟩),T aq m xc] w (DkP w db A n c m):=by
 obtain⟨sy,hb⟩:=h.aW;obtain⟨lo,ho⟩:=h.own;have x0:=hb.c 0;have xl:=hb.lt;have xf:=hb.frozen;have HB:=O hb;have HO:=O ho;have HR:=O hr;have H4:=O h.hi;have jW:(n:Int)+(m:Int)<=300000:=by omega
 have h4:4<=w.heap.size:=by have:=h.hi;omega
 clear h hb ho hr;go_enter func357,ntmps357;go_wp2_with(first
  |(at_builtin
    obtain⟨i1,dX,er,eu,eK⟩:=info_parts qX;refine bp _ rfl (.tmp 22) (.tmp 23) 142 rfl 4 5 i1 _ 1 1 underlying142 dX er eu eK rfl (by omega) (T A n c) n (lW lo) rfl HO.o.1 w.heap.size aq m xc (lW l) rfl HR.o (E8 l) (by unfold maxLen;omega) (by omega) h4 ?_;intro v8 w8 bM dS dG;obtain⟨A8,c8,rfl⟩:=bz bM;have mh:=O bM;have iT:=O dS;have nS:=O dG;have Ql:=O (HB.o.grown dS (λe=>aV HO.o.1 HB.o (by decide) e.symm));clear bM dS dG x0 xl xf;have x0:=Ql.o.c 0;have xl:=Ql.o.lt;have xf:=Ql.o.frozen))
 go_ret;have hb9:=Ql.o.bm 0 (T A8 (n+m) c8);have JL:Ch (λg=>g=db) w8 (w8.setCell ⟨db,0,U⟩ (T A8 (n+m) c8)):=(Ch.r (λg=>g=db) w8).setCell (p:=⟨db,0,U⟩) (.inl rfl) _;refine⟨rfl,A8,n+m,c8,aN _,⟨⟨sy,bu hb9 (by simp)⟩,⟨lo++l,?_,?_⟩,H4.o⟩,⟨?_,λg hg=>?_⟩⟩
 ·have:=bg mh.o JL (λg hg e=>aV mh.o Ql.o (by decide) (by rw[<-e];exact hg));simpa [lW]using this
 ·have h1:=HO.o.2;have h2:=HR.o.1;simp at h2;rw[aL,h1,h2]
 ·exact((Ch.bF iT.o).mono (λg hg=>.inr hg)).t (JL.mono (λg hg=>.inl hg))
 ·rcases hg with e|e
  ·exact .inl (.inl e)
  ·rcases nS.o with e'|e'
   ·exact .inl (.inr (e'▸e))
   ·rw[e']at e;injection e with e;exact .inr (by omega)
theorem LS(h:iJ w db A n c):ax av 205 #[X (G ⟨db,0,U⟩)] w λe w'=>e=ay (I J 0)/\iJ w' db A n c/\Ch (λg=>g=db) w w':=by
 obtain⟨sy,hb⟩:=h.aW;obtain⟨lo,ho⟩:=h.own;have H4:=O h.hi;have⟨x0,x1⟩:=vS hb;have xl:=hb.lt;have xf:=hb.frozen;have HB:=O (hb.bm 1 (I J n));have HB0:=O hb;have HO:=O ho;clear h hb ho;go_enter func205,ntmps205;go_wp2_with fail;go_ret;have hC:Ch (λg=>g=db) w (w.setCell ⟨db,1,U⟩ (I J n)):=(Ch.r (λg=>g=db) w).setCell (p:=⟨db,1,U⟩) (.inl rfl) _;exact⟨rfl,⟨⟨n,bu HB.o (by simp)⟩,⟨lo,bg HO.o.1 hC (λg hg e=>aV HO.o.1 HB0.o (by decide) (by rw[<-e];exact hg)),HO.o.2⟩,H4.o⟩,hC⟩
theorem wK(h:iJ w db A n c)(k:UInt8)(hk:(k.toNat:Int)≠0)(hr:Rd w aq (lW l))(hl:l.length=m)(hm:m<=900)(hn:n<=250000):
 ax av 292 #[X (G ⟨db,0,U⟩),aC #[I .u8 (k.toNat:Int),T aq m xc]] w (DkP w db A n c (m+9)):=by
 obtain⟨w1,bT⟩:=bG (w.alloc (az #[I .u8 (k.toNat:Int),T aq m xc] 366));have cH:=kb bT;have cw:=O (show aX w1 w.heap.size 366 #[I .u8 (k.toNat:Int),T aq m xc]from bT▸aX.new w 366 _);have⟨x0,x1⟩:=vS cw.o;have xl:=cw.o.lt;have HWB:=O (yV (c:=xc) k hk (hr.aR cH.o) hl hm);have HH:=O h;have jW:(n:Int)<=250000:=by omega
 clear h hr hl hk;go_enter func292,ntmps292;go_wp2_with fail;refine HWB.o.mono ?_;rintro e w2 ⟨A2,n2,c2,l2,rfl,Wn,hO,hN⟩;dsimp only;have bJ:=O (cH.o.t hN);have HW:=O (wJ (xc:=c2) (HH.o.aR bJ.o) hO.Wa (by omega));have HL:=O Wn;clear hO hN Wn x0 x1 xl;go_wp2_with fail;refine HW.o.mono ?_;rintro e w3 ⟨rfl,A3,n3,c3,hle,hD,hs⟩;dsimp only;have p7:=O hle;have HD:=O hD;have HS:=O ((Sub.bj _ bJ.o).trans hs);clear hle hD hs;go_wp2_with fail;go_ret;exact⟨rfl,A3,n3,c3,by have:=p7.o;have:=HL.o;omega,HD.o,HS.o⟩
end
structure Rc where
 k:UInt8
 A:Option Addr
 n:Nat
 c:Nat
 l:List UInt8
def X1(x:Rc):List Value:=[I .u8 (x.k.toNat:Int),T x.A x.n x.c]
theorem LU:(av.info? 366).map (λi=>(i.zero,i.size,i.bytes))=G (G (aC #[I .u8 0,T U 0 0]),2,32):=by kernel_rfl
structure RecM(w:aw)(B:Nat)(A:Option Addr)(n c:Nat)(L:List Rc):Prop where
 own:w.ownsRow B 366 2 (T A n c) n (L.flatMap X1)
 len:L.length=n
 ok: ∀x∈L,(x.k.toNat:Int)≠0/\OB w B x.A x.n x.c x.l/\x.n<=700
section
variable{w w':aw}{B n c k:Nat}{A:Option Addr}{L:List Rc}
theorem RecM.ch{S:Nat->Prop}(h:RecM w B A n c L)(hC:Ch S w w')(hS: ∀g,S g->g<B):RecM w' B A n c L:=
 ⟨bg h.own hC (λg hg e=>by have:=(h.own.lt g hg).1;have:=hS g e;omega),h.len,λx hx=>⟨(h.ok x hx).1,(h.ok x hx).2.1.ch hC hS,(h.ok x hx).2.2⟩⟩
theorem RecM.aR(h:RecM w B A n c L)(hC:M w w'):RecM w' B A n c L:=h.ch hC (λ_ h=>h.elim)
theorem RecM.at_(h:RecM w B A n c L){i:Nat}{x:Rc}(hx:L[i]?=G x): ∃b off,A=G ⟨b,off,U⟩/\b<w.heap.size/\w.cell? ⟨b,off+i*2,U⟩=G (I .u8 (x.k.toNat:Int))/\w.cell? ⟨b,off+i*2+1,U⟩=G (T x.A x.n x.c):=by
 have g:=λj hj=>eI (f:=X1) (m:=2) (λ_ _=>rfl) hx (j:=j) hj;obtain⟨b,off,hA,hb,hc⟩:=(Rd.own h.own) (fh (g 0 (by omega)));exact⟨b,off,hA,hb,by simpa using hc _ _ (g 0 (by omega)),by simpa [Nat.add_assoc]using hc _ _ (g 1 (by omega))⟩
theorem RecM.push{w8:aw}{A8:Option Addr}{c8:Nat}(h:RecM w B A n c L)(x:Rc)(hx:(x.k.toNat:Int)≠0/\OB w B x.A x.n x.c x.l/\x.n<=700)(ho:w8.ownsRow B 366 2 (T A8 (n+1) c8) (n+1) (L.flatMap X1++X1 x))(hC:Ch (λg=>(T A n c).ownBlock=G g) w w8):RecM w8 B A8 (n+1) c8 (L++[x]):=by
 have sD: ∀y:Rc,OB w B y.A y.n y.c y.l->OB w8 B y.A y.n y.c y.l:=λy hy=>⟨bg hy.1 hC (λg hg e=>gU (jH hy.1 (Nat.zero_le _)) (jH h.own (Nat.zero_le _)) (by decide) g hg e),hy.2⟩;refine⟨by simpa using ho,by simp[h.len],λy hy=>?_⟩;rcases List.mem_append.1 hy with e|e
 ·exact⟨(h.ok y e).1,sD y (h.ok y e).2.1,(h.ok y e).2.2⟩
 ·rw[List.mem_singleton]at e;subst e;exact⟨hx.1,sD _ hx.2.1,hx.2.2⟩
theorem Bl(w:aw)(dD:Bool){t v f et:Nat}(ht:t<1000000000000/\v<1000000000000/\f<1000000000000/\et<1000000000000){d:ByteArray}(hd:d.size<=600)(he:Rd w A [I J (et:Nat),V d]):
 ax av 291 #[uT dD (t:Nat) (v:Nat) (f:Nat) A 1 c] w λe w'=>∃RA rn rc L,e=ay (T RA rn rc)/\RecM w' w.heap.size RA rn rc L/\rn<=2/\M w w':=by
 obtain⟨i1,dX,er,eu,eK⟩:=info_parts LU;obtain⟨w1,bT⟩:=bG (w.alloc (az #[Y dD,I J (t:Nat),I J (v:Nat),I J (f:Nat),T A 1 c] 298));have cH:=kb bT;have cw:=O (show aX w1 w.heap.size 298 #[Y dD,I J (t:Nat),I J (v:Nat),I J (f:Nat),T A 1 c]from bT▸aX.new w 298 _);have cZ:=O (λw' (hC:Ch (λ_=>False) w1 w')=>(show w'.cell? ⟨w.heap.size,1,U⟩=G (I J (t:Nat))/\w'.cell? ⟨w.heap.size,2,U⟩=G (I J (v:Nat))from⟨(cw.o.ch hC (λh=>h)).c 1,(cw.o.ch hC (λh=>h)).c 2⟩));have HE:=O he;have h0:=cw.o.c 0;have⟨x1,x2⟩:=cZ.o _ (Ch.r _ _);have xl:=cw.o.lt;have hB1:w.heap.size<=w1.heap.size:=cH.o.size;clear he;go_enter func291,ntmps291;go_upto_if 8 with(fail);obtain⟨qb,bE⟩:=bG (w.heap.size);obtain⟨B,hB⟩:=bG (w1.heap.size);rw[bE]at cw cZ h0 x1 x2 xl hB1;rw[hB]at xl hB1
 try simp only[bE]
 have Un:=O hB;have hBw:B<=w1.heap.size:=Nat.le_of_eq hB.symm;clear bE hB
 go_cut[3] (λv3 wr=>∃RA rn rc L,v3=T RA rn rc/\RecM wr B RA rn rc L/\rn<=1/\Ch (λ_=>False) w1 wr)
 case first=>
  cases dD
  ·go_wp2_with fail;go_meet;exact⟨U,0,0,[],rfl,⟨World.ownsRow_nil _ _ _ _,rfl,λx hx=>by cases hx⟩,by omega,Ch.r _ _⟩
  ·go_upto_region 3 with(fail);have wI:=O (show Ch (λ_=>False) w1 w1.drew from aU w1)
   go_region_law(first
    |(refine bL _ rfl (.tmp 9) (.tmp 17) 353 rfl B 366 i1 _ 2 32 underlying353 dX er eu eK rfl (by decide) (T U 0 0) 0 [] (by simp[Act.eval]) (World.ownsRow_nil _ _ _ _) (w5.heap.size+1) (G ⟨w5.heap.size,0,U⟩) 1 1 [I .u8 1,T A5 n5 c5] (by simp[Act.eval]) (cD w5 366 #[I .u8 1,T A5 n5 c5] 1 2 rfl) (by simp[Value.oneCell']) (by unfold maxLen;omega) (by omega) (by simp;omega) ?_
      intro v9 w9 cC gV fl;obtain⟨A9,c9,rfl⟩:=bz cC;have mS:=O cC;have Ay:=O (Ch.bF gV);clear cC gV fl)
    |(go_simp;go_at_call_of 343 (T U 0 0);(refine(nD (OB.tg _ B) (by omega) (by exact hBw) t (by omega)).mono ?_);rintro e w4 ⟨A4,n4,c4,rfl,Fs,CV⟩
      have qD:=O Fs;have dQ:=O (show Ch (λ_=>False) w1 w4 from gw wI.o CV (Nat.le_of_eq Un.o));have wm:B<=w4.heap.size:=by have:=CV.size;simp at this;omega
      have Kl:=Fs.2;clear Fs CV;dsimp only;have⟨x1,x2⟩:=cZ.o _ dQ.o)
    |(go_simp;go_at_call_of 343 (T A4 n4 c4);(refine(nD qD.o (by simp[pt]at Kl;omega) wm v (by omega)).mono ?_);rintro e w5 ⟨A5,n5,c5,rfl,yU,nT⟩
      have pN:=O yU;have ff:=O (show Ch (λ_=>False) w1 w5 from gw dQ.o nT (Nat.le_of_eq Un.o));have mv:B<=w5.heap.size:=aO wm nT.size;have CJ:=yU.2;clear yU nT;dsimp only))
   all_goals
    have Wc:n5<=700:=by simp[pt]at CJ;omega
    have HX:=O ((show RecM (w5.alloc (az #[I .u8 1,T A5 n5 c5] 366)) B U 0 0 []from⟨World.ownsRow_nil _ _ _ _,rfl,λx hx=>by cases hx⟩).push ⟨1,A5,n5,c5,_⟩ ⟨(show((1:UInt8).toNat:Int)≠0 from by decide),pN.o.aR ((Ch.r _ w5).alloc _),Wc⟩ mS.o Ay.o);have nY:=O (show Ch (λ_=>False) w1 w9 from(ff.o.alloc _).t (Ay.o.mono (λg hg=>by cases hg)));clear x1 x2 Kl CJ;go_wp2_with fail;go_meet;exact⟨A9,1,c9,_,rfl,HX.o,aN _,nY.o⟩
 case rest=>
  obtain⟨RA,rn,rc,L,rfl,hR,OM,hC⟩:=hcut;have HR:=O hR;have HC:=O hC;have Wo:=O OM;clear hR hC OM x1 x2 h0;have x4:=(cw.o.ch HC.o (λh=>h)).c 4;have xl:=(cw.o.ch HC.o (λh=>h)).lt;go_wp2_with fail
  go_loopw[3,22] (λv3 iv wr=>∃(RA:Option Addr) (rn rc:Nat) (L:List Rc),v3=T RA rn rc/\RecM wr B RA rn rc L/\((iv=I J 0/\rn<=1)\/(iv=I J 1/\rn<=2))/\Ch (λ_=>False) w1 wr) (λ_ iv _=>(1-intOf iv).toNat)
  case atStart=>exact⟨RA,rn,rc,L,rfl,HR.o,.inl ⟨rfl,Wo.o⟩,HC.o⟩
  case round=>
   clear HR HC Wo xl x4;obtain⟨RA,rn,rc,L,rfl,hR,hi,hC⟩:=hrel;have HR:=O hR;have HC:=O hC;clear hR hC;have hsr:w1.heap.size<=wr.heap.size:=HC.o.size;rcases hi with⟨rfl,OM⟩|⟨rfl,OM⟩
   ·have Wo:=O OM;clear OM;obtain⟨eb,eo,rfl,heb,hec⟩:=(HE.o.aR (cH.o.t HC.o)) (by simp);have z0:=hec 0 _ rfl;have z1:=hec 1 _ rfl;clear hec;simp only[Nat.add_zero]at z0;go_upto_region 7 with(fail);obtain⟨w2,ew⟩:=bG (wr.alloc (az #[I J (et:Nat),V d] 222));have bJ:=O (show Ch (λ_=>False) wr w2 from ew▸(Ch.r _ wr).alloc _);have Pz:=O (show aX w2 wr.heap.size 222 #[I J (et:Nat),V d]from ew▸aX.new wr 222 _);rw[ew];obtain⟨tb,LA⟩:=bG (wr.heap.size);rw[LA]at Pz;have htB:B<=tb:=by omega
    have htw:tb<w2.heap.size:=Pz.o.lt
    try simp only[LA]
    clear ew LA z0 z1 heb hsr;have kj:=O (λw' (hC:Ch (λ_=>False) w2 w')=>(show w'.cell? ⟨qb,3,U⟩=G (I J (f:Nat))/\w'.cell? ⟨tb,0,U⟩=G (I J (et:Nat))/\w'.cell? ⟨tb,1,U⟩=G (V d)from⟨(cw.o.ch ((HC.o.t bJ.o).t hC) (λh=>h)).c 3,(Pz.o.ch hC (λh=>h)).c 0,(Pz.o.ch hC (λh=>h)).c 1⟩));have⟨y3,y0,y1⟩:=kj.o _ (Ch.r _ _);have yl:qb<w2.heap.size:=by omega
    have G6:IntKind.i64.wrap ((f:Int)+0)=f:=by rw[Int.add_zero];exact IntWalk.i64_in _ (by omega)
    have hw1':IntKind.i64.wrap (f:Int)=f:=IntWalk.i64_in _ (by omega);have wI:=O (show Ch (λ_=>False) w2 w2.drew from aU w2)
    go_cut[6] (λv6 wy=>∃A6 n6 c6 l6,v6=T A6 n6 c6/\OB wy w2.heap.size A6 n6 c6 l6/\n6<=20/\Ch (λ_=>False) w2 wy)
    case first=>
     go_region_held3(λw'=>w'.cell? ⟨qb,3,U⟩=G (I J (f:Nat))/\w'.cell? ⟨tb,0,U⟩=G (I J (et:Nat))/\w'.cell? ⟨tb,1,U⟩=G (V d))
      (first|with_reducible exact kj.o _ wI.o|with_reducible exact kj.o _ dQ.o|with_reducible exact kj.o _ ff.o)
      (first
        |(go_at_call_of 343 (T U 0 0);(refine(nD (OB.tg _ w2.heap.size) (by omega) (by exact aN _) f (by omega)).mono ?_);rintro e w4 ⟨A4,n4,c4,rfl,Fs,CV⟩
          have qD:=O Fs;have dQ:=O (show Ch (λ_=>False) w2 w4 from gw wI.o CV (aN _));have wm:w2.heap.size<=w4.heap.size:=by have:=CV.size;simp at this;omega
          have Kl:=Fs.2;clear Fs CV;dsimp only)
        |(go_at_call_of 343 (T A4 n4 c4);(refine(nD qD.o (by simp[pt]at Kl;omega) wm et (by omega)).mono ?_);rintro e w5 ⟨A5,n5,c5,rfl,yU,nT⟩
          have pN:=O yU;have ff:=O (show Ch (λ_=>False) w2 w5 from gw dQ.o nT (aN _));have CJ:=yU.2;clear yU nT;dsimp only))
     all_goals
      have Wc:n5<=20:=by simp[pt]at CJ;omega
      go_wp2_with fail;go_meet;exact⟨A5,n5,c5,_,rfl,pN.o,Wc,ff.o⟩
    case rest=>
     obtain⟨A6,n6,c6,l6,rfl,hO,hn6,hC⟩:=hcut;have CK:=O hO;have iU:=O hC;have⟨y3,y0,y1⟩:=kj.o _ hC;have kK:=hC.size;have FP:=O (uw hO (by omega) hC.size d hd);clear hO hC;go_wp2_with fail;refine FP.o.mono ?_;rintro e w7 ⟨A7,n7,c7,rfl,OC,lQ⟩;dsimp only;have Z4:n7<=700:=by have h1:=OC.2;have h2:=CK.o.2;have h3:d.data.toList.length=d.size:=rfl;simp only[aL,h2,h3,List.length_cons,List.length_nil]at h1;omega
     have xi:=O (show Ch (λ_=>False) w1 w7 from(HC.o.t bJ.o).t (gw iU.o lQ (aN _)));have td:=O (show OB w7 B A7 n7 c7 _ from⟨jH OC.1 (by omega),OC.2⟩);have Bd:=O (HR.o.aR (show Ch (λ_=>False) wr w7 from bJ.o.t (gw iU.o lQ (aN _))));have hs7:=lQ.size;have hrn9:=Wo.o;clear OC lQ y3 y0 y1;go_wp2_with(first
      |(at_builtin
        refine bp _ rfl (.tmp 35) (.tmp 41) 353 rfl B 366 i1 _ 2 32 underlying353 dX er eu eK rfl (by decide) (T RA rn rc) rn (L.flatMap X1) rfl (bg Bd.o.own ((Ch.r (λ_=>False) w7).alloc _) (λ_ _ h=>h)) (w7.heap.size+1) (G ⟨w7.heap.size,0,U⟩) 1 1 [I .u8 2,T A7 n7 c7] rfl (cD w7 366 #[I .u8 2,T A7 n7 c7] 1 2 rfl) (by simp[Value.oneCell']) (by unfold maxLen;omega) (by omega) (by simp;omega) ?_;intro v9 w9 cC gV fl;obtain⟨A9,c9,rfl⟩:=bz cC;have mS:=O cC;have Ay:=O (Ch.bF gV);clear cC gV fl))
     have hX:=(Bd.o.aR ((Ch.r (λ_=>False) w7).alloc (az #[I .u8 2,T A7 n7 c7] 366))).push ⟨2,A7,n7,c7,_⟩ ⟨(show((2:UInt8).toNat:Int)≠0 from by decide),td.o.aR ((Ch.r _ w7).alloc _),Z4⟩ mS.o Ay.o;have JL:Ch (λ_=>False) w1 w9:=(xi.o.alloc _).trans Ay.o (λg hg=>.inr (by have:=(Bd.o.own.lt g hg).1;have:=Un.o;omega));exact⟨⟨A9,rn+1,c9,_,rfl,hX,.inr ⟨rfl,by omega⟩,JL⟩,by simp[intOf]⟩
   ·have OM:=O OM;go_wp2_with fail;go_ret;have hwB:w.heap.size<=B:=Un.o▸cH.o.size;exact⟨RA,rn,rc,L,rfl,⟨jH HR.o.own hwB,HR.o.len,λx hx=>⟨(HR.o.ok x hx).1,⟨jH (HR.o.ok x hx).2.1.1 hwB,(HR.o.ok x hx).2.1.2⟩,(HR.o.ok x hx).2.2⟩⟩,OM.o,cH.o.t HC.o⟩
theorem wL{db:Nat}{DA:Option Addr}{dn dc:Nat}(h:iJ w db DA dn dc)(hn:dn<=200000)(dD:Bool){t v f et:Nat}(ht:t<1000000000000/\v<1000000000000/\f<1000000000000/\et<1000000000000){d:ByteArray}(hd:d.size<=600)(he:Rd w A [I J (et:Nat),V d]):
 ax av 225 #[X (G ⟨db,0,U⟩),uT dD (t:Nat) (v:Nat) (f:Nat) A 1 c] w (DkP w db DA dn dc 1500):=by
 obtain⟨w1,bT⟩:=bG (w.alloc (az #[Y dD,I J (t:Nat),I J (v:Nat),I J (f:Nat),T A 1 c] 298));have cH:=kb bT;have cw:=O (show aX w1 w.heap.size 298 #[Y dD,I J (t:Nat),I J (v:Nat),I J (f:Nat),T A 1 c]from bT▸aX.new w 298 _);have HRC:=O (Bl w1 (c:=c) dD ht hd (he.aR cH.o));have HH:=O h;have⟨x0,x1,x2,x3,x4⟩:=iP cw.o;have xl:=cw.o.lt;clear h he;go_enter func225,ntmps225;go_wp2_with fail;refine HRC.o.mono ?_;rintro e w2 ⟨RA,rn,rc,L,rfl,hR,OM,hN⟩;dsimp only;have bH:=O hR;have bJ:=O (cH.o.t hN);have Xr:=O (HH.o.aR bJ.o);have hrnI:(rn:Int)<=2:=by omega
 have hSZ:=O cH.o.size;clear hR hN x0 x1 x2 x3 x4 xl;go_wp2_with fail
 go_loopw[11] (λiv wr=>∃(k:Nat) (A':Option Addr) (n' c':Nat),k<=rn/\iv=I J k/\n'<=dn+k*709/\iJ wr db A' n' c'/\Sub (gx db DA dn dc) (gx db A' n' c') w2 wr) (λiv _=>rn- (intOf iv).toNat)
 case atStart=>exact⟨0,DA,dn,dc,by omega,rfl,by omega,Xr.o,Sub.refl _ _⟩
 case round=>
  obtain⟨k,A',n',c',hk,rfl,Sx,hD,hs⟩:=hrel;have rG:=O Sx;have HD:=O hD;have HS:=O hs;have HR:=O (bH.o.ch hs.ch (λg hg=>aP (HH.o.fC g hg) hSZ.o));clear Sx hD hs;by_cases hlt:k<rn
  ·have jq:(k:Int)<(rn:Int):=by omega
   obtain⟨x,hx⟩:=bh (show k<L.length by rw[HR.o.len];exact hlt);obtain⟨b,off,rfl,hb,y0,y1⟩:=HR.o.at_ hx;obtain⟨o1,o2,o3⟩:=HR.o.ok x (bS hx);have HWA:=O (λw' (hN:M wr w')=>wK (xc:=x.c) (HD.o.aR hN) x.k o1 (o2.rd.aR hN) o2.2 (by omega) (by have:=rG.o;omega));have ho3:=o3;clear hx o1 o2;go_wp2_with fail;refine(HWA.o _ ((Ch.r _ wr).alloc _)).mono ?_;rintro e w3 ⟨rfl,A3,n3,c3,hle,hD3,xj⟩;dsimp only;have p7:=O hle;have HD3:=O hD3;have pr:=O ((Sub.bj (gx db A' n' c') ((Ch.r (λ_=>False) wr).alloc (az #[I .u8 (x.k.toNat:Int),T x.A x.n x.c] 366))).trans xj);clear hle hD3 xj y0 y1 hb HWA;go_wp2_with fail;refine⟨⟨k+1,A3,n3,c3,by omega,by go_num,by have:=p7.o;have:=rG.o;omega,HD3.o,HS.o.trans pr.o⟩,by simp[intOf];omega⟩
  ·obtain rfl:rn=k:=by omega
   clear hlt hk;go_wp2_with fail;go_ret;exact⟨rfl,A',n',c',by have:=rG.o;omega,HD.o,(Sub.bj _ bJ.o).trans HS.o⟩
end
theorem Bn{w:aw}{B size n g:Nat}{e:TypeId}{v:Value}{xs:List Value}(h:w.ownsRow B e size v n xs)(hg:v.ownBlock=G g): ∃cur,aX w g e cur:=by
 rcases h.2 with⟨rfl,_⟩|⟨g',cap,cur,rfl,_,hh,_⟩
 ·cases hg
 ·injection hg with hg;subst hg;exact⟨cur,hh⟩
structure qJ where
 sA:Option Addr
 sc:Nat
 nb:Nat
 db:Nat
 xb:Nat
 lb:Nat
 dA:Option Addr
 dn:Nat
 dc:Nat
 A:Option Addr
 n:Nat
 c:Nat
structure j6(w:aw)(gb:Nat)(a:qJ)(r:Nd)(L:List kx):Prop where
 aW:aX w gb 150 #[T a.sA 1 a.sc,X (G ⟨a.nb,0,U⟩)]
 sL:w.ownsRow 4 159 2 (T a.sA 1 a.sc) 1 [X (G ⟨a.db,0,U⟩),X (G ⟨a.xb,0,U⟩)]
 UD:aX w a.nb 209 #[T U 0 0]
 zh:iJ w a.db a.dA a.dn a.dc
 node:jo w a.xb a.lb a.A a.n a.c r L
 hi:4<=gb/\4<=a.nb
def qJ.F(a:qJ)(gb:Nat):Nat->Prop:=λg=>g=gb\/(T a.sA 1 a.sc).ownBlock=G g\/g=a.nb\/gx a.db a.dA a.dn a.dc g\/ix a.xb a.lb a.A a.n a.c g
section
variable{w w':aw}{gb:Nat}{a:qJ}{r r':Nd}{L L':List kx}
theorem j6.ch{S:Nat->Prop}(h:j6 w gb a r L)(hC:Ch S w w')(hS: ∀g,a.F gb g->¬S g):j6 w' gb a r L:=
 ⟨h.aW.ch hC (hS _ (.inl rfl)),bg h.sL hC (λg hg=>hS g (.inr (.inl hg))),h.UD.ch hC (hS _ (.inr (.inr (.inl rfl)))),h.zh.ch hC (λg hg=>hS g (.inr (.inr (.inr (.inl hg))))),h.node.ch hC (λg hg=>hS g (.inr (.inr (.inr (.inr hg))))),h.hi⟩
theorem j6.aR(h:j6 w gb a r L)(hC:M w w'):j6 w' gb a r L:=h.ch hC (λ_ _ h=>h)
theorem j6.fC(h:j6 w gb a r L):oo (a.F gb) w:=λg hg=>by
 rcases hg with rfl|hg|rfl|hg|hg
 ·exact h.aW.lt
 ·exact(h.sL.lt g hg).2
 ·exact h.UD.lt
 ·exact h.zh.fC g hg
 ·exact h.node.fC g hg
theorem j6.Bo(h:j6 w gb a r L): ∀g,ix a.xb a.lb a.A a.n a.c g->g≠gb/\(T a.sA 1 a.sc).ownBlock≠G g/\g≠a.nb/\¬gx a.db a.dA a.dn a.dc g:=λg hg=>by
 obtain⟨sy,SN⟩:=h.zh.aW;obtain⟨l,ho⟩:=h.zh.own;have key:(∃t cs,aX w g t cs/\t≠150/\t≠159/\t≠209/\t≠217/\t≠5):=by
  rcases hg with rfl|rfl|hg
  ·exact⟨_,_,h.node.aW,by decide,by decide,by decide,by decide,by decide⟩
  ·exact⟨_,_,h.node.log.aW,by decide,by decide,by decide,by decide,by decide⟩
  ·obtain⟨cur,hh⟩:=Bn h.node.log.own hg;exact⟨_,_,hh,by decide,by decide,by decide,by decide,by decide⟩
 obtain⟨t,cs,hb,h1,h2,h3,h4,h5⟩:=key;refine⟨λe=>by subst e;exact hb.lF h.aW h1 rfl,aV h.sL hb (λe=>h2 e.symm),λe=>by subst e;exact hb.lF h.UD h3 rfl,λe=>?_⟩;rcases e with e|e
 ·subst e;exact hb.lF SN h4 rfl
 ·exact aV ho.1 hb (λe=>h5 e.symm) e
theorem j6.LW(h:j6 w gb a r L): ∀g,gx a.db a.dA a.dn a.dc g->g≠gb/\(T a.sA 1 a.sc).ownBlock≠G g/\g≠a.nb/\¬ix a.xb a.lb a.A a.n a.c g:=λg hg=>by
 obtain⟨sy,SN⟩:=h.zh.aW;obtain⟨l,ho⟩:=h.zh.own;have key:(∃t cs,aX w g t cs/\t≠150/\t≠159/\t≠209):=by
  rcases hg with rfl|hg
  ·exact⟨_,_,SN,by decide,by decide,by decide⟩
  ·obtain⟨cur,hh⟩:=Bn ho.1 hg;exact⟨_,_,hh,by decide,by decide,by decide⟩
 obtain⟨t,cs,hb,h1,h2,h3⟩:=key;exact⟨λe=>by subst e;exact hb.lF h.aW h1 rfl,aV h.sL hb (λe=>h2 e.symm),λe=>by subst e;exact hb.lF h.UD h3 rfl,λe=>(h.Bo g e).2.2.2 hg⟩
theorem j6.LX{A':Option Addr}{n' c':Nat}(h:j6 w gb a r L)(hM:jo w' a.xb a.lb A' n' c' r' L')(hs:Sub (ix a.xb a.lb a.A a.n a.c) (ix a.xb a.lb A' n' c') w w'):
 j6 w' gb {a with A:=A',n:=n',c:=c'} r' L'/\Sub (a.F gb) (qJ.F {a with A:=A',n:=n',c:=c'} gb) w w':=by
 have f:=h.Bo;refine⟨⟨h.aW.ch hs.ch (λe=>(f _ e).1 rfl),bg h.sL hs.ch (λg hg e=>(f g e).2.1 hg),h.UD.ch hs.ch (λe=>(f _ e).2.2.1 rfl),h.zh.ch hs.ch (λg hg e=>(f g e).2.2.2 hg),hM,h.hi⟩,hs.ch.mono (λg hg=>.inr (.inr (.inr (.inr hg)))),λg hg=>?_⟩;rcases hg with hg|hg|hg|hg|hg
 ·exact .inl (.inl hg)
 ·exact .inl (.inr (.inl hg))
 ·exact .inl (.inr (.inr (.inl hg)))
 ·exact .inl (.inr (.inr (.inr (.inl hg))))
 ·exact(hs.new g hg).imp (λe=>.inr (.inr (.inr (.inr e)))) id
theorem j6.SP{A':Option Addr}{n' c':Nat}(h:j6 w gb a r L)(hM:iJ w' a.db A' n' c')(hs:Sub (gx a.db a.dA a.dn a.dc) (gx a.db A' n' c') w w'):
 j6 w' gb {a with dA:=A',dn:=n',dc:=c'} r L/\Sub (a.F gb) (qJ.F {a with dA:=A',dn:=n',dc:=c'} gb) w w':=by
 have f:=h.LW;refine⟨⟨h.aW.ch hs.ch (λe=>(f _ e).1 rfl),bg h.sL hs.ch (λg hg e=>(f g e).2.1 hg),h.UD.ch hs.ch (λe=>(f _ e).2.2.1 rfl),hM,h.node.ch hs.ch (λg hg e=>(f g e).2.2.2 hg),h.hi⟩,hs.ch.mono (λg hg=>.inr (.inr (.inr (.inl hg)))),λg hg=>?_⟩;rcases hg with hg|hg|hg|hg|hg
 ·exact .inl (.inl hg)
 ·exact .inl (.inr (.inl hg))
 ·exact .inl (.inr (.inr (.inl hg)))
 ·exact(hs.new g hg).imp (λe=>.inr (.inr (.inr (.inl e)))) id
 ·exact .inl (.inr (.inr (.inr (.inr hg))))
theorem j6.j7(h:j6 w gb a r L): ∃g,a.sA=G ⟨g,0,U⟩/\g<w.heap.size/\w.cell? ⟨g,0,U⟩=G (X (G ⟨a.db,0,U⟩))/\w.cell? ⟨g,1,U⟩=G (X (G ⟨a.xb,0,U⟩)):=by
 obtain⟨g,cap,hv,_,hlt⟩:=h.sL.form (by omega);injection hv with hA _ _;obtain⟨b,off,e,_,hc⟩:=(Rd.own h.sL) (by simp);rw[hA]at e;injection e with e;injection e with e1 e2;subst e1 e2;exact⟨g,hA,hlt,by simpa using hc 0 _ rfl,by simpa using hc 1 _ rfl⟩
theorem j6.fW(h:j6 w gb a r L){g:Nat}(hA:a.sA=G ⟨g,0,U⟩):w.cell? ⟨gb,0,U⟩=G (T (G ⟨g,0,U⟩) 1 a.sc)/\w.cell? ⟨gb,1,U⟩=G (X (G ⟨a.nb,0,U⟩))/\w.cell? ⟨g,0,U⟩=G (X (G ⟨a.db,0,U⟩))/\w.cell? ⟨g,1,U⟩=G (X (G ⟨a.xb,0,U⟩)):=by
 obtain⟨g',ur,_,y0,y1⟩:=h.j7;rw[hA]at ur;injection ur with e;injection e with e;subst e;exact⟨by rw[<-hA];exact h.aW.c 0,h.aW.c 1,y0,y1⟩
theorem DY(h:j6 w gb a r L)(h0:r.dD=false)(h1:r.fr=0):ax av 153 #[X (G ⟨gb,0,U⟩),I J 0] w λe w'=>e=ay (I J 0)/\M w w':=by
 have HS:=O (Ig h.node h0 h1);obtain⟨g,hA,hg,_,_⟩:=h.j7;have⟨x0,x1,y0,y1⟩:=h.fW hA;have xl:=h.aW.lt;clear h hA;go_enter func153,ntmps153;go_wp2_with fail;refine HS.o.mono ?_;rintro e w2 ⟨rfl,hN⟩;dsimp only;have HN:=O hN;clear hN x0 x1 y0 y1 xl hg;go_wp2_with fail;go_ret;exact⟨rfl,HN.o.alloc _⟩
end
def qJ.same(a a':qJ):Prop:=a'.sA=a.sA/\a'.sc=a.sc/\a'.nb=a.nb/\a'.db=a.db/\a'.xb=a.xb/\a'.lb=a.lb
def Z5(w:aw)(gb:Nat)(a:qJ)(k:Nat)(v:Value)(r':Nd)(L':List kx)(e:Ending)(w':aw):Prop:=
 e=ay v/\∃a',j6 w' gb a' r' L'/\Sub (a.F gb) (a'.F gb) w w'/\a'.dn<=a.dn+k/\a.same a'
section
variable{w w':aw}{gb n:Nat}{a:qJ}{r r':Nd}{L L':List kx}
theorem DZ(h:j6 w gb a r L)(hn:a.n=n+1)(hf:r.fr=(n:Int)+1){et:Nat}{d:ByteArray}(he:L[n]?=G ((et:Int),d))(h1:r.term=1)(h0:r.fP=0)(het:et<1000)(hd:d.size<=600)(sM:a.dn<=200000):
 ax av 153 #[X (G ⟨gb,0,U⟩),I J 0] w (Z5 w gb a 1500 (I J 0) {r with dD:=false,fr:=0} L):=by
 have HH:=O h;obtain⟨aA,asc,anb,adb,axb,alb,adA,adn,adc,aAA,an,ac⟩:=a;dsimp only at hn sM;subst hn;have oV:n+1<=100:=h.node.log.fx;have HS:=O (Ih h.node hf he);rw[h1,h0]at HS;obtain⟨g,hA,hg,_,_⟩:=h.j7;dsimp only at hA;have⟨x0,x1,y0,y1⟩:=h.fW hA;have xl:=h.aW.lt;have HA:=O hA;have jW:(n:Int)<=99:=by omega
 have hnN:n+1<1000000000000:=by omega
 obtain⟨X2,hhd⟩:=bG (r.dD);rw[hhd]at HS;clear h hA;go_enter func153,ntmps153;go_wp2_with fail;refine HS.o.mono ?_;rintro e w2 ⟨A2,c2,rfl,ho,hM,hC⟩;dsimp only;have H2:=O (HH.o.LX hM ⟨hC.mono (λg hg=>.inl hg),λg hg=>.inl hg⟩);have wu:=O ho;clear ho hM hC x0 x1 y0 y1 xl hg;go_upto_region 4 with(fail);obtain⟨w3,je⟩:=bG (w2.alloc (az #[Y X2,I J 1,I J 0,I J ((n:Int)+1),T A2 1 c2] 298));have cE:=kb je;have fL:=O (show aX w3 w2.heap.size 298 #[Y X2,I J 1,I J 0,I J ((n:Int)+1),T A2 1 c2]from je▸aX.new w2 298 _);rw[je];obtain⟨qb,bE⟩:=bG (w2.heap.size);rw[bE]at fL
 try simp only[bE]
 clear je bE;have H3:=O (H2.o.1.aR cE.o);have⟨x0,x1,y0,y1⟩:=H3.o.fW HA.o;have xl:=H3.o.aW.lt;have⟨q0,q1,q2,q3,q4⟩:=iP fL.o;have ql:=fL.o.lt;have HW:=O (wL (c:=c2) ((H3.o.aR (aU w3)).zh) sM X2 (t:=1) (v:=0) (f:=n+1) (et:=et) (by omega) hd (((Rd.own wu.o).aR cE.o).aR (aU w3)))
 go_still_tail 9,(by kernel_rfl)
 change wpList _ _ _ _ _ w3.drew;go_wp2_with fail;refine HW.o.mono ?_;rintro e w4 ⟨rfl,A4,n4,c4,hle,hD,hs⟩;dsimp only;have H4:=O ((H3.o.aR (aU w3)).SP hD hs);have p7:=O hle;clear hD hs hle x0 x1 y0 y1 xl q0 q1 q2 q3 q4 ql;go_wp2_with fail;go_ret;exact⟨rfl,_,H4.o.1,(H2.o.2.trans (Sub.bj _ (cE.o.t (aU w3)))).trans H4.o.2,p7.o,rfl,rfl,rfl,rfl,rfl,rfl⟩
def UE(r:Nd)(n:Nat)(L:List kx):Prop:=(r.dD=false/\r.fr=0)\/∃(m et:Nat) (d:ByteArray),n=m+1/\r.fr=(m:Int)+1/\L[m]?=G ((et:Int),d)/\r.term=1/\r.fP=0/\et<1000/\d.size<=600
abbrev Nd.done(r:Nd):Nd:={r with dD:=false,fr:=0}
theorem Ii(h:j6 w gb a r L)(hW:UE r a.n L)(sM:a.dn<=200000):ax av 153 #[X (G ⟨gb,0,U⟩),I J 0] w (Z5 w gb a 1500 (I J 0) r.done L):=by
 rcases hW with⟨h0,h1⟩|⟨m,et,d,h1,h2,h3,h4,h5,h6,h7⟩
 ·refine(DY h h0 h1).mono λe w' ⟨he,hN⟩=>⟨he,a,?_,Sub.bj _ hN,by omega,rfl,rfl,rfl,rfl,rfl,rfl⟩;have:r.done=r:=by obtain⟨_,_,_,_,_,_,_,_,_,_,hd,fr⟩:=r;dsimp only at h0 h1;subst h0 h1;rfl
  rw[this];exact h.aR hN
 ·exact DZ h h1 h2 h3 h4 h5 h6 h7 sM
theorem xF(h:j6 w gb a r L)(sM:a.dn<=200000){F:FuncId}(hF:F=143\/F=145){cb:Nat}{E:Int}{R:Nd->List kx->Prop}
 (xo:ax av F #[X (G ⟨a.xb,0,U⟩),X (G ⟨cb,0,U⟩)] w λe w1=>e=ay (I J E)/\∃r1 L1 A1 n1 c1,R r1 L1/\UE r1 n1 L1/\jo w1 a.xb a.lb A1 n1 c1 r1 L1/\Sub (ix a.xb a.lb a.A a.n a.c) (ix a.xb a.lb A1 n1 c1) w w1):
 ax av 142 #[X (G ⟨gb,0,U⟩),I J 0,.func (.func F) #[] #[X (G ⟨cb,0,U⟩)]] w λe w'=>∃r1 L1,R r1 L1/\Z5 w gb a 1500 (I J E) r1.done L1 e w':=by
 have HH:=O h;obtain⟨aA,asc,anb,adb,axb,alb,adA,adn,adc,aAA,an,ac⟩:=a;dsimp only at sM xo;have HC:=O xo;clear xo;obtain⟨g,hA,hg,_,_⟩:=h.j7;dsimp only at hA;subst hA;have⟨x0,x1,y0,y1⟩:=h.fW rfl;have xl:=h.aW.lt;clear h;rcases hF with rfl|rfl
 all_goals
  go_enter func142,ntmps142;go_wp2_with fail;refine HC.o.mono ?_;rintro e w1 ⟨rfl,r1,L1,A1,n1,c1,hR,hW,hM,hs⟩;dsimp only;have HR:=O hR;have H1:=O (HH.o.LX hM hs);have OE:=O (Ii H1.o.1 hW sM);clear hR hW hM hs x0 x1 y0 y1 xl;go_wp2_with fail;refine OE.o.mono ?_;rintro e w2 ⟨rfl,a2,X3,ZR,Qm,q1,q2,q3,q4,q5,q6⟩;dsimp only at q1 q2 q3 q4 q5 q6 Qm⊢;obtain⟨bA,bsc,bnb,bdb,bxb,blb,bdA,bdn,bdc,bAA,bn,bc⟩:=a2;dsimp only at q1 q2 q3 q4 q5 q6 Qm;subst q1 q2 q3 q4 q5 q6;have H2:=O X3;have kj:=O (H1.o.2.trans ZR);have HSY:=O (LS X3.zh);have⟨x0,x1,y0,y1⟩:=X3.fW rfl;have xl:=X3.aW.lt;have xG:=O Qm;clear X3 ZR Qm;go_wp2_with fail;refine HSY.o.mono ?_;rintro e w3 ⟨rfl,hD,hC⟩;dsimp only;have H3:=O (H2.o.SP hD ⟨hC.mono (λg hg=>.inl hg),λg hg=>.inl hg⟩);have HO:=O (Qi H3.o.1.node);clear hD hC x0 x1 y0 y1 xl;go_wp2_with fail;refine HO.o.mono ?_;rintro e w4 ⟨rfl,hM,hC⟩;dsimp only;have H4:=O (H3.o.1.LX hM ⟨hC.mono (λg hg=>.inl hg),λg hg=>.inl hg⟩);clear hM hC;go_wp2_with fail
  go_loopw[48] (λiv wr=>iv=I J 0/\wr=w4) (λ_ _=>0)
  case atStart=>exact⟨rfl,rfl⟩
  case round=>
   obtain⟨rfl,hw⟩:=hrel;subst hw;go_wp2_with fail;go_ret;exact⟨r1,L1,HR.o,rfl,_,H4.o.1,(kj.o.trans H3.o.2).trans H4.o.2,xG.o,rfl,rfl,rfl,rfl,rfl,rfl⟩
end
section
variable{w w':aw}{gb n:Nat}{a:qJ}{r r':Nd}{L L':List kx}{E:Int}{R:Nd->List kx->Prop}
theorem zi(h:j6 w gb a r L):ax av 46 #[X (G ⟨gb,0,U⟩)] w λe w'=>e=ay (I J 1)/\w=w':=by
 have x0:=h.aW.c 0;have xl:=h.aW.lt;clear h;go_enter func46,ntmps46;go_wp2_with fail;go_ret;exact⟨rfl,rfl⟩
theorem FQ(h:j6 w gb a r L):ax av 140 #[X (G ⟨gb,0,U⟩),I J 0] w λe w'=>e=ay (Y true)/\w=w':=by
 have HL:=O (zi h);clear h;go_enter func140,ntmps140;go_wp2_with fail;refine HL.o.mono ?_;rintro e w2 ⟨rfl,rfl⟩;dsimp only;go_wp2_with fail;go_ret;exact⟨rfl,rfl⟩
theorem lq(h:j6 w gb a r L):ax av 130 #[X (G ⟨gb,0,U⟩),I J 0] w λe w'=>e=ay (X (G ⟨a.xb,0,U⟩))/\w=w':=by
 have HI:=O (FQ h);obtain⟨g,hA,hg,_,_⟩:=h.j7;have⟨x0,x1,y0,y1⟩:=h.fW hA;have xl:=h.aW.lt;clear h hA;go_enter func130,ntmps130;go_wp2_with fail;refine HI.o.mono ?_;rintro e w2 ⟨rfl,rfl⟩;dsimp only;go_wp2_with fail;go_ret;exact⟨rfl,rfl⟩
abbrev mT(k d:Int)(s:ByteArray):Array Value:=#[I J k,I J 0,I J 0,I J d,I J 0,I J 0,I .u8 0,V s]
def ClP(w:aw)(a:qJ)(E:Int)(R:Nd->List kx->Prop)(e:Ending)(w1:aw):Prop:=
 e=ay (I J E)/\∃r1 L1 A1 n1 c1,R r1 L1/\UE r1 n1 L1/\jo w1 a.xb a.lb A1 n1 c1 r1 L1/\Sub (ix a.xb a.lb a.A a.n a.c) (ix a.xb a.lb A1 n1 c1) w w1
def OO(w:aw)(gb:Nat)(a:qJ)(E:Int)(R:Nd->List kx->Prop)(e:Ending)(w':aw):Prop:=∃r1 L1,R r1 L1/\Z5 w gb a 1500 (I J E) r1.done L1 e w'
theorem OO.pre{w1:aw}{e:Ending}(hN:M w w1)(h:OO w1 gb a E R e w'):OO w gb a E R e w':=by
 obtain⟨r1,L1,h1,h2,a',h3,h4,h5⟩:=h;exact⟨r1,L1,h1,h2,a',h3,(Sub.bj _ hN).trans h4,h5⟩
theorem Qn(h:j6 w gb a r L)(sM:a.dn<=200000){k d:Int}{s:ByteArray}{F:FuncId}(hF:(F=143/\k=1)\/(F=145/\k=5))
 (xo: ∀w' cb,M w w'->aX w' cb 50 (mT k d s)->ax av F #[X (G ⟨a.xb,0,U⟩),X (G ⟨cb,0,U⟩)] w' (ClP w' a E R)):
 ax av 89 #[X (G ⟨gb,0,U⟩),aC (mT k d s)] w (OO w gb a E R):=by
 obtain⟨w1,bT⟩:=bG (w.alloc (az (mT k d s) 50));have cH:=kb bT;have cw:=O (show aX w1 w.heap.size 50 (mT k d s)from bT▸aX.new w 50 _);have H1:=O (h.aR cH.o);have dB:=O (lq H1.o);have OP:=O (FQ H1.o);have HC:=O (xo w1 _ cH.o cw.o);have⟨x0,x1⟩:=vS cw.o;have xl:=cw.o.lt;clear h xo;rcases hF with⟨rfl,rfl⟩|⟨rfl,rfl⟩
 ·have nV:=O (xF H1.o sM (.inl rfl) HC.o);go_enter func89,ntmps89;go_wp2_with(first
   |(go_at_call 130;(with_reducible refine dB.o.mono ?_);rintro e w' ⟨rfl,rfl⟩)
   |(go_at_call 140;(with_reducible refine OP.o.mono ?_);rintro e w' ⟨rfl,rfl⟩))
  refine nV.o.mono ?_;rintro e w2 hX;have HX:=O (OO.pre cH.o hX);obtain⟨r1,L1,_,rfl,_⟩:=hX;clear x0 x1 xl;go_wp2_with fail;go_ret;exact HX.o
 ·have nV:=O (xF H1.o sM (.inr rfl) HC.o);go_enter func89,ntmps89;go_wp2_with(first
   |(go_at_call 130;(with_reducible refine dB.o.mono ?_);rintro e w' ⟨rfl,rfl⟩)
   |(go_at_call 140;(with_reducible refine OP.o.mono ?_);rintro e w' ⟨rfl,rfl⟩))
  refine nV.o.mono ?_;rintro e w2 hX;have HX:=O (OO.pre cH.o hX);obtain⟨r1,L1,_,rfl,_⟩:=hX;clear x0 x1 xl;go_wp2_with fail;go_ret;exact HX.o
theorem FR(h:j6 w gb a r L)(sM:a.dn<=200000){k d:Int}{s:ByteArray}{F:FuncId}(hF:(F=143/\k=1)\/(F=145/\k=5))
 (xo: ∀w' cb,M w w'->aX w' cb 50 (mT k d s)->ax av F #[X (G ⟨a.xb,0,U⟩),X (G ⟨cb,0,U⟩)] w' (ClP w' a E R)):
 ax av 47 #[X (G ⟨gb,0,U⟩),aC (mT k d s)] w (OO w gb a E R):=by
 obtain⟨w1,bT⟩:=bG (w.alloc (az (mT k d s) 50));have cH:=kb bT;have cw:=O (show aX w1 w.heap.size 50 (mT k d s)from bT▸aX.new w 50 _);have HD:=O (Qn (h.aR cH.o) sM hF (λw' cb hN hb=>xo w' cb (cH.o.t hN) hb));have y:=λi=>cw.o.c i;have⟨x0,x1,x2,x3,x4,x5,x6,x7⟩:=(show _/\_/\_/\_/\_/\_/\_/\_ from⟨y 0,y 1,y 2,y 3,y 4,y 5,y 6,y 7⟩);have xl:=cw.o.lt;clear h xo y;rcases hF with⟨rfl,rfl⟩|⟨rfl,rfl⟩
 all_goals
  go_enter func47,ntmps47;go_wp2_with fail;refine HD.o.mono ?_;rintro e w2 hX;have HX:=O (OO.pre cH.o hX);obtain⟨r1,L1,_,rfl,_⟩:=hX;clear x0 x1 x2 x3 x4 x5 x6 x7 xl;go_wp2_with fail;go_ret;exact HX.o
end
def Wp(w:aw)(gb:Nat)(a:qJ)(L:List kx):Prop:=∃s q v x,(0<=s/\s<=1)/\(0<=q/\q<=3)/\j6 w gb a (CZ s q 0 v x false 0 (L.length:Int)) L/\j5 L=1
def UF(w:aw)(gb:Nat)(a:qJ)(Z:aw->qJ->Prop)(e:Ending)(w':aw):Prop:=
 e=ay (I J 0)/\∃a',Z w' a'/\Sub (a.F gb) (a'.F gb) w w'/\a'.dn<=a.dn+1500/\a.same a'
section
variable{w w':aw}{gb n:Nat}{a:qJ}{r r':Nd}{L L':List kx}{s:Int}{R:Nd->List kx->Prop}
theorem OO.q{Z:aw->qJ->Prop}{e:Ending}(h:OO w gb a 0 R e w')(hZ: ∀r1 L1 a',R r1 L1->j6 w' gb a' r1.done L1->Z w' a'):UF w gb a Z e w':=by
 obtain⟨r1,L1,h1,rfl,a',h3,h4,h5,h6⟩:=h;exact⟨rfl,a',hZ r1 L1 a' h1 h3,h4,h5,h6⟩
theorem zj{w:aw}{xb cb:Nat}{d:Int}{s:ByteArray}(hb:aX w cb 50 (mT 1 d s)){aq:aw->Prop}(h:ax av 144 #[X (G ⟨xb,0,U⟩),I J d] w λe w'=>e=ay (aB #[])/\aq w'):
 ax av 143 #[X (G ⟨xb,0,U⟩),X (G ⟨cb,0,U⟩)] w λe w'=>e=ay (I J 0)/\aq w':=by
 have H:=O h;have x3:=hb.c 3;have xl:=hb.lt;clear h hb;go_enter func143,ntmps143;go_wp2_with fail;refine H.o.mono ?_;rintro e w2 ⟨rfl,hX⟩;have HX:=O hX;clear hX x3 xl;go_wp2_with fail;go_ret;exact⟨rfl,HX.o⟩
theorem Qo{w:aw}{xb cb:Nat}{s:ByteArray}(hb:aX w cb 50 (mT 5 0 s)){E:Int}{aq:aw->Prop}(h:ax av 146 #[X (G ⟨xb,0,U⟩),V s] w λe w'=>(∃n:Int,e=ay (aB #[I J n,I J E]))/\aq w'):
 ax av 145 #[X (G ⟨xb,0,U⟩),X (G ⟨cb,0,U⟩)] w λe w'=>e=ay (I J E)/\aq w':=by
 have H:=O h;have x7:=hb.c 7;have xl:=hb.lt;clear h hb;go_enter func145,ntmps145;go_wp2_with fail;refine H.o.mono ?_;rintro e w2 ⟨⟨n,rfl⟩,hX⟩;have HX:=O hX;clear hX x7 xl;go_wp2_with fail;go_ret;exact⟨rfl,HX.o⟩
theorem Qp(h:j6 w gb a (zg s) [])(hs:0<=s/\s<=2)(sM:a.dn<=200000)(dt:ByteArray):
 ax av 47 #[X (G ⟨gb,0,U⟩),aC (mT 1 0 dt)] w (UF w gb a λw' a'=>j6 w' gb a' (zg (s+1)) []):=by
 have h0:a.n=0:=h.node.log.len.symm;refine(FR (E:=0) (R:=λr1 L1=>r1=zg (s+1)/\L1=[]) h sM (.inl ⟨rfl,rfl⟩) λw' cb hN hb=>?_).mono λe w' hX=>hX.q λr1 L1 a' ⟨h1,h2⟩ hM=>by subst h1 h2;exact hM
 have hn:=(h.aR hN).node;rw[h0]at hn;refine(zj hb (Ic hn hs)).mono λe w1 ⟨h1,h2,h3⟩=>⟨h1,_,_,a.A,0,a.c,⟨rfl,rfl⟩,.inl ⟨rfl,rfl⟩,h2,?_⟩;rw[h0];exact⟨h3.mono (λg hg=>.inl hg),λg hg=>.inl hg⟩
theorem Qq(h:j6 w gb a (zg 3) [])(sM:a.dn<=200000)(dt:ByteArray):
 ax av 47 #[X (G ⟨gb,0,U⟩),aC (mT 1 0 dt)] w (UF w gb a λw' a'=>Wp w' gb a' [(1,emp)]):=by
 have h0:a.n=0:=h.node.log.len.symm;refine(FR (E:=0) (R:=λr1 L1=>r1=CZ 0 0 0 1 1 true 1 1/\L1=[(1,emp)]) h sM (.inl ⟨rfl,rfl⟩) λw' cb hN hb=>?_).mono λe w' hX=>hX.q λr1 L1 a' ⟨h1,h2⟩ hM=>by
  subst h1 h2;exact⟨0,0,1,1,by omega,by omega,hM,rfl⟩
 have hn:=(h.aR hN).node;rw[h0]at hn;refine(zj hb (Ie hn)).mono λe w1 ⟨h1,A',c',h2,h3⟩=>⟨h1,_,_,A',1,c',⟨rfl,rfl⟩,.inr ⟨0,1,emp,rfl,rfl,rfl,rfl,rfl,by omega,by show(0:Nat)<=600;omega⟩,h2,?_⟩;rw[h0];exact h3
theorem Qr(h:Wp w gb a L)(sM:a.dn<=200000)(d:Int)(dt:ByteArray):
 ax av 47 #[X (G ⟨gb,0,U⟩),aC (mT 1 d dt)] w (UF w gb a λw' a'=>Wp w' gb a' L):=by
 obtain⟨s,q,v,x,hs,hq,hM,hT⟩:=h;refine(FR (E:=0) (R:=λr1 L1=>(∃s q,(0<=s/\s<=1)/\(0<=q/\q<=3)/\r1=CZ s q 0 v x false 0 (L.length:Int))/\L1=L) hM sM (.inl ⟨rfl,rfl⟩) λw' cb hN hb=>?_).mono λe w' hX=>hX.q λr1 L1 a' ⟨⟨s',q',h1,h2,h3⟩,h4⟩ hM=>by
  subst h3 h4;exact⟨s',q',v,x,h1,h2,hM,hT⟩
 refine(zj hb (Ib (hM.aR hN).node hs hq d)).mono λe w1 ⟨h1,s',q',h2,h3,h4,h5⟩=>⟨h1,_,_,a.A,a.n,a.c,⟨⟨s',q',h2,h3,rfl⟩,rfl⟩,.inl ⟨rfl,rfl⟩,h4,h5.mono (λg hg=>.inl hg),λg hg=>.inl hg⟩
theorem UG(h:Wp w gb a L)(sM:a.dn<=200000)(hL:L.length<100)(dt:ByteArray)(hd:dt.size<=512):
 ax av 47 #[X (G ⟨gb,0,U⟩),aC (mT 5 0 dt)] w (UF w gb a λw' a'=>Wp w' gb a' (L++[(1,dt)])):=by
 obtain⟨s,q,v,x,hs,hq,hM,hT⟩:=h;have hl:=hM.node.log.len;refine(FR (E:=0) (R:=λr1 L1=>r1={CZ s q 0 v x false 0 (L.length:Int)with dC:=(a.n:Int)+1,since:=0,fr:=(a.n:Int)+1}/\L1=L++[(1,dt)]) hM sM (.inr ⟨rfl,rfl⟩) λw' cb hN hb=>?_).mono λe w' hX=>hX.q λr1 L1 a' ⟨h1,h2⟩ hM=>by
  subst h1 h2;refine⟨0,q,v,x,by omega,hq,?_,o7 _ _⟩;have:((L++[((1:Int),dt)]).length:Int)=(a.n:Int)+1:=by rw[aL,hl];simp
  rw[this];exact hM
 refine(Qo (E:=0) hb ((Bi (hM.aR hN).node rfl (by omega) rfl (by rw[<-hl]) rfl (by rw[hT];omega) dt hd).mono λe w1 ⟨h1,h2⟩=>⟨⟨_,h1⟩,h2⟩)).mono λe w1 ⟨h1,A',c',h2,h3⟩=>⟨h1,_,_,A',a.n+1,c',⟨rfl,rfl⟩,.inr ⟨a.n,1,dt,rfl,rfl,?_,rfl,rfl,by omega,by omega⟩,h2,h3⟩;rw[<-hl,List.getElem?_append_right (aN _)];simp
theorem UH{w:aw}{nb:Nat}(h:aX w nb 209 #[T U 0 0]):ax av 154 #[X (G ⟨nb,0,U⟩)] w λe w'=>e=ay (I J 0)/\w=w':=by
 have x0:=h.c 0;have xl:=h.lt;clear h;go_enter func154,ntmps154;go_wp2_with fail;go_ret;exact⟨rfl,rfl⟩
theorem Qt(h:j6 w gb a r L):ax av 91 #[X (G ⟨gb,0,U⟩),I J 20000] w λe w'=>e=ay (I J 0)/\w=w':=by
 have HN:=O (UH h.UD);have x1:=h.aW.c 1;have xl:=h.aW.lt;clear h;go_enter func91,ntmps91;go_wp2_with fail
 go_loop[5] (λiv=>iv=I J 0) (λ_=>0)
 case atStart=>exact rfl
 case round=>
  subst hrel;go_wp2_with fail;refine HN.o.mono ?_;rintro e w2 ⟨rfl,rfl⟩;dsimp only;go_wp2_with fail;go_ret;exact⟨rfl,rfl⟩
theorem FU(h:j6 w gb a r L):ax av 94 #[X (G ⟨gb,0,U⟩)] w λe w'=>e=ay (aB #[I J 0,Y (decide (r.role=3))])/\w=w':=by
 have HL:=O (zi h);have HN:=O (lq h);have HR:=O (LQ h.node);obtain⟨ro,hro⟩:=bG (r.role);rw[hro]at HR⊢;clear h hro;by_cases h3:ro=3
 ·subst h3;go_enter func94,ntmps94;go_wp2_with fail;refine HL.o.mono ?_;rintro e w2 ⟨rfl,rfl⟩;dsimp only;go_wp2_with fail
  go_loop[4,9] (λbv iv=>(bv=I J (-1)/\iv=I J 0)\/(bv=I J 0/\iv=I J 1)) (λ_ iv=>(1-intOf iv).toNat)
  case atStart=>exact .inl ⟨rfl,rfl⟩
  case round=>
   rcases hrel with⟨rfl,rfl⟩|⟨rfl,rfl⟩
   ·go_wp2_with(first
     |(go_at_call 130;(with_reducible refine HN.o.mono ?_);rintro e w' ⟨rfl,rfl⟩)
     |(go_at_call 158;(with_reducible refine HR.o.mono ?_);rintro e w' ⟨rfl,rfl⟩))
    go_round
    case rel=>exact .inr ⟨rfl,rfl⟩
    case measure=>simp[intOf]
   ·go_wp2_with fail;go_ret2;exact⟨rfl,rfl⟩
 ·have d1:(ro==3)=false:=beq_eq_false_iff_ne.2 h3;have d2:decide (ro=3)=false:=decide_eq_false h3;rw[d2];go_enter func94,ntmps94;go_wp2_with fail;refine HL.o.mono ?_;rintro e w2 ⟨rfl,rfl⟩;dsimp only;go_wp2_with fail
  go_loop[4,9] (λbv iv=>bv=I J (-1)/\(iv=I J 0\/iv=I J 1)) (λ_ iv=>(1-intOf iv).toNat)
  case atStart=>exact⟨rfl,.inl rfl⟩
  case round=>
   obtain⟨rfl,rfl|rfl⟩:=hrel
   ·go_wp2_with(first
     |(go_at_call 130;(with_reducible refine HN.o.mono ?_);rintro e w' ⟨rfl,rfl⟩)
     |(go_at_call 158;(with_reducible refine HR.o.mono ?_);rintro e w' ⟨rfl,rfl⟩))
    go_round
    case rel=>exact⟨rfl,.inr rfl⟩
    case measure=>simp[intOf]
   ·go_wp2_with fail;go_ret2;exact⟨rfl,rfl⟩
end
theorem Ij:(av.info? 159).map (λi=>(i.zero,i.size,i.bytes))=G (G (aC #[X U,X U]),2,16):=by kernel_rfl
theorem UI(w:aw):ax av 79 #[] w λe w'=>e=ay (X (G ⟨w.heap.size,0,U⟩))/\w'=w.alloc (az #[T U 0 0] 209):=by
 go_enter func79,ntmps79;go_wp2_with fail;go_ret;exact⟨rfl,rfl⟩
def GrN(w:aw)(e:Ending)(w':aw):Prop:=∃gb a,e=ay (X (G ⟨gb,0,U⟩))/\j6 w' gb a (zg 0) []/\a.dn=0/\(∀g,a.F gb g->w.heap.size<=g)/\M w w'
theorem LY(w:aw)(h4:4<=w.heap.size):ax av 43 #[I J 1] w (GrN w):=by
 obtain⟨i1,dX,er,eu,eK⟩:=info_parts Ij;have rG:=O UI;have Wo:=O Qj;have xG:=O (λw h4=>show ax av 81 #[] w (λe w'=>∃db,e=ay (X (G ⟨db,0,U⟩))/\iJ w' db U 0 0/\w.heap.size<=db/\M w w')from(Qk w h4).mono λe w' ⟨h1,h2,h3⟩=>⟨_,h1,h2,aN _,h3⟩);have H4:=O h4;go_enter func43,ntmps43;go_wp2_with fail;refine(rG.o _).mono ?_;rintro e w1 ⟨rfl,bT⟩;dsimp only;have cH:=O (show M w w1 from bT▸(Ch.r _ w).alloc _);have cw:=O (show aX w1 w.heap.size 209 #[T U 0 0]from bT▸aX.new w 209 _);clear bT;obtain⟨nb,SJ⟩:=bG (w.heap.size);rw[SJ]at cw
 try simp only[SJ]
 have JP:=O SJ;clear SJ;obtain⟨w2,ew⟩:=bG (w1.alloc (az #[T U 0 0,X (G ⟨nb,0,U⟩)] 150));have bJ:=kb ew;have cJ:=O (show aX w2 w1.heap.size 150 #[T U 0 0,X (G ⟨nb,0,U⟩)]from ew▸aX.new w1 150 _);obtain⟨gb,Kk⟩:=bG (w1.heap.size);go_upto_region 4 with(fail);rw[Kk]at cJ
 try simp only[Kk]
 have xg:=O Kk;clear Kk ew;go_wp2_with fail
 go_loopw[17] (λiv wr=>(iv=I J 0/\wr=w2)\/(iv=I J 1/\∃a,j6 wr gb a (zg 0) []/\a.dn=0/\(∀g,a.F gb g->w.heap.size<=g)/\M w wr)) (λiv _=>(1-intOf iv).toNat)
 case atStart=>exact .inl ⟨rfl,rfl⟩
 case round=>
  rcases hrel with⟨rfl,hw⟩|⟨rfl,a,hM,hd,hF,hN⟩
  ·subst hw;have s1:=cH.o.size;have s2:=bJ.o.size;go_wp2_with fail;refine(Wo.o _ (by have:=H4.o;omega)).mono ?_;rintro e w3 ⟨xb,lb,rfl,hM,ZP,AZ,hN⟩;dsimp only;have vV:=O hM;have Pr:=O (And.intro ZP AZ);have cE:=O hN;have fL:=O (cJ.o.ch hN (λh=>h));have s3:=hN.size;clear hM ZP AZ hN;have x0:=fL.o.c 0;have xl:=fL.o.lt;have dB:=O (show M w3 w3.drew from aU w3);have sK:=O (λ(ar w8:aw) (hC:M w3 ar) (hg:ar.grownBy w8 U)=>show aX w8 gb 150 #[T U 0 0,X (G ⟨nb,0,U⟩)]from
    (fL.o.ch hC (λh=>h)).grown hg (by simp))
   go_upto_region 8 with(fail)
   go_region_law(first
    |(refine bL _ rfl (.tmp 31) (.tmp 35) 148 rfl 4 159 i1 _ 2 16 underlying148 dX er eu eK rfl (by decide) (T U 0 0) 0 [] (by simp[Act.eval]) (World.ownsRow_nil _ _ _ _) (w5.heap.size+1) (G ⟨w5.heap.size,0,U⟩) 1 1 [X (G ⟨db,0,U⟩),X (G ⟨xb,0,U⟩)] (by simp[Act.eval]) (cD w5 159 #[X (G ⟨db,0,U⟩),X (G ⟨xb,0,U⟩)] 1 2 rfl) (by simp[Value.oneCell']) (by unfold maxLen;omega) (by omega) (by have:=H4.o;simp;omega) ?_
      intro v9 w9 cC gV fl;obtain⟨A9,c9,rfl⟩:=bz cC;have mS:=O cC;have rF:=O fl;have Ay:=O gV;have gj:=O (sK.o _ w9 (ff.o.alloc _) gV);clear cC gV fl;have u3:=gj.o.c 0;have ul:=gj.o.lt;have uf:=gj.o.frozen)
    |(go_simp;go_at_call 81;(refine(xG.o _ (by have:=H4.o;first|(show 4<=w3.heap.size;omega)|(simp;omega))).mono ?_);rintro e w5 ⟨db,rfl,hD,SN,hN⟩
      have ff:=O (show Ch (λ_=>False) w3 w5 from Ch.t (by first|exact dB.o|exact Ch.r _ _) hN);have UJ:=O hD;have HDB:=O (show w3.heap.size<=db from SN);have s5:w3.heap.size<=w5.heap.size:=ff.o.size;clear hD SN hN;dsimp only;have H5:=O (fL.o.ch ff.o (λh=>h));have x3:=H5.o.c 0;have xl:=H5.o.lt))
   all_goals
    have hO:=mS.o;have hB:=gj.o;have JL:Ch (λ_=>False) w3 w9:=(ff.o.alloc _).t ((Ch.bF Ay.o).mono (λg hg=>by cases hg));have Wq:=(Ch.r (λg=>g=gb) w9).setCell (p:=⟨gb,0,U⟩) (.inl rfl) (T A9 1 c9);have hgw:w.heap.size<=gb:=by have:=xg.o;omega
    have hnw:w.heap.size<=nb:=by have:=JP.o;omega
    have hx3:=Pr.o;have hdw:=HDB.o;have eQ: ∀g t cs,t≠150->aX w9 g t cs->¬g=gb:=λg t cs ht hb e=>by subst e;exact hb.lF hB ht rfl
    have hD9:=(UJ.o.aR ((Ch.r (λ_=>False) w5).alloc (az #[X (G ⟨db,0,U⟩),X (G ⟨xb,0,U⟩)] 159))).aR ((Ch.bF Ay.o).mono (λg hg=>by cases hg):M _ w9);have Z6:=vV.o.aR JL;have HX:=O (show j6 (w9.setCell ⟨gb,0,U⟩ (T A9 1 c9)) gb ⟨A9,c9,nb,db,xb,lb,U,0,0,U,0,0⟩ (zg 0) []from
     ⟨bu (hB.bm 0 (T A9 1 c9)) (by simp),bg hO Wq (λg hg e=>aV hO hB (by decide) (by rw[<-e];exact hg)),((cw.o.ch (bJ.o.t cE.o) (λh=>h)).ch JL (λh=>h)).ch Wq (by have:=xg.o;have:=JP.o;have:=cw.o.lt;omega),hD9.ch Wq (λg hg=>by
       obtain⟨sy,SN⟩:=hD9.aW;rcases hg with rfl|hg
       ·exact eQ _ _ _ (by decide) SN
       ·cases hg),Z6.ch Wq (λg hg=>by
       rcases hg with rfl|rfl|hg
       ·exact eQ _ _ _ (by decide) Z6.aW
       ·exact eQ _ _ _ (by decide) Z6.log.aW
       ·cases hg),by have:=H4.o;omega,(show 4<=nb from by have:=H4.o;omega)⟩)
    have HF:=O (show∀g,qJ.F ⟨A9,c9,nb,db,xb,lb,U,0,0,U,0,0⟩ gb g->w.heap.size<=g from λg hg=>by
     rcases hg with rfl|hg|rfl|hg|hg
     ·exact hgw
     ·rcases rF.o with e|e
      ·rw[e]at hg;cases hg
      ·rw[e]at hg;injection hg with hg;have hg:w5.heap.size+1=g:=by first|exact hg|simpa using hg
       omega
     ·exact hnw
     ·rcases hg with rfl|hg
      ·omega
      ·cases hg
     ·rcases hg with rfl|rfl|hg
      ·omega
      ·omega
      ·cases hg)
    have Wr:=O (show M w (w9.setCell ⟨gb,0,U⟩ (T A9 1 c9))from((cH.o.t bJ.o).t cE.o).t (JL)|>.trans Wq (λg e=>.inr (by omega)));clear hO hB JL Wq eQ hD9 Z6 u3 ul uf x0 x3 xl;go_wp2_with fail;exact⟨.inr ⟨rfl,_,HX.o,rfl,HF.o,Wr.o⟩,by simp[intOf]⟩
  ·have HM:=O hM;have HN:=O hN;have HF:=O hF;have HD:=O hd;clear hM hN hF hd;go_wp2_with fail;go_ret;exact⟨gb,a,rfl,HM.o,HD.o,HF.o,HN.o⟩
