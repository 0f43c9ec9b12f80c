import Derived.Lib.AtoiAll
import Derived.Lib.ItoaNum
import Derived.Lib.Hide
import Derived.WalkKit
import Derived.ProofKit
import Derived.Deep.Draws
import Derived.WalkLawsBesides
import Derived.WalkSpells
import Derived.Deep.QuietTactic
import Derived.BigQuiet
import Derived.Deep.AppendLies
import Derived.Laws.CopyOwn
import Derived.Lib.AppendZerosOnto
set_option linter.unusedVariables false
set_option linter.unusedSimpArgs false
set_option maxRecDepth 100000
set_option maxHeartbeats 0
open Go.Value renaming int→I,string→V,bool→Y,slice→T
open Go.IntKind renaming i64→J
open Option renaming none→U,some→G
open Go renaming World→aw,Calls→ax
open Go.Ending renaming returned→ay
open Go.Obj renaming cells→az
open List renaming length_append→aL,set_cons_succ→aK,set_cons_zero→aJ
open Nat renaming le_refl→aN,le_trans→aO,lt_of_lt_of_le→aP
namespace Go.Proofs.YtmaimjajdbgmiaaGreatDoor
open Go.Lib
def si(c:UInt8):Prop:=48<=c.toNat/\c.toNat<=57
instance(c:UInt8):Decidable (si c):=by unfold si;exact inferInstance
def nP(acc:Nat)(l:List UInt8):Nat:=l.foldl (λa c=>a*10+(c.toNat-48)) acc
theorem qL(acc:Nat)(c:UInt8)(l:List UInt8):nP acc (c::l)=nP (acc*10+(c.toNat-48)) l:=by
 unfold nP;rw[List.foldl_cons]
theorem wV(acc:Nat)(l:List UInt8)(c:UInt8):nP acc (l++[c])=nP acc l*10+(c.toNat-48):=by simp[nP]
theorem E0: ∀(l:List UInt8) (acc:Nat),acc<=nP acc l
 |[],acc=>aN _
 |c::l,acc=>by
  rw[qL];have:=E0 l (acc*10+(c.toNat-48));omega
theorem ik{d:Nat}(h:d<10):(UInt8.ofNat (48+d)).toNat=48+d:=by
 rw[UInt8.toNat_ofNat'];exact Nat.mod_eq_of_lt (by omega)
theorem oH{P:Nat->Prop}(h1: ∀u,u<10->P u)(h2: ∀u,¬u<10->P (u / 10)->P u): ∀u,P u:=λu=>by
 induction u using Nat.strongRecOn with
 |ind u ih=>
  by_cases h:u<10
  ·exact h1 u h
  ·exact h2 u h (ih _ (by omega))
theorem jN{u:Nat}(h:u<10):decDigits u=[UInt8.ofNat (48+u)]:=by rw[decDigits,dif_pos h]
theorem px{u:Nat}(h: ¬u<10):decDigits u=decDigits (u / 10)++[UInt8.ofNat (48+u%10)]:=by rw[decDigits,dif_neg h]
theorem jg: ∀u,nP 0 (decDigits u)=u:=oH
 (λu h=>by rw[jN h];simp only[nP,List.foldl];rw[ik h];omega)
 (λu h ih=>by rw[px h,wV,ih,ik (by omega)];omega)
theorem py: ∀u,∀c∈decDigits u,si c:=oH
 (λu h c hc=>by
   rw[jN h,List.mem_singleton]at hc;subst hc;unfold si;rw[ik h];omega)
 (λu h ih c hc=>by
   rw[px h,List.mem_append,List.mem_singleton]at hc;rcases hc with hc|hc
   ·exact ih c hc
   ·subst hc;unfold si;rw[ik (by omega)];omega)
theorem O0: ∀u,0<(decDigits u).length:=oH
 (λu h=>by rw[jN h];simp) (λu h ih=>by rw[px h];simp)
theorem qM(u:Nat):decDigits u≠[]:=λh=>by have:=O0 u;rw[h]at this;simp at this
theorem nk{k:Nat}: ∀{u:Nat},u<10 ^ (k+1)->(decDigits u).length<=k+1:=by
 induction k with
 |zero=>intro u h;rw[jN (by simpa using h)];simp
 |succ k ih=>
  intro u h;by_cases Oi:u<10
  ·rw[jN Oi];simp
  ·rw[px Oi,aL];have:=ih (u:=u / 10) (by rw[Nat.pow_succ]at h;omega);simp;omega
theorem fE{n:Int}(h: ¬n<0):itoa n=decDigits n.toNat:=by unfold itoa;rw[if_neg h]
theorem eR{n:Int}(h:n<0):itoa n=45::decDigits n.natAbs:=by unfold itoa;rw[if_pos h]
theorem kL{u:Nat}{c:UInt8}{r:List UInt8}(h:decDigits u=c::r):si c:=py u c (by rw[h];simp)
theorem yr{c:UInt8}(h:si c): ¬(c.toNat=43\/c.toNat=45):=by unfold si at h;omega
theorem JY{n m:Int}(h:itoa n=itoa m):n=m:=by
 have hd: ∀(u v:Nat),decDigits u=decDigits v->u=v:=λu v e=>by rw[<-jg u, <-jg v,e]
 by_cases hn:n<0<;>by_cases hm:m<0
 ·rw[eR hn,eR hm]at h;injection h with _ h;have:=hd _ _ h;omega
 ·rw[eR hn,fE hm]at h;have:=kL h.symm;unfold si at this;simp at this
 ·rw[fE hn,eR hm]at h;have:=kL h;unfold si at this;simp at this
 ·rw[fE hn,fE hm]at h;have:=hd _ _ h;omega
theorem tZ: ∀(l:List UInt8) (acc:Nat),(∀c∈l,si c)->nP acc l<18446744073709551616->parseUint10 acc l= .ok (nP acc l)
 |[],acc,_,_=>rfl
 |c::r,acc,h,hv=>by
  have hc:=h c (by simp);unfold si at hc;rw[qL]at hv⊢;have Oj:=E0 r (acc*10+(c.toNat-48));unfold parseUint10;rw[if_pos hc,if_neg (by omega),if_neg (by omega)];exact tZ r _ (λx hx=>h x (by simp[hx])) hv
theorem wW{n:Int}(h0: -9223372036854775808<=n)(h1:n<=9223372036854775807):atoiAll (itoa n)= .ok n:=by
 by_cases hn:n<0
 ·rw[eR hn];have hp:parseMag (decDigits n.natAbs)= .ok n.natAbs:=by
   unfold parseMag;rw[if_neg (qM _),tZ _ _ (py _) (by rw[jg];omega),jg]
  unfold atoiAll;simp only[show(45:UInt8).toNat=45 from rfl,or_true,if_true,hp];simp;rw[if_neg (by omega)];congr 1
  omega
 ·rw[fE hn];rcases hd:decDigits n.toNat with _|⟨c,r⟩
  ·exact absurd hd (qM _)
  ·have hc:=kL hd;have hp:parseMag (c::r)= .ok n.toNat:=by
    unfold parseMag;rw[<-hd,if_neg (qM _),tZ _ _ (py _) (by rw[jg];omega),jg]
   unfold atoiAll;have h45: ¬c.toNat=45:=λe=>yr hc (.inr e);dsimp only;rw[if_neg (yr hc),hp];dsimp only;rw[if_neg (λh=>by omega),if_neg (λh=>h45 h.1),if_neg h45];congr 1
   omega
def maxN:Int:=1125899906842624
def kM(s:List UInt8)(v:Int):Prop:=(-1125899906842624<=v/\v<=1125899906842624/\itoa v=s)\/(v=0/\∀n:Int, -1125899906842624<=n->n<=1125899906842624->itoa n≠s)
theorem kM.unique{s:List UInt8}{v w:Int}(h:kM s v)(h':kM s w):v=w:=by
 rcases h with⟨a,b,c⟩|⟨a,b⟩<;>rcases h' with⟨d,e,f⟩|⟨d,e⟩
 ·exact JY (c.trans f.symm)
 ·exact absurd c (e v a b)
 ·exact absurd f (b w d e)
 ·rw[a,d]
theorem kM.bound{s:List UInt8}{v:Int}(h:kM s v): -1125899906842624<=v/\v<=1125899906842624:=by
 rcases h with⟨a,b,c⟩|⟨a,b⟩<;>omega
noncomputable def numOf (s:List UInt8):Int:=by
 classical
 exact if h: ∃n:Int, -1125899906842624<=n/\n<=1125899906842624/\itoa n=s then h.choose else 0
theorem Ai(s:List UInt8):kM s (numOf s):=by
 unfold numOf;split
 ·rename_i h;exact .inl h.choose_spec
 ·rename_i h;exact .inr ⟨rfl,λn a b c=>h ⟨n,a,b,c⟩⟩
theorem mz{s:List UInt8}{v:Int}(h:kM s v):numOf s=v:=(Ai s).unique h
theorem C6{n:Int}(h0: -1125899906842624<=n)(h1:n<=1125899906842624):numOf (itoa n)=n:=mz (.inl ⟨h0,h1,rfl⟩)
theorem Aj(s:List UInt8): -1125899906842624<=numOf s/\numOf s<=1125899906842624:=(Ai s).bound
theorem Tx{s:List UInt8}{n:Int}(h:atoiAll s= .ok n):kM s (if itoa n=s/\ -1125899906842624<=n/\n<=1125899906842624 then n else 0):=by
 split
 ·rename_i hc;exact .inl ⟨hc.2.1,hc.2.2,hc.1⟩
 ·rename_i hc;refine .inr ⟨rfl,λm a b e=>hc ?_⟩;rw[<-e,wW (by omega) (by omega)]at h;injection h with h;subst h;exact⟨e,a,b⟩
theorem O1{s:List UInt8}(h: ∀n,atoiAll s≠.ok n):kM s 0:=
 .inr ⟨rfl,λm a b e=>h m (by rw[<-e];exact wW (by omega) (by omega))⟩
theorem JZ{n:Int}(h0: -9999999999999999<=n)(h1:n<=9999999999999999):(itoa n).length<=17:=by
 by_cases hn:n<0
 ·rw[eR hn,List.length_cons]
  have:=nk (k:=15) (u:=n.natAbs) (by have:(10:Nat) ^ (15+1)=10000000000000000:=by decide
                                     omega)
  omega
 ·rw[fE hn]
  have:=nk (k:=15) (u:=n.toNat) (by have:(10:Nat) ^ (15+1)=10000000000000000:=by decide
                                    omega)
  omega
theorem ua{n:Int}(h0: -9223372036854775808<=n)(h1:n<=9223372036854775807):(itoa n).length<=21:=by
 by_cases hn:n<0
 ·rw[eR hn,List.length_cons]
  have:=nk (k:=19) (u:=n.natAbs) (by have:(10:Nat) ^ (19+1)=100000000000000000000:=by decide
                                     omega)
  omega
 ·rw[fE hn]
  have:=nk (k:=19) (u:=n.toNat) (by have:(10:Nat) ^ (19+1)=100000000000000000000:=by decide
                                    omega)
  omega
def fF(s:List UInt8):List UInt8:=match s with
 |c::r=>if c.toNat=45 then r else s
 |[]=>[]
theorem lL{c:UInt8}{r:List UInt8}(h:si c):fF (c::r)=c::r:=by
 unfold fF;dsimp only;rw[if_neg (λe=>yr h (.inr e))]
theorem gL{s:List UInt8}(h:fF s=[]\/16<(fF s).length):kM s 0:=by
 refine .inr ⟨rfl,λn a b e=>?_⟩;subst e;by_cases hn:n<0
 ·rw[eR hn]at h;have hu:fF (45::decDigits n.natAbs)=decDigits n.natAbs:=rfl;rw[hu]at h
  have:=nk (k:=15) (u:=n.natAbs) (by have:(10:Nat) ^ (15+1)=10000000000000000:=by decide
                                     omega)
  rcases h with h|h
  ·exact qM _ h
  ·omega
 ·rw[fE hn]at h;have hu:fF (decDigits n.toNat)=decDigits n.toNat:=by
   rcases hd:decDigits n.toNat with _|⟨c,r⟩
   ·rfl
   ·exact lL (kL hd)
  rw[hu]at h
  have:=nk (k:=15) (u:=n.toNat) (by have:(10:Nat) ^ (15+1)=10000000000000000:=by decide
                                    omega)
  rcases h with h|h
  ·exact qM _ h
  ·omega
theorem Ak(n:Int): ∀c∈fF (itoa n),si c:=by
 by_cases hn:n<0
 ·rw[eR hn];exact py _
 ·rw[fE hn];rcases hd:decDigits n.toNat with _|⟨c,r⟩
  ·exact absurd hd (qM _)
  ·rw[lL (kL hd), <-hd];exact py _
theorem sq{s:List UInt8}{c:UInt8}(hc:c∈fF s)(h: ¬si c):kM s 0:=
 .inr ⟨rfl,λn a b e=>h (Ak n c (by rw[e];exact hc))⟩
def spell(s:List UInt8):Int:=if(fF s).length<s.length then-(nP 0 (fF s):Int)else nP 0 (fF s)
theorem C7(n:Int):spell (itoa n)=n:=by
 unfold spell;by_cases hn:n<0
 ·rw[eR hn];have hu:fF (45::decDigits n.natAbs)=decDigits n.natAbs:=rfl;rw[hu,if_pos (by simp),jg];omega
 ·rw[fE hn];have hu:fF (decDigits n.toNat)=decDigits n.toNat:=by
   rcases hd:decDigits n.toNat with _|⟨c,r⟩
   ·rfl
   ·exact lL (kL hd)
  rw[hu,if_neg (by omega),jg];omega
theorem E5(s:List UInt8):kM s (if-1125899906842624<=spell s/\spell s<=1125899906842624/\itoa (spell s)=s then spell s else 0):=by
 split
 ·rename_i h;exact .inl h
 ·rename_i h;refine .inr ⟨rfl,λn a b e=>h ?_⟩;subst e;rw[C7];exact⟨a,b,rfl⟩
theorem ub: ∀(l:List UInt8) (acc k:Nat),(∀c∈l,si c)->acc<10 ^ k->nP acc l<10 ^ (k+l.length)
 |[],acc,k,_,h=>by simpa [nP]using h
 |c::r,acc,k,h,ha=>by
  have hc:=h c (by simp);unfold si at hc;rw[qL,List.length_cons,show k+(r.length+1)=(k+1)+r.length by omega];exact ub r _ (k+1) (λx hx=>h x (by simp[hx])) (by rw[Nat.pow_succ];omega)
end Go.Proofs.YtmaimjajdbgmiaaGreatDoor
namespace Go.Proofs.YtmaimjajdbgmiaaGreatDoor
section
def aD(p:Prop):Prop:=p
theorem O{p:Prop}(h:p):aD p:=h
theorem aD.o{p:Prop}(h:aD p):p:=h
open Go.RowKit
def aX(w:aw)(g:Nat)(t:TypeId)(cs:Array Value):Prop:=w.heap[g]?=G (az cs t (0,0))
section
variable{w w':aw}{g:Nat}{t:TypeId}{cs:Array Value}
theorem aX.lt(h:aX w g t cs):g<w.heap.size:=by
 rcases Nat.lt_or_ge g w.heap.size with hlt|Oj
 ·exact hlt
 ·unfold aX at h;rw[Array.getElem?_eq_none Oj]at h;cases h
theorem aX.cell(h:aX w g t cs)(i:Nat):w.cell? ⟨g,i,U⟩=cs[i]?:=cell_of_row w g i cs t (0,0) h
theorem aX.frozen(h:aX w g t cs)(i:Nat):w.frozen? ⟨g,i,U⟩=false:=by
 unfold aX at h;simp[World.frozen?,h]
theorem aX.new(w:aw)(t:TypeId)(cs:Array Value):aX (w.alloc (az cs t)) w.heap.size t cs:=heap_alloc_new w _
theorem aX.drew(h:aX w g t cs):aX w.drew g t cs:=h
theorem aX.drewN(h:aX w g t cs)(n:Nat):aX (w.drewN n) g t cs:=h
theorem aX.alloc(h:aX w g t cs)(o:Obj):aX (w.alloc o) g t cs:=(Below.heap_alloc w o g h.lt).trans h
theorem aX.bm(h:aX w g t cs)(i:Nat)(u:Value):aX (w.setCell ⟨g,i,U⟩ u) g t (cs.setIfInBounds i u):=by
 unfold aX at h⊢;simp[World.setCell,Array.getElem?_modify,h]
theorem aX.cv(h:aX w g t cs){p:Addr}(hp:g≠p.block)(u:Value):aX (w.setCell p u) g t cs:=(Below.heap_setCell w p u g hp).trans h
theorem aX.grown{row:Option Nat}(h:aX w g t cs)(hb:w.grownBy w' row)(hg:G g≠row):aX w' g t cs:=(hb.block g h.lt hg).trans h
theorem aX.lF{g':Nat}{t':TypeId}{E6:Array Value}(h:aX w g t cs)(h':aX w g' t' E6)(eQ:t≠t'):g≠g':=by
 rintro rfl;unfold aX at h h';rw[h]at h';injection h' with h';injection h' with _ ht;exact eQ ht
theorem aV{base:Nat}{e:TypeId}{size n:Nat}{v:Value}{xs:List Value}(h:w.ownsRow base e size v n xs)(hg:aX w g t cs)(eQ:e≠t):v.ownBlock≠G g:=by
 rcases h.2 with⟨rfl,_⟩|⟨g',cap,cur,rfl,_,hh,_⟩
 ·simp[Value.ownBlock]
 ·intro he;have:g'=g:=by simpa [Value.ownBlock]using he
  subst this;exact aX.lF (t:=e) hh hg eQ rfl
end
structure Ch(S:Nat->Prop)(w w':aw):Prop where
 os:w'.os=w.os
 tape:w'.tape=w.tape
 output:w'.output=w.output
 size:w.heap.size<=w'.heap.size
 block: ∀k,k<w.heap.size->¬S k->w'.heap[k]?=w.heap[k]?
section
variable{S au:Nat->Prop}{w w' eZ:aw}
theorem Ch.r(S:Nat->Prop)(w:aw):Ch S w w:=⟨rfl,rfl,rfl,aN _,λ_ _ _=>rfl⟩
theorem Ch.mono(h:Ch S w w')(O2: ∀k,S k->au k):Ch au w w':=⟨h.os,h.tape,h.output,h.size,λk hk hn=>h.block k hk (λhs=>hn (O2 k hs))⟩
theorem Ch.trans(h:Ch S w w')(h':Ch au w' eZ)(hT: ∀k,au k->S k\/w.heap.size<=k):Ch S w eZ:=
 ⟨h'.os.trans h.os,h'.tape.trans h.tape,h'.output.trans h.output,aO h.size h'.size,λk hk hn=>
   (h'.block k (aP hk h.size) (λht=>(hT k ht).elim hn (by omega))).trans (h.block k hk hn)⟩
theorem Ch.trans'(h:Ch S w w')(h':Ch S w' eZ):Ch S w eZ:=h.trans h' λ_ h=>.inl h
theorem Ch.drew(h:Ch S w w'):Ch S w w'.drew:=⟨h.os,h.tape,h.output,h.size,h.block⟩
theorem Ch.drewN(h:Ch S w w')(n:Nat):Ch S w (w'.drewN n):=⟨h.os,h.tape,h.output,h.size,h.block⟩
theorem Ch.alloc(h:Ch S w w')(o:Obj):Ch S w (w'.alloc o):=
 ⟨h.os,h.tape,h.output,aO h.size (by simp),λk hk hn=>(Below.heap_alloc w' o k (aP hk h.size)).trans (h.block k hk hn)⟩
theorem Ch.setCell(h:Ch S w w'){p:Addr}(hp:S p.block\/w.heap.size<=p.block)(u:Value):Ch S w (w'.setCell p u):=
 ⟨h.os,h.tape,h.output,by simpa [World.setCell]using h.size,λk hk hn=>(Below.heap_setCell w' p u k (by
   rintro rfl;exact hp.elim hn (by omega))).trans (h.block k hk hn)⟩
theorem Ch.bF{row:Option Nat}(h:w.grownBy w' row):Ch (λk=>row=G k) w w':=
 ⟨h.os,h.tape,h.output,h.size,λk hk hn=>h.block k hk (λe=>hn e.symm)⟩
theorem Ch.grown{row:Option Nat}(h:Ch S w w')(hg:w'.grownBy eZ row)(hr: ∀k,row=G k->S k\/w.heap.size<=k):Ch S w eZ:=h.trans (Ch.bF hg) hr
theorem Ch.mA{B:Nat}(h:Below B w w')(hB: ∀k,k<w.heap.size->¬S k->k<B):Ch S w w':=⟨h.os,h.tape,h.output,h.size,λk hk hn=>h.block k (hB k hk hn)⟩
theorem Ch.below{B:Nat}{a:aw}(hb:Below B a w)(h:Ch S w w')(hS: ∀k,S k->B<=k)(hB:B<=w.heap.size):Below B a w':=
 hb.trans ⟨h.os,h.tape,h.output,h.size,λk hk=>h.block k (by omega) (λhs=>by have:=hS k hs;omega)⟩
theorem Ch.kN{B:Nat}(h:Ch S w w')(hS: ∀k,S k->B<=k)(hB:B<=w.heap.size):Below B w w':=Ch.below (Below.refl _ _) h hS hB
theorem aX.ch{g:Nat}{t:TypeId}{cs:Array Value}(h:aX w g t cs)(hc:Ch S w w')(hg: ¬S g):aX w' g t cs:=(hc.block g h.lt hg).trans h
theorem bg{base:Nat}{e:TypeId}{size n:Nat}{v:Value}{xs:List Value}(h:w.ownsRow base e size v n xs)(hc:Ch S w w')(hS: ∀k,v.ownBlock=G k->¬S k):w'.ownsRow base e size v n xs:=by
 refine⟨h.1,?_⟩;rcases h.2 with h2|⟨g,cap,cur,rfl,hg,hh,r⟩
 ·exact .inl h2
 ·exact .inr ⟨g,cap,cur,rfl,hg,(hc.block g (aX.lt (t:=e) hh) (hS g (by simp[Value.ownBlock]))).trans hh,r⟩
end
theorem bz{w:aw}{base:Nat}{e:TypeId}{size n:Nat}{v:Value}{xs:List Value}(h:w.ownsRow base e size v n xs): ∃A c,v=T A n c:=by
 rcases h.2 with⟨rfl,rfl⟩|⟨g,cap,cur,rfl,_⟩
 ·exact⟨_,_,rfl⟩
 ·exact⟨_,_,rfl⟩
theorem yt(a:Addr)(n:Nat):(a.add n).block=a.block:=by unfold Addr.add;split<;>rfl
def Reads(w:aw)(B size:Nat)(A:Option Addr)(n:Nat)(xs:List Value):Prop:=
 xs.length=n*size/\(0<n->∃ad,A=G ad/\ad.block<B/\∀j u,xs[j]?=G u->w.cell? (ad.add j)=G u)
section
variable{w w':aw}{B B' size n:Nat}{A:Option Addr}{xs:List Value}
theorem Reads.keep(h:Reads w B size A n xs)(hk: ∀p:Addr,p.block<B->w'.cell? p=w.cell? p):Reads w' B size A n xs:=
 ⟨h.1,λhn=>by
   obtain⟨ad,e,hb,hc⟩:=h.2 hn;exact⟨ad,e,hb,λj u hu=>(hk _ (by rw[yt];exact hb)).trans (hc j u hu)⟩⟩
theorem Reads.alloc(h:Reads w B size A n xs)(hB:B<=w.heap.size)(o:Obj):Reads (w.alloc o) B size A n xs:=h.keep λp hp=>World.cell?_alloc_lt w o p (by omega)
theorem Reads.qN{base:Nat}{e:TypeId}{c:Nat}(h:w.ownsRow base e size (T A n c) n xs):Reads w w.heap.size size A n xs:=by
 refine⟨h.1,λhn=>?_⟩;obtain⟨g,cap,hv,_,hlt⟩:=h.form hn;have hA:A=G ⟨g,0,U⟩:=by injection hv
 subst hA;exact⟨_,rfl,hlt,h.cells (g:=g) rfl⟩
end
theorem cD(w:aw)(t:TypeId)(cs:Array Value)(n size:Nat)(h:cs.size=n*size):Reads (w.alloc (az cs t)) (w.heap.size+1) size (G ⟨w.heap.size,0,U⟩) n cs.toList:=by
 refine⟨by simpa using h,λ_=>⟨_,rfl,by simp,λj u hu=>?_⟩⟩;have h1:=(aX.new w t cs).cell j;have h2:(⟨w.heap.size,0,U⟩:Addr).add j=⟨w.heap.size,j,U⟩:=by unfold Addr.add;split<;>simp_all
 rw[h2,h1];simpa using hu
section
variable{P:Program}(w:aw)
theorem pz(base:Nat)(t ty e:TypeId)(i:TypeInfo)(size:Nat)(ht:P.underlying t=G (.slice e))(hi:P.info? e=G i)
 (v:Value) (n:Nat) (xs:List Value) (cU:w.ownsRow base e size v n xs) (c:Nat):(Builtin.append_ #[t,t] ty #[v,T U 0 c]).run P w= .ok v w:=by
 rcases cU.2 with⟨rfl,rfl⟩|⟨g,cap,cur,rfl,_,_,tD,_⟩
 ·simp[Builtin.append_,run_underlying ht,sizeOf,typeInfo,hi,Builtin.lenOf,Builtin.firstCells]
 ·simp[Builtin.append_,run_underlying ht,sizeOf,typeInfo,hi,Builtin.lenOf,Builtin.firstCells,tD,storeCells]
theorem ud(base:Nat)(t ty e:TypeId)(i:TypeInfo)(z:Value)(size bytes:Nat)(ht:P.underlying t=G (.slice e))(hi:P.info? e=G i)(hz:i.zero=G z)
 (ue:i.size=size) (CG:i.bytes=bytes) (fY:z.cells.size=size) (jh:0<size)
 (v:Value) (n:Nat) (xs:List Value) (cU:w.ownsRow base e size v n xs)
 (B:Nat) (A:Option Addr) (m c:Nat) (news:List Value) (hr:Reads w B size A m news) (h1: ∀u∈news,u.oneCell'=true)
 (Ol:n+m<=maxLen) (lM:(n+m)*bytes<=140737488355328) (ug:base<=w.heap.size):
 ∃v' w',(Builtin.append_ #[t,t] ty #[v,T A m c]).run P w= .ok v' w'/\w'.ownsRow base e size v' (n+m) (xs++news)/\w.grownBy w' v.ownBlock/\
  (v'.ownBlock=v.ownBlock\/v'.ownBlock=G w.heap.size):=by
 rcases A with _|ad
 ·have hm:m=0:=by
   rcases Nat.eq_zero_or_pos m with h0|h0
   ·exact h0
   ·obtain⟨ad,h,_⟩:=hr.2 h0;cases h
  subst hm;have hn:news=[]:=List.eq_nil_of_length_eq_zero (by simpa using hr.1);subst hn;exact⟨v,w,pz w base t ty e i size ht hi v n xs cU c,by simpa using cU,World.grownBy.refl w _,.inl rfl⟩
 ·have Ty: ∀j u,news[j]?=G u->w.cell? (ad.add j)=G u:=by
   intro j u hu;rcases Nat.eq_zero_or_pos m with h0|h0
   ·subst h0;have hn:news=[]:=List.eq_nil_of_length_eq_zero (by simpa using hr.1);subst hn;simp at hu
   ·obtain⟨ad',h,_,hc⟩:=hr.2 h0;injection h with h;subst h;exact hc j u hu
  obtain⟨v',w',kA,h2,h3,_,h5⟩:=run_append_own_at (P:=P) w base t ty e i z size bytes ht hi hz ue CG fY jh v n xs cU ad m c news hr.1 Ty h1 Ol lM ug;exact⟨v',w',kA,h2,h3,h5⟩
theorem oh{o:Oper}{a:Act}{K:Act->aw->Prop}{Q:Exit->Act->aw->Prop}(s x:Operand)(t:TypeId)
 (ho:o.op= .call {callee:=.builtin .append,args:=#[s,x],argTypes:=#[t,t]})
 (base:Nat) (e:TypeId) (i:TypeInfo) (z:Value) (size bytes:Nat) (ht:P.underlying t=G (.slice e)) (hi:P.info? e=G i) (hz:i.zero=G z)
 (ue:i.size=size) (CG:i.bytes=bytes) (fY:z.cells.size=size) (jh:0<size)
 (v:Value) (n:Nat) (xs:List Value) (hs:a.eval s=v) (cU:w.ownsRow base e size v n xs)
 (B:Nat) (A:Option Addr) (m c:Nat) (news:List Value) (hx:a.eval x=T A m c) (hr:Reads w B size A m news) (h1: ∀u∈news,u.oneCell'=true)
 (Ol:n+m<=maxLen) (lM:(n+m)*bytes<=140737488355328) (ug:base<=w.heap.size)
 (h: ∀v' w',w'.ownsRow base e size v' (n+m) (xs++news)->w.grownBy w' v.ownBlock->(v'.ownBlock=v.ownBlock\/v'.ownBlock=G w.heap.size)->K (a.put o.dst v') w'):o.wp P a w K Q:=by
 obtain⟨v',w',kA,h2,h3,h4⟩:=ud (P:=P) w base t o.type e i z size bytes ht hi hz ue CG fY jh v n xs cU B A m c news hr h1 Ol lM ug;unfold Oper.wp execOp;simp only[ho,resolve,invoke,builtin,Sem.run_bind,Sem.run_pure,Result.andThen_ok,List.map_toArray,List.map_cons,List.map_nil,hs,hx,kA];exact h v' w' h2 h3 h4
theorem bp{ops:Array Oper}{rest:List Oper}{o:Oper}{a:Act}{Q:Exit->Act->aw->Prop}(C8:o.guard=U)(s x:Operand)(t:TypeId)
 (ho:o.op= .call {callee:=.builtin .append,args:=#[s,x],argTypes:=#[t,t]})
 (base:Nat) (e:TypeId) (i:TypeInfo) (z:Value) (size bytes:Nat) (ht:P.underlying t=G (.slice e)) (hi:P.info? e=G i) (hz:i.zero=G z)
 (ue:i.size=size) (CG:i.bytes=bytes) (fY:z.cells.size=size) (jh:0<size)
 (v:Value) (n:Nat) (xs:List Value) (hs:a.eval s=v) (cU:w.ownsRow base e size v n xs)
 (B:Nat) (A:Option Addr) (m c:Nat) (news:List Value) (hx:a.eval x=T A m c) (hr:Reads w B size A m news) (h1: ∀u∈news,u.oneCell'=true)
 (Ol:n+m<=maxLen) (lM:(n+m)*bytes<=140737488355328) (ug:base<=w.heap.size)
 (h: ∀v' w',w'.ownsRow base e size v' (n+m) (xs++news)->w.grownBy w' v.ownBlock->(v'.ownBlock=v.ownBlock\/v'.ownBlock=G w.heap.size)->wpList P ops Q rest (a.put o.dst v') w'):wpList P ops Q (o::rest) a w:=
 wpList_plain C8 λ_ hK=>oh w s x t ho base e i z size bytes ht hi hz ue CG fY jh v n xs hs cU B A m c news hx hr h1 Ol lM ug λv' w' h2 h3 h4=>hK _ _ (h v' w' h2 h3 h4)
theorem bL{ops:Array Oper}{o:Oper}{a:Act}{K:Act->aw->Prop}{Q:Exit->Act->aw->Prop}{E:Prop}(C8:o.guard=U)(s x:Operand)(t:TypeId)
 (ho:o.op= .call {callee:=.builtin .append,args:=#[s,x],argTypes:=#[t,t]})
 (base:Nat) (e:TypeId) (i:TypeInfo) (z:Value) (size bytes:Nat) (ht:P.underlying t=G (.slice e)) (hi:P.info? e=G i) (hz:i.zero=G z)
 (ue:i.size=size) (CG:i.bytes=bytes) (fY:z.cells.size=size) (jh:0<size)
 (v:Value) (n:Nat) (xs:List Value) (hs:a.eval s=v) (cU:w.ownsRow base e size v n xs)
 (B:Nat) (A:Option Addr) (m c:Nat) (news:List Value) (hx:a.eval x=T A m c) (hr:Reads w B size A m news) (h1: ∀u∈news,u.oneCell'=true)
 (Ol:n+m<=maxLen) (lM:(n+m)*bytes<=140737488355328) (ug:base<=w.heap.size)
 (h: ∀v' w',w'.ownsRow base e size v' (n+m) (xs++news)->w.grownBy w' v.ownBlock->(v'.ownBlock=v.ownBlock\/v'.ownBlock=G w.heap.size)->K (a.put o.dst v') w'):
 if Region.wanted o (yielded ops a.tmps)=true then Oper.wp P o a w K Q else E:=by
 have hw:Region.wanted o (yielded ops a.tmps)=true:=by simp[Region.wanted,C8]
 rw[if_pos hw];exact oh w s x t ho base e i z size bytes ht hi hz ue CG fY jh v n xs hs cU B A m c news hx hr h1 Ol lM ug h
end
theorem oI{P:Program}{f:FuncId}{args:Array Value}{w:aw}{n:Nat}{v:Value}
 (h:ax P f args (w.drewN n) λe w'=>e=ay v/\w.drewN n=w'):ax P f args (w.drewN n) λe eZ=>e=ay v/\∃m,eZ=w.drewN m:=
 h.mono λ_ _ ⟨he,hm⟩=>⟨he,n,hm.symm⟩
theorem aX.c{w:aw}{g:Nat}{t:TypeId}{cs:Array Value}(h:aX w g t cs)(i:Nat):w.cell? ⟨g,i,U⟩=cs[i]?:=aX.cell h i
theorem Ch.t{S:Nat->Prop}{w1 w2 w3:aw}(h:Ch S w1 w2)(h2:Ch S w2 w3):Ch S w1 w3:=Ch.trans' h h2
theorem vS{w:aw}{g:Nat}{t:TypeId}{cs:Array Value}(h:aX w g t cs):w.cell? ⟨g,0,U⟩=cs[0]?/\w.cell? ⟨g,1,U⟩=cs[1]?:=⟨aX.cell h 0,aX.cell h 1⟩
theorem O3{w:aw}{g:Nat}{t:TypeId}{cs:Array Value}(h:aX w g t cs):w.cell? ⟨g,0,U⟩=cs[0]?/\w.cell? ⟨g,1,U⟩=cs[1]?/\w.cell? ⟨g,2,U⟩=cs[2]?:=⟨aX.cell h 0,aX.cell h 1,aX.cell h 2⟩
theorem eW{w:aw}{g:Nat}{t:TypeId}{cs:Array Value}(h:aX w g t cs):w.cell? ⟨g,0,U⟩=cs[0]?/\w.cell? ⟨g,1,U⟩=cs[1]?/\w.cell? ⟨g,2,U⟩=cs[2]?/\w.cell? ⟨g,3,U⟩=cs[3]?:=⟨aX.cell h 0,aX.cell h 1,aX.cell h 2,aX.cell h 3⟩
theorem iP{w:aw}{g:Nat}{t:TypeId}{cs:Array Value}(h:aX w g t cs):w.cell? ⟨g,0,U⟩=cs[0]?/\w.cell? ⟨g,1,U⟩=cs[1]?/\w.cell? ⟨g,2,U⟩=cs[2]?/\w.cell? ⟨g,3,U⟩=cs[3]?/\w.cell? ⟨g,4,U⟩=cs[4]?:=⟨aX.cell h 0,aX.cell h 1,aX.cell h 2,aX.cell h 3,aX.cell h 4⟩
theorem c8_{w:aw}{g:Nat}{t:TypeId}{cs:Array Value}(h:aX w g t cs):w.cell? ⟨g,0,U⟩=cs[0]?/\w.cell? ⟨g,1,U⟩=cs[1]?/\w.cell? ⟨g,2,U⟩=cs[2]?/\w.cell? ⟨g,3,U⟩=cs[3]?/\w.cell? ⟨g,4,U⟩=cs[4]?/\w.cell? ⟨g,5,U⟩=cs[5]?/\w.cell? ⟨g,6,U⟩=cs[6]?/\w.cell? ⟨g,7,U⟩=cs[7]?:=⟨aX.cell h 0,aX.cell h 1,aX.cell h 2,aX.cell h 3,aX.cell h 4,aX.cell h 5,aX.cell h 6,aX.cell h 7⟩
theorem kq{w:aw}{g:Nat}{t:TypeId}{cs:Array Value}(h:aX w g t cs):w.cell? ⟨g,0,U⟩=cs[0]?/\w.cell? ⟨g,1,U⟩=cs[1]?/\w.cell? ⟨g,2,U⟩=cs[2]?/\w.cell? ⟨g,3,U⟩=cs[3]?/\w.cell? ⟨g,4,U⟩=cs[4]?/\w.cell? ⟨g,5,U⟩=cs[5]?/\w.cell? ⟨g,6,U⟩=cs[6]?/\w.cell? ⟨g,7,U⟩=cs[7]?/\w.cell? ⟨g,8,U⟩=cs[8]?:=⟨aX.cell h 0,aX.cell h 1,aX.cell h 2,aX.cell h 3,aX.cell h 4,aX.cell h 5,aX.cell h 6,aX.cell h 7,aX.cell h 8⟩
end
end Go.Proofs.YtmaimjajdbgmiaaGreatDoor
namespace Go.Proofs.YtmaimjajdbgmiaaGreatDoor
open Go.RowKit
section
variable{α β:Type}{f:α->List β}{m:Nat}
theorem pB{L:List α}(h: ∀x∈L,(f x).length=m):(L.flatMap f).length=L.length*m:=by
 induction L with
 |nil=>simp
 |cons x r ih=>
  rw[List.flatMap_cons,aL,h x (by simp),ih (λy hy=>h y (by simp[hy])),List.length_cons,Nat.add_mul,Nat.one_mul,Nat.add_comm]
theorem eI{L:List α}(h: ∀x∈L,(f x).length=m){i j:Nat}{x:α}(hx:L[i]?=G x)(hj:j<m):(L.flatMap f)[i*m+j]?=(f x)[j]?:=by
 induction L generalizing i with
 |nil=>simp at hx
 |cons y r ih=>
  rw[List.flatMap_cons];have hy:=h y (by simp);cases i with
  |zero=>
   simp only[List.getElem?_cons_zero,Option.some.injEq]at hx;subst hx;rw[Nat.zero_mul,Nat.zero_add,List.getElem?_append_left (by omega)]
  |succ i=>
   simp only[List.getElem?_cons_succ]at hx;rw[List.getElem?_append_right (by rw[hy,Nat.add_mul];omega),hy,show(i+1)*m+j-m=i*m+j by rw[Nat.add_mul];omega];exact ih (λz hz=>h z (by simp[hz])) hx
theorem pC{L:List α}(h: ∀x∈L,(f x).length=m){i j:Nat}{x x':α}{u:β}(hx:L[i]?=G x)(hj:j<m)(hu:f x'=(f x).set j u):(L.flatMap f).set (i*m+j) u=(L.set i x').flatMap f:=by
 induction L generalizing i with
 |nil=>simp at hx
 |cons y r ih=>
  have hy:=h y (by simp);cases i with
  |zero=>
   simp only[List.getElem?_cons_zero,Option.some.injEq]at hx;subst hx;rw[Nat.zero_mul,Nat.zero_add,aJ,List.flatMap_cons,List.flatMap_cons,List.set_append_left _ _ (by omega),hu]
  |succ i=>
   simp only[List.getElem?_cons_succ]at hx;rw[aK,List.flatMap_cons,List.flatMap_cons,List.set_append_right _ _ (by rw[hy,Nat.add_mul];omega),hy,show(i+1)*m+j-m=i*m+j by rw[Nat.add_mul];omega,ih (λz hz=>h z (by simp[hz])) hx]
end
theorem bh{α:Type}{L:List α}{i:Nat}(h:i<L.length): ∃x,L[i]?=G x:=⟨L[i],List.getElem?_eq_getElem h⟩
theorem bf{α:Type}{L:List α}{i:Nat}{x:α}(h:L[i]?=G x):i<L.length:=by
 rcases Nat.lt_or_ge i L.length with h'|h'
 ·exact h'
 ·rw[List.getElem?_eq_none h']at h;cases h
theorem bS{α:Type}{L:List α}{i:Nat}{x:α}(h:L[i]?=G x):x∈L:=List.mem_of_getElem? h
theorem fi{w:aw}{base:Nat}{e:TypeId}{size n:Nat}{v:Value}{xs:List Value}(h:w.ownsRow base e size v n xs){a:Addr}(ha:v.ownBlock≠G a.block)(u:Value):(w.setCell a u).ownsRow base e size v n xs:=ownsRow_setCell_other h ha u
theorem ef{w:aw}{base:Nat}{e:TypeId}{size g n cap:Nat}{xs:List Value}(h:w.ownsRow base e size (T (G ⟨g,0,U⟩) n cap) n xs): ∃cur,aX w g e cur:=by
 rcases h.2 with⟨h1,_⟩|⟨g',C9,cur,h1,_,hh,_⟩
 ·cases h1
 ·injection h1 with h1;injection h1 with h1;injection h1 with h1;subst h1;exact⟨cur,hh⟩
end Go.Proofs.YtmaimjajdbgmiaaGreatDoor
namespace Go.Proofs.YtmaimjajdbgmiaaGreatDoor
open Go.Lib Go.RowKit
abbrev Zz:=List UInt8
structure nu where
 k:Int
 key:ByteArray
 val:ByteArray
 n:Int
abbrev kB:=Option ByteArray
def emp:ByteArray:=⟨#[]⟩
def mkT(l:Zz):ByteArray:=⟨l.toArray⟩
def eP(r:kB):ByteArray:=r.getD emp
def fB(r:kB):Bool:=r.isSome
theorem J0:eP U=emp:=rfl
def dN(n:Int):Int:=min (max n (-1125899906842624)) 1125899906842624
theorem mC(n:Int): -1125899906842624<=dN n/\dN n<=1125899906842624:=by unfold dN;omega
def qO(n:Int):ByteArray:=mkT (itoa n)
theorem ji(n:Int):(qO n).data.toList=itoa n:=by simp[qO,mkT]
noncomputable def lN (s:ByteArray):Int:=numOf s.data.toList
theorem Da(s:ByteArray): -1125899906842624<=lN s/\lN s<=1125899906842624:=Aj _
noncomputable def sumOf (o:nu) (has:kB):Int:=dN (lN (eP has)+dN o.n)
noncomputable def jw (o:nu) (has last:kB):kB:=
 if o.k=2 then G o.val else if o.k=4 then last else if o.k=5 then G (qO (sumOf o has))else U
noncomputable def il (o:nu) (has last:kB):kB:=
 if o.k=5 then G (qO (sumOf o has))else if 1<=o.k/\o.k<=4 then has else U
def WX(o:nu):Bool:=decide (2<=o.k)&&decide (o.k<=5)
def okB(o:nu):Bool:=(o.k==6)||(((o.k==1)||(o.k==3)||(o.k==4)||((o.k==2)&&decide (o.val.size<=32))||((o.k==5)&&(decide (-1125899906842624<=o.n)&&decide (o.n<=1125899906842624))))&&(decide (0<o.key.size)&&decide (o.key.size<=16)))
def oJ(l:List nu):Int:=if 16<l.length then 4 else if l.all okB then 0 else 1
def Tz(l:List nu):Bool:=l.any (λo=>o.k==6)
abbrev Has:=Zz->kB
def qh1:Has:=λ_=>U
def qa1(f:Has)(k:Zz)(r:kB):Has:=λx=>if x=k then r else f x
structure Rs where
 f:Has
 last:kB
 o:List kB
noncomputable def WY (s:Rs) (o:nu):Rs:=
 ⟨if WX o then qa1 s.f o.key.data.toList (jw o (s.f o.key.data.toList) s.last)else s.f,il o (s.f o.key.data.toList) s.last,s.o++[il o (s.f o.key.data.toList) s.last]⟩
noncomputable def WZ (f:Has) (l:List nu):Rs:=l.foldl WY ⟨f,U,[]⟩
def Sh(l:List nu):Bool:=(oJ l==0)&& !Tz l
noncomputable def runO (f:Has) (l:List nu):List kB:=if Sh l then(WZ f l).o else []
noncomputable def runF (f:Has) (l:List nu):Has:=if Sh l then(WZ f l).f else f
theorem yu{a b:ByteArray}:a.toList=b.toList↔a=b:=by
 constructor
 ·intro h;rw[ByteArray.toList_eq,ByteArray.toList_eq]at h;cases a;cases b;simp at h;subst h;rfl
 ·rintro rfl;rfl
def Al(l:List nu):List Value:=l.flatMap λo=>[I J o.k,V o.key,V o.val,I J o.n]
def Si(l:List kB):List Value:=l.flatMap λr=>[V (eP r),Y (fB r)]
def W4(l:List (ByteArray×ByteArray)):List Value:=l.flatMap λw=>[V w.1,V w.2,Y true]
theorem GC{l:List nu}{i:Nat}{o:nu}(h:l[i]?=G o):(Al l)[i*4]?=G (I J o.k)/\(Al l)[i*4+1]?=G (V o.key)/\(Al l)[i*4+2]?=G (V o.val)/\(Al l)[i*4+3]?=G (I J o.n):=by
 have g:=λj hj=>eI (f:=λo:nu=>[I J o.k,V o.key,V o.val,I J o.n]) (m:=4) (λ_ _=>rfl) h (j:=j) hj;exact⟨g 0 (by omega),g 1 (by omega),g 2 (by omega),g 3 (by omega)⟩
def M(w w':aw):Prop:=Ch (λ_=>False) w w'
def Rd(w:aw)(A:Option Addr)(xs:List Value):Prop:=xs≠[]->∃b off,A=G ⟨b,off,U⟩/\b<w.heap.size/\∀i v,xs[i]?=G v->w.cell? ⟨b,off+i,U⟩=G v
section
variable{w w' w0:aw}{A:Option Addr}{xs:List Value}
theorem O4(h:M w w'){a:Addr}(ha:a.block<w.heap.size):w'.cell? a=w.cell? a:=World.cell?_of_block (h.block a.block ha (λh=>h))
theorem E7{b o:Nat}{s:Option Nat}{v:Value}(h:w.cell? ⟨b,o,s⟩=G v):b<w.heap.size:=by
 unfold World.cell? at h;split at h
 ·rename_i c e f hb;exact lt_of_block hb
 ·cases h
theorem eJ(h:M w w'){b o:Nat}{s:Option Nat}{v:Value}(ha:w.cell? ⟨b,o,s⟩=G v):w'.cell? ⟨b,o,s⟩=G v:=
 (O4 h (a:=⟨b,o,s⟩) (E7 ha)).trans ha
theorem Rd.aR(h:Rd w A xs)(hc:M w w'):Rd w' A xs:=λhn=>by
 obtain⟨b,off,hA,hb,mD⟩:=h hn;exact⟨b,off,hA,aP hb hc.size,λi v hv=>eJ hc (mD i v hv)⟩
theorem Rd.ch{S:Nat->Prop}(h:Rd w A xs)(hc:Ch S w w')(hS: ∀b off,A=G ⟨b,off,U⟩->¬S b):Rd w' A xs:=λhn=>by
 obtain⟨b,off,hA,hlt,mD⟩:=h hn;exact⟨b,off,hA,aP hlt hc.size,λi v hv=>(World.cell?_of_block (a:=⟨b,off+i,U⟩) (hc.block b hlt (hS b off hA))).trans (mD i v hv)⟩
theorem Rd.own{B:Nat}{e:TypeId}{size n c:Nat}(h:w.ownsRow B e size (T A n c) n xs):Rd w A xs:=λhn=>by
 have J1:0<n:=by
  have:=h.1;rcases Nat.eq_zero_or_pos n with h0|h0
  ·subst h0;exact absurd (List.eq_nil_of_length_eq_zero (by simpa using this)) hn
  ·exact h0
 obtain⟨g,cap,hv,_,hlt⟩:=h.form J1;injection hv with hA;subst hA;refine⟨g,0,rfl,hlt,λi v hv=>?_⟩;have:=h.cells (g:=g) rfl i v hv;have e:(⟨g,0,U⟩:Addr).add i=⟨g,0+i,U⟩:=by unfold Addr.add;split<;>simp_all
 rwa[e]at this
theorem fh{α:Type}{l:List α}{i:Nat}{x:α}(h:l[i]?=G x):l≠[]:=λe=>by rw[e]at h;simp at h
end
def J2(w:aw)(A:Option Addr)(n:Nat)(l:List nu):Prop:=l.length=n/\Rd w A (Al l)
def Ress(w:aw)(A:Option Addr)(n:Nat)(l:List kB):Prop:=l.length=n/\Rd w A (Si l)
def Wrs(w:aw)(A:Option Addr)(n:Nat)(l:List (ByteArray×ByteArray)):Prop:=l.length=n/\Rd w A (W4 l)
section
variable{w w' w0:aw}{A:Option Addr}{n:Nat}
theorem J2.aR{l:List nu}(h:J2 w A n l)(hc:M w w'):J2 w' A n l:=⟨h.1,h.2.aR hc⟩
theorem J2.at_{l:List nu}(h:J2 w A n l){i:Nat}{o:nu}(ho:l[i]?=G o): ∃b off,A=G ⟨b,off,U⟩/\w.cell? ⟨b,off+i*4,U⟩=G (I J o.k)/\w.cell? ⟨b,off+i*4+1,U⟩=G (V o.key)/\
 w.cell? ⟨b,off+i*4+2,U⟩=G (V o.val)/\w.cell? ⟨b,off+i*4+3,U⟩=G (I J o.n):=by
 obtain⟨a0,a1,a2,a3⟩:=GC ho;obtain⟨b,off,hA,_,hc⟩:=h.2 (fh a0);exact⟨b,off,hA,hc _ _ a0,by rw[Nat.add_assoc];exact hc _ _ a1,by rw[Nat.add_assoc];exact hc _ _ a2,by rw[Nat.add_assoc];exact hc _ _ a3⟩
end
theorem bG{α:Sort _}(x:α): ∃y,x=y:=⟨x,rfl⟩
theorem kb{w w1:aw}{o:Obj}(h:w.alloc o=w1):aD (M w w1):=O (h▸(Ch.r _ w).alloc _)
theorem fZ{w wz:aw}{c1 c2:Array Value}{t1 t2:TypeId}(h:(w.alloc (az c1 t1)).alloc (az c2 t2)=wz):aD (M w wz)/\aD (aX wz (w.heap.size+1) t2 c2):=⟨O (h▸((Ch.r _ w).alloc _).alloc _),O (by
 have:=aX.new (w.alloc (az c1 t1)) t2 c2;rw[World.size_alloc]at this;exact h▸this)⟩
end Go.Proofs.YtmaimjajdbgmiaaGreatDoor
namespace Go.Proofs.YtmaimjajdbgmiaaGreatDoor
open Go.RowKit
structure Sub(F F':Nat->Prop)(w w':aw):Prop where
 ch:Ch F w w'
 new: ∀g,F' g->F g\/w.heap.size<=g
def Dj(F aa:Nat->Prop):Prop:=∀g,F g->¬aa g
def oo(F:Nat->Prop)(w:aw):Prop:=∀g,F g->g<w.heap.size
section
variable{F F' F'' aa H:Nat->Prop}{w w' eZ:aw}
theorem Dj.symm(h:Dj F aa):Dj aa F:=λg hg hf=>h g hf hg
theorem Sub.refl(F:Nat->Prop)(w:aw):Sub F F w w:=⟨Ch.r _ _,λg h=>.inl h⟩
theorem Sub.bj(F:Nat->Prop)(h:M w w'):Sub F F w w':=⟨h.mono (λ_ h=>h.elim),λg h=>.inl h⟩
theorem Sub.trans(h:Sub F F' w w')(h':Sub F' F'' w' eZ):Sub F F'' w eZ:=
 ⟨h.ch.trans h'.ch h.new,λg hg=>by
   rcases h'.new g hg with e|e
   ·exact h.new g e
   ·exact .inr (aO h.ch.size e)⟩
theorem Sub.dj(h:Sub F F' w w')(hd:Dj F aa)(hG:oo aa w):Dj F' aa:=λg hg hG'=>by
 rcases h.new g hg with e|e
 ·exact hd g e hG'
 ·have:=hG g hG';omega
theorem oo.mono(h:oo F w)(hs:w.heap.size<=w'.heap.size):oo F w':=λg hg=>aP (h g hg) hs
end
def fj(a b:Int):Int:=if a<b then-1 else if b<a then 1 else 0
section
variable{P:Program}
theorem vX(w:aw)(dT sT ty elem:TypeId)(sz g o mc vY:Nat)(a:Addr)(me vZ:Nat)(cur:Array Value)(t:TypeId)(cs:List Value)
 (hu:P.underlying dT=G (.slice elem)) (hs:(P.info? elem).map (·.size)=G sz)
 (hg:w.heap[g]?=G (az cur t (0,0))) (hn:cs.length=Nat.min me mc*sz)
 (qP: ∀j v,cs[j]?=G v->w.cell? (a.add j)=G v) (oK:o+cs.length<=cur.size) (h1: ∀v∈cs,v.oneCell'=true):
 (Builtin.copy_ #[dT,sT] ty #[T (G ⟨g,o,U⟩) mc vY,T (G a) me vZ]).run P w=
   .ok (goInt (Nat.min me mc)) (w.setRow g (cur.toList.take o++cs++cur.toList.drop (o+cs.length)).toArray):=by
 have hl:=run_loadCells_list (P:=P) w a cs qP;have kO:=run_storeCells_at P g o t cs 0 cur w hg (by simpa using oK) h1;cases hq:P.info? elem with
 |none=>simp[hq]at hs
 |some i=>
  have hi:i.size=sz:=by simpa [hq]using hs
  simp[Builtin.copy_,run_underlying hu,Builtin.lenOf,Builtin.firstCells,sizeOf,typeInfo,hq,hi, <-hn,hl,kO]
theorem GI(w:aw)(g:Nat)(cs:Array Value):Ch (λk=>k=g) w (w.setRow g cs):=
 ⟨rfl,rfl,rfl,by simp[World.setRow],λk hk hn=>setRow_other w g k cs (λe=>hn (by omega))⟩
theorem pF{w:aw}{o:Oper}{a:Act}{K:Act->aw->Prop}{Q:Exit->Act->aw->Prop}(d s:Operand)(dT sT:TypeId)
 (ho:o.op= .call {callee:=.builtin .copy,args:=#[d,s],argTypes:=#[dT,sT]}) (elem:TypeId) (sz:Nat) (hu:P.underlying dT=G (.slice elem)) (jh:(P.info? elem).map (·.size)=G sz)
 (g off mc vY:Nat) (ad:Addr) (me vZ:Nat) (hd:a.eval d=T (G ⟨g,off,U⟩) mc vY) (hs:a.eval s=T (G ad) me vZ)
 (cur:List Value) (t:TypeId) (hg:aX w g t cur.toArray) (cs:List Value) (hn:cs.length=Nat.min me mc*sz)
 (qP: ∀j v,cs[j]?=G v->w.cell? (ad.add j)=G v) (oK:off+cs.length<=cur.length) (h1: ∀v∈cs,v.oneCell'=true)
 (h: ∀w',aD (aX w' g t (splice cur off cs).toArray)->Ch (λk=>k=g) w w'->K (a.put o.dst (goInt (Nat.min me mc))) w'):o.wp P a w K Q:=by
 have kA:=vX (P:=P) w dT sT o.type elem sz g off mc vY ad me vZ cur.toArray t cs hu jh hg hn qP (by simpa using oK) h1;unfold Oper.wp;simp[execOp,ho,resolve,invoke,builtin,hd,hs,kA,Result.andThen];exact h _ (show _=_ by simpa [splice]using setRow_heap w g _ _ t _ hg) (GI _ _ _)
theorem kP{w:aw}{ops:Array Oper}{rest:List Oper}{o:Oper}{a:Act}{Q:Exit->Act->aw->Prop}(C8:o.guard=U)(d s:Operand)(dT sT:TypeId)
 (ho:o.op= .call {callee:=.builtin .copy,args:=#[d,s],argTypes:=#[dT,sT]}) (elem:TypeId) (sz:Nat) (hu:P.underlying dT=G (.slice elem)) (jh:(P.info? elem).map (·.size)=G sz)
 (g off mc vY:Nat) (ad:Addr) (me vZ:Nat) (hd:a.eval d=T (G ⟨g,off,U⟩) mc vY) (hs:a.eval s=T (G ad) me vZ)
 (cur:List Value) (t:TypeId) (hg:aX w g t cur.toArray) (cs:List Value) (hn:cs.length=Nat.min me mc*sz)
 (qP: ∀j v,cs[j]?=G v->w.cell? (ad.add j)=G v) (oK:off+cs.length<=cur.length) (h1: ∀v∈cs,v.oneCell'=true)
 (h: ∀w',aD (aX w' g t (splice cur off cs).toArray)->Ch (λk=>k=g) w w'->wpList P ops Q rest (a.put o.dst (goInt (Nat.min me mc))) w'):wpList P ops Q (o::rest) a w:=
 wpList_plain C8 λ_ hK=>pF d s dT sT ho elem sz hu jh g off mc vY ad me vZ hd hs cur t hg cs hn qP oK h1 λw' h2 h3=>hK _ _ (h w' h2 h3)
theorem mE{w:aw}{ops:Array Oper}{o:Oper}{a:Act}{K:Act->aw->Prop}{Q:Exit->Act->aw->Prop}{E:Prop}(C8:o.guard=U)(d s:Operand)(dT sT:TypeId)
 (ho:o.op= .call {callee:=.builtin .copy,args:=#[d,s],argTypes:=#[dT,sT]}) (elem:TypeId) (sz:Nat) (hu:P.underlying dT=G (.slice elem)) (jh:(P.info? elem).map (·.size)=G sz)
 (g off mc vY:Nat) (ad:Addr) (me vZ:Nat) (hd:a.eval d=T (G ⟨g,off,U⟩) mc vY) (hs:a.eval s=T (G ad) me vZ)
 (cur:List Value) (t:TypeId) (hg:aX w g t cur.toArray) (cs:List Value) (hn:cs.length=Nat.min me mc*sz)
 (qP: ∀j v,cs[j]?=G v->w.cell? (ad.add j)=G v) (oK:off+cs.length<=cur.length) (h1: ∀v∈cs,v.oneCell'=true)
 (h: ∀w',aD (aX w' g t (splice cur off cs).toArray)->Ch (λk=>k=g) w w'->K (a.put o.dst (goInt (Nat.min me mc))) w'):
 if Region.wanted o (yielded ops a.tmps)=true then Oper.wp P o a w K Q else E:=by
 have hw:Region.wanted o (yielded ops a.tmps)=true:=by simp[Region.wanted,C8]
 rw[if_pos hw];exact pF d s dT sT ho elem sz hu jh g off mc vY ad me vZ hd hs cur t hg cs hn qP oK h1 h
end
theorem cV{w:aw}{base:Nat}{e:TypeId}{size n c g:Nat}{xs:List Value}(h:w.ownsRow base e size (T (G ⟨g,0,U⟩) n c) n xs): ∃Z:List Value,aX w g e (xs++Z).toArray/\(xs++Z).length=c*size/\n<=c/\c<=maxLen:=by
 rcases h.2 with⟨h1,_⟩|⟨g',C9,cur,h1,_,hh,h2,h3,h4,h5⟩
 ·cases h1
 ·injection h1 with h1 _ h6;injection h1 with h1;injection h1 with h1;subst h1 h6;have hl:=h.1;refine⟨cur.toList.drop (n*size),?_,?_,h2,h3⟩
  ·have:xs++cur.toList.drop (n*size)=cur.toList:=by rw[<-h5,List.take_append_drop]
   rw[this];simpa [aX]using hh
  ·have:xs++cur.toList.drop (n*size)=cur.toList:=by rw[<-h5,List.take_append_drop]
   rw[this];simpa using h4
theorem eh{w:aw}{base:Nat}{e:TypeId}{size n c g:Nat}{xs Z:List Value}(hb:base<=g)(hx:xs.length=n*size)(hg:aX w g e (xs++Z).toArray)(hl:(xs++Z).length=c*size)(hn:n<=c)(hc:c<=maxLen):
 w.ownsRow base e size (T (G ⟨g,0,U⟩) n c) n xs:=
 ⟨hx,.inr ⟨g,c,(xs++Z).toArray,rfl,hb,hg,hn,hc,by simpa using hl,by simp[<-hx]⟩⟩
end Go.Proofs.YtmaimjajdbgmiaaGreatDoor
namespace Go.Proofs.YtmaimjajdbgmiaaGreatDoor
open Go.Lib Go.RowKit
structure bQ where
 kind:Int
 tx:Int
 aS:Int
 aY:Int
 op:Int
 key:ByteArray
 val:ByteArray
 mode:Int
 yes:Bool
 deriving DecidableEq
structure dh where
 code:Int
 state:Int
 val:ByteArray
 has:Bool
 deriving DecidableEq
def cL:dh:=⟨0,0,emp,false⟩
def cF(code:Int):dh:=⟨code,0,emp,false⟩
def gX(state code:Int):dh:=⟨code,state,emp,false⟩
structure cz where
 tx:Int
 aS:Int
 aY:Int
 state:Int
 heard:Int
structure cG where
 aS:Int
 last:bQ
 wr:kB
def cQ{α:Type}(f:Int->Option α)(k:Int)(v:Option α):Int->Option α:=λx=>if x=k then v else f x
theorem bD{α:Type}(f:Int->Option α)(k:Int)(v:Option α):cQ f k v k=v:=if_pos rfl
theorem bP{α:Type}(f:Int->Option α){k x:Int}(v:Option α)(h:x≠k):cQ f k v x=f x:=if_neg h
abbrev Rows:=Int->Option cz
def putRow(f:Rows)(r:cz):Rows×Int×Int:=
 match f r.tx with
 |none=>(cQ f r.tx (G r),r.state,0)
 |some CH=>if CH.state=3 then(cQ f r.tx (G {r with aY:=if 0<CH.aY then CH.aY else r.aY}),r.state,0)else(f,0,8)
def eD(f:Rows)(tx aS aY now:Int):Rows×Int×Int:=
 match f tx with
 |none=>putRow f ⟨tx,aS,aY,1,now⟩
 |some r=>if r.aS<aS then putRow f ⟨tx,aS,aY,1,now⟩else if aS<r.aS\/r.state=3 then(f,0,9)else(f,r.state,0)
def cg(f:Rows)(tx aS:Int):Rows×Int×Int:=
 match f tx with
 |none=>(f,0,6)
 |some r=>if r.aS<aS then(f,0,6)else if aS<r.aS then(f,3,0)else
  if r.state=1 then(cQ f tx (G {r with state:=2}),2,0)else if r.state=2 then(f,2,0)else(f,3,0)
def dI(f:Rows)(tx aS now:Int):Rows×Int×Int:=
 match f tx with
 |none=>putRow f ⟨tx,aS,0,3,now⟩
 |some r=>if r.aS<aS then putRow f ⟨tx,aS,0,3,now⟩else if aS<r.aS then(f,3,0)else
  if r.state=1 then(cQ f tx (G {r with state:=3}),3,0)else if r.state=3 then(f,3,0)else(f,2,0)
def eE(f:Rows)(tx aS now:Int):Rows×Int×Int:=
 match f tx with
 |none=>(f,0,6)
 |some r=>if r.aS<aS then(f,0,6)else if aS<r.aS then(f,3,0)else
  (if r.state=1 then cQ f tx (G {r with heard:=max r.heard now})else f,r.state,0)
structure dm where
 clock:Int
 dw:Int
 cur:kB
 own:List Int
 rows:Rows
 br:Int->Option cG
 cr:Int->Option Int
def iS:dm:=⟨0,0,U,[],λ_=>U,λ_=>U,λ_=>U⟩
def cR(c:bQ):Bool:=
 if c.kind=9 then true else
 (if c.kind=1 then decide (1<=c.aY)&&decide (c.aY<=1099511627776)else if c.kind=2\/c.kind=3\/c.kind=4 then(decide (0<=c.op)&&decide (c.op<=1048576))&&decide (c.key.size<=16)else decide (5<=c.kind)&&decide (c.kind<=8))&&
 (!((decide (c.kind=2)&&(!decide (c.mode=1)&& !decide (c.mode=2)))||(decide (c.kind=4)&&(c.yes&&decide (32<c.val.size))))&&((decide (0<=c.tx)&&decide (c.tx<=1048576))&&(decide (0<=c.aS)&&decide (c.aS<=1048576))))
def gM(s:dm)(tx aS:Int):Bool:=match s.cr tx with|none=>false|some d=>decide (aS<=d)
def iE(s:dm)(c:bQ):Int:=
 match s.br c.tx with
 |none=>if gM s c.tx c.aS then 9 else 0
 |some x=>if gM s c.tx c.aS\/c.aS<x.aS then 9 else if x.aS<c.aS then 8 else if c.op<x.last.op\/(c.op=x.last.op/\c≠x.last)then 9 else 0
def im(l:List Int)(tx:Int):Bool:=l.head?==G tx
def mf(l:List Int)(tx:Int):List Int:=if tx∈l then l else l++[tx]
def kQ(s:dm)(c:bQ):dm×dh:=
 ({s with br:=cQ s.br c.tx (G ⟨c.aS,c,match s.br c.tx with|none=>U|some x=>x.wr⟩),own:=mf s.own c.tx},cF (if im (mf s.own c.tx) c.tx then 0 else 10))
def mg(s:dm)(c:bQ):dm×dh:=
 match s.br c.tx with
 |none=>(s,cF 8)
 |some x=>if im s.own c.tx then
  ({s with br:=cQ s.br c.tx (G ⟨x.aS,c,x.wr⟩)},match x.wr with|some v=>⟨0,0,v,true⟩|none=>⟨0,0,eP s.cur,fB s.cur⟩)
  else(s,cF 8)
def gY(s:dm)(c:bQ):dm×dh:=
 match s.br c.tx with
 |none=>(s,cF 8)
 |some x=>if im s.own c.tx then({s with br:=cQ s.br c.tx (G ⟨x.aS,c,G c.val⟩)},cL)else(s,cF 8)
def oL(s:dm)(c:bQ)(x:cG):dm:=
 ⟨s.clock,if c.yes/\x.wr.isSome then min (s.dw+1) 1099511627776 else s.dw,if c.yes then(match x.wr with|some v=>G v|none=>s.cur)else s.cur,
  s.own.filter (λo=> !decide (o=c.tx)),s.rows,cQ s.br c.tx U,cQ s.cr c.tx (G c.aS)⟩
def en(s:dm)(c:bQ):dm×dh:=
 if gM s c.tx c.aS then(s,cL)else
 match s.br c.tx with
 |none=>({s with cr:=cQ s.cr c.tx (G c.aS)},cL)
 |some x=>if x.aS<c.aS then(s,cF 8)else if x.aS≠c.aS then({s with cr:=cQ s.cr c.tx (G c.aS)},cL)else(oL s c x,cL)
def dO(s:dm)(c:bQ):dm×dh:=
 let r:=if c.kind=1 then eD s.rows c.tx c.aS c.aY s.clock else if c.kind=5 then cg s.rows c.tx c.aS else if c.kind=6 then dI s.rows c.tx c.aS s.clock else eE s.rows c.tx c.aS s.clock
 ({s with rows:=r.1},gX r.2.1 r.2.2)
def fS(s:dm)(c:bQ):dm×dh:=
 if cR c then
  if c.kind=9 then({s with clock:=min (s.clock+1) 1099511627776},cL)else
  if c.kind=7 then en s c else
  if c.kind=1\/c.kind=5\/c.kind=6\/c.kind=8 then dO s c else
  if iE s c≠0 then(s,cF (iE s c))else
  if c.kind=2 then kQ s c else if c.kind=3 then mg s c else gY s c
 else(s,cF 1)
structure eF where
 aS:Int
 ph:Int
 at_:Int
 last:kB
 write:kB
 res:List kB
 bY:List Int
 left:List Int
 o:Int
structure Cf where
 key:ByteArray
 n:Int
 tries:Int
 ns:Nat
 h:Nat
def Cf.op(C:Cf):nu:=⟨5,C.key,emp,C.n⟩
def bW:eF:=⟨0,0,0,U,U,[],[],[],1⟩
section
variable(C:Cf)
def bZ(tx:Int):Nat:=tx.toNat%C.ns
def bk(kind tx aS:Int):bQ:=⟨kind,tx,aS,0,0,emp,emp,0,false⟩
def fy(tx aS:Int)(y:Bool):bQ:=⟨7,tx,aS,0,0,emp,emp,0,y⟩
def df(tx:Int)(d:eF):Option (Nat×bQ):=
 if d.ph=0 then G (bZ C tx,{bk 1 tx d.aS with aY:=tx+1})else
 if d.ph=1 then G (C.h,{bk 2 tx d.aS with op:=3*d.at_,key:=C.key,mode:=2})else
 if d.ph=2 then G (bZ C tx,bk 8 tx d.aS)else
 if d.ph=3 then G (C.h,{bk 3 tx d.aS with op:=3*d.at_+1,key:=C.key})else
 if d.ph=4 then G (C.h,{bk 4 tx d.aS with op:=3*d.at_+2,key:=C.key,val:=eP d.write,yes:=fB d.write})else
 if d.ph=5 then G (bZ C tx,bk 5 tx d.aS)else
 if d.ph=6 then G (bZ C tx,bk 6 tx d.aS)else
 if d.ph=7 then(match d.left with|[]=>U|x::_=>G (x.toNat,{bk 7 tx d.aS with op:=x,yes:=decide (d.o=2)}))else U
def iF(d:eF):eF:=
 if d.o=2 then{d with ph:=8}else if C.tries<=d.aS+1 then{d with ph:=8,res:=[]}else
 {d with aS:=d.aS+1,ph:=0,o:=1,last:=U,res:=[],bY:=[],left:=[]}
def jV(d:eF)(state:Int):eF:=
 let d:={d with o:=state,left:=d.bY,ph:=7}
 if d.left=[]then iF C d else d
def gF(d:eF)(at_:Int):eF:=
 if 1<=at_ then{d with at_:=at_,ph:=5}else{d with at_:=at_,ph:=1,bY:=if(C.h:Int)∈d.bY then d.bY else d.bY++[(C.h:Int)]}
noncomputable def GJ (d:eF) (r:dh):eF:=
 let has:kB:=if r.has then G r.val else U
 {d with write:=jw C.op has d.last,last:=il C.op has d.last,res:=d.res++[il C.op has d.last],ph:=4}
noncomputable def fG (d:eF) (r:dh):eF:=
 if r.code=9\/r.code=8 then{d with ph:=6}else if d.ph=1/\r.code=10 then{d with ph:=2}else if r.code≠0 then d else
 if d.ph=1 then{d with ph:=3}else if d.ph=3 then GJ C d r else gF C d (d.at_+1)
def mF(d:eF)(r:dh):eF:=
 if d.ph=0/\r.code=9 then jV C d 3 else if d.ph=0/\r.code=0/\r.state=1 then gF C d 0 else
 if d.ph=2/\r.code=0/\r.state=3 then jV C d 3 else if d.ph=2 then{d with ph:=1}else
 if(d.ph=5\/d.ph=6)/\r.code=0/\(r.state=2\/r.state=3)then jV C d r.state else d
noncomputable def fk (tx:Int) (d:eF) (c:bQ) (r:dh):eF:=
 match df C tx d with
 |none=>d
 |some (_,want)=>if c=want then
  if d.ph=1\/d.ph=3\/d.ph=4 then fG C d r else
  if d.ph=7 then(if r.code=0 then(let d':={d with left:=d.left.tail};if d'.left=[]then iF C d' else d')else d)else mF C d r
  else d
end
structure dM where
 sh:Nat->dm
 dr:List eF
 req:List (Nat×Nat×bQ)
 ans:List (Nat×bQ×dh)
 order:List Int
def dP(f:Nat->dm)(k:Nat)(v:dm):Nat->dm:=λx=>if x=k then v else f x
theorem fH(f:Nat->dm)(k:Nat)(v:dm):dP f k v k=v:=if_pos rfl
theorem gq(f:Nat->dm){k x:Nat}(v:dm)(h:x≠k):dP f k v x=f x:=if_neg h
def bO(s:dM)(k:Nat)(c:bQ):dM×dh:=
 let o:=fS (s.sh k) c
 let was:=((s.sh k).rows c.tx).getD ⟨0,0,0,0,0⟩
 ({s with sh:=dP s.sh k o.1,order:=if c.kind=5/\was.aS=c.aS/\was.state=1/\o.2.state=2 then s.order++[c.tx]else s.order},o.2)
abbrev Wl:=List (ByteArray×ByteArray)
def kOf(w:ByteArray×ByteArray):Zz:=w.1.data.toList
theorem key_inj{a b:ByteArray}(h:a.data.toList=b.data.toList):a=b:=by
 cases a;cases b;simp at h;subst h;rfl
def qa0(L:Wl)(f:Has):Prop:=L.Pairwise (λa b=>kOf a<kOf b)/\∀k v,(k,v)∈L↔f k.data.toList=G v
def ltB(K:ByteArray)(w:ByteArray×ByteArray):Bool:=decide (kOf w<K.data.toList)
def gtB(K:ByteArray)(w:ByteArray×ByteArray):Bool:=decide (K.data.toList<kOf w)
def Ya(K:ByteArray)(L:Wl):Bool:=L.any λw=> !ltB K w
def Yb(K:ByteArray)(r:kB)(d:Bool):Wl:=match r with
 |some v=>if d then [(K,v)]else []
 |none=>[]
def putK(K:ByteArray)(r:kB)(L:Wl):Wl:=L.filter (ltB K)++Yb K r (Ya K L)++L.filter (gtB K)
def putL(K:ByteArray)(r:kB)(L:Wl):Wl:=L.filter (ltB K)++Yb K r true++L.filter (gtB K)
section
variable{L:Wl}{K:ByteArray}{r:kB}{i:Nat}{w:ByteArray×ByteArray}
end
