/- A part of the proof of TopAuthenticSaid: no conditions; packed by a program of our own. -/
import Derived.Test.YtgpideichgnmhaaGreatPaai
import Derived.Test.YtgpideichgnmhaaGreatPaaa
import Derived.Shelf.Spec.SlicesInsertGrow
open And renaming intro→bQ
open Array renaming length_toList→sX
open BitVec renaming ofInt→bc,ofNat→af
open Bool renaming and_eq_true→aF,false_eq_true→cf,not_eq_false'→aJ,not_eq_false→bR
open Go.Builtin renaming zeroCells→bI
open Go.IntKind renaming wrap_i64→dj
open Go.Lib renaming bitLen→fw
open Go.Value renaming int→fO
open Go.World renaming size_alloc→dR
open HAdd renaming hAdd→eH
open HSub renaming hSub→bG
open Int renaming eq_ofNat_of_zero_le→cq,le_refl→cr
open LE renaming le→aZ
open LT renaming lt→lU
open List renaming map_cons→aX,length_append→aa,length_cons→bd,append_assoc→ay,mem_append→aY,nil_append→eG,append_nil→bj,mem_cons→br,getD→bv,take_append_drop→dC,length_take→bi,length→ac,getD_eq_getElem?_getD→az,length_nil→cX,map_append→dl,mem_map→dY,map→rU,mem_cons_self→aM,mem_cons_of_mem→aE,nodup_cons→lK,mem_map_of_mem→fe,mem_append_left→cG,mem_singleton→cg,length_drop→cD,take→cS,length_singleton→bb,sum_cons→cY,take_length→bp,length_eq_zero_iff→rY
open Nat renaming min_eq_left→ee,lt_of_lt_of_le→bq,le_refl→aC,le_trans→bA,zero_add→bK,zero_le→aq,lt_or_ge→bN
open Option renaming isSome_iff_exists→cE,getD_some→cZ
namespace Go.Tp
open Go.Hv Go.Proofs Go.RowKit
set_option maxRecDepth 100000
set_option maxHeartbeats 0
abbrev tSp:Ty:= .pr .i64 (.pr .i64 (.pr .i64 (.pr .i64 .un)))
abbrev Sp:=tSp.den
abbrev Trz:=V3.den
def V5(i:Nat):Nat×Bool×List IP:=(i,false,[.d (.pf V3)])
def pA(t:Trz):Prop:=rB t.1∧t.1.length≤100000∧0≤t.2.1∧t.2.1≤100000
def xw:Ct:=⟨1,⟨[V5 0],[]⟩,[⟨[(0,false,[.fn 139 [] [(0,0)]])],[some (.cells [.d (.pf V3)])]⟩],λ(t,_)=>one True (t,())⟩
abbrev LM(v:(List (Fk×gP.den)×Int×Unit)×Unit):aN xw.out:=⟨0,v⟩
def G1:bu:=(95,[xw])::O0
theorem zo:KK G1:=kA b_ (cv xw 0) (∀(a:List (Fk×gP.den)×Int×Unit)(Q:aN xw.out→Prop),(Ct.spec xw (a,())).sat Q→Q (LM (a,()))) (by kernel_rfl) (by
 intro t Q ⟨_,a⟩;exact a)
def C9:Ct:=⟨1,⟨[V5 0],[]⟩,[⟨[sI 0],[]⟩],λ(t,_)=>one (pA t) (t.1.length-1-t.2.1,())⟩
abbrev Ti(v:Int×Unit):aN C9.out:=⟨0,v⟩
theorem Tj:bO Tryz.prog 174 C9:=kC zo (cv C9 0) (∀(a:List (Fk×gP.den)×Int×Unit)(Q:aN C9.out→Prop),let z:=ac a.1;(Ct.spec C9 (a,())).sat Q→ae ((↑z:Int)-1)∧ae ((↑z:Int)-1-a.2.1)∧Q (Ti ((↑z:Int)-1-a.2.1,()))) (by kernel_rfl) (by
 conv=>zeta
 intro t Q ⟨⟨e,f,a,b⟩,c⟩;have a:@aZ Int _ 0 t.2.1:=a;have b:@aZ Int _ t.2.1 100000:=b;exact⟨by unfold ae;omega,by unfold ae;omega,c⟩)
def O2:bu:=(174,[C9,C7])::G1
theorem c_:KK O2:=⟨aP.add zo.1 (by kernel_rfl) (ik (Tj) (bo (GW))),bg.add zo.2 (ik (λ_=>bH) (bo (λ_=>bH)))⟩
def LN(n:ga)(s:Sp):Nd:=(aU cO (s.1,s.2.1,()) n).getD jz
def nM(n:ga)(s:Sp)(j:Nat):List ID:=(LN n s).2.2.2.2.1.getD j []
def sK(s:Sp):Int:=s.2.2.1
def mO(s:Sp):Int:=s.2.2.2.1
def jW(k:ID)(j a:Int):Sp:=(k.1,k.2.1,j,a,())
def sd(s:Sp):ID:=(s.1,s.2.1,())
def xx(n:ga)(A:ID→List ID)(s:Sp):Nat:=if sK s=0 then(((nM n s 0).drop (mO s).toNat).map (wt n A)).sum+((nM n s 1).map (wt n A)).sum+2 else(((nM n s 1).drop (mO s).toNat).map (wt n A)).sum+1
def ow(n:ga)(s:Sp):Prop:=sd s∈gQ n∧0≤mO s∧(sK s=0∧mO s≤(nM n s 0).length∨sK s=1∧mO s≤(nM n s 1).length)
def Tk(a i:Int)(N W:Nat):Prop:=0≤a∧a+W≤3*N∧0≤i∧i≤1000000000
def nB(n:ga)(A:ID→List ID)(l:List Sp):Nat:=(l.map (xx n A)).sum
def zp:Ct:=⟨2,⟨[V5 0,sI 1],[]⟩,[⟨[(0,true,[.d cO]),sI 1],[]⟩],λ(t,i,_)=>eO (pA t∧i≤1000000000) (λ_:ID×Int=>True) λy=>(y.1,y.2,())⟩
def d_:cc:=⟨[(0,false,[.d .yl]),(1,false,[.ptr 0 0]),(3,false,[.own 1]),sI 4,(90,false,[.ptr 2 0]),(91,false,[.ptr 3 0]),(92,false,[.ptr 4 0]),(117,false,[.d .yl]),(118,false,[.k (.i64 0)])],[some (.cells [.d (.pf V3)]),some (.sl tSp),some (.cells [.d .i64]),some (.cells [.d cO]),some (.cells [.d .i64])]⟩
def im(x:zp.inp.den)(A:ID→List ID)(y:d_.den):Prop:=match x,y with
 |(a,f,_),(l,c,e,t,b,i,_,_,_)=>l=e∧t=a∧b≠[]∧(∀s∈b,ow a.1 s)∧Tk c i a.1.length (nB a.1 A b)
noncomputable def ancO (n:ga):ID→List ID:=by
 classical
 exact if h:rB n then h.choose else λ_=>[]
theorem Bj{n:ga}(h:rB n):vX n (ancO n):=by
 unfold ancO;rw[dif_pos h];exact h.choose_spec
theorem pP(n:ga)(A:ID→List ID)(l:List Sp)(s:Sp):nB n A (l++[s])=nB n A l+xx n A s:=by simp[nB]
theorem zq{n:ga}{s:Sp}(h:sd s∈gQ n):(sd s,LN n s)∈n:=by
 unfold LN;cases a:aU cO (s.1,s.2.1,()) n with
 |none=>exact absurd h (ov a)
 |some v=>exact iZ a
theorem LO{α:Type}{l:List α}{z:α}{a:Int}(h0:0≤a)(h:a<l.length):l.drop a.toNat=l.getD a.toNat z::l.drop (a+1).toNat:=by
 rw[cW (z:=z) (by omega),show(a+1).toNat=a.toNat+1 by omega]
theorem Bk{n:ga}{A:ID→List ID}{s:Sp}(h:sK s=0):xx n A s=(((nM n s 0).drop (mO s).toNat).map (wt n A)).sum+((nM n s 1).map (wt n A)).sum+2:=by unfold xx;rw[an h]
theorem G2{n:ga}{A:ID→List ID}{s:Sp}(h:sK s=1):xx n A s=(((nM n s 1).drop (mO s).toNat).map (wt n A)).sum+1:=by unfold xx;rw[ag (by rw[h];decide)]
theorem ox(n:ga)(s:Sp)(j a:Int)(i:Nat):nM n (jW (sd s) j a) i=nM n s i:=rfl
theorem xy{n:ga}{A:ID→List ID}(h:vX n A){c:ID}(f:c∈gQ n):ow n (jW c 0 0)∧xx n A (jW c 0 0)+1≤wt n A c:=by
 have a:sd (jW c 0 0)=c:=rfl;have g:=zq (s:=jW c 0 0) (by rw[a];exact f);rw[a]at g;have b:3+((iY (LN n (jW c 0 0))).map (wt n A)).sum≤wt n A c:=h.light g;refine⟨⟨by rw[a];exact f,cr _, .inl ⟨rfl,Int.natCast_nonneg _⟩⟩,?_⟩;rw[Bk (s:=jW c 0 0) rfl];have e:(iY (LN n (jW c 0 0)))=nM n (jW c 0 0) 0++nM n (jW c 0 0) 1:=rfl;rw[e,dl,List.sum_append]at b;have i:(nM n (jW c 0 0) 0).drop (mO (jW c 0 0)).toNat=nM n (jW c 0 0) 0:=rfl;rw[i];omega
theorem LQ{n:ga}{A:ID→List ID}(m:vX n A){s:Sp}(o:ow n s){j:Nat}(e:sK s=j)(b:j=0∨j=1)(r:mO s<(nM n s j).length){c:ID}(p:c=(nM n s j).getD (mO s).toNat (0,0,())):
 ow n (jW (sd s) (sK s) (mO s+1))∧ow n (jW c 0 0)∧xx n A (jW (sd s) (sK s) (mO s+1))+xx n A (jW c 0 0)+1≤xx n A s:=by
 obtain⟨q,t,o⟩:=o;have f:c∈nM n s j:=by rw[p];exact aT (by omega)
 have u:=zq q
 have g:c∈iY (LN n s):=by
  unfold iY;rcases b with rfl|rfl
  ·exact cG _ f
  ·exact List.mem_append_right _ f
 have h:c∈gQ n:=m.key _ u c g;obtain⟨v,w⟩:=xy m h
 have i:((nM n s j).drop (mO s).toNat).map (wt n A)=wt n A c::((nM n s j).drop (mO s+1).toNat).map (wt n A):=by
  rw[LO (z:=((0,0,()):ID)) t r,←p];rfl
 have i:=aI List.sum i;rw[cY]at i;have l:sK (jW (sd s) (sK s) (mO s+1))=sK s:=rfl;have a:mO (jW (sd s) (sK s) (mO s+1))=mO s+1:=rfl;refine⟨⟨q,by rw[a];omega,?_⟩,v,?_⟩
 ·rw[l,a,ox,ox];rcases b with rfl|rfl
  ·exact .inl ⟨e,by omega⟩
  ·exact .inr ⟨e,by omega⟩
 ·rcases b with rfl|rfl
  ·rw[Bk (s:=s) e,Bk (s:=jW (sd s) (sK s) (mO s+1)) (l.trans e),a,ox,ox];omega
  ·rw[G2 (s:=s) e,G2 (s:=jW (sd s) (sK s) (mO s+1)) (l.trans e),a,ox];omega
theorem LR{n:ga}{A:ID→List ID}{s:Sp}(a:ow n s)(b:sK s=0):ow n (jW (sd s) 1 0)∧xx n A (jW (sd s) 1 0)+1≤xx n A s:=by
 obtain⟨c,f,a⟩:=a;refine⟨⟨c,cr _, .inr ⟨rfl,Int.natCast_nonneg _⟩⟩,?_⟩;rw[Bk b,G2 (s:=jW (sd s) 1 0) rfl,ox];have e:(nM n s 1).drop (mO (jW (sd s) 1 0)).toNat=nM n s 1:=rfl;rw[e];omega
theorem G3{n:ga}{A:ID→List ID}(a:vX n A){s:Sp}(f:sd s∈gQ n){j:Nat}(g:j=0∨j=1):(nM n s j).length≤n.length:=by
 have b:=zq f;have i:3+((iY (LN n s)).map (wt n A)).sum≤wt n A (sd s):=a.light b;have m:=vX.le (n:=n) (A:=A) (sd s)
 have o:∀l:List ID,(∀c∈l,c∈gQ n)→3*l.length≤(l.map (wt n A)).sum:=by
  intro l
  induction l with
  |nil=>intro _;simp
  |cons c l p=>
   intro h;have r:=a.ge3 (h c (aM ..));have t:=p λd q=>h d (aE _ q);simp only[aX,cY,bd];omega
 have u:=o (iY (LN n s)) (a.key _ b);have e:(iY (LN n s)).length=(nM n s 0).length+(nM n s 1).length:=by unfold iY;rw[aa];rfl
 rcases g with rfl|rfl<;>omega
theorem G4{n:ga}{A:ID→List ID}(s:Sp):1≤xx n A s:=by unfold xx;split<;>omega
theorem G5{n:ga}{A:ID→List ID}:∀l:List Sp,l.length≤nB n A l
 |[]=>aq _
 |s::l=>by
  have:=G4 (n:=n) (A:=A) s;have:=G5 (n:=n) (A:=A) l;simp only[nB,aX,cY,bd]at*;omega
theorem LS{n:ga}{A:ID→List ID}(a:vX n A):ow n (jW sa 0 0)∧xx n A (jW sa 0 0)≤3*n.length:=by
 obtain⟨b,e⟩:=xy a a.rt;have c:=vX.le (n:=n) (A:=A) sa;exact⟨b,by omega⟩
theorem LU{α:Type}{l:List α}(z:α)(h:l≠[]):∃p s,l=p++[s]∧((l.length:Int)-1).toNat=p.length∧l.getD p.length z=s∧(∀v,l.set p.length v=p++[v])∧l.take p.length=p:=by
 rcases List.eq_nil_or_concat l with e|⟨p,s,e⟩
 ·exact absurd e h
 ·subst e;refine⟨p,s,by simp,by simp,by simp[az],λv=>by simp,by simp⟩
noncomputable def fatK (x:zp.inp.den):tG:=bM d_ (im x (ancO x.1.1)) λ(_,_,_,_,a,_)=>nB x.1.1 (ancO x.1.1) a
noncomputable def fatA (x:zp.inp.den):dG:=⟨[],[(1003,fatK x)],[(0,0,fatK x)],[],0⟩
theorem G6{n:ga}{p:List Sp}{s s':Sp}(h:∀x∈p++[s],ow n x)(h':ow n s'):∀x∈p++[s'],ow n x:=by
 intro x a;rcases aY.1 a with a|a
 ·exact h x (cG _ a)
 ·simp at a;subst a;exact h'
abbrev oy(v:Fk×Int×Unit):aN zp.out:=⟨0,v⟩
def O3:bu:=(151,[zp])::O2
theorem e_:KK O3:=kA c_ fatA (∀(c:List (Fk×gP.den)×Int×Unit)(e:Int)(Q:aN zp.out→Prop),let a1:Prop:=(↑(ac c.1):Int)-1-c.2.1≤e;(Ct.spec zp (c,e,())).sat Q→Br (decide (e<0)) (decide (e<0)=true∧decide (e<0)=true∧decide (e<0)=true∧decide (e<0)=true∧Q (oy ((0,0,()),6,()))) (decide (e<0)=false∧decide (e<0)=false∧pA c∧decide (e<0)=false∧decide (e<0)=false∧Br (decide a1) (Q (oy ((0,0,()),6,()))) (True∧(true=true∧1+(rU (λp=>(3072+p.1,p.2)) [(0,0)]).length≤87∧true=true)∧∀(l:Nat),true=true∧(true=true∧Is (im (c,e,()) (ancO c.1) (l,0,l,c,[(0,0,0,0,())],e,(0,0,()),0,()))∧∀(j:Nat)(h:Int)(k:Nat)(d:List (Fk×gP.den)×Int×Unit)(a:List (Int×Int×Fk))(g:Int)(n:Fk)(o:Int),let M:=(j,h,k,d,a,g,n,o,());im (c,e,()) (ancO c.1) M→Is (im (c,e,()) (ancO c.1) M)∧∀(q:Nat)(m:Int)(r:Nat)(f:List (Fk×gP.den)×Int×Unit)(b:List (Int×Int×Fk))(i:Int)(s:Fk)(t:Int),let v:=(↑b.length:Int)-1;let a2:Prop:=0<(↑(cS v.toNat b).length:Int);let L:Prop:=0≤(↑b.length:Int)-1∧(↑b.length:Int)-1<(↑b.length:Int);let u:=b.getD v.toNat (0,0,0,0,());let a3:= !(u.1==0&&u.2.1==0);let B:=u.2.2.1==1;let N:Prop:=B=false→False∧True;let O:=Int.toNat u.2.2.2.1;let C:=u.2.2.1==0;let P:=(b.set v.toNat (u.1,u.2.1,u.2.2.1,u.2.2.2.1+1,())).length+1;let R:=(aU (Ty.i64.pr (Ty.i64.pr Ty.un)) (u.1,u.2.1,()) f.1).getD (0,0,0,false,[[],[]],());let D:=bv R.2.2.2.2.1 ((5-1-1-1-1)/1) [];let S:=D.getD O (0,0,());let a4:Prop:=u.2.2.2.1<(↑D.length:Int);let E:=bv R.2.2.2.2.1 ((4-1-1-1-1)/1) [];let U:=E.getD O (0,0,());let a5:Prop:=u.2.2.2.1<(↑E.length:Int);let z7:Prop:=ae v∧L∧ae (u.2.2.2.1+1)∧L∧Br C ((0≤u.2.2.2.1∧u.2.2.2.1<(↑E.length:Int))∧P*32≤140737488355328∧Is (im (c,e,()) (ancO c.1) (q,m,r,f,b.set v.toNat (u.1,u.2.1,u.2.2.1,u.2.2.2.1+1,())++[(U.1,U.2.1,0,0,())],i,s,t,()))) ((B=true→(0≤u.2.2.2.1∧u.2.2.2.1<(↑D.length:Int))∧P*32≤140737488355328∧Is (im (c,e,()) (ancO c.1) (q,m,r,f,b.set v.toNat (u.1,u.2.1,u.2.2.1,u.2.2.2.1+1,())++[(S.1,S.2.1,0,0,())],i,s,t,())))∧N);let z5:Prop:=true=true∧Br C (true=true∧Br a3 (false=false∧(true=true∧(none:Option (Nat×Bool))=none∧2=2)∧q=r∧(false=false∧true=true)∧(false=false∧true=true)∧Br (R.2.2.2.1) (true=true∧ae (m+1)∧ae v∧L∧Is (im (c,e,()) (ancO c.1) (q,m+1,r,f,b.set v.toNat (u.1,u.2.1,1,0,()),i,s,t,()))) ((false=false∧true=true)∧Br (i==0) ((false=false∧true=true)∧true=true∧Q (oy ((R.1,R.2.1,()),0,()))) ((false=false∧true=true)∧ae (i-1)∧true=true∧ae (m+1)∧ae v∧L∧Is (im (c,e,()) (ancO c.1) (q,m+1,r,f,b.set v.toNat (u.1,u.2.1,1,0,()),i-1,s,t,()))))) (ae v∧L∧Is (im (c,e,()) (ancO c.1) (q,m,r,f,b.set v.toNat (u.1,u.2.1,1,0,()),i,s,t,())))) (ae v∧((0:Int)=0∧0≤(↑b.length:Int)-1∧(↑b.length:Int)-1≤(↑b.length:Int))∧true=true∧Br (decide a2) (Is (im (c,e,()) (ancO c.1) (q,m,r,f,cS v.toNat b,i,s,t,()))) (Q (oy ((0,0,()),6,()))));im (c,e,()) (ancO c.1) (q,m,r,f,b,i,s,t,())→ae v∧L∧Br C (true=true∧Br (decide a5) z7 z5) ((B=true→true=true∧Br (decide a4) z7 z5)∧N))∧∀(j:Nat)(h:Int)(k:Nat)(d:List (Fk×gP.den)×Int×Unit)(a:List (Int×Int×Fk))(g:Int)(n:Fk)(o:Int),let x:Prop:=0≤(↑a.length:Int)-1∧(↑a.length:Int)-1<(↑a.length:Int);let w:=(↑a.length:Int)-1;let W:=cS w.toNat a;let z:=a.getD w.toNat (0,0,0,0,());let a6:= !(z.1==0&&z.2.1==0);let F:=z.2.2.1==1;let X:Prop:=F=false→False∧True;let G:=z.2.2.1==0;let Y:=(a.set w.toNat (z.1,z.2.1,z.2.2.1,z.2.2.2.1+1,())).length+1;let a0:=Int.toNat z.2.2.2.1;let H:Prop:=nB c.1 (ancO c.1) (a.set w.toNat (z.1,z.2.1,1,0,()))<nB c.1 (ancO c.1) a;let z6:=(aU (Ty.i64.pr (Ty.i64.pr Ty.un)) (z.1,z.2.1,()) d.1).getD (0,0,0,false,[[],[]],());let J:=bv z6.2.2.2.2.1 ((5-1-1-1-1)/1) [];let a7:Prop:=z.2.2.2.1<(↑J.length:Int);let y:=J.getD a0 (0,0,());let K:=bv z6.2.2.2.2.1 ((4-1-1-1-1)/1) [];let a8:Prop:=z.2.2.2.1<(↑K.length:Int);let A:=K.getD a0 (0,0,());let z3:Prop:=true=true∧Br G (true=true∧Br a6 (false=false∧(true=true∧(none:Option (Nat×Bool))=none∧2=2)∧j=k∧(false=false∧true=true)∧(false=false∧true=true)∧Br (z6.2.2.2.1) (true=true∧ae (h+1)∧ae w∧x∧Is (im (c,e,()) (ancO c.1) (j,h+1,k,d,a.set w.toNat (z.1,z.2.1,1,0,()),g,n,o,())∧H)) ((false=false∧true=true)∧Br (g==0) ((false=false∧true=true)∧true=true∧Q (oy ((z6.1,z6.2.1,()),0,()))) ((false=false∧true=true)∧ae (g-1)∧true=true∧ae (h+1)∧ae w∧x∧Is (im (c,e,()) (ancO c.1) (j,h+1,k,d,a.set w.toNat (z.1,z.2.1,1,0,()),g-1,n,o,())∧H)))) (ae w∧x∧Is (im (c,e,()) (ancO c.1) (j,h,k,d,a.set w.toNat (z.1,z.2.1,1,0,()),g,n,o,())∧H))) (ae w∧((0:Int)=0∧0≤(↑a.length:Int)-1∧(↑a.length:Int)-1≤(↑a.length:Int))∧true=true∧Br (decide (0<(↑W.length:Int))) (Is (im (c,e,()) (ancO c.1) (j,h,k,d,cS w.toNat a,g,n,o,())∧nB c.1 (ancO c.1) W<nB c.1 (ancO c.1) a)) (Q (oy ((0,0,()),6,()))));let z2:Prop:=ae w∧x∧ae (z.2.2.2.1+1)∧x∧Br G ((0≤z.2.2.2.1∧z.2.2.2.1<(↑K.length:Int))∧Y*32≤140737488355328∧Is (im (c,e,()) (ancO c.1) (j,h,k,d,a.set w.toNat (z.1,z.2.1,z.2.2.1,z.2.2.2.1+1,())++[(A.1,A.2.1,0,0,())],g,n,o,())∧nB c.1 (ancO c.1) (a.set w.toNat (z.1,z.2.1,z.2.2.1,z.2.2.2.1+1,())++[(A.1,A.2.1,0,0,())])<nB c.1 (ancO c.1) a)) ((F=true→(0≤z.2.2.2.1∧z.2.2.2.1<(↑J.length:Int))∧Y*32≤140737488355328∧Is (im (c,e,()) (ancO c.1) (j,h,k,d,a.set w.toNat (z.1,z.2.1,z.2.2.1,z.2.2.2.1+1,())++[(y.1,y.2.1,0,0,())],g,n,o,())∧nB c.1 (ancO c.1) (a.set w.toNat (z.1,z.2.1,z.2.2.1,z.2.2.2.1+1,())++[(y.1,y.2.1,0,0,())])<nB c.1 (ancO c.1) a))∧X);im (c,e,()) (ancO c.1) (j,h,k,d,a,g,n,o,())→ae w∧x∧Br G (true=true∧Br (decide a8) z2 z3) ((F=true→true=true∧Br (decide a7) z2 z3)∧X)))) (by kernel_rfl) (by
 conv=>zeta
 unfold Br;rintro t i Q ⟨⟨R,hi⟩,hQ⟩;have M:∀(y:ID)(e:Int),Q ⟨0,(y,e,())⟩:=λy e=>hQ (y,e) trivial;clear hQ;have N:=Bj R.1;have hn:=R.2.1;have S:∀c:decide (i<0)=false,@aZ Int _ 0 i:=λc=>Int.not_lt.1 (am c);have b0:@aZ Int _ i 1000000000:=hi;refine⟨λc=>⟨c,c,c,c,M _ _⟩,λc=>⟨c,c,R,c,c,λd=>M _ _,λd=>⟨trivial,⟨rfl,by decide,rfl⟩,λl=>⟨rfl,⟨rfl,?_,λa1 a2 a3 a4 a5 a6 a7 a8 h=>⟨⟨h⟩,?_⟩⟩,?_⟩⟩⟩⟩
 ·have z0:=LS N;have:nB t.1 (ancO t.1) [jW sa 0 0]=xx t.1 (ancO t.1) (jW sa 0 0):=by simp[nB]
  exact⟨⟨rfl,rfl,by simp,λs B=>by simp at B;subst B;exact z0.1,by unfold Tk;rw[show[((0,0,0,0,()):Sp)]=[jW sa 0 0]from rfl,this];have:=z0.2;have:=S c;omega⟩⟩
 all_goals
  clear c d;rintro C g l2 a o f id e ⟨g1,g2,g3,g4,g5,g6,g7,g8⟩;subst g1 g2;generalize ancO a.1=A at*;obtain⟨p,s,O,e1,e2,e3,e4⟩:=LU (0,0,0,0,()) g3;have B:=g4 s (by rw[O];simp);have U:nB a.1 A o=nB a.1 A p+xx a.1 A s:=by rw[O,pP]
  have hl:=G5 (n:=a.1) (A:=A) o;have b1:o.length=p.length+1:=by rw[O];simp
  simp only[e1,e2,e3,e4];have D:ae ((o.length:Int)-1):=by unfold ae;omega
  have hB:0≤(o.length:Int)-1∧(o.length:Int)-1<o.length:=by omega
  have hP:ae (g+1):=by unfold ae;omega
  have hM:ae (f-1):=by unfold ae;omega
  have r:∀x∈p++[s],ow a.1 x:=by rw[←O];exact g4
  have b2:=G4 (n:=a.1) (A:=A) s;have J:∀v,((p++[v]:List Sp).length+1)*32≤140737488355328:=λv=>by simp;omega
  have K:∀(m:List Sp)(b w:Int),m≠[]→(∀s∈m,ow a.1 s)→nB a.1 A m+1≤nB a.1 A o→(b=g∨b=g+1)→(w=f∨w=f-1∧f≠0)→im (a,i,()) A (C,b,C,a,m,w,id,e,())∧nB a.1 A m<nB a.1 A o:=
   λm b w W X h3 h4 h5=>⟨⟨rfl,rfl,W,X,by unfold Tk;omega⟩,by omega⟩
  have P:∀(j:Nat),sK s=j→(j=0∨j=1)→mO s<(nM a.1 s j).length→∀c,c=(nM a.1 s j).getD (mO s).toNat (0,0,())→im (a,i,()) A (C,g,C,a,p++[jW (sd s) (sK s) (mO s+1)]++[jW c 0 0],f,id,e,())∧nB a.1 A (p++[jW (sd s) (sK s) (mO s+1)]++[jW c 0 0])<nB a.1 A o:=by
   intro j u Y hl c hc;obtain⟨k1,k2,k3⟩:=LQ N B u Y hl hc;refine K _ g f (by simp) ?_ ?_ (.inl rfl) (.inl rfl)
   ·intro x E;rcases aY.1 E with E|E
    ·exact G6 r k1 x E
    ·simp at E;subst E;exact k2
   ·rw[pP,pP,U];omega
  have L:0≤mO s:=B.2.1;rcases B.2.2 with⟨u,a0⟩|⟨u,a0⟩
  ·have F:(s.2.2.1==0)=true:=by show(sK s==0)=true;rw[u];rfl
   have nj:∀{G:Prop},(s.2.2.1==0)=false→G:=λc=>by rw[F]at c;cases c
   obtain⟨k1,k2⟩:=LR (A:=A) B u
   have H:∀(b w:Int),(b=g∨b=g+1)→(w=f∨w=f-1∧f≠0)→im (a,i,()) A (C,b,C,a,p++[jW (sd s) 1 0],w,id,e,())∧nB a.1 A (p++[jW (sd s) 1 0])<nB a.1 A o:=
    λb w W X=>K _ b w (by simp) (G6 r k1) (by rw[pP,U];omega) W X
   have hN:mO s<(nM a.1 s 0).length→ae (mO s+1):=λh=>by have:=G3 N B.1 (j:=0) (.inl rfl);unfold ae;omega
   refine⟨D,hB,λ_=>⟨trivial,λd=>⟨D,hB,hN (ai d),hB,λ_=>⟨⟨L,ai d⟩,J _,?_⟩,nj⟩,λd=>⟨trivial,λ_=>⟨trivial,λz=>⟨trivial,⟨trivial,trivial,trivial⟩,trivial,⟨trivial,trivial⟩,⟨trivial,trivial⟩,λgn=>⟨trivial,hP,D,hB,?_⟩,λgn=>⟨⟨trivial,trivial⟩,λ_=>⟨⟨trivial,trivial⟩,trivial,M _ _⟩,λiz=>⟨⟨trivial,trivial⟩,hM,trivial,hP,D,hB,?_⟩⟩⟩,λz=>⟨D,hB,?_⟩⟩,nj⟩⟩,nj⟩
   ·first
     |exact⟨(P 0 u (.inl rfl) (ai d) _ rfl).1⟩
     |exact⟨P 0 u (.inl rfl) (ai d) _ rfl⟩
   ·first
     |exact⟨(H (g+1) f (.inr rfl) (.inl rfl)).1⟩
     |exact⟨H (g+1) f (.inr rfl) (.inl rfl)⟩
   ·first
     |exact⟨(H (g+1) (f-1) (.inr rfl) (.inr ⟨rfl,aA iz⟩)).1⟩
     |exact⟨H (g+1) (f-1) (.inr rfl) (.inr ⟨rfl,aA iz⟩)⟩
   ·first
     |exact⟨(H g f (.inl rfl) (.inl rfl)).1⟩
     |exact⟨H g f (.inl rfl) (.inl rfl)⟩
  ·have F:(s.2.2.1==1)=true:=by show(sK s==1)=true;rw[u];rfl
   have n1:∀{G:Prop},(s.2.2.1==1)=false→G:=λc=>by rw[F]at c;cases c
   have a9:(s.2.2.1==0)=false:=by show(sK s==0)=false;rw[u];rfl
   have yj:∀{G:Prop},(s.2.2.1==0)=true→G:=λc=>by rw[a9]at c;cases c
   have hN:mO s<(nM a.1 s 1).length→ae (mO s+1):=λh=>by have:=G3 N B.1 (j:=1) (.inr rfl);unfold ae;omega
   have PO:p≠[]→im (a,i,()) A (C,g,C,a,p,f,id,e,())∧nB a.1 A p<nB a.1 A o:=
    λh=>K p g f h (λx E=>r x (cG _ E)) (by rw[U];omega) (.inl rfl) (.inl rfl)
   have PN:decide (0<(p.length:Int))=true→p≠[]:=λq e=>by rw[e]at q;cases q
   refine⟨D,hB,yj,λ_=>⟨λ_=>⟨trivial,λd=>⟨D,hB,hN (ai d),hB,yj,λ_=>⟨λ_=>⟨⟨L,ai d⟩,J _,?_⟩,n1⟩⟩,λd=>⟨trivial,yj,λ_=>⟨D,⟨by trivial,by omega,by omega⟩,trivial,λq=>?_,λq=>M _ _⟩⟩⟩,n1⟩⟩
   ·first
     |exact⟨(P 1 u (.inr rfl) (ai d) _ rfl).1⟩
     |exact⟨P 1 u (.inr rfl) (ai d) _ rfl⟩
   ·first
     |exact⟨(PO (PN q)).1⟩
     |exact⟨PO (PN q)⟩) (l:=λ_=>aR λ_=>⟨((0,0,()),0),trivial⟩)
def tr0:Trz:=([((0,0,()),(0,0,0,false,[[],[]],()))],0,())
def tr1:Trz:=([((0,0,()),(0,0,0,false,[[],[(0,1,())]],())),((0,1,()),(0,1,97,false,[[],[]],()))],0,())
def Da:Ct:=⟨2,⟨[V5 0,sI 1],[]⟩,[⟨[(0,true,[.d cO]),sL 1,sI 2],[]⟩],λ(t,i,_)=>eO (pA t∧i≤1000000000) (λy:ID×Bool×Int=>t=tr0→i=0→y=((0,0,()),true,0)) λy=>(y.1,y.2.1,y.2.2,())⟩
def f_:cc:=⟨[V5 0,(4,false,[.ptr 0 0]),(9,false,[.ptr 1 0])],[some (.cells [.d cO]),some (.cells [.d cO])]⟩
def xz(x:Da.inp.den)(y:f_.den):Prop:=match x,y with
 |(a,_,_),(t,_,b,_)=>t=a∧t≠tr0∧(b.1,b.2.1,())∈gQ a.1
noncomputable def fplA (x:Da.inp.den):dG:=⟨[(10,bM f_ (xz x) λ(_,_,a,_)=>wt x.1.1 (ancO x.1.1) (a.1,a.2.1,()))],[],[],[],0⟩
theorem G7{n:ga}{A:ID→List ID}(h:vX n A){k c:ID}{j:Nat}(i:j=0∨j=1)(b:c∈((aU cO k n).getD jz).2.2.2.2.1.getD j []):c∈gQ n∧wt n A c<wt n A k:=by
 cases g:aU cO k n with
 |none=>
  rw[g]at b;rcases i with rfl|rfl<;>simp[jz]at b
 |some v=>
  rw[g,cZ]at b;have m:=iZ g
  have a:c∈iY v:=by
   unfold iY;rcases i with rfl|rfl
   ·exact cG _ b
   ·exact List.mem_append_right _ b
  refine⟨h.key _ m c a,?_⟩;have f:=h.light m
  have o:wt n A c≤((iY v).map (wt n A)).sum:=by
   generalize iY v=l at*;clear f b
   induction l with
   |nil=>cases a
   |cons d l p=>
    simp only[aX,cY];rcases br.1 a with e|e
    ·subst e;omega
    ·have:=p e;omega
  dsimp only at f;omega
abbrev rD(v:Fk×Bool×Int×Unit):aN Da.out:=⟨0,v⟩
def O4:bu:=(149,[Da])::O3
theorem g_:KK O4:=kA e_ fplA (∀(a:List (Fk×gP.den)×Int×Unit)(d:Int)(Q:aN Da.out→Prop),let j:Prop:=(↑(ac a.1):Int)-1-a.2.1<d;let h:=bv ((aU (Ty.i64.pr (Ty.i64.pr Ty.un)) (0,0,()) a.1).getD (0,0,0,false,[[],[]],())).2.2.2.2.1 1 [];let l:=(↑h.length:Int)==0;let z:Prop:=∀(e:List (Fk×gP.den)×Int×Unit)(f c:Fk),let g:=bv ((aU (Ty.i64.pr (Ty.i64.pr Ty.un)) c e.1).getD (0,0,0,false,[[],[]],())).2.2.2.2.1 0 [];xz (a,d,()) (e,f,c,())→Br (decide (0<(↑g.length:Int))) (((0:Int)≤0∧0<(↑g.length:Int))∧Is (xz (a,d,()) (e,f,g.getD 0 (0,0,()),())∧wt a.1 (ancO a.1) (g.getD 0 (0,0,()))<wt a.1 (ancO a.1) c)) (Q (rD (c,false,0,())));(Ct.spec Da (a,d,())).sat Q→Br (decide (d<0)) (Q (rD ((0,0,()),false,6,()))) (pA a∧Br (decide j) (Q (rD ((0,0,()),false,6,()))) (Br (decide (0<d)) (ae (d-1)∧(pA a∧d-(1:Int)≤1000000000)∧∀(b:Fk×Int),let i:=bv ((aU (Ty.i64.pr (Ty.i64.pr Ty.un)) b.1 a.1).getD (0,0,0,false,[[],[]],())).2.2.2.2.1 1 [];let m:=(↑i.length:Int)==0;True→Br m (Q (rD (b.1,true,0,()))) (((0:Int)≤0∧0<(↑i.length:Int))∧Is (xz (a,d,()) (a,(0,0,()),i.getD 0 (0,0,()),()))∧z)) (Br l (Q (rD ((0,0,()),true,0,()))) (((0:Int)≤0∧0<(↑h.length:Int))∧Is (xz (a,d,()) (a,(0,0,()),h.getD 0 (0,0,()),()))∧z))))) (by kernel_rfl) (by
 conv=>zeta
 unfold Br;rintro t i Q ⟨⟨n,s⟩,q⟩;have m:∀(y:ID)(b:Bool)(e:Int),(t=tr0→i=0→(y,b,e)=((0,0,()),true,0))→Q ⟨0,(y,b,e,())⟩:=λy b e h=>q (y,b,e) h;clear q;have r:=Bj n.1;have u:@aZ Int _ i 1000000000:=s
 have loop:t≠tr0→∀k:ID,((((aU cO k t.1).getD jz).2.2.2.2.1.getD 1 []).length:Int)≠0→(0≤(0:Int)∧(0:Int)<(((aU cO k t.1).getD jz).2.2.2.2.1.getD 1 []).length)∧Is (xz (t,i,()) (t,(0,0,()),(((aU cO k t.1).getD jz).2.2.2.2.1.getD 1 []).getD 0 (0,0,()),()))∧
  ∀(f:Trz)(d a:ID),xz (t,i,()) (f,d,a,())→(decide ((0:Int)<(((aU cO a f.1).getD jz).2.2.2.2.1.getD 0 []).length)=true→(0≤(0:Int)∧(0:Int)<(((aU cO a f.1).getD jz).2.2.2.2.1.getD 0 []).length)∧Is (xz (t,i,()) (f,d,(((aU cO a f.1).getD jz).2.2.2.2.1.getD 0 []).getD 0 (0,0,()),())∧wt t.1 (ancO t.1) ((((aU cO a f.1).getD jz).2.2.2.2.1.getD 0 []).getD 0 (0,0,()))<wt t.1 (ancO t.1) a))∧(decide ((0:Int)<(((aU cO a f.1).getD jz).2.2.2.2.1.getD 0 []).length)=false→Q ⟨0,(a,false,0,())⟩):=by
  intro g k o;refine⟨⟨cr _,by omega⟩,⟨⟨rfl,g,(G7 r (.inr rfl) (aT (by omega))).1⟩⟩,?_⟩;rintro f d a ⟨rfl,_,v⟩;refine⟨λc=>?_,λ_=>m _ _ _ λe=>absurd e g⟩;have c:=ai c;have o:=G7 r (k:=a) (j:=0) (.inl rfl) (aT (z:=(0,0,())) (show 0<_ by omega));exact⟨⟨cr _,c⟩,⟨⟨rfl,g,o.1⟩,o.2⟩⟩
 refine⟨λc=>m _ _ _ λ_ e=>?_,λc=>⟨n,λd=>m _ _ _ λw x=>?_,λd=>⟨λp=>⟨?_,⟨n,?_⟩,λb _=>⟨λ_=>m _ _ _ λ_ e=>?_,λk=>loop ?_ b.1 (aA k)⟩⟩,λp=>⟨λ_=>m _ _ _ λ_ _=>rfl,λk=>loop ?_ (0,0,()) (aA k)⟩⟩⟩⟩
 ·subst e;exact absurd c (by decide)
 ·subst w x;exact absurd d (by decide)
 ·have:=ai p;have:@lU Int _ 0 i:=this;unfold ae;omega
 ·have:@aZ Int _ (i-1) 1000000000:=by omega
  exact this
 ·subst e;exact absurd p (by decide)
 ·intro e;have A:=ai p;have B:=am d;subst e;exact B A
 ·intro e;subst e;exact absurd k (by decide)) (l:=λ_=>aR λ_=>⟨((0,0,()),true,0),λ_ _=>rfl⟩)
def zr:Ct:=⟨1,⟨[V5 0],[]⟩,[⟨[(0,false,[.d .st])],[]⟩],λ(t,_)=>one (t=tr1) ([97],())⟩
def g':cc:=⟨[(0,false,[.d .yl]),(1,false,[.ptr 0 0]),(3,false,[.own 1]),sI 4,(90,false,[.ptr 2 0]),(107,false,[.d .yl]),(108,false,[.k (.i64 0)])],[some (.cells [.d (.pf V3)]),some (.sl tSp),some (.cells [.own 3]),some (.sl .i32)]⟩
def lG(a:List Sp)(b:Int)(o:List Int):Nat:=
 if a=[(0,0,0,0,())]∧b=0∧o=[]then 5
 else if a=[(0,0,1,0,())]∧b=0∧o=[]then 4
 else if a=[(0,0,1,1,()),(0,1,0,0,())]∧b=0∧o=[]then 3
 else if a=[(0,0,1,1,()),(0,1,1,0,())]∧b=1∧o=[97]then 2
 else if a=[(0,0,1,1,())]∧b=1∧o=[97]then 1 else 0
def jP(x:zr.inp.den)(y:g'.den):Prop:=match x,y with
 |(a,_),(l,b,c,t,e,o,_)=>l=c∧t=a∧0<lG e b o
def h_(x:zr.inp.den):tG:=bM g' (jP x) λ(_,a,_,_,b,o,_)=>lG b a o
def a4z(x:zr.inp.den):dG:=⟨[],[(1003,h_ x)],[(0,0,h_ x)],[],0⟩
theorem a40{a:List Sp}{b:Int}{o:List Int}(h:0<lG a b o):(a=[(0,0,0,0,())]∧b=0∧o=[])∨(a=[(0,0,1,0,())]∧b=0∧o=[])∨(a=[(0,0,1,1,()),(0,1,0,0,())]∧b=0∧o=[])∨(a=[(0,0,1,1,()),(0,1,1,0,())]∧b=1∧o=[97])∨(a=[(0,0,1,1,())]∧b=1∧o=[97]):=by
 unfold lG at h;split at h
 ·exact .inl ‹_›
 split at h
 ·exact .inr (.inl ‹_›)
 split at h
 ·exact .inr (.inr (.inl ‹_›))
 split at h
 ·exact .inr (.inr (.inr (.inl ‹_›)))
 split at h
 ·exact .inr (.inr (.inr (.inr ‹_›)))
 ·cases h
abbrev G8(v:BL×Unit):aN zr.out:=⟨0,v⟩
def O5:bu:=(51,[zr])::O4
theorem i_:KK O5:=kA g_ a4z (∀(g:List (Fk×gP.den)×Int×Unit)(Q:aN zr.out→Prop),(Ct.spec zr (g,())).sat Q→True∧(true=true∧1+(rU (λp=>(768+p.1,p.2)) [(0,0)]).length≤87∧true=true)∧∀(l:Nat),true=true∧(true=true∧Is (jP (g,()) (l,0,l,g,[(0,0,0,0,())],[],()))∧∀(h:Nat)(d:Int)(i:Nat)(c:List (Fk×gP.den)×Int×Unit)(a:List (Int×Int×Fk))(e:List Int),jP (g,()) (h,d,i,c,a,e,())→Is (jP (g,()) (h,d,i,c,a,e,()))∧∀(m:Nat)(j:Int)(n:Nat)(f:List (Fk×gP.den)×Int×Unit)(b:List (Int×Int×Fk))(k:List Int),let q:=(↑b.length:Int)-1;let U:Prop:=0<(↑(cS q.toNat b).length:Int);let F:Prop:=0≤(↑b.length:Int)-1∧(↑b.length:Int)-1<(↑b.length:Int);let o:=b.getD q.toNat (0,0,0,0,());let W:= !(o.1==0&&o.2.1==0);let v:=o.2.2.1==1;let G:Prop:=v=false→False∧True;let H:=Int.toNat o.2.2.2.1;let w:=o.2.2.1==0;let J:=(b.set q.toNat (o.1,o.2.1,o.2.2.1,o.2.2.2.1+1,())).length+1;let S:=(aU (Ty.i64.pr (Ty.i64.pr Ty.un)) (o.1,o.2.1,()) f.1).getD (0,0,0,false,[[],[]],());let x:=bv S.2.2.2.2.1 ((5-1-1-1-1)/1) [];let K:=x.getD H (0,0,());let X:Prop:=o.2.2.2.1<(↑x.length:Int);let y:=bv S.2.2.2.2.1 ((4-1-1-1-1)/1) [];let L:=y.getD H (0,0,());let Y:Prop:=o.2.2.2.1<(↑y.length:Int);let z5:Prop:=true=true∧Br w (true=true∧Br W (false=false∧(true=true∧(none:Option (Nat×Bool))=none∧2=2)∧m=n∧(false=false∧true=true)∧(false=false∧true=true)∧Br (!S.2.2.2.1) ((false=false∧true=true)∧(k.length+1)*4≤140737488355328∧true=true∧ae (j+1)∧ae q∧F∧Is (jP (g,()) (m,j+1,n,f,b.set q.toNat (o.1,o.2.1,1,0,()),k++[S.2.2.1],()))) (true=true∧ae (j+1)∧ae q∧F∧Is (jP (g,()) (m,j+1,n,f,b.set q.toNat (o.1,o.2.1,1,0,()),k,())))) (ae q∧F∧Is (jP (g,()) (m,j,n,f,b.set q.toNat (o.1,o.2.1,1,0,()),k,())))) (ae q∧((0:Int)=0∧0≤(↑b.length:Int)-1∧(↑b.length:Int)-1≤(↑b.length:Int))∧true=true∧Br (decide U) (Is (jP (g,()) (m,j,n,f,cS q.toNat b,k,()))) (Q (G8 (Wi k,()))));let z4:Prop:=ae q∧F∧ae (o.2.2.2.1+1)∧F∧Br w ((0≤o.2.2.2.1∧o.2.2.2.1<(↑y.length:Int))∧J*32≤140737488355328∧Is (jP (g,()) (m,j,n,f,b.set q.toNat (o.1,o.2.1,o.2.2.1,o.2.2.2.1+1,())++[(L.1,L.2.1,0,0,())],k,()))) ((v=true→(0≤o.2.2.2.1∧o.2.2.2.1<(↑x.length:Int))∧J*32≤140737488355328∧Is (jP (g,()) (m,j,n,f,b.set q.toNat (o.1,o.2.1,o.2.2.1,o.2.2.2.1+1,())++[(K.1,K.2.1,0,0,())],k,())))∧G);jP (g,()) (m,j,n,f,b,k,())→ae q∧F∧Br w (true=true∧Br (decide Y) z4 z5) ((v=true→true=true∧Br (decide X) z4 z5)∧G))∧∀(h:Nat)(d:Int)(i:Nat)(c:List (Fk×gP.den)×Int×Unit)(a:List (Int×Int×Fk))(e:List Int),let s:Prop:=0≤(↑a.length:Int)-1∧(↑a.length:Int)-1<(↑a.length:Int);let r:=(↑a.length:Int)-1;let M:=cS r.toNat a;let z:=a.getD r.toNat (0,0,0,0,());let a0:= !(z.1==0&&z.2.1==0);let A:=z.2.2.1==1;let N:Prop:=A=false→False∧True;let B:=z.2.2.1==0;let O:=(a.set r.toNat (z.1,z.2.1,z.2.2.1,z.2.2.2.1+1,())).length+1;let C:=a.set r.toNat (z.1,z.2.1,1,0,());let P:=Int.toNat z.2.2.2.1;let R:=(aU (Ty.i64.pr (Ty.i64.pr Ty.un)) (z.1,z.2.1,()) c.1).getD (0,0,0,false,[[],[]],());let D:=bv R.2.2.2.2.1 ((5-1-1-1-1)/1) [];let a1:Prop:=z.2.2.2.1<(↑D.length:Int);let t:=D.getD P (0,0,());let E:=bv R.2.2.2.2.1 ((4-1-1-1-1)/1) [];let a2:Prop:=z.2.2.2.1<(↑E.length:Int);let u:=E.getD P (0,0,());let z3:Prop:=true=true∧Br B (true=true∧Br a0 (false=false∧(true=true∧(none:Option (Nat×Bool))=none∧2=2)∧h=i∧(false=false∧true=true)∧(false=false∧true=true)∧Br (!R.2.2.2.1) ((false=false∧true=true)∧(e.length+1)*4≤140737488355328∧true=true∧ae (d+1)∧ae r∧s∧Is (jP (g,()) (h,d+1,i,c,a.set r.toNat (z.1,z.2.1,1,0,()),e++[R.2.2.1],())∧lG C (d+1) (e++[R.2.2.1])<lG a d e)) (true=true∧ae (d+1)∧ae r∧s∧Is (jP (g,()) (h,d+1,i,c,a.set r.toNat (z.1,z.2.1,1,0,()),e,())∧lG C (d+1) e<lG a d e))) (ae r∧s∧Is (jP (g,()) (h,d,i,c,a.set r.toNat (z.1,z.2.1,1,0,()),e,())∧lG C d e<lG a d e))) (ae r∧((0:Int)=0∧0≤(↑a.length:Int)-1∧(↑a.length:Int)-1≤(↑a.length:Int))∧true=true∧Br (decide (0<(↑M.length:Int))) (Is (jP (g,()) (h,d,i,c,cS r.toNat a,e,())∧lG M d e<lG a d e)) (Q (G8 (Wi e,()))));let z2:Prop:=ae r∧s∧ae (z.2.2.2.1+1)∧s∧Br B ((0≤z.2.2.2.1∧z.2.2.2.1<(↑E.length:Int))∧O*32≤140737488355328∧Is (jP (g,()) (h,d,i,c,a.set r.toNat (z.1,z.2.1,z.2.2.1,z.2.2.2.1+1,())++[(u.1,u.2.1,0,0,())],e,())∧lG (a.set r.toNat (z.1,z.2.1,z.2.2.1,z.2.2.2.1+1,())++[(u.1,u.2.1,0,0,())]) d e<lG a d e)) ((A=true→(0≤z.2.2.2.1∧z.2.2.2.1<(↑D.length:Int))∧O*32≤140737488355328∧Is (jP (g,()) (h,d,i,c,a.set r.toNat (z.1,z.2.1,z.2.2.1,z.2.2.2.1+1,())++[(t.1,t.2.1,0,0,())],e,())∧lG (a.set r.toNat (z.1,z.2.1,z.2.2.1,z.2.2.2.1+1,())++[(t.1,t.2.1,0,0,())]) d e<lG a d e))∧N);jP (g,()) (h,d,i,c,a,e,())→ae r∧s∧Br B (true=true∧Br (decide a2) z2 z3) ((A=true→true=true∧Br (decide a1) z2 z3)∧N)) (by kernel_rfl) (by
 conv=>zeta
 unfold Br;rintro t Q ⟨b,c⟩;subst b;refine⟨trivial,⟨rfl,by decide,rfl⟩,λl=>⟨rfl,⟨rfl,⟨⟨rfl,rfl,by decide⟩⟩,λg i j m n p h=>⟨⟨h⟩,?_⟩⟩,?_⟩⟩
 all_goals
  rintro q r s u v o ⟨e,f,a⟩;subst e f;rcases a40 a with⟨rfl,rfl,rfl⟩|⟨rfl,rfl,rfl⟩|⟨rfl,rfl,rfl⟩|⟨rfl,rfl,rfl⟩|⟨rfl,rfl,rfl⟩
  all_goals
   clear a
   (repeat' (first|apply bQ|(intro h;first|exact absurd h (by decide)|clear h)))<;>first
    |trivial
    |rfl
    |(unfold ae;decide)
    |decide
    |exact⟨⟨rfl,rfl,by decide⟩⟩
    |exact⟨⟨rfl,rfl,by decide⟩,by decide⟩
    |exact c)
abbrev cN:Option CP:=some (.cells [.d .i64])
def O6(m:Mk):Prop:=0≤m.1∧m.1≤1099511627776∧0≤m.2.1∧m.2.1<5
def LV:Ct:=⟨3,⟨[(0,true,[.d eV]),sI 1,(2,false,[.ptr 0 0])],[cN]⟩,[⟨[sI 0],[cN]⟩],λ(m,t,a,_)=>eO (O6 m∧0≤t∧t≤1099511627776∧0≤a∧a<5) (λ_:Int=>True) λy=>(y,a,())⟩
abbrev zs(v:Fk):aN LV.out:=⟨0,v⟩
def O7:bu:=(205,[LV])::O5
theorem j_:KK O7:=kA i_ (cv LV 0) (∀(a:eV.den)(c b:Int)(Q:aN LV.out→Prop),(Tr.need (O6 a∧0≤c∧c≤1099511627776∧0≤b∧b<5) (Tr.all Int (λa=>True) λy=>Tr.leaf (zs (y,b,())))).sat Q→Br (!a.1==c) (ae (a.1-c)∧Q (zs (a.1-c,b,()))) (ae (a.2.1-b)∧Q (zs (a.2.1-b,b,())))) (by kernel_rfl) (by
 unfold Br;rintro⟨s,u,h,i,j,m,n,o,p,q,⟨⟩⟩ t a Q ⟨⟨⟨b,c,e,f⟩,r,v,w,x⟩,g⟩;have b:@aZ Int _ 0 s:=b;have c:@aZ Int _ s 1099511627776:=c;have e:@aZ Int _ 0 u:=e;have f:@lU Int _ u 5:=f;exact⟨λ_=>⟨by show ae (@bG Int Int Int _ s t);unfold ae;omega,g _ trivial⟩,λ_=>⟨by show ae (@bG Int Int Int _ u a);unfold ae;omega,g _ trivial⟩⟩) (l:=λ_=>aR λ_=>⟨0,trivial⟩)
theorem Tl{x:Int}(h0:0≤x)(a:x≤10000000):IntKind.i64.wrap ((bc 64 x>>>1).toNat:Int)=x/2:=by
 rw[dj];rw[BitVec.toNat_ushiftRight,BitVec.toNat_ofInt,Nat.shiftRight_eq_div_pow];omega
def Db:Ct:=⟨3,⟨[(0,false,[.d (.sl eV)]),sI 1,(2,false,[.fn 205 [] [(0,0)]])],[cN]⟩,[⟨[sI 0,sL 1],[cN]⟩],λ(l,t,a,_)=>eO (l.length≤1000000∧(∀m∈l,O6 m)∧0≤t∧t≤1099511627776∧0≤a∧a<5) (λy:Int×Bool=>0≤y.1∧y.1≤l.length) λy=>(y.1,y.2,a,())⟩
def k_:cc:=⟨[(0,false,[.d (.sl eV)]),sI 1,(2,false,[.fn 205 [] [(0,0)]]),sI 8,sI 9,sI 10],[cN]⟩
def G9(x:Db.inp.den)(y:k_.den):Prop:=match x,y with
 |(b,c,e,_),(l,t,n,i,j,a,_)=>l=b∧t=c∧a=e∧n=b.length∧@aZ Int _ 0 i∧@aZ Int _ i j∧@aZ Int _ j b.length
def a41(x:Db.inp.den):dG:=⟨[(3,bM k_ (G9 x) λ(_,_,_,i,j,_)=>(@bG Int Int Int _ j i).toNat)],[],[],[],0⟩
abbrev Ha(v:Int×Bool×Int×Unit):aN Db.out:=⟨0,v⟩
def O8:bu:=(204,[Db])::O7
theorem O9:KK O8:=kA j_ a41 (∀(e:List eV.den)(h i:Int)(Q:aN Db.out→Prop),(Ct.spec Db (e,h,i,())).sat Q→Is (G9 (e,h,i,()) (e,h,(↑e.length:Int),0,(↑e.length:Int),i,()))∧∀(f:List eV.den)(g j a c d:Int),let l:Prop:=0≤g∧g≤1099511627776∧0≤d∧d<5;let z:=bc 64 (a+c)>>>1;let m:=IntKind.i64.wrap (↑z.toNat:Int)+1;G9 (e,h,i,()) (f,g,j,a,c,d,())→Br (decide (a<c)) (ae (a+c)∧(0≤IntKind.i64.wrap (↑z.toNat:Int)∧IntKind.i64.wrap (↑z.toNat:Int)<(↑f.length:Int))∧(O6 (f.getD (IntKind.i64.wrap (↑z.toNat:Int)).toNat (0,0,0,0,false,0,0,false,0,0,()))∧l)∧∀(b:Int),True→Br (decide (b<0)) (ae m∧Is (G9 (e,h,i,()) (f,g,j,IntKind.i64.wrap (↑z.toNat:Int)+1,c,d,())∧(c-m).toNat<(c-a).toNat)) (Is (G9 (e,h,i,()) (f,g,j,a,IntKind.i64.wrap (↑z.toNat:Int),d,())∧(IntKind.i64.wrap (↑z.toNat:Int)-a).toNat<(c-a).toNat))) (Br (decide (a<j)) ((0≤a∧a<(↑f.length:Int))∧(O6 (f.getD a.toNat (0,0,0,0,false,0,0,false,0,0,()))∧l)∧∀(b:Int),True→Q (Ha (a,b==0,d,()))) (Q (Ha (a,false,d,()))))) (by kernel_rfl) (by
 conv=>zeta
 unfold Br;rintro l t a Q ⟨⟨s,m,o⟩,p⟩;have q:∀(y:Int)(b:Bool),0≤y∧y≤l.length→Q ⟨0,(y,b,a,())⟩:=λy b h=>p (y,b) h;clear p;refine⟨⟨rfl,rfl,rfl,rfl,cr _,Int.natCast_nonneg _,cr _⟩,?_⟩;rintro r u n i j v ⟨rfl,rfl,rfl,rfl,e,g,f⟩;have e:@aZ Int _ 0 i:=e;have g:@aZ Int _ i j:=g;have f:@aZ Int _ j r.length:=f;refine⟨λc=>?_,λc=>⟨λd=>?_,λd=>q _ _ ⟨e,Int.le_trans g f⟩⟩⟩
 ·have c:=ai c;rw[Tl (x:=i+j) (by omega) (by omega)];refine⟨by unfold ae;omega,⟨by omega,by omega⟩,⟨m _ (aT (by omega)),o⟩,λb _=>⟨λ_=>⟨by unfold ae;omega,⟨rfl,rfl,rfl,rfl,?_,?_,f⟩,by omega⟩,λ_=>⟨⟨rfl,rfl,rfl,rfl,e,?_,?_⟩,by omega⟩⟩⟩
  ·show @aZ Int _ 0 ((i+j)/2+1);omega
  ·show @aZ Int _ ((i+j)/2+1) j;omega
  ·show @aZ Int _ i ((i+j)/2);omega
  ·show @aZ Int _ ((i+j)/2) r.length;omega
 ·have d:=ai d;exact⟨⟨e,d⟩,⟨m _ (aT (by omega)),o⟩,λb _=>q _ _ ⟨e,Int.le_trans g f⟩⟩) (l:=λ_=>aR λ_=>⟨(0,false),cr _,Int.natCast_nonneg _⟩)
end Go.Tp
namespace Go.Tp
open Go.Hv Go.Proofs Go.RowKit Go.Lib Go.Shelf
set_option maxRecDepth 100000
set_option maxHeartbeats 0
section
theorem eU{P:Program}(w:World)(n q ty elem:TypeId)(b o c f:Nat)(a:Addr)(e g z:Nat)(cs:List Value)
 (r:P.underlying n=some (.slice elem)) (p:(P.info? elem).map (·.size)=some z) (s:cs.length=Nat.min e c*z)
 (h:∀j v,cs[j]?=some v→w.cell? (a.add j)=some v) (t:∀j,j<cs.length→(w.cell? ⟨b,o+j,none⟩).isSome=true) (u:∀j,j<cs.length→w.frozen? ⟨b,o+j,none⟩=false) (x:∀v∈cs,v.oneCell'=true):
 (Builtin.copy_ #[n,q] ty #[.slice (some ⟨b,o,none⟩) c f, .slice (some a) e g]).run P w= .ok (goInt (Nat.min e c)) (w.setCells b o cs):=by
 have y:=run_loadCells_list (P:=P) w a cs h;have l:=run_storeCells_cells (P:=P) b o cs 0 w (by simpa using t) (by simpa using u) x;cases m:P.info? elem with
 |none=>simp[m]at p
 |some i=>
  have A:i.size=z:=by simpa[m]using p
  simp[Builtin.copy_,run_underlying r,Builtin.lenOf,Builtin.firstCells,sizeOf,typeInfo,m,A,←s,y,l]
section
set_option maxHeartbeats 4000000
set_option maxRecDepth 100000
theorem vk:(Tryz.prog.info? 214).map (·.size)=some 10:=by kernel_rfl
theorem Dc(b n c i a vc:Nat)(cs vs:List Value)(w:World)(hi:i<n)(B:n+1≤c)(a0:n≤1000000)(q:a≠b)
 (C:cs.length=n*10) (D:vs.length=10)
 (E:∀j v,cs[j]?=some v→w.cell? ⟨b,j,none⟩=some v) (l:∀j,j<(n+1)*10→(w.cell? ⟨b,j,none⟩).isSome=true) (r:∀j,w.frozen? ⟨b,j,none⟩=false)
 (F:∀j v,vs[j]?=some v→w.cell? ⟨a,j,none⟩=some v) (G:∀v∈cs,v.oneCell'=true) (H:∀v∈vs,v.oneCell'=true)
 (S tB:TypeId) (kA J:Nat) (K:w.shape? a=some (S,kA)) (L:w.shape? b=some (tB,J)) (M:J≠0) (s:∀j,w.frozen? ⟨a,j,none⟩=false):
 Calls Tryz.prog 184 #[.slice (some ⟨b,0,none⟩) n c, .int .i64 i, .slice (some ⟨a,0,none⟩) 1 vc] w λe w'=>
  e= .returned (.slice (some ⟨b,0,none⟩) (n+1) c)∧w'=(w.drew.setCells b ((i+1)*10) (cs.drop (i*10))).setCells b (i*10) vs:=by
 have N:=sE;have U:=Tryz.sizeOf214;have u3:=Tryz.runUnderlying3;have X:=Tryz.runUnderlying233;have a1:¬((i:Int)=(n:Int)):=by omega
 have a2:IntKind.i64.wrap ((i:Int)+1)=(i:Int)+1:=by rw[IntKind.wrap_i64];omega
 have a3:IntKind.i64.wrap ((n:Int)+1)=(n:Int)+1:=by rw[IntKind.wrap_i64];omega
 have a4:(0:Int)≤(i:Int)+1:=by omega
 have a5:i≤n:=by omega
 have a6:((i:Int)+1).toNat=i+1:=by omega
 have Y:((n:Int)+1).toNat=n+1:=by omega
 have a7:¬(c=i+1):=by omega
 have a8:(i:Int)≤(n:Int)+1:=by omega
 have a9:¬(c=i):=by omega
 have O:∀o P Q,(callFunc 206 #[.slice (some ⟨a,0,none⟩) 1 vc, .slice (some ⟨b,o,none⟩) P Q]).run Tryz.prog w= .ok (.value (.bool false)) w:=λo P Q=>by
  rw[run_callFunc_extern Tryz.func206 (by kernel_rfl) (by kernel_rfl) (by kernel_rfl) (e:=Extern.SlicesOverlaps.overlaps #[233,233] #[4]) (by kernel_rfl),
   Lib.run_overlaps_apart w 233 4 214 Tryz.underlying233 10 Tryz.sizeOf214 ⟨a,0,none⟩ ⟨b,o,none⟩ 1 vc P Q q S tB kA J K L M (s _) (s _)]
  rfl
 have t:(cs.drop (i*10)).length=(n-i)*10:=by rw[List.length_drop,C];omega
 have g:∀m p sc,(Builtin.copy_ #[233,233] m #[.slice (some ⟨b,(i+1)*10,none⟩) (n-i) p, .slice (some ⟨b,i*10,none⟩) (n+1-i) sc]).run Tryz.prog w.drew= .ok (goInt (Nat.min (n+1-i) (n-i))) (w.drew.setCells b ((i+1)*10) (cs.drop (i*10))):=λm p sc=>
  eU w.drew _ _ m 214 b ((i+1)*10) (n-i) p ⟨b,i*10,none⟩ (n+1-i) sc 10 (cs.drop (i*10)) Tryz.underlying233 vk (by rw[t];simp only[Nat.min_def];split<;>omega)
   (λj v f=>by rw[Addr.add_lit];exact E (i*10+j) v (by rwa [List.getElem?_drop]at f))
   (λj f=>l _ (by omega)) (λj f=>r _) (λv hv=>G v (List.mem_of_mem_drop hv))
 obtain⟨u,hW1⟩:∃u,u=w.drew.setCells b ((i+1)*10) (cs.drop (i*10)):=⟨_,rfl⟩
 have y:∀k,k<(n+1)*10→(u.cell? ⟨b,k,none⟩).isSome=true:=λk hk=>by
  rw[hW1];exact isSome_setCells b (cs.drop (i*10)) ((i+1)*10) w.drew (λj f=>l _ (by rw[t]at f;omega)) _ (l k hk)
 have z:∀(W:World),(∀x,W.cell? x=u.cell? x)→(∀x,W.frozen? x=u.frozen? x)→∀m p,(Builtin.copy_ #[233,233] m #[.slice (some ⟨b,i*10,none⟩) (n+1-i) p, .slice (some ⟨a,0,none⟩) 1 vc]).run Tryz.prog W= .ok (goInt (Nat.min 1 (n+1-i))) (W.setCells b (i*10) vs):=λW A R m p=>
  eU W _ _ m 214 b (i*10) (n+1-i) p ⟨a,0,none⟩ 1 vc 10 vs Tryz.underlying233 vk (by rw[D];simp only[Nat.min_def];split<;>omega)
   (λj v f=>by
    rw[Addr.add_lit,A,hW1,World.cell?_setCells_out b _ _ _ _ (λh _=>absurd h q),Nat.zero_add];exact F j v f)
   (λj f=>by rw[A];exact y _ (by omega)) (λj f=>by rw[R,hW1,World.frozen?_setCells];exact r _) H
 rw[←hW1]at g
 go_enter Tryz.func184,Tryz.ntmps184
 go_wp2_with (simp only[O])
 go_region_law_o (refine step_copy_runI rfl _ _ 233 233 rfl _ _ (by simp[Act.eval,Act.put]) (by simp[Act.eval,Act.put]) (g _ _ _) ?_)
 go_wp2_with (at_builtin;refine wpList_copy_runI _ rfl _ _ 233 233 rfl _ _ rfl rfl (z _ (λ_=>rfl) (λ_=>rfl) _ _) ?_)
 go_ret
 first|exact⟨rfl,rfl⟩|exact⟨rfl,by rw[hW1]⟩
abbrev Bl:Value:= .agg #[.int .i64 0, .int .i64 0, .int .i64 0, .int .i64 0, .bool false, .int .i64 0, .int .i64 0, .bool false, .int .i64 0, .int .i64 0]
theorem Hb(b n c i vb vc:Nat)(cs vs:List Value)(w:World)(hi:i<n)(hnc:n≤c)(hroom:c<n+1)(hn6:n≤1000000)
 (hcl:cs.length=n*10) (hvl:vs.length=10)
 (hcs:∀j v,cs[j]?=some v→w.cell? ⟨b,j,none⟩=some v)
 (hvs:∀j v,vs[j]?=some v→w.cell? ⟨vb,j,none⟩=some v) (h1c:∀v∈cs,v.oneCell'=true) (h1v:∀v∈vs,v.oneCell'=true):
 Calls Tryz.prog 184 #[.slice (some ⟨b,0,none⟩) n c, .int .i64 i, .slice (some ⟨vb,0,none⟩) 1 vc] w λe w'=>
  e= .returned (.slice (some ⟨w.heap.size,0,none⟩) (n+1) (grownCap w (n+1) c 214))∧
  w'=(((w.alloc (.cells ((cs.take (i*10)).toArray++Builtin.zeroCells Bl.cells (n+1-i)++Builtin.zeroCells Bl.cells (grownCap w (n+1) c 214-(n+1))) 214)).drew.setCells w.heap.size (i*10) vs).drew).setCells w.heap.size ((i+1)*10) (cs.drop (i*10)):=by
 have mixed:=sE;have z214:=Tryz.sizeOf214;have u3:=Tryz.runUnderlying3;have u233:=Tryz.runUnderlying233;obtain⟨i0,hi0,hz0,hzs,hzb⟩:=info_parts (P:=Tryz.prog) (e:=214) (z:=Bl) (size:=10) (bytes:=80) (by kernel_rfl);have hz2:¬((i:Int)=(n:Int)):=by omega
 have hz3:(c:Int)<(n:Int)+1:=by omega
 have hbw:b<w.heap.size:=block_lt_of_cell (hcs 0 _ (List.getElem?_eq_getElem (by omega)));have hvw:vb<w.heap.size:=block_lt_of_cell (hvs 0 _ (List.getElem?_eq_getElem (by omega)));have hkk:(n:Int)+1-(i:Int)=((n+1-i:Nat):Int):=by omega
 have hik:i+(n+1-i)=n+1:=by omega
 have hold:(Builtin.firstCells i0.size i (.slice (some ⟨b,0,none⟩) i c)).run Tryz.prog w.drew= .ok (cs.take (i*10)).toArray w.drew:=by
  rw[hzs]
  exact run_firstCells_some w.drew 10 i ⟨b,0,none⟩ i c (cs.take (i*10)) (by rw[List.length_take];omega) (λj v hj=>by
   rw[Addr.add_lit,Nat.zero_add];rw[List.getElem?_take]at hj;split at hj
   ·exact hcs j v hj
   ·cases hj)
 have hrz:∀ty,(Builtin.append_ #[233,3] ty #[.slice (some ⟨b,0,none⟩) i c, .int .i64 ((n:Int)+1-(i:Int))]).run Tryz.prog w=
  .ok (.slice (some ⟨w.heap.size,0,none⟩) (n+1) (grownCap w (n+1) c 214)) (w.drew.alloc (.cells ((cs.take (i*10)).toArray++Builtin.zeroCells Bl.cells (n+1-i)++Builtin.zeroCells Bl.cells (grownCap w (n+1) c 214-(n+1))) 214)):=λty=>by
  have h:=Lib.run_append_grow_zeros w 233 3 ty 214 i0 _ .i64 .i64 Tryz.underlying233 Tryz.underlying3 hi0 hz0 (some ⟨b,0,none⟩) i c (cs.take (i*10)) hold (n+1-i) (by omega) (by omega) (by omega) (by omega) (by rw[hzb];omega) (by rw[hzb,hik];exact growslice_fits hroom (by omega));rw[hik]at h;rw[hkk];exact h
 obtain⟨G,hG⟩:∃G,G=grownCap w (n+1) c 214:=⟨_,rfl⟩;obtain⟨ROW,hROW⟩:∃ROW:Array Value,ROW=(cs.take (i*10)).toArray++Builtin.zeroCells Bl.cells (n+1-i)++Builtin.zeroCells Bl.cells (G-(n+1)):=⟨_,rfl⟩;rw[←hG]at hrz⊢;rw[←hROW]at hrz⊢
 have hRl:(n+1)*10≤ROW.size:=by
  rw[hROW];simp[Builtin.zeroCells,Value.cells,hcl];omega
 obtain⟨W1,hW1⟩:∃W1,W1=w.drew.alloc (.cells ROW 214):=⟨_,rfl⟩;rw[←hW1]at hrz
 have hN:∀j,j<(n+1)*10→(W1.cell? ⟨w.heap.size,j,none⟩).isSome=true:=λj hj=>by
  rw[hW1,World.cell?_alloc_at (w:=w.drew) ROW _ w.heap.size j rfl,Array.getElem?_eq_getElem (by omega)];rfl
 have hNf:∀j,W1.frozen? ⟨w.heap.size,j,none⟩=false:=λj=>by rw[hW1];exact World.frozen?_alloc_at (w:=w.drew) ROW _ w.heap.size j rfl
 have hOb:∀j v,w.cell? ⟨b,j,none⟩=some v→W1.cell? ⟨b,j,none⟩=some v:=λj v h=>by rw[hW1,World.cell?_alloc_past (w:=w.drew) _ b j hbw];exact h
 have hOv:∀j v,w.cell? ⟨vb,j,none⟩=some v→W1.cell? ⟨vb,j,none⟩=some v:=λj v h=>by rw[hW1,World.cell?_alloc_past (w:=w.drew) _ vb j hvw];exact h
 have hcpA:∀(W:World),(∀x,W.cell? x=W1.cell? x)→(∀x,W.frozen? x=W1.frozen? x)→∀ty dc,(Builtin.copy_ #[233,233] ty #[.slice (some ⟨w.heap.size,i*10,none⟩) (n+1-i) dc, .slice (some ⟨vb,0,none⟩) 1 vc]).run Tryz.prog W= .ok (goInt (Nat.min 1 (n+1-i))) (W.setCells w.heap.size (i*10) vs):=λW hWc hWf ty dc=>
  eU W _ _ ty 214 w.heap.size (i*10) (n+1-i) dc ⟨vb,0,none⟩ 1 vc 10 vs Tryz.underlying233 vk (by rw[hvl];simp only[Nat.min_def];split<;>omega)
   (λj v hj=>by rw[Addr.add_lit,hWc,Nat.zero_add];exact hOv _ v (hvs j v hj))
   (λj hj=>by rw[hWc];exact hN _ (by omega)) (λj hj=>by rw[hWf];exact hNf _) h1v
 have hGn:n+1≤G:=by rw[hG];exact grownCap_ge w _ _ _
 have hG63:G≤9223372036854775807:=by
  have:=grownCap_le_maxLen w (n+1) c 214 (by unfold maxLen;omega);rw[←hG]at this;unfold maxLen at this;omega
 have hGi:¬(G=i):=by omega
 have hGim:¬(G=i+1):=by omega
 have hci:¬(c=i):=by omega
 have hbN:b≠w.heap.size:=by omega
 have hdl:(cs.drop (i*10)).length=(n-i)*10:=by rw[List.length_drop,hcl];omega
 have hcpB:∀(W:World),(∀x,W.cell? x=(W1.setCells w.heap.size (i*10) vs).cell? x)→(∀x,W.frozen? x=(W1.setCells w.heap.size (i*10) vs).frozen? x)→∀ty dc sc,(Builtin.copy_ #[233,233] ty #[.slice (some ⟨w.heap.size,(i+1)*10,none⟩) (n-i) dc, .slice (some ⟨b,i*10,none⟩) (n-i) sc]).run Tryz.prog W= .ok (goInt (Nat.min (n-i) (n-i))) (W.setCells w.heap.size ((i+1)*10) (cs.drop (i*10))):=λW hWc hWf ty dc sc=>
  eU W _ _ ty 214 w.heap.size ((i+1)*10) (n-i) dc ⟨b,i*10,none⟩ (n-i) sc 10 (cs.drop (i*10)) Tryz.underlying233 vk (by rw[hdl];simp only[Nat.min_def];split<;>omega)
   (λj v hj=>by
    rw[Addr.add_lit,hWc,World.cell?_setCells_out _ _ _ _ _ (λh _=>absurd h hbN)];exact hOb _ v (hcs (i*10+j) v (by rwa [List.getElem?_drop]at hj)))
   (λj hj=>by rw[hWc];exact isSome_setCells _ vs (i*10) W1 (λt ht=>hN _ (by rw[hvl]at ht;omega)) _ (hN _ (by omega)))
   (λj hj=>by rw[hWf,World.frozen?_setCells];exact hNf _) (λv hv=>h1c v (List.mem_of_mem_drop hv))
 subst hW1;have hE1:∀x,((w.alloc (.cells ROW 214)).drew).cell? x=(w.drew.alloc (.cells ROW 214)).cell? x:=λx=>rfl;have hE2:∀x,((w.alloc (.cells ROW 214)).drew).frozen? x=(w.drew.alloc (.cells ROW 214)).frozen? x:=λx=>rfl;have hF1:∀x,(((w.alloc (.cells ROW 214)).drew.setCells w.heap.size (i*10) vs).drew).cell? x=((w.drew.alloc (.cells ROW 214)).setCells w.heap.size (i*10) vs).cell? x:=λx=>rfl;have hF2:∀x,(((w.alloc (.cells ROW 214)).drew.setCells w.heap.size (i*10) vs).drew).frozen? x=((w.drew.alloc (.cells ROW 214)).setCells w.heap.size (i*10) vs).frozen? x:=λx=>rfl;have hw1:IntKind.i64.wrap ((i:Int)+1)=(i:Int)+1:=by rw[IntKind.wrap_i64];omega
 have hw2:IntKind.i64.wrap ((n:Int)+1)=(n:Int)+1:=by rw[IntKind.wrap_i64];omega
 have hw3:IntKind.i64.wrap ((n:Int)+1-(i:Int))=(n:Int)+1-(i:Int):=by rw[IntKind.wrap_i64];omega
 have hb1:(0:Int)≤(i:Int)+1:=by omega
 have hin:i≤n:=by omega
 have htn:((i:Int)+1).toNat=i+1:=by omega
 have hb3:(i:Int)≤(n:Int):=by omega
 clear hkk hik hold hROW hG hRl
 go_enter Tryz.func184,Tryz.ntmps184
 go_wp2_with (first
  |(at_builtin;refine Lib.wpList_append_run _ rfl _ _ _ _ rfl _ _ rfl rfl _ _ (hrz _) ?_)
  |(at_builtin;refine wpList_copy_runI _ rfl _ _ 233 233 rfl _ _ rfl rfl (hcpA _ hE1 hE2 _ _) ?_)
  |(at_builtin;refine wpList_copy_runI _ rfl _ _ 233 233 rfl _ _ rfl rfl (hcpB _ (λ_=>rfl) (λ_=>rfl) _ _ _) ?_))
 go_region_law_o (refine step_copy_runI rfl _ _ 233 233 rfl (.slice (some ⟨w.heap.size,(i+1)*10,none⟩) (n-i) (G-(i+1))) (.slice (some ⟨b,i*10,none⟩) (n-i) (c-i)) (by simp[Act.eval,Act.put]) (by simp[Act.eval,Act.put]) (hcpB _ hF1 hF2 3 (G-(i+1)) (c-i)) ?_)
 go_wp2
 go_ret
 exact⟨rfl,rfl⟩
theorem vl(b n c g vc:Nat)(vs:List Value)(w:World)(a:n+1≤c)(D:n≤1000000)
 (m:vs.length=10) (o:∀j,j<(n+1)*10→(w.cell? ⟨b,j,none⟩).isSome=true) (p:∀j,w.frozen? ⟨b,j,none⟩=false)
 (q:∀j v,vs[j]?=some v→w.cell? ⟨g,j,none⟩=some v) (r:∀v∈vs,v.oneCell'=true):
 Calls Tryz.prog 184 #[.slice (some ⟨b,0,none⟩) n c, .int .i64 n, .slice (some ⟨g,0,none⟩) 1 vc] w λe w'=>
  e= .returned (.slice (some ⟨b,0,none⟩) (n+1) c)∧w'=w.setCells b (n*10) vs:=by
 have s:=sE;have y:=Tryz.sizeOf214;have G:=Tryz.runUnderlying3;have A:=Tryz.runUnderlying233;obtain⟨B,t,E,f,F⟩:=info_parts (P:=Tryz.prog) (e:=214) (z:=Bl) (size:=10) (bytes:=80) (by kernel_rfl)
 have i:Src Tryz.prog B.size 233 (.slice (some ⟨g,0,none⟩) 1 vc) 1 vs w:=by
  rw[f];exact Src.ofSlice w Tryz.underlying233 ⟨g,0,none⟩ 1 vc vs (by omega) (λj u C=>by rw[Addr.add_lit,Nat.zero_add];exact q j u C) r
 have l:∀x,(Builtin.append_ #[233,233] x #[.slice (some ⟨b,0,none⟩) n c, .slice (some ⟨g,0,none⟩) 1 vc]).run Tryz.prog w= .ok (.slice (some ⟨b,0,none⟩) (n+1) c) (w.setCells b (n*10) vs):=λx=>by
  have h:=run_append_room_src (w:=w) 233 233 x 214 B Tryz.underlying233 t b 0 n c _ 1 vs i a (by rw[m,f];intro j C;rw[Nat.zero_add];exact o _ (by omega)) (by intro j _;exact p _);rw[f,Nat.zero_add]at h;exact h
 go_enter Tryz.func184,Tryz.ntmps184
 go_wp2_with (at_builtin;refine Lib.wpList_append_run _ rfl _ _ _ _ rfl _ _ rfl rfl _ _ (l _) ?_)
 all_goals (go_ret;exact⟨rfl,rfl⟩)
theorem nC(base:Option Addr)(n c vb vc:Nat)(cs vs:List Value)(w:World)(hnc:n≤c)(hroom:c<n+1)(hn6:n≤1000000)
 (hcl:cs.length=n*10) (hvl:vs.length=10) (hnil:base=none→n=0)
 (hcs:∀a,base=some a→∀j v,cs[j]?=some v→w.cell? (a.add j)=some v)
 (hvs:∀j v,vs[j]?=some v→w.cell? ⟨vb,j,none⟩=some v) (h1v:∀v∈vs,v.oneCell'=true):
 Calls Tryz.prog 184 #[.slice base n c, .int .i64 n, .slice (some ⟨vb,0,none⟩) 1 vc] w λe w'=>
  e= .returned (.slice (some ⟨w.heap.size,0,none⟩) (n+1) (grownCap w (n+1) c 214))∧
  w'=w.drew.alloc (.cells ((cs++vs).toArray++Builtin.zeroCells Bl.cells (grownCap w (n+1) c 214-(n+1))) 214):=by
 have mixed:=sE;have z214:=Tryz.sizeOf214;have u3:=Tryz.runUnderlying3;have u233:=Tryz.runUnderlying233;obtain⟨i0,hi0,hz0,hzs,hzb⟩:=info_parts (P:=Tryz.prog) (e:=214) (z:=Bl) (size:=10) (bytes:=80) (by kernel_rfl)
 have hsrc:Src Tryz.prog i0.size 233 (.slice (some ⟨vb,0,none⟩) 1 vc) 1 vs w:=by
  rw[hzs];exact Src.ofSlice w Tryz.underlying233 ⟨vb,0,none⟩ 1 vc vs (by omega) (λj u hj=>by rw[Addr.add_lit,Nat.zero_add];exact hvs j u hj) h1v
 have hold:(Builtin.firstCells i0.size n (.slice base n c)).run Tryz.prog w.drew= .ok cs.toArray w.drew:=by
  rw[hzs];cases base with
  |none=>
   have h0:=hnil rfl;subst h0;rw[List.length_eq_zero_iff.1 (by omega:cs.length=0)];exact run_firstCells_none w.drew 10 0 0 c
  |some a=>exact run_firstCells_some w.drew 10 n a n c cs (by omega) (λj v hj=>hcs a rfl j v hj)
 have hrun:∀ty,(Builtin.append_ #[233,233] ty #[.slice base n c, .slice (some ⟨vb,0,none⟩) 1 vc]).run Tryz.prog w=_:=λty=>
  run_append_grow_src w 233 233 ty 214 i0 _ Tryz.underlying233 hi0 hz0 base n c cs hold _ 1 vs hsrc hroom (by omega) (by rw[hzb];exact growslice_fits hroom (by omega))
 go_enter Tryz.func184,Tryz.ntmps184
 cases base with
 |none=>
  have h0:=hnil rfl;subst h0
  go_wp2_with (at_builtin;refine Lib.wpList_append_run _ rfl _ _ _ _ rfl _ _ rfl rfl _ _ (hrun _) ?_)
  go_ret
  exact⟨rfl,rfl⟩
 |some a=>
  obtain⟨ab,ao,asp⟩:=a
  go_wp2_with (at_builtin;refine Lib.wpList_append_run _ rfl _ _ _ _ rfl _ _ rfl rfl _ _ (hrun _) ?_)
  all_goals (go_ret;exact⟨rfl,rfl⟩)
end
end
end Go.Tp
namespace Go.Tp
open Go.Hv Go.Proofs Go.RowKit
set_option maxRecDepth 100000
set_option maxHeartbeats 0
theorem Hc{w:World}{b o:Nat}{cs:Array Value}{ty:TypeId}{vs:List Value}(c:w.heap[b]?=some (.cells cs ty (0,0)))(i:o+vs.length≤cs.size)(g:∀v∈vs,v.oneCell'=true):
 ∃a,(w.setCells b o vs).heap[b]?=some (.cells a ty (0,0))∧a.toList=cs.toList.take o++vs++cs.toList.drop (o+vs.length)∧
  (w.setCells b o vs).heap.size=w.heap.size∧(w.setCells b o vs).os=w.os∧(w.setCells b o vs).tape=w.tape∧(w.setCells b o vs).output=w.output∧∀e,e≠b→(w.setCells b o vs).heap[e]?=w.heap[e]?:=by
 obtain⟨l,a,h,q⟩:=eJ Tryz.prog c i g;have f:=run_storeCells_cells (P:=Tryz.prog) b o vs 0 w (λj m=>by rw[Nat.add_zero,cell_of_row w b _ _ _ _ c,Array.getElem?_eq_getElem (by omega)];rfl) (λj _=>by simp[World.frozen?,c]) g;rw[h]at f;simp only[Nat.add_zero,Result.ok.injEq,true_and]at f;subst f;exact⟨a,q⟩
def jQ:Ct:=⟨3,⟨[(0,false,[.own 0]),sI 1,(2,false,[.own 1])],[some (.sl eV),some (.sl eV)]⟩,[⟨[(0,false,[.own 2])],[none,none,some (.sl eV)]⟩],λ(i,l,v,_)=>one (0≤i∧i≤l.length∧l.length≤1000000∧v.length=1) (l.take i.toNat++v++l.drop i.toNat,())⟩
theorem nD{F:Nat→Prop}{ρ:Nat→Pl}{w w':World}{h:Nat→Option Ch}{nb cap:Nat}{C:Array Value}{ty:TypeId}{l':List Mk}{us:List Value}(hh:dn F ρ w h)(n:∀k,2≤k→ρ k= .un)
 (h0:l'.length≠0) (j:l'.length≤cap) (o:w'.heap[nb]?=some (.cells C ty (0,0))) (p:cap*10≤C.size) (r:C.toList.take us.length=us) (B:dv (Rd w (Av F ρ h) eV) l' us)
 (x:w.heap.size≤w'.heap.size) (D:w'.os=w.os) (E:w'.tape=w.tape) (G:w'.output=w.output) (H:∀b,b<w.heap.size→¬Go.Hv.oJ ρ h b→w'.heap[b]?=w.heap[b]?)
 (l:Go.Hv.oJ ρ h nb∨w.heap.size≤nb):Go.Hv.Kw F ρ w h 2 (cV jQ.out 0) ((cV jQ.out 0).get (l',())) (.returned (.slice (some ⟨nb,0,none⟩) l'.length cap)) w':=by
 have s:nb<w'.heap.size:=by
  rcases bN nb w'.heap.size with q|q
  ·exact q
  ·rw[Array.getElem?_eq_none q]at o;cases o
 have g:∀b,Go.Hv.oJ (fM ρ 2 (.sv (.slice (some ⟨nb,0,none⟩) l'.length cap))) (dV (cV jQ.out 0) ((cV jQ.out 0).get (l',()))) b→b=nb:=by
  rintro b ⟨k,c,a,_,f⟩
  have e:k=2:=by
   match k,a with
   |0,a=>cases a
   |1,a=>cases a
   |2,_=>rfl
   |k+3,a=>cases a
  subst e;rw[bL]at f;obtain⟨t,rfl⟩:∃t,cap=t+1:=⟨cap-1,by omega⟩;simp[Pl.blk]at f;exact f.symm
 have y:Mv ρ w h (fM ρ 2 (.sv (.slice (some ⟨nb,0,none⟩) l'.length cap))) w' (dV (cV jQ.out 0) ((cV jQ.out 0).get (l',()))):=
  ⟨D,E,G,x,H,λb f q=>by
   have:=g b q;subst this;rcases l with q|q
   ·exact q
   ·omega⟩
 have J:¬F nb:=by
  rcases l with⟨k,c,a,u,f⟩|q
  ·exact(hh.fr k c nb a u f).2
  ·intro K;have:=hh.gs nb K;omega
 have e:∀{k c},dV (cV jQ.out 0) ((cV jQ.out 0).get (l',())) k=some c→k=2∧c= .sl eV l':=by
  intro k c a
  match k,a with
  |0,a=>cases a
  |1,a=>cases a
  |2,a=>exact⟨rfl,(Option.some.inj a).symm⟩
  |k+3,a=>cases a
 refine⟨fM ρ 2 (.sv (.slice (some ⟨nb,0,none⟩) l'.length cap)),[.slice (some ⟨nb,0,none⟩) l'.length cap],rfl,λk a=> .inl (fU _ _ _ (by omega)),⟨⟨_,aK.single (i:= .own 2) ⟨_,_,_,bL _ _ _,rfl⟩,rfl⟩,trivial⟩,⟨λk c a=>?_,λk L c t b a v _ _ _ _=>?_,λk c b a u f=>?_,λk m M N z A a=>?_,λb f=>bq (hh.gs b f) x⟩,y,λk a=>?_⟩
 ·obtain⟨rfl,rfl⟩:=e a;exact⟨_,bL _ _ _, .inl ⟨nb,cap,C,ty,us,rfl,by omega,o,j,p,B.imp (λ_ _=>Rd.evo y.evo),r⟩⟩
 ·rw[(e a).1,(e v).1]
 ·have:=g b ⟨k,c,a,u,f⟩;subst this;exact⟨s,J⟩
 ·have:=(e a).2;cases this
 ·have a:3≤k:=a;rw[fU _ _ _ (by omega)];exact n k (by omega)
theorem iK{α:Type}{a b:List α}{n:Nat}(h:a.length=n):(a++b).take n=a:=by subst h;simp
theorem frz{w:World}{b:Nat}{cs:Array Value}{ty:TypeId}(h:w.heap[b]?=some (.cells cs ty (0,0)))(j:Nat):w.frozen? ⟨b,j,none⟩=false:=by simp[World.frozen?,h]
theorem shp{w:World}{b:Nat}{cs:Array Value}{ty:TypeId}(h:w.heap[b]?=some (.cells cs ty (0,0))):w.shape? b=some (ty,cs.size):=by simp[World.shape?,h]
theorem rdc{w:World}{b:Nat}{cs:Array Value}{ty:TypeId}{us:List Value}(h:w.heap[b]?=some (.cells cs ty (0,0)))(c:cs.toList.take us.length=us)(j:Nat)(v:Value)(a:us[j]?=some v):w.cell? ⟨b,j,none⟩=some v:=by
 rw[cell_of_row w b j _ _ _ h,←Array.getElem?_toList];rw[←c,List.getElem?_take]at a;split at a
 ·exact a
 ·cases a
theorem Tn:bO Tryz.prog 184 jQ:=by
 rintro⟨i,l,v,⟨⟩⟩ Q ⟨⟨h0,h1,h2,h3⟩,hQ⟩ F ρ w a9 e3 hh hv c6;have h0:@aZ Int _ 0 i:=h0;have h1:@aZ Int _ i l.length:=h1;obtain⟨k,rfl⟩:=cq h0;rw[show((k:Int)).toNat=k by omega]at hQ;have hQ:Q ⟨0,(l.take k++v++l.drop k,())⟩:=hQ
 match a9,hv with
 |[v0,v1,v2],⟨⟨a0,b0,c0⟩,⟨a1,b1,c1⟩,⟨a2,b2,c2⟩,_⟩=>
 have e0:=aK.of_single b0;have e1:=aK.of_single b1;have e2:=aK.of_single b2;obtain⟨ad,n,cap,X,rfl⟩:=e0;obtain⟨b3,n2,c,Y,rfl⟩:=e2;have e1:a1=[fO .i64 (k:Int)]:=e1;subst e1;have c0:[Value.slice ad n cap]=[v0]:=c0;have c1:[fO .i64 (k:Int)]=[v1]:=c1;have c2:[Value.slice b3 n2 c]=[v2]:=c2;simp only[List.cons.injEq,and_true]at c0 c1 c2;subst c0 c1 c2;have a4:(dV jQ.inp (jQ.inp.get ((k:Int),l,v,()))) 0=some (.sl eV l):=rfl;have b4:(dV jQ.inp (jQ.inp.get ((k:Int),l,v,()))) 1=some (.sl eV v):=rfl;obtain⟨sv,s1,s2⟩:=hh.ok 0 _ a4;obtain⟨e7,t1,t2⟩:=hh.ok 1 _ b4;have X:ρ 0= .sv (.slice ad n cap):=X;have Y:ρ 1= .sv (.slice b3 n2 c):=Y;rw[X]at s1;rw[Y]at t1;simp only[Pl.sv.injEq]at s1 t1;subst s1 t1;rcases t2 with⟨U,e4,D,c7,f,g1,g2,g3,g4,g5,g6,g7⟩|⟨rfl,_⟩
 rotate_left
 ·cases h3
 simp only[Value.slice.injEq]at g1;obtain⟨rfl,rfl,rfl⟩:=g1;rw[h3]at g4⊢;have g5:c*10≤D.size:=g5;have t:f.length=10:=by have:=dv.length (λ_ _=>Rd.length) g6;rw[h3]at this;exact this
 have y:∀x∈f,x.oneCell'=true:=dv.all (λ_ _=>Rd.one) g6;have J:=rdc g3 g7
 have e8:U<w.heap.size:=by
  rcases bN U w.heap.size with q|q
  ·exact q
  ·rw[Array.getElem?_eq_none q]at g3;cases g3
 have A:∀j,2≤j→ρ j= .un:=λj hj=>c6 j hj;have hL:(l.take k++v++l.drop k).length=l.length+1:=by simp only[aa,bi,cD];omega
 rcases s2 with⟨b,e5,C,ty,cs,K,q2,q3,q4,q5,q6,q7⟩|⟨rfl,a,K⟩
 ·simp only[Value.slice.injEq]at K;obtain⟨rfl,rfl,rfl⟩:=K;have q5:cap*10≤C.size:=q5;have L:cs.length=l.length*10:=dv.length (λ_ _=>Rd.length) q6;have a5:∀x∈cs,x.oneCell'=true:=dv.all (λ_ _=>Rd.one) q6;have a6:=rdc q3 q7;have b5:(ρ 0).blk=some b:=by rw[X];obtain⟨c',rfl⟩:∃c',cap=c'+1:=⟨cap-1,by omega⟩;rfl
  have c8:(ρ 1).blk=some U:=by rw[Y];obtain⟨c',rfl⟩:∃c',c=c'+1:=⟨c-1,by omega⟩;rfl
  have c9:U≠b:=λe=>by subst e;exact absurd (hh.inj 0 1 _ _ U a4 b4 rfl rfl b5 c8) (by decide)
  have E:Go.Hv.oJ ρ (dV jQ.inp (jQ.inp.get ((k:Int),l,v,()))) b:=⟨0,_,a4,rfl,b5⟩;obtain⟨p,s,rfl,r1,r2⟩:=dv.split (l:=l.take k) (m:=l.drop k) (by rw[dC];exact q6)
  have B:p.length=k*10:=by
   have:=dv.length (λ_ _=>Rd.length) r1;rw[bi,ee (by omega)]at this;exact this
  have hR:dv (Rd w (Av F ρ (dV jQ.inp (jQ.inp.get ((k:Int),l,v,())))) eV) (l.take k++v++l.drop k) (p++f++s):=(r1.append g6).append r2;have b6:(p++s).drop (k*10)=s:=by rw[←B];simp
  have d0:(p++s).take (k*10)=p:=iK B;have e6:s.length=(l.length-k)*10:=by rw[aa]at L;omega
  have e9:C.toList.length=C.size:=by simp
  have f0:(p++f++s).length=(l.length+1)*10:=by simp only[aa];omega
  have b7:l.length+1≤cap→∀j,j<(l.length+1)*10→(w.cell? ⟨b,j,none⟩).isSome=true:=λhr j hj=>by
   rw[cell_of_row w b j _ _ _ q3,Array.getElem?_eq_getElem (by omega)];rfl
  have a3:∀x∈s,x.oneCell'=true:=λx hx=>a5 x (List.mem_append_right _ hx)
  have b8:C.toList=p++s++C.toList.drop (l.length*10):=by
   conv=>lhs;rw[←dC (l.length*10) C.toList]
   rw[←L,q7]
  by_cases hr:l.length+1≤cap
  ·
   rcases bN k l.length with hk|hk
   ·refine(Dc b l.length cap k U c (p++s) f w hk hr h2 c9 L t a6 (b7 hr) (frz q3) J a5 y c7 ty D.size C.size (shp g3) (shp q3) (by omega) (frz g3)).mono ?_;rintro e w' ⟨rfl,rfl⟩;rw[b6];obtain⟨C1,f1,W,f3,f4,f5,f6,f7⟩:=Hc (w:=w.drew) (o:=(k+1)*10) (vs:=s) q3 (by omega) a3;have M:=aI ac W;simp only[aa,bi,cD,sX]at M;obtain⟨C2,d1,d2,d3,d4,d5,d6,d7⟩:=Hc (o:=k*10) (vs:=f) f1 (by omega) y;have a7:=aI ac d2;simp only[aa,bi,cD,sX]at a7
    have N:C1.toList.take (k*10)=p:=by
     rw[W,ay,List.take_append_of_le_length (by simp;omega),List.take_take,ee (by omega),b8,ay];exact iK B
    have d8:∃z,C1.toList.drop (k*10+f.length)=s++z:=by
     refine⟨C.toList.drop ((k+1)*10+s.length),?_⟩;rw[W,t,ay];have:(C.toList.take ((k+1)*10)).length=k*10+10:=by rw[bi];omega
     rw[←this,List.drop_left]
    obtain⟨z,hz⟩:=d8;rw[N,hz]at d2;refine⟨⟨0,(l.take k++v++l.drop k,())⟩,hQ,?_⟩
    have:=nD hh A (nb:=b) (cap:=cap) (us:=p++f++s) (by omega) (by omega) d1 (by omega) (by rw[d2,←ay];exact iK rfl) hR (by rw[d3,f3];exact aC _) (d4.trans f4) (d5.trans f5) (d6.trans f6) (λh r H=>by
     have O:h≠b:=λe=>H (by rw[e];exact E);rw[d7 h O,f7 h O];rfl) (.inl E)
    rw[hL]at this;exact this
   ·obtain rfl:k=l.length:=by omega
    refine(vl b l.length cap U c f w hr h2 t (b7 hr) (frz q3) J y).mono ?_;rintro e w' ⟨rfl,rfl⟩;obtain⟨C1,f1,W,f3,f4,f5,f6,f7⟩:=Hc (w:=w) (o:=l.length*10) (vs:=f) q3 (by omega) y;have M:=aI ac W;simp only[aa,bi,cD,sX]at M;have P:s=[]:=rY.1 (by omega);subst P;refine⟨⟨0,(l.take l.length++v++l.drop l.length,())⟩,hQ,?_⟩;have N:C.toList.take (l.length*10)=p:=by rw[b8,bj];exact iK B
    have:=nD hh A (nb:=b) (cap:=cap) (us:=p++f++[]) (by omega) (by omega) f1 (by omega) (by rw[W,N,bj];exact iK rfl) hR (by rw[f3];exact aC _) f4 f5 f6 (λh r H=>f7 h (λe=>H (by rw[e];exact E))) (.inl E);rw[hL]at this;exact this
  ·
   have b9:=grownCap_ge w (l.length+1) cap 214;rcases bN k l.length with hk|hk
   ·refine(Hb b l.length cap k U c (p++s) f w hk q4 (by omega) h2 L t a6 J a5 y).mono ?_;rintro e w' ⟨rfl,rfl⟩;rw[b6,d0];generalize grownCap w (l.length+1) cap 214=G at*;obtain⟨R,g⟩:∃R:Array Value,R=p.toArray++bI Bl.cells (l.length+1-k)++bI Bl.cells (G-(l.length+1)):=⟨_,rfl⟩;rw[←g]
    have c3:R.size=G*10:=by
     rw[g];simp only[Array.size_append,size_zeroCells,List.size_toArray,B];show k*10+(l.length+1-k)*10+(G-(l.length+1))*10=G*10;omega
    have d9:R.toList.take (k*10)=p:=by
     rw[g];simp only[Array.toList_append,ay];exact iK B
    have c4:(w.alloc (.cells R 214)).drew.heap[w.heap.size]?=some (.cells R 214 (0,0)):=Go.heap_alloc_new w _;have a8:∀h,h<w.heap.size→(w.alloc (.cells R 214)).drew.heap[h]?=w.heap[h]?:=λh r=>(fp.drewAlloc w (.cells R 214)).old h r;have c5:(w.alloc (.cells R 214)).drew.heap.size=w.heap.size+1:=dR ..;obtain⟨C1,f1,W,f3,f4,f5,f6,f7⟩:=Hc (o:=k*10) (vs:=f) c4 (by omega) y;have M:=aI ac W;simp only[aa,bi,cD,sX]at M;rw[d9]at W;obtain⟨C2,d1,d2,d3,d4,d5,d6,d7⟩:=Hc (w:=((w.alloc (.cells R 214)).drew.setCells w.heap.size (k*10) f).drew) (o:=(k+1)*10) (vs:=s) f1 (by omega) a3;have a7:=aI ac d2;simp only[aa,bi,cD,sX]at a7
    have N:C1.toList.take ((k+1)*10)=p++f:=by
     rw[W];exact iK (by rw[aa];omega)
    rw[N]at d2;refine⟨⟨0,(l.take k++v++l.drop k,())⟩,hQ,?_⟩
    have:=nD hh A (nb:=w.heap.size) (cap:=G) (us:=p++f++s) (by omega) (by omega) d1 (by omega) (by rw[d2];exact iK rfl) hR (by rw[d3];show w.heap.size≤((w.alloc (.cells R 214)).drew.setCells w.heap.size (k*10) f).heap.size;rw[f3,c5];omega) (d4.trans f4) (d5.trans f5) (d6.trans f6) (λh r H=>by
     have O:h≠w.heap.size:=by omega
     rw[d7 h O];show((w.alloc (.cells R 214)).drew.setCells w.heap.size (k*10) f).heap[h]?=_;rw[f7 h O,a8 h r]) (.inr (aC _))
    rw[hL]at this;exact this
   ·obtain rfl:k=l.length:=by omega
    have P:s=[]:=rY.1 (by omega);subst P;refine(nC (some ⟨b,0,none⟩) l.length cap U c (p++[]) f w q4 (by omega) h2 L t (λe=>by cases e) (λa e j u hj=>by cases e;rw[Addr.add_lit,bK];exact a6 j u hj) J y).mono ?_;rintro e w' ⟨rfl,rfl⟩;generalize grownCap w (l.length+1) cap 214=G at*;obtain⟨R,g⟩:∃R:Array Value,R=(p++[]++f).toArray++bI Bl.cells (G-(l.length+1)):=⟨_,rfl⟩;rw[←g]
    have c3:R.size=G*10:=by
     rw[g];simp only[Array.size_append,size_zeroCells,List.size_toArray,aa,B,t,cX];show l.length*10+0+10+(G-(l.length+1))*10=G*10;omega
    have S:=fp.drewAlloc w (.cells R 214);refine⟨⟨0,(l.take l.length++v++l.drop l.length,())⟩,hQ,?_⟩;have:=nD hh A (w':=w.drew.alloc (.cells R 214)) (nb:=w.heap.size) (cap:=G) (us:=p++f++[]) (by omega) (by omega) (Go.heap_alloc_new w.drew _) (by omega) (by rw[g];simp only[Array.toList_append,bj];exact iK rfl) hR S.size S.os S.tape S.output (λh r H=>S.old h r) (.inr (aC _));rw[hL]at this;exact this
 ·simp only[Value.slice.injEq]at K;obtain⟨rfl,rfl,rfl⟩:=K;obtain rfl:k=0:=by simp only[cX]at h1;omega
  have b9:=grownCap_ge w (0+1) 0 214;refine(nC ad 0 0 U c [] f w (aC _) (by omega) (by omega) rfl t (λ_=>rfl) (λa e j u hj=>by simp at hj) J y).mono ?_;rintro e w' ⟨rfl,rfl⟩;generalize grownCap w (0+1) 0 214=G at*;obtain⟨R,g⟩:∃R:Array Value,R=([]++f).toArray++bI Bl.cells (G-(0+1)):=⟨_,rfl⟩;rw[←g]
  have c3:R.size=G*10:=by
   rw[g];simp only[Array.size_append,size_zeroCells,List.size_toArray,aa,t,cX];show 0+10+(G-(0+1))*10=G*10;omega
  have S:=fp.drewAlloc w (.cells R 214);refine⟨⟨0,(v,())⟩,by simpa using hQ,?_⟩;have:=nD hh A (w':=w.drew.alloc (.cells R 214)) (l':=v) (nb:=w.heap.size) (cap:=G) (us:=f) (by omega) (by omega) (Go.heap_alloc_new w.drew _) (by omega) (by rw[g];simp only[Array.toList_append,eG];exact iK rfl) g6 S.size S.os S.tape S.output (λh r H=>S.old h r) (.inr (aC _));rw[h3]at this;exact this
def Pb:bu:=(184,[jQ])::O8
theorem l_:KK Pb:=⟨aP.add O9.1 (by kernel_rfl) (bo Tn),bg.add O9.2 (bo (λ_=>bH))⟩
abbrev sM:Option CP:=some (.cells [.d (.sl eV)])
def ez(l:List Mk):Prop:=l.length≤512∧∀m∈l,O6 m
def He:Ct:=⟨3,⟨[sP 0,sI 1,sI 2],[sM]⟩,[⟨[sI 0,sL 1],[sM]⟩],λ(t,a,l,_)=>eO (ez l∧0≤t∧t≤1099511627776∧0≤a∧a<5) (λy:Int×Bool=>0≤y.1∧y.1≤l.length) λy=>(y.1,y.2,l,())⟩
abbrev To(v:Int×Bool×List eV.den×Unit):aN He.out:=⟨0,v⟩
def Pc:bu:=(182,[He])::Pb
theorem m_:KK Pc:=kA l_ (cv He 0) (∀(c d:Int)(a:List eV.den)(Q:aN He.out→Prop),(Ct.spec He (c,d,a,())).sat Q→(a.length≤1000000∧(∀(m:eV.den),m∈a→O6 m)∧0≤c∧c≤1099511627776∧0≤d∧d<5)∧∀(b:Int×Bool),0≤b.1∧b.1≤(↑a.length:Int)→Q (To (b.1,b.2,a,()))) (by kernel_rfl) (by
 rintro t a l Q ⟨⟨⟨h,c⟩,e⟩,f⟩;exact⟨⟨by omega,c,e⟩,λb g=>f (b.1,b.2) g⟩) (l:=λ_=>aR λ_=>⟨(0,false),cr _,Int.natCast_nonneg _⟩)
def Hf:Ct:=⟨1,⟨[(0,false,[.d (.sl eV)])],[]⟩,[⟨[sO 0 0],[some (.sl eV)]⟩],λ(b,_)=>one (b.length≤1000000) (b,())⟩
abbrev Hg(v:List eV.den×Unit):aN Hf.out:=⟨0,v⟩
def Pd:bu:=(167,[Hf])::Pc
theorem Hh:KK Pd:=kA m_ (cv Hf 0) (∀(a:List eV.den)(Q:aN Hf.out→Prop),(Ct.spec Hf (a,())).sat Q→∀(b:Bool),(b=true→a.isEmpty=true)→Br b (Q (Hg ([],()))) ((0+a.length)*80≤140737488355328∧Q (Hg (a,())))) (by kernel_rfl) (by
 unfold Br;rintro x Q ⟨e,a⟩ b c;refine⟨λh=>?_,λh=>⟨by omega,a⟩⟩;have:=c h;simp only[List.isEmpty_iff]at this;subst this;exact a)
def zt:Ct:=⟨1,⟨[sP 0],[sM]⟩,[⟨[(0,false,[.d (.sl eV)])],[sM]⟩],λ(l,_)=>one (l.length≤1000000) (l,l,())⟩
abbrev Tq(v:List eV.den×List eV.den×Unit):aN zt.out:=⟨0,v⟩
theorem Hi:bO Tryz.prog 130 zt:=kC Hh (cv zt 0) (∀(a:List eV.den)(Q:aN zt.out→Prop),(Ct.spec zt (a,())).sat Q→a.length≤1000000∧Q (Tq (a,a,()))) (by kernel_rfl) (by
 rintro l Q ⟨h,a⟩;exact⟨h,a⟩)
def Pe:bu:=(130,[zt])::Pd
theorem n_:KK Pe:=⟨aP.add Hh.1 (by kernel_rfl) (bo (Hi)),bg.add Hh.2 (bo (λ_=>bH))⟩
def Hj:Ct:=⟨1,⟨[sP 0],[sM]⟩,[⟨[sI 0],[sM]⟩],λ(l,_)=>eO (ez l) (λy:Int=>0≤y∧y≤1099511627776) λy=>(y,l,())⟩
abbrev Hk(v:Int×List eV.den×Unit):aN Hj.out:=⟨0,v⟩
def Pf:bu:=(152,[Hj])::Pe
theorem o_:KK Pf:=kA n_ (cv Hj 0) (∀(a:List eV.den)(Q:aN Hj.out→Prop),let z:=(↑a.length:Int)==0;(Ct.spec Hj (a,())).sat Q→Br z (Q (Hk (0,a,()))) (ae ((↑a.length:Int)-1)∧(0≤(↑a.length:Int)-1∧(↑a.length:Int)-1<(↑a.length:Int))∧Q (Hk ((a.getD ((↑a.length:Int)-1).toNat (0,0,0,0,false,0,0,false,0,0,())).1,a,())))) (by kernel_rfl) (by
 conv=>zeta
 unfold Br;rintro l Q ⟨⟨f,e⟩,a⟩;refine⟨λ_=>a _ (by decide),λc=>?_⟩;have c:¬((l.length:Int)=0):=aA c;have b:=e _ (aT (z:=(0,0,0,0,false,0,0,false,0,0,())) (show((l.length:Int)-1).toNat<l.length by omega));exact⟨by unfold ae;omega,by omega,a _ ⟨b.1,b.2.1⟩⟩) (l:=λ_=>aR λ_=>⟨0,by decide⟩)
def Hl:Ct:=⟨3,⟨[sP 0,sI 1,sI 2],[sM]⟩,[⟨[sL 0],[sM]⟩],λ(t,a,l,_)=>eO (ez l) (λ_:Bool=>True) λy=>(y,l,())⟩
abbrev Hm(v:Bool×List eV.den×Unit):aN Hl.out:=⟨0,v⟩
def Ph:bu:=(168,[Hl])::Pf
theorem p_:KK Ph:=kA o_ (cv Hl 0) (∀(c d:Int)(a:List eV.den)(Q:aN Hl.out→Prop),let z:=Hm (false,a,());(Ct.spec Hl (c,d,a,())).sat Q→Br (decide (c<1)) (Q z) (Br (decide (1099511627776<c)) (Q z) (Br (decide (d<0)) (Q z) (Br (decide (5≤d)) (Q z) ((ez a∧0≤c∧c≤1099511627776∧0≤d∧d<5)∧∀(b:Int×Bool),0≤b.1∧b.1≤(↑a.length:Int)→Q (Hm (b.2,a,()))))))) (by kernel_rfl) (by
 conv=>zeta
 unfold Br;rintro t a l Q ⟨h,c⟩;have b:∀y,Q ⟨0,(y,l,())⟩:=λy=>c y trivial;exact⟨λ_=>b _,λe=>⟨λ_=>b _,λf=>⟨λ_=>b _,λg=>⟨λ_=>b _,λi=>⟨⟨h,by have:=am e;omega,by have:=am f;omega,by have:=am g;omega,by have:=am i;omega⟩,λ_ _=>b _⟩⟩⟩⟩⟩) (l:=λ_=>aR λ_=>⟨false,trivial⟩)
def Hn:Ct:=⟨2,⟨[sP 0,(1,true,[.d eV])],[sM]⟩,[⟨[sI 0],[sM]⟩],λ(m,l,_)=>eO (ez l) (λy:Int×List Mk=>ez y.2) λy=>(y.1,y.2,())⟩
abbrev vm(v:Int×List eV.den×Unit):aN Hn.out:=⟨0,v⟩
def Pj:bu:=(170,[Hn])::Ph
theorem Pk:KK Pj:=kA p_ (cv Hn 0) (∀(c:eV.den)(a:List eV.den)(Q:aN Hn.out→Prop),let z:=(↑a.length:Int)==512;(Ct.spec Hn (c,a,())).sat Q→True∧Br (!OC c) (Q (vm (1,a,()))) ((ez a∧0≤c.1∧c.1≤1099511627776∧0≤c.2.1∧c.2.1<5)∧∀(b:Int×Bool),0≤b.1∧b.1≤(↑a.length:Int)→Br (b.2) (Q (vm (12,a,()))) (Br z (Q (vm (14,a,()))) (a.length≤1000000∧(0≤b.1∧b.1≤(↑a.length:Int)∧a.length≤1000000∧1=1)∧Q (vm (0,cS b.1.toNat a++[c]++List.drop b.1.toNat a,())))))) (by kernel_rfl) (by
 conv=>zeta
 unfold Br;rintro⟨s,u,p,q,r,t,v,w,x,z,⟨⟩⟩ l Q ⟨h,i⟩;have f:∀(e:Int)(y:List Mk),ez y→Q ⟨0,(e,y,())⟩:=λe y A=>i (e,y) A;clear i;refine⟨trivial,λ_=>f _ _ h,λc=>?_⟩
 have j:O6 (s,u,p,q,r,t,v,w,x,z,()):=by
  simp only[OC,aJ,aF,ah]at c;have g:@aZ Int _ 1 s∧@aZ Int _ s 1099511627776∧@aZ Int _ 0 u∧@lU Int _ u 5:=⟨c.1.1.1,c.1.1.2.1,c.1.1.2.2.1,c.1.1.2.2.2.1⟩;refine⟨?_,g.2.1,g.2.2.1,g.2.2.2⟩;show @aZ Int _ 0 s;omega
 refine⟨⟨h,j⟩,λb o=>⟨λ_=>f _ _ h,λ_=>⟨λ_=>f _ _ h,λn=>?_⟩⟩⟩;have n:¬((l.length:Int)=512):=aA n;have B:=h.1;refine⟨by omega,⟨o.1,o.2,by omega,rfl⟩,f _ _ ⟨?_,λm a=>?_⟩⟩
 ·simp only[aa,bi,cD,bd,cX];omega
 ·simp only[aY,cg]at a;rcases a with(a|a)|a
  ·exact h.2 _ (List.mem_of_mem_take a)
  ·rw[a];exact j
  ·exact h.2 _ (List.mem_of_mem_drop a)) (l:=λ_=>aR λh=>⟨(0,_),h⟩)
def p':Ct:=⟨1,⟨[(0,false,[.d .u64])],[]⟩,[⟨[sI 0],[]⟩],λ(x,_)=>one (x.toNat≤16777215) ((fw x.toNat:Int),())⟩
theorem Ts:bO Tryz.prog 173 p':=by
 rintro⟨x,⟨⟩⟩ Q ⟨f,h⟩ F ρ w a g j l c
 match a,l with
 |[m],⟨⟨n,o,b⟩,_⟩=>
 have p:n=[fO .u64 (x.toNat:Int)]:=aK.of_single o;subst p;have b:[fO .u64 (x.toNat:Int)]=[m]:=b;simp only[List.cons.injEq,and_true]at b;subst b;have f:x.toNat≤16777215:=f;refine(Tryz.bits_Len (x.toNat:Int) w (by omega) (by omega)).mono ?_;rintro e q ⟨rfl,rfl⟩;refine⟨_,h,ρ,[.int .i64 (fw x.toNat)],rfl,λk _=> .inl rfl,⟨⟨_,aK.single (i:= .d .i64 (fw x.toNat:Int)) rfl,rfl⟩,trivial⟩,j,Mv.refl ..,c⟩
theorem zu:∀x:Nat,x<2^24→x≠0→2^fw x≤2*x:=by
 intro x
 induction x using Nat.strongRecOn with
 |ind x a=>
  intro h b;rw[Lib.bitLen_half x b (by omega)];by_cases c:x/2=0
  ·have e:x=1:=by omega
   subst e;decide
  ·have:=a (x/2) (by omega) (by omega) c;rw[Nat.pow_add];omega
def Pm:bu:=(173,[p'])::Pj
theorem q_:KK Pm:=⟨aP.add Pk.1 (by kernel_rfl) (bo Ts),bg.add Pk.2 (bo (λ_=>bH))⟩
def Ho:Ct:=⟨1,⟨[sI 0],[]⟩,[⟨[(0,false,[.d .u64])],[]⟩],λ(x,_)=>eO (1≤x∧x≤1000000) (λy:BitVec 64=>(y.toNat:Int)≤2*x∧1≤y.toNat) λy=>(y,())⟩
abbrev Tt(v:BitVec 64×Unit):aN Ho.out:=⟨0,v⟩
def Pn:bu:=(210,[Ho])::Pm
theorem r_:KK Pn:=kA q_ (cv Ho 0) (∀(a:Int)(Q:aN Ho.out→Prop),let z:=fw (bc 64 a).toNat;(Ct.spec Ho (a,())).sat Q→(bc 64 a).toNat≤16777215∧decide (0≤(↑z:Int))=true∧Q (Tt (af 64 1<<<(↑z:Int).toNat,()))) (by kernel_rfl) (by
 conv=>zeta
 rintro x Q ⟨⟨a,b⟩,f⟩;have a:@aZ Int _ 1 x:=a;have b:@aZ Int _ x 1000000:=b;have e:(bc 64 x).toNat=x.toNat:=by rw[BitVec.toNat_ofInt];omega
 rw[e];have g:=zu x.toNat (by omega) (by omega)
 have i:fw x.toNat<64:=by
  rcases bN (fw x.toNat) 64 with q|q
  ·exact q
  ·have:=Nat.pow_le_pow_right (n:=2) (by omega) q;omega
 have c:(1#64<<<(fw x.toNat:Int).toNat).toNat=2^fw x.toNat:=by
  rw[show(fw x.toNat:Int).toNat=fw x.toNat by omega,BitVec.toNat_shiftLeft];have:(1#64).toNat=1:=rfl;rw[this,Nat.shiftLeft_eq,Nat.one_mul,Nat.mod_eq_of_lt (by omega)]
 refine⟨by omega,by simp,f _ ⟨?_,?_⟩⟩
 ·rw[c];have:((2^fw x.toNat:Nat):Int)≤((2*x.toNat:Nat):Int):=Int.ofNat_le.2 g;omega
 ·rw[c];exact Nat.pos_of_ne_zero (by simp)) (l:=λx=>aR λh=>⟨1,by have:=h.1;show((1:Nat):Int)≤2*(x.1:Int);have:(1:Int)≤x.1:=this;omega,by decide⟩)
def Hp:Ct:=⟨1,⟨[sP 0],[some (.cells [.d .u64])]⟩,[⟨[(0,false,[.d .u64])],[some (.cells [.d .u64])]⟩],λ(x,_)=>eO True (λ_:BitVec 64×BitVec 64=>True) λy=>(y.1,y.2,())⟩
abbrev Tu(v:BitVec 64×BitVec 64×Unit):aN Hp.out:=⟨0,v⟩
def Po:bu:=(211,[Hp])::Pn
theorem s_:KK Po:=kA r_ (cv Hp 0) (∀(a:BitVec 64)(Q:aN Hp.out→Prop),let b:=a^^^a<<<13;let z:=a^^^a<<<13^^^b>>>7;(Ct.spec Hp (a,())).sat Q→Q (Tu (a^^^a<<<13^^^b>>>7^^^z<<<17,a^^^a<<<13^^^b>>>7^^^z<<<17,()))) (by kernel_rfl) (by
 conv=>zeta
 rintro x Q ⟨_,a⟩;exact a (_,_) trivial) (l:=λ_=>aR λ_=>⟨(0,0),trivial⟩)
def Kb(a c:Int):Prop:=0≤a∧a≤1099511627776∧0≤c∧c≤1099511627776
def LW:Ct:=⟨2,⟨[(0,true,[.d cO]),(1,true,[.d cO])],[]⟩,[⟨[sI 0],[]⟩],λ((a,c,_),(b,e,_),_)=>eO (Kb a c∧Kb b e) (λ_:Int=>True) λy=>(y,())⟩
abbrev zv(v:Int×Unit):aN LW.out:=⟨0,v⟩
def Pp:bu:=(137,[LW])::Po
theorem t_:KK Pp:=kA s_ (cv LW 0) (∀(a b:Fk)(Q:aN LW.out→Prop),(Tr.need (Kb a.1 a.2.1∧Kb b.1 b.2.1) (Tr.all Int (λa=>True) λy=>Tr.leaf (zv (y,())))).sat Q→Br (!a.1==b.1) (ae (a.1-b.1)∧Q (zv (a.1-b.1,()))) (ae (a.2.1-b.2.1)∧Q (zv (a.2.1-b.2.1,())))) (by kernel_rfl) (by
 unfold Br;rintro⟨a,c,⟨⟩⟩ ⟨e,f,⟨⟩⟩ Q ⟨⟨⟨g,h,i,j⟩,m,n,o,p⟩,q⟩;have b:∀y,Q ⟨0,(y,())⟩:=λy=>q y trivial;dsimp only at g h i j m n o p;exact⟨λ_=>⟨by show ae (@bG Int Int Int _ a e);unfold ae;omega,b _⟩,λ_=>⟨by show ae (@bG Int Int Int _ c f);unfold ae;omega,b _⟩⟩) (l:=λ_=>aR λ_=>⟨0,trivial⟩)
def cP(o:Op):Prop:=Kb o.2.1 o.2.2.1∧Kb o.2.2.2.2.2.2.2.1 o.2.2.2.2.2.2.2.2.1
def sN:Ct:=⟨2,⟨[(0,true,[.d jV]),(1,true,[.d jV])],[]⟩,[⟨[sI 0],[]⟩],λ(o,a,_)=>eO (cP o∧cP a) (λ_:Int=>True) λy=>(y,())⟩
abbrev Tv(v:Int×Unit):aN sN.out:=⟨0,v⟩
def Pq:bu:=(136,[sN])::Pp
theorem u_:KK Pq:=kA t_ (cv sN 0) (∀(a c:Op)(Q:aN sN.out→Prop),(Ct.spec sN (a,c,())).sat Q→(Kb a.2.1 a.2.2.1∧Kb c.2.1 c.2.2.1)∧∀(b:Int),True→Q (Tv (b,()))) (by kernel_rfl) (by
 rintro o c Q ⟨h,a⟩;exact⟨⟨h.1.1,h.2.1⟩,λb _=>a b trivial⟩) (l:=λ_=>aR λ_=>⟨0,trivial⟩)
abbrev Tw(v:Int×Unit):aN sN.out:=⟨0,v⟩
def Bm:bu:=(138,[sN])::Pq
theorem xA:KK Bm:=kA u_ (cv sN 0) (∀(a c:Op)(Q:aN sN.out→Prop),(Ct.spec sN (a,c,())).sat Q→(Kb a.2.2.2.2.2.2.2.1 a.2.2.2.2.2.2.2.2.1∧Kb c.2.2.2.2.2.2.2.1 c.2.2.2.2.2.2.2.2.1)∧∀(b:Int),True→Q (Tw (b,()))) (by kernel_rfl) (by
 rintro o c Q ⟨h,a⟩;exact⟨⟨h.1.2,h.2.2⟩,λb _=>a b trivial⟩) (l:=λ_=>aR λ_=>⟨0,trivial⟩)
def dN(g:Nat):Prop:=g=136∨g=138
def fI(l:List Op):Prop:=l.length≤100000∧∀o∈l,cP o
def dE(l m:List Op):Prop:=m.length=l.length∧∀o∈m,o∈l
theorem cm(l:List Op):dE l l:=⟨rfl,λ_ h=>h⟩
theorem dJ{l m n:List Op}(h:dE l m)(h':dE m n):dE l n:=⟨h'.1.trans h.1,λo a=>h.2 o (h'.2 o a)⟩
theorem gJ{l m:List Op}(h:fI l)(h':dE l m):fI m:=⟨by rw[h'.1];exact h.1,λo a=>h.2 o (h'.2 o a)⟩
theorem dA{l m:List Op}(h:dE l m){i j:Nat}{z:Op}(hi:i<l.length)(c:j<l.length):dE l ((m.set i (m.getD j z)).set j (m.getD i z)):=by
 have b:=h.1;refine⟨by simp[b],λo a=>h.2 o ?_⟩;rcases List.mem_or_eq_of_mem_set a with a|a
 ·rcases List.mem_or_eq_of_mem_set a with a|a
  ·exact a
  ·rw[a];exact aT (by omega)
 ·rw[a];exact aT (by omega)
abbrev lH:Option CP:=some (.sl jV)
abbrev fG(g:Nat)(i:Nat):Nat×Bool×List IP:=(i,false,[.fn g [] []])
abbrev Tx:List cc:=[⟨[],[lH]⟩]
def Dd(g:Nat):Ct:=⟨5,⟨[sO 0 0,sI 1,sI 2,(3,false,[.ptr 1 0]),fG g 4],[lH,cN]⟩,[⟨[sI 0,sI 1],[lH,cN]⟩],λ(a,b,l,n,_)=>eO (fI l∧0≤a∧a<l.length∧0≤b∧b<l.length∧0≤n∧n≤1000) (λy:Int×Int×Int=>(y.1=a∧y.2.1=b∨y.1=b∧y.2.1=a)∧n≤y.2.2∧y.2.2≤n+1) λy=>(y.1,y.2.1,l,y.2.2,())⟩
abbrev zw(g:Nat)(v:Int×Int×List Op×Int×Unit):aN ((Dd g)).out:=⟨0,v⟩
theorem Tz(g:Nat)(e:dN g):hJ Tryz.prog Bm 219 (Dd g) (cv (Dd g) 0):=by
 refine oE (∀(c d:Int)(a:List Op)(e:Int)(Q:aN (Dd g).out→Prop),(Tr.need (fI a∧0≤c∧c<(↑a.length:Int)∧0≤d∧d<(↑a.length:Int)∧0≤e∧e≤1000) (Tr.all (Int×Int×Int) (λy=>(y.1=c∧y.2.1=d∨y.1=d∧y.2.1=c)∧e≤y.2.2∧y.2.2≤e+1) λy=>Tr.leaf (zw g (y.1,y.2.1,a,y.2.2,())))).sat Q→(0≤d∧d<(↑a.length:Int))∧(0≤c∧c<(↑a.length:Int))∧(cP (a.getD d.toNat (0,0,0,0,0,false,0,0,0,0,0,0,0,false,0,0,false,0,0,()))∧cP (a.getD c.toNat (0,0,0,0,0,false,0,0,0,0,0,0,0,false,0,0,false,0,0,())))∧∀(b:Int),True→Br (decide (b<0)) (ae (e+1)∧Q (zw g (d,c,a,e+1,()))) (Q (zw g (c,d,a,e,())))) (by rcases e with rfl|rfl<;>kernel_rfl) ?_;unfold Br;rintro a b l n Q ⟨⟨h,f,i,j,m,o,p⟩,c⟩;refine⟨⟨j,m⟩,⟨f,i⟩,⟨h.2 _ (aT (by omega)),h.2 _ (aT (by omega))⟩,λy _=>⟨λ_=>⟨by unfold ae;omega,c (b,a,n+1) ⟨.inr ⟨rfl,rfl⟩,?_,cr _⟩⟩,λ_=>c (a,b,n) ⟨.inl ⟨rfl,rfl⟩,cr _,?_⟩⟩⟩
 ·show n≤n+1;omega
 ·show n≤n+1;omega
theorem TB(g:Nat)(a:dN g):bO Tryz.prog 219 (Dd g):=dq xA.1 xA.2 sE (by kernel_rfl) (Tz g a)
def Bn(g:Nat):bu:=(219,[(Dd g)])::Bm
theorem Pr(g:Nat)(a:dN g):aP Tryz.prog (Bn g):=aP.add xA.1 (by kernel_rfl) (bo (TB g a))
theorem Ps(g:Nat):bg (Bn g):=bg.add xA.2 (bo (λx=>aR λ_=>⟨(x.1,x.2.1,x.2.2.2.1), .inl ⟨rfl,rfl⟩,cr _,by show @aZ Int _ x.2.2.2.1 (x.2.2.2.1+1);omega⟩))
abbrev V6:Ty:= .ar 3 .i64
def mB(o:Op):List Int:=if o.1=1 then[o.1,o.2.1,o.2.2.1]else if o.1=2 then[o.1,o.2.2.2.2.2.2.2.1,o.2.2.2.2.2.2.2.2.1]else[o.1,o.2.2.2.2.2.2.2.2.2.2.1,o.2.2.2.2.2.2.2.2.2.1]
def Hq:Ct:=⟨1,⟨[(0,true,[.d jV])],[]⟩,[⟨[(0,true,[.d V6])],[]⟩],λ(o,_)=>one True (mB o,())⟩
abbrev zx(v:List Int×Unit):aN Hq.out:=⟨0,v⟩
def Pt:bu:=(131,[Hq])::Bm
theorem v_:KK Pt:=kA xA (cv Hq 0) (∀(a:Op)(Q:aN Hq.out→Prop),(Ct.spec Hq (a,())).sat Q→Br (a.1==1) (Q (zx ([a.1,a.2.1,a.2.2.1],()))) (Br (a.1==2) (Q (zx ([a.1,a.2.2.2.2.2.2.2.1,a.2.2.2.2.2.2.2.2.1],()))) (Q (zx ([a.1,a.2.2.2.2.2.2.2.2.2.2.1,a.2.2.2.2.2.2.2.2.2.1],()))))) (by kernel_rfl) (by
 unfold Br;rintro o Q ⟨_,f⟩;have a:∀y,mB o=y→Q ⟨0,(y,())⟩:=λy e=>by rw[←e];exact f
 clear f;unfold mB at a;exact⟨λc=>a _ (an (be c)),λc=>⟨λb=>a _ (by rw[ag (aA c),an (be b)]),λb=>a _ (by rw[ag (aA c),ag (aA b)])⟩⟩)
def pB(o:Op):eR:=(o.2.1,o.2.2.1,o.2.2.2.1,o.2.2.2.2.1,o.2.2.2.2.2.1,o.2.2.2.2.2.2.1,())
def Bo(o:Op):ID:=(o.2.1,o.2.2.1,())
def V7(o:Op):ID:=(o.2.2.2.2.2.2.2.1,o.2.2.2.2.2.2.2.2.1,())
abbrev Iss:=List (ID×eR)
abbrev TC:=List (ID×Int)
def Hr:Ct:=⟨2,⟨[sP 0,(1,true,[.d jV])],Gw 0⟩,[⟨[sL 0],Gw 0⟩],λ(o,i,d,w,g,n,b,_)=>eO (ez b) (λy:Bool=>fZ o=true→o.1=1→y=(aU cO (Bo o) i).isSome) λy=>(y,i,d,w,g,n,b,())⟩
abbrev vo(v:Bool×List (Fk×eR)×List (Fk×Int)×List eR×Int×List (Fk×gP.den)×List eV.den×Unit):aN Hr.out:=⟨0,v⟩
def Pu:bu:=(132,[Hr])::Pt
theorem w_:KK Pu:=kA v_ (cv Hr 0) (∀(a:Op)(c:List (Fk×eR))(d:List (Fk×Int))(f:List eR)(g:Int)(h:List (Fk×gP.den))(e:List eV.den)(Q:aN Hr.out→Prop),let z:=(c,d,f,g,h,e,());(Ct.spec Hr (a,z)).sat Q→True∧Br (!fZ a) (Q (vo (false,z))) (Br (a.1==1) (Q (vo ((aU (Ty.i64.pr (Ty.i64.pr Ty.un)) (a.2.1,a.2.2.1,()) c).isSome,z))) (Br (a.1==2) (Q (vo ((aU (Ty.i64.pr (Ty.i64.pr Ty.un)) (a.2.2.2.2.2.2.2.1,a.2.2.2.2.2.2.2.2.1,()) d).isSome,z))) (ez e∧∀(b:Bool),True→Q (vo (b,z)))))) (by kernel_rfl) (by
 conv=>zeta
 unfold Br;rintro o i d w g n b Q ⟨h,j⟩;have a:∀y:Bool,(fZ o=true→o.1=1→y=(aU cO (Bo o) i).isSome)→Q ⟨0,(y,i,d,w,g,n,b,())⟩:=j;exact⟨trivial,λc=>a _ λe=>(by rw[e]at c;cases c),λc=>⟨λf=>a _ λ_ _=>rfl,λf=>⟨λm=>a _ λ_ e=>absurd e (aA f),λm=>⟨h,λy _=>a _ λ_ e=>absurd e (aA f)⟩⟩⟩⟩) (l:=λx=>aR λ_=>⟨(aU cO (Bo x.1) x.2.1).isSome,λ_ _=>rfl⟩)
def V8(k:Nat):List (Option CP):=[some (.cells [.mp 1, .mp 2, .own k, .ptr 4 0, .ptr 6 0]),some (.mp cO ou),some (.mp cO .i64),none,some (.cells [.mp 5, .d .i64]),some (.mp cO gP),some (.cells [.d (.sl eV)]),some (.sl ou)]
abbrev PS:=Iss×TC×List eR×Int×ga
def rE(o:Op)(p:PS):PS:=
 if o.1=1 then(dy cO (Bo o) (pB o) p.1,p.2.1,p.2.2.1++[pB o],p.2.2.2)
 else if o.1=2 then(p.1,dy cO (V7 o) 1 p.2.1,p.2.2.1,(lF p.2.2.2.2 p.2.2.2.1 (V7 o)).2)else p
def Hs:Ct:=⟨2,⟨[sP 0,(1,true,[.d jV])],Gw 0⟩,[⟨[],V8 7⟩],λ(o,i,d,w,g,n,b,_)=>eO (ez b∧w.length≤1000000∧0≤g∧g≤1000000) (λy:PS×List Mk=>y.1=rE o (i,d,w,g,n)∧ez y.2∧(o.1=1→y.2=b)) λy=>(y.1.1,y.1.2.1,y.1.2.2.2.1,y.1.2.2.2.2,y.2,y.1.2.2.1,())⟩
abbrev zy(v:List (Fk×eR)×List (Fk×Int)×Int×List (Fk×gP.den)×List eV.den×List eR×Unit):aN Hs.out:=⟨0,v⟩
def Pv:bu:=(133,[Hs])::Pu
theorem x_:KK Pv:=kA w_ (cv Hs 0) (∀(a:Op)(e:List (Fk×eR))(f:List (Fk×Int))(d:List eR)(c:Int)(g:List (Fk×gP.den))(h:List eV.den)(Q:aN Hs.out→Prop),let i:=(a.2.2.2.2.2.2.2.1,a.2.2.2.2.2.2.2.2.1,());let z:=(a.2.1,a.2.2.1,a.2.2.2.1,a.2.2.2.2.1,a.2.2.2.2.2.1,a.2.2.2.2.2.2.1,());(Ct.spec Hs (a,e,f,d,c,g,h,())).sat Q→Br (a.1==1) ((d.length+1)*40≤140737488355328∧Q (zy (dy (Ty.i64.pr (Ty.i64.pr Ty.un)) (a.2.1,a.2.2.1,()) z e,f,c,g,h,d++[z],()))) (Br (a.1==2) ((0≤c∧c≤1000000)∧∀(b:Int×Int×List (Fk×gP.den)),b=lF g c i→Q (zy (e,dy (Ty.i64.pr (Ty.i64.pr Ty.un)) i 1 f,b.2.1,b.2.2,h,d,()))) (ez h∧∀(b:Int×List eV.den),ez b.2→Q (zy (e,f,c,g,b.2,d,()))))) (by kernel_rfl) (by
 conv=>zeta
 unfold Br;rintro o i d w g n b Q ⟨⟨f,z,r,s⟩,q⟩;have a:∀(p:PS)(y:List Mk),p=rE o (i,d,w,g,n)→ez y→(o.1=1→y=b)→Q ⟨0,(p.1,p.2.1,p.2.2.2.1,p.2.2.2.2,y,p.2.2.1,())⟩:=λp y t u v=>q (p,y) ⟨t,u,v⟩;clear q;unfold rE at a;refine⟨λc=>⟨by omega,a (_,_,_,_,_) b (by rw[an (be c)];rfl) f λ_=>rfl⟩,λc=>⟨λj=>⟨⟨r,s⟩,λy m=>a (_,_,_,_,_) b (by rw[ag (aA c),an (be j)];subst m;rfl) f λ_=>rfl⟩,λj=>⟨f,λy m=>a (_,_,_,_,_) _ (by rw[ag (aA c),ag (aA j)]) m λe=>absurd e (aA c)⟩⟩⟩) (l:=λx=>aR λh=>⟨(_,x.2.2.2.2.2.2.1),rfl,h.1,λ_=>rfl⟩)
def Ht{β:Type}(f:β→Bool):List (ID×β)→Nat
 |[]=>0
 |p::l=>Ht f l+(if f p.2 then 1 else 0)
theorem Hu{β:Type}(f:β→Bool):∀l:List (ID×β),Ht f l≤l.length
 |[]=>aC _
 |p::l=>by
  have:=Hu f l;simp only[Ht,bd];split<;>omega
def gnN(n:ga):Nat:=Ht (λv:Nd=>v.2.2.2.1) n
theorem pQ{β:Type}(f:β→Bool)(k:ID)(v:β):∀l:List (ID×β),Ht f (cF (kt:=cO) k v l)+(if(cy (kt:=cO) k l).any f then 1 else 0)=Ht f l+(if f v then 1 else 0)
 |[]=>by simp[cF,cy,Ht]
 |p::l=>by
  have c:=pQ f k v l;by_cases e:ij cO k p.1=true
  ·have a:cF (kt:=cO) k v (p::l)=(p.1,v)::l:=by simp only[cF];rw[an e]
   have b:cy (kt:=cO) k (p::l)=some p.2:=by simp only[cy];rw[an e]
   rw[a,b];simp only[Ht,Option.any_some];omega
  ·have a:cF (kt:=cO) k v (p::l)=p::cF (kt:=cO) k v l:=by simp only[cF];rw[ag e]
   have b:cy (kt:=cO) k (p::l)=cy (kt:=cO) k l:=by simp only[cy];rw[ag e]
   rw[a,b];simp only[Ht];omega
theorem y_{n:ga}(h:rB n)(s:n.length≤100000):Tf n:=by
 obtain⟨A,h⟩:=h;refine⟨by omega,λp b l a=>?_⟩;have f:=h.two p b;have g:=h.light b;have i:=vX.le (n:=n) (A:=A) p.1
 have j:∀l:List ID,(∀c∈l,c∈gQ n)→3*l.length≤(l.map (wt n A)).sum:=by
  intro l
  induction l with
  |nil=>intro _;simp
  |cons c l m=>
   intro q;have t:=h.ge3 (q c (aM ..));have f:=m λd o=>q d (aE _ o);simp only[aX,cY,bd];omega
 have u:=j (iY p.2) (h.key p b)
 have e:l.length≤(iY p.2).length:=by
  unfold iY;rw[aa]
  match r:p.2.2.2.2.2.1,f with
  |[v,w],_=>
   rw[r]at a;simp only[br,List.not_mem_nil,or_false]at a;rcases a with rfl|rfl
   ·simp
   ·simp
 omega
def ja(n:ga)(g:Int):Prop:=rB n∧n.length≤4097∧0≤g∧g≤gnN n
theorem Bp{n:ga}{g:Int}(h:ja n g):g≤4097:=by
 have:gnN n≤n.length:=Hu _ n;have:=h.2.1;have:=h.2.2.2;omega
theorem vp{n:ga}{g:Int}{id:ID}(h:ja n g):ja (lF n g id).2.2 (lF n g id).2.1:=by
 refine⟨C8 h.1,by rw[LL];exact h.2.1,?_⟩;have b:=h.2.2;unfold lF;split
 ·exact b
 rename_i c;dsimp only;split
 ·exact b
 ·rename_i e;have c:lE n id=true:=by simpa using c
  unfold lE at c;rw[aF,cE]at c;obtain⟨a,f⟩:=c.2;rw[f]at e⊢;have:=pQ (λv:Nd=>v.2.2.2.1) id (a.1,a.2.1,a.2.2.1,true,a.2.2.2.2) n;rw[show cy (kt:=cO) id n=some a from f]at this;simp only[Option.any_some]at this;simp only[cZ]at e⊢;rw[ag e,an trivial]at this;unfold gnN at b⊢;show 0≤g+1∧g+1≤(Ht _ (cF (kt:=cO) id _ n):Int);omega
theorem zz{n:ga}{g:Int}{i:eR}(h:ja n g):ja (mA n i).2 g:=by
 obtain⟨t,A,u,w⟩:=G0 (i:=i) h.1;by_cases q:(mA n i).1=0
 ·refine⟨t,by have:=u q;omega,h.2.2.1,?_⟩;have x:=h.2.2.2;unfold mA at q⊢;split at q
  ·cases q
  rename_i m;rw[ag m];split at q
  ·cases q
  rename_i r;rw[ag r];split at q
  ·cases q
  rename_i j;rw[ag j];split at q
  ·cases q
  rename_i y;rw[ag y];dsimp only;have j:(aU cO (i.2.2.1,i.2.2.2.1,()) n).isSome=true:=by rw[bR]at j;exact j
  rw[cE]at j;obtain⟨a,c⟩:=j;rw[c,cZ];have s:=pQ (λv:Nd=>v.2.2.2.1) (i.2.2.1,i.2.2.2.1,()) (a.1,a.2.1,a.2.2.1,a.2.2.2.1,a.2.2.2.2.1.set (D6 i.2.2.2.2.1) (ye (a.2.2.2.2.1.getD (D6 i.2.2.2.2.1) []) (i.1,i.2.1,())),()) n;rw[show cy (kt:=cO) (i.2.2.1,i.2.2.2.1,()) n=some a from c]at s;simp only[Option.any_some]at s;have o:=pQ (λv:Nd=>v.2.2.2.1) (i.1,i.2.1,()) (i.1,i.2.1,i.2.2.2.2.2.1,false,[[],[]],()) (cF (kt:=cO) (i.2.2.1,i.2.2.2.1,()) (a.1,a.2.1,a.2.2.1,a.2.2.2.1,a.2.2.2.2.1.set (D6 i.2.2.2.2.1) (ye (a.2.2.2.2.1.getD (D6 i.2.2.2.2.1) []) (i.1,i.2.1,())),()) n)
  have f:rA i=true:=by
   rw[not_or]at m;simpa using m.1
  have l:1≤i.2.1:=by
   unfold rA gI at f;rw[aF]at f;exact(ai f.1).2.2.1
  have b:cy (kt:=cO) (i.1,i.2.1,()) n=none:=by
   cases z:cy (kt:=cO) (i.1,i.2.1,()) n with
   |none=>rfl
   |some v=>
    exfalso;apply r;unfold lE;rw[show aU cO (i.1,i.2.1,()) n=some v from z];have:(i.2.1==0)=false:=ax.2 (λ(e:@Eq Int i.2.1 0)=>by rw[e]at l;exact absurd l (by decide));show(!(i.1==0&&i.2.1==0)&&true)=true;rw[this];simp
  rw[fX]at o
  have p:¬(ij cO (i.1,i.2.1,()) (i.2.2.1,i.2.2.2.1,())=true):=by
   intro q;rw[O1.1 q]at b;rw[show cy (kt:=cO) (i.2.2.1,i.2.2.2.1,()) n=some a from c]at b;cases b
  rw[ag p,b]at o;simp only[Option.any_none,cf,if_false]at o;unfold gnN at x⊢;show g≤(Ht _ (cF (kt:=cO) (i.1,i.2.1,()) _ (cF (kt:=cO) (i.2.2.1,i.2.2.2.1,()) _ n)):Int);omega
 ·rw[w q];exact h
def LX(d:TC)(z:ga×Int×List eR)(i:eR):ga×Int×List eR:=
 let a:=mA z.1 i
 if a.1≠0 then(a.2,z.2.1,z.2.2++[i])
 else if(aU cO (i.1,i.2.1,()) d).isSome=true then((lF a.2 z.2.1 (i.1,i.2.1,())).2.2,(lF a.2 z.2.1 (i.1,i.2.1,())).2.1,z.2.2)else(a.2,z.2.1,z.2.2)
def vq(d:TC)(w:List eR)(z:ga×Int×List eR):ga×Int×List eR:=w.foldl (LX d) z
def De:Nat→TC→List eR→ga→Int→List eR×Int×ga
 |0,_,w,n,g=>(w,g,n)
 |k+1,d,w,n,g=>if(vq d w (n,g,[])).2.2.length=w.length then((vq d w (n,g,[])).2.2,(vq d w (n,g,[])).2.1,(vq d w (n,g,[])).1)else De k d (vq d w (n,g,[])).2.2 (vq d w (n,g,[])).1 (vq d w (n,g,[])).2.1
def Df:Ct:=⟨1,⟨[sP 0],Gw 0⟩,[⟨[],V8 7⟩],λ(i,d,w,g,n,b,_)=>du (w.length≤1000000∧ja n g) (De (w.length+1) d w n g) λy=>(i,d,y.2.1,y.2.2,b,y.1,())⟩
def TD:cc:=⟨[sP 0],V8 7⟩
def LY(x:Df.inp.den)(y:TD.den):Prop:=match x,y with
 |(e,a,c,h,j,l,_),(i,d,g,n,b,w,_)=>i=e∧d=a∧b=l∧w.length≤1000000∧ja n g∧∃f,w.length<f∧De f d w n g=De (c.length+1) a c j h
def z_:cc:=⟨[sP 0,sO 2 8,sO 11 7,sI 12,sI 13],V8 7++[some (.sl ou)]⟩
def Dg(z:TD.den)(y:z_.den):Prop:=match z,y with
 |(e,c,f,h,m,a,_),(l,j,i,d,g,n,b,w,r,_)=>i=e∧d=c∧b=m∧w=a∧l=a.length∧ja n g∧∃k:Nat,j=k∧k≤a.length∧r.length≤k∧vq c (a.drop k) (n,g,r)=vq c a (h,f,[])
def a42(x:Df.inp.den):dG:=⟨[(0,og TD (LY x) (λ(_,_,_,_,_,w,_)=>w.length) λz=>[(2,bM z_ (Dg z) λ(l,j,_)=>(@bG Int Int Int _ l j).toNat)])],[],[],[],0⟩
abbrev TE(v:List (Fk×eR)×List (Fk×Int)×Int×List (Fk×gP.den)×List eV.den×List eR×Unit):aN Df.out:=⟨0,v⟩
def Pw:bu:=(134,[Df])::Pv
theorem A_:KK Pw:=kA x_ a42 (∀(p:List (Fk×eR))(q:List (Fk×Int))(r:List eR)(s:Int)(t:List (Fk×gP.den))(u:List eV.den)(Q:aN Df.out→Prop),let y:=(p,q,r,s,t,u,());(Ct.spec Df y).sat Q→Is (LY y (p,q,s,t,u,r,()))∧∀(i:List (Fk×eR))(j:List (Fk×Int))(k:Int)(l:List (Fk×gP.den))(m:List eV.den)(f:List eR),let x:=(i,j,k,l,m,f,());LY y x→Is (Dg x ((↑f.length:Int),0,i,j,k,l,m,f,[],()))∧∀(d a:Int)(n:List (Fk×eR))(g:List (Fk×Int))(h:Int)(v:List (Fk×gP.den))(o:List eV.den)(c e:List eR),let B:=(↑e.length:Int)==(↑c.length:Int);let A:Prop:=(d-(a+1)).toNat<(d-a).toNat;let z:=c.getD a.toNat (0,0,0,0,false,0,());let C:=aU (Ty.i64.pr (Ty.i64.pr Ty.un)) (z.1,z.2.1,()) g;Dg x (d,a,n,g,h,v,o,c,e,())→Br (decide (a<d)) ((0≤a∧a<(↑c.length:Int))∧Tf v∧∀(b:Int×List (Fk×gP.den)),b=mA v z→Br (!b.1==0) ((e.length+1)*40≤140737488355328∧ae (a+1)∧Is (Dg x (d,a+1,n,g,h,b.2,o,c,e++[c.getD a.toNat (0,0,0,0,false,0,())],())∧A)) (Br (C.isSome) ((0≤h∧h≤1000000)∧∀(w:Int×Int×List (Fk×gP.den)),w=lF b.2 h (z.1,z.2.1,())→ae (a+1)∧Is (Dg x (d,a+1,n,g,w.2.1,w.2.2,o,c,e,())∧A)) (ae (a+1)∧Is (Dg x (d,a+1,n,g,h,b.2,o,c,e,())∧A)))) (Br B (Q (TE (n,g,h,v,o,e,()))) (Is (LY y (n,g,h,v,o,e,())∧e.length<f.length)))) (by kernel_rfl) (by
 conv=>zeta
 unfold Br;rintro i d w g n b Q ⟨⟨K,L⟩,H⟩;have M:∀y,De (w.length+1) d w n g=y→Q ⟨0,(i,d,y.2.1,y.2.2,b,y.1,())⟩:=λy e=>H y e.symm;clear H;refine⟨⟨⟨rfl,rfl,rfl,K,L,w.length+1,Nat.lt_succ_self _,rfl⟩⟩,?_⟩;rintro i1 d1 N O b1 w1 ⟨u,v,A,k1,P,f,k3,o⟩;subst u v A;obtain⟨f,rfl⟩:∃R,f=R+1:=⟨f-1,by omega⟩;refine⟨⟨⟨rfl,rfl,rfl,rfl,rfl,P,0,rfl,aq _,aq _,rfl⟩⟩,?_⟩;rintro ln j i2 B C D b2 m r ⟨u,v,A,S,U,t,k,W,q2,q3,h⟩;subst u v A S U W;rw[show((k:Int)).toNat=k by omega];have E:=y_ t.1 (by have:=t.2.1;omega);refine⟨λc=>?_,λc=>?_⟩
 ·have q:k<m.length:=by have:=ai c;omega
  rw[cW (z:=((0,0,0,0,false,0,()):eR)) q]at h;have h:vq B (m.drop (k+1)) (LX B (D,C,r) (m.getD k (0,0,0,0,false,0,())))=_:=h;generalize m.getD k (0,0,0,0,false,0,())=x at*;have F:ae ((k:Int)+1):=by unfold ae;omega
  have G:((m.length:Int)-((k:Int)+1)).toNat<((m.length:Int)-(k:Int)).toNat:=by omega
  have s:=zz (i:=x) t;unfold LX at h;dsimp only at h;refine⟨by omega,E,λa X=>?_⟩;rw[←X]at h s;refine⟨λz=>⟨by omega,F,⟨⟨rfl,rfl,rfl,rfl,rfl,s,k+1,rfl,q,by simp;omega,?_⟩,G⟩⟩,λz=>?_⟩
  ·rw[an (by simpa using z)]at h;exact h
  ·rw[ag (by simpa using z)]at h;refine⟨λy=>⟨⟨s.2.2.1,by have:=Bp s;omega⟩,λp J=>⟨F,⟨⟨rfl,rfl,rfl,rfl,rfl,?_,k+1,rfl,q,by omega,?_⟩,G⟩⟩⟩,λy=>⟨F,⟨⟨rfl,rfl,rfl,rfl,rfl,s,k+1,rfl,q,by omega,?_⟩,G⟩⟩⟩
   ·rw[J];exact vp s
   ·rw[an y,←J]at h;exact h
   ·rw[ag (by rw[y];decide)]at h;exact h
 ·have q:k=m.length:=by have:=am c;omega
  subst q;rw[List.drop_length]at h;have h:(D,C,r)=vq B m (O,N,[]):=h;simp only[De]at o;rw[←h]at o;refine⟨λz=>?_,λz=>?_⟩
  ·rw[an (by have:=be z;show r.length=m.length;omega)]at o;exact M (r,C,D) o.symm
  ·have Y:¬(r.length=m.length):=by have:=aA z;omega
   rw[ag Y]at o;exact⟨⟨rfl,rfl,rfl,by omega,t,f,by omega,o⟩,by omega⟩) (l:=λ_=>bm)
def B_(i:Iss):Prop:=∀q∈i,sH q.2=true∧q.1=(q.2.1,q.2.2.1,())
def C_(d:TC):Prop:=∀q∈d,gI q.1.1 q.1.2.1=true
def cb(p:Pg):Prop:=p.1.length+p.2.1.length≤4096∧ez p.2.2.2.2.1.1∧p.2.2.1.length≤p.1.length∧ja p.2.2.2.1.1 p.2.2.2.1.2.1∧B_ p.1∧C_ p.2.1
def sQ(p:PS)(b:List Mk):Pg:=(p.1,p.2.1,p.2.2.1,(p.2.2.2.2,p.2.2.2.1,()),(b,()),())
theorem vr:cb iX:=by
 refine⟨by decide,⟨by decide,by intro m b;cases b⟩,aC _,⟨GZ,by decide,by decide,by decide⟩,?_,?_⟩
 ·intro q a;cases a
 ·intro q a;cases a
theorem Bq{kt:Ty}{β:Type}(k:kt.den)(v:β):∀l:List (kt.den×β),(cF (kt:=kt) k v l).length≤l.length+1
 |[]=>by simp[cF]
 |p::l=>by
  have:=Bq k v l;simp only[cF];split
  ·simp
  ·simp only[bd];omega
theorem xB{kt:Ty}{β:Type}{k:kt.den}{v:β}:∀{l:List (kt.den×β)},cy (kt:=kt) k l=none→(cF (kt:=kt) k v l).length=l.length+1
 |[],_=>by simp[cF]
 |p::l,h=>by
  simp only[cy]at h;split at h
  ·cases h
  ·rename_i e;simp only[cF];rw[ag e,bd,xB h,bd]
theorem zA{kt:Ty}{β:Type}{k:kt.den}{v:β}{q:kt.den×β}:∀{l:List (kt.den×β)},q∈cF (kt:=kt) k v l→q∈l∨q.2=v∧q.1=k
 |[],h=>by simp[cF]at h;exact .inr (by rw[h];exact⟨rfl,rfl⟩)
 |p::l,h=>by
  simp only[cF]at h;split at h
  ·rename_i e;rcases br.1 h with h|h
   ·exact .inr (by rw[h];exact⟨rfl,(eu.1 e).symm⟩)
   ·exact .inl (aE _ h)
  ·rcases br.1 h with h|h
   ·exact .inl (by rw[h];exact aM ..)
   ·exact(zA h).imp (aE _) id
theorem a43{o:Op}(h:fZ o=true)(b:o.1=1):sH (pB o)=true:=by
 obtain⟨k,a,c,e,f,r,x,g,i,j,l,m,fc,n,p,q,s,t,v,⟨⟩⟩:=o;have b:k=1:=b;subst b;unfold fZ at h;simp only[an trivial,aF]at h;unfold sH pB;simp only[aF];exact⟨⟨h.1.1.1.1,h.1.1.1.2⟩,h.1.1.2⟩
theorem a44{o:Op}(h:fZ o=true)(b:o.1=2):gI (V7 o).1 (V7 o).2.1=true:=by
 obtain⟨k,a,c,e,f,r,x,g,i,j,l,m,fc,n,p,q,s,t,v,⟨⟩⟩:=o;have b:k=2:=b;subst b;unfold fZ at h;simp only[ag (show¬((2:Int)=1)by decide),an trivial,aF]at h;exact h.1.1
theorem C'{o:Op}(h:fZ o=true):Bb o:=by
 obtain⟨k,a,c,b,e,r,x,f,g,i,j,l,fc,m,n,p,s,t,v,⟨⟩⟩:=o;show ae x;unfold fZ at h;dsimp only at h;split at h
 ·simp only[aF,ah]at h;have q:@aZ Int _ 0 x∧@aZ Int _ x 1114111:=⟨h.1.1.1.2.1,h.1.1.1.2.2.1⟩;unfold ae;omega
 split at h
 ·simp only[aF,ah]at h;have q:x=0:=h.1.2.2.2.2.2.2;rw[q];unfold ae;omega
 split at h
 ·simp only[aF,ah]at h;have q:x=0:=h.1.2.2.2.2.2.2;rw[q];unfold ae;omega
 ·cases h
def xC(p:Pg)(l:List Op)(y:Int×Pg):Prop:=cb y.2∧(p=iX→l=[iC]→y=(0,eW))∧(p=iX→l=[]→y.2=iX)
theorem a45:ja eW.2.2.2.1.1 eW.2.2.2.1.2.1:=by
 have:=zz (i:=(0,1,0,0,true,97,())) (show ja [(sa,jz)] 0 from⟨GZ,by decide,by decide,by decide⟩);have e:(mA [(sa,jz)] (0,1,0,0,true,97,())).2=eW.2.2.2.1.1:=by kernel_rfl
 rw[e]at this;exact this
theorem zB:cb eW:=by
 refine⟨by decide,⟨by decide,by intro m b;cases b⟩,aq _,a45,?_,?_⟩
 ·intro q a;have a:q∈[(((0,1,()):ID),((0,1,0,0,true,97,()):eR))]:=a;rw[cg.1 a];exact⟨by decide,rfl⟩
 ·intro q a;cases a
theorem pR(p:Pg)(l:List Op):∃y,xC p l y:=by
 by_cases h:l=[]
 ·exact⟨(0,iX),vr,λ_ e=>(by rw[h]at e;cases e),λ_ _=>rfl⟩
 ·exact⟨(0,eW),zB,λ_ _=>rfl,λ_ e=>absurd e h⟩
structure Frs(i0:Iss)(F:List Op):Prop where
 op:∀o∈F,fZ o=true
 nd:(F.map mB).Nodup
 no:∀o∈F,o.1=1→aU cO (Bo o) i0=none
theorem TG{o o':Op}(h:o.1=1)(h':o'.1=1)(e:Bo o=Bo o'):mB o=mB o':=by
 unfold mB;have a:o.2.1=o'.2.1:=aI (λx:ID=>x.1) e;have b:o.2.2.1=o'.2.2.1:=aI (λx:ID=>x.2.1) e;rw[an h,an h',h,h',a,b]
abbrev Sen:=List (List Int×Int)
def rF:Ct:=⟨2,⟨[sP 0,(1,false,[.d (.sl jV)])],Gw 0⟩,[⟨[sI 0],V8 7⟩],λ(l,i,d,w,g,n,b,_)=>eO (cb (sQ (i,d,w,g,n) b)∧l.length≤1000000) (xC (sQ (i,d,w,g,n) b) l) λy=>(y.1,y.2.1,y.2.2.1,y.2.2.2.2.1.2.1,y.2.2.2.2.1.1,y.2.2.2.2.2.1.1,y.2.2.2.1,())⟩
def D_:cc:=⟨[sP 0,(5,false,[.mp 7]),sO 6 8,sI 7,(26,false,[.d (.sl jV)]),sI 27,sI 28],Gw 0++[some (.mp V6 .i64),some (.sl jV)]⟩
def Hw(x:rF.inp.den)(y:D_.den):Prop:=match x,y with
 |(a,c,f,h,m,p,e,_),(st,l,r,j,i,d,w,g,n,b,q,F,_)=>l=a∧(i,d,w,g,n,b)=(c,f,h,m,p,e)∧st=e.length∧r=a.length∧Frs c F∧(∀o∈F,(aU V6 (mB o) q).isSome=true)∧∃k:Nat,j=k∧k≤a.length∧F.length≤k∧(sQ (c,f,h,m,p) e=iX→a=[iC]→(k=0→q=[])∧F=a.take k)
def Px:cc:=⟨[sP 0,sO 6 7,sI 7,sO 56 7,sI 57,sI 58],Gw 0++[some (.sl jV)]⟩
def dF(x:rF.inp.den)(F:List Op):Prop:=Frs x.2.1 F∧F.length≤x.1.length∧(sQ (x.2.1,x.2.2.1,x.2.2.2.1,x.2.2.2.2.1,x.2.2.2.2.2.1) x.2.2.2.2.2.2.1=iX→x.1=[iC]→F=[iC])
def xD(x:rF.inp.den)(y:Px.den):Prop:=match x,y with
 |(m,c,e,f,h,l,a,_),(st,o,j,i,d,w,g,n,b,F,_)=>(i,d,w,g,n,b)=(c,e,f,h,l,a)∧dF (m,c,e,f,h,l,a,()) F∧o=F.length∧∃k:Nat,j=k∧k≤F.length∧@aZ Int _ a.length st∧@aZ Int _ st (@eH Int Int Int _ a.length k)
def Py:cc:=⟨[sP 0,sO 95 8,sI 96,sI 97],V8 7++[some (.sl jV)]⟩
structure Tkg(x:rF.inp.den)(F:List Op)(k:Nat)(p:PS)(b:List Mk):Prop where
 no:∀o∈F.drop k,o.1=1→aU cO (Bo o) p.1=none
 len:p.1.length+p.2.1.length≤x.2.1.length+x.2.2.1.length+k
 mks:ez b
 wt:p.2.2.1.length≤p.1.length
 tg:ja p.2.2.2.2 p.2.2.2.1
 is:B_ p.1
 dr:C_ p.2.1
 ty:sQ (x.2.1,x.2.2.1,x.2.2.2.1,x.2.2.2.2.1,x.2.2.2.2.2.1) x.2.2.2.2.2.2.1=iX→x.1=[iC]→(k=0→sQ p b=iX)∧(k=1→sQ p b=sQ (rE iC ([],[],[],0,[(sa,jz)])) [])
 t0:k=0→sQ p b=sQ (x.2.1,x.2.2.1,x.2.2.2.1,x.2.2.2.2.1,x.2.2.2.2.2.1) x.2.2.2.2.2.2.1
def Bt(x:rF.inp.den)(y:Py.den):Prop:=match y with
 |(a,j,i,d,g,n,b,w,F,_)=>dF x F∧@aZ Int _ (@eH Int Int Int _ (@eH Int Int Int _ x.2.1.length x.2.2.1.length) F.length) 4096∧a=F.length∧∃k:Nat,j=k∧k≤F.length∧Tkg x F k (i,d,w,g,n) b
theorem Hy(d:TC):∀(w:List eR)(z:ga×Int×List eR),ja z.1 z.2.1→ja (vq d w z).1 (vq d w z).2.1∧(vq d w z).2.2.length≤z.2.2.length+w.length
 |[],z,h=>⟨h,aC _⟩
 |i::w,z,h=>by
  have b:ja (LX d z i).1 (LX d z i).2.1∧(LX d z i).2.2.length≤z.2.2.length+1:=by
   have a:=zz (i:=i) h;unfold LX;dsimp only;split
   ·exact⟨a,by simp⟩
   split
   ·exact⟨vp a,Nat.le_succ _⟩
   ·exact⟨a,Nat.le_succ _⟩
  have:=Hy d w (LX d z i) b.1;refine⟨this.1,?_⟩;have e:=this.2;show(vq d w (LX d z i)).2.2.length≤_;rw[bd];omega
theorem Hz(d:TC):∀(f:Nat)(w:List eR)(n:ga)(g:Int),ja n g→(De f d w n g).1.length≤w.length∧ja (De f d w n g).2.2 (De f d w n g).2.1
 |0,w,n,g,h=>⟨aC _,h⟩
 |f+1,w,n,g,h=>by
  have a:=Hy d w (n,g,[]) h;have b:(vq d w (n,g,[])).2.2.length≤w.length:=by have:=a.2;simpa using this
  simp only[De];split
  ·exact⟨b,a.1⟩
  ·have:=Hz d f (vq d w (n,g,[])).2.2 (vq d w (n,g,[])).1 (vq d w (n,g,[])).2.1 a.1;exact⟨bA this.1 b,this.2⟩
theorem HA{x:rF.inp.den}{F:List Op}{k:Nat}{p:PS}{b s:List Mk}(h:Tkg x F k p b)(z:dF x F)(E:k<F.length)(A:ez s)(B:(F.getD k Bc).1=1→s=b):Tkg x F (k+1) (rE (F.getD k Bc) p) s:=by
 have Q:F.getD k Bc∈F:=aT E;have G:=z.1.op _ Q;have H:F.drop k=F.getD k Bc::F.drop (k+1):=cW E;have c:=h.no;rw[H]at c;have C:=z.1.nd
 have g:sQ (x.2.1,x.2.2.1,x.2.2.2.1,x.2.2.2.2.1,x.2.2.2.2.2.1) x.2.2.2.2.2.2.1=iX→x.1=[iC]→(k+1=0→sQ (rE (F.getD k Bc) p) s=iX)∧(k+1=1→sQ (rE (F.getD k Bc) p) s=sQ (rE iC ([],[],[],0,[(sa,jz)])) []):=by
  intro J K;refine⟨λe=>by omega,λe=>?_⟩;have R:k=0:=by omega
  subst R;have S:=z.2.2 J K;have L:F.getD 0 Bc=iC:=by rw[S];rfl
  have t:=(h.ty J K).1 rfl;have U:s=b:=B (by rw[L];rfl);have m:b=[]:=aI (λq:Pg=>q.2.2.2.2.1.1) t
  have u:p=([],[],[],0,[(sa,jz)]):=by
   obtain⟨a,n,y,M,N⟩:=p;have i:a=[]:=aI (λq:Pg=>q.1) t;have w:n=[]:=aI (λq:Pg=>q.2.1) t;have W:y=[]:=aI (λq:Pg=>q.2.2.1) t;have X:M=0:=aI (λq:Pg=>q.2.2.2.1.2.1) t;have Y:N=[(sa,jz)]:=aI (λq:Pg=>q.2.2.2.1.1) t;rw[i,w,W,X,Y]
  rw[L,U,m,u]
 generalize hO:F.getD k Bc=o at*;obtain⟨a,n,y,M,N⟩:=p;have O:a.length+n.length≤x.2.1.length+x.2.2.1.length+k:=h.len;have a0:y.length≤a.length:=h.wt;unfold rE at g⊢;by_cases m:o.1=1
 ·rw[an m]at g⊢;have hn:cy (kt:=cO) (Bo o) a=none:=c o (aM ..) m;have hl:=xB (v:=pB o) hn;refine⟨λr f P=>?_,?_,A,?_,h.tg,λq D=>?_,h.dr,g,λe=>absurd e (Nat.succ_ne_zero _)⟩
  ·show cy (kt:=cO) (Bo r) (cF (kt:=cO) (Bo o) (pB o) a)=none;rw[fX,ag]
   ·exact c r (aE _ f) P
   ·intro e;have e:=TG P m (O1.1 e);have hs:(F.drop k).Nodup∨True:= .inr trivial
    have j:((F.drop k).map mB).Nodup:=by
     have:=C;rw[←dC k F,dl,List.nodup_append]at this;exact this.2.1
    rw[H,aX,lK]at j;exact j.1 (by rw[←e];exact fe f)
  ·show(cF (kt:=cO) (Bo o) (pB o) a).length+n.length≤_;omega
  ·show(y++[pB o]).length≤(cF (kt:=cO) (Bo o) (pB o) a).length;rw[aa,bb];omega
  ·rcases zA D with i|⟨i,w⟩
   ·exact h.is q i
   ·rw[i,w];exact⟨a43 G m,rfl⟩
 ·rw[ag m]at g⊢;have l:∀r∈F.drop (k+1),r.1=1→aU cO (Bo r) a=none:=λr f=>c r (aE _ f);by_cases u:o.1=2
  ·rw[an u]at g⊢;refine⟨l,?_,A,h.wt,vp h.tg,h.is,λq D=>?_,g,λe=>absurd e (Nat.succ_ne_zero _)⟩
   ·have:=Bq (kt:=cO) (V7 o) (1:Int) n;show a.length+(cF (kt:=cO) (V7 o) 1 n).length≤_;omega
   ·rcases zA D with i|⟨i,w⟩
    ·exact h.dr q i
    ·rw[w];exact a44 G u
  ·rw[ag u]at g⊢;exact⟨l,by show a.length+n.length≤_;omega,A,h.wt,h.tg,h.is,h.dr,g,λe=>absurd e (Nat.succ_ne_zero _)⟩
def a46(x:rF.inp.den):dG:=⟨[(7,bM D_ (Hw x) λ(_,_,a,j,_)=>(@bG Int Int Int _ a j).toNat),(17,bM Px (xD x) λ(_,a,j,_)=>(@bG Int Int Int _ a j).toNat),(26,bM Py (Bt x) λ(a,j,_)=>(@bG Int Int Int _ a j).toNat)],[],[],[],0⟩
abbrev zC(v:Int×List (Fk×eR)×List (Fk×Int)×Int×List (Fk×gP.den)×List eV.den×List eR×Unit):aN rF.out:=⟨0,v⟩
def Pz:bu:=(93,[rF])::Pw
theorem PA:KK Pz:=kA A_ a46 (∀(d:List Op)(g:List (Fk×eR))(h:List (Fk×Int))(i:List eR)(j:Int)(k:List (Fk×gP.den))(c:List eV.den)(Q:aN rF.out→Prop),let x:=(d,g,h,i,j,k,c,());(Ct.spec rF x).sat Q→c.length≤1000000∧Is (Hw x ((↑c.length:Int),d,(↑d.length:Int),0,g,h,i,j,k,c,[],[],()))∧∀(J:Int)(e:List Op)(l a:Int)(s:List (Fk×eR))(v:List (Fk×Int))(w:List eR)(y:Int)(z:List (Fk×gP.den))(t:List eV.den)(O:List (List Int×Int))(u:List Op),let D:=(s,v,w,y,z,t,O,u,());let E:Prop:=(l-(a+1)).toNat<(l-a).toNat;let X:Prop:=ae (a+1)∧Is (Hw x (J,e,l,a+1,D)∧E);let A:=e.getD a.toNat (0,0,0,0,0,false,0,0,0,0,0,0,0,false,0,0,false,0,0,());let z8:=aU (Ty.ar 3 Ty.i64) (mB A) O;Hw x (J,e,l,a,D)→Br (decide (a<l)) ((0≤a∧a<(↑e.length:Int))∧True∧Br (!fZ A) (Q (zC (1,s,v,y,z,t,w,()))) (True∧Br (z8.isSome) X (ez t∧∀(b:Bool),(fZ A=true→A.1=1→b=(aU (Ty.i64.pr (Ty.i64.pr Ty.un)) (A.2.1,A.2.2.1,()) s).isSome)→Br b X (True∧(u.length+1)*144≤140737488355328∧ae (a+1)∧Is (Hw x (J,e,l,a+1,s,v,w,y,z,t,dy (Ty.ar 3 Ty.i64) (mB A) 1 O,u++[e.getD a.toNat (0,0,0,0,0,false,0,0,0,0,0,0,0,false,0,0,false,0,0,())],())∧E))))) (Is (xD x (J,(↑u.length:Int),0,s,v,w,y,z,t,u,()))∧∀(F r f:Int)(m:List (Fk×eR))(n:List (Fk×Int))(P:List eR)(R:Int)(S:List (Fk×gP.den))(o:List eV.den)(p:List Op),let G:Prop:=(r-(f+1)).toNat<(r-f).toNat;let Y:=zC (14,m,n,R,S,o,P,());let U:=(m,n,P,R,S,o,p,());let z6:Prop:=4096<(↑m.length:Int)+(↑n.length:Int)+(↑o.length:Int)+(↑p.length:Int);let z4:=(p.getD f.toNat (0,0,0,0,0,false,0,0,0,0,0,0,0,false,0,0,false,0,0,())).1==3;xD x (F,r,f,U)→Br (decide (f<r)) ((0≤f∧f<(↑p.length:Int))∧Br z4 (ae (F+1)∧ae (f+1)∧Is (xD x (F+1,r,f+1,U)∧G)) (ae (f+1)∧Is (xD x (F,r,f+1,U)∧G))) (ae ((↑m.length:Int)+(↑n.length:Int))∧o.length≤1000000∧ae ((↑m.length:Int)+(↑n.length:Int)+(↑o.length:Int))∧ae ((↑m.length:Int)+(↑n.length:Int)+(↑o.length:Int)+(↑p.length:Int))∧Br (decide z6) (Q Y) (Br (decide (512<F)) (Q Y) (Is (Bt x ((↑p.length:Int),0,m,n,R,S,o,P,p,()))∧∀(H q:Int)(W:List (Fk×eR))(K:List (Fk×Int))(B:Int)(L:List (Fk×gP.den))(M:List eV.den)(C:List eR)(N:List Op),let z5:=N.getD q.toNat (0,0,0,0,0,false,0,0,0,0,0,0,0,false,0,0,false,0,0,());Bt x (H,q,W,K,B,L,M,C,N,())→Br (decide (q<H)) ((0≤q∧q<(↑N.length:Int))∧(ez M∧C.length≤1000000∧0≤B∧B≤1000000)∧∀(b:(List (Fk×eR)×List (Fk×Int)×List eR×Int×List (Fk×gP.den))×List eV.den),b.1=rE z5 (W,K,C,B,L)∧ez b.2∧(z5.1=1→b.2=M)→ae (q+1)∧Is (Bt x (H,q+1,b.1.1,b.1.2.1,b.1.2.2.2.1,b.1.2.2.2.2,b.2,b.1.2.2.1,N,())∧(H-(q+1)).toNat<(H-q).toNat)) ((C.length≤1000000∧ja L B)∧∀(b:List eR×Int×List (Fk×gP.den)),b=De (C.length+1) K C L B→Q (zC (0,W,K,b.2.1,b.2.2,M,b.1,())))))))) (by kernel_rfl) (by
 conv=>zeta
 unfold Br;rintro l i d w g n b Q ⟨⟨s,hl⟩,hQ⟩;have s:cb (sQ (i,d,w,g,n) b):=s;have Y:∀(er:Int)(p:PS)(b':List Mk),xC (sQ (i,d,w,g,n) b) l (er,sQ p b')→Q ⟨0,(er,p.1,p.2.1,p.2.2.2.1,p.2.2.2.2,b',p.2.2.1,())⟩:=λer p b' h=>hQ (er,sQ p b') h;clear hQ;obtain⟨k1,k2,k3,k4,k5,k6⟩:=id s;have k1:i.length+d.length≤4096:=k1;have k3:w.length≤i.length:=k3;have k4:ja n g:=k4;have kb:b.length≤512:=k2.1;have tn:sQ (i,d,w,g,n) b=iX→i=[]∧d=[]∧b=[]:=λt=>⟨aI (λq:Pg=>q.1) t,aI (λq:Pg=>q.2.1) t,aI (λq:Pg=>q.2.2.2.2.1.1) t⟩;refine⟨by omega,⟨⟨rfl,rfl,rfl,rfl,⟨λo A=>(by cases A),List.nodup_nil,λo A=>(by cases A)⟩,λo A=>(by cases A),0,rfl,aq _,aC _,λ_ _=>⟨λ_=>rfl,rfl⟩⟩⟩,?_⟩;rintro st l1 ln j i1 d1 w1 g1 n1 b1 sn F ⟨e1,v,e3,e4,J,R,k,e5,q3,q4,q5⟩;have a1:i=i1:=(aI (λz=>z.1) v).symm;have a2:d=d1:=(aI (λz=>z.2.1) v).symm;have a3:w=w1:=(aI (λz=>z.2.2.1) v).symm;have a4:g=g1:=(aI (λz=>z.2.2.2.1) v).symm;have a5:n=n1:=(aI (λz=>z.2.2.2.2.1) v).symm;have a6:b=b1:=(aI (λz=>z.2.2.2.2.2) v).symm;have a7:l=l1:=e1.symm;subst a1 a2 a3 a4 a5 a6 a7 e3 e4 e5;clear e1 v;rw[show((k:Int)).toNat=k by omega];refine⟨λc=>?_,λc=>?_⟩
 ·have u:k<l.length:=by have:=ai c;omega
  have hm:l.getD k (0,0,0,0,0,false,0,0,0,0,0,0,0,false,0,0,false,0,0,())∈l:=aT u;have a0:l.take (k+1)=l.take k++[l.getD k (0,0,0,0,0,false,0,0,0,0,0,0,0,false,0,0,false,0,0,())]:=cK u;generalize A:l.getD k (0,0,0,0,0,false,0,0,0,0,0,0,0,false,0,0,false,0,0,())=o at*
  have K:sQ (i,d,w,g,n) b=iX→l=[iC]→k=0∧o=iC:=by
   intro m r;have h0:k=0:=by rw[r]at u;simpa using u
   subst h0;rw[r]at A;exact⟨rfl,A.symm⟩
  have hN:ae ((k:Int)+1):=by unfold ae;omega
  have N:((l.length:Int)-((k:Int)+1)).toNat<((l.length:Int)-(k:Int)).toNat:=by omega
  refine⟨by omega,trivial,λS=>?_,λS=>⟨trivial,λc2=>?_,λc2=>⟨k2,λkn U=>⟨λc3=>?_,λc3=>⟨trivial,by omega,hN,⟨⟨rfl,rfl,rfl,rfl,⟨?_,?_,?_⟩,?_,k+1,rfl,u,?_,?_⟩,N⟩⟩⟩⟩⟩⟩
  ·refine Y 1 (i,d,w,g,n) b ⟨s,λm r=>?_,λm _=>m⟩;rw[(K m r).2]at S;exact absurd S (by decide)
  ·refine⟨hN,⟨⟨rfl,rfl,rfl,rfl,J,R,k+1,rfl,u,by omega,λm r=>?_⟩,N⟩⟩;have:=(q5 m r).1 (K m r).1;rw[this]at c2;cases c2
  ·refine⟨hN,⟨⟨rfl,rfl,rfl,rfl,J,R,k+1,rfl,u,by omega,λm r=>?_⟩,N⟩⟩;have e:=(K m r).2;have:=U (by rw[e];decide) (by rw[e];rfl);rw[(tn m).1]at this;rw[this]at c3;cases c3
  ·intro G x;rcases aY.1 x with h|h
   ·exact J.op G h
   ·rw[cg.1 h];simpa using S
  ·rw[dl,List.nodup_append];refine⟨J.nd,by simp,λa ha y hy=>?_⟩;have hy:y=mB o:=by simpa using hy
   intro e;obtain⟨G,x,e'⟩:=dY.1 ha;have:=R G x;rw[e',e,hy]at this;rw[show(aU V6 (mB o) sn).isSome=false from c2]at this;cases this
  ·intro G x h1;rcases aY.1 x with h|h
   ·exact J.no G h h1
   ·rw[cg.1 h]at h1⊢;have:=U (by simpa using S) h1;rw[c3]at this;exact Option.isSome_eq_false_iff.1 this.symm|>Option.isNone_iff_eq_none.1
  ·intro G x;show(cy (kt:=V6) (mB G) (cF (kt:=V6) (mB o) 1 sn)).isSome=true;rw[fX];split
   ·rfl
   ·rename_i ne;rcases aY.1 x with h|h
    ·exact R G h
    ·exact absurd (eu.2 (by rw[cg.1 h])) ne
  ·simp;omega
  ·intro m r;refine⟨λe=>by omega,?_⟩;rw[a0,←(q5 m r).2]
 ·have u:k=l.length:=by have:=am c;omega
  subst u;refine⟨⟨⟨rfl,⟨J,q4,λm r=>?_⟩,rfl,0,rfl,aq _,cr _,by omega⟩⟩,?_⟩
  ·have:=(q5 m r).2;rw[bp]at this;rw[this];exact r
  clear c J R q3 q4 q5;rintro C a8 j2 i2 d2 w2 g2 n2 b2 F2 ⟨v,f,e4,k,e5,r1,r2,W⟩;have a1:i=i2:=(aI (λz=>z.1) v).symm;have a2:d=d2:=(aI (λz=>z.2.1) v).symm;have a3:w=w2:=(aI (λz=>z.2.2.1) v).symm;have a4:g=g2:=(aI (λz=>z.2.2.2.1) v).symm;have a5:n=n2:=(aI (λz=>z.2.2.2.2.1) v).symm;have a6:b=b2:=(aI (λz=>z.2.2.2.2.2) v).symm;subst a1 a2 a3 a4 a5 a6 e4 e5;have a9:F2.length≤l.length:=f.2.1;have r2:@aZ Int _ b.length C:=r2;have W:@aZ Int _ C (b.length+k):=W;refine⟨λc=>?_,λc=>?_⟩
  ·have u:k<F2.length:=by have:=ai c;omega
   have N:((F2.length:Int)-((k:Int)+1)).toNat<((F2.length:Int)-(k:Int)).toNat:=by omega
   refine⟨by omega,λ_=>⟨by unfold ae;omega,by unfold ae;omega,⟨⟨rfl,f,rfl,k+1,rfl,u,?_,?_⟩,N⟩⟩,λ_=>⟨by unfold ae;omega,⟨⟨rfl,f,rfl,k+1,rfl,u,r2,?_⟩,N⟩⟩⟩
   ·show @aZ Int _ b.length (C+1);omega
   ·show @aZ Int _ (C+1) (b.length+((k+1:Nat):Int));omega
   ·show @aZ Int _ C (b.length+((k+1:Nat):Int));omega
  ·refine⟨by unfold ae;omega,by omega,by unfold ae;omega,by unfold ae;omega,λL=>?_,λL=>⟨λc5=>?_,λc5=>⟨⟨⟨f,?_,rfl,0,rfl,aq _,⟨λo A=>f.1.no o (by simpa using A),aC _,k2,k3,k4,k5,k6,λm _=>⟨λ_=>m,λe=>by omega⟩,λ_=>rfl⟩⟩⟩,?_⟩⟩⟩
   ·refine Y 14 (i,d,w,g,n) b ⟨s,λm r=>?_,λm _=>m⟩;exfalso;have L:=ai L;obtain⟨z1,z2,z3⟩:=tn m;rw[z1,z2,z3,f.2.2 m r]at L;exact absurd L (by decide)
   ·refine Y 14 (i,d,w,g,n) b ⟨s,λm r=>?_,λm _=>m⟩;exfalso;have c5:=ai c5;have:=f.2.2 m r;rw[this]at r1;have:b=[]:=(tn m).2.2;rw[this]at W;simp at r1 W;omega
   ·have:=am L;show @aZ Int _ ((i.length:Int)+d.length+F2.length) 4096;omega
   clear c L c5 r1 r2 W;rintro b0 j3 E H O P b3 M X ⟨f3,s1,e1,k,v,s2,T⟩;subst e1 v;rw[show((k:Int)).toNat=k by omega];have s1:@aZ Int _ ((i.length:Int)+d.length+X.length) 4096:=s1;have tl:E.length+H.length≤i.length+d.length+k:=T.len;have tw:M.length≤E.length:=T.wt;have tt:ja P O:=T.tg;have tg:=Bp tt;refine⟨λc=>?_,λc=>?_⟩
   ·have u:k<X.length:=by have:=ai c;omega
    refine⟨by omega,⟨T.mks,by omega,tt.2.2.1,by omega⟩,λz D=>⟨by unfold ae;omega,⟨⟨f3,s1,rfl,k+1,rfl,u,?_⟩,by omega⟩⟩⟩;have:=HA T f3 u D.2.1 D.2.2;have e:z.1=rE (X.getD k Bc) (E,H,M,O,P):=D.1;rw[←e]at this;exact this
   ·have u:k=X.length:=by have:=am c;omega
    subst u;refine⟨⟨by omega,tt⟩,λz D=>?_⟩;have A:=Hz H (M.length+1) M P O tt;rw[←D]at A;refine Y 0 (E,H,z.1,z.2.1,z.2.2) b3 ⟨⟨by show E.length+H.length≤4096;omega,T.mks,by show z.1.length≤E.length;omega,A.2,T.is,T.dr⟩,λm r=>?_,λm r=>?_⟩
    ·have eF:=f3.2.2 m r;have B:=(T.ty m r).2 (by rw[eF];rfl);have y1:E=eW.1:=aI (λq:Pg=>q.1) B;have y2:H=[]:=aI (λq:Pg=>q.2.1) B;have y3:M=[pB iC]:=aI (λq:Pg=>q.2.2.1) B;have y4:O=0:=aI (λq:Pg=>q.2.2.2.1.2.1) B;have y5:P=[(sa,jz)]:=aI (λq:Pg=>q.2.2.2.1.1) B;have y6:b3=[]:=aI (λq:Pg=>q.2.2.2.2.1.1) B;subst y1 y2 y3 y4 y5 y6;have e:De ([pB iC].length+1) [] [pB iC] [(sa,jz)] 0=([],0,eW.2.2.2.1.1):=by kernel_rfl
     have D:z=([],0,eW.2.2.2.1.1):=D.trans e;subst D;rfl
    ·have h0:X.length=0:=by have:=f3.2.1;have r:l=[]:=r;rw[r]at this;simpa using this
     have B:sQ (E,H,M,O,P) b3=iX:=(T.t0 h0).trans m;have y1:E=[]:=aI (λq:Pg=>q.1) B;have y2:H=[]:=aI (λq:Pg=>q.2.1) B;have y3:M=[]:=aI (λq:Pg=>q.2.2.1) B;have y4:O=0:=aI (λq:Pg=>q.2.2.2.1.2.1) B;have y5:P=[(sa,jz)]:=aI (λq:Pg=>q.2.2.2.1.1) B;have y6:b3=[]:=aI (λq:Pg=>q.2.2.2.2.1.1) B;subst y1 y2 y3 y4 y5 y6;have e:De (([]:List eR).length+1) [] [] [(sa,jz)] 0=([],0,[(sa,jz)]):=by kernel_rfl
     have D:z=([],0,[(sa,jz)]):=D.trans e;subst D;rfl) (l:=λ_=>aR λ_=>pR _ _)
end Go.Tp
