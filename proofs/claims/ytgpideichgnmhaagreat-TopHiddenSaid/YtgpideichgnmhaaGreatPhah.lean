/- A part of the proof of TopHiddenSaid: no conditions; packed by a program of our own. -/
import Derived.Test.YtgpideichgnmhaaGreatPhag
set_option linter.defProp false
set_option linter.unusedVariables false
set_option linter.unusedSimpArgs false
open And renaming intro→ck
open BitVec renaming ofInt→bf,ofNat→ag,setWidth→az
open Bool renaming eq_iff_iff→nr,and_eq_true→aK,false_eq_true→cz,not_eq_true'→aR,or_eq_true→jb,not_eq_true→cm,not_eq_false'→aN,not_eq_false→bR
open Int renaming toNat_natCast→aG,toNat_of_nonneg→qJ,eq_ofNat_of_zero_le→bo
open List renaming map_cons→aY,length_append→aa,length_cons→bc,append_assoc→ay,mem_append→ba,drop_of_length_le→bu,nil_append→eO,take_of_length_le→bb,append_nil→aH,getElem?_eq_getElem→an,getD→bF,getElem?_append_left→bq,getElem?_append_right→aJ,length_take→bd,length→ah,getD_eq_getElem?_getD→aw,getElem?_eq_none→be,length_nil→dx,length_map→cG,mem_cons_self→aF,mem_cons_of_mem→aD,mem_of_getElem?→mH,getElem?_eq_some_iff→cq,getElem_mem→ls,mem_singleton→bV,take→de,sum_cons→dy,take_add_one→dR,take_length→bv
open Nat renaming le_refl→aE,le_trans→bE,zero_add→bT,zero_le→aq,lt_or_ge→br,eq_zero_or_pos→dP
open Option renaming getD_some→dA
open Prod renaming ext→ga
namespace Go.Tp
open Go.Hv Go.Proofs Go.RowKit
set_option maxRecDepth 100000
set_option maxHeartbeats 0
def yU{α:Type}(one:Rs->α×Rs):Nat->Rs->List α->List α×Rs
 |0,s,a=>(a,s)
 |k+1,s,a=>yU one k (one s).2 (a++[(one s).1])
def Ed(b:BL)(m:Bool)(s:Rs):Mb×Rs:=
 let i:=dn b s.1 m s.2 0 4
 let p:=hJ b i.2.1 m i.2.2 64
 let g:=hJ b p.2.1 m p.2.2 64
 ((i.1,p.1,g.1,()),g.2)
def Ee(b:BL)(m:Bool)(s:Rs):Fk×Rs:=
 let i:=dn b s.1 m s.2 0 4
 let p:=dn b i.2.1 m i.2.2 0 1048576
 ((i.1,p.1,()),p.2)
def Ef(b:BL)(m:Bool)(s:Rs):BL×Rs:=hJ b s.1 m s.2 64
def TJ:List (Option CP):=[some (.cells [.ptr 1 0])]++rH
def g1C:Ct:=⟨1,⟨[sP 0],TJ⟩,[⟨[(0,true,[.d jf])],TJ⟩],λ(b,a,m,e,_)=>dZ (bZ b a) (Ed b m (a,e)) λy=>(y.1,b,y.2.1,m,y.2.2,())⟩
def a4y:bG:=(55,[g1C])::Qw
def a4z:=kA 55 g1C Qx (cQ g1C 0) (∀(a:BL)(f:Int)(d:Bool)(g:Int)Q,bg g1C (a,f,d,g,()) Q->bZ a f/\∀b,b=dn a f d g 0 4->bZ a b.2.1/\∀c,c=hJ a b.2.1 d b.2.2 64->bZ a c.2.1/\∀e,e=hJ a c.2.1 d c.2.2 64->Q ⟨0,(b.1,c.1,e.1,()),a,e.2.1,d,e.2.2,()⟩) (by
 unfold bg;rintro b a m e Q ⟨c,g⟩;have f:=fx m e 0 4 c;refine⟨c,?_⟩;rintro y rfl;refine⟨f.1,?_⟩;have h:=ow m (dn b a m e 0 4).2.2 64 f.1;rintro y rfl;refine⟨h.1,?_⟩;rintro y rfl;exact g _ rfl) (l:=λ_=>bA)
def g2C:Ct:=⟨1,⟨[sP 0],TJ⟩,[⟨[(0,true,[.d iZ])],TJ⟩],λ(b,a,m,e,_)=>dZ (bZ b a) (Ee b m (a,e)) λy=>(y.1,b,y.2.1,m,y.2.2,())⟩
def a40:bG:=(57,[g2C])::a4y
def a41:=kA 57 g2C a4z (cQ g2C 0) (∀(a:BL)(e:Int)(d:Bool)(f:Int)Q,bg g2C (a,e,d,f,()) Q->bZ a e/\∀b,b=dn a e d f 0 4->bZ a b.2.1/\∀c,c=dn a b.2.1 d b.2.2 0 1048576->Q ⟨0,(b.1,c.1,()),a,c.2.1,d,c.2.2,()⟩) (by
 unfold bg;rintro b a m e Q ⟨c,f⟩;have g:=fx m e 0 4 c;refine⟨c,?_⟩;rintro y rfl;refine⟨g.1,?_⟩;rintro y rfl;exact f _ rfl) (l:=λ_=>bA)
def g3C:Ct:=⟨1,⟨[sP 0],TJ⟩,[⟨[(0,false,[.d tB])],TJ⟩],λ(b,a,m,e,_)=>dZ (bZ b a) (Ef b m (a,e)) λy=>(y.1,b,y.2.1,m,y.2.2,())⟩
def a42:bG:=(59,[g3C])::a40
def a43:=kA 59 g3C a41 (cQ g3C 0) (∀(a:BL)(c:Int)(d:Bool)(e:Int)Q,bg g3C (a,c,d,e,()) Q->bZ a c/\∀b,b=hJ a c d e 64->Q ⟨0,b.1,a,b.2.1,d,b.2.2,()⟩) (by
 unfold bg;rintro b a m e Q ⟨c,f⟩;refine⟨c,?_⟩;rintro y rfl;exact f _ rfl) (l:=λ_=>bA)
def pC{α:Type}(one:BL->Bool->Rs->α×Rs)(b:BL)(m:Bool)(s:Rs):List α×Rs:=yU (one b m) (dn b s.1 m s.2 0 5).1.toNat (dn b s.1 m s.2 0 5).2 []
def K0:List (Option CP):=rH++[some (.cells [.ptr 0 0])]
def N1(i:Nat)(f:FuncId)(j:Nat):Nat×Bool×List IP:=(i,false,[.fn f [] [(j,0)]])
def l1C:Ct:=⟨2,⟨[sP 0,N1 1 55 1],K0⟩,[⟨[sO 0 2],K0++[TE]⟩],λ(b,a,m,e,_)=>dZ (bZ b a) (pC Ed b m (a,e)) λy=>(b,y.2.1,m,y.2.2,y.1,())⟩
def l1P:cx:=⟨[sP 0,N1 1 55 1,sO 5 2,sI 7,sI 8],K0++[TE]⟩
def l1I(c:BL)(g:Int)(f:Bool)(h:Int)(y:l1P.den):Prop:=match y with
 |(n,i,b,a,m,e,v,_)=>b=c/\m=f/\bZ c a/\∃q k:Nat,n=q/\q<=5/\i=k/\k<=q/\v.length=k/\yU (Ed c f) (q-k) (a,e) v=pC Ed c f (g,h)
def l1A(x:l1C.inp.den):eH:=⟨[(3,bS l1P (l1I x.1 x.2.1 x.2.2.1 x.2.2.2.1) λ(n,i,_)=>(n-i).toNat)],[],[],[],0⟩
variable{b c ep o pub sec x:BL}{a e hi lo:Int}
theorem Gn(m:Bool)(e:Int)(h:bZ b a):bZ b (Ed b m (a,e)).2.1:=by
 have c:=fx m e 0 4 h;have f:=ow m (dn b a m e 0 4).2.2 64 c.1;exact(ow m _ 64 f.1).1
theorem Gp(m:Bool)(e:Int)(h:bZ b a):bZ b (Ee b m (a,e)).2.1:=(fx m _ 0 1048576 (fx m e 0 4 h).1).1
theorem Gq(m:Bool)(e:Int)(h:bZ b a):bZ b (Ef b m (a,e)).2.1:=(ow m e 64 h).1
def a44:bG:=(54,[l1C])::a42
def a45:=kA 54 l1C a43 l1A (∀(f:BL)(h:Int)(i:Bool)(k:Int)Q,bg l1C (f,h,i,k,()) Q->bZ f h/\∀b,b=dn f h i k 0 5->Is (l1I f h i k (b.1,0,f,b.2.1,i,b.2.2,[],()))/\∀(j g:Int)(a:BL)(d:Int)(c:Bool)(e:Int)(l:List Mb),let m:=dn a d c e 0 4;let z:=hJ a m.2.1 c m.2.2 64;let n:=hJ a z.2.1 c z.2.2 64;l1I f h i k (j,g,a,d,c,e,l,())->Bd (g<j) (bZ a d/\∀b,b=((m.1,z.1,n.1,()),n.2)->(l.length+1)*56<=mM/\am (g+1)/\Is (l1I f h i k (j,g+1,a,b.2.1,c,b.2.2,l++[(b.1.1,b.1.2.1,b.1.2.2.1,())],())/\lN (j-(g+1)) (j-g))) (Q ⟨0,a,d,c,e,l,()⟩)) (by
 conv=>zeta
 unfold Bd lN mM bg;intro b a m e Q ⟨p,r⟩;have t:∀y,pC Ed b m (a,e)=y->Q ⟨0,(b,y.2.1,m,y.2.2,y.1,())⟩:=λy e=>r y e.symm;clear r;have c:=fx m e 0 5 p;refine⟨p,?_⟩;rintro y rfl;refine⟨⟨rfl,rfl,c.1,(dn b a m e 0 5).1.toNat,0,(qJ c.2.2.1).symm,by have:=c.2.2.2;omega,rfl,aq _,rfl,rfl⟩,?_⟩;clear c;rintro n i b x m u v ⟨rfl,rfl,s,q,k,rfl,g,rfl,z,w,f⟩;simp only[ai,aj];have j:v.length=k:=w;refine⟨λh=>⟨s,?_⟩,λh=>?_⟩
 ·rintro y rfl;refine⟨ac,cv,⟨⟨rfl,rfl,Gn m u s,q,k+1,rfl,g,rfl,ac,by simp[j],?_⟩,ac⟩⟩;have o:q-k=(q-(k+1))+1:=ac
  rw[o]at f;exact f
 ·have o:q-k=0:=ac
  rw[o]at f;exact t _ f.symm) (l:=λ_=>bA)
def cEn:Option CP:=some (.sl iZ)
def l2C:Ct:=⟨2,⟨[sP 0,N1 1 57 1],K0⟩,[⟨[sO 0 2],K0++[cEn]⟩],λ(b,a,m,e,_)=>dZ (bZ b a) (pC Ee b m (a,e)) λy=>(b,y.2.1,m,y.2.2,y.1,())⟩
def l2P:cx:=⟨[sP 0,N1 1 57 1,sO 5 2,sI 7,sI 8],K0++[cEn]⟩
def l2I(c:BL)(g:Int)(f:Bool)(h:Int)(y:l2P.den):Prop:=match y with
 |(n,i,b,a,m,e,v,_)=>b=c/\m=f/\bZ c a/\∃q k:Nat,n=q/\q<=5/\i=k/\k<=q/\v.length=k/\yU (Ee c f) (q-k) (a,e) v=pC Ee c f (g,h)
def l2A(x:l2C.inp.den):eH:=⟨[(3,bS l2P (l2I x.1 x.2.1 x.2.2.1 x.2.2.2.1) λ(n,i,_)=>(n-i).toNat)],[],[],[],0⟩
def a46:bG:=(56,[l2C])::a44
def a47:=kA 56 l2C a45 l2A (∀(e:BL)(h:Int)(i:Bool)(k:Int)Q,bg l2C (e,h,i,k,()) Q->bZ e h/\∀b,b=dn e h i k 0 5->Is (l2I e h i k (b.1,0,e,b.2.1,i,b.2.2,[],()))/\∀(j f:Int)(a:BL)(d:Int)(c:Bool)(g:Int)(l:List Fk),let m:=dn a d c g 0 4;let z:=dn a m.2.1 c m.2.2 0 1048576;l2I e h i k (j,f,a,d,c,g,l,())->Bd (f<j) (bZ a d/\∀b,b=((m.1,z.1,()),z.2)->(l.length+1)*16<=mM/\am (f+1)/\Is (l2I e h i k (j,f+1,a,b.2.1,c,b.2.2,l++[(b.1.1,b.1.2.1,())],())/\lN (j-(f+1)) (j-f))) (Q ⟨0,a,d,c,g,l,()⟩)) (by
 conv=>zeta
 unfold Bd lN mM bg;intro b a m e Q ⟨p,r⟩;have t:∀y,pC Ee b m (a,e)=y->Q ⟨0,(b,y.2.1,m,y.2.2,y.1,())⟩:=λy e=>r y e.symm;clear r;have c:=fx m e 0 5 p;refine⟨p,?_⟩;rintro y rfl;refine⟨⟨rfl,rfl,c.1,(dn b a m e 0 5).1.toNat,0,(qJ c.2.2.1).symm,by have:=c.2.2.2;omega,rfl,aq _,rfl,rfl⟩,?_⟩;clear c;rintro n i b x m u v ⟨rfl,rfl,s,q,k,rfl,g,rfl,z,w,f⟩;simp only[ai,aj];have j:v.length=k:=w;refine⟨λh=>⟨s,?_⟩,λh=>?_⟩
 ·rintro y rfl;refine⟨ac,cv,⟨⟨rfl,rfl,Gp m u s,q,k+1,rfl,g,rfl,ac,by simp[j],?_⟩,ac⟩⟩;have o:q-k=(q-(k+1))+1:=ac
  rw[o]at f;exact f
 ·have o:q-k=0:=ac
  rw[o]at f;exact t _ f.symm) (l:=λ_=>bA)
def cBx:Option CP:=some (.sl tB)
def l3C:Ct:=⟨2,⟨[sP 0,N1 1 59 1],K0⟩,[⟨[sO 0 2],K0++[cBx]⟩],λ(b,a,m,e,_)=>dZ (bZ b a) (pC Ef b m (a,e)) λy=>(b,y.2.1,m,y.2.2,y.1,())⟩
def l3P:cx:=⟨[sP 0,N1 1 59 1,sO 5 2,sI 7,sI 8],K0++[cBx]⟩
def l3I(c:BL)(g:Int)(f:Bool)(h:Int)(y:l3P.den):Prop:=match y with
 |(n,i,b,a,m,e,v,_)=>b=c/\m=f/\bZ c a/\∃q k:Nat,n=q/\q<=5/\i=k/\k<=q/\v.length=k/\yU (Ef c f) (q-k) (a,e) v=pC Ef c f (g,h)
def l3A(x:l3C.inp.den):eH:=⟨[(3,bS l3P (l3I x.1 x.2.1 x.2.2.1 x.2.2.2.1) λ(n,i,_)=>(n-i).toNat)],[],[],[],0⟩
def a48:bG:=(58,[l3C])::a46
def a49:=kA 58 l3C a47 l3A (∀(a:BL)(d:Int)(e:Bool)(g:Int)Q,bg l3C (a,d,e,g,()) Q->bZ a d/\∀b,b=dn a d e g 0 5->Is (l3I a d e g (b.1,0,a,b.2.1,e,b.2.2,[],()))/\∀(f c:Int)(h:BL)(i:Int)(j:Bool)(l:Int)(k:List BL),l3I a d e g (f,c,h,i,j,l,k,())->Bd (c<f) (bZ h i/\∀b,b=Ef h j (i,l)->(k.length+1)*24<=mM/\am (c+1)/\Is (l3I a d e g (f,c+1,h,b.2.1,j,b.2.2,k++[b.1],())/\lN (f-(c+1)) (f-c))) (Q ⟨0,h,i,j,l,k,()⟩)) (by
 unfold Bd lN mM bg;intro b a m e Q ⟨p,r⟩;have t:∀y,pC Ef b m (a,e)=y->Q ⟨0,(b,y.2.1,m,y.2.2,y.1,())⟩:=λy e=>r y e.symm;clear r;have c:=fx m e 0 5 p;refine⟨p,?_⟩;rintro y rfl;refine⟨⟨rfl,rfl,c.1,(dn b a m e 0 5).1.toNat,0,(qJ c.2.2.1).symm,by have:=c.2.2.2;omega,rfl,aq _,rfl,rfl⟩,?_⟩;clear c;rintro n i b x m u v ⟨rfl,rfl,s,q,k,rfl,g,rfl,z,w,f⟩;simp only[ai,aj];have j:v.length=k:=w;refine⟨λh=>⟨s,?_⟩,λh=>?_⟩
 ·rintro y rfl;refine⟨ac,cv,⟨⟨rfl,rfl,Gq m u s,q,k+1,rfl,g,rfl,ac,by simp[j],?_⟩,ac⟩⟩;have o:q-k=(q-(k+1))+1:=ac
  rw[o]at f;exact f
 ·have o:q-k=0:=ac
  rw[o]at f;exact t _ f.symm) (l:=λ_=>bA)
def lk{α:Type}(b:BL)(x:α):α:=match b with
 |[]=>x
 |_::_=>x
variable{α β:Type}
theorem bN(b:BL)(x:α):lk b x=x:=by cases b<;>rfl
def Cr:Et:=(0,[],[],[],[],[],[],())
def N2(b:BL)(m:Bool)(s:Rs):Et×Rs:=
 let k:=dn b s.1 m s.2 1 1
 let n:=dn b k.2.1 m k.2.2 1 65536
 let p:=hJ b n.2.1 m n.2.2 64
 let e:=pC Ed b m p.2
 let a:=pC Ee b m e.2
 let f:=hJ b a.2.1 m a.2.2 64
 let c:=pC Ef b m f.2
 let g:=hJ b c.2.1 m c.2.2 64
 ((n.1,p.1,e.1,a.1,f.1,c.1,g.1,()),g.2)
def jJ(b:BL)(m:Bool)(s:Rs):Et×Rs:=
 lk b (let x:=N2 b m s
 let a:=if iU x.1=true then x.2.2 else if(m&&x.2.2==0)=true then 5 else x.2.2
 (if(if m=true then a else 5)=0 then x.1 else Cr,(x.2.1,a)))
theorem Gs{α:Type}{b:BL}{one:Rs->α×Rs}(h:∀a e,bZ b a->bZ b (one (a,e)).2.1):∀(n:Nat)(s:Rs)(c:List α),bZ b s.1->bZ b (yU one n s c).2.1/\(yU one n s c).1.length=c.length+n
 |0,s,c,f=>⟨f,rfl⟩
 |n+1,s,c,f=>by
  obtain⟨g,i⟩:=Gs h n (one s).2 (c++[(one s).1]) (h s.1 s.2 f);refine⟨g,?_⟩;simp only[yU];rw[i];simp;omega
variable{m:Bool}
theorem K2{one:BL->Bool->Rs->α×Rs}(h:∀a e,bZ b a->bZ b (one b m (a,e)).2.1)(s:Rs)(f:bZ b s.1):bZ b (pC one b m s).2.1/\(pC one b m s).1.length<=5:=by
 have c:=fx m s.2 0 5 f;obtain⟨g,i⟩:=Gs h (dn b s.1 m s.2 0 5).1.toNat (dn b s.1 m s.2 0 5).2 [] c.1;refine⟨g,?_⟩;have:=c.2.2.2;unfold pC;rw[i];simp only[dx];omega
def egC:Ct:=⟨1,⟨[sP 0],rH⟩,[⟨[(0,true,[.d tU])],rH⟩],λ(b,a,m,e,_)=>dZ (bZ b a) (jJ b m (a,e)) λy=>(y.1,b,y.2.1,m,y.2.2,())⟩
def a5a:bG:=(25,[egC])::a48
def a5b:=kA 25 egC a49 (cQ egC 0) (∀(c:BL)(k:Int)(d:Bool)(l:Int)Q,bg egC (c,k,d,l,()) Q->bZ c k/\∀b,b=dn c k d l 1 1->bZ c b.2.1/\∀e,e=dn c b.2.1 d b.2.2 1 65536->bZ c e.2.1/\∀f,f=hJ c e.2.1 d e.2.2 64->bZ c f.2.1/\∀g,g=pC Ed c d (f.2.1,f.2.2)->bZ c g.2.1/\∀h,h=pC Ee c d (g.2.1,g.2.2)->bZ c h.2.1/\∀i,i=hJ c h.2.1 d h.2.2 64->bZ c i.2.1/\∀j,j=pC Ef c d (i.2.1,i.2.2)->bZ c j.2.1/\∀a,let m:=d&&a.2.2==0;let n:= !(if d=true then a.2.2 else 5)==0;let o:= !(if d=true then if m=true then 5 else a.2.2 else 5)==0;let z:=(e.1,f.1,g.1,h.1,i.1,j.1,a.1,());a=hJ c j.2.1 d j.2.2 64->iT z/\Br (!iU z) (True/\True/\Br o (Q ⟨0,(0,[],[],[],[],[],[],()),c,a.2.1,d,if m=true then 5 else a.2.2,()⟩) (Q ⟨0,z,c,a.2.1,d,if m=true then 5 else a.2.2,()⟩)) (True/\Br n (Q ⟨0,(0,[],[],[],[],[],[],()),c,a.2.1,d,a.2.2,()⟩) (Q ⟨0,z,c,a.2.1,d,a.2.2,()⟩))) (by
 conv=>zeta
 unfold Br bg;intro b a m e Q ⟨G,H⟩;have c:∀(r:Et)(s t:Int),jJ b m (a,e)=(r,s,t)->Q ⟨0,(r,b,s,m,t,())⟩:=λr s t e=>H (r,s,t) e.symm;clear H;refine⟨G,λk w=>?_⟩;have x:=(fx m e 1 1 G).1;rw[<-w]at x;refine⟨x,λn y=>?_⟩;have z:=(fx m k.2.2 1 65536 x).1;rw[<-y]at z;refine⟨z,λp A=>?_⟩;have B:=(ow m n.2.2 64 z).1;rw[<-A]at B;refine⟨B,λC f=>?_⟩;have u:=K2 (m:=m) (one:=Ed) (λa e=>Gn m e) (p.2.1,p.2.2) B;rw[<-f]at u;refine⟨u.1,λJ i=>?_⟩;have v:=K2 (m:=m) (one:=Ee) (λa e=>Gp m e) (C.2.1,C.2.2) u.1;rw[<-i]at v;refine⟨v.1,λD j=>?_⟩;have E:=(ow m J.2.2 64 v.1).1;rw[<-j]at E;refine⟨E,λM o=>?_⟩;have F:=K2 (m:=m) (one:=Ef) (λa e=>Gq m e) (D.2.1,D.2.2) E;rw[<-o]at F;refine⟨F.1,λK q=>?_⟩;have L:N2 b m (a,e)=((n.1,p.1,C.1,J.1,D.1,M.1,K.1,()),K.2):=by subst q o j i f A y w;rfl
 unfold jJ at c;rw[bN,L]at c;clear L;dsimp only at c;clear w y A f i j o q;refine⟨⟨by have:=u.2;dsimp only;omega,by have:=v.2;dsimp only;omega,by have:=F.2;dsimp only;omega⟩,λh=>⟨trivial,trivial,λg=>c _ _ _ ?_,λg=>c _ _ _ ?_⟩,λh=>⟨trivial,λg=>c _ _ _ ?_,λg=>c _ _ _ ?_⟩⟩
 all_goals
  simp only[aR,aN,aC,ne_eq,aS]at h g;simp only[h,g,if_true,if_false,cz,Cr]) (l:=λ_=>bA)
def cb(k:Nat)(ts:List Tm):Prop:=(∀t∈ts,eB t)/\ts.length+k<=4294967296
variable{ts us:List Tm}{j k n:Nat}
theorem cb.ok(h:cb k ts):fX ts:=⟨by have:=h.2;omega,h.1⟩
theorem cb.le(h:cb k ts):ts.length<=4294967296:=by have:=h.2;omega
theorem cb.mono(h:cb k ts)(a:j<=k):cb j ts:=⟨h.1,by have:=h.2;omega⟩
variable{t:Tm}
theorem pZ(m:KV)(h:cb (k+1) ts)(b:eB t):cb k (dI t ts m).2.1:=by
 unfold dI jV;dsimp only;split
 ·refine⟨λx a=>?_,by have:=h.2;simp;omega⟩;rcases ba.1 a with a|a
  ·exact h.1 x a
  ·simp at a;subst a;exact b
 ·exact h.mono ac
theorem rl(m:KV)(h:cb (k+1) ts)(a:eB t):cb k (cM t ts m).2.1:=by
 unfold cM;split
 ·exact pZ m h a
 ·exact h.mono ac
theorem wz(t:Tm)(n:Int):(jH t n).length=(oY t).toNat:=by
 have:=AF t;simp[jH,eK];omega
theorem vp(t:Tm)(ts:List Tm)(m:KV):(dI t ts m).1.length=(oY t).toNat:=by unfold dI;exact wz _ _
theorem K3(t:Tm)(ts:List Tm)(m:KV):(cM t ts m).1.length<=(oY t).toNat:=by
 unfold cM;split
 ·exact Nat.le_of_eq (vp _ _ _)
 ·simp
theorem Eg(h:t.1≠98):(oY t).toNat<=64:=by
 unfold oY;(repeat' split)<;>first|omega|(exact absurd (by assumption) h)
theorem ja{k:BitVec 8}(a:k≠98)(c:k≠103)(h:aB b):eB (k,[b],()):=ir (.inl (by rw[Uw];have:=h;omega)) (.inr ⟨a, .inr ⟨c,aE _⟩⟩)
theorem xp{k:BitVec 8}(a:k≠98)(e:k≠112)(h:aB b)(h':aB c):eB (k,[b,c],()):=ir (.inr ⟨e,by rw[KD];have:=h;have:=h';omega⟩) (.inr ⟨a, .inl (aE _)⟩)
theorem V8(h:aB b)(h':aB c)(a:aB o)(f:aB x):eB (98,[b,c,o,x],()):=ir (.inr ⟨bt,by rw[sz4];have:=h;have:=h';have:=a;have:=f;omega⟩) (.inl (aE _))
def gp(n id:Int)(sec pub:BL)(ts:List Tm)(m:KV):(BL×Int)×List Tm×KV:=
 if(jq sec pub ts m).2≠0 then(([],(jq sec pub ts m).2),(jq sec pub ts m).1.2)
 else(((cM (107,[(jq sec pub ts m).1.1,vn n++vn id],()) (jq sec pub ts m).1.2.1 (jq sec pub ts m).1.2.2).1,0),(cM (107,[(jq sec pub ts m).1.1,vn n++vn id],()) (jq sec pub ts m).1.2.1 (jq sec pub ts m).1.2.2).2)
theorem shS(m:KV)(c:aB sec)(i:aB pub)(h:cb (k+1) ts):(jq sec pub ts m).1.1.length<=64/\cb k (jq sec pub ts m).1.2.1:=by
 unfold jq;split
 ·exact⟨bY,h.mono ac⟩
 ·split
  ·exact⟨bY,h.mono ac⟩
  ·rename_i f;have a:(fi pub 112 ts).2=true:=cf f
   have e:=tj (b:=pub) (k:=112) h.ok a;have j:=(e.1.2.2.2.2 e.2).2;have l:=iA (fi pub 112 ts).1.2.1 0;have n:aB ((fi pub 112 ts).1.2.1.getD 0 [])\/True:= .inr trivial
   have g:eB (100,(if 0<lS sec ((fi pub 112 ts).1.2.1.getD 0 [])then[(fi pub 112 ts).1.2.1.getD 0 [],sec]else[sec,(fi pub 112 ts).1.2.1.getD 0 []]),()):=by
    split
    ·exact ir (.inr ⟨bt,by rw[KD];have:=c;omega⟩) (.inr ⟨bt, .inl (aE _)⟩)
    ·exact ir (.inr ⟨bt,by rw[KD];have:=c;omega⟩) (.inr ⟨bt, .inl (aE _)⟩)
   exact⟨bE (Nat.le_of_eq (vp _ _ _)) (Eg (by show(100:BitVec 8)≠98;decide)),pZ m h g⟩
def K4:Ct:=⟨5,⟨[sS 0 0,sI 1,sI 2,sB 3,sB 4],lZ 0⟩,[⟨[sO 0 4,sI 1],ma 0 3++[cT,cB]⟩],λ(n,id,a,b,d,c,m,_)=>dZ (aB a/\aB b/\cb 2 c) (gp n id a b c m) λy=>(y.1.2,d,y.2.2,y.2.1,y.1.1,())⟩
def V9:bG:=(83,[K4])::a5a
def N3:=kA 83 K4 a5b (cQ K4 0) (∀(a d:Int)(e f:BL)(g:Int)(h:List Tm)(i:KV)Q,bg K4 (a,d,e,f,g,h,i,()) Q->(aB e/\aB f/\fX h)/\∀b,b=jq e f h i->Br (!b.2==0) (Q ⟨0,b.2,g,b.1.2.2,b.1.2.1,[],()⟩) (0<=1099511627776/\ah (vn a)<=1099511627776/\(aB b.1.1/\aB (vn a++vn d)/\b.1.2.1.length<=4294967296)/\∀c,c=cM (ag 8 107,[b.1.1,vn a++vn d],()) b.1.2.1 b.1.2.2->Q ⟨0,0,g,c.2.2,c.2.1,c.1,()⟩)) (by
 unfold Br bg;intro n id b c d q m Q ⟨⟨g,i,j⟩,o⟩;have a:∀y,gp n id b c q m=y->Q ⟨0,(y.1.2,d,y.2.2,y.2.1,y.1.1,())⟩:=λy e=>o y e.symm;clear o;refine⟨⟨g,i,j.ok⟩,?_⟩;intro r f;have p:=shS m g i j;rw[<-f]at p;unfold gp at a;rw[<-f]at a;clear f;have s:=bC n;have t:=bC id;refine⟨λh=>a (([],r.2),r.1.2) (ak (cf h)),λh=>⟨ac,ac,⟨hK,by unfold aB;simp;omega,p.2.le⟩,?_⟩⟩;rintro y rfl;exact a _ (ae (cf h))) (l:=λ_=>bA)
def AN:Ct:=⟨2,⟨[sB 0,(1,true,[.d .i64, .d tB, .d (.sl jf), .d (.sl iZ), .d tB, .own 0, .d tB])],[some (.sl tB)]⟩,[⟨[(0,false,[.d tB])],[some (.sl tB)]⟩],λ(b,n,pv,a,c,e,f,g,_)=>one (b.length+(eo (n,pv,a,c,e,[],f,())).length<=1000000000/\iT (n,pv,a,c,e,[],f,())) (b++eo (n,pv,a,c,e,[],f,()),g,())⟩
def coH:List (Option CP):=[some (.sl tB),some (.cells [.d .i64, .d tB, .d (.sl jf), .d (.sl iZ), .d tB, .own 0, .d tB])]
def Wb:cx:=⟨[sB 0,(3,false,[.ptr 1 0]),(23,false,[.d (.sl jf)]),sI 24,sI 25],coH⟩
def K5(x:AN.inp.den)(y:Wb.den):Prop:=match x,y with
 |(j,h,b,a,c,e,f,g,_),(q,l,n,i,m,o,pv,p,r,s,t,_)=>m=g/\o=h/\pv=b/\p=a/\r=c/\s=e/\t=f/\l=a/\n=a.length/\∃k:Nat,i=k/\k<=a.length/\q=j++(vn 1++vn h++tx b++vn a.length++fl pY (a.take k))
def Wc:cx:=⟨[sB 0,(3,false,[.ptr 1 0]),(46,false,[.d (.sl iZ)]),sI 47,sI 48],coH⟩
def K6(x:AN.inp.den)(y:Wc.den):Prop:=match x,y with
 |(j,h,c,b,a,e,f,g,_),(q,l,n,i,m,o,pv,p,r,s,t,_)=>m=g/\o=h/\pv=c/\p=b/\r=a/\s=e/\t=f/\l=a/\n=a.length/\∃k:Nat,i=k/\k<=a.length/\q=j++(vn 1++vn h++tx c++vn b.length++fl pY b++vn a.length++fl qP (a.take k))
def a5c(x:AN.inp.den):eH:=⟨[(4,bS Wb (K5 x) λ(_,_,n,i,_)=>(n-i).toNat),(10,bS Wc (K6 x) λ(_,_,n,i,_)=>(n-i).toNat)],[],[],[],0⟩
theorem Qy:bW Tryz.prog 84 AN:=kC N3 a5c (∀(d:BL)(f:Int)(c:BL)(g:List Mb)(h:List Fk)(i j:BL)(k:List BL)Q,let A:=(d,f,c,g,h,i,j,k,());bg AN A Q->d.length<=1099511627776/\(d++vn 1).length<=1099511627776/\(d++vn 1++vn f).length+c.length<=1099511627776/\(d++vn 1++vn f++(vn (nI c)++c)).length<=1099511627776/\Is (K5 A (d++vn 1++vn f++(vn (nI c)++c)++vn (nI g),g,nI g,0,k,f,c,g,h,i,j,()))/\∀(l:BL)(b:List Mb)(m a:Int)(s:List BL)(t:Int)(u:BL)(v:List Mb)(n:List Fk)(w y:BL),let B:=(s,t,u,v,n,w,y,());let x:=gD b a (0,[],[],());let D:=vn (↑(ah x.2.1):Int)++x.2.1;K5 A (l,b,m,a,B)->Bd (a<m) (iN a b/\l.length<=1099511627776/\(l++vn x.1).length+ah x.2.1<=1099511627776/\(l++vn x.1++D).length+ah x.2.2.1<=1099511627776/\am (a+1)/\Is (K5 A (l++vn x.1++D++(vn (↑(ah x.2.2.1):Int)++x.2.2.1),b,m,a+1,B)/\lN (m-(a+1)) (m-a))) (l.length<=1099511627776/\Is (K6 A (l++vn (nI n),n,nI n,0,B))/\∀(o:BL)(p:List Fk)(q e:Int)(z:List BL)(F:Int)(G:BL)(H:List Mb)(J:List Fk)(r K:BL),let E:=(z,F,G,H,J,r,K,());let C:=gD p e (0,0,());K6 A (o,p,q,e,E)->Bd (e<q) (iN e p/\o.length<=1099511627776/\(o++vn C.1).length<=1099511627776/\am (e+1)/\Is (K6 A (o++vn C.1++vn C.2.1,p,q,e+1,E)/\lN (q-(e+1)) (q-e))) (o.length+r.length<=1099511627776/\Q ⟨0,o++(vn (nI r)++r),z,()⟩))) (by
 conv=>zeta
 unfold Bd gD iN lN nI bg;rintro b n pv a c j m r Q ⟨⟨t,E,F,G⟩,u⟩;dsimp only at*;have x:∀s:BL,vn s.length++s=tx s:=λ_=>rfl;simp only[x];have v:∀y,y=b++eo (n,pv,a,c,j,[],m,())->Q ⟨0,(y,r,())⟩:=λy e=>by rw[e];exact u
 have w:eo (n,pv,a,c,j,[],m,())=vn 1++vn n++tx pv++vn a.length++fl pY a++vn c.length++fl qP c++tx j:=rfl;have o:b.length+(eo (n,pv,a,c,j,[],m,())).length<=1000000000:=t;rw[w]at o v;clear t u w;simp only[aa]at o;have J:=nD pv;have K:=nD j;simp only[aa];refine⟨ac,ac,ac,ac,⟨rfl,rfl,rfl,rfl,rfl,rfl,rfl,rfl,rfl,0,rfl,aq _,by simp[fl]⟩,?_⟩;rintro q a z i r n pv A c j m ⟨rfl,rfl,rfl,rfl,rfl,rfl,rfl,rfl,rfl,k,rfl,B,rfl⟩;simp only[aG,ai,aj];have C:=jA pY a k;simp only[aa];refine⟨λh=>?_,λh=>?_⟩
 ·have f:k<a.length:=ac
  have p:=ph pY (0,[],[],()) f;have g:=jA pY a (k+1);rw[p,aa]at g;generalize a.getD k (0,[],[],())=H at*;simp only[pY,aa]at g;have L:=nD H.2.1;have M:=nD H.2.2.1;refine⟨ac,ac,ac,ac,cv,⟨⟨rfl,rfl,rfl,rfl,rfl,rfl,rfl,rfl,rfl,k+1,rfl,f,?_⟩,ac⟩⟩;rw[p];simp only[pY,ay]
 ·have l:k=a.length:=ac
  subst l;rw[bv]at*;refine⟨ac,⟨rfl,rfl,rfl,rfl,rfl,rfl,rfl,rfl,rfl,0,rfl,aq _,by simp[fl]⟩,?_⟩;rintro q c z i r n pv a D j m ⟨rfl,rfl,rfl,rfl,rfl,rfl,rfl,rfl,rfl,k,rfl,B,rfl⟩;simp only[aG];have C:=jA qP c k;simp only[aa];refine⟨λh=>?_,λh=>?_⟩
  ·have f:k<c.length:=ac
   have p:=ph qP (0,0,()) f;have g:=jA qP c (k+1);rw[p,aa]at g;generalize c.getD k (0,0,())=H at*;simp only[qP,aa]at g;refine⟨ac,ac,ac,cv,⟨⟨rfl,rfl,rfl,rfl,rfl,rfl,rfl,rfl,rfl,k+1,rfl,f,?_⟩,ac⟩⟩;rw[p];simp only[qP,ay]
  ·have l:k=c.length:=ac
   subst l;rw[bv]at*;refine⟨ac,v _ ?_⟩;simp only[ay])
def We:bG:=(84,[AN,AK])::V9
def Wf:=kB 84 [AN,AK] N3 (je (Qy) (bL (F8))) (l:=je (λ_=>eJ) (bL (λ_=>eJ)))
def iu(lg:Lg)(e:Et)(ts:List Tm)(m:KV):Int×Lg×List Tm×KV:=
 lk lg.1 (if iU e=false then(1,lg,ts,m)
 else if e.1<=lg.2.1.length then((if lg.2.2.1.getD (e.1-1).toNat []=(dI (104,[dS e],()) ts m).1 then 16 else 18),lg,(dI (104,[dS e],()) ts m).2)
 else if e.1≠lg.2.1.length+1 then(15,lg,ts,m)
 else if e.2.1≠mc lg.2.1 lg.2.2.1 lg.2.1.length then(17,lg,ts,m)
 else if ws lg.1 (dS e) e.2.2.2.2.2.2.1 ts=false then(10,lg,ts,m)
 else if Gh lg.2.1 e.2.2.1 e.2.2.2.1=false then(19,lg,ts,m)
 else(0,(lg.1,lg.2.1++[(e.1,[],e.2.2.1,e.2.2.2.1,[],[],[],())],lg.2.2.1++[(dI (104,[dS e],()) ts m).1],()),(dI (104,[dS e],()) ts m).2))
theorem me{e:Et}(h:iU e=true):(1<=e.1/\e.1<=65536/\(e.1=1/\e.2.1.length=0\/e.2.1.length=32)/\pB e.2.2.1 e.2.2.2.1=true/\(∀b∈e.2.2.2.2.2.1,b.length=48)/\e.2.2.2.2.1.length=32/\e.2.2.2.2.2.1.length=e.2.2.1.length/\e.2.2.2.2.2.2.1.length=64):=by
 unfold iU at h;exact af h
def K7:Ct:=⟨3,⟨[sP 0,sS 1 1,(2,true,[.d tU])],tV++lZ 1⟩,[⟨[sI 0],tV++ma 1 4++[cT]⟩],λ(e,a,b,c,d,f,m,_)=>dZ (aB a/\iT e/\(dS e).length<=100000000/\aB e.2.2.2.2.2.2.1/\pi e.2.2.1/\cK b c/\b.length<=100000/\cb 1 f) (iu (a,b,c,()) e f m) λy=>(y.1,y.2.1.1,y.2.1.2.1,y.2.1.2.2.1,d,y.2.2.2,y.2.2.1,())⟩
def Wg:bG:=(72,[K7])::We
def Wh:=kA 72 K7 Wf (cQ K7 0) (∀(a:Et)(f:BL)(c:List Et)(d:List BL)(h:Int)(e:List Tm)(g:KV)Q,let o:= !Gh c a.2.2.1 a.2.2.2.1;let p:= !a.2.1==mc c d (nI c);let l:=aB (dS a)/\e.length<=4294967296;let q:= !ws f (dS a) a.2.2.2.2.2.2.1 e;let i:=(f,c,d,h,g,e,());let j:=0+ah (dS a)<=1000000000/\iT a;let z:=jV (ag 8 104,[dS a],()) e g;bg K7 (a,f,c,d,h,e,g,()) Q->iT a/\Br (!iU a) (Q ⟨0,1,i⟩) (Bd (a.1<=nI c) (am (a.1-1)/\iN (a.1-1) d/\j/\l/\∀b,let r:=gD d (a.1-1) []==b.1;let n:=(f,c,d,h,b.2.2,b.2.1,());b=(jH (ag 8 104,[dS a],()) z.1,z.2)->True/\Br r (Q ⟨0,16,n⟩) (Q ⟨0,18,n⟩)) (am (nI c+1)/\Br (!a.1==nI c+1) (Q ⟨0,15,i⟩) (cK c d/\True/\Br p (Q ⟨0,17,i⟩) (j/\(aB f/\aB (dS a)/\aB a.2.2.2.2.2.2.1/\fX e)/\Br q (Q ⟨0,10,i⟩) ((AM c/\ah a.2.2.1<=1000000/\ah a.2.2.2.1<=1000000)/\Br o (Q ⟨0,19,i⟩) ((ah a.2.2.1<=1000000/\∀(m:Mb),m∈a.2.2.1->ah m.2.1<=1000000/\ah m.2.2.1<=1000000)/\(0+ah a.2.2.2.1)*16<=mM/\((0:Int)<=0/\0<=nI c/\nI c=nI c/\nI c<=nI c)/\0<1/\((de (nI c).toNat c).length+1)*152<=mM/\((0:Int)<=0/\0<=nI c/\nI c=nI c/\nI c<=nI d)/\j/\l/\∀b,b=(jH (ag 8 104,[dS a],()) z.1,z.2)->0<1/\((de (nI c).toNat d).length+1)*24<=mM/\Q ⟨0,0,f,de (nI c).toNat c++[(a.1,[],a.2.2.1,a.2.2.2.1,[],[],[],())],de (nI c).toNat d++[b.1],h,b.2.2,b.2.1,()⟩))))))) (by
 conv=>zeta
 unfold Bd Br gD iN mM nI bg;intro e a u A d v m Q ⟨⟨B,j,F,C,D,w,G,x⟩,z⟩;have i:∀o p q r s t,iu (a,u,A,()) e v m=(o,(p,q,r,()),s,t)->Q ⟨0,(o,p,q,r,d,t,s,())⟩:=λo p q r s t e=>z (o,(p,q,r,()),s,t) e.symm;clear z;unfold iu at i;rw[bN]at i;dsimp only at i;have y:aB (dS e):=hK
 have E:((u.length:Int)).toNat=u.length:=aG _;have H:=w.2.1;simp only[aR,aN,ai,aj,aS,aC,ne_eq];refine⟨j,λg=>i _ _ _ _ _ _ (ak g),λg=>?_⟩;have J:=me g;rw[ae (by rw[g];decide)]at i;refine⟨λc=>?_,λc=>?_⟩
 ·rw[ak c]at i;refine⟨cv,ac,⟨ac,j⟩,⟨y,x.le⟩,?_⟩;intro b n;have n:b=dI (104,[dS e],()) v m:=n;subst n;exact⟨trivial,λf=>i _ _ _ _ _ _ (by rw[ak f]),λf=>i _ _ _ _ _ _ (by rw[ae f])⟩
 ·rw[ae c]at i;refine⟨cv,λf=>i _ _ _ _ _ _ (ak f),λf=>?_⟩;rw[ae (λh=>h f)]at i;refine⟨w,trivial,λf=>i _ _ _ _ _ _ (ak f),λf=>?_⟩;rw[ae (λh=>h f)]at i;refine⟨⟨ac,j⟩,⟨B,y,C,x.ok⟩,λf=>i _ _ _ _ _ _ (ak f),λf=>?_⟩;rw[ae (by rw[f];decide)]at i;refine⟨⟨w.1,j.1,j.2.1⟩,λf=>i _ _ _ _ _ _ (ak f),λf=>?_⟩;rw[ae (by rw[f];decide)]at i;have:=j.2.1;rw[E,bv,bb ac];refine⟨⟨j.1,D⟩,ac,⟨ac,ac,trivial,ac⟩,ac,ac,⟨ac,ac,trivial,ac⟩,⟨ac,j⟩,⟨y,x.le⟩,?_⟩;intro b n;have n:b=dI (104,[dS e],()) v m:=n;subst n;exact⟨ac,ac,i _ _ _ _ _ _ rfl⟩) (l:=λ_=>bA)
theorem N4(m:KV)(n id:Int)(b:aB sec)(c:aB pub)(h:cb (k+2) ts):(gp n id sec pub ts m).1.1.length<=64/\cb k (gp n id sec pub ts m).2.1:=by
 have a:=shS m b c h;unfold gp;split
 ·exact⟨bY,a.2.mono ac⟩
 ·have f:=bC n;have g:=bC id;have e:=xp (k:=107) bt bt (show aB (jq sec pub ts m).1.1 by have:=a.1;unfold aB;omega) (show aB (vn n++vn id)by unfold aB;simp;omega);exact⟨bE (K3 _ _ _) (Eg (by show(107:BitVec 8)≠98;decide)),rl _ a.2 e⟩
def E7:List Mb->Int->Nat->Option Nat
 |[],_,_=>none
 |m::r,id,k=>if m.1=id then some k else E7 r id (k+1)
def pj(e:Et)(id:Int)(sec:BL)(ts:List Tm)(m:KV):(BL×Int)×List Tm×KV:=
 lk sec (if iU e=false then(([],13),ts,m)else
 match E7 e.2.2.1 id 0 with
 |none=>(([],13),ts,m)
 |some i=>
  if(gp e.1 id sec e.2.2.2.2.1 ts m).1.2≠0 then(([],(gp e.1 id sec e.2.2.2.2.1 ts m).1.2),(gp e.1 id sec e.2.2.2.2.1 ts m).2)
  else if(ov (gp e.1 id sec e.2.2.2.2.1 ts m).1.1 1 (eo e) (e.2.2.2.2.2.1.getD i []) (gp e.1 id sec e.2.2.2.2.1 ts m).2.1).2≠0 then(([],(ov (gp e.1 id sec e.2.2.2.2.1 ts m).1.1 1 (eo e) (e.2.2.2.2.2.1.getD i []) (gp e.1 id sec e.2.2.2.2.1 ts m).2.1).2),(gp e.1 id sec e.2.2.2.2.1 ts m).2)
  else if(ov (gp e.1 id sec e.2.2.2.2.1 ts m).1.1 1 (eo e) (e.2.2.2.2.2.1.getD i []) (gp e.1 id sec e.2.2.2.2.1 ts m).2.1).1.length≠32 then(([],5),(gp e.1 id sec e.2.2.2.2.1 ts m).2)
  else(((ov (gp e.1 id sec e.2.2.2.2.1 ts m).1.1 1 (eo e) (e.2.2.2.2.2.1.getD i []) (gp e.1 id sec e.2.2.2.2.1 ts m).2.1).1,0),(gp e.1 id sec e.2.2.2.2.1 ts m).2))
def Gt:Ct:=⟨4,⟨[sS 0 0,(1,true,[.d tU]),sI 2,sB 3],lZ 0⟩,[⟨[(0,false,[.d tB]),sI 1],ma 0 3++[cT]⟩],λ(e,id,a,d,c,m,_)=>dZ (aB a/\iT e/\(eo e).length<=100000000/\(∀b∈e.2.2.2.2.2.1,aB b)/\aB e.2.2.2.2.1/\cb 2 c) (pj e id a c m) λy=>(y.1.1,y.1.2,d,y.2.2,y.2.1,())⟩
def Wi:cx:=⟨[sS 0 0,sI 2,sB 3,(5,false,[.ptr 3 0]),(19,false,[.d (.sl jf)]),sI 20,sI 21],lZ 0++[some (.cells [.d tU])]⟩
def K9(x:Gt.inp.den)(y:Wi.den):Prop:=match x,y with
 |(f,a,b,j,g,l,_),(id,h,c,n,i,d,o,m,e,_)=>e=f/\id=a/\h=b/\d=j/\o=g/\m=l/\c=f.2.2.1/\n=c.length/\iU f=true/\∃k:Nat,i=k/\k<=c.length/\E7 (c.drop k) a k=E7 c a 0
def a5d(x:Gt.inp.den):eH:=⟨[(4,bS Wi (K9 x) λ(_,_,_,n,i,_)=>(n-i).toNat)],[],[],[],0⟩
def Wj:bG:=(45,[Gt])::Wg
def Wk:=kA 45 Gt Wh a5d (∀(d:Et)(k:Int)(l:BL)(g:Int)(h:List Tm)(i:KV)Q,let z:=(d,k,l,g,h,i,());bg Gt z Q->iT d/\Br (!iU d) (Q ⟨0,[],13,g,i,h,()⟩) (Is (K9 z (k,l,d.2.2.1,nI d.2.2.1,0,g,h,i,d,()))/\∀(m:Int)(p:BL)(n:List Mb)(j a f:Int)(o:List Tm)(q:KV)(c:Et),let t:= !(gD n a (0,[],[],())).1==m;let s:=bF c.2.2.2.2.2.1 a.toNat [];K9 z (m,p,n,j,a,f,o,q,c,())->Bd (a<j) (iN a n/\Br t (am (a+1)/\Is (K9 z (m,p,n,j,a+1,f,o,q,c,())/\lN (j-(a+1)) (j-a))) ((aB p/\aB c.2.2.2.2.1/\cb 2 o)/\∀b,let r:=(f,b.2.2,b.2.1,());b=gp c.1 m p c.2.2.2.2.1 o q->Br (!b.1.2==0) (Q ⟨0,[],b.1.2,r⟩) ((0+ah (eo c)<=1000000000/\iT c)/\iN a c.2.2.2.2.2.1/\(aB b.1.1/\aB (eo c)/\aB s/\fX b.2.1)/\∀e,e=ov b.1.1 1 (eo c) s b.2.1->Br (!e.2==0) (Q ⟨0,[],e.2,r⟩) (Br (!(nI e.1)==32) (Q ⟨0,[],5,r⟩) (Q ⟨0,e.1,0,r⟩))))) (Q ⟨0,[],13,f,q,o,()⟩))) (by
 conv=>zeta
 unfold Bd Br gD iN lN nI bg;intro e id q d y m Q ⟨⟨A,w,M,G,B,C⟩,D⟩;have a:∀s t u v,pj e id q y m=((s,t),u,v)->Q ⟨0,(s,t,d,v,u,())⟩:=λs t u v e=>D ((s,t),u,v) e.symm;clear D;unfold pj at a;rw[bN]at a;simp only[aR,aN,ai,aj,aS,aC,ne_eq];refine⟨w,λg=>a _ _ _ _ (ak g),λg=>?_⟩;rw[ae (by rw[g];decide)]at a;have J:=me g;have K:=J.2.2.2.2.2.2.1;refine⟨⟨rfl,rfl,rfl,rfl,rfl,rfl,rfl,rfl,g,0,rfl,aq _,rfl⟩,?_⟩;rintro id q N n i d y m e ⟨rfl,rfl,rfl,rfl,rfl,rfl,rfl,rfl,_,k,rfl,O,j⟩;simp only[aG];have L:=w.1;refine⟨λh=>?_,λh=>a _ _ _ _ ?_⟩
 ·have r:k<e.2.2.1.length:=ac
  rw[dv (z:=((0,[],[],()):Mb)) r]at j;have x:=aV (z:=([]:BL)) (show k<e.2.2.2.2.2.1.length by omega);generalize e.2.2.1.getD k (0,[],[],())=H at*;simp only[E7]at j;refine⟨ac,λc=>⟨cv,⟨⟨rfl,rfl,rfl,rfl,rfl,rfl,rfl,rfl,g,k+1,rfl,r,?_⟩,ac⟩⟩,λc=>⟨⟨A,B,C⟩,?_⟩⟩
  ·rw[ae c]at j;exact j
  ·rw[ak c]at j;rw[<-j]at a;dsimp only at a;have p:=N4 m e.1 id A B C;intro b E;rw[<-E]at a p;clear E;refine⟨λf=>a _ _ _ _ (ak f),λf=>?_⟩;rw[ae (λh=>h f)]at a;refine⟨⟨ac,w⟩,ac,⟨by have:=p.1;unfold aB;omega,hK,G _ x,p.2.ok⟩,?_⟩;intro o F;rw[<-F]at a;clear F;refine⟨λf=>a _ _ _ _ (ak f),λf=>?_⟩;rw[ae (λh=>h f)]at a;exact⟨λf=>a _ _ _ _ (ak ac),λf=>a _ _ _ _ (ae ac)⟩
 ·rw[<-j,bu ac];rfl) (l:=λ_=>bA)
def ob(n:Int)(once key co:BL):List Mb->List BL->List Tm->KV->(List BL×Int)×List Tm×KV
 |[],b,a,m=>((b,0),a,m)
 |p::r,b,a,m=>
  if(gp n p.1 once p.2.1 a m).1.2≠0 then(([],(gp n p.1 once p.2.1 a m).1.2),(gp n p.1 once p.2.1 a m).2)
  else ob n once key co r (b++[(jp (gp n p.1 once p.2.1 a m).1.1 1 co key (gp n p.1 once p.2.1 a m).2.1 (gp n p.1 once p.2.1 a m).2.2).1]) (jp (gp n p.1 once p.2.1 a m).1.1 1 co key (gp n p.1 once p.2.1 a m).2.1 (gp n p.1 once p.2.1 a m).2.2).2.1 (jp (gp n p.1 once p.2.1 a m).1.1 1 co key (gp n p.1 once p.2.1 a m).2.1 (gp n p.1 once p.2.1 a m).2.2).2.2
def kq(lg:Lg)(ms:List Mb)(ns:List Fk)(a:BL):Et:=(lg.2.1.length+1,mc lg.2.1 lg.2.2.1 lg.2.1.length,ms,ns,a,[],[],())
def jX(lg:Lg)(ms:List Mb)(ns:List Fk)(a:BL)(b:List BL)(sg:BL):Et:=(lg.2.1.length+1,mc lg.2.1 lg.2.2.1 lg.2.1.length,ms,ns,a,b,sg,())
def JJ(lg:Lg)(sec once key:BL)(ms:List Mb)(ns:List Fk)(p:Z):(Et×Int)×List Tm×KV:=
 let z:=ob (lg.2.1.length+1) once key (eo (kq lg ms ns p.1)) ms [] p.2.1 p.2.2
 if z.1.2≠0 then((Cr,z.1.2),z.2)
 else let g:=cM (103,[sec,dS (jX lg ms ns p.1 z.1.1 [])],()) z.2.1 z.2.2
  ((jX lg ms ns p.1 z.1.1 g.1,0),g.2)
def lp(lg:Lg)(sec once key:BL)(ms:List Mb)(ns:List Fk)(ts:List Tm)(m:KV):(Et×Int)×List Tm×KV:=
 lk sec (if sec.length≠32\/once.length≠32\/key.length≠32 then((Cr,1),ts,m)
 else
  let v:=cM (118,[sec],()) ts m
  if v.1≠lg.1 then((Cr,23),v.2)
  else if(lg.2.1.length:Int)=65536 then((Cr,14),v.2)
  else
   let p:=cM (112,[once],()) v.2.1 v.2.2
   if pB ms ns=false\/Gh lg.2.1 ms ns=false then((Cr,19),p.2)else JJ lg sec once key ms ns p)
theorem wA:∀(l:List Int)(last:Int),qO last l=true->last<=4->(l.length:Int)<=4-last
 |[],last,_,h=>eM
 |n::r,last,h,a=>by
  simp only[qO]at h;split at h
  ·simp at h
  ·rename_i b;have:=wA r n h ac;simp only[bc];omega
theorem fT{ms:List Mb}{ns:List Fk}(h:pB ms ns=true):1<=ms.length/\ms.length<=5/\ns.length<=5/\(∀m∈ms,wx m)/\(∀e∈ns,AJ e):=by
 unfold pB at h;obtain⟨a,_,b,c,d,e⟩:=af h;have f:=wA _ _ b ac;have g:=wA _ _ c ac;simp only[cG]at f g;exact⟨a,ac,ac,d,e⟩
theorem Cs{α:Type}(f:α->BL)(c:Nat):∀l:List α,(∀x∈l,(f x).length<=c)->(fl f l).length<=l.length*c
 |[],_=>by simp[fl]
 |x::l,h=>by
  have b:=Cs f c l (λy a=>h y (aD _ a));have g:=h x (aF ..);have e:fl f (x::l)=f x++fl f l:=by simp[fl]
  rw[e,aa,bc,Nat.succ_mul];omega
theorem mg{e:Et}(h:pB e.2.2.1 e.2.2.2.1=true):(eo e).length<=1000+e.2.1.length+e.2.2.2.2.1.length:=by
 obtain⟨_,c,f,a,g⟩:=fT h;have i:=bC 1;have j:=bC e.1;have l:=bC e.2.2.1.length;have n:=bC e.2.2.2.1.length;have o:=eC e.2.1;have p:=eC e.2.2.2.2.1
 have q:=Cs pY 85 e.2.2.1 (λm b=>by
  obtain⟨r,s⟩:=a m b;have:=bC m.1;have:=eC m.2.1;have:=eC m.2.2.1;simp only[pY,aa];omega)
 have t:=Cs qP 14 e.2.2.2.1 (λm _=>by
  have:=bC m.1;have:=bC m.2.1;simp only[qP,aa];omega)
 simp only[eo,aa];omega
theorem tp{e:Et}(h:pB e.2.2.1 e.2.2.2.1=true)(c:Nat)(f:∀b∈e.2.2.2.2.2.1,b.length<=c):(dS e).length<=1010+e.2.1.length+e.2.2.2.2.1.length+e.2.2.2.2.2.1.length*(c+7):=by
 have g:=mg h;have i:=bC e.2.2.2.2.2.1.length;have j:=Cs tx (c+7) e.2.2.2.2.2.1 (λb a=>by have:=eC b;have:=f b a;omega);simp only[dS,aa];omega
theorem mh{es:List Et}{a:List BL}(h:cK es a)(n:Int):(mc es a n).length<=1000000:=by
 unfold mc;split
 ·simp
 ·exact h.2.2.1 _ (aV (by have:=h.2.1;omega))
theorem seS{n:Int}(m:KV)(a:aB ep)(b:aB o)(c:aB x)(h:cb (j+1) ts):cb j (jp ep n o x ts m).2.1/\(jp ep n o x ts m).1.length<=x.length+16:=by
 unfold jp;split
 ·exact⟨h.mono ac,bY⟩
 ·refine⟨rl m h (V8 a (by unfold aB;rw[eK];omega) b c),bE (K3 _ _ _) ?_⟩;show((if(98:BitVec 8)=103 then(64:Int)else if(98:BitVec 8)=98 then((([ep,dB n,o,x]:List BL).getD 3 []).length:Int)+16 else 32)).toNat<=_;simp
def Eh:Ct:=⟨7,⟨[sP 0,sS 1 1,sB 2,sB 3,sB 4,(5,false,[.d (.sl jf)]),(6,false,[.d (.sl iZ)])],tV++lZ 1⟩,[⟨[(0,true,[.d tU]),sI 1],tV++ma 1 4++[cT]⟩],λ(e,b,f,g,i,a,c,h,d,j,m,_)=>dZ (g.length<=1000000/\i.length<=1000000/\pi g/\cK c h/\c.length<=100000/\cb 40 j) (lp (a,c,h,()) e b f g i j m) λy=>(y.1.1,y.1.2,a,c,h,d,y.2.2,y.2.1,())⟩
def Wl:cx:=⟨[sS 1 1,sB 2,sB 3,sB 4,(14,false,[.ptr 5 0]),(17,false,[.ptr 4 0]),(86,false,[.d (.sl jf)]),sI 87,sI 88],tV++ma 1 7++[some (.cells [.d .i64, .d tB, .d (.sl jf), .d (.sl iZ), .d tB, .own 6, .d tB]),some (.cells [.d tU]),some (.sl tB),cT]⟩
def Lb(x:Eh.inp.den)(y:Wl.den):Prop:=match x,y with
 |(e,c,g,f,l,q,h,o,A,j,p,_),(t,s,u,B,n,i,a,C,D,d,m,E,pv,v,F,r,G,_,w,z,_)=>
  t=e/\s=c/\u=g/\B=f/\n=f.length/\a=q/\C=h/\D=o/\d=A/\(E,pv,v,F,r,([]:List BL),G,())=kq (q,h,o,()) f l r/\e.length=32/\c.length=32/\g.length=32/\pB f l=true/\ah r<=64/\
  lp (q,h,o,()) e c g f l j p=JJ (q,h,o,()) e c g f l (r,(cM (112,[c],()) (cM (118,[e],()) j p).2.1 (cM (118,[e],()) j p).2.2).2)/\
  ∃k:Nat,i=k/\k<=f.length/\ah w=k/\(∀b∈w,ah b<=1000)/\cb (38-3*k) z/\
   ob (h.length+1) c g (eo (kq (q,h,o,()) f l r)) (f.drop k) w z m=ob (h.length+1) c g (eo (kq (q,h,o,()) f l r)) f [] (cM (112,[c],()) (cM (118,[e],()) j p).2.1 (cM (118,[e],()) j p).2.2).2.1 (cM (112,[c],()) (cM (118,[e],()) j p).2.1 (cM (118,[e],()) j p).2.2).2.2
def a5e(x:Eh.inp.den):eH:=⟨[(13,bS Wl (Lb x) λ(_,_,_,_,n,i,_)=>(n-i).toNat)],[],[],[],0⟩
abbrev Gu(v:Et×Int×BL×List Et×List BL×Int×KV×List Tm×Unit):cF Eh.out:=⟨0,v⟩
def Wm:bG:=(71,[Eh])::Wj
def Wn:=kA 71 Eh Wk a5e (∀(p q v:BL)(c:List Mb)(f:List Fk)(d:BL)(a:List Et)(e:List BL)(g:Int)(r:List Tm)(t:KV)Q,let x:=(p,q,v,c,f,d,a,e,g,r,t,());let K:=Gu ((0,[],[],[],[],[],[],()),1,d,a,e,g,t,r,());bg Eh x Q->Br (!(nI p)==32) (Q K) (Br (!(nI q)==32) (Q K) (Br (!(nI v)==32) (Q K) ((aB p/\r.length<=4294967296)/\∀b,let O:=(d,a,e,g,b.2.2,b.2.1,());b=cM (ag 8 118,[p],()) r t->True/\Br (!b.1==d) (Q ⟨0,(0,[],[],[],[],[],[],()),23,O⟩) (Br (nI a==65536) (Q ⟨0,(0,[],[],[],[],[],[],()),14,O⟩) (am (nI a+1)/\cK a e/\(aB q/\b.2.1.length<=4294967296)/\∀s,let P:=Gu ((0,[],[],[],[],[],[],()),19,d,a,e,g,s.2.2,s.2.1,());s=cM (ag 8 112,[q],()) b.2.1 b.2.2->(c.length<=1000000/\f.length<=1000000)/\Br (!pB c f) (Q P) ((AM a/\c.length<=1000000/\f.length<=1000000)/\Br (!Gh a c f) (Q P) ((c.length<=1000000/\∀(m:Mb),m∈c->ah m.2.1<=1000000/\ah m.2.2.1<=1000000)/\(0+f.length)*16<=mM/\Is (Lb x (p,q,v,c,nI c,0,d,a,e,g,s.2.2,nI a+1,mc a e (nI a),c,f,s.1,[],(0,[],[],[],[],[],[],()),[],s.2.1,()))/\∀(A B C:BL)(w:List Mb)(y h:Int)(D:BL)(E:List Et)(F:List BL)(G:Int)(L:KV)(i:Int)(j:BL)(k:List Mb)(l:List Fk)(n o:BL)(R:Et)(u:List BL)(z:List Tm),let M:=gD w h (0,[],[],());let N:=eo (i,j,k,l,n,[],o,());let H:=(i,j,k,l,n,u,o,());Lb x (A,B,C,w,y,h,D,E,F,G,L,i,j,k,l,n,o,R,u,z,())->Bd (h<y) (iN h w/\(aB B/\aB M.2.1/\cb 2 z)/\∀b,b=gp i M.1 B M.2.1 z L->Br (!b.1.2==0) (Q ⟨0,(0,[],[],[],[],[],[],()),b.1.2,D,E,F,G,b.2.2,b.2.1,()⟩) ((0+ah N<=1000000000/\iT (i,j,k,l,n,[],o,()))/\(aB b.1.1/\aB N/\aB C/\b.2.1.length<=4294967296)/\∀J,J=jp b.1.1 1 N C b.2.1 b.2.2->(u.length+1)*24<=mM/\am (h+1)/\Is (Lb x (A,B,C,w,y,h+1,D,E,F,G,J.2.2,i,j,k,l,n,o,R,u++[J.1],J.2.1,())/\lN (y-(h+1)) (y-h)))) ((0+ah (dS H)<=1000000000/\iT H)/\(aB A/\aB (dS H)/\z.length<=4294967296)/\∀b,b=cM (ag 8 103,[A,dS H],()) z L->Q ⟨0,(i,j,k,l,n,u,b.1,()),0,D,E,F,G,b.2.2,b.2.1,()⟩))))))))) (by
 conv=>zeta
 unfold Bd Br gD iN lN mM nI bg;intro s j w r t a o u d K m Q ⟨⟨h1,h2,h3,h4,h5,h6⟩,hQ⟩;have L:∀y1 y2 y3 y4,lp (a,o,u,()) s j w r t K m=((y1,y2),y3,y4)->Q ⟨0,(y1,y2,a,o,u,d,y4,y3,())⟩:=λy1 y2 y3 y4 e=>hQ ((y1,y2),y3,y4) e.symm;clear hQ;obtain⟨R,X⟩:∃R,lp (a,o,u,()) s j w r t K m=R:=⟨_,rfl⟩
 have A:(if s.length≠32\/j.length≠32\/w.length≠32 then((Cr,1),K,m)
  else
   let v:=cM (118,[s],()) K m
   if v.1≠a then((Cr,23),v.2)
   else if(o.length:Int)=65536 then((Cr,14),v.2)
   else
    let p:=cM (112,[j],()) v.2.1 v.2.2
    if pB r t=false\/Gh o r t=false then((Cr,19),p.2)else JJ (a,o,u,()) s j w r t p)=R:=by
  rw[<-X];unfold lp;rw[bN]
 rw[X]at L;simp only[aR,aN,ai,aj,aS,aC,ne_eq];have f1:(s.length≠32\/j.length≠32\/w.length≠32)->Q ⟨0,(Cr,1,a,o,u,d,m,K,())⟩:=λc=>L _ _ _ _ (by rw[<-A,ak c]);refine⟨λc=>f1 (.inl ac),λc1=>⟨λc=>f1 (.inr (.inl ac)),λc2=>⟨λc=>f1 (.inr (.inr ac)),λc3=>?_⟩⟩⟩;clear f1;have e1:s.length=32:=ac
 have e2:j.length=32:=ac
 have e3:w.length=32:=ac
 rw[ae ac]at A;dsimp only at A;have hs:aB s:=hK
 have ho:aB j:=hK
 have hk:aB w:=hK
 have hv:=rl m h6 (ja (k:=118) bt bt hs);refine⟨⟨hs,h6.le⟩,?_⟩;intro v D;have D:v=cM (118,[s],()) K m:=D;rw[<-D]at A hv;refine⟨trivial,λc=>L _ _ _ _ (by rw[<-A,ak c];rfl),λc=>?_⟩;rw[ae (λh=>h c)]at A;refine⟨λc=>L _ _ _ _ (by rw[<-A,ak c];rfl),λc=>?_⟩;rw[ae c]at A;have hp:=rl v.2.2 hv (ja (k:=112) bt bt ho);have N:=bE (K3 (112,[j],()) v.2.1 v.2.2) (Eg (by show(112:BitVec 8)≠98;decide));refine⟨cv,h4,⟨ho,hv.le⟩,?_⟩;intro p E;have E:p=cM (112,[j],()) v.2.1 v.2.2:=E;rw[<-E]at A hp N;refine⟨⟨h1,h2⟩,λc=>L _ _ _ _ (by rw[<-A,ak (.inl c)];rfl),λU=>⟨⟨h4.1,h1,h2⟩,λc=>L _ _ _ _ (by rw[<-A,ak (.inr c)];rfl),λc5=>?_⟩⟩;rw[ae (by rw[U,c5];simp)]at A;have W:cM (112,[j],()) (cM (118,[s],()) K m).2.1 (cM (118,[s],()) K m).2.2=p:=by rw[<-D];exact E.symm
 obtain⟨b1,b2,b3,b4,b5⟩:=fT U;refine⟨⟨h1,h3⟩,ac,⟨rfl,rfl,rfl,rfl,rfl,rfl,rfl,rfl,rfl,rfl,e1,e2,e3,U,N,?_,0,rfl,aq _,rfl,bY,hp,?_⟩,?_⟩
 ·rw[X,W];exact A.symm
 ·rw[W];rfl
 ·clear A E hp N D hv;rintro s j w a8 n i a o u d m2 en pv r t y sg rz B O ⟨rfl,rfl,rfl,rfl,rfl,rfl,rfl,rfl,rfl,Y,_,_,_,_,a4,hM,k,rfl,a9,a0,a1,G,hL⟩;simp only[kq,Prod.mk.injEq]at Y;obtain⟨rfl,rfl,rfl,rfl,-,-,rfl,-⟩:=Y;rw[X,W]at hM;rw[W]at hL;simp only[aG];have b0:=mh h4 o.length;have a2:=mg (e:=kq (a,o,u,()) r t y) U
  have a6:(eo (kq (a,o,u,()) r t y)).length<=2000000:=by
   have:(kq (a,o,u,()) r t y).2.1=mc o u o.length:=rfl;rw[this]at a2;have:(kq (a,o,u,()) r t y).2.2.2.2.1=y:=rfl;rw[this]at a2;omega
  refine⟨λc=>?_,λc=>?_⟩
  ·have J:k<r.length:=ac
   rw[dv (z:=((0,[],[],()):Mb)) J]at hL;have hm:=b4 _ (aV (z:=((0,[],[],()):Mb)) J);generalize r.getD k (0,[],[],())=H at*;simp only[ob]at hL;have a3:aB H.2.1:=by unfold aB;have:=hm.1;omega
   have a5:38-3*k=(38-3*(k+1))+1+2:=ac
   rw[a5]at G;have F:=N4 m2 ((o.length:Int)+1) H.1 ho a3 G;refine⟨ac,⟨ho,a3,G.mono ac⟩,?_⟩;intro b hb;rw[<-hb]at hL F;clear hb;refine⟨λf=>L _ _ _ _ ?_,λf=>?_⟩
   ·rw[ak f]at hL;rw[hM];unfold JJ;rw[<-hL];dsimp only;rw[ak f];rfl
   ·rw[ae (λh=>h f)]at hL;have P:=seS (n:=1) b.2.2 (show aB b.1.1 by have:=F.1;unfold aB;omega) (show aB (eo (kq (a,o,u,()) r t y))by unfold aB;omega) hk F.2;refine⟨⟨by show 0+(eo (kq (a,o,u,()) r t y)).length<=_;omega,by show r.length<=_;omega,by show t.length<=_;omega,bY⟩,⟨by have:=F.1;unfold aB;omega,by show(eo (kq (a,o,u,()) r t y)).length<=_;omega,hk,F.2.le⟩,?_⟩;intro x hx;have hx:x=jp b.1.1 1 (eo (kq (a,o,u,()) r t y)) w b.2.1 b.2.2:=hx;rw[<-hx]at hL P;clear hx;have M:B.length=k:=a0;refine⟨ac,cv,⟨⟨rfl,rfl,rfl,rfl,rfl,rfl,rfl,rfl,rfl,rfl,e1,e2,e3,U,a4,by rw[W];exact X.trans hM,k+1,rfl,J,by simp[M],?_,P.1,by rw[W];exact hL⟩,ac⟩⟩;intro q C;rcases ba.1 C with C|C
    ·exact a1 q C
    ·simp at C;subst C;have:=P.2;omega
  ·have J:k=r.length:=ac
   rw[bu ac]at hL;have M:B.length=k:=a0;have S:=tp (e:=jX (a,o,u,()) r t y B []) U 1000 a1
   have a7:(dS (jX (a,o,u,()) r t y B [])).length<=2000000:=by
    have:(jX (a,o,u,()) r t y B []).2.1=mc o u o.length:=rfl;rw[this]at S;have:(jX (a,o,u,()) r t y B []).2.2.2.2.1=y:=rfl;rw[this]at S;have:(jX (a,o,u,()) r t y B []).2.2.2.2.2.1=B:=rfl;rw[this]at S;omega
   refine⟨⟨by show 0+(dS (jX (a,o,u,()) r t y B [])).length<=_;omega,by show r.length<=_;omega,by show t.length<=_;omega,by show B.length<=_;omega⟩,⟨hs,by show(dS (jX (a,o,u,()) r t y B [])).length<=_;omega,G.le⟩,?_⟩;intro g hg;have hg:g=cM (103,[s,dS (jX (a,o,u,()) r t y B [])],()) O m2:=hg;refine L _ _ _ _ ?_;rw[hM];unfold JJ;rw[<-hL];have hz:ob ((o.length:Int)+1) j w (eo (kq (a,o,u,()) r t y)) [] B O m2=((B,0),O,m2):=rfl;rw[hz];dsimp only;rw[ae (λh=>h rfl),<-hg];rfl) (l:=λ_=>bA)
abbrev TK:Ty:= .pr .i64 (.pr .i64 (.pr .i64 (.pr .i64 (.pr tB (.pr tB (.pr tB .un))))))
abbrev Lt:=Int×Int×Int×Int×BL×BL×BL×Unit
def Lc:Lt:=(0,0,0,0,[],[],[],())
def pD(l:Lt):Prop:=2<=l.1/\l.1<=4/\0<=l.2.1/\l.2.1<5/\1<=l.2.2.1/\l.2.2.1<=65536/\1<=l.2.2.2.1/\l.2.2.2.1<=1048576/\(l.1=2/\l.2.2.2.2.1.length=32\/l.2.2.2.2.1.length=0/\(l.1≠2\/l.2.2.2.1=1))
instance (l:Lt):Decidable (pD l):=by unfold pD;infer_instance
def N5(l:Lt):Bool:=decide (pD l)
def AO(i:Nat):Nat×Bool×List IP:=(i,true,[.d TK])
def Ld:Ct:=⟨1,⟨[AO 0],[]⟩,[⟨[sL 0],[]⟩],λ(l,_)=>one True (N5 l,())⟩
def Wo:bG:=(101,[Ld])::Wm
def Wp:=kA 101 Ld Wn (cQ Ld 0) (∀(a:Lt)Q,let z:=Br (nI a.2.2.2.2.1==0) (Br (!a.1==2) (Q ⟨0,true,()⟩) (Q ⟨0,a.2.2.2.1==1,()⟩)) (Q ⟨0,false,()⟩);bg Ld (a,()) Q->Bd (a.1<2) (Q ⟨0,false,()⟩) (Bd (4<a.1) (Q ⟨0,false,()⟩) (Bd (a.2.1<0) (Q ⟨0,false,()⟩) (Bd (5<=a.2.1) (Q ⟨0,false,()⟩) (Bd (a.2.2.1<1) (Q ⟨0,false,()⟩) (Bd (65536<a.2.2.1) (Q ⟨0,false,()⟩) (Bd (a.2.2.2.1<1) (Q ⟨0,false,()⟩) (Bd (1048576<a.2.2.2.1) (Q ⟨0,false,()⟩) (Br (a.1==2) (Br (nI a.2.2.2.2.1==32) (Q ⟨0,true,()⟩) z) z))))))))) (by
 conv=>zeta
 unfold Bd Br nI bg;rintro⟨k,a,e,n,p,b,s,⟨⟩⟩ Q ⟨_,c⟩;dsimp only at*
 have hB:∀y:Bool,(y=true↔(2<=k/\k<=4/\0<=a/\a<5/\1<=e/\e<=65536/\1<=n/\n<=1048576/\(k=2/\p.length=32\/p.length=0/\(k≠2\/n=1))))->Q ⟨0,(y,())⟩:=by
  intro y f;have:y=N5 (k,a,e,n,p,b,s,()):=by unfold N5;rw[nr,f,ai];exact Iff.rfl
  rw[this];exact c
 clear c
 (repeat' (first|apply ck|intro _))<;>refine hB _ ?_<;>simp only[ai,aj,aR,aN,aS,aC,ne_eq,cz,false_iff,true_iff]at* <;>omega)
def jY(l:Lt):Bool:=decide (pD l/\(eY ((l.2.2.2.2.2.1.length:Int)-17)).2=0/\(eY ((l.2.2.2.2.2.1.length:Int)-17)).1+16=l.2.2.2.2.2.1.length/\l.2.2.2.2.2.2.1.length=64)
def Le:Ct:=⟨1,⟨[AO 0],[]⟩,[⟨[sL 0],[]⟩],λ(l,_)=>one (l.2.2.2.2.2.1.length<=1099511627776) (jY l,())⟩
def Wq:bG:=(64,[Le])::Wo
def Wr:=kA 64 Le Wp (cQ Le 0) (∀(a:Lt)Q,let z:=eY (nI a.2.2.2.2.2.1-17);let b:=z.1+16==nI a.2.2.2.2.2.1;bg Le (a,()) Q->am (nI a.2.2.2.2.2.1-17)/\True/\True/\Br (N5 a) (Br (z.2==0) (am (z.1+16)/\Br b (Q ⟨0,nI a.2.2.2.2.2.2.1==64,()⟩) (Q ⟨0,false,()⟩)) (Q ⟨0,false,()⟩)) (Q ⟨0,false,()⟩)) (by
 conv=>zeta
 unfold Br nI bg;intro l Q ⟨j,e⟩
 have hB:∀y:Bool,(y=true↔(pD l/\(eY ((l.2.2.2.2.2.1.length:Int)-17)).2=0/\(eY ((l.2.2.2.2.2.1.length:Int)-17)).1+16=l.2.2.2.2.2.1.length/\l.2.2.2.2.2.2.1.length=64))->Q ⟨0,(y,())⟩:=by
  intro y g;have:y=jY l:=by unfold jY;rw[nr,g,ai]
  rw[this];exact e
 clear e;have i:=vm ((l.2.2.2.2.2.1.length:Int)-17);have f:N5 l=true↔pD l:=by unfold N5;rw[ai]
 generalize eY ((l.2.2.2.2.2.1.length:Int)-17)=K at*;simp only[aR,aN,aS,aC,ne_eq];refine⟨cv,trivial,trivial,λa=>⟨λb=>⟨by have:=i b;unfold am;omega,λc=>hB _ ?_,λc=>hB _ ?_⟩,λb=>hB _ ?_⟩,λa=>hB _ ?_⟩
 ·simp only[aS];exact⟨λh=>⟨f.1 a,b,c,Int.ofNat.inj h⟩,λh=>by have:=h.2.2.2;omega⟩
 ·exact⟨λh=>by simp at h,λh=>absurd h.2.2.1 c⟩
 ·exact⟨λh=>by simp at h,λh=>absurd h.2.1 b⟩
 ·exact⟨λh=>by simp at h,λh=>by rw[f.2 h.1]at a;simp at a⟩)
def dp(l:Lt):BL:=vn l.1++vn l.2.1++vn l.2.2.1++vn l.2.2.2.1++tx l.2.2.2.2.1
theorem mi(l:Lt):(dp l).length<=35+l.2.2.2.2.1.length:=by
 have a:=bC l.1;have b:=bC l.2.1;have c:=bC l.2.2.1;have e:=bC l.2.2.2.1;have f:=eC l.2.2.2.2.1;simp only[dp,aa];omega
def Lf:Ct:=⟨2,⟨[sB 0,AO 1],[]⟩,[⟨[(0,false,[.d tB])],[]⟩],λ(b,l,_)=>one (b.length+l.2.2.2.2.1.length<=1000000000) (b++dp l,())⟩
def Ws:bG:=(87,[Lf])::Wq
def Wt:=kA 87 Lf Wr (cQ Lf 5) (∀(b:BL)(a:Lt)Q,bg Lf (b,a,()) Q->b.length<=1099511627776/\(b++vn a.1).length<=1099511627776/\(b++vn a.1++vn a.2.1).length<=1099511627776/\(b++vn a.1++vn a.2.1++vn a.2.2.1).length<=1099511627776/\(b++vn a.1++vn a.2.1++vn a.2.2.1++vn a.2.2.2.1).length+ah a.2.2.2.2.1<=1099511627776/\Q ⟨0,b++vn a.1++vn a.2.1++vn a.2.2.1++vn a.2.2.2.1++(vn (nI a.2.2.2.2.1)++a.2.2.2.2.1),()⟩) (by
 unfold nI bg;rintro b ⟨k,a,e,n,p,c,s,⟨⟩⟩ Q ⟨h,f⟩;dsimp only at*;have g:∀y,y=b++dp (k,a,e,n,p,c,s,())->Q ⟨0,(y,())⟩:=λy e=>by rw[e];exact f
 have i:=bC k;have j:=bC a;have l:=bC e;have m:=bC n;simp only[aa];refine⟨ac,ac,ac,ac,ac,g _ ?_⟩;simp only[dp,tx,ay])
def eV(l:Lt):BL:=dp l++tx l.2.2.2.2.2.1++tx l.2.2.2.2.2.2.1
def Lh:Ct:=⟨2,⟨[sB 0,AO 1],[]⟩,[⟨[(0,false,[.d tB])],[]⟩],λ(b,l,_)=>one (b.length+l.2.2.2.2.1.length+l.2.2.2.2.2.1.length+l.2.2.2.2.2.2.1.length<=1000000000) (b++eV l,())⟩
def Wu:bG:=(82,[Lh])::Ws
def Wv:=kA 82 Lh Wt (cQ Lh 0) (∀(b:BL)(a:Lt)Q,let z:=vn (nI a.2.2.2.2.2.1)++a.2.2.2.2.2.1;bg Lh (b,a,()) Q->b.length+ah a.2.2.2.2.1<=1000000000/\(b++dp a).length+ah a.2.2.2.2.2.1<=1099511627776/\(b++dp a++z).length+ah a.2.2.2.2.2.2.1<=1099511627776/\Q ⟨0,b++dp a++z++(vn (nI a.2.2.2.2.2.2.1)++a.2.2.2.2.2.2.1),()⟩) (by
 conv=>zeta
 unfold nI bg;rintro b l Q ⟨f,a⟩;have c:∀y,y=b++eV l->Q ⟨0,(y,())⟩:=λy e=>by rw[e];exact a
 have g:=mi l;have h:=bC l.2.2.2.2.2.1.length;simp only[aa];refine⟨ac,ac,ac,c _ ?_⟩;simp only[eV,tx,ay])
def JK(b:BL)(m:Bool)(s:Rs):Lt×Rs:=
 let k:=dn b s.1 m s.2 2 4
 let a:=dn b k.2.1 m k.2.2 0 4
 let e:=dn b a.2.1 m a.2.2 1 65536
 let n:=dn b e.2.1 m e.2.2 1 1048576
 let p:=hJ b n.2.1 m n.2.2 64
 let x:=hJ b p.2.1 m p.2.2 4112
 let g:=hJ b x.2.1 m x.2.2 64
 ((k.1,a.1,e.1,n.1,p.1,x.1,g.1,()),g.2)
def pl(b:BL)(m:Bool)(s:Rs):Lt×Rs:=
 lk b (let x:=JK b m s
 let a:=if jY x.1=true then x.2.2 else if(m&&x.2.2==0)=true then 5 else x.2.2
 (if(if m=true then a else 5)=0 then x.1 else Lc,(x.2.1,a)))
def Li:Ct:=⟨1,⟨[sP 0],rH⟩,[⟨[AO 0],rH⟩],λ(b,a,m,e,_)=>dZ (bZ b a) (pl b m (a,e)) λy=>(y.1,b,y.2.1,m,y.2.2,())⟩
def Ww:bG:=(27,[Li])::Wu
def Wx:=kA 27 Li Wv (cQ Li 0) (∀(d:BL)(j:Int)(c:Bool)(k:Int)Q,bg Li (d,j,c,k,()) Q->bZ d j/\∀b,b=dn d j c k 2 4->bZ d b.2.1/\∀f,f=dn d b.2.1 c b.2.2 0 4->bZ d f.2.1/\∀g,g=dn d f.2.1 c f.2.2 1 65536->bZ d g.2.1/\∀h,h=dn d g.2.1 c g.2.2 1 1048576->bZ d h.2.1/\∀i,i=hJ d h.2.1 c h.2.2 64->bZ d i.2.1/\∀e,e=hJ d i.2.1 c i.2.2 4112->bZ d e.2.1/\∀a,let l:=c&&a.2.2==0;let m:= !(if c=true then a.2.2 else 5)==0;let n:= !(if c=true then if l=true then 5 else a.2.2 else 5)==0;let z:=(b.1,f.1,g.1,h.1,i.1,e.1,a.1,());a=hJ d e.2.1 c e.2.2 64->ah e.1<=1099511627776/\Br (!jY z) (True/\True/\Br n (Q ⟨0,(0,0,0,0,[],[],[],()),d,a.2.1,c,if l=true then 5 else a.2.2,()⟩) (Q ⟨0,z,d,a.2.1,c,if l=true then 5 else a.2.2,()⟩)) (True/\Br m (Q ⟨0,(0,0,0,0,[],[],[],()),d,a.2.1,c,a.2.2,()⟩) (Q ⟨0,z,d,a.2.1,c,a.2.2,()⟩))) (by
 conv=>zeta
 unfold Br bg;intro b a m e Q ⟨D,E⟩;have f:∀(o:Lt)(q r:Int),pl b m (a,e)=(o,q,r)->Q ⟨0,(o,b,q,m,r,())⟩:=λo q r e=>E (o,q,r) e.symm;clear E;refine⟨D,λk s=>?_⟩;have t:=(fx m e 2 4 D).1;rw[<-s]at t;refine⟨t,λF i=>?_⟩;have u:=(fx m k.2.2 0 4 t).1;rw[<-i]at u;refine⟨u,λG j=>?_⟩;have v:=(fx m F.2.2 1 65536 u).1;rw[<-j]at v;refine⟨v,λn w=>?_⟩;have y:=(fx m G.2.2 1 1048576 v).1;rw[<-w]at y;refine⟨y,λp z=>?_⟩;have A:=(ow m n.2.2 64 y).1;rw[<-z]at A;refine⟨A,λx B=>?_⟩;have C:=ow m p.2.2 4112 A;rw[<-B]at C;refine⟨C.1,λg H=>?_⟩;have J:JK b m (a,e)=((k.1,F.1,G.1,n.1,p.1,x.1,g.1,()),g.2):=by subst H B z w j i s;rfl
 unfold pl at f;rw[bN,J]at f;clear J;dsimp only at f;clear s i j w z B H;refine⟨by have:=C.2.2;omega,λh=>⟨trivial,trivial,λc=>f _ _ _ ?_,λc=>f _ _ _ ?_⟩,λh=>⟨trivial,λc=>f _ _ _ ?_,λc=>f _ _ _ ?_⟩⟩
 all_goals
  simp only[aR,aN,aC,ne_eq,aS]at h c;simp only[h,c,if_true,if_false,cz,Lc]) (l:=λ_=>bA)
def jB(l:Lt):BL:=vn l.1++vn l.2.1
def Lj:Ct:=⟨3,⟨[sS 0 0,sB 1,AO 2],lZ 0⟩,[⟨[sO 0 4],ma 0 3++[cT,cB]⟩],λ(a,l,d,b,m,_)=>dZ (aB a/\b.length<=4294967296) (cM (107,[a,jB l],()) b m) λy=>(d,y.2.2,y.2.1,y.1,())⟩
def Wy:bG:=(86,[Lj])::Ww
def Wz:=kA 86 Lj Wx (cQ Lj 0) (∀(c:BL)(a:Lt)(e:Int)(d:List Tm)(f:KV)Q,bg Lj (c,a,e,d,f,()) Q->0<=1099511627776/\ah (vn a.1)<=1099511627776/\(aB c/\aB (vn a.1++vn a.2.1)/\d.length<=4294967296)/\∀b,b=cM (ag 8 107,[c,vn a.1++vn a.2.1],()) d f->Q ⟨0,e,b.2.2,b.2.1,b.1,()⟩) (by
 unfold bg;intro g l d h m Q ⟨⟨a,c⟩,e⟩;have i:=bC l.1;have j:=bC l.2.1;exact⟨ac,ac,⟨a,by unfold aB;simp;omega,c⟩,λb f=>e b f⟩) (l:=λ_=>bA)
theorem paA(b:BL):(fY b).2=0->64<=(fY b).1.length/\(fY b).1.length<=4096:=by
 unfold fY;split
 ·rename_i h;have:=vm b.length h;intro _;simp only[aa,bc,List.length_replicate];omega
 ·rename_i h;intro a;exact absurd a h
def Qz(sec ep:BL)(l:Lt)(pd:BL)(ts:List Tm)(m:KV):(Lt×Int)×List Tm×KV:=
 let k:=cM (107,[ep,jB l],()) ts m
 let b:=jp k.1 l.2.2.2.1 (dp l) pd k.2.1 k.2.2
 let h:=dI (104,[b.1],()) b.2.1 b.2.2
 let g:=cM (103,[sec,dp l++tx h.1],()) h.2.1 h.2.2
 (((l.1,l.2.1,l.2.2.1,l.2.2.2.1,l.2.2.2.2.1,b.1,g.1,()),0),g.2)
def mT(sec ep:BL)(l:Lt)(text:BL)(ts:List Tm)(m:KV):(Lt×Int)×List Tm×KV:=
 lk sec (if sec.length≠32\/ep.length≠32\/N5 l=false then((Lc,1),ts,m)
 else if(fY text).2≠0 then((Lc,(fY text).2),ts,m)
 else Qz sec ep l (fY text).1 ts m)
def Gv:Ct:=⟨5,⟨[sS 0 0,sB 1,sB 2,AO 3,sB 4],lZ 0⟩,[⟨[AO 0,sI 1],ma 0 3++[cT]⟩],λ(a,c,l,text,d,b,m,_)=>dZ (cb 4 b) (mT a c l text b m) λy=>(y.1.1,y.1.2,d,y.2.2,y.2.1,())⟩
abbrev QC(v:Lt×Int×Int×KV×List Tm×Unit):cF Gv.out:=⟨0,v⟩
def WC:bG:=(81,[Gv])::Wy
def WD:=kA 81 Gv Wz (cQ Gv 0) (∀(h i:BL)(a:Lt)(e:BL)(f:Int)(d:List Tm)(g:KV)Q,let l:=dp (a.1,a.2.1,a.2.2.1,a.2.2.2.1,a.2.2.2.2.1,[],[],());let z:=QC ((0,0,0,0,[],[],[],()),1,f,g,d,());bg Gv (h,i,a,e,f,d,g,()) Q->Br (!(nI h)==32) (Q z) (Br (!(nI i)==32) (Q z) (True/\Br (!N5 a) (Q z) (True/\Br (!(fY e).2==0) (Q ⟨0,(0,0,0,0,[],[],[],()),(fY e).2,f,g,d,()⟩) ((0+ah a.2.2.2.2.1)*1<=mM/\(aB i/\d.length<=4294967296)/\∀b,b=cM (ag 8 107,[i,jB (a.1,a.2.1,a.2.2.1,a.2.2.2.1,a.2.2.2.2.1,[],[],())],()) d g->0+ah a.2.2.2.2.1<=1000000000/\(aB b.1/\aB l/\aB (fY e).1/\b.2.1.length<=4294967296)/\∀c,let m:=jV (ag 8 104,[c.1],()) c.2.1 c.2.2;c=jp b.1 a.2.2.2.1 l (fY e).1 b.2.1 b.2.2->0+ah a.2.2.2.2.1<=1000000000/\(aB c.1/\c.2.1.length<=4294967296)/\∀b,b=(jH (ag 8 104,[c.1],()) m.1,m.2)->ah (dp (a.1,a.2.1,a.2.2.1,a.2.2.2.1,a.2.2.2.2.1,c.1,[],()))+ah b.1<=1099511627776/\(aB h/\aB (dp (a.1,a.2.1,a.2.2.1,a.2.2.2.1,a.2.2.2.2.1,c.1,[],())++(vn (nI b.1)++b.1))/\b.2.1.length<=4294967296)/\∀j,j=cM (ag 8 103,[h,dp (a.1,a.2.1,a.2.2.1,a.2.2.2.1,a.2.2.2.2.1,c.1,[],())++(vn (nI b.1)++b.1)],()) b.2.1 b.2.2->Q ⟨0,(a.1,a.2.1,a.2.2.1,a.2.2.2.1,a.2.2.2.2.1,c.1,j.1,()),0,f,j.2.2,j.2.1,()⟩))))) (by
 conv=>zeta
 unfold Br mM nI bg;intro a i l text d y m Q ⟨h,C⟩;have f:∀p q r s,mT a i l text y m=((p,q),r,s)->Q ⟨0,(p,q,d,s,r,())⟩:=λp q r s e=>C ((p,q),r,s) e.symm;clear C;unfold mT at f;rw[bN]at f;simp only[aR,aN,ai,aj,aS,aC,ne_eq];refine⟨λc=>f _ _ _ _ (ak (.inl ac)),λO=>⟨λc=>f _ _ _ _ (ak (.inr (.inl ac))),λP=>⟨trivial,λc=>f _ _ _ _ (ak (.inr (.inr c))),λD=>?_⟩⟩⟩;have R:a.length=32:=ac
 have S:i.length=32:=ac
 rw[ae (by rw[D];simp;omega)]at f;refine⟨trivial,λc=>f _ _ _ _ (ak c),λE=>?_⟩;rw[ae (λh=>h E)]at f;have H:pD l:=af D;have J:l.2.2.2.2.1.length<=32:=by have:=H.2.2.2.2.2.2.2.2;omega
 have U:=mi l;have W:=paA text E;have K:aB a:=hK
 have F:aB i:=hK
 have j:aB (dp l):=hK
 have X:=bC l.1;have Y:=bC l.2.1;have z:=rl m h (xp (k:=107) bt bt F (show aB (jB l)by unfold aB jB;simp;omega));have L:=bE (K3 (107,[i,jB l],()) y m) (Eg (by show(107:BitVec 8)≠98;decide));refine⟨ac,⟨F,h.le⟩,?_⟩;intro k u;have u:k=cM (107,[i,jB l],()) y m:=u;rw[<-u]at z L;have A:=seS (n:=l.2.2.2.1) k.2.2 (show aB k.1 by unfold aB;omega) j (show aB (fY text).1 by unfold aB;omega) z;refine⟨ac,⟨hK,j,hK,z.le⟩,?_⟩;intro b v;have v:b=jp k.1 l.2.2.2.1 (dp l) (fY text).1 k.2.1 k.2.2:=v;rw[<-v]at A;have o:aB b.1:=hK
 have G:=pZ b.2.2 A.1 (ja (k:=104) bt bt o);have M:=vp (104,[b.1],()) b.2.1 b.2.2;have N:=Eg (t:=(104,[b.1],())) (by show(104:BitVec 8)≠98;decide);refine⟨ac,⟨o,A.1.le⟩,?_⟩;intro x w;have w:x=dI (104,[b.1],()) b.2.1 b.2.2:=w;rw[<-w]at G M;have tl:=eC x.1;refine⟨by show(dp l).length+x.1.length<=_;omega,⟨K,by show(dp l++tx x.1).length<=_;rw[aa];omega,G.le⟩,?_⟩;intro g B;have B:g=cM (103,[a,dp l++tx x.1],()) x.2.1 x.2.2:=B;refine f _ _ _ _ ?_;unfold Qz;dsimp only;rw[<-u,<-v,<-w,<-B]) (l:=λ_=>bA)
def lkZ:Lk:=(0,0,0,[],[],())
def nE(sg:BL)(l:Lt)(ts:List Tm)(m:KV):(Lk×Int)×List Tm×KV:=
 lk sg (if jY l=false then((lkZ,1),ts,m)
 else
  let h:=dI (104,[l.2.2.2.2.2.1],()) ts m
  if ws sg (dp l++tx h.1) l.2.2.2.2.2.2.1 h.2.1=false then((lkZ,10),h.2)
  else(((l.2.1,l.2.2.2.1,l.2.2.1,l.2.2.2.2.1,h.1,()),0),h.2))
def jZ(l:Lt):Prop:=l.2.2.2.2.1.length<=1000000/\l.2.2.2.2.2.1.length<=1000000/\l.2.2.2.2.2.2.1.length<=1000000
def Ll:Ct:=⟨3,⟨[sS 0 0,sB 1,AO 2],lZ 0⟩,[⟨[(0,true,[.d Cn]),sI 1],ma 0 3++[cT]⟩],λ(a,l,d,b,m,_)=>dZ (aB a/\jZ l/\cb 1 b) (nE a l b m) λy=>(y.1.1,y.1.2,d,y.2.2,y.2.1,())⟩
def WE:bG:=(163,[Ll])::WC
def WF:=kA 163 Ll WD (cQ Ll 0) (∀(d:BL)(a:Lt)(e:Int)(c:List Tm)(f:KV)Q,let g:=jV (ag 8 104,[a.2.2.2.2.2.1],()) c f;bg Ll (d,a,e,c,f,()) Q->ah a.2.2.2.2.2.1<=1099511627776/\Br (!jY a) (Q ⟨0,(0,0,0,[],[],()),1,e,f,c,()⟩) ((aB a.2.2.2.2.2.1/\c.length<=4294967296)/\∀b,let h:=dp a++(vn (nI b.1)++b.1);let z:= !ws d h a.2.2.2.2.2.2.1 b.2.1;b=(jH (ag 8 104,[a.2.2.2.2.2.1],()) g.1,g.2)->0+ah a.2.2.2.2.1<=1000000000/\ah (dp a)+ah b.1<=1099511627776/\(aB d/\aB h/\aB a.2.2.2.2.2.2.1/\fX b.2.1)/\Br z (Q ⟨0,(0,0,0,[],[],()),10,e,b.2.2,b.2.1,()⟩) ((0+ah a.2.2.2.2.1)*1<=mM/\Q ⟨0,(a.2.1,a.2.2.2.1,a.2.2.1,a.2.2.2.2.1,b.1,()),0,e,b.2.2,b.2.1,()⟩))) (by
 conv=>zeta
 unfold Br mM nI bg;intro p l d o m Q ⟨⟨s,u,h⟩,q⟩;have a:∀f g i j,nE p l o m=((f,g),i,j)->Q ⟨0,(f,g,d,j,i,())⟩:=λf g i j e=>q ((f,g),i,j) e.symm;clear q;unfold nE at a;rw[bN]at a;simp only[aR,aN,ai,aj,aS,aC,ne_eq];obtain⟨A,B,C⟩:=u;have b:aB l.2.2.2.2.2.1:=hK
 have D:=mi l;refine⟨ac,λc=>a _ _ _ _ (ak c),λv=>⟨⟨b,h.le⟩,?_⟩⟩;rw[ae (by rw[v];decide)]at a;have r:=pZ m h (ja (k:=104) bt bt b);have w:=vp (104,[l.2.2.2.2.2.1],()) o m;have y:=Eg (t:=(104,[l.2.2.2.2.2.1],())) (by show(104:BitVec 8)≠98;decide);intro x n;have n:x=dI (104,[l.2.2.2.2.2.1],()) o m:=n;rw[<-n]at r w a;clear n;have E:=eC x.1;refine⟨ac,ac,⟨s,by show(dp l++tx x.1).length<=_;rw[aa];omega,hK,r.ok⟩,λc=>a _ _ _ _ (ak c),λc=>⟨ac,a _ _ _ _ (ae (λh=>?_))⟩⟩;have z:ws p (dp l++tx x.1) l.2.2.2.2.2.2.1 x.2.1=true:=c;rw[z]at h;simp at h) (l:=λ_=>bA)
theorem opA{k:BL}(h:fX ts):(ov k e o x ts).1.length<=1099511627776:=by
 unfold ov;split
 ·simp
 ·split
  ·rename_i a;have c:=tj (b:=x) (k:=98) h a.1;have:=iA (fi x 98 ts).1.2.1 3;have:=c.1.1;dsimp only;omega
  ·simp
def loH:List (Option CP):=[some (.cells [.ifc 96 5 0]),some (.cells [.d tB]),some (.cells [.d TK]),some (.cells [.d tB]),some (.cells [.d .i64])]
def AP(ep:BL)(l:Lt)(ts:List Tm)(m:KV):(BL×Int)×List Tm×KV:=
 (ov (cM (107,[ep,jB l],()) ts m).1 l.2.2.2.1 (dp l) l.2.2.2.2.2.1 (cM (107,[ep,jB l],()) ts m).2.1,(cM (107,[ep,jB l],()) ts m).2)
theorem loA{l:Lt}(m:KV)(b:aB ep)(h:cb (k+1) ts):cb k (AP ep l ts m).2.1/\(AP ep l ts m).1.1.length<=1099511627776:=by
 have c:=bC l.1;have e:=bC l.2.1;have a:=rl m h (xp (k:=107) bt bt b (show aB (jB l)by unfold aB jB;simp;omega));exact⟨a,opA a.ok⟩
def Lm:Ct:=⟨5,⟨[(0,false,[.ptr 0 0]),(1,false,[.ptr 1 0]),(2,false,[.ptr 2 0]),(3,false,[.ptr 3 0]),(4,false,[.ptr 4 0])],loH++lZ 5⟩,[⟨[],loH++ma 5 8++[cT]⟩],λ(a,l,_,_,d,b,m,_)=>dZ (aB a/\jZ l/\cb 1 b) (AP a l b m) λy=>(a,l,y.1.1,y.1.2,d,y.2.2,y.2.1,())⟩
def WG:bG:=(85,[Lm])::WE
def WI:=kA 85 Lm WF (cQ Lm 0) (∀(c:BL)(a:Lt)(h:BL)(i f:Int)(e:List Tm)(g:KV)Q,bg Lm (c,a,h,i,f,e,g,()) Q->(aB c/\e.length<=4294967296)/\∀b,b=cM (ag 8 107,[c,jB a],()) e g->0+ah a.2.2.2.2.1<=1000000000/\(aB b.1/\aB (dp a)/\aB a.2.2.2.2.2.1/\fX b.2.1)/\∀d,d=ov b.1 a.2.2.2.1 (dp a) a.2.2.2.2.2.1 b.2.1->Q ⟨0,c,a,d.1,d.2,f,b.2.2,b.2.1,()⟩) (by
 unfold bg;intro b l _ _ d c m Q ⟨⟨e,f,h⟩,g⟩;obtain⟨j,n,p⟩:=f;have q:=mi l;have r:=bC l.1;have s:=bC l.2.1;have i:=rl m h (xp (k:=107) bt bt e (show aB (jB l)by unfold aB jB;simp;omega));have t:=bE (K3 (107,[b,jB l],()) c m) (Eg (by show(107:BitVec 8)≠98;decide));refine⟨⟨e,h.le⟩,?_⟩;intro k a;have a:k=cM (107,[b,jB l],()) c m:=a;subst a;refine⟨ac,⟨hK,hK,hK,i.ok⟩,?_⟩;rintro o rfl;exact g _ rfl) (l:=λ_=>bA)
def Lo:Ct:=⟨2,⟨[(0,false,[.ptr 0 0]),(1,false,[.ptr 1 0])],[some (.cells [.d tB]),some (.cells [.d .i64])]⟩,[⟨[],[some (.cells [.d tB]),some (.cells [.d .i64])]⟩],λ(b,_,_)=>dZ (b.length<=1099511627776) (AH b) λy=>(y.1,y.2,())⟩
def WJ:bG:=(88,[Lo])::WG
def WK:=kA 88 Lo WI (cQ Lo 0) (∀(a:BL)(b:Int)Q,bg Lo (a,b,()) Q->a.length<=1099511627776/\Q ⟨0,(AH a).1,(AH a).2,()⟩) (by
 unfold bg;intro b _ Q ⟨h,a⟩;exact⟨h,a _ rfl⟩) (l:=λ_=>bA)
def tq(ep:BL)(l:Lt)(ts:List Tm)(m:KV):(BL×Int)×List Tm×KV:=
 lk ep (if jY l=false\/ep.length≠32 then(([],1),ts,m)
 else if(AP ep l ts m).1.2≠0 then(([],(AP ep l ts m).1.2),(AP ep l ts m).2)
 else if(AH (AP ep l ts m).1.1).2≠0 then(([],(AH (AP ep l ts m).1.1).2),(AP ep l ts m).2)
 else(((AH (AP ep l ts m).1.1).1,0),(AP ep l ts m).2))
def Gw:Ct:=⟨3,⟨[sS 0 0,sB 1,AO 2],lZ 0⟩,[⟨[(0,false,[.d tB]),sI 1],ma 0 3++[cT]⟩],λ(b,l,d,a,m,_)=>dZ (jZ l/\cb 1 a) (tq b l a m) λy=>(y.1.1,y.1.2,d,y.2.2,y.2.1,())⟩
abbrev QD(v:BL×Int×Int×KV×List Tm×Unit):cF Gw.out:=⟨0,v⟩
def WL:bG:=(46,[Gw])::WJ
def WM:=kA 46 Gw WK (cQ Gw 3) (∀(c:BL)(a:Lt)(f:Int)(d:List Tm)(g:KV)Q,let i:=QD ([],1,f,g,d,());let z:=cM (ag 8 107,[c,jB a],()) d g;bg Gw (c,a,f,d,g,()) Q->ah a.2.2.2.2.2.1<=1099511627776/\Br (!jY a) (Q i) (Br (!(nI c)==32) (Q i) ((aB c/\jZ a/\cb 1 d)/\∀b,let h:=(f,b.2.2,b.2.1,());b=(ov z.1 a.2.2.2.1 (dp a) a.2.2.2.2.2.1 z.2.1,z.2)->Br (!b.1.2==0) (Q ⟨0,[],b.1.2,h⟩) (ah b.1.1<=1099511627776/\∀e,e=AH b.1.1->Br (!e.2==0) (Q ⟨0,[],e.2,h⟩) (Q ⟨0,e.1,e.2,h⟩))))) (by
 conv=>zeta
 unfold Br nI bg;intro o l d p m Q ⟨⟨q,h⟩,r⟩;have a:∀f g i j,tq o l p m=((f,g),i,j)->Q ⟨0,(f,g,d,j,i,())⟩:=λf g i j e=>r ((f,g),i,j) e.symm;clear r;unfold tq at a;rw[bN]at a;simp only[aR,aN,ai,aj,aS,aC,ne_eq];have x:=q.2.1;refine⟨ac,λc=>a _ _ _ _ (ak (.inl c)),λv=>⟨λc=>a _ _ _ _ (ak (.inr ac)),λy=>?_⟩⟩;have s:aB o:=hK
 have t:=loA (l:=l) m s h;refine⟨⟨s,q,h⟩,?_⟩;rw[ae (by rw[v];simp;omega)]at a;intro b n;have n:b=AP o l p m:=n;rw[<-n]at t a;clear n;refine⟨λc=>a _ _ _ _ (ak c),λc=>?_⟩;rw[ae (λh=>h c)]at a;refine⟨t.2,?_⟩;intro u w;rw[<-w]at a;refine⟨λc=>a _ _ _ _ (ak c),λc=>?_⟩;rw[ae (λh=>h c)]at a;rw[c];exact a _ _ _ _ rfl) (l:=λ_=>bA)
theorem Gx(x:BitVec 64)(k i:Nat)(hi:i<64):(az 64 (az 8 (x>>>k))<<<k).getLsbD i=(decide (k<=i/\i<k+8)&&x.getLsbD i):=by
 simp only[BitVec.getLsbD_shiftLeft,BitVec.getLsbD_setWidth,BitVec.getLsbD_ushiftRight];rcases br i k with h|h
 ·have:¬(k<=i/\i<k+8):=ac
  simp[h,this]
 ·have e:k+(i-k)=i:=ac
  rw[e];have b:¬i<k:=ac
  have c:i-k<64:=ac
  rcases br i (k+8)with g|g
  ·have a:i-k<8:=ac
   simp[hi,b,c,a,h,g]
  ·have a:¬i-k<8:=ac
   have f:¬i<k+8:=ac
   simp[a,f]
theorem Gy(x:BitVec 64):ag 64 0|||az 64 (az 8 (x>>>0))<<<0|||az 64 (az 8 (x>>>8))<<<8|||az 64 (az 8 (x>>>16))<<<16|||az 64 (az 8 (x>>>24))<<<24|||az 64 (az 8 (x>>>32))<<<32|||az 64 (az 8 (x>>>40))<<<40|||az 64 (az 8 (x>>>48))<<<48|||az 64 (az 8 (x>>>56))<<<56=x:=by
 refine BitVec.eq_of_getLsbD_eq λi a=>?_;simp only[BitVec.getLsbD_or,Gx x _ i a];have z:(ag 64 0).getLsbD i=false:=bY
 rw[z];cases x.getLsbD i
 ·simp
 ·simp only[Bool.and_true,Bool.false_or,jb,ai];omega
theorem Gz(t:Tm)(h:n<=4294967296):(yN (jH t n)).toNat=n:=by
 have:yN (jH t n)=bf 64 (n:Int):=Gy (bf 64 (n:Int));rw[this];exact Cm h
def Nm(ts:List Tm)(b:BL)(t:Tm):Prop:=∃i:Nat,ts[i]?=some t/\b=jH t ((i+1:Nat):Int)
structure Cu(ts:List Tm)(m:KV):Prop where
 le:ts.length<=4294967296
 at_:∀(i:Nat)(t:Tm),ts[i]?=some t->Uq (vl t) m=((i+1:Nat):Int)
 no:∀k,Uq k m≠0->∃(i:Nat)(t:Tm),ts[i]?=some t/\vl t=k
theorem Nm.le(h:Nm ts b t):t∈ts:=let⟨_,a,_⟩:=h;mH a
theorem Nm.mono(h:Nm ts b t):Nm (ts++us) b t:=by
 obtain⟨i,a,c⟩:=h;have e:i<ts.length:=(cq.1 a).1;exact⟨i,by rw[bq e];exact a,c⟩
theorem Nm.uni{a:Tm}(o:ts.length<=4294967296)(h:Nm ts b t)(h':Nm ts b a):t=a:=by
 obtain⟨i,e,g⟩:=h;obtain⟨j,c,l⟩:=h';have p:i<ts.length:=(cq.1 e).1;have q:j<ts.length:=(cq.1 c).1;have f:=Gz t (n:=i+1) ac;have m:=Gz a (n:=j+1) ac;rw[<-g]at f;rw[<-l,f]at m;have:i=j:=ac
 subst this;rw[e]at c;exact Option.some.inj c
theorem Lp(t:Tm)(n:Int):(jH t n).getD 0 0=t.1:=rfl
theorem Lq(t:Tm)(n:Int):9<=(jH t n).length:=by
 have:=AF t;rw[wz];omega
theorem qE(g:ts.length<=4294967296)(h:Nm ts b t):fi b t.1 ts=(t,true):=by
 obtain⟨i,f,a⟩:=h;have j:i<ts.length:=(cq.1 f).1;have c:=Gz t (n:=i+1) ac;rw[<-a]at c;unfold fi
 rw[ae (by
  rw[not_or];refine⟨?_,?_⟩
  ·have:=Lq t ((i+1:Nat):Int);rw[<-a]at this;omega
  ·rw[a,Lp];simp),ae (by rw[c];omega),c]
 have e:ts.getD (i+1-1) E5=t:=by rw[Nat.add_sub_cancel,aw,f];rfl
 rw[e];have:(t.1==t.1&&b==jH t ((i+1:Nat):Int))=true:=by rw[<-a];simp
 rw[this]
theorem Cv{k:BitVec 8}(h:(fi b k ts).2=true):Nm ts b (fi b k ts).1/\(fi b k ts).1.1=k:=by
 unfold fi at h⊢;split at h
 ·cases h
 rename_i c;rw[ae c];split at h
 ·cases h
 rename_i a;rw[ae a];dsimp only at h⊢;rw[aK,aS,aS]at h;rw[not_or]at a;have e:(yN b).toNat-1<ts.length:=ac
 refine⟨⟨(yN b).toNat-1,?_,?_⟩,h.1⟩
 ·rw[aw,an e];rfl
 ·rw[show(yN b).toNat-1+1=(yN b).toNat by omega];exact h.2
theorem AQ(g:k<=1099511627776)(i:j<=1099511627776)(h:dB k=dB j):k=j:=by
 have e:∀n:Nat,yN ((0:BitVec 8)::dB (n:Int))=bf 64 (n:Int):=λn=>Gy (bf 64 (n:Int));have c:=e k;rw[h,e j]at c;have f:=aI BitVec.toNat c;rw[BitVec.ofInt_natCast,BitVec.ofInt_natCast,BitVec.toNat_ofNat,BitVec.toNat_ofNat]at f;omega
theorem GA:∀{l l':List BL},mR l<=1099511627776->mR l'<=1099511627776->E0 l=E0 l'->l=l'
 |[],[],_,_,_=>rfl
 |[],p::r,_,_,h=>by
  have:=aI ah h;simp only[E0,List.map_nil,List.flatten_nil,dx,aY,List.flatten_cons,aa,eK]at this;omega
 |p::r,[],_,_,h=>by
  have:=aI ah h;simp only[E0,List.map_nil,List.flatten_nil,dx,aY,List.flatten_cons,aa,eK]at this;omega
 |p::r,q::s,a,b,h=>by
  simp only[mR,aY,dy]at a b;simp only[E0,aY,List.flatten_cons,ay]at h;obtain⟨c,e⟩:=List.append_inj h (by rw[eK,eK]);have f:=AQ ac ac c;obtain⟨g,i⟩:=List.append_inj e f;rw[g,GA (l:=r) (l':=s) (by show(r.map λp=>p.length+8).sum<=_;omega) (by show(s.map λp=>p.length+8).sum<=_;omega) i]
theorem Cw{a:Tm}(c:mR t.2.1<=1099511627776)(e:mR a.2.1<=1099511627776)(h:vl t=vl a):t=a:=by
 obtain⟨k,l,u⟩:=t;obtain⟨f,g,j⟩:=a;obtain⟨b,i⟩:=List.cons.inj h;have b:k=f:=b;rw[b,show l=g from GA c e i]
structure WN(t:Tm)(ts:List Tm)(r:BL×List Tm×KV):Prop where
 w:Cu r.2.1 r.2.2
 nm:Nm r.2.1 r.1 t
 ex:r.2.1=ts\/r.2.1=ts++[t]/\t∉ts
theorem tr{m:KV}(b:Cu ts m)(u:ts.length<4294967296)(n:∀x∈ts,eB x)(o:eB t):WN t ts (dI t ts m):=by
 unfold dI jV;split
 ·rename_i h;dsimp only
  have p:t∉ts:=by
   intro r;obtain⟨i,s⟩:=List.getElem?_of_mem r;rw[b.at_ i t s]at h;omega
  refine⟨⟨eM,λi x a=>?_,λk f=>?_⟩,⟨ts.length,bY,bY⟩, .inr ⟨rfl,p⟩⟩
  ·show(cD (kt:= .st) (vl x) (cL (kt:= .st) (vl t) _ m)).getD 0=_;rw[fM];rcases br i ts.length with g|g
   ·rw[bq g]at a;have j:=b.at_ i x a
    have:¬(vl x=vl t):=by
     intro e;have:=Cw (n x (mH a)).1 o.1 e;subst this;exact p (mH a)
    rw[ae (by rw[eR];exact this)];exact j
   ·rw[aJ g]at a
    have:i-ts.length=0:=by
     rcases dP (i-ts.length)with q|q
     ·exact q
     ·rw[be eM]at a;cases a
    rw[this]at a;have a:t=x:=cf a
    subst a;rw[ak (eR.2 rfl)];simp;omega
  ·have f:(cD (kt:= .st) k (cL (kt:= .st) (vl t) ((ts.length:Int)+1) m)).getD 0≠0:=f;rw[fM]at f;split at f
   ·rename_i e;exact⟨ts.length,t,bY,(eR.1 e).symm⟩
   ·obtain⟨i,x,c,l⟩:=b.no k f;exact⟨i,x,by rw[bq (cq.1 c).1];exact c,l⟩
 ·rename_i h;dsimp only;obtain⟨i,x,c,l⟩:=b.no _ h;have e:=Cw (n x (mH c)).1 o.1 l;subst e;exact⟨b,⟨i,c,by rw[b.at_ i x c]⟩, .inl rfl⟩
theorem qa{m:KV}(a:Cu ts m)(h:t∈ts):(dI t ts m).2=(ts,m):=by
 obtain⟨i,b⟩:=List.getElem?_of_mem h;have:=a.at_ i t b;unfold dI jV;rw[ae (by rw[this];omega)]
theorem Cx:Cu [] []:=⟨aq _,λi t h=>by simp at h,λk h=>absurd rfl h⟩
theorem kP(c:BitVec 8)(h:n=c.toNat):ag 8 n=c:=by subst h;simp
theorem Cy:∀(l:BL)(m s:Nat),s<6->(gm m s l).2.2=0->∃n:Nat,(gm m s l).1=((m+n*128^s:Nat):Int)/\n<128^(6-s)/\(n=0->s=0)/\(gm m s l).2.1=((s+(mQ (5-s) n).length:Nat):Int)/\l=mQ (5-s) n++l.drop (mQ (5-s) n).length/\m+n*128^s<=1099511627776
 |[],_,_,_,h=>by cases h
 |c::r,m,s,x,h=>by
  have y:=c.isLt;simp only[gm]at h⊢;split at h
  ·rename_i g;rw[ak g];obtain⟨n,o,z,p,t,b,u⟩:=Cy r _ (s+1) g.2 h;have A:n≠0:=λq=>by have:=p q;omega
   have v:5-s=(5-(s+1))+1:=ac
   have e:mQ (5-s) (c.toNat % 128+128*n)=c::mQ (5-(s+1)) n:=by
    rw[v];simp only[mQ];rw[ae ac,kP c ac,show(c.toNat % 128+128*n)/128=n by omega]
   have f:m+(c.toNat % 128+128*n)*128^s=m+c.toNat % 128*128^s+n*128^(s+1):=by
    rw[Nat.add_mul,Nat.pow_succ,Nat.mul_comm 128 n,Nat.mul_assoc,Nat.mul_comm 128 (128^s)];omega
   refine⟨c.toNat % 128+128*n,?_,?_,λq=>ac,?_,?_,?_⟩
   ·rw[o,f]
   ·have:128^(6-s)=128*128^(6-(s+1)):=by rw[<-Nat.pow_succ',show(6-(s+1)).succ=6-s by omega]
    rw[this];omega
   ·rw[t,e,bc];congr 1;omega
   ·rw[e,List.cons_append,bc,List.drop_succ_cons,<-b]
   ·rw[f];exact u
  ·rename_i g;rw[ae g];split at h
   ·cases h
   ·rename_i a;rw[ae a];split at h
    ·cases h
    ·rename_i i;rw[ae i];rw[not_or]at a;have w:c.toNat % 128=c.toNat:=Nat.mod_eq_of_lt ac;rw[w]at i⊢
     have j:mQ (5-s) c.toNat=[c]:=by
      cases b:5-s with
      |zero=>simp only[mQ];rw[kP c rfl]
      |succ k=>simp only[mQ];rw[ak ac,kP c rfl]
     refine⟨c.toNat,rfl,?_,λq=>?_,?_,?_,ac⟩
     ·have:128^1<=128^(6-s):=Nat.pow_le_pow_right bt ac;omega
     ·have:=a.2;omega
     ·rw[j];rfl
     ·rw[j];rfl
theorem Lr(h:n<128^6):mQ 6 n=mQ 5 n:=by
 have e:∀(k n:Nat),n<128^(k+1)->mQ (k+1) n=mQ k n:=by
  intro k
  induction k with
  |zero=>
   intro n h;simp only[mQ];rw[ak ac]
  |succ k a=>
   intro n h;rw[show mQ (k+1+1) n=if n<128 then[ag 8 n]else ag 8 (n % 128+128)::mQ (k+1) (n/128)from rfl,show mQ (k+1) n=if n<128 then[ag 8 n]else ag 8 (n % 128+128)::mQ k (n/128)from rfl];rw[a (n/128) (by rw[Nat.pow_succ]at h;omega)]
 exact e 5 n h
theorem GB(h:n<=1099511627776):vn (n:Int)=mQ 5 n:=by
 unfold vn;rw[show(min (max (n:Int) 0) 1099511627776).toNat=n by omega]
 exact Lr (by have:(128:Nat)^6=4398046511104:=bt
              omega)
theorem N6(h:(gm 0 0 o).2.2=0):o=vn (gm 0 0 o).1++o.drop (gm 0 0 o).2.1.toNat/\(gm 0 0 o).2.1=((vn (gm 0 0 o).1).length:Int)/\0<=(gm 0 0 o).1/\(gm 0 0 o).1<=1099511627776:=by
 obtain⟨n,a,f,g,b,e,c⟩:=Cy o 0 0 bt h;rw[Nat.pow_zero,Nat.mul_one,bT]at a c;rw[bT]at b;rw[a,GB c,b,aG];exact⟨e,rfl,ac,ac⟩
theorem GC:∀(k n m s:Nat)(r:BL),k+s=5->n<128^(k+1)->(n=0->s=0)->m+n*128^s<=1099511627776->gm m s (mQ k n++r)=(((m+n*128^s:Nat):Int),((s+(mQ k n).length:Nat):Int),0)
 |0,n,m,s,r,h,a,c,f=>by
  have a:n<128:=a;simp only[mQ,List.cons_append,eO,gm];have b:(ag 8 n).toNat=n:=eM
  rw[b,Nat.mod_eq_of_lt a,ae ac,ae (by rw[not_or];exact⟨ac,λq=>by have:=c q.1;omega⟩),ae ac];rfl
 |k+1,n,m,s,r,h,a,c,f=>by
  simp only[mQ];split
  ·rename_i e;simp only[List.cons_append,eO,gm];have b:(ag 8 n).toNat=n:=eM
   rw[b,Nat.mod_eq_of_lt e,ae ac,ae (by rw[not_or];exact⟨ac,λq=>by have:=c q.1;omega⟩),ae ac];rfl
  ·rename_i i;simp only[List.cons_append,gm];have b:(ag 8 (n % 128+128)).toNat=n % 128+128:=eM
   rw[b,ak ac,show(n % 128+128) % 128=n % 128 by omega]
   have g:m+n % 128*128^s+n/128*128^(s+1)=m+n*128^s:=by
    have:n=n % 128+128*(n/128):=ac
    conv=>rhs;rw[this,Nat.add_mul,Nat.mul_comm 128 (n/128),Nat.mul_assoc]
    rw[Nat.pow_succ,Nat.mul_comm 128 (128^s)];omega
   have:=GC k (n/128) (m+n % 128*128^s) (s+1) r ac (by rw[Nat.pow_succ]at a;omega) (λq=>ac) (by rw[g];exact f);rw[this,g,bc]
   congr 3
   omega
theorem Cz(h0:0<=e)(h:e<=1099511627776)(r:BL):gm 0 0 (vn e++r)=(e,((vn e).length:Int),0):=by
 obtain⟨m,rfl⟩:=bo h0;have a:m<=1099511627776:=ac
 rw[show((m:Nat):Int)=(m:Int)from rfl];show gm 0 0 (vn (m:Int)++r)=((m:Int),((vn (m:Int)).length:Int),0)
 rw[GB a,GC 5 m 0 0 r rfl (by have:(128:Nat)^6=4398046511104:=bt
                              omega) (λ_=>rfl) ac]
 simp
def Ls:Ct:=⟨1,⟨[sB 0],[]⟩,[⟨[(0,false,[.d tB])],[]⟩],λ(b,_)=>one (b.length<=1000000) (b,())⟩
def WO:bG:=(67,[Ls])::WL
def WP:=kA 67 Ls WM (cQ Ls 0) (∀(a:BL)Q,bg Ls (a,()) Q->∀(b:Bool),(b=true->a.isEmpty=true)->Br b (Q ⟨0,[],()⟩) ((0+a.length)*1<=mM/\Q ⟨0,a,()⟩)) (by
 unfold Br mM bg;rintro x Q ⟨e,a⟩ b c;refine⟨λh=>?_,λh=>⟨ac,a⟩⟩;have:=c h;simp only[List.isEmpty_iff]at this;subst this;exact a)
def Lu:Ct:=⟨1,⟨[(0,false,[.d (.sl iZ)])],[]⟩,[⟨[sO 0 0],[JG]⟩],λ(b,_)=>one (b.length<=1000000000) (b,())⟩
def WQ:bG:=(199,[Lu])::WO
def WR:=kA 199 Lu WP (cQ Lu 0) (∀(a:List Fk)Q,bg Lu (a,()) Q->∀(b:Bool),(b=true->a.isEmpty=true)->Br b (Q ⟨0,[],()⟩) ((0+a.length)*16<=mM/\Q ⟨0,a,()⟩)) (by
 unfold Br mM bg;rintro x Q ⟨e,a⟩ b c;refine⟨λh=>?_,λh=>⟨ac,a⟩⟩;have:=c h;simp only[List.isEmpty_iff]at this;subst this;exact a)
def Lv:Ct:=⟨2,⟨[(0,false,[.d (.sl iZ)]),(1,true,[.d iZ])],[]⟩,[⟨[sI 0],[]⟩],λ(l,x,_)=> .need (l.length<=1000000000) (.all Int (λy=>(0<=y↔x∈l)) λy=> .leaf ⟨0,(y,())⟩)⟩
def WS:cx:=⟨[(0,false,[.d (.sl iZ)]),(3,false,[.ptr 0 0]),sI 7,sI 8],[some (.cells [.d iZ])]⟩
def Lw(l:List Fk)(x:Fk)(y:WS.den):Prop:=match y with
 |(a,n,i,b,_)=>a=l/\b=x/\n=l.length/\∃k:Nat,i=k/\k<=l.length/\x∉l.take k
def a5f(x:Lv.inp.den):eH:=⟨[(2,bS WS (Lw x.1 x.2.1) λ(_,n,i,_)=>(n-i).toNat)],[],[],[],0⟩
def WT:bG:=(214,[Lv])::WQ
def N7:=kA 214 Lv WR a5f (∀(c:List Fk)(f:Fk)Q,bg Lv (c,f,()) Q->Is (Lw c f (c,nI c,0,f,()))/\∀(b:List Fk)(d a:Int)(e:Fk),let z:=e.1==(gD b a (0,0,())).1&&e.2.1==(gD b a (0,0,())).2.1;Lw c f (b,d,a,e,())->Bd (a<d) (iN a b/\Br z (Q ⟨0,a,()⟩) (am (a+1)/\Is (Lw c f (b,d,a+1,e,())/\lN (d-(a+1)) (d-a)))) (Q ⟨0,(-1:Int),()⟩)) (by
 conv=>zeta
 unfold Bd Br gD iN lN nI bg;rintro l x Q ⟨t,f⟩;refine⟨⟨rfl,rfl,rfl,0,rfl,aq _,bY⟩,?_⟩;rintro g n i m ⟨o,p,q,k,r,u,j⟩;subst o;subst p;subst q;subst r;refine⟨λc=>?_,λe=>?_⟩
 ·have b:k<g.length:=by simp only[ai]at c;omega
  have s:((k:Int).toNat)=k:=ac
  rw[s];refine⟨ac,λh=>f _ ?_,λh=>⟨?_,⟨rfl,rfl,rfl,k+1,rfl,b,?_⟩,ac⟩⟩
  ·constructor
   ·intro _
    have:m=g[k]:=by
     simp only[aK,aS,aw,an b,dA]at h;exact ga h.1 (ga h.2 rfl)
    rw[this];exact ls b
   ·intro _;omega
  ·unfold am;omega
  ·rw[dR,an b];intro a;simp only[Option.toList_some,ba,bV]at a;rcases a with a|a
   ·exact j a
   ·rw[aw,an b,dA,<-a]at h;simp at h
 ·simp only[aj]at e;refine f _ ⟨λh=>absurd h ac,λh=>absurd ?_ j⟩
  rwa [bb ac]) (l:=λx=>Live.need λ_=>Live.all ⟨if x.2.1∈x.1 then 0 else-1,by split<;>simp_all,Live.leaf⟩)
def AR:Ct:=⟨2,⟨[(0,false,[.d (.sl iZ)]),(1,true,[.d iZ])],[]⟩,[⟨[sL 0],[]⟩],λ(l,x,_)=>one (l.length<=1000000000) (decide (x∈l),())⟩
theorem GD:bW Tryz.prog 198 AR:=kC N7 (cQ AR 0) (∀(a:List Fk)(c:Fk)Q,bg AR (a,c,()) Q->a.length<=1000000000/\∀(b:Int),(0<=b↔c∈a)->Q ⟨0,decide (0<=b),()⟩) (by
 unfold bg;rintro x y Q ⟨a,c⟩;refine⟨a,λb e=>?_⟩;have:decide (0<=b)=decide (y∈x):=by simp only[e]
 rw[this];exact c)
def WU:bG:=(198,[AR])::WT
def WV:=kB 198 [AR] N7 (bL (GD))
def Lx:Ct:=⟨2,⟨[sB 0,sB 1],[]⟩,[⟨[sL 0],[]⟩],λ(a,b,_)=>one (a.length<=1000000000/\b.length<=1000000000) (a==b,())⟩
def WW:cx:=⟨[sB 0,sB 1,sI 12,sI 13],[]⟩
def Ly(a b:BL)(y:WW.den):Prop:=match y with
 |(c,e,n,i,_)=>c=a/\e=b/\n=a.length/\a.length=b.length/\∃k:Nat,i=k/\k<=a.length/\a.take k=b.take k
def a5g(x:Lx.inp.den):eH:=⟨[(4,bS WW (Ly x.1 x.2.1) λ(_,_,n,i,_)=>(n-i).toNat)],[],[],[],0⟩
def WX:bG:=(217,[Lx])::WU
def WY:=kA 217 Lx WV a5g (∀(b c:BL)Q,bg Lx (b,c,()) Q->Br (!(nI b)==nI c) (Q ⟨0,false,()⟩) (Is (Ly b c (b,c,nI b,0,()))/\∀(e f:BL)(d a:Int),let z:= !gD e a (ag 8 0)==gD f a (ag 8 0);Ly b c (e,f,d,a,())->Bd (a<d) (iN a e/\iN a f/\Br z (Q ⟨0,false,()⟩) (am (a+1)/\Is (Ly b c (e,f,d,a+1,())/\lN (d-(a+1)) (d-a)))) (Q ⟨0,true,()⟩))) (by
 conv=>zeta
 unfold Bd Br gD iN lN nI bg;rintro a b Q ⟨⟨q,r⟩,c⟩;refine⟨λh=>?_,λh=>?_⟩
 ·have:(a==b)=false:=by
   rw[aC];rintro rfl;simp at h
  rw[this]at c;exact c
 ·have p:a.length=b.length:=by
   simp only[aN,aS]at h;omega
  refine⟨⟨rfl,rfl,rfl,p,0,rfl,aq _,rfl⟩,?_⟩;rintro f g n i ⟨s,t,u,_,k,v,x,j⟩;subst s;subst t;subst u;subst v;refine⟨λl=>?_,λm=>?_⟩
  ·have o:k<f.length:=by simp only[ai]at l;omega
   have e:k<g.length:=ac
   have w:((k:Int).toNat)=k:=ac
   rw[w];simp only[aw,an o,an e,dA];refine⟨ac,ac,λh=>?_,λh=>⟨?_,⟨rfl,rfl,rfl,p,k+1,rfl,o,?_⟩,ac⟩⟩
   ·have:(f==g)=false:=by
     rw[aC];rintro rfl;simp at h
    rw[this]at c;exact c
   ·unfold am;omega
   ·rw[dR,dR,j,an o,an e];simp only[aN,aS]at h;rw[h]
  ·simp only[aj]at m;have:f=g:=by
    rw[bb ac,bb ac]at j;exact j
   subst this;simp only[BEq.rfl]at c;exact c)
def LA:Ct:=⟨1,⟨[sB 0],[]⟩,[⟨[sP 0],tV⟩],λ(a,_)=>one (a.length<=1000000) (a,[],[],())⟩
def WZ:bG:=(36,[LA])::WX
def W2:=kA 36 LA WY (cQ LA 0) (∀(a:BL)Q,bg LA (a,()) Q->(0+a.length)*1<=mM/\Q ⟨0,a,[],[],()⟩) (by
 unfold mM bg;rintro x Q ⟨b,a⟩;exact⟨ac,a⟩)
def fJ{p:cx}(a:Prop){β:Type}(R:β->Prop)(g:β->p.den):Tr (cF [p]):= .need a (.all β R λy=> .leaf ⟨0,g y⟩)
theorem aU{p:cx}{b:Prop}{R:β->Prop}{g:β->p.den}(h:b->∃y,R y):Live (fJ (p:=p) b R g):=Live.need λa=>Live.all ⟨(h a).choose,(h a).choose_spec,Live.leaf⟩
abbrev cw:Ty:= .pr .i64 (.pr .i64 .un)
abbrev qb:Ty:= .pr .i64 (.pr .i64 (.pr .i64 (.pr .i64 (.pr .bl (.pr .i32 .un)))))
abbrev mU:Ty:= .pr .i64 (.pr .i64 (.pr .i32 (.pr .bl (.pr (.ar 2 (.sl cw)) .un))))
abbrev TL:Ty:= .pr (.fm cw mU) (.pr .i64 .un)
abbrev hX:Ty:= .pr .i64 (.pr .i64 (.pr .i64 (.pr .i64 (.pr .bl (.pr .i64 (.pr .i64 (.pr .bl (.pr .i64 (.pr .i64 .un)))))))))
abbrev tMB:Ty:= .pr (.sl hX) .un
abbrev W3:Ty:= .pr (.fm cw qb) (.pr (.fm cw .i64) (.pr (.sl qb) (.pr (.pf TL) (.pr (.pf tMB) .un))))
abbrev N8:Ty:= .pf W3
abbrev lu:Ty:= .pr .i64 (.pr .i64 (.pr .i64 (.pr .i64 (.pr .i64 (.pr .bl (.pr .i32 (.pr .i64 (.pr .i64 hX))))))))
abbrev gJ:=qb.den
abbrev Pg:=W3.den
abbrev Op:=lu.den
def zO:Op:=(0,0,0,0,0,false,0,0,0,0,0,0,0,false,0,0,false,0,0,())
abbrev Mk:=hX.den
abbrev ID:=cw.den
abbrev Nd:=mU.den
def tW:cw.den:=(0,0,())
def jr:Op:=(1,0,1,0,0,true,97,0,0,0,0,0,0,false,0,0,false,0,0,())
def ka:Pg:=([],[],[],([((0,0,()),(0,0,0,false,[[],[]],()))],0,()),([],()),())
def fO:Pg:=([((0,1,()),(0,1,0,0,true,97,()))],[],[],([((0,0,()),(0,0,0,false,[[],[(0,1,())]],())),((0,1,()),(0,1,97,false,[[],[]],()))],0,()),([],()),())
def JL(j:Nat):List (Option CP):=[some (.cells [.mp (j+1), .mp (j+2), .own (j+3), .ptr (j+4) 0, .ptr (j+6) 0]),some (.mp cw qb),some (.mp cw .i64),some (.sl qb),some (.cells [.mp (j+5), .d .i64]),some (.mp cw mU),some (.cells [.d (.sl hX)])]
def iB(a c:Int):Bool:=decide (0<=a/\a<5/\1<=c/\c<=1099511627776)
def QE(a c:Int):Bool:=(a==0&&c==0)||iB a c
def N9(m:hX.den):Bool:=decide (1<=m.1/\m.1<=1099511627776/\0<=m.2.1/\m.2.1<5/\1<=m.2.2.2.2.2.2.2.2.1/\m.2.2.2.2.2.2.2.2.1<=4/\0<=m.2.2.2.2.2.2.2.2.2.1/\m.2.2.2.2.2.2.2.2.2.1<=1099511627776)&&QE m.2.2.1 m.2.2.2.1&&QE m.2.2.2.2.2.1 m.2.2.2.2.2.2.1
def gT:Op->Bool
 |(k,a,c,b,e,r,x,f,g,h,i,j,fc,l,m,n,o,p,v,_)=>
  let q:=decide (a=0/\c=0/\b=0/\e=0/\r=false/\x=0)
  let s:=decide (f=0/\g=0)
  let t:=decide (h=0/\i=0/\j=0/\fc=0/\l=false/\m=0/\n=0/\o=false/\p=0/\v=0)
  if k=1 then iB a c&&decide (0<=x/\x<=1114111/\(x<55296\/57343<x))&&(b==0&&e==0&&r||iB b e)&&s&&t
  else if k=2 then iB f g&&q&&t
  else if k=3 then N9 (h,i,j,fc,l,m,n,o,p,v,())&&q&&s
  else false
def bn(b:Bool):BL:=vn (if b then 1 else 0)
def JM:Op->BL
 |(k,a,c,b,e,r,x,f,g,h,i,j,fc,l,m,n,o,p,v,_)=>
  vn k++(if k=1 then vn a++vn c++vn b++vn e++bn r++vn x
  else if k=2 then vn f++vn g
  else if k=3 then vn h++vn i++vn j++vn fc++bn l++vn m++vn n++bn o++vn p++vn v else[])
def cE(l:List Op):BL:=vn l.length++fl JM l
def LB:Ct:=⟨1,⟨[(0,true,[.d cw])],[]⟩,[⟨[sL 0],[]⟩],λ((a,c,_),_)=>one True (iB a c,())⟩
def W4:bG:=(156,[LB])::WZ
def W5:=kA 156 LB W2 (cQ LB 0) (∀(a:Fk)Q,bg LB (a,()) Q->Bd (0<=a.1) (Bd (a.1<5) (Bd (1<=a.2.1) (Q ⟨0,decide (a.2.1<=1099511627776),()⟩) (Q ⟨0,false,()⟩)) (Q ⟨0,false,()⟩)) (Q ⟨0,false,()⟩)) (by
 clear a b c e ep hi j k lo m n o pub sec t ts us x α β
 unfold Bd bg;rintro⟨a,c,⟨⟩⟩ Q ⟨_,b⟩;dsimp only at*;have f:∀y:Bool,iB a c=y->Q ⟨0,(y,())⟩:=λy e=>by rw[<-e];exact b
 clear b
 (repeat' (first|apply ck|intro _))<;>(try simp only[ai,aj,aS,aC,ne_eq,aR,aN,cm,bR]at*)<;>first
  |assumption
  |(exact f _ (by clear f;grind[iB]))
  |omega)
def LC:Ct:=⟨1,⟨[(0,true,[.d cw])],[]⟩,[⟨[sL 0],[]⟩],λ((a,c,_),_)=>one True (QE a c,())⟩
def W6:bG:=(175,[LC])::W4
def W7:=kA 175 LC W5 (cQ LC 0) (∀(a:Fk)Q,let z:=a.1==0&&a.2.1==0;bg LC (a,()) Q->Br z (Q ⟨0,true,()⟩) (Bd (0<=a.1) (Bd (a.1<5) (Bd (1<=a.2.1) (Q ⟨0,decide (a.2.1<=1099511627776),()⟩) (Q ⟨0,false,()⟩)) (Q ⟨0,false,()⟩)) (Q ⟨0,false,()⟩))) (by
 clear a b c e ep hi j k lo m n o pub sec t ts us x α β
 conv=>zeta
 unfold Bd Br bg;rintro⟨a,c,⟨⟩⟩ Q ⟨_,b⟩;dsimp only at*;have f:∀y:Bool,QE a c=y->Q ⟨0,(y,())⟩:=λy e=>by rw[<-e];exact b
 clear b
 (repeat' (first|apply ck|intro _))<;>(try simp only[ai,aj,aS,aC,ne_eq,aR,aN,cm,bR]at*)<;>first
  |assumption
  |(exact f _ (by clear f;grind[iB,QE]))
  |omega)
def GF:Ct:=⟨1,⟨[(0,true,[.d hX])],[]⟩,[⟨[sL 0],[]⟩],λ(m,_)=>one True (N9 m,())⟩
def W8:bG:=(153,[GF])::W6
def W9:=kA 153 GF W7 (cQ GF 0) (∀(a:hX.den)(Q:cF GF.out->Prop),let h:=a.2.2.2.2.2.2.2.2.2.1<=1099511627776;let c:=decide (a.2.1<5)=false->Q ⟨0,false,()⟩;let e:=a.2.2.2.2.2.2.2.2.1<=4;let f:=1<=a.2.2.2.2.2.2.2.2.1;let g:=0<=a.2.2.2.2.2.2.2.2.2.1;let b:=(decide (a.2.1<5)=true->Q ⟨0,false,()⟩)/\c;let z:=Br (decide f) (Br (decide e) (Br (decide g) (Q ⟨0,false,()⟩) (Q ⟨0,false,()⟩)) (Q ⟨0,false,()⟩)) (Q ⟨0,false,()⟩);bg GF (a,()) Q->Bd (1<=a.1) (Bd (a.1<=1099511627776) (Bd (0<=a.2.1) (Br (decide f) (Br (decide e) (Br (decide g) ((decide (a.2.1<5)=true->Br (decide h) (True/\Br (QE a.2.2.1 a.2.2.2.1) (True/\Q ⟨0,QE a.2.2.2.2.2.1 a.2.2.2.2.2.2.1,()⟩) (Q ⟨0,false,()⟩)) (Q ⟨0,false,()⟩))/\c) b) b) b) z) z) z) (by
 clear a b c e ep hi j k lo m n o pub sec t ts us x α β
 conv=>zeta
 unfold Bd Br bg;rintro⟨c,f,g,fc,h,i,j,l,m,v,⟨⟩⟩ Q ⟨_,a⟩;dsimp only at*;have b:∀y:Bool,N9 (c,f,g,fc,h,i,j,l,m,v,())=y->Q ⟨0,(y,())⟩:=λy e=>by rw[<-e];exact a
 clear a
 (repeat' (first|apply ck|intro _))<;>(try simp only[ai,aj,aS,aC,ne_eq,aR,aN,cm,bR]at*)<;>first
  |assumption
  |(exact b _ (by clear b;grind[N9]))
  |omega
  |exact trivial)
def ur:gJ->Bool
 |(a,c,b,e,r,x,_)=>iB a c&&decide (0<=x/\x<=1114111/\(x<55296\/57343<x))&&(b==0&&e==0&&r||iB b e)
def GG:Ct:=⟨1,⟨[(0,true,[.d qb])],[]⟩,[⟨[sL 0],[]⟩],λ(i,_)=>one True (ur i,())⟩
def Xa:bG:=(155,[GG])::W8
def Xb:=kA 155 GG W9 (cQ GG 0) (∀(a:gJ)(Q:cF GG.out->Prop),let f:=a.2.2.1==0&&a.2.2.2.1==0;let c:=True/\Q ⟨0,iB a.2.2.1 a.2.2.2.1,()⟩;let b:=iB a.1 a.2.1=false->Q ⟨0,false,()⟩;let e:=True/\(iB a.1 a.2.1=true->Q ⟨0,false,()⟩)/\b;let z:=Br f (Br (a.2.2.2.2.1) (Q ⟨0,true,()⟩) c) c;bg GG (a,()) Q->Bd (0<=a.2.2.2.2.2.1) (Bd (a.2.2.2.2.2.1<=1114111) (Bd (a.2.2.2.2.2.1<55296) (True/\(iB a.1 a.2.1=true->z)/\b) (True/\(iB a.1 a.2.1=true->Bd (57343<a.2.2.2.2.2.1) z (Q ⟨0,false,()⟩))/\b)) e) e) (by
 clear a b c e ep hi j k lo m n o pub sec t ts us x α β
 conv=>zeta
 unfold Bd Br bg;rintro⟨a,c,g,h,r,x,⟨⟩⟩ Q ⟨_,b⟩;dsimp only at*;have f:∀y:Bool,ur (a,c,g,h,r,x,())=y->Q ⟨0,(y,())⟩:=λy e=>by rw[<-e];exact b
 clear b
 (repeat' (first|apply ck|intro _))<;>(try simp only[ai,aj,aS,aC,ne_eq,aR,aN,cm,bR]at*)<;>first
  |assumption
  |(exact f _ (by clear f;grind[ur]))
  |omega
  |exact trivial)
def LD:Ct:=⟨1,⟨[(0,true,[.d lu])],[]⟩,[⟨[sL 0],[]⟩],λ(o,_)=>one True (gT o,())⟩
def Xc:bG:=(116,[LD])::Xa
def Xd:=kA 116 LD Xb (cQ LD 0) (∀(a:Op)Q,let b:=(a.2.1,a.2.2.1,a.2.2.2.1,a.2.2.2.2.1,a.2.2.2.2.2.1,a.2.2.2.2.2.2.1,());let z:=a.2.2.2.2.2.2.2.2.2.1==0&&(a.2.2.2.2.2.2.2.2.2.2.1==0&&(a.2.2.2.2.2.2.2.2.2.2.2.1==0&&(a.2.2.2.2.2.2.2.2.2.2.2.2.1==0&&(a.2.2.2.2.2.2.2.2.2.2.2.2.2.1==false&&(a.2.2.2.2.2.2.2.2.2.2.2.2.2.2.1==0&&(a.2.2.2.2.2.2.2.2.2.2.2.2.2.2.2.1==0&&(a.2.2.2.2.2.2.2.2.2.2.2.2.2.2.2.2.1==false&&(a.2.2.2.2.2.2.2.2.2.2.2.2.2.2.2.2.2.1==0&&a.2.2.2.2.2.2.2.2.2.2.2.2.2.2.2.2.2.2.1==0))))))));bg LD (a,()) Q->Br (a.1==1) (True/\Br (ur b) (Q ⟨0,a.1==a.1&&(a.2.1==a.2.1&&(a.2.2.1==a.2.2.1&&(a.2.2.2.1==a.2.2.2.1&&(a.2.2.2.2.1==a.2.2.2.2.1&&(a.2.2.2.2.2.1==a.2.2.2.2.2.1&&(a.2.2.2.2.2.2.1==a.2.2.2.2.2.2.1&&(a.2.2.2.2.2.2.2.1==0&&(a.2.2.2.2.2.2.2.2.1==0&&z)))))))),()⟩) (Q ⟨0,false,()⟩)) (Br (a.1==2) (True/\Br (iB a.2.2.2.2.2.2.2.1 a.2.2.2.2.2.2.2.2.1) (Q ⟨0,a.1==a.1&&(a.2.1==0&&(a.2.2.1==0&&(a.2.2.2.1==0&&(a.2.2.2.2.1==0&&(a.2.2.2.2.2.1==false&&(a.2.2.2.2.2.2.1==0&&(a.2.2.2.2.2.2.2.1==a.2.2.2.2.2.2.2.1&&(a.2.2.2.2.2.2.2.2.1==a.2.2.2.2.2.2.2.2.1&&z)))))))),()⟩) (Q ⟨0,false,()⟩)) (Br (a.1==3) (True/\Br (N9 a.2.2.2.2.2.2.2.2.2) (Q ⟨0,a.1==a.1&&(a.2.1==0&&(a.2.2.1==0&&(a.2.2.2.1==0&&(a.2.2.2.2.1==0&&(a.2.2.2.2.2.1==false&&(a.2.2.2.2.2.2.1==0&&(a.2.2.2.2.2.2.2.1==0&&(a.2.2.2.2.2.2.2.2.1==0&&(a.2.2.2.2.2.2.2.2.2.1==a.2.2.2.2.2.2.2.2.2.1&&(a.2.2.2.2.2.2.2.2.2.2.1==a.2.2.2.2.2.2.2.2.2.2.1&&(a.2.2.2.2.2.2.2.2.2.2.2.1==a.2.2.2.2.2.2.2.2.2.2.2.1&&(a.2.2.2.2.2.2.2.2.2.2.2.2.1==a.2.2.2.2.2.2.2.2.2.2.2.2.1&&(a.2.2.2.2.2.2.2.2.2.2.2.2.2.1==a.2.2.2.2.2.2.2.2.2.2.2.2.2.1&&(a.2.2.2.2.2.2.2.2.2.2.2.2.2.2.1==a.2.2.2.2.2.2.2.2.2.2.2.2.2.2.1&&(a.2.2.2.2.2.2.2.2.2.2.2.2.2.2.2.1==a.2.2.2.2.2.2.2.2.2.2.2.2.2.2.2.1&&(a.2.2.2.2.2.2.2.2.2.2.2.2.2.2.2.2.1==a.2.2.2.2.2.2.2.2.2.2.2.2.2.2.2.2.1&&(a.2.2.2.2.2.2.2.2.2.2.2.2.2.2.2.2.2.1==a.2.2.2.2.2.2.2.2.2.2.2.2.2.2.2.2.2.1&&a.2.2.2.2.2.2.2.2.2.2.2.2.2.2.2.2.2.2.1==a.2.2.2.2.2.2.2.2.2.2.2.2.2.2.2.2.2.2.1))))))))))))))))),()⟩) (Q ⟨0,false,()⟩)) (Q ⟨0,false,()⟩)))) (by
 clear a b c e ep hi j k lo m n o pub sec t ts us x α β
 conv=>zeta
 unfold Br bg;rintro⟨k,a,c,g,h,r,x,i,j,l,m,n,fc,o,p,q,s,t,v,⟨⟩⟩ Q ⟨_,b⟩;dsimp only at*;have f:∀y:Bool,gT (k,a,c,g,h,r,x,i,j,l,m,n,fc,o,p,q,s,t,v,())=y->Q ⟨0,(y,())⟩:=λy e=>by rw[<-e];exact b
 clear b
 (repeat' (first|apply ck|intro _))<;>(try simp only[ai,aj,aS,aC,ne_eq,aR,aN,cm,bR]at*)<;>first
  |assumption
  |(exact f _ (by clear f;grind[gT,ur]))
  |omega
  |exact trivial)
def GH:Ct:=⟨2,⟨[sB 0,(1,false,[.d (.sl .i64)])],[]⟩,[⟨[(0,false,[.d tB])],[]⟩],λ(b,l,_)=>one (b.length+7*l.length<=1000000000) (b++fl vn l,())⟩
def Xe:cx:=⟨[sB 0,(7,false,[.d (.sl .i64)]),sI 8,sI 9],[]⟩
def LF(x:GH.inp.den)(y:Xe.den):Prop:=match x,y with
 |(c,a,_),(b,l,n,i,_)=>l=a/\n=a.length/\∃k:Nat,i=k/\k<=a.length/\b=c++fl vn (a.take k)
def a5h(x:GH.inp.den):eH:=⟨[(2,bS Xe (LF x) λ(_,_,n,i,_)=>(n-i).toNat)],[],[],[],0⟩
theorem GI(f:α->BL)(l m:List α):fl f (l++m)=fl f l++fl f m:=by simp[fl]
theorem GJ{f:α->BL}(h:∀x,(f x).length<=n)(l:List α):(fl f l).length<=n*l.length:=by
 induction l with
 |nil=>simp[fl]
 |cons x l a=>have:=h x;simp only[fl,aY,List.flatten_cons,aa,bc]at*;rw[Nat.mul_succ];omega
def Xf:bG:=(159,[GH])::Xc
def Xg:=kA 159 GH Xd a5h (∀(d:BL)(b:List Int)Q,bg GH (d,b,()) Q->Is (LF (d,b,()) (d,b,nI b,0,()))/\∀(e:BL)(f:List Int)(c a:Int),LF (d,b,()) (e,f,c,a,())->Bd (a<c) (iN a f/\e.length<=1099511627776/\am (a+1)/\Is (LF (d,b,()) (e++vn (gD f a 0),f,c,a+1,())/\lN (c-(a+1)) (c-a))) (Q ⟨0,e,()⟩)) (by
 unfold Bd gD iN lN nI bg;rintro b l Q ⟨j,g⟩;refine⟨⟨rfl,rfl,0,rfl,aq _,by simp[fl]⟩,?_⟩;rintro m f n i ⟨rfl,rfl,k,rfl,o,rfl⟩;have h:=GJ bC (f.take k);rw[bd]at h;refine⟨λc=>?_,λe=>?_⟩
 ·have a:k<f.length:=by simp only[ai]at c;omega
  refine⟨ac,by rw[aa];omega,cv,⟨rfl,rfl,k+1,rfl,a,?_⟩,ac⟩;rw[show((k:Int).toNat)=k by omega,di (z:=(0:Int)) a,GI,ay];simp[fl]
 ·simp only[aj]at e;rw[bb ac];exact g)
theorem fl2(a b:Int):fl vn [a,b]=vn a++vn b:=by simp[fl]
theorem fl4(a b c d:Int):fl vn [a,b,c,d]=vn a++vn b++vn c++vn d:=by simp[fl]
abbrev tAn:Ty:= .pr .i64 (.pr .i64 (.pr .bl .un))
def GK(a c:Int)(b:Bool):BL:=vn a++vn c++bn b
def LG:Ct:=⟨2,⟨[sB 0,(1,true,[.d tAn])],[]⟩,[⟨[(0,false,[.d tB])],[]⟩],λ(b,(a,c,h,_),_)=>one (b.length+14<=1000000000) (b++GK a c h,())⟩
def Xh:bG:=(160,[LG])::Xf
def Xi:=kA 160 LG Xg (cQ LG 0) (∀(b:BL)(a:Int×Int×Bool×Unit)Q,bg LG (b,a,()) Q->b.length+7*2<=1000000000/\(b++fl vn [a.1,a.2.1]).length<=1099511627776/\Q ⟨0,b++fl vn [a.1,a.2.1]++vn (if a.2.2.1=true then 1 else 0),()⟩) (by
 unfold bg;rintro b ⟨a,c,h,⟨⟩⟩ Q ⟨i,f⟩;dsimp only at*;have g:∀y:BL,y=b++GK a c h->Q ⟨0,(y,())⟩:=λy e=>by rw[e];exact f
 have j:=bC a;have l:=bC c;rw[fl2];simp only[aa];refine⟨ac,ac,g _ ?_⟩;simp only[GK,bn,ay])
def CA(o:Op):Prop:=am o.2.2.2.2.2.2.1
def GL:Ct:=⟨2,⟨[sB 0,(1,false,[.d (.sl lu)])],[]⟩,[⟨[(0,false,[.d tB])],[]⟩],λ(b,l,_)=>one (b.length+100*l.length<=1000000000/\∀o∈l,CA o) (b++cE l,())⟩
def Xj:cx:=⟨[sB 0,(13,false,[.d (.sl lu)]),sI 14,sI 15],[]⟩
def wB(x:GL.inp.den)(y:Xj.den):Prop:=match x,y with
 |(c,a,_),(b,l,n,i,_)=>l=a/\n=a.length/\∃k:Nat,i=k/\k<=a.length/\b=c++(vn a.length++fl JM (a.take k))
def a5i(x:GL.inp.den):eH:=⟨[(3,bS Xj (wB x) λ(_,_,n,i,_)=>(n-i).toNat)],[],[],[],0⟩
def CB:Op:=(0,0,0,0,0,false,0,0,0,0,0,0,0,false,0,0,false,0,0,())
theorem GM(b:Bool):(bn b).length<=7:=bC _
theorem LH(o:Op):(JM o).length<=77:=by
 obtain⟨k,a,c,e,f,r,x,g,i,j,l,m,fc,n,p,q,s,t,v,⟨⟩⟩:=o;have h:=bC;have b:=GM;unfold JM;dsimp only;have u:=h k;split
 ·have:=h a;have:=h c;have:=h e;have:=h f;have:=b r;have:=h x;simp only[aa];omega
 split
 ·have:=h g;have:=h i;simp only[aa];omega
 split
 ·have:=h j;have:=h l;have:=h m;have:=h fc;have:=b n;have:=h p;have:=h q;have:=b s;have:=h t;have:=h v;simp only[aa];omega
 ·simp only[aa,dx];omega
def Xk:bG:=(119,[GL])::Xh
def Xl:=kA 119 GL Xi a5i (∀(f:BL)(e:List Op)Q,bg GL (f,e,()) Q->f.length<=1099511627776/\Is (wB (f,e,()) (f++vn (nI e),e,nI e,0,()))/\∀(c:BL)(b:List Op)(d a:Int),let z:=c++vn (gD b a zO).1;wB (f,e,()) (c,b,d,a,())->Bd (a<d) (iN a b/\c.length<=1099511627776/\Br ((gD b a zO).1==1) (z.length+7*4<=1000000000/\(c++vn (gD b a zO).1++fl vn [(gD b a zO).2.1,(gD b a zO).2.2.1,(gD b a zO).2.2.2.1,(gD b a zO).2.2.2.2.1]).length<=1099511627776/\am (gD b a zO).2.2.2.2.2.2.1/\(c++vn (gD b a zO).1++fl vn [(gD b a zO).2.1,(gD b a zO).2.2.1,(gD b a zO).2.2.2.1,(gD b a zO).2.2.2.2.1]++vn (if(gD b a zO).2.2.2.2.2.1=true then 1 else 0)).length<=1099511627776/\am (a+1)/\Is (wB (f,e,()) (c++vn (gD b a zO).1++fl vn [(gD b a zO).2.1,(gD b a zO).2.2.1,(gD b a zO).2.2.2.1,(gD b a zO).2.2.2.2.1]++vn (if(gD b a zO).2.2.2.2.2.1=true then 1 else 0)++vn (gD b a zO).2.2.2.2.2.2.1,b,d,a+1,())/\lN (d-(a+1)) (d-a))) (Br ((gD b a zO).1==2) (z.length+7*2<=1000000000/\am (a+1)/\Is (wB (f,e,()) (c++vn (gD b a zO).1++fl vn [(gD b a zO).2.2.2.2.2.2.2.1,(gD b a zO).2.2.2.2.2.2.2.2.1],b,d,a+1,())/\lN (d-(a+1)) (d-a))) (Br ((gD b a zO).1==3) (z.length+7*2<=1000000000/\(c++vn (gD b a zO).1++fl vn [(gD b a zO).2.2.2.2.2.2.2.2.2.1,(gD b a zO).2.2.2.2.2.2.2.2.2.2.1]).length+14<=1000000000/\(c++vn (gD b a zO).1++fl vn [(gD b a zO).2.2.2.2.2.2.2.2.2.1,(gD b a zO).2.2.2.2.2.2.2.2.2.2.1]++GK (gD b a zO).2.2.2.2.2.2.2.2.2.2.2.1 (gD b a zO).2.2.2.2.2.2.2.2.2.2.2.2.1 (gD b a zO).2.2.2.2.2.2.2.2.2.2.2.2.2.1).length+14<=1000000000/\(c++vn (gD b a zO).1++fl vn [(gD b a zO).2.2.2.2.2.2.2.2.2.1,(gD b a zO).2.2.2.2.2.2.2.2.2.2.1]++GK (gD b a zO).2.2.2.2.2.2.2.2.2.2.2.1 (gD b a zO).2.2.2.2.2.2.2.2.2.2.2.2.1 (gD b a zO).2.2.2.2.2.2.2.2.2.2.2.2.2.1++GK (gD b a zO).2.2.2.2.2.2.2.2.2.2.2.2.2.2.1 (gD b a zO).2.2.2.2.2.2.2.2.2.2.2.2.2.2.2.1 (gD b a zO).2.2.2.2.2.2.2.2.2.2.2.2.2.2.2.2.1).length+7*2<=1000000000/\am (a+1)/\Is (wB (f,e,()) (c++vn (gD b a zO).1++fl vn [(gD b a zO).2.2.2.2.2.2.2.2.2.1,(gD b a zO).2.2.2.2.2.2.2.2.2.2.1]++GK (gD b a zO).2.2.2.2.2.2.2.2.2.2.2.1 (gD b a zO).2.2.2.2.2.2.2.2.2.2.2.2.1 (gD b a zO).2.2.2.2.2.2.2.2.2.2.2.2.2.1++GK (gD b a zO).2.2.2.2.2.2.2.2.2.2.2.2.2.2.1 (gD b a zO).2.2.2.2.2.2.2.2.2.2.2.2.2.2.2.1 (gD b a zO).2.2.2.2.2.2.2.2.2.2.2.2.2.2.2.2.1++fl vn [(gD b a zO).2.2.2.2.2.2.2.2.2.2.2.2.2.2.2.2.2.1,(gD b a zO).2.2.2.2.2.2.2.2.2.2.2.2.2.2.2.2.2.2.1],b,d,a+1,())/\lN (d-(a+1)) (d-a))) (am (a+1)/\Is (wB (f,e,()) (c++vn (gD b a zO).1,b,d,a+1,())/\lN (d-(a+1)) (d-a)))))) (Q ⟨0,c,()⟩)) (by
 conv=>zeta
 unfold Bd Br gD iN lN nI bg zO;rintro b l Q ⟨⟨h1,G⟩,H⟩;have v0:=bC l.length;refine⟨ac,⟨rfl,rfl,0,rfl,aq _,by simp[fl]⟩,?_⟩;rintro b1 f n i ⟨rfl,rfl,k,rfl,hk,rfl⟩;have J:=GJ LH (f.take k);rw[bd]at J;refine⟨λC=>?_,λD=>?_⟩
 ·have j:k<f.length:=by simp only[ai]at C;omega
  rw[show((k:Int).toNat)=k by omega];have E:=G _ (aV (z:=CB) j);have K:wB (b,f,()) (b++(vn f.length++fl JM (f.take k))++JM (f.getD k CB),f,(f.length:Int),(k:Int)+1,()):=⟨rfl,rfl,k+1,rfl,j,by rw[di (z:=CB) j,GI];simp[fl]⟩;have hL:(b++(vn f.length++fl JM (f.take k))).length<=999999910:=by simp only[aa];omega
  have L:(0,0,0,0,0,false,0,0,0,0,0,0,0,false,0,0,false,0,0,())=CB:=rfl;rw[L];generalize f.getD k CB=o at*;obtain⟨M,a,c,N,O,r,x,P,R,S,U,W,fc,X,Y,tc,tb,nm,v,⟨⟩⟩:=o;generalize b++(vn f.length++fl JM (f.take k))=z at*;have w:am ((k:Int)+1):=cv
  have A:((f.length:Int)-((k:Int)+1)).toNat<((f.length:Int)-(k:Int)).toNat:=ac
  clear J h1 H G L;have E:am x:=E;dsimp only;have h:=bC;have g:=GM;have h0:=h M;have m:∀y,y=z++JM (M,a,c,N,O,r,x,P,R,S,U,W,fc,X,Y,tc,tb,nm,v,())->wB (b,f,()) (y,f,(f.length:Int),(k:Int)+1,()):=λy e=>by rw[e];exact K
  clear K;unfold JM at m;simp only[fl2,fl4,aS,aC,ne_eq,aa];have e1:=h a;have e2:=h c;have e3:=h N;have e4:=h O;have e5:=g r;have e6:=h x;have e7:=h P;have e8:=h R;have e9:=h S;have a0:=h U;have t:∀p q s,(GK p q s).length<=21:=λp q s=>by have:=h p;have:=h q;have:=g s;unfold GK;simp only[aa];omega
  have a1:=t W fc X;have a2:=t Y tc tb;have a3:=h nm;have a4:=h v;unfold bn at e5;refine⟨ac,ac,λu=>⟨ac,ac,E,ac,w,m _ ?_,A⟩,λu=>⟨λB=>⟨ac,w,m _ ?_,A⟩,λB=>⟨λF=>?_,λF=>?_⟩⟩⟩
  ·dsimp only;rw[ak u];simp only[bn,ay]
  ·dsimp only;rw[ae u,ak B];simp only[ay]
  ·refine⟨ac,ac,ac,ac,w,m _ ?_,A⟩;dsimp only;rw[ae u,ae B,ak F];simp only[GK,ay]
  ·exact⟨w,m _ (by dsimp only;rw[ae u,ae B,ae F,aH]),A⟩
 ·simp only[aj]at D;rw[bb ac];exact H)
def ut(b:BL)(m:Bool)(s:Rs):ID×Rs:=lk b<|
 let a:=dn b s.1 m s.2 0 4
 let c:=dn b a.2.1 m a.2.2 0 1099511627776
 ((a.1,c.1,()),c.2)
def LI:Ct:=⟨1,⟨[sP 0],rH⟩,[⟨[(0,true,[.d cw])],rH⟩],λ(b,a,m,e,_)=>dZ (bZ b a) (ut b m (a,e)) λy=>(y.1,b,y.2.1,m,y.2.2,())⟩
def Xm:bG:=(220,[LI])::Xk
def Xn:=kA 220 LI Xl (cQ LI 0) (∀(a:BL)(e:Int)(d:Bool)(f:Int)Q,bg LI (a,e,d,f,()) Q->bZ a e/\∀b,b=dn a e d f 0 4->bZ a b.2.1/\∀c,c=dn a b.2.1 d b.2.2 0 1099511627776->Q ⟨0,(b.1,c.1,()),a,c.2.1,d,c.2.2,()⟩) (by
 unfold bg;intro b a m e Q ⟨g,i⟩;have f:∀y,ut b m (a,e)=y->Q ⟨0,(y.1,b,y.2.1,m,y.2.2,())⟩:=λy h=>i y h.symm;clear i;unfold ut at f;rw[bN]at f;refine⟨g,λk j=>⟨?_,λc n=>?_⟩⟩
 ·rw[j];exact(fx m e 0 4 g).1
 ·subst n j;exact f _ rfl) (l:=λ_=>bA)
theorem QF(m:Bool)(e:Int)(h:bZ b a):bZ b (ut b m (a,e)).2.1:=by
 unfold ut;rw[bN];exact(fx m _ 0 1099511627776 (fx m e 0 4 h).1).1
def zN(b:BL)(m:Bool)(s:Rs):tAn.den×Rs:=lk b<|
 let i:=ut b m s
 let f:=dn b i.2.1 m i.2.2 0 1
 ((i.1.1,i.1.2.1,f.1==1,()),f.2)
def LJ:Ct:=⟨1,⟨[sP 0],rH⟩,[⟨[(0,true,[.d tAn])],rH⟩],λ(b,a,m,e,_)=>dZ (bZ b a) (zN b m (a,e)) λy=>(y.1,b,y.2.1,m,y.2.2,())⟩
def Xo:bG:=(222,[LJ])::Xm
def Xp:=kA 222 LJ Xn (cQ LJ 0) (∀(a:BL)(d:Int)(c:Bool)(e:Int)Q,bg LJ (a,d,c,e,()) Q->bZ a d/\∀b,let z:=dn a b.2.1 c b.2.2 0 1;b=ut a c (d,e)->bZ a b.2.1/\Q ⟨0,(b.1.1,b.1.2.1,z.1==1,()),a,z.2.1,c,z.2.2,()⟩) (by
 conv=>zeta
 unfold bg;intro b a m e Q ⟨f,g⟩;have c:∀y,zN b m (a,e)=y->Q ⟨0,(y.1,b,y.2.1,m,y.2.2,())⟩:=λy h=>g y h.symm;clear g;unfold zN at c;rw[bN]at c;refine⟨f,λk i=>⟨?_,?_⟩⟩
 ·rw[i];exact QF m e f
 ·subst i;exact c _ rfl) (l:=λ_=>bA)
def AS(b:BL)(m:Bool)(s:Rs):Op×Rs:=
 let k:=dn b s.1 m s.2 1 3
 if k.1=1 then
  let i:=ut b m k.2
  let p:=ut b m i.2
  let f:=dn b p.2.1 m p.2.2 0 1
  let x:=dn b f.2.1 m f.2.2 0 1114111
  ((k.1,i.1.1,i.1.2.1,p.1.1,p.1.2.1,f.1==1,IntKind.i32.wrap x.1,0,0,0,0,0,0,false,0,0,false,0,0,()),x.2)
 else if k.1=2 then
  let i:=ut b m k.2
  ((k.1,0,0,0,0,false,0,i.1.1,i.1.2.1,0,0,0,0,false,0,0,false,0,0,()),i.2)
 else if k.1=3 then
  let c:=dn b k.2.1 m k.2.2 0 1099511627776
  let u:=dn b c.2.1 m c.2.2 0 4
  let f:=zN b m u.2
  let t:=zN b m f.2
  let n:=dn b t.2.1 m t.2.2 0 1099511627776
  let v:=dn b n.2.1 m n.2.2 0 1099511627776
  ((k.1,0,0,0,0,false,0,0,0,c.1,u.1,f.1.1,f.1.2.1,f.1.2.2.1,t.1.1,t.1.2.1,t.1.2.2.1,n.1,v.1,()),v.2)
 else((k.1,0,0,0,0,false,0,0,0,0,0,0,0,false,0,0,false,0,0,()),k.2)
def Ei(b:BL)(m:Bool)(s:Rs):Op×Rs:=lk b<|
 let x:=AS b m s
 (x.1,x.2.1,if gT x.1=true then x.2.2 else if(m&&x.2.2==0)=true then 5 else x.2.2)
theorem anA(m:Bool)(e:Int)(h:bZ b a):bZ b (zN b m (a,e)).2.1:=by
 unfold zN;rw[bN];exact(fx m _ 0 1 (QF m e h)).1
theorem a5j(m:Bool)(e:Int)(h:bZ b a):bZ b (AS b m (a,e)).2.1:=by
 have c:=(fx m e 1 3 h).1;unfold AS;dsimp only;generalize dn b a m e 1 3=k at*;split
 ·exact(fx m _ 0 1114111 (fx m _ 0 1 (QF m _ (QF m _ c))).1).1
 split
 ·exact QF m _ c
 split
 ·exact(fx m _ 0 1099511627776 (fx m _ 0 1099511627776 (anA m _ (anA m _ (fx m _ 0 4 (fx m _ 0 1099511627776 c).1).1))).1).1
 ·exact c
theorem Xq(m:Bool)(e:Int)(h:bZ b a):bZ b (Ei b m (a,e)).2.1:=by
 unfold Ei;rw[bN];exact a5j m e h
theorem mV(h:e≠0):(dn b a m e lo hi).2.2=e:=by
 unfold dn;rw[ae (by simp[h])]
theorem CC(h:e≠0):(ut b m (a,e)).2.2=e:=by
 unfold ut;rw[bN];have c:(dn b a m e 0 4).2.2=e:=mV h;exact(mV (by rw[c];exact h)).trans c
theorem LK(h:e≠0):(zN b m (a,e)).2.2=e:=by
 unfold zN;rw[bN];have c:(ut b m (a,e)).2.2=e:=CC h;exact(mV (by rw[c];exact h)).trans c
theorem CD(h:e≠0):(Ei b m (a,e)).2.2=e:=by
 have f:(AS b m (a,e)).2.2=e:=by
  have f:(dn b a m e 1 3).2.2=e:=mV h;unfold AS;dsimp only;generalize dn b a m e 1 3=k at*;have j:k.2.2≠0:=by rw[f];exact h
  have R:∀(s:Rs)(g i:Int),s.2=e->(dn b s.1 m s.2 g i).2.2=e:=λs g i c=>(mV (by rw[c];exact h)).trans c;have D:∀s:Rs,s.2=e->(ut b m s).2.2=e:=λs c=>(CC (a:=s.1) (e:=s.2) (by rw[c];exact h)).trans c;have A:∀s:Rs,s.2=e->(zN b m s).2.2=e:=λs c=>(LK (a:=s.1) (e:=s.2) (by rw[c];exact h)).trans c;split
  ·exact R _ _ _ (R _ _ _ (D _ (D _ f)))
  split
  ·exact D _ f
  split
  ·exact R _ _ _ (R _ _ _ (A _ (A _ (R _ _ _ (R _ _ _ f)))))
  ·exact f
 unfold Ei;rw[bN];dsimp only;rw[f];split
 ·rfl
 ·rw[ae (by simp[h])]
def LL:Ct:=⟨1,⟨[sP 0],rH⟩,[⟨[(0,true,[.d lu])],rH⟩],λ(b,a,m,e,_)=>dZ (bZ b a) (Ei b m (a,e)) λy=>(y.1,b,y.2.1,m,y.2.2,())⟩
def Xr:bG:=(215,[LL])::Xo
def Xs:=kA 215 LL Xp (cQ LL 0) (∀(a:BL)(j:Int)(e:Bool)(k:Int)Q,bg LL (a,j,e,k,()) Q->bZ a j/\∀b,let m:= !gT (b.1,0,0,0,0,false,0,0,0,0,0,0,0,false,0,0,false,0,0,());b=dn a j e k 1 3->Br (b.1==1) (bZ a b.2.1/\∀c,c=ut a e b.2->bZ a c.2.1/\∀d,let l:=dn a d.2.1 e d.2.2 0 1;d=ut a e c.2->bZ a d.2.1/\bZ a l.2.1/\∀f,let n:= !gT (b.1,c.1.1,c.1.2.1,d.1.1,d.1.2.1,l.1==1,IntKind.i32.wrap f.1,0,0,0,0,0,0,false,0,0,false,0,0,());f=dn a l.2.1 e l.2.2 0 1114111->True/\Br n (True/\Q ⟨0,(b.1,c.1.1,c.1.2.1,d.1.1,d.1.2.1,l.1==1,IntKind.i32.wrap f.1,0,0,0,0,0,0,false,0,0,false,0,0,()),a,f.2.1,e,if(e&&f.2.2==0)=true then 5 else f.2.2,()⟩) (Q ⟨0,(b.1,c.1.1,c.1.2.1,d.1.1,d.1.2.1,l.1==1,IntKind.i32.wrap f.1,0,0,0,0,0,0,false,0,0,false,0,0,()),a,f.2.1,e,f.2.2,()⟩)) (Br (b.1==2) (bZ a b.2.1/\∀c,let o:= !gT (b.1,0,0,0,0,false,0,c.1.1,c.1.2.1,0,0,0,0,false,0,0,false,0,0,());c=ut a e b.2->True/\Br o (True/\Q ⟨0,(b.1,0,0,0,0,false,0,c.1.1,c.1.2.1,0,0,0,0,false,0,0,false,0,0,()),a,c.2.1,e,if(e&&c.2.2==0)=true then 5 else c.2.2,()⟩) (Q ⟨0,(b.1,0,0,0,0,false,0,c.1.1,c.1.2.1,0,0,0,0,false,0,0,false,0,0,()),a,c.2.1,e,c.2.2,()⟩)) (Br (b.1==3) (bZ a b.2.1/\∀c,c=dn a b.2.1 e b.2.2 0 1099511627776->bZ a c.2.1/\∀d,d=dn a c.2.1 e c.2.2 0 4->bZ a d.2.1/\∀f,f=zN a e d.2->bZ a f.2.1/\∀g,g=zN a e f.2->bZ a g.2.1/\∀i,i=dn a g.2.1 e g.2.2 0 1099511627776->bZ a i.2.1/\∀h,let z:=(c.1,d.1,f.1.1,f.1.2.1,f.1.2.2.1,g.1.1,g.1.2.1,g.1.2.2.1,i.1,h.1,());let p:= !gT (b.1,0,0,0,0,false,0,0,0,z);h=dn a i.2.1 e i.2.2 0 1099511627776->True/\Br p (True/\Q ⟨0,(b.1,0,0,0,0,false,0,0,0,z),a,h.2.1,e,if(e&&h.2.2==0)=true then 5 else h.2.2,()⟩) (Q ⟨0,(b.1,0,0,0,0,false,0,0,0,z),a,h.2.1,e,h.2.2,()⟩)) (True/\Br m (True/\Q ⟨0,(b.1,0,0,0,0,false,0,0,0,0,0,0,0,false,0,0,false,0,0,()),a,b.2.1,e,if(e&&b.2.2==0)=true then 5 else b.2.2,()⟩) (Q ⟨0,(b.1,0,0,0,0,false,0,0,0,0,0,0,0,false,0,0,false,0,0,()),a,b.2.1,e,b.2.2,()⟩))))) (by
 conv=>zeta
 unfold Br bg;intro b a m e Q ⟨E,F⟩;have G:∀y,Ei b m (a,e)=y->Q ⟨0,(y.1,b,y.2.1,m,y.2.2,())⟩:=λy h=>F y h.symm;clear F
 have fin:∀(o:Op)(s:Rs),AS b m (a,e)=(o,s)->True/\((!gT o)=true->True/\Q ⟨0,(o,b,s.1,m,if(m&&s.2==0)=true then 5 else s.2,())⟩)/\((!gT o)=false->Q ⟨0,(o,b,s.1,m,s.2,())⟩):=by
  intro o s h
  have N:Ei b m (a,e)=(o,s.1,if gT o=true then s.2 else if(m&&s.2==0)=true then 5 else s.2):=by
   unfold Ei;rw[bN,h]
  have:=G _ N;refine⟨trivial,λg=>⟨trivial,?_⟩,λg=>?_⟩
  ·simp only[aR]at g;rw[g,ae bt]at this;exact this
  ·simp only[aN]at g;rw[ak g]at this;exact this
 clear G;unfold AS at fin;dsimp only at fin;refine⟨E,λk H=>?_⟩;have r:=(fx m e 1 3 E).1;rw[<-H]at r fin;clear H;refine⟨λc=>⟨r,λi A=>?_⟩,λc=>⟨λw=>⟨r,λi A=>?_⟩,λw=>⟨λz=>⟨r,λx B=>?_⟩,λz=>?_⟩⟩⟩
 ·have c:=bz c;have j:=QF m k.2.2 r;rw[ak c]at fin;rw[show ut b m k.2=i from A.symm]at fin;rw[show ut b m (k.2.1,k.2.2)=i from A.symm]at j;refine⟨j,λp J=>?_⟩;have q:=QF m i.2.2 j;rw[show ut b m i.2=p from J.symm]at fin;rw[show ut b m (i.2.1,i.2.2)=p from J.symm]at q;refine⟨q,(fx m _ 0 1 q).1,λx B=>?_⟩;subst B;exact fin _ _ rfl
 ·have w:=bz w;subst A;exact fin _ _ (by rw[ae (aL c),ak w])
 ·have z:=bz z;rw[ae (aL c),ae (aL w),ak z]at fin;have j:=(fx m k.2.2 0 1099511627776 r).1;rw[<-B]at j fin;refine⟨j,λu O=>?_⟩;have q:=(fx m x.2.2 0 4 j).1;rw[<-O]at q fin;refine⟨q,λf K=>?_⟩;have C:=anA m u.2.2 q;rw[show zN b m u.2=f from K.symm]at fin;rw[show zN b m (u.2.1,u.2.2)=f from K.symm]at C;refine⟨C,λt L=>?_⟩;have D:=anA m f.2.2 C;rw[show zN b m f.2=t from L.symm]at fin;rw[show zN b m (f.2.1,f.2.2)=t from L.symm]at D;refine⟨D,λn P=>?_⟩;have M:=(fx m t.2.2 0 1099511627776 D).1;rw[<-P]at M fin;refine⟨M,λv R=>?_⟩;subst R;exact fin _ _ rfl
 ·exact fin _ _ (by rw[ae (aL c),ae (aL w),ae (aL z)])) (l:=λ_=>bA)
def AT(b:BL)(a:Int)(m:Bool)(e c:Int)(y:List Op×Int×Int):Prop:=bZ b y.2.1/\(y.1.length:Int)<=c/\(b=cE [jr]->a=0->m=true->e=0->c=64->y=([jr],(b.length:Int),0))/\(e≠0->y.2.2=e)
def Ej:Ct:=⟨2,⟨[sP 0,sI 1],rH⟩,[⟨[(0,false,[.d (.sl lu)])],rH⟩],λ(c,b,a,m,e,_)=>fJ (bZ b a/\0<=c/\c<=4096) (AT b a m e c) λy=>(y.1,b,y.2.1,m,y.2.2,())⟩
theorem LM:∀o∈[jr],CA o:=by
 intro o a;simp at a;subst a;unfold CA am;decide
theorem LN(m:Bool)(e:Int)(h:bZ b a)(h0:0<=lo):∃y,AT b a m e lo y:=by
 by_cases g:b=cE [jr]/\lo=64/\e=0
 ·exact⟨([jr],(b.length:Int),0),by unfold bZ at*;dsimp only;omega,eM,λ_ _ _ _ _=>rfl,λf=>absurd g.2.2 f⟩
 ·exact⟨([],a,e),h,eM,λi _ _ j l=>absurd ⟨i,l,j⟩ g,λ_=>rfl⟩
def TM(b:BL)(m:Bool):Nat->Rs->List Op->List Op×Rs
 |0,s,a=>(a,s)
 |k+1,s,a=>if(if m then(Ei b m s).2.2 else 5)≠0 then([],(Ei b m s).2)else TM b m k (Ei b m s).2 (a++[(Ei b m s).1])
def lpF(b:BL)(m:Bool)(s:Rs)(a:Int):List Op×Rs:=TM b m (dn b s.1 m s.2 0 a).1.toNat (dn b s.1 m s.2 0 a).2 []
def Xt:cx:=⟨[sP 0,sO 5 1,sI 8,sI 9],rH++[some (.sl lu)]⟩
def LO(x:Ej.inp.den)(y:Xt.den):Prop:=match x,y with
 |(c,f,j,g,h,_),(n,i,b,a,m,e,v,_)=>b=f/\m=g/\bZ f a/\∃q k:Nat,n=q/\(q:Int)<=c/\i=k/\k<=q/\v.length=k/\(h≠0->e=h)/\TM f g (q-k) (a,e) v=lpF f g (j,h) c
def a5k(x:Ej.inp.den):eH:=⟨[(3,bS Xt (LO x) λ(n,i,_)=>(n-i).toNat)],[],[],[],0⟩
theorem CE:lpF (cE [jr]) true (0,0) 64=([jr],((cE [jr]).length:Int),0):=dC
abbrev QG(v:List Op×BL×Int×Bool×Int×Unit):cF Ej.out:=⟨0,v⟩
def Xu:bG:=(200,[Ej])::Xr
def Xv:=kA 200 Ej Xs a5k (∀(c:Int)(a:BL)(d:Int)(e:Bool)(j:Int)(Q:cF Ej.out->Prop),let n:=(c,a,d,e,j,());(Tr.need (bZ a d/\0<=c/\c<=4096) (Tr.all (List Op×Int×Int) (AT a d e j c) λy=>Tr.leaf (QG (y.1,a,y.2.1,e,y.2.2,())))).sat Q->bZ a d/\∀b,b=dn a d e j 0 c->Is (LO n (b.1,0,a,b.2.1,e,b.2.2,[],()))/\∀(h f:Int)(i:BL)(k:Int)(g:Bool)(m:Int)(l:List Op),LO n (h,f,i,k,g,m,l,())->Bd (f<h) (bZ i k/\∀b,let z:= !(if g=true then b.2.2 else 5)==0;b=Ei i g (k,m)->(l.length+1)*144<=mM/\True/\Br z (Q ⟨0,[],i,b.2.1,g,b.2.2,()⟩) (am (f+1)/\Is (LO n (h,f+1,i,b.2.1,g,b.2.2,l++[b.1],())/\lN (h-(f+1)) (h-f)))) (Q ⟨0,l,i,k,g,m,()⟩)) (by
 conv=>zeta
 unfold Bd Br lN mM;intro most b a m e Q ⟨⟨h1,h2,h3⟩,hQ⟩;have hq:∀(l:List Op)(a' e':Int),AT b a m e most (l,a',e')->Q ⟨0,(l,b,a',m,e',())⟩:=λl a' e' h=>hQ (l,a',e') h;clear hQ;have hn:=fx m e 0 most h1;refine⟨h1,λn hn'=>⟨?_,?_⟩⟩
 ·subst hn';refine⟨rfl,rfl,hn.1,(dn b a m e 0 most).1.toNat,0,(qJ hn.2.2.1).symm,by have:=hn.2.2.2;have:=qJ hn.2.2.1;omega,rfl,aq _,rfl,λh=>mV h,rfl⟩
 clear hn';intro n i b1 a1 m1 e1 v ⟨g1,g2,g3,q,k,g4,hm,g5,hk,g6,g7,g8⟩;subst g1 g2 g4 g5
 have tiny:∀l:List Op,lpF b1 m1 (a,e) most=(l,(a1,e1))->(b1=cE [jr]->a=0->m1=true->e=0->most=64->(l,a1,e1)=([jr],(b1.length:Int),0)):=by
  intro l hl h1 h2 h3 h4 h5;subst h1 h2 h3 h4 h5;rw[CE]at hl;exact hl.symm
 refine⟨λhlt=>?_,λhge=>?_⟩
 ·have hkq:k<q:=by simp only[ai]at hlt;omega
  refine⟨g3,λo ho=>⟨ac,trivial,λc=>?_,λc=>?_⟩⟩
  ·have hr:=Xq m1 e1 g3;rw[<-ho]at hr;obtain⟨j,hj⟩:∃j,q-k=j+1:=⟨q-k-1,ac⟩;rw[hj]at g8;simp only[TM]at g8;rw[<-ho,ak (by simp only[aR]at c;intro h;rw[h]at c;cases c)]at g8;refine hq _ _ _ ⟨hr,eM,λx1 x2 x3 x4 x5=>?_,λhe=>?_⟩
   ·subst x1 x2 x3 x4 x5;rw[CE]at g8;exact absurd (aI Prod.fst g8) bY
   ·rw[ho];have:=CD (b:=b1) (a:=a1) (m:=m1) (e:=e1) (by rw[g7 he];exact he);rw[this];exact g7 he
  ·have hr:=Xq m1 e1 g3;rw[<-ho]at hr;obtain⟨j,hj⟩:∃j,q-k=j+1:=⟨q-k-1,ac⟩;rw[hj]at g8;simp only[TM]at g8;rw[<-ho,ae (by simp only[aN]at c;intro h;exact h (bz c))]at g8;refine⟨cv,⟨rfl,rfl,hr,q,k+1,rfl,hm,rfl,hkq,eM,λhe=>?_,?_⟩,ac⟩
   ·rw[ho];have:=CD (b:=b1) (a:=a1) (m:=m1) (e:=e1) (by rw[g7 he];exact he);rw[this];exact g7 he
   ·rw[show q-(k+1)=j by omega];exact g8
 ·have hkq:q-k=0:=by simp only[aj]at hge;omega
  rw[hkq]at g8;simp only[TM]at g8;exact hq _ _ _ ⟨g3,by show(v.length:Int)<=most;omega,tiny v g8.symm,g7⟩) (l:=λ_=>aU λh=>LN _ _ h.1 h.2.1)
end Go.Tp
