/- A part of the proof of TopSealedSaid: no conditions; packed by a program of our own. -/
import Derived.Test.YtgpideichgnmhaaGreatPbaj
open And renaming intro→cc
open BitVec renaming ofNat→ae
open Bool renaming and_eq_true→aI,false_eq_true→cu,true_and→fp,not_eq_true'→aP,not_eq_true→cd,not_eq_false'→aK,not_eq_false→bW
open Decidable renaming not_not→aC
open HAdd renaming hAdd→eU
open HSub renaming hSub→bv
open Int renaming toNat_natCast→aF,le_refl→bY
open LE renaming le→bc
open LT renaming lt→lB
open List renaming replicate→ak,length_append→aa,length_cons→ba,mem_append→bb,drop_of_length_le→bC,take_of_length_le→bf,getElem?_eq_getElem→ap,getD→bB,length→ah,getD_eq_getElem?_getD→aw,getElem?_eq_none→bD,length_nil→de,mem_cons_self→aG,mem_cons_of_mem→aA,all_eq_true→cU,getElem_mem→kB,mem_singleton→cf,length_singleton→bh,take_add_one→dW,take_length→br
open Nat renaming le_refl→aD,le_trans→bq,zero_le→aq,lt_or_ge→bI
open Option renaming getD_some→di
open Prod renaming ext→r6
namespace Go.Tp
open Go.Hv Go.Proofs Go.RowKit
set_option maxRecDepth 100000
set_option maxHeartbeats 0
theorem A4{p:Pg}(h:cr p):pK p.2.2.2.1:=by
 have t:=h.2.2.2.1;have g:=AM t;have a:=t.2.1;refine⟨t.1,?_,t.2.2.1,?_⟩
 ·show @bc Nat _ p.2.2.2.1.1.length 100000;omega
 ·show @bc Int _ p.2.2.2.1.2.1 100000;omega
def je(p q:Pg):Prop:=cr q/\(p=js->q=js)/\(p=ft->q=ft)
theorem iX(p:Pg):∃q,je p q:=by
 by_cases h:p=ft
 ·exact⟨ft,zd,λe=>absurd (e.symm.trans h) Zc,λ_=>rfl⟩
 ·exact⟨js,vh,λ_=>rfl,λe=>absurd e h⟩
def Th:Ct:=⟨1,⟨[(0,false,[.d M6])],[]⟩,[⟨[sP 0],E5 0⟩],λ(p,_)=>eD (cr p) (je p) λq=>(q.1,q.2.1,q.2.2.1,q.2.2.2.1.2.1,q.2.2.2.1.1,q.2.2.2.2.1.1,())⟩
def OA:bw:=(50,[Th])::Oz
theorem Zf:KK OA:=kA Ze (cE Th 0) (∀(c:Pg)Q,bd Th (c,()) Q->True/\cr c/\∀(b:List Op),FX c b->(cr ([],[],[],([((0,0,()),0,0,0,false,[[],[]],())],0,()),([],()),())/\b.length<=1000000)/\∀(a:Int×Pg),xr ([],[],[],([((0,0,()),0,0,0,false,[[],[]],())],0,()),([],()),()) b a->Q ⟨0,a.2.1,a.2.2.1,a.2.2.2.1,a.2.2.2.2.1.2.1,a.2.2.2.2.1.1,a.2.2.2.2.2.1⟩) (by
 unfold bd;intro p Q ⟨h,c⟩;refine⟨trivial,h,λl a=>⟨⟨vh,bq a.1 (by decide)⟩,λz b=>?_⟩⟩;exact c z.2 ⟨b.1,λe=>b.2.2 rfl (a.2.2.1 e),λe=>aH (λq:Int×Pg=>q.2) (b.2.1 rfl (a.2.2.2 e))⟩) (l:=λ_=>aM λ_=>iX _)
def Ti:Ct:=⟨1,⟨[FY 0],[]⟩,[⟨[sI 0],[]⟩],λ(p,_)=>one (cr p) (p.2.2.2.1.1.length-1-p.2.2.2.1.2.1,())⟩
def OB:bw:=(147,[Ti])::OA
theorem Zg:KK OB:=kA Zf (cE Ti 0) (∀(a:Pg)Q,bd Ti (a,()) Q->pK a.2.2.2.1/\Q ⟨0,nI a.2.2.2.1.1-1-a.2.2.2.1.2.1,()⟩) (by
 unfold nI bd;intro p Q ⟨h,a⟩;exact⟨A4 h,a⟩)
def Tj:Ct:=⟨1,⟨[FY 0],[]⟩,[⟨[(0,false,[.d .st])],[]⟩],λ(p,_)=>one (p=ft) ([97],())⟩
def OC:bw:=(23,[Tj])::OB
theorem Zh:KK OC:=kA Zg (cE Tj 0) (∀(a:Pg)Q,bd Tj (a,()) Q->a.2.2.2.1=([((0,0,()),0,0,0,false,[[],[(0,1,())]],()),((0,1,()),0,1,97,false,[[],[]],())],0,())/\Q ⟨0,[ae 8 97],()⟩) (by
 unfold bd;intro p Q ⟨h,a⟩;subst h;exact⟨rfl,a⟩)
def Kw:Ct:=⟨2,⟨[FY 0,sI 1],[]⟩,[⟨[sI 0],[]⟩],λ(p,a,_)=>eD (cr p) (λy:Int=>0<=y/\y<=1099511627776/\(p=js->y=0)) λy=>(y,())⟩
def Zi:cg:=⟨[sI 1,sI 5,(13,false,[.ptr 0 0])],[some (.fit cq oM)]⟩
def FZ(x:Kw.inp.den)(y:Zi.den):Prop:=match x,y with
 |(p,c,_),(a,n,b,_,_)=>a=c/\@bc Int _ 0 n/\@bc Int _ n 1099511627776/\(∀q∈b,q∈p.1)/\(p=js->n=0)
def a28(x:Kw.inp.den):dB:=⟨[(5,bK Zi (FZ x) λ(_,_,a,_)=>a.length)],[],[],[],0⟩
def OD:bw:=(148,[Kw])::OC
theorem Zj:KK OD:=kA Zh a28 (∀(a:Pg)(c:Int)Q,bd Kw (a,c,()) Q->Is (FZ (a,c,()) (c,0,a.1,none,()))/\∀(e f:Int)(d:List (Fk×gi))(z:Option (Fk×gi)),FZ (a,c,()) (e,f,d,z,())->Br (!d.isEmpty) (∀(b:(Fk×gi)×List (Fk×gi)),d.Perm (b.1::b.2)->Br (b.1.1.1==e) (Is (FZ (a,c,()) (e,max f b.1.1.2.1,b.2,some b.1,())/\b.2.length<d.length)) (Is (FZ (a,c,()) (e,f,b.2,some b.1,())/\b.2.length<d.length))) (Q ⟨0,f,()⟩)) (by
 unfold Br bd;intro p B Q ⟨h,o⟩;have b:∀y:Int,0<=y/\y<=1099511627776/\(p=js->y=0)->Q ⟨0,(y,())⟩:=o;clear o;refine⟨⟨rfl,bY _,(show(0:Int)<=1099511627776 by decide),λq b=>b,λ_=>rfl⟩,?_⟩;rintro a n f C ⟨e,r,s,g,t⟩;refine⟨λc z i=>?_,λ_=>b n ⟨r,s,t⟩⟩;have j:=i.length_eq;rw[ba]at j;have u:z.1∈f:=i.symm.subset (aG ..);have v:∀q∈z.2,q∈p.1:=λq b=>g q (i.symm.subset (aA _ b));have w:=h.2.2.2.2.1 _ (g _ u)
 have A:¬p=js:=λe=>by
  have:=g _ u;rw[e]at this;exact by cases this
 have D:@bc Int _ 1 z.1.1.2.1/\@bc Int _ z.1.1.2.1 1099511627776:=by
  have m:=w.1;rw[w.2];unfold sJ hH at m;simp only[aI,ai]at m;have x:=m.1.1;exact⟨x.2.2.1,x.2.2.2⟩
 generalize E:z.1.1.2.1=N at*;refine⟨λ_=>⟨⟨e,?_,?_,v,λe=>absurd e A⟩,by omega⟩,λ_=>⟨⟨e,r,s,v,t⟩,by omega⟩⟩
 ·show @bc Int _ 0 (@max Int _ n N);omega
 ·show @bc Int _ (@max Int _ n N) 1099511627776;omega) (l:=λ_=>aM λ_=>⟨0,by decide,by decide,λ_=>rfl⟩)
def Tk:Ct:=⟨3,⟨[FY 0,sI 1,sI 2],[]⟩,[⟨[sL 0],[]⟩],λ(p,a,n,_)=>eD (cr p) (λy:Bool=>y=true->@bc Int _ 0 a/\@bc Int _ 0 n/\@bc Int _ (@eU Int Int Int _ a n) 4097) λy=>(y,())⟩
def OE:bw:=(150,[Tk])::OD
theorem Zk:KK OE:=kA Zj (cE Tk 0) (∀(a:Pg)(b c:Int)Q,let z:=b<=nI a.2.2.2.1.1-1-a.2.2.2.1.2.1;bd Tk (a,b,c,()) Q->Bd (0<=b) (Bd (0<=c) (cr a/\Br (decide z) (cr a/\ac (nI a.2.2.2.1.1-1-a.2.2.2.1.2.1-b)/\Q ⟨0,decide (c<=nI a.2.2.2.1.1-1-a.2.2.2.1.2.1-b),()⟩) (Q ⟨0,false,()⟩)) (Q ⟨0,false,()⟩)) (Q ⟨0,false,()⟩)) (by
 conv=>zeta
 unfold Bd Br nI bd;intro p a n Q ⟨h,f⟩;have i:∀y:Bool,(y=true->@bc Int _ 0 a/\@bc Int _ 0 n/\@bc Int _ (@eU Int Int Int _ a n) 4097)->Q ⟨0,(y,())⟩:=f;clear f;have e:Q ⟨0,(false,())⟩:=i false (λh=>by cases h);have t:=h.2.2.2.1;have g:=AM t;have o:p.2.2.2.1.1.length<=4097:=t.2.1;have q:@bc Int _ 0 p.2.2.2.1.2.1:=t.2.2.1;have g:@bc Int _ p.2.2.2.1.2.1 4097:=g;generalize hL:p.2.2.2.1.1.length=L at*;generalize r:p.2.2.2.1.2.1=G at*;have s:Int:=a;refine⟨λb=>⟨λj=>⟨h,λc=>⟨h,?_,i _ λm=>?_⟩,λ_=>e⟩,λ_=>e⟩,λ_=>e⟩
 ·have b:@bc Int _ 0 a:=ag b;have c:@bc Int _ a ((L:Int)-1-G):=ag c;unfold ac;omega
 ·have b:@bc Int _ 0 a:=ag b;have j:@bc Int _ 0 n:=ag j;have c:@bc Int _ a ((L:Int)-1-G):=ag c;have m:@bc Int _ n ((L:Int)-1-G-a):=ag m;omega) (l:=λ_=>aM λ_=>⟨false,λh=>by cases h⟩)
def Tl:Ct:=⟨1,⟨[(0,false,[.d (.pf tMB)])],[]⟩,[⟨[sI 0],[]⟩],λ(t,_)=>eD (eM t.1) (λy:Int=>0<=y/\y<=1099511627776) λy=>(y,())⟩
def OF:bw:=(152,[Tl])::OE
theorem Zl:KK OF:=kA Zk (cE Tl 0) (∀(a:List gF.den×Unit)Q,bd Tl (a,()) Q->Br (nI a.1==0) (Q ⟨0,0,()⟩) (ac (nI a.1-1)/\iN (nI a.1-1) a.1/\Q ⟨0,(bB a.1 (nI a.1-1).toNat (0,0,0,0,false,0,0,false,0,0,())).1,()⟩)) (by
 unfold Br iN nI bd;intro t Q ⟨h,a⟩;have b:∀y:Int,0<=y/\y<=1099511627776->Q ⟨0,(y,())⟩:=a;clear a;refine⟨λ_=>b 0 (by decide),λc=>?_⟩;rw[az]at c;have e:t.1.length<=512:=h.1;have f:t.1.length≠0:=by omega
 refine⟨by unfold ac;omega,by omega,b _ ?_⟩;have:=h.2 _ (aS (j:=((t.1.length:Int)-1).toNat) (z:=(0,0,0,0,false,0,0,false,0,0,())) (by omega));exact⟨this.1,this.2.1⟩) (l:=λ_=>aM λ_=>⟨0,by decide⟩)
def Kx:Ct:=⟨3,⟨[FY 0,sI 1,sI 2],[]⟩,[⟨[(0,false,[.d (.sl kE)]),sI 1],[]⟩],λ(p,a,n,_)=>eD (cr p) (λy:List Op×Int=>y.1.length<=64) λy=>(y.1,y.2,())⟩
def Zm:cg:=⟨[FY 0,sI 1,sO 8 0,sI 19,sI 20],[some (.sl kE)]⟩
def Ky(x:Kx.inp.den)(y:Zm.den):Prop:=match x,y with
 |(b,c,e,_),(p,a,n,j,out,_)=>p=b/\a=c/\n=e/\@bc Int _ 0 a/\@bc Int _ (@eU Int Int Int _ a n) 4097/\@bc Int _ 0 n/\@bc Int _ n 64/\∃k:Nat,j=k/\@bc Int _ k n/\out.length=k
def a29(x:Kx.inp.den):dB:=⟨[(7,bK Zm (Ky x) λ(_,_,n,j,_)=>(@bv Int Int Int _ n j).toNat)],[],[],[],0⟩
def OG:bw:=(112,[Kx])::OF
theorem Zn:KK OG:=kA Zl a29 (∀(e:Pg)(d a:Int)Q,bd Kx (e,d,a,()) Q->cr e/\∀(b:Bool),(b=true->0<=d/\0<=a/\d+a<=4097)->Br (!b) (Q ⟨0,[],6,()⟩) (Bd (64<a) (Q ⟨0,[],2,()⟩) (Is (Ky (e,d,a,()) (e,d,a,0,[],()))/\∀(i:Pg)(g f c:Int)(h:List Op),Ky (e,d,a,()) (i,g,f,c,h,())->Bd (c<f) (ac (g+c)/\(pK i.2.2.2.1/\g+c<=1000000000)/\∀(b:Fk×Int),True->(h.length+1)*144<=mM/\ac (c+1)/\Is (Ky (e,d,a,()) (i,g,f,c+1,h++[(2,0,0,0,0,false,0,b.1.1,b.1.2.1,0,0,0,0,false,0,0,false,0,0,())],())/\lN (f-(c+1)) (f-c))) (Q ⟨0,h,0,()⟩)))) (by
 unfold Bd Br lN mM bd;intro p a n Q ⟨h,i⟩;have g:∀(y:List Op)(e:Int),y.length<=64->Q ⟨0,(y,e,())⟩:=λy e h=>i (y,e) h;clear i;refine⟨h,λb r=>⟨λ_=>g [] 6 (aq _),λc=>⟨λ_=>g [] 2 (aq _),λm=>?_⟩⟩⟩;have c:b=true:=by cases b<;>simp_all
 obtain⟨s,o,t⟩:=r c;have m:¬@lB Int _ 64 n:=an m;refine⟨⟨rfl,rfl,rfl,s,t,o,by omega,0,rfl,o,rfl⟩,?_⟩;rintro F u f j out ⟨v,w,x,A,B,C,D,k,E,q,G⟩;subst v w x E;refine⟨λc=>?_,λc=>g _ _ ?_⟩
 ·have c:@lB Int _ k f:=ag c;refine⟨by unfold ac;omega,⟨A4 h,by show @bc Int _ (@eU Int Int Int _ u k) 1000000000;omega⟩,λz _=>⟨by omega,by unfold ac;omega,⟨⟨rfl,rfl,rfl,A,B,C,D,k+1,rfl,?_,?_⟩,?_⟩⟩⟩
  ·show @bc Int _ ((k+1:Nat):Int) f;omega
  ·rw[aa,bh];omega
  ·show(@bv Int Int Int _ f ((k:Int)+1)).toNat<(@bv Int Int Int _ f (k:Int)).toNat;omega
 ·have q:@bc Int _ k f:=q;omega) (l:=λ_=>aM λ_=>⟨([],0),aq _⟩)
def Tn:Ct:=⟨6,⟨[FY 0,sI 1,sI 2,sI 3,sI 4,sI 5],[]⟩,[⟨[(0,false,[.d (.sl kE)]),sI 1],[]⟩],λ(p,_)=>eD (cr p) (λy:List Op×Int=>y.1.length<=64) λy=>(y.1,y.2,())⟩
def OH:bw:=(113,[Tn])::OG
theorem Zo:KK OH:=kA Zn (cE Tn 0) (∀(d:Pg)(c a g h i:Int)Q,bd Tn (d,c,a,g,h,i,()) Q->cr d/\∀(b:Bool),(b=true->0<=c/\0<=a/\c+a<=4097)->Br (!b) (Q ⟨0,[],6,()⟩) (Br (a==0) (Q ⟨0,[],6,()⟩) (eM d.2.2.2.2.1.1/\∀(b:Int),0<=b/\b<=1099511627776->Br (b==1099511627776) (Q ⟨0,[],14,()⟩) ((pK d.2.2.2.1/\c<=1000000000)/\∀(b:Fk×Int),True->ac (c+a)/\ac (c+a-1)/\(pK d.2.2.2.1/\c+a-(1:Int)<=1000000000)/\∀(e:Fk×Int),True->eM d.2.2.2.2.1.1/\∀(f:Int),let z:= !M7 (f+1,i,b.1.1,b.1.2.1,false,e.1.1,e.1.2.1,true,g,h,());0<=f/\f<=1099511627776->ac (f+1)/\True/\Br z (Q ⟨0,[],1,()⟩) (Q ⟨0,[(3,0,0,0,0,false,0,0,0,f+1,i,b.1.1,b.1.2.1,false,e.1.1,e.1.2.1,true,g,h,())],0,()⟩))))) (by
 conv=>zeta
 unfold Br bd;intro p a n x y z Q ⟨h,g⟩;have f:∀(y:List Op)(e:Int),y.length<=64->Q ⟨0,(y,e,())⟩:=λy e h=>g (y,e) h;clear g;have i:=h.2.1;have j:=A4 h;refine⟨h,λb o=>⟨λ_=>f [] 6 (aq _),λc=>⟨λ_=>f [] 6 (aq _),λ_=>⟨i,λl q=>⟨λ_=>f [] 14 (aq _),λ_=>?_⟩⟩⟩⟩⟩;have c:b=true:=by cases b<;>simp_all
 obtain⟨r,s,t⟩:=o c;refine⟨⟨j,by show @bc Int _ a 1000000000;omega⟩,λ_ _=>⟨by unfold ac;omega,by unfold ac;omega,⟨j,by show @bc Int _ (@bv Int Int Int _ (@eU Int Int Int _ a n) 1) 1000000000;omega⟩,λ_ _=>⟨i,λm u=>⟨by unfold ac;omega,trivial,λ_=>f [] 1 (aq _),λ_=>f _ 0 (show 1<=64 by decide)⟩⟩⟩⟩) (l:=λ_=>aM λ_=>⟨([],0),aq _⟩)
def F0:Ct:=⟨4,⟨[FY 0,sI 1,(2,false,[.d .st]),sI 3],[]⟩,[⟨[(0,false,[.d (.sl kE)]),sI 1],[]⟩],λ(p,a,s,u,_)=>eD (cr p) (λy:List Op×Int=>y.1.length<=64/\(p=js->a=0->s=[97]->u=0->y=([iW],0))) λy=>(y.1,y.2,())⟩
def Zp:cg:=⟨[FY 0,sI 1,sI 3,sO 10 0,(40,false,[.ptr 1 0])],[some (.sl .i32),some .sit]⟩
def Kz(x:F0.inp.den)(y:Zp.den):Prop:=match x,y with
 |(e,f,c,g,_),(p,a,u,out,s,b,_)=>p=e/\a=f/\u=g/\s=c/\out.length<=64/\@bc Int _ 0 u/\@lB Int _ u 5/\@bc Int _ 0 a/\@bc Int _ a 4097/\(c=[97]->b=0/\out=[]\/b=1/\out=[97])
def OI:cg:=⟨[sI 3,sI 13,(14,false,[.ptr 0 0]),sL 15,sO 17 1,sO 69 2,sI 70,sI 71],[some (.cells [.d cq]),some (.sl kE),some (.sl .i32)]⟩
def A5(x:F0.inp.den)(y:OI.den):Prop:=match x,y with
 |(e,f,g,c,_),(u,b,h,i,j,l,out,a,_)=>u=c/\a.length<=64/\i=a.length/\∃k:Nat,j=k/\k<=a.length/\out.length=k/\@bc Int _ 0 b/\@bc Int _ (@bv Int Int Int _ (@eU Int Int Int _ b a.length) k) 1099511627776/\(e=js->f=0->g=[97]->c=0->a=[97]/\(k=0->b=0/\l=(0,0,())/\h=true/\out=[])/\(k=1->out=[iW]))
def a3a(x:F0.inp.den):dB:=⟨[(7,bK Zp (Kz x) λ(_,_,_,out,_)=>65-out.length),(18,bK OI (A5 x) λ(_,_,_,a,j,_)=>(@bv Int Int Int _ a j).toNat)],[],[],[],0⟩
theorem To(p:Pg)(a:Int)(s:BL)(u:Int):∃y:List Op×Int,y.1.length<=64/\(p=js->a=0->s=[97]->u=0->y=([iW],0)):=⟨([iW],0),by decide,λ_ _ _ _=>rfl⟩
def OJ:bw:=(111,[F0])::OH
theorem Zq:KK OJ:=kA Zo a3a (∀(a:Pg)(c:Int)(g:BL)(d:Int)Q,let v:=nI a.2.2.2.1.1-1-a.2.2.2.1.2.1<c;let z:=(a,c,g,d,());bd F0 z Q->Bd (d<0) (Q ⟨0,[],1,()⟩) (Bd (5<=d) (Q ⟨0,[],1,()⟩) (Bd (c<0) (Q ⟨0,[],6,()⟩) (cr a/\Br (decide v) (Q ⟨0,[],6,()⟩) (Is (Kz z (a,c,d,[],g,0,()))/\∀(h:Pg)(k p:Int)(e:List Int)(s:BL)(t:Nat),let u:=Utf8.decode (bH s) t;Kz z (h,k,p,e,s,t,())->Bd (t<s.length) (Br (nI e==64) (Q ⟨0,[],2,()⟩) ((e.length+1)*4<=mM/\Is (Kz z (h,k,p,e++[(↑u.1:Int)],s,t+u.2,())/\65-(e++[(↑u.1:Int)]).length<65-e.length))) (cr h/\∀(b:Int),0<=b/\b<=1099511627776/\(h=([],[],[],([((0,0,()),0,0,0,false,[[],[]],())],0,()),([],()),())->b=0)->ac (b+nI e)/\Bd (1099511627776<b+nI e) (Q ⟨0,[],14,()⟩) ((pK h.2.2.2.1/\k<=1000000000)/\∀(o:Fk×Bool×Int),(h.2.2.2.1=([((0,0,()),0,0,0,false,[[],[]],())],0,())->k=0->o=((0,0,()),true,0))->Is (A5 z (p,b,o.2.1,nI e,0,o.1,[],e,()))/\∀(l j:Int)(r:Bool)(i f:Int)(q:Fk)(m:List Op)(n:List Int),A5 z (l,j,r,i,f,q,m,n,())->Bd (f<i) (iN f n/\ac (j+1)/\(m.length+1)*144<=mM/\ac (f+1)/\Is (A5 z (l,j+1,true,i,f+1,(l,j+1,()),m++[(1,l,j+1,q.1,q.2.1,r,gD n f 0,0,0,0,0,0,0,false,0,0,false,0,0,())],n,())/\lN (i-(f+1)) (i-f))) (Q ⟨0,m,0,()⟩)))))))) (by
 conv=>zeta
 unfold Bd Br gD iN lN mM nI bd;intro p a s u Q ⟨h,G⟩;have r:∀(y:List Op)(e:Int),(y.length<=64/\(p=js->a=0->s=[97]->u=0->(y,e)=([iW],0)))->Q ⟨0,(y,e,())⟩:=λy e h=>G (y,e) h;clear G;have S:=A4 h;have t:=h.2.2.2.1;have U:p.2.2.2.1.1.length<=4097:=t.2.1;have W:@bc Int _ 0 p.2.2.2.1.2.1:=t.2.2.1;refine⟨λc=>r [] 1 ⟨aq _,λ_ _ _ e=>?_⟩,λC=>⟨λc=>r [] 1 ⟨aq _,λ_ _ _ e=>?_⟩,λD=>⟨λc=>r [] 6 ⟨aq _,λ_ e _ _=>?_⟩,λH=>⟨h,λc=>r [] 6 ⟨aq _,λe f _ _=>?_⟩,λE=>?_⟩⟩⟩⟩
 ·exfalso;have c:@lB Int _ u 0:=ag c;have e:@Eq Int u 0:=e;omega
 ·exfalso;have c:@bc Int _ 5 u:=ag c;have e:@Eq Int u 0:=e;omega
 ·exfalso;have c:@lB Int _ a 0:=ag c;have e:@Eq Int a 0:=e;omega
 ·exfalso;rw[e,f]at c;revert c;decide
 have C:¬@lB Int _ u 0:=an C;have D:¬@bc Int _ 5 u:=an D;have H:¬@lB Int _ a 0:=an H;have E:¬@lB Int _ ((p.2.2.2.1.1.length:Int)-1-p.2.2.2.1.2.1) a:=an E;have o:@bc Int _ a 4097:=by omega
 clear E t U W;refine⟨⟨rfl,rfl,rfl,rfl,aq _,by omega,by omega,by omega,o,λ_=> .inl ⟨rfl,rfl⟩⟩,?_⟩;rintro p1 X u1 out Y a0 ⟨g,f,i,v,J,i2,i3,i4,i5,z⟩;subst g f i v;refine⟨λc=>⟨λo=>r [] 2 ⟨aq _,λ_ _ e _=>?_⟩,λo=>?_⟩,λc=>?_⟩
 ·exfalso;have o:=aZ o;rcases z e with⟨_,q⟩|⟨_,q⟩<;>rw[q]at o<;>revert o<;>decide
 ·rw[az]at o;refine⟨by omega,⟨⟨rfl,rfl,rfl,rfl,?_,i2,i3,i4,i5,λe=>?_⟩,?_⟩⟩
  ·rw[aa,bh];omega
  ·have c:=ag c;subst e;rcases z rfl with⟨x,A⟩|⟨x,A⟩
   ·subst x A;exact .inr ⟨by decide,by decide⟩
   ·exfalso;rw[x]at c;exact absurd c (by decide)
  ·rw[aa,bh];omega
 have fin:Y=[97]->out=[97]:=by
  intro e;have c:=an c;subst e;rcases z rfl with⟨x,_⟩|⟨_,A⟩
  ·exfalso;rw[x]at c;exact absurd c (by decide)
  ·exact A
 refine⟨h,λct m=>⟨by unfold ac;omega,λw=>r [] 14 ⟨aq _,λe _ _ _=>?_⟩,λw=>⟨⟨S,by show @bc Int _ X 1000000000;omega⟩,λb K=>?_⟩⟩⟩
 ·exfalso;have:=m.2.2 e;have w:=ag w;omega
 have w:=an w;refine⟨⟨rfl,J,rfl,0,rfl,aq _,rfl,m.1,by show @bc Int _ (ct+(out.length:Int)-((0:Nat):Int)) 1099511627776;omega,λg f i v=>⟨fin i,λ_=>?_,λe=>by omega⟩⟩,?_⟩
 ·have:=K (by rw[g];rfl) f;exact⟨m.2.2 g,by rw[this],by rw[this],rfl⟩
 clear J z fin m w K c C D;rintro u2 n rt ln j ab o2 F ⟨g,j1,f,k,i,L,j3,M,N,O⟩;subst g f i;have N:@bc Int _ (n+(F.length:Int)-(k:Int)) 1099511627776:=N;have M:@bc Int _ 0 n:=M;refine⟨λc=>?_,λc=>r _ _ ⟨by have:=an c;omega,λg f i v=>?_⟩⟩
 ·have c:k<F.length:=by have:=ag c;omega
  refine⟨by omega,by unfold ac;omega,by omega,by unfold ac;omega,⟨⟨rfl,j1,rfl,k+1,rfl,c,?_,?_,?_,λg f i v=>?_⟩,by omega⟩⟩
  ·rw[aa,bh];omega
  ·show @bc Int _ 0 (n+1);omega
  ·show @bc Int _ (n+1+(F.length:Int)-((k+1:Nat):Int)) 1099511627776;omega
  ·obtain⟨B,P,R⟩:=O g f i v;refine⟨B,λe=>by omega,λe=>?_⟩;have k0:k=0:=by omega
   subst k0 v;obtain⟨f1,f2,f3,f4⟩:=P rfl;rw[f1,f2,f3,f4,B];rfl
 ·have c:=an c;obtain⟨B,P,R⟩:=O g f i v;have h1:k=1:=by rw[B]at c L;simp at c L;omega
  rw[R h1]) (l:=λ_=>aM λ_=>To _ _ _ _)
abbrev tLa:Ty:= .ar 2 (.ar 5 .i64)
def gG(j:Nat):List (Option CP):=[some (.cells [.d .i64, .d tB, .d tB, .d (.pf Vh), .mp (j+1), .ptr (j+2) 0, .d M6, .d tLa, .d (.sl iG)]),some (.mp .i64 tB)]++jr (j+2)
def Vr(a:Int)(o:Op):Bool:= !(o.1==1&&o.2.1 !=a||o.1==3&&o.2.2.2.2.2.2.2.2.2.2.1 !=a)
def F1(l:List Op)(a:Int):Bool:=l.all (Vr a)&&decide (0<l.length)
def Tq:Ct:=⟨2,⟨[(0,false,[.d (.sl kE)]),sI 1],[]⟩,[⟨[sL 0],[]⟩],λ(l,a,_)=>one (l.length<=1000000) (F1 l a,())⟩
def Zr:cg:=⟨[(0,false,[.d (.sl kE)]),sI 1,(7,false,[.d (.sl kE)]),sI 8,sI 9],[]⟩
def F3(l:List Op)(a:Int)(y:Zr.den):Prop:=match y with
 |(b,c,e,n,i,_)=>b=l/\c=a/\e=l/\n=l.length/\∃k:Nat,i=k/\k<=l.length/\(l.take k).all (Vr a)=true
def a3b(x:Tq.inp.den):dB:=⟨[(2,bK Zr (F3 x.1 x.2.1) λ(_,_,_,n,i,_)=>(n-i).toNat)],[],[],[],0⟩
def OK:bw:=(115,[Tq])::OJ
theorem Zs:KK OK:=kA Zq a3b (∀(e:List Op)(f:Int)Q,bd Tq (e,f,()) Q->Is (F3 e f (e,f,e,nI e,0,()))/\∀(g:List Op)(d:Int)(b:List Op)(c a:Int),let i:= !(gD b a zO).2.2.2.2.2.2.2.2.2.2.1==d;let h:=ac (a+1)/\Is (F3 e f (g,d,b,c,a+1,())/\lN (c-(a+1)) (c-a));let z:=Br ((gD b a zO).1==3) (Br i (Q ⟨0,false,()⟩) h) h;F3 e f (g,d,b,c,a,())->Bd (a<c) (iN a b/\Br ((gD b a zO).1==1) (Br (!(gD b a zO).2.1==d) (Q ⟨0,false,()⟩) z) z) (Q ⟨0,decide (0<nI g),()⟩)) (by
 conv=>zeta
 unfold Bd Br gD iN lN nI bd zO;intro l a Q ⟨z,f⟩;refine⟨⟨rfl,rfl,rfl,rfl,0,rfl,aq _,rfl⟩,?_⟩;rintro A e b n i ⟨rfl,rfl,rfl,rfl,k,rfl,B,j⟩;refine⟨λm=>?_,λp=>?_⟩
 ·have c:k<b.length:=by simp only[ai]at m;omega
  have t:((k:Int).toNat)=k:=by omega
  rw[t]
  have u:b.getD k (0,0,0,0,0,false,0,0,0,0,0,0,0,false,0,0,false,0,0,())∈b:=by
   rw[aw,ap c,di];exact kB c
  have v:b.take (k+1)=b.take k++[b.getD k (0,0,0,0,0,false,0,0,0,0,0,0,0,false,0,0,false,0,0,())]:=by
   rw[dW,aw,ap c];rfl
  generalize b.getD k (0,0,0,0,0,false,0,0,0,0,0,0,0,false,0,0,false,0,0,())=o at*
  have q:Vr e o=false->Q ⟨0,(false,())⟩:=by
   intro h
   have:F1 b e=false:=by
    unfold F1
    have:b.all (Vr e)=false:=by
     rw[<-cd,cU];intro w;rw[w o u]at h;cases h
    rw[this];rfl
   rw[this]at f;exact f
  have g:Vr e o=true->ac ((k:Int)+1)/\Is (F3 b e (b,e,b,b.length,(k:Int)+1,())/\((b.length:Int)-((k:Int)+1)).toNat<((b.length:Int)-k).toNat):=by
   intro h;refine⟨by unfold ac;omega,⟨rfl,rfl,rfl,rfl,k+1,rfl,c,?_⟩,by omega⟩;rw[v,List.all_append,j];simp[h]
  refine⟨by omega,λx=>⟨λy=>q ?_,λy=>⟨λr=>⟨λs=>q ?_,λs=>g ?_⟩,λr=>g ?_⟩⟩,λx=>⟨λr=>⟨λs=>q ?_,λs=>g ?_⟩,λr=>g ?_⟩⟩
  all_goals simp_all[Vr]
 ·have:F1 b e=decide ((0:Int)<b.length):=by
   simp only[aj]at p;rw[bf (by omega)]at j;unfold F1;rw[j];simp
  rw[this]at f;exact f)
def F4:Ct:=⟨3,⟨[sP 0,sI 1,sI 2],gG 0⟩,[⟨[(0,true,[.d iL]),sL 1],gG 0⟩],λ(b,id,c,e,f,a,g,h,i,j,bk,_)=>dy (cC a.2.1 a.2.2.1) (gk (cS a.2.1 b) id) λy=>(y.1,y.2,c,e,f,a,g,h,i,j,bk,())⟩
def Zt:cg:=⟨[sP 0,sI 2,(6,false,[.ptr 4 0]),(15,false,[.d (.sl iL)]),sI 16,sI 17],gG 0++[some (.cells [.d iL])]⟩
def KA(x:F4.inp.den)(y:Zt.den):Prop:=match x,y with
 |(p,id,c,q,r,o,s,t,u,v,bk,_),(a,l,n,i,w,b,e,f,ft,g,h,j,m,_)=>a=id/\l=cS o.2.1 p/\n=l.length/\(w,b,e,f,ft,g,h,j,m)=(c,q,r,o,s,t,u,v,bk)/\∃k:Nat,i=k/\k<=l.length/\gk (l.drop k) id=gk l id
def a3c(x:F4.inp.den):dB:=⟨[(2,bK Zt (KA x) λ(_,_,n,i,_)=>(n-i).toNat)],[],[],[],0⟩
abbrev Ts(v:Mb×Bool×Int×BL×BL×Lg×Pg×List (List Int)×List Fk×List (Int×BL)×Ln×Unit):cw F4.out:=⟨0,v⟩
def OL:bw:=(154,[F4])::OK
theorem Zu:KK OL:=kA Zs a3c (∀(c f g:Int)(h i:List (BitVec 8))(a:List (BitVec 8)×List (Int×List (BitVec 8)×List (Int×List (BitVec 8)×List (BitVec 8)×Unit)×List (Int×Int×Unit)×List (BitVec 8)×List (List (BitVec 8))×List (BitVec 8)×Unit)×List (List (BitVec 8))×Unit)(j:List ((Int×Int×Unit)×Int×Int×Int×Int×Bool×Int×Unit)×List ((Int×Int×Unit)×Int)×List (Int×Int×Int×Int×Bool×Int×Unit)×(List ((Int×Int×Unit)×Int×Int×Int×Bool×List (List (Int×Int×Unit))×Unit)×Int×Unit)×(List (Int×Int×Int×Int×Bool×Int×Int×Bool×Int×Int×Unit)×Unit)×Unit)(k:List (List Int))(l:List (Int×Int×Unit))(m:List (Int×List (BitVec 8)))(n:List (Int×List (List (BitVec 8)×List (BitVec 8)×Int×Unit)))(Q:cw F4.out->Prop),(Tr.need (cC a.2.1 a.2.2.1) (Tr.all (Mb×Bool) (λy=>y=gk (cS a.2.1 c) f) λy=>Tr.leaf (Ts (y.1,y.2,g,h,i,a,j,k,l,m,n,())))).sat Q->cC a.2.1 a.2.2.1/\Is (KA (c,f,g,h,i,a,j,k,l,m,n,()) (f,cS a.2.1 c,nI (cS a.2.1 c),0,g,h,i,a,j,k,l,m,n,(0,[],[],()),()))/\∀(o:Int)(d:List (Int×List (BitVec 8)×List (BitVec 8)×Unit))(e b p:Int)(q r:List (BitVec 8))(s:List (BitVec 8)×List (Int×List (BitVec 8)×List (Int×List (BitVec 8)×List (BitVec 8)×Unit)×List (Int×Int×Unit)×List (BitVec 8)×List (List (BitVec 8))×List (BitVec 8)×Unit)×List (List (BitVec 8))×Unit)(t:List ((Int×Int×Unit)×Int×Int×Int×Int×Bool×Int×Unit)×List ((Int×Int×Unit)×Int)×List (Int×Int×Int×Int×Bool×Int×Unit)×(List ((Int×Int×Unit)×Int×Int×Int×Bool×List (List (Int×Int×Unit))×Unit)×Int×Unit)×(List (Int×Int×Int×Int×Bool×Int×Int×Bool×Int×Int×Unit)×Unit)×Unit)(u:List (List Int))(v:List (Int×Int×Unit))(w:List (Int×List (BitVec 8)))(z:List (Int×List (List (BitVec 8)×List (BitVec 8)×Int×Unit)))(x:Int×List (BitVec 8)×List (BitVec 8)×Unit),KA (c,f,g,h,i,a,j,k,l,m,n,()) (o,d,e,b,p,q,r,s,t,u,v,w,z,x,())->Bd (b<e) (iN b d/\Br ((gD d b (0,[],[],())).1==o) (Q ⟨0,gD d b (0,[],[],()),true,p,q,r,s,t,u,v,w,z,()⟩) (ac (b+1)/\Is (KA (c,f,g,h,i,a,j,k,l,m,n,()) (o,d,e,b+1,p,q,r,s,t,u,v,w,z,x,())/\lN (e-(b+1)) (e-b)))) (Q ⟨0,(0,[],[],()),false,p,q,r,s,t,u,v,w,z,()⟩)) (by
 unfold Bd Br gD iN lN nI;intro j id c x A f B C D E bk Q ⟨t,u⟩;have m:∀y:Mb×Bool,gk (cS f.2.1 j) id=y->Q ⟨0,(y.1,y.2,c,x,A,f,B,C,D,E,bk,())⟩:=λy e=>u y e.symm;clear u
 have F:(cS f.2.1 j).length<=1000000:=by
  unfold cS;split
  ·simp
  ·have G:=aS (z:=((0,[],[],[],[],[],[],()):Et)) (show(j-1).toNat<f.2.1.length by omega);exact(t.1.2 _ G).1
 refine⟨t,⟨rfl,rfl,rfl,rfl,0,rfl,aq _,rfl⟩,?_⟩;rintro J l n i c1 K L M ft N O P R z ⟨S,v,U,w,k,W,hk,a⟩;simp only[Prod.mk.injEq]at w;obtain⟨X,Y,e8,e9,o,p,q,r,s⟩:=w;subst S X Y e8 e9 o p q r s U W;rw[<-v]at m F;simp only[aF,ai,aj,aR,az,ne_eq];refine⟨λh=>?_,λh=>m (yS,false) ?_⟩
 ·have b:k<l.length:=by omega
  rw[cZ (z:=((0,[],[],()):Mb)) b]at a;generalize l.getD k (0,[],[],())=H at*;simp only[gk]at a;refine⟨by omega,λg=>m (H,true) ?_,λg=>⟨by unfold ac;omega,⟨⟨rfl,v,rfl,rfl,k+1,rfl,b,?_⟩,by omega⟩⟩⟩
  ·rw[<-a,am g]
  ·rw[<-a,af g]
 ·rw[<-a,bC (by omega)];rfl) (l:=λ_=>bp)
def na(c:Int)(lg:Lg):Int:=if(gk (cS lg.2.1 lg.2.1.length) c).2=true then 0 else 19
def KB:Ct:=⟨1,⟨[sP 0],gG 0⟩,[⟨[sI 0],gG 0⟩],λ(c,b,e,a,f,g,h,i,bk,_)=>one (cC a.2.1 a.2.2.1) (na c a,c,b,e,a,f,g,h,i,bk,())⟩
abbrev Tt(v:Int×Int×BL×BL×Lg×Pg×List (List Int)×List Fk×List (Int×BL)×Ln×Unit):cw KB.out:=⟨0,v⟩
def OM:bw:=(114,[KB])::OL
theorem Zv:KK OM:=kA Zu (cE KB 0) (∀(c:Int)(d e:List (BitVec 8))(a:List (BitVec 8)×List (Int×List (BitVec 8)×List (Int×List (BitVec 8)×List (BitVec 8)×Unit)×List (Int×Int×Unit)×List (BitVec 8)×List (List (BitVec 8))×List (BitVec 8)×Unit)×List (List (BitVec 8))×Unit)(f:List ((Int×Int×Unit)×Int×Int×Int×Int×Bool×Int×Unit)×List ((Int×Int×Unit)×Int)×List (Int×Int×Int×Int×Bool×Int×Unit)×(List ((Int×Int×Unit)×Int×Int×Int×Bool×List (List (Int×Int×Unit))×Unit)×Int×Unit)×(List (Int×Int×Int×Int×Bool×Int×Int×Bool×Int×Int×Unit)×Unit)×Unit)(g:List (List Int))(h:List (Int×Int×Unit))(i:List (Int×List (BitVec 8)))(j:List (Int×List (List (BitVec 8)×List (BitVec 8)×Int×Unit)))(Q:cw KB.out->Prop),(Tr.need (cC a.2.1 a.2.2.1) (Tr.leaf (Tt (na c a,c,d,e,a,f,g,h,i,j,())))).sat Q->True/\cC a.2.1 a.2.2.1/\∀b,b=gk (cS a.2.1 (nI a.2.1)) c->Br (!b.2) (Q ⟨0,19,c,d,e,a,f,g,h,i,j,()⟩) (Q ⟨0,0,c,d,e,a,f,g,h,i,j,()⟩)) (by
 unfold Br nI;intro c g i j l m n o bk Q ⟨f,a⟩;refine⟨trivial,f,λb e=>⟨λh=>?_,λh=>?_⟩⟩
 ·unfold na at a;rw[<-e]at a;simp only[aP]at h;rw[h]at a;exact a
 ·unfold na at a;rw[<-e]at a;simp only[aK]at h;rw[h]at a;exact a)
def nl(c:Int)(sg:BL)(lg:Lg)(km:List (Int×BL))(l:Lt)(text:BL)(ts:List Tm)(m:KV):(Lt×Int)×List Tm×KV:=
 lk sg (sd sg ((aO .i64 (lg.2.1.length:Int) km).getD []) (l.1,c,lg.2.1.length,l.2.2.2) text ts m)
def KC:Ct:=⟨4,⟨[sP 0,sS 1 4,yW 2,sB 3],gG 0++iK 4⟩,[⟨[yW 0,sI 1],gG 0++lj 4 7++[cT]⟩],λ(l,text,c,g,a,b,h,i,j,e,bk,d,f,m,_)=>dy (bO 4 f) (nl c a b e l text f m) λy=>(y.1.1,y.1.2,c,g,a,b,h,i,j,e,bk,d,y.2.2,y.2.1,())⟩
abbrev Tu(v:Lt×Int×Int×BL×BL×Lg×Pg×List (List Int)×List Fk×List (Int×BL)×Ln×Int×KV×List Tm×Unit):cw KC.out:=⟨0,v⟩
def ON:bw:=(118,[KC])::OM
theorem Zw:KK ON:=kA Zv (cE KC 0) (∀(g:Int×Int×Int×Int×List (BitVec 8)×List (BitVec 8)×List (BitVec 8)×Unit)(h:List (BitVec 8))(c:Int)(i d:List (BitVec 8))(a:List (BitVec 8)×List (Int×List (BitVec 8)×List (Int×List (BitVec 8)×List (BitVec 8)×Unit)×List (Int×Int×Unit)×List (BitVec 8)×List (List (BitVec 8))×List (BitVec 8)×Unit)×List (List (BitVec 8))×Unit)(j:List ((Int×Int×Unit)×Int×Int×Int×Int×Bool×Int×Unit)×List ((Int×Int×Unit)×Int)×List (Int×Int×Int×Int×Bool×Int×Unit)×(List ((Int×Int×Unit)×Int×Int×Int×Bool×List (List (Int×Int×Unit))×Unit)×Int×Unit)×(List (Int×Int×Int×Int×Bool×Int×Int×Bool×Int×Int×Unit)×Unit)×Unit)(k:List (List Int))(l:List (Int×Int×Unit))(e:List (Int×List (BitVec 8)))(m:List (Int×List (List (BitVec 8)×List (BitVec 8)×Int×Unit)))(n:Int)(f:List (BitVec 8×List (List (BitVec 8))×Unit))(o:List (List (BitVec 8)×Int))(Q:cw KC.out->Prop),(Tr.need (bO 4 f) (Tr.all ((Lt×Int)×List Tm×KV) (λy=>y=nl c d a e g h f o) λy=>Tr.leaf (Tu (y.1.1,y.1.2,c,i,d,a,j,k,l,e,m,n,y.2.2,y.2.1,())))).sat Q->True/\bO 4 f/\∀b,b=sd d ((aO Ty.i64 (nI a.2.1) e).getD []) (g.1,c,nI a.2.1,g.2.2.2) h f o->Q ⟨0,b.1.1,b.1.2,c,i,d,a,j,k,l,e,m,n,b.2.2,b.2.1,()⟩) (by
 unfold nI;intro l text c g h i j n o p bk d q m Q ⟨a,e⟩;exact⟨trivial,a,λb f=>e b (by rw[f,nl,ck])⟩) (l:=λ_=>bp)
theorem lmS{sec ep text:BL}{l:Lt}{k:Nat}{ts:List Tm}(m:KV)(h:bO (k+4) ts):bO k (sd sec ep l text ts m).2.1/\(sd sec ep l text ts m).1.1.2.2.2.2.1.length<=32/\(sd sec ep l text ts m).1.1.2.2.2.2.2.1.length<=4112/\(sd sec ep l text ts m).1.1.2.2.2.2.2.2.1.length<=64:=by
 unfold sd;rw[ck];split
 ·exact⟨h.mono (by omega),by simp[JL]⟩
 rename_i f;split
 ·exact⟨h.mono (by omega),by simp[JL]⟩
 rename_i a;rw[not_or,not_or]at f;have a:(lK text).2=0:=aC.1 a;have g:xZ l:=by have:=f.2.2;rw[bW]at this;exact ag this
 have b:l.2.2.2.2.1.length<=32:=by have:=g.2.2.2.2.2.2.2.2;omega
 have u:=mV l;have v:=paA text a;have i:aB sec:=by unfold aB;omega
 have o:aB ep:=by unfold aB;omega
 have c:aB (ei l):=by unfold aB;omega
 have w:=bz l.1;have x:=bz l.2.1;have p:=pJ (k:=k+3) m h (yV (k:=107) (by decide) (by decide) o (show aB (jg l)by unfold aB jg;simp;omega));have y:=bq (JF (107,[ep,jg l],()) ts m) (Cv (by show(107:BitVec 8)≠98;decide));unfold XX;dsimp only;generalize dh (107,[ep,jg l],()) ts m=K at*;have q:=seS (j:=k+2) (n:=l.2.2.2.1) K.2.2 (show aB K.1 by unfold aB;omega) c (show aB (lK text).1 by unfold aB;omega) p;generalize lY K.1 l.2.2.2.1 (ei l) (lK text).1 K.2.1 K.2.2=B at*;have e:aB B.1:=by unfold aB;omega
 have r:=oJ (k:=k+1) B.2.2 q.1 (kD (k:=104) (by decide) (by decide) e);have z:=bq (Nat.le_of_eq (tU (104,[B.1],()) B.2.1 B.2.2)) (Cv (by show(104:BitVec 8)≠98;decide));generalize dV (104,[B.1],()) B.2.1 B.2.2=X at*;have A:=dS X.1;have s:=pJ X.2.2 r (yV (k:=103) (by decide) (by decide) i (show aB (ei l++tx X.1)by unfold aB;rw[aa];omega));have t:=bq (JF (103,[sec,ei l++tx X.1],()) X.2.1 X.2.2) (Cv (by show(103:BitVec 8)≠98;decide));generalize dh (103,[sec,ei l++tx X.1],()) X.2.1 X.2.2=G at*;exact⟨s,b,by omega,t⟩
theorem Zx{sg text:BL}{c:Int}{lg:Lg}{km:List (Int×BL)}{l:Lt}{k:Nat}{ts:List Tm}(m:KV)(h:bO (k+4) ts):bO k (nl c sg lg km l text ts m).2.1/\(nl c sg lg km l text ts m).1.1.2.2.2.2.1.length<=32/\(nl c sg lg km l text ts m).1.1.2.2.2.2.2.1.length<=4112/\(nl c sg lg km l text ts m).1.1.2.2.2.2.2.2.1.length<=64:=by
 unfold nl;rw[ck];exact lmS m h
def pgD(q:Pg)(r:Unit):(cg.mk [] (E5 0)).den:=(q.1,q.2.1,q.2.2.1,q.2.2.2.1.2.1,q.2.2.2.1.1,q.2.2.2.2.1.1,r)
abbrev La:=List (List Int)
abbrev KM:=List (Int×BL)
theorem heK{bk:Ln}(h:ci bk)(c:Int):0<=(fx bk c).2.1/\(fx bk c).2.1<=1048576:=by
 unfold fx;split
 ·simp
 ·have:=(h c).1;show(0:Int)<=(dx bk c).length/\((dx bk c).length:Int)<=1048576;omega
def Ip(b:Pg)(l:List Op)(c:Int×Pg):Prop:=∃a,je b a/\xr a l c
def Zy(lt:Lt)(a:Pg)(b:Pg)(bk:Ln)(ts:List Tm)(m:KV):(BL×Int)×Pg×Ln×List Tm×KV:=
 let h:=dV (104,[lt.2.2.2.2.2.1],()) ts m
 let t:=oa (lt.2.1,lt.2.2.2.1,lt.2.2.1,lt.2.2.2.2.1,h.1,()) bk h.2.1 h.2.2
 if t.1≠0 then(([],t.1),b,t.2.1,t.2.2)else((gh lt,0),a,t.2.1,t.2.2)
def x8(c:Int)(sg:BL)(lg:Lg)(a:Pg)(km:KM)(bk:Ln)(l:List Op)(b:Int×Pg)(ts:List Tm)(m:KV):(BL×Int)×Pg×Ln×List Tm×KV:=
 lk sg (if na c lg≠0 then(([],na c lg),a,bk,ts,m)
 else if 64<l.length\/F1 l c=false\/l.all gw=false then(([],1),a,bk,ts,m)
 else if(fx bk c).2.1=1048576 then(([],14),a,bk,ts,m)
 else if b.1≠0 then(([],b.1),a,bk,ts,m)
 else
  let z:=nl c sg lg km (2,0,0,(fx bk c).2.1+1,(fx bk c).2.2.1,[],[],()) (eu l) ts m
  if z.1.2≠0 then(([],z.1.2),a,bk,z.2)else Zy z.1.1 b.2 a bk z.2.1 z.2.2)
def KD:Ct:=⟨3,⟨[sP 0,sS 1 4,(2,false,[.d (.sl kE)])],gG 0++iK 4⟩,[⟨[(0,false,[.d tB]),sI 1],gG 0++lj 4 7++[cT]⟩],λ(l,c,i,e,a,b,j,n,f,bk,d,g,m,_)=>eD (l.length<=1000000/\cC a.2.1 a.2.2.1/\ci bk/\cr b/\bO 6 g) (λy=>∃h,Ip b l h/\y=x8 c e a b f bk l h g m) λy=>(y.1.1,y.1.2,c,i,e,a,y.2.1,j,n,f,y.2.2.1,d,y.2.2.2.2,y.2.2.2.1,())⟩
def Zz:cg:=⟨[sP 0,sS 1 4,(2,false,[.d (.sl kE)]),(35,false,[.d (.sl kE)]),sI 36,sI 37],gG 0++iK 4⟩
def KE(x:KD.inp.den)(y:Zz.den):Prop:=match x,y with
 |(l,c,q,r,p,s,t,u,v,bk,d,w,m,_),(z,A,n,i,B,a,b,e,ft,f,g,h,j,C,o,D,_)=>z=l/\A=l/\n=l.length/\(B,a,b,e,ft,f,g,h,j,C,o,D)=(c,q,r,p,s,t,u,v,bk,d,w,m)/\na c p=0/\l.length<=64/\F1 l c=true/\∃k:Nat,i=k/\k<=l.length/\(l.take k).all gw=true
def a3d(x:KD.inp.den):dB:=⟨[(7,bK Zz (KE x) λ(_,_,n,i,_)=>(n-i).toNat)],[],[],[],0⟩
def OO:bw:=(76,[KD])::ON
theorem ZA:KK OO:=kA Zw a3d (∀(f:List Op)(d:Int)(m n:BL)(e:Lg)(p:Pg)(q:La)(r:List Fk)(s:KM)(t:Ln)(u:Int)(v:List Tm)(w:KV)Q,let J:=(d,m,n,e,p,q,r,s,t,u,w,v,());let A:=(d,m,n,e,p,q,r,s,t,u,v,w,());bd KD (f,A) Q->cC e.2.1 e.2.2.1/\Br (!na d e==0) (Q ⟨0,[],na d e,J⟩) (Bd (64<nI f) (Q ⟨0,[],1,J⟩) (f.length<=1000000/\Br (!F1 f d) (Q ⟨0,[],1,J⟩) (Is (KE (f,A) (f,f,nI f,0,A))/\∀(x D:List Op)(B g a:Int)(y i:BL)(j:Lg)(k:Pg)(z:La)(E:List Fk)(l:KM)(c:Ln)(F:Int)(G:List Tm)(K:KV),let P:=(fx c a).2.1==1048576;let M:=(a,y,i,j,k,z,E,l,c,F,G,K,());let L:=(a,y,i,j,k,z,E,l,c,F,K,G,());KE (f,A) (x,D,B,g,M)->Bd (g<B) (iN g D/\True/\Br (!gw (gD D g zO)) (Q ⟨0,[],1,L⟩) (ac (g+1)/\Is (KE (f,A) (x,D,B,g+1,M)/\lN (B-(g+1)) (B-g)))) (ci c/\Br P (Q ⟨0,[],14,L⟩) (cr k/\∀(b:Pg),je k b->(cr b/\x.length<=1000000)/\∀(H:Int×Pg),xr b x H->Br (!H.1==0) (Q ⟨0,[],H.1,L⟩) (ac ((fx c a).2.1+1)/\(0+100*x.length<=1000000000/\∀(o:Op),o∈x->Az o)/\bO 4 G/\∀b,let N:=jA (ae 8 104,[b.1.1.2.2.2.2.2.1],()) b.2.1 b.2.2;b=nl a i j l (2,0,0,(fx c a).2.1+1,(fx c a).2.2.1,[],[],()) (eu x) G K->Br (!b.1.2==0) (Q ⟨0,[],b.1.2,a,y,i,j,k,z,E,l,c,F,b.2.2,b.2.1,()⟩) ((aB b.1.1.2.2.2.2.2.1/\b.2.1.length<=4294967296)/\∀C,C=(ko (ae 8 104,[b.1.1.2.2.2.2.2.1],()) N.1,N.2)->(C.2.1.length<=4294967295/\ci c)/\∀h,let O:=(z,E,l,h.2.1,F,h.2.2.2,h.2.2.1,());h=oa (b.1.1.2.1,b.1.1.2.2.2.1,b.1.1.2.2.1,b.1.1.2.2.2.2.1,C.1,()) c C.2.1 C.2.2->Br (!h.1==0) (Q ⟨0,[],h.1,a,y,i,j,k,O⟩) (0+ah b.1.1.2.2.2.2.1+ah b.1.1.2.2.2.2.2.1+ah b.1.1.2.2.2.2.2.2.1<=1000000000/\Q ⟨0,gh b.1.1,0,a,y,i,j,H.2,O⟩))))))))) (by
 conv=>zeta
 unfold Bd Br gD iN lN nI bd zO;intro l c se U W A la fk X bk d ts m Q ⟨⟨Y,h2,C,h4,h5⟩,hQ⟩;have a:∀p y,Ip A l p->x8 c U W A X bk l p ts m=y->Q ⟨0,(y.1.1,y.1.2,c,se,U,W,y.2.1,la,fk,X,y.2.2.1,d,y.2.2.2.2,y.2.2.2.1,())⟩:=λp y hc e=>hQ y ⟨p,hc,e.symm⟩;clear hQ;obtain⟨p0,D⟩:=iX A;obtain⟨c0,E⟩:=qf p0 l;have j:Ip A l c0:=⟨p0,D,E⟩;unfold x8 at a;simp only[ck]at a;simp only[aP,aK,ai,aj,aR,az,ne_eq];refine⟨h2,λq=>a _ _ j (am q),λq=>?_⟩;simp only[ne_eq,q,not_true_eq_false,if_false]at a;refine⟨λe2=>a _ _ j (am (.inl (by omega))),λe2=>⟨Y,λs=>a _ _ j (am (.inr (.inl s))),λs=>⟨⟨rfl,rfl,rfl,rfl,q,by omega,s,0,rfl,aq _,rfl⟩,?_⟩⟩⟩;rintro l1 b n i u a0 F G ft a1 a2 H v d1 a3 m1 ⟨g1,g2,g3,g4,-,-,-,k,g5,hk,B⟩;simp only[Prod.mk.injEq]at g4;obtain⟨f1,f2,f3,f4,f5,f6,f7,f8,f9,J,K,L⟩:=g4;subst g1 g2 g3 g5 f1 f2 f3 f4 f5 f6 f7 f8 f9 J K L;have q:((k:Int).toNat)=k:=by omega
 rw[q];refine⟨λa4=>?_,λa5=>?_⟩
 ·have f:k<b.length:=by omega
  have hM:b.getD k (0,0,0,0,0,false,0,0,0,0,0,0,0,false,0,0,false,0,0,())∈b:=by
   rw[aw,ap f,di];exact kB f
  have hT:b.take (k+1)=b.take k++[b.getD k (0,0,0,0,0,false,0,0,0,0,0,0,0,false,0,0,false,0,0,())]:=by
   rw[dW,aw,ap f];rfl
  generalize b.getD k (0,0,0,0,0,false,0,0,0,0,0,0,0,false,0,0,false,0,0,())=o at*;refine⟨by omega,trivial,λg=>a _ _ j (am (.inr (.inr ?_))),λg=>⟨by unfold ac;omega,⟨⟨rfl,rfl,rfl,rfl,‹_›,by omega,s,k+1,rfl,f,?_⟩,by omega⟩⟩⟩
  ·rw[<-cd,cU];intro r;rw[r o hM]at g;cases g
  ·rw[hT,List.all_append,B];simp[g]
 ·rw[bf (by omega)]at B;have e4:¬(64<b.length\/F1 b u=false\/b.all gw=false):=by rw[s,B];simp;omega
  simp only[e4,if_false]at a;refine⟨C,λM=>a _ _ j (am M),λM=>⟨h4,λp1 w=>⟨⟨w.1,Y⟩,λp N=>?_⟩⟩⟩;simp only[M,if_false]at a;have j:Ip ft b p:=⟨p1,w,N⟩;refine⟨λO=>a _ _ j (am O),λO=>?_⟩;have a:=λy=>a p y j;simp only[O,not_true_eq_false,if_false]at a;have hs:=heK C u;refine⟨by unfold ac;omega,⟨by omega,λo ho=>Y6 (cU.1 B o ho)⟩,h5.mono (by omega),λz hz=>?_⟩;have P:=Zx (k:=2) (sg:=F) (text:=eu b) (c:=u) (lg:=G) (km:=H) (l:=(2,0,0,(fx v u).snd.fst+1,(fx v u).snd.snd.fst,[],[],())) m1 h5;rw[<-hz]at a P;clear hz;refine⟨λR=>a _ (am R),λR=>?_⟩;simp only[R,not_true_eq_false,if_false]at a;have x:aB z.1.1.2.2.2.2.2.1:=by unfold aB;omega
  refine⟨⟨x,P.1.le⟩,λh r=>?_⟩;have r:h=dV (104,[z.1.1.2.2.2.2.2.1],()) z.2.1 z.2.2:=r;have sh:=oJ z.2.2 P.1 (kD (k:=104) (by decide) (by decide) x);unfold Zy at a;dsimp only at a;rw[<-r]at a sh;clear r;refine⟨⟨by have:=sh.2;omega,C⟩,λt ht=>?_⟩;rw[<-ht]at a;clear ht;refine⟨λS=>a _ (am S),λS=>⟨by omega,a _ (af (λg=>g S))⟩⟩) (l:=λ_=>aM λ_=>⟨_,_,⟨_,(iX _).choose_spec,(qf _ _).choose_spec⟩,rfl⟩)
def Tv:Ct:=⟨2,⟨[sB 0,(1,false,[.d (.sl iG)])],[]⟩,[⟨[(0,false,[.d tB])],[]⟩],λ(b,l,_)=>eD (b.length<=1000000/\l.length<=10000000) (λy=>y.length<=b.length+7+14*l.length) λy=>(y,())⟩
def ZB:cg:=⟨[sB 0,(11,false,[.d (.sl iG)]),sI 12,sI 13],[]⟩
def KF(b:BL)(l:List Fk)(y:ZB.den):Prop:=match y with
 |(a,c,n,i,_)=>c=l/\n=l.length/\∃k:Nat,i=k/\k<=l.length/\a.length<=b.length+7+14*k
def a3e(x:Tv.inp.den):dB:=⟨[(3,bK ZB (KF x.1 x.2.1) λ(_,_,n,i,_)=>(n-i).toNat)],[],[],[],0⟩
def OP:bw:=(124,[Tv])::OO
theorem ZC:KK OP:=kA ZA a3e (∀(c:BL)(b:List Fk)Q,bd Tv (c,b,()) Q->c.length<=1099511627776/\Is (KF c b (c++vn (nI b),b,nI b,0,()))/\∀(f:BL)(d:List Fk)(e a:Int),let z:=gD d a (0,0,());KF c b (f,d,e,a,())->Bd (a<e) (iN a d/\f.length<=1099511627776/\(f++vn z.1).length<=1099511627776/\ac (a+1)/\Is (KF c b (f++vn z.1++vn z.2.1,d,e,a+1,())/\lN (e-(a+1)) (e-a))) (Q ⟨0,f,()⟩)) (by
 conv=>zeta
 unfold Bd gD iN lN nI bd;intro b l Q ⟨⟨o,p⟩,g⟩;have q:=bz l.length;refine⟨by omega,⟨rfl,rfl,0,rfl,aq _,by rw[aa];omega⟩,?_⟩;rintro r a n i ⟨h,j,k,m,s,t⟩;subst h j m;refine⟨λc=>?_,λe=>?_⟩
 ·have f:k<a.length:=by simp only[ai]at c;omega
  have u:=bz (a.getD ((k:Int).toNat) (0,0,())).1;have v:=bz (a.getD ((k:Int).toNat) (0,0,())).2.1;refine⟨by omega,by omega,by rw[aa];omega,by unfold ac;omega,⟨rfl,rfl,k+1,rfl,f,by rw[aa,aa];omega⟩,by omega⟩
 ·exact g _ (by simp only[aj]at e;omega)) (l:=λ_=>aM λ_=>⟨[],aq _⟩)
def ZD:List (Option CP):=[some (.cells [.ptr 1 0])]++gG 1
def pM(a:List Fk):Prop:=a.length<=10000000
theorem zk{bk:Ln}(h:ci bk)(a q:Int):(xa bk a q).1.length<=32:=by
 unfold xa;split
 ·simp
 ·rename_i g;rw[not_or]at g;exact Nat.le_of_eq ((h a).2 _ (aS (z:=pu) (by omega))).1
theorem F5{bk:Ln}(h:ci bk):(sH bk 5).length<=5/\∀x∈sH bk 5,x.2.2.1.length<=32:=by
 unfold sH;refine⟨bq (List.length_filterMap_le _ _) (by simp),λx b=>?_⟩;obtain⟨a,_,e⟩:=List.mem_filterMap.1 b;split at e
 ·simp only[Option.some.injEq]at e;rw[<-e];unfold fx;split
  ·simp
  ·exact zk h _ _
 ·simp at e
def KG:Ct:=⟨1,⟨[sP 0],ZD⟩,[⟨[(0,false,[.d tB])],ZD⟩],λ(c,b,e,f,g,h,a,i,bk,_)=>eD (ci bk/\pM a) (λy=>y.length<=1000+14*a.length) λy=>(y,c,b,e,f,g,h,a,i,bk,())⟩
def ZE:cg:=⟨[sP 0,sB 3,(14,false,[.d (.sl Ii)]),sI 15,sI 16],ZD⟩
def KH(x:KG.inp.den)(y:ZE.den):Prop:=match x,y with
 |(c,o,p,q,r,s,t,u,bk,_),(b,l,n,i,v,a,e,f,ft,g,h,j,m,_)=>l=sH bk 5/\n=l.length/\(v,a,e,f,ft,g,h,j,m)=(c,o,p,q,r,s,t,u,bk)/\∃k:Nat,i=k/\k<=l.length/\b.length<=7+60*k
def a3f(x:KG.inp.den):dB:=⟨[(4,bK ZE (KH x) λ(_,_,n,i,_)=>(n-i).toNat)],[],[],[],0⟩
def OQ:bw:=(122,[KG])::OP
theorem ZF:KK OQ:=kA ZC a3f (∀(g:Int)(h i:BL)(j:Lg)(k:Pg)(l:La)(m:List Fk)(n:KM)(d:Ln)Q,let x:=(h,i,j,k,l,m,n,d,());bd KG (g,x) Q->ci d/\0<=1099511627776/\Is (KH (g,x) (vn (nI (sH d 5)),sH d 5,nI (sH d 5),0,g,x))/\∀(e:BL)(c:List (Int×Int×BL×Unit))(f a p:Int)(q r:BL)(s:Lg)(t:Pg)(u:La)(o:List Fk)(v:KM)(w:Ln),let y:=(p,q,r,s,t,u,o,v,w,());let z:=gD c a (0,0,[],());KH (g,x) (e,c,f,a,y)->Bd (a<f) (iN a c/\e.length<=1099511627776/\(e++vn z.1).length<=1099511627776/\(e++vn z.1++vn z.2.1).length+ah z.2.2.1<=1099511627776/\ac (a+1)/\Is (KH (g,x) (e++vn z.1++vn z.2.1++(vn (↑(ah z.2.2.1):Int)++z.2.2.1),c,f,a+1,y)/\lN (f-(a+1)) (f-a))) ((e.length<=1000000/\o.length<=10000000)/\∀(b:BL),b.length<=e.length+7+14*o.length->Q ⟨0,b,y⟩)) (by
 conv=>zeta
 unfold Bd gD iN lN nI bd;intro c O P R S U W X bk Q ⟨⟨h,o⟩,p⟩;have Y:=bz (sH bk 5).length;have e:=F5 h;refine⟨h,by omega,⟨rfl,rfl,rfl,0,rfl,aq _,by omega⟩,?_⟩;rintro b l n i c1 q r s ft t u v w ⟨j,x,m,k,A,hk,hb⟩;simp only[Prod.mk.injEq]at m;obtain⟨B,C,D,E,F,G,J,K,L⟩:=m;subst B C D E F G J K L x A;rw[<-j]at e;unfold pM at o;refine⟨λf=>?_,λM=>?_⟩
 ·have a:k<l.length:=by simp only[ai]at f;omega
  have N:((k:Int).toNat)=k:=by omega
  have hm:=e.2 _ (aS (z:=((0,0,[],()):Hd)) a);rw[N];generalize l.getD k (0,0,[],())=H at*;have v1:=bz H.1;have v2:=bz H.2.1;have v3:=bz H.2.2.1.length;have g:=e.1;simp only[aa];refine⟨by omega,by omega,by omega,by omega,by unfold ac;omega,⟨j,rfl,rfl,k+1,rfl,a,by simp only[aa];omega⟩,by omega⟩
 ·have g:=e.1;exact⟨⟨by omega,by omega⟩,λy hy=>p y (by omega)⟩) (l:=λ_=>aM λ_=>⟨[],aq _⟩)
def Tw:Ct:=⟨1,⟨[sP 0],ZD⟩,[⟨[(0,false,[.d tB])],ZD⟩],λ(c,b,e,f,a,g,h,i,bk,_)=>eD (ci bk/\cr a) (λy=>∃l:List Op,l.length<=9000/\y=ma bk [] 5++eu l) λy=>(y,c,b,e,f,a,g,h,i,bk,())⟩
def OR:bw:=(125,[Tw])::OQ
theorem F6:KK OR:=kA ZF (cE Tw 0) (∀(d:Int)(e f:BL)(g:Lg)(c:Pg)(h:La)(i:List Fk)(j:KM)(a:Ln)Q,let z:=(e,f,g,c,h,i,j,a,());bd Tw (d,z) Q->(ci a/\0<=1073741824)/\cr c/\∀(b:List Op),FX c b->(ah (ma a [] 5)+100*b.length<=1000000000/\∀(o:Op),o∈b->Az o)/\Q ⟨0,ma a [] 5++eu b,d,z⟩) (by
 conv=>zeta
 unfold bd;intro c h i j m n o p bk Q ⟨⟨b,e⟩,f⟩;refine⟨⟨b,by omega⟩,e,λl a=>⟨⟨?_,a.2.1⟩,f _ ⟨l,a.1,rfl⟩⟩⟩;have:=qa b [] 5;have g:l.length<=9000:=a.1;simp only[de]at this;omega) (l:=λ_=>aM λ_=>⟨_,[],aq _,rfl⟩)
def xw(la:La)(k c:Int):Int:=(la.getD (k-3).toNat []).getD c.toNat 0
def Iq(la:La)(k c n:Int):La:=la.set (k-3).toNat ((la.getD (k-3).toNat []).set c.toNat n)
def fD(la:La):Prop:=la.length=2/\∀r∈la,r.length=5/\∀n∈r,0<=n/\n<=1048576
def mA(a:Int)(t:BL)(c:Int)(sg:BL)(lg:Lg)(la:La)(km:KM)(ts:List Tm)(m:KV):(BL×Int)×La×List Tm×KV:=
 lk sg (if na c lg≠0 then(([],na c lg),la,ts,m)
 else if xw la a c=1048576 then(([],14),la,ts,m)
 else
  let z:=nl c sg lg km (a,0,0,xw la a c+1,[],[],[],()) t ts m
  if z.1.2≠0 then(([],z.1.2),la,z.2)else((gh z.1.1,0),Iq la a c (xw la a c+1),z.2))
def toB(j:Nat):List (Option CP):=[some (.cells [.ptr j 0])]
theorem jU{a b:Int}(h:(!(a==b))=true):a≠b:=by simpa using h
theorem jV{a b:Int}(h:(!(a==b))=false):¬(a≠b):=by simpa using h
theorem snE{sg text:BL}{c:Int}{lg:Lg}{km:List (Int×BL)}{l:Lt}{ts:List Tm}{m:KV}{z:(Lt×Int)×List Tm×KV}(a:z=nl c sg lg km l text ts m)(h:bO 4 ts):bO 0 z.2.1/\z.1.1.2.2.2.2.1.length<=32/\z.1.1.2.2.2.2.2.1.length<=4112/\z.1.1.2.2.2.2.2.2.1.length<=64:=by
 subst a;exact Zx (k:=0) m h
theorem inB{n:Int}(h:0<=n/\n<=1048576):ac (n+1):=by unfold ac;omega
theorem vj{la:La}(h:fD la):∃a b c d e f g i j k,la=[[a,b,c,d,e],[f,g,i,j,k]]:=by
 have l:∀r:List Int,r.length=5->∃a b c d e,r=[a,b,c,d,e]:=by
  intro r p
  match r,p with
  |[a,b,c,d,e],_=>exact⟨a,b,c,d,e,rfl⟩
 obtain⟨q,m⟩:=h
 match la,q with
 |[n,o],_=>
  obtain⟨a,b,c,d,e,rfl⟩:=l n (m n (by simp)).1;obtain⟨f,g,i,j,k,rfl⟩:=l o (m o (by simp)).1;exact⟨a,b,c,d,e,f,g,i,j,k,rfl⟩
theorem ZG{la:La}(h:fD la)(r c:Nat):0<=(la.getD r (ak 5 0)).getD c 0/\(la.getD r (ak 5 0)).getD c 0<=1048576:=by
 have z:(0:Int)<=0/\(0:Int)<=1048576:=by omega
 by_cases b:r<la.length
 ·have e:=h.2 _ (aS (z:=ak 5 (0:Int)) b);by_cases a:c<(la.getD r (ak 5 0)).length
  ·exact e.2 _ (aS (z:=(0:Int)) a)
  ·rw[aw (l:=la.getD r _),bD (by omega)];exact z
 ·rw[aw (l:=la),bD (by omega),Option.getD_none];by_cases a:c<5
  ·rcases c with _|_|_|_|_|c<;>first|exact z|omega
  ·rw[aw,bD (by simp;omega)];exact z
def xx:Ct:=⟨4,⟨[sP 0,sS 1 4,(2,false,[.k (.i64 3)]),MF 3 122 7],gG 0++iK 4++toB 0⟩,[⟨[(0,false,[.d tB]),sI 1],gG 0++lj 4 8++toB 0++[cT]⟩],λ(c,i,b,a,j,e,f,g,bk,d,h,m,_)=>eD (0<=c/\c<5/\fD e/\cC a.2.1 a.2.2.1/\ci bk/\pM f/\bO 4 h) (λy=>∃t:BL,y=mA 3 t c b a e g h m) λy=>(y.1.1,y.1.2,c,i,b,a,j,y.2.1,f,g,bk,d,y.2.2.2,y.2.2.1,())⟩
abbrev F7(v:BL×Int×Int×BL×BL×Lg×Pg×La×List Fk×KM×Ln×Int×KV×List Tm×Unit):cw xx.out:=⟨0,v⟩
theorem F8:bS Tryz.prog 121 xx:=kC F6 (cE xx 0) (∀(d:Int)(h g:BL)(e:Lg)(i:Pg)(c:La)(f:List Fk)(j:KM)(k:Ln)(m:Int)(l:List Tm)(n:KV)(Q:cw xx.out->Prop),let s:=(d,h,g,e,i,c,f,j,k,m,n,l,());let p:=ci k/\pM f;let t:=F7 ([],14,s);let B:=c.getD ((9-1-1-1-1-1-1-1)/5) (ak 5 0);let G:=B.getD ((9-1-1-1-1-1-1-1) % 5/1) (0:Int)==1048576;let q:=B.getD ((9-1-1-1-1-1-1-1) % 5/1) 0+1;let C:=c.getD ((8-1-1-1-1-1-1-1)/5) (ak 5 0);let H:=C.getD ((8-1-1-1-1-1-1-1) % 5/1) (0:Int)==1048576;let r:=C.getD ((8-1-1-1-1-1-1-1) % 5/1) 0+1;let D:=c.getD ((7-1-1-1-1-1-1-1)/5) (ak 5 0);let J:=D.getD ((7-1-1-1-1-1-1-1) % 5/1) (0:Int)==1048576;let K:=D.getD ((7-1-1-1-1-1-1-1) % 5/1) 0+1;let E:=c.getD ((11-1-1-1-1-1-1-1)/5) (ak 5 0);let L:=E.getD ((11-1-1-1-1-1-1-1) % 5/1) (0:Int)==1048576;let M:=E.getD ((11-1-1-1-1-1-1-1) % 5/1) 0+1;let F:=c.getD ((10-1-1-1-1-1-1-1)/5) (ak 5 0);let N:=F.getD ((10-1-1-1-1-1-1-1) % 5/1) (0:Int)==1048576;let O:=F.getD ((10-1-1-1-1-1-1-1) % 5/1) 0+1;let z:=Ch.cells [I.d Ty.i64 d,I.d Ty.u8.sl h,I.d Ty.u8.sl g,I.pv (Ty.u8.sl.pr ((Ty.i64.pr (Ty.u8.sl.pr ((Ty.i64.pr (Ty.u8.sl.pr (Ty.u8.sl.pr Ty.un))).sl.pr (cq.sl.pr (Ty.u8.sl.pr (Ty.u8.sl.sl.pr (Ty.u8.sl.pr Ty.un))))))).sl.pr (Ty.u8.sl.sl.pr Ty.un))) e,I.mp 1,I.ptr 2 0,I.pv ((cq.fm (Ty.i64.pr (Ty.i64.pr (Ty.i64.pr (Ty.i64.pr (Ty.bl.pr (Ty.i32.pr Ty.un))))))).pr ((cq.fm Ty.i64).pr ((Ty.i64.pr (Ty.i64.pr (Ty.i64.pr (Ty.i64.pr (Ty.bl.pr (Ty.i32.pr Ty.un)))))).sl.pr (((cq.fm (Ty.i64.pr (Ty.i64.pr (Ty.i32.pr (Ty.bl.pr ((Ty.ar 2 cq.sl).pr Ty.un)))))).pr (Ty.i64.pr Ty.un)).pf.pr (((Ty.i64.pr (Ty.i64.pr (Ty.i64.pr (Ty.i64.pr (Ty.bl.pr (Ty.i64.pr (Ty.i64.pr (Ty.bl.pr cq)))))))).sl.pr Ty.un).pf.pr Ty.un))))) i,I.d (Ty.ar 2 (Ty.ar 5 Ty.i64)) c,I.d cq.sl f]=Ch.cells [I.d Ty.i64 d,I.d Ty.u8.sl h,I.d Ty.u8.sl g,I.pv (Ty.u8.sl.pr ((Ty.i64.pr (Ty.u8.sl.pr ((Ty.i64.pr (Ty.u8.sl.pr (Ty.u8.sl.pr Ty.un))).sl.pr (cq.sl.pr (Ty.u8.sl.pr (Ty.u8.sl.sl.pr (Ty.u8.sl.pr Ty.un))))))).sl.pr (Ty.u8.sl.sl.pr Ty.un))) e,I.mp 1,I.ptr 2 0,I.pv ((cq.fm (Ty.i64.pr (Ty.i64.pr (Ty.i64.pr (Ty.i64.pr (Ty.bl.pr (Ty.i32.pr Ty.un))))))).pr ((cq.fm Ty.i64).pr ((Ty.i64.pr (Ty.i64.pr (Ty.i64.pr (Ty.i64.pr (Ty.bl.pr (Ty.i32.pr Ty.un)))))).sl.pr (((cq.fm (Ty.i64.pr (Ty.i64.pr (Ty.i32.pr (Ty.bl.pr ((Ty.ar 2 cq.sl).pr Ty.un)))))).pr (Ty.i64.pr Ty.un)).pf.pr (((Ty.i64.pr (Ty.i64.pr (Ty.i64.pr (Ty.i64.pr (Ty.bl.pr (Ty.i64.pr (Ty.i64.pr (Ty.bl.pr cq)))))))).sl.pr Ty.un).pf.pr Ty.un))))) i,I.d (Ty.ar 2 (Ty.ar 5 Ty.i64)) c,I.d cq.sl f]/\True;(Tr.need (0<=d/\d<5/\fD c/\cC e.2.1 e.2.2.1/\ci k/\pM f/\bO 4 l) (Tr.all ((BL×Int)×La×List Tm×KV) (λy=>∃o,y=mA 3 o d g e c j l n) λy=>Tr.leaf (F7 (y.1.1,y.1.2,d,h,g,e,i,y.2.1,f,j,k,m,y.2.2.2,y.2.2.1,())))).sat Q->cC e.2.1 e.2.2.1/\Br (!na d e==0) (Q ⟨0,[],na d e,s⟩) (Br (d==0) (Br J (Q t) (ac K/\p/\∀(b:BL),b.length<=1000+14*f.length->z/\bO 4 l/\∀a,let u:=(f,j,k,m,a.2.2,a.2.1,());a=nl d g e j (3,0,0,D.getD ((7-1-1-1-1-1-1-1) % 5/1) 0+1,[],[],[],()) b l n->Br (!a.1.2==0) (Q ⟨0,[],a.1.2,d,h,g,e,i,c,u⟩) (ac K/\0+ah a.1.1.2.2.2.2.1+ah a.1.1.2.2.2.2.2.1+ah a.1.1.2.2.2.2.2.2.1<=1000000000/\Q ⟨0,gh a.1.1,0,d,h,g,e,i,c.set ((7-1-1-1-1-1-1-1)/5) (D.set ((7-1-1-1-1-1-1-1) % 5/1) K),u⟩))) (Br (d==1) (Br H (Q t) (ac r/\p/\∀(b:BL),b.length<=1000+14*f.length->z/\bO 4 l/\∀a,let v:=(f,j,k,m,a.2.2,a.2.1,());a=nl d g e j (3,0,0,C.getD ((8-1-1-1-1-1-1-1) % 5/1) 0+1,[],[],[],()) b l n->Br (!a.1.2==0) (Q ⟨0,[],a.1.2,d,h,g,e,i,c,v⟩) (ac r/\0+ah a.1.1.2.2.2.2.1+ah a.1.1.2.2.2.2.2.1+ah a.1.1.2.2.2.2.2.2.1<=1000000000/\Q ⟨0,gh a.1.1,0,d,h,g,e,i,c.set ((8-1-1-1-1-1-1-1)/5) (C.set ((8-1-1-1-1-1-1-1) % 5/1) r),v⟩))) (Br (d==2) (Br G (Q t) (ac q/\p/\∀(b:BL),b.length<=1000+14*f.length->z/\bO 4 l/\∀a,let w:=(f,j,k,m,a.2.2,a.2.1,());a=nl d g e j (3,0,0,B.getD ((9-1-1-1-1-1-1-1) % 5/1) 0+1,[],[],[],()) b l n->Br (!a.1.2==0) (Q ⟨0,[],a.1.2,d,h,g,e,i,c,w⟩) (ac q/\0+ah a.1.1.2.2.2.2.1+ah a.1.1.2.2.2.2.2.1+ah a.1.1.2.2.2.2.2.2.1<=1000000000/\Q ⟨0,gh a.1.1,0,d,h,g,e,i,c.set ((9-1-1-1-1-1-1-1)/5) (B.set ((9-1-1-1-1-1-1-1) % 5/1) q),w⟩))) (Br (d==3) (Br N (Q t) (ac O/\p/\∀(b:BL),b.length<=1000+14*f.length->z/\bO 4 l/\∀a,let x:=(f,j,k,m,a.2.2,a.2.1,());a=nl d g e j (3,0,0,F.getD ((10-1-1-1-1-1-1-1) % 5/1) 0+1,[],[],[],()) b l n->Br (!a.1.2==0) (Q ⟨0,[],a.1.2,d,h,g,e,i,c,x⟩) (ac O/\0+ah a.1.1.2.2.2.2.1+ah a.1.1.2.2.2.2.2.1+ah a.1.1.2.2.2.2.2.2.1<=1000000000/\Q ⟨0,gh a.1.1,0,d,h,g,e,i,c.set ((10-1-1-1-1-1-1-1)/5) (F.set ((10-1-1-1-1-1-1-1) % 5/1) O),x⟩))) (Br (d==4) (Br L (Q t) (ac M/\p/\∀(b:BL),b.length<=1000+14*f.length->z/\bO 4 l/\∀a,let A:=(f,j,k,m,a.2.2,a.2.1,());a=nl d g e j (3,0,0,E.getD ((11-1-1-1-1-1-1-1) % 5/1) 0+1,[],[],[],()) b l n->Br (!a.1.2==0) (Q ⟨0,[],a.1.2,d,h,g,e,i,c,A⟩) (ac M/\0+ah a.1.1.2.2.2.2.1+ah a.1.1.2.2.2.2.2.1+ah a.1.1.2.2.2.2.2.2.1<=1000000000/\Q ⟨0,gh a.1.1,0,d,h,g,e,i,c.set ((11-1-1-1-1-1-1-1)/5) (E.set ((11-1-1-1-1-1-1-1) % 5/1) M),A⟩))) (False/\True))))))) (by
 conv=>zeta
 unfold Br;intro c v l n w x A o bk d B m Q ⟨⟨p,q,g,h,C,D,r⟩,s⟩;have a:∀t y,mA 3 t c l n x o B m=y->Q ⟨0,(y.1.1,y.1.2,c,v,l,n,w,y.2.1,A,o,bk,d,y.2.2.2,y.2.2.1,())⟩:=λt y e=>s y ⟨t,e.symm⟩;clear s;unfold mA at a;simp only[ck]at a;have hB:=ZG g;refine⟨h,λf=>a [] _ (am (jU f)),λf=>?_⟩;have f:=jV f;simp only[f,if_false]at a;obtain⟨F,G,H,J,K,L,M,N,O,P,i⟩:=vj g;subst i;refine⟨λb=>?_,λE=>⟨λb=>?_,λp=>⟨λb=>?_,λq=>⟨λb=>?_,λg=>⟨λb=>?_,λh=>?_⟩⟩⟩⟩⟩
 case refine_6=>exfalso;simp only[az,ne_eq]at E p q g h;omega
 all_goals
  have b:=aZ b;subst b;refine⟨λe=>a [] _ (am (aZ e)),λe=>?_⟩;refine⟨inB (hB _ _),⟨C,D⟩,λt R=>⟨by repeat' (first|exact True.intro|rfl|apply cc),r,λz u=>?_⟩⟩;have S:=snE u r;subst u;exact⟨λj=>a t _ (Eq.trans (af (aE e)) (am (jU j))),λj=>⟨inB (hB _ _),by omega,a t _ (Eq.trans (af (aE e)) (af (jV j)))⟩⟩)
def OS:bw:=(121,[xx])::OR
theorem ZH:KK OS:=⟨aQ.add F6.1 (by kernel_rfl) (bo (F8)),bg.add F6.2 (bo (λ_=>aM λ_=>⟨_,[],rfl⟩))⟩
def KI:Ct:=⟨2,⟨[sP 0,(1,false,[.d (.sl iG)])],gG 0⟩,[⟨[],gG 0⟩],λ(l,c,b,e,f,g,h,a,i,bk,_)=>eD (a.length+l.length<=10000000) (λy:List Fk=>y.length<=a.length+l.length) λy=>(c,b,e,f,g,h,y,i,bk,())⟩
def ZI:cg:=⟨[sP 0,(6,false,[.d (.sl iG)]),sI 7,sI 8],gG 0⟩
def F9(x:KI.inp.den)(y:ZI.den):Prop:=match x,y with
 |(l,c,m,o,p,q,r,s,t,bk,_),(u,n,i,v,a,b,e,ft,f,g,h,j,_)=>u=l/\n=l.length/\(v,a,b,e,ft,f,h,j)=(c,m,o,p,q,r,t,bk)/\∃k:Nat,i=k/\k<=l.length/\g.length<=s.length+k
def a3g(x:KI.inp.den):dB:=⟨[(1,bK ZI (F9 x) λ(_,n,i,_)=>(n-i).toNat)],[],[],[],0⟩
def OT:bw:=(178,[KI])::OS
theorem ZJ:KK OT:=kA ZH a3g (∀(d:List Fk)(f:Int)(g h:BL)(i:Lg)(j:Pg)(k:La)(l:List Fk)(m:KM)(n:Ln)Q,let z:=(f,g,h,i,j,k,l,m,n,());bd KI (d,z) Q->Is (F9 (d,z) (d,nI d,0,z))/\∀(e:List Fk)(b a o:Int)(p q:BL)(r:Lg)(s:Pg)(t:La)(c:List Fk)(u:KM)(v:Ln),let x:= !decide (gD e a (0,0,())∈c);let w:=(p,q,r,s,t,c,u,v,());F9 (d,z) (e,b,a,o,w)->Bd (a<b) (iN a e/\c.length<=1000000000/\Br x (c.length<=1000000000/\(c.length+1)*16<=mM/\ac (a+1)/\Is (F9 (d,z) (e,b,a+1,o,p,q,r,s,t,c++[gD e a (0,0,())],u,v,())/\lN (b-(a+1)) (b-a))) (ac (a+1)/\Is (F9 (d,z) (e,b,a+1,o,w)/\lN (b-(a+1)) (b-a)))) (Q ⟨0,o,w⟩)) (by
 conv=>zeta
 unfold Bd Br gD iN lN mM nI bd;intro l c E F G H J K L bk Q ⟨M,g⟩;refine⟨⟨rfl,rfl,rfl,0,rfl,aq _,aD _⟩,?_⟩;rintro h n i N j m o ft p b q r ⟨s,t,f,k,u,O,P⟩;simp only[Prod.mk.injEq]at f;obtain⟨v,w,x,y,z,A,B,C⟩:=f;subst s t u v w x y z A B C;refine⟨λe=>?_,λD=>g b (by omega)⟩;have a:k<h.length:=by simp only[ai]at e;omega
 refine⟨by omega,by omega,λ_=>⟨by omega,by omega,by unfold ac;omega,⟨rfl,rfl,rfl,k+1,rfl,a,by rw[aa,bh];omega⟩,by omega⟩,λ_=>⟨by unfold ac;omega,⟨rfl,rfl,rfl,k+1,rfl,a,by omega⟩,by omega⟩⟩) (l:=λ_=>aM λ_=>⟨[],aq _⟩)
def zl(l:Lt)(lk:Lk)(la:La)(bk:Ln)(ts:List Tm)(m:KV):Int×List Tm×KV:=if l.1≠2 then(if l.2.2.2.1<=xw la l.1 l.2.1 then 16 else 0,ts,m)else iV lk bk ts m
def KJ:Ct:=⟨4,⟨[sP 0,sS 1 4,yW 2,(3,true,[.d Aq])],gG 0++iK 4⟩,[⟨[sI 0],gG 0++lj 4 7++[cT]⟩],λ(l,lk,c,f,g,h,i,a,b,j,bk,d,e,m,_)=>eD (2<=l.1/\l.1<=4/\0<=l.2.1/\l.2.1<5/\fD a/\ci bk/\b.length+1<=10000000/\bO 1 e) (λy:(Int×List Tm×KV)×List Fk=>y.2.length<=b.length+1/\y.1=zl l lk a bk e m) λy=>(y.1.1,c,f,g,h,i,a,y.2,j,bk,d,y.1.2.2,y.1.2.1,())⟩
abbrev zm(v:Int×Int×BL×BL×Lg×Pg×La×List Fk×KM×Ln×Int×KV×List Tm×Unit):cw KJ.out:=⟨0,v⟩
def OU:bw:=(164,[KJ])::OT
theorem ZK:KK OU:=kA ZJ (cE KJ 0) (∀(a:Lt)(p:Lk)(g:Int)(h i:BL)(j:Lg)(k:Pg)(c:La)(e:List Fk)(l:KM)(d:Ln)(m:Int)(f:List Tm)(n:KV)(Q:cw KJ.out->Prop),let s:=(a.2.1==4)=false->False/\True;let u:=a.2.2.2.1<=(c.getD ((9-1-1-1-1-1-1-1)/5) (ak 5 0)).getD ((9-1-1-1-1-1-1-1) % 5/1) 0;let v:=a.2.2.2.1<=(c.getD ((8-1-1-1-1-1-1-1)/5) (ak 5 0)).getD ((8-1-1-1-1-1-1-1) % 5/1) 0;let w:=a.2.2.2.1<=(c.getD ((7-1-1-1-1-1-1-1)/5) (ak 5 0)).getD ((7-1-1-1-1-1-1-1) % 5/1) 0;let x:=a.2.2.2.1<=(c.getD ((16-1-1-1-1-1-1-1)/5) (ak 5 0)).getD ((16-1-1-1-1-1-1-1) % 5/1) 0;let A:=a.2.2.2.1<=(c.getD ((15-1-1-1-1-1-1-1)/5) (ak 5 0)).getD ((15-1-1-1-1-1-1-1) % 5/1) 0;let B:=a.2.2.2.1<=(c.getD ((14-1-1-1-1-1-1-1)/5) (ak 5 0)).getD ((14-1-1-1-1-1-1-1) % 5/1) 0;let C:=a.2.2.2.1<=(c.getD ((13-1-1-1-1-1-1-1)/5) (ak 5 0)).getD ((13-1-1-1-1-1-1-1) % 5/1) 0;let D:=a.2.2.2.1<=(c.getD ((12-1-1-1-1-1-1-1)/5) (ak 5 0)).getD ((12-1-1-1-1-1-1-1) % 5/1) 0;let E:=a.2.2.2.1<=(c.getD ((11-1-1-1-1-1-1-1)/5) (ak 5 0)).getD ((11-1-1-1-1-1-1-1) % 5/1) 0;let F:=a.2.2.2.1<=(c.getD ((10-1-1-1-1-1-1-1)/5) (ak 5 0)).getD ((10-1-1-1-1-1-1-1) % 5/1) 0;let z:=(g,h,i,j,k,c,e,l,d,m,n,f,());let q:=zm (0,z);let r:=zm (16,z);(Tr.need (2<=a.1/\a.1<=4/\0<=a.2.1/\a.2.1<5/\fD c/\ci d/\e.length+1<=10000000/\bO 1 f) (Tr.all ((Int×List Tm×KV)×List Fk) (λy=>y.2.length<=e.length+1/\y.1=zl a p c d f n) λy=>Tr.leaf (zm (y.1.1,g,h,i,j,k,c,y.2,l,d,m,y.1.2.2,y.1.2.1,())))).sat Q->Br (!a.1==2) (ac (a.1-3)/\Br (a.1-(3:Int)==0) (Br (a.2.1==0) (Br (decide w) (Q r) (Q q)) (Br (a.2.1==1) (Br (decide v) (Q r) (Q q)) (Br (a.2.1==2) (Br (decide u) (Q r) (Q q)) (Br (a.2.1==3) (Br (decide F) (Q r) (Q q)) (((a.2.1==4)=true->Br (decide E) (Q r) (Q q))/\s))))) (Br (a.1-(3:Int)==1) (Br (a.2.1==0) (Br (decide D) (Q r) (Q q)) (Br (a.2.1==1) (Br (decide C) (Q r) (Q q)) (Br (a.2.1==2) (Br (decide B) (Q r) (Q q)) (Br (a.2.1==3) (Br (decide A) (Q r) (Q q)) (((a.2.1==4)=true->Br (decide x) (Q r) (Q q))/\s))))) (False/\True))) ((f.length<=4294967296/\ci d)/\∀b,let t:=(l,d,m,b.2.2,b.2.1,());b=iV p d f n->Br (b.1==18) (e.length+1<=10000000/\∀(o:List Fk),o.length<=e.length+1->Q ⟨0,b.1,g,h,i,j,k,c,o,t⟩) (Q ⟨0,b.1,g,h,i,j,k,c,e,t⟩))) (by
 conv=>zeta
 unfold Br;rintro⟨k,a,e,n,p,b,s,⟨⟩⟩ lk c G H J K E q L bk d i m Q ⟨⟨R,S,U,W,M,N,O,P⟩,F⟩;dsimp only at*;have j:∀(y:Int×List Tm×KV)(f:List Fk),f.length<=q.length+1->zl (k,a,e,n,p,b,s,()) lk E bk i m=y->Q ⟨0,(y.1,c,G,H,J,K,E,f,L,bk,d,y.2.2,y.2.1,())⟩:=λy f t e=>F (y,f) ⟨t,e.symm⟩;clear F;unfold zl at j;obtain⟨X,Y,a2,a3,a4,b0,b1,b2,b3,b4,u⟩:=vj M;subst u;refine⟨λr=>⟨by unfold ac;omega,λo=>?_,λo=>⟨λv=>?_,λv=>?_⟩⟩,λr=>?_⟩
 case refine_3=>exfalso;have:=jU r;simp only[az,ne_eq]at o v;omega
 case refine_4=>
  have r:=jV r;refine⟨⟨P.le,N⟩,λx g=>⟨λ_=>⟨O,λf t=>j x f t ?_⟩,λ_=>j x q (by omega) ?_⟩⟩
  all_goals rw[af r,g]
 case refine_1=>
  have o:k=3:=by have:=aZ o;omega
  subst o;refine⟨λg=>?_,λw=>⟨λg=>?_,λA=>⟨λg=>?_,λB=>⟨λg=>?_,λC=>⟨λg=>?_,λD=>?_⟩⟩⟩⟩⟩
  case refine_6=>exfalso;simp only[az,ne_eq]at w A B C D;omega
  all_goals
   have g:=aZ g;subst g;exact⟨λh=>j (16,i,m) q (by omega) (Eq.trans (am (show(3:Int)≠2 by decide)) (aH (λz=>(z,i,m)) (am (ag h)))),λh=>j (0,i,m) q (by omega) (Eq.trans (am (show(3:Int)≠2 by decide)) (aH (λz=>(z,i,m)) (af (an h))))⟩
 case refine_2=>
  have o:k=4:=by have:=aZ v;omega
  subst o;refine⟨λg=>?_,λw=>⟨λg=>?_,λA=>⟨λg=>?_,λB=>⟨λg=>?_,λC=>⟨λg=>?_,λD=>?_⟩⟩⟩⟩⟩
  case refine_6=>exfalso;simp only[az,ne_eq]at w A B C D;omega
  all_goals
   have g:=aZ g;subst g;exact⟨λh=>j (16,i,m) q (by omega) (Eq.trans (am (show(4:Int)≠2 by decide)) (aH (λz=>(z,i,m)) (am (ag h)))),λh=>j (0,i,m) q (by omega) (Eq.trans (am (show(4:Int)≠2 by decide)) (aH (λz=>(z,i,m)) (af (an h))))⟩) (l:=λ_=>aM λ_=>⟨(_,[]),aq _,rfl⟩)
def Ds(lk:Lk)(a:Pg)(bk:Ln)(c:Int×Pg)(ts:List Tm)(m:KV):Int×Pg×Ln×List Tm×KV:=
 if c.1≠0 then(c.1,a,bk,ts,m)
 else
  let t:=oa lk bk ts m
  if t.1≠0 then(t.1,a,t.2.1,t.2.2)else(0,c.2,t.2.1,t.2.2)
def Tx(lk:Lk)(a:Pg)(bk:Ln)(b:BL)(ts:List Tm)(m:KV)(y:Int×Pg×Ln×List Tm×KV):Prop:=
 (∃c,y=Ds lk a bk c ts m)/\cr y.2.1/\(a=js->b=eu [iW]->lk.1=0->y=Ds lk a bk (0,ft) ts m)
def Tz:Ct:=⟨4,⟨[sP 0,sS 1 4,(2,true,[.d Aq]),(3,false,[.ptr 7 0])],gG 0++iK 4++rH⟩,[⟨[sI 0],gG 0++lj 4 8++rH++[cT]⟩],λ(lk,c,i,j,l,f,n,o,p,bk,d,g,m,b,a,h,e,_)=>eD (bQ b a/\a=0/\h=true/\e=0/\cr f/\ci bk/\bO 1 g) (λy:(Int×Pg×Ln×List Tm×KV)×Int×Int=>Tx lk f bk b g m y.1) λy=>(y.1.1,c,i,j,l,y.1.2.1,n,o,p,y.1.2.2.1,d,y.1.2.2.2.2,b,y.2.1,h,y.2.2,y.1.2.2.2.1,())⟩
theorem Ga(lk:Lk)(a:Pg)(bk:Ln)(b:BL)(ts:List Tm)(m:KV)(h:cr a):∃y,Tx lk a bk b ts m y:=by
 refine⟨Ds lk a bk (0,ft) ts m,⟨_,rfl⟩,?_,λ_ _ _=>rfl⟩;unfold Ds;rw[af (by simp)];dsimp only;split
 ·exact h
 ·exact zd
def OV:bw:=(179,[Tz])::OU
theorem ZL:KK OV:=kA ZK (cE Tz 0) (∀(r:Lk)(f:Int)(g h:BL)(i:Lg)(e:Pg)(j:La)(k:List Fk)(l:KM)(m:Ln)(n:Int)(o:List Tm)(q:KV)(a:BL)(t:Int)(d:Bool)(u:Int)Q,bd Tz (r,f,g,h,i,e,j,k,l,m,n,o,q,a,t,d,u,()) Q->(bQ a t/\(0:Int)<=64/\(64:Int)<=4096)/\∀(b:List Op×Int×Int),let w:= !cK a b.2.1 d b.2.2==0;let z:=(f,g,h,i,e,j,k,l,m,n,q,a,b.2.1,d,b.2.2,o,());yZ a t d u 64 b->bQ a b.2.1/\Br w (Q ⟨0,cK a b.2.1 d b.2.2,z⟩) (b.1.length<=1000000/\Br (!F1 b.1 r.1) (Q ⟨0,5,z⟩) (cr e/\∀(s:Pg),je e s->(cr s/\b.1.length<=1000000)/\∀(p:Int×Pg),xr s b.1 p->Br (!p.1==0) (Q ⟨0,p.1,z⟩) ((o.length<=4294967295/\ci m)/\∀c,let v:=(j,k,l,c.2.1,n,c.2.2.2,a,b.2.1,d,b.2.2,c.2.2.1,());c=oa r m o q->Br (!c.1==0) (Q ⟨0,c.1,f,g,h,i,e,v⟩) (Q ⟨0,0,f,g,h,i,p.2,v⟩))))) (by
 conv=>zeta
 unfold Br bd;intro lk c L M N i O P R bk d j m b a S e Q ⟨⟨U,W,H,X,C,Y,h7⟩,J⟩;have u:∀(y:Int×Pg×Ln×List Tm×KV)(D E:Int),Tx lk i bk b j m y->Q ⟨0,(y.1,c,L,M,N,y.2.1,O,P,R,y.2.2.1,d,y.2.2.2.2,b,D,S,E,y.2.2.2.1,())⟩:=λy D E h=>J (y,D,E) h;clear J;refine⟨⟨U,by omega,by omega⟩,λg A=>?_⟩;have f:b=eu [iW]->g=([iW],(b.length:Int),0):=λhb=>A.2.2.1 hb W H X rfl
 have refuse:∀r:Int,r≠0->(i=js->b=eu [iW]->lk.1=0->False)->Tx lk i bk b j m (r,i,bk,j,m):=by
  intro r hr hn;refine⟨⟨(r,i),?_⟩,C,λa b c=>(hn a b c).elim⟩;unfold Ds;rw[am hr]
 refine⟨A.1,λF=>u (_,i,bk,j,m) _ _ (refuse _ (jU F) λv n B=>jU F ?_),λF=>⟨by have:=A.2.1;omega,λw=>u (5,i,bk,j,m) _ _ (refuse _ (by decide) λv n B=>?_),λw=>⟨C,λp1 o=>⟨⟨o.1,by have:=A.2.1;omega⟩,λx p=>⟨λq=>u (_,i,bk,j,m) _ _ (refuse _ (jU q) λv n B=>?_),λq=>⟨⟨by have:=h7.2;omega,Y⟩,λt ht=>?_⟩⟩⟩⟩⟩⟩
 ·rw[f n,H];unfold cK;simp
 ·rw[f n,B]at w;have w:(!F1 [iW] 0)=true:=w;revert w;decide
 ·have z:=o.2.1 v;have:=p.2.1 z (by rw[f n]);rw[this]at q;revert q;decide
 ·have q:=jV q
  have K:Ds lk i bk x j m=if t.1≠0 then(t.1,i,t.2.1,t.2.2)else(0,x.2,t.2.1,t.2.2):=by
   unfold Ds;rw[af q,<-ht]
  have s:∀y,y=Ds lk i bk x j m->cr y.2.1->Tx lk i bk b j m y:=by
   intro y s z;refine⟨⟨x,s⟩,z,λv n B=>?_⟩;have z:=o.2.1 v;rw[s,p.2.1 z (by rw[f n])]
  refine⟨λG=>u (t.1,i,t.2.1,t.2.2) _ _ (s _ (by rw[K,am (jU G)]) C),λG=>u (0,x.2,t.2.1,t.2.2) _ _ (s _ (by rw[K,af (jV G)]) p.1)⟩) (l:=λ_=>aM λh=>by obtain⟨y,s⟩:=Ga _ _ _ _ _ _ h.2.2.2.2.1;exact⟨(y,0,0),s⟩)
abbrev Gb:Ty:= .pr .i64 (.pr .i64 (.pr .i64 (.pr .i64 (.pr .bl (.pr .bl (.pr (.sl iG) .un))))))
abbrev Nw:=Gb.den
def jB:Nw:=(0,0,0,0,false,false,[],())
def zn(e:Et)(c:Int)(se:BL):List Mb->KM->List Tm->KV->Int×KM×List Tm×KV
 |[],b,a,m=>(0,b,a,m)
 |p::r,b,a,m=>if p.1≠c then zn e c se r b a m else
  if(lM e c se a m).1.2≠0 then((lM e c se a m).1.2,b,(lM e c se a m).2)else zn e c se r (cD (kt:= .i64) e.1 (lM e c se a m).1.1 b) (lM e c se a m).2.1 (lM e c se a m).2.2
def qh(c:Int)(se:BL)(lg:Lg)(km:KM)(e:Et)(ts:List Tm)(m:KV):(Nw×Int)×Lg×KM×List Tm×KV:=
 lk se (let t:=kg lg e ts m
 if t.1≠0 then((jB,t.1),lg,km,t.2.2)else
  let r:=zn e c se e.2.2.1 km t.2.2.1 t.2.2.2
  if r.1≠0 then((jB,r.1),lg,r.2)else(((1,0,e.1,e.1,false,false,[],()),0),t.2.1,r.2))
def vk(e:Et):Prop:=gg e/\(dL e).length<=100000000/\(fq e).length<=100000000/\aB e.2.2.2.2.2.2.1/\pI e.2.2.1/\(∀b∈e.2.2.2.2.2.1,aB b)/\aB e.2.2.2.2.1
theorem keS{e:Et}{c:Int}{se:BL}{k:Nat}{ts:List Tm}(m:KV)(a:aB se)(b:aB e.2.2.2.2.1)(h:bO (k+2) ts):bO k (lM e c se ts m).2.1:=by
 have f:=(Vk (k:=k) m e.1 c a b h).2;have g:=h.mono (j:=k) (by omega);unfold lM;rw[ck]
 repeat' split
 all_goals first|exact g|exact f
theorem tkS{e:Et}{lg:Lg}{k:Nat}{ts:List Tm}(m:KV)(c:(dL e).length<=100000000)(h:bO (k+1) ts):bO k (kg lg e ts m).2.2.1:=by
 have a:=oJ (k:=k) m h (kD (k:=104) (by decide) (by decide) (show aB (dL e)by unfold aB;omega));have b:=h.mono (j:=k) (by omega);unfold kg;rw[ck]
 repeat' split
 all_goals first|exact b|exact a
theorem tk5{e:Et}{lg:Lg}{ts:List Tm}{m:KV}(h:(kg lg e ts m).1=0):e.2.2.1.length<=5:=by
 cases g:ig e with
 |true=>exact(fX (lm g).2.2.2.1).2.1
 |false=>unfold kg at h;rw[ck,am g]at h;cases h
def KL:Ct:=⟨3,⟨[sP 0,sS 1 4,(2,true,[.d oI])],gG 0++iK 4⟩,[⟨[(0,true,[.d Gb]),sI 1],gG 0++lj 4 7++[cT]⟩],λ(e,c,b,g,a,h,i,j,l,bk,d,f,m,_)=>dy (vk e/\aB b/\aB a.1/\cC a.2.1 a.2.2.1/\a.2.1.length<=100000/\bO 20 f) (qh c b a l e f m) λy=>(y.1.1,y.1.2,c,b,g,y.2.1,h,i,j,y.2.2.1,bk,d,y.2.2.2.2,y.2.2.2.1,())⟩
def ZM:cg:=⟨[sP 0,sS 1 4,(5,false,[.ptr 7 0]),(6,false,[.ptr 8 0]),(8,false,[.ptr 9 0]),(28,false,[.d (.sl iL)]),sI 29,sI 30],gG 0++lj 4 10++[some (.cells [.d oI]),some (.cells [.d Gb])]++sa++[cT]⟩
def Gc(x:KL.inp.den)(y:ZM.den):Prop:=match x,y with
 |(e,c,g,v,a,w,z,A,B,bk,d,f,m,_),(l,n,i,C,h,j,o,ft,p,q,r,s,D,E,F,G,H,t,u,b,_)=>(C,h,j,o,ft,p,q,s,D,F,G)=(c,g,v,a,w,z,A,bk,d,e,jB)/\l=e.2.2.1/\n=l.length/\
  (kg a e f m).1=0/\(H,t,u,())=(kg a e f m).2.1/\∃k:Nat,i=k/\k<=l.length/\bO (2*(5-k)) b/\zn e c g (l.drop k) r b E=zn e c g l B (kg a e f m).2.2.1 (kg a e f m).2.2.2
def a3h(x:KL.inp.den):dB:=⟨[(6,bK ZM (Gc x) λ(_,n,i,_)=>(n-i).toNat)],[],[],[],0⟩
def OX:bw:=(127,[KL])::OV
theorem Ge:KK OX:=kA ZL a3h (∀(d:Et)(h:Int)(i j:BL)(c:Lg)(k:Pg)(l:La)(m:List Fk)(n:KM)(o:Ln)(p:Int)(q:List Tm)(s:KV)Q,let x:=(d,h,i,j,c,k,l,m,n,o,p,q,s,());bd KL x Q->cC c.2.1 c.2.2.1/\(aB c.1/\gg d/\ah (dL d)<=100000000/\aB d.2.2.2.2.2.2.1/\pI d.2.2.1/\cC c.2.1 c.2.2.1/\ah c.2.1<=100000/\bO 1 q)/\∀b,b=kg c d q s->Br (!b.1==0) (Q ⟨0,(0,0,0,0,false,false,[],()),b.1,h,i,j,c,k,l,m,n,o,p,b.2.2.2,b.2.2.1,()⟩) (Is (Gc x (d.2.2.1,nI d.2.2.1,0,h,i,j,c,k,l,m,n,o,p,b.2.2.2,d,(0,0,0,0,false,false,[],()),b.2.1.1,b.2.1.2.1,b.2.1.2.2.1,b.2.2.1,()))/\∀(t:List Mb)(f a g:Int)(r u:BL)(D:Lg)(v:Pg)(w:La)(y:List Fk)(z:KM)(A:Ln)(B:Int)(E:KV)(e:Et)(J:Nw)(F:BL)(G:List Et)(H:List BL)(C:List Tm),let L:= !(gD t a (0,[],[],())).1==g;let K:=(g,r,u,D,v,w,y,z,A,B,E,e,J,F,G,H,C,());Gc x (t,f,a,K)->Bd (a<f) (iN a t/\Br L (ac (a+1)/\Is (Gc x (t,f,a+1,K)/\lN (f-(a+1)) (f-a))) ((aB r/\gg e/\ah (fq e)<=100000000/\(∀(b:BL),b∈e.2.2.2.2.2.1->aB b)/\aB e.2.2.2.2.1/\bO 2 C)/\∀b,b=lM e g r C E->Br (!b.1.2==0) (Q ⟨0,(0,0,0,0,false,false,[],()),b.1.2,g,r,u,D,v,w,y,z,A,B,b.2.2,b.2.1,()⟩) (ac (a+1)/\Is (Gc x (t,f,a+1,g,r,u,D,v,w,y,dD Ty.i64 e.1 b.1.1 z,A,B,b.2.2,e,J,F,G,H,b.2.1,())/\lN (f-(a+1)) (f-a))))) (Q ⟨0,(1,0,e.1,e.1,false,false,[],()),0,g,r,u,(F,G,H,()),v,w,y,z,A,B,E,C,()⟩))) (by
 conv=>zeta
 unfold Bd Br gD iN lN nI bd;intro e c J sg r pg la fk K bk d L m Q ⟨⟨h1,M,h3,N,h5,O⟩,P⟩;have g:∀y,qh c J r K e L m=y->Q ⟨0,(y.1.1,y.1.2,c,J,sg,y.2.1,pg,la,fk,y.2.2.1,bk,d,y.2.2.2.2,y.2.2.2.1,())⟩:=λy e=>P y e.symm;clear P;obtain⟨R,S,p3,p4,p5,p6,U⟩:=h1;unfold qh at g;simp only[ck]at g;refine⟨N,⟨h3,R,S,p4,p5,N,h5,O.mono (by omega)⟩,λt b=>?_⟩;have st:=tkS (lg:=r) (k:=10) m S (O.mono (by omega));have s:=tk5 (e:=e) (lg:=r) (ts:=L) (m:=m);refine⟨λf=>g ((jB,t.1),r,K,t.2.2) (by rw[<-b];exact am (jU f)),λf=>?_⟩;have f:t.1=0:=aC.1 (jV f);rw[<-b]at g st s;have s:=s f;simp only[ne_eq,f,not_true_eq_false,if_false]at g;refine⟨⟨rfl,rfl,rfl,by rw[<-b];exact f,by rw[<-b],0,rfl,aq _,st,by rw[<-b];rfl⟩,?_⟩;rintro l n i c1 w a0 x ft a2 a3 p a4 d1 W A nw a1 a5 a6 q ⟨X,B,g2,-,u,k,g5,hk,hs,a⟩;simp only[Prod.mk.injEq]at X;obtain⟨f1,f2,f3,f4,f5,f6,f7,f8,f9,C,D⟩:=X;subst f1 f2 f3 f4 f5 f6 f7 f8 f9 C D g2 g5;rw[<-b]at u a;rw[<-B]at g s;refine⟨λE=>?_,λF=>?_⟩
 ·have j:k<l.length:=by simp only[ai]at E;omega
  have ek:((k:Int).toNat)=k:=by omega
  have o:bO (2*(5-(k+1))+2) q:=hs.mono (by omega);rw[cZ (z:=((0,[],[],()):Mb)) j]at a;rw[ek];generalize l.getD k (0,[],[],())=H at*;simp only[zn]at a;refine⟨by omega,λG=>⟨by unfold ac;omega,⟨rfl,B,rfl,by rw[<-b];exact f,by rw[<-b];exact u,k+1,rfl,j,o.mono (by omega),?_⟩,by omega⟩,λG=>⟨⟨M,R,p3,p6,U,o.mono (by omega)⟩,λz Y=>?_⟩⟩
  ·rw[am (jU G)]at a;rw[<-b];exact a
  ·rw[af (jV G),<-Y]at a;have sz:=keS (e:=A) (c:=c1) (se:=w) W M U o;rw[<-Y]at sz;refine⟨λv=>g ((jB,z.1.2),x,p,z.2) ?_,λv=>⟨by unfold ac;omega,⟨rfl,B,rfl,by rw[<-b];exact f,by rw[<-b];exact u,k+1,rfl,j,sz,?_⟩,by omega⟩⟩
   ·rw[am (jU v)]at a;rw[<-a];exact am (jU v)
   ·rw[af (jV v)]at a;rw[<-b];exact a
 ·have:l.drop k=[]:=bC (by simp only[aj]at F;omega);rw[this]at a;simp only[zn]at a;have:=g (((1,0,A.1,A.1,false,false,[],()),0),t.2.1,p,q,W) (by rw[<-a];exact af (λh=>h rfl));rw[<-u]at this;exact this) (l:=λ_=>bp)
theorem Gf(x:xx.inp.den):Live (xx.spec x):=aM λ_=>⟨_,[],rfl⟩
def Gg:Ct:=⟨4,⟨[sP 0,sS 1 4,(2,false,[.k (.i64 4)]),MF 3 125 7],gG 0++iK 4++toB 0⟩,[⟨[(0,false,[.d tB]),sI 1],gG 0++lj 4 8++toB 0++[cT]⟩],λ(c,i,b,a,e,f,j,g,bk,d,h,m,_)=>eD (0<=c/\c<5/\fD f/\cC a.2.1 a.2.2.1/\ci bk/\cr e/\bO 4 h) (λy=>∃l:List Op,y=mA 4 (ma bk [] 5++eu l) c b a f g h m) λy=>(y.1.1,y.1.2,c,i,b,a,e,y.2.1,j,g,bk,d,y.2.2.2,y.2.2.1,())⟩
abbrev Gh(v:BL×Int×Int×BL×BL×Lg×Pg×La×List Fk×KM×Ln×Int×KV×List Tm×Unit):cw Gg.out:=⟨0,v⟩
theorem TB:bS Tryz.prog 121 Gg:=kC Ge (cE Gg 0) (∀(c:Int)(i f:BL)(e:Lg)(g:Pg)(d:La)(j:List Fk)(k:KM)(h:Ln)(m:Int)(l:List Tm)(n:KV)(Q:cw Gg.out->Prop),let s:=(c,i,f,e,g,d,j,k,h,m,n,l,());let p:=ci h/\cr g;let t:=Gh ([],14,s);let B:=d.getD ((16-1-1-1-1-1-1-1)/5) (ak 5 0);let G:=B.getD ((16-1-1-1-1-1-1-1) % 5/1) (0:Int)==1048576;let q:=B.getD ((16-1-1-1-1-1-1-1) % 5/1) 0+1;let C:=d.getD ((15-1-1-1-1-1-1-1)/5) (ak 5 0);let H:=C.getD ((15-1-1-1-1-1-1-1) % 5/1) (0:Int)==1048576;let r:=C.getD ((15-1-1-1-1-1-1-1) % 5/1) 0+1;let D:=d.getD ((14-1-1-1-1-1-1-1)/5) (ak 5 0);let J:=D.getD ((14-1-1-1-1-1-1-1) % 5/1) (0:Int)==1048576;let K:=D.getD ((14-1-1-1-1-1-1-1) % 5/1) 0+1;let E:=d.getD ((13-1-1-1-1-1-1-1)/5) (ak 5 0);let L:=E.getD ((13-1-1-1-1-1-1-1) % 5/1) (0:Int)==1048576;let M:=E.getD ((13-1-1-1-1-1-1-1) % 5/1) 0+1;let F:=d.getD ((12-1-1-1-1-1-1-1)/5) (ak 5 0);let N:=F.getD ((12-1-1-1-1-1-1-1) % 5/1) (0:Int)==1048576;let O:=F.getD ((12-1-1-1-1-1-1-1) % 5/1) 0+1;let z:=Ch.cells [I.d Ty.i64 c,I.d Ty.u8.sl i,I.d Ty.u8.sl f,I.pv (Ty.u8.sl.pr ((Ty.i64.pr (Ty.u8.sl.pr ((Ty.i64.pr (Ty.u8.sl.pr (Ty.u8.sl.pr Ty.un))).sl.pr (cq.sl.pr (Ty.u8.sl.pr (Ty.u8.sl.sl.pr (Ty.u8.sl.pr Ty.un))))))).sl.pr (Ty.u8.sl.sl.pr Ty.un))) e,I.mp 1,I.ptr 2 0,I.pv ((cq.fm (Ty.i64.pr (Ty.i64.pr (Ty.i64.pr (Ty.i64.pr (Ty.bl.pr (Ty.i32.pr Ty.un))))))).pr ((cq.fm Ty.i64).pr ((Ty.i64.pr (Ty.i64.pr (Ty.i64.pr (Ty.i64.pr (Ty.bl.pr (Ty.i32.pr Ty.un)))))).sl.pr (((cq.fm (Ty.i64.pr (Ty.i64.pr (Ty.i32.pr (Ty.bl.pr ((Ty.ar 2 cq.sl).pr Ty.un)))))).pr (Ty.i64.pr Ty.un)).pf.pr (((Ty.i64.pr (Ty.i64.pr (Ty.i64.pr (Ty.i64.pr (Ty.bl.pr (Ty.i64.pr (Ty.i64.pr (Ty.bl.pr cq)))))))).sl.pr Ty.un).pf.pr Ty.un))))) g,I.d (Ty.ar 2 (Ty.ar 5 Ty.i64)) d,I.d cq.sl j]=Ch.cells [I.d Ty.i64 c,I.d Ty.u8.sl i,I.d Ty.u8.sl f,I.pv (Ty.u8.sl.pr ((Ty.i64.pr (Ty.u8.sl.pr ((Ty.i64.pr (Ty.u8.sl.pr (Ty.u8.sl.pr Ty.un))).sl.pr (cq.sl.pr (Ty.u8.sl.pr (Ty.u8.sl.sl.pr (Ty.u8.sl.pr Ty.un))))))).sl.pr (Ty.u8.sl.sl.pr Ty.un))) e,I.mp 1,I.ptr 2 0,I.pv ((cq.fm (Ty.i64.pr (Ty.i64.pr (Ty.i64.pr (Ty.i64.pr (Ty.bl.pr (Ty.i32.pr Ty.un))))))).pr ((cq.fm Ty.i64).pr ((Ty.i64.pr (Ty.i64.pr (Ty.i64.pr (Ty.i64.pr (Ty.bl.pr (Ty.i32.pr Ty.un)))))).sl.pr (((cq.fm (Ty.i64.pr (Ty.i64.pr (Ty.i32.pr (Ty.bl.pr ((Ty.ar 2 cq.sl).pr Ty.un)))))).pr (Ty.i64.pr Ty.un)).pf.pr (((Ty.i64.pr (Ty.i64.pr (Ty.i64.pr (Ty.i64.pr (Ty.bl.pr (Ty.i64.pr (Ty.i64.pr (Ty.bl.pr cq)))))))).sl.pr Ty.un).pf.pr Ty.un))))) g,I.d (Ty.ar 2 (Ty.ar 5 Ty.i64)) d,I.d cq.sl j]/\True;(Tr.need (0<=c/\c<5/\fD d/\cC e.2.1 e.2.2.1/\ci h/\cr g/\bO 4 l) (Tr.all ((BL×Int)×La×List Tm×KV) (λy=>∃o,y=mA 4 (ma h [] 5++eu o) c f e d k l n) λy=>Tr.leaf (Gh (y.1.1,y.1.2,c,i,f,e,g,y.2.1,j,k,h,m,y.2.2.2,y.2.2.1,())))).sat Q->cC e.2.1 e.2.2.1/\Br (!na c e==0) (Q ⟨0,[],na c e,s⟩) (Br (c==0) (Br N (Q t) (ac O/\p/\∀(b:BL),(∃c,c.length<=9000/\b=ma h [] 5++eu c)->z/\bO 4 l/\∀a,let u:=(j,k,h,m,a.2.2,a.2.1,());a=nl c f e k (4,0,0,F.getD ((12-1-1-1-1-1-1-1) % 5/1) 0+1,[],[],[],()) b l n->Br (!a.1.2==0) (Q ⟨0,[],a.1.2,c,i,f,e,g,d,u⟩) (ac O/\0+ah a.1.1.2.2.2.2.1+ah a.1.1.2.2.2.2.2.1+ah a.1.1.2.2.2.2.2.2.1<=1000000000/\Q ⟨0,gh a.1.1,0,c,i,f,e,g,d.set ((12-1-1-1-1-1-1-1)/5) (F.set ((12-1-1-1-1-1-1-1) % 5/1) O),u⟩))) (Br (c==1) (Br L (Q t) (ac M/\p/\∀(b:BL),(∃c,c.length<=9000/\b=ma h [] 5++eu c)->z/\bO 4 l/\∀a,let v:=(j,k,h,m,a.2.2,a.2.1,());a=nl c f e k (4,0,0,E.getD ((13-1-1-1-1-1-1-1) % 5/1) 0+1,[],[],[],()) b l n->Br (!a.1.2==0) (Q ⟨0,[],a.1.2,c,i,f,e,g,d,v⟩) (ac M/\0+ah a.1.1.2.2.2.2.1+ah a.1.1.2.2.2.2.2.1+ah a.1.1.2.2.2.2.2.2.1<=1000000000/\Q ⟨0,gh a.1.1,0,c,i,f,e,g,d.set ((13-1-1-1-1-1-1-1)/5) (E.set ((13-1-1-1-1-1-1-1) % 5/1) M),v⟩))) (Br (c==2) (Br J (Q t) (ac K/\p/\∀(b:BL),(∃c,c.length<=9000/\b=ma h [] 5++eu c)->z/\bO 4 l/\∀a,let w:=(j,k,h,m,a.2.2,a.2.1,());a=nl c f e k (4,0,0,D.getD ((14-1-1-1-1-1-1-1) % 5/1) 0+1,[],[],[],()) b l n->Br (!a.1.2==0) (Q ⟨0,[],a.1.2,c,i,f,e,g,d,w⟩) (ac K/\0+ah a.1.1.2.2.2.2.1+ah a.1.1.2.2.2.2.2.1+ah a.1.1.2.2.2.2.2.2.1<=1000000000/\Q ⟨0,gh a.1.1,0,c,i,f,e,g,d.set ((14-1-1-1-1-1-1-1)/5) (D.set ((14-1-1-1-1-1-1-1) % 5/1) K),w⟩))) (Br (c==3) (Br H (Q t) (ac r/\p/\∀(b:BL),(∃c,c.length<=9000/\b=ma h [] 5++eu c)->z/\bO 4 l/\∀a,let x:=(j,k,h,m,a.2.2,a.2.1,());a=nl c f e k (4,0,0,C.getD ((15-1-1-1-1-1-1-1) % 5/1) 0+1,[],[],[],()) b l n->Br (!a.1.2==0) (Q ⟨0,[],a.1.2,c,i,f,e,g,d,x⟩) (ac r/\0+ah a.1.1.2.2.2.2.1+ah a.1.1.2.2.2.2.2.1+ah a.1.1.2.2.2.2.2.2.1<=1000000000/\Q ⟨0,gh a.1.1,0,c,i,f,e,g,d.set ((15-1-1-1-1-1-1-1)/5) (C.set ((15-1-1-1-1-1-1-1) % 5/1) r),x⟩))) (Br (c==4) (Br G (Q t) (ac q/\p/\∀(b:BL),(∃c,c.length<=9000/\b=ma h [] 5++eu c)->z/\bO 4 l/\∀a,let A:=(j,k,h,m,a.2.2,a.2.1,());a=nl c f e k (4,0,0,B.getD ((16-1-1-1-1-1-1-1) % 5/1) 0+1,[],[],[],()) b l n->Br (!a.1.2==0) (Q ⟨0,[],a.1.2,c,i,f,e,g,d,A⟩) (ac q/\0+ah a.1.1.2.2.2.2.1+ah a.1.1.2.2.2.2.2.1+ah a.1.1.2.2.2.2.2.2.1<=1000000000/\Q ⟨0,gh a.1.1,0,c,i,f,e,g,d.set ((16-1-1-1-1-1-1-1)/5) (B.set ((16-1-1-1-1-1-1-1) % 5/1) q),A⟩))) (False/\True))))))) (by
 conv=>zeta
 unfold Br;intro c w l n x A B o bk d C m Q ⟨⟨p,q,g,h,D,E,r⟩,s⟩;have a:∀t y,mA 4 (ma bk [] 5++eu t) c l n A o C m=y->Q ⟨0,(y.1.1,y.1.2,c,w,l,n,x,y.2.1,B,o,bk,d,y.2.2.2,y.2.2.1,())⟩:=λt y e=>s y ⟨t,e.symm⟩;clear s;unfold mA at a;simp only[ck]at a;have hB:=ZG g;refine⟨h,λf=>a [] _ (am (jU f)),λf=>?_⟩;have f:=jV f;simp only[f,if_false]at a;obtain⟨H,J,K,L,M,N,O,P,R,S,i⟩:=vj g;subst i;refine⟨λb=>?_,λF=>⟨λb=>?_,λp=>⟨λb=>?_,λq=>⟨λb=>?_,λg=>⟨λb=>?_,λh=>?_⟩⟩⟩⟩⟩
 case refine_6=>exfalso;simp only[az,ne_eq]at F p q g h;omega
 all_goals
  have b:=aZ b;subst b;refine⟨λe=>a [] _ (am (aZ e)),λe=>?_⟩;refine⟨inB (hB _ _),⟨D,E⟩,?_⟩;rintro t ⟨u,G,rfl⟩;refine⟨by repeat' (first|exact True.intro|rfl|apply cc),r,λz v=>?_⟩;have U:=snE v r;subst v;exact⟨λj=>a u _ (Eq.trans (af (aE e)) (am (jU j))),λj=>⟨inB (hB _ _),by omega,a u _ (Eq.trans (af (aE e)) (af (jV j)))⟩⟩)
def OY:bw:=(121,[Gg,xx])::OX
theorem ZN:KK OY:=⟨aQ.add Ge.1 (by kernel_rfl) (fQ (TB) (bo (F8))),bg.add Ge.2 (fQ (λ_=>aM λ_=>⟨_,[],rfl⟩) (bo (Gf)))⟩
def TC:Ct:=⟨2,⟨[sP 0,sS 1 4],gG 0++iK 4⟩,[⟨[(0,false,[.d tB]),sI 1],gG 0++lj 4 7++[cT]⟩],λ(c,i,b,a,j,e,f,g,bk,d,h,m,_)=>eD (0<=c/\c<5/\fD e/\cC a.2.1 a.2.2.1/\ci bk/\pM f/\bO 4 h) (λy=>∃t:BL,y=mA 3 t c b a e g h m) λy=>(y.1.1,y.1.2,c,i,b,a,j,y.2.1,f,g,bk,d,y.2.2.2,y.2.2.1,())⟩
def OZ:bw:=(77,[TC])::OY
theorem ZO:KK OZ:=kA ZN (cE TC 0) (∀(a:Int)(j d:BL)(c:Lg)(k:Pg)(e:La)(f:List Fk)(g:KM)(h:Ln)(l:Int)(i:List Tm)(m:KV)Q,bd TC (a,j,d,c,k,e,f,g,h,l,i,m,()) Q->(0<=a/\a<5/\fD e/\cC c.2.1 c.2.2.1/\ci h/\pM f/\bO 4 i)/\∀(b:(BL×Int)×La×List Tm×KV),(∃n,b=mA 3 n a d c e g i m)->Q ⟨0,b.1.1,b.1.2,a,j,d,c,k,b.2.1,f,g,h,l,b.2.2.2,b.2.2.1,()⟩) (by
 unfold bd;intro c f g i j n o p bk d q m Q ⟨h,a⟩;exact⟨h,λb e=>a b e⟩) (l:=λ_=>aM λ_=>⟨_,[],rfl⟩)
def TD:Ct:=⟨2,⟨[sP 0,sS 1 4],gG 0++iK 4⟩,[⟨[(0,false,[.d tB]),sI 1],gG 0++lj 4 7++[cT]⟩],λ(c,i,b,a,e,f,j,g,bk,d,h,m,_)=>eD (0<=c/\c<5/\fD f/\cC a.2.1 a.2.2.1/\ci bk/\cr e/\bO 4 h) (λy=>∃l:List Op,y=mA 4 (ma bk [] 5++eu l) c b a f g h m) λy=>(y.1.1,y.1.2,c,i,b,a,e,y.2.1,j,g,bk,d,y.2.2.2,y.2.2.1,())⟩
def O0:bw:=(78,[TD])::OZ
theorem ZP:KK O0:=kA ZO (cE TD 0) (∀(a:Int)(j e:BL)(c:Lg)(f:Pg)(g:La)(k:List Fk)(h:KM)(d:Ln)(l:Int)(i:List Tm)(m:KV)Q,bd TD (a,j,e,c,f,g,k,h,d,l,i,m,()) Q->(0<=a/\a<5/\fD g/\cC c.2.1 c.2.2.1/\ci d/\cr f/\bO 4 i)/\∀(b:(BL×Int)×La×List Tm×KV),(∃n,b=mA 4 (ma d [] 5++eu n) a e c g h i m)->Q ⟨0,b.1.1,b.1.2,a,j,e,c,f,b.2.1,k,h,d,l,b.2.2.2,b.2.2.1,()⟩) (by
 unfold bd;intro c f g i j n o p bk d q m Q ⟨h,a⟩;exact⟨h,λb e=>a b e⟩) (l:=λ_=>aM λ_=>⟨_,[],rfl⟩)
def TE:Ct:=⟨1,⟨[sP 0],gG 0⟩,[⟨[(0,false,[.ptr 4 0])],gG 0++E5 4⟩],λ(c,b,e,f,a,g,h,i,bk,_)=>eD (cr a) (je a) λq=>(c,b,e,f,a,g,h,i,bk,q.1,q.2.1,q.2.2.1,q.2.2.2.1.2.1,q.2.2.2.1.1,q.2.2.2.2.1.1,())⟩
def O1:bw:=(22,[TE])::O0
theorem ZQ:KK O1:=kA ZP (cE TE 0) (∀(c:Int)(d e:BL)(f:Lg)(a:Pg)(g:La)(h:List Fk)(i:KM)(j:Ln)Q,bd TE (c,d,e,f,a,g,h,i,j,()) Q->cr a/\∀(b:Pg),je a b->Q ⟨0,c,d,e,f,a,g,h,i,j,b.1,b.2.1,b.2.2.1,b.2.2.2.1.2.1,b.2.2.2.1.1,b.2.2.2.2.1⟩) (by
 unfold bd;intro c e f g i j m n bk Q ⟨h,a⟩;exact⟨h,λq b=>a q b⟩) (l:=λ_=>aM λ_=>iX _)
def TG:Ct:=⟨1,⟨[sP 0],gG 0⟩,[⟨[sO 0 4],gG 0++[cHd]⟩],λ(c,a,b,e,f,g,h,i,bk,_)=>one (ci bk) (c,a,b,e,f,g,h,i,bk,sH bk 5,())⟩
def O2:bw:=(70,[TG])::O1
theorem ZR:KK O2:=kA ZQ (cE TG 0) (∀(b:Int)(c d:BL)(e:Lg)(f:Pg)(g:La)(h:List Fk)(i:KM)(a:Ln)Q,bd TG (b,c,d,e,f,g,h,i,a,()) Q->ci a/\Q ⟨0,b,c,d,e,f,g,h,i,a,sH a 5,()⟩) (by
 unfold bd;intro c b e f g i j l bk Q ⟨h,a⟩;exact⟨h,a⟩)
def TH:Ct:=⟨2,⟨[sO 0 0,(1,true,[.d iG])],[Ij]⟩,[⟨[sI 0],[Ij]⟩],λ(x,l,_)=> .need (l.length<=1000000000) (.all Int (λy=>(0<=y↔x∈l)) λy=> .leaf ⟨0,(y,l,())⟩)⟩
def ZS:cg:=⟨[sO 0 0,(3,false,[.ptr 1 0]),sI 7,sI 8],[Ij,some (.cells [.d iG])]⟩
def KN(x:Fk)(l:List Fk)(y:ZS.den):Prop:=match y with
 |(n,i,a,b,_)=>a=l/\b=x/\n=l.length/\∃k:Nat,i=k/\k<=l.length/\x∉l.take k
def a3i(x:TH.inp.den):dB:=⟨[(2,bK ZS (KN x.1 x.2.1) λ(n,i,_)=>(n-i).toNat)],[],[],[],0⟩
def O3:bw:=(214,[TH])::O2
theorem Gi:KK O3:=kA ZR a3i (∀(f:Fk)(c:List Fk)Q,bd TH (f,c,()) Q->Is (KN f c (nI c,0,c,f,()))/\∀(d a:Int)(b:List Fk)(e:Fk),let z:=e.1==(gD b a (0,0,())).1&&e.2.1==(gD b a (0,0,())).2.1;KN f c (d,a,b,e,())->Bd (a<d) (iN a b/\Br z (Q ⟨0,a,b,()⟩) (ac (a+1)/\Is (KN f c (d,a+1,b,e,())/\lN (d-(a+1)) (d-a)))) (Q ⟨0,(-1:Int),b,()⟩)) (by
 conv=>zeta
 unfold Bd Br gD iN lN nI bd;rintro x l Q ⟨t,f⟩;refine⟨⟨rfl,rfl,rfl,0,rfl,aq _,by simp⟩,?_⟩;rintro n i g m ⟨o,p,q,k,r,u,j⟩;subst o;subst p;subst q;subst r;refine⟨λc=>?_,λe=>?_⟩
 ·have b:k<g.length:=by simp only[ai]at c;omega
  have s:((k:Int).toNat)=k:=by omega
  rw[s];refine⟨by omega,λh=>f _ ?_,λh=>⟨?_,⟨rfl,rfl,rfl,k+1,rfl,b,?_⟩,by omega⟩⟩
  ·constructor
   ·intro _
    have:m=g[k]:=by
     simp only[aI,aR,aw,ap b,di]at h;exact r6 h.1 (r6 h.2 rfl)
    rw[this];exact kB b
   ·intro _;omega
  ·unfold ac;omega
  ·rw[dW,ap b];intro a;simp only[Option.toList_some,bb,cf]at a;rcases a with a|a
   ·exact j a
   ·rw[aw,ap b,di,<-a]at h;simp at h
 ·simp only[aj]at e;refine f _ ⟨λh=>absurd h (by omega),λh=>absurd ?_ j⟩
  rwa [bf (by omega)]) (l:=λx=>Live.need λ_=>Live.all ⟨if x.1∈x.2.1 then 0 else-1,by split<;>simp_all,Live.leaf⟩)
def KO:Ct:=⟨2,⟨[sO 0 0,(1,true,[.d iG])],[Ij]⟩,[⟨[sL 0],[Ij]⟩],λ(x,l,_)=>one (l.length<=1000000000) (decide (x∈l),l,())⟩
theorem TJ:bS Tryz.prog 198 KO:=kC Gi (cE KO 0) (∀(c:Fk)(a:List Fk)Q,bd KO (c,a,()) Q->a.length<=1000000000/\∀(b:Int),(0<=b↔c∈a)->Q ⟨0,decide (0<=b),a,()⟩) (by
 unfold bd;rintro x y Q ⟨a,c⟩;refine⟨a,λb e=>?_⟩;have:decide (0<=b)=decide (x∈y):=by simp only[e]
 rw[this];exact c)
def O4:bw:=(198,[KO,EZ])::O3
theorem ZT:KK O4:=⟨aQ.add Gi.1 (by kernel_rfl) (fQ (TJ) (bo (E0))),bg.add Gi.2 (fQ (λ_=>bJ) (bo (λ_=>bJ)))⟩
abbrev hdY:=(Rl×List Fk×Int)×List Fk×Int×Int
def CU:Ct:=⟨2,⟨[sP 0,(1,false,[.ptr 4 0])],gG 0++rH⟩,[⟨[(0,true,[.d tRl]),(1,false,[.d (.sl iG)]),sI 2],gG 0++rH⟩],λ(c,g,h,i,j,l,f,n,bk,b,a,m,e,_)=>eD (bQ b a/\ci bk/\f.length+1000<=10000000) (λy:hdY=>y.1.2.1.length<=300/\y.2.1.length<=f.length+300) λy=>(y.1.1,y.1.2.1,y.1.2.2,c,g,h,i,j,l,y.2.1,n,bk,b,y.2.2.1,m,y.2.2.2,())⟩
def ZU(j:Nat):cg:=⟨[sP 0,(1,false,[.ptr 4 0]),(4,false,[.ptr 5 0]),sO 7 6,sI j,sI (j+1)],gG 0++rH++[some (.cells [.d .bl, .d .bl]),some (.sl Ii)]⟩
def KP(x:CU.inp.den)(y:(ZU 18).den):Prop:=match x,y with
 |(c,q,r,s,t,u,w,A,bk,b,a,m,e,_),(n,i,B,f,g,h,ft,j,l,o,p,C,D,E,F,z,G,v,_)=>(B,f,g,h,ft,j,l,o,p,C,E)=(c,q,r,s,t,u,w,A,bk,b,m)/\bQ b D/\@bc Int _ n 5/\∃k:Nat,i=k/\@bc Int _ (k:Int) (@max Int _ n 0)/\v.length=k
def O5:cg:=⟨[sP 0,(1,false,[.ptr 4 0]),(4,false,[.ptr 5 0]),(7,false,[.d (.sl Ii)]),sO 9 6,sI 36,sI 37],gG 0++rH++[some (.cells [.d .bl, .d .bl]),Ij]⟩
def A6(x:CU.inp.den)(y:O5.den):Prop:=match x,y with
 |(c,q,r,t,u,w,A,B,bk,b,a,m,e,_),(v,n,i,C,f,g,h,ft,j,l,o,p,D,E,F,G,z,H,s,_)=>(C,f,g,h,ft,j,l,o,p,D,F)=(c,q,r,t,u,w,A,B,bk,b,m)/\bQ b E/\v.length<=5/\@bc Int _ n 255/\∃k:Nat,i=k/\@bc Int _ (k:Int) (@max Int _ n 0)/\s.length=k
def O6:cg:=⟨[sP 0,(1,false,[.ptr 4 0]),(4,false,[.ptr 5 0]),(12,false,[.ptr 6 0]),sO 13 7,(69,false,[.d (.sl iG)]),sI 70,sI 71],gG 0++rH++[some (.cells [.d .bl, .d .bl]),some (.cells [.d .bl, .d .bl]),Ij]⟩
def xy(x:CU.inp.den)(y:O6.den):Prop:=match x,y with
 |(c,t,u,v,w,A,B,C,bk,b,a,m,e,_),(s,n,i,D,g,h,j,ft,l,o,p,q,E,G,F,H,z,J,r,K,f,_)=>(D,g,h,j,ft,l,o,p,q,E,F)=(c,t,u,v,w,A,B,C,bk,b,m)/\s.length<=255/\n=s.length/\∃k:Nat,i=k/\k<=s.length/\f.length<=5+k
def a3j(x:CU.inp.den):dB:=⟨[(3,bK (ZU 18) (KP x) λ(n,i,_)=>(n-i).toNat),(11,bK O5 (A6 x) λ(_,n,i,_)=>(n-i).toNat),(23,bK O6 (xy x) λ(_,n,i,_)=>(n-i).toNat)],[],[],[],0⟩
def O7:bw:=(180,[CU])::O4
theorem ZV:KK O7:=kA ZT a3j (∀(g:Int)(h i:BL)(j:Lg)(k:Pg)(l:La)(m:List Fk)(n:KM)(o:Ln)(c:BL)(d:Int)(e:Bool)(p:Int)Q,let x:=(g,h,i,j,k,l,m,n,o,c,d,e,p,());bd CU x Q->bQ c d/\∀b,b=cW c d e p 0 5->Is (KP x (b.1,0,g,h,i,j,k,l,m,n,o,c,b.2.1,e,b.2.2,false,false,[],()))/\∀(C y X:Int)(Y d5:BL)(d6:Lg)(d7:Pg)(d8:La)(d9:List Fk)(e0:KM)(e1:Ln)(q:BL)(D:Int)(z:Bool)(e2:Int)(e3 e4:Bool)(H:List (Int×Int×BL×Unit)),KP x (C,y,X,Y,d5,d6,d7,d8,d9,e0,e1,q,D,z,e2,e3,e4,H,())->Bd (y<C) (bQ q D/\∀b,b=cW q D z e2 0 4->bQ q b.2.1/\∀r,r=cW q b.2.1 z b.2.2 1 1048576->bQ q r.2.1/\∀J,J=gC q r.2.1 z r.2.2 32->(H.length+1)*40<=mM/\ac (y+1)/\Is (KP x (C,y+1,X,Y,d5,d6,d7,d8,d9,e0,e1,q,J.2.1,z,J.2.2,e3,e4,H++[(b.1,r.1,J.1,())],())/\lN (C-(y+1)) (C-y))) (bQ q D/\∀b,b=cW q D z e2 0 255->Is (A6 x (H,b.1,0,X,Y,d5,d6,d7,d8,d9,e0,e1,q,b.2.1,z,b.2.2,e3,e4,[],()))/\∀(K:List (Int×Int×BL×Unit))(E A L:Int)(M N:BL)(O:Lg)(P:Pg)(R:La)(S:List Fk)(U:KM)(F:Ln)(f:BL)(s:Int)(t:Bool)(w:Int)(e5 e6:Bool)(G:List Fk),let z3:=(L,M,N,O,P,R,S,U,F,f,s,t,w,());A6 x (K,E,A,L,M,N,O,P,R,S,U,F,f,s,t,w,e5,e6,G,())->Bd (A<E) (bQ f s/\∀b,b=cW f s t w 0 4->bQ f b.2.1/\∀r,r=cW f b.2.1 t b.2.2 1 1048576->(G.length+1)*16<=mM/\ac (A+1)/\Is (A6 x (K,E,A+1,L,M,N,O,P,R,S,U,F,f,r.2.1,t,r.2.2,e5,e6,G++[(b.1,r.1,())],())/\lN (E-(A+1)) (E-A))) (bQ f s/\Br (!cK f s t w==0) (Q ⟨0,(false,false,()),[],cK f s t w,z3⟩) ((ci F/\K.length<=1000000)/\∀(b:(Bool×Bool×Unit)×List Fk×Int),b.2.1.length<=K.length/\(b.2.2=0\/b.2.2=1)->Br (!b.2.2==0) (Q ⟨0,(false,false,()),[],5,z3⟩) (Is (xy x (G,nI G,0,L,M,N,O,P,R,S,U,F,f,s,t,w,e5,e6,b.1.1,b.1.2.1,b.2.1,()))/\∀(B:List Fk)(v a b9:Int)(c0 c1:BL)(c2:Lg)(c3:Pg)(c4:La)(W:List Fk)(c5:KM)(c6:Ln)(c7:BL)(c8:Int)(c9:Bool)(d0:Int)(e7 e8 d1 d2:Bool)(u:List Fk),let z4:= !decide (gD B a (0,0,())∈u);let z2:=(b9,c0,c1,c2,c3,c4,W,c5,c6,c7,c8,c9,d0,e7,e8,d1,d2,u,());xy x (B,v,a,z2)->Bd (a<v) (iN a B/\u.length<=1000000000/\Br z4 ((u.length+1)*16<=mM/\ac (a+1)/\Is (xy x (B,v,a+1,b9,c0,c1,c2,c3,c4,W,c5,c6,c7,c8,c9,d0,e7,e8,d1,d2,u++[gD B a (0,0,())],())/\lN (v-(a+1)) (v-a))) (ac (a+1)/\Is (xy x (B,v,a+1,z2)/\lN (v-(a+1)) (v-a)))) (W.length+u.length<=10000000/\∀(b:List Fk),b.length<=W.length+u.length->Q ⟨0,(d1,d2,()),u,0,b9,c0,c1,c2,c3,c4,b,c5,c6,c7,c8,c9,d0,()⟩)))))) (by
 conv=>zeta
 unfold Bd Br gD iN lN mM nI bd;intro c se sg lg pg la fk km bk b a m e Q ⟨⟨h1,h2,h3⟩,hQ⟩;have W:∀(r:Rl)(f:List Fk)(X:Int)(R:List Fk)(Y e':Int),f.length<=300->R.length<=fk.length+300->Q ⟨0,(r,f,X,c,se,sg,lg,pg,la,R,km,bk,b,Y,m,e',())⟩:=λr f X R Y e' h h'=>hQ ((r,f,X),R,Y,e') ⟨h,h'⟩;clear hQ;refine⟨h1,λg hg=>?_⟩;have q0:=eQ m e 0 5 h1;rw[<-hg]at q0;refine⟨⟨rfl,q0.1,by omega,0,rfl,by omega,rfl⟩,?_⟩;rintro n i c1 a5 a6 a7 ft a8 a9 b0 b4 b1 a1 S e1 z z' v ⟨B,A,g2,k,g3,g4,g5⟩;simp only[Prod.mk.injEq]at B;obtain⟨E,F,G,H,J,K,L,M,N,j,o⟩:=B;subst E F G H J K L M N j o g3;refine⟨λp=>?_,λq=>?_⟩
 ·simp only[ai]at p;refine⟨A,λx C=>?_⟩;have t:=(eQ S e1 0 4 A).1;rw[<-C]at t;refine⟨t,λy U=>?_⟩;have D:=(eQ S x.2.2 1 1048576 t).1;rw[<-U]at D;refine⟨D,λw hw=>?_⟩;have r3:=(ni S y.2.2 32 D).1;rw[<-hw]at r3;exact⟨by omega,by unfold ac;omega,⟨rfl,r3,g2,k+1,rfl,by omega,by rw[aa,g5];rfl⟩,by omega⟩
 simp only[aj]at q;refine⟨A,λx C=>?_⟩;have t:=eQ S e1 0 255 A;rw[<-C]at t;refine⟨⟨rfl,t.1,by omega,by omega,0,rfl,by omega,rfl⟩,?_⟩;clear hg q0 C t g A x;rintro v2 n2 i2 c2 b5 b6 b7 b8 b9 c0 c4 c5 b2 a2 m2 e2 w w' s ⟨B,A,g6,g7,k2,g8,g9,O⟩;simp only[Prod.mk.injEq]at B;obtain⟨E,F,G,H,J,K,L,M,N,j,o⟩:=B;subst E F G H J K L M N j o g8;refine⟨λp=>?_,λq=>?_⟩
 ·simp only[ai]at p;refine⟨A,λx C=>?_⟩;have t:=(eQ m2 e2 0 4 A).1;rw[<-C]at t;refine⟨t,λy U=>?_⟩;have D:=(eQ m2 x.2.2 1 1048576 t).1;rw[<-U]at D;exact⟨by omega,by unfold ac;omega,⟨rfl,D,g6,g7,k2+1,rfl,by omega,by rw[aa,O];rfl⟩,by omega⟩
 simp only[aj]at q;refine⟨A,λ_=>W _ [] _ _ _ _ (by simp) (by omega),λ_=>⟨⟨h2,by omega⟩,λcm c6=>⟨λ_=>W _ [] _ _ _ _ (by simp) (by omega),λ_=>⟨⟨rfl,by omega,rfl,0,rfl,aq _,by omega⟩,?_⟩⟩⟩⟩;have c7:s.length<=255:=by omega
 clear q g9 O g7;rintro s3 n3 i3 c3 c8 c9 d0 d1 d2 d3 d4 d5 b3 a3 m3 e3 u u' r r' f ⟨B,P,a0,k3,a4,d6,d7⟩;simp only[Prod.mk.injEq]at B;obtain⟨E,F,G,H,J,K,L,M,N,j,o⟩:=B;subst E F G H J K L M N j o a0 a4;refine⟨λp=>?_,λq=>⟨by omega,λy U=>W _ f _ y _ _ (by omega) (by omega)⟩⟩;simp only[ai]at p;exact⟨by omega,by omega,λ_=>⟨by omega,by unfold ac;omega,⟨rfl,P,rfl,k3+1,rfl,by omega,by rw[aa,bh];omega⟩,by omega⟩,λ_=>⟨by unfold ac;omega,⟨rfl,P,rfl,k3+1,rfl,by omega,by omega⟩,by omega⟩⟩) (l:=λ_=>aM λ_=>⟨(((false,false,()),[],0),[],0,0),aq _,aq _⟩)
def Gj:Ct:=⟨4,⟨[sI 0,sB 1,sB 2,sB 3],[]⟩,[⟨[(0,false,[.nilp])],[]⟩,⟨[sP 0],gG 0⟩],λ(id,a,b,c,_)=> .need (c.length<=1000000/\a.length<=1000000/\b.length<=1000000) (.ite (decide (id<0\/5<=id\/a.length≠32\/b.length≠32\/c.length≠32)) (.leaf ⟨0,()⟩) (.leaf ⟨1,(id,a,b,(c,[],[],()),js,[[0,0,0,0,0],[0,0,0,0,0]],[],[],[],())⟩))⟩
abbrev TK(v:Unit):cw Gj.out:=⟨0,v⟩
abbrev TL(v:Int×BL×BL×Lg×Pg×La×List Fk×KM×Ln×Unit):cw Gj.out:=⟨1,v⟩
def O8:bw:=(35,[Gj])::O7
theorem ZW:KK O8:=kA ZV (cE Gj 0) (∀(a:Int)(b c d:BL)(Q:cw Gj.out->Prop),let z:=TL (a,b,c,(d,[],[],()),([],[],[],([((0,0,()),0,0,0,false,[[],[]],())],0,()),([],()),()),[[0,0,0,0,0],[0,0,0,0,0]],[],[],[],());(Tr.need (d.length<=1000000/\b.length<=1000000/\c.length<=1000000) (Tr.ite (decide (a<0\/5<=a\/b.length≠32\/c.length≠32\/d.length≠32)) (Tr.leaf (TK ())) (Tr.leaf z))).sat Q->Bd (a<0) (Q ⟨0,()⟩) (Bd (5<=a) (Q ⟨0,()⟩) (Br (!(nI b)==32) (Q ⟨0,()⟩) (Br (!(nI c)==32) (Q ⟨0,()⟩) (Br (!(nI d)==32) (Q ⟨0,()⟩) (b.length<=1000000/\c.length<=1000000/\d.length<=1000000/\True/\True/\Q z)))))) (by
 conv=>zeta
 unfold Bd Br nI;intro id e f g Q ⟨⟨i,j,m⟩,b,c⟩;have a:(id<0\/5<=id\/e.length≠32\/f.length≠32\/g.length≠32)->Q ⟨0,()⟩:=λh=>b (decide_eq_true h);simp only[ai,aj,aR,az,ne_eq,aP,aK];refine⟨λh=>a (by omega),λn=>⟨λh=>a (by omega),λo=>⟨λh=>a (by omega),λp=>⟨λh=>a (by omega),λq=>⟨λh=>a (by omega),λr=>⟨j,m,i,trivial,trivial,c (decide_eq_false (by omega))⟩⟩⟩⟩⟩⟩) (l:=λ_=>Live.need λ_=>Live.ite (λ_=>Live.leaf) (λ_=>Live.leaf))
def cvQ(bk b:Ln)(a:Nat)(n:Nat):Prop:=(dx bk (a:Int)).length<=(dx b (a:Int)).length/\∀q:Nat,1<=q->q<n->(xa bk (a:Int) (q:Int)).1=(xa b (a:Int) (q:Int)).1
def O9(bk b:Ln)(k:Nat):Prop:=∀a:Nat,a<k->cvQ bk b a ((dx bk (a:Int)).length+1)
theorem heL(bk:Ln){k:Nat}(h:k<5):(fx bk (k:Int)).2.1=((dx bk (k:Int)).length:Int):=by
 unfold fx;rw[af (by omega)]
def CV:Ct:=⟨2,⟨[sP 0,(1,false,[.ptr 4 0])],gG 0++jr 4⟩,[⟨[sI 0],gG 0++jr 4⟩],λ(c,f,g,a,h,i,e,j,bk,b,_)=>eD (ci bk/\ci b/\cC a.2.1 a.2.2.1/\e.length+1<=10000000) (λy:Int×List Fk=>y.2.length<=e.length+1/\(y.1=0->O9 bk b 5)) λy=>(y.1,c,f,g,a,h,i,y.2,j,bk,b,())⟩
def ZX:cg:=⟨[sP 0,(1,false,[.ptr 4 0]),sI 15],gG 0++jr 4⟩
def KQ(x:CV.inp.den)(y:ZX.den):Prop:=match x,y with
 |(c,m,n,o,p,q,r,s,bk,b,_),(i,t,a,e,f,ft,g,h,j,l,u,_)=>(t,a,e,f,ft,g,h,j,l,u)=(c,m,n,o,p,q,r,s,bk,b)/\∃k:Nat,i=k/\k<=5/\O9 bk b k
def ZY:cg:=⟨[sP 0,(1,false,[.ptr 4 0]),sI 5,sI 6,sI 7,sI 15],gG 0++jr 4⟩
def KR(x:CV.inp.den)(e:Int)(y:ZY.den):Prop:=match x,y with
 |(c,p,s,t,u,v,w,z,bk,b,_),(a,n,q,i,A,f,g,h,ft,j,l,m,o,B,_)=>(A,f,g,h,ft,j,l,m,o,B)=(c,p,s,t,u,v,w,z,bk,b)/\i=e/\a=e/\∃k r:Nat,e=k/\k<5/\O9 bk b k/\n=(dx bk (k:Int)).length/\q=r/\1<=r/\r<=(dx bk (k:Int)).length+1/\cvQ bk b k r
def ZZ:cg:=⟨[sP 0,(1,false,[.ptr 4 0]),sI 64],gG 0++jr 4⟩
def KS(x:CV.inp.den)(y:ZZ.den):Prop:=match x,y with
 |(c,m,n,o,p,q,r,s,bk,b,_),(i,t,a,e,f,ft,g,h,j,l,u,_)=>(t,a,e,f,ft,g,h,j,l,u)=(c,m,n,o,p,q,r,s,bk,b)/\O9 bk b 5/\∃k:Nat,i=k/\k<=5
def a3k(x:CV.inp.den):dB:=⟨[(2,oG ZX (KQ x) (λ(i,_)=>(5-i).toNat) λ(i,_)=>[(8,bK ZY (KR x i) λ(_,n,q,_)=>(n+1-q).toNat)]),(17,bK ZZ (KS x) λ(i,_)=>(5-i).toNat)],[],[],[],0⟩
def Pb:bw:=(203,[CV])::O8
theorem Pc:KK Pb:=kA ZW a3k (∀(g:Int)(h i:BL)(j:Lg)(k:Pg)(l:La)(m:List Fk)(n:KM)(o p:Ln)Q,let F:=(h,i,j,k,l,m,n,o,p,());let x:=(g,F);bd CV x Q->Is (KQ x (0,g,F))/\∀(e K:Int)(L M:BL)(N:Lg)(O:Pg)(P:La)(R:List Fk)(S:KM)(y D:Ln),let U:=(fx D e).2.1<(fx y e).2.1;let B:=(K,L,M,N,O,P,R,S,y,D,());KQ x (e,B)->Bd (e<5) (ci y/\ci D/\Br (decide U) (Q ⟨0,24,B⟩) (Is (KR x e (e,(fx y e).2.1,1,e,B))/\∀(a q c r d:Int)(s t:BL)(u:Lg)(v:Pg)(w:La)(f:List Fk)(G:KM)(z A:Ln),let W:= !(xa z a c).1==(xa A a c).1;let E:=(d,s,t,u,v,w,f,G,z,A,());KR x e (a,q,c,r,E)->Bd (c<=q) (ci z/\ci A/\(ah (xa z a c).1<=1000000000/\ah (xa A a c).1<=1000000000)/\Br W (f.length+1<=10000000/\∀(b:List Fk),b.length<=f.length+1->Q ⟨0,18,d,s,t,u,v,w,b,G,z,A,()⟩) (ac (c+1)/\Is (KR x e (a,q,c+1,r,E)/\lN (q+1-(c+1)) (q+1-c)))) (ac (r+1)/\Is (KQ x (r+1,E)/\lN (5-(r+1)) (5-e))))) (Is (KS x (0,B))/\∀(a q:Int)(c r:BL)(d:Lg)(s:Pg)(t:La)(u:List Fk)(v:KM)(w f:Ln),let H:=vN (List.reverse d.2.1) a;let C:=(q,c,r,d,s,t,u,v,w,f,());let J:=ac (a+1)/\Is (KS x (a+1,C)/\lN (5-(a+1)) (5-a));KS x (a,C)->Bd (a<5) (cC d.2.1 d.2.2.1/\Br (H.2) (ci f/\Bd (H.1<(fx f a).2.1) (Q ⟨0,19,C⟩) J) J) (Q ⟨0,0,C⟩))) (by
 conv=>zeta
 unfold Bd Br lN bd;intro c se sg lg pg la fk km bk b Q ⟨⟨C,D,h3,h4⟩,W⟩;have E:∀(F:Int)(G:List Fk),G.length<=fk.length+1->(F=0->O9 bk b 5)->Q ⟨0,(F,c,se,sg,lg,pg,la,G,km,bk,b,())⟩:=λF G h h'=>W (F,G) ⟨h,h'⟩;clear W;refine⟨⟨rfl,0,rfl,by omega,λa ha=>by omega⟩,?_⟩;rintro i c1 a0 a1 a2 ft a3 J a4 K b1 ⟨f,k,g1,g2,X⟩;simp only[Prod.mk.injEq]at f;obtain⟨o,p,s,t,u,v,w,x,z,e⟩:=f;subst o p s t u v w x z e g1;simp only[ai,aj];refine⟨λa5=>?_,λa6=>?_⟩
 ·have H:k<5:=by omega
  rw[heL K H,heL b1 H];refine⟨C,D,λ_=>E 24 J (by omega) (λh=>absurd h (by decide)),λa7=>⟨⟨rfl,rfl,rfl,k,1,rfl,H,X,rfl,rfl,by omega,by omega,by omega,λq a b=>by omega⟩,?_⟩⟩;rintro a n q i2 c2 L M N O P j R A b2 ⟨f,B,S,k2,r,U,e4,Y,e6,e7,e8,e9,m⟩;simp only[Prod.mk.injEq]at f;obtain⟨o,p,s,t,u,v,w,x,z,e⟩:=f;have U:k=k2:=by omega
  subst o p s t u v w x z e U B S e6 e7;refine⟨λhc=>⟨C,D,⟨by have:=zk C (k:Int) (r:Int);omega,by have:=zk D (k:Int) (r:Int);omega⟩,λ_=>⟨by omega,λy hy=>E 18 y hy (λh=>absurd h (by decide))⟩,λhe=>⟨?_,⟨rfl,rfl,rfl,k,r+1,rfl,H,Y,rfl,rfl,by omega,by omega,m.1,λq a b=>?_⟩,by omega⟩⟩,λhc=>⟨by unfold ac;omega,⟨rfl,k+1,rfl,by omega,λa ha=>?_⟩,by omega⟩⟩
  ·have:=(C (k:Int)).1;unfold ac;omega
  ·rcases bI q r with g|g
   ·exact m.2 q a g
   ·have:q=r:=by omega
    subst this;simp only[aK,aR]at he;exact he
  ·rcases bI a k with g|g
   ·exact Y a g
   ·have:a=k:=by omega
    subst this;have:r=(dx A (a:Int)).length+1:=by omega
    rw[<-this];exact m
 ·have:k=5:=by omega
  subst this;refine⟨⟨rfl,X,0,rfl,by omega⟩,?_⟩;rintro i2 c2 L M N O P j R A b2 ⟨f,B,k,S,U⟩;simp only[Prod.mk.injEq]at f;obtain⟨o,p,s,t,u,v,w,x,z,e⟩:=f;subst o p s t u v w x z e S;refine⟨λhl=>⟨h3,λ_=>⟨D,λ_=>E 19 j (by omega) (λh=>absurd h (by decide)),λ_=>⟨by unfold ac;omega,⟨rfl,B,k+1,rfl,by omega⟩,by omega⟩⟩,λ_=>⟨by unfold ac;omega,⟨rfl,B,k+1,rfl,by omega⟩,by omega⟩⟩,λ_=>E 0 j (by omega) λ_=>B⟩) (l:=λ_=>aM λ_=>⟨(24,[]),aq _,λh=>absurd h (by decide)⟩)
theorem erK(m:Bool){c:Prop}[Decidable c]{x y:Bool×Rs×List Lk}(a:c->x.1=false->xd m x.2.1≠0)(b:¬c->xd m y.2.1≠0)(h:(if c then x else y).1=false):xd m (if c then x else y).2.1≠0:=by
 by_cases g:c
 ·rw[am g]at h⊢;exact a g h
 ·rw[af g];exact b g
theorem Z0(b:BL)(m:Bool)(au:Int):∀(k:Nat)(i last:Int)(s:Rs)(c:List Lk),(xY b m au k i last s c).1=false->xd m (xY b m au k i last s c).2.1≠0
 |0,_,_,_,_,h=>by simp[xY]at h
 |k+1,i,last,(a,e),c,h=>by
  rw[uX]at h⊢;exact erK m (λ_ h=>Z0 b m au k _ _ _ _ h) (λg=>g) h
theorem Z1(b:BL)(m:Bool):∀(k:Nat)(au:Int)(s:Rs)(a:List Lk),(rD b m k au s a).1=false->xd m (rD b m k au s a).2.1≠0
 |0,_,_,_,h=>by simp[rD]at h
 |k+1,au,s,a,h=>by
  simp only[rD]at h⊢;split at h
  ·rename_i g;rw[am g];exact Z1 b m k _ _ _ h
  ·rename_i g;rw[af g];exact Z0 b m au _ _ _ _ _ h
theorem a3l(b:BL)(m:Bool)(s:Rs)(h:(r9 b m s).1=false):xd m (r9 b m s).2.1≠0:=by
 unfold r9 at h⊢;dsimp only at h⊢;cases g:(rD b m 5 0 s []).1 with
 |false=>exact Z1 b m 5 0 s [] g
 |true=>rw[g]at h;simpa using h
def Z2(b:BL)(m:Bool)(s:Rs)(ts:List Tm)(mp:KV):(Bool×Rs×List Lk)×Ln×List Tm×KV:=(r9 b m s,mU (r9 b m s).2.2 ts mp)
def cgL:Ct:=⟨2,⟨[sS 0 0,(1,false,[.ptr 3 0])],Vf⟩,[⟨[(0,false,[.nilp])],Vf⟩,⟨[(0,false,[.ptr 4 0])],lj 0 6++rH++bkP 5++[cT]⟩],λ(d,c,m,b,a,f,e,_)=> .need (bQ b a/\b.length<=65536/\c.length+b.length<=4294967296) (.all ((Bool×Rs×List Lk)×Ln×List Tm×KV) (λy=>y=Z2 b f (a,e) c m) λy=> .ite y.1.1
 (.leaf ⟨1,(d,y.2.2.2,b,y.1.2.1.1,f,y.1.2.1.2,y.2.1,y.2.2.1,())⟩)
 (.leaf ⟨0,(d,c,m,b,y.1.2.1.1,f,y.1.2.1.2,())⟩))⟩
theorem TM:bS Tryz.prog 202 cgL:=bS.mono LV λ_ _ h=>⟨h.1,h.2 _ rfl⟩
def Pd:bw:=(202,[cgL])::Pb
theorem Z3:KK Pd:=⟨aQ.add Pc.1 (by kernel_rfl) (bo TM),bg.add Pc.2 (bo (λ_=>Live.need λ_=>Live.all ⟨_,rfl,Live.ite (λ_=>Live.leaf) (λ_=>Live.leaf)⟩))⟩
def Z4(j a:Nat):List (Option CP):=[some (.cells [.d .i64, .d tB, .d tB, .d (.pf Vh), .mp (j+1), .ptr a 0, .d M6, .d tLa, .d (.sl iG)]),some (.mp .i64 tB),none,none]
structure WhY where
 err:Int
 pg:Pg
 fk:List Fk
 bk:Ln
 a:Int
 e:Int
def KT(a:Pg)(b:List Fk)(bk:Ln)(w:(Bool×Rs×List Lk)×Ln×List Tm×KV)(y:WhY):Prop:=
 y.fk.length<=b.length+1/\(y.err≠0/\y.pg=a/\y.bk=bk\/y.err=0/\w.1.1=true/\cr y.pg/\y.bk=w.2.1/\O9 bk y.bk 5)
def TN:Ct:=⟨3,⟨[sP 0,sS 1 4,(2,false,[.ptr 7 0])],gG 0++iK 4++rH⟩,[⟨[sI 0],Z4 0 9++lj 4 8++rH++[cT]++jr 9⟩],λ(c,l,n,f,i,o,j,p,bk,d,g,m,b,a,h,e,_)=>
 .need (bQ b a/\h=true/\b.length<=65536/\g.length+b.length<=4294967296/\cr i/\ci bk/\cC f.2.1 f.2.2.1/\j.length+1<=10000000) (.all ((Bool×Rs×List Lk)×Ln×List Tm×KV) (λw=>w=Z2 b h (a,e) g m) λw=> .all WhY (KT i j bk w) λy=>
  .leaf ⟨0,(y.err,c,l,n,f,y.pg,o,y.fk,p,d,if w.1.1 then w.2.2.2 else m,b,y.a,h,y.e,if w.1.1 then w.2.2.1 else g,y.bk,())⟩)⟩
theorem Z5{b:BL}(m:Bool)(au:Int):∀(k:Nat)(i last:Int)(s:Rs)(c:List Lk),bQ b s.1->c.length<=s.1.toNat->bQ b (xY b m au k i last s c).2.1.1/\(xY b m au k i last s c).2.2.length<=(xY b m au k i last s c).2.1.1.toNat
 |0,_,_,_,_,h,p=>⟨h,p⟩
 |k+1,i,last,(a,e),c,h,p=>by
  rw[uX];dsimp only;have y:=ni m e 32 h;generalize gC b a m e 32=t at*;obtain⟨j,f⟩:∃j,(if t.1.length=32 then t.2.2 else if(m&&t.2.2==0)=true then 5 else t.2.2)=j:=⟨_,rfl⟩;rw[f];have r:=eQ m j 1 65536 y.1;generalize v:cW b t.2.1 m j 1 65536=u at*;obtain⟨q,g⟩:∃q,(if u.1<last then(if(m&&u.2.2==0)=true then 5 else u.2.2)else u.2.2)=q:=⟨_,rfl⟩;rw[g];have p:c.length<=a.toNat:=p;have C:=y.2.1;have D:=r.2.1;rcases Decidable.em ((if m=true then q else 5)=0)with l|l
  ·rw[am l];refine Z5 m au k _ _ _ _ r.1 ?_;rw[aa,bh]
   have z:t.1.length=32:=by
    rcases Nat.decEq t.1.length 32 with w|w
    ·exfalso;rw[af w]at f
     have x:m=true:=by
      cases m
      ·simp at l
      ·rfl
     subst x;have A:q=0:=by simpa using l
     have n:¬(j=0):=by
      rw[<-f];simp only[fp];split
      ·omega
      ·rename_i B;simpa using B
     have o:=rnE (b:=b) (a:=t.2.1) (m:=true) (e:=j) 1 65536 (by simpa using n);rw[v]at o;rw[o]at g;simp[n]at g;omega
    ·exact w
   show c.length+1<=u.2.1.toNat;omega
  ·rw[af l];refine⟨r.1,?_⟩;show c.length<=u.2.1.toNat;omega
theorem Z6{b:BL}(m:Bool):∀(k:Nat)(au:Int)(s:Rs)(a:List Lk),bQ b s.1->a.length<=s.1.toNat->bQ b (rD b m k au s a).2.1.1/\(rD b m k au s a).2.2.length<=(rD b m k au s a).2.1.1.toNat
 |0,_,_,_,h,c=>⟨h,c⟩
 |k+1,au,s,a,h,c=>by
  have e:=eQ m s.2 0 1048576 h;have f:=e.2.1;have:=Z5 m au (cW b s.1 m s.2 0 1048576).1.toNat 0 1 (cW b s.1 m s.2 0 1048576).2 a e.1 (by omega);simp only[rD];split
  ·exact Z6 m k _ _ _ this.1 this.2
  ·exact this
theorem Gk{b:BL}{a:Int}(m:Bool)(e:Int)(h:bQ b a):bQ b (r9 b m (a,e)).2.1.1/\(r9 b m (a,e)).2.2.length<=b.length:=by
 have:=Z6 m 5 0 (a,e) [] h (aq _);refine⟨this.1,?_⟩;have c:=this.2;have f:=this.1.2.2;show(rD b m 5 0 (a,e) []).2.2.length<=_;omega
theorem bdO{l:List Lk}(ts:List Tm)(m:KV)(h:l.length<=65536):ci (mU l ts m).1/\(mU l ts m).2.1.length<=ts.length+l.length:=by
 have:=Ep ts m l l.length (aD _);rw[br]at this;exact⟨λa=>⟨by have:=(this.2 a).1;omega,(this.2 a).2⟩,this.1⟩
def Pe:bw:=(181,[TN])::Pd
theorem Z7:KK Pe:=kA Z3 (cE TN 0) (∀(i:Int)(j k:BL)(f:Lg)(g:Pg)(l:La)(q:List Fk)(m:KM)(h:Ln)(n:Int)(s:List Tm)(u:KV)(c:BL)(o:Int)(d:Bool)(r:Int)Q,let v:=rD c d 5 0 (o,r) [];bd TN (i,j,k,f,g,l,q,m,h,n,s,u,c,o,d,r,()) Q->(bQ c o/\c.length<=65536/\s.length+c.length<=4294967296)/\∀b,let w:=bQ c b.1.2.1.1/\(0:Int)<=4096/\(4096:Int)<=4096;b=((v.1&&xd d v.2.1==0,v.2),mU v.2.2 s u)->Br (b.1.1) (w/\∀(a:List Op×Int×Int),let y:= !cK c a.2.1 d a.2.2==0;let z:=(m,n,b.2.2.2,c,a.2.1,d,a.2.2,b.2.2.1,h,());yZ c b.1.2.1.1 d b.1.2.1.2 4096 a->bQ c a.2.1/\Br y (Q ⟨0,cK c a.2.1 d a.2.2,i,j,k,f,g,l,q,z⟩) ((ci h/\ci b.2.1/\cC f.2.1 f.2.2.1/\q.length+1<=10000000)/\∀(e:Int×List Fk),let x:=(i,j,k,f,g,l,e.2,z);e.2.length<=q.length+1/\(e.1=0->O9 h b.2.1 5)->Br (!e.1==0) (Q ⟨0,e.1,x⟩) (cr g/\∀(t:Pg),je g t->(cr t/\a.1.length<=1000000)/\∀(p:Int×Pg),xr t a.1 p->Br (!p.1==0) (Q ⟨0,p.1,x⟩) (Q ⟨0,0,i,j,k,f,p.2,l,e.2,m,n,b.2.2.2,c,a.2.1,d,a.2.2,b.2.2.1,b.2.1,()⟩)))) (w/\∀(a:List Op×Int×Int),let A:= !cK c a.2.1 d a.2.2==0;yZ c b.1.2.1.1 d b.1.2.1.2 4096 a->bQ c a.2.1/\Br A (Q ⟨0,cK c a.2.1 d a.2.2,i,j,k,f,g,l,q,m,n,u,c,a.2.1,d,a.2.2,s,h,()⟩) False)) (by
 conv=>zeta
 unfold Br bd;intro c N O P A R u S bk d y m b a r e Q ⟨⟨B,C,U,W,X,Y,h7,h8⟩,K⟩;have j:∀w,w=Z2 b r (a,e) y m->∀(q:Int)(p:Pg)(f:List Fk)(k:Ln)(s t:Int),KT A u bk w ⟨q,p,f,k,s,t⟩->Q ⟨0,(q,c,N,O,P,p,R,f,S,d,if w.1.1 then w.2.2.2 else m,b,s,r,t,if w.1.1 then w.2.2.1 else y,k,())⟩:=λw n q p f k s t h=>K w n ⟨q,p,f,k,s,t⟩ h;clear K;refine⟨⟨B,U,W⟩,λw n=>?_⟩;have n:w=Z2 b r (a,e) y m:=n;have L:bQ b w.1.2.1.1/\w.1.2.2.length<=b.length:=by rw[n];exact Gk r e B
 have D:ci w.2.1:=by rw[n];exact(bdO y m (by have:=(Gk r e B).2;omega)).1
 have hE:w.1.1=false->xd r w.1.2.1≠0:=by rw[n];exact a3l b r (a,e)
 have j:=j w n;clear n;have o:∀(q:Int)(f:List Fk),q≠0->f.length<=u.length+1->∀s t,KT A u bk w ⟨q,A,f,bk,s,t⟩:=λq f E hf s t=>⟨hf, .inl ⟨E,rfl,rfl⟩⟩;refine⟨λg=>?_,λg=>?_⟩
 ·rw[g]at j;simp only[if_true]at j;refine⟨⟨L.1,by omega,by omega⟩,λp v=>⟨v.1,λi=>j _ _ _ _ _ _ (o _ u (jU i) (by omega) _ _),λi=>⟨⟨Y,D,h7,h8⟩,λx z=>⟨λF=>j _ _ _ _ _ _ (o _ x.2 (jU F) z.1 _ _),λF=>⟨X,λp1 G=>⟨⟨G.1,by have:=v.2.1;omega⟩,λch H=>⟨λM=>j _ _ _ _ _ _ (o _ x.2 (jU M) z.1 _ _),λM=>j 0 ch.2 x.2 w.2.1 _ _ ⟨z.1, .inr ⟨rfl,g,H.1,rfl,z.2 (aC.1 (jV F))⟩⟩⟩⟩⟩⟩⟩⟩⟩
 ·rw[g]at j;simp only[cu,if_false]at j;have E:=hE g
  have J:w.1.2.1.2≠0:=by
   intro h;apply E;unfold xd;rw[C,h];rfl
  refine⟨⟨L.1,by omega,by omega⟩,λp v=>⟨v.1,λi=>j _ _ _ _ _ _ (o _ u (jU i) (by omega) _ _),λi=>?_⟩⟩;have i:=aC.1 (jV i);have:=v.2.2.2 J;rw[this]at i;unfold cK at i;rw[am (by rw[C];exact J)]at i;rw[C]at i;exact J i) (l:=λ_=>Live.need λ_=>Live.all ⟨_,rfl,Live.all ⟨⟨1,_,[],_,0,0⟩,⟨aq _, .inl ⟨(by decide:(1:Int)≠0),rfl,rfl⟩⟩,Live.leaf⟩⟩)
abbrev x9:=Int×Pg×Ln×List Tm×KV
def tZ(l:Lt)(lk:Lk)(t:BL)(a:Pg)(bk:Ln)(ts:List Tm)(m:KV)(y:x9):Prop:=
 if l.1=2 then Tx lk a bk t ts m y
 else if l.1=3 then y.2=(a,bk,ts,m)
 else∃w,w=Z2 t true (0,0) ts m/\y.2.2.2=(if w.1.1 then w.2.2 else(ts,m))/\(y.1≠0/\y.2.1=a/\y.2.2.1=bk\/y.1=0/\w.1.1=true/\cr y.2.1/\y.2.2.1=w.2.1/\O9 bk y.2.2.1 5)
def ya(l:Lt)(a:Int)(la:La):La:=if a=0/\l.1≠2 then Iq la l.1 l.2.1 l.2.2.2.1 else la
def xz(l:Lt)(a:Int)(n:Nw):Prop:=if a=0 then n.1=l.1/\n.2.1=l.2.1/\n.2.2.1=l.2.2.1/\n.2.2.2.1=l.2.2.2.1 else n=jB
def Gl:Ct:=⟨5,⟨[sP 0,sS 1 4,yW 2,(3,true,[.d Aq]),sB 4],gG 0++iK 4⟩,[⟨[(0,true,[.d Gb]),sI 1],Z4 0 8++lj 4 7++[cT]++jr 8⟩],λ(l,lk,t,c,h,i,a,e,f,g,j,bk,d,b,m,_)=>
 eD (2<=l.1/\l.1<=4/\0<=l.2.1/\l.2.1<5/\fD f/\t.length<=65536/\b.length+t.length<=4294967296/\bO 1 b/\cr e/\ci bk/\cC a.2.1 a.2.2.1/\g.length+1000<=10000000)
  (λy:x9×List Fk×Nw=>tZ l lk t e bk b m y.1/\y.2.1.length<=g.length+300/\xz l y.1.1 y.2.2) λy=>(y.2.2,y.1.1,c,h,i,a,y.1.2.1,ya l y.1.1 f,y.2.1,j,d,y.1.2.2.2.2,y.1.2.2.2.1,y.1.2.2.1,())⟩
def Z8:cg:=⟨[sP 0,(7,false,[.ptr 10 0]),(10,false,[.ptr 11 0]),(12,false,[.ptr 12 0]),sI 14],Z4 0 8++lj 4 7++[cT]++jr 8++[some (.cells [.d Dq]),some (.cells [.d Gb]),some (.cells [.d Gb])]⟩
def Gm(x:Gl.inp.den)(y:Z8.den):Prop:=match x,y with
 |(l,lk,t,c,p,q,r,s,u,v,w,bk,d,z,m,_),(e,A,b,f,g,ft,h,i,j,B,C,n,o,D,_,a,_)=>(A,b,f,g,h,j,B,D)=(c,p,q,r,u,w,d,l)/\i.length<=v.length+300/\tZ l lk t s bk z m (e,ft,o,n,C)/\a.1=l.1/\a.2.1=l.2.1/\a.2.2.1=l.2.2.1/\a.2.2.2.1=l.2.2.2.1
def a3m(x:Gl.inp.den):dB:=⟨[],[(10,bK Z8 (Gm x) λ_=>0)],[],[],0⟩
theorem Gn(l:Lt)(lk:Lk)(t:BL){a:Pg}(bk:Ln)(ts:List Tm)(m:KV)(h:cr a):∃y,tZ l lk t a bk ts m y:=by
 unfold tZ;split
 ·exact Ga _ _ _ _ _ _ h
 ·split
  ·exact⟨(0,_),rfl⟩
  ·exact⟨(1,a,bk,_),_,rfl,rfl, .inl ⟨(by decide:(1:Int)≠0),rfl,rfl⟩⟩
theorem zo(l:Lt)(a:Int):∃n,xz l a n:=by
 unfold xz;split
 ·exact⟨(l.1,l.2.1,l.2.2.1,l.2.2.2.1,false,false,[],()),rfl,rfl,rfl,rfl⟩
 ·exact⟨_,rfl⟩
abbrev TO(v:Nw×Int×Int×BL×BL×Lg×Pg×La×List Fk×KM×Int×KV×List Tm×Ln×Unit):cw Gl.out:=⟨0,v⟩
def Pf:bw:=(166,[Gl])::Pe
theorem Z9:KK Pf:=kA Z7 a3m (∀(c:Lt)(J:Lk)(e:BL)(A:Int)(B C:BL)(r:Lg)(u:Pg)(w:La)(v:List Fk)(D:KM)(s:Ln)(E:Int)(f:List Tm)(z:KV)(Q:cw Gl.out->Prop),let G:=rD e true 5 0 (0,0) [];let H:=(c,J,e,A,B,C,r,u,w,v,D,s,E,f,z,());(Tr.need (2<=c.1/\c.1<=4/\0<=c.2.1/\c.2.1<5/\fD w/\e.length<=65536/\f.length+e.length<=4294967296/\bO 1 f/\cr u/\ci s/\cC r.2.1 r.2.2.1/\v.length+1000<=10000000) (Tr.all (x9×List Fk×Nw) (λy=>tZ c J e u s f z y.1/\y.2.1.length<=v.length+300/\xz c y.1.1 y.2.2) λy=>Tr.leaf (TO (y.2.2,y.1.1,A,B,C,r,y.1.2.1,ya c y.1.1 w,y.2.1,D,E,y.1.2.2.2.2,y.1.2.2.2.1,y.1.2.2.1,())))).sat Q->e.length<=1099511627776/\(Br (c.1==2) ((bQ e 0/\(0:Int)=0/\true=true/\(0:Int)=0/\cr u/\ci s/\bO 1 f)/\∀(b:(Int×Pg×Ln×List Tm×KV)×Int×Int),Tx J u s e f z b.1->Is (Gm H (b.1.1,A,B,C,r,b.1.2.1,w,v,D,E,b.1.2.2.2.2,b.1.2.2.2.1,b.1.2.2.1,c,(0,0,0,0,false,false,[],()),(c.1,c.2.1,c.2.2.1,c.2.2.2.1,false,false,[],()),()))) (Br (c.1==3) ((bQ e 0/\ci s/\v.length+1000<=10000000)/\∀(b:((Bool×Bool×Unit)×List Fk×Int)×List Fk×Int×Int),b.1.2.1.length<=300/\b.2.1.length<=v.length+300->Is (Gm H (b.1.2.2,A,B,C,r,u,w,b.2.1,D,E,z,f,s,c,(0,0,0,0,false,false,[],()),(c.1,c.2.1,c.2.2.1,c.2.2.2.1,b.1.1.1,b.1.1.2.1,b.1.2.1,()),()))) ((bQ e 0/\true=true/\e.length<=65536/\f.length+e.length<=4294967296/\cr u/\ci s/\cC r.2.1 r.2.2.1/\v.length+1<=10000000)/\∀b,b=((G.1&&xd true G.2.1==0,G.2),mU G.2.2 f z)->∀(F:WhY),KT u v s b F->Is (Gm H (F.err,A,B,C,r,F.pg,w,F.fk,D,E,if b.1.1=true then b.2.2.2 else z,if b.1.1=true then b.2.2.1 else f,F.bk,c,(0,0,0,0,false,false,[],()),(c.1,c.2.1,c.2.2.1,c.2.2.2.1,false,false,[],()),())))))/\∀(K g:Int)(h i:BL)(j:Lg)(k:Pg)(d:La)(l:List Fk)(m:KM)(n:Int)(o:KV)(p:List Tm)(q:Ln)(a:Lt)(M t:Nw),let L:=(a.2.1==4)=false->False/\True;let x:=(l,m,n,o,p,q,());Gm H (K,g,h,i,j,k,d,l,m,n,o,p,q,a,M,t,())->Br (!K==0) (Q ⟨0,(0,0,0,0,false,false,[],()),K,g,h,i,j,k,d,x⟩) (Br (!a.1==2) (ac (a.1-3)/\Br (a.1-(3:Int)==0) (Br (a.2.1==0) (Q ⟨0,t,0,g,h,i,j,k,d.set ((7-1-1-1-1-1-1-1)/5) ((d.getD ((7-1-1-1-1-1-1-1)/5) (ak 5 0)).set ((7-1-1-1-1-1-1-1) % 5/1) a.2.2.2.1),x⟩) (Br (a.2.1==1) (Q ⟨0,t,0,g,h,i,j,k,d.set ((8-1-1-1-1-1-1-1)/5) ((d.getD ((8-1-1-1-1-1-1-1)/5) (ak 5 0)).set ((8-1-1-1-1-1-1-1) % 5/1) a.2.2.2.1),x⟩) (Br (a.2.1==2) (Q ⟨0,t,0,g,h,i,j,k,d.set ((9-1-1-1-1-1-1-1)/5) ((d.getD ((9-1-1-1-1-1-1-1)/5) (ak 5 0)).set ((9-1-1-1-1-1-1-1) % 5/1) a.2.2.2.1),x⟩) (Br (a.2.1==3) (Q ⟨0,t,0,g,h,i,j,k,d.set ((10-1-1-1-1-1-1-1)/5) ((d.getD ((10-1-1-1-1-1-1-1)/5) (ak 5 0)).set ((10-1-1-1-1-1-1-1) % 5/1) a.2.2.2.1),x⟩) (((a.2.1==4)=true->Q ⟨0,t,0,g,h,i,j,k,d.set ((11-1-1-1-1-1-1-1)/5) ((d.getD ((11-1-1-1-1-1-1-1)/5) (ak 5 0)).set ((11-1-1-1-1-1-1-1) % 5/1) a.2.2.2.1),x⟩)/\L))))) (Br (a.1-(3:Int)==1) (Br (a.2.1==0) (Q ⟨0,t,0,g,h,i,j,k,d.set ((12-1-1-1-1-1-1-1)/5) ((d.getD ((12-1-1-1-1-1-1-1)/5) (ak 5 0)).set ((12-1-1-1-1-1-1-1) % 5/1) a.2.2.2.1),x⟩) (Br (a.2.1==1) (Q ⟨0,t,0,g,h,i,j,k,d.set ((13-1-1-1-1-1-1-1)/5) ((d.getD ((13-1-1-1-1-1-1-1)/5) (ak 5 0)).set ((13-1-1-1-1-1-1-1) % 5/1) a.2.2.2.1),x⟩) (Br (a.2.1==2) (Q ⟨0,t,0,g,h,i,j,k,d.set ((14-1-1-1-1-1-1-1)/5) ((d.getD ((14-1-1-1-1-1-1-1)/5) (ak 5 0)).set ((14-1-1-1-1-1-1-1) % 5/1) a.2.2.2.1),x⟩) (Br (a.2.1==3) (Q ⟨0,t,0,g,h,i,j,k,d.set ((15-1-1-1-1-1-1-1)/5) ((d.getD ((15-1-1-1-1-1-1-1)/5) (ak 5 0)).set ((15-1-1-1-1-1-1-1) % 5/1) a.2.2.2.1),x⟩) (((a.2.1==4)=true->Q ⟨0,t,0,g,h,i,j,k,d.set ((16-1-1-1-1-1-1-1)/5) ((d.getD ((16-1-1-1-1-1-1-1)/5) (ak 5 0)).set ((16-1-1-1-1-1-1-1) % 5/1) a.2.2.2.1),x⟩)/\L))))) (False/\True))) (Q ⟨0,t,0,g,h,i,j,k,d,x⟩))) (by
 conv=>zeta
 unfold Br;intro l lk t c O P R S U W X bk d Y m Q ⟨⟨h1,h2,h3,h4,h5,h6,h7,h8,M,j,D,E⟩,N⟩;have o:∀(y:x9)(f:List Fk)(n:Nw),tZ l lk t S bk Y m y->f.length<=W.length+300->xz l y.1 n->Q ⟨0,(n,y.1,c,O,P,R,y.2.1,ya l y.1 U,f,X,d,y.2.2.2.2,y.2.2.2.1,y.2.2.1,())⟩:=λy f n a b e=>N (y,f,n) ⟨a,b,e⟩;clear N;have F:bQ t 0:=⟨by omega,by omega,by omega⟩;refine⟨by omega,⟨λe=>⟨⟨F,rfl,rfl,rfl,M,j,h8⟩,λb G=>⟨rfl,by omega,?_,rfl,rfl,rfl,rfl⟩⟩,λe=>⟨λH=>⟨⟨F,j,E⟩,λb G=>⟨rfl,G.2,?_,rfl,rfl,rfl,rfl⟩⟩,λH=>⟨⟨F,rfl,h6,h7,M,j,D,by omega⟩,λw hw y z=>⟨rfl,by have:=z.1;omega,?_,rfl,rfl,rfl,rfl⟩⟩⟩⟩,?_⟩
 ·unfold tZ;rw[am (aZ e)];exact G
 ·unfold tZ;rw[af (aE e),am (aZ H)]
 ·unfold tZ;rw[af (aE e),af (aE H)];refine⟨w,hw,?_,z.2⟩;dsimp only;split<;>rfl
 ·rintro er c1 a5 a6 a7 ft g x a8 d1 J p q i _ nw ⟨A,B,C,n1,n2,n3,n4⟩;simp only[Prod.mk.injEq]at A;obtain⟨f1,f2,f3,f4,f5,f6,f7,f8⟩:=A;subst f1 f2 f3 f4 f5 f6 f7;obtain rfl:i=l:=by obtain⟨_,_,_,_,_,_,_,_⟩:=i;obtain⟨_,_,_,_,_,_,_,_⟩:=l;simpa using f8
  refine⟨λe=>?_,λe=>?_⟩
  ·have e:=jU e;have:=o _ x jB C B (by unfold xz;rw[af e]);rw[show ya i (er,ft,q,p,J).1 g=g from af (λh=>e h.1)]at this;exact this
  ·have e:=aC.1 (jV e);subst e;have o:=o _ x nw C B (by unfold xz;rw[am rfl];exact⟨n1,n2,n3,n4⟩);refine⟨λr=>⟨by unfold ac;omega,?_⟩,λr=>?_⟩
   ·have r:=jU r;rw[show ya i ((0:Int),ft,q,p,J).1 g=Iq g i.1 i.2.1 i.2.2.2.1 from am ⟨rfl,r⟩]at o;obtain⟨a0,a1,a2,a3,a4,b0,b1,b2,b3,b4,K⟩:=vj h5;subst K;obtain⟨k,a,e,n,pv,bx,a9,u⟩:=i;dsimp only at*;refine⟨λs=>?_,λs=>⟨λL=>?_,λL=>?_⟩⟩
    case refine_3=>exfalso;simp only[az,ne_eq]at s L;omega
    all_goals
     first
     |(have s:k=3:=by have:=aZ s;omega
       subst s)
     |(have s:k=4:=by have:=aZ L;omega
       subst s)
     refine⟨λv=>?_,λA=>⟨λv=>?_,λB=>⟨λv=>?_,λC=>⟨λv=>?_,λg3=>⟨λv=>?_,λg4=>?_⟩⟩⟩⟩⟩
     case refine_6=>exfalso;simp only[az,ne_eq]at A B C g3 g4;omega
     all_goals
      have v:=aZ v;subst v;exact o
   ·have r:=jV r;rw[show ya i ((0:Int),ft,q,p,J).1 g=g from af (λh=>r h.2)]at o;exact o) (l:=λ_=>aM λh=>by obtain⟨y,z⟩:=Gn _ _ _ _ _ _ h.2.2.2.2.2.2.2.2.1;obtain⟨n,hn⟩:=zo _ y.1;exact⟨(y,[],n),z,aq _,hn⟩)
end Go.Tp
