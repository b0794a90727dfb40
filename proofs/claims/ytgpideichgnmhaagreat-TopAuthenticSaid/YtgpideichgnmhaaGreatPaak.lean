/- A part of the proof of TopAuthenticSaid: no conditions; packed by a program of our own. -/
import Derived.Test.YtgpideichgnmhaaGreatPaaj
open And renaming intro→bQ
open BitVec renaming ofInt→bc,ofNat→af
open Bool renaming and_eq_true→aF,not_eq_true'→aO,not_eq_true→bX,not_eq_false'→aJ,not_eq_false→bR
open Go.IntKind renaming wrap_i64→dj
open Go.Lib renaming bitLen→fw
open HAdd renaming hAdd→eH
open HSub renaming hSub→bG
open Int renaming toNat_natCast→aG,le_refl→cr
open LE renaming le→aZ
open LT renaming lt→lU
open List renaming map_cons→aX,length_append→aa,length_cons→bd,append_assoc→ay,mem_append→aY,drop_of_length_le→bw,take_of_length_le→ba,append_nil→bj,getElem?_eq_getElem→ap,getD→bv,length→ac,getD_eq_getElem?_getD→az,map_append→dl,length_map→bT,mem_map→dY,mem_cons_self→aM,mem_cons_of_mem→aE,all_eq_true→cM,getElem_mem→rW,mem_append_left→cG,mem_singleton→cg,length_singleton→bb,take_add_one→eQ,length_eq_zero_iff→rY,length_set→cz
open Nat renaming le_trans→bA,zero_le→aq
open Option renaming getD_some→cZ
namespace Go.Tp
open Go.Hv Go.Proofs Go.RowKit
set_option maxRecDepth 100000
set_option maxHeartbeats 0
def oZ:Op:=(0,0,0,0,0,false,0,0,0,0,0,0,0,false,0,0,false,0,0,())
def pS(l:List Op)(i:Int):Prop:=@aZ Int _ 0 i∧@lU Int _ i l.length
def Dh(g:Nat):Ct:=⟨6,⟨[sO 0 0,sI 1,sI 2,sI 3,(4,false,[.ptr 1 0]),fG g 5],[lH,cN]⟩,[⟨[sI 0],[lH,cN]⟩],λ(a,b,c,l,n,_)=>eO (fI l∧pS l a∧pS l b∧pS l c∧0≤n∧n≤900) (λy:Int×Int=>(y.1=a∨y.1=b∨y.1=c)∧n≤y.2∧y.2≤n+3) λy=>(y.1,l,y.2,())⟩
abbrev HB(g:Nat)(v:Int×List Op×Int×Unit):aN ((Dh g)).out:=⟨0,v⟩
theorem TH(g:Nat)(e:dN g):hJ Tryz.prog (Bn g) 213 (Dh g) (cv (Dh g) 0):=by
 refine oE (∀(f h i:Int)(a:List Op)(e:Int)(Q:aN (Dh g).out→Prop),(Tr.need (fI a∧pS a f∧pS a h∧pS a i∧0≤e∧e≤900) (Tr.all (Int×Int) (λy=>(y.1=f∨y.1=h∨y.1=i)∧e≤y.2∧y.2≤e+3) λy=>Tr.leaf (HB g (y.1,a,y.2,())))).sat Q→(fI a∧0≤f∧f<(↑a.length:Int)∧0≤h∧h<(↑a.length:Int)∧0≤e∧e≤1000)∧∀(b:Int×Int×Int),(b.1=f∧b.2.1=h∨b.1=h∧b.2.1=f)∧e≤b.2.2∧b.2.2≤e+1→(fI a∧0≤b.2.1∧b.2.1<(↑a.length:Int)∧0≤i∧i<(↑a.length:Int)∧0≤b.2.2∧b.2.2≤1000)∧∀(c:Int×Int×Int),(c.1=b.2.1∧c.2.1=i∨c.1=i∧c.2.1=b.2.1)∧b.2.2≤c.2.2∧c.2.2≤b.2.2+1→(fI a∧0≤b.1∧b.1<(↑a.length:Int)∧0≤c.1∧c.1<(↑a.length:Int)∧0≤c.2.2∧c.2.2≤1000)∧∀(d:Int×Int×Int),(d.1=b.1∧d.2.1=c.1∨d.1=c.1∧d.2.1=b.1)∧c.2.2≤d.2.2∧d.2.2≤c.2.2+1→Q (HB g (d.2.1,a,d.2.2,()))) (by rcases e with rfl|rfl<;>kernel_rfl) ?_;rintro a b c l n Q ⟨⟨h,⟨q,r⟩,⟨s,t⟩,⟨u,v⟩,w,x⟩,f⟩;have i:∀y m:Int,(y=a∨y=b∨y=c)→n≤m→m≤n+3→Q ⟨0,(y,l,m,())⟩:=λy m j o p=>f (y,m) ⟨j,o,p⟩
 (repeat' (first|assumption|apply bQ|intro _))<;>first
  |assumption
  |omega
  |(apply i<;>omega)
theorem TJ(g:Nat)(a:dN g):bO Tryz.prog 213 (Dh g):=dq (Pr g a) (Ps g) sE (by kernel_rfl) (TH g a)
def Bu(g:Nat):bu:=(213,[(Dh g)])::(Bn g)
theorem PB(g:Nat)(a:dN g):aP Tryz.prog (Bu g):=aP.add (Pr g a) (by kernel_rfl) (bo (TJ g a))
theorem PC(g:Nat):bg (Bu g):=bg.add (Ps g) (bo (λx=>aR λ_=>⟨(x.1,x.2.2.2.2.1), .inl rfl,cr _,by show @aZ Int _ x.2.2.2.2.1 (x.2.2.2.2.1+3);omega⟩))
def Di(g:Nat):Ct:=⟨4,⟨[sO 0 0,sI 1,(2,false,[.ptr 1 0]),fG g 3],[lH,cN]⟩,[⟨[sI 0],[lH,cN]⟩],λ(a,l,n,_)=>eO (fI l∧pS l (a-1)∧pS l (a+1)∧0≤n∧n≤900) (λy:Int×Int=>@aZ Int _ (a-1) y.1∧@aZ Int _ y.1 (a+1)∧n≤y.2∧y.2≤n+3) λy=>(y.1,l,y.2,())⟩
abbrev HC(g:Nat)(v:Int×List Op×Int×Unit):aN ((Di g)).out:=⟨0,v⟩
theorem TK(g:Nat)(b:dN g):hJ Tryz.prog (Bu g) 212 (Di g) (cv (Di g) 0):=by
 refine oE (∀(a:Int)(c:List Op)(d:Int)(Q:aN (Di g).out→Prop),let z:Prop:=pS c (a+1)∧0≤d∧d≤900;(Tr.need (fI c∧pS c (a-1)∧z) (Tr.all (Int×Int) (λy=>a-1≤y.1∧y.1≤a+1∧d≤y.2∧y.2≤d+3) λy=>Tr.leaf (HC g (y.1,c,y.2,())))).sat Q→ae (a-1)∧ae (a+1)∧(fI c∧pS c (a-1)∧pS c a∧z)∧∀(b:Int×Int),(b.1=a-1∨b.1=a∨b.1=a+1)∧d≤b.2∧b.2≤d+3→Q (HC g (b.1,c,b.2,()))) (by rcases b with rfl|rfl<;>kernel_rfl) ?_
 conv=>zeta
 rintro a l n Q ⟨⟨h,⟨p,q⟩,⟨r,s⟩,t,u⟩,c⟩;have e:∀y m:Int,a-1≤y→y≤a+1→n≤m→m≤n+3→Q ⟨0,(y,l,m,())⟩:=λy m f i j o=>c (y,m) ⟨f,i,j,o⟩;have v:=h.1
 (repeat' (first|assumption|apply bQ|intro _))<;>first
  |assumption
  |(unfold ae;omega)
  |omega
  |(apply e<;>omega)
theorem TL(g:Nat)(a:dN g):bO Tryz.prog 212 (Di g):=dq (PB g a) (PC g) sE (by kernel_rfl) (TK g a)
def Bv(g:Nat):bu:=(212,[(Di g)])::(Bu g)
theorem PD(g:Nat)(a:dN g):aP Tryz.prog (Bv g):=aP.add (PB g a) (by kernel_rfl) (bo (TL g a))
theorem PE(g:Nat):bg (Bv g):=bg.add (PC g) (bo (λx=>aR λ_=>⟨(x.1,x.2.2.1),by show @aZ Int _ (x.1-1) x.1;omega,by show @aZ Int _ x.1 (x.1+1);omega,cr _,by show @aZ Int _ x.2.2.1 (x.2.2.1+3);omega⟩))
def lu(l:List Op)(a b:Int):Prop:=@aZ Int _ 0 a∧@aZ Int _ a b∧@aZ Int _ b l.length
def Dj(g:Nat):Ct:=⟨4,⟨[sO 0 0,sI 1,sI 2,fG g 3],[lH]⟩,[⟨[sI 0,sI 1],[lH]⟩],λ(a,b,l,_)=>eO (fI l∧lu l a b∧@aZ Int _ (a+13) b) (λy:Int×Int=>@aZ Int _ a y.1∧@lU Int _ y.1 b) λy=>(y.1,y.2,l,())⟩
abbrev kQ(g:Nat)(v:Int×Int×List Op×Unit):aN ((Dj g)).out:=⟨0,v⟩
theorem TM(g:Nat)(c:dN g):hJ Tryz.prog (Bv g) 191 (Dj g) (cv (Dj g) 0):=by
 refine oE (∀(a c:Int)(d:List Op)(Q:aN (Dj g).out→Prop),let z:=(c-a).tdiv 4;let i:=a+IntKind.i64.wrap z*3;let j:=a+IntKind.i64.wrap z*2;let l:=a+IntKind.i64.wrap z*1;(Tr.need (fI d∧lu d a c∧a+13≤c) (Tr.all (Int×Int) (λy=>a≤y.1∧y.1<c) λy=>Tr.leaf (kQ g (y.1,y.2,d,())))).sat Q→ae (c-a)∧ae (IntKind.i64.wrap z*1)∧ae l∧ae (IntKind.i64.wrap z*2)∧ae j∧ae (IntKind.i64.wrap z*3)∧ae i∧Br (decide (8≤c-a)) (Br (decide (50≤c-a)) ((fI d∧pS d (a+IntKind.i64.wrap z*1-1)∧pS d (a+IntKind.i64.wrap z*1+1)∧(0:Int)≤0∧(0:Int)≤900)∧∀(b:Int×Int),a+IntKind.i64.wrap z*1-1≤b.1∧b.1≤a+IntKind.i64.wrap z*1+1∧0≤b.2∧b.2≤3→(fI d∧pS d (a+IntKind.i64.wrap z*2-1)∧pS d (a+IntKind.i64.wrap z*2+1)∧0≤b.2∧b.2≤900)∧∀(f:Int×Int),a+IntKind.i64.wrap z*2-1≤f.1∧f.1≤a+IntKind.i64.wrap z*2+1∧b.2≤f.2∧f.2≤b.2+3→(fI d∧pS d (a+IntKind.i64.wrap z*3-1)∧pS d (a+IntKind.i64.wrap z*3+1)∧0≤f.2∧f.2≤900)∧∀(h:Int×Int),a+IntKind.i64.wrap z*3-1≤h.1∧h.1≤a+IntKind.i64.wrap z*3+1∧f.2≤h.2∧h.2≤f.2+3→(fI d∧pS d b.1∧pS d f.1∧pS d h.1∧0≤h.2∧h.2≤900)∧∀(e:Int×Int),(e.1=b.1∨e.1=f.1∨e.1=h.1)∧h.2≤e.2∧e.2≤h.2+3→Br (e.2==0) (Q (kQ g (e.1,1,d,()))) (Br (e.2==12) (Q (kQ g (e.1,2,d,()))) (Q (kQ g (e.1,0,d,()))))) ((fI d∧pS d l∧pS d j∧pS d i∧(0:Int)≤0∧(0:Int)≤900)∧∀(b:Int×Int),(b.1=a+IntKind.i64.wrap z*1∨b.1=a+IntKind.i64.wrap z*2∨b.1=a+IntKind.i64.wrap z*3)∧0≤b.2∧b.2≤3→Br (b.2==0) (Q (kQ g (b.1,1,d,()))) (Br (b.2==12) (Q (kQ g (b.1,2,d,()))) (Q (kQ g (b.1,0,d,())))))) (Q (kQ g (a+IntKind.i64.wrap z*2,1,d,())))) (by rcases c with rfl|rfl<;>kernel_rfl) ?_
 conv=>zeta
 unfold Br;rintro a b l Q ⟨⟨h,⟨o,p,r⟩,s⟩,e⟩;have i:∀y m:Int,a≤y→y<b→Q ⟨0,(y,m,l,())⟩:=λy m j n=>e (y,m) ⟨j,n⟩;have t:=h.1
 have f:IntKind.i64.wrap ((b-a).tdiv 4)=(b-a)/4:=by
  rw[Int.tdiv_eq_ediv_of_nonneg (by omega),dj];omega
 rw[f];generalize c:(b-a)/4=q;have u:4*q≤b-a∧b-a<4*q+4:=by omega
 clear c f e
 (repeat' (first|assumption|apply bQ|intro _))<;>(try simp only[ah,aj]at*)<;>first
  |assumption
  |(unfold ae;omega)
  |omega
  |(apply i<;>omega)
theorem TN(g:Nat)(a:dN g):bO Tryz.prog 191 (Dj g):=dq (PD g a) (PE g) sE (by kernel_rfl) (TM g a)
def Bw(g:Nat):bu:=(191,[(Dj g)])::(Bv g)
theorem PF(g:Nat)(a:dN g):aP Tryz.prog (Bw g):=aP.add (PD g a) (by kernel_rfl) (bo (TN g a))
theorem PG(g:Nat):bg (Bw g):=bg.add (PE g) (bo (λx=>aR λh=>⟨(x.1,0),cr _,Int.lt_of_lt_of_le (by show @lU Int _ x.1 (x.1+13);omega) h.2.2⟩))
def HD(g:Nat):cc:=⟨[sO 0 0,sI 1,sI 2,fG g 3],[lH]⟩
def Dk(g:Nat):Ct:=⟨4,HD g,Tx,λ(a,b,l,_)=>eO (fI l∧lu l a b) (dE l) λy=>(y,())⟩
def a47(g:Nat):cc:=⟨[sO 0 0,sI 1,sI 2,fG g 3,sI 8,sI 9],[lH]⟩
def LZ(l0:List Op)(i j:Int)(l:List Op):Prop:=dE l0 l∧0≤i∧j<l0.length
def a48(g:Nat)(x:(Dk g).inp.den):dG:=⟨[(2,bM (a47 g) (λ(_,_,i,j,l,_)=>LZ x.2.2.1 i j l) λ(_,_,i,j,_)=>(@bG Int Int Int _ j i).toNat)],[],[],[],0⟩
abbrev HE(g:Nat)(v:List Op×Unit):aN ((Dk g)).out:=⟨0,v⟩
theorem TO(g:Nat)(n:dN g):hJ Tryz.prog (Bw g) 192 (Dk g) (a48 g):=by
 refine oE (∀(f e:Int)(d:List Op)(Q:aN (Dk g).out→Prop),(Tr.need (fI d∧lu d f e) (Tr.all (List Op) (dE d) λy=>Tr.leaf (HE g (y,())))).sat Q→ae (e-1)∧Is (LZ d f (e-1) d)∧∀(h i a b:Int)(c:List Op),let j:Prop:=0≤a∧a<(↑c.length:Int);let z:=c.set a.toNat (c.getD b.toNat (0,0,0,0,0,false,0,0,0,0,0,0,0,false,0,0,false,0,0,()));LZ d a b c→Br (decide (a<b)) ((0≤b∧b<(↑c.length:Int))∧j∧j∧(0≤b∧b<(↑z.length:Int))∧ae (a+1)∧ae (b-1)∧Is (LZ d (a+1) (b-1) (z.set b.toNat (c.getD a.toNat (0,0,0,0,0,false,0,0,0,0,0,0,0,false,0,0,false,0,0,())))∧(b-1-(a+1)).toNat<(b-a).toNat)) (Q (HE g (c,())))) (by rcases n with rfl|rfl<;>kernel_rfl) ?_
 conv=>zeta
 unfold Br;rintro a b l Q ⟨⟨h,o,s,t⟩,p⟩;have q:∀y,dE l y→Q ⟨0,(y,())⟩:=p;have u:=h.1;refine⟨by unfold ae;omega,⟨cm l,o,by omega⟩,?_⟩;rintro v w i j m ⟨f,x,A⟩;have e:=f.1;refine⟨λc=>?_,λ_=>q _ f⟩;have c:=ai c;have r:=dA (z:=oZ) f (i:=i.toNat) (j:=j.toNat) (by omega) (by omega);refine⟨by omega,by omega,by omega,by rw[cz];omega,by unfold ae;omega,by unfold ae;omega,⟨r,by omega,by omega⟩,by omega⟩
theorem TP(g:Nat)(a:dN g):bO Tryz.prog 192 (Dk g):=dq (PF g a) (PG g) sE (by kernel_rfl) (TO g a)
def Bx(g:Nat):bu:=(192,[(Dk g)])::(Bw g)
theorem PH(g:Nat)(a:dN g):aP Tryz.prog (Bx g):=aP.add (PF g a) (by kernel_rfl) (bo (TP g a))
theorem PI(g:Nat):bg (Bx g):=bg.add (PG g) (bo (λx=>aR λ_=>⟨_,cm _⟩))
def HF(c e:Int)(l0:List Op)(a b i:Int)(l:List Op):Prop:=a=c∧b=e∧dE l0 l∧c<i
def HG(c f e:Int)(l0:List Op)(a b i j:Int)(l:List Op):Prop:=a=c∧b=f∧i=e∧dE l0 l∧c≤j∧j≤e
def Dl(g:Nat):Ct:=⟨4,HD g,Tx,λ(a,b,l,_)=>eO (fI l∧lu l a b) (dE l) λy=>(y,())⟩
def a49(g:Nat)(x:(Dl g).inp.den):dG:=⟨[(1,og ⟨[sO 0 0,sI 1,sI 2,fG g 3,sI 8],[lH]⟩ (λ(a,b,i,l,_)=>HF x.1 x.2.1 x.2.2.1 a b i l) (λ(_,b,i,_)=>(@bG Int Int Int _ b i).toNat)
 λ(_,_,c,_)=>[(4,bM ⟨[sO 0 0,sI 1,sI 2,fG g 3,sI 8,sI 9],[lH]⟩ (λ(a,b,i,j,l,_)=>HG x.1 x.2.1 c x.2.2.1 a b i j l) (λ(a,_,_,j,_)=>(@bG Int Int Int _ j a).toNat))])],[],[],[],0⟩
abbrev HH(g:Nat)(v:List Op×Unit):aN ((Dl g)).out:=⟨0,v⟩
theorem TQ(g:Nat)(r:dN g):hJ Tryz.prog (Bx g) 188 (Dl g) (a49 g):=by
 refine oE (∀(e i:Int)(f:List Op)(Q:aN (Dl g).out→Prop),(Tr.need (fI f∧lu f e i) (Tr.all (List Op) (dE f) λy=>Tr.leaf (HH g (y,())))).sat Q→ae (e+1)∧Is (HF e i f e i (e+1) f)∧∀(n k h:Int)(m:List Op),HF e i f n k h m→Br (decide (h<k)) (Is (HG e i h f n k h h m)∧∀(c l j a:Int)(d:List Op),let p:Prop:=0≤a-1∧a-1<(↑d.length:Int);let o:Prop:=0≤a∧a<(↑d.length:Int);let q:Prop:=ae (j+1)∧Is (HF e i f c l (j+1) d∧(l-(j+1)).toNat<(k-h).toNat);let r:=d.getD a.toNat (0,0,0,0,0,false,0,0,0,0,0,0,0,false,0,0,false,0,0,());let z:=d.getD (a-1).toNat (0,0,0,0,0,false,0,0,0,0,0,0,0,false,0,0,false,0,0,());HG e i h f c l j a d→Br (decide (c<a)) (decide (c<a)=true∧decide (c<a)=true∧decide (c<a)=true∧o∧decide (c<a)=true∧decide (c<a)=true∧decide (c<a)=true∧decide (c<a)=true∧ae (a-1)∧decide (c<a)=true∧p∧decide (c<a)=true∧decide (c<a)=true∧(cP r∧cP z)∧∀(b:Int),True→decide (c<a)=true∧decide (c<a)=true∧Br (decide (b<0)) (ae (a-1)∧ae (a-1)∧p∧o∧o∧(0≤a-1∧a-1<(↑(d.set a.toNat z).length:Int))∧ae (a-1)∧Is (HG e i h f c l j (a-1) ((d.set a.toNat z).set (a-1).toNat r)∧(a-1-c).toNat<(a-c).toNat)) q) (decide (c<a)=false∧decide (c<a)=false∧decide (c<a)=false∧decide (c<a)=false∧decide (c<a)=false∧decide (c<a)=false∧decide (c<a)=false∧decide (c<a)=false∧decide (c<a)=false∧decide (c<a)=false∧decide (c<a)=false∧decide (c<a)=false∧q)) (Q (HH g (m,())))) (by rcases r with rfl|rfl<;>kernel_rfl) ?_
 conv=>zeta
 unfold Br;rintro a b l Q ⟨⟨h,w,x,z⟩,o⟩;have s:∀y,dE l y→Q ⟨0,(y,())⟩:=o;have A:=h.1;refine⟨by unfold ae;omega,⟨⟨rfl,rfl,cm l,by omega⟩⟩,?_⟩;rintro B C i m ⟨rfl,rfl,f,D⟩;have e:=f.1;refine⟨λc=>?_,λ_=>s _ f⟩;have c:=ai c;refine⟨⟨⟨rfl,rfl,rfl,f,by omega,cr _⟩⟩,?_⟩;rintro t u E j p ⟨rfl,rfl,rfl,q,F,G⟩;have H:=q.1;have hB:∀n,n<p.length→cP (p.getD n oZ):=λn v=>(gJ h q).2 _ (aT v);clear o
 (repeat' (first|assumption|with_reducible apply bQ|intro _))<;>(try simp only[ah,aj,aQ,ax,ne_eq,aO,aJ,bX,bR]at*)<;>(try simp only[cz])<;>first
  |assumption
  |(unfold ae;omega)
  |omega
  |exact hB _ (by omega)
  |exact hB2 _ (by omega)
  |exact dA ‹dE _ _› (by omega) (by omega)
  |(exfalso;omega)
  |(refine⟨?_⟩;(try unfold HF);(try unfold HG);(repeat' with_reducible apply bQ)<;>first|assumption|rfl|omega|exact .inl (by omega)|exact .inr (by omega)|(simp only[cz];omega)|exact dA ‹dE _ _› (by omega) (by omega))
theorem TS(g:Nat)(a:dN g):bO Tryz.prog 188 (Dl g):=dq (PH g a) (PI g) sE (by kernel_rfl) (TQ g a)
def By(g:Nat):bu:=(188,[(Dl g)])::(Bx g)
theorem PJ(g:Nat)(a:dN g):aP Tryz.prog (By g):=aP.add (PH g a) (by kernel_rfl) (bo (TS g a))
theorem PK(g:Nat):bg (By g):=bg.add (PI g) (bo (λx=>aR λ_=>⟨_,cm _⟩))
def Dm(b h0 a:Int)(l0:List Op)(h f r:Int)(l:List Op):Prop:=h=h0∧f=a∧dE l0 l∧0≤r∧r≤1000000
def Dn(g:Nat):Ct:=⟨5,⟨[sO 0 0,sI 1,sI 2,sI 3,fG g 4],[lH]⟩,Tx,λ(r,h,f,l,_)=>eO (fI l∧0≤r∧r≤100000∧0≤h∧0≤f∧@aZ Int _ (@eH Int Int Int _ f h) l.length) (dE l) λy=>(y,())⟩
def a5a(g:Nat)(x:(Dn g).inp.den):dG:=⟨[(1,bM ⟨[sO 0 0,sI 2,sI 3,fG g 4,sI 10],[lH]⟩ (λ(h,f,r,l,_)=>Dm x.1 x.2.1 x.2.2.1 x.2.2.2.1 h f r l) (λ(_,_,r,_)=>(2000000-r).toNat))],[],[],[],0⟩
abbrev HI(g:Nat)(v:List Op×Unit):aN ((Dn g)).out:=⟨0,v⟩
theorem TT(g:Nat)(e:dN g):hJ Tryz.prog (By g) 209 (Dn g) (a5a g):=by
 refine oE (∀(h i j:Int)(f:List Op)(Q:aN (Dn g).out→Prop),(Tr.need (fI f∧0≤h∧h≤100000∧0≤i∧0≤j∧j+i≤(↑f.length:Int)) (Tr.all (List Op) (dE f) λy=>Tr.leaf (HI g (y,())))).sat Q→Is (Dm h i j f i j h f)∧∀(e c a:Int)(d:List Op),let t:=HI g (d,());let n:=c+(2*a+1);let u:Prop:=0≤c+(2*a+1)∧c+(2*a+1)<(↑d.length:Int);let m:=2*a+1+1;let p:Prop:=0≤c+m∧c+m<(↑d.length:Int);let o:Prop:=0≤c+a∧c+a<(↑d.length:Int);let w:=d.getD (c+m).toNat (0,0,0,0,0,false,0,0,0,0,0,0,0,false,0,0,false,0,0,());let q:=d.set (c+a).toNat w;let r:=d.getD (c+a).toNat (0,0,0,0,0,false,0,0,0,0,0,0,0,false,0,0,false,0,0,());let v:=d.getD n.toNat (0,0,0,0,0,false,0,0,0,0,0,0,0,false,0,0,false,0,0,());let s:=d.set (c+a).toNat v;let l:Prop:=2*a+1+1<e;let z:Prop:=ae (c+a)∧ae n∧ae n∧u∧ae (c+a)∧o∧o∧(0≤c+(2*a+1)∧c+(2*a+1)<(↑s.length:Int))∧Is (Dm h i j f e c (2*a+1) (s.set n.toNat r)∧(2000000-(2*a+1)).toNat<(2000000-a).toNat);Dm h i j f e c a d→ae (2*a)∧ae (2*a+1)∧Br (decide (e≤2*a+1)) (Q t) (ae m∧Br (decide l) (decide l=true∧decide l=true∧decide l=true∧decide l=true∧ae n∧decide l=true∧u∧decide l=true∧decide l=true∧decide l=true∧decide l=true∧decide l=true∧ae n∧decide l=true∧ae (c+(2*a+1)+1)∧decide l=true∧(0≤c+(2*a+1)+1∧c+(2*a+1)+1<(↑d.length:Int))∧decide l=true∧decide l=true∧(cP v∧cP (d.getD (c+(2*a+1)+1).toNat (0,0,0,0,0,false,0,0,0,0,0,0,0,false,0,0,false,0,0,())))∧∀(b:Int),True→decide l=true∧decide l=true∧Br (decide (b<0)) (ae m∧ae (c+a)∧o∧ae (c+m)∧p∧(cP r∧cP w)∧∀(b:Int),True→Br (!decide (b<0)) (Q t) (ae (c+a)∧ae (c+m)∧ae (c+m)∧p∧ae (c+a)∧o∧o∧(0≤c+m∧c+m<(↑q.length:Int))∧Is (Dm h i j f e c m (q.set (c+m).toNat r)∧(2000000-m).toNat<(2000000-a).toNat))) (ae (c+a)∧o∧ae n∧u∧(cP r∧cP v)∧∀(b:Int),True→Br (!decide (b<0)) (Q t) z)) (decide l=false∧decide l=false∧decide l=false∧decide l=false∧decide l=false∧decide l=false∧decide l=false∧decide l=false∧decide l=false∧decide l=false∧decide l=false∧decide l=false∧decide l=false∧decide l=false∧decide l=false∧decide l=false∧ae (c+a)∧o∧ae n∧u∧(cP r∧cP v)∧∀(b:Int),True→Br (!decide (b<0)) (Q t) z))) (by rcases e with rfl|rfl<;>kernel_rfl) ?_
 conv=>zeta
 unfold Br;rintro r h f l Q ⟨⟨b,o,p,q,s,t⟩,c⟩;have i:∀y,dE l y→Q ⟨0,(y,())⟩:=c;have u:=b.1;refine⟨⟨⟨rfl,rfl,cm l,by omega,by omega⟩⟩,?_⟩;rintro v w x m ⟨rfl,rfl,a,z,A⟩;have B:=a.1;have hB:∀n,n<m.length→cP (m.getD n oZ):=λn j=>(gJ b a).2 _ (aT j);clear c
 (repeat' (first|assumption|with_reducible apply bQ|intro _))<;>(try simp only[ah,aj,aQ,ax,ne_eq,aO,aJ,bX,bR]at*)<;>(try simp only[cz])<;>first
  |assumption
  |(unfold ae;omega)
  |omega
  |exact hB _ (by omega)
  |exact hB2 _ (by omega)
  |exact dA ‹dE _ _› (by omega) (by omega)
  |exact i _ a
  |(exfalso;omega)
  |(refine⟨?_⟩;(try unfold Dm);(repeat' with_reducible apply bQ)<;>first|assumption|rfl|omega|exact .inl (by omega)|exact .inr (by omega)|(simp only[cz];omega)|exact dA ‹dE _ _› (by omega) (by omega))
theorem TU(g:Nat)(a:dN g):bO Tryz.prog 209 (Dn g):=dq (PJ g a) (PK g) sE (by kernel_rfl) (TT g a)
def Bz(g:Nat):bu:=(209,[(Dn g)])::(By g)
theorem PL(g:Nat)(a:dN g):aP Tryz.prog (Bz g):=aP.add (PJ g a) (by kernel_rfl) (bo (TU g a))
theorem PM(g:Nat):bg (Bz g):=bg.add (PK g) (bo (λx=>aR λ_=>⟨_,cm _⟩))
def L0(b c:Int)(l0:List Op)(a lo h i:Int)(l:List Op):Prop:=a=b∧lo=0∧h=c-b∧dE l0 l∧i<100000∧-2<i
def L1(b c:Int)(l0:List Op)(a lo i:Int)(l:List Op):Prop:=a=b∧lo=0∧dE l0 l∧i<c-b∧-2<i
def Do(g:Nat):Ct:=⟨4,HD g,Tx,λ(a,b,l,_)=>eO (fI l∧lu l a b) (dE l) λy=>(y,())⟩
def a5b(g:Nat)(x:(Do g).inp.den):dG:=⟨[(4,bM ⟨[sO 0 0,fG g 3,sI 8,sI 9,sI 10,sI 11],[lH]⟩ (λ(a,b,h,i,l,_)=>L0 x.1 x.2.1 x.2.2.1 a b h i l) (λ(_,_,_,i,_)=>(i+1).toNat)),
 (8,bM ⟨[sO 0 0,fG g 3,sI 8,sI 9,sI 12],[lH]⟩ (λ(a,b,i,l,_)=>L1 x.1 x.2.1 x.2.2.1 a b i l) (λ(_,_,i,_)=>(i+1).toNat))],[],[],[],0⟩
abbrev HJ(g:Nat)(v:List Op×Unit):aN ((Do g)).out:=⟨0,v⟩
theorem TV(g:Nat)(x:dN g):hJ Tryz.prog (Bz g) 189 (Do g) (a5b g):=by
 refine oE (∀(e f:Int)(h:List Op)(Q:aN (Do g).out→Prop),(Tr.need (fI h∧lu h e f) (Tr.all (List Op) (dE h) λy=>Tr.leaf (HJ g (y,())))).sat Q→ae (f-e)∧ae (f-e-1)∧Is (L0 e f h e 0 (f-e) (IntKind.i64.wrap ((f-e-1).tdiv 2)) h)∧∀(k n j i:Int)(l:List Op),L0 e f h k n j i l→Br (decide (0≤i)) ((fI l∧0≤i∧i≤100000∧0≤j∧0≤k∧k+j≤(↑l.length:Int))∧∀(b:List Op),dE l b→ae (i-1)∧Is (L0 e f h k n j (i-1) b∧(i-1+1).toNat<(i+1).toNat)) (ae (j-1)∧Is (L1 e f h k n (j-1) l)∧∀(a m c:Int)(d:List Op),let o:Prop:=0≤a∧a<(↑d.length:Int);let p:=d.set a.toNat (d.getD (a+c).toNat (0,0,0,0,0,false,0,0,0,0,0,0,0,false,0,0,false,0,0,()));let z:=p.set (a+c).toNat (d.getD a.toNat (0,0,0,0,0,false,0,0,0,0,0,0,0,false,0,0,false,0,0,()));L1 e f h a m c d→Br (decide (0≤c)) (ae (a+c)∧ae (a+c)∧(0≤a+c∧a+c<(↑d.length:Int))∧o∧o∧(0≤a+c∧a+c<(↑p.length:Int))∧(fI z∧0≤m∧m≤100000∧0≤c∧0≤a∧a+c≤(↑z.length:Int))∧∀(b:List Op),dE z b→ae (c-1)∧Is (L1 e f h a m (c-1) b∧(c-1+1).toNat<(c+1).toNat)) (Q (HJ g (d,()))))) (by rcases x with rfl|rfl<;>kernel_rfl) ?_
 conv=>zeta
 unfold Br;rintro a b l Q ⟨⟨h,D,E,F⟩,s⟩;have A:∀y,dE l y→Q ⟨0,(y,())⟩:=s;have G:=h.1;clear s
 have o:IntKind.i64.wrap ((b-a-1).tdiv 2)=(b-a-1).tdiv 2:=by
  rw[dj];rcases Int.lt_or_le (b-a-1) 0 with q|q
  ·rw[show b-a-1= -1 by omega];rfl
  ·rw[Int.tdiv_eq_ediv_of_nonneg q];omega
 have p:(b-a-1).tdiv 2<100000∧-2<(b-a-1).tdiv 2:=by
  rcases Int.lt_or_le (b-a-1) 0 with q|q
  ·rw[show b-a-1= -1 by omega];decide
  ·rw[Int.tdiv_eq_ediv_of_nonneg q];omega
 refine⟨by unfold ae;omega,by unfold ae;omega,⟨⟨rfl,rfl,rfl,cm l,by rw[o];exact p.1,by rw[o];exact p.2⟩⟩,?_⟩;clear o p;rintro H J K i m ⟨rfl,rfl,rfl,f,t,u⟩;have e:=f.1;have v:=gJ h f;refine⟨λc=>?_,λc=>⟨by unfold ae;omega,⟨⟨rfl,rfl,f,by omega,by omega⟩⟩,?_⟩⟩
 ·have c:=ai c;refine⟨⟨v,by omega,by omega,by omega,by omega,by omega⟩,λy r=>⟨by unfold ae;omega,⟨⟨rfl,rfl,rfl,dJ f r,by omega,by omega⟩,by omega⟩⟩⟩
 ·clear c v e f t u;rintro w B C L ⟨rfl,rfl,f,t,u⟩;have e:=f.1;refine⟨λc=>?_,λc=>A _ f⟩;have c:=ai c;have n:=dA (z:=oZ) (i:=w.toNat) (j:=(w+C).toNat) f (by omega) (by omega);refine⟨by unfold ae;omega,by unfold ae;omega,by omega,by omega,by omega,by rw[cz];omega,⟨gJ h n,by omega,by omega,by omega,by omega,by rw[cz,cz];omega⟩,λy r=>⟨by unfold ae;omega,⟨⟨rfl,rfl,dJ n r,by omega,by omega⟩,by omega⟩⟩⟩
theorem TW(g:Nat)(a:dN g):bO Tryz.prog 189 (Do g):=dq (PL g a) (PM g) sE (by kernel_rfl) (TV g a)
def BA(g:Nat):bu:=(189,[(Do g)])::(Bz g)
theorem PP(g:Nat)(a:dN g):aP Tryz.prog (BA g):=aP.add (PL g a) (by kernel_rfl) (bo (TW g a))
theorem PQ(g:Nat):bg (BA g):=bg.add (PM g) (bo (λx=>aR λ_=>⟨_,cm _⟩))
theorem D'{l m:List Op}(h:fI l)(g:dE l m){i:Nat}(hi:i<l.length):cP (m.getD i oZ):=(gJ h g).2 _ (aT (by rw[g.1];exact hi))
def nE(c e:Int)(l0:List Op)(a b i j:Int)(l:List Op):Prop:=dE l0 l∧(a=c∧b=e∧c<i∧(i≤e∨i=c+1)∧0≤j∧j≤5)
def tY(c e:Int)(l0:List Op)(f a b i j:Int)(l:List Op):Prop:=dE l0 l∧(a=c∧b=e∧c<i∧(i≤e∨i=c+1)∧j=f)
def ph(c e:Int)(l0:List Op)(f a b i j k:Int)(l:List Op):Prop:=dE l0 l∧(a=c∧b=e∧c<i∧i<e∧j=f∧k<i)
def fR(c e:Int)(l0:List Op)(f a b i j k:Int)(l:List Op):Prop:=dE l0 l∧(a=c∧b=e∧c<i∧i<e∧j=f∧i<k)
def Dp(g:Nat):Ct:=⟨4,HD g,[⟨[sL 0],[lH]⟩],λ(a,b,l,_)=>eO (fI l∧lu l a b) (λy:Bool×List Op=>dE l y.2) λy=>(y.1,y.2,())⟩
def a5c(g:Nat)(x:(Dp g).inp.den):dG:=⟨[(3,og ⟨[sO 0 0,sI 1,sI 2,fG g 3,sI 9,sI 10],[lH]⟩ (λ(a,b,i,j,l,_)=>nE x.1 x.2.1 x.2.2.1 a b i j l) (λ(_,_,_,j,_)=>(@bG Int Int Int _ 5 j).toNat)
 λ(_,_,_,c,_)=>[
  (5,bM ⟨[sO 0 0,sI 1,sI 2,fG g 3,sI 9,sI 10],[lH]⟩ (λ(a,b,i,j,l,_)=>tY x.1 x.2.1 x.2.2.1 c a b i j l) (λ(_,b,i,_)=>(@bG Int Int Int _ b i).toNat)),
  (14,bM ⟨[sO 0 0,sI 1,sI 2,fG g 3,sI 9,sI 10,sI 11],[lH]⟩ (λ(a,b,i,j,k,l,_)=>ph x.1 x.2.1 x.2.2.1 c a b i j k l) (λ(_,_,_,_,k,_)=>k.toNat)),
  (20,bM ⟨[sO 0 0,sI 1,sI 2,fG g 3,sI 9,sI 10,sI 12],[lH]⟩ (λ(a,b,i,j,k,l,_)=>fR x.1 x.2.1 x.2.2.1 c a b i j k l) (λ(_,b,_,_,k,_)=>(@bG Int Int Int _ b k).toNat))])],[],[],[],0⟩
abbrev vu(g:Nat)(v:Bool×List Op×Unit):aN ((Dp g)).out:=⟨0,v⟩
theorem TX(g:Nat)(j:dN g):hJ Tryz.prog (BA g) 193 (Dp g) (a5c g):=by
 refine oE (∀(i k:Int)(j:List Op)(Q:aN (Dp g).out→Prop),(Tr.need (fI j∧lu j i k) (Tr.all (Bool×List Op) (λy=>dE j y.2) λy=>Tr.leaf (vu g (y.1,y.2,())))).sat Q→ae (i+1)∧Is (nE i k j i k (i+1) 0 j)∧∀(a0 a1 a2 l:Int)(z:List Op),nE i k j a0 a1 a2 l z→Br (decide (l<5)) (Is (tY i k j l a0 a1 a2 l z)∧∀(t h d w:Int)(p:List Op),let L:Prop:=(d==h)=true→Q (vu g (true,p,()));let M:Prop:=decide (h-t<50)=true→Q (vu g (false,p,()));let A:Prop:=0≤d-1∧d-1<(↑p.length:Int);let N:=p.getD d.toNat (0,0,0,0,0,false,0,0,0,0,0,0,0,false,0,0,false,0,0,());let x:Prop:=0≤d∧d<(↑p.length:Int);let z2:=p.getD (d-1).toNat (0,0,0,0,0,false,0,0,0,0,0,0,0,false,0,0,false,0,0,());let O:Prop:=0≤d-1∧d-1<(↑(p.set d.toNat z2).length:Int);let z1:=(p.set d.toNat z2).set (d-1).toNat N;let P:=fR i k j l t h d w (d+1) z1;let R:=ph i k j l t h d w (d-1) z1;let S:Prop:=decide (2≤h-d)=false→ae (w+1)∧Is (nE i k j t h d (w+1) z1∧(5-(w+1)).toNat<(5-l).toNat);tY i k j l t h d w p→Br (decide (d<h)) (decide (d<h)=true∧decide (d<h)=true∧decide (d<h)=true∧x∧decide (d<h)=true∧decide (d<h)=true∧decide (d<h)=true∧decide (d<h)=true∧ae (d-1)∧decide (d<h)=true∧A∧decide (d<h)=true∧decide (d<h)=true∧(cP N∧cP z2)∧∀(b:Int),True→decide (d<h)=true∧decide (d<h)=true∧decide (d<h)=true∧Br (!decide (b<0)) (ae (d+1)∧Is (tY i k j l t h (d+1) w p∧(h-(d+1)).toNat<(h-d).toNat)) (L∧((d==h)=false→ae (h-t)∧M∧(decide (h-t<50)=false→ae (d-1)∧ae (d-1)∧A∧x∧x∧O∧ae (d-t)∧Br (decide (2≤d-t)) (ae (d-1)∧Is R∧∀(s m n o a:Int)(e:List Op),let U:=fR i k j l s m n o (n+1) e;let W:Prop:=0≤a-1∧a-1<(↑e.length:Int);let B:Prop:=0≤a∧a<(↑e.length:Int);let X:=e.getD a.toNat (0,0,0,0,0,false,0,0,0,0,0,0,0,false,0,0,false,0,0,());let Y:Prop:=decide (2≤m-n)=false→ae (o+1)∧Is (nE i k j s m n (o+1) e∧(5-(o+1)).toNat<(5-l).toNat);let z3:=e.getD (a-1).toNat (0,0,0,0,0,false,0,0,0,0,0,0,0,false,0,0,false,0,0,());ph i k j l s m n o a e→Br (decide (1≤a)) (B∧ae (a-1)∧W∧(cP X∧cP z3)∧∀(b:Int),True→Br (!decide (b<0)) (ae (m-n)∧(decide (2≤m-n)=true→ae (n+1)∧Is U∧∀(u q v r c:Int)(f:List Op),let a3:Prop:=0≤c-1∧c-1<(↑f.length:Int);let C:Prop:=0≤c∧c<(↑f.length:Int);let a4:Prop:=ae (r+1)∧Is (nE i k j u q v (r+1) f∧(5-(r+1)).toNat<(5-l).toNat);let a5:=f.getD c.toNat (0,0,0,0,0,false,0,0,0,0,0,0,0,false,0,0,false,0,0,());let z4:=f.getD (c-1).toNat (0,0,0,0,0,false,0,0,0,0,0,0,0,false,0,0,false,0,0,());fR i k j l u q v r c f→Br (decide (c<q)) (C∧ae (c-1)∧a3∧(cP a5∧cP z4)∧∀(b:Int),True→Br (!decide (b<0)) a4 (ae (c-1)∧ae (c-1)∧a3∧C∧C∧(0≤c-1∧c-1<(↑(f.set c.toNat z4).length:Int))∧ae (c+1)∧Is (fR i k j l u q v r (c+1) ((f.set c.toNat z4).set (c-1).toNat a5)∧(q-(c+1)).toNat<(q-c).toNat))) a4)∧Y) (ae (a-1)∧ae (a-1)∧W∧B∧B∧(0≤a-1∧a-1<(↑(e.set a.toNat z3).length:Int))∧ae (a-1)∧Is (ph i k j l s m n o (a-1) ((e.set a.toNat z3).set (a-1).toNat X)∧(a-1).toNat<a.toNat))) (ae (m-n)∧(decide (2≤m-n)=true→ae (n+1)∧Is U∧∀(u q v r c:Int)(f:List Op),let a6:Prop:=0≤c-1∧c-1<(↑f.length:Int);let D:Prop:=0≤c∧c<(↑f.length:Int);let a7:Prop:=ae (r+1)∧Is (nE i k j u q v (r+1) f∧(5-(r+1)).toNat<(5-l).toNat);let a8:=f.getD c.toNat (0,0,0,0,0,false,0,0,0,0,0,0,0,false,0,0,false,0,0,());let z5:=f.getD (c-1).toNat (0,0,0,0,0,false,0,0,0,0,0,0,0,false,0,0,false,0,0,());fR i k j l u q v r c f→Br (decide (c<q)) (D∧ae (c-1)∧a6∧(cP a8∧cP z5)∧∀(b:Int),True→Br (!decide (b<0)) a7 (ae (c-1)∧ae (c-1)∧a6∧D∧D∧(0≤c-1∧c-1<(↑(f.set c.toNat z5).length:Int))∧ae (c+1)∧Is (fR i k j l u q v r (c+1) ((f.set c.toNat z5).set (c-1).toNat a8)∧(q-(c+1)).toNat<(q-c).toNat))) a7)∧Y)) (ae (h-d)∧(decide (2≤h-d)=true→ae (d+1)∧Is P∧∀(s m n o a:Int)(e:List Op),let a9:Prop:=0≤a-1∧a-1<(↑e.length:Int);let E:Prop:=0≤a∧a<(↑e.length:Int);let b0:Prop:=ae (o+1)∧Is (nE i k j s m n (o+1) e∧(5-(o+1)).toNat<(5-l).toNat);let b1:=e.getD a.toNat (0,0,0,0,0,false,0,0,0,0,0,0,0,false,0,0,false,0,0,());let z6:=e.getD (a-1).toNat (0,0,0,0,0,false,0,0,0,0,0,0,0,false,0,0,false,0,0,());fR i k j l s m n o a e→Br (decide (a<m)) (E∧ae (a-1)∧a9∧(cP b1∧cP z6)∧∀(b:Int),True→Br (!decide (b<0)) b0 (ae (a-1)∧ae (a-1)∧a9∧E∧E∧(0≤a-1∧a-1<(↑(e.set a.toNat z6).length:Int))∧ae (a+1)∧Is (fR i k j l s m n o (a+1) ((e.set a.toNat z6).set (a-1).toNat b1)∧(m-(a+1)).toNat<(m-a).toNat))) b0)∧S))))) (decide (d<h)=false∧decide (d<h)=false∧decide (d<h)=false∧decide (d<h)=false∧decide (d<h)=false∧decide (d<h)=false∧decide (d<h)=false∧decide (d<h)=false∧decide (d<h)=false∧decide (d<h)=false∧decide (d<h)=false∧decide (d<h)=false∧decide (d<h)=false∧L∧((d==h)=false→ae (h-t)∧M∧(decide (h-t<50)=false→ae (d-1)∧ae (d-1)∧A∧x∧x∧O∧ae (d-t)∧Br (decide (2≤d-t)) (ae (d-1)∧Is R∧∀(s m n o a:Int)(e:List Op),let b2:=fR i k j l s m n o (n+1) e;let b3:Prop:=0≤a-1∧a-1<(↑e.length:Int);let F:Prop:=0≤a∧a<(↑e.length:Int);let b4:=e.getD a.toNat (0,0,0,0,0,false,0,0,0,0,0,0,0,false,0,0,false,0,0,());let b5:Prop:=decide (2≤m-n)=false→ae (o+1)∧Is (nE i k j s m n (o+1) e∧(5-(o+1)).toNat<(5-l).toNat);let z7:=e.getD (a-1).toNat (0,0,0,0,0,false,0,0,0,0,0,0,0,false,0,0,false,0,0,());ph i k j l s m n o a e→Br (decide (1≤a)) (F∧ae (a-1)∧b3∧(cP b4∧cP z7)∧∀(b:Int),True→Br (!decide (b<0)) (ae (m-n)∧(decide (2≤m-n)=true→ae (n+1)∧Is b2∧∀(u q v r c:Int)(f:List Op),let b6:Prop:=0≤c-1∧c-1<(↑f.length:Int);let G:Prop:=0≤c∧c<(↑f.length:Int);let b7:Prop:=ae (r+1)∧Is (nE i k j u q v (r+1) f∧(5-(r+1)).toNat<(5-l).toNat);let b8:=f.getD c.toNat (0,0,0,0,0,false,0,0,0,0,0,0,0,false,0,0,false,0,0,());let z8:=f.getD (c-1).toNat (0,0,0,0,0,false,0,0,0,0,0,0,0,false,0,0,false,0,0,());fR i k j l u q v r c f→Br (decide (c<q)) (G∧ae (c-1)∧b6∧(cP b8∧cP z8)∧∀(b:Int),True→Br (!decide (b<0)) b7 (ae (c-1)∧ae (c-1)∧b6∧G∧G∧(0≤c-1∧c-1<(↑(f.set c.toNat z8).length:Int))∧ae (c+1)∧Is (fR i k j l u q v r (c+1) ((f.set c.toNat z8).set (c-1).toNat b8)∧(q-(c+1)).toNat<(q-c).toNat))) b7)∧b5) (ae (a-1)∧ae (a-1)∧b3∧F∧F∧(0≤a-1∧a-1<(↑(e.set a.toNat z7).length:Int))∧ae (a-1)∧Is (ph i k j l s m n o (a-1) ((e.set a.toNat z7).set (a-1).toNat b4)∧(a-1).toNat<a.toNat))) (ae (m-n)∧(decide (2≤m-n)=true→ae (n+1)∧Is b2∧∀(u q v r c:Int)(f:List Op),let b9:Prop:=0≤c-1∧c-1<(↑f.length:Int);let H:Prop:=0≤c∧c<(↑f.length:Int);let c0:Prop:=ae (r+1)∧Is (nE i k j u q v (r+1) f∧(5-(r+1)).toNat<(5-l).toNat);let c1:=f.getD c.toNat (0,0,0,0,0,false,0,0,0,0,0,0,0,false,0,0,false,0,0,());let z9:=f.getD (c-1).toNat (0,0,0,0,0,false,0,0,0,0,0,0,0,false,0,0,false,0,0,());fR i k j l u q v r c f→Br (decide (c<q)) (H∧ae (c-1)∧b9∧(cP c1∧cP z9)∧∀(b:Int),True→Br (!decide (b<0)) c0 (ae (c-1)∧ae (c-1)∧b9∧H∧H∧(0≤c-1∧c-1<(↑(f.set c.toNat z9).length:Int))∧ae (c+1)∧Is (fR i k j l u q v r (c+1) ((f.set c.toNat z9).set (c-1).toNat c1)∧(q-(c+1)).toNat<(q-c).toNat))) c0)∧b5)) (ae (h-d)∧(decide (2≤h-d)=true→ae (d+1)∧Is P∧∀(s m n o a:Int)(e:List Op),let c2:Prop:=0≤a-1∧a-1<(↑e.length:Int);let J:Prop:=0≤a∧a<(↑e.length:Int);let c3:Prop:=ae (o+1)∧Is (nE i k j s m n (o+1) e∧(5-(o+1)).toNat<(5-l).toNat);let c4:=e.getD a.toNat (0,0,0,0,0,false,0,0,0,0,0,0,0,false,0,0,false,0,0,());let K:=e.getD (a-1).toNat (0,0,0,0,0,false,0,0,0,0,0,0,0,false,0,0,false,0,0,());fR i k j l s m n o a e→Br (decide (a<m)) (J∧ae (a-1)∧c2∧(cP c4∧cP K)∧∀(b:Int),True→Br (!decide (b<0)) c3 (ae (a-1)∧ae (a-1)∧c2∧J∧J∧(0≤a-1∧a-1<(↑(e.set a.toNat K).length:Int))∧ae (a+1)∧Is (fR i k j l s m n o (a+1) ((e.set a.toNat K).set (a-1).toNat c4)∧(m-(a+1)).toNat<(m-a).toNat))) c3)∧S))))) (Q (vu g (false,z,())))) (by rcases j with rfl|rfl<;>kernel_rfl) ?_
 conv=>zeta
 unfold Br;rintro a b l Q ⟨⟨f,o,p,q⟩,i⟩;have m:∀(c:Bool)(y:List Op),dE l y→Q ⟨0,(c,y,())⟩:=λc y n=>i (c,y) n;have r:=f.1;have s:=cm l;clear i
 (repeat' (first|assumption|with_reducible apply bQ|(intro h;unfold nE at h;obtain⟨g,k⟩:=h;have e:=g.1)|(intro h;unfold tY at h;obtain⟨g,k⟩:=h;have e:=g.1)|(intro h;unfold ph at h;obtain⟨g,k⟩:=h;have e:=g.1)|(intro h;unfold fR at h;obtain⟨g,k⟩:=h;have e:=g.1)|intro _))<;>(try simp only[ah]at*)<;>(try simp only[aj]at*)<;>(try simp only[aQ]at*)<;>(try simp only[ax]at*)<;>(try simp only[ne_eq]at*)<;>(try simp only[aO]at*)<;>(try simp only[aJ]at*)<;>(try simp only[bX]at*)<;>(try simp only[bR]at*)<;>(try simp only[cz])<;>first
  |assumption
  |(unfold ae;omega)
  |omega
  |exact D' f ‹dE _ _› (by omega)
  |exact dA ‹dE _ _› (by omega) (by omega)
  |exact m _ _ ‹dE _ _›
  |(exfalso;omega)
  |(refine⟨?_⟩;(try with_reducible apply bQ)<;>(try first|unfold nE|unfold tY|unfold ph|unfold fR)<;>(first|omega|(refine bQ ?_ ?_<;>first|assumption|omega|exact dA ‹dE _ _› (by omega) (by omega)|exact cm _)))
theorem TY(g:Nat)(a:dN g):bO Tryz.prog 193 (Dp g):=dq (PP g a) (PQ g) sE (by kernel_rfl) (TX g a)
def tZ(g:Nat):bu:=(193,[(Dp g)])::(BA g)
theorem BB(g:Nat)(a:dN g):aP Tryz.prog (tZ g):=aP.add (PP g a) (by kernel_rfl) (bo (TY g a))
theorem BC(g:Nat):bg (tZ g):=bg.add (PQ g) (bo (λx=>aR λ_=>⟨(false,_),cm _⟩))
def T0(g:Nat):cc:=⟨[sO 0 0,sI 1,sI 2,sI 3,fG g 4],[lH]⟩
def a7e(b c a i j:Int):Prop:=a=b∧b<i∧i≤c∧b≤j∧j<c
def eE(b c:Int)(l0:List Op)(a i j:Int)(l:List Op):Prop:=dE l0 l∧(a=b∧b<i∧i≤c∧b≤j∧j<c)
def dw(b c e f:Int)(l0:List Op)(a i j:Int)(l:List Op):Prop:=dE l0 l∧(a=b∧b<i∧i≤c∧b≤j∧j<c∧e≤i∧j≤f)
def Dq(g:Nat):Ct:=⟨5,T0 g,[⟨[sI 0],[lH]⟩],λ(a,b,p,l,_)=>eO (fI l∧lu l a b∧@aZ Int _ a p∧@lU Int _ p b) (λy:Int×List Op=>dE l y.2∧@lU Int _ a y.1∧@aZ Int _ y.1 b) λy=>(y.1,y.2,())⟩
def T2(g:Nat):cc:=⟨[sO 0 0,sI 1,fG g 4,sI 11,sI 12],[lH]⟩
def a5d(g:Nat)(x:(Dq g).inp.den):dG:=⟨[(3,og (T2 g) (λ(a,i,j,l,_)=>eE x.1 x.2.1 x.2.2.2.1 a i j l) (λ(_,i,j,_)=>(@eH Int Int Int _ (@bG Int Int Int _ j i) 3).toNat)
 λ(_,b,c,_)=>[
  (3,bM (T2 g) (λ(a,i,j,l,_)=>dw x.1 x.2.1 b c x.2.2.2.1 a i j l) (λ(_,i,j,_)=>(@eH Int Int Int _ (@bG Int Int Int _ j i) 3).toNat)),
  (5,bM (T2 g) (λ(a,i,j,l,_)=>dw x.1 x.2.1 b c x.2.2.2.1 a i j l) (λ(_,i,j,_)=>(@eH Int Int Int _ (@bG Int Int Int _ j i) 3).toNat))])],[],[],[],0⟩
abbrev zD(g:Nat)(v:Int×List Op×Unit):aN ((Dq g)).out:=⟨0,v⟩
theorem T3(g:Nat)(m:dN g):hJ Tryz.prog (tZ g) 194 (Dq g) (a5d g):=by
 refine oE (∀(h j n:Int)(i:List Op)(Q:aN (Dq g).out→Prop),let v:Prop:=0≤h∧h<(↑i.length:Int);let w:=i.set h.toNat (i.getD n.toNat (0,0,0,0,0,false,0,0,0,0,0,0,0,false,0,0,false,0,0,()));(Tr.need (fI i∧lu i h j∧h≤n∧n<j) (Tr.all (Int×List Op) (λy=>dE i y.2∧h<y.1∧y.1≤j) λy=>Tr.leaf (zD g (y.1,y.2,())))).sat Q→(0≤n∧n<(↑i.length:Int))∧v∧v∧(0≤n∧n<(↑w.length:Int))∧ae (h+1)∧ae (j-1)∧Is (eE h j i h (h+1) (j-1) (w.set n.toNat (i.getD h.toNat (0,0,0,0,0,false,0,0,0,0,0,0,0,false,0,0,false,0,0,()))))∧∀(q k l:Int)(r:List Op),eE h j i q k l r→Is (dw h j k l i q k l r)∧∀(p e f:Int)(o:List Op),let s:=dw h j k l i p e f o;dw h j k l i p e f o→Br (decide (e≤f)) (decide (e≤f)=true∧decide (e≤f)=true∧decide (e≤f)=true∧(0≤p∧p<(↑o.length:Int))∧decide (e≤f)=true∧decide (e≤f)=true∧decide (e≤f)=true∧decide (e≤f)=true∧(0≤e∧e<(↑o.length:Int))∧decide (e≤f)=true∧decide (e≤f)=true∧(cP (o.getD p.toNat (0,0,0,0,0,false,0,0,0,0,0,0,0,false,0,0,false,0,0,()))∧cP (o.getD e.toNat (0,0,0,0,0,false,0,0,0,0,0,0,0,false,0,0,false,0,0,())))∧∀(b:Int),True→decide (e≤f)=true∧decide (e≤f)=true∧decide (e≤f)=true∧Br (!decide (b<0)) (ae (e+1)∧Is (dw h j k l i p (e+1) f o∧(f-(e+1)+3).toNat<(f-e+3).toNat)) (Is s∧∀(m c a:Int)(d:List Op),let x:Prop:=0≤c∧c<(↑d.length:Int);let A:Prop:=0≤a∧a<(↑d.length:Int);let t:=d.getD a.toNat (0,0,0,0,0,false,0,0,0,0,0,0,0,false,0,0,false,0,0,());let z:Prop:=Br (decide (a<c)) (Q (zD g (c,d,()))) (A∧x∧x∧(0≤a∧a<(↑(d.set c.toNat t).length:Int))∧ae (c+1)∧ae (a-1)∧Is (eE h j i m (c+1) (a-1) ((d.set c.toNat t).set a.toNat (d.getD c.toNat (0,0,0,0,0,false,0,0,0,0,0,0,0,false,0,0,false,0,0,())))∧(a-1-(c+1)+3).toNat<(l-k+3).toNat));dw h j k l i m c a d→Br (decide (c≤a)) (decide (c≤a)=true∧decide (c≤a)=true∧decide (c≤a)=true∧(0≤m∧m<(↑d.length:Int))∧decide (c≤a)=true∧decide (c≤a)=true∧decide (c≤a)=true∧decide (c≤a)=true∧A∧decide (c≤a)=true∧decide (c≤a)=true∧(cP (d.getD m.toNat (0,0,0,0,0,false,0,0,0,0,0,0,0,false,0,0,false,0,0,()))∧cP t)∧∀(b:Int),True→decide (c≤a)=true∧decide (c≤a)=true∧Br (decide (b<0)) (ae (a-1)∧Is (dw h j k l i m c (a-1) d∧(a-1-c+3).toNat<(a-c+3).toNat)) z) (decide (c≤a)=false∧decide (c≤a)=false∧decide (c≤a)=false∧decide (c≤a)=false∧decide (c≤a)=false∧decide (c≤a)=false∧decide (c≤a)=false∧decide (c≤a)=false∧decide (c≤a)=false∧decide (c≤a)=false∧decide (c≤a)=false∧z))) (decide (e≤f)=false∧decide (e≤f)=false∧decide (e≤f)=false∧decide (e≤f)=false∧decide (e≤f)=false∧decide (e≤f)=false∧decide (e≤f)=false∧decide (e≤f)=false∧decide (e≤f)=false∧decide (e≤f)=false∧decide (e≤f)=false∧decide (e≤f)=false∧Is s∧∀(m c a:Int)(d:List Op),let B:Prop:=0≤c∧c<(↑d.length:Int);let C:Prop:=0≤a∧a<(↑d.length:Int);let u:=d.getD a.toNat (0,0,0,0,0,false,0,0,0,0,0,0,0,false,0,0,false,0,0,());let D:Prop:=Br (decide (a<c)) (Q (zD g (c,d,()))) (C∧B∧B∧(0≤a∧a<(↑(d.set c.toNat u).length:Int))∧ae (c+1)∧ae (a-1)∧Is (eE h j i m (c+1) (a-1) ((d.set c.toNat u).set a.toNat (d.getD c.toNat (0,0,0,0,0,false,0,0,0,0,0,0,0,false,0,0,false,0,0,())))∧(a-1-(c+1)+3).toNat<(l-k+3).toNat));dw h j k l i m c a d→Br (decide (c≤a)) (decide (c≤a)=true∧decide (c≤a)=true∧decide (c≤a)=true∧(0≤m∧m<(↑d.length:Int))∧decide (c≤a)=true∧decide (c≤a)=true∧decide (c≤a)=true∧decide (c≤a)=true∧C∧decide (c≤a)=true∧decide (c≤a)=true∧(cP (d.getD m.toNat (0,0,0,0,0,false,0,0,0,0,0,0,0,false,0,0,false,0,0,()))∧cP u)∧∀(b:Int),True→decide (c≤a)=true∧decide (c≤a)=true∧Br (decide (b<0)) (ae (a-1)∧Is (dw h j k l i m c (a-1) d∧(a-1-c+3).toNat<(a-c+3).toNat)) D) (decide (c≤a)=false∧decide (c≤a)=false∧decide (c≤a)=false∧decide (c≤a)=false∧decide (c≤a)=false∧decide (c≤a)=false∧decide (c≤a)=false∧decide (c≤a)=false∧decide (c≤a)=false∧decide (c≤a)=false∧decide (c≤a)=false∧D))) (by rcases m with rfl|rfl<;>kernel_rfl) ?_
 conv=>zeta
 unfold Br;rintro a b p l Q ⟨⟨f,⟨r,s,t⟩,u,v⟩,i⟩;have n:∀(c:Int)(y:List Op),dE l y→a<c→c≤b→Q ⟨0,(c,y,())⟩:=λc y o j q=>i (c,y) ⟨o,j,q⟩;have w:=f.1;have j:=cm l;clear i
 (repeat' (first|assumption|with_reducible apply bQ|(intro h;unfold eE at h;obtain⟨g,k⟩:=h;have e:=g.1)|(intro h;unfold dw at h;obtain⟨g,k⟩:=h;have e:=g.1)|intro _))<;>(try simp only[ah]at*)<;>(try simp only[aj]at*)<;>(try simp only[aQ]at*)<;>(try simp only[ax]at*)<;>(try simp only[ne_eq]at*)<;>(try simp only[aO]at*)<;>(try simp only[aJ]at*)<;>(try simp only[bX]at*)<;>(try simp only[bR]at*)<;>(try simp only[cz])<;>first
  |assumption
  |(unfold ae;omega)
  |omega
  |exact D' f ‹dE _ _› (by omega)
  |exact dA ‹dE _ _› (by omega) (by omega)
  |exact n _ _ ‹dE _ _› (by omega) (by omega)
  |(exfalso;omega)
  |(refine⟨?_⟩;(try with_reducible apply bQ)<;>(try first|unfold eE|unfold dw)<;>(first|omega|(refine bQ ?_ ?_<;>first|assumption|omega|exact dA ‹dE _ _› (by omega) (by omega)|exact cm _)))
theorem T4(g:Nat)(a:dN g):bO Tryz.prog 194 (Dq g):=dq (BB g a) (BC g) sE (by kernel_rfl) (T3 g a)
def BD(g:Nat):bu:=(194,[(Dq g)])::(tZ g)
theorem PR(g:Nat)(a:dN g):aP Tryz.prog (BD g):=aP.add (BB g a) (by kernel_rfl) (bo (T4 g a))
theorem PT(g:Nat):bg (BD g):=bg.add (BC g) (bo (λx=>aR λh=>⟨(x.2.1,_),cm _,by have:=h.2.2;show @lU Int _ x.1 x.2.1;have a:@aZ Int _ x.1 x.2.2.1:=this.1;have b:@lU Int _ x.2.2.1 x.2.1:=this.2;omega,cr _⟩))
def Dr(g:Nat):Ct:=⟨5,T0 g,[⟨[sI 0,sL 1],[lH]⟩],λ(a,b,p,l,_)=>eO (fI l∧lu l a b∧@aZ Int _ a p∧@lU Int _ p b) (λy:Int×Bool×List Op=>dE l y.2.2∧@aZ Int _ a y.1∧@lU Int _ y.1 b) λy=>(y.1,y.2.1,y.2.2,())⟩
def Ds(g:Nat):cc:=⟨[sO 0 0,sI 1,fG g 4,sI 12,sI 13],[lH]⟩
def a5e(g:Nat)(x:(Dr g).inp.den):dG:=⟨[(3,bM (Ds g) (λ(a,i,j,l,_)=>eE x.1 x.2.1 x.2.2.2.1 a i j l) (λ(_,i,j,_)=>(@eH Int Int Int _ (@bG Int Int Int _ j i) 3).toNat)),(5,bM (Ds g) (λ(a,i,j,l,_)=>eE x.1 x.2.1 x.2.2.2.1 a i j l) (λ(_,i,j,_)=>(@eH Int Int Int _ (@bG Int Int Int _ j i) 3).toNat)),
 (13,og (Ds g) (λ(a,i,j,l,_)=>eE x.1 x.2.1 x.2.2.2.1 a i j l) (λ(_,i,j,_)=>(@eH Int Int Int _ (@bG Int Int Int _ j i) 3).toNat)
 λ(_,b,c,_)=>[
  (13,bM (Ds g) (λ(a,i,j,l,_)=>dw x.1 x.2.1 b c x.2.2.2.1 a i j l) (λ(_,i,j,_)=>(@eH Int Int Int _ (@bG Int Int Int _ j i) 3).toNat)),
  (15,bM (Ds g) (λ(a,i,j,l,_)=>dw x.1 x.2.1 b c x.2.2.2.1 a i j l) (λ(_,i,j,_)=>(@eH Int Int Int _ (@bG Int Int Int _ j i) 3).toNat))])],[(7,bM (Ds g) (λ(a,i,j,l,_)=>eE x.1 x.2.1 x.2.2.2.1 a i j l) λ_=>0)],[],[],0⟩
abbrev mC(g:Nat)(v:Int×Bool×List Op×Unit):aN ((Dr g)).out:=⟨0,v⟩
theorem T5(g:Nat)(n:dN g):hJ Tryz.prog (BD g) 195 (Dr g) (a5e g):=by
 refine oE (∀(k n v:Int)(l:List Op)(Q:aN (Dr g).out→Prop),let L:Prop:=0≤k∧k<(↑l.length:Int);let M:=l.set k.toNat (l.getD v.toNat (0,0,0,0,0,false,0,0,0,0,0,0,0,false,0,0,false,0,0,()));(Tr.need (fI l∧lu l k n∧k≤v∧v<n) (Tr.all (Int×Bool×List Op) (λy=>dE l y.2.2∧k≤y.1∧y.1<n) λy=>Tr.leaf (mC g (y.1,y.2.1,y.2.2,())))).sat Q→(0≤v∧v<(↑l.length:Int))∧L∧L∧(0≤v∧v<(↑M.length:Int))∧ae (k+1)∧ae (n-1)∧Is (eE k n l k (k+1) (n-1) (M.set v.toNat (l.getD k.toNat (0,0,0,0,0,false,0,0,0,0,0,0,0,false,0,0,false,0,0,()))))∧∀(z p s:Int)(w:List Op),eE k n l z p s w→Br (decide (p≤s)) (decide (p≤s)=true∧decide (p≤s)=true∧decide (p≤s)=true∧(0≤p∧p<(↑w.length:Int))∧decide (p≤s)=true∧decide (p≤s)=true∧decide (p≤s)=true∧decide (p≤s)=true∧(0≤z∧z<(↑w.length:Int))∧decide (p≤s)=true∧decide (p≤s)=true∧(cP (w.getD p.toNat (0,0,0,0,0,false,0,0,0,0,0,0,0,false,0,0,false,0,0,()))∧cP (w.getD z.toNat (0,0,0,0,0,false,0,0,0,0,0,0,0,false,0,0,false,0,0,())))∧∀(b:Int),True→decide (p≤s)=true∧decide (p≤s)=true∧Br (decide (b<0)) (ae (p+1)∧Is (eE k n l z (p+1) s w∧(s-(p+1)+3).toNat<(s-p+3).toNat)) ((Is (eE k n l z p s w)∧∀(o f e:Int)(m:List Op),eE k n l o f e m→Br (decide (f≤e)) (decide (f≤e)=true∧decide (f≤e)=true∧decide (f≤e)=true∧(0≤e∧e<(↑m.length:Int))∧decide (f≤e)=true∧decide (f≤e)=true∧decide (f≤e)=true∧decide (f≤e)=true∧(0≤o∧o<(↑m.length:Int))∧decide (f≤e)=true∧decide (f≤e)=true∧(cP (m.getD e.toNat (0,0,0,0,0,false,0,0,0,0,0,0,0,false,0,0,false,0,0,()))∧cP (m.getD o.toNat (0,0,0,0,0,false,0,0,0,0,0,0,0,false,0,0,false,0,0,())))∧∀(b:Int),True→decide (f≤e)=true∧decide (f≤e)=true∧decide (f≤e)=true∧Br (!decide (b<0)) (ae (e-1)∧Is (eE k n l o f (e-1) m∧(e-1-f+3).toNat<(e-f+3).toNat)) (Is (eE k n l o f e m))) (decide (f≤e)=false∧decide (f≤e)=false∧decide (f≤e)=false∧decide (f≤e)=false∧decide (f≤e)=false∧decide (f≤e)=false∧decide (f≤e)=false∧decide (f≤e)=false∧decide (f≤e)=false∧decide (f≤e)=false∧decide (f≤e)=false∧decide (f≤e)=false∧Is (eE k n l o f e m)))∧∀(o f e:Int)(m:List Op),let N:Prop:=0≤f∧f<(↑m.length:Int);let D:Prop:=0≤e∧e<(↑m.length:Int);let O:=m.set e.toNat (m.getD o.toNat (0,0,0,0,0,false,0,0,0,0,0,0,0,false,0,0,false,0,0,()));let z9:=m.getD e.toNat (0,0,0,0,0,false,0,0,0,0,0,0,0,false,0,0,false,0,0,());eE k n l o f e m→Br (decide (e<f)) ((0≤o∧o<(↑m.length:Int))∧D∧D∧(0≤o∧o<(↑O.length:Int))∧Q (mC g (e,true,O.set o.toNat z9,()))) (D∧N∧N∧(0≤e∧e<(↑(m.set f.toNat z9).length:Int))∧ae (f+1)∧ae (e-1)∧Is (eE k n l o (f+1) (e-1) ((m.set f.toNat z9).set e.toNat (m.getD f.toNat (0,0,0,0,0,false,0,0,0,0,0,0,0,false,0,0,false,0,0,()))))∧∀(P q r:Int)(R:List Op),eE k n l P q r R→Is (dw k n q r l P q r R)∧∀(u i j:Int)(t:List Op),let S:=dw k n q r l u i j t;dw k n q r l u i j t→Br (decide (i≤j)) (decide (i≤j)=true∧decide (i≤j)=true∧decide (i≤j)=true∧(0≤i∧i<(↑t.length:Int))∧decide (i≤j)=true∧decide (i≤j)=true∧decide (i≤j)=true∧decide (i≤j)=true∧(0≤u∧u<(↑t.length:Int))∧decide (i≤j)=true∧decide (i≤j)=true∧(cP (t.getD i.toNat (0,0,0,0,0,false,0,0,0,0,0,0,0,false,0,0,false,0,0,()))∧cP (t.getD u.toNat (0,0,0,0,0,false,0,0,0,0,0,0,0,false,0,0,false,0,0,())))∧∀(b:Int),True→decide (i≤j)=true∧decide (i≤j)=true∧Br (decide (b<0)) (ae (i+1)∧Is (dw k n q r l u (i+1) j t∧(j-(i+1)+3).toNat<(j-i+3).toNat)) (Is S∧∀(h c a:Int)(d:List Op),let U:Prop:=0≤c∧c<(↑d.length:Int);let W:Prop:=0≤h∧h<(↑d.length:Int);let x:Prop:=0≤a∧a<(↑d.length:Int);let E:=d.getD h.toNat (0,0,0,0,0,false,0,0,0,0,0,0,0,false,0,0,false,0,0,());let z5:=d.getD a.toNat (0,0,0,0,0,false,0,0,0,0,0,0,0,false,0,0,false,0,0,());let z1:Prop:=Br (decide (a<c)) (W∧x∧x∧(0≤h∧h<(↑(d.set a.toNat E).length:Int))∧Q (mC g (a,false,(d.set a.toNat E).set h.toNat z5,()))) (x∧U∧U∧(0≤a∧a<(↑(d.set c.toNat z5).length:Int))∧ae (c+1)∧ae (a-1)∧Is (eE k n l h (c+1) (a-1) ((d.set c.toNat z5).set a.toNat (d.getD c.toNat (0,0,0,0,0,false,0,0,0,0,0,0,0,false,0,0,false,0,0,())))∧(a-1-(c+1)+3).toNat<(r-q+3).toNat));dw k n q r l h c a d→Br (decide (c≤a)) (decide (c≤a)=true∧decide (c≤a)=true∧decide (c≤a)=true∧x∧decide (c≤a)=true∧decide (c≤a)=true∧decide (c≤a)=true∧decide (c≤a)=true∧W∧decide (c≤a)=true∧decide (c≤a)=true∧(cP z5∧cP E)∧∀(b:Int),True→decide (c≤a)=true∧decide (c≤a)=true∧decide (c≤a)=true∧Br (!decide (b<0)) (ae (a-1)∧Is (dw k n q r l h c (a-1) d∧(a-1-c+3).toNat<(a-c+3).toNat)) z1) (decide (c≤a)=false∧decide (c≤a)=false∧decide (c≤a)=false∧decide (c≤a)=false∧decide (c≤a)=false∧decide (c≤a)=false∧decide (c≤a)=false∧decide (c≤a)=false∧decide (c≤a)=false∧decide (c≤a)=false∧decide (c≤a)=false∧decide (c≤a)=false∧z1))) (decide (i≤j)=false∧decide (i≤j)=false∧decide (i≤j)=false∧decide (i≤j)=false∧decide (i≤j)=false∧decide (i≤j)=false∧decide (i≤j)=false∧decide (i≤j)=false∧decide (i≤j)=false∧decide (i≤j)=false∧decide (i≤j)=false∧Is S∧∀(h c a:Int)(d:List Op),let X:Prop:=0≤c∧c<(↑d.length:Int);let Y:Prop:=0≤h∧h<(↑d.length:Int);let A:Prop:=0≤a∧a<(↑d.length:Int);let F:=d.getD h.toNat (0,0,0,0,0,false,0,0,0,0,0,0,0,false,0,0,false,0,0,());let z6:=d.getD a.toNat (0,0,0,0,0,false,0,0,0,0,0,0,0,false,0,0,false,0,0,());let z2:Prop:=Br (decide (a<c)) (Y∧A∧A∧(0≤h∧h<(↑(d.set a.toNat F).length:Int))∧Q (mC g (a,false,(d.set a.toNat F).set h.toNat z6,()))) (A∧X∧X∧(0≤a∧a<(↑(d.set c.toNat z6).length:Int))∧ae (c+1)∧ae (a-1)∧Is (eE k n l h (c+1) (a-1) ((d.set c.toNat z6).set a.toNat (d.getD c.toNat (0,0,0,0,0,false,0,0,0,0,0,0,0,false,0,0,false,0,0,())))∧(a-1-(c+1)+3).toNat<(r-q+3).toNat));dw k n q r l h c a d→Br (decide (c≤a)) (decide (c≤a)=true∧decide (c≤a)=true∧decide (c≤a)=true∧A∧decide (c≤a)=true∧decide (c≤a)=true∧decide (c≤a)=true∧decide (c≤a)=true∧Y∧decide (c≤a)=true∧decide (c≤a)=true∧(cP z6∧cP F)∧∀(b:Int),True→decide (c≤a)=true∧decide (c≤a)=true∧decide (c≤a)=true∧Br (!decide (b<0)) (ae (a-1)∧Is (dw k n q r l h c (a-1) d∧(a-1-c+3).toNat<(a-c+3).toNat)) z2) (decide (c≤a)=false∧decide (c≤a)=false∧decide (c≤a)=false∧decide (c≤a)=false∧decide (c≤a)=false∧decide (c≤a)=false∧decide (c≤a)=false∧decide (c≤a)=false∧decide (c≤a)=false∧decide (c≤a)=false∧decide (c≤a)=false∧decide (c≤a)=false∧z2))))) (decide (p≤s)=false∧decide (p≤s)=false∧decide (p≤s)=false∧decide (p≤s)=false∧decide (p≤s)=false∧decide (p≤s)=false∧decide (p≤s)=false∧decide (p≤s)=false∧decide (p≤s)=false∧decide (p≤s)=false∧decide (p≤s)=false∧(Is (eE k n l z p s w)∧∀(o f e:Int)(m:List Op),eE k n l o f e m→Br (decide (f≤e)) (decide (f≤e)=true∧decide (f≤e)=true∧decide (f≤e)=true∧(0≤e∧e<(↑m.length:Int))∧decide (f≤e)=true∧decide (f≤e)=true∧decide (f≤e)=true∧decide (f≤e)=true∧(0≤o∧o<(↑m.length:Int))∧decide (f≤e)=true∧decide (f≤e)=true∧(cP (m.getD e.toNat (0,0,0,0,0,false,0,0,0,0,0,0,0,false,0,0,false,0,0,()))∧cP (m.getD o.toNat (0,0,0,0,0,false,0,0,0,0,0,0,0,false,0,0,false,0,0,())))∧∀(b:Int),True→decide (f≤e)=true∧decide (f≤e)=true∧decide (f≤e)=true∧Br (!decide (b<0)) (ae (e-1)∧Is (eE k n l o f (e-1) m∧(e-1-f+3).toNat<(e-f+3).toNat)) (Is (eE k n l o f e m))) (decide (f≤e)=false∧decide (f≤e)=false∧decide (f≤e)=false∧decide (f≤e)=false∧decide (f≤e)=false∧decide (f≤e)=false∧decide (f≤e)=false∧decide (f≤e)=false∧decide (f≤e)=false∧decide (f≤e)=false∧decide (f≤e)=false∧decide (f≤e)=false∧Is (eE k n l o f e m)))∧∀(o f e:Int)(m:List Op),let a2:Prop:=0≤f∧f<(↑m.length:Int);let G:Prop:=0≤e∧e<(↑m.length:Int);let a3:=m.set e.toNat (m.getD o.toNat (0,0,0,0,0,false,0,0,0,0,0,0,0,false,0,0,false,0,0,()));let H:=m.getD e.toNat (0,0,0,0,0,false,0,0,0,0,0,0,0,false,0,0,false,0,0,());eE k n l o f e m→Br (decide (e<f)) ((0≤o∧o<(↑m.length:Int))∧G∧G∧(0≤o∧o<(↑a3.length:Int))∧Q (mC g (e,true,a3.set o.toNat H,()))) (G∧a2∧a2∧(0≤e∧e<(↑(m.set f.toNat H).length:Int))∧ae (f+1)∧ae (e-1)∧Is (eE k n l o (f+1) (e-1) ((m.set f.toNat H).set e.toNat (m.getD f.toNat (0,0,0,0,0,false,0,0,0,0,0,0,0,false,0,0,false,0,0,()))))∧∀(P q r:Int)(R:List Op),eE k n l P q r R→Is (dw k n q r l P q r R)∧∀(u i j:Int)(t:List Op),let a4:=dw k n q r l u i j t;dw k n q r l u i j t→Br (decide (i≤j)) (decide (i≤j)=true∧decide (i≤j)=true∧decide (i≤j)=true∧(0≤i∧i<(↑t.length:Int))∧decide (i≤j)=true∧decide (i≤j)=true∧decide (i≤j)=true∧decide (i≤j)=true∧(0≤u∧u<(↑t.length:Int))∧decide (i≤j)=true∧decide (i≤j)=true∧(cP (t.getD i.toNat (0,0,0,0,0,false,0,0,0,0,0,0,0,false,0,0,false,0,0,()))∧cP (t.getD u.toNat (0,0,0,0,0,false,0,0,0,0,0,0,0,false,0,0,false,0,0,())))∧∀(b:Int),True→decide (i≤j)=true∧decide (i≤j)=true∧Br (decide (b<0)) (ae (i+1)∧Is (dw k n q r l u (i+1) j t∧(j-(i+1)+3).toNat<(j-i+3).toNat)) (Is a4∧∀(h c a:Int)(d:List Op),let a5:Prop:=0≤c∧c<(↑d.length:Int);let a6:Prop:=0≤h∧h<(↑d.length:Int);let B:Prop:=0≤a∧a<(↑d.length:Int);let J:=d.getD h.toNat (0,0,0,0,0,false,0,0,0,0,0,0,0,false,0,0,false,0,0,());let z7:=d.getD a.toNat (0,0,0,0,0,false,0,0,0,0,0,0,0,false,0,0,false,0,0,());let z3:Prop:=Br (decide (a<c)) (a6∧B∧B∧(0≤h∧h<(↑(d.set a.toNat J).length:Int))∧Q (mC g (a,false,(d.set a.toNat J).set h.toNat z7,()))) (B∧a5∧a5∧(0≤a∧a<(↑(d.set c.toNat z7).length:Int))∧ae (c+1)∧ae (a-1)∧Is (eE k n l h (c+1) (a-1) ((d.set c.toNat z7).set a.toNat (d.getD c.toNat (0,0,0,0,0,false,0,0,0,0,0,0,0,false,0,0,false,0,0,())))∧(a-1-(c+1)+3).toNat<(r-q+3).toNat));dw k n q r l h c a d→Br (decide (c≤a)) (decide (c≤a)=true∧decide (c≤a)=true∧decide (c≤a)=true∧B∧decide (c≤a)=true∧decide (c≤a)=true∧decide (c≤a)=true∧decide (c≤a)=true∧a6∧decide (c≤a)=true∧decide (c≤a)=true∧(cP z7∧cP J)∧∀(b:Int),True→decide (c≤a)=true∧decide (c≤a)=true∧decide (c≤a)=true∧Br (!decide (b<0)) (ae (a-1)∧Is (dw k n q r l h c (a-1) d∧(a-1-c+3).toNat<(a-c+3).toNat)) z3) (decide (c≤a)=false∧decide (c≤a)=false∧decide (c≤a)=false∧decide (c≤a)=false∧decide (c≤a)=false∧decide (c≤a)=false∧decide (c≤a)=false∧decide (c≤a)=false∧decide (c≤a)=false∧decide (c≤a)=false∧decide (c≤a)=false∧decide (c≤a)=false∧z3))) (decide (i≤j)=false∧decide (i≤j)=false∧decide (i≤j)=false∧decide (i≤j)=false∧decide (i≤j)=false∧decide (i≤j)=false∧decide (i≤j)=false∧decide (i≤j)=false∧decide (i≤j)=false∧decide (i≤j)=false∧decide (i≤j)=false∧Is a4∧∀(h c a:Int)(d:List Op),let a7:Prop:=0≤c∧c<(↑d.length:Int);let a8:Prop:=0≤h∧h<(↑d.length:Int);let C:Prop:=0≤a∧a<(↑d.length:Int);let K:=d.getD h.toNat (0,0,0,0,0,false,0,0,0,0,0,0,0,false,0,0,false,0,0,());let z8:=d.getD a.toNat (0,0,0,0,0,false,0,0,0,0,0,0,0,false,0,0,false,0,0,());let z4:Prop:=Br (decide (a<c)) (a8∧C∧C∧(0≤h∧h<(↑(d.set a.toNat K).length:Int))∧Q (mC g (a,false,(d.set a.toNat K).set h.toNat z8,()))) (C∧a7∧a7∧(0≤a∧a<(↑(d.set c.toNat z8).length:Int))∧ae (c+1)∧ae (a-1)∧Is (eE k n l h (c+1) (a-1) ((d.set c.toNat z8).set a.toNat (d.getD c.toNat (0,0,0,0,0,false,0,0,0,0,0,0,0,false,0,0,false,0,0,())))∧(a-1-(c+1)+3).toNat<(r-q+3).toNat));dw k n q r l h c a d→Br (decide (c≤a)) (decide (c≤a)=true∧decide (c≤a)=true∧decide (c≤a)=true∧C∧decide (c≤a)=true∧decide (c≤a)=true∧decide (c≤a)=true∧decide (c≤a)=true∧a8∧decide (c≤a)=true∧decide (c≤a)=true∧(cP z8∧cP K)∧∀(b:Int),True→decide (c≤a)=true∧decide (c≤a)=true∧decide (c≤a)=true∧Br (!decide (b<0)) (ae (a-1)∧Is (dw k n q r l h c (a-1) d∧(a-1-c+3).toNat<(a-c+3).toNat)) z4) (decide (c≤a)=false∧decide (c≤a)=false∧decide (c≤a)=false∧decide (c≤a)=false∧decide (c≤a)=false∧decide (c≤a)=false∧decide (c≤a)=false∧decide (c≤a)=false∧decide (c≤a)=false∧decide (c≤a)=false∧decide (c≤a)=false∧decide (c≤a)=false∧z4))))) (by rcases n with rfl|rfl<;>kernel_rfl) ?_
 conv=>zeta
 unfold Br;rintro a b p l Q ⟨⟨f,⟨r,s,t⟩,u,v⟩,i⟩;have j:∀(c:Int)(d:Bool)(y:List Op),dE l y→a≤c→c<b→Q ⟨0,(c,d,y,())⟩:=λc d y o m q=>i (c,d,y) ⟨o,m,q⟩;have w:=f.1;have m:=cm l;clear i
 (repeat' (first|assumption|with_reducible apply bQ|(intro h;unfold eE at h;obtain⟨g,k⟩:=h;have e:=g.1)|(intro h;unfold dw at h;obtain⟨g,k⟩:=h;have e:=g.1)|intro _))<;>(try simp only[ah]at*)<;>(try simp only[aj]at*)<;>(try simp only[aQ]at*)<;>(try simp only[ax]at*)<;>(try simp only[ne_eq]at*)<;>(try simp only[aO]at*)<;>(try simp only[aJ]at*)<;>(try simp only[bX]at*)<;>(try simp only[bR]at*)<;>(try simp only[cz])<;>first
  |assumption
  |(unfold ae;omega)
  |omega
  |exact D' f ‹dE _ _› (by omega)
  |exact dA ‹dE _ _› (by omega) (by omega)
  |exact j _ _ _ ‹dE _ _› (by omega) (by omega)
  |exact j _ _ _ (dA ‹dE _ _› (by omega) (by omega)) (by omega) (by omega)
  |(exfalso;omega)
  |(refine⟨?_⟩;(try with_reducible apply bQ)<;>(try first|unfold eE|unfold dw)<;>(first|omega|(refine bQ ?_ ?_<;>first|assumption|omega|exact dA ‹dE _ _› (by omega) (by omega)|exact cm _)))
theorem T6(g:Nat)(a:dN g):bO Tryz.prog 195 (Dr g):=dq (PR g a) (PT g) sE (by kernel_rfl) (T5 g a)
def HK(g:Nat):bu:=(195,[(Dr g)])::(BD g)
theorem E_(g:Nat)(a:dN g):aP Tryz.prog (HK g):=aP.add (PR g a) (by kernel_rfl) (bo (T6 g a))
theorem E'(g:Nat):bg (HK g):=bg.add (PT g) (bo (λx=>aR λh=>⟨(x.1,false,_),cm _,cr _,by have:=h.2.2;show @lU Int _ x.1 x.2.1;have a:@aZ Int _ x.1 x.2.2.1:=this.1;have b:@lU Int _ x.2.2.1 x.2.1:=this.2;omega⟩))
theorem wq{n:Int}(h0:0≤n)(a:n≤1000000):IntKind.i64.wrap (n.tdiv 4)=n/4:=by
 rw[Int.tdiv_eq_ediv_of_nonneg h0,dj];omega
theorem a5f{x md:BitVec 64}{n:Int}(a:(md.toNat:Int)≤2*n)(b:1≤md.toNat)(c:n≤1000000):0≤IntKind.i64.wrap ((x&&&md-1).toNat:Int)∧IntKind.i64.wrap ((x&&&md-1).toNat:Int)<2*n:=by
 have e:(x&&&md-1).toNat≤(md-1).toNat:=by rw[BitVec.toNat_and];exact Nat.and_le_right
 have f:(md-1).toNat=md.toNat-1:=by
  rw[BitVec.toNat_sub];have:(1:BitVec 64).toNat=1:=rfl;have:=md.isLt;omega
 rw[dj];omega
def HL(b c:Int)(l0:List Op)(a n:Int)(md:BitVec 64)(i:Int)(l:List Op):Prop:=a=b∧n=c-b∧8≤n∧dE l0 l∧(md.toNat:Int)≤2*n∧1≤md.toNat∧b<i
def zE(g:Nat):Ct:=⟨4,HD g,Tx,λ(a,b,l,_)=>eO (fI l∧lu l a b) (dE l) λy=>(y,())⟩
def a5g(g:Nat)(x:(zE g).inp.den):dG:=⟨[(5,bM ⟨[sO 0 0,sI 1,sI 8,(9,false,[.ptr 1 0]),(10,false,[.d .u64]),sI 11],[lH,some (.cells [.d .u64])]⟩ (λ(a,n,b,i,l,_)=>HL x.1 x.2.1 x.2.2.1 a n b i l) (λ(a,n,_,i,_)=>(@bG Int Int Int _ (@eH Int Int Int _ a n) i+5).toNat))],[],[],[],0⟩
abbrev zF(g:Nat)(v:List Op×Unit):aN ((zE g)).out:=⟨0,v⟩
theorem T7(g:Nat)(D:dN g):hJ Tryz.prog (tZ g) 190 (zE g) (a5g g):=by
 refine oE (∀(f i:Int)(j:List Op)(Q:aN (zE g).out→Prop),let l:=(i-f).tdiv 4;let q:=f+IntKind.i64.wrap l*2-1;(Tr.need (fI j∧lu j f i) (Tr.all (List Op) (dE j) λy=>Tr.leaf (zF g (y,())))).sat Q→ae (i-f)∧Br (decide (8≤i-f)) ((1≤i-f∧i-f≤1000000)∧∀(b:BitVec 64),(↑b.toNat:Int)≤2*(i-f)∧1≤b.toNat→ae (IntKind.i64.wrap l*2)∧ae (f+IntKind.i64.wrap l*2)∧ae q∧Is (HL f i j f (i-f) b q j)∧∀(a d:Int)(e:BitVec 64)(c:Int)(h:List Op)(k:BitVec 64),let v:Prop:=c≤a+IntKind.i64.wrap (d.tdiv 4)*2+1;let r:Prop:=(a+d-(c+1)+5).toNat<(a+d-c+5).toNat;let n:Prop:=0≤c∧c<(↑h.length:Int);let s:=h.getD c.toNat (0,0,0,0,0,false,0,0,0,0,0,0,0,false,0,0,false,0,0,());HL f i j a d e c h→ae (IntKind.i64.wrap (d.tdiv 4)*2)∧ae (a+IntKind.i64.wrap (d.tdiv 4)*2)∧ae (a+IntKind.i64.wrap (d.tdiv 4)*2+1)∧Br (decide v) (True∧∀(b:BitVec 64×BitVec 64),let m:=b.1&&&e-af 64 1;let p:Prop:=d≤IntKind.i64.wrap (↑m.toNat:Int);let o:=a+IntKind.i64.wrap (↑m.toNat:Int);let t:=h.set c.toNat (h.getD o.toNat (0,0,0,0,0,false,0,0,0,0,0,0,0,false,0,0,false,0,0,()));let z:=IntKind.i64.wrap (↑m.toNat:Int)-d;let u:=h.set c.toNat (h.getD (a+z).toNat (0,0,0,0,0,false,0,0,0,0,0,0,0,false,0,0,false,0,0,()));True→Br (decide p) (ae z∧ae (a+z)∧ae (a+z)∧(0≤a+z∧a+z<(↑h.length:Int))∧n∧n∧(0≤a+z∧a+z<(↑u.length:Int))∧ae (c+1)∧Is (HL f i j a d e (c+1) (u.set (a+z).toNat s)∧r)) (ae o∧ae o∧(0≤a+IntKind.i64.wrap (↑m.toNat:Int)∧a+IntKind.i64.wrap (↑m.toNat:Int)<(↑h.length:Int))∧n∧n∧(0≤a+IntKind.i64.wrap (↑m.toNat:Int)∧a+IntKind.i64.wrap (↑m.toNat:Int)<(↑t.length:Int))∧ae (c+1)∧Is (HL f i j a d e (c+1) (t.set o.toNat s)∧r))) (Q (zF g (h,())))) (Q (zF g (j,())))) (by rcases D with rfl|rfl<;>kernel_rfl) ?_
 conv=>zeta
 unfold Br;rintro a b l Q ⟨⟨E,G,H,J⟩,u⟩;have w:∀y,dE l y→Q ⟨0,(y,())⟩:=u;have K:=E.1;clear u;refine⟨by unfold ae;omega,λA=>?_,λ_=>w _ (cm _)⟩;have A:=ai A;refine⟨⟨by omega,by omega⟩,λL F=>?_⟩;obtain⟨h,o⟩:=F;rw[wq (n:=b-a) (by omega) (by omega)];refine⟨by unfold ae;omega,by unfold ae;omega,by unfold ae;omega,⟨⟨rfl,rfl,by omega,cm l,h,o,by omega⟩⟩,?_⟩;clear h o;rintro B n f i m M ⟨rfl,C,q,r,p,s,N⟩;have q:8≤n:=q;have p:(f.toNat:Int)≤2*n:=p;rw[wq (n:=n) (by omega) (by omega)];have e:=r.1;refine⟨by unfold ae;omega,by unfold ae;omega,by unfold ae;omega,λc=>?_,λ_=>w _ r⟩;have c:=ai c;refine⟨trivial,λz _=>?_⟩;have O:=a5f (x:=z.1) (md:=f) (n:=n) p s (by omega);generalize IntKind.i64.wrap ((z.1&&&f-1).toNat:Int)=v at*;refine⟨λd=>?_,λd=>?_⟩
 ·have d:=ai d;have t:=dA (z:=oZ) (i:=i.toNat) (j:=(B+(v-n)).toNat) r (by omega) (by omega);exact⟨by unfold ae;omega,by unfold ae;omega,by unfold ae;omega,by omega,by omega,by omega,by rw[cz];omega,by unfold ae;omega,⟨⟨rfl,C,q,t,p,s,by omega⟩,by omega⟩⟩
 ·have d:=am d;have t:=dA (z:=oZ) (i:=i.toNat) (j:=(B+v).toNat) r (by omega) (by omega);exact⟨by unfold ae;omega,by unfold ae;omega,by omega,by omega,by omega,by rw[cz];omega,by unfold ae;omega,⟨⟨rfl,C,q,t,p,s,by omega⟩,by omega⟩⟩
theorem HM(g:Nat)(a:dN g):bO Tryz.prog 190 (zE g):=dq (BB g a) (BC g) sE (by kernel_rfl) (T7 g a)
def PU(g:Nat):bu:=(190,[(zE g)])::(tZ g)
theorem a61(g:Nat)(a:dN g):aP Tryz.prog (PU g):=aP.add (BB g a) (by kernel_rfl) (bo (HM g a))
theorem a62(g:Nat):bg (PU g):=bg.add (BC g) (bo (λx=>aR λ_=>⟨_,cm _⟩))
def BE(g:Nat):bu:=(190,[zE g])::HK g
theorem PV(g:Nat)(a:dN g):aP Tryz.prog (BE g):=aP.add (E_ g a) (by kernel_rfl) (bo (HM g a))
theorem PW(g:Nat):bg (BE g):=bg.add (E' g) (bo (λ_=>aR λ_=>⟨_,cm _⟩))
def zG(g n:Nat):Ct:=⟨5,T0 g,Tx,λ(a,b,m,l,_)=>eO (fI l∧lu l a b∧@aZ Int _ 0 m∧@aZ Int _ m 64∧@lU Int _ (@bG Int Int Int _ b a) n) (dE l) λy=>(y,())⟩
def sR(c e:Int)(l0:List Op)(a b m:Int)(l:List Op):Prop:=dE l0 l∧(0≤a∧a≤b∧b≤l0.length∧b-a≤e-c∧0≤m∧m≤64)
theorem abl{l m:List Op}(h:dE l m){a b:Int}(c:0≤a)(e:a≤b)(f:b≤l.length):lu m a b:=⟨c,e,by rw[h.1];exact f⟩
def L2(l0:List Op)(c e a b m n:Int)(l:List Op):Prop:=dE l0 l∧(a=c∧b=e∧0≤m∧m≤64∧n=e-c∧12<e-c)
def xE(l0:List Op)(c e a b m n p:Int)(l:List Op):Prop:=dE l0 l∧(a=c∧b=e∧0≤m∧m≤64∧n=e-c∧12<e-c∧c≤p∧p<e)
def a5h(g n:Nat)(x:(zG g n).inp.den):dG:=⟨[(2,og ⟨[sO 0 0,sI 1,sI 2,sI 3,fG g 4,sL 10,sL 11],[lH]⟩ (λ(a,b,m,_,_,l,_)=>sR x.1 x.2.1 x.2.2.2.1 a b m l) (λ(a,b,_)=>(@bG Int Int Int _ b a).toNat)
 λ(c,e,_)=>[(5010,bM ⟨[sO 0 0,sI 1,sI 2,sI 3,fG g 4,sL 10,sL 11,sI 12],[lH]⟩ (λ(a,b,m,_,_,n,l,_)=>L2 x.2.2.2.1 c e a b m n l) λ_=>0),
  (5015,bM ⟨[sO 0 0,sI 1,sI 2,sI 3,fG g 4,sL 10,sL 11,sI 12,sI 13,sI 14],[lH]⟩ (λ(a,b,m,_,_,n,p,_,l,_)=>xE x.2.2.2.1 c e a b m n p l) λ_=>0),
  (5017,bM ⟨[sO 0 0,sI 1,sI 2,sI 3,fG g 4,sL 10,sL 11,sI 12,sI 13],[lH]⟩ (λ(a,b,m,_,_,n,p,l,_)=>xE x.2.2.2.1 c e a b m n p l) λ_=>0)])],[],[],[],0⟩
abbrev zH(g:Nat)(n:Nat)(v:List Op×Unit):aN ((zG g (n+1))).out:=⟨0,v⟩
theorem T8(g:Nat)(hg:dN g)(n:Nat):hJ Tryz.prog ((172,[zG g n])::BE g) 172 (zG g (n+1)) (a5h g (n+1)):=by
 refine oE (∀(l m x:Int)(f:List Op)(Q:aN (zG g (n+1)).out→Prop),(Tr.need (fI f∧lu f l m∧0≤x∧x≤64∧m-l<(↑(n+1):Int)) (Tr.all (List Op) (dE f) λy=>Tr.leaf (zH g n (y,())))).sat Q→Is (sR l m f l m x f)∧∀(c d t:Int)(G M:Bool)(k:List Op),let F:Prop:=(fI k∧lu k c d)∧∀(b:List Op),dE k b→Q (zH g n (b,()));sR l m f c d t k→ae (d-c)∧Br (decide (d-c≤12)) F (Br (t==0) F ((Br (!G) ((fI k∧lu k c d)∧∀(b:List Op),dE k b→ae (t-1)∧Is (L2 f c d c d (t-1) (d-c) b)) (Is (L2 f c d c d t (d-c) k)))∧∀(o p A:Int)(N O:Bool)(B:Int)(r:List Op),L2 f c d o p A B r→(fI r∧lu r o p∧o+13≤p)∧∀(b:Int×Int),o≤b.1∧b.1<p→(Br (b.2==2) ((fI r∧lu r o p)∧∀(h:List Op),dE r h→ae (p-1)∧ae (b.1-o)∧ae (p-1-(b.1-o))∧Is (xE f c d o p A B (p-1-(b.1-o)) h)) (Is (xE f c d o p A B b.1 r)))∧∀(u v w:Int)(H J:Bool)(z C K:Int)(s:List Op),let D:=xE f c d u v w z C s;xE f c d u v w z C s→(Br H (Br J (Br (K==1) ((fI s∧lu s u v)∧∀(b:Bool×List Op),dE s b.2→Br (b.1) (Q (zH g n (b.2,()))) (Is (xE f c d u v w z C b.2))) (Is D)) (Is D)) (Is D))∧∀(a e i:Int)(P R:Bool)(L q:Int)(j:List Op),let E:Prop:=fI j∧lu j a e∧a≤q∧q<e;xE f c d a e i L q j→Br (decide (0<a)) (decide (0<a)=true∧decide (0<a)=true∧decide (0<a)=true∧ae (a-1)∧decide (0<a)=true∧(0≤a-1∧a-1<(↑j.length:Int))∧decide (0<a)=true∧decide (0<a)=true∧decide (0<a)=true∧decide (0<a)=true∧(0≤q∧q<(↑j.length:Int))∧decide (0<a)=true∧decide (0<a)=true∧(cP (j.getD (a-1).toNat (0,0,0,0,0,false,0,0,0,0,0,0,0,false,0,0,false,0,0,()))∧cP (j.getD q.toNat (0,0,0,0,0,false,0,0,0,0,0,0,0,false,0,0,false,0,0,())))∧∀(b:Int),True→decide (0<a)=true∧decide (0<a)=true∧decide (0<a)=true∧Br (!decide (b<0)) (E∧∀(b:Int×List Op),dE j b.2∧a<b.1∧b.1≤e→Is (sR l m f b.1 e i b.2∧(e-b.1).toNat<(d-c).toNat)) (E∧∀(b:Int×Bool×List Op),dE j b.2.2∧a≤b.1∧b.1<e→ae (b.1-a)∧ae (e-b.1)∧Br (decide (b.1-a<e-b.1)) ((fI b.2.2∧lu b.2.2 a b.1∧0≤i∧i≤64∧b.1-a<(↑n:Int))∧∀(h:List Op),dE b.2.2 h→ae (b.1+1)∧Is (sR l m f (b.1+1) e i h∧(e-(b.1+1)).toNat<(d-c).toNat)) (ae (b.1+1)∧(fI b.2.2∧lu b.2.2 (b.1+1) e∧0≤i∧i≤64∧e-(b.1+1)<(↑n:Int))∧∀(h:List Op),dE b.2.2 h→Is (sR l m f a b.1 i h∧(b.1-a).toNat<(d-c).toNat)))) (decide (0<a)=false∧decide (0<a)=false∧decide (0<a)=false∧decide (0<a)=false∧decide (0<a)=false∧decide (0<a)=false∧decide (0<a)=false∧decide (0<a)=false∧decide (0<a)=false∧decide (0<a)=false∧decide (0<a)=false∧decide (0<a)=false∧decide (0<a)=false∧E∧∀(b:Int×Bool×List Op),dE j b.2.2∧a≤b.1∧b.1<e→ae (b.1-a)∧ae (e-b.1)∧Br (decide (b.1-a<e-b.1)) ((fI b.2.2∧lu b.2.2 a b.1∧0≤i∧i≤64∧b.1-a<(↑n:Int))∧∀(h:List Op),dE b.2.2 h→ae (b.1+1)∧Is (sR l m f (b.1+1) e i h∧(e-(b.1+1)).toNat<(d-c).toNat)) (ae (b.1+1)∧(fI b.2.2∧lu b.2.2 (b.1+1) e∧0≤i∧i≤64∧e-(b.1+1)<(↑n:Int))∧∀(h:List Op),dE b.2.2 h→Is (sR l m f a b.1 i h∧(b.1-a).toNat<(d-c).toNat)))))) (by rcases hg with rfl|rfl<;>kernel_rfl) ?_
 conv=>zeta
 unfold Br;rintro a b m l Q ⟨⟨w,⟨f1,f2,f3⟩,f4,f5,f6⟩,P⟩;have M:∀y,dE l y→Q ⟨0,(y,())⟩:=P;have h0:=w.1;have h1:=cm l;clear P;have x:∀{y:List Op}{c d:Int},dE l y→0≤c→c≤d→d≤l.length→fI y∧lu y c d:=λh p q r=>⟨gJ w h,abl h p q r⟩;refine⟨⟨h1,f1,f2,f3,by omega,f4,f5⟩,?_⟩;intro a1 b1 m1 _ _ l1 ⟨z,s,u,o,k4,k5,k6⟩;refine⟨by unfold ae;omega,λ_=>⟨x z s u o,λy h=>M _ (dJ z h)⟩,λc=>⟨λ_=>⟨x z s u o,λy h=>M _ (dJ z h)⟩,λN=>?_⟩⟩;have c:=am c;rw[ax]at N;refine⟨⟨λ_=>⟨x z s u o,λy h=>⟨by unfold ae;omega,⟨dJ z h,rfl,rfl,by omega,by omega,rfl,by omega⟩⟩⟩,λ_=>⟨z,rfl,rfl,by omega,by omega,rfl,by omega⟩⟩,?_⟩;clear N;intro a2 b2 m2 _ _ n2 l2 ⟨G,H,J,R,S,K,U⟩;subst H;subst J;subst K;refine⟨⟨gJ w G,abl G s u o,by omega⟩,λp hp=>?_⟩;obtain⟨W,X⟩:=hp;refine⟨⟨λ_=>⟨x G s u o,λy h=>⟨by unfold ae;omega,by unfold ae;omega,by unfold ae;omega,⟨dJ G h,rfl,rfl,R,S,rfl,U,by omega,by omega⟩⟩⟩,λ_=>⟨G,rfl,rfl,R,S,rfl,U,W,X⟩⟩,?_⟩;clear W X;intro a3 b3 m3 w1 w2 n3 p3 q3 l3 ⟨E,H,J,i,j,K,L,A,B⟩;subst H;subst J;subst K;refine⟨⟨λ_=>⟨λ_=>⟨λ_=>⟨x E s u o,λy h=>⟨λ_=>M _ (dJ E h),λ_=>⟨dJ E h,rfl,rfl,i,j,rfl,L,A,B⟩⟩⟩,λ_=>⟨E,rfl,rfl,i,j,rfl,L,A,B⟩⟩,λ_=>⟨E,rfl,rfl,i,j,rfl,L,A,B⟩⟩,λ_=>⟨E,rfl,rfl,i,j,rfl,L,A,B⟩⟩,?_⟩;clear i j A B;intro e f F _ _ n4 Y l4 ⟨v,H,J,i,j,K,L,A,B⟩;subst H;subst J;subst K;have e4:=v.1;have C:∀{y:List Op},dE l y→fI y∧lu y e f∧e≤Y∧Y<f:=λh=>⟨(x h s u o).1,(x h s u o).2,A,B⟩
 have tail:∀q:Int×Bool×List Op,dE l4 q.2.2∧e≤q.1∧q.1<f→ae (q.1-e)∧ae (f-q.1)∧(decide (q.1-e<f-q.1)=true→(fI q.2.2∧lu q.2.2 e q.1∧0≤F∧F≤64∧q.1-e<(n:Int))∧∀y,dE q.2.2 y→ae (q.1+1)∧Is (sR a b l (q.1+1) f F y∧(f-(q.1+1)).toNat<(f-e).toNat))∧(decide (q.1-e<f-q.1)=false→ae (q.1+1)∧(fI q.2.2∧lu q.2.2 (q.1+1) f∧0≤F∧F≤64∧f-(q.1+1)<(n:Int))∧∀y,dE q.2.2 y→Is (sR a b l e q.1 F y∧(q.1-e).toNat<(f-e).toNat)):=by
  intro q D;obtain⟨O,u2,u3⟩:=D;have t:=dJ v O;refine⟨by unfold ae;omega,by unfold ae;omega,λ_=>⟨⟨gJ w t,abl t (by omega) (by omega) (by omega),i,j,by omega⟩,λy h=>⟨by unfold ae;omega,⟨⟨dJ t h,by omega,by omega,o,by omega,i,j⟩,by omega⟩⟩⟩,λ_=>⟨by unfold ae;omega,⟨gJ w t,abl t (by omega) (by omega) (by omega),i,j,by omega⟩,λy h=>⟨⟨dJ t h,by omega,by omega,by omega,by omega,i,j⟩,by omega⟩⟩⟩
 refine⟨λc=>?_,λc=>⟨c,c,c,c,c,c,c,c,c,c,c,c,c,C v,tail⟩⟩;have N:=ai c;refine⟨c,c,c,by unfold ae;omega,c,⟨by omega,by omega⟩,c,c,c,c,⟨by omega,by omega⟩,c,c,⟨D' w v (by omega),D' w v (by omega)⟩,λ_ _=>⟨c,c,c,λ_=>⟨C v,λq D=>?_⟩,λ_=>⟨C v,tail⟩⟩⟩;obtain⟨O,u2,u3⟩:=D;exact⟨⟨dJ v O,by omega,by omega,o,by omega,i,j⟩,by omega⟩
theorem HN(g:Nat)(c:dN g):∀n:Nat,bO Tryz.prog 172 (zG g n)
 |0=>by
  rintro⟨a,b,m,l,⟨⟩⟩ Q ⟨⟨_,⟨_,e,_⟩,_,_,f⟩,_⟩;exfalso;have e:@aZ Int _ a b:=e;have f:@lU Int _ (@bG Int Int Int _ b a) ((0:Nat):Int):=f;omega
 |n+1=>dq (aP.add (PV g c) (by kernel_rfl) (bo (HN g c n))) (bg.add (PW g) (bo (λ_=>aR λ_=>⟨_,cm _⟩))) sE (by kernel_rfl) (T8 g c n)
def BF(g:Nat):bu:=(172,[zG g 100001])::BE g
theorem PX(g:Nat)(a:dN g):aP Tryz.prog (BF g):=aP.add (PV g a) (by kernel_rfl) (bo (HN g a 100001))
theorem PY(g:Nat):bg (BF g):=bg.add (PW g) (bo (λ_=>aR λ_=>⟨_,cm _⟩))
def xF(g:Nat):Ct:=⟨2,⟨[sO 0 0,fG g 1],[lH]⟩,Tx,λ(l,_)=>eO (fI l) (dE l) λy=>(y,())⟩
abbrev HO(g:Nat)(v:List Op×Unit):aN ((xF g)).out:=⟨0,v⟩
theorem T9(g:Nat)(a:dN g):hJ Tryz.prog (BF g) 135 (xF g) (cv (xF g) 0):=by
 refine oE (∀(a:List Op)(Q:aN (xF g).out→Prop),let z:=bc 64 (↑a.length:Int);(Tr.need (fI a) (Tr.all (List Op) (dE a) λy=>Tr.leaf (HO g (y,())))).sat Q→z.toNat≤16777215∧(fI a∧lu a 0 (↑a.length:Int)∧0≤(↑(fw z.toNat):Int)∧(↑(fw z.toNat):Int)≤64∧(↑a.length:Int)-(0:Int)<100001)∧∀(b:List Op),dE a b→Q (HO g (b,()))) (by rcases a with rfl|rfl<;>kernel_rfl) ?_
 conv=>zeta
 rintro l Q ⟨h,b⟩;have c:l.length≤100000:=h.1;have e:(bc 64 (l.length:Int)).toNat=l.length:=by rw[BitVec.toNat_ofInt];omega
 rw[e];have f:fw l.length≤64:=Lib.bitLen_le l.length 64 (by omega) (by omega);exact⟨by omega,⟨h,⟨(by decide:(0:Int)≤0),Int.natCast_nonneg _,cr _⟩,by omega,by omega,by omega⟩,b⟩
theorem zI(g:Nat)(a:dN g):bO Tryz.prog 135 (xF g):=dq (PX g a) (PY g) sE (by kernel_rfl) (T9 g a)
def PZ(g:Nat):bu:=(135,[(xF g)])::(BF g)
theorem a63(g:Nat)(a:dN g):aP Tryz.prog (PZ g):=aP.add (PX g a) (by kernel_rfl) (bo (zI g a))
theorem a64(g:Nat):bg (PZ g):=bg.add (PY g) (bo (λx=>aR λ_=>⟨_,cm _⟩))
def a7f:Nat:=136
def a7g:Nat:=138
def P0:bu:=(135,[xF 136,xF 138])::Pz
theorem HQ:KK P0:=⟨aP.add PA.1 (by kernel_rfl) (List.forall_mem_cons.2 ⟨zI _ (.inl rfl),bo (zI _ (.inr rfl))⟩),bg.add PA.2 (List.forall_mem_cons.2 ⟨λ_=>aR λ_=>⟨_,cm _⟩,bo (λ_=>aR λ_=>⟨_,cm _⟩)⟩)⟩
def Dt:Ct:=⟨1,⟨[(0,false,[.d (.pf tMB)])],[]⟩,[⟨[(0,false,[.d (.sl eV)])],[]⟩],λ(t,_)=>one (t.1.length≤1000000) (t.1,())⟩
abbrev Ua(v:List eV.den×Unit):aN Dt.out:=⟨0,v⟩
theorem Ub:bO Tryz.prog 130 Dt:=kC HQ (cv Dt 0) (∀(a:List eV.den×Unit)(Q:aN Dt.out→Prop),(Ct.spec Dt (a,())).sat Q→ac a.1≤1000000∧Q (Ua a)) (by kernel_rfl) (by
 rintro t Q ⟨h,a⟩;exact⟨h,a⟩)
def P1:bu:=(130,[Dt,zt])::P0
theorem F_:KK P1:=⟨aP.add HQ.1 (by kernel_rfl) (ik (Ub) (bo (Hi))),bg.add HQ.2 (ik (λ_=>bH) (bo (λ_=>bH)))⟩
def mkI(q:ID×eR):Op:=(1,q.2.1,q.2.2.1,q.2.2.2.1,q.2.2.2.2.1,q.2.2.2.2.2.1,q.2.2.2.2.2.2.1,0,0,0,0,0,0,false,0,0,false,0,0,())
def mkD(q:ID×Int):Op:=(2,0,0,0,0,false,0,q.1.1,q.1.2.1,0,0,0,0,false,0,0,false,0,0,())
def HR(p:Pg)(y:List Op):Prop:=y.length≤9000∧(∀o∈y,Bb o)∧(p=iX→y=[])∧(p=eW→y=[iC])
theorem G_:iX≠eW:=λh=>by have:=aI (λp:Pg=>p.1.length) h;revert this;decide
theorem L3(p:Pg):∃y,HR p y:=by
 by_cases h:p=eW
 ·exact⟨[iC],by decide,LD,λe=>absurd (e.symm.trans h) G_,λ_=>rfl⟩
 ·exact⟨[],by decide,λo a=>(by cases a),λ_=>rfl,λe=>absurd e h⟩
def xG:Ct:=⟨1,⟨[(0,false,[.d OB])],[]⟩,[⟨[(0,false,[.d (.sl jV)])],[]⟩],λ(p,_)=>eO (cb p) (HR p) λl=>(l,())⟩
def HS(i:Nat):Nat×Bool×List IP:=(i,false,[.d OB])
def G':cc:=⟨[HS 0,sO 3 0,sO 4 1,(16,false,[.ptr 2 0])],[some (.sl jV),some (.sl jV),some (.fit cO ou)]⟩
def L4(x:xG.inp.den)(y:G'.den):Prop:=match x,y with
 |(b,_),(p,out,go,a,_,_)=>p=b∧go=[]∧∃c,out=c.map mkI∧(c++a).Perm b.1
def P2:cc:=⟨[HS 0,sO 3 0,sO 4 1,(32,false,[.ptr 2 0])],[some (.sl jV),some (.sl jV),some (.fit cO .i64)]⟩
def BG(x:xG.inp.den)(y:P2.den):Prop:=match x,y with
 |(b,_),(p,out,go,a,_,_)=>p=b∧out.length≤4096∧(∀o∈out,Bb o)∧(b=iX→out=[])∧(b=eW→out=[iC])∧∃c,go=c.map mkD∧(c++a).Perm b.2.1
def P3:cc:=⟨[sO 3 0,(51,false,[.d (.sl eV)]),sI 52,sI 53],[some (.sl jV)]⟩
def BH(x:xG.inp.den)(y:P3.den):Prop:=match x,y with
 |(a,_),(b,c,j,out,_)=>b=a.2.2.2.2.1.1∧c=b.length∧∃k:Nat,j=k∧k≤b.length∧out.length≤8192+k∧(∀o∈out,Bb o)∧(a=iX→out=[])∧(a=eW→out=[iC])
def a5i(x:xG.inp.den):dG:=⟨[(5,bM G' (L4 x) λ(_,_,_,a,_)=>a.length),(10,bM P2 (BG x) λ(_,_,_,a,_)=>a.length),(16,bM P3 (BH x) λ(_,b,j,_)=>(@bG Int Int Int _ b j).toNat)],[],[],[],0⟩
abbrev Uc(v:List Op×Unit):aN xG.out:=⟨0,v⟩
def P4:bu:=(94,[xG])::P1
theorem H_:KK P4:=kA F_ a5i (∀(a:Pg)(Q:aN xG.out→Prop),(Ct.spec xG (a,())).sat Q→Is (L4 (a,()) (a,[],[],a.1,none,()))∧∀(j:Pg)(e n:List Op)(f:List (Fk×eR))(z:Option (Fk×eR)),L4 (a,()) (j,e,n,f,z,())→Br (!f.isEmpty) (∀(b:(Fk×eR)×List (Fk×eR)),f.Perm (b.1::b.2)→(e.length+1)*144≤140737488355328∧Is (L4 (a,()) (j,e++[(1,b.1.2.1,b.1.2.2.1,b.1.2.2.2.1,b.1.2.2.2.2.1,b.1.2.2.2.2.2.1,b.1.2.2.2.2.2.2.1,0,0,0,0,0,0,false,0,0,false,0,0,())],n,b.2,some b.1,())∧b.2.length<f.length)) (fI e∧∀(b:List Op),dE e b→Is (BG (a,()) (j,b,n,j.2.1,none,()))∧∀(g:Pg)(k h:List Op)(i:List (Fk×Int))(z:Option (Fk×Int)),BG (a,()) (g,k,h,i,z,())→Br (!i.isEmpty) (∀(b:(Fk×Int)×List (Fk×Int)),i.Perm (b.1::b.2)→(h.length+1)*144≤140737488355328∧Is (BG (a,()) (g,k,h++[(2,0,0,0,0,false,0,b.1.1.1,b.1.1.2.1,0,0,0,0,false,0,0,false,0,0,())],b.2,some b.1,())∧b.2.length<i.length)) (fI h∧∀(b:List Op),dE h b→(k.length+b.length)*144≤140737488355328∧ac g.2.2.2.2.1.1≤1000000∧Is (BH (a,()) (g.2.2.2.2.1.1,(↑(ac g.2.2.2.2.1.1):Int),0,k++b,()))∧∀(l:List eV.den)(d c:Int)(m:List Op),BH (a,()) (l,d,c,m,())→Br (decide (c<d)) ((0≤c∧c<(↑l.length:Int))∧(m.length+1)*144≤140737488355328∧ae (c+1)∧Is (BH (a,()) (l,d,c+1,m++[(3,0,0,0,0,false,0,0,0,l.getD c.toNat (0,0,0,0,false,0,0,false,0,0,()))],())∧(d-(c+1)).toNat<(d-c).toNat)) (Q (Uc (m,())))))) (by kernel_rfl) (by
 unfold Br;intro p Q ⟨h,S⟩;have i:∀y,HR p y→Q ⟨0,(y,())⟩:=S;clear S;obtain⟨k1,k2,k3,k4,k5,k6⟩:=h;refine⟨⟨⟨rfl,rfl,[],rfl,List.Perm.refl _⟩⟩,?_⟩;rintro p1 out go t la ⟨A,L,B,G,s⟩;have A:p=p1:=A.symm;subst A L G;have M:B.length+t.length=p.1.length:=by have:=s.length_eq;rwa [aa]at this
 have u:∀q∈B,q∈p.1:=λq i=>s.subset (cG _ i);have v:(B.map mkI).length=B.length:=bT ..;refine⟨λc z H=>?_,λc=>?_⟩
 ·have C:=H.length_eq;rw[bd]at C;refine⟨by omega,⟨⟨rfl,rfl,B++[z.1],by rw[dl];rfl,?_⟩,by omega⟩⟩;rw[ay];exact(List.Perm.append_left B H.symm).trans s
 have N:t=[]:=by
  cases t with
  |nil=>rfl
  |cons a b=>cases c
 subst N;rw[bj]at s
 have n:∀q∈B,cP (mkI q)∧Bb (mkI q):=by
  intro q i;have D:=(k5 q (u q i)).1;obtain⟨⟨a,b,⟨⟩⟩,J,K,c3,c4,c5,O,⟨⟩⟩:=q;unfold sH gI at D;simp only[aF,ah]at D;have q1:@aZ Int _ 0 J∧@lU Int _ J 5∧@aZ Int _ 1 K∧@aZ Int _ K 1099511627776:=D.1.1;have q2:@aZ Int _ 0 O∧@aZ Int _ O 1114111:=⟨D.1.2.1,D.1.2.2.1⟩;refine⟨⟨⟨?_,?_,?_,?_⟩,(show(0:Int)≤0 by decide),(show(0:Int)≤1099511627776 by decide),(show(0:Int)≤0 by decide),(show(0:Int)≤1099511627776 by decide)⟩,?_⟩
  ·show @aZ Int _ 0 J;omega
  ·show @aZ Int _ J 1099511627776;omega
  ·show @aZ Int _ 0 K;omega
  ·show @aZ Int _ K 1099511627776;omega
  ·show ae O;unfold ae;omega
 refine⟨⟨by omega,λo g=>?_⟩,λy x=>?_⟩
 ·obtain⟨q,i,rfl⟩:=dY.1 g;exact(n q i).1
 have w:∀o∈y,Bb o:=by
  intro o g;obtain⟨q,i,rfl⟩:=dY.1 (x.2 o g);exact(n q i).2
 have E:y.length=B.length:=by rw[x.1];exact v
 have U:p=iX→y=[]:=by
  intro e;have h0:p.1.length=0:=by rw[e];rfl
  exact rY.1 (by omega)
 have W:p=eW→y=[iC]:=by
  intro e;have e':p.1=[(((0,1,()):ID),((0,1,0,0,true,97,()):eR))]:=by rw[e];rfl
  rw[e']at s;have hd:=List.perm_singleton.1 s;rw[hd]at x;have h1:y.length=1:=x.1;obtain⟨o,g⟩:=List.length_eq_one_iff.1 h1;have:=x.2 o (by rw[g];exact cg.2 rfl);rw[aX,List.map_nil,cg]at this;rw[g,this];rfl
 refine⟨⟨⟨rfl,by omega,w,U,W,[],rfl,List.Perm.refl _⟩⟩,?_⟩;clear s M u v n x E U W w;rintro p2 f a0 r a1 ⟨A,X,Y,g3,g4,m,G,s⟩;have A:p=p2:=A.symm;subst A G;have M:m.length+r.length=p.2.1.length:=by have:=s.length_eq;rwa [aa]at this
 have u:∀q∈m,q∈p.2.1:=λq i=>s.subset (cG _ i);have v:(m.map mkD).length=m.length:=bT ..;refine⟨λc z H=>?_,λc=>?_⟩
 ·have C:=H.length_eq;rw[bd]at C;refine⟨by omega,⟨⟨rfl,X,Y,g3,g4,m++[z.1],by rw[dl];rfl,?_⟩,by omega⟩⟩;rw[ay];exact(List.Perm.append_left m H.symm).trans s
 have N:r=[]:=by
  cases r with
  |nil=>rfl
  |cons a b=>cases c
 subst N
 have n:∀q∈m,cP (mkD q)∧Bb (mkD q):=by
  intro q i;have D:=k6 q (u q i);obtain⟨⟨a,b,⟨⟩⟩,J⟩:=q;have q1:@aZ Int _ 0 a∧@lU Int _ a 5∧@aZ Int _ 1 b∧@aZ Int _ b 1099511627776:=ai D;refine⟨⟨⟨(show(0:Int)≤0 by decide),(show(0:Int)≤1099511627776 by decide),(show(0:Int)≤0 by decide),(show(0:Int)≤1099511627776 by decide)⟩,?_,?_,?_,?_⟩,?_⟩
  ·show @aZ Int _ 0 a;omega
  ·show @aZ Int _ a 1099511627776;omega
  ·show @aZ Int _ 0 b;omega
  ·show @aZ Int _ b 1099511627776;omega
  ·show ae 0;unfold ae;omega
 refine⟨⟨by omega,λo g=>?_⟩,λy x=>?_⟩
 ·obtain⟨q,i,rfl⟩:=dY.1 g;exact(n q i).1
 have w:∀o∈y,Bb o:=by
  intro o g;obtain⟨q,i,rfl⟩:=dY.1 (x.2 o g);exact(n q i).2
 have E:y.length=m.length:=by rw[x.1];exact v
 have hm:p.2.2.2.2.1.1.length≤512:=k2.1;have P:p.2.1.length=0→y=[]:=λe=>rY.1 (by omega);have a2:p.1.length+p.2.1.length≤4096:=k1;have a3:f.length≤4096:=X;have g9:f.length+y.length≤8192:=by omega
 have g5:(f++y).length≤4096+4096:=by rw[aa];omega
 have g6:∀o∈f++y,Bb o:=λo g=>(aY.1 g).elim (Y o) (w o);have g7:p=iX→f++y=[]:=λe=>by rw[g3 e,P (by rw[e];rfl)];rfl
 have g8:p=eW→f++y=[iC]:=λe=>by rw[g4 e,P (by rw[e];rfl)];rfl
 have e9:p=iX→p.2.2.2.2.1.1=[]:=λe=>by rw[e];rfl
 have R:p=eW→p.2.2.2.2.1.1=[]:=λe=>by rw[e];rfl
 clear s M u v n x P E w;generalize f++y=o2 at*;refine⟨by omega,by omega,⟨⟨rfl,rfl,0,rfl,aq _,by omega,g6,g7,g8⟩⟩,?_⟩;rintro ms ln j o3 ⟨A,L,k,G,f1,f2,f3,f4,f5⟩;subst A L G;have hN:∀k:Nat,k<p.2.2.2.2.1.1.length→ae ((k:Int)+1):=λk F=>by unfold ae;omega
 rw[show((k:Int)).toNat=k by omega];refine⟨λc=>?_,λc=>i _ ⟨by omega,f3,f4,f5⟩⟩;have F:k<p.2.2.2.2.1.1.length:=by have:=ai c;omega
 refine⟨by omega,by omega,hN k F,⟨⟨rfl,rfl,k+1,rfl,F,by rw[aa,bb];omega,λo g=>?_,λe=>?_,λe=>?_⟩,by omega⟩⟩
 ·rcases aY.1 g with g|g
  ·exact f3 o g
  ·rw[cg.1 g];show ae 0;unfold ae;omega
 ·exfalso;rw[e9 e]at F;exact absurd F (Nat.not_lt_zero _)
 ·exfalso;rw[R e]at F;exact absurd F (Nat.not_lt_zero _)) (l:=λ_=>aR λ_=>L3 _)
theorem BI{p:Pg}(h:cb p):pA p.2.2.2.1:=by
 have t:=h.2.2.2.1;have g:=Bp t;have a:=t.2.1;refine⟨t.1,?_,t.2.2.1,?_⟩
 ·show @aZ Nat _ p.2.2.2.1.1.length 100000;omega
 ·show @aZ Int _ p.2.2.2.1.2.1 100000;omega
def iL(p q:Pg):Prop:=cb q∧(p=iX→q=iX)∧(p=eW→q=eW)
theorem iD(p:Pg):∃q,iL p q:=by
 by_cases h:p=eW
 ·exact⟨eW,zB,λe=>absurd (e.symm.trans h) G_,λ_=>rfl⟩
 ·exact⟨iX,vr,λ_=>rfl,λe=>absurd e h⟩
def HT:Ct:=⟨1,⟨[(0,false,[.d OB])],[]⟩,[⟨[sP 0],Gw 0⟩],λ(p,_)=>eO (cb p) (iL p) λq=>(q.1,q.2.1,q.2.2.1,q.2.2.2.1.2.1,q.2.2.2.1.1,q.2.2.2.2.1.1,())⟩
abbrev Ud(v:List (Fk×eR)×List (Fk×Int)×List eR×Int×List (Fk×gP.den)×List eV.den×Unit):aN HT.out:=⟨0,v⟩
def P5:bu:=(50,[HT])::P4
theorem H':KK P5:=kA H_ (cv HT 0) (∀(c:Pg)(Q:aN HT.out→Prop),(Ct.spec HT (c,())).sat Q→True∧cb c∧∀(b:List Op),HR c b→(cb ([],[],[],([((0,0,()),0,0,0,false,[[],[]],())],0,()),([],()),())∧b.length≤1000000)∧∀(a:Int×Pg),xC ([],[],[],([((0,0,()),0,0,0,false,[[],[]],())],0,()),([],()),()) b a→Q (Ud (a.2.1,a.2.2.1,a.2.2.2.1,a.2.2.2.2.1.2.1,a.2.2.2.2.1.1,a.2.2.2.2.2.1))) (by kernel_rfl) (by
 intro p Q ⟨h,c⟩;refine⟨trivial,h,λl a=>⟨⟨vr,bA a.1 (by decide)⟩,λz b=>?_⟩⟩;exact c z.2 ⟨b.1,λe=>b.2.2 rfl (a.2.2.1 e),λe=>aI (λq:Int×Pg=>q.2) (b.2.1 rfl (a.2.2.2 e))⟩) (l:=λ_=>aR λ_=>iD _)
def HU:Ct:=⟨1,⟨[HS 0],[]⟩,[⟨[sI 0],[]⟩],λ(p,_)=>one (cb p) (p.2.2.2.1.1.length-1-p.2.2.2.1.2.1,())⟩
abbrev Ue(v:Int×Unit):aN HU.out:=⟨0,v⟩
def P6:bu:=(147,[HU])::P5
theorem I_:KK P6:=kA H' (cv HU 0) (∀(a:Pg)(Q:aN HU.out→Prop),(Ct.spec HU (a,())).sat Q→pA a.2.2.2.1∧Q (Ue ((↑(ac a.2.2.2.1.1):Int)-1-a.2.2.2.1.2.1,()))) (by kernel_rfl) (by
 intro p Q ⟨h,a⟩;exact⟨BI h,a⟩)
def HV:Ct:=⟨1,⟨[HS 0],[]⟩,[⟨[(0,false,[.d .st])],[]⟩],λ(p,_)=>one (p=eW) ([97],())⟩
abbrev Uf(v:BL×Unit):aN HV.out:=⟨0,v⟩
def P7:bu:=(23,[HV])::P6
theorem I':KK P7:=kA I_ (cv HV 0) (∀(a:Pg)(Q:aN HV.out→Prop),(Ct.spec HV (a,())).sat Q→a.2.2.2.1=([((0,0,()),0,0,0,false,[[],[(0,1,())]],()),((0,1,()),0,1,97,false,[[],[]],())],0,())∧Q (Uf ([af 8 97],()))) (by kernel_rfl) (by
 intro p Q ⟨h,a⟩;subst h;exact⟨rfl,a⟩)
def Du:Ct:=⟨2,⟨[HS 0,sI 1],[]⟩,[⟨[sI 0],[]⟩],λ(p,a,_)=>eO (cb p) (λy:Int=>0≤y∧y≤1099511627776∧(p=iX→y=0)) λy=>(y,())⟩
def J_:cc:=⟨[sI 1,sI 5,(13,false,[.ptr 0 0])],[some (.fit cO ou)]⟩
def HW(x:Du.inp.den)(y:J_.den):Prop:=match x,y with
 |(p,c,_),(a,n,b,_,_)=>a=c∧@aZ Int _ 0 n∧@aZ Int _ n 1099511627776∧(∀q∈b,q∈p.1)∧(p=iX→n=0)
def a5j(x:Du.inp.den):dG:=⟨[(5,bM J_ (HW x) λ(_,_,a,_)=>a.length)],[],[],[],0⟩
abbrev Ug(v:Int×Unit):aN Du.out:=⟨0,v⟩
def P8:bu:=(148,[Du])::P7
theorem J':KK P8:=kA I' a5j (∀(a:Pg)(c:Int)(Q:aN Du.out→Prop),(Ct.spec Du (a,c,())).sat Q→Is (HW (a,c,()) (c,0,a.1,none,()))∧∀(e f:Int)(d:List (Fk×eR))(z:Option (Fk×eR)),HW (a,c,()) (e,f,d,z,())→Br (!d.isEmpty) (∀(b:(Fk×eR)×List (Fk×eR)),d.Perm (b.1::b.2)→Br (b.1.1.1==e) (Is (HW (a,c,()) (e,max f b.1.1.2.1,b.2,some b.1,())∧b.2.length<d.length)) (Is (HW (a,c,()) (e,f,b.2,some b.1,())∧b.2.length<d.length))) (Q (Ug (f,())))) (by kernel_rfl) (by
 unfold Br;intro p B Q ⟨h,o⟩;have b:∀y:Int,0≤y∧y≤1099511627776∧(p=iX→y=0)→Q ⟨0,(y,())⟩:=o;clear o;refine⟨⟨rfl,cr _,(show(0:Int)≤1099511627776 by decide),λq b=>b,λ_=>rfl⟩,?_⟩;rintro a n f C ⟨e,r,s,g,t⟩;refine⟨λc z i=>?_,λ_=>b n ⟨r,s,t⟩⟩;have j:=i.length_eq;rw[bd]at j;have u:z.1∈f:=i.symm.subset (aM ..);have v:∀q∈z.2,q∈p.1:=λq b=>g q (i.symm.subset (aE _ b));have w:=h.2.2.2.2.1 _ (g _ u)
 have A:¬p=iX:=λe=>by
  have:=g _ u;rw[e]at this;exact by cases this
 have D:@aZ Int _ 1 z.1.1.2.1∧@aZ Int _ z.1.1.2.1 1099511627776:=by
  have m:=w.1;rw[w.2];unfold sH gI at m;simp only[aF,ah]at m;have x:=m.1.1;exact⟨x.2.2.1,x.2.2.2⟩
 generalize E:z.1.1.2.1=N at*;refine⟨λ_=>⟨⟨e,?_,?_,v,λe=>absurd e A⟩,by omega⟩,λ_=>⟨⟨e,r,s,v,t⟩,by omega⟩⟩
 ·show @aZ Int _ 0 (@max Int _ n N);omega
 ·show @aZ Int _ (@max Int _ n N) 1099511627776;omega) (l:=λ_=>aR λ_=>⟨0,by decide,by decide,λ_=>rfl⟩)
def HX:Ct:=⟨3,⟨[HS 0,sI 1,sI 2],[]⟩,[⟨[sL 0],[]⟩],λ(p,a,n,_)=>eO (cb p) (λy:Bool=>y=true→@aZ Int _ 0 a∧@aZ Int _ 0 n∧@aZ Int _ (@eH Int Int Int _ a n) 4097) λy=>(y,())⟩
abbrev vw(v:Bool×Unit):aN HX.out:=⟨0,v⟩
def P9:bu:=(150,[HX])::P8
theorem K_:KK P9:=kA J' (cv HX 0) (∀(a:Pg)(b c:Int)(Q:aN HX.out→Prop),let z:=ac a.2.2.2.1.1;let e:Prop:=b≤(↑z:Int)-1-a.2.2.2.1.2.1;(Ct.spec HX (a,b,c,())).sat Q→Br (decide (0≤b)) (Br (decide (0≤c)) (cb a∧Br (decide e) (cb a∧ae ((↑z:Int)-1-a.2.2.2.1.2.1-b)∧Q (vw (decide (c≤(↑z:Int)-1-a.2.2.2.1.2.1-b),()))) (Q (vw (false,())))) (Q (vw (false,())))) (Q (vw (false,())))) (by kernel_rfl) (by
 conv=>zeta
 unfold Br;intro p a n Q ⟨h,f⟩;have i:∀y:Bool,(y=true→@aZ Int _ 0 a∧@aZ Int _ 0 n∧@aZ Int _ (@eH Int Int Int _ a n) 4097)→Q ⟨0,(y,())⟩:=f;clear f;have e:Q ⟨0,(false,())⟩:=i false (λh=>by cases h);have t:=h.2.2.2.1;have g:=Bp t;have o:p.2.2.2.1.1.length≤4097:=t.2.1;have q:@aZ Int _ 0 p.2.2.2.1.2.1:=t.2.2.1;have g:@aZ Int _ p.2.2.2.1.2.1 4097:=g;generalize hL:p.2.2.2.1.1.length=L at*;generalize r:p.2.2.2.1.2.1=G at*;have s:Int:=a;refine⟨λb=>⟨λj=>⟨h,λc=>⟨h,?_,i _ λm=>?_⟩,λ_=>e⟩,λ_=>e⟩,λ_=>e⟩
 ·have b:@aZ Int _ 0 a:=ai b;have c:@aZ Int _ a ((L:Int)-1-G):=ai c;unfold ae;omega
 ·have b:@aZ Int _ 0 a:=ai b;have j:@aZ Int _ 0 n:=ai j;have c:@aZ Int _ a ((L:Int)-1-G):=ai c;have m:@aZ Int _ n ((L:Int)-1-G-a):=ai m;omega) (l:=λ_=>aR λ_=>⟨false,λh=>by cases h⟩)
def HY:Ct:=⟨1,⟨[(0,false,[.d (.pf tMB)])],[]⟩,[⟨[sI 0],[]⟩],λ(t,_)=>eO (ez t.1) (λy:Int=>0≤y∧y≤1099511627776) λy=>(y,())⟩
abbrev HZ(v:Int×Unit):aN HY.out:=⟨0,v⟩
def Qa:bu:=(152,[HY])::P9
theorem K':KK Qa:=kA K_ (cv HY 0) (∀(a:List eV.den×Unit)(Q:aN HY.out→Prop),let z:=ac a.1;(Ct.spec HY (a,())).sat Q→Br ((↑z:Int)==0) (Q (HZ (0,()))) (ae ((↑z:Int)-1)∧(0≤(↑z:Int)-1∧(↑z:Int)-1<(↑z:Int))∧Q (HZ ((bv a.1 ((↑z:Int)-1).toNat (0,0,0,0,false,0,0,false,0,0,())).1,())))) (by kernel_rfl) (by
 conv=>zeta
 unfold Br;intro t Q ⟨h,a⟩;have b:∀y:Int,0≤y∧y≤1099511627776→Q ⟨0,(y,())⟩:=a;clear a;refine⟨λ_=>b 0 (by decide),λc=>?_⟩;rw[ax]at c;have e:t.1.length≤512:=h.1;have f:t.1.length≠0:=by omega
 refine⟨by unfold ae;omega,by omega,b _ ?_⟩;have:=h.2 _ (aT (j:=((t.1.length:Int)-1).toNat) (z:=(0,0,0,0,false,0,0,false,0,0,())) (by omega));exact⟨this.1,this.2.1⟩) (l:=λ_=>aR λ_=>⟨0,by decide⟩)
def Dv:Ct:=⟨3,⟨[HS 0,sI 1,sI 2],[]⟩,[⟨[(0,false,[.d (.sl jV)]),sI 1],[]⟩],λ(p,a,n,_)=>eO (cb p) (λy:List Op×Int=>y.1.length≤64) λy=>(y.1,y.2,())⟩
def L_:cc:=⟨[HS 0,sI 1,sO 8 0,sI 19,sI 20],[some (.sl jV)]⟩
def L5(x:Dv.inp.den)(y:L_.den):Prop:=match x,y with
 |(b,c,e,_),(p,a,n,j,out,_)=>p=b∧a=c∧n=e∧@aZ Int _ 0 a∧@aZ Int _ (@eH Int Int Int _ a n) 4097∧@aZ Int _ 0 n∧@aZ Int _ n 64∧∃k:Nat,j=k∧@aZ Int _ k n∧out.length=k
def a5k(x:Dv.inp.den):dG:=⟨[(7,bM L_ (L5 x) λ(_,_,n,j,_)=>(@bG Int Int Int _ n j).toNat)],[],[],[],0⟩
abbrev zJ(v:List Op×Int×Unit):aN Dv.out:=⟨0,v⟩
def Qb:bu:=(112,[Dv])::Qa
theorem L':KK Qb:=kA K' a5k (∀(e:Pg)(d a:Int)(Q:aN Dv.out→Prop),(Ct.spec Dv (e,d,a,())).sat Q→cb e∧∀(b:Bool),(b=true→0≤d∧0≤a∧d+a≤4097)→Br (!b) (Q (zJ ([],6,()))) (Br (decide (64<a)) (Q (zJ ([],2,()))) (Is (L5 (e,d,a,()) (e,d,a,0,[],()))∧∀(i:Pg)(g f c:Int)(h:List Op),L5 (e,d,a,()) (i,g,f,c,h,())→Br (decide (c<f)) (ae (g+c)∧(pA i.2.2.2.1∧g+c≤1000000000)∧∀(b:Fk×Int),True→(h.length+1)*144≤140737488355328∧ae (c+1)∧Is (L5 (e,d,a,()) (i,g,f,c+1,h++[(2,0,0,0,0,false,0,b.1.1,b.1.2.1,0,0,0,0,false,0,0,false,0,0,())],())∧(f-(c+1)).toNat<(f-c).toNat)) (Q (zJ (h,0,())))))) (by kernel_rfl) (by
 unfold Br;intro p a n Q ⟨h,i⟩;have g:∀(y:List Op)(e:Int),y.length≤64→Q ⟨0,(y,e,())⟩:=λy e h=>i (y,e) h;clear i;refine⟨h,λb r=>⟨λ_=>g [] 6 (aq _),λc=>⟨λ_=>g [] 2 (aq _),λm=>?_⟩⟩⟩;have c:b=true:=by cases b<;>simp_all
 obtain⟨s,o,t⟩:=r c;have m:¬@lU Int _ 64 n:=am m;refine⟨⟨rfl,rfl,rfl,s,t,o,by omega,0,rfl,o,rfl⟩,?_⟩;rintro F u f j out ⟨v,w,x,A,B,C,D,k,E,q,G⟩;subst v w x E;refine⟨λc=>?_,λc=>g _ _ ?_⟩
 ·have c:@lU Int _ k f:=ai c;refine⟨by unfold ae;omega,⟨BI h,by show @aZ Int _ (@eH Int Int Int _ u k) 1000000000;omega⟩,λz _=>⟨by omega,by unfold ae;omega,⟨⟨rfl,rfl,rfl,A,B,C,D,k+1,rfl,?_,?_⟩,?_⟩⟩⟩
  ·show @aZ Int _ ((k+1:Nat):Int) f;omega
  ·rw[aa,bb];omega
  ·show(@bG Int Int Int _ f ((k:Int)+1)).toNat<(@bG Int Int Int _ f (k:Int)).toNat;omega
 ·have q:@aZ Int _ k f:=q;omega) (l:=λ_=>aR λ_=>⟨([],0),aq _⟩)
def H0:Ct:=⟨6,⟨[HS 0,sI 1,sI 2,sI 3,sI 4,sI 5],[]⟩,[⟨[(0,false,[.d (.sl jV)]),sI 1],[]⟩],λ(p,_)=>eO (cb p) (λy:List Op×Int=>y.1.length≤64) λy=>(y.1,y.2,())⟩
abbrev rG(v:List Op×Int×Unit):aN H0.out:=⟨0,v⟩
def Qc:bu:=(113,[H0])::Qb
theorem M_:KK Qc:=kA L' (cv H0 0) (∀(d:Pg)(c a g h i:Int)(Q:aN H0.out→Prop),(Ct.spec H0 (d,c,a,g,h,i,())).sat Q→cb d∧∀(b:Bool),(b=true→0≤c∧0≤a∧c+a≤4097)→Br (!b) (Q (rG ([],6,()))) (Br (a==0) (Q (rG ([],6,()))) (ez d.2.2.2.2.1.1∧∀(b:Int),0≤b∧b≤1099511627776→Br (b==1099511627776) (Q (rG ([],14,()))) ((pA d.2.2.2.1∧c≤1000000000)∧∀(b:Fk×Int),True→ae (c+a)∧ae (c+a-1)∧(pA d.2.2.2.1∧c+a-(1:Int)≤1000000000)∧∀(e:Fk×Int),True→ez d.2.2.2.2.1.1∧∀(f:Int),let z:= !OC (f+1,i,b.1.1,b.1.2.1,false,e.1.1,e.1.2.1,true,g,h,());0≤f∧f≤1099511627776→ae (f+1)∧True∧Br z (Q (rG ([],1,()))) (Q (rG ([(3,0,0,0,0,false,0,0,0,f+1,i,b.1.1,b.1.2.1,false,e.1.1,e.1.2.1,true,g,h,())],0,()))))))) (by kernel_rfl) (by
 conv=>zeta
 unfold Br;intro p a n x y z Q ⟨h,g⟩;have f:∀(y:List Op)(e:Int),y.length≤64→Q ⟨0,(y,e,())⟩:=λy e h=>g (y,e) h;clear g;have i:=h.2.1;have j:=BI h;refine⟨h,λb o=>⟨λ_=>f [] 6 (aq _),λc=>⟨λ_=>f [] 6 (aq _),λ_=>⟨i,λl q=>⟨λ_=>f [] 14 (aq _),λ_=>?_⟩⟩⟩⟩⟩;have c:b=true:=by cases b<;>simp_all
 obtain⟨r,s,t⟩:=o c;refine⟨⟨j,by show @aZ Int _ a 1000000000;omega⟩,λ_ _=>⟨by unfold ae;omega,by unfold ae;omega,⟨j,by show @aZ Int _ (@bG Int Int Int _ (@eH Int Int Int _ a n) 1) 1000000000;omega⟩,λ_ _=>⟨i,λm u=>⟨by unfold ae;omega,trivial,λ_=>f [] 1 (aq _),λ_=>f _ 0 (show 1≤64 by decide)⟩⟩⟩⟩) (l:=λ_=>aR λ_=>⟨([],0),aq _⟩)
def zK:Ct:=⟨4,⟨[HS 0,sI 1,(2,false,[.d .st]),sI 3],[]⟩,[⟨[(0,false,[.d (.sl jV)]),sI 1],[]⟩],λ(p,a,s,u,_)=>eO (cb p) (λy:List Op×Int=>y.1.length≤64∧(p=iX→a=0→s=[97]→u=0→y=([iC],0))) λy=>(y.1,y.2,())⟩
def M':cc:=⟨[HS 0,sI 1,sI 3,sO 10 0,(40,false,[.ptr 1 0])],[some (.sl .i32),some .sit]⟩
def L6(x:zK.inp.den)(y:M'.den):Prop:=match x,y with
 |(e,f,c,g,_),(p,a,u,out,s,b,_)=>p=e∧a=f∧u=g∧s=c∧out.length≤64∧@aZ Int _ 0 u∧@lU Int _ u 5∧@aZ Int _ 0 a∧@aZ Int _ a 4097∧(c=[97]→b=0∧out=[]∨b=1∧out=[97])
def Qd:cc:=⟨[sI 3,sI 13,(14,false,[.ptr 0 0]),sL 15,sO 17 1,sO 69 2,sI 70,sI 71],[some (.cells [.d cO]),some (.sl jV),some (.sl .i32)]⟩
def BJ(x:zK.inp.den)(y:Qd.den):Prop:=match x,y with
 |(e,f,g,c,_),(u,b,h,i,j,l,out,a,_)=>u=c∧a.length≤64∧i=a.length∧∃k:Nat,j=k∧k≤a.length∧out.length=k∧@aZ Int _ 0 b∧@aZ Int _ (@bG Int Int Int _ (@eH Int Int Int _ b a.length) k) 1099511627776∧(e=iX→f=0→g=[97]→c=0→a=[97]∧(k=0→b=0∧l=(0,0,())∧h=true∧out=[])∧(k=1→out=[iC]))
def a5l(x:zK.inp.den):dG:=⟨[(7,bM M' (L6 x) λ(_,_,_,out,_)=>65-out.length),(18,bM Qd (BJ x) λ(_,_,_,a,j,_)=>(@bG Int Int Int _ a j).toNat)],[],[],[],0⟩
theorem Uh(p:Pg)(a:Int)(s:BL)(u:Int):∃y:List Op×Int,y.1.length≤64∧(p=iX→a=0→s=[97]→u=0→y=([iC],0)):=⟨([iC],0),by decide,λ_ _ _ _=>rfl⟩
abbrev mD(v:List Op×Int×Unit):aN zK.out:=⟨0,v⟩
def Qe:bu:=(111,[zK])::Qc
theorem N_:KK Qe:=kA M_ a5l (∀(a:Pg)(c:Int)(g:BL)(d:Int)(Q:aN zK.out→Prop),let v:Prop:=(↑(ac a.2.2.2.1.1):Int)-1-a.2.2.2.1.2.1<c;let z:=(a,c,g,d,());(Ct.spec zK z).sat Q→Br (decide (d<0)) (Q (mD ([],1,()))) (Br (decide (5≤d)) (Q (mD ([],1,()))) (Br (decide (c<0)) (Q (mD ([],6,()))) (cb a∧Br (decide v) (Q (mD ([],6,()))) (Is (L6 z (a,c,d,[],g,0,()))∧∀(h:Pg)(k p:Int)(e:List Int)(s:BL)(t:Nat),let w:=(↑e.length:Int)==64;let u:=Utf8.decode (cd s) t;L6 z (h,k,p,e,s,t,())→Br (decide (t<s.length)) (Br w (Q (mD ([],2,()))) ((e.length+1)*4≤140737488355328∧Is (L6 z (h,k,p,e++[(↑u.1:Int)],s,t+u.2,())∧65-(e++[(↑u.1:Int)]).length<65-e.length))) (cb h∧∀(b:Int),let x:Prop:=1099511627776<b+(↑e.length:Int);0≤b∧b≤1099511627776∧(h=([],[],[],([((0,0,()),0,0,0,false,[[],[]],())],0,()),([],()),())→b=0)→ae (b+(↑e.length:Int))∧Br (decide x) (Q (mD ([],14,()))) ((pA h.2.2.2.1∧k≤1000000000)∧∀(o:Fk×Bool×Int),(h.2.2.2.1=([((0,0,()),0,0,0,false,[[],[]],())],0,())→k=0→o=((0,0,()),true,0))→Is (BJ z (p,b,o.2.1,(↑e.length:Int),0,o.1,[],e,()))∧∀(l j:Int)(r:Bool)(i f:Int)(q:Fk)(m:List Op)(n:List Int),BJ z (l,j,r,i,f,q,m,n,())→Br (decide (f<i)) ((0≤f∧f<(↑n.length:Int))∧ae (j+1)∧(m.length+1)*144≤140737488355328∧ae (f+1)∧Is (BJ z (l,j+1,true,i,f+1,(l,j+1,()),m++[(1,l,j+1,q.1,q.2.1,r,n.getD f.toNat 0,0,0,0,0,0,0,false,0,0,false,0,0,())],n,())∧(i-(f+1)).toNat<(i-f).toNat)) (Q (mD (m,0,())))))))))) (by kernel_rfl) (by
 conv=>zeta
 unfold Br;intro p a s u Q ⟨h,G⟩;have r:∀(y:List Op)(e:Int),(y.length≤64∧(p=iX→a=0→s=[97]→u=0→(y,e)=([iC],0)))→Q ⟨0,(y,e,())⟩:=λy e h=>G (y,e) h;clear G;have S:=BI h;have t:=h.2.2.2.1;have U:p.2.2.2.1.1.length≤4097:=t.2.1;have W:@aZ Int _ 0 p.2.2.2.1.2.1:=t.2.2.1;refine⟨λc=>r [] 1 ⟨aq _,λ_ _ _ e=>?_⟩,λC=>⟨λc=>r [] 1 ⟨aq _,λ_ _ _ e=>?_⟩,λD=>⟨λc=>r [] 6 ⟨aq _,λ_ e _ _=>?_⟩,λH=>⟨h,λc=>r [] 6 ⟨aq _,λe f _ _=>?_⟩,λE=>?_⟩⟩⟩⟩
 ·exfalso;have c:@lU Int _ u 0:=ai c;have e:@Eq Int u 0:=e;omega
 ·exfalso;have c:@aZ Int _ 5 u:=ai c;have e:@Eq Int u 0:=e;omega
 ·exfalso;have c:@lU Int _ a 0:=ai c;have e:@Eq Int a 0:=e;omega
 ·exfalso;rw[e,f]at c;revert c;decide
 have C:¬@lU Int _ u 0:=am C;have D:¬@aZ Int _ 5 u:=am D;have H:¬@lU Int _ a 0:=am H;have E:¬@lU Int _ ((p.2.2.2.1.1.length:Int)-1-p.2.2.2.1.2.1) a:=am E;have o:@aZ Int _ a 4097:=by omega
 clear E t U W;refine⟨⟨rfl,rfl,rfl,rfl,aq _,by omega,by omega,by omega,o,λ_=> .inl ⟨rfl,rfl⟩⟩,?_⟩;rintro p1 X u1 out Y a0 ⟨g,f,i,v,J,i2,i3,i4,i5,z⟩;subst g f i v;refine⟨λc=>⟨λo=>r [] 2 ⟨aq _,λ_ _ e _=>?_⟩,λo=>?_⟩,λc=>?_⟩
 ·exfalso;have o:=be o;rcases z e with⟨_,q⟩|⟨_,q⟩<;>rw[q]at o<;>revert o<;>decide
 ·rw[ax]at o;refine⟨by omega,⟨⟨rfl,rfl,rfl,rfl,?_,i2,i3,i4,i5,λe=>?_⟩,?_⟩⟩
  ·rw[aa,bb];omega
  ·have c:=ai c;subst e;rcases z rfl with⟨x,A⟩|⟨x,A⟩
   ·subst x A;exact .inr ⟨by decide,by decide⟩
   ·exfalso;rw[x]at c;exact absurd c (by decide)
  ·rw[aa,bb];omega
 have fin:Y=[97]→out=[97]:=by
  intro e;have c:=am c;subst e;rcases z rfl with⟨x,_⟩|⟨_,A⟩
  ·exfalso;rw[x]at c;exact absurd c (by decide)
  ·exact A
 refine⟨h,λct m=>⟨by unfold ae;omega,λw=>r [] 14 ⟨aq _,λe _ _ _=>?_⟩,λw=>⟨⟨S,by show @aZ Int _ X 1000000000;omega⟩,λb K=>?_⟩⟩⟩
 ·exfalso;have:=m.2.2 e;have w:=ai w;omega
 have w:=am w;refine⟨⟨rfl,J,rfl,0,rfl,aq _,rfl,m.1,by show @aZ Int _ (ct+(out.length:Int)-((0:Nat):Int)) 1099511627776;omega,λg f i v=>⟨fin i,λ_=>?_,λe=>by omega⟩⟩,?_⟩
 ·have:=K (by rw[g];rfl) f;exact⟨m.2.2 g,by rw[this],by rw[this],rfl⟩
 clear J z fin m w K c C D;rintro u2 n rt ln j ab o2 F ⟨g,j1,f,k,i,L,j3,M,N,O⟩;subst g f i;have N:@aZ Int _ (n+(F.length:Int)-(k:Int)) 1099511627776:=N;have M:@aZ Int _ 0 n:=M;refine⟨λc=>?_,λc=>r _ _ ⟨by have:=am c;omega,λg f i v=>?_⟩⟩
 ·have c:k<F.length:=by have:=ai c;omega
  refine⟨by omega,by unfold ae;omega,by omega,by unfold ae;omega,⟨⟨rfl,j1,rfl,k+1,rfl,c,?_,?_,?_,λg f i v=>?_⟩,by omega⟩⟩
  ·rw[aa,bb];omega
  ·show @aZ Int _ 0 (n+1);omega
  ·show @aZ Int _ (n+1+(F.length:Int)-((k+1:Nat):Int)) 1099511627776;omega
  ·obtain⟨B,P,R⟩:=O g f i v;refine⟨B,λe=>by omega,λe=>?_⟩;have k0:k=0:=by omega
   subst k0 v;obtain⟨f1,f2,f3,f4⟩:=P rfl;rw[f1,f2,f3,f4,B];rfl
 ·have c:=am c;obtain⟨B,P,R⟩:=O g f i v;have h1:k=1:=by rw[B]at c L;simp at c L;omega
  rw[R h1]) (l:=λ_=>aR λ_=>Uh _ _ _ _)
abbrev tLa:Ty:= .ar 2 (.ar 5 .i64)
def gk(j:Nat):List (Option CP):=[some (.cells [.d .i64, .d tB, .d tB, .d (.pf VZ), .mp (j+1), .ptr (j+2) 0, .d OB, .d tLa, .d (.sl ic)]),some (.mp .i64 tB)]++iW (j+2)
def V9(a:Int)(o:Op):Bool:= !(o.1==1&&o.2.1 !=a||o.1==3&&o.2.2.2.2.2.2.2.2.2.2.1 !=a)
def H1(l:List Op)(a:Int):Bool:=l.all (V9 a)&&decide (0<l.length)
def H2:Ct:=⟨2,⟨[(0,false,[.d (.sl jV)]),sI 1],[]⟩,[⟨[sL 0],[]⟩],λ(l,a,_)=>one (l.length≤1000000) (H1 l a,())⟩
def N':cc:=⟨[(0,false,[.d (.sl jV)]),sI 1,(7,false,[.d (.sl jV)]),sI 8,sI 9],[]⟩
def H3(l:List Op)(a:Int)(y:N'.den):Prop:=match y with
 |(b,c,e,n,i,_)=>b=l∧c=a∧e=l∧n=l.length∧∃k:Nat,i=k∧k≤l.length∧(l.take k).all (V9 a)=true
def a5m(x:H2.inp.den):dG:=⟨[(2,bM N' (H3 x.1 x.2.1) λ(_,_,_,n,i,_)=>(n-i).toNat)],[],[],[],0⟩
abbrev zL(v:Bool×Unit):aN H2.out:=⟨0,v⟩
def Qf:bu:=(115,[H2])::Qe
theorem O_:KK Qf:=kA N_ a5m (∀(e:List Op)(f:Int)(Q:aN H2.out→Prop),(Ct.spec H2 (e,f,())).sat Q→Is (H3 e f (e,f,e,(↑e.length:Int),0,()))∧∀(g:List Op)(d:Int)(b:List Op)(c a:Int),let h:Prop:=ae (a+1)∧Is (H3 e f (g,d,b,c,a+1,())∧(c-(a+1)).toNat<(c-a).toNat);let z:=b.getD a.toNat (0,0,0,0,0,false,0,0,0,0,0,0,0,false,0,0,false,0,0,());let j:= !z.2.2.2.2.2.2.2.2.2.2.1==d;let i:Prop:=Br (z.1==3) (Br j (Q (zL (false,()))) h) h;H3 e f (g,d,b,c,a,())→Br (decide (a<c)) ((0≤a∧a<(↑b.length:Int))∧Br (z.1==1) (Br (!z.2.1==d) (Q (zL (false,()))) i) i) (Q (zL (decide (0<(↑g.length:Int)),())))) (by kernel_rfl) (by
 conv=>zeta
 unfold Br;intro l a Q ⟨z,f⟩;refine⟨⟨rfl,rfl,rfl,rfl,0,rfl,aq _,rfl⟩,?_⟩;rintro A e b n i ⟨rfl,rfl,rfl,rfl,k,rfl,B,j⟩;refine⟨λm=>?_,λp=>?_⟩
 ·have c:k<b.length:=by simp only[ah]at m;omega
  have t:((k:Int).toNat)=k:=by omega
  rw[t]
  have u:b.getD k (0,0,0,0,0,false,0,0,0,0,0,0,0,false,0,0,false,0,0,())∈b:=by
   rw[az,ap c,cZ];exact rW c
  have v:b.take (k+1)=b.take k++[b.getD k (0,0,0,0,0,false,0,0,0,0,0,0,0,false,0,0,false,0,0,())]:=by
   rw[eQ,az,ap c];rfl
  generalize b.getD k (0,0,0,0,0,false,0,0,0,0,0,0,0,false,0,0,false,0,0,())=o at*
  have q:V9 e o=false→Q ⟨0,(false,())⟩:=by
   intro h
   have:H1 b e=false:=by
    unfold H1
    have:b.all (V9 e)=false:=by
     rw[←bX,cM];intro w;rw[w o u]at h;cases h
    rw[this];rfl
   rw[this]at f;exact f
  have g:V9 e o=true→ae ((k:Int)+1)∧Is (H3 b e (b,e,b,b.length,(k:Int)+1,())∧((b.length:Int)-((k:Int)+1)).toNat<((b.length:Int)-k).toNat):=by
   intro h;refine⟨by unfold ae;omega,⟨rfl,rfl,rfl,rfl,k+1,rfl,c,?_⟩,by omega⟩;rw[v,List.all_append,j];simp[h]
  refine⟨by omega,λx=>⟨λy=>q ?_,λy=>⟨λr=>⟨λs=>q ?_,λs=>g ?_⟩,λr=>g ?_⟩⟩,λx=>⟨λr=>⟨λs=>q ?_,λs=>g ?_⟩,λr=>g ?_⟩⟩
  all_goals simp_all[V9]
 ·have:H1 b e=decide ((0:Int)<b.length):=by
   simp only[aj]at p;rw[ba (by omega)]at j;unfold H1;rw[j];simp
  rw[this]at f;exact f)
def H4:Ct:=⟨3,⟨[sP 0,sI 1,sI 2],gk 0⟩,[⟨[(0,true,[.d il]),sL 1],gk 0⟩],λ(b,id,c,e,f,a,g,h,i,j,bk,_)=>du (cu a.2.1 a.2.2.1) (fQ (cL a.2.1 b) id) λy=>(y.1,y.2,c,e,f,a,g,h,i,j,bk,())⟩
def O':cc:=⟨[sP 0,sI 2,(6,false,[.ptr 4 0]),(15,false,[.d (.sl il)]),sI 16,sI 17],gk 0++[some (.cells [.d il])]⟩
def L7(x:H4.inp.den)(y:O'.den):Prop:=match x,y with
 |(p,id,c,q,r,o,s,t,u,v,bk,_),(a,l,n,i,w,b,e,f,eW,g,h,j,m,_)=>a=id∧l=cL o.2.1 p∧n=l.length∧(w,b,e,f,eW,g,h,j,m)=(c,q,r,o,s,t,u,v,bk)∧∃k:Nat,i=k∧k≤l.length∧fQ (l.drop k) id=fQ l id
def a5n(x:H4.inp.den):dG:=⟨[(2,bM O' (L7 x) λ(_,_,n,i,_)=>(n-i).toNat)],[],[],[],0⟩
abbrev zM(v:Mb×Bool×Int×BL×BL×Lg×Pg×List (List Int)×List Fk×List (Int×BL)×Ln×Unit):aN H4.out:=⟨0,v⟩
def Qg:bu:=(154,[H4])::Qf
theorem P_:KK Qg:=kA O_ a5n (∀(c f g:Int)(h i:List (BitVec 8))(a:List (BitVec 8)×List (Int×List (BitVec 8)×List (Int×List (BitVec 8)×List (BitVec 8)×Unit)×List (Int×Int×Unit)×List (BitVec 8)×List (List (BitVec 8))×List (BitVec 8)×Unit)×List (List (BitVec 8))×Unit)(j:List ((Int×Int×Unit)×Int×Int×Int×Int×Bool×Int×Unit)×List ((Int×Int×Unit)×Int)×List (Int×Int×Int×Int×Bool×Int×Unit)×(List ((Int×Int×Unit)×Int×Int×Int×Bool×List (List (Int×Int×Unit))×Unit)×Int×Unit)×(List (Int×Int×Int×Int×Bool×Int×Int×Bool×Int×Int×Unit)×Unit)×Unit)(k:List (List Int))(l:List (Int×Int×Unit))(m:List (Int×List (BitVec 8)))(n:List (Int×List (List (BitVec 8)×List (BitVec 8)×Int×Unit)))(Q:aN H4.out→Prop),(Tr.need (cu a.2.1 a.2.2.1) (Tr.all (Mb×Bool) (λy=>y=fQ (cL a.2.1 c) f) λy=>Tr.leaf (zM (y.1,y.2,g,h,i,a,j,k,l,m,n,())))).sat Q→cu a.2.1 a.2.2.1∧Is (L7 (c,f,g,h,i,a,j,k,l,m,n,()) (f,cL a.2.1 c,(↑(cL a.2.1 c).length:Int),0,g,h,i,a,j,k,l,m,n,(0,[],[],()),()))∧∀(o:Int)(d:List (Int×List (BitVec 8)×List (BitVec 8)×Unit))(e b p:Int)(q r:List (BitVec 8))(s:List (BitVec 8)×List (Int×List (BitVec 8)×List (Int×List (BitVec 8)×List (BitVec 8)×Unit)×List (Int×Int×Unit)×List (BitVec 8)×List (List (BitVec 8))×List (BitVec 8)×Unit)×List (List (BitVec 8))×Unit)(t:List ((Int×Int×Unit)×Int×Int×Int×Int×Bool×Int×Unit)×List ((Int×Int×Unit)×Int)×List (Int×Int×Int×Int×Bool×Int×Unit)×(List ((Int×Int×Unit)×Int×Int×Int×Bool×List (List (Int×Int×Unit))×Unit)×Int×Unit)×(List (Int×Int×Int×Int×Bool×Int×Int×Bool×Int×Int×Unit)×Unit)×Unit)(u:List (List Int))(v:List (Int×Int×Unit))(w:List (Int×List (BitVec 8)))(z:List (Int×List (List (BitVec 8)×List (BitVec 8)×Int×Unit)))(x:Int×List (BitVec 8)×List (BitVec 8)×Unit),L7 (c,f,g,h,i,a,j,k,l,m,n,()) (o,d,e,b,p,q,r,s,t,u,v,w,z,x,())→Br (decide (b<e)) ((0≤b∧b<(↑d.length:Int))∧Br ((d.getD b.toNat (0,[],[],())).1==o) (Q (zM (d.getD b.toNat (0,[],[],()),true,p,q,r,s,t,u,v,w,z,()))) (ae (b+1)∧Is (L7 (c,f,g,h,i,a,j,k,l,m,n,()) (o,d,e,b+1,p,q,r,s,t,u,v,w,z,x,())∧(e-(b+1)).toNat<(e-b).toNat))) (Q (zM ((0,[],[],()),false,p,q,r,s,t,u,v,w,z,())))) (by kernel_rfl) (by
 unfold Br;intro j id c x A f B C D E bk Q ⟨t,u⟩;have m:∀y:Mb×Bool,fQ (cL f.2.1 j) id=y→Q ⟨0,(y.1,y.2,c,x,A,f,B,C,D,E,bk,())⟩:=λy e=>u y e.symm;clear u
 have F:(cL f.2.1 j).length≤1000000:=by
  unfold cL;split
  ·simp
  ·have G:=aT (z:=((0,[],[],[],[],[],[],()):Et)) (show(j-1).toNat<f.2.1.length by omega);exact(t.1.2 _ G).1
 refine⟨t,⟨rfl,rfl,rfl,rfl,0,rfl,aq _,rfl⟩,?_⟩;rintro J l n i c1 K L M eW N O P R z ⟨S,v,U,w,k,W,hk,a⟩;simp only[Prod.mk.injEq]at w;obtain⟨X,Y,e8,e9,o,p,q,r,s⟩:=w;subst S X Y e8 e9 o p q r s U W;rw[←v]at m F;simp only[aG,ah,aj,aQ,ax,ne_eq];refine⟨λh=>?_,λh=>m (y8,false) ?_⟩
 ·have b:k<l.length:=by omega
  rw[cW (z:=((0,[],[],()):Mb)) b]at a;generalize l.getD k (0,[],[],())=H at*;simp only[fQ]at a;refine⟨by omega,λg=>m (H,true) ?_,λg=>⟨by unfold ae;omega,⟨⟨rfl,v,rfl,rfl,k+1,rfl,b,?_⟩,by omega⟩⟩⟩
  ·rw[←a,an g]
  ·rw[←a,ag g]
 ·rw[←a,bw (by omega)];rfl) (l:=λ_=>bm)
def mE(c:Int)(lg:Lg):Int:=if(fQ (cL lg.2.1 lg.2.1.length) c).2=true then 0 else 19
def L8:Ct:=⟨1,⟨[sP 0],gk 0⟩,[⟨[sI 0],gk 0⟩],λ(c,b,e,a,f,g,h,i,bk,_)=>one (cu a.2.1 a.2.2.1) (mE c a,c,b,e,a,f,g,h,i,bk,())⟩
abbrev zN(v:Int×Int×BL×BL×Lg×Pg×List (List Int)×List Fk×List (Int×BL)×Ln×Unit):aN L8.out:=⟨0,v⟩
def Qh:bu:=(114,[L8])::Qg
theorem P':KK Qh:=kA P_ (cv L8 0) (∀(c:Int)(d e:List (BitVec 8))(a:List (BitVec 8)×List (Int×List (BitVec 8)×List (Int×List (BitVec 8)×List (BitVec 8)×Unit)×List (Int×Int×Unit)×List (BitVec 8)×List (List (BitVec 8))×List (BitVec 8)×Unit)×List (List (BitVec 8))×Unit)(f:List ((Int×Int×Unit)×Int×Int×Int×Int×Bool×Int×Unit)×List ((Int×Int×Unit)×Int)×List (Int×Int×Int×Int×Bool×Int×Unit)×(List ((Int×Int×Unit)×Int×Int×Int×Bool×List (List (Int×Int×Unit))×Unit)×Int×Unit)×(List (Int×Int×Int×Int×Bool×Int×Int×Bool×Int×Int×Unit)×Unit)×Unit)(g:List (List Int))(h:List (Int×Int×Unit))(i:List (Int×List (BitVec 8)))(j:List (Int×List (List (BitVec 8)×List (BitVec 8)×Int×Unit)))(Q:aN L8.out→Prop),(Tr.need (cu a.2.1 a.2.2.1) (Tr.leaf (zN (mE c a,c,d,e,a,f,g,h,i,j,())))).sat Q→True∧cu a.2.1 a.2.2.1∧∀(b:(Int×List (BitVec 8)×List (BitVec 8)×Unit)×Bool),b=fQ (cL a.2.1 (↑(ac a.2.1):Int)) c→Br (!b.2) (Q (zN (19,c,d,e,a,f,g,h,i,j,()))) (Q (zN (0,c,d,e,a,f,g,h,i,j,())))) (by kernel_rfl) (by
 unfold Br;intro c g i j l m n o bk Q ⟨f,a⟩;refine⟨trivial,f,λb e=>⟨λh=>?_,λh=>?_⟩⟩
 ·unfold mE at a;rw[←e]at a;simp only[aO]at h;rw[h]at a;exact a
 ·unfold mE at a;rw[←e]at a;simp only[aJ]at h;rw[h]at a;exact a)
def nF(c:Int)(sg:BL)(lg:Lg)(km:List (Int×BL))(l:Lt)(text:BL)(ts:List Tm)(m:KV):(Lt×Int)×List Tm×KV:=
 lk sg (r9 sg ((aU .i64 (lg.2.1.length:Int) km).getD []) (l.1,c,lg.2.1.length,l.2.2.2) text ts m)
def L9:Ct:=⟨4,⟨[sP 0,sS 1 4,zf 2,sB 3],gk 0++kH 4⟩,[⟨[zf 0,sI 1],gk 0++kI 4 7++[cT]⟩],λ(l,text,c,g,a,b,h,i,j,e,bk,d,f,m,_)=>du (bU 4 f) (nF c a b e l text f m) λy=>(y.1.1,y.1.2,c,g,a,b,h,i,j,e,bk,d,y.2.2,y.2.1,())⟩
abbrev H5(v:Lt×Int×Int×BL×BL×Lg×Pg×List (List Int)×List Fk×List (Int×BL)×Ln×Int×KV×List Tm×Unit):aN L9.out:=⟨0,v⟩
def Qi:bu:=(118,[L9])::Qh
theorem Q_:KK Qi:=kA P' (cv L9 0) (∀(g:Int×Int×Int×Int×List (BitVec 8)×List (BitVec 8)×List (BitVec 8)×Unit)(h:List (BitVec 8))(c:Int)(i d:List (BitVec 8))(a:List (BitVec 8)×List (Int×List (BitVec 8)×List (Int×List (BitVec 8)×List (BitVec 8)×Unit)×List (Int×Int×Unit)×List (BitVec 8)×List (List (BitVec 8))×List (BitVec 8)×Unit)×List (List (BitVec 8))×Unit)(j:List ((Int×Int×Unit)×Int×Int×Int×Int×Bool×Int×Unit)×List ((Int×Int×Unit)×Int)×List (Int×Int×Int×Int×Bool×Int×Unit)×(List ((Int×Int×Unit)×Int×Int×Int×Bool×List (List (Int×Int×Unit))×Unit)×Int×Unit)×(List (Int×Int×Int×Int×Bool×Int×Int×Bool×Int×Int×Unit)×Unit)×Unit)(k:List (List Int))(l:List (Int×Int×Unit))(e:List (Int×List (BitVec 8)))(m:List (Int×List (List (BitVec 8)×List (BitVec 8)×Int×Unit)))(n:Int)(f:List (BitVec 8×List (List (BitVec 8))×Unit))(o:List (List (BitVec 8)×Int))(Q:aN L9.out→Prop),(Tr.need (bU 4 f) (Tr.all ((Lt×Int)×List Tm×KV) (λy=>y=nF c d a e g h f o) λy=>Tr.leaf (H5 (y.1.1,y.1.2,c,i,d,a,j,k,l,e,m,n,y.2.2,y.2.1,())))).sat Q→True∧bU 4 f∧∀(b:((Int×Int×Int×Int×List (BitVec 8)×List (BitVec 8)×List (BitVec 8)×Unit)×Int)×List (BitVec 8×List (List (BitVec 8))×Unit)×List (List (BitVec 8)×Int)),b=r9 d ((aU Ty.i64 (↑(ac a.2.1):Int) e).getD []) (g.1,c,(↑(ac a.2.1):Int),g.2.2.2) h f o→Q (H5 (b.1.1,b.1.2,c,i,d,a,j,k,l,e,m,n,b.2.2,b.2.1,()))) (by kernel_rfl) (by
 intro l text c g h i j n o p bk d q m Q ⟨a,e⟩;exact⟨trivial,a,λb f=>e b (by rw[f,nF,ck])⟩) (l:=λ_=>bm)
end Go.Tp
