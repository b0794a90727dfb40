/- A part of the proof of TopSealedSaid: no conditions; packed by a program of our own. -/
import Derived.Test.YtgpideichgnmhaaGreatPbai
open And renaming intro→cc
open BitVec renaming ofInt→bi,ofNat→ae
open Bool renaming and_eq_true→aI,false_eq_true→cu,not_eq_true'→aP,not_eq_true→cd,not_eq_false'→aK,not_eq_false→bW
open Go.IntKind renaming wrap_i64→dm
open Go.Lib renaming bitLen→fM
open HAdd renaming hAdd→eU
open HSub renaming hSub→bv
open Int renaming le_refl→bY
open LE renaming le→bc
open LT renaming lt→lB
open List renaming map_cons→aY,length_append→aa,length_cons→ba,append_assoc→ay,mem_append→bb,append_nil→aW,mem_cons→bt,take_append_drop→dI,length→ah,map_append→dn,length_map→bT,mem_map→dM,mem_cons_self→aG,mem_cons_of_mem→aA,nodup_cons→mn,mem_map_of_mem→fB,mem_append_left→cL,mem_singleton→cf,length_singleton→bh,sum_cons→dg,take_length→br,length_eq_zero_iff→r8,length_set→cG
open Nat renaming le_refl→aD,le_trans→bq,zero_le→aq,lt_or_ge→bI
open Option renaming isSome_iff_exists→cJ,getD_some→di
namespace Go.Tp
open Go.Hv Go.Proofs Go.RowKit
set_option maxRecDepth 100000
set_option maxHeartbeats 0
def NQ:bw:=(173,[YS])::NO
theorem YT:KK NQ:=⟨aQ.add NP.1 (by kernel_rfl) (bo Sz),bg.add NP.2 (bo (λ_=>bJ))⟩
def SA:Ct:=⟨1,⟨[sI 0],[]⟩,[⟨[(0,false,[.d .u64])],[]⟩],λ(x,_)=>eD (1<=x/\x<=1000000) (λy:BitVec 64=>(y.toNat:Int)<=2*x/\1<=y.toNat) λy=>(y,())⟩
def NR:bw:=(210,[SA])::NQ
theorem YU:KK NR:=kA YT (cE SA 0) (∀(a:Int)Q,let z:=fM (bi 64 a).toNat;bd SA (a,()) Q->(bi 64 a).toNat<=16777215/\decide (0<=(↑z:Int))=true/\Q ⟨0,ae 64 1<<<(↑z:Int).toNat,()⟩) (by
 conv=>zeta
 unfold bd;rintro x Q ⟨⟨a,b⟩,f⟩;have a:@bc Int _ 1 x:=a;have b:@bc Int _ x 1000000:=b;have e:(bi 64 x).toNat=x.toNat:=by rw[BitVec.toNat_ofInt];omega
 rw[e];have g:=y9 x.toNat (by omega) (by omega)
 have i:fM x.toNat<64:=by
  rcases bI (fM x.toNat) 64 with q|q
  ·exact q
  ·have:=Nat.pow_le_pow_right (n:=2) (by omega) q;omega
 have c:(1#64<<<(fM x.toNat:Int).toNat).toNat=2^fM x.toNat:=by
  rw[show(fM x.toNat:Int).toNat=fM x.toNat by omega,BitVec.toNat_shiftLeft];have:(1#64).toNat=1:=rfl;rw[this,Nat.shiftLeft_eq,Nat.one_mul,Nat.mod_eq_of_lt (by omega)]
 refine⟨by omega,by simp,f _ ⟨?_,?_⟩⟩
 ·rw[c];have:((2^fM x.toNat:Nat):Int)<=((2*x.toNat:Nat):Int):=Int.ofNat_le.2 g;omega
 ·rw[c];exact Nat.pos_of_ne_zero (by simp)) (l:=λx=>aM λh=>⟨1,by have:=h.1;show((1:Nat):Int)<=2*(x.1:Int);have:(1:Int)<=x.1:=this;omega,by decide⟩)
def SB:Ct:=⟨1,⟨[sP 0],[some (.cells [.d .u64])]⟩,[⟨[(0,false,[.d .u64])],[some (.cells [.d .u64])]⟩],λ(x,_)=>eD True (λ_:BitVec 64×BitVec 64=>True) λy=>(y.1,y.2,())⟩
def NS:bw:=(211,[SB])::NR
theorem YV:KK NS:=kA YU (cE SB 0) (∀(a:BitVec 64)Q,let b:=a^^^a<<<13;let z:=a^^^a<<<13^^^b>>>7;bd SB (a,()) Q->Q ⟨0,a^^^a<<<13^^^b>>>7^^^z<<<17,a^^^a<<<13^^^b>>>7^^^z<<<17,()⟩) (by
 conv=>zeta
 unfold bd;rintro x Q ⟨_,a⟩;exact a (_,_) trivial) (l:=λ_=>aM λ_=>⟨(0,0),trivial⟩)
def Io(a c:Int):Prop:=0<=a/\a<=1099511627776/\0<=c/\c<=1099511627776
def Kk:Ct:=⟨2,⟨[(0,true,[.d cq]),(1,true,[.d cq])],[]⟩,[⟨[sI 0],[]⟩],λ((a,c,_),(b,e,_),_)=>eD (Io a c/\Io b e) (λ_:Int=>True) λy=>(y,())⟩
abbrev SC(v:Int×Unit):cw Kk.out:=⟨0,v⟩
def NT:bw:=(137,[Kk])::NS
theorem YW:KK NT:=kA YV (cE Kk 0) (∀(a b:Fk)(Q:cw Kk.out->Prop),(Tr.need (Io a.1 a.2.1/\Io b.1 b.2.1) (Tr.all Int (λa=>True) λy=>Tr.leaf (SC (y,())))).sat Q->Br (!a.1==b.1) (ac (a.1-b.1)/\Q ⟨0,a.1-b.1,()⟩) (ac (a.2.1-b.2.1)/\Q ⟨0,a.2.1-b.2.1,()⟩)) (by
 unfold Br;rintro⟨a,c,⟨⟩⟩ ⟨e,f,⟨⟩⟩ Q ⟨⟨⟨g,h,i,j⟩,m,n,o,p⟩,q⟩;have b:∀y,Q ⟨0,(y,())⟩:=λy=>q y trivial;dsimp only at g h i j m n o p;exact⟨λ_=>⟨by show ac (@bv Int Int Int _ a e);unfold ac;omega,b _⟩,λ_=>⟨by show ac (@bv Int Int Int _ c f);unfold ac;omega,b _⟩⟩) (l:=λ_=>aM λ_=>⟨0,trivial⟩)
def dd(o:Op):Prop:=Io o.2.1 o.2.2.1/\Io o.2.2.2.2.2.2.2.1 o.2.2.2.2.2.2.2.2.1
def CC:Ct:=⟨2,⟨[(0,true,[.d kE]),(1,true,[.d kE])],[]⟩,[⟨[sI 0],[]⟩],λ(o,a,_)=>eD (dd o/\dd a) (λ_:Int=>True) λy=>(y,())⟩
def NU:bw:=(136,[CC])::NT
theorem YX:KK NU:=kA YW (cE CC 0) (∀(a c:Op)Q,bd CC (a,c,()) Q->(Io a.2.1 a.2.2.1/\Io c.2.1 c.2.2.1)/\∀(b:Int),True->Q ⟨0,b,()⟩) (by
 unfold bd;rintro o c Q ⟨h,a⟩;exact⟨⟨h.1.1,h.2.1⟩,λb _=>a b trivial⟩) (l:=λ_=>aM λ_=>⟨0,trivial⟩)
def AJ:bw:=(138,[CC])::NU
theorem xp:KK AJ:=kA YX (cE CC 0) (∀(a c:Op)Q,bd CC (a,c,()) Q->(Io a.2.2.2.2.2.2.2.1 a.2.2.2.2.2.2.2.2.1/\Io c.2.2.2.2.2.2.2.1 c.2.2.2.2.2.2.2.2.1)/\∀(b:Int),True->Q ⟨0,b,()⟩) (by
 unfold bd;rintro o c Q ⟨h,a⟩;exact⟨⟨h.1.2,h.2.2⟩,λb _=>a b trivial⟩) (l:=λ_=>aM λ_=>⟨0,trivial⟩)
def dT(g:Nat):Prop:=g=136\/g=138
def fY(l:List Op):Prop:=l.length<=100000/\∀o∈l,dd o
def dK(l m:List Op):Prop:=m.length=l.length/\∀o∈m,o∈l
theorem cx(l:List Op):dK l l:=⟨rfl,λ_ h=>h⟩
theorem dP{l m n:List Op}(h:dK l m)(h':dK m n):dK l n:=⟨h'.1.trans h.1,λo a=>h.2 o (h'.2 o a)⟩
theorem hJ{l m:List Op}(h:fY l)(h':dK l m):fY m:=⟨by rw[h'.1];exact h.1,λo a=>h.2 o (h'.2 o a)⟩
theorem dG{l m:List Op}(h:dK l m){i j:Nat}{z:Op}(hi:i<l.length)(c:j<l.length):dK l ((m.set i (m.getD j z)).set j (m.getD i z)):=by
 have b:=h.1;refine⟨by simp[b],λo a=>h.2 o ?_⟩;rcases List.mem_or_eq_of_mem_set a with a|a
 ·rcases List.mem_or_eq_of_mem_set a with a|a
  ·exact a
  ·rw[a];exact aS (by omega)
 ·rw[a];exact aS (by omega)
abbrev mh:Option CP:=some (.sl kE)
abbrev fG(g:Nat)(i:Nat):Nat×Bool×List IP:=(i,false,[.fn g [] []])
abbrev SD:List cg:=[⟨[],[mh]⟩]
def CD(g:Nat):Ct:=⟨5,⟨[sO 0 0,sI 1,sI 2,(3,false,[.ptr 1 0]),fG g 4],[mh,cN]⟩,[⟨[sI 0,sI 1],[mh,cN]⟩],λ(a,b,l,n,_)=>eD (fY l/\0<=a/\a<l.length/\0<=b/\b<l.length/\0<=n/\n<=1000) (λy:Int×Int×Int=>(y.1=a/\y.2.1=b\/y.1=b/\y.2.1=a)/\n<=y.2.2/\y.2.2<=n+1) λy=>(y.1,y.2.1,l,y.2.2,())⟩
abbrev za(g:Nat)(v:Int×Int×List Op×Int×Unit):cw ((CD g)).out:=⟨0,v⟩
theorem SE(g:Nat)(e:dT g):ix Tryz.prog AJ 219 (CD g) (cE (CD g) 0):=by
 refine oE (∀(c d:Int)(a:List Op)(e:Int)(Q:cw (CD g).out->Prop),(Tr.need (fY a/\0<=c/\c<nI a/\0<=d/\d<nI a/\0<=e/\e<=1000) (Tr.all (Int×Int×Int) (λy=>(y.1=c/\y.2.1=d\/y.1=d/\y.2.1=c)/\e<=y.2.2/\y.2.2<=e+1) λy=>Tr.leaf (za g (y.1,y.2.1,a,y.2.2,())))).sat Q->iN d a/\iN c a/\(dd (gD a d zO)/\dd (gD a c zO))/\∀(b:Int),True->Bd (b<0) (ac (e+1)/\Q (za g (d,c,a,e+1,()))) (Q (za g (c,d,a,e,())))) ?_ (by rcases e with rfl|rfl<;>kernel_rfl);unfold Bd gD iN nI zO;rintro a b l n Q ⟨⟨h,f,i,j,m,o,p⟩,c⟩;refine⟨⟨j,m⟩,⟨f,i⟩,⟨h.2 _ (aS (by omega)),h.2 _ (aS (by omega))⟩,λy _=>⟨λ_=>⟨by unfold ac;omega,c (b,a,n+1) ⟨.inr ⟨rfl,rfl⟩,?_,bY _⟩⟩,λ_=>c (a,b,n) ⟨.inl ⟨rfl,rfl⟩,bY _,?_⟩⟩⟩
 ·show n<=n+1;omega
 ·show n<=n+1;omega
theorem SF(g:Nat)(a:dT g):bS Tryz.prog 219 (CD g):=du xp.1 xp.2 sF (by kernel_rfl) (SE g a)
def AK(g:Nat):bw:=(219,[(CD g)])::AJ
theorem NV(g:Nat)(a:dT g):aQ Tryz.prog (AK g):=aQ.add xp.1 (by kernel_rfl) (bo (SF g a))
theorem NW(g:Nat):bg (AK g):=bg.add xp.2 (bo (λx=>aM λ_=>⟨(x.1,x.2.1,x.2.2.2.1), .inl ⟨rfl,rfl⟩,bY _,by show @bc Int _ x.2.2.2.1 (x.2.2.2.1+1);omega⟩))
abbrev Vo:Ty:= .ar 3 .i64
def mY(o:Op):List Int:=if o.1=1 then[o.1,o.2.1,o.2.2.1]else if o.1=2 then[o.1,o.2.2.2.2.2.2.2.1,o.2.2.2.2.2.2.2.2.1]else[o.1,o.2.2.2.2.2.2.2.2.2.2.1,o.2.2.2.2.2.2.2.2.2.1]
def SG:Ct:=⟨1,⟨[(0,true,[.d kE])],[]⟩,[⟨[(0,true,[.d Vo])],[]⟩],λ(o,_)=>one True (mY o,())⟩
def NX:bw:=(131,[SG])::AJ
theorem YY:KK NX:=kA xp (cE SG 0) (∀(a:Op)Q,bd SG (a,()) Q->Br (a.1==1) (Q ⟨0,[a.1,a.2.1,a.2.2.1],()⟩) (Br (a.1==2) (Q ⟨0,[a.1,a.2.2.2.2.2.2.2.1,a.2.2.2.2.2.2.2.2.1],()⟩) (Q ⟨0,[a.1,a.2.2.2.2.2.2.2.2.2.2.1,a.2.2.2.2.2.2.2.2.2.1],()⟩))) (by
 unfold Br bd;rintro o Q ⟨_,f⟩;have a:∀y,mY o=y->Q ⟨0,(y,())⟩:=λy e=>by rw[<-e];exact f
 clear f;unfold mY at a;exact⟨λc=>a _ (am (aZ c)),λc=>⟨λb=>a _ (by rw[af (aE c),am (aZ b)]),λb=>a _ (by rw[af (aE c),af (aE b)])⟩⟩)
def pL(o:Op):gi:=(o.2.1,o.2.2.1,o.2.2.2.1,o.2.2.2.2.1,o.2.2.2.2.2.1,o.2.2.2.2.2.2.1,())
def AL(o:Op):ID:=(o.2.1,o.2.2.1,())
def Vp(o:Op):ID:=(o.2.2.2.2.2.2.2.1,o.2.2.2.2.2.2.2.2.1,())
abbrev Iss:=List (ID×gi)
abbrev SH:=List (ID×Int)
def SI:Ct:=⟨2,⟨[sP 0,(1,true,[.d kE])],E5 0⟩,[⟨[sL 0],E5 0⟩],λ(o,i,d,w,g,n,b,_)=>eD (eM b) (λy:Bool=>gw o=true->o.1=1->y=(aO cq (AL o) i).isSome) λy=>(y,i,d,w,g,n,b,())⟩
def NY:bw:=(132,[SI])::NX
theorem YZ:KK NY:=kA YY (cE SI 0) (∀(a:Op)(c:List (Fk×gi))(d:List (Fk×Int))(f:List gi)(g:Int)(h:List (Fk×lO.den))(e:List gF.den)Q,let z:=(c,d,f,g,h,e,());bd SI (a,z) Q->True/\Br (!gw a) (Q ⟨0,false,z⟩) (Br (a.1==1) (Q ⟨0,(aO cq (a.2.1,a.2.2.1,()) c).isSome,z⟩) (Br (a.1==2) (Q ⟨0,(aO cq (a.2.2.2.2.2.2.2.1,a.2.2.2.2.2.2.2.2.1,()) d).isSome,z⟩) (eM e/\∀(b:Bool),True->Q ⟨0,b,z⟩)))) (by
 conv=>zeta
 unfold Br bd;rintro o i d w g n b Q ⟨h,j⟩;have a:∀y:Bool,(gw o=true->o.1=1->y=(aO cq (AL o) i).isSome)->Q ⟨0,(y,i,d,w,g,n,b,())⟩:=j;exact⟨trivial,λc=>a _ λe=>(by rw[e]at c;cases c),λc=>⟨λf=>a _ λ_ _=>rfl,λf=>⟨λm=>a _ λ_ e=>absurd e (aE f),λm=>⟨h,λy _=>a _ λ_ e=>absurd e (aE f)⟩⟩⟩⟩) (l:=λx=>aM λ_=>⟨(aO cq (AL x.1) x.2.1).isSome,λ_ _=>rfl⟩)
def Vq(k:Nat):List (Option CP):=[some (.cells [.mp 1, .mp 2, .own k, .ptr 4 0, .ptr 6 0]),some (.mp cq oM),some (.mp cq .i64),none,some (.cells [.mp 5, .d .i64]),some (.mp cq lO),some (.cells [.d (.sl gF)]),some (.sl oM)]
abbrev PS:=Iss×SH×List gi×Int×gx
def rM(o:Op)(p:PS):PS:=
 if o.1=1 then(dD cq (AL o) (pL o) p.1,p.2.1,p.2.2.1++[pL o],p.2.2.2)
 else if o.1=2 then(p.1,dD cq (Vp o) 1 p.2.1,p.2.2.1,(me p.2.2.2.2 p.2.2.2.1 (Vp o)).2)else p
def SJ:Ct:=⟨2,⟨[sP 0,(1,true,[.d kE])],E5 0⟩,[⟨[],Vq 7⟩],λ(o,i,d,w,g,n,b,_)=>eD (eM b/\w.length<=1000000/\0<=g/\g<=1000000) (λy:PS×List Mk=>y.1=rM o (i,d,w,g,n)/\eM y.2/\(o.1=1->y.2=b)) λy=>(y.1.1,y.1.2.1,y.1.2.2.2.1,y.1.2.2.2.2,y.2,y.1.2.2.1,())⟩
def NZ:bw:=(133,[SJ])::NY
theorem Y0:KK NZ:=kA YZ (cE SJ 0) (∀(a:Op)(e:List (Fk×gi))(f:List (Fk×Int))(d:List gi)(c:Int)(g:List (Fk×lO.den))(h:List gF.den)Q,let i:=(a.2.2.2.2.2.2.2.1,a.2.2.2.2.2.2.2.2.1,());let z:=(a.2.1,a.2.2.1,a.2.2.2.1,a.2.2.2.2.1,a.2.2.2.2.2.1,a.2.2.2.2.2.2.1,());bd SJ (a,e,f,d,c,g,h,()) Q->Br (a.1==1) ((d.length+1)*40<=mM/\Q ⟨0,dD cq (a.2.1,a.2.2.1,()) z e,f,c,g,h,d++[z],()⟩) (Br (a.1==2) ((0<=c/\c<=1000000)/\∀b,b=me g c i->Q ⟨0,e,dD cq i 1 f,b.2.1,b.2.2,h,d,()⟩) (eM h/\∀(b:Int×List gF.den),eM b.2->Q ⟨0,e,f,c,g,b.2,d,()⟩))) (by
 conv=>zeta
 unfold Br mM bd;rintro o i d w g n b Q ⟨⟨f,z,r,s⟩,q⟩;have a:∀(p:PS)(y:List Mk),p=rM o (i,d,w,g,n)->eM y->(o.1=1->y=b)->Q ⟨0,(p.1,p.2.1,p.2.2.2.1,p.2.2.2.2,y,p.2.2.1,())⟩:=λp y t u v=>q (p,y) ⟨t,u,v⟩;clear q;unfold rM at a;refine⟨λc=>⟨by omega,a (_,_,_,_,_) b (by rw[am (aZ c)];rfl) f λ_=>rfl⟩,λc=>⟨λj=>⟨⟨r,s⟩,λy m=>a (_,_,_,_,_) b (by rw[af (aE c),am (aZ j)];subst m;rfl) f λ_=>rfl⟩,λj=>⟨f,λy m=>a (_,_,_,_,_) _ (by rw[af (aE c),af (aE j)]) m λe=>absurd e (aE c)⟩⟩⟩) (l:=λx=>aM λh=>⟨(_,x.2.2.2.2.2.2.1),rfl,h.1,λ_=>rfl⟩)
def FB{β:Type}(f:β->Bool):List (ID×β)->Nat
 |[]=>0
 |p::l=>FB f l+(if f p.2 then 1 else 0)
theorem FC{β:Type}(f:β->Bool):∀l:List (ID×β),FB f l<=l.length
 |[]=>aD _
 |p::l=>by
  have:=FC f l;simp only[FB,ba];split<;>omega
def gnN(n:gx):Nat:=FB (λv:Nd=>v.2.2.2.1) n
theorem qe{β:Type}(f:β->Bool)(k:ID)(v:β):∀l:List (ID×β),FB f (cD (kt:=cq) k v l)+(if(cz (kt:=cq) k l).any f then 1 else 0)=FB f l+(if f v then 1 else 0)
 |[]=>by simp[cD,cz,FB]
 |p::l=>by
  have c:=qe f k v l;by_cases e:iJ cq k p.1=true
  ·have a:cD (kt:=cq) k v (p::l)=(p.1,v)::l:=by simp only[cD];rw[am e]
   have b:cz (kt:=cq) k (p::l)=some p.2:=by simp only[cz];rw[am e]
   rw[a,b];simp only[FB,Option.any_some];omega
  ·have a:cD (kt:=cq) k v (p::l)=p::cD (kt:=cq) k v l:=by simp only[cD];rw[af e]
   have b:cz (kt:=cq) k (p::l)=cz (kt:=cq) k l:=by simp only[cz];rw[af e]
   rw[a,b];simp only[FB];omega
theorem Y1{n:gx}(h:rK n)(s:n.length<=100000):Si n:=by
 obtain⟨A,h⟩:=h;refine⟨by omega,λp b l a=>?_⟩;have f:=h.two p b;have g:=h.light b;have i:=vO.le (n:=n) (A:=A) p.1
 have j:∀l:List ID,(∀c∈l,c∈ii n)->3*l.length<=(l.map (wt n A)).sum:=by
  intro l
  induction l with
  |nil=>intro _;simp
  |cons c l m=>
   intro q;have t:=h.ge3 (q c (aG ..));have f:=m λd o=>q d (aA _ o);simp only[aY,dg,ba];omega
 have u:=j (jt p.2) (h.key p b)
 have e:l.length<=(jt p.2).length:=by
  unfold jt;rw[aa]
  match r:p.2.2.2.2.2.1,f with
  |[v,w],_=>
   rw[r]at a;simp only[bt,List.not_mem_nil,or_false]at a;rcases a with rfl|rfl
   ·simp
   ·simp
 omega
def jv(n:gx)(g:Int):Prop:=rK n/\n.length<=4097/\0<=g/\g<=gnN n
theorem AM{n:gx}{g:Int}(h:jv n g):g<=4097:=by
 have:gnN n<=n.length:=FC _ n;have:=h.2.1;have:=h.2.2.2;omega
theorem vf{n:gx}{g:Int}{id:ID}(h:jv n g):jv (me n g id).2.2 (me n g id).2.1:=by
 refine⟨CA h.1,by rw[J8];exact h.2.1,?_⟩;have b:=h.2.2;unfold me;split
 ·exact b
 rename_i c;dsimp only;split
 ·exact b
 ·rename_i e;have c:mc n id=true:=by simpa using c
  unfold mc at c;rw[aI,cJ]at c;obtain⟨a,f⟩:=c.2;rw[f]at e⊢;have:=qe (λv:Nd=>v.2.2.2.1) id (a.1,a.2.1,a.2.2.1,true,a.2.2.2.2) n;rw[show cz (kt:=cq) id n=some a from f]at this;simp only[Option.any_some]at this;simp only[di]at e⊢;rw[af e,am trivial]at this;unfold gnN at b⊢;show 0<=g+1/\g+1<=(FB _ (cD (kt:=cq) id _ n):Int);omega
theorem zb{n:gx}{g:Int}{i:gi}(h:jv n g):jv (mX n i).2 g:=by
 obtain⟨t,A,u,w⟩:=Fh (i:=i) h.1;by_cases q:(mX n i).1=0
 ·refine⟨t,by have:=u q;omega,h.2.2.1,?_⟩;have x:=h.2.2.2;unfold mX at q⊢;split at q
  ·cases q
  rename_i m;rw[af m];split at q
  ·cases q
  rename_i r;rw[af r];split at q
  ·cases q
  rename_i j;rw[af j];split at q
  ·cases q
  rename_i y;rw[af y];dsimp only;have j:(aO cq (i.2.2.1,i.2.2.2.1,()) n).isSome=true:=by rw[bW]at j;exact j
  rw[cJ]at j;obtain⟨a,c⟩:=j;rw[c,di];have s:=qe (λv:Nd=>v.2.2.2.1) (i.2.2.1,i.2.2.2.1,()) (a.1,a.2.1,a.2.2.1,a.2.2.2.1,a.2.2.2.2.1.set (Dr i.2.2.2.2.1) (x7 (a.2.2.2.2.1.getD (Dr i.2.2.2.2.1) []) (i.1,i.2.1,())),()) n;rw[show cz (kt:=cq) (i.2.2.1,i.2.2.2.1,()) n=some a from c]at s;simp only[Option.any_some]at s;have o:=qe (λv:Nd=>v.2.2.2.1) (i.1,i.2.1,()) (i.1,i.2.1,i.2.2.2.2.2.1,false,[[],[]],()) (cD (kt:=cq) (i.2.2.1,i.2.2.2.1,()) (a.1,a.2.1,a.2.2.1,a.2.2.2.1,a.2.2.2.2.1.set (Dr i.2.2.2.2.1) (x7 (a.2.2.2.2.1.getD (Dr i.2.2.2.2.1) []) (i.1,i.2.1,())),()) n)
  have f:rJ i=true:=by
   rw[not_or]at m;simpa using m.1
  have l:1<=i.2.1:=by
   unfold rJ hH at f;rw[aI]at f;exact(ag f.1).2.2.1
  have b:cz (kt:=cq) (i.1,i.2.1,()) n=none:=by
   cases z:cz (kt:=cq) (i.1,i.2.1,()) n with
   |none=>rfl
   |some v=>
    exfalso;apply r;unfold mc;rw[show aO cq (i.1,i.2.1,()) n=some v from z];have:(i.2.1==0)=false:=az.2 (λ(e:@Eq Int i.2.1 0)=>by rw[e]at l;exact absurd l (by decide));show(!(i.1==0&&i.2.1==0)&&true)=true;rw[this];simp
  rw[fh]at o
  have p:¬(iJ cq (i.1,i.2.1,()) (i.2.2.1,i.2.2.2.1,())=true):=by
   intro q;rw[Nz.1 q]at b;rw[show cz (kt:=cq) (i.2.2.1,i.2.2.2.1,()) n=some a from c]at b;cases b
  rw[af p,b]at o;simp only[Option.any_none,cu,if_false]at o;unfold gnN at x⊢;show g<=(FB _ (cD (kt:=cq) (i.1,i.2.1,()) _ (cD (kt:=cq) (i.2.2.1,i.2.2.2.1,()) _ n)):Int);omega
 ·rw[w q];exact h
def Kl(d:SH)(z:gx×Int×List gi)(i:gi):gx×Int×List gi:=
 let a:=mX z.1 i
 if a.1≠0 then(a.2,z.2.1,z.2.2++[i])
 else if(aO cq (i.1,i.2.1,()) d).isSome=true then((me a.2 z.2.1 (i.1,i.2.1,())).2.2,(me a.2 z.2.1 (i.1,i.2.1,())).2.1,z.2.2)else(a.2,z.2.1,z.2.2)
def vg(d:SH)(w:List gi)(z:gx×Int×List gi):gx×Int×List gi:=w.foldl (Kl d) z
def CE:Nat->SH->List gi->gx->Int->List gi×Int×gx
 |0,_,w,n,g=>(w,g,n)
 |k+1,d,w,n,g=>if(vg d w (n,g,[])).2.2.length=w.length then((vg d w (n,g,[])).2.2,(vg d w (n,g,[])).2.1,(vg d w (n,g,[])).1)else CE k d (vg d w (n,g,[])).2.2 (vg d w (n,g,[])).1 (vg d w (n,g,[])).2.1
def Km:Ct:=⟨1,⟨[sP 0],E5 0⟩,[⟨[],Vq 7⟩],λ(i,d,w,g,n,b,_)=>dy (w.length<=1000000/\jv n g) (CE (w.length+1) d w n g) λy=>(i,d,y.2.1,y.2.2,b,y.1,())⟩
def SK:cg:=⟨[sP 0],Vq 7⟩
def Ko(x:Km.inp.den)(y:SK.den):Prop:=match x,y with
 |(e,a,c,h,j,l,_),(i,d,g,n,b,w,_)=>i=e/\d=a/\b=l/\w.length<=1000000/\jv n g/\∃f,w.length<f/\CE f d w n g=CE (c.length+1) a c j h
def Y2:cg:=⟨[sP 0,sO 2 8,sO 11 7,sI 12,sI 13],Vq 7++[some (.sl oM)]⟩
def CF(z:SK.den)(y:Y2.den):Prop:=match z,y with
 |(e,c,f,h,m,a,_),(l,j,i,d,g,n,b,w,r,_)=>i=e/\d=c/\b=m/\w=a/\l=a.length/\jv n g/\∃k:Nat,j=k/\k<=a.length/\r.length<=k/\vg c (a.drop k) (n,g,r)=vg c a (h,f,[])
def a2r(x:Km.inp.den):dB:=⟨[(0,oG SK (Ko x) (λ(_,_,_,_,_,w,_)=>w.length) λz=>[(2,bK Y2 (CF z) λ(l,j,_)=>(@bv Int Int Int _ l j).toNat)])],[],[],[],0⟩
def N0:bw:=(134,[Km])::NZ
theorem Y3:KK N0:=kA Y0 a2r (∀(p:List (Fk×gi))(q:List (Fk×Int))(r:List gi)(s:Int)(t:List (Fk×lO.den))(u:List gF.den)Q,let y:=(p,q,r,s,t,u,());bd Km y Q->Is (Ko y (p,q,s,t,u,r,()))/\∀(i:List (Fk×gi))(j:List (Fk×Int))(k:Int)(l:List (Fk×lO.den))(m:List gF.den)(f:List gi),let x:=(i,j,k,l,m,f,());Ko y x->Is (CF x (nI f,0,i,j,k,l,m,f,[],()))/\∀(d a:Int)(n:List (Fk×gi))(g:List (Fk×Int))(h:Int)(v:List (Fk×lO.den))(o:List gF.den)(c e:List gi),let z:=gD c a (0,0,0,0,false,0,());let A:=aO cq (z.1,z.2.1,()) g;CF x (d,a,n,g,h,v,o,c,e,())->Bd (a<d) (iN a c/\Si v/\∀b,b=mX v z->Br (!b.1==0) ((e.length+1)*40<=mM/\ac (a+1)/\Is (CF x (d,a+1,n,g,h,b.2,o,c,e++[gD c a (0,0,0,0,false,0,())],())/\lN (d-(a+1)) (d-a))) (Br (A.isSome) ((0<=h/\h<=1000000)/\∀w,w=me b.2 h (z.1,z.2.1,())->ac (a+1)/\Is (CF x (d,a+1,n,g,w.2.1,w.2.2,o,c,e,())/\lN (d-(a+1)) (d-a))) (ac (a+1)/\Is (CF x (d,a+1,n,g,h,b.2,o,c,e,())/\lN (d-(a+1)) (d-a))))) (Br (nI e==nI c) (Q ⟨0,n,g,h,v,o,e,()⟩) (Is (Ko y (n,g,h,v,o,e,())/\e.length<f.length)))) (by
 conv=>zeta
 unfold Bd Br gD iN lN mM nI bd;rintro i d w g n b Q ⟨⟨K,L⟩,H⟩;have M:∀y,CE (w.length+1) d w n g=y->Q ⟨0,(i,d,y.2.1,y.2.2,b,y.1,())⟩:=λy e=>H y e.symm;clear H;refine⟨⟨⟨rfl,rfl,rfl,K,L,w.length+1,Nat.lt_succ_self _,rfl⟩⟩,?_⟩;rintro i1 d1 N O b1 w1 ⟨u,v,A,k1,P,f,k3,o⟩;subst u v A;obtain⟨f,rfl⟩:∃R,f=R+1:=⟨f-1,by omega⟩;refine⟨⟨⟨rfl,rfl,rfl,rfl,rfl,P,0,rfl,aq _,aq _,rfl⟩⟩,?_⟩;rintro ln j i2 B C D b2 m r ⟨u,v,A,S,U,t,k,W,q2,q3,h⟩;subst u v A S U W;rw[show((k:Int)).toNat=k by omega];have E:=Y1 t.1 (by have:=t.2.1;omega);refine⟨λc=>?_,λc=>?_⟩
 ·have q:k<m.length:=by have:=ag c;omega
  rw[cZ (z:=((0,0,0,0,false,0,()):gi)) q]at h;have h:vg B (m.drop (k+1)) (Kl B (D,C,r) (m.getD k (0,0,0,0,false,0,())))=_:=h;generalize m.getD k (0,0,0,0,false,0,())=x at*;have F:ac ((k:Int)+1):=by unfold ac;omega
  have G:((m.length:Int)-((k:Int)+1)).toNat<((m.length:Int)-(k:Int)).toNat:=by omega
  have s:=zb (i:=x) t;unfold Kl at h;dsimp only at h;refine⟨by omega,E,λa X=>?_⟩;rw[<-X]at h s;refine⟨λz=>⟨by omega,F,⟨⟨rfl,rfl,rfl,rfl,rfl,s,k+1,rfl,q,by simp;omega,?_⟩,G⟩⟩,λz=>?_⟩
  ·rw[am (by simpa using z)]at h;exact h
  ·rw[af (by simpa using z)]at h;refine⟨λy=>⟨⟨s.2.2.1,by have:=AM s;omega⟩,λp J=>⟨F,⟨⟨rfl,rfl,rfl,rfl,rfl,?_,k+1,rfl,q,by omega,?_⟩,G⟩⟩⟩,λy=>⟨F,⟨⟨rfl,rfl,rfl,rfl,rfl,s,k+1,rfl,q,by omega,?_⟩,G⟩⟩⟩
   ·rw[J];exact vf s
   ·rw[am y,<-J]at h;exact h
   ·rw[af (by rw[y];decide)]at h;exact h
 ·have q:k=m.length:=by have:=an c;omega
  subst q;rw[List.drop_length]at h;have h:(D,C,r)=vg B m (O,N,[]):=h;simp only[CE]at o;rw[<-h]at o;refine⟨λz=>?_,λz=>?_⟩
  ·rw[am (by have:=aZ z;show r.length=m.length;omega)]at o;exact M (r,C,D) o.symm
  ·have Y:¬(r.length=m.length):=by have:=aE z;omega
   rw[af Y]at o;exact⟨⟨rfl,rfl,rfl,by omega,t,f,by omega,o⟩,by omega⟩) (l:=λ_=>bp)
def Y4(i:Iss):Prop:=∀q∈i,sJ q.2=true/\q.1=(q.2.1,q.2.2.1,())
def Y5(d:SH):Prop:=∀q∈d,hH q.1.1 q.1.2.1=true
def cr(p:Pg):Prop:=p.1.length+p.2.1.length<=4096/\eM p.2.2.2.2.1.1/\p.2.2.1.length<=p.1.length/\jv p.2.2.2.1.1 p.2.2.2.1.2.1/\Y4 p.1/\Y5 p.2.1
def sQ(p:PS)(b:List Mk):Pg:=(p.1,p.2.1,p.2.2.1,(p.2.2.2.2,p.2.2.2.1,()),(b,()),())
theorem vh:cr js:=by
 refine⟨by decide,⟨by decide,by intro m b;cases b⟩,aD _,⟨Fg,by decide,by decide,by decide⟩,?_,?_⟩
 ·intro q a;cases a
 ·intro q a;cases a
theorem AN{kt:Ty}{β:Type}(k:kt.den)(v:β):∀l:List (kt.den×β),(cD (kt:=kt) k v l).length<=l.length+1
 |[]=>by simp[cD]
 |p::l=>by
  have:=AN k v l;simp only[cD];split
  ·simp
  ·simp only[ba];omega
theorem xq{kt:Ty}{β:Type}{k:kt.den}{v:β}:∀{l:List (kt.den×β)},cz (kt:=kt) k l=none->(cD (kt:=kt) k v l).length=l.length+1
 |[],_=>by simp[cD]
 |p::l,h=>by
  simp only[cz]at h;split at h
  ·cases h
  ·rename_i e;simp only[cD];rw[af e,ba,xq h,ba]
theorem zc{kt:Ty}{β:Type}{k:kt.den}{v:β}{q:kt.den×β}:∀{l:List (kt.den×β)},q∈cD (kt:=kt) k v l->q∈l\/q.2=v/\q.1=k
 |[],h=>by simp[cD]at h;exact .inr (by rw[h];exact⟨rfl,rfl⟩)
 |p::l,h=>by
  simp only[cD]at h;split at h
  ·rename_i e;rcases bt.1 h with h|h
   ·exact .inr (by rw[h];exact⟨rfl,(dZ.1 e).symm⟩)
   ·exact .inl (aA _ h)
  ·rcases bt.1 h with h|h
   ·exact .inl (by rw[h];exact aG ..)
   ·exact(zc h).imp (aA _) id
theorem a2s{o:Op}(h:gw o=true)(b:o.1=1):sJ (pL o)=true:=by
 obtain⟨k,a,c,e,f,r,x,g,i,j,l,m,fc,n,p,q,s,t,v,⟨⟩⟩:=o;have b:k=1:=b;subst b;unfold gw at h;simp only[am trivial,aI]at h;unfold sJ pL;simp only[aI];exact⟨⟨h.1.1.1.1,h.1.1.1.2⟩,h.1.1.2⟩
theorem a2t{o:Op}(h:gw o=true)(b:o.1=2):hH (Vp o).1 (Vp o).2.1=true:=by
 obtain⟨k,a,c,e,f,r,x,g,i,j,l,m,fc,n,p,q,s,t,v,⟨⟩⟩:=o;have b:k=2:=b;subst b;unfold gw at h;simp only[af (show¬((2:Int)=1)by decide),am trivial,aI]at h;exact h.1.1
theorem Y6{o:Op}(h:gw o=true):Az o:=by
 obtain⟨k,a,c,b,e,r,x,f,g,i,j,l,fc,m,n,p,s,t,v,⟨⟩⟩:=o;show ac x;unfold gw at h;dsimp only at h;split at h
 ·simp only[aI,ai]at h;have q:@bc Int _ 0 x/\@bc Int _ x 1114111:=⟨h.1.1.1.2.1,h.1.1.1.2.2.1⟩;unfold ac;omega
 split at h
 ·simp only[aI,ai]at h;have q:x=0:=h.1.2.2.2.2.2.2;rw[q];unfold ac;omega
 split at h
 ·simp only[aI,ai]at h;have q:x=0:=h.1.2.2.2.2.2.2;rw[q];unfold ac;omega
 ·cases h
def xr(p:Pg)(l:List Op)(y:Int×Pg):Prop:=cr y.2/\(p=js->l=[iW]->y=(0,ft))/\(p=js->l=[]->y.2=js)
theorem a2u:jv ft.2.2.2.1.1 ft.2.2.2.1.2.1:=by
 have:=zb (i:=(0,1,0,0,true,97,())) (show jv [(sf,jT)] 0 from⟨Fg,by decide,by decide,by decide⟩);have e:(mX [(sf,jT)] (0,1,0,0,true,97,())).2=ft.2.2.2.1.1:=by kernel_rfl
 rw[e]at this;exact this
theorem zd:cr ft:=by
 refine⟨by decide,⟨by decide,by intro m b;cases b⟩,aq _,a2u,?_,?_⟩
 ·intro q a;have a:q∈[(((0,1,()):ID),((0,1,0,0,true,97,()):gi))]:=a;rw[cf.1 a];exact⟨by decide,rfl⟩
 ·intro q a;cases a
theorem qf(p:Pg)(l:List Op):∃y,xr p l y:=by
 by_cases h:l=[]
 ·exact⟨(0,js),vh,λ_ e=>(by rw[h]at e;cases e),λ_ _=>rfl⟩
 ·exact⟨(0,ft),zd,λ_ _=>rfl,λ_ e=>absurd e h⟩
structure Frs(i0:Iss)(F:List Op):Prop where
 op:∀o∈F,gw o=true
 nd:(F.map mY).Nodup
 no:∀o∈F,o.1=1->aO cq (AL o) i0=none
theorem SL{o o':Op}(h:o.1=1)(h':o'.1=1)(e:AL o=AL o'):mY o=mY o':=by
 unfold mY;have a:o.2.1=o'.2.1:=aH (λx:ID=>x.1) e;have b:o.2.2.1=o'.2.2.1:=aH (λx:ID=>x.2.1) e;rw[am h,am h',h,h',a,b]
abbrev Sen:=List (List Int×Int)
def sR:Ct:=⟨2,⟨[sP 0,(1,false,[.d (.sl kE)])],E5 0⟩,[⟨[sI 0],Vq 7⟩],λ(l,i,d,w,g,n,b,_)=>eD (cr (sQ (i,d,w,g,n) b)/\l.length<=1000000) (xr (sQ (i,d,w,g,n) b) l) λy=>(y.1,y.2.1,y.2.2.1,y.2.2.2.2.1.2.1,y.2.2.2.2.1.1,y.2.2.2.2.2.1.1,y.2.2.2.1,())⟩
def Y7:cg:=⟨[sP 0,(5,false,[.mp 7]),sO 6 8,sI 7,(26,false,[.d (.sl kE)]),sI 27,sI 28],E5 0++[some (.mp Vo .i64),some (.sl kE)]⟩
def FD(x:sR.inp.den)(y:Y7.den):Prop:=match x,y with
 |(a,c,f,h,m,p,e,_),(st,l,r,j,i,d,w,g,n,b,q,F,_)=>l=a/\(i,d,w,g,n,b)=(c,f,h,m,p,e)/\st=e.length/\r=a.length/\Frs c F/\(∀o∈F,(aO Vo (mY o) q).isSome=true)/\∃k:Nat,j=k/\k<=a.length/\F.length<=k/\(sQ (c,f,h,m,p) e=js->a=[iW]->(k=0->q=[])/\F=a.take k)
def N1:cg:=⟨[sP 0,sO 6 7,sI 7,sO 56 7,sI 57,sI 58],E5 0++[some (.sl kE)]⟩
def dF(x:sR.inp.den)(F:List Op):Prop:=Frs x.2.1 F/\F.length<=x.1.length/\(sQ (x.2.1,x.2.2.1,x.2.2.2.1,x.2.2.2.2.1,x.2.2.2.2.2.1) x.2.2.2.2.2.2.1=js->x.1=[iW]->F=[iW])
def xt(x:sR.inp.den)(y:N1.den):Prop:=match x,y with
 |(m,c,e,f,h,l,a,_),(st,o,j,i,d,w,g,n,b,F,_)=>(i,d,w,g,n,b)=(c,e,f,h,l,a)/\dF (m,c,e,f,h,l,a,()) F/\o=F.length/\∃k:Nat,j=k/\k<=F.length/\@bc Int _ a.length st/\@bc Int _ st (@eU Int Int Int _ a.length k)
def N2:cg:=⟨[sP 0,sO 95 8,sI 96,sI 97],Vq 7++[some (.sl kE)]⟩
structure Tkg(x:sR.inp.den)(F:List Op)(k:Nat)(p:PS)(b:List Mk):Prop where
 no:∀o∈F.drop k,o.1=1->aO cq (AL o) p.1=none
 len:p.1.length+p.2.1.length<=x.2.1.length+x.2.2.1.length+k
 mks:eM b
 wt:p.2.2.1.length<=p.1.length
 tg:jv p.2.2.2.2 p.2.2.2.1
 is:Y4 p.1
 dr:Y5 p.2.1
 ty:sQ (x.2.1,x.2.2.1,x.2.2.2.1,x.2.2.2.2.1,x.2.2.2.2.2.1) x.2.2.2.2.2.2.1=js->x.1=[iW]->(k=0->sQ p b=js)/\(k=1->sQ p b=sQ (rM iW ([],[],[],0,[(sf,jT)])) [])
 t0:k=0->sQ p b=sQ (x.2.1,x.2.2.1,x.2.2.2.1,x.2.2.2.2.1,x.2.2.2.2.2.1) x.2.2.2.2.2.2.1
def AO(x:sR.inp.den)(y:N2.den):Prop:=match y with
 |(a,j,i,d,g,n,b,w,F,_)=>dF x F/\@bc Int _ (@eU Int Int Int _ (@eU Int Int Int _ x.2.1.length x.2.2.1.length) F.length) 4096/\a=F.length/\∃k:Nat,j=k/\k<=F.length/\Tkg x F k (i,d,w,g,n) b
theorem FE(d:SH):∀(w:List gi)(z:gx×Int×List gi),jv z.1 z.2.1->jv (vg d w z).1 (vg d w z).2.1/\(vg d w z).2.2.length<=z.2.2.length+w.length
 |[],z,h=>⟨h,aD _⟩
 |i::w,z,h=>by
  have b:jv (Kl d z i).1 (Kl d z i).2.1/\(Kl d z i).2.2.length<=z.2.2.length+1:=by
   have a:=zb (i:=i) h;unfold Kl;dsimp only;split
   ·exact⟨a,by simp⟩
   split
   ·exact⟨vf a,Nat.le_succ _⟩
   ·exact⟨a,Nat.le_succ _⟩
  have:=FE d w (Kl d z i) b.1;refine⟨this.1,?_⟩;have e:=this.2;show(vg d w (Kl d z i)).2.2.length<=_;rw[ba];omega
theorem FF(d:SH):∀(f:Nat)(w:List gi)(n:gx)(g:Int),jv n g->(CE f d w n g).1.length<=w.length/\jv (CE f d w n g).2.2 (CE f d w n g).2.1
 |0,w,n,g,h=>⟨aD _,h⟩
 |f+1,w,n,g,h=>by
  have a:=FE d w (n,g,[]) h;have b:(vg d w (n,g,[])).2.2.length<=w.length:=by have:=a.2;simpa using this
  simp only[CE];split
  ·exact⟨b,a.1⟩
  ·have:=FF d f (vg d w (n,g,[])).2.2 (vg d w (n,g,[])).1 (vg d w (n,g,[])).2.1 a.1;exact⟨bq this.1 b,this.2⟩
theorem FG{x:sR.inp.den}{F:List Op}{k:Nat}{p:PS}{b s:List Mk}(h:Tkg x F k p b)(z:dF x F)(E:k<F.length)(A:eM s)(B:(F.getD k AA).1=1->s=b):Tkg x F (k+1) (rM (F.getD k AA) p) s:=by
 have Q:F.getD k AA∈F:=aS E;have G:=z.1.op _ Q;have H:F.drop k=F.getD k AA::F.drop (k+1):=cZ E;have c:=h.no;rw[H]at c;have C:=z.1.nd
 have g:sQ (x.2.1,x.2.2.1,x.2.2.2.1,x.2.2.2.2.1,x.2.2.2.2.2.1) x.2.2.2.2.2.2.1=js->x.1=[iW]->(k+1=0->sQ (rM (F.getD k AA) p) s=js)/\(k+1=1->sQ (rM (F.getD k AA) p) s=sQ (rM iW ([],[],[],0,[(sf,jT)])) []):=by
  intro J K;refine⟨λe=>by omega,λe=>?_⟩;have R:k=0:=by omega
  subst R;have S:=z.2.2 J K;have L:F.getD 0 AA=iW:=by rw[S];rfl
  have t:=(h.ty J K).1 rfl;have U:s=b:=B (by rw[L];rfl);have m:b=[]:=aH (λq:Pg=>q.2.2.2.2.1.1) t
  have u:p=([],[],[],0,[(sf,jT)]):=by
   obtain⟨a,n,y,M,N⟩:=p;have i:a=[]:=aH (λq:Pg=>q.1) t;have w:n=[]:=aH (λq:Pg=>q.2.1) t;have W:y=[]:=aH (λq:Pg=>q.2.2.1) t;have X:M=0:=aH (λq:Pg=>q.2.2.2.1.2.1) t;have Y:N=[(sf,jT)]:=aH (λq:Pg=>q.2.2.2.1.1) t;rw[i,w,W,X,Y]
  rw[L,U,m,u]
 generalize hO:F.getD k AA=o at*;obtain⟨a,n,y,M,N⟩:=p;have O:a.length+n.length<=x.2.1.length+x.2.2.1.length+k:=h.len;have a0:y.length<=a.length:=h.wt;unfold rM at g⊢;by_cases m:o.1=1
 ·rw[am m]at g⊢;have hn:cz (kt:=cq) (AL o) a=none:=c o (aG ..) m;have hl:=xq (v:=pL o) hn;refine⟨λr f P=>?_,?_,A,?_,h.tg,λq D=>?_,h.dr,g,λe=>absurd e (Nat.succ_ne_zero _)⟩
  ·show cz (kt:=cq) (AL r) (cD (kt:=cq) (AL o) (pL o) a)=none;rw[fh,af]
   ·exact c r (aA _ f) P
   ·intro e;have e:=SL P m (Nz.1 e);have hs:(F.drop k).Nodup\/True:= .inr trivial
    have j:((F.drop k).map mY).Nodup:=by
     have:=C;rw[<-dI k F,dn,List.nodup_append]at this;exact this.2.1
    rw[H,aY,mn]at j;exact j.1 (by rw[<-e];exact fB f)
  ·show(cD (kt:=cq) (AL o) (pL o) a).length+n.length<=_;omega
  ·show(y++[pL o]).length<=(cD (kt:=cq) (AL o) (pL o) a).length;rw[aa,bh];omega
  ·rcases zc D with i|⟨i,w⟩
   ·exact h.is q i
   ·rw[i,w];exact⟨a2s G m,rfl⟩
 ·rw[af m]at g⊢;have l:∀r∈F.drop (k+1),r.1=1->aO cq (AL r) a=none:=λr f=>c r (aA _ f);by_cases u:o.1=2
  ·rw[am u]at g⊢;refine⟨l,?_,A,h.wt,vf h.tg,h.is,λq D=>?_,g,λe=>absurd e (Nat.succ_ne_zero _)⟩
   ·have:=AN (kt:=cq) (Vp o) (1:Int) n;show a.length+(cD (kt:=cq) (Vp o) 1 n).length<=_;omega
   ·rcases zc D with i|⟨i,w⟩
    ·exact h.dr q i
    ·rw[w];exact a2t G u
  ·rw[af u]at g⊢;exact⟨l,by show a.length+n.length<=_;omega,A,h.wt,h.tg,h.is,h.dr,g,λe=>absurd e (Nat.succ_ne_zero _)⟩
def a2v(x:sR.inp.den):dB:=⟨[(7,bK Y7 (FD x) λ(_,_,a,j,_)=>(@bv Int Int Int _ a j).toNat),(17,bK N1 (xt x) λ(_,a,j,_)=>(@bv Int Int Int _ a j).toNat),(26,bK N2 (AO x) λ(a,j,_)=>(@bv Int Int Int _ a j).toNat)],[],[],[],0⟩
abbrev SM(v:Int×List (Fk×gi)×List (Fk×Int)×Int×List (Fk×lO.den)×List gF.den×List gi×Unit):cw sR.out:=⟨0,v⟩
def N3:bw:=(93,[sR])::N0
theorem N4:KK N3:=kA Y3 a2v (∀(d:List Op)(g:List (Fk×gi))(h:List (Fk×Int))(i:List gi)(j:Int)(k:List (Fk×lO.den))(c:List gF.den)Q,let x:=(d,g,h,i,j,k,c,());bd sR x Q->c.length<=1000000/\Is (FD x (nI c,d,nI d,0,g,h,i,j,k,c,[],[],()))/\∀(F:Int)(e:List Op)(l a:Int)(s:List (Fk×gi))(v:List (Fk×Int))(w:List gi)(y:Int)(z:List (Fk×lO.den))(t:List gF.den)(K:List (List Int×Int))(u:List Op),let R:=(s,v,w,y,z,t,K,u,());let W:=aO (Ty.ar 3 Ty.i64) (mY (gD e a zO)) K;let S:=ac (a+1)/\Is (FD x (F,e,l,a+1,R)/\lN (l-(a+1)) (l-a));FD x (F,e,l,a,R)->Bd (a<l) (iN a e/\True/\Br (!gw (gD e a zO)) (Q ⟨0,1,s,v,y,z,t,w,()⟩) (True/\Br (W.isSome) S (eM t/\∀(b:Bool),(gw (gD e a zO)=true->(gD e a zO).1=1->b=(aO cq ((gD e a zO).2.1,(gD e a zO).2.2.1,()) s).isSome)->Br b S (True/\(u.length+1)*144<=mM/\ac (a+1)/\Is (FD x (F,e,l,a+1,s,v,w,y,z,t,dD (Ty.ar 3 Ty.i64) (mY (gD e a zO)) 1 K,u++[gD e a zO],())/\lN (l-(a+1)) (l-a)))))) (Is (xt x (F,nI u,0,s,v,w,y,z,t,u,()))/\∀(C r f:Int)(m:List (Fk×gi))(n:List (Fk×Int))(L:List gi)(M:Int)(N:List (Fk×lO.den))(o:List gF.den)(p:List Op),let X:=4096<nI m+nI n+nI o+nI p;let U:=SM (14,m,n,M,N,o,L,());let O:=(m,n,L,M,N,o,p,());xt x (C,r,f,O)->Bd (f<r) (iN f p/\Br ((gD p f zO).1==3) (ac (C+1)/\ac (f+1)/\Is (xt x (C+1,r,f+1,O)/\lN (r-(f+1)) (r-f))) (ac (f+1)/\Is (xt x (C,r,f+1,O)/\lN (r-(f+1)) (r-f)))) (ac (nI m+nI n)/\o.length<=1000000/\ac (nI m+nI n+nI o)/\ac (nI m+nI n+nI o+nI p)/\Br (decide X) (Q U) (Bd (512<C) (Q U) (Is (AO x (nI p,0,m,n,M,N,o,L,p,()))/\∀(D q:Int)(P:List (Fk×gi))(G:List (Fk×Int))(A:Int)(H:List (Fk×lO.den))(J:List gF.den)(B:List gi)(E:List Op),AO x (D,q,P,G,A,H,J,B,E,())->Bd (q<D) (iN q E/\(eM J/\B.length<=1000000/\0<=A/\A<=1000000)/\∀(b:(List (Fk×gi)×List (Fk×Int)×List gi×Int×List (Fk×lO.den))×List gF.den),b.1=rM (gD E q zO) (P,G,B,A,H)/\eM b.2/\((gD E q zO).1=1->b.2=J)->ac (q+1)/\Is (AO x (D,q+1,b.1.1,b.1.2.1,b.1.2.2.2.1,b.1.2.2.2.2,b.2,b.1.2.2.1,E,())/\lN (D-(q+1)) (D-q))) ((B.length<=1000000/\jv H A)/\∀b,b=CE (B.length+1) G B H A->Q ⟨0,0,P,G,b.2.1,b.2.2,J,b.1,()⟩)))))) (by
 conv=>zeta
 unfold Bd Br gD iN lN mM nI bd zO;rintro l i d w g n b Q ⟨⟨s,hl⟩,hQ⟩;have s:cr (sQ (i,d,w,g,n) b):=s;have Y:∀(er:Int)(p:PS)(b':List Mk),xr (sQ (i,d,w,g,n) b) l (er,sQ p b')->Q ⟨0,(er,p.1,p.2.1,p.2.2.2.1,p.2.2.2.2,b',p.2.2.1,())⟩:=λer p b' h=>hQ (er,sQ p b') h;clear hQ;obtain⟨k1,k2,k3,k4,k5,k6⟩:=id s;have k1:i.length+d.length<=4096:=k1;have k3:w.length<=i.length:=k3;have k4:jv n g:=k4;have kb:b.length<=512:=k2.1;have tn:sQ (i,d,w,g,n) b=js->i=[]/\d=[]/\b=[]:=λt=>⟨aH (λq:Pg=>q.1) t,aH (λq:Pg=>q.2.1) t,aH (λq:Pg=>q.2.2.2.2.1.1) t⟩;refine⟨by omega,⟨⟨rfl,rfl,rfl,rfl,⟨λo A=>(by cases A),List.nodup_nil,λo A=>(by cases A)⟩,λo A=>(by cases A),0,rfl,aq _,aD _,λ_ _=>⟨λ_=>rfl,rfl⟩⟩⟩,?_⟩;rintro st l1 ln j i1 d1 w1 g1 n1 b1 sn F ⟨e1,v,e3,e4,J,R,k,e5,q3,q4,q5⟩;have a1:i=i1:=(aH (λz=>z.1) v).symm;have a2:d=d1:=(aH (λz=>z.2.1) v).symm;have a3:w=w1:=(aH (λz=>z.2.2.1) v).symm;have a4:g=g1:=(aH (λz=>z.2.2.2.1) v).symm;have a5:n=n1:=(aH (λz=>z.2.2.2.2.1) v).symm;have a6:b=b1:=(aH (λz=>z.2.2.2.2.2) v).symm;have a7:l=l1:=e1.symm;subst a1 a2 a3 a4 a5 a6 a7 e3 e4 e5;clear e1 v;rw[show((k:Int)).toNat=k by omega];refine⟨λc=>?_,λc=>?_⟩
 ·have u:k<l.length:=by have:=ag c;omega
  have hm:l.getD k (0,0,0,0,0,false,0,0,0,0,0,0,0,false,0,0,false,0,0,())∈l:=aS u;have a0:l.take (k+1)=l.take k++[l.getD k (0,0,0,0,0,false,0,0,0,0,0,0,0,false,0,0,false,0,0,())]:=cQ u;generalize A:l.getD k (0,0,0,0,0,false,0,0,0,0,0,0,0,false,0,0,false,0,0,())=o at*
  have K:sQ (i,d,w,g,n) b=js->l=[iW]->k=0/\o=iW:=by
   intro m r;have h0:k=0:=by rw[r]at u;simpa using u
   subst h0;rw[r]at A;exact⟨rfl,A.symm⟩
  have hN:ac ((k:Int)+1):=by unfold ac;omega
  have N:((l.length:Int)-((k:Int)+1)).toNat<((l.length:Int)-(k:Int)).toNat:=by omega
  refine⟨by omega,trivial,λS=>?_,λS=>⟨trivial,λc2=>?_,λc2=>⟨k2,λkn U=>⟨λc3=>?_,λc3=>⟨trivial,by omega,hN,⟨⟨rfl,rfl,rfl,rfl,⟨?_,?_,?_⟩,?_,k+1,rfl,u,?_,?_⟩,N⟩⟩⟩⟩⟩⟩
  ·refine Y 1 (i,d,w,g,n) b ⟨s,λm r=>?_,λm _=>m⟩;rw[(K m r).2]at S;exact absurd S (by decide)
  ·refine⟨hN,⟨⟨rfl,rfl,rfl,rfl,J,R,k+1,rfl,u,by omega,λm r=>?_⟩,N⟩⟩;have:=(q5 m r).1 (K m r).1;rw[this]at c2;cases c2
  ·refine⟨hN,⟨⟨rfl,rfl,rfl,rfl,J,R,k+1,rfl,u,by omega,λm r=>?_⟩,N⟩⟩;have e:=(K m r).2;have:=U (by rw[e];decide) (by rw[e];rfl);rw[(tn m).1]at this;rw[this]at c3;cases c3
  ·intro G x;rcases bb.1 x with h|h
   ·exact J.op G h
   ·rw[cf.1 h];simpa using S
  ·rw[dn,List.nodup_append];refine⟨J.nd,by simp,λa ha y hy=>?_⟩;have hy:y=mY o:=by simpa using hy
   intro e;obtain⟨G,x,e'⟩:=dM.1 ha;have:=R G x;rw[e',e,hy]at this;rw[show(aO Vo (mY o) sn).isSome=false from c2]at this;cases this
  ·intro G x h1;rcases bb.1 x with h|h
   ·exact J.no G h h1
   ·rw[cf.1 h]at h1⊢;have:=U (by simpa using S) h1;rw[c3]at this;exact Option.isSome_eq_false_iff.1 this.symm|>Option.isNone_iff_eq_none.1
  ·intro G x;show(cz (kt:=Vo) (mY G) (cD (kt:=Vo) (mY o) 1 sn)).isSome=true;rw[fh];split
   ·rfl
   ·rename_i ne;rcases bb.1 x with h|h
    ·exact R G h
    ·exact absurd (dZ.2 (by rw[cf.1 h])) ne
  ·simp;omega
  ·intro m r;refine⟨λe=>by omega,?_⟩;rw[a0,<-(q5 m r).2]
 ·have u:k=l.length:=by have:=an c;omega
  subst u;refine⟨⟨⟨rfl,⟨J,q4,λm r=>?_⟩,rfl,0,rfl,aq _,bY _,by omega⟩⟩,?_⟩
  ·have:=(q5 m r).2;rw[br]at this;rw[this];exact r
  clear c J R q3 q4 q5;rintro C a8 j2 i2 d2 w2 g2 n2 b2 F2 ⟨v,f,e4,k,e5,r1,r2,W⟩;have a1:i=i2:=(aH (λz=>z.1) v).symm;have a2:d=d2:=(aH (λz=>z.2.1) v).symm;have a3:w=w2:=(aH (λz=>z.2.2.1) v).symm;have a4:g=g2:=(aH (λz=>z.2.2.2.1) v).symm;have a5:n=n2:=(aH (λz=>z.2.2.2.2.1) v).symm;have a6:b=b2:=(aH (λz=>z.2.2.2.2.2) v).symm;subst a1 a2 a3 a4 a5 a6 e4 e5;have a9:F2.length<=l.length:=f.2.1;have r2:@bc Int _ b.length C:=r2;have W:@bc Int _ C (b.length+k):=W;refine⟨λc=>?_,λc=>?_⟩
  ·have u:k<F2.length:=by have:=ag c;omega
   have N:((F2.length:Int)-((k:Int)+1)).toNat<((F2.length:Int)-(k:Int)).toNat:=by omega
   refine⟨by omega,λ_=>⟨by unfold ac;omega,by unfold ac;omega,⟨⟨rfl,f,rfl,k+1,rfl,u,?_,?_⟩,N⟩⟩,λ_=>⟨by unfold ac;omega,⟨⟨rfl,f,rfl,k+1,rfl,u,r2,?_⟩,N⟩⟩⟩
   ·show @bc Int _ b.length (C+1);omega
   ·show @bc Int _ (C+1) (b.length+((k+1:Nat):Int));omega
   ·show @bc Int _ C (b.length+((k+1:Nat):Int));omega
  ·refine⟨by unfold ac;omega,by omega,by unfold ac;omega,by unfold ac;omega,λL=>?_,λL=>⟨λc5=>?_,λc5=>⟨⟨⟨f,?_,rfl,0,rfl,aq _,⟨λo A=>f.1.no o (by simpa using A),aD _,k2,k3,k4,k5,k6,λm _=>⟨λ_=>m,λe=>by omega⟩,λ_=>rfl⟩⟩⟩,?_⟩⟩⟩
   ·refine Y 14 (i,d,w,g,n) b ⟨s,λm r=>?_,λm _=>m⟩;exfalso;have L:=ag L;obtain⟨z1,z2,z3⟩:=tn m;rw[z1,z2,z3,f.2.2 m r]at L;exact absurd L (by decide)
   ·refine Y 14 (i,d,w,g,n) b ⟨s,λm r=>?_,λm _=>m⟩;exfalso;have c5:=ag c5;have:=f.2.2 m r;rw[this]at r1;have:b=[]:=(tn m).2.2;rw[this]at W;simp at r1 W;omega
   ·have:=an L;show @bc Int _ ((i.length:Int)+d.length+F2.length) 4096;omega
   clear c L c5 r1 r2 W;rintro b0 j3 E H O P b3 M X ⟨f3,s1,e1,k,v,s2,T⟩;subst e1 v;rw[show((k:Int)).toNat=k by omega];have s1:@bc Int _ ((i.length:Int)+d.length+X.length) 4096:=s1;have tl:E.length+H.length<=i.length+d.length+k:=T.len;have tw:M.length<=E.length:=T.wt;have tt:jv P O:=T.tg;have tg:=AM tt;refine⟨λc=>?_,λc=>?_⟩
   ·have u:k<X.length:=by have:=ag c;omega
    refine⟨by omega,⟨T.mks,by omega,tt.2.2.1,by omega⟩,λz D=>⟨by unfold ac;omega,⟨⟨f3,s1,rfl,k+1,rfl,u,?_⟩,by omega⟩⟩⟩;have:=FG T f3 u D.2.1 D.2.2;have e:z.1=rM (X.getD k AA) (E,H,M,O,P):=D.1;rw[<-e]at this;exact this
   ·have u:k=X.length:=by have:=an c;omega
    subst u;refine⟨⟨by omega,tt⟩,λz D=>?_⟩;have A:=FF H (M.length+1) M P O tt;rw[<-D]at A;refine Y 0 (E,H,z.1,z.2.1,z.2.2) b3 ⟨⟨by show E.length+H.length<=4096;omega,T.mks,by show z.1.length<=E.length;omega,A.2,T.is,T.dr⟩,λm r=>?_,λm r=>?_⟩
    ·have eF:=f3.2.2 m r;have B:=(T.ty m r).2 (by rw[eF];rfl);have y1:E=ft.1:=aH (λq:Pg=>q.1) B;have y2:H=[]:=aH (λq:Pg=>q.2.1) B;have y3:M=[pL iW]:=aH (λq:Pg=>q.2.2.1) B;have y4:O=0:=aH (λq:Pg=>q.2.2.2.1.2.1) B;have y5:P=[(sf,jT)]:=aH (λq:Pg=>q.2.2.2.1.1) B;have y6:b3=[]:=aH (λq:Pg=>q.2.2.2.2.1.1) B;subst y1 y2 y3 y4 y5 y6;have e:CE ([pL iW].length+1) [] [pL iW] [(sf,jT)] 0=([],0,ft.2.2.2.1.1):=by kernel_rfl
     have D:z=([],0,ft.2.2.2.1.1):=D.trans e;subst D;rfl
    ·have h0:X.length=0:=by have:=f3.2.1;have r:l=[]:=r;rw[r]at this;simpa using this
     have B:sQ (E,H,M,O,P) b3=js:=(T.t0 h0).trans m;have y1:E=[]:=aH (λq:Pg=>q.1) B;have y2:H=[]:=aH (λq:Pg=>q.2.1) B;have y3:M=[]:=aH (λq:Pg=>q.2.2.1) B;have y4:O=0:=aH (λq:Pg=>q.2.2.2.1.2.1) B;have y5:P=[(sf,jT)]:=aH (λq:Pg=>q.2.2.2.1.1) B;have y6:b3=[]:=aH (λq:Pg=>q.2.2.2.2.1.1) B;subst y1 y2 y3 y4 y5 y6;have e:CE (([]:List gi).length+1) [] [] [(sf,jT)] 0=([],0,[(sf,jT)]):=by kernel_rfl
     have D:z=([],0,[(sf,jT)]):=D.trans e;subst D;rfl) (l:=λ_=>aM λ_=>qf _ _)
def oZ:Op:=(0,0,0,0,0,false,0,0,0,0,0,0,0,false,0,0,false,0,0,())
def qg(l:List Op)(i:Int):Prop:=@bc Int _ 0 i/\@lB Int _ i l.length
def CG(g:Nat):Ct:=⟨6,⟨[sO 0 0,sI 1,sI 2,sI 3,(4,false,[.ptr 1 0]),fG g 5],[mh,cN]⟩,[⟨[sI 0],[mh,cN]⟩],λ(a,b,c,l,n,_)=>eD (fY l/\qg l a/\qg l b/\qg l c/\0<=n/\n<=900) (λy:Int×Int=>(y.1=a\/y.1=b\/y.1=c)/\n<=y.2/\y.2<=n+3) λy=>(y.1,l,y.2,())⟩
abbrev FH(g:Nat)(v:Int×List Op×Int×Unit):cw ((CG g)).out:=⟨0,v⟩
theorem SN(g:Nat)(e:dT g):ix Tryz.prog (AK g) 213 (CG g) (cE (CG g) 0):=by
 refine oE (∀(f h i:Int)(a:List Op)(e:Int)(Q:cw (CG g).out->Prop),(Tr.need (fY a/\qg a f/\qg a h/\qg a i/\0<=e/\e<=900) (Tr.all (Int×Int) (λy=>(y.1=f\/y.1=h\/y.1=i)/\e<=y.2/\y.2<=e+3) λy=>Tr.leaf (FH g (y.1,a,y.2,())))).sat Q->(fY a/\0<=f/\f<nI a/\0<=h/\h<nI a/\0<=e/\e<=1000)/\∀(b:Int×Int×Int),(b.1=f/\b.2.1=h\/b.1=h/\b.2.1=f)/\e<=b.2.2/\b.2.2<=e+1->(fY a/\0<=b.2.1/\b.2.1<nI a/\0<=i/\i<nI a/\0<=b.2.2/\b.2.2<=1000)/\∀(c:Int×Int×Int),(c.1=b.2.1/\c.2.1=i\/c.1=i/\c.2.1=b.2.1)/\b.2.2<=c.2.2/\c.2.2<=b.2.2+1->(fY a/\0<=b.1/\b.1<nI a/\0<=c.1/\c.1<nI a/\0<=c.2.2/\c.2.2<=1000)/\∀(d:Int×Int×Int),(d.1=b.1/\d.2.1=c.1\/d.1=c.1/\d.2.1=b.1)/\c.2.2<=d.2.2/\d.2.2<=c.2.2+1->Q (FH g (d.2.1,a,d.2.2,()))) ?_ (by rcases e with rfl|rfl<;>kernel_rfl);unfold nI;rintro a b c l n Q ⟨⟨h,⟨q,r⟩,⟨s,t⟩,⟨u,v⟩,w,x⟩,f⟩;have i:∀y m:Int,(y=a\/y=b\/y=c)->n<=m->m<=n+3->Q ⟨0,(y,l,m,())⟩:=λy m j o p=>f (y,m) ⟨j,o,p⟩
 (repeat' (first|assumption|apply cc|intro _))<;>first
  |assumption
  |omega
  |(apply i<;>omega)
theorem SO(g:Nat)(a:dT g):bS Tryz.prog 213 (CG g):=du (NV g a) (NW g) sF (by kernel_rfl) (SN g a)
def AP(g:Nat):bw:=(213,[(CG g)])::(AK g)
theorem N5(g:Nat)(a:dT g):aQ Tryz.prog (AP g):=aQ.add (NV g a) (by kernel_rfl) (bo (SO g a))
theorem N6(g:Nat):bg (AP g):=bg.add (NW g) (bo (λx=>aM λ_=>⟨(x.1,x.2.2.2.2.1), .inl rfl,bY _,by show @bc Int _ x.2.2.2.2.1 (x.2.2.2.2.1+3);omega⟩))
def CH(g:Nat):Ct:=⟨4,⟨[sO 0 0,sI 1,(2,false,[.ptr 1 0]),fG g 3],[mh,cN]⟩,[⟨[sI 0],[mh,cN]⟩],λ(a,l,n,_)=>eD (fY l/\qg l (a-1)/\qg l (a+1)/\0<=n/\n<=900) (λy:Int×Int=>@bc Int _ (a-1) y.1/\@bc Int _ y.1 (a+1)/\n<=y.2/\y.2<=n+3) λy=>(y.1,l,y.2,())⟩
abbrev FI(g:Nat)(v:Int×List Op×Int×Unit):cw ((CH g)).out:=⟨0,v⟩
theorem SQ(g:Nat)(b:dT g):ix Tryz.prog (AP g) 212 (CH g) (cE (CH g) 0):=by
 refine oE (∀(a:Int)(c:List Op)(d:Int)(Q:cw (CH g).out->Prop),let z:=qg c (a+1)/\0<=d/\d<=900;(Tr.need (fY c/\qg c (a-1)/\z) (Tr.all (Int×Int) (λy=>a-1<=y.1/\y.1<=a+1/\d<=y.2/\y.2<=d+3) λy=>Tr.leaf (FI g (y.1,c,y.2,())))).sat Q->ac (a-1)/\ac (a+1)/\(fY c/\qg c (a-1)/\qg c a/\z)/\∀(b:Int×Int),(b.1=a-1\/b.1=a\/b.1=a+1)/\d<=b.2/\b.2<=d+3->Q (FI g (b.1,c,b.2,()))) ?_ (by rcases b with rfl|rfl<;>kernel_rfl)
 conv=>zeta
 rintro a l n Q ⟨⟨h,⟨p,q⟩,⟨r,s⟩,t,u⟩,c⟩;have e:∀y m:Int,a-1<=y->y<=a+1->n<=m->m<=n+3->Q ⟨0,(y,l,m,())⟩:=λy m f i j o=>c (y,m) ⟨f,i,j,o⟩;have v:=h.1
 (repeat' (first|assumption|apply cc|intro _))<;>first
  |assumption
  |(unfold ac;omega)
  |omega
  |(apply e<;>omega)
theorem SR(g:Nat)(a:dT g):bS Tryz.prog 212 (CH g):=du (N5 g a) (N6 g) sF (by kernel_rfl) (SQ g a)
def AQ(g:Nat):bw:=(212,[(CH g)])::(AP g)
theorem N7(g:Nat)(a:dT g):aQ Tryz.prog (AQ g):=aQ.add (N5 g a) (by kernel_rfl) (bo (SR g a))
theorem N8(g:Nat):bg (AQ g):=bg.add (N6 g) (bo (λx=>aM λ_=>⟨(x.1,x.2.2.1),by show @bc Int _ (x.1-1) x.1;omega,by show @bc Int _ x.1 (x.1+1);omega,bY _,by show @bc Int _ x.2.2.1 (x.2.2.1+3);omega⟩))
def lQ(l:List Op)(a b:Int):Prop:=@bc Int _ 0 a/\@bc Int _ a b/\@bc Int _ b l.length
def CI(g:Nat):Ct:=⟨4,⟨[sO 0 0,sI 1,sI 2,fG g 3],[mh]⟩,[⟨[sI 0,sI 1],[mh]⟩],λ(a,b,l,_)=>eD (fY l/\lQ l a b/\@bc Int _ (a+13) b) (λy:Int×Int=>@bc Int _ a y.1/\@lB Int _ y.1 b) λy=>(y.1,y.2,l,())⟩
abbrev lr(g:Nat)(v:Int×Int×List Op×Unit):cw ((CI g)).out:=⟨0,v⟩
theorem SS(g:Nat)(c:dT g):ix Tryz.prog (AQ g) 191 (CI g) (cE (CI g) 0):=by
 refine oE (∀(a c:Int)(d:List Op)(Q:cw (CI g).out->Prop),let z:=(c-a).tdiv 4;let i:=a+IntKind.i64.wrap z*3;let j:=a+IntKind.i64.wrap z*2;let l:=a+IntKind.i64.wrap z*1;(Tr.need (fY d/\lQ d a c/\a+13<=c) (Tr.all (Int×Int) (λy=>a<=y.1/\y.1<c) λy=>Tr.leaf (lr g (y.1,y.2,d,())))).sat Q->ac (c-a)/\ac (IntKind.i64.wrap z*1)/\ac l/\ac (IntKind.i64.wrap z*2)/\ac j/\ac (IntKind.i64.wrap z*3)/\ac i/\Bd (8<=c-a) (Bd (50<=c-a) ((fY d/\qg d (a+IntKind.i64.wrap z*1-1)/\qg d (a+IntKind.i64.wrap z*1+1)/\(0:Int)<=0/\(0:Int)<=900)/\∀(b:Int×Int),a+IntKind.i64.wrap z*1-1<=b.1/\b.1<=a+IntKind.i64.wrap z*1+1/\0<=b.2/\b.2<=3->(fY d/\qg d (a+IntKind.i64.wrap z*2-1)/\qg d (a+IntKind.i64.wrap z*2+1)/\0<=b.2/\b.2<=900)/\∀(f:Int×Int),a+IntKind.i64.wrap z*2-1<=f.1/\f.1<=a+IntKind.i64.wrap z*2+1/\b.2<=f.2/\f.2<=b.2+3->(fY d/\qg d (a+IntKind.i64.wrap z*3-1)/\qg d (a+IntKind.i64.wrap z*3+1)/\0<=f.2/\f.2<=900)/\∀(h:Int×Int),a+IntKind.i64.wrap z*3-1<=h.1/\h.1<=a+IntKind.i64.wrap z*3+1/\f.2<=h.2/\h.2<=f.2+3->(fY d/\qg d b.1/\qg d f.1/\qg d h.1/\0<=h.2/\h.2<=900)/\∀(e:Int×Int),(e.1=b.1\/e.1=f.1\/e.1=h.1)/\h.2<=e.2/\e.2<=h.2+3->Br (e.2==0) (Q (lr g (e.1,1,d,()))) (Br (e.2==12) (Q (lr g (e.1,2,d,()))) (Q (lr g (e.1,0,d,()))))) ((fY d/\qg d l/\qg d j/\qg d i/\(0:Int)<=0/\(0:Int)<=900)/\∀(b:Int×Int),(b.1=a+IntKind.i64.wrap z*1\/b.1=a+IntKind.i64.wrap z*2\/b.1=a+IntKind.i64.wrap z*3)/\0<=b.2/\b.2<=3->Br (b.2==0) (Q (lr g (b.1,1,d,()))) (Br (b.2==12) (Q (lr g (b.1,2,d,()))) (Q (lr g (b.1,0,d,())))))) (Q (lr g (a+IntKind.i64.wrap z*2,1,d,())))) ?_ (by rcases c with rfl|rfl<;>kernel_rfl)
 conv=>zeta
 unfold Bd Br;rintro a b l Q ⟨⟨h,⟨o,p,r⟩,s⟩,e⟩;have i:∀y m:Int,a<=y->y<b->Q ⟨0,(y,m,l,())⟩:=λy m j n=>e (y,m) ⟨j,n⟩;have t:=h.1
 have f:IntKind.i64.wrap ((b-a).tdiv 4)=(b-a)/4:=by
  rw[Int.tdiv_eq_ediv_of_nonneg (by omega),dm];omega
 rw[f];generalize c:(b-a)/4=q;have u:4*q<=b-a/\b-a<4*q+4:=by omega
 clear c f e
 (repeat' (first|assumption|apply cc|intro _))<;>(try simp only[ai,aj]at*)<;>first
  |assumption
  |(unfold ac;omega)
  |omega
  |(apply i<;>omega)
theorem SU(g:Nat)(a:dT g):bS Tryz.prog 191 (CI g):=du (N7 g a) (N8 g) sF (by kernel_rfl) (SS g a)
def AR(g:Nat):bw:=(191,[(CI g)])::(AQ g)
theorem N9(g:Nat)(a:dT g):aQ Tryz.prog (AR g):=aQ.add (N7 g a) (by kernel_rfl) (bo (SU g a))
theorem Oa(g:Nat):bg (AR g):=bg.add (N8 g) (bo (λx=>aM λh=>⟨(x.1,0),bY _,Int.lt_of_lt_of_le (by show @lB Int _ x.1 (x.1+13);omega) h.2.2⟩))
def FJ(g:Nat):cg:=⟨[sO 0 0,sI 1,sI 2,fG g 3],[mh]⟩
def CJ(g:Nat):Ct:=⟨4,FJ g,SD,λ(a,b,l,_)=>eD (fY l/\lQ l a b) (dK l) λy=>(y,())⟩
def a2w(g:Nat):cg:=⟨[sO 0 0,sI 1,sI 2,fG g 3,sI 8,sI 9],[mh]⟩
def Kp(l0:List Op)(i j:Int)(l:List Op):Prop:=dK l0 l/\0<=i/\j<l0.length
def a2x(g:Nat)(x:(CJ g).inp.den):dB:=⟨[(2,bK (a2w g) (λ(_,_,i,j,l,_)=>Kp x.2.2.1 i j l) λ(_,_,i,j,_)=>(@bv Int Int Int _ j i).toNat)],[],[],[],0⟩
abbrev FK(g:Nat)(v:List Op×Unit):cw ((CJ g)).out:=⟨0,v⟩
theorem SV(g:Nat)(n:dT g):ix Tryz.prog (AR g) 192 (CJ g) (a2x g):=by
 refine oE (∀(f e:Int)(d:List Op)(Q:cw (CJ g).out->Prop),(Tr.need (fY d/\lQ d f e) (Tr.all (List Op) (dK d) λy=>Tr.leaf (FK g (y,())))).sat Q->ac (e-1)/\Is (Kp d f (e-1) d)/\∀(h i a b:Int)(c:List Op),let z:=c.set a.toNat (gD c b zO);Kp d a b c->Bd (a<b) (iN b c/\iN a c/\iN a c/\(0<=b/\b<(↑z.length:Int))/\ac (a+1)/\ac (b-1)/\Is (Kp d (a+1) (b-1) (z.set b.toNat (gD c a zO))/\lN (b-1-(a+1)) (b-a))) (Q (FK g (c,())))) ?_ (by rcases n with rfl|rfl<;>kernel_rfl)
 conv=>zeta
 unfold Bd gD iN lN zO;rintro a b l Q ⟨⟨h,o,s,t⟩,p⟩;have q:∀y,dK l y->Q ⟨0,(y,())⟩:=p;have u:=h.1;refine⟨by unfold ac;omega,⟨cx l,o,by omega⟩,?_⟩;rintro v w i j m ⟨f,x,A⟩;have e:=f.1;refine⟨λc=>?_,λ_=>q _ f⟩;have c:=ag c;have r:=dG (z:=oZ) f (i:=i.toNat) (j:=j.toNat) (by omega) (by omega);refine⟨by omega,by omega,by omega,by rw[cG];omega,by unfold ac;omega,by unfold ac;omega,⟨r,by omega,by omega⟩,by omega⟩
theorem SW(g:Nat)(a:dT g):bS Tryz.prog 192 (CJ g):=du (N9 g a) (Oa g) sF (by kernel_rfl) (SV g a)
def AS(g:Nat):bw:=(192,[(CJ g)])::(AR g)
theorem Ob(g:Nat)(a:dT g):aQ Tryz.prog (AS g):=aQ.add (N9 g a) (by kernel_rfl) (bo (SW g a))
theorem Oc(g:Nat):bg (AS g):=bg.add (Oa g) (bo (λx=>aM λ_=>⟨_,cx _⟩))
def FL(c e:Int)(l0:List Op)(a b i:Int)(l:List Op):Prop:=a=c/\b=e/\dK l0 l/\c<i
def FM(c f e:Int)(l0:List Op)(a b i j:Int)(l:List Op):Prop:=a=c/\b=f/\i=e/\dK l0 l/\c<=j/\j<=e
def CK(g:Nat):Ct:=⟨4,FJ g,SD,λ(a,b,l,_)=>eD (fY l/\lQ l a b) (dK l) λy=>(y,())⟩
def a2y(g:Nat)(x:(CK g).inp.den):dB:=⟨[(1,oG ⟨[sO 0 0,sI 1,sI 2,fG g 3,sI 8],[mh]⟩ (λ(a,b,i,l,_)=>FL x.1 x.2.1 x.2.2.1 a b i l) (λ(_,b,i,_)=>(@bv Int Int Int _ b i).toNat)
 λ(_,_,c,_)=>[(4,bK ⟨[sO 0 0,sI 1,sI 2,fG g 3,sI 8,sI 9],[mh]⟩ (λ(a,b,i,j,l,_)=>FM x.1 x.2.1 c x.2.2.1 a b i j l) (λ(a,_,_,j,_)=>(@bv Int Int Int _ j a).toNat))])],[],[],[],0⟩
abbrev FN(g:Nat)(v:List Op×Unit):cw ((CK g)).out:=⟨0,v⟩
theorem SX(g:Nat)(r:dT g):ix Tryz.prog (AS g) 188 (CK g) (a2y g):=by
 refine oE (∀(e i:Int)(f:List Op)(Q:cw (CK g).out->Prop),(Tr.need (fY f/\lQ f e i) (Tr.all (List Op) (dK f) λy=>Tr.leaf (FN g (y,())))).sat Q->ac (e+1)/\Is (FL e i f e i (e+1) f)/\∀(n k h:Int)(m:List Op),FL e i f n k h m->Bd (h<k) (Is (FM e i h f n k h h m)/\∀(c l j a:Int)(d:List Op),let o:=d.set a.toNat (gD d (a-1) zO);let z:=ac (j+1)/\Is (FL e i f c l (j+1) d/\lN (l-(j+1)) (k-h));FM e i h f c l j a d->Bd (c<a) (decide (c<a)=true/\decide (c<a)=true/\decide (c<a)=true/\iN a d/\decide (c<a)=true/\decide (c<a)=true/\decide (c<a)=true/\decide (c<a)=true/\ac (a-1)/\decide (c<a)=true/\iN (a-1) d/\decide (c<a)=true/\decide (c<a)=true/\(dd (gD d a zO)/\dd (gD d (a-1) zO))/\∀(b:Int),True->decide (c<a)=true/\decide (c<a)=true/\Bd (b<0) (ac (a-1)/\ac (a-1)/\iN (a-1) d/\iN a d/\iN a d/\(0<=a-1/\a-1<(↑o.length:Int))/\ac (a-1)/\Is (FM e i h f c l j (a-1) (o.set (a-1).toNat (gD d a zO))/\lN (a-1-c) (a-c))) z) (decide (c<a)=false/\decide (c<a)=false/\decide (c<a)=false/\decide (c<a)=false/\decide (c<a)=false/\decide (c<a)=false/\decide (c<a)=false/\decide (c<a)=false/\decide (c<a)=false/\decide (c<a)=false/\decide (c<a)=false/\decide (c<a)=false/\z)) (Q (FN g (m,())))) ?_ (by rcases r with rfl|rfl<;>kernel_rfl)
 conv=>zeta
 unfold Bd gD iN lN zO;rintro a b l Q ⟨⟨h,w,x,z⟩,o⟩;have s:∀y,dK l y->Q ⟨0,(y,())⟩:=o;have A:=h.1;refine⟨by unfold ac;omega,⟨⟨rfl,rfl,cx l,by omega⟩⟩,?_⟩;rintro B C i m ⟨rfl,rfl,f,D⟩;have e:=f.1;refine⟨λc=>?_,λ_=>s _ f⟩;have c:=ag c;refine⟨⟨⟨rfl,rfl,rfl,f,by omega,bY _⟩⟩,?_⟩;rintro t u E j p ⟨rfl,rfl,rfl,q,F,G⟩;have H:=q.1;have hB:∀n,n<p.length->dd (p.getD n oZ):=λn v=>(hJ h q).2 _ (aS v);clear o
 (repeat' (first|assumption|with_reducible apply cc|intro _))<;>(try simp only[ai,aj,aR,az,ne_eq,aP,aK,cd,bW]at*)<;>(try simp only[cG])<;>first
  |assumption
  |(unfold ac;omega)
  |omega
  |exact hB _ (by omega)
  |exact hB2 _ (by omega)
  |exact dG ‹dK _ _› (by omega) (by omega)
  |(exfalso;omega)
  |(refine⟨?_⟩;(try unfold FL);(try unfold FM);(repeat' with_reducible apply cc)<;>first|assumption|rfl|omega|exact .inl (by omega)|exact .inr (by omega)|(simp only[cG];omega)|exact dG ‹dK _ _› (by omega) (by omega))
theorem SY(g:Nat)(a:dT g):bS Tryz.prog 188 (CK g):=du (Ob g a) (Oc g) sF (by kernel_rfl) (SX g a)
def AT(g:Nat):bw:=(188,[(CK g)])::(AS g)
theorem Od(g:Nat)(a:dT g):aQ Tryz.prog (AT g):=aQ.add (Ob g a) (by kernel_rfl) (bo (SY g a))
theorem Oe(g:Nat):bg (AT g):=bg.add (Oc g) (bo (λx=>aM λ_=>⟨_,cx _⟩))
def CL(b h0 a:Int)(l0:List Op)(h f r:Int)(l:List Op):Prop:=h=h0/\f=a/\dK l0 l/\0<=r/\r<=1000000
def CM(g:Nat):Ct:=⟨5,⟨[sO 0 0,sI 1,sI 2,sI 3,fG g 4],[mh]⟩,SD,λ(r,h,f,l,_)=>eD (fY l/\0<=r/\r<=100000/\0<=h/\0<=f/\@bc Int _ (@eU Int Int Int _ f h) l.length) (dK l) λy=>(y,())⟩
def a2z(g:Nat)(x:(CM g).inp.den):dB:=⟨[(1,bK ⟨[sO 0 0,sI 2,sI 3,fG g 4,sI 10],[mh]⟩ (λ(h,f,r,l,_)=>CL x.1 x.2.1 x.2.2.1 x.2.2.2.1 h f r l) (λ(_,_,r,_)=>(2000000-r).toNat))],[],[],[],0⟩
abbrev FO(g:Nat)(v:List Op×Unit):cw ((CM g)).out:=⟨0,v⟩
theorem SZ(g:Nat)(e:dT g):ix Tryz.prog (AT g) 209 (CM g) (a2z g):=by
 refine oE (∀(h i j:Int)(f:List Op)(Q:cw (CM g).out->Prop),(Tr.need (fY f/\0<=h/\h<=100000/\0<=i/\0<=j/\j+i<=nI f) (Tr.all (List Op) (dK f) λy=>Tr.leaf (FO g (y,())))).sat Q->Is (CL h i j f i j h f)/\∀(e c a:Int)(d:List Op),let p:=c+(2*a+1)+1;let n:=FO g (d,());let o:=gD d (c+a) zO;let l:=2*a+1+1;let q:=d.set (c+a).toNat (gD d (c+l) zO);let m:=c+(2*a+1);let r:=dd o/\dd (gD d m zO);let s:=d.set (c+a).toNat (gD d m zO);let t:=ac (c+a)/\ac m/\ac m/\(iN m d)/\ac (c+a)/\iN (c+a) d/\iN (c+a) d/\(0<=c+(2*a+1)/\c+(2*a+1)<(↑s.length:Int))/\Is (CL h i j f e c (2*a+1) (s.set m.toNat o)/\lN (2000000-(2*a+1)) (2000000-a));let z:=2*a+1+1<e;CL h i j f e c a d->ac (2*a)/\ac (2*a+1)/\Bd (e<=2*a+1) (Q n) (ac l/\Br (decide z) (decide z=true/\decide z=true/\decide z=true/\decide z=true/\ac m/\decide z=true/\(iN m d)/\decide z=true/\decide z=true/\decide z=true/\decide z=true/\decide z=true/\ac m/\decide z=true/\ac p/\decide z=true/\(iN p d)/\decide z=true/\decide z=true/\(dd (gD d m zO)/\dd (gD d p zO))/\∀(b:Int),True->decide z=true/\decide z=true/\Bd (b<0) (ac l/\ac (c+a)/\iN (c+a) d/\ac (c+l)/\(iN (c+l) d)/\(dd o/\dd (gD d (c+l) zO))/\∀(b:Int),True->Br (!decide (b<0)) (Q n) (ac (c+a)/\ac (c+l)/\ac (c+l)/\(iN (c+l) d)/\ac (c+a)/\iN (c+a) d/\iN (c+a) d/\(0<=c+l/\c+l<(↑q.length:Int))/\Is (CL h i j f e c l (q.set (c+l).toNat o)/\lN (2000000-l) (2000000-a)))) (ac (c+a)/\iN (c+a) d/\ac m/\(iN m d)/\r/\∀(b:Int),True->Br (!decide (b<0)) (Q n) t)) (decide z=false/\decide z=false/\decide z=false/\decide z=false/\decide z=false/\decide z=false/\decide z=false/\decide z=false/\decide z=false/\decide z=false/\decide z=false/\decide z=false/\decide z=false/\decide z=false/\decide z=false/\decide z=false/\ac (c+a)/\iN (c+a) d/\ac m/\(iN m d)/\r/\∀(b:Int),True->Br (!decide (b<0)) (Q n) t))) ?_ (by rcases e with rfl|rfl<;>kernel_rfl)
 conv=>zeta
 unfold Bd Br gD iN lN nI zO;rintro r h f l Q ⟨⟨b,o,p,q,s,t⟩,c⟩;have i:∀y,dK l y->Q ⟨0,(y,())⟩:=c;have u:=b.1;refine⟨⟨⟨rfl,rfl,cx l,by omega,by omega⟩⟩,?_⟩;rintro v w x m ⟨rfl,rfl,a,z,A⟩;have B:=a.1;have hB:∀n,n<m.length->dd (m.getD n oZ):=λn j=>(hJ b a).2 _ (aS j);clear c
 (repeat' (first|assumption|with_reducible apply cc|intro _))<;>(try simp only[ai,aj,aR,az,ne_eq,aP,aK,cd,bW]at*)<;>(try simp only[cG])<;>first
  |assumption
  |(unfold ac;omega)
  |omega
  |exact hB _ (by omega)
  |exact hB2 _ (by omega)
  |exact dG ‹dK _ _› (by omega) (by omega)
  |exact i _ a
  |(exfalso;omega)
  |(refine⟨?_⟩;(try unfold CL);(repeat' with_reducible apply cc)<;>first|assumption|rfl|omega|exact .inl (by omega)|exact .inr (by omega)|(simp only[cG];omega)|exact dG ‹dK _ _› (by omega) (by omega))
theorem S0(g:Nat)(a:dT g):bS Tryz.prog 209 (CM g):=du (Od g a) (Oe g) sF (by kernel_rfl) (SZ g a)
def AU(g:Nat):bw:=(209,[(CM g)])::(AT g)
theorem Of(g:Nat)(a:dT g):aQ Tryz.prog (AU g):=aQ.add (Od g a) (by kernel_rfl) (bo (S0 g a))
theorem Og(g:Nat):bg (AU g):=bg.add (Oe g) (bo (λx=>aM λ_=>⟨_,cx _⟩))
def Kq(b c:Int)(l0:List Op)(a lo h i:Int)(l:List Op):Prop:=a=b/\lo=0/\h=c-b/\dK l0 l/\i<100000/\-2<i
def Kr(b c:Int)(l0:List Op)(a lo i:Int)(l:List Op):Prop:=a=b/\lo=0/\dK l0 l/\i<c-b/\-2<i
def CN(g:Nat):Ct:=⟨4,FJ g,SD,λ(a,b,l,_)=>eD (fY l/\lQ l a b) (dK l) λy=>(y,())⟩
def a20(g:Nat)(x:(CN g).inp.den):dB:=⟨[(4,bK ⟨[sO 0 0,fG g 3,sI 8,sI 9,sI 10,sI 11],[mh]⟩ (λ(a,b,h,i,l,_)=>Kq x.1 x.2.1 x.2.2.1 a b h i l) (λ(_,_,_,i,_)=>(i+1).toNat)),
 (8,bK ⟨[sO 0 0,fG g 3,sI 8,sI 9,sI 12],[mh]⟩ (λ(a,b,i,l,_)=>Kr x.1 x.2.1 x.2.2.1 a b i l) (λ(_,_,i,_)=>(i+1).toNat))],[],[],[],0⟩
abbrev FP(g:Nat)(v:List Op×Unit):cw ((CN g)).out:=⟨0,v⟩
theorem S3(g:Nat)(x:dT g):ix Tryz.prog (AU g) 189 (CN g) (a20 g):=by
 refine oE (∀(e f:Int)(h:List Op)(Q:cw (CN g).out->Prop),(Tr.need (fY h/\lQ h e f) (Tr.all (List Op) (dK h) λy=>Tr.leaf (FP g (y,())))).sat Q->ac (f-e)/\ac (f-e-1)/\Is (Kq e f h e 0 (f-e) (IntKind.i64.wrap ((f-e-1).tdiv 2)) h)/\∀(k n j i:Int)(l:List Op),Kq e f h k n j i l->Bd (0<=i) ((fY l/\0<=i/\i<=100000/\0<=j/\0<=k/\k+j<=nI l)/\∀(b:List Op),dK l b->ac (i-1)/\Is (Kq e f h k n j (i-1) b/\lN (i-1+1) (i+1))) (ac (j-1)/\Is (Kr e f h k n (j-1) l)/\∀(a m c:Int)(d:List Op),let o:=d.set a.toNat (gD d (a+c) zO);let z:=o.set (a+c).toNat (gD d a zO);Kr e f h a m c d->Bd (0<=c) (ac (a+c)/\ac (a+c)/\iN (a+c) d/\iN a d/\iN a d/\(0<=a+c/\a+c<(↑o.length:Int))/\(fY z/\0<=m/\m<=100000/\0<=c/\0<=a/\a+c<=(↑z.length:Int))/\∀(b:List Op),dK z b->ac (c-1)/\Is (Kr e f h a m (c-1) b/\lN (c-1+1) (c+1))) (Q (FP g (d,()))))) ?_ (by rcases x with rfl|rfl<;>kernel_rfl)
 conv=>zeta
 unfold Bd gD iN lN nI zO;rintro a b l Q ⟨⟨h,D,E,F⟩,s⟩;have A:∀y,dK l y->Q ⟨0,(y,())⟩:=s;have G:=h.1;clear s
 have o:IntKind.i64.wrap ((b-a-1).tdiv 2)=(b-a-1).tdiv 2:=by
  rw[dm];rcases Int.lt_or_le (b-a-1) 0 with q|q
  ·rw[show b-a-1= -1 by omega];rfl
  ·rw[Int.tdiv_eq_ediv_of_nonneg q];omega
 have p:(b-a-1).tdiv 2<100000/\-2<(b-a-1).tdiv 2:=by
  rcases Int.lt_or_le (b-a-1) 0 with q|q
  ·rw[show b-a-1= -1 by omega];decide
  ·rw[Int.tdiv_eq_ediv_of_nonneg q];omega
 refine⟨by unfold ac;omega,by unfold ac;omega,⟨⟨rfl,rfl,rfl,cx l,by rw[o];exact p.1,by rw[o];exact p.2⟩⟩,?_⟩;clear o p;rintro H J K i m ⟨rfl,rfl,rfl,f,t,u⟩;have e:=f.1;have v:=hJ h f;refine⟨λc=>?_,λc=>⟨by unfold ac;omega,⟨⟨rfl,rfl,f,by omega,by omega⟩⟩,?_⟩⟩
 ·have c:=ag c;refine⟨⟨v,by omega,by omega,by omega,by omega,by omega⟩,λy r=>⟨by unfold ac;omega,⟨⟨rfl,rfl,rfl,dP f r,by omega,by omega⟩,by omega⟩⟩⟩
 ·clear c v e f t u;rintro w B C L ⟨rfl,rfl,f,t,u⟩;have e:=f.1;refine⟨λc=>?_,λc=>A _ f⟩;have c:=ag c;have n:=dG (z:=oZ) (i:=w.toNat) (j:=(w+C).toNat) f (by omega) (by omega);refine⟨by unfold ac;omega,by unfold ac;omega,by omega,by omega,by omega,by rw[cG];omega,⟨hJ h n,by omega,by omega,by omega,by omega,by rw[cG,cG];omega⟩,λy r=>⟨by unfold ac;omega,⟨⟨rfl,rfl,dP n r,by omega,by omega⟩,by omega⟩⟩⟩
theorem S4(g:Nat)(a:dT g):bS Tryz.prog 189 (CN g):=du (Of g a) (Og g) sF (by kernel_rfl) (S3 g a)
def AV(g:Nat):bw:=(189,[(CN g)])::(AU g)
theorem Oh(g:Nat)(a:dT g):aQ Tryz.prog (AV g):=aQ.add (Of g a) (by kernel_rfl) (bo (S4 g a))
theorem Oi(g:Nat):bg (AV g):=bg.add (Og g) (bo (λx=>aM λ_=>⟨_,cx _⟩))
theorem Y8{l m:List Op}(h:fY l)(g:dK l m){i:Nat}(hi:i<l.length):dd (m.getD i oZ):=(hJ h g).2 _ (aS (by rw[g.1];exact hi))
def nV(c e:Int)(l0:List Op)(a b i j:Int)(l:List Op):Prop:=dK l0 l/\(a=c/\b=e/\c<i/\(i<=e\/i=c+1)/\0<=j/\j<=5)
def tX(c e:Int)(l0:List Op)(f a b i j:Int)(l:List Op):Prop:=dK l0 l/\(a=c/\b=e/\c<i/\(i<=e\/i=c+1)/\j=f)
def px(c e:Int)(l0:List Op)(f a b i j k:Int)(l:List Op):Prop:=dK l0 l/\(a=c/\b=e/\c<i/\i<e/\j=f/\k<i)
def gl(c e:Int)(l0:List Op)(f a b i j k:Int)(l:List Op):Prop:=dK l0 l/\(a=c/\b=e/\c<i/\i<e/\j=f/\i<k)
def CO(g:Nat):Ct:=⟨4,FJ g,[⟨[sL 0],[mh]⟩],λ(a,b,l,_)=>eD (fY l/\lQ l a b) (λy:Bool×List Op=>dK l y.2) λy=>(y.1,y.2,())⟩
def a21(g:Nat)(x:(CO g).inp.den):dB:=⟨[(3,oG ⟨[sO 0 0,sI 1,sI 2,fG g 3,sI 9,sI 10],[mh]⟩ (λ(a,b,i,j,l,_)=>nV x.1 x.2.1 x.2.2.1 a b i j l) (λ(_,_,_,j,_)=>(@bv Int Int Int _ 5 j).toNat)
 λ(_,_,_,c,_)=>[
  (5,bK ⟨[sO 0 0,sI 1,sI 2,fG g 3,sI 9,sI 10],[mh]⟩ (λ(a,b,i,j,l,_)=>tX x.1 x.2.1 x.2.2.1 c a b i j l) (λ(_,b,i,_)=>(@bv Int Int Int _ b i).toNat)),
  (14,bK ⟨[sO 0 0,sI 1,sI 2,fG g 3,sI 9,sI 10,sI 11],[mh]⟩ (λ(a,b,i,j,k,l,_)=>px x.1 x.2.1 x.2.2.1 c a b i j k l) (λ(_,_,_,_,k,_)=>k.toNat)),
  (20,bK ⟨[sO 0 0,sI 1,sI 2,fG g 3,sI 9,sI 10,sI 12],[mh]⟩ (λ(a,b,i,j,k,l,_)=>gl x.1 x.2.1 x.2.2.1 c a b i j k l) (λ(_,b,_,_,k,_)=>(@bv Int Int Int _ b k).toNat))])],[],[],[],0⟩
abbrev vi(g:Nat)(v:Bool×List Op×Unit):cw ((CO g)).out:=⟨0,v⟩
theorem S5(g:Nat)(j:dT g):ix Tryz.prog (AV g) 193 (CO g) (a21 g):=by
 refine oE (∀(i k:Int)(j:List Op)(Q:cw (CO g).out->Prop),(Tr.need (fY j/\lQ j i k) (Tr.all (Bool×List Op) (λy=>dK j y.2) λy=>Tr.leaf (vi g (y.1,y.2,())))).sat Q->ac (i+1)/\Is (nV i k j i k (i+1) 0 j)/\∀(U W X l:Int)(z:List Op),nV i k j U W X l z->Bd (l<5) (Is (tX i k j l U W X l z)/\∀(t h d w:Int)(p:List Op),let x:=p.set d.toNat (gD p (d-1) zO);let A:=(d==h)=true->Q (vi g (true,p,()));let B:=decide (h-t<50)=true->Q (vi g (false,p,()));let C:=0<=d-1/\d-1<(↑x.length:Int);let S:=x.set (d-1).toNat (gD p d zO);let D:=gl i k j l t h d w (d+1) S;let E:=px i k j l t h d w (d-1) S;let Y:=decide (2<=h-d)=false->ac (w+1)/\Is (nV i k j t h d (w+1) S/\lN (5-(w+1)) (5-l));tX i k j l t h d w p->Bd (d<h) (decide (d<h)=true/\decide (d<h)=true/\decide (d<h)=true/\iN d p/\decide (d<h)=true/\decide (d<h)=true/\decide (d<h)=true/\decide (d<h)=true/\ac (d-1)/\decide (d<h)=true/\iN (d-1) p/\decide (d<h)=true/\decide (d<h)=true/\(dd (gD p d zO)/\dd (gD p (d-1) zO))/\∀(b:Int),True->decide (d<h)=true/\decide (d<h)=true/\decide (d<h)=true/\Br (!decide (b<0)) (ac (d+1)/\Is (tX i k j l t h (d+1) w p/\lN (h-(d+1)) (h-d))) (A/\((d==h)=false->ac (h-t)/\B/\(decide (h-t<50)=false->ac (d-1)/\ac (d-1)/\iN (d-1) p/\iN d p/\iN d p/\C/\ac (d-t)/\Bd (2<=d-t) (ac (d-1)/\Is E/\∀(s m n o a:Int)(e:List Op),let F:=e.set a.toNat (gD e (a-1) zO);let G:=gl i k j l s m n o (n+1) e;let z3:=decide (2<=m-n)=false->ac (o+1)/\Is (nV i k j s m n (o+1) e/\lN (5-(o+1)) (5-l));px i k j l s m n o a e->Bd (1<=a) (iN a e/\ac (a-1)/\iN (a-1) e/\(dd (gD e a zO)/\dd (gD e (a-1) zO))/\∀(b:Int),True->Br (!decide (b<0)) (ac (m-n)/\(decide (2<=m-n)=true->ac (n+1)/\Is G/\∀(u q v r c:Int)(f:List Op),let H:=f.set c.toNat (gD f (c-1) zO);let z5:=ac (r+1)/\Is (nV i k j u q v (r+1) f/\lN (5-(r+1)) (5-l));gl i k j l u q v r c f->Bd (c<q) (iN c f/\ac (c-1)/\iN (c-1) f/\(dd (gD f c zO)/\dd (gD f (c-1) zO))/\∀(b:Int),True->Br (!decide (b<0)) z5 (ac (c-1)/\ac (c-1)/\iN (c-1) f/\iN c f/\iN c f/\(0<=c-1/\c-1<(↑H.length:Int))/\ac (c+1)/\Is (gl i k j l u q v r (c+1) (H.set (c-1).toNat (gD f c zO))/\lN (q-(c+1)) (q-c)))) z5)/\z3) (ac (a-1)/\ac (a-1)/\iN (a-1) e/\iN a e/\iN a e/\(0<=a-1/\a-1<(↑F.length:Int))/\ac (a-1)/\Is (px i k j l s m n o (a-1) (F.set (a-1).toNat (gD e a zO))/\(a-1).toNat<a.toNat))) (ac (m-n)/\(decide (2<=m-n)=true->ac (n+1)/\Is G/\∀(u q v r c:Int)(f:List Op),let J:=f.set c.toNat (gD f (c-1) zO);let z6:=ac (r+1)/\Is (nV i k j u q v (r+1) f/\lN (5-(r+1)) (5-l));gl i k j l u q v r c f->Bd (c<q) (iN c f/\ac (c-1)/\iN (c-1) f/\(dd (gD f c zO)/\dd (gD f (c-1) zO))/\∀(b:Int),True->Br (!decide (b<0)) z6 (ac (c-1)/\ac (c-1)/\iN (c-1) f/\iN c f/\iN c f/\(0<=c-1/\c-1<(↑J.length:Int))/\ac (c+1)/\Is (gl i k j l u q v r (c+1) (J.set (c-1).toNat (gD f c zO))/\lN (q-(c+1)) (q-c)))) z6)/\z3)) (ac (h-d)/\(decide (2<=h-d)=true->ac (d+1)/\Is D/\∀(s m n o a:Int)(e:List Op),let K:=e.set a.toNat (gD e (a-1) zO);let z7:=ac (o+1)/\Is (nV i k j s m n (o+1) e/\lN (5-(o+1)) (5-l));gl i k j l s m n o a e->Bd (a<m) (iN a e/\ac (a-1)/\iN (a-1) e/\(dd (gD e a zO)/\dd (gD e (a-1) zO))/\∀(b:Int),True->Br (!decide (b<0)) z7 (ac (a-1)/\ac (a-1)/\iN (a-1) e/\iN a e/\iN a e/\(0<=a-1/\a-1<(↑K.length:Int))/\ac (a+1)/\Is (gl i k j l s m n o (a+1) (K.set (a-1).toNat (gD e a zO))/\lN (m-(a+1)) (m-a)))) z7)/\Y))))) (decide (d<h)=false/\decide (d<h)=false/\decide (d<h)=false/\decide (d<h)=false/\decide (d<h)=false/\decide (d<h)=false/\decide (d<h)=false/\decide (d<h)=false/\decide (d<h)=false/\decide (d<h)=false/\decide (d<h)=false/\decide (d<h)=false/\decide (d<h)=false/\A/\((d==h)=false->ac (h-t)/\B/\(decide (h-t<50)=false->ac (d-1)/\ac (d-1)/\iN (d-1) p/\iN d p/\iN d p/\C/\ac (d-t)/\Bd (2<=d-t) (ac (d-1)/\Is E/\∀(s m n o a:Int)(e:List Op),let L:=e.set a.toNat (gD e (a-1) zO);let M:=gl i k j l s m n o (n+1) e;let z4:=decide (2<=m-n)=false->ac (o+1)/\Is (nV i k j s m n (o+1) e/\lN (5-(o+1)) (5-l));px i k j l s m n o a e->Bd (1<=a) (iN a e/\ac (a-1)/\iN (a-1) e/\(dd (gD e a zO)/\dd (gD e (a-1) zO))/\∀(b:Int),True->Br (!decide (b<0)) (ac (m-n)/\(decide (2<=m-n)=true->ac (n+1)/\Is M/\∀(u q v r c:Int)(f:List Op),let N:=f.set c.toNat (gD f (c-1) zO);let z8:=ac (r+1)/\Is (nV i k j u q v (r+1) f/\lN (5-(r+1)) (5-l));gl i k j l u q v r c f->Bd (c<q) (iN c f/\ac (c-1)/\iN (c-1) f/\(dd (gD f c zO)/\dd (gD f (c-1) zO))/\∀(b:Int),True->Br (!decide (b<0)) z8 (ac (c-1)/\ac (c-1)/\iN (c-1) f/\iN c f/\iN c f/\(0<=c-1/\c-1<(↑N.length:Int))/\ac (c+1)/\Is (gl i k j l u q v r (c+1) (N.set (c-1).toNat (gD f c zO))/\lN (q-(c+1)) (q-c)))) z8)/\z4) (ac (a-1)/\ac (a-1)/\iN (a-1) e/\iN a e/\iN a e/\(0<=a-1/\a-1<(↑L.length:Int))/\ac (a-1)/\Is (px i k j l s m n o (a-1) (L.set (a-1).toNat (gD e a zO))/\(a-1).toNat<a.toNat))) (ac (m-n)/\(decide (2<=m-n)=true->ac (n+1)/\Is M/\∀(u q v r c:Int)(f:List Op),let O:=f.set c.toNat (gD f (c-1) zO);let z9:=ac (r+1)/\Is (nV i k j u q v (r+1) f/\lN (5-(r+1)) (5-l));gl i k j l u q v r c f->Bd (c<q) (iN c f/\ac (c-1)/\iN (c-1) f/\(dd (gD f c zO)/\dd (gD f (c-1) zO))/\∀(b:Int),True->Br (!decide (b<0)) z9 (ac (c-1)/\ac (c-1)/\iN (c-1) f/\iN c f/\iN c f/\(0<=c-1/\c-1<(↑O.length:Int))/\ac (c+1)/\Is (gl i k j l u q v r (c+1) (O.set (c-1).toNat (gD f c zO))/\lN (q-(c+1)) (q-c)))) z9)/\z4)) (ac (h-d)/\(decide (2<=h-d)=true->ac (d+1)/\Is D/\∀(s m n o a:Int)(e:List Op),let P:=e.set a.toNat (gD e (a-1) zO);let R:=ac (o+1)/\Is (nV i k j s m n (o+1) e/\lN (5-(o+1)) (5-l));gl i k j l s m n o a e->Bd (a<m) (iN a e/\ac (a-1)/\iN (a-1) e/\(dd (gD e a zO)/\dd (gD e (a-1) zO))/\∀(b:Int),True->Br (!decide (b<0)) R (ac (a-1)/\ac (a-1)/\iN (a-1) e/\iN a e/\iN a e/\(0<=a-1/\a-1<(↑P.length:Int))/\ac (a+1)/\Is (gl i k j l s m n o (a+1) (P.set (a-1).toNat (gD e a zO))/\lN (m-(a+1)) (m-a)))) R)/\Y))))) (Q (vi g (false,z,())))) ?_ (by rcases j with rfl|rfl<;>kernel_rfl)
 conv=>zeta
 unfold Bd Br gD iN lN zO;rintro a b l Q ⟨⟨f,o,p,q⟩,i⟩;have m:∀(c:Bool)(y:List Op),dK l y->Q ⟨0,(c,y,())⟩:=λc y n=>i (c,y) n;have r:=f.1;have s:=cx l;clear i
 (repeat' (first|assumption|with_reducible apply cc|(intro h;unfold nV at h;obtain⟨g,k⟩:=h;have e:=g.1)|(intro h;unfold tX at h;obtain⟨g,k⟩:=h;have e:=g.1)|(intro h;unfold px at h;obtain⟨g,k⟩:=h;have e:=g.1)|(intro h;unfold gl at h;obtain⟨g,k⟩:=h;have e:=g.1)|intro _))<;>(try simp only[ai]at*)<;>(try simp only[aj]at*)<;>(try simp only[aR]at*)<;>(try simp only[az]at*)<;>(try simp only[ne_eq]at*)<;>(try simp only[aP]at*)<;>(try simp only[aK]at*)<;>(try simp only[cd]at*)<;>(try simp only[bW]at*)<;>(try simp only[cG])<;>first
  |assumption
  |(unfold ac;omega)
  |omega
  |exact Y8 f ‹dK _ _› (by omega)
  |exact dG ‹dK _ _› (by omega) (by omega)
  |exact m _ _ ‹dK _ _›
  |(exfalso;omega)
  |(refine⟨?_⟩;(try with_reducible apply cc)<;>(try first|unfold nV|unfold tX|unfold px|unfold gl)<;>(first|omega|(refine cc ?_ ?_<;>first|assumption|omega|exact dG ‹dK _ _› (by omega) (by omega)|exact cx _)))
theorem S6(g:Nat)(a:dT g):bS Tryz.prog 193 (CO g):=du (Oh g a) (Oi g) sF (by kernel_rfl) (S5 g a)
def tY(g:Nat):bw:=(193,[(CO g)])::(AV g)
theorem AW(g:Nat)(a:dT g):aQ Tryz.prog (tY g):=aQ.add (Oh g a) (by kernel_rfl) (bo (S6 g a))
theorem AX(g:Nat):bg (tY g):=bg.add (Oi g) (bo (λx=>aM λ_=>⟨(false,_),cx _⟩))
def S7(g:Nat):cg:=⟨[sO 0 0,sI 1,sI 2,sI 3,fG g 4],[mh]⟩
def a46(b c a i j:Int):Prop:=a=b/\b<i/\i<=c/\b<=j/\j<c
def eR(b c:Int)(l0:List Op)(a i j:Int)(l:List Op):Prop:=dK l0 l/\(a=b/\b<i/\i<=c/\b<=j/\j<c)
def dA(b c e f:Int)(l0:List Op)(a i j:Int)(l:List Op):Prop:=dK l0 l/\(a=b/\b<i/\i<=c/\b<=j/\j<c/\e<=i/\j<=f)
def CQ(g:Nat):Ct:=⟨5,S7 g,[⟨[sI 0],[mh]⟩],λ(a,b,p,l,_)=>eD (fY l/\lQ l a b/\@bc Int _ a p/\@lB Int _ p b) (λy:Int×List Op=>dK l y.2/\@lB Int _ a y.1/\@bc Int _ y.1 b) λy=>(y.1,y.2,())⟩
def S8(g:Nat):cg:=⟨[sO 0 0,sI 1,fG g 4,sI 11,sI 12],[mh]⟩
def a22(g:Nat)(x:(CQ g).inp.den):dB:=⟨[(3,oG (S8 g) (λ(a,i,j,l,_)=>eR x.1 x.2.1 x.2.2.2.1 a i j l) (λ(_,i,j,_)=>(@eU Int Int Int _ (@bv Int Int Int _ j i) 3).toNat)
 λ(_,b,c,_)=>[
  (3,bK (S8 g) (λ(a,i,j,l,_)=>dA x.1 x.2.1 b c x.2.2.2.1 a i j l) (λ(_,i,j,_)=>(@eU Int Int Int _ (@bv Int Int Int _ j i) 3).toNat)),
  (5,bK (S8 g) (λ(a,i,j,l,_)=>dA x.1 x.2.1 b c x.2.2.2.1 a i j l) (λ(_,i,j,_)=>(@eU Int Int Int _ (@bv Int Int Int _ j i) 3).toNat))])],[],[],[],0⟩
abbrev ze(g:Nat)(v:Int×List Op×Unit):cw ((CQ g)).out:=⟨0,v⟩
theorem S9(g:Nat)(m:dT g):ix Tryz.prog (tY g) 194 (CQ g) (a22 g):=by
 refine oE (∀(h j n:Int)(i:List Op)(Q:cw (CQ g).out->Prop),let s:=i.set h.toNat (gD i n zO);(Tr.need (fY i/\lQ i h j/\h<=n/\n<j) (Tr.all (Int×List Op) (λy=>dK i y.2/\h<y.1/\y.1<=j) λy=>Tr.leaf (ze g (y.1,y.2,())))).sat Q->iN n i/\iN h i/\iN h i/\(0<=n/\n<(↑s.length:Int))/\ac (h+1)/\ac (j-1)/\Is (eR h j i h (h+1) (j-1) (s.set n.toNat (gD i h zO)))/\∀(q k l:Int)(r:List Op),eR h j i q k l r->Is (dA h j k l i q k l r)/\∀(p e f:Int)(o:List Op),let t:=dA h j k l i p e f o;dA h j k l i p e f o->Bd (e<=f) (decide (e<=f)=true/\decide (e<=f)=true/\decide (e<=f)=true/\iN p o/\decide (e<=f)=true/\decide (e<=f)=true/\decide (e<=f)=true/\decide (e<=f)=true/\iN e o/\decide (e<=f)=true/\decide (e<=f)=true/\(dd (gD o p zO)/\dd (gD o e zO))/\∀(b:Int),True->decide (e<=f)=true/\decide (e<=f)=true/\decide (e<=f)=true/\Br (!decide (b<0)) (ac (e+1)/\Is (dA h j k l i p (e+1) f o/\lN (f-(e+1)+3) (f-e+3))) (Is t/\∀(m c a:Int)(d:List Op),let u:=d.set c.toNat (gD d a zO);let z:=Bd (a<c) (Q (ze g (c,d,()))) (iN a d/\iN c d/\iN c d/\(0<=a/\a<(↑u.length:Int))/\ac (c+1)/\ac (a-1)/\Is (eR h j i m (c+1) (a-1) (u.set a.toNat (gD d c zO))/\lN (a-1-(c+1)+3) (l-k+3)));dA h j k l i m c a d->Bd (c<=a) (decide (c<=a)=true/\decide (c<=a)=true/\decide (c<=a)=true/\iN m d/\decide (c<=a)=true/\decide (c<=a)=true/\decide (c<=a)=true/\decide (c<=a)=true/\iN a d/\decide (c<=a)=true/\decide (c<=a)=true/\(dd (gD d m zO)/\dd (gD d a zO))/\∀(b:Int),True->decide (c<=a)=true/\decide (c<=a)=true/\Bd (b<0) (ac (a-1)/\Is (dA h j k l i m c (a-1) d/\lN (a-1-c+3) (a-c+3))) z) (decide (c<=a)=false/\decide (c<=a)=false/\decide (c<=a)=false/\decide (c<=a)=false/\decide (c<=a)=false/\decide (c<=a)=false/\decide (c<=a)=false/\decide (c<=a)=false/\decide (c<=a)=false/\decide (c<=a)=false/\decide (c<=a)=false/\z))) (decide (e<=f)=false/\decide (e<=f)=false/\decide (e<=f)=false/\decide (e<=f)=false/\decide (e<=f)=false/\decide (e<=f)=false/\decide (e<=f)=false/\decide (e<=f)=false/\decide (e<=f)=false/\decide (e<=f)=false/\decide (e<=f)=false/\decide (e<=f)=false/\Is t/\∀(m c a:Int)(d:List Op),let v:=d.set c.toNat (gD d a zO);let w:=Bd (a<c) (Q (ze g (c,d,()))) (iN a d/\iN c d/\iN c d/\(0<=a/\a<(↑v.length:Int))/\ac (c+1)/\ac (a-1)/\Is (eR h j i m (c+1) (a-1) (v.set a.toNat (gD d c zO))/\lN (a-1-(c+1)+3) (l-k+3)));dA h j k l i m c a d->Bd (c<=a) (decide (c<=a)=true/\decide (c<=a)=true/\decide (c<=a)=true/\iN m d/\decide (c<=a)=true/\decide (c<=a)=true/\decide (c<=a)=true/\decide (c<=a)=true/\iN a d/\decide (c<=a)=true/\decide (c<=a)=true/\(dd (gD d m zO)/\dd (gD d a zO))/\∀(b:Int),True->decide (c<=a)=true/\decide (c<=a)=true/\Bd (b<0) (ac (a-1)/\Is (dA h j k l i m c (a-1) d/\lN (a-1-c+3) (a-c+3))) w) (decide (c<=a)=false/\decide (c<=a)=false/\decide (c<=a)=false/\decide (c<=a)=false/\decide (c<=a)=false/\decide (c<=a)=false/\decide (c<=a)=false/\decide (c<=a)=false/\decide (c<=a)=false/\decide (c<=a)=false/\decide (c<=a)=false/\w))) ?_ (by rcases m with rfl|rfl<;>kernel_rfl)
 conv=>zeta
 unfold Bd Br gD iN lN zO;rintro a b p l Q ⟨⟨f,⟨r,s,t⟩,u,v⟩,i⟩;have n:∀(c:Int)(y:List Op),dK l y->a<c->c<=b->Q ⟨0,(c,y,())⟩:=λc y o j q=>i (c,y) ⟨o,j,q⟩;have w:=f.1;have j:=cx l;clear i
 (repeat' (first|assumption|with_reducible apply cc|(intro h;unfold eR at h;obtain⟨g,k⟩:=h;have e:=g.1)|(intro h;unfold dA at h;obtain⟨g,k⟩:=h;have e:=g.1)|intro _))<;>(try simp only[ai]at*)<;>(try simp only[aj]at*)<;>(try simp only[aR]at*)<;>(try simp only[az]at*)<;>(try simp only[ne_eq]at*)<;>(try simp only[aP]at*)<;>(try simp only[aK]at*)<;>(try simp only[cd]at*)<;>(try simp only[bW]at*)<;>(try simp only[cG])<;>first
  |assumption
  |(unfold ac;omega)
  |omega
  |exact Y8 f ‹dK _ _› (by omega)
  |exact dG ‹dK _ _› (by omega) (by omega)
  |exact n _ _ ‹dK _ _› (by omega) (by omega)
  |(exfalso;omega)
  |(refine⟨?_⟩;(try with_reducible apply cc)<;>(try first|unfold eR|unfold dA)<;>(first|omega|(refine cc ?_ ?_<;>first|assumption|omega|exact dG ‹dK _ _› (by omega) (by omega)|exact cx _)))
theorem Ta(g:Nat)(a:dT g):bS Tryz.prog 194 (CQ g):=du (AW g a) (AX g) sF (by kernel_rfl) (S9 g a)
def AY(g:Nat):bw:=(194,[(CQ g)])::(tY g)
theorem Oj(g:Nat)(a:dT g):aQ Tryz.prog (AY g):=aQ.add (AW g a) (by kernel_rfl) (bo (Ta g a))
theorem Ol(g:Nat):bg (AY g):=bg.add (AX g) (bo (λx=>aM λh=>⟨(x.2.1,_),cx _,by have:=h.2.2;show @lB Int _ x.1 x.2.1;have a:@bc Int _ x.1 x.2.2.1:=this.1;have b:@lB Int _ x.2.2.1 x.2.1:=this.2;omega,bY _⟩))
def CR(g:Nat):Ct:=⟨5,S7 g,[⟨[sI 0,sL 1],[mh]⟩],λ(a,b,p,l,_)=>eD (fY l/\lQ l a b/\@bc Int _ a p/\@lB Int _ p b) (λy:Int×Bool×List Op=>dK l y.2.2/\@bc Int _ a y.1/\@lB Int _ y.1 b) λy=>(y.1,y.2.1,y.2.2,())⟩
def CS(g:Nat):cg:=⟨[sO 0 0,sI 1,fG g 4,sI 12,sI 13],[mh]⟩
def a23(g:Nat)(x:(CR g).inp.den):dB:=⟨[(3,bK (CS g) (λ(a,i,j,l,_)=>eR x.1 x.2.1 x.2.2.2.1 a i j l) (λ(_,i,j,_)=>(@eU Int Int Int _ (@bv Int Int Int _ j i) 3).toNat)),(5,bK (CS g) (λ(a,i,j,l,_)=>eR x.1 x.2.1 x.2.2.2.1 a i j l) (λ(_,i,j,_)=>(@eU Int Int Int _ (@bv Int Int Int _ j i) 3).toNat)),
 (13,oG (CS g) (λ(a,i,j,l,_)=>eR x.1 x.2.1 x.2.2.2.1 a i j l) (λ(_,i,j,_)=>(@eU Int Int Int _ (@bv Int Int Int _ j i) 3).toNat)
 λ(_,b,c,_)=>[
  (13,bK (CS g) (λ(a,i,j,l,_)=>dA x.1 x.2.1 b c x.2.2.2.1 a i j l) (λ(_,i,j,_)=>(@eU Int Int Int _ (@bv Int Int Int _ j i) 3).toNat)),
  (15,bK (CS g) (λ(a,i,j,l,_)=>dA x.1 x.2.1 b c x.2.2.2.1 a i j l) (λ(_,i,j,_)=>(@eU Int Int Int _ (@bv Int Int Int _ j i) 3).toNat))])],[(7,bK (CS g) (λ(a,i,j,l,_)=>eR x.1 x.2.1 x.2.2.2.1 a i j l) λ_=>0)],[],[],0⟩
abbrev mZ(g:Nat)(v:Int×Bool×List Op×Unit):cw ((CR g)).out:=⟨0,v⟩
theorem Tb(g:Nat)(n:dT g):ix Tryz.prog (AY g) 195 (CR g) (a23 g):=by
 refine oE (∀(k n v:Int)(l:List Op)(Q:cw (CR g).out->Prop),let M:=l.set k.toNat (gD l v zO);(Tr.need (fY l/\lQ l k n/\k<=v/\v<n) (Tr.all (Int×Bool×List Op) (λy=>dK l y.2.2/\k<=y.1/\y.1<n) λy=>Tr.leaf (mZ g (y.1,y.2.1,y.2.2,())))).sat Q->iN v l/\iN k l/\iN k l/\(0<=v/\v<(↑M.length:Int))/\ac (k+1)/\ac (n-1)/\Is (eR k n l k (k+1) (n-1) (M.set v.toNat (gD l k zO)))/\∀(z p s:Int)(w:List Op),eR k n l z p s w->Bd (p<=s) (decide (p<=s)=true/\decide (p<=s)=true/\decide (p<=s)=true/\iN p w/\decide (p<=s)=true/\decide (p<=s)=true/\decide (p<=s)=true/\decide (p<=s)=true/\iN z w/\decide (p<=s)=true/\decide (p<=s)=true/\(dd (gD w p zO)/\dd (gD w z zO))/\∀(b:Int),True->decide (p<=s)=true/\decide (p<=s)=true/\Bd (b<0) (ac (p+1)/\Is (eR k n l z (p+1) s w/\lN (s-(p+1)+3) (s-p+3))) ((Is (eR k n l z p s w)/\∀(o f e:Int)(m:List Op),eR k n l o f e m->Bd (f<=e) (decide (f<=e)=true/\decide (f<=e)=true/\decide (f<=e)=true/\iN e m/\decide (f<=e)=true/\decide (f<=e)=true/\decide (f<=e)=true/\decide (f<=e)=true/\iN o m/\decide (f<=e)=true/\decide (f<=e)=true/\(dd (gD m e zO)/\dd (gD m o zO))/\∀(b:Int),True->decide (f<=e)=true/\decide (f<=e)=true/\decide (f<=e)=true/\Br (!decide (b<0)) (ac (e-1)/\Is (eR k n l o f (e-1) m/\lN (e-1-f+3) (e-f+3))) (Is (eR k n l o f e m))) (decide (f<=e)=false/\decide (f<=e)=false/\decide (f<=e)=false/\decide (f<=e)=false/\decide (f<=e)=false/\decide (f<=e)=false/\decide (f<=e)=false/\decide (f<=e)=false/\decide (f<=e)=false/\decide (f<=e)=false/\decide (f<=e)=false/\decide (f<=e)=false/\Is (eR k n l o f e m)))/\∀(o f e:Int)(m:List Op),let N:=m.set f.toNat (gD m e zO);let O:=m.set e.toNat (gD m o zO);eR k n l o f e m->Bd (e<f) (iN o m/\iN e m/\iN e m/\(0<=o/\o<(↑O.length:Int))/\Q (mZ g (e,true,O.set o.toNat (gD m e zO),()))) (iN e m/\iN f m/\iN f m/\(0<=e/\e<(↑N.length:Int))/\ac (f+1)/\ac (e-1)/\Is (eR k n l o (f+1) (e-1) (N.set e.toNat (gD m f zO)))/\∀(x q r:Int)(A:List Op),eR k n l x q r A->Is (dA k n q r l x q r A)/\∀(u i j:Int)(t:List Op),let B:=dA k n q r l u i j t;dA k n q r l u i j t->Bd (i<=j) (decide (i<=j)=true/\decide (i<=j)=true/\decide (i<=j)=true/\iN i t/\decide (i<=j)=true/\decide (i<=j)=true/\decide (i<=j)=true/\decide (i<=j)=true/\iN u t/\decide (i<=j)=true/\decide (i<=j)=true/\(dd (gD t i zO)/\dd (gD t u zO))/\∀(b:Int),True->decide (i<=j)=true/\decide (i<=j)=true/\Bd (b<0) (ac (i+1)/\Is (dA k n q r l u (i+1) j t/\lN (j-(i+1)+3) (j-i+3))) (Is B/\∀(h c a:Int)(d:List Op),let P:=d.set c.toNat (gD d a zO);let R:=d.set a.toNat (gD d h zO);let S:=Bd (a<c) (iN h d/\iN a d/\iN a d/\(0<=h/\h<(↑R.length:Int))/\Q (mZ g (a,false,R.set h.toNat (gD d a zO),()))) (iN a d/\iN c d/\iN c d/\(0<=a/\a<(↑P.length:Int))/\ac (c+1)/\ac (a-1)/\Is (eR k n l h (c+1) (a-1) (P.set a.toNat (gD d c zO))/\lN (a-1-(c+1)+3) (r-q+3)));dA k n q r l h c a d->Bd (c<=a) (decide (c<=a)=true/\decide (c<=a)=true/\decide (c<=a)=true/\iN a d/\decide (c<=a)=true/\decide (c<=a)=true/\decide (c<=a)=true/\decide (c<=a)=true/\iN h d/\decide (c<=a)=true/\decide (c<=a)=true/\(dd (gD d a zO)/\dd (gD d h zO))/\∀(b:Int),True->decide (c<=a)=true/\decide (c<=a)=true/\decide (c<=a)=true/\Br (!decide (b<0)) (ac (a-1)/\Is (dA k n q r l h c (a-1) d/\lN (a-1-c+3) (a-c+3))) S) (decide (c<=a)=false/\decide (c<=a)=false/\decide (c<=a)=false/\decide (c<=a)=false/\decide (c<=a)=false/\decide (c<=a)=false/\decide (c<=a)=false/\decide (c<=a)=false/\decide (c<=a)=false/\decide (c<=a)=false/\decide (c<=a)=false/\decide (c<=a)=false/\S))) (decide (i<=j)=false/\decide (i<=j)=false/\decide (i<=j)=false/\decide (i<=j)=false/\decide (i<=j)=false/\decide (i<=j)=false/\decide (i<=j)=false/\decide (i<=j)=false/\decide (i<=j)=false/\decide (i<=j)=false/\decide (i<=j)=false/\Is B/\∀(h c a:Int)(d:List Op),let C:=d.set c.toNat (gD d a zO);let D:=d.set a.toNat (gD d h zO);let U:=Bd (a<c) (iN h d/\iN a d/\iN a d/\(0<=h/\h<(↑D.length:Int))/\Q (mZ g (a,false,D.set h.toNat (gD d a zO),()))) (iN a d/\iN c d/\iN c d/\(0<=a/\a<(↑C.length:Int))/\ac (c+1)/\ac (a-1)/\Is (eR k n l h (c+1) (a-1) (C.set a.toNat (gD d c zO))/\lN (a-1-(c+1)+3) (r-q+3)));dA k n q r l h c a d->Bd (c<=a) (decide (c<=a)=true/\decide (c<=a)=true/\decide (c<=a)=true/\iN a d/\decide (c<=a)=true/\decide (c<=a)=true/\decide (c<=a)=true/\decide (c<=a)=true/\iN h d/\decide (c<=a)=true/\decide (c<=a)=true/\(dd (gD d a zO)/\dd (gD d h zO))/\∀(b:Int),True->decide (c<=a)=true/\decide (c<=a)=true/\decide (c<=a)=true/\Br (!decide (b<0)) (ac (a-1)/\Is (dA k n q r l h c (a-1) d/\lN (a-1-c+3) (a-c+3))) U) (decide (c<=a)=false/\decide (c<=a)=false/\decide (c<=a)=false/\decide (c<=a)=false/\decide (c<=a)=false/\decide (c<=a)=false/\decide (c<=a)=false/\decide (c<=a)=false/\decide (c<=a)=false/\decide (c<=a)=false/\decide (c<=a)=false/\decide (c<=a)=false/\U))))) (decide (p<=s)=false/\decide (p<=s)=false/\decide (p<=s)=false/\decide (p<=s)=false/\decide (p<=s)=false/\decide (p<=s)=false/\decide (p<=s)=false/\decide (p<=s)=false/\decide (p<=s)=false/\decide (p<=s)=false/\decide (p<=s)=false/\(Is (eR k n l z p s w)/\∀(o f e:Int)(m:List Op),eR k n l o f e m->Bd (f<=e) (decide (f<=e)=true/\decide (f<=e)=true/\decide (f<=e)=true/\iN e m/\decide (f<=e)=true/\decide (f<=e)=true/\decide (f<=e)=true/\decide (f<=e)=true/\iN o m/\decide (f<=e)=true/\decide (f<=e)=true/\(dd (gD m e zO)/\dd (gD m o zO))/\∀(b:Int),True->decide (f<=e)=true/\decide (f<=e)=true/\decide (f<=e)=true/\Br (!decide (b<0)) (ac (e-1)/\Is (eR k n l o f (e-1) m/\lN (e-1-f+3) (e-f+3))) (Is (eR k n l o f e m))) (decide (f<=e)=false/\decide (f<=e)=false/\decide (f<=e)=false/\decide (f<=e)=false/\decide (f<=e)=false/\decide (f<=e)=false/\decide (f<=e)=false/\decide (f<=e)=false/\decide (f<=e)=false/\decide (f<=e)=false/\decide (f<=e)=false/\decide (f<=e)=false/\Is (eR k n l o f e m)))/\∀(o f e:Int)(m:List Op),let E:=m.set f.toNat (gD m e zO);let F:=m.set e.toNat (gD m o zO);eR k n l o f e m->Bd (e<f) (iN o m/\iN e m/\iN e m/\(0<=o/\o<(↑F.length:Int))/\Q (mZ g (e,true,F.set o.toNat (gD m e zO),()))) (iN e m/\iN f m/\iN f m/\(0<=e/\e<(↑E.length:Int))/\ac (f+1)/\ac (e-1)/\Is (eR k n l o (f+1) (e-1) (E.set e.toNat (gD m f zO)))/\∀(x q r:Int)(A:List Op),eR k n l x q r A->Is (dA k n q r l x q r A)/\∀(u i j:Int)(t:List Op),let G:=dA k n q r l u i j t;dA k n q r l u i j t->Bd (i<=j) (decide (i<=j)=true/\decide (i<=j)=true/\decide (i<=j)=true/\iN i t/\decide (i<=j)=true/\decide (i<=j)=true/\decide (i<=j)=true/\decide (i<=j)=true/\iN u t/\decide (i<=j)=true/\decide (i<=j)=true/\(dd (gD t i zO)/\dd (gD t u zO))/\∀(b:Int),True->decide (i<=j)=true/\decide (i<=j)=true/\Bd (b<0) (ac (i+1)/\Is (dA k n q r l u (i+1) j t/\lN (j-(i+1)+3) (j-i+3))) (Is G/\∀(h c a:Int)(d:List Op),let H:=d.set c.toNat (gD d a zO);let J:=d.set a.toNat (gD d h zO);let W:=Bd (a<c) (iN h d/\iN a d/\iN a d/\(0<=h/\h<(↑J.length:Int))/\Q (mZ g (a,false,J.set h.toNat (gD d a zO),()))) (iN a d/\iN c d/\iN c d/\(0<=a/\a<(↑H.length:Int))/\ac (c+1)/\ac (a-1)/\Is (eR k n l h (c+1) (a-1) (H.set a.toNat (gD d c zO))/\lN (a-1-(c+1)+3) (r-q+3)));dA k n q r l h c a d->Bd (c<=a) (decide (c<=a)=true/\decide (c<=a)=true/\decide (c<=a)=true/\iN a d/\decide (c<=a)=true/\decide (c<=a)=true/\decide (c<=a)=true/\decide (c<=a)=true/\iN h d/\decide (c<=a)=true/\decide (c<=a)=true/\(dd (gD d a zO)/\dd (gD d h zO))/\∀(b:Int),True->decide (c<=a)=true/\decide (c<=a)=true/\decide (c<=a)=true/\Br (!decide (b<0)) (ac (a-1)/\Is (dA k n q r l h c (a-1) d/\lN (a-1-c+3) (a-c+3))) W) (decide (c<=a)=false/\decide (c<=a)=false/\decide (c<=a)=false/\decide (c<=a)=false/\decide (c<=a)=false/\decide (c<=a)=false/\decide (c<=a)=false/\decide (c<=a)=false/\decide (c<=a)=false/\decide (c<=a)=false/\decide (c<=a)=false/\decide (c<=a)=false/\W))) (decide (i<=j)=false/\decide (i<=j)=false/\decide (i<=j)=false/\decide (i<=j)=false/\decide (i<=j)=false/\decide (i<=j)=false/\decide (i<=j)=false/\decide (i<=j)=false/\decide (i<=j)=false/\decide (i<=j)=false/\decide (i<=j)=false/\Is G/\∀(h c a:Int)(d:List Op),let K:=d.set c.toNat (gD d a zO);let L:=d.set a.toNat (gD d h zO);let X:=Bd (a<c) (iN h d/\iN a d/\iN a d/\(0<=h/\h<(↑L.length:Int))/\Q (mZ g (a,false,L.set h.toNat (gD d a zO),()))) (iN a d/\iN c d/\iN c d/\(0<=a/\a<(↑K.length:Int))/\ac (c+1)/\ac (a-1)/\Is (eR k n l h (c+1) (a-1) (K.set a.toNat (gD d c zO))/\lN (a-1-(c+1)+3) (r-q+3)));dA k n q r l h c a d->Bd (c<=a) (decide (c<=a)=true/\decide (c<=a)=true/\decide (c<=a)=true/\iN a d/\decide (c<=a)=true/\decide (c<=a)=true/\decide (c<=a)=true/\decide (c<=a)=true/\iN h d/\decide (c<=a)=true/\decide (c<=a)=true/\(dd (gD d a zO)/\dd (gD d h zO))/\∀(b:Int),True->decide (c<=a)=true/\decide (c<=a)=true/\decide (c<=a)=true/\Br (!decide (b<0)) (ac (a-1)/\Is (dA k n q r l h c (a-1) d/\lN (a-1-c+3) (a-c+3))) X) (decide (c<=a)=false/\decide (c<=a)=false/\decide (c<=a)=false/\decide (c<=a)=false/\decide (c<=a)=false/\decide (c<=a)=false/\decide (c<=a)=false/\decide (c<=a)=false/\decide (c<=a)=false/\decide (c<=a)=false/\decide (c<=a)=false/\decide (c<=a)=false/\X))))) ?_ (by rcases n with rfl|rfl<;>kernel_rfl)
 conv=>zeta
 unfold Bd Br gD iN lN zO;rintro a b p l Q ⟨⟨f,⟨r,s,t⟩,u,v⟩,i⟩;have j:∀(c:Int)(d:Bool)(y:List Op),dK l y->a<=c->c<b->Q ⟨0,(c,d,y,())⟩:=λc d y o m q=>i (c,d,y) ⟨o,m,q⟩;have w:=f.1;have m:=cx l;clear i
 (repeat' (first|assumption|with_reducible apply cc|(intro h;unfold eR at h;obtain⟨g,k⟩:=h;have e:=g.1)|(intro h;unfold dA at h;obtain⟨g,k⟩:=h;have e:=g.1)|intro _))<;>(try simp only[ai]at*)<;>(try simp only[aj]at*)<;>(try simp only[aR]at*)<;>(try simp only[az]at*)<;>(try simp only[ne_eq]at*)<;>(try simp only[aP]at*)<;>(try simp only[aK]at*)<;>(try simp only[cd]at*)<;>(try simp only[bW]at*)<;>(try simp only[cG])<;>first
  |assumption
  |(unfold ac;omega)
  |omega
  |exact Y8 f ‹dK _ _› (by omega)
  |exact dG ‹dK _ _› (by omega) (by omega)
  |exact j _ _ _ ‹dK _ _› (by omega) (by omega)
  |exact j _ _ _ (dG ‹dK _ _› (by omega) (by omega)) (by omega) (by omega)
  |(exfalso;omega)
  |(refine⟨?_⟩;(try with_reducible apply cc)<;>(try first|unfold eR|unfold dA)<;>(first|omega|(refine cc ?_ ?_<;>first|assumption|omega|exact dG ‹dK _ _› (by omega) (by omega)|exact cx _)))
theorem Tc(g:Nat)(a:dT g):bS Tryz.prog 195 (CR g):=du (Oj g a) (Ol g) sF (by kernel_rfl) (Tb g a)
def FQ(g:Nat):bw:=(195,[(CR g)])::(AY g)
theorem Y9(g:Nat)(a:dT g):aQ Tryz.prog (FQ g):=aQ.add (Oj g a) (by kernel_rfl) (bo (Tc g a))
theorem Za(g:Nat):bg (FQ g):=bg.add (Ol g) (bo (λx=>aM λh=>⟨(x.1,false,_),cx _,bY _,by have:=h.2.2;show @lB Int _ x.1 x.2.1;have a:@bc Int _ x.1 x.2.2.1:=this.1;have b:@lB Int _ x.2.2.1 x.2.1:=this.2;omega⟩))
theorem wq{n:Int}(h0:0<=n)(a:n<=1000000):IntKind.i64.wrap (n.tdiv 4)=n/4:=by
 rw[Int.tdiv_eq_ediv_of_nonneg h0,dm];omega
theorem a24{x md:BitVec 64}{n:Int}(a:(md.toNat:Int)<=2*n)(b:1<=md.toNat)(c:n<=1000000):0<=IntKind.i64.wrap ((x&&&md-1).toNat:Int)/\IntKind.i64.wrap ((x&&&md-1).toNat:Int)<2*n:=by
 have e:(x&&&md-1).toNat<=(md-1).toNat:=by rw[BitVec.toNat_and];exact Nat.and_le_right
 have f:(md-1).toNat=md.toNat-1:=by
  rw[BitVec.toNat_sub];have:(1:BitVec 64).toNat=1:=rfl;have:=md.isLt;omega
 rw[dm];omega
def FR(b c:Int)(l0:List Op)(a n:Int)(md:BitVec 64)(i:Int)(l:List Op):Prop:=a=b/\n=c-b/\8<=n/\dK l0 l/\(md.toNat:Int)<=2*n/\1<=md.toNat/\b<i
def zf(g:Nat):Ct:=⟨4,FJ g,SD,λ(a,b,l,_)=>eD (fY l/\lQ l a b) (dK l) λy=>(y,())⟩
def a25(g:Nat)(x:(zf g).inp.den):dB:=⟨[(5,bK ⟨[sO 0 0,sI 1,sI 8,(9,false,[.ptr 1 0]),(10,false,[.d .u64]),sI 11],[mh,some (.cells [.d .u64])]⟩ (λ(a,n,b,i,l,_)=>FR x.1 x.2.1 x.2.2.1 a n b i l) (λ(a,n,_,i,_)=>(@bv Int Int Int _ (@eU Int Int Int _ a n) i+5).toNat))],[],[],[],0⟩
abbrev zg(g:Nat)(v:List Op×Unit):cw ((zf g)).out:=⟨0,v⟩
theorem Td(g:Nat)(D:dT g):ix Tryz.prog (tY g) 190 (zf g) (a25 g):=by
 refine oE (∀(f i:Int)(j:List Op)(Q:cw (zf g).out->Prop),let n:=(i-f).tdiv 4;let o:=f+IntKind.i64.wrap n*2-1;(Tr.need (fY j/\lQ j f i) (Tr.all (List Op) (dK j) λy=>Tr.leaf (zg g (y,())))).sat Q->ac (i-f)/\Bd (8<=i-f) ((1<=i-f/\i-f<=1000000)/\∀(b:BitVec 64),(↑b.toNat:Int)<=2*(i-f)/\1<=b.toNat->ac (IntKind.i64.wrap n*2)/\ac (f+IntKind.i64.wrap n*2)/\ac o/\Is (FR f i j f (i-f) b o j)/\∀(a d:Int)(e:BitVec 64)(c:Int)(h:List Op)(k:BitVec 64),let r:=c<=a+IntKind.i64.wrap (d.tdiv 4)*2+1;FR f i j a d e c h->ac (IntKind.i64.wrap (d.tdiv 4)*2)/\ac (a+IntKind.i64.wrap (d.tdiv 4)*2)/\ac (a+IntKind.i64.wrap (d.tdiv 4)*2+1)/\Br (decide r) (True/\∀(b:BitVec 64×BitVec 64),let l:=b.1&&&e-ae 64 1;let s:=d<=IntKind.i64.wrap (↑l.toNat:Int);let m:=a+IntKind.i64.wrap (↑l.toNat:Int);let p:=h.set c.toNat (gD h m zO);let z:=IntKind.i64.wrap (↑l.toNat:Int)-d;let q:=h.set c.toNat (gD h (a+z) zO);True->Br (decide s) (ac z/\ac (a+z)/\ac (a+z)/\(0<=a+z/\a+z<nI h)/\iN c h/\iN c h/\(0<=a+z/\a+z<(↑q.length:Int))/\ac (c+1)/\Is (FR f i j a d e (c+1) (q.set (a+z).toNat (gD h c zO))/\lN (a+d-(c+1)+5) (a+d-c+5))) (ac m/\ac m/\(0<=a+IntKind.i64.wrap (↑l.toNat:Int)/\a+IntKind.i64.wrap (↑l.toNat:Int)<nI h)/\iN c h/\iN c h/\(0<=a+IntKind.i64.wrap (↑l.toNat:Int)/\a+IntKind.i64.wrap (↑l.toNat:Int)<(↑p.length:Int))/\ac (c+1)/\Is (FR f i j a d e (c+1) (p.set m.toNat (gD h c zO))/\lN (a+d-(c+1)+5) (a+d-c+5)))) (Q (zg g (h,())))) (Q (zg g (j,())))) ?_ (by rcases D with rfl|rfl<;>kernel_rfl)
 conv=>zeta
 unfold Bd Br gD iN lN nI zO;rintro a b l Q ⟨⟨E,G,H,J⟩,u⟩;have w:∀y,dK l y->Q ⟨0,(y,())⟩:=u;have K:=E.1;clear u;refine⟨by unfold ac;omega,λA=>?_,λ_=>w _ (cx _)⟩;have A:=ag A;refine⟨⟨by omega,by omega⟩,λL F=>?_⟩;obtain⟨h,o⟩:=F;rw[wq (n:=b-a) (by omega) (by omega)];refine⟨by unfold ac;omega,by unfold ac;omega,by unfold ac;omega,⟨⟨rfl,rfl,by omega,cx l,h,o,by omega⟩⟩,?_⟩;clear h o;rintro B n f i m M ⟨rfl,C,q,r,p,s,N⟩;have q:8<=n:=q;have p:(f.toNat:Int)<=2*n:=p;rw[wq (n:=n) (by omega) (by omega)];have e:=r.1;refine⟨by unfold ac;omega,by unfold ac;omega,by unfold ac;omega,λc=>?_,λ_=>w _ r⟩;have c:=ag c;refine⟨trivial,λz _=>?_⟩;have O:=a24 (x:=z.1) (md:=f) (n:=n) p s (by omega);generalize IntKind.i64.wrap ((z.1&&&f-1).toNat:Int)=v at*;refine⟨λd=>?_,λd=>?_⟩
 ·have d:=ag d;have t:=dG (z:=oZ) (i:=i.toNat) (j:=(B+(v-n)).toNat) r (by omega) (by omega);exact⟨by unfold ac;omega,by unfold ac;omega,by unfold ac;omega,by omega,by omega,by omega,by rw[cG];omega,by unfold ac;omega,⟨⟨rfl,C,q,t,p,s,by omega⟩,by omega⟩⟩
 ·have d:=an d;have t:=dG (z:=oZ) (i:=i.toNat) (j:=(B+v).toNat) r (by omega) (by omega);exact⟨by unfold ac;omega,by unfold ac;omega,by omega,by omega,by omega,by rw[cG];omega,by unfold ac;omega,⟨⟨rfl,C,q,t,p,s,by omega⟩,by omega⟩⟩
theorem FT(g:Nat)(a:dT g):bS Tryz.prog 190 (zf g):=du (AW g a) (AX g) sF (by kernel_rfl) (Td g a)
def Om(g:Nat):bw:=(190,[(zf g)])::(tY g)
theorem a4t(g:Nat)(a:dT g):aQ Tryz.prog (Om g):=aQ.add (AW g a) (by kernel_rfl) (bo (FT g a))
theorem a4u(g:Nat):bg (Om g):=bg.add (AX g) (bo (λx=>aM λ_=>⟨_,cx _⟩))
def AZ(g:Nat):bw:=(190,[zf g])::FQ g
theorem On(g:Nat)(a:dT g):aQ Tryz.prog (AZ g):=aQ.add (Y9 g a) (by kernel_rfl) (bo (FT g a))
theorem Oo(g:Nat):bg (AZ g):=bg.add (Za g) (bo (λ_=>aM λ_=>⟨_,cx _⟩))
def zh(g n:Nat):Ct:=⟨5,S7 g,SD,λ(a,b,m,l,_)=>eD (fY l/\lQ l a b/\@bc Int _ 0 m/\@bc Int _ m 64/\@lB Int _ (@bv Int Int Int _ b a) n) (dK l) λy=>(y,())⟩
def sT(c e:Int)(l0:List Op)(a b m:Int)(l:List Op):Prop:=dK l0 l/\(0<=a/\a<=b/\b<=l0.length/\b-a<=e-c/\0<=m/\m<=64)
theorem abl{l m:List Op}(h:dK l m){a b:Int}(c:0<=a)(e:a<=b)(f:b<=l.length):lQ m a b:=⟨c,e,by rw[h.1];exact f⟩
def Ks(l0:List Op)(c e a b m n:Int)(l:List Op):Prop:=dK l0 l/\(a=c/\b=e/\0<=m/\m<=64/\n=e-c/\12<e-c)
def xu(l0:List Op)(c e a b m n p:Int)(l:List Op):Prop:=dK l0 l/\(a=c/\b=e/\0<=m/\m<=64/\n=e-c/\12<e-c/\c<=p/\p<e)
def a26(g n:Nat)(x:(zh g n).inp.den):dB:=⟨[(2,oG ⟨[sO 0 0,sI 1,sI 2,sI 3,fG g 4,sL 10,sL 11],[mh]⟩ (λ(a,b,m,_,_,l,_)=>sT x.1 x.2.1 x.2.2.2.1 a b m l) (λ(a,b,_)=>(@bv Int Int Int _ b a).toNat)
 λ(c,e,_)=>[(5010,bK ⟨[sO 0 0,sI 1,sI 2,sI 3,fG g 4,sL 10,sL 11,sI 12],[mh]⟩ (λ(a,b,m,_,_,n,l,_)=>Ks x.2.2.2.1 c e a b m n l) λ_=>0),
  (5015,bK ⟨[sO 0 0,sI 1,sI 2,sI 3,fG g 4,sL 10,sL 11,sI 12,sI 13,sI 14],[mh]⟩ (λ(a,b,m,_,_,n,p,_,l,_)=>xu x.2.2.2.1 c e a b m n p l) λ_=>0),
  (5017,bK ⟨[sO 0 0,sI 1,sI 2,sI 3,fG g 4,sL 10,sL 11,sI 12,sI 13],[mh]⟩ (λ(a,b,m,_,_,n,p,l,_)=>xu x.2.2.2.1 c e a b m n p l) λ_=>0)])],[],[],[],0⟩
abbrev zi(g:Nat)(n:Nat)(v:List Op×Unit):cw ((zh g (n+1))).out:=⟨0,v⟩
theorem Te(g:Nat)(hg:dT g)(n:Nat):ix Tryz.prog ((172,[zh g n])::AZ g) 172 (zh g (n+1)) (a26 g (n+1)):=by
 refine oE (∀(l m x:Int)(f:List Op)(Q:cw (zh g (n+1)).out->Prop),(Tr.need (fY f/\lQ f l m/\0<=x/\x<=64/\m-l<(↑(n+1):Int)) (Tr.all (List Op) (dK f) λy=>Tr.leaf (zi g n (y,())))).sat Q->Is (sT l m f l m x f)/\∀(c d t:Int)(G M:Bool)(k:List Op),let F:=(fY k/\lQ k c d)/\∀(b:List Op),dK k b->Q (zi g n (b,()));sT l m f c d t k->ac (d-c)/\Bd (d-c<=12) F (Br (t==0) F ((Br (!G) ((fY k/\lQ k c d)/\∀(b:List Op),dK k b->ac (t-1)/\Is (Ks f c d c d (t-1) (d-c) b)) (Is (Ks f c d c d t (d-c) k)))/\∀(o p A:Int)(N O:Bool)(B:Int)(r:List Op),Ks f c d o p A B r->(fY r/\lQ r o p/\o+13<=p)/\∀(b:Int×Int),o<=b.1/\b.1<p->(Br (b.2==2) ((fY r/\lQ r o p)/\∀(h:List Op),dK r h->ac (p-1)/\ac (b.1-o)/\ac (p-1-(b.1-o))/\Is (xu f c d o p A B (p-1-(b.1-o)) h)) (Is (xu f c d o p A B b.1 r)))/\∀(u v w:Int)(H J:Bool)(z C K:Int)(s:List Op),let D:=xu f c d u v w z C s;xu f c d u v w z C s->(Br H (Br J (Br (K==1) ((fY s/\lQ s u v)/\∀(b:Bool×List Op),dK s b.2->Br (b.1) (Q (zi g n (b.2,()))) (Is (xu f c d u v w z C b.2))) (Is D)) (Is D)) (Is D))/\∀(a e i:Int)(P R:Bool)(L q:Int)(j:List Op),let E:=fY j/\lQ j a e/\a<=q/\q<e;xu f c d a e i L q j->Bd (0<a) (decide (0<a)=true/\decide (0<a)=true/\decide (0<a)=true/\ac (a-1)/\decide (0<a)=true/\iN (a-1) j/\decide (0<a)=true/\decide (0<a)=true/\decide (0<a)=true/\decide (0<a)=true/\iN q j/\decide (0<a)=true/\decide (0<a)=true/\(dd (gD j (a-1) zO)/\dd (gD j q zO))/\∀(b:Int),True->decide (0<a)=true/\decide (0<a)=true/\decide (0<a)=true/\Br (!decide (b<0)) (E/\∀(b:Int×List Op),dK j b.2/\a<b.1/\b.1<=e->Is (sT l m f b.1 e i b.2/\lN (e-b.1) (d-c))) (E/\∀(b:Int×Bool×List Op),dK j b.2.2/\a<=b.1/\b.1<e->ac (b.1-a)/\ac (e-b.1)/\Bd (b.1-a<e-b.1) ((fY b.2.2/\lQ b.2.2 a b.1/\0<=i/\i<=64/\b.1-a<(↑n:Int))/\∀(h:List Op),dK b.2.2 h->ac (b.1+1)/\Is (sT l m f (b.1+1) e i h/\lN (e-(b.1+1)) (d-c))) (ac (b.1+1)/\(fY b.2.2/\lQ b.2.2 (b.1+1) e/\0<=i/\i<=64/\e-(b.1+1)<(↑n:Int))/\∀(h:List Op),dK b.2.2 h->Is (sT l m f a b.1 i h/\lN (b.1-a) (d-c))))) (decide (0<a)=false/\decide (0<a)=false/\decide (0<a)=false/\decide (0<a)=false/\decide (0<a)=false/\decide (0<a)=false/\decide (0<a)=false/\decide (0<a)=false/\decide (0<a)=false/\decide (0<a)=false/\decide (0<a)=false/\decide (0<a)=false/\decide (0<a)=false/\E/\∀(b:Int×Bool×List Op),dK j b.2.2/\a<=b.1/\b.1<e->ac (b.1-a)/\ac (e-b.1)/\Bd (b.1-a<e-b.1) ((fY b.2.2/\lQ b.2.2 a b.1/\0<=i/\i<=64/\b.1-a<(↑n:Int))/\∀(h:List Op),dK b.2.2 h->ac (b.1+1)/\Is (sT l m f (b.1+1) e i h/\lN (e-(b.1+1)) (d-c))) (ac (b.1+1)/\(fY b.2.2/\lQ b.2.2 (b.1+1) e/\0<=i/\i<=64/\e-(b.1+1)<(↑n:Int))/\∀(h:List Op),dK b.2.2 h->Is (sT l m f a b.1 i h/\lN (b.1-a) (d-c))))))) ?_ (by rcases hg with rfl|rfl<;>kernel_rfl)
 conv=>zeta
 unfold Bd Br gD iN lN zO;rintro a b m l Q ⟨⟨w,⟨f1,f2,f3⟩,f4,f5,f6⟩,P⟩;have M:∀y,dK l y->Q ⟨0,(y,())⟩:=P;have h0:=w.1;have h1:=cx l;clear P;have x:∀{y:List Op}{c d:Int},dK l y->0<=c->c<=d->d<=l.length->fY y/\lQ y c d:=λh p q r=>⟨hJ w h,abl h p q r⟩;refine⟨⟨h1,f1,f2,f3,by omega,f4,f5⟩,?_⟩;intro a1 b1 m1 _ _ l1 ⟨z,s,u,o,k4,k5,k6⟩;refine⟨by unfold ac;omega,λ_=>⟨x z s u o,λy h=>M _ (dP z h)⟩,λc=>⟨λ_=>⟨x z s u o,λy h=>M _ (dP z h)⟩,λN=>?_⟩⟩;have c:=an c;rw[az]at N;refine⟨⟨λ_=>⟨x z s u o,λy h=>⟨by unfold ac;omega,⟨dP z h,rfl,rfl,by omega,by omega,rfl,by omega⟩⟩⟩,λ_=>⟨z,rfl,rfl,by omega,by omega,rfl,by omega⟩⟩,?_⟩;clear N;intro a2 b2 m2 _ _ n2 l2 ⟨G,H,J,R,S,K,U⟩;subst H;subst J;subst K;refine⟨⟨hJ w G,abl G s u o,by omega⟩,λp hp=>?_⟩;obtain⟨W,X⟩:=hp;refine⟨⟨λ_=>⟨x G s u o,λy h=>⟨by unfold ac;omega,by unfold ac;omega,by unfold ac;omega,⟨dP G h,rfl,rfl,R,S,rfl,U,by omega,by omega⟩⟩⟩,λ_=>⟨G,rfl,rfl,R,S,rfl,U,W,X⟩⟩,?_⟩;clear W X;intro a3 b3 m3 w1 w2 n3 p3 q3 l3 ⟨E,H,J,i,j,K,L,A,B⟩;subst H;subst J;subst K;refine⟨⟨λ_=>⟨λ_=>⟨λ_=>⟨x E s u o,λy h=>⟨λ_=>M _ (dP E h),λ_=>⟨dP E h,rfl,rfl,i,j,rfl,L,A,B⟩⟩⟩,λ_=>⟨E,rfl,rfl,i,j,rfl,L,A,B⟩⟩,λ_=>⟨E,rfl,rfl,i,j,rfl,L,A,B⟩⟩,λ_=>⟨E,rfl,rfl,i,j,rfl,L,A,B⟩⟩,?_⟩;clear i j A B;intro e f F _ _ n4 Y l4 ⟨v,H,J,i,j,K,L,A,B⟩;subst H;subst J;subst K;have e4:=v.1;have C:∀{y:List Op},dK l y->fY y/\lQ y e f/\e<=Y/\Y<f:=λh=>⟨(x h s u o).1,(x h s u o).2,A,B⟩
 have tail:∀q:Int×Bool×List Op,dK l4 q.2.2/\e<=q.1/\q.1<f->ac (q.1-e)/\ac (f-q.1)/\(decide (q.1-e<f-q.1)=true->(fY q.2.2/\lQ q.2.2 e q.1/\0<=F/\F<=64/\q.1-e<(n:Int))/\∀y,dK q.2.2 y->ac (q.1+1)/\Is (sT a b l (q.1+1) f F y/\(f-(q.1+1)).toNat<(f-e).toNat))/\(decide (q.1-e<f-q.1)=false->ac (q.1+1)/\(fY q.2.2/\lQ q.2.2 (q.1+1) f/\0<=F/\F<=64/\f-(q.1+1)<(n:Int))/\∀y,dK q.2.2 y->Is (sT a b l e q.1 F y/\(q.1-e).toNat<(f-e).toNat)):=by
  intro q D;obtain⟨O,u2,u3⟩:=D;have t:=dP v O;refine⟨by unfold ac;omega,by unfold ac;omega,λ_=>⟨⟨hJ w t,abl t (by omega) (by omega) (by omega),i,j,by omega⟩,λy h=>⟨by unfold ac;omega,⟨⟨dP t h,by omega,by omega,o,by omega,i,j⟩,by omega⟩⟩⟩,λ_=>⟨by unfold ac;omega,⟨hJ w t,abl t (by omega) (by omega) (by omega),i,j,by omega⟩,λy h=>⟨⟨dP t h,by omega,by omega,by omega,by omega,i,j⟩,by omega⟩⟩⟩
 refine⟨λc=>?_,λc=>⟨c,c,c,c,c,c,c,c,c,c,c,c,c,C v,tail⟩⟩;have N:=ag c;refine⟨c,c,c,by unfold ac;omega,c,⟨by omega,by omega⟩,c,c,c,c,⟨by omega,by omega⟩,c,c,⟨Y8 w v (by omega),Y8 w v (by omega)⟩,λ_ _=>⟨c,c,c,λ_=>⟨C v,λq D=>?_⟩,λ_=>⟨C v,tail⟩⟩⟩;obtain⟨O,u2,u3⟩:=D;exact⟨⟨dP v O,by omega,by omega,o,by omega,i,j⟩,by omega⟩
theorem FU(g:Nat)(c:dT g):∀n:Nat,bS Tryz.prog 172 (zh g n)
 |0=>by
  rintro⟨a,b,m,l,⟨⟩⟩ Q ⟨⟨_,⟨_,e,_⟩,_,_,f⟩,_⟩;exfalso;have e:@bc Int _ a b:=e;have f:@lB Int _ (@bv Int Int Int _ b a) ((0:Nat):Int):=f;omega
 |n+1=>du (aQ.add (On g c) (by kernel_rfl) (bo (FU g c n))) (bg.add (Oo g) (bo (λ_=>aM λ_=>⟨_,cx _⟩))) sF (by kernel_rfl) (Te g c n)
def A0(g:Nat):bw:=(172,[zh g 100001])::AZ g
theorem Oq(g:Nat)(a:dT g):aQ Tryz.prog (A0 g):=aQ.add (On g a) (by kernel_rfl) (bo (FU g a 100001))
theorem Ot(g:Nat):bg (A0 g):=bg.add (Oo g) (bo (λ_=>aM λ_=>⟨_,cx _⟩))
def xv(g:Nat):Ct:=⟨2,⟨[sO 0 0,fG g 1],[mh]⟩,SD,λ(l,_)=>eD (fY l) (dK l) λy=>(y,())⟩
abbrev FV(g:Nat)(v:List Op×Unit):cw ((xv g)).out:=⟨0,v⟩
theorem Tf(g:Nat)(a:dT g):ix Tryz.prog (A0 g) 135 (xv g) (cE (xv g) 0):=by
 refine oE (∀(a:List Op)(Q:cw (xv g).out->Prop),let z:=bi 64 (nI a);(Tr.need (fY a) (Tr.all (List Op) (dK a) λy=>Tr.leaf (FV g (y,())))).sat Q->z.toNat<=16777215/\(fY a/\lQ a 0 (nI a)/\0<=(↑(fM z.toNat):Int)/\(↑(fM z.toNat):Int)<=64/\nI a-(0:Int)<100001)/\∀(b:List Op),dK a b->Q (FV g (b,()))) ?_ (by rcases a with rfl|rfl<;>kernel_rfl)
 conv=>zeta
 unfold nI;rintro l Q ⟨h,b⟩;have c:l.length<=100000:=h.1;have e:(bi 64 (l.length:Int)).toNat=l.length:=by rw[BitVec.toNat_ofInt];omega
 rw[e];have f:fM l.length<=64:=Lib.bitLen_le l.length 64 (by omega) (by omega);exact⟨by omega,⟨h,⟨(by decide:(0:Int)<=0),Int.natCast_nonneg _,bY _⟩,by omega,by omega,by omega⟩,b⟩
theorem zj(g:Nat)(a:dT g):bS Tryz.prog 135 (xv g):=du (Oq g a) (Ot g) sF (by kernel_rfl) (Tf g a)
def Ou(g:Nat):bw:=(135,[(xv g)])::(A0 g)
theorem a4v(g:Nat)(a:dT g):aQ Tryz.prog (Ou g):=aQ.add (Oq g a) (by kernel_rfl) (bo (zj g a))
theorem a4w(g:Nat):bg (Ou g):=bg.add (Ot g) (bo (λx=>aM λ_=>⟨_,cx _⟩))
def a47:Nat:=136
def a48:Nat:=138
def Ov:bw:=(135,[xv 136,xv 138])::N3
theorem FW:KK Ov:=⟨aQ.add N4.1 (by kernel_rfl) (List.forall_mem_cons.2 ⟨zj _ (.inl rfl),bo (zj _ (.inr rfl))⟩),bg.add N4.2 (List.forall_mem_cons.2 ⟨λ_=>aM λ_=>⟨_,cx _⟩,bo (λ_=>aM λ_=>⟨_,cx _⟩)⟩)⟩
def Kt:Ct:=⟨1,⟨[(0,false,[.d (.pf tMB)])],[]⟩,[⟨[(0,false,[.d (.sl gF)])],[]⟩],λ(t,_)=>one (t.1.length<=1000000) (t.1,())⟩
theorem Tg:bS Tryz.prog 130 Kt:=kC FW (cE Kt 0) (∀(a:List gF.den×Unit)Q,bd Kt (a,()) Q->ah a.1<=1000000/\Q ⟨0,a⟩) (by
 unfold bd;rintro t Q ⟨h,a⟩;exact⟨h,a⟩)
def Ow:bw:=(130,[Kt,Fz])::Ov
theorem Zb:KK Ow:=⟨aQ.add FW.1 (by kernel_rfl) (fQ (Tg) (bo (FA))),bg.add FW.2 (fQ (λ_=>bJ) (bo (λ_=>bJ)))⟩
def mkI(q:ID×gi):Op:=(1,q.2.1,q.2.2.1,q.2.2.2.1,q.2.2.2.2.1,q.2.2.2.2.2.1,q.2.2.2.2.2.2.1,0,0,0,0,0,0,false,0,0,false,0,0,())
def mkD(q:ID×Int):Op:=(2,0,0,0,0,false,0,q.1.1,q.1.2.1,0,0,0,0,false,0,0,false,0,0,())
def FX(p:Pg)(y:List Op):Prop:=y.length<=9000/\(∀o∈y,Az o)/\(p=js->y=[])/\(p=ft->y=[iW])
theorem Zc:js≠ft:=λh=>by have:=aH (λp:Pg=>p.1.length) h;revert this;decide
theorem Ku(p:Pg):∃y,FX p y:=by
 by_cases h:p=ft
 ·exact⟨[iW],by decide,J0,λe=>absurd (e.symm.trans h) Zc,λ_=>rfl⟩
 ·exact⟨[],by decide,λo a=>(by cases a),λ_=>rfl,λe=>absurd e h⟩
def CT:Ct:=⟨1,⟨[(0,false,[.d M6])],[]⟩,[⟨[(0,false,[.d (.sl kE)])],[]⟩],λ(p,_)=>eD (cr p) (FX p) λl=>(l,())⟩
def FY(i:Nat):Nat×Bool×List IP:=(i,false,[.d M6])
def Zd:cg:=⟨[FY 0,sO 3 0,sO 4 1,(16,false,[.ptr 2 0])],[some (.sl kE),some (.sl kE),some (.fit cq oM)]⟩
def Kv(x:CT.inp.den)(y:Zd.den):Prop:=match x,y with
 |(b,_),(p,out,go,a,_,_)=>p=b/\go=[]/\∃c,out=c.map mkI/\(c++a).Perm b.1
def Ox:cg:=⟨[FY 0,sO 3 0,sO 4 1,(32,false,[.ptr 2 0])],[some (.sl kE),some (.sl kE),some (.fit cq .i64)]⟩
def A2(x:CT.inp.den)(y:Ox.den):Prop:=match x,y with
 |(b,_),(p,out,go,a,_,_)=>p=b/\out.length<=4096/\(∀o∈out,Az o)/\(b=js->out=[])/\(b=ft->out=[iW])/\∃c,go=c.map mkD/\(c++a).Perm b.2.1
def Oy:cg:=⟨[sO 3 0,(51,false,[.d (.sl gF)]),sI 52,sI 53],[some (.sl kE)]⟩
def A3(x:CT.inp.den)(y:Oy.den):Prop:=match x,y with
 |(a,_),(b,c,j,out,_)=>b=a.2.2.2.2.1.1/\c=b.length/\∃k:Nat,j=k/\k<=b.length/\out.length<=8192+k/\(∀o∈out,Az o)/\(a=js->out=[])/\(a=ft->out=[iW])
def a27(x:CT.inp.den):dB:=⟨[(5,bK Zd (Kv x) λ(_,_,_,a,_)=>a.length),(10,bK Ox (A2 x) λ(_,_,_,a,_)=>a.length),(16,bK Oy (A3 x) λ(_,b,j,_)=>(@bv Int Int Int _ b j).toNat)],[],[],[],0⟩
def Oz:bw:=(94,[CT])::Ow
theorem Ze:KK Oz:=kA Zb a27 (∀(a:Pg)Q,bd CT (a,()) Q->Is (Kv (a,()) (a,[],[],a.1,none,()))/\∀(j:Pg)(e n:List Op)(f:List (Fk×gi))(z:Option (Fk×gi)),Kv (a,()) (j,e,n,f,z,())->Br (!f.isEmpty) (∀(b:(Fk×gi)×List (Fk×gi)),f.Perm (b.1::b.2)->(e.length+1)*144<=mM/\Is (Kv (a,()) (j,e++[(1,b.1.2.1,b.1.2.2.1,b.1.2.2.2.1,b.1.2.2.2.2.1,b.1.2.2.2.2.2.1,b.1.2.2.2.2.2.2.1,0,0,0,0,0,0,false,0,0,false,0,0,())],n,b.2,some b.1,())/\b.2.length<f.length)) (fY e/\∀(b:List Op),dK e b->Is (A2 (a,()) (j,b,n,j.2.1,none,()))/\∀(g:Pg)(k h:List Op)(i:List (Fk×Int))(z:Option (Fk×Int)),A2 (a,()) (g,k,h,i,z,())->Br (!i.isEmpty) (∀(b:(Fk×Int)×List (Fk×Int)),i.Perm (b.1::b.2)->(h.length+1)*144<=mM/\Is (A2 (a,()) (g,k,h++[(2,0,0,0,0,false,0,b.1.1.1,b.1.1.2.1,0,0,0,0,false,0,0,false,0,0,())],b.2,some b.1,())/\b.2.length<i.length)) (fY h/\∀(b:List Op),dK h b->(k.length+b.length)*144<=mM/\ah g.2.2.2.2.1.1<=1000000/\Is (A3 (a,()) (g.2.2.2.2.1.1,nI g.2.2.2.2.1.1,0,k++b,()))/\∀(l:List gF.den)(d c:Int)(m:List Op),A3 (a,()) (l,d,c,m,())->Bd (c<d) (iN c l/\(m.length+1)*144<=mM/\ac (c+1)/\Is (A3 (a,()) (l,d,c+1,m++[(3,0,0,0,0,false,0,0,0,gD l c (0,0,0,0,false,0,0,false,0,0,()))],())/\lN (d-(c+1)) (d-c))) (Q ⟨0,m,()⟩)))) (by
 unfold Bd Br gD iN lN mM nI bd;intro p Q ⟨h,S⟩;have i:∀y,FX p y->Q ⟨0,(y,())⟩:=S;clear S;obtain⟨k1,k2,k3,k4,k5,k6⟩:=h;refine⟨⟨⟨rfl,rfl,[],rfl,List.Perm.refl _⟩⟩,?_⟩;rintro p1 out go t la ⟨A,L,B,G,s⟩;have A:p=p1:=A.symm;subst A L G;have M:B.length+t.length=p.1.length:=by have:=s.length_eq;rwa [aa]at this
 have u:∀q∈B,q∈p.1:=λq i=>s.subset (cL _ i);have v:(B.map mkI).length=B.length:=bT ..;refine⟨λc z H=>?_,λc=>?_⟩
 ·have C:=H.length_eq;rw[ba]at C;refine⟨by omega,⟨⟨rfl,rfl,B++[z.1],by rw[dn];rfl,?_⟩,by omega⟩⟩;rw[ay];exact(List.Perm.append_left B H.symm).trans s
 have N:t=[]:=by
  cases t with
  |nil=>rfl
  |cons a b=>cases c
 subst N;rw[aW]at s
 have n:∀q∈B,dd (mkI q)/\Az (mkI q):=by
  intro q i;have D:=(k5 q (u q i)).1;obtain⟨⟨a,b,⟨⟩⟩,J,K,c3,c4,c5,O,⟨⟩⟩:=q;unfold sJ hH at D;simp only[aI,ai]at D;have q1:@bc Int _ 0 J/\@lB Int _ J 5/\@bc Int _ 1 K/\@bc Int _ K 1099511627776:=D.1.1;have q2:@bc Int _ 0 O/\@bc Int _ O 1114111:=⟨D.1.2.1,D.1.2.2.1⟩;refine⟨⟨⟨?_,?_,?_,?_⟩,(show(0:Int)<=0 by decide),(show(0:Int)<=1099511627776 by decide),(show(0:Int)<=0 by decide),(show(0:Int)<=1099511627776 by decide)⟩,?_⟩
  ·show @bc Int _ 0 J;omega
  ·show @bc Int _ J 1099511627776;omega
  ·show @bc Int _ 0 K;omega
  ·show @bc Int _ K 1099511627776;omega
  ·show ac O;unfold ac;omega
 refine⟨⟨by omega,λo g=>?_⟩,λy x=>?_⟩
 ·obtain⟨q,i,rfl⟩:=dM.1 g;exact(n q i).1
 have w:∀o∈y,Az o:=by
  intro o g;obtain⟨q,i,rfl⟩:=dM.1 (x.2 o g);exact(n q i).2
 have E:y.length=B.length:=by rw[x.1];exact v
 have U:p=js->y=[]:=by
  intro e;have h0:p.1.length=0:=by rw[e];rfl
  exact r8.1 (by omega)
 have W:p=ft->y=[iW]:=by
  intro e;have e':p.1=[(((0,1,()):ID),((0,1,0,0,true,97,()):gi))]:=by rw[e];rfl
  rw[e']at s;have hd:=List.perm_singleton.1 s;rw[hd]at x;have h1:y.length=1:=x.1;obtain⟨o,g⟩:=List.length_eq_one_iff.1 h1;have:=x.2 o (by rw[g];exact cf.2 rfl);rw[aY,List.map_nil,cf]at this;rw[g,this];rfl
 refine⟨⟨⟨rfl,by omega,w,U,W,[],rfl,List.Perm.refl _⟩⟩,?_⟩;clear s M u v n x E U W w;rintro p2 f a0 r a1 ⟨A,X,Y,g3,g4,m,G,s⟩;have A:p=p2:=A.symm;subst A G;have M:m.length+r.length=p.2.1.length:=by have:=s.length_eq;rwa [aa]at this
 have u:∀q∈m,q∈p.2.1:=λq i=>s.subset (cL _ i);have v:(m.map mkD).length=m.length:=bT ..;refine⟨λc z H=>?_,λc=>?_⟩
 ·have C:=H.length_eq;rw[ba]at C;refine⟨by omega,⟨⟨rfl,X,Y,g3,g4,m++[z.1],by rw[dn];rfl,?_⟩,by omega⟩⟩;rw[ay];exact(List.Perm.append_left m H.symm).trans s
 have N:r=[]:=by
  cases r with
  |nil=>rfl
  |cons a b=>cases c
 subst N
 have n:∀q∈m,dd (mkD q)/\Az (mkD q):=by
  intro q i;have D:=k6 q (u q i);obtain⟨⟨a,b,⟨⟩⟩,J⟩:=q;have q1:@bc Int _ 0 a/\@lB Int _ a 5/\@bc Int _ 1 b/\@bc Int _ b 1099511627776:=ag D;refine⟨⟨⟨(show(0:Int)<=0 by decide),(show(0:Int)<=1099511627776 by decide),(show(0:Int)<=0 by decide),(show(0:Int)<=1099511627776 by decide)⟩,?_,?_,?_,?_⟩,?_⟩
  ·show @bc Int _ 0 a;omega
  ·show @bc Int _ a 1099511627776;omega
  ·show @bc Int _ 0 b;omega
  ·show @bc Int _ b 1099511627776;omega
  ·show ac 0;unfold ac;omega
 refine⟨⟨by omega,λo g=>?_⟩,λy x=>?_⟩
 ·obtain⟨q,i,rfl⟩:=dM.1 g;exact(n q i).1
 have w:∀o∈y,Az o:=by
  intro o g;obtain⟨q,i,rfl⟩:=dM.1 (x.2 o g);exact(n q i).2
 have E:y.length=m.length:=by rw[x.1];exact v
 have hm:p.2.2.2.2.1.1.length<=512:=k2.1;have P:p.2.1.length=0->y=[]:=λe=>r8.1 (by omega);have a2:p.1.length+p.2.1.length<=4096:=k1;have a3:f.length<=4096:=X;have g9:f.length+y.length<=8192:=by omega
 have g5:(f++y).length<=4096+4096:=by rw[aa];omega
 have g6:∀o∈f++y,Az o:=λo g=>(bb.1 g).elim (Y o) (w o);have g7:p=js->f++y=[]:=λe=>by rw[g3 e,P (by rw[e];rfl)];rfl
 have g8:p=ft->f++y=[iW]:=λe=>by rw[g4 e,P (by rw[e];rfl)];rfl
 have e9:p=js->p.2.2.2.2.1.1=[]:=λe=>by rw[e];rfl
 have R:p=ft->p.2.2.2.2.1.1=[]:=λe=>by rw[e];rfl
 clear s M u v n x P E w;generalize f++y=o2 at*;refine⟨by omega,by omega,⟨⟨rfl,rfl,0,rfl,aq _,by omega,g6,g7,g8⟩⟩,?_⟩;rintro ms ln j o3 ⟨A,L,k,G,f1,f2,f3,f4,f5⟩;subst A L G;have hN:∀k:Nat,k<p.2.2.2.2.1.1.length->ac ((k:Int)+1):=λk F=>by unfold ac;omega
 rw[show((k:Int)).toNat=k by omega];refine⟨λc=>?_,λc=>i _ ⟨by omega,f3,f4,f5⟩⟩;have F:k<p.2.2.2.2.1.1.length:=by have:=ag c;omega
 refine⟨by omega,by omega,hN k F,⟨⟨rfl,rfl,k+1,rfl,F,by rw[aa,bh];omega,λo g=>?_,λe=>?_,λe=>?_⟩,by omega⟩⟩
 ·rcases bb.1 g with g|g
  ·exact f3 o g
  ·rw[cf.1 g];show ac 0;unfold ac;omega
 ·exfalso;rw[e9 e]at F;exact absurd F (Nat.not_lt_zero _)
 ·exfalso;rw[R e]at F;exact absurd F (Nat.not_lt_zero _)) (l:=λ_=>aM λ_=>Ku _)
end Go.Tp
