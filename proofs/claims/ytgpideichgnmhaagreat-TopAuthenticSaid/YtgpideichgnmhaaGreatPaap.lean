/- A part of the proof of TopAuthenticSaid: no conditions; packed by a program of our own. -/
import Derived.Test.YtgpideichgnmhaaGreatPaao
open And renaming intro→bQ
open Bool renaming and_eq_true→aF,or_eq_true→ig,true_and→fL
open Decidable renaming not_not→aD
open HSub renaming hSub→bG
open Int renaming le_refl→cr
open LE renaming le→aZ
open List renaming length_append→aa,mem_append→aY,getElem?_eq_getElem→ap,getElem?_append_right→bB,length→ac,getD_eq_getElem?_getD→az,map_append→dl,length_map→bT,mem_map→dY,map→rU,all_eq_true→cM,getElem?_eq_some_iff→dd,mem_singleton→cg,length_singleton→bb,take_length→bp
open Nat renaming le_refl→aC,zero_le→aq,lt_or_ge→bN
namespace Go.Tp
open Go.Hv Go.Proofs Go.RowKit
set_option maxRecDepth 100000
set_option maxHeartbeats 0
def JN:bu:=(15,[vP])::a2c
theorem JO:KK JN:=⟨aP.add a2d.1 (by kernel_rfl) (bo JC),bg.add a2d.2 (bo (λ_=>Live.ite (λ_=>Live.all ⟨_,(kV (k:=9998) mH _).choose_spec,Live.leaf⟩) (λ_=>Live.leaf)))⟩
def JP:bu:=(11,[Ap])::JN
theorem JQ:KK JP:=⟨aP.add JO.1 (by kernel_rfl) (bo JE),bg.add JO.2 (bo (λ_=>bm))⟩
def JR:bu:=(12,[Aq])::JP
theorem JS:KK JR:=⟨aP.add JQ.1 (by kernel_rfl) (bo JG),bg.add JQ.2 (bo (λ_=>bm))⟩
def JT:bu:=(7,[xW])::JR
theorem JU:KK JT:=⟨aP.add JS.1 (by kernel_rfl) (bo JJ),bg.add JS.2 (bo (λ_=>aR λ_=>⟨false,λh=>by cases h⟩))⟩
def JV:bu:=(18,[Ar])::JT
theorem Vu:KK JV:=⟨aP.add JU.1 (by kernel_rfl) (bo JK),bg.add JU.2 (bo (λ_=>bH))⟩
def Ro(ms:List (List Int))(s:lw)(y:ym):List (List Int):=if y.1.2.1=0 then ms else if s.1=6 then ms++[y.2.ids]else ms
def JW:Ct:=⟨2,⟨[MH 0,Wc 1],jK⟩,[⟨[MH 0,(1,true,[.d D9])],IJ 33++pT 33⟩],λ(P,Q,s,F,G,H,J,K,L,M,N,O,b,c,e,f,g,h,i,j,l,o,p,q,r,t,u,v,w,x,z,A,B,C,D,a,E,_)=>eO (P.length≤1000∧Q.length≤1000∧s.2.2.2.2.2.2.1.length≤1000000∧kW (cw (F,G,H,J,K,L,M,N,O,b,c,e,f,g,h,i,j,l,o,p,q,r,t,u,v,w,x,z,A,B,C,D,a,E,()))∧a.length<900∧∃n,di (cw (F,G,H,J,K,L,M,N,O,b,c,e,f,g,h,i,j,l,o,p,q,r,t,u,v,w,x,z,A,B,C,D,a,E,())) (n+5*a.length+3)) (mP (cw (F,G,H,J,K,L,M,N,O,b,c,e,f,g,h,i,j,l,o,p,q,r,t,u,v,w,x,z,A,B,C,D,a,E,())) s) λy=>(v4 P s y,Ro Q s y,y.1,y.2.sec,y.2.al,y.2.go,y.2.d,y.2.m,(cA y.2.c0),(bC y.2.c0),y.2.c0.km,(cA y.2.c1),(bC y.2.c1),y.2.c1.km,(cA y.2.c2),(bC y.2.c2),y.2.c2.km,(cA y.2.c3),(bC y.2.c3),y.2.c3.km,(cA y.2.c4),(bC y.2.c4),y.2.c4.km,y.2.k0,y.2.k1,y.2.k2,y.2.k3,y.2.k4,y.2.lg,y.2.ts,y.2.c0.bk,y.2.c1.bk,y.2.c2.bk,y.2.c3.bk,y.2.c4.bk,y.2.st,y.2.ln,())⟩
abbrev rS(v:List (Int×Bool×Unit)×La×(Int×Int×Nw)×TA Unit):aN JW.out:=⟨0,v⟩
def Rp:bu:=(9,[JW])::JV
theorem a2m:KK Rp:=kA Vu (cv JW 0) (∀(a:List (Int×Bool×Unit))(d:La)(c:Int×Int×Int×Int×Int×Int×BL×Lt),let A:=a.length+1;let B:=0+a.length;WA λf g h i j k l m n o p q r s t u v w y z D E F G H J K L M N O P e R=>let C:=(g,h,i,j,k,l,m,n,o,p,q,r,s,t,u,v,w,y,z,D,E,F,G,H,J,K,L,M,N,O,P,e,R,());∀(Q:aN JW.out→Prop),(Ct.spec JW (a,d,c,f,C)).sat Q→(ac c.2.2.2.2.2.2.1≤1000000∧kW (cw (f,C))∧∃a,di (cw (f,C)) (a+5*e.length+3))∧∀(b:(Int×Int×Nw)×Wd),let x:Prop:=B*16≤140737488355328∧A*16≤140737488355328∧Q (rS (a++[(c.2.1,true,())],d,b.1,dO b.2));mP (cw (f,C)) c b→Br (b.1.2.1==0) (Q (rS (a,d,b.1,dO b.2))) (Br (c.1==1) x (Br (c.1==2) x (Br (c.1==3) x (Br (c.1==4) x (Br (c.1==5) x (Br (c.1==6) ((0+d.length)*24≤140737488355328∧cu b.2.lg.2.1 b.2.lg.2.2.1∧(d.length+1)*24≤140737488355328∧B*16≤140737488355328∧A*16≤140737488355328∧Q (rS (a++[(0,true,())],d++[rU (λa=>a.1) (cL b.2.lg.2.1 (↑(ac b.2.lg.2.1):Int))],b.1,dO b.2))) (Br (c.1==11) (B*16≤140737488355328∧A*16≤140737488355328∧Q (rS (a++[(c.2.1,false,())],d,b.1,dO b.2))) (B*16≤140737488355328∧A*16≤140737488355328∧Q (rS (a++[((-1:Int),false,())],d,b.1,dO b.2))))))))))) (by kernel_rfl) (by
 conv=>zeta
 unfold Br WA dO;intro f C s;refine Wd.all λw=>?_;intro Q ⟨⟨G,x,z,D,H,n,E⟩,F⟩;have a:∀y:ym,mP w s y→Q ⟨0,(v4 f s y,Ro C s y,y.1,y.2.sec,y.2.al,y.2.go,y.2.d,y.2.m,(cA y.2.c0),(bC y.2.c0),y.2.c0.km,(cA y.2.c1),(bC y.2.c1),y.2.c1.km,(cA y.2.c2),(bC y.2.c2),y.2.c2.km,(cA y.2.c3),(bC y.2.c3),y.2.c3.km,(cA y.2.c4),(bC y.2.c4),y.2.c4.km,y.2.k0,y.2.k1,y.2.k2,y.2.k3,y.2.k4,y.2.lg,y.2.ts,y.2.c0.bk,y.2.c1.bk,y.2.c2.bk,y.2.c3.bk,y.2.c4.bk,y.2.st,y.2.ln,())⟩:=λy j=>F y j;clear F;refine⟨⟨z,D,n,E⟩,λy j=>?_⟩;have a:=a y j;have A:=(rR E D H j).1.lg.1;unfold v4 Ro DV at a;have o:(0+f.length)*16≤140737488355328:=by omega
 have p:(f.length+1)*16≤140737488355328:=by omega
 refine⟨λc=>?_,λc=>?_⟩
 ·rw[an (be c),an (be c)]at a;exact a
 rw[ag (aA c),ag (aA c)]at a
 have b:∀k:Int,(s.1==k)=true→1≤k∧k≤5→(0+f.length)*16≤140737488355328∧(f.length+1)*16≤140737488355328∧Q ⟨0,(f++[(s.2.1,true,())],C,y.1,y.2.sec,y.2.al,y.2.go,y.2.d,y.2.m,(cA y.2.c0),(bC y.2.c0),y.2.c0.km,(cA y.2.c1),(bC y.2.c1),y.2.c1.km,(cA y.2.c2),(bC y.2.c2),y.2.c2.km,(cA y.2.c3),(bC y.2.c3),y.2.c3.km,(cA y.2.c4),(bC y.2.c4),y.2.c4.km,y.2.k0,y.2.k1,y.2.k2,y.2.k3,y.2.k4,y.2.lg,y.2.ts,y.2.c0.bk,y.2.c1.bk,y.2.c2.bk,y.2.c3.bk,y.2.c4.bk,y.2.st,y.2.ln,())⟩:=by
  intro k J g;have e:s.1=k:=be J;refine⟨o,p,?_⟩;rw[an (by rw[e];exact g),ag (by rw[e];exact(Vs g).1)]at a;exact a
 refine⟨λq=>b 1 q (by decide),λq=>⟨λr=>b 2 r (by decide),λr=>⟨λt=>b 3 t (by decide),λt=>⟨λu=>b 4 u (by decide),λu=>⟨λv=>b 5 v (by decide),λv=>?_⟩⟩⟩⟩⟩
 have K:¬(1≤s.1∧s.1≤5):=by
  have q:¬@Eq Int s.1 1:=aA q;have r:¬@Eq Int s.1 2:=aA r;have t:¬@Eq Int s.1 3:=aA t;have u:¬@Eq Int s.1 4:=aA u;have v:¬@Eq Int s.1 5:=aA v;intro h;have G:@aZ Int _ 1 s.1:=h.1;have x:@aZ Int _ s.1 5:=h.2;omega
 rw[ag K]at a;refine⟨λi=>?_,λi=>?_⟩
 ·rw[an (be i),an (be i)]at a;exact⟨by omega,A,by omega,o,p,a⟩
 rw[ag (aA i),ag (aA i)]at a;refine⟨λB=>⟨o,p,?_⟩,λB=>⟨o,p,?_⟩⟩
 ·rw[an (be B)]at a;exact a
 ·rw[ag (aA B)]at a;exact a) (l:=λ_=>aR λh=>by obtain⟨_,_,_,x,_,_,z⟩:=h;exact Jv z x _)
def DX:Ct:=⟨3,⟨[MH 0,sI 1,sI 2],jK⟩,[⟨[sL 0],jK⟩],λ(P,a,E,id,F,G,H,J,K,L,M,N,O,b,c,e,f,g,h,i,j,m,n,o,p,q,r,s,t,u,v,w,x,z,A,B,C,D,_)=>du (a.length≤1000∧∀l∈a,l.length≤1000) (xV a E id) λy=>(y,F,G,H,J,K,L,M,N,O,b,c,e,f,g,h,i,j,m,n,o,p,q,r,s,t,u,v,w,x,z,A,B,C,D,())⟩
def a2n:cc:=⟨[sI 2,(23,false,[.d (.sl .i64)]),sI 24,sI 25],jK⟩
def MK(x:DX.inp.den)(y:a2n.den):Prop:=match x,y with
 |(md,ms,a,id,a1,a2,a3,a4,a5,a6,a7,a8,a9,b,c,e,f,g,h,j,m,n,o,p,q,r,s,t,u,v,w,z,A,B,C,D,E,F,_),(G,l,ln,i,b1,b2,b3,b4,b5,b6,b7,b8,b9,H,J,K,L,M,N,O,P,Q,R,S,U,W,X,Y,a0,b0,c0,c1,c2,c3,c4,c5,c6,c7,_)=>(cw (b1,b2,b3,b4,b5,b6,b7,b8,b9,H,J,K,L,M,N,O,P,Q,R,S,U,W,X,Y,a0,b0,c0,c1,c2,c3,c4,c5,c6,c7,()))=(cw (a1,a2,a3,a4,a5,a6,a7,a8,a9,b,c,e,f,g,h,j,m,n,o,p,q,r,s,t,u,v,w,z,A,B,C,D,E,F,()))∧G=id∧@aZ Int _ 1 a∧@aZ Int _ a ms.length∧l=ms.getD (@bG Int Int Int _ a 1).toNat []∧ln=l.length∧∃k:Nat,i=k∧k≤l.length∧id∉l.take k
def a6n(x:DX.inp.den):dG:=⟨[(4,bM a2n (MK x) λ(_,_,a,i,_)=>(@bG Int Int Int _ a i).toNat)],[],[],[],0⟩
abbrev vR(v:Bool×TA Unit):aN DX.out:=⟨0,v⟩
def Rq:bu:=(13,[DX])::Rp
theorem a2o:KK Rq:=kA a2m a6n (∀(G:List (Int×Bool×Unit))(c:La)(a F:Int),WA λd e f g h i j k l m n o p q r s t u v w y z H J K L M N O P R S U W=>let A:=(d,e,f,g,h,i,j,k,l,m,n,o,p,q,r,s,t,u,v,w,y,z,H,J,K,L,M,N,O,P,R,S,U,W,());let B:=(G,c,a,F,A);∀(Q:aN DX.out→Prop),(Ct.spec DX B).sat Q→Br (decide (a<1)) (Q (vR (false,A))) (Br (decide ((↑c.length:Int)<a)) (Q (vR (false,A))) (ae (a-1)∧(0≤a-1∧a-1<(↑c.length:Int))∧Is (MK B (F,c.getD (a-1).toNat [],(↑(c.getD (a-1).toNat []).length:Int),0,A))∧∀(E:Int)(C:List Int)(x b:Int),let X:=C.getD b.toNat 0==E;WA λY b8 b9 c0 c1 c2 c3 c4 c5 c6 c7 c8 c9 d0 d1 d2 d3 d4 d5 d6 d7 d8 d9 e0 e1 e2 e3 e4 e5 e6 e7 e8 e9 f0=>let D:=(Y,b8,b9,c0,c1,c2,c3,c4,c5,c6,c7,c8,c9,d0,d1,d2,d3,d4,d5,d6,d7,d8,d9,e0,e1,e2,e3,e4,e5,e6,e7,e8,e9,f0,());MK B (E,C,x,b,D)→Br (decide (b<x)) ((0≤b∧b<(↑C.length:Int))∧Br X (Q (vR (true,D))) (ae (b+1)∧Is (MK B (E,C,x,b+1,D)∧(x-(b+1)).toNat<(x-b).toNat))) (Q (vR (false,D)))))) (by kernel_rfl) (by
 conv=>zeta
 unfold Br WA;intro J g b id;refine Wd.all λw=>?_;rintro Q ⟨⟨K,E⟩,B⟩;have f:∀y,xV g b id=y→Q ⟨0,(y,w.sec,w.al,w.go,w.d,w.m,(cA w.c0),(bC w.c0),w.c0.km,(cA w.c1),(bC w.c1),w.c1.km,(cA w.c2),(bC w.c2),w.c2.km,(cA w.c3),(bC w.c3),w.c3.km,(cA w.c4),(bC w.c4),w.c4.km,w.k0,w.k1,w.k2,w.k3,w.k4,w.lg,w.ts,w.c0.bk,w.c1.bk,w.c2.bk,w.c3.bk,w.c4.bk,w.st,w.ln,())⟩:=λy e=>B y e.symm;clear B;unfold xV at f;refine⟨λc=>f _ ?_,λc=>⟨λa=>f _ ?_,λa=>⟨?_,?_,⟨⟨rfl,rfl,?_,?_,rfl,rfl,0,rfl,aq _,λq=>by cases q⟩⟩,?_⟩⟩⟩
 ·have c:=ai c;rw[decide_eq_false (λq=>by have:=q.1;omega)];rfl
 ·have a:=ai a;rw[decide_eq_false (λq=>by have:=q.2;omega)];rfl
 ·have c:=am c;have a:=am a;unfold ae;omega
 ·have c:=am c;have a:=am a;omega
 ·have c:=am c;show @aZ Int _ 1 b;omega
 ·have a:=am a;show @aZ Int _ b g.length;omega
 clear c a;intro j l F i;refine Wd.all λv=>?_;rintro⟨s,t,p,r,n,u,k,x,C,A⟩;have s:v=w:=s;subst s;have t:j=id:=t;have n:l=g.getD (b-1).toNat []:=n;have u:F=(l.length:Int):=u;have x:i=(k:Int):=x;have p:@aZ Int _ 1 b:=p;have r:@aZ Int _ b g.length:=r;have C:k≤l.length:=C;have D:=E _ (aT (z:=([]:List Int)) (show(@bG Int Int Int _ b 1).toNat<g.length by omega));have D:l.length≤1000:=by rw[n];exact D
 have f:∀y,l.contains id=y→Q ⟨0,(y,v.sec,v.al,v.go,v.d,v.m,(cA v.c0),(bC v.c0),v.c0.km,(cA v.c1),(bC v.c1),v.c1.km,(cA v.c2),(bC v.c2),v.c2.km,(cA v.c3),(bC v.c3),v.c3.km,(cA v.c4),(bC v.c4),v.c4.km,v.k0,v.k1,v.k2,v.k3,v.k4,v.lg,v.ts,v.c0.bk,v.c1.bk,v.c2.bk,v.c3.bk,v.c4.bk,v.st,v.ln,())⟩:=by
  intro y G;refine f y ?_;rw[decide_eq_true ⟨p,r⟩,fL,←n];exact G
 clear n;subst t u x;have H:((k:Int).toNat)=k:=by omega
 rw[H];refine⟨λc=>?_,λc=>f _ ?_⟩
 ·have o:k<l.length:=by have:=ai c;omega
  refine⟨by omega,λd=>f _ ?_,λd=>⟨by unfold ae;omega,⟨⟨rfl,rfl,p,r,by assumption,rfl,k+1,rfl,o,?_⟩,by omega⟩⟩⟩
  ·rw[List.contains_iff_mem];rw[←be d];exact aT o
  ·rw[cK (z:=(0:Int)) o];intro q;rcases aY.1 q with q|q
   ·exact A q
   ·rw[cg]at q;exact aA d q.symm
 ·have o:k=l.length:=by have:=am c;omega
  subst o;rw[bp]at A;cases h:l.contains j with
  |false=>rfl
  |true=>exact absurd (List.contains_iff_mem.1 h) A) (l:=λ_=>bm)
def DY:Ct:=⟨1,⟨[sI 0],[]⟩,[⟨[(0,true,[.nilp, .nils, .nils]),(1,false,[.k (.bool false)])],[]⟩,⟨[MH 0,(1,false,[.k (.bool true)])],jK⟩],λ(n,_)=> .ite (decide (1≤n∧n≤31∧n % 2=1)) (.all ((Int×Int)×Wd) (fi pl n) λy=> .leaf ⟨1,([(0,true,())],[y.2.ids],y.2.sec,y.2.al,y.2.go,y.2.d,y.2.m,(cA y.2.c0),(bC y.2.c0),y.2.c0.km,(cA y.2.c1),(bC y.2.c1),y.2.c1.km,(cA y.2.c2),(bC y.2.c2),y.2.c2.km,(cA y.2.c3),(bC y.2.c3),y.2.c3.km,(cA y.2.c4),(bC y.2.c4),y.2.c4.km,y.2.k0,y.2.k1,y.2.k2,y.2.k3,y.2.k4,y.2.lg,y.2.ts,y.2.c0.bk,y.2.c1.bk,y.2.c2.bk,y.2.c3.bk,y.2.c4.bk,y.2.st,y.2.ln,())⟩) (.leaf ⟨0,()⟩)⟩
abbrev Vv(v:Unit):aN DY.out:=⟨0,v⟩
abbrev Vw(v:List (Int×Bool×Unit)×La×TA Unit):aN DY.out:=⟨1,v⟩
def Rr:bu:=(6,[DY])::Rq
theorem a2p:KK Rr:=kA a2o (cv DY 0) (∀(a:Int)(Q:aN DY.out→Prop),let z:Prop:=1≤a∧a≤31∧a % (2:Int)=1;(Ct.spec DY (a,())).sat Q→Br (decide z) (∀(b:(Int×Int)×Wd),fi pl a b→cu b.2.lg.2.1 b.2.lg.2.2.1∧Q (Vw ([(0,true,())],[rU (λa=>a.1) (cL b.2.lg.2.1 (↑(ac b.2.lg.2.1):Int))],dO b.2))) (Q (Vv ()))) (by kernel_rfl) (by
 conv=>zeta
 unfold Br dO;intro n Q a;exact⟨λc y b=>⟨((rQ (k:=9998) mH (by decide) b).1).lg.1,a.1 c y b⟩,λc=>a.2 c⟩) (l:=λ_=>Live.ite (λ_=>Live.all ⟨_,(kV (k:=9998) mH _).choose_spec,Live.leaf⟩) (λ_=>Live.leaf))
def JX:Ct:=⟨2,⟨[sP 0,(1,false,[.k (.i64 1)])],jK⟩,[⟨[(0,false,[.ptr 33 0])],jK++gk 33⟩],λ(F,G,H,J,K,L,M,N,O,b,e,f,g,h,i,j,l,m,o,q,r,s,t,u,v,w,x,z,a,A,B,C,D,E,_)=>eO ((∃n,di (cw (F,G,H,J,K,L,M,N,O,b,e,f,g,h,i,j,l,m,o,q,r,s,t,u,v,w,x,z,a,A,B,C,D,E,())) n)∧∀p∈a,p.2.length≤1048576) (λy:Cl=>iL (cw (F,G,H,J,K,L,M,N,O,b,e,f,g,h,i,j,l,m,o,q,r,s,t,u,v,w,x,z,a,A,B,C,D,E,())).c1.pg y.pg) λy=>(F,G,H,J,K,L,M,N,O,b,e,f,g,h,i,j,l,m,o,q,r,s,t,u,v,w,x,z,a,A,B,C,D,E,y.c,y.se,y.sg,y.lg,y.pg,y.la,y.fk,y.km,y.bk,())⟩
abbrev Vx(v:TA (Int×BL×BL×Lg×Pg×La×List Fk×KM×Ln×Unit)):aN JX.out:=⟨0,v⟩
def Rt:bu:=(21,[JX])::Rr
theorem a2q:KK Rt:=kA a2p (cv JX 0) (WA λe f g h i j k l a c m n o q r s t u v w y z x A B C D E d F G H J K=>∀(Q:aN JX.out→Prop),(Ct.spec JX (e,f,g,h,i,j,k,l,a,c,m,n,o,q,r,s,t,u,v,w,y,z,x,A,B,C,D,E,d,F,G,H,J,K,())).sat Q→True∧Br false False (((∀(p:Int×List Kn),p∈d→ac p.2≤1048576)∧cb c.1∧cu a.2.2.2.1.2.1 a.2.2.2.1.2.2.1)∧∀(b:Cl),iL c.1 b.pg→Q (Vx (e,f,g,h,i,j,k,l,a,c,m,n,o,q,r,s,t,u,v,w,y,z,x,A,B,C,D,E,d,F,G,H,J,K,b.c,b.se,b.sg,b.lg,b.pg,b.la,b.fk,b.km,b.bk,())))) (by kernel_rfl) (by
 unfold Br WA;refine Wd.all λw=>?_;intro Q ⟨⟨⟨n,h⟩,a⟩,f⟩;have e:=(h.cl 1 (by decide)).1;exact⟨trivial,(λc=>by cases c),λ_=>⟨⟨a,e.2.2.2.2.1,e.2.2.2.2.2.2.1⟩,λb a=>f b a⟩⟩) (l:=λ_=>aR λ_=>⟨⟨0,[],[],([],[],[],()),_,[],[],[],[]⟩,(iD _).choose_spec⟩)
def isE(b:BL):Bool:=decide (b.length≤65536)&&((cR b 0 true 0 1 4).2.2==0&&((cR b 0 true 0 1 4).1==1&&dM b (lQ b true (0,0)).2.1 true (lQ b true (0,0)).2.2==0))
def reE(w:Wd)(i:Int)(b:BL):(Int×Nw)×Wd:=
 let r:=rK (w.cl i.toNat).c (w.cl i.toNat).se (w.cl i.toNat).lg (w.cl i.toNat).km (lQ b true (0,0)).1 w.ts w.m
 ((r.1.2,r.1.1),gA b i (r.1.2,r.1.1) (w.aft i.toNat ({w.cl i.toNat with lg:=r.2.1,km:=r.2.2.1},r.2.2.2)))
theorem JY{w:Wd}{i:Int}{b:BL}{y:(Int×Nw)×Wd}(h:isE b=true)(r:jS w i b y):y=reE w i b:=by
 unfold isE at h;simp only[aF,ah,aQ]at h;obtain⟨g,c,e,f⟩:=h;obtain⟨r,a,rfl⟩:=r;unfold oA at a;rw[ag (by omega)]at a;dsimp only at a;rw[ag (λq=>q c),an e,ag (λq=>q f)]at a;rw[a];rfl
def mbW(w:Wd)(n:Int):(Int×Int)×Wd:=
 let r:=reE (w.mb n [] (t8 w.go [])) 0 (gO (fJ w n []).1.1)
 ((0,(r.2.st.length:Int)+1),{r.2 with st:=r.2.st++[gO (fJ w n []).1.1],ln:=r.2.ln++[0]})
def Vy(w:Wd)(n:Int):Bool:=decide (Ab n ((cL w.lg.2.1 w.lg.2.1.length).map (·.1)) 0 w.al=[])&&((fJ w n []).1.2==0&&((vZ w n []).1==0&&isE (gO (fJ w n []).1.1)))
theorem Ru{w:Wd}{n:Int}{y:(Int×Int)×Wd}(h:Vy w n=true)(r:fi w n y):y=mbW w n:=by
 unfold Vy at h;simp only[aF,ah,aQ]at h;obtain⟨b,c,f,g⟩:=h;obtain⟨i,⟨a,_⟩,r⟩:=r;rw[b]at a;have e:i=[]:=List.map_eq_nil_iff.1 a;subst e;rw[ag (λq=>q c),ag (λq=>q f)]at r;obtain⟨z,j,rfl⟩:=r;rw[JY g j];rfl
theorem Vz:((List.range 32).all λn=>n % 2==0||Vy pl (n:Int))=true:=by kernel_rfl
theorem JZ{n:Int}(h:1≤n∧n≤31∧n % 2=1){y:(Int×Int)×Wd}(r:fi pl n y):y.1.1=0:=by
 have:=cM.1 Vz n.toNat (List.mem_range.2 (by omega));have e:((n.toNat:Nat):Int)=n:=by omega
 rw[ig,e]at this;rcases this with q|q
 ·exfalso;rw[aQ]at q;omega
 ·rw[Ru q r];rfl
theorem Rv{n:Int}(h:1≤n∧n≤31∧n % 2=1){y:(Int×Int)×Wd}(r:fi pl n y):Au y.2 [(0,true,())]∧di y.2 9998∧y.2.st.length=1∧y.2.lg.2.1.length=1:=by
 have a:=JZ h r;have b:=rQ (k:=9998) mH (by decide) r;rcases BU a6m (k:=9998) mH (by decide) r with⟨c,_⟩|⟨_,_,e,_,_,i,E,_,_,f,_,g,_⟩
 ·exact absurd a c
 ·exact⟨e,b.1,by rw[f];rfl,by rw[g];rfl⟩
def s71:lw:=(7,1,0,1,0,0,[],Lr)
def s72:lw:=(7,1,0,2,0,0,[],Lr)
def hW1:Wd:=(mbW pl 3).2
def B9:Wd:=(reE hW1 1 (hW1.st.getD 0 [])).2
def hZ:(BL×Int)×Pg×Ln×List Tm×KV:=BK (B9.cl 0).c (B9.cl 0).sg (B9.cl 0).lg (B9.cl 0).pg (B9.cl 0).km (B9.cl 0).bk [iC] (0,eW) B9.ts B9.m
def jL:Wd:=(Ec (B9.wrt 0 hZ) hZ.1.1 (MC (B9.wrt 0 hZ) 0 hZ.1.1)).2
theorem a6o{y:(Int×Int)×Wd}(h:fi pl 3 y):y.2=hW1:=by rw[Ru (by kernel_rfl) h];rfl
theorem a6p{y:ym}(h:mP hW1 s71 y):y.2=B9:=by
 unfold mP at h;rw[ag (by decide),ag (by decide),an (by decide),ag (am (by kernel_rfl))]at h;obtain⟨z,a,rfl⟩:=h;exact aI Prod.snd (JY (by kernel_rfl) a)
theorem a6q{y:ym}(h:mP B9 stA y):y.2=jL:=by
 unfold mP at h;rw[an (by decide)]at h;obtain⟨z,a,rfl⟩:=h;unfold mG at a;rw[ag (am (by kernel_rfl)),ag (am (by kernel_rfl))]at a;obtain⟨r,b,rfl⟩:=a;unfold yi at b;rw[ag (by decide),ag (by decide)]at b;obtain⟨p,l,e,n,o,b⟩:=b;have c:(B9.cl (0:Int).toNat).pg=iX:=by kernel_rfl
 have s:p=iX:=n.2.1 c;have m:=o.2 s rfl;have t:l=[iC]:=aI Prod.fst m;have u:e=0:=aI Prod.snd m;subst t u;rcases b with⟨q,_⟩|⟨_,v,z,⟨w,f,g⟩,a,rfl⟩
 ·exact absurd rfl q
 have i:w=iX:=f.2.1 c;have j:v=(0,eW):=g.2.1 i rfl;subst j;have a:z=hZ:=a;subst a;show(pD (B9.wrt 0 hZ) 0 hZ.1).2=jL;unfold pD;rw[ag (am (by kernel_rfl))];rfl
def hB:BL:=jL.st.getD 1 []
def hL:Lt×Rs:=mN hB true (0,0)
def Rw:(Lk×Int)×List Tm×KV:=tW (fQ (cL jL.c1.lg.2.1 hL.1.2.2.1) hL.1.2.1).1.2.2.1 hL.1 jL.ts jL.m
def VA:Int×List Tm×KV:=zP hL.1 Rw.1.1 jL.c1.la jL.c1.bk Rw.2.1 Rw.2.2
def Rx:(BL×Int)×List Tm×KV:=sG ((aU .i64 hL.1.2.2.1 jL.c1.km).getD []) hL.1 VA.2.1 VA.2.2
theorem a6r{z:yf}(h:jR jL.c1 hL.1 jL.ts jL.m z):z.1=0∧z.2.1=eW∧∀p∈z.2.2.1,p.2.length≤1048576:=by
 unfold jR at h;rw[ag (am (by kernel_rfl)),ag (am (by kernel_rfl))]at h;dsimp only at h;have h:(if Rw.1.2≠0 then z=(Rw.1.2,jL.c1.pg,jL.c1.bk,Rw.2)else if VA.1≠0 then z=(VA.1,jL.c1.pg,jL.c1.bk,VA.2)else if(vW jL.c1.lg.2.1.reverse hL.1.2.1).2=true∧(hL.1.1≠2∨(vW jL.c1.lg.2.1.reverse hL.1.2.1).1<hL.1.2.2.2.1)then z=(19,jL.c1.pg,jL.c1.bk,VA.2)else if(aU .i64 hL.1.2.2.1 jL.c1.km).isSome=false then z=(22,jL.c1.pg,jL.c1.bk,VA.2)else if Rx.1.2≠0 then z=(Rx.1.2,jL.c1.pg,jL.c1.bk,Rx.2)else t7 hL.1 Rw.1.1 Rx.1.1 jL.c1.pg jL.c1.bk Rx.2.1 Rx.2.2 z):=h;rw[ag (am (by kernel_rfl)),ag (am (by kernel_rfl)),ag (am (by kernel_rfl)),ag (am (by kernel_rfl)),ag (am (by kernel_rfl))]at h;unfold t7 at h;rw[an (ai (by kernel_rfl))]at h;have e:=h.2.2 (by kernel_rfl) (by kernel_rfl) (by kernel_rfl);have a:((D7 Rw.1.1 jL.c1.pg jL.c1.bk (0,eW) Rx.2.1 Rx.2.2).2.2.1.all λp=>decide (p.2.length≤1048576))=true:=by kernel_rfl
 rw[e];exact⟨by kernel_rfl,by kernel_rfl,λp b=>ai (cM.1 a p b)⟩
theorem a6s{y:ym}(h:mP jL s72 y):y.1.1=0∧y.2.c1.pg=eW∧y.2.st.length=2∧∀p∈y.2.c1.bk,p.2.length≤1048576:=by
 unfold mP at h;rw[ag (by decide),ag (by decide),an (by decide),ag (am (by kernel_rfl))]at h;obtain⟨z,b,rfl⟩:=h;obtain⟨r,a,rfl⟩:=b;have a:oA jL.c1 hB jL.ts jL.m r:=a;unfold oA at a;rw[ag (am (by kernel_rfl))]at a;dsimp only at a;rw[ag (am (by kernel_rfl)),ag (am (by kernel_rfl)),ag (am (by kernel_rfl))]at a;obtain⟨x,f,n,b,-,l,rfl⟩:=a;obtain⟨e,g,i⟩:=a6r b;obtain⟨j,o,q,c⟩:=oH (jL.st.getD (s72.2.2.2.1-1).toNat []) s72.2.1 (x.1,n) (jL.aft s72.2.1.toNat ({jL.c1 with pg:=x.2.1,la:=yg hL.1 x.1 jL.c1.la,fk:=f,bk:=x.2.2.1},x.2.2.2));refine⟨e,?_,?_,λp s=>i p ?_⟩
 ·exact(aI Cl.pg (c 1)).trans g
 ·refine(aI ac j.st).trans ?_;show jL.st.length=2;kernel_rfl
 ·rwa [←show _=x.2.2.1 from aI Cl.bk (c 1)]
def xY:Ct:=⟨0,⟨[],[]⟩,[⟨[sL 0],[]⟩],λ_=>one True (true,())⟩
abbrev vS(v:Bool×Unit):aN xY.out:=⟨0,v⟩
def J0:bu:=(8,[xY])::Rt
theorem At:KK J0:=kA a2q (cv xY 0) (∀(Q:aN xY.out→Prop),let z:Prop:=true=false→Q (vS (false,()));(Ct.spec xY ()).sat Q→(true=true→∀(b:(Int×Int)×Wd),let f:=cw (dO b.2);fi pl 3 b→((([]:BL)).length≤1000000∧kW f∧∃c,di f (c+5*b.2.st.length+3))∧∀(d:(Int×Int×Nw)×Wd),let g:=cw (dO d.2);mP f (7,1,0,1,0,0,([]:BL),0,0,0,0,[],[],[],()) d→((([97]:BL)).length≤1000000∧kW g∧∃c,di g (c+5*d.2.st.length+3))∧∀(b:(Int×Int×Nw)×Wd),let h:=cw (dO b.2);mP g (1,0,0,0,0,0,([97]:BL),0,0,0,0,[],[],[],()) b→((([]:BL)).length≤1000000∧kW h∧∃c,di h (c+5*b.2.st.length+3))∧∀(a:(Int×Int×Nw)×Wd),mP h (7,1,0,2,0,0,([]:BL),0,0,0,0,[],[],[],()) a→Br (a.1.1==0) (((∃c,di (cw (dO a.2)) c)∧∀(p:Int×List Kn),p∈a.2.c1.bk→ac p.2≤1048576)∧∀(b:Cl),iL a.2.c1.pg b.pg→cb b.pg∧∀(e:Pg),iL b.pg e→e=([((0,1,()),0,1,0,0,true,97,())],[],[],([((0,0,()),0,0,0,false,[[],[(0,1,())]],()),((0,1,()),0,1,97,false,[[],[]],())],0,()),([],()),())∧(true=true→(a.2.st.length≤1000000∧∀(b:BL),b∈a.2.st→b.length≤10000000)∧Q (vS ((↑a.2.st.length:Int)==2,())))∧z) (Q (vS (false,()))))∧z) (by kernel_rfl) (by
 conv=>zeta
 unfold Br dO;rintro Q ⟨_,v⟩;refine⟨λ_ g h=>?_,λc=>by cases c⟩;have h:fi pl 3 g:=h;obtain⟨l,w,L,_⟩:=Rv (n:=3) (by decide) h;have m:di g.2 (9980+5*g.2.st.length+3):=w.mono (by omega);refine⟨⟨aq _,jF l,_,m⟩,λi a=>?_⟩;have a:mP g.2 s71 i:=a;have o:=(MJ l m a).au;have y:=rR m (jF l) (by omega) a;have q:di i.2 (9950+5*i.2.st.length+3):=y.1.mono (by omega);refine⟨⟨by show 1≤1000000;decide,jF o,_,q⟩,λj e=>?_⟩;have e:mP i.2 stA j:=e;have r:=(MJ o q e).au;have z:=rR q (jF o) (by omega) e;have s:di j.2 (9900+5*j.2.st.length+3):=z.1.mono (by omega);refine⟨⟨aq _,jF r,_,s⟩,λA f=>?_⟩;have f:mP j.2 s72 A:=f;have t:=rR s (jF r) (by omega) f;have B:=a6o h;rw[B]at a;have C:=a6p a;rw[C]at e;have D:=a6q e;rw[D]at f;obtain⟨E,F,G,H⟩:=a6s f;refine⟨λ_=>⟨⟨⟨_,t.1⟩,H⟩,λb u=>⟨u.1,λp J=>⟨J.2.2 (u.2.2 F),λ_=>⟨⟨by omega,λx K=>by have:=t.1.st.2.2 x K;omega⟩,?_⟩,λc=>by cases c⟩⟩⟩,λc=>?_⟩
 ·rw[G];exact v
 ·rw[E]at c;exact by cases c)
theorem nbq{a b:BL}(h:(!(a==b))=true):a≠b:=by simpa using h
theorem a6t{a b:BL}(h:(!(a==b))=false):a=b:=by simpa using h
structure Ry(w:Wd)(md:List Md)(ms:List (List Int))(k:Nat):Prop where
 au:Au w md
 ok:di w (9998-210*k)
 st:w.st.length≤k+1
 ms:ms=w.lg.2.1.map λe=>e.2.2.1.map (·.1)
theorem xZ{w:Wd}{es:List Et}{e:Et}(h:w.lg.2.1=es++[e]):w.ids=e.2.2.1.map (·.1):=by
 unfold Wd.ids cL;rw[h,aa,bb,ag (by omega)];rw[show((((es.length+1:Nat):Int))-1).toNat=es.length by omega,az,bB (aC _)];simp
theorem a6u{w:Wd}{s:lw}{y:ym}(h:mP w s y)(a:s.1=7):y.1.2.1=0:=by
 unfold mP at h;rw[ag (λq=>absurd a (Vs q).2),ag (As a (by decide)),an a]at h;split at h
 ·rw[h];rfl
 ·obtain⟨z,_,rfl⟩:=h;rfl
theorem a6v{n:Int}(g:1≤n∧n≤31∧n % 2=1){y:(Int×Int)×Wd}(b:Au y.2 [(0,true,())])(c:di y.2 9998)(h:y.2.st.length=1)(f:y.2.lg.2.1.length=1):Ry y.2 [(0,true,())] [y.2.ids] 0:=by
 refine⟨b,c,by omega,?_⟩;obtain⟨e,a⟩:=List.length_eq_one_iff.1 f;rw[xZ (es:=[]) a,a];rfl
theorem ML{w:Wd}{md:List Md}{ms:List (List Int)}{k:Nat}(T:Ry w md ms k)(h:k<40){s:lw}{y:ym}(b:mP w s y):Ry y.2 (v4 md s y) (Ro ms s y) (k+1):=by
 obtain⟨A,O,S,M⟩:=T;have c:di w ((9998-210*(k+1))+5*w.st.length+3):=O.mono (by omega);have D:=MJ A c b;have W:=rR c (jF A) (by omega) b;refine⟨D.au,W.1,by omega,?_⟩;unfold Ro;split
 ·rename_i g;rw[D.lg0 (λq=>q.1 g)];exact M
 ·rename_i g;split
  ·rename_i a;obtain⟨e,f⟩:=D.lg1 g a;rw[xZ f,f,dl,M];rfl
  ·rename_i a;rw[D.lg0 (λq=>a q.2)];exact M
def VB(w:Wd)(md:List Md)(ms:List (List Int))(b:BL)(a:Nw)(r:Nat):Prop:=
 w.st.getD r []=b∧0≤(md.getD r (0,false,())).1∧
 if a.1=1 then(md.getD r (0,false,())).2.1=true∧(md.getD r (0,false,())).1=0∧Ao b=a.2.2.1
 else(kZ b).2=true∧(kZ b).1.2.1=a.2.1∧(kZ b).1.2.2.1=a.2.2.1∧(kZ b).1.2.2.2.1=a.2.2.2.1∧(kZ b).1.1=a.1∧(md.getD r (0,false,())).1=(kZ b).1.2.1∧xV ms (kZ b).1.2.2.1 (kZ b).1.2.1=true∧((md.getD r (0,false,())).2.1=true∨(decide (0≤(kZ b).1.2.1)&&decide ((kZ b).1.2.1<5)&&w.go.getD (kZ b).1.2.1.toNat false)=true)
theorem VC{e:Et}(h:lD e=true):Ao (gO e)=e.1:=by
 obtain⟨a,b,c⟩:=a1f h;unfold Ao;rw[b];dsimp only;rw[c,ag (λq=>q rfl)]
theorem VD{l:Lt}(h:mM l=true):kZ (hX l)=(l,true):=by
 obtain⟨a,b,c⟩:=a1e h;unfold kZ;rw[b];dsimp only;rw[c];rfl
theorem MM{es:List Et}{n id:Int}(h:(fQ (cL es n) id).2=true):xV (es.map λe=>e.2.2.1.map (·.1)) n id=true:=by
 obtain⟨a,c⟩:=vH h;generalize(fQ (cL es n) id).1=x at*;unfold cL at a;split at a
 ·exact by cases a
 rename_i g;unfold xV;rw[bT,decide_eq_true (by omega),fL,List.contains_iff_mem];have b:(n-1).toNat<es.length:=by omega
 rw[az,ap b]at a;rw[az,List.getElem?_map,ap b];exact dY.2 ⟨_,a,c⟩
theorem MN{w:Wd}{md:List Md}{ms:List (List Int)}{k:Nat}(T:Ry w md ms k){b:BL}{v:Nw}(F:DO w md b v):∃r,r<md.length∧VB w md ms b v r:=by
 have x:∀{n:Nat}{a:Md},md[n]?=some a→n<md.length∧md.getD n (0,false,())=a:=λh=>⟨(dd.1 h).1,by rw[az,h];rfl⟩;have y:∀{n:Nat}{a:BL},w.st[n]?=some a→w.st.getD n []=a:=λh=>by rw[az,h];rfl
 rcases F with⟨g,n,e,i,j,m,f,o⟩|⟨g,n,l,z,i,j,m,f,o,A,B,C,p,s⟩
 ·obtain⟨t,c⟩:=x j;refine⟨n,t,y i,by rw[c];exact cr _,?_⟩;rw[an g,c,m,VC f];exact⟨rfl,rfl,o⟩
 ·obtain⟨t,c⟩:=x j;have u:=(fv f).1;refine⟨n,t,y i,by rw[c];exact u.2.2.1,?_⟩;rw[ag g,c,m,VD f,T.ms];refine⟨rfl,A.symm,B.symm,C.symm,o.symm,rfl,MM p,s.imp id λq=>?_⟩;dsimp only;rw[decide_eq_true u.2.2.1,decide_eq_true u.2.2.2.1,q];rfl
def x6:Ct:=⟨2,⟨[sI 0,(1,false,[.d (.sl I9)])],[]⟩,[⟨[sL 0],[]⟩],λ_=>one True (true,())⟩
def cTr(j:Nat):Option CP:=some (.cells [.ptr j 0, .d (.sl tMd), .d tMs])
def a2r:cc:=⟨[(5,false,[.ptr 0 0]),(32,false,[.d (.sl I9)]),sI 33,sI 34],[cTr 1]++BO 1 21++pT 21⟩
def DZ(x:x6.inp.den)(y:a2r.den):Prop:=match x,y with
 |(_,a,_),(l,H,i,J,K,L,M,N,O,P,Q,R,S,U,b,c,e,f,g,h,j,m,n,o,p,q,r,t,u,v,w,z,A,B,C,D,E,F,G,_)=>l=a∧H=a.length∧a.length≤40∧(∀s∈a,Vq s)∧∃k:Nat,i=k∧k≤a.length∧Ry (cw (L,M,N,O,P,Q,R,S,U,b,c,e,f,g,h,j,m,n,o,p,q,r,t,u,v,w,z,A,B,C,D,E,F,G,())) J K k
def a2s:cc:=⟨[(5,false,[.ptr 0 0]),(10,false,[.ptr 1 0]),(11,false,[.d (.sl tB)]),(12,false,[.d .st]),sL 13,(32,false,[.d (.sl I9)]),sI 33,sI 34,(64,false,[.d (.sl tMd)]),sI 65,sI 66],[cTr 2,Eb]++BO 2 22++pT 22⟩
def vT(x:x6.inp.den)(i0:Int)(y:a2s.den):Prop:=match x,y with
 |(_,M,_),(st,b,N,l,ln,i,a0,a1,j,L,ms,sn,O,P,Q,R,S,U,W,X,Y,a,c,e,f,g,h,m,n,o,p,t,u,v,w,z,A,B,C,D,E,F,G,H,J,K,_)=>l=M∧ln=M.length∧M.length≤40∧(∀s∈M,Vq s)∧i=i0∧(∃k:Nat,i=k∧k<M.length∧Ry (cw (O,P,Q,R,S,U,W,X,Y,a,c,e,f,g,h,m,n,o,p,t,u,v,w,z,A,B,C,D,E,F,G,H,J,K,())) L ms (k+1))∧st=(cw (O,P,Q,R,S,U,W,X,Y,a,c,e,f,g,h,m,n,o,p,t,u,v,w,z,A,B,C,D,E,F,G,H,J,K,())).st∧a0=L∧a1=L.length∧(∃r,r<L.length∧VB (cw (O,P,Q,R,S,U,W,X,Y,a,c,e,f,g,h,m,n,o,p,t,u,v,w,z,A,B,C,D,E,F,G,H,J,K,())) L ms b sn.2.2 r)∧∃r:Nat,j=r∧r≤L.length∧((∃q,q<r∧VB (cw (O,P,Q,R,S,U,W,X,Y,a,c,e,f,g,h,m,n,o,p,t,u,v,w,z,A,B,C,D,E,F,G,H,J,K,())) L ms b sn.2.2 q)→N=true)
def a6w(x:x6.inp.den):dG:=⟨[(5,og a2r (DZ x) (λ(_,b,i,_)=>(@bG Int Int Int _ b i).toNat) λ(_,_,c,_)=>[(14,bM a2s (vT x c) λ(_,_,_,_,_,_,_,a,j,_)=>(@bG Int Int Int _ a j).toNat)])],[],[],[],0⟩
abbrev J1(v:Bool×Unit):aN x6.out:=⟨0,v⟩
theorem J2:bO Tryz.prog 3 x6:=kC At a6w (∀(g:Int)(i:List (Int×Int×Int×Int×Int×Int×BL×Lt))(Q:aN x6.out→Prop),let X:Prop:=1≤g∧g≤31∧g % (2:Int)=1;let D:Prop:=True∧Q (J1 (true,()));(Ct.spec x6 (g,i,())).sat Q→Br (decide X) (∀(b:(Int×Int)×Wd),fi pl g b→True∧∀(g6:Bool),(g6=true→i.length≤40∧∀(s:Int×Int×Int×Int×Int×Int×BL×Lt),s∈i→Vq s)→Br (!g6) D (Is (DZ (g,i,()) (i,(↑i.length:Int),0,[(0,true,())],[b.2.ids],dO b.2))∧∀(M:List (Int×Int×Int×Int×Int×Int×BL×Lt))(E e:Int)(J:List (Int×Bool×Unit))(U:La),let A:=M.getD e.toNat (0,0,0,0,0,0,[],0,0,0,0,[],[],[],());WA λd3 d4 d5 d6 d7 d8 d9 e0 e1 e2 e3 e4 e5 e6 e7 e8 e9 f0 f1 f2 f3 f4 f5 f6 f7 f8 f9 g0 g1 g2 g3 g4 Y g5=>let z6:=(d4,d5,d6,d7,d8,d9,e0,e1,e2,e3,e4,e5,e6,e7,e8,e9,f0,f1,f2,f3,f4,f5,f6,f7,f8,f9,g0,g1,g2,g3,g4,Y,g5,());let F:=cw (d3,z6);DZ (g,i,()) (M,E,e,J,U,d3,z6)→Br (decide (e<E)) ((0≤e∧e<(↑M.length:Int))∧(J.length≤1000∧U.length≤1000∧ac A.2.2.2.2.2.2.1≤1000000∧kW F∧Y.length<900∧∃g,di F (g+5*Y.length+3))∧∀(b:(Int×Int×Nw)×Wd),let z9:Prop:=ae (e+1)∧Is (DZ (g,i,()) (M,E,e+1,v4 J A b,Ro U A b,dO b.2)∧(E-(e+1)).toNat<(E-e).toNat);mP F A b→Br (!A.1==7) z9 (Br (!b.1.1==0) z9 ((b.2.st.length≤1000000∧∀(N:BL),N∈b.2.st→N.length≤10000000)∧ae (A.2.2.2.1-1)∧(0≤A.2.2.2.1-1∧A.2.2.2.1-1<(↑b.2.st.length:Int))∧Is (vT (g,i,()) e (b.2.st,b.2.st.getD (A.2.2.2.1-1).toNat [],false,M,E,e,v4 J A b,(↑(v4 J A b).length:Int),0,v4 J A b,Ro U A b,b.1,dO b.2))∧∀(h:List BL)(o:BL)(f:Bool)(q:List (Int×Int×Int×Int×Int×Int×BL×Lt))(p m:Int)(d:List (Int×Bool×Unit))(c a:Int)(r:List (Int×Bool×Unit))(k:La)(j:Int×Int×Nw),let g7:= !h.getD a.toNat []==o;let G:Prop:=0≤a∧a<(↑h.length:Int);let B:=h.getD a.toNat [];let H:=mN B true (0,0);let O:Prop:=(c-(a+1)).toNat<(c-a).toNat;let x:=d.getD a.toNat (0,false,());WA λt u n v w y z a0 a1 a2 a3 a4 a5 a6 a7 a8 a9 b0 b1 b2 b3 b4 b5 b6 b7 b8 b9 c0 c1 c2 c3 c4 c5 c6=>let z8:=(t,u,n,v,w,y,z,a0,a1,a2,a3,a4,a5,a6,a7,a8,a9,b0,b1,b2,b3,b4,b5,b6,b7,b8,b9,c0,c1,c2,c3,c4,c5,c6,());let K:=(r,k,j,z8);let P:Prop:=ae (a+1)∧Is (vT (g,i,()) e (h,o,f,q,p,m,d,c,a+1,K)∧O);let W:Prop:=ae (a+1)∧Is (vT (g,i,()) e (h,o,true,q,p,m,d,c,a+1,K)∧O);let L:Prop:=ae (a+1)∧Is (vT (g,i,()) e (h,o,false,q,p,m,d,c,a+1,K)∧O);let R:Prop:=(x.1==0)=false→f=false∧L;let S:Prop:=x.2.1=false→f=false∧f=false∧f=false∧L;let C:Prop:=Br f W L;vT (g,i,()) e (h,o,f,q,p,m,d,c,a,K)→Br (decide (a<c)) ((0≤a∧a<(↑d.length:Int))∧G∧Br g7 P (Br (decide (x.1<0)) P (Br (j.2.2.1==1) (Br f (f=true∧f=true∧f=true∧f=true∧f=true∧f=true∧W) (f=false∧f=false∧Br (x.2.1) (x.2.1=true∧x.2.1=true∧f=false∧(x.2.1=true→f=false∧Br (x.1==0) ((x.1==0)=true∧(x.1==0)=true∧G∧(x.1==0)=true∧(x.1==0)=true∧B.length≤10000000∧∀(b:Int),b=Ao B→(x.1==0)=true∧(x.1==0)=true∧(x.1==0)=true∧(x.1==0)=true∧f=false∧((x.1==0)=true→f=false∧ae (a+1)∧Is (vT (g,i,()) e (h,o,b==j.2.2.2.2.1,q,p,m,d,c,a+1,K)∧O))∧R) ((x.1==0)=false∧(x.1==0)=false∧(x.1==0)=false∧(x.1==0)=false∧(x.1==0)=false∧(x.1==0)=false∧(x.1==0)=false∧(x.1==0)=false∧f=false∧((x.1==0)=true→f=false∧ae (a+1)∧False)∧R))∧S) (x.2.1=false∧x.2.1=false∧f=false∧(x.2.1=true→f=false∧f=false∧False)∧S))) (G∧B.length≤10000000∧∀(b:Lt×Bool),let g8:=b.1.2.2.1==j.2.2.2.2.1;let g9:=b.1.2.2.2.1==j.2.2.2.2.2.1;b=(H.1,dM B H.2.1 true H.2.2==0)→Br (b.2) (Br (b.1.2.1==j.2.2.2.1) (Br g8 (Br g9 (Br f W (Br (b.1.1==j.2.2.1) (Br (x.1==b.1.2.1) ((k.length≤1000∧∀(l:List Int),l∈k→l.length≤1000)∧∀(N:Bool),N=xV k b.1.2.2.1 b.1.2.1→Br N (Br (x.2.1) W (n.length=5∧ae (a+1)∧Is (vT (g,i,()) e (h,o,decide (0≤b.1.2.1)&&decide (b.1.2.1<5)&&n.getD (Int.toNat b.1.2.1) false,q,p,m,d,c,a+1,K)∧O))) L) L) L)) C) C) C) C)))) (Br (!f) (Q (J1 (false,()))) (ae (m+1)∧Is (DZ (g,i,()) (q,p,m+1,r,k,z8)∧(p-(m+1)).toNat<(E-e).toNat)))))) D)) D) (by kernel_rfl) (by
 conv=>zeta
 unfold Br WA dO;intro n l0 Q ⟨_,hQ⟩;have hq:Q ⟨0,(true,())⟩:=hQ;clear hQ;refine⟨λc=>?_,λ_=>⟨trivial,hq⟩⟩;have c:=ai c;intro y0 h0;have h0:fi pl n y0:=h0;obtain⟨a2,a3,a4,a5⟩:=Rv c h0;refine⟨trivial,λsm a0=>⟨λ_=>⟨trivial,hq⟩,λd=>?_⟩⟩;have d:sm=true:=by simpa using d
 obtain⟨B,t⟩:=a0 d;clear a0 d;have tt:=a6v c a2 a3 a4 a5;refine⟨⟨⟨rfl,rfl,B,t,0,rfl,aq _,tt⟩⟩,?_⟩;clear tt a2 a3 a4 a5 h0;intro l ln i X ms;refine Wd.all λw=>?_;rintro⟨K,L,-,-,k,M,hk,T⟩;have K:l=l0:=K;have L:ln=(l0.length:Int):=L;have M:i=(k:Int):=M;have hk:k≤l0.length:=hk;have T:Ry w X ms k:=T;subst K L M;have ek:((k:Int).toNat)=k:=by omega
 rw[ek];refine⟨λc1=>?_,λ_=>⟨trivial,hq⟩⟩;have C:k<l.length:=by have:=ai c1;omega
 have hs:=t _ (aT (z:=((0,0,0,0,0,0,[],0,0,0,0,[],[],[],()):lw)) C);generalize l.getD k ((0,0,0,0,0,0,[],0,0,0,0,[],[],[],()):lw)=s at*;have N:=T.au.ml;have b2:=T.au.le;have b3:=T.st;have b4:ms.length=w.lg.2.1.length:=by rw[T.ms,bT]
 have w0:di w ((9998-210*(k+1))+5*w.st.length+3):=T.ok.mono (by omega);refine⟨by omega,⟨by omega,by omega,by have:=hs.1;omega,jF T.au,by omega,_,w0⟩,λy Y=>?_⟩;have Y:mP w s y:=Y;have D:=MJ T.au w0 Y;have O:=ML T (by omega) Y
 have nx:∀i:Int,i=(k:Int)→ae (i+1)∧Is (DZ (n,l,()) (l,(l.length:Int),i+1,v4 X s y,Ro ms s y,y.2.sec,y.2.al,y.2.go,y.2.d,y.2.m,(cA y.2.c0),(bC y.2.c0),y.2.c0.km,(cA y.2.c1),(bC y.2.c1),y.2.c1.km,(cA y.2.c2),(bC y.2.c2),y.2.c2.km,(cA y.2.c3),(bC y.2.c3),y.2.c3.km,(cA y.2.c4),(bC y.2.c4),y.2.c4.km,y.2.k0,y.2.k1,y.2.k2,y.2.k3,y.2.k4,y.2.lg,y.2.ts,y.2.c0.bk,y.2.c1.bk,y.2.c2.bk,y.2.c3.bk,y.2.c4.bk,y.2.st,y.2.ln,())∧(@bG Int Int Int _ (l.length:Int) (i+1)).toNat<(@bG Int Int Int _ (l.length:Int) (k:Int)).toNat):=by
  intro i hi;subst hi;exact⟨by unfold ae;omega,⟨⟨rfl,rfl,B,t,k+1,rfl,C,O⟩,by omega⟩⟩
 refine⟨λ_=>nx _ rfl,λc2=>⟨λ_=>nx _ rfl,λc3=>?_⟩⟩;have s7:s.1=7:=aD.1 (jX c2);have a1:y.1.1=0:=aD.1 (jX c3);have y1:=a6u Y s7;obtain⟨F,g1,g2⟩:=D.give s7 a1;have P:y.2.st=w.st:=D.st0 y1;have a6:y.2.lg=w.lg:=D.lg0 λq=>q.1 y1;have a7:y.2.go=w.go:=D.go.resolve_right (As s7 (by decide));have a8:v4 X s y=X:=an y1;have g1:@aZ Int _ 1 s.2.2.2.1:=g1;have g2:@aZ Int _ s.2.2.2.1 w.st.length:=g2
 have F1:DO y.2 (v4 X s y) (y.2.st.getD (s.2.2.2.1-1).toNat []) y.1.2.2:=by
  unfold DO at F⊢;rw[P,a6,a7,a8];exact F
 obtain⟨r0,r1,r2⟩:=MN O F1;have hb:=O.ok.st.2.2;have E:y.2.st.length≤1000:=O.ok.st.1;have b5:(v4 X s y).length=y.2.st.length:=O.au.ml;refine⟨⟨by omega,λx G=>by have:=hb x G;omega⟩,by unfold ae;omega,by rw[P];omega,⟨⟨rfl,rfl,B,t,rfl,⟨k,rfl,C,O⟩,rfl,rfl,rfl,⟨r0,r1,r2⟩,0,rfl,aq _,λq=>by obtain⟨_,q,_⟩:=q;exact absurd q (Nat.not_lt_zero _)⟩⟩,?_⟩;clear hb r0 r1 r2 F F1 a8 a7 a6 P y1 O D Y N b2 b3 b4 w0 T E b5 c1 c2 c3 g1 g2 a1 s7;intro st b p l2 b6 i2 a lm j h o sn;refine Wd.all λv=>?_;rintro⟨K,L,-,-,M,⟨R,e4,-,A⟩,e5,e6,e7,G,r,e8,hr,hf⟩;have K:l2=l:=K;have L:b6=(l.length:Int):=L;have M:i2=(k:Int):=M;have b7:R=k:=by have e4:i2=(R:Int):=e4;omega
 subst b7;have e5:st=v.st:=e5;have e6:a=h:=e6;have e7:lm=(h.length:Int):=e7;have e8:j=(r:Int):=e8;have hr:r≤h.length:=hr;have A:Ry v h o (R+1):=A;have hf:(∃q,q<r∧VB v h o b sn.2.2 q)→p=true:=hf;have G:∃q,q<h.length∧VB v h o b sn.2.2 q:=G;subst K L M e5 e6 e7 e8;have er:((r:Int).toNat)=r:=by omega
 rw[er];have N:=A.au.ml;have E:=A.ok.st.1;refine⟨λd1=>?_,λd1=>⟨λH=>?_,λH=>⟨by unfold ae;omega,⟨⟨rfl,rfl,B,t,R+1,rfl,C,A⟩,by omega⟩⟩⟩⟩
 ·have S:r<a.length:=by have:=ai d1;omega
  have g:∀f:Bool,(VB v a o b sn.2.2 r∨p=true→f=true)→Is (vT (n,l2,()) (R:Int) (v.st,b,f,l2,(l2.length:Int),(R:Int),a,(a.length:Int),(r:Int)+1,a,o,sn,v.sec,v.al,v.go,v.d,v.m,(cA v.c0),(bC v.c0),v.c0.km,(cA v.c1),(bC v.c1),v.c1.km,(cA v.c2),(bC v.c2),v.c2.km,(cA v.c3),(bC v.c3),v.c3.km,(cA v.c4),(bC v.c4),v.c4.km,v.k0,v.k1,v.k2,v.k3,v.k4,v.lg,v.ts,v.c0.bk,v.c1.bk,v.c2.bk,v.c3.bk,v.c4.bk,v.st,v.ln,())∧(@bG Int Int Int _ (a.length:Int) ((r:Int)+1)).toNat<(@bG Int Int Int _ (a.length:Int) (r:Int)).toNat):=by
   intro f b8;refine⟨⟨rfl,rfl,B,t,rfl,⟨R,rfl,C,A⟩,rfl,rfl,rfl,G,r+1,rfl,S,λq=>b8 ?_⟩,by omega⟩;obtain⟨q,q1,U⟩:=q;rcases bN q r with u|u
   ·exact .inr (hf ⟨q,u,U⟩)
   ·rw[show q=r by omega]at U;exact .inl U
  have nI:ae ((r:Int)+1):=by unfold ae;omega
  have a9:(0:Int)≤r∧(r:Int)<v.st.length:=by omega
  have b9:(0:Int)≤r∧(r:Int)<a.length:=by omega
  have b0:=A.ok.st.2.2 _ (aT (z:=([]:BL)) (show r<v.st.length by omega));have b0:(v.st.getD r []).length≤10000000:=by omega
  have b1:o.length≤1000∧∀x∈o,x.length≤1000:=by
   rw[A.ms,bT];refine⟨by have:=A.au.le;omega,λx G=>?_⟩;obtain⟨e,he,rfl⟩:=dY.1 G;rw[bT];have:=A.ok.l5 e he;omega
  have c5:v.go.length=5:=A.ok.go;unfold VB at g;clear hf G A N E;generalize a.getD r (0,false,())=m at*;generalize v.st.getD r []=sb at*;refine⟨b9,a9,λH=>⟨nI,g _ λq=>q.elim (λq=>absurd q.1 (nbq H)) id⟩,λH=>?_⟩;have H:sb=b:=a6t H;subst H;refine⟨λd3=>⟨nI,g _ λq=>q.elim (λq=>absurd q.2.1 (by have:=ai d3;exact Int.not_le.2 this)) id⟩,λd3=>⟨λW=>?_,λW=>⟨a9,b0,λrd J=>?_⟩⟩⟩
  ·have W:sn.2.2.1=1:=be W;simp only[an W]at g
   (repeat' (first|exact nI|assumption|with_reducible apply bQ|intro _))<;>first
    |assumption
    |exact g _ (λ_=>rfl)
    |(exfalso;exact Bool.noConfusion (‹m.2.1=true›.symm.trans ‹m.2.1=false›))
    |(exfalso;exact Bool.noConfusion (‹(m.1==0)=true›.symm.trans ‹(m.1==0)=false›))
    |(refine g _ λq=>?_
      rcases q with⟨_,_,q1,U,q3⟩|q
      ·first
        |exact Bool.noConfusion (q1.symm.trans ‹m.2.1=false›)
        |exact absurd U (aA ‹(m.1==0)=false›)
        |(subst_vars;rw[q3];exact beq_self_eq_true _)
      ·exact Bool.noConfusion (q.symm.trans ‹p=false›))
  ·have W:sn.2.2.1≠1:=aA W;simp only[ag W]at g;have J:rd=kZ sb:=J;rw[←J]at g;clear J
   (repeat' (first|exact nI|assumption|with_reducible apply bQ|intro _))<;>first
    |assumption
    |exact g _ (λ_=>rfl)
    |exact b1.2 _ ‹_›
    |(refine g _ λq=>?_
      rcases q with⟨_,_,q1,U,q3,q4,q5,q6,q7,q8⟩|q
      ·first
        |exact Bool.noConfusion (q1.symm.trans ‹rd.2=false›)
        |exact absurd U (aA ‹_›)
        |exact absurd q3 (aA ‹_›)
        |exact absurd q4 (aA ‹_›)
        |exact absurd q5 (aA ‹_›)
        |exact absurd q6 (aA ‹_›)
        |exact Bool.noConfusion (q7.symm.trans (‹_=xV _ _ _›.symm.trans ‹_=false›))
        |exact q8.resolve_left λu=>Bool.noConfusion (u.symm.trans ‹m.2.1=false›)
      ·exact Bool.noConfusion (q.symm.trans ‹p=false›))
 ·exfalso;have S:r=a.length:=by have:=am d1;omega
  subst S;rw[hf G]at H;exact by cases H)
def a2t:bu:=(3,[x6])::J0
theorem a7b:KK a2t:=⟨aP.add At.1 (by kernel_rfl) (bo (J2)),bg.add At.2 (bo (λ_=>bH))⟩
end Go.Tp
