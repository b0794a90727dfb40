/- A part of the proof of TopAuthenticSaid: no conditions; packed by a program of our own. -/
import Derived.Test.YtgpideichgnmhaaGreatPaan
import Derived.Test.YtgpideichgnmhaaGreatPaaf
import Derived.Test.YtgpideichgnmhaaGreatRows
open And renaming intro→bQ
open BitVec renaming ofNat→af
open Bool renaming not_eq_true'→aO,not_eq_false'→aJ
open Decidable renaming not_not→aD
open HSub renaming hSub→bG
open Int renaming toNat_natCast→aG,eq_ofNat_of_zero_le→cq,le_refl→cr
open LE renaming le→aZ
open List renaming replicate→ak,length_append→aa,length_cons→bd,append_assoc→ay,mem_append→aY,append_nil→bj,mem_cons→br,getElem?_append_right→bB,length_take→bi,length→ac,getD_eq_getElem?_getD→az,getElem?_eq_none→bY,map_append→dl,length_map→bT,mem_map→dY,map→rU,mem_cons_self→aM,mem_cons_of_mem→aE,getElem?_eq_some_iff→dd,mem_singleton→cg,length_singleton→bb,take_length→bp,length_set→cz
open Nat renaming min_eq_left→ee,le_refl→aC,le_trans→bA,zero_le→aq,lt_or_ge→bN
namespace Go.Tp
open Go.Hv Go.Proofs Go.RowKit
set_option maxRecDepth 100000
set_option maxHeartbeats 0
theorem Jf(w:Wd)(d:Int)(z:List Tm×KV){i:Nat}(hi:i<5):(w.su d z).cl i=w.cl i:=by rcases io hi with rfl|rfl|rfl|rfl|rfl<;>rfl
theorem U7{w:Wd}{md:List Md}(h:Au w md){n:Nat}(x:di w (n+1)){s:lw}:
 ((ip w s).1.1≠0∧(ip w s).1.2=0∧(ip w s).2.st=w.st∧Au (ip w s).2 md∧eP w (ip w s).2)∨
 ((ip w s).1.1=0∧(ip w s).1.2=(w.st.length:Int)+1∧Au (ip w s).2 (md++[(s.2.1,false,())])∧∃b,(ip w s).2.st=w.st++[b]∧(ip w s).2.lg=w.lg):=by
 have err:∀e:Int,e≠0→∀z:Ad,z=((e,0),w)→(z.1.1≠0∧z.1.2=0∧z.2.st=w.st∧Au z.2 md∧eP w z.2):=by
  intro e A z B;subst B;exact⟨A,rfl,rfl,h,⟨rfl,rfl,rfl,rfl,rfl⟩⟩
 unfold ip;split
 ·exact .inl (err 26 (by decide) _ rfl)
 rename_i no;rw[not_or,not_or,not_or]at no;obtain⟨C,D,K,u⟩:=no;split
 ·exact .inl (err 22 (by decide) _ rfl)
 dsimp only;obtain⟨a,f⟩:=cq (Int.not_lt.1 C);have E:s.2.1.toNat=a:=by rw[f,aG]
 have i:a<5:=by
  have q:=Int.not_le.1 D;rw[f]at q;exact Int.ofNat_lt.1 q
 rw[E]at u⊢;have F:Su (10000*(n+1)+9000+4) w.ts w.m:=(vJ h x).mono (by omega);rcases QY (sec:=w.se a 1) (ep:=(aU .i64 s.2.2.2.1 (w.ky a)).getD []) (text:=s.2.2.2.2.2.2.1) (l:=s.2.2.2.2.2.2.2) F with⟨o,v⟩|⟨L,b,G,g,y,o,v,M,N,H,p,O,P,J,r,t⟩
 ·rw[an o,v];exact .inl (err _ o _ rfl)
 ·rw[H];dsimp only;rw[ag (λq=>q rfl)];refine .inr ⟨rfl,rfl,?_,_,rfl,rfl⟩;rw[f];refine vK (hh:=G) (w':=Ec (w.su w.d y) _ _|>.2) h i rfl rfl rfl rfl rfl p.gr p.su.w (λj c=>?_) (λj c=>?_) t J r (.inr ⟨rfl,by simpa using u⟩)
  ·show sf w y.1 (((w.su w.d y).keep _ _).cl j);rw[jE _ _ _ c,Jf _ _ _ c];exact(h.cl j c).gr p.gr
  ·show(((w.su w.d y).keep _ _).cl j).sg=_∧(((w.su w.d y).keep _ _).cl j).se=_;rw[jE _ _ _ c,Jf _ _ _ c];exact⟨rfl,rfl⟩
def stA:lw:=(1,0,0,0,0,0,[97],Lr)
def vL(p:Pg)(s:lw)(y:List Op×Int):Prop:=y.1.length≤64∧(p=iX→s=stA→y=([iC],0))
theorem BW(p:Pg)(s:lw):∃y,vL p s y:=⟨([iC],0),by decide,λ_ _=>rfl⟩
def Jg:Ct:=⟨2,⟨[(0,false,[.d OB]),Wc 1],[]⟩,[⟨[(0,false,[.d (.sl jV)]),sI 1],[]⟩],λ(p,s,_)=>eO (cb p) (vL p s) λy=>(y.1,y.2,())⟩
abbrev Jh(v:List Op×Int×Unit):aN Jg.out:=⟨0,v⟩
def Q6:bu:=(75,[Jg])::Q5
theorem Ji:KK Q6:=kA a18 (cv Jg 0) (∀(c:Pg)(a:Int×Int×Int×Int×Int×Int×BL×Lt)(Q:aN Jg.out→Prop),let z:Prop:=cb c∧∀(b:List Op×Int),b.1.length≤64→Q (Jh (b.1,b.2,()));(Ct.spec Jg (c,a,())).sat Q→Br (a.1==1) (cb c∧∀(b:List Op×Int),b.1.length≤64∧(c=([],[],[],([((0,0,()),0,0,0,false,[[],[]],())],0,()),([],()),())→a.2.2.1=0→a.2.2.2.2.2.2.1=[af 8 97]→a.2.1=0→b=([(1,0,1,0,0,true,97,0,0,0,0,0,0,false,0,0,false,0,0,())],0))→Q (Jh (b.1,b.2,()))) (Br (a.1==2) z z)) (by kernel_rfl) (by
 conv=>zeta
 unfold Br;intro p s Q ⟨h,g⟩;have b:∀y,vL p s y→Q ⟨0,(y.1,y.2,())⟩:=g;refine⟨λ_=>⟨h,λy a=>b y ⟨a.1,λi f=>a.2 i (by rw[f];rfl) (by rw[f];rfl) (by rw[f];rfl)⟩⟩,λc=>⟨λ_=>⟨h,λy a=>b y ⟨a,λ_ e=>?_⟩⟩,λ_=>⟨h,λy a=>b y ⟨a,λ_ e=>?_⟩⟩⟩⟩
 all_goals (subst e;exact absurd c (by decide))) (l:=λ_=>aR λ_=>BW _ _)
def ia(w:Wd)(i:Nat)(s:lw)(y:(BL×Int)×Wd):Prop:=∃p l e,iL (w.cl i).pg p∧vL p s (l,e)∧
 (e≠0∧y=(([],e),w)∨e=0∧∃a z,Kc (w.cl i).pg l a∧z=BK (w.cl i).c (w.cl i).sg (w.cl i).lg (w.cl i).pg (w.cl i).km (w.cl i).bk l a w.ts w.m∧y=(z.1,w.wrt i z))
theorem gl(w:Wd)(i:Nat)(s:lw):∃y,ia w i s y:=by
 obtain⟨p,a⟩:=iD (w.cl i).pg;obtain⟨⟨l,e⟩,b⟩:=BW p s;by_cases h:e=0
 ·exact⟨_,p,l,e,a,b, .inr ⟨h,_,_,⟨_,(iD _).choose_spec,(pR _ _).choose_spec⟩,rfl,rfl⟩⟩
 ·exact⟨_,p,l,e,a,b, .inl ⟨h,rfl⟩⟩
def sV(i:Nat):List (Option CP):=[some (.cells [.ptr (7+2*i) 0]),some (.cells [.d I9]),some (.cells [.ptr 3 0])]
def DQ:Ct:=⟨4,⟨[sS 0 4,(1,false,[.ptr 0 0]),(2,false,[.ptr 1 0]),(3,false,[.ptr 2 0])],sV 0++BO 3 23++pT 23⟩,[⟨[(0,false,[.d tB]),sI 1],sV 0++BO 3 36++ak 13 none++pT 36⟩],λ(s,F,G,H,J,K,L,M,N,O,a,b,c,e,f,g,h,i,j,l,o,p,q,r,t,u,v,w,x,z,A,B,C,D,E,_)=>eO (∃n,di (cw (F,G,H,J,K,L,M,N,O,a,b,c,e,f,g,h,i,j,l,o,p,q,r,t,u,v,w,x,z,A,B,C,D,E,())) (n+1)) (ia (cw (F,G,H,J,K,L,M,N,O,a,b,c,e,f,g,h,i,j,l,o,p,q,r,t,u,v,w,x,z,A,B,C,D,E,())) 0 s) λy=>(y.1.1,y.1.2,s,y.2.sec,y.2.al,y.2.go,y.2.d,y.2.m,(cA y.2.c0),(bC y.2.c0),y.2.c0.km,(cA y.2.c1),(bC y.2.c1),y.2.c1.km,(cA y.2.c2),(bC y.2.c2),y.2.c2.km,(cA y.2.c3),(bC y.2.c3),y.2.c3.km,(cA y.2.c4),(bC y.2.c4),y.2.c4.km,y.2.k0,y.2.k1,y.2.k2,y.2.k3,y.2.k4,y.2.lg,y.2.ts,y.2.c0.bk,y.2.c1.bk,y.2.c2.bk,y.2.c3.bk,y.2.c4.bk,y.2.st,y.2.ln,())⟩
def DR:Ct:=⟨4,⟨[sS 0 4,(1,false,[.ptr 0 0]),(2,false,[.ptr 1 0]),(3,false,[.ptr 2 0])],sV 1++BO 3 23++pT 23⟩,[⟨[(0,false,[.d tB]),sI 1],sV 1++BO 3 36++ak 13 none++pT 36⟩],λ(s,F,G,H,J,K,L,M,N,O,a,b,c,e,f,g,h,i,j,l,o,p,q,r,t,u,v,w,x,z,A,B,C,D,E,_)=>eO (∃n,di (cw (F,G,H,J,K,L,M,N,O,a,b,c,e,f,g,h,i,j,l,o,p,q,r,t,u,v,w,x,z,A,B,C,D,E,())) (n+1)) (ia (cw (F,G,H,J,K,L,M,N,O,a,b,c,e,f,g,h,i,j,l,o,p,q,r,t,u,v,w,x,z,A,B,C,D,E,())) 1 s) λy=>(y.1.1,y.1.2,s,y.2.sec,y.2.al,y.2.go,y.2.d,y.2.m,(cA y.2.c0),(bC y.2.c0),y.2.c0.km,(cA y.2.c1),(bC y.2.c1),y.2.c1.km,(cA y.2.c2),(bC y.2.c2),y.2.c2.km,(cA y.2.c3),(bC y.2.c3),y.2.c3.km,(cA y.2.c4),(bC y.2.c4),y.2.c4.km,y.2.k0,y.2.k1,y.2.k2,y.2.k3,y.2.k4,y.2.lg,y.2.ts,y.2.c0.bk,y.2.c1.bk,y.2.c2.bk,y.2.c3.bk,y.2.c4.bk,y.2.st,y.2.ln,())⟩
def DS:Ct:=⟨4,⟨[sS 0 4,(1,false,[.ptr 0 0]),(2,false,[.ptr 1 0]),(3,false,[.ptr 2 0])],sV 2++BO 3 23++pT 23⟩,[⟨[(0,false,[.d tB]),sI 1],sV 2++BO 3 36++ak 13 none++pT 36⟩],λ(s,F,G,H,J,K,L,M,N,O,a,b,c,e,f,g,h,i,j,l,o,p,q,r,t,u,v,w,x,z,A,B,C,D,E,_)=>eO (∃n,di (cw (F,G,H,J,K,L,M,N,O,a,b,c,e,f,g,h,i,j,l,o,p,q,r,t,u,v,w,x,z,A,B,C,D,E,())) (n+1)) (ia (cw (F,G,H,J,K,L,M,N,O,a,b,c,e,f,g,h,i,j,l,o,p,q,r,t,u,v,w,x,z,A,B,C,D,E,())) 2 s) λy=>(y.1.1,y.1.2,s,y.2.sec,y.2.al,y.2.go,y.2.d,y.2.m,(cA y.2.c0),(bC y.2.c0),y.2.c0.km,(cA y.2.c1),(bC y.2.c1),y.2.c1.km,(cA y.2.c2),(bC y.2.c2),y.2.c2.km,(cA y.2.c3),(bC y.2.c3),y.2.c3.km,(cA y.2.c4),(bC y.2.c4),y.2.c4.km,y.2.k0,y.2.k1,y.2.k2,y.2.k3,y.2.k4,y.2.lg,y.2.ts,y.2.c0.bk,y.2.c1.bk,y.2.c2.bk,y.2.c3.bk,y.2.c4.bk,y.2.st,y.2.ln,())⟩
def DT:Ct:=⟨4,⟨[sS 0 4,(1,false,[.ptr 0 0]),(2,false,[.ptr 1 0]),(3,false,[.ptr 2 0])],sV 3++BO 3 23++pT 23⟩,[⟨[(0,false,[.d tB]),sI 1],sV 3++BO 3 36++ak 13 none++pT 36⟩],λ(s,F,G,H,J,K,L,M,N,O,a,b,c,e,f,g,h,i,j,l,o,p,q,r,t,u,v,w,x,z,A,B,C,D,E,_)=>eO (∃n,di (cw (F,G,H,J,K,L,M,N,O,a,b,c,e,f,g,h,i,j,l,o,p,q,r,t,u,v,w,x,z,A,B,C,D,E,())) (n+1)) (ia (cw (F,G,H,J,K,L,M,N,O,a,b,c,e,f,g,h,i,j,l,o,p,q,r,t,u,v,w,x,z,A,B,C,D,E,())) 3 s) λy=>(y.1.1,y.1.2,s,y.2.sec,y.2.al,y.2.go,y.2.d,y.2.m,(cA y.2.c0),(bC y.2.c0),y.2.c0.km,(cA y.2.c1),(bC y.2.c1),y.2.c1.km,(cA y.2.c2),(bC y.2.c2),y.2.c2.km,(cA y.2.c3),(bC y.2.c3),y.2.c3.km,(cA y.2.c4),(bC y.2.c4),y.2.c4.km,y.2.k0,y.2.k1,y.2.k2,y.2.k3,y.2.k4,y.2.lg,y.2.ts,y.2.c0.bk,y.2.c1.bk,y.2.c2.bk,y.2.c3.bk,y.2.c4.bk,y.2.st,y.2.ln,())⟩
def Jj:Ct:=⟨4,⟨[sS 0 4,(1,false,[.ptr 0 0]),(2,false,[.ptr 1 0]),(3,false,[.ptr 2 0])],sV 4++BO 3 23++pT 23⟩,[⟨[(0,false,[.d tB]),sI 1],sV 4++BO 3 36++ak 13 none++pT 36⟩],λ(s,F,G,H,J,K,L,M,N,O,a,b,c,e,f,g,h,i,j,l,o,p,q,r,t,u,v,w,x,z,A,B,C,D,E,_)=>eO (∃n,di (cw (F,G,H,J,K,L,M,N,O,a,b,c,e,f,g,h,i,j,l,o,p,q,r,t,u,v,w,x,z,A,B,C,D,E,())) (n+1)) (ia (cw (F,G,H,J,K,L,M,N,O,a,b,c,e,f,g,h,i,j,l,o,p,q,r,t,u,v,w,x,z,A,B,C,D,E,())) 4 s) λy=>(y.1.1,y.1.2,s,y.2.sec,y.2.al,y.2.go,y.2.d,y.2.m,(cA y.2.c0),(bC y.2.c0),y.2.c0.km,(cA y.2.c1),(bC y.2.c1),y.2.c1.km,(cA y.2.c2),(bC y.2.c2),y.2.c2.km,(cA y.2.c3),(bC y.2.c3),y.2.c3.km,(cA y.2.c4),(bC y.2.c4),y.2.c4.km,y.2.k0,y.2.k1,y.2.k2,y.2.k3,y.2.k4,y.2.lg,y.2.ts,y.2.c0.bk,y.2.c1.bk,y.2.c2.bk,y.2.c3.bk,y.2.c4.bk,y.2.st,y.2.ln,())⟩
abbrev Ai(v:BL×Int×(Int×Int×Int×Int×Int×Int×BL×Lt)×TA Unit):aN DQ.out:=⟨0,v⟩
theorem Jk:bO Tryz.prog 74 DQ:=kC Ji (cv DQ 0) (∀(a:Int×Int×Int×Int×Int×Int×BL×Lt),WA λi j k l m c d f n o p q r s t u v w z A B C D E F G g h J K L M N O=>let H:=(J,K,L,M,N,O,());let x:=(j,k,l,m,c,d,f,n,o,p,q,r,s,t,u,v,w,z,A,B,C,D,E,F,G,g,h,H);∀(Q:aN DQ.out→Prop),(Tr.need (∃a,di (cw (i,x)) (a+1)) (Tr.all ((BL×Int)×Wd) (ia (cw (i,x)) 0 a) λy=>Tr.leaf (Ai (y.1.1,y.1.2,a,dO y.2)))).sat Q→cb d.1∧∀(b:Pg),iL d.1 b→cb b∧∀(e:List Op×Int),vL b a e→Br (!e.2==0) (Q (Ai ([],e.2,a,i,x))) ((e.1.length≤1000000∧cu c.2.2.2.1.2.1 c.2.2.2.1.2.2.1∧bZ h∧cb d.1∧bU 6 g)∧∀(b:(BL×Int)×Pg×Ln×List Tm×KV),(∃a,Kc d.1 e.1 a∧b=BK c.1 c.2.2.1 c.2.2.2.1 d.1 f h e.1 a g m)→Q (Ai (b.1.1,b.1.2,a,i,j,k,l,b.2.2.2.2,c,(b.2.1,d.2),f,n,o,p,q,r,s,t,u,v,w,z,A,B,C,D,E,F,G,b.2.2.2.1,b.2.2.1,H)))) (by kernel_rfl) (by
 conv=>zeta
 unfold Br WA dO;intro s;refine Wd.all λw=>?_;intro Q ⟨⟨n,h⟩,c⟩;have h:di w (n+1):=h;have f:∀y,ia w 0 s y→Q ⟨0,(y.1.1,y.1.2,s,y.2.sec,y.2.al,y.2.go,y.2.d,y.2.m,(cA y.2.c0),(bC y.2.c0),y.2.c0.km,(cA y.2.c1),(bC y.2.c1),y.2.c1.km,(cA y.2.c2),(bC y.2.c2),y.2.c2.km,(cA y.2.c3),(bC y.2.c3),y.2.c3.km,(cA y.2.c4),(bC y.2.c4),y.2.c4.km,y.2.k0,y.2.k1,y.2.k2,y.2.k3,y.2.k4,y.2.lg,y.2.ts,y.2.c0.bk,y.2.c1.bk,y.2.c2.bk,y.2.c3.bk,y.2.c4.bk,y.2.st,y.2.ln,())⟩:=λy i=>c y i;clear c;obtain⟨⟨A,B,C,D,g,j,o,E,F⟩,q,r⟩:=h.cl 0 (by decide);refine⟨g,λp a=>⟨a.1,λl b=>⟨λe=>?_,λe=>⟨⟨by have:=b.1;omega,o,j,g,h.ts.mono (by omega)⟩,λz t=>?_⟩⟩⟩⟩
 ·exact f (([],l.2),w) ⟨p,l.1,l.2,a,b, .inl ⟨jC e,rfl⟩⟩
 ·obtain⟨u,v,x⟩:=t;exact f (z.1,w.wrt 0 z) ⟨p,l.1,l.2,a,b, .inr ⟨aD.1 (jX e),u,z,v,x,rfl⟩⟩)
def Q7:bu:=(74,[DQ])::Q6
theorem Jl:KK Q7:=⟨aP.add Ji.1 (by kernel_rfl) (bo (Jk)),bg.add Ji.2 (bo (λ_=>aR λ_=>gl _ _ _))⟩
abbrev Aj(v:BL×Int×(Int×Int×Int×Int×Int×Int×BL×Lt)×TA Unit):aN DR.out:=⟨0,v⟩
theorem Jm:bO Tryz.prog 74 DR:=kC Jl (cv DR 0) (∀(a:Int×Int×Int×Int×Int×Int×BL×Lt),WA λi j k l m n o p c d f q r s t u v w z A B C D E F G g H h J K L M N=>let x:=(j,k,l,m,n,o,p,c,d,f,q,r,s,t,u,v,w,z,A,B,C,D,E,F,G,g,H,h,J,K,L,M,N,());∀(Q:aN DR.out→Prop),(Tr.need (∃a,di (cw (i,x)) (a+1)) (Tr.all ((BL×Int)×Wd) (ia (cw (i,x)) 1 a) λy=>Tr.leaf (Aj (y.1.1,y.1.2,a,dO y.2)))).sat Q→cb d.1∧∀(b:Pg),iL d.1 b→cb b∧∀(e:List Op×Int),vL b a e→Br (!e.2==0) (Q (Aj ([],e.2,a,i,x))) ((e.1.length≤1000000∧cu c.2.2.2.1.2.1 c.2.2.2.1.2.2.1∧bZ h∧cb d.1∧bU 6 g)∧∀(b:(BL×Int)×Pg×Ln×List Tm×KV),(∃a,Kc d.1 e.1 a∧b=BK c.1 c.2.2.1 c.2.2.2.1 d.1 f h e.1 a g m)→Q (Aj (b.1.1,b.1.2,a,i,j,k,l,b.2.2.2.2,n,o,p,c,(b.2.1,d.2),f,q,r,s,t,u,v,w,z,A,B,C,D,E,F,G,b.2.2.2.1,H,b.2.2.1,J,K,L,M,N,())))) (by kernel_rfl) (by
 conv=>zeta
 unfold Br WA dO;intro s;refine Wd.all λw=>?_;intro Q ⟨⟨n,h⟩,c⟩;have h:di w (n+1):=h;have f:∀y,ia w 1 s y→Q ⟨0,(y.1.1,y.1.2,s,y.2.sec,y.2.al,y.2.go,y.2.d,y.2.m,(cA y.2.c0),(bC y.2.c0),y.2.c0.km,(cA y.2.c1),(bC y.2.c1),y.2.c1.km,(cA y.2.c2),(bC y.2.c2),y.2.c2.km,(cA y.2.c3),(bC y.2.c3),y.2.c3.km,(cA y.2.c4),(bC y.2.c4),y.2.c4.km,y.2.k0,y.2.k1,y.2.k2,y.2.k3,y.2.k4,y.2.lg,y.2.ts,y.2.c0.bk,y.2.c1.bk,y.2.c2.bk,y.2.c3.bk,y.2.c4.bk,y.2.st,y.2.ln,())⟩:=λy i=>c y i;clear c;obtain⟨⟨A,B,C,D,g,j,o,E,F⟩,q,r⟩:=h.cl 1 (by decide);refine⟨g,λp a=>⟨a.1,λl b=>⟨λe=>?_,λe=>⟨⟨by have:=b.1;omega,o,j,g,h.ts.mono (by omega)⟩,λz t=>?_⟩⟩⟩⟩
 ·exact f (([],l.2),w) ⟨p,l.1,l.2,a,b, .inl ⟨jC e,rfl⟩⟩
 ·obtain⟨u,v,x⟩:=t;exact f (z.1,w.wrt 1 z) ⟨p,l.1,l.2,a,b, .inr ⟨aD.1 (jX e),u,z,v,x,rfl⟩⟩)
def Q8:bu:=(74,[DR])::Q7
theorem Jn:KK Q8:=⟨aP.add Jl.1 (by kernel_rfl) (bo (Jm)),bg.add Jl.2 (bo (λ_=>aR λ_=>gl _ _ _))⟩
abbrev Ak(v:BL×Int×(Int×Int×Int×Int×Int×Int×BL×Lt)×TA Unit):aN DS.out:=⟨0,v⟩
theorem Jo:bO Tryz.prog 74 DS:=kC Jn (cv DS 0) (∀(a:Int×Int×Int×Int×Int×Int×BL×Lt),WA λi j k l m n o p q r s c d f t u v w z A B C D E F G g H J h K L M N=>let x:=(j,k,l,m,n,o,p,q,r,s,c,d,f,t,u,v,w,z,A,B,C,D,E,F,G,g,H,J,h,K,L,M,N,());∀(Q:aN DS.out→Prop),(Tr.need (∃a,di (cw (i,x)) (a+1)) (Tr.all ((BL×Int)×Wd) (ia (cw (i,x)) 2 a) λy=>Tr.leaf (Ak (y.1.1,y.1.2,a,dO y.2)))).sat Q→cb d.1∧∀(b:Pg),iL d.1 b→cb b∧∀(e:List Op×Int),vL b a e→Br (!e.2==0) (Q (Ak ([],e.2,a,i,x))) ((e.1.length≤1000000∧cu c.2.2.2.1.2.1 c.2.2.2.1.2.2.1∧bZ h∧cb d.1∧bU 6 g)∧∀(b:(BL×Int)×Pg×Ln×List Tm×KV),(∃a,Kc d.1 e.1 a∧b=BK c.1 c.2.2.1 c.2.2.2.1 d.1 f h e.1 a g m)→Q (Ak (b.1.1,b.1.2,a,i,j,k,l,b.2.2.2.2,n,o,p,q,r,s,c,(b.2.1,d.2),f,t,u,v,w,z,A,B,C,D,E,F,G,b.2.2.2.1,H,J,b.2.2.1,K,L,M,N,())))) (by kernel_rfl) (by
 conv=>zeta
 unfold Br WA dO;intro s;refine Wd.all λw=>?_;intro Q ⟨⟨n,h⟩,c⟩;have h:di w (n+1):=h;have f:∀y,ia w 2 s y→Q ⟨0,(y.1.1,y.1.2,s,y.2.sec,y.2.al,y.2.go,y.2.d,y.2.m,(cA y.2.c0),(bC y.2.c0),y.2.c0.km,(cA y.2.c1),(bC y.2.c1),y.2.c1.km,(cA y.2.c2),(bC y.2.c2),y.2.c2.km,(cA y.2.c3),(bC y.2.c3),y.2.c3.km,(cA y.2.c4),(bC y.2.c4),y.2.c4.km,y.2.k0,y.2.k1,y.2.k2,y.2.k3,y.2.k4,y.2.lg,y.2.ts,y.2.c0.bk,y.2.c1.bk,y.2.c2.bk,y.2.c3.bk,y.2.c4.bk,y.2.st,y.2.ln,())⟩:=λy i=>c y i;clear c;obtain⟨⟨A,B,C,D,g,j,o,E,F⟩,q,r⟩:=h.cl 2 (by decide);refine⟨g,λp a=>⟨a.1,λl b=>⟨λe=>?_,λe=>⟨⟨by have:=b.1;omega,o,j,g,h.ts.mono (by omega)⟩,λz t=>?_⟩⟩⟩⟩
 ·exact f (([],l.2),w) ⟨p,l.1,l.2,a,b, .inl ⟨jC e,rfl⟩⟩
 ·obtain⟨u,v,x⟩:=t;exact f (z.1,w.wrt 2 z) ⟨p,l.1,l.2,a,b, .inr ⟨aD.1 (jX e),u,z,v,x,rfl⟩⟩)
def Q9:bu:=(74,[DS])::Q8
theorem Jp:KK Q9:=⟨aP.add Jn.1 (by kernel_rfl) (bo (Jo)),bg.add Jn.2 (bo (λ_=>aR λ_=>gl _ _ _))⟩
abbrev Al(v:BL×Int×(Int×Int×Int×Int×Int×Int×BL×Lt)×TA Unit):aN DT.out:=⟨0,v⟩
theorem Jq:bO Tryz.prog 74 DT:=kC Jp (cv DT 0) (∀(a:Int×Int×Int×Int×Int×Int×BL×Lt),WA λi j k l m n o p q r s t u v c d f w z A B C D E F G g H J K h L M N=>let x:=(j,k,l,m,n,o,p,q,r,s,t,u,v,c,d,f,w,z,A,B,C,D,E,F,G,g,H,J,K,h,L,M,N,());∀(Q:aN DT.out→Prop),(Tr.need (∃a,di (cw (i,x)) (a+1)) (Tr.all ((BL×Int)×Wd) (ia (cw (i,x)) 3 a) λy=>Tr.leaf (Al (y.1.1,y.1.2,a,dO y.2)))).sat Q→cb d.1∧∀(b:Pg),iL d.1 b→cb b∧∀(e:List Op×Int),vL b a e→Br (!e.2==0) (Q (Al ([],e.2,a,i,x))) ((e.1.length≤1000000∧cu c.2.2.2.1.2.1 c.2.2.2.1.2.2.1∧bZ h∧cb d.1∧bU 6 g)∧∀(b:(BL×Int)×Pg×Ln×List Tm×KV),(∃a,Kc d.1 e.1 a∧b=BK c.1 c.2.2.1 c.2.2.2.1 d.1 f h e.1 a g m)→Q (Al (b.1.1,b.1.2,a,i,j,k,l,b.2.2.2.2,n,o,p,q,r,s,t,u,v,c,(b.2.1,d.2),f,w,z,A,B,C,D,E,F,G,b.2.2.2.1,H,J,K,b.2.2.1,L,M,N,())))) (by kernel_rfl) (by
 conv=>zeta
 unfold Br WA dO;intro s;refine Wd.all λw=>?_;intro Q ⟨⟨n,h⟩,c⟩;have h:di w (n+1):=h;have f:∀y,ia w 3 s y→Q ⟨0,(y.1.1,y.1.2,s,y.2.sec,y.2.al,y.2.go,y.2.d,y.2.m,(cA y.2.c0),(bC y.2.c0),y.2.c0.km,(cA y.2.c1),(bC y.2.c1),y.2.c1.km,(cA y.2.c2),(bC y.2.c2),y.2.c2.km,(cA y.2.c3),(bC y.2.c3),y.2.c3.km,(cA y.2.c4),(bC y.2.c4),y.2.c4.km,y.2.k0,y.2.k1,y.2.k2,y.2.k3,y.2.k4,y.2.lg,y.2.ts,y.2.c0.bk,y.2.c1.bk,y.2.c2.bk,y.2.c3.bk,y.2.c4.bk,y.2.st,y.2.ln,())⟩:=λy i=>c y i;clear c;obtain⟨⟨A,B,C,D,g,j,o,E,F⟩,q,r⟩:=h.cl 3 (by decide);refine⟨g,λp a=>⟨a.1,λl b=>⟨λe=>?_,λe=>⟨⟨by have:=b.1;omega,o,j,g,h.ts.mono (by omega)⟩,λz t=>?_⟩⟩⟩⟩
 ·exact f (([],l.2),w) ⟨p,l.1,l.2,a,b, .inl ⟨jC e,rfl⟩⟩
 ·obtain⟨u,v,x⟩:=t;exact f (z.1,w.wrt 3 z) ⟨p,l.1,l.2,a,b, .inr ⟨aD.1 (jX e),u,z,v,x,rfl⟩⟩)
def Ra:bu:=(74,[DT])::Q9
theorem Jr:KK Ra:=⟨aP.add Jp.1 (by kernel_rfl) (bo (Jq)),bg.add Jp.2 (bo (λ_=>aR λ_=>gl _ _ _))⟩
abbrev Am(v:BL×Int×(Int×Int×Int×Int×Int×Int×BL×Lt)×TA Unit):aN Jj.out:=⟨0,v⟩
theorem U8:bO Tryz.prog 74 Jj:=kC Jr (cv Jj 0) (∀(a:Int×Int×Int×Int×Int×Int×BL×Lt),WA λi j k l m n o p q r s t u v w z A c d f B C D E F G g H J K L h M N=>let x:=(j,k,l,m,n,o,p,q,r,s,t,u,v,w,z,A,c,d,f,B,C,D,E,F,G,g,H,J,K,L,h,M,N,());∀(Q:aN Jj.out→Prop),(Tr.need (∃a,di (cw (i,x)) (a+1)) (Tr.all ((BL×Int)×Wd) (ia (cw (i,x)) 4 a) λy=>Tr.leaf (Am (y.1.1,y.1.2,a,dO y.2)))).sat Q→cb d.1∧∀(b:Pg),iL d.1 b→cb b∧∀(e:List Op×Int),vL b a e→Br (!e.2==0) (Q (Am ([],e.2,a,i,x))) ((e.1.length≤1000000∧cu c.2.2.2.1.2.1 c.2.2.2.1.2.2.1∧bZ h∧cb d.1∧bU 6 g)∧∀(b:(BL×Int)×Pg×Ln×List Tm×KV),(∃a,Kc d.1 e.1 a∧b=BK c.1 c.2.2.1 c.2.2.2.1 d.1 f h e.1 a g m)→Q (Am (b.1.1,b.1.2,a,i,j,k,l,b.2.2.2.2,n,o,p,q,r,s,t,u,v,w,z,A,c,(b.2.1,d.2),f,B,C,D,E,F,G,b.2.2.2.1,H,J,K,L,b.2.2.1,M,N,())))) (by kernel_rfl) (by
 conv=>zeta
 unfold Br WA dO;intro s;refine Wd.all λw=>?_;intro Q ⟨⟨n,h⟩,c⟩;have h:di w (n+1):=h;have f:∀y,ia w 4 s y→Q ⟨0,(y.1.1,y.1.2,s,y.2.sec,y.2.al,y.2.go,y.2.d,y.2.m,(cA y.2.c0),(bC y.2.c0),y.2.c0.km,(cA y.2.c1),(bC y.2.c1),y.2.c1.km,(cA y.2.c2),(bC y.2.c2),y.2.c2.km,(cA y.2.c3),(bC y.2.c3),y.2.c3.km,(cA y.2.c4),(bC y.2.c4),y.2.c4.km,y.2.k0,y.2.k1,y.2.k2,y.2.k3,y.2.k4,y.2.lg,y.2.ts,y.2.c0.bk,y.2.c1.bk,y.2.c2.bk,y.2.c3.bk,y.2.c4.bk,y.2.st,y.2.ln,())⟩:=λy i=>c y i;clear c;obtain⟨⟨A,B,C,D,g,j,o,E,F⟩,q,r⟩:=h.cl 4 (by decide);refine⟨g,λp a=>⟨a.1,λl b=>⟨λe=>?_,λe=>⟨⟨by have:=b.1;omega,o,j,g,h.ts.mono (by omega)⟩,λz t=>?_⟩⟩⟩⟩
 ·exact f (([],l.2),w) ⟨p,l.1,l.2,a,b, .inl ⟨jC e,rfl⟩⟩
 ·obtain⟨u,v,x⟩:=t;exact f (z.1,w.wrt 4 z) ⟨p,l.1,l.2,a,b, .inr ⟨aD.1 (jX e),u,z,v,x,rfl⟩⟩)
def Rb:bu:=(74,[Jj,DQ,DR,DS,DT])::Ra
theorem a19:KK Rb:=⟨aP.add Jr.1 (by kernel_rfl) (ik (U8) (ik (Jk) (ik (Jm) (ik (Jo) (bo (Jq)))))),bg.add Jr.2 (ik (λ_=>aR λ_=>gl _ _ _) (ik (λ_=>aR λ_=>gl _ _ _) (ik (λ_=>aR λ_=>gl _ _ _) (ik (λ_=>aR λ_=>gl _ _ _) (bo (λ_=>aR λ_=>gl _ _ _))))))⟩
def yi(w:Wd)(i:Nat)(s:lw)(r:(BL×Int)×Wd):Prop:=
 if s.1=5 then∃(l:List Op)(z:_),z=mF 4 (lC (w.cl i).bk [] 5++ej l) (w.cl i).c (w.cl i).sg (w.cl i).lg (w.cl i).la (w.cl i).km w.ts w.m∧r=(z.1,w.told i z)
 else if s.1=4 then∃t z,z=mF 3 t (w.cl i).c (w.cl i).sg (w.cl i).lg (w.cl i).la (w.cl i).km w.ts w.m∧r=(z.1,w.told i z)
 else ia w i s r
def pD(w:Wd)(i:Nat)(r:BL×Int):Ad:=if r.2≠0 then((r.2,0),w)else Ec w r.1 (MC w i r.1)
def mG(w:Wd)(s:lw)(y:Ad):Prop:=
 if s.2.1<0∨5≤s.2.1∨400≤w.st.length then y=((26,0),w)
 else if w.go.getD s.2.1.toNat false=true then y=((19,0),w)
 else∃r,yi w s.2.1.toNat s r∧y=pD r.2 s.2.1.toNat r.1
theorem U9(w:Wd)(i:Nat)(s:lw):∃y,yi w i s y:=by
 unfold yi;split
 ·exact⟨_,[],_,rfl,rfl⟩
 split
 ·exact⟨_,[],_,rfl,rfl⟩
 ·exact gl w i s
theorem BX(w:Wd)(s:lw):∃y,mG w s y:=by
 unfold mG;split
 ·exact⟨_,rfl⟩
 split
 ·exact⟨_,rfl⟩
 ·obtain⟨r,a⟩:=U9 w s.2.1.toNat s;exact⟨_,r,a,rfl⟩
theorem Va{la:La}(h:fh la)(k c:Int):0≤xH la k c∧xH la k c≤1048576:=by
 unfold xH;rcases bN (k-3).toNat la.length with q|q
 ·have b:=h.2 _ (aT (z:=[]) q);rcases bN c.toNat (la.getD (k-3).toNat []).length with a|a
  ·exact b.2 _ (aT a)
  ·rw[az (l:=la.getD _ _),bY a];simp
 ·rw[az (l:=la),bY q];simp
theorem Js{sg text:BL}{c:Int}{lg:Lg}{km:KM}{l:Lt}{ts:List Tm}{m:KV}(h:bU 4 ts):(hX (nF c sg lg km l text ts m).1.1).length≤100000:=by
 have:=(Q' (k:=0) (sg:=sg) (text:=text) (c:=c) (lg:=lg) (km:=km) (l:=l) m h).2;generalize(nF c sg lg km l text ts m).1.1=x at*;have v:=bz;have a:=dW x.2.2.2.2.1;have b:=dW x.2.2.2.2.2.1;have e:=dW x.2.2.2.2.2.2.1;have:=v x.1;have:=v x.2.1;have:=v x.2.2.1;have:=v x.2.2.2.1;unfold hX eg;simp only[aa];omega
theorem BY{w:Wd}{n i:Nat}{c:Cl}{ts:List Tm}{m:KV}(h:di w (n+1))(hi:i<5)(f:kR c)(l:c.c=(w.cl i).c)(o:c.fk=(w.cl i).fk)(p:bU (10000*n+10000) ts):di (w.aft i (c,ts,m)) n:=by
 unfold Wd.aft;obtain⟨q,r,s,t,b,u,v,y,z,x⟩:=jb w i c;refine⟨λj a=>?_,p,by dsimp only;rw[q];exact h.sec,by dsimp only;rw[r];exact h.al,by dsimp only;rw[b];exact h.lg,by dsimp only;rw[b];exact h.l5,by dsimp only;rw[s];exact h.go,by dsimp only;rw[u,v];exact h.st,by dsimp only;rw[t];exact⟨h.dr.1,by have:=h.dr.2;omega⟩⟩;have e:Wd.cl {w.setC i c with ts:=ts,m:=m} j=(w.setC i c).cl j:=by rcases io a with rfl|rfl|rfl|rfl|rfl<;>rfl
 rw[e,zY w c hi a];split
 ·rename_i g;subst g;have:=h.cl j a;exact⟨f,by rw[l];exact this.2.1,by rw[o];omega⟩
 ·have:=h.cl j a;exact⟨this.1,this.2.1,by omega⟩
theorem BZ{w:Wd}{n i:Nat}(h:di w (n+1))(hi:i<5){a:Int}{t:BL}{z:(BL×Int)×La×List Tm×KV}(b:z=mF a t (w.cl i).c (w.cl i).sg (w.cl i).lg (w.cl i).la (w.cl i).km w.ts w.m):di (w.told i z) n∧z.1.1.length≤100000:=by
 obtain⟨⟨o,p,q,f,r,s,u,v,x⟩,_,_⟩:=h.cl i hi
 have e:fh z.2.1∧bU (10000*n+10000) z.2.2.1∧z.1.1.length≤100000:=by
  unfold mF at b;rw[ck]at b;have j:=(Q' (k:=10000*n+10000) (text:=t) (c:=(w.cl i).c) (sg:=(w.cl i).sg) (lg:=(w.cl i).lg) (km:=(w.cl i).km) (l:=(a,0,0,xH (w.cl i).la a (w.cl i).c+1,[],[],[],())) w.m (h.ts.mono (by omega))).1;have y:=Js (text:=t) (c:=(w.cl i).c) (sg:=(w.cl i).sg) (lg:=(w.cl i).lg) (km:=(w.cl i).km) (l:=(a,0,0,xH (w.cl i).la a (w.cl i).c+1,[],[],[],())) (m:=w.m) (show bU 4 w.ts from h.ts.mono (by omega));have A:=Va f a (w.cl i).c;split at b
  ·subst b;exact⟨f,h.ts.mono (by omega),aq _⟩
  split at b
  ·subst b;exact⟨f,h.ts.mono (by omega),aq _⟩
  rename_i g;dsimp only at b;split at b
  ·subst b;exact⟨f,j,aq _⟩
  ·subst b;exact⟨IU f (by omega),j,y⟩
 exact⟨BY h hi ⟨o,p,q,e.1,r,s,u,v,x⟩ rfl rfl e.2.1,e.2.2⟩
theorem Vb{w:Wd}{n i:Nat}(h:di w (n+1))(hi:i<5){l:List Op}{o:Int×Pg}(s:cb o.2){z:(BL×Int)×Pg×Ln×List Tm×KV}(a:z=BK (w.cl i).c (w.cl i).sg (w.cl i).lg (w.cl i).pg (w.cl i).km (w.cl i).bk l o w.ts w.m):di (w.wrt i z) n∧z.1.1.length≤100000:=by
 obtain⟨⟨u,v,x,y,e,f,A,B,C⟩,_,_⟩:=h.cl i hi
 have b:cb z.2.1∧bZ z.2.2.1∧bU (10000*n+10000) z.2.2.2.1∧z.1.1.length≤100000:=by
  have g:bU (10000*n+10000) w.ts:=h.ts.mono (by omega);unfold BK at a;rw[ck]at a;have j:=(Q' (k:=10000*n+10004) (text:=ej l) (c:=(w.cl i).c) (sg:=(w.cl i).sg) (lg:=(w.cl i).lg) (km:=(w.cl i).km) (l:=(2,0,0,(fu (w.cl i).bk (w.cl i).c).2.1+1,(fu (w.cl i).bk (w.cl i).c).2.2.1,[],[],())) w.m (h.ts.mono (by omega)));have D:=Js (text:=ej l) (c:=(w.cl i).c) (sg:=(w.cl i).sg) (lg:=(w.cl i).lg) (km:=(w.cl i).km) (l:=(2,0,0,(fu (w.cl i).bk (w.cl i).c).2.1+1,(fu (w.cl i).bk (w.cl i).c).2.2.1,[],[],())) (m:=w.m) (show bU 4 w.ts from h.ts.mono (by omega))
  repeat' split at a
  ·subst a;exact⟨e,f,g,aq _⟩
  ·subst a;exact⟨e,f,g,aq _⟩
  ·subst a;exact⟨e,f,g,aq _⟩
  ·subst a;exact⟨e,f,g,aq _⟩
  ·dsimp only at a;generalize nF (w.cl i).c (w.cl i).sg (w.cl i).lg (w.cl i).km (2,0,0,(fu (w.cl i).bk (w.cl i).c).2.1+1,(fu (w.cl i).bk (w.cl i).c).2.2.1,[],[],()) (ej l) w.ts w.m=q at*;split at a
   ·subst a;exact⟨e,f,j.1.mono (by omega),aq _⟩
   ·have E:=ol (k:=10000*n+10003) (t:=(104,[q.1.1.2.2.2.2.2.1],())) q.2.2 j.1 (jT (by decide) (by decide) (by have:=j.2.2.1;unfold aB;omega));have p:=UK (k:=10000*n+10000) (lk:=(q.1.1.2.1,q.1.1.2.2.2.1,q.1.1.2.2.1,q.1.1.2.2.2.2.1,(dT (104,[q.1.1.2.2.2.2.2.1],()) q.2.1 q.2.2).1,())) (bk:=(w.cl i).bk) (dT (104,[q.1.1.2.2.2.2.2.1],()) q.2.1 q.2.2).2.2 (E.mono (by omega));have r:=tkB (lk:=(q.1.1.2.1,q.1.1.2.2.2.1,q.1.1.2.2.1,q.1.1.2.2.2.2.1,(dT (104,[q.1.1.2.2.2.2.2.1],()) q.2.1 q.2.2).1,())) (dT (104,[q.1.1.2.2.2.2.2.1],()) q.2.1 q.2.2).2.1 (dT (104,[q.1.1.2.2.2.2.2.1],()) q.2.1 q.2.2).2.2 f;unfold wrK at a;dsimp only at a;split at a
    ·subst a;exact⟨e,r,p,aq _⟩
    ·subst a;exact⟨s,r,p,D⟩
 exact⟨BY h hi ⟨u,v,x,y,b.1,b.2.1,A,B,C⟩ rfl rfl b.2.2.1,b.2.2.2⟩
theorem Jt{w:Wd}{n i:Nat}(h:di w (n+1))(hi:i<5){s:lw}{r:(BL×Int)×Wd}(b:yi w i s r):di r.2 n∧r.1.1.length≤100000∧r.2.st=w.st∧r.2.ln=w.ln:=by
 have a:∀c,(w.aft i c).st=w.st∧(w.aft i c).ln=w.ln:=λc=>let q:=jb w i c.1;⟨q.2.2.2.2.2.1,q.2.2.2.2.2.2.1⟩
 unfold yi at b;split at b
 ·obtain⟨t,z,f,rfl⟩:=b;have:=BZ h hi f;exact⟨this.1,this.2,a _⟩
 split at b
 ·obtain⟨t,z,f,rfl⟩:=b;have:=BZ h hi f;exact⟨this.1,this.2,a _⟩
 ·obtain⟨p,l,e,m,o,⟨g,rfl⟩|⟨g,u,z,⟨v,x,j⟩,f,rfl⟩⟩:=b
  ·exact⟨h.mono (by omega),aq _,rfl,rfl⟩
  ·have:=Vb h hi j.1 f;exact⟨this.1,this.2,a _⟩
def DU:Ct:=⟨2,⟨[sP 0,Wc 1],jK⟩,[⟨[(0,true,[.d D9])],IJ 33++pT 33⟩],λ(s,F,G,H,J,K,L,M,N,O,a,b,c,e,f,g,h,i,j,l,o,p,q,r,t,u,v,w,x,z,A,B,C,D,E,_)=>eO (∃n,di (cw (F,G,H,J,K,L,M,N,O,a,b,c,e,f,g,h,i,j,l,o,p,q,r,t,u,v,w,x,z,A,B,C,D,E,())) (n+1)) (mG (cw (F,G,H,J,K,L,M,N,O,a,b,c,e,f,g,h,i,j,l,o,p,q,r,t,u,v,w,x,z,A,B,C,D,E,())) s) λy=>((y.1.1,y.1.2,jh),y.2.sec,y.2.al,y.2.go,y.2.d,y.2.m,(cA y.2.c0),(bC y.2.c0),y.2.c0.km,(cA y.2.c1),(bC y.2.c1),y.2.c1.km,(cA y.2.c2),(bC y.2.c2),y.2.c2.km,(cA y.2.c3),(bC y.2.c3),y.2.c3.km,(cA y.2.c4),(bC y.2.c4),y.2.c4.km,y.2.k0,y.2.k1,y.2.k2,y.2.k3,y.2.k4,y.2.lg,y.2.ts,y.2.c0.bk,y.2.c1.bk,y.2.c2.bk,y.2.c3.bk,y.2.c4.bk,y.2.st,y.2.ln,())⟩
def cWp:Option CP:=some (.cells [.ptr 0 0])
def a2a:cc:=⟨[(2,false,[.ptr 33 0]),(3,false,[.ptr 34 0]),(4,false,[.ptr 35 0])],jK++[cWp,cSt,Eb]⟩
def Vc(x:DU.inp.den)(y:a2a.den):Prop:=match x,y with
 |(s,E,F,G,H,J,K,L,M,N,a,b,c,e,f,g,h,i,j,l,m,n,o,p,q,r,t,u,v,w,z,A,B,C,D,_),(b1,b2,b3,b4,b5,b6,b7,b8,b9,O,P,Q,R,S,U,W,X,Y,a0,b0,c0,c1,c2,c3,c4,c5,c6,c7,c8,c9,d0,d1,d2,d3,s1,_)=>(cw (b1,b2,b3,b4,b5,b6,b7,b8,b9,O,P,Q,R,S,U,W,X,Y,a0,b0,c0,c1,c2,c3,c4,c5,c6,c7,c8,c9,d0,d1,d2,d3,()))=(cw (E,F,G,H,J,K,L,M,N,a,b,c,e,f,g,h,i,j,l,m,n,o,p,q,r,t,u,v,w,z,A,B,C,D,()))∧s1=s∧¬(s.2.1<0∨5≤s.2.1∨400≤(cw (E,F,G,H,J,K,L,M,N,a,b,c,e,f,g,h,i,j,l,m,n,o,p,q,r,t,u,v,w,z,A,B,C,D,())).st.length)∧¬((cw (E,F,G,H,J,K,L,M,N,a,b,c,e,f,g,h,i,j,l,m,n,o,p,q,r,t,u,v,w,z,A,B,C,D,())).go.getD s.2.1.toNat false=true)
def Rc:cc:=⟨[(2,false,[.ptr 46 0]),(3,false,[.ptr 47 0]),(4,false,[.ptr 48 0]),sB 7,sI 8],IJ 33++pT 33++[cWp,cSt,Eb]⟩
def fS(x:DU.inp.den)(y:Rc.den):Prop:=match x,y with
 |(s,F,G,H,J,K,L,M,N,O,a,c,e,f,g,h,i,j,l,m,n,o,p,q,r,t,u,v,w,z,A,B,C,D,E,_),(b,er,b1,b2,b3,b4,b5,b6,b7,b8,b9,P,Q,R,S,U,W,X,Y,a0,b0,c0,c1,c2,c3,c4,c5,c6,c7,c8,c9,d0,d1,d2,d3,d4,s1,_)=>s1=s∧¬(s.2.1<0∨5≤s.2.1∨400≤(cw (F,G,H,J,K,L,M,N,O,a,c,e,f,g,h,i,j,l,m,n,o,p,q,r,t,u,v,w,z,A,B,C,D,E,())).st.length)∧¬((cw (F,G,H,J,K,L,M,N,O,a,c,e,f,g,h,i,j,l,m,n,o,p,q,r,t,u,v,w,z,A,B,C,D,E,())).go.getD s.2.1.toNat false=true)∧yi (cw (F,G,H,J,K,L,M,N,O,a,c,e,f,g,h,i,j,l,m,n,o,p,q,r,t,u,v,w,z,A,B,C,D,E,())) s.2.1.toNat s ((b,er),(cw (b1,b2,b3,b4,b5,b6,b7,b8,b9,P,Q,R,S,U,W,X,Y,a0,b0,c0,c1,c2,c3,c4,c5,c6,c7,c8,c9,d0,d1,d2,d3,d4,())))
def a6f(x:DU.inp.den):dG:=⟨[],[(5,bM a2a (Vc x) λ_=>0),(12,bM Rc (fS x) λ_=>0)],[],[],0⟩
abbrev rP(v:(Int×Int×Nw)×TA Unit):aN DU.out:=⟨0,v⟩
def Re:bu:=(38,[DU])::Rb
theorem a2b:KK Re:=kA a19 a6f (∀(e:Int×Int×Int×Int×Int×Int×BL×Lt),let j2:= !decide (0≤e.2.1∧e.2.1<5);WA λF b9 b5 c0 c1 c2 c3 c4 c5 c6 c7 c8 c9 d0 d1 d2 d3 d4 d5 d6 d7 d8 d9 e0 e1 e2 e3 e4 e5 e6 e7 e8 b7 e9=>let G:=(b9,b5,c0,c1,c2,c3,c4,c5,c6,c7,c8,c9,d0,d1,d2,d3,d4,d5,d6,d7,d8,d9,e0,e1,e2,e3,e4,e5,e6,e7,e8,b7,e9,());let i9:=rP ((26,0,0,0,0,0,false,false,[],()),F,G);let i6:=rP ((19,0,0,0,0,0,false,false,[],()),F,G);let z4:=Vc (e,F,G) (F,b9,b5,c0,c1,c2,c3,c4,c5,c6,c7,c8,c9,d0,d1,d2,d3,d4,d5,d6,d7,d8,d9,e0,e1,e2,e3,e4,e5,e6,e7,e8,b7,e9,e,(0,0,0,0,0,0,false,false,[],()),());∀(Q:aN DU.out→Prop),let O:Prop:=∀(f:BL)(g:Int),WA λh i j k l m n o p q r s t u v w z a0 a1 a2 a3 a4 a5 a6 a7 a8 c a9 b0 b1 b2 b3 a d=>let j0:=(i,j,k,l,m,n,o,p,q,r,s,t,u,v,w,z,a0,a1,a2,a3,a4,a5,a6,a7,a8,c,a9,b0,b1,b2,b3,a,d,());∀(b4:Int×Int×Int×Int×Int×Int×BL×Lt)(f6:Int×Int×Nw),fS (e,F,G) (f,g,h,i,j,k,l,m,n,o,p,q,r,s,t,u,v,w,z,a0,a1,a2,a3,a4,a5,a6,a7,a8,c,a9,b0,b1,b2,b3,a,d,b4,f6,())→Br (!g==0) (Q (rP ((g,0,0,0,0,0,false,false,[],()),h,j0))) ((0≤b4.2.1∧b4.2.1<5∧f.length≤1000000∧bU 10 c)∧∀(b:Int),b=MC (cw (h,j0)) (Int.toNat b4.2.1) f→(a.length≤1000000∧d.length≤1000000)∧Q (rP ((0,(↑a.length:Int)+1,0,0,0,0,false,false,[],()),h,i,j,k,l,m,n,o,p,q,r,s,t,u,v,w,z,a0,a1,a2,a3,a4,a5,a6,a7,a8,c,a9,b0,b1,b2,b3,a++[f],d++[b],())));(Tr.need (∃e,di (cw (F,G)) (e+1)) (Tr.all Ad (mG (cw (F,G)) e) λy=>Tr.leaf (rP ((y.1.1,y.1.2,0,0,0,0,false,false,[],()),dO y.2)))).sat Q→True∧Br j2 (Q i9) (True∧Br (decide (400≤b7.length)) (Q i9) ((Br (e.2.1==0) (Br (b5.getD ((38-1-1-10-15-1-1-1-1-1-1-1-1-1-1-1)/1) false) (Q i6) (Is z4)) (Br (e.2.1==1) (Br (b5.getD ((39-1-1-10-15-1-1-1-1-1-1-1-1-1-1-1)/1) false) (Q i6) (Is z4)) (Br (e.2.1==2) (Br (b5.getD ((40-1-1-10-15-1-1-1-1-1-1-1-1-1-1-1)/1) false) (Q i6) (Is z4)) (Br (e.2.1==3) (Br (b5.getD ((41-1-1-10-15-1-1-1-1-1-1-1-1-1-1-1)/1) false) (Q i6) (Is z4)) (Br (e.2.1==4) (Br (b5.getD ((42-1-1-10-15-1-1-1-1-1-1-1-1-1-1-1)/1) false) (Q i6) (Is z4)) (False∧True))))))∧WA λX Y h4 h5 h6 A J P B K R C L S D M U E N W h7 h8 h9 i0 i1 i2 H g2 g3 g4 g5 g6 i3 i4=>let z3:=cw (X,Y,h4,h5,h6,A,J,P,B,K,R,C,L,S,D,M,U,E,N,W,h7,h8,h9,i0,i1,i2,H,g2,g3,g4,g5,g6,i3,i4,());let i7:Prop:=(∃e,di z3 (e+1));∀(x:Int×Int×Int×Int×Int×Int×BL×Lt)(i5:Int×Int×Nw),let z5:=(g2,g3,g4,g5,g6,i3,i4,x,i5,());let j1:Prop:=(x.1==5)=true→((0≤E.1∧E.1<5∧fh N.2.1∧cu E.2.2.2.1.2.1 E.2.2.2.1.2.2.1∧bZ g6∧cb N.1∧bU 4 H)∧∀(b:(BL×Int)×La×List Tm×KV),(∃e,b=mF 4 (lC g6 [] 5++ej e) E.1 E.2.2.1 E.2.2.2.1 N.2.1 W H h6)→Is (fS (e,F,G) (b.1.1,b.1.2,X,Y,h4,h5,b.2.2.2,A,J,P,B,K,R,C,L,S,D,M,U,E,(N.1,b.2.1,N.2.2),W,h7,h8,h9,i0,i1,i2,b.2.2.1,z5)))∧O;let z9:Prop:=(x.1==5)=true→((0≤D.1∧D.1<5∧fh M.2.1∧cu D.2.2.2.1.2.1 D.2.2.2.1.2.2.1∧bZ g5∧cb M.1∧bU 4 H)∧∀(b:(BL×Int)×La×List Tm×KV),(∃e,b=mF 4 (lC g5 [] 5++ej e) D.1 D.2.2.1 D.2.2.2.1 M.2.1 U H h6)→Is (fS (e,F,G) (b.1.1,b.1.2,X,Y,h4,h5,b.2.2.2,A,J,P,B,K,R,C,L,S,D,(M.1,b.2.1,M.2.2),U,E,N,W,h7,h8,h9,i0,i1,i2,b.2.2.1,z5)))∧O;let z8:Prop:=(x.1==5)=true→((0≤C.1∧C.1<5∧fh L.2.1∧cu C.2.2.2.1.2.1 C.2.2.2.1.2.2.1∧bZ g4∧cb L.1∧bU 4 H)∧∀(b:(BL×Int)×La×List Tm×KV),(∃e,b=mF 4 (lC g4 [] 5++ej e) C.1 C.2.2.1 C.2.2.2.1 L.2.1 S H h6)→Is (fS (e,F,G) (b.1.1,b.1.2,X,Y,h4,h5,b.2.2.2,A,J,P,B,K,R,C,(L.1,b.2.1,L.2.2),S,D,M,U,E,N,W,h7,h8,h9,i0,i1,i2,b.2.2.1,z5)))∧O;let z7:Prop:=(x.1==5)=true→((0≤B.1∧B.1<5∧fh K.2.1∧cu B.2.2.2.1.2.1 B.2.2.2.1.2.2.1∧bZ g3∧cb K.1∧bU 4 H)∧∀(b:(BL×Int)×La×List Tm×KV),(∃e,b=mF 4 (lC g3 [] 5++ej e) B.1 B.2.2.1 B.2.2.2.1 K.2.1 R H h6)→Is (fS (e,F,G) (b.1.1,b.1.2,X,Y,h4,h5,b.2.2.2,A,J,P,B,(K.1,b.2.1,K.2.2),R,C,L,S,D,M,U,E,N,W,h7,h8,h9,i0,i1,i2,b.2.2.1,z5)))∧O;let z6:Prop:=(x.1==5)=true→((0≤A.1∧A.1<5∧fh J.2.1∧cu A.2.2.2.1.2.1 A.2.2.2.1.2.2.1∧bZ g2∧cb J.1∧bU 4 H)∧∀(b:(BL×Int)×La×List Tm×KV),(∃e,b=mF 4 (lC g2 [] 5++ej e) A.1 A.2.2.1 A.2.2.2.1 J.2.1 P H h6)→Is (fS (e,F,G) (b.1.1,b.1.2,X,Y,h4,h5,b.2.2.2,A,(J.1,b.2.1,J.2.2),P,B,K,R,C,L,S,D,M,U,E,N,W,h7,h8,h9,i0,i1,i2,b.2.2.1,z5)))∧O;Vc (e,F,G) (X,Y,h4,h5,h6,A,J,P,B,K,R,C,L,S,D,M,U,E,N,W,h7,h8,h9,i0,i1,i2,H,z5)→Br (x.2.1==0) (Br (x.1==4) (z6∧((x.1==5)=false→((0≤A.1∧A.1<5∧fh J.2.1∧cu A.2.2.2.1.2.1 A.2.2.2.1.2.2.1∧bZ g2∧pC J.2.2.1∧bU 4 H)∧∀(b:(BL×Int)×La×List Tm×KV),(∃e,b=mF 3 e A.1 A.2.2.1 A.2.2.2.1 J.2.1 P H h6)→Is (fS (e,F,G) (b.1.1,b.1.2,X,Y,h4,h5,b.2.2.2,A,(J.1,b.2.1,J.2.2),P,B,K,R,C,L,S,D,M,U,E,N,W,h7,h8,h9,i0,i1,i2,b.2.2.1,z5)))∧O)) (z6∧((x.1==5)=false→(i7∧∀(b:(BL×Int)×Wd),ia z3 0 x b→Is (fS (e,F,G) (b.1.1,b.1.2,DF b.2 (x,i5,()))))∧O))) (Br (x.2.1==1) (Br (x.1==4) (z7∧((x.1==5)=false→((0≤B.1∧B.1<5∧fh K.2.1∧cu B.2.2.2.1.2.1 B.2.2.2.1.2.2.1∧bZ g3∧pC K.2.2.1∧bU 4 H)∧∀(b:(BL×Int)×La×List Tm×KV),(∃e,b=mF 3 e B.1 B.2.2.1 B.2.2.2.1 K.2.1 R H h6)→Is (fS (e,F,G) (b.1.1,b.1.2,X,Y,h4,h5,b.2.2.2,A,J,P,B,(K.1,b.2.1,K.2.2),R,C,L,S,D,M,U,E,N,W,h7,h8,h9,i0,i1,i2,b.2.2.1,z5)))∧O)) (z7∧((x.1==5)=false→(i7∧∀(b:(BL×Int)×Wd),ia z3 1 x b→Is (fS (e,F,G) (b.1.1,b.1.2,DF b.2 (x,i5,()))))∧O))) (Br (x.2.1==2) (Br (x.1==4) (z8∧((x.1==5)=false→((0≤C.1∧C.1<5∧fh L.2.1∧cu C.2.2.2.1.2.1 C.2.2.2.1.2.2.1∧bZ g4∧pC L.2.2.1∧bU 4 H)∧∀(b:(BL×Int)×La×List Tm×KV),(∃e,b=mF 3 e C.1 C.2.2.1 C.2.2.2.1 L.2.1 S H h6)→Is (fS (e,F,G) (b.1.1,b.1.2,X,Y,h4,h5,b.2.2.2,A,J,P,B,K,R,C,(L.1,b.2.1,L.2.2),S,D,M,U,E,N,W,h7,h8,h9,i0,i1,i2,b.2.2.1,z5)))∧O)) (z8∧((x.1==5)=false→(i7∧∀(b:(BL×Int)×Wd),ia z3 2 x b→Is (fS (e,F,G) (b.1.1,b.1.2,DF b.2 (x,i5,()))))∧O))) (Br (x.2.1==3) (Br (x.1==4) (z9∧((x.1==5)=false→((0≤D.1∧D.1<5∧fh M.2.1∧cu D.2.2.2.1.2.1 D.2.2.2.1.2.2.1∧bZ g5∧pC M.2.2.1∧bU 4 H)∧∀(b:(BL×Int)×La×List Tm×KV),(∃e,b=mF 3 e D.1 D.2.2.1 D.2.2.2.1 M.2.1 U H h6)→Is (fS (e,F,G) (b.1.1,b.1.2,X,Y,h4,h5,b.2.2.2,A,J,P,B,K,R,C,L,S,D,(M.1,b.2.1,M.2.2),U,E,N,W,h7,h8,h9,i0,i1,i2,b.2.2.1,z5)))∧O)) (z9∧((x.1==5)=false→(i7∧∀(b:(BL×Int)×Wd),ia z3 3 x b→Is (fS (e,F,G) (b.1.1,b.1.2,DF b.2 (x,i5,()))))∧O))) (Br (x.2.1==4) (Br (x.1==4) (j1∧((x.1==5)=false→((0≤E.1∧E.1<5∧fh N.2.1∧cu E.2.2.2.1.2.1 E.2.2.2.1.2.2.1∧bZ g6∧pC N.2.2.1∧bU 4 H)∧∀(b:(BL×Int)×La×List Tm×KV),(∃e,b=mF 3 e E.1 E.2.2.1 E.2.2.2.1 N.2.1 W H h6)→Is (fS (e,F,G) (b.1.1,b.1.2,X,Y,h4,h5,b.2.2.2,A,J,P,B,K,R,C,L,S,D,M,U,E,(N.1,b.2.1,N.2.2),W,h7,h8,h9,i0,i1,i2,b.2.2.1,z5)))∧O)) (j1∧((x.1==5)=false→(i7∧∀(b:(BL×Int)×Wd),ia z3 4 x b→Is (fS (e,F,G) (b.1.1,b.1.2,DF b.2 (x,i5,()))))∧O))) (False∧True)))))))) (by kernel_rfl) (by
 conv=>zeta
 unfold Br WA dO DF;intro s;refine Wd.all λw=>?_;intro Q ⟨⟨n,h⟩,P⟩;have h:di w (n+1):=h;have F:∀y,mG w s y→Q ⟨0,((y.1.1,y.1.2,jh),y.2.sec,y.2.al,y.2.go,y.2.d,y.2.m,(cA y.2.c0),(bC y.2.c0),y.2.c0.km,(cA y.2.c1),(bC y.2.c1),y.2.c1.km,(cA y.2.c2),(bC y.2.c2),y.2.c2.km,(cA y.2.c3),(bC y.2.c3),y.2.c3.km,(cA y.2.c4),(bC y.2.c4),y.2.c4.km,y.2.k0,y.2.k1,y.2.k2,y.2.k3,y.2.k4,y.2.lg,y.2.ts,y.2.c0.bk,y.2.c1.bk,y.2.c2.bk,y.2.c3.bk,y.2.c4.bk,y.2.st,y.2.ln,())⟩:=λy hy=>P y hy;clear P;have bad:(s.2.1<0∨5≤s.2.1∨400≤w.st.length)→Q ⟨0,((26,0,jh),w.sec,w.al,w.go,w.d,w.m,(cA w.c0),(bC w.c0),w.c0.km,(cA w.c1),(bC w.c1),w.c1.km,(cA w.c2),(bC w.c2),w.c2.km,(cA w.c3),(bC w.c3),w.c3.km,(cA w.c4),(bC w.c4),w.c4.km,w.k0,w.k1,w.k2,w.k3,w.k4,w.lg,w.ts,w.c0.bk,w.c1.bk,w.c2.bk,w.c3.bk,w.c4.bk,w.st,w.ln,())⟩:=λc=>F ((26,0),w) (by unfold mG;rw[an c])
 have tail:∀(b:BL)(o:Int)(f:Wd),¬(s.2.1<0∨5≤s.2.1∨400≤w.st.length)→¬(w.go.getD s.2.1.toNat false=true)→yi w s.2.1.toNat s ((b,o),f)→((!o==0)=true→Q ⟨0,((o,0,jh),f.sec,f.al,f.go,f.d,f.m,(cA f.c0),(bC f.c0),f.c0.km,(cA f.c1),(bC f.c1),f.c1.km,(cA f.c2),(bC f.c2),f.c2.km,(cA f.c3),(bC f.c3),f.c3.km,(cA f.c4),(bC f.c4),f.c4.km,f.k0,f.k1,f.k2,f.k3,f.k4,f.lg,f.ts,f.c0.bk,f.c1.bk,f.c2.bk,f.c3.bk,f.c4.bk,f.st,f.ln,())⟩)∧
  ((!o==0)=false→(0≤s.2.1∧s.2.1<5∧b.length≤1000000∧bU 10 f.ts)∧∀k:Int,k=MC f s.2.1.toNat b→(f.st.length≤1000000∧f.ln.length≤1000000)∧∀i,i=f.keep b k→Q ⟨0,((0,(f.st.length:Int)+1,jh),i.sec,i.al,i.go,i.d,i.m,(cA i.c0),(bC i.c0),i.c0.km,(cA i.c1),(bC i.c1),i.c1.km,(cA i.c2),(bC i.c2),i.c2.km,(cA i.c3),(bC i.c3),i.c3.km,(cA i.c4),(bC i.c4),i.c4.km,i.k0,i.k1,i.k2,i.k3,i.k4,i.lg,i.ts,i.c0.bk,i.c1.bk,i.c2.bk,i.c3.bk,i.c4.bk,i.st,i.ln,())⟩):=by
  intro b o f no u R;have G:=no;rw[not_or,not_or]at G;have ok:=Jt h (show s.2.1.toNat<5 by omega) R;dsimp only at ok;have S:∀z:Ad,z=pD f s.2.1.toNat (b,o)→Q ⟨0,((z.1.1,z.1.2,jh),z.2.sec,z.2.al,z.2.go,z.2.d,z.2.m,(cA z.2.c0),(bC z.2.c0),z.2.c0.km,(cA z.2.c1),(bC z.2.c1),z.2.c1.km,(cA z.2.c2),(bC z.2.c2),z.2.c2.km,(cA z.2.c3),(bC z.2.c3),z.2.c3.km,(cA z.2.c4),(bC z.2.c4),z.2.c4.km,z.2.k0,z.2.k1,z.2.k2,z.2.k3,z.2.k4,z.2.lg,z.2.ts,z.2.c0.bk,z.2.c1.bk,z.2.c2.bk,z.2.c3.bk,z.2.c4.bk,z.2.st,z.2.ln,())⟩:=λz j=>F z (by unfold mG;rw[ag no,ag u];exact⟨_,R,j⟩);refine⟨λc=>S ((o,0),f) ?_,λc=>⟨⟨by omega,by omega,by omega,ok.1.ts.mono (by omega)⟩,λk D=>⟨⟨by have:=ok.1.st.1;omega,by have:=ok.1.st;omega⟩,λi h3=>?_⟩⟩⟩
  ·unfold pD;rw[an (jC c)]
  ·have:=S (Ec f b (MC f s.2.1.toNat b)) (by unfold pD;rw[ag (jX c)]);rw[←D]at this;subst h3;exact this
 refine⟨trivial,λc=>bad ?_,λc=>⟨trivial,λd=>bad (.inr (.inr (ai d))),λd=>⟨?_,?_⟩⟩⟩
 ·have c:¬(0≤s.2.1∧s.2.1<5):=λh=>by rw[decide_eq_true h]at c;cases c
  rcases Int.lt_or_le s.2.1 0 with q|q
  ·exact .inl q
  ·exact .inr (.inl (by omega))
 ·have c:0≤s.2.1∧s.2.1<5:=by
   cases h:decide (0≤s.2.1∧s.2.1<5)with
   |true=>exact ai h
   |false=>rw[h]at c;cases c
  have d':=am d
  have no:¬(s.2.1<0∨5≤s.2.1∨400≤w.st.length):=by
   rintro(q|q|q)
   ·omega
   ·omega
   ·exact d' q
  refine⟨λe=>?_,λH=>⟨λe=>?_,λv=>⟨λe=>?_,λx=>⟨λe=>?_,λJ=>⟨λe=>?_,λK=>?_⟩⟩⟩⟩⟩
  case refine_6=>exfalso;simp only[ax,ne_eq]at H v x J K;omega
  all_goals
   have p:s.2.1.toNat=_:=aI Int.toNat (be e);refine⟨λg=>F ((19,0),w) ?_,λg=>⟨⟨rfl,rfl,no,?_⟩⟩⟩
   ·unfold mG;rw[ag no,p];exact an g▸rfl
   ·show¬(w.go.getD s.2.1.toNat false=true);rw[p];intro q;have:=q.symm.trans g;cases this
 refine Wd.all λf=>?_;rintro C A ⟨v,x,no,u⟩;have v:w=f:=(show f=w from v).symm;have x:s=C:=(show C=s from x).symm;subst v x;have no:¬(s.2.1<0∨5≤s.2.1∨400≤w.st.length):=no;have u:¬(w.go.getD s.2.1.toNat false=true):=u
 have hw:0≤s.2.1∧s.2.1<5:=by
  rw[not_or,not_or]at no;omega
 clear bad;refine⟨λe=>?_,λH=>⟨λe=>?_,λv=>⟨λe=>?_,λx=>⟨λe=>?_,λJ=>⟨λe=>?_,λK=>?_⟩⟩⟩⟩⟩
 case refine_6=>exfalso;simp only[ax,ne_eq]at H v x J K;omega
 all_goals
  have p:s.2.1.toNat=_:=aI Int.toNat (be e);have U:=h.cl s.2.1.toNat (by omega);have t4:∀(l:List Op)(z:_),z=mF 4 (lC (w.cl s.2.1.toNat).bk [] 5++ej l) (w.cl s.2.1.toNat).c (w.cl s.2.1.toNat).sg (w.cl s.2.1.toNat).lg (w.cl s.2.1.toNat).la (w.cl s.2.1.toNat).km w.ts w.m→s.1=5→yi w s.2.1.toNat s (z.1,w.told s.2.1.toNat z):=λt z j c=>by unfold yi;rw[an c];exact⟨t,z,j,rfl⟩
  have t3:∀t z,z=mF 3 t (w.cl s.2.1.toNat).c (w.cl s.2.1.toNat).sg (w.cl s.2.1.toNat).lg (w.cl s.2.1.toNat).la (w.cl s.2.1.toNat).km w.ts w.m→s.1≠5→s.1=4→yi w s.2.1.toNat s (z.1,w.told s.2.1.toNat z):=λt z j c L=>by unfold yi;rw[ag c,an L];exact⟨t,z,j,rfl⟩
  have t0:∀r,ia w s.2.1.toNat s r→s.1≠5→s.1≠4→yi w s.2.1.toNat s r:=λr hr c L=>by unfold yi;rw[ag c,ag L];exact hr
  have T:∀(b:BL)(o:Int),∀f:Wd,∀C(A:D9.den),fS (s,w.sec,w.al,w.go,w.d,w.m,(cA w.c0),(bC w.c0),w.c0.km,(cA w.c1),(bC w.c1),w.c1.km,(cA w.c2),(bC w.c2),w.c2.km,(cA w.c3),(bC w.c3),w.c3.km,(cA w.c4),(bC w.c4),w.c4.km,w.k0,w.k1,w.k2,w.k3,w.k4,w.lg,w.ts,w.c0.bk,w.c1.bk,w.c2.bk,w.c3.bk,w.c4.bk,w.st,w.ln,()) (b,o,f.sec,f.al,f.go,f.d,f.m,(cA f.c0),(bC f.c0),f.c0.km,(cA f.c1),(bC f.c1),f.c1.km,(cA f.c2),(bC f.c2),f.c2.km,(cA f.c3),(bC f.c3),f.c3.km,(cA f.c4),(bC f.c4),f.c4.km,f.k0,f.k1,f.k2,f.k3,f.k4,f.lg,f.ts,f.c0.bk,f.c1.bk,f.c2.bk,f.c3.bk,f.c4.bk,f.st,f.ln,C,A,())→C=s∧yi w s.2.1.toNat s ((b,o),f):=λb o f C A g=>⟨g.1,g.2.2.2⟩;rw[p]at U;obtain⟨⟨W,X,p3,Y,p5,p6,p7,p8,p9⟩,a0,M⟩:=U;refine⟨λE=>⟨λB=>?_,λB=>⟨⟨⟨W,X,Y,p7,p6,bA (bA (Nat.le_add_right _ _) (Nat.le_add_right _ _)) M,h.ts.mono (by omega)⟩,λz j=>⟨⟨rfl,no,u,?_⟩⟩⟩,?_⟩⟩,λE=>⟨λB=>⟨⟨⟨W,X,Y,p7,p6,p5,h.ts.mono (by omega)⟩,λz j=>⟨⟨rfl,no,u,?_⟩⟩⟩,?_⟩,λB=>⟨⟨⟨n,h⟩,λz j=>⟨⟨rfl,no,u,?_⟩⟩⟩,?_⟩⟩⟩
  ·exfalso;have a:=be E;have b:=be B;rw[a]at b;exact absurd b (by decide)
  ·obtain⟨t,j⟩:=j;have:=t3 t z (by rw[p];exact j) (aA B) (be E);rw[p]at this⊢;exact this
  rotate_left
  ·obtain⟨t,j⟩:=j;have:=t4 _ z (by rw[p];exact j) (be B);rw[p]at this⊢;exact this
  rotate_left
  ·have:=t0 z (by rw[p];exact j) (aA B) (aA E);exact this
  all_goals
   intro b o;refine Wd.all λi=>?_;intro s3 N g;obtain⟨g1,g2⟩:=T b o i s3 N g;subst g1;obtain⟨T1,O⟩:=tail b o i no u g2;exact⟨T1,λc=>⟨(O c).1,λk D=>⟨((O c).2 k D).1,((O c).2 k D).2 _ rfl⟩⟩⟩) (l:=λ_=>aR λ_=>BX _ _)
def An:List (Int×BL)→Wd→Wd→Prop
 |[],w,a=>a=w
 |p::r,w,a=>∃y,jS w p.1 p.2 y∧An r y.2 a
def yk(a:List Int)(c:List BL):List (Int×BL):=c.flatMap λb=>a.map λi=>(i,b)
def Wd.ids(w:Wd):List Int:=(cL w.lg.2.1 w.lg.2.1.length).map (·.1)
abbrev ym:=(Int×Int×Nw)×Wd
def bad(w:Wd):ym:=((26,0,jh),w)
def sW(z:Ad):ym:=((z.1.1,z.1.2,jh),z.2)
def mP(w:Wd)(s:lw)(y:ym):Prop:=
 if 1≤s.1∧s.1≤5 then∃z,mG w s z∧y=sW z
 else if s.1=6 then(if 400≤w.st.length∨¬(1≤s.2.2.2.1∧s.2.2.2.1≤31∧s.2.2.2.1 % 2=1)then y=bad w else∃z,fi w s.2.2.2.1 z∧y=sW z)
 else if s.1=7 then(if¬(0≤s.2.1∧s.2.1<5)∨¬(1≤s.2.2.2.1∧s.2.2.2.1≤w.st.length)then y=bad w else∃z,jS w s.2.1 (w.st.getD (s.2.2.2.1-1).toNat []) z∧y=((z.1.1,0,z.1.2),z.2))
 else if s.1=8∨s.1=9 then y=sW (xR w s)
 else if s.1=10 then(if 400≤w.st.length∨65536<s.2.2.2.2.2.2.1.length then y=bad w else y=sW (Ec w s.2.2.2.2.2.2.1 0))
 else if s.1=11 then y=sW (ip w s)
 else if s.1=12 then∃a,An (yk w.ids w.st) w a∧y=((0,0,jh),a)
 else y=bad w
theorem B0:∀{a b:List (Int×BL)}{w e f:Wd},An a w e→An b e f→An (a++b) w f
 |[],_,_,_,_,h,c=>by
  have h:_=_:=h;subst h;exact c
 |p::a,_,_,_,_,h,c=>by
  obtain⟨y,g,i⟩:=h;exact⟨y,g,B0 i c⟩
theorem vM:∀{a:List (Int×BL)}{w w':Wd}{n:Nat},di w (n+a.length)→(∀p∈a,0≤p.1∧p.1<5)→An a w w'→di w' n∧w'.st=w.st∧w'.ln=w.ln∧w'.lg=w.lg
 |[],_,_,_,h,_,e=>by
  have e:_=_:=e;subst e;exact⟨h,rfl,rfl,rfl⟩
 |p::a,w,w',n,h,f,⟨y,c,i⟩=>by
  have j:=jc (n:=n+a.length) (h.mono (by simp;omega)) (f p (aM ..)) c;have:=vM j (λq l=>f q (aE _ l)) i;have g:=jd c;obtain⟨z,o,e⟩:=c
  have m:y.2.lg=w.lg:=by
   have a:=(hY w p.1.toNat z.2).1.lg;have b:=(oH p.2 p.1 z.1 (w.aft p.1.toNat z.2)).1.lg;rw[e];exact b.trans a
  exact⟨this.1,this.2.1.trans g.1,this.2.2.1.trans g.2.1,this.2.2.2.trans m⟩
theorem Ju:∀(a:List (Int×BL)){w:Wd}{n:Nat},di w (n+a.length)→(∀p∈a,0≤p.1∧p.1<5)→∃w',An a w w'
 |[],w,_,_,_=>⟨w,rfl⟩
 |p::a,w,n,h,b=>by
  obtain⟨y,c⟩:=pU h (i:=p.1) p.2 (b p (aM ..));have e:=jc (n:=n+a.length) (h.mono (by simp;omega)) (b p (aM ..)) c;obtain⟨w',f⟩:=Ju a e (λq g=>b q (aE _ g));exact⟨w',y,c,f⟩
def kW(w:Wd):Prop:=∀i∈w.ids,0≤i∧i<5
theorem pX{w:Wd}{n:Nat}(h:di w n):w.ids.length≤5:=by
 unfold Wd.ids;rw[bT];unfold cL;split
 ·exact aq _
 ·exact h.l5 _ (aT (by omega))
theorem pY(a:List Int)(c:List BL):(yk a c).length=c.length*a.length:=by
 unfold yk
 induction c with
 |nil=>simp
 |cons b c e=>simp only[List.flatMap_cons,aa,bT,bd,e,Nat.succ_mul];omega
theorem vN{a:List Int}{e:List BL}(h:∀i∈a,0≤i∧i<5):∀p∈yk a e,0≤p.1∧p.1<5:=by
 intro p c;unfold yk at c;obtain⟨b,_,f⟩:=List.mem_flatMap.1 c;obtain⟨i,g,rfl⟩:=dY.1 f;exact h i g
theorem Jv{w:Wd}{n:Nat}(h:di w (n+5*w.st.length+3))(hi:kW w)(s:lw):∃y,mP w s y:=by
 unfold mP;split
 ·obtain⟨z,a⟩:=BX w s;exact⟨_,z,a,rfl⟩
 split
 ·split
  ·exact⟨_,rfl⟩
  ·obtain⟨z,a⟩:=kV (k:=n+5*w.st.length+1) h s.2.2.2.1;exact⟨_,z,a,rfl⟩
 split
 ·split
  ·exact⟨_,rfl⟩
  ·rename_i g;rw[not_or]at g;obtain⟨z,a⟩:=pU h (i:=s.2.1) (w.st.getD (s.2.2.2.1-1).toNat []) (aD.1 g.1);exact⟨_,z,a,rfl⟩
 split
 ·exact⟨_,rfl⟩
 split
 ·split
  ·exact⟨_,rfl⟩
  ·exact⟨_,rfl⟩
 split
 ·exact⟨_,rfl⟩
 split
 ·obtain⟨b,c⟩:=Ju (yk w.ids w.st) (n:=0) (h.mono (by rw[pY];have:=pX h;have:=Nat.mul_le_mul_left w.st.length this;omega)) (vN hi);exact⟨_,b,c,rfl⟩
 ·exact⟨_,rfl⟩
def Vd:Ct:=⟨2,⟨[sP 0,Wc 1],jK⟩,[⟨[(0,true,[.d D9])],IJ 33++pT 33⟩],λ(s,F,G,H,J,K,L,M,N,O,b,c,e,f,g,h,i,j,l,o,p,q,r,t,u,v,w,x,z,A,B,C,D,a,E,_)=>eO (s.2.2.2.2.2.2.1.length≤1000000∧kW (cw (F,G,H,J,K,L,M,N,O,b,c,e,f,g,h,i,j,l,o,p,q,r,t,u,v,w,x,z,A,B,C,D,a,E,()))∧∃n,di (cw (F,G,H,J,K,L,M,N,O,b,c,e,f,g,h,i,j,l,o,p,q,r,t,u,v,w,x,z,A,B,C,D,a,E,())) (n+5*a.length+3)) (mP (cw (F,G,H,J,K,L,M,N,O,b,c,e,f,g,h,i,j,l,o,p,q,r,t,u,v,w,x,z,A,B,C,D,a,E,())) s) λy=>(y.1,y.2.sec,y.2.al,y.2.go,y.2.d,y.2.m,(cA y.2.c0),(bC y.2.c0),y.2.c0.km,(cA y.2.c1),(bC y.2.c1),y.2.c1.km,(cA y.2.c2),(bC y.2.c2),y.2.c2.km,(cA y.2.c3),(bC y.2.c3),y.2.c3.km,(cA y.2.c4),(bC y.2.c4),y.2.c4.km,y.2.k0,y.2.k1,y.2.k2,y.2.k3,y.2.k4,y.2.lg,y.2.ts,y.2.c0.bk,y.2.c1.bk,y.2.c2.bk,y.2.c3.bk,y.2.c4.bk,y.2.st,y.2.ln,())⟩
theorem nd1{p:Prop}[Decidable p](h:(!decide p)=true):¬p:=λq=>by rw[decide_eq_true q]at h;cases h
theorem nd2{p:Prop}[Decidable p](h:(!decide p)=false):p:=by
 by_cases q:p
 ·exact q
 ·rw[decide_eq_false q]at h;cases h
theorem Jw(a:List Int)(l:List BL)(b:BL):yk a (l++[b])=yk a l++a.map λi=>(i,b):=by
 unfold yk;rw[List.flatMap_append];simp
theorem B1{a:List Int}{st:List BL}{k r:Nat}(c:a.length≤5)(j:k<st.length)(e:r≤a.length)(b:BL):(yk a (st.take k)++(a.take r).map λi=>(i,b)).length≤5*st.length:=by
 rw[aa,pY,bT,bi,bi];have f:min k st.length=k:=ee (by omega);have g:min r a.length=r:=ee e;rw[f,g];have h:(k+1)*a.length≤st.length*5:=Nat.mul_le_mul (by omega) c;rw[Nat.succ_mul]at h;omega
theorem Jx{a:List Int}{l:List BL}{r:Nat}(h:∀i∈a,0≤i∧i<5)(b:BL):∀p∈(yk a l++(a.take r).map λi=>(i,b)),0≤p.1∧p.1<5:=by
 intro p c;rcases aY.1 c with q|q
 ·exact vN h p q
 ·obtain⟨i,e,rfl⟩:=dY.1 q;exact h i (List.mem_of_mem_take e)
def Rf:cc:=⟨[sP 0,(4,false,[.ptr 44 0]),(6,false,[.d (.sl .i64)]),sO 102 31,sI 103,sI 104],wdR++[Eb]⟩
def B2(x:Vd.inp.den)(y:Rf.den):Prop:=match x,y with
 |(s,a1,a2,a3,a4,a5,a6,a7,a8,a9,b,c,e,f,g,h,i,l,m,n,o,p,q,r,t,u,v,w,z,A,B,C,D,a,E,_),(F,ln,j,b1,b2,b3,b4,b5,b6,b7,b8,b9,G,H,J,K,L,M,N,O,P,Q,R,S,U,W,X,Y,a0,b0,c0,c1,c2,c3,c4,c5,c6,_,_)=>s.1=12∧F=(cw (a1,a2,a3,a4,a5,a6,a7,a8,a9,b,c,e,f,g,h,i,l,m,n,o,p,q,r,t,u,v,w,z,A,B,C,D,a,E,())).ids∧ln=a.length∧∃k:Nat,j=k∧k≤a.length∧An (yk F (a.take k)) (cw (a1,a2,a3,a4,a5,a6,a7,a8,a9,b,c,e,f,g,h,i,l,m,n,o,p,q,r,t,u,v,w,z,A,B,C,D,a,E,())) (cw (b1,b2,b3,b4,b5,b6,b7,b8,b9,G,H,J,K,L,M,N,O,P,Q,R,S,U,W,X,Y,a0,c1,c2,c3,c4,c5,c6,b0,c0,()))
def Rg:cc:=⟨[sP 0,(4,false,[.ptr 44 0]),(6,false,[.d (.sl .i64)]),sB 8,sO 102 31,sI 103,sI 104,(108,false,[.d (.sl .i64)]),sI 109,sI 110],wdR++[Eb]⟩
def B3(x:Vd.inp.den)(i0:Int)(y:Rg.den):Prop:=match x,y with
 |(s,a1,a2,a3,a4,a5,a6,a7,a8,a9,e,f,g,h,l,m,n,o,p,q,t,u,v,w,z,A,B,C,D,E,F,G,H,a,J,_),(c,b,ln,j,K,L,j2,b1,b2,b3,b4,b5,b6,b7,b8,b9,M,N,O,P,Q,R,S,U,W,X,Y,a0,b0,c0,c1,c2,c3,c4,c5,c6,c7,c8,c9,d0,d1,_,_)=>s.1=12∧c=(cw (a1,a2,a3,a4,a5,a6,a7,a8,a9,e,f,g,h,l,m,n,o,p,q,t,u,v,w,z,A,B,C,D,E,F,G,H,a,J,())).ids∧ln=a.length∧j=i0∧K=c∧L=c.length∧∃k r:Nat,j=k∧k<a.length∧b=a.getD k []∧j2=r∧r≤c.length∧An (yk c (a.take k)++(c.take r).map λi=>(i,b)) (cw (a1,a2,a3,a4,a5,a6,a7,a8,a9,e,f,g,h,l,m,n,o,p,q,t,u,v,w,z,A,B,C,D,E,F,G,H,a,J,())) (cw (b1,b2,b3,b4,b5,b6,b7,b8,b9,M,N,O,P,Q,R,S,U,W,X,Y,a0,b0,c0,c1,c2,c3,c6,c7,c8,c9,d0,d1,c4,c5,()))
def doA(x:Vd.inp.den):dG:=⟨[(31,og Rf (B2 x) (λ(_,b,j,_)=>(@bG Int Int Int _ b j).toNat) λ(_,_,c,_)=>[(34,bM Rg (B3 x c) λ(_,_,_,_,_,a,e,_)=>(@bG Int Int Int _ a e).toNat)])],[],[],[],0⟩
abbrev pj(v:(Int×Int×Nw)×TA Unit):aN Vd.out:=⟨0,v⟩
def a2c:bu:=(16,[Vd])::Re
theorem a2d:KK a2c:=kA a2b doA (∀(a:Int×Int×Int×Int×Int×Int×BL×Lt),let P:= !decide (0≤a.2.1∧a.2.1<5);let R:Prop:=65536<(↑(ac a.2.2.2.2.2.2.1):Int);let z8:= !decide (1≤a.2.2.2.1∧a.2.2.2.1≤31∧a.2.2.2.1 % (2:Int)=1);WA λf g h i j k l m n o p q r s t u v w y z S U W X Y d a5 a6 a7 a8 a9 b0 c e=>let E:=c.getD (a.2.2.2.1-1).toNat [];let F:Prop:=400≤c.length;let z9:= !decide (1≤a.2.2.2.1∧a.2.2.2.1≤(↑c.length:Int));let x:=(g,h,i,j,k,l,m,n,o,p,q,r,s,t,u,v,w,y,z,S,U,W,X,Y,d,a5,a6,a7,a8,a9,b0,c,e,());let C:=pj ((26,0,0,0,0,0,false,false,[],()),f,x);∀(Q:aN Vd.out→Prop),let z4:Prop:=(c.length≤1000∧e.length≤1000∧∀(b:BL),b∈c→b.length≤2000000)∧∀(b:(Int×Int)×Wd),b=xR (cw (f,x)) a→Q (pj ((b.1.1,b.1.2,0,0,0,0,false,false,[],()),dO b.2));let G:Prop:=(∃a,di (cw (f,x)) (a+1))∧∀(b:(Int×Int)×Wd),mG (cw (f,x)) a b→Q (pj ((b.1.1,b.1.2,0,0,0,0,false,false,[],()),dO b.2));(Ct.spec Vd (a,f,x)).sat Q→Br (a.1==1) G (Br (a.1==2) G (Br (a.1==3) G (Br (a.1==4) G (Br (a.1==5) G (Br (a.1==6) (True∧Br (decide F) (Q C) (True∧Br z8 (Q C) ((1≤a.2.2.2.1∧a.2.2.2.1≤31∧∃a,di (cw (f,x)) (a+2))∧∀(b:(Int×Int)×Wd),fi (cw (f,x)) a.2.2.2.1 b→Q (pj ((b.1.1,b.1.2,0,0,0,0,false,false,[],()),dO b.2))))) (Br (a.1==7) (True∧Br P (Q C) (True∧Br z9 (Q C) (ae (a.2.2.2.1-1)∧(0≤a.2.2.2.1-1∧a.2.2.2.1-1<(↑c.length:Int))∧(0≤a.2.1∧a.2.1<5∧E.length≤10000000∧∃a,di (cw (f,x)) (a+1))∧∀(b:(Int×Nw)×Wd),jS (cw (f,x)) a.2.1 E b→Q (pj ((b.1.1,0,b.1.2),dO b.2))))) (Br (a.1==8) z4 (Br (a.1==9) z4 (Br (a.1==10) (True∧Br (decide F) (Q C) (Br (decide R) (Q C) ((c.length≤1000000∧e.length≤1000000)∧Q (pj ((0,(↑c.length:Int)+1,0,0,0,0,false,false,[],()),f,g,h,i,j,k,l,m,n,o,p,q,r,s,t,u,v,w,y,z,S,U,W,X,Y,d,a5,a6,a7,a8,a9,b0,c++[a.2.2.2.2.2.2.1],e++[0],()))))) (Br (a.1==11) ((ac a.2.2.2.2.2.2.1≤1000000∧∃a,di (cw (f,x)) (a+1))∧∀(b:(Int×Int)×Wd),b=ip (cw (f,x)) a→Q (pj ((b.1.1,b.1.2,0,0,0,0,false,false,[],()),dO b.2))) (Br (a.1==12) (cu d.2.1 d.2.2.1∧Is (B2 (a,f,x) (rU (λa=>a.1) (cL d.2.1 (↑(ac d.2.1):Int)),(↑c.length:Int),0,f,g,h,i,j,k,l,m,n,o,p,q,r,s,t,u,v,w,y,z,S,U,W,X,Y,d,c,e,a5,a6,a7,a8,a9,b0,(0,0,0,0,0,0,false,false,[],()),()))∧∀(K:List Int)(L B:Int),WB λf5 f6 f7 f8 f9 g0 g1 g2 g3 g4 g5 g6 g7 g8 g9 h0 h1 h2 h3 h4 h5 h6 h7 h8 h9 i0 M i1 i2 i3 i4 i5 i6 i7=>∀(j0:Int×Int×Nw),let z6:=(f5,f6,f7,f8,f9,g0,g1,g2,g3,g4,g5,g6,g7,g8,g9,h0,h1,h2,h3,h4,h5,h6,h7,h8,h9,i0,M,i1,i2,i3,i4,i5,i6,i7,j0,());B2 (a,f,x) (K,L,B,z6)→Br (decide (B<L)) ((0≤B∧B<(↑M.length:Int))∧Is (B3 (a,f,x) B (K,M.getD B.toNat [],L,B,K,(↑K.length:Int),0,z6))∧∀(i8:List Int)(N:BL)(O H:Int)(D:List Int)(J A:Int),WB λc1 c2 c3 c4 c5 c6 c7 c8 c9 d0 d1 d2 d3 d4 d5 d6 d7 d8 d9 e0 e1 e2 e3 e4 e5 e6 e7 e8 e9 f0 f1 f2 f3 f4=>let z5:=cw (c1,c2,c3,c4,c5,c6,c7,c8,c9,d0,d1,d2,d3,d4,d5,d6,d7,d8,d9,e0,e1,e2,e3,e4,e5,e6,e9,f0,f1,f2,f3,f4,e7,e8,());∀(i9:Int×Int×Nw),let z7:=(c1,c2,c3,c4,c5,c6,c7,c8,c9,d0,d1,d2,d3,d4,d5,d6,d7,d8,d9,e0,e1,e2,e3,e4,e5,e6,e7,e8,e9,f0,f1,f2,f3,f4,i9,());B3 (a,f,x) B (i8,N,O,H,D,J,A,z7)→Br (decide (A<J)) ((0≤A∧A<(↑D.length:Int))∧(0≤D.getD A.toNat 0∧D.getD A.toNat (0:Int)<5∧N.length≤10000000∧∃a,di z5 (a+1))∧∀(b:(Int×Nw)×Wd),jS z5 (D.getD A.toNat 0) N b→ae (A+1)∧Is (B3 (a,f,x) B (i8,N,O,H,D,J,A+1,a0z b.2 (i9,()))∧(J-(A+1)).toNat<(J-A).toNat)) (ae (H+1)∧Is (B2 (a,f,x) (i8,O,H+1,z7)∧(O-(H+1)).toNat<(L-B).toNat))) (Q (pj ((0,0,0,0,0,0,false,false,[],()),f5,f6,f7,f8,f9,g0,g1,g2,g3,g4,g5,g6,g7,g8,g9,h0,h1,h2,h3,h4,h5,h6,h7,h8,h9,i0,i2,i3,i4,i5,i6,i7,M,i1,())))) (Q C))))))))))))) (by kernel_rfl) (by
 conv=>zeta
 unfold Br WA WB dO a0z;intro s;refine Wd.all λw=>?_;intro Q ⟨⟨ht,B,n,D⟩,hQ⟩;have D:di w (n+5*w.st.length+3):=D;have B:kW w:=B;have a:∀y:ym,mP w s y→Q ⟨0,(y.1,y.2.sec,y.2.al,y.2.go,y.2.d,y.2.m,(cA y.2.c0),(bC y.2.c0),y.2.c0.km,(cA y.2.c1),(bC y.2.c1),y.2.c1.km,(cA y.2.c2),(bC y.2.c2),y.2.c2.km,(cA y.2.c3),(bC y.2.c3),y.2.c3.km,(cA y.2.c4),(bC y.2.c4),y.2.c4.km,y.2.k0,y.2.k1,y.2.k2,y.2.k3,y.2.k4,y.2.lg,y.2.ts,y.2.c0.bk,y.2.c1.bk,y.2.c2.bk,y.2.c3.bk,y.2.c4.bk,y.2.st,y.2.ln,())⟩:=λy hy=>hQ y hy;clear hQ;have o:=D.st;have W:∃k,di w (k+1):=⟨n+5*w.st.length+2,D⟩;have w2:∃k,di w (k+2):=⟨n+5*w.st.length+1,D⟩;have g:=a (bad w)
 have p:∀k:Int,(s.1==k)=true→1≤k∧k≤5→(∃x,di w (x+1))∧∀(z:(Int×Int)×Wd),mG w s z→Q ⟨0,((z.1.1,z.1.2,jh),z.2.sec,z.2.al,z.2.go,z.2.d,z.2.m,(cA z.2.c0),(bC z.2.c0),z.2.c0.km,(cA z.2.c1),(bC z.2.c1),z.2.c1.km,(cA z.2.c2),(bC z.2.c2),z.2.c2.km,(cA z.2.c3),(bC z.2.c3),z.2.c3.km,(cA z.2.c4),(bC z.2.c4),z.2.c4.km,z.2.k0,z.2.k1,z.2.k2,z.2.k3,z.2.k4,z.2.lg,z.2.ts,z.2.c0.bk,z.2.c1.bk,z.2.c2.bk,z.2.c3.bk,z.2.c4.bk,z.2.st,z.2.ln,())⟩:=λk h h1=>⟨W,λz t=>a (sW z) (by
  have e:s.1=k:=be h;unfold mP;rw[an (by rw[e];exact h1)];exact⟨z,t,rfl⟩)⟩
 refine⟨λc=>p 1 c (by decide),λX=>⟨λc=>p 2 c (by decide),λY=>⟨λc=>p 3 c (by decide),λc3=>⟨λc=>p 4 c (by decide),λc4=>⟨λc=>p 5 c (by decide),λc5=>?_⟩⟩⟩⟩⟩;clear p
 have G:¬(1≤s.1∧s.1≤5):=by
  have X:¬@Eq Int s.1 1:=aA X;have Y:¬@Eq Int s.1 2:=aA Y;have c3:¬@Eq Int s.1 3:=aA c3;have c4:¬@Eq Int s.1 4:=aA c4;have c5:¬@Eq Int s.1 5:=aA c5;intro h;have h1:@aZ Int _ 1 s.1:=h.1;have h2:@aZ Int _ s.1 5:=h.2;omega
 unfold mP at g a;rw[ag G]at g;simp only[ag G]at a;clear X Y c3 c4 c5;refine⟨λc=>?_,λc6=>?_⟩
 ·have e:s.1=6:=be c;rw[an e]at g;simp only[an e]at a;refine⟨trivial,λd=>g (by rw[an (.inl (by have:=ai d;omega))]),λd=>⟨trivial,λf=>g (by rw[an (.inr (nd1 f))]),λf=>?_⟩⟩;have f:1≤s.2.2.2.1∧s.2.2.2.1≤31∧s.2.2.2.1 % 2=1:=nd2 f;refine⟨⟨f.1,f.2.1,w2⟩,λz t=>a (sW z) ?_⟩;rw[ag (λq=>q.elim (λq=>by have:=am d;omega) (λq=>q f))];exact⟨z,t,rfl⟩
 rw[ag (aA c6)]at g;simp only[ag (aA c6)]at a;refine⟨λc=>?_,λc7=>?_⟩
 ·have e:s.1=7:=be c;rw[an e]at g;simp only[an e]at a;refine⟨trivial,λd=>g (by rw[an (.inl (nd1 d))]),λd=>⟨trivial,λf=>g (by rw[an (.inr (nd1 f))]),λf=>?_⟩⟩;have d:0≤s.2.1∧s.2.1<5:=nd2 d;have f:1≤s.2.2.2.1∧s.2.2.2.1≤w.st.length:=nd2 f;have f1:@aZ Int _ 1 s.2.2.2.1:=f.1;have f2:@aZ Int _ s.2.2.2.1 w.st.length:=f.2;have hm:=o.2.2 _ (aT (z:=([]:BL)) (show(s.2.2.2.1-1).toNat<w.st.length by omega));refine⟨by unfold ae;omega,by omega,⟨d.1,d.2,by omega,W⟩,λz t=>a ((z.1.1,0,z.1.2),z.2) ?_⟩;rw[ag (λq=>q.elim (λq=>q d) (λq=>q f))];exact⟨z,t,rfl⟩
 rw[ag (aA c7)]at g;simp only[ag (aA c7)]at a;have P:w.st.length≤1000∧w.ln.length≤1000∧∀b:BL,b∈w.st→b.length≤2000000:=⟨o.1,by rw[o.2.1];exact o.1,o.2.2⟩;refine⟨λc=>⟨P,λz t=>a (sW z) ?_⟩,λc8=>⟨λc=>⟨P,λz t=>a (sW z) ?_⟩,λc9=>?_⟩⟩
 ·rw[an (.inl (be c))];exact aI sW t
 ·rw[an (.inr (be c))];exact aI sW t
 have H:¬(s.1=8∨s.1=9):=λq=>q.elim (aA c8) (aA c9);rw[ag H]at g;simp only[ag H]at a;refine⟨λc=>?_,λJ=>?_⟩
 ·have e:s.1=10:=be c;rw[an e]at g;simp only[an e]at a;refine⟨trivial,λd=>g (by rw[an (.inl (by have:=ai d;omega))]),λd=>⟨λf=>g (by rw[an (.inr (by have:=ai f;omega))]),λf=>⟨⟨by omega,by rw[o.2.1];omega⟩,a (sW (Ec w s.2.2.2.2.2.2.1 0)) ?_⟩⟩⟩;have d:=am d;have f:=am f;rw[ag (λq=>q.elim (λq=>by omega) (λq=>by omega))]
 rw[ag (aA J)]at g;simp only[ag (aA J)]at a;refine⟨λc=>⟨⟨ht,W⟩,λz t=>a (sW z) ?_⟩,λK=>?_⟩
 ·rw[an (be c)];exact aI sW t
 rw[ag (aA K)]at g;simp only[ag (aA K)]at a;refine⟨λc=>?_,λa0=>g (by rw[ag (aA a0)])⟩;have C:s.1=12:=be c;clear g c c6 c7 c8 c9 J K H G;simp only[an C]at a;have R:=pX D;refine⟨D.lg.1,⟨⟨C,rfl,rfl,0,rfl,aq _,rfl⟩⟩,?_⟩;intro a1 ln j;refine Wd.all2 λv=>?_;rintro sn ⟨-,L,M,k,N,hk,A⟩;have L:a1=w.ids:=L;have M:ln=(w.st.length:Int):=M;have N:j=(k:Int):=N;have hk:k≤w.st.length:=hk;subst L M N;have A:An (yk w.ids (w.st.take k)) w v:=A;have ek:((k:Int).toNat)=k:=by omega
 rw[ek];refine⟨λc=>?_,λc=>?_⟩
 ·have c:k<w.st.length:=by have:=ai c;omega
  have f0:An (yk w.ids (w.st.take k)++(w.ids.take 0).map λi=>(i,w.st.getD k [])) w v:=by
   rw[List.take_zero,List.map_nil,bj];exact A
  have E:=vM (n:=n+3) (D.mono (by have:=B1 R c (aq _) (w.st.getD k []);omega)) (Jx B (w.st.getD k [])) f0;have O:v.st=w.st:=E.2.1;refine⟨by rw[O];omega,⟨⟨C,rfl,rfl,rfl,rfl,rfl,k,0,rfl,c,by rw[O],rfl,aq _,f0⟩⟩,?_⟩;clear f0 E O A;intro S b2 a2 j3 U a3 j4;refine Wd.all2 λu=>?_;rintro a5 ⟨-,L,M,N,e4,e5,F,r,e6,-,e7,e8,hr,A⟩;have L:S=w.ids:=L;have M:a2=(w.st.length:Int):=M;have N:j3=(k:Int):=N;have e7:b2=w.st.getD F []:=e7;have a4:F=k:=by have e6:j3=(F:Int):=e6;omega
  subst a4;subst L;have e4:U=w.ids:=e4;have e5:a3=(w.ids.length:Int):=e5;have e8:j4=(r:Int):=e8;have hr:r≤w.ids.length:=hr;subst M N e4 e5 e7 e8;clear e6;have A:An (yk w.ids (w.st.take F)++(w.ids.take r).map λi=>(i,w.st.getD F [])) w u:=A;have E:=vM (n:=n+3) (D.mono (by have:=B1 R c hr (w.st.getD F []);omega)) (Jx B (w.st.getD F [])) A;have er:((r:Int).toNat)=r:=by omega
  rw[er];refine⟨λd=>?_,λd=>?_⟩
  ·have d:r<w.ids.length:=by have:=ai d;omega
   have hm:=B _ (aT (z:=(0:Int)) d);have a6:=o.2.2 _ (aT (z:=([]:BL)) c);refine⟨by omega,⟨hm.1,hm.2,by omega,n+2,E.1⟩,λz t=>⟨by unfold ae;omega,⟨⟨C,rfl,rfl,rfl,rfl,rfl,F,r+1,rfl,c,rfl,rfl,d,?_⟩,by omega⟩⟩⟩;show An _ w z.2;rw[cK (z:=(0:Int)) d,dl,←ay];exact B0 A ⟨z,t,rfl⟩
  ·have d:r=w.ids.length:=by have:=am d;omega
   subst d;refine⟨by unfold ae;omega,⟨⟨C,rfl,rfl,F+1,rfl,c,?_⟩,by omega⟩⟩;show An _ w u;rw[cK (z:=([]:BL)) c,Jw];rw[bp]at A;exact A
 ·have d:k=w.st.length:=by have:=am c;omega
  subst d;rw[bp]at A;exact a ((0,0,jh),v) ⟨v,A,rfl⟩) (l:=λ_=>aR λh=>by obtain⟨_,h2,_,h3⟩:=h;exact Jv h3 h2 _)
end Go.Tp
namespace Go.Tp
open Go.Hv Go.Proofs Go.Proofs.YtgpideichgnmhaaGreat Go.RowKit Go.ChangeShapes Go.WideShapes
set_option maxRecDepth 100000
set_option maxHeartbeats 0
section
theorem MF:ownKnob Tryz.prog.godebug=none:=by kernel_rfl
theorem B4:laidOutB Tryz.prog=true:=by kernel_rfl
theorem a2e:mapsRowed Tryz.prog=true:=by kernel_rfl
theorem Ve:Tryz.prog.stopsHeard=true:=by kernel_rfl
theorem Vf:Tryz.prog.mayEnter=true:=by kernel_rfl
theorem Vg:(Rows.topAuthenticRow.lifted==Tryz.prog.liftsFinal)=true:=by kernel_rfl
theorem a2f:(Tryz.prog.make==some Rows.topAuthenticRow.make)=true:=by kernel_rfl
section
variable{H:Type}{enc:TypeId×Value→H}{W:World}
theorem Jy:xd enc Tryz.prog W 32 tB:=uT (e:=5) (ce:=1) (by kernel_rfl) (by kernel_rfl) (by decide) (RP (by kernel_rfl))
theorem kX:xd enc Tryz.prog W 3 .i64:=KQ (by kernel_rfl)
theorem Rh:xd enc Tryz.prog W 9 .st:=RQ (by kernel_rfl)
theorem Vh:xd enc Tryz.prog W 34 SR:=
 rk (ps:=[(3,0),(3,1),(3,2),(3,3),(32,4),(32,5),(32,6)]) (by kernel_rfl) (by kernel_rfl)
  (.cons kX (.cons kX (.cons kX (.cons kX (.cons Jy (.cons Jy (.cons Jy .nil))))))) (by kernel_rfl)
theorem Vi:xd enc Tryz.prog W 36 I9:=
 rk (ps:=[(3,0),(3,1),(3,2),(3,3),(3,4),(3,5),(9,6),(34,7)]) (by kernel_rfl) (by kernel_rfl)
  (.cons kX (.cons kX (.cons kX (.cons kX (.cons kX (.cons kX (.cons Rh (.one Vh)))))))) (by kernel_rfl)
theorem Vj:xd enc Tryz.prog W 22 (.sl I9):=uT (e:=36) (ce:=14) (by kernel_rfl) (by kernel_rfl) (by decide) Vi
theorem a6g:xd enc Tryz.prog W 57 (.sl .st):=uT (e:=9) (ce:=1) (by kernel_rfl) (by kernel_rfl) (by decide) Rh
theorem a6h:xd enc Tryz.prog W 58 (.sl .i64):=uT (e:=3) (ce:=1) (by kernel_rfl) (by kernel_rfl) (by decide) kX
end
theorem MG{H:Type}{enc:TypeId×Value→H}{P:Program}{W:World}{t e:TypeId}{T:Ty}{v:Value}{d:DataW H}{ps:List MemPlace}{b:Nat}(g:P.underlying t=some (.slice e))(h:xd enc P W t T)(c:Value.okWide P W .any b t v)(i:DataW.Trod enc P W 0 (λ_=>true) true t v d ps):∃x:T.den,Rd W RO T x [v]:=by
 obtain⟨a,len,cap,rfl⟩:=okWide_slice g c;obtain⟨f,j⟩:=i;obtain⟨x,l⟩:=h f _ _ j;exact⟨x,l⟩
theorem Jz{W:World}{A:Nat→Prop}{ρ:Nat→Pl}{T:Ty}{x:T.den}{v:Value}(h:Rd W A T x [v]):aS W A ρ (.val false [.d T x]) v:=⟨[v],⟨[v],[],rfl,h,rfl⟩,rfl⟩
theorem JA{P:Program}{f:FuncId}{n:Nat}{g:cc}{c:g.den→Tr (aN [⟨[sL 0],[]⟩])}{vals:Array Value}{W:World}(h:Calls P f vals W λe i=>Below W.heap.size W i∧∃(ρ':Nat→Pl)(y:aN (Ct.mk n g [⟨[sL 0],[]⟩] c).out)(vs:List Value)(A:Nat→Prop),y=⟨0,(true,())⟩∧e= .returned (kr vs)∧F2 (yp i A ρ') (SP.res gM (cV (Ct.mk n g [⟨[sL 0],[]⟩] c).out y.1).sl ((cV (Ct.mk n g [⟨[sL 0],[]⟩] c).out y.1).get y.2).1) vs):
 Calls P f vals W λe i=>e= .returned (.bool true)∧Below W.heap.size W i:=by
 refine h.mono λe i⟨hB,ρ',y,vs,A,p,q,r⟩=>⟨?_,hB⟩;subst p
 match vs,r with
 |[v],⟨⟨s,⟨a,b,j,l,m⟩,o⟩,_⟩=>
  have l:a=[.bool true]:=l;have m:b=[]:=m;have o:s=[v]:=o;subst l m;rw[bj]at j;rw[o]at j;rw[q,(List.cons.inj j).1];rfl
end
end Go.Tp
namespace Go.Tp
open Go.Hv Go.Proofs Go.RowKit
set_option maxRecDepth 100000
set_option maxHeartbeats 0
def B5:Ct:=⟨4,⟨[sI 0,sB 1,sB 2,sB 3],[]⟩,[⟨[sP 0],gk 0⟩],λ(id,a,b,c,_)=>one (0≤id∧id<5∧a.length=32∧b.length=32∧c.length=32) (id,a,b,(c,[],[],()),iX,[[0,0,0,0,0],[0,0,0,0,0]],[],[],[],())⟩
abbrev Vk(v:Int×BL×BL×Lg×Pg×La×List Fk×KM×Ln×Unit):aN B5.out:=⟨0,v⟩
def Ri:bu:=(35,[B5])::BT
theorem JB:KK Ri:=kA xS (cv B5 0) (∀(a:Int)(b c d:BL)(Q:aN B5.out→Prop),let e:= !(↑d.length:Int)==32;let f:= !(↑c.length:Int)==32;let g:= !(↑b.length:Int)==32;let z:=Vk (a,b,c,(d,[],[],()),([],[],[],([((0,0,()),0,0,0,false,[[],[]],())],0,()),([],()),()),[[0,0,0,0,0],[0,0,0,0,0]],[],[],[],());(Tr.need (0≤a∧a<5∧b.length=32∧c.length=32∧d.length=32) (Tr.leaf z)).sat Q→Br (decide (a<0)) False (Br (decide (5≤a)) False (Br g False (Br f False (Br e False (b.length≤1000000∧c.length≤1000000∧d.length≤1000000∧True∧True∧Q z)))))) (by kernel_rfl) (by
 conv=>zeta
 unfold Br;intro id e f g Q ⟨⟨i,j,l,a,b⟩,c⟩;simp only[ah,aj,aQ,ax,ne_eq,aO,aJ];refine⟨λh=>by omega,λa=>⟨λh=>by omega,λb=>⟨λh=>by omega,λm=>⟨λh=>by omega,λn=>⟨λh=>by omega,λo=>⟨by omega,by omega,by omega,trivial,trivial,c⟩⟩⟩⟩⟩⟩)
def gg:Nat→List (List BL)×List Mb×List Tm×KV
 |0=>([],[],[],[])
 |k+1=>
  let p:=gg k
  let a:=dT (115,[dx ((2*k+1:Nat):Int)],()) p.2.2.1 p.2.2.2
  let b:=dT (115,[dx ((2*k+2:Nat):Int)],()) a.2.1 a.2.2
  let c:=de (112,[a.1],()) b.2.1 b.2.2
  let d:=de (118,[b.1],()) c.2.1 c.2.2
  (p.1++[[a.1,b.1]],p.2.1++[((k:Int),c.1,d.1,())],d.2)
def B6(i:Nat):Cl:=⟨i,((gg 5).1.getD i []).getD 0 [],((gg 5).1.getD i []).getD 1 [],(((gg 5).2.1.getD 0 y8).2.2.1,[],[],()),iX,[[0,0,0,0,0],[0,0,0,0,0]],[],[],[]⟩
def pl:Wd:=⟨(gg 5).1,(gg 5).2.1,[false,false,false,false,false],10,(gg 5).2.2.2,B6 0,B6 1,B6 2,B6 3,B6 4,[],[],[],[],[],(((gg 5).2.1.getD 0 y8).2.2.1,[],[],()),(gg 5).2.2.1,[],[]⟩
theorem vO(K:Nat)(u:K≤400000000):∀k:Nat,k≤5→bU (K+4*(5-k)) (gg k).2.2.1∧(gg k).1.length=k∧(gg k).2.1.length=k∧(∀r∈(gg k).1,r.length=2∧∀s∈r,s.length=32)∧∀p∈(gg k).2.1,p.2.1.length=32∧p.2.2.1.length=32
 |0,_=>⟨⟨λt v=>(by cases v),(by show 0+(K+4*(5-0))≤4294967296;omega)⟩,rfl,rfl,by simp[gg],by simp[gg]⟩
 |k+1,J=>by
  obtain⟨w,x,y,z,A⟩:=vO K u k (by omega);generalize B:gg k=p at*
  have e:gg (k+1)=(let a:=dT (115,[dx ((2*k+1:Nat):Int)],()) p.2.2.1 p.2.2.2
   let b:=dT (115,[dx ((2*k+2:Nat):Int)],()) a.2.1 a.2.2
   let c:=de (112,[a.1],()) b.2.1 b.2.2
   let d:=de (118,[b.1],()) c.2.1 c.2.2
   (p.1++[[a.1,b.1]],p.2.1++[((k:Int),c.1,d.1,())],d.2)):=by subst B;rfl
  rw[e];dsimp only;have f:∀l:List BL,(nJ (115,l,())).toNat=32:=λl=>rfl;have i:∀l:List BL,(nJ (112,l,())).toNat=32:=λl=>rfl;have j:∀l:List BL,(nJ (118,l,())).toNat=32:=λl=>rfl;have C:=ol (k:=K+4*(5-(k+1))+3) p.2.2.2 (w.mono (by omega)) (fA ((2*k+1:Nat):Int));have m:=(tU (115,[dx ((2*k+1:Nat):Int)],()) p.2.2.1 p.2.2.2).trans (f _);generalize dT (115,[dx ((2*k+1:Nat):Int)],()) p.2.2.1 p.2.2.2=a at*;have D:=ol (k:=K+4*(5-(k+1))+2) a.2.2 C (fA ((2*k+2:Nat):Int));have n:=(tU (115,[dx ((2*k+2:Nat):Int)],()) a.2.1 a.2.2).trans (f _);generalize dT (115,[dx ((2*k+2:Nat):Int)],()) a.2.1 a.2.2=b at*;have E:=pz (k:=K+4*(5-(k+1))+1) b.2.2 D (jT (k:=112) (by decide) (by decide) (show aB a.1 by unfold aB;omega))
  have F:(de (112,[a.1],()) b.2.1 b.2.2).1.length=32:=by
   have e:de (112,[a.1],()) b.2.1 b.2.2=dT (112,[a.1],()) b.2.1 b.2.2:=an m;rw[e];exact(tU _ _ _).trans (i _)
  generalize de (112,[a.1],()) b.2.1 b.2.2=c at*;have G:=pz (k:=K+4*(5-(k+1))) c.2.2 E (jT (k:=118) (by decide) (by decide) (show aB b.1 by unfold aB;omega))
  have H:(de (118,[b.1],()) c.2.1 c.2.2).1.length=32:=by
   have e:de (118,[b.1],()) c.2.1 c.2.2=dT (118,[b.1],()) c.2.1 c.2.2:=an n;rw[e];exact(tU _ _ _).trans (j _)
  generalize de (118,[b.1],()) c.2.1 c.2.2=d at*;refine⟨G,by simp[x],by simp[y],λr g=>?_,λq h=>?_⟩
  ·rcases aY.1 g with g|g
   ·exact z r g
   ·rw[cg.1 g];refine⟨rfl,λs o=>?_⟩;simp only[br,List.not_mem_nil,or_false]at o;rcases o with rfl|rfl
    ·exact m
    ·exact n
  ·rcases aY.1 h with h|h
   ·exact A q h
   ·rw[cg.1 h];exact⟨F,H⟩
theorem bU.le'{k:Nat}{ts:List Tm}(h:bU k ts):ts.length≤4294967296:=by have:=h.2;omega
theorem kY{k:Nat}{p:List (List BL)×List Mb×List Tm×KV}(e:gg k=p){a b c d:BL×List Tm×KV}(f:a=dT (115,[dx ((2*k+1:Nat):Int)],()) p.2.2.1 p.2.2.2)(g:b=dT (115,[dx ((2*k+2:Nat):Int)],()) a.2.1 a.2.2)(h:c=de (112,[a.1],()) b.2.1 b.2.2)(i:d=de (118,[b.1],()) c.2.1 c.2.2):gg (k+1)=(p.1++[[a.1,b.1]],p.2.1++[((k:Int),c.1,d.1,())],d.2):=by subst e f g h i;rfl
theorem Vl{i j:Nat}(hi:i<5)(a:j<2):(((gg 5).1.getD i (ak 2 [])).getD j []).length=32:=by
 obtain⟨_,b,_,c,_⟩:=vO 0 (by omega) 5 (aC _);have:=c _ (aT (z:=ak 2 []) (by rw[b];exact hi));exact this.2 _ (aT (by rw[this.1];exact a))
theorem Rj{i:Nat}(hi:i<5):((gg 5).2.1.getD i y8).2.1.length=32∧((gg 5).2.1.getD i y8).2.2.1.length=32:=by
 obtain⟨_,_,a,_,b⟩:=vO 0 (by omega) 5 (aC _);exact b _ (aT (by rw[a];exact hi))
theorem mH:di pl 10000:=by
 obtain⟨o,l,p,g,q⟩:=vO 100010000 (by omega) 5 (aC _);have w:=(Rj (i:=0) (by omega)).2
 have h:∀i j:Nat,i<5→j<2→(((gg 5).1.getD i []).getD j []).length=32:=by
  intro i j f t;have:=g _ (aT (z:=[]) (show i<(gg 5).1.length by rw[l];exact f));exact this.2 _ (aT (by rw[this.1];exact t))
 have u:∀i:Nat,i<5→kR (B6 i)∧(B6 i).c=i∧(B6 i).fk.length+400*10000+2000≤10000000:=by
  intro i f;have y:=h i 0 f (by omega);refine⟨⟨by show(0:Int)≤(i:Int);omega,by show(i:Int)<5;omega,by show aB (((gg 5).1.getD i []).getD 0 []);unfold aB;omega,⟨rfl,?_⟩,vr,?_,?_,by show 0≤100000;omega,by show aB ((gg 5).2.1.getD 0 y8).2.2.1;unfold aB;omega⟩,rfl,by show 0+400*10000+2000≤10000000;omega⟩
  ·intro r b;have b:r∈([[0,0,0,0,0],[0,0,0,0,0]]:List (List Int)):=b;simp only[br,List.not_mem_nil,or_false,or_self]at b;subst b;refine⟨rfl,λn m=>?_⟩;simp only[br,List.not_mem_nil,or_false,or_self]at m;subst m;decide
  ·intro a;have e:dt (B6 i).bk a=[]:=rfl;rw[e];exact⟨aq _,by simp⟩
  ·exact⟨⟨aq _,by simp[B6]⟩,rfl,by simp[B6],by simp[B6]⟩
 refine⟨λi f=>?_,o.mono (by omega),⟨l,λr b=>⟨(g r b).1,λs h=>by have:=(g r b).2 s h;omega⟩⟩,⟨p,λx v=>by have:=q x v;omega⟩,⟨⟨⟨aq _,by simp[pl]⟩,rfl,by simp[pl],by simp[pl]⟩,aq _,by show aB ((gg 5).2.1.getD 0 y8).2.2.1;unfold aB;omega⟩,by simp[pl],rfl,⟨aq _,rfl,by simp[pl]⟩,⟨by show(0:Int)≤10;omega,by show(10:Int)+2*10000≤1000000;omega⟩⟩;have:pl.cl i=B6 i:=by rcases io f with rfl|rfl|rfl|rfl|rfl<;>rfl
 rw[this];exact u i f
def vP:Ct:=⟨3,⟨[sI 0,(1,false,[.k (.bool false)]),(2,false,[.nils])],[]⟩,[⟨[(0,false,[.nilp])],[]⟩,⟨[sP 0],jK⟩],λ(n,_)=> .ite (decide (1≤n∧n≤31∧n % 2=1)) (.all ((Int×Int)×Wd) (fi pl n) λy=> .leaf ⟨1,(y.2.sec,y.2.al,y.2.go,y.2.d,y.2.m,(cA y.2.c0),(bC y.2.c0),y.2.c0.km,(cA y.2.c1),(bC y.2.c1),y.2.c1.km,(cA y.2.c2),(bC y.2.c2),y.2.c2.km,(cA y.2.c3),(bC y.2.c3),y.2.c3.km,(cA y.2.c4),(bC y.2.c4),y.2.c4.km,y.2.k0,y.2.k1,y.2.k2,y.2.k3,y.2.k4,y.2.lg,y.2.ts,y.2.c0.bk,y.2.c1.bk,y.2.c2.bk,y.2.c3.bk,y.2.c4.bk,y.2.st,y.2.ln,())⟩) (.leaf ⟨0,()⟩)⟩
def a2g:cc:=⟨[sI 0,(7,false,[.ptr 0 0])],[some (.cells [.ifc 96 1 0, .fn 33 [] [(3,0)], .d (.ar 5 (.ar 2 tB)), .d (.ar 5 il), .nilp, .nilp, .nilp, .nilp, .nilp, .nilm, .nilm, .nilm, .nilm, .nilm, .nilp, .d (.ar 5 .bl), .nils, .nils]),some (.cells [.own 4, .mp 2, .d .i64]),some (.mp .st .i64),some (.cells [.ptr 1 0]),some (.sl CJ)]⟩
def Vm(x:vP.inp.den)(y:a2g.den):Prop:=match x,y with
 |(n,_),(b,a,c,go,d,m,e,_)=>b=n∧(a,c,e,m)=gg 5∧go=[false,false,false,false,false]∧d=10∧1≤n∧n≤31
def a6i(x:vP.inp.den):dG:=⟨[],[(15,bM a2g (Vm x) λ_=>0)],[],[],6⟩
abbrev Vn(v:Unit):aN vP.out:=⟨0,v⟩
abbrev Vo(v:TA Unit):aN vP.out:=⟨1,v⟩
theorem JC:bO Tryz.prog 15 vP:=kC JB a6i (∀(d:Int)(Q:aN vP.out→Prop),let P:= !decide (1≤d∧d≤31∧d % (2:Int)=1);(Ct.spec vP (d,())).sat Q→True∧Br P (Q (Vn ())) (True∧((0≤4294967296∧(0:Int)≤0∧(0:Int)≤4294967296)∧∀(b:BL×List Tm×KV),let A:=jg (af 8 115,[dx 2],()) b.2.1 b.2.2;b=(jO (af 8 115,[dx 1],()) 1,[(af 8 115,[dx 1],())],RW (tN (af 8 115,[dx 1],())) 1 [])→(b.2.1.length≤4294967296∧(0:Int)≤1∧(1:Int)≤4294967296)∧∀(i:BL×List Tm×KV),i=(jO (af 8 115,[dx 2],()) A.1,A.2)→(aB b.1∧i.2.1.length≤4294967296)∧∀(r:BL×List Tm×KV),r=de (af 8 112,[b.1],()) i.2.1 i.2.2→(aB i.1∧r.2.1.length≤4294967296)∧∀(j:BL×List Tm×KV),let B:=jg (af 8 115,[dx 3],()) j.2.1 j.2.2;j=de (af 8 118,[i.1],()) r.2.1 r.2.2→(j.2.1.length≤4294967296∧(0:Int)≤2∧(2:Int)≤4294967296)∧∀(e:BL×List Tm×KV),let C:=jg (af 8 115,[dx 4],()) e.2.1 e.2.2;e=(jO (af 8 115,[dx 3],()) B.1,B.2)→(e.2.1.length≤4294967296∧(0:Int)≤3∧(3:Int)≤4294967296)∧∀(k:BL×List Tm×KV),k=(jO (af 8 115,[dx 4],()) C.1,C.2)→(aB e.1∧k.2.1.length≤4294967296)∧∀(s:BL×List Tm×KV),s=de (af 8 112,[e.1],()) k.2.1 k.2.2→(aB k.1∧s.2.1.length≤4294967296)∧∀(l:BL×List Tm×KV),let D:=jg (af 8 115,[dx 5],()) l.2.1 l.2.2;l=de (af 8 118,[k.1],()) s.2.1 s.2.2→(l.2.1.length≤4294967296∧(0:Int)≤4∧(4:Int)≤4294967296)∧∀(f:BL×List Tm×KV),let E:=jg (af 8 115,[dx 6],()) f.2.1 f.2.2;f=(jO (af 8 115,[dx 5],()) D.1,D.2)→(f.2.1.length≤4294967296∧(0:Int)≤5∧(5:Int)≤4294967296)∧∀(m:BL×List Tm×KV),m=(jO (af 8 115,[dx 6],()) E.1,E.2)→(aB f.1∧m.2.1.length≤4294967296)∧∀(t:BL×List Tm×KV),t=de (af 8 112,[f.1],()) m.2.1 m.2.2→(aB m.1∧t.2.1.length≤4294967296)∧∀(n:BL×List Tm×KV),let F:=jg (af 8 115,[dx 7],()) n.2.1 n.2.2;n=de (af 8 118,[m.1],()) t.2.1 t.2.2→(n.2.1.length≤4294967296∧(0:Int)≤6∧(6:Int)≤4294967296)∧∀(g:BL×List Tm×KV),let G:=jg (af 8 115,[dx 8],()) g.2.1 g.2.2;g=(jO (af 8 115,[dx 7],()) F.1,F.2)→(g.2.1.length≤4294967296∧(0:Int)≤7∧(7:Int)≤4294967296)∧∀(o:BL×List Tm×KV),o=(jO (af 8 115,[dx 8],()) G.1,G.2)→(aB g.1∧o.2.1.length≤4294967296)∧∀(u:BL×List Tm×KV),u=de (af 8 112,[g.1],()) o.2.1 o.2.2→(aB o.1∧u.2.1.length≤4294967296)∧∀(p:BL×List Tm×KV),let H:=jg (af 8 115,[dx 9],()) p.2.1 p.2.2;p=de (af 8 118,[o.1],()) u.2.1 u.2.2→(p.2.1.length≤4294967296∧(0:Int)≤8∧(8:Int)≤4294967296)∧∀(h:BL×List Tm×KV),let R:=jg (af 8 115,[dx 10],()) h.2.1 h.2.2;h=(jO (af 8 115,[dx 9],()) H.1,H.2)→(h.2.1.length≤4294967296∧(0:Int)≤9∧(9:Int)≤4294967296)∧∀(q:BL×List Tm×KV),q=(jO (af 8 115,[dx 10],()) R.1,R.2)→(aB h.1∧q.2.1.length≤4294967296)∧∀(v:BL×List Tm×KV),v=de (af 8 112,[h.1],()) q.2.1 q.2.2→(aB q.1∧v.2.1.length≤4294967296)∧∀(y:BL×List Tm×KV),y=de (af 8 118,[q.1],()) v.2.1 v.2.2→Is (Vm (d,()) (d,[[b.1,i.1],[e.1,k.1],[f.1,m.1],[g.1,o.1],[h.1,q.1]],[(0,r.1,j.1,()),(1,s.1,l.1,()),(2,t.1,n.1,()),(3,u.1,p.1,()),(4,v.1,y.1,())],[false,false,false,false,false],10,y.2.2,y.2.1,())))∧∀(w:Int)(a:List (List BL))(c:List Mb)(z:List Bool)(S:Int)(U:KV)(W:List Tm),let K:=a.getD 4 (ak 2 []);let L:=a.getD 3 (ak 2 []);let M:=a.getD 2 (ak 2 []);let N:=a.getD 1 (ak 2 []);let O:=a.getD 0 (ak 2 []);let x:=c.getD ((12-10)/3) (0,[],[],());let J:Prop:=ac x.2.2.1=32;let X:=cw (a,c,z,S,U,(0,O.getD 0 [],O.getD 1 [],(x.2.2.1,[],[],()),()),(([],[],[],([((0,0,()),0,0,0,false,[[],[]],())],0,()),([],()),()),[[0,0,0,0,0],[0,0,0,0,0]],[],()),[],(1,N.getD 0 [],N.getD 1 [],(x.2.2.1,[],[],()),()),(([],[],[],([((0,0,()),0,0,0,false,[[],[]],())],0,()),([],()),()),[[0,0,0,0,0],[0,0,0,0,0]],[],()),[],(2,M.getD 0 [],M.getD 1 [],(x.2.2.1,[],[],()),()),(([],[],[],([((0,0,()),0,0,0,false,[[],[]],())],0,()),([],()),()),[[0,0,0,0,0],[0,0,0,0,0]],[],()),[],(3,L.getD 0 [],L.getD 1 [],(x.2.2.1,[],[],()),()),(([],[],[],([((0,0,()),0,0,0,false,[[],[]],())],0,()),([],()),()),[[0,0,0,0,0],[0,0,0,0,0]],[],()),[],(4,K.getD 0 [],K.getD 1 [],(x.2.2.1,[],[],()),()),(([],[],[],([((0,0,()),0,0,0,false,[[],[]],())],0,()),([],()),()),[[0,0,0,0,0],[0,0,0,0,0]],[],()),[],[],[],[],[],[],(x.2.2.1,[],[],()),W,[],[],[],[],[],[],[],());Vm (d,()) (w,a,c,z,S,U,W,())→((0:Int)≤0∧(0:Int)<5∧(O.getD 0 []).length=32∧(O.getD 1 []).length=32∧J)∧((0:Int)≤1∧(1:Int)<5∧(N.getD 0 []).length=32∧(N.getD 1 []).length=32∧J)∧((0:Int)≤2∧(2:Int)<5∧(M.getD 0 []).length=32∧(M.getD 1 []).length=32∧J)∧((0:Int)≤3∧(3:Int)<5∧(L.getD 0 []).length=32∧(L.getD 1 []).length=32∧J)∧((0:Int)≤4∧(4:Int)<5∧(K.getD 0 []).length=32∧(K.getD 1 []).length=32∧J)∧ac x.2.2.1≤1000000∧(1≤w∧w≤31∧∃d,di X (d+2))∧∀(b:(Int×Int)×Wd),fi X w b→Q (Vo (dO b.2)))) (by kernel_rfl) (by
 conv=>zeta
 unfold Br dO;intro n Q hQ;have d0:decide (1≤n∧n≤31∧n % 2=1)=false→Q ⟨0,()⟩:=hQ.2;have u:decide (1≤n∧n≤31∧n % 2=1)=true→∀y,fi pl n y→Q ⟨1,(y.2.sec,y.2.al,y.2.go,y.2.d,y.2.m,(cA y.2.c0),(bC y.2.c0),y.2.c0.km,(cA y.2.c1),(bC y.2.c1),y.2.c1.km,(cA y.2.c2),(bC y.2.c2),y.2.c2.km,(cA y.2.c3),(bC y.2.c3),y.2.c3.km,(cA y.2.c4),(bC y.2.c4),y.2.c4.km,y.2.k0,y.2.k1,y.2.k2,y.2.k3,y.2.k4,y.2.lg,y.2.ts,y.2.c0.bk,y.2.c1.bk,y.2.c2.bk,y.2.c3.bk,y.2.c4.bk,y.2.st,y.2.ln,())⟩:=λc y hy=>hQ.1 c y hy;clear hQ;refine⟨trivial,λc=>d0 ?_,λc=>?_⟩
 ·cases h:decide (1≤n∧n≤31∧n % 2=1)with
  |false=>rfl
  |true=>rw[h]at c;cases c
 have c:decide (1≤n∧n≤31∧n % 2=1)=true:=by
  cases h:decide (1≤n∧n≤31∧n % 2=1)with
  |true=>rfl
  |false=>rw[h]at c;cases c
 have u:=u c;have cn:=ai c;refine⟨trivial,?_,?_⟩
 ·have z0:bU 20 ([]:List Tm):=⟨λt ht=>(by cases ht),(by show 0+20≤4294967296;omega)⟩;have e0:gg 0=([],[],[],[]):=rfl;refine⟨⟨by omega,by omega,by omega⟩,λv C=>?_⟩;have C:v=dT (115,[dx ((2*0+1:Nat):Int)],()) [] []:=C;have z1:bU 19 v.2.1:=by rw[C];exact ol (k:=19) [] z0 (fA _)
  have l0:aB v.1:=by rw[C];unfold aB;rw[tU];decide
  refine⟨⟨z1.le',by omega,by omega⟩,λb1 D=>?_⟩;have D:b1=dT (115,[dx ((2*0+2:Nat):Int)],()) v.2.1 v.2.2:=D;have z2:bU 18 b1.2.1:=by rw[D];exact ol (k:=18) v.2.2 z1 (fA _)
  have l1:aB b1.1:=by rw[D];unfold aB;rw[tU];decide
  refine⟨⟨l0,z2.le'⟩,λb2 q2=>?_⟩;have z3:bU 17 b2.2.1:=by rw[q2];exact pz (k:=17) b1.2.2 z2 (jT (k:=112) (by decide) (by decide) l0)
  refine⟨⟨l1,z3.le'⟩,λb3 q3=>?_⟩;have z4:bU 16 b3.2.1:=by rw[q3];exact pz (k:=16) b2.2.2 z3 (jT (k:=118) (by decide) (by decide) l1)
  have e1:=kY e0 C D q2 q3;refine⟨⟨z4.le',by omega,by omega⟩,λw E=>?_⟩;have E:w=dT (115,[dx ((2*1+1:Nat):Int)],()) b3.2.1 b3.2.2:=E;have z5:bU 15 w.2.1:=by rw[E];exact ol (k:=15) b3.2.2 z4 (fA _)
  have l4:aB w.1:=by rw[E];unfold aB;rw[tU];decide
  refine⟨⟨z5.le',by omega,by omega⟩,λb5 F=>?_⟩;have F:b5=dT (115,[dx ((2*1+2:Nat):Int)],()) w.2.1 w.2.2:=F;have z6:bU 14 b5.2.1:=by rw[F];exact ol (k:=14) w.2.2 z5 (fA _)
  have l5:aB b5.1:=by rw[F];unfold aB;rw[tU];decide
  refine⟨⟨l4,z6.le'⟩,λb6 q6=>?_⟩;have z7:bU 13 b6.2.1:=by rw[q6];exact pz (k:=13) b5.2.2 z6 (jT (k:=112) (by decide) (by decide) l4)
  refine⟨⟨l5,z7.le'⟩,λb7 q7=>?_⟩;have z8:bU 12 b7.2.1:=by rw[q7];exact pz (k:=12) b6.2.2 z7 (jT (k:=118) (by decide) (by decide) l5)
  have e2:=kY e1 E F q6 q7;refine⟨⟨z8.le',by omega,by omega⟩,λx G=>?_⟩;have G:x=dT (115,[dx ((2*2+1:Nat):Int)],()) b7.2.1 b7.2.2:=G;have z9:bU 11 x.2.1:=by rw[G];exact ol (k:=11) b7.2.2 z8 (fA _)
  have l8:aB x.1:=by rw[G];unfold aB;rw[tU];decide
  refine⟨⟨z9.le',by omega,by omega⟩,λb9 H=>?_⟩;have H:b9=dT (115,[dx ((2*2+2:Nat):Int)],()) x.2.1 x.2.2:=H;have J:bU 10 b9.2.1:=by rw[H];exact ol (k:=10) x.2.2 z9 (fA _)
  have l9:aB b9.1:=by rw[H];unfold aB;rw[tU];decide
  refine⟨⟨l8,J.le'⟩,λK L=>?_⟩;have M:bU 9 K.2.1:=by rw[L];exact pz (k:=9) b9.2.2 J (jT (k:=112) (by decide) (by decide) l8)
  refine⟨⟨l9,M.le'⟩,λo N=>?_⟩;have O:bU 8 o.2.1:=by rw[N];exact pz (k:=8) K.2.2 M (jT (k:=118) (by decide) (by decide) l9)
  have e3:=kY e2 G H L N;refine⟨⟨O.le',by omega,by omega⟩,λa e=>?_⟩;have e:a=dT (115,[dx ((2*3+1:Nat):Int)],()) o.2.1 o.2.2:=e;have P:bU 7 a.2.1:=by rw[e];exact ol (k:=7) o.2.2 O (fA _)
  have R:aB a.1:=by rw[e];unfold aB;rw[tU];decide
  refine⟨⟨P.le',by omega,by omega⟩,λp f=>?_⟩;have f:p=dT (115,[dx ((2*3+2:Nat):Int)],()) a.2.1 a.2.2:=f;have S:bU 6 p.2.1:=by rw[f];exact ol (k:=6) a.2.2 P (fA _)
  have U:aB p.1:=by rw[f];unfold aB;rw[tU];decide
  refine⟨⟨R,S.le'⟩,λW X=>?_⟩;have Y:bU 5 W.2.1:=by rw[X];exact pz (k:=5) p.2.2 S (jT (k:=112) (by decide) (by decide) R)
  refine⟨⟨U,Y.le'⟩,λq a0=>?_⟩;have a5:bU 4 q.2.1:=by rw[a0];exact pz (k:=4) W.2.2 Y (jT (k:=118) (by decide) (by decide) U)
  have e4:=kY e3 e f X a0;refine⟨⟨a5.le',by omega,by omega⟩,λb g=>?_⟩;have g:b=dT (115,[dx ((2*4+1:Nat):Int)],()) q.2.1 q.2.2:=g;have a6:bU 3 b.2.1:=by rw[g];exact ol (k:=3) q.2.2 a5 (fA _)
  have a7:aB b.1:=by rw[g];unfold aB;rw[tU];decide
  refine⟨⟨a6.le',by omega,by omega⟩,λr l=>?_⟩;have l:r=dT (115,[dx ((2*4+2:Nat):Int)],()) b.2.1 b.2.2:=l;have a8:bU 2 r.2.1:=by rw[l];exact ol (k:=2) b.2.2 a6 (fA _)
  have a9:aB r.1:=by rw[l];unfold aB;rw[tU];decide
  refine⟨⟨a7,a8.le'⟩,λc5 c6=>?_⟩;have c7:bU 1 c5.2.1:=by rw[c6];exact pz (k:=1) r.2.2 a8 (jT (k:=112) (by decide) (by decide) a7)
  refine⟨⟨a9,c7.le'⟩,λd1 c8=>?_⟩;have d2:bU 0 d1.2.1:=by rw[c8];exact pz (k:=0) c5.2.2 c7 (jT (k:=118) (by decide) (by decide) a9)
  have e5:=kY e4 g l c6 c8;exact⟨⟨rfl,e5.symm,rfl,rfl,cn.1,cn.2.1⟩⟩
 ·rintro n1 c9 al go d m ts ⟨r1,A,r2,r3,h2,h3⟩;have r1:n1=n:=r1;have A:(c9,al,ts,m)=gg 5:=A;have r2:go=[false,false,false,false,false]:=r2;have r3:d=10:=r3;have a1:c9=(gg 5).1:=aI Prod.fst A;have a2:al=(gg 5).2.1:=aI (λz=>z.2.1) A;have a3:ts=(gg 5).2.2.1:=aI (λz=>z.2.2.1) A;have a4:m=(gg 5).2.2.2:=aI (λz=>z.2.2.2) A;subst r1 r2 r3 a1 a2 a3 a4;have s:=λ{i j:Nat}(hi:i<5)(hj:j<2)=>Vl hi hj;have B:=(Rj (i:=0) (by omega)).2;refine⟨⟨by omega,by omega,s (by omega) (by omega),s (by omega) (by omega),B⟩,⟨by omega,by omega,s (by omega) (by omega),s (by omega) (by omega),B⟩,⟨by omega,by omega,s (by omega) (by omega),s (by omega) (by omega),B⟩,⟨by omega,by omega,s (by omega) (by omega),s (by omega) (by omega),B⟩,⟨by omega,by omega,s (by omega) (by omega),s (by omega) (by omega),B⟩,bA (Nat.le_of_eq B) (by omega),⟨h2,h3,9998,mH⟩,λy hy=>u y hy⟩)
def a2h:bu:=(15,[vP])::Ri
theorem a69:KK a2h:=⟨aP.add JB.1 (by kernel_rfl) (bo (JC)),bg.add JB.2 (bo (λ_=>Live.ite (λ_=>Live.all ⟨_,(kV (k:=9998) mH _).choose_spec,Live.leaf⟩) (λ_=>Live.leaf)))⟩
def Ao(b:BL):Int:=if dM b (lQ b true (0,0)).2.1 true (lQ b true (0,0)).2.2≠0 then 0 else(lQ b true (0,0)).1.1
def Ap:Ct:=⟨1,⟨[sB 0],[]⟩,[⟨[sI 0],[]⟩],λ(b,_)=>du (b.length≤10000000) (Ao b) λy=>(y,())⟩
abbrev JD(v:Int×Unit):aN Ap.out:=⟨0,v⟩
theorem JE:bO Tryz.prog 11 Ap:=kC xS (cv Ap 0) (∀(a:BL)(Q:aN Ap.out→Prop),(Ct.spec Ap (a,())).sat Q→a.length≤1099511627776∧bP a 0∧∀(b:Et×Int×Int),let z:= !dM a b.2.1 true b.2.2==0;b=lQ a true (0,0)→bP a b.2.1∧Br z (Q (JD (0,()))) (Q (JD (b.1.1,())))) (by kernel_rfl) (by
 conv=>zeta
 unfold Br;rintro b Q ⟨h,g⟩;have a:∀y,Ao b=y→Q ⟨0,(y,())⟩:=λy e=>g y e.symm;clear g;have i:bP b 0:=⟨by omega,by omega,by omega⟩;unfold Ao at a;refine⟨by omega,i,λx f=>⟨by rw[f];exact(QM i).1,λc=>a _ ?_,λc=>a _ ?_⟩⟩
 ·rw[←f,an (jC c)]
 ·rw[←f,ag (jX c)])
def Rk:bu:=(11,[Ap])::BT
theorem JF:KK Rk:=⟨aP.add xS.1 (by kernel_rfl) (bo (JE)),bg.add xS.2 (bo (λ_=>bm))⟩
def kZ(b:BL):Lt×Bool:=((mN b true (0,0)).1,dM b (mN b true (0,0)).2.1 true (mN b true (0,0)).2.2==0)
def Aq:Ct:=⟨1,⟨[sB 0],[]⟩,[⟨[(0,true,[.d SR]),sL 1],[]⟩],λ(b,_)=>du (b.length≤10000000) (kZ b) λy=>(y.1,y.2,())⟩
abbrev Vp(v:Lt×Bool×Unit):aN Aq.out:=⟨0,v⟩
theorem JG:bO Tryz.prog 12 Aq:=kC JF (cv Aq 0) (∀(a:BL)(Q:aN Aq.out→Prop),(Ct.spec Aq (a,())).sat Q→a.length≤1099511627776∧bP a 0∧∀(b:Lt×Int×Int),b=mN a true (0,0)→bP a b.2.1∧Q (Vp (b.1,dM a b.2.1 true b.2.2==0,()))) (by kernel_rfl) (by
 rintro b Q ⟨h,a⟩;have g:∀y,kZ b=y→Q ⟨0,(y.1,y.2,())⟩:=λy e=>a y e.symm;clear a;have c:bP b 0:=⟨by omega,by omega,by omega⟩;refine⟨by omega,c,λx f=>⟨by rw[f];exact(Uy c).1,g (_,_) ?_⟩⟩;unfold kZ;rw[←f])
def Rm:bu:=(12,[Aq])::Rk
theorem JH:KK Rm:=⟨aP.add JF.1 (by kernel_rfl) (bo (JG)),bg.add JF.2 (bo (λ_=>bm))⟩
abbrev tMd:Ty:= .pr .i64 (.pr .bl .un)
abbrev tMs:Ty:= .sl (.sl .i64)
abbrev MH(i:Nat):Nat×Bool×List IP:=(i,true,[.ptr 0 0, .d (.sl tMd), .d tMs])
def xV(ms:List (List Int))(ep id:Int):Bool:=decide (1≤ep∧ep≤ms.length)&&(ms.getD (ep-1).toNat []).contains id
def Vq(s:lw):Prop:=s.2.2.2.2.2.2.1.length≤3000∧s.2.2.2.2.2.2.2.2.2.2.2.1.length≤3000∧s.2.2.2.2.2.2.2.2.2.2.2.2.1.length≤3000∧s.2.2.2.2.2.2.2.2.2.2.2.2.2.1.length≤3000
def xW:Ct:=⟨1,⟨[(0,false,[.d (.sl I9)])],[]⟩,[⟨[sL 0],[]⟩],λ(l,_)=>eO True (λy:Bool=>y=true→l.length≤40∧∀s∈l,Vq s) λy=>(y,())⟩
def a2i:cc:=⟨[(0,false,[.d (.sl I9)]),sI 3,sI 4],[]⟩
def MI(x:xW.inp.den)(y:a2i.den):Prop:=match x,y with
 |(a,_),(l,n,i,_)=>l=a∧@aZ Int _ 0 n∧@aZ Int _ n 16000∧∃k:Nat,i=k∧k≤a.length∧k≤41∧(@aZ Int _ n 3000→∀s∈a.take k,Vq s)
def a6j(x:xW.inp.den):dG:=⟨[(3,bM a2i (MI x) λ(_,_,i,_)=>(@bG Int Int Int _ 50 i).toNat)],[],[],[],0⟩
abbrev JI(v:Bool×Unit):aN xW.out:=⟨0,v⟩
theorem JJ:bO Tryz.prog 7 xW:=kC JH a6j (∀(d:List (Int×Int×Int×Int×Int×Int×BL×Lt))(Q:aN xW.out→Prop),(Ct.spec xW (d,())).sat Q→Is (MI (d,()) (d,0,0,()))∧∀(b:List (Int×Int×Int×Int×Int×Int×BL×Lt))(c a:Int),let e:Prop:=0≤a∧a<(↑b.length:Int);let f:Prop:=Br (decide ((↑b.length:Int)≤40)) (Q (JI (decide (c≤3000),()))) (Q (JI (false,())));let z:=b.getD a.toNat (0,0,0,0,0,0,[],0,0,0,0,[],[],[],());let j:=ac z.2.2.2.2.2.2.2.2.2.2.2.2.1;let g:=ac z.2.2.2.2.2.2.1;let h:=ac z.2.2.2.2.2.2.2.2.2.2.2.1;let i:=min (↑g:Int) 3001+min (↑h:Int) 3001+min (↑j:Int) 3001+min (↑(ac z.2.2.2.2.2.2.2.2.2.2.2.2.2.1):Int) 3001;MI (d,()) (b,c,a,())→Br (decide (a<(↑b.length:Int))) (Br (decide (a≤40)) (Br (decide (c≤3000)) (e∧e∧ae (min (↑g:Int) 3001+min (↑h:Int) 3001)∧e∧ae (min (↑g:Int) 3001+min (↑h:Int) 3001+min (↑j:Int) 3001)∧e∧ae i∧ae (c+i)∧ae (a+1)∧Is (MI (d,()) (b,c+i,a+1,())∧(50-(a+1)).toNat<(50-a).toNat)) f) f) f) (by kernel_rfl) (by
 conv=>zeta
 unfold Br;rintro l Q ⟨_,A⟩;have B:∀y:Bool,(y=true→l.length≤40∧∀s∈l,Vq s)→Q ⟨0,(y,())⟩:=A;clear A;refine⟨⟨⟨rfl,cr _,by decide,0,rfl,aq _,by omega,λ_ s e=>(by cases e)⟩⟩,?_⟩;rintro F n i ⟨q,C,D,k,r,M,N,E⟩;have q:l=F:=q.symm;have r:i=(k:Int):=r;subst q r;have C:@aZ Int _ 0 n:=C;have D:@aZ Int _ n 16000:=D
 have t:l.length≤40→n≤3000→k=l.length→∀s∈l,Vq s:=by
  intro a b c;have:=E b;rw[c,bp]at this;exact this
 have fin:(¬((k:Int)<l.length)∨¬((k:Int)≤40)∨¬(n≤3000))→(decide ((l.length:Int)≤40)=true→Q ⟨0,(decide (n≤3000),())⟩)∧(decide ((l.length:Int)≤40)=false→Q ⟨0,(false,())⟩):=by
  intro h;refine⟨λc=>B _ λd=>?_,λc=>B _ λd=>by cases d⟩;have c:=ai c;have d:=ai d;have f:k=l.length:=by omega
  exact⟨by omega,t (by omega) d f⟩
 refine⟨λg=>⟨λj=>⟨λm=>?_,λm=>fin (.inr (.inr (am m)))⟩,λj=>fin (.inr (.inl (am j)))⟩,λg=>fin (.inl (am g))⟩;have g:=ai g;have j:=ai j;have m:=ai m;have f:k<l.length:=by omega
 rw[show((k:Int)).toNat=k by omega];have G:l.take (k+1)=l.take k++[l.getD k (0,0,0,0,0,0,[],0,0,0,0,[],[],[],())]:=cK f;generalize l.getD k (0,0,0,0,0,0,[],0,0,0,0,[],[],[],())=o at*;have p:∀x:Nat,0≤min (x:Int) 3001∧min (x:Int) 3001≤3001∧(min (x:Int) 3001≤3000→x≤3000):=λx=>by omega
 have H:=p o.2.2.2.2.2.2.1.length;have J:=p o.2.2.2.2.2.2.2.2.2.2.2.1.length;have K:=p o.2.2.2.2.2.2.2.2.2.2.2.2.1.length;have L:=p o.2.2.2.2.2.2.2.2.2.2.2.2.2.1.length;generalize min (o.2.2.2.2.2.2.1.length:Int) 3001=u at*;generalize min (o.2.2.2.2.2.2.2.2.2.2.2.1.length:Int) 3001=v at*;generalize min (o.2.2.2.2.2.2.2.2.2.2.2.2.1.length:Int) 3001=w at*;generalize min (o.2.2.2.2.2.2.2.2.2.2.2.2.2.1.length:Int) 3001=z at*;refine⟨by omega,by omega,by unfold ae;omega,by omega,by unfold ae;omega,by omega,by unfold ae;omega,by unfold ae;omega,by unfold ae;omega,⟨⟨rfl,?_,?_,k+1,rfl,f,by omega,λd s e=>?_⟩,by omega⟩⟩
 ·show @aZ Int _ 0 (n+(u+v+w+z));omega
 ·show @aZ Int _ (n+(u+v+w+z)) 16000;omega
 ·have d:n+(u+v+w+z)≤3000:=d;rw[G]at e;rcases aY.1 e with e|e
  ·exact E (by show n≤3000;omega) s e
  ·rw[cg.1 e];exact⟨H.2.2 (by omega),J.2.2 (by omega),K.2.2 (by omega),L.2.2 (by omega)⟩)
def B7:bu:=(7,[xW])::Rm
theorem B8:KK B7:=⟨aP.add JH.1 (by kernel_rfl) (bo (JJ)),bg.add JH.2 (bo (λ_=>aR λ_=>⟨false,λh=>by cases h⟩))⟩
def Ar:Ct:=⟨1,⟨[sI 0],[]⟩,[⟨[sI 0,sI 1],[]⟩],λ(n,_)=>one True ((fd n).1,(fd n).2,())⟩
abbrev gB(v:Fk):aN Ar.out:=⟨0,v⟩
theorem Vr:hJ Tryz.prog B7 18 Ar λ_=>⟨[],[],[],[],9⟩:=by
 have e:(hJ Tryz.prog B7 18 Ar λ_=>⟨[],[],[],[],9⟩)=
  (∀(x:Int)(Q:aN Ar.out→Prop),(Tr.need True (Tr.leaf (gB ((fd x).fst,(fd x).snd,())))).sat Q→(decide (x<0)=true→Q (gB (0,1,())))∧(decide (x<0)=false→(decide (4095<x)=true→Q (gB (0,2,())))∧(decide (4095<x)=false→(decide (64≤x)=true→(decide (128≤x)=true→(decide (256≤x)=true→(decide (512≤x)=true→(decide (1024≤x)=true→(decide (2048≤x)=true→(decide (4096≤x)=true→(decide (8192≤x)=true→(decide (16384≤x)=true→False)∧(decide (16384≤x)=false→Q (gB (16384,0,()))))∧(decide (8192≤x)=false→Q (gB (8192,0,()))))∧(decide (4096≤x)=false→Q (gB (4096,0,()))))∧(decide (2048≤x)=false→Q (gB (2048,0,()))))∧(decide (1024≤x)=false→Q (gB (1024,0,()))))∧(decide (512≤x)=false→Q (gB (512,0,()))))∧(decide (256≤x)=false→Q (gB (256,0,()))))∧(decide (128≤x)=false→Q (gB (128,0,()))))∧(decide (64≤x)=false→Q (gB (64,0,())))))):=by kernel_rfl
 refine Wr e ?_;clear e;rintro n Q ⟨_,a⟩;have b:∀p:Int×Int,fd n=p→Q ⟨0,(p.1,p.2,())⟩:=λp e=>by rw[←e];exact a
 clear a;unfold fd at b
 (repeat' (first|apply bQ|(intro h;have h:=ai h)|(intro h;have h:=am h)))<;>first
  |(exfalso;omega)
  |exact b (_,_) (by repeat (first|rfl|rw[ag (by omega)]|rw[an (by omega)]))
theorem JK:bO Tryz.prog 18 Ar:=dq B8.1 B8.2 sE (by kernel_rfl) Vr
def a2j:bu:=(18,[Ar])::B7
theorem a7a:KK a2j:=⟨aP.add B8.1 (by kernel_rfl) (bo (JK)),bg.add B8.2 (bo (λ_=>bH))⟩
theorem a2k(l:List BL):((115,l,()):Tm).1≠103:=by show(115:BitVec 8)≠103;decide
theorem a6k(l:List BL):((112,l,()):Tm).1≠103:=by show(112:BitVec 8)≠103;decide
theorem a6l(l:List BL):((118,l,()):Tm).1≠103:=by show(118:BitVec 8)≠103;decide
theorem JL:∀k:Nat,k≤5→Su (100-4*k) (gg k).2.2.1 (gg k).2.2.2∧(gg k).1.length=k∧(gg k).2.1.length=k∧(∀t∈(gg k).2.2.1,t.1≠103)∧
 ∀a:Nat,a<k→∃j f o sg,(gg k).1[a]?=some [j,f]∧(gg k).2.1[a]?=some ((a:Int),o,sg,())∧Nm (gg k).2.2.1 j (115,[dx ((2*a+0+1:Nat):Int)],())∧Nm (gg k).2.2.1 f (115,[dx ((2*a+1+1:Nat):Int)],())∧Nm (gg k).2.2.1 o (112,[j],())∧Nm (gg k).2.2.1 sg (118,[f],())
 |0,_=>⟨⟨Lv,⟨λt l=>(by cases l),(by show 0+(100-4*0)≤4294967296;omega)⟩⟩,rfl,rfl,λt l=>(by cases l),λa K=>by omega⟩
 |k+1,L=>by
  obtain⟨v,s,u,w,x⟩:=JL k (by omega);generalize y:gg k=p at*
  have e:gg (k+1)=(let a:=dT (115,[dx ((2*k+1:Nat):Int)],()) p.2.2.1 p.2.2.2
   let b:=dT (115,[dx ((2*k+2:Nat):Int)],()) a.2.1 a.2.2
   let c:=de (112,[a.1],()) b.2.1 b.2.2
   let d:=de (118,[b.1],()) c.2.1 c.2.2
   (p.1++[[a.1,b.1]],p.2.1++[((k:Int),c.1,d.1,())],d.2)):=by subst y;rfl
  rw[e];dsimp only;have f:=zV (k:=100-4*(k+1)+3) (v.mono (by omega)) (fA ((2*k+1:Nat):Int));generalize dT (115,[dx ((2*k+1:Nat):Int)],()) p.2.2.1 p.2.2.2=a at*;have m:=zV (k:=100-4*(k+1)+2) f.1.su (fA ((2*k+2:Nat):Int));generalize dT (115,[dx ((2*k+2:Nat):Int)],()) a.2.1 a.2.2=b at*;have z:=f.2.t115;have A:=m.2.t115;have n:=IW (k:=100-4*(k+1)+1) m.1.su (jT (k:=112) (by decide) (by decide) (show aB a.1 by unfold aB;omega));have B:=n.2 z;generalize de (112,[a.1],()) b.2.1 b.2.2=c at*;have h:=IW (k:=100-4*(k+1)) n.1.su (jT (k:=118) (by decide) (by decide) (show aB b.1 by unfold aB;omega));have C:=h.2 A;generalize de (118,[b.1],()) c.2.1 c.2.2=d at*;have g:Gr (λt=>t.1≠103) p.2.2.1 d.2.1:=(f.1.gr.imp λt q=>by rw[q];exact a2k _).trans ((m.1.gr.imp λt q=>by rw[q];exact a2k _).trans ((n.1.gr.imp λt q=>by rw[q];exact a6k _).trans (h.1.gr.imp λt q=>by rw[q];exact a6l _)));refine⟨h.1.su,by simp[s],by simp[u],λt l=>?_,λi M=>?_⟩
  ·rcases g.old l with q|q
   ·exact w t q
   ·exact q
  ·rcases bN i k with q|q
   ·obtain⟨j,r,o,sg,D,E,F,G,H,J⟩:=x i q;exact⟨j,r,o,sg,iE D,iE E,g.nm F,g.nm G,g.nm H,g.nm J⟩
   ·have:i=k:=by omega
    subst this;refine⟨a.1,b.1,c.1,d.1,?_,?_,h.1.gr.nm (n.1.gr.nm (m.1.gr.nm f.2)),h.1.gr.nm (n.1.gr.nm m.2),h.1.gr.nm B,C⟩
    ·rw[bB (by omega),s];simp
    ·rw[bB (by omega),u];simp
theorem vQ{a:Nat}{b c:BL}(h:(gg 5).1[a]?=some [b,c]):pl.se a 0=b∧pl.se a 1=c:=by
 unfold Wd.se
 have:pl.sec.getD a (ak 2 [])=[b,c]:=by
  rw[az];show((gg 5).1[a]?).getD _=_;rw[h];rfl
 rw[this];exact⟨rfl,rfl⟩
theorem a6m:Au pl []:=by
 obtain⟨E,K,F,G,v⟩:=JL 5 (aC _);have D:∀i:Nat,i<5→pl.cl i=B6 i:=λi f=>by rcases io f with rfl|rfl|rfl|rfl|rfl<;>rfl
 refine⟨E.w,λa j m L=>?_,λp B=>?_,?_,λi e C=>?_,λi f=>?_,λi f=>?_,aq _,λd H=>(by cases H),rfl,λt J h=>absurd h (G t J)⟩
 ·obtain⟨n,o,x,g,b,r,y,z,A,s⟩:=v a m;obtain⟨l,c⟩:=vQ b;rcases Nat.eq_zero_or_pos j with q|q
  ·subst q;rw[l];exact y
  ·have:j=1:=by omega
   subst this;rw[c];exact z
 ·have B:p∈(gg 5).2.1:=B;obtain⟨a,m⟩:=List.getElem?_of_mem B;have u:a<5:=by rw[←F];exact(dd.1 m).1
  obtain⟨n,o,x,g,b,r,y,z,A,s⟩:=v a u;obtain⟨l,c⟩:=vQ b;rw[r]at m;exact⟨a,x,g,u,(Option.some.inj m).symm,by rw[l];exact A,by rw[c];exact s⟩
 ·obtain⟨n,o,x,g,b,r,y,z,A,s⟩:=v 0 (by omega);obtain⟨l,c⟩:=vQ b;rw[c]
  have:pl.lg.1=g:=by
   show((gg 5).2.1.getD 0 y8).2.2.1=g;rw[az,r];rfl
  rw[this];exact s
 ·have C:([]:List Et)[i]?=some e:=C;simp at C
 ·rw[D i f];exact⟨⟨0,rfl⟩,BQ _⟩
 ·rw[D i f];obtain⟨n,o,x,g,b,r,y,z,A,s⟩:=v i f;obtain⟨l,c⟩:=vQ b;rw[l,c];have:(gg 5).1.getD i []=[n,o]:=by rw[az,b];rfl
  constructor
  ·show((gg 5).1.getD i []).getD 1 []=o;rw[this];rfl
  ·show((gg 5).1.getD i []).getD 0 []=n;rw[this];rfl
theorem Vs{x:Int}(h:1≤x∧x≤5):x≠6∧x≠7:=by omega
theorem As{x a b:Int}(h:x=a)(c:a≠b):x≠b:=λq=>c (h.symm.trans q)
theorem Vt(w:Wd)(s:lw):(ip w s).2.go=w.go:=by
 unfold ip;split
 ·rfl
 split
 ·rfl
 dsimp only;split<;>rfl
def DV(s:lw):Md:=if 1≤s.1∧s.1≤5 then(s.2.1,true,())else if s.1=6 then(0,true,())else if s.1=11 then(s.2.1,false,())else(-1,false,())
def v4(md:List Md)(s:lw)(y:ym):List Md:=if y.1.2.1=0 then md else md++[DV s]
structure si(w:Wd)(md:List Md)(s:lw)(y:ym):Prop where
 au:Au y.2 (v4 md s y)
 st1:y.1.2.1≠0→∃b,y.2.st=w.st++[b]
 st0:y.1.2.1=0→y.2.st=w.st
 lg1:y.1.2.1≠0→s.1=6→∃e,y.2.lg.2.1=w.lg.2.1++[e]
 lg0:¬(y.1.2.1≠0∧s.1=6)→y.2.lg=w.lg
 go:y.2.go=w.go∨s.1=6
 give:s.1=7→y.1.1=0→DO w md (w.st.getD (s.2.2.2.1-1).toNat []) y.1.2.2∧1≤s.2.2.2.1∧s.2.2.2.1≤w.st.length
theorem si.keep{w:Wd}{md:List Md}{s:lw}{y:ym}(h:Au y.2 md)(g:eP w y.2)(h0:y.1.2.1=0)(c:s.1≠7∨y.1.1≠0):si w md s y:=by
 refine⟨?_,λq=>absurd h0 q,λ_=>g.st,λq=>absurd h0 q,λ_=>g.lg, .inl g.go,λa b=>c.elim (λq=>absurd a q) (λq=>absurd b q)⟩;unfold v4;rw[an h0];exact h
theorem dP(w:Wd):eP w w:=⟨rfl,rfl,rfl,rfl,rfl⟩
theorem si.store{w w':Wd}{md:List Md}{s:lw}{b:BL}{a:Int}(h:Au (w'.keep b a) (md++[DV s]))(g:eP w w')(e:s.1≠6)(f:s.1≠7):si w md s (sW (Ec w' b a)):=by
 have c:(sW (Ec w' b a)).1.2.1≠0:=by
  show(w'.st.length:Int)+1≠0;omega
 refine⟨?_,λ_=>⟨b,by show w'.st++[b]=_;rw[g.st]⟩,λq=>absurd q c,λ_ q=>absurd q e,λ_=>g.lg, .inl g.go,λq=>absurd q f⟩;unfold v4;rw[ag c];exact h
theorem DW(w:Wd){i:Nat}(hi:i<5)(r:BL×Int):w.told i (r,(w.cl i).la,w.ts,w.m)=w:=by
 rcases io hi with rfl|rfl|rfl|rfl|rfl<;>rfl
theorem xX{w w':Wd}{md:List Md}{s:lw}{i:Nat}{r:BL×Int}(a:1≤s.1∧s.1≤5)(hi:s.2.1=(i:Int))(g:eP w w')(h:r.2≠0∧Au w' md∨r.2=0∧∀e:Int,Au (w'.keep r.1 e) (md++[((i:Int),true,())])):si w md s (sW (pD w' i r)):=by
 unfold pD;rcases h with⟨b,c⟩|⟨b,c⟩
 ·rw[an b];exact si.keep c g rfl (.inl (Vs a).2)
 ·rw[ag (λq=>q b)];refine si.store ?_ g (Vs a).1 (Vs a).2;have:DV s=((i:Int),true,()):=by unfold DV;rw[an a,hi]
  rw[this];exact c _
theorem a2l{w:Wd}{md:List Md}(h:Au w md){n:Nat}(x:di w (n+1)){s:lw}(b:1≤s.1∧s.1≤5){z:Ad}(r:mG w s z):si w md s (sW z):=by
 unfold mG at r;split at r
 ·rw[r];exact si.keep h (dP w) rfl (.inl (Vs b).2)
 rename_i no;rw[not_or,not_or]at no;split at r
 ·rw[r];exact si.keep h (dP w) rfl (.inl (Vs b).2)
 obtain⟨q,f,rfl⟩:=r;obtain⟨i,g⟩:=cq (Int.not_lt.1 no.1);have A:s.2.1.toNat=i:=by rw[g,aG]
 have j:i<5:=by
  have q:=Int.not_le.1 no.2.1;rw[g]at q;exact Int.ofNat_lt.1 q
 rw[A]at f⊢
 have told:∀{a:Int}{t:BL}{z:(BL×Int)×La×List Tm×KV},z=mF a t (w.cl i).c (w.cl i).sg (w.cl i).lg (w.cl i).la (w.cl i).km w.ts w.m→si w md s (sW (pD (w.told i z) i z.1)):=by
  intro a t z o;rcases ME h x j o with⟨u,v⟩|⟨u,v,_⟩
  ·have:w.told i z=w:=by
    rw[show z=(z.1,z.2)from rfl,v];exact DW w j z.1
   rw[this];exact xX b g (dP w) (.inl ⟨u,h⟩)
  ·exact xX b g (hY w i _).1 (.inr ⟨u,v⟩)
 unfold yi at f;split at f
 ·obtain⟨t,z,o,rfl⟩:=f;exact told o
 split at f
 ·obtain⟨t,z,o,rfl⟩:=f;exact told o
 ·obtain⟨p,l,e,C,D,⟨y,rfl⟩|⟨y,E,z,F,o,rfl⟩⟩:=f
  ·exact xX b g (dP w) (.inl ⟨y,h⟩)
  ·rcases U5 h x j o with⟨u,v,B⟩|⟨u,v,_⟩
   ·exact xX b g B (.inl ⟨u,v⟩)
   ·exact xX b g (hY w i _).1 (.inr ⟨u,v⟩)
theorem Rn:∀{a:List (Int×BL)}{w w':Wd}{md:List Md}{n:Nat},Au w md→di w (n+a.length)→(∀p∈a,0≤p.1∧p.1<5)→An a w w'→Au w' md∧eP w w'
 |[],_,_,_,_,h,_,_,e=>by
  have e:_=_:=e;subst e;exact⟨h,dP _⟩
 |p::a,w,w',md,n,h,c,b,⟨y,f,g⟩=>by
  obtain⟨i,j,o,r⟩:=Ae h (n:=n+a.length) (c.mono (by simp;omega)) (b p (aM ..)) f;have l:=jc (n:=n+a.length) (c.mono (by simp;omega)) (b p (aM ..)) f;have:=Rn i l (λq m=>b q (aE _ m)) g;exact⟨this.1,j.trans this.2⟩
theorem jF{w:Wd}{md:List Md}(h:Au w md):kW w:=by
 intro i c;unfold Wd.ids at c;obtain⟨x,f,rfl⟩:=dY.1 c;obtain⟨e,g,b⟩:=vz f;obtain⟨k,j⟩:=List.getElem?_of_mem g;obtain⟨a,p,q,m,l,_⟩:=h.al x ((h.es k e j).2 x b);rw[l];show 0≤(a:Int)∧(a:Int)<5;omega
theorem MJ{w:Wd}{md:List Md}(h:Au w md){n:Nat}(i:di w (n+5*w.st.length+3)){s:lw}{y:ym}(r:mP w s y):si w md s y:=by
 have hB:s.1≠7→si w md s (bad w):=λq=>si.keep h (dP w) rfl (.inl q);have p:si w md s (bad w):=si.keep h (dP w) rfl (.inr (by show(26:Int)≠0;decide));unfold mP at r;split at r
 ·rename_i G;obtain⟨z,t,rfl⟩:=r;exact a2l h (n:=n+5*w.st.length+2) i G t
 rename_i e;split at r
 ·rename_i a;split at r
  ·rw[r];exact p
  rename_i g;rw[not_or]at g;obtain⟨z,t,rfl⟩:=r;rcases BU h (k:=n+5*w.st.length+1) i (by omega) t with⟨C,f,j,l,_⟩|⟨C,f,j,l,B,O,E,P,Q,H,R,J,S⟩
  ·exact si.keep j l f (.inl (As a (by decide)))
  ·have m:(sW z).1.2.1≠0:=by
    show z.1.2≠0;rw[f];omega
   refine⟨?_,λ_=>⟨gO E,H⟩,λq=>absurd q m,λ_ _=>⟨Ed E,J⟩,λq=>absurd ⟨m,a⟩ q, .inr a,λq=>absurd q (As a (by decide))⟩;unfold v4;rw[ag m];have:DV s=(0,true,()):=by unfold DV;rw[ag e,an a]
   rw[this];exact j
 rename_i a;split at r
 ·rename_i c;split at r
  ·rw[r];exact p
  rename_i g;rw[not_or]at g;have K:=aD.1 g.1;have L:=aD.1 g.2;obtain⟨z,t,rfl⟩:=r;obtain⟨D,u,U,M⟩:=Ae h (n:=n+5*w.st.length+2) i K t;refine⟨?_,λq=>absurd rfl q,λ_=>u.st,λq=>absurd rfl q,λ_=>u.lg, .inl u.go,λ_ q=>⟨M q,L⟩⟩;unfold v4;rw[an rfl];exact D
 rename_i c;split at r
 ·rename_i v;rw[r];unfold xR;have o:DV s=(-1,false,()):=by unfold DV;rw[ag e,ag a,ag (v.elim (λq=>As q (by decide)) (λq=>As q (by decide)))]
  split
  ·exact hB c
  split
  ·exact si.store (by rw[o];exact Jd h _ _ _ _) (dP w) a c
  ·exact si.store (by rw[o];exact Jd h _ _ _ _) (dP w) a c
 rename_i v;split at r
 ·rename_i x;have o:DV s=(-1,false,()):=by unfold DV;rw[ag e,ag a,ag (As x (by decide))]
  split at r
  ·rw[r];exact hB c
  ·rw[r];exact si.store (by rw[o];exact Jd h _ _ _ _) (dP w) a c
 rename_i x;split at r
 ·rename_i A;rw[r];have o:DV s=(s.2.1,false,()):=by unfold DV;rw[ag e,ag a,an A]
  rcases U7 h (n:=n+5*w.st.length+2) i (s:=s)with⟨C,f,j,l,B⟩|⟨C,f,j,b,l,B⟩
  ·exact si.keep l B f (.inl c)
  ·have m:(sW (ip w s)).1.2.1≠0:=by
    show(ip w s).1.2≠0;rw[f];omega
   refine⟨?_,λ_=>⟨b,l⟩,λq=>absurd q m,λ_ q=>absurd q a,λ_=>B, .inl ?_,λq=>absurd q c⟩
   ·unfold v4;rw[ag m,o];exact j
   ·exact Vt w s
 rename_i A;split at r
 ·obtain⟨W,N,rfl⟩:=r;have F:=jF h;obtain⟨D,u⟩:=Rn h (n:=0) (i.mono (by rw[pY];have:=pX i;have:=Nat.mul_le_mul_left w.st.length this;omega)) (vN F) N;exact si.keep D u rfl (.inl c)
 ·rw[r];exact hB c
theorem to5{x:Int}(h:¬x<0)(h':¬5≤x):x.toNat<5:=by omega
theorem toI{x:Int}{n:Nat}(h:¬x<1)(h':¬(n:Int)<x):(x-1).toNat<n:=by omega
theorem je{w:Wd}{n:Nat}(h:di w n)(f:w.st.length<1000){b:BL}(e:b.length≤2000000)(m:Int):di (w.keep b m) n:=
 ⟨λi c=>by rw[jE w b m c];exact h.cl i c,h.ts,h.sec,h.al,h.lg,h.l5,h.go,⟨by show(w.st++[b]).length≤1000;rw[aa,bb];omega,by show(w.ln++[m]).length=(w.st++[b]).length;rw[aa,aa,h.st.2.1];rfl,λx a=>by
  have a:x∈w.st++[b]:=a;rcases aY.1 a with q|q
  ·exact h.st.2.2 x q
  ·rw[cg.1 q];exact e⟩,h.dr⟩
theorem JM{w:Wd}{n:Nat}(h:di w n){d:Int}{z:List Tm×KV}(b:0≤d∧d+2*n≤1000000)(c:bU (10000*n+10000) z.1):di (w.su d z) n:=
 ⟨λi a=>by rw[Jf w d z a];exact h.cl i a,c,h.sec,h.al,h.lg,h.l5,h.go,h.st,b⟩
theorem rQ{w:Wd}{k:Nat}(h:di w (k+2))(l:w.st.length<400){n:Int}{y:(Int×Int)×Wd}(r:fi w n y):di y.2 k∧y.2.st.length≤w.st.length+1:=by
 obtain⟨c,m,r⟩:=r;have e:=rM h n c;split at r
 ·rw[r];exact⟨JM (h.mono (by omega)) (by have:=h.dr;omega) (e.1.mono (by omega)),Nat.le_succ _⟩
 rename_i b;have b:=aD.1 b;split at r
 ·rw[r];exact⟨(rN h b h.go).mono (by omega),Nat.le_succ _⟩
 obtain⟨z,f,r⟩:=r;have i:=rN h b (g:=t8 w.go c) (by rw[pV];exact h.go);have j:=jc i (by omega) f;have a:=(jd f).1;rw[r];have a:z.2.st=w.st:=a;refine⟨je j (by rw[a];omega) (e.2 b).2.1 0,?_⟩;show(z.2.st++[_]).length≤_;rw[aa,a];exact aC _
theorem yW{w:Wd}{n:Nat}(h:di w n)(a:w.st.length<1000){i:Nat}{r:BL×Int}(b:r.1.length≤100000):di (pD w i r).2 n∧(pD w i r).2.st.length≤w.st.length+1:=by
 unfold pD;split
 ·exact⟨h,Nat.le_succ _⟩
 ·exact⟨je h a (by omega) _,by show(w.st++[_]).length≤_;simp⟩
theorem lpL{l:Lt}(a:l.2.2.2.2.1.length≤32)(b:l.2.2.2.2.2.1.length≤4112)(c:l.2.2.2.2.2.2.1.length≤64):(hX l).length≤100000:=by
 have v:=bz;have e:=dW l.2.2.2.2.1;have f:=dW l.2.2.2.2.2.1;have g:=dW l.2.2.2.2.2.2.1;have:=v l.1;have:=v l.2.1;have:=v l.2.2.1;have:=v l.2.2.2.1;unfold hX eg;simp only[aa];omega
theorem rR{w:Wd}{n:Nat}(h:di w (n+5*w.st.length+3))(e:kW w)(C:w.st.length<900){s:lw}{y:ym}(r:mP w s y):di y.2 n∧y.2.st.length≤w.st.length+1:=by
 have a:di w n∧w.st.length≤w.st.length+1:=⟨h.mono (by omega),Nat.le_succ _⟩;unfold mP at r;split at r
 ·obtain⟨z,b,rfl⟩:=r;unfold mG at b;split at b
  ·rw[b];exact a
  rename_i no;split at b
  ·rw[b];exact a
  rw[not_or,not_or]at no;obtain⟨q,j,rfl⟩:=b;have:=Jt (n:=n) (h.mono (by omega)) (to5 no.1 no.2.1) j;have:=yW (i:=s.2.1.toNat) this.1 (by rw[this.2.2.1];omega) this.2.1;rename_i t;rw[t.2.2.1]at this;exact this
 split at r
 ·split at r
  ·rw[r];exact a
  rename_i g;rw[not_or]at g;obtain⟨z,b,rfl⟩:=r;exact rQ (h.mono (by omega)) (by omega) b
 split at r
 ·split at r
  ·rw[r];exact a
  rename_i g;rw[not_or]at g;obtain⟨z,b,rfl⟩:=r;refine⟨jc (h.mono (by omega)) (aD.1 g.1) b,?_⟩;show z.2.st.length≤_;rw[(jd b).1];exact Nat.le_succ _
 split at r
 ·rw[r];unfold xR;split
  ·exact a
  rename_i g;rw[not_or,not_or,not_or,not_or]at g;obtain⟨o,p,D,E,F⟩:=g;have u:=h.st.2.2 _ (aT (z:=([]:BL)) (toI o p));split
  ·exact⟨je a.1 (by omega) (by rw[bi];omega) _,by show(w.st++[_]).length≤_;simp⟩
  ·exact⟨je a.1 (by omega) (by rw[cz];exact u) _,by show(w.st++[_]).length≤_;simp⟩
 split at r
 ·split at r
  ·rw[r];exact a
  rename_i g;rw[not_or]at g;rw[r];exact⟨je a.1 (by omega) (by omega) _,by show(w.st++[_]).length≤_;simp⟩
 split at r
 ·rw[r];unfold ip;split
  ·exact a
  split
  ·exact a
  dsimp only;have c:=lmS (k:=10000*n+10000) (sec:=w.se s.2.1.toNat 1) (ep:=(aU .i64 s.2.2.2.1 (w.ky s.2.1.toNat)).getD []) (l:=s.2.2.2.2.2.2.2) (text:=s.2.2.2.2.2.2.1) w.m (h.ts.mono (by omega));have f:=JM (d:=w.d) (z:=(r9 (w.se s.2.1.toNat 1) ((aU .i64 s.2.2.2.1 (w.ky s.2.1.toNat)).getD []) s.2.2.2.2.2.2.2 s.2.2.2.2.2.2.1 w.ts w.m).2) a.1 a.1.dr c.1;split
  ·exact⟨f,Nat.le_succ _⟩
  ·refine⟨je f (by show w.st.length<1000;omega) (bA (lpL c.2.1 c.2.2.1 c.2.2.2) (by omega)) _,?_⟩;show(w.st++[_]).length≤_;simp
 split at r
 ·obtain⟨v,x,rfl⟩:=r;obtain⟨A,B,_⟩:=vM (n:=n) (h.mono (by rw[pY];have:=pX h;have:=Nat.mul_le_mul_left w.st.length this;omega)) (vN e) x;exact⟨A,by show v.st.length≤_;rw[B];exact Nat.le_succ _⟩
 ·rw[r];exact a
end Go.Tp
