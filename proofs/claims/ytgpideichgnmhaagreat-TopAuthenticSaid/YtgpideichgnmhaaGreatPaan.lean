/- A part of the proof of TopAuthenticSaid: no conditions; packed by a program of our own. -/
import Derived.Test.YtgpideichgnmhaaGreatPaam
open BitVec renaming ofInt→bc,ofNat→af
open Bool renaming not_eq_true'→aO
open Decidable renaming not_not→aD
open Go.IntKind renaming i64→gq
open Int renaming toNat_natCast→aG,eq_ofNat_of_zero_le→cq
open LE renaming le→aZ
open LT renaming lt→lU
open List renaming map_cons→aX,replicate→ak,length_append→aa,length_cons→bd,append_assoc→ay,mem_append→aY,drop_of_length_le→bw,nil_append→eG,take_of_length_le→ba,append_nil→bj,mem_cons→br,getElem?_eq_getElem→ap,getElem?_append_left→cH,getElem?_append_right→bB,length_take→bi,length→ac,getD_eq_getElem?_getD→az,getElem?_eq_none→bY,map_append→dl,length_map→bT,mem_map→dY,map→rU,mem_cons_self→aM,mem_cons_of_mem→aE,mem_map_of_mem→fe,getElem?_eq_some_iff→dd,mem_singleton→cg,take→cS,length_singleton→bb,take_add_one→eQ,take_length→bp,length_set→cz
open Nat renaming min_eq_left→ee,le_refl→aC,le_trans→bA,zero_le→aq,lt_or_ge→bN
open Prod renaming ext→rV
namespace Go.Tp
open Go.Hv Go.Proofs Go.RowKit
set_option maxRecDepth 100000
set_option maxHeartbeats 0
def UR(n i:Int):Bool:=bits .and .i64 (n.fdiv (2^(min i.toNat 64))) 1==1
def vY(n:Int):Int→List Mb→List Mb
 |_,[]=>[]
 |i,m::r=>if UR n i then m::vY n (i+1) r else vY n (i+1) r
def Ab(n:Int)(was:List Int):Int→List Mb→List Int
 |_,[]=>[]
 |i,_::r=>if UR n i then Ab n was (i+1) r else(was.filter (·==i)).map (λ_=>i)++Ab n was (i+1) r
def t8:List Bool→List Fk→List Bool
 |g,[]=>g
 |g,x::r=>t8 (g.set x.1.toNat true) r
def Wd.su(w:Wd)(d:Int)(z:List Tm×KV):Wd:={w with d:=d,ts:=z.1,m:=z.2}
theorem Ac{n:Int}{once key co:BL}(g:aB once)(o:key.length≤64)(i:aB co){k:Nat}:∀(ms:List Mb)(a:List BL)(ts:List Tm)(m:KV),(∀p∈ms,aB p.2.1)→bU (k+3*ms.length) ts→(∀b∈a,b.length≤80)→
 bU k (u7 n once key co ms a ts m).2.1∧(∀b∈(u7 n once key co ms a ts m).1.1,b.length≤80)∧(u7 n once key co ms a ts m).1.1.length≤a.length+ms.length
 |[],a,ts,m,_,e,f=>⟨e.mono (by omega),f,by show a.length≤_;omega⟩
 |p::r,a,ts,m,l,e,f=>by
  have c:=V2 (k:=k+3*r.length+1) m n p.1 g (l p (aM ..)) (e.mono (by simp;omega));simp only[u7];split
  ·exact⟨c.2.mono (by omega),by simp,by simp⟩
  ·generalize hV n p.1 once p.2.1 ts m=z at*;have s:=seS (n:=1) (j:=k+3*r.length) z.2.2 (show aB z.1.1 by have:=c.1;unfold aB;omega) i (show aB key by unfold aB;omega) c.2
   have:=Ac g o i (n:=n) (key:=key) r (a++[(lA z.1.1 1 co key z.2.1 z.2.2).1]) _ (lA z.1.1 1 co key z.2.1 z.2.2).2.2 (λq t=>l q (aE _ t)) s.1 (λb c=>by
    rcases aY.1 c with c|c
    ·exact f b c
    ·simp at c;subst c;omega)
   refine⟨this.1,this.2.1,?_⟩;have h:=this.2.2;rw[aa,bb]at h;rw[bd];omega
theorem a7i{t:Tm}{k:Nat}{ts:List Tm}(m:KV)(h:bU (k+1) ts)(a:eC t):bU k (de t ts m).2.1:=pz m h a
theorem US{lg:Lg}{sec once key:BL}{ms:List Mb}{ns:List Fk}{k:Nat}{ts:List Tm}{m:KV}(A:cu lg.2.1 lg.2.2.1)(t:rr ms)(u:bU (k+40) ts):
 bU k (r8 lg sec once key ms ns ts m).2.1∧((r8 lg sec once key ms ns ts m).1.2=0→xJ (r8 lg sec once key ms ns ts m).1.1∧(gO (r8 lg sec once key ms ns ts m).1.1).length≤2000000∧pc ms ns=true):=by
 have B:bU k ts:=u.mono (by omega);unfold r8;rw[ck];split
 ·exact⟨B,λh=>by cases h⟩
 rename_i i;rw[not_or,not_or]at i;have j:sec.length=32:=aD.1 i.1;have l:once.length=32:=aD.1 i.2.1;have C:key.length=32:=aD.1 i.2.2;have o:=pz (k:=k+39) m u (jT (k:=118) (by decide) (by decide) (show aB sec by unfold aB;omega));dsimp only;generalize de (118,[sec],()) ts m=v at*;split
 ·exact⟨o.mono (by omega),λh=>by cases h⟩
 split
 ·exact⟨o.mono (by omega),λh=>by cases h⟩
 have w:=pz (k:=k+38) v.2.2 o (jT (k:=112) (by decide) (by decide) (show aB once by unfold aB;omega));have q:=bA (Ll (112,[once],()) v.2.1 v.2.2) (CW (by show(112:BitVec 8)≠98;decide));generalize de (112,[once],()) v.2.1 v.2.2=p at*;split
 ·exact⟨w.mono (by omega),λh=>by cases h⟩
 rename_i y;rw[not_or]at y;have f:pc ms ns=true:=by simpa using y.1
 obtain⟨H,D,J,K,L⟩:=gw f;have r:=rv A lg.2.1.length
 have M:(fP (oo lg ms ns p.1)).length≤1002000:=by
  have:=oq (e:=oo lg ms ns p.1) f;have j:(oo lg ms ns p.1).2.1.length≤1000000:=r;have l:(oo lg ms ns p.1).2.2.2.2.1.length≤64:=q;omega
 unfold SQ;dsimp only;have a:=Ac (n:=lg.2.1.length+1) (k:=k+1) (show aB once by unfold aB;omega) (show key.length≤64 by omega) (show aB (fP (oo lg ms ns p.1))by unfold aB;omega) ms [] p.2.1 p.2.2 (λx E=>by have:=(t x E).1;unfold aB;omega) (w.mono (by omega)) (by simp);generalize u7 (lg.2.1.length+1) once key (fP (oo lg ms ns p.1)) ms [] p.2.1 p.2.2=z at*;split
 ·exact⟨a.1.mono (by omega),λh=>absurd h ‹_›⟩
 have s:∀c:BL,(dL (kM lg ms ns p.1 z.1.1 c)).length≤1003000:=by
  intro c;have:=va (e:=kM lg ms ns p.1 z.1.1 c) f 80 a.2.1;have j:(kM lg ms ns p.1 z.1.1 c).2.1.length≤1000000:=r;have l:(kM lg ms ns p.1 z.1.1 c).2.2.2.2.1.length≤64:=q;have C:(kM lg ms ns p.1 z.1.1 c).2.2.2.2.2.1.length≤5:=by have:=a.2.2;simp at this;exact bA this D
  omega
 have F:=pz (k:=k) z.2.2 a.1 (A6 (k:=103) (by decide) (by decide) (show aB sec by unfold aB;omega) (show aB (dL (kM lg ms ns p.1 z.1.1 []))by have:=s [];unfold aB;omega));have N:=bA (Ll (103,[sec,dL (kM lg ms ns p.1 z.1.1 [])],()) z.2.1 z.2.2) (CW (by show(103:BitVec 8)≠98;decide));generalize de (103,[sec,dL (kM lg ms ns p.1 z.1.1 [])],()) z.2.1 z.2.2=g at*;refine⟨F,λ_=>⟨⟨⟨?_,?_,?_⟩,?_,?_,?_,t,?_,?_⟩,?_,f⟩⟩
 ·show ms.length≤_;omega
 ·show ns.length≤_;omega
 ·show z.1.1.length≤_;have:=a.2.2;simp at this;omega
 ·have:=s g.1;exact bA this (by decide)
 ·have:=oq (e:=kM lg ms ns p.1 z.1.1 g.1) f;have j:(kM lg ms ns p.1 z.1.1 g.1).2.1.length≤1000000:=r;have l:(kM lg ms ns p.1 z.1.1 g.1).2.2.2.2.1.length≤64:=q;show(fP (kM lg ms ns p.1 z.1.1 g.1)).length≤100000000;omega
 ·show g.1.length≤_;omega
 ·intro b G;have:=a.2.1 b G;unfold aB;omega
 ·show p.1.length≤_;omega
 ·show(dL (kM lg ms ns p.1 z.1.1 g.1)++tx g.1).length≤2000000;have:=s g.1;have O:=dW g.1;rw[aa];omega
def Q2(w:Wd):BL×List Tm×KV:=dT (115,[dx (w.d+1)],()) w.ts w.m
def Ea(w:Wd):BL×List Tm×KV:=dT (115,[dx (w.d+1+1)],()) (Q2 w).2.1 (Q2 w).2.2
def fJ(w:Wd)(n:Int)(es:List Fk):(Et×Int)×List Tm×KV:=r8 w.lg (w.se 0 1) (Q2 w).1 (Ea w).1 (vY n 0 w.al) es (Ea w).2.1 (Ea w).2.2
def vZ(w:Wd)(n:Int)(es:List Fk):Int×Lg×List Tm×KV:=jU w.lg (fJ w n es).1.1 (fJ w n es).2.1 (fJ w n es).2.2
def Wd.mb(w:Wd)(n:Int)(es:List Fk)(g:List Bool):Wd:={w with d:=w.d+1+1,lg:=(vZ w n es).2.1,ts:=(vZ w n es).2.2.1,m:=(vZ w n es).2.2.2,go:=g}
def DJ(w:Wd)(n:Int)(es:List Fk):Prop:=es.map (·.1)=Ab n ((cL w.lg.2.1 w.lg.2.1.length).map (·.1)) 0 w.al∧(∀e∈es,0≤e.1∧e.1<5)
def fi(w:Wd)(n:Int)(y:(Int×Int)×Wd):Prop:=
 ∃a:List Fk,DJ w n a∧
  if(fJ w n a).1.2≠0 then y=(((fJ w n a).1.2,0),w.su (w.d+1+1) (fJ w n a).2)
  else if(vZ w n a).1≠0 then y=(((vZ w n a).1,0),w.mb n a w.go)
  else∃r,jS (w.mb n a (t8 w.go a)) 0 (gO (fJ w n a).1.1) r∧y=((0,(r.2.st.length:Int)+1),{r.2 with st:=r.2.st++[gO (fJ w n a).1.1],ln:=r.2.ln++[0]})
theorem oF{n:Int}{x:Mb}:∀{i:Int}{l:List Mb},x∈vY n i l→x∈l
 |_,[],h=>by simp[vY]at h
 |i,m::r,h=>by
  simp only[vY]at h;split at h
  ·rcases br.1 h with h|h
   ·rw[h];exact aM ..
   ·exact aE _ (oF h)
  ·exact aE _ (oF h)
theorem fA(n:Int):eC (115,[dx n],()):=jT (by decide) (by decide) (by unfold aB;rw[eb];omega)
theorem rM{w:Wd}{k:Nat}(h:di w (k+2))(n:Int)(es:List Fk):bU (10000*(k+1)+10100) (fJ w n es).2.1∧((fJ w n es).1.2=0→xJ (fJ w n es).1.1∧(gO (fJ w n es).1.1).length≤2000000∧pc (vY n 0 w.al) es=true):=by
 have a:=ol (k:=10000*(k+1)+10141) w.m (h.ts.mono (by omega)) (fA (w.d+1));have b:=ol (k:=10000*(k+1)+10140) (Q2 w).2.2 a (fA (w.d+1+1));exact US h.lg.1 (λx c=>h.al.2 x (oF c)) b
theorem a6c{lg:Lg}{e:Et}{ts:List Tm}{m:KV}(h:∀x∈lg.2.1,x.2.2.1.length≤5):∀x∈(jU lg e ts m).2.1.2.1,x.2.2.1.length≤5:=by
 unfold jU;rw[ck]
 repeat' split
 all_goals try exact h
 rename_i b _ _ _ _ _;have b:lD e=true:=by simpa using b
 intro x a;rcases aY.1 a with a|a
 ·exact h x a
 ·simp at a;subst a;exact(gw (kK b).2.2.2.1).2.1
theorem vE{n:Int}{was:List Int}:∀{l:List Mb}{i:Int},0≤i→i+l.length≤5→∀a∈Ab n was i l,0≤a∧a<5
 |[],_,_,_,a,b=>by simp[Ab]at b
 |m::r,i,e,c,a,b=>by
  simp only[bd]at c;simp only[Ab]at b;split at b
  ·exact vE (l:=r) (i:=i+1) (by omega) (by omega) a b
  ·rcases aY.1 b with b|b
   ·obtain⟨_,_,rfl⟩:=dY.1 b;omega
   ·exact vE (l:=r) (i:=i+1) (by omega) (by omega) a b
theorem rN{w:Wd}{k:Nat}(h:di w (k+2)){n:Int}{es:List Fk}(h0:(fJ w n es).1.2=0){g:List Bool}(c:g.length=5):di (w.mb n es g) (k+1):=by
 obtain⟨f,b⟩:=rM h n es;have b:=b h0;have j:=IV (e:=(fJ w n es).1.1) (ts:=(fJ w n es).2.1) (m:=(fJ w n es).2.2) h.lg.1 h.lg.2.1 h.lg.2.2;have l:=tkS (lg:=w.lg) (e:=(fJ w n es).1.1) (k:=10000*(k+1)+10000) (fJ w n es).2.2 b.1.2.1 (f.mono (by omega));have o:∀i,i<5→(w.mb n es g).cl i=w.cl i:=λi a=>by rcases io a with rfl|rfl|rfl|rfl|rfl<;>rfl
 exact⟨λi a=>by rw[o i a];exact⟨(h.cl i a).1,(h.cl i a).2.1,by have:=(h.cl i a).2.2;omega⟩,l,h.sec,h.al,j,a6c h.l5,c,h.st,⟨by show 0≤w.d+1+1;have:=h.dr.1;omega,by show w.d+1+1+_≤_;have:=h.dr.2;omega⟩⟩
theorem pV:∀(g:List Bool)(l:List Fk),(t8 g l).length=g.length
 |_,[]=>rfl
 |g,x::r=>by rw[t8,pV,cz]
def pi:Ct:=⟨2,⟨[sP 0,sI 1],jK⟩,[⟨[(0,true,[.d D9])],IJ 33++pT 33⟩],λ(n,E,F,G,H,J,K,L,M,N,a,b,c,e,f,g,h,i,j,l,o,p,q,r,s,t,u,v,w,x,z,A,B,C,D,_)=>eO (1≤n∧n≤31∧∃k,di (cw (E,F,G,H,J,K,L,M,N,a,b,c,e,f,g,h,i,j,l,o,p,q,r,s,t,u,v,w,x,z,A,B,C,D,())) (k+2)) (fi (cw (E,F,G,H,J,K,L,M,N,a,b,c,e,f,g,h,i,j,l,o,p,q,r,s,t,u,v,w,x,z,A,B,C,D,())) n) λy=>((y.1.1,y.1.2,jh),y.2.sec,y.2.al,y.2.go,y.2.d,y.2.m,(cA y.2.c0),(bC y.2.c0),y.2.c0.km,(cA y.2.c1),(bC y.2.c1),y.2.c1.km,(cA y.2.c2),(bC y.2.c2),y.2.c2.km,(cA y.2.c3),(bC y.2.c3),y.2.c3.km,(cA y.2.c4),(bC y.2.c4),y.2.c4.km,y.2.k0,y.2.k1,y.2.k2,y.2.k3,y.2.k4,y.2.lg,y.2.ts,y.2.c0.bk,y.2.c1.bk,y.2.c2.bk,y.2.c3.bk,y.2.c4.bk,y.2.st,y.2.ln,())⟩
def Eb:Option CP:=some (.cells [.d D9])
def cLi:Option CP:=some (.cells [.d (.ar 5 .i64)])
def a1r:cc:=⟨[sP 0,sI 1,(4,false,[.ptr 33 0]),(5,false,[.ptr 34 0]),(29,false,[.d (.sl J5)]),sI 30,sI 31],jK++[Eb,cLi]⟩
def vF(x:pi.inp.den)(y:a1r.den):Prop:=match x,y with
 |(n,a1,a2,a3,a4,a5,a6,a7,a8,a9,a,b,c,e,f,g,j,l,m,o,p,q,r,s,t,u,w,z,A,B,C,D,E,F,G,_),(n1,v,ln,i,b1,b2,b3,b4,b5,b6,b7,b8,b9,H,J,K,L,M,N,O,P,Q,R,S,U,W,X,Y,a0,b0,c0,c1,c2,c3,c4,c5,c6,c7,_,li,_)=>n1=n∧(cw (b1,b2,b3,b4,b5,b6,b7,b8,b9,H,J,K,L,M,N,O,P,Q,R,S,U,W,X,Y,a0,b0,c0,c1,c2,c3,c4,c5,c6,c7,()))=(cw (a1,a2,a3,a4,a5,a6,a7,a8,a9,a,b,c,e,f,g,j,l,m,o,p,q,r,s,t,u,w,z,A,B,C,D,E,F,G,()))∧(∀h∈v,@aZ Int _ 0 h.1∧@lU Int _ h.1 5)∧ln=v.length∧v.length≤5∧li.length=5∧@aZ Int _ 0 i
def a1s:cc:=⟨[sP 0,sI 1,(4,false,[.ptr 33 0]),(5,false,[.ptr 34 0]),sO 8 35,sO 9 36,(10,false,[.d (.sl .i64)]),(46,true,[.d (.ar 5 il)]),sI 47],jK++[Eb,cLi,some (.sl il),some (.sl ic)]⟩
def I7(x:pi.inp.den)(y:a1s.den):Prop:=match x,y with
 |(n,H,J,K,L,M,N,O,P,Q,a,b,c,e,f,g,h,j,l,m,o,p,q,r,s,t,u,v,w,z,A,B,C,D,E,_),(n1,F,G,i,b1,b2,b3,b4,b5,b6,b7,b8,b9,R,S,U,W,X,Y,a0,b0,c0,c1,c2,c3,c4,c5,c6,c7,c8,c9,d0,d1,d2,d3,d4,d5,d6,_,li,ms,es,_)=>n1=n∧(cw (b1,b2,b3,b4,b5,b6,b7,b8,b9,R,S,U,W,X,Y,a0,b0,c0,c1,c2,c3,c4,c5,c6,c7,c8,c9,d0,d1,d2,d3,d4,d5,d6,()))=(cw (H,J,K,L,M,N,O,P,Q,a,b,c,e,f,g,h,j,l,m,o,p,q,r,s,t,u,v,w,z,A,B,C,D,E,()))∧F=(cL (cw (H,J,K,L,M,N,O,P,Q,a,b,c,e,f,g,h,j,l,m,o,p,q,r,s,t,u,v,w,z,A,B,C,D,E,())).lg.2.1 (cw (H,J,K,L,M,N,O,P,Q,a,b,c,e,f,g,h,j,l,m,o,p,q,r,s,t,u,v,w,z,A,B,C,D,E,())).lg.2.1.length).map (·.1)∧G=(cw (H,J,K,L,M,N,O,P,Q,a,b,c,e,f,g,h,j,l,m,o,p,q,r,s,t,u,v,w,z,A,B,C,D,E,())).al∧li.length=5∧∃k:Nat,i=k∧k≤5∧ms.length≤k∧es.length≤k*F.length∧
  ms++vY n k (G.drop k)=vY n 0 G∧es.map (·.1)++Ab n F k (G.drop k)=Ab n F 0 G
def a1t:cc:=⟨[sP 0,sI 1,(4,false,[.ptr 33 0]),(5,false,[.ptr 34 0]),sO 8 35,sO 9 36,(10,false,[.d (.sl .i64)]),sI 11,(46,true,[.d (.ar 5 il)]),sI 47,(60,false,[.d (.sl .i64)]),sI 61,sI 62],jK++[Eb,cLi,some (.sl il),some (.sl ic)]⟩
def sT(x:pi.inp.den)(i0:Int)(y:a1t.den):Prop:=match x,y with
 |(n,L,M,N,O,P,Q,R,S,U,b,c,e,f,g,h,l,m,o,p,r,s,t,u,v,w,z,A,B,C,D,E,F,G,H,_),(n1,a,id,J,i,K,ln,j,b1,b2,b3,b4,b5,b6,b7,b8,b9,W,X,Y,a0,b0,c0,c1,c2,c3,c4,c5,c6,c7,c8,c9,d0,d1,d2,d3,d4,d5,d6,d7,d8,d9,_,li,ms,es,_)=>n1=n∧(cw (b1,b2,b3,b4,b5,b6,b7,b8,b9,W,X,Y,a0,b0,c0,c1,c2,c3,c4,c5,c6,c7,c8,c9,d0,d1,d2,d3,d4,d5,d6,d7,d8,d9,()))=(cw (L,M,N,O,P,Q,R,S,U,b,c,e,f,g,h,l,m,o,p,r,s,t,u,v,w,z,A,B,C,D,E,F,G,H,()))∧a=(cL (cw (L,M,N,O,P,Q,R,S,U,b,c,e,f,g,h,l,m,o,p,r,s,t,u,v,w,z,A,B,C,D,E,F,G,H,())).lg.2.1 (cw (L,M,N,O,P,Q,R,S,U,b,c,e,f,g,h,l,m,o,p,r,s,t,u,v,w,z,A,B,C,D,E,F,G,H,())).lg.2.1.length).map (·.1)∧J=(cw (L,M,N,O,P,Q,R,S,U,b,c,e,f,g,h,l,m,o,p,r,s,t,u,v,w,z,A,B,C,D,E,F,G,H,())).al∧li.length=5∧id=i∧i=i0∧K=a∧ln=a.length∧∃k q:Nat,i=k∧k<5∧j=q∧q≤a.length∧UR n k=false∧ms.length≤k∧es.length≤k*a.length+q∧
  ms++vY n (k+1) (J.drop (k+1))=vY n 0 J∧es.map (·.1)++((a.drop q).filter (·==i)).map (λ_=>i)++Ab n a (k+1) (J.drop (k+1))=Ab n a 0 J
def a1u:cc:=⟨[sP 0,(4,false,[.ptr 46 0]),(17,false,[.ptr 47 0]),(129,false,[.d (.sl ic)]),sI 130,sI 131],IJ 33++pT 33++[Eb,some (.cells [.d r6])]⟩
def xQ(x:pi.inp.den)(y:a1u.den):Prop:=match x,y with
 |(n,J,K,L,M,N,O,P,Q,R,a,b,c,f,h,j,l,m,o,p,q,r,s,t,u,v,w,z,A,B,C,D,E,F,G,_),(H,ln,i,b1,b2,b3,b4,b5,b6,b7,b8,b9,S,U,W,X,Y,a0,b0,c0,c1,c2,c3,c4,c5,c6,c7,c8,c9,d0,d1,d2,d3,d4,d5,d6,d7,_,e,_)=>DJ (cw (J,K,L,M,N,O,P,Q,R,a,b,c,f,h,j,l,m,o,p,q,r,s,t,u,v,w,z,A,B,C,D,E,F,G,())) n H∧(fJ (cw (J,K,L,M,N,O,P,Q,R,a,b,c,f,h,j,l,m,o,p,q,r,s,t,u,v,w,z,A,B,C,D,E,F,G,())) n H).1.2=0∧(vZ (cw (J,K,L,M,N,O,P,Q,R,a,b,c,f,h,j,l,m,o,p,q,r,s,t,u,v,w,z,A,B,C,D,E,F,G,())) n H).1=0∧e=(fJ (cw (J,K,L,M,N,O,P,Q,R,a,b,c,f,h,j,l,m,o,p,q,r,s,t,u,v,w,z,A,B,C,D,E,F,G,())) n H).1.1∧ln=H.length∧∃(k:Nat)(g:List Bool),i=k∧k≤H.length∧(cw (b1,b2,b3,b4,b5,b6,b7,b8,b9,S,U,W,X,Y,a0,b0,c0,c1,c2,c3,c4,c5,c6,c7,c8,c9,d0,d1,d2,d3,d4,d5,d6,d7,()))=(cw (J,K,L,M,N,O,P,Q,R,a,b,c,f,h,j,l,m,o,p,q,r,s,t,u,v,w,z,A,B,C,D,E,F,G,())).mb n H g∧t8 g (H.drop k)=t8 (cw (J,K,L,M,N,O,P,Q,R,a,b,c,f,h,j,l,m,o,p,q,r,s,t,u,v,w,z,A,B,C,D,E,F,G,())).go H∧g.length=5
def a1v(x:pi.inp.den):dG:=⟨[(3,bM a1r (vF x) λ(_,_,a,i,_)=>(a-i).toNat),(11,og a1s (I7 x) (λ(_,_,_,i,_)=>(5-i).toNat) λ(_,_,_,i,_)=>[(16,bM a1t (sT x i) λ(_,_,_,_,_,_,a,j,_)=>(a-j).toNat)]),(30,bM a1u (xQ x) λ(_,a,i,_)=>(a-i).toNat)],[],[],[],0⟩
theorem kV{w:Wd}{k:Nat}(h:di w (k+2))(n:Int):∃y,fi w n y:=by
 obtain⟨b,c⟩:∃b,DJ w n b:=by
  refine⟨(Ab n ((cL w.lg.2.1 w.lg.2.1.length).map (·.1)) 0 w.al).map λa=>(a,0,()),by rw[List.map_map];exact(List.map_congr_left λ_ _=>rfl).trans (List.map_id _),?_⟩;intro e c;obtain⟨a,l,rfl⟩:=dY.1 c;exact vE (by omega) (by rw[h.al.1];omega) a l
 by_cases f:(fJ w n b).1.2=0
 ·by_cases j:(vZ w n b).1=0
  ·obtain⟨r,m⟩:=pU (rN h f (g:=t8 w.go b) (by rw[pV];exact h.go)) (gO (fJ w n b).1.1) (i:=0) (by omega);exact⟨_,b,c,by rw[ag (λg=>g f),ag (λg=>g j)];exact⟨r,m,rfl⟩⟩
  ·exact⟨_,b,c,by rw[ag (λg=>g f),an j]⟩
 ·exact⟨_,b,c,by rw[an f]⟩
abbrev pW(v:(Int×Int×Nw)×TA Unit):aN pi.out:=⟨0,v⟩
def I8:bu:=(37,[pi])::Q1
theorem UT:KK I8:=kA a1q a1v (∀(e:Int),WA λh i j k l m n o p q r s t u v w z a0 a1 a2 a3 a4 a5 a6 a7 a8 a9 f b0 b1 b2 b3 b4 b5=>let x:=(i,j,k,l,m,n,o,p,q,r,s,t,u,v,w,z,a0,a1,a2,a3,a4,a5,a6,a7,a8,a9,f,b0,b1,b2,b3,b4,b5,());∀(Q:aN pi.out→Prop),(Tr.need (1≤e∧e≤31∧∃e,di (cw (h,x)) (e+2)) (Tr.all ((Int×Int)×Wd) (fi (cw (h,x)) e) λy=>Tr.leaf (pW ((y.1.1,y.1.2,0,0,0,0,false,false,[],()),dO y.2)))).sat Q→bZ f∧Is (vF (e,h,x) (e,sF f 5,(↑(sF f 5).length:Int),0,h,i,j,k,l,m,n,o,p,q,r,s,t,u,v,w,z,a0,a1,a2,a3,a4,a5,a6,a7,a8,a9,f,b0,b1,b2,b3,b4,b5,(0,0,0,0,0,0,false,false,[],()),[0,0,0,0,0],()))∧∀(g7:Int)(b9:List (Int×Int×BL×Unit))(R c:Int),let z9:Prop:=(R-(c+1)).toNat<(R-c).toNat;let P:=b9.getD c.toNat (0,0,[],());WA λg8 g1 g9 h0 h1 h2 h3 h4 h5 h6 h7 h8 h9 i0 i1 i2 i3 i4 i5 i6 i7 i8 i9 j0 j1 L j2 j3 j4 j5 j6 j7 j8 j9=>∀(k0:Int×Int×Nw)(k1:List Int),vF (e,h,x) (g7,b9,R,c,g8,g1,g9,h0,h1,h2,h3,h4,h5,h6,h7,h8,h9,i0,i1,i2,i3,i4,i5,i6,i7,i8,i9,j0,j1,L,j2,j3,j4,j5,j6,j7,j8,j9,k0,k1,())→Br (decide (c<R)) ((0≤c∧c<(↑b9.length:Int))∧Br (P.1==0) (ae (c+1)∧Is (vF (e,h,x) (g7,b9,R,c+1,g8,g1,g9,h0,h1,h2,h3,h4,h5,h6,h7,h8,h9,i0,i1,i2,i3,i4,i5,i6,i7,i8,i9,j0,j1,L,j2,j3,j4,j5,j6,j7,j8,j9,k0,k1.set 0 P.2.1,())∧z9)) (Br (P.1==1) (ae (c+1)∧Is (vF (e,h,x) (g7,b9,R,c+1,g8,g1,g9,h0,h1,h2,h3,h4,h5,h6,h7,h8,h9,i0,i1,i2,i3,i4,i5,i6,i7,i8,i9,j0,j1,L,j2,j3,j4,j5,j6,j7,j8,j9,k0,k1.set 1 P.2.1,())∧z9)) (Br (P.1==2) (ae (c+1)∧Is (vF (e,h,x) (g7,b9,R,c+1,g8,g1,g9,h0,h1,h2,h3,h4,h5,h6,h7,h8,h9,i0,i1,i2,i3,i4,i5,i6,i7,i8,i9,j0,j1,L,j2,j3,j4,j5,j6,j7,j8,j9,k0,k1.set 2 P.2.1,())∧z9)) (Br (P.1==3) (ae (c+1)∧Is (vF (e,h,x) (g7,b9,R,c+1,g8,g1,g9,h0,h1,h2,h3,h4,h5,h6,h7,h8,h9,i0,i1,i2,i3,i4,i5,i6,i7,i8,i9,j0,j1,L,j2,j3,j4,j5,j6,j7,j8,j9,k0,k1.set 3 P.2.1,())∧z9)) (Br (P.1==4) (ae (c+1)∧Is (vF (e,h,x) (g7,b9,R,c+1,g8,g1,g9,h0,h1,h2,h3,h4,h5,h6,h7,h8,h9,i0,i1,i2,i3,i4,i5,i6,i7,i8,i9,j0,j1,L,j2,j3,j4,j5,j6,j7,j8,j9,k0,k1.set 4 P.2.1,())∧z9)) (False∧True)))))) (cu L.2.1 L.2.2.1∧Is (I7 (e,h,x) (g7,rU (λe=>e.1) (cL L.2.1 (↑(ac L.2.1):Int)),g1,0,g8,g1,g9,h0,h1,h2,h3,h4,h5,h6,h7,h8,h9,i0,i1,i2,i3,i4,i5,i6,i7,i8,i9,j0,j1,L,j2,j3,j4,j5,j6,j7,j8,j9,k0,k1,[],[],()))∧∀(n6:Int)(n7:List Int)(n9:List Mb)(A:Int),let o5:=bits BinOp.and gq (n6.fdiv (2^min A.toNat 64)) (1:Int)==1;WA λk2 k5 k6 H n8 k7 k8 k9 l0 l1 l2 l3 l4 l5 l6 l7 l8 l9 m0 m1 m2 m3 m4 m5 m6 K m7 m8 m9 n0 n1 n2 n3 n4=>let o2:=(m8,m9,n0,n1,n2,n3,n4,());let o3:=jg (af 8 115,[dx (H+1)],()) m7 n8;∀(o0:Int×Int×Nw)(o1:List Int)(k3:List Mb)(k4:List Fk),let z7:=(k2,k5,k6,H,n8,k7,k8,k9,l0,l1,l2,l3,l4,l5,l6,l7,l8,l9,m0,m1,m2,m3,m4,m5,m6,K,m7,m8,m9,n0,n1,n2,n3,n4,o0,o1,k3,k4,());I7 (e,h,x) (n6,n7,n9,A,z7)→Br (decide (A<5)) ((0≤A∧A<5)∧decide (0≤A)=true∧Br o5 ((k3.length+1)*56≤140737488355328∧ae (A+1)∧Is (I7 (e,h,x) (n6,n7,n9,A+1,k2,k5,k6,H,n8,k7,k8,k9,l0,l1,l2,l3,l4,l5,l6,l7,l8,l9,m0,m1,m2,m3,m4,m5,m6,K,m7,m8,m9,n0,n1,n2,n3,n4,o0,o1,k3++[n9.getD A.toNat (0,[],[],())],k4,())∧(5-(A+1)).toNat<(5-A).toNat)) (Is (sT (e,h,x) A (n6,n7,A,n9,A,n7,(↑n7.length:Int),0,z7))∧∀(D:Int)(B:List Int)(a:Int)(F:List Mb)(C:Int)(E:List Int)(g d:Int),let o6:=E.getD d.toNat 0==a;let z6:Prop:=(g-(d+1)).toNat<(g-d).toNat;WA λS U W X Y d0 d1 d2 d3 d4 d5 d6 d7 d8 d9 e0 e1 e2 e3 e4 e5 e6 e7 e8 e9 f0 f1 f2 f3 f6 J g2 g3 g4=>∀(g5:Int×Int×Nw)(M:List Int)(g6:List Mb)(f9:List Fk),let N:=f9.length+1;let z4:=(S,U,W,X,Y,d0,d1,d2,d3,d4,d5,d6,d7,d8,d9,e0,e1,e2,e3,e4,e5,e6,e7,e8,e9,f0,f1,f2,f3,f6,J,g2,g3,g4,g5,M,g6,f9,());sT (e,h,x) A (D,B,a,F,C,E,g,d,z4)→Br (decide (d<g)) ((0≤d∧d<(↑E.length:Int))∧Br o6 (Br (a==0) (N*16≤140737488355328∧ae (d+1)∧Is (sT (e,h,x) A (D,B,a,F,C,E,g,d+1,S,U,W,X,Y,d0,d1,d2,d3,d4,d5,d6,d7,d8,d9,e0,e1,e2,e3,e4,e5,e6,e7,e8,e9,f0,f1,f2,f3,f6,J,g2,g3,g4,g5,M,g6,f9++[(a,M.getD 0 0,())],())∧z6)) (Br (a==1) (N*16≤140737488355328∧ae (d+1)∧Is (sT (e,h,x) A (D,B,a,F,C,E,g,d+1,S,U,W,X,Y,d0,d1,d2,d3,d4,d5,d6,d7,d8,d9,e0,e1,e2,e3,e4,e5,e6,e7,e8,e9,f0,f1,f2,f3,f6,J,g2,g3,g4,g5,M,g6,f9++[(a,M.getD 1 0,())],())∧z6)) (Br (a==2) (N*16≤140737488355328∧ae (d+1)∧Is (sT (e,h,x) A (D,B,a,F,C,E,g,d+1,S,U,W,X,Y,d0,d1,d2,d3,d4,d5,d6,d7,d8,d9,e0,e1,e2,e3,e4,e5,e6,e7,e8,e9,f0,f1,f2,f3,f6,J,g2,g3,g4,g5,M,g6,f9++[(a,M.getD 2 0,())],())∧z6)) (Br (a==3) (N*16≤140737488355328∧ae (d+1)∧Is (sT (e,h,x) A (D,B,a,F,C,E,g,d+1,S,U,W,X,Y,d0,d1,d2,d3,d4,d5,d6,d7,d8,d9,e0,e1,e2,e3,e4,e5,e6,e7,e8,e9,f0,f1,f2,f3,f6,J,g2,g3,g4,g5,M,g6,f9++[(a,M.getD 3 0,())],())∧z6)) (Br (a==4) (N*16≤140737488355328∧ae (d+1)∧Is (sT (e,h,x) A (D,B,a,F,C,E,g,d+1,S,U,W,X,Y,d0,d1,d2,d3,d4,d5,d6,d7,d8,d9,e0,e1,e2,e3,e4,e5,e6,e7,e8,e9,f0,f1,f2,f3,f6,J,g2,g3,g4,g5,M,g6,f9++[(a,M.getD 4 0,())],())∧z6)) (False∧True)))))) (ae (d+1)∧Is (sT (e,h,x) A (D,B,a,F,C,E,g,d+1,z4)∧z6))) (ae (C+1)∧Is (I7 (e,h,x) (D,B,F,C+1,z4)∧(5-(C+1)).toNat<(5-A).toNat)))) ((m7.length≤4294967296∧0≤H∧H≤4294967296)∧∀(b:BL×List Tm×KV),let o4:=jg (af 8 115,[dx (H+1+1)],()) b.2.1 b.2.2;b=(jO (af 8 115,[dx (H+1)],()) o3.1,o3.2)→(b.2.1.length≤4294967296∧0≤H+1∧H+(1:Int)≤4294967296)∧∀(n5:BL×List Tm×KV),n5=(jO (af 8 115,[dx (H+1+1)],()) o4.1,o4.2)→(k3.length≤1000000∧k4.length≤1000000∧rr k3∧cu K.2.1 K.2.2.1∧ac K.2.1≤100000∧bU 40 n5.2.1)∧∀(G:(Et×Int)×List Tm×KV),G=r8 K ((k2.getD 0 (ak 2 [])).getD 1 []) b.1 n5.1 k3 k4 n5.2.1 n5.2.2→Br (!G.1.2==0) (Q (pW ((G.1.2,0,0,0,0,0,false,false,[],()),k2,k5,k6,H+1+1,G.2.2,k7,k8,k9,l0,l1,l2,l3,l4,l5,l6,l7,l8,l9,m0,m1,m2,m3,m4,m5,m6,K,G.2.1,o2))) ((aB K.1∧hK G.1.1∧ac (dL G.1.1)≤100000000∧aB G.1.1.2.2.2.2.2.2.1∧rr G.1.1.2.2.1∧cu K.2.1 K.2.2.1∧ac K.2.1≤100000∧bU 1 G.2.1)∧∀(b:Int×Lg×List Tm×KV),b=jU K G.1.1 G.2.1 G.2.2→Br (!b.1==0) (Q (pW ((b.1,0,0,0,0,0,false,false,[],()),k2,k5,k6,H+1+1,b.2.2.2,k7,k8,k9,l0,l1,l2,l3,l4,l5,l6,l7,l8,l9,m0,m1,m2,m3,m4,m5,m6,b.2.1,b.2.2.1,o2))) (Is (xQ (e,h,x) (k4,(↑k4.length:Int),0,k2,k5,k6,H+1+1,b.2.2.2,k7,k8,k9,l0,l1,l2,l3,l4,l5,l6,l7,l8,l9,m0,m1,m2,m3,m4,m5,m6,b.2.1,b.2.2.1,m8,m9,n0,n1,n2,n3,n4,o0,G.1.1,()))∧∀(D:List Fk)(B a:Int),let O:Prop:=(B-(a+1)).toNat<(B-a).toNat;let z5:=D.getD a.toNat (0,0,());WA λF C E g d S U W X Y d0 d1 d2 d3 d4 d5 d6 d7 d8 d9 e0 e1 e2 e3 e4 e5 e6 e7 e8 e9 f0 f1 f2 f3=>let z8:=cw (F,C,E,g,d,S,U,W,X,Y,d0,d1,d2,d3,d4,d5,d6,d7,d8,d9,e0,e1,e2,e3,e4,e5,e6,e7,e8,e9,f0,f1,f2,f3,());∀(f6:Int×Int×Nw)(J:Et),let z2:=(g,d,S,U,W,X,Y,d0,d1,d2,d3,d4,d5,d6,d7,d8,d9,e0,e1,e2,e3,e4,e5,e6,e7,e8,e9,f0,f1,f2,f3,f6,J,());xQ (e,h,x) (D,B,a,F,C,E,z2)→Br (decide (a<B)) ((0≤a∧a<(↑D.length:Int))∧Br (z5.1==0) (ae (a+1)∧Is (xQ (e,h,x) (D,B,a+1,F,C,E.set ((36-10-15-1-1-1-1-1-1-1-1-1-1-1)/1) true,z2)∧O)) (Br (z5.1==1) (ae (a+1)∧Is (xQ (e,h,x) (D,B,a+1,F,C,E.set ((37-10-15-1-1-1-1-1-1-1-1-1-1-1)/1) true,z2)∧O)) (Br (z5.1==2) (ae (a+1)∧Is (xQ (e,h,x) (D,B,a+1,F,C,E.set ((38-10-15-1-1-1-1-1-1-1-1-1-1-1)/1) true,z2)∧O)) (Br (z5.1==3) (ae (a+1)∧Is (xQ (e,h,x) (D,B,a+1,F,C,E.set ((39-10-15-1-1-1-1-1-1-1-1-1-1-1)/1) true,z2)∧O)) (Br (z5.1==4) (ae (a+1)∧Is (xQ (e,h,x) (D,B,a+1,F,C,E.set ((40-10-15-1-1-1-1-1-1-1-1-1-1-1)/1) true,z2)∧O)) (False∧True)))))) ((0+ac (gO J)≤1000000000∧hK J)∧((0:Int)≤0∧(0:Int)<5∧ac (gO J)≤10000000∧∃e,di z8 (e+1))∧∀(b:(Int×Nw)×Wd),jS z8 0 (gO J) b→(b.2.st.length≤1000000∧b.2.ln.length≤1000000)∧Q (pW ((0,(↑b.2.st.length:Int)+1,0,0,0,0,false,false,[],()),b.2.sec,b.2.al,b.2.go,b.2.d,b.2.m,(b.2.c0.c,b.2.c0.se,b.2.c0.sg,b.2.c0.lg,()),(b.2.c0.pg,b.2.c0.la,b.2.c0.fk,()),b.2.c0.km,(b.2.c1.c,b.2.c1.se,b.2.c1.sg,b.2.c1.lg,()),(b.2.c1.pg,b.2.c1.la,b.2.c1.fk,()),b.2.c1.km,(b.2.c2.c,b.2.c2.se,b.2.c2.sg,b.2.c2.lg,()),(b.2.c2.pg,b.2.c2.la,b.2.c2.fk,()),b.2.c2.km,(b.2.c3.c,b.2.c3.se,b.2.c3.sg,b.2.c3.lg,()),(b.2.c3.pg,b.2.c3.la,b.2.c3.fk,()),b.2.c3.km,(b.2.c4.c,b.2.c4.se,b.2.c4.sg,b.2.c4.lg,()),(b.2.c4.pg,b.2.c4.la,b.2.c4.fk,()),b.2.c4.km,b.2.k0,b.2.k1,b.2.k2,b.2.k3,b.2.k4,b.2.lg,b.2.ts,b.2.c0.bk,b.2.c1.bk,b.2.c2.bk,b.2.c3.bk,b.2.c4.bk,b.2.st++[gO J],b.2.ln++[0],())))))))) (by kernel_rfl) (by
 conv=>zeta
 unfold Br WA dO;intro n;refine Wd.all λw=>?_;intro Q ⟨⟨h1,h2,k,B⟩,hQ⟩;have B:di w (k+2):=B;have hq:∀y:(Int×Int)×Wd,fi w n y→Q ⟨0,((y.1.1,y.1.2,jh),y.2.sec,y.2.al,y.2.go,y.2.d,y.2.m,(cA y.2.c0),(bC y.2.c0),y.2.c0.km,(cA y.2.c1),(bC y.2.c1),y.2.c1.km,(cA y.2.c2),(bC y.2.c2),y.2.c2.km,(cA y.2.c3),(bC y.2.c3),y.2.c3.km,(cA y.2.c4),(bC y.2.c4),y.2.c4.km,y.2.k0,y.2.k1,y.2.k2,y.2.k3,y.2.k4,y.2.lg,y.2.ts,y.2.c0.bk,y.2.c1.bk,y.2.c2.bk,y.2.c3.bk,y.2.c4.bk,y.2.st,y.2.ln,())⟩:=λy h=>hQ y h;clear hQ;have O:=(B.cl 0 (by omega)).1.2.2.2.2.2.1;have hv:=H7 O
 have a5:∀h∈sF w.c0.bk 5,0≤h.1∧h.1<5:=by
  intro h hh;unfold sF at hh;obtain⟨a,ha,e⟩:=List.mem_filterMap.1 hh;have ha:a<5:=by simpa using ha
  split at e
  ·simp only[Option.some.injEq]at e;subst e;unfold fu;rw[ag (by omega)];dsimp only;omega
  ·simp at e
 refine⟨O,⟨rfl,rfl,a5,rfl,hv.1,rfl,by omega⟩,?_⟩;intro n1 v ln i;refine Wd.all λf=>?_;rintro sn li ⟨rfl,e1,e2,rfl,e3,e4,e5⟩;have e1:f=w:=e1;subst e1;refine⟨λF=>?_,λE=>?_⟩
 ·have hi:i.toNat<v.length:=by simp only[ah]at F;omega
  have hm:=e2 _ (aT (z:=((0,0,[],()):Hd)) hi);generalize v.getD i.toNat (0,0,[],())=H at*;have hI:ae (i+1):=by unfold ae;omega
  have M:∀(q:Nat)(x:Int),ae (i+1)∧Is (vF (n1,f.sec,f.al,f.go,f.d,f.m,(cA f.c0),(bC f.c0),f.c0.km,(cA f.c1),(bC f.c1),f.c1.km,(cA f.c2),(bC f.c2),f.c2.km,(cA f.c3),(bC f.c3),f.c3.km,(cA f.c4),(bC f.c4),f.c4.km,f.k0,f.k1,f.k2,f.k3,f.k4,f.lg,f.ts,f.c0.bk,f.c1.bk,f.c2.bk,f.c3.bk,f.c4.bk,f.st,f.ln,()) (n1,v,(v.length:Int),i+1,f.sec,f.al,f.go,f.d,f.m,(cA f.c0),(bC f.c0),f.c0.km,(cA f.c1),(bC f.c1),f.c1.km,(cA f.c2),(bC f.c2),f.c2.km,(cA f.c3),(bC f.c3),f.c3.km,(cA f.c4),(bC f.c4),f.c4.km,f.k0,f.k1,f.k2,f.k3,f.k4,f.lg,f.ts,f.c0.bk,f.c1.bk,f.c2.bk,f.c3.bk,f.c4.bk,f.st,f.ln,sn,li.set q x,())∧((v.length:Int)-(i+1)).toNat<((v.length:Int)-i).toNat):=λq x=>⟨hI,⟨rfl,rfl,e2,rfl,e3,by rw[cz];exact e4,by omega⟩,by omega⟩;refine⟨by omega,λ_=>M 0 _,λg0=>⟨λ_=>M 1 _,λg1=>⟨λ_=>M 2 _,λg2=>⟨λ_=>M 3 _,λg3=>⟨λ_=>M 4 _,λg4=>?_⟩⟩⟩⟩⟩;exfalso;simp only[ax,ne_eq]at g0 g1 g2 g3 g4;omega
 clear E e5 hv a5 e2 e3;have P:=B.al
 have a0:((cL f.lg.2.1 f.lg.2.1.length).map (·.1)).length≤5:=by
  rw[bT];unfold cL;split
  ·simp
  ·exact B.l5 _ (aT (by omega))
 refine⟨B.lg.1,⟨rfl,rfl,rfl,rfl,e4,0,rfl,by omega,aq _,aq _,rfl,rfl⟩,?_⟩;intro C D al i2;refine Wd.all λp=>?_;rintro c6 c7 ms K ⟨rfl,e6,X,Y,e9,q,rfl,c8,hm,he,A,s⟩;have e6:p=f:=e6;subst e6;have Y:al=p.al:=Y;have X:D=(cL p.lg.2.1 p.lg.2.1.length).map (·.1):=X;rw[←X]at a0;rw[←Y]at P;refine⟨λF=>?_,λE=>?_⟩
 ·have hk:q<5:=by simp only[ah]at F;omega
  have b2:decide (0≤(q:Int))=true:=decide_eq_true (by omega);have hI:ae ((q:Int)+1):=by unfold ae;omega
  have hL:q*D.length≤5*D.length:=Nat.mul_le_mul_right _ (by omega);have hS:(q+1)*D.length=q*D.length+D.length:=Nat.succ_mul _ _;rw[cW (z:=((0,[],[],()):Mb)) (show q<al.length by rw[P.1];exact hk)]at A s;simp only[vY,Ab]at A s;rw[show((q:Int).toNat)=q by omega];refine⟨⟨by omega,by omega⟩,b2,λg=>?_,λg=>⟨?_,?_⟩⟩
  ·have g:UR C q=true:=by unfold UR;rw[show((q:Int).toNat)=q by omega];exact g
   rw[an g]at A s;exact⟨by omega,hI,⟨rfl,rfl,X,Y,e9,q+1,rfl,by omega,by rw[aa,bb];omega,by omega,by rw[ay];exact A,s⟩,by omega⟩
  ·have g:UR C q=false:=by unfold UR;rw[show((q:Int).toNat)=q by omega];exact g
   rw[ag (by rw[g];decide)]at A s;exact⟨rfl,rfl,X,Y,e9,rfl,rfl,rfl,rfl,q,0,rfl,hk,rfl,aq _,g,hm,he,A,by rw[ay];exact s⟩
  ·clear A s he hm g;intro n3 c5 id b3 i3 u c9 j;refine Wd.all λo=>?_;rintro b4 b5 b6 a6 ⟨rfl,a1,R,a2,a3,rfl,b7,rfl,rfl,S,r,a7,a8,rfl,hr,g,hm,he,A,s⟩;have a1:o=p:=a1;subst a1;have b8:S=q:=by have:(S:Int)=q:=a7.symm.trans b7;omega
   subst b8;subst a7;have ew:u=D:=R.trans X.symm;rw[←ew]at a0 hL hS;rw[show((r:Int).toNat)=r by omega];refine⟨λF=>?_,λE=>?_⟩
   ·have G:r<u.length:=by simp only[ah]at F;omega
    have U:ae ((r:Int)+1):=by unfold ae;omega
    rw[cW (z:=(0:Int)) G,List.filter_cons]at s;refine⟨by omega,λc=>?_,λc=>?_⟩
    ·rw[an c,aX]at s
     have M:∀x:Int,(a6.length+1)*16≤140737488355328∧ae ((r:Int)+1)∧Is (sT (n3,o.sec,o.al,o.go,o.d,o.m,(cA o.c0),(bC o.c0),o.c0.km,(cA o.c1),(bC o.c1),o.c1.km,(cA o.c2),(bC o.c2),o.c2.km,(cA o.c3),(bC o.c3),o.c3.km,(cA o.c4),(bC o.c4),o.c4.km,o.k0,o.k1,o.k2,o.k3,o.k4,o.lg,o.ts,o.c0.bk,o.c1.bk,o.c2.bk,o.c3.bk,o.c4.bk,o.st,o.ln,()) (S:Int) (n3,u,(S:Int),b3,(S:Int),u,(u.length:Int),(r:Int)+1,o.sec,o.al,o.go,o.d,o.m,(cA o.c0),(bC o.c0),o.c0.km,(cA o.c1),(bC o.c1),o.c1.km,(cA o.c2),(bC o.c2),o.c2.km,(cA o.c3),(bC o.c3),o.c3.km,(cA o.c4),(bC o.c4),o.c4.km,o.k0,o.k1,o.k2,o.k3,o.k4,o.lg,o.ts,o.c0.bk,o.c1.bk,o.c2.bk,o.c3.bk,o.c4.bk,o.st,o.ln,b4,b5,b6,a6++[((S:Int),x,())],())∧((u.length:Int)-((r:Int)+1)).toNat<((u.length:Int)-(r:Int)).toNat):=λx=>
      ⟨by omega,U,⟨rfl,rfl,R,a2,a3,rfl,rfl,rfl,rfl,S,r+1,rfl,a8,rfl,G,g,hm,by rw[aa,bb];omega,A,by rw[dl,ay,ay];rw[ay]at s;exact s⟩,by omega⟩
     refine⟨λ_=>M _,λg0=>⟨λ_=>M _,λg1=>⟨λ_=>M _,λg2=>⟨λ_=>M _,λg3=>⟨λ_=>M _,λg4=>?_⟩⟩⟩⟩⟩;exfalso;simp only[ax,ne_eq]at g0 g1 g2 g3 g4;omega
    ·rw[ag (by rw[c];decide)]at s;exact⟨U,⟨rfl,rfl,R,a2,a3,rfl,rfl,rfl,rfl,S,r+1,rfl,a8,rfl,G,g,hm,by omega,A,s⟩,by omega⟩
   ·have hd:u.drop r=[]:=bw (by simp only[aj]at E;omega);rw[hd,List.filter_nil,List.map_nil,bj]at s;exact⟨hI,⟨rfl,rfl,R,a2,a3,S+1,rfl,by omega,by omega,by omega,A,s⟩,by omega⟩
 ·have a9:q=5:=by simp only[aj]at E;omega
  subst a9;have hd:al.drop 5=[]:=bw (by rw[P.1];omega);rw[hd]at A s;have A:ms=vY C 0 p.al:=by rw[←Y,←A];simp[vY]
  have s:K.map (·.1)=Ab C D 0 p.al:=by rw[←Y,←s];simp[Ab]
  have hg:DJ p C K:=⟨by rw[s,X],λe he=>vE (l:=p.al) (i:=0) (was:=D) (n:=C) (by omega) (by rw[←Y,P.1];omega) e.1 (by rw[←s];exact fe he)⟩;have b9:K.length≤25:=by omega
  clear E hd a0 he e4 e9;have s1:=ol (k:=10000*(k+1)+10141) p.m (B.ts.mono (by omega)) (fA (p.d+1));have s2:=ol (k:=10000*(k+1)+10140) (Q2 p).2.2 s1 (fA (p.d+1+1));have b0:=B.dr;refine⟨⟨B.ts.le,b0.1,by omega⟩,λb O=>?_⟩;have O:b=Q2 p:=O;subst O;refine⟨⟨s1.le,by omega,by omega⟩,λb O=>?_⟩;have O:b=Ea p:=O;subst O;refine⟨⟨by omega,by omega,by rw[A];exact λx hx=>B.al.2 x (oF hx),B.lg.1,B.lg.2.1,s2.mono (by omega)⟩,λz hz=>?_⟩;have hz:z=fJ p C K:=by rw[A]at hz;exact hz
  subst hz;have W:=rM B C K;refine⟨λe=>hq (((fJ p C K).1.2,0),p.su (p.d+1+1) (fJ p C K).2) ⟨K,hg,by rw[an (jC e)]⟩,λe=>?_⟩;have N:=aD.1 (jX e);have b1:=W.2 N;obtain⟨o1,o2,o3,o4,o5,o6,o7⟩:=b1.1;refine⟨⟨B.lg.2.2,o1,o2,o4,o5,B.lg.1,B.lg.2.1,W.1.mono (by omega)⟩,λt ht=>?_⟩;have ht:t=vZ p C K:=ht;subst ht;refine⟨λe=>hq (((vZ p C K).1,0),p.mb C K p.go) ⟨K,hg,by rw[ag (λq=>q N),an (jC e)]⟩,λe=>?_⟩;have J:=aD.1 (jX e);refine⟨⟨hg,N,J,rfl,rfl,0,p.go,rfl,aq _,rfl,rfl,B.go⟩,?_⟩;clear hg s1 s2 W b1 o1 o2 o3 o4 o5 o6 o7 A s e X b9 N J b0;intro L d0 i4;refine Wd.all λw4=>?_;rintro d1 e4 ⟨hg,N,J,A,rfl,r,g,rfl,hr,s,f3,f4⟩;have s:w4=p.mb C L g:=s;have N:(fJ p C L).1.2=0:=N;have J:(vZ p C L).1=0:=J;have A:e4=(fJ p C L).1.1:=A;have W:=(rM B C L).2 N;rw[←A]at W;rw[show((r:Int).toNat)=r by omega];have d2:L.length≤1000000:=by have:=(gw W.2.2).2.2.1;omega
  refine⟨λF=>?_,λE=>?_⟩
  ·have G:r<L.length:=by simp only[ah]at F;omega
   have U:ae ((r:Int)+1):=by unfold ae;omega
   have hm:=hg.2 _ (aT (z:=((0,0,()):Fk)) G);rw[cW (z:=((0,0,()):Fk)) G]at f3;simp only[t8]at f3;generalize L.getD r (0,0,())=H at*;refine⟨by omega,λc=>?_,λg0=>⟨λc=>?_,λg1=>⟨λc=>?_,λg2=>⟨λc=>?_,λg3=>⟨λc=>?_,λg4=>?_⟩⟩⟩⟩⟩
   case refine_6=>exfalso;simp only[ax,ne_eq]at g0 g1 g2 g3 g4;omega
   all_goals
    rw[be c]at f3;subst s;exact⟨U,⟨hg,N,J,A,rfl,r+1,_,rfl,G,rfl,f3,by rw[cz];exact f4⟩,by omega⟩
  ·have hd:L.drop r=[]:=bw (by simp only[aj]at E;omega);rw[hd]at f3;have f3:g=t8 p.go L:=f3;subst f3;have hw:=rN B (n:=C) (es:=L) N f4;rw[←s]at hw;refine⟨⟨by have:=W.2.1;omega,W.1.1⟩,⟨by omega,by omega,by have:=W.2.1;omega,k,hw⟩,λy hy=>?_⟩;have hy:jS w4 0 (gO e4) y:=hy;have a4:=jc hw (by omega) hy;refine⟨⟨by have:=a4.st.1;omega,by have:=a4.st.1;have:=a4.st.2.1;omega⟩,?_⟩
   have:=hq ((0,(y.2.st.length:Int)+1),{y.2 with st:=y.2.st++[gO e4],ln:=y.2.ln++[0]}) ⟨L,hg,by
    rw[ag (λq=>q N),ag (λq=>q J),←A,←s];exact⟨y,hy,rfl⟩⟩
   exact this) (l:=λ_=>aR λh=>by obtain⟨_,_,k,h⟩:=h;exact kV h _)
abbrev I9:Ty:= .pr .i64 (.pr .i64 (.pr .i64 (.pr .i64 (.pr .i64 (.pr .i64 (.pr .st SR))))))
abbrev lw:=I9.den
def Wc(i:Nat):Nat×Bool×List IP:=(i,true,[.d I9])
def Wd.keep(w:Wd)(b:BL)(n:Int):Wd:={w with st:=w.st++[b],ln:=w.ln++[n]}
abbrev Ad:=(Int×Int)×Wd
def Ec(w:Wd)(b:BL)(n:Int):Ad:=((0,(w.st.length:Int)+1),w.keep b n)
def xR(w:Wd)(s:lw):Ad:=
 if s.2.2.2.1<1∨w.st.length<s.2.2.2.1∨400≤w.st.length∨s.2.2.1<0∨((w.st.getD (s.2.2.2.1-1).toNat []).length:Int)≤s.2.2.1 then((26,0),w)
 else if s.1=9 then Ec w ((w.st.getD (s.2.2.2.1-1).toNat []).take s.2.2.1.toNat) 0
 else Ec w ((w.st.getD (s.2.2.2.1-1).toNat []).set s.2.2.1.toNat ((w.st.getD (s.2.2.2.1-1).toNat []).getD s.2.2.1.toNat 0^^^bc 8 s.2.2.2.2.2.1)) 0
def MB:Ct:=⟨2,⟨[sP 0,Wc 1],jK⟩,[⟨[(0,true,[.d D9])],IJ 33++pT 33⟩],λ(s,F,G,H,J,K,L,M,N,O,e,f,g,h,i,j,l,n,o,p,q,r,t,u,v,w,x,z,A,B,C,D,E,a,c,_)=>du (a.length≤1000∧c.length≤1000∧∀b∈a,b.length≤2000000) (xR (cw (F,G,H,J,K,L,M,N,O,e,f,g,h,i,j,l,n,o,p,q,r,t,u,v,w,x,z,A,B,C,D,E,a,c,())) s) λy=>((y.1.1,y.1.2,jh),y.2.sec,y.2.al,y.2.go,y.2.d,y.2.m,(cA y.2.c0),(bC y.2.c0),y.2.c0.km,(cA y.2.c1),(bC y.2.c1),y.2.c1.km,(cA y.2.c2),(bC y.2.c2),y.2.c2.km,(cA y.2.c3),(bC y.2.c3),y.2.c3.km,(cA y.2.c4),(bC y.2.c4),y.2.c4.km,y.2.k0,y.2.k1,y.2.k2,y.2.k3,y.2.k4,y.2.lg,y.2.ts,y.2.c0.bk,y.2.c1.bk,y.2.c2.bk,y.2.c3.bk,y.2.c4.bk,y.2.st,y.2.ln,())⟩
abbrev vG(v:(Int×Int×Nw)×TA Unit):aN MB.out:=⟨0,v⟩
def BR:bu:=(42,[MB])::I8
theorem BS:KK BR:=kA UT (cv MB 0) (∀(a:Int×Int×Int×Int×Int×Int×BL×Lt),let x:=a.2.2.2.1-1;let E:=Int.toNat a.2.2.1;WA λe f g h i j k l m n o p q r s t u v w z F G H J K L M N O P R S c d=>let W:Prop:=c.length≤1000000∧d.length≤1000000;let X:Prop:=0≤a.2.2.2.1-1∧a.2.2.2.1-1<(↑c.length:Int);let A:Prop:=400≤c.length;let Y:=(f,g,h,i,j,k,l,m,n,o,p,q,r,s,t,u,v,w,z,F,G,H,J,K,L,M,N,O,P,R,S,c,d,());let B:=c.getD x.toNat [];let U:Prop:=(↑B.length:Int)≤a.2.2.1;let z7:Prop:=0≤a.2.2.1∧a.2.2.1<(↑B.length:Int);let C:= !decide (1≤a.2.2.2.1∧a.2.2.2.1≤(↑c.length:Int));let D:=vG ((26,0,0,0,0,0,false,false,[],()),e,Y);∀(Q:aN MB.out→Prop),(Tr.need (c.length≤1000∧d.length≤1000∧∀(b:BL),b∈c→b.length≤2000000) (Tr.all Ad (λy=>y=xR (cw (e,Y)) a) λy=>Tr.leaf (vG ((y.1.1,y.1.2,0,0,0,0,false,false,[],()),dO y.2)))).sat Q→True∧Br C (C=true∧C=true∧Q D) (C=false∧True∧C=false∧Br (decide A) (decide A=true∧decide A=true∧decide A=true∧Q D) (decide A=false∧decide A=false∧decide A=false∧Br (decide (a.2.2.1<0)) (decide (a.2.2.1<0)=true∧decide (a.2.2.1<0)=true∧decide (a.2.2.1<0)=true∧decide (a.2.2.1<0)=true∧decide (a.2.2.1<0)=true∧decide (a.2.2.1<0)=true∧decide (a.2.2.1<0)=true∧decide (a.2.2.1<0)=true∧decide (a.2.2.1<0)=true∧decide (a.2.2.1<0)=true∧decide (a.2.2.1<0)=true∧decide (a.2.2.1<0)=true∧decide (a.2.2.1<0)=true∧Q D) (decide (a.2.2.1<0)=false∧decide (a.2.2.1<0)=false∧decide (a.2.2.1<0)=false∧decide (a.2.2.1<0)=false∧decide (a.2.2.1<0)=false∧decide (a.2.2.1<0)=false∧decide (a.2.2.1<0)=false∧decide (a.2.2.1<0)=false∧ae x∧decide (a.2.2.1<0)=false∧X∧decide (a.2.2.1<0)=false∧decide (a.2.2.1<0)=false∧decide (a.2.2.1<0)=false∧decide (a.2.2.1<0)=false∧Br (decide U) (Q D) (ae x∧X∧(0+B.length)*1≤140737488355328∧Br (a.1==9) (((0:Int)≤0∧0≤a.2.2.1∧a.2.2.1=a.2.2.1∧a.2.2.1≤(↑B.length:Int))∧W∧Q (vG ((0,(↑c.length:Int)+1,0,0,0,0,false,false,[],()),e,f,g,h,i,j,k,l,m,n,o,p,q,r,s,t,u,v,w,z,F,G,H,J,K,L,M,N,O,P,R,S,c++[cS E B],d++[0],()))) (z7∧z7∧W∧Q (vG ((0,(↑c.length:Int)+1,0,0,0,0,false,false,[],()),e,f,g,h,i,j,k,l,m,n,o,p,q,r,s,t,u,v,w,z,F,G,H,J,K,L,M,N,O,P,R,S,c++[B.set E (B.getD E (af 8 0)^^^bc 8 a.2.2.2.2.2.1)],d++[0],())))))))) (by kernel_rfl) (by
 conv=>zeta
 unfold Br WA dO;intro s;refine Wd.all λw=>?_;intro Q ⟨⟨t,u,q⟩,n⟩;have c:∀y:Ad,xR w s=y→Q ⟨0,((y.1.1,y.1.2,jh),y.2.sec,y.2.al,y.2.go,y.2.d,y.2.m,(cA y.2.c0),(bC y.2.c0),y.2.c0.km,(cA y.2.c1),(bC y.2.c1),y.2.c1.km,(cA y.2.c2),(bC y.2.c2),y.2.c2.km,(cA y.2.c3),(bC y.2.c3),y.2.c3.km,(cA y.2.c4),(bC y.2.c4),y.2.c4.km,y.2.k0,y.2.k1,y.2.k2,y.2.k3,y.2.k4,y.2.lg,y.2.ts,y.2.c0.bk,y.2.c1.bk,y.2.c2.bk,y.2.c3.bk,y.2.c4.bk,y.2.st,y.2.ln,())⟩:=λy e=>n y e.symm;clear n;unfold xR at c;have bad:(s.2.2.2.1<1∨(w.st.length:Int)<s.2.2.2.1∨400≤w.st.length∨s.2.2.1<0∨((w.st.getD (s.2.2.2.1-1).toNat []).length:Int)≤s.2.2.1)→Q ⟨0,((26,0,jh),w.sec,w.al,w.go,w.d,w.m,(cA w.c0),(bC w.c0),w.c0.km,(cA w.c1),(bC w.c1),w.c1.km,(cA w.c2),(bC w.c2),w.c2.km,(cA w.c3),(bC w.c3),w.c3.km,(cA w.c4),(bC w.c4),w.c4.km,w.k0,w.k1,w.k2,w.k3,w.k4,w.lg,w.ts,w.c0.bk,w.c1.bk,w.c2.bk,w.c3.bk,w.c4.bk,w.st,w.ln,())⟩:=λh=>c ((26,0),w) (an h);refine⟨trivial,λe=>⟨e,e,bad ?_⟩,λe=>⟨e,trivial,e,λb=>⟨b,b,b,bad (.inr (.inr (.inl (ai b))))⟩,λb=>⟨b,b,b,λa=>⟨a,a,a,a,a,a,a,a,a,a,a,a,a,bad (.inr (.inr (.inr (.inl (ai a)))))⟩,λa=>?_⟩⟩⟩
 ·have e:¬(1≤s.2.2.2.1∧s.2.2.2.1≤(w.st.length:Int)):=λh=>by rw[decide_eq_true h]at e;cases e
  rcases Decidable.em (s.2.2.2.1<1)with g|g
  ·exact .inl g
  ·exact .inr (.inl (by omega))
 ·have e:1≤s.2.2.2.1∧s.2.2.2.1≤(w.st.length:Int):=by
   cases h:decide (1≤s.2.2.2.1∧s.2.2.2.1≤(w.st.length:Int))with
   |true=>exact ai h
   |false=>rw[h]at e;cases e
  have i:=am b;have r:=am a;have o:ae (s.2.2.2.1-1):=by unfold ae;omega
  have p:0≤s.2.2.2.1-1∧s.2.2.2.1-1<(w.st.length:Int):=by omega
  have v:=q _ (aT (z:=([]:BL)) (show(s.2.2.2.1-1).toNat<w.st.length by omega));refine⟨a,a,a,a,a,a,a,a,o,a,p,a,a,a,a,λf=>bad (.inr (.inr (.inr (.inr (ai f))))),λf=>?_⟩;have f:=am f
  have no:¬(s.2.2.2.1<1∨(w.st.length:Int)<s.2.2.2.1∨400≤w.st.length∨s.2.2.1<0∨((w.st.getD (s.2.2.2.1-1).toNat []).length:Int)≤s.2.2.1):=by
   rintro(g|g|g|g|g)
   ·omega
   ·omega
   ·exact i g
   ·omega
   ·omega
  rw[ag no]at c;refine⟨o,p,by omega,λj=>⟨⟨by omega,by omega,rfl,by omega⟩,⟨by omega,by omega⟩,c _ (an (be j))⟩,λj=>⟨⟨by omega,by omega⟩,⟨by omega,by omega⟩,⟨by omega,by omega⟩,c _ (ag (aA j))⟩⟩) (l:=λ_=>bm)
theorem UU{b:BL}(a:bP b 0):jw (mN b true (0,0)).1:=by
 have c:jw (J9 b true (0,0)).1:=
  ⟨bA (mL true _ 64 (eD true _ 1 1048576 (eD true _ 1 65536 (eD true _ 0 4 (eD true 0 2 4 a).1).1).1).1).2.2 (by decide),
   bA (mL true _ 4112 (mL true _ 64 (eD true _ 1 1048576 (eD true _ 1 65536 (eD true _ 0 4 (eD true 0 2 4 a).1).1).1).1).1).2.2 (by decide),
   bA (mL true _ 64 (mL true _ 4112 (mL true _ 64 (eD true _ 1 1048576 (eD true _ 1 65536 (eD true _ 0 4 (eD true 0 2 4 a).1).1).1).1).1).1).2.2 (by decide)⟩
 unfold mN;rw[ck];dsimp only;generalize J9 b true (0,0)=z at*;rcases Decidable.em ((if true=true then(if mM z.1=true then z.2.2 else if(true&&z.2.2==0)=true then 5 else z.2.2)else 5)=0)with g|g
 ·rw[an g];exact c
 ·rw[ag g];exact⟨aq _,aq _,aq _⟩
def MC(w:Wd)(i:Nat)(b:BL):Int:=((sG ((aU .i64 (mN b true (0,0)).1.2.2.1 (w.ky i)).getD []) (mN b true (0,0)).1 (gv w.ts).1 (gv w.ts).2).1.1.length:Int)
def DK:Ct:=⟨3,⟨[sP 0,sI 1,sB 2],jK⟩,[⟨[sI 0],jK⟩],λ(i,b,E,F,G,H,J,K,L,M,N,c,e,f,g,h,j,l,m,n,o,p,q,r,s,t,u,v,a,w,x,z,A,B,C,D,_)=>du (0≤i∧i<5∧b.length≤1000000∧bU 10 a) (MC (cw (E,F,G,H,J,K,L,M,N,c,e,f,g,h,j,l,m,n,o,p,q,r,s,t,u,v,a,w,x,z,A,B,C,D,())) i.toNat b) λy=>(y,E,F,G,H,J,K,L,M,N,c,e,f,g,h,j,l,m,n,o,p,q,r,s,t,u,v,a,w,x,z,A,B,C,D,())⟩
abbrev oG(v:Int×TA Unit):aN DK.out:=⟨0,v⟩
theorem UV:hJ Tryz.prog BR 79 DK λ_=>⟨[],[],[],[(2,1,5)],0⟩:=by
 have e:(hJ Tryz.prog BR 79 DK λ_=>⟨[],[],[],[(2,1,5)],0⟩)=
  (∀(x:Int)(Y:BL)(N:List (List BL))(O:List Mb)(P:List Bool)(R:Int)(S:KV)(U:Int×BL×BL×Lg×Unit)(W:Pg×La×List Fk×Unit)(X:KM)(o:Int×BL×BL×Lg×Unit)(p:Pg×La×List Fk×Unit)(q:KM)(r:Int×BL×BL×Lg×Unit)(s:Pg×La×List Fk×Unit)(t:KM)(u:Int×BL×BL×Lg×Unit)(v:Pg×La×List Fk×Unit)(A:KM)(B:Int×BL×BL×Lg×Unit)(C:Pg×La×List Fk×Unit)(D f g h j n:KM)(E:Lg)(a:List Tm)(F G H J K:Ln)(L:List BL)(M:List Int)(Q:aN DK.out→Prop),(Tr.need (0≤x∧x<5∧Y.length≤1000000∧bU 10 a) (Tr.all Int (λy=>y=MC (cw (N,O,P,R,S,U,W,X,o,p,q,r,s,t,u,v,A,B,C,D,f,g,h,j,n,E,a,F,G,H,J,K,L,M,())) x.toNat Y) λy=>Tr.leaf (oG (y,N,O,P,R,S,U,W,X,o,p,q,r,s,t,u,v,A,B,C,D,f,g,h,j,n,E,a,F,G,H,J,K,L,M,())))).sat Q→Y.length≤1099511627776∧bP Y 0∧∀(b:Lt×Int×Int),b=mN Y true (0,0)→(0≤x∧x<5)∧((((True∧(x=0→fg a∧(jw b.fst∧bU 1 (gv a).fst)∧∀(c:(BL×Int)×List Tm×KV),c=sG ((aU Ty.i64 b.fst.snd.snd.fst f).getD []) b.fst (gv a).fst (gv a).snd→Q (oG ((↑(ac c.fst.fst):Int),N,O,P,R,S,U,W,X,o,p,q,r,s,t,u,v,A,B,C,D,f,g,h,j,n,E,a,F,G,H,J,K,L,M,()))))∧(x=1→fg a∧(jw b.fst∧bU 1 (gv a).fst)∧∀(c:(BL×Int)×List Tm×KV),c=sG ((aU Ty.i64 b.fst.snd.snd.fst g).getD []) b.fst (gv a).fst (gv a).snd→Q (oG ((↑(ac c.fst.fst):Int),N,O,P,R,S,U,W,X,o,p,q,r,s,t,u,v,A,B,C,D,f,g,h,j,n,E,a,F,G,H,J,K,L,M,()))))∧(x=2→fg a∧(jw b.fst∧bU 1 (gv a).fst)∧∀(c:(BL×Int)×List Tm×KV),c=sG ((aU Ty.i64 b.fst.snd.snd.fst h).getD []) b.fst (gv a).fst (gv a).snd→Q (oG ((↑(ac c.fst.fst):Int),N,O,P,R,S,U,W,X,o,p,q,r,s,t,u,v,A,B,C,D,f,g,h,j,n,E,a,F,G,H,J,K,L,M,()))))∧(x=3→fg a∧(jw b.fst∧bU 1 (gv a).fst)∧∀(c:(BL×Int)×List Tm×KV),c=sG ((aU Ty.i64 b.fst.snd.snd.fst j).getD []) b.fst (gv a).fst (gv a).snd→Q (oG ((↑(ac c.fst.fst):Int),N,O,P,R,S,U,W,X,o,p,q,r,s,t,u,v,A,B,C,D,f,g,h,j,n,E,a,F,G,H,J,K,L,M,()))))∧(x=4→fg a∧(jw b.fst∧bU 1 (gv a).fst)∧∀(c:(BL×Int)×List Tm×KV),c=sG ((aU Ty.i64 b.fst.snd.snd.fst n).getD []) b.fst (gv a).fst (gv a).snd→Q (oG ((↑(ac c.fst.fst):Int),N,O,P,R,S,U,W,X,o,p,q,r,s,t,u,v,A,B,C,D,f,g,h,j,n,E,a,F,G,H,J,K,L,M,())))):=by kernel_rfl
 refine Wr e ?_;clear e;intro i b;refine Wd.all λw=>?_;intro Q ⟨⟨h1,h2,h3,h4⟩,hQ⟩;have hq:∀y,MC w i.toNat b=y→Q ⟨0,(y,w.sec,w.al,w.go,w.d,w.m,(cA w.c0),(bC w.c0),w.c0.km,(cA w.c1),(bC w.c1),w.c1.km,(cA w.c2),(bC w.c2),w.c2.km,(cA w.c3),(bC w.c3),w.c3.km,(cA w.c4),(bC w.c4),w.c4.km,w.k0,w.k1,w.k2,w.k3,w.k4,w.lg,w.ts,w.c0.bk,w.c1.bk,w.c2.bk,w.c3.bk,w.c4.bk,w.st,w.ln,())⟩:=λy e=>hQ y e.symm;clear hQ;have hr:bP b 0:=⟨by omega,by omega,by omega⟩;have hc:=I5 h4.1;refine⟨by omega,hr,λl hl=>?_⟩;have hs:jw l.1:=by rw[hl];exact UU hr
 have hk:bU 1 (gv w.ts).1:=⟨hc.1,by have:=hc.2;have:=h4.2;omega⟩;unfold MC at hq;rw[←hl]at hq;refine⟨⟨h1,h2⟩,⟨⟨⟨⟨trivial,λe=>⟨h4.ok,⟨hs,hk⟩,λz hz=>?_⟩⟩,λe=>⟨h4.ok,⟨hs,hk⟩,λz hz=>?_⟩⟩,λe=>⟨h4.ok,⟨hs,hk⟩,λz hz=>?_⟩⟩,λe=>⟨h4.ok,⟨hs,hk⟩,λz hz=>?_⟩⟩,λe=>⟨h4.ok,⟨hs,hk⟩,λz hz=>?_⟩⟩
 all_goals
  subst e hz;exact hq _ rfl
theorem UW:bO Tryz.prog 79 DK:=dq BS.1 BS.2 sE (by kernel_rfl) UV
def BT:bu:=(79,[DK])::BR
theorem xS:KK BT:=⟨aP.add BS.1 (by kernel_rfl) (bo (UW)),bg.add BS.2 (bo (λ_=>bm))⟩
abbrev Md:=Int×Bool×Unit
def Ed(e:Et):Et:=(e.1,[],e.2.2.1,e.2.2.2.1,[],[],[],())
def DL(w:Wd)(md:List Md)(t:Tm):Prop:=∃(n:Nat)(e:Et)(d:BL),w.st[n]?=some (gO e)∧md[n]?=some (0,true,())∧lD e=true∧t=(103,[w.se 0 1,dL e],())∧Nm w.ts e.2.2.2.2.2.2.1 t∧w.lg.2.1[(e.1-1).toNat]?=some (Ed e)∧w.lg.2.2.1[(e.1-1).toNat]?=some d∧Nm w.ts d (104,[dL e],())
def DM(w:Wd)(md:List Md)(t:Tm):Prop:=∃(n:Nat)(l:Lt)(a:Nat)(b:Bool)(c:BL),w.st[n]?=some (hX l)∧md[n]?=some ((a:Int),b,())∧mM l=true∧a<5∧t=(103,[w.se a 1,eg l++tx c],())∧Nm w.ts c (104,[l.2.2.2.2.2.1],())∧Nm w.ts l.2.2.2.2.2.2.1 t∧(b=true∧l.2.1=a∨b=false∧w.go.getD a false=true)
def DN(w:Wd)(t:Tm):Prop:=∃(l:Lt)(a:Nat)(b:BL)(lk:Lk),a<5∧yc l∧l.1=2∧t=(103,[w.se a 1,eg l++tx b],())∧b.length=32∧pw lk=true∧Nm w.ts l.2.2.2.2.1 (104,[D4 lk],())∧l.2.2.1<lk.2.2.1
def sf(w:Wd)(ts:List Tm)(c:Cl):Prop:=(∃k,c.lg=(w.lg.1,w.lg.2.1.take k,w.lg.2.2.1.take k,()))∧zW ts c.bk
structure Au(w:Wd)(md:List Md):Prop where
 su:Gc w.ts w.m
 sc:∀a j:Nat,a<5→j<2→Nm w.ts (w.se a j) (115,[dx ((2*a+j+1:Nat):Int)],())
 al:∀p∈w.al,∃(a:Nat)(x y:BL),a<5∧p=((a:Int),x,y,())∧Nm w.ts x (112,[w.se a 0],())∧Nm w.ts y (118,[w.se a 1],())
 adm:Nm w.ts w.lg.1 (118,[w.se 0 1],())
 es:∀(i:Nat)(e:Et),w.lg.2.1[i]?=some e→e.1=(i:Int)+1∧∀p∈e.2.2.1,p∈w.al
 cl:∀i:Nat,i<5→sf w w.ts (w.cl i)
 own:∀i:Nat,i<5→(w.cl i).sg=w.se i 1∧(w.cl i).se=w.se i 0
 le:w.lg.2.1.length≤w.st.length
 d32:∀d∈w.lg.2.2.1,d.length=32
 ml:md.length=w.st.length
 sr:∀t∈w.ts,t.1=103→DL w md t∨DM w md t∨DN w t
def DO(w:Wd)(md:List Md)(b:BL)(a:Nw):Prop:=
 (a.1=1∧∃(n:Nat)(e:Et),w.st[n]?=some b∧md[n]?=some (0,true,())∧b=gO e∧lD e=true∧e.1=a.2.2.1)∨
 (a.1≠1∧∃(n:Nat)(l:Lt)(c:Bool),w.st[n]?=some b∧md[n]?=some (l.2.1,c,())∧b=hX l∧mM l=true∧a.1=l.1∧a.2.1=l.2.1∧a.2.2.1=l.2.2.1∧a.2.2.2.1=l.2.2.2.1∧(fQ (cL w.lg.2.1 l.2.2.1) l.2.1).2=true∧(c=true∨w.go.getD l.2.1.toNat false=true))
theorem UX{w:Wd}{md:List Md}(h:Au w md)(f:w.ts.length≤4294967296){a b i j:Nat}(g:a<5)(l:b<5)(hi:i<2)(m:j<2)(e:w.se a i=w.se b j):a=b∧i=j:=by
 have n:=h.sc a i g hi;have c:=h.sc b j l m;rw[←e]at c;have:=Nm.uni f n c;have o:[dx ((2*a+i+1:Nat):Int)]=[dx ((2*b+j+1:Nat):Int)]:=aI (λt:Tm=>t.2.1) this;have p:=Gf (by omega) (by omega) (List.cons.inj o).1;omega
theorem a1w{lg:Lg}{e:Et}{ts:List Tm}{m:KV}(h:(jU lg e ts m).1=0):lD e=true∧e.1=(lg.2.1.length:Int)+1∧yY lg.1 (dL e) e.2.2.2.2.2.2.1 ts=true∧(jU lg e ts m).2=((lg.1,lg.2.1++[Ed e],lg.2.2.1++[(dT (104,[dL e],()) ts m).1],()),(dT (104,[dL e],()) ts m).2):=by
 unfold jU at h⊢;rw[ck]at h⊢;split at h
 ·cases h
 rename_i a;rw[ag a];split at h
 ·dsimp only at h;split at h<;>cases h
 rename_i f;rw[ag f];split at h
 ·cases h
 rename_i b;rw[ag b];split at h
 ·cases h
 rename_i g;rw[ag g];split at h
 ·cases h
 rename_i c;rw[ag c];split at h
 ·cases h
 rename_i i;rw[ag i];exact⟨by simpa using a,aD.1 b,by simpa using c,rfl⟩
theorem a68{lg:Lg}{e:Et}{ts:List Tm}{m:KV}(h:(jU lg e ts m).1≠0):(jU lg e ts m).2.1=lg:=by
 unfold jU at h⊢;rw[ck]at h⊢
 repeat' split
 all_goals first|rfl|(exfalso;simp_all;done)
theorem UY{e a:Et}(b:e.1=a.1)(c:e.2.1=a.2.1)(f:e.2.2.1=a.2.2.1)(g:e.2.2.2.1=a.2.2.2.1)(h:e.2.2.2.2.1=a.2.2.2.2.1)(i:e.2.2.2.2.2.1=a.2.2.2.2.2.1)(j:e.2.2.2.2.2.2.1=a.2.2.2.2.2.2.1):e=a:=by
 obtain⟨l,m,n,o,p,q,r,⟨⟩⟩:=e;obtain⟨s,t,u,v,w,x,y,⟨⟩⟩:=a;dsimp only at*;subst b c f g h i j;rfl
theorem UZ{e a:Lt}(b:e.1=a.1)(c:e.2.1=a.2.1)(f:e.2.2.1=a.2.2.1)(g:e.2.2.2.1=a.2.2.2.1)(h:e.2.2.2.2.1=a.2.2.2.2.1)(i:e.2.2.2.2.2.1=a.2.2.2.2.2.1)(j:e.2.2.2.2.2.2.1=a.2.2.2.2.2.2.1):e=a:=by
 obtain⟨l,m,n,o,p,q,r,⟨⟩⟩:=e;obtain⟨s,t,u,v,w,x,y,⟨⟩⟩:=a;dsimp only at*;subst b c f g h i j;rfl
theorem Nm.t115{ts:List Tm}{b:BL}{l:List BL}(h:Nm ts b (115,l,())):b.length=32:=h.len32 (by show(115:BitVec 8)≠98;decide) (by show(115:BitVec 8)≠103;decide)
theorem U0{w:Wd}{md:List Md}(h:Au w md){e:Et}(x:lD e=true)(y:yY w.lg.1 (dL e) e.2.2.2.2.2.2.1 w.ts=true):
 ∃(n:Nat)(d:BL),w.st[n]?=some (gO e)∧md[n]?=some (0,true,())∧w.lg.2.1[(e.1-1).toNat]?=some (Ed e)∧w.lg.2.2.1[(e.1-1).toNat]?=some d∧Nm w.ts d (104,[dL e],()):=by
 obtain⟨t,v,s,z,L,M,N,b⟩:=QX y;rcases h.sr t s.le z with⟨n,A,d,j,c,f,g,i,m,o,p⟩|⟨n,l,a,B,q,j,c,f,g,i,m,o,p⟩|⟨l,a,q,lk,j,c,f,g,i,m,o,p⟩
 ·have C:dL A=dL e:=by rw[g]at b;exact b
  obtain⟨D,E,F,G,H,J,_⟩:=UA (r:=[]) (r':=[]) (II f) (II x) (by rw[C]);have K:=Nm.inj h.su i s;have:=UY D E F G H J K;subst this;exact⟨n,d,j,c,m,o,p⟩
 ·rw[i]at b;have b:eg l++tx q=dL e:=b;have u:=(fv f).1;exact absurd b.symm (IH ⟨u.1,u.2.1⟩)
 ·rw[g]at b;have b:eg l++tx q=dL e:=b;exact absurd b.symm (IH ⟨c.1,c.2.1⟩)
theorem t9{α:Type}{l:List α}{k:Nat}{x:α}(h:l[(l.take k).length]?=some x):l.take k++[x]=l.take ((l.take k).length+1):=by
 have a:(l.take k).length<l.length:=(dd.1 h).1
 have e:(l.take k).length=k:=by
  rw[bi]at a⊢;omega
 rw[e]at h a⊢;rw[eQ,h];rfl
theorem Nm.tm{ts:List Tm}{b:BL}{t:Tm}{k:Nat}(h:Nm ts b t)(a:bU k ts):eC t:=a.1 t h.le
theorem U1{w:Wd}{md:List Md}(h:Au w md){k:Nat}(i:bU (k+100) w.ts){c:Cl}(A:sf w w.ts c)(j:cu w.lg.2.1 w.lg.2.2.1){e:Et}(u:xJ e)(l:aB c.se):
 sf w (rK c.c c.se c.lg c.km e w.ts w.m).2.2.2.1 {c with lg:=(rK c.c c.se c.lg c.km e w.ts w.m).2.1,km:=(rK c.c c.se c.lg c.km e w.ts w.m).2.2.1}∧
 ((rK c.c c.se c.lg c.km e w.ts w.m).1.2=0→(rK c.c c.se c.lg c.km e w.ts w.m).1.1=(1,0,e.1,e.1,false,false,[],())∧lD e=true∧∃n:Nat,w.st[n]?=some (gO e)∧md[n]?=some (0,true,())):=by
 have o:Su (k+100) w.ts w.m:=⟨h.su,i⟩;have M:w.ts.length≤4294967296:=by have:=i.2;omega
 have B:=(a1b (c:=c.c) (se:=c.se) (lg:=c.lg) (km:=c.km) (k:=k) u l o).gr;obtain⟨⟨q,b⟩,C⟩:=A;have N:=a1a (lg:=c.lg) (e:=e) (k:=k+99) u.2.1 o
 have a:(jU c.lg e w.ts w.m).1=0→lD e=true∧(∃n:Nat,w.st[n]?=some (gO e)∧md[n]?=some (0,true,()))∧∃k:Nat,(jU c.lg e w.ts w.m).2.1=(w.lg.1,w.lg.2.1.take k,w.lg.2.2.1.take k,()):=by
  intro g;obtain⟨v,D,E,F⟩:=a1w g;have x:=E;rw[b]at x;obtain⟨n,d,G,H,y,p,z⟩:=U0 h v x;have J:(e.1-1).toNat=(w.lg.2.1.take q).length:=by rw[D,b];dsimp only;omega
  have K:(w.lg.2.2.1.take q).length=(w.lg.2.1.take q).length:=by rw[bi,bi,j.2.1]
  have r:=zV (k:=k+99) (t:=(104,[dL e],())) o (z.tm i);have L:(dT (104,[dL e],()) w.ts w.m).1=d:=Nm.inj r.1.su.w r.2 (r.1.gr.nm z);refine⟨v,⟨n,G,H⟩,(w.lg.2.1.take q).length+1,?_⟩;rw[F];dsimp only;rw[L,b];dsimp only;rw[J]at y p;rw[t9 y];rw[←K]at p⊢;rw[t9 p]
 refine⟨⟨?_,C.gr B⟩,λg=>?_⟩
 ·show∃k,(rK c.c c.se c.lg c.km e w.ts w.m).2.1=_;unfold rK;rw[ck];dsimp only;split
  ·exact⟨q,b⟩
  ·rename_i g;split
   ·exact⟨q,b⟩
   ·exact(a (aD.1 g)).2.2
 ·unfold rK at g⊢;rw[ck]at g⊢;dsimp only at g⊢;split at g
  ·rename_i f;exact absurd g f
  ·rename_i f;split at g
   ·rename_i s;exact absurd g s
   ·rename_i s;rw[ag f,ag s];exact⟨rfl,(a (aD.1 f)).1,(a (aD.1 f)).2.1⟩
theorem Ja{es:List Et}{k:Nat}{n:Int}(h:(cL (es.take k) n)≠[]):cL (es.take k) n=cL es n:=by
 unfold cL at h⊢;split at h
 ·exact absurd rfl h
 rename_i g;rw[bi]at g;rw[ag (by rw[bi];exact g),ag (by omega)]
 congr 3
 rw[az,az,List.getElem?_take,an (by omega)]
theorem a2y(id:Int):(fQ [] id).2=false:=rfl
theorem vH:∀{l:List Mb}{id:Int},(fQ l id).2=true→(fQ l id).1∈l∧(fQ l id).1.1=id
 |[],_,h=>by simp[fQ]at h
 |m::r,id,h=>by
  simp only[fQ]at h⊢;split
  ·rename_i e;exact⟨aM ..,e⟩
  ·rename_i e;rw[ag e]at h;have:=vH h;exact⟨aE _ this.1,this.2⟩
theorem U2{w:Wd}{md:List Md}(h:Au w md){k:Nat}(Q:bU (k+6000) w.ts){c:Cl}(hc:sf w w.ts c){l:Lt}(hf:mM l=true){y:yf}(r:jR c l w.ts w.m y)(h0:y.1=0):
 ∃(n:Nat)(i:Bool),w.st[n]?=some (hX l)∧md[n]?=some (l.2.1,i,())∧(fQ (cL w.lg.2.1 l.2.2.1) l.2.1).2=true∧(i=true∨w.go.getD l.2.1.toNat false=true):=by
 have B:=(fv hf).2.2.1;have b:=(fv hf).1;have hl:w.ts.length≤4294967296:=by have:=Q.2;omega
 obtain⟨⟨q,hq⟩,hb⟩:=hc;unfold jR at r;dsimp only at r;split at r
 ·rw[r]at h0;cases h0
 split at r
 ·rw[r]at h0;cases h0
 rename_i u;have o:=lcP (sg:=(fQ (cL c.lg.2.1 l.2.2.1) l.2.1).1.2.2.1) (k:=k+5999) B ⟨h.su,Q⟩;split at r
 ·rename_i g;rw[r]at h0;exact absurd h0 g
 rename_i gz;have u:(fQ (cL c.lg.2.1 l.2.2.1) l.2.1).2=true:=by simpa using u
 have C:cL c.lg.2.1 l.2.2.1=cL w.lg.2.1 l.2.2.1:=by
  rw[hq];refine Ja λe=>?_;rw[hq,e]at u;cases u
 rw[C]at u o gz r;obtain⟨p1,p2⟩:=vH u;obtain⟨en,R,hp⟩:=vz p1;obtain⟨ie,S⟩:=List.getElem?_of_mem R;obtain⟨a,x,yy,ha,ea,n1,n2⟩:=h.al _ ((h.es ie en S).2 _ hp);have D:l.2.1=(a:Int):=by rw[←p2,ea]
 have U:(fQ (cL w.lg.2.1 l.2.2.1) l.2.1).1.2.2.1=yy:=by rw[ea]
 obtain⟨E,t,v,c1,M,W,c4,c5,c6,p,f,c9⟩:=a1d (k:=k+5999) B ⟨h.su,Q⟩ (aD.1 gz);rw[U]at c5 M W c1 o r;have F:(tW yy l w.ts w.m).2.1.length≤4294967296:=by have:=o.su.k.2;omega
 have ev:=Nm.uni F c5 (o.gr.nm n2);rw[ev]at p;have p:t.2.1.getD 0 []=w.se a 1:=p;have X:t∈w.ts:=(o.gr.old W.le).resolve_right λe=>e.1 c4;refine(h.sr t X c4).elim ?_ λhx=>hx.elim ?_ ?_
 ·rintro⟨n,e',d,Y,N,z3,G,z5,H⟩;rw[G]at f;exact absurd (show dL e'=eg l++tx E from f) (IH ⟨b.1,b.2.1⟩)
 ·rintro⟨n,J,a',i,j,Y,N,z3,G,z5,H,O,z⟩;rw[z5]at p f;have p:w.se a' 1=w.se a 1:=p;have f:eg J++tx j=eg l++tx E:=f;have a0:=(UX h hl G ha (by omega) (by omega) p).1;subst a0;have K:E.length=32:=M.len32 (by show(104:BitVec 8)≠98;decide) (by show(104:BitVec 8)≠103;decide);have a1:j.length=32:=H.len32 (by show(104:BitVec 8)≠98;decide) (by show(104:BitVec 8)≠103;decide);obtain⟨i1,i2,i3,i4,P,i6⟩:=IG (fv z3).1 b (by omega) (by omega) f
  have i7:J.2.2.2.2.2.1=l.2.2.2.2.2.1:=by
   have:=Nm.uni F (o.gr.nm H) (by rw[i6];exact M);exact(List.cons.inj (aI (λt:Tm=>t.2.1) this)).1
  have i8:J.2.2.2.2.2.2.1=l.2.2.2.2.2.2.1:=Nm.inj o.su.w (o.gr.nm O) W;have:=UZ i1 i2 i3 i4 P i7 i8;subst this;refine⟨n,i,Y,by rw[D];exact N,u,?_⟩;rcases z with z|z
  ·exact .inl z.1
  ·refine .inr ?_;rw[D,aG];exact z.2
 ·rintro⟨J,a',j,lk,Y,N,z3,G,z5,H,O,z⟩;exfalso;rw[G]at p f;have f:eg J++tx j=eg l++tx E:=f;have K:E.length=32:=M.len32 (by show(104:BitVec 8)≠98;decide) (by show(104:BitVec 8)≠103;decide);obtain⟨i1,i2,i3,i4,P,i6⟩:=IG N b (by omega) (by omega) f;split at r
  ·rename_i g;rw[r]at h0;exact absurd h0 g
  rename_i L;have L:=aD.1 L;unfold zP at L;rw[ag (by omega)]at L;obtain⟨k1,k2,A,k4,k5⟩:=a1h L;rw[c1]at k1 k2 A k4;dsimp only at k1 k2 A k4;rw[zX ⟨b.2.2.1,b.2.2.2.1⟩]at A;have s:l.2.2.2.2.1.length=32:=by rw[←P];exact O.len32 (by show(104:BitVec 8)≠98;decide) (by show(104:BitVec 8)≠103;decide)
  split at A
  ·rw[←A]at s;cases s
  rename_i g0
  have a2:(dt c.bk l.2.1)[(dt c.bk l.2.1).length-1]?=some ((dt c.bk l.2.1).getD ((dt c.bk l.2.1).length-1) pa):=by
   rw[az,ap (by omega)];rfl
  obtain⟨a3,o1,o2,o3,o4,o5⟩:=hb _ _ _ a2;rw[A,←P]at o5;have e1:[D4 a3]=[D4 lk]:=aI (λt:Tm=>t.2.1) (Nm.uni hl o5 O);have e2:=MA o1 H (List.cons.inj e1).1;subst e2;apply k4;refine⟨by omega,?_⟩;rw[←o4];omega
theorem sf.gr{K:Tm→Prop}{w:Wd}{ts a:List Tm}{c:Cl}(h:sf w ts c)(g:Gr K ts a):sf w a c:=⟨h.1,h.2.gr g⟩
theorem a1x{w:Wd}{md:List Md}(h:Au w md){n i:Nat}(q:di w (n+1))(hi:i<5){b:BL}{y:Mn}(r:oA (w.cl i) b w.ts w.m y):
 sf w y.2.2.1 y.2.1∧(y.1.1=0→DO w md b y.1.2):=by
 have s:bU (10000+10000) w.ts:=q.ts.mono (by omega);have a:=h.cl i hi;obtain⟨⟨L,M,G,N,O,P,Q,R,S⟩,_,_⟩:=q.cl i hi;have t:sf w w.ts (w.cl i):=a;generalize w.cl i=c at*;unfold oA at r;dsimp only at r;split at r
 ·rw[r];exact⟨a,λe=>by cases e⟩
 rename_i U;have u:bP b 0:=⟨by omega,by omega,by omega⟩;split at r
 ·rename_i g;rw[r];exact⟨a,λe=>absurd e g⟩
 split at r
 ·split at r
  ·rename_i g;rw[r];exact⟨a,λe=>absurd e g⟩
  ·rename_i g;have g:=aD.1 g;have H:=kT ((QM u).2 g).2;obtain⟨o,l⟩:=a0u u g;have:=U1 h (k:=19900) (c:=c) (e:=(lQ b true (0,0)).1) s a q.lg.1 H G;rw[r];refine⟨this.1,λe=>?_⟩;obtain⟨p,D,n,v,x⟩:=this.2 e;refine .inl ?_;show(rK _ _ _ _ _ _ _).1.1.1=1∧_;rw[p];exact⟨rfl,n,_,by rw[o];exact v,x,o,l,rfl⟩
 ·split at r
  ·rename_i g;rw[r];exact⟨a,λe=>absurd e g⟩
  ·rename_i g;have g:=aD.1 g;obtain⟨o,l⟩:=a0t u g;obtain⟨z,f,J,E,W,j,K⟩:=r;have A:=UQ (k:=14000) l ⟨h.su,s⟩ a.2 E;rw[K];refine⟨⟨a.1,A⟩,λe=>?_⟩;have e:z.1=0:=e;obtain⟨n,B,p,D,v,x⟩:=U2 h (k:=14000) s t l E e;unfold yh at j;rw[an e]at j;have C:=(fv l).1;refine .inr ⟨?_,n,_,B,by rw[←o]at p;exact p,D,o,l,j.1,j.2.1,j.2.2.1,j.2.2.2,v,x⟩;show J.1≠1;rw[j.1];intro e;have F:=C.1;rw[e]at F;exact absurd F (by decide)
theorem U3{c:Cl}{b:BL}{ts:List Tm}{m:KV}{y:Mn}(r:oA c b ts m y):y.2.1.sg=c.sg∧y.2.1.se=c.se:=by
 unfold oA at r;dsimp only at r;split at r
 ·rw[r];exact⟨rfl,rfl⟩
 split at r
 ·rw[r];exact⟨rfl,rfl⟩
 split at r
 ·split at r
  ·rw[r];exact⟨rfl,rfl⟩
  ·rw[r];exact⟨rfl,rfl⟩
 ·split at r
  ·rw[r];exact⟨rfl,rfl⟩
  ·obtain⟨z,f,e,g,h,i,a⟩:=r;rw[a];exact⟨rfl,rfl⟩
structure eP(w w':Wd):Prop where
 sec:w'.sec=w.sec
 al:w'.al=w.al
 go:w'.go=w.go
 st:w'.st=w.st
 lg:w'.lg=w.lg
theorem eP.se{w w':Wd}(h:eP w w')(i j:Nat):w'.se i j=w.se i j:=by unfold Wd.se;rw[h.sec]
theorem Src.same{K:Tm→Prop}{w w':Wd}{md:List Md}{t:Tm}(h:eP w w')(g:Gr K w.ts w'.ts)(s:DL w md t∨DM w md t∨DN w t):DL w' md t∨DM w' md t∨DN w' t:=by
 refine s.imp ?_ (Or.imp ?_ ?_)
 ·rintro⟨n,e,d,b,c,f,i,j,m,o,p⟩;exact⟨n,e,d,by rw[h.st];exact b,c,f,by rw[h.se];exact i,g.nm j,by rw[h.lg];exact m,by rw[h.lg];exact o,g.nm p⟩
 ·rintro⟨n,l,a,q,r,b,c,f,i,j,m,o,p⟩;exact⟨n,l,a,q,r,by rw[h.st];exact b,c,f,i,by rw[h.se];exact j,g.nm m,g.nm o,by rw[h.go];exact p⟩
 ·rintro⟨l,a,r,lk,b,c,f,i,j,m,o,p⟩;exact⟨l,a,r,lk,b,c,f,by rw[h.se];exact i,j,m,g.nm o,p⟩
theorem Au.same{w w':Wd}{md:List Md}(h:Au w md)(s:eP w w')(g:Gr (λt=>t.1≠103) w.ts w'.ts)(hu:Gc w'.ts w'.m)(hc:∀i:Nat,i<5→sf w w'.ts (w'.cl i))(ho:∀i:Nat,i<5→(w'.cl i).sg=(w.cl i).sg∧(w'.cl i).se=(w.cl i).se):Au w' md where
 su:=hu
 sc a j ha hj:=by rw[s.se];exact g.nm (h.sc a j ha hj)
 al p hp:=by
  rw[s.al]at hp;obtain⟨a,x,y,h1,h2,h3,h4⟩:=h.al p hp;exact⟨a,x,y,h1,h2,by rw[s.se];exact g.nm h3,by rw[s.se];exact g.nm h4⟩
 adm:=by rw[s.lg,s.se];exact g.nm h.adm
 es i e he:=by rw[s.lg]at he;rw[s.al];exact h.es i e he
 cl i hi:=by obtain⟨⟨k,hk⟩,hb⟩:=hc i hi;exact⟨⟨k,by rw[s.lg];exact hk⟩,hb⟩
 own i hi:=by rw[(ho i hi).1,(ho i hi).2,s.se,s.se];exact h.own i hi
 le:=by rw[s.st,s.lg];exact h.le
 d32:=by rw[s.lg];exact h.d32
 ml:=by rw[s.st];exact h.ml
 sr t ht h3:=by
  have ho:t∈w.ts:=(g.old ht).resolve_right λe=>e h3;exact Src.same s g (h.sr t ho h3)
theorem hY(w:Wd)(i:Nat)(r:Cl×List Tm×KV):eP w (w.aft i r)∧(w.aft i r).ts=r.2.1∧(w.aft i r).m=r.2.2:=by
 obtain⟨a,b,c,h,e,f,j,l,n,g⟩:=jb w i r.1;exact⟨⟨a,b,c,f,e⟩,rfl,rfl⟩
theorem DP(w:Wd)(i:Nat)(c:KM):eP w (w.setK i c)∧(w.setK i c).ts=w.ts∧(w.setK i c).m=w.m∧∀j,(w.setK i c).cl j=w.cl j:=by
 obtain⟨b,e,f,o,g,h,p,l,n,a⟩:=oD w i c;exact⟨⟨b,e,f,h,g⟩,l,n,a⟩
theorem oH(b:BL)(i:Int)(r:Int×Nw)(w:Wd):eP w (gA b i r w)∧(gA b i r w).ts=w.ts∧(gA b i r w).m=w.m∧∀j,(gA b i r w).cl j=w.cl j:=by
 unfold gA;split
 ·exact DP w _ _
 ·exact⟨⟨rfl,rfl,rfl,rfl,rfl⟩,rfl,rfl,λ_=>rfl⟩
theorem vI(w:Wd){i j:Nat}(hi:i<5)(a:j<5)(r:Cl×List Tm×KV):(w.aft i r).cl j=if j=i then r.1 else w.cl j:=by
 have e:(w.aft i r).cl j=(w.setC i r.1).cl j:=by
  unfold Wd.aft;rcases io a with rfl|rfl|rfl|rfl|rfl<;>rfl
 rw[e,zY w r.1 hi a]
theorem eP.trans{a b c:Wd}(h:eP a b)(h':eP b c):eP a c:=⟨h'.sec.trans h.sec,h'.al.trans h.al,h'.go.trans h.go,h'.st.trans h.st,h'.lg.trans h.lg⟩
theorem vJ{w:Wd}{md:List Md}{n:Nat}(h:Au w md)(a:di w n):Su (10000*n+10000) w.ts w.m:=⟨h.su,a.ts⟩
theorem Ae{w:Wd}{md:List Md}(h:Au w md){n:Nat}(f:di w (n+1)){i:Int}(hi:0≤i∧i<5){b:BL}{y:(Int×Nw)×Wd}(r:jS w i b y):
 Au y.2 md∧eP w y.2∧Gr gy w.ts y.2.ts∧(y.1.1=0→DO w md b y.1.2):=by
 obtain⟨z,l,rfl⟩:=r;have a:i.toNat<5:=by omega
 have o:=rcP (k:=10000*n+10000) (f.cl i.toNat a).1 ((vJ h f).mono (by omega)) l;have s:=a1x h f a l;obtain⟨u,p,A⟩:=hY w i.toNat z.2;obtain⟨v,q,B,x⟩:=oH b i z.1 (w.aft i.toNat z.2);have g:Gr gy w.ts (gA b i z.1 (w.aft i.toNat z.2)).ts:=by rw[q,p];exact o.gr
 have C:=U3 l;refine⟨h.same (u.trans v) (g.imp λt e=>e.1) ?_ (λj c=>?_) λj c=>?_,u.trans v,g,s.2⟩
 ·show Gc (gA b i z.1 (w.aft i.toNat z.2)).ts (gA b i z.1 (w.aft i.toNat z.2)).m;rw[q,B,p,A];exact o.su.w
 ·show sf w (gA b i z.1 (w.aft i.toNat z.2)).ts ((gA b i z.1 (w.aft i.toNat z.2)).cl j);rw[q,x,p,vI w a c];split
  ·exact s.1
  ·exact(h.cl j c).gr o.gr
 ·show((gA b i z.1 (w.aft i.toNat z.2)).cl j).sg=_∧((gA b i z.1 (w.aft i.toNat z.2)).cl j).se=_;rw[x,vI w a c];split
  ·rename_i e;subst e;exact C
  ·exact⟨rfl,rfl⟩
def shT(a b:BL):Tm:=(100,(if 0<sw a b then[b,a]else[a,b]),())
theorem a1y{n id:Int}{sec pub v:BL}{k:Nat}{ts:List Tm}{m:KV}(f:aB sec)(h:Su (k+2) ts m)(h0:(hV n id sec pub ts m).1.2=0)(i:Nm ts pub (112,[v],())):
 ∃e,Nm (hV n id sec pub ts m).2.1 e (shT sec v)∧Nm (hV n id sec pub ts m).2.1 (hV n id sec pub ts m).1.1 (107,[e,vn n++vn id],()):=by
 have j:ts.length≤4294967296:=by have:=h.k.2;omega
 have a:=Ge j i;have a:fH pub 112 ts=((112,[v],()),true):=a;unfold hV at h0⊢;split at h0
 ·rename_i g;exact absurd h0 g
 rename_i g;rw[ag g];have g:=aD.1 g
 have l:(mK sec pub ts m).1=dT (shT sec v) ts m:=by
  unfold mK at g⊢;split at g
  ·cases g
  rename_i o;rw[ag o];split at g
  ·cases g
  rename_i p;rw[ag p,a];rfl
 have b:eC (shT sec v):=by
  have:=IX (sec:=sec) (pub:=pub) f h.k.ok (by rw[a]);rw[a]at this;exact this
 have q:=zV (k:=k+1) h b;dsimp only;rw[l];generalize dT (shT sec v) ts m=S at*;have s:=bz n;have u:=bz id;have c:=q.2.len32 (by show(100:BitVec 8)≠98;decide) (by show(100:BitVec 8)≠103;decide);have r:=IW (k:=k) (t:=(107,[S.1,vn n++vn id],())) q.1.su (A6 (by decide) (by decide) (show aB S.1 by unfold aB;omega) (show aB (vn n++vn id)by unfold aB;simp;omega));exact⟨S.1,r.1.gr.nm q.2,r.2 c⟩
theorem a1z{n id:Int}{sec pub:BL}{k:Nat}{ts:List Tm}{m:KV}(a:aB sec)(h:Su (k+2) ts m)(h0:(hV n id sec pub ts m).1.2=0):(hV n id sec pub ts m).1.1.length=32:=by
 unfold hV at h0⊢;split at h0
 ·rename_i g;exact absurd h0 g
 rename_i g;rw[ag g];have g:=aD.1 g
 have q:(mK sec pub ts m).1.1.length=32∧Ok gy (k+1) ts (mK sec pub ts m).1.2:=by
  refine⟨?_,shP a h⟩;unfold mK at g⊢;split at g
  ·cases g
  rename_i c;rw[ag c];split at g
  ·cases g
  rename_i b;rw[ag b];exact(zV (k:=k+1) h (IX a h.k.ok (by simpa using b))).2.len32 (by show(100:BitVec 8)≠98;decide) (by show(100:BitVec 8)≠103;decide)
 dsimp only;generalize(mK sec pub ts m).1=S at*;have e:=bz n;have f:=bz id;have r:=IW (k:=k) (t:=(107,[S.1,vn n++vn id],())) q.2.su (A6 (by decide) (by decide) (show aB S.1 by unfold aB;omega) (show aB (vn n++vn id)by unfold aB;simp;omega));exact(r.2 q.1).len32 (by show(107:BitVec 8)≠98;decide) (by show(107:BitVec 8)≠103;decide)
theorem seP{q o x:BL}{n:Int}{k:Nat}{ts:List Tm}{m:KV}(a:aB q)(b:aB o)(c:aB x)(h:Su (k+1) ts m):Ok gy k ts (lA q n o x ts m).2:=by
 unfold lA;split
 ·exact Ok.refl h (by omega)
 ·exact naP h (tm4 a (by unfold aB;rw[eb];omega) b c) ⟨by show(98:BitVec 8)≠103;decide,by show(98:BitVec 8)≠115;decide⟩
theorem Jb{n:Int}{once key co:BL}(c:aB once)(i:key.length≤64)(g:aB co){k:Nat}:∀(ms:List Mb)(a:List BL)(ts:List Tm)(m:KV),(∀p∈ms,aB p.2.1)→Su (k+3*ms.length) ts m→Ok gy k ts (u7 n once key co ms a ts m).2
 |[],a,ts,m,_,b=>Ok.refl b (by omega)
 |p::r,a,ts,m,e,b=>by
  have f:=bxP (k:=k+3*r.length+1) n p.1 c (e p (aM ..)) (b.mono (by simp;omega));have j:=(V2 (k:=k+3*r.length+1) m n p.1 c (e p (aM ..)) (b.k.mono (by simp;omega))).1;simp only[u7];split
  ·exact f.mono (by omega)
  ·generalize hV n p.1 once p.2.1 ts m=z at*;have h:=seP (n:=1) (k:=k+3*r.length) (q:=z.1.1) (o:=co) (x:=key) (by unfold aB;omega) g (by unfold aB;omega) f.su;exact(f.trans h).trans (Jb c i g r _ _ _ (λq l=>e q (aE _ l)) h.su)
def Jc(ts:List Tm)(n:Int)(once key co:BL)(id:Int)(v b:BL):Prop:=∃a c,Nm ts a (shT once v)∧Nm ts c (107,[a,vn n++vn id],())∧Nm ts b (98,[c,dx 1,co,key],())
theorem Jc.gr{K:Tm→Prop}{ts e:List Tm}{n:Int}{once key co:BL}{id:Int}{v b:BL}(h:Jc ts n once key co id v b)(g:Gr K ts e):Jc e n once key co id v b:=let⟨f,i,a,b,c⟩:=h;⟨f,i,g.nm a,g.nm b,g.nm c⟩
theorem Q3{n:Int}{once key co:BL}(j:aB once)(K:key.length≤64)(A:aB co){k:Nat}:∀(ms:List Mb)(a:List BL)(ts:List Tm)(m:KV),(∀p∈ms,aB p.2.1)→Su (k+3*ms.length) ts m→(u7 n once key co ms a ts m).1.2=0→
 ∃l,(u7 n once key co ms a ts m).1.1=a++l∧l.length=ms.length∧(∀b∈l,b.length=key.length+16)∧∀(i:Nat)(p:Mb)(v:BL),ms[i]?=some p→Nm ts p.2.1 (112,[v],())→∃b,l[i]?=some b∧Jc (u7 n once key co ms a ts m).2.1 n once key co p.1 v b
 |[],a,ts,m,_,s,_=>⟨[],by simp[u7],rfl,by simp,λi p v h=>by simp at h⟩
 |p::r,a,ts,m,B,s,C=>by
  have t:=bxP (k:=k+3*r.length+1) n p.1 j (B p (aM ..)) (s.mono (by simp;omega));have M:=(V2 (k:=k+3*r.length+1) m n p.1 j (B p (aM ..)) (s.k.mono (by simp;omega))).1;have c:=λv=>a1y (v:=v) (n:=n) (id:=p.1) (pub:=p.2.1) (k:=k+3*r.length+1) j (s.mono (by simp;omega));have f:=a1z (n:=n) (id:=p.1) (pub:=p.2.1) (k:=k+3*r.length+1) j (s.mono (by simp;omega));simp only[u7]at C⊢;split at C
  ·rename_i g;exact absurd C g
  ·rename_i g;rw[ag g];have f:=f (aD.1 g);have c:=λv=>c v (aD.1 g);generalize hV n p.1 once p.2.1 ts m=z at*;have u:=seP (n:=1) (k:=k+3*r.length) (q:=z.1.1) (o:=co) (x:=key) (by unfold aB;omega) A (by unfold aB;omega) t.su;have w:=λy=>seG (q:=z.1.1) (n:=1) (o:=co) (x:=key) (k:=k+3*r.length) (by omega) y A (by unfold aB;omega) t.su;have E:=Jb (n:=n) (co:=co) (key:=key) j K A (k:=k) r (a++[(lA z.1.1 1 co key z.2.1 z.2.2).1]) _ (lA z.1.1 1 co key z.2.1 z.2.2).2.2 (λq y=>B q (aE _ y)) u.su;obtain⟨l,N,O,P,Q⟩:=Q3 j K A (k:=k) r (a++[(lA z.1.1 1 co key z.2.1 z.2.2).1]) _ (lA z.1.1 1 co key z.2.1 z.2.2).2.2 (λq y=>B q (aE _ y)) u.su C;refine⟨(lA z.1.1 1 co key z.2.1 z.2.2).1::l,by rw[N,ay];rfl,by simp[O],λb t=>?_,λi q v F L=>?_⟩
   ·rcases br.1 t with e|e
    ·rw[e,(w f).2.len98]
    ·exact P b e
   rcases i with _|i
   ·simp at F;subst F;obtain⟨R,G,D⟩:=c v L;have H:=D.len32 (by show(107:BitVec 8)≠98;decide) (by show(107:BitVec 8)≠103;decide);have J:=w H;exact⟨_,by simp,R,z.1.1,E.gr.nm (u.gr.nm G),E.gr.nm (u.gr.nm D),E.gr.nm J.2⟩
   ·obtain⟨b,G,D⟩:=Q i q v (by simpa using F) (u.gr.nm (t.gr.nm L));exact⟨b,by simpa using G,D⟩
theorem a10{lg:Lg}{sec once key:BL}{ms:List Mb}{ns:List Fk}{k:Nat}{ts:List Tm}{m:KV}(M:cu lg.2.1 lg.2.2.1)(R:rr ms)(N:Su (k+40) ts m)
 (S:∀d∈lg.2.2.1,d.length=32) (U:lg.2.1.length<65536):
 ((r8 lg sec once key ms ns ts m).1.2≠0∧Ok gy k ts (r8 lg sec once key ms ns ts m).2)∨
 ((r8 lg sec once key ms ns ts m).1.2=0∧∃(E:Et)(O:BL),(r8 lg sec once key ms ns ts m).1.1=E∧E=kM lg ms ns O E.2.2.2.2.2.1 E.2.2.2.2.2.2.1∧lD E=true∧FG lg.2.1 ms ns=true∧pc ms ns=true∧key.length=32∧once.length=32∧sec.length=32∧
   Ok (λt=>gy t∨t=(103,[sec,dL E],())) k ts (r8 lg sec once key ms ns ts m).2∧Nm (r8 lg sec once key ms ns ts m).2.1 E.2.2.2.2.2.2.1 (103,[sec,dL E],())∧Nm (r8 lg sec once key ms ns ts m).2.1 O (112,[once],())∧
   Nm (r8 lg sec once key ms ns ts m).2.1 lg.1 (118,[sec],())∧
   ∀(i:Nat)(p:Mb)(v:BL),ms[i]?=some p→Nm ts p.2.1 (112,[v],())→∃b,E.2.2.2.2.2.1[i]?=some b∧Jc (r8 lg sec once key ms ns ts m).2.1 E.1 once key (fP E) p.1 v b):=by
 have W:Ok gy k ts (ts,m):=Ok.refl N (by omega);unfold r8;rw[ck];split
 ·exact .inl ⟨by simp,W⟩
 rename_i A;rw[not_or,not_or]at A;have s:sec.length=32:=aD.1 A.1;have B:once.length=32:=aD.1 A.2.1;have G:key.length=32:=aD.1 A.2.2;have h:=IW (k:=k+39) N (jT (k:=118) (by decide) (by decide) (show aB sec by unfold aB;omega));have X:=h.2 s;have h:Ok gy (k+39) ts (de (118,[sec],()) ts m).2:=h.1.imp λt e=>by rw[e];exact⟨by show(118:BitVec 8)≠103;decide,by show(118:BitVec 8)≠115;decide⟩
 dsimp only;generalize de (118,[sec],()) ts m=v at*;split
 ·exact .inl ⟨by simp,h.mono (by omega)⟩
 rename_i H;have H:=aD.1 H;split
 ·exact .inl ⟨by simp,h.mono (by omega)⟩
 rename_i Y;have c:=IW (k:=k+38) h.su (jT (k:=112) (by decide) (by decide) (show aB once by unfold aB;omega));have P:=c.2 B;have c:Ok gy (k+38) v.2.1 (de (112,[once],()) v.2.1 v.2.2).2:=c.1.imp λt e=>by rw[e];exact⟨by show(112:BitVec 8)≠103;decide,by show(112:BitVec 8)≠115;decide⟩
 generalize de (112,[once],()) v.2.1 v.2.2=p at*;have j:=h.trans c;split
 ·exact .inl ⟨by simp,j.mono (by omega)⟩
 rename_i J;rw[not_or]at J;have u:pc ms ns=true:=by simpa using J.1
 have hf:FG lg.2.1 ms ns=true:=by simpa using J.2
 obtain⟨q1,q2,q3,q4,q5⟩:=gw u;have w:=rv M lg.2.1.length;have l2:=P.len32 (by show(112:BitVec 8)≠98;decide) (by show(112:BitVec 8)≠103;decide)
 have hc:(fP (oo lg ms ns p.1)).length≤1002000:=by
  have:=oq (e:=oo lg ms ns p.1) u;have s:(oo lg ms ns p.1).2.1.length≤1000000:=w;have B:(oo lg ms ns p.1).2.2.2.2.1.length≤64:=by show p.1.length≤64;omega
  omega
 unfold SQ;dsimp only;have K:aB once:=by unfold aB;omega
 have l:aB (fP (oo lg ms ns p.1)):=by unfold aB;omega
 have o:∀x∈ms,aB x.2.1:=λx hx=>by have:=(R x hx).1;unfold aB;omega
 have C:=Jb (n:=lg.2.1.length+1) (k:=k+1) K (show key.length≤64 by omega) l ms [] p.2.1 p.2.2 o (c.su.mono (by omega));have y:=Ac (n:=lg.2.1.length+1) (k:=k+1) K (show key.length≤64 by omega) l ms [] p.2.1 p.2.2 o (c.su.k.mono (by omega)) (by simp);have L:=Q3 (n:=lg.2.1.length+1) (k:=k+1) K (show key.length≤64 by omega) l ms [] p.2.1 p.2.2 o (c.su.mono (by omega));generalize u7 (lg.2.1.length+1) once key (fP (oo lg ms ns p.1)) ms [] p.2.1 p.2.2=z at*;have f:=j.trans C;split
 ·rename_i g;exact .inl ⟨g,f.mono (by omega)⟩
 rename_i gz;obtain⟨bs,D,b2,b4,b3⟩:=L (aD.1 gz);rw[eG]at D
 have hw:∀a:BL,(dL (kM lg ms ns p.1 z.1.1 a)).length≤1003000:=by
  intro a;have:=va (e:=kM lg ms ns p.1 z.1.1 a) u 80 y.2.1;have s:(kM lg ms ns p.1 z.1.1 a).2.1.length≤1000000:=w;have B:(kM lg ms ns p.1 z.1.1 a).2.2.2.2.1.length≤64:=by show p.1.length≤64;omega
  have G:(kM lg ms ns p.1 z.1.1 a).2.2.2.2.2.1.length≤5:=by have:=y.2.2;simp at this;exact bA this q2
  omega
 have ew:∀a,dL (kM lg ms ns p.1 z.1.1 a)=dL (kM lg ms ns p.1 z.1.1 []):=λa=>rfl;have ec:∀a,fP (kM lg ms ns p.1 z.1.1 a)=fP (oo lg ms ns p.1):=λa=>rfl;have r:=IW (k:=k) C.su (A6 (k:=103) (by decide) (by decide) (show aB sec by unfold aB;omega) (show aB (dL (kM lg ms ns p.1 z.1.1 []))by have:=hw [];unfold aB;omega));have Q:=r.2 s;have r:=r.1;generalize de (103,[sec,dL (kM lg ms ns p.1 z.1.1 [])],()) z.2.1 z.2.2=g at*;refine .inr ⟨rfl,kM lg ms ns p.1 z.1.1 g.1,p.1,rfl,rfl,?_,hf,u,G,B,s,?_,?_,?_,?_,?_⟩
 ·unfold lD;refine decide_eq_true ⟨?_,?_,?_,u,?_,l2,?_,Q.len64⟩
  ·show(1:Int)≤(lg.2.1.length:Int)+1;omega
  ·show(lg.2.1.length:Int)+1≤65536;omega
  ·show((lg.2.1.length:Int)+1=1∧(kJ lg.2.1 lg.2.2.1 lg.2.1.length).length=0∨(kJ lg.2.1 lg.2.2.1 lg.2.1.length).length=32);unfold kJ;by_cases q:lg.2.1.length=0
   ·rw[an (.inl (by omega))];exact .inl ⟨by omega,rfl⟩
   ·rw[ag (by omega)];exact .inr (S _ (aT (by have:=M.2.1;omega)))
  ·intro b F;have F:b∈z.1.1:=F;rw[D]at F;rw[b4 b F,G]
  ·show z.1.1.length=ms.length;rw[D,b2]
 ·exact(f.imp λt e=> .inl e).trans (r.imp λt e=> .inr e)
 ·exact Q
 ·exact r.gr.nm (C.gr.nm P)
 ·rw[←H];exact r.gr.nm (C.gr.nm (c.gr.nm X))
 ·intro i x v hi hv;obtain⟨b,c1,c2⟩:=b3 i x v hi (j.gr.nm hv);exact⟨b,by show z.1.1[i]?=_;rw[D];exact c1,c2.gr r.gr⟩
structure dK(w w':Wd)(md md':List Md):Prop where
 sec:w'.sec=w.sec
 al:w'.al=w.al
 go:∀a,w.go.getD a false=true→w'.go.getD a false=true
 st:∃s,w'.st=w.st++s
 md:∃s,md'=md++s
 adm:w'.lg.1=w.lg.1
 es:∃s,w'.lg.2.1=w.lg.2.1++s
 ds:∃s,w'.lg.2.2.1=w.lg.2.2.1++s
theorem iE{α:Type}{l s:List α}{n:Nat}{x:α}(h:l[n]?=some x):(l++s)[n]?=some x:=by
 rw[cH (dd.1 h).1];exact h
theorem Src.ext{K:Tm→Prop}{w w':Wd}{md b:List Md}{t:Tm}(h:dK w w' md b)(g:Gr K w.ts w'.ts)(s:DL w md t∨DM w md t∨DN w t):DL w' b t∨DM w' b t∨DN w' t:=by
 have c:∀i j,w'.se i j=w.se i j:=λi j=>by unfold Wd.se;rw[h.sec]
 obtain⟨E,A⟩:=h.st;obtain⟨F,B⟩:=h.md;obtain⟨G,C⟩:=h.es;obtain⟨H,D⟩:=h.ds;refine s.imp ?_ (Or.imp ?_ ?_)
 ·rintro⟨n,e,d,f,m,o,p,r,u,v,x⟩;exact⟨n,e,d,by rw[A];exact iE f,by rw[B];exact iE m,o,by rw[c];exact p,g.nm r,by rw[C];exact iE u,by rw[D];exact iE v,g.nm x⟩
 ·rintro⟨n,l,a,y,z,f,m,o,p,r,u,v,x⟩;exact⟨n,l,a,y,z,by rw[A];exact iE f,by rw[B];exact iE m,o,p,by rw[c];exact r,g.nm u,g.nm v,x.imp id (λq=>⟨q.1,h.go a q.2⟩)⟩
 ·rintro⟨l,a,z,lk,f,m,o,p,r,u,v,x⟩;exact⟨l,a,z,lk,f,m,o,by rw[c];exact p,r,u,g.nm v,x⟩
theorem sf.ext{K:Tm→Prop}{w w':Wd}{md b:List Md}(h:dK w w' md b)(e:w.lg.2.1.length=w.lg.2.2.1.length){ts a:List Tm}{c:Cl}(g:Gr K ts a)(f:sf w ts c):sf w' a c:=by
 obtain⟨⟨k,i⟩,j⟩:=f;obtain⟨n,l⟩:=h.es;obtain⟨o,m⟩:=h.ds;refine⟨⟨min k w.lg.2.1.length,?_⟩,j.gr g⟩;rw[i,h.adm,l,m,List.take_append_of_le_length (Nat.min_le_right ..),List.take_append_of_le_length (by rw[←e];exact Nat.min_le_right ..)];rcases Nat.le_total k w.lg.2.1.length with q|q
 ·rw[ee q]
 ·rw[Nat.min_eq_right q,ba q,ba (by rw[←e];exact q),bp];rw[e,bp]
theorem Au.ext{K:Tm→Prop}{w w':Wd}{md md':List Md}(h:Au w md)(x:dK w w' md md')(g:Gr K w.ts w'.ts)(hu:Gc w'.ts w'.m)(hc:∀i:Nat,i<5→sf w' w'.ts (w'.cl i))(ho:∀i:Nat,i<5→(w'.cl i).sg=(w.cl i).sg∧(w'.cl i).se=(w.cl i).se)
 (hes:∀(i:Nat)(e:Et),w'.lg.2.1[i]?=some e→e.1=(i:Int)+1∧∀p∈e.2.2.1,p∈w'.al) (hle:w'.lg.2.1.length≤w'.st.length) (hd:∀d∈w'.lg.2.2.1,d.length=32) (hm:md'.length=w'.st.length)
 (new:∀t,K t→t.1=103→t∈w'.ts→DL w' md' t∨DM w' md' t∨DN w' t):Au w' md' where
 su:=hu
 sc a j ha hj:=by
  have:w'.se a j=w.se a j:=by unfold Wd.se;rw[x.sec]
  rw[this];exact g.nm (h.sc a j ha hj)
 al p hp:=by
  have hse:∀i j,w'.se i j=w.se i j:=λi j=>by unfold Wd.se;rw[x.sec]
  rw[x.al]at hp;obtain⟨a,b,y,h1,h2,h3,h4⟩:=h.al p hp;exact⟨a,b,y,h1,h2,by rw[hse];exact g.nm h3,by rw[hse];exact g.nm h4⟩
 adm:=by
  have:w'.se 0 1=w.se 0 1:=by unfold Wd.se;rw[x.sec]
  rw[x.adm,this];exact g.nm h.adm
 es:=hes
 cl:=hc
 own i hi:=by
  have hse:∀i j,w'.se i j=w.se i j:=λi j=>by unfold Wd.se;rw[x.sec]
  rw[(ho i hi).1,(ho i hi).2,hse,hse];exact h.own i hi
 le:=hle
 d32:=hd
 ml:=hm
 sr t ht h3:=by
  rcases g.old ht with q|q
  ·exact Src.ext x g (h.sr t q h3)
  ·exact new t q h3 ht
theorem a11{lg:Lg}{e:Et}{sec:BL}{ts:List Tm}(m:KV)(a:ts.length≤4294967296)(b:lD e=true)(c:e.1=(lg.2.1.length:Int)+1)(f:e.2.1=kJ lg.2.1 lg.2.2.1 lg.2.1.length)(g:Nm ts e.2.2.2.2.2.2.1 (103,[sec,dL e],()))(h:Nm ts lg.1 (118,[sec],()))(i:FG lg.2.1 e.2.2.1 e.2.2.2.1=true):(jU lg e ts m).1=0:=by
 have j:fH e.2.2.2.2.2.2.1 103 ts=((103,[sec,dL e],()),true):=Ge a g;have l:fH lg.1 118 ts=((118,[sec],()),true):=Ge a h
 have n:yY lg.1 (dL e) e.2.2.2.2.2.2.1 ts=true:=by
  unfold yY;rw[j,l];simp
 unfold jU;rw[ck,ag (by rw[b];decide),ag (by omega),ag (λq=>q c),ag (λq=>q f),ag (by rw[n];decide),ag (by rw[i];decide)]
theorem xT{a:Nat}:∀(l:List Fk)(g:List Bool),g.getD a false=true→(t8 g l).getD a false=true
 |[],_,h=>h
 |x::r,g,h=>by
  rw[t8];refine xT r _ ?_;rw[az]at h⊢;rw[List.getElem?_set];split
  ·split
   ·rfl
   ·rename_i q _;subst q;rename_i w;rw[bY (by omega)]at h;exact h
  ·exact h
def Wd.stl(w:Wd)(s:List BL)(l:List Int):Wd:={w with st:=s,ln:=l}
theorem MD{w:Wd}{i:Int}{b:BL}{y:(Int×Nw)×Wd}(hi:0≤i∧i<5)(s:List BL)(l:List Int)(r:jS w i b y):jS (w.stl s l) i b (y.1,y.2.stl s l):=by
 obtain⟨z,c,rfl⟩:=r;obtain⟨j,rfl⟩:=cq hi.1;have a:j<5:=by omega
 refine⟨z,?_,?_⟩
 ·have:(w.stl s l).cl (j:Int).toNat=w.cl (j:Int).toNat:=by
   rw[aG];rcases io a with rfl|rfl|rfl|rfl|rfl<;>rfl
  rw[this];exact c
 ·rw[aG];refine rV rfl ?_;show(gA b j z.1 (w.aft j z.2)).stl s l=gA b j z.1 ((w.stl s l).aft j z.2);unfold gA;split
  ·rw[aG];rcases io a with rfl|rfl|rfl|rfl|rfl<;>rfl
  ·rcases io a with rfl|rfl|rfl|rfl|rfl<;>rfl
theorem a12(w:Wd)(n:Int)(es:List Fk)(g:List Bool)(s:List BL)(l:List Int){i:Nat}(hi:i<5):((w.mb n es g).stl s l).cl i=w.cl i:=by
 rcases io hi with rfl|rfl|rfl|rfl|rfl<;>rfl
theorem Q4(n:Int):∀t:Tm,t=(115,[dx n],())→t.1≠103:=λt e=>by rw[e];show(115:BitVec 8)≠103;decide
theorem jd{w:Wd}{i:Int}{b:BL}{y:(Int×Nw)×Wd}(r:jS w i b y):y.2.st=w.st∧y.2.ln=w.ln∧y.2.d=w.d:=by
 obtain⟨z,f,rfl⟩:=r;have a:=jb w i.toNat z.2.1;show(gA b i z.1 (w.aft i.toNat z.2)).st=_∧(gA b i z.1 (w.aft i.toNat z.2)).ln=_∧(gA b i z.1 (w.aft i.toNat z.2)).d=_;unfold gA;split
 ·have e:=λc=>oD (w.aft i.toNat z.2) i.toNat c;exact⟨(e _).2.2.2.2.2.1.trans a.2.2.2.2.2.1,(e _).2.2.2.2.2.2.1.trans a.2.2.2.2.2.2.1,(e _).2.2.2.1.trans a.2.2.2.1⟩
 ·exact⟨a.2.2.2.2.2.1,a.2.2.2.2.2.2.1,a.2.2.2.1⟩
theorem a13{w:Wd}{md:List Md}(h:Au w md){k:Nat}(c:di w (k+2)):Su (10000*(k+1)+10140) (Ea w).2.1 (Ea w).2.2∧Gr (λt=>t.1≠103) w.ts (Ea w).2.1∧Nm (Ea w).2.1 (Q2 w).1 (115,[dx (w.d+1)],())∧Nm (Ea w).2.1 (Ea w).1 (115,[dx (w.d+1+1)],()):=by
 have b:=zV (k:=10000*(k+1)+10141) ((vJ h c).mono (by omega)) (fA (w.d+1));have a:=zV (k:=10000*(k+1)+10140) b.1.su (fA (w.d+1+1));exact⟨a.1.su,(b.1.gr.imp (Q4 _)).trans (a.1.gr.imp (Q4 _)),a.1.gr.nm b.2,a.2⟩
theorem BU{w:Wd}{md:List Md}(h:Au w md){k:Nat}(v:di w (k+2))(h4:w.st.length<400){n:Int}{y:(Int×Int)×Wd}(r:fi w n y):
 (y.1.1≠0∧y.1.2=0∧Au y.2 md∧eP w y.2∧∃es,DJ w n es∧(fJ w n es).1.2≠0∧y=(((fJ w n es).1.2,0),w.su (w.d+1+1) (fJ w n es).2)∧Gr (λt=>t.1≠103) w.ts (fJ w n es).2.1)∨
 (y.1.1=0∧y.1.2=(w.st.length:Int)+1∧Au y.2 (md++[(0,true,())])∧y.2.sec=w.sec∧y.2.al=w.al∧∃(es:List Fk)(E:Et),DJ w n es∧y.2.go=t8 w.go es∧y.2.st=w.st++[gO E]∧y.2.ln=w.ln++[0]∧y.2.lg.2.1=w.lg.2.1++[Ed E]∧E.2.2.1=vY n 0 w.al∧E.2.2.2.1=es∧(fJ w n es).1.1=E∧lD E=true∧(fJ w n es).1.2=0∧∃(c:Wd)(r1:Int×Nw),c=(w.mb n es (t8 w.go es)).stl (w.st++[gO E]) (w.ln++[0])∧Au c (md++[(0,true,())])∧di c (k+1)∧jS c 0 (gO E) (r1,y.2)∧Gr (λt=>t.1≠103∨t=(103,[w.se 0 1,dL E],())) w.ts c.ts∧c.lg.2.1=w.lg.2.1++[Ed E]∧c.sec=w.sec∧c.ts=(dT (104,[dL E],()) (fJ w n es).2.1 (fJ w n es).2.2).2.1∧Gr (λ_=>True) (fJ w n es).2.1 c.ts):=by
 obtain⟨es,hg,r⟩:=r;obtain⟨d1,d2,d3,d4⟩:=a13 h v;have a0:rr (vY n 0 w.al):=λx hx=>v.al.2 x (oF hx);have a4:=v.st.1;have hE:=a10 (lg:=w.lg) (sec:=w.se 0 1) (once:=(Q2 w).1) (key:=(Ea w).1) (ms:=vY n 0 w.al) (ns:=es) (k:=10000*(k+1)+10100) v.lg.1 a0 d1 h.d32 (by have:=h.le;omega);have hE:((fJ w n es).1.2≠0∧_)∨((fJ w n es).1.2=0∧_):=hE;rcases hE with⟨C,o⟩|⟨C,E,oc,o,S,U,e4,e5,e6,e7,e8,Q,G,a5,L,a6⟩
 ·rw[an C]at r;rw[r];have g:Gr (λt=>t.1≠103) w.ts (fJ w n es).2.1:=d2.trans (o.gr.imp λt q=>q.1);have A:∀i,i<5→(w.su (w.d+1+1) (fJ w n es).2).cl i=w.cl i:=λi j=>by rcases io j with rfl|rfl|rfl|rfl|rfl<;>rfl
  exact .inl ⟨C,rfl,h.same ⟨rfl,rfl,rfl,rfl,rfl⟩ g o.su.w (λi j=>by rw[A i j];exact(h.cl i j).gr g) (λi j=>by rw[A i j];exact⟨rfl,rfl⟩),⟨rfl,rfl,rfl,rfl,rfl⟩,es,hg,C,rfl,g⟩
 ·rw[ag (λq=>q C)]at r;have o:(fJ w n es).1.1=E:=o;have Q:Ok (λt=>gy t∨t=(103,[w.se 0 1,dL E],())) (10000*(k+1)+10100) (Ea w).2.1 (fJ w n es).2:=Q;have G:Nm (fJ w n es).2.1 E.2.2.2.2.2.2.1 (103,[w.se 0 1,dL E],()):=G;have L:Nm (fJ w n es).2.1 w.lg.1 (118,[w.se 0 1],()):=L;have a1:(fJ w n es).2.1.length≤4294967296:=by have:=Q.su.k.2;omega
  have E1:E.1=(w.lg.2.1.length:Int)+1:=by rw[S];rfl
  have E2:E.2.1=kJ w.lg.2.1 w.lg.2.2.1 w.lg.2.1.length:=by rw[S];rfl
  have E3:E.2.2.1=vY n 0 w.al:=by rw[S];rfl
  have E4:E.2.2.2.1=es:=by rw[S];rfl
  have hT:(vZ w n es).1=0:=by
   unfold vZ;rw[o];exact a11 _ a1 U E1 E2 G L (by rw[E3,E4];exact e4)
  rw[ag (λq=>q hT)]at r;obtain⟨z,hz,r⟩:=r;have f:=rN v C (g:=t8 w.go es) (by rw[pV];exact v.go)
  have M:(vZ w n es).2=((w.lg.1,w.lg.2.1++[Ed E],w.lg.2.2.1++[(dT (104,[dL E],()) (fJ w n es).2.1 (fJ w n es).2.2).1],()),(dT (104,[dL E],()) (fJ w n es).2.1 (fJ w n es).2.2).2):=by
   have:=(a1w (lg:=w.lg) (e:=(fJ w n es).1.1) (ts:=(fJ w n es).2.1) (m:=(fJ w n es).2.2) hT).2.2.2;rw[o]at this;unfold vZ;rw[o];exact this
  have a7:=(kT U).2.1;have P:=zV (k:=10000*(k+1)+10099) (t:=(104,[dL E],())) Q.su (jT (by decide) (by decide) (by unfold aB;omega));generalize hD:dT (104,[dL E],()) (fJ w n es).2.1 (fJ w n es).2.2=D at*;obtain⟨c,B⟩:∃c,c=(w.mb n es (t8 w.go es)).stl (w.st++[gO E]) (w.ln++[0]):=⟨_,rfl⟩
  have H:c.ts=D.2.1∧c.m=D.2.2∧c.lg=(w.lg.1,w.lg.2.1++[Ed E],w.lg.2.2.1++[D.1],())∧c.st=w.st++[gO E]∧c.ln=w.ln++[0]∧c.sec=w.sec∧c.al=w.al∧c.go=t8 w.go es:=by
   rw[B];refine⟨?_,?_,?_,rfl,rfl,rfl,rfl,rfl⟩
   ·show(vZ w n es).2.2.1=_;rw[M]
   ·show(vZ w n es).2.2.2=_;rw[M]
   ·show(vZ w n es).2.1=_;rw[M]
  obtain⟨H,m2,F,W,m5,X,m7,m8⟩:=H;have x:dK w c md (md++[(0,true,())]):=⟨X,m7,λa ha=>by rw[m8];exact xT _ _ ha,⟨_,W⟩,⟨_,rfl⟩,by rw[F],⟨[Ed E],by rw[F]⟩,⟨[D.1],by rw[F]⟩⟩
  have g:Gr (λt=>t.1≠103∨t=(103,[w.se 0 1,dL E],())) w.ts c.ts:=by
   rw[H];exact(d2.imp λt q=> .inl q).trans ((Q.gr.imp λt q=>q.imp (λq=>q.1) id).trans (P.1.gr.imp λt q=> .inl (by rw[q];show(104:BitVec 8)≠103;decide)))
  have a2:c.se 0 1=w.se 0 1:=by unfold Wd.se;rw[X]
  have A:∀i,i<5→c.cl i=w.cl i:=λi j=>by rw[B];exact a12 w n es _ _ _ j
  have A1:Au c (md++[(0,true,())]):=by
   refine h.ext x g (by rw[H,m2];exact P.1.su.w) (λi j=>by rw[A i j];exact(h.cl i j).ext x v.lg.1.2.1 g) (λi j=>by rw[A i j];exact⟨rfl,rfl⟩) ?_ ?_ ?_ ?_ ?_
   ·intro i e s;rw[F]at s;have s:(w.lg.2.1++[Ed E])[i]?=some e:=s;rw[m7];rcases bN i w.lg.2.1.length with q|q
    ·rw[cH q]at s;exact h.es i e s
    ·rw[bB q]at s
     have C:i-w.lg.2.1.length=0:=by
      rcases Nat.eq_zero_or_pos (i-w.lg.2.1.length)with u|u
      ·exact u
      ·rw[bY (by simp;omega)]at s;cases s
     rw[C]at s;have s:=Option.some.inj s;subst s;refine⟨?_,λp N=>?_⟩
     ·show E.1=_;omega
     ·have N:p∈E.2.2.1:=N;rw[E3]at N;exact oF N
   ·rw[F,W];have:=h.le;show(w.lg.2.1++[Ed E]).length≤_;simp;omega
   ·intro d Y;rw[F]at Y;have Y:d∈w.lg.2.2.1++[D.1]:=Y;rcases aY.1 Y with q|q
    ·exact h.d32 d q
    ·rw[cg.1 q];exact P.2.len32 (by show(104:BitVec 8)≠98;decide) (by show(104:BitVec 8)≠103;decide)
   ·rw[W,aa,aa,h.ml];rfl
   ·intro t ht h3 _;rcases ht with q|q
    ·exact absurd h3 q
    ·refine .inl ⟨w.st.length,E,D.1,?_,?_,U,by rw[a2];exact q,?_,?_,?_,?_⟩
     ·rw[W,bB (aC _)];simp
     ·rw[bB (by rw[h.ml];exact aC _),h.ml];simp
     ·rw[H,q];exact P.1.gr.nm G
     ·rw[F];show(w.lg.2.1++[Ed E])[(E.1-1).toNat]?=_;rw[show(E.1-1).toNat=w.lg.2.1.length by omega,bB (aC _)];simp
     ·rw[F];show(w.lg.2.2.1++[D.1])[(E.1-1).toNat]?=_;rw[show(E.1-1).toNat=w.lg.2.2.1.length by have:=v.lg.1.2.1;omega,bB (aC _)];simp
     ·rw[H];exact P.2
  have O:=MD (i:=0) (by omega) (w.st++[gO E]) (w.ln++[0]) hz;rw[←B,o]at O
  have J:di c (k+1):=by
   rw[B];have N:=(rM v n es).2 C;rw[o]at N;refine⟨λi j=>?_,f.ts,f.sec,f.al,f.lg,f.l5,f.go,⟨?_,?_,λb hb=>?_⟩,f.dr⟩
   ·have:=f.cl i j
    rwa [show((w.mb n es (t8 w.go es)).stl (w.st++[gO E]) (w.ln++[0])).cl i=(w.mb n es (t8 w.go es)).cl i by rcases io j with rfl|rfl|rfl|rfl|rfl<;>rfl]
   ·show(w.st++[gO E]).length≤1000;rw[aa,bb];omega
   ·show(w.ln++[0]).length=(w.st++[gO E]).length;rw[aa,aa,v.st.2.1];rfl
   ·have hb:b∈w.st++[gO E]:=hb;rcases aY.1 hb with q|q
    ·exact v.st.2.2 b q
    ·rw[cg.1 q];exact N.2.1
  obtain⟨f1,f2,f3,f4⟩:=Ae A1 J (by omega) O
  have R:z.2.st=w.st:=by
   have:=(jd hz);exact this.1
  have a3:z.2.ln=w.ln:=(jd hz).2.1
  have K:y.2=z.2.stl (w.st++[gO E]) (w.ln++[0]):=by
   rw[r];show({z.2 with st:=z.2.st++[gO (fJ w n es).1.1],ln:=z.2.ln++[0]}:Wd)=_;rw[R,a3,o];rfl
  refine .inr ⟨by rw[r],by rw[r];show(z.2.st.length:Int)+1=_;rw[R],by rw[K];exact f1,by rw[K];exact f2.sec.trans X,by rw[K];exact f2.al.trans m7,es,E,hg,?_,?_,?_,?_,E3,E4,o,U,C,c,z.1,B,A1,J,by rw[K];exact O,g,by rw[F],X,by rw[H,hD],by rw[H];exact P.1.gr.imp λ_ _=>trivial⟩
  ·rw[K];exact f2.go.trans m8
  ·rw[K];rfl
  ·rw[K];rfl
  ·rw[K];have:=f2.lg;rw[F]at this;exact aI (λl:Lg=>l.2.1) this
theorem sf.lg{w w':Wd}{ts:List Tm}{c:Cl}(e:w'.lg=w.lg)(h:sf w ts c):sf w' ts c:=let⟨⟨k,a⟩,b⟩:=h;⟨⟨k,by rw[e];exact a⟩,b⟩
theorem Jd{w:Wd}{md:List Md}(h:Au w md)(b:BL)(n a:Int)(f:Bool):Au (w.keep b n) (md++[(a,f,())]):=
 h.ext (K:=λ_=>False) (w':=w.keep b n) ⟨rfl,rfl,λ_ q=>q,⟨[b],rfl⟩,⟨_,rfl⟩,rfl,⟨[],by simp[Wd.keep]⟩,⟨[],by simp[Wd.keep]⟩⟩ (Gr.refl _ _) h.su
  (λi c=>(show sf w w.ts ((w.keep b n).cl i)by
   have e:(w.keep b n).cl i=w.cl i:=by rcases io c with rfl|rfl|rfl|rfl|rfl<;>rfl
   rw[e];exact h.cl i c))
  (λi c=>by rcases io c with rfl|rfl|rfl|rfl|rfl<;>exact⟨rfl,rfl⟩) h.es (by show w.lg.2.1.length≤(w.st++[b]).length;have:=h.le;simp;omega) h.d32 (by show _=(w.st++[b]).length;rw[aa,aa,h.ml];rfl) (λt q=>q.elim)
theorem vK{w w':Wd}{md:List Md}{a:Nat}{b:Bool}{l:Lt}{hh:BL}(h:Au w md)(s:a<5)(o:w'.sec=w.sec)(p:w'.al=w.al)(r:w'.go=w.go)(c:w'.lg=w.lg)(e:w'.st=w.st++[hX l])
 (g:Gr (λt=>gy t∨t=(103,[w.se a 1,eg l++tx hh],())) w.ts w'.ts) (u:Gc w'.ts w'.m) (v:∀i:Nat,i<5→sf w w'.ts (w'.cl i)) (x:∀i:Nat,i<5→(w'.cl i).sg=(w.cl i).sg∧(w'.cl i).se=(w.cl i).se)
 (y:mM l=true) (z:Nm w'.ts hh (104,[l.2.2.2.2.2.1],())) (A:Nm w'.ts l.2.2.2.2.2.2.1 (103,[w.se a 1,eg l++tx hh],())) (f:b=true∧l.2.1=a∨b=false∧w.go.getD a false=true):Au w' (md++[((a:Int),b,())]):=by
 have n:∀i j,w'.se i j=w.se i j:=λi j=>by unfold Wd.se;rw[o]
 refine h.ext ⟨o,p,λ_ q=>by rw[r];exact q,⟨_,e⟩,⟨_,rfl⟩,by rw[c],⟨[],by rw[c,bj]⟩,⟨[],by rw[c,bj]⟩⟩ g u (λi B=>(v i B).lg c) x (by rw[c,p];exact h.es) ?_ (by rw[c];exact h.d32) ?_ ?_
 ·rw[c,e,aa];have:=h.le;omega
 ·rw[e,aa,aa,h.ml];rfl
 ·intro t C D _;rcases C with q|q
  ·exact absurd D q.1
  ·refine .inr (.inl ⟨w.st.length,l,a,b,hh,?_,?_,y,s,by rw[n];exact q,z,by rw[q];exact A,by rw[r];exact f⟩)
   ·rw[e,bB (aC _)];simp
   ·rw[bB (by rw[h.ml];exact aC _),h.ml];simp
def Wd.told(w:Wd)(i:Nat)(z:(BL×Int)×La×List Tm×KV):Wd:=w.aft i ({w.cl i with la:=z.2.1},z.2.2.1,z.2.2.2)
def Wd.wrt(w:Wd)(i:Nat)(z:(BL×Int)×Pg×Ln×List Tm×KV):Wd:=w.aft i ({w.cl i with pg:=z.2.1,bk:=z.2.2.1},z.2.2.2.1,z.2.2.2.2)
theorem jE(w:Wd)(b:BL)(n:Int){i:Nat}(hi:i<5):(w.keep b n).cl i=w.cl i:=by rcases io hi with rfl|rfl|rfl|rfl|rfl<;>rfl
theorem a6d(l:Lt):(l.1,l.2.1,l.2.2.1,l.2.2.2.1,l.2.2.2.2.1,l.2.2.2.2.2.1,l.2.2.2.2.2.2.1,())=l:=rfl
structure LtM(w:Wd)(ts:List Tm)(a:Nat)(ep text:BL)(l:Lt):Prop where
 ok:mM l=true
 au:l.2.1=a
 key:ep.length=32
 pad:(lq text).2=0
 box:∃kk,Nm ts kk (107,[ep,lR l],())∧Nm ts l.2.2.2.2.2.1 (98,[kk,dx l.2.2.2.1,eg l,(lq text).1],())
theorem BV{w:Wd}{md:List Md}(h:Au w md){n i:Nat}(q:di w (n+1))(hi:i<5){l0:Lt}{text:BL}{z:(Lt×Int)×List Tm×KV}(a:z=nF (w.cl i).c (w.cl i).sg (w.cl i).lg (w.cl i).km l0 text w.ts w.m):
 (z.1.2≠0∧z.2=(w.ts,w.m))∨
 (z.1.2=0∧∃hh,Ok (λt=>gy t∨t=(103,[w.se i 1,eg z.1.1++tx hh],())) (10000*(n+1)+9000) w.ts z.2∧Nm z.2.1 hh (104,[z.1.1.2.2.2.2.2.1],())∧Nm z.2.1 z.1.1.2.2.2.2.2.2.1 (103,[w.se i 1,eg z.1.1++tx hh],())∧
  LtM w z.2.1 i ((aU .i64 ((w.cl i).lg.2.1.length:Int) (w.cl i).km).getD []) text z.1.1∧z.1.1.2.2.1=(w.cl i).lg.2.1.length∧z.1.1.1=l0.1∧z.1.1.2.2.2.1=l0.2.2.2.1∧z.1.1.2.2.2.2.1=l0.2.2.2.2.1):=by
 have f:=(q.cl i hi).2.1;have r:Su (10000*(n+1)+9000+4) w.ts w.m:=(vJ h q).mono (by omega);unfold nF at a;rw[ck,f,(h.own i hi).1]at a;rcases QY (sec:=w.se i 1) (ep:=(aU .i64 ((w.cl i).lg.2.1.length:Int) (w.cl i).km).getD []) (text:=text) (l:=(l0.1,(i:Int),((w.cl i).lg.2.1.length:Int),l0.2.2.2)) r with⟨j,e⟩|⟨s,b,hh,g,y,j,e,D,u,v,x,A,B,C,o,p⟩
 ·rw[←a]at j e;exact .inl ⟨j,e⟩
 ·rw[v]at a;subst a;refine .inr ⟨rfl,hh,x,C,o,⟨p,rfl,e,u,s,A,B⟩,rfl,rfl,rfl,rfl⟩
theorem Je(w:Wd){i j:Nat}(hi:i<5)(a:j<5)(z:(BL×Int)×La×List Tm×KV):(w.told i z).cl j=if j=i then{w.cl i with la:=z.2.1}else w.cl j:=vI w hi a _
theorem ME{w:Wd}{md:List Md}(h:Au w md){n i:Nat}(x:di w (n+1))(hi:i<5){a:Int}{t:BL}{z:(BL×Int)×La×List Tm×KV}(b:z=mF a t (w.cl i).c (w.cl i).sg (w.cl i).lg (w.cl i).la (w.cl i).km w.ts w.m):
 (z.1.2≠0∧z.2=((w.cl i).la,w.ts,w.m))∨
 (z.1.2=0∧(∀o:Int,Au ((w.told i z).keep z.1.1 o) (md++[((i:Int),true,())]))∧z.2.1=Kd (w.cl i).la a (w.cl i).c (xH (w.cl i).la a (w.cl i).c+1)∧
  ∃(l:Lt)(hh:BL),z.1.1=hX l∧Ok (λt=>gy t∨t=(103,[w.se i 1,eg l++tx hh],())) (10000*(n+1)+9000) w.ts z.2.2∧LtM w z.2.2.1 i ((aU .i64 ((w.cl i).lg.2.1.length:Int) (w.cl i).km).getD []) t l∧l.2.2.1=(w.cl i).lg.2.1.length∧l.1=a∧l.2.2.2.1=xH (w.cl i).la a (w.cl i).c+1∧l.2.2.2.2.1=[]):=by
 unfold mF at b;rw[ck]at b;split at b
 ·rename_i g;subst b;exact .inl ⟨g,rfl⟩
 split at b
 ·subst b;exact .inl ⟨by simp,rfl⟩
 dsimp only at b;have y:=BV (l0:=(a,0,0,xH (w.cl i).la a (w.cl i).c+1,[],[],[],())) (text:=t) h x hi rfl;generalize nF (w.cl i).c (w.cl i).sg (w.cl i).lg (w.cl i).km (a,0,0,xH (w.cl i).la a (w.cl i).c+1,[],[],[],()) t w.ts w.m=s at*;rcases y with⟨u,f⟩|⟨u,hh,f,A,B,v,C,D,E,F⟩
 ·rw[an u]at b;subst b;exact .inl ⟨u,by dsimp only;rw[f]⟩
 ·rw[ag (λq=>q u)]at b;subst b;refine .inr ⟨rfl,λo=>?_,rfl,s.1.1,hh,rfl,f,v,C,D,E,F⟩;have G:∀o,(((w.told i ((hX s.1.1,0),Kd (w.cl i).la a (w.cl i).c (xH (w.cl i).la a (w.cl i).c+1),s.2)).keep (hX s.1.1) o).ts=s.2.1∧((w.told i ((hX s.1.1,0),Kd (w.cl i).la a (w.cl i).c (xH (w.cl i).la a (w.cl i).c+1),s.2)).keep (hX s.1.1) o).m=s.2.2):=λ_=>⟨rfl,rfl⟩;obtain⟨r,H,J⟩:=hY w i ({w.cl i with la:=Kd (w.cl i).la a (w.cl i).c (xH (w.cl i).la a (w.cl i).c+1)},s.2.1,s.2.2);refine vK (hh:=hh) (l:=s.1.1) (w':=(w.told i ((hX s.1.1,0),Kd (w.cl i).la a (w.cl i).c (xH (w.cl i).la a (w.cl i).c+1),s.2)).keep (hX s.1.1) o) h hi r.sec r.al r.go r.lg (by show(w.aft i _).st++_=_;rw[r.st]) f.gr f.su.w (λj p=>?_) (λj p=>?_) v.ok A B (.inl ⟨rfl,v.au⟩)
  ·rw[jE _ _ _ p,Je w hi p];split
   ·exact⟨(h.cl i hi).1,(h.cl i hi).2.gr f.gr⟩
   ·exact(h.cl j p).gr f.gr
  ·rw[jE _ _ _ p,Je w hi p];split
   ·rename_i e;subst e;exact⟨rfl,rfl⟩
   ·exact⟨rfl,rfl⟩
theorem U4{lk:Lk}{bk:Ln}{ts:List Tm}{m:KV}(a:pw lk=true)(c:lk.2.1=((dt bk lk.1).length:Int)+1)(b:(fu bk lk.1).2.2.1=lk.2.2.2.1)(h:(iB lk bk ts m).1≠0):
 0<(dt bk lk.1).length∧lk.2.2.1<((dt bk lk.1).getD ((dt bk lk.1).length-1) pa).2.2.1∧(iB lk bk ts m).2=(ts,m):=by
 unfold iB at h⊢;rw[ag (by rw[a];decide),ag (by omega),ag (by omega),ag (λq=>q b)]at h⊢;by_cases g:0<(dt bk lk.1).length∧lk.2.2.1<((dt bk lk.1).getD ((dt bk lk.1).length-1) pa).2.2.1
 ·rw[an g];exact⟨g.1,g.2,rfl⟩
 ·rw[ag g]at h;exact absurd rfl h
theorem a14{l:Lt}{hh:BL}(h:yc l)(a:l.1=2)(b:hh.length=32):pw (l.2.1,l.2.2.2.1,l.2.2.1,l.2.2.2.2.1,hh,())=true:=by
 obtain⟨o,p,c,f,g,i,j,m,n⟩:=h;unfold pw;refine decide_eq_true ⟨c,f,j,m,g,i,b,?_⟩;rcases n with q|q
 ·exact .inr q.2
 ·exact .inl ⟨q.2.resolve_left λe=>e a,q.1⟩
theorem ua(w:Wd){i j:Nat}(hi:i<5)(a:j<5)(z:(BL×Int)×Pg×Ln×List Tm×KV):(w.wrt i z).cl j=if j=i then{w.cl i with pg:=z.2.1,bk:=z.2.2.1}else w.cl j:=vI w hi a _
theorem U5{w:Wd}{md:List Md}(h:Au w md){n i:Nat}(X:di w (n+1))(hi:i<5){ops:List Op}{L:Int×Pg}{z:(BL×Int)×Pg×Ln×List Tm×KV}
 (f:z=BK (w.cl i).c (w.cl i).sg (w.cl i).lg (w.cl i).pg (w.cl i).km (w.cl i).bk ops L w.ts w.m):
 (z.1.2≠0∧Au (w.wrt i z) md∧eP w (w.wrt i z))∨
 (z.1.2=0∧(∀M:Int,Au ((w.wrt i z).keep z.1.1 M) (md++[((i:Int),true,())]))∧
  ∃(l:Lt)(hh:BL),z.1.1=hX l∧Ok (λt=>gy t∨t=(103,[w.se i 1,eg l++tx hh],())) (10000*(n+1)+8000) w.ts z.2.2.2∧LtM w z.2.2.2.1 i ((aU .i64 ((w.cl i).lg.2.1.length:Int) (w.cl i).km).getD []) (ej ops) l∧l.2.2.1=(w.cl i).lg.2.1.length∧l.1=2):=by
 have C:=(X.cl i hi).2.1;have p:∀z,eP w (w.wrt i z):=λz=>(hY w i _).1
 have err:∀e:Int,e≠0→∀z:(BL×Int)×Pg×Ln×List Tm×KV,z=(([],e),(w.cl i).pg,(w.cl i).bk,w.ts,w.m)→(z.1.2≠0∧Au (w.wrt i z) md∧eP w (w.wrt i z)):=by
  intro e he z f;subst f;refine⟨he,h.same (p _) (Gr.refl _ _) h.su (λj r=>?_) (λj r=>?_),p _⟩
  ·rw[ua w hi r];split
   ·exact h.cl i hi
   ·exact h.cl j r
  ·rw[ua w hi r];split
   ·rename_i e;subst e;exact⟨rfl,rfl⟩
   ·exact⟨rfl,rfl⟩
 unfold BK at f;rw[ck]at f;split at f
 ·rename_i g;exact .inl (err _ g z f)
 split at f
 ·exact .inl (err 1 (by decide) z f)
 split at f
 ·exact .inl (err 14 (by decide) z f)
 split at f
 ·rename_i g;exact .inl (err _ g z f)
 dsimp only at f;have hs:=BV (l0:=(2,0,0,(fu (w.cl i).bk (w.cl i).c).2.1+1,(fu (w.cl i).bk (w.cl i).c).2.2.1,[],[],())) (text:=ej ops) h X hi rfl;generalize nF (w.cl i).c (w.cl i).sg (w.cl i).lg (w.cl i).km (2,0,0,(fu (w.cl i).bk (w.cl i).c).2.1+1,(fu (w.cl i).bk (w.cl i).c).2.2.1,[],[],()) (ej ops) w.ts w.m=s at*;rcases hs with⟨F,u⟩|⟨F,hh,u,G,e4,y,e6,N,e8,e9⟩
 ·rw[an F]at f;exact .inl (err _ F z (by rw[f,u]))
 ·rw[ag (λq=>q F)]at f;obtain⟨⟨l,er⟩,b,o⟩:=s;dsimp only at*;subst F;have H:=(fv y.ok).1;have B:hh.length=32:=G.len32 (by show(104:BitVec 8)≠98;decide) (by show(104:BitVec 8)≠103;decide)
  have eh:dT (104,[l.2.2.2.2.2.1],()) b o=(hh,b,o):=by
   have Y:=SY u.su.w G.le;have hb:eC (104,[l.2.2.2.2.2.1],()):=u.su.k.1 _ G.le;have q2:=(zV (k:=10000*(n+1)+8999) u.su hb).2;rw[Y]at q2;exact rV (Nm.inj u.su.w q2 G) Y
  unfold wrK at f;dsimp only at f;rw[eh]at f;dsimp only at f;have O:=a14 H N B;generalize v:(l.2.1,l.2.2.2.1,l.2.2.1,l.2.2.2.2.1,hh,())=lk at*;have P:lk.1=(i:Int):=by rw[←v];exact y.au
  have a0:0≤(w.cl i).c∧(w.cl i).c<5:=by rw[C];omega
  have Q:(fu (w.cl i).bk (w.cl i).c).2.1=((dt (w.cl i).bk (i:Int)).length:Int):=by
   unfold fu;rw[ag (by omega),C]
  have k2:lk.2.1=((dt (w.cl i).bk lk.1).length:Int)+1:=by
   rw[P,←Q,←e8,←v]
  have k3:(fu (w.cl i).bk lk.1).2.2.1=lk.2.2.2.1:=by
   rw[P,←C,←e9,←v]
  have D:zW b (w.cl i).bk:=(h.cl i hi).2.gr u.gr;have E:=tkP (lk:=lk) (bk:=(w.cl i).bk) (k:=10000*(n+1)+8000) (u.su.mono (by omega));have hB:=I1 (lk:=lk) (k:=10000*(n+1)+8000) (u.su.mono (by omega)) D;by_cases g:(nK lk (w.cl i).bk b o).1=0
  ·rw[ag (λq=>q g)]at f;subst f;have A:=(u.mono (k:=10000*(n+1)+8000) (by omega)).trans (show Ok _ _ _ _ from⟨E.su,E.gr.imp λt q=> .inl q⟩);refine .inr ⟨rfl,λM=>?_,l,hh,rfl,A,⟨y.ok,y.au,y.key,y.pad,?_⟩,e6,N⟩
   ·obtain⟨J,a2,a3⟩:=hY w i ({w.cl i with pg:=L.2,bk:=(nK lk (w.cl i).bk b o).2.1},(nK lk (w.cl i).bk b o).2.2.1,(nK lk (w.cl i).bk b o).2.2.2);refine vK (hh:=hh) (l:=l) (w':=(w.wrt i ((hX l,0),L.2,(nK lk (w.cl i).bk b o).2)).keep (hX l) M) h hi J.sec J.al J.go J.lg (by show(w.aft i _).st++_=_;rw[J.st]) A.gr A.su.w (λj r=>?_) (λj r=>?_) y.ok (E.gr.nm G) (E.gr.nm e4) (.inl ⟨rfl,y.au⟩)
    ·rw[jE _ _ _ r,ua w hi r];split
     ·exact⟨(h.cl i hi).1,hB⟩
     ·exact(h.cl j r).gr A.gr
    ·rw[jE _ _ _ r,ua w hi r];split
     ·rename_i e;subst e;exact⟨rfl,rfl⟩
     ·exact⟨rfl,rfl⟩
   ·obtain⟨kk,b1,b2⟩:=y.box;exact⟨kk,E.gr.nm b1,E.gr.nm b2⟩
  ·rw[an g]at f
   have gc:(iB lk (w.cl i).bk b o).1≠0:=by
    intro q;apply g;unfold nK;rw[an q]
   have et:nK lk (w.cl i).bk b o=((iB lk (w.cl i).bk b o).1,(w.cl i).bk,(iB lk (w.cl i).bk b o).2):=by
    unfold nK;rw[ag gc]
   obtain⟨o1,o2,o3⟩:=U4 O k2 k3 gc;rw[et,o3]at f;have f:z=(([],(iB lk (w.cl i).bk b o).1),(w.cl i).pg,(w.cl i).bk,b,o):=f
   have R:(dt (w.cl i).bk lk.1)[(dt (w.cl i).bk lk.1).length-1]?=some ((dt (w.cl i).bk lk.1).getD ((dt (w.cl i).bk lk.1).length-1) pa):=by
    rw[az,ap (by omega)];rfl
   obtain⟨S,p1,p2,p3,p4,p5⟩:=D _ _ _ R;have K:=zX (bk:=(w.cl i).bk) (a:=lk.1) (by rw[P];omega);rw[ag (by omega),k3]at K;rw[←K]at p5;have U:lk.2.2.2.1=l.2.2.2.2.1:=by rw[←v]
   have W:lk.2.2.1=l.2.2.1:=by rw[←v]
   refine .inl ⟨by rw[f];exact gc,?_,p _⟩;subst f
   have x:dK w (w.wrt i (([],(iB lk (w.cl i).bk b o).1),(w.cl i).pg,(w.cl i).bk,b,o)) md md:=by
    have s:=p (([],(iB lk (w.cl i).bk b o).1),(w.cl i).pg,(w.cl i).bk,b,o);exact⟨s.sec,s.al,λa q=>by rw[s.go];exact q,⟨[],by rw[s.st,bj]⟩,⟨[],by rw[bj]⟩,by rw[s.lg],⟨[],by rw[s.lg,bj]⟩,⟨[],by rw[s.lg,bj]⟩⟩
   have s:=p (([],(iB lk (w.cl i).bk b o).1),(w.cl i).pg,(w.cl i).bk,b,o);refine h.ext x u.gr u.su.w (λj r=>?_) (λj r=>?_) (by rw[s.lg,s.al];exact h.es) (by rw[s.lg,s.st];exact h.le) (by rw[s.lg];exact h.d32) (by rw[s.st];exact h.ml) ?_
   ·rw[ua w hi r];refine sf.lg s.lg ?_;split
    ·exact⟨(h.cl i hi).1,D⟩
    ·exact(h.cl j r).gr u.gr
   ·rw[ua w hi r];split
    ·rename_i e;subst e;exact⟨rfl,rfl⟩
    ·exact⟨rfl,rfl⟩
   ·intro t ht h3 _;rcases ht with q|q
    ·exact absurd h3 q.1
    ·refine .inr (.inr ⟨l,i,hh,S,hi,H,N,by rw[s.se];exact q,B,p1,by rw[←U];exact p5,?_⟩);rw[p4,←W];exact o2
def ip(w:Wd)(s:lw):Ad:=
 if s.2.1<0∨5≤s.2.1∨400≤w.st.length∨w.go.getD s.2.1.toNat false=false then((26,0),w)
 else if(aU .i64 s.2.2.2.1 (w.ky s.2.1.toNat)).isSome=false then((22,0),w)
 else
  let z:=r9 (w.se s.2.1.toNat 1) ((aU .i64 s.2.2.2.1 (w.ky s.2.1.toNat)).getD []) s.2.2.2.2.2.2.2 s.2.2.2.2.2.2.1 w.ts w.m
  if z.1.2≠0 then((z.1.2,0),w.su w.d z.2)else Ec (w.su w.d z.2) (hX z.1.1) s.2.2.2.2.2.2.1.length
def Af:Ct:=⟨2,⟨[sP 0,Wc 1],jK⟩,[⟨[(0,true,[.d D9])],IJ 33++pT 33⟩],λ(s,F,G,H,J,K,L,M,N,O,a,b,c,e,f,g,h,i,j,l,o,p,q,r,t,u,v,w,x,z,A,B,C,D,E,_)=>du (s.2.2.2.2.2.2.1.length≤1000000∧∃n,di (cw (F,G,H,J,K,L,M,N,O,a,b,c,e,f,g,h,i,j,l,o,p,q,r,t,u,v,w,x,z,A,B,C,D,E,())) (n+1)) (ip (cw (F,G,H,J,K,L,M,N,O,a,b,c,e,f,g,h,i,j,l,o,p,q,r,t,u,v,w,x,z,A,B,C,D,E,())) s) λy=>((y.1.1,y.1.2,jh),y.2.sec,y.2.al,y.2.go,y.2.d,y.2.m,(cA y.2.c0),(bC y.2.c0),y.2.c0.km,(cA y.2.c1),(bC y.2.c1),y.2.c1.km,(cA y.2.c2),(bC y.2.c2),y.2.c2.km,(cA y.2.c3),(bC y.2.c3),y.2.c3.km,(cA y.2.c4),(bC y.2.c4),y.2.c4.km,y.2.k0,y.2.k1,y.2.k2,y.2.k3,y.2.k4,y.2.lg,y.2.ts,y.2.c0.bk,y.2.c1.bk,y.2.c2.bk,y.2.c3.bk,y.2.c4.bk,y.2.st,y.2.ln,())⟩
def cSt:Option CP:=some (.cells [.d I9])
def a15:cc:=⟨[sP 0,(3,false,[.ptr 33 0]),(4,false,[.ptr 34 0])],jK++[cSt,Eb]⟩
def U6(x:Af.inp.den)(y:a15.den):Prop:=match x,y with
 |(s,E,F,G,H,J,K,L,M,N,a,b,c,e,f,g,h,i,j,l,m,n,o,p,q,r,t,u,v,w,z,A,B,C,D,_),(b1,b2,b3,b4,b5,b6,b7,b8,b9,O,P,Q,R,S,U,W,X,Y,a0,b0,c0,c1,c2,c3,c4,c5,c6,c7,c8,c9,d0,d1,d2,d3,s1,_)=>(cw (b1,b2,b3,b4,b5,b6,b7,b8,b9,O,P,Q,R,S,U,W,X,Y,a0,b0,c0,c1,c2,c3,c4,c5,c6,c7,c8,c9,d0,d1,d2,d3,()))=(cw (E,F,G,H,J,K,L,M,N,a,b,c,e,f,g,h,i,j,l,m,n,o,p,q,r,t,u,v,w,z,A,B,C,D,()))∧s1=s∧¬(s.2.1<0∨5≤s.2.1∨400≤(cw (E,F,G,H,J,K,L,M,N,a,b,c,e,f,g,h,i,j,l,m,n,o,p,q,r,t,u,v,w,z,A,B,C,D,())).st.length∨(cw (E,F,G,H,J,K,L,M,N,a,b,c,e,f,g,h,i,j,l,m,n,o,p,q,r,t,u,v,w,z,A,B,C,D,())).go.getD s.2.1.toNat false=false)
def a16:cc:=⟨[sP 0,(3,false,[.ptr 33 0]),(4,false,[.ptr 34 0]),sB 5,sL 6],jK++[cSt,Eb]⟩
def Ag(x:Af.inp.den)(y:a16.den):Prop:=match x,y with
 |(s,F,G,H,J,K,L,M,N,O,a,c,e,f,g,h,i,j,l,m,n,o,p,q,r,t,u,v,w,z,A,B,C,D,E,_),(k,b,b1,b2,b3,b4,b5,b6,b7,b8,b9,P,Q,R,S,U,W,X,Y,a0,b0,c0,c1,c2,c3,c4,c5,c6,c7,c8,c9,d0,d1,d2,d3,d4,s1,_)=>(cw (b1,b2,b3,b4,b5,b6,b7,b8,b9,P,Q,R,S,U,W,X,Y,a0,b0,c0,c1,c2,c3,c4,c5,c6,c7,c8,c9,d0,d1,d2,d3,d4,()))=(cw (F,G,H,J,K,L,M,N,O,a,c,e,f,g,h,i,j,l,m,n,o,p,q,r,t,u,v,w,z,A,B,C,D,E,()))∧s1=s∧¬(s.2.1<0∨5≤s.2.1∨400≤(cw (F,G,H,J,K,L,M,N,O,a,c,e,f,g,h,i,j,l,m,n,o,p,q,r,t,u,v,w,z,A,B,C,D,E,())).st.length∨(cw (F,G,H,J,K,L,M,N,O,a,c,e,f,g,h,i,j,l,m,n,o,p,q,r,t,u,v,w,z,A,B,C,D,E,())).go.getD s.2.1.toNat false=false)∧k=(aU .i64 s.2.2.2.1 ((cw (F,G,H,J,K,L,M,N,O,a,c,e,f,g,h,i,j,l,m,n,o,p,q,r,t,u,v,w,z,A,B,C,D,E,())).ky s.2.1.toNat)).getD []∧b=(aU .i64 s.2.2.2.1 ((cw (F,G,H,J,K,L,M,N,O,a,c,e,f,g,h,i,j,l,m,n,o,p,q,r,t,u,v,w,z,A,B,C,D,E,())).ky s.2.1.toNat)).isSome
def a17:cc:=⟨[sP 0,(3,false,[.ptr 46 0]),(4,false,[.ptr 47 0]),(7,false,[.ptr 48 0]),sI 8],IJ 33++pT 33++[cSt,Eb,some (.cells [.d SR])]⟩
def xU(w:Wd)(s:lw):(Lt×Int)×List Tm×KV:=r9 (w.se s.2.1.toNat 1) ((aU .i64 s.2.2.2.1 (w.ky s.2.1.toNat)).getD []) s.2.2.2.2.2.2.2 s.2.2.2.2.2.2.1 w.ts w.m
def Ah(x:Af.inp.den)(y:a17.den):Prop:=match x,y with
 |(s,F,G,H,J,K,L,M,N,O,a,b,c,e,f,g,h,i,j,m,n,o,p,q,r,t,u,v,w,z,A,B,C,D,E,_),(er,b1,b2,b3,b4,b5,b6,b7,b8,b9,P,Q,R,S,U,W,X,Y,a0,b0,c0,c1,c2,c3,c4,c5,c6,c7,c8,c9,d0,d1,d2,d3,d4,s1,_,l,_)=>s1=s∧¬(s.2.1<0∨5≤s.2.1∨400≤(cw (F,G,H,J,K,L,M,N,O,a,b,c,e,f,g,h,i,j,m,n,o,p,q,r,t,u,v,w,z,A,B,C,D,E,())).st.length∨(cw (F,G,H,J,K,L,M,N,O,a,b,c,e,f,g,h,i,j,m,n,o,p,q,r,t,u,v,w,z,A,B,C,D,E,())).go.getD s.2.1.toNat false=false)∧(aU .i64 s.2.2.2.1 ((cw (F,G,H,J,K,L,M,N,O,a,b,c,e,f,g,h,i,j,m,n,o,p,q,r,t,u,v,w,z,A,B,C,D,E,())).ky s.2.1.toNat)).isSome=true∧(l,er)=(xU (cw (F,G,H,J,K,L,M,N,O,a,b,c,e,f,g,h,i,j,m,n,o,p,q,r,t,u,v,w,z,A,B,C,D,E,())) s).1∧(cw (b1,b2,b3,b4,b5,b6,b7,b8,b9,P,Q,R,S,U,W,X,Y,a0,b0,c0,c1,c2,c3,c4,c5,c6,c7,c8,c9,d0,d1,d2,d3,d4,()))=(cw (F,G,H,J,K,L,M,N,O,a,b,c,e,f,g,h,i,j,m,n,o,p,q,r,t,u,v,w,z,A,B,C,D,E,())).su (cw (F,G,H,J,K,L,M,N,O,a,b,c,e,f,g,h,i,j,m,n,o,p,q,r,t,u,v,w,z,A,B,C,D,E,())).d (xU (cw (F,G,H,J,K,L,M,N,O,a,b,c,e,f,g,h,i,j,m,n,o,p,q,r,t,u,v,w,z,A,B,C,D,E,())) s).2
def a6e(x:Af.inp.den):dG:=⟨[],[(3,bM a15 (U6 x) λ_=>0),(4,bM a16 (Ag x) λ_=>0),(7,bM a17 (Ah x) λ_=>0)],[],[],0⟩
abbrev rO(v:(Int×Int×Nw)×TA Unit):aN Af.out:=⟨0,v⟩
def Q5:bu:=(44,[Af])::BT
theorem a18:KK Q5:=kA xS a6e (∀(c:Int×Int×Int×Int×Int×Int×BL×Lt),let z6:= !decide (0≤c.2.1∧c.2.1<5);WA λe f d g h i j k l m n o p q r s t u v w z a0 a1 a2 a3 a4 a5 a6 a7 a8 a9 b0 a b1=>let m9:= !d.getD ((42-1-1-10-15-1-1-1-1-1-1-1-1-1-1-1)/1) false;let n0:= !d.getD ((41-1-1-10-15-1-1-1-1-1-1-1-1-1-1-1)/1) false;let z9:= !d.getD ((40-1-1-10-15-1-1-1-1-1-1-1-1-1-1-1)/1) false;let z8:= !d.getD ((39-1-1-10-15-1-1-1-1-1-1-1-1-1-1-1)/1) false;let z7:= !d.getD ((38-1-1-10-15-1-1-1-1-1-1-1-1-1-1-1)/1) false;let x:Prop:=400≤a.length;let B:=(f,d,g,h,i,j,k,l,m,n,o,p,q,r,s,t,u,v,w,z,a0,a1,a2,a3,a4,a5,a6,a7,a8,a9,b0,a,b1,());let F:=rO ((26,0,0,0,0,0,false,false,[],()),e,B);let z2:=U6 (c,e,B) (e,f,d,g,h,i,j,k,l,m,n,o,p,q,r,s,t,u,v,w,z,a0,a1,a2,a3,a4,a5,a6,a7,a8,a9,b0,a,b1,c,(0,0,0,0,0,0,false,false,[],()),());∀(Q:aN Af.out→Prop),(Tr.need (ac c.2.2.2.2.2.2.1≤1000000∧∃c,di (cw (e,B)) (c+1)) (Tr.all Ad (λy=>y=ip (cw (e,B)) c) λy=>Tr.leaf (rO ((y.1.1,y.1.2,0,0,0,0,false,false,[],()),dO y.2)))).sat Q→(True∧Br z6 (z6=true∧z6=true∧Q F) (z6=false∧True∧z6=false∧Br (decide x) (decide x=true∧decide x=true∧decide x=true∧decide x=true∧decide x=true∧decide x=true∧decide x=true∧decide x=true∧Q F) (decide x=false∧decide x=false∧decide x=false∧decide x=false∧decide x=false∧Br (c.2.1==0) (decide x=false∧decide x=false∧decide x=false∧Br z7 (Q F) (Is z2)) (Br (c.2.1==1) (decide x=false∧decide x=false∧decide x=false∧Br z8 (Q F) (Is z2)) (Br (c.2.1==2) (decide x=false∧decide x=false∧decide x=false∧Br z9 (Q F) (Is z2)) (Br (c.2.1==3) (decide x=false∧decide x=false∧decide x=false∧Br n0 (Q F) (Is z2)) (Br (c.2.1==4) (decide x=false∧decide x=false∧decide x=false∧Br m9 (Q F) (Is z2)) (False∧True))))))))∧WA λf3 f4 f5 f6 f7 f8 f9 g0 g1 g2 g3 g4 g5 g6 g7 g8 g9 h0 h1 h2 b6 b7 b8 b9 c0 h3 h4 h5 h6 h7 h8 h9 i0 i1=>∀(E:Int×Int×Int×Int×Int×Int×BL×Lt)(i2:Int×Int×Nw),let m4:=aU Ty.i64 E.2.2.2.1 c0;let m5:=aU Ty.i64 E.2.2.2.1 b9;let m6:=aU Ty.i64 E.2.2.2.1 b8;let m7:=aU Ty.i64 E.2.2.2.1 b7;let m8:=aU Ty.i64 E.2.2.2.1 b6;let z3:=(f4,f5,f6,f7,f8,f9,g0,g1,g2,g3,g4,g5,g6,g7,g8,g9,h0,h1,h2,b6,b7,b8,b9,c0,h3,h4,h5,h6,h7,h8,h9,i0,i1,E,i2,());U6 (c,e,B) (f3,z3)→(Br (E.2.1==0) (Is (Ag (c,e,B) (m8.getD [],m8.isSome,f3,z3))) (Br (E.2.1==1) (Is (Ag (c,e,B) (m7.getD [],m7.isSome,f3,z3))) (Br (E.2.1==2) (Is (Ag (c,e,B) (m6.getD [],m6.isSome,f3,z3))) (Br (E.2.1==3) (Is (Ag (c,e,B) (m5.getD [],m5.isSome,f3,z3))) (Br (E.2.1==4) (Is (Ag (c,e,B) (m4.getD [],m4.isSome,f3,z3))) (False∧True))))))∧∀(i3:BL)(i9:Bool),WA λC G H J K L M N O P R S U W X Y d6 d7 d8 d9 e0 e1 e2 e3 e4 e5 D e6 e7 e8 e9 f0 f1 f2=>∀(A:Int×Int×Int×Int×Int×Int×BL×Lt)(i4:Int×Int×Nw),Ag (c,e,B) (i3,i9,C,G,H,J,K,L,M,N,O,P,R,S,U,W,X,Y,d6,d7,d8,d9,e0,e1,e2,e3,e4,e5,D,e6,e7,e8,e9,f0,f1,f2,A,i4,())→Br (!i9) (Q (rO ((22,0,0,0,0,0,false,false,[],()),C,G,H,J,K,L,M,N,O,P,R,S,U,W,X,Y,d6,d7,d8,d9,e0,e1,e2,e3,e4,e5,D,e6,e7,e8,e9,f0,f1,f2,()))) ((Br (A.2.1==0) (bU 4 D∧∀(b:(Lt×Int)×List Tm×KV),b=r9 ((C.getD 0 (ak 2 [])).getD 1 []) i3 A.2.2.2.2.2.2.2 A.2.2.2.2.2.2.1 D K→Is (Ah (c,e,B) (b.1.2,C,G,H,J,b.2.2,L,M,N,O,P,R,S,U,W,X,Y,d6,d7,d8,d9,e0,e1,e2,e3,e4,e5,b.2.1,e6,e7,e8,e9,f0,f1,f2,A,i4,b.1.1,()))) (Br (A.2.1==1) (bU 4 D∧∀(b:(Lt×Int)×List Tm×KV),b=r9 ((C.getD 1 (ak 2 [])).getD 1 []) i3 A.2.2.2.2.2.2.2 A.2.2.2.2.2.2.1 D K→Is (Ah (c,e,B) (b.1.2,C,G,H,J,b.2.2,L,M,N,O,P,R,S,U,W,X,Y,d6,d7,d8,d9,e0,e1,e2,e3,e4,e5,b.2.1,e6,e7,e8,e9,f0,f1,f2,A,i4,b.1.1,()))) (Br (A.2.1==2) (bU 4 D∧∀(b:(Lt×Int)×List Tm×KV),b=r9 ((C.getD 2 (ak 2 [])).getD 1 []) i3 A.2.2.2.2.2.2.2 A.2.2.2.2.2.2.1 D K→Is (Ah (c,e,B) (b.1.2,C,G,H,J,b.2.2,L,M,N,O,P,R,S,U,W,X,Y,d6,d7,d8,d9,e0,e1,e2,e3,e4,e5,b.2.1,e6,e7,e8,e9,f0,f1,f2,A,i4,b.1.1,()))) (Br (A.2.1==3) (bU 4 D∧∀(b:(Lt×Int)×List Tm×KV),b=r9 ((C.getD 3 (ak 2 [])).getD 1 []) i3 A.2.2.2.2.2.2.2 A.2.2.2.2.2.2.1 D K→Is (Ah (c,e,B) (b.1.2,C,G,H,J,b.2.2,L,M,N,O,P,R,S,U,W,X,Y,d6,d7,d8,d9,e0,e1,e2,e3,e4,e5,b.2.1,e6,e7,e8,e9,f0,f1,f2,A,i4,b.1.1,()))) (Br (A.2.1==4) (bU 4 D∧∀(b:(Lt×Int)×List Tm×KV),b=r9 ((C.getD 4 (ak 2 [])).getD 1 []) i3 A.2.2.2.2.2.2.2 A.2.2.2.2.2.2.1 D K→Is (Ah (c,e,B) (b.1.2,C,G,H,J,b.2.2,L,M,N,O,P,R,S,U,W,X,Y,d6,d7,d8,d9,e0,e1,e2,e3,e4,e5,b.2.1,e6,e7,e8,e9,f0,f1,f2,A,i4,b.1.1,()))) (False∧True))))))∧∀(i7:Int),WA λj0 j1 j2 j3 j4 j5 j6 j7 j8 j9 k0 k1 k2 k3 k4 k5 k6 k7 k8 k9 l0 l1 l2 l3 l4 l5 l6 l7 l8 l9 m0 m1 i5 i8=>∀(m2:Int×Int×Int×Int×Int×Int×BL×Lt)(m3:Int×Int×Nw)(i6:Lt),Ah (c,e,B) (i7,j0,j1,j2,j3,j4,j5,j6,j7,j8,j9,k0,k1,k2,k3,k4,k5,k6,k7,k8,k9,l0,l1,l2,l3,l4,l5,l6,l7,l8,l9,m0,m1,i5,i8,m2,m3,i6,())→Br (!i7==0) (Q (rO ((i7,0,0,0,0,0,false,false,[],()),j0,j1,j2,j3,j4,j5,j6,j7,j8,j9,k0,k1,k2,k3,k4,k5,k6,k7,k8,k9,l0,l1,l2,l3,l4,l5,l6,l7,l8,l9,m0,m1,i5,i8,()))) (0+ac i6.2.2.2.2.1+ac i6.2.2.2.2.2.1+ac i6.2.2.2.2.2.2.1≤1000000000∧(i5.length≤1000000∧i8.length≤1000000)∧Q (rO ((0,(↑i5.length:Int)+1,0,0,0,0,false,false,[],()),j0,j1,j2,j3,j4,j5,j6,j7,j8,j9,k0,k1,k2,k3,k4,k5,k6,k7,k8,k9,l0,l1,l2,l3,l4,l5,l6,l7,l8,l9,m0,m1,i5++[hX i6],i8++[(↑(ac m2.2.2.2.2.2.2.1):Int)],()))))) (by kernel_rfl) (by
 conv=>zeta
 unfold Br WA dO;intro s;refine Wd.all λw=>?_;intro Q ⟨⟨R,n,v⟩,J⟩;have v:di w (n+1):=v;have p:∀y:Ad,ip w s=y→Q ⟨0,((y.1.1,y.1.2,jh),y.2.sec,y.2.al,y.2.go,y.2.d,y.2.m,(cA y.2.c0),(bC y.2.c0),y.2.c0.km,(cA y.2.c1),(bC y.2.c1),y.2.c1.km,(cA y.2.c2),(bC y.2.c2),y.2.c2.km,(cA y.2.c3),(bC y.2.c3),y.2.c3.km,(cA y.2.c4),(bC y.2.c4),y.2.c4.km,y.2.k0,y.2.k1,y.2.k2,y.2.k3,y.2.k4,y.2.lg,y.2.ts,y.2.c0.bk,y.2.c1.bk,y.2.c2.bk,y.2.c3.bk,y.2.c4.bk,y.2.st,y.2.ln,())⟩:=λy e=>J y e.symm;clear J;unfold ip at p;have bad:(s.2.1<0∨5≤s.2.1∨400≤w.st.length∨w.go.getD s.2.1.toNat false=false)→Q ⟨0,((26,0,jh),w.sec,w.al,w.go,w.d,w.m,(cA w.c0),(bC w.c0),w.c0.km,(cA w.c1),(bC w.c1),w.c1.km,(cA w.c2),(bC w.c2),w.c2.km,(cA w.c3),(bC w.c3),w.c3.km,(cA w.c4),(bC w.c4),w.c4.km,w.k0,w.k1,w.k2,w.k3,w.k4,w.lg,w.ts,w.c0.bk,w.c1.bk,w.c2.bk,w.c3.bk,w.c4.bk,w.st,w.ln,())⟩:=λh=>p ((26,0),w) (an h);refine⟨⟨trivial,λc=>⟨c,c,bad ?_⟩,λc=>⟨c,trivial,c,λd=>⟨d,d,d,d,d,d,d,d,bad (.inr (.inr (.inl (ai d))))⟩,λd=>⟨d,d,d,d,d,?_⟩⟩⟩,?_⟩
 ·have c:¬(0≤s.2.1∧s.2.1<5):=λh=>by rw[decide_eq_true h]at c;cases c
  rcases Int.lt_or_le s.2.1 0 with q|q
  ·exact .inl q
  ·exact .inr (.inl (by omega))
 ·have c:0≤s.2.1∧s.2.1<5:=by
   cases h:decide (0≤s.2.1∧s.2.1<5)with
   |true=>exact ai h
   |false=>rw[h]at c;cases c
  have M:=am d;refine⟨λe=>?_,λB=>⟨λe=>?_,λi=>⟨λe=>?_,λo=>⟨λe=>?_,λC=>⟨λe=>?_,λj=>?_⟩⟩⟩⟩⟩
  case refine_6=>exfalso;simp only[ax,ne_eq]at B i o C j;omega
  all_goals
   have x:=be e;have K:s.2.1.toNat=_:=aI Int.toNat x;refine⟨d,d,d,λg=>bad (.inr (.inr (.inr ?_))),λg=>?_⟩
   ·rw[K];have g:=aO _▸g;exact g
   ·have no:¬(s.2.1<0∨5≤s.2.1∨400≤w.st.length∨w.go.getD s.2.1.toNat false=false):=by
     rintro(q|q|q|q)
     ·omega
     ·omega
     ·exact M q
     ·have L:(!w.go.getD s.2.1.toNat false)=true:=by rw[q];rfl
      rw[K]at L;have:=L.symm.trans g;cases this
    exact⟨⟨rfl,rfl,no⟩⟩
 refine Wd.all λA=>?_;rintro t N ⟨i,o,no⟩;have i:A=w:=i;have o:t=s:=o;subst i o;have no:¬(t.2.1<0∨5≤t.2.1∨400≤A.st.length∨A.go.getD t.2.1.toNat false=false):=no
 have S:0≤t.2.1∧t.2.1<5:=by
  rw[not_or,not_or]at no;omega
 rw[ag no]at p;clear bad;refine⟨?_,?_⟩
 ·refine⟨λe=>?_,λB=>⟨λe=>?_,λi=>⟨λe=>?_,λo=>⟨λe=>?_,λC=>⟨λe=>?_,λj=>?_⟩⟩⟩⟩⟩
  case refine_6=>exfalso;simp only[ax,ne_eq]at B i o C j;omega
  all_goals
   have x:=be e;exact⟨⟨rfl,rfl,no,by show _=(aU Ty.i64 _ (A.ky t.2.1.toNat)).getD [];rw[x];rfl,by show _=(aU Ty.i64 _ (A.ky t.2.1.toNat)).isSome;rw[x];rfl⟩⟩
 intro k b;refine Wd.all λa=>?_;rintro u O ⟨i,o,_,j,r⟩;have i:a=A:=i;have o:u=t:=o;subst i o;have j:k=(aU .i64 u.2.2.2.1 (a.ky u.2.1.toNat)).getD []:=j;have r:b=(aU .i64 u.2.2.2.1 (a.ky u.2.1.toNat)).isSome:=r;refine⟨λc=>p ((22,0),a) (an ?_),λc=>?_⟩
 ·rw[←r];simpa using c
 have c:b=true:=by simpa using c
 rw[r]at c;rw[ag (by rw[c];decide)]at p;refine⟨?_,?_⟩
 ·refine⟨λe=>?_,λB=>⟨λe=>?_,λi=>⟨λe=>?_,λo=>⟨λe=>?_,λC=>⟨λe=>?_,λj=>?_⟩⟩⟩⟩⟩
  case refine_6=>exfalso;simp only[ax,ne_eq]at B i o C j;omega
  all_goals
   have x:=be e;refine⟨v.ts.mono (by omega),λz E=>?_⟩;have E:z=xU a u:=by rw[E,j];unfold xU;rw[x];rfl
   subst E;exact⟨⟨rfl,no,c,rfl,rfl⟩⟩
 clear j r;intro H;refine Wd.all λF=>?_;rintro f P l ⟨i,_,_,j,r⟩;have i:f=u:=i;subst i;have r:F=a.su a.d (xU a f).2:=r;have j:(l,H)=(xU a f).1:=j;have E:xU a f=((l,H),(xU a f).2):=by rw[j]
 have G:=lmS (k:=0) (sec:=a.se f.2.1.toNat 1) (ep:=(aU .i64 f.2.2.2.1 (a.ky f.2.1.toNat)).getD []) (l:=f.2.2.2.2.2.2.2) (text:=f.2.2.2.2.2.2.1) a.m (v.ts.mono (by omega));have G:bU 0 (xU a f).2.1∧(xU a f).1.1.2.2.2.2.1.length≤32∧(xU a f).1.1.2.2.2.2.2.1.length≤4112∧(xU a f).1.1.2.2.2.2.2.2.1.length≤64:=G;have p:∀y:Ad,(if(xU a f).1.2≠0 then(((xU a f).1.2,0),a.su a.d (xU a f).2)else Ec (a.su a.d (xU a f).2) (hX (xU a f).1.1) f.2.2.2.2.2.2.1.length)=y→Q ⟨0,((y.1.1,y.1.2,jh),y.2.sec,y.2.al,y.2.go,y.2.d,y.2.m,(cA y.2.c0),(bC y.2.c0),y.2.c0.km,(cA y.2.c1),(bC y.2.c1),y.2.c1.km,(cA y.2.c2),(bC y.2.c2),y.2.c2.km,(cA y.2.c3),(bC y.2.c3),y.2.c3.km,(cA y.2.c4),(bC y.2.c4),y.2.c4.km,y.2.k0,y.2.k1,y.2.k2,y.2.k3,y.2.k4,y.2.lg,y.2.ts,y.2.c0.bk,y.2.c1.bk,y.2.c2.bk,y.2.c3.bk,y.2.c4.bk,y.2.st,y.2.ln,())⟩:=p;rw[←r,←j]at p;rw[←j]at G;dsimp only at p G;have D:F.st=a.st∧F.ln=a.ln:=by rw[r];exact⟨rfl,rfl⟩
 refine⟨λg=>p ((H,0),F) (an (jC g)),λg=>⟨by omega,⟨?_,?_⟩,p _ (ag (jX g))⟩⟩
 ·rw[D.1];have:=v.st.1;omega
 ·rw[D.2];have:=v.st;omega) (l:=λ_=>bm)
end Go.Tp
