/- A part of the proof of TopSealedSaid: no conditions; packed by a program of our own. -/
import Derived.Test.YtgpideichgnmhaaGreatPbal
open BitVec renaming ofInt→bi,ofNat→ae
open Bool renaming not_eq_true'→aP
open Decidable renaming not_not→aC
open Go.IntKind renaming i64→gO
open Int renaming toNat_natCast→aF,eq_ofNat_of_zero_le→bR
open LE renaming le→bc
open LT renaming lt→lB
open List renaming map_cons→aY,replicate→ak,length_append→aa,length_cons→ba,append_assoc→ay,mem_append→bb,drop_of_length_le→bC,nil_append→eS,take_of_length_le→bf,append_nil→aW,mem_cons→bt,getElem?_eq_getElem→ap,getElem?_append_left→bU,getElem?_append_right→aU,length_take→be,length→ah,getD_eq_getElem?_getD→aw,getElem?_eq_none→bD,map_append→dn,length_map→bT,mem_map→dM,map→rZ,mem_cons_self→aG,mem_cons_of_mem→aA,mem_map_of_mem→fB,getElem?_eq_some_iff→cy,mem_singleton→cf,take→cM,length_singleton→bh,take_add_one→dW,take_length→br,length_set→cG
open Nat renaming min_eq_left→eB,le_refl→aD,le_trans→bq,zero_le→aq,lt_or_ge→bI,eq_zero_or_pos→jZ
open Prod renaming ext→r6
namespace Go.Tp
open Go.Hv Go.Proofs Go.RowKit
set_option maxRecDepth 100000
set_option maxHeartbeats 0
def Ue(n i:Int):Bool:=bits .and .i64 (n.fdiv (2^(min i.toNat 64))) 1==1
def sV(n:Int):Int->List Mb->List Mb
 |_,[]=>[]
 |i,m::r=>if Ue n i then m::sV n (i+1) r else sV n (i+1) r
def zu(n:Int)(was:List Int):Int->List Mb->List Int
 |_,[]=>[]
 |i,_::r=>if Ue n i then zu n was (i+1) r else(was.filter (·==i)).map (λ_=>i)++zu n was (i+1) r
def sW:List Bool->List Fk->List Bool
 |g,[]=>g
 |g,x::r=>sW (g.set x.1.toNat true) r
def Wd.su(w:Wd)(d:Int)(z:List Tm×KV):Wd:={w with d:=d,ts:=z.1,m:=z.2}
theorem zv{n:Int}{once key co:BL}(g:aB once)(o:key.length<=64)(i:aB co){k:Nat}:∀(ms:List Mb)(a:List BL)(ts:List Tm)(m:KV),(∀p∈ms,aB p.2.1)->bO (k+3*ms.length) ts->(∀b∈a,b.length<=80)->
 bO k (u5 n once key co ms a ts m).2.1/\(∀b∈(u5 n once key co ms a ts m).1.1,b.length<=80)/\(u5 n once key co ms a ts m).1.1.length<=a.length+ms.length
 |[],a,ts,m,_,e,f=>⟨e.mono (by omega),f,by show a.length<=_;omega⟩
 |p::r,a,ts,m,l,e,f=>by
  have c:=Vk (k:=k+3*r.length+1) m n p.1 g (l p (aG ..)) (e.mono (by simp;omega));simp only[u5];split
  ·exact⟨c.2.mono (by omega),by simp,by simp⟩
  ·generalize gR n p.1 once p.2.1 ts m=z at*;have s:=seS (n:=1) (j:=k+3*r.length) z.2.2 (show aB z.1.1 by have:=c.1;unfold aB;omega) i (show aB key by unfold aB;omega) c.2
   have:=zv g o i (n:=n) (key:=key) r (a++[(lY z.1.1 1 co key z.2.1 z.2.2).1]) _ (lY z.1.1 1 co key z.2.1 z.2.2).2.2 (λq t=>l q (aA _ t)) s.1 (λb c=>by
    rcases bb.1 c with c|c
    ·exact f b c
    ·simp at c;subst c;omega)
   refine⟨this.1,this.2.1,?_⟩;have h:=this.2.2;rw[aa,bh]at h;rw[ba];omega
theorem a5a{t:Tm}{k:Nat}{ts:List Tm}(m:KV)(h:bO (k+1) ts)(a:eI t):bO k (dh t ts m).2.1:=pJ m h a
theorem Uf{lg:Lg}{sec once key:BL}{ms:List Mb}{ns:List Fk}{k:Nat}{ts:List Tm}{m:KV}(A:cC lg.2.1 lg.2.2.1)(t:pI ms)(u:bO (k+40) ts):
 bO k (sb lg sec once key ms ns ts m).2.1/\((sb lg sec once key ms ns ts m).1.2=0->vk (sb lg sec once key ms ns ts m).1.1/\(fL (sb lg sec once key ms ns ts m).1.1).length<=2000000/\pw ms ns=true):=by
 have B:bO k ts:=u.mono (by omega);unfold sb;rw[ck];split
 ·exact⟨B,λh=>by cases h⟩
 rename_i i;rw[not_or,not_or]at i;have j:sec.length=32:=aC.1 i.1;have l:once.length=32:=aC.1 i.2.1;have C:key.length=32:=aC.1 i.2.2;have o:=pJ (k:=k+39) m u (kD (k:=118) (by decide) (by decide) (show aB sec by unfold aB;omega));dsimp only;generalize dh (118,[sec],()) ts m=v at*;split
 ·exact⟨o.mono (by omega),λh=>by cases h⟩
 split
 ·exact⟨o.mono (by omega),λh=>by cases h⟩
 have w:=pJ (k:=k+38) v.2.2 o (kD (k:=112) (by decide) (by decide) (show aB once by unfold aB;omega));have q:=bq (JF (112,[once],()) v.2.1 v.2.2) (Cv (by show(112:BitVec 8)≠98;decide));generalize dh (112,[once],()) v.2.1 v.2.2=p at*;split
 ·exact⟨w.mono (by omega),λh=>by cases h⟩
 rename_i y;rw[not_or]at y;have f:pw ms ns=true:=by simpa using y.1
 obtain⟨H,D,J,K,L⟩:=fX f;have r:=rG A lg.2.1.length
 have M:(fq (oK lg ms ns p.1)).length<=1002000:=by
  have:=oL (e:=oK lg ms ns p.1) f;have j:(oK lg ms ns p.1).2.1.length<=1000000:=r;have l:(oK lg ms ns p.1).2.2.2.2.1.length<=64:=q;omega
 unfold RF;dsimp only;have a:=zv (n:=lg.2.1.length+1) (k:=k+1) (show aB once by unfold aB;omega) (show key.length<=64 by omega) (show aB (fq (oK lg ms ns p.1))by unfold aB;omega) ms [] p.2.1 p.2.2 (λx E=>by have:=(t x E).1;unfold aB;omega) (w.mono (by omega)) (by simp);generalize u5 (lg.2.1.length+1) once key (fq (oK lg ms ns p.1)) ms [] p.2.1 p.2.2=z at*;split
 ·exact⟨a.1.mono (by omega),λh=>absurd h ‹_›⟩
 have s:∀c:BL,(dL (lp lg ms ns p.1 z.1.1 c)).length<=1003000:=by
  intro c;have:=u7 (e:=lp lg ms ns p.1 z.1.1 c) f 80 a.2.1;have j:(lp lg ms ns p.1 z.1.1 c).2.1.length<=1000000:=r;have l:(lp lg ms ns p.1 z.1.1 c).2.2.2.2.1.length<=64:=q;have C:(lp lg ms ns p.1 z.1.1 c).2.2.2.2.2.1.length<=5:=by have:=a.2.2;simp at this;exact bq this D
  omega
 have F:=pJ (k:=k) z.2.2 a.1 (yV (k:=103) (by decide) (by decide) (show aB sec by unfold aB;omega) (show aB (dL (lp lg ms ns p.1 z.1.1 []))by have:=s [];unfold aB;omega));have N:=bq (JF (103,[sec,dL (lp lg ms ns p.1 z.1.1 [])],()) z.2.1 z.2.2) (Cv (by show(103:BitVec 8)≠98;decide));generalize dh (103,[sec,dL (lp lg ms ns p.1 z.1.1 [])],()) z.2.1 z.2.2=g at*;refine⟨F,λ_=>⟨⟨⟨?_,?_,?_⟩,?_,?_,?_,t,?_,?_⟩,?_,f⟩⟩
 ·show ms.length<=_;omega
 ·show ns.length<=_;omega
 ·show z.1.1.length<=_;have:=a.2.2;simp at this;omega
 ·have:=s g.1;exact bq this (by decide)
 ·have:=oL (e:=lp lg ms ns p.1 z.1.1 g.1) f;have j:(lp lg ms ns p.1 z.1.1 g.1).2.1.length<=1000000:=r;have l:(lp lg ms ns p.1 z.1.1 g.1).2.2.2.2.1.length<=64:=q;show(fq (lp lg ms ns p.1 z.1.1 g.1)).length<=100000000;omega
 ·show g.1.length<=_;omega
 ·intro b G;have:=a.2.1 b G;unfold aB;omega
 ·show p.1.length<=_;omega
 ·show(dL (lp lg ms ns p.1 z.1.1 g.1)++tx g.1).length<=2000000;have:=s g.1;have O:=dS g.1;rw[aa];omega
def Dw(w:Wd):BL×List Tm×KV:=dV (115,[dv (w.d+1)],()) w.ts w.m
def pO(w:Wd):BL×List Tm×KV:=dV (115,[dv (w.d+1+1)],()) (Dw w).2.1 (Dw w).2.2
def fA(w:Wd)(n:Int)(es:List Fk):(Et×Int)×List Tm×KV:=sb w.lg (w.se 0 1) (Dw w).1 (pO w).1 (sV n 0 w.al) es (pO w).2.1 (pO w).2.2
def vP(w:Wd)(n:Int)(es:List Fk):Int×Lg×List Tm×KV:=kg w.lg (fA w n es).1.1 (fA w n es).2.1 (fA w n es).2.2
def Wd.mb(w:Wd)(n:Int)(es:List Fk)(g:List Bool):Wd:={w with d:=w.d+1+1,lg:=(vP w n es).2.1,ts:=(vP w n es).2.2.1,m:=(vP w n es).2.2.2,go:=g}
def C0(w:Wd)(n:Int)(es:List Fk):Prop:=es.map (·.1)=zu n ((cS w.lg.2.1 w.lg.2.1.length).map (·.1)) 0 w.al/\(∀e∈es,0<=e.1/\e.1<5)
def eN(w:Wd)(n:Int)(y:(Int×Int)×Wd):Prop:=
 ∃a:List Fk,C0 w n a/\
  if(fA w n a).1.2≠0 then y=(((fA w n a).1.2,0),w.su (w.d+1+1) (fA w n a).2)
  else if(vP w n a).1≠0 then y=(((vP w n a).1,0),w.mb n a w.go)
  else∃r,jw (w.mb n a (sW w.go a)) 0 (fL (fA w n a).1.1) r/\y=((0,(r.2.st.length:Int)+1),{r.2 with st:=r.2.st++[fL (fA w n a).1.1],ln:=r.2.ln++[0]})
theorem lv{n:Int}{x:Mb}:∀{i:Int}{l:List Mb},x∈sV n i l->x∈l
 |_,[],h=>by simp[sV]at h
 |i,m::r,h=>by
  simp only[sV]at h;split at h
  ·rcases bt.1 h with h|h
   ·rw[h];exact aG ..
   ·exact aA _ (lv h)
  ·exact aA _ (lv h)
theorem fP(n:Int):eI (115,[dv n],()):=kD (by decide) (by decide) (by unfold aB;rw[eo];omega)
theorem rN{w:Wd}{k:Nat}(h:cR w (k+2))(n:Int)(es:List Fk):bO (10000*(k+1)+10100) (fA w n es).2.1/\((fA w n es).1.2=0->vk (fA w n es).1.1/\(fL (fA w n es).1.1).length<=2000000/\pw (sV n 0 w.al) es=true):=by
 have a:=oJ (k:=10000*(k+1)+10141) w.m (h.ts.mono (by omega)) (fP (w.d+1));have b:=oJ (k:=10000*(k+1)+10140) (Dw w).2.2 a (fP (w.d+1+1));exact Uf h.lg.1 (λx c=>h.al.2 x (lv c)) b
theorem a30{lg:Lg}{e:Et}{ts:List Tm}{m:KV}(h:∀x∈lg.2.1,x.2.2.1.length<=5):∀x∈(kg lg e ts m).2.1.2.1,x.2.2.1.length<=5:=by
 unfold kg;rw[ck]
 repeat' split
 all_goals try exact h
 rename_i b _ _ _ _ _;have b:ig e=true:=by simpa using b
 intro x a;rcases bb.1 a with a|a
 ·exact h x a
 ·simp at a;subst a;exact(fX (lm b).2.2.2.1).2.1
theorem vu{n:Int}{was:List Int}:∀{l:List Mb}{i:Int},0<=i->i+l.length<=5->∀a∈zu n was i l,0<=a/\a<5
 |[],_,_,_,a,b=>by simp[zu]at b
 |m::r,i,e,c,a,b=>by
  simp only[ba]at c;simp only[zu]at b;split at b
  ·exact vu (l:=r) (i:=i+1) (by omega) (by omega) a b
  ·rcases bb.1 b with b|b
   ·obtain⟨_,_,rfl⟩:=dM.1 b;omega
   ·exact vu (l:=r) (i:=i+1) (by omega) (by omega) a b
theorem rO{w:Wd}{k:Nat}(h:cR w (k+2)){n:Int}{es:List Fk}(h0:(fA w n es).1.2=0){g:List Bool}(c:g.length=5):cR (w.mb n es g) (k+1):=by
 obtain⟨f,b⟩:=rN h n es;have b:=b h0;have j:=GG (e:=(fA w n es).1.1) (ts:=(fA w n es).2.1) (m:=(fA w n es).2.2) h.lg.1 h.lg.2.1 h.lg.2.2;have l:=tkS (lg:=w.lg) (e:=(fA w n es).1.1) (k:=10000*(k+1)+10000) (fA w n es).2.2 b.1.2.1 (f.mono (by omega));have o:∀i,i<5->(w.mb n es g).cl i=w.cl i:=λi a=>by rcases fo a with rfl|rfl|rfl|rfl|rfl<;>rfl
 exact⟨λi a=>by rw[o i a];exact⟨(h.cl i a).1,(h.cl i a).2.1,by have:=(h.cl i a).2.2;omega⟩,l,h.sec,h.al,j,a30 h.l5,c,h.st,⟨by show 0<=w.d+1+1;have:=h.dr.1;omega,by show w.d+1+1+_<=_;have:=h.dr.2;omega⟩⟩
theorem qj:∀(g:List Bool)(l:List Fk),(sW g l).length=g.length
 |_,[]=>rfl
 |g,x::r=>by rw[sW,qj,cG]
def py:Ct:=⟨2,⟨[sP 0,sI 1],gb⟩,[⟨[(0,true,[.d Du])],Gx 33++pN 33⟩],λ(n,a)=>eD (1<=n/\n<=31/\∃k,cR (bV a) (k+2)) (eN (bV a) n) λy=>((y.1.1,y.1.2,jB),bZ y.2)⟩
def GU:Option CP:=some (.cells [.d Du])
def cLi:Option CP:=some (.cells [.d (.ar 5 .i64)])
def E':cg:=⟨[sP 0,sI 1,(4,false,[.ptr 33 0]),(5,false,[.ptr 34 0]),(29,false,[.d (.sl Ii)]),sI 30,sI 31],gb++[GU,cLi]⟩
def vw(x:py.inp.den)(y:E'.den):Prop:=match x,y with
 |(n,H),(J,v,K,i,L,M,N,O,P,Q,R,S,U,a,b,c,e,f,g,j,l,m,o,p,q,r,s,t,u,w,z,A,B,C,D,E,F,G,_,W,_)=>J=n/\(bV (L,M,N,O,P,Q,R,S,U,a,b,c,e,f,g,j,l,m,o,p,q,r,s,t,u,w,z,A,B,C,D,E,F,G,()))=(bV H)/\(∀h∈v,@bc Int _ 0 h.1/\@lB Int _ h.1 5)/\K=v.length/\v.length<=5/\W.length=5/\@bc Int _ 0 i
def F_:cg:=⟨[sP 0,sI 1,(4,false,[.ptr 33 0]),(5,false,[.ptr 34 0]),sO 8 35,sO 9 36,(10,false,[.d (.sl .i64)]),(46,true,[.d (.ar 5 iL)]),sI 47],gb++[GU,cLi,some (.sl iL),some (.sl iG)]⟩
def GV(x:py.inp.den)(y:F_.den):Prop:=match x,y with
 |(n,c),(L,a,b,i,M,N,O,P,Q,R,S,U,W,e,f,g,h,j,l,m,o,p,q,r,s,t,u,v,w,z,A,B,C,D,E,F,G,H,_,X,J,K,_)=>L=n/\(bV (M,N,O,P,Q,R,S,U,W,e,f,g,h,j,l,m,o,p,q,r,s,t,u,v,w,z,A,B,C,D,E,F,G,H,()))=(bV c)/\a=(cS (bV c).lg.2.1 (bV c).lg.2.1.length).map (·.1)/\b=(bV c).al/\X.length=5/\∃k:Nat,i=k/\k<=5/\J.length<=k/\K.length<=k*a.length/\
  J++sV n k (b.drop k)=sV n 0 b/\K.map (·.1)++zu n a k (b.drop k)=zu n a 0 b
def G_:cg:=⟨[sP 0,sI 1,(4,false,[.ptr 33 0]),(5,false,[.ptr 34 0]),sO 8 35,sO 9 36,(10,false,[.d (.sl .i64)]),sI 11,(46,true,[.d (.ar 5 iL)]),sI 47,(60,false,[.d (.sl .i64)]),sI 61,sI 62],gb++[GU,cLi,some (.sl iL),some (.sl iG)]⟩
def sX(x:py.inp.den)(O:Int)(y:G_.den):Prop:=match x,y with
 |(n,e),(P,a,id,b,i,c,Q,j,R,S,U,W,X,Y,b7,b8,b9,f,g,h,l,m,o,p,r,s,t,u,v,w,z,A,B,C,D,E,F,G,H,J,K,L,_,li,M,N,_)=>P=n/\(bV (R,S,U,W,X,Y,b7,b8,b9,f,g,h,l,m,o,p,r,s,t,u,v,w,z,A,B,C,D,E,F,G,H,J,K,L,()))=(bV e)/\a=(cS (bV e).lg.2.1 (bV e).lg.2.1.length).map (·.1)/\b=(bV e).al/\li.length=5/\id=i/\i=O/\c=a/\Q=a.length/\∃k q:Nat,i=k/\k<5/\j=q/\q<=a.length/\Ue n k=false/\M.length<=k/\N.length<=k*a.length+q/\
  M++sV n (k+1) (b.drop (k+1))=sV n 0 b/\N.map (·.1)++((a.drop q).filter (·==i)).map (λ_=>i)++zu n a (k+1) (b.drop (k+1))=zu n a 0 b
def G':cg:=⟨[sP 0,(4,false,[.ptr 46 0]),(17,false,[.ptr 47 0]),(129,false,[.d (.sl iG)]),sI 130,sI 131],Gx 33++pN 33++[GU,some (.cells [.d oI])]⟩
def xB(x:py.inp.den)(y:G'.den):Prop:=match x,y with
 |(n,b),(a,K,i,L,M,N,O,P,Q,R,S,U,c,f,h,j,l,m,o,p,q,r,s,t,u,v,w,z,A,B,C,D,E,F,G,H,J,_,e,_)=>C0 (bV b) n a/\(fA (bV b) n a).1.2=0/\(vP (bV b) n a).1=0/\e=(fA (bV b) n a).1.1/\K=a.length/\∃(k:Nat)(g:List Bool),i=k/\k<=a.length/\(bV (L,M,N,O,P,Q,R,S,U,c,f,h,j,l,m,o,p,q,r,s,t,u,v,w,z,A,B,C,D,E,F,G,H,J,()))=(bV b).mb n a g/\sW g (a.drop k)=sW (bV b).go a/\g.length=5
def H_(x:py.inp.den):dB:=⟨[(3,bK E' (vw x) λ(_,_,a,i,_)=>(a-i).toNat),(11,oG F_ (GV x) (λ(_,_,_,i,_)=>(5-i).toNat) λ(_,_,_,i,_)=>[(16,bK G_ (sX x i) λ(_,_,_,_,_,_,a,j,_)=>(a-j).toNat)]),(30,bK G' (xB x) λ(_,a,i,_)=>(a-i).toNat)],[],[],[],0⟩
theorem lw{w:Wd}{k:Nat}(h:cR w (k+2))(n:Int):∃y,eN w n y:=by
 obtain⟨b,c⟩:∃b,C0 w n b:=by
  refine⟨(zu n ((cS w.lg.2.1 w.lg.2.1.length).map (·.1)) 0 w.al).map λa=>(a,0,()),by rw[List.map_map];exact(List.map_congr_left λ_ _=>rfl).trans (List.map_id _),?_⟩;intro e c;obtain⟨a,l,rfl⟩:=dM.1 c;exact vu (by omega) (by rw[h.al.1];omega) a l
 by_cases f:(fA w n b).1.2=0
 ·by_cases j:(vP w n b).1=0
  ·obtain⟨r,m⟩:=qi (rO h f (g:=sW w.go b) (by rw[qj];exact h.go)) (fL (fA w n b).1.1) (i:=0) (by omega);exact⟨_,b,c,by rw[af (λg=>g f),af (λg=>g j)];exact⟨r,m,rfl⟩⟩
  ·exact⟨_,b,c,by rw[af (λg=>g f),am j]⟩
 ·exact⟨_,b,c,by rw[am f]⟩
abbrev Lc(v:(Int×Int×Nw)×TA Unit):cw py.out:=⟨0,v⟩
def GW:bw:=(37,[py])::PA
theorem Ug:KK GW:=kA E_ H_ (∀(e:Int),WA λh i j k l m n o p q r s t u v w z a0 a1 a2 a3 a4 a5 a6 a7 a8 a9 f b0 b1 b2 b3 b4 b5=>let x:=(i,j,k,l,m,n,o,p,q,r,s,t,u,v,w,z,a0,a1,a2,a3,a4,a5,a6,a7,a8,a9,f,b0,b1,b2,b3,b4,b5,());∀(Q:cw py.out->Prop),(Tr.need (1<=e/\e<=31/\∃e,cR (bV (h,x)) (e+2)) (Tr.all ((Int×Int)×Wd) (eN (bV (h,x)) e) λy=>Tr.leaf (Lc ((y.1.1,y.1.2,0,0,0,0,false,false,[],()),bZ y.2)))).sat Q->ci f/\Is (vw (e,h,x) (e,sH f 5,nI (sH f 5),0,h,i,j,k,l,m,n,o,p,q,r,s,t,u,v,w,z,a0,a1,a2,a3,a4,a5,a6,a7,a8,a9,f,b0,b1,b2,b3,b4,b5,(0,0,0,0,0,0,false,false,[],()),[0,0,0,0,0],()))/\∀(g7:Int)(b9:List (Int×Int×BL×Unit))(H c:Int),let M:=H-(c+1);let S:=gD b9 c (0,0,[],());WA λg8 g1 g9 h0 h1 h2 h3 h4 h5 h6 h7 h8 h9 i0 i1 i2 i3 i4 i5 i6 i7 i8 i9 j0 j1 N j2 j3 j4 j5 j6 j7 j8 j9=>∀(k0:Int×Int×Nw)(k1:List Int),vw (e,h,x) (g7,b9,H,c,g8,g1,g9,h0,h1,h2,h3,h4,h5,h6,h7,h8,h9,i0,i1,i2,i3,i4,i5,i6,i7,i8,i9,j0,j1,N,j2,j3,j4,j5,j6,j7,j8,j9,k0,k1,())->Bd (c<H) (iN c b9/\Br (S.1==0) (ac (c+1)/\Is (vw (e,h,x) (g7,b9,H,c+1,g8,g1,g9,h0,h1,h2,h3,h4,h5,h6,h7,h8,h9,i0,i1,i2,i3,i4,i5,i6,i7,i8,i9,j0,j1,N,j2,j3,j4,j5,j6,j7,j8,j9,k0,k1.set 0 S.2.1,())/\lN M (H-c))) (Br (S.1==1) (ac (c+1)/\Is (vw (e,h,x) (g7,b9,H,c+1,g8,g1,g9,h0,h1,h2,h3,h4,h5,h6,h7,h8,h9,i0,i1,i2,i3,i4,i5,i6,i7,i8,i9,j0,j1,N,j2,j3,j4,j5,j6,j7,j8,j9,k0,k1.set 1 S.2.1,())/\lN M (H-c))) (Br (S.1==2) (ac (c+1)/\Is (vw (e,h,x) (g7,b9,H,c+1,g8,g1,g9,h0,h1,h2,h3,h4,h5,h6,h7,h8,h9,i0,i1,i2,i3,i4,i5,i6,i7,i8,i9,j0,j1,N,j2,j3,j4,j5,j6,j7,j8,j9,k0,k1.set 2 S.2.1,())/\lN M (H-c))) (Br (S.1==3) (ac (c+1)/\Is (vw (e,h,x) (g7,b9,H,c+1,g8,g1,g9,h0,h1,h2,h3,h4,h5,h6,h7,h8,h9,i0,i1,i2,i3,i4,i5,i6,i7,i8,i9,j0,j1,N,j2,j3,j4,j5,j6,j7,j8,j9,k0,k1.set 3 S.2.1,())/\lN M (H-c))) (Br (S.1==4) (ac (c+1)/\Is (vw (e,h,x) (g7,b9,H,c+1,g8,g1,g9,h0,h1,h2,h3,h4,h5,h6,h7,h8,h9,i0,i1,i2,i3,i4,i5,i6,i7,i8,i9,j0,j1,N,j2,j3,j4,j5,j6,j7,j8,j9,k0,k1.set 4 S.2.1,())/\lN M (H-c))) (False/\True)))))) (cC N.2.1 N.2.2.1/\Is (GV (e,h,x) (g7,rZ (λe=>e.1) (cS N.2.1 (nI N.2.1)),g1,0,g8,g1,g9,h0,h1,h2,h3,h4,h5,h6,h7,h8,h9,i0,i1,i2,i3,i4,i5,i6,i7,i8,i9,j0,j1,N,j2,j3,j4,j5,j6,j7,j8,j9,k0,k1,[],[],()))/\∀(n6:Int)(n7:List Int)(n9:List Mb)(A:Int),let z8:=bits BinOp.and gO (n6.fdiv (2^min A.toNat 64)) (1:Int)==1;WA λk2 k5 k6 J n8 k7 k8 k9 l0 l1 l2 l3 l4 l5 l6 l7 l8 l9 m0 m1 m2 m3 m4 m5 m6 L m7 m8 m9 n0 n1 n2 n3 n4=>let o2:=(m8,m9,n0,n1,n2,n3,n4,());let o3:=jA (ae 8 115,[dv (J+1)],()) m7 n8;∀(o0:Int×Int×Nw)(o1:List Int)(k3:List Mb)(k4:List Fk),let z6:=(k2,k5,k6,J,n8,k7,k8,k9,l0,l1,l2,l3,l4,l5,l6,l7,l8,l9,m0,m1,m2,m3,m4,m5,m6,L,m7,m8,m9,n0,n1,n2,n3,n4,o0,o1,k3,k4,());GV (e,h,x) (n6,n7,n9,A,z6)->Bd (A<5) ((0<=A/\A<5)/\decide (0<=A)=true/\Br z8 ((k3.length+1)*56<=mM/\ac (A+1)/\Is (GV (e,h,x) (n6,n7,n9,A+1,k2,k5,k6,J,n8,k7,k8,k9,l0,l1,l2,l3,l4,l5,l6,l7,l8,l9,m0,m1,m2,m3,m4,m5,m6,L,m7,m8,m9,n0,n1,n2,n3,n4,o0,o1,k3++[gD n9 A (0,[],[],())],k4,())/\lN (5-(A+1)) (5-A))) (Is (sX (e,h,x) A (n6,n7,A,n9,A,n7,nI n7,0,z6))/\∀(D:Int)(B:List Int)(a:Int)(F:List Mb)(C:Int)(E:List Int)(g d:Int),WA λU W X Y c9 d0 d1 d2 d3 d4 d5 d6 d7 d8 d9 e0 e1 e2 e3 e4 e5 e6 e7 e8 e9 f0 f1 f2 f3 f6 K g2 g3 g4=>∀(g5:Int×Int×Nw)(O:List Int)(g6:List Mb)(f9:List Fk),let P:=f9.length+1;let z3:=(U,W,X,Y,c9,d0,d1,d2,d3,d4,d5,d6,d7,d8,d9,e0,e1,e2,e3,e4,e5,e6,e7,e8,e9,f0,f1,f2,f3,f6,K,g2,g3,g4,g5,O,g6,f9,());sX (e,h,x) A (D,B,a,F,C,E,g,d,z3)->Bd (d<g) (iN d E/\Br (gD E d 0==a) (Br (a==0) (P*16<=mM/\ac (d+1)/\Is (sX (e,h,x) A (D,B,a,F,C,E,g,d+1,U,W,X,Y,c9,d0,d1,d2,d3,d4,d5,d6,d7,d8,d9,e0,e1,e2,e3,e4,e5,e6,e7,e8,e9,f0,f1,f2,f3,f6,K,g2,g3,g4,g5,O,g6,f9++[(a,O.getD 0 0,())],())/\lN (g-(d+1)) (g-d))) (Br (a==1) (P*16<=mM/\ac (d+1)/\Is (sX (e,h,x) A (D,B,a,F,C,E,g,d+1,U,W,X,Y,c9,d0,d1,d2,d3,d4,d5,d6,d7,d8,d9,e0,e1,e2,e3,e4,e5,e6,e7,e8,e9,f0,f1,f2,f3,f6,K,g2,g3,g4,g5,O,g6,f9++[(a,O.getD 1 0,())],())/\lN (g-(d+1)) (g-d))) (Br (a==2) (P*16<=mM/\ac (d+1)/\Is (sX (e,h,x) A (D,B,a,F,C,E,g,d+1,U,W,X,Y,c9,d0,d1,d2,d3,d4,d5,d6,d7,d8,d9,e0,e1,e2,e3,e4,e5,e6,e7,e8,e9,f0,f1,f2,f3,f6,K,g2,g3,g4,g5,O,g6,f9++[(a,O.getD 2 0,())],())/\lN (g-(d+1)) (g-d))) (Br (a==3) (P*16<=mM/\ac (d+1)/\Is (sX (e,h,x) A (D,B,a,F,C,E,g,d+1,U,W,X,Y,c9,d0,d1,d2,d3,d4,d5,d6,d7,d8,d9,e0,e1,e2,e3,e4,e5,e6,e7,e8,e9,f0,f1,f2,f3,f6,K,g2,g3,g4,g5,O,g6,f9++[(a,O.getD 3 0,())],())/\lN (g-(d+1)) (g-d))) (Br (a==4) (P*16<=mM/\ac (d+1)/\Is (sX (e,h,x) A (D,B,a,F,C,E,g,d+1,U,W,X,Y,c9,d0,d1,d2,d3,d4,d5,d6,d7,d8,d9,e0,e1,e2,e3,e4,e5,e6,e7,e8,e9,f0,f1,f2,f3,f6,K,g2,g3,g4,g5,O,g6,f9++[(a,O.getD 4 0,())],())/\lN (g-(d+1)) (g-d))) (False/\True)))))) (ac (d+1)/\Is (sX (e,h,x) A (D,B,a,F,C,E,g,d+1,z3)/\lN (g-(d+1)) (g-d)))) (ac (C+1)/\Is (GV (e,h,x) (D,B,F,C+1,z3)/\lN (5-(C+1)) (5-A))))) ((m7.length<=4294967296/\0<=J/\J<=4294967296)/\∀b,let z9:=jA (ae 8 115,[dv (J+1+1)],()) b.2.1 b.2.2;b=(ko (ae 8 115,[dv (J+1)],()) o3.1,o3.2)->(b.2.1.length<=4294967296/\0<=J+1/\J+(1:Int)<=4294967296)/\∀n5,n5=(ko (ae 8 115,[dv (J+1+1)],()) z9.1,z9.2)->(k3.length<=1000000/\k4.length<=1000000/\pI k3/\cC L.2.1 L.2.2.1/\ah L.2.1<=100000/\bO 40 n5.2.1)/\∀G,G=sb L ((k2.getD 0 (ak 2 [])).getD 1 []) b.1 n5.1 k3 k4 n5.2.1 n5.2.2->Br (!G.1.2==0) (Q ⟨0,(G.1.2,0,0,0,0,0,false,false,[],()),k2,k5,k6,J+1+1,G.2.2,k7,k8,k9,l0,l1,l2,l3,l4,l5,l6,l7,l8,l9,m0,m1,m2,m3,m4,m5,m6,L,G.2.1,o2⟩) ((aB L.1/\gg G.1.1/\ah (dL G.1.1)<=100000000/\aB G.1.1.2.2.2.2.2.2.1/\pI G.1.1.2.2.1/\cC L.2.1 L.2.2.1/\ah L.2.1<=100000/\bO 1 G.2.1)/\∀b,b=kg L G.1.1 G.2.1 G.2.2->Br (!b.1==0) (Q ⟨0,(b.1,0,0,0,0,0,false,false,[],()),k2,k5,k6,J+1+1,b.2.2.2,k7,k8,k9,l0,l1,l2,l3,l4,l5,l6,l7,l8,l9,m0,m1,m2,m3,m4,m5,m6,b.2.1,b.2.2.1,o2⟩) (Is (xB (e,h,x) (k4,nI k4,0,k2,k5,k6,J+1+1,b.2.2.2,k7,k8,k9,l0,l1,l2,l3,l4,l5,l6,l7,l8,l9,m0,m1,m2,m3,m4,m5,m6,b.2.1,b.2.2.1,m8,m9,n0,n1,n2,n3,n4,o0,G.1.1,()))/\∀(D:List Fk)(B a:Int),let R:=B-(a+1);let z5:=gD D a (0,0,());WA λF C E g d U W X Y c9 d0 d1 d2 d3 d4 d5 d6 d7 d8 d9 e0 e1 e2 e3 e4 e5 e6 e7 e8 e9 f0 f1 f2 f3=>let z7:=bV (F,C,E,g,d,U,W,X,Y,c9,d0,d1,d2,d3,d4,d5,d6,d7,d8,d9,e0,e1,e2,e3,e4,e5,e6,e7,e8,e9,f0,f1,f2,f3,());∀(f6:Int×Int×Nw)(K:Et),let z2:=(g,d,U,W,X,Y,c9,d0,d1,d2,d3,d4,d5,d6,d7,d8,d9,e0,e1,e2,e3,e4,e5,e6,e7,e8,e9,f0,f1,f2,f3,f6,K,());xB (e,h,x) (D,B,a,F,C,E,z2)->Bd (a<B) (iN a D/\Br (z5.1==0) (ac (a+1)/\Is (xB (e,h,x) (D,B,a+1,F,C,E.set ((36-10-15-1-1-1-1-1-1-1-1-1-1-1)/1) true,z2)/\lN R (B-a))) (Br (z5.1==1) (ac (a+1)/\Is (xB (e,h,x) (D,B,a+1,F,C,E.set ((37-10-15-1-1-1-1-1-1-1-1-1-1-1)/1) true,z2)/\lN R (B-a))) (Br (z5.1==2) (ac (a+1)/\Is (xB (e,h,x) (D,B,a+1,F,C,E.set ((38-10-15-1-1-1-1-1-1-1-1-1-1-1)/1) true,z2)/\lN R (B-a))) (Br (z5.1==3) (ac (a+1)/\Is (xB (e,h,x) (D,B,a+1,F,C,E.set ((39-10-15-1-1-1-1-1-1-1-1-1-1-1)/1) true,z2)/\lN R (B-a))) (Br (z5.1==4) (ac (a+1)/\Is (xB (e,h,x) (D,B,a+1,F,C,E.set ((40-10-15-1-1-1-1-1-1-1-1-1-1-1)/1) true,z2)/\lN R (B-a))) (False/\True)))))) ((0+ah (fL K)<=1000000000/\gg K)/\((0:Int)<=0/\(0:Int)<5/\ah (fL K)<=10000000/\∃e,cR z7 (e+1))/\∀(b:(Int×Nw)×Wd),jw z7 0 (fL K) b->(b.2.st.length<=1000000/\b.2.ln.length<=1000000)/\Q ⟨0,(0,nI b.2.st+1,0,0,0,0,false,false,[],()),b.2.sec,b.2.al,b.2.go,b.2.d,b.2.m,(b.2.c0.c,b.2.c0.se,b.2.c0.sg,b.2.c0.lg,()),(b.2.c0.pg,b.2.c0.la,b.2.c0.fk,()),b.2.c0.km,(b.2.c1.c,b.2.c1.se,b.2.c1.sg,b.2.c1.lg,()),(b.2.c1.pg,b.2.c1.la,b.2.c1.fk,()),b.2.c1.km,(b.2.c2.c,b.2.c2.se,b.2.c2.sg,b.2.c2.lg,()),(b.2.c2.pg,b.2.c2.la,b.2.c2.fk,()),b.2.c2.km,(b.2.c3.c,b.2.c3.se,b.2.c3.sg,b.2.c3.lg,()),(b.2.c3.pg,b.2.c3.la,b.2.c3.fk,()),b.2.c3.km,(b.2.c4.c,b.2.c4.se,b.2.c4.sg,b.2.c4.lg,()),(b.2.c4.pg,b.2.c4.la,b.2.c4.fk,()),b.2.c4.km,b.2.k0,b.2.k1,b.2.k2,b.2.k3,b.2.k4,b.2.lg,b.2.ts,b.2.c0.bk,b.2.c1.bk,b.2.c2.bk,b.2.c3.bk,b.2.c4.bk,b.2.st++[fL K],b.2.ln++[0],()⟩)))))) (by
 conv=>zeta
 unfold Bd Br WA gD iN lN mM nI bZ;intro n;refine Wd.all λw=>?_;intro Q ⟨⟨h1,h2,k,B⟩,hQ⟩;have B:cR w (k+2):=B;have hq:∀y:(Int×Int)×Wd,eN w n y->Q ⟨0,((y.1.1,y.1.2,jB),bZ y.2)⟩:=λy h=>hQ y h;clear hQ;have O:=(B.cl 0 (by omega)).1.2.2.2.2.2.1;have hv:=F5 O
 have a5:∀h∈sH w.c0.bk 5,0<=h.1/\h.1<5:=by
  intro h hh;unfold sH at hh;obtain⟨a,ha,e⟩:=List.mem_filterMap.1 hh;have ha:a<5:=by simpa using ha
  split at e
  ·simp only[Option.some.injEq]at e;subst e;unfold fx;rw[af (by omega)];dsimp only;omega
  ·simp at e
 refine⟨O,⟨rfl,rfl,a5,rfl,hv.1,rfl,by omega⟩,?_⟩;intro n1 v ln i;refine Wd.all λf=>?_;rintro sn li ⟨rfl,e1,e2,rfl,e3,e4,e5⟩;have e1:f=w:=e1;subst e1;refine⟨λF=>?_,λE=>?_⟩
 ·have hi:i.toNat<v.length:=by simp only[ai]at F;omega
  have hm:=e2 _ (aS (z:=((0,0,[],()):Hd)) hi);generalize v.getD i.toNat (0,0,[],())=H at*;have hI:ac (i+1):=by unfold ac;omega
  have M:∀(q:Nat)(x:Int),ac (i+1)/\Is (vw (n1,bZ f) (n1,v,(v.length:Int),i+1,f.sec,f.al,f.go,f.d,f.m,(cA f.c0),(nn f.c0),f.c0.km,(cA f.c1),(nn f.c1),f.c1.km,(cA f.c2),(nn f.c2),f.c2.km,(cA f.c3),(nn f.c3),f.c3.km,(cA f.c4),(nn f.c4),f.c4.km,f.k0,f.k1,f.k2,f.k3,f.k4,f.lg,f.ts,f.c0.bk,f.c1.bk,f.c2.bk,f.c3.bk,f.c4.bk,f.st,f.ln,sn,li.set q x,())/\((v.length:Int)-(i+1)).toNat<((v.length:Int)-i).toNat):=λq x=>⟨hI,⟨rfl,rfl,e2,rfl,e3,by rw[cG];exact e4,by omega⟩,by omega⟩;refine⟨by omega,λ_=>M 0 _,λg0=>⟨λ_=>M 1 _,λg1=>⟨λ_=>M 2 _,λg2=>⟨λ_=>M 3 _,λg3=>⟨λ_=>M 4 _,λg4=>?_⟩⟩⟩⟩⟩;exfalso;simp only[az,ne_eq]at g0 g1 g2 g3 g4;omega
 clear E e5 hv a5 e2 e3;have P:=B.al
 have a0:((cS f.lg.2.1 f.lg.2.1.length).map (·.1)).length<=5:=by
  rw[bT];unfold cS;split
  ·simp
  ·exact B.l5 _ (aS (by omega))
 refine⟨B.lg.1,⟨rfl,rfl,rfl,rfl,e4,0,rfl,by omega,aq _,aq _,rfl,rfl⟩,?_⟩;intro C D al i2;refine Wd.all λp=>?_;rintro c6 c7 ms K ⟨rfl,e6,X,Y,e9,q,rfl,c8,hm,he,A,s⟩;have e6:p=f:=e6;subst e6;have Y:al=p.al:=Y;have X:D=(cS p.lg.2.1 p.lg.2.1.length).map (·.1):=X;rw[<-X]at a0;rw[<-Y]at P;refine⟨λF=>?_,λE=>?_⟩
 ·have hk:q<5:=by simp only[ai]at F;omega
  have b2:decide (0<=(q:Int))=true:=decide_eq_true (by omega);have hI:ac ((q:Int)+1):=by unfold ac;omega
  have hL:q*D.length<=5*D.length:=Nat.mul_le_mul_right _ (by omega);have hS:(q+1)*D.length=q*D.length+D.length:=Nat.succ_mul _ _;rw[cZ (z:=((0,[],[],()):Mb)) (show q<al.length by rw[P.1];exact hk)]at A s;simp only[sV,zu]at A s;rw[show((q:Int).toNat)=q by omega];refine⟨⟨by omega,by omega⟩,b2,λg=>?_,λg=>⟨?_,?_⟩⟩
  ·have g:Ue C q=true:=by unfold Ue;rw[show((q:Int).toNat)=q by omega];exact g
   rw[am g]at A s;exact⟨by omega,hI,⟨rfl,rfl,X,Y,e9,q+1,rfl,by omega,by rw[aa,bh];omega,by omega,by rw[ay];exact A,s⟩,by omega⟩
  ·have g:Ue C q=false:=by unfold Ue;rw[show((q:Int).toNat)=q by omega];exact g
   rw[af (by rw[g];decide)]at A s;exact⟨rfl,rfl,X,Y,e9,rfl,rfl,rfl,rfl,q,0,rfl,hk,rfl,aq _,g,hm,he,A,by rw[ay];exact s⟩
  ·clear A s he hm g;intro n3 c5 id b3 i3 u c9 j;refine Wd.all λo=>?_;rintro b4 b5 b6 a6 ⟨rfl,a1,R,a2,a3,rfl,b7,rfl,rfl,S,r,a7,a8,rfl,hr,g,hm,he,A,s⟩;have a1:o=p:=a1;subst a1;have b8:S=q:=by have:(S:Int)=q:=a7.symm.trans b7;omega
   subst b8;subst a7;have ew:u=D:=R.trans X.symm;rw[<-ew]at a0 hL hS;rw[show((r:Int).toNat)=r by omega];refine⟨λF=>?_,λE=>?_⟩
   ·have G:r<u.length:=by simp only[ai]at F;omega
    have U:ac ((r:Int)+1):=by unfold ac;omega
    rw[cZ (z:=(0:Int)) G,List.filter_cons]at s;refine⟨by omega,λc=>?_,λc=>?_⟩
    ·rw[am c,aY]at s
     have M:∀x:Int,(a6.length+1)*16<=140737488355328/\ac ((r:Int)+1)/\Is (sX (n3,bZ o) (S:Int) (n3,u,(S:Int),b3,(S:Int),u,(u.length:Int),(r:Int)+1,o.sec,o.al,o.go,o.d,o.m,(cA o.c0),(nn o.c0),o.c0.km,(cA o.c1),(nn o.c1),o.c1.km,(cA o.c2),(nn o.c2),o.c2.km,(cA o.c3),(nn o.c3),o.c3.km,(cA o.c4),(nn o.c4),o.c4.km,o.k0,o.k1,o.k2,o.k3,o.k4,o.lg,o.ts,o.c0.bk,o.c1.bk,o.c2.bk,o.c3.bk,o.c4.bk,o.st,o.ln,b4,b5,b6,a6++[((S:Int),x,())],())/\((u.length:Int)-((r:Int)+1)).toNat<((u.length:Int)-(r:Int)).toNat):=λx=>
      ⟨by omega,U,⟨rfl,rfl,R,a2,a3,rfl,rfl,rfl,rfl,S,r+1,rfl,a8,rfl,G,g,hm,by rw[aa,bh];omega,A,by rw[dn,ay,ay];rw[ay]at s;exact s⟩,by omega⟩
     refine⟨λ_=>M _,λg0=>⟨λ_=>M _,λg1=>⟨λ_=>M _,λg2=>⟨λ_=>M _,λg3=>⟨λ_=>M _,λg4=>?_⟩⟩⟩⟩⟩;exfalso;simp only[az,ne_eq]at g0 g1 g2 g3 g4;omega
    ·rw[af (by rw[c];decide)]at s;exact⟨U,⟨rfl,rfl,R,a2,a3,rfl,rfl,rfl,rfl,S,r+1,rfl,a8,rfl,G,g,hm,by omega,A,s⟩,by omega⟩
   ·have hd:u.drop r=[]:=bC (by simp only[aj]at E;omega);rw[hd,List.filter_nil,List.map_nil,aW]at s;exact⟨hI,⟨rfl,rfl,R,a2,a3,S+1,rfl,by omega,by omega,by omega,A,s⟩,by omega⟩
 ·have a9:q=5:=by simp only[aj]at E;omega
  subst a9;have hd:al.drop 5=[]:=bC (by rw[P.1];omega);rw[hd]at A s;have A:ms=sV C 0 p.al:=by rw[<-Y,<-A];simp[sV]
  have s:K.map (·.1)=zu C D 0 p.al:=by rw[<-Y,<-s];simp[zu]
  have hg:C0 p C K:=⟨by rw[s,X],λe he=>vu (l:=p.al) (i:=0) (was:=D) (n:=C) (by omega) (by rw[<-Y,P.1];omega) e.1 (by rw[<-s];exact fB he)⟩;have b9:K.length<=25:=by omega
  clear E hd a0 he e4 e9;have s1:=oJ (k:=10000*(k+1)+10141) p.m (B.ts.mono (by omega)) (fP (p.d+1));have s2:=oJ (k:=10000*(k+1)+10140) (Dw p).2.2 s1 (fP (p.d+1+1));have b0:=B.dr;refine⟨⟨B.ts.le,b0.1,by omega⟩,λb O=>?_⟩;have O:b=Dw p:=O;subst O;refine⟨⟨s1.le,by omega,by omega⟩,λb O=>?_⟩;have O:b=pO p:=O;subst O;refine⟨⟨by omega,by omega,by rw[A];exact λx hx=>B.al.2 x (lv hx),B.lg.1,B.lg.2.1,s2.mono (by omega)⟩,λz hz=>?_⟩;have hz:z=fA p C K:=by rw[A]at hz;exact hz
  subst hz;have W:=rN B C K;refine⟨λe=>hq (((fA p C K).1.2,0),p.su (p.d+1+1) (fA p C K).2) ⟨K,hg,by rw[am (jU e)]⟩,λe=>?_⟩;have N:=aC.1 (jV e);have b1:=W.2 N;obtain⟨o1,o2,o3,o4,o5,o6,o7⟩:=b1.1;refine⟨⟨B.lg.2.2,o1,o2,o4,o5,B.lg.1,B.lg.2.1,W.1.mono (by omega)⟩,λt ht=>?_⟩;have ht:t=vP p C K:=ht;subst ht;refine⟨λe=>hq (((vP p C K).1,0),p.mb C K p.go) ⟨K,hg,by rw[af (λq=>q N),am (jU e)]⟩,λe=>?_⟩;have J:=aC.1 (jV e);refine⟨⟨hg,N,J,rfl,rfl,0,p.go,rfl,aq _,rfl,rfl,B.go⟩,?_⟩;clear hg s1 s2 W b1 o1 o2 o3 o4 o5 o6 o7 A s e X b9 N J b0;intro L d0 i4;refine Wd.all λw4=>?_;rintro d1 e4 ⟨hg,N,J,A,rfl,r,g,rfl,hr,s,f3,f4⟩;have s:w4=p.mb C L g:=s;have N:(fA p C L).1.2=0:=N;have J:(vP p C L).1=0:=J;have A:e4=(fA p C L).1.1:=A;have W:=(rN B C L).2 N;rw[<-A]at W;rw[show((r:Int).toNat)=r by omega];have d2:L.length<=1000000:=by have:=(fX W.2.2).2.2.1;omega
  refine⟨λF=>?_,λE=>?_⟩
  ·have G:r<L.length:=by simp only[ai]at F;omega
   have U:ac ((r:Int)+1):=by unfold ac;omega
   have hm:=hg.2 _ (aS (z:=((0,0,()):Fk)) G);rw[cZ (z:=((0,0,()):Fk)) G]at f3;simp only[sW]at f3;generalize L.getD r (0,0,())=H at*;refine⟨by omega,λc=>?_,λg0=>⟨λc=>?_,λg1=>⟨λc=>?_,λg2=>⟨λc=>?_,λg3=>⟨λc=>?_,λg4=>?_⟩⟩⟩⟩⟩
   case refine_6=>exfalso;simp only[az,ne_eq]at g0 g1 g2 g3 g4;omega
   all_goals
    rw[aZ c]at f3;subst s;exact⟨U,⟨hg,N,J,A,rfl,r+1,_,rfl,G,rfl,f3,by rw[cG];exact f4⟩,by omega⟩
  ·have hd:L.drop r=[]:=bC (by simp only[aj]at E;omega);rw[hd]at f3;have f3:g=sW p.go L:=f3;subst f3;have hw:=rO B (n:=C) (es:=L) N f4;rw[<-s]at hw;refine⟨⟨by have:=W.2.1;omega,W.1.1⟩,⟨by omega,by omega,by have:=W.2.1;omega,k,hw⟩,λy hy=>?_⟩;have hy:jw w4 0 (fL e4) y:=hy;have a4:=iA hw (by omega) hy;refine⟨⟨by have:=a4.st.1;omega,by have:=a4.st.1;have:=a4.st.2.1;omega⟩,?_⟩
   have:=hq ((0,(y.2.st.length:Int)+1),{y.2 with st:=y.2.st++[fL e4],ln:=y.2.ln++[0]}) ⟨L,hg,by
    rw[af (λq=>q N),af (λq=>q J),<-A,<-s];exact⟨y,hy,rfl⟩⟩
   exact this) (l:=λ_=>aM λh=>by obtain⟨_,_,k,h⟩:=h;exact lw h _)
abbrev Iu:Ty:= .pr .i64 (.pr .i64 (.pr .i64 (.pr .i64 (.pr .i64 (.pr .i64 (.pr .st Dq))))))
abbrev jx:=Iu.den
def zS:jx:=(0,0,0,0,0,0,[],0,0,0,0,[],[],[],())
def Vs(i:Nat):Nat×Bool×List IP:=(i,true,[.d Iu])
def Wd.keep(w:Wd)(b:BL)(n:Int):Wd:={w with st:=w.st++[b],ln:=w.ln++[n]}
abbrev yc:=(Int×Int)×Wd
def zw(w:Wd)(b:BL)(n:Int):yc:=((0,(w.st.length:Int)+1),w.keep b n)
def sY(w:Wd)(s:jx):yc:=
 if s.2.2.2.1<1\/w.st.length<s.2.2.2.1\/400<=w.st.length\/s.2.2.1<0\/((w.st.getD (s.2.2.2.1-1).toNat []).length:Int)<=s.2.2.1 then((26,0),w)
 else if s.1=9 then zw w ((w.st.getD (s.2.2.2.1-1).toNat []).take s.2.2.1.toNat) 0
 else zw w ((w.st.getD (s.2.2.2.1-1).toNat []).set s.2.2.1.toNat ((w.st.getD (s.2.2.2.1-1).toNat []).getD s.2.2.1.toNat 0^^^bi 8 s.2.2.2.2.2.1)) 0
def Ld:Ct:=⟨2,⟨[sP 0,Vs 1],gb⟩,[⟨[(0,true,[.d Du])],Gx 33++pN 33⟩],λ(s,E,F,G,H,J,K,L,M,N,e,f,g,h,i,j,l,m,n,o,p,q,r,t,u,v,w,x,z,A,B,C,D,a,c,_)=>dy (a.length<=1000/\c.length<=1000/\∀b∈a,b.length<=2000000) (sY (bV (E,F,G,H,J,K,L,M,N,e,f,g,h,i,j,l,m,n,o,p,q,r,t,u,v,w,x,z,A,B,C,D,a,c,())) s) λy=>((y.1.1,y.1.2,jB),bZ y.2)⟩
abbrev GX(v:(Int×Int×Nw)×TA Unit):cw Ld.out:=⟨0,v⟩
def Be:bw:=(42,[Ld])::GW
theorem Bf:KK Be:=kA Ug (cE Ld 0) (∀(a:Int×Int×Int×Int×Int×Int×BL×Lt),let E:=Int.toNat a.2.2.1;let B:=a.2.2.2.1-1;WA λe f g h i j k l m n o p q r s t u v w z F G H J K L M N O P R S c d=>let U:=c.length<=1000000/\d.length<=1000000;let A:=400<=c.length;let W:=(f,g,h,i,j,k,l,m,n,o,p,q,r,s,t,u,v,w,z,F,G,H,J,K,L,M,N,O,P,R,S,c,d,());let x:=gD c B [];let C:= !decide (1<=a.2.2.2.1/\a.2.2.2.1<=nI c);let D:=GX ((26,0,0,0,0,0,false,false,[],()),e,W);∀(Q:cw Ld.out->Prop),(Tr.need (c.length<=1000/\d.length<=1000/\∀(b:BL),b∈c->b.length<=2000000) (Tr.all yc (λy=>y=sY (bV (e,W)) a) λy=>Tr.leaf (GX ((y.1.1,y.1.2,0,0,0,0,false,false,[],()),bZ y.2)))).sat Q->True/\Br C (C=true/\C=true/\Q D) (C=false/\True/\C=false/\Br (decide A) (decide A=true/\decide A=true/\decide A=true/\Q D) (decide A=false/\decide A=false/\decide A=false/\Bd (a.2.2.1<0) (decide (a.2.2.1<0)=true/\decide (a.2.2.1<0)=true/\decide (a.2.2.1<0)=true/\decide (a.2.2.1<0)=true/\decide (a.2.2.1<0)=true/\decide (a.2.2.1<0)=true/\decide (a.2.2.1<0)=true/\decide (a.2.2.1<0)=true/\decide (a.2.2.1<0)=true/\decide (a.2.2.1<0)=true/\decide (a.2.2.1<0)=true/\decide (a.2.2.1<0)=true/\decide (a.2.2.1<0)=true/\Q D) (decide (a.2.2.1<0)=false/\decide (a.2.2.1<0)=false/\decide (a.2.2.1<0)=false/\decide (a.2.2.1<0)=false/\decide (a.2.2.1<0)=false/\decide (a.2.2.1<0)=false/\decide (a.2.2.1<0)=false/\decide (a.2.2.1<0)=false/\ac B/\decide (a.2.2.1<0)=false/\iN B c/\decide (a.2.2.1<0)=false/\decide (a.2.2.1<0)=false/\decide (a.2.2.1<0)=false/\decide (a.2.2.1<0)=false/\Bd (nI x<=a.2.2.1) (Q D) (ac B/\iN B c/\(0+x.length)*1<=mM/\Br (a.1==9) (((0:Int)<=0/\0<=a.2.2.1/\a.2.2.1=a.2.2.1/\a.2.2.1<=nI x)/\U/\Q ⟨0,(0,nI c+1,0,0,0,0,false,false,[],()),e,f,g,h,i,j,k,l,m,n,o,p,q,r,s,t,u,v,w,z,F,G,H,J,K,L,M,N,O,P,R,S,c++[cM E x],d++[0],()⟩) (iN a.2.2.1 x/\iN a.2.2.1 x/\U/\Q ⟨0,(0,nI c+1,0,0,0,0,false,false,[],()),e,f,g,h,i,j,k,l,m,n,o,p,q,r,s,t,u,v,w,z,F,G,H,J,K,L,M,N,O,P,R,S,c++[x.set E (x.getD E (ae 8 0)^^^bi 8 a.2.2.2.2.2.1)],d++[0],()⟩)))))) (by
 conv=>zeta
 unfold Bd Br WA gD iN mM nI bZ;intro s;refine Wd.all λw=>?_;intro Q ⟨⟨r,t,p⟩,m⟩;have c:∀y:yc,sY w s=y->Q ⟨0,((y.1.1,y.1.2,jB),bZ y.2)⟩:=λy e=>m y e.symm;clear m;unfold sY at c;have bad:(s.2.2.2.1<1\/(w.st.length:Int)<s.2.2.2.1\/400<=w.st.length\/s.2.2.1<0\/((w.st.getD (s.2.2.2.1-1).toNat []).length:Int)<=s.2.2.1)->Q ⟨0,((26,0,jB),bZ w)⟩:=λh=>c ((26,0),w) (am h);refine⟨trivial,λe=>⟨e,e,bad ?_⟩,λe=>⟨e,trivial,e,λb=>⟨b,b,b,bad (.inr (.inr (.inl (ag b))))⟩,λb=>⟨b,b,b,λa=>⟨a,a,a,a,a,a,a,a,a,a,a,a,a,bad (.inr (.inr (.inr (.inl (ag a)))))⟩,λa=>?_⟩⟩⟩
 ·have e:¬(1<=s.2.2.2.1/\s.2.2.2.1<=(w.st.length:Int)):=λh=>by rw[decide_eq_true h]at e;cases e
  rcases Decidable.em (s.2.2.2.1<1)with g|g
  ·exact .inl g
  ·exact .inr (.inl (by omega))
 ·have e:1<=s.2.2.2.1/\s.2.2.2.1<=(w.st.length:Int):=by
   cases h:decide (1<=s.2.2.2.1/\s.2.2.2.1<=(w.st.length:Int))with
   |true=>exact ag h
   |false=>rw[h]at e;cases e
  have i:=an b;have q:=an a;have n:ac (s.2.2.2.1-1):=by unfold ac;omega
  have o:0<=s.2.2.2.1-1/\s.2.2.2.1-1<(w.st.length:Int):=by omega
  have u:=p _ (aS (z:=([]:BL)) (show(s.2.2.2.1-1).toNat<w.st.length by omega));refine⟨a,a,a,a,a,a,a,a,n,a,o,a,a,a,a,λf=>bad (.inr (.inr (.inr (.inr (ag f))))),λf=>?_⟩;have f:=an f
  have no:¬(s.2.2.2.1<1\/(w.st.length:Int)<s.2.2.2.1\/400<=w.st.length\/s.2.2.1<0\/((w.st.getD (s.2.2.2.1-1).toNat []).length:Int)<=s.2.2.1):=by
   rintro(g|g|g|g|g)
   ·omega
   ·omega
   ·exact i g
   ·omega
   ·omega
  rw[af no]at c;refine⟨n,o,by omega,λj=>⟨⟨by omega,by omega,rfl,by omega⟩,⟨by omega,by omega⟩,c _ (am (aZ j))⟩,λj=>⟨⟨by omega,by omega⟩,⟨by omega,by omega⟩,⟨by omega,by omega⟩,c _ (af (aE j))⟩⟩) (l:=λ_=>bp)
theorem oR{b:BL}(a:bQ b 0):hC (fR b true (0,0)).1:=by
 have key:hC (Im b true (0,0)).1:=
  ⟨bq (ni true _ 64 (eQ true _ 1 1048576 (eQ true _ 1 65536 (eQ true _ 0 4 (eQ true 0 2 4 a).1).1).1).1).2.2 (by decide),
   bq (ni true _ 4112 (ni true _ 64 (eQ true _ 1 1048576 (eQ true _ 1 65536 (eQ true _ 0 4 (eQ true 0 2 4 a).1).1).1).1).1).2.2 (by decide),
   bq (ni true _ 64 (ni true _ 4112 (ni true _ 64 (eQ true _ 1 1048576 (eQ true _ 1 65536 (eQ true _ 0 4 (eQ true 0 2 4 a).1).1).1).1).1).1).2.2 (by decide)⟩
 unfold fR;rw[ck];dsimp only;generalize Im b true (0,0)=z at*;rcases Decidable.em ((if true=true then(if jR z.1=true then z.2.2 else if(true&&z.2.2==0)=true then 5 else z.2.2)else 5)=0)with g|g
 ·rw[am g];exact key
 ·rw[af g];exact⟨aq _,aq _,aq _⟩
def Le(w:Wd)(i:Nat)(b:BL):Int:=((mW ((aO .i64 (fR b true (0,0)).1.2.2.1 (w.ky i)).getD []) (fR b true (0,0)).1 (dC w.ts).1 (dC w.ts).2).1.1.length:Int)
def C3:Ct:=⟨3,⟨[sP 0,sI 1,sB 2],gb⟩,[⟨[sI 0],gb⟩],λ(i,b,E,F,G,H,J,K,L,M,N,c,e,f,g,h,j,l,m,n,o,p,q,r,s,t,u,v,a,w,x,z,A,B,C,D,_)=>dy (0<=i/\i<5/\b.length<=1000000/\bO 10 a) (Le (bV (E,F,G,H,J,K,L,M,N,c,e,f,g,h,j,l,m,n,o,p,q,r,s,t,u,v,a,w,x,z,A,B,C,D,())) i.toNat b) λy=>(y,E,F,G,H,J,K,L,M,N,c,e,f,g,h,j,l,m,n,o,p,q,r,s,t,u,v,a,w,x,z,A,B,C,D,())⟩
abbrev oS(v:Int×TA Unit):cw C3.out:=⟨0,v⟩
theorem Uh:ix Tryz.prog Be 79 C3 λ_=>⟨[],[],[],[(2,1,5)],0⟩:=by
 have e:(ix Tryz.prog Be 79 C3 λ_=>⟨[],[],[],[(2,1,5)],0⟩)=
  (∀(x:Int)(X:BL)(M:List (List BL))(N:List Mb)(O:List Bool)(P:Int)(R:KV)(S:Int×BL×BL×Lg×Unit)(U:Pg×La×List Fk×Unit)(W:KM)(n:Int×BL×BL×Lg×Unit)(o:Pg×La×List Fk×Unit)(p:KM)(q:Int×BL×BL×Lg×Unit)(r:Pg×La×List Fk×Unit)(s:KM)(t:Int×BL×BL×Lg×Unit)(u:Pg×La×List Fk×Unit)(v:KM)(A:Int×BL×BL×Lg×Unit)(B:Pg×La×List Fk×Unit)(C f g h j m:KM)(D:Lg)(a:List Tm)(E F G H J:Ln)(K:List BL)(L:List Int)(Q:cw C3.out->Prop),(Tr.need (0<=x/\x<5/\X.length<=1000000/\bO 10 a) (Tr.all Int (λy=>y=Le (bV (M,N,O,P,R,S,U,W,n,o,p,q,r,s,t,u,v,A,B,C,f,g,h,j,m,D,a,E,F,G,H,J,K,L,())) x.toNat X) λy=>Tr.leaf (oS (y,M,N,O,P,R,S,U,W,n,o,p,q,r,s,t,u,v,A,B,C,f,g,h,j,m,D,a,E,F,G,H,J,K,L,())))).sat Q->X.length<=1099511627776/\bQ X 0/\∀(b:Lt×Int×Int),b=fR X true (0,0)->(0<=x/\x<5)/\((((True/\(x=0->eC a/\(hC b.fst/\bO 1 (dC a).fst)/\∀(c:(BL×Int)×List Tm×KV),c=mW ((aO Ty.i64 b.fst.snd.snd.fst f).getD []) b.fst (dC a).fst (dC a).snd->Q (oS ((↑(ah c.fst.fst):Int),M,N,O,P,R,S,U,W,n,o,p,q,r,s,t,u,v,A,B,C,f,g,h,j,m,D,a,E,F,G,H,J,K,L,()))))/\(x=1->eC a/\(hC b.fst/\bO 1 (dC a).fst)/\∀(c:(BL×Int)×List Tm×KV),c=mW ((aO Ty.i64 b.fst.snd.snd.fst g).getD []) b.fst (dC a).fst (dC a).snd->Q (oS ((↑(ah c.fst.fst):Int),M,N,O,P,R,S,U,W,n,o,p,q,r,s,t,u,v,A,B,C,f,g,h,j,m,D,a,E,F,G,H,J,K,L,()))))/\(x=2->eC a/\(hC b.fst/\bO 1 (dC a).fst)/\∀(c:(BL×Int)×List Tm×KV),c=mW ((aO Ty.i64 b.fst.snd.snd.fst h).getD []) b.fst (dC a).fst (dC a).snd->Q (oS ((↑(ah c.fst.fst):Int),M,N,O,P,R,S,U,W,n,o,p,q,r,s,t,u,v,A,B,C,f,g,h,j,m,D,a,E,F,G,H,J,K,L,()))))/\(x=3->eC a/\(hC b.fst/\bO 1 (dC a).fst)/\∀(c:(BL×Int)×List Tm×KV),c=mW ((aO Ty.i64 b.fst.snd.snd.fst j).getD []) b.fst (dC a).fst (dC a).snd->Q (oS ((↑(ah c.fst.fst):Int),M,N,O,P,R,S,U,W,n,o,p,q,r,s,t,u,v,A,B,C,f,g,h,j,m,D,a,E,F,G,H,J,K,L,()))))/\(x=4->eC a/\(hC b.fst/\bO 1 (dC a).fst)/\∀(c:(BL×Int)×List Tm×KV),c=mW ((aO Ty.i64 b.fst.snd.snd.fst m).getD []) b.fst (dC a).fst (dC a).snd->Q (oS ((↑(ah c.fst.fst):Int),M,N,O,P,R,S,U,W,n,o,p,q,r,s,t,u,v,A,B,C,f,g,h,j,m,D,a,E,F,G,H,J,K,L,())))):=by kernel_rfl
 refine VH e ?_;clear e;intro i b;refine Wd.all λw=>?_;intro Q ⟨⟨h1,h2,h3,Y⟩,hQ⟩;have hq:∀y,Le w i.toNat b=y->Q ⟨0,(y,bZ w)⟩:=λy e=>hQ y e.symm;clear hQ;have hr:bQ b 0:=⟨by omega,by omega,by omega⟩;have hc:=Bc Y.1;refine⟨by omega,hr,λl hl=>?_⟩;have hs:hC l.1:=by rw[hl];exact oR hr
 have hk:bO 1 (dC w.ts).1:=⟨hc.1,by have:=hc.2;have:=Y.2;omega⟩;unfold Le at hq;rw[<-hl]at hq;refine⟨⟨h1,h2⟩,⟨⟨⟨⟨trivial,λe=>⟨Y.ok,⟨hs,hk⟩,λz hz=>?_⟩⟩,λe=>⟨Y.ok,⟨hs,hk⟩,λz hz=>?_⟩⟩,λe=>⟨Y.ok,⟨hs,hk⟩,λz hz=>?_⟩⟩,λe=>⟨Y.ok,⟨hs,hk⟩,λz hz=>?_⟩⟩,λe=>⟨Y.ok,⟨hs,hk⟩,λz hz=>?_⟩⟩
 all_goals
  subst e hz;exact hq _ rfl
theorem Ui:bS Tryz.prog 79 C3:=du Bf.1 Bf.2 sF (by kernel_rfl) Uh
def Bg:bw:=(79,[C3])::Be
theorem xC:KK Bg:=⟨aQ.add Bf.1 (by kernel_rfl) (bo (Ui)),bg.add Bf.2 (bo (λ_=>bp))⟩
abbrev Md:=Int×Bool×Unit
def C4(e:Et):Et:=(e.1,[],e.2.2.1,e.2.2.2.1,[],[],[],())
def C5(w:Wd)(md:List Md)(t:Tm):Prop:=∃(n:Nat)(e:Et)(d:BL),w.st[n]?=some (fL e)/\md[n]?=some (0,true,())/\ig e=true/\t=(103,[w.se 0 1,dL e],())/\Nm w.ts e.2.2.2.2.2.2.1 t/\w.lg.2.1[(e.1-1).toNat]?=some (C4 e)/\w.lg.2.2.1[(e.1-1).toNat]?=some d/\Nm w.ts d (104,[dL e],())
def C6(w:Wd)(md:List Md)(t:Tm):Prop:=∃(n:Nat)(l:Lt)(a:Nat)(b:Bool)(c:BL),w.st[n]?=some (gh l)/\md[n]?=some ((a:Int),b,())/\jR l=true/\a<5/\t=(103,[w.se a 1,ei l++tx c],())/\Nm w.ts c (104,[l.2.2.2.2.2.1],())/\Nm w.ts l.2.2.2.2.2.2.1 t/\(b=true/\l.2.1=a\/b=false/\w.go.getD a false=true)
def C7(w:Wd)(t:Tm):Prop:=∃(l:Lt)(a:Nat)(b:BL)(lk:Lk),a<5/\xZ l/\l.1=2/\t=(103,[w.se a 1,ei l++tx b],())/\b.length=32/\pF lk=true/\Nm w.ts l.2.2.2.2.1 (104,[Dn lk],())/\l.2.2.1<lk.2.2.1
def sj(w:Wd)(ts:List Tm)(c:Cl):Prop:=(∃k,c.lg=(w.lg.1,w.lg.2.1.take k,w.lg.2.2.1.take k,()))/\zq ts c.bk
structure Au(w:Wd)(md:List Md):Prop where
 su:xj w.ts w.m
 sc:∀a j:Nat,a<5->j<2->Nm w.ts (w.se a j) (115,[dv ((2*a+j+1:Nat):Int)],())
 al:∀p∈w.al,∃(a:Nat)(x y:BL),a<5/\p=((a:Int),x,y,())/\Nm w.ts x (112,[w.se a 0],())/\Nm w.ts y (118,[w.se a 1],())
 adm:Nm w.ts w.lg.1 (118,[w.se 0 1],())
 es:∀(i:Nat)(e:Et),w.lg.2.1[i]?=some e->e.1=(i:Int)+1/\∀p∈e.2.2.1,p∈w.al
 cl:∀i:Nat,i<5->sj w w.ts (w.cl i)
 own:∀i:Nat,i<5->(w.cl i).sg=w.se i 1/\(w.cl i).se=w.se i 0
 le:w.lg.2.1.length<=w.st.length
 d32:∀d∈w.lg.2.2.1,d.length=32
 ml:md.length=w.st.length
 sr:∀t∈w.ts,t.1=103->C5 w md t\/C6 w md t\/C7 w t
def Lf(w:Wd)(md:List Md)(b:BL)(a:Nw):Prop:=
 (a.1=1/\∃(n:Nat)(e:Et),w.st[n]?=some b/\md[n]?=some (0,true,())/\b=fL e/\ig e=true/\e.1=a.2.2.1)\/
 (a.1≠1/\∃(n:Nat)(l:Lt)(c:Bool),w.st[n]?=some b/\md[n]?=some (l.2.1,c,())/\b=gh l/\jR l=true/\a.1=l.1/\a.2.1=l.2.1/\a.2.2.1=l.2.2.1/\a.2.2.2.1=l.2.2.2.1/\(gk (cS w.lg.2.1 l.2.2.1) l.2.1).2=true/\(c=true\/w.go.getD l.2.1.toNat false=true))
theorem GY{w:Wd}{md:List Md}(h:Au w md)(f:w.ts.length<=4294967296){a b i j:Nat}(g:a<5)(l:b<5)(hi:i<2)(m:j<2)(e:w.se a i=w.se b j):a=b/\i=j:=by
 have n:=h.sc a i g hi;have c:=h.sc b j l m;rw[<-e]at c;have:=Nm.uni f n c;have o:[dv ((2*a+i+1:Nat):Int)]=[dv ((2*b+j+1:Nat):Int)]:=aH (λt:Tm=>t.2.1) this;have p:=yX (by omega) (by omega) (List.cons.inj o).1;omega
theorem Uj{lg:Lg}{e:Et}{ts:List Tm}{m:KV}(h:(kg lg e ts m).1=0):ig e=true/\e.1=(lg.2.1.length:Int)+1/\xX lg.1 (dL e) e.2.2.2.2.2.2.1 ts=true/\(kg lg e ts m).2=((lg.1,lg.2.1++[C4 e],lg.2.2.1++[(dV (104,[dL e],()) ts m).1],()),(dV (104,[dL e],()) ts m).2):=by
 unfold kg at h⊢;rw[ck]at h⊢;split at h
 ·cases h
 rename_i a;rw[af a];split at h
 ·dsimp only at h;split at h<;>cases h
 rename_i f;rw[af f];split at h
 ·cases h
 rename_i b;rw[af b];split at h
 ·cases h
 rename_i g;rw[af g];split at h
 ·cases h
 rename_i c;rw[af c];split at h
 ·cases h
 rename_i i;rw[af i];exact⟨by simpa using a,aC.1 b,by simpa using c,rfl⟩
theorem a40{lg:Lg}{e:Et}{ts:List Tm}{m:KV}(h:(kg lg e ts m).1≠0):(kg lg e ts m).2.1=lg:=by
 unfold kg at h⊢;rw[ck]at h⊢
 repeat' split
 all_goals first|rfl|(exfalso;simp_all;done)
theorem Uk{e a:Et}(b:e.1=a.1)(c:e.2.1=a.2.1)(f:e.2.2.1=a.2.2.1)(g:e.2.2.2.1=a.2.2.2.1)(h:e.2.2.2.2.1=a.2.2.2.2.1)(i:e.2.2.2.2.2.1=a.2.2.2.2.2.1)(j:e.2.2.2.2.2.2.1=a.2.2.2.2.2.2.1):e=a:=by
 obtain⟨l,m,n,o,p,q,r,⟨⟩⟩:=e;obtain⟨s,t,u,v,w,x,y,⟨⟩⟩:=a;dsimp only at*;subst b c f g h i j;rfl
theorem Ul{e a:Lt}(b:e.1=a.1)(c:e.2.1=a.2.1)(f:e.2.2.1=a.2.2.1)(g:e.2.2.2.1=a.2.2.2.1)(h:e.2.2.2.2.1=a.2.2.2.2.1)(i:e.2.2.2.2.2.1=a.2.2.2.2.2.1)(j:e.2.2.2.2.2.2.1=a.2.2.2.2.2.2.1):e=a:=by
 obtain⟨l,m,n,o,p,q,r,⟨⟩⟩:=e;obtain⟨s,t,u,v,w,x,y,⟨⟩⟩:=a;dsimp only at*;subst b c f g h i j;rfl
theorem Nm.t115{ts:List Tm}{b:BL}{l:List BL}(h:Nm ts b (115,l,())):b.length=32:=h.len32 (by show(115:BitVec 8)≠98;decide) (by show(115:BitVec 8)≠103;decide)
theorem GZ{w:Wd}{md:List Md}(h:Au w md){e:Et}(x:ig e=true)(y:xX w.lg.1 (dL e) e.2.2.2.2.2.2.1 w.ts=true):
 ∃(n:Nat)(d:BL),w.st[n]?=some (fL e)/\md[n]?=some (0,true,())/\w.lg.2.1[(e.1-1).toNat]?=some (C4 e)/\w.lg.2.2.1[(e.1-1).toNat]?=some d/\Nm w.ts d (104,[dL e],()):=by
 obtain⟨t,v,s,z,L,M,N,b⟩:=Pv y;rcases h.sr t s.le z with⟨n,A,d,j,c,f,g,i,m,o,p⟩|⟨n,l,a,B,q,j,c,f,g,i,m,o,p⟩|⟨l,a,q,lk,j,c,f,g,i,m,o,p⟩
 ·have C:dL A=dL e:=by rw[g]at b;exact b
  obtain⟨D,E,F,G,H,J,_⟩:=TV (r:=[]) (r':=[]) (Gw f) (Gw x) (by rw[C]);have K:=Nm.inj h.su i s;have:=Uk D E F G H J K;subst this;exact⟨n,d,j,c,m,o,p⟩
 ·rw[i]at b;have b:ei l++tx q=dL e:=b;have u:=(ez f).1;exact absurd b.symm (Gv ⟨u.1,u.2.1⟩)
 ·rw[g]at b;have b:ei l++tx q=dL e:=b;exact absurd b.symm (Gv ⟨c.1,c.2.1⟩)
theorem t7{α:Type}{l:List α}{k:Nat}{x:α}(h:l[(l.take k).length]?=some x):l.take k++[x]=l.take ((l.take k).length+1):=by
 have a:(l.take k).length<l.length:=(cy.1 h).1
 have e:(l.take k).length=k:=by
  rw[be]at a⊢;omega
 rw[e]at h a⊢;rw[dW,h];rfl
theorem Nm.tm{ts:List Tm}{b:BL}{t:Tm}{k:Nat}(h:Nm ts b t)(a:bO k ts):eI t:=a.1 t h.le
theorem Um{w:Wd}{md:List Md}(h:Au w md){k:Nat}(f:bO (k+100) w.ts){c:Cl}(z:sj w w.ts c)(i:cC w.lg.2.1 w.lg.2.2.1){e:Et}(s:vk e)(j:aB c.se):
 sj w (qh c.c c.se c.lg c.km e w.ts w.m).2.2.2.1 {c with lg:=(qh c.c c.se c.lg c.km e w.ts w.m).2.1,km:=(qh c.c c.se c.lg c.km e w.ts w.m).2.2.1}/\
 ((qh c.c c.se c.lg c.km e w.ts w.m).1.2=0->(qh c.c c.se c.lg c.km e w.ts w.m).1.1=(1,0,e.1,e.1,false,false,[],())/\ig e=true/\∃n:Nat,w.st[n]?=some (fL e)/\md[n]?=some (0,true,())):=by
 have l:Su (k+100) w.ts w.m:=⟨h.su,f⟩;have L:w.ts.length<=4294967296:=by have:=f.2;omega
 have A:=(t_ (c:=c.c) (se:=c.se) (lg:=c.lg) (km:=c.km) (k:=k) s j l).gr;obtain⟨⟨q,a⟩,B⟩:=z;have M:=Ub (lg:=c.lg) (e:=e) (k:=k+99) s.2.1 l
 have key:(kg c.lg e w.ts w.m).1=0->ig e=true/\(∃n:Nat,w.st[n]?=some (fL e)/\md[n]?=some (0,true,()))/\∃k:Nat,(kg c.lg e w.ts w.m).2.1=(w.lg.1,w.lg.2.1.take k,w.lg.2.2.1.take k,()):=by
  intro g;obtain⟨u,C,D,E⟩:=Uj g;have v:=D;rw[a]at v;obtain⟨n,d,F,G,x,o,y⟩:=GZ h u v;have H:(e.1-1).toNat=(w.lg.2.1.take q).length:=by rw[C,a];dsimp only;omega
  have J:(w.lg.2.2.1.take q).length=(w.lg.2.1.take q).length:=by rw[be,be,i.2.1]
  have p:=yb (k:=k+99) (t:=(104,[dL e],())) l (y.tm f);have K:(dV (104,[dL e],()) w.ts w.m).1=d:=Nm.inj p.1.su.w p.2 (p.1.gr.nm y);refine⟨u,⟨n,F,G⟩,(w.lg.2.1.take q).length+1,?_⟩;rw[E];dsimp only;rw[K,a];dsimp only;rw[H]at x o;rw[t7 x];rw[<-J]at o⊢;rw[t7 o]
 refine⟨⟨?_,B.gr A⟩,λg=>?_⟩
 ·show∃k,(qh c.c c.se c.lg c.km e w.ts w.m).2.1=_;unfold qh;rw[ck];dsimp only;split
  ·exact⟨q,a⟩
  ·rename_i g;split
   ·exact⟨q,a⟩
   ·exact(key (aC.1 g)).2.2
 ·unfold qh at g⊢;rw[ck]at g⊢;dsimp only at g⊢;split at g
  ·rename_i b;exact absurd g b
  ·rename_i b;split at g
   ·rename_i r;exact absurd g r
   ·rename_i r;rw[af b,af r];exact⟨rfl,(key (aC.1 b)).1,(key (aC.1 b)).2.1⟩
theorem G0{es:List Et}{k:Nat}{n:Int}(h:(cS (es.take k) n)≠[]):cS (es.take k) n=cS es n:=by
 unfold cS at h⊢;split at h
 ·exact absurd rfl h
 rename_i g;rw[be]at g;rw[af (by rw[be];exact g),af (by omega)]
 congr 3
 rw[aw,aw,List.getElem?_take,am (by omega)]
theorem a0m(id:Int):(gk [] id).2=false:=rfl
theorem vx:∀{l:List Mb}{id:Int},(gk l id).2=true->(gk l id).1∈l/\(gk l id).1.1=id
 |[],_,h=>by simp[gk]at h
 |m::r,id,h=>by
  simp only[gk]at h⊢;split
  ·rename_i e;exact⟨aG ..,e⟩
  ·rename_i e;rw[af e]at h;have:=vx h;exact⟨aA _ this.1,this.2⟩
theorem Un{w:Wd}{md:List Md}(h:Au w md){k:Nat}(Q:bO (k+6000) w.ts){c:Cl}(hc:sj w w.ts c){l:Lt}(hf:jR l=true){y:x9}(r:kr c l w.ts w.m y)(h0:y.1=0):
 ∃(n:Nat)(i:Bool),w.st[n]?=some (gh l)/\md[n]?=some (l.2.1,i,())/\(gk (cS w.lg.2.1 l.2.2.1) l.2.1).2=true/\(i=true\/w.go.getD l.2.1.toNat false=true):=by
 have B:=(ez hf).2.2.1;have b:=(ez hf).1;have hl:w.ts.length<=4294967296:=by have:=Q.2;omega
 obtain⟨⟨q,hq⟩,hb⟩:=hc;unfold kr at r;dsimp only at r;split at r
 ·rw[r]at h0;cases h0
 split at r
 ·rw[r]at h0;cases h0
 rename_i u;have o:=lcP (sg:=(gk (cS c.lg.2.1 l.2.2.1) l.2.1).1.2.2.1) (k:=k+5999) B ⟨h.su,Q⟩;split at r
 ·rename_i g;rw[r]at h0;exact absurd h0 g
 rename_i gz;have u:(gk (cS c.lg.2.1 l.2.2.1) l.2.1).2=true:=by simpa using u
 have C:cS c.lg.2.1 l.2.2.1=cS w.lg.2.1 l.2.2.1:=by
  rw[hq];refine G0 λe=>?_;rw[hq,e]at u;cases u
 rw[C]at u o gz r;obtain⟨p1,p2⟩:=vx u;obtain⟨en,R,hp⟩:=vl p1;obtain⟨ie,S⟩:=List.getElem?_of_mem R;obtain⟨a,x,yy,ha,ea,n1,n2⟩:=h.al _ ((h.es ie en S).2 _ hp);have D:l.2.1=(a:Int):=by rw[<-p2,ea]
 have U:(gk (cS w.lg.2.1 l.2.2.1) l.2.1).1.2.2.1=yy:=by rw[ea]
 obtain⟨E,t,v,c1,M,W,c4,c5,c6,p,f,c9⟩:=w_ (k:=k+5999) B ⟨h.su,Q⟩ (aC.1 gz);rw[U]at c5 M W c1 o r;have F:(tV yy l w.ts w.m).2.1.length<=4294967296:=by have:=o.su.k.2;omega
 have ev:=Nm.uni F c5 (o.gr.nm n2);rw[ev]at p;have p:t.2.1.getD 0 []=w.se a 1:=p;have X:t∈w.ts:=(o.gr.old W.le).resolve_right λe=>e.1 c4;refine(h.sr t X c4).elim ?_ λhx=>hx.elim ?_ ?_
 ·rintro⟨n,e',d,Y,N,z3,G,z5,H⟩;rw[G]at f;exact absurd (show dL e'=ei l++tx E from f) (Gv ⟨b.1,b.2.1⟩)
 ·rintro⟨n,J,a',i,j,Y,N,z3,G,z5,H,O,z⟩;rw[z5]at p f;have p:w.se a' 1=w.se a 1:=p;have f:ei J++tx j=ei l++tx E:=f;have a0:=(GY h hl G ha (by omega) (by omega) p).1;subst a0;have K:E.length=32:=M.len32 (by show(104:BitVec 8)≠98;decide) (by show(104:BitVec 8)≠103;decide);have a1:j.length=32:=H.len32 (by show(104:BitVec 8)≠98;decide) (by show(104:BitVec 8)≠103;decide);obtain⟨i1,i2,i3,i4,P,i6⟩:=Gu (ez z3).1 b (by omega) (by omega) f
  have i7:J.2.2.2.2.2.1=l.2.2.2.2.2.1:=by
   have:=Nm.uni F (o.gr.nm H) (by rw[i6];exact M);exact(List.cons.inj (aH (λt:Tm=>t.2.1) this)).1
  have i8:J.2.2.2.2.2.2.1=l.2.2.2.2.2.2.1:=Nm.inj o.su.w (o.gr.nm O) W;have:=Ul i1 i2 i3 i4 P i7 i8;subst this;refine⟨n,i,Y,by rw[D];exact N,u,?_⟩;rcases z with z|z
  ·exact .inl z.1
  ·refine .inr ?_;rw[D,aF];exact z.2
 ·rintro⟨J,a',j,lk,Y,N,z3,G,z5,H,O,z⟩;exfalso;rw[G]at p f;have f:ei J++tx j=ei l++tx E:=f;have K:E.length=32:=M.len32 (by show(104:BitVec 8)≠98;decide) (by show(104:BitVec 8)≠103;decide);obtain⟨i1,i2,i3,i4,P,i6⟩:=Gu N b (by omega) (by omega) f;split at r
  ·rename_i g;rw[r]at h0;exact absurd h0 g
  rename_i L;have L:=aC.1 L;unfold zl at L;rw[af (by omega)]at L;obtain⟨k1,k2,A,k4,k5⟩:=y_ L;rw[c1]at k1 k2 A k4;dsimp only at k1 k2 A k4;rw[zr ⟨b.2.2.1,b.2.2.2.1⟩]at A;have s:l.2.2.2.2.1.length=32:=by rw[<-P];exact O.len32 (by show(104:BitVec 8)≠98;decide) (by show(104:BitVec 8)≠103;decide)
  split at A
  ·rw[<-A]at s;cases s
  rename_i g0
  have a2:(dx c.bk l.2.1)[(dx c.bk l.2.1).length-1]?=some ((dx c.bk l.2.1).getD ((dx c.bk l.2.1).length-1) pu):=by
   rw[aw,ap (by omega)];rfl
  obtain⟨a3,o1,o2,o3,o4,o5⟩:=hb _ _ _ a2;rw[A,<-P]at o5;have e1:[Dn a3]=[Dn lk]:=aH (λt:Tm=>t.2.1) (Nm.uni hl o5 O);have e2:=Lb o1 H (List.cons.inj e1).1;subst e2;apply k4;refine⟨by omega,?_⟩;rw[<-o4];omega
theorem sj.gr{K:Tm->Prop}{w:Wd}{ts a:List Tm}{c:Cl}(h:sj w ts c)(g:Gr K ts a):sj w a c:=⟨h.1,h.2.gr g⟩
theorem H'{w:Wd}{md:List Md}(h:Au w md){n i:Nat}(q:cR w (n+1))(hi:i<5){b:BL}{y:Ir}(r:nW (w.cl i) b w.ts w.m y):
 sj w y.2.2.1 y.2.1/\(y.1.1=0->Lf w md b y.1.2):=by
 have s:bO (10000+10000) w.ts:=q.ts.mono (by omega);have a:=h.cl i hi;obtain⟨⟨L,M,G,N,O,P,Q,R,S⟩,_,_⟩:=q.cl i hi;have t:sj w w.ts (w.cl i):=a;generalize w.cl i=c at*;unfold nW at r;dsimp only at r;split at r
 ·rw[r];exact⟨a,λe=>by cases e⟩
 rename_i U;have u:bQ b 0:=⟨by omega,by omega,by omega⟩;split at r
 ·rename_i g;rw[r];exact⟨a,λe=>absurd e g⟩
 split at r
 ·split at r
  ·rename_i g;rw[r];exact⟨a,λe=>absurd e g⟩
  ·rename_i g;have g:=aC.1 g;have H:=fy ((vm u).2 g).2;obtain⟨o,l⟩:=Pm u g;have:=Um h (k:=19900) (c:=c) (e:=(eL b true (0,0)).1) s a q.lg.1 H G;rw[r];refine⟨this.1,λe=>?_⟩;obtain⟨p,D,n,v,x⟩:=this.2 e;refine .inl ?_;show(qh _ _ _ _ _ _ _).1.1.1=1/\_;rw[p];exact⟨rfl,n,_,by rw[o];exact v,x,o,l,rfl⟩
 ·split at r
  ·rename_i g;rw[r];exact⟨a,λe=>absurd e g⟩
  ·rename_i g;have g:=aC.1 g;obtain⟨o,l⟩:=A8 u g;obtain⟨z,f,J,E,W,j,K⟩:=r;have A:=Ud (k:=14000) l ⟨h.su,s⟩ a.2 E;rw[K];refine⟨⟨a.1,A⟩,λe=>?_⟩;have e:z.1=0:=e;obtain⟨n,B,p,D,v,x⟩:=Un h (k:=14000) s t l E e;unfold xz at j;rw[am e]at j;have C:=(ez l).1;refine .inr ⟨?_,n,_,B,by rw[<-o]at p;exact p,D,o,l,j.1,j.2.1,j.2.2.1,j.2.2.2,v,x⟩;show J.1≠1;rw[j.1];intro e;have F:=C.1;rw[e]at F;exact absurd F (by decide)
theorem Uo{c:Cl}{b:BL}{ts:List Tm}{m:KV}{y:Ir}(r:nW c b ts m y):y.2.1.sg=c.sg/\y.2.1.se=c.se:=by
 unfold nW at r;dsimp only at r;split at r
 ·rw[r];exact⟨rfl,rfl⟩
 split at r
 ·rw[r];exact⟨rfl,rfl⟩
 split at r
 ·split at r
  ·rw[r];exact⟨rfl,rfl⟩
  ·rw[r];exact⟨rfl,rfl⟩
 ·split at r
  ·rw[r];exact⟨rfl,rfl⟩
  ·obtain⟨z,f,e,g,h,i,a⟩:=r;rw[a];exact⟨rfl,rfl⟩
structure el(w w':Wd):Prop where
 sec:w'.sec=w.sec
 al:w'.al=w.al
 go:w'.go=w.go
 st:w'.st=w.st
 lg:w'.lg=w.lg
theorem el.se{w w':Wd}(h:el w w')(i j:Nat):w'.se i j=w.se i j:=by unfold Wd.se;rw[h.sec]
theorem Src.same{K:Tm->Prop}{w w':Wd}{md:List Md}{t:Tm}(h:el w w')(g:Gr K w.ts w'.ts)(s:C5 w md t\/C6 w md t\/C7 w t):C5 w' md t\/C6 w' md t\/C7 w' t:=by
 refine s.imp ?_ (Or.imp ?_ ?_)
 ·rintro⟨n,e,d,b,c,f,i,j,m,o,p⟩;exact⟨n,e,d,by rw[h.st];exact b,c,f,by rw[h.se];exact i,g.nm j,by rw[h.lg];exact m,by rw[h.lg];exact o,g.nm p⟩
 ·rintro⟨n,l,a,q,r,b,c,f,i,j,m,o,p⟩;exact⟨n,l,a,q,r,by rw[h.st];exact b,c,f,i,by rw[h.se];exact j,g.nm m,g.nm o,by rw[h.go];exact p⟩
 ·rintro⟨l,a,r,lk,b,c,f,i,j,m,o,p⟩;exact⟨l,a,r,lk,b,c,f,by rw[h.se];exact i,j,m,g.nm o,p⟩
theorem Au.same{w w':Wd}{md:List Md}(h:Au w md)(s:el w w')(g:Gr (λt=>t.1≠103) w.ts w'.ts)(hu:xj w'.ts w'.m)(hc:∀i:Nat,i<5->sj w w'.ts (w'.cl i))(ho:∀i:Nat,i<5->(w'.cl i).sg=(w.cl i).sg/\(w'.cl i).se=(w.cl i).se):Au w' md where
 su:=hu
 sc a j ha hj:=by rw[s.se];exact g.nm (h.sc a j ha hj)
 al p hp:=by
  rw[s.al]at hp;obtain⟨a,x,y,h1,h2,h3,h4⟩:=h.al p hp;exact⟨a,x,y,h1,h2,by rw[s.se];exact g.nm h3,by rw[s.se];exact g.nm h4⟩
 adm:=by rw[s.lg,s.se];exact g.nm h.adm
 es i e he:=by rw[s.lg]at he;rw[s.al];exact h.es i e he
 cl i hi:=by obtain⟨⟨k,hk⟩,hb⟩:=hc i hi;exact⟨⟨k,by rw[s.lg];exact hk⟩,hb⟩
 own i hi:=by rw[(ho i hi).1,(ho i hi).2,s.se,s.se];exact h.own i hi
 le:=by rw[s.st,s.lg];exact h.le
 d32:=by rw[s.lg];exact h.d32
 ml:=by rw[s.st];exact h.ml
 sr t ht h3:=by
  have ho:t∈w.ts:=(g.old ht).resolve_right λe=>e h3;exact Src.same s g (h.sr t ho h3)
theorem fE(w:Wd)(i:Nat)(r:Cl×List Tm×KV):el w (w.aft i r)/\(w.aft i r).ts=r.2.1/\(w.aft i r).m=r.2.2:=by
 obtain⟨a,b,c,h,e,f,j,l,n,g⟩:=eG w i r.1;exact⟨⟨a,b,c,f,e⟩,rfl,rfl⟩
theorem C8(w:Wd)(i:Nat)(c:KM):el w (w.setK i c)/\(w.setK i c).ts=w.ts/\(w.setK i c).m=w.m/\∀j,(w.setK i c).cl j=w.cl j:=by
 obtain⟨b,e,f,o,g,h,p,l,n,a⟩:=oQ w i c;exact⟨⟨b,e,f,h,g⟩,l,n,a⟩
theorem lR(b:BL)(i:Int)(r:Int×Nw)(w:Wd):el w (fj b i r w)/\(fj b i r w).ts=w.ts/\(fj b i r w).m=w.m/\∀j,(fj b i r w).cl j=w.cl j:=by
 unfold fj;split
 ·exact C8 w _ _
 ·exact⟨⟨rfl,rfl,rfl,rfl,rfl⟩,rfl,rfl,λ_=>rfl⟩
theorem rP(w:Wd){i j:Nat}(hi:i<5)(a:j<5)(r:Cl×List Tm×KV):(w.aft i r).cl j=if j=i then r.1 else w.cl j:=by
 have e:(w.aft i r).cl j=(w.setC i r.1).cl j:=by
  unfold Wd.aft;rcases fo a with rfl|rfl|rfl|rfl|rfl<;>rfl
 rw[e,zs w r.1 hi a]
theorem el.trans{a b c:Wd}(h:el a b)(h':el b c):el a c:=⟨h'.sec.trans h.sec,h'.al.trans h.al,h'.go.trans h.go,h'.st.trans h.st,h'.lg.trans h.lg⟩
theorem nc{w:Wd}{md:List Md}{n:Nat}(h:Au w md)(a:cR w n):Su (10000*n+10000) w.ts w.m:=⟨h.su,a.ts⟩
theorem rQ{w:Wd}{md:List Md}(h:Au w md){n:Nat}(f:cR w (n+1)){i:Int}(hi:0<=i/\i<5){b:BL}{y:(Int×Nw)×Wd}(r:jw w i b y):
 Au y.2 md/\el w y.2/\Gr gP w.ts y.2.ts/\(y.1.1=0->Lf w md b y.1.2):=by
 obtain⟨z,l,rfl⟩:=r;have a:i.toNat<5:=by omega
 have o:=rcP (k:=10000*n+10000) (f.cl i.toNat a).1 ((nc h f).mono (by omega)) l;have s:=H' h f a l;obtain⟨u,p,A⟩:=fE w i.toNat z.2;obtain⟨v,q,B,x⟩:=lR b i z.1 (w.aft i.toNat z.2);have g:Gr gP w.ts (fj b i z.1 (w.aft i.toNat z.2)).ts:=by rw[q,p];exact o.gr
 have C:=Uo l;refine⟨h.same (u.trans v) (g.imp λt e=>e.1) ?_ (λj c=>?_) λj c=>?_,u.trans v,g,s.2⟩
 ·show xj (fj b i z.1 (w.aft i.toNat z.2)).ts (fj b i z.1 (w.aft i.toNat z.2)).m;rw[q,B,p,A];exact o.su.w
 ·show sj w (fj b i z.1 (w.aft i.toNat z.2)).ts ((fj b i z.1 (w.aft i.toNat z.2)).cl j);rw[q,x,p,rP w a c];split
  ·exact s.1
  ·exact(h.cl j c).gr o.gr
 ·show((fj b i z.1 (w.aft i.toNat z.2)).cl j).sg=_/\((fj b i z.1 (w.aft i.toNat z.2)).cl j).se=_;rw[x,rP w a c];split
  ·rename_i e;subst e;exact C
  ·exact⟨rfl,rfl⟩
def Iv(a b:BL):Tm:=(100,(if 0<jN a b then[b,a]else[a,b]),())
theorem G1{n id:Int}{sec pub v:BL}{k:Nat}{ts:List Tm}{m:KV}(f:aB sec)(h:Su (k+2) ts m)(h0:(gR n id sec pub ts m).1.2=0)(i:Nm ts pub (112,[v],())):
 ∃e,Nm (gR n id sec pub ts m).2.1 e (Iv sec v)/\Nm (gR n id sec pub ts m).2.1 (gR n id sec pub ts m).1.1 (107,[e,vn n++vn id],()):=by
 have j:ts.length<=4294967296:=by have:=h.k.2;omega
 have a:=rI j i;have a:fK pub 112 ts=((112,[v],()),true):=a;unfold gR at h0⊢;split at h0
 ·rename_i g;exact absurd h0 g
 rename_i g;rw[af g];have g:=aC.1 g
 have l:(my sec pub ts m).1=dV (Iv sec v) ts m:=by
  unfold my at g⊢;split at g
  ·cases g
  rename_i o;rw[af o];split at g
  ·cases g
  rename_i p;rw[af p,a];rfl
 have b:eI (Iv sec v):=by
  have:=GH (sec:=sec) (pub:=pub) f h.k.ok (by rw[a]);rw[a]at this;exact this
 have q:=yb (k:=k+1) h b;dsimp only;rw[l];generalize dV (Iv sec v) ts m=S at*;have s:=bz n;have u:=bz id;have c:=q.2.len32 (by show(100:BitVec 8)≠98;decide) (by show(100:BitVec 8)≠103;decide);have r:=Dv (k:=k) (t:=(107,[S.1,vn n++vn id],())) q.1.su (yV (by decide) (by decide) (show aB S.1 by unfold aB;omega) (show aB (vn n++vn id)by unfold aB;simp;omega));exact⟨S.1,r.1.gr.nm q.2,r.2 c⟩
theorem I_{n id:Int}{sec pub:BL}{k:Nat}{ts:List Tm}{m:KV}(a:aB sec)(h:Su (k+2) ts m)(h0:(gR n id sec pub ts m).1.2=0):(gR n id sec pub ts m).1.1.length=32:=by
 unfold gR at h0⊢;split at h0
 ·rename_i g;exact absurd h0 g
 rename_i g;rw[af g];have g:=aC.1 g
 have q:(my sec pub ts m).1.1.length=32/\Ok gP (k+1) ts (my sec pub ts m).1.2:=by
  refine⟨?_,shP a h⟩;unfold my at g⊢;split at g
  ·cases g
  rename_i c;rw[af c];split at g
  ·cases g
  rename_i b;rw[af b];exact(yb (k:=k+1) h (GH a h.k.ok (by simpa using b))).2.len32 (by show(100:BitVec 8)≠98;decide) (by show(100:BitVec 8)≠103;decide)
 dsimp only;generalize(my sec pub ts m).1=S at*;have e:=bz n;have f:=bz id;have r:=Dv (k:=k) (t:=(107,[S.1,vn n++vn id],())) q.2.su (yV (by decide) (by decide) (show aB S.1 by unfold aB;omega) (show aB (vn n++vn id)by unfold aB;simp;omega));exact(r.2 q.1).len32 (by show(107:BitVec 8)≠98;decide) (by show(107:BitVec 8)≠103;decide)
theorem seP{q o x:BL}{n:Int}{k:Nat}{ts:List Tm}{m:KV}(a:aB q)(b:aB o)(c:aB x)(h:Su (k+1) ts m):Ok gP k ts (lY q n o x ts m).2:=by
 unfold lY;split
 ·exact Ok.refl h (by omega)
 ·exact naP h (tm4 a (by unfold aB;rw[eo];omega) b c) ⟨by show(98:BitVec 8)≠103;decide,by show(98:BitVec 8)≠115;decide⟩
theorem G2{n:Int}{once key co:BL}(c:aB once)(i:key.length<=64)(g:aB co){k:Nat}:∀(ms:List Mb)(a:List BL)(ts:List Tm)(m:KV),(∀p∈ms,aB p.2.1)->Su (k+3*ms.length) ts m->Ok gP k ts (u5 n once key co ms a ts m).2
 |[],a,ts,m,_,b=>Ok.refl b (by omega)
 |p::r,a,ts,m,e,b=>by
  have f:=s_ (k:=k+3*r.length+1) n p.1 c (e p (aG ..)) (b.mono (by simp;omega));have j:=(Vk (k:=k+3*r.length+1) m n p.1 c (e p (aG ..)) (b.k.mono (by simp;omega))).1;simp only[u5];split
  ·exact f.mono (by omega)
  ·generalize gR n p.1 once p.2.1 ts m=z at*;have h:=seP (n:=1) (k:=k+3*r.length) (q:=z.1.1) (o:=co) (x:=key) (by unfold aB;omega) g (by unfold aB;omega) f.su;exact(f.trans h).trans (G2 c i g r _ _ _ (λq l=>e q (aA _ l)) h.su)
def zx(ts:List Tm)(n:Int)(once key co:BL)(id:Int)(v b:BL):Prop:=∃a c,Nm ts a (Iv once v)/\Nm ts c (107,[a,vn n++vn id],())/\Nm ts b (98,[c,dv 1,co,key],())
theorem zx.gr{K:Tm->Prop}{ts e:List Tm}{n:Int}{once key co:BL}{id:Int}{v b:BL}(h:zx ts n once key co id v b)(g:Gr K ts e):zx e n once key co id v b:=let⟨f,i,a,b,c⟩:=h;⟨f,i,g.nm a,g.nm b,g.nm c⟩
theorem PB{n:Int}{once key co:BL}(j:aB once)(K:key.length<=64)(A:aB co){k:Nat}:∀(ms:List Mb)(a:List BL)(ts:List Tm)(m:KV),(∀p∈ms,aB p.2.1)->Su (k+3*ms.length) ts m->(u5 n once key co ms a ts m).1.2=0->
 ∃l,(u5 n once key co ms a ts m).1.1=a++l/\l.length=ms.length/\(∀b∈l,b.length=key.length+16)/\∀(i:Nat)(p:Mb)(v:BL),ms[i]?=some p->Nm ts p.2.1 (112,[v],())->∃b,l[i]?=some b/\zx (u5 n once key co ms a ts m).2.1 n once key co p.1 v b
 |[],a,ts,m,_,s,_=>⟨[],by simp[u5],rfl,by simp,λi p v h=>by simp at h⟩
 |p::r,a,ts,m,B,s,C=>by
  have t:=s_ (k:=k+3*r.length+1) n p.1 j (B p (aG ..)) (s.mono (by simp;omega));have M:=(Vk (k:=k+3*r.length+1) m n p.1 j (B p (aG ..)) (s.k.mono (by simp;omega))).1;have c:=λv=>G1 (v:=v) (n:=n) (id:=p.1) (pub:=p.2.1) (k:=k+3*r.length+1) j (s.mono (by simp;omega));have f:=I_ (n:=n) (id:=p.1) (pub:=p.2.1) (k:=k+3*r.length+1) j (s.mono (by simp;omega));simp only[u5]at C⊢;split at C
  ·rename_i g;exact absurd C g
  ·rename_i g;rw[af g];have f:=f (aC.1 g);have c:=λv=>c v (aC.1 g);generalize gR n p.1 once p.2.1 ts m=z at*;have u:=seP (n:=1) (k:=k+3*r.length) (q:=z.1.1) (o:=co) (x:=key) (by unfold aB;omega) A (by unfold aB;omega) t.su;have w:=λy=>seG (q:=z.1.1) (n:=1) (o:=co) (x:=key) (k:=k+3*r.length) (by omega) y A (by unfold aB;omega) t.su;have E:=G2 (n:=n) (co:=co) (key:=key) j K A (k:=k) r (a++[(lY z.1.1 1 co key z.2.1 z.2.2).1]) _ (lY z.1.1 1 co key z.2.1 z.2.2).2.2 (λq y=>B q (aA _ y)) u.su;obtain⟨l,N,O,P,Q⟩:=PB j K A (k:=k) r (a++[(lY z.1.1 1 co key z.2.1 z.2.2).1]) _ (lY z.1.1 1 co key z.2.1 z.2.2).2.2 (λq y=>B q (aA _ y)) u.su C;refine⟨(lY z.1.1 1 co key z.2.1 z.2.2).1::l,by rw[N,ay];rfl,by simp[O],λb t=>?_,λi q v F L=>?_⟩
   ·rcases bt.1 t with e|e
    ·rw[e,(w f).2.len98]
    ·exact P b e
   rcases i with _|i
   ·simp at F;subst F;obtain⟨R,G,D⟩:=c v L;have H:=D.len32 (by show(107:BitVec 8)≠98;decide) (by show(107:BitVec 8)≠103;decide);have J:=w H;exact⟨_,by simp,R,z.1.1,E.gr.nm (u.gr.nm G),E.gr.nm (u.gr.nm D),E.gr.nm J.2⟩
   ·obtain⟨b,G,D⟩:=Q i q v (by simpa using F) (u.gr.nm (t.gr.nm L));exact⟨b,by simpa using G,D⟩
theorem PC{lg:Lg}{sec once key:BL}{ms:List Mb}{ns:List Fk}{k:Nat}{ts:List Tm}{m:KV}(M:cC lg.2.1 lg.2.2.1)(R:pI ms)(N:Su (k+40) ts m)
 (S:∀d∈lg.2.2.1,d.length=32) (U:lg.2.1.length<65536):
 ((sb lg sec once key ms ns ts m).1.2≠0/\Ok gP k ts (sb lg sec once key ms ns ts m).2)\/
 ((sb lg sec once key ms ns ts m).1.2=0/\∃(E:Et)(O:BL),(sb lg sec once key ms ns ts m).1.1=E/\E=lp lg ms ns O E.2.2.2.2.2.1 E.2.2.2.2.2.2.1/\ig E=true/\ED lg.2.1 ms ns=true/\pw ms ns=true/\key.length=32/\once.length=32/\sec.length=32/\
   Ok (λt=>gP t\/t=(103,[sec,dL E],())) k ts (sb lg sec once key ms ns ts m).2/\Nm (sb lg sec once key ms ns ts m).2.1 E.2.2.2.2.2.2.1 (103,[sec,dL E],())/\Nm (sb lg sec once key ms ns ts m).2.1 O (112,[once],())/\
   Nm (sb lg sec once key ms ns ts m).2.1 lg.1 (118,[sec],())/\
   ∀(i:Nat)(p:Mb)(v:BL),ms[i]?=some p->Nm ts p.2.1 (112,[v],())->∃b,E.2.2.2.2.2.1[i]?=some b/\zx (sb lg sec once key ms ns ts m).2.1 E.1 once key (fq E) p.1 v b):=by
 have W:Ok gP k ts (ts,m):=Ok.refl N (by omega);unfold sb;rw[ck];split
 ·exact .inl ⟨by simp,W⟩
 rename_i A;rw[not_or,not_or]at A;have s:sec.length=32:=aC.1 A.1;have B:once.length=32:=aC.1 A.2.1;have G:key.length=32:=aC.1 A.2.2;have h:=Dv (k:=k+39) N (kD (k:=118) (by decide) (by decide) (show aB sec by unfold aB;omega));have X:=h.2 s;have h:Ok gP (k+39) ts (dh (118,[sec],()) ts m).2:=h.1.imp λt e=>by rw[e];exact⟨by show(118:BitVec 8)≠103;decide,by show(118:BitVec 8)≠115;decide⟩
 dsimp only;generalize dh (118,[sec],()) ts m=v at*;split
 ·exact .inl ⟨by simp,h.mono (by omega)⟩
 rename_i H;have H:=aC.1 H;split
 ·exact .inl ⟨by simp,h.mono (by omega)⟩
 rename_i Y;have c:=Dv (k:=k+38) h.su (kD (k:=112) (by decide) (by decide) (show aB once by unfold aB;omega));have P:=c.2 B;have c:Ok gP (k+38) v.2.1 (dh (112,[once],()) v.2.1 v.2.2).2:=c.1.imp λt e=>by rw[e];exact⟨by show(112:BitVec 8)≠103;decide,by show(112:BitVec 8)≠115;decide⟩
 generalize dh (112,[once],()) v.2.1 v.2.2=p at*;have j:=h.trans c;split
 ·exact .inl ⟨by simp,j.mono (by omega)⟩
 rename_i J;rw[not_or]at J;have u:pw ms ns=true:=by simpa using J.1
 have hf:ED lg.2.1 ms ns=true:=by simpa using J.2
 obtain⟨q1,q2,q3,q4,q5⟩:=fX u;have w:=rG M lg.2.1.length;have l2:=P.len32 (by show(112:BitVec 8)≠98;decide) (by show(112:BitVec 8)≠103;decide)
 have hc:(fq (oK lg ms ns p.1)).length<=1002000:=by
  have:=oL (e:=oK lg ms ns p.1) u;have s:(oK lg ms ns p.1).2.1.length<=1000000:=w;have B:(oK lg ms ns p.1).2.2.2.2.1.length<=64:=by show p.1.length<=64;omega
  omega
 unfold RF;dsimp only;have K:aB once:=by unfold aB;omega
 have l:aB (fq (oK lg ms ns p.1)):=by unfold aB;omega
 have o:∀x∈ms,aB x.2.1:=λx hx=>by have:=(R x hx).1;unfold aB;omega
 have C:=G2 (n:=lg.2.1.length+1) (k:=k+1) K (show key.length<=64 by omega) l ms [] p.2.1 p.2.2 o (c.su.mono (by omega));have y:=zv (n:=lg.2.1.length+1) (k:=k+1) K (show key.length<=64 by omega) l ms [] p.2.1 p.2.2 o (c.su.k.mono (by omega)) (by simp);have L:=PB (n:=lg.2.1.length+1) (k:=k+1) K (show key.length<=64 by omega) l ms [] p.2.1 p.2.2 o (c.su.mono (by omega));generalize u5 (lg.2.1.length+1) once key (fq (oK lg ms ns p.1)) ms [] p.2.1 p.2.2=z at*;have f:=j.trans C;split
 ·rename_i g;exact .inl ⟨g,f.mono (by omega)⟩
 rename_i gz;obtain⟨bs,D,b2,b4,b3⟩:=L (aC.1 gz);rw[eS]at D
 have hw:∀a:BL,(dL (lp lg ms ns p.1 z.1.1 a)).length<=1003000:=by
  intro a;have:=u7 (e:=lp lg ms ns p.1 z.1.1 a) u 80 y.2.1;have s:(lp lg ms ns p.1 z.1.1 a).2.1.length<=1000000:=w;have B:(lp lg ms ns p.1 z.1.1 a).2.2.2.2.1.length<=64:=by show p.1.length<=64;omega
  have G:(lp lg ms ns p.1 z.1.1 a).2.2.2.2.2.1.length<=5:=by have:=y.2.2;simp at this;exact bq this q2
  omega
 have ew:∀a,dL (lp lg ms ns p.1 z.1.1 a)=dL (lp lg ms ns p.1 z.1.1 []):=λa=>rfl;have ec:∀a,fq (lp lg ms ns p.1 z.1.1 a)=fq (oK lg ms ns p.1):=λa=>rfl;have r:=Dv (k:=k) C.su (yV (k:=103) (by decide) (by decide) (show aB sec by unfold aB;omega) (show aB (dL (lp lg ms ns p.1 z.1.1 []))by have:=hw [];unfold aB;omega));have Q:=r.2 s;have r:=r.1;generalize dh (103,[sec,dL (lp lg ms ns p.1 z.1.1 [])],()) z.2.1 z.2.2=g at*;refine .inr ⟨rfl,lp lg ms ns p.1 z.1.1 g.1,p.1,rfl,rfl,?_,hf,u,G,B,s,?_,?_,?_,?_,?_⟩
 ·unfold ig;refine decide_eq_true ⟨?_,?_,?_,u,?_,l2,?_,Q.len64⟩
  ·show(1:Int)<=(lg.2.1.length:Int)+1;omega
  ·show(lg.2.1.length:Int)+1<=65536;omega
  ·show((lg.2.1.length:Int)+1=1/\(ll lg.2.1 lg.2.2.1 lg.2.1.length).length=0\/(ll lg.2.1 lg.2.2.1 lg.2.1.length).length=32);unfold ll;by_cases q:lg.2.1.length=0
   ·rw[am (.inl (by omega))];exact .inl ⟨by omega,rfl⟩
   ·rw[af (by omega)];exact .inr (S _ (aS (by have:=M.2.1;omega)))
  ·intro b F;have F:b∈z.1.1:=F;rw[D]at F;rw[b4 b F,G]
  ·show z.1.1.length=ms.length;rw[D,b2]
 ·exact(f.imp λt e=> .inl e).trans (r.imp λt e=> .inr e)
 ·exact Q
 ·exact r.gr.nm (C.gr.nm P)
 ·rw[<-H];exact r.gr.nm (C.gr.nm (c.gr.nm X))
 ·intro i x v hi hv;obtain⟨b,c1,c2⟩:=b3 i x v hi (j.gr.nm hv);exact⟨b,by show z.1.1[i]?=_;rw[D];exact c1,c2.gr r.gr⟩
structure dR(w w':Wd)(md md':List Md):Prop where
 sec:w'.sec=w.sec
 al:w'.al=w.al
 go:∀a,w.go.getD a false=true->w'.go.getD a false=true
 st:∃s,w'.st=w.st++s
 md:∃s,md'=md++s
 adm:w'.lg.1=w.lg.1
 es:∃s,w'.lg.2.1=w.lg.2.1++s
 ds:∃s,w'.lg.2.2.1=w.lg.2.2.1++s
theorem dQ{α:Type}{l s:List α}{n:Nat}{x:α}(h:l[n]?=some x):(l++s)[n]?=some x:=by
 rw[bU (cy.1 h).1];exact h
theorem Src.ext{K:Tm->Prop}{w w':Wd}{md b:List Md}{t:Tm}(h:dR w w' md b)(g:Gr K w.ts w'.ts)(s:C5 w md t\/C6 w md t\/C7 w t):C5 w' b t\/C6 w' b t\/C7 w' t:=by
 have c:∀i j,w'.se i j=w.se i j:=λi j=>by unfold Wd.se;rw[h.sec]
 obtain⟨E,A⟩:=h.st;obtain⟨F,B⟩:=h.md;obtain⟨G,C⟩:=h.es;obtain⟨H,D⟩:=h.ds;refine s.imp ?_ (Or.imp ?_ ?_)
 ·rintro⟨n,e,d,f,m,o,p,r,u,v,x⟩;exact⟨n,e,d,by rw[A];exact dQ f,by rw[B];exact dQ m,o,by rw[c];exact p,g.nm r,by rw[C];exact dQ u,by rw[D];exact dQ v,g.nm x⟩
 ·rintro⟨n,l,a,y,z,f,m,o,p,r,u,v,x⟩;exact⟨n,l,a,y,z,by rw[A];exact dQ f,by rw[B];exact dQ m,o,p,by rw[c];exact r,g.nm u,g.nm v,x.imp id (λq=>⟨q.1,h.go a q.2⟩)⟩
 ·rintro⟨l,a,z,lk,f,m,o,p,r,u,v,x⟩;exact⟨l,a,z,lk,f,m,o,by rw[c];exact p,r,u,g.nm v,x⟩
theorem sj.ext{K:Tm->Prop}{w w':Wd}{md b:List Md}(h:dR w w' md b)(e:w.lg.2.1.length=w.lg.2.2.1.length){ts a:List Tm}{c:Cl}(g:Gr K ts a)(f:sj w ts c):sj w' a c:=by
 obtain⟨⟨k,i⟩,j⟩:=f;obtain⟨n,l⟩:=h.es;obtain⟨o,m⟩:=h.ds;refine⟨⟨min k w.lg.2.1.length,?_⟩,j.gr g⟩;rw[i,h.adm,l,m,List.take_append_of_le_length (Nat.min_le_right ..),List.take_append_of_le_length (by rw[<-e];exact Nat.min_le_right ..)];rcases Nat.le_total k w.lg.2.1.length with q|q
 ·rw[eB q]
 ·rw[Nat.min_eq_right q,bf q,bf (by rw[<-e];exact q),br];rw[e,br]
theorem Au.ext{K:Tm->Prop}{w w':Wd}{md md':List Md}(h:Au w md)(x:dR w w' md md')(g:Gr K w.ts w'.ts)(hu:xj w'.ts w'.m)(hc:∀i:Nat,i<5->sj w' w'.ts (w'.cl i))(ho:∀i:Nat,i<5->(w'.cl i).sg=(w.cl i).sg/\(w'.cl i).se=(w.cl i).se)
 (hes:∀(i:Nat)(e:Et),w'.lg.2.1[i]?=some e->e.1=(i:Int)+1/\∀p∈e.2.2.1,p∈w'.al) (hle:w'.lg.2.1.length<=w'.st.length) (hd:∀d∈w'.lg.2.2.1,d.length=32) (hm:md'.length=w'.st.length)
 (new:∀t,K t->t.1=103->t∈w'.ts->C5 w' md' t\/C6 w' md' t\/C7 w' t):Au w' md' where
 su:=hu
 sc a j ha hj:=by
  have:w'.se a j=w.se a j:=by unfold Wd.se;rw[x.sec]
  rw[this];exact g.nm (h.sc a j ha hj)
 al p hp:=by
  have hse:∀i j,w'.se i j=w.se i j:=λi j=>by unfold Wd.se;rw[x.sec]
  rw[x.al]at hp;obtain⟨a,b,y,h1,h2,h3,h4⟩:=h.al p hp;exact⟨a,b,y,h1,h2,by rw[hse];exact g.nm h3,by rw[hse];exact g.nm h4⟩
 adm:=by
  have:w'.se 0 1=w.se 0 1:=by unfold Wd.se;rw[x.sec]
  rw[x.adm,this];exact g.nm h.adm
 es:=hes
 cl:=hc
 own i hi:=by
  have hse:∀i j,w'.se i j=w.se i j:=λi j=>by unfold Wd.se;rw[x.sec]
  rw[(ho i hi).1,(ho i hi).2,hse,hse];exact h.own i hi
 le:=hle
 d32:=hd
 ml:=hm
 sr t ht h3:=by
  rcases g.old ht with q|q
  ·exact Src.ext x g (h.sr t q h3)
  ·exact new t q h3 ht
theorem I'{lg:Lg}{e:Et}{sec:BL}{ts:List Tm}(m:KV)(a:ts.length<=4294967296)(b:ig e=true)(c:e.1=(lg.2.1.length:Int)+1)(f:e.2.1=ll lg.2.1 lg.2.2.1 lg.2.1.length)(g:Nm ts e.2.2.2.2.2.2.1 (103,[sec,dL e],()))(h:Nm ts lg.1 (118,[sec],()))(i:ED lg.2.1 e.2.2.1 e.2.2.2.1=true):(kg lg e ts m).1=0:=by
 have j:fK e.2.2.2.2.2.2.1 103 ts=((103,[sec,dL e],()),true):=rI a g;have l:fK lg.1 118 ts=((118,[sec],()),true):=rI a h
 have n:xX lg.1 (dL e) e.2.2.2.2.2.2.1 ts=true:=by
  unfold xX;rw[j,l];simp
 unfold kg;rw[ck,af (by rw[b];decide),af (by omega),af (λq=>q c),af (λq=>q f),af (by rw[n];decide),af (by rw[i];decide)]
theorem xD{a:Nat}:∀(l:List Fk)(g:List Bool),g.getD a false=true->(sW g l).getD a false=true
 |[],_,h=>h
 |x::r,g,h=>by
  rw[sW];refine xD r _ ?_;rw[aw]at h⊢;rw[List.getElem?_set];split
  ·split
   ·rfl
   ·rename_i q _;subst q;rename_i w;rw[bD (by omega)]at h;exact h
  ·exact h
def Wd.stl(w:Wd)(s:List BL)(l:List Int):Wd:={w with st:=s,ln:=l}
theorem Lh{w:Wd}{i:Int}{b:BL}{y:(Int×Nw)×Wd}(hi:0<=i/\i<5)(s:List BL)(l:List Int)(r:jw w i b y):jw (w.stl s l) i b (y.1,y.2.stl s l):=by
 obtain⟨z,c,rfl⟩:=r;obtain⟨j,rfl⟩:=bR hi.1;have a:j<5:=by omega
 refine⟨z,?_,?_⟩
 ·have:(w.stl s l).cl (j:Int).toNat=w.cl (j:Int).toNat:=by
   rw[aF];rcases fo a with rfl|rfl|rfl|rfl|rfl<;>rfl
  rw[this];exact c
 ·rw[aF];refine r6 rfl ?_;show(fj b j z.1 (w.aft j z.2)).stl s l=fj b j z.1 ((w.stl s l).aft j z.2);unfold fj;split
  ·rw[aF];rcases fo a with rfl|rfl|rfl|rfl|rfl<;>rfl
  ·rcases fo a with rfl|rfl|rfl|rfl|rfl<;>rfl
theorem PD(w:Wd)(n:Int)(es:List Fk)(g:List Bool)(s:List BL)(l:List Int){i:Nat}(hi:i<5):((w.mb n es g).stl s l).cl i=w.cl i:=by
 rcases fo hi with rfl|rfl|rfl|rfl|rfl<;>rfl
theorem PE(n:Int):∀t:Tm,t=(115,[dv n],())->t.1≠103:=λt e=>by rw[e];show(115:BitVec 8)≠103;decide
theorem ij{w:Wd}{i:Int}{b:BL}{y:(Int×Nw)×Wd}(r:jw w i b y):y.2.st=w.st/\y.2.ln=w.ln/\y.2.d=w.d:=by
 obtain⟨z,f,rfl⟩:=r;have a:=eG w i.toNat z.2.1;show(fj b i z.1 (w.aft i.toNat z.2)).st=_/\(fj b i z.1 (w.aft i.toNat z.2)).ln=_/\(fj b i z.1 (w.aft i.toNat z.2)).d=_;unfold fj;split
 ·have e:=λc=>oQ (w.aft i.toNat z.2) i.toNat c;exact⟨(e _).2.2.2.2.2.1.trans a.2.2.2.2.2.1,(e _).2.2.2.2.2.2.1.trans a.2.2.2.2.2.2.1,(e _).2.2.2.1.trans a.2.2.2.1⟩
 ·exact⟨a.2.2.2.2.2.1,a.2.2.2.2.2.2.1,a.2.2.2.1⟩
theorem PF{w:Wd}{md:List Md}(h:Au w md){k:Nat}(c:cR w (k+2)):Su (10000*(k+1)+10140) (pO w).2.1 (pO w).2.2/\Gr (λt=>t.1≠103) w.ts (pO w).2.1/\Nm (pO w).2.1 (Dw w).1 (115,[dv (w.d+1)],())/\Nm (pO w).2.1 (pO w).1 (115,[dv (w.d+1+1)],()):=by
 have b:=yb (k:=10000*(k+1)+10141) ((nc h c).mono (by omega)) (fP (w.d+1));have a:=yb (k:=10000*(k+1)+10140) b.1.su (fP (w.d+1+1));exact⟨a.1.su,(b.1.gr.imp (PE _)).trans (a.1.gr.imp (PE _)),a.1.gr.nm b.2,a.2⟩
theorem vy{w:Wd}{md:List Md}(h:Au w md){k:Nat}(v:cR w (k+2))(h4:w.st.length<400){n:Int}{y:(Int×Int)×Wd}(r:eN w n y):
 (y.1.1≠0/\y.1.2=0/\Au y.2 md/\el w y.2/\∃es,C0 w n es/\(fA w n es).1.2≠0/\y=(((fA w n es).1.2,0),w.su (w.d+1+1) (fA w n es).2)/\Gr (λt=>t.1≠103) w.ts (fA w n es).2.1)\/
 (y.1.1=0/\y.1.2=(w.st.length:Int)+1/\Au y.2 (md++[(0,true,())])/\y.2.sec=w.sec/\y.2.al=w.al/\∃(es:List Fk)(E:Et),C0 w n es/\y.2.go=sW w.go es/\y.2.st=w.st++[fL E]/\y.2.ln=w.ln++[0]/\y.2.lg.2.1=w.lg.2.1++[C4 E]/\E.2.2.1=sV n 0 w.al/\E.2.2.2.1=es/\(fA w n es).1.1=E/\ig E=true/\(fA w n es).1.2=0/\∃(c:Wd)(r1:Int×Nw),c=(w.mb n es (sW w.go es)).stl (w.st++[fL E]) (w.ln++[0])/\Au c (md++[(0,true,())])/\cR c (k+1)/\jw c 0 (fL E) (r1,y.2)/\Gr (λt=>t.1≠103\/t=(103,[w.se 0 1,dL E],())) w.ts c.ts/\c.lg.2.1=w.lg.2.1++[C4 E]/\c.sec=w.sec/\c.ts=(dV (104,[dL E],()) (fA w n es).2.1 (fA w n es).2.2).2.1/\Gr (λ_=>True) (fA w n es).2.1 c.ts):=by
 obtain⟨es,hg,r⟩:=r;obtain⟨d1,d2,d3,d4⟩:=PF h v;have a0:pI (sV n 0 w.al):=λx hx=>v.al.2 x (lv hx);have a4:=v.st.1;have hE:=PC (lg:=w.lg) (sec:=w.se 0 1) (once:=(Dw w).1) (key:=(pO w).1) (ms:=sV n 0 w.al) (ns:=es) (k:=10000*(k+1)+10100) v.lg.1 a0 d1 h.d32 (by have:=h.le;omega);have hE:((fA w n es).1.2≠0/\_)\/((fA w n es).1.2=0/\_):=hE;rcases hE with⟨C,o⟩|⟨C,E,oc,o,S,U,e4,e5,e6,e7,e8,Q,G,a5,L,a6⟩
 ·rw[am C]at r;rw[r];have g:Gr (λt=>t.1≠103) w.ts (fA w n es).2.1:=d2.trans (o.gr.imp λt q=>q.1);have A:∀i,i<5->(w.su (w.d+1+1) (fA w n es).2).cl i=w.cl i:=λi j=>by rcases fo j with rfl|rfl|rfl|rfl|rfl<;>rfl
  exact .inl ⟨C,rfl,h.same ⟨rfl,rfl,rfl,rfl,rfl⟩ g o.su.w (λi j=>by rw[A i j];exact(h.cl i j).gr g) (λi j=>by rw[A i j];exact⟨rfl,rfl⟩),⟨rfl,rfl,rfl,rfl,rfl⟩,es,hg,C,rfl,g⟩
 ·rw[af (λq=>q C)]at r;have o:(fA w n es).1.1=E:=o;have Q:Ok (λt=>gP t\/t=(103,[w.se 0 1,dL E],())) (10000*(k+1)+10100) (pO w).2.1 (fA w n es).2:=Q;have G:Nm (fA w n es).2.1 E.2.2.2.2.2.2.1 (103,[w.se 0 1,dL E],()):=G;have L:Nm (fA w n es).2.1 w.lg.1 (118,[w.se 0 1],()):=L;have a1:(fA w n es).2.1.length<=4294967296:=by have:=Q.su.k.2;omega
  have E1:E.1=(w.lg.2.1.length:Int)+1:=by rw[S];rfl
  have E2:E.2.1=ll w.lg.2.1 w.lg.2.2.1 w.lg.2.1.length:=by rw[S];rfl
  have E3:E.2.2.1=sV n 0 w.al:=by rw[S];rfl
  have E4:E.2.2.2.1=es:=by rw[S];rfl
  have hT:(vP w n es).1=0:=by
   unfold vP;rw[o];exact I' _ a1 U E1 E2 G L (by rw[E3,E4];exact e4)
  rw[af (λq=>q hT)]at r;obtain⟨z,hz,r⟩:=r;have f:=rO v C (g:=sW w.go es) (by rw[qj];exact v.go)
  have M:(vP w n es).2=((w.lg.1,w.lg.2.1++[C4 E],w.lg.2.2.1++[(dV (104,[dL E],()) (fA w n es).2.1 (fA w n es).2.2).1],()),(dV (104,[dL E],()) (fA w n es).2.1 (fA w n es).2.2).2):=by
   have:=(Uj (lg:=w.lg) (e:=(fA w n es).1.1) (ts:=(fA w n es).2.1) (m:=(fA w n es).2.2) hT).2.2.2;rw[o]at this;unfold vP;rw[o];exact this
  have a7:=(fy U).2.1;have P:=yb (k:=10000*(k+1)+10099) (t:=(104,[dL E],())) Q.su (kD (by decide) (by decide) (by unfold aB;omega));generalize hD:dV (104,[dL E],()) (fA w n es).2.1 (fA w n es).2.2=D at*;obtain⟨c,B⟩:∃c,c=(w.mb n es (sW w.go es)).stl (w.st++[fL E]) (w.ln++[0]):=⟨_,rfl⟩
  have H:c.ts=D.2.1/\c.m=D.2.2/\c.lg=(w.lg.1,w.lg.2.1++[C4 E],w.lg.2.2.1++[D.1],())/\c.st=w.st++[fL E]/\c.ln=w.ln++[0]/\c.sec=w.sec/\c.al=w.al/\c.go=sW w.go es:=by
   rw[B];refine⟨?_,?_,?_,rfl,rfl,rfl,rfl,rfl⟩
   ·show(vP w n es).2.2.1=_;rw[M]
   ·show(vP w n es).2.2.2=_;rw[M]
   ·show(vP w n es).2.1=_;rw[M]
  obtain⟨H,m2,F,W,m5,X,m7,m8⟩:=H;have x:dR w c md (md++[(0,true,())]):=⟨X,m7,λa ha=>by rw[m8];exact xD _ _ ha,⟨_,W⟩,⟨_,rfl⟩,by rw[F],⟨[C4 E],by rw[F]⟩,⟨[D.1],by rw[F]⟩⟩
  have g:Gr (λt=>t.1≠103\/t=(103,[w.se 0 1,dL E],())) w.ts c.ts:=by
   rw[H];exact(d2.imp λt q=> .inl q).trans ((Q.gr.imp λt q=>q.imp (λq=>q.1) id).trans (P.1.gr.imp λt q=> .inl (by rw[q];show(104:BitVec 8)≠103;decide)))
  have a2:c.se 0 1=w.se 0 1:=by unfold Wd.se;rw[X]
  have A:∀i,i<5->c.cl i=w.cl i:=λi j=>by rw[B];exact PD w n es _ _ _ j
  have A1:Au c (md++[(0,true,())]):=by
   refine h.ext x g (by rw[H,m2];exact P.1.su.w) (λi j=>by rw[A i j];exact(h.cl i j).ext x v.lg.1.2.1 g) (λi j=>by rw[A i j];exact⟨rfl,rfl⟩) ?_ ?_ ?_ ?_ ?_
   ·intro i e s;rw[F]at s;have s:(w.lg.2.1++[C4 E])[i]?=some e:=s;rw[m7];rcases bI i w.lg.2.1.length with q|q
    ·rw[bU q]at s;exact h.es i e s
    ·rw[aU q]at s
     have C:i-w.lg.2.1.length=0:=by
      rcases jZ (i-w.lg.2.1.length)with u|u
      ·exact u
      ·rw[bD (by simp;omega)]at s;cases s
     rw[C]at s;have s:=Option.some.inj s;subst s;refine⟨?_,λp N=>?_⟩
     ·show E.1=_;omega
     ·have N:p∈E.2.2.1:=N;rw[E3]at N;exact lv N
   ·rw[F,W];have:=h.le;show(w.lg.2.1++[C4 E]).length<=_;simp;omega
   ·intro d Y;rw[F]at Y;have Y:d∈w.lg.2.2.1++[D.1]:=Y;rcases bb.1 Y with q|q
    ·exact h.d32 d q
    ·rw[cf.1 q];exact P.2.len32 (by show(104:BitVec 8)≠98;decide) (by show(104:BitVec 8)≠103;decide)
   ·rw[W,aa,aa,h.ml];rfl
   ·intro t ht h3 _;rcases ht with q|q
    ·exact absurd h3 q
    ·refine .inl ⟨w.st.length,E,D.1,?_,?_,U,by rw[a2];exact q,?_,?_,?_,?_⟩
     ·rw[W,aU (aD _)];simp
     ·rw[aU (by rw[h.ml];exact aD _),h.ml];simp
     ·rw[H,q];exact P.1.gr.nm G
     ·rw[F];show(w.lg.2.1++[C4 E])[(E.1-1).toNat]?=_;rw[show(E.1-1).toNat=w.lg.2.1.length by omega,aU (aD _)];simp
     ·rw[F];show(w.lg.2.2.1++[D.1])[(E.1-1).toNat]?=_;rw[show(E.1-1).toNat=w.lg.2.2.1.length by have:=v.lg.1.2.1;omega,aU (aD _)];simp
     ·rw[H];exact P.2
  have O:=Lh (i:=0) (by omega) (w.st++[fL E]) (w.ln++[0]) hz;rw[<-B,o]at O
  have J:cR c (k+1):=by
   rw[B];have N:=(rN v n es).2 C;rw[o]at N;refine⟨λi j=>?_,f.ts,f.sec,f.al,f.lg,f.l5,f.go,⟨?_,?_,λb hb=>?_⟩,f.dr⟩
   ·have:=f.cl i j
    rwa [show((w.mb n es (sW w.go es)).stl (w.st++[fL E]) (w.ln++[0])).cl i=(w.mb n es (sW w.go es)).cl i by rcases fo j with rfl|rfl|rfl|rfl|rfl<;>rfl]
   ·show(w.st++[fL E]).length<=1000;rw[aa,bh];omega
   ·show(w.ln++[0]).length=(w.st++[fL E]).length;rw[aa,aa,v.st.2.1];rfl
   ·have hb:b∈w.st++[fL E]:=hb;rcases bb.1 hb with q|q
    ·exact v.st.2.2 b q
    ·rw[cf.1 q];exact N.2.1
  obtain⟨f1,f2,f3,f4⟩:=rQ A1 J (by omega) O
  have R:z.2.st=w.st:=by
   have:=(ij hz);exact this.1
  have a3:z.2.ln=w.ln:=(ij hz).2.1
  have K:y.2=z.2.stl (w.st++[fL E]) (w.ln++[0]):=by
   rw[r];show({z.2 with st:=z.2.st++[fL (fA w n es).1.1],ln:=z.2.ln++[0]}:Wd)=_;rw[R,a3,o];rfl
  refine .inr ⟨by rw[r],by rw[r];show(z.2.st.length:Int)+1=_;rw[R],by rw[K];exact f1,by rw[K];exact f2.sec.trans X,by rw[K];exact f2.al.trans m7,es,E,hg,?_,?_,?_,?_,E3,E4,o,U,C,c,z.1,B,A1,J,by rw[K];exact O,g,by rw[F],X,by rw[H,hD],by rw[H];exact P.1.gr.imp λ_ _=>trivial⟩
  ·rw[K];exact f2.go.trans m8
  ·rw[K];rfl
  ·rw[K];rfl
  ·rw[K];have:=f2.lg;rw[F]at this;exact aH (λl:Lg=>l.2.1) this
theorem sj.lg{w w':Wd}{ts:List Tm}{c:Cl}(e:w'.lg=w.lg)(h:sj w ts c):sj w' ts c:=let⟨⟨k,a⟩,b⟩:=h;⟨⟨k,by rw[e];exact a⟩,b⟩
theorem G3{w:Wd}{md:List Md}(h:Au w md)(b:BL)(n a:Int)(f:Bool):Au (w.keep b n) (md++[(a,f,())]):=
 h.ext (K:=λ_=>False) (w':=w.keep b n) ⟨rfl,rfl,λ_ q=>q,⟨[b],rfl⟩,⟨_,rfl⟩,rfl,⟨[],by simp[Wd.keep]⟩,⟨[],by simp[Wd.keep]⟩⟩ (Gr.refl _ _) h.su
  (λi c=>(show sj w w.ts ((w.keep b n).cl i)by
   have e:(w.keep b n).cl i=w.cl i:=by rcases fo c with rfl|rfl|rfl|rfl|rfl<;>rfl
   rw[e];exact h.cl i c))
  (λi c=>by rcases fo c with rfl|rfl|rfl|rfl|rfl<;>exact⟨rfl,rfl⟩) h.es (by show w.lg.2.1.length<=(w.st++[b]).length;have:=h.le;simp;omega) h.d32 (by show _=(w.st++[b]).length;rw[aa,aa,h.ml];rfl) (λt q=>q.elim)
theorem vz{w w':Wd}{md:List Md}{a:Nat}{b:Bool}{l:Lt}{hh:BL}(h:Au w md)(s:a<5)(o:w'.sec=w.sec)(p:w'.al=w.al)(r:w'.go=w.go)(c:w'.lg=w.lg)(e:w'.st=w.st++[gh l])
 (g:Gr (λt=>gP t\/t=(103,[w.se a 1,ei l++tx hh],())) w.ts w'.ts) (u:xj w'.ts w'.m) (v:∀i:Nat,i<5->sj w w'.ts (w'.cl i)) (x:∀i:Nat,i<5->(w'.cl i).sg=(w.cl i).sg/\(w'.cl i).se=(w.cl i).se)
 (y:jR l=true) (z:Nm w'.ts hh (104,[l.2.2.2.2.2.1],())) (A:Nm w'.ts l.2.2.2.2.2.2.1 (103,[w.se a 1,ei l++tx hh],())) (f:b=true/\l.2.1=a\/b=false/\w.go.getD a false=true):Au w' (md++[((a:Int),b,())]):=by
 have n:∀i j,w'.se i j=w.se i j:=λi j=>by unfold Wd.se;rw[o]
 refine h.ext ⟨o,p,λ_ q=>by rw[r];exact q,⟨_,e⟩,⟨_,rfl⟩,by rw[c],⟨[],by rw[c,aW]⟩,⟨[],by rw[c,aW]⟩⟩ g u (λi B=>(v i B).lg c) x (by rw[c,p];exact h.es) ?_ (by rw[c];exact h.d32) ?_ ?_
 ·rw[c,e,aa];have:=h.le;omega
 ·rw[e,aa,aa,h.ml];rfl
 ·intro t C D _;rcases C with q|q
  ·exact absurd D q.1
  ·refine .inr (.inl ⟨w.st.length,l,a,b,hh,?_,?_,y,s,by rw[n];exact q,z,by rw[q];exact A,by rw[r];exact f⟩)
   ·rw[e,aU (aD _)];simp
   ·rw[aU (by rw[h.ml];exact aD _),h.ml];simp
def Wd.told(w:Wd)(i:Nat)(z:(BL×Int)×La×List Tm×KV):Wd:=w.aft i ({w.cl i with la:=z.2.1},z.2.2.1,z.2.2.2)
def Wd.wrt(w:Wd)(i:Nat)(z:(BL×Int)×Pg×Ln×List Tm×KV):Wd:=w.aft i ({w.cl i with pg:=z.2.1,bk:=z.2.2.1},z.2.2.2.1,z.2.2.2.2)
theorem hK(w:Wd)(b:BL)(n:Int){i:Nat}(hi:i<5):(w.keep b n).cl i=w.cl i:=by rcases fo hi with rfl|rfl|rfl|rfl|rfl<;>rfl
theorem a31(l:Lt):(l.1,l.2.1,l.2.2.1,l.2.2.2.1,l.2.2.2.2.1,l.2.2.2.2.2.1,l.2.2.2.2.2.2.1,())=l:=rfl
structure LtM(w:Wd)(ts:List Tm)(a:Nat)(ep text:BL)(l:Lt):Prop where
 ok:jR l=true
 au:l.2.1=a
 key:ep.length=32
 pad:(lK text).2=0
 box:∃kk,Nm ts kk (107,[ep,jg l],())/\Nm ts l.2.2.2.2.2.1 (98,[kk,dv l.2.2.2.1,ei l,(lK text).1],())
theorem vA{w:Wd}{md:List Md}(h:Au w md){n i:Nat}(q:cR w (n+1))(hi:i<5){l0:Lt}{text:BL}{z:(Lt×Int)×List Tm×KV}(a:z=nl (w.cl i).c (w.cl i).sg (w.cl i).lg (w.cl i).km l0 text w.ts w.m):
 (z.1.2≠0/\z.2=(w.ts,w.m))\/
 (z.1.2=0/\∃hh,Ok (λt=>gP t\/t=(103,[w.se i 1,ei z.1.1++tx hh],())) (10000*(n+1)+9000) w.ts z.2/\Nm z.2.1 hh (104,[z.1.1.2.2.2.2.2.1],())/\Nm z.2.1 z.1.1.2.2.2.2.2.2.1 (103,[w.se i 1,ei z.1.1++tx hh],())/\
  LtM w z.2.1 i ((aO .i64 ((w.cl i).lg.2.1.length:Int) (w.cl i).km).getD []) text z.1.1/\z.1.1.2.2.1=(w.cl i).lg.2.1.length/\z.1.1.1=l0.1/\z.1.1.2.2.2.1=l0.2.2.2.1/\z.1.1.2.2.2.2.1=l0.2.2.2.2.1):=by
 have f:=(q.cl i hi).2.1;have r:Su (10000*(n+1)+9000+4) w.ts w.m:=(nc h q).mono (by omega);unfold nl at a;rw[ck,f,(h.own i hi).1]at a;rcases GI (sec:=w.se i 1) (ep:=(aO .i64 ((w.cl i).lg.2.1.length:Int) (w.cl i).km).getD []) (text:=text) (l:=(l0.1,(i:Int),((w.cl i).lg.2.1.length:Int),l0.2.2.2)) r with⟨j,e⟩|⟨s,b,hh,g,y,j,e,D,u,v,x,A,B,C,o,p⟩
 ·rw[<-a]at j e;exact .inl ⟨j,e⟩
 ·rw[v]at a;subst a;refine .inr ⟨rfl,hh,x,C,o,⟨p,rfl,e,u,s,A,B⟩,rfl,rfl,rfl,rfl⟩
theorem zy(w:Wd){i j:Nat}(hi:i<5)(a:j<5)(z:(BL×Int)×La×List Tm×KV):(w.told i z).cl j=if j=i then{w.cl i with la:=z.2.1}else w.cl j:=rP w hi a _
theorem Bi{w:Wd}{md:List Md}(h:Au w md){n i:Nat}(x:cR w (n+1))(hi:i<5){a:Int}{t:BL}{z:(BL×Int)×La×List Tm×KV}(b:z=mA a t (w.cl i).c (w.cl i).sg (w.cl i).lg (w.cl i).la (w.cl i).km w.ts w.m):
 (z.1.2≠0/\z.2=((w.cl i).la,w.ts,w.m))\/
 (z.1.2=0/\(∀o:Int,Au ((w.told i z).keep z.1.1 o) (md++[((i:Int),true,())]))/\z.2.1=Iq (w.cl i).la a (w.cl i).c (xw (w.cl i).la a (w.cl i).c+1)/\
  ∃(l:Lt)(hh:BL),z.1.1=gh l/\Ok (λt=>gP t\/t=(103,[w.se i 1,ei l++tx hh],())) (10000*(n+1)+9000) w.ts z.2.2/\LtM w z.2.2.1 i ((aO .i64 ((w.cl i).lg.2.1.length:Int) (w.cl i).km).getD []) t l/\l.2.2.1=(w.cl i).lg.2.1.length/\l.1=a/\l.2.2.2.1=xw (w.cl i).la a (w.cl i).c+1/\l.2.2.2.2.1=[]):=by
 unfold mA at b;rw[ck]at b;split at b
 ·rename_i g;subst b;exact .inl ⟨g,rfl⟩
 split at b
 ·subst b;exact .inl ⟨by simp,rfl⟩
 dsimp only at b;have y:=vA (l0:=(a,0,0,xw (w.cl i).la a (w.cl i).c+1,[],[],[],())) (text:=t) h x hi rfl;generalize nl (w.cl i).c (w.cl i).sg (w.cl i).lg (w.cl i).km (a,0,0,xw (w.cl i).la a (w.cl i).c+1,[],[],[],()) t w.ts w.m=s at*;rcases y with⟨u,f⟩|⟨u,hh,f,A,B,v,C,D,E,F⟩
 ·rw[am u]at b;subst b;exact .inl ⟨u,by dsimp only;rw[f]⟩
 ·rw[af (λq=>q u)]at b;subst b;refine .inr ⟨rfl,λo=>?_,rfl,s.1.1,hh,rfl,f,v,C,D,E,F⟩;have G:∀o,(((w.told i ((gh s.1.1,0),Iq (w.cl i).la a (w.cl i).c (xw (w.cl i).la a (w.cl i).c+1),s.2)).keep (gh s.1.1) o).ts=s.2.1/\((w.told i ((gh s.1.1,0),Iq (w.cl i).la a (w.cl i).c (xw (w.cl i).la a (w.cl i).c+1),s.2)).keep (gh s.1.1) o).m=s.2.2):=λ_=>⟨rfl,rfl⟩;obtain⟨r,H,J⟩:=fE w i ({w.cl i with la:=Iq (w.cl i).la a (w.cl i).c (xw (w.cl i).la a (w.cl i).c+1)},s.2.1,s.2.2);refine vz (hh:=hh) (l:=s.1.1) (w':=(w.told i ((gh s.1.1,0),Iq (w.cl i).la a (w.cl i).c (xw (w.cl i).la a (w.cl i).c+1),s.2)).keep (gh s.1.1) o) h hi r.sec r.al r.go r.lg (by show(w.aft i _).st++_=_;rw[r.st]) f.gr f.su.w (λj p=>?_) (λj p=>?_) v.ok A B (.inl ⟨rfl,v.au⟩)
  ·rw[hK _ _ _ p,zy w hi p];split
   ·exact⟨(h.cl i hi).1,(h.cl i hi).2.gr f.gr⟩
   ·exact(h.cl j p).gr f.gr
  ·rw[hK _ _ _ p,zy w hi p];split
   ·rename_i e;subst e;exact⟨rfl,rfl⟩
   ·exact⟨rfl,rfl⟩
theorem Up{lk:Lk}{bk:Ln}{ts:List Tm}{m:KV}(a:pF lk=true)(c:lk.2.1=((dx bk lk.1).length:Int)+1)(b:(fx bk lk.1).2.2.1=lk.2.2.2.1)(h:(iV lk bk ts m).1≠0):
 0<(dx bk lk.1).length/\lk.2.2.1<((dx bk lk.1).getD ((dx bk lk.1).length-1) pu).2.2.1/\(iV lk bk ts m).2=(ts,m):=by
 unfold iV at h⊢;rw[af (by rw[a];decide),af (by omega),af (by omega),af (λq=>q b)]at h⊢;by_cases g:0<(dx bk lk.1).length/\lk.2.2.1<((dx bk lk.1).getD ((dx bk lk.1).length-1) pu).2.2.1
 ·rw[am g];exact⟨g.1,g.2,rfl⟩
 ·rw[af g]at h;exact absurd rfl h
theorem J_{l:Lt}{hh:BL}(h:xZ l)(a:l.1=2)(b:hh.length=32):pF (l.2.1,l.2.2.2.1,l.2.2.1,l.2.2.2.2.1,hh,())=true:=by
 obtain⟨o,p,c,f,g,i,j,m,n⟩:=h;unfold pF;refine decide_eq_true ⟨c,f,j,m,g,i,b,?_⟩;rcases n with q|q
 ·exact .inr q.2
 ·exact .inl ⟨q.2.resolve_left λe=>e a,q.1⟩
theorem rR(w:Wd){i j:Nat}(hi:i<5)(a:j<5)(z:(BL×Int)×Pg×Ln×List Tm×KV):(w.wrt i z).cl j=if j=i then{w.cl i with pg:=z.2.1,bk:=z.2.2.1}else w.cl j:=rP w hi a _
theorem G4{w:Wd}{md:List Md}(h:Au w md){n i:Nat}(X:cR w (n+1))(hi:i<5){ops:List Op}{L:Int×Pg}{z:(BL×Int)×Pg×Ln×List Tm×KV}
 (f:z=x8 (w.cl i).c (w.cl i).sg (w.cl i).lg (w.cl i).pg (w.cl i).km (w.cl i).bk ops L w.ts w.m):
 (z.1.2≠0/\Au (w.wrt i z) md/\el w (w.wrt i z))\/
 (z.1.2=0/\(∀M:Int,Au ((w.wrt i z).keep z.1.1 M) (md++[((i:Int),true,())]))/\
  ∃(l:Lt)(hh:BL),z.1.1=gh l/\Ok (λt=>gP t\/t=(103,[w.se i 1,ei l++tx hh],())) (10000*(n+1)+8000) w.ts z.2.2.2/\LtM w z.2.2.2.1 i ((aO .i64 ((w.cl i).lg.2.1.length:Int) (w.cl i).km).getD []) (eu ops) l/\l.2.2.1=(w.cl i).lg.2.1.length/\l.1=2):=by
 have C:=(X.cl i hi).2.1;have p:∀z,el w (w.wrt i z):=λz=>(fE w i _).1
 have err:∀e:Int,e≠0->∀z:(BL×Int)×Pg×Ln×List Tm×KV,z=(([],e),(w.cl i).pg,(w.cl i).bk,w.ts,w.m)->(z.1.2≠0/\Au (w.wrt i z) md/\el w (w.wrt i z)):=by
  intro e he z f;subst f;refine⟨he,h.same (p _) (Gr.refl _ _) h.su (λj r=>?_) (λj r=>?_),p _⟩
  ·rw[rR w hi r];split
   ·exact h.cl i hi
   ·exact h.cl j r
  ·rw[rR w hi r];split
   ·rename_i e;subst e;exact⟨rfl,rfl⟩
   ·exact⟨rfl,rfl⟩
 unfold x8 at f;rw[ck]at f;split at f
 ·rename_i g;exact .inl (err _ g z f)
 split at f
 ·exact .inl (err 1 (by decide) z f)
 split at f
 ·exact .inl (err 14 (by decide) z f)
 split at f
 ·rename_i g;exact .inl (err _ g z f)
 dsimp only at f;have hs:=vA (l0:=(2,0,0,(fx (w.cl i).bk (w.cl i).c).2.1+1,(fx (w.cl i).bk (w.cl i).c).2.2.1,[],[],())) (text:=eu ops) h X hi rfl;generalize nl (w.cl i).c (w.cl i).sg (w.cl i).lg (w.cl i).km (2,0,0,(fx (w.cl i).bk (w.cl i).c).2.1+1,(fx (w.cl i).bk (w.cl i).c).2.2.1,[],[],()) (eu ops) w.ts w.m=s at*;rcases hs with⟨F,u⟩|⟨F,hh,u,G,e4,y,e6,N,e8,e9⟩
 ·rw[am F]at f;exact .inl (err _ F z (by rw[f,u]))
 ·rw[af (λq=>q F)]at f;obtain⟨⟨l,er⟩,b,o⟩:=s;dsimp only at*;subst F;have H:=(ez y.ok).1;have B:hh.length=32:=G.len32 (by show(104:BitVec 8)≠98;decide) (by show(104:BitVec 8)≠103;decide)
  have eh:dV (104,[l.2.2.2.2.2.1],()) b o=(hh,b,o):=by
   have Y:=RR u.su.w G.le;have hb:eI (104,[l.2.2.2.2.2.1],()):=u.su.k.1 _ G.le;have q2:=(yb (k:=10000*(n+1)+8999) u.su hb).2;rw[Y]at q2;exact r6 (Nm.inj u.su.w q2 G) Y
  unfold Zy at f;dsimp only at f;rw[eh]at f;dsimp only at f;have O:=J_ H N B;generalize v:(l.2.1,l.2.2.2.1,l.2.2.1,l.2.2.2.2.1,hh,())=lk at*;have P:lk.1=(i:Int):=by rw[<-v];exact y.au
  have a0:0<=(w.cl i).c/\(w.cl i).c<5:=by rw[C];omega
  have Q:(fx (w.cl i).bk (w.cl i).c).2.1=((dx (w.cl i).bk (i:Int)).length:Int):=by
   unfold fx;rw[af (by omega),C]
  have k2:lk.2.1=((dx (w.cl i).bk lk.1).length:Int)+1:=by
   rw[P,<-Q,<-e8,<-v]
  have k3:(fx (w.cl i).bk lk.1).2.2.1=lk.2.2.2.1:=by
   rw[P,<-C,<-e9,<-v]
  have D:zq b (w.cl i).bk:=(h.cl i hi).2.gr u.gr;have E:=v_ (lk:=lk) (bk:=(w.cl i).bk) (k:=10000*(n+1)+8000) (u.su.mono (by omega));have hB:=GM (lk:=lk) (k:=10000*(n+1)+8000) (u.su.mono (by omega)) D;by_cases g:(oa lk (w.cl i).bk b o).1=0
  ·rw[af (λq=>q g)]at f;subst f;have A:=(u.mono (k:=10000*(n+1)+8000) (by omega)).trans (show Ok _ _ _ _ from⟨E.su,E.gr.imp λt q=> .inl q⟩);refine .inr ⟨rfl,λM=>?_,l,hh,rfl,A,⟨y.ok,y.au,y.key,y.pad,?_⟩,e6,N⟩
   ·obtain⟨J,a2,a3⟩:=fE w i ({w.cl i with pg:=L.2,bk:=(oa lk (w.cl i).bk b o).2.1},(oa lk (w.cl i).bk b o).2.2.1,(oa lk (w.cl i).bk b o).2.2.2);refine vz (hh:=hh) (l:=l) (w':=(w.wrt i ((gh l,0),L.2,(oa lk (w.cl i).bk b o).2)).keep (gh l) M) h hi J.sec J.al J.go J.lg (by show(w.aft i _).st++_=_;rw[J.st]) A.gr A.su.w (λj r=>?_) (λj r=>?_) y.ok (E.gr.nm G) (E.gr.nm e4) (.inl ⟨rfl,y.au⟩)
    ·rw[hK _ _ _ r,rR w hi r];split
     ·exact⟨(h.cl i hi).1,hB⟩
     ·exact(h.cl j r).gr A.gr
    ·rw[hK _ _ _ r,rR w hi r];split
     ·rename_i e;subst e;exact⟨rfl,rfl⟩
     ·exact⟨rfl,rfl⟩
   ·obtain⟨kk,b1,b2⟩:=y.box;exact⟨kk,E.gr.nm b1,E.gr.nm b2⟩
  ·rw[am g]at f
   have gc:(iV lk (w.cl i).bk b o).1≠0:=by
    intro q;apply g;unfold oa;rw[am q]
   have et:oa lk (w.cl i).bk b o=((iV lk (w.cl i).bk b o).1,(w.cl i).bk,(iV lk (w.cl i).bk b o).2):=by
    unfold oa;rw[af gc]
   obtain⟨o1,o2,o3⟩:=Up O k2 k3 gc;rw[et,o3]at f;have f:z=(([],(iV lk (w.cl i).bk b o).1),(w.cl i).pg,(w.cl i).bk,b,o):=f
   have R:(dx (w.cl i).bk lk.1)[(dx (w.cl i).bk lk.1).length-1]?=some ((dx (w.cl i).bk lk.1).getD ((dx (w.cl i).bk lk.1).length-1) pu):=by
    rw[aw,ap (by omega)];rfl
   obtain⟨S,p1,p2,p3,p4,p5⟩:=D _ _ _ R;have K:=zr (bk:=(w.cl i).bk) (a:=lk.1) (by rw[P];omega);rw[af (by omega),k3]at K;rw[<-K]at p5;have U:lk.2.2.2.1=l.2.2.2.2.1:=by rw[<-v]
   have W:lk.2.2.1=l.2.2.1:=by rw[<-v]
   refine .inl ⟨by rw[f];exact gc,?_,p _⟩;subst f
   have x:dR w (w.wrt i (([],(iV lk (w.cl i).bk b o).1),(w.cl i).pg,(w.cl i).bk,b,o)) md md:=by
    have s:=p (([],(iV lk (w.cl i).bk b o).1),(w.cl i).pg,(w.cl i).bk,b,o);exact⟨s.sec,s.al,λa q=>by rw[s.go];exact q,⟨[],by rw[s.st,aW]⟩,⟨[],by rw[aW]⟩,by rw[s.lg],⟨[],by rw[s.lg,aW]⟩,⟨[],by rw[s.lg,aW]⟩⟩
   have s:=p (([],(iV lk (w.cl i).bk b o).1),(w.cl i).pg,(w.cl i).bk,b,o);refine h.ext x u.gr u.su.w (λj r=>?_) (λj r=>?_) (by rw[s.lg,s.al];exact h.es) (by rw[s.lg,s.st];exact h.le) (by rw[s.lg];exact h.d32) (by rw[s.st];exact h.ml) ?_
   ·rw[rR w hi r];refine sj.lg s.lg ?_;split
    ·exact⟨(h.cl i hi).1,D⟩
    ·exact(h.cl j r).gr u.gr
   ·rw[rR w hi r];split
    ·rename_i e;subst e;exact⟨rfl,rfl⟩
    ·exact⟨rfl,rfl⟩
   ·intro t ht h3 _;rcases ht with q|q
    ·exact absurd h3 q.1
    ·refine .inr (.inr ⟨l,i,hh,S,hi,H,N,by rw[s.se];exact q,B,p1,by rw[<-U];exact p5,?_⟩);rw[p4,<-W];exact o2
def hV(w:Wd)(s:jx):yc:=
 if s.2.1<0\/5<=s.2.1\/400<=w.st.length\/w.go.getD s.2.1.toNat false=false then((26,0),w)
 else if(aO .i64 s.2.2.2.1 (w.ky s.2.1.toNat)).isSome=false then((22,0),w)
 else
  let z:=sd (w.se s.2.1.toNat 1) ((aO .i64 s.2.2.2.1 (w.ky s.2.1.toNat)).getD []) s.2.2.2.2.2.2.2 s.2.2.2.2.2.2.1 w.ts w.m
  if z.1.2≠0 then((z.1.2,0),w.su w.d z.2)else zw (w.su w.d z.2) (gh z.1.1) s.2.2.2.2.2.2.1.length
def zz:Ct:=⟨2,⟨[sP 0,Vs 1],gb⟩,[⟨[(0,true,[.d Du])],Gx 33++pN 33⟩],λ(s,a)=>dy (s.2.2.2.2.2.2.1.length<=1000000/\∃n,cR (bV a) (n+1)) (hV (bV a) s) λy=>((y.1.1,y.1.2,jB),bZ y.2)⟩
def J':Option CP:=some (.cells [.d Iu])
def K_:cg:=⟨[sP 0,(3,false,[.ptr 33 0]),(4,false,[.ptr 34 0])],gb++[J',GU]⟩
def Uq(x:zz.inp.den)(y:K_.den):Prop:=match x,y with
 |(s,a),(F,G,H,J,K,L,M,N,O,b,c,e,f,g,h,i,j,l,m,n,o,p,q,r,t,u,v,w,z,A,B,C,D,E,P,_)=>(bV (F,G,H,J,K,L,M,N,O,b,c,e,f,g,h,i,j,l,m,n,o,p,q,r,t,u,v,w,z,A,B,C,D,E,()))=(bV a)/\P=s/\¬(s.2.1<0\/5<=s.2.1\/400<=(bV a).st.length\/(bV a).go.getD s.2.1.toNat false=false)
def L_:cg:=⟨[sP 0,(3,false,[.ptr 33 0]),(4,false,[.ptr 34 0]),sB 5,sL 6],gb++[J',GU]⟩
def zA(x:zz.inp.den)(y:L_.den):Prop:=match x,y with
 |(s,a),(k,b,G,H,J,K,L,M,N,O,P,c,e,f,g,h,i,j,l,m,n,o,p,q,r,t,u,v,w,z,A,B,C,D,E,F,Q,_)=>(bV (G,H,J,K,L,M,N,O,P,c,e,f,g,h,i,j,l,m,n,o,p,q,r,t,u,v,w,z,A,B,C,D,E,F,()))=(bV a)/\Q=s/\¬(s.2.1<0\/5<=s.2.1\/400<=(bV a).st.length\/(bV a).go.getD s.2.1.toNat false=false)/\k=(aO .i64 s.2.2.2.1 ((bV a).ky s.2.1.toNat)).getD []/\b=(aO .i64 s.2.2.2.1 ((bV a).ky s.2.1.toNat)).isSome
def L':cg:=⟨[sP 0,(3,false,[.ptr 46 0]),(4,false,[.ptr 47 0]),(7,false,[.ptr 48 0]),sI 8],Gx 33++pN 33++[J',GU,some (.cells [.d Dq])]⟩
def xE(w:Wd)(s:jx):(Lt×Int)×List Tm×KV:=sd (w.se s.2.1.toNat 1) ((aO .i64 s.2.2.2.1 (w.ky s.2.1.toNat)).getD []) s.2.2.2.2.2.2.2 s.2.2.2.2.2.2.1 w.ts w.m
def zB(x:zz.inp.den)(y:L'.den):Prop:=match x,y with
 |(s,a),(G,H,J,K,L,M,N,O,P,Q,b,c,e,f,g,h,i,j,m,n,o,p,q,r,t,u,v,w,z,A,B,C,D,E,F,R,_,l,_)=>R=s/\¬(s.2.1<0\/5<=s.2.1\/400<=(bV a).st.length\/(bV a).go.getD s.2.1.toNat false=false)/\(aO .i64 s.2.2.2.1 ((bV a).ky s.2.1.toNat)).isSome=true/\(l,G)=(xE (bV a) s).1/\(bV (H,J,K,L,M,N,O,P,Q,b,c,e,f,g,h,i,j,m,n,o,p,q,r,t,u,v,w,z,A,B,C,D,E,F,()))=(bV a).su (bV a).d (xE (bV a) s).2
def a32(x:zz.inp.den):dB:=⟨[],[(3,bK K_ (Uq x) λ_=>0),(4,bK L_ (zA x) λ_=>0),(7,bK L' (zB x) λ_=>0)],[],[],0⟩
abbrev G5(v:(Int×Int×Nw)×TA Unit):cw zz.out:=⟨0,v⟩
def PG:bw:=(44,[zz])::Bg
theorem M_:KK PG:=kA xC a32 (∀(c:Int×Int×Int×Int×Int×Int×BL×Lt),let z6:= !decide (0<=c.2.1/\c.2.1<5);WA λe f d g h i j k l m n o p q r s t u v w z a0 a1 a2 a3 a4 a5 a6 a7 a8 a9 b0 a b1=>let m9:= !d.getD ((42-1-1-10-15-1-1-1-1-1-1-1-1-1-1-1)/1) false;let n0:= !d.getD ((41-1-1-10-15-1-1-1-1-1-1-1-1-1-1-1)/1) false;let z9:= !d.getD ((40-1-1-10-15-1-1-1-1-1-1-1-1-1-1-1)/1) false;let z8:= !d.getD ((39-1-1-10-15-1-1-1-1-1-1-1-1-1-1-1)/1) false;let z7:= !d.getD ((38-1-1-10-15-1-1-1-1-1-1-1-1-1-1-1)/1) false;let x:=400<=a.length;let B:=(f,d,g,h,i,j,k,l,m,n,o,p,q,r,s,t,u,v,w,z,a0,a1,a2,a3,a4,a5,a6,a7,a8,a9,b0,a,b1,());let F:=G5 ((26,0,0,0,0,0,false,false,[],()),e,B);let z2:=Uq (c,e,B) (e,f,d,g,h,i,j,k,l,m,n,o,p,q,r,s,t,u,v,w,z,a0,a1,a2,a3,a4,a5,a6,a7,a8,a9,b0,a,b1,c,(0,0,0,0,0,0,false,false,[],()),());∀(Q:cw zz.out->Prop),(Tr.need (ah c.2.2.2.2.2.2.1<=1000000/\∃c,cR (bV (e,B)) (c+1)) (Tr.all yc (λy=>y=hV (bV (e,B)) c) λy=>Tr.leaf (G5 ((y.1.1,y.1.2,0,0,0,0,false,false,[],()),bZ y.2)))).sat Q->(True/\Br z6 (z6=true/\z6=true/\Q F) (z6=false/\True/\z6=false/\Br (decide x) (decide x=true/\decide x=true/\decide x=true/\decide x=true/\decide x=true/\decide x=true/\decide x=true/\decide x=true/\Q F) (decide x=false/\decide x=false/\decide x=false/\decide x=false/\decide x=false/\Br (c.2.1==0) (decide x=false/\decide x=false/\decide x=false/\Br z7 (Q F) (Is z2)) (Br (c.2.1==1) (decide x=false/\decide x=false/\decide x=false/\Br z8 (Q F) (Is z2)) (Br (c.2.1==2) (decide x=false/\decide x=false/\decide x=false/\Br z9 (Q F) (Is z2)) (Br (c.2.1==3) (decide x=false/\decide x=false/\decide x=false/\Br n0 (Q F) (Is z2)) (Br (c.2.1==4) (decide x=false/\decide x=false/\decide x=false/\Br m9 (Q F) (Is z2)) (False/\True))))))))/\WA λf3 f4 f5 f6 f7 f8 f9 g0 g1 g2 g3 g4 g5 g6 g7 g8 g9 h0 h1 h2 b6 b7 b8 b9 c0 h3 h4 h5 h6 h7 h8 h9 i0 i1=>∀(E:Int×Int×Int×Int×Int×Int×BL×Lt)(i2:Int×Int×Nw),let m4:=aO Ty.i64 E.2.2.2.1 c0;let m5:=aO Ty.i64 E.2.2.2.1 b9;let m6:=aO Ty.i64 E.2.2.2.1 b8;let m7:=aO Ty.i64 E.2.2.2.1 b7;let m8:=aO Ty.i64 E.2.2.2.1 b6;let z3:=(f4,f5,f6,f7,f8,f9,g0,g1,g2,g3,g4,g5,g6,g7,g8,g9,h0,h1,h2,b6,b7,b8,b9,c0,h3,h4,h5,h6,h7,h8,h9,i0,i1,E,i2,());Uq (c,e,B) (f3,z3)->(Br (E.2.1==0) (Is (zA (c,e,B) (m8.getD [],m8.isSome,f3,z3))) (Br (E.2.1==1) (Is (zA (c,e,B) (m7.getD [],m7.isSome,f3,z3))) (Br (E.2.1==2) (Is (zA (c,e,B) (m6.getD [],m6.isSome,f3,z3))) (Br (E.2.1==3) (Is (zA (c,e,B) (m5.getD [],m5.isSome,f3,z3))) (Br (E.2.1==4) (Is (zA (c,e,B) (m4.getD [],m4.isSome,f3,z3))) (False/\True))))))/\∀(i3:BL)(i9:Bool),WA λC G H J K L M N O P R S U W X Y d6 d7 d8 d9 e0 e1 e2 e3 e4 e5 D e6 e7 e8 e9 f0 f1 f2=>∀(A:Int×Int×Int×Int×Int×Int×BL×Lt)(i4:Int×Int×Nw),zA (c,e,B) (i3,i9,C,G,H,J,K,L,M,N,O,P,R,S,U,W,X,Y,d6,d7,d8,d9,e0,e1,e2,e3,e4,e5,D,e6,e7,e8,e9,f0,f1,f2,A,i4,())->Br (!i9) (Q ⟨0,(22,0,0,0,0,0,false,false,[],()),C,G,H,J,K,L,M,N,O,P,R,S,U,W,X,Y,d6,d7,d8,d9,e0,e1,e2,e3,e4,e5,D,e6,e7,e8,e9,f0,f1,f2,()⟩) ((Br (A.2.1==0) (bO 4 D/\∀b,b=sd ((C.getD 0 (ak 2 [])).getD 1 []) i3 A.2.2.2.2.2.2.2 A.2.2.2.2.2.2.1 D K->Is (zB (c,e,B) (b.1.2,C,G,H,J,b.2.2,L,M,N,O,P,R,S,U,W,X,Y,d6,d7,d8,d9,e0,e1,e2,e3,e4,e5,b.2.1,e6,e7,e8,e9,f0,f1,f2,A,i4,b.1.1,()))) (Br (A.2.1==1) (bO 4 D/\∀b,b=sd ((C.getD 1 (ak 2 [])).getD 1 []) i3 A.2.2.2.2.2.2.2 A.2.2.2.2.2.2.1 D K->Is (zB (c,e,B) (b.1.2,C,G,H,J,b.2.2,L,M,N,O,P,R,S,U,W,X,Y,d6,d7,d8,d9,e0,e1,e2,e3,e4,e5,b.2.1,e6,e7,e8,e9,f0,f1,f2,A,i4,b.1.1,()))) (Br (A.2.1==2) (bO 4 D/\∀b,b=sd ((C.getD 2 (ak 2 [])).getD 1 []) i3 A.2.2.2.2.2.2.2 A.2.2.2.2.2.2.1 D K->Is (zB (c,e,B) (b.1.2,C,G,H,J,b.2.2,L,M,N,O,P,R,S,U,W,X,Y,d6,d7,d8,d9,e0,e1,e2,e3,e4,e5,b.2.1,e6,e7,e8,e9,f0,f1,f2,A,i4,b.1.1,()))) (Br (A.2.1==3) (bO 4 D/\∀b,b=sd ((C.getD 3 (ak 2 [])).getD 1 []) i3 A.2.2.2.2.2.2.2 A.2.2.2.2.2.2.1 D K->Is (zB (c,e,B) (b.1.2,C,G,H,J,b.2.2,L,M,N,O,P,R,S,U,W,X,Y,d6,d7,d8,d9,e0,e1,e2,e3,e4,e5,b.2.1,e6,e7,e8,e9,f0,f1,f2,A,i4,b.1.1,()))) (Br (A.2.1==4) (bO 4 D/\∀b,b=sd ((C.getD 4 (ak 2 [])).getD 1 []) i3 A.2.2.2.2.2.2.2 A.2.2.2.2.2.2.1 D K->Is (zB (c,e,B) (b.1.2,C,G,H,J,b.2.2,L,M,N,O,P,R,S,U,W,X,Y,d6,d7,d8,d9,e0,e1,e2,e3,e4,e5,b.2.1,e6,e7,e8,e9,f0,f1,f2,A,i4,b.1.1,()))) (False/\True))))))/\∀(i7:Int),WA λj0 j1 j2 j3 j4 j5 j6 j7 j8 j9 k0 k1 k2 k3 k4 k5 k6 k7 k8 k9 l0 l1 l2 l3 l4 l5 l6 l7 l8 l9 m0 m1 i5 i8=>∀(m2:Int×Int×Int×Int×Int×Int×BL×Lt)(m3:Int×Int×Nw)(i6:Lt),zB (c,e,B) (i7,j0,j1,j2,j3,j4,j5,j6,j7,j8,j9,k0,k1,k2,k3,k4,k5,k6,k7,k8,k9,l0,l1,l2,l3,l4,l5,l6,l7,l8,l9,m0,m1,i5,i8,m2,m3,i6,())->Br (!i7==0) (Q ⟨0,(i7,0,0,0,0,0,false,false,[],()),j0,j1,j2,j3,j4,j5,j6,j7,j8,j9,k0,k1,k2,k3,k4,k5,k6,k7,k8,k9,l0,l1,l2,l3,l4,l5,l6,l7,l8,l9,m0,m1,i5,i8,()⟩) (0+ah i6.2.2.2.2.1+ah i6.2.2.2.2.2.1+ah i6.2.2.2.2.2.2.1<=1000000000/\(i5.length<=1000000/\i8.length<=1000000)/\Q ⟨0,(0,nI i5+1,0,0,0,0,false,false,[],()),j0,j1,j2,j3,j4,j5,j6,j7,j8,j9,k0,k1,k2,k3,k4,k5,k6,k7,k8,k9,l0,l1,l2,l3,l4,l5,l6,l7,l8,l9,m0,m1,i5++[gh i6],i8++[nI m2.2.2.2.2.2.2.1],()⟩))) (by
 conv=>zeta
 unfold Br WA nI bZ;intro s;refine Wd.all λw=>?_;intro Q ⟨⟨R,n,v⟩,J⟩;have v:cR w (n+1):=v;have p:∀y:yc,hV w s=y->Q ⟨0,((y.1.1,y.1.2,jB),bZ y.2)⟩:=λy e=>J y e.symm;clear J;unfold hV at p;have bad:(s.2.1<0\/5<=s.2.1\/400<=w.st.length\/w.go.getD s.2.1.toNat false=false)->Q ⟨0,((26,0,jB),bZ w)⟩:=λh=>p ((26,0),w) (am h);refine⟨⟨trivial,λc=>⟨c,c,bad ?_⟩,λc=>⟨c,trivial,c,λd=>⟨d,d,d,d,d,d,d,d,bad (.inr (.inr (.inl (ag d))))⟩,λd=>⟨d,d,d,d,d,?_⟩⟩⟩,?_⟩
 ·have c:¬(0<=s.2.1/\s.2.1<5):=λh=>by rw[decide_eq_true h]at c;cases c
  rcases Int.lt_or_le s.2.1 0 with q|q
  ·exact .inl q
  ·exact .inr (.inl (by omega))
 ·have c:0<=s.2.1/\s.2.1<5:=by
   cases h:decide (0<=s.2.1/\s.2.1<5)with
   |true=>exact ag h
   |false=>rw[h]at c;cases c
  have M:=an d;refine⟨λe=>?_,λB=>⟨λe=>?_,λi=>⟨λe=>?_,λo=>⟨λe=>?_,λC=>⟨λe=>?_,λj=>?_⟩⟩⟩⟩⟩
  case refine_6=>exfalso;simp only[az,ne_eq]at B i o C j;omega
  all_goals
   have x:=aZ e;have K:s.2.1.toNat=_:=aH Int.toNat x;refine⟨d,d,d,λg=>bad (.inr (.inr (.inr ?_))),λg=>?_⟩
   ·rw[K];have g:=aP _▸g;exact g
   ·have no:¬(s.2.1<0\/5<=s.2.1\/400<=w.st.length\/w.go.getD s.2.1.toNat false=false):=by
     rintro(q|q|q|q)
     ·omega
     ·omega
     ·exact M q
     ·have L:(!w.go.getD s.2.1.toNat false)=true:=by rw[q];rfl
      rw[K]at L;have:=L.symm.trans g;cases this
    exact⟨⟨rfl,rfl,no⟩⟩
 refine Wd.all λA=>?_;rintro t N ⟨i,o,no⟩;have i:A=w:=i;have o:t=s:=o;subst i o;have no:¬(t.2.1<0\/5<=t.2.1\/400<=A.st.length\/A.go.getD t.2.1.toNat false=false):=no
 have S:0<=t.2.1/\t.2.1<5:=by
  rw[not_or,not_or]at no;omega
 rw[af no]at p;clear bad;refine⟨?_,?_⟩
 ·refine⟨λe=>?_,λB=>⟨λe=>?_,λi=>⟨λe=>?_,λo=>⟨λe=>?_,λC=>⟨λe=>?_,λj=>?_⟩⟩⟩⟩⟩
  case refine_6=>exfalso;simp only[az,ne_eq]at B i o C j;omega
  all_goals
   have x:=aZ e;exact⟨⟨rfl,rfl,no,by show _=(aO Ty.i64 _ (A.ky t.2.1.toNat)).getD [];rw[x];rfl,by show _=(aO Ty.i64 _ (A.ky t.2.1.toNat)).isSome;rw[x];rfl⟩⟩
 intro k b;refine Wd.all λa=>?_;rintro u O ⟨i,o,_,j,r⟩;have i:a=A:=i;have o:u=t:=o;subst i o;have j:k=(aO .i64 u.2.2.2.1 (a.ky u.2.1.toNat)).getD []:=j;have r:b=(aO .i64 u.2.2.2.1 (a.ky u.2.1.toNat)).isSome:=r;refine⟨λc=>p ((22,0),a) (am ?_),λc=>?_⟩
 ·rw[<-r];simpa using c
 have c:b=true:=by simpa using c
 rw[r]at c;rw[af (by rw[c];decide)]at p;refine⟨?_,?_⟩
 ·refine⟨λe=>?_,λB=>⟨λe=>?_,λi=>⟨λe=>?_,λo=>⟨λe=>?_,λC=>⟨λe=>?_,λj=>?_⟩⟩⟩⟩⟩
  case refine_6=>exfalso;simp only[az,ne_eq]at B i o C j;omega
  all_goals
   have x:=aZ e;refine⟨v.ts.mono (by omega),λz E=>?_⟩;have E:z=xE a u:=by rw[E,j];unfold xE;rw[x];rfl
   subst E;exact⟨⟨rfl,no,c,rfl,rfl⟩⟩
 clear j r;intro H;refine Wd.all λF=>?_;rintro f P l ⟨i,_,_,j,r⟩;have i:f=u:=i;subst i;have r:F=a.su a.d (xE a f).2:=r;have j:(l,H)=(xE a f).1:=j;have E:xE a f=((l,H),(xE a f).2):=by rw[j]
 have G:=lmS (k:=0) (sec:=a.se f.2.1.toNat 1) (ep:=(aO .i64 f.2.2.2.1 (a.ky f.2.1.toNat)).getD []) (l:=f.2.2.2.2.2.2.2) (text:=f.2.2.2.2.2.2.1) a.m (v.ts.mono (by omega));have G:bO 0 (xE a f).2.1/\(xE a f).1.1.2.2.2.2.1.length<=32/\(xE a f).1.1.2.2.2.2.2.1.length<=4112/\(xE a f).1.1.2.2.2.2.2.2.1.length<=64:=G;have p:∀y:yc,(if(xE a f).1.2≠0 then(((xE a f).1.2,0),a.su a.d (xE a f).2)else zw (a.su a.d (xE a f).2) (gh (xE a f).1.1) f.2.2.2.2.2.2.1.length)=y->Q ⟨0,((y.1.1,y.1.2,jB),bZ y.2)⟩:=p;rw[<-r,<-j]at p;rw[<-j]at G;dsimp only at p G;have D:F.st=a.st/\F.ln=a.ln:=by rw[r];exact⟨rfl,rfl⟩
 refine⟨λg=>p ((H,0),F) (am (jU g)),λg=>⟨by omega,⟨?_,?_⟩,p _ (af (jV g))⟩⟩
 ·rw[D.1];have:=v.st.1;omega
 ·rw[D.2];have:=v.st;omega) (l:=λ_=>bp)
theorem xF(w:Wd)(d:Int)(z:List Tm×KV){i:Nat}(hi:i<5):(w.su d z).cl i=w.cl i:=by rcases fo hi with rfl|rfl|rfl|rfl|rfl<;>rfl
theorem Ur{w:Wd}{md:List Md}(h:Au w md){n:Nat}(x:cR w (n+1)){s:jx}:
 ((hV w s).1.1≠0/\(hV w s).1.2=0/\(hV w s).2.st=w.st/\Au (hV w s).2 md/\el w (hV w s).2)\/
 ((hV w s).1.1=0/\(hV w s).1.2=(w.st.length:Int)+1/\Au (hV w s).2 (md++[(s.2.1,false,())])/\∃b,(hV w s).2.st=w.st++[b]/\(hV w s).2.lg=w.lg):=by
 have err:∀e:Int,e≠0->∀z:yc,z=((e,0),w)->(z.1.1≠0/\z.1.2=0/\z.2.st=w.st/\Au z.2 md/\el w z.2):=by
  intro e A z B;subst B;exact⟨A,rfl,rfl,h,⟨rfl,rfl,rfl,rfl,rfl⟩⟩
 unfold hV;split
 ·exact .inl (err 26 (by decide) _ rfl)
 rename_i no;rw[not_or,not_or,not_or]at no;obtain⟨C,D,K,u⟩:=no;split
 ·exact .inl (err 22 (by decide) _ rfl)
 dsimp only;obtain⟨a,f⟩:=bR (Int.not_lt.1 C);have E:s.2.1.toNat=a:=by rw[f,aF]
 have i:a<5:=by
  have q:=Int.not_le.1 D;rw[f]at q;exact Int.ofNat_lt.1 q
 rw[E]at u⊢;have F:Su (10000*(n+1)+9000+4) w.ts w.m:=(nc h x).mono (by omega);rcases GI (sec:=w.se a 1) (ep:=(aO .i64 s.2.2.2.1 (w.ky a)).getD []) (text:=s.2.2.2.2.2.2.1) (l:=s.2.2.2.2.2.2.2) F with⟨o,v⟩|⟨L,b,G,g,y,o,v,M,N,H,p,O,P,J,r,t⟩
 ·rw[am o,v];exact .inl (err _ o _ rfl)
 ·rw[H];dsimp only;rw[af (λq=>q rfl)];refine .inr ⟨rfl,rfl,?_,_,rfl,rfl⟩;rw[f];refine vz (hh:=G) (w':=zw (w.su w.d y) _ _|>.2) h i rfl rfl rfl rfl rfl p.gr p.su.w (λj c=>?_) (λj c=>?_) t J r (.inr ⟨rfl,by simpa using u⟩)
  ·show sj w y.1 (((w.su w.d y).keep _ _).cl j);rw[hK _ _ _ c,xF _ _ _ c];exact(h.cl j c).gr p.gr
  ·show(((w.su w.d y).keep _ _).cl j).sg=_/\(((w.su w.d y).keep _ _).cl j).se=_;rw[hK _ _ _ c,xF _ _ _ c];exact⟨rfl,rfl⟩
end Go.Tp
