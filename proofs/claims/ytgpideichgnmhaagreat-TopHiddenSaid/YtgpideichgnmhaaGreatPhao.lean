/- A part of the proof of TopHiddenSaid: no conditions; packed by a program of our own. -/
import Derived.Test.YtgpideichgnmhaaGreatPhan
set_option linter.defProp false
set_option linter.unusedVariables false
set_option linter.unusedSimpArgs false
open Bool renaming or_eq_true→jb,not_eq_false→bR
open Decidable renaming not_not→aA
open HSub renaming hSub→bO
open Int renaming toNat_natCast→aG,eq_ofNat_of_zero_le→bo,le_refl→bp
open LE renaming le→aX
open List renaming length_append→aa,append_assoc→ay,mem_append→ba,take_of_length_le→bb,append_nil→aH,mem_cons→bm,getElem?_eq_getElem→an,getElem?_append_right→aJ,getElem?_set_ne→mF,length→ah,range→fo,getD_eq_getElem?_getD→aw,getElem?_eq_none→be,mem_cons_self→aF,mem_cons_of_mem→aD,all_eq_true→cH,getElem?_eq_some_iff→cq,mem_singleton→bV,length_set→cI
open Nat renaming le_refl→aE,le_trans→bE,zero_le→aq,lt_or_ge→br,eq_zero_or_pos→dP
open Prod renaming ext→ga
namespace Go.Tp
open Go.Hv Go.Proofs Go.RowKit
set_option maxRecDepth 100000
set_option maxHeartbeats 0
variable{ks ks':List BL}
theorem oq:((104,ks,()):Tm).1≠98/\((104,ks,()):Tm).1≠103:=⟨by show(104:BitVec 8)≠98;decide,by show(104:BitVec 8)≠103;decide⟩
variable{md md':List Md}{l l' l0:Lt}{a i k n:Nat}{u u' v v' w w':Wd}
theorem S8(h:Au w md)(K:Ke w md ks)(H:Hi w md)(J:cb (k+6000) w.ts){c:Cl}(hc:tJ w w.ts c)(r:jY l=true)(C:(gn (cZ c.lg.2.1 l.2.2.1) l.2.1).2=true)
 (D:(nE (gn (cZ c.lg.2.1 l.2.2.1) l.2.1).1.2.2.1 l w.ts w.m).1.2=0):
 zG w l/\qV w.ts ks l/\∃hh,Nm w.ts hh (104,[l.2.2.2.2.2.1],())/\nE (gn (cZ c.lg.2.1 l.2.2.1) l.2.1).1.2.2.1 l w.ts w.m=((gd l hh,0),w.ts,w.m):=by
 have s:=(dJ r).2.2.1;have f:=(dJ r).1;have hl:w.ts.length<=4294967296:=by have:=J.2;omega
 obtain⟨⟨q,hq⟩,hb⟩:=hc;have b:=lcP (sg:=(gn (cZ c.lg.2.1 l.2.2.1) l.2.1).1.2.2.1) (k:=k+5999) s ⟨h.su,J⟩
 have u:cZ c.lg.2.1 l.2.2.1=cZ w.lg.2.1 l.2.2.1:=by
  rw[hq];refine zo λe=>?_;rw[hq,e]at C;cases C
 rw[u]at C b D⊢;obtain⟨p1,p2⟩:=wU C;obtain⟨en,L,hp⟩:=rx p1;obtain⟨ie,M⟩:=List.getElem?_of_mem L;obtain⟨a,x,N,ha,ea,n1,n2⟩:=h.al _ ((h.es ie en M).2 _ hp);have O:l.2.1=(a:Int):=by rw[<-p2,ea]
 have P:(gn (cZ w.lg.2.1 l.2.2.1) l.2.1).1.2.2.1=N:=by rw[ea]
 obtain⟨hh,t,v,c1,Q,R,c4,c5,c6,g,o,c9⟩:=OR (k:=k+5999) s ⟨h.su,J⟩ D;rw[P]at c5 Q R c1 b D⊢;have y:(nE N l w.ts w.m).2.1.length<=4294967296:=by have:=b.su.k.2;omega
 have ev:=Nm.uni y c5 (b.gr.nm n2);rw[ev]at g;have g:t.2.1.getD 0 []=w.se a 1:=g;have S:t∈w.ts:=(b.gr.old R.le).resolve_right λe=>e.1 c4;rcases H.sr t S c4 with⟨n,e',d,F,U,z3,G,z5,z⟩|⟨n,A,W,i,j,F,U,z3,G,z5,z,z7,p⟩
 ·rw[G]at o;exact absurd (show dS e'=dp l++tx hh from o) (zj ⟨f.1,f.2.1⟩)
 rw[z5]at g o;have g:w.se W 1=w.se a 1:=g;have o:dp A++tx j=dp l++tx hh:=o;have X:=(IK h hl G ha ac ac g).1;subst X;have a0:hh.length=32:=Q.len32 oq.1 oq.2;have Y:j.length=32:=z.len32 oq.1 oq.2;obtain⟨i1,i2,i3,i4,i5,i6⟩:=wN (dJ z3).1 f ac ac o
 have i7:A.2.2.2.2.2.1=l.2.2.2.2.2.1:=by
  have:=Nm.uni y (b.gr.nm z) (by rw[i6];exact Q);exact(List.cons.inj (aI (λt:Tm=>t.2.1) this)).1
 have i8:A.2.2.2.2.2.2.1=l.2.2.2.2.2.2.1:=Nm.inj b.su.w (b.gr.nm z7) R;have:=IL i1 i2 i3 i4 i5 i7 i8;subst this
 have i:i=true:=by
  rcases p with p|p
  ·exact p.1
  ·rw[H.go W G]at p;exact absurd p.2 bt
 subst i;refine⟨H.le n A (by rw[O];exact U) F r,?_,j,z,?_⟩
 ·rcases K.hon n W U with⟨E,B,q2,_⟩|⟨l2,B,q2,q3,q4⟩
  ·rw[F]at B;exact absurd (Option.some.inj B) (Jj r)
  ·rw[F]at B;rw[Ji r q2 (Option.some.inj B)];exact q4
 ·subst i6
  have e2:(nE N A w.ts w.m).2=(w.ts,w.m):=by
   have:=qa (m:=w.m) h.su z.le;unfold nE;rw[bN];dsimp only
   repeat' split
   all_goals first|rfl|exact this
  exact ga (ga c1 D) e2
variable{b e ep g hh key once x:BL}
theorem a09(H:Hi w md)(j:Su (k+1) w.ts w.m)(c:pD l)(r:zG w l)(o:Nm w.ts hh (104,[l.2.2.2.2.2.1],())):
 (wJ l (gd l hh) (w.cl i).la (w.cl i).bk w.ts w.m).2=(w.ts,w.m)/\(l.1=2->nf (gd l hh)=true/\∃n,Nm w.ts n (104,[vo (gd l hh)],()))/\((wJ l (gd l hh) (w.cl i).la (w.cl i).bk w.ts w.m).1=0->l.2.1≠(i:Int)):=by
 obtain⟨a,f,x,F,s,t,G,J,b,u,K⟩:=r;have v:f=hh:=Nm.inj j.w t o;subst v
 have h:l.1=2->nf (gd l f)=true/\∃n,Nm w.ts n (104,[vo (gd l f)],()):=λe=>by
  obtain⟨y,_,_,_,z⟩:=u e;exact⟨zq c e (o.len32 oq.1 oq.2),y.1,z⟩
 by_cases g:l.1=2
 ·obtain⟨A,n,B⟩:=h g;have C:=BF (m:=w.m) j A B;unfold wJ;rw[ae (λq=>q g)];refine⟨?_,h,λe=>?_⟩
  ·unfold ij;rw[C]
   repeat' split
   all_goals rfl
  ·obtain⟨_,D,_⟩:=Bo e;intro p;have E:l.2.2.2.1=((cJ (w.cl i).bk l.2.1).length:Int)+1:=D;rw[p]at E;have:a=i:=ac
   subst this;unfold Wd.ct Wd.oc at b;rw[ak g]at b;omega
 ·unfold wJ;rw[ak g];refine⟨rfl,h,λe p=>?_⟩;have:a=i:=ac
  subst this;unfold Wd.ct at b;rw[ae g]at b;dsimp only at e;rw[s,ak b]at e;exact absurd e bt
variable{m m':KV}
theorem Pt{md:List Md}{ts:List Tm}(c:Su (k+1) ts m){km:KM}(D:BC w ks i km)(b:jY l=true)(E:qV ts ks l)(u:(aO .i64 l.2.2.1 km).isSome=true){f:BL}(F:(fY x).2=0)(y:Nm ts l.2.2.2.2.2.1 (98,[f,dB l.2.2.2.1,dp l,(fY x).1],())):
 tq ((aO .i64 l.2.2.1 km).getD []) l ts m=((x,0),ts,m):=by
 obtain⟨a,G,H,z,n,h,J⟩:=E;have A:ts.length<=4294967296:=by have:=c.k.2;omega
 have p:=(dJ b).1
 have K:(aO .i64 l.2.2.1 km).getD []=a:=by
  cases B:aO .i64 l.2.2.1 km with
  |none=>rw[B]at u;cases u
  |some v=>
   obtain⟨j,r,L,Q,R⟩:=D _ (SX B);have r:l.2.2.1=(j:Int)+1:=r;rw[r,show((j:Int)+1-1).toNat=j by omega,L]at z;exact Option.some.inj z
 have C:[f,dB l.2.2.2.1,dp l,(fY x).1]=[G,dB l.2.2.2.1,dp l,H]:=aI (λt:Tm=>t.2.1) (Nm.uni A y J);simp only[List.cons.injEq,and_true,true_and]at C;obtain⟨M,N⟩:=C;subst M N
 have O:cM (107,[a,jB l],()) ts m=(f,ts,m):=by
  have g:=zl (k:=k) c (c.k.1 _ h.le);have o:=qa (m:=m) c.w h.le;have e:cM (107,[a,jB l],()) ts m=dI (107,[a,jB l],()) ts m:=ak n;have s:=g.2 n;rw[e]at s⊢;rw[o]at s;exact ga (Nm.inj c.w s h) o
 have P:AP a l ts m=(((fY x).1,0),ts,m):=by
  unfold AP;rw[O];dsimp only;have b:=qE A y;have b:fi l.2.2.2.2.2.1 98 ts=((98,[f,dB l.2.2.2.1,dp l,(fY x).1],()),true):=b
  have:ov f l.2.2.2.1 (dp l) l.2.2.2.2.2.1 ts=((fY x).1,0):=by
   unfold ov
   rw[ae (by
    have:=h.len32 TW.1 TW.2;have:=p.2.2.2.2.2.2.1;omega),b,ak ⟨rfl,rfl,rfl,rfl⟩]
   rfl
  rw[this]
 unfold tq;rw[bN,K,ae (by rw[b];exact λq=>q.elim (λq=>by cases q) (λq=>q n)),P];dsimp only;rw[ae (λq=>q rfl),a05 F];dsimp only;rw[ae (λq=>q rfl)]
theorem a1a(H:Hi w md)(s:Su (k+3) w.ts w.m)(hi:i<5)(o:pD l)(u:(gd l hh).2.2.2.2.1.length=32)(a1:a<5)(C:l.2.1=(a:Int))(hx:x.length<=5000)
 (X:l.1=2->∃h:Kn,(w.oc a)[(l.2.2.2.1-1).toNat]?=some h/\h.2.1=hh/\h.2.2.1=l.2.2.1/\Nm w.ts h.1 (104,[vo (gd l hh)],()))
 (Y:l.1=4->∃(bk:Ln)(ops:List Op),x=jI bk [] 5++cE ops/\Jm w.ts bk/\∀c:Nat,c<5->cJ bk (c:Int)<+:w.oc c)
 (ho:l.1=2->a≠i) {y:xt} (r:tY l (gd l hh) x (w.cl i).pg (w.cl i).bk w.ts w.m y):
 y.2.2.2=(w.ts,w.m)/\cJ y.2.2.1 (i:Int)=w.oc i/\∀c:Nat,c<5->cJ y.2.2.1 (c:Int)<+:w.oc c:=by
 have b:cJ (w.cl i).bk (i:Int)=w.oc i/\∀c:Nat,c<5->cJ (w.cl i).bk (c:Int)<+:w.oc c:=⟨rfl,λc n=>H.pf i c hi n⟩
 have v:Jm w.ts (w.cl i).bk:=λc h0 h5=>by
  obtain⟨d,rfl⟩:=bo h0;exact(H.ch d ac).pre (H.pf i d hi ac)
 unfold tY at r;split at r
 ·rename_i e;obtain⟨h,D,k2,k3,E⟩:=X e;have A:nf (gd l hh)=true:=zq o e u;have F:gy (gd l hh) w.ts w.m=(h.1,w.ts,w.m):=BF (m:=w.m) (k:=k+2) s A E;obtain⟨⟨c,n⟩,_⟩:=r;rw[n];unfold EK;dsimp only;split
  ·exact⟨rfl,b⟩
  have G:(kp (gd l hh) (w.cl i).bk w.ts w.m).2.2=(w.ts,w.m)/\cJ (kp (gd l hh) (w.cl i).bk w.ts w.m).2.1 (i:Int)=w.oc i/\∀c:Nat,c<5->cJ (kp (gd l hh) (w.cl i).bk w.ts w.m).2.1 (c:Int)<+:w.oc c:=by
   unfold kp;split
   ·rename_i g;obtain⟨_,t,_,_,g5⟩:=Bo g;have J:=a06 (k:=k+2) s v g;rw[g5];dsimp only;rw[F]at J⊢;obtain⟨_,j,f1,f2,f3,K⟩:=J
    have en:j=h:=by
     have L:j.1=h.1:=Nm.inj s.w f3 E;have M:j.2.1=h.2.1:=f1.trans k2.symm;have N:j.2.2.1=h.2.2.1:=f2.trans k3.symm;obtain⟨_,_,_,⟨⟩⟩:=j;obtain⟨_,_,_,⟨⟩⟩:=h;dsimp only at L M N;rw[L,M,N]
    have O:(gd l hh).1=(a:Int):=C
    have eq:(l.2.2.2.1-1).toNat=(cJ (w.cl i).bk (a:Int)).length:=by
     have t:l.2.2.2.1=((cJ (w.cl i).bk l.2.1).length:Int)+1:=t;rw[C]at t;omega
    refine⟨rfl,?_,λc n=>?_⟩
    ·rw[K,O,ae (λq=>ho e ac)];rfl
    ·rw[K,O];split
     ·rename_i q;have:c=a:=ac
      subst this;rw[eq,<-en]at D;exact Jr (H.pf i c hi n) D
     ·exact H.pf i c hi n
   ·have:(ij (gd l hh) (w.cl i).bk w.ts w.m).2=(w.ts,w.m):=by
     unfold ij;rw[F]
     repeat' split
     all_goals rfl
    exact⟨this,b⟩
  split
  ·exact G
  ·exact G
 split at r
 ·rw[r];exact⟨rfl,b⟩
 ·rename_i t g3;have e4:l.1=4:=by have:=o.1;have:=o.2.1;omega
  obtain⟨bk,ops,P,Q,b3⟩:=Y e4;obtain⟨z,hz,R,S⟩:=r;obtain⟨q,f⟩:=a07 (r:=cE ops) Q (by rw[<-P];omega);obtain⟨p,d1,d2⟩:=a08 (m:=w.m) (s.mono ac) Q
  have ez:z=((true,(q,0),xf 0 ((fo 5).map λa:Nat=>cJ bk (a:Int))),p,w.ts,w.m):=by
   rw[hz];unfold TT;rw[P,f];dsimp only;rw[d1]
  rw[ez]at R S;refine⟨R,?_⟩;rcases S with⟨_,_,c3⟩|⟨_,_,_,B,U⟩
  ·rw[c3];exact b
  ·have B:y.2.2.1=p:=B;rw[B]at U⊢;have W:∀c:Nat,c<5->cJ p (c:Int)<+:w.oc c:=λc n=>by rw[d2 c n];exact b3 c n
   exact⟨S7 (W i hi) (U i hi).1,W⟩
def lcT(c:Cl)(l:Lt)(ts:List Tm)(m:KV):List Tm×KV:=
 if c.lg.2.1.length<l.2.2.1 then(ts,m)else if(gn (cZ c.lg.2.1 l.2.2.1) l.2.1).2=false then(ts,m)else(nE (gn (cZ c.lg.2.1 l.2.2.1) l.2.1).1.2.2.1 l ts m).2
theorem S9(h:Au w md)(K:Ke w md ks)(H:Hi w md)(A:cU w (n+1))(hi:i<5)(o:jY l=true){y:xt}(r:kg (w.cl i) l w.ts w.m y):
 y.2.2.2=lcT (w.cl i) l w.ts w.m/\cJ y.2.2.1 (i:Int)=w.oc i/\(∀c:Nat,c<5->cJ y.2.2.1 (c:Int)<+:w.oc c)/\(y.1=0->l.2.1≠(i:Int)):=by
 have f:Su 10000 w.ts w.m:=(jF h A).mono ac;have j:=(dJ o).1;have b:cJ (w.cl i).bk (i:Int)=w.oc i/\∀c:Nat,c<5->cJ (w.cl i).bk (c:Int)<+:w.oc c:=⟨rfl,λc B=>H.pf i c hi B⟩;have no:∀{e:Int},e≠0->(e=0->l.2.1≠(i:Int)):=λh q=>absurd q h;unfold kg at r;unfold lcT;dsimp only at r;split at r
 ·rename_i g;rw[ak g,r];exact⟨rfl,b.1,b.2,no (by show(21:Int)≠0;decide)⟩
 rename_i g;rw[ae g];split at r
 ·rename_i g;rw[ak g,r];exact⟨rfl,b.1,b.2,no (by show(19:Int)≠0;decide)⟩
 rename_i g;rw[ae g];have C:(gn (cZ (w.cl i).lg.2.1 l.2.2.1) l.2.1).2=true:=cf g
 split at r
 ·rename_i g;rw[r];exact⟨rfl,b.1,b.2,no g⟩
 rename_i D;obtain⟨s,E,F,p,G⟩:=S8 h K H (k:=4000) f.k (h.cl i hi) o C (aA.1 D);rw[G]at r⊢;dsimp only at r⊢;obtain⟨J,k2,L⟩:=a09 H (k:=9999) (i:=i) f j s p;rw[J]at r;dsimp only at r;split at r
 ·rename_i g;rw[r];exact⟨rfl,b.1,b.2,no g⟩
 rename_i M;have t:=L (aA.1 M);split at r
 ·rw[r];exact⟨rfl,b.1,b.2,no (by show(19:Int)≠0;decide)⟩
 split at r
 ·rw[r];exact⟨rfl,b.1,b.2,no (by show(22:Int)≠0;decide)⟩
 rename_i N;obtain⟨a,u,x,O,v,P,z,⟨kk,Q⟩,a6,R,S⟩:=s;have U:u=F:=Nm.inj f.w P p;subst U;have W:=Pt (md:=md) (k:=9999) f (K.km i hi) o E (eq_true_of_ne_false N) z Q;rw[W]at r;dsimp only at r;rw[ae (λq=>q rfl)]at r;have X:x.length<=5000:=by have:=kV z;omega
 obtain⟨Y,t2,t3⟩:=a1a H (k:=9997) f hi j (hh:=u) (p.len32 oq.1 oq.2) O v X R S (λ_ q=>t (by rw[v,q])) r;exact⟨Y,t2,t3,λ_=>t⟩
variable{c f:Int}
theorem Js{la:La}{n:Int}(h:c.toNat≠i)(a:Int):gV (tD la f c n) a (i:Int)=gV la a (i:Int):=by
 unfold gV tD;rw[aG];by_cases e:(a-3).toNat=(f-3).toNat
 ·rw[e];simp only[aw];rcases br (f-3).toNat la.length with g|g
  ·rw[List.getElem?_set_self g];dsimp only[Option.getD];rw[mF h]
  ·rw[List.set_eq_of_length_le g]
 ·simp only[aw];rw[mF (λq=>e q.symm)]
def JQ(c:Cl)(b:BL)(ts:List Tm)(m:KV):(Lg×KM)×List Tm×KV:=
 if 65536<b.length then((c.lg,c.km),ts,m)
 else if(dn b 0 true 0 1 4).2.2≠0 then((c.lg,c.km),ts,m)
 else if(dn b 0 true 0 1 4).1=1 then
  (if eZ b (jJ b true (0,0)).2.1 true (jJ b true (0,0)).2.2≠0 then((c.lg,c.km),ts,m)
   else(((kT c.c c.se c.lg c.km (jJ b true (0,0)).1 ts m).2.1,(kT c.c c.se c.lg c.km (jJ b true (0,0)).1 ts m).2.2.1),(kT c.c c.se c.lg c.km (jJ b true (0,0)).1 ts m).2.2.2))
 else if eZ b (pl b true (0,0)).2.1 true (pl b true (0,0)).2.2≠0 then((c.lg,c.km),ts,m)
 else((c.lg,c.km),lcT c (pl b true (0,0)).1 ts m)
structure OwS(i:Nat)(c c':Cl):Prop where
 cc:c'.c=c.c
 se:c'.se=c.se
 sg:c'.sg=c.sg
 bk:cJ c'.bk (i:Int)=cJ c.bk (i:Int)
 la:∀k,gV c'.la k (i:Int)=gV c.la k (i:Int)
theorem a1b(h:Au w md)(H:Hi w md)(s:cU w (n+1))(hi:i<5)(K:(dn b 0 true 0 1 4).1≠1->Ke w md ks){y:E9}(r:ol (w.cl i) b w.ts w.m y):
 ((y.2.1.lg,y.2.1.km),y.2.2)=JQ (w.cl i) b w.ts w.m/\OwS i (w.cl i) y.2.1/\(∀c:Nat,c<5->cJ y.2.1.bk (c:Int)<+:w.oc c)/\Gr K8 w.ts y.2.2.1:=by
 have a:OwS i (w.cl i) (w.cl i):=⟨rfl,rfl,rfl,rfl,λ_=>rfl⟩;have pf:∀c:Nat,c<5->cJ (w.cl i).bk (c:Int)<+:w.oc c:=λc t=>H.pf i c hi t;have j:=Gr.refl K8 w.ts;unfold ol at r;unfold JQ;dsimp only at r;split at r
 ·rename_i g;rw[ak g,r];exact⟨rfl,a,pf,j⟩
 rename_i u;rw[ae u];have v:bZ b 0:=⟨ac,ac,ac⟩;split at r
 ·rename_i g;rw[ak g,r];exact⟨rfl,a,pf,j⟩
 rename_i g;rw[ae g];split at r
 ·rename_i g;rw[ak g];split at r
  ·rename_i g;rw[ak g,r];exact⟨rfl,a,pf,j⟩
  ·rename_i g;rw[ae g,r];exact⟨rfl,⟨rfl,rfl,rfl,rfl,λ_=>rfl⟩,pf,en8 _ _ _ _ _ _ _⟩
 ·rename_i l;rw[ae l];split at r
  ·rename_i g;rw[ak g,r];exact⟨rfl,a,pf,j⟩
  ·rename_i g;rw[ae g];obtain⟨F,o⟩:=Ic v (aA.1 g);obtain⟨z,f,G,x,J,L,A⟩:=r;obtain⟨p,B,C,D⟩:=S9 h (K l) H s hi o x;rw[A];refine⟨by dsimp only;rw[p],⟨rfl,rfl,rfl,B,λk=>?_⟩,C,?_⟩
   ·show gV (xu _ _ _) _ _=_;unfold xu;split
    ·rename_i q;exact Js (λe=>D q.1 (by have:=(dJ o).1.2.2.1;omega)) k
    ·rfl
   ·dsimp only;rw[p];unfold lcT nE;rw[bN];dsimp only;have E:Gr K8 w.ts (dI (104,[(pl b true (0,0)).1.2.2.2.2.2.1],()) w.ts w.m).2.1:=Nx (k8 bt _) _ _
    repeat' split
    all_goals first|exact j|exact E
variable{y:(Int×Nw)×Wd}
theorem a1c(hi:i<5){z:E9}(e:y=(z.1,fH b i z.1 (w.aft i z.2))):dQ w y.2/\y.2.d=w.d/\y.2.ts=z.2.2.1/\y.2.m=z.2.2.2/\∀j,j<5->y.2.cl j=if j=i then z.2.1 else w.cl j:=by
 subst e;obtain⟨c,f,g⟩:=dl w i z.2;obtain⟨h,l,n,o⟩:=ki b i z.1 (w.aft i z.2);refine⟨c.trans h,?_,l.trans f,n.trans g,λj p=>(o j).trans (qg w hi p z.2)⟩;have a:=(dj w i z.2.1).2.2.2.1;show(fH b i z.1 (w.aft i z.2)).d=w.d;unfold fH;split
 ·exact((mX (w.aft i z.2) (i:Int).toNat _).2.2.2.1).trans a
 ·exact a
theorem a1d(hi:i<5)(b:∀j,j<5->j≠i->w'.cl j=w.cl j)(h:OwS i (w.cl i) (w'.cl i))(c:a<5):w'.oc a=w.oc a/\∀k,w'.ct k a=w.ct k a:=by
 have e:w'.oc a=w.oc a:=by
  unfold Wd.oc;by_cases q:a=i
  ·subst q;exact h.bk
  ·rw[b a c q]
 refine⟨e,λk=>?_⟩;unfold Wd.ct;rw[e];split
 ·rfl
 ·by_cases q:a=i
  ·subst q;exact h.la k
  ·rw[b a c q]
theorem ot(h:Au w md)(H:Hi w md)(C:cU w (n+1))(hi:i<5)(K:(dn b 0 true 0 1 4).1≠1->Ke w md ks)(r:iV w i b y):
 Hi y.2 md/\dQ w y.2/\y.2.d=w.d/\(((y.2.cl i).lg,(y.2.cl i).km),y.2.ts,y.2.m)=JQ (w.cl i) b w.ts w.m/\OwS i (w.cl i) (y.2.cl i)/\∀j,j<5->j≠i->y.2.cl j=w.cl j:=by
 obtain⟨O,a2,P,_⟩:=kW h C (i:=(i:Int)) ac r;obtain⟨z,D,e⟩:=r;rw[aG]at D e;obtain⟨o,Q,E,R,u⟩:=a1c hi e;obtain⟨F,S,U,W⟩:=a1b h H C hi K D;have v:y.2.cl i=z.2.1:=by rw[u i hi,ak rfl]
 have A:∀j,j<5->j≠i->y.2.cl j=w.cl j:=λj s q=>by rw[u j s,ae q]
 have G:OwS i (w.cl i) (y.2.cl i):=by rw[v];exact S
 have f:=λa c=>a1d (w:=w) (w':=y.2) hi A G (a:=a) c;have g:Gr (λt=>gG t/\K8 t) w.ts y.2.ts:=P.both (by rw[E];exact W)
 refine⟨H.ext (md':=md) ⟨o.sec,o.al,λa q=>by rw[o.go];exact q,⟨[],by rw[o.st,aH]⟩,⟨[],by rw[aH]⟩,by rw[o.lg],⟨[],by rw[o.lg,aH]⟩,⟨[],by rw[o.lg,aH]⟩⟩
  (λa c=>by rw[o.go];exact H.go a c) g (λa c=>by rw[(f a c).1];exact List.prefix_refl _) (λk a c=>by rw[(f a c).2];exact bp _)
  (λa c=>by rw[(f a c).1];exact(H.ch a c).gr g) (λj a s c=>?_) (λj s k J=>?_) h.ml (λm l q L=>?_) (λk m x l q B=>?_) (λt q X=>absurd X q.1.1),o,Q,?_,G,A⟩
 ·rw[(f a c).1,u j s];split
  ·exact U a c
  ·exact H.pf j a s c
 ·rw[(f j s).1]at J;have M:=H.ep j s k J;obtain⟨⟨p,hp⟩,_⟩:=O.cl j s;by_cases q:j=i
  ·subst q;refine Int.le_trans M ?_;have:=aI (λz=>z.1.1.2.1.length) F;dsimp only at this;rw[v,this]
   have B:(w.cl j).lg.2.1.length<=(JQ (w.cl j) b w.ts w.m).1.1.2.1.length:=by
    unfold JQ
    repeat' split
    all_goals try exact aE _
    unfold kT;rw[bN];dsimp only;split
    ·exact aE _
    split
    ·exact aE _
    ·rename_i g _;rw[(Nn (aA.1 g)).2.2.2];show _<=(_++[_]).length;rw[aa];omega
   omega
  ·rw[A j s q];exact M
 ·rw[be q]at L;cases L
 ·rcases q.2 with q|⟨Y,n',x',e',q⟩
  ·exact absurd rfl q
  ·have N:[k,m,dp l,x]=[Y,n',eo e',x']:=aI (λt:Tm=>t.2.1) q;simp only[List.cons.injEq,and_true]at N;exact absurd N.2.2.1.symm (zk ⟨B.1,B.2.1⟩)
 ·rw[v,E,R];exact F
structure clR(i:Nat)(c c':Cl):Prop where
 cc:c.c=c'.c
 se:c.se=c'.se
 sg:c.sg=c'.sg
 lg:c.lg=c'.lg
 km:c.km=c'.km
 bk:cJ c.bk (i:Int)=cJ c'.bk (i:Int)
 la:∀k,3<=k->k<=4->gV c.la k (i:Int)=gV c'.la k (i:Int)
structure HR(u v:Wd):Prop where
 sec:u.sec=v.sec
 al:u.al=v.al
 go:u.go=v.go
 d:u.d=v.d
 lg:u.lg=v.lg
 st:u.st=v.st
 ts:py u.ts v.ts
 cl:∀i:Nat,i<5->clR i (u.cl i) (v.cl i)
variable{j ts':List Tm}
theorem a1e{c f:Cl}(R:clR i c f){ts:List Tm}(j:aB c.se)(h:Al 10000 (ts,m) (ts',m')):(JQ c b ts m).1=(JQ f b ts' m').1/\py (JQ c b ts m).2.1 (JQ f b ts' m').2.1:=by
 unfold JQ;rw[<-R.cc,<-R.se,<-R.lg,<-R.km];split
 ·exact⟨rfl,h.al⟩
 rename_i w;have n:bZ b 0:=⟨ac,ac,ac⟩;split
 ·exact⟨rfl,h.al⟩
 split
 ·split
  ·exact⟨rfl,h.al⟩
  ·rename_i g;have l:=((M4 n).2 (aA.1 g)).2;have q:=im l
   obtain⟨x,r,s,t⟩:=a04 (c:=c.c) (se:=c.se) (lg:=c.lg) (km:=c.km) (e:=(jJ b true (0,0)).1) (k:=9900) q (λ_=>by
    unfold iU at l;exact(fT (af l).2.2.2.1).2.1) j h
   have e:∀{a o:Lg}{b p:KM},a=o->b=p->(a,b)=(o,p):=λh u=>by rw[h,u]
   exact⟨e r s,t.al⟩
 split
 ·exact⟨rfl,h.al⟩
 ·rename_i g;have v:=(dJ ((RM n).2 (aA.1 g)).2).2.2.1;unfold lcT;rw[<-R.lg];split
  ·exact⟨rfl,h.al⟩
  split
  ·exact⟨rfl,h.al⟩
  ·exact⟨rfl,(a7g (k:=9999) v h).2.al⟩
theorem HR.al2(R:HR u v)(h:Au u md)(h':Au v md')(b:cU u n)(a:cU v n):Al (10000*n+10000) (u.ts,u.m) (v.ts,v.m):=⟨jF h b,jF h' a,R.ts⟩
theorem HR.recv(R:HR u v)(h:Au u md)(h':Au v md')(H:Hi u md)(w:Hi v md')(q:cU u (n+1))(c:cU v (n+1))(hi:i<5)(K:(dn b 0 true 0 1 4).1≠1->Ke u md ks)(K':(dn b 0 true 0 1 4).1≠1->Ke v md' ks'){p:(Int×Nw)×Wd}(r:iV u i b y)(r':iV v i b p):HR y.2 p.2:=by
 obtain⟨_,f,x,z,g,A⟩:=ot h H q hi K r;obtain⟨_,l,B,C,m,D⟩:=ot h' w c hi K' r';have a:=R.cl i hi;obtain⟨o,t⟩:=a1e (b:=b) a (q.cl i hi).1.2.2.1 ((R.al2 h h' q c).mono ac);rw[<-z,<-C]at o t;have o:((y.2.cl i).lg,(y.2.cl i).km)=((p.2.cl i).lg,(p.2.cl i).km):=o;refine⟨by rw[f.sec,l.sec,R.sec],by rw[f.al,l.al,R.al],by rw[f.go,l.go,R.go],by rw[x,B,R.d],by rw[f.lg,l.lg,R.lg],by rw[f.st,l.st,R.st],t,λj s=>?_⟩;by_cases e:j=i
 ·subst e;exact⟨by rw[g.cc,m.cc,a.cc],by rw[g.se,m.se,a.se],by rw[g.sg,m.sg,a.sg],aI Prod.fst o,aI Prod.snd o,by rw[g.bk,m.bk,a.bk],λk E F=>by rw[g.la,m.la,a.la k E F]⟩
 ·rw[A j s e,D j s e];exact R.cl j s
def Jt(l:Lt)(t:Tm):Prop:=t.1≠98\/∃(k n x:BL),t=(98,[k,n,dp l,x],())
theorem lm8(sec ep:BL)(l:Lt)(x:BL)(ts:List Tm)(m:KV):Gr (Jt l) ts (mT sec ep l x ts m).2.1:=by
 have a:∀{k:BitVec 8},k≠98->∀b,Jt l (k,b,()):=λh b=> .inl h;unfold mT;rw[bN];split
 ·exact Gr.refl _ _
 split
 ·exact Gr.refl _ _
 unfold Qz;dsimp only;have c:Gr (Jt l) ts (cM (107,[ep,jB l],()) ts m).2.1:=Ps (a (k:=107) bt _) _ _;generalize cM (107,[ep,jB l],()) ts m=A at*
 have e:Gr (Jt l) A.2.1 (jp A.1 l.2.2.2.1 (dp l) (fY x).1 A.2.1 A.2.2).2.1:=by
  unfold jp;split
  ·exact Gr.refl _ _
  ·exact Ps (.inr ⟨_,_,_,rfl⟩) _ _
 generalize jp A.1 l.2.2.2.1 (dp l) (fY x).1 A.2.1 A.2.2=B at*;exact((c.trans e).trans (Nx (a (k:=104) bt _) _ _)).trans (Ps (a (k:=103) bt _) _ _)
theorem Ny(h:pD l)(h':pD l')(e:dp l=dp l'):l.1=l'.1/\l.2.1=l'.2.1/\l.2.2.2.1=l'.2.2.2.1:=by
 have:=wN (h:=[]) (h':=[]) h h' (aq _) (aq _) (by rw[e]);exact⟨this.1,this.2.1,this.2.2.2.1⟩
theorem Jt.eq(h:pD l)(h':pD l')(q:Jt l (98,[g,hh,dp l',x],())):l'.1=l.1/\l'.2.1=l.2.1/\l'.2.2.2.1=l.2.2.2.1:=by
 rcases q with q|⟨b,c,e,q⟩
 ·exact absurd rfl q
 ·have a:[g,hh,dp l',x]=[b,c,dp l,e]:=aI (λt:Tm=>t.2.1) q;simp only[List.cons.injEq,and_true]at a;exact Ny h' h a.2.2.1
theorem Ta{la:La}(h:fU la){a n k:Int}(b:a=3\/a=4)(e:0<=c/\c<5)(f:k=3\/k=4):gV (tD la a c n) k c=if k=a then n else gV la k c:=by
 obtain⟨i,l,m,o,p,q,r,s,t,u,rfl⟩:=tE h;obtain⟨j,rfl⟩:=bo e.1;have g:j<5:=ac
 rcases b with rfl|rfl<;>rcases f with rfl|rfl<;>rcases fZ g with rfl|rfl|rfl|rfl|rfl<;>rfl
theorem Tb{la:La}{a:Int}(k:Int)(i:Nat)(j:0<=c):gV la k (i:Int)<=gV (tD la a c (gV la a c+1)) k (i:Int):=by
 by_cases e:c.toNat=i
 ·have b:c=(i:Int):=ac
  subst b;rw[aG]at e;unfold gV tD;rw[aG];by_cases h:(k-3).toNat=(a-3).toNat
  ·rw[h];simp only[aw];rcases br (a-3).toNat la.length with g|g
   ·rw[List.getElem?_set_self g];dsimp only[Option.getD];rw[an g];dsimp only;rcases br i (la[(a-3).toNat]).length with f|f
    ·rw[List.getElem?_set_self f];dsimp only;omega
    ·rw[List.set_eq_of_length_le f];exact bp _
   ·rw[List.set_eq_of_length_le g];exact bp _
  ·simp only[aw];rw[mF (λq=>h q.symm)];exact bp _
 ·rw[Js e];exact bp _
variable{q:La}
theorem a1f{lg:Lg}{km:KM}(h:(lr f x c hh lg q km j m).1.2=0):
 (kS c hh lg km (f,0,0,gV q f c+1,[],[],[],()) x j m).1.2=0/\lr f x c hh lg q km j m=((eV (kS c hh lg km (f,0,0,gV q f c+1,[],[],[],()) x j m).1.1,0),tD q f c (gV q f c+1),(kS c hh lg km (f,0,0,gV q f c+1,[],[],[],()) x j m).2):=by
 unfold lr at h⊢;rw[bN]at h⊢;split at h
 ·rename_i g;exact absurd h g
 rename_i b;rw[ae b];split at h
 ·exact absurd h (by show¬((14:Int)=0);decide)
 rename_i e;rw[ae e];dsimp only at h⊢;split at h
 ·rename_i g;exact absurd h g
 ·rename_i g;exact⟨aA.1 g,ae g⟩
theorem Ju(w:Wd)(hi:i<5)(r:BL×Int):w.wrt i (r,(w.cl i).pg,(w.cl i).bk,w.ts,w.m)=w:=by
 rcases fZ hi with rfl|rfl|rfl|rfl|rfl<;>rfl
theorem mD{α:Type}{l:List α}{x y:α}(a:l.length<=n)(h:(l++[x])[n]?=some y):n=l.length/\y=x:=by
 rw[aJ a]at h
 have b:n-l.length=0:=by
  rcases dP (n-l.length)with u|u
  ·exact u
  ·rw[be eM]at h;cases h
 rw[b]at h;exact⟨ac,(Option.some.inj h).symm⟩
theorem Dz(w:Wd)(b:BL)(n:Int)(c:a<5):(w.keep b n).oc a=w.oc a/\∀k,(w.keep b n).ct k a=w.ct k a:=by
 have e:(w.keep b n).oc a=w.oc a:=by unfold Wd.oc;rw[eL _ _ _ c]
 exact⟨e,λk=>by unfold Wd.ct;rw[e,eL _ _ _ c]⟩
theorem Hi.made{K:Tm->Prop}(h:Au w md)(H:Hi w md)(hi:i<5)(s:dQ w w')(o:jY l=true)(b:l.2.1=(i:Int))(z:∀t,K t->(gG t\/t=(103,[w.se i 1,dp l++tx hh],()))/\Jt l t)
 (g:Gr K w.ts w'.ts) (D:∀a:Nat,a<5->w.oc a<+:w'.oc a) (E:∀(k:Int)(a:Nat),a<5->w.ct k a<=w'.ct k a)
 (F:∀a:Nat,a<5->uE w'.ts (a:Int) (w'.oc a)) (G:∀i a:Nat,i<5->a<5->cJ (w'.cl i).bk (a:Int)<+:w'.oc a) (J:∀i:Nat,i<5->∀k∈w'.oc i,k.2.2.1<=((w'.cl i).lg.2.1.length:Int))
 (L:Nm w'.ts hh (104,[l.2.2.2.2.2.1],())) (M:Nm w'.ts l.2.2.2.2.2.2.1 (103,[w.se i 1,dp l++tx hh],())) (p:l.2.2.2.1<=w'.ct l.1 i) (N:zG w' l) (e:Int):Hi (w'.keep (eV l) e) (md++[((i:Int),true,())]):=by
 have A:=h.ml;have x:eA w (w'.keep (eV l) e) md (md++[((i:Int),true,())]):=⟨s.sec,s.al,λa q=>by show w'.go.getD a false=true;rw[s.go];exact q,⟨[eV l],by show w'.st++_=_;rw[s.st]⟩,⟨_,rfl⟩,by show w'.lg.1=_;rw[s.lg],⟨[],by show w'.lg.2.1=_;rw[s.lg,aH]⟩,⟨[],by show w'.lg.2.2.1=_;rw[s.lg,aH]⟩⟩;have c:=λa b=>Dz w' (eV l) e (a:=a) b;have m:(w'.keep (eV l) e).st=w.st++[eV l]:=by show w'.st++_=_;rw[s.st]
 have r:=(dJ o).1;refine H.ext x (λa b=>by show w'.go.getD a false=false;rw[s.go];exact H.go a b) (g:Gr K w.ts (w'.keep (eV l) e).ts) (λa b=>by rw[(c a b).1];exact D a b) (λk a b=>by rw[(c a b).2];exact E k a b) (λa b=>by rw[(c a b).1];exact F a b) (λj a f b=>by rw[(c a b).1,eL _ _ _ f];exact G j a f b) (λj f=>by rw[(c j f).1,eL _ _ _ f];exact J j f) A (λn u q O B P=>?_) (λk n y u q Q=>?_) (λt q R _=>?_)
 ·obtain⟨C,S⟩:=mD q O;rw[m]at B;obtain⟨_,v⟩:=mD ac B;have:=Ji P o v;subst this;exact N.ext (w:=w') (w':=w'.keep (eV u) e) (Gr.refl (λ_=>True) _) (λa b=>by rw[(c a b).1];exact List.prefix_refl _) (λk a b=>by rw[(c a b).2];exact bp _)
 ·obtain⟨C,S,v⟩:=(z _ q).2.eq r Q;have:u.2.1.toNat=i:=ac
  rw[v,C,this,(c i hi).2];exact p
 ·rcases(z _ q).1 with q|q
  ·exact absurd R q.1
  ·refine .inr ⟨w.st.length,l,i,true,hh,?_,?_,o,hi,?_,L,?_, .inl ⟨rfl,b⟩⟩
   ·rw[m,aJ (aE _)];simp
   ·rw[aJ ac,A];simp
   ·rw[q];unfold Wd.se;rw[x.sec]
   ·rw[q];exact M
theorem Nz(h:Au w md)(H:Hi w md)(E:cU w (n+1))(hi:i<5){b:Int}(B:b=3\/b=4){t:BL}(U:b=4->∃ops,t=jI (w.cl i).bk [] 5++cE ops){z:(BL×Int)×La×List Tm×KV}
 (F:z=lr b t (w.cl i).c (w.cl i).sg (w.cl i).lg (w.cl i).la (w.cl i).km w.ts w.m):
 (z.1.2≠0/\w.told i z=w)\/(z.1.2=0/\∀G,Hi ((w.told i z).keep z.1.1 G) (md++[((i:Int),true,())])):=by
 by_cases y:z.1.2=0
 ·refine .inr ⟨y,?_⟩;rw[F]at y;obtain⟨W,O⟩:=a1f y;rw[<-F]at O;have X:=iD (l0:=(b,0,0,gV (w.cl i).la b (w.cl i).c+1,[],[],[],())) (text:=t) h E hi rfl;have P:=lm8 (w.cl i).sg ((aO .i64 ((w.cl i).lg.2.1.length:Int) (w.cl i).km).getD []) (b,(w.cl i).c,((w.cl i).lg.2.1.length:Int),gV (w.cl i).la b (w.cl i).c+1,[],[],[],()) t w.ts w.m;have Y:kS (w.cl i).c (w.cl i).sg (w.cl i).lg (w.cl i).km (b,0,0,gV (w.cl i).la b (w.cl i).c+1,[],[],[],()) t w.ts w.m=mT (w.cl i).sg ((aO .i64 ((w.cl i).lg.2.1.length:Int) (w.cl i).km).getD []) (b,(w.cl i).c,((w.cl i).lg.2.1.length:Int),gV (w.cl i).la b (w.cl i).c+1,[],[],[],()) t w.ts w.m:=by unfold kS;rw[bN]
  rw[<-Y]at P;generalize kS (w.cl i).c (w.cl i).sg (w.cl i).lg (w.cl i).km (b,0,0,gV (w.cl i).la b (w.cl i).c+1,[],[],[],()) t w.ts w.m=s at*;rcases X with⟨L,_⟩|⟨_,Q,M,R,e4,v,e6,J,K,e9⟩
  ·exact absurd W L
  have a0:=(dJ v.ok).1;have N:=(E.cl i hi).1.2.2.2.1;have x:=(E.cl i hi).2.1;have J:s.1.1.1=b:=J;have K:s.1.1.2.2.2.1=gV (w.cl i).la b (w.cl i).c+1:=K
  have g:Gr (λt=>(gG t\/t=(103,[w.se i 1,dp s.1.1++tx Q],()))/\Jt s.1.1 t) w.ts s.2.1:=by
   refine M.gr.both (P.imp λt C=>?_);rcases C with C|⟨k',n',x',C⟩
   ·exact .inl C
   ·refine .inr ⟨k',n',x',?_⟩;rw[C]
    have:dp (b,(w.cl i).c,((w.cl i).lg.2.1.length:Int),gV (w.cl i).la b (w.cl i).c+1,[],[],[],())=dp s.1.1:=by
     unfold dp;rw[J,K,e9,e6,v.au,x]
    rw[this]
  subst O;clear F y;intro G;obtain⟨a1,a2,a3⟩:=dl w i ({w.cl i with la:=tD (w.cl i).la b (w.cl i).c (gV (w.cl i).la b (w.cl i).c+1)},s.2.1,s.2.2);obtain⟨u,r⟩:∃u,u=w.told i ((eV s.1.1,0),tD (w.cl i).la b (w.cl i).c (gV (w.cl i).la b (w.cl i).c+1),s.2):=⟨_,rfl⟩;have l:u.ts=s.2.1:=by rw[r];exact a2
  have sm:dQ w u:=by rw[r];exact a1
  have o:∀j,j<5->u.cl j=if j=i then{w.cl i with la:=tD (w.cl i).la b (w.cl i).c (gV (w.cl i).la b (w.cl i).c+1)}else w.cl j:=λj p=>by rw[r];exact qh w hi p _
  have A:∀a,a<5->u.oc a=w.oc a:=λa f=>by
   unfold Wd.oc;rw[o a f];split
   ·rename_i e;rw[e]
   ·rfl
  have ct:∀(k:Int)(a:Nat),a<5->w.ct k a<=u.ct k a:=λk a f=>by
   unfold Wd.ct;rw[A a f];split
   ·exact bp _
   ·rw[o a f];split
    ·rename_i e;rw[e];exact Tb k i (by rw[x];omega)
    ·exact bp _
  have D:s.1.1.2.2.2.1<=u.ct s.1.1.1 i:=by
   unfold Wd.ct;rw[J,ae ac,o i hi,ak rfl,K];dsimp only;rw[x,Ta N B ac B,ak rfl];exact bp _
  have gk:=g;rw[<-l]at g;show Hi ((w.told i ((eV s.1.1,0),tD (w.cl i).la b (w.cl i).c (gV (w.cl i).la b (w.cl i).c+1),s.2)).keep (eV s.1.1) G) _;rw[<-r];refine H.made h hi sm v.ok v.au (λt q=>q) g (λa f=>by rw[A a f];exact List.prefix_refl _) ct (λa f=>by rw[A a f];exact(H.ch a f).gr g) (λj a p f=>?_) (λj p k B=>?_) (by rw[l];exact R) (by rw[l];exact e4) D ?_ G
  ·rw[A a f,o j p];split
   ·rename_i e;rw[e]at p;exact H.pf i a p f
   ·exact H.pf j a p f
  ·rw[A j p]at B;have:=H.ep j p k B;rw[o j p];split
   ·rename_i e;rw[e]at this;exact this
   ·exact this
  ·obtain⟨kk,b1,b2⟩:=v.box;refine⟨i,Q,t,hi,v.au,by rw[l];exact R,v.pad,⟨kk,by rw[l];exact b2⟩,D,λq=>ac,λq=>?_⟩;obtain⟨ops,ho⟩:=U ac;refine⟨(w.cl i).bk,ops,ho,λa h0 h5=>?_,λc S=>by rw[A c S];exact H.pf i c hi S⟩;obtain⟨d,rfl⟩:=bo h0;exact((H.ch d ac).pre (H.pf i d hi ac)).gr g
 ·refine .inl ⟨y,?_⟩;rcases wW h E hi F with⟨_,M⟩|⟨L,_⟩
  ·rw[show z=(z.1,z.2)from rfl,M];exact vx w hi z.1
  ·exact absurd L y
def dX(c:Cl):Lt:=(2,0,0,(fe c.bk c.c).2.1+1,(fe c.bk c.c).2.2.1,[],[],())
def dD(w:Wd)(i:Nat)(l:Lt)(x:BL):(Lt×Int)×List Tm×KV:=kS (w.cl i).c (w.cl i).sg (w.cl i).lg (w.cl i).km l x w.ts w.m
def Pv(w:Wd)(i:Nat)(s:(Lt×Int)×List Tm×KV)(p:Pg)(hh:BL):(BL×Int)×Pg×Ln×List Tm×KV:=((eV s.1.1,0),p,pX (gd s.1.1 hh) (w.cl i).bk s.2.1 s.2.2,(gy (gd s.1.1 hh) s.2.1 s.2.2).2)
theorem a7i(h:Au w md)(H:Hi w md)(G:cU w (n+1))(hi:i<5){ops:List Op}{t:Int×Pg}{z:(BL×Int)×Pg×Ln×List Tm×KV}
 (a:z=xr (w.cl i).c (w.cl i).sg (w.cl i).lg (w.cl i).pg (w.cl i).km (w.cl i).bk ops t w.ts w.m):
 (z.1.2≠0/\w.wrt i z=w)\/
 (∃hh,(dD w i (dX (w.cl i)) (cE ops)).1.2=0/\z=Pv w i (dD w i (dX (w.cl i)) (cE ops)) t.2 hh/\Nm (dD w i (dX (w.cl i)) (cE ops)).2.1 hh (104,[(dD w i (dX (w.cl i)) (cE ops)).1.1.2.2.2.2.2.1],())/\(ij (gd (dD w i (dX (w.cl i)) (cE ops)).1.1 hh) (w.cl i).bk (dD w i (dX (w.cl i)) (cE ops)).2.1 (dD w i (dX (w.cl i)) (cE ops)).2.2).1=0):=by
 have p:=(G.cl i hi).2.1
 have err:∀e:Int,e≠0->∀z:(BL×Int)×Pg×Ln×List Tm×KV,z=(([],e),(w.cl i).pg,(w.cl i).bk,w.ts,w.m)->(z.1.2≠0/\w.wrt i z=w):=by
  intro e N z a;subst a;exact⟨N,Ju w hi _⟩
 unfold xr at a;rw[bN]at a;split at a
 ·rename_i g;exact .inl (err _ g z a)
 split at a
 ·exact .inl (err 1 bt z a)
 split at a
 ·exact .inl (err 14 bt z a)
 split at a
 ·rename_i g;exact .inl (err _ g z a)
 dsimp only at a;have v:=iD (l0:=dX (w.cl i)) (text:=cE ops) h G hi rfl;have a:z=if(dD w i (dX (w.cl i)) (cE ops)).1.2≠0 then(([],(dD w i (dX (w.cl i)) (cE ops)).1.2),(w.cl i).pg,(w.cl i).bk,(dD w i (dX (w.cl i)) (cE ops)).2)else RB (dD w i (dX (w.cl i)) (cE ops)).1.1 t.2 (w.cl i).pg (w.cl i).bk (dD w i (dX (w.cl i)) (cE ops)).2.1 (dD w i (dX (w.cl i)) (cE ops)).2.2:=a
 have v:((dD w i (dX (w.cl i)) (cE ops)).1.2≠0/\(dD w i (dX (w.cl i)) (cE ops)).2=(w.ts,w.m))\/_:=v;rcases v with⟨f,b⟩|⟨f,hh,b,o,U,u,J,x,y,A⟩
 ·rw[ak f]at a;exact .inl (err _ f z (by rw[a,b]))
 ·have f:(dD w i (dX (w.cl i)) (cE ops)).1.2=0:=f;have b:Ok _ _ w.ts (dD w i (dX (w.cl i)) (cE ops)).2:=b;have o:Nm (dD w i (dX (w.cl i)) (cE ops)).2.1 hh (104,[(dD w i (dX (w.cl i)) (cE ops)).1.1.2.2.2.2.2.1],()):=o;have u:O2 w (dD w i (dX (w.cl i)) (cE ops)).2.1 i _ _ (dD w i (dX (w.cl i)) (cE ops)).1.1:=u;have J:(dD w i (dX (w.cl i)) (cE ops)).1.1.2.2.1=(w.cl i).lg.2.1.length:=J;have x:(dD w i (dX (w.cl i)) (cE ops)).1.1.1=2:=x;have y:(dD w i (dX (w.cl i)) (cE ops)).1.1.2.2.2.1=(fe (w.cl i).bk (w.cl i).c).2.1+1:=y;have A:(dD w i (dX (w.cl i)) (cE ops)).1.1.2.2.2.2.1=(fe (w.cl i).bk (w.cl i).c).2.2.1:=A;rw[ae (λq=>q f)]at a;generalize dD w i (dX (w.cl i)) (cE ops)=s at*;have B:=(dJ u.ok).1;have r:hh.length=32:=o.len32 oq.1 oq.2
  have O:dI (104,[s.1.1.2.2.2.2.2.1],()) s.2.1 s.2.2=(hh,s.2):=by
   have K:=qa b.su.w o.le;have L:=(ry (k:=10000*(n+1)+8999) b.su (b.su.k.1 _ o.le)).2;rw[K]at L;exact ga (Nm.inj b.su.w L o) K
  have C:nf (gd s.1.1 hh)=true:=zq B x r;have D:(gd s.1.1 hh).1=(i:Int):=u.au
  have E:(fe (w.cl i).bk (w.cl i).c).2.1=((cJ (w.cl i).bk (i:Int)).length:Int):=by
   unfold fe;rw[ae ac,p]
  have P:(gd s.1.1 hh).2.1=((cJ (w.cl i).bk (gd s.1.1 hh).1).length:Int)+1:=by
   rw[D,<-E,<-y];rfl
  have Q:(fe (w.cl i).bk (gd s.1.1 hh).1).2.2.1=(gd s.1.1 hh).2.2.2.1:=by
   rw[D,<-p,<-A];rfl
  have gc:(ij (gd s.1.1 hh) (w.cl i).bk s.2.1 s.2.2).1=0:=by
   by_cases g:(ij (gd s.1.1 hh) (w.cl i).bk s.2.1 s.2.2).1=0
   ·exact g
   ·exfalso;obtain⟨M,F,_⟩:=IR C P Q g;rw[D]at M F;have:=H.ep i hi _ (aV (l:=w.oc i) (z:=kN) (j:=(w.oc i).length-1) (by show(cJ (w.cl i).bk (i:Int)).length-1<_;exact Nat.sub_lt M ac));have F:s.1.1.2.2.1<((w.oc i).getD ((w.oc i).length-1) kN).2.2.1:=F;omega
  refine .inr ⟨hh,f,?_,o,gc⟩;have R:=(Bo gc).2.2.2.2
  have S:kp (gd s.1.1 hh) (w.cl i).bk s.2.1 s.2.2=(0,pX (gd s.1.1 hh) (w.cl i).bk s.2.1 s.2.2,(gy (gd s.1.1 hh) s.2.1 s.2.2).2):=by
   unfold kp;rw[ak gc,R]
  unfold RB at a;dsimp only at a;rw[O]at a;dsimp only at a;have a:z=if(kp (gd s.1.1 hh) (w.cl i).bk s.2.1 s.2.2).1≠0 then(([],(kp (gd s.1.1 hh) (w.cl i).bk s.2.1 s.2.2).1),(w.cl i).pg,(kp (gd s.1.1 hh) (w.cl i).bk s.2.1 s.2.2).2.1,(kp (gd s.1.1 hh) (w.cl i).bk s.2.1 s.2.2).2.2)else((eV s.1.1,0),t.2,(kp (gd s.1.1 hh) (w.cl i).bk s.2.1 s.2.2).2.1,(kp (gd s.1.1 hh) (w.cl i).bk s.2.1 s.2.2).2.2):=a
  rw[S]at a;dsimp only at a;rw[ae (λq=>q rfl)]at a;exact a
variable{C p:Pg}
theorem Tc(h:Au w md)(H:Hi w md)(hw:cU w (n+1))(hi:i<5)(s0:(dD w i (dX (w.cl i)) x).1.2=0)(n1:Nm (dD w i (dX (w.cl i)) x).2.1 hh (104,[(dD w i (dX (w.cl i)) x).1.1.2.2.2.2.2.1],()))
 (gc:(ij (gd (dD w i (dX (w.cl i)) x).1.1 hh) (w.cl i).bk (dD w i (dX (w.cl i)) x).2.1 (dD w i (dX (w.cl i)) x).2.2).1=0) (sz:Int):
 Hi ((w.wrt i (Pv w i (dD w i (dX (w.cl i)) x) p hh)).keep (eV (dD w i (dX (w.cl i)) x).1.1) sz) (md++[((i:Int),true,())]):=by
 have N:=(hw.cl i hi).2.1;have O:=iD (l0:=dX (w.cl i)) (text:=x) h hw hi rfl
 have h8:Gr (Jt (2,(w.cl i).c,((w.cl i).lg.2.1.length:Int),(dX (w.cl i)).2.2.2)) w.ts (dD w i (dX (w.cl i)) x).2.1:=by
  unfold dD kS;rw[bN];exact lm8 _ _ _ _ _ _
 have O:((dD w i (dX (w.cl i)) x).1.2≠0/\(dD w i (dX (w.cl i)) x).2=(w.ts,w.m))\/_:=O;rcases O with⟨e1,B⟩|⟨e1,b,B,C,P,r,M,E,Q,R⟩
 ·exact absurd s0 e1
 have B:Ok (λt=>gG t\/t=(103,[w.se i 1,dp (dD w i (dX (w.cl i)) x).1.1++tx b],())) _ w.ts (dD w i (dX (w.cl i)) x).2:=B;have C:Nm (dD w i (dX (w.cl i)) x).2.1 b (104,[(dD w i (dX (w.cl i)) x).1.1.2.2.2.2.2.1],()):=C;have P:Nm (dD w i (dX (w.cl i)) x).2.1 (dD w i (dX (w.cl i)) x).1.1.2.2.2.2.2.2.1 (103,[w.se i 1,dp (dD w i (dX (w.cl i)) x).1.1++tx b],()):=P;have r:O2 w (dD w i (dX (w.cl i)) x).2.1 i _ x (dD w i (dX (w.cl i)) x).1.1:=r;have M:(dD w i (dX (w.cl i)) x).1.1.2.2.1=(w.cl i).lg.2.1.length:=M;have E:(dD w i (dX (w.cl i)) x).1.1.1=2:=E;have Q:(dD w i (dX (w.cl i)) x).1.1.2.2.2.1=(dX (w.cl i)).2.2.2.1:=Q;have R:(dD w i (dX (w.cl i)) x).1.1.2.2.2.2.1=(dX (w.cl i)).2.2.2.2.1:=R;generalize dD w i (dX (w.cl i)) x=s at*;have eh:b=hh:=Nm.inj B.su.w C n1;subst eh;have S:=(dJ r.ok).1;have F:b.length=32:=C.len32 oq.1 oq.2;have U:nf (gd s.1.1 b)=true:=zq S E F
 have W:Jm s.2.1 (w.cl i).bk:=λa h0 h5=>by
  obtain⟨d,rfl⟩:=bo h0;exact((H.ch d ac).pre (H.pf i d hi ac)).gr B.gr
 have S1:Su (10000*(n+1)+8999+1) s.2.1 s.2.2:=B.su;obtain⟨f1,kn,f2,f3,f4,X⟩:=a06 S1 W gc;have hd:=OP (lk:=gd s.1.1 b) S1
 have G:Gr (λt=>gG t/\Jt s.1.1 t) s.2.1 (gy (gd s.1.1 b) s.2.1 s.2.2).2.1:=by
  unfold gy;rw[ak U];exact Nx ⟨Io _, .inl (by show(104:BitVec 8)≠98;decide)⟩ _ _
 have g:Gr (λt=>(gG t\/t=(103,[w.se i 1,dp s.1.1++tx b],()))/\Jt s.1.1 t) w.ts (gy (gd s.1.1 b) s.2.1 s.2.2).2.1:=by
  refine(B.gr.both (h8.imp λt z=>?_)).trans (G.imp λt z=>⟨.inl z.1,z.2⟩);rcases z with z|⟨k',n',x',z⟩
  ·exact .inl z
  ·refine .inr ⟨k',n',x',?_⟩;rw[z]
   have:dp (2,(w.cl i).c,((w.cl i).lg.2.1.length:Int),(dX (w.cl i)).2.2.2)=dp s.1.1:=by
    unfold dp;rw[E,Q,R,M,r.au,N]
   rw[this]
 have el:(gd s.1.1 b).1=(i:Int):=r.au;rw[el]at X
 have A:s.1.1.2.2.2.1=((w.oc i).length:Int)+1:=by
  have:=(Bo gc).2.1;rw[el]at this;exact this
 obtain⟨a1,a2,a3⟩:=dl w i ({w.cl i with pg:=p,bk:=pX (gd s.1.1 b) (w.cl i).bk s.2.1 s.2.2},(gy (gd s.1.1 b) s.2.1 s.2.2).2.1,(gy (gd s.1.1 b) s.2.1 s.2.2).2.2);obtain⟨l,u⟩:∃l,l=w.wrt i (Pv w i s p b):=⟨_,rfl⟩;have Y:l.ts=(gy (gd s.1.1 b) s.2.1 s.2.2).2.1:=by rw[u];exact a2
 have sm:dQ w l:=by rw[u];exact a1
 have o:∀j,j<5->l.cl j=if j=i then{w.cl i with pg:=p,bk:=pX (gd s.1.1 b) (w.cl i).bk s.2.1 s.2.2}else w.cl j:=λj v=>by rw[u];exact nH w hi v _
 have D:∀a,a<5->l.oc a=if a=i then w.oc i++[kn]else w.oc a:=λa f=>by
  unfold Wd.oc;rw[o a f];by_cases e:a=i
  ·rw[ak e,ak e];dsimp only;rw[X,ak ac]
  ·rw[ae e,ae e]
 have y:∀a,a<5->w.oc a<+:l.oc a:=λa f=>by
  rw[D a f];split
  ·rename_i e;rw[e];exact List.prefix_append _ _
  ·exact List.prefix_refl _
 have ct:∀(k:Int)(a:Nat),a<5->w.ct k a<=l.ct k a:=λk a f=>by
  unfold Wd.ct;split
  ·have:=(y a f).length_le;omega
  ·rw[o a f];split
   ·rename_i e;rw[e];exact bp _
   ·exact bp _
 have J:s.1.1.2.2.2.1<=l.ct s.1.1.1 i:=by
  unfold Wd.ct;rw[E,ak rfl,D i hi,ak rfl,aa,A];show _<=(((w.oc i).length+1:Nat):Int);omega
 have K:=G;rw[<-Y]at g K f1 f4;rw[<-u]
 have a0:∀a:Nat,a<5->uE l.ts (a:Int) (l.oc a):=λa f=>by
  by_cases e:a=i
  ·have:=f1 (a:Int) ac ac;unfold Wd.oc;rw[o a f,ak e];exact this
  ·rw[D a f,ae e];exact(H.ch a f).gr g
 refine H.made h hi sm r.ok r.au (λt q=>q) g y ct a0 (λj a v f=>?_) (λj v k L=>?_) (K.nm C) (K.nm P) J ?_ sz
 ·rw[o j v];split
  ·rename_i e;dsimp only;rw[X];split
   ·rename_i q;have:a=i:=ac
    subst this;rw[D a f,ak rfl];exact List.prefix_refl _
   ·exact(H.pf i a hi f).trans (y a f)
  ·exact(H.pf j a v f).trans (y a f)
 ·rw[D j v]at L;rw[o j v];by_cases e:j=i
  ·subst e;rw[ak rfl]at L⊢;rcases ba.1 L with q|q
   ·exact H.ep j v k q
   ·rw[bV.1 q,f3];show s.1.1.2.2.1<=_;rw[M];exact bp _
  ·rw[ae e]at L⊢;exact H.ep j v k L
 ·obtain⟨kk,b1,b2⟩:=r.box;refine⟨i,b,x,hi,r.au,K.nm C,r.pad,⟨kk,K.nm b2⟩,J,λ_=>⟨kn,?_,f2,f3,f4⟩,λq=>ac⟩;rw[D i hi,ak rfl,A,show((w.oc i).length:Int)+1-1=((w.oc i).length:Int)by omega,aG,aJ (aE _)];simp
theorem a7j{ts:List Tm}(h:Al (k+4) (ts,m) (ts',m'))(h0:(mT key ep l x ts m).1.2=0)(a:(mT key ep l b ts' m').1.2=0)(L:(fY x).1.length=(fY b).1.length)
 (f:∀k n y,((98,[k,n,dp l,y],()):Tm)∉ts) (M:∀k n y,((98,[k,n,dp l,y],()):Tm)∉ts'):
 (mT key ep l x ts m).1=(mT key ep l b ts' m').1/\Al k (mT key ep l x ts m).2 (mT key ep l b ts' m').2:=by
 unfold mT at h0 a⊢;rw[bN]at h0 a⊢;rw[bN];split at h0
 ·exact absurd h0 (by show¬((1:Int)=0);decide)
 rename_i c;rw[ae c]at a⊢;rw[ae c];split at h0
 ·rename_i g;exact absurd h0 g
 rename_i D;rw[ae D];split at a
 ·rename_i g;exact absurd a g
 rename_i E;rw[ae E];rw[not_or,not_or]at c;have j:pD l:=by have:=c.2.2;rw[bR]at this;exact af this
 have o:ep.length=32:=aA.1 c.2.1;have F:=kV (aA.1 D);have p:=kV (aA.1 E);have hh:=mi l;have v1:=bC l.1;have v2:=bC l.2.1;have h2:=j.2.2.2.2.2.2.2.2;unfold Qz;dsimp only;have r:eB (107,[ep,jB l],()):=xp (k:=107) bt bt (show aB ep by unfold aB;omega) (show aB (jB l)by unfold aB jB;simp;omega);obtain⟨N,G⟩:=xe (k:=k+3) h r (mC (by show(107:BitVec 8)≠98;decide));have H:=zl (k:=k+3) h.su r;have s:=zl (k:=k+3) h.su' r;have O:=H.2 o;generalize cM (107,[ep,jB l],()) ts m=A at*;generalize cM (107,[ep,jB l],()) ts' m'=e at*;have i:=O.len32 TW.1 TW.2;have P:aB A.1:=hK
 have Q:aB (dp l):=hK
 have R:Fa (98,[A.1,dB l.2.2.2.1,dp l,(fY x).1],()) (98,[A.1,dB l.2.2.2.1,dp l,(fY b).1],()):= .inr ⟨_,_,l,_,_,j,rfl,rfl,L⟩;have u:∀y:BL,y.length<=4096->eB (98,[A.1,dB l.2.2.2.1,dp l,y],()):=λy hy=>V8 P (by unfold aB;rw[eK];omega) Q hK
 have fr:∀y,((98,[A.1,dB l.2.2.2.1,dp l,y],()):Tm)∉A.2.1:=λy q=>by
  rcases H.1.gr.old q with q|q
  ·exact f _ _ _ q
  ·exact absurd (aI (λt:Tm=>t.1) q) (by show¬((98:BitVec 8)=107);decide)
 have v:∀y,((98,[A.1,dB l.2.2.2.1,dp l,y],()):Tm)∉e.2.1:=λy q=>by
  rcases s.1.gr.old q with q|q
  ·exact M _ _ _ q
  ·exact absurd (aI (λt:Tm=>t.1) q) (by show¬((98:BitVec 8)=107);decide)
 have J:∀(y:BL)(z:List Tm×KV),jp A.1 l.2.2.2.1 (dp l) y z.1 z.2=dI (98,[A.1,dB l.2.2.2.1,dp l,y],()) z.1 z.2:=λy z=>by
  unfold jp cM;rw[ae (by have:=j.2.2.2.2.2.2.1;omega)];exact ak i
 rw[<-N,J _ A.2,J _ e.2];obtain⟨S,K⟩:=a7c (k:=k+2) (m:=A.2.2) (m':=e.2.2) G (u _ F.2.1) (u _ p.2.1) R (fr _) (v _);have bB:=(ry (k:=k+2) G.su (u _ F.2.1)).2.len98;generalize dI (98,[A.1,dB l.2.2.2.1,dp l,(fY x).1],()) A.2.1 A.2.2=B at*;generalize dI (98,[A.1,dB l.2.2.2.1,dp l,(fY b).1],()) e.2.1 e.2.2=w at*;rw[<-S];have tB:eB (104,[B.1],()):=ja bt bt hK;obtain⟨U,W⟩:=zF (k:=k+1) (m:=B.2.2) (m':=w.2.2) K tB (mC (by show(104:BitVec 8)≠98;decide));have bH:=(ry (k:=k+1) K.su tB).2.len32 oq.1 oq.2;generalize dI (104,[B.1],()) B.2.1 B.2.2=C at*;generalize dI (104,[B.1],()) w.2.1 w.2.2=X at*;rw[<-U];have tl:=eC C.1;have sl:key.length=32:=aA.1 c.1;obtain⟨Y,u2⟩:=xe (t:=(103,[key,dp l++tx C.1],())) (k:=k) (m:=C.2.2) (m':=X.2.2) W (xp bt bt hK (by unfold aB;simp only[aa];omega)) (mC (by show(103:BitVec 8)≠98;decide));exact⟨by rw[Y],u2⟩
theorem a1g(h0:(mT b ep l x j m).1.2=0):pD l:=by
 unfold mT at h0;rw[bN]at h0;split at h0
 ·exact absurd h0 (by show¬((1:Int)=0);decide)
 rename_i a;rw[not_or,not_or]at a;have:=a.2.2;rw[bR]at this;exact af this
theorem fresh(H:Hi w md)(a:pD l)(b:l.2.1=(i:Int))(c:w.ct l.1 i<l.2.2.2.1)(k n y:BL):((98,[k,n,dp l,y],()):Tm)∉w.ts:=λq=>by
 have:=H.nw k n y l q a;rw[b,aG]at this;omega
theorem HR.sn(R:HR u v)(h:Au u md)(h':Au v md')(H:Hi u md)(o:Hi v md')(l:cU u (n+1))(g:cU v (n+1))(hi:i<5)
 (f:(dD u i l0 x).1.2=0) (a:(dD v i l0 e).1.2=0) (p:(fY x).1.length=(fY e).1.length) (q:u.ct l0.1 i<l0.2.2.2.1) (j:v.ct l0.1 i<l0.2.2.2.1):
 (dD u i l0 x).1=(dD v i l0 e).1/\Al (10000*(n+1)+9000) (dD u i l0 x).2 (dD v i l0 e).2:=by
 have c:=R.cl i hi;have b:=(l.cl i hi).2.1;unfold dD kS at f a⊢;rw[bN]at f a⊢;rw[bN];rw[<-c.cc,<-c.sg,<-c.lg,<-c.km]at a⊢;have m:=a1g f;exact a7j ((R.al2 h h' l g).mono ac) f a p (fresh H m b q) (fresh o m b j)
theorem a7k{lk:Lk}(h:Al (k+1) (j,m) (ts',m')):(gy lk j m).1=(gy lk ts' m').1/\Al k (gy lk j m).2 (gy lk ts' m').2:=by
 unfold gy;split
 ·rename_i g;exact zF h (ja (k:=104) bt bt (by have:=pa g;unfold aB;omega)) (mC (by show(104:BitVec 8)≠98;decide))
 ·exact⟨rfl,h.mono ac⟩
theorem Jv(w:Wd)(i:Nat)(z:(BL×Int)×La×List Tm×KV):(w.told i z).d=w.d:=(dj w i _).2.2.2.1
theorem Pw(w:Wd)(i:Nat)(z:(BL×Int)×Pg×Ln×List Tm×KV):(w.wrt i z).d=w.d:=(dj w i _).2.2.2.1
theorem HR.keep(R:HR u v)(s:dQ u u')(s':dQ v v')(f:u'.d=u.d)(a:v'.d=v.d)(ts:py u'.ts v'.ts)(g:∀i:Nat,i<5->clR i (u'.cl i) (v'.cl i))(b:BL)(h c:Int):HR (u'.keep b h) (v'.keep b c):=
 ⟨by show u'.sec=v'.sec;rw[s.sec,s'.sec,R.sec],by show u'.al=v'.al;rw[s.al,s'.al,R.al],by show u'.go=v'.go;rw[s.go,s'.go,R.go],by show u'.d=v'.d;rw[f,a,R.d],by show u'.lg=v'.lg;rw[s.lg,s'.lg,R.lg],by show u'.st++[b]=v'.st++[b];rw[s.st,s'.st,R.st],ts,λi e=>by rw[eL _ _ _ e,eL _ _ _ e];exact g i e⟩
def mE(a:Int)(w:Wd)(i:Nat):Lt:=(a,0,0,gV (w.cl i).la a (w.cl i).c+1,[],[],[],())
def NA(a:Int)(w:Wd)(i:Nat)(s:(Lt×Int)×List Tm×KV):(BL×Int)×La×List Tm×KV:=((eV s.1.1,0),tD (w.cl i).la a (w.cl i).c (gV (w.cl i).la a (w.cl i).c+1),s.2)
theorem HR.told(R:HR u v)(h:Au u md)(h':Au v md')(H:Hi u md)(D:Hi v md')(r:cU u (n+1))(m:cU v (n+1))(hi:i<5)(A:f=3\/f=4)
 (E:(dD u i (mE f u i) x).1.2=0) (q:(dD v i (mE f v i) g).1.2=0) (F:(fY x).1.length=(fY g).1.length):
 (dD u i (mE f u i) x).1.1=(dD v i (mE f v i) g).1.1/\∀b s o,HR ((u.told i (NA f u i (dD u i (mE f u i) x))).keep b s) ((v.told i (NA f v i (dD v i (mE f v i) g))).keep b o):=by
 have c:=R.cl i hi;have p:=(r.cl i hi).2.1;have l:=(m.cl i hi).2.1;have t:gV (u.cl i).la f (i:Int)=gV (v.cl i).la f (i:Int):=c.la f ac ac;have e:mE f v i=mE f u i:=by unfold mE;rw[p,l,t]
 rw[e]at q⊢;have B:∀w:Wd,w.ct f i=gV (w.cl i).la f (i:Int):=λw=>ae ac;have C:(mE f u i).2.2.2.1=gV (u.cl i).la f (i:Int)+1:=by unfold mE;rw[p]
 obtain⟨G,J⟩:=R.sn h h' H D r m hi E q F (by rw[C,show(mE f u i).1=f from rfl,B];omega) (by rw[C,show(mE f u i).1=f from rfl,B,<-t];omega);refine⟨by rw[G],λb s o=>?_⟩;have a:=dl u i ({u.cl i with la:=(NA f u i (dD u i (mE f u i) x)).2.1},(dD u i (mE f u i) x).2.1,(dD u i (mE f u i) x).2.2);have K:=dl v i ({v.cl i with la:=(NA f v i (dD v i (mE f u i) g)).2.1},(dD v i (mE f u i) g).2.1,(dD v i (mE f u i) g).2.2);refine R.keep (u':=u.told i (NA f u i (dD u i (mE f u i) x))) (v':=v.told i (NA f v i (dD v i (mE f u i) g))) a.1 K.1 (Jv _ _ _) (Jv _ _ _) J.al (λj y=>?_) b s o;rw[qh _ hi y,qh _ hi y];by_cases z:j=i
 ·subst z;rw[ak rfl,ak rfl];refine⟨c.cc,c.se,c.sg,c.lg,c.km,c.bk,λk L M=>?_⟩;show gV (tD _ _ _ _) _ _=gV (tD _ _ _ _) _ _;rw[p,l,Ta (r.cl j hi).1.2.2.2.1 A ac ac,Ta (m.cl j hi).1.2.2.2.1 A ac ac,t,c.la k L M]
 ·rw[ae z,ae z];exact R.cl j y
theorem a1h{bk b:Ln}(h:cJ bk c=cJ b c):fe bk c=fe b c:=by unfold fe xm;rw[h]
theorem HR.wrt(R:HR u v)(h:Au u md)(h':Au v md')(H:Hi u md)(P:Hi v md')(B:cU u (n+1))(s:cU v (n+1))(hi:i<5)
 (K:(dD u i (dX (u.cl i)) x).1.2=0) (t:(dD v i (dX (v.cl i)) g).1.2=0) (Q:(fY x).1.length=(fY g).1.length)
 (S:Nm (dD u i (dX (u.cl i)) x).2.1 hh (104,[(dD u i (dX (u.cl i)) x).1.1.2.2.2.2.2.1],())) (q:Nm (dD v i (dX (v.cl i)) g).2.1 ep (104,[(dD v i (dX (v.cl i)) g).1.1.2.2.2.2.2.1],())):
 (dD u i (dX (u.cl i)) x).1.1=(dD v i (dX (v.cl i)) g).1.1/\∀b D r,HR ((u.wrt i (Pv u i (dD u i (dX (u.cl i)) x) p hh)).keep b D) ((v.wrt i (Pv v i (dD v i (dX (v.cl i)) g) C ep)).keep b r):=by
 have c:=R.cl i hi;have y:=(B.cl i hi).2.1;have A:=(s.cl i hi).2.1;have e:dX (v.cl i)=dX (u.cl i):=by unfold dX;rw[y,A,a1h c.bk]
 rw[e]at t q⊢
 have L:(dX (u.cl i)).2.2.2.1=((cJ (u.cl i).bk (i:Int)).length:Int)+1:=by
  unfold dX fe;rw[ae ac,y]
 have M:∀w:Wd,w.ct 2 i=((cJ (w.cl i).bk (i:Int)).length:Int):=λw=>ak rfl;obtain⟨N,E⟩:=R.sn h h' H P B s hi K t Q (by rw[L,show(dX (u.cl i)).1=2 from rfl,M];omega) (by rw[L,show(dX (u.cl i)).1=2 from rfl,M,<-c.bk];omega);refine⟨by rw[N],λb D r=>?_⟩
 have F:(dD u i (dX (u.cl i)) x).1.1.2.1=(i:Int):=by
  rcases iD (l0:=dX (u.cl i)) (text:=x) h B hi rfl with⟨U,_⟩|⟨_,_,_,_,_,W,_⟩
  ·exact absurd K U
  ·exact W.au
 have O:(dD v i (dX (u.cl i)) g).1.1=(dD u i (dX (u.cl i)) x).1.1:=by rw[N]
 rw[O]at q;unfold Pv;rw[O];generalize(dD u i (dX (u.cl i)) x).1.1=l at*;generalize(dD u i (dX (u.cl i)) x).2=z at*;generalize(dD v i (dX (u.cl i)) g).2=f at*;have X:hh=ep:=Nm.inj E.su'.w (E.al.nmP (mC oq.1) S) q;subst X;obtain⟨Y,d2⟩:=a7k (lk:=gd l hh) (k:=10000*(n+1)+8999) (m:=z.2) (m':=f.2) E;have a:=dl u i ({u.cl i with pg:=p,bk:=pX (gd l hh) (u.cl i).bk z.1 z.2},(gy (gd l hh) z.1 z.2).2.1,(gy (gd l hh) z.1 z.2).2.2);have a':=dl v i ({v.cl i with pg:=C,bk:=pX (gd l hh) (v.cl i).bk f.1 f.2},(gy (gd l hh) f.1 f.2).2.1,(gy (gd l hh) f.1 f.2).2.2);refine R.keep (u':=u.wrt i ((eV l,0),p,pX (gd l hh) (u.cl i).bk z.1 z.2,(gy (gd l hh) z.1 z.2).2)) (v':=v.wrt i ((eV l,0),C,pX (gd l hh) (v.cl i).bk f.1 f.2,(gy (gd l hh) f.1 f.2).2)) a.1 a'.1 (Pw _ _ _) (Pw _ _ _) d2.al (λj G=>?_) b D r;rw[nH _ hi G,nH _ hi G];by_cases J:j=i
 ·subst J;rw[ak rfl,ak rfl];refine⟨c.cc,c.se,c.sg,c.lg,c.km,?_,c.la⟩;dsimp only;unfold pX;rw[kO,kO,ak (show(j:Int)=(gd l hh).1 from F.symm),ak (show(j:Int)=(gd l hh).1 from F.symm),Y,show(gd l hh).1=(j:Int)from F,c.bk]
 ·rw[ae J,ae J];exact R.cl j G
theorem Px(K:Ke w md ks)(hi:i<5)(g:w'.ky i=w.ky i)(e:Su 1 w'.ts w'.m)(b:O2 w w'.ts i ((aO .i64 ((w.cl i).lg.2.1.length:Int) (w.cl i).km).getD []) x l)(f:l.2.2.1=(w.cl i).lg.2.1.length):Dd w' i (eV l)=(x.length:Int):=by
 obtain⟨a,h,_⟩:=Ir b.ok;obtain⟨j,n,o⟩:=Pn e.w (by have:=e.k.2;omega) e.k.1;obtain⟨t,u,p⟩:=b.box;have q:Su (0+1) w'.ts j:=⟨o,e.k⟩
 have r:(aO .i64 l.2.2.1 (w.ky i)).isSome=true:=by
  rw[K.eq i hi,f];have c:=b.key;cases s:aO Ty.i64 ((w.cl i).lg.2.1.length:Int) (w.cl i).km with
  |none=>rw[s]at c;cases c
  |some v=>rfl
 have:=Pt (md:=md) (k:=0) q (K.ky i hi) b.ok (BE (K.km i hi) b f) r b.pad p;unfold Dd;rw[h,n,g];dsimp only;rw[this]
def NB(w:Wd)(i:Nat)(k:Int)(x:BL)(l:Lt)(w':Wd):Prop:=
 (∃a:Int,(a=3/\k=4\/a=4/\k=5)/\(dD w i (mE a w i) x).1.2=0/\l=(dD w i (mE a w i) x).1.1/\w'=w.told i (NA a w i (dD w i (mE a w i) x)))\/
 (k≠4/\k≠5/\∃(p:Pg)(b:BL),(dD w i (dX (w.cl i)) x).1.2=0/\l=(dD w i (dX (w.cl i)) x).1.1/\Nm (dD w i (dX (w.cl i)) x).2.1 b (104,[(dD w i (dX (w.cl i)) x).1.1.2.2.2.2.2.1],())/\w'=w.wrt i (Pv w i (dD w i (dX (w.cl i)) x) p b))
variable{o s:jt}
theorem Py(h:Au w md)(K:Ke w md ks)(H:Hi w md)(A:cU w (n+1))(hi:i<5){r:(BL×Int)×Wd}(q:vw w i s r):
 (r.1.2≠0/\r.2=w)\/∃(x:BL)(l:Lt),(fY x).2=0/\r.1=(eV l,0)/\(∀E,Hi (r.2.keep (eV l) E) (md++[((i:Int),true,())]))/\Dd r.2 i (eV l)=(x.length:Int)/\NB w i s.1 x l r.2:=by
 have told:∀{a:Int}{t:BL}{z:(BL×Int)×La×List Tm×KV},(a=3/\s.1=4\/a=4/\s.1=5)->(a=4->∃j,t=jI (w.cl i).bk [] 5++cE j)->z=lr a t (w.cl i).c (w.cl i).sg (w.cl i).lg (w.cl i).la (w.cl i).km w.ts w.m->r=(z.1,w.told i z)->
  (r.1.2≠0/\r.2=w)\/∃(x:BL)(l:Lt),(fY x).2=0/\r.1=(eV l,0)/\(∀E,Hi (r.2.keep (eV l) E) (md++[((i:Int),true,())]))/\Dd r.2 i (eV l)=(x.length:Int)/\NB w i s.1 x l r.2:=by
  intro a t z N S f v;rcases Nz h H A hi (N.imp (·.1) (·.1)) S f with⟨B,C⟩|⟨B,C⟩
  ·rw[v];exact .inl ⟨B,C⟩
  ·have O:=B;rw[f]at O;obtain⟨g,y⟩:=a1f O;rw[<-f]at y;have g:(dD w i (mE a w i) t).1.2=0:=g;have y:z=NA a w i (dD w i (mE a w i) t):=y;have o:=iD (l0:=mE a w i) (text:=t) h A hi rfl;have o:((dD w i (mE a w i) t).1.2≠0/\(dD w i (mE a w i) t).2=(w.ts,w.m))\/_:=o;rcases o with⟨F,_⟩|⟨_,D,u,U,W,b,G,X,Y,c9⟩
   ·exact absurd g F
   subst y;subst v;refine .inr ⟨t,_,b.pad,rfl,C,?_, .inl ⟨a,N,g,rfl,rfl⟩⟩;obtain⟨a1,a2,a3⟩:=dl w i ({w.cl i with la:=(NA a w i (dD w i (mE a w i) t)).2.1},(dD w i (mE a w i) t).2.1,(dD w i (mE a w i) t).2.2);have u:Ok _ _ w.ts (dD w i (mE a w i) t).2:=u;exact Px K hi (tO w i _ hi) (by show Su 1 (dD w i (mE a w i) t).2.1 (dD w i (mE a w i) t).2.2;exact u.su.mono ac) b G
 unfold vw at q;split at q
 ·rename_i J;obtain⟨j,z,f,v⟩:=q;exact told (.inr ⟨rfl,J⟩) (λ_=>⟨j,rfl⟩) f v
 split at q
 ·rename_i L;obtain⟨t,z,f,v⟩:=q;exact told (.inl ⟨rfl,L⟩) (λe=>absurd e bt) f v
 ·rename_i J L;obtain⟨p,l,e,h1,h2,⟨P,rfl⟩|⟨P,Q,z,a0,f,rfl⟩⟩:=q
  ·exact .inl ⟨P,rfl⟩
  ·rcases a7i h H A hi f with⟨B,C⟩|⟨D,g,y,R,gc⟩
   ·exact .inl ⟨B,C⟩
   ·have o:=iD (l0:=dX (w.cl i)) (text:=cE l) h A hi rfl;have o:((dD w i (dX (w.cl i)) (cE l)).1.2≠0/\(dD w i (dX (w.cl i)) (cE l)).2=(w.ts,w.m))\/_:=o;rcases o with⟨F,_⟩|⟨_,h2,u,U,W,b,G,X,Y,c9⟩
    ·exact absurd g F
    have u:Ok _ _ w.ts (dD w i (dX (w.cl i)) (cE l)).2:=u;have b:O2 w (dD w i (dX (w.cl i)) (cE l)).2.1 i _ (cE l) (dD w i (dX (w.cl i)) (cE l)).1.1:=b;subst y;refine .inr ⟨cE l,_,b.pad,rfl,Tc h H A hi g R gc,?_, .inr ⟨L,J,Q.2,D,g,rfl,R,rfl⟩⟩;have M:=OP (lk:=gd (dD w i (dX (w.cl i)) (cE l)).1.1 D) (k:=10000*(n+1)+8999) (show Su (10000*(n+1)+8999+1) (dD w i (dX (w.cl i)) (cE l)).2.1 (dD w i (dX (w.cl i)) (cE l)).2.2 from u.su);obtain⟨kk,b1,b2⟩:=b.box;exact Px (w':=w.wrt i (Pv w i (dD w i (dX (w.cl i)) (cE l)) Q.2 D)) K hi (tO w i _ hi) (M.su.mono ac) ⟨b.ok,b.au,b.key,b.pad,kk,M.gr.nm b1,M.gr.nm b2⟩ G
theorem HR.tl(R:HR u v)(h:Au u md)(h':Au v md')(H:Hi u md)(t:Hi v md')(w:cU u (n+1))(c:cU v (n+1))(hi:i<5){k:Int}
 (q:NB u i k x l u') (B:NB v i k hh l' v') (z:(fY x).1.length=(fY hh).1.length):l=l'/\∀b C f,HR (u'.keep b C) (v'.keep b f):=by
 rcases q with⟨e,A,g,j,m⟩|⟨J,A,p,K,g,j,m,D⟩<;>rcases B with⟨a,E,o,r,s⟩|⟨L,E,M,F,o,r,s,G⟩
 ·have:a=e:=ac
  subst this;subst j m r s;exact R.told h h' H t w c hi (A.imp (·.1) (·.1)) g o z
 ·omega
 ·omega
 ·subst j D r G;exact R.wrt h h' H t w c hi g o z m s
def Td(u v:Wd):Prop:=(∃a:Nat,a<5/\u.go.getD a false=true)\/∃(n:Nat)(a b:Int),u.ln[n]?=some a/\v.ln[n]?=some b/\(eY a).1≠(eY b).1
theorem HR.spk(R:HR u v)(h:Au u md)(h':Au v md')(K:Ke u md ks)(K':Ke v md' ks')(H:Hi u md)(G:Hi v md')(J:cU u (n+1))(j:cU v (n+1))(N:o.1=s.1)(O:o.2.1=s.2.1)(Y:1<=s.1/\s.1<=5)
 {z p:zn} (r:jG u s z) (r':jG v o p) (w:z.1.1=p.1.1):Td z.2 p.2\/HR z.2 p.2/\Hi z.2 (px md s (jh z))/\Hi p.2 (px md' o (jh p)):=by
 have c:∀{a b:Int×Int},a.2=0->b.2=0->HR u v/\Hi u (px md s (jh (a,u)))/\Hi v (px md' o (jh (b,v))):=λha hb=>⟨R,by rw[eS ha];exact H,by rw[eS hb];exact G⟩;unfold jG at r r';rw[O,<-R.st,<-R.go]at r';split at r
 ·rename_i g;rw[ak g]at r';rw[r,r'];exact .inr (c rfl rfl)
 rename_i no;rw[ae no]at r';rw[not_or,not_or]at no;split at r
 ·rename_i g;rw[ak g]at r';rw[r,r'];exact .inr (c rfl rfl)
 rename_i g;rw[ae g]at r';obtain⟨q,P,rfl⟩:=r;obtain⟨Q,y,rfl⟩:=r';obtain⟨i,L⟩:=bo (Int.not_lt.1 no.1);have ei:s.2.1.toNat=i:=by rw[L,aG]
 have m:i<5:=by
  have q:=Int.not_le.1 no.2.1;rw[L]at q;exact Int.ofNat_lt.1 q
 rw[ei]at P y w⊢;have S:∀t:jt,t.1=s.1->t.2.1=s.2.1->np t=((i:Int),true,()):=λt h1 h2=>by unfold np;rw[h1,ak Y,h2,L]
 have C:∀(f:Wd)(e:BL×Int),e.2≠0->kj f i e=((e.2,0),f):=λf e h=>ak h;have D:∀(f:Wd)(l:Lt),kj f i (eV l,0)=ub f (eV l) (Dd f i (eV l)):=λf l=>ae (λq=>q rfl);rcases Py h K H J m P with⟨A,E⟩|⟨x,l,A,E,a3,a4,U⟩<;>rcases Py h' K' G j m y with⟨B,F⟩|⟨W,l',B,F,b3,b4,M⟩
 ·rw[C _ _ A,C _ _ B,E,F];exact .inr (c rfl rfl)
 ·rw[C _ _ A,F,D]at w;exact absurd w A
 ·rw[C _ _ B,E,D]at w;exact absurd w.symm B
 ·rw[E,F,D,D];rw[oo,oo,S s rfl rfl,S o N O,a4,b4];by_cases g:(fY x).1.length=(fY W).1.length
  ·obtain⟨q1,q2⟩:=R.tl h h' H G J j m U (by rw[N]at M;exact M) g;subst q1;exact .inr ⟨q2 _ _ _,a3 _,b3 _⟩
  ·refine .inl (.inr ⟨u.ln.length,x.length,W.length,?_,?_,λe=>g ?_⟩)
   ·show(q.2.ln++[_])[u.ln.length]?=_
    have:q.2.ln=u.ln:=by
     rcases U with⟨_,_,_,_,e⟩|⟨_,_,_,_,_,_,_,e⟩<;>rw[e]
     ·exact(dj u i _).2.2.2.2.2.2.1
     ·exact(dj u i _).2.2.2.2.2.2.1
    rw[this,aJ (aE _)];simp
   ·show(Q.2.ln++[_])[u.ln.length]?=_
    have:Q.2.ln=v.ln:=by
     rcases M with⟨_,_,_,_,e⟩|⟨_,_,_,_,_,_,_,e⟩<;>rw[e]
     ·exact(dj v i _).2.2.2.2.2.2.1
     ·exact(dj v i _).2.2.2.2.2.2.1
    have hl:u.ln.length=v.ln.length:=by rw[J.st.2.1,j.st.2.1,R.st]
    rw[this,hl,aJ (aE _)];simp
   ·have X:=(kV A).2.2.2;have p2:=(kV B).2.2.2;rw[e,<-p2]at X;exact Int.ofNat_inj.1 X
theorem Pz{n:Int}{once key co:BL}(f:once.length=32)(s:key.length<=64)(g:aB co){k:Nat}:∀(ms:List Mb)(a:List BL)(ts:List Tm)(m:KV),(∀p∈ms,aB p.2.1/\∃v,Nm ts p.2.1 (112,[v],()))->Su (k+3*ms.length) ts m->(ob n once key co ms a ts m).1.2=0
 |[],_,_,_,_,_=>rfl
 |p::r,a,ts,m,b,c=>by
  have h:aB once:=hK
  have i:=M_ (k:=k+3*r.length+1) n p.1 h (b p (aF ..)).1 (c.mono eM);have t:=(N4 (k:=k+3*r.length+1) m n p.1 h (b p (aF ..)).1 (c.k.mono eM)).1;obtain⟨v,e⟩:=(b p (aF ..)).2;have u:=a0u (n:=n) (id:=p.1) (m:=m) f (by have:=c.k.2;omega) e;simp only[ob];rw[ae (λq=>q u)];generalize gp n p.1 once p.2.1 ts m=z at*;have j:=seP (n:=1) (k:=k+3*r.length) (q:=z.1.1) (o:=co) (x:=key) hK g hK i.su;exact Pz f s g (k:=k) r _ _ _ (λq l=>⟨(b q (aD _ l)).1,let⟨v,e⟩:=(b q (aD _ l)).2;⟨v,j.gr.nm (i.gr.nm e)⟩⟩) j.su
theorem PA{n:Int}{once key:BL}{e:Et}(c:aB once)(l:key.length<=64)(g:aB (eo e)){k:Nat}:∀(ms:List Mb)(a:List BL)(ts ts':List Tm)(m m':KV),(∀p∈ms,aB p.2.1)->Al (k+3*ms.length) (ts,m) (ts',m')->(ob n once key (eo e) ms a ts m).1=(ob n once key (eo e) ms a ts' m').1/\Al k (ob n once key (eo e) ms a ts m).2 (ob n once key (eo e) ms a ts' m').2
 |[],_,_,_,_,_,_,h=>⟨rfl,h.mono ac⟩
 |p::r,a,ts,ts',m,m',f,h=>by
  obtain⟨o,i⟩:=a03 (n:=n) (id:=p.1) (k:=k+3*r.length+1) c (f p (aF ..)) (h.mono eM);have s:=(N4 (k:=k+3*r.length+1) m n p.1 c (f p (aF ..)) (h.su.k.mono eM)).1;simp only[ob];rw[<-o];split
  ·exact⟨rfl,i.mono ac⟩
  ·generalize gp n p.1 once p.2.1 ts m=z at*;generalize gp n p.1 once p.2.1 ts' m'=b at*
   have j:(jp z.1.1 1 (eo e) key z.2.1 z.2.2).1=(jp z.1.1 1 (eo e) key b.2.1 b.2.2).1/\Al (k+3*r.length) (jp z.1.1 1 (eo e) key z.2.1 z.2.2).2 (jp z.1.1 1 (eo e) key b.2.1 b.2.2).2:=by
    unfold jp;rw[ae bt,ae bt];exact xe (m:=z.2.2) (m':=b.2.2) i (V8 hK (by unfold aB;rw[eK];omega) g hK) a0z
   rw[<-j.1];exact PA c l g (k:=k) r _ _ _ _ _ (λq t=>f q (aD _ t)) j.2
variable{ns:List Fk}{ms:List Mb}
theorem a1i{lg:Lg}(h0:(lp lg x once key ms ns j m).1.2≠0)(a:pB ms ns=true->(ob (lg.2.1.length+1) once key (eo (kq lg ms ns (cM (112,[once],()) (cM (118,[x],()) j m).2.1 (cM (118,[x],()) j m).2.2).1)) ms [] (cM (112,[once],()) (cM (118,[x],()) j m).2.1 (cM (118,[x],()) j m).2.2).2.1 (cM (112,[once],()) (cM (118,[x],()) j m).2.1 (cM (118,[x],()) j m).2.2).2.2).1.2=0):
 lp lg x once key ms ns j m=((Cr,(lp lg x once key ms ns j m).1.2),if(lp lg x once key ms ns j m).1.2=1 then(j,m)else if(lp lg x once key ms ns j m).1.2=19 then(cM (112,[once],()) (cM (118,[x],()) j m).2.1 (cM (118,[x],()) j m).2.2).2 else(cM (118,[x],()) j m).2):=by
 unfold lp at h0⊢;rw[bN]at h0⊢;dsimp only at h0⊢;split at h0
 ·rename_i g;rw[ak g];rfl
 rename_i g;rw[ae g];split at h0
 ·rename_i g;rw[ak g];rfl
 rename_i g;rw[ae g];split at h0
 ·rename_i g;rw[ak g];rfl
 rename_i g;rw[ae g];split at h0
 ·rename_i g;rw[ak g];rfl
 ·rename_i g;exfalso;rw[not_or]at g;unfold JJ at h0;dsimp only at h0;rw[ae (λq=>q (a (cf g.1)))]at h0;exact h0 rfl
theorem a1j{lg:Lg}{sec:BL}{ts:List Tm}(A:cK lg.2.1 lg.2.2.1)(B:pi ms)(h:Al (k+40) (ts,m) (ts',m')):
 (lp lg sec once key ms ns ts m).1=(lp lg sec once key ms ns ts' m').1/\Al k (lp lg sec once key ms ns ts m).2 (lp lg sec once key ms ns ts' m').2:=by
 unfold lp;rw[bN,bN];split
 ·exact⟨rfl,h.mono ac⟩
 rename_i f;rw[not_or,not_or]at f;have r:sec.length=32:=aA.1 f.1;have j:once.length=32:=aA.1 f.2.1;have C:key.length=32:=aA.1 f.2.2;obtain⟨D,g⟩:=xe (t:=(118,[sec],())) (k:=k+39) h (ja (k:=118) bt bt (show aB sec by unfold aB;omega)) (mC (by show(118:BitVec 8)≠98;decide));dsimp only;generalize cM (118,[sec],()) ts m=v at*;generalize cM (118,[sec],()) ts' m'=l at*;rw[<-D];split
 ·exact⟨rfl,g.mono ac⟩
 split
 ·exact⟨rfl,g.mono ac⟩
 have s:eB (112,[once],()):=ja (k:=112) bt bt (show aB once by unfold aB;omega);have E:=(zl (t:=(112,[once],())) (k:=k+38) g.su s).2 j;obtain⟨F,o⟩:=xe (t:=(112,[once],())) (k:=k+38) (m:=v.2.2) (m':=l.2.2) g s (mC (by show(112:BitVec 8)≠98;decide));generalize cM (112,[once],()) v.2.1 v.2.2=p at*;generalize cM (112,[once],()) l.2.1 l.2.2=i at*;split
 ·exact⟨rfl,o.mono ac⟩
 rename_i u;rw[not_or]at u;have q:pB ms ns=true:=cf u.1
 obtain⟨N,G,O,P,Q⟩:=fT q;have a:=mh A lg.2.1.length;have R:=E.len32 (by show(112:BitVec 8)≠98;decide) (by show(112:BitVec 8)≠103;decide)
 have S:(eo (kq lg ms ns p.1)).length<=1002000:=by
  have:=mg (e:=kq lg ms ns p.1) q;have r:(kq lg ms ns p.1).2.1.length<=1000000:=a;have j:(kq lg ms ns p.1).2.2.2.2.1.length<=64:=by show p.1.length<=64;omega
  omega
 unfold JJ;dsimp only;rw[<-F];have w:aB once:=hK
 have b:∀x∈ms,aB x.2.1:=λx H=>by have:=(B x H).1;unfold aB;omega
 obtain⟨J,y⟩:=PA (n:=lg.2.1.length+1) (e:=kq lg ms ns p.1) (k:=k+1) w (show key.length<=64 by omega) hK ms [] p.2.1 i.2.1 p.2.2 i.2.2 b (o.mono ac);have c:=wR (n:=lg.2.1.length+1) (k:=k+1) w (show key.length<=64 by omega) (show aB (eo (kq lg ms ns p.1))by unfold aB;omega) ms [] p.2.1 p.2.2 b (o.su.k.mono ac) bY;generalize ob (lg.2.1.length+1) once key (eo (kq lg ms ns p.1)) ms [] p.2.1 p.2.2=z at*;generalize ob (lg.2.1.length+1) once key (eo (kq lg ms ns p.1)) ms [] i.2.1 i.2.2=K at*;rw[<-J];split
 ·exact⟨rfl,y.mono ac⟩
 have U:(dS (jX lg ms ns p.1 z.1.1 [])).length<=1003000:=by
  have:=tp (e:=jX lg ms ns p.1 z.1.1 []) q 80 c.2.1;have r:(jX lg ms ns p.1 z.1.1 []).2.1.length<=1000000:=a;have j:(jX lg ms ns p.1 z.1.1 []).2.2.2.2.1.length<=64:=by show p.1.length<=64;omega
  have C:(jX lg ms ns p.1 z.1.1 []).2.2.2.2.2.1.length<=5:=by have:=c.2.2;simp at this;exact bE this G
  omega
 obtain⟨L,M⟩:=xe (t:=(103,[sec,dS (jX lg ms ns p.1 z.1.1 [])],())) (k:=k) (m:=z.2.2) (m':=K.2.2) y (xp (k:=103) bt bt (show aB sec by unfold aB;omega) hK) (mC (by show(103:BitVec 8)≠98;decide));exact⟨by rw[L],M⟩
theorem Jw:∀{l:List Fk}{g:List Bool}{e:Fk},e∈l->0<=e.1/\e.1<5->g.length=5->(ua g l).getD e.1.toNat false=true
 |x::r,g,e,h,a,b=>by
  rw[ua];rcases bm.1 h with q|q
  ·refine pu r _ ?_;rw[q,aw,List.getElem?_set_self (by rw[<-q];omega)];rfl
  ·exact Jw q a (by rw[cI];exact b)
variable{E:Et}
theorem Te(a:iU E=true):(dn (gi E) 0 true 0 1 4).1=1:=by
 have b:=im a
 have c:(gi E).length<=1000000000:=by
  have:=b.2.1;have:=eC E.2.2.2.2.2.2.1;have:=b.2.2.2.1;unfold aB at this;unfold gi;simp only[aa];unfold iU at a;have:=(af a).2.2.2.2.2.2.2;omega
 have e:Bh (gi E) 0 (vn 1++(vn E.1++(tx E.2.1++(vn E.2.2.1.length++(fl pY E.2.2.1++(vn E.2.2.2.1.length++(fl qP E.2.2.2.1++(tx E.2.2.2.2.1++(vn E.2.2.2.2.2.1.length++(fl tx E.2.2.2.2.2.1++tx E.2.2.2.2.2.2.1)))))))))):=by
  have:=Bh.zero c;rw[show vn 1++(vn E.1++(tx E.2.1++(vn E.2.2.1.length++(fl pY E.2.2.1++(vn E.2.2.2.1.length++(fl qP E.2.2.2.1++(tx E.2.2.2.2.1++(vn E.2.2.2.2.2.1.length++(fl tx E.2.2.2.2.2.1++tx E.2.2.2.2.2.2.1)))))))))=gi E by simp only[gi,dS,eo,ay]];exact this
 obtain⟨g,f,_⟩:=kh (lo:=1) (hi:=4) e ac ac ac ac;rw[f]
theorem dr8(w:Wd):Gr K8 w.ts (gC w).2.1:=(Nx (k8 bt _) _ _).trans (Nx (k8 bt _) _ _)
theorem xh(h:Au w md)(K:Ke w md ks)(H:Hi w md)(hw:cU w (k+2))(h4:w.st.length<400){n:Int}{y:(Int×Int)×Wd}(r:ff w n y):
 (y.1.1≠0/\y.1.2=0/\Hi y.2 md/\∃es,uz w n es/\(dW w n es).1.2=y.1.1/\y.2=w.su (w.d+1+1) (dW w n es).2)\/
 (y.1.1=0/\y.1.2=(w.st.length:Int)+1/\((∃a:Nat,a<5/\y.2.go.getD a false=true)/\¬uz w n []\/Hi y.2 (md++[(0,true,())])/\uz w n []/\(dW w n []).1.2=0/\∃(f:Wd)(N:Int×Nw),f=(w.mb n [] w.go).stl (w.st++[gi (dW w n []).1.1]) (w.ln++[0])/\Au f (md++[(0,true,())])/\cU f (k+1)/\Hi f (md++[(0,true,())])/\iU (dW w n []).1.1=true/\iV f (0:Nat) (gi (dW w n []).1.1) (N,y.2))):=by
 rcases pw h hw h4 r with⟨v,O,e3,e4,es,g1,g2,P,g4⟩|⟨v,O,e3,e4,e5,es,E,L,f2,f3,f4,f5,f6,f7,f8,f9,Q,f,N,o,A,z,hz,g,R,B,S,gE⟩
 ·refine .inl ⟨v,O,?_,es,g1,by rw[P],by rw[P]⟩;rw[P];have U:Gr K8 w.ts (dW w n es).2.1:=(dr8 w).trans (mk8 _ _ _ _ _ _ _ _);have c:∀i,i<5->(w.su (w.d+1+1) (dW w n es).2).cl i=w.cl i:=λi W=>qI _ _ _ W;have u:∀a,a<5->(w.su (w.d+1+1) (dW w n es).2).oc a=w.oc a:=λa b=>by unfold Wd.oc;rw[c a b]
  have C:=g4.both U
  exact H.ext (w':=w.su (w.d+1+1) (dW w n es).2) ⟨rfl,rfl,λ_ q=>q,⟨[],(aH _).symm⟩,⟨[],(aH _).symm⟩,rfl,⟨[],(aH _).symm⟩,⟨[],(aH _).symm⟩⟩ H.go C
   (λa b=>by rw[u a b];exact List.prefix_refl _) (λk a b=>by unfold Wd.ct;rw[u a b,c a b];exact bp _) (λa b=>by rw[u a b];exact(H.ch a b).gr C) (λj a p b=>by rw[u a b,c j p];exact H.pf j a p b) (λj p=>by rw[u j p,c j p];exact H.ep j p) h.ml
   (λm l q a=>by rw[be q]at a;cases a) (λk m x l q D=>by
    rcases q.2 with q|⟨X,Y,x',e',q⟩
    ·exact absurd rfl q
    ·have v:[k,m,dp l,x]=[X,Y,eo e',x']:=aI (λt:Tm=>t.2.1) q;simp only[List.cons.injEq,and_true]at v;exact absurd v.2.2.1.symm (zk ⟨D.1,D.2.1⟩)) (λt q M=>absurd M q.1)
 ·refine .inr ⟨v,O,?_⟩;rcases es with _|⟨e,er⟩
  ·subst f8;have F:f=(w.mb n [] w.go).stl (w.st++[gi (dW w n []).1.1]) (w.ln++[0]):=o;have c:∀i,i<5->f.cl i=w.cl i:=λi W=>by rw[o];exact zp w n [] _ _ _ W
   have u:∀a,a<5->f.oc a=w.oc a:=λa b=>by unfold Wd.oc;rw[c a b]
   have G:f.st=w.st++[gi (dW w n []).1.1]:=by rw[o];rfl
   have J:f.go=w.go:=by rw[o];rfl
   have U:Gr K8 w.ts f.ts:=by
    rw[S];exact((dr8 w).trans (mk8 _ _ _ _ _ _ _ _)).trans (Nx (k8 bt _) _ _)
   have C:=g.both U;have a0:f.al=w.al:=by rw[o];rfl
   have a4:f.lg.1=w.lg.1:=by
    have:=A.adm;obtain⟨⟨q,hq⟩,_⟩:=A.cl 0 bt;obtain⟨⟨q',a5⟩,_⟩:=h.cl 0 bt;rw[c 0 bt,a5]at hq;exact(aI Prod.fst hq).symm
   have x:∃s,f.lg.2.2.1=w.lg.2.2.1++s:=by
    have:f.lg=(qH w n []).2.1:=by rw[o];rfl
    rw[this];unfold qH iu;rw[bN]
    repeat' split
    all_goals first|exact⟨[],(aH _).symm⟩|exact⟨_,rfl⟩
   have H1:Hi f (md++[(0,true,())]):=by
    refine H.ext ⟨B,a0,λa q=>by rw[J];exact q,⟨_,G⟩,⟨_,rfl⟩,a4,⟨_,R⟩,x⟩ (λa b=>by rw[J];exact H.go a b) C
     (λa b=>by rw[u a b];exact List.prefix_refl _) (λk a b=>by unfold Wd.ct;rw[u a b,c a b];exact bp _) (λa b=>by rw[u a b];exact(H.ch a b).gr C) (λj a p b=>by rw[u a b,c j p];exact H.pf j a p b) (λj p=>by rw[u j p,c j p];exact H.ep j p) h.ml
     (λm l q a1 a2 a3=>?_) (λk m x l q D=>?_) (λt q M ht=>?_)
    ·obtain⟨q1,_⟩:=mD q a1;rw[G]at a2;obtain⟨_,q2⟩:=mD (by have:=h.ml;omega) a2;exact absurd q2 (Jj a3)
    ·rcases q.2 with q|⟨X,Y,x',e',q⟩
     ·exact absurd rfl q
     ·have v:[k,m,dp l,x]=[X,Y,eo e',x']:=aI (λt:Tm=>t.2.1) q;simp only[List.cons.injEq,and_true]at v;exact absurd v.2.2.1.symm (zk ⟨D.1,D.2.1⟩)
    ·have q:=q.1.resolve_left (λq=>q M);rcases A.sr t ht M with s|s|⟨l,a,hh,lk,z1,z2,z3,z4,_⟩
     ·exact .inl s
     ·exact .inr s
     ·rw[z4]at q;have q1:[f.se a 1,dp l++tx hh]=[w.se 0 1,dS (dW w n []).1.1]:=aI (λt:Tm=>t.2.1) q;simp only[List.cons.injEq,and_true]at q1;exact absurd q1.2.symm (zj ⟨z2.1,z2.2.1⟩)
   refine .inr ⟨?_,L,Q,f,N,F,A,z,H1,f9,hz⟩;exact(ot (ks:=[]) A H1 z (i:=0) bt (λq=>absurd (Te f9) q) hz).1
  ·refine .inl ⟨⟨e.1.toNat,?_,?_⟩,λq=>?_⟩
   ·have:=L.2 e (aF ..);omega
   ·rw[f2];exact Jw (aF ..) (L.2 e (aF ..)) hw.go
   ·have:=q.1.trans L.1.symm;cases this
theorem HR.memb(R:HR u v)(h:Au u md)(h':Au v md')(K:Ke u md ks)(K':Ke v md' ks')(H:Hi u md)(H':Hi v md')(C:cU u (k+2))(s:cU v (k+2))(h4:u.st.length<400){n:Int}
 {y l:(Int×Int)×Wd} (r:ff u n y) (r':ff v n l) (P:y.1.1=l.1.1):
 (y.1.1≠0/\y.1.2=0/\l.1.2=0/\HR y.2 l.2/\Hi y.2 md/\Hi l.2 md')\/(y.1.1=0/\y.1.2≠0/\l.1.2≠0/\((∃a:Nat,a<5/\y.2.go.getD a false=true)\/HR y.2 l.2/\Hi y.2 (md++[(0,true,())])/\Hi l.2 (md'++[(0,true,())]))):=by
 have Q:∀i j,v.se i j=u.se i j:=λi j=>by unfold Wd.se;rw[R.sec]
 have U:pi (oy n 0 u.al):=λx hx=>C.al.2 x (jE hx);have AL:=R.al2 h h' C s;obtain⟨W,o2⟩:=zF (k:=10000*(k+2)+9999) AL (fP (u.d+1)) (mC (by show(115:BitVec 8)≠98;decide));obtain⟨X,F⟩:=zF (k:=10000*(k+2)+9998) (m:=(qG u).2.2) (m':=(dI (115,[dB (u.d+1)],()) v.ts v.m).2.2) o2 (fP (u.d+1+1)) (mC (by show(115:BitVec 8)≠98;decide));have W:(qG u).1=(qG v).1:=by unfold qG;rw[<-R.d];exact W
 have X:(gC u).1=(gC v).1:=by unfold gC qG;rw[<-R.d];exact X
 have F:Al (10000*(k+2)+9998) (gC u).2 (gC v).2:=by unfold gC qG;rw[<-R.d];exact F
 obtain⟨d1,d2,d3,d4⟩:=Df h C;obtain⟨Y,a0,a9,b0⟩:=Df h' s;have eE:∀b,dW v n b=lp u.lg (u.se 0 1) (qG u).1 (gC u).1 (oy n 0 u.al) b (gC v).2.1 (gC v).2.2:=λb=>by unfold dW;rw[<-R.lg,Q,<-W,<-X,<-R.al]
 have st:v.st.length<400:=by rw[<-R.st];exact h4
 rcases xh h K H C h4 r with⟨D,a2,a3,b,a4,a5,a6⟩|⟨D,a2,a3⟩<;>rcases xh h' K' H' s st r' with⟨N,b2,b3,G,b4,b5,b6⟩|⟨N,b2,b3⟩
 ·refine .inl ⟨D,a2,b2,?_,a3,b3⟩
  have pb:∀{w:Wd}{md:List Md}{m2:List Tm×KV},Au w md->Gr (λt=>t.1≠103) w.ts m2.1->∀p∈oy n 0 w.al,aB p.2.1/\∃x,Nm m2.1 p.2.1 (112,[x],()):=λ{w md m2}hA g p O=>by
   obtain⟨a,x,yy,_,e,n1,_⟩:=hA.al p (jE O);rw[e];have:=n1.len32 (by show(112:BitVec 8)≠98;decide) (by show(112:BitVec 8)≠103;decide);exact⟨by show aB x;unfold aB;omega,_,g.nm n1⟩
  have J:(qG u).1.length=32:=d3.t115;have b7:(gC u).1.length=32:=d4.t115
  have c:∀{w:Wd}{md:List Md}{f:List Fk},Au w md->Gr (λt=>t.1≠103) w.ts (gC w).2.1->w.al=u.al->Su (10000*(k+1)+10140) (gC w).2.1 (gC w).2.2->(lp u.lg (u.se 0 1) (qG u).1 (gC u).1 (oy n 0 u.al) f (gC w).2.1 (gC w).2.2).1.2≠0->_:=λ{w md b}hA g a7 S h0=>a1i h0 (λO=>by
   obtain⟨q1,q2,q3,q4,q5⟩:=fT O;have z:=zl (k:=10000*(k+1)+10139) S (ja (k:=118) bt bt (show aB (u.se 0 1)by have:=Dv h (a:=0) (j:=1) ac ac;unfold aB;omega));have A:=zl (k:=10000*(k+1)+10138) z.1.su (ja (k:=112) bt bt (show aB (qG u).1 by unfold aB;omega));have n2:=A.2 J;have g3:=(g.trans (z.1.gr.imp λt e=>by rw[e];show(118:BitVec 8)≠103;decide)).trans (A.1.gr.imp λt e=>by rw[e];show(112:BitVec 8)≠103;decide);generalize cM (112,[(qG u).1],()) (cM (118,[u.se 0 1],()) (gC w).2.1 (gC w).2.2).2.1 (cM (118,[u.se 0 1],()) (gC w).2.1 (gC w).2.2).2.2=p at*;have a8:=mh C.lg.1 u.lg.2.1.length;have l2:=n2.len32 (by show(112:BitVec 8)≠98;decide) (by show(112:BitVec 8)≠103;decide)
   have hc:(eo (kq u.lg (oy n 0 u.al) b p.1)).length<=1002000:=by
    have:=mg (e:=kq u.lg (oy n 0 u.al) b p.1) O;have o:(kq u.lg (oy n 0 u.al) b p.1).2.1.length<=1000000:=a8;have L:(kq u.lg (oy n 0 u.al) b p.1).2.2.2.2.1.length<=64:=by show p.1.length<=64;omega
    omega
   exact Pz (k:=0) J ac hK _ _ _ _ (by rw[<-a7];exact pb (m2:=p.2) hA g3) (A.1.su.mono ac))
  have z:=c (w:=u) (f:=b) h d2 rfl d1 (by show(dW u n b).1.2≠0;rw[a5];exact D);have A:=c (w:=v) (f:=G) h' a0 R.al.symm Y (by rw[<-eE,b5];exact N);rw[<-eE]at A;have z:dW u n b=((Cr,(dW u n b).1.2),if(dW u n b).1.2=1 then((gC u).2.1,(gC u).2.2)else if(dW u n b).1.2=19 then _ else _):=z;rw[a5]at z;rw[b5,<-P]at A
  have ts:py (dW u n b).2.1 (dW v n G).2.1:=by
   obtain⟨v1,v2⟩:=xe (t:=(118,[u.se 0 1],())) (k:=10000*(k+2)+9997) (m:=(gC u).2.2) (m':=(gC v).2.2) F (ja (k:=118) bt bt (show aB (u.se 0 1)by have:=Dv h (a:=0) (j:=1) ac ac;unfold aB;omega)) (mC (by show(118:BitVec 8)≠98;decide));obtain⟨p1,p2⟩:=xe (t:=(112,[(qG u).1],())) (k:=10000*(k+2)+9996) (m:=(cM (118,[u.se 0 1],()) (gC u).2.1 (gC u).2.2).2.2) (m':=(cM (118,[u.se 0 1],()) (gC v).2.1 (gC v).2.2).2.2) v2 (ja (k:=112) bt bt (show aB (qG u).1 by unfold aB;omega)) (mC (by show(112:BitVec 8)≠98;decide));rw[z,A];dsimp only;by_cases E:y.1.1=1
   ·rw[ak E,ak E];exact F.al
   ·rw[ae E,ae E];by_cases M:y.1.1=19
    ·rw[ak M,ak M];exact p2.al
    ·rw[ae M,ae M];exact v2.al
  rw[a6,b6];exact⟨R.sec,R.al,R.go,by show u.d+1+1=v.d+1+1;rw[R.d],R.lg,R.st,ts,λi B=>by rw[qI _ _ _ B,qI _ _ _ B];exact R.cl i B⟩
 ·exact absurd (P.trans N) D
 ·exact absurd (P.symm.trans D) N
 ·refine .inr ⟨D,ac,ac,?_⟩;rcases a3 with⟨q,_⟩|⟨x1,x2,x3,w1,r1,x4,x5,x6,x7,x8,x9⟩
  ·exact .inl q
  rcases b3 with⟨_,q⟩|⟨E,M,z3,w2,r2,z4,z5,z6,z7,z8,z9⟩
  ·exfalso;apply q;unfold uz at x2⊢;rw[<-R.lg,<-R.al];exact x2
  refine .inr ⟨?_,x1,E⟩;obtain⟨o,L⟩:=a1j (sec:=u.se 0 1) (once:=(qG u).1) (key:=(gC u).1) (ms:=oy n 0 u.al) (ns:=[]) (k:=10000*(k+2)+9950) (ts:=(gC u).2.1) (ts':=(gC v).2.1) (m:=(gC u).2.2) (m':=(gC v).2.2) C.lg.1 U (F.mono ac);rw[<-eE]at o L;have o:(dW u n []).1=(dW v n []).1:=o;have L:Al (10000*(k+2)+9950) (dW u n []).2 (dW v n []).2:=L;obtain⟨t1,t2,t3⟩:=Pq (lg:=u.lg) (e:=(dW u n []).1.1) (k:=10000*(k+2)+9949) (ts:=(dW u n []).2.1) (ts':=(dW v n []).2.1) (m:=(dW u n []).2.2) (m':=(dW v n []).2.2) (im x8).2.1 L;have t2:(qH u n []).2.1=(qH v n []).2.1:=by unfold qH;rw[<-R.lg,<-o];exact t2
  have t3:Al (10000*(k+2)+9949) (qH u n []).2.2 (qH v n []).2.2:=by unfold qH;rw[<-R.lg,<-o];exact t3
  have R1:HR w1 w2:=by
   rw[x4,z4,<-o];exact⟨R.sec,R.al,R.go,by show u.d+1+1=v.d+1+1;rw[R.d],t2,by show u.st++_=v.st++_;rw[R.st],t3.al,λi B=>by rw[zp _ _ _ _ _ _ B,zp _ _ _ _ _ _ B];exact R.cl i B⟩
  rw[<-o]at z9;exact R1.recv (ks:=[]) (ks':=[]) x5 z5 x7 z7 x6 z6 bt (λq=>absurd (Te x8) q) (λq=>absurd (Te x8) q) x9 z9
theorem HR.fl:∀{a:List (Int×BL)}{u v u' v':Wd}{md md':List Md}{ks ks':List BL}{n:Nat},HR u v->Au u md->Au v md'->Ke u md ks->Ke v md' ks'->Hi u md->Hi v md'->cU u (n+a.length)->cU v (n+a.length)->(∀p∈a,0<=p.1/\p.1<5)->xv a u u'->xv a v v'->HR u' v'/\Hi u' md/\Hi v' md'
 |[],_,_,_,_,_,_,_,_,_,R,_,_,_,_,H,m,_,_,_,e,r=>by
  have e:_=_:=e;have r:_=_:=r;subst e r;exact⟨R,H,m⟩
 |p::a,u,v,u',v',md,md',ks,ks',n,R,h,o,K,s,H,m,g,b,w,⟨y,l,x⟩,⟨B,c,t⟩=>by
  have g:=g.mono (k:=n+a.length+1) eM;have b:=b.mono (k:=n+a.length+1) eM;have f:=w p (aF ..);obtain⟨j,z⟩:=bo f.1;rw[z]at l c f;have i:j<5:=ac
  exact HR.fl (R.recv h o H m g b i (λ_=>K) (λ_=>s) l c) (kW h g f l).1 (kW o b f c).1 (tN h K g f l) (tN o s b f c)
   (ot h H g i (λ_=>K) l).1 (ot o m b i (λ_=>s) c).1 (gB g f l) (gB b f c) (λq A=>w q (aD _ A)) x t
def zH(s o:jt):Prop:=o.1=s.1/\o.2.1=s.2.1/\(¬(1<=s.1/\s.1<=5)->o=s)/\s.1≠10/\s.1≠11
theorem Hi.keep0(h:Au w md)(H:Hi w md)(b:BL)(i a:Int):Hi (w.keep b i) (md++[(a,false,())]):=by
 have g:=λa c=>Dz w b i (a:=a) c
 refine H.ext (K:=λ_=>False) (w':=w.keep b i) ⟨rfl,rfl,λ_ q=>q,⟨[b],rfl⟩,⟨_,rfl⟩,rfl,⟨[],(aH _).symm⟩,⟨[],(aH _).symm⟩⟩ H.go (Gr.refl _ _) (λa c=>by rw[(g a c).1];exact List.prefix_refl _) (λk a c=>by rw[(g a c).2];exact bp _)
  (λa c=>by rw[(g a c).1];exact H.ch a c) (λj a f c=>by rw[(g a c).1,eL _ _ _ f];exact H.pf j a f c) (λj f=>by rw[(g j f).1,eL _ _ _ f];exact H.ep j f) h.ml (λn l q m _ _=>?_) (λ_ _ _ _ q=>q.elim) (λ_ q=>q.elim)
 obtain⟨_,e⟩:=mD q m;cases e
theorem HR.step(R:HR u v)(h:Au u md)(h':Au v md')(K:Ke u md ks)(K':Ke v md' ks')(H:Hi u md)(l:Hi v md')(x:cU u (n+5*u.st.length+3))(i:cU v (n+5*u.st.length+3))(U:zH s o)
 {y A:xx} (r:mY u s y) (r':mY v o A) (P:y.1.1=A.1.1):Td y.2 A.2\/HR y.2 A.2/\Hi y.2 (px md s y)/\Hi A.2 (px md' o A):=by
 obtain⟨Q,W,X,F,B⟩:=U;have hB:∀{a b:Int×Int×Nw},a.2.1=0->b.2.1=0->HR u v/\Hi u (px md s (a,u))/\Hi v (px md' o (b,v)):=λY hb=>⟨R,by rw[eS Y];exact H,by rw[eS hb];exact l⟩;unfold mY at r r';rw[Q]at r';split at r
 ·rename_i c;rw[ak c]at r';obtain⟨z,m,rfl⟩:=r;obtain⟨E,f,rfl⟩:=r';exact R.spk h h' K K' H l (n:=n+5*u.st.length+2) x i Q W c m f P
 rename_i c;rw[ae c]at r';have e:=X c;subst e;rw[<-R.st]at r';split at r
 ·rename_i C;rw[ak C]at r';split at r
  ·rename_i g;rw[ak g]at r';rw[r,r'];exact .inr (hB rfl rfl)
  rename_i g;rw[ae g]at r';rw[not_or]at g;obtain⟨z,m,rfl⟩:=r;obtain⟨E,f,rfl⟩:=r';have G:np o=(0,true,()):=by unfold np;rw[ae c,ak C]
  rcases R.memb h h' K K' H l (k:=n+5*u.st.length+1) x i ac m f P with⟨e1,J,L,q⟩|⟨e1,J,L,q⟩
  ·rw[eS (show(jh z).1.2.1=0 from J),eS (show(jh E).1.2.1=0 from L)];exact .inr q
  ·unfold px;rw[ae (show¬(jh z).1.2.1=0 from J),ae (show¬(jh E).1.2.1=0 from L),G];rcases q with q|q
   ·exact .inl (.inl q)
   ·exact .inr q
 rename_i C;rw[ae C]at r';split at r
 ·rename_i M;rw[ak M]at r';split at r
  ·rename_i g;rw[ak g]at r';rw[r,r'];exact .inr (hB rfl rfl)
  rename_i g;rw[ae g]at r';rw[not_or]at g;have N:=aA.1 g.1;obtain⟨z,m,rfl⟩:=r;obtain⟨E,f,rfl⟩:=r';obtain⟨j,hj⟩:=bo N.1;rw[hj]at m f N;have p:j<5:=Int.ofNat_lt.1 N.2;rw[eS rfl,eS rfl];exact .inr ⟨R.recv h h' H l (n:=n+5*u.st.length+2) x i p (λ_=>K) (λ_=>K') m f,(ot h H (n:=n+5*u.st.length+2) x p (λ_=>K) m).1,(ot h' l (n:=n+5*u.st.length+2) i p (λ_=>K') f).1⟩
 rename_i M;rw[ae M]at r';split at r
 ·rename_i t;rw[ak t]at r';rw[r,r'];have G:np o=(-1,false,()):=by unfold np;rw[ae c,ae C,ae B]
  have S:∀b:BL,HR (jh (ub u b 0)).2 (jh (ub v b 0)).2/\Hi (jh (ub u b 0)).2 (px md o (jh (ub u b 0)))/\Hi (jh (ub v b 0)).2 (px md' o (jh (ub v b 0))):=λb=>by
   rw[oo,oo,G];exact⟨R.keep (dz u) (dz v) rfl rfl R.ts R.cl b 0 0,H.keep0 h b 0 _,l.keep0 h' b 0 _⟩
  unfold tI;rw[<-R.st];split
  ·exact .inr (hB rfl rfl)
  split
  ·exact .inr (S _)
  ·exact .inr (S _)
 rename_i t;rw[ae t]at r';rw[ae F,ae B]at r';split at r
 ·rename_i w;rw[ak w]at r';obtain⟨u',hf,rfl⟩:=r;obtain⟨v',D,rfl⟩:=r';have O:=gZ h;have ei:v.ids=u.ids:=by unfold Wd.ids;rw[R.lg]
  rw[ei]at D
  have hl:(xw u.ids u.st).length<=5*u.st.length:=by
   rw[kY];have:=kX x;have:=Nat.mul_le_mul_left u.st.length this;omega
  rw[eS rfl,eS rfl];exact .inr (HR.fl (n:=0) R h h' K K' H l (x.mono ac) (i.mono ac) (my O) hf D)
 ·rename_i w;rw[ae w]at r';rw[r,r'];exact .inr (hB rfl rfl)
theorem i12(h:1<=c/\c<=5):c≠12:=ac
theorem PB(h:Au w md)(G:cU w (n+5*w.st.length+3)){y:xx}(r:mY w s y):(∃t,y.2.ln=w.ln++t)/\(∀a,w.go.getD a false=true->y.2.go.getD a false=true)/\(s.1≠10->s.1≠11->y.2.st.length=w.st.length+if y.1.1=0/\s.1≠7/\s.1≠12 then 1 else 0):=by
 have B:∀{e:Int},e≠0->(∃t,w.ln=w.ln++t)/\(∀a,w.go.getD a false=true->w.go.getD a false=true)/\(s.1≠10->s.1≠11->w.st.length=w.st.length+if e=0/\s.1≠7/\s.1≠12 then 1 else 0):=λS=>⟨⟨[],(aH _).symm⟩,λ_ q=>q,λ_ _=>by rw[ae (λq=>S q.1)];rfl⟩;have J:∀{f:Wd}(b:BL)(o:Int),f.ln=w.ln->f.go=w.go->f.st=w.st->s.1≠7->s.1≠12->(∃t,(f.keep b o).ln=w.ln++t)/\(∀a,w.go.getD a false=true->(f.keep b o).go.getD a false=true)/\(s.1≠10->s.1≠11->(f.keep b o).st.length=w.st.length+if(0:Int)=0/\s.1≠7/\s.1≠12 then 1 else 0):=λ{f}b o u K L U M=>⟨⟨[o],by show _++_=_;rw[u]⟩,λa q=>by show f.go.getD a false=true;rw[K];exact q,λ_ _=>by rw[ak ⟨rfl,U,M⟩];show(_++[_]).length=_;rw[aa,L];rfl⟩;unfold mY at r;split at r
 ·rename_i j;obtain⟨z,i,rfl⟩:=r;unfold jG at i;split at i
  ·rw[i];exact B (e:=26) bt
  rename_i no;rw[not_or,not_or]at no;split at i
  ·rw[i];exact B (e:=19) bt
  obtain⟨q,m,rfl⟩:=i;have hi:=to5 no.1 no.2.1
  have c:q.2.ln=w.ln/\q.2.go=w.go/\q.2.st=w.st:=by
   have T:∀z,(w.told s.2.1.toNat z).ln=w.ln/\(w.told s.2.1.toNat z).go=w.go/\(w.told s.2.1.toNat z).st=w.st:=λz=>⟨(dj w _ _).2.2.2.2.2.2.1,(dl w _ _).1.go,(dl w _ _).1.st⟩;have W:∀z,(w.wrt s.2.1.toNat z).ln=w.ln/\(w.wrt s.2.1.toNat z).go=w.go/\(w.wrt s.2.1.toNat z).st=w.st:=λz=>⟨(dj w _ _).2.2.2.2.2.2.1,(dl w _ _).1.go,(dl w _ _).1.st⟩;unfold vw at m;split at m
   ·obtain⟨_,z,_,rfl⟩:=m;exact T z
   split at m
   ·obtain⟨_,z,_,rfl⟩:=m;exact T z
   ·obtain⟨p,l,e,_,_,⟨_,rfl⟩|⟨_,_,z,_,_,rfl⟩⟩:=m
    ·exact⟨rfl,rfl,rfl⟩
    ·exact W z
  unfold kj;split
  ·rename_i g;exact⟨⟨[],by show q.2.ln=_;rw[c.1,aH]⟩,λa x=>by show q.2.go.getD a false=true;rw[c.2.1];exact x,λ_ _=>by rw[ae (λx=>g x.1)];show q.2.st.length=_;rw[c.2.2];rfl⟩
  ·exact J _ _ c.1 c.2.1 c.2.2 (TV j).2 (i12 j)
 rename_i j;split at r
 ·rename_i N;split at r
  ·rw[r];exact B (e:=26) bt
  rename_i g;rw[not_or]at g;obtain⟨z,i,rfl⟩:=r;rcases pw h (k:=n+5*w.st.length+1) G ac i with⟨u,K,L,X,Y,g1,g2,O,g4⟩|⟨u,K,L,X,e5,Y,E,f1,f2,f3,f4,_⟩
  ·refine⟨⟨[],?_⟩,λa q=>?_,λ_ _=>?_⟩
   ·show z.2.ln=_;rw[O];exact(aH _).symm
   ·show z.2.go.getD a false=true;rw[O];exact q
   ·rw[ae (λq=>u q.1)];show z.2.st.length=_;rw[O];rfl
  ·refine⟨⟨[0],f4⟩,λa q=>?_,λ_ _=>?_⟩
   ·show z.2.go.getD a false=true;rw[f2];exact pu _ _ q
   ·rw[ak ⟨u,qU N bt,qU N bt⟩];show z.2.st.length=_;rw[f3,aa];rfl
 rename_i N;split at r
 ·rename_i H;split at r
  ·rw[r];exact B (e:=26) bt
  rename_i g;rw[not_or]at g;obtain⟨z,i,rfl⟩:=r;have a:=gX i;have b:=(kW h (n:=n+5*w.st.length+2) G (aA.1 g.1) i).2.1;exact⟨⟨[],by show z.2.ln=_;rw[a.2.1,aH]⟩,λx q=>by show z.2.go.getD x false=true;rw[b.go];exact q,λ_ _=>by rw[ae (λq=>q.2.1 H)];show z.2.st.length=_;rw[a.1];rfl⟩
 rename_i H;split at r
 ·rename_i v;rw[r];unfold tI;have A:=v.elim (λq=>qU q (b:=12) bt) (λq=>qU q bt);split
  ·exact B (e:=26) bt
  split
  ·exact J _ _ rfl rfl rfl H A
  ·exact J _ _ rfl rfl rfl H A
 rename_i v;split at r
 ·rename_i C;split at r
  ·rw[r];exact B (e:=26) bt
  ·rw[r];exact⟨⟨[0],rfl⟩,λ_ q=>q,λq=>absurd C q⟩
 rename_i C;split at r
 ·rename_i P;rw[r];refine⟨?_,λa q=>by show(io w s).2.go.getD a false=true;rw[Ja];exact q,λ_ q=>absurd P q⟩;unfold io;split
  ·exact⟨[],(aH _).symm⟩
  split
  ·exact⟨[],(aH _).symm⟩
  dsimp only;split
  ·exact⟨[],(aH _).symm⟩
  ·exact⟨_,rfl⟩
 split at r
 ·rename_i Q;obtain⟨f,R,rfl⟩:=r;have D:=gZ h;have F:cU w (0+(xw w.ids w.st).length):=G.mono (by rw[kY];have:=kX G;have:=Nat.mul_le_mul_left w.st.length this;omega);have a:=tK F (my D) R;have b:=Jb h F (my D) R;exact⟨⟨[],by show f.ln=_;rw[a.2.2.1,aH]⟩,λx q=>by show f.go.getD x false=true;rw[b.2.go];exact q,λ_ _=>by rw[ae (λq=>q.2.2 Q)];show f.st.length=_;rw[a.2.1];rfl⟩
 ·rw[r];exact B (e:=26) bt
def W1(w:Wd)(k:Nat)(md:List Md)(ks:List BL):Prop:=Au w md/\Ke w md ks/\cU w (9998-210*k)/\w.st.length<=k+1
def J2(u v:Wd)(k:Nat):Prop:=∃c a e b,W1 u k c e/\W1 v k a b/\u.st.length=v.st.length/\(Td u v\/HR u v/\Hi u c/\Hi v a)
theorem W1.step(h:W1 w k md ks)(c:k<40){y:xx}(r:mY w s y):∃ks',W1 y.2 (k+1) (px md s y) ks':=by
 obtain⟨A,K,O,S⟩:=h;have a:cU w ((9998-210*(k+1))+5*w.st.length+3):=O.mono ac;have W:=xd a (gZ A) ac r;obtain⟨ks',b⟩:=a0x A K a r;exact⟨ks',(SM A a r).au,b,W.1,ac⟩
theorem J2.step(J:J2 u v k)(m:k<40)(c:zH s o){y f:xx}(r:mY u s y)(r':mY v o f)(p:y.1.1=f.1.1):J2 y.2 f.2 (k+1):=by
 obtain⟨Y,C,ks,D,W,w,x,q⟩:=J;obtain⟨E,F⟩:=W.step m r;obtain⟨g,h⟩:=w.step m r';obtain⟨A,K,O,S⟩:=W;obtain⟨z,G,L,S'⟩:=w;have B:cU u ((9998-210*(k+1))+5*u.st.length+3):=O.mono ac;have e:cU v ((9998-210*(k+1))+5*v.st.length+3):=L.mono ac;obtain⟨⟨t,M⟩,N,P⟩:=PB A B r;obtain⟨⟨t',i⟩,z2,Q⟩:=PB z e r';refine⟨_,_,E,g,F,h,?_,?_⟩
 ·rw[P c.2.2.2.1 c.2.2.2.2,Q (by rw[c.1];exact c.2.2.2.1) (by rw[c.1];exact c.2.2.2.2),x,p,c.1]
 ·rcases q with(⟨a,j,l⟩|⟨n,a,b,j,l,U⟩)|⟨R,H,X⟩
  ·exact .inl (.inl ⟨a,j,N a l⟩)
  ·exact .inl (.inr ⟨n,a,b,by rw[M];exact dm j,by rw[i];exact dm l,U⟩)
  ·exact R.step A z K G H X (n:=9998-210*(k+1)) B (by rw[x];exact e) c r r' p
theorem J2.fin(J:J2 u v k)(f:∀a:Nat,a<5->u.go.getD a false=false)(g:∀(n:Nat)(a b:Int),u.ln[n]?=some a->v.ln[n]?=some b->(eY a).1=(eY b).1):u.st=v.st:=by
 obtain⟨l,h,m,i,W,o,p,q⟩:=J;rcases q with(⟨a,e,c⟩|⟨n,a,b,e,c,j⟩)|⟨R,_⟩
 ·rw[f a e]at c;cases c
 ·exact absurd (g n a b e c) j
 ·exact R.st
theorem NC:(lw.ts.all λt=>t.1 !=98&&t.1 !=103)=true:=dC
theorem a7l:Hi lw []:=by
 have e:∀i:Nat,i<5->(lw.cl i).bk=[]:=λi b=>by rcases fZ b with rfl|rfl|rfl|rfl|rfl<;>rfl
 have f:∀i:Nat,i<5->lw.oc i=[]:=λi b=>by unfold Wd.oc;rw[e i b];rfl
 have g:∀t∈lw.ts,t.1≠98/\t.1≠103:=λt h=>by
  have:=cH.1 NC t h;simpa using this
 refine⟨λa c=>by rcases fZ c with rfl|rfl|rfl|rfl|rfl<;>rfl,λa c=>by rw[f a c];exact Nu _ _,λi a b c=>by rw[e i b];exact List.nil_prefix,λi b k j=>by rw[f i b]at j;exact(by cases j),λn l h=>by simp at h,λk n x l h=>absurd rfl (g _ h).1,λt h m=>absurd m (g t h).2⟩
theorem HR.refl(w:Wd):HR w w:=⟨rfl,rfl,rfl,rfl,rfl,rfl,py.refl _,λ_ _=>⟨rfl,rfl,rfl,rfl,rfl,rfl,λ_ _ _=>rfl⟩⟩
theorem PC(h:1<=c/\c<=31/\c % 2=1):Nr lw c=true:=by
 have:=cH.1 Je c.toNat (List.mem_range.2 ac);have e:((c.toNat:Nat):Int)=c:=ac
 rw[jb,e]at this;rcases this with q|q
 ·exfalso;rw[aS]at q;omega
 ·exact q
theorem a7m{n:Int}(h:1<=n/\n<=31/\n % 2=1){y b:(Int×Int)×Wd}(r:ff lw n y)(r':ff lw n b):J2 y.2 b.2 0:=by
 have e:b=y:=by rw[Dr (PC h) r,Dr (PC h) r']
 subst e;have g:=zB h r;obtain⟨A,O,S,L⟩:=Pj h r;rcases Dx SL a0y (k:=9998) mB bt r with⟨c,_⟩|⟨_,_,f,K⟩
 ·exact absurd g c
 have W:W1 b.2 0 [(0,true,())] [f]:=⟨A,K,O,ac⟩;rcases xh SL a0y a7l (k:=9998) mB bt r with⟨c,_⟩|⟨_,_,⟨⟨a,i,j⟩,_⟩|⟨H,_⟩⟩
 ·exact absurd g c
 ·exact⟨_,_,_,_,W,W,rfl, .inl (.inl ⟨a,i,j⟩)⟩
 ·exact⟨_,_,_,_,W,W,rfl, .inr ⟨HR.refl _,H,H⟩⟩
theorem J2.pre(J:J2 u v k)(f:k<=40):(lh u/\∃n,cU u (n+5*u.st.length+3))/\lh v/\∃n,cU v (n+5*v.st.length+3):=by
 obtain⟨g,a,h,b,⟨A,_,O,S⟩,⟨c,_,e,i⟩,_⟩:=J;exact⟨⟨gZ A,0,O.mono ac⟩,gZ c,0,e.mono ac⟩
theorem J2.len(J:J2 u v k):u.go.length=5/\u.st.length<=1000/\v.st.length=u.st.length/\u.ln.length=u.st.length/\v.ln.length=u.st.length/\(∀b∈u.st,b.length<=2000000)/\∀b∈v.st,b.length<=2000000:=by
 obtain⟨g,c,i,e,⟨_,_,O,_⟩,⟨_,_,f,_⟩,h,_⟩:=J;have a:=O.st;have b:=f.st;exact⟨O.go,a.1,ac,a.2.1,ac,a.2.2,b.2.2⟩
abbrev JR(n:Int):Prop:=1<=n/\n<=31/\n % 2=1
def a1k:Ct:=⟨3,tL.inp,tL.out,λ(n,_)=> .need (JR n) (.all ((Int×Int)×Wd) (ff lw n) λy=> .leaf ⟨1,(cY y.2)⟩)⟩
theorem Tf:bW Tryz.prog 15 a1k:=bW.mono xb λ_ _ h=>⟨λ_=>h.2,λc=>absurd h.1 (ap c)⟩
def Tg:Ct:=⟨3,tL.inp,tL.out,λ(n,_)=> .need (¬JR n) (.leaf ⟨0,()⟩)⟩
theorem Th:bW Tryz.prog 15 Tg:=bW.mono xb λ_ _ h=>⟨λc=>absurd (af c) h.1,λ_=>h.2⟩
def Ti:cx:=⟨[sI 0,(1,false,[.d (.sl Bv)]),(2,false,[.d (.sl .st)]),(3,false,[.d (.sl .i64)])],[]⟩
def tP:Ct:=⟨4,Ti,[⟨[sL 0],[]⟩],λ(n,_)=>one (JR n) (true,())⟩
def EW:Ct:=⟨4,Ti,[⟨[sL 0],[]⟩],λ(n,_)=>one (¬JR n) (true,())⟩
def Jx:bG:=(15,[Tg])::SW
def BG:=kB 15 [Tg] Jf (bL Th) (l:=bL (λ_=>Live.need λ_=>Live.leaf))
def Tj:cx:=⟨[(2,false,[.d (.sl .st)]),(9,false,[.nilp]),(10,false,[.nilp]),sI 11,sI 12],[]⟩
def Jy(y:Tj.den):Prop:=match y with
 |(t,c,i,_)=>@aX Int _ c 10000/\∃k:Nat,i=k/\k<=t.length/\@aX Int _ k c
abbrev BH(v:Bool×Unit):cF EW.out:=⟨0,v⟩
theorem Tk:il Tryz.prog Jx 4 EW λ_=>⟨[(5,bS Tj Jy λ(t,_,i,_)=>(@bO Int Int Int _ t.length i).toNat)],[],[],[],0⟩:=by
 have e:(il Tryz.prog Jx 4 EW λ_=>⟨[(5,bS Tj Jy λ(t,_,i,_)=>(@bO Int Int Int _ t.length i).toNat)],[],[],[],0⟩)=
  (∀(x:Int)(y:List (Int×Int×Int×Int×Int×Int×BL×Lt))(h:List BL)(z:List Int)(Q:cF EW.out->Prop),(Tr.need (¬JR x) (Tr.leaf (BH (true,())))).sat Q->¬JR x/\¬JR x/\Is (Jy (h,0,0,()))/\∀(x:List BL)(b a:Int),Jy (x,b,a,())->(decide (a<(↑x.length:Int))=true->(decide (b<=3000)=true->(0<=a/\a<(↑x.length:Int))/\am (1+min (↑(x.getD a.toNat []).length:Int) 3001)/\am (b+(1+min (↑(x.getD a.toNat []).length:Int) 3001))/\am (a+1)/\Is (Jy (x,b+(1+min (↑(x.getD a.toNat []).length:Int) 3001),a+1,())/\((↑x.length:Int)-(a+1)).toNat<((↑x.length:Int)-a).toNat))/\(decide (b<=3000)=false->True/\Q (BH (true,()))))/\(decide (a<(↑x.length:Int))=false->True/\Q (BH (true,())))):=dC
 refine PW e ?_;clear e;rintro n l t v Q ⟨o,f⟩;have f:Q ⟨0,(true,())⟩:=f;refine⟨o,o,⟨⟨bt,0,rfl,aq _,bp _⟩⟩,?_⟩;rintro g c i ⟨p,k,j,r,s⟩;have s:@aX Int _ k c:=s;have p:@aX Int _ c 10000:=p;have j:i=(k:Int):=j;have r:k<=g.length:=r;subst j;refine⟨λu=>⟨λw=>?_,λ_=>⟨trivial,f⟩⟩,λ_=>⟨trivial,f⟩⟩;have u:=af u;have w:=af w;have m:0<=min ((g.getD (k:Int).toNat []).length:Int) 3001/\min ((g.getD (k:Int).toNat []).length:Int) 3001<=3001:=ac
 generalize min ((g.getD (k:Int).toNat []).length:Int) 3001=q at*;refine⟨ac,cv,cv,cv,⟨⟨?_,k+1,rfl,ac,?_⟩,ac⟩⟩
 ·show @aX Int _ (c+(1+q)) 10000;omega
 ·show @aX Int _ ((k+1:Nat):Int) (c+(1+q));omega
theorem Jz:bW Tryz.prog 4 EW:=dH BG.1 BG.2 tS dC Tk
def a7u:=kB 4 [EW] BG (bL (Jz))
def JA:=kB 15 [a1k] Jf (bL Tf) (l:=bL (λ_=>Live.need λ_=>Live.all ⟨_,(mw (k:=9998) mB _).choose_spec,Live.leaf⟩))
def a1l:cx:=⟨[(1,false,[.d (.sl Bv)]),(2,false,[.d (.sl .st)]),(3,false,[.d (.sl .i64)]),(9,false,[.ptr 0 0]),(10,false,[.ptr 33 0]),sI 11,sI 12],tZ 0 20++om 20++tZ 33 53++om 53⟩
def ND(x:tP.inp.den)(y:a1l.den):Prop:=match x,y with
 |(_,L,a,M,_),(l,t,v,c,i,N,O,P,Q,R,S,U,W,X,e,f,g,h,j,m,n,o,p,q,r,s,u,w,z,A,B,C,D,E,F,G,H,J,K,Y)=>l=L/\t=a/\v=M/\J2 (cS (N,O,P,Q,R,S,U,W,X,e,f,g,h,j,m,n,o,p,q,r,s,u,w,z,A,B,C,D,E,F,G,H,J,K,())) (cS Y) 0/\@aX Int _ c 10000/\∃k:Nat,i=k/\k<=a.length/\@aX Int _ k c/\(@aX Int _ c 3000->∀b∈a.take k,b.length<=3000)
def a1m:cx:=⟨[(1,false,[.d (.sl Bv)]),(2,false,[.d (.sl .st)]),(3,false,[.d (.sl .i64)]),(9,false,[.ptr 0 0]),(10,false,[.ptr 33 0]),sI 11],tZ 0 20++om 20++tZ 33 53++om 53⟩
def Tl(x:tP.inp.den)(y:a1m.den):Prop:=match x,y with
 |(_,K,J,L,_),(l,t,v,c,M,N,O,P,Q,R,S,U,W,a,e,f,g,h,i,j,m,n,o,p,q,r,s,u,w,z,A,B,C,D,E,F,G,H,X)=>l=K/\t=J/\v=L/\J2 (cS (M,N,O,P,Q,R,S,U,W,a,e,f,g,h,i,j,m,n,o,p,q,r,s,u,w,z,A,B,C,D,E,F,G,H,())) (cS X) 0/\(@aX Int _ c 3000->∀b∈J,b.length<=3000)
def a1n:cx:=⟨[(2,false,[.d (.sl .st)]),(3,false,[.d (.sl .i64)]),(9,false,[.ptr 0 0]),(10,false,[.ptr 33 0]),(68,false,[.d (.sl Bv)]),sI 69,sI 70],tZ 0 20++om 20++tZ 33 53++om 53⟩
def JB(x:tP.inp.den)(y:a1n.den):Prop:=match x,y with
 |(n0,a,M,N,_),(t,v,l,O,i,P,Q,R,S,U,W,X,Y,a9,c,e,f,g,h,m,n,o,p,q,r,u,w,z,A,B,C,D,E,F,G,H,J,K,L,bx)=>t=M/\v=N/\l=a/\O=a.length/\a.length<=40/\(∀s∈a,TU s)/\(∀b∈M,b.length<=3000)/\∃k:Nat,i=k/\k<=a.length/\∃j,j<=k/\J2 (cS (P,Q,R,S,U,W,X,Y,a9,c,e,f,g,h,m,n,o,p,q,r,u,w,z,A,B,C,D,E,F,G,H,J,K,L,())) (cS bx) j
def Tn:cx:=⟨[(2,false,[.d (.sl .st)]),(3,false,[.d (.sl .i64)]),(9,false,[.ptr 0 0]),(10,false,[.ptr 33 0]),sI 13,(14,false,[.ptr 66 0]),(15,false,[.ptr 67 0]),(68,false,[.d (.sl Bv)]),sI 69,sI 70],tZ 0 20++om 20++tZ 33 53++om 53++[some (.cells [.d Bv]),some (.cells [.d Bv])]⟩
def xi(x:tP.inp.den)(a:Int)(y:Tn.den):Prop:=match x,y with
 |(_,b,t0,v0,_),(t,v,q,l,ln,i,a1,a2,a3,a4,a5,a6,a7,a8,a9,c,e,f,g,h,m,n,p,r,u,w,z,A,B,C,D,E,F,G,H,J,K,L,M,N,b1,b2,b3,b4,b5,b6,b7,b8,b9,O,P,Q,R,S,U,W,X,Y,a0,b0,c0,c1,c2,c3,c4,c5,c6,c7,c8,c9,d0,d1,d2,d3,s,o,_)=>t=t0/\v=v0/\q=a/\l=b/\ln=b.length/\i=a/\s.2.2.2.2.2.2.1.length<=1000000/\o.2.2.2.2.2.2.1.length<=1000000/\zH s o/\∃k:Nat,a=k/\k<b.length/\∃j,j<=k/\J2 (cS (a1,a2,a3,a4,a5,a6,a7,a8,a9,c,e,f,g,h,m,n,p,r,u,w,z,A,B,C,D,E,F,G,H,J,K,L,M,N,())) (cS (b1,b2,b3,b4,b5,b6,b7,b8,b9,O,P,Q,R,S,U,W,X,Y,a0,b0,c0,c1,c2,c3,c4,c5,c6,c7,c8,c9,d0,d1,d2,d3,())) j
def a1o:cx:=⟨[(9,false,[.ptr 0 0]),(10,false,[.ptr 33 0]),sI 125],tZ 0 20++om 20++tZ 33 53++om 53⟩
def NE(x:tP.inp.den)(y:a1o.den):Prop:=match x,y with
 |_,(i,G,H,J,K,L,M,N,O,P,b,c,e,f,g,h,l,m,n,o,p,q,r,s,t,u,v,w,z,A,B,C,D,E,F,Q)=>(∃j,j<=40/\J2 (cS (G,H,J,K,L,M,N,O,P,b,c,e,f,g,h,l,m,n,o,p,q,r,s,t,u,v,w,z,A,B,C,D,E,F,())) (cS Q) j)/\∃k:Nat,i=k/\k<=5/\∀a:Nat,a<k->(cS (G,H,J,K,L,M,N,O,P,b,c,e,f,g,h,l,m,n,o,p,q,r,s,t,u,v,w,z,A,B,C,D,E,F,())).go.getD a false=false
def a1p:cx:=⟨[(19,false,[.d (.sl .i64)]),(20,false,[.d (.sl .i64)]),(21,false,[.d (.sl tB)]),(22,false,[.d (.sl tB)]),sI 161,sI 162],[]⟩
def NF(x:tP.inp.den)(y:a1p.den):Prop:=match x,y with
 |_,(a,b,s,t,c,i,_)=>c=a.length/\a.length=b.length/\s.length=t.length/\a.length<=1000/\s.length<=1000/\((∀(n:Nat)(p q:Int),a[n]?=some p->b[n]?=some q->(eY p).1=(eY q).1)->s=t)/\∃k:Nat,i=k/\k<=a.length/\∀(n:Nat)(p q:Int),n<k->a[n]?=some p->b[n]?=some q->(eY p).1=(eY q).1
def a1q:cx:=⟨[(21,false,[.d (.sl tB)]),(22,false,[.d (.sl tB)]),sI 187,sI 188],[]⟩
def NG(x:tP.inp.den)(y:a1q.den):Prop:=match x,y with
 |_,(s,t,a,i,_)=>s=t/\a=s.length/\s.length<=1000/\∃k:Nat,i=k/\k<=s.length
def a7n(x:tP.inp.den):eH:=⟨[(5,bS a1l (ND x) λ(_,t,_,_,i,_)=>(@bO Int Int Int _ t.length i).toNat),(11,pW a1n (JB x) (λ(_,_,_,a,i,_)=>(@bO Int Int Int _ a i).toNat) λ(_,_,_,_,b,_)=>[(5017,bS Tn (xi x b) λ_=>0),(5019,bS Tn (xi x b) λ_=>0)]),(24,bS a1o (NE x) λ(i,_)=>(@bO Int Int Int _ 5 i).toNat),(34,bS a1p (NF x) λ(_,_,_,_,a,i,_)=>(@bO Int Int Int _ a i).toNat),(42,bS a1q (NG x) λ(_,_,a,i,_)=>(@bO Int Int Int _ a i).toNat)],[(8,bS a1m (Tl x) λ_=>0)],[],[],0⟩
theorem JC:bW Tryz.prog 4 tP:=kC JA a7n (∀(c:Int)(d:List (Int×Int×Int×Int×Int×Int×BL×Lt))(e:List BL)(f:List Int)Q,let A:=True/\Q ⟨0,true,()⟩;let x:=(c,d,e,f,());bg tP x Q->JR c/\∀(b:(Int×Int)×Wd),ff lw c b->JR c/\∀(B8:(Int×Int)×Wd),ff lw c B8->(Is (ND x (d,e,f,0,0,wO b.2 (cY B8.2)))/\∀(z:List (Int×Int×Int×Int×Int×Int×BL×Lt))(k:List BL)(N:List Int)(u l:Int),let C:=1+min (nI (gD k l [])) 3001;WA λa8 a9 b0 b1 b2 b3 b4 b5 b6 b7 b8 b9 c0 c1 c2 c3 c4 c5 c6 c7 c8 c9 d0 d1 d2 d3 d4 d5 d6 d7 d8 d9 e0 e1=>WA λe2 e3 e4 e5 e6 e7 e8 e9 f0 f1 f2 f3 f4 f5 f6 f7 f8 f9 g0 g1 g2 g3 g4 g5 g6 g7 g8 g9 h0 h1 h2 h3 h4 m=>let D:=(a8,a9,b0,b1,b2,b3,b4,b5,b6,b7,b8,b9,c0,c1,c2,c3,c4,c5,c6,c7,c8,c9,d0,d1,d2,d3,d4,d5,d6,d7,d8,d9,e0,e1,e2,e3,e4,e5,e6,e7,e8,e9,f0,f1,f2,f3,f4,f5,f6,f7,f8,f9,g0,g1,g2,g3,g4,g5,g6,g7,g8,g9,h0,h1,h2,h3,h4,m,());let R:=Tl x (z,k,N,u,D);ND x (z,k,N,u,l,D)->Bd (l<nI k) (Bd (u<=3000) (iN l k/\am C/\am (u+C)/\am (l+1)/\Is (ND x (z,k,N,u+C,l+1,D)/\lN (nI k-(l+1)) (nI k-l))) (Is R)) (Is R))/\∀(z:List (Int×Int×Int×Int×Int×Int×BL×Lt))(k:List BL)(N:List Int)(u:Int),WA λl a8 a9 b0 b1 b2 b3 b4 b5 b6 b7 b8 b9 c0 c1 c2 c3 c4 c5 c6 c7 c8 c9 d0 d1 d2 d3 d4 d5 d6 d7 d8 d9 e0=>WA λe1 e2 e3 e4 e5 e6 e7 e8 e9 f0 f1 f2 f3 f4 f5 f6 f7 f8 f9 g0 g1 g2 g3 g4 g5 g6 g7 g8 g9 h0 h1 h2 h3 h4=>let S:=(l,a8,a9,b0,b1,b2,b3,b4,b5,b6,b7,b8,b9,c0,c1,c2,c3,c4,c5,c6,c7,c8,c9,d0,d1,d2,d3,d4,d5,d6,d7,d8,d9,e0,e1,e2,e3,e4,e5,e6,e7,e8,e9,f0,f1,f2,f3,f4,f5,f6,f7,f8,f9,g0,g1,g2,g3,g4,g5,g6,g7,g8,g9,h0,h1,h2,h3,h4,());Tl x (z,k,N,u,S)->True/\∀(b:Bool),(b=true->z.length<=40/\∀(s:Int×Int×Int×Int×Int×Int×BL×Lt),s∈z->TU s)->Br (!b) A (Bd (3000<u) A (Is (JB x (k,N,z,nI z,0,S))/\∀(m:List BL)(Y:List Int)(g:List (Int×Int×Int×Int×Int×Int×BL×Lt))(q a:Int),WA λh5 h6 h7 h8 h9 i0 i1 i2 i3 i4 i5 i6 i7 i8 i9 j0 j1 j2 j3 j4 j5 j6 j7 j8 j9 k0 k1 k2 k3 k4 k5 k6 k7 k8=>WA λk9 l0 l1 l2 l3 l4 l5 l6 l7 l8 l9 m0 m1 m2 m3 m4 m5 m6 m7 m8 m9 n0 n1 n2 n3 n4 n5 n6 n7 n8 n9 o0 o1 o2=>let U:=xi x a (m,Y,a,g,q,a,h5,h6,h7,h8,h9,i0,i1,i2,i3,i4,i5,i6,i7,i8,i9,j0,j1,j2,j3,j4,j5,j6,j7,j8,j9,k0,k1,k2,k3,k4,k5,k6,k7,k8,k9,l0,l1,l2,l3,l4,l5,l6,l7,l8,l9,m0,m1,m2,m3,m4,m5,m6,m7,m8,m9,n0,n1,n2,n3,n4,n5,n6,n7,n8,n9,o0,o1,o2,gD g a zS,gD g a zS,());let E:=(h5,h6,h7,h8,h9,i0,i1,i2,i3,i4,i5,i6,i7,i8,i9,j0,j1,j2,j3,j4,j5,j6,j7,j8,j9,k0,k1,k2,k3,k4,k5,k6,k7,k8,k9,l0,l1,l2,l3,l4,l5,l6,l7,l8,l9,m0,m1,m2,m3,m4,m5,m6,m7,m8,m9,n0,n1,n2,n3,n4,n5,n6,n7,n8,n9,o0,o1,o2,());let W:=am (a+1)/\Is (JB x (m,Y,g,q,a+1,E)/\lN (q-(a+1)) (q-a));JB x (m,Y,g,q,a,E)->Bd (a<q) (iN a g/\Br ((gD g a zS).1==11) W (Br ((gD g a zS).1==10) W ((Br ((gD g a zS).1==1) (Bd (a<nI m) (iN a m/\Is (xi x a (m,Y,a,g,q,a,h5,h6,h7,h8,h9,i0,i1,i2,i3,i4,i5,i6,i7,i8,i9,j0,j1,j2,j3,j4,j5,j6,j7,j8,j9,k0,k1,k2,k3,k4,k5,k6,k7,k8,k9,l0,l1,l2,l3,l4,l5,l6,l7,l8,l9,m0,m1,m2,m3,m4,m5,m6,m7,m8,m9,n0,n1,n2,n3,n4,n5,n6,n7,n8,n9,o0,o1,o2,gD g a zS,((gD g a zS).1,(gD g a zS).2.1,(gD g a zS).2.2.1,(gD g a zS).2.2.2.1,(gD g a zS).2.2.2.2.1,(gD g a zS).2.2.2.2.2.1,gD m a [],(gD g a zS).2.2.2.2.2.2.2),()))) (Is U)) (Is U))/\∀(i:List BL)(v:List Int)(r:Int)(O:List (Int×Int×Int×Int×Int×Int×BL×Lt))(o3 o4:Int),WA λo5 o6 o7 o8 o9 p0 p1 p2 p3 p4 p5 p6 p7 p8 p9 q0 q1 q2 q3 q4 q5 q6 q7 q8 q9 r0 r1 o p r2 r3 r4 r5 r6=>WA λr7 r8 r9 s0 s1 s2 s3 s4 s5 s6 s7 s8 s9 t0 t1 t2 t3 t4 t5 t6 t7 t8 t9 u0 u1 u2 u3 t w F G H P y=>∀(h n:Int×Int×Int×Int×Int×Int×BL×Lt),let J:=(i,v,r,O,o3,o4,o5,o6,o7,o8,o9,p0,p1,p2,p3,p4,p5,p6,p7,p8,p9,q0,q1,q2,q3,q4,q5,q6,q7,q8,q9,r0,r1,o,p,r2,r3,r4,r5,r6,r7,r8,r9,s0,s1,s2,s3,s4,s5,s6,s7,s8,s9,t0,t1,t2,t3,t4,t5,t6,t7,t8,t9,u0,u1,u2,u3,t,w,F,G,H,P,y,h,n,());xi x a J->(Br (h.1==3) (Bd (r<nI v) (iN r v/\Is (xi x a (i,v,r,O,o3,o4,o5,o6,o7,o8,o9,p0,p1,p2,p3,p4,p5,p6,p7,p8,p9,q0,q1,q2,q3,q4,q5,q6,q7,q8,q9,r0,r1,o,p,r2,r3,r4,r5,r6,r7,r8,r9,s0,s1,s2,s3,s4,s5,s6,s7,s8,s9,t0,t1,t2,t3,t4,t5,t6,t7,t8,t9,u0,u1,u2,u3,t,w,F,G,H,P,y,h,(n.1,n.2.1,n.2.2.1,n.2.2.2.1,n.2.2.2.2.1,gD v r 0,n.2.2.2.2.2.2),()))) (Is (xi x a J))) (Is (xi x a J)))/\∀(K:List BL)(B:List Int)(j:Int)(B9:List (Int×Int×Int×Int×Int×Int×BL×Lt))(B5 u8:Int),WA λu9 v0 v1 v2 v3 v4 v5 v6 v7 v8 v9 w0 w1 w2 w3 w4 w5 w6 w7 w8 w9 x0 x1 x2 x3 x4 x5 x6 x7 x8 x9 y0 u5 y1=>let L:=cS (u9,v0,v1,v2,v3,v4,v5,v6,v7,v8,v9,w0,w1,w2,w3,w4,w5,w6,w7,w8,w9,x0,x1,x2,x3,x4,x5,x6,x7,x8,x9,y0,u5,y1,());WA λy2 y3 y4 y5 y6 y7 y8 y9 z0 z1 z2 z3 z4 z5 z6 z7 z8 z9 A0 A1 A2 A3 A4 A5 A6 A7 A8 A9 B0 B1 B2 B3 u6 B4=>let M:=cS (y2,y3,y4,y5,y6,y7,y8,y9,z0,z1,z2,z3,z4,z5,z6,z7,z8,z9,A0,A1,A2,A3,A4,A5,A6,A7,A8,A9,B0,B1,B2,B3,u6,B4,());∀(B6 B7:Int×Int×Int×Int×Int×Int×BL×Lt),xi x a (K,B,j,B9,B5,u8,u9,v0,v1,v2,v3,v4,v5,v6,v7,v8,v9,w0,w1,w2,w3,w4,w5,w6,w7,w8,w9,x0,x1,x2,x3,x4,x5,x6,x7,x8,x9,y0,u5,y1,y2,y3,y4,y5,y6,y7,y8,y9,z0,z1,z2,z3,z4,z5,z6,z7,z8,z9,A0,A1,A2,A3,A4,A5,A6,A7,A8,A9,B0,B1,B2,B3,u6,B4,B6,B7,())->(ah B6.2.2.2.2.2.2.1<=1000000/\lh L/\∃c,cU L (c+5*u5.length+3))/\∀(b:(Int×Int×Nw)×Wd),mY L B6 b->(ah B7.2.2.2.2.2.2.1<=1000000/\lh M/\∃c,cU M (c+5*u6.length+3))/\∀(u7:(Int×Int×Nw)×Wd),mY M B7 u7->Br (!b.1.1==u7.1.1) A (am (u8+1)/\Is (JB x (K,B,B9,B5,u8+1,wO b.2 (cY u7.2))/\lN (B5-(u8+1)) (q-a)))))) (Is (NE x (0,E))/\∀(i:Int),WA λv r O o3 o4 o5 o6 o7 o8 o9 p0 p1 p2 p3 p4 p5 p6 p7 p8 p9 q0 q1 q2 q3 q4 q5 q6 q7 q8 q9 r0 r1 o p=>let z22:=decide (0<=i)&&decide (i<5)&&gD O i false;WA λr2 r3 r4 r5 r6 r7 r8 r9 s0 s1 s2 s3 s4 s5 s6 s7 s8 s9 t0 t1 t2 t3 t4 t5 t6 t7 t8 t9 u0 u1 u2 u3 t w=>let X:=(v,r,O,o3,o4,o5,o6,o7,o8,o9,p0,p1,p2,p3,p4,p5,p6,p7,p8,p9,q0,q1,q2,q3,q4,q5,q6,q7,q8,q9,r0,r1,o,p,r2,r3,r4,r5,r6,r7,r8,r9,s0,s1,s2,s3,s4,s5,s6,s7,s8,s9,t0,t1,t2,t3,t4,t5,t6,t7,t8,t9,u0,u1,u2,u3,t,w,());NE x (i,X)->Bd (i<5) (O.length=5/\Br z22 A (am (i+1)/\Is (NE x (i+1,X)/\lN (5-(i+1)) (5-i)))) (p.length<=1000000/\w.length<=1000000/\(o.length<=1000000/\∀(b:BL),b∈o->b.length<=10000000)/\(t.length<=1000000/\∀(b:BL),b∈t->b.length<=10000000)/\Br (!(nI o)==nI t) (Q ⟨0,false,()⟩) (Br (!(nI p)==nI w) (Q ⟨0,false,()⟩) (Br (!(nI p)==nI o) (Q ⟨0,false,()⟩) (Is (NF x (p,w,o,t,nI p,0,()))/\∀(F G:List Int)(H P:List BL)(y h:Int),let z23:= !(eY (gD F h 0)).1==(eY (gD G h 0)).1;NF x (F,G,H,P,y,h,())->Bd (h<y) (iN h F/\True/\iN h G/\True/\Br z23 A (am (h+1)/\Is (NF x (F,G,H,P,y,h+1,())/\lN (y-(h+1)) (y-h)))) (Is (NG x (H,P,nI H,0,()))/\∀(n K:List BL)(B j:Int),let z25:= !gD n j []==gD K j [];NG x (n,K,B,j,())->Bd (j<B) (iN j n/\iN j K/\Br z25 (Q ⟨0,false,()⟩) (am (j+1)/\Is (NG x (n,K,B,j+1,())/\lN (B-(j+1)) (B-j)))) A))))))))) (by
 conv=>zeta
 unfold Bd Br WA gD iN lN nI bg cY wO zS;rintro n l0 t0 v0 Q ⟨hn,B⟩;have B:Q ⟨0,(true,())⟩:=B;refine⟨hn,λy h=>⟨hn,λy' h'=>⟨⟨⟨⟨rfl,rfl,rfl,a7m hn h h',bt,0,rfl,aq _,bp _,λ_ b A=>by cases A⟩⟩,?_⟩,?_⟩⟩⟩
 ·intro l t v c i;refine Wd.all λu=>?_;refine Wd.all λw=>?_;rintro⟨e,f,x,J,g2,k,M,hk,g1,P⟩;have e:l=l0:=e;have f:t=t0:=f;have x:v=v0:=x;have J:J2 u w 0:=J;have g1:@aX Int _ k c:=g1;have g2:@aX Int _ c 10000:=g2;have M:i=(k:Int):=M;subst e f x M;have hk:k<=t.length:=hk;have P:@aX Int _ c 3000->∀b∈t.take k,b.length<=3000:=P;refine⟨λc1=>⟨λc2=>?_,λc2=>⟨⟨rfl,rfl,rfl,J,λr=>absurd r (ap c2)⟩⟩⟩,λc1=>⟨⟨rfl,rfl,rfl,J,λr=>?_⟩⟩⟩
  ·have c1:=af c1;have c2:=af c2;have W:k<t.length:=ac
   rw[show((k:Int)).toNat=k by omega];have ht:t.take (k+1)=t.take k++[t.getD k []]:=di W;generalize t.getD k []=b0 at*;have m:0<=min (b0.length:Int) 3001/\min (b0.length:Int) 3001<=3001/\(min (b0.length:Int) 3001<=3000->b0.length<=3000):=ac
   generalize min (b0.length:Int) 3001=q at*;refine⟨ac,cv,cv,cv,⟨⟨rfl,rfl,rfl,J,?_,k+1,rfl,W,?_,λd b A=>?_⟩,ac⟩⟩
   ·show @aX Int _ (c+(1+q)) 10000;omega
   ·show @aX Int _ ((k+1:Nat):Int) (c+(1+q));omega
   ·have d:c+(1+q)<=3000:=d;have A:b∈t.take (k+1):=A;rw[ht]at A;rcases ba.1 A with A|A
    ·exact P c2 b A
    ·rw[bV.1 A];exact m.2.2 ac
  ·have c1:=ap c1;have:=P r;rw[bb ac]at this;exact this
 intro l t v c;refine Wd.all λu=>?_;refine Wd.all λw=>?_;rintro⟨e,f,x,J,P⟩;have e:l=l0:=e;have f:t=t0:=f;have x:v=v0:=x;have J:J2 u w 0:=J;subst e f x;have P:@aX Int _ c 3000->∀b∈t,b.length<=3000:=P;refine⟨trivial,λsm a6=>⟨λ_=>⟨trivial,B⟩,λd=>⟨λ_=>⟨trivial,B⟩,λc1=>?_⟩⟩⟩;have d:sm=true:=cf d
 obtain⟨X,O⟩:=a6 d;have P:=P (Int.not_lt.1 (ap c1));clear a6 d c1;refine⟨⟨⟨rfl,rfl,rfl,rfl,X,O,P,0,rfl,aq _,0,aE _,J⟩⟩,?_⟩;clear J;intro t1 v1 l1 ln i;refine Wd.all λu1=>?_;refine Wd.all λw1=>?_;rintro⟨a1,a2,a3,a4,-,-,-,k,a5,hk,j,hj,J⟩;have a1:t1=t:=a1;have a2:v1=v:=a2;have a3:l1=l:=a3;have a4:ln=(l.length:Int):=a4;have a5:i=(k:Int):=a5;have J:J2 u1 w1 j:=J;subst a1 a2 a3 a4 a5;have hk:k<=l1.length:=hk;refine⟨λc2=>?_,λc2=>⟨⟨⟨⟨j,ac,J⟩,0,rfl,aq _,λa ha=>absurd ha (Nat.not_lt_zero _)⟩⟩,?_⟩⟩
 ·have W:k<l1.length:=by have:=af c2;omega
  rw[show((k:Int)).toNat=k by omega];have hs:=O _ (aV (z:=((0,0,0,0,0,0,[],0,0,0,0,[],[],[],()):jt)) W);generalize l1.getD k ((0,0,0,0,0,0,[],0,0,0,0,[],[],[],()):jt)=s at*;have C:s.2.2.2.2.2.2.1.length<=1000000:=by have:=hs.1;omega
  refine⟨ac,λ_=>⟨cv,⟨⟨rfl,rfl,rfl,rfl,X,O,P,k+1,rfl,W,j,ac,J⟩,ac⟩⟩,λD=>⟨λ_=>⟨cv,⟨⟨rfl,rfl,rfl,rfl,X,O,P,k+1,rfl,W,j,ac,J⟩,ac⟩⟩,λE=>?_⟩⟩;have D:s.1≠11:=cf D
  have E:s.1≠10:=cf E
  refine⟨⟨λk1=>⟨λr=>⟨by have:=af r;omega,⟨⟨rfl,rfl,rfl,rfl,rfl,rfl,C,?_,⟨rfl,rfl,λq=>absurd ?_ q,E,D⟩,k,rfl,W,j,hj,J⟩⟩⟩,λ_=>⟨⟨rfl,rfl,rfl,rfl,rfl,rfl,C,C,⟨rfl,rfl,λ_=>rfl,E,D⟩,k,rfl,W,j,hj,J⟩⟩⟩,λ_=>⟨⟨rfl,rfl,rfl,rfl,rfl,rfl,C,C,⟨rfl,rfl,λ_=>rfl,E,D⟩,k,rfl,W,j,hj,J⟩⟩⟩,?_⟩
  ·have:=P _ (aV (z:=([]:BL)) (show k<t1.length by have:=af r;omega));show(t1.getD k []).length<=1000000;omega
  ·have k1:@Eq Int s.1 1:=bz k1;show @aX Int _ 1 s.1/\@aX Int _ s.1 5;omega
  clear J E D C hs;intro t2 v2 q2 l2 b8 i2;refine Wd.all λu2=>?_;refine Wd.all λw2=>?_;rintro s o ⟨e,f,x,M,e5,e6,C,lo,R,Y,e7,S,j2,K,J⟩;have R:zH s o:=R;have J:J2 u2 w2 j2:=J;have x:q2=(k:Int):=x;refine⟨⟨λU=>⟨λr=>⟨by have:=af r;omega,⟨⟨e,f,x,M,e5,e6,C,lo,⟨R.1,R.2.1,λq=>absurd ?_ q,R.2.2.2⟩,Y,e7,S,j2,K,J⟩⟩⟩,λ_=>⟨⟨e,f,x,M,e5,e6,C,lo,R,Y,e7,S,j2,K,J⟩⟩⟩,λ_=>⟨⟨e,f,x,M,e5,e6,C,lo,R,Y,e7,S,j2,K,J⟩⟩⟩,?_⟩
  ·have U:@Eq Int s.1 3:=bz U;show @aX Int _ 1 s.1/\@aX Int _ s.1 5;omega
  clear R J e f x M e5 e6 C lo e7 S K;intro t3 v3 q3 l3 a8 i3;refine Wd.all λu3=>?_;refine Wd.all λw3=>?_;rintro s o ⟨b1,b2,b3,b4,b5,b6,C,lo,R,U,b7,a0,j3,b9,J⟩;have R:zH s o:=R;have J:J2 u3 w3 j3:=J;have b4:l3=l1:=b4;have b5:a8=(l1.length:Int):=b5;have b6:i3=(k:Int):=b6;have b7:(k:Int)=(U:Int):=b7;subst b4 b5 b6;have p:=J.pre ac;exact⟨⟨C,p.1⟩,λy hy=>⟨⟨lo,p.2⟩,λy' a9=>⟨λ_=>⟨trivial,B⟩,λhe=>⟨cv,⟨⟨b1,b2,rfl,rfl,X,O,P,k+1,rfl,W,j3+1,ac,J.step ac R hy a9 (cf he)⟩,ac⟩⟩⟩⟩⟩
 clear J;intro i;refine Wd.all λu2=>?_;refine Wd.all λw2=>?_;rintro⟨⟨j2,K,J⟩,Y,e,S,G⟩;have J:J2 u2 w2 j2:=J;have e:i=(Y:Int):=e;have G:∀a:Nat,a<Y->u2.go.getD a false=false:=G;subst e;have L:=J.len;refine⟨λr=>⟨L.1,λ_=>⟨trivial,B⟩,λd=>⟨cv,⟨⟨⟨j2,K,J⟩,Y+1,rfl,by have:=af r;omega,λa ha=>?_⟩,by have:=af r;omega⟩⟩⟩,λr=>?_⟩
 ·have r:=af r;rcases br a Y with g|g
  ·exact G a g
  ·have:a=Y:=ac
   subst this
   have d:u2.go.getD ((a:Int)).toNat false=false:=by
    rw[decide_eq_true r,decide_eq_true ac]at d;simpa using d
   rw[show((a:Int)).toNat=a by omega]at d;exact d
 have r:=ap r;obtain⟨L1,L2,L3,L4,L5,L6,L7⟩:=L;refine⟨ac,ac,⟨ac,λb A=>by have:=L6 b A;omega⟩,⟨ac,λb A=>by have:=L7 b A;omega⟩,λN=>?_,λ_=>⟨λN=>?_,λ_=>⟨λN=>?_,λ_=>⟨⟨⟨rfl,ac,L3.symm,ac,L2,λh=>J.fin (λa ha=>G a ac) h,0,rfl,aq _,λn p q h=>absurd h (Nat.not_lt_zero _)⟩⟩,?_⟩⟩⟩⟩
 ·exfalso;simp at N;omega
 ·exfalso;simp at N;omega
 ·exfalso;simp at N;omega
 clear J G L1 L2 L3 L4 L5 L6 L7 r;rintro a b s t3 ln i ⟨e,f1,f2,f3,f4,H,U,f,a0,F⟩;have e:ln=(a.length:Int):=e;have f:i=(U:Int):=f;have a0:U<=a.length:=a0;have f1:a.length=b.length:=f1;have F:∀(n:Nat)(p q:Int),n<U->a[n]?=some p->b[n]?=some q->(eY p).1=(eY q).1:=F;subst e f;refine⟨λN=>⟨by have:=af N;omega,trivial,by have:=af N;omega,trivial,λ_=>⟨trivial,B⟩,λd=>⟨cv,⟨⟨rfl,f1,f2,f3,f4,H,U+1,rfl,by have:=af N;omega,λn p q hn hp B=>?_⟩,by have:=af N;omega⟩⟩⟩,λN=>⟨⟨⟨H λn p q hp B=>F n p q ?_ hp B,rfl,f4,0,rfl,aq _⟩⟩,?_⟩⟩
 ·rcases br n U with g|g
  ·exact F n p q g hp B
  ·have:n=U:=ac
   subst this;rw[show((n:Int)).toNat=n by omega,aw,aw,hp,B]at d;simpa using d
 ·have:=(cq.1 hp).1;have:=ap N;omega
 rintro s1 t4 ln i ⟨e,f,x,k4,M,a7⟩;have e:s1=t4:=e;have f:ln=(s1.length:Int):=f;have M:i=(k4:Int):=M;have a7:k4<=s1.length:=a7;subst e f M;refine⟨λc5=>⟨by have:=af c5;omega,by have:=af c5;omega,λd=>?_,λ_=>⟨cv,⟨⟨rfl,rfl,x,k4+1,rfl,by have:=af c5;omega⟩,by have:=af c5;omega⟩⟩⟩,λ_=>⟨trivial,B⟩⟩;exfalso;simp at d)
def a7v:=kB 4 [tP] JA (bL (JC))
def a7o:Ct:=⟨4,Ti,[⟨[sL 0],[]⟩],λ_=>one True (true,())⟩
theorem To:bW Tryz.prog 4 a7o:=λ(n,x)Q a=>by
 by_cases h:JR n
 ·exact JC (n,x) Q ⟨h,a.2⟩
 ·exact Jz (n,x) Q ⟨h,a.2⟩
end Go.Tp
