/- A part of the proof of TopSealedSaid: no conditions; packed by a program of our own. -/
import Derived.Test.YtgpideichgnmhaaGreatPban
import Derived.Test.YtgpideichgnmhaaGreatPbam
open And renaming intro→cc
open Bool renaming and_eq_true→aI,or_eq_true→iH,true_and→fp
open Decidable renaming not_not→aC
open HSub renaming hSub→bv
open Int renaming toNat_natCast→aF,eq_ofNat_of_zero_le→bR,le_refl→bY
open LE renaming le→bc
open LT renaming lt→lB
open List renaming replicate→ak,length_append→aa,length_cons→ba,mem_append→bb,append_nil→aW,getElem?_eq_getElem→ap,getElem?_append_left→bU,getElem?_append_right→aU,length→ah,range→kz,getD_eq_getElem?_getD→aw,getElem?_eq_none→bD,map_append→dn,length_map→bT,mem_map→dM,map→rZ,mem_cons_self→aG,mem_cons_of_mem→aA,all_eq_true→cU,mem_of_getElem?→gN,getElem?_eq_some_iff→cy,mem_singleton→cf,length_singleton→bh,take_length→br
open Nat renaming le_refl→aD,le_trans→bq,zero_le→aq,lt_or_ge→bI,eq_zero_or_pos→jZ
open Prod renaming fst→ga
namespace Go.Tp
open Go.Hv Go.Proofs Go.RowKit
set_option maxRecDepth 100000
set_option maxHeartbeats 0
theorem jX(w:Wd)(i:Nat)(z:Cl×List Tm×KV){x:Nat}(a:x<5):(w.aft i z).ky x=w.ky x:=by
 rw[<-(eG w i z.1).2.2.2.2.2.2.2.2.2 x];rcases fo a with rfl|rfl|rfl|rfl|rfl<;>rfl
theorem jY(w:Wd)(b:BL)(n:Int){x:Nat}(a:x<5):(w.keep b n).ky x=w.ky x:=by rcases fo a with rfl|rfl|rfl|rfl|rfl<;>rfl
theorem Hy{w:Wd}{f:List BL}{i:Nat}{km:KM}(m:Bw w f i km){ts:List Tm}{N:Int}{a:Nat}{text:BL}{l:Lt}(g:LtM w ts a ((aO .i64 N km).getD []) text l)(n:l.2.2.1=N):rX ts f l:=by
 have b:=g.key;cases c:aO Ty.i64 N km with
 |none=>rw[c]at b;cases b
 |some v=>
  obtain⟨j,e,o,p,s⟩:=m _ (U_ c);obtain⟨q,h,r⟩:=g.box;rw[c]at h;have e:N=(j:Int)+1:=e;exact⟨v,q,_,by rw[n,e,show((j:Int)+1-1).toNat=j by omega];exact o,p,h,r⟩
theorem Ke.grow{K:Tm->Prop}{w w':Wd}{md:List Md}{c:List BL}(h:Ke w md c)(s:el w w')(l:w.d<=w'.d)(g:Gr K w.ts w'.ts)(e:∀i:Nat,i<5->(w'.cl i).km=(w.cl i).km)(f:∀i:Nat,i<5->w'.ky i=w.ky i):Ke w' md c:=
 h.ext s.sec (by rw[s.lg]) l ⟨[],by rw[s.st,aW]⟩ ⟨[],by rw[aW]⟩ g (λi b=>by rw[e i b];exact h.km i b) (λi b=>by rw[f i b];exact h.ky i b) (λi b N=>by rw[e i b,f i b];exact h.eq i b N)
  (λn a q j=>by rw[bD q]at j;cases j)
theorem Ke.store{K:Tm->Prop}{w w':Wd}{md:List Md}{j:List BL}(h:Ke w md j)(E:md.length=w.st.length)(s:el w w')(r:w.d<=w'.d)(g:Gr K w.ts w'.ts)(m:∀i:Nat,i<5->(w'.cl i).km=(w.cl i).km)(o:∀i:Nat,i<5->w'.ky i=w.ky i)(b:BL)(p a:Int)(f:Bool)
 (new:f=true->∃l,b=gh l/\jR l=true/\l.2.1=a/\rX w'.ts j l):Ke (w'.keep b p) (md++[(a,f,())]) j:=by
 refine h.ext (w':=w'.keep b p) s.sec (by show w'.lg.2.1=_;rw[s.lg]) r ⟨[b],by show w'.st++_=_;rw[s.st]⟩ ⟨_,rfl⟩ g (λi c=>by rw[hK _ _ _ c,m i c];exact h.km i c) (λi c=>by rw[jY _ _ _ c,o i c];exact h.ky i c) (λi c N=>by rw[hK _ _ _ c,jY _ _ _ c,m i c,o i c];exact h.eq i c N) ?_;intro n x q e;rw[aU q]at e
 have t:n-md.length=0:=by
  rcases jZ (n-md.length)with u|u
  ·exact u
  ·rw[bD (by simp;omega)]at e;cases e
 rw[t]at e;have e:=Option.some.inj e;obtain⟨v,y,_⟩:=Prod.mk.inj e|>.imp id Prod.mk.inj;obtain⟨l,z,A,B,C⟩:=new y;refine .inr ⟨l,?_,A,by rw[B,v],C⟩;show(w'.st++[b])[n]?=_;have D:n=w'.st.length:=by rw[s.st];omega
 rw[D,aU (aD _),z];simp
theorem UR{w:Wd}{md:List Md}(h:Au w md){n i:Nat}(j:cR w (n+1))(hi:i<5){ops:List Op}{l:Int×Pg}{z:(BL×Int)×Pg×Ln×List Tm×KV}
 (a:z=x8 (w.cl i).c (w.cl i).sg (w.cl i).lg (w.cl i).pg (w.cl i).km (w.cl i).bk ops l w.ts w.m):Gr (λ_=>True) w.ts z.2.2.2.1:=by
 unfold x8 at a;rw[ck]at a;split at a
 ·rw[a];exact Gr.refl _ _
 split at a
 ·rw[a];exact Gr.refl _ _
 split at a
 ·rw[a];exact Gr.refl _ _
 split at a
 ·rw[a];exact Gr.refl _ _
 dsimp only at a;have o:=vA (l0:=(2,0,0,(fx (w.cl i).bk (w.cl i).c).2.1+1,(fx (w.cl i).bk (w.cl i).c).2.2.1,[],[],())) (text:=eu ops) h j hi rfl;generalize nl (w.cl i).c (w.cl i).sg (w.cl i).lg (w.cl i).km (2,0,0,(fx (w.cl i).bk (w.cl i).c).2.1+1,(fx (w.cl i).bk (w.cl i).c).2.2.1,[],[],()) (eu ops) w.ts w.m=s at*;rcases o with⟨e,b⟩|⟨e,r,b,p,_⟩
 ·rw[am e]at a;rw[a,b];exact Gr.refl _ _
 ·rw[af (λq=>q e)]at a;have b:=b.imp (K':=λ_=>True) λ_ _=>trivial;have f:=(yb (k:=10000*(n+1)+8999) b.su (b.su.k.1 _ p.le)).1.imp (K':=λ_=>True) λ_ _=>trivial;have g:=λlk=>(v_ (lk:=lk) (bk:=(w.cl i).bk) (k:=10000*(n+1)+8000) (f.su.mono (by omega))).imp (K':=λ_=>True) λ_ _=>trivial;unfold Zy at a;dsimp only at a;split at a
  ·rw[a];exact b.gr.trans (f.gr.trans (g _).gr)
  ·rw[a];exact b.gr.trans (f.gr.trans (g _).gr)
theorem lU{md:List Md}{s:jx}{y:t8}(h:y.1.2.1=0):rS md s y=md:=am h
theorem zF{md:List Md}{s:jx}{w:Wd}{b:BL}{a:Int}:rS md s (nf (zw w b a))=md++[oe s]:=by
 unfold rS;rw[af];show(w.st.length:Int)+1≠0;omega
theorem US{w:Wd}{md:List Md}{A:List BL}(h:Au w md)(K:Ke w md A){n:Nat}(D:cR w (n+1)){s:jx}(S:1<=s.1/\s.1<=5){z:yc}(r:kv w s z):Ke z.2 (rS md s (nf z)) A:=by
 unfold kv at r;split at r
 ·rw[r];exact K
 rename_i no;rw[not_or,not_or]at no;split at r
 ·rw[r];exact K
 obtain⟨q,x,rfl⟩:=r;obtain⟨i,E⟩:=bR (Int.not_lt.1 no.1);have U:s.2.1.toNat=i:=by rw[E,aF]
 have a:i<5:=by
  have q:=Int.not_le.1 no.2.1;rw[E]at q;exact Int.ofNat_lt.1 q
 rw[U]at x⊢;have F:oe s=((i:Int),true,()):=by unfold oe;rw[am S,E]
 have fin:∀{b:Wd}{r:BL×Int},el w b->w.d<=b.d->Gr (λ_=>True) w.ts b.ts->(∀j:Nat,j<5->(b.cl j).km=(w.cl j).km)->(∀j:Nat,j<5->b.ky j=w.ky j)->(r.2=0->∃l,r.1=gh l/\jR l=true/\l.2.1=(i:Int)/\rX b.ts A l)->Ke (ku b i r).2 (rS md s (nf (ku b i r))) A:=by
  intro b r L M N O P W;unfold ku;split
  ·rw[lU rfl];exact K.grow L M N O P
  ·rename_i g;rw[zF,F];exact K.store h.ml L M N O P _ _ _ _ λ_=>W (aC.1 g)
 have told:∀{u:Int}{t:BL}{z:(BL×Int)×La×List Tm×KV},z=mA u t (w.cl i).c (w.cl i).sg (w.cl i).lg (w.cl i).la (w.cl i).km w.ts w.m->Ke (ku (w.told i z) i z.1).2 (rS md s (nf (ku (w.told i z) i z.1))) A:=by
  intro u t z v
  have f:∀j:Nat,j<5->((w.told i z).cl j).km=(w.cl j).km:=λj o=>by
   rw[zy w a o];split
   ·rename_i e;rw[e]
   ·rfl
  have C:=fE w i ({w.cl i with la:=z.2.1},z.2.2.1,z.2.2.2);rcases Bi h D a v with⟨B,G⟩|⟨B,G,Y,l,X,H,Q,y,J,_⟩
  ·refine fin C.1 (Int.le_of_eq ((eG w i _).2.2.2.1).symm) ?_ f (λj o=>jX w i _ o) λq=>absurd q B;show Gr _ _ z.2.2.1;rw[G];exact Gr.refl _ _
  ·exact fin C.1 (Int.le_of_eq ((eG w i _).2.2.2.1).symm) (Q.gr.imp λ_ _=>trivial) f (λj o=>jX w i _ o) λ_=>⟨l,H,y.ok,y.au,Hy (K.km i a) y J⟩
 unfold vQ at x;split at x
 ·obtain⟨t,z,v,rfl⟩:=x;exact told v
 split at x
 ·obtain⟨t,z,v,rfl⟩:=x;exact told v
 ·obtain⟨p,l,e,h1,h2,⟨R,rfl⟩|⟨R,ch,z,h4,v,rfl⟩⟩:=x
  ·exact fin (dw w) (bY _) (Gr.refl _ _) (λ_ _=>rfl) (λ_ _=>rfl) λq=>absurd q R
  ·have f:∀j:Nat,j<5->((w.wrt i z).cl j).km=(w.cl j).km:=λj o=>by
    rw[rR w a o];split
    ·rename_i e;rw[e]
    ·rfl
   have C:=fE w i ({w.cl i with pg:=z.2.1,bk:=z.2.2.1},z.2.2.2.1,z.2.2.2.2);refine fin C.1 (Int.le_of_eq ((eG w i _).2.2.2.1).symm) (UR h D a v) f (λj o=>jX w i _ o) λq=>?_;rcases G4 h D a v with⟨B,_⟩|⟨B,G,l,X,H,Q,y,J,_⟩
   ·exact absurd q B
   ·exact⟨l,H,y.ok,y.au,Hy (K.km i a) y J⟩
theorem Dg{w:Wd}{md:List Md}{b:List BL}(K:Ke w md b){ts:List Tm}{e:Tm->Prop}(g:Gr e w.ts ts)(f:ts.length<=4294967296){key:BL}{c:Nat}(o:w.d<(c:Int))(a:c<=1099511627776)(h:Nm ts key (115,[dv (c:Int)],()))(i:Nat):b[i]?≠some key:=by
 intro q;obtain⟨j,p,l,m⟩:=K.dr i key q;have:=Nm.uni f h (g.nm m);have n:[dv (c:Int)]=[dv (j:Int)]:=aH (λt:Tm=>t.2.1) this;have:=yX a l (List.cons.inj n).1;omega
theorem BA{w:Wd}{md:List Md}{o:List BL}(h:Au w md)(K:Ke w md o){k:Nat}(S:cR w (k+2))(h4:w.st.length<400){n:Int}{y:(Int×Int)×Wd}(r:eN w n y):
 (y.1.1≠0/\y.1.2=0/\Ke y.2 md o)\/(y.1.1=0/\y.1.2≠0/\∃key,Ke y.2 (md++[(0,true,())]) (o++[key])):=by
 rcases vy h S h4 r with⟨e1,e2,e3,e4,F,g1,g2,g3,g4⟩|⟨e1,e2,e3,e4,e5,F,E,f1,f2,f3,f4,f5,f6,f7,f8,f9,a0,z,r1,G,A1,J,hz,g,O,L,a8,gE⟩
 ·rw[g3];exact .inl ⟨g2,rfl,K.grow (w':=w.su (w.d+1+1) (fA w n F).2) ⟨rfl,rfl,rfl,rfl,rfl⟩ (by show w.d<=w.d+1+1;omega) g4 (λi f=>by rw[xF _ _ _ f]) (λi f=>by rcases fo f with rfl|rfl|rfl|rfl|rfl<;>rfl)⟩
 ·refine .inr ⟨e1,by omega,(pO w).1,?_⟩;obtain⟨d1,d2,d3,d4⟩:=PF h S;have a5:pI (sV n 0 w.al):=λx A=>S.al.2 x (lv A);have a9:=S.st.1;have b0:=S.dr;have hE:=PC (lg:=w.lg) (sec:=w.se 0 1) (once:=(Dw w).1) (key:=(pO w).1) (ms:=sV n 0 w.al) (ns:=F) (k:=10000*(k+1)+10100) S.lg.1 a5 d1 h.d32 (by have:=h.le;omega);have hE:((fA w n F).1.2≠0/\_)\/((fA w n F).1.2=0/\_):=hE;rcases hE with⟨q,_⟩|⟨_,B,oc,c1,c2,c3,c4,c5,c6,c7,c8,c9,b3,P,b4,Q⟩
  ·exact absurd a0 q
  have c1:(fA w n F).1.1=B:=c1;have eE:B=E:=by rw[<-c1,f8]
  subst eE;have c9:Ok (λt=>gP t\/t=(103,[w.se 0 1,dL B],())) (10000*(k+1)+10100) (pO w).2.1 (fA w n F).2:=c9;have P:Nm (fA w n F).2.1 oc (112,[(Dw w).1],()):=P;have Q:∀(i:Nat)(p:Mb)(v:BL),(sV n 0 w.al)[i]?=some p->Nm (pO w).2.1 p.2.1 (112,[v],())->∃b,B.2.2.2.2.2.1[i]?=some b/\zx (fA w n F).2.1 B.1 (Dw w).1 (pO w).1 (fq B) p.1 v b:=Q;have gK:Gr (λ_=>True) (pO w).2.1 z.ts:=(c9.gr.imp λ_ _=>trivial).trans gE;have a6:z.ts.length<=4294967296:=by have:=J.ts.2;omega
  have E1:B.1=(w.lg.2.1.length:Int)+1:=by rw[c2];rfl
  have En:(B.1-1).toNat=w.lg.2.1.length:=by omega
  have a7:∀a j,z.se a j=w.se a j:=λa j=>by unfold Wd.se;rw[L]
  have U:Nm z.ts (pO w).1 (115,[dv ((w.d.toNat+2:Nat):Int)],()):=by
   have:=gK.nm d4
   rwa [show w.d+1+1=((w.d.toNat+2:Nat):Int)by omega]at this
  have M:=Dg K g a6 (c:=w.d.toNat+2) (by omega) (by omega) U;have s2:∃s,z.lg.2.1=w.lg.2.1++s:=⟨_,O⟩
  have EM:kw z z.ts (o++[(pO w).1]) B:=by
   refine⟨?_,(Dw w).1,(pO w).1,?_,c6,c7,?_,λi p hp=>?_⟩
   ·rw[O,En,aU (aD _)];simp
   ·rw[En,<-K.len,aU (aD _)];simp
   ·have:B.2.2.2.2.1=oc:=by rw[c2];rfl
    rw[this];exact gE.nm P
   ·rw[f6]at hp;obtain⟨a,x,yy,a1,a2,a3,a4⟩:=h.al p (lv (gN hp));obtain⟨b,b1,b2⟩:=Q i p (w.se a 0) hp (by rw[a2];exact d2.nm a3);exact⟨a,b,a1,by rw[a2],b1,by rw[a7];exact b2.gr gE⟩
  have W:∀i,i<5->z.cl i=w.cl i:=λi f=>by rw[G];exact PD w n F _ _ _ f
  have X:∀i,i<5->z.ky i=w.ky i:=λi f=>by rw[G];rcases fo f with rfl|rfl|rfl|rfl|rfl<;>rfl
  have K1:Ke z (md++[(0,true,())]) (o++[(pO w).1]):=by
   have C:∀{i:Nat}{x:BL},i<o.length->(o++[(pO w).1])[i]?=some x->o[i]?=some x:=λq A=>by rwa [bU q]at A
   have D:∀{i:Nat}{x:BL},o.length<=i->(o++[(pO w).1])[i]?=some x->i=o.length/\x=(pO w).1:=λ{i x}q A=>by
    rw[aU q]at A
    have e0:i-o.length=0:=by
     rcases jZ (i-o.length)with u|u
     ·exact u
     ·rw[bD (by simp;omega)]at A;cases A
    rw[e0]at A;exact⟨by omega,(Option.some.inj A).symm⟩
   refine⟨?_,λi x A=>?_,λi j x f hj=>?_,λm a H=>?_,λi f=>?_,λi f=>?_,λi f N=>?_⟩
   ·rw[O,aa,aa,K.len];rfl
   ·have ed:z.d=w.d+1+1:=by rw[G];rfl
    rcases bI i o.length with q|q
    ·obtain⟨c,h1,h2,h3⟩:=K.dr i x (C q A);exact⟨c,by omega,h2,g.nm h3⟩
    ·obtain⟨_,rfl⟩:=D q A;exact⟨w.d.toNat+2,by omega,by omega,U⟩
   ·rcases bI i o.length with q|q<;>rcases bI j o.length with Y|Y
    ·exact K.dif i j x (C q f) (C Y hj)
    ·exact absurd ((D Y hj).2▸C q f) (M i)
    ·exact absurd ((D q f).2▸C Y hj) (M j)
    ·rw[(D q f).1,(D Y hj).1]
   ·have R:z.st=w.st++[fL B]:=by rw[G];rfl
    rcases bI m md.length with q|q
    ·rw[bU q]at H;rcases K.hon m a H with⟨e,q1,q2,q3,q4⟩|⟨l,q1,q2,q3,q4⟩
     ·exact .inl ⟨e,by rw[R];exact dQ q1,q2,q3,(q4.gr g).lgs L s2⟩
     ·exact .inr ⟨l,by rw[R];exact dQ q1,q2,q3,(q4.gr g).ks _⟩
    ·rw[aU q]at H
     have e0:m-md.length=0:=by
      rcases jZ (m-md.length)with u|u
      ·exact u
      ·rw[bD (by simp;omega)]at H;cases H
     rw[e0]at H;have H:=Option.some.inj H;have ea:a=0:=(aH ga H).symm;refine .inl ⟨B,?_,c3,ea,EM⟩;have:=h.ml;rw[R,show m=w.st.length by omega,aU (aD _)];simp
   ·rw[W i f];exact(K.km i f).lgs s2
   ·rw[X i f];exact(K.ky i f).lgs s2
   ·rw[X i f,W i f];exact K.eq i f N
  exact zE A1 K1 J (by omega) hz
theorem P1:∀{a:List (Int×BL)}{w w':Wd}{md:List Md}{c:List BL}{n:Nat},Au w md->Ke w md c->cR w (n+a.length)->(∀p∈a,0<=p.1/\p.1<5)->xG a w w'->Ke w' md c
 |[],_,_,_,_,_,_,K,_,_,e=>by
  have e:_=_:=e;subst e;exact K
 |p::a,w,w',md,c,n,h,K,f,b,⟨y,g,i⟩=>by
  obtain⟨j,o,r,s⟩:=rQ h (n:=n+a.length) (f.mono (by simp;omega)) (b p (aG ..)) g;have l:=iA (n:=n+a.length) (f.mono (by simp;omega)) (b p (aG ..)) g;exact P1 j (zE h K (n:=n+a.length) (f.mono (by simp;omega)) (b p (aG ..)) g) l (λq m=>b q (aA _ m)) i
theorem V_{w:Wd}{md:List Md}{c:List BL}(h:Au w md)(K:Ke w md c){n:Nat}(p:cR w (n+5*w.st.length+3)){s:jx}{y:t8}(r:lx w s y):∃a,Ke y.2 (rS md s y) a:=by
 have hB:∃a,Ke (bad w).2 (rS md s (bad w)) a:=⟨c,by rw[lU rfl];exact K⟩
 have E:∀(b:BL)(F:Int),(oe s).2.1=false->∃a,Ke (nf (zw w b F)).2 (rS md s (nf (zw w b F))) a:=λb F f=>⟨c,by
  rw[zF,show oe s=((oe s).1,(oe s).2.1,())from rfl];exact K.store h.ml (dw w) (bY _) (Gr.refl (λ_=>True) _) (λ_ _=>rfl) (λ_ _=>rfl) _ _ _ _ λq=>by rw[f]at q;cases q⟩
 unfold lx at r;split at r
 ·rename_i J;obtain⟨z,u,rfl⟩:=r;exact⟨c,US h K (n:=n+5*w.st.length+2) p J u⟩
 rename_i j;split at r
 ·rename_i v;split at r
  ·rw[r];exact hB
  rename_i g;rw[not_or]at g;obtain⟨z,u,rfl⟩:=r;have f:oe s=(0,true,()):=by unfold oe;rw[af j,am v]
  rcases BA h K (k:=n+5*w.st.length+1) p (by omega) u with⟨C,t,D⟩|⟨C,t,key,D⟩
  ·exact⟨c,by rw[lU (show(nf z).1.2.1=0 from t)];exact D⟩
  ·refine⟨c++[key],?_⟩;unfold rS;rw[af (show¬(nf z).1.2.1=0 from t),f];exact D
 rename_i v;split at r
 ·rename_i L;split at r
  ·rw[r];exact hB
  rename_i g;rw[not_or]at g;obtain⟨z,u,rfl⟩:=r;exact⟨c,by rw[lU rfl];exact zE h K (n:=n+5*w.st.length+2) p (aC.1 g.1) u⟩
 rename_i L;split at r
 ·rename_i x;rw[r];unfold sY;have f:(oe s).2.1=false:=by unfold oe;rw[af j,af v,af (x.elim (λq=>vF q (by decide)) (λq=>vF q (by decide)))]
  split
  ·exact hB
  split
  ·exact E _ _ f
  ·exact E _ _ f
 rename_i x;split at r
 ·rename_i A;have f:(oe s).2.1=false:=by unfold oe;rw[af j,af v,af (vF A (by decide))]
  split at r
  ·rw[r];exact hB
  ·rw[r];exact E _ _ f
 rename_i A;split at r
 ·rename_i B;rw[r];have f:oe s=(s.2.1,false,()):=by unfold oe;rw[af j,af v,am B]
  have o:∀e:Int,∃a,Ke (nf ((e,0),w)).2 (rS md s (nf ((e,0),w))) a:=λe=>⟨c,by rw[lU rfl];exact K⟩;unfold hV;split
  ·exact o 26
  split
  ·exact o 22
  dsimp only;have M:Su (10000*(n+5*w.st.length+2+1)+9000+4) w.ts w.m:=(nc h p).mono (by omega);rcases GI (sec:=w.se s.2.1.toNat 1) (ep:=(aO .i64 s.2.2.2.1 (w.ky s.2.1.toNat)).getD []) (text:=s.2.2.2.2.2.2.1) (l:=s.2.2.2.2.2.2.2) M with⟨C,t⟩|⟨Q,b,R,g,y,C,t,D,S,N,O,_⟩
  ·rw[am C,t];exact o _
  ·rw[N];dsimp only;rw[af (λq=>q rfl)];refine⟨c,?_⟩;rw[zF,f];refine K.store (w':=w.su w.d y) h.ml ⟨rfl,rfl,rfl,rfl,rfl⟩ (bY _) O.gr (λi G=>by rw[xF _ _ _ G]) (λi G=>by rcases fo G with rfl|rfl|rfl|rfl|rfl<;>rfl) _ _ _ _ λq=>by cases q
 rename_i B;split at r
 ·obtain⟨U,P,rfl⟩:=r;have H:=iC h;exact⟨c,by rw[lU rfl];exact P1 h K (n:=0) (p.mono (by rw[lT];have:=lS p;have:=Nat.mul_le_mul_left w.st.length this;omega)) (oT H) P⟩
 ·rw[r];exact hB
theorem a4a:Ke ng [] []:=by
 have e:∀i:Nat,i<5->(ng.cl i).km=[]/\ng.ky i=[]:=λi b=>by rcases fo b with rfl|rfl|rfl|rfl|rfl<;>exact⟨rfl,rfl⟩
 exact⟨rfl,λi k h=>by simp at h,λi j k h=>by simp at h,λn a h=>by simp at h,λi b q c=>by rw[(e i b).1]at c;exact(by cases c),λi b q c=>by rw[(e i b).2]at c;exact(by cases c),λi b N=>by rw[(e i b).1,(e i b).2]⟩
inductive oU:List Tm×KV->List Tm×KV->Prop
 |refl (z):oU z z
 |key {a z} (e:Et) (id:Int) (sec:BL):oU a z->aB sec->aB e.2.2.2.2.1->bO 2 z.1->oU a (lM e id sec z.1 z.2).2
 |opn {a z} (ep:BL) (l:Lt):oU a z->bO 1 z.1->oU a (mW ep l z.1 z.2).2
theorem UT{a z:List Tm×KV}(h:oU a z)(j:xj a.1 a.2):xj z.1 z.2/\Gr (λ_=>True) a.1 z.1:=by
 induction h with
 |refl=>exact⟨j,Gr.refl _ _⟩
 |key e id m _ n o b f=>
  obtain⟨g,i⟩:=f;have q:=keP (e:=e) (c:=id) (k:=0) n o ⟨g,b⟩;exact⟨q.su.w,i.trans (q.gr.imp λ_ _=>trivial)⟩
 |opn p l _ b f=>
  obtain⟨g,i⟩:=f;have q:=loP (ep:=p) (l:=l) (k:=0) ⟨g,b⟩;exact⟨q.su.w,i.trans (q.gr.imp λ_ _=>trivial)⟩
def Lp(w:Wd)(i:Nat)(b:BL):Prop:=
 (cK b (eL b true (0,0)).2.1 true (eL b true (0,0)).2.2=0/\∃(z:List Tm×KV)(k:Int),oU (dC w.ts) z/\bO 2 z.1/\0<=k/\k<5/\(lM (eL b true (0,0)).1 k (w.se i 0) z.1 z.2).1.2=0)\/
 (cK b (fR b true (0,0)).2.1 true (fR b true (0,0)).2.2=0/\∃(z:List Tm×KV)(q:Int×BL),oU (dC w.ts) z/\bO 1 z.1/\q∈w.ky i/\(mW q.2 (fR b true (0,0)).1 z.1 z.2).1.2=0)
def gM(w:Wd)(i:Nat)(n:Int)(y:Bool):Prop:=y=true->1<=n/\n<=w.st.length/\Lp w i (w.st.getD (n-1).toNat [])
theorem P2{w:Wd}{md:List Md}(h:Au w md){n:Nat}(a:cR w n){z:List Tm×KV}(c:oU (dC w.ts) z):xj z.1 z.2/\Gr (λ_=>True) w.ts z.1:=by
 obtain⟨f,b,e⟩:=PY h.su (by have:=a.ts.2;omega) a.ts.1;have:=UT c (by rw[b];exact e)
 rwa [b]at this
theorem V'{w:Wd}{md:List Md}{l:List BL}(h:Au w md){n:Nat}(g:cR w n){E:Et}(c:ig E=true)(i:kw w w.ts l E){id:Nat}(e:id<5)(m:Lp w id (fL E)):P0 w E.1 id:=by
 rcases m with⟨_,z,k,f,o,u,v,j⟩|⟨f,_⟩
 ·obtain⟨p,q⟩:=P2 h g f;obtain⟨a,r,_⟩:=Ba c;rw[r]at j;exact i.mb (T_ h (by have:=g.ts.2;omega) (k:=0) ⟨p,o⟩ (i.gr q) e (Hw h e (by omega)) j).2
 ·have x:=(fy c).2.1
  have y:(fL E).length<=1000000000:=by
   have:=dS E.2.2.2.2.2.2.1;have:=(fy c).2.2.2.1;unfold aB at this;unfold fL;simp only[aa];unfold ig at c;have:=(ag c).2.2.2.2.2.2.2;omega
  obtain⟨s,t⟩:=A8 (b:=fL E) ⟨by omega,by omega,by omega⟩ f;exact absurd s.symm (Bz t)
theorem W_{w:Wd}{md:List Md}{x:List BL}(h:Au w md)(K:Ke w md x){n:Nat}(C:cR w n){l:Lt}(c:jR l=true)(D:rX w.ts x l){id:Nat}(r:id<5)(E:Lp w id (gh l)):P0 w l.2.2.1 id:=by
 have y:=(ez c).1;rcases E with⟨i,_⟩|⟨_,z,q,i,F,G,e⟩
 ·have hb:=lpL (l:=l) (by have:=y.2.2.2.2.2.2.2.2;omega) (by
   have c:=c;unfold jR at c;obtain⟨_,A,H,_⟩:=ag c;by_cases q:0<=(l.2.2.2.2.2.1.length:Int)-17
   ·have:=(Pw q A).2.1;omega
   ·omega) (by
   have c:=c;unfold jR at c;obtain⟨_,A,H,b3⟩:=ag c;omega)
  obtain⟨J,q2⟩:=Pm (b:=gh l) ⟨by omega,by omega,by omega⟩ i;exact absurd J (Bz c)
 ·obtain⟨L,M⟩:=P2 h C i;obtain⟨a,O,_⟩:=A9 c;rw[O]at e;dsimp only at e;obtain⟨j,k1,P,Q,R⟩:=K.ky id r q G;obtain⟨key,s,S,B,c2,o,v⟩:=D.gr M;have v1:=bz l.1;have v2:=bz l.2.1;have p:=Dv (t:=(107,[q.2,jg l],())) (k:=0) (m:=z.2) ⟨L,F⟩ (yV (k:=107) (by decide) (by decide) (show aB q.2 by unfold aB;omega) (show aB (jg l)by unfold aB jg;simp;omega));have U:=p.2 Q;unfold mW at e;rw[ck]at e;split at e
  ·exact absurd e (by show¬((1:Int)=0);decide)
  split at e
  ·rename_i g;exact absurd e g
  rename_i g;have g:(sG (dh (107,[q.2,jg l],()) z.1 z.2).1 l.2.2.2.1 (ei l) l.2.2.2.2.2.1 (dh (107,[q.2,jg l],()) z.1 z.2).2.1).2=0:=aC.1 g;have o:=p.1.gr.nm o;have v:=p.1.gr.nm v;have f:(dh (107,[q.2,jg l],()) z.1 z.2).2.1.length<=4294967296:=by have:=p.1.su.k.2;omega
  generalize dh (107,[q.2,jg l],()) z.1 z.2=N at*;have W:fK l.2.2.2.2.2.1 98 N.2.1=((98,[s,dv l.2.2.2.1,ei l,S],()),true):=rI f v
  have X:s=N.1:=by
   by_cases u:s=N.1
   ·exact u
   ·exfalso;unfold sG at g;split at g
    ·exact absurd g (by show¬((1:Int)=0);decide)
    ·rw[W,af (λq=>u q.2.1)]at g;exact absurd g (by show¬((9:Int)=0);decide)
  rw[X]at o;have Y:[key,jg l]=[q.2,jg l]:=aH (λt:Tm=>t.2.1) (Nm.uni f o U);rw[(List.cons.inj Y).1]at B;have:=K.dif _ _ _ B P;have i:=y.2.2.2.2.1
  rwa [show((j:Int)+1)=l.2.2.1 by omega]at R
def xK(b:BL):Int:=if cK b (eL b true (0,0)).2.1 true (eL b true (0,0)).2.2≠0 then 0 else(eL b true (0,0)).1.1
def Hz:Ct:=⟨1,⟨[sB 0],[]⟩,[⟨[sI 0],[]⟩],λ(b,_)=>dy (b.length<=10000000) (xK b) λy=>(y,())⟩
theorem HA:bS Tryz.prog 11 Hz:=kC xC (cE Hz 0) (∀(a:BL)Q,bd Hz (a,()) Q->a.length<=1099511627776/\bQ a 0/\∀b,let z:= !cK a b.2.1 true b.2.2==0;b=eL a true (0,0)->bQ a b.2.1/\Br z (Q ⟨0,0,()⟩) (Q ⟨0,b.1.1,()⟩)) (by
 conv=>zeta
 unfold Br bd;rintro b Q ⟨h,g⟩;have a:∀y,xK b=y->Q ⟨0,(y,())⟩:=λy e=>g y e.symm;clear g;have i:bQ b 0:=⟨by omega,by omega,by omega⟩;unfold xK at a;refine⟨by omega,i,λx f=>⟨by rw[f];exact(vm i).1,λc=>a _ ?_,λc=>a _ ?_⟩⟩
 ·rw[<-f,am (jU c)]
 ·rw[<-f,af (jV c)])
def P3:bw:=(11,[Hz])::Bg
theorem HB:KK P3:=⟨aQ.add xC.1 (by kernel_rfl) (bo (HA)),bg.add xC.2 (bo (λ_=>bp))⟩
def iD(b:BL):Lt×Bool:=((fR b true (0,0)).1,cK b (fR b true (0,0)).2.1 true (fR b true (0,0)).2.2==0)
def HC:Ct:=⟨1,⟨[sB 0],[]⟩,[⟨[(0,true,[.d Dq]),sL 1],[]⟩],λ(b,_)=>dy (b.length<=10000000) (iD b) λy=>(y.1,y.2,())⟩
theorem HD:bS Tryz.prog 12 HC:=kC HB (cE HC 0) (∀(a:BL)Q,bd HC (a,()) Q->a.length<=1099511627776/\bQ a 0/\∀b,b=fR a true (0,0)->bQ a b.2.1/\Q ⟨0,b.1,cK a b.2.1 true b.2.2==0,()⟩) (by
 unfold bd;rintro b Q ⟨h,a⟩;have g:∀y,iD b=y->Q ⟨0,(y.1,y.2,())⟩:=λy e=>a y e.symm;clear a;have c:bQ b 0:=⟨by omega,by omega,by omega⟩;refine⟨by omega,c,λx f=>⟨by rw[f];exact(Dt c).1,g (_,_) ?_⟩⟩;unfold iD;rw[<-f])
def P4:bw:=(12,[HC])::P3
theorem HE:KK P4:=⟨aQ.add HB.1 (by kernel_rfl) (bo (HD)),bg.add HB.2 (bo (λ_=>bp))⟩
abbrev tMd:Ty:= .pr .i64 (.pr .bl .un)
abbrev tMs:Ty:= .sl (.sl .i64)
abbrev Lq(i:Nat):Nat×Bool×List IP:=(i,true,[.ptr 0 0, .d (.sl tMd), .d tMs])
def jf(ms:List (List Int))(ep id:Int):Bool:=decide (1<=ep/\ep<=ms.length)&&(ms.getD (ep-1).toNat []).contains id
def Vt(s:jx):Prop:=s.2.2.2.2.2.2.1.length<=3000/\s.2.2.2.2.2.2.2.2.2.2.2.1.length<=3000/\s.2.2.2.2.2.2.2.2.2.2.2.2.1.length<=3000/\s.2.2.2.2.2.2.2.2.2.2.2.2.2.1.length<=3000
def Dh:Ct:=⟨1,⟨[(0,false,[.d (.sl Iu)])],[]⟩,[⟨[sL 0],[]⟩],λ(l,_)=>eD True (λy:Bool=>y=true->l.length<=40/\∀s∈l,Vt s) λy=>(y,())⟩
def W':cg:=⟨[(0,false,[.d (.sl Iu)]),sI 3,sI 4],[]⟩
def Lr(x:Dh.inp.den)(y:W'.den):Prop:=match x,y with
 |(a,_),(l,n,i,_)=>l=a/\@bc Int _ 0 n/\@bc Int _ n 16000/\∃k:Nat,i=k/\k<=a.length/\k<=41/\(@bc Int _ n 3000->∀s∈a.take k,Vt s)
def a4b(x:Dh.inp.den):dB:=⟨[(3,bK W' (Lr x) λ(_,_,i,_)=>(@bv Int Int Int _ 50 i).toNat)],[],[],[],0⟩
theorem HF:bS Tryz.prog 7 Dh:=kC HE a4b (∀(d:List (Int×Int×Int×Int×Int×Int×BL×Lt))Q,bd Dh (d,()) Q->Is (Lr (d,()) (d,0,0,()))/\∀(b:List (Int×Int×Int×Int×Int×Int×BL×Lt))(c a:Int),let h:=ah (gD b a zS).2.2.2.2.2.2.2.2.2.2.2.2.1;let e:=ah (gD b a zS).2.2.2.2.2.2.1;let f:=ah (gD b a zS).2.2.2.2.2.2.2.2.2.2.2.1;let g:=Bd (nI b<=40) (Q ⟨0,decide (c<=3000),()⟩) (Q ⟨0,false,()⟩);let z:=min (↑e:Int) 3001+min (↑f:Int) 3001+min (↑h:Int) 3001+min (↑(ah (gD b a zS).2.2.2.2.2.2.2.2.2.2.2.2.2.1):Int) 3001;Lr (d,()) (b,c,a,())->Bd (a<nI b) (Bd (a<=40) (Bd (c<=3000) (iN a b/\iN a b/\ac (min (↑e:Int) 3001+min (↑f:Int) 3001)/\iN a b/\ac (min (↑e:Int) 3001+min (↑f:Int) 3001+min (↑h:Int) 3001)/\iN a b/\ac z/\ac (c+z)/\ac (a+1)/\Is (Lr (d,()) (b,c+z,a+1,())/\lN (50-(a+1)) (50-a))) g) g) g) (by
 conv=>zeta
 unfold Bd gD iN lN nI bd zS;rintro l Q ⟨_,A⟩;have B:∀y:Bool,(y=true->l.length<=40/\∀s∈l,Vt s)->Q ⟨0,(y,())⟩:=A;clear A;refine⟨⟨⟨rfl,bY _,by decide,0,rfl,aq _,by omega,λ_ s e=>(by cases e)⟩⟩,?_⟩;rintro F n i ⟨q,C,D,k,r,M,N,E⟩;have q:l=F:=q.symm;have r:i=(k:Int):=r;subst q r;have C:@bc Int _ 0 n:=C;have D:@bc Int _ n 16000:=D
 have t:l.length<=40->n<=3000->k=l.length->∀s∈l,Vt s:=by
  intro a b c;have:=E b;rw[c,br]at this;exact this
 have fin:(¬((k:Int)<l.length)\/¬((k:Int)<=40)\/¬(n<=3000))->(decide ((l.length:Int)<=40)=true->Q ⟨0,(decide (n<=3000),())⟩)/\(decide ((l.length:Int)<=40)=false->Q ⟨0,(false,())⟩):=by
  intro h;refine⟨λc=>B _ λd=>?_,λc=>B _ λd=>by cases d⟩;have c:=ag c;have d:=ag d;have f:k=l.length:=by omega
  exact⟨by omega,t (by omega) d f⟩
 refine⟨λg=>⟨λj=>⟨λm=>?_,λm=>fin (.inr (.inr (an m)))⟩,λj=>fin (.inr (.inl (an j)))⟩,λg=>fin (.inl (an g))⟩;have g:=ag g;have j:=ag j;have m:=ag m;have f:k<l.length:=by omega
 rw[show((k:Int)).toNat=k by omega];have G:l.take (k+1)=l.take k++[l.getD k (0,0,0,0,0,0,[],0,0,0,0,[],[],[],())]:=cQ f;generalize l.getD k (0,0,0,0,0,0,[],0,0,0,0,[],[],[],())=o at*;have p:∀x:Nat,0<=min (x:Int) 3001/\min (x:Int) 3001<=3001/\(min (x:Int) 3001<=3000->x<=3000):=λx=>by omega
 have H:=p o.2.2.2.2.2.2.1.length;have J:=p o.2.2.2.2.2.2.2.2.2.2.2.1.length;have K:=p o.2.2.2.2.2.2.2.2.2.2.2.2.1.length;have L:=p o.2.2.2.2.2.2.2.2.2.2.2.2.2.1.length;generalize min (o.2.2.2.2.2.2.1.length:Int) 3001=u at*;generalize min (o.2.2.2.2.2.2.2.2.2.2.2.1.length:Int) 3001=v at*;generalize min (o.2.2.2.2.2.2.2.2.2.2.2.2.1.length:Int) 3001=w at*;generalize min (o.2.2.2.2.2.2.2.2.2.2.2.2.2.1.length:Int) 3001=z at*;refine⟨by omega,by omega,by unfold ac;omega,by omega,by unfold ac;omega,by omega,by unfold ac;omega,by unfold ac;omega,by unfold ac;omega,⟨⟨rfl,?_,?_,k+1,rfl,f,by omega,λd s e=>?_⟩,by omega⟩⟩
 ·show @bc Int _ 0 (n+(u+v+w+z));omega
 ·show @bc Int _ (n+(u+v+w+z)) 16000;omega
 ·have d:n+(u+v+w+z)<=3000:=d;rw[G]at e;rcases bb.1 e with e|e
  ·exact E (by show n<=3000;omega) s e
  ·rw[cf.1 e];exact⟨H.2.2 (by omega),J.2.2 (by omega),K.2.2 (by omega),L.2.2 (by omega)⟩)
def BB:bw:=(7,[Dh])::P4
theorem BC:KK BB:=⟨aQ.add HE.1 (by kernel_rfl) (bo (HF)),bg.add HE.2 (bo (λ_=>aM λ_=>⟨false,λh=>by cases h⟩))⟩
def zG:Ct:=⟨1,⟨[sI 0],[]⟩,[⟨[sI 0,sI 1],[]⟩],λ(n,_)=>one True ((fe n).1,(fe n).2,())⟩
abbrev gS(v:Fk):cw zG.out:=⟨0,v⟩
theorem UU:ix Tryz.prog BB 18 zG λ_=>⟨[],[],[],[],9⟩:=by
 have e:(ix Tryz.prog BB 18 zG λ_=>⟨[],[],[],[],9⟩)=
  (∀(x:Int)(Q:cw zG.out->Prop),(Tr.need True (Tr.leaf (gS ((fe x).fst,(fe x).snd,())))).sat Q->(decide (x<0)=true->Q (gS (0,1,())))/\(decide (x<0)=false->(decide (4095<x)=true->Q (gS (0,2,())))/\(decide (4095<x)=false->(decide (64<=x)=true->(decide (128<=x)=true->(decide (256<=x)=true->(decide (512<=x)=true->(decide (1024<=x)=true->(decide (2048<=x)=true->(decide (4096<=x)=true->(decide (8192<=x)=true->(decide (16384<=x)=true->False)/\(decide (16384<=x)=false->Q (gS (16384,0,()))))/\(decide (8192<=x)=false->Q (gS (8192,0,()))))/\(decide (4096<=x)=false->Q (gS (4096,0,()))))/\(decide (2048<=x)=false->Q (gS (2048,0,()))))/\(decide (1024<=x)=false->Q (gS (1024,0,()))))/\(decide (512<=x)=false->Q (gS (512,0,()))))/\(decide (256<=x)=false->Q (gS (256,0,()))))/\(decide (128<=x)=false->Q (gS (128,0,()))))/\(decide (64<=x)=false->Q (gS (64,0,())))))):=by kernel_rfl
 refine VH e ?_;clear e;rintro n Q ⟨_,a⟩;have b:∀p:Int×Int,fe n=p->Q ⟨0,(p.1,p.2,())⟩:=λp e=>by rw[<-e];exact a
 clear a;unfold fe at b
 (repeat' (first|apply cc|(intro h;have h:=ag h)|(intro h;have h:=an h)))<;>first
  |(exfalso;omega)
  |exact b (_,_) (by repeat (first|rfl|rw[af (by omega)]|rw[am (by omega)]))
theorem HG:bS Tryz.prog 18 zG:=du BC.1 BC.2 sF (by kernel_rfl) UU
def X_:bw:=(18,[zG])::BB
theorem a42:KK X_:=⟨aQ.add BC.1 (by kernel_rfl) (bo (HG)),bg.add BC.2 (bo (λ_=>bJ))⟩
def HH:bw:=(15,[De])::O'
theorem HI:KK HH:=⟨aQ.add P_.1 (by kernel_rfl) (bo Hr),bg.add P_.2 (bo (λ_=>Live.ite (λ_=>Live.all ⟨_,(lw (k:=9998) lA _).choose_spec,Live.leaf⟩) (λ_=>Live.leaf)))⟩
def HJ:bw:=(11,[Hz])::HH
theorem HK:KK HJ:=⟨aQ.add HI.1 (by kernel_rfl) (bo HA),bg.add HI.2 (bo (λ_=>bp))⟩
def HL:bw:=(12,[HC])::HJ
theorem HM:KK HL:=⟨aQ.add HK.1 (by kernel_rfl) (bo HD),bg.add HK.2 (bo (λ_=>bp))⟩
def HN:bw:=(7,[Dh])::HL
theorem HO:KK HN:=⟨aQ.add HM.1 (by kernel_rfl) (bo HF),bg.add HM.2 (bo (λ_=>aM λ_=>⟨false,λh=>by cases h⟩))⟩
def HQ:bw:=(18,[zG])::HN
theorem UV:KK HQ:=⟨aQ.add HO.1 (by kernel_rfl) (bo HG),bg.add HO.2 (bo (λ_=>bJ))⟩
def UW(ms:List (List Int))(s:jx)(y:t8):List (List Int):=if y.1.2.1=0 then ms else if s.1=6 then ms++[y.2.ids]else ms
def UX:Ct:=⟨2,⟨[Lq 0,Vs 1],gb⟩,[⟨[Lq 0,(1,true,[.d Du])],Gx 33++pN 33⟩],λ(O,P,s,E,F,G,H,J,K,L,M,N,b,c,e,f,g,h,i,j,l,m,o,p,q,r,t,u,v,w,x,z,A,B,C,a,D,_)=>eD (O.length<=1000/\P.length<=1000/\s.2.2.2.2.2.2.1.length<=1000000/\kh (bV (E,F,G,H,J,K,L,M,N,b,c,e,f,g,h,i,j,l,m,o,p,q,r,t,u,v,w,x,z,A,B,C,a,D,()))/\a.length<900/\∃n,cR (bV (E,F,G,H,J,K,L,M,N,b,c,e,f,g,h,i,j,l,m,o,p,q,r,t,u,v,w,x,z,A,B,C,a,D,())) (n+5*a.length+3)) (lx (bV (E,F,G,H,J,K,L,M,N,b,c,e,f,g,h,i,j,l,m,o,p,q,r,t,u,v,w,x,z,A,B,C,a,D,())) s) λy=>(rS O s y,UW P s y,y.1,bZ y.2)⟩
def P5:bw:=(9,[UX])::HQ
theorem X':KK P5:=kA UV (cE UX 0) (∀(a:List (Int×Bool×Unit))(d:La)(c:Int×Int×Int×Int×Int×Int×BL×Lt),let A:=a.length+1;let B:=0+a.length;WA λf g h i j k l m n o p q r s t u v w y z D E F G H J K L M N O P e R=>let C:=(g,h,i,j,k,l,m,n,o,p,q,r,s,t,u,v,w,y,z,D,E,F,G,H,J,K,L,M,N,O,P,e,R,());∀Q,bd UX (a,d,c,f,C) Q->(ah c.2.2.2.2.2.2.1<=1000000/\kh (bV (f,C))/\∃a,cR (bV (f,C)) (a+5*e.length+3))/\∀(b:(Int×Int×Nw)×Wd),let x:=B*16<=mM/\A*16<=mM/\Q ⟨0,a++[(c.2.1,true,())],d,b.1,bZ b.2⟩;lx (bV (f,C)) c b->Br (b.1.2.1==0) (Q ⟨0,a,d,b.1,bZ b.2⟩) (Br (c.1==1) x (Br (c.1==2) x (Br (c.1==3) x (Br (c.1==4) x (Br (c.1==5) x (Br (c.1==6) ((0+d.length)*24<=mM/\cC b.2.lg.2.1 b.2.lg.2.2.1/\(d.length+1)*24<=mM/\B*16<=mM/\A*16<=mM/\Q ⟨0,a++[(0,true,())],d++[rZ (λa=>a.1) (cS b.2.lg.2.1 (nI b.2.lg.2.1))],b.1,bZ b.2⟩) (Br (c.1==11) (B*16<=mM/\A*16<=mM/\Q ⟨0,a++[(c.2.1,false,())],d,b.1,bZ b.2⟩) (B*16<=mM/\A*16<=mM/\Q ⟨0,a++[((-1:Int),false,())],d,b.1,bZ b.2⟩))))))))) (by
 conv=>zeta
 unfold Br WA mM nI bd bZ;intro f B s;refine Wd.all λw=>?_;intro Q ⟨⟨F,v,x,C,G,n,D⟩,E⟩;have a:∀y:t8,lx w s y->Q ⟨0,(rS f s y,UW B s y,y.1,bZ y.2)⟩:=λy j=>E y j;clear E;refine⟨⟨x,C,n,D⟩,λy j=>?_⟩;have a:=a y j;have z:=(rU D C G j).1.lg.1;unfold rS UW oe at a;have m:(0+f.length)*16<=140737488355328:=by omega
 have o:(f.length+1)*16<=140737488355328:=by omega
 refine⟨λc=>?_,λc=>?_⟩
 ·rw[am (aZ c),am (aZ c)]at a;exact a
 rw[af (aE c),af (aE c)]at a
 have b:∀k:Int,(s.1==k)=true->1<=k/\k<=5->(0+f.length)*16<=140737488355328/\(f.length+1)*16<=140737488355328/\Q ⟨0,(f++[(s.2.1,true,())],B,y.1,bZ y.2)⟩:=by
  intro k H g;have e:s.1=k:=aZ H;refine⟨m,o,?_⟩;rw[am (by rw[e];exact g),af (by rw[e];exact(UL g).1)]at a;exact a
 refine⟨λp=>b 1 p (by decide),λp=>⟨λq=>b 2 q (by decide),λq=>⟨λr=>b 3 r (by decide),λr=>⟨λt=>b 4 t (by decide),λt=>⟨λu=>b 5 u (by decide),λu=>?_⟩⟩⟩⟩⟩
 have J:¬(1<=s.1/\s.1<=5):=by
  have p:¬@Eq Int s.1 1:=aE p;have q:¬@Eq Int s.1 2:=aE q;have r:¬@Eq Int s.1 3:=aE r;have t:¬@Eq Int s.1 4:=aE t;have u:¬@Eq Int s.1 5:=aE u;intro h;have F:@bc Int _ 1 s.1:=h.1;have v:@bc Int _ s.1 5:=h.2;omega
 rw[af J]at a;refine⟨λi=>?_,λi=>?_⟩
 ·rw[am (aZ i),am (aZ i)]at a;exact⟨by omega,z,by omega,m,o,a⟩
 rw[af (aE i),af (aE i)]at a;refine⟨λA=>⟨m,o,?_⟩,λA=>⟨m,o,?_⟩⟩
 ·rw[am (aZ A)]at a;exact a
 ·rw[af (aE A)]at a;exact a) (l:=λ_=>aM λh=>by obtain⟨_,_,_,v,_,_,x⟩:=h;exact Hk x v _)
def Ls:Ct:=⟨3,⟨[Lq 0,sI 1,sI 2],gb⟩,[⟨[sL 0],gb⟩],λ(_,a,b,id,c)=>dy (a.length<=1000/\∀l∈a,l.length<=1000) (jf a b id) λy=>(y,c)⟩
def Y_:cg:=⟨[sI 2,(23,false,[.d (.sl .i64)]),sI 24,sI 25],gb⟩
def Lu(x:Ls.inp.den)(y:Y_.den):Prop:=match x,y with
 |(_,c,a,id,e),(b,l,f,i,g)=>(bV g)=(bV e)/\b=id/\@bc Int _ 1 a/\@bc Int _ a c.length/\l=c.getD (@bv Int Int Int _ a 1).toNat []/\f=l.length/\∃k:Nat,i=k/\k<=l.length/\id∉l.take k
def a4c(x:Ls.inp.den):dB:=⟨[(4,bK Y_ (Lu x) λ(_,_,a,i,_)=>(@bv Int Int Int _ a i).toNat)],[],[],[],0⟩
def P6:bw:=(13,[Ls])::P5
theorem Y':KK P6:=kA X' a4c (∀(G:List (Int×Bool×Unit))(c:La)(a F:Int),WA λd e f g h i j k l m n o p q r s t u v w y z H J K L M N O P R S U W=>let A:=(d,e,f,g,h,i,j,k,l,m,n,o,p,q,r,s,t,u,v,w,y,z,H,J,K,L,M,N,O,P,R,S,U,W,());let B:=(G,c,a,F,A);∀Q,bd Ls B Q->Bd (a<1) (Q ⟨0,false,A⟩) (Bd (nI c<a) (Q ⟨0,false,A⟩) (ac (a-1)/\iN (a-1) c/\Is (Lu B (F,gD c (a-1) [],nI (gD c (a-1) []),0,A))/\∀(E:Int)(C:List Int)(x b:Int),WA λX Y b9 c0 c1 c2 c3 c4 c5 c6 c7 c8 c9 d0 d1 d2 d3 d4 d5 d6 d7 d8 d9 e0 e1 e2 e3 e4 e5 e6 e7 e8 e9 f0=>let D:=(X,Y,b9,c0,c1,c2,c3,c4,c5,c6,c7,c8,c9,d0,d1,d2,d3,d4,d5,d6,d7,d8,d9,e0,e1,e2,e3,e4,e5,e6,e7,e8,e9,f0,());Lu B (E,C,x,b,D)->Bd (b<x) (iN b C/\Br (gD C b 0==E) (Q ⟨0,true,D⟩) (ac (b+1)/\Is (Lu B (E,C,x,b+1,D)/\lN (x-(b+1)) (x-b)))) (Q ⟨0,false,D⟩)))) (by
 conv=>zeta
 unfold Bd Br WA gD iN lN nI bd;intro H g b id;refine Wd.all λw=>?_;rintro Q ⟨⟨J,D⟩,A⟩;have f:∀y,jf g b id=y->Q ⟨0,(y,bZ w)⟩:=λy e=>A y e.symm;clear A;unfold jf at f;refine⟨λc=>f _ ?_,λc=>⟨λa=>f _ ?_,λa=>⟨?_,?_,⟨⟨rfl,rfl,?_,?_,rfl,rfl,0,rfl,aq _,λq=>by cases q⟩⟩,?_⟩⟩⟩
 ·have c:=ag c;rw[decide_eq_false (λq=>by have:=q.1;omega)];rfl
 ·have a:=ag a;rw[decide_eq_false (λq=>by have:=q.2;omega)];rfl
 ·have c:=an c;have a:=an a;unfold ac;omega
 ·have c:=an c;have a:=an a;omega
 ·have c:=an c;show @bc Int _ 1 b;omega
 ·have a:=an a;show @bc Int _ b g.length;omega
 clear c a;intro j l E i;refine Wd.all λv=>?_;rintro⟨r,s,o,p,m,t,k,u,B,x⟩;have r:v=w:=r;subst r;have s:j=id:=s;have m:l=g.getD (b-1).toNat []:=m;have t:E=(l.length:Int):=t;have u:i=(k:Int):=u;have o:@bc Int _ 1 b:=o;have p:@bc Int _ b g.length:=p;have B:k<=l.length:=B;have C:=D _ (aS (z:=([]:List Int)) (show(@bv Int Int Int _ b 1).toNat<g.length by omega));have C:l.length<=1000:=by rw[m];exact C
 have f:∀y,l.contains id=y->Q ⟨0,(y,bZ v)⟩:=by
  intro y F;refine f y ?_;rw[decide_eq_true ⟨o,p⟩,fp,<-m];exact F
 clear m;subst s t u;have G:((k:Int).toNat)=k:=by omega
 rw[G];refine⟨λc=>?_,λc=>f _ ?_⟩
 ·have n:k<l.length:=by have:=ag c;omega
  refine⟨by omega,λd=>f _ ?_,λd=>⟨by unfold ac;omega,⟨⟨rfl,rfl,o,p,by assumption,rfl,k+1,rfl,n,?_⟩,by omega⟩⟩⟩
  ·rw[List.contains_iff_mem];rw[<-aZ d];exact aS n
  ·rw[cQ (z:=(0:Int)) n];intro q;rcases bb.1 q with q|q
   ·exact x q
   ·rw[cf]at q;exact aE d q.symm
 ·have n:k=l.length:=by have:=an c;omega
  subst n;rw[br]at x;cases h:l.contains j with
  |false=>rfl
  |true=>exact absurd (List.contains_iff_mem.1 h) x) (l:=λ_=>bp)
def UY:Ct:=⟨1,⟨[sI 0],[]⟩,[⟨[(0,true,[.nilp, .nils, .nils]),(1,false,[.k (.bool false)])],[]⟩,⟨[Lq 0,(1,false,[.k (.bool true)])],gb⟩],λ(n,_)=> .ite (decide (1<=n/\n<=31/\n % 2=1)) (.all ((Int×Int)×Wd) (eN ng n) λy=> .leaf ⟨1,([(0,true,())],[y.2.ids],bZ y.2)⟩) (.leaf ⟨0,()⟩)⟩
def P7:bw:=(6,[UY])::P6
theorem Z_:KK P7:=kA Y' (cE UY 0) (∀(a:Int)Q,let z:=1<=a/\a<=31/\a % (2:Int)=1;bd UY (a,()) Q->Br (decide z) (∀(b:(Int×Int)×Wd),eN ng a b->cC b.2.lg.2.1 b.2.lg.2.2.1/\Q ⟨1,[(0,true,())],[rZ (λa=>a.1) (cS b.2.lg.2.1 (nI b.2.lg.2.1))],bZ b.2⟩) (Q ⟨0,()⟩)) (by
 conv=>zeta
 unfold Br nI bd bZ;intro n Q a;exact⟨λc y b=>⟨((rT (k:=9998) lA (by decide) b).1).lg.1,a.1 c y b⟩,λc=>a.2 c⟩) (l:=λ_=>Live.ite (λ_=>Live.all ⟨_,(lw (k:=9998) lA _).choose_spec,Live.leaf⟩) (λ_=>Live.leaf))
def UZ:Ct:=⟨2,⟨[sP 0,(1,false,[.k (.i64 1)])],gb⟩,[⟨[(0,false,[.ptr 33 0])],gb++gG 33⟩],λ(F,G,H,J,K,L,M,N,O,b,e,f,g,h,i,j,l,m,o,q,r,s,t,u,v,w,x,z,a,A,B,C,D,E,_)=>eD ((∃n,cR (bV (F,G,H,J,K,L,M,N,O,b,e,f,g,h,i,j,l,m,o,q,r,s,t,u,v,w,x,z,a,A,B,C,D,E,())) n)/\∀p∈a,p.2.length<=1048576) (λy:Cl=>je (bV (F,G,H,J,K,L,M,N,O,b,e,f,g,h,i,j,l,m,o,q,r,s,t,u,v,w,x,z,a,A,B,C,D,E,())).c1.pg y.pg) λy=>(F,G,H,J,K,L,M,N,O,b,e,f,g,h,i,j,l,m,o,q,r,s,t,u,v,w,x,z,a,A,B,C,D,E,y.c,y.se,y.sg,y.lg,y.pg,y.la,y.fk,y.km,y.bk,())⟩
def P8:bw:=(21,[UZ])::P7
theorem Z':KK P8:=kA Z_ (cE UZ 0) (WA λe f g h i j k l a c m n o q r s t u v w y z x A B C D E d F G H J K=>∀Q,bd UZ (e,f,g,h,i,j,k,l,a,c,m,n,o,q,r,s,t,u,v,w,y,z,x,A,B,C,D,E,d,F,G,H,J,K,()) Q->True/\Br false False (((∀(p:Int×List Kn),p∈d->ah p.2<=1048576)/\cr c.1/\cC a.2.2.2.1.2.1 a.2.2.2.1.2.2.1)/\∀(b:Cl),je c.1 b.pg->Q ⟨0,e,f,g,h,i,j,k,l,a,c,m,n,o,q,r,s,t,u,v,w,y,z,x,A,B,C,D,E,d,F,G,H,J,K,b.c,b.se,b.sg,b.lg,b.pg,b.la,b.fk,b.km,b.bk,()⟩)) (by
 unfold Br WA bd;refine Wd.all λw=>?_;intro Q ⟨⟨⟨n,h⟩,a⟩,f⟩;have e:=(h.cl 1 (by decide)).1;exact⟨trivial,(λc=>by cases c),λ_=>⟨⟨a,e.2.2.2.2.1,e.2.2.2.2.2.2.1⟩,λb a=>f b a⟩⟩) (l:=λ_=>aM λ_=>⟨⟨0,[],[],([],[],[],()),_,[],[],[],[]⟩,(iX _).choose_spec⟩)
def isE(b:BL):Bool:=decide (b.length<=65536)&&((cW b 0 true 0 1 4).2.2==0&&((cW b 0 true 0 1 4).1==1&&cK b (eL b true (0,0)).2.1 true (eL b true (0,0)).2.2==0))
def reE(w:Wd)(i:Int)(b:BL):(Int×Nw)×Wd:=
 let r:=qh (w.cl i.toNat).c (w.cl i.toNat).se (w.cl i.toNat).lg (w.cl i.toNat).km (eL b true (0,0)).1 w.ts w.m
 ((r.1.2,r.1.1),fj b i (r.1.2,r.1.1) (w.aft i.toNat ({w.cl i.toNat with lg:=r.2.1,km:=r.2.2.1},r.2.2.2)))
theorem HR{w:Wd}{i:Int}{b:BL}{y:(Int×Nw)×Wd}(h:isE b=true)(r:jw w i b y):y=reE w i b:=by
 unfold isE at h;simp only[aI,ai,aR]at h;obtain⟨g,c,e,f⟩:=h;obtain⟨r,a,rfl⟩:=r;unfold nW at a;rw[af (by omega)]at a;dsimp only at a;rw[af (λq=>q c),am e,af (λq=>q f)]at a;rw[a];rfl
def mbW(w:Wd)(n:Int):(Int×Int)×Wd:=
 let r:=reE (w.mb n [] (sW w.go [])) 0 (fL (fA w n []).1.1)
 ((0,(r.2.st.length:Int)+1),{r.2 with st:=r.2.st++[fL (fA w n []).1.1],ln:=r.2.ln++[0]})
def U0(w:Wd)(n:Int):Bool:=decide (zu n ((cS w.lg.2.1 w.lg.2.1.length).map (·.1)) 0 w.al=[])&&((fA w n []).1.2==0&&((vP w n []).1==0&&isE (fL (fA w n []).1.1)))
theorem P9{w:Wd}{n:Int}{y:(Int×Int)×Wd}(h:U0 w n=true)(r:eN w n y):y=mbW w n:=by
 unfold U0 at h;simp only[aI,ai,aR]at h;obtain⟨b,c,f,g⟩:=h;obtain⟨i,⟨a,_⟩,r⟩:=r;rw[b]at a;have e:i=[]:=List.map_eq_nil_iff.1 a;subst e;rw[af (λq=>q c),af (λq=>q f)]at r;obtain⟨z,j,rfl⟩:=r;rw[HR g j];rfl
theorem U1:((kz 32).all λn=>n % 2==0||U0 ng (n:Int))=true:=by kernel_rfl
theorem xL{n:Int}(h:1<=n/\n<=31/\n % 2=1){y:(Int×Int)×Wd}(r:eN ng n y):y.1.1=0:=by
 have:=cU.1 U1 n.toNat (List.mem_range.2 (by omega));have e:((n.toNat:Nat):Int)=n:=by omega
 rw[iH,e]at this;rcases this with q|q
 ·exfalso;rw[aR]at q;omega
 ·rw[P9 q r];rfl
theorem Qa{n:Int}(h:1<=n/\n<=31/\n % 2=1){y:(Int×Int)×Wd}(r:eN ng n y):Au y.2 [(0,true,())]/\cR y.2 9998/\y.2.st.length=1/\y.2.lg.2.1.length=1:=by
 have a:=xL h r;have b:=rT (k:=9998) lA (by decide) r;rcases vy R' (k:=9998) lA (by decide) r with⟨c,_⟩|⟨_,_,e,_,_,i,E,_,_,f,_,g,_⟩
 ·exact absurd a c
 ·exact⟨e,b.1,by rw[f];rfl,by rw[g];rfl⟩
def s71:jx:=(7,1,0,1,0,0,[],JL)
def s72:jx:=(7,1,0,2,0,0,[],JL)
def hW1:Wd:=(mbW ng 3).2
def BD:Wd:=(reE hW1 1 (hW1.st.getD 0 [])).2
def hZ:(BL×Int)×Pg×Ln×List Tm×KV:=x8 (BD.cl 0).c (BD.cl 0).sg (BD.cl 0).lg (BD.cl 0).pg (BD.cl 0).km (BD.cl 0).bk [iW] (0,ft) BD.ts BD.m
def ki:Wd:=(zw (BD.wrt 0 hZ) hZ.1.1 (Le (BD.wrt 0 hZ) 0 hZ.1.1)).2
theorem a4d{y:(Int×Int)×Wd}(h:eN ng 3 y):y.2=hW1:=by rw[P9 (by kernel_rfl) h];rfl
theorem a4e{y:t8}(h:lx hW1 s71 y):y.2=BD:=by
 unfold lx at h;rw[af (by decide),af (by decide),am (by decide),af (an (by kernel_rfl))]at h;obtain⟨z,a,rfl⟩:=h;exact aH Prod.snd (HR (by kernel_rfl) a)
theorem a4f{y:t8}(h:lx BD stA y):y.2=ki:=by
 unfold lx at h;rw[am (by decide)]at h;obtain⟨z,a,rfl⟩:=h;unfold kv at a;rw[af (an (by kernel_rfl)),af (an (by kernel_rfl))]at a;obtain⟨r,b,rfl⟩:=a;unfold vQ at b;rw[af (by decide),af (by decide)]at b;obtain⟨p,l,e,n,o,b⟩:=b;have c:(BD.cl (0:Int).toNat).pg=js:=by kernel_rfl
 have s:p=js:=n.2.1 c;have m:=o.2 s rfl;have t:l=[iW]:=aH ga m;have u:e=0:=aH Prod.snd m;subst t u;rcases b with⟨q,_⟩|⟨_,v,z,⟨w,f,g⟩,a,rfl⟩
 ·exact absurd rfl q
 have i:w=js:=f.2.1 c;have j:v=(0,ft):=g.2.1 i rfl;subst j;have a:z=hZ:=a;subst a;show(ku (BD.wrt 0 hZ) 0 hZ.1).2=ki;unfold ku;rw[af (an (by kernel_rfl))];rfl
def hB:BL:=ki.st.getD 1 []
def hL:Lt×Rs:=fR hB true (0,0)
def Qb:(Lk×Int)×List Tm×KV:=tV (gk (cS ki.c1.lg.2.1 hL.1.2.2.1) hL.1.2.1).1.2.2.1 hL.1 ki.ts ki.m
def U2:Int×List Tm×KV:=zl hL.1 Qb.1.1 ki.c1.la ki.c1.bk Qb.2.1 Qb.2.2
def Qc:(BL×Int)×List Tm×KV:=mW ((aO .i64 hL.1.2.2.1 ki.c1.km).getD []) hL.1 U2.2.1 U2.2.2
theorem a4g{z:x9}(h:kr ki.c1 hL.1 ki.ts ki.m z):z.1=0/\z.2.1=ft/\∀p∈z.2.2.1,p.2.length<=1048576:=by
 unfold kr at h;rw[af (an (by kernel_rfl)),af (an (by kernel_rfl))]at h;dsimp only at h;have h:(if Qb.1.2≠0 then z=(Qb.1.2,ki.c1.pg,ki.c1.bk,Qb.2)else if U2.1≠0 then z=(U2.1,ki.c1.pg,ki.c1.bk,U2.2)else if(vN ki.c1.lg.2.1.reverse hL.1.2.1).2=true/\(hL.1.1≠2\/(vN ki.c1.lg.2.1.reverse hL.1.2.1).1<hL.1.2.2.2.1)then z=(19,ki.c1.pg,ki.c1.bk,U2.2)else if(aO .i64 hL.1.2.2.1 ki.c1.km).isSome=false then z=(22,ki.c1.pg,ki.c1.bk,U2.2)else if Qc.1.2≠0 then z=(Qc.1.2,ki.c1.pg,ki.c1.bk,Qc.2)else tZ hL.1 Qb.1.1 Qc.1.1 ki.c1.pg ki.c1.bk Qc.2.1 Qc.2.2 z):=h;rw[af (an (by kernel_rfl)),af (an (by kernel_rfl)),af (an (by kernel_rfl)),af (an (by kernel_rfl)),af (an (by kernel_rfl))]at h;unfold tZ at h;rw[am (ag (by kernel_rfl))]at h;have e:=h.2.2 (by kernel_rfl) (by kernel_rfl) (by kernel_rfl);have a:((Ds Qb.1.1 ki.c1.pg ki.c1.bk (0,ft) Qc.2.1 Qc.2.2).2.2.1.all λp=>decide (p.2.length<=1048576))=true:=by kernel_rfl
 rw[e];exact⟨by kernel_rfl,by kernel_rfl,λp b=>ag (cU.1 a p b)⟩
theorem a4h{y:t8}(h:lx ki s72 y):y.1.1=0/\y.2.c1.pg=ft/\y.2.st.length=2/\∀p∈y.2.c1.bk,p.2.length<=1048576:=by
 unfold lx at h;rw[af (by decide),af (by decide),am (by decide),af (an (by kernel_rfl))]at h;obtain⟨z,b,rfl⟩:=h;obtain⟨r,a,rfl⟩:=b;have a:nW ki.c1 hB ki.ts ki.m r:=a;unfold nW at a;rw[af (an (by kernel_rfl))]at a;dsimp only at a;rw[af (an (by kernel_rfl)),af (an (by kernel_rfl)),af (an (by kernel_rfl))]at a;obtain⟨x,f,n,b,-,l,rfl⟩:=a;obtain⟨e,g,i⟩:=a4g b;obtain⟨j,o,q,c⟩:=lR (ki.st.getD (s72.2.2.2.1-1).toNat []) s72.2.1 (x.1,n) (ki.aft s72.2.1.toNat ({ki.c1 with pg:=x.2.1,la:=ya hL.1 x.1 ki.c1.la,fk:=f,bk:=x.2.2.1},x.2.2.2));refine⟨e,?_,?_,λp s=>i p ?_⟩
 ·exact(aH Cl.pg (c 1)).trans g
 ·refine(aH ah j.st).trans ?_;show ki.st.length=2;kernel_rfl
 ·rwa [<-show _=x.2.2.1 from aH Cl.bk (c 1)]
def BE:Ct:=⟨0,⟨[],[]⟩,[⟨[sL 0],[]⟩],λ_=>one True (true,())⟩
def HS:bw:=(8,[BE])::P8
theorem zH:KK HS:=kA Z' (cE BE 0) (∀(Q:cw BE.out->Prop),let z:=true=false->Q ⟨0,false,()⟩;bd BE () Q->(true=true->∀(b:(Int×Int)×Wd),let f:=bV (bZ b.2);eN ng 3 b->((([]:BL)).length<=1000000/\kh f/\∃c,cR f (c+5*b.2.st.length+3))/\∀(d:(Int×Int×Nw)×Wd),let g:=bV (bZ d.2);lx f (7,1,0,1,0,0,([]:BL),0,0,0,0,[],[],[],()) d->((([97]:BL)).length<=1000000/\kh g/\∃c,cR g (c+5*d.2.st.length+3))/\∀(b:(Int×Int×Nw)×Wd),let h:=bV (bZ b.2);lx g (1,0,0,0,0,0,([97]:BL),0,0,0,0,[],[],[],()) b->((([]:BL)).length<=1000000/\kh h/\∃c,cR h (c+5*b.2.st.length+3))/\∀(a:(Int×Int×Nw)×Wd),lx h (7,1,0,2,0,0,([]:BL),0,0,0,0,[],[],[],()) a->Br (a.1.1==0) (((∃c,cR (bV (bZ a.2)) c)/\∀(p:Int×List Kn),p∈a.2.c1.bk->ah p.2<=1048576)/\∀(b:Cl),je a.2.c1.pg b.pg->cr b.pg/\∀(e:Pg),je b.pg e->e=([((0,1,()),0,1,0,0,true,97,())],[],[],([((0,0,()),0,0,0,false,[[],[(0,1,())]],()),((0,1,()),0,1,97,false,[[],[]],())],0,()),([],()),())/\(true=true->(a.2.st.length<=1000000/\∀(b:BL),b∈a.2.st->b.length<=10000000)/\Q ⟨0,nI a.2.st==2,()⟩)/\z) (Q ⟨0,false,()⟩))/\z) (by
 conv=>zeta
 unfold Br nI bd bZ;rintro Q ⟨_,v⟩;refine⟨λ_ g h=>?_,λc=>by cases c⟩;have h:eN ng 3 g:=h;obtain⟨l,w,L,_⟩:=Qa (n:=3) (by decide) h;have m:cR g.2 (9980+5*g.2.st.length+3):=w.mono (by omega);refine⟨⟨aq _,iC l,_,m⟩,λi a=>?_⟩;have a:lx g.2 s71 i:=a;have o:=(UN l m a).au;have y:=rU m (iC l) (by omega) a;have q:cR i.2 (9950+5*i.2.st.length+3):=y.1.mono (by omega);refine⟨⟨by show 1<=1000000;decide,iC o,_,q⟩,λj e=>?_⟩;have e:lx i.2 stA j:=e;have r:=(UN o q e).au;have z:=rU q (iC o) (by omega) e;have s:cR j.2 (9900+5*j.2.st.length+3):=z.1.mono (by omega);refine⟨⟨aq _,iC r,_,s⟩,λA f=>?_⟩;have f:lx j.2 s72 A:=f;have t:=rU s (iC r) (by omega) f;have B:=a4d h;rw[B]at a;have C:=a4e a;rw[C]at e;have D:=a4f e;rw[D]at f;obtain⟨E,F,G,H⟩:=a4h f;refine⟨λ_=>⟨⟨⟨_,t.1⟩,H⟩,λb u=>⟨u.1,λp J=>⟨J.2.2 (u.2.2 F),λ_=>⟨⟨by omega,λx K=>by have:=t.1.st.2.2 x K;omega⟩,?_⟩,λc=>by cases c⟩⟩⟩,λc=>?_⟩
 ·rw[G];exact v
 ·rw[E]at c;exact by cases c)
theorem hX(w:Wd)(i:Nat)(n:Int):∃y,gM w i n y:=⟨false,λh=>by cases h⟩
theorem HT{w:Wd}{e:Nat}(a:cR w (e+10)){n:Int}(c:1<=n/\n<=(w.st.length:Int)):eC w.ts/\ac (n-1)/\(0<=n-1/\n-1<(w.st.length:Int))/\(w.st.getD (n-1).toNat []).length<=1099511627776/\bQ (w.st.getD (n-1).toNat []) 0/\∀k,k<=60000->bO k (dC w.ts).1:=by
 have g:=a.st.2.2 _ (aS (z:=([]:BL)) (show(n-1).toNat<w.st.length by omega));have f:=a.st.1;have b:=Bc a.ts.1;refine⟨a.ts.ok,by unfold ac;omega,by omega,by omega,⟨by omega,by omega,by omega⟩,λk h=>⟨b.1,by have:=b.2;have:=a.ts.2;omega⟩⟩
theorem HU{w:Wd}{l:Nat}(o:cR w (l+10)){i:Nat}{n:Int}(p:1<=n)(r:n<=(w.st.length:Int)){e:Et}(g:vk e)(s:e=(eL (w.st.getD (n-1).toNat []) true (0,0)).1)(t:cK (w.st.getD (n-1).toNat []) (eL (w.st.getD (n-1).toNat []) true (0,0)).2.1 true (eL (w.st.getD (n-1).toNat []) true (0,0)).2.2=0)
 {k:Int} {q:Nat} (y:k=q) (u:k<5) {ts:List Tm} {m:KV} (h:bO (2*(5-q)+2) ts) (j:oU (dC w.ts) (ts,m)):
 aB (w.se i 0)/\bO 2 ts/\∀b,b=lM e k (w.se i 0) ts m->((b.1.2==0)=true->gM w i n true)/\bO (2*(5-(q+1))+2) b.2.1/\oU (dC w.ts) (b.2.1,b.2.2):=by
 have v:=Pz o i 0;have c:aB (w.se i 0):=by unfold aB;omega
 have a:bO 2 ts:=h.mono (by omega);refine⟨c,a,λb f=>⟨λx _=>⟨p,r, .inl ⟨t,(ts,m),k,j,a,by omega,u,?_⟩⟩,?_,?_⟩⟩
 ·rw[<-s,<-aZ x,f]
 ·rw[f];exact keS m c g.2.2.2.2.2.2 (h.mono (by omega))
 ·have q:oU (dC w.ts) (lM e k (w.se i 0) ts m).2:=oU.key (z:=(ts,m)) e k _ j c g.2.2.2.2.2.2 a;rw[<-f]at q;exact q
theorem HV{w:Wd}{i:Nat}{n:Int}(j:1<=n)(o:n<=(w.st.length:Int)){l:Lt}(r:l=(fR (w.st.getD (n-1).toNat []) true (0,0)).1)(s:cK (w.st.getD (n-1).toNat []) (fR (w.st.getD (n-1).toNat []) true (0,0)).2.1 true (fR (w.st.getD (n-1).toNat []) true (0,0)).2.2=0)
 {ts:List Tm} {m:KV} {rest:KM} (f:∀q∈rest,q∈w.ky i) (g:bO (rest.length+1) ts) (h:oU (dC w.ts) (ts,m)) {p:(Int×BL)×KM} (c:rest.Perm (p.1::p.2)):
 bO 1 ts/\(∀q∈p.2,q∈w.ky i)/\p.2.length<rest.length/\∀b,b=mW p.1.2 l ts m->((b.1.2==0)=true->gM w i n true)/\bO (p.2.length+1) b.2.1/\oU (dC w.ts) (b.2.1,b.2.2):=by
 have t:=c.length_eq;rw[ba]at t;have a:bO 1 ts:=g.mono (by omega);refine⟨a,λq u=>f q (c.mem_iff.2 (aA _ u)),by omega,λb e=>⟨λv _=>⟨j,o, .inr ⟨s,(ts,m),p.1,h,a,f _ (c.mem_iff.2 (aG ..)),?_⟩⟩,?_,?_⟩⟩
 ·rw[<-r,<-e];exact aZ v
 ·rw[e];exact(a_ m (g.mono (by omega))).1
 ·have q:oU (dC w.ts) (mW p.1.2 l ts m).2:=oU.opn (z:=(ts,m)) p.1.2 l h a;rw[<-e]at q;exact q
def Iw(i:Nat)(n:Int):Nat×Bool×List IP:=(i,false,[.k (.i64 n)])
def xM:Ct:=⟨3,⟨[sP 0,Iw 1 0,sI 2],gb⟩,[⟨[sL 0],gb⟩],λ(n,a)=>eD ((∃k,cR (bV a) (k+10))/\((bV a).ky 0).length<=50000) (gM (bV a) 0 n) λy=>(y,a)⟩
def Qd:cg:=⟨[sP 0,Iw 1 0,sS 7 33,(9,false,[.ptr 36 0]),sI 50],gb++iK 33++[some (.cells [.d oI])]⟩
def BF(x:xM.inp.den)(y:Qd.den):Prop:=match x,y with
 |(n,a1,a2,a3,a4,a5,a6,a7,a8,a9,c,f,g,h,i,j,l,o,p,r,s,t,u,v,w,z,A,b,B,C,D,E,F,a,G,_),(k,b1,b2,b3,b4,b5,b6,b7,b8,b9,H,J,K,L,M,N,O,P,Q,R,S,U,W,X,Y,a0,b0,c0,c1,c2,c3,c4,c5,c6,c7,_,ts,m,e,_)=>(bV (b1,b2,b3,b4,b5,b6,b7,b8,b9,H,J,K,L,M,N,O,P,Q,R,S,U,W,X,Y,a0,b0,c0,c1,c2,c3,c4,c5,c6,c7,()))=(bV (a1,a2,a3,a4,a5,a6,a7,a8,a9,c,f,g,h,i,j,l,o,p,r,s,t,u,v,w,z,A,b,B,C,D,E,F,a,G,()))/\1<=n/\n<=a.length/\e=(eL (a.getD (n-1).toNat []) true (0,0)).1/\cK (a.getD (n-1).toNat []) (eL (a.getD (n-1).toNat []) true (0,0)).2.1 true (eL (a.getD (n-1).toNat []) true (0,0)).2.2=0/\∃q:Nat,k=q/\q<=5/\bO (2*(5-q)+2) ts/\oU (dC b) (ts,m)
def HW:cg:=⟨[sS 7 33,(13,false,[.ptr 36 0]),(90,false,[.ptr 37 0])],gb.set (14+0) (some (.lk .i64 tB))++iK 33++[some (.cells [.d Dq]),some (.mit (14+0) .i64 tB)]⟩
def vG(x:xM.inp.den)(y:HW.den):Prop:=match x,y with
 |(n,a1,a2,a3,a4,a5,a6,a7,a8,a9,e,f,g,h,i,j,o,p,r,s,t,u,v,w,z,A,B,c,C,D,E,F,G,a,H,_),(b1,b2,b3,b4,b5,b6,b7,b8,b9,J,K,L,M,N,O,P,Q,R,S,U,W,X,Y,a0,b0,c0,c1,c2,c3,c4,c5,c6,c7,c8,_,ts,m,l,b,_,_)=>(bV (b1,b2,b3,b4,b5,b6,b7,b8,b9,J,K,L,M,N,O,P,Q,R,S,U,W,X,Y,a0,b0,c0,c1,c2,c3,c4,c5,c6,c7,c8,()))=(bV (a1,a2,a3,a4,a5,a6,a7,a8,a9,e,f,g,h,i,j,o,p,r,s,t,u,v,w,z,A,B,c,C,D,E,F,G,a,H,()))/\1<=n/\n<=a.length/\l=(fR (a.getD (n-1).toNat []) true (0,0)).1/\cK (a.getD (n-1).toNat []) (fR (a.getD (n-1).toNat []) true (0,0)).2.1 true (fR (a.getD (n-1).toNat []) true (0,0)).2.2=0/\(∀q∈b,q∈(bV (a1,a2,a3,a4,a5,a6,a7,a8,a9,e,f,g,h,i,j,o,p,r,s,t,u,v,w,z,A,B,c,C,D,E,F,G,a,H,())).ky 0)/\bO (b.length+1) ts/\oU (dC c) (ts,m)
def a4i(x:xM.inp.den):dB:=⟨[(8,bK Qd (BF x) λ(k,_)=>(@bv Int Int Int _ 5 k).toNat),(20,bK HW (vG x) λ(_,_,_,_,_,_,_,_,_,_,_,_,_,_,_,_,_,_,_,_,_,_,_,_,_,_,_,_,_,_,_,_,_,_,_,_,_,_,a,_,_)=>a.length)],[],[],[],0⟩
def xN:Ct:=⟨3,⟨[sP 0,Iw 1 1,sI 2],gb⟩,[⟨[sL 0],gb⟩],λ(n,a)=>eD ((∃k,cR (bV a) (k+10))/\((bV a).ky 1).length<=50000) (gM (bV a) 1 n) λy=>(y,a)⟩
def Qe:cg:=⟨[sP 0,Iw 1 1,sS 7 33,(9,false,[.ptr 36 0]),sI 50],gb++iK 33++[some (.cells [.d oI])]⟩
def BG(x:xN.inp.den)(y:Qe.den):Prop:=match x,y with
 |(n,a1,a2,a3,a4,a5,a6,a7,a8,a9,c,f,g,h,i,j,l,o,p,r,s,t,u,v,w,z,A,b,B,C,D,E,F,a,G,_),(k,b1,b2,b3,b4,b5,b6,b7,b8,b9,H,J,K,L,M,N,O,P,Q,R,S,U,W,X,Y,a0,b0,c0,c1,c2,c3,c4,c5,c6,c7,_,ts,m,e,_)=>(bV (b1,b2,b3,b4,b5,b6,b7,b8,b9,H,J,K,L,M,N,O,P,Q,R,S,U,W,X,Y,a0,b0,c0,c1,c2,c3,c4,c5,c6,c7,()))=(bV (a1,a2,a3,a4,a5,a6,a7,a8,a9,c,f,g,h,i,j,l,o,p,r,s,t,u,v,w,z,A,b,B,C,D,E,F,a,G,()))/\1<=n/\n<=a.length/\e=(eL (a.getD (n-1).toNat []) true (0,0)).1/\cK (a.getD (n-1).toNat []) (eL (a.getD (n-1).toNat []) true (0,0)).2.1 true (eL (a.getD (n-1).toNat []) true (0,0)).2.2=0/\∃q:Nat,k=q/\q<=5/\bO (2*(5-q)+2) ts/\oU (dC b) (ts,m)
def HX:cg:=⟨[sS 7 33,(13,false,[.ptr 36 0]),(90,false,[.ptr 37 0])],gb.set (14+1) (some (.lk .i64 tB))++iK 33++[some (.cells [.d Dq]),some (.mit (14+1) .i64 tB)]⟩
def vH(x:xN.inp.den)(y:HX.den):Prop:=match x,y with
 |(n,a1,a2,a3,a4,a5,a6,a7,a8,a9,e,f,g,h,i,j,o,p,r,s,t,u,v,w,z,A,B,c,C,D,E,F,G,a,H,_),(b1,b2,b3,b4,b5,b6,b7,b8,b9,J,K,L,M,N,O,P,Q,R,S,U,W,X,Y,a0,b0,c0,c1,c2,c3,c4,c5,c6,c7,c8,_,ts,m,l,b,_,_)=>(bV (b1,b2,b3,b4,b5,b6,b7,b8,b9,J,K,L,M,N,O,P,Q,R,S,U,W,X,Y,a0,b0,c0,c1,c2,c3,c4,c5,c6,c7,c8,()))=(bV (a1,a2,a3,a4,a5,a6,a7,a8,a9,e,f,g,h,i,j,o,p,r,s,t,u,v,w,z,A,B,c,C,D,E,F,G,a,H,()))/\1<=n/\n<=a.length/\l=(fR (a.getD (n-1).toNat []) true (0,0)).1/\cK (a.getD (n-1).toNat []) (fR (a.getD (n-1).toNat []) true (0,0)).2.1 true (fR (a.getD (n-1).toNat []) true (0,0)).2.2=0/\(∀q∈b,q∈(bV (a1,a2,a3,a4,a5,a6,a7,a8,a9,e,f,g,h,i,j,o,p,r,s,t,u,v,w,z,A,B,c,C,D,E,F,G,a,H,())).ky 1)/\bO (b.length+1) ts/\oU (dC c) (ts,m)
def a4j(x:xN.inp.den):dB:=⟨[(8,bK Qe (BG x) λ(k,_)=>(@bv Int Int Int _ 5 k).toNat),(20,bK HX (vH x) λ(_,_,_,_,_,_,_,_,_,_,_,_,_,_,_,_,_,_,_,_,_,_,_,_,_,_,_,_,_,_,_,_,_,_,_,_,_,_,a,_,_)=>a.length)],[],[],[],0⟩
def xO:Ct:=⟨3,⟨[sP 0,Iw 1 2,sI 2],gb⟩,[⟨[sL 0],gb⟩],λ(n,a)=>eD ((∃k,cR (bV a) (k+10))/\((bV a).ky 2).length<=50000) (gM (bV a) 2 n) λy=>(y,a)⟩
def Qf:cg:=⟨[sP 0,Iw 1 2,sS 7 33,(9,false,[.ptr 36 0]),sI 50],gb++iK 33++[some (.cells [.d oI])]⟩
def BH(x:xO.inp.den)(y:Qf.den):Prop:=match x,y with
 |(n,a1,a2,a3,a4,a5,a6,a7,a8,a9,c,f,g,h,i,j,l,o,p,r,s,t,u,v,w,z,A,b,B,C,D,E,F,a,G,_),(k,b1,b2,b3,b4,b5,b6,b7,b8,b9,H,J,K,L,M,N,O,P,Q,R,S,U,W,X,Y,a0,b0,c0,c1,c2,c3,c4,c5,c6,c7,_,ts,m,e,_)=>(bV (b1,b2,b3,b4,b5,b6,b7,b8,b9,H,J,K,L,M,N,O,P,Q,R,S,U,W,X,Y,a0,b0,c0,c1,c2,c3,c4,c5,c6,c7,()))=(bV (a1,a2,a3,a4,a5,a6,a7,a8,a9,c,f,g,h,i,j,l,o,p,r,s,t,u,v,w,z,A,b,B,C,D,E,F,a,G,()))/\1<=n/\n<=a.length/\e=(eL (a.getD (n-1).toNat []) true (0,0)).1/\cK (a.getD (n-1).toNat []) (eL (a.getD (n-1).toNat []) true (0,0)).2.1 true (eL (a.getD (n-1).toNat []) true (0,0)).2.2=0/\∃q:Nat,k=q/\q<=5/\bO (2*(5-q)+2) ts/\oU (dC b) (ts,m)
def HY:cg:=⟨[sS 7 33,(13,false,[.ptr 36 0]),(90,false,[.ptr 37 0])],gb.set (14+2) (some (.lk .i64 tB))++iK 33++[some (.cells [.d Dq]),some (.mit (14+2) .i64 tB)]⟩
def vI(x:xO.inp.den)(y:HY.den):Prop:=match x,y with
 |(n,a1,a2,a3,a4,a5,a6,a7,a8,a9,e,f,g,h,i,j,o,p,r,s,t,u,v,w,z,A,B,c,C,D,E,F,G,a,H,_),(b1,b2,b3,b4,b5,b6,b7,b8,b9,J,K,L,M,N,O,P,Q,R,S,U,W,X,Y,a0,b0,c0,c1,c2,c3,c4,c5,c6,c7,c8,_,ts,m,l,b,_,_)=>(bV (b1,b2,b3,b4,b5,b6,b7,b8,b9,J,K,L,M,N,O,P,Q,R,S,U,W,X,Y,a0,b0,c0,c1,c2,c3,c4,c5,c6,c7,c8,()))=(bV (a1,a2,a3,a4,a5,a6,a7,a8,a9,e,f,g,h,i,j,o,p,r,s,t,u,v,w,z,A,B,c,C,D,E,F,G,a,H,()))/\1<=n/\n<=a.length/\l=(fR (a.getD (n-1).toNat []) true (0,0)).1/\cK (a.getD (n-1).toNat []) (fR (a.getD (n-1).toNat []) true (0,0)).2.1 true (fR (a.getD (n-1).toNat []) true (0,0)).2.2=0/\(∀q∈b,q∈(bV (a1,a2,a3,a4,a5,a6,a7,a8,a9,e,f,g,h,i,j,o,p,r,s,t,u,v,w,z,A,B,c,C,D,E,F,G,a,H,())).ky 2)/\bO (b.length+1) ts/\oU (dC c) (ts,m)
def a4k(x:xO.inp.den):dB:=⟨[(8,bK Qf (BH x) λ(k,_)=>(@bv Int Int Int _ 5 k).toNat),(20,bK HY (vI x) λ(_,_,_,_,_,_,_,_,_,_,_,_,_,_,_,_,_,_,_,_,_,_,_,_,_,_,_,_,_,_,_,_,_,_,_,_,_,_,a,_,_)=>a.length)],[],[],[],0⟩
def xP:Ct:=⟨3,⟨[sP 0,Iw 1 3,sI 2],gb⟩,[⟨[sL 0],gb⟩],λ(n,a)=>eD ((∃k,cR (bV a) (k+10))/\((bV a).ky 3).length<=50000) (gM (bV a) 3 n) λy=>(y,a)⟩
def Qg:cg:=⟨[sP 0,Iw 1 3,sS 7 33,(9,false,[.ptr 36 0]),sI 50],gb++iK 33++[some (.cells [.d oI])]⟩
def BI(x:xP.inp.den)(y:Qg.den):Prop:=match x,y with
 |(n,a1,a2,a3,a4,a5,a6,a7,a8,a9,c,f,g,h,i,j,l,o,p,r,s,t,u,v,w,z,A,b,B,C,D,E,F,a,G,_),(k,b1,b2,b3,b4,b5,b6,b7,b8,b9,H,J,K,L,M,N,O,P,Q,R,S,U,W,X,Y,a0,b0,c0,c1,c2,c3,c4,c5,c6,c7,_,ts,m,e,_)=>(bV (b1,b2,b3,b4,b5,b6,b7,b8,b9,H,J,K,L,M,N,O,P,Q,R,S,U,W,X,Y,a0,b0,c0,c1,c2,c3,c4,c5,c6,c7,()))=(bV (a1,a2,a3,a4,a5,a6,a7,a8,a9,c,f,g,h,i,j,l,o,p,r,s,t,u,v,w,z,A,b,B,C,D,E,F,a,G,()))/\1<=n/\n<=a.length/\e=(eL (a.getD (n-1).toNat []) true (0,0)).1/\cK (a.getD (n-1).toNat []) (eL (a.getD (n-1).toNat []) true (0,0)).2.1 true (eL (a.getD (n-1).toNat []) true (0,0)).2.2=0/\∃q:Nat,k=q/\q<=5/\bO (2*(5-q)+2) ts/\oU (dC b) (ts,m)
def HZ:cg:=⟨[sS 7 33,(13,false,[.ptr 36 0]),(90,false,[.ptr 37 0])],gb.set (14+3) (some (.lk .i64 tB))++iK 33++[some (.cells [.d Dq]),some (.mit (14+3) .i64 tB)]⟩
def vJ(x:xP.inp.den)(y:HZ.den):Prop:=match x,y with
 |(n,a1,a2,a3,a4,a5,a6,a7,a8,a9,e,f,g,h,i,j,o,p,r,s,t,u,v,w,z,A,B,c,C,D,E,F,G,a,H,_),(b1,b2,b3,b4,b5,b6,b7,b8,b9,J,K,L,M,N,O,P,Q,R,S,U,W,X,Y,a0,b0,c0,c1,c2,c3,c4,c5,c6,c7,c8,_,ts,m,l,b,_,_)=>(bV (b1,b2,b3,b4,b5,b6,b7,b8,b9,J,K,L,M,N,O,P,Q,R,S,U,W,X,Y,a0,b0,c0,c1,c2,c3,c4,c5,c6,c7,c8,()))=(bV (a1,a2,a3,a4,a5,a6,a7,a8,a9,e,f,g,h,i,j,o,p,r,s,t,u,v,w,z,A,B,c,C,D,E,F,G,a,H,()))/\1<=n/\n<=a.length/\l=(fR (a.getD (n-1).toNat []) true (0,0)).1/\cK (a.getD (n-1).toNat []) (fR (a.getD (n-1).toNat []) true (0,0)).2.1 true (fR (a.getD (n-1).toNat []) true (0,0)).2.2=0/\(∀q∈b,q∈(bV (a1,a2,a3,a4,a5,a6,a7,a8,a9,e,f,g,h,i,j,o,p,r,s,t,u,v,w,z,A,B,c,C,D,E,F,G,a,H,())).ky 3)/\bO (b.length+1) ts/\oU (dC c) (ts,m)
def a4l(x:xP.inp.den):dB:=⟨[(8,bK Qg (BI x) λ(k,_)=>(@bv Int Int Int _ 5 k).toNat),(20,bK HZ (vJ x) λ(_,_,_,_,_,_,_,_,_,_,_,_,_,_,_,_,_,_,_,_,_,_,_,_,_,_,_,_,_,_,_,_,_,_,_,_,_,_,a,_,_)=>a.length)],[],[],[],0⟩
def zI:Ct:=⟨3,⟨[sP 0,Iw 1 4,sI 2],gb⟩,[⟨[sL 0],gb⟩],λ(n,a)=>eD ((∃k,cR (bV a) (k+10))/\((bV a).ky 4).length<=50000) (gM (bV a) 4 n) λy=>(y,a)⟩
def Qh:cg:=⟨[sP 0,Iw 1 4,sS 7 33,(9,false,[.ptr 36 0]),sI 50],gb++iK 33++[some (.cells [.d oI])]⟩
def BJ(x:zI.inp.den)(y:Qh.den):Prop:=match x,y with
 |(n,a1,a2,a3,a4,a5,a6,a7,a8,a9,c,f,g,h,i,j,l,o,p,r,s,t,u,v,w,z,A,b,B,C,D,E,F,a,G,_),(k,b1,b2,b3,b4,b5,b6,b7,b8,b9,H,J,K,L,M,N,O,P,Q,R,S,U,W,X,Y,a0,b0,c0,c1,c2,c3,c4,c5,c6,c7,_,ts,m,e,_)=>(bV (b1,b2,b3,b4,b5,b6,b7,b8,b9,H,J,K,L,M,N,O,P,Q,R,S,U,W,X,Y,a0,b0,c0,c1,c2,c3,c4,c5,c6,c7,()))=(bV (a1,a2,a3,a4,a5,a6,a7,a8,a9,c,f,g,h,i,j,l,o,p,r,s,t,u,v,w,z,A,b,B,C,D,E,F,a,G,()))/\1<=n/\n<=a.length/\e=(eL (a.getD (n-1).toNat []) true (0,0)).1/\cK (a.getD (n-1).toNat []) (eL (a.getD (n-1).toNat []) true (0,0)).2.1 true (eL (a.getD (n-1).toNat []) true (0,0)).2.2=0/\∃q:Nat,k=q/\q<=5/\bO (2*(5-q)+2) ts/\oU (dC b) (ts,m)
def H0:cg:=⟨[sS 7 33,(13,false,[.ptr 36 0]),(90,false,[.ptr 37 0])],gb.set (14+4) (some (.lk .i64 tB))++iK 33++[some (.cells [.d Dq]),some (.mit (14+4) .i64 tB)]⟩
def vK(x:zI.inp.den)(y:H0.den):Prop:=match x,y with
 |(n,a1,a2,a3,a4,a5,a6,a7,a8,a9,e,f,g,h,i,j,o,p,r,s,t,u,v,w,z,A,B,c,C,D,E,F,G,a,H,_),(b1,b2,b3,b4,b5,b6,b7,b8,b9,J,K,L,M,N,O,P,Q,R,S,U,W,X,Y,a0,b0,c0,c1,c2,c3,c4,c5,c6,c7,c8,_,ts,m,l,b,_,_)=>(bV (b1,b2,b3,b4,b5,b6,b7,b8,b9,J,K,L,M,N,O,P,Q,R,S,U,W,X,Y,a0,b0,c0,c1,c2,c3,c4,c5,c6,c7,c8,()))=(bV (a1,a2,a3,a4,a5,a6,a7,a8,a9,e,f,g,h,i,j,o,p,r,s,t,u,v,w,z,A,B,c,C,D,E,F,G,a,H,()))/\1<=n/\n<=a.length/\l=(fR (a.getD (n-1).toNat []) true (0,0)).1/\cK (a.getD (n-1).toNat []) (fR (a.getD (n-1).toNat []) true (0,0)).2.1 true (fR (a.getD (n-1).toNat []) true (0,0)).2.2=0/\(∀q∈b,q∈(bV (a1,a2,a3,a4,a5,a6,a7,a8,a9,e,f,g,h,i,j,o,p,r,s,t,u,v,w,z,A,B,c,C,D,E,F,G,a,H,())).ky 4)/\bO (b.length+1) ts/\oU (dC c) (ts,m)
def a4m(x:zI.inp.den):dB:=⟨[(8,bK Qh (BJ x) λ(k,_)=>(@bv Int Int Int _ 5 k).toNat),(20,bK H0 (vK x) λ(_,_,_,_,_,_,_,_,_,_,_,_,_,_,_,_,_,_,_,_,_,_,_,_,_,_,_,_,_,_,_,_,_,_,_,_,_,_,a,_,_)=>a.length)],[],[],[],0⟩
abbrev U3(v:Bool×TA Unit):cw xM.out:=⟨0,v⟩
theorem H1:bS Tryz.prog 19 xM:=kC zH a4i (∀(a:Int),WA λi j k e l m n o p q r s t u v w y a0 a1 a2 f a3 a4 a5 a6 a7 d a8 a9 b0 b1 b2 c b3=>let z9:= !decide (1<=a/\a<=nI c);let x:=gD c (a-1) [];let A:=(i,j,k,e,l,m,n,o,p,q,r,s,t,u,v,w,y,a0,a1,a2,f,a3,a4,a5,a6,a7,d,a8,a9,b0,b1,b2,c,b3,());let z6:=U3 (false,A);∀Q,bd xM (a,A) Q->True/\Br false (Q z6) (True/\Br z9 (Q z6) (eC d/\ac (a-1)/\iN (a-1) c/\x.length<=1099511627776/\bQ x 0/\∀b,let z8:=cK x b.2.1 true b.2.2==0;b=eL x true (0,0)->bQ x b.2.1/\Br z8 (Is (BF (a,A) (0,i,j,k,e,l,m,n,o,p,q,r,s,t,u,v,w,y,a0,a1,a2,f,a3,a4,a5,a6,a7,d,a8,a9,b0,b1,b2,c,b3,e,(dC d).1,(dC d).2,b.1,()))/\∀(g:Int),WA λB C D E F G H J K L M N O P R S U W X Y d4 d5 d6 d7 d8 d9 e0 e1 e2 e3 e4 e5 e6 e7=>let z5:=(B.getD 0 (ak 2 [])).getD 0 [];let z3:=(B,C,D,E,F,G,H,J,K,L,M,N,O,P,R,S,U,W,X,Y,d4,d5,d6,d7,d8,d9,e0,e1,e2,e3,e4,e5,e6,e7,());∀(e9:Int)(f0:List Tm)(e8:KV)(h:Et),BF (a,A) (g,B,C,D,E,F,G,H,J,K,L,M,N,O,P,R,S,U,W,X,Y,d4,d5,d6,d7,d8,d9,e0,e1,e2,e3,e4,e5,e6,e7,e9,f0,e8,h,())->Bd (g<5) ((aB z5/\gg h/\ah (fq h)<=100000000/\(∀(b:BL),b∈h.2.2.2.2.2.1->aB b)/\aB h.2.2.2.2.1/\bO 2 f0)/\∀b,b=lM h g z5 f0 e8->Br (b.1.2==0) (Q ⟨0,true,z3⟩) (ac (g+1)/\Is (BF (a,A) (g+1,B,C,D,E,F,G,H,J,K,L,M,N,O,P,R,S,U,W,X,Y,d4,d5,d6,d7,d8,d9,e0,e1,e2,e3,e4,e5,e6,e7,e9,b.2.1,b.2.2,h,())/\lN (5-(g+1)) (5-g)))) (Q ⟨0,false,z3⟩)) (ac (a-1)/\iN (a-1) c/\x.length<=1099511627776/\bQ x 0/\∀b,let z7:= !cK x b.2.1 true b.2.2==0;b=fR x true (0,0)->bQ x b.2.1/\Br z7 (Q z6) (Is (vG (a,A) (i,j,k,e,l,m,n,o,p,q,r,s,t,u,v,w,y,a0,a1,a2,f,a3,a4,a5,a6,a7,d,a8,a9,b0,b1,b2,c,b3,e,(dC d).1,(dC d).2,b.1,f,none,()))/\WA λg B C D E F G H J K L M N O P R S U W X Y d4 d5 d6 d7 d8 d9 e0 e1 e2 e3 e4 e5 e6=>let z4:=(g,B,C,D,E,F,G,H,J,K,L,M,N,O,P,R,S,U,W,X,Y,d4,d5,d6,d7,d8,d9,e0,e1,e2,e3,e4,e5,e6,());∀(e7:Int)(e9:List Tm)(f0:KV)(e8:Lt)(h:KM)(z:Option (Int×BL)),vG (a,A) (g,B,C,D,E,F,G,H,J,K,L,M,N,O,P,R,S,U,W,X,Y,d4,d5,d6,d7,d8,d9,e0,e1,e2,e3,e4,e5,e6,e7,e9,f0,e8,h,z,())->Br (!h.isEmpty) (∀(b:(Int×BL)×KM),h.Perm (b.1::b.2)->(hC e8/\bO 1 e9)/\∀f1,f1=mW b.1.2 e8 e9 f0->Br (f1.1.2==0) (Q ⟨0,true,z4⟩) (Is (vG (a,A) (g,B,C,D,E,F,G,H,J,K,L,M,N,O,P,R,S,U,W,X,Y,d4,d5,d6,d7,d8,d9,e0,e1,e2,e3,e4,e5,e6,e7,f1.2.1,f1.2.2,e8,b.2,some b.1,())/\b.2.length<h.length))) (Q ⟨0,false,z4⟩)))))) (by
 conv=>zeta
 unfold Bd Br WA gD iN lN nI bd;intro n;refine Wd.all λw=>?_;rintro Q ⟨⟨⟨X,D⟩,Y⟩,P⟩;have D:cR w (X+10):=D;have G:∀y,gM w 0 n y->Q ⟨0,(y,bZ w)⟩:=λy h=>P y h;have E:Q ⟨0,(false,bZ w)⟩:=G false (λh=>by cases h);clear P;refine⟨trivial,λc=>(by cases c),λ_=>⟨trivial,λ_=>E,λc=>?_⟩⟩;have c:1<=n/\n<=(w.st.length:Int):=by simpa using c
 obtain⟨g1,F,R,S,t,U⟩:=HT D c;refine⟨g1,F,R,S,t,λe H=>⟨by rw[H];exact(vm t).1,λg=>?_,λg=>⟨F,R,S,t,λl j=>⟨by rw[j];exact(Dt t).1,λ_=>E,λF=>?_⟩⟩⟩⟩
 ·have u:=aZ g;rw[H]at u;have x:=fy ((vm t).2 u).2;refine⟨⟨⟨rfl,c.1,c.2,aH ga H,u,0,rfl,aq _,U 12 (by decide), .refl _⟩⟩,?_⟩;intro k;refine Wd.all λv=>?_;rintro d ts m e2 ⟨o,A,B,a,C,q,f,a0,J,K⟩;have o:v=w:=o;have a:e2=(eL (w.st.getD (n-1).toNat []) true (0,0)).1:=a;subst o;rw[<-a]at x;refine⟨λL=>?_,λ_=>E⟩;have L:=ag L;obtain⟨ha,M,r⟩:=HU D (i:=0) A B x a C f L J K;exact⟨⟨ha,x.1,x.2.2.1,x.2.2.2.2.2.1,x.2.2.2.2.2.2,M⟩,λb s=>⟨λN=>G true ((r b s).1 N),λ_=>⟨by have f:k=(q:Int):=f;unfold ac;omega,⟨⟨rfl,A,B,a,C,q+1,by have f:k=(q:Int):=f;rw[f];rfl,by have f:k=(q:Int):=f;omega,(r b s).2.1,(r b s).2.2⟩,by omega⟩⟩⟩⟩
 ·have u:cK (w.st.getD (n-1).toNat []) l.2.1 true l.2.2=0:=aC.1 (jV F);rw[j]at u;refine⟨⟨⟨rfl,c.1,c.2,aH ga j,u,λp O=>O,U _ (bq (Nat.succ_le_succ Y) (by decide)), .refl _⟩⟩,?_⟩;refine Wd.all λv=>?_;rintro d ts m l2 W z ⟨o,A,B,a,C,f,J,K⟩;have o:v=w:=o;have a:l2=(fR (w.st.getD (n-1).toNat []) true (0,0)).1:=a;subst o;refine⟨λ_ p O=>?_,λ_=>E⟩;obtain⟨M,h8,h9,r⟩:=HV (i:=0) A B a C f J K O;exact⟨⟨by rw[a];exact oR t,M⟩,λb s=>⟨λN=>G true ((r b s).1 N),λ_=>⟨⟨rfl,A,B,a,C,h8,(r b s).2.1,(r b s).2.2⟩,h9⟩⟩⟩)
def Qi:bw:=(19,[xM])::HS
theorem H2:KK Qi:=⟨aQ.add zH.1 (by kernel_rfl) (bo (H1)),bg.add zH.2 (bo (λ_=>aM λ_=>hX _ _ _))⟩
abbrev U4(v:Bool×TA Unit):cw xN.out:=⟨0,v⟩
theorem H3:bS Tryz.prog 19 xN:=kC H2 a4j (∀(a:Int),WA λi j k e l m n o p q r s t u v w y a0 a1 a2 a3 f a4 a5 a6 a7 d a8 a9 b0 b1 b2 c b3=>let z9:= !decide (1<=a/\a<=nI c);let x:=gD c (a-1) [];let A:=(i,j,k,e,l,m,n,o,p,q,r,s,t,u,v,w,y,a0,a1,a2,a3,f,a4,a5,a6,a7,d,a8,a9,b0,b1,b2,c,b3,());let z6:=U4 (false,A);∀Q,bd xN (a,A) Q->True/\Br false (Q z6) (True/\Br z9 (Q z6) (eC d/\ac (a-1)/\iN (a-1) c/\x.length<=1099511627776/\bQ x 0/\∀b,let z8:=cK x b.2.1 true b.2.2==0;b=eL x true (0,0)->bQ x b.2.1/\Br z8 (Is (BG (a,A) (0,i,j,k,e,l,m,n,o,p,q,r,s,t,u,v,w,y,a0,a1,a2,a3,f,a4,a5,a6,a7,d,a8,a9,b0,b1,b2,c,b3,e,(dC d).1,(dC d).2,b.1,()))/\∀(g:Int),WA λB C D E F G H J K L M N O P R S U W X Y d4 d5 d6 d7 d8 d9 e0 e1 e2 e3 e4 e5 e6 e7=>let z5:=(B.getD 1 (ak 2 [])).getD 0 [];let z3:=(B,C,D,E,F,G,H,J,K,L,M,N,O,P,R,S,U,W,X,Y,d4,d5,d6,d7,d8,d9,e0,e1,e2,e3,e4,e5,e6,e7,());∀(e9:Int)(f0:List Tm)(e8:KV)(h:Et),BG (a,A) (g,B,C,D,E,F,G,H,J,K,L,M,N,O,P,R,S,U,W,X,Y,d4,d5,d6,d7,d8,d9,e0,e1,e2,e3,e4,e5,e6,e7,e9,f0,e8,h,())->Bd (g<5) ((aB z5/\gg h/\ah (fq h)<=100000000/\(∀(b:BL),b∈h.2.2.2.2.2.1->aB b)/\aB h.2.2.2.2.1/\bO 2 f0)/\∀b,b=lM h g z5 f0 e8->Br (b.1.2==0) (Q ⟨0,true,z3⟩) (ac (g+1)/\Is (BG (a,A) (g+1,B,C,D,E,F,G,H,J,K,L,M,N,O,P,R,S,U,W,X,Y,d4,d5,d6,d7,d8,d9,e0,e1,e2,e3,e4,e5,e6,e7,e9,b.2.1,b.2.2,h,())/\lN (5-(g+1)) (5-g)))) (Q ⟨0,false,z3⟩)) (ac (a-1)/\iN (a-1) c/\x.length<=1099511627776/\bQ x 0/\∀b,let z7:= !cK x b.2.1 true b.2.2==0;b=fR x true (0,0)->bQ x b.2.1/\Br z7 (Q z6) (Is (vH (a,A) (i,j,k,e,l,m,n,o,p,q,r,s,t,u,v,w,y,a0,a1,a2,a3,f,a4,a5,a6,a7,d,a8,a9,b0,b1,b2,c,b3,e,(dC d).1,(dC d).2,b.1,f,none,()))/\WA λg B C D E F G H J K L M N O P R S U W X Y d4 d5 d6 d7 d8 d9 e0 e1 e2 e3 e4 e5 e6=>let z4:=(g,B,C,D,E,F,G,H,J,K,L,M,N,O,P,R,S,U,W,X,Y,d4,d5,d6,d7,d8,d9,e0,e1,e2,e3,e4,e5,e6,());∀(e7:Int)(e9:List Tm)(f0:KV)(e8:Lt)(h:KM)(z:Option (Int×BL)),vH (a,A) (g,B,C,D,E,F,G,H,J,K,L,M,N,O,P,R,S,U,W,X,Y,d4,d5,d6,d7,d8,d9,e0,e1,e2,e3,e4,e5,e6,e7,e9,f0,e8,h,z,())->Br (!h.isEmpty) (∀(b:(Int×BL)×KM),h.Perm (b.1::b.2)->(hC e8/\bO 1 e9)/\∀f1,f1=mW b.1.2 e8 e9 f0->Br (f1.1.2==0) (Q ⟨0,true,z4⟩) (Is (vH (a,A) (g,B,C,D,E,F,G,H,J,K,L,M,N,O,P,R,S,U,W,X,Y,d4,d5,d6,d7,d8,d9,e0,e1,e2,e3,e4,e5,e6,e7,f1.2.1,f1.2.2,e8,b.2,some b.1,())/\b.2.length<h.length))) (Q ⟨0,false,z4⟩)))))) (by
 conv=>zeta
 unfold Bd Br WA gD iN lN nI bd;intro n;refine Wd.all λw=>?_;rintro Q ⟨⟨⟨X,D⟩,Y⟩,P⟩;have D:cR w (X+10):=D;have G:∀y,gM w 1 n y->Q ⟨0,(y,bZ w)⟩:=λy h=>P y h;have E:Q ⟨0,(false,bZ w)⟩:=G false (λh=>by cases h);clear P;refine⟨trivial,λc=>(by cases c),λ_=>⟨trivial,λ_=>E,λc=>?_⟩⟩;have c:1<=n/\n<=(w.st.length:Int):=by simpa using c
 obtain⟨g1,F,R,S,t,U⟩:=HT D c;refine⟨g1,F,R,S,t,λe H=>⟨by rw[H];exact(vm t).1,λg=>?_,λg=>⟨F,R,S,t,λl j=>⟨by rw[j];exact(Dt t).1,λ_=>E,λF=>?_⟩⟩⟩⟩
 ·have u:=aZ g;rw[H]at u;have x:=fy ((vm t).2 u).2;refine⟨⟨⟨rfl,c.1,c.2,aH ga H,u,0,rfl,aq _,U 12 (by decide), .refl _⟩⟩,?_⟩;intro k;refine Wd.all λv=>?_;rintro d ts m e2 ⟨o,A,B,a,C,q,f,a0,J,K⟩;have o:v=w:=o;have a:e2=(eL (w.st.getD (n-1).toNat []) true (0,0)).1:=a;subst o;rw[<-a]at x;refine⟨λL=>?_,λ_=>E⟩;have L:=ag L;obtain⟨ha,M,r⟩:=HU D (i:=1) A B x a C f L J K;exact⟨⟨ha,x.1,x.2.2.1,x.2.2.2.2.2.1,x.2.2.2.2.2.2,M⟩,λb s=>⟨λN=>G true ((r b s).1 N),λ_=>⟨by have f:k=(q:Int):=f;unfold ac;omega,⟨⟨rfl,A,B,a,C,q+1,by have f:k=(q:Int):=f;rw[f];rfl,by have f:k=(q:Int):=f;omega,(r b s).2.1,(r b s).2.2⟩,by omega⟩⟩⟩⟩
 ·have u:cK (w.st.getD (n-1).toNat []) l.2.1 true l.2.2=0:=aC.1 (jV F);rw[j]at u;refine⟨⟨⟨rfl,c.1,c.2,aH ga j,u,λp O=>O,U _ (bq (Nat.succ_le_succ Y) (by decide)), .refl _⟩⟩,?_⟩;refine Wd.all λv=>?_;rintro d ts m l2 W z ⟨o,A,B,a,C,f,J,K⟩;have o:v=w:=o;have a:l2=(fR (w.st.getD (n-1).toNat []) true (0,0)).1:=a;subst o;refine⟨λ_ p O=>?_,λ_=>E⟩;obtain⟨M,h8,h9,r⟩:=HV (i:=1) A B a C f J K O;exact⟨⟨by rw[a];exact oR t,M⟩,λb s=>⟨λN=>G true ((r b s).1 N),λ_=>⟨⟨rfl,A,B,a,C,h8,(r b s).2.1,(r b s).2.2⟩,h9⟩⟩⟩)
def Qj:bw:=(19,[xN])::Qi
theorem H4:KK Qj:=⟨aQ.add H2.1 (by kernel_rfl) (bo (H3)),bg.add H2.2 (bo (λ_=>aM λ_=>hX _ _ _))⟩
abbrev U5(v:Bool×TA Unit):cw xO.out:=⟨0,v⟩
theorem H5:bS Tryz.prog 19 xO:=kC H4 a4k (∀(a:Int),WA λi j k e l m n o p q r s t u v w y a0 a1 a2 a3 a4 f a5 a6 a7 d a8 a9 b0 b1 b2 c b3=>let z9:= !decide (1<=a/\a<=nI c);let x:=gD c (a-1) [];let A:=(i,j,k,e,l,m,n,o,p,q,r,s,t,u,v,w,y,a0,a1,a2,a3,a4,f,a5,a6,a7,d,a8,a9,b0,b1,b2,c,b3,());let z6:=U5 (false,A);∀Q,bd xO (a,A) Q->True/\Br false (Q z6) (True/\Br z9 (Q z6) (eC d/\ac (a-1)/\iN (a-1) c/\x.length<=1099511627776/\bQ x 0/\∀b,let z8:=cK x b.2.1 true b.2.2==0;b=eL x true (0,0)->bQ x b.2.1/\Br z8 (Is (BH (a,A) (0,i,j,k,e,l,m,n,o,p,q,r,s,t,u,v,w,y,a0,a1,a2,a3,a4,f,a5,a6,a7,d,a8,a9,b0,b1,b2,c,b3,e,(dC d).1,(dC d).2,b.1,()))/\∀(g:Int),WA λB C D E F G H J K L M N O P R S U W X Y d4 d5 d6 d7 d8 d9 e0 e1 e2 e3 e4 e5 e6 e7=>let z5:=(B.getD 2 (ak 2 [])).getD 0 [];let z3:=(B,C,D,E,F,G,H,J,K,L,M,N,O,P,R,S,U,W,X,Y,d4,d5,d6,d7,d8,d9,e0,e1,e2,e3,e4,e5,e6,e7,());∀(e9:Int)(f0:List Tm)(e8:KV)(h:Et),BH (a,A) (g,B,C,D,E,F,G,H,J,K,L,M,N,O,P,R,S,U,W,X,Y,d4,d5,d6,d7,d8,d9,e0,e1,e2,e3,e4,e5,e6,e7,e9,f0,e8,h,())->Bd (g<5) ((aB z5/\gg h/\ah (fq h)<=100000000/\(∀(b:BL),b∈h.2.2.2.2.2.1->aB b)/\aB h.2.2.2.2.1/\bO 2 f0)/\∀b,b=lM h g z5 f0 e8->Br (b.1.2==0) (Q ⟨0,true,z3⟩) (ac (g+1)/\Is (BH (a,A) (g+1,B,C,D,E,F,G,H,J,K,L,M,N,O,P,R,S,U,W,X,Y,d4,d5,d6,d7,d8,d9,e0,e1,e2,e3,e4,e5,e6,e7,e9,b.2.1,b.2.2,h,())/\lN (5-(g+1)) (5-g)))) (Q ⟨0,false,z3⟩)) (ac (a-1)/\iN (a-1) c/\x.length<=1099511627776/\bQ x 0/\∀b,let z7:= !cK x b.2.1 true b.2.2==0;b=fR x true (0,0)->bQ x b.2.1/\Br z7 (Q z6) (Is (vI (a,A) (i,j,k,e,l,m,n,o,p,q,r,s,t,u,v,w,y,a0,a1,a2,a3,a4,f,a5,a6,a7,d,a8,a9,b0,b1,b2,c,b3,e,(dC d).1,(dC d).2,b.1,f,none,()))/\WA λg B C D E F G H J K L M N O P R S U W X Y d4 d5 d6 d7 d8 d9 e0 e1 e2 e3 e4 e5 e6=>let z4:=(g,B,C,D,E,F,G,H,J,K,L,M,N,O,P,R,S,U,W,X,Y,d4,d5,d6,d7,d8,d9,e0,e1,e2,e3,e4,e5,e6,());∀(e7:Int)(e9:List Tm)(f0:KV)(e8:Lt)(h:KM)(z:Option (Int×BL)),vI (a,A) (g,B,C,D,E,F,G,H,J,K,L,M,N,O,P,R,S,U,W,X,Y,d4,d5,d6,d7,d8,d9,e0,e1,e2,e3,e4,e5,e6,e7,e9,f0,e8,h,z,())->Br (!h.isEmpty) (∀(b:(Int×BL)×KM),h.Perm (b.1::b.2)->(hC e8/\bO 1 e9)/\∀f1,f1=mW b.1.2 e8 e9 f0->Br (f1.1.2==0) (Q ⟨0,true,z4⟩) (Is (vI (a,A) (g,B,C,D,E,F,G,H,J,K,L,M,N,O,P,R,S,U,W,X,Y,d4,d5,d6,d7,d8,d9,e0,e1,e2,e3,e4,e5,e6,e7,f1.2.1,f1.2.2,e8,b.2,some b.1,())/\b.2.length<h.length))) (Q ⟨0,false,z4⟩)))))) (by
 conv=>zeta
 unfold Bd Br WA gD iN lN nI bd;intro n;refine Wd.all λw=>?_;rintro Q ⟨⟨⟨X,D⟩,Y⟩,P⟩;have D:cR w (X+10):=D;have G:∀y,gM w 2 n y->Q ⟨0,(y,bZ w)⟩:=λy h=>P y h;have E:Q ⟨0,(false,bZ w)⟩:=G false (λh=>by cases h);clear P;refine⟨trivial,λc=>(by cases c),λ_=>⟨trivial,λ_=>E,λc=>?_⟩⟩;have c:1<=n/\n<=(w.st.length:Int):=by simpa using c
 obtain⟨g1,F,R,S,t,U⟩:=HT D c;refine⟨g1,F,R,S,t,λe H=>⟨by rw[H];exact(vm t).1,λg=>?_,λg=>⟨F,R,S,t,λl j=>⟨by rw[j];exact(Dt t).1,λ_=>E,λF=>?_⟩⟩⟩⟩
 ·have u:=aZ g;rw[H]at u;have x:=fy ((vm t).2 u).2;refine⟨⟨⟨rfl,c.1,c.2,aH ga H,u,0,rfl,aq _,U 12 (by decide), .refl _⟩⟩,?_⟩;intro k;refine Wd.all λv=>?_;rintro d ts m e2 ⟨o,A,B,a,C,q,f,a0,J,K⟩;have o:v=w:=o;have a:e2=(eL (w.st.getD (n-1).toNat []) true (0,0)).1:=a;subst o;rw[<-a]at x;refine⟨λL=>?_,λ_=>E⟩;have L:=ag L;obtain⟨ha,M,r⟩:=HU D (i:=2) A B x a C f L J K;exact⟨⟨ha,x.1,x.2.2.1,x.2.2.2.2.2.1,x.2.2.2.2.2.2,M⟩,λb s=>⟨λN=>G true ((r b s).1 N),λ_=>⟨by have f:k=(q:Int):=f;unfold ac;omega,⟨⟨rfl,A,B,a,C,q+1,by have f:k=(q:Int):=f;rw[f];rfl,by have f:k=(q:Int):=f;omega,(r b s).2.1,(r b s).2.2⟩,by omega⟩⟩⟩⟩
 ·have u:cK (w.st.getD (n-1).toNat []) l.2.1 true l.2.2=0:=aC.1 (jV F);rw[j]at u;refine⟨⟨⟨rfl,c.1,c.2,aH ga j,u,λp O=>O,U _ (bq (Nat.succ_le_succ Y) (by decide)), .refl _⟩⟩,?_⟩;refine Wd.all λv=>?_;rintro d ts m l2 W z ⟨o,A,B,a,C,f,J,K⟩;have o:v=w:=o;have a:l2=(fR (w.st.getD (n-1).toNat []) true (0,0)).1:=a;subst o;refine⟨λ_ p O=>?_,λ_=>E⟩;obtain⟨M,h8,h9,r⟩:=HV (i:=2) A B a C f J K O;exact⟨⟨by rw[a];exact oR t,M⟩,λb s=>⟨λN=>G true ((r b s).1 N),λ_=>⟨⟨rfl,A,B,a,C,h8,(r b s).2.1,(r b s).2.2⟩,h9⟩⟩⟩)
def Qk:bw:=(19,[xO])::Qj
theorem H6:KK Qk:=⟨aQ.add H4.1 (by kernel_rfl) (bo (H5)),bg.add H4.2 (bo (λ_=>aM λ_=>hX _ _ _))⟩
abbrev U6(v:Bool×TA Unit):cw xP.out:=⟨0,v⟩
theorem H7:bS Tryz.prog 19 xP:=kC H6 a4l (∀(a:Int),WA λi j k e l m n o p q r s t u v w y a0 a1 a2 a3 a4 a5 f a6 a7 d a8 a9 b0 b1 b2 c b3=>let z9:= !decide (1<=a/\a<=nI c);let x:=gD c (a-1) [];let A:=(i,j,k,e,l,m,n,o,p,q,r,s,t,u,v,w,y,a0,a1,a2,a3,a4,a5,f,a6,a7,d,a8,a9,b0,b1,b2,c,b3,());let z6:=U6 (false,A);∀Q,bd xP (a,A) Q->True/\Br false (Q z6) (True/\Br z9 (Q z6) (eC d/\ac (a-1)/\iN (a-1) c/\x.length<=1099511627776/\bQ x 0/\∀b,let z8:=cK x b.2.1 true b.2.2==0;b=eL x true (0,0)->bQ x b.2.1/\Br z8 (Is (BI (a,A) (0,i,j,k,e,l,m,n,o,p,q,r,s,t,u,v,w,y,a0,a1,a2,a3,a4,a5,f,a6,a7,d,a8,a9,b0,b1,b2,c,b3,e,(dC d).1,(dC d).2,b.1,()))/\∀(g:Int),WA λB C D E F G H J K L M N O P R S U W X Y d4 d5 d6 d7 d8 d9 e0 e1 e2 e3 e4 e5 e6 e7=>let z5:=(B.getD 3 (ak 2 [])).getD 0 [];let z3:=(B,C,D,E,F,G,H,J,K,L,M,N,O,P,R,S,U,W,X,Y,d4,d5,d6,d7,d8,d9,e0,e1,e2,e3,e4,e5,e6,e7,());∀(e9:Int)(f0:List Tm)(e8:KV)(h:Et),BI (a,A) (g,B,C,D,E,F,G,H,J,K,L,M,N,O,P,R,S,U,W,X,Y,d4,d5,d6,d7,d8,d9,e0,e1,e2,e3,e4,e5,e6,e7,e9,f0,e8,h,())->Bd (g<5) ((aB z5/\gg h/\ah (fq h)<=100000000/\(∀(b:BL),b∈h.2.2.2.2.2.1->aB b)/\aB h.2.2.2.2.1/\bO 2 f0)/\∀b,b=lM h g z5 f0 e8->Br (b.1.2==0) (Q ⟨0,true,z3⟩) (ac (g+1)/\Is (BI (a,A) (g+1,B,C,D,E,F,G,H,J,K,L,M,N,O,P,R,S,U,W,X,Y,d4,d5,d6,d7,d8,d9,e0,e1,e2,e3,e4,e5,e6,e7,e9,b.2.1,b.2.2,h,())/\lN (5-(g+1)) (5-g)))) (Q ⟨0,false,z3⟩)) (ac (a-1)/\iN (a-1) c/\x.length<=1099511627776/\bQ x 0/\∀b,let z7:= !cK x b.2.1 true b.2.2==0;b=fR x true (0,0)->bQ x b.2.1/\Br z7 (Q z6) (Is (vJ (a,A) (i,j,k,e,l,m,n,o,p,q,r,s,t,u,v,w,y,a0,a1,a2,a3,a4,a5,f,a6,a7,d,a8,a9,b0,b1,b2,c,b3,e,(dC d).1,(dC d).2,b.1,f,none,()))/\WA λg B C D E F G H J K L M N O P R S U W X Y d4 d5 d6 d7 d8 d9 e0 e1 e2 e3 e4 e5 e6=>let z4:=(g,B,C,D,E,F,G,H,J,K,L,M,N,O,P,R,S,U,W,X,Y,d4,d5,d6,d7,d8,d9,e0,e1,e2,e3,e4,e5,e6,());∀(e7:Int)(e9:List Tm)(f0:KV)(e8:Lt)(h:KM)(z:Option (Int×BL)),vJ (a,A) (g,B,C,D,E,F,G,H,J,K,L,M,N,O,P,R,S,U,W,X,Y,d4,d5,d6,d7,d8,d9,e0,e1,e2,e3,e4,e5,e6,e7,e9,f0,e8,h,z,())->Br (!h.isEmpty) (∀(b:(Int×BL)×KM),h.Perm (b.1::b.2)->(hC e8/\bO 1 e9)/\∀f1,f1=mW b.1.2 e8 e9 f0->Br (f1.1.2==0) (Q ⟨0,true,z4⟩) (Is (vJ (a,A) (g,B,C,D,E,F,G,H,J,K,L,M,N,O,P,R,S,U,W,X,Y,d4,d5,d6,d7,d8,d9,e0,e1,e2,e3,e4,e5,e6,e7,f1.2.1,f1.2.2,e8,b.2,some b.1,())/\b.2.length<h.length))) (Q ⟨0,false,z4⟩)))))) (by
 conv=>zeta
 unfold Bd Br WA gD iN lN nI bd;intro n;refine Wd.all λw=>?_;rintro Q ⟨⟨⟨X,D⟩,Y⟩,P⟩;have D:cR w (X+10):=D;have G:∀y,gM w 3 n y->Q ⟨0,(y,bZ w)⟩:=λy h=>P y h;have E:Q ⟨0,(false,bZ w)⟩:=G false (λh=>by cases h);clear P;refine⟨trivial,λc=>(by cases c),λ_=>⟨trivial,λ_=>E,λc=>?_⟩⟩;have c:1<=n/\n<=(w.st.length:Int):=by simpa using c
 obtain⟨g1,F,R,S,t,U⟩:=HT D c;refine⟨g1,F,R,S,t,λe H=>⟨by rw[H];exact(vm t).1,λg=>?_,λg=>⟨F,R,S,t,λl j=>⟨by rw[j];exact(Dt t).1,λ_=>E,λF=>?_⟩⟩⟩⟩
 ·have u:=aZ g;rw[H]at u;have x:=fy ((vm t).2 u).2;refine⟨⟨⟨rfl,c.1,c.2,aH ga H,u,0,rfl,aq _,U 12 (by decide), .refl _⟩⟩,?_⟩;intro k;refine Wd.all λv=>?_;rintro d ts m e2 ⟨o,A,B,a,C,q,f,a0,J,K⟩;have o:v=w:=o;have a:e2=(eL (w.st.getD (n-1).toNat []) true (0,0)).1:=a;subst o;rw[<-a]at x;refine⟨λL=>?_,λ_=>E⟩;have L:=ag L;obtain⟨ha,M,r⟩:=HU D (i:=3) A B x a C f L J K;exact⟨⟨ha,x.1,x.2.2.1,x.2.2.2.2.2.1,x.2.2.2.2.2.2,M⟩,λb s=>⟨λN=>G true ((r b s).1 N),λ_=>⟨by have f:k=(q:Int):=f;unfold ac;omega,⟨⟨rfl,A,B,a,C,q+1,by have f:k=(q:Int):=f;rw[f];rfl,by have f:k=(q:Int):=f;omega,(r b s).2.1,(r b s).2.2⟩,by omega⟩⟩⟩⟩
 ·have u:cK (w.st.getD (n-1).toNat []) l.2.1 true l.2.2=0:=aC.1 (jV F);rw[j]at u;refine⟨⟨⟨rfl,c.1,c.2,aH ga j,u,λp O=>O,U _ (bq (Nat.succ_le_succ Y) (by decide)), .refl _⟩⟩,?_⟩;refine Wd.all λv=>?_;rintro d ts m l2 W z ⟨o,A,B,a,C,f,J,K⟩;have o:v=w:=o;have a:l2=(fR (w.st.getD (n-1).toNat []) true (0,0)).1:=a;subst o;refine⟨λ_ p O=>?_,λ_=>E⟩;obtain⟨M,h8,h9,r⟩:=HV (i:=3) A B a C f J K O;exact⟨⟨by rw[a];exact oR t,M⟩,λb s=>⟨λN=>G true ((r b s).1 N),λ_=>⟨⟨rfl,A,B,a,C,h8,(r b s).2.1,(r b s).2.2⟩,h9⟩⟩⟩)
def Ql:bw:=(19,[xP])::Qk
theorem H8:KK Ql:=⟨aQ.add H6.1 (by kernel_rfl) (bo (H7)),bg.add H6.2 (bo (λ_=>aM λ_=>hX _ _ _))⟩
abbrev U7(v:Bool×TA Unit):cw zI.out:=⟨0,v⟩
theorem U8:bS Tryz.prog 19 zI:=kC H8 a4m (∀(a:Int),WA λi j k e l m n o p q r s t u v w y a0 a1 a2 a3 a4 a5 a6 f a7 d a8 a9 b0 b1 b2 c b3=>let z9:= !decide (1<=a/\a<=nI c);let x:=gD c (a-1) [];let A:=(i,j,k,e,l,m,n,o,p,q,r,s,t,u,v,w,y,a0,a1,a2,a3,a4,a5,a6,f,a7,d,a8,a9,b0,b1,b2,c,b3,());let z6:=U7 (false,A);∀Q,bd zI (a,A) Q->True/\Br false (Q z6) (True/\Br z9 (Q z6) (eC d/\ac (a-1)/\iN (a-1) c/\x.length<=1099511627776/\bQ x 0/\∀b,let z8:=cK x b.2.1 true b.2.2==0;b=eL x true (0,0)->bQ x b.2.1/\Br z8 (Is (BJ (a,A) (0,i,j,k,e,l,m,n,o,p,q,r,s,t,u,v,w,y,a0,a1,a2,a3,a4,a5,a6,f,a7,d,a8,a9,b0,b1,b2,c,b3,e,(dC d).1,(dC d).2,b.1,()))/\∀(g:Int),WA λB C D E F G H J K L M N O P R S U W X Y d4 d5 d6 d7 d8 d9 e0 e1 e2 e3 e4 e5 e6 e7=>let z5:=(B.getD 4 (ak 2 [])).getD 0 [];let z3:=(B,C,D,E,F,G,H,J,K,L,M,N,O,P,R,S,U,W,X,Y,d4,d5,d6,d7,d8,d9,e0,e1,e2,e3,e4,e5,e6,e7,());∀(e9:Int)(f0:List Tm)(e8:KV)(h:Et),BJ (a,A) (g,B,C,D,E,F,G,H,J,K,L,M,N,O,P,R,S,U,W,X,Y,d4,d5,d6,d7,d8,d9,e0,e1,e2,e3,e4,e5,e6,e7,e9,f0,e8,h,())->Bd (g<5) ((aB z5/\gg h/\ah (fq h)<=100000000/\(∀(b:BL),b∈h.2.2.2.2.2.1->aB b)/\aB h.2.2.2.2.1/\bO 2 f0)/\∀b,b=lM h g z5 f0 e8->Br (b.1.2==0) (Q ⟨0,true,z3⟩) (ac (g+1)/\Is (BJ (a,A) (g+1,B,C,D,E,F,G,H,J,K,L,M,N,O,P,R,S,U,W,X,Y,d4,d5,d6,d7,d8,d9,e0,e1,e2,e3,e4,e5,e6,e7,e9,b.2.1,b.2.2,h,())/\lN (5-(g+1)) (5-g)))) (Q ⟨0,false,z3⟩)) (ac (a-1)/\iN (a-1) c/\x.length<=1099511627776/\bQ x 0/\∀b,let z7:= !cK x b.2.1 true b.2.2==0;b=fR x true (0,0)->bQ x b.2.1/\Br z7 (Q z6) (Is (vK (a,A) (i,j,k,e,l,m,n,o,p,q,r,s,t,u,v,w,y,a0,a1,a2,a3,a4,a5,a6,f,a7,d,a8,a9,b0,b1,b2,c,b3,e,(dC d).1,(dC d).2,b.1,f,none,()))/\WA λg B C D E F G H J K L M N O P R S U W X Y d4 d5 d6 d7 d8 d9 e0 e1 e2 e3 e4 e5 e6=>let z4:=(g,B,C,D,E,F,G,H,J,K,L,M,N,O,P,R,S,U,W,X,Y,d4,d5,d6,d7,d8,d9,e0,e1,e2,e3,e4,e5,e6,());∀(e7:Int)(e9:List Tm)(f0:KV)(e8:Lt)(h:KM)(z:Option (Int×BL)),vK (a,A) (g,B,C,D,E,F,G,H,J,K,L,M,N,O,P,R,S,U,W,X,Y,d4,d5,d6,d7,d8,d9,e0,e1,e2,e3,e4,e5,e6,e7,e9,f0,e8,h,z,())->Br (!h.isEmpty) (∀(b:(Int×BL)×KM),h.Perm (b.1::b.2)->(hC e8/\bO 1 e9)/\∀f1,f1=mW b.1.2 e8 e9 f0->Br (f1.1.2==0) (Q ⟨0,true,z4⟩) (Is (vK (a,A) (g,B,C,D,E,F,G,H,J,K,L,M,N,O,P,R,S,U,W,X,Y,d4,d5,d6,d7,d8,d9,e0,e1,e2,e3,e4,e5,e6,e7,f1.2.1,f1.2.2,e8,b.2,some b.1,())/\b.2.length<h.length))) (Q ⟨0,false,z4⟩)))))) (by
 conv=>zeta
 unfold Bd Br WA gD iN lN nI bd;intro n;refine Wd.all λw=>?_;rintro Q ⟨⟨⟨X,D⟩,Y⟩,P⟩;have D:cR w (X+10):=D;have G:∀y,gM w 4 n y->Q ⟨0,(y,bZ w)⟩:=λy h=>P y h;have E:Q ⟨0,(false,bZ w)⟩:=G false (λh=>by cases h);clear P;refine⟨trivial,λc=>(by cases c),λ_=>⟨trivial,λ_=>E,λc=>?_⟩⟩;have c:1<=n/\n<=(w.st.length:Int):=by simpa using c
 obtain⟨g1,F,R,S,t,U⟩:=HT D c;refine⟨g1,F,R,S,t,λe H=>⟨by rw[H];exact(vm t).1,λg=>?_,λg=>⟨F,R,S,t,λl j=>⟨by rw[j];exact(Dt t).1,λ_=>E,λF=>?_⟩⟩⟩⟩
 ·have u:=aZ g;rw[H]at u;have x:=fy ((vm t).2 u).2;refine⟨⟨⟨rfl,c.1,c.2,aH ga H,u,0,rfl,aq _,U 12 (by decide), .refl _⟩⟩,?_⟩;intro k;refine Wd.all λv=>?_;rintro d ts m e2 ⟨o,A,B,a,C,q,f,a0,J,K⟩;have o:v=w:=o;have a:e2=(eL (w.st.getD (n-1).toNat []) true (0,0)).1:=a;subst o;rw[<-a]at x;refine⟨λL=>?_,λ_=>E⟩;have L:=ag L;obtain⟨ha,M,r⟩:=HU D (i:=4) A B x a C f L J K;exact⟨⟨ha,x.1,x.2.2.1,x.2.2.2.2.2.1,x.2.2.2.2.2.2,M⟩,λb s=>⟨λN=>G true ((r b s).1 N),λ_=>⟨by have f:k=(q:Int):=f;unfold ac;omega,⟨⟨rfl,A,B,a,C,q+1,by have f:k=(q:Int):=f;rw[f];rfl,by have f:k=(q:Int):=f;omega,(r b s).2.1,(r b s).2.2⟩,by omega⟩⟩⟩⟩
 ·have u:cK (w.st.getD (n-1).toNat []) l.2.1 true l.2.2=0:=aC.1 (jV F);rw[j]at u;refine⟨⟨⟨rfl,c.1,c.2,aH ga j,u,λp O=>O,U _ (bq (Nat.succ_le_succ Y) (by decide)), .refl _⟩⟩,?_⟩;refine Wd.all λv=>?_;rintro d ts m l2 W z ⟨o,A,B,a,C,f,J,K⟩;have o:v=w:=o;have a:l2=(fR (w.st.getD (n-1).toNat []) true (0,0)).1:=a;subst o;refine⟨λ_ p O=>?_,λ_=>E⟩;obtain⟨M,h8,h9,r⟩:=HV (i:=4) A B a C f J K O;exact⟨⟨by rw[a];exact oR t,M⟩,λb s=>⟨λN=>G true ((r b s).1 N),λ_=>⟨⟨rfl,A,B,a,C,h8,(r b s).2.1,(r b s).2.2⟩,h9⟩⟩⟩)
def Qm:bw:=(19,[zI,xM,xN,xO,xP])::Ql
theorem H9:KK Qm:=⟨aQ.add H8.1 (by kernel_rfl) (fQ (U8) (fQ (H1) (fQ (H3) (fQ (H5) (bo (H7)))))),bg.add H8.2 (fQ (λ_=>aM λ_=>hX _ _ _) (fQ (λ_=>aM λ_=>hX _ _ _) (fQ (λ_=>aM λ_=>hX _ _ _) (fQ (λ_=>aM λ_=>hX _ _ _) (bo (λ_=>aM λ_=>hX _ _ _))))))⟩
theorem nbq{a b:BL}(h:(!(a==b))=true):a≠b:=by simpa using h
theorem a5b{a b:BL}(h:(!(a==b))=false):a=b:=by simpa using h
structure Tr0(w:Wd)(md:List Md)(ms:List (List Int))(k:Nat):Prop where
 au:Au w md
 ok:cR w (9998-210*k)
 st:w.st.length<=k+1
 ms:ms=w.lg.2.1.map λe=>e.2.2.1.map (·.1)
theorem xQ{w:Wd}{es:List Et}{e:Et}(h:w.lg.2.1=es++[e]):w.ids=e.2.2.1.map (·.1):=by
 unfold Wd.ids cS;rw[h,aa,bh,af (by omega)];rw[show((((es.length+1:Nat):Int))-1).toNat=es.length by omega,aw,aU (aD _)];simp
theorem a5c{w:Wd}{s:jx}{y:t8}(h:lx w s y)(a:s.1=7):y.1.2.1=0:=by
 unfold lx at h;rw[af (λq=>absurd a (UL q).2),af (vF a (by decide)),am a]at h;split at h
 ·rw[h];rfl
 ·obtain⟨z,_,rfl⟩:=h;rfl
theorem a4n{n:Int}(_:1<=n/\n<=31/\n % 2=1){y:(Int×Int)×Wd}(b:Au y.2 [(0,true,())])(c:cR y.2 9998)(h:y.2.st.length=1)(f:y.2.lg.2.1.length=1):Tr0 y.2 [(0,true,())] [y.2.ids] 0:=by
 refine⟨b,c,by omega,?_⟩;obtain⟨e,a⟩:=List.length_eq_one_iff.1 f;rw[xQ (es:=[]) a,a];rfl
theorem Lv{w:Wd}{md:List Md}{ms:List (List Int)}{k:Nat}(T:Tr0 w md ms k)(h:k<40){s:jx}{y:t8}(b:lx w s y):Tr0 y.2 (rS md s y) (UW ms s y) (k+1):=by
 obtain⟨A,O,S,M⟩:=T;have c:cR w ((9998-210*(k+1))+5*w.st.length+3):=O.mono (by omega);have D:=UN A c b;have W:=rU c (iC A) (by omega) b;refine⟨D.au,W.1,by omega,?_⟩;unfold UW;split
 ·rename_i g;rw[D.lg0 (λq=>q.1 g)];exact M
 ·rename_i g;split
  ·rename_i a;obtain⟨e,f⟩:=D.lg1 g a;rw[xQ f,f,dn,M];rfl
  ·rename_i a;rw[D.lg0 (λq=>a q.2)];exact M
def gdA(w:Wd)(md:List Md)(ms:List (List Int))(b:BL)(a:Nw)(r:Nat):Prop:=
 w.st.getD r []=b/\0<=(md.getD r (0,false,())).1/\
 if a.1=1 then(md.getD r (0,false,())).2.1=true/\(md.getD r (0,false,())).1=0/\xK b=a.2.2.1
 else(iD b).2=true/\(iD b).1.2.1=a.2.1/\(iD b).1.2.2.1=a.2.2.1/\(iD b).1.2.2.2.1=a.2.2.2.1/\(iD b).1.1=a.1/\(md.getD r (0,false,())).1=(iD b).1.2.1/\jf ms (iD b).1.2.2.1 (iD b).1.2.1=true/\((md.getD r (0,false,())).2.1=true\/(decide (0<=(iD b).1.2.1)&&decide ((iD b).1.2.1<5)&&w.go.getD (iD b).1.2.1.toNat false)=true)
theorem Ia{e:Et}(h:ig e=true):xK (fL e)=e.1:=by
 obtain⟨a,b,c⟩:=Ba h;unfold xK;rw[b];dsimp only;rw[c,af (λq=>q rfl)]
theorem Ib{l:Lt}(h:jR l=true):iD (gh l)=(l,true):=by
 obtain⟨a,b,c⟩:=A9 h;unfold iD;rw[b];dsimp only;rw[c];rfl
theorem Lw{es:List Et}{n id:Int}(h:(gk (cS es n) id).2=true):jf (es.map λe=>e.2.2.1.map (·.1)) n id=true:=by
 obtain⟨a,c⟩:=vx h;generalize(gk (cS es n) id).1=x at*;unfold cS at a;split at a
 ·exact by cases a
 rename_i g;unfold jf;rw[bT,decide_eq_true (by omega),fp,List.contains_iff_mem];have b:(n-1).toNat<es.length:=by omega
 rw[aw,ap b]at a;rw[aw,List.getElem?_map,ap b];exact dM.2 ⟨_,a,c⟩
theorem a0n{w:Wd}{md:List Md}{ms:List (List Int)}{k:Nat}(T:Tr0 w md ms k){b:BL}{v:Nw}(F:Lf w md b v):∃r,r<md.length/\gdA w md ms b v r:=by
 have x:∀{n:Nat}{a:Md},md[n]?=some a->n<md.length/\md.getD n (0,false,())=a:=λh=>⟨(cy.1 h).1,by rw[aw,h];rfl⟩;have y:∀{n:Nat}{a:BL},w.st[n]?=some a->w.st.getD n []=a:=λh=>by rw[aw,h];rfl
 rcases F with⟨g,n,e,i,j,m,f,o⟩|⟨g,n,l,z,i,j,m,f,o,A,B,C,p,s⟩
 ·obtain⟨t,c⟩:=x j;refine⟨n,t,y i,by rw[c];exact bY _,?_⟩;rw[am g,c,m,Ia f];exact⟨rfl,rfl,o⟩
 ·obtain⟨t,c⟩:=x j;have u:=(ez f).1;refine⟨n,t,y i,by rw[c];exact u.2.2.1,?_⟩;rw[af g,c,m,Ib f,T.ms];refine⟨rfl,A.symm,B.symm,C.symm,o.symm,rfl,Lw p,s.imp id λq=>?_⟩;dsimp only;rw[decide_eq_true u.2.2.1,decide_eq_true u.2.2.2.1,q];rfl
def xR(w:Wd)(n:Nat):Prop:=∀i:Nat,i<5->(w.ky i).length+5*n<=50000
theorem xR.mono{w:Wd}{n k:Nat}(h:xR w n)(b:k<=n):xR w k:=λi a=>by have:=h i a;omega
theorem xS(N:Int)(v:BL):∀l:KM,(cD (kt:= .i64) N v l).length<=l.length+1
 |[]=>by simp[cD]
 |p::r=>by
  have:=xS N v r;simp only[cD];split<;>simp only[ba]<;>omega
theorem BK(x:Et)(i:Int)(sec:BL)(ts:List Tm):∀(l:List Mb)(km:KM),(GP x i sec ts l km).length<=km.length+l.length
 |[],_=>aD _
 |p::r,km=>by
  simp only[GP];refine bq (BK x i sec ts r _) ?_;rw[ba];split
  ·have:=xS x.1 (lM x i sec (dC ts).1 (dC ts).2).1.1 km;omega
  ·omega
theorem zJ{w:Wd}{n:Nat}(h:xR w (n+1)){i:Int}(hi:0<=i/\i<5){b:BL}{y:(Int×Nw)×Wd}(r:jw w i b y):xR y.2 n:=by
 obtain⟨z,c,rfl⟩:=r;obtain⟨j,rfl⟩:=bR hi.1;have l:j<5:=by omega
 rw[aF]at c;intro x a;have m:=h x a;show((fj b (j:Int) z.1 (w.aft (j:Int).toNat z.2)).ky x).length+5*n<=50000;rw[aF];unfold fj;split
 ·rename_i g;obtain⟨f,o⟩:=xA c g.1 g.2
  have p:(eL b true (0,0)).1.2.2.1.length<=5:=by
   unfold ig at f;exact(fX (ag f).2.2.2.1).2.1
  rw[aF,GQ _ _ l a];split
  ·rename_i e;subst e;have:=BK (eL b true (0,0)).1 (x:Int) ((w.aft x z.2).se x 0) (w.aft x z.2).ts (eL b true (0,0)).1.2.2.1 ((w.aft x z.2).ky x);rw[jX w x z.2 a]at this⊢;omega
  ·rw[jX w j z.2 a];omega
 ·rw[jX w j z.2 a];omega
theorem Qn:∀{a:List (Int×BL)}{w w':Wd}{n:Nat},xR w (n+a.length)->(∀p∈a,0<=p.1/\p.1<5)->xG a w w'->xR w' n
 |[],_,_,_,h,_,e=>by
  have e:_=_:=e;subst e;exact h
 |p::a,w,w',n,h,b,⟨y,c,f⟩=>Qn (zJ (n:=n+a.length) (h.mono (by simp;omega)) (b p (aG ..)) c) (λq g=>b q (aA _ g)) f
theorem BM{w:Wd}{n:Nat}(h:xR w (n+1)){m:Int}{y:(Int×Int)×Wd}(r:eN w m y):xR y.2 n:=by
 have S:∀(f:Wd),(∀x,x<5->f.ky x=w.ky x)->xR f n:=λf e x b=>by rw[e x b];have:=h x b;omega
 obtain⟨i,_,c⟩:=r;have o:∀(d:Int)(y:List Tm×KV)(x:Nat),x<5->(w.su d y).ky x=w.ky x:=λd y x b=>by rcases fo b with rfl|rfl|rfl|rfl|rfl<;>rfl
 have j:∀(g:List Bool)(x:Nat),x<5->(w.mb m i g).ky x=w.ky x:=λg x b=>by rcases fo b with rfl|rfl|rfl|rfl|rfl<;>rfl
 split at c
 ·rw[c];exact S _ (o _ _)
 split at c
 ·rw[c];exact S _ (j _)
 obtain⟨q,s,rfl⟩:=c;have t:xR (w.mb m i (sW w.go i)) (n+1):=λx b=>by rw[j _ x b];have:=h x b;omega
 have:=zJ t (by omega) s;intro x b;have e:∀(a:Wd)(p:List BL)(l:List Int),({a with st:=p,ln:=l}:Wd).ky x=a.ky x:=λa p l=>by rcases fo b with rfl|rfl|rfl|rfl|rfl<;>rfl
 show(({q.2 with st:=_,ln:=_}:Wd).ky x).length+_<=_;rw[e];exact this x b
theorem a0a{w:Wd}{n:Nat}(h:xR w (n+5*w.st.length+3))(j:kh w)(m:w.ids.length<=5){s:jx}{y:t8}(r:lx w s y):xR y.2 n:=by
 have b:xR w n:=h.mono (by omega);have S:∀(i:Wd),(∀x,x<5->i.ky x=w.ky x)->xR i n:=λi e x a=>by rw[e x a];exact b x a
 unfold lx at r;split at r
 ·obtain⟨z,c,rfl⟩:=r;unfold kv at c;split at c
  ·rw[c];exact b
  split at c
  ·rw[c];exact b
  obtain⟨q,f,rfl⟩:=c
  have eq:∀x,x<5->q.2.ky x=w.ky x:=λx a=>by
   unfold vQ at f;split at f
   ·obtain⟨_,z,_,rfl⟩:=f;exact jX w _ _ a
   split at f
   ·obtain⟨_,z,_,rfl⟩:=f;exact jX w _ _ a
   ·obtain⟨p,l,e,_,_,⟨_,rfl⟩|⟨_,_,z,_,_,rfl⟩⟩:=f
    ·rfl
    ·exact jX w _ _ a
  unfold ku;split
  ·exact S q.2 eq
  ·exact S (q.2.keep _ _) λx a=>by rw[jY _ _ _ a];exact eq x a
 split at r
 ·split at r
  ·rw[r];exact b
  obtain⟨z,c,rfl⟩:=r;exact BM (h.mono (by omega)) c
 split at r
 ·split at r
  ·rw[r];exact b
  rename_i g;rw[not_or]at g;obtain⟨z,c,rfl⟩:=r;exact zJ (h.mono (by omega)) (aC.1 g.1) c
 split at r
 ·rw[r];unfold sY;split
  ·exact b
  split
  ·exact S (w.keep _ _) λx a=>jY _ _ _ a
  ·exact S (w.keep _ _) λx a=>jY _ _ _ a
 split at r
 ·split at r
  ·rw[r];exact b
  ·rw[r];exact S (w.keep _ _) λx a=>jY _ _ _ a
 split at r
 ·rw[r];unfold hV;split
  ·exact b
  split
  ·exact b
  dsimp only;split
  ·exact S (w.su _ _) λx a=>by rcases fo a with rfl|rfl|rfl|rfl|rfl<;>rfl
  ·exact S ((w.su _ _).keep _ _) λx a=>by rw[jY _ _ _ a];rcases fo a with rfl|rfl|rfl|rfl|rfl<;>rfl
 split at r
 ·obtain⟨i,o,rfl⟩:=r;exact Qn (n:=n) (h.mono (by rw[lT];have:=Nat.mul_le_mul_left w.st.length m;omega)) (oT j) o
 ·rw[r];exact b
theorem a0b:xR ng 10000:=λi a=>by rcases fo a with rfl|rfl|rfl|rfl|rfl<;>decide
def zK:Ct:=⟨2,⟨[sI 0,(1,false,[.d (.sl Iu)])],[]⟩,[⟨[sL 0],[]⟩],λ_=>one True (true,())⟩
def Ix(w:Wd)(md:List Md)(ms:List (List Int))(k:Nat):Prop:=Tr0 w md ms k/\xR w (9998-210*k)/\∃a,Ke w md a
theorem a0c{n:Int}(a:1<=n/\n<=31/\n % 2=1){y:(Int×Int)×Wd}(h0:eN ng n y):Ix y.2 [(0,true,())] [y.2.ids] 0:=by
 obtain⟨b,c,e,f⟩:=Qa a h0;refine⟨a4n a b c e f,(BM (n:=9999) a0b h0).mono (by omega),?_⟩;rcases BA R' a4a (k:=9998) lA (by decide) h0 with⟨g,_⟩|⟨_,_,key,K⟩
 ·exact absurd (xL a h0) g
 ·exact⟨_,K⟩
theorem Ic{w:Wd}{md:List Md}{ms:List (List Int)}{k:Nat}(T:Ix w md ms k)(e:k<40){s:jx}{y:t8}(b:lx w s y):Ix y.2 (rS md s y) (UW ms s y) (k+1):=by
 obtain⟨a,L,g,K⟩:=T;have f:=a.st;have c:cR w ((9998-210*(k+1))+5*w.st.length+3):=a.ok.mono (by omega);exact⟨Lv a e b,a0a (L.mono (by omega)) (iC a.au) (lS c) b,V_ a.au K c b⟩
theorem BN{w:Wd}{N:Int}{i:Nat}(f:1<=N)(h:P0 w N i):jf (w.lg.2.1.map λe=>e.2.2.1.map (·.1)) N (i:Int)=true:=by
 obtain⟨e,a,p,b,c⟩:=h;have g:(N-1).toNat<w.lg.2.1.length:=(cy.1 a).1;unfold jf;rw[bT,decide_eq_true (by omega),fp,List.contains_iff_mem,aw,List.getElem?_map,a];exact dM.2 ⟨p,b,c⟩
def Dx(b:BL):Int:=if(iD b).2=true then(iD b).1.2.2.1 else xK b
theorem Lx{w:Wd}{md:List Md}{ms:List (List Int)}{k:Nat}(T:Ix w md ms k){r id:Nat}(f:id<5)(u:r<md.length)(hh:(md.getD r (0,false,())).2.1=true):
 1<=Dx (w.st.getD r [])/\(jf ms (Dx (w.st.getD r [])) (id:Int)=false->∀y,gM w id ((r:Int)+1) y->y=false):=by
 obtain⟨a,L,F,K⟩:=T;have v:md[r]?=some (md.getD r (0,false,())):=by rw[aw,ap u];rfl
 have x:md[r]?=some ((md.getD r (0,false,())).1,true,()):=by rw[v,<-hh]
 have z:(((r:Int)+1-1).toNat)=r:=by omega
 have s:∀{b:BL},w.st[r]?=some b->(∀(_:Lp w id b),False)->∀y,gM w id ((r:Int)+1) y->y=false:=λg A y B=>by
  cases y with
  |false=>rfl
  |true=>
   have:=(B rfl).2.2;rw[z,aw,g]at this;exact(A this).elim
 rcases K.hon r _ x with⟨E,e,c,_,j⟩|⟨l,e,c,_,j⟩
 ·have g:w.st.getD r []=fL E:=by rw[aw,e];rfl
  have h:1<=E.1:=by have q:=c;unfold ig at q;exact(ag q).1
  have m:(iD (fL E)).2=false:=by
   cases t:(iD (fL E)).2 with
   |false=>rfl
   |true=>
    exfalso
    have G:(fL E).length<=1000000000:=by
     have:=a.ok.st.2.2 _ (gN e);omega
    unfold iD at t;obtain⟨C,D⟩:=A8 (b:=fL E) ⟨by omega,by omega,by omega⟩ (aZ t);exact Bz D C.symm
  have n:Dx (w.st.getD r [])=E.1:=by
   unfold Dx;rw[g,m,af (by decide),Ia c]
  rw[n];refine⟨h,λo=>s e λp=>?_⟩;have:=BN h (V' a.au a.ok c j f p);rw[<-a.ms,o]at this;cases this
 ·have g:w.st.getD r []=gh l:=by rw[aw,e];rfl
  have n:Dx (w.st.getD r [])=l.2.2.1:=by
   unfold Dx;rw[g,Ib c];rfl
  have i:=(ez c).1.2.2.2.2.1;rw[n];refine⟨i,λo=>s e λp=>?_⟩;have:=BN i (W_ a.au K a.ok c j f p);rw[<-a.ms,o]at this;cases this
def cTs(j:Nat):Option CP:=some (.cells [.ptr j 0, .d (.sl tMd), .d tMs])
def a0d:cg:=⟨[(5,false,[.ptr 0 0]),(29,false,[.d (.sl Iu)]),sI 30,sI 31],[cTs 1]++zp 1 21++pN 21⟩
def Ly(x:zK.inp.den)(y:a0d.den):Prop:=match x,y with
 |(_,a,_),(l,b,i,c,e,f)=>l=a/\b=a.length/\a.length<=40/\(∀s∈a,Vt s)/\∃k:Nat,i=k/\k<=a.length/\Ix (bV f) c e k
def a0e:cg:=⟨[(5,false,[.ptr 0 0]),(9,false,[.d (.sl tB)]),sI 45],[cTs 1]++zp 1 21++pN 21⟩
def Ie(x:zK.inp.den)(y:a0e.den):Prop:=match x,y with
 |_,(st,i,F,G,H,J,K,L,M,N,O,P,Q,b,c,e,f,g,h,j,l,m,n,o,p,r,s,t,u,v,w,z,A,B,C,D,a,E,_)=>st=a/\(∃k:Nat,k<=40/\Ix (bV (H,J,K,L,M,N,O,P,Q,b,c,e,f,g,h,j,l,m,n,o,p,r,s,t,u,v,w,z,A,B,C,D,a,E,())) F G k)/\∃q:Nat,i=q/\q<=5
def a0f:cg:=⟨[(5,false,[.ptr 0 0]),(9,false,[.d (.sl tB)]),sI 10,sI 45,(54,false,[.d (.sl tMd)]),sI 55,sI 56],[cTs 1]++zp 1 21++pN 21⟩
def pQ(x:zK.inp.den)(c:Int)(y:a0f.den):Prop:=match x,y with
 |_,(st,id,i,e,L,j,b,M,N,O,P,Q,R,S,U,W,X,f,g,h,l,m,n,o,p,s,t,u,v,w,z,A,B,C,D,E,F,G,H,J,a,K,_)=>st=a/\(∃k:Nat,k<=40/\Ix (bV (N,O,P,Q,R,S,U,W,X,f,g,h,l,m,n,o,p,s,t,u,v,w,z,A,B,C,D,E,F,G,H,J,a,K,())) b M k)/\id=c/\i=c/\(∃q:Nat,c=q/\q<5)/\e=b/\L=b.length/\∃r:Nat,j=r/\r<=b.length
def a4o(x:zK.inp.den):dB:=⟨[(5,bK a0d (Ly x) λ(_,a,i,_)=>(@bv Int Int Int _ a i).toNat),(11,oG a0e (Ie x) (λ(_,i,_)=>(@bv Int Int Int _ 5 i).toNat) λ(_,b,_)=>[(15,bK a0f (pQ x b) λ(_,_,_,_,a,j,_)=>(@bv Int Int Int _ a j).toNat)])],[],[],[(22,10,5)],0⟩
theorem If:bS Tryz.prog 5 zK:=kC H9 a4o (∀(d:Int)(B:List (Int×Int×Int×Int×Int×Int×BL×Lt))Q,let k7:=1<=d/\d<=31/\d % (2:Int)=1;let R:=True/\Q ⟨0,true,()⟩;bd zK (d,B,()) Q->Br (decide k7) (∀(b:(Int×Int)×Wd),eN ng d b->True/\∀(g6:Bool),(g6=true->B.length<=40/\∀(s:Int×Int×Int×Int×Int×Int×BL×Lt),s∈B->Vt s)->Br (!g6) R (Is (Ly (d,B,()) (B,nI B,0,[(0,true,())],[b.2.ids],bZ b.2))/\∀(S:List (Int×Int×Int×Int×Int×Int×BL×Lt))(Y H:Int)(g4:List (Int×Bool×Unit))(g5:La),WA λd0 d1 d2 d3 d4 d5 d6 d7 d8 d9 e0 e1 e2 e3 e4 e5 e6 e7 e8 e9 f0 f1 f2 f3 f4 f5 f6 f7 f8 f9 g0 g1 X g2=>let z2:=(d1,d2,d3,d4,d5,d6,d7,d8,d9,e0,e1,e2,e3,e4,e5,e6,e7,e8,e9,f0,f1,f2,f3,f4,f5,f6,f7,f8,f9,g0,g1,X,g2,());let U:=bV (d0,z2);Ly (d,B,()) (S,Y,H,g4,g5,d0,z2)->Bd (H<Y) (iN H S/\(g4.length<=1000/\g5.length<=1000/\ah (gD S H zS).2.2.2.2.2.2.1<=1000000/\kh U/\X.length<900/\∃d,cR U (d+5*X.length+3))/\∀(b:(Int×Int×Nw)×Wd),lx U (gD S H zS) b->ac (H+1)/\Is (Ly (d,B,()) (S,Y,H+1,rS g4 (gD S H zS) b,UW g5 (gD S H zS) b,bZ b.2)/\lN (Y-(H+1)) (Y-H))) ((X.length<=1000000/\∀(b:BL),b∈X->b.length<=10000000)/\Is (Ie (d,B,()) (X,0,g4,g5,d0,z2))/\∀(g7:List BL)(C:Int)(g3:List (Int×Bool×Unit))(g8:La),WA λg9 h0 c9 h1 h2 h3 h4 h5 h6 h7 h8 h9 i0 i1 i2 i3 i4 i5 i6 i7 i8 i9 j0 j1 j2 j3 j4 j5 j6 j7 j8 j9 k0 k1=>let k8:= !(decide (0<=C)&&decide (C<5)&&gD c9 C false);let z9:=(g3,g8,g9,h0,c9,h1,h2,h3,h4,h5,h6,h7,h8,h9,i0,i1,i2,i3,i4,i5,i6,i7,i8,i9,j0,j1,j2,j3,j4,j5,j6,j7,j8,j9,k0,k1,());Ie (d,B,()) (g7,C,z9)->Bd (C<5) (c9.length=5/\Br k8 (ac (C+1)/\Is (Ie (d,B,()) (g7,C+1,z9)/\lN (5-(C+1)) (5-C))) (Is (pQ (d,B,()) C (g7,C,C,g3,nI g3,0,z9))/\∀(E:List BL)(D M:Int)(N:List (Int×Bool×Unit))(c a:Int)(O:List (Int×Bool×Unit))(e:La),let k9:= !(gD N a (0,false,())).2.1;let W:=fR (gD E a []) true (0,0);let z3:=∀(l:List Int),l∈e->l.length<=1000;let A:=e.length<=1000/\z3;WA λf g h i j k m n o p q r t u v w y z a0 a1 a2 a3 a4 a5 a6 a7 a8 a9 b0 b1 b2 b3 b4 b5=>let x:=(g,h,i,j,k,m,n,o,p,q,r,t,u,v,w,y,z,a0,a1,a2,a3,a4,a5,a6,a7,a8,a9,b0,b1,b2,b3,b4,b5,());let J:=(∃d,cR (bV (f,x)) (d+10));let k2:=J/\ah ((bV (f,x)).ky 4)<=50000;let k3:=J/\ah ((bV (f,x)).ky 3)<=50000;let k4:=J/\ah ((bV (f,x)).ky 2)<=50000;let k5:=J/\ah ((bV (f,x)).ky 1)<=50000;let k6:=J/\ah ((bV (f,x)).ky 0)<=50000;let z8:=ac (a+1)/\Is (pQ (d,B,()) C (E,4,M,N,c,a+1,O,e,f,x)/\lN (c-(a+1)) (c-a));let z7:=ac (a+1)/\Is (pQ (d,B,()) C (E,3,M,N,c,a+1,O,e,f,x)/\lN (c-(a+1)) (c-a));let z6:=ac (a+1)/\Is (pQ (d,B,()) C (E,2,M,N,c,a+1,O,e,f,x)/\lN (c-(a+1)) (c-a));let z5:=ac (a+1)/\Is (pQ (d,B,()) C (E,1,M,N,c,a+1,O,e,f,x)/\lN (c-(a+1)) (c-a));let z4:=ac (a+1)/\Is (pQ (d,B,()) C (E,0,M,N,c,a+1,O,e,f,x)/\lN (c-(a+1)) (c-a));pQ (d,B,()) C (E,D,M,N,c,a,O,e,f,x)->Bd (a<c) (iN a N/\Br k9 (ac (a+1)/\Is (pQ (d,B,()) C (E,D,M,N,c,a+1,O,e,f,x)/\lN (c-(a+1)) (c-a))) (iN a E/\(gD E a []).length<=10000000/\∀(b:Int),let K:=decide (b<1)=true->Q ⟨0,false,()⟩;b=xK (gD E a [])->iN a E/\(gD E a []).length<=10000000/\∀(P:Lt×Bool),let G:=P.1.2.2.1<1;let L:=decide G=true->Q ⟨0,false,()⟩;P=(W.1,cK (gD E a []) W.2.1 true W.2.2==0)->Br (P.2) ((0<=D/\D<5)/\((((True/\(D=0->L/\(decide G=false->A/\∀b,b=jf e P.1.2.2.1 0->Br (!b) (ac (a+1)/\k6/\∀(b:Bool),gM (bV (f,x)) 0 (a+1) b->Br b (Q ⟨0,false,()⟩) z4) z4)))/\(D=1->L/\(decide G=false->A/\∀b,b=jf e P.1.2.2.1 1->Br (!b) (ac (a+1)/\k5/\∀(b:Bool),gM (bV (f,x)) 1 (a+1) b->Br b (Q ⟨0,false,()⟩) z5) z5)))/\(D=2->L/\(decide G=false->A/\∀b,b=jf e P.1.2.2.1 2->Br (!b) (ac (a+1)/\k4/\∀(b:Bool),gM (bV (f,x)) 2 (a+1) b->Br b (Q ⟨0,false,()⟩) z6) z6)))/\(D=3->L/\(decide G=false->A/\∀b,b=jf e P.1.2.2.1 3->Br (!b) (ac (a+1)/\k3/\∀(b:Bool),gM (bV (f,x)) 3 (a+1) b->Br b (Q ⟨0,false,()⟩) z7) z7)))/\(D=4->L/\(decide G=false->A/\∀b,b=jf e P.1.2.2.1 4->Br (!b) (ac (a+1)/\k2/\∀(b:Bool),gM (bV (f,x)) 4 (a+1) b->Br b (Q ⟨0,false,()⟩) z8) z8))) ((0<=D/\D<5)/\((((True/\(D=0->K/\(decide (b<1)=false->A/\∀F,F=jf e b 0->Br (!F) (ac (a+1)/\k6/\∀(b:Bool),gM (bV (f,x)) 0 (a+1) b->Br b (Q ⟨0,false,()⟩) z4) z4)))/\(D=1->K/\(decide (b<1)=false->A/\∀F,F=jf e b 1->Br (!F) (ac (a+1)/\k5/\∀(b:Bool),gM (bV (f,x)) 1 (a+1) b->Br b (Q ⟨0,false,()⟩) z5) z5)))/\(D=2->K/\(decide (b<1)=false->A/\∀F,F=jf e b 2->Br (!F) (ac (a+1)/\k4/\∀(b:Bool),gM (bV (f,x)) 2 (a+1) b->Br b (Q ⟨0,false,()⟩) z6) z6)))/\(D=3->K/\(decide (b<1)=false->A/\∀F,F=jf e b 3->Br (!F) (ac (a+1)/\k3/\∀(b:Bool),gM (bV (f,x)) 3 (a+1) b->Br b (Q ⟨0,false,()⟩) z7) z7)))/\(D=4->K/\(decide (b<1)=false->A/\∀F,F=jf e b 4->Br (!F) (ac (a+1)/\k2/\∀(b:Bool),gM (bV (f,x)) 4 (a+1) b->Br b (Q ⟨0,false,()⟩) z8) z8))))) (ac (M+1)/\Is (Ie (d,B,()) (E,M+1,O,e,f,x)/\lN (5-(M+1)) (5-C))))) R))) R) (by
 conv=>zeta
 unfold Bd Br WA gD iN lN nI bd bZ zS;intro n l0 Q ⟨_,hQ⟩;have hq:Q ⟨0,(true,())⟩:=hQ;clear hQ;refine⟨λc=>?_,λ_=>⟨trivial,hq⟩⟩;have c:=ag c;intro y0 h0;have h0:eN ng n y0:=h0;refine⟨trivial,λsm K=>⟨λ_=>⟨trivial,hq⟩,λd=>?_⟩⟩;have d:sm=true:=by simpa using d
 obtain⟨L,F⟩:=K d;clear K d;refine⟨⟨⟨rfl,rfl,L,F,0,rfl,aq _,a0c c h0⟩⟩,?_⟩;intro l ln i md ms;refine Wd.all λw=>?_;rintro⟨t,A,-,-,k,G,hk,T⟩;have t:l=l0:=t;have A:ln=(l0.length:Int):=A;have G:i=(k:Int):=G;have hk:k<=l0.length:=hk;have T:Ix w md ms k:=T;subst t A G;have ek:((k:Int).toNat)=k:=by omega
 rw[ek];have M:=T.1.st;have X:=T.1.ok.st.2.2;refine⟨λE=>?_,λ_=>⟨⟨by omega,λx hx=>by have:=X x hx;omega⟩,⟨⟨rfl,⟨k,by omega,T⟩,0,rfl,aq _⟩⟩,?_⟩⟩
 ·have N:k<l.length:=by have:=ag E;omega
  have hs:=F _ (aS (z:=((0,0,0,0,0,0,[],0,0,0,0,[],[],[],()):jx)) N);generalize l.getD k ((0,0,0,0,0,0,[],0,0,0,0,[],[],[],()):jx)=s at*;have a0:=T.1.au.ml;have a7:=T.1.au.le;have a8:ms.length=w.lg.2.1.length:=by rw[T.1.ms,bT]
  have w0:cR w ((9998-210*(k+1))+5*w.st.length+3):=T.1.ok.mono (by omega);refine⟨by omega,⟨by omega,by omega,by have:=hs.1;omega,iC T.1.au,by omega,_,w0⟩,λy hy=>?_⟩;have hy:lx w s y:=hy;exact⟨by unfold ac;omega,⟨⟨rfl,rfl,L,F,k+1,rfl,N,Ic T (by omega) hy⟩,by omega⟩⟩
 clear X M T ek;intro st i1 a1 a2;refine Wd.all λv=>?_;rintro⟨t,⟨k1,O,H⟩,q,A,a9⟩;have t:st=v.st:=t;have A:i1=(q:Int):=A;have H:Ix v a1 a2 k1:=H;subst t A;refine⟨λE=>⟨H.1.ok.go,λ_=>⟨by unfold ac;omega,⟨⟨rfl,⟨k1,O,H⟩,q+1,rfl,by have:=ag E;omega⟩,by have:=ag E;omega⟩⟩,λ_=>⟨⟨⟨rfl,⟨k1,O,H⟩,rfl,rfl,⟨q,rfl,by have:=ag E;omega⟩,rfl,rfl,0,rfl,aq _⟩⟩,?_⟩⟩,λ_=>⟨trivial,hq⟩⟩;clear E H;intro a3 id i2 a a4 j2 C g;refine Wd.all λu=>?_;rintro⟨t,⟨P,R,m⟩,A,G,⟨q2,e4,b0⟩,e5,e6,r,e7,hr⟩;have t:a3=u.st:=t;have A:id=(q:Int):=A;have G:i2=(q:Int):=G;have e4:(q:Int)=(q2:Int):=e4;have e5:a=C:=e5;have e6:a4=(C.length:Int):=e6;have e7:j2=(r:Int):=e7;have m:Ix u C g P:=m;have hr:r<=C.length:=hr;have D:q<5:=by omega
 subst t A G e5 e6 e7;have er:((r:Int).toNat)=r:=by omega
 rw[er];have a0:=m.1.au.ml;have M:=m.1.ok.st.1;have a6:=m.1.st;have Y:ac ((r:Int)+1):=by unfold ac;omega
 refine⟨λE=>?_,λ_=>⟨by unfold ac;omega,⟨⟨rfl,⟨P,R,m⟩,q+1,rfl,D⟩,by omega⟩⟩⟩;have S:r<a.length:=by have:=ag E;omega
 have nx:∀B:Int,B=(q:Int)->Is (pQ (n,l,()) (q:Int) (u.st,B,(q:Int),a,(a.length:Int),(r:Int)+1,a,g,bZ u)/\(@bv Int Int Int _ (a.length:Int) ((r:Int)+1)).toNat<(@bv Int Int Int _ (a.length:Int) (r:Int)).toNat):=λB hj=>⟨⟨rfl,⟨P,R,m⟩,hj,rfl,⟨q,rfl,D⟩,rfl,rfl,r+1,rfl,S⟩,by omega⟩;refine⟨by omega,λ_=>⟨Y,nx _ rfl⟩,λc2=>?_⟩;have c2:(a.getD r (0,false,())).2.1=true:=by simpa using c2
 have U:@bc Int _ 0 r/\@lB Int _ r u.st.length:=by omega
 have b1:=m.1.ok.st.2.2 _ (aS (z:=([]:BL)) (show r<u.st.length by omega));obtain⟨S1,S2⟩:=Lx m D S c2;have hL:=m.2.1 q D;have hO:=m.1.ok
 have hM:g.length<=1000/\∀l∈g,l.length<=1000:=by
  rw[m.1.ms];refine⟨by rw[bT];have:=m.1.au.le;omega,λx hx=>?_⟩;obtain⟨e,he,rfl⟩:=dM.1 hx;rw[bT];have:=hO.l5 e he;omega
 have f:∀(j:Nat)(B W:Int),B=(j:Int)->(q:Int)=B->W=Dx (u.st.getD r [])->
  (decide (W<1)=true->Q ⟨0,(false,())⟩)/\(decide (W<1)=false->(g.length<=1000/\∀l:List Int,l∈g->l.length<=1000)/\∀b:Bool,b=jf g W B->((!b)=true->ac ((r:Int)+1)/\((∃x,cR u (x+10))/\(u.ky j).length<=50000)/\∀b:Bool,gM u j ((r:Int)+1) b->(b=true->Q ⟨0,(false,())⟩)/\(b=false->ac ((r:Int)+1)/\Is (pQ (n,l,()) (q:Int) (u.st,B,(q:Int),a,(a.length:Int),(r:Int)+1,a,g,bZ u)/\(@bv Int Int Int _ (a.length:Int) ((r:Int)+1)).toNat<(@bv Int Int Int _ (a.length:Int) (r:Int)).toNat)))/\((!b)=false->ac ((r:Int)+1)/\Is (pQ (n,l,()) (q:Int) (u.st,B,(q:Int),a,(a.length:Int),(r:Int)+1,a,g,bZ u)/\(@bv Int Int Int _ (a.length:Int) ((r:Int)+1)).toNat<(@bv Int Int Int _ (a.length:Int) (r:Int)).toNat))):=by
  intro j B W h1 h2 o;have hj:j=q:=by omega
  subst hj;refine⟨λh=>?_,λ_=>⟨hM,λb X=>⟨λh=>⟨Y,⟨⟨_,hO.mono (show(9998-210*P-10)+10<=9998-210*P by omega)⟩,by omega⟩,λb' a5=>⟨λh'=>?_,λ_=>⟨Y,nx _ h2.symm⟩⟩⟩,λ_=>⟨Y,nx _ h2.symm⟩⟩⟩⟩
  ·have:=ag h;omega
  ·have ht:jf g (Dx (u.st.getD r [])) (j:Int)=false:=by
    rw[<-o,h2,<-X];simpa using h
   rw[S2 ht b' a5]at h';cases h'
 refine⟨U,by omega,λe he=>⟨U,by omega,λp J=>⟨λd=>⟨by omega,?_⟩,λd=>⟨by omega,?_⟩⟩⟩⟩
 ·have o:p.1.2.2.1=Dx (u.st.getD r []):=by
   have J:p=iD (u.st.getD r []):=J;unfold Dx;rw[<-J,am d]
  exact⟨⟨⟨⟨⟨trivial,λh=>f 0 0 _ rfl h o⟩,λh=>f 1 1 _ rfl h o⟩,λh=>f 2 2 _ rfl h o⟩,λh=>f 3 3 _ rfl h o⟩,λh=>f 4 4 _ rfl h o⟩
 ·have o:e=Dx (u.st.getD r []):=by
   have J:p=iD (u.st.getD r []):=J;unfold Dx;rw[<-J,af (by rw[d];decide)];exact he
  exact⟨⟨⟨⟨⟨trivial,λh=>f 0 0 _ rfl h o⟩,λh=>f 1 1 _ rfl h o⟩,λh=>f 2 2 _ rfl h o⟩,λh=>f 3 3 _ rfl h o⟩,λh=>f 4 4 _ rfl h o⟩)
def a0g:bw:=(5,[zK])::Qm
theorem a43:KK a0g:=⟨aQ.add H9.1 (by kernel_rfl) (bo (If)),bg.add H9.2 (bo (λ_=>bJ))⟩
end Go.Tp
