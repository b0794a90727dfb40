/- A part of the proof of TopHiddenSaid: no conditions; packed by a program of our own. -/
import Derived.Test.YtgpideichgnmhaaGreatPhai
set_option linter.defProp false
set_option linter.unusedVariables false
set_option linter.unusedSimpArgs false
open And renaming intro→ck
open BitVec renaming ofInt→bf,ofNat→ag
open Bool renaming and_eq_true→aK,not_eq_true'→aR,not_eq_true→cm,not_eq_false'→aN,not_eq_false→bR
open Decidable renaming not_not→aA
open Go.IntKind renaming wrap_i64→dK
open Go.Lib renaming bitLen→gj
open HAdd renaming hAdd→fA
open HSub renaming hSub→bO
open Int renaming toNat_natCast→aG,le_refl→bp
open LE renaming le→aX
open LT renaming lt→nJ
open List renaming map_cons→aY,length_append→aa,length_cons→bc,append_assoc→ay,mem_append→ba,drop_of_length_le→bu,take_of_length_le→bb,append_nil→aH,mem_cons→bm,getElem?_eq_getElem→an,getD→bF,take_append_drop→ej,length→ah,getD_eq_getElem?_getD→aw,map_append→dL,length_map→cG,mem_map→fI,mem_cons_self→aF,mem_cons_of_mem→aD,all_eq_true→cH,nodup_cons→nx,mem_map_of_mem→fV,getElem_mem→ls,mem_append_left→dd,mem_singleton→bV,length_singleton→bi,take_add_one→dR,take_length→bv,length_eq_zero_iff→ju,length_set→cI
open Nat renaming le_refl→aE,le_trans→bE,zero_le→aq
open Option renaming getD_some→dA
namespace Go.Tp
open Go.Hv Go.Proofs Go.RowKit
set_option maxRecDepth 100000
set_option maxHeartbeats 0
def YG(i:Iss):Prop:=∀q∈i,ur q.2=true/\q.1=(q.2.1,q.2.2.1,())
def YH(d:QZ):Prop:=∀q∈d,iB q.1.1 q.1.2.1=true
def cy(p:Pg):Prop:=p.1.length+p.2.1.length<=4096/\fu p.2.2.2.2.1.1/\p.2.2.1.length<=p.1.length/\kf p.2.2.2.1.1 p.2.2.2.1.2.1/\YG p.1/\YH p.2.1
def uw(p:PS)(b:List Mk):Pg:=(p.1,p.2.1,p.2.2.1,(p.2.2.2.2,p.2.2.2.1,()),(b,()),())
theorem wG:cy ka:=by
 refine⟨bt,⟨bt,by intro m b;cases b⟩,aE _,⟨GS,bt,bt,bt⟩,?_,?_⟩
 ·intro q a;cases a
 ·intro q a;cases a
theorem CO{kt:Ty}{β:Type}(k:kt.den)(v:β):∀l:List (kt.den×β),(cL (kt:=kt) k v l).length<=l.length+1
 |[]=>by simp[cL]
 |p::l=>by
  have:=CO k v l;simp only[cL];split
  ·simp
  ·simp only[bc];omega
theorem zc{kt:Ty}{β:Type}{k:kt.den}{v:β}:∀{l:List (kt.den×β)},cD (kt:=kt) k l=none->(cL (kt:=kt) k v l).length=l.length+1
 |[],_=>by simp[cL]
 |p::l,h=>by
  simp only[cD]at h;split at h
  ·cases h
  ·rename_i e;simp only[cL];rw[ae e,bc,zc h,bc]
theorem AZ{kt:Ty}{β:Type}{k:kt.den}{v:β}{q:kt.den×β}:∀{l:List (kt.den×β)},q∈cL (kt:=kt) k v l->q∈l\/q.2=v/\q.1=k
 |[],h=>by simp[cL]at h;exact .inr (by rw[h];exact⟨rfl,rfl⟩)
 |p::l,h=>by
  simp only[cL]at h;split at h
  ·rename_i e;rcases bm.1 h with h|h
   ·exact .inr (by rw[h];exact⟨rfl,(eR.1 e).symm⟩)
   ·exact .inl (aD _ h)
  ·rcases bm.1 h with h|h
   ·exact .inl (by rw[h];exact aF ..)
   ·exact(AZ h).imp (aD _) id
variable{o o':Op}
theorem a5q(h:gT o=true)(b:o.1=1):ur (qR o)=true:=by
 obtain⟨k,a,c,e,f,r,x,g,i,j,l,m,fc,n,p,q,s,t,v,⟨⟩⟩:=o;have b:k=1:=b;subst b;unfold gT at h;simp only[ak trivial,aK]at h;unfold ur qR;simp only[aK];exact⟨⟨h.1.1.1.1,h.1.1.1.2⟩,h.1.1.2⟩
theorem a5r(h:gT o=true)(b:o.1=2):iB (TP o).1 (TP o).2.1=true:=by
 obtain⟨k,a,c,e,f,r,x,g,i,j,l,m,fc,n,p,q,s,t,v,⟨⟩⟩:=o;have b:k=2:=b;subst b;unfold gT at h;simp only[ae (show¬((2:Int)=1)by decide),ak trivial,aK]at h;exact h.1.1
theorem YI(h:gT o=true):CA o:=by
 obtain⟨k,a,c,b,e,r,x,f,g,i,j,l,fc,m,n,p,s,t,v,⟨⟩⟩:=o;show am x;unfold gT at h;dsimp only at h;split at h
 ·simp only[aK,ai]at h;have q:@aX Int _ 0 x/\@aX Int _ x 1114111:=⟨h.1.1.1.2.1,h.1.1.1.2.2.1⟩;unfold am;omega
 split at h
 ·simp only[aK,ai]at h;have q:x=0:=h.1.2.2.2.2.2.2;rw[q];unfold am;omega
 split at h
 ·simp only[aK,ai]at h;have q:x=0:=h.1.2.2.2.2.2.2;rw[q];unfold am;omega
 ·cases h
def zd(p:Pg)(l:List Op)(y:Int×Pg):Prop:=cy y.2/\(p=ka->l=[jr]->y=(0,fO))/\(p=ka->l=[]->y.2=ka)
theorem a5s:kf fO.2.2.2.1.1 fO.2.2.2.1.2.1:=by
 have:=AY (i:=(0,1,0,0,true,97,())) (show kf [(tW,kQ)] 0 from⟨GS,bt,bt,bt⟩);have e:(od [(tW,kQ)] (0,1,0,0,true,97,())).2=fO.2.2.2.1.1:=dC
 rw[e]at this;exact this
theorem Ba:cy fO:=by
 refine⟨bt,⟨bt,by intro m b;cases b⟩,aq _,a5s,?_,?_⟩
 ·intro q a;have a:q∈[(((0,1,()):ID),((0,1,0,0,true,97,()):gJ))]:=a;rw[bV.1 a];exact⟨bt,rfl⟩
 ·intro q a;cases a
theorem rr(p:Pg)(l:List Op):∃y,zd p l y:=by
 by_cases h:l=[]
 ·exact⟨(0,ka),wG,λ_ e=>(by rw[h]at e;cases e),λ_ _=>rfl⟩
 ·exact⟨(0,fO),Ba,λ_ _=>rfl,λ_ e=>absurd e h⟩
structure Frs(i0:Iss)(F:List Op):Prop where
 op:∀o∈F,gT o=true
 nd:(F.map oe).Nodup
 no:∀o∈F,o.1=1->aO cw (CM o) i0=none
theorem Q1(h:o.1=1)(h':o'.1=1)(e:CM o=CM o'):oe o=oe o':=by
 unfold oe;have a:o.2.1=o'.2.1:=aI (λx:ID=>x.1) e;have b:o.2.2.1=o'.2.2.1:=aI (λx:ID=>x.2.1) e;rw[ak h,ak h',h,h',a,b]
def tC:Ct:=⟨2,⟨[sP 0,(1,false,[.d (.sl lu)])],JL 0⟩,[⟨[sI 0],TQ 7⟩],λ(l,i,d,w,g,n,b,_)=>fJ (cy (uw (i,d,w,g,n) b)/\l.length<=1000000) (zd (uw (i,d,w,g,n) b) l) λy=>(y.1,y.2.1,y.2.2.1,y.2.2.2.2.1.2.1,y.2.2.2.2.1.1,y.2.2.2.2.2.1.1,y.2.2.2.1,())⟩
def YJ:cx:=⟨[sP 0,(5,false,[.mp 7]),sO 6 8,sI 7,(26,false,[.d (.sl lu)]),sI 27,sI 28],JL 0++[some (.mp TO .i64),some (.sl lu)]⟩
def Hg(x:tC.inp.den)(y:YJ.den):Prop:=match x,y with
 |(a,c,f,h,m,p,e,_),(st,l,r,j,i,d,w,g,n,b,q,F,_)=>l=a/\(i,d,w,g,n,b)=(c,f,h,m,p,e)/\st=e.length/\r=a.length/\Frs c F/\(∀o∈F,(aO TO (oe o) q).isSome=true)/\∃k:Nat,j=k/\k<=a.length/\F.length<=k/\(uw (c,f,h,m,p) e=ka->a=[jr]->(k=0->q=[])/\F=a.take k)
def Og:cx:=⟨[sP 0,sO 6 7,sI 7,sO 56 7,sI 57,sI 58],JL 0++[some (.sl lu)]⟩
def dF(x:tC.inp.den)(F:List Op):Prop:=Frs x.2.1 F/\F.length<=x.1.length/\(uw (x.2.1,x.2.2.1,x.2.2.2.1,x.2.2.2.2.1,x.2.2.2.2.2.1) x.2.2.2.2.2.2.1=ka->x.1=[jr]->F=[jr])
def ze(x:tC.inp.den)(y:Og.den):Prop:=match x,y with
 |(m,c,e,f,h,l,a,_),(st,o,j,i,d,w,g,n,b,F,_)=>(i,d,w,g,n,b)=(c,e,f,h,l,a)/\dF (m,c,e,f,h,l,a,()) F/\o=F.length/\∃k:Nat,j=k/\k<=F.length/\@aX Int _ a.length st/\@aX Int _ st (@fA Int Int Int _ a.length k)
def Oh:cx:=⟨[sP 0,sO 95 8,sI 96,sI 97],TQ 7++[some (.sl lu)]⟩
structure Tkg(x:tC.inp.den)(F:List Op)(k:Nat)(p:PS)(b:List Mk):Prop where
 no:∀o∈F.drop k,o.1=1->aO cw (CM o) p.1=none
 len:p.1.length+p.2.1.length<=x.2.1.length+x.2.2.1.length+k
 mks:fu b
 wt:p.2.2.1.length<=p.1.length
 tg:kf p.2.2.2.2 p.2.2.2.1
 is:YG p.1
 dr:YH p.2.1
 ty:uw (x.2.1,x.2.2.1,x.2.2.2.1,x.2.2.2.2.1,x.2.2.2.2.2.1) x.2.2.2.2.2.2.1=ka->x.1=[jr]->(k=0->uw p b=ka)/\(k=1->uw p b=uw (tA jr ([],[],[],0,[(tW,kQ)])) [])
 t0:k=0->uw p b=uw (x.2.1,x.2.2.1,x.2.2.2.1,x.2.2.2.2.1,x.2.2.2.2.2.1) x.2.2.2.2.2.2.1
def CQ(x:tC.inp.den)(y:Oh.den):Prop:=match y with
 |(a,j,i,d,g,n,b,w,F,_)=>dF x F/\@aX Int _ (@fA Int Int Int _ (@fA Int Int Int _ x.2.1.length x.2.2.1.length) F.length) 4096/\a=F.length/\∃k:Nat,j=k/\k<=F.length/\Tkg x F k (i,d,w,g,n) b
theorem Hh(d:QZ):∀(w:List gJ)(z:gU×Int×List gJ),kf z.1 z.2.1->kf (wF d w z).1 (wF d w z).2.1/\(wF d w z).2.2.length<=z.2.2.length+w.length
 |[],z,h=>⟨h,aE _⟩
 |i::w,z,h=>by
  have b:kf (Ms d z i).1 (Ms d z i).2.1/\(Ms d z i).2.2.length<=z.2.2.length+1:=by
   have a:=AY (i:=i) h;unfold Ms;dsimp only;split
   ·exact⟨a,bY⟩
   split
   ·exact⟨wE a,Nat.le_succ _⟩
   ·exact⟨a,Nat.le_succ _⟩
  have:=Hh d w (Ms d z i) b.1;refine⟨this.1,?_⟩;have e:=this.2;show(wF d w (Ms d z i)).2.2.length<=_;rw[bc];omega
theorem Hj(d:QZ):∀(f:Nat)(w:List gJ)(n:gU)(g:Int),kf n g->(Es f d w n g).1.length<=w.length/\kf (Es f d w n g).2.2 (Es f d w n g).2.1
 |0,w,n,g,h=>⟨aE _,h⟩
 |f+1,w,n,g,h=>by
  have a:=Hh d w (n,g,[]) h;have b:(wF d w (n,g,[])).2.2.length<=w.length:=by have:=a.2;simpa using this
  simp only[Es];split
  ·exact⟨b,a.1⟩
  ·have:=Hj d f (wF d w (n,g,[])).2.2 (wF d w (n,g,[])).1 (wF d w (n,g,[])).2.1 a.1;exact⟨bE this.1 b,this.2⟩
variable{F l m:List Op}{i k:Nat}
theorem Hk{x:tC.inp.den}{p:PS}{b s:List Mk}(h:Tkg x F k p b)(z:dF x F)(E:k<F.length)(A:fu s)(B:(F.getD k CB).1=1->s=b):Tkg x F (k+1) (tA (F.getD k CB) p) s:=by
 have Q:F.getD k CB∈F:=aV E;have G:=z.1.op _ Q;have H:F.drop k=F.getD k CB::F.drop (k+1):=dv E;have c:=h.no;rw[H]at c;have C:=z.1.nd
 have g:uw (x.2.1,x.2.2.1,x.2.2.2.1,x.2.2.2.2.1,x.2.2.2.2.2.1) x.2.2.2.2.2.2.1=ka->x.1=[jr]->(k+1=0->uw (tA (F.getD k CB) p) s=ka)/\(k+1=1->uw (tA (F.getD k CB) p) s=uw (tA jr ([],[],[],0,[(tW,kQ)])) []):=by
  intro J K;refine⟨λe=>ac,λe=>?_⟩;have R:k=0:=ac
  subst R;have S:=z.2.2 J K;have L:F.getD 0 CB=jr:=by rw[S];rfl
  have t:=(h.ty J K).1 rfl;have U:s=b:=B (by rw[L];rfl);have m:b=[]:=aI (λq:Pg=>q.2.2.2.2.1.1) t
  have u:p=([],[],[],0,[(tW,kQ)]):=by
   obtain⟨a,n,y,M,N⟩:=p;have i:a=[]:=aI (λq:Pg=>q.1) t;have w:n=[]:=aI (λq:Pg=>q.2.1) t;have W:y=[]:=aI (λq:Pg=>q.2.2.1) t;have X:M=0:=aI (λq:Pg=>q.2.2.2.1.2.1) t;have Y:N=[(tW,kQ)]:=aI (λq:Pg=>q.2.2.2.1.1) t;rw[i,w,W,X,Y]
  rw[L,U,m,u]
 generalize hO:F.getD k CB=o at*;obtain⟨a,n,y,M,N⟩:=p;have O:a.length+n.length<=x.2.1.length+x.2.2.1.length+k:=h.len;have a0:y.length<=a.length:=h.wt;unfold tA at g⊢;by_cases m:o.1=1
 ·rw[ak m]at g⊢;have hn:cD (kt:=cw) (CM o) a=none:=c o (aF ..) m;have hl:=zc (v:=qR o) hn;refine⟨λr f P=>?_,?_,A,?_,h.tg,λq D=>?_,h.dr,g,λe=>absurd e (Nat.succ_ne_zero _)⟩
  ·show cD (kt:=cw) (CM r) (cL (kt:=cw) (CM o) (qR o) a)=none;rw[fM,ae]
   ·exact c r (aD _ f) P
   ·intro e;have e:=Q1 P m (Ob.1 e);have hs:(F.drop k).Nodup\/True:= .inr trivial
    have j:((F.drop k).map oe).Nodup:=by
     have:=C;rw[<-ej k F,dL,List.nodup_append]at this;exact this.2.1
    rw[H,aY,nx]at j;exact j.1 (by rw[<-e];exact fV f)
  ·show(cL (kt:=cw) (CM o) (qR o) a).length+n.length<=_;omega
  ·show(y++[qR o]).length<=(cL (kt:=cw) (CM o) (qR o) a).length;rw[aa,bi];omega
  ·rcases AZ D with i|⟨i,w⟩
   ·exact h.is q i
   ·rw[i,w];exact⟨a5q G m,rfl⟩
 ·rw[ae m]at g⊢;have l:∀r∈F.drop (k+1),r.1=1->aO cw (CM r) a=none:=λr f=>c r (aD _ f);by_cases u:o.1=2
  ·rw[ak u]at g⊢;refine⟨l,?_,A,h.wt,wE h.tg,h.is,λq D=>?_,g,λe=>absurd e (Nat.succ_ne_zero _)⟩
   ·have:=CO (kt:=cw) (TP o) (1:Int) n;show a.length+(cL (kt:=cw) (TP o) 1 n).length<=_;omega
   ·rcases AZ D with i|⟨i,w⟩
    ·exact h.dr q i
    ·rw[w];exact a5r G u
  ·rw[ae u]at g⊢;exact⟨l,by show a.length+n.length<=_;omega,A,h.wt,h.tg,h.is,h.dr,g,λe=>absurd e (Nat.succ_ne_zero _)⟩
def a5t(x:tC.inp.den):eH:=⟨[(7,bS YJ (Hg x) λ(_,_,a,j,_)=>(@bO Int Int Int _ a j).toNat),(17,bS Og (ze x) λ(_,a,j,_)=>(@bO Int Int Int _ a j).toNat),(26,bS Oh (CQ x) λ(a,j,_)=>(@bO Int Int Int _ a j).toNat)],[],[],[],0⟩
abbrev Q2(v:Int×List (Fk×gJ)×List (Fk×Int)×Int×List (Fk×mU.den)×List hX.den×List gJ×Unit):cF tC.out:=⟨0,v⟩
def YK:bG:=(93,[tC])::YE
def YL:=kA 93 tC YF a5t (∀(d:List Op)(g:List (Fk×gJ))(h:List (Fk×Int))(i:List gJ)(j:Int)(k:List (Fk×mU.den))(c:List hX.den)Q,let x:=(d,g,h,i,j,k,c,());bg tC x Q->c.length<=1000000/\Is (Hg x (nI c,d,nI d,0,g,h,i,j,k,c,[],[],()))/\∀(F:Int)(e:List Op)(l a:Int)(s:List (Fk×gJ))(v:List (Fk×Int))(w:List gJ)(y:Int)(z:List (Fk×mU.den))(t:List hX.den)(K:List (List Int×Int))(u:List Op),let R:=(s,v,w,y,z,t,K,u,());let W:=aO (Ty.ar 3 Ty.i64) (oe (gD e a zO)) K;let S:=am (a+1)/\Is (Hg x (F,e,l,a+1,R)/\lN (l-(a+1)) (l-a));Hg x (F,e,l,a,R)->Bd (a<l) (iN a e/\True/\Br (!gT (gD e a zO)) (Q ⟨0,1,s,v,y,z,t,w,()⟩) (True/\Br (W.isSome) S (fu t/\∀(b:Bool),(gT (gD e a zO)=true->(gD e a zO).1=1->b=(aO cw ((gD e a zO).2.1,(gD e a zO).2.2.1,()) s).isSome)->Br b S (True/\(u.length+1)*144<=mM/\am (a+1)/\Is (Hg x (F,e,l,a+1,s,v,w,y,z,t,dY (Ty.ar 3 Ty.i64) (oe (gD e a zO)) 1 K,u++[gD e a zO],())/\lN (l-(a+1)) (l-a)))))) (Is (ze x (F,nI u,0,s,v,w,y,z,t,u,()))/\∀(C r f:Int)(m:List (Fk×gJ))(n:List (Fk×Int))(L:List gJ)(M:Int)(N:List (Fk×mU.den))(o:List hX.den)(p:List Op),let X:=4096<nI m+nI n+nI o+nI p;let U:=Q2 (14,m,n,M,N,o,L,());let O:=(m,n,L,M,N,o,p,());ze x (C,r,f,O)->Bd (f<r) (iN f p/\Br ((gD p f zO).1==3) (am (C+1)/\am (f+1)/\Is (ze x (C+1,r,f+1,O)/\lN (r-(f+1)) (r-f))) (am (f+1)/\Is (ze x (C,r,f+1,O)/\lN (r-(f+1)) (r-f)))) (am (nI m+nI n)/\o.length<=1000000/\am (nI m+nI n+nI o)/\am (nI m+nI n+nI o+nI p)/\Br (decide X) (Q U) (Bd (512<C) (Q U) (Is (CQ x (nI p,0,m,n,M,N,o,L,p,()))/\∀(D q:Int)(P:List (Fk×gJ))(G:List (Fk×Int))(A:Int)(H:List (Fk×mU.den))(J:List hX.den)(B:List gJ)(E:List Op),CQ x (D,q,P,G,A,H,J,B,E,())->Bd (q<D) (iN q E/\(fu J/\B.length<=1000000/\0<=A/\A<=1000000)/\∀(b:(List (Fk×gJ)×List (Fk×Int)×List gJ×Int×List (Fk×mU.den))×List hX.den),b.1=tA (gD E q zO) (P,G,B,A,H)/\fu b.2/\((gD E q zO).1=1->b.2=J)->am (q+1)/\Is (CQ x (D,q+1,b.1.1,b.1.2.1,b.1.2.2.2.1,b.1.2.2.2.2,b.2,b.1.2.2.1,E,())/\lN (D-(q+1)) (D-q))) ((B.length<=1000000/\kf H A)/\∀b,b=Es (B.length+1) G B H A->Q ⟨0,0,P,G,b.2.1,b.2.2,J,b.1,()⟩)))))) (by
 conv=>zeta
 unfold Bd Br gD iN lN mM nI bg zO;rintro l i d w g n b Q ⟨⟨s,hl⟩,hQ⟩;have s:cy (uw (i,d,w,g,n) b):=s;have Y:∀(er:Int)(p:PS)(b':List Mk),zd (uw (i,d,w,g,n) b) l (er,uw p b')->Q ⟨0,(er,p.1,p.2.1,p.2.2.2.1,p.2.2.2.2,b',p.2.2.1,())⟩:=λer p b' h=>hQ (er,uw p b') h;clear hQ;obtain⟨k1,k2,k3,k4,k5,k6⟩:=id s;have k1:i.length+d.length<=4096:=k1;have k3:w.length<=i.length:=k3;have k4:kf n g:=k4;have kb:b.length<=512:=k2.1;have tn:uw (i,d,w,g,n) b=ka->i=[]/\d=[]/\b=[]:=λt=>⟨aI (λq:Pg=>q.1) t,aI (λq:Pg=>q.2.1) t,aI (λq:Pg=>q.2.2.2.2.1.1) t⟩;refine⟨ac,⟨⟨rfl,rfl,rfl,rfl,⟨λo A=>(by cases A),List.nodup_nil,λo A=>(by cases A)⟩,λo A=>(by cases A),0,rfl,aq _,aE _,λ_ _=>⟨λ_=>rfl,rfl⟩⟩⟩,?_⟩;rintro st l1 ln j i1 d1 w1 g1 n1 b1 sn F ⟨e1,v,e3,e4,J,R,k,e5,q3,q4,q5⟩;have a1:i=i1:=(aI (λz=>z.1) v).symm;have a2:d=d1:=(aI (λz=>z.2.1) v).symm;have a3:w=w1:=(aI (λz=>z.2.2.1) v).symm;have a4:g=g1:=(aI (λz=>z.2.2.2.1) v).symm;have a5:n=n1:=(aI (λz=>z.2.2.2.2.1) v).symm;have a6:b=b1:=(aI (λz=>z.2.2.2.2.2) v).symm;have a7:l=l1:=e1.symm;subst a1 a2 a3 a4 a5 a6 a7 e3 e4 e5;clear e1 v;rw[show((k:Int)).toNat=k by omega];refine⟨λc=>?_,λc=>?_⟩
 ·have u:k<l.length:=by have:=af c;omega
  have hm:l.getD k (0,0,0,0,0,false,0,0,0,0,0,0,0,false,0,0,false,0,0,())∈l:=aV u;have a0:l.take (k+1)=l.take k++[l.getD k (0,0,0,0,0,false,0,0,0,0,0,0,0,false,0,0,false,0,0,())]:=di u;generalize A:l.getD k (0,0,0,0,0,false,0,0,0,0,0,0,0,false,0,0,false,0,0,())=o at*
  have K:uw (i,d,w,g,n) b=ka->l=[jr]->k=0/\o=jr:=by
   intro m r;have h0:k=0:=by rw[r]at u;simpa using u
   subst h0;rw[r]at A;exact⟨rfl,A.symm⟩
  have hN:am ((k:Int)+1):=cv
  have N:((l.length:Int)-((k:Int)+1)).toNat<((l.length:Int)-(k:Int)).toNat:=ac
  refine⟨ac,trivial,λS=>?_,λS=>⟨trivial,λc2=>?_,λc2=>⟨k2,λkn U=>⟨λc3=>?_,λc3=>⟨trivial,ac,hN,⟨⟨rfl,rfl,rfl,rfl,⟨?_,?_,?_⟩,?_,k+1,rfl,u,?_,?_⟩,N⟩⟩⟩⟩⟩⟩
  ·refine Y 1 (i,d,w,g,n) b ⟨s,λm r=>?_,λm _=>m⟩;rw[(K m r).2]at S;exact absurd S bt
  ·refine⟨hN,⟨⟨rfl,rfl,rfl,rfl,J,R,k+1,rfl,u,ac,λm r=>?_⟩,N⟩⟩;have:=(q5 m r).1 (K m r).1;rw[this]at c2;cases c2
  ·refine⟨hN,⟨⟨rfl,rfl,rfl,rfl,J,R,k+1,rfl,u,ac,λm r=>?_⟩,N⟩⟩;have e:=(K m r).2;have:=U (by rw[e];decide) (by rw[e];rfl);rw[(tn m).1]at this;rw[this]at c3;cases c3
  ·intro G x;rcases ba.1 x with h|h
   ·exact J.op G h
   ·rw[bV.1 h];simpa using S
  ·rw[dL,List.nodup_append];refine⟨J.nd,bY,λa ha y hy=>?_⟩;have hy:y=oe o:=cf hy
   intro e;obtain⟨G,x,e'⟩:=fI.1 ha;have:=R G x;rw[e',e,hy]at this;rw[show(aO TO (oe o) sn).isSome=false from c2]at this;cases this
  ·intro G x h1;rcases ba.1 x with h|h
   ·exact J.no G h h1
   ·rw[bV.1 h]at h1⊢;have:=U (cf S) h1;rw[c3]at this;exact Option.isSome_eq_false_iff.1 this.symm|>Option.isNone_iff_eq_none.1
  ·intro G x;show(cD (kt:=TO) (oe G) (cL (kt:=TO) (oe o) 1 sn)).isSome=true;rw[fM];split
   ·rfl
   ·rename_i ne;rcases ba.1 x with h|h
    ·exact R G h
    ·exact absurd (eR.2 (by rw[bV.1 h])) ne
  ·simp;omega
  ·intro m r;refine⟨λe=>ac,?_⟩;rw[a0,<-(q5 m r).2]
 ·have u:k=l.length:=by have:=ap c;omega
  subst u;refine⟨⟨⟨rfl,⟨J,q4,λm r=>?_⟩,rfl,0,rfl,aq _,bp _,ac⟩⟩,?_⟩
  ·have:=(q5 m r).2;rw[bv]at this;rw[this];exact r
  clear c J R q3 q4 q5;rintro C a8 j2 i2 d2 w2 g2 n2 b2 F2 ⟨v,f,e4,k,e5,r1,r2,W⟩;have a1:i=i2:=(aI (λz=>z.1) v).symm;have a2:d=d2:=(aI (λz=>z.2.1) v).symm;have a3:w=w2:=(aI (λz=>z.2.2.1) v).symm;have a4:g=g2:=(aI (λz=>z.2.2.2.1) v).symm;have a5:n=n2:=(aI (λz=>z.2.2.2.2.1) v).symm;have a6:b=b2:=(aI (λz=>z.2.2.2.2.2) v).symm;subst a1 a2 a3 a4 a5 a6 e4 e5;have a9:F2.length<=l.length:=f.2.1;have r2:@aX Int _ b.length C:=r2;have W:@aX Int _ C (b.length+k):=W;refine⟨λc=>?_,λc=>?_⟩
  ·have u:k<F2.length:=by have:=af c;omega
   have N:((F2.length:Int)-((k:Int)+1)).toNat<((F2.length:Int)-(k:Int)).toNat:=ac
   refine⟨ac,λ_=>⟨cv,cv,⟨⟨rfl,f,rfl,k+1,rfl,u,?_,?_⟩,N⟩⟩,λ_=>⟨cv,⟨⟨rfl,f,rfl,k+1,rfl,u,r2,?_⟩,N⟩⟩⟩
   ·show @aX Int _ b.length (C+1);omega
   ·show @aX Int _ (C+1) (b.length+((k+1:Nat):Int));omega
   ·show @aX Int _ C (b.length+((k+1:Nat):Int));omega
  ·refine⟨cv,ac,cv,cv,λL=>?_,λL=>⟨λc5=>?_,λc5=>⟨⟨⟨f,?_,rfl,0,rfl,aq _,⟨λo A=>f.1.no o (cf A),aE _,k2,k3,k4,k5,k6,λm _=>⟨λ_=>m,λe=>ac⟩,λ_=>rfl⟩⟩⟩,?_⟩⟩⟩
   ·refine Y 14 (i,d,w,g,n) b ⟨s,λm r=>?_,λm _=>m⟩;exfalso;have L:=af L;obtain⟨z1,z2,z3⟩:=tn m;rw[z1,z2,z3,f.2.2 m r]at L;exact absurd L bt
   ·refine Y 14 (i,d,w,g,n) b ⟨s,λm r=>?_,λm _=>m⟩;exfalso;have c5:=af c5;have:=f.2.2 m r;rw[this]at r1;have:b=[]:=(tn m).2.2;rw[this]at W;simp at r1 W;omega
   ·have:=ap L;show @aX Int _ ((i.length:Int)+d.length+F2.length) 4096;omega
   clear c L c5 r1 r2 W;rintro b0 j3 E H O P b3 M X ⟨f3,s1,e1,k,v,s2,T⟩;subst e1 v;rw[show((k:Int)).toNat=k by omega];have s1:@aX Int _ ((i.length:Int)+d.length+X.length) 4096:=s1;have tl:E.length+H.length<=i.length+d.length+k:=T.len;have tw:M.length<=E.length:=T.wt;have tt:kf P O:=T.tg;have tg:=CN tt;refine⟨λc=>?_,λc=>?_⟩
   ·have u:k<X.length:=by have:=af c;omega
    refine⟨ac,⟨T.mks,ac,tt.2.2.1,ac⟩,λz D=>⟨cv,⟨⟨f3,s1,rfl,k+1,rfl,u,?_⟩,ac⟩⟩⟩;have:=Hk T f3 u D.2.1 D.2.2;have e:z.1=tA (X.getD k CB) (E,H,M,O,P):=D.1;rw[<-e]at this;exact this
   ·have u:k=X.length:=by have:=ap c;omega
    subst u;refine⟨⟨ac,tt⟩,λz D=>?_⟩;have A:=Hj H (M.length+1) M P O tt;rw[<-D]at A;refine Y 0 (E,H,z.1,z.2.1,z.2.2) b3 ⟨⟨by show E.length+H.length<=4096;omega,T.mks,by show z.1.length<=E.length;omega,A.2,T.is,T.dr⟩,λm r=>?_,λm r=>?_⟩
    ·have eF:=f3.2.2 m r;have B:=(T.ty m r).2 (by rw[eF];rfl);have y1:E=fO.1:=aI (λq:Pg=>q.1) B;have y2:H=[]:=aI (λq:Pg=>q.2.1) B;have y3:M=[qR jr]:=aI (λq:Pg=>q.2.2.1) B;have y4:O=0:=aI (λq:Pg=>q.2.2.2.1.2.1) B;have y5:P=[(tW,kQ)]:=aI (λq:Pg=>q.2.2.2.1.1) B;have y6:b3=[]:=aI (λq:Pg=>q.2.2.2.2.1.1) B;subst y1 y2 y3 y4 y5 y6;have e:Es ([qR jr].length+1) [] [qR jr] [(tW,kQ)] 0=([],0,fO.2.2.2.1.1):=dC
     have D:z=([],0,fO.2.2.2.1.1):=D.trans e;subst D;rfl
    ·have h0:X.length=0:=by have:=f3.2.1;have r:l=[]:=r;rw[r]at this;simpa using this
     have B:uw (E,H,M,O,P) b3=ka:=(T.t0 h0).trans m;have y1:E=[]:=aI (λq:Pg=>q.1) B;have y2:H=[]:=aI (λq:Pg=>q.2.1) B;have y3:M=[]:=aI (λq:Pg=>q.2.2.1) B;have y4:O=0:=aI (λq:Pg=>q.2.2.2.1.2.1) B;have y5:P=[(tW,kQ)]:=aI (λq:Pg=>q.2.2.2.1.1) B;have y6:b3=[]:=aI (λq:Pg=>q.2.2.2.2.1.1) B;subst y1 y2 y3 y4 y5 y6;have e:Es (([]:List gJ).length+1) [] [] [(tW,kQ)] 0=([],0,[(tW,kQ)]):=dC
     have D:z=([],0,[(tW,kQ)]):=D.trans e;subst D;rfl) (l:=λ_=>aU λ_=>rr _ _)
def oZ:Op:=(0,0,0,0,0,false,0,0,0,0,0,0,0,false,0,0,false,0,0,())
def ru(l:List Op)(i:Int):Prop:=@aX Int _ 0 i/\@nJ Int _ i l.length
def Ev(g:Nat):Ct:=⟨6,⟨[sO 0 0,sI 1,sI 2,sI 3,(4,false,[.ptr 1 0]),fG g 5],[nk,cN]⟩,[⟨[sI 0],[nk,cN]⟩],λ(a,b,c,l,n,_)=>fJ (gA l/\ru l a/\ru l b/\ru l c/\0<=n/\n<=900) (λy:Int×Int=>(y.1=a\/y.1=b\/y.1=c)/\n<=y.2/\y.2<=n+3) λy=>(y.1,l,y.2,())⟩
abbrev Hl(g:Nat)(v:Int×List Op×Int×Unit):cF ((Ev g)).out:=⟨0,v⟩
theorem Q3(g:Nat)(e:eW g):il Tryz.prog (CL g) 213 (Ev g) (cQ (Ev g) 0):=by
 refine oE (∀(f h i:Int)(a:List Op)(e:Int)(Q:cF (Ev g).out->Prop),(Tr.need (gA a/\ru a f/\ru a h/\ru a i/\0<=e/\e<=900) (Tr.all (Int×Int) (λy=>(y.1=f\/y.1=h\/y.1=i)/\e<=y.2/\y.2<=e+3) λy=>Tr.leaf (Hl g (y.1,a,y.2,())))).sat Q->(gA a/\0<=f/\f<nI a/\0<=h/\h<nI a/\0<=e/\e<=1000)/\∀(b:Int×Int×Int),(b.1=f/\b.2.1=h\/b.1=h/\b.2.1=f)/\e<=b.2.2/\b.2.2<=e+1->(gA a/\0<=b.2.1/\b.2.1<nI a/\0<=i/\i<nI a/\0<=b.2.2/\b.2.2<=1000)/\∀(c:Int×Int×Int),(c.1=b.2.1/\c.2.1=i\/c.1=i/\c.2.1=b.2.1)/\b.2.2<=c.2.2/\c.2.2<=b.2.2+1->(gA a/\0<=b.1/\b.1<nI a/\0<=c.1/\c.1<nI a/\0<=c.2.2/\c.2.2<=1000)/\∀(d:Int×Int×Int),(d.1=b.1/\d.2.1=c.1\/d.1=c.1/\d.2.1=b.1)/\c.2.2<=d.2.2/\d.2.2<=c.2.2+1->Q (Hl g (d.2.1,a,d.2.2,()))) ?_ (by rcases e with rfl|rfl<;>kernel_rfl);unfold nI;rintro a b c l n Q ⟨⟨h,⟨q,r⟩,⟨s,t⟩,⟨u,v⟩,w,x⟩,f⟩;have i:∀y m:Int,(y=a\/y=b\/y=c)->n<=m->m<=n+3->Q ⟨0,(y,l,m,())⟩:=λy m j o p=>f (y,m) ⟨j,o,p⟩
 (repeat' (first|assumption|apply ck|intro _))<;>first
  |assumption
  |omega
  |(apply i<;>omega)
theorem Q4(g:Nat)(a:eW g):bW Tryz.prog 213 (Ev g):=dH (Oe g a) (Of g) tS dC (Q3 g a)
def CR(g:Nat):bG:=(213,[(Ev g)])::(CL g)
theorem Oi(g:Nat)(a:eW g):bX Tryz.prog (CR g):=bX.add (Oe g a) dC (bL (Q4 g a))
theorem Oj(g:Nat):cO (CR g):=cO.add (Of g) (bL (λx=>aU λ_=>⟨(x.1,x.2.2.2.2.1), .inl rfl,bp _,by show @aX Int _ x.2.2.2.2.1 (x.2.2.2.2.1+3);omega⟩))
def Ew(g:Nat):Ct:=⟨4,⟨[sO 0 0,sI 1,(2,false,[.ptr 1 0]),fG g 3],[nk,cN]⟩,[⟨[sI 0],[nk,cN]⟩],λ(a,l,n,_)=>fJ (gA l/\ru l (a-1)/\ru l (a+1)/\0<=n/\n<=900) (λy:Int×Int=>@aX Int _ (a-1) y.1/\@aX Int _ y.1 (a+1)/\n<=y.2/\y.2<=n+3) λy=>(y.1,l,y.2,())⟩
abbrev Hm(g:Nat)(v:Int×List Op×Int×Unit):cF ((Ew g)).out:=⟨0,v⟩
theorem Q5(g:Nat)(b:eW g):il Tryz.prog (CR g) 212 (Ew g) (cQ (Ew g) 0):=by
 refine oE (∀(a:Int)(c:List Op)(d:Int)(Q:cF (Ew g).out->Prop),let z:=ru c (a+1)/\0<=d/\d<=900;(Tr.need (gA c/\ru c (a-1)/\z) (Tr.all (Int×Int) (λy=>a-1<=y.1/\y.1<=a+1/\d<=y.2/\y.2<=d+3) λy=>Tr.leaf (Hm g (y.1,c,y.2,())))).sat Q->am (a-1)/\am (a+1)/\(gA c/\ru c (a-1)/\ru c a/\z)/\∀(b:Int×Int),(b.1=a-1\/b.1=a\/b.1=a+1)/\d<=b.2/\b.2<=d+3->Q (Hm g (b.1,c,b.2,()))) ?_ (by rcases b with rfl|rfl<;>kernel_rfl)
 conv=>zeta
 rintro a l n Q ⟨⟨h,⟨p,q⟩,⟨r,s⟩,t,u⟩,c⟩;have e:∀y m:Int,a-1<=y->y<=a+1->n<=m->m<=n+3->Q ⟨0,(y,l,m,())⟩:=λy m f i j o=>c (y,m) ⟨f,i,j,o⟩;have v:=h.1
 (repeat' (first|assumption|apply ck|intro _))<;>first
  |assumption
  |(unfold am;omega)
  |omega
  |(apply e<;>omega)
theorem Q6(g:Nat)(a:eW g):bW Tryz.prog 212 (Ew g):=dH (Oi g a) (Oj g) tS dC (Q5 g a)
def CS(g:Nat):bG:=(212,[(Ew g)])::(CR g)
theorem Ol(g:Nat)(a:eW g):bX Tryz.prog (CS g):=bX.add (Oi g a) dC (bL (Q6 g a))
theorem Om(g:Nat):cO (CS g):=cO.add (Oj g) (bL (λx=>aU λ_=>⟨(x.1,x.2.2.1),by show @aX Int _ (x.1-1) x.1;omega,by show @aX Int _ x.1 (x.1+1);omega,bp _,by show @aX Int _ x.2.2.1 (x.2.2.1+3);omega⟩))
def mW(l:List Op)(a b:Int):Prop:=@aX Int _ 0 a/\@aX Int _ a b/\@aX Int _ b l.length
def Ex(g:Nat):Ct:=⟨4,⟨[sO 0 0,sI 1,sI 2,fG g 3],[nk]⟩,[⟨[sI 0,sI 1],[nk]⟩],λ(a,b,l,_)=>fJ (gA l/\mW l a b/\@aX Int _ (a+13) b) (λy:Int×Int=>@aX Int _ a y.1/\@nJ Int _ y.1 b) λy=>(y.1,y.2,l,())⟩
abbrev mn(g:Nat)(v:Int×Int×List Op×Unit):cF ((Ex g)).out:=⟨0,v⟩
theorem Q7(g:Nat)(c:eW g):il Tryz.prog (CS g) 191 (Ex g) (cQ (Ex g) 0):=by
 refine oE (∀(a c:Int)(d:List Op)(Q:cF (Ex g).out->Prop),let z:=(c-a).tdiv 4;let i:=a+IntKind.i64.wrap z*3;let j:=a+IntKind.i64.wrap z*2;let l:=a+IntKind.i64.wrap z*1;(Tr.need (gA d/\mW d a c/\a+13<=c) (Tr.all (Int×Int) (λy=>a<=y.1/\y.1<c) λy=>Tr.leaf (mn g (y.1,y.2,d,())))).sat Q->am (c-a)/\am (IntKind.i64.wrap z*1)/\am l/\am (IntKind.i64.wrap z*2)/\am j/\am (IntKind.i64.wrap z*3)/\am i/\Bd (8<=c-a) (Bd (50<=c-a) ((gA d/\ru d (a+IntKind.i64.wrap z*1-1)/\ru d (a+IntKind.i64.wrap z*1+1)/\(0:Int)<=0/\(0:Int)<=900)/\∀(b:Int×Int),a+IntKind.i64.wrap z*1-1<=b.1/\b.1<=a+IntKind.i64.wrap z*1+1/\0<=b.2/\b.2<=3->(gA d/\ru d (a+IntKind.i64.wrap z*2-1)/\ru d (a+IntKind.i64.wrap z*2+1)/\0<=b.2/\b.2<=900)/\∀(f:Int×Int),a+IntKind.i64.wrap z*2-1<=f.1/\f.1<=a+IntKind.i64.wrap z*2+1/\b.2<=f.2/\f.2<=b.2+3->(gA d/\ru d (a+IntKind.i64.wrap z*3-1)/\ru d (a+IntKind.i64.wrap z*3+1)/\0<=f.2/\f.2<=900)/\∀(h:Int×Int),a+IntKind.i64.wrap z*3-1<=h.1/\h.1<=a+IntKind.i64.wrap z*3+1/\f.2<=h.2/\h.2<=f.2+3->(gA d/\ru d b.1/\ru d f.1/\ru d h.1/\0<=h.2/\h.2<=900)/\∀(e:Int×Int),(e.1=b.1\/e.1=f.1\/e.1=h.1)/\h.2<=e.2/\e.2<=h.2+3->Br (e.2==0) (Q (mn g (e.1,1,d,()))) (Br (e.2==12) (Q (mn g (e.1,2,d,()))) (Q (mn g (e.1,0,d,()))))) ((gA d/\ru d l/\ru d j/\ru d i/\(0:Int)<=0/\(0:Int)<=900)/\∀(b:Int×Int),(b.1=a+IntKind.i64.wrap z*1\/b.1=a+IntKind.i64.wrap z*2\/b.1=a+IntKind.i64.wrap z*3)/\0<=b.2/\b.2<=3->Br (b.2==0) (Q (mn g (b.1,1,d,()))) (Br (b.2==12) (Q (mn g (b.1,2,d,()))) (Q (mn g (b.1,0,d,())))))) (Q (mn g (a+IntKind.i64.wrap z*2,1,d,())))) ?_ (by rcases c with rfl|rfl<;>kernel_rfl)
 conv=>zeta
 unfold Bd Br;rintro a b l Q ⟨⟨h,⟨o,p,r⟩,s⟩,e⟩;have i:∀y m:Int,a<=y->y<b->Q ⟨0,(y,m,l,())⟩:=λy m j n=>e (y,m) ⟨j,n⟩;have t:=h.1
 have f:IntKind.i64.wrap ((b-a).tdiv 4)=(b-a)/4:=by
  rw[Int.tdiv_eq_ediv_of_nonneg ac,dK];omega
 rw[f];generalize c:(b-a)/4=q;have u:4*q<=b-a/\b-a<4*q+4:=ac
 clear c f e
 (repeat' (first|assumption|apply ck|intro _))<;>(try simp only[ai,aj]at*)<;>first
  |assumption
  |(unfold am;omega)
  |omega
  |(apply i<;>omega)
theorem Q8(g:Nat)(a:eW g):bW Tryz.prog 191 (Ex g):=dH (Ol g a) (Om g) tS dC (Q7 g a)
def CT(g:Nat):bG:=(191,[(Ex g)])::(CS g)
theorem On(g:Nat)(a:eW g):bX Tryz.prog (CT g):=bX.add (Ol g a) dC (bL (Q8 g a))
theorem Oo(g:Nat):cO (CT g):=cO.add (Om g) (bL (λx=>aU λh=>⟨(x.1,0),bp _,Int.lt_of_lt_of_le (by show @nJ Int _ x.1 (x.1+13);omega) h.2.2⟩))
def Hn(g:Nat):cx:=⟨[sO 0 0,sI 1,sI 2,fG g 3],[nk]⟩
def Ey(g:Nat):Ct:=⟨4,Hn g,QW,λ(a,b,l,_)=>fJ (gA l/\mW l a b) (eu l) λy=>(y,())⟩
def a5u(g:Nat):cx:=⟨[sO 0 0,sI 1,sI 2,fG g 3,sI 8,sI 9],[nk]⟩
def Mw(l0:List Op)(i j:Int)(l:List Op):Prop:=eu l0 l/\0<=i/\j<l0.length
def a5v(g:Nat)(x:(Ey g).inp.den):eH:=⟨[(2,bS (a5u g) (λ(_,_,i,j,l,_)=>Mw x.2.2.1 i j l) λ(_,_,i,j,_)=>(@bO Int Int Int _ j i).toNat)],[],[],[],0⟩
abbrev Ho(g:Nat)(v:List Op×Unit):cF ((Ey g)).out:=⟨0,v⟩
theorem Q9(g:Nat)(n:eW g):il Tryz.prog (CT g) 192 (Ey g) (a5v g):=by
 refine oE (∀(f e:Int)(d:List Op)(Q:cF (Ey g).out->Prop),(Tr.need (gA d/\mW d f e) (Tr.all (List Op) (eu d) λy=>Tr.leaf (Ho g (y,())))).sat Q->am (e-1)/\Is (Mw d f (e-1) d)/\∀(h i a b:Int)(c:List Op),let z:=c.set a.toNat (gD c b zO);Mw d a b c->Bd (a<b) (iN b c/\iN a c/\iN a c/\(0<=b/\b<(↑z.length:Int))/\am (a+1)/\am (b-1)/\Is (Mw d (a+1) (b-1) (z.set b.toNat (gD c a zO))/\lN (b-1-(a+1)) (b-a))) (Q (Ho g (c,())))) ?_ (by rcases n with rfl|rfl<;>kernel_rfl)
 conv=>zeta
 unfold Bd gD iN lN zO;rintro a b l Q ⟨⟨h,o,s,t⟩,p⟩;have q:∀y,eu l y->Q ⟨0,(y,())⟩:=p;have u:=h.1;refine⟨cv,⟨cP l,o,ac⟩,?_⟩;rintro v w i j m ⟨f,x,A⟩;have e:=f.1;refine⟨λc=>?_,λ_=>q _ f⟩;have c:=af c;have r:=ee (z:=oZ) f (i:=i.toNat) (j:=j.toNat) ac ac;refine⟨ac,ac,ac,by rw[cI];omega,cv,cv,⟨r,ac,ac⟩,ac⟩
theorem Ra(g:Nat)(a:eW g):bW Tryz.prog 192 (Ey g):=dH (On g a) (Oo g) tS dC (Q9 g a)
def CU(g:Nat):bG:=(192,[(Ey g)])::(CT g)
theorem Oq(g:Nat)(a:eW g):bX Tryz.prog (CU g):=bX.add (On g a) dC (bL (Ra g a))
theorem Ot(g:Nat):cO (CU g):=cO.add (Oo g) (bL (λx=>aU λ_=>⟨_,cP _⟩))
def Hp(c e:Int)(l0:List Op)(a b i:Int)(l:List Op):Prop:=a=c/\b=e/\eu l0 l/\c<i
def Hq(c f e:Int)(l0:List Op)(a b i j:Int)(l:List Op):Prop:=a=c/\b=f/\i=e/\eu l0 l/\c<=j/\j<=e
def Ez(g:Nat):Ct:=⟨4,Hn g,QW,λ(a,b,l,_)=>fJ (gA l/\mW l a b) (eu l) λy=>(y,())⟩
def a5w(g:Nat)(x:(Ez g).inp.den):eH:=⟨[(1,pW ⟨[sO 0 0,sI 1,sI 2,fG g 3,sI 8],[nk]⟩ (λ(a,b,i,l,_)=>Hp x.1 x.2.1 x.2.2.1 a b i l) (λ(_,b,i,_)=>(@bO Int Int Int _ b i).toNat)
 λ(_,_,c,_)=>[(4,bS ⟨[sO 0 0,sI 1,sI 2,fG g 3,sI 8,sI 9],[nk]⟩ (λ(a,b,i,j,l,_)=>Hq x.1 x.2.1 c x.2.2.1 a b i j l) (λ(a,_,_,j,_)=>(@bO Int Int Int _ j a).toNat))])],[],[],[],0⟩
abbrev Hr(g:Nat)(v:List Op×Unit):cF ((Ez g)).out:=⟨0,v⟩
theorem Rb(g:Nat)(r:eW g):il Tryz.prog (CU g) 188 (Ez g) (a5w g):=by
 refine oE (∀(e i:Int)(f:List Op)(Q:cF (Ez g).out->Prop),(Tr.need (gA f/\mW f e i) (Tr.all (List Op) (eu f) λy=>Tr.leaf (Hr g (y,())))).sat Q->am (e+1)/\Is (Hp e i f e i (e+1) f)/\∀(n k h:Int)(m:List Op),Hp e i f n k h m->Bd (h<k) (Is (Hq e i h f n k h h m)/\∀(c l j a:Int)(d:List Op),let o:=d.set a.toNat (gD d (a-1) zO);let z:=am (j+1)/\Is (Hp e i f c l (j+1) d/\lN (l-(j+1)) (k-h));Hq e i h f c l j a d->Bd (c<a) (oa (c<a) (iN a d/\oX (c<a) (am (a-1)/\decide (c<a)=true/\iN (a-1) d/\mP (c<a) ((dw (gD d a zO)/\dw (gD d (a-1) zO))/\∀(b:Int),True->mP (c<a) (Bd (b<0) (am (a-1)/\am (a-1)/\iN (a-1) d/\iN a d/\iN a d/\(0<=a-1/\a-1<(↑o.length:Int))/\am (a-1)/\Is (Hq e i h f c l j (a-1) (o.set (a-1).toNat (gD d a zO))/\lN (a-1-c) (a-c))) z))))) (rh (c<a) (tT (c<a) z))) (Q (Hr g (m,())))) ?_ (by rcases r with rfl|rfl<;>kernel_rfl)
 conv=>zeta
 unfold Bd gD iN lN zO rh tT oX oa zL mP;rintro a b l Q ⟨⟨h,w,x,z⟩,o⟩;have s:∀y,eu l y->Q ⟨0,(y,())⟩:=o;have A:=h.1;refine⟨cv,⟨⟨rfl,rfl,cP l,ac⟩⟩,?_⟩;rintro B C i m ⟨rfl,rfl,f,D⟩;have e:=f.1;refine⟨λc=>?_,λ_=>s _ f⟩;have c:=af c;refine⟨⟨⟨rfl,rfl,rfl,f,ac,bp _⟩⟩,?_⟩;rintro t u E j p ⟨rfl,rfl,rfl,q,F,G⟩;have H:=q.1;have hB:∀n,n<p.length->dw (p.getD n oZ):=λn v=>(iC h q).2 _ (aV v);clear o
 (repeat' (first|assumption|with_reducible apply ck|intro _))<;>(try simp only[ai,aj,aS,aC,ne_eq,aR,aN,cm,bR]at*)<;>(try simp only[cI])<;>first
  |assumption
  |(unfold am;omega)
  |omega
  |exact hB _ ac
  |exact hB2 _ ac
  |exact ee ‹eu _ _› ac ac
  |(exfalso;omega)
  |(refine⟨?_⟩;(try unfold Hp);(try unfold Hq);(repeat' with_reducible apply ck)<;>first|assumption|rfl|omega|exact .inl ac|exact .inr ac|(simp only[cI];omega)|exact ee ‹eu _ _› ac ac)
theorem Rc(g:Nat)(a:eW g):bW Tryz.prog 188 (Ez g):=dH (Oq g a) (Ot g) tS dC (Rb g a)
def CV(g:Nat):bG:=(188,[(Ez g)])::(CU g)
theorem Ou(g:Nat)(a:eW g):bX Tryz.prog (CV g):=bX.add (Oq g a) dC (bL (Rc g a))
theorem Ov(g:Nat):cO (CV g):=cO.add (Ot g) (bL (λx=>aU λ_=>⟨_,cP _⟩))
def EA(b h0 a:Int)(l0:List Op)(h f r:Int)(l:List Op):Prop:=h=h0/\f=a/\eu l0 l/\0<=r/\r<=1000000
def EB(g:Nat):Ct:=⟨5,⟨[sO 0 0,sI 1,sI 2,sI 3,fG g 4],[nk]⟩,QW,λ(r,h,f,l,_)=>fJ (gA l/\0<=r/\r<=100000/\0<=h/\0<=f/\@aX Int _ (@fA Int Int Int _ f h) l.length) (eu l) λy=>(y,())⟩
def a5x(g:Nat)(x:(EB g).inp.den):eH:=⟨[(1,bS ⟨[sO 0 0,sI 2,sI 3,fG g 4,sI 10],[nk]⟩ (λ(h,f,r,l,_)=>EA x.1 x.2.1 x.2.2.1 x.2.2.2.1 h f r l) (λ(_,_,r,_)=>(2000000-r).toNat))],[],[],[],0⟩
abbrev Hs(g:Nat)(v:List Op×Unit):cF ((EB g)).out:=⟨0,v⟩
theorem Re(g:Nat)(e:eW g):il Tryz.prog (CV g) 209 (EB g) (a5x g):=by
 refine oE (∀(h i j:Int)(f:List Op)(Q:cF (EB g).out->Prop),(Tr.need (gA f/\0<=h/\h<=100000/\0<=i/\0<=j/\j+i<=nI f) (Tr.all (List Op) (eu f) λy=>Tr.leaf (Hs g (y,())))).sat Q->Is (EA h i j f i j h f)/\∀(e c a:Int)(d:List Op),let p:=c+(2*a+1)+1;let n:=Hs g (d,());let o:=gD d (c+a) zO;let l:=2*a+1+1;let q:=d.set (c+a).toNat (gD d (c+l) zO);let m:=c+(2*a+1);let r:=dw o/\dw (gD d m zO);let s:=d.set (c+a).toNat (gD d m zO);let t:=am (c+a)/\am m/\am m/\(iN m d)/\am (c+a)/\iN (c+a) d/\iN (c+a) d/\(0<=c+(2*a+1)/\c+(2*a+1)<(↑s.length:Int))/\Is (EA h i j f e c (2*a+1) (s.set m.toNat o)/\lN (2000000-(2*a+1)) (2000000-a));let z:=2*a+1+1<e;EA h i j f e c a d->am (2*a)/\am (2*a+1)/\Bd (e<=2*a+1) (Q n) (am l/\Br (decide z) (decide z=true/\decide z=true/\decide z=true/\decide z=true/\am m/\decide z=true/\(iN m d)/\decide z=true/\decide z=true/\decide z=true/\decide z=true/\decide z=true/\am m/\decide z=true/\am p/\decide z=true/\(iN p d)/\decide z=true/\decide z=true/\(dw (gD d m zO)/\dw (gD d p zO))/\∀(b:Int),True->decide z=true/\decide z=true/\Bd (b<0) (am l/\am (c+a)/\iN (c+a) d/\am (c+l)/\(iN (c+l) d)/\(dw o/\dw (gD d (c+l) zO))/\∀(b:Int),True->Br (!decide (b<0)) (Q n) (am (c+a)/\am (c+l)/\am (c+l)/\(iN (c+l) d)/\am (c+a)/\iN (c+a) d/\iN (c+a) d/\(0<=c+l/\c+l<(↑q.length:Int))/\Is (EA h i j f e c l (q.set (c+l).toNat o)/\lN (2000000-l) (2000000-a)))) (am (c+a)/\iN (c+a) d/\am m/\(iN m d)/\r/\∀(b:Int),True->Br (!decide (b<0)) (Q n) t)) (decide z=false/\decide z=false/\decide z=false/\decide z=false/\decide z=false/\decide z=false/\decide z=false/\decide z=false/\decide z=false/\decide z=false/\decide z=false/\decide z=false/\decide z=false/\decide z=false/\decide z=false/\decide z=false/\am (c+a)/\iN (c+a) d/\am m/\(iN m d)/\r/\∀(b:Int),True->Br (!decide (b<0)) (Q n) t))) ?_ (by rcases e with rfl|rfl<;>kernel_rfl)
 conv=>zeta
 unfold Bd Br gD iN lN nI zO;rintro r h f l Q ⟨⟨b,o,p,q,s,t⟩,c⟩;have i:∀y,eu l y->Q ⟨0,(y,())⟩:=c;have u:=b.1;refine⟨⟨⟨rfl,rfl,cP l,ac,ac⟩⟩,?_⟩;rintro v w x m ⟨rfl,rfl,a,z,A⟩;have B:=a.1;have hB:∀n,n<m.length->dw (m.getD n oZ):=λn j=>(iC b a).2 _ (aV j);clear c
 (repeat' (first|assumption|with_reducible apply ck|intro _))<;>(try simp only[ai,aj,aS,aC,ne_eq,aR,aN,cm,bR]at*)<;>(try simp only[cI])<;>first
  |assumption
  |(unfold am;omega)
  |omega
  |exact hB _ ac
  |exact hB2 _ ac
  |exact ee ‹eu _ _› ac ac
  |exact i _ a
  |(exfalso;omega)
  |(refine⟨?_⟩;(try unfold EA);(repeat' with_reducible apply ck)<;>first|assumption|rfl|omega|exact .inl ac|exact .inr ac|(simp only[cI];omega)|exact ee ‹eu _ _› ac ac)
theorem Rf(g:Nat)(a:eW g):bW Tryz.prog 209 (EB g):=dH (Ou g a) (Ov g) tS dC (Re g a)
def CW(g:Nat):bG:=(209,[(EB g)])::(CV g)
theorem Ow(g:Nat)(a:eW g):bX Tryz.prog (CW g):=bX.add (Ou g a) dC (bL (Rf g a))
theorem Ox(g:Nat):cO (CW g):=cO.add (Ov g) (bL (λx=>aU λ_=>⟨_,cP _⟩))
def Mx(b c:Int)(l0:List Op)(a lo h i:Int)(l:List Op):Prop:=a=b/\lo=0/\h=c-b/\eu l0 l/\i<100000/\-2<i
def My(b c:Int)(l0:List Op)(a lo i:Int)(l:List Op):Prop:=a=b/\lo=0/\eu l0 l/\i<c-b/\-2<i
def EC(g:Nat):Ct:=⟨4,Hn g,QW,λ(a,b,l,_)=>fJ (gA l/\mW l a b) (eu l) λy=>(y,())⟩
def a5y(g:Nat)(x:(EC g).inp.den):eH:=⟨[(4,bS ⟨[sO 0 0,fG g 3,sI 8,sI 9,sI 10,sI 11],[nk]⟩ (λ(a,b,h,i,l,_)=>Mx x.1 x.2.1 x.2.2.1 a b h i l) (λ(_,_,_,i,_)=>(i+1).toNat)),
 (8,bS ⟨[sO 0 0,fG g 3,sI 8,sI 9,sI 12],[nk]⟩ (λ(a,b,i,l,_)=>My x.1 x.2.1 x.2.2.1 a b i l) (λ(_,_,i,_)=>(i+1).toNat))],[],[],[],0⟩
abbrev Ht(g:Nat)(v:List Op×Unit):cF ((EC g)).out:=⟨0,v⟩
theorem Rg(g:Nat)(x:eW g):il Tryz.prog (CW g) 189 (EC g) (a5y g):=by
 refine oE (∀(e f:Int)(h:List Op)(Q:cF (EC g).out->Prop),(Tr.need (gA h/\mW h e f) (Tr.all (List Op) (eu h) λy=>Tr.leaf (Ht g (y,())))).sat Q->am (f-e)/\am (f-e-1)/\Is (Mx e f h e 0 (f-e) (IntKind.i64.wrap ((f-e-1).tdiv 2)) h)/\∀(k n j i:Int)(l:List Op),Mx e f h k n j i l->Bd (0<=i) ((gA l/\0<=i/\i<=100000/\0<=j/\0<=k/\k+j<=nI l)/\∀(b:List Op),eu l b->am (i-1)/\Is (Mx e f h k n j (i-1) b/\lN (i-1+1) (i+1))) (am (j-1)/\Is (My e f h k n (j-1) l)/\∀(a m c:Int)(d:List Op),let o:=d.set a.toNat (gD d (a+c) zO);let z:=o.set (a+c).toNat (gD d a zO);My e f h a m c d->Bd (0<=c) (am (a+c)/\am (a+c)/\iN (a+c) d/\iN a d/\iN a d/\(0<=a+c/\a+c<(↑o.length:Int))/\(gA z/\0<=m/\m<=100000/\0<=c/\0<=a/\a+c<=(↑z.length:Int))/\∀(b:List Op),eu z b->am (c-1)/\Is (My e f h a m (c-1) b/\lN (c-1+1) (c+1))) (Q (Ht g (d,()))))) ?_ (by rcases x with rfl|rfl<;>kernel_rfl)
 conv=>zeta
 unfold Bd gD iN lN nI zO;rintro a b l Q ⟨⟨h,D,E,F⟩,s⟩;have A:∀y,eu l y->Q ⟨0,(y,())⟩:=s;have G:=h.1;clear s
 have o:IntKind.i64.wrap ((b-a-1).tdiv 2)=(b-a-1).tdiv 2:=by
  rw[dK];rcases Int.lt_or_le (b-a-1) 0 with q|q
  ·rw[show b-a-1= -1 by omega];rfl
  ·rw[Int.tdiv_eq_ediv_of_nonneg q];omega
 have p:(b-a-1).tdiv 2<100000/\-2<(b-a-1).tdiv 2:=by
  rcases Int.lt_or_le (b-a-1) 0 with q|q
  ·rw[show b-a-1= -1 by omega];decide
  ·rw[Int.tdiv_eq_ediv_of_nonneg q];omega
 refine⟨cv,cv,⟨⟨rfl,rfl,rfl,cP l,by rw[o];exact p.1,by rw[o];exact p.2⟩⟩,?_⟩;clear o p;rintro H J K i m ⟨rfl,rfl,rfl,f,t,u⟩;have e:=f.1;have v:=iC h f;refine⟨λc=>?_,λc=>⟨cv,⟨⟨rfl,rfl,f,ac,ac⟩⟩,?_⟩⟩
 ·have c:=af c;refine⟨⟨v,ac,ac,ac,ac,ac⟩,λy r=>⟨cv,⟨⟨rfl,rfl,rfl,eI f r,ac,ac⟩,ac⟩⟩⟩
 ·clear c v e f t u;rintro w B C L ⟨rfl,rfl,f,t,u⟩;have e:=f.1;refine⟨λc=>?_,λc=>A _ f⟩;have c:=af c;have n:=ee (z:=oZ) (i:=w.toNat) (j:=(w+C).toNat) f ac ac;refine⟨cv,cv,ac,ac,ac,by rw[cI];omega,⟨iC h n,ac,ac,ac,ac,by rw[cI,cI];omega⟩,λy r=>⟨cv,⟨⟨rfl,rfl,eI n r,ac,ac⟩,ac⟩⟩⟩
theorem Rh(g:Nat)(a:eW g):bW Tryz.prog 189 (EC g):=dH (Ow g a) (Ox g) tS dC (Rg g a)
def CX(g:Nat):bG:=(189,[(EC g)])::(CW g)
theorem Oy(g:Nat)(a:eW g):bX Tryz.prog (CX g):=bX.add (Ow g a) dC (bL (Rh g a))
theorem Oz(g:Nat):cO (CX g):=cO.add (Ox g) (bL (λx=>aU λ_=>⟨_,cP _⟩))
theorem YM(h:gA l)(g:eu l m)(hi:i<l.length):dw (m.getD i oZ):=(iC h g).2 _ (aV (by rw[g.1];exact hi))
def pp(c e:Int)(l0:List Op)(a b i j:Int)(l:List Op):Prop:=eu l0 l/\(a=c/\b=e/\c<i/\(i<=e\/i=c+1)/\0<=j/\j<=5)
def vr(c e:Int)(l0:List Op)(f a b i j:Int)(l:List Op):Prop:=eu l0 l/\(a=c/\b=e/\c<i/\(i<=e\/i=c+1)/\j=f)
def qF(c e:Int)(l0:List Op)(f a b i j k:Int)(l:List Op):Prop:=eu l0 l/\(a=c/\b=e/\c<i/\i<e/\j=f/\k<i)
def gM(c e:Int)(l0:List Op)(f a b i j k:Int)(l:List Op):Prop:=eu l0 l/\(a=c/\b=e/\c<i/\i<e/\j=f/\i<k)
def ED(g:Nat):Ct:=⟨4,Hn g,[⟨[sL 0],[nk]⟩],λ(a,b,l,_)=>fJ (gA l/\mW l a b) (λy:Bool×List Op=>eu l y.2) λy=>(y.1,y.2,())⟩
def a5z(g:Nat)(x:(ED g).inp.den):eH:=⟨[(3,pW ⟨[sO 0 0,sI 1,sI 2,fG g 3,sI 9,sI 10],[nk]⟩ (λ(a,b,i,j,l,_)=>pp x.1 x.2.1 x.2.2.1 a b i j l) (λ(_,_,_,j,_)=>(@bO Int Int Int _ 5 j).toNat)
 λ(_,_,_,c,_)=>[
  (5,bS ⟨[sO 0 0,sI 1,sI 2,fG g 3,sI 9,sI 10],[nk]⟩ (λ(a,b,i,j,l,_)=>vr x.1 x.2.1 x.2.2.1 c a b i j l) (λ(_,b,i,_)=>(@bO Int Int Int _ b i).toNat)),
  (14,bS ⟨[sO 0 0,sI 1,sI 2,fG g 3,sI 9,sI 10,sI 11],[nk]⟩ (λ(a,b,i,j,k,l,_)=>qF x.1 x.2.1 x.2.2.1 c a b i j k l) (λ(_,_,_,_,k,_)=>k.toNat)),
  (20,bS ⟨[sO 0 0,sI 1,sI 2,fG g 3,sI 9,sI 10,sI 12],[nk]⟩ (λ(a,b,i,j,k,l,_)=>gM x.1 x.2.1 x.2.2.1 c a b i j k l) (λ(_,b,_,_,k,_)=>(@bO Int Int Int _ b k).toNat))])],[],[],[],0⟩
abbrev wH(g:Nat)(v:Bool×List Op×Unit):cF ((ED g)).out:=⟨0,v⟩
theorem Ri(g:Nat)(j:eW g):il Tryz.prog (CX g) 193 (ED g) (a5z g):=by
 refine oE (∀(i k:Int)(j:List Op)(Q:cF (ED g).out->Prop),(Tr.need (gA j/\mW j i k) (Tr.all (Bool×List Op) (λy=>eu j y.2) λy=>Tr.leaf (wH g (y.1,y.2,())))).sat Q->am (i+1)/\Is (pp i k j i k (i+1) 0 j)/\∀(U W X l:Int)(z:List Op),pp i k j U W X l z->Bd (l<5) (Is (vr i k j l U W X l z)/\∀(t h d w:Int)(p:List Op),let x:=p.set d.toNat (gD p (d-1) zO);let A:=(d==h)=true->Q (wH g (true,p,()));let B:=decide (h-t<50)=true->Q (wH g (false,p,()));let C:=0<=d-1/\d-1<(↑x.length:Int);let S:=x.set (d-1).toNat (gD p d zO);let D:=gM i k j l t h d w (d+1) S;let E:=qF i k j l t h d w (d-1) S;let Y:=decide (2<=h-d)=false->am (w+1)/\Is (pp i k j t h d (w+1) S/\lN (5-(w+1)) (5-l));vr i k j l t h d w p->Bd (d<h) (oa (d<h) (iN d p/\oX (d<h) (am (d-1)/\decide (d<h)=true/\iN (d-1) p/\mP (d<h) ((dw (gD p d zO)/\dw (gD p (d-1) zO))/\∀(b:Int),True->oa (d<h) (Br (!decide (b<0)) (am (d+1)/\Is (vr i k j l t h (d+1) w p/\lN (h-(d+1)) (h-d))) (A/\((d==h)=false->am (h-t)/\B/\(decide (h-t<50)=false->am (d-1)/\am (d-1)/\iN (d-1) p/\iN d p/\iN d p/\C/\am (d-t)/\Bd (2<=d-t) (am (d-1)/\Is E/\∀(s m n o a:Int)(e:List Op),let F:=e.set a.toNat (gD e (a-1) zO);let G:=gM i k j l s m n o (n+1) e;let z3:=decide (2<=m-n)=false->am (o+1)/\Is (pp i k j s m n (o+1) e/\lN (5-(o+1)) (5-l));qF i k j l s m n o a e->Bd (1<=a) (iN a e/\am (a-1)/\iN (a-1) e/\(dw (gD e a zO)/\dw (gD e (a-1) zO))/\∀(b:Int),True->Br (!decide (b<0)) (am (m-n)/\(decide (2<=m-n)=true->am (n+1)/\Is G/\∀(u q v r c:Int)(f:List Op),let H:=f.set c.toNat (gD f (c-1) zO);let z5:=am (r+1)/\Is (pp i k j u q v (r+1) f/\lN (5-(r+1)) (5-l));gM i k j l u q v r c f->Bd (c<q) (iN c f/\am (c-1)/\iN (c-1) f/\(dw (gD f c zO)/\dw (gD f (c-1) zO))/\∀(b:Int),True->Br (!decide (b<0)) z5 (am (c-1)/\am (c-1)/\iN (c-1) f/\iN c f/\iN c f/\(0<=c-1/\c-1<(↑H.length:Int))/\am (c+1)/\Is (gM i k j l u q v r (c+1) (H.set (c-1).toNat (gD f c zO))/\lN (q-(c+1)) (q-c)))) z5)/\z3) (am (a-1)/\am (a-1)/\iN (a-1) e/\iN a e/\iN a e/\(0<=a-1/\a-1<(↑F.length:Int))/\am (a-1)/\Is (qF i k j l s m n o (a-1) (F.set (a-1).toNat (gD e a zO))/\(a-1).toNat<a.toNat))) (am (m-n)/\(decide (2<=m-n)=true->am (n+1)/\Is G/\∀(u q v r c:Int)(f:List Op),let J:=f.set c.toNat (gD f (c-1) zO);let z6:=am (r+1)/\Is (pp i k j u q v (r+1) f/\lN (5-(r+1)) (5-l));gM i k j l u q v r c f->Bd (c<q) (iN c f/\am (c-1)/\iN (c-1) f/\(dw (gD f c zO)/\dw (gD f (c-1) zO))/\∀(b:Int),True->Br (!decide (b<0)) z6 (am (c-1)/\am (c-1)/\iN (c-1) f/\iN c f/\iN c f/\(0<=c-1/\c-1<(↑J.length:Int))/\am (c+1)/\Is (gM i k j l u q v r (c+1) (J.set (c-1).toNat (gD f c zO))/\lN (q-(c+1)) (q-c)))) z6)/\z3)) (am (h-d)/\(decide (2<=h-d)=true->am (d+1)/\Is D/\∀(s m n o a:Int)(e:List Op),let K:=e.set a.toNat (gD e (a-1) zO);let z7:=am (o+1)/\Is (pp i k j s m n (o+1) e/\lN (5-(o+1)) (5-l));gM i k j l s m n o a e->Bd (a<m) (iN a e/\am (a-1)/\iN (a-1) e/\(dw (gD e a zO)/\dw (gD e (a-1) zO))/\∀(b:Int),True->Br (!decide (b<0)) z7 (am (a-1)/\am (a-1)/\iN (a-1) e/\iN a e/\iN a e/\(0<=a-1/\a-1<(↑K.length:Int))/\am (a+1)/\Is (gM i k j l s m n o (a+1) (K.set (a-1).toNat (gD e a zO))/\lN (m-(a+1)) (m-a)))) z7)/\Y))))))))) (rh (d<h) (tT (d<h) (decide (d<h)=false/\A/\((d==h)=false->am (h-t)/\B/\(decide (h-t<50)=false->am (d-1)/\am (d-1)/\iN (d-1) p/\iN d p/\iN d p/\C/\am (d-t)/\Bd (2<=d-t) (am (d-1)/\Is E/\∀(s m n o a:Int)(e:List Op),let L:=e.set a.toNat (gD e (a-1) zO);let M:=gM i k j l s m n o (n+1) e;let z4:=decide (2<=m-n)=false->am (o+1)/\Is (pp i k j s m n (o+1) e/\lN (5-(o+1)) (5-l));qF i k j l s m n o a e->Bd (1<=a) (iN a e/\am (a-1)/\iN (a-1) e/\(dw (gD e a zO)/\dw (gD e (a-1) zO))/\∀(b:Int),True->Br (!decide (b<0)) (am (m-n)/\(decide (2<=m-n)=true->am (n+1)/\Is M/\∀(u q v r c:Int)(f:List Op),let N:=f.set c.toNat (gD f (c-1) zO);let z8:=am (r+1)/\Is (pp i k j u q v (r+1) f/\lN (5-(r+1)) (5-l));gM i k j l u q v r c f->Bd (c<q) (iN c f/\am (c-1)/\iN (c-1) f/\(dw (gD f c zO)/\dw (gD f (c-1) zO))/\∀(b:Int),True->Br (!decide (b<0)) z8 (am (c-1)/\am (c-1)/\iN (c-1) f/\iN c f/\iN c f/\(0<=c-1/\c-1<(↑N.length:Int))/\am (c+1)/\Is (gM i k j l u q v r (c+1) (N.set (c-1).toNat (gD f c zO))/\lN (q-(c+1)) (q-c)))) z8)/\z4) (am (a-1)/\am (a-1)/\iN (a-1) e/\iN a e/\iN a e/\(0<=a-1/\a-1<(↑L.length:Int))/\am (a-1)/\Is (qF i k j l s m n o (a-1) (L.set (a-1).toNat (gD e a zO))/\(a-1).toNat<a.toNat))) (am (m-n)/\(decide (2<=m-n)=true->am (n+1)/\Is M/\∀(u q v r c:Int)(f:List Op),let O:=f.set c.toNat (gD f (c-1) zO);let z9:=am (r+1)/\Is (pp i k j u q v (r+1) f/\lN (5-(r+1)) (5-l));gM i k j l u q v r c f->Bd (c<q) (iN c f/\am (c-1)/\iN (c-1) f/\(dw (gD f c zO)/\dw (gD f (c-1) zO))/\∀(b:Int),True->Br (!decide (b<0)) z9 (am (c-1)/\am (c-1)/\iN (c-1) f/\iN c f/\iN c f/\(0<=c-1/\c-1<(↑O.length:Int))/\am (c+1)/\Is (gM i k j l u q v r (c+1) (O.set (c-1).toNat (gD f c zO))/\lN (q-(c+1)) (q-c)))) z9)/\z4)) (am (h-d)/\(decide (2<=h-d)=true->am (d+1)/\Is D/\∀(s m n o a:Int)(e:List Op),let P:=e.set a.toNat (gD e (a-1) zO);let R:=am (o+1)/\Is (pp i k j s m n (o+1) e/\lN (5-(o+1)) (5-l));gM i k j l s m n o a e->Bd (a<m) (iN a e/\am (a-1)/\iN (a-1) e/\(dw (gD e a zO)/\dw (gD e (a-1) zO))/\∀(b:Int),True->Br (!decide (b<0)) R (am (a-1)/\am (a-1)/\iN (a-1) e/\iN a e/\iN a e/\(0<=a-1/\a-1<(↑P.length:Int))/\am (a+1)/\Is (gM i k j l s m n o (a+1) (P.set (a-1).toNat (gD e a zO))/\lN (m-(a+1)) (m-a)))) R)/\Y))))))) (Q (wH g (false,z,())))) ?_ (by rcases j with rfl|rfl<;>kernel_rfl)
 conv=>zeta
 unfold Bd Br gD iN lN zO rh tT oX oa zL mP;rintro a b l Q ⟨⟨f,o,p,q⟩,i⟩;have m:∀(c:Bool)(y:List Op),eu l y->Q ⟨0,(c,y,())⟩:=λc y n=>i (c,y) n;have r:=f.1;have s:=cP l;clear i
 (repeat' (first|assumption|with_reducible apply ck|(intro h;unfold pp at h;obtain⟨g,k⟩:=h;have e:=g.1)|(intro h;unfold vr at h;obtain⟨g,k⟩:=h;have e:=g.1)|(intro h;unfold qF at h;obtain⟨g,k⟩:=h;have e:=g.1)|(intro h;unfold gM at h;obtain⟨g,k⟩:=h;have e:=g.1)|intro _))<;>(try simp only[ai]at*)<;>(try simp only[aj]at*)<;>(try simp only[aS]at*)<;>(try simp only[aC]at*)<;>(try simp only[ne_eq]at*)<;>(try simp only[aR]at*)<;>(try simp only[aN]at*)<;>(try simp only[cm]at*)<;>(try simp only[bR]at*)<;>(try simp only[cI])<;>first
  |assumption
  |(unfold am;omega)
  |omega
  |exact YM f ‹eu _ _› ac
  |exact ee ‹eu _ _› ac ac
  |exact m _ _ ‹eu _ _›
  |(exfalso;omega)
  |(refine⟨?_⟩;(try with_reducible apply ck)<;>(try first|unfold pp|unfold vr|unfold qF|unfold gM)<;>(first|omega|(refine ck ?_ ?_<;>first|assumption|omega|exact ee ‹eu _ _› ac ac|exact cP _)))
theorem Rj(g:Nat)(a:eW g):bW Tryz.prog 193 (ED g):=dH (Oy g a) (Oz g) tS dC (Ri g a)
def zf(g:Nat):bG:=(193,[(ED g)])::(CX g)
theorem Hu(g:Nat)(a:eW g):bX Tryz.prog (zf g):=bX.add (Oy g a) dC (bL (Rj g a))
theorem Hw(g:Nat):cO (zf g):=cO.add (Oz g) (bL (λx=>aU λ_=>⟨(false,_),cP _⟩))
def Rk(g:Nat):cx:=⟨[sO 0 0,sI 1,sI 2,sI 3,fG g 4],[nk]⟩
def fy(b c:Int)(l0:List Op)(a i j:Int)(l:List Op):Prop:=eu l0 l/\(a=b/\b<i/\i<=c/\b<=j/\j<c)
def dV(b c e f:Int)(l0:List Op)(a i j:Int)(l:List Op):Prop:=eu l0 l/\(a=b/\b<i/\i<=c/\b<=j/\j<c/\e<=i/\j<=f)
def EE(g:Nat):Ct:=⟨5,Rk g,[⟨[sI 0],[nk]⟩],λ(a,b,p,l,_)=>fJ (gA l/\mW l a b/\@aX Int _ a p/\@nJ Int _ p b) (λy:Int×List Op=>eu l y.2/\@nJ Int _ a y.1/\@aX Int _ y.1 b) λy=>(y.1,y.2,())⟩
def Rm(g:Nat):cx:=⟨[sO 0 0,sI 1,fG g 4,sI 11,sI 12],[nk]⟩
def a50(g:Nat)(x:(EE g).inp.den):eH:=⟨[(3,pW (Rm g) (λ(a,i,j,l,_)=>fy x.1 x.2.1 x.2.2.2.1 a i j l) (λ(_,i,j,_)=>(@fA Int Int Int _ (@bO Int Int Int _ j i) 3).toNat)
 λ(_,b,c,_)=>[
  (3,bS (Rm g) (λ(a,i,j,l,_)=>dV x.1 x.2.1 b c x.2.2.2.1 a i j l) (λ(_,i,j,_)=>(@fA Int Int Int _ (@bO Int Int Int _ j i) 3).toNat)),
  (5,bS (Rm g) (λ(a,i,j,l,_)=>dV x.1 x.2.1 b c x.2.2.2.1 a i j l) (λ(_,i,j,_)=>(@fA Int Int Int _ (@bO Int Int Int _ j i) 3).toNat))])],[],[],[],0⟩
abbrev Bb(g:Nat)(v:Int×List Op×Unit):cF ((EE g)).out:=⟨0,v⟩
theorem Rn(g:Nat)(m:eW g):il Tryz.prog (zf g) 194 (EE g) (a50 g):=by
 refine oE (∀(h j n:Int)(i:List Op)(Q:cF (EE g).out->Prop),let s:=i.set h.toNat (gD i n zO);(Tr.need (gA i/\mW i h j/\h<=n/\n<j) (Tr.all (Int×List Op) (λy=>eu i y.2/\h<y.1/\y.1<=j) λy=>Tr.leaf (Bb g (y.1,y.2,())))).sat Q->iN n i/\iN h i/\iN h i/\(0<=n/\n<(↑s.length:Int))/\am (h+1)/\am (j-1)/\Is (fy h j i h (h+1) (j-1) (s.set n.toNat (gD i h zO)))/\∀(q k l:Int)(r:List Op),fy h j i q k l r->Is (dV h j k l i q k l r)/\∀(p e f:Int)(o:List Op),let t:=dV h j k l i p e f o;dV h j k l i p e f o->Bd (e<=f) (oa (e<=f) (iN p o/\oX (e<=f) (iN e o/\mP (e<=f) ((dw (gD o p zO)/\dw (gD o e zO))/\∀(b:Int),True->oa (e<=f) (Br (!decide (b<0)) (am (e+1)/\Is (dV h j k l i p (e+1) f o/\lN (f-(e+1)+3) (f-e+3))) (Is t/\∀(m c a:Int)(d:List Op),let u:=d.set c.toNat (gD d a zO);let z:=Bd (a<c) (Q (Bb g (c,d,()))) (iN a d/\iN c d/\iN c d/\(0<=a/\a<(↑u.length:Int))/\am (c+1)/\am (a-1)/\Is (fy h j i m (c+1) (a-1) (u.set a.toNat (gD d c zO))/\lN (a-1-(c+1)+3) (l-k+3)));dV h j k l i m c a d->Bd (c<=a) (oa (c<=a) (iN m d/\oX (c<=a) (iN a d/\mP (c<=a) ((dw (gD d m zO)/\dw (gD d a zO))/\∀(b:Int),True->mP (c<=a) (Bd (b<0) (am (a-1)/\Is (dV h j k l i m c (a-1) d/\lN (a-1-c+3) (a-c+3))) z))))) (rh (c<=a) (P0 (c<=a) z)))))))) (rh (e<=f) (tT (e<=f) (Is t/\∀(m c a:Int)(d:List Op),let v:=d.set c.toNat (gD d a zO);let w:=Bd (a<c) (Q (Bb g (c,d,()))) (iN a d/\iN c d/\iN c d/\(0<=a/\a<(↑v.length:Int))/\am (c+1)/\am (a-1)/\Is (fy h j i m (c+1) (a-1) (v.set a.toNat (gD d c zO))/\lN (a-1-(c+1)+3) (l-k+3)));dV h j k l i m c a d->Bd (c<=a) (oa (c<=a) (iN m d/\oX (c<=a) (iN a d/\mP (c<=a) ((dw (gD d m zO)/\dw (gD d a zO))/\∀(b:Int),True->mP (c<=a) (Bd (b<0) (am (a-1)/\Is (dV h j k l i m c (a-1) d/\lN (a-1-c+3) (a-c+3))) w))))) (rh (c<=a) (P0 (c<=a) w)))))) ?_ (by rcases m with rfl|rfl<;>kernel_rfl)
 conv=>zeta
 unfold Bd Br gD iN lN zO rh tT oX P0 oa zL mP;rintro a b p l Q ⟨⟨f,⟨r,s,t⟩,u,v⟩,i⟩;have n:∀(c:Int)(y:List Op),eu l y->a<c->c<=b->Q ⟨0,(c,y,())⟩:=λc y o j q=>i (c,y) ⟨o,j,q⟩;have w:=f.1;have j:=cP l;clear i
 (repeat' (first|assumption|with_reducible apply ck|(intro h;unfold fy at h;obtain⟨g,k⟩:=h;have e:=g.1)|(intro h;unfold dV at h;obtain⟨g,k⟩:=h;have e:=g.1)|intro _))<;>(try simp only[ai]at*)<;>(try simp only[aj]at*)<;>(try simp only[aS]at*)<;>(try simp only[aC]at*)<;>(try simp only[ne_eq]at*)<;>(try simp only[aR]at*)<;>(try simp only[aN]at*)<;>(try simp only[cm]at*)<;>(try simp only[bR]at*)<;>(try simp only[cI])<;>first
  |assumption
  |(unfold am;omega)
  |omega
  |exact YM f ‹eu _ _› ac
  |exact ee ‹eu _ _› ac ac
  |exact n _ _ ‹eu _ _› ac ac
  |(exfalso;omega)
  |(refine⟨?_⟩;(try with_reducible apply ck)<;>(try first|unfold fy|unfold dV)<;>(first|omega|(refine ck ?_ ?_<;>first|assumption|omega|exact ee ‹eu _ _› ac ac|exact cP _)))
theorem Ro(g:Nat)(a:eW g):bW Tryz.prog 194 (EE g):=dH (Hu g a) (Hw g) tS dC (Rn g a)
def CY(g:Nat):bG:=(194,[(EE g)])::(zf g)
theorem OA(g:Nat)(a:eW g):bX Tryz.prog (CY g):=bX.add (Hu g a) dC (bL (Ro g a))
theorem OB(g:Nat):cO (CY g):=cO.add (Hw g) (bL (λx=>aU λh=>⟨(x.2.1,_),cP _,by have:=h.2.2;show @nJ Int _ x.1 x.2.1;have a:@aX Int _ x.1 x.2.2.1:=this.1;have b:@nJ Int _ x.2.2.1 x.2.1:=this.2;omega,bp _⟩))
def EF(g:Nat):Ct:=⟨5,Rk g,[⟨[sI 0,sL 1],[nk]⟩],λ(a,b,p,l,_)=>fJ (gA l/\mW l a b/\@aX Int _ a p/\@nJ Int _ p b) (λy:Int×Bool×List Op=>eu l y.2.2/\@aX Int _ a y.1/\@nJ Int _ y.1 b) λy=>(y.1,y.2.1,y.2.2,())⟩
def EG(g:Nat):cx:=⟨[sO 0 0,sI 1,fG g 4,sI 12,sI 13],[nk]⟩
def a51(g:Nat)(x:(EF g).inp.den):eH:=⟨[(3,bS (EG g) (λ(a,i,j,l,_)=>fy x.1 x.2.1 x.2.2.2.1 a i j l) (λ(_,i,j,_)=>(@fA Int Int Int _ (@bO Int Int Int _ j i) 3).toNat)),(5,bS (EG g) (λ(a,i,j,l,_)=>fy x.1 x.2.1 x.2.2.2.1 a i j l) (λ(_,i,j,_)=>(@fA Int Int Int _ (@bO Int Int Int _ j i) 3).toNat)),
 (13,pW (EG g) (λ(a,i,j,l,_)=>fy x.1 x.2.1 x.2.2.2.1 a i j l) (λ(_,i,j,_)=>(@fA Int Int Int _ (@bO Int Int Int _ j i) 3).toNat)
 λ(_,b,c,_)=>[
  (13,bS (EG g) (λ(a,i,j,l,_)=>dV x.1 x.2.1 b c x.2.2.2.1 a i j l) (λ(_,i,j,_)=>(@fA Int Int Int _ (@bO Int Int Int _ j i) 3).toNat)),
  (15,bS (EG g) (λ(a,i,j,l,_)=>dV x.1 x.2.1 b c x.2.2.2.1 a i j l) (λ(_,i,j,_)=>(@fA Int Int Int _ (@bO Int Int Int _ j i) 3).toNat))])],[(7,bS (EG g) (λ(a,i,j,l,_)=>fy x.1 x.2.1 x.2.2.2.1 a i j l) λ_=>0)],[],[],0⟩
abbrev og(g:Nat)(v:Int×Bool×List Op×Unit):cF ((EF g)).out:=⟨0,v⟩
theorem Rp(g:Nat)(n:eW g):il Tryz.prog (CY g) 195 (EF g) (a51 g):=by
 refine oE (∀(k n v:Int)(l:List Op)(Q:cF (EF g).out->Prop),let M:=l.set k.toNat (gD l v zO);(Tr.need (gA l/\mW l k n/\k<=v/\v<n) (Tr.all (Int×Bool×List Op) (λy=>eu l y.2.2/\k<=y.1/\y.1<n) λy=>Tr.leaf (og g (y.1,y.2.1,y.2.2,())))).sat Q->iN v l/\iN k l/\iN k l/\(0<=v/\v<(↑M.length:Int))/\am (k+1)/\am (n-1)/\Is (fy k n l k (k+1) (n-1) (M.set v.toNat (gD l k zO)))/\∀(z p s:Int)(w:List Op),fy k n l z p s w->Bd (p<=s) (oa (p<=s) (iN p w/\oX (p<=s) (iN z w/\mP (p<=s) ((dw (gD w p zO)/\dw (gD w z zO))/\∀(b:Int),True->mP (p<=s) (Bd (b<0) (am (p+1)/\Is (fy k n l z (p+1) s w/\lN (s-(p+1)+3) (s-p+3))) ((Is (fy k n l z p s w)/\∀(o f e:Int)(m:List Op),fy k n l o f e m->Bd (f<=e) (oa (f<=e) (iN e m/\oX (f<=e) (iN o m/\mP (f<=e) ((dw (gD m e zO)/\dw (gD m o zO))/\∀(b:Int),True->oa (f<=e) (Br (!decide (b<0)) (am (e-1)/\Is (fy k n l o f (e-1) m/\lN (e-1-f+3) (e-f+3))) (Is (fy k n l o f e m))))))) (rh (f<=e) (tT (f<=e) (Is (fy k n l o f e m)))))/\∀(o f e:Int)(m:List Op),let N:=m.set f.toNat (gD m e zO);let O:=m.set e.toNat (gD m o zO);fy k n l o f e m->Bd (e<f) (iN o m/\iN e m/\iN e m/\(0<=o/\o<(↑O.length:Int))/\Q (og g (e,true,O.set o.toNat (gD m e zO),()))) (iN e m/\iN f m/\iN f m/\(0<=e/\e<(↑N.length:Int))/\am (f+1)/\am (e-1)/\Is (fy k n l o (f+1) (e-1) (N.set e.toNat (gD m f zO)))/\∀(x q r:Int)(A:List Op),fy k n l x q r A->Is (dV k n q r l x q r A)/\∀(u i j:Int)(t:List Op),let B:=dV k n q r l u i j t;dV k n q r l u i j t->Bd (i<=j) (oa (i<=j) (iN i t/\oX (i<=j) (iN u t/\mP (i<=j) ((dw (gD t i zO)/\dw (gD t u zO))/\∀(b:Int),True->mP (i<=j) (Bd (b<0) (am (i+1)/\Is (dV k n q r l u (i+1) j t/\lN (j-(i+1)+3) (j-i+3))) (Is B/\∀(h c a:Int)(d:List Op),let P:=d.set c.toNat (gD d a zO);let R:=d.set a.toNat (gD d h zO);let S:=Bd (a<c) (iN h d/\iN a d/\iN a d/\(0<=h/\h<(↑R.length:Int))/\Q (og g (a,false,R.set h.toNat (gD d a zO),()))) (iN a d/\iN c d/\iN c d/\(0<=a/\a<(↑P.length:Int))/\am (c+1)/\am (a-1)/\Is (fy k n l h (c+1) (a-1) (P.set a.toNat (gD d c zO))/\lN (a-1-(c+1)+3) (r-q+3)));dV k n q r l h c a d->Bd (c<=a) (oa (c<=a) (iN a d/\oX (c<=a) (iN h d/\mP (c<=a) ((dw (gD d a zO)/\dw (gD d h zO))/\∀(b:Int),True->oa (c<=a) (Br (!decide (b<0)) (am (a-1)/\Is (dV k n q r l h c (a-1) d/\lN (a-1-c+3) (a-c+3))) S))))) (rh (c<=a) (tT (c<=a) S)))))))) (rh (i<=j) (P0 (i<=j) (Is B/\∀(h c a:Int)(d:List Op),let C:=d.set c.toNat (gD d a zO);let D:=d.set a.toNat (gD d h zO);let U:=Bd (a<c) (iN h d/\iN a d/\iN a d/\(0<=h/\h<(↑D.length:Int))/\Q (og g (a,false,D.set h.toNat (gD d a zO),()))) (iN a d/\iN c d/\iN c d/\(0<=a/\a<(↑C.length:Int))/\am (c+1)/\am (a-1)/\Is (fy k n l h (c+1) (a-1) (C.set a.toNat (gD d c zO))/\lN (a-1-(c+1)+3) (r-q+3)));dV k n q r l h c a d->Bd (c<=a) (oa (c<=a) (iN a d/\oX (c<=a) (iN h d/\mP (c<=a) ((dw (gD d a zO)/\dw (gD d h zO))/\∀(b:Int),True->oa (c<=a) (Br (!decide (b<0)) (am (a-1)/\Is (dV k n q r l h c (a-1) d/\lN (a-1-c+3) (a-c+3))) U))))) (rh (c<=a) (tT (c<=a) U)))))))))))) (rh (p<=s) (P0 (p<=s) ((Is (fy k n l z p s w)/\∀(o f e:Int)(m:List Op),fy k n l o f e m->Bd (f<=e) (oa (f<=e) (iN e m/\oX (f<=e) (iN o m/\mP (f<=e) ((dw (gD m e zO)/\dw (gD m o zO))/\∀(b:Int),True->oa (f<=e) (Br (!decide (b<0)) (am (e-1)/\Is (fy k n l o f (e-1) m/\lN (e-1-f+3) (e-f+3))) (Is (fy k n l o f e m))))))) (rh (f<=e) (tT (f<=e) (Is (fy k n l o f e m)))))/\∀(o f e:Int)(m:List Op),let E:=m.set f.toNat (gD m e zO);let F:=m.set e.toNat (gD m o zO);fy k n l o f e m->Bd (e<f) (iN o m/\iN e m/\iN e m/\(0<=o/\o<(↑F.length:Int))/\Q (og g (e,true,F.set o.toNat (gD m e zO),()))) (iN e m/\iN f m/\iN f m/\(0<=e/\e<(↑E.length:Int))/\am (f+1)/\am (e-1)/\Is (fy k n l o (f+1) (e-1) (E.set e.toNat (gD m f zO)))/\∀(x q r:Int)(A:List Op),fy k n l x q r A->Is (dV k n q r l x q r A)/\∀(u i j:Int)(t:List Op),let G:=dV k n q r l u i j t;dV k n q r l u i j t->Bd (i<=j) (oa (i<=j) (iN i t/\oX (i<=j) (iN u t/\mP (i<=j) ((dw (gD t i zO)/\dw (gD t u zO))/\∀(b:Int),True->mP (i<=j) (Bd (b<0) (am (i+1)/\Is (dV k n q r l u (i+1) j t/\lN (j-(i+1)+3) (j-i+3))) (Is G/\∀(h c a:Int)(d:List Op),let H:=d.set c.toNat (gD d a zO);let J:=d.set a.toNat (gD d h zO);let W:=Bd (a<c) (iN h d/\iN a d/\iN a d/\(0<=h/\h<(↑J.length:Int))/\Q (og g (a,false,J.set h.toNat (gD d a zO),()))) (iN a d/\iN c d/\iN c d/\(0<=a/\a<(↑H.length:Int))/\am (c+1)/\am (a-1)/\Is (fy k n l h (c+1) (a-1) (H.set a.toNat (gD d c zO))/\lN (a-1-(c+1)+3) (r-q+3)));dV k n q r l h c a d->Bd (c<=a) (oa (c<=a) (iN a d/\oX (c<=a) (iN h d/\mP (c<=a) ((dw (gD d a zO)/\dw (gD d h zO))/\∀(b:Int),True->oa (c<=a) (Br (!decide (b<0)) (am (a-1)/\Is (dV k n q r l h c (a-1) d/\lN (a-1-c+3) (a-c+3))) W))))) (rh (c<=a) (tT (c<=a) W)))))))) (rh (i<=j) (P0 (i<=j) (Is G/\∀(h c a:Int)(d:List Op),let K:=d.set c.toNat (gD d a zO);let L:=d.set a.toNat (gD d h zO);let X:=Bd (a<c) (iN h d/\iN a d/\iN a d/\(0<=h/\h<(↑L.length:Int))/\Q (og g (a,false,L.set h.toNat (gD d a zO),()))) (iN a d/\iN c d/\iN c d/\(0<=a/\a<(↑K.length:Int))/\am (c+1)/\am (a-1)/\Is (fy k n l h (c+1) (a-1) (K.set a.toNat (gD d c zO))/\lN (a-1-(c+1)+3) (r-q+3)));dV k n q r l h c a d->Bd (c<=a) (oa (c<=a) (iN a d/\oX (c<=a) (iN h d/\mP (c<=a) ((dw (gD d a zO)/\dw (gD d h zO))/\∀(b:Int),True->oa (c<=a) (Br (!decide (b<0)) (am (a-1)/\Is (dV k n q r l h c (a-1) d/\lN (a-1-c+3) (a-c+3))) X))))) (rh (c<=a) (tT (c<=a) X)))))))))) ?_ (by rcases n with rfl|rfl<;>kernel_rfl)
 conv=>zeta
 unfold Bd Br gD iN lN zO rh tT oX P0 oa zL mP;rintro a b p l Q ⟨⟨f,⟨r,s,t⟩,u,v⟩,i⟩;have j:∀(c:Int)(d:Bool)(y:List Op),eu l y->a<=c->c<b->Q ⟨0,(c,d,y,())⟩:=λc d y o m q=>i (c,d,y) ⟨o,m,q⟩;have w:=f.1;have m:=cP l;clear i
 (repeat' (first|assumption|with_reducible apply ck|(intro h;unfold fy at h;obtain⟨g,k⟩:=h;have e:=g.1)|(intro h;unfold dV at h;obtain⟨g,k⟩:=h;have e:=g.1)|intro _))<;>(try simp only[ai]at*)<;>(try simp only[aj]at*)<;>(try simp only[aS]at*)<;>(try simp only[aC]at*)<;>(try simp only[ne_eq]at*)<;>(try simp only[aR]at*)<;>(try simp only[aN]at*)<;>(try simp only[cm]at*)<;>(try simp only[bR]at*)<;>(try simp only[cI])<;>first
  |assumption
  |(unfold am;omega)
  |omega
  |exact YM f ‹eu _ _› ac
  |exact ee ‹eu _ _› ac ac
  |exact j _ _ _ ‹eu _ _› ac ac
  |exact j _ _ _ (ee ‹eu _ _› ac ac) ac ac
  |(exfalso;omega)
  |(refine⟨?_⟩;(try with_reducible apply ck)<;>(try first|unfold fy|unfold dV)<;>(first|omega|(refine ck ?_ ?_<;>first|assumption|omega|exact ee ‹eu _ _› ac ac|exact cP _)))
theorem Rq(g:Nat)(a:eW g):bW Tryz.prog 195 (EF g):=dH (OA g a) (OB g) tS dC (Rp g a)
def Hy(g:Nat):bG:=(195,[(EF g)])::(CY g)
theorem YN(g:Nat)(a:eW g):bX Tryz.prog (Hy g):=bX.add (OA g a) dC (bL (Rq g a))
theorem YO(g:Nat):cO (Hy g):=cO.add (OB g) (bL (λx=>aU λh=>⟨(x.1,false,_),cP _,bp _,by have:=h.2.2;show @nJ Int _ x.1 x.2.1;have a:@aX Int _ x.1 x.2.2.1:=this.1;have b:@nJ Int _ x.2.2.1 x.2.1:=this.2;omega⟩))
variable{a c n:Int}
theorem wq(h0:0<=n)(a:n<=1000000):IntKind.i64.wrap (n.tdiv 4)=n/4:=by
 rw[Int.tdiv_eq_ediv_of_nonneg h0,dK];omega
theorem a52{x md:BitVec 64}(a:(md.toNat:Int)<=2*n)(b:1<=md.toNat)(c:n<=1000000):0<=IntKind.i64.wrap ((x&&&md-1).toNat:Int)/\IntKind.i64.wrap ((x&&&md-1).toNat:Int)<2*n:=by
 have e:(x&&&md-1).toNat<=(md-1).toNat:=by rw[BitVec.toNat_and];exact Nat.and_le_right
 have f:(md-1).toNat=md.toNat-1:=by
  rw[BitVec.toNat_sub];have:(1:BitVec 64).toNat=1:=rfl;have:=md.isLt;omega
 rw[dK];omega
def Hz(b c:Int)(l0:List Op)(a n:Int)(md:BitVec 64)(i:Int)(l:List Op):Prop:=a=b/\n=c-b/\8<=n/\eu l0 l/\(md.toNat:Int)<=2*n/\1<=md.toNat/\b<i
def EH(g:Nat):Ct:=⟨4,Hn g,QW,λ(a,b,l,_)=>fJ (gA l/\mW l a b) (eu l) λy=>(y,())⟩
def a53(g:Nat)(x:(EH g).inp.den):eH:=⟨[(5,bS ⟨[sO 0 0,sI 1,sI 8,(9,false,[.ptr 1 0]),(10,false,[.d .u64]),sI 11],[nk,some (.cells [.d .u64])]⟩ (λ(a,n,b,i,l,_)=>Hz x.1 x.2.1 x.2.2.1 a n b i l) (λ(a,n,_,i,_)=>(@bO Int Int Int _ (@fA Int Int Int _ a n) i+5).toNat))],[],[],[],0⟩
abbrev Bc(g:Nat)(v:List Op×Unit):cF ((EH g)).out:=⟨0,v⟩
theorem Rr(g:Nat)(D:eW g):il Tryz.prog (zf g) 190 (EH g) (a53 g):=by
 refine oE (∀(f i:Int)(j:List Op)(Q:cF (EH g).out->Prop),let n:=(i-f).tdiv 4;let o:=f+IntKind.i64.wrap n*2-1;(Tr.need (gA j/\mW j f i) (Tr.all (List Op) (eu j) λy=>Tr.leaf (Bc g (y,())))).sat Q->am (i-f)/\Bd (8<=i-f) ((1<=i-f/\i-f<=1000000)/\∀(b:BitVec 64),(↑b.toNat:Int)<=2*(i-f)/\1<=b.toNat->am (IntKind.i64.wrap n*2)/\am (f+IntKind.i64.wrap n*2)/\am o/\Is (Hz f i j f (i-f) b o j)/\∀(a d:Int)(e:BitVec 64)(c:Int)(h:List Op)(k:BitVec 64),let r:=c<=a+IntKind.i64.wrap (d.tdiv 4)*2+1;Hz f i j a d e c h->am (IntKind.i64.wrap (d.tdiv 4)*2)/\am (a+IntKind.i64.wrap (d.tdiv 4)*2)/\am (a+IntKind.i64.wrap (d.tdiv 4)*2+1)/\Br (decide r) (True/\∀(b:BitVec 64×BitVec 64),let l:=b.1&&&e-ag 64 1;let s:=d<=IntKind.i64.wrap (↑l.toNat:Int);let m:=a+IntKind.i64.wrap (↑l.toNat:Int);let p:=h.set c.toNat (gD h m zO);let z:=IntKind.i64.wrap (↑l.toNat:Int)-d;let q:=h.set c.toNat (gD h (a+z) zO);True->Br (decide s) (am z/\am (a+z)/\am (a+z)/\(0<=a+z/\a+z<nI h)/\iN c h/\iN c h/\(0<=a+z/\a+z<(↑q.length:Int))/\am (c+1)/\Is (Hz f i j a d e (c+1) (q.set (a+z).toNat (gD h c zO))/\lN (a+d-(c+1)+5) (a+d-c+5))) (am m/\am m/\(0<=a+IntKind.i64.wrap (↑l.toNat:Int)/\a+IntKind.i64.wrap (↑l.toNat:Int)<nI h)/\iN c h/\iN c h/\(0<=a+IntKind.i64.wrap (↑l.toNat:Int)/\a+IntKind.i64.wrap (↑l.toNat:Int)<(↑p.length:Int))/\am (c+1)/\Is (Hz f i j a d e (c+1) (p.set m.toNat (gD h c zO))/\lN (a+d-(c+1)+5) (a+d-c+5)))) (Q (Bc g (h,())))) (Q (Bc g (j,())))) ?_ (by rcases D with rfl|rfl<;>kernel_rfl)
 conv=>zeta
 unfold Bd Br gD iN lN nI zO;rintro a b l Q ⟨⟨E,G,H,J⟩,u⟩;have w:∀y,eu l y->Q ⟨0,(y,())⟩:=u;have K:=E.1;clear u;refine⟨cv,λA=>?_,λ_=>w _ (cP _)⟩;have A:=af A;refine⟨⟨ac,ac⟩,λL F=>?_⟩;obtain⟨h,o⟩:=F;rw[wq (n:=b-a) ac ac];refine⟨cv,cv,cv,⟨⟨rfl,rfl,ac,cP l,h,o,ac⟩⟩,?_⟩;clear h o;rintro B n f i m M ⟨rfl,C,q,r,p,s,N⟩;have q:8<=n:=q;have p:(f.toNat:Int)<=2*n:=p;rw[wq (n:=n) ac ac];have e:=r.1;refine⟨cv,cv,cv,λc=>?_,λ_=>w _ r⟩;have c:=af c;refine⟨trivial,λz _=>?_⟩;have O:=a52 (x:=z.1) (md:=f) (n:=n) p s ac;generalize IntKind.i64.wrap ((z.1&&&f-1).toNat:Int)=v at*;refine⟨λd=>?_,λd=>?_⟩
 ·have d:=af d;have t:=ee (z:=oZ) (i:=i.toNat) (j:=(B+(v-n)).toNat) r ac ac;exact⟨cv,cv,cv,ac,ac,ac,by rw[cI];omega,cv,⟨⟨rfl,C,q,t,p,s,ac⟩,ac⟩⟩
 ·have d:=ap d;have t:=ee (z:=oZ) (i:=i.toNat) (j:=(B+v).toNat) r ac ac;exact⟨cv,cv,ac,ac,ac,by rw[cI];omega,cv,⟨⟨rfl,C,q,t,p,s,ac⟩,ac⟩⟩
theorem Rt(g:Nat)(a:eW g):bW Tryz.prog 190 (EH g):=dH (Hu g a) (Hw g) tS dC (Rr g a)
def CZ(g:Nat):bG:=(190,[EH g])::Hy g
theorem OC(g:Nat)(a:eW g):bX Tryz.prog (CZ g):=bX.add (YN g a) dC (bL (Rt g a))
theorem OD(g:Nat):cO (CZ g):=cO.add (YO g) (bL (λ_=>aU λ_=>⟨_,cP _⟩))
def Be(g n:Nat):Ct:=⟨5,Rk g,QW,λ(a,b,m,l,_)=>fJ (gA l/\mW l a b/\@aX Int _ 0 m/\@aX Int _ m 64/\@nJ Int _ (@bO Int Int Int _ b a) n) (eu l) λy=>(y,())⟩
def ux(c e:Int)(l0:List Op)(a b m:Int)(l:List Op):Prop:=eu l0 l/\(0<=a/\a<=b/\b<=l0.length/\b-a<=e-c/\0<=m/\m<=64)
theorem abl(h:eu l m)(c:0<=a)(e:a<=n)(f:n<=l.length):mW m a n:=⟨c,e,by rw[h.1];exact f⟩
def Mz(l0:List Op)(c e a b m n:Int)(l:List Op):Prop:=eu l0 l/\(a=c/\b=e/\0<=m/\m<=64/\n=e-c/\12<e-c)
def zg(l0:List Op)(c e a b m n p:Int)(l:List Op):Prop:=eu l0 l/\(a=c/\b=e/\0<=m/\m<=64/\n=e-c/\12<e-c/\c<=p/\p<e)
def a54(g n:Nat)(x:(Be g n).inp.den):eH:=⟨[(2,pW ⟨[sO 0 0,sI 1,sI 2,sI 3,fG g 4,sL 10,sL 11],[nk]⟩ (λ(a,b,m,_,_,l,_)=>ux x.1 x.2.1 x.2.2.2.1 a b m l) (λ(a,b,_)=>(@bO Int Int Int _ b a).toNat)
 λ(c,e,_)=>[(5010,bS ⟨[sO 0 0,sI 1,sI 2,sI 3,fG g 4,sL 10,sL 11,sI 12],[nk]⟩ (λ(a,b,m,_,_,n,l,_)=>Mz x.2.2.2.1 c e a b m n l) λ_=>0),
  (5015,bS ⟨[sO 0 0,sI 1,sI 2,sI 3,fG g 4,sL 10,sL 11,sI 12,sI 13,sI 14],[nk]⟩ (λ(a,b,m,_,_,n,p,_,l,_)=>zg x.2.2.2.1 c e a b m n p l) λ_=>0),
  (5017,bS ⟨[sO 0 0,sI 1,sI 2,sI 3,fG g 4,sL 10,sL 11,sI 12,sI 13],[nk]⟩ (λ(a,b,m,_,_,n,p,l,_)=>zg x.2.2.2.1 c e a b m n p l) λ_=>0)])],[],[],[],0⟩
abbrev Bf(g:Nat)(n:Nat)(v:List Op×Unit):cF ((Be g (n+1))).out:=⟨0,v⟩
theorem Ru(g:Nat)(hg:eW g)(n:Nat):il Tryz.prog ((172,[Be g n])::CZ g) 172 (Be g (n+1)) (a54 g (n+1)):=by
 refine oE (∀(l m x:Int)(f:List Op)(Q:cF (Be g (n+1)).out->Prop),(Tr.need (gA f/\mW f l m/\0<=x/\x<=64/\m-l<(↑(n+1):Int)) (Tr.all (List Op) (eu f) λy=>Tr.leaf (Bf g n (y,())))).sat Q->Is (ux l m f l m x f)/\∀(c d t:Int)(G M:Bool)(k:List Op),let F:=(gA k/\mW k c d)/\∀(b:List Op),eu k b->Q (Bf g n (b,()));ux l m f c d t k->am (d-c)/\Bd (d-c<=12) F (Br (t==0) F ((Br (!G) ((gA k/\mW k c d)/\∀(b:List Op),eu k b->am (t-1)/\Is (Mz f c d c d (t-1) (d-c) b)) (Is (Mz f c d c d t (d-c) k)))/\∀(o p A:Int)(N O:Bool)(B:Int)(r:List Op),Mz f c d o p A B r->(gA r/\mW r o p/\o+13<=p)/\∀(b:Int×Int),o<=b.1/\b.1<p->(Br (b.2==2) ((gA r/\mW r o p)/\∀(h:List Op),eu r h->am (p-1)/\am (b.1-o)/\am (p-1-(b.1-o))/\Is (zg f c d o p A B (p-1-(b.1-o)) h)) (Is (zg f c d o p A B b.1 r)))/\∀(u v w:Int)(H J:Bool)(z C K:Int)(s:List Op),let D:=zg f c d u v w z C s;zg f c d u v w z C s->(Br H (Br J (Br (K==1) ((gA s/\mW s u v)/\∀(b:Bool×List Op),eu s b.2->Br (b.1) (Q (Bf g n (b.2,()))) (Is (zg f c d u v w z C b.2))) (Is D)) (Is D)) (Is D))/\∀(a e i:Int)(P R:Bool)(L q:Int)(j:List Op),let E:=gA j/\mW j a e/\a<=q/\q<e;zg f c d a e i L q j->Bd (0<a) (oa (0<a) (am (a-1)/\decide (0<a)=true/\iN (a-1) j/\oX (0<a) (iN q j/\mP (0<a) ((dw (gD j (a-1) zO)/\dw (gD j q zO))/\∀(b:Int),True->oa (0<a) (Br (!decide (b<0)) (E/\∀(b:Int×List Op),eu j b.2/\a<b.1/\b.1<=e->Is (ux l m f b.1 e i b.2/\lN (e-b.1) (d-c))) (E/\∀(b:Int×Bool×List Op),eu j b.2.2/\a<=b.1/\b.1<e->am (b.1-a)/\am (e-b.1)/\Bd (b.1-a<e-b.1) ((gA b.2.2/\mW b.2.2 a b.1/\0<=i/\i<=64/\b.1-a<(↑n:Int))/\∀(h:List Op),eu b.2.2 h->am (b.1+1)/\Is (ux l m f (b.1+1) e i h/\lN (e-(b.1+1)) (d-c))) (am (b.1+1)/\(gA b.2.2/\mW b.2.2 (b.1+1) e/\0<=i/\i<=64/\e-(b.1+1)<(↑n:Int))/\∀(h:List Op),eu b.2.2 h->Is (ux l m f a b.1 i h/\lN (b.1-a) (d-c))))))))) (rh (0<a) (tT (0<a) (decide (0<a)=false/\E/\∀(b:Int×Bool×List Op),eu j b.2.2/\a<=b.1/\b.1<e->am (b.1-a)/\am (e-b.1)/\Bd (b.1-a<e-b.1) ((gA b.2.2/\mW b.2.2 a b.1/\0<=i/\i<=64/\b.1-a<(↑n:Int))/\∀(h:List Op),eu b.2.2 h->am (b.1+1)/\Is (ux l m f (b.1+1) e i h/\lN (e-(b.1+1)) (d-c))) (am (b.1+1)/\(gA b.2.2/\mW b.2.2 (b.1+1) e/\0<=i/\i<=64/\e-(b.1+1)<(↑n:Int))/\∀(h:List Op),eu b.2.2 h->Is (ux l m f a b.1 i h/\lN (b.1-a) (d-c))))))))) ?_ (by rcases hg with rfl|rfl<;>kernel_rfl)
 conv=>zeta
 unfold Bd Br gD iN lN zO rh tT oX oa zL mP;rintro a b m l Q ⟨⟨w,⟨f1,f2,f3⟩,f4,f5,f6⟩,P⟩;have M:∀y,eu l y->Q ⟨0,(y,())⟩:=P;have h0:=w.1;have h1:=cP l;clear P;have x:∀{y:List Op}{c d:Int},eu l y->0<=c->c<=d->d<=l.length->gA y/\mW y c d:=λh p q r=>⟨iC w h,abl h p q r⟩;refine⟨⟨h1,f1,f2,f3,ac,f4,f5⟩,?_⟩;intro a1 b1 m1 _ _ l1 ⟨z,s,u,o,k4,k5,k6⟩;refine⟨cv,λ_=>⟨x z s u o,λy h=>M _ (eI z h)⟩,λc=>⟨λ_=>⟨x z s u o,λy h=>M _ (eI z h)⟩,λN=>?_⟩⟩;have c:=ap c;rw[aC]at N;refine⟨⟨λ_=>⟨x z s u o,λy h=>⟨cv,⟨eI z h,rfl,rfl,ac,ac,rfl,ac⟩⟩⟩,λ_=>⟨z,rfl,rfl,ac,ac,rfl,ac⟩⟩,?_⟩;clear N;intro a2 b2 m2 _ _ n2 l2 ⟨G,H,J,R,S,K,U⟩;subst H;subst J;subst K;refine⟨⟨iC w G,abl G s u o,ac⟩,λp hp=>?_⟩;obtain⟨W,X⟩:=hp;refine⟨⟨λ_=>⟨x G s u o,λy h=>⟨cv,cv,cv,⟨eI G h,rfl,rfl,R,S,rfl,U,ac,ac⟩⟩⟩,λ_=>⟨G,rfl,rfl,R,S,rfl,U,W,X⟩⟩,?_⟩;clear W X;intro a3 b3 m3 w1 w2 n3 p3 q3 l3 ⟨E,H,J,i,j,K,L,A,B⟩;subst H;subst J;subst K;refine⟨⟨λ_=>⟨λ_=>⟨λ_=>⟨x E s u o,λy h=>⟨λ_=>M _ (eI E h),λ_=>⟨eI E h,rfl,rfl,i,j,rfl,L,A,B⟩⟩⟩,λ_=>⟨E,rfl,rfl,i,j,rfl,L,A,B⟩⟩,λ_=>⟨E,rfl,rfl,i,j,rfl,L,A,B⟩⟩,λ_=>⟨E,rfl,rfl,i,j,rfl,L,A,B⟩⟩,?_⟩;clear i j A B;intro e f F _ _ n4 Y l4 ⟨v,H,J,i,j,K,L,A,B⟩;subst H;subst J;subst K;have e4:=v.1;have C:∀{y:List Op},eu l y->gA y/\mW y e f/\e<=Y/\Y<f:=λh=>⟨(x h s u o).1,(x h s u o).2,A,B⟩
 have tail:∀q:Int×Bool×List Op,eu l4 q.2.2/\e<=q.1/\q.1<f->am (q.1-e)/\am (f-q.1)/\(decide (q.1-e<f-q.1)=true->(gA q.2.2/\mW q.2.2 e q.1/\0<=F/\F<=64/\q.1-e<(n:Int))/\∀y,eu q.2.2 y->am (q.1+1)/\Is (ux a b l (q.1+1) f F y/\(f-(q.1+1)).toNat<(f-e).toNat))/\(decide (q.1-e<f-q.1)=false->am (q.1+1)/\(gA q.2.2/\mW q.2.2 (q.1+1) f/\0<=F/\F<=64/\f-(q.1+1)<(n:Int))/\∀y,eu q.2.2 y->Is (ux a b l e q.1 F y/\(q.1-e).toNat<(f-e).toNat)):=by
  intro q D;obtain⟨O,u2,u3⟩:=D;have t:=eI v O;refine⟨cv,cv,λ_=>⟨⟨iC w t,abl t ac ac ac,i,j,ac⟩,λy h=>⟨cv,⟨⟨eI t h,ac,ac,o,ac,i,j⟩,ac⟩⟩⟩,λ_=>⟨cv,⟨iC w t,abl t ac ac ac,i,j,ac⟩,λy h=>⟨⟨eI t h,ac,ac,ac,ac,i,j⟩,ac⟩⟩⟩
 refine⟨λc=>?_,λc=>⟨c,c,c,c,c,c,c,c,c,c,c,c,c,C v,tail⟩⟩;have N:=af c;refine⟨c,c,c,cv,c,⟨ac,ac⟩,c,c,c,c,⟨ac,ac⟩,c,c,⟨YM w v ac,YM w v ac⟩,λ_ _=>⟨c,c,c,λ_=>⟨C v,λq D=>?_⟩,λ_=>⟨C v,tail⟩⟩⟩;obtain⟨O,u2,u3⟩:=D;exact⟨⟨eI v O,ac,ac,o,ac,i,j⟩,ac⟩
theorem HA(g:Nat)(c:eW g):∀n:Nat,bW Tryz.prog 172 (Be g n)
 |0=>by
  rintro⟨a,b,m,l,⟨⟩⟩ Q ⟨⟨_,⟨_,e,_⟩,_,_,f⟩,_⟩;exfalso;have e:@aX Int _ a b:=e;have f:@nJ Int _ (@bO Int Int Int _ b a) ((0:Nat):Int):=f;omega
 |n+1=>dH (bX.add (OC g c) dC (bL (HA g c n))) (cO.add (OD g) (bL (λ_=>aU λ_=>⟨_,cP _⟩))) tS dC (Ru g c n)
def HB(g:Nat):bG:=(172,[Be g 100001])::CZ g
theorem YP(g:Nat)(a:eW g):bX Tryz.prog (HB g):=bX.add (OC g a) dC (bL (HA g a 100001))
theorem YQ(g:Nat):cO (HB g):=cO.add (OD g) (bL (λ_=>aU λ_=>⟨_,cP _⟩))
def wI(g:Nat):Ct:=⟨2,⟨[sO 0 0,fG g 1],[nk]⟩,QW,λ(l,_)=>fJ (gA l) (eu l) λy=>(y,())⟩
abbrev HC(g:Nat)(v:List Op×Unit):cF ((wI g)).out:=⟨0,v⟩
theorem Rv(g:Nat)(a:eW g):il Tryz.prog (HB g) 135 (wI g) (cQ (wI g) 0):=by
 refine oE (∀(a:List Op)(Q:cF (wI g).out->Prop),let z:=bf 64 (nI a);(Tr.need (gA a) (Tr.all (List Op) (eu a) λy=>Tr.leaf (HC g (y,())))).sat Q->z.toNat<=16777215/\(gA a/\mW a 0 (nI a)/\0<=(↑(gj z.toNat):Int)/\(↑(gj z.toNat):Int)<=64/\nI a-(0:Int)<100001)/\∀(b:List Op),eu a b->Q (HC g (b,()))) ?_ (by rcases a with rfl|rfl<;>kernel_rfl)
 conv=>zeta
 unfold nI;rintro l Q ⟨h,b⟩;have c:l.length<=100000:=h.1;have e:(bf 64 (l.length:Int)).toNat=l.length:=by rw[BitVec.toNat_ofInt];omega
 rw[e];have f:gj l.length<=64:=Lib.bitLen_le l.length 64 ac ac;exact⟨ac,⟨h,⟨(by decide:(0:Int)<=0),Int.natCast_nonneg _,bp _⟩,ac,ac,ac⟩,b⟩
theorem HD(g:Nat)(a:eW g):bW Tryz.prog 135 (wI g):=dH (YP g a) (YQ g) tS dC (Rv g a)
def YR:bG:=(135,[wI 136,wI 138])::YK
def OE:=kB 135 [wI 136,wI 138] YL (List.forall_mem_cons.2 ⟨HD _ (.inl rfl),bL (HD _ (.inr rfl))⟩) (l:=List.forall_mem_cons.2 ⟨λ_=>aU λ_=>⟨_,cP _⟩,bL (λ_=>aU λ_=>⟨_,cP _⟩)⟩)
def HE:Ct:=⟨1,⟨[(0,false,[.d (.pf tMB)])],[]⟩,[⟨[(0,false,[.d (.sl hX)])],[]⟩],λ(t,_)=>one (t.1.length<=1000000) (t.1,())⟩
theorem Rw:bW Tryz.prog 130 HE:=kC OE (cQ HE 0) (∀(a:List hX.den×Unit)Q,bg HE (a,()) Q->ah a.1<=1000000/\Q ⟨0,a⟩) (by
 unfold bg;rintro t Q ⟨h,a⟩;exact⟨h,a⟩)
def YS:bG:=(130,[HE,AV])::YR
def YT:=kB 130 [HE,AV] OE (je (Rw) (bL (G8))) (l:=je (λ_=>eJ) (bL (λ_=>eJ)))
def mkI(q:ID×gJ):Op:=(1,q.2.1,q.2.2.1,q.2.2.2.1,q.2.2.2.2.1,q.2.2.2.2.2.1,q.2.2.2.2.2.2.1,0,0,0,0,0,0,false,0,0,false,0,0,())
def mkD(q:ID×Int):Op:=(2,0,0,0,0,false,0,q.1.1,q.1.2.1,0,0,0,0,false,0,0,false,0,0,())
def HF(p:Pg)(y:List Op):Prop:=y.length<=9000/\(∀o∈y,CA o)/\(p=ka->y=[])/\(p=fO->y=[jr])
theorem YU:ka≠fO:=λh=>by have:=aI (λp:Pg=>p.1.length) h;revert this;decide
theorem MA(p:Pg):∃y,HF p y:=by
 by_cases h:p=fO
 ·exact⟨[jr],bt,LM,λe=>absurd (e.symm.trans h) YU,λ_=>rfl⟩
 ·exact⟨[],bt,λo a=>(by cases a),λ_=>rfl,λe=>absurd e h⟩
def Bg:Ct:=⟨1,⟨[(0,false,[.d N8])],[]⟩,[⟨[(0,false,[.d (.sl lu)])],[]⟩],λ(p,_)=>fJ (cy p) (HF p) λl=>(l,())⟩
def HG(i:Nat):Nat×Bool×List IP:=(i,false,[.d N8])
def YV:cx:=⟨[HG 0,sO 3 0,sO 4 1,(16,false,[.ptr 2 0])],[some (.sl lu),some (.sl lu),some (.fit cw qb)]⟩
def MB(x:Bg.inp.den)(y:YV.den):Prop:=match x,y with
 |(b,_),(p,out,go,a,_,_)=>p=b/\go=[]/\∃c,out=c.map mkI/\(c++a).Perm b.1
def OF:cx:=⟨[HG 0,sO 3 0,sO 4 1,(32,false,[.ptr 2 0])],[some (.sl lu),some (.sl lu),some (.fit cw .i64)]⟩
def C0(x:Bg.inp.den)(y:OF.den):Prop:=match x,y with
 |(b,_),(p,out,go,a,_,_)=>p=b/\out.length<=4096/\(∀o∈out,CA o)/\(b=ka->out=[])/\(b=fO->out=[jr])/\∃c,go=c.map mkD/\(c++a).Perm b.2.1
def OG:cx:=⟨[sO 3 0,(51,false,[.d (.sl hX)]),sI 52,sI 53],[some (.sl lu)]⟩
def C3(x:Bg.inp.den)(y:OG.den):Prop:=match x,y with
 |(a,_),(b,c,j,out,_)=>b=a.2.2.2.2.1.1/\c=b.length/\∃k:Nat,j=k/\k<=b.length/\out.length<=8192+k/\(∀o∈out,CA o)/\(a=ka->out=[])/\(a=fO->out=[jr])
def a55(x:Bg.inp.den):eH:=⟨[(5,bS YV (MB x) λ(_,_,_,a,_)=>a.length),(10,bS OF (C0 x) λ(_,_,_,a,_)=>a.length),(16,bS OG (C3 x) λ(_,b,j,_)=>(@bO Int Int Int _ b j).toNat)],[],[],[],0⟩
def YW:bG:=(94,[Bg])::YS
def YX:=kA 94 Bg YT a55 (∀(a:Pg)Q,bg Bg (a,()) Q->Is (MB (a,()) (a,[],[],a.1,none,()))/\∀(j:Pg)(e n:List Op)(f:List (Fk×gJ))(z:Option (Fk×gJ)),MB (a,()) (j,e,n,f,z,())->Br (!f.isEmpty) (∀(b:(Fk×gJ)×List (Fk×gJ)),f.Perm (b.1::b.2)->(e.length+1)*144<=mM/\Is (MB (a,()) (j,e++[(1,b.1.2.1,b.1.2.2.1,b.1.2.2.2.1,b.1.2.2.2.2.1,b.1.2.2.2.2.2.1,b.1.2.2.2.2.2.2.1,0,0,0,0,0,0,false,0,0,false,0,0,())],n,b.2,some b.1,())/\b.2.length<f.length)) (gA e/\∀(b:List Op),eu e b->Is (C0 (a,()) (j,b,n,j.2.1,none,()))/\∀(g:Pg)(k h:List Op)(i:List (Fk×Int))(z:Option (Fk×Int)),C0 (a,()) (g,k,h,i,z,())->Br (!i.isEmpty) (∀(b:(Fk×Int)×List (Fk×Int)),i.Perm (b.1::b.2)->(h.length+1)*144<=mM/\Is (C0 (a,()) (g,k,h++[(2,0,0,0,0,false,0,b.1.1.1,b.1.1.2.1,0,0,0,0,false,0,0,false,0,0,())],b.2,some b.1,())/\b.2.length<i.length)) (gA h/\∀(b:List Op),eu h b->(k.length+b.length)*144<=mM/\ah g.2.2.2.2.1.1<=1000000/\Is (C3 (a,()) (g.2.2.2.2.1.1,nI g.2.2.2.2.1.1,0,k++b,()))/\∀(l:List hX.den)(d c:Int)(m:List Op),C3 (a,()) (l,d,c,m,())->Bd (c<d) (iN c l/\(m.length+1)*144<=mM/\am (c+1)/\Is (C3 (a,()) (l,d,c+1,m++[(3,0,0,0,0,false,0,0,0,gD l c (0,0,0,0,false,0,0,false,0,0,()))],())/\lN (d-(c+1)) (d-c))) (Q ⟨0,m,()⟩)))) (by
 unfold Bd Br gD iN lN mM nI bg;intro p Q ⟨h,S⟩;have i:∀y,HF p y->Q ⟨0,(y,())⟩:=S;clear S;obtain⟨k1,k2,k3,k4,k5,k6⟩:=h;refine⟨⟨⟨rfl,rfl,[],rfl,List.Perm.refl _⟩⟩,?_⟩;rintro p1 out go t la ⟨A,L,B,G,s⟩;have A:p=p1:=A.symm;subst A L G;have M:B.length+t.length=p.1.length:=by have:=s.length_eq;rwa [aa]at this
 have u:∀q∈B,q∈p.1:=λq i=>s.subset (dd _ i);have v:(B.map mkI).length=B.length:=cG ..;refine⟨λc z H=>?_,λc=>?_⟩
 ·have C:=H.length_eq;rw[bc]at C;refine⟨ac,⟨⟨rfl,rfl,B++[z.1],by rw[dL];rfl,?_⟩,ac⟩⟩;rw[ay];exact(List.Perm.append_left B H.symm).trans s
 have N:t=[]:=by
  cases t with
  |nil=>rfl
  |cons a b=>cases c
 subst N;rw[aH]at s
 have n:∀q∈B,dw (mkI q)/\CA (mkI q):=by
  intro q i;have D:=(k5 q (u q i)).1;obtain⟨⟨a,b,⟨⟩⟩,J,K,c3,c4,c5,O,⟨⟩⟩:=q;unfold ur iB at D;simp only[aK,ai]at D;have q1:@aX Int _ 0 J/\@nJ Int _ J 5/\@aX Int _ 1 K/\@aX Int _ K 1099511627776:=D.1.1;have q2:@aX Int _ 0 O/\@aX Int _ O 1114111:=⟨D.1.2.1,D.1.2.2.1⟩;refine⟨⟨⟨?_,?_,?_,?_⟩,(show(0:Int)<=0 by decide),(show(0:Int)<=1099511627776 by decide),(show(0:Int)<=0 by decide),(show(0:Int)<=1099511627776 by decide)⟩,?_⟩
  ·show @aX Int _ 0 J;omega
  ·show @aX Int _ J 1099511627776;omega
  ·show @aX Int _ 0 K;omega
  ·show @aX Int _ K 1099511627776;omega
  ·show am O;unfold am;omega
 refine⟨⟨ac,λo g=>?_⟩,λy x=>?_⟩
 ·obtain⟨q,i,rfl⟩:=fI.1 g;exact(n q i).1
 have w:∀o∈y,CA o:=by
  intro o g;obtain⟨q,i,rfl⟩:=fI.1 (x.2 o g);exact(n q i).2
 have E:y.length=B.length:=by rw[x.1];exact v
 have U:p=ka->y=[]:=by
  intro e;have h0:p.1.length=0:=by rw[e];rfl
  exact ju.1 ac
 have W:p=fO->y=[jr]:=by
  intro e;have e':p.1=[(((0,1,()):ID),((0,1,0,0,true,97,()):gJ))]:=by rw[e];rfl
  rw[e']at s;have hd:=List.perm_singleton.1 s;rw[hd]at x;have h1:y.length=1:=x.1;obtain⟨o,g⟩:=List.length_eq_one_iff.1 h1;have:=x.2 o (by rw[g];exact bV.2 rfl);rw[aY,List.map_nil,bV]at this;rw[g,this];rfl
 refine⟨⟨⟨rfl,ac,w,U,W,[],rfl,List.Perm.refl _⟩⟩,?_⟩;clear s M u v n x E U W w;rintro p2 f a0 r a1 ⟨A,X,Y,g3,g4,m,G,s⟩;have A:p=p2:=A.symm;subst A G;have M:m.length+r.length=p.2.1.length:=by have:=s.length_eq;rwa [aa]at this
 have u:∀q∈m,q∈p.2.1:=λq i=>s.subset (dd _ i);have v:(m.map mkD).length=m.length:=cG ..;refine⟨λc z H=>?_,λc=>?_⟩
 ·have C:=H.length_eq;rw[bc]at C;refine⟨ac,⟨⟨rfl,X,Y,g3,g4,m++[z.1],by rw[dL];rfl,?_⟩,ac⟩⟩;rw[ay];exact(List.Perm.append_left m H.symm).trans s
 have N:r=[]:=by
  cases r with
  |nil=>rfl
  |cons a b=>cases c
 subst N
 have n:∀q∈m,dw (mkD q)/\CA (mkD q):=by
  intro q i;have D:=k6 q (u q i);obtain⟨⟨a,b,⟨⟩⟩,J⟩:=q;have q1:@aX Int _ 0 a/\@nJ Int _ a 5/\@aX Int _ 1 b/\@aX Int _ b 1099511627776:=af D;refine⟨⟨⟨(show(0:Int)<=0 by decide),(show(0:Int)<=1099511627776 by decide),(show(0:Int)<=0 by decide),(show(0:Int)<=1099511627776 by decide)⟩,?_,?_,?_,?_⟩,?_⟩
  ·show @aX Int _ 0 a;omega
  ·show @aX Int _ a 1099511627776;omega
  ·show @aX Int _ 0 b;omega
  ·show @aX Int _ b 1099511627776;omega
  ·show am 0;unfold am;omega
 refine⟨⟨ac,λo g=>?_⟩,λy x=>?_⟩
 ·obtain⟨q,i,rfl⟩:=fI.1 g;exact(n q i).1
 have w:∀o∈y,CA o:=by
  intro o g;obtain⟨q,i,rfl⟩:=fI.1 (x.2 o g);exact(n q i).2
 have E:y.length=m.length:=by rw[x.1];exact v
 have hm:p.2.2.2.2.1.1.length<=512:=k2.1;have P:p.2.1.length=0->y=[]:=λe=>ju.1 ac;have a2:p.1.length+p.2.1.length<=4096:=k1;have a3:f.length<=4096:=X;have g9:f.length+y.length<=8192:=ac
 have g5:(f++y).length<=4096+4096:=by rw[aa];omega
 have g6:∀o∈f++y,CA o:=λo g=>(ba.1 g).elim (Y o) (w o);have g7:p=ka->f++y=[]:=λe=>by rw[g3 e,P (by rw[e];rfl)];rfl
 have g8:p=fO->f++y=[jr]:=λe=>by rw[g4 e,P (by rw[e];rfl)];rfl
 have e9:p=ka->p.2.2.2.2.1.1=[]:=λe=>by rw[e];rfl
 have R:p=fO->p.2.2.2.2.1.1=[]:=λe=>by rw[e];rfl
 clear s M u v n x P E w;generalize f++y=o2 at*;refine⟨ac,ac,⟨⟨rfl,rfl,0,rfl,aq _,ac,g6,g7,g8⟩⟩,?_⟩;rintro ms ln j o3 ⟨A,L,k,G,f1,f2,f3,f4,f5⟩;subst A L G;have hN:∀k:Nat,k<p.2.2.2.2.1.1.length->am ((k:Int)+1):=λk F=>cv
 rw[show((k:Int)).toNat=k by omega];refine⟨λc=>?_,λc=>i _ ⟨ac,f3,f4,f5⟩⟩;have F:k<p.2.2.2.2.1.1.length:=by have:=af c;omega
 refine⟨ac,ac,hN k F,⟨⟨rfl,rfl,k+1,rfl,F,by rw[aa,bi];omega,λo g=>?_,λe=>?_,λe=>?_⟩,ac⟩⟩
 ·rcases ba.1 g with g|g
  ·exact f3 o g
  ·rw[bV.1 g];show am 0;unfold am;omega
 ·exfalso;rw[e9 e]at F;exact absurd F (Nat.not_lt_zero _)
 ·exfalso;rw[R e]at F;exact absurd F (Nat.not_lt_zero _)) (l:=λ_=>aU λ_=>MA _)
theorem C4{p:Pg}(h:cy p):qQ p.2.2.2.1:=by
 have t:=h.2.2.2.1;have g:=CN t;have a:=t.2.1;refine⟨t.1,?_,t.2.2.1,?_⟩
 ·show @aX Nat _ p.2.2.2.1.1.length 100000;omega
 ·show @aX Int _ p.2.2.2.1.2.1 100000;omega
def jD(p q:Pg):Prop:=cy q/\(p=ka->q=ka)/\(p=fO->q=fO)
theorem js(p:Pg):∃q,jD p q:=by
 by_cases h:p=fO
 ·exact⟨fO,Ba,λe=>absurd (e.symm.trans h) YU,λ_=>rfl⟩
 ·exact⟨ka,wG,λ_=>rfl,λe=>absurd e h⟩
def MC:Ct:=⟨1,⟨[(0,false,[.d N8])],[]⟩,[⟨[sP 0],JL 0⟩],λ(p,_)=>fJ (cy p) (jD p) λq=>(q.1,q.2.1,q.2.2.1,q.2.2.2.1.2.1,q.2.2.2.1.1,q.2.2.2.2.1.1,())⟩
def YY:bG:=(50,[MC])::YW
def YZ:=kA 50 MC YX (cQ MC 0) (∀(c:Pg)Q,bg MC (c,()) Q->True/\cy c/\∀(b:List Op),HF c b->(cy ([],[],[],([((0,0,()),0,0,0,false,[[],[]],())],0,()),([],()),())/\b.length<=1000000)/\∀(a:Int×Pg),zd ([],[],[],([((0,0,()),0,0,0,false,[[],[]],())],0,()),([],()),()) b a->Q ⟨0,a.2.1,a.2.2.1,a.2.2.2.1,a.2.2.2.2.1.2.1,a.2.2.2.2.1.1,a.2.2.2.2.2.1⟩) (by
 unfold bg;intro p Q ⟨h,c⟩;refine⟨trivial,h,λl a=>⟨⟨wG,bE a.1 bt⟩,λz b=>?_⟩⟩;exact c z.2 ⟨b.1,λe=>b.2.2 rfl (a.2.2.1 e),λe=>aI (λq:Int×Pg=>q.2) (b.2.1 rfl (a.2.2.2 e))⟩) (l:=λ_=>aU λ_=>js _)
def MD:Ct:=⟨1,⟨[HG 0],[]⟩,[⟨[sI 0],[]⟩],λ(p,_)=>one (cy p) (p.2.2.2.1.1.length-1-p.2.2.2.1.2.1,())⟩
def Y0:bG:=(147,[MD])::YY
def Y1:=kA 147 MD YZ (cQ MD 0) (∀(a:Pg)Q,bg MD (a,()) Q->qQ a.2.2.2.1/\Q ⟨0,nI a.2.2.2.1.1-1-a.2.2.2.1.2.1,()⟩) (by
 unfold nI bg;intro p Q ⟨h,a⟩;exact⟨C4 h,a⟩)
def ME:Ct:=⟨1,⟨[HG 0],[]⟩,[⟨[(0,false,[.d .st])],[]⟩],λ(p,_)=>one (p=fO) ([97],())⟩
def Y2:bG:=(23,[ME])::Y0
def Y3:=kA 23 ME Y1 (cQ ME 0) (∀(a:Pg)Q,bg ME (a,()) Q->a.2.2.2.1=([((0,0,()),0,0,0,false,[[],[(0,1,())]],()),((0,1,()),0,1,97,false,[[],[]],())],0,())/\Q ⟨0,[ag 8 97],()⟩) (by
 unfold bg;intro p Q ⟨h,a⟩;subst h;exact⟨rfl,a⟩)
def HH:Ct:=⟨2,⟨[HG 0,sI 1],[]⟩,[⟨[sI 0],[]⟩],λ(p,a,_)=>fJ (cy p) (λy:Int=>0<=y/\y<=1099511627776/\(p=ka->y=0)) λy=>(y,())⟩
def Y4:cx:=⟨[sI 1,sI 5,(13,false,[.ptr 0 0])],[some (.fit cw qb)]⟩
def HI(x:HH.inp.den)(y:Y4.den):Prop:=match x,y with
 |(p,c,_),(a,n,b,_,_)=>a=c/\@aX Int _ 0 n/\@aX Int _ n 1099511627776/\(∀q∈b,q∈p.1)/\(p=ka->n=0)
def a56(x:HH.inp.den):eH:=⟨[(5,bS Y4 (HI x) λ(_,_,a,_)=>a.length)],[],[],[],0⟩
def Y5:bG:=(148,[HH])::Y2
def Y6:=kA 148 HH Y3 a56 (∀(a:Pg)(c:Int)Q,bg HH (a,c,()) Q->Is (HI (a,c,()) (c,0,a.1,none,()))/\∀(e f:Int)(d:List (Fk×gJ))(z:Option (Fk×gJ)),HI (a,c,()) (e,f,d,z,())->Br (!d.isEmpty) (∀(b:(Fk×gJ)×List (Fk×gJ)),d.Perm (b.1::b.2)->Br (b.1.1.1==e) (Is (HI (a,c,()) (e,max f b.1.1.2.1,b.2,some b.1,())/\b.2.length<d.length)) (Is (HI (a,c,()) (e,f,b.2,some b.1,())/\b.2.length<d.length))) (Q ⟨0,f,()⟩)) (by
 unfold Br bg;intro p B Q ⟨h,o⟩;have b:∀y:Int,0<=y/\y<=1099511627776/\(p=ka->y=0)->Q ⟨0,(y,())⟩:=o;clear o;refine⟨⟨rfl,bp _,(show(0:Int)<=1099511627776 by decide),λq b=>b,λ_=>rfl⟩,?_⟩;rintro a n f C ⟨e,r,s,g,t⟩;refine⟨λc z i=>?_,λ_=>b n ⟨r,s,t⟩⟩;have j:=i.length_eq;rw[bc]at j;have u:z.1∈f:=i.symm.subset (aF ..);have v:∀q∈z.2,q∈p.1:=λq b=>g q (i.symm.subset (aD _ b));have w:=h.2.2.2.2.1 _ (g _ u)
 have A:¬p=ka:=λe=>by
  have:=g _ u;rw[e]at this;exact by cases this
 have D:@aX Int _ 1 z.1.1.2.1/\@aX Int _ z.1.1.2.1 1099511627776:=by
  have m:=w.1;rw[w.2];unfold ur iB at m;simp only[aK,ai]at m;have x:=m.1.1;exact⟨x.2.2.1,x.2.2.2⟩
 generalize E:z.1.1.2.1=N at*;refine⟨λ_=>⟨⟨e,?_,?_,v,λe=>absurd e A⟩,ac⟩,λ_=>⟨⟨e,r,s,v,t⟩,ac⟩⟩
 ·show @aX Int _ 0 (@max Int _ n N);omega
 ·show @aX Int _ (@max Int _ n N) 1099511627776;omega) (l:=λ_=>aU λ_=>⟨0,bt,bt,λ_=>rfl⟩)
def MF:Ct:=⟨3,⟨[HG 0,sI 1,sI 2],[]⟩,[⟨[sL 0],[]⟩],λ(p,a,n,_)=>fJ (cy p) (λy:Bool=>y=true->@aX Int _ 0 a/\@aX Int _ 0 n/\@aX Int _ (@fA Int Int Int _ a n) 4097) λy=>(y,())⟩
def Y7:bG:=(150,[MF])::Y5
def Y8:=kA 150 MF Y6 (cQ MF 0) (∀(a:Pg)(b c:Int)Q,let z:=b<=nI a.2.2.2.1.1-1-a.2.2.2.1.2.1;bg MF (a,b,c,()) Q->Bd (0<=b) (Bd (0<=c) (cy a/\Br (decide z) (cy a/\am (nI a.2.2.2.1.1-1-a.2.2.2.1.2.1-b)/\Q ⟨0,decide (c<=nI a.2.2.2.1.1-1-a.2.2.2.1.2.1-b),()⟩) (Q ⟨0,false,()⟩)) (Q ⟨0,false,()⟩)) (Q ⟨0,false,()⟩)) (by
 conv=>zeta
 unfold Bd Br nI bg;intro p a n Q ⟨h,f⟩;have i:∀y:Bool,(y=true->@aX Int _ 0 a/\@aX Int _ 0 n/\@aX Int _ (@fA Int Int Int _ a n) 4097)->Q ⟨0,(y,())⟩:=f;clear f;have e:Q ⟨0,(false,())⟩:=i false (λh=>by cases h);have t:=h.2.2.2.1;have g:=CN t;have o:p.2.2.2.1.1.length<=4097:=t.2.1;have q:@aX Int _ 0 p.2.2.2.1.2.1:=t.2.2.1;have g:@aX Int _ p.2.2.2.1.2.1 4097:=g;generalize hL:p.2.2.2.1.1.length=L at*;generalize r:p.2.2.2.1.2.1=G at*;have s:Int:=a;refine⟨λb=>⟨λj=>⟨h,λc=>⟨h,?_,i _ λm=>?_⟩,λ_=>e⟩,λ_=>e⟩,λ_=>e⟩
 ·have b:@aX Int _ 0 a:=af b;have c:@aX Int _ a ((L:Int)-1-G):=af c;unfold am;omega
 ·have b:@aX Int _ 0 a:=af b;have j:@aX Int _ 0 n:=af j;have c:@aX Int _ a ((L:Int)-1-G):=af c;have m:@aX Int _ n ((L:Int)-1-G-a):=af m;omega) (l:=λ_=>aU λ_=>⟨false,λh=>by cases h⟩)
def MG:Ct:=⟨1,⟨[(0,false,[.d (.pf tMB)])],[]⟩,[⟨[sI 0],[]⟩],λ(t,_)=>fJ (fu t.1) (λy:Int=>0<=y/\y<=1099511627776) λy=>(y,())⟩
def Y9:bG:=(152,[MG])::Y7
def Za:=kA 152 MG Y8 (cQ MG 0) (∀(a:List hX.den×Unit)Q,bg MG (a,()) Q->Br (nI a.1==0) (Q ⟨0,0,()⟩) (am (nI a.1-1)/\iN (nI a.1-1) a.1/\Q ⟨0,(bF a.1 (nI a.1-1).toNat (0,0,0,0,false,0,0,false,0,0,())).1,()⟩)) (by
 unfold Br iN nI bg;intro t Q ⟨h,a⟩;have b:∀y:Int,0<=y/\y<=1099511627776->Q ⟨0,(y,())⟩:=a;clear a;refine⟨λ_=>b 0 bt,λc=>?_⟩;rw[aC]at c;have e:t.1.length<=512:=h.1;have f:t.1.length≠0:=ac
 refine⟨cv,ac,b _ ?_⟩;have:=h.2 _ (aV (j:=((t.1.length:Int)-1).toNat) (z:=(0,0,0,0,false,0,0,false,0,0,())) ac);exact⟨this.1,this.2.1⟩) (l:=λ_=>aU λ_=>⟨0,bt⟩)
def HJ:Ct:=⟨3,⟨[HG 0,sI 1,sI 2],[]⟩,[⟨[(0,false,[.d (.sl lu)]),sI 1],[]⟩],λ(p,a,n,_)=>fJ (cy p) (λy:List Op×Int=>y.1.length<=64) λy=>(y.1,y.2,())⟩
def Zb:cx:=⟨[HG 0,sI 1,sO 8 0,sI 19,sI 20],[some (.sl lu)]⟩
def MH(x:HJ.inp.den)(y:Zb.den):Prop:=match x,y with
 |(b,c,e,_),(p,a,n,j,out,_)=>p=b/\a=c/\n=e/\@aX Int _ 0 a/\@aX Int _ (@fA Int Int Int _ a n) 4097/\@aX Int _ 0 n/\@aX Int _ n 64/\∃k:Nat,j=k/\@aX Int _ k n/\out.length=k
def a57(x:HJ.inp.den):eH:=⟨[(7,bS Zb (MH x) λ(_,_,n,j,_)=>(@bO Int Int Int _ n j).toNat)],[],[],[],0⟩
def Zc:bG:=(112,[HJ])::Y9
def Zd:=kA 112 HJ Za a57 (∀(e:Pg)(d a:Int)Q,bg HJ (e,d,a,()) Q->cy e/\∀(b:Bool),(b=true->0<=d/\0<=a/\d+a<=4097)->Br (!b) (Q ⟨0,[],6,()⟩) (Bd (64<a) (Q ⟨0,[],2,()⟩) (Is (MH (e,d,a,()) (e,d,a,0,[],()))/\∀(i:Pg)(g f c:Int)(h:List Op),MH (e,d,a,()) (i,g,f,c,h,())->Bd (c<f) (am (g+c)/\(qQ i.2.2.2.1/\g+c<=1000000000)/\∀(b:Fk×Int),True->(h.length+1)*144<=mM/\am (c+1)/\Is (MH (e,d,a,()) (i,g,f,c+1,h++[(2,0,0,0,0,false,0,b.1.1,b.1.2.1,0,0,0,0,false,0,0,false,0,0,())],())/\lN (f-(c+1)) (f-c))) (Q ⟨0,h,0,()⟩)))) (by
 unfold Bd Br lN mM bg;intro p a n Q ⟨h,i⟩;have g:∀(y:List Op)(e:Int),y.length<=64->Q ⟨0,(y,e,())⟩:=λy e h=>i (y,e) h;clear i;refine⟨h,λb r=>⟨λ_=>g [] 6 (aq _),λc=>⟨λ_=>g [] 2 (aq _),λm=>?_⟩⟩⟩;have c:b=true:=by cases b<;>simp_all
 obtain⟨s,o,t⟩:=r c;have m:¬@nJ Int _ 64 n:=ap m;refine⟨⟨rfl,rfl,rfl,s,t,o,ac,0,rfl,o,rfl⟩,?_⟩;rintro F u f j out ⟨v,w,x,A,B,C,D,k,E,q,G⟩;subst v w x E;refine⟨λc=>?_,λc=>g _ _ ?_⟩
 ·have c:@nJ Int _ k f:=af c;refine⟨cv,⟨C4 h,by show @aX Int _ (@fA Int Int Int _ u k) 1000000000;omega⟩,λz _=>⟨ac,cv,⟨⟨rfl,rfl,rfl,A,B,C,D,k+1,rfl,?_,?_⟩,?_⟩⟩⟩
  ·show @aX Int _ ((k+1:Nat):Int) f;omega
  ·rw[aa,bi];omega
  ·show(@bO Int Int Int _ f ((k:Int)+1)).toNat<(@bO Int Int Int _ f (k:Int)).toNat;omega
 ·have q:@aX Int _ k f:=q;omega) (l:=λ_=>aU λ_=>⟨([],0),aq _⟩)
def MI:Ct:=⟨6,⟨[HG 0,sI 1,sI 2,sI 3,sI 4,sI 5],[]⟩,[⟨[(0,false,[.d (.sl lu)]),sI 1],[]⟩],λ(p,_)=>fJ (cy p) (λy:List Op×Int=>y.1.length<=64) λy=>(y.1,y.2,())⟩
def Ze:bG:=(113,[MI])::Zc
def Zf:=kA 113 MI Zd (cQ MI 0) (∀(d:Pg)(c a g h i:Int)Q,bg MI (d,c,a,g,h,i,()) Q->cy d/\∀(b:Bool),(b=true->0<=c/\0<=a/\c+a<=4097)->Br (!b) (Q ⟨0,[],6,()⟩) (Br (a==0) (Q ⟨0,[],6,()⟩) (fu d.2.2.2.2.1.1/\∀(b:Int),0<=b/\b<=1099511627776->Br (b==1099511627776) (Q ⟨0,[],14,()⟩) ((qQ d.2.2.2.1/\c<=1000000000)/\∀(b:Fk×Int),True->am (c+a)/\am (c+a-1)/\(qQ d.2.2.2.1/\c+a-(1:Int)<=1000000000)/\∀(e:Fk×Int),True->fu d.2.2.2.2.1.1/\∀(f:Int),let z:= !N9 (f+1,i,b.1.1,b.1.2.1,false,e.1.1,e.1.2.1,true,g,h,());0<=f/\f<=1099511627776->am (f+1)/\True/\Br z (Q ⟨0,[],1,()⟩) (Q ⟨0,[(3,0,0,0,0,false,0,0,0,f+1,i,b.1.1,b.1.2.1,false,e.1.1,e.1.2.1,true,g,h,())],0,()⟩))))) (by
 conv=>zeta
 unfold Br bg;intro p a n x y z Q ⟨h,g⟩;have f:∀(y:List Op)(e:Int),y.length<=64->Q ⟨0,(y,e,())⟩:=λy e h=>g (y,e) h;clear g;have i:=h.2.1;have j:=C4 h;refine⟨h,λb o=>⟨λ_=>f [] 6 (aq _),λc=>⟨λ_=>f [] 6 (aq _),λ_=>⟨i,λl q=>⟨λ_=>f [] 14 (aq _),λ_=>?_⟩⟩⟩⟩⟩;have c:b=true:=by cases b<;>simp_all
 obtain⟨r,s,t⟩:=o c;refine⟨⟨j,by show @aX Int _ a 1000000000;omega⟩,λ_ _=>⟨cv,cv,⟨j,by show @aX Int _ (@bO Int Int Int _ (@fA Int Int Int _ a n) 1) 1000000000;omega⟩,λ_ _=>⟨i,λm u=>⟨cv,trivial,λ_=>f [] 1 (aq _),λ_=>f _ 0 (show 1<=64 by decide)⟩⟩⟩⟩) (l:=λ_=>aU λ_=>⟨([],0),aq _⟩)
def EI:Ct:=⟨4,⟨[HG 0,sI 1,(2,false,[.d .st]),sI 3],[]⟩,[⟨[(0,false,[.d (.sl lu)]),sI 1],[]⟩],λ(p,a,s,u,_)=>fJ (cy p) (λy:List Op×Int=>y.1.length<=64/\(p=ka->a=0->s=[97]->u=0->y=([jr],0))) λy=>(y.1,y.2,())⟩
def Zg:cx:=⟨[HG 0,sI 1,sI 3,sO 10 0,(40,false,[.ptr 1 0])],[some (.sl .i32),some .sit]⟩
def MJ(x:EI.inp.den)(y:Zg.den):Prop:=match x,y with
 |(e,f,c,g,_),(p,a,u,out,s,b,_)=>p=e/\a=f/\u=g/\s=c/\out.length<=64/\@aX Int _ 0 u/\@nJ Int _ u 5/\@aX Int _ 0 a/\@aX Int _ a 4097/\(c=[97]->b=0/\out=[]\/b=1/\out=[97])
def OH:cx:=⟨[sI 3,sI 13,(14,false,[.ptr 0 0]),sL 15,sO 17 1,sO 69 2,sI 70,sI 71],[some (.cells [.d cw]),some (.sl lu),some (.sl .i32)]⟩
def C5(x:EI.inp.den)(y:OH.den):Prop:=match x,y with
 |(e,f,g,c,_),(u,b,h,i,j,l,out,a,_)=>u=c/\a.length<=64/\i=a.length/\∃k:Nat,j=k/\k<=a.length/\out.length=k/\@aX Int _ 0 b/\@aX Int _ (@bO Int Int Int _ (@fA Int Int Int _ b a.length) k) 1099511627776/\(e=ka->f=0->g=[97]->c=0->a=[97]/\(k=0->b=0/\l=(0,0,())/\h=true/\out=[])/\(k=1->out=[jr]))
def a58(x:EI.inp.den):eH:=⟨[(7,bS Zg (MJ x) λ(_,_,_,out,_)=>65-out.length),(18,bS OH (C5 x) λ(_,_,_,a,j,_)=>(@bO Int Int Int _ a j).toNat)],[],[],[],0⟩
theorem Rx(p:Pg)(a:Int)(s:BL)(u:Int):∃y:List Op×Int,y.1.length<=64/\(p=ka->a=0->s=[97]->u=0->y=([jr],0)):=⟨([jr],0),bt,λ_ _ _ _=>rfl⟩
def Zh:bG:=(111,[EI])::Ze
def Zi:=kA 111 EI Zf a58 (∀(a:Pg)(c:Int)(g:BL)(d:Int)Q,let v:=nI a.2.2.2.1.1-1-a.2.2.2.1.2.1<c;let z:=(a,c,g,d,());bg EI z Q->Bd (d<0) (Q ⟨0,[],1,()⟩) (Bd (5<=d) (Q ⟨0,[],1,()⟩) (Bd (c<0) (Q ⟨0,[],6,()⟩) (cy a/\Br (decide v) (Q ⟨0,[],6,()⟩) (Is (MJ z (a,c,d,[],g,0,()))/\∀(h:Pg)(k p:Int)(e:List Int)(s:BL)(t:Nat),let u:=Utf8.decode (bM s) t;MJ z (h,k,p,e,s,t,())->Bd (t<s.length) (Br (nI e==64) (Q ⟨0,[],2,()⟩) ((e.length+1)*4<=mM/\Is (MJ z (h,k,p,e++[(↑u.1:Int)],s,t+u.2,())/\65-(e++[(↑u.1:Int)]).length<65-e.length))) (cy h/\∀(b:Int),0<=b/\b<=1099511627776/\(h=([],[],[],([((0,0,()),0,0,0,false,[[],[]],())],0,()),([],()),())->b=0)->am (b+nI e)/\Bd (1099511627776<b+nI e) (Q ⟨0,[],14,()⟩) ((qQ h.2.2.2.1/\k<=1000000000)/\∀(o:Fk×Bool×Int),(h.2.2.2.1=([((0,0,()),0,0,0,false,[[],[]],())],0,())->k=0->o=((0,0,()),true,0))->Is (C5 z (p,b,o.2.1,nI e,0,o.1,[],e,()))/\∀(l j:Int)(r:Bool)(i f:Int)(q:Fk)(m:List Op)(n:List Int),C5 z (l,j,r,i,f,q,m,n,())->Bd (f<i) (iN f n/\am (j+1)/\(m.length+1)*144<=mM/\am (f+1)/\Is (C5 z (l,j+1,true,i,f+1,(l,j+1,()),m++[(1,l,j+1,q.1,q.2.1,r,gD n f 0,0,0,0,0,0,0,false,0,0,false,0,0,())],n,())/\lN (i-(f+1)) (i-f))) (Q ⟨0,m,0,()⟩)))))))) (by
 conv=>zeta
 unfold Bd Br gD iN lN mM nI bg;intro p a s u Q ⟨h,G⟩;have r:∀(y:List Op)(e:Int),(y.length<=64/\(p=ka->a=0->s=[97]->u=0->(y,e)=([jr],0)))->Q ⟨0,(y,e,())⟩:=λy e h=>G (y,e) h;clear G;have S:=C4 h;have t:=h.2.2.2.1;have U:p.2.2.2.1.1.length<=4097:=t.2.1;have W:@aX Int _ 0 p.2.2.2.1.2.1:=t.2.2.1;refine⟨λc=>r [] 1 ⟨aq _,λ_ _ _ e=>?_⟩,λC=>⟨λc=>r [] 1 ⟨aq _,λ_ _ _ e=>?_⟩,λD=>⟨λc=>r [] 6 ⟨aq _,λ_ e _ _=>?_⟩,λH=>⟨h,λc=>r [] 6 ⟨aq _,λe f _ _=>?_⟩,λE=>?_⟩⟩⟩⟩
 ·exfalso;have c:@nJ Int _ u 0:=af c;have e:@Eq Int u 0:=e;omega
 ·exfalso;have c:@aX Int _ 5 u:=af c;have e:@Eq Int u 0:=e;omega
 ·exfalso;have c:@nJ Int _ a 0:=af c;have e:@Eq Int a 0:=e;omega
 ·exfalso;rw[e,f]at c;revert c;decide
 have C:¬@nJ Int _ u 0:=ap C;have D:¬@aX Int _ 5 u:=ap D;have H:¬@nJ Int _ a 0:=ap H;have E:¬@nJ Int _ ((p.2.2.2.1.1.length:Int)-1-p.2.2.2.1.2.1) a:=ap E;have o:@aX Int _ a 4097:=ac
 clear E t U W;refine⟨⟨rfl,rfl,rfl,rfl,aq _,ac,ac,ac,o,λ_=> .inl ⟨rfl,rfl⟩⟩,?_⟩;rintro p1 X u1 out Y a0 ⟨g,f,i,v,J,i2,i3,i4,i5,z⟩;subst g f i v;refine⟨λc=>⟨λo=>r [] 2 ⟨aq _,λ_ _ e _=>?_⟩,λo=>?_⟩,λc=>?_⟩
 ·exfalso;have o:=bz o;rcases z e with⟨_,q⟩|⟨_,q⟩<;>rw[q]at o<;>revert o<;>decide
 ·rw[aC]at o;refine⟨ac,⟨⟨rfl,rfl,rfl,rfl,?_,i2,i3,i4,i5,λe=>?_⟩,?_⟩⟩
  ·rw[aa,bi];omega
  ·have c:=af c;subst e;rcases z rfl with⟨x,A⟩|⟨x,A⟩
   ·subst x A;exact .inr ⟨bt,bt⟩
   ·exfalso;rw[x]at c;exact absurd c bt
  ·rw[aa,bi];omega
 have fin:Y=[97]->out=[97]:=by
  intro e;have c:=ap c;subst e;rcases z rfl with⟨x,_⟩|⟨_,A⟩
  ·exfalso;rw[x]at c;exact absurd c bt
  ·exact A
 refine⟨h,λct m=>⟨cv,λw=>r [] 14 ⟨aq _,λe _ _ _=>?_⟩,λw=>⟨⟨S,by show @aX Int _ X 1000000000;omega⟩,λb K=>?_⟩⟩⟩
 ·exfalso;have:=m.2.2 e;have w:=af w;omega
 have w:=ap w;refine⟨⟨rfl,J,rfl,0,rfl,aq _,rfl,m.1,by show @aX Int _ (ct+(out.length:Int)-((0:Nat):Int)) 1099511627776;omega,λg f i v=>⟨fin i,λ_=>?_,λe=>ac⟩⟩,?_⟩
 ·have:=K (by rw[g];rfl) f;exact⟨m.2.2 g,by rw[this],by rw[this],rfl⟩
 clear J z fin m w K c C D;rintro u2 n rt ln j ab o2 F ⟨g,j1,f,k,i,L,j3,M,N,O⟩;subst g f i;have N:@aX Int _ (n+(F.length:Int)-(k:Int)) 1099511627776:=N;have M:@aX Int _ 0 n:=M;refine⟨λc=>?_,λc=>r _ _ ⟨by have:=ap c;omega,λg f i v=>?_⟩⟩
 ·have c:k<F.length:=by have:=af c;omega
  refine⟨ac,cv,ac,cv,⟨⟨rfl,j1,rfl,k+1,rfl,c,?_,?_,?_,λg f i v=>?_⟩,ac⟩⟩
  ·rw[aa,bi];omega
  ·show @aX Int _ 0 (n+1);omega
  ·show @aX Int _ (n+1+(F.length:Int)-((k+1:Nat):Int)) 1099511627776;omega
  ·obtain⟨B,P,R⟩:=O g f i v;refine⟨B,λe=>ac,λe=>?_⟩;have k0:k=0:=ac
   subst k0 v;obtain⟨f1,f2,f3,f4⟩:=P rfl;rw[f1,f2,f3,f4,B];rfl
 ·have c:=ap c;obtain⟨B,P,R⟩:=O g f i v;have h1:k=1:=by rw[B]at c L;simp at c L;omega
  rw[R h1]) (l:=λ_=>aU λ_=>Rx _ _ _ _)
abbrev tLa:Ty:= .ar 2 (.ar 5 .i64)
def hY(j:Nat):List (Option CP):=[some (.cells [.d .i64, .d tB, .d tB, .d (.pf TG), .mp (j+1), .ptr (j+2) 0, .d N8, .d tLa, .d (.sl iZ)]),some (.mp .i64 tB)]++jW (j+2)
def TS(a:Int)(o:Op):Bool:= !(o.1==1&&o.2.1 !=a||o.1==3&&o.2.2.2.2.2.2.2.2.2.2.1 !=a)
def HK(l:List Op)(a:Int):Bool:=l.all (TS a)&&decide (0<l.length)
def MK:Ct:=⟨2,⟨[(0,false,[.d (.sl lu)]),sI 1],[]⟩,[⟨[sL 0],[]⟩],λ(l,a,_)=>one (l.length<=1000000) (HK l a,())⟩
def Zj:cx:=⟨[(0,false,[.d (.sl lu)]),sI 1,(7,false,[.d (.sl lu)]),sI 8,sI 9],[]⟩
def HL(l:List Op)(a:Int)(y:Zj.den):Prop:=match y with
 |(b,c,e,n,i,_)=>b=l/\c=a/\e=l/\n=l.length/\∃k:Nat,i=k/\k<=l.length/\(l.take k).all (TS a)=true
def a59(x:MK.inp.den):eH:=⟨[(2,bS Zj (HL x.1 x.2.1) λ(_,_,_,n,i,_)=>(n-i).toNat)],[],[],[],0⟩
def Zk:bG:=(115,[MK])::Zh
def Zl:=kA 115 MK Zi a59 (∀(e:List Op)(f:Int)Q,bg MK (e,f,()) Q->Is (HL e f (e,f,e,nI e,0,()))/\∀(g:List Op)(d:Int)(b:List Op)(c a:Int),let i:= !(gD b a zO).2.2.2.2.2.2.2.2.2.2.1==d;let h:=am (a+1)/\Is (HL e f (g,d,b,c,a+1,())/\lN (c-(a+1)) (c-a));let z:=Br ((gD b a zO).1==3) (Br i (Q ⟨0,false,()⟩) h) h;HL e f (g,d,b,c,a,())->Bd (a<c) (iN a b/\Br ((gD b a zO).1==1) (Br (!(gD b a zO).2.1==d) (Q ⟨0,false,()⟩) z) z) (Q ⟨0,decide (0<nI g),()⟩)) (by
 conv=>zeta
 unfold Bd Br gD iN lN nI bg zO;intro l a Q ⟨z,f⟩;refine⟨⟨rfl,rfl,rfl,rfl,0,rfl,aq _,rfl⟩,?_⟩;rintro A e b n i ⟨rfl,rfl,rfl,rfl,k,rfl,B,j⟩;refine⟨λm=>?_,λp=>?_⟩
 ·have c:k<b.length:=by simp only[ai]at m;omega
  have t:((k:Int).toNat)=k:=ac
  rw[t]
  have u:b.getD k (0,0,0,0,0,false,0,0,0,0,0,0,0,false,0,0,false,0,0,())∈b:=by
   rw[aw,an c,dA];exact ls c
  have v:b.take (k+1)=b.take k++[b.getD k (0,0,0,0,0,false,0,0,0,0,0,0,0,false,0,0,false,0,0,())]:=by
   rw[dR,aw,an c];rfl
  generalize b.getD k (0,0,0,0,0,false,0,0,0,0,0,0,0,false,0,0,false,0,0,())=o at*
  have q:TS e o=false->Q ⟨0,(false,())⟩:=by
   intro h
   have:HK b e=false:=by
    unfold HK
    have:b.all (TS e)=false:=by
     rw[<-cm,cH];intro w;rw[w o u]at h;cases h
    rw[this];rfl
   rw[this]at f;exact f
  have g:TS e o=true->am ((k:Int)+1)/\Is (HL b e (b,e,b,b.length,(k:Int)+1,())/\((b.length:Int)-((k:Int)+1)).toNat<((b.length:Int)-k).toNat):=by
   intro h;refine⟨cv,⟨rfl,rfl,rfl,rfl,k+1,rfl,c,?_⟩,ac⟩;rw[v,List.all_append,j];simp[h]
  refine⟨ac,λx=>⟨λy=>q ?_,λy=>⟨λr=>⟨λs=>q ?_,λs=>g ?_⟩,λr=>g ?_⟩⟩,λx=>⟨λr=>⟨λs=>q ?_,λs=>g ?_⟩,λr=>g ?_⟩⟩
  all_goals simp_all[TS]
 ·have:HK b e=decide ((0:Int)<b.length):=by
   simp only[aj]at p;rw[bb ac]at j;unfold HK;rw[j];simp
  rw[this]at f;exact f)
def EJ:Ct:=⟨3,⟨[sP 0,sI 1,sI 2],hY 0⟩,[⟨[(0,true,[.d jf]),sL 1],hY 0⟩],λ(b,id,c,e,f,a,g,h,i,j,bk,_)=>dZ (cK a.2.1 a.2.2.1) (gn (cZ a.2.1 b) id) λy=>(y.1,y.2,c,e,f,a,g,h,i,j,bk,())⟩
def Zm:cx:=⟨[sP 0,sI 2,(6,false,[.ptr 4 0]),(15,false,[.d (.sl jf)]),sI 16,sI 17],hY 0++[some (.cells [.d jf])]⟩
def ML(x:EJ.inp.den)(y:Zm.den):Prop:=match x,y with
 |(p,id,c,q,r,o,s,t,u,v,bk,_),(a,l,n,i,w,b,e,f,fO,g,h,j,m,_)=>a=id/\l=cZ o.2.1 p/\n=l.length/\(w,b,e,f,fO,g,h,j,m)=(c,q,r,o,s,t,u,v,bk)/\∃k:Nat,i=k/\k<=l.length/\gn (l.drop k) id=gn l id
def a6a(x:EJ.inp.den):eH:=⟨[(2,bS Zm (ML x) λ(_,_,n,i,_)=>(n-i).toNat)],[],[],[],0⟩
abbrev Ry(v:Mb×Bool×Int×BL×BL×Lg×Pg×List (List Int)×List Fk×List (Int×BL)×Ln×Unit):cF EJ.out:=⟨0,v⟩
def Zn:bG:=(154,[EJ])::Zk
def Zo:=kA 154 EJ Zl a6a (∀(c f g:Int)(h i:List (BitVec 8))(a:List (BitVec 8)×List (Int×List (BitVec 8)×List (Int×List (BitVec 8)×List (BitVec 8)×Unit)×List (Int×Int×Unit)×List (BitVec 8)×List (List (BitVec 8))×List (BitVec 8)×Unit)×List (List (BitVec 8))×Unit)(j:List ((Int×Int×Unit)×Int×Int×Int×Int×Bool×Int×Unit)×List ((Int×Int×Unit)×Int)×List (Int×Int×Int×Int×Bool×Int×Unit)×(List ((Int×Int×Unit)×Int×Int×Int×Bool×List (List (Int×Int×Unit))×Unit)×Int×Unit)×(List (Int×Int×Int×Int×Bool×Int×Int×Bool×Int×Int×Unit)×Unit)×Unit)(k:List (List Int))(l:List (Int×Int×Unit))(m:List (Int×List (BitVec 8)))(n:List (Int×List (List (BitVec 8)×List (BitVec 8)×Int×Unit)))(Q:cF EJ.out->Prop),(Tr.need (cK a.2.1 a.2.2.1) (Tr.all (Mb×Bool) (λy=>y=gn (cZ a.2.1 c) f) λy=>Tr.leaf (Ry (y.1,y.2,g,h,i,a,j,k,l,m,n,())))).sat Q->cK a.2.1 a.2.2.1/\Is (ML (c,f,g,h,i,a,j,k,l,m,n,()) (f,cZ a.2.1 c,nI (cZ a.2.1 c),0,g,h,i,a,j,k,l,m,n,(0,[],[],()),()))/\∀(o:Int)(d:List (Int×List (BitVec 8)×List (BitVec 8)×Unit))(e b p:Int)(q r:List (BitVec 8))(s:List (BitVec 8)×List (Int×List (BitVec 8)×List (Int×List (BitVec 8)×List (BitVec 8)×Unit)×List (Int×Int×Unit)×List (BitVec 8)×List (List (BitVec 8))×List (BitVec 8)×Unit)×List (List (BitVec 8))×Unit)(t:List ((Int×Int×Unit)×Int×Int×Int×Int×Bool×Int×Unit)×List ((Int×Int×Unit)×Int)×List (Int×Int×Int×Int×Bool×Int×Unit)×(List ((Int×Int×Unit)×Int×Int×Int×Bool×List (List (Int×Int×Unit))×Unit)×Int×Unit)×(List (Int×Int×Int×Int×Bool×Int×Int×Bool×Int×Int×Unit)×Unit)×Unit)(u:List (List Int))(v:List (Int×Int×Unit))(w:List (Int×List (BitVec 8)))(z:List (Int×List (List (BitVec 8)×List (BitVec 8)×Int×Unit)))(x:Int×List (BitVec 8)×List (BitVec 8)×Unit),ML (c,f,g,h,i,a,j,k,l,m,n,()) (o,d,e,b,p,q,r,s,t,u,v,w,z,x,())->Bd (b<e) (iN b d/\Br ((gD d b (0,[],[],())).1==o) (Q ⟨0,gD d b (0,[],[],()),true,p,q,r,s,t,u,v,w,z,()⟩) (am (b+1)/\Is (ML (c,f,g,h,i,a,j,k,l,m,n,()) (o,d,e,b+1,p,q,r,s,t,u,v,w,z,x,())/\lN (e-(b+1)) (e-b)))) (Q ⟨0,(0,[],[],()),false,p,q,r,s,t,u,v,w,z,()⟩)) (by
 unfold Bd Br gD iN lN nI;intro j id c x A f B C D E bk Q ⟨t,u⟩;have m:∀y:Mb×Bool,gn (cZ f.2.1 j) id=y->Q ⟨0,(y.1,y.2,c,x,A,f,B,C,D,E,bk,())⟩:=λy e=>u y e.symm;clear u
 have F:(cZ f.2.1 j).length<=1000000:=by
  unfold cZ;split
  ·simp
  ·have G:=aV (z:=((0,[],[],[],[],[],[],()):Et)) (show(j-1).toNat<f.2.1.length by omega);exact(t.1.2 _ G).1
 refine⟨t,⟨rfl,rfl,rfl,rfl,0,rfl,aq _,rfl⟩,?_⟩;rintro J l n i c1 K L M fO N O P R z ⟨S,v,U,w,k,W,hk,a⟩;simp only[Prod.mk.injEq]at w;obtain⟨X,Y,e8,e9,o,p,q,r,s⟩:=w;subst S X Y e8 e9 o p q r s U W;rw[<-v]at m F;simp only[aG,ai,aj,aS,aC,ne_eq];refine⟨λh=>?_,λh=>m (AI,false) ?_⟩
 ·have b:k<l.length:=ac
  rw[dv (z:=((0,[],[],()):Mb)) b]at a;generalize l.getD k (0,[],[],())=H at*;simp only[gn]at a;refine⟨ac,λg=>m (H,true) ?_,λg=>⟨cv,⟨⟨rfl,v,rfl,rfl,k+1,rfl,b,?_⟩,ac⟩⟩⟩
  ·rw[<-a,ak g]
  ·rw[<-a,ae g]
 ·rw[<-a,bu ac];rfl) (l:=λ_=>bA)
def oh(c:Int)(lg:Lg):Int:=if(gn (cZ lg.2.1 lg.2.1.length) c).2=true then 0 else 19
def HM:Ct:=⟨1,⟨[sP 0],hY 0⟩,[⟨[sI 0],hY 0⟩],λ(c,b,e,a,f,g,h,i,bk,_)=>one (cK a.2.1 a.2.2.1) (oh c a,c,b,e,a,f,g,h,i,bk,())⟩
abbrev Rz(v:Int×Int×BL×BL×Lg×Pg×List (List Int)×List Fk×List (Int×BL)×Ln×Unit):cF HM.out:=⟨0,v⟩
def Zp:bG:=(114,[HM])::Zn
def Zq:=kA 114 HM Zo (cQ HM 0) (∀(c:Int)(d e:List (BitVec 8))(a:List (BitVec 8)×List (Int×List (BitVec 8)×List (Int×List (BitVec 8)×List (BitVec 8)×Unit)×List (Int×Int×Unit)×List (BitVec 8)×List (List (BitVec 8))×List (BitVec 8)×Unit)×List (List (BitVec 8))×Unit)(f:List ((Int×Int×Unit)×Int×Int×Int×Int×Bool×Int×Unit)×List ((Int×Int×Unit)×Int)×List (Int×Int×Int×Int×Bool×Int×Unit)×(List ((Int×Int×Unit)×Int×Int×Int×Bool×List (List (Int×Int×Unit))×Unit)×Int×Unit)×(List (Int×Int×Int×Int×Bool×Int×Int×Bool×Int×Int×Unit)×Unit)×Unit)(g:List (List Int))(h:List (Int×Int×Unit))(i:List (Int×List (BitVec 8)))(j:List (Int×List (List (BitVec 8)×List (BitVec 8)×Int×Unit)))(Q:cF HM.out->Prop),(Tr.need (cK a.2.1 a.2.2.1) (Tr.leaf (Rz (oh c a,c,d,e,a,f,g,h,i,j,())))).sat Q->True/\cK a.2.1 a.2.2.1/\∀b,b=gn (cZ a.2.1 (nI a.2.1)) c->Br (!b.2) (Q ⟨0,19,c,d,e,a,f,g,h,i,j,()⟩) (Q ⟨0,0,c,d,e,a,f,g,h,i,j,()⟩)) (by
 unfold Br nI;intro c g i j l m n o bk Q ⟨f,a⟩;refine⟨trivial,f,λb e=>⟨λh=>?_,λh=>?_⟩⟩
 ·unfold oh at a;rw[<-e]at a;simp only[aR]at h;rw[h]at a;exact a
 ·unfold oh at a;rw[<-e]at a;simp only[aN]at h;rw[h]at a;exact a)
def kS(c:Int)(sg:BL)(lg:Lg)(km:List (Int×BL))(l:Lt)(text:BL)(ts:List Tm)(m:KV):(Lt×Int)×List Tm×KV:=
 lk sg (mT sg ((aO .i64 (lg.2.1.length:Int) km).getD []) (l.1,c,lg.2.1.length,l.2.2.2) text ts m)
def HN:Ct:=⟨4,⟨[sP 0,sS 1 4,AO 2,sB 3],hY 0++lZ 4⟩,[⟨[AO 0,sI 1],hY 0++ma 4 7++[cT]⟩],λ(l,text,c,g,a,b,h,i,j,e,bk,d,f,m,_)=>dZ (cb 4 f) (kS c a b e l text f m) λy=>(y.1.1,y.1.2,c,g,a,b,h,i,j,e,bk,d,y.2.2,y.2.1,())⟩
abbrev RA(v:Lt×Int×Int×BL×BL×Lg×Pg×List (List Int)×List Fk×List (Int×BL)×Ln×Int×KV×List Tm×Unit):cF HN.out:=⟨0,v⟩
def Zr:bG:=(118,[HN])::Zp
def Zs:=kA 118 HN Zq (cQ HN 0) (∀(g:Int×Int×Int×Int×List (BitVec 8)×List (BitVec 8)×List (BitVec 8)×Unit)(h:List (BitVec 8))(c:Int)(i d:List (BitVec 8))(a:List (BitVec 8)×List (Int×List (BitVec 8)×List (Int×List (BitVec 8)×List (BitVec 8)×Unit)×List (Int×Int×Unit)×List (BitVec 8)×List (List (BitVec 8))×List (BitVec 8)×Unit)×List (List (BitVec 8))×Unit)(j:List ((Int×Int×Unit)×Int×Int×Int×Int×Bool×Int×Unit)×List ((Int×Int×Unit)×Int)×List (Int×Int×Int×Int×Bool×Int×Unit)×(List ((Int×Int×Unit)×Int×Int×Int×Bool×List (List (Int×Int×Unit))×Unit)×Int×Unit)×(List (Int×Int×Int×Int×Bool×Int×Int×Bool×Int×Int×Unit)×Unit)×Unit)(k:List (List Int))(l:List (Int×Int×Unit))(e:List (Int×List (BitVec 8)))(m:List (Int×List (List (BitVec 8)×List (BitVec 8)×Int×Unit)))(n:Int)(f:List (BitVec 8×List (List (BitVec 8))×Unit))(o:List (List (BitVec 8)×Int))(Q:cF HN.out->Prop),(Tr.need (cb 4 f) (Tr.all ((Lt×Int)×List Tm×KV) (λy=>y=kS c d a e g h f o) λy=>Tr.leaf (RA (y.1.1,y.1.2,c,i,d,a,j,k,l,e,m,n,y.2.2,y.2.1,())))).sat Q->True/\cb 4 f/\∀b,b=mT d ((aO Ty.i64 (nI a.2.1) e).getD []) (g.1,c,nI a.2.1,g.2.2.2) h f o->Q ⟨0,b.1.1,b.1.2,c,i,d,a,j,k,l,e,m,n,b.2.2,b.2.1,()⟩) (by
 unfold nI;intro l text c g h i j n o p bk d q m Q ⟨a,e⟩;exact⟨trivial,a,λb f=>e b (by rw[f,kS,bN])⟩) (l:=λ_=>bA)
variable{ep sec sg text:BL}{ts:List Tm}
theorem lmS{l:Lt}(m:KV)(h:cb (k+4) ts):cb k (mT sec ep l text ts m).2.1/\(mT sec ep l text ts m).1.1.2.2.2.2.1.length<=32/\(mT sec ep l text ts m).1.1.2.2.2.2.2.1.length<=4112/\(mT sec ep l text ts m).1.1.2.2.2.2.2.2.1.length<=64:=by
 unfold mT;rw[bN];split
 ·exact⟨h.mono ac,by simp[Lc]⟩
 rename_i f;split
 ·exact⟨h.mono ac,by simp[Lc]⟩
 rename_i a;rw[not_or,not_or]at f;have a:(fY text).2=0:=aA.1 a;have g:pD l:=by have:=f.2.2;rw[bR]at this;exact af this
 have b:l.2.2.2.2.1.length<=32:=by have:=g.2.2.2.2.2.2.2.2;omega
 have u:=mi l;have v:=paA text a;have i:aB sec:=hK
 have o:aB ep:=hK
 have c:aB (dp l):=hK
 have w:=bC l.1;have x:=bC l.2.1;have p:=rl (k:=k+3) m h (xp (k:=107) bt bt o (show aB (jB l)by unfold aB jB;simp;omega));have y:=bE (K3 (107,[ep,jB l],()) ts m) (Eg (by show(107:BitVec 8)≠98;decide));unfold Qz;dsimp only;generalize cM (107,[ep,jB l],()) ts m=K at*;have q:=seS (j:=k+2) (n:=l.2.2.2.1) K.2.2 (show aB K.1 by unfold aB;omega) c (show aB (fY text).1 by unfold aB;omega) p;generalize jp K.1 l.2.2.2.1 (dp l) (fY text).1 K.2.1 K.2.2=B at*;have e:aB B.1:=hK
 have r:=pZ (k:=k+1) B.2.2 q.1 (ja (k:=104) bt bt e);have z:=bE (Nat.le_of_eq (vp (104,[B.1],()) B.2.1 B.2.2)) (Eg (by show(104:BitVec 8)≠98;decide));generalize dI (104,[B.1],()) B.2.1 B.2.2=X at*;have A:=eC X.1;have s:=rl X.2.2 r (xp (k:=103) bt bt i (show aB (dp l++tx X.1)by unfold aB;rw[aa];omega));have t:=bE (K3 (103,[sec,dp l++tx X.1],()) X.2.1 X.2.2) (Eg (by show(103:BitVec 8)≠98;decide));generalize cM (103,[sec,dp l++tx X.1],()) X.2.1 X.2.2=G at*;exact⟨s,b,ac,t⟩
theorem Zt{lg:Lg}{km:List (Int×BL)}{l:Lt}(m:KV)(h:cb (k+4) ts):cb k (kS c sg lg km l text ts m).2.1/\(kS c sg lg km l text ts m).1.1.2.2.2.2.1.length<=32/\(kS c sg lg km l text ts m).1.1.2.2.2.2.2.1.length<=4112/\(kS c sg lg km l text ts m).1.1.2.2.2.2.2.2.1.length<=64:=by
 unfold kS;rw[bN];exact lmS m h
abbrev La:=List (List Int)
abbrev KM:=List (Int×BL)
theorem heK{bk:Ln}(h:cr bk)(c:Int):0<=(fe bk c).2.1/\(fe bk c).2.1<=1048576:=by
 unfold fe;split
 ·simp
 ·have:=(h c).1;show(0:Int)<=(cJ bk c).length/\((cJ bk c).length:Int)<=1048576;omega
def JO(b:Pg)(l:List Op)(c:Int×Pg):Prop:=∃a,jD b a/\zd a l c
def RB(lt:Lt)(a:Pg)(b:Pg)(bk:Ln)(ts:List Tm)(m:KV):(BL×Int)×Pg×Ln×List Tm×KV:=
 let h:=dI (104,[lt.2.2.2.2.2.1],()) ts m
 let t:=kp (lt.2.1,lt.2.2.2.1,lt.2.2.1,lt.2.2.2.2.1,h.1,()) bk h.2.1 h.2.2
 if t.1≠0 then(([],t.1),b,t.2.1,t.2.2)else((eV lt,0),a,t.2.1,t.2.2)
def xr(c:Int)(sg:BL)(lg:Lg)(a:Pg)(km:KM)(bk:Ln)(l:List Op)(b:Int×Pg)(ts:List Tm)(m:KV):(BL×Int)×Pg×Ln×List Tm×KV:=
 lk sg (if oh c lg≠0 then(([],oh c lg),a,bk,ts,m)
 else if 64<l.length\/HK l c=false\/l.all gT=false then(([],1),a,bk,ts,m)
 else if(fe bk c).2.1=1048576 then(([],14),a,bk,ts,m)
 else if b.1≠0 then(([],b.1),a,bk,ts,m)
 else
  let z:=kS c sg lg km (2,0,0,(fe bk c).2.1+1,(fe bk c).2.2.1,[],[],()) (cE l) ts m
  if z.1.2≠0 then(([],z.1.2),a,bk,z.2)else RB z.1.1 b.2 a bk z.2.1 z.2.2)
def HO:Ct:=⟨3,⟨[sP 0,sS 1 4,(2,false,[.d (.sl lu)])],hY 0++lZ 4⟩,[⟨[(0,false,[.d tB]),sI 1],hY 0++ma 4 7++[cT]⟩],λ(l,c,i,e,a,b,j,n,f,bk,d,g,m,_)=>fJ (l.length<=1000000/\cK a.2.1 a.2.2.1/\cr bk/\cy b/\cb 6 g) (λy=>∃h,JO b l h/\y=xr c e a b f bk l h g m) λy=>(y.1.1,y.1.2,c,i,e,a,y.2.1,j,n,f,y.2.2.1,d,y.2.2.2.2,y.2.2.2.1,())⟩
def Zu:cx:=⟨[sP 0,sS 1 4,(2,false,[.d (.sl lu)]),(35,false,[.d (.sl lu)]),sI 36,sI 37],hY 0++lZ 4⟩
def MM(x:HO.inp.den)(y:Zu.den):Prop:=match x,y with
 |(l,c,q,r,p,s,t,u,v,bk,d,w,m,_),(z,A,n,i,B,a,b,e,fO,f,g,h,j,C,o,D,_)=>z=l/\A=l/\n=l.length/\(B,a,b,e,fO,f,g,h,j,C,o,D)=(c,q,r,p,s,t,u,v,bk,d,w,m)/\oh c p=0/\l.length<=64/\HK l c=true/\∃k:Nat,i=k/\k<=l.length/\(l.take k).all gT=true
def a6b(x:HO.inp.den):eH:=⟨[(7,bS Zu (MM x) λ(_,_,n,i,_)=>(n-i).toNat)],[],[],[],0⟩
def Zv:bG:=(76,[HO])::Zr
def Zw:=kA 76 HO Zs a6b (∀(f:List Op)(d:Int)(m n:BL)(e:Lg)(p:Pg)(q:La)(r:List Fk)(s:KM)(t:Ln)(u:Int)(v:List Tm)(w:KV)Q,let J:=(d,m,n,e,p,q,r,s,t,u,w,v,());let A:=(d,m,n,e,p,q,r,s,t,u,v,w,());bg HO (f,A) Q->cK e.2.1 e.2.2.1/\Br (!oh d e==0) (Q ⟨0,[],oh d e,J⟩) (Bd (64<nI f) (Q ⟨0,[],1,J⟩) (f.length<=1000000/\Br (!HK f d) (Q ⟨0,[],1,J⟩) (Is (MM (f,A) (f,f,nI f,0,A))/\∀(x D:List Op)(B g a:Int)(y i:BL)(j:Lg)(k:Pg)(z:La)(E:List Fk)(l:KM)(c:Ln)(F:Int)(G:List Tm)(K:KV),let P:=(fe c a).2.1==1048576;let M:=(a,y,i,j,k,z,E,l,c,F,G,K,());let L:=(a,y,i,j,k,z,E,l,c,F,K,G,());MM (f,A) (x,D,B,g,M)->Bd (g<B) (iN g D/\True/\Br (!gT (gD D g zO)) (Q ⟨0,[],1,L⟩) (am (g+1)/\Is (MM (f,A) (x,D,B,g+1,M)/\lN (B-(g+1)) (B-g)))) (cr c/\Br P (Q ⟨0,[],14,L⟩) (cy k/\∀(b:Pg),jD k b->(cy b/\x.length<=1000000)/\∀(H:Int×Pg),zd b x H->Br (!H.1==0) (Q ⟨0,[],H.1,L⟩) (am ((fe c a).2.1+1)/\(0+100*x.length<=1000000000/\∀(o:Op),o∈x->CA o)/\cb 4 G/\∀b,let N:=jV (ag 8 104,[b.1.1.2.2.2.2.2.1],()) b.2.1 b.2.2;b=kS a i j l (2,0,0,(fe c a).2.1+1,(fe c a).2.2.1,[],[],()) (cE x) G K->Br (!b.1.2==0) (Q ⟨0,[],b.1.2,a,y,i,j,k,z,E,l,c,F,b.2.2,b.2.1,()⟩) ((aB b.1.1.2.2.2.2.2.1/\b.2.1.length<=4294967296)/\∀C,C=(jH (ag 8 104,[b.1.1.2.2.2.2.2.1],()) N.1,N.2)->(C.2.1.length<=4294967295/\cr c)/\∀h,let O:=(z,E,l,h.2.1,F,h.2.2.2,h.2.2.1,());h=kp (b.1.1.2.1,b.1.1.2.2.2.1,b.1.1.2.2.1,b.1.1.2.2.2.2.1,C.1,()) c C.2.1 C.2.2->Br (!h.1==0) (Q ⟨0,[],h.1,a,y,i,j,k,O⟩) (0+ah b.1.1.2.2.2.2.1+ah b.1.1.2.2.2.2.2.1+ah b.1.1.2.2.2.2.2.2.1<=1000000000/\Q ⟨0,eV b.1.1,0,a,y,i,j,H.2,O⟩))))))))) (by
 conv=>zeta
 unfold Bd Br gD iN lN nI bg zO;intro l c se U W A la fk X bk d ts m Q ⟨⟨Y,h2,C,h4,h5⟩,hQ⟩;have a:∀p y,JO A l p->xr c U W A X bk l p ts m=y->Q ⟨0,(y.1.1,y.1.2,c,se,U,W,y.2.1,la,fk,X,y.2.2.1,d,y.2.2.2.2,y.2.2.2.1,())⟩:=λp y hc e=>hQ y ⟨p,hc,e.symm⟩;clear hQ;obtain⟨p0,D⟩:=js A;obtain⟨c0,E⟩:=rr p0 l;have j:JO A l c0:=⟨p0,D,E⟩;unfold xr at a;simp only[bN]at a;simp only[aR,aN,ai,aj,aS,aC,ne_eq];refine⟨h2,λq=>a _ _ j (ak q),λq=>?_⟩;simp only[ne_eq,q,not_true_eq_false,if_false]at a;refine⟨λe2=>a _ _ j (ak (.inl ac)),λe2=>⟨Y,λs=>a _ _ j (ak (.inr (.inl s))),λs=>⟨⟨rfl,rfl,rfl,rfl,q,ac,s,0,rfl,aq _,rfl⟩,?_⟩⟩⟩;rintro l1 b n i u a0 F G fO a1 a2 H v d1 a3 m1 ⟨g1,g2,g3,g4,-,-,-,k,g5,hk,B⟩;simp only[Prod.mk.injEq]at g4;obtain⟨f1,f2,f3,f4,f5,f6,f7,f8,f9,J,K,L⟩:=g4;subst g1 g2 g3 g5 f1 f2 f3 f4 f5 f6 f7 f8 f9 J K L;have q:((k:Int).toNat)=k:=ac
 rw[q];refine⟨λa4=>?_,λa5=>?_⟩
 ·have f:k<b.length:=ac
  have hM:b.getD k (0,0,0,0,0,false,0,0,0,0,0,0,0,false,0,0,false,0,0,())∈b:=by
   rw[aw,an f,dA];exact ls f
  have hT:b.take (k+1)=b.take k++[b.getD k (0,0,0,0,0,false,0,0,0,0,0,0,0,false,0,0,false,0,0,())]:=by
   rw[dR,aw,an f];rfl
  generalize b.getD k (0,0,0,0,0,false,0,0,0,0,0,0,0,false,0,0,false,0,0,())=o at*;refine⟨ac,trivial,λg=>a _ _ j (ak (.inr (.inr ?_))),λg=>⟨cv,⟨⟨rfl,rfl,rfl,rfl,‹_›,ac,s,k+1,rfl,f,?_⟩,ac⟩⟩⟩
  ·rw[<-cm,cH];intro r;rw[r o hM]at g;cases g
  ·rw[hT,List.all_append,B];simp[g]
 ·rw[bb ac]at B;have e4:¬(64<b.length\/HK b u=false\/b.all gT=false):=by rw[s,B];simp;omega
  simp only[e4,if_false]at a;refine⟨C,λM=>a _ _ j (ak M),λM=>⟨h4,λp1 w=>⟨⟨w.1,Y⟩,λp N=>?_⟩⟩⟩;simp only[M,if_false]at a;have j:JO fO b p:=⟨p1,w,N⟩;refine⟨λO=>a _ _ j (ak O),λO=>?_⟩;have a:=λy=>a p y j;simp only[O,not_true_eq_false,if_false]at a;have hs:=heK C u;refine⟨cv,⟨ac,λo ho=>YI (cH.1 B o ho)⟩,h5.mono ac,λz hz=>?_⟩;have P:=Zt (k:=2) (sg:=F) (text:=cE b) (c:=u) (lg:=G) (km:=H) (l:=(2,0,0,(fe v u).snd.fst+1,(fe v u).snd.snd.fst,[],[],())) m1 h5;rw[<-hz]at a P;clear hz;refine⟨λR=>a _ (ak R),λR=>?_⟩;simp only[R,not_true_eq_false,if_false]at a;have x:aB z.1.1.2.2.2.2.2.1:=hK
  refine⟨⟨x,P.1.le⟩,λh r=>?_⟩;have r:h=dI (104,[z.1.1.2.2.2.2.2.1],()) z.2.1 z.2.2:=r;have sh:=pZ z.2.2 P.1 (ja (k:=104) bt bt x);unfold RB at a;dsimp only at a;rw[<-r]at a sh;clear r;refine⟨⟨by have:=sh.2;omega,C⟩,λt ht=>?_⟩;rw[<-ht]at a;clear ht;refine⟨λS=>a _ (ak S),λS=>⟨ac,a _ (ae (λg=>g S))⟩⟩) (l:=λ_=>aU λ_=>⟨_,_,⟨_,(js _).choose_spec,(rr _ _).choose_spec⟩,rfl⟩)
end Go.Tp
