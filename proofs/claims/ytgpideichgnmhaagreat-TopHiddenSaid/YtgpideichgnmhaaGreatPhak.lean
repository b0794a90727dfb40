/- A part of the proof of TopHiddenSaid: no conditions; packed by a program of our own. -/
import Derived.Test.YtgpideichgnmhaaGreatPhaj
import Derived.Test.YtgpideichgnmhaaGreatPhah
set_option linter.defProp false
set_option linter.unusedVariables false
set_option linter.unusedSimpArgs false
open And renaming intro→ck
open Bool renaming and_eq_true→aK,false_eq_true→cz,true_and→lx,not_eq_true'→aR,not_eq_false'→aN
open Decidable renaming not_not→aA
open Int renaming toNat_of_nonneg→qJ
open LE renaming le→aX
open List renaming replicate→ax,length_append→aa,append_assoc→ay,mem_append→ba,drop_of_length_le→bu,nil_append→eO,take_of_length_le→bb,append_nil→aH,mem_cons→bm,getElem?_eq_getElem→an,drop_drop→ko,take_append_drop→ej,length_take→bd,length→ah,getD_eq_getElem?_getD→aw,getElem?_eq_none→be,length_nil→dx,mem_cons_self→aF,mem_cons_of_mem→aD,mem_map_of_mem→fV,getElem_mem→ls,mem_singleton→bV,length_drop→cW,length_singleton→bi,take_add_one→dR,take_length→bv
open Nat renaming le_refl→aE,le_trans→bE,zero_le→aq,lt_or_ge→br
open Option renaming getD_some→dA
open Prod renaming ext→ga
namespace Go.Tp
open Go.Hv Go.Proofs Go.RowKit
set_option maxRecDepth 100000
set_option maxHeartbeats 0
def MN:Ct:=⟨2,⟨[sB 0,(1,false,[.d (.sl iZ)])],[]⟩,[⟨[(0,false,[.d tB])],[]⟩],λ(b,l,_)=>fJ (b.length<=1000000/\l.length<=10000000) (λy=>y.length<=b.length+7+14*l.length) λy=>(y,())⟩
def Zx:cx:=⟨[sB 0,(11,false,[.d (.sl iZ)]),sI 12,sI 13],[]⟩
def MO(b:BL)(l:List Fk)(y:Zx.den):Prop:=match y with
 |(a,c,n,i,_)=>c=l/\n=l.length/\∃k:Nat,i=k/\k<=l.length/\a.length<=b.length+7+14*k
def a6c(x:MN.inp.den):eH:=⟨[(3,bS Zx (MO x.1 x.2.1) λ(_,_,n,i,_)=>(n-i).toNat)],[],[],[],0⟩
def Zy:bG:=(124,[MN])::Zv
def Zz:=kA 124 MN Zw a6c (∀(c:BL)(b:List Fk)Q,bg MN (c,b,()) Q->c.length<=1099511627776/\Is (MO c b (c++vn (nI b),b,nI b,0,()))/\∀(f:BL)(d:List Fk)(e a:Int),let z:=gD d a (0,0,());MO c b (f,d,e,a,())->Bd (a<e) (iN a d/\f.length<=1099511627776/\(f++vn z.1).length<=1099511627776/\am (a+1)/\Is (MO c b (f++vn z.1++vn z.2.1,d,e,a+1,())/\lN (e-(a+1)) (e-a))) (Q ⟨0,f,()⟩)) (by
 conv=>zeta
 unfold Bd gD iN lN nI bg;intro b l Q ⟨⟨o,p⟩,g⟩;have q:=bC l.length;refine⟨ac,⟨rfl,rfl,0,rfl,aq _,by rw[aa];omega⟩,?_⟩;rintro r a n i ⟨h,j,k,m,s,t⟩;subst h j m;refine⟨λc=>?_,λe=>?_⟩
 ·have f:k<a.length:=by simp only[ai]at c;omega
  have u:=bC (a.getD ((k:Int).toNat) (0,0,())).1;have v:=bC (a.getD ((k:Int).toNat) (0,0,())).2.1;refine⟨ac,ac,by rw[aa];omega,cv,⟨rfl,rfl,k+1,rfl,f,by rw[aa,aa];omega⟩,ac⟩
 ·exact g _ (by simp only[aj]at e;omega)) (l:=λ_=>aU λ_=>⟨[],aq _⟩)
def ZA:List (Option CP):=[some (.cells [.ptr 1 0])]++hY 1
def qS(a:List Fk):Prop:=a.length<=10000000
variable{i:Ln}
theorem Bi(h:cr i)(a q:Int):(xm i a q).1.length<=32:=by
 unfold xm;split
 ·simp
 ·rename_i g;rw[not_or]at g;exact Nat.le_of_eq ((h a).2 _ (aV (z:=kN) ac)).1
theorem HQ(h:cr i):(uq i 5).length<=5/\∀x∈uq i 5,x.2.2.1.length<=32:=by
 unfold uq;refine⟨bE (List.length_filterMap_le _ _) bY,λx b=>?_⟩;obtain⟨a,_,e⟩:=List.mem_filterMap.1 b;split at e
 ·simp only[Option.some.injEq]at e;rw[<-e];unfold fe;split
  ·simp
  ·exact Bi h _ _
 ·simp at e
def HS:Ct:=⟨1,⟨[sP 0],ZA⟩,[⟨[(0,false,[.d tB])],ZA⟩],λ(c,b,e,f,g,h,a,i,bk,_)=>fJ (cr bk/\qS a) (λy=>y.length<=1000+14*a.length) λy=>(y,c,b,e,f,g,h,a,i,bk,())⟩
def ZB:cx:=⟨[sP 0,sB 3,(14,false,[.d (.sl JF)]),sI 15,sI 16],ZA⟩
def MP(x:HS.inp.den)(y:ZB.den):Prop:=match x,y with
 |(c,o,p,q,r,s,t,u,bk,_),(b,l,n,i,v,a,e,f,fO,g,h,j,m,_)=>l=uq bk 5/\n=l.length/\(v,a,e,f,fO,g,h,j,m)=(c,o,p,q,r,s,t,u,bk)/\∃k:Nat,i=k/\k<=l.length/\b.length<=7+60*k
def a6d(x:HS.inp.den):eH:=⟨[(4,bS ZB (MP x) λ(_,_,n,i,_)=>(n-i).toNat)],[],[],[],0⟩
def ZC:bG:=(122,[HS])::Zy
def ZD:=kA 122 HS Zz a6d (∀(g:Int)(h i:BL)(j:Lg)(k:Pg)(l:La)(m:List Fk)(n:KM)(d:Ln)Q,let x:=(h,i,j,k,l,m,n,d,());bg HS (g,x) Q->cr d/\0<=1099511627776/\Is (MP (g,x) (vn (nI (uq d 5)),uq d 5,nI (uq d 5),0,g,x))/\∀(e:BL)(c:List (Int×Int×BL×Unit))(f a p:Int)(q r:BL)(s:Lg)(t:Pg)(u:La)(o:List Fk)(v:KM)(w:Ln),let y:=(p,q,r,s,t,u,o,v,w,());let z:=gD c a (0,0,[],());MP (g,x) (e,c,f,a,y)->Bd (a<f) (iN a c/\e.length<=1099511627776/\(e++vn z.1).length<=1099511627776/\(e++vn z.1++vn z.2.1).length+ah z.2.2.1<=1099511627776/\am (a+1)/\Is (MP (g,x) (e++vn z.1++vn z.2.1++(vn (↑(ah z.2.2.1):Int)++z.2.2.1),c,f,a+1,y)/\lN (f-(a+1)) (f-a))) ((e.length<=1000000/\o.length<=10000000)/\∀(b:BL),b.length<=e.length+7+14*o.length->Q ⟨0,b,y⟩)) (by
 conv=>zeta
 unfold Bd gD iN lN nI bg;intro c O P R S U W X bk Q ⟨⟨h,o⟩,p⟩;have Y:=bC (uq bk 5).length;have e:=HQ h;refine⟨h,ac,⟨rfl,rfl,rfl,0,rfl,aq _,ac⟩,?_⟩;rintro b l n i c1 q r s fO t u v w ⟨j,x,m,k,A,hk,hb⟩;simp only[Prod.mk.injEq]at m;obtain⟨B,C,D,E,F,G,J,K,L⟩:=m;subst B C D E F G J K L x A;rw[<-j]at e;unfold qS at o;refine⟨λf=>?_,λM=>?_⟩
 ·have a:k<l.length:=by simp only[ai]at f;omega
  have N:((k:Int).toNat)=k:=ac
  have hm:=e.2 _ (aV (z:=((0,0,[],()):Hd)) a);rw[N];generalize l.getD k (0,0,[],())=H at*;have v1:=bC H.1;have v2:=bC H.2.1;have v3:=bC H.2.2.1.length;have g:=e.1;simp only[aa];refine⟨ac,ac,ac,ac,cv,⟨j,rfl,rfl,k+1,rfl,a,by simp only[aa];omega⟩,ac⟩
 ·have g:=e.1;exact⟨⟨ac,ac⟩,λy hy=>p y ac⟩) (l:=λ_=>aU λ_=>⟨[],aq _⟩)
def MQ:Ct:=⟨1,⟨[sP 0],ZA⟩,[⟨[(0,false,[.d tB])],ZA⟩],λ(c,b,e,f,a,g,h,i,bk,_)=>fJ (cr bk/\cy a) (λy=>∃l:List Op,l.length<=9000/\y=jI bk [] 5++cE l) λy=>(y,c,b,e,f,a,g,h,i,bk,())⟩
def ZE:bG:=(125,[MQ])::ZC
def OI:=kA 125 MQ ZD (cQ MQ 0) (∀(d:Int)(e f:BL)(g:Lg)(c:Pg)(h:La)(i:List Fk)(j:KM)(a:Ln)Q,let z:=(e,f,g,c,h,i,j,a,());bg MQ (d,z) Q->(cr a/\0<=1073741824)/\cy c/\∀(b:List Op),HF c b->(ah (jI a [] 5)+100*b.length<=1000000000/\∀(o:Op),o∈b->CA o)/\Q ⟨0,jI a [] 5++cE b,d,z⟩) (by
 conv=>zeta
 unfold bg;intro c h i j m n o p bk Q ⟨⟨b,e⟩,f⟩;refine⟨⟨b,ac⟩,e,λl a=>⟨⟨?_,a.2.1⟩,f _ ⟨l,a.1,rfl⟩⟩⟩;have:=ri b [] 5;have g:l.length<=9000:=a.1;simp only[dx]at this;omega) (l:=λ_=>aU λ_=>⟨_,[],aq _,rfl⟩)
def gV(la:La)(k c:Int):Int:=(la.getD (k-3).toNat []).getD c.toNat 0
def tD(la:La)(k c n:Int):La:=la.set (k-3).toNat ((la.getD (k-3).toNat []).set c.toNat n)
def fU(la:La):Prop:=la.length=2/\∀r∈la,r.length=5/\∀n∈r,0<=n/\n<=1048576
def lr(a:Int)(t:BL)(c:Int)(sg:BL)(lg:Lg)(la:La)(km:KM)(ts:List Tm)(m:KV):(BL×Int)×La×List Tm×KV:=
 lk sg (if oh c lg≠0 then(([],oh c lg),la,ts,m)
 else if gV la a c=1048576 then(([],14),la,ts,m)
 else
  let z:=kS c sg lg km (a,0,0,gV la a c+1,[],[],[],()) t ts m
  if z.1.2≠0 then(([],z.1.2),la,z.2)else((eV z.1.1,0),tD la a c (gV la a c+1),z.2))
def toB(j:Nat):List (Option CP):=[some (.cells [.ptr j 0])]
variable{f:Int}
theorem lf{b:Int}(h:(!(f==b))=true):f≠b:=cf h
theorem nl{b:Int}(h:(!(f==b))=false):¬(f≠b):=cf h
variable{b ep h h' r r':BL}{m:KV}{ts:List Tm}{l l':Lt}
theorem snE{lg:Lg}{km:List (Int×BL)}{z:(Lt×Int)×List Tm×KV}(a:z=kS f b lg km l r ts m)(h:cb 4 ts):cb 0 z.2.1/\z.1.1.2.2.2.2.1.length<=32/\z.1.1.2.2.2.2.2.1.length<=4112/\z.1.1.2.2.2.2.2.2.1.length<=64:=by
 subst a;exact Zt (k:=0) m h
theorem inB(h:0<=f/\f<=1048576):am (f+1):=cv
theorem tE{la:La}(h:fU la):∃a b c d e f g i j k,la=[[a,b,c,d,e],[f,g,i,j,k]]:=by
 have l:∀r:List Int,r.length=5->∃a b c d e,r=[a,b,c,d,e]:=by
  intro r p
  match r,p with
  |[a,b,c,d,e],_=>exact⟨a,b,c,d,e,rfl⟩
 obtain⟨q,m⟩:=h
 match la,q with
 |[n,o],_=>
  obtain⟨a,b,c,d,e,rfl⟩:=l n (m n bY).1;obtain⟨f,g,i,j,k,rfl⟩:=l o (m o bY).1;exact⟨a,b,c,d,e,f,g,i,j,k,rfl⟩
theorem ZF{la:La}(h:fU la)(r c:Nat):0<=(la.getD r (ax 5 0)).getD c 0/\(la.getD r (ax 5 0)).getD c 0<=1048576:=by
 have z:(0:Int)<=0/\(0:Int)<=1048576:=ac
 by_cases b:r<la.length
 ·have e:=h.2 _ (aV (z:=ax 5 (0:Int)) b);by_cases a:c<(la.getD r (ax 5 0)).length
  ·exact e.2 _ (aV (z:=(0:Int)) a)
  ·rw[aw (l:=la.getD r _),be ac];exact z
 ·rw[aw (l:=la),be ac,Option.getD_none];by_cases a:c<5
  ·rcases c with _|_|_|_|_|c<;>first|exact z|omega
  ·rw[aw,be eM];exact z
def uy:Ct:=⟨4,⟨[sP 0,sS 1 4,(2,false,[.k (.i64 3)]),N1 3 122 7],hY 0++lZ 4++toB 0⟩,[⟨[(0,false,[.d tB]),sI 1],hY 0++ma 4 8++toB 0++[cT]⟩],λ(c,i,b,a,j,e,f,g,bk,d,h,m,_)=>fJ (0<=c/\c<5/\fU e/\cK a.2.1 a.2.2.1/\cr bk/\qS f/\cb 4 h) (λy=>∃t:BL,y=lr 3 t c b a e g h m) λy=>(y.1.1,y.1.2,c,i,b,a,j,y.2.1,f,g,bk,d,y.2.2.2,y.2.2.1,())⟩
abbrev HT(v:BL×Int×Int×BL×BL×Lg×Pg×La×List Fk×KM×Ln×Int×KV×List Tm×Unit):cF uy.out:=⟨0,v⟩
theorem HU:bW Tryz.prog 121 uy:=kC OI (cQ uy 0) (∀(d:Int)(h g:BL)(e:Lg)(i:Pg)(c:La)(f:List Fk)(j:KM)(k:Ln)(m:Int)(l:List Tm)(n:KV)(Q:cF uy.out->Prop),let E:=(d,h,g,e,i,c,f,j,k,m,n,l,());let v:=cr k/\qS f;let w:=HT ([],14,E);let p:=c.getD 0 (ax 5 0);let q:=p.getD 4 0+1;let r:=p.getD 3 0+1;let s:=p.getD 2 0+1;let t:=p.getD 1 0+1;let u:=p.getD 0 0+1;let F:=p.getD 4 (0:Int)==1048576;let G:=p.getD 3 (0:Int)==1048576;let H:=p.getD 2 (0:Int)==1048576;let J:=p.getD 1 (0:Int)==1048576;let K:=p.getD 0 (0:Int)==1048576;let z:=Ch.cells [I.d Ty.i64 d,I.d Ty.u8.sl h,I.d Ty.u8.sl g,I.pv (Ty.u8.sl.pr ((Ty.i64.pr (Ty.u8.sl.pr ((Ty.i64.pr (Ty.u8.sl.pr (Ty.u8.sl.pr Ty.un))).sl.pr (cw.sl.pr (Ty.u8.sl.pr (Ty.u8.sl.sl.pr (Ty.u8.sl.pr Ty.un))))))).sl.pr (Ty.u8.sl.sl.pr Ty.un))) e,I.mp 1,I.ptr 2 0,I.pv ((cw.fm (Ty.i64.pr (Ty.i64.pr (Ty.i64.pr (Ty.i64.pr (Ty.bl.pr (Ty.i32.pr Ty.un))))))).pr ((cw.fm Ty.i64).pr ((Ty.i64.pr (Ty.i64.pr (Ty.i64.pr (Ty.i64.pr (Ty.bl.pr (Ty.i32.pr Ty.un)))))).sl.pr (((cw.fm (Ty.i64.pr (Ty.i64.pr (Ty.i32.pr (Ty.bl.pr ((Ty.ar 2 cw.sl).pr Ty.un)))))).pr (Ty.i64.pr Ty.un)).pf.pr (((Ty.i64.pr (Ty.i64.pr (Ty.i64.pr (Ty.i64.pr (Ty.bl.pr (Ty.i64.pr (Ty.i64.pr (Ty.bl.pr cw)))))))).sl.pr Ty.un).pf.pr Ty.un))))) i,I.d (Ty.ar 2 (Ty.ar 5 Ty.i64)) c,I.d cw.sl f]=Ch.cells [I.d Ty.i64 d,I.d Ty.u8.sl h,I.d Ty.u8.sl g,I.pv (Ty.u8.sl.pr ((Ty.i64.pr (Ty.u8.sl.pr ((Ty.i64.pr (Ty.u8.sl.pr (Ty.u8.sl.pr Ty.un))).sl.pr (cw.sl.pr (Ty.u8.sl.pr (Ty.u8.sl.sl.pr (Ty.u8.sl.pr Ty.un))))))).sl.pr (Ty.u8.sl.sl.pr Ty.un))) e,I.mp 1,I.ptr 2 0,I.pv ((cw.fm (Ty.i64.pr (Ty.i64.pr (Ty.i64.pr (Ty.i64.pr (Ty.bl.pr (Ty.i32.pr Ty.un))))))).pr ((cw.fm Ty.i64).pr ((Ty.i64.pr (Ty.i64.pr (Ty.i64.pr (Ty.i64.pr (Ty.bl.pr (Ty.i32.pr Ty.un)))))).sl.pr (((cw.fm (Ty.i64.pr (Ty.i64.pr (Ty.i32.pr (Ty.bl.pr ((Ty.ar 2 cw.sl).pr Ty.un)))))).pr (Ty.i64.pr Ty.un)).pf.pr (((Ty.i64.pr (Ty.i64.pr (Ty.i64.pr (Ty.i64.pr (Ty.bl.pr (Ty.i64.pr (Ty.i64.pr (Ty.bl.pr cw)))))))).sl.pr Ty.un).pf.pr Ty.un))))) i,I.d (Ty.ar 2 (Ty.ar 5 Ty.i64)) c,I.d cw.sl f]/\True;(Tr.need (0<=d/\d<5/\fU c/\cK e.2.1 e.2.2.1/\cr k/\qS f/\cb 4 l) (Tr.all ((BL×Int)×La×List Tm×KV) (λy=>∃o,y=lr 3 o d g e c j l n) λy=>Tr.leaf (HT (y.1.1,y.1.2,d,h,g,e,i,y.2.1,f,j,k,m,y.2.2.2,y.2.2.1,())))).sat Q->cK e.2.1 e.2.2.1/\Br (!oh d e==0) (Q ⟨0,[],oh d e,E⟩) (Br (d==0) (Br K (Q w) (am u/\v/\∀(b:BL),b.length<=1000+14*f.length->z/\cb 4 l/\∀a,let x:=(f,j,k,m,a.2.2,a.2.1,());a=kS d g e j (3,0,0,p.getD 0 0+1,[],[],[],()) b l n->Br (!a.1.2==0) (Q ⟨0,[],a.1.2,d,h,g,e,i,c,x⟩) (am u/\0+ah a.1.1.2.2.2.2.1+ah a.1.1.2.2.2.2.2.1+ah a.1.1.2.2.2.2.2.2.1<=1000000000/\Q ⟨0,eV a.1.1,0,d,h,g,e,i,c.set 0 (p.set 0 u),x⟩))) (Br (d==1) (Br J (Q w) (am t/\v/\∀(b:BL),b.length<=1000+14*f.length->z/\cb 4 l/\∀a,let A:=(f,j,k,m,a.2.2,a.2.1,());a=kS d g e j (3,0,0,p.getD 1 0+1,[],[],[],()) b l n->Br (!a.1.2==0) (Q ⟨0,[],a.1.2,d,h,g,e,i,c,A⟩) (am t/\0+ah a.1.1.2.2.2.2.1+ah a.1.1.2.2.2.2.2.1+ah a.1.1.2.2.2.2.2.2.1<=1000000000/\Q ⟨0,eV a.1.1,0,d,h,g,e,i,c.set 0 (p.set 1 t),A⟩))) (Br (d==2) (Br H (Q w) (am s/\v/\∀(b:BL),b.length<=1000+14*f.length->z/\cb 4 l/\∀a,let B:=(f,j,k,m,a.2.2,a.2.1,());a=kS d g e j (3,0,0,p.getD 2 0+1,[],[],[],()) b l n->Br (!a.1.2==0) (Q ⟨0,[],a.1.2,d,h,g,e,i,c,B⟩) (am s/\0+ah a.1.1.2.2.2.2.1+ah a.1.1.2.2.2.2.2.1+ah a.1.1.2.2.2.2.2.2.1<=1000000000/\Q ⟨0,eV a.1.1,0,d,h,g,e,i,c.set 0 (p.set 2 s),B⟩))) (Br (d==3) (Br G (Q w) (am r/\v/\∀(b:BL),b.length<=1000+14*f.length->z/\cb 4 l/\∀a,let C:=(f,j,k,m,a.2.2,a.2.1,());a=kS d g e j (3,0,0,p.getD 3 0+1,[],[],[],()) b l n->Br (!a.1.2==0) (Q ⟨0,[],a.1.2,d,h,g,e,i,c,C⟩) (am r/\0+ah a.1.1.2.2.2.2.1+ah a.1.1.2.2.2.2.2.1+ah a.1.1.2.2.2.2.2.2.1<=1000000000/\Q ⟨0,eV a.1.1,0,d,h,g,e,i,c.set 0 (p.set 3 r),C⟩))) (Br (d==4) (Br F (Q w) (am q/\v/\∀(b:BL),b.length<=1000+14*f.length->z/\cb 4 l/\∀a,let D:=(f,j,k,m,a.2.2,a.2.1,());a=kS d g e j (3,0,0,p.getD 4 0+1,[],[],[],()) b l n->Br (!a.1.2==0) (Q ⟨0,[],a.1.2,d,h,g,e,i,c,D⟩) (am q/\0+ah a.1.1.2.2.2.2.1+ah a.1.1.2.2.2.2.2.1+ah a.1.1.2.2.2.2.2.2.1<=1000000000/\Q ⟨0,eV a.1.1,0,d,h,g,e,i,c.set 0 (p.set 4 q),D⟩))) (False/\True))))))) (by
 conv=>zeta
 unfold Br;intro c v l n w x A o bk d B m Q ⟨⟨p,q,g,h,C,D,r⟩,s⟩;have a:∀t y,lr 3 t c l n x o B m=y->Q ⟨0,(y.1.1,y.1.2,c,v,l,n,w,y.2.1,A,o,bk,d,y.2.2.2,y.2.2.1,())⟩:=λt y e=>s y ⟨t,e.symm⟩;clear s;unfold lr at a;simp only[bN]at a;have hB:=ZF g;refine⟨h,λf=>a [] _ (ak (lf f)),λf=>?_⟩;have f:=nl f;simp only[f,if_false]at a;obtain⟨F,G,H,J,K,L,M,N,O,P,i⟩:=tE g;subst i;refine⟨λb=>?_,λE=>⟨λb=>?_,λp=>⟨λb=>?_,λq=>⟨λb=>?_,λg=>⟨λb=>?_,λh=>?_⟩⟩⟩⟩⟩
 case refine_6=>exfalso;simp only[aC,ne_eq]at E p q g h;omega
 all_goals
  have b:=bz b;subst b;refine⟨λe=>a [] _ (ak (bz e)),λe=>?_⟩;refine⟨inB (hB _ _),⟨C,D⟩,λt R=>⟨by repeat' (first|exact True.intro|rfl|apply ck),r,λz u=>?_⟩⟩;have S:=snE u r;subst u;exact⟨λj=>a t _ (Eq.trans (ae (aL e)) (ak (lf j))),λj=>⟨inB (hB _ _),ac,a t _ (Eq.trans (ae (aL e)) (ae (nl j)))⟩⟩)
def ZG:bG:=(121,[uy])::ZE
def ZH:=kB 121 [uy] OI (bL (HU)) (l:=bL (λ_=>aU λ_=>⟨_,[],rfl⟩))
def HV:Ct:=⟨2,⟨[sP 0,(1,false,[.d (.sl iZ)])],hY 0⟩,[⟨[],hY 0⟩],λ(l,c,b,e,f,g,h,a,i,bk,_)=>fJ (a.length+l.length<=10000000) (λy:List Fk=>y.length<=a.length+l.length) λy=>(c,b,e,f,g,h,y,i,bk,())⟩
def ZI:cx:=⟨[sP 0,(6,false,[.d (.sl iZ)]),sI 7,sI 8],hY 0⟩
def HW(x:HV.inp.den)(y:ZI.den):Prop:=match x,y with
 |(l,c,m,o,p,q,r,s,t,bk,_),(u,n,i,v,a,b,e,fO,f,g,h,j,_)=>u=l/\n=l.length/\(v,a,b,e,fO,f,h,j)=(c,m,o,p,q,r,t,bk)/\∃k:Nat,i=k/\k<=l.length/\g.length<=s.length+k
def a6e(x:HV.inp.den):eH:=⟨[(1,bS ZI (HW x) λ(_,n,i,_)=>(n-i).toNat)],[],[],[],0⟩
def ZJ:bG:=(178,[HV])::ZG
def ZK:=kA 178 HV ZH a6e (∀(d:List Fk)(f:Int)(g h:BL)(i:Lg)(j:Pg)(k:La)(l:List Fk)(m:KM)(n:Ln)Q,let z:=(f,g,h,i,j,k,l,m,n,());bg HV (d,z) Q->Is (HW (d,z) (d,nI d,0,z))/\∀(e:List Fk)(b a o:Int)(p q:BL)(r:Lg)(s:Pg)(t:La)(c:List Fk)(u:KM)(v:Ln),let x:= !decide (gD e a (0,0,())∈c);let w:=(p,q,r,s,t,c,u,v,());HW (d,z) (e,b,a,o,w)->Bd (a<b) (iN a e/\c.length<=1000000000/\Br x (c.length<=1000000000/\(c.length+1)*16<=mM/\am (a+1)/\Is (HW (d,z) (e,b,a+1,o,p,q,r,s,t,c++[gD e a (0,0,())],u,v,())/\lN (b-(a+1)) (b-a))) (am (a+1)/\Is (HW (d,z) (e,b,a+1,o,w)/\lN (b-(a+1)) (b-a)))) (Q ⟨0,o,w⟩)) (by
 conv=>zeta
 unfold Bd Br gD iN lN mM nI bg;intro l c E F G H J K L bk Q ⟨M,g⟩;refine⟨⟨rfl,rfl,rfl,0,rfl,aq _,aE _⟩,?_⟩;rintro h n i N j m o fO p b q r ⟨s,t,f,k,u,O,P⟩;simp only[Prod.mk.injEq]at f;obtain⟨v,w,x,y,z,A,B,C⟩:=f;subst s t u v w x y z A B C;refine⟨λe=>?_,λD=>g b ac⟩;have a:k<h.length:=by simp only[ai]at e;omega
 refine⟨ac,ac,λ_=>⟨ac,ac,cv,⟨rfl,rfl,rfl,k+1,rfl,a,by rw[aa,bi];omega⟩,ac⟩,λ_=>⟨cv,⟨rfl,rfl,rfl,k+1,rfl,a,ac⟩,ac⟩⟩) (l:=λ_=>aU λ_=>⟨[],aq _⟩)
def wJ(l:Lt)(lk:Lk)(la:La)(bk:Ln)(ts:List Tm)(m:KV):Int×List Tm×KV:=if l.1≠2 then(if l.2.2.2.1<=gV la l.1 l.2.1 then 16 else 0,ts,m)else ij lk bk ts m
def HX:Ct:=⟨4,⟨[sP 0,sS 1 4,AO 2,(3,true,[.d Cn])],hY 0++lZ 4⟩,[⟨[sI 0],hY 0++ma 4 7++[cT]⟩],λ(l,lk,c,f,g,h,i,a,b,j,bk,d,e,m,_)=>fJ (2<=l.1/\l.1<=4/\0<=l.2.1/\l.2.1<5/\fU a/\cr bk/\b.length+1<=10000000/\cb 1 e) (λy:(Int×List Tm×KV)×List Fk=>y.2.length<=b.length+1/\y.1=wJ l lk a bk e m) λy=>(y.1.1,c,f,g,h,i,a,y.2,j,bk,d,y.1.2.2,y.1.2.1,())⟩
abbrev Bj(v:Int×Int×BL×BL×Lg×Pg×La×List Fk×KM×Ln×Int×KV×List Tm×Unit):cF HX.out:=⟨0,v⟩
def ZL:bG:=(164,[HX])::ZJ
def ZM:=kA 164 HX ZK (cQ HX 0) (∀(a:Lt)(o:Lk)(g:Int)(h i:BL)(j:Lg)(k:Pg)(c:La)(e:List Fk)(l:KM)(d:Ln)(m:Int)(f:List Tm)(n:KV)(Q:cF HX.out->Prop),let u:=(a.2.1==4)=false->False/\True;let s:=c.getD 1 (ax 5 0);let t:=c.getD 0 (ax 5 0);let z:=(g,h,i,j,k,c,e,l,d,m,n,f,());let q:=Bj (0,z);let r:=Bj (16,z);(Tr.need (2<=a.1/\a.1<=4/\0<=a.2.1/\a.2.1<5/\fU c/\cr d/\e.length+1<=10000000/\cb 1 f) (Tr.all ((Int×List Tm×KV)×List Fk) (λy=>y.2.length<=e.length+1/\y.1=wJ a o c d f n) λy=>Tr.leaf (Bj (y.1.1,g,h,i,j,k,c,y.2,l,d,m,y.1.2.2,y.1.2.1,())))).sat Q->Br (!a.1==2) (am (a.1-3)/\Br (a.1-(3:Int)==0) (Br (a.2.1==0) (Bd (a.2.2.2.1<=t.getD 0 0) (Q r) (Q q)) (Br (a.2.1==1) (Bd (a.2.2.2.1<=t.getD 1 0) (Q r) (Q q)) (Br (a.2.1==2) (Bd (a.2.2.2.1<=t.getD 2 0) (Q r) (Q q)) (Br (a.2.1==3) (Bd (a.2.2.2.1<=t.getD 3 0) (Q r) (Q q)) (((a.2.1==4)=true->Bd (a.2.2.2.1<=t.getD 4 0) (Q r) (Q q))/\u))))) (Br (a.1-(3:Int)==1) (Br (a.2.1==0) (Bd (a.2.2.2.1<=s.getD 0 0) (Q r) (Q q)) (Br (a.2.1==1) (Bd (a.2.2.2.1<=s.getD 1 0) (Q r) (Q q)) (Br (a.2.1==2) (Bd (a.2.2.2.1<=s.getD 2 0) (Q r) (Q q)) (Br (a.2.1==3) (Bd (a.2.2.2.1<=s.getD 3 0) (Q r) (Q q)) (((a.2.1==4)=true->Bd (a.2.2.2.1<=s.getD 4 0) (Q r) (Q q))/\u))))) (False/\True))) ((f.length<=4294967296/\cr d)/\∀b,let v:=(l,d,m,b.2.2,b.2.1,());b=ij o d f n->Br (b.1==18) (e.length+1<=10000000/\∀(p:List Fk),p.length<=e.length+1->Q ⟨0,b.1,g,h,i,j,k,c,p,v⟩) (Q ⟨0,b.1,g,h,i,j,k,c,e,v⟩))) (by
 conv=>zeta
 unfold Bd Br;rintro⟨k,a,e,n,p,b,s,⟨⟩⟩ lk c G H J K E q L bk d i m Q ⟨⟨R,S,U,W,M,N,O,P⟩,F⟩;dsimp only at*;have j:∀(y:Int×List Tm×KV)(f:List Fk),f.length<=q.length+1->wJ (k,a,e,n,p,b,s,()) lk E bk i m=y->Q ⟨0,(y.1,c,G,H,J,K,E,f,L,bk,d,y.2.2,y.2.1,())⟩:=λy f t e=>F (y,f) ⟨t,e.symm⟩;clear F;unfold wJ at j;obtain⟨X,Y,a2,a3,a4,b0,b1,b2,b3,b4,u⟩:=tE M;subst u;refine⟨λr=>⟨cv,λo=>?_,λo=>⟨λv=>?_,λv=>?_⟩⟩,λr=>?_⟩
 case refine_3=>exfalso;have:=lf r;simp only[aC,ne_eq]at o v;omega
 case refine_4=>
  have r:=nl r;refine⟨⟨P.le,N⟩,λx g=>⟨λ_=>⟨O,λf t=>j x f t ?_⟩,λ_=>j x q ac ?_⟩⟩
  all_goals rw[ae r,g]
 case refine_1=>
  have o:k=3:=by have:=bz o;omega
  subst o;refine⟨λg=>?_,λw=>⟨λg=>?_,λA=>⟨λg=>?_,λB=>⟨λg=>?_,λC=>⟨λg=>?_,λD=>?_⟩⟩⟩⟩⟩
  case refine_6=>exfalso;simp only[aC,ne_eq]at w A B C D;omega
  all_goals
   have g:=bz g;subst g;exact⟨λh=>j (16,i,m) q ac (Eq.trans (ak (show(3:Int)≠2 by decide)) (aI (λz=>(z,i,m)) (ak (af h)))),λh=>j (0,i,m) q ac (Eq.trans (ak (show(3:Int)≠2 by decide)) (aI (λz=>(z,i,m)) (ae (ap h))))⟩
 case refine_2=>
  have o:k=4:=by have:=bz v;omega
  subst o;refine⟨λg=>?_,λw=>⟨λg=>?_,λA=>⟨λg=>?_,λB=>⟨λg=>?_,λC=>⟨λg=>?_,λD=>?_⟩⟩⟩⟩⟩
  case refine_6=>exfalso;simp only[aC,ne_eq]at w A B C D;omega
  all_goals
   have g:=bz g;subst g;exact⟨λh=>j (16,i,m) q ac (Eq.trans (ak (show(4:Int)≠2 by decide)) (aI (λz=>(z,i,m)) (ak (af h)))),λh=>j (0,i,m) q ac (Eq.trans (ak (show(4:Int)≠2 by decide)) (aI (λz=>(z,i,m)) (ae (ap h))))⟩) (l:=λ_=>aU λ_=>⟨(_,[]),aq _,rfl⟩)
def EK(lk:Lk)(a:Pg)(bk:Ln)(c:Int×Pg)(ts:List Tm)(m:KV):Int×Pg×Ln×List Tm×KV:=
 if c.1≠0 then(c.1,a,bk,ts,m)
 else
  let t:=kp lk bk ts m
  if t.1≠0 then(t.1,a,t.2.1,t.2.2)else(0,c.2,t.2.1,t.2.2)
def RC(lk:Lk)(a:Pg)(bk:Ln)(b:BL)(ts:List Tm)(m:KV)(y:Int×Pg×Ln×List Tm×KV):Prop:=
 (∃c,y=EK lk a bk c ts m)/\cy y.2.1/\(a=ka->b=cE [jr]->lk.1=0->y=EK lk a bk (0,fO) ts m)
def MR:Ct:=⟨4,⟨[sP 0,sS 1 4,(2,true,[.d Cn]),(3,false,[.ptr 7 0])],hY 0++lZ 4++rH⟩,[⟨[sI 0],hY 0++ma 4 8++rH++[cT]⟩],λ(lk,c,i,j,l,f,n,o,p,bk,d,g,m,b,a,h,e,_)=>fJ (bZ b a/\a=0/\h=true/\e=0/\cy f/\cr bk/\cb 1 g) (λy:(Int×Pg×Ln×List Tm×KV)×Int×Int=>RC lk f bk b g m y.1) λy=>(y.1.1,c,i,j,l,y.1.2.1,n,o,p,y.1.2.2.1,d,y.1.2.2.2.2,b,y.2.1,h,y.2.2,y.1.2.2.2.1,())⟩
theorem HY(lk:Lk)(a:Pg)(bk:Ln)(b:BL)(ts:List Tm)(m:KV)(h:cy a):∃y,RC lk a bk b ts m y:=by
 refine⟨EK lk a bk (0,fO) ts m,⟨_,rfl⟩,?_,λ_ _ _=>rfl⟩;unfold EK;rw[ae bY];dsimp only;split
 ·exact h
 ·exact Ba
def ZN:bG:=(179,[MR])::ZL
def ZO:=kA 179 MR ZM (cQ MR 0) (∀(r:Lk)(f:Int)(g h:BL)(i:Lg)(e:Pg)(j:La)(k:List Fk)(l:KM)(m:Ln)(n:Int)(o:List Tm)(q:KV)(a:BL)(t:Int)(d:Bool)(u:Int)Q,bg MR (r,f,g,h,i,e,j,k,l,m,n,o,q,a,t,d,u,()) Q->(bZ a t/\(0:Int)<=64/\(64:Int)<=4096)/\∀(b:List Op×Int×Int),let w:= !eZ a b.2.1 d b.2.2==0;let z:=(f,g,h,i,e,j,k,l,m,n,q,a,b.2.1,d,b.2.2,o,());AT a t d u 64 b->bZ a b.2.1/\Br w (Q ⟨0,eZ a b.2.1 d b.2.2,z⟩) (b.1.length<=1000000/\Br (!HK b.1 r.1) (Q ⟨0,5,z⟩) (cy e/\∀(s:Pg),jD e s->(cy s/\b.1.length<=1000000)/\∀(p:Int×Pg),zd s b.1 p->Br (!p.1==0) (Q ⟨0,p.1,z⟩) ((o.length<=4294967295/\cr m)/\∀c,let v:=(j,k,l,c.2.1,n,c.2.2.2,a,b.2.1,d,b.2.2,c.2.2.1,());c=kp r m o q->Br (!c.1==0) (Q ⟨0,c.1,f,g,h,i,e,v⟩) (Q ⟨0,0,f,g,h,i,p.2,v⟩))))) (by
 conv=>zeta
 unfold Br bg;intro lk c L M N i O P R bk d j m b a S e Q ⟨⟨U,W,H,X,C,Y,h7⟩,J⟩;have u:∀(y:Int×Pg×Ln×List Tm×KV)(D E:Int),RC lk i bk b j m y->Q ⟨0,(y.1,c,L,M,N,y.2.1,O,P,R,y.2.2.1,d,y.2.2.2.2,b,D,S,E,y.2.2.2.1,())⟩:=λy D E h=>J (y,D,E) h;clear J;refine⟨⟨U,ac,ac⟩,λg A=>?_⟩;have f:b=cE [jr]->g=([jr],(b.length:Int),0):=λhb=>A.2.2.1 hb W H X rfl
 have refuse:∀r:Int,r≠0->(i=ka->b=cE [jr]->lk.1=0->False)->RC lk i bk b j m (r,i,bk,j,m):=by
  intro r hr hn;refine⟨⟨(r,i),?_⟩,C,λa b c=>(hn a b c).elim⟩;unfold EK;rw[ak hr]
 refine⟨A.1,λF=>u (_,i,bk,j,m) _ _ (refuse _ (lf F) λv n B=>lf F ?_),λF=>⟨by have:=A.2.1;omega,λw=>u (5,i,bk,j,m) _ _ (refuse _ bt λv n B=>?_),λw=>⟨C,λp1 o=>⟨⟨o.1,by have:=A.2.1;omega⟩,λx p=>⟨λq=>u (_,i,bk,j,m) _ _ (refuse _ (lf q) λv n B=>?_),λq=>⟨⟨by have:=h7.2;omega,Y⟩,λt ht=>?_⟩⟩⟩⟩⟩⟩
 ·rw[f n,H];unfold eZ;simp
 ·rw[f n,B]at w;have w:(!HK [jr] 0)=true:=w;revert w;decide
 ·have z:=o.2.1 v;have:=p.2.1 z (by rw[f n]);rw[this]at q;revert q;decide
 ·have q:=nl q
  have K:EK lk i bk x j m=if t.1≠0 then(t.1,i,t.2.1,t.2.2)else(0,x.2,t.2.1,t.2.2):=by
   unfold EK;rw[ae q,<-ht]
  have s:∀y,y=EK lk i bk x j m->cy y.2.1->RC lk i bk b j m y:=by
   intro y s z;refine⟨⟨x,s⟩,z,λv n B=>?_⟩;have z:=o.2.1 v;rw[s,p.2.1 z (by rw[f n])]
  refine⟨λG=>u (t.1,i,t.2.1,t.2.2) _ _ (s _ (by rw[K,ak (lf G)]) C),λG=>u (0,x.2,t.2.1,t.2.2) _ _ (s _ (by rw[K,ae (nl G)]) p.1)⟩) (l:=λ_=>aU λh=>by obtain⟨y,s⟩:=HY _ _ _ _ _ _ h.2.2.2.2.1;exact⟨(y,0,0),s⟩)
abbrev HZ:Ty:= .pr .i64 (.pr .i64 (.pr .i64 (.pr .i64 (.pr .bl (.pr .bl (.pr (.sl iZ) .un))))))
abbrev Nw:=HZ.den
def kr:Nw:=(0,0,0,0,false,false,[],())
def rv(e:Et)(c:Int)(se:BL):List Mb->KM->List Tm->KV->Int×KM×List Tm×KV
 |[],b,a,m=>(0,b,a,m)
 |p::r,b,a,m=>if p.1≠c then rv e c se r b a m else
  if(pj e c se a m).1.2≠0 then((pj e c se a m).1.2,b,(pj e c se a m).2)else rv e c se r (cL (kt:= .i64) e.1 (pj e c se a m).1.1 b) (pj e c se a m).2.1 (pj e c se a m).2.2
def kT(c:Int)(se:BL)(lg:Lg)(km:KM)(e:Et)(ts:List Tm)(m:KV):(Nw×Int)×Lg×KM×List Tm×KV:=
 lk se (let t:=iu lg e ts m
 if t.1≠0 then((kr,t.1),lg,km,t.2.2)else
  let r:=rv e c se e.2.2.1 km t.2.2.1 t.2.2.2
  if r.1≠0 then((kr,r.1),lg,r.2)else(((1,0,e.1,e.1,false,false,[],()),0),t.2.1,r.2))
def wK(e:Et):Prop:=iT e/\(dS e).length<=100000000/\(eo e).length<=100000000/\aB e.2.2.2.2.2.2.1/\pi e.2.2.1/\(∀b∈e.2.2.2.2.2.1,aB b)/\aB e.2.2.2.2.1
variable{k:Nat}
theorem keS{e:Et}{c:Int}{se:BL}(m:KV)(a:aB se)(b:aB e.2.2.2.2.1)(h:cb (k+2) ts):cb k (pj e c se ts m).2.1:=by
 have f:=(N4 (k:=k) m e.1 c a b h).2;have g:=h.mono (j:=k) ac;unfold pj;rw[bN]
 repeat' split
 all_goals first|exact g|exact f
theorem tkS{e:Et}{lg:Lg}(m:KV)(c:(dS e).length<=100000000)(h:cb (k+1) ts):cb k (iu lg e ts m).2.2.1:=by
 have a:=pZ (k:=k) m h (ja (k:=104) bt bt (show aB (dS e)by unfold aB;omega));have b:=h.mono (j:=k) ac;unfold iu;rw[bN]
 repeat' split
 all_goals first|exact b|exact a
theorem tk5{e:Et}{lg:Lg}(h:(iu lg e ts m).1=0):e.2.2.1.length<=5:=by
 cases g:iU e with
 |true=>exact(fT (me g).2.2.2.1).2.1
 |false=>unfold iu at h;rw[bN,ak g]at h;cases h
def H0:Ct:=⟨3,⟨[sP 0,sS 1 4,(2,true,[.d tU])],hY 0++lZ 4⟩,[⟨[(0,true,[.d HZ]),sI 1],hY 0++ma 4 7++[cT]⟩],λ(e,c,b,g,a,h,i,j,l,bk,d,f,m,_)=>dZ (wK e/\aB b/\aB a.1/\cK a.2.1 a.2.2.1/\a.2.1.length<=100000/\cb 20 f) (kT c b a l e f m) λy=>(y.1.1,y.1.2,c,b,g,y.2.1,h,i,j,y.2.2.1,bk,d,y.2.2.2.2,y.2.2.2.1,())⟩
def ZP:cx:=⟨[sP 0,sS 1 4,(5,false,[.ptr 7 0]),(6,false,[.ptr 8 0]),(8,false,[.ptr 9 0]),(28,false,[.d (.sl jf)]),sI 29,sI 30],hY 0++ma 4 10++[some (.cells [.d tU]),some (.cells [.d HZ])]++tV++[cT]⟩
def H2(x:H0.inp.den)(y:ZP.den):Prop:=match x,y with
 |(e,c,g,v,a,w,z,A,B,bk,d,f,m,_),(l,n,i,C,h,j,o,fO,p,q,r,s,D,E,F,G,H,t,u,b,_)=>(C,h,j,o,fO,p,q,s,D,F,G)=(c,g,v,a,w,z,A,bk,d,e,kr)/\l=e.2.2.1/\n=l.length/\
  (iu a e f m).1=0/\(H,t,u,())=(iu a e f m).2.1/\∃k:Nat,i=k/\k<=l.length/\cb (2*(5-k)) b/\rv e c g (l.drop k) r b E=rv e c g l B (iu a e f m).2.2.1 (iu a e f m).2.2.2
def a6f(x:H0.inp.den):eH:=⟨[(6,bS ZP (H2 x) λ(_,n,i,_)=>(n-i).toNat)],[],[],[],0⟩
def ZQ:bG:=(127,[H0])::ZN
def OJ:=kA 127 H0 ZO a6f (∀(d:Et)(h:Int)(i j:BL)(c:Lg)(k:Pg)(l:La)(m:List Fk)(n:KM)(o:Ln)(p:Int)(q:List Tm)(s:KV)Q,let x:=(d,h,i,j,c,k,l,m,n,o,p,q,s,());bg H0 x Q->cK c.2.1 c.2.2.1/\(aB c.1/\iT d/\ah (dS d)<=100000000/\aB d.2.2.2.2.2.2.1/\pi d.2.2.1/\cK c.2.1 c.2.2.1/\ah c.2.1<=100000/\cb 1 q)/\∀b,b=iu c d q s->Br (!b.1==0) (Q ⟨0,(0,0,0,0,false,false,[],()),b.1,h,i,j,c,k,l,m,n,o,p,b.2.2.2,b.2.2.1,()⟩) (Is (H2 x (d.2.2.1,nI d.2.2.1,0,h,i,j,c,k,l,m,n,o,p,b.2.2.2,d,(0,0,0,0,false,false,[],()),b.2.1.1,b.2.1.2.1,b.2.1.2.2.1,b.2.2.1,()))/\∀(t:List Mb)(f a g:Int)(r u:BL)(D:Lg)(v:Pg)(w:La)(y:List Fk)(z:KM)(A:Ln)(B:Int)(E:KV)(e:Et)(J:Nw)(F:BL)(G:List Et)(H:List BL)(C:List Tm),let L:= !(gD t a (0,[],[],())).1==g;let K:=(g,r,u,D,v,w,y,z,A,B,E,e,J,F,G,H,C,());H2 x (t,f,a,K)->Bd (a<f) (iN a t/\Br L (am (a+1)/\Is (H2 x (t,f,a+1,K)/\lN (f-(a+1)) (f-a))) ((aB r/\iT e/\ah (eo e)<=100000000/\(∀(b:BL),b∈e.2.2.2.2.2.1->aB b)/\aB e.2.2.2.2.1/\cb 2 C)/\∀b,b=pj e g r C E->Br (!b.1.2==0) (Q ⟨0,(0,0,0,0,false,false,[],()),b.1.2,g,r,u,D,v,w,y,z,A,B,b.2.2,b.2.1,()⟩) (am (a+1)/\Is (H2 x (t,f,a+1,g,r,u,D,v,w,y,dY Ty.i64 e.1 b.1.1 z,A,B,b.2.2,e,J,F,G,H,b.2.1,())/\lN (f-(a+1)) (f-a))))) (Q ⟨0,(1,0,e.1,e.1,false,false,[],()),0,g,r,u,(F,G,H,()),v,w,y,z,A,B,E,C,()⟩))) (by
 conv=>zeta
 unfold Bd Br gD iN lN nI bg;intro e c J sg r pg la fk K bk d L m Q ⟨⟨h1,M,h3,N,h5,O⟩,P⟩;have g:∀y,kT c J r K e L m=y->Q ⟨0,(y.1.1,y.1.2,c,J,sg,y.2.1,pg,la,fk,y.2.2.1,bk,d,y.2.2.2.2,y.2.2.2.1,())⟩:=λy e=>P y e.symm;clear P;obtain⟨R,S,p3,p4,p5,p6,U⟩:=h1;unfold kT at g;simp only[bN]at g;refine⟨N,⟨h3,R,S,p4,p5,N,h5,O.mono ac⟩,λt b=>?_⟩;have st:=tkS (lg:=r) (k:=10) m S (O.mono ac);have s:=tk5 (e:=e) (lg:=r) (ts:=L) (m:=m);refine⟨λf=>g ((kr,t.1),r,K,t.2.2) (by rw[<-b];exact ak (lf f)),λf=>?_⟩;have f:t.1=0:=aA.1 (nl f);rw[<-b]at g st s;have s:=s f;simp only[ne_eq,f,not_true_eq_false,if_false]at g;refine⟨⟨rfl,rfl,rfl,by rw[<-b];exact f,by rw[<-b],0,rfl,aq _,st,by rw[<-b];rfl⟩,?_⟩;rintro l n i c1 w a0 x fO a2 a3 p a4 d1 W A nw a1 a5 a6 q ⟨X,B,g2,-,u,k,g5,hk,hs,a⟩;simp only[Prod.mk.injEq]at X;obtain⟨f1,f2,f3,f4,f5,f6,f7,f8,f9,C,D⟩:=X;subst f1 f2 f3 f4 f5 f6 f7 f8 f9 C D g2 g5;rw[<-b]at u a;rw[<-B]at g s;refine⟨λE=>?_,λF=>?_⟩
 ·have j:k<l.length:=by simp only[ai]at E;omega
  have ek:((k:Int).toNat)=k:=ac
  have o:cb (2*(5-(k+1))+2) q:=hs.mono ac;rw[dv (z:=((0,[],[],()):Mb)) j]at a;rw[ek];generalize l.getD k (0,[],[],())=H at*;simp only[rv]at a;refine⟨ac,λG=>⟨cv,⟨rfl,B,rfl,by rw[<-b];exact f,by rw[<-b];exact u,k+1,rfl,j,o.mono ac,?_⟩,ac⟩,λG=>⟨⟨M,R,p3,p6,U,o.mono ac⟩,λz Y=>?_⟩⟩
  ·rw[ak (lf G)]at a;rw[<-b];exact a
  ·rw[ae (nl G),<-Y]at a;have sz:=keS (e:=A) (c:=c1) (se:=w) W M U o;rw[<-Y]at sz;refine⟨λv=>g ((kr,z.1.2),x,p,z.2) ?_,λv=>⟨cv,⟨rfl,B,rfl,by rw[<-b];exact f,by rw[<-b];exact u,k+1,rfl,j,sz,?_⟩,ac⟩⟩
   ·rw[ak (lf v)]at a;rw[<-a];exact ak (lf v)
   ·rw[ae (nl v)]at a;rw[<-b];exact a
 ·have:l.drop k=[]:=bu (by simp only[aj]at F;omega);rw[this]at a;simp only[rv]at a;have:=g (((1,0,A.1,A.1,false,false,[],()),0),t.2.1,p,q,W) (by rw[<-a];exact ae (λh=>h rfl));rw[<-u]at this;exact this) (l:=λ_=>bA)
theorem H3(x:uy.inp.den):Live (uy.spec x):=aU λ_=>⟨_,[],rfl⟩
def EL:Ct:=⟨4,⟨[sP 0,sS 1 4,(2,false,[.k (.i64 4)]),N1 3 125 7],hY 0++lZ 4++toB 0⟩,[⟨[(0,false,[.d tB]),sI 1],hY 0++ma 4 8++toB 0++[cT]⟩],λ(c,i,b,a,e,f,j,g,bk,d,h,m,_)=>fJ (0<=c/\c<5/\fU f/\cK a.2.1 a.2.2.1/\cr bk/\cy e/\cb 4 h) (λy=>∃l:List Op,y=lr 4 (jI bk [] 5++cE l) c b a f g h m) λy=>(y.1.1,y.1.2,c,i,b,a,e,y.2.1,j,g,bk,d,y.2.2.2,y.2.2.1,())⟩
abbrev H4(v:BL×Int×Int×BL×BL×Lg×Pg×La×List Fk×KM×Ln×Int×KV×List Tm×Unit):cF EL.out:=⟨0,v⟩
theorem RD:bW Tryz.prog 121 EL:=kC OJ (cQ EL 0) (∀(c:Int)(i f:BL)(e:Lg)(g:Pg)(d:La)(j:List Fk)(k:KM)(h:Ln)(m:Int)(l:List Tm)(n:KV)(Q:cF EL.out->Prop),let E:=(c,i,f,e,g,d,j,k,h,m,n,l,());let v:=cr h/\cy g;let w:=H4 ([],14,E);let p:=d.getD 1 (ax 5 0);let q:=p.getD 4 0+1;let r:=p.getD 3 0+1;let s:=p.getD 2 0+1;let t:=p.getD 1 0+1;let u:=p.getD 0 0+1;let F:=p.getD 4 (0:Int)==1048576;let G:=p.getD 3 (0:Int)==1048576;let H:=p.getD 2 (0:Int)==1048576;let J:=p.getD 1 (0:Int)==1048576;let K:=p.getD 0 (0:Int)==1048576;let z:=Ch.cells [I.d Ty.i64 c,I.d Ty.u8.sl i,I.d Ty.u8.sl f,I.pv (Ty.u8.sl.pr ((Ty.i64.pr (Ty.u8.sl.pr ((Ty.i64.pr (Ty.u8.sl.pr (Ty.u8.sl.pr Ty.un))).sl.pr (cw.sl.pr (Ty.u8.sl.pr (Ty.u8.sl.sl.pr (Ty.u8.sl.pr Ty.un))))))).sl.pr (Ty.u8.sl.sl.pr Ty.un))) e,I.mp 1,I.ptr 2 0,I.pv ((cw.fm (Ty.i64.pr (Ty.i64.pr (Ty.i64.pr (Ty.i64.pr (Ty.bl.pr (Ty.i32.pr Ty.un))))))).pr ((cw.fm Ty.i64).pr ((Ty.i64.pr (Ty.i64.pr (Ty.i64.pr (Ty.i64.pr (Ty.bl.pr (Ty.i32.pr Ty.un)))))).sl.pr (((cw.fm (Ty.i64.pr (Ty.i64.pr (Ty.i32.pr (Ty.bl.pr ((Ty.ar 2 cw.sl).pr Ty.un)))))).pr (Ty.i64.pr Ty.un)).pf.pr (((Ty.i64.pr (Ty.i64.pr (Ty.i64.pr (Ty.i64.pr (Ty.bl.pr (Ty.i64.pr (Ty.i64.pr (Ty.bl.pr cw)))))))).sl.pr Ty.un).pf.pr Ty.un))))) g,I.d (Ty.ar 2 (Ty.ar 5 Ty.i64)) d,I.d cw.sl j]=Ch.cells [I.d Ty.i64 c,I.d Ty.u8.sl i,I.d Ty.u8.sl f,I.pv (Ty.u8.sl.pr ((Ty.i64.pr (Ty.u8.sl.pr ((Ty.i64.pr (Ty.u8.sl.pr (Ty.u8.sl.pr Ty.un))).sl.pr (cw.sl.pr (Ty.u8.sl.pr (Ty.u8.sl.sl.pr (Ty.u8.sl.pr Ty.un))))))).sl.pr (Ty.u8.sl.sl.pr Ty.un))) e,I.mp 1,I.ptr 2 0,I.pv ((cw.fm (Ty.i64.pr (Ty.i64.pr (Ty.i64.pr (Ty.i64.pr (Ty.bl.pr (Ty.i32.pr Ty.un))))))).pr ((cw.fm Ty.i64).pr ((Ty.i64.pr (Ty.i64.pr (Ty.i64.pr (Ty.i64.pr (Ty.bl.pr (Ty.i32.pr Ty.un)))))).sl.pr (((cw.fm (Ty.i64.pr (Ty.i64.pr (Ty.i32.pr (Ty.bl.pr ((Ty.ar 2 cw.sl).pr Ty.un)))))).pr (Ty.i64.pr Ty.un)).pf.pr (((Ty.i64.pr (Ty.i64.pr (Ty.i64.pr (Ty.i64.pr (Ty.bl.pr (Ty.i64.pr (Ty.i64.pr (Ty.bl.pr cw)))))))).sl.pr Ty.un).pf.pr Ty.un))))) g,I.d (Ty.ar 2 (Ty.ar 5 Ty.i64)) d,I.d cw.sl j]/\True;(Tr.need (0<=c/\c<5/\fU d/\cK e.2.1 e.2.2.1/\cr h/\cy g/\cb 4 l) (Tr.all ((BL×Int)×La×List Tm×KV) (λy=>∃o,y=lr 4 (jI h [] 5++cE o) c f e d k l n) λy=>Tr.leaf (H4 (y.1.1,y.1.2,c,i,f,e,g,y.2.1,j,k,h,m,y.2.2.2,y.2.2.1,())))).sat Q->cK e.2.1 e.2.2.1/\Br (!oh c e==0) (Q ⟨0,[],oh c e,E⟩) (Br (c==0) (Br K (Q w) (am u/\v/\∀(b:BL),(∃c,c.length<=9000/\b=jI h [] 5++cE c)->z/\cb 4 l/\∀a,let x:=(j,k,h,m,a.2.2,a.2.1,());a=kS c f e k (4,0,0,p.getD 0 0+1,[],[],[],()) b l n->Br (!a.1.2==0) (Q ⟨0,[],a.1.2,c,i,f,e,g,d,x⟩) (am u/\0+ah a.1.1.2.2.2.2.1+ah a.1.1.2.2.2.2.2.1+ah a.1.1.2.2.2.2.2.2.1<=1000000000/\Q ⟨0,eV a.1.1,0,c,i,f,e,g,d.set 1 (p.set 0 u),x⟩))) (Br (c==1) (Br J (Q w) (am t/\v/\∀(b:BL),(∃c,c.length<=9000/\b=jI h [] 5++cE c)->z/\cb 4 l/\∀a,let A:=(j,k,h,m,a.2.2,a.2.1,());a=kS c f e k (4,0,0,p.getD 1 0+1,[],[],[],()) b l n->Br (!a.1.2==0) (Q ⟨0,[],a.1.2,c,i,f,e,g,d,A⟩) (am t/\0+ah a.1.1.2.2.2.2.1+ah a.1.1.2.2.2.2.2.1+ah a.1.1.2.2.2.2.2.2.1<=1000000000/\Q ⟨0,eV a.1.1,0,c,i,f,e,g,d.set 1 (p.set 1 t),A⟩))) (Br (c==2) (Br H (Q w) (am s/\v/\∀(b:BL),(∃c,c.length<=9000/\b=jI h [] 5++cE c)->z/\cb 4 l/\∀a,let B:=(j,k,h,m,a.2.2,a.2.1,());a=kS c f e k (4,0,0,p.getD 2 0+1,[],[],[],()) b l n->Br (!a.1.2==0) (Q ⟨0,[],a.1.2,c,i,f,e,g,d,B⟩) (am s/\0+ah a.1.1.2.2.2.2.1+ah a.1.1.2.2.2.2.2.1+ah a.1.1.2.2.2.2.2.2.1<=1000000000/\Q ⟨0,eV a.1.1,0,c,i,f,e,g,d.set 1 (p.set 2 s),B⟩))) (Br (c==3) (Br G (Q w) (am r/\v/\∀(b:BL),(∃c,c.length<=9000/\b=jI h [] 5++cE c)->z/\cb 4 l/\∀a,let C:=(j,k,h,m,a.2.2,a.2.1,());a=kS c f e k (4,0,0,p.getD 3 0+1,[],[],[],()) b l n->Br (!a.1.2==0) (Q ⟨0,[],a.1.2,c,i,f,e,g,d,C⟩) (am r/\0+ah a.1.1.2.2.2.2.1+ah a.1.1.2.2.2.2.2.1+ah a.1.1.2.2.2.2.2.2.1<=1000000000/\Q ⟨0,eV a.1.1,0,c,i,f,e,g,d.set 1 (p.set 3 r),C⟩))) (Br (c==4) (Br F (Q w) (am q/\v/\∀(b:BL),(∃c,c.length<=9000/\b=jI h [] 5++cE c)->z/\cb 4 l/\∀a,let D:=(j,k,h,m,a.2.2,a.2.1,());a=kS c f e k (4,0,0,p.getD 4 0+1,[],[],[],()) b l n->Br (!a.1.2==0) (Q ⟨0,[],a.1.2,c,i,f,e,g,d,D⟩) (am q/\0+ah a.1.1.2.2.2.2.1+ah a.1.1.2.2.2.2.2.1+ah a.1.1.2.2.2.2.2.2.1<=1000000000/\Q ⟨0,eV a.1.1,0,c,i,f,e,g,d.set 1 (p.set 4 q),D⟩))) (False/\True))))))) (by
 conv=>zeta
 unfold Br;intro c w l n x A B o bk d C m Q ⟨⟨p,q,g,h,D,E,r⟩,s⟩;have a:∀t y,lr 4 (jI bk [] 5++cE t) c l n A o C m=y->Q ⟨0,(y.1.1,y.1.2,c,w,l,n,x,y.2.1,B,o,bk,d,y.2.2.2,y.2.2.1,())⟩:=λt y e=>s y ⟨t,e.symm⟩;clear s;unfold lr at a;simp only[bN]at a;have hB:=ZF g;refine⟨h,λf=>a [] _ (ak (lf f)),λf=>?_⟩;have f:=nl f;simp only[f,if_false]at a;obtain⟨H,J,K,L,M,N,O,P,R,S,i⟩:=tE g;subst i;refine⟨λb=>?_,λF=>⟨λb=>?_,λp=>⟨λb=>?_,λq=>⟨λb=>?_,λg=>⟨λb=>?_,λh=>?_⟩⟩⟩⟩⟩
 case refine_6=>exfalso;simp only[aC,ne_eq]at F p q g h;omega
 all_goals
  have b:=bz b;subst b;refine⟨λe=>a [] _ (ak (bz e)),λe=>?_⟩;refine⟨inB (hB _ _),⟨D,E⟩,?_⟩;rintro t ⟨u,G,rfl⟩;refine⟨by repeat' (first|exact True.intro|rfl|apply ck),r,λz v=>?_⟩;have U:=snE v r;subst v;exact⟨λj=>a u _ (Eq.trans (ae (aL e)) (ak (lf j))),λj=>⟨inB (hB _ _),ac,a u _ (Eq.trans (ae (aL e)) (ae (nl j)))⟩⟩)
def ZR:bG:=(121,[EL,uy])::ZQ
def ZS:=kB 121 [EL,uy] OJ (je (RD) (bL (HU))) (l:=je (λ_=>aU λ_=>⟨_,[],rfl⟩) (bL (H3)))
def MS:Ct:=⟨2,⟨[sP 0,sS 1 4],hY 0++lZ 4⟩,[⟨[(0,false,[.d tB]),sI 1],hY 0++ma 4 7++[cT]⟩],λ(c,i,b,a,j,e,f,g,bk,d,h,m,_)=>fJ (0<=c/\c<5/\fU e/\cK a.2.1 a.2.2.1/\cr bk/\qS f/\cb 4 h) (λy=>∃t:BL,y=lr 3 t c b a e g h m) λy=>(y.1.1,y.1.2,c,i,b,a,j,y.2.1,f,g,bk,d,y.2.2.2,y.2.2.1,())⟩
def ZT:bG:=(77,[MS])::ZR
def ZU:=kA 77 MS ZS (cQ MS 0) (∀(a:Int)(j d:BL)(c:Lg)(k:Pg)(e:La)(f:List Fk)(g:KM)(h:Ln)(l:Int)(i:List Tm)(m:KV)Q,bg MS (a,j,d,c,k,e,f,g,h,l,i,m,()) Q->(0<=a/\a<5/\fU e/\cK c.2.1 c.2.2.1/\cr h/\qS f/\cb 4 i)/\∀(b:(BL×Int)×La×List Tm×KV),(∃n,b=lr 3 n a d c e g i m)->Q ⟨0,b.1.1,b.1.2,a,j,d,c,k,b.2.1,f,g,h,l,b.2.2.2,b.2.2.1,()⟩) (by
 unfold bg;intro c f g i j n o p bk d q m Q ⟨h,a⟩;exact⟨h,λb e=>a b e⟩) (l:=λ_=>aU λ_=>⟨_,[],rfl⟩)
def MT:Ct:=⟨2,⟨[sP 0,sS 1 4],hY 0++lZ 4⟩,[⟨[(0,false,[.d tB]),sI 1],hY 0++ma 4 7++[cT]⟩],λ(c,i,b,a,e,f,j,g,bk,d,h,m,_)=>fJ (0<=c/\c<5/\fU f/\cK a.2.1 a.2.2.1/\cr bk/\cy e/\cb 4 h) (λy=>∃l:List Op,y=lr 4 (jI bk [] 5++cE l) c b a f g h m) λy=>(y.1.1,y.1.2,c,i,b,a,e,y.2.1,j,g,bk,d,y.2.2.2,y.2.2.1,())⟩
def ZV:bG:=(78,[MT])::ZT
def ZW:=kA 78 MT ZU (cQ MT 0) (∀(a:Int)(j e:BL)(c:Lg)(f:Pg)(g:La)(k:List Fk)(h:KM)(d:Ln)(l:Int)(i:List Tm)(m:KV)Q,bg MT (a,j,e,c,f,g,k,h,d,l,i,m,()) Q->(0<=a/\a<5/\fU g/\cK c.2.1 c.2.2.1/\cr d/\cy f/\cb 4 i)/\∀(b:(BL×Int)×La×List Tm×KV),(∃n,b=lr 4 (jI d [] 5++cE n) a e c g h i m)->Q ⟨0,b.1.1,b.1.2,a,j,e,c,f,b.2.1,k,h,d,l,b.2.2.2,b.2.2.1,()⟩) (by
 unfold bg;intro c f g i j n o p bk d q m Q ⟨h,a⟩;exact⟨h,λb e=>a b e⟩) (l:=λ_=>aU λ_=>⟨_,[],rfl⟩)
def MU:Ct:=⟨1,⟨[sP 0],hY 0⟩,[⟨[(0,false,[.ptr 4 0])],hY 0++JL 4⟩],λ(c,b,e,f,a,g,h,i,bk,_)=>fJ (cy a) (jD a) λq=>(c,b,e,f,a,g,h,i,bk,q.1,q.2.1,q.2.2.1,q.2.2.2.1.2.1,q.2.2.2.1.1,q.2.2.2.2.1.1,())⟩
def ZX:bG:=(22,[MU])::ZV
def ZY:=kA 22 MU ZW (cQ MU 0) (∀(c:Int)(d e:BL)(f:Lg)(a:Pg)(g:La)(h:List Fk)(i:KM)(j:Ln)Q,bg MU (c,d,e,f,a,g,h,i,j,()) Q->cy a/\∀(b:Pg),jD a b->Q ⟨0,c,d,e,f,a,g,h,i,j,b.1,b.2.1,b.2.2.1,b.2.2.2.1.2.1,b.2.2.2.1.1,b.2.2.2.2.1⟩) (by
 unfold bg;intro c e f g i j m n bk Q ⟨h,a⟩;exact⟨h,λq b=>a q b⟩) (l:=λ_=>aU λ_=>js _)
def MV:Ct:=⟨1,⟨[sP 0],hY 0⟩,[⟨[sO 0 4],hY 0++[cHd]⟩],λ(c,a,b,e,f,g,h,i,bk,_)=>one (cr bk) (c,a,b,e,f,g,h,i,bk,uq bk 5,())⟩
def ZZ:bG:=(70,[MV])::ZX
def Z0:=kA 70 MV ZY (cQ MV 0) (∀(b:Int)(c d:BL)(e:Lg)(f:Pg)(g:La)(h:List Fk)(i:KM)(a:Ln)Q,bg MV (b,c,d,e,f,g,h,i,a,()) Q->cr a/\Q ⟨0,b,c,d,e,f,g,h,i,a,uq a 5,()⟩) (by
 unfold bg;intro c b e f g i j l bk Q ⟨h,a⟩;exact⟨h,a⟩)
def MW:Ct:=⟨2,⟨[sO 0 0,(1,true,[.d iZ])],[JG]⟩,[⟨[sI 0],[JG]⟩],λ(x,l,_)=> .need (l.length<=1000000000) (.all Int (λy=>(0<=y↔x∈l)) λy=> .leaf ⟨0,(y,l,())⟩)⟩
def Z1:cx:=⟨[sO 0 0,(3,false,[.ptr 1 0]),sI 7,sI 8],[JG,some (.cells [.d iZ])]⟩
def MX(x:Fk)(l:List Fk)(y:Z1.den):Prop:=match y with
 |(n,i,a,b,_)=>a=l/\b=x/\n=l.length/\∃k:Nat,i=k/\k<=l.length/\x∉l.take k
def a6g(x:MW.inp.den):eH:=⟨[(2,bS Z1 (MX x.1 x.2.1) λ(n,i,_)=>(n-i).toNat)],[],[],[],0⟩
def Z2:bG:=(214,[MW])::ZZ
def OK:=kA 214 MW Z0 a6g (∀(f:Fk)(c:List Fk)Q,bg MW (f,c,()) Q->Is (MX f c (nI c,0,c,f,()))/\∀(d a:Int)(b:List Fk)(e:Fk),let z:=e.1==(gD b a (0,0,())).1&&e.2.1==(gD b a (0,0,())).2.1;MX f c (d,a,b,e,())->Bd (a<d) (iN a b/\Br z (Q ⟨0,a,b,()⟩) (am (a+1)/\Is (MX f c (d,a+1,b,e,())/\lN (d-(a+1)) (d-a)))) (Q ⟨0,(-1:Int),b,()⟩)) (by
 conv=>zeta
 unfold Bd Br gD iN lN nI bg;rintro x l Q ⟨t,f⟩;refine⟨⟨rfl,rfl,rfl,0,rfl,aq _,bY⟩,?_⟩;rintro n i g m ⟨o,p,q,k,r,u,j⟩;subst o;subst p;subst q;subst r;refine⟨λc=>?_,λe=>?_⟩
 ·have b:k<g.length:=by simp only[ai]at c;omega
  have s:((k:Int).toNat)=k:=ac
  rw[s];refine⟨ac,λh=>f _ ?_,λh=>⟨?_,⟨rfl,rfl,rfl,k+1,rfl,b,?_⟩,ac⟩⟩
  ·constructor
   ·intro _
    have:m=g[k]:=by
     simp only[aK,aS,aw,an b,dA]at h;exact ga h.1 (ga h.2 rfl)
    rw[this];exact ls b
   ·intro _;omega
  ·unfold am;omega
  ·rw[dR,an b];intro a;simp only[Option.toList_some,ba,bV]at a;rcases a with a|a
   ·exact j a
   ·rw[aw,an b,dA,<-a]at h;simp at h
 ·simp only[aj]at e;refine f _ ⟨λh=>absurd h ac,λh=>absurd ?_ j⟩
  rwa [bb ac]) (l:=λx=>Live.need λ_=>Live.all ⟨if x.1∈x.2.1 then 0 else-1,by split<;>simp_all,Live.leaf⟩)
def H5:Ct:=⟨2,⟨[sO 0 0,(1,true,[.d iZ])],[JG]⟩,[⟨[sL 0],[JG]⟩],λ(x,l,_)=>one (l.length<=1000000000) (decide (x∈l),l,())⟩
theorem RE:bW Tryz.prog 198 H5:=kC OK (cQ H5 0) (∀(c:Fk)(a:List Fk)Q,bg H5 (c,a,()) Q->a.length<=1000000000/\∀(b:Int),(0<=b↔c∈a)->Q ⟨0,decide (0<=b),a,()⟩) (by
 unfold bg;rintro x y Q ⟨a,c⟩;refine⟨a,λb e=>?_⟩;have:decide (0<=b)=decide (x∈y):=by simp only[e]
 rw[this];exact c)
def Z3:bG:=(198,[H5,AR])::Z2
def Z4:=kB 198 [H5,AR] OK (je (RE) (bL (GD))) (l:=je (λ_=>eJ) (bL (λ_=>eJ)))
abbrev hdY:=(Rl×List Fk×Int)×List Fk×Int×Int
def Bk:Ct:=⟨2,⟨[sP 0,(1,false,[.ptr 4 0])],hY 0++rH⟩,[⟨[(0,true,[.d tRl]),(1,false,[.d (.sl iZ)]),sI 2],hY 0++rH⟩],λ(c,g,h,i,j,l,f,n,bk,b,a,m,e,_)=>fJ (bZ b a/\cr bk/\f.length+1000<=10000000) (λy:hdY=>y.1.2.1.length<=300/\y.2.1.length<=f.length+300) λy=>(y.1.1,y.1.2.1,y.1.2.2,c,g,h,i,j,l,y.2.1,n,bk,b,y.2.2.1,m,y.2.2.2,())⟩
def Z5(j:Nat):cx:=⟨[sP 0,(1,false,[.ptr 4 0]),(4,false,[.ptr 5 0]),sO 7 6,sI j,sI (j+1)],hY 0++rH++[some (.cells [.d .bl, .d .bl]),some (.sl JF)]⟩
def MY(x:Bk.inp.den)(y:(Z5 18).den):Prop:=match x,y with
 |(c,q,r,s,t,u,w,A,bk,b,a,m,e,_),(n,i,B,f,g,h,fO,j,l,o,p,C,D,E,F,z,G,v,_)=>(B,f,g,h,fO,j,l,o,p,C,E)=(c,q,r,s,t,u,w,A,bk,b,m)/\bZ b D/\@aX Int _ n 5/\∃k:Nat,i=k/\@aX Int _ (k:Int) (@max Int _ n 0)/\v.length=k
def OL:cx:=⟨[sP 0,(1,false,[.ptr 4 0]),(4,false,[.ptr 5 0]),(7,false,[.d (.sl JF)]),sO 9 6,sI 36,sI 37],hY 0++rH++[some (.cells [.d .bl, .d .bl]),JG]⟩
def C6(x:Bk.inp.den)(y:OL.den):Prop:=match x,y with
 |(c,q,r,t,u,w,A,B,bk,b,a,m,e,_),(v,n,i,C,f,g,h,fO,j,l,o,p,D,E,F,G,z,H,s,_)=>(C,f,g,h,fO,j,l,o,p,D,F)=(c,q,r,t,u,w,A,B,bk,b,m)/\bZ b E/\v.length<=5/\@aX Int _ n 255/\∃k:Nat,i=k/\@aX Int _ (k:Int) (@max Int _ n 0)/\s.length=k
def OM:cx:=⟨[sP 0,(1,false,[.ptr 4 0]),(4,false,[.ptr 5 0]),(12,false,[.ptr 6 0]),sO 13 7,(69,false,[.d (.sl iZ)]),sI 70,sI 71],hY 0++rH++[some (.cells [.d .bl, .d .bl]),some (.cells [.d .bl, .d .bl]),JG]⟩
def zh(x:Bk.inp.den)(y:OM.den):Prop:=match x,y with
 |(c,t,u,v,w,A,B,C,bk,b,a,m,e,_),(s,n,i,D,g,h,j,fO,l,o,p,q,E,G,F,H,z,J,r,K,f,_)=>(D,g,h,j,fO,l,o,p,q,E,F)=(c,t,u,v,w,A,B,C,bk,b,m)/\s.length<=255/\n=s.length/\∃k:Nat,i=k/\k<=s.length/\f.length<=5+k
def a6h(x:Bk.inp.den):eH:=⟨[(3,bS (Z5 18) (MY x) λ(n,i,_)=>(n-i).toNat),(11,bS OL (C6 x) λ(_,n,i,_)=>(n-i).toNat),(23,bS OM (zh x) λ(_,n,i,_)=>(n-i).toNat)],[],[],[],0⟩
def Z6:bG:=(180,[Bk])::Z3
def Z7:=kA 180 Bk Z4 a6h (∀(g:Int)(h i:BL)(j:Lg)(k:Pg)(l:La)(m:List Fk)(n:KM)(o:Ln)(c:BL)(d:Int)(e:Bool)(p:Int)Q,let x:=(g,h,i,j,k,l,m,n,o,c,d,e,p,());bg Bk x Q->bZ c d/\∀b,b=dn c d e p 0 5->Is (MY x (b.1,0,g,h,i,j,k,l,m,n,o,c,b.2.1,e,b.2.2,false,false,[],()))/\∀(C y X:Int)(Y d5:BL)(d6:Lg)(d7:Pg)(d8:La)(d9:List Fk)(e0:KM)(e1:Ln)(q:BL)(D:Int)(z:Bool)(e2:Int)(e3 e4:Bool)(H:List (Int×Int×BL×Unit)),MY x (C,y,X,Y,d5,d6,d7,d8,d9,e0,e1,q,D,z,e2,e3,e4,H,())->Bd (y<C) (bZ q D/\∀b,b=dn q D z e2 0 4->bZ q b.2.1/\∀r,r=dn q b.2.1 z b.2.2 1 1048576->bZ q r.2.1/\∀J,J=hJ q r.2.1 z r.2.2 32->(H.length+1)*40<=mM/\am (y+1)/\Is (MY x (C,y+1,X,Y,d5,d6,d7,d8,d9,e0,e1,q,J.2.1,z,J.2.2,e3,e4,H++[(b.1,r.1,J.1,())],())/\lN (C-(y+1)) (C-y))) (bZ q D/\∀b,b=dn q D z e2 0 255->Is (C6 x (H,b.1,0,X,Y,d5,d6,d7,d8,d9,e0,e1,q,b.2.1,z,b.2.2,e3,e4,[],()))/\∀(K:List (Int×Int×BL×Unit))(E A L:Int)(M N:BL)(O:Lg)(P:Pg)(R:La)(S:List Fk)(U:KM)(F:Ln)(f:BL)(s:Int)(t:Bool)(w:Int)(e5 e6:Bool)(G:List Fk),let z3:=(L,M,N,O,P,R,S,U,F,f,s,t,w,());C6 x (K,E,A,L,M,N,O,P,R,S,U,F,f,s,t,w,e5,e6,G,())->Bd (A<E) (bZ f s/\∀b,b=dn f s t w 0 4->bZ f b.2.1/\∀r,r=dn f b.2.1 t b.2.2 1 1048576->(G.length+1)*16<=mM/\am (A+1)/\Is (C6 x (K,E,A+1,L,M,N,O,P,R,S,U,F,f,r.2.1,t,r.2.2,e5,e6,G++[(b.1,r.1,())],())/\lN (E-(A+1)) (E-A))) (bZ f s/\Br (!eZ f s t w==0) (Q ⟨0,(false,false,()),[],eZ f s t w,z3⟩) ((cr F/\K.length<=1000000)/\∀(b:(Bool×Bool×Unit)×List Fk×Int),b.2.1.length<=K.length/\(b.2.2=0\/b.2.2=1)->Br (!b.2.2==0) (Q ⟨0,(false,false,()),[],5,z3⟩) (Is (zh x (G,nI G,0,L,M,N,O,P,R,S,U,F,f,s,t,w,e5,e6,b.1.1,b.1.2.1,b.2.1,()))/\∀(B:List Fk)(v a b9:Int)(c0 c1:BL)(c2:Lg)(c3:Pg)(c4:La)(W:List Fk)(c5:KM)(c6:Ln)(c7:BL)(c8:Int)(c9:Bool)(d0:Int)(e7 e8 d1 d2:Bool)(u:List Fk),let z4:= !decide (gD B a (0,0,())∈u);let z2:=(b9,c0,c1,c2,c3,c4,W,c5,c6,c7,c8,c9,d0,e7,e8,d1,d2,u,());zh x (B,v,a,z2)->Bd (a<v) (iN a B/\u.length<=1000000000/\Br z4 ((u.length+1)*16<=mM/\am (a+1)/\Is (zh x (B,v,a+1,b9,c0,c1,c2,c3,c4,W,c5,c6,c7,c8,c9,d0,e7,e8,d1,d2,u++[gD B a (0,0,())],())/\lN (v-(a+1)) (v-a))) (am (a+1)/\Is (zh x (B,v,a+1,z2)/\lN (v-(a+1)) (v-a)))) (W.length+u.length<=10000000/\∀(b:List Fk),b.length<=W.length+u.length->Q ⟨0,(d1,d2,()),u,0,b9,c0,c1,c2,c3,c4,b,c5,c6,c7,c8,c9,d0,()⟩)))))) (by
 conv=>zeta
 unfold Bd Br gD iN lN mM nI bg;intro c se sg lg pg la fk km bk b a m e Q ⟨⟨h1,h2,h3⟩,hQ⟩;have W:∀(r:Rl)(f:List Fk)(X:Int)(R:List Fk)(Y e':Int),f.length<=300->R.length<=fk.length+300->Q ⟨0,(r,f,X,c,se,sg,lg,pg,la,R,km,bk,b,Y,m,e',())⟩:=λr f X R Y e' h h'=>hQ ((r,f,X),R,Y,e') ⟨h,h'⟩;clear hQ;refine⟨h1,λg hg=>?_⟩;have q0:=fx m e 0 5 h1;rw[<-hg]at q0;refine⟨⟨rfl,q0.1,ac,0,rfl,ac,rfl⟩,?_⟩;rintro n i c1 a5 a6 a7 fO a8 a9 b0 b4 b1 a1 S e1 z z' v ⟨B,A,g2,k,g3,g4,g5⟩;simp only[Prod.mk.injEq]at B;obtain⟨E,F,G,H,J,K,L,M,N,j,o⟩:=B;subst E F G H J K L M N j o g3;refine⟨λp=>?_,λq=>?_⟩
 ·simp only[ai]at p;refine⟨A,λx C=>?_⟩;have t:=(fx S e1 0 4 A).1;rw[<-C]at t;refine⟨t,λy U=>?_⟩;have D:=(fx S x.2.2 1 1048576 t).1;rw[<-U]at D;refine⟨D,λw hw=>?_⟩;have r3:=(ow S y.2.2 32 D).1;rw[<-hw]at r3;exact⟨ac,cv,⟨rfl,r3,g2,k+1,rfl,ac,by rw[aa,g5];rfl⟩,ac⟩
 simp only[aj]at q;refine⟨A,λx C=>?_⟩;have t:=fx S e1 0 255 A;rw[<-C]at t;refine⟨⟨rfl,t.1,ac,ac,0,rfl,ac,rfl⟩,?_⟩;clear hg q0 C t g A x;rintro v2 n2 i2 c2 b5 b6 b7 b8 b9 c0 c4 c5 b2 a2 m2 e2 w w' s ⟨B,A,g6,g7,k2,g8,g9,O⟩;simp only[Prod.mk.injEq]at B;obtain⟨E,F,G,H,J,K,L,M,N,j,o⟩:=B;subst E F G H J K L M N j o g8;refine⟨λp=>?_,λq=>?_⟩
 ·simp only[ai]at p;refine⟨A,λx C=>?_⟩;have t:=(fx m2 e2 0 4 A).1;rw[<-C]at t;refine⟨t,λy U=>?_⟩;have D:=(fx m2 x.2.2 1 1048576 t).1;rw[<-U]at D;exact⟨ac,cv,⟨rfl,D,g6,g7,k2+1,rfl,ac,by rw[aa,O];rfl⟩,ac⟩
 simp only[aj]at q;refine⟨A,λ_=>W _ [] _ _ _ _ bY ac,λ_=>⟨⟨h2,ac⟩,λcm c6=>⟨λ_=>W _ [] _ _ _ _ bY ac,λ_=>⟨⟨rfl,ac,rfl,0,rfl,aq _,ac⟩,?_⟩⟩⟩⟩;have c7:s.length<=255:=ac
 clear q g9 O g7;rintro s3 n3 i3 c3 c8 c9 d0 d1 d2 d3 d4 d5 b3 a3 m3 e3 u u' r r' f ⟨B,P,a0,k3,a4,d6,d7⟩;simp only[Prod.mk.injEq]at B;obtain⟨E,F,G,H,J,K,L,M,N,j,o⟩:=B;subst E F G H J K L M N j o a0 a4;refine⟨λp=>?_,λq=>⟨ac,λy U=>W _ f _ y _ _ ac ac⟩⟩;simp only[ai]at p;exact⟨ac,ac,λ_=>⟨ac,cv,⟨rfl,P,rfl,k3+1,rfl,ac,by rw[aa,bi];omega⟩,ac⟩,λ_=>⟨cv,⟨rfl,P,rfl,k3+1,rfl,ac,ac⟩,ac⟩⟩) (l:=λ_=>aU λ_=>⟨(((false,false,()),[],0),[],0,0),aq _,aq _⟩)
def EN:Ct:=⟨4,⟨[sI 0,sB 1,sB 2,sB 3],[]⟩,[⟨[(0,false,[.nilp])],[]⟩,⟨[sP 0],hY 0⟩],λ(id,a,b,c,_)=> .need (c.length<=1000000/\a.length<=1000000/\b.length<=1000000) (.ite (decide (id<0\/5<=id\/a.length≠32\/b.length≠32\/c.length≠32)) (.leaf ⟨0,()⟩) (.leaf ⟨1,(id,a,b,(c,[],[],()),ka,[[0,0,0,0,0],[0,0,0,0,0]],[],[],[],())⟩))⟩
abbrev RF(v:Unit):cF EN.out:=⟨0,v⟩
abbrev RG(v:Int×BL×BL×Lg×Pg×La×List Fk×KM×Ln×Unit):cF EN.out:=⟨1,v⟩
def Z8:bG:=(35,[EN])::Z6
def Z9:=kA 35 EN Z7 (cQ EN 0) (∀(a:Int)(b c d:BL)(Q:cF EN.out->Prop),let z:=RG (a,b,c,(d,[],[],()),([],[],[],([((0,0,()),0,0,0,false,[[],[]],())],0,()),([],()),()),[[0,0,0,0,0],[0,0,0,0,0]],[],[],[],());(Tr.need (d.length<=1000000/\b.length<=1000000/\c.length<=1000000) (Tr.ite (decide (a<0\/5<=a\/b.length≠32\/c.length≠32\/d.length≠32)) (Tr.leaf (RF ())) (Tr.leaf z))).sat Q->Bd (a<0) (Q ⟨0,()⟩) (Bd (5<=a) (Q ⟨0,()⟩) (Br (!(nI b)==32) (Q ⟨0,()⟩) (Br (!(nI c)==32) (Q ⟨0,()⟩) (Br (!(nI d)==32) (Q ⟨0,()⟩) (b.length<=1000000/\c.length<=1000000/\d.length<=1000000/\True/\True/\Q z)))))) (by
 conv=>zeta
 unfold Bd Br nI;intro id e f g Q ⟨⟨i,j,m⟩,b,c⟩;have a:(id<0\/5<=id\/e.length≠32\/f.length≠32\/g.length≠32)->Q ⟨0,()⟩:=λh=>b (decide_eq_true h);simp only[ai,aj,aS,aC,ne_eq,aR,aN];refine⟨λh=>a ac,λn=>⟨λh=>a ac,λo=>⟨λh=>a ac,λp=>⟨λh=>a ac,λq=>⟨λh=>a ac,λr=>⟨j,m,i,trivial,trivial,c (decide_eq_false ac)⟩⟩⟩⟩⟩⟩) (l:=λ_=>Live.need λ_=>Live.ite (λ_=>Live.leaf) (λ_=>Live.leaf))
def cvQ(bk b:Ln)(a:Nat)(n:Nat):Prop:=(cJ bk (a:Int)).length<=(cJ b (a:Int)).length/\∀q:Nat,1<=q->q<n->(xm bk (a:Int) (q:Int)).1=(xm b (a:Int) (q:Int)).1
def ON(bk b:Ln)(k:Nat):Prop:=∀a:Nat,a<k->cvQ bk b a ((cJ bk (a:Int)).length+1)
theorem heL(bk:Ln)(h:k<5):(fe bk (k:Int)).2.1=((cJ bk (k:Int)).length:Int):=by
 unfold fe;rw[ae ac]
def Bl:Ct:=⟨2,⟨[sP 0,(1,false,[.ptr 4 0])],hY 0++jW 4⟩,[⟨[sI 0],hY 0++jW 4⟩],λ(c,f,g,a,h,i,e,j,bk,b,_)=>fJ (cr bk/\cr b/\cK a.2.1 a.2.2.1/\e.length+1<=10000000) (λy:Int×List Fk=>y.2.length<=e.length+1/\(y.1=0->ON bk b 5)) λy=>(y.1,c,f,g,a,h,i,y.2,j,bk,b,())⟩
def a_:cx:=⟨[sP 0,(1,false,[.ptr 4 0]),sI 15],hY 0++jW 4⟩
def MZ(x:Bl.inp.den)(y:a_.den):Prop:=match x,y with
 |(c,m,n,o,p,q,r,s,bk,b,_),(i,t,a,e,f,fO,g,h,j,l,u,_)=>(t,a,e,f,fO,g,h,j,l,u)=(c,m,n,o,p,q,r,s,bk,b)/\∃k:Nat,i=k/\k<=5/\ON bk b k
def b_:cx:=⟨[sP 0,(1,false,[.ptr 4 0]),sI 5,sI 6,sI 7,sI 15],hY 0++jW 4⟩
def M0(x:Bl.inp.den)(e:Int)(y:b_.den):Prop:=match x,y with
 |(c,p,s,t,u,v,w,z,bk,b,_),(a,n,q,i,A,f,g,h,fO,j,l,m,o,B,_)=>(A,f,g,h,fO,j,l,m,o,B)=(c,p,s,t,u,v,w,z,bk,b)/\i=e/\a=e/\∃k r:Nat,e=k/\k<5/\ON bk b k/\n=(cJ bk (k:Int)).length/\q=r/\1<=r/\r<=(cJ bk (k:Int)).length+1/\cvQ bk b k r
def c_:cx:=⟨[sP 0,(1,false,[.ptr 4 0]),sI 64],hY 0++jW 4⟩
def M1(x:Bl.inp.den)(y:c_.den):Prop:=match x,y with
 |(c,m,n,o,p,q,r,s,bk,b,_),(i,t,a,e,f,fO,g,h,j,l,u,_)=>(t,a,e,f,fO,g,h,j,l,u)=(c,m,n,o,p,q,r,s,bk,b)/\ON bk b 5/\∃k:Nat,i=k/\k<=5
def a6i(x:Bl.inp.den):eH:=⟨[(2,pW a_ (MZ x) (λ(i,_)=>(5-i).toNat) λ(i,_)=>[(8,bS b_ (M0 x i) λ(_,n,q,_)=>(n+1-q).toNat)]),(17,bS c_ (M1 x) λ(i,_)=>(5-i).toNat)],[],[],[],0⟩
def d_:bG:=(203,[Bl])::Z8
def e_:=kA 203 Bl Z9 a6i (∀(g:Int)(h i:BL)(j:Lg)(k:Pg)(l:La)(m:List Fk)(n:KM)(o p:Ln)Q,let F:=(h,i,j,k,l,m,n,o,p,());let x:=(g,F);bg Bl x Q->Is (MZ x (0,g,F))/\∀(e K:Int)(L M:BL)(N:Lg)(O:Pg)(P:La)(R:List Fk)(S:KM)(y D:Ln),let U:=(fe D e).2.1<(fe y e).2.1;let B:=(K,L,M,N,O,P,R,S,y,D,());MZ x (e,B)->Bd (e<5) (cr y/\cr D/\Br (decide U) (Q ⟨0,24,B⟩) (Is (M0 x e (e,(fe y e).2.1,1,e,B))/\∀(a q c r d:Int)(s t:BL)(u:Lg)(v:Pg)(w:La)(f:List Fk)(G:KM)(z A:Ln),let W:= !(xm z a c).1==(xm A a c).1;let E:=(d,s,t,u,v,w,f,G,z,A,());M0 x e (a,q,c,r,E)->Bd (c<=q) (cr z/\cr A/\(ah (xm z a c).1<=1000000000/\ah (xm A a c).1<=1000000000)/\Br W (f.length+1<=10000000/\∀(b:List Fk),b.length<=f.length+1->Q ⟨0,18,d,s,t,u,v,w,b,G,z,A,()⟩) (am (c+1)/\Is (M0 x e (a,q,c+1,r,E)/\lN (q+1-(c+1)) (q+1-c)))) (am (r+1)/\Is (MZ x (r+1,E)/\lN (5-(r+1)) (5-e))))) (Is (M1 x (0,B))/\∀(a q:Int)(c r:BL)(d:Lg)(s:Pg)(t:La)(u:List Fk)(v:KM)(w f:Ln),let H:=xo (List.reverse d.2.1) a;let C:=(q,c,r,d,s,t,u,v,w,f,());let J:=am (a+1)/\Is (M1 x (a+1,C)/\lN (5-(a+1)) (5-a));M1 x (a,C)->Bd (a<5) (cK d.2.1 d.2.2.1/\Br (H.2) (cr f/\Bd (H.1<(fe f a).2.1) (Q ⟨0,19,C⟩) J) J) (Q ⟨0,0,C⟩))) (by
 conv=>zeta
 unfold Bd Br lN bg;intro c se sg lg pg la fk km bk b Q ⟨⟨C,D,h3,h4⟩,W⟩;have E:∀(F:Int)(G:List Fk),G.length<=fk.length+1->(F=0->ON bk b 5)->Q ⟨0,(F,c,se,sg,lg,pg,la,G,km,bk,b,())⟩:=λF G h h'=>W (F,G) ⟨h,h'⟩;clear W;refine⟨⟨rfl,0,rfl,ac,λa ha=>ac⟩,?_⟩;rintro i c1 a0 a1 a2 fO a3 J a4 K b1 ⟨f,k,g1,g2,X⟩;simp only[Prod.mk.injEq]at f;obtain⟨o,p,s,t,u,v,w,x,z,e⟩:=f;subst o p s t u v w x z e g1;simp only[ai,aj];refine⟨λa5=>?_,λa6=>?_⟩
 ·have H:k<5:=ac
  rw[heL K H,heL b1 H];refine⟨C,D,λ_=>E 24 J ac (λh=>absurd h bt),λa7=>⟨⟨rfl,rfl,rfl,k,1,rfl,H,X,rfl,rfl,ac,ac,ac,λq a b=>ac⟩,?_⟩⟩;rintro a n q i2 c2 L M N O P j R A b2 ⟨f,B,S,k2,r,U,e4,Y,e6,e7,e8,e9,m⟩;simp only[Prod.mk.injEq]at f;obtain⟨o,p,s,t,u,v,w,x,z,e⟩:=f;have U:k=k2:=ac
  subst o p s t u v w x z e U B S e6 e7;refine⟨λhc=>⟨C,D,⟨by have:=Bi C (k:Int) (r:Int);omega,by have:=Bi D (k:Int) (r:Int);omega⟩,λ_=>⟨ac,λy hy=>E 18 y hy (λh=>absurd h bt)⟩,λhe=>⟨?_,⟨rfl,rfl,rfl,k,r+1,rfl,H,Y,rfl,rfl,ac,ac,m.1,λq a b=>?_⟩,ac⟩⟩,λhc=>⟨cv,⟨rfl,k+1,rfl,ac,λa ha=>?_⟩,ac⟩⟩
  ·have:=(C (k:Int)).1;unfold am;omega
  ·rcases br q r with g|g
   ·exact m.2 q a g
   ·have:q=r:=ac
    subst this;simp only[aN,aS]at he;exact he
  ·rcases br a k with g|g
   ·exact Y a g
   ·have:a=k:=ac
    subst this;have:r=(cJ A (a:Int)).length+1:=ac
    rw[<-this];exact m
 ·have:k=5:=ac
  subst this;refine⟨⟨rfl,X,0,rfl,ac⟩,?_⟩;rintro i2 c2 L M N O P j R A b2 ⟨f,B,k,S,U⟩;simp only[Prod.mk.injEq]at f;obtain⟨o,p,s,t,u,v,w,x,z,e⟩:=f;subst o p s t u v w x z e S;refine⟨λhl=>⟨h3,λ_=>⟨D,λ_=>E 19 j ac (λh=>absurd h bt),λ_=>⟨cv,⟨rfl,B,k+1,rfl,ac⟩,ac⟩⟩,λ_=>⟨cv,⟨rfl,B,k+1,rfl,ac⟩,ac⟩⟩,λ_=>E 0 j ac λ_=>B⟩) (l:=λ_=>aU λ_=>⟨(24,[]),aq _,λh=>absurd h bt⟩)
theorem erK(m:Bool){c:Prop}[Decidable c]{x y:Bool×Rs×List Lk}(a:c->x.1=false->yQ m x.2.1≠0)(b:¬c->yQ m y.2.1≠0)(h:(if c then x else y).1=false):yQ m (if c then x else y).2.1≠0:=by
 by_cases g:c
 ·rw[ak g]at h⊢;exact a g h
 ·rw[ae g];exact b g
theorem f_(b:BL)(m:Bool)(au:Int):∀(k:Nat)(i last:Int)(s:Rs)(c:List Lk),(xn b m au k i last s c).1=false->yQ m (xn b m au k i last s c).2.1≠0
 |0,_,_,_,_,h=>by simp[xn]at h
 |k+1,i,last,(a,e),c,h=>by
  rw[tk]at h⊢;exact erK m (λ_ h=>f_ b m au k _ _ _ _ h) (λg=>g) h
theorem g_(b:BL)(m:Bool):∀(k:Nat)(au:Int)(s:Rs)(a:List Lk),(qD b m k au s a).1=false->yQ m (qD b m k au s a).2.1≠0
 |0,_,_,_,h=>by simp[qD]at h
 |k+1,au,s,a,h=>by
  simp only[qD]at h⊢;split at h
  ·rename_i g;rw[ak g];exact g_ b m k _ _ _ h
  ·rename_i g;rw[ae g];exact f_ b m au _ _ _ _ _ h
theorem a6j(b:BL)(m:Bool)(s:Rs)(h:(rj b m s).1=false):yQ m (rj b m s).2.1≠0:=by
 unfold rj at h⊢;dsimp only at h⊢;cases g:(qD b m 5 0 s []).1 with
 |false=>exact g_ b m 5 0 s [] g
 |true=>rw[g]at h;simpa using h
def TT(b:BL)(m:Bool)(s:Rs)(ts:List Tm)(mp:KV):(Bool×Rs×List Lk)×Ln×List Tm×KV:=(rj b m s,nC (rj b m s).2.2 ts mp)
def cgL:Ct:=⟨2,⟨[sS 0 0,(1,false,[.ptr 3 0])],TC⟩,[⟨[(0,false,[.nilp])],TC⟩,⟨[(0,false,[.ptr 4 0])],ma 0 6++rH++bkP 5++[cT]⟩],λ(d,c,m,b,a,f,e,_)=> .need (bZ b a/\b.length<=65536/\c.length+b.length<=4294967296) (.all ((Bool×Rs×List Lk)×Ln×List Tm×KV) (λy=>y=TT b f (a,e) c m) λy=> .ite y.1.1
 (.leaf ⟨1,(d,y.2.2.2,b,y.1.2.1.1,f,y.1.2.1.2,y.2.1,y.2.2.1,())⟩)
 (.leaf ⟨0,(d,c,m,b,y.1.2.1.1,f,y.1.2.1.2,())⟩))⟩
theorem RH:bW Tryz.prog 202 cgL:=bW.mono NY λ_ _ h=>⟨h.1,h.2 _ rfl⟩
def g':bG:=(202,[cgL])::d_
def h_:=kB 202 [cgL] e_ (bL RH) (l:=bL (λ_=>Live.need λ_=>Live.all ⟨_,rfl,Live.ite (λ_=>Live.leaf) (λ_=>Live.leaf)⟩))
def i_(j a:Nat):List (Option CP):=[some (.cells [.d .i64, .d tB, .d tB, .d (.pf TG), .mp (j+1), .ptr a 0, .d N8, .d tLa, .d (.sl iZ)]),some (.mp .i64 tB),none,none]
structure WhY where
 err:Int
 pg:Pg
 fk:List Fk
 bk:Ln
 a:Int
 e:Int
def M2(a:Pg)(b:List Fk)(bk:Ln)(w:(Bool×Rs×List Lk)×Ln×List Tm×KV)(y:WhY):Prop:=
 y.fk.length<=b.length+1/\(y.err≠0/\y.pg=a/\y.bk=bk\/y.err=0/\w.1.1=true/\cy y.pg/\y.bk=w.2.1/\ON bk y.bk 5)
def M3:Ct:=⟨3,⟨[sP 0,sS 1 4,(2,false,[.ptr 7 0])],hY 0++lZ 4++rH⟩,[⟨[sI 0],i_ 0 9++ma 4 8++rH++[cT]++jW 9⟩],λ(c,l,n,f,i,o,j,p,bk,d,g,m,b,a,h,e,_)=>
 .need (bZ b a/\h=true/\b.length<=65536/\g.length+b.length<=4294967296/\cy i/\cr bk/\cK f.2.1 f.2.2.1/\j.length+1<=10000000) (.all ((Bool×Rs×List Lk)×Ln×List Tm×KV) (λw=>w=TT b h (a,e) g m) λw=> .all WhY (M2 i j bk w) λy=>
  .leaf ⟨0,(y.err,c,l,n,f,y.pg,o,y.fk,p,d,if w.1.1 then w.2.2.2 else m,b,y.a,h,y.e,if w.1.1 then w.2.2.1 else g,y.bk,())⟩)⟩
theorem j_{b:BL}(m:Bool)(au:Int):∀(k:Nat)(i last:Int)(s:Rs)(c:List Lk),bZ b s.1->c.length<=s.1.toNat->bZ b (xn b m au k i last s c).2.1.1/\(xn b m au k i last s c).2.2.length<=(xn b m au k i last s c).2.1.1.toNat
 |0,_,_,_,_,h,p=>⟨h,p⟩
 |k+1,i,last,(a,e),c,h,p=>by
  rw[tk];dsimp only;have y:=ow m e 32 h;generalize hJ b a m e 32=t at*;obtain⟨j,f⟩:∃j,(if t.1.length=32 then t.2.2 else if(m&&t.2.2==0)=true then 5 else t.2.2)=j:=⟨_,rfl⟩;rw[f];have r:=fx m j 1 65536 y.1;generalize v:dn b t.2.1 m j 1 65536=u at*;obtain⟨q,g⟩:∃q,(if u.1<last then(if(m&&u.2.2==0)=true then 5 else u.2.2)else u.2.2)=q:=⟨_,rfl⟩;rw[g];have p:c.length<=a.toNat:=p;have C:=y.2.1;have D:=r.2.1;rcases Decidable.em ((if m=true then q else 5)=0)with l|l
  ·rw[ak l];refine j_ m au k _ _ _ _ r.1 ?_;rw[aa,bi]
   have z:t.1.length=32:=by
    rcases Nat.decEq t.1.length 32 with w|w
    ·exfalso;rw[ae w]at f
     have x:m=true:=by
      cases m
      ·simp at l
      ·rfl
     subst x;have A:q=0:=cf l
     have n:¬(j=0):=by
      rw[<-f];simp only[lx];split
      ·omega
      ·rename_i B;simpa using B
     have o:=rnE (b:=b) (a:=t.2.1) (m:=true) (e:=j) 1 65536 (cf n);rw[v]at o;rw[o]at g;simp[n]at g;omega
    ·exact w
   show c.length+1<=u.2.1.toNat;omega
  ·rw[ae l];refine⟨r.1,?_⟩;show c.length<=u.2.1.toNat;omega
theorem k_{b:BL}(m:Bool):∀(k:Nat)(au:Int)(s:Rs)(a:List Lk),bZ b s.1->a.length<=s.1.toNat->bZ b (qD b m k au s a).2.1.1/\(qD b m k au s a).2.2.length<=(qD b m k au s a).2.1.1.toNat
 |0,_,_,_,h,c=>⟨h,c⟩
 |k+1,au,s,a,h,c=>by
  have e:=fx m s.2 0 1048576 h;have f:=e.2.1;have:=j_ m au (dn b s.1 m s.2 0 1048576).1.toNat 0 1 (dn b s.1 m s.2 0 1048576).2 a e.1 ac;simp only[qD];split
  ·exact k_ m k _ _ _ this.1 this.2
  ·exact this
theorem H6{a:Int}(m:Bool)(e:Int)(h:bZ b a):bZ b (rj b m (a,e)).2.1.1/\(rj b m (a,e)).2.2.length<=b.length:=by
 have:=k_ m 5 0 (a,e) [] h (aq _);refine⟨this.1,?_⟩;have c:=this.2;have f:=this.1.2.2;show(qD b m 5 0 (a,e) []).2.2.length<=_;omega
theorem bdO{l:List Lk}(ts:List Tm)(m:KV)(h:l.length<=65536):cr (nC l ts m).1/\(nC l ts m).2.1.length<=ts.length+l.length:=by
 have:=F7 ts m l l.length (aE _);rw[bv]at this;exact⟨λa=>⟨by have:=(this.2 a).1;omega,(this.2 a).2⟩,this.1⟩
def l_:bG:=(181,[M3])::g'
def m_:=kA 181 M3 h_ (cQ M3 0) (∀(i:Int)(j k:BL)(f:Lg)(g:Pg)(l:La)(q:List Fk)(m:KM)(h:Ln)(n:Int)(s:List Tm)(u:KV)(c:BL)(o:Int)(d:Bool)(r:Int)Q,let v:=qD c d 5 0 (o,r) [];bg M3 (i,j,k,f,g,l,q,m,h,n,s,u,c,o,d,r,()) Q->(bZ c o/\c.length<=65536/\s.length+c.length<=4294967296)/\∀b,let w:=bZ c b.1.2.1.1/\(0:Int)<=4096/\(4096:Int)<=4096;b=((v.1&&yQ d v.2.1==0,v.2),nC v.2.2 s u)->Br (b.1.1) (w/\∀(a:List Op×Int×Int),let y:= !eZ c a.2.1 d a.2.2==0;let z:=(m,n,b.2.2.2,c,a.2.1,d,a.2.2,b.2.2.1,h,());AT c b.1.2.1.1 d b.1.2.1.2 4096 a->bZ c a.2.1/\Br y (Q ⟨0,eZ c a.2.1 d a.2.2,i,j,k,f,g,l,q,z⟩) ((cr h/\cr b.2.1/\cK f.2.1 f.2.2.1/\q.length+1<=10000000)/\∀(e:Int×List Fk),let x:=(i,j,k,f,g,l,e.2,z);e.2.length<=q.length+1/\(e.1=0->ON h b.2.1 5)->Br (!e.1==0) (Q ⟨0,e.1,x⟩) (cy g/\∀(t:Pg),jD g t->(cy t/\a.1.length<=1000000)/\∀(p:Int×Pg),zd t a.1 p->Br (!p.1==0) (Q ⟨0,p.1,x⟩) (Q ⟨0,0,i,j,k,f,p.2,l,e.2,m,n,b.2.2.2,c,a.2.1,d,a.2.2,b.2.2.1,b.2.1,()⟩)))) (w/\∀(a:List Op×Int×Int),let A:= !eZ c a.2.1 d a.2.2==0;AT c b.1.2.1.1 d b.1.2.1.2 4096 a->bZ c a.2.1/\Br A (Q ⟨0,eZ c a.2.1 d a.2.2,i,j,k,f,g,l,q,m,n,u,c,a.2.1,d,a.2.2,s,h,()⟩) False)) (by
 conv=>zeta
 unfold Br bg;intro c N O P A R u S bk d y m b a r e Q ⟨⟨B,C,U,W,X,Y,h7,h8⟩,K⟩;have j:∀w,w=TT b r (a,e) y m->∀(q:Int)(p:Pg)(f:List Fk)(k:Ln)(s t:Int),M2 A u bk w ⟨q,p,f,k,s,t⟩->Q ⟨0,(q,c,N,O,P,p,R,f,S,d,if w.1.1 then w.2.2.2 else m,b,s,r,t,if w.1.1 then w.2.2.1 else y,k,())⟩:=λw n q p f k s t h=>K w n ⟨q,p,f,k,s,t⟩ h;clear K;refine⟨⟨B,U,W⟩,λw n=>?_⟩;have n:w=TT b r (a,e) y m:=n;have L:bZ b w.1.2.1.1/\w.1.2.2.length<=b.length:=by rw[n];exact H6 r e B
 have D:cr w.2.1:=by rw[n];exact(bdO y m (by have:=(H6 r e B).2;omega)).1
 have hE:w.1.1=false->yQ r w.1.2.1≠0:=by rw[n];exact a6j b r (a,e)
 have j:=j w n;clear n;have o:∀(q:Int)(f:List Fk),q≠0->f.length<=u.length+1->∀s t,M2 A u bk w ⟨q,A,f,bk,s,t⟩:=λq f E hf s t=>⟨hf, .inl ⟨E,rfl,rfl⟩⟩;refine⟨λg=>?_,λg=>?_⟩
 ·rw[g]at j;simp only[if_true]at j;refine⟨⟨L.1,ac,ac⟩,λp v=>⟨v.1,λi=>j _ _ _ _ _ _ (o _ u (lf i) ac _ _),λi=>⟨⟨Y,D,h7,h8⟩,λx z=>⟨λF=>j _ _ _ _ _ _ (o _ x.2 (lf F) z.1 _ _),λF=>⟨X,λp1 G=>⟨⟨G.1,by have:=v.2.1;omega⟩,λch H=>⟨λM=>j _ _ _ _ _ _ (o _ x.2 (lf M) z.1 _ _),λM=>j 0 ch.2 x.2 w.2.1 _ _ ⟨z.1, .inr ⟨rfl,g,H.1,rfl,z.2 (aA.1 (nl F))⟩⟩⟩⟩⟩⟩⟩⟩⟩
 ·rw[g]at j;simp only[cz,if_false]at j;have E:=hE g
  have J:w.1.2.1.2≠0:=by
   intro h;apply E;unfold yQ;rw[C,h];rfl
  refine⟨⟨L.1,ac,ac⟩,λp v=>⟨v.1,λi=>j _ _ _ _ _ _ (o _ u (lf i) ac _ _),λi=>?_⟩⟩;have i:=aA.1 (nl i);have:=v.2.2.2 J;rw[this]at i;unfold eZ at i;rw[ak (by rw[C];exact J)]at i;rw[C]at i;exact J i) (l:=λ_=>Live.need λ_=>Live.all ⟨_,rfl,Live.all ⟨⟨1,_,[],_,0,0⟩,⟨aq _, .inl ⟨(by decide:(1:Int)≠0),rfl,rfl⟩⟩,Live.leaf⟩⟩)
abbrev xt:=Int×Pg×Ln×List Tm×KV
def tY(l:Lt)(lk:Lk)(t:BL)(a:Pg)(bk:Ln)(ts:List Tm)(m:KV)(y:xt):Prop:=
 if l.1=2 then RC lk a bk t ts m y
 else if l.1=3 then y.2=(a,bk,ts,m)
 else∃w,w=TT t true (0,0) ts m/\y.2.2.2=(if w.1.1 then w.2.2 else(ts,m))/\(y.1≠0/\y.2.1=a/\y.2.2.1=bk\/y.1=0/\w.1.1=true/\cy y.2.1/\y.2.2.1=w.2.1/\ON bk y.2.2.1 5)
def xu(l:Lt)(a:Int)(la:La):La:=if a=0/\l.1≠2 then tD la l.1 l.2.1 l.2.2.2.1 else la
def zi(l:Lt)(a:Int)(n:Nw):Prop:=if a=0 then n.1=l.1/\n.2.1=l.2.1/\n.2.2.1=l.2.2.1/\n.2.2.2.1=l.2.2.2.1 else n=kr
def EO:Ct:=⟨5,⟨[sP 0,sS 1 4,AO 2,(3,true,[.d Cn]),sB 4],hY 0++lZ 4⟩,[⟨[(0,true,[.d HZ]),sI 1],i_ 0 8++ma 4 7++[cT]++jW 8⟩],λ(l,lk,t,c,h,i,a,e,f,g,j,bk,d,b,m,_)=>
 fJ (2<=l.1/\l.1<=4/\0<=l.2.1/\l.2.1<5/\fU f/\t.length<=65536/\b.length+t.length<=4294967296/\cb 1 b/\cy e/\cr bk/\cK a.2.1 a.2.2.1/\g.length+1000<=10000000)
  (λy:xt×List Fk×Nw=>tY l lk t e bk b m y.1/\y.2.1.length<=g.length+300/\zi l y.1.1 y.2.2) λy=>(y.2.2,y.1.1,c,h,i,a,y.1.2.1,xu l y.1.1 f,y.2.1,j,d,y.1.2.2.2.2,y.1.2.2.2.1,y.1.2.2.1,())⟩
def n_:cx:=⟨[sP 0,(7,false,[.ptr 10 0]),(10,false,[.ptr 11 0]),(12,false,[.ptr 12 0]),sI 14],i_ 0 8++ma 4 7++[cT]++jW 8++[some (.cells [.d TK]),some (.cells [.d HZ]),some (.cells [.d HZ])]⟩
def H7(x:EO.inp.den)(y:n_.den):Prop:=match x,y with
 |(l,lk,t,c,p,q,r,s,u,v,w,bk,d,z,m,_),(e,A,b,f,g,fO,h,i,j,B,C,n,o,D,_,a,_)=>(A,b,f,g,h,j,B,D)=(c,p,q,r,u,w,d,l)/\i.length<=v.length+300/\tY l lk t s bk z m (e,fO,o,n,C)/\a.1=l.1/\a.2.1=l.2.1/\a.2.2.1=l.2.2.1/\a.2.2.2.1=l.2.2.2.1
def a6k(x:EO.inp.den):eH:=⟨[],[(10,bS n_ (H7 x) λ_=>0)],[],[],0⟩
theorem H8(l:Lt)(lk:Lk)(t:BL){a:Pg}(bk:Ln)(ts:List Tm)(m:KV)(h:cy a):∃y,tY l lk t a bk ts m y:=by
 unfold tY;split
 ·exact HY _ _ _ _ _ _ h
 ·split
  ·exact⟨(0,_),rfl⟩
  ·exact⟨(1,a,bk,_),_,rfl,rfl, .inl ⟨(by decide:(1:Int)≠0),rfl,rfl⟩⟩
theorem Bm(l:Lt)(a:Int):∃n,zi l a n:=by
 unfold zi;split
 ·exact⟨(l.1,l.2.1,l.2.2.1,l.2.2.2.1,false,false,[],()),rfl,rfl,rfl,rfl⟩
 ·exact⟨_,rfl⟩
abbrev RI(v:Nw×Int×Int×BL×BL×Lg×Pg×La×List Fk×KM×Int×KV×List Tm×Ln×Unit):cF EO.out:=⟨0,v⟩
def o_:bG:=(166,[EO])::l_
def p_:=kA 166 EO m_ a6k (∀(c:Lt)(L:Lk)(e:BL)(A:Int)(B C:BL)(r:Lg)(u:Pg)(w:La)(v:List Fk)(D:KM)(s:Ln)(E:Int)(f:List Tm)(z:KV)(Q:cF EO.out->Prop),let J:=qD e true 5 0 (0,0) [];let K:=(c,L,e,A,B,C,r,u,w,v,D,s,E,f,z,());(Tr.need (2<=c.1/\c.1<=4/\0<=c.2.1/\c.2.1<5/\fU w/\e.length<=65536/\f.length+e.length<=4294967296/\cb 1 f/\cy u/\cr s/\cK r.2.1 r.2.2.1/\v.length+1000<=10000000) (Tr.all (xt×List Fk×Nw) (λy=>tY c L e u s f z y.1/\y.2.1.length<=v.length+300/\zi c y.1.1 y.2.2) λy=>Tr.leaf (RI (y.2.2,y.1.1,A,B,C,r,y.1.2.1,xu c y.1.1 w,y.2.1,D,E,y.1.2.2.2.2,y.1.2.2.2.1,y.1.2.2.1,())))).sat Q->e.length<=1099511627776/\(Br (c.1==2) ((bZ e 0/\(0:Int)=0/\true=true/\(0:Int)=0/\cy u/\cr s/\cb 1 f)/\∀(b:(Int×Pg×Ln×List Tm×KV)×Int×Int),RC L u s e f z b.1->Is (H7 K (b.1.1,A,B,C,r,b.1.2.1,w,v,D,E,b.1.2.2.2.2,b.1.2.2.2.1,b.1.2.2.1,c,(0,0,0,0,false,false,[],()),(c.1,c.2.1,c.2.2.1,c.2.2.2.1,false,false,[],()),()))) (Br (c.1==3) ((bZ e 0/\cr s/\v.length+1000<=10000000)/\∀(b:((Bool×Bool×Unit)×List Fk×Int)×List Fk×Int×Int),b.1.2.1.length<=300/\b.2.1.length<=v.length+300->Is (H7 K (b.1.2.2,A,B,C,r,u,w,b.2.1,D,E,z,f,s,c,(0,0,0,0,false,false,[],()),(c.1,c.2.1,c.2.2.1,c.2.2.2.1,b.1.1.1,b.1.1.2.1,b.1.2.1,()),()))) ((bZ e 0/\true=true/\e.length<=65536/\f.length+e.length<=4294967296/\cy u/\cr s/\cK r.2.1 r.2.2.1/\v.length+1<=10000000)/\∀b,b=((J.1&&yQ true J.2.1==0,J.2),nC J.2.2 f z)->∀(F:WhY),M2 u v s b F->Is (H7 K (F.err,A,B,C,r,F.pg,w,F.fk,D,E,if b.1.1=true then b.2.2.2 else z,if b.1.1=true then b.2.2.1 else f,F.bk,c,(0,0,0,0,false,false,[],()),(c.1,c.2.1,c.2.2.1,c.2.2.2.1,false,false,[],()),())))))/\∀(M g:Int)(h i:BL)(j:Lg)(k:Pg)(d:La)(l:List Fk)(m:KM)(n:Int)(o:KV)(p:List Tm)(q:Ln)(a:Lt)(O t:Nw),let N:=(a.2.1==4)=false->False/\True;let G:=d.getD 1 (ax 5 0);let H:=d.getD 0 (ax 5 0);let x:=(l,m,n,o,p,q,());H7 K (M,g,h,i,j,k,d,l,m,n,o,p,q,a,O,t,())->Br (!M==0) (Q ⟨0,(0,0,0,0,false,false,[],()),M,g,h,i,j,k,d,x⟩) (Br (!a.1==2) (am (a.1-3)/\Br (a.1-(3:Int)==0) (Br (a.2.1==0) (Q ⟨0,t,0,g,h,i,j,k,d.set 0 (H.set 0 a.2.2.2.1),x⟩) (Br (a.2.1==1) (Q ⟨0,t,0,g,h,i,j,k,d.set 0 (H.set 1 a.2.2.2.1),x⟩) (Br (a.2.1==2) (Q ⟨0,t,0,g,h,i,j,k,d.set 0 (H.set 2 a.2.2.2.1),x⟩) (Br (a.2.1==3) (Q ⟨0,t,0,g,h,i,j,k,d.set 0 (H.set 3 a.2.2.2.1),x⟩) (((a.2.1==4)=true->Q ⟨0,t,0,g,h,i,j,k,d.set 0 (H.set 4 a.2.2.2.1),x⟩)/\N))))) (Br (a.1-(3:Int)==1) (Br (a.2.1==0) (Q ⟨0,t,0,g,h,i,j,k,d.set 1 (G.set 0 a.2.2.2.1),x⟩) (Br (a.2.1==1) (Q ⟨0,t,0,g,h,i,j,k,d.set 1 (G.set 1 a.2.2.2.1),x⟩) (Br (a.2.1==2) (Q ⟨0,t,0,g,h,i,j,k,d.set 1 (G.set 2 a.2.2.2.1),x⟩) (Br (a.2.1==3) (Q ⟨0,t,0,g,h,i,j,k,d.set 1 (G.set 3 a.2.2.2.1),x⟩) (((a.2.1==4)=true->Q ⟨0,t,0,g,h,i,j,k,d.set 1 (G.set 4 a.2.2.2.1),x⟩)/\N))))) (False/\True))) (Q ⟨0,t,0,g,h,i,j,k,d,x⟩))) (by
 conv=>zeta
 unfold Br;intro l lk t c O P R S U W X bk d Y m Q ⟨⟨h1,h2,h3,h4,h5,h6,h7,h8,M,j,D,E⟩,N⟩;have o:∀(y:xt)(f:List Fk)(n:Nw),tY l lk t S bk Y m y->f.length<=W.length+300->zi l y.1 n->Q ⟨0,(n,y.1,c,O,P,R,y.2.1,xu l y.1 U,f,X,d,y.2.2.2.2,y.2.2.2.1,y.2.2.1,())⟩:=λy f n a b e=>N (y,f,n) ⟨a,b,e⟩;clear N;have F:bZ t 0:=⟨ac,ac,ac⟩;refine⟨ac,⟨λe=>⟨⟨F,rfl,rfl,rfl,M,j,h8⟩,λb G=>⟨rfl,ac,?_,rfl,rfl,rfl,rfl⟩⟩,λe=>⟨λH=>⟨⟨F,j,E⟩,λb G=>⟨rfl,G.2,?_,rfl,rfl,rfl,rfl⟩⟩,λH=>⟨⟨F,rfl,h6,h7,M,j,D,ac⟩,λw hw y z=>⟨rfl,by have:=z.1;omega,?_,rfl,rfl,rfl,rfl⟩⟩⟩⟩,?_⟩
 ·unfold tY;rw[ak (bz e)];exact G
 ·unfold tY;rw[ae (aL e),ak (bz H)]
 ·unfold tY;rw[ae (aL e),ae (aL H)];refine⟨w,hw,?_,z.2⟩;dsimp only;split<;>rfl
 ·rintro er c1 a5 a6 a7 fO g x a8 d1 J p q i _ nw ⟨A,B,C,n1,n2,n3,n4⟩;simp only[Prod.mk.injEq]at A;obtain⟨f1,f2,f3,f4,f5,f6,f7,f8⟩:=A;subst f1 f2 f3 f4 f5 f6 f7;obtain rfl:i=l:=by obtain⟨_,_,_,_,_,_,_,_⟩:=i;obtain⟨_,_,_,_,_,_,_,_⟩:=l;simpa using f8
  refine⟨λe=>?_,λe=>?_⟩
  ·have e:=lf e;have:=o _ x kr C B (by unfold zi;rw[ae e]);rw[show xu i (er,fO,q,p,J).1 g=g from ae (λh=>e h.1)]at this;exact this
  ·have e:=aA.1 (nl e);subst e;have o:=o _ x nw C B (by unfold zi;rw[ak rfl];exact⟨n1,n2,n3,n4⟩);refine⟨λr=>⟨cv,?_⟩,λr=>?_⟩
   ·have r:=lf r;rw[show xu i ((0:Int),fO,q,p,J).1 g=tD g i.1 i.2.1 i.2.2.2.1 from ak ⟨rfl,r⟩]at o;obtain⟨a0,a1,a2,a3,a4,b0,b1,b2,b3,b4,K⟩:=tE h5;subst K;obtain⟨k,a,e,n,pv,bx,a9,u⟩:=i;dsimp only at*;refine⟨λs=>?_,λs=>⟨λL=>?_,λL=>?_⟩⟩
    case refine_3=>exfalso;simp only[aC,ne_eq]at s L;omega
    all_goals
     first
     |(have s:k=3:=by have:=bz s;omega
       subst s)
     |(have s:k=4:=by have:=bz L;omega
       subst s)
     refine⟨λv=>?_,λA=>⟨λv=>?_,λB=>⟨λv=>?_,λC=>⟨λv=>?_,λg3=>⟨λv=>?_,λg4=>?_⟩⟩⟩⟩⟩
     case refine_6=>exfalso;simp only[aC,ne_eq]at A B C g3 g4;omega
     all_goals
      have v:=bz v;subst v;exact o
   ·have r:=nl r;rw[show xu i ((0:Int),fO,q,p,J).1 g=g from ae (λh=>r h.2)]at o;exact o) (l:=λ_=>aU λh=>by obtain⟨y,z⟩:=H8 _ _ _ _ _ _ h.2.2.2.2.2.2.2.2.1;obtain⟨n,hn⟩:=Bm _ y.1;exact⟨(y,[],n),z,aq _,hn⟩)
structure Cl where
 c:Int
 se:BL
 sg:BL
 lg:Lg
 pg:Pg
 la:La
 fk:List Fk
 km:KM
 bk:Ln
def mo(w:Cl):Prop:=0<=w.c/\w.c<5/\aB w.se/\fU w.la/\cy w.pg/\cr w.bk/\cK w.lg.2.1 w.lg.2.2.1/\w.lg.2.1.length<=100000/\aB w.lg.1
def kg(w:Cl)(l:Lt)(ts:List Tm)(m:KV)(y:xt):Prop:=
 if w.lg.2.1.length<l.2.2.1 then y=(21,w.pg,w.bk,ts,m)
 else if(gn (cZ w.lg.2.1 l.2.2.1) l.2.1).2=false then y=(19,w.pg,w.bk,ts,m)
 else
  let z:=nE (gn (cZ w.lg.2.1 l.2.2.1) l.2.1).1.2.2.1 l ts m
  if z.1.2≠0 then y=(z.1.2,w.pg,w.bk,z.2)
  else
   let k:=wJ l z.1.1 w.la w.bk z.2.1 z.2.2
   if k.1≠0 then y=(k.1,w.pg,w.bk,k.2)
   else if(xo w.lg.2.1.reverse l.2.1).2=true/\(l.1≠2\/(xo w.lg.2.1.reverse l.2.1).1<l.2.2.2.1)then y=(19,w.pg,w.bk,k.2)
   else if(aO .i64 l.2.2.1 w.km).isSome=false then y=(22,w.pg,w.bk,k.2)
   else
    let o:=tq ((aO .i64 l.2.2.1 w.km).getD []) l k.2.1 k.2.2
    if o.1.2≠0 then y=(o.1.2,w.pg,w.bk,o.2)else tY l z.1.1 o.1.1 w.pg w.bk o.2.1 o.2.2 y
theorem C7(w:Cl)(l:Lt)(ts:List Tm)(m:KV)(h:cy w.pg):∃y,kg w l ts m y:=by
 unfold kg;dsimp only
 repeat' split
 all_goals first
  |exact⟨_,rfl⟩
  |exact H8 _ _ _ _ _ _ h
theorem dJ(h:jY l=true):pD l/\l.2.2.2.2.2.1.length<=4112/\jZ l/\l.2.2.2.2.2.2.1.length=64:=by
 unfold jY at h;have h:=af h;have b:=vm ((l.2.2.2.2.2.1.length:Int)-17);obtain⟨a,c,f,e⟩:=h;have b:=b c;have g:=a.2.2.2.2.2.2.2.2;exact⟨a,ac,⟨ac,ac,ac⟩,e⟩
theorem lcS{sg:BL}(m:KV)(a:jZ l)(h:cb (k+1) ts):cb k (nE sg l ts m).2.1:=by
 have b:=pZ (k:=k) m h (ja (k:=104) bt bt (show aB l.2.2.2.2.2.1 by have:=a.2.1;unfold aB;omega));have c:=h.mono (j:=k) ac;unfold nE;rw[bN];dsimp only
 repeat' split
 all_goals first|exact c|exact b
variable{lk:Lk}
theorem dgS(m:KV)(h:cb (k+1) ts):cb k (gy lk ts m).2.1:=by
 unfold gy;split
 ·rename_i g;exact pZ m h (ja (k:=104) bt bt (by have:=pa g;unfold aB;omega))
 ·exact h.mono ac
theorem chS{bk:Ln}(m:KV)(h:cb (k+1) ts):cb k (ij lk bk ts m).2.1:=by
 have a:=h.mono (j:=k) ac;unfold ij
 repeat' split
 all_goals first|exact a|exact dgS m h
theorem knS{la:La}{bk:Ln}(m:KV)(h:cb (k+1) ts):cb k (wJ l lk la bk ts m).2.1:=by
 unfold wJ;split
 ·exact h.mono ac
 ·exact chS m h
theorem upL(b:BL):(AH b).1.length<=4096:=by
 unfold AH;split
 ·simp
 ·rename_i c r _;split
  ·split
   ·rename_i g;have:=vm r.length g.1;rw[List.length_reverse];omega
   ·simp
  ·simp
theorem loT(m:KV)(h:cb (k+1) ts):cb k (tq ep l ts m).2.1/\(tq ep l ts m).1.1.length<=4096:=by
 have b:=h.mono (j:=k) ac;unfold tq;rw[bN];split
 ·exact⟨b,bY⟩
 ·rename_i g;have a:=(loA (l:=l) m (show aB ep by unfold aB;omega) h).1
  repeat' split
  ·exact⟨a,bY⟩
  ·exact⟨a,bY⟩
  ·exact⟨a,upL _⟩
theorem RJ(l:List Mb)(id:Int):(gn l id).1=AI\/(gn l id).1∈l:=by
 induction l with
 |nil=>exact .inl rfl
 |cons a r b=>
  unfold gn;split
  ·exact .inr (aF ..)
  ·rcases b with h|h
   ·exact .inl h
   ·exact .inr (aD _ h)
variable{es:List Et}
theorem rx{x:Mb}(h:x∈cZ es f):∃e∈es,x∈e.2.2.1:=by
 unfold cZ at h;split at h
 ·simp at h
 ·exact⟨_,aV ac,h⟩
theorem sgN{a:List BL}(h:cK es a)(n id:Int):aB (gn (cZ es n) id).1.2.2.1:=by
 rcases RJ (cZ es n) id with g|g
 ·rw[g];exact aq _
 ·obtain⟨e,b,c⟩:=rx g;have:=(h.2.2.2 e b _ c).2;unfold aB;omega
def H9:Ct:=⟨3,⟨[sP 0,sS 1 4,AO 2],hY 0++lZ 4⟩,[⟨[(0,true,[.d HZ]),sI 1],i_ 0 8++ma 4 7++[cT]++jW 8⟩],λ(l,c,b,e,f,i,g,a,h,bk,d,j,m,_)=>
 fJ (jY l=true/\mo ⟨c,b,e,f,i,g,a,h,bk⟩/\a.length+2000<=10000000/\cb 10000 j)
  (λy:xt×List Fk×Nw=>kg ⟨c,b,e,f,i,g,a,h,bk⟩ l j m y.1/\y.2.1.length<=a.length+400/\zi l y.1.1 y.2.2) λy=>(y.2.2,y.1.1,c,b,e,f,y.1.2.1,xu l y.1.1 g,y.2.1,h,d,y.1.2.2.2.2,y.1.2.2.2.1,y.1.2.2.1,())⟩
abbrev RK(v:Nw×Int×Int×BL×BL×Lg×Pg×La×List Fk×KM×Int×KV×List Tm×Ln×Unit):cF H9.out:=⟨0,v⟩
def p':bG:=(128,[H9])::o_
def q_:=kA 128 H9 p_ (cQ H9 0) (∀(a:Lt)(j:Int)(k l:BL)(d:Lg)(i:Pg)(g:La)(o:List Fk)(f:KM)(h:Ln)(m:Int)(p:List Tm)(q:KV)Q,let s:=(j,k,l,d,i,g,o,f,m,q,p,h,());let t:=aO Ty.i64 a.2.2.1 f;let u:=xo (List.reverse d.2.1) a.2.1;bg H9 (a,j,k,l,d,i,g,o,f,h,m,p,q,()) Q->True/\Bd (nI d.2.1<a.2.2.1) (Q ⟨0,(0,0,0,0,false,false,[],()),21,s⟩) (cK d.2.1 d.2.2.1/\∀b,b=gn (cZ d.2.1 a.2.2.1) a.2.1->Br (!b.2) (Q ⟨0,(0,0,0,0,false,false,[],()),19,s⟩) ((aB b.1.2.2.1/\jZ a/\cb 1 p)/\∀n,n=nE b.1.2.2.1 a p q->Br (!n.1.2==0) (Q ⟨0,(0,0,0,0,false,false,[],()),n.1.2,j,k,l,d,i,g,o,f,m,n.2.2,n.2.1,h,()⟩) ((2<=a.1/\a.1<=4/\0<=a.2.1/\a.2.1<5/\fU g/\cr h/\o.length+1<=10000000/\cb 1 n.2.1)/\∀(c:(Int×List Tm×KV)×List Fk),let r:=(j,k,l,d,i,g,c.2,f,m,c.1.2.2,c.1.2.1,h,());let v:=RK ((0,0,0,0,false,false,[],()),19,r);let z:=Br (!t.isSome) (Q ⟨0,(0,0,0,0,false,false,[],()),22,r⟩) ((jZ a/\cb 1 c.1.2.1)/\∀b,b=tq (t.getD []) a c.1.2.1 c.1.2.2->Br (!b.1.2==0) (Q ⟨0,(0,0,0,0,false,false,[],()),b.1.2,j,k,l,d,i,g,c.2,f,m,b.2.2,b.2.1,h,()⟩) ((2<=a.1/\a.1<=4/\0<=a.2.1/\a.2.1<5/\fU g/\ah b.1.1<=65536/\b.2.1.length+ah b.1.1<=4294967296/\cb 1 b.2.1/\cy i/\cr h/\cK d.2.1 d.2.2.1/\c.2.length+1000<=10000000)/\∀(e:(Int×Pg×Ln×List Tm×KV)×List Fk×Nw),tY a n.1.1 b.1.1 i h b.2.1 b.2.2 e.1/\e.2.1.length<=c.2.length+300/\zi a e.1.1 e.2.2->Q ⟨0,e.2.2,e.1.1,j,k,l,d,e.1.2.1,xu a e.1.1 g,e.2.1,f,m,e.1.2.2.2.2,e.1.2.2.2.1,e.1.2.2.1,()⟩));c.2.length<=o.length+1/\c.1=wJ a n.1.1 g h n.2.1 n.2.2->Br (!c.1.1==0) (Q ⟨0,(0,0,0,0,false,false,[],()),c.1.1,r⟩) (cK d.2.1 d.2.2.1/\Br (u.2) (Br (!a.1==2) (Q v) (Bd (u.1<a.2.2.2.1) (Q v) z)) z))))) (by
 conv=>zeta
 unfold Bd Br nI bg;intro l c q r g o j u i bk d B m Q ⟨⟨h1,h2,h3,Y⟩,hQ⟩;have p:∀(y:xt)(f:List Fk)(n:Nw),kg ⟨c,q,r,g,o,j,u,i,bk⟩ l B m y->f.length<=u.length+400->zi l y.1 n->Q ⟨0,(n,y.1,c,q,r,g,y.2.1,xu l y.1 j,f,i,d,y.2.2.2.2,y.2.2.2.1,y.2.2.1,())⟩:=λy f n a b e=>hQ (y,f,n) ⟨a,b,e⟩;clear hQ;obtain⟨p1,p2,p3,K,p5,L,w,p8,p9⟩:=h2;obtain⟨s,l2,M,l4⟩:=dJ h1;dsimp only at p1 p2 p3 K p5 L w p8 p9
 have bad:∀(x:Int)(f:List Fk)(C:List Tm)(D:KV),x≠0->kg ⟨c,q,r,g,o,j,u,i,bk⟩ l B m (x,o,bk,C,D)->f.length<=u.length+400->Q ⟨0,(kr,x,c,q,r,g,o,j,f,i,d,D,C,bk,())⟩:=by
  intro x f C D he hr N;have:=p _ f kr hr N (by unfold zi;rw[ae he]);rw[show xu l (x,o,bk,C,D).1 j=j from ae (λh=>he h.1)]at this;exact this
 unfold kg at bad p;dsimp only at bad p;refine⟨trivial,λe=>bad 21 u B m bt (by rw[ak (af e)]) ac,λE=>⟨w,λz F=>⟨λe=>?_,λO=>⟨⟨?_,M,Y.mono ac⟩,λy A=>?_⟩⟩⟩⟩
 ·exact bad 19 u B m bt (by rw[ae (ap E),ak (by rw[<-F];simpa using e)]) ac
 ·rw[F];exact sgN w _ _
 have E:=ap E;have O:¬z.2=false:=cf O
 have P:=lcS (sg:=z.1.2.2.1) (k:=9999) m M Y;rw[<-A]at P;simp only[ae E,<-F,ae O,<-A]at bad p;clear F A;refine⟨λe=>bad _ u _ _ (lf e) (by rw[ak (lf e)]) ac,λe3=>⟨⟨s.1,s.2.1,s.2.2.1,s.2.2.2.1,K,L,ac,P.mono ac⟩,?_⟩⟩;simp only[ae (nl e3)]at bad p;rintro⟨k,f⟩ ⟨N,G⟩;dsimp only at N G;have R:=knS (l:=l) (lk:=y.1.1) (la:=j) (bk:=bk) (k:=9998) y.2.2 P;rw[<-G]at R;simp only[<-G]at bad p;clear G;refine⟨λe=>bad _ f _ _ (lf e) (by rw[ak (lf e)]) ac,λe4=>⟨w,?_⟩⟩;simp only[ae (nl e4)]at bad p
 have tail:¬((xo g.2.1.reverse l.2.1).2=true/\(l.1≠2\/(xo g.2.1.reverse l.2.1).1<l.2.2.2.1))->((!(aO Ty.i64 l.2.2.1 i).isSome)=true->Q ⟨0,(kr,22,c,q,r,g,o,j,f,i,d,k.2.2,k.2.1,bk,())⟩)/\((!(aO Ty.i64 l.2.2.1 i).isSome)=false->(jZ l/\cb 1 k.2.1)/\∀b,b=tq ((aO Ty.i64 l.2.2.1 i).getD []) l k.2.1 k.2.2->((!b.1.2==0)=true->Q ⟨0,(kr,b.1.2,c,q,r,g,o,j,f,i,d,b.2.2,b.2.1,bk,())⟩)/\((!b.1.2==0)=false->(2<=l.1/\l.1<=4/\0<=l.2.1/\l.2.1<5/\fU j/\b.1.1.length<=65536/\b.2.1.length+b.1.1.length<=4294967296/\cb 1 b.2.1/\cy o/\cr bk/\cK g.2.1 g.2.2.1/\f.length+1000<=10000000)/\∀v:xt×List Fk×Nw,tY l y.1.1 b.1.1 o bk b.2.1 b.2.2 v.1/\v.2.1.length<=f.length+300/\zi l v.1.1 v.2.2->Q ⟨0,(v.2.2,v.1.1,c,q,r,g,v.1.2.1,xu l v.1.1 j,v.2.1,i,d,v.1.2.2.2.2,v.1.2.2.2.1,v.1.2.2.1,())⟩)):=by
  intro e5;simp only[ae e5]at bad p;refine⟨λe=>bad 22 f _ _ bt (by rw[ak (cf e)]) ac,λH=>⟨⟨M,R.mono ac⟩,λb S=>?_⟩⟩;have H:¬(aO Ty.i64 l.2.2.1 i).isSome=false:=λh=>by rw[h]at H;cases H
  have U:=loT (ep:=(aO Ty.i64 l.2.2.1 i).getD []) (l:=l) (k:=9997) k.2.2 R;rw[<-S]at U;simp only[ae H,<-S]at bad p;clear S;refine⟨λe=>bad _ f _ _ (lf e) (by rw[ak (lf e)]) ac,λe7=>⟨⟨s.1,s.2.1,s.2.2.1,s.2.2.2.1,K,ac,by have:=U.1.2;omega,U.1.mono ac,p5,L,w,ac⟩,λv hv=>p v.1 v.2.1 v.2.2 (by rw[ae (nl e7)];exact hv.1) ac hv.2.2⟩⟩
 have t:(xo g.2.1.reverse l.2.1).2=true/\(l.1≠2\/(xo g.2.1.reverse l.2.1).1<l.2.2.2.1)->Q ⟨0,(kr,19,c,q,r,g,o,j,f,i,d,k.2.2,k.2.1,bk,())⟩:=λe=>bad 19 f _ _ bt (by rw[ak e]) ac;refine⟨λJ=>⟨λW=>t ⟨J, .inl (lf W)⟩,λW=>⟨λX=>t ⟨J, .inr (af X)⟩,λX=>tail λh=>?_⟩⟩,λJ=>tail λh=>by rw[J]at h;exact absurd h.1 bt⟩;rcases h.2 with h|h
 ·exact nl W h
 ·exact ap X h) (l:=λ_=>aU λh=>by obtain⟨y,A⟩:=C7 _ _ _ _ h.2.1.2.2.2.2.1;obtain⟨n,hn⟩:=Bm _ y.1;exact⟨(y,[],n),A,aq _,hn⟩)
abbrev E9:=(Int×Nw)×Cl×List Tm×KV
def ol(w:Cl)(b:BL)(ts:List Tm)(m:KV)(y:E9):Prop:=
 if 65536<b.length then y=((2,kr),w,ts,m)
 else
  let k:=dn b 0 true 0 1 4
  if k.2.2≠0 then y=((k.2.2,kr),w,ts,m)
  else if k.1=1 then
   let x:=jJ b true (0,0)
   if eZ b x.2.1 true x.2.2≠0 then y=((eZ b x.2.1 true x.2.2,kr),w,ts,m)
   else
    let r:=kT w.c w.se w.lg w.km x.1 ts m
    y=((r.1.2,r.1.1),{w with lg:=r.2.1,km:=r.2.2.1},r.2.2.2)
  else
   let x:=pl b true (0,0)
   if eZ b x.2.1 true x.2.2≠0 then y=((eZ b x.2.1 true x.2.2,kr),w,ts,m)
   else∃z f n,kg w x.1 ts m z/\f.length<=w.fk.length+400/\zi x.1 z.1 n/\y=((z.1,n),{w with pg:=z.2.1,la:=xu x.1 z.1 w.la,fk:=f,bk:=z.2.2.1},z.2.2.2)
theorem Ia(w:Cl)(b:BL)(ts:List Tm)(m:KV)(h:cy w.pg):∃y,ol w b ts m y:=by
 unfold ol;dsimp only
 repeat' split
 all_goals first
  |exact⟨_,rfl⟩
  |(obtain⟨z,a⟩:=C7 w (pl b true (0,0)).1 ts m h
    obtain⟨n,c⟩:=Bm (pl b true (0,0)).1 z.1;exact⟨_,z,[],n,a,aq _,c,rfl⟩)
theorem a6l(m:Bool)(e:Int)(h:bZ b f):bZ b (N2 b m (f,e)).2.1:=by
 exact(ow m _ 64 (K2 (λf e=>Gq m e) _ (ow m _ 64 (K2 (λf e=>Gp m e) _ (K2 (λf e=>Gn m e) _ (ow m _ 64 (fx m _ 1 65536 (fx m e 1 1 h).1).1).1).1).1).1).1).1
theorem a6m(m:Bool)(e:Int)(h:bZ b f):bZ b (JK b m (f,e)).2.1:=by
 exact(ow m _ 64 (ow m _ 4112 (ow m _ 64 (fx m _ 1 1048576 (fx m _ 1 65536 (fx m _ 0 4 (fx m e 2 4 h).1).1).1).1).1).1).1
theorem RL{e:Int}(h:eZ b f true e=0):e=0/\(b.length:Int)<=f:=by
 unfold eZ at h;simp only[if_true]at h;split at h
 ·contradiction
 ·split at h
  ·cases h
  ·omega
theorem M4(h:bZ b 0):bZ b (jJ b true (0,0)).2.1/\(eZ b (jJ b true (0,0)).2.1 true (jJ b true (0,0)).2.2=0->jJ b true (0,0)=N2 b true (0,0)/\iU (jJ b true (0,0)).1=true):=by
 have a:=a6l true 0 h;unfold jJ;rw[bN];dsimp only;refine⟨a,λg=>?_⟩;have g:=(RL g).1;cases c:iU (N2 b true (0,0)).1 with
 |true=>
  rw[c]at g;simp only[if_true]at g⊢;rw[ak g];exact⟨rfl,c⟩
 |false=>
  rw[c]at g;exfalso;simp only[cz,if_false,lx]at g;split at g
  ·cases g
  ·rename_i h;exact h (cf g)
theorem RM(h:bZ b 0):bZ b (pl b true (0,0)).2.1/\(eZ b (pl b true (0,0)).2.1 true (pl b true (0,0)).2.2=0->pl b true (0,0)=JK b true (0,0)/\jY (pl b true (0,0)).1=true):=by
 have a:=a6m true 0 h;unfold pl;rw[bN];dsimp only;refine⟨a,λg=>?_⟩;have g:=(RL g).1;cases c:jY (JK b true (0,0)).1 with
 |true=>
  rw[c]at g;simp only[if_true]at g⊢;rw[ak g];exact⟨rfl,c⟩
 |false=>
  rw[c]at g;exfalso;simp only[cz,if_false,lx]at g;split at g
  ·cases g
  ·rename_i h;exact h (cf g)
theorem im{e:Et}(h:iU e=true):wK e:=by
 obtain⟨j,l,n,a,f,o,p,q⟩:=me h;obtain⟨r,s,t,g,u⟩:=fT a;have v:=mg a;have w:=tp a 48 (λb c=>by rw[f b c];omega);refine⟨⟨ac,ac,ac⟩,ac,ac,hK,λm i=>?_,λb c=>?_,hK⟩
 ·have:=g m i;unfold wx at this;omega
 ·have:=f b c;unfold aB;omega
def M5:Ct:=⟨3,⟨[sP 0,sS 1 4,sB 2],hY 0++lZ 4⟩,[⟨[(0,true,[.d HZ]),sI 1],i_ 0 8++ma 4 7++[cT]++jW 8⟩],λ(b,c,e,f,g,h,i,a,j,bk,d,l,m,_)=>
 fJ (b.length<=10000000/\mo ⟨c,e,f,g,h,i,a,j,bk⟩/\a.length+2000<=10000000/\cb 10000 l)
  (λy:E9=>ol ⟨c,e,f,g,h,i,a,j,bk⟩ b l m y) λy=>(y.1.2,y.1.1,y.2.1.c,y.2.1.se,y.2.1.sg,y.2.1.lg,y.2.1.pg,y.2.1.la,y.2.1.fk,y.2.1.km,d,y.2.2.2,y.2.2.1,y.2.1.bk,())⟩
def r_:bG:=(80,[M5])::p'
def s_:=kA 80 M5 q_ (cQ M5 0) (∀(c:BL)(f:Int)(e h:BL)(d:Lg)(l:Pg)(i:La)(g:List Fk)(j:KM)(m:Ln)(n:Int)(k:List Tm)(o:KV)Q,let p:=Cl.mk f e h d l i g j m;let z:=(f,e,h,d,l,i,g,j,n,o,k,m,());bg M5 (c,f,e,h,d,l,i,g,j,m,n,k,o,()) Q->Bd (65536<nI c) (Q ⟨0,(0,0,0,0,false,false,[],()),2,z⟩) (c.length<=1099511627776/\bZ c 0/\∀b,let q:= !(if true=true then b.2.2 else 5)==0;b=dn c 0 true 0 1 4->True/\Br q (Q ⟨0,(0,0,0,0,false,false,[],()),if true=true then b.2.2 else 5,z⟩) (c.length<=1099511627776/\Br (b.1==1) (bZ c 0/\∀b,let r:= !eZ c b.2.1 true b.2.2==0;b=jJ c true (0,0)->bZ c b.2.1/\Br r (Q ⟨0,(0,0,0,0,false,false,[],()),eZ c b.2.1 true b.2.2,z⟩) ((wK b.1/\aB e/\aB d.1/\cK d.2.1 d.2.2.1/\ah d.2.1<=100000/\cb 20 k)/\∀a,a=kT f e d j b.1 k o->Q ⟨0,a.1.1,a.1.2,f,e,h,a.2.1,l,i,g,a.2.2.1,n,a.2.2.2.2,a.2.2.2.1,m,()⟩)) (bZ c 0/\∀b,let s:= !eZ c b.2.1 true b.2.2==0;b=pl c true (0,0)->bZ c b.2.1/\Br s (Q ⟨0,(0,0,0,0,false,false,[],()),eZ c b.2.1 true b.2.2,z⟩) ((jY b.1=true/\mo p/\g.length+2000<=10000000/\cb 10000 k)/\∀(a:(Int×Pg×Ln×List Tm×KV)×List Fk×Nw),kg p b.1 k o a.1/\a.2.1.length<=g.length+400/\zi b.1 a.1.1 a.2.2->Q ⟨0,a.2.2,a.1.1,f,e,h,d,a.1.2.1,xu b.1 a.1.1 i,a.2.1,j,n,a.1.2.2.2.2,a.1.2.2.2.1,a.1.2.2.1,()⟩))))) (by
 conv=>zeta
 unfold Bd Br nI bg;intro b c g i p q j s u bk d v m Q ⟨⟨L,y,K,E⟩,F⟩;have a:∀(B:Int)(n:Nw)(w:Cl)(t:List Tm)(k:KV),ol ⟨c,g,i,p,q,j,s,u,bk⟩ b v m ((B,n),w,t,k)->Q ⟨0,(n,B,w.c,w.se,w.sg,w.lg,w.pg,w.la,w.fk,w.km,d,k,t,w.bk,())⟩:=λB n w t k h=>F _ h;clear F;have f:bZ b 0:=⟨ac,ac,ac⟩;have G:b.length<=1099511627776:=ac
 unfold ol at a;dsimp only at a;refine⟨λe=>a 2 kr ⟨c,g,i,p,q,j,s,u,bk⟩ v m (by rw[ak (by have:=af e;omega)]),λC=>⟨G,f,λk H=>⟨trivial,?_⟩⟩⟩;have C:¬65536<b.length:=by have:=ap C;omega
 simp only[ae C,<-H]at a;simp only[if_true];clear H;refine⟨λe=>a _ kr ⟨c,g,i,p,q,j,s,u,bk⟩ v m (by rw[ak (lf e)]),λJ=>⟨G,λD=>⟨f,λx z=>?_⟩,λD=>⟨f,λx z=>?_⟩⟩⟩
 ·simp only[ae (nl J),ak (bz D),<-z]at a;have o:=M4 f;rw[<-z]at o;refine⟨o.1,λe=>a _ kr ⟨c,g,i,p,q,j,s,u,bk⟩ v m (by rw[ak (lf e)]),λA=>⟨⟨im (o.2 (aA.1 (nl A))).2,y.2.2.1,y.2.2.2.2.2.2.2.2,y.2.2.2.2.2.2.1,y.2.2.2.2.2.2.2.1,E.mono ac⟩,λr f=>?_⟩⟩;exact a r.1.2 r.1.1 ⟨c,g,i,r.2.1,q,j,s,r.2.2.1,bk⟩ r.2.2.2.1 r.2.2.2.2 (by rw[ae (nl A),<-f])
 ·simp only[ae (nl J),ae (aL D),<-z]at a;have o:=RM f;rw[<-z]at o;refine⟨o.1,λe=>a _ kr ⟨c,g,i,p,q,j,s,u,bk⟩ v m (by rw[ak (lf e)]),λA=>⟨⟨(o.2 (aA.1 (nl A))).2,y,K,E⟩,λr f=>?_⟩⟩;exact a r.1.1 r.2.2 ⟨c,g,i,p,r.1.2.1,xu x.1 r.1.1 j,r.2.1,u,r.1.2.2.1⟩ r.1.2.2.2.1 r.1.2.2.2.2 (by rw[ae (nl A)];exact⟨r.1,r.2.1,r.2.2,f.1,f.2.1,f.2.2,rfl⟩)) (l:=λ_=>aU λh=>Ia _ _ _ _ h.2.1.2.2.2.2.1)
def Sd(b:BL)(a:Int)(x:BL)(c:Int):Prop:=b.drop a.toNat=x++b.drop c.toNat
theorem Sd.trans{e c:Int}(h:Sd b f r e)(h':Sd b e r' c):Sd b f (r++r') c:=by
 unfold Sd at*;rw[h,h',ay]
theorem mq{a e lo hi:Int}(i:bZ b a)(h:(dn b a true e lo hi).2.2=0):e=0/\bZ b (dn b a true e lo hi).2.1/\Sd b a (vn (dn b a true e lo hi).1) (dn b a true e lo hi).2.1/\lo<=(dn b a true e lo hi).1/\(dn b a true e lo hi).1<=hi:=by
 have c:=(fx true e lo hi i).1;unfold dn at h c⊢;split at h
 ·rename_i g;rw[ak g]at c⊢;have g:e=0:=cf g
  split at h
  ·rename_i f;rw[ak f]at c⊢;split at h
   ·cases h
   ·rename_i l;rw[ae l]at c⊢;obtain⟨j,m,n,o⟩:=N6 f;dsimp only at c⊢;refine⟨g,c,?_,ac,ac⟩;unfold Sd;rw[ko]at j;have p:=i.2.1;have:(a+(gm 0 0 (b.drop a.toNat)).2.1).toNat=a.toNat+(gm 0 0 (b.drop a.toNat)).2.1.toNat:=ac
    rw[this];exact j
  ·rename_i f;exact absurd h f
 ·rename_i g;have h:e=0:=h;exact absurd (by rw[h];rfl) g
theorem nF{a e n:Int}(m:bZ b a)(h:(hJ b a true e n).2.2=0):e=0/\bZ b (hJ b a true e n).2.1/\Sd b a (tx (hJ b a true e n).1) (hJ b a true e n).2.1/\(hJ b a true e n).1.length<=n.toNat:=by
 have j:=ow true e n m;have f:=j.1;have o:=j.2.2;refine⟨?_,f,?_,o⟩
 ·unfold hJ at h;split at h
  ·rename_i g;simpa using g
  ·exact h
 clear j o;unfold hJ at h f⊢;split at h
 ·rename_i g;rw[ak g]at f⊢;have g:e=0:=cf g
  split at h
  ·rename_i i;rw[ak i]at f⊢;split at h
   ·cases h
   ·rename_i q;rw[ae q]at f⊢;split at h
    ·cases h
    ·rename_i r;rw[ae r]at f⊢;obtain⟨l,w,x,y⟩:=N6 i;have A:=m.2.1;rw[ko]at l;have p:(a+(gm 0 0 (b.drop a.toNat)).2.1).toNat=a.toNat+(gm 0 0 (b.drop a.toNat)).2.1.toNat:=ac
     generalize B:gm 0 0 (b.drop a.toNat)=G at*;obtain⟨v,c,z⟩:=G;dsimp only at*;subst g;unfold zM;rw[ak (show(true&&(0:Int)==0)=true from rfl)];unfold Sd tx;split
     ·rename_i s;have:v=0:=ac
      subst this;show b.drop a.toNat=(vn (0:Nat)++[])++b.drop (a+c).toNat;rw[p,aH];exact l
     ·rename_i s;rw[ae ac];dsimp only
      have t:(((b.take (a+c+v).toNat).drop (a+c).toNat).length:Int)=v:=by
       rw[cW,bd];omega
      have u:b.drop (a+c).toNat=(b.take (a+c+v).toNat).drop (a+c).toNat++b.drop (a+c+v).toNat:=by
       conv=>lhs;rw[<-ej (a+c+v).toNat b]
       rw[List.drop_append_of_le_length (by rw[bd];omega)]
      rw[t,l,ay,<-p,<-u]
  ·rename_i i;exact absurd h i
 ·rename_i g;have h:e=0:=h;exact absurd (by rw[h];rfl) g
theorem Ib{a e:Int}(f:bZ b a)(h:eZ b a true e=0):e=0/\b.drop a.toNat=[]:=by
 obtain⟨c,g⟩:=RL h;exact⟨c,bu ac⟩
theorem Ic(f:bZ b 0)(h:eZ b (pl b true (0,0)).2.1 true (pl b true (0,0)).2.2=0):b=eV (pl b true (0,0)).1/\jY (pl b true (0,0)).1=true:=by
 obtain⟨u,v⟩:=(RM f).2 h;refine⟨?_,v⟩;have w:=(RM f).1;obtain⟨i,j⟩:=Ib w h;rw[u]at i j w⊢;clear h u v;unfold JK at i j⊢;dsimp only at i j⊢;have y:=(fx true 0 2 4 f).1;generalize z:dn b 0 true 0 2 4=k at*;have A:=(fx true k.2.2 0 4 y).1;generalize a:dn b k.2.1 true k.2.2 0 4=l at*;have B:=(fx true l.2.2 1 65536 A).1;generalize c:dn b l.2.1 true l.2.2 1 65536=m at*;have C:=(fx true m.2.2 1 1048576 B).1;generalize D:dn b m.2.1 true m.2.2 1 1048576=n at*;have E:=(ow true n.2.2 64 C).1;generalize F:hJ b n.2.1 true n.2.2 64=p at*;have K:=(ow true p.2.2 4112 E).1;generalize G:hJ b p.2.1 true p.2.2 4112=x at*;have H:=nF (n:=64) K i;generalize L:hJ b x.2.1 true x.2.2 64=g at*;have o:=nF (n:=4112) (e:=p.2.2) E (by rw[G];exact H.1);rw[G]at o;have q:=nF (n:=64) (e:=n.2.2) C (by rw[F];exact o.1);rw[F]at q;have r:=mq (lo:=1) (hi:=1048576) (e:=m.2.2) B (by rw[D];exact q.1);rw[D]at r;have s:=mq (lo:=1) (hi:=65536) (e:=l.2.2) A (by rw[c];exact r.1);rw[c]at s;have t:=mq (lo:=0) (hi:=4) (e:=k.2.2) y (by rw[a];exact s.1);rw[a]at t;have J:=mq (lo:=2) (hi:=4) (e:=0) f (by rw[z];exact t.1);rw[z]at J;have:=(((((J.2.2.1.trans t.2.2.1).trans s.2.2.1).trans r.2.2.1).trans q.2.2.1).trans o.2.2.1).trans H.2.2.1;unfold Sd at this;rw[j,aH]at this;show b.drop (0:Int).toNat=_;rw[this];rfl
theorem OO{α:Type}{b:BL}{f:α->BL}{one:Rs->α×Rs}(j:∀a e,bZ b a->bZ b (one (a,e)).2.1)(h:∀a e,bZ b a->(one (a,e)).2.2=0->e=0/\Sd b a (f (one (a,e)).1) (one (a,e)).2.1):∀(k:Nat)(s:Rs)(c:List α),bZ b s.1->(yU one k s c).2.2=0->
 s.2=0/\∃l,(yU one k s c).1=c++l/\l.length=k/\Sd b s.1 (fl f l) (yU one k s c).2.1
 |0,s,c,i,g=>⟨g,[],by simp[yU],rfl,by simp[Sd,fl,yU]⟩
 |k+1,s,c,i,g=>by
  obtain⟨a,e⟩:=s;simp only[yU]at g⊢;have m:=j a e i;obtain⟨n,l,o,p,q⟩:=OO j h k (one (a,e)).2 (c++[(one (a,e)).1]) m g;obtain⟨r,t⟩:=h a e i n;exact⟨r,(one (a,e)).1::l,by rw[o];simp,by simp[p],by have:=t.trans q;simpa[fl]using this⟩
variable{α:Type}
theorem Ie{f:α->BL}{one:BL->Bool->Rs->α×Rs}(i:∀a e,bZ b a->bZ b (one b true (a,e)).2.1)(h:∀a e,bZ b a->(one b true (a,e)).2.2=0->e=0/\Sd b a (f (one b true (a,e)).1) (one b true (a,e)).2.1){s:Rs}(c:bZ b s.1)(g:(pC one b true s).2.2=0):
 s.2=0/\Sd b s.1 (vn (pC one b true s).1.length++fl f (pC one b true s).1) (pC one b true s).2.1:=by
 obtain⟨a,e⟩:=s;unfold pC at g⊢;dsimp only at g c⊢;have j:=(fx true e 0 5 c).1;obtain⟨m,l,n,o,p⟩:=OO i h _ _ [] j g;have q:=mq c m;refine⟨q.1,?_⟩;rw[n,eO,o,qJ q.2.2.2.1];exact q.2.2.1.trans p
theorem t_(c:bZ b 0)(h:eZ b (jJ b true (0,0)).2.1 true (jJ b true (0,0)).2.2=0):b=gi (jJ b true (0,0)).1/\iU (jJ b true (0,0)).1=true:=by
 obtain⟨D,E⟩:=(M4 c).2 h;refine⟨?_,E⟩;have F:=(M4 c).1;obtain⟨i,t⟩:=Ib F h;rw[D]at i t F⊢;clear h D E;unfold N2 at i t⊢;dsimp only at i t⊢;have G:=(fx true 0 1 1 c).1;generalize H:dn b 0 true 0 1 1=k at*;have J:=(fx true k.2.2 1 65536 G).1;generalize K:dn b k.2.1 true k.2.2 1 65536=n at*;have L:=(ow true n.2.2 64 J).1;generalize M:hJ b n.2.1 true n.2.2 64=p at*;have N:=(K2 (λa e=>Gn true e) p.2 L).1;generalize j:pC Ed b true p.2=v at*;have O:=(K2 (λa e=>Gp true e) v.2 N).1;generalize l:pC Ee b true v.2=u at*;have P:=(ow true u.2.2 64 O).1;generalize m:hJ b u.2.1 true u.2.2 64=w at*;have W:=(K2 (λa e=>Gq true e) w.2 P).1;generalize o:pC Ef b true w.2=Q at*;have R:=nF (n:=64) W i;generalize Y:hJ b Q.2.1 true Q.2.2 64=g at*;have x:=Ie (f:=tx) (one:=Ef) (s:=w.2) (λa e=>Gq true e) (λa e c i=>⟨(nF c i).1,(nF c i).2.2.1⟩) P (by rw[o];exact R.1);rw[o]at x;have y:=nF (n:=64) (e:=u.2.2) O (by rw[m];exact x.1);rw[m]at y
 have z:=Ie (f:=qP) (one:=Ee) (s:=v.2) (λa e=>Gp true e) (λa e c i=>by
  have q:=mq (fx true e 0 4 c).1 i;have r:=mq c q.1;exact⟨r.1,r.2.2.1.trans q.2.2.1⟩) N (by rw[l];exact y.1)
 rw[l]at z
 have A:=Ie (f:=pY) (one:=Ed) (s:=p.2) (λa e=>Gn true e) (λa e c i=>by
  have S:=nF (ow true _ 64 (fx true e 0 4 c).1).1 i;have q:=nF (fx true e 0 4 c).1 S.1;have r:=mq c q.1;exact⟨r.1,(r.2.2.1.trans q.2.2.1).trans S.2.2.1⟩) L (by rw[j];exact z.1)
 rw[j]at A;have B:=nF (n:=64) (e:=n.2.2) J (by rw[M];exact A.1);rw[M]at B;have C:=mq (lo:=1) (hi:=65536) (e:=k.2.2) G (by rw[K];exact B.1);rw[K]at C;have U:=mq (lo:=1) (hi:=1) (e:=0) c (by rw[H];exact C.1);rw[H]at U;have X:k.1=1:=ac
 have:=(((((((U.2.2.1.trans C.2.2.1).trans B.2.2.1).trans A.2).trans z.2).trans y.2.2.1).trans x.2).trans R.2.2.1);unfold Sd at this;rw[t,aH,X]at this;show b.drop (0:Int).toNat=_;rw[this];simp only[gi,dS,eo,ay]
theorem fg{n a:Int}(h0:0<=n)(c:n<=1099511627776)(e:0<=a)(f:a<=1099511627776)(h:vn n++r=vn a++r'):n=a/\r=r':=by
 have b:=Cz h0 c r;rw[h,Cz e f r']at b;have g:a=n:=aI Prod.fst b;subst g;exact⟨rfl,List.append_cancel_left h⟩
theorem kU{s s':BL}(b:s.length<=1099511627776)(c:s'.length<=1099511627776)(h:tx s++r=tx s'++r'):s=s'/\r=r':=by
 unfold tx at h;rw[ay,ay]at h;obtain⟨e,a⟩:=fg ac ac ac ac h;exact List.append_inj a ac
theorem wL(f:α->BL)(x:α)(l:List α):fl f (x::l)=f x++fl f l:=by simp[fl]
theorem wM{α:Type}{f:α->BL}{p:α->Prop}(b:∀x y r r',p x->p y->f x++r=f y++r'->x=y/\r=r'):∀{l l':List α}{r r':BL},l.length=l'.length->(∀x∈l,p x)->(∀x∈l',p x)->fl f l++r=fl f l'++r'->l=l'/\r=r'
 |[],[],_,_,_,_,_,h=>⟨rfl,h⟩
 |[],_::_,_,_,h,_,_,_=>by simp at h
 |_::_,[],_,_,h,_,_,_=>by simp at h
 |x::l,y::m,r,r',g,c,e,h=>by
  rw[wL,wL,ay,ay]at h;obtain⟨i,j⟩:=b x y _ _ (c x (aF ..)) (e y (aF ..)) h;obtain⟨n,o⟩:=wM b (cf g) (λz a=>c z (aD _ a)) (λz a=>e z (aD _ a)) j;exact⟨by rw[i,n],o⟩
theorem If:∀{l:List Int}{last:Int},qO last l=true->∀n∈l,last<n/\n<5
 |[],_,_,_,h=>by simp at h
 |n::r,last,h,x,a=>by
  simp only[qO]at h;split at h
  ·cases h
  ·rename_i g;rcases bm.1 a with a|a
   ·subst a;omega
   ·have:=If h x a;omega
theorem wN(b:pD l)(a:pD l')(n:h.length<=1000000)(o:h'.length<=1000000)(e:dp l++tx h=dp l'++tx h'):
 l.1=l'.1/\l.2.1=l'.2.1/\l.2.2.1=l'.2.2.1/\l.2.2.2.1=l'.2.2.2.1/\l.2.2.2.2.1=l'.2.2.2.2.1/\h=h':=by
 obtain⟨p,q,r,s,t,u,v,w,x⟩:=b;obtain⟨y,z,A,B,C,D,E,F,G⟩:=a;unfold dp at e;simp only[ay]at e;obtain⟨c,e⟩:=fg ac ac ac ac e;obtain⟨f,e⟩:=fg ac ac ac ac e;obtain⟨g,e⟩:=fg ac ac ac ac e;obtain⟨i,e⟩:=fg ac ac ac ac e;obtain⟨j,e⟩:=kU ac ac e;have e:tx h++[]=tx h'++[]:=by rw[aH,aH];exact e
 obtain⟨m,_⟩:=kU ac ac e;exact⟨c,f,g,i,j,m⟩
variable{g:Et}
theorem zj(a:2<=l.1/\l.1<=4):dS g≠dp l++r:=by
 intro h;unfold dS eo dp at h;simp only[ay]at h;obtain⟨b,_⟩:=fg ac ac ac ac h;omega
theorem zk(a:2<=l.1/\l.1<=4):eo g≠dp l:=by
 intro h;unfold eo dp at h;simp only[ay]at h;obtain⟨b,_⟩:=fg ac ac ac ac h;omega
structure etG(e:Et):Prop where
 n:1<=e.1/\e.1<=65536
 pv:e.2.1.length<=1000000
 pt:pB e.2.2.1 e.2.2.2.1=true
 oc:e.2.2.2.2.1.length<=1000
 bx:e.2.2.2.2.2.1.length<=5/\∀b∈e.2.2.2.2.2.1,b.length<=1000
theorem Ig{e:Et}(h:iU e=true):etG e:=by
 obtain⟨c,f,j,a,g,l,m,n⟩:=me h;have:=(fT a).2.1;exact⟨⟨c,f⟩,ac,a,ac,ac,λb i=>by rw[g b i];omega⟩
theorem RN{ms:List Mb}{ns:List Fk}(h:pB ms ns=true):(∀m∈ms,0<=m.1/\m.1<5/\m.2.1.length=32/\m.2.2.1.length=32)/\∀x∈ns,0<=x.1/\x.1<5/\0<=x.2.1/\x.2.1<=1048576:=by
 unfold pB at h;obtain⟨_,_,b,c,d,e⟩:=af h;refine⟨λm f=>?_,λx g=>?_⟩
 ·have:=If b m.1 (fV f);have a:=d m f;exact⟨ac,this.2,a.1,a.2⟩
 ·have:=If c x.1 (fV g);have a:=e x g;exact⟨ac,this.2,a.1,a.2⟩
theorem RO{e a:Et}(g:etG e)(u:etG a)(h:dS e++r=dS a++r'):e.1=a.1/\e.2.1=a.2.1/\e.2.2.1=a.2.2.1/\e.2.2.2.1=a.2.2.2.1/\e.2.2.2.2.1=a.2.2.2.2.1/\e.2.2.2.2.2.1=a.2.2.2.2.2.1/\r=r':=by
 obtain⟨⟨G,H⟩,J,j,K,L,v⟩:=g;obtain⟨⟨M,N⟩,O,l,P,Q,w⟩:=u;have R:=fT j;have S:=fT l;have n:=RN j;have o:=RN l;unfold dS eo at h;simp only[ay]at h;obtain⟨_,h⟩:=fg ac ac ac ac h;obtain⟨z,h⟩:=fg ac ac ac ac h;obtain⟨A,h⟩:=kU ac ac h;obtain⟨U,h⟩:=fg ac ac ac ac h
 obtain⟨B,h⟩:=wM (f:=pY) (p:=λm=>0<=m.1/\m.1<5/\m.2.1.length=32/\m.2.2.1.length=32) (λx y r r' s t q=>by
  unfold pY at q;simp only[ay]at q;obtain⟨c,q⟩:=fg ac ac ac ac q;obtain⟨i,q⟩:=kU ac ac q;obtain⟨C,q⟩:=kU ac ac q;exact⟨ga c (ga i (ga C rfl)),q⟩) ac n.1 o.1 h
 obtain⟨W,h⟩:=fg ac ac ac ac h
 obtain⟨D,h⟩:=wM (f:=qP) (p:=λx=>0<=x.1/\x.1<5/\0<=x.2.1/\x.2.1<=1048576) (λx y r r' s t q=>by
  unfold qP at q;simp only[ay]at q;obtain⟨c,q⟩:=fg ac ac ac ac q;obtain⟨i,q⟩:=fg ac ac ac ac q;exact⟨ga c (ga i rfl),q⟩) ac n.2 o.2 h
 obtain⟨E,h⟩:=kU ac ac h;obtain⟨X,h⟩:=fg ac ac ac ac h;obtain⟨F,h⟩:=wM (f:=tx) (p:=λb=>b.length<=1000) (λx y r r' s t q=>kU ac ac q) ac v w h;exact⟨z,A,B,D,E,F,h⟩
def Ih:Ct:=⟨1,⟨[sP 0],jW 0⟩,[⟨[(0,false,[.ptr 2 0])],jW 0++jW 2⟩],λ(bk,_)=>fJ (∀p∈bk,p.2.length<=1048576) (λ_:Ln=>True) λy=>(bk,y,())⟩
def u_:cx:=⟨[sP 0,(3,false,[.ptr 2 0]),(13,false,[.ptr 4 0])],[some (.cells [.mp 1]),some (.lk .i64 (.sl JE))]++jW 2++[some (.mit 1 .i64 (.sl JE))]⟩
def M6(x:Ih.inp.den)(y:u_.den):Prop:=match x,y with
 |(bk,_),(b,_,a,_,_)=>b=bk/\∀p∈a,p.2.length<=1048576
def a6n(x:Ih.inp.den):eH:=⟨[(5,bS u_ (M6 x) λ(_,_,a,_,_)=>a.length)],[],[],[],0⟩
def v_:bG:=(92,[Ih])::r_
def w_:=kA 92 Ih s_ a6n (∀(a:Ln)Q,bg Ih (a,()) Q->True/\Is (M6 (a,()) (a,[],a,none,()))/\∀(d e c:Ln)(z:Option (Int×List Kn)),M6 (a,()) (d,e,c,z,())->Br (!c.isEmpty) (∀(b:(Int×List Kn)×Ln),c.Perm (b.1::b.2)->(0+ah b.1.2)*72<=mM/\Is (M6 (a,()) (d,dY Ty.i64 b.1.1 b.1.2 e,b.2,some b.1,())/\b.2.length<c.length)) (Q ⟨0,d,e,()⟩)) (by
 unfold Br mM bg;intro bk Q ⟨g,h⟩;refine⟨trivial,⟨rfl,g⟩,?_⟩;rintro i n c z ⟨rfl,j⟩;refine⟨λ_ b e=>?_,λ_=>h n trivial⟩;have f:∀p∈b.1::b.2,p.2.length<=1048576:=λp a=>j p (e.mem_iff.2 a);have m:=e.length_eq;refine⟨by have:=f b.1 (aF ..);omega,⟨rfl,λp a=>f p (aD _ a)⟩,by rw[m];exact Nat.lt_succ_self _⟩) (l:=λ_=>aU λ_=>⟨[],trivial⟩)
def Ii:Ct:=⟨1,⟨[sP 0],hY 0⟩,[⟨[(0,false,[.ptr 4 0])],hY 0++hY 4⟩],λ(c,e,f,a,b,g,h,i,bk,_)=>fJ ((∀p∈bk,p.2.length<=1048576)/\cy b/\cK a.2.1 a.2.2.1) (λy:Cl=>jD b y.pg) λy=>(c,e,f,a,b,g,h,i,bk,y.c,y.se,y.sg,y.lg,y.pg,y.la,y.fk,y.km,y.bk,())⟩
def x_:cx:=⟨[sP 0,(3,false,[.ptr 4 0]),(35,false,[.ptr 8 0])],[some (.cells [.d .i64, .d tB, .d tB, .d (.pf TG), .mp 1, .ptr 2 0, .d N8, .d tLa, .d (.sl iZ)]),some (.lk .i64 tB)]++jW 2++hY 4++[some (.mit 1 .i64 tB)]⟩
def M7(x:Ii.inp.den)(y:x_.den):Prop:=match x,y with
 |(c,m,n,o,l,p,q,r,bk,_),(s,a,b,e,fO,f,g,h,i,_,_,_,_,j,_,_,_,_,_,_,_)=>(s,a,b,e,fO,f,g,h,i)=(c,m,n,o,l,p,q,r,bk)/\jD l j
def a6o(x:Ii.inp.den):eH:=⟨[(7,bS x_ (M7 x) λ(_,_,_,_,_,_,_,_,_,_,_,_,_,_,_,_,_,_,a,_,_)=>a.length)],[],[],[],0⟩
def y_:bG:=(49,[Ii])::v_
def z_:=kA 49 Ii w_ a6o (∀(d:Int)(e f:BL)(a:Lg)(c:Pg)(g:La)(h:List Fk)(i:KM)(j:Ln)Q,let x:=(d,e,f,a,c,g,h,i,j,());bg Ii x Q->cK a.2.1 a.2.2.1/\(∀(p:Int×List Kn),p∈j->ah p.2<=1048576)/\∀(b:Ln),True->cy c/\∀(G:Pg),jD c G->Is (M7 x (d,e,f,a,c,g,h,i,j,d,e,f,a,G,g,h,[],b,i,none,()))/\∀(l:Int)(m n:BL)(o:Lg)(q:Pg)(r:La)(s:List Fk)(t:KM)(u:Ln)(v:Int)(w y:BL)(A:Lg)(B:Pg)(C:La)(D:List Fk)(E:KM)(F:Ln)(k:KM)(z:Option (Int×BL)),M7 x (l,m,n,o,q,r,s,t,u,v,w,y,A,B,C,D,E,F,k,z,())->Br (!k.isEmpty) (∀(b:(Int×BL)×KM),k.Perm (b.1::b.2)->Is (M7 x (l,m,n,o,q,r,s,t,u,v,w,y,A,B,C,D,dY Ty.i64 b.1.1 b.1.2 E,F,b.2,some b.1,())/\b.2.length<k.length)) (Q ⟨0,l,m,n,o,q,r,s,t,u,v,w,y,A,B,C,D,E,F,()⟩)) (by
 conv=>zeta
 unfold Br bg;intro c R S U W X Y km bk Q ⟨⟨r,s,t⟩,u⟩;refine⟨t,r,λb _=>⟨s,λp v=>⟨⟨rfl,v⟩,?_⟩⟩⟩;rintro c1 w x y fO A B C D E a e f g h i j m n z ⟨o,q⟩;simp only[Prod.mk.injEq]at o;obtain⟨F,G,H,J,K,L,M,N,O⟩:=o;subst F G H J K L M N O;exact⟨λ_ b P=>⟨⟨rfl,q⟩,by rw[P.length_eq];exact Nat.lt_succ_self _⟩,λ_=>u ⟨E,a,e,f,g,h,i,j,m⟩ q⟩) (l:=λ_=>aU λ_=>⟨⟨0,[],[],([],[],[],()),_,[],[],[],[]⟩,(js _).choose_spec⟩)
end Go.Tp
