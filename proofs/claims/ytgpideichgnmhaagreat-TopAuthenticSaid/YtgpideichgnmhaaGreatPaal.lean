/- A part of the proof of TopAuthenticSaid: no conditions; packed by a program of our own. -/
import Derived.Test.YtgpideichgnmhaaGreatPaak
import Derived.Test.YtgpideichgnmhaaGreatPaai
open And renaming intro→bQ
open BitVec renaming ofNat→af
open Bool renaming and_eq_true→aF,false_eq_true→cf,true_and→fL,not_eq_true'→aO,not_eq_true→bX,not_eq_false'→aJ,not_eq_false→bR
open Decidable renaming not_not→aD
open Int renaming toNat_of_nonneg→pm
open LE renaming le→aZ
open List renaming replicate→ak,length_append→aa,append_assoc→ay,mem_append→aY,drop_of_length_le→bw,nil_append→eG,take_of_length_le→ba,append_nil→bj,getElem?_eq_getElem→ap,drop_drop→jf,take_append_drop→dC,length_take→bi,length→ac,getD_eq_getElem?_getD→az,getElem?_eq_none→bY,length_nil→cX,mem_cons_self→aM,mem_cons_of_mem→aE,all_eq_true→cM,getElem_mem→rW,mem_singleton→cg,length_drop→cD,length_singleton→bb,take_add_one→eQ,take_length→bp
open Nat renaming le_refl→aC,le_trans→bA,zero_le→aq,lt_or_ge→bN
open Option renaming getD_some→cZ
open Prod renaming ext→rV
namespace Go.Tp
open Go.Hv Go.Proofs Go.RowKit
set_option maxRecDepth 100000
set_option maxHeartbeats 0
theorem lmS{sec ep text:BL}{l:Lt}{k:Nat}{ts:List Tm}(m:KV)(h:bU (k+4) ts):bU k (r9 sec ep l text ts m).2.1∧(r9 sec ep l text ts m).1.1.2.2.2.2.1.length≤32∧(r9 sec ep l text ts m).1.1.2.2.2.2.2.1.length≤4112∧(r9 sec ep l text ts m).1.1.2.2.2.2.2.2.1.length≤64:=by
 unfold r9;rw[ck];split
 ·exact⟨h.mono (by omega),by simp[Lr]⟩
 rename_i f;split
 ·exact⟨h.mono (by omega),by simp[Lr]⟩
 rename_i a;rw[not_or,not_or]at f;have a:(lq text).2=0:=aD.1 a;have g:yc l:=by have:=f.2.2;rw[bR]at this;exact ai this
 have b:l.2.2.2.2.1.length≤32:=by have:=g.2.2.2.2.2.2.2.2;omega
 have u:=my l;have v:=paA text a;have i:aB sec:=by unfold aB;omega
 have o:aB ep:=by unfold aB;omega
 have c:aB (eg l):=by unfold aB;omega
 have w:=bz l.1;have x:=bz l.2.1;have p:=pz (k:=k+3) m h (A6 (k:=107) (by decide) (by decide) o (show aB (lR l)by unfold aB lR;simp;omega));have y:=bA (Ll (107,[ep,lR l],()) ts m) (CW (by show(107:BitVec 8)≠98;decide));unfold Zw;dsimp only;generalize de (107,[ep,lR l],()) ts m=K at*;have q:=seS (j:=k+2) (n:=l.2.2.2.1) K.2.2 (show aB K.1 by unfold aB;omega) c (show aB (lq text).1 by unfold aB;omega) p;generalize lA K.1 l.2.2.2.1 (eg l) (lq text).1 K.2.1 K.2.2=B at*;have e:aB B.1:=by unfold aB;omega
 have r:=ol (k:=k+1) B.2.2 q.1 (jT (k:=104) (by decide) (by decide) e);have z:=bA (Nat.le_of_eq (tU (104,[B.1],()) B.2.1 B.2.2)) (CW (by show(104:BitVec 8)≠98;decide));generalize dT (104,[B.1],()) B.2.1 B.2.2=X at*;have A:=dW X.1;have s:=pz X.2.2 r (A6 (k:=103) (by decide) (by decide) i (show aB (eg l++tx X.1)by unfold aB;rw[aa];omega));have t:=bA (Ll (103,[sec,eg l++tx X.1],()) X.2.1 X.2.2) (CW (by show(103:BitVec 8)≠98;decide));generalize de (103,[sec,eg l++tx X.1],()) X.2.1 X.2.2=G at*;exact⟨s,b,by omega,t⟩
theorem Q'{sg text:BL}{c:Int}{lg:Lg}{km:List (Int×BL)}{l:Lt}{k:Nat}{ts:List Tm}(m:KV)(h:bU (k+4) ts):bU k (nF c sg lg km l text ts m).2.1∧(nF c sg lg km l text ts m).1.1.2.2.2.2.1.length≤32∧(nF c sg lg km l text ts m).1.1.2.2.2.2.2.1.length≤4112∧(nF c sg lg km l text ts m).1.1.2.2.2.2.2.2.1.length≤64:=by
 unfold nF;rw[ck];exact lmS m h
def pgD(q:Pg)(r:Unit):(cc.mk [] (Gw 0)).den:=(q.1,q.2.1,q.2.2.1,q.2.2.2.1.2.1,q.2.2.2.1.1,q.2.2.2.2.1.1,r)
abbrev La:=List (List Int)
abbrev KM:=List (Int×BL)
theorem heK{bk:Ln}(h:bZ bk)(c:Int):0≤(fu bk c).2.1∧(fu bk c).2.1≤1048576:=by
 unfold fu;split
 ·simp
 ·have:=(h c).1;show(0:Int)≤(dt bk c).length∧((dt bk c).length:Int)≤1048576;omega
def Kc(b:Pg)(l:List Op)(c:Int×Pg):Prop:=∃a,iL b a∧xC a l c
def wrK(lt:Lt)(a:Pg)(b:Pg)(bk:Ln)(ts:List Tm)(m:KV):(BL×Int)×Pg×Ln×List Tm×KV:=
 let h:=dT (104,[lt.2.2.2.2.2.1],()) ts m
 let t:=nK (lt.2.1,lt.2.2.2.1,lt.2.2.1,lt.2.2.2.2.1,h.1,()) bk h.2.1 h.2.2
 if t.1≠0 then(([],t.1),b,t.2.1,t.2.2)else((hX lt,0),a,t.2.1,t.2.2)
def BK(c:Int)(sg:BL)(lg:Lg)(a:Pg)(km:KM)(bk:Ln)(l:List Op)(b:Int×Pg)(ts:List Tm)(m:KV):(BL×Int)×Pg×Ln×List Tm×KV:=
 lk sg (if mE c lg≠0 then(([],mE c lg),a,bk,ts,m)
 else if 64<l.length∨H1 l c=false∨l.all fZ=false then(([],1),a,bk,ts,m)
 else if(fu bk c).2.1=1048576 then(([],14),a,bk,ts,m)
 else if b.1≠0 then(([],b.1),a,bk,ts,m)
 else
  let z:=nF c sg lg km (2,0,0,(fu bk c).2.1+1,(fu bk c).2.2.1,[],[],()) (ej l) ts m
  if z.1.2≠0 then(([],z.1.2),a,bk,z.2)else wrK z.1.1 b.2 a bk z.2.1 z.2.2)
def Dw:Ct:=⟨3,⟨[sP 0,sS 1 4,(2,false,[.d (.sl jV)])],gk 0++kH 4⟩,[⟨[(0,false,[.d tB]),sI 1],gk 0++kI 4 7++[cT]⟩],λ(l,c,i,e,a,b,j,n,f,bk,d,g,m,_)=>eO (l.length≤1000000∧cu a.2.1 a.2.2.1∧bZ bk∧cb b∧bU 6 g) (λy=>∃h,Kc b l h∧y=BK c e a b f bk l h g m) λy=>(y.1.1,y.1.2,c,i,e,a,y.2.1,j,n,f,y.2.2.1,d,y.2.2.2.2,y.2.2.2.1,())⟩
def R_:cc:=⟨[sP 0,sS 1 4,(2,false,[.d (.sl jV)]),(35,false,[.d (.sl jV)]),sI 36,sI 37],gk 0++kH 4⟩
def Ma(x:Dw.inp.den)(y:R_.den):Prop:=match x,y with
 |(l,c,q,r,p,s,t,u,v,bk,d,w,m,_),(z,A,n,i,B,a,b,e,eW,f,g,h,j,C,o,D,_)=>z=l∧A=l∧n=l.length∧(B,a,b,e,eW,f,g,h,j,C,o,D)=(c,q,r,p,s,t,u,v,bk,d,w,m)∧mE c p=0∧l.length≤64∧H1 l c=true∧∃k:Nat,i=k∧k≤l.length∧(l.take k).all fZ=true
def a5o(x:Dw.inp.den):dG:=⟨[(7,bM R_ (Ma x) λ(_,_,n,i,_)=>(n-i).toNat)],[],[],[],0⟩
abbrev jB(v:BL×Int×Int×BL×BL×Lg×Pg×La×List Fk×KM×Ln×Int×KV×List Tm×Unit):aN Dw.out:=⟨0,v⟩
def Qj:bu:=(76,[Dw])::Qi
theorem R':KK Qj:=kA Q_ a5o (∀(f:List Op)(d:Int)(m n:BL)(e:Lg)(p:Pg)(q:La)(r:List Fk)(s:KM)(t:Ln)(u:Int)(v:List Tm)(w:KV)(Q:aN Dw.out→Prop),let J:=(d,m,n,e,p,q,r,s,t,u,w,v,());let A:=(d,m,n,e,p,q,r,s,t,u,v,w,());(Ct.spec Dw (f,A)).sat Q→cu e.2.1 e.2.2.1∧Br (!mE d e==0) (Q (jB ([],mE d e,J))) (Br (decide (64<(↑f.length:Int))) (Q (jB ([],1,J))) (f.length≤1000000∧Br (!H1 f d) (Q (jB ([],1,J))) (Is (Ma (f,A) (f,f,(↑f.length:Int),0,A))∧∀(x D:List Op)(B g a:Int)(y i:BL)(j:Lg)(k:Pg)(z:La)(E:List Fk)(l:KM)(c:Ln)(F:Int)(G:List Tm)(K:KV),let P:=(fu c a).2.1==1048576;let M:=(a,y,i,j,k,z,E,l,c,F,G,K,());let L:=(a,y,i,j,k,z,E,l,c,F,K,G,());let R:= !fZ (D.getD g.toNat (0,0,0,0,0,false,0,0,0,0,0,0,0,false,0,0,false,0,0,()));Ma (f,A) (x,D,B,g,M)→Br (decide (g<B)) ((0≤g∧g<(↑D.length:Int))∧True∧Br R (Q (jB ([],1,L))) (ae (g+1)∧Is (Ma (f,A) (x,D,B,g+1,M)∧(B-(g+1)).toNat<(B-g).toNat))) (bZ c∧Br P (Q (jB ([],14,L))) (cb k∧∀(b:Pg),iL k b→(cb b∧x.length≤1000000)∧∀(H:Int×Pg),xC b x H→Br (!H.1==0) (Q (jB ([],H.1,L))) (ae ((fu c a).2.1+1)∧(0+100*x.length≤1000000000∧∀(o:Op),o∈x→Bb o)∧bU 4 G∧∀(b:(Lt×Int)×List Tm×KV),let N:=jg (af 8 104,[b.1.1.2.2.2.2.2.1],()) b.2.1 b.2.2;b=nF a i j l (2,0,0,(fu c a).2.1+1,(fu c a).2.2.1,[],[],()) (ej x) G K→Br (!b.1.2==0) (Q (jB ([],b.1.2,a,y,i,j,k,z,E,l,c,F,b.2.2,b.2.1,()))) ((aB b.1.1.2.2.2.2.2.1∧b.2.1.length≤4294967296)∧∀(C:BL×List Tm×KV),C=(jO (af 8 104,[b.1.1.2.2.2.2.2.1],()) N.1,N.2)→(C.2.1.length≤4294967295∧bZ c)∧∀(h:Int×Ln×List Tm×KV),let O:=(z,E,l,h.2.1,F,h.2.2.2,h.2.2.1,());h=nK (b.1.1.2.1,b.1.1.2.2.2.1,b.1.1.2.2.1,b.1.1.2.2.2.2.1,C.1,()) c C.2.1 C.2.2→Br (!h.1==0) (Q (jB ([],h.1,a,y,i,j,k,O))) (0+ac b.1.1.2.2.2.2.1+ac b.1.1.2.2.2.2.2.1+ac b.1.1.2.2.2.2.2.2.1≤1000000000∧Q (jB (hX b.1.1,0,a,y,i,j,H.2,O))))))))))) (by kernel_rfl) (by
 conv=>zeta
 unfold Br;intro l c se U W A la fk X bk d ts m Q ⟨⟨Y,h2,C,h4,h5⟩,hQ⟩;have a:∀p y,Kc A l p→BK c U W A X bk l p ts m=y→Q ⟨0,(y.1.1,y.1.2,c,se,U,W,y.2.1,la,fk,X,y.2.2.1,d,y.2.2.2.2,y.2.2.2.1,())⟩:=λp y hc e=>hQ y ⟨p,hc,e.symm⟩;clear hQ;obtain⟨p0,D⟩:=iD A;obtain⟨c0,E⟩:=pR p0 l;have j:Kc A l c0:=⟨p0,D,E⟩;unfold BK at a;simp only[ck]at a;simp only[aO,aJ,ah,aj,aQ,ax,ne_eq];refine⟨h2,λq=>a _ _ j (an q),λq=>?_⟩;simp only[ne_eq,q,not_true_eq_false,if_false]at a;refine⟨λe2=>a _ _ j (an (.inl (by omega))),λe2=>⟨Y,λs=>a _ _ j (an (.inr (.inl s))),λs=>⟨⟨rfl,rfl,rfl,rfl,q,by omega,s,0,rfl,aq _,rfl⟩,?_⟩⟩⟩;rintro l1 b n i u a0 F G eW a1 a2 H v d1 a3 m1 ⟨g1,g2,g3,g4,-,-,-,k,g5,hk,B⟩;simp only[Prod.mk.injEq]at g4;obtain⟨f1,f2,f3,f4,f5,f6,f7,f8,f9,J,K,L⟩:=g4;subst g1 g2 g3 g5 f1 f2 f3 f4 f5 f6 f7 f8 f9 J K L;have q:((k:Int).toNat)=k:=by omega
 rw[q];refine⟨λa4=>?_,λa5=>?_⟩
 ·have f:k<b.length:=by omega
  have hM:b.getD k (0,0,0,0,0,false,0,0,0,0,0,0,0,false,0,0,false,0,0,())∈b:=by
   rw[az,ap f,cZ];exact rW f
  have hT:b.take (k+1)=b.take k++[b.getD k (0,0,0,0,0,false,0,0,0,0,0,0,0,false,0,0,false,0,0,())]:=by
   rw[eQ,az,ap f];rfl
  generalize b.getD k (0,0,0,0,0,false,0,0,0,0,0,0,0,false,0,0,false,0,0,())=o at*;refine⟨by omega,trivial,λg=>a _ _ j (an (.inr (.inr ?_))),λg=>⟨by unfold ae;omega,⟨⟨rfl,rfl,rfl,rfl,‹_›,by omega,s,k+1,rfl,f,?_⟩,by omega⟩⟩⟩
  ·rw[←bX,cM];intro r;rw[r o hM]at g;cases g
  ·rw[hT,List.all_append,B];simp[g]
 ·rw[ba (by omega)]at B;have e4:¬(64<b.length∨H1 b u=false∨b.all fZ=false):=by rw[s,B];simp;omega
  simp only[e4,if_false]at a;refine⟨C,λM=>a _ _ j (an M),λM=>⟨h4,λp1 w=>⟨⟨w.1,Y⟩,λp N=>?_⟩⟩⟩;simp only[M,if_false]at a;have j:Kc eW b p:=⟨p1,w,N⟩;refine⟨λO=>a _ _ j (an O),λO=>?_⟩;have a:=λy=>a p y j;simp only[O,not_true_eq_false,if_false]at a;have hs:=heK C u;refine⟨by unfold ae;omega,⟨by omega,λo ho=>C' (cM.1 B o ho)⟩,h5.mono (by omega),λz hz=>?_⟩;have P:=Q' (k:=2) (sg:=F) (text:=ej b) (c:=u) (lg:=G) (km:=H) (l:=(2,0,0,(fu v u).snd.fst+1,(fu v u).snd.snd.fst,[],[],())) m1 h5;rw[←hz]at a P;clear hz;refine⟨λR=>a _ (an R),λR=>?_⟩;simp only[R,not_true_eq_false,if_false]at a;have x:aB z.1.1.2.2.2.2.2.1:=by unfold aB;omega
  refine⟨⟨x,P.1.le⟩,λh r=>?_⟩;have r:h=dT (104,[z.1.1.2.2.2.2.2.1],()) z.2.1 z.2.2:=r;have sh:=ol z.2.2 P.1 (jT (k:=104) (by decide) (by decide) x);unfold wrK at a;dsimp only at a;rw[←r]at a sh;clear r;refine⟨⟨by have:=sh.2;omega,C⟩,λt ht=>?_⟩;rw[←ht]at a;clear ht;refine⟨λS=>a _ (an S),λS=>⟨by omega,a _ (ag (λg=>g S))⟩⟩) (l:=λ_=>aR λ_=>⟨_,_,⟨_,(iD _).choose_spec,(pR _ _).choose_spec⟩,rfl⟩)
def H6:Ct:=⟨2,⟨[sB 0,(1,false,[.d (.sl ic)])],[]⟩,[⟨[(0,false,[.d tB])],[]⟩],λ(b,l,_)=>eO (b.length≤1000000∧l.length≤10000000) (λy=>y.length≤b.length+7+14*l.length) λy=>(y,())⟩
def S_:cc:=⟨[sB 0,(11,false,[.d (.sl ic)]),sI 12,sI 13],[]⟩
def Mc(b:BL)(l:List Fk)(y:S_.den):Prop:=match y with
 |(a,c,n,i,_)=>c=l∧n=l.length∧∃k:Nat,i=k∧k≤l.length∧a.length≤b.length+7+14*k
def a5p(x:H6.inp.den):dG:=⟨[(3,bM S_ (Mc x.1 x.2.1) λ(_,_,n,i,_)=>(n-i).toNat)],[],[],[],0⟩
abbrev Ui(v:BL×Unit):aN H6.out:=⟨0,v⟩
def Qk:bu:=(124,[H6])::Qj
theorem S':KK Qk:=kA R' a5p (∀(c:BL)(b:List Fk)(Q:aN H6.out→Prop),(Ct.spec H6 (c,b,())).sat Q→c.length≤1099511627776∧Is (Mc c b (c++vn (↑b.length:Int),b,(↑b.length:Int),0,()))∧∀(f:BL)(d:List Fk)(e a:Int),let z:=d.getD a.toNat (0,0,());Mc c b (f,d,e,a,())→Br (decide (a<e)) ((0≤a∧a<(↑d.length:Int))∧f.length≤1099511627776∧(f++vn z.1).length≤1099511627776∧ae (a+1)∧Is (Mc c b (f++vn z.1++vn z.2.1,d,e,a+1,())∧(e-(a+1)).toNat<(e-a).toNat)) (Q (Ui (f,())))) (by kernel_rfl) (by
 conv=>zeta
 unfold Br;intro b l Q ⟨⟨o,p⟩,g⟩;have q:=bz l.length;refine⟨by omega,⟨rfl,rfl,0,rfl,aq _,by rw[aa];omega⟩,?_⟩;rintro r a n i ⟨h,j,k,m,s,t⟩;subst h j m;refine⟨λc=>?_,λe=>?_⟩
 ·have f:k<a.length:=by simp only[ah]at c;omega
  have u:=bz (a.getD ((k:Int).toNat) (0,0,())).1;have v:=bz (a.getD ((k:Int).toNat) (0,0,())).2.1;refine⟨by omega,by omega,by rw[aa];omega,by unfold ae;omega,⟨rfl,rfl,k+1,rfl,f,by rw[aa,aa];omega⟩,by omega⟩
 ·exact g _ (by simp only[aj]at e;omega)) (l:=λ_=>aR λ_=>⟨[],aq _⟩)
def T_:List (Option CP):=[some (.cells [.ptr 1 0])]++gk 1
def pC(a:List Fk):Prop:=a.length≤10000000
theorem zO{bk:Ln}(h:bZ bk)(a q:Int):(xl bk a q).1.length≤32:=by
 unfold xl;split
 ·simp
 ·rename_i g;rw[not_or]at g;exact Nat.le_of_eq ((h a).2 _ (aT (z:=pa) (by omega))).1
theorem H7{bk:Ln}(h:bZ bk):(sF bk 5).length≤5∧∀x∈sF bk 5,x.2.2.1.length≤32:=by
 unfold sF;refine⟨bA (List.length_filterMap_le _ _) (by simp),λx b=>?_⟩;obtain⟨a,_,e⟩:=List.mem_filterMap.1 b;split at e
 ·simp only[Option.some.injEq]at e;rw[←e];unfold fu;split
  ·simp
  ·exact zO h _ _
 ·simp at e
def Dx:Ct:=⟨1,⟨[sP 0],T_⟩,[⟨[(0,false,[.d tB])],T_⟩],λ(c,b,e,f,g,h,a,i,bk,_)=>eO (bZ bk∧pC a) (λy=>y.length≤1000+14*a.length) λy=>(y,c,b,e,f,g,h,a,i,bk,())⟩
def T':cc:=⟨[sP 0,sB 3,(14,false,[.d (.sl J5)]),sI 15,sI 16],T_⟩
def Me(x:Dx.inp.den)(y:T'.den):Prop:=match x,y with
 |(c,o,p,q,r,s,t,u,bk,_),(b,l,n,i,v,a,e,f,eW,g,h,j,m,_)=>l=sF bk 5∧n=l.length∧(v,a,e,f,eW,g,h,j,m)=(c,o,p,q,r,s,t,u,bk)∧∃k:Nat,i=k∧k≤l.length∧b.length≤7+60*k
def a5q(x:Dx.inp.den):dG:=⟨[(4,bM T' (Me x) λ(_,_,n,i,_)=>(n-i).toNat)],[],[],[],0⟩
abbrev Uj(v:BL×Int×BL×BL×Lg×Pg×La×List Fk×KM×Ln×Unit):aN Dx.out:=⟨0,v⟩
def Ql:bu:=(122,[Dx])::Qk
theorem U_:KK Ql:=kA S' a5q (∀(g:Int)(h i:BL)(j:Lg)(k:Pg)(l:La)(m:List Fk)(n:KM)(d:Ln)(Q:aN Dx.out→Prop),let x:=(h,i,j,k,l,m,n,d,());(Ct.spec Dx (g,x)).sat Q→bZ d∧0≤1099511627776∧Is (Me (g,x) (vn (↑(sF d 5).length:Int),sF d 5,(↑(sF d 5).length:Int),0,g,x))∧∀(e:BL)(c:List (Int×Int×BL×Unit))(f a p:Int)(q r:BL)(s:Lg)(t:Pg)(u:La)(o:List Fk)(v:KM)(w:Ln),let y:=(p,q,r,s,t,u,o,v,w,());let z:=c.getD a.toNat (0,0,[],());Me (g,x) (e,c,f,a,y)→Br (decide (a<f)) ((0≤a∧a<(↑c.length:Int))∧e.length≤1099511627776∧(e++vn z.1).length≤1099511627776∧(e++vn z.1++vn z.2.1).length+ac z.2.2.1≤1099511627776∧ae (a+1)∧Is (Me (g,x) (e++vn z.1++vn z.2.1++(vn (↑(ac z.2.2.1):Int)++z.2.2.1),c,f,a+1,y)∧(f-(a+1)).toNat<(f-a).toNat)) ((e.length≤1000000∧o.length≤10000000)∧∀(b:BL),b.length≤e.length+7+14*o.length→Q (Uj (b,y)))) (by kernel_rfl) (by
 conv=>zeta
 unfold Br;intro c O P R S U W X bk Q ⟨⟨h,o⟩,p⟩;have Y:=bz (sF bk 5).length;have e:=H7 h;refine⟨h,by omega,⟨rfl,rfl,rfl,0,rfl,aq _,by omega⟩,?_⟩;rintro b l n i c1 q r s eW t u v w ⟨j,x,m,k,A,hk,hb⟩;simp only[Prod.mk.injEq]at m;obtain⟨B,C,D,E,F,G,J,K,L⟩:=m;subst B C D E F G J K L x A;rw[←j]at e;unfold pC at o;refine⟨λf=>?_,λM=>?_⟩
 ·have a:k<l.length:=by simp only[ah]at f;omega
  have N:((k:Int).toNat)=k:=by omega
  have hm:=e.2 _ (aT (z:=((0,0,[],()):Hd)) a);rw[N];generalize l.getD k (0,0,[],())=H at*;have v1:=bz H.1;have v2:=bz H.2.1;have v3:=bz H.2.2.1.length;have g:=e.1;simp only[aa];refine⟨by omega,by omega,by omega,by omega,by unfold ae;omega,⟨j,rfl,rfl,k+1,rfl,a,by simp only[aa];omega⟩,by omega⟩
 ·have g:=e.1;exact⟨⟨by omega,by omega⟩,λy hy=>p y (by omega)⟩) (l:=λ_=>aR λ_=>⟨[],aq _⟩)
def H8:Ct:=⟨1,⟨[sP 0],T_⟩,[⟨[(0,false,[.d tB])],T_⟩],λ(c,b,e,f,a,g,h,i,bk,_)=>eO (bZ bk∧cb a) (λy=>∃l:List Op,l.length≤9000∧y=lC bk [] 5++ej l) λy=>(y,c,b,e,f,a,g,h,i,bk,())⟩
abbrev Uk(v:BL×Int×BL×BL×Lg×Pg×La×List Fk×KM×Ln×Unit):aN H8.out:=⟨0,v⟩
def Qm:bu:=(125,[H8])::Ql
theorem H9:KK Qm:=kA U_ (cv H8 0) (∀(d:Int)(e f:BL)(g:Lg)(c:Pg)(h:La)(i:List Fk)(j:KM)(a:Ln)(Q:aN H8.out→Prop),let z:=(e,f,g,c,h,i,j,a,());(Ct.spec H8 (d,z)).sat Q→(bZ a∧0≤1073741824)∧cb c∧∀(b:List Op),HR c b→(ac (lC a [] 5)+100*b.length≤1000000000∧∀(o:Op),o∈b→Bb o)∧Q (Uk (lC a [] 5++ej b,d,z))) (by kernel_rfl) (by
 conv=>zeta
 intro c h i j m n o p bk Q ⟨⟨b,e⟩,f⟩;refine⟨⟨b,by omega⟩,e,λl a=>⟨⟨?_,a.2.1⟩,f _ ⟨l,a.1,rfl⟩⟩⟩;have:=pM b [] 5;have g:l.length≤9000:=a.1;simp only[cX]at this;omega) (l:=λ_=>aR λ_=>⟨_,[],aq _,rfl⟩)
def xH(la:La)(k c:Int):Int:=(la.getD (k-3).toNat []).getD c.toNat 0
def Kd(la:La)(k c n:Int):La:=la.set (k-3).toNat ((la.getD (k-3).toNat []).set c.toNat n)
def fh(la:La):Prop:=la.length=2∧∀r∈la,r.length=5∧∀n∈r,0≤n∧n≤1048576
def mF(a:Int)(t:BL)(c:Int)(sg:BL)(lg:Lg)(la:La)(km:KM)(ts:List Tm)(m:KV):(BL×Int)×La×List Tm×KV:=
 lk sg (if mE c lg≠0 then(([],mE c lg),la,ts,m)
 else if xH la a c=1048576 then(([],14),la,ts,m)
 else
  let z:=nF c sg lg km (a,0,0,xH la a c+1,[],[],[],()) t ts m
  if z.1.2≠0 then(([],z.1.2),la,z.2)else((hX z.1.1,0),Kd la a c (xH la a c+1),z.2))
def toB(j:Nat):List (Option CP):=[some (.cells [.ptr j 0])]
theorem jC{a b:Int}(h:(!(a==b))=true):a≠b:=by simpa using h
theorem jX{a b:Int}(h:(!(a==b))=false):¬(a≠b):=by simpa using h
theorem snE{sg text:BL}{c:Int}{lg:Lg}{km:List (Int×BL)}{l:Lt}{ts:List Tm}{m:KV}{z:(Lt×Int)×List Tm×KV}(a:z=nF c sg lg km l text ts m)(h:bU 4 ts):bU 0 z.2.1∧z.1.1.2.2.2.2.1.length≤32∧z.1.1.2.2.2.2.2.1.length≤4112∧z.1.1.2.2.2.2.2.2.1.length≤64:=by
 subst a;exact Q' (k:=0) m h
theorem inB{n:Int}(h:0≤n∧n≤1048576):ae (n+1):=by unfold ae;omega
theorem vx{la:La}(h:fh la):∃a b c d e f g i j k,la=[[a,b,c,d,e],[f,g,i,j,k]]:=by
 have l:∀r:List Int,r.length=5→∃a b c d e,r=[a,b,c,d,e]:=by
  intro r p
  match r,p with
  |[a,b,c,d,e],_=>exact⟨a,b,c,d,e,rfl⟩
 obtain⟨q,m⟩:=h
 match la,q with
 |[n,o],_=>
  obtain⟨a,b,c,d,e,rfl⟩:=l n (m n (by simp)).1;obtain⟨f,g,i,j,k,rfl⟩:=l o (m o (by simp)).1;exact⟨a,b,c,d,e,f,g,i,j,k,rfl⟩
theorem U'{la:La}(h:fh la)(r c:Nat):0≤(la.getD r (ak 5 0)).getD c 0∧(la.getD r (ak 5 0)).getD c 0≤1048576:=by
 have z:(0:Int)≤0∧(0:Int)≤1048576:=by omega
 by_cases b:r<la.length
 ·have e:=h.2 _ (aT (z:=ak 5 (0:Int)) b);by_cases a:c<(la.getD r (ak 5 0)).length
  ·exact e.2 _ (aT (z:=(0:Int)) a)
  ·rw[az (l:=la.getD r _),bY (by omega)];exact z
 ·rw[az (l:=la),bY (by omega),Option.getD_none];by_cases a:c<5
  ·rcases c with _|_|_|_|_|c<;>first|exact z|omega
  ·rw[az,bY (by simp;omega)];exact z
def xI:Ct:=⟨4,⟨[sP 0,sS 1 4,(2,false,[.k (.i64 3)]),N6 3 122 7],gk 0++kH 4++toB 0⟩,[⟨[(0,false,[.d tB]),sI 1],gk 0++kI 4 8++toB 0++[cT]⟩],λ(c,i,b,a,j,e,f,g,bk,d,h,m,_)=>eO (0≤c∧c<5∧fh e∧cu a.2.1 a.2.2.1∧bZ bk∧pC f∧bU 4 h) (λy=>∃t:BL,y=mF 3 t c b a e g h m) λy=>(y.1.1,y.1.2,c,i,b,a,j,y.2.1,f,g,bk,d,y.2.2.2,y.2.2.1,())⟩
abbrev gb(v:BL×Int×Int×BL×BL×Lg×Pg×La×List Fk×KM×Ln×Int×KV×List Tm×Unit):aN xI.out:=⟨0,v⟩
theorem Ia:bO Tryz.prog 121 xI:=kC H9 (cv xI 0) (∀(d:Int)(h g:BL)(e:Lg)(i:Pg)(c:La)(f:List Fk)(j:KM)(k:Ln)(m:Int)(l:List Tm)(n:KV)(Q:aN xI.out→Prop),let s:=(d,h,g,e,i,c,f,j,k,m,n,l,());let p:Prop:=bZ k∧pC f;let t:=gb ([],14,s);let B:=c.getD ((9-1-1-1-1-1-1-1)/5) (ak 5 0);let G:=B.getD ((9-1-1-1-1-1-1-1) % 5/1) (0:Int)==1048576;let q:=B.getD ((9-1-1-1-1-1-1-1) % 5/1) 0+1;let C:=c.getD ((8-1-1-1-1-1-1-1)/5) (ak 5 0);let H:=C.getD ((8-1-1-1-1-1-1-1) % 5/1) (0:Int)==1048576;let r:=C.getD ((8-1-1-1-1-1-1-1) % 5/1) 0+1;let D:=c.getD ((7-1-1-1-1-1-1-1)/5) (ak 5 0);let J:=D.getD ((7-1-1-1-1-1-1-1) % 5/1) (0:Int)==1048576;let K:=D.getD ((7-1-1-1-1-1-1-1) % 5/1) 0+1;let E:=c.getD ((11-1-1-1-1-1-1-1)/5) (ak 5 0);let L:=E.getD ((11-1-1-1-1-1-1-1) % 5/1) (0:Int)==1048576;let M:=E.getD ((11-1-1-1-1-1-1-1) % 5/1) 0+1;let F:=c.getD ((10-1-1-1-1-1-1-1)/5) (ak 5 0);let N:=F.getD ((10-1-1-1-1-1-1-1) % 5/1) (0:Int)==1048576;let O:=F.getD ((10-1-1-1-1-1-1-1) % 5/1) 0+1;let z:Prop:=Ch.cells [I.d Ty.i64 d,I.d Ty.u8.sl h,I.d Ty.u8.sl g,I.pv (Ty.u8.sl.pr ((Ty.i64.pr (Ty.u8.sl.pr ((Ty.i64.pr (Ty.u8.sl.pr (Ty.u8.sl.pr Ty.un))).sl.pr ((Ty.i64.pr (Ty.i64.pr Ty.un)).sl.pr (Ty.u8.sl.pr (Ty.u8.sl.sl.pr (Ty.u8.sl.pr Ty.un))))))).sl.pr (Ty.u8.sl.sl.pr Ty.un))) e,I.mp 1,I.ptr 2 0,I.pv (((Ty.i64.pr (Ty.i64.pr Ty.un)).fm (Ty.i64.pr (Ty.i64.pr (Ty.i64.pr (Ty.i64.pr (Ty.bl.pr (Ty.i32.pr Ty.un))))))).pr (((Ty.i64.pr (Ty.i64.pr Ty.un)).fm Ty.i64).pr ((Ty.i64.pr (Ty.i64.pr (Ty.i64.pr (Ty.i64.pr (Ty.bl.pr (Ty.i32.pr Ty.un)))))).sl.pr ((((Ty.i64.pr (Ty.i64.pr Ty.un)).fm (Ty.i64.pr (Ty.i64.pr (Ty.i32.pr (Ty.bl.pr ((Ty.ar 2 (Ty.i64.pr (Ty.i64.pr Ty.un)).sl).pr Ty.un)))))).pr (Ty.i64.pr Ty.un)).pf.pr (((Ty.i64.pr (Ty.i64.pr (Ty.i64.pr (Ty.i64.pr (Ty.bl.pr (Ty.i64.pr (Ty.i64.pr (Ty.bl.pr (Ty.i64.pr (Ty.i64.pr Ty.un)))))))))).sl.pr Ty.un).pf.pr Ty.un))))) i,I.d (Ty.ar 2 (Ty.ar 5 Ty.i64)) c,I.d (Ty.i64.pr (Ty.i64.pr Ty.un)).sl f]=Ch.cells [I.d Ty.i64 d,I.d Ty.u8.sl h,I.d Ty.u8.sl g,I.pv (Ty.u8.sl.pr ((Ty.i64.pr (Ty.u8.sl.pr ((Ty.i64.pr (Ty.u8.sl.pr (Ty.u8.sl.pr Ty.un))).sl.pr ((Ty.i64.pr (Ty.i64.pr Ty.un)).sl.pr (Ty.u8.sl.pr (Ty.u8.sl.sl.pr (Ty.u8.sl.pr Ty.un))))))).sl.pr (Ty.u8.sl.sl.pr Ty.un))) e,I.mp 1,I.ptr 2 0,I.pv (((Ty.i64.pr (Ty.i64.pr Ty.un)).fm (Ty.i64.pr (Ty.i64.pr (Ty.i64.pr (Ty.i64.pr (Ty.bl.pr (Ty.i32.pr Ty.un))))))).pr (((Ty.i64.pr (Ty.i64.pr Ty.un)).fm Ty.i64).pr ((Ty.i64.pr (Ty.i64.pr (Ty.i64.pr (Ty.i64.pr (Ty.bl.pr (Ty.i32.pr Ty.un)))))).sl.pr ((((Ty.i64.pr (Ty.i64.pr Ty.un)).fm (Ty.i64.pr (Ty.i64.pr (Ty.i32.pr (Ty.bl.pr ((Ty.ar 2 (Ty.i64.pr (Ty.i64.pr Ty.un)).sl).pr Ty.un)))))).pr (Ty.i64.pr Ty.un)).pf.pr (((Ty.i64.pr (Ty.i64.pr (Ty.i64.pr (Ty.i64.pr (Ty.bl.pr (Ty.i64.pr (Ty.i64.pr (Ty.bl.pr (Ty.i64.pr (Ty.i64.pr Ty.un)))))))))).sl.pr Ty.un).pf.pr Ty.un))))) i,I.d (Ty.ar 2 (Ty.ar 5 Ty.i64)) c,I.d (Ty.i64.pr (Ty.i64.pr Ty.un)).sl f]∧True;(Tr.need (0≤d∧d<5∧fh c∧cu e.2.1 e.2.2.1∧bZ k∧pC f∧bU 4 l) (Tr.all ((BL×Int)×La×List Tm×KV) (λy=>∃o,y=mF 3 o d g e c j l n) λy=>Tr.leaf (gb (y.1.1,y.1.2,d,h,g,e,i,y.2.1,f,j,k,m,y.2.2.2,y.2.2.1,())))).sat Q→cu e.2.1 e.2.2.1∧Br (!mE d e==0) (Q (gb ([],mE d e,s))) (Br (d==0) (Br J (Q t) (ae K∧p∧∀(b:BL),b.length≤1000+14*f.length→z∧bU 4 l∧∀(a:(Lt×Int)×List Tm×KV),let u:=(f,j,k,m,a.2.2,a.2.1,());a=nF d g e j (3,0,0,D.getD ((7-1-1-1-1-1-1-1) % 5/1) 0+1,[],[],[],()) b l n→Br (!a.1.2==0) (Q (gb ([],a.1.2,d,h,g,e,i,c,u))) (ae K∧0+ac a.1.1.2.2.2.2.1+ac a.1.1.2.2.2.2.2.1+ac a.1.1.2.2.2.2.2.2.1≤1000000000∧Q (gb (hX a.1.1,0,d,h,g,e,i,c.set ((7-1-1-1-1-1-1-1)/5) (D.set ((7-1-1-1-1-1-1-1) % 5/1) K),u))))) (Br (d==1) (Br H (Q t) (ae r∧p∧∀(b:BL),b.length≤1000+14*f.length→z∧bU 4 l∧∀(a:(Lt×Int)×List Tm×KV),let v:=(f,j,k,m,a.2.2,a.2.1,());a=nF d g e j (3,0,0,C.getD ((8-1-1-1-1-1-1-1) % 5/1) 0+1,[],[],[],()) b l n→Br (!a.1.2==0) (Q (gb ([],a.1.2,d,h,g,e,i,c,v))) (ae r∧0+ac a.1.1.2.2.2.2.1+ac a.1.1.2.2.2.2.2.1+ac a.1.1.2.2.2.2.2.2.1≤1000000000∧Q (gb (hX a.1.1,0,d,h,g,e,i,c.set ((8-1-1-1-1-1-1-1)/5) (C.set ((8-1-1-1-1-1-1-1) % 5/1) r),v))))) (Br (d==2) (Br G (Q t) (ae q∧p∧∀(b:BL),b.length≤1000+14*f.length→z∧bU 4 l∧∀(a:(Lt×Int)×List Tm×KV),let w:=(f,j,k,m,a.2.2,a.2.1,());a=nF d g e j (3,0,0,B.getD ((9-1-1-1-1-1-1-1) % 5/1) 0+1,[],[],[],()) b l n→Br (!a.1.2==0) (Q (gb ([],a.1.2,d,h,g,e,i,c,w))) (ae q∧0+ac a.1.1.2.2.2.2.1+ac a.1.1.2.2.2.2.2.1+ac a.1.1.2.2.2.2.2.2.1≤1000000000∧Q (gb (hX a.1.1,0,d,h,g,e,i,c.set ((9-1-1-1-1-1-1-1)/5) (B.set ((9-1-1-1-1-1-1-1) % 5/1) q),w))))) (Br (d==3) (Br N (Q t) (ae O∧p∧∀(b:BL),b.length≤1000+14*f.length→z∧bU 4 l∧∀(a:(Lt×Int)×List Tm×KV),let x:=(f,j,k,m,a.2.2,a.2.1,());a=nF d g e j (3,0,0,F.getD ((10-1-1-1-1-1-1-1) % 5/1) 0+1,[],[],[],()) b l n→Br (!a.1.2==0) (Q (gb ([],a.1.2,d,h,g,e,i,c,x))) (ae O∧0+ac a.1.1.2.2.2.2.1+ac a.1.1.2.2.2.2.2.1+ac a.1.1.2.2.2.2.2.2.1≤1000000000∧Q (gb (hX a.1.1,0,d,h,g,e,i,c.set ((10-1-1-1-1-1-1-1)/5) (F.set ((10-1-1-1-1-1-1-1) % 5/1) O),x))))) (Br (d==4) (Br L (Q t) (ae M∧p∧∀(b:BL),b.length≤1000+14*f.length→z∧bU 4 l∧∀(a:(Lt×Int)×List Tm×KV),let A:=(f,j,k,m,a.2.2,a.2.1,());a=nF d g e j (3,0,0,E.getD ((11-1-1-1-1-1-1-1) % 5/1) 0+1,[],[],[],()) b l n→Br (!a.1.2==0) (Q (gb ([],a.1.2,d,h,g,e,i,c,A))) (ae M∧0+ac a.1.1.2.2.2.2.1+ac a.1.1.2.2.2.2.2.1+ac a.1.1.2.2.2.2.2.2.1≤1000000000∧Q (gb (hX a.1.1,0,d,h,g,e,i,c.set ((11-1-1-1-1-1-1-1)/5) (E.set ((11-1-1-1-1-1-1-1) % 5/1) M),A))))) (False∧True))))))) (by kernel_rfl) (by
 conv=>zeta
 unfold Br;intro c v l n w x A o bk d B m Q ⟨⟨p,q,g,h,C,D,r⟩,s⟩;have a:∀t y,mF 3 t c l n x o B m=y→Q ⟨0,(y.1.1,y.1.2,c,v,l,n,w,y.2.1,A,o,bk,d,y.2.2.2,y.2.2.1,())⟩:=λt y e=>s y ⟨t,e.symm⟩;clear s;unfold mF at a;simp only[ck]at a;have hB:=U' g;refine⟨h,λf=>a [] _ (an (jC f)),λf=>?_⟩;have f:=jX f;simp only[f,if_false]at a;obtain⟨F,G,H,J,K,L,M,N,O,P,i⟩:=vx g;subst i;refine⟨λb=>?_,λE=>⟨λb=>?_,λp=>⟨λb=>?_,λq=>⟨λb=>?_,λg=>⟨λb=>?_,λh=>?_⟩⟩⟩⟩⟩
 case refine_6=>exfalso;simp only[ax,ne_eq]at E p q g h;omega
 all_goals
  have b:=be b;subst b;refine⟨λe=>a [] _ (an (be e)),λe=>?_⟩;refine⟨inB (hB _ _),⟨C,D⟩,λt R=>⟨by repeat' (first|exact True.intro|rfl|apply bQ),r,λz u=>?_⟩⟩;have S:=snE u r;subst u;exact⟨λj=>a t _ (Eq.trans (ag (aA e)) (an (jC j))),λj=>⟨inB (hB _ _),by omega,a t _ (Eq.trans (ag (aA e)) (ag (jX j)))⟩⟩)
def Qn:bu:=(121,[xI])::Qm
theorem V_:KK Qn:=⟨aP.add H9.1 (by kernel_rfl) (bo (Ia)),bg.add H9.2 (bo (λ_=>aR λ_=>⟨_,[],rfl⟩))⟩
def Dy:Ct:=⟨2,⟨[sP 0,(1,false,[.d (.sl ic)])],gk 0⟩,[⟨[],gk 0⟩],λ(l,c,b,e,f,g,h,a,i,bk,_)=>eO (a.length+l.length≤10000000) (λy:List Fk=>y.length≤a.length+l.length) λy=>(c,b,e,f,g,h,y,i,bk,())⟩
def V':cc:=⟨[sP 0,(6,false,[.d (.sl ic)]),sI 7,sI 8],gk 0⟩
def Ib(x:Dy.inp.den)(y:V'.den):Prop:=match x,y with
 |(l,c,m,o,p,q,r,s,t,bk,_),(u,n,i,v,a,b,e,eW,f,g,h,j,_)=>u=l∧n=l.length∧(v,a,b,e,eW,f,h,j)=(c,m,o,p,q,r,t,bk)∧∃k:Nat,i=k∧k≤l.length∧g.length≤s.length+k
def a5r(x:Dy.inp.den):dG:=⟨[(1,bM V' (Ib x) λ(_,n,i,_)=>(n-i).toNat)],[],[],[],0⟩
abbrev Ul(v:Int×BL×BL×Lg×Pg×La×List Fk×KM×Ln×Unit):aN Dy.out:=⟨0,v⟩
def Qo:bu:=(178,[Dy])::Qn
theorem W_:KK Qo:=kA V_ a5r (∀(d:List Fk)(f:Int)(g h:BL)(i:Lg)(j:Pg)(k:La)(l:List Fk)(m:KM)(n:Ln)(Q:aN Dy.out→Prop),let z:=(f,g,h,i,j,k,l,m,n,());(Ct.spec Dy (d,z)).sat Q→Is (Ib (d,z) (d,(↑d.length:Int),0,z))∧∀(e:List Fk)(b a o:Int)(p q:BL)(r:Lg)(s:Pg)(t:La)(c:List Fk)(u:KM)(v:Ln),let x:Prop:=(b-(a+1)).toNat<(b-a).toNat;let y:= !decide (e.getD a.toNat (0,0,())∈c);let w:=(p,q,r,s,t,c,u,v,());Ib (d,z) (e,b,a,o,w)→Br (decide (a<b)) ((0≤a∧a<(↑e.length:Int))∧c.length≤1000000000∧Br y (c.length≤1000000000∧(c.length+1)*16≤140737488355328∧ae (a+1)∧Is (Ib (d,z) (e,b,a+1,o,p,q,r,s,t,c++[e.getD a.toNat (0,0,())],u,v,())∧x)) (ae (a+1)∧Is (Ib (d,z) (e,b,a+1,o,w)∧x))) (Q (Ul (o,w)))) (by kernel_rfl) (by
 conv=>zeta
 unfold Br;intro l c E F G H J K L bk Q ⟨M,g⟩;refine⟨⟨rfl,rfl,rfl,0,rfl,aq _,aC _⟩,?_⟩;rintro h n i N j m o eW p b q r ⟨s,t,f,k,u,O,P⟩;simp only[Prod.mk.injEq]at f;obtain⟨v,w,x,y,z,A,B,C⟩:=f;subst s t u v w x y z A B C;refine⟨λe=>?_,λD=>g b (by omega)⟩;have a:k<h.length:=by simp only[ah]at e;omega
 refine⟨by omega,by omega,λ_=>⟨by omega,by omega,by unfold ae;omega,⟨rfl,rfl,rfl,k+1,rfl,a,by rw[aa,bb];omega⟩,by omega⟩,λ_=>⟨by unfold ae;omega,⟨rfl,rfl,rfl,k+1,rfl,a,by omega⟩,by omega⟩⟩) (l:=λ_=>aR λ_=>⟨[],aq _⟩)
def zP(l:Lt)(lk:Lk)(la:La)(bk:Ln)(ts:List Tm)(m:KV):Int×List Tm×KV:=if l.1≠2 then(if l.2.2.2.1≤xH la l.1 l.2.1 then 16 else 0,ts,m)else iB lk bk ts m
def Mf:Ct:=⟨4,⟨[sP 0,sS 1 4,zf 2,(3,true,[.d A3])],gk 0++kH 4⟩,[⟨[sI 0],gk 0++kI 4 7++[cT]⟩],λ(l,lk,c,f,g,h,i,a,b,j,bk,d,e,m,_)=>eO (2≤l.1∧l.1≤4∧0≤l.2.1∧l.2.1<5∧fh a∧bZ bk∧b.length+1≤10000000∧bU 1 e) (λy:(Int×List Tm×KV)×List Fk=>y.2.length≤b.length+1∧y.1=zP l lk a bk e m) λy=>(y.1.1,c,f,g,h,i,a,y.2,j,bk,d,y.1.2.2,y.1.2.1,())⟩
abbrev rI(v:Int×Int×BL×BL×Lg×Pg×La×List Fk×KM×Ln×Int×KV×List Tm×Unit):aN Mf.out:=⟨0,v⟩
def Qp:bu:=(164,[Mf])::Qo
theorem W':KK Qp:=kA W_ (cv Mf 0) (∀(a:Lt)(o:Lk)(g:Int)(h i:BL)(j:Lg)(k:Pg)(c:La)(e:List Fk)(l:KM)(d:Ln)(m:Int)(f:List Tm)(n:KV)(Q:aN Mf.out→Prop),let s:Prop:=(a.2.1==4)=false→False∧True;let u:Prop:=a.2.2.2.1≤(c.getD ((9-1-1-1-1-1-1-1)/5) (ak 5 0)).getD ((9-1-1-1-1-1-1-1) % 5/1) 0;let v:Prop:=a.2.2.2.1≤(c.getD ((8-1-1-1-1-1-1-1)/5) (ak 5 0)).getD ((8-1-1-1-1-1-1-1) % 5/1) 0;let w:Prop:=a.2.2.2.1≤(c.getD ((7-1-1-1-1-1-1-1)/5) (ak 5 0)).getD ((7-1-1-1-1-1-1-1) % 5/1) 0;let x:Prop:=a.2.2.2.1≤(c.getD ((16-1-1-1-1-1-1-1)/5) (ak 5 0)).getD ((16-1-1-1-1-1-1-1) % 5/1) 0;let A:Prop:=a.2.2.2.1≤(c.getD ((15-1-1-1-1-1-1-1)/5) (ak 5 0)).getD ((15-1-1-1-1-1-1-1) % 5/1) 0;let B:Prop:=a.2.2.2.1≤(c.getD ((14-1-1-1-1-1-1-1)/5) (ak 5 0)).getD ((14-1-1-1-1-1-1-1) % 5/1) 0;let C:Prop:=a.2.2.2.1≤(c.getD ((13-1-1-1-1-1-1-1)/5) (ak 5 0)).getD ((13-1-1-1-1-1-1-1) % 5/1) 0;let D:Prop:=a.2.2.2.1≤(c.getD ((12-1-1-1-1-1-1-1)/5) (ak 5 0)).getD ((12-1-1-1-1-1-1-1) % 5/1) 0;let E:Prop:=a.2.2.2.1≤(c.getD ((11-1-1-1-1-1-1-1)/5) (ak 5 0)).getD ((11-1-1-1-1-1-1-1) % 5/1) 0;let F:Prop:=a.2.2.2.1≤(c.getD ((10-1-1-1-1-1-1-1)/5) (ak 5 0)).getD ((10-1-1-1-1-1-1-1) % 5/1) 0;let z:=(g,h,i,j,k,c,e,l,d,m,n,f,());let q:=rI (0,z);let r:=rI (16,z);(Tr.need (2≤a.1∧a.1≤4∧0≤a.2.1∧a.2.1<5∧fh c∧bZ d∧e.length+1≤10000000∧bU 1 f) (Tr.all ((Int×List Tm×KV)×List Fk) (λy=>y.2.length≤e.length+1∧y.1=zP a o c d f n) λy=>Tr.leaf (rI (y.1.1,g,h,i,j,k,c,y.2,l,d,m,y.1.2.2,y.1.2.1,())))).sat Q→Br (!a.1==2) (ae (a.1-3)∧Br (a.1-(3:Int)==0) (Br (a.2.1==0) (Br (decide w) (Q r) (Q q)) (Br (a.2.1==1) (Br (decide v) (Q r) (Q q)) (Br (a.2.1==2) (Br (decide u) (Q r) (Q q)) (Br (a.2.1==3) (Br (decide F) (Q r) (Q q)) (((a.2.1==4)=true→Br (decide E) (Q r) (Q q))∧s))))) (Br (a.1-(3:Int)==1) (Br (a.2.1==0) (Br (decide D) (Q r) (Q q)) (Br (a.2.1==1) (Br (decide C) (Q r) (Q q)) (Br (a.2.1==2) (Br (decide B) (Q r) (Q q)) (Br (a.2.1==3) (Br (decide A) (Q r) (Q q)) (((a.2.1==4)=true→Br (decide x) (Q r) (Q q))∧s))))) (False∧True))) ((f.length≤4294967296∧bZ d)∧∀(b:Int×List Tm×KV),let t:=(l,d,m,b.2.2,b.2.1,());b=iB o d f n→Br (b.1==18) (e.length+1≤10000000∧∀(p:List Fk),p.length≤e.length+1→Q (rI (b.1,g,h,i,j,k,c,p,t))) (Q (rI (b.1,g,h,i,j,k,c,e,t))))) (by kernel_rfl) (by
 conv=>zeta
 unfold Br;rintro⟨k,a,e,n,p,b,s,⟨⟩⟩ lk c G H J K E q L bk d i m Q ⟨⟨R,S,U,W,M,N,O,P⟩,F⟩;dsimp only at*;have j:∀(y:Int×List Tm×KV)(f:List Fk),f.length≤q.length+1→zP (k,a,e,n,p,b,s,()) lk E bk i m=y→Q ⟨0,(y.1,c,G,H,J,K,E,f,L,bk,d,y.2.2,y.2.1,())⟩:=λy f t e=>F (y,f) ⟨t,e.symm⟩;clear F;unfold zP at j;obtain⟨X,Y,a2,a3,a4,b0,b1,b2,b3,b4,u⟩:=vx M;subst u;refine⟨λr=>⟨by unfold ae;omega,λo=>?_,λo=>⟨λv=>?_,λv=>?_⟩⟩,λr=>?_⟩
 case refine_3=>exfalso;have:=jC r;simp only[ax,ne_eq]at o v;omega
 case refine_4=>
  have r:=jX r;refine⟨⟨P.le,N⟩,λx g=>⟨λ_=>⟨O,λf t=>j x f t ?_⟩,λ_=>j x q (by omega) ?_⟩⟩
  all_goals rw[ag r,g]
 case refine_1=>
  have o:k=3:=by have:=be o;omega
  subst o;refine⟨λg=>?_,λw=>⟨λg=>?_,λA=>⟨λg=>?_,λB=>⟨λg=>?_,λC=>⟨λg=>?_,λD=>?_⟩⟩⟩⟩⟩
  case refine_6=>exfalso;simp only[ax,ne_eq]at w A B C D;omega
  all_goals
   have g:=be g;subst g;exact⟨λh=>j (16,i,m) q (by omega) (Eq.trans (an (show(3:Int)≠2 by decide)) (aI (λz=>(z,i,m)) (an (ai h)))),λh=>j (0,i,m) q (by omega) (Eq.trans (an (show(3:Int)≠2 by decide)) (aI (λz=>(z,i,m)) (ag (am h))))⟩
 case refine_2=>
  have o:k=4:=by have:=be v;omega
  subst o;refine⟨λg=>?_,λw=>⟨λg=>?_,λA=>⟨λg=>?_,λB=>⟨λg=>?_,λC=>⟨λg=>?_,λD=>?_⟩⟩⟩⟩⟩
  case refine_6=>exfalso;simp only[ax,ne_eq]at w A B C D;omega
  all_goals
   have g:=be g;subst g;exact⟨λh=>j (16,i,m) q (by omega) (Eq.trans (an (show(4:Int)≠2 by decide)) (aI (λz=>(z,i,m)) (an (ai h)))),λh=>j (0,i,m) q (by omega) (Eq.trans (an (show(4:Int)≠2 by decide)) (aI (λz=>(z,i,m)) (ag (am h))))⟩) (l:=λ_=>aR λ_=>⟨(_,[]),aq _,rfl⟩)
def D7(lk:Lk)(a:Pg)(bk:Ln)(c:Int×Pg)(ts:List Tm)(m:KV):Int×Pg×Ln×List Tm×KV:=
 if c.1≠0 then(c.1,a,bk,ts,m)
 else
  let t:=nK lk bk ts m
  if t.1≠0 then(t.1,a,t.2.1,t.2.2)else(0,c.2,t.2.1,t.2.2)
def Um(lk:Lk)(a:Pg)(bk:Ln)(b:BL)(ts:List Tm)(m:KV)(y:Int×Pg×Ln×List Tm×KV):Prop:=
 (∃c,y=D7 lk a bk c ts m)∧cb y.2.1∧(a=iX→b=ej [iC]→lk.1=0→y=D7 lk a bk (0,eW) ts m)
def Ic:Ct:=⟨4,⟨[sP 0,sS 1 4,(2,true,[.d A3]),(3,false,[.ptr 7 0])],gk 0++kH 4++rH⟩,[⟨[sI 0],gk 0++kI 4 8++rH++[cT]⟩],λ(lk,c,i,j,l,f,n,o,p,bk,d,g,m,b,a,h,e,_)=>eO (bP b a∧a=0∧h=true∧e=0∧cb f∧bZ bk∧bU 1 g) (λy:(Int×Pg×Ln×List Tm×KV)×Int×Int=>Um lk f bk b g m y.1) λy=>(y.1.1,c,i,j,l,y.1.2.1,n,o,p,y.1.2.2.1,d,y.1.2.2.2.2,b,y.2.1,h,y.2.2,y.1.2.2.2.1,())⟩
theorem Ie(lk:Lk)(a:Pg)(bk:Ln)(b:BL)(ts:List Tm)(m:KV)(h:cb a):∃y,Um lk a bk b ts m y:=by
 refine⟨D7 lk a bk (0,eW) ts m,⟨_,rfl⟩,?_,λ_ _ _=>rfl⟩;unfold D7;rw[ag (by simp)];dsimp only;split
 ·exact h
 ·exact zB
abbrev rJ(v:Int×Int×BL×BL×Lg×Pg×La×List Fk×KM×Ln×Int×KV×BL×Int×Bool×Int×List Tm×Unit):aN Ic.out:=⟨0,v⟩
def Qq:bu:=(179,[Ic])::Qp
theorem X_:KK Qq:=kA W' (cv Ic 0) (∀(r:Lk)(f:Int)(g h:BL)(i:Lg)(e:Pg)(j:La)(k:List Fk)(l:KM)(m:Ln)(n:Int)(o:List Tm)(q:KV)(a:BL)(t:Int)(d:Bool)(u:Int)(Q:aN Ic.out→Prop),(Ct.spec Ic (r,f,g,h,i,e,j,k,l,m,n,o,q,a,t,d,u,())).sat Q→(bP a t∧(0:Int)≤64∧(64:Int)≤4096)∧∀(b:List Op×Int×Int),let w:= !dM a b.2.1 d b.2.2==0;let z:=(f,g,h,i,e,j,k,l,m,n,q,a,b.2.1,d,b.2.2,o,());zl a t d u 64 b→bP a b.2.1∧Br w (Q (rJ (dM a b.2.1 d b.2.2,z))) (b.1.length≤1000000∧Br (!H1 b.1 r.1) (Q (rJ (5,z))) (cb e∧∀(s:Pg),iL e s→(cb s∧b.1.length≤1000000)∧∀(p:Int×Pg),xC s b.1 p→Br (!p.1==0) (Q (rJ (p.1,z))) ((o.length≤4294967295∧bZ m)∧∀(c:Int×Ln×List Tm×KV),let v:=(j,k,l,c.2.1,n,c.2.2.2,a,b.2.1,d,b.2.2,c.2.2.1,());c=nK r m o q→Br (!c.1==0) (Q (rJ (c.1,f,g,h,i,e,v))) (Q (rJ (0,f,g,h,i,p.2,v))))))) (by kernel_rfl) (by
 conv=>zeta
 unfold Br;intro lk c L M N i O P R bk d j m b a S e Q ⟨⟨U,W,H,X,C,Y,h7⟩,J⟩;have u:∀(y:Int×Pg×Ln×List Tm×KV)(D E:Int),Um lk i bk b j m y→Q ⟨0,(y.1,c,L,M,N,y.2.1,O,P,R,y.2.2.1,d,y.2.2.2.2,b,D,S,E,y.2.2.2.1,())⟩:=λy D E h=>J (y,D,E) h;clear J;refine⟨⟨U,by omega,by omega⟩,λg A=>?_⟩;have f:b=ej [iC]→g=([iC],(b.length:Int),0):=λhb=>A.2.2.1 hb W H X rfl
 have refuse:∀r:Int,r≠0→(i=iX→b=ej [iC]→lk.1=0→False)→Um lk i bk b j m (r,i,bk,j,m):=by
  intro r hr hn;refine⟨⟨(r,i),?_⟩,C,λa b c=>(hn a b c).elim⟩;unfold D7;rw[an hr]
 refine⟨A.1,λF=>u (_,i,bk,j,m) _ _ (refuse _ (jC F) λv n B=>jC F ?_),λF=>⟨by have:=A.2.1;omega,λw=>u (5,i,bk,j,m) _ _ (refuse _ (by decide) λv n B=>?_),λw=>⟨C,λp1 o=>⟨⟨o.1,by have:=A.2.1;omega⟩,λx p=>⟨λq=>u (_,i,bk,j,m) _ _ (refuse _ (jC q) λv n B=>?_),λq=>⟨⟨by have:=h7.2;omega,Y⟩,λt ht=>?_⟩⟩⟩⟩⟩⟩
 ·rw[f n,H];unfold dM;simp
 ·rw[f n,B]at w;have w:(!H1 [iC] 0)=true:=w;revert w;decide
 ·have z:=o.2.1 v;have:=p.2.1 z (by rw[f n]);rw[this]at q;revert q;decide
 ·have q:=jX q
  have K:D7 lk i bk x j m=if t.1≠0 then(t.1,i,t.2.1,t.2.2)else(0,x.2,t.2.1,t.2.2):=by
   unfold D7;rw[ag q,←ht]
  have s:∀y,y=D7 lk i bk x j m→cb y.2.1→Um lk i bk b j m y:=by
   intro y s z;refine⟨⟨x,s⟩,z,λv n B=>?_⟩;have z:=o.2.1 v;rw[s,p.2.1 z (by rw[f n])]
  refine⟨λG=>u (t.1,i,t.2.1,t.2.2) _ _ (s _ (by rw[K,an (jC G)]) C),λG=>u (0,x.2,t.2.1,t.2.2) _ _ (s _ (by rw[K,ag (jX G)]) p.1)⟩) (l:=λ_=>aR λh=>by obtain⟨y,s⟩:=Ie _ _ _ _ _ _ h.2.2.2.2.1;exact⟨(y,0,0),s⟩)
abbrev If:Ty:= .pr .i64 (.pr .i64 (.pr .i64 (.pr .i64 (.pr .bl (.pr .bl (.pr (.sl ic) .un))))))
abbrev Nw:=If.den
def jh:Nw:=(0,0,0,0,false,false,[],())
def D8(e:Et)(c:Int)(se:BL):List Mb→KM→List Tm→KV→Int×KM×List Tm×KV
 |[],b,a,m=>(0,b,a,m)
 |p::r,b,a,m=>if p.1≠c then D8 e c se r b a m else
  if(tV e c se a m).1.2≠0 then((tV e c se a m).1.2,b,(tV e c se a m).2)else D8 e c se r (cF (kt:= .i64) e.1 (tV e c se a m).1.1 b) (tV e c se a m).2.1 (tV e c se a m).2.2
def rK(c:Int)(se:BL)(lg:Lg)(km:KM)(e:Et)(ts:List Tm)(m:KV):(Nw×Int)×Lg×KM×List Tm×KV:=
 lk se (let t:=jU lg e ts m
 if t.1≠0 then((jh,t.1),lg,km,t.2.2)else
  let r:=D8 e c se e.2.2.1 km t.2.2.1 t.2.2.2
  if r.1≠0 then((jh,r.1),lg,r.2)else(((1,0,e.1,e.1,false,false,[],()),0),t.2.1,r.2))
def xJ(e:Et):Prop:=hK e∧(dL e).length≤100000000∧(fP e).length≤100000000∧aB e.2.2.2.2.2.2.1∧rr e.2.2.1∧(∀b∈e.2.2.2.2.2.1,aB b)∧aB e.2.2.2.2.1
theorem keS{e:Et}{c:Int}{se:BL}{k:Nat}{ts:List Tm}(m:KV)(a:aB se)(b:aB e.2.2.2.2.1)(h:bU (k+2) ts):bU k (tV e c se ts m).2.1:=by
 have f:=(V2 (k:=k) m e.1 c a b h).2;have g:=h.mono (j:=k) (by omega);unfold tV;rw[ck]
 repeat' split
 all_goals first|exact g|exact f
theorem tkS{e:Et}{lg:Lg}{k:Nat}{ts:List Tm}(m:KV)(c:(dL e).length≤100000000)(h:bU (k+1) ts):bU k (jU lg e ts m).2.2.1:=by
 have a:=ol (k:=k) m h (jT (k:=104) (by decide) (by decide) (show aB (dL e)by unfold aB;omega));have b:=h.mono (j:=k) (by omega);unfold jU;rw[ck]
 repeat' split
 all_goals first|exact b|exact a
theorem tk5{e:Et}{lg:Lg}{ts:List Tm}{m:KV}(h:(jU lg e ts m).1=0):e.2.2.1.length≤5:=by
 cases g:lD e with
 |true=>exact(gw (kK g).2.2.2.1).2.1
 |false=>unfold jU at h;rw[ck,an g]at h;cases h
def Dz:Ct:=⟨3,⟨[sP 0,sS 1 4,(2,true,[.d r6])],gk 0++kH 4⟩,[⟨[(0,true,[.d If]),sI 1],gk 0++kI 4 7++[cT]⟩],λ(e,c,b,g,a,h,i,j,l,bk,d,f,m,_)=>du (xJ e∧aB b∧aB a.1∧cu a.2.1 a.2.2.1∧a.2.1.length≤100000∧bU 20 f) (rK c b a l e f m) λy=>(y.1.1,y.1.2,c,b,g,y.2.1,h,i,j,y.2.2.1,bk,d,y.2.2.2.2,y.2.2.2.1,())⟩
def X':cc:=⟨[sP 0,sS 1 4,(5,false,[.ptr 7 0]),(6,false,[.ptr 8 0]),(8,false,[.ptr 9 0]),(28,false,[.d (.sl il)]),sI 29,sI 30],gk 0++kI 4 10++[some (.cells [.d r6]),some (.cells [.d If])]++r7++[cT]⟩
def Ig(x:Dz.inp.den)(y:X'.den):Prop:=match x,y with
 |(e,c,g,v,a,w,z,A,B,bk,d,f,m,_),(l,n,i,C,h,j,o,eW,p,q,r,s,D,E,F,G,H,t,u,b,_)=>(C,h,j,o,eW,p,q,s,D,F,G)=(c,g,v,a,w,z,A,bk,d,e,jh)∧l=e.2.2.1∧n=l.length∧
  (jU a e f m).1=0∧(H,t,u,())=(jU a e f m).2.1∧∃k:Nat,i=k∧k≤l.length∧bU (2*(5-k)) b∧D8 e c g (l.drop k) r b E=D8 e c g l B (jU a e f m).2.2.1 (jU a e f m).2.2.2
def a5s(x:Dz.inp.den):dG:=⟨[(6,bM X' (Ig x) λ(_,n,i,_)=>(n-i).toNat)],[],[],[],0⟩
abbrev zQ(v:Nw×Int×Int×BL×BL×Lg×Pg×La×List Fk×KM×Ln×Int×KV×List Tm×Unit):aN Dz.out:=⟨0,v⟩
def Qr:bu:=(127,[Dz])::Qq
theorem Ih:KK Qr:=kA X_ a5s (∀(d:Et)(h:Int)(i j:BL)(c:Lg)(k:Pg)(l:La)(m:List Fk)(n:KM)(o:Ln)(p:Int)(q:List Tm)(s:KV)(Q:aN Dz.out→Prop),let x:=(d,h,i,j,c,k,l,m,n,o,p,q,s,());(Ct.spec Dz x).sat Q→cu c.2.1 c.2.2.1∧(aB c.1∧hK d∧ac (dL d)≤100000000∧aB d.2.2.2.2.2.2.1∧rr d.2.2.1∧cu c.2.1 c.2.2.1∧ac c.2.1≤100000∧bU 1 q)∧∀(b:Int×Lg×List Tm×KV),b=jU c d q s→Br (!b.1==0) (Q (zQ ((0,0,0,0,false,false,[],()),b.1,h,i,j,c,k,l,m,n,o,p,b.2.2.2,b.2.2.1,()))) (Is (Ig x (d.2.2.1,(↑(ac d.2.2.1):Int),0,h,i,j,c,k,l,m,n,o,p,b.2.2.2,d,(0,0,0,0,false,false,[],()),b.2.1.1,b.2.1.2.1,b.2.1.2.2.1,b.2.2.1,()))∧∀(t:List Mb)(f a g:Int)(r u:BL)(D:Lg)(v:Pg)(w:La)(y:List Fk)(z:KM)(A:Ln)(B:Int)(E:KV)(e:Et)(J:Nw)(F:BL)(G:List Et)(H:List BL)(C:List Tm),let K:Prop:=(f-(a+1)).toNat<(f-a).toNat;let M:= !(t.getD a.toNat (0,[],[],())).1==g;let L:=(g,r,u,D,v,w,y,z,A,B,E,e,J,F,G,H,C,());Ig x (t,f,a,L)→Br (decide (a<f)) ((0≤a∧a<(↑t.length:Int))∧Br M (ae (a+1)∧Is (Ig x (t,f,a+1,L)∧K)) ((aB r∧hK e∧ac (fP e)≤100000000∧(∀(b:BL),b∈e.2.2.2.2.2.1→aB b)∧aB e.2.2.2.2.1∧bU 2 C)∧∀(b:(BL×Int)×List Tm×KV),b=tV e g r C E→Br (!b.1.2==0) (Q (zQ ((0,0,0,0,false,false,[],()),b.1.2,g,r,u,D,v,w,y,z,A,B,b.2.2,b.2.1,()))) (ae (a+1)∧Is (Ig x (t,f,a+1,g,r,u,D,v,w,y,dy Ty.i64 e.1 b.1.1 z,A,B,b.2.2,e,J,F,G,H,b.2.1,())∧K)))) (Q (zQ ((1,0,e.1,e.1,false,false,[],()),0,g,r,u,(F,G,H,()),v,w,y,z,A,B,E,C,()))))) (by kernel_rfl) (by
 conv=>zeta
 unfold Br;intro e c J sg r pg la fk K bk d L m Q ⟨⟨h1,M,h3,N,h5,O⟩,P⟩;have g:∀y,rK c J r K e L m=y→Q ⟨0,(y.1.1,y.1.2,c,J,sg,y.2.1,pg,la,fk,y.2.2.1,bk,d,y.2.2.2.2,y.2.2.2.1,())⟩:=λy e=>P y e.symm;clear P;obtain⟨R,S,p3,p4,p5,p6,U⟩:=h1;unfold rK at g;simp only[ck]at g;refine⟨N,⟨h3,R,S,p4,p5,N,h5,O.mono (by omega)⟩,λt b=>?_⟩;have st:=tkS (lg:=r) (k:=10) m S (O.mono (by omega));have s:=tk5 (e:=e) (lg:=r) (ts:=L) (m:=m);refine⟨λf=>g ((jh,t.1),r,K,t.2.2) (by rw[←b];exact an (jC f)),λf=>?_⟩;have f:t.1=0:=aD.1 (jX f);rw[←b]at g st s;have s:=s f;simp only[ne_eq,f,not_true_eq_false,if_false]at g;refine⟨⟨rfl,rfl,rfl,by rw[←b];exact f,by rw[←b],0,rfl,aq _,st,by rw[←b];rfl⟩,?_⟩;rintro l n i c1 w a0 x eW a2 a3 p a4 d1 W A nw a1 a5 a6 q ⟨X,B,g2,-,u,k,g5,hk,hs,a⟩;simp only[Prod.mk.injEq]at X;obtain⟨f1,f2,f3,f4,f5,f6,f7,f8,f9,C,D⟩:=X;subst f1 f2 f3 f4 f5 f6 f7 f8 f9 C D g2 g5;rw[←b]at u a;rw[←B]at g s;refine⟨λE=>?_,λF=>?_⟩
 ·have j:k<l.length:=by simp only[ah]at E;omega
  have ek:((k:Int).toNat)=k:=by omega
  have o:bU (2*(5-(k+1))+2) q:=hs.mono (by omega);rw[cW (z:=((0,[],[],()):Mb)) j]at a;rw[ek];generalize l.getD k (0,[],[],())=H at*;simp only[D8]at a;refine⟨by omega,λG=>⟨by unfold ae;omega,⟨rfl,B,rfl,by rw[←b];exact f,by rw[←b];exact u,k+1,rfl,j,o.mono (by omega),?_⟩,by omega⟩,λG=>⟨⟨M,R,p3,p6,U,o.mono (by omega)⟩,λz Y=>?_⟩⟩
  ·rw[an (jC G)]at a;rw[←b];exact a
  ·rw[ag (jX G),←Y]at a;have sz:=keS (e:=A) (c:=c1) (se:=w) W M U o;rw[←Y]at sz;refine⟨λv=>g ((jh,z.1.2),x,p,z.2) ?_,λv=>⟨by unfold ae;omega,⟨rfl,B,rfl,by rw[←b];exact f,by rw[←b];exact u,k+1,rfl,j,sz,?_⟩,by omega⟩⟩
   ·rw[an (jC v)]at a;rw[←a];exact an (jC v)
   ·rw[ag (jX v)]at a;rw[←b];exact a
 ·have:l.drop k=[]:=bw (by simp only[aj]at F;omega);rw[this]at a;simp only[D8]at a;have:=g (((1,0,A.1,A.1,false,false,[],()),0),t.2.1,p,q,W) (by rw[←a];exact ag (λh=>h rfl));rw[←u]at this;exact this) (l:=λ_=>bm)
theorem Ii(x:xI.inp.den):Live (xI.spec x):=aR λ_=>⟨_,[],rfl⟩
def Ij:Ct:=⟨4,⟨[sP 0,sS 1 4,(2,false,[.k (.i64 4)]),N6 3 125 7],gk 0++kH 4++toB 0⟩,[⟨[(0,false,[.d tB]),sI 1],gk 0++kI 4 8++toB 0++[cT]⟩],λ(c,i,b,a,e,f,j,g,bk,d,h,m,_)=>eO (0≤c∧c<5∧fh f∧cu a.2.1 a.2.2.1∧bZ bk∧cb e∧bU 4 h) (λy=>∃l:List Op,y=mF 4 (lC bk [] 5++ej l) c b a f g h m) λy=>(y.1.1,y.1.2,c,i,b,a,e,y.2.1,j,g,bk,d,y.2.2.2,y.2.2.1,())⟩
abbrev gd(v:BL×Int×Int×BL×BL×Lg×Pg×La×List Fk×KM×Ln×Int×KV×List Tm×Unit):aN Ij.out:=⟨0,v⟩
theorem Un:bO Tryz.prog 121 Ij:=kC Ih (cv Ij 0) (∀(c:Int)(i f:BL)(e:Lg)(g:Pg)(d:La)(j:List Fk)(k:KM)(h:Ln)(m:Int)(l:List Tm)(n:KV)(Q:aN Ij.out→Prop),let s:=(c,i,f,e,g,d,j,k,h,m,n,l,());let p:Prop:=bZ h∧cb g;let t:=gd ([],14,s);let B:=d.getD ((16-1-1-1-1-1-1-1)/5) (ak 5 0);let G:=B.getD ((16-1-1-1-1-1-1-1) % 5/1) (0:Int)==1048576;let q:=B.getD ((16-1-1-1-1-1-1-1) % 5/1) 0+1;let C:=d.getD ((15-1-1-1-1-1-1-1)/5) (ak 5 0);let H:=C.getD ((15-1-1-1-1-1-1-1) % 5/1) (0:Int)==1048576;let r:=C.getD ((15-1-1-1-1-1-1-1) % 5/1) 0+1;let D:=d.getD ((14-1-1-1-1-1-1-1)/5) (ak 5 0);let J:=D.getD ((14-1-1-1-1-1-1-1) % 5/1) (0:Int)==1048576;let K:=D.getD ((14-1-1-1-1-1-1-1) % 5/1) 0+1;let E:=d.getD ((13-1-1-1-1-1-1-1)/5) (ak 5 0);let L:=E.getD ((13-1-1-1-1-1-1-1) % 5/1) (0:Int)==1048576;let M:=E.getD ((13-1-1-1-1-1-1-1) % 5/1) 0+1;let F:=d.getD ((12-1-1-1-1-1-1-1)/5) (ak 5 0);let N:=F.getD ((12-1-1-1-1-1-1-1) % 5/1) (0:Int)==1048576;let O:=F.getD ((12-1-1-1-1-1-1-1) % 5/1) 0+1;let z:Prop:=Ch.cells [I.d Ty.i64 c,I.d Ty.u8.sl i,I.d Ty.u8.sl f,I.pv (Ty.u8.sl.pr ((Ty.i64.pr (Ty.u8.sl.pr ((Ty.i64.pr (Ty.u8.sl.pr (Ty.u8.sl.pr Ty.un))).sl.pr ((Ty.i64.pr (Ty.i64.pr Ty.un)).sl.pr (Ty.u8.sl.pr (Ty.u8.sl.sl.pr (Ty.u8.sl.pr Ty.un))))))).sl.pr (Ty.u8.sl.sl.pr Ty.un))) e,I.mp 1,I.ptr 2 0,I.pv (((Ty.i64.pr (Ty.i64.pr Ty.un)).fm (Ty.i64.pr (Ty.i64.pr (Ty.i64.pr (Ty.i64.pr (Ty.bl.pr (Ty.i32.pr Ty.un))))))).pr (((Ty.i64.pr (Ty.i64.pr Ty.un)).fm Ty.i64).pr ((Ty.i64.pr (Ty.i64.pr (Ty.i64.pr (Ty.i64.pr (Ty.bl.pr (Ty.i32.pr Ty.un)))))).sl.pr ((((Ty.i64.pr (Ty.i64.pr Ty.un)).fm (Ty.i64.pr (Ty.i64.pr (Ty.i32.pr (Ty.bl.pr ((Ty.ar 2 (Ty.i64.pr (Ty.i64.pr Ty.un)).sl).pr Ty.un)))))).pr (Ty.i64.pr Ty.un)).pf.pr (((Ty.i64.pr (Ty.i64.pr (Ty.i64.pr (Ty.i64.pr (Ty.bl.pr (Ty.i64.pr (Ty.i64.pr (Ty.bl.pr (Ty.i64.pr (Ty.i64.pr Ty.un)))))))))).sl.pr Ty.un).pf.pr Ty.un))))) g,I.d (Ty.ar 2 (Ty.ar 5 Ty.i64)) d,I.d (Ty.i64.pr (Ty.i64.pr Ty.un)).sl j]=Ch.cells [I.d Ty.i64 c,I.d Ty.u8.sl i,I.d Ty.u8.sl f,I.pv (Ty.u8.sl.pr ((Ty.i64.pr (Ty.u8.sl.pr ((Ty.i64.pr (Ty.u8.sl.pr (Ty.u8.sl.pr Ty.un))).sl.pr ((Ty.i64.pr (Ty.i64.pr Ty.un)).sl.pr (Ty.u8.sl.pr (Ty.u8.sl.sl.pr (Ty.u8.sl.pr Ty.un))))))).sl.pr (Ty.u8.sl.sl.pr Ty.un))) e,I.mp 1,I.ptr 2 0,I.pv (((Ty.i64.pr (Ty.i64.pr Ty.un)).fm (Ty.i64.pr (Ty.i64.pr (Ty.i64.pr (Ty.i64.pr (Ty.bl.pr (Ty.i32.pr Ty.un))))))).pr (((Ty.i64.pr (Ty.i64.pr Ty.un)).fm Ty.i64).pr ((Ty.i64.pr (Ty.i64.pr (Ty.i64.pr (Ty.i64.pr (Ty.bl.pr (Ty.i32.pr Ty.un)))))).sl.pr ((((Ty.i64.pr (Ty.i64.pr Ty.un)).fm (Ty.i64.pr (Ty.i64.pr (Ty.i32.pr (Ty.bl.pr ((Ty.ar 2 (Ty.i64.pr (Ty.i64.pr Ty.un)).sl).pr Ty.un)))))).pr (Ty.i64.pr Ty.un)).pf.pr (((Ty.i64.pr (Ty.i64.pr (Ty.i64.pr (Ty.i64.pr (Ty.bl.pr (Ty.i64.pr (Ty.i64.pr (Ty.bl.pr (Ty.i64.pr (Ty.i64.pr Ty.un)))))))))).sl.pr Ty.un).pf.pr Ty.un))))) g,I.d (Ty.ar 2 (Ty.ar 5 Ty.i64)) d,I.d (Ty.i64.pr (Ty.i64.pr Ty.un)).sl j]∧True;(Tr.need (0≤c∧c<5∧fh d∧cu e.2.1 e.2.2.1∧bZ h∧cb g∧bU 4 l) (Tr.all ((BL×Int)×La×List Tm×KV) (λy=>∃o,y=mF 4 (lC h [] 5++ej o) c f e d k l n) λy=>Tr.leaf (gd (y.1.1,y.1.2,c,i,f,e,g,y.2.1,j,k,h,m,y.2.2.2,y.2.2.1,())))).sat Q→cu e.2.1 e.2.2.1∧Br (!mE c e==0) (Q (gd ([],mE c e,s))) (Br (c==0) (Br N (Q t) (ae O∧p∧∀(b:BL),(∃c,c.length≤9000∧b=lC h [] 5++ej c)→z∧bU 4 l∧∀(a:(Lt×Int)×List Tm×KV),let u:=(j,k,h,m,a.2.2,a.2.1,());a=nF c f e k (4,0,0,F.getD ((12-1-1-1-1-1-1-1) % 5/1) 0+1,[],[],[],()) b l n→Br (!a.1.2==0) (Q (gd ([],a.1.2,c,i,f,e,g,d,u))) (ae O∧0+ac a.1.1.2.2.2.2.1+ac a.1.1.2.2.2.2.2.1+ac a.1.1.2.2.2.2.2.2.1≤1000000000∧Q (gd (hX a.1.1,0,c,i,f,e,g,d.set ((12-1-1-1-1-1-1-1)/5) (F.set ((12-1-1-1-1-1-1-1) % 5/1) O),u))))) (Br (c==1) (Br L (Q t) (ae M∧p∧∀(b:BL),(∃c,c.length≤9000∧b=lC h [] 5++ej c)→z∧bU 4 l∧∀(a:(Lt×Int)×List Tm×KV),let v:=(j,k,h,m,a.2.2,a.2.1,());a=nF c f e k (4,0,0,E.getD ((13-1-1-1-1-1-1-1) % 5/1) 0+1,[],[],[],()) b l n→Br (!a.1.2==0) (Q (gd ([],a.1.2,c,i,f,e,g,d,v))) (ae M∧0+ac a.1.1.2.2.2.2.1+ac a.1.1.2.2.2.2.2.1+ac a.1.1.2.2.2.2.2.2.1≤1000000000∧Q (gd (hX a.1.1,0,c,i,f,e,g,d.set ((13-1-1-1-1-1-1-1)/5) (E.set ((13-1-1-1-1-1-1-1) % 5/1) M),v))))) (Br (c==2) (Br J (Q t) (ae K∧p∧∀(b:BL),(∃c,c.length≤9000∧b=lC h [] 5++ej c)→z∧bU 4 l∧∀(a:(Lt×Int)×List Tm×KV),let w:=(j,k,h,m,a.2.2,a.2.1,());a=nF c f e k (4,0,0,D.getD ((14-1-1-1-1-1-1-1) % 5/1) 0+1,[],[],[],()) b l n→Br (!a.1.2==0) (Q (gd ([],a.1.2,c,i,f,e,g,d,w))) (ae K∧0+ac a.1.1.2.2.2.2.1+ac a.1.1.2.2.2.2.2.1+ac a.1.1.2.2.2.2.2.2.1≤1000000000∧Q (gd (hX a.1.1,0,c,i,f,e,g,d.set ((14-1-1-1-1-1-1-1)/5) (D.set ((14-1-1-1-1-1-1-1) % 5/1) K),w))))) (Br (c==3) (Br H (Q t) (ae r∧p∧∀(b:BL),(∃c,c.length≤9000∧b=lC h [] 5++ej c)→z∧bU 4 l∧∀(a:(Lt×Int)×List Tm×KV),let x:=(j,k,h,m,a.2.2,a.2.1,());a=nF c f e k (4,0,0,C.getD ((15-1-1-1-1-1-1-1) % 5/1) 0+1,[],[],[],()) b l n→Br (!a.1.2==0) (Q (gd ([],a.1.2,c,i,f,e,g,d,x))) (ae r∧0+ac a.1.1.2.2.2.2.1+ac a.1.1.2.2.2.2.2.1+ac a.1.1.2.2.2.2.2.2.1≤1000000000∧Q (gd (hX a.1.1,0,c,i,f,e,g,d.set ((15-1-1-1-1-1-1-1)/5) (C.set ((15-1-1-1-1-1-1-1) % 5/1) r),x))))) (Br (c==4) (Br G (Q t) (ae q∧p∧∀(b:BL),(∃c,c.length≤9000∧b=lC h [] 5++ej c)→z∧bU 4 l∧∀(a:(Lt×Int)×List Tm×KV),let A:=(j,k,h,m,a.2.2,a.2.1,());a=nF c f e k (4,0,0,B.getD ((16-1-1-1-1-1-1-1) % 5/1) 0+1,[],[],[],()) b l n→Br (!a.1.2==0) (Q (gd ([],a.1.2,c,i,f,e,g,d,A))) (ae q∧0+ac a.1.1.2.2.2.2.1+ac a.1.1.2.2.2.2.2.1+ac a.1.1.2.2.2.2.2.2.1≤1000000000∧Q (gd (hX a.1.1,0,c,i,f,e,g,d.set ((16-1-1-1-1-1-1-1)/5) (B.set ((16-1-1-1-1-1-1-1) % 5/1) q),A))))) (False∧True))))))) (by kernel_rfl) (by
 conv=>zeta
 unfold Br;intro c w l n x A B o bk d C m Q ⟨⟨p,q,g,h,D,E,r⟩,s⟩;have a:∀t y,mF 4 (lC bk [] 5++ej t) c l n A o C m=y→Q ⟨0,(y.1.1,y.1.2,c,w,l,n,x,y.2.1,B,o,bk,d,y.2.2.2,y.2.2.1,())⟩:=λt y e=>s y ⟨t,e.symm⟩;clear s;unfold mF at a;simp only[ck]at a;have hB:=U' g;refine⟨h,λf=>a [] _ (an (jC f)),λf=>?_⟩;have f:=jX f;simp only[f,if_false]at a;obtain⟨H,J,K,L,M,N,O,P,R,S,i⟩:=vx g;subst i;refine⟨λb=>?_,λF=>⟨λb=>?_,λp=>⟨λb=>?_,λq=>⟨λb=>?_,λg=>⟨λb=>?_,λh=>?_⟩⟩⟩⟩⟩
 case refine_6=>exfalso;simp only[ax,ne_eq]at F p q g h;omega
 all_goals
  have b:=be b;subst b;refine⟨λe=>a [] _ (an (be e)),λe=>?_⟩;refine⟨inB (hB _ _),⟨D,E⟩,?_⟩;rintro t ⟨u,G,rfl⟩;refine⟨by repeat' (first|exact True.intro|rfl|apply bQ),r,λz v=>?_⟩;have U:=snE v r;subst v;exact⟨λj=>a u _ (Eq.trans (ag (aA e)) (an (jC j))),λj=>⟨inB (hB _ _),by omega,a u _ (Eq.trans (ag (aA e)) (ag (jX j)))⟩⟩)
def Qs:bu:=(121,[Ij,xI])::Qr
theorem Y_:KK Qs:=⟨aP.add Ih.1 (by kernel_rfl) (ik (Un) (bo (Ia))),bg.add Ih.2 (ik (λ_=>aR λ_=>⟨_,[],rfl⟩) (bo (Ii)))⟩
def Ik:Ct:=⟨2,⟨[sP 0,sS 1 4],gk 0++kH 4⟩,[⟨[(0,false,[.d tB]),sI 1],gk 0++kI 4 7++[cT]⟩],λ(c,i,b,a,j,e,f,g,bk,d,h,m,_)=>eO (0≤c∧c<5∧fh e∧cu a.2.1 a.2.2.1∧bZ bk∧pC f∧bU 4 h) (λy=>∃t:BL,y=mF 3 t c b a e g h m) λy=>(y.1.1,y.1.2,c,i,b,a,j,y.2.1,f,g,bk,d,y.2.2.2,y.2.2.1,())⟩
abbrev Uo(v:BL×Int×Int×BL×BL×Lg×Pg×La×List Fk×KM×Ln×Int×KV×List Tm×Unit):aN Ik.out:=⟨0,v⟩
def Qt:bu:=(77,[Ik])::Qs
theorem Y':KK Qt:=kA Y_ (cv Ik 0) (∀(a:Int)(j d:BL)(c:Lg)(k:Pg)(e:La)(f:List Fk)(g:KM)(h:Ln)(l:Int)(i:List Tm)(m:KV)(Q:aN Ik.out→Prop),(Ct.spec Ik (a,j,d,c,k,e,f,g,h,l,i,m,())).sat Q→(0≤a∧a<5∧fh e∧cu c.2.1 c.2.2.1∧bZ h∧pC f∧bU 4 i)∧∀(b:(BL×Int)×La×List Tm×KV),(∃n,b=mF 3 n a d c e g i m)→Q (Uo (b.1.1,b.1.2,a,j,d,c,k,b.2.1,f,g,h,l,b.2.2.2,b.2.2.1,()))) (by kernel_rfl) (by
 intro c f g i j n o p bk d q m Q ⟨h,a⟩;exact⟨h,λb e=>a b e⟩) (l:=λ_=>aR λ_=>⟨_,[],rfl⟩)
def Il:Ct:=⟨2,⟨[sP 0,sS 1 4],gk 0++kH 4⟩,[⟨[(0,false,[.d tB]),sI 1],gk 0++kI 4 7++[cT]⟩],λ(c,i,b,a,e,f,j,g,bk,d,h,m,_)=>eO (0≤c∧c<5∧fh f∧cu a.2.1 a.2.2.1∧bZ bk∧cb e∧bU 4 h) (λy=>∃l:List Op,y=mF 4 (lC bk [] 5++ej l) c b a f g h m) λy=>(y.1.1,y.1.2,c,i,b,a,e,y.2.1,j,g,bk,d,y.2.2.2,y.2.2.1,())⟩
abbrev Up(v:BL×Int×Int×BL×BL×Lg×Pg×La×List Fk×KM×Ln×Int×KV×List Tm×Unit):aN Il.out:=⟨0,v⟩
def Qu:bu:=(78,[Il])::Qt
theorem Z_:KK Qu:=kA Y' (cv Il 0) (∀(a:Int)(j e:BL)(c:Lg)(f:Pg)(g:La)(k:List Fk)(h:KM)(d:Ln)(l:Int)(i:List Tm)(m:KV)(Q:aN Il.out→Prop),(Ct.spec Il (a,j,e,c,f,g,k,h,d,l,i,m,())).sat Q→(0≤a∧a<5∧fh g∧cu c.2.1 c.2.2.1∧bZ d∧cb f∧bU 4 i)∧∀(b:(BL×Int)×La×List Tm×KV),(∃n,b=mF 4 (lC d [] 5++ej n) a e c g h i m)→Q (Up (b.1.1,b.1.2,a,j,e,c,f,b.2.1,k,h,d,l,b.2.2.2,b.2.2.1,()))) (by kernel_rfl) (by
 intro c f g i j n o p bk d q m Q ⟨h,a⟩;exact⟨h,λb e=>a b e⟩) (l:=λ_=>aR λ_=>⟨_,[],rfl⟩)
def Im:Ct:=⟨1,⟨[sP 0],gk 0⟩,[⟨[(0,false,[.ptr 4 0])],gk 0++Gw 4⟩],λ(c,b,e,f,a,g,h,i,bk,_)=>eO (cb a) (iL a) λq=>(c,b,e,f,a,g,h,i,bk,q.1,q.2.1,q.2.2.1,q.2.2.2.1.2.1,q.2.2.2.1.1,q.2.2.2.2.1.1,())⟩
abbrev Uq(v:Int×BL×BL×Lg×Pg×La×List Fk×KM×Ln×List (Fk×eR)×List (Fk×Int)×List eR×Int×List (Fk×gP.den)×List eV.den×Unit):aN Im.out:=⟨0,v⟩
def Qv:bu:=(22,[Im])::Qu
theorem Z':KK Qv:=kA Z_ (cv Im 0) (∀(c:Int)(d e:BL)(f:Lg)(a:Pg)(g:La)(h:List Fk)(i:KM)(j:Ln)(Q:aN Im.out→Prop),(Ct.spec Im (c,d,e,f,a,g,h,i,j,())).sat Q→cb a∧∀(b:Pg),iL a b→Q (Uq (c,d,e,f,a,g,h,i,j,b.1,b.2.1,b.2.2.1,b.2.2.2.1.2.1,b.2.2.2.1.1,b.2.2.2.2.1))) (by kernel_rfl) (by
 intro c e f g i j m n bk Q ⟨h,a⟩;exact⟨h,λq b=>a q b⟩) (l:=λ_=>aR λ_=>iD _)
def In:Ct:=⟨1,⟨[sP 0],gk 0⟩,[⟨[sO 0 4],gk 0++[cHd]⟩],λ(c,a,b,e,f,g,h,i,bk,_)=>one (bZ bk) (c,a,b,e,f,g,h,i,bk,sF bk 5,())⟩
abbrev Ur(v:Int×BL×BL×Lg×Pg×La×List Fk×KM×Ln×List (Int×Int×BL×Unit)×Unit):aN In.out:=⟨0,v⟩
def Qw:bu:=(70,[In])::Qv
theorem a0a:KK Qw:=kA Z' (cv In 0) (∀(b:Int)(c d:BL)(e:Lg)(f:Pg)(g:La)(h:List Fk)(i:KM)(a:Ln)(Q:aN In.out→Prop),(Ct.spec In (b,c,d,e,f,g,h,i,a,())).sat Q→bZ a∧Q (Ur (b,c,d,e,f,g,h,i,a,sF a 5,()))) (by kernel_rfl) (by
 intro c b e f g i j l bk Q ⟨h,a⟩;exact⟨h,a⟩)
def Io:Ct:=⟨2,⟨[sO 0 0,(1,true,[.d ic])],[J6]⟩,[⟨[sI 0],[J6]⟩],λ(x,l,_)=> .need (l.length≤1000000000) (.all Int (λy=>(0≤y↔x∈l)) λy=> .leaf ⟨0,(y,l,())⟩)⟩
def a0b:cc:=⟨[sO 0 0,(3,false,[.ptr 1 0]),sI 7,sI 8],[J6,some (.cells [.d ic])]⟩
def Mg(x:Fk)(l:List Fk)(y:a0b.den):Prop:=match y with
 |(n,i,a,b,_)=>a=l∧b=x∧n=l.length∧∃k:Nat,i=k∧k≤l.length∧x∉l.take k
def a5t(x:Io.inp.den):dG:=⟨[(2,bM a0b (Mg x.1 x.2.1) λ(n,i,_)=>(n-i).toNat)],[],[],[],0⟩
abbrev Ip(v:Int×List Fk×Unit):aN Io.out:=⟨0,v⟩
def Qx:bu:=(214,[Io])::Qw
theorem Iq:KK Qx:=kA a0a a5t (∀(f:Fk)(c:List Fk)(Q:aN Io.out→Prop),(Ct.spec Io (f,c,())).sat Q→Is (Mg f c ((↑c.length:Int),0,c,f,()))∧∀(d a:Int)(b:List Fk)(e:Fk),let g:=b.getD a.toNat (0,0,());let z:=e.1==g.1&&e.2.1==g.2.1;Mg f c (d,a,b,e,())→Br (decide (a<d)) ((0≤a∧a<(↑b.length:Int))∧Br z (Q (Ip (a,b,()))) (ae (a+1)∧Is (Mg f c (d,a+1,b,e,())∧(d-(a+1)).toNat<(d-a).toNat))) (Q (Ip ((-1:Int),b,())))) (by kernel_rfl) (by
 conv=>zeta
 unfold Br;rintro x l Q ⟨t,f⟩;refine⟨⟨rfl,rfl,rfl,0,rfl,aq _,by simp⟩,?_⟩;rintro n i g m ⟨o,p,q,k,r,u,j⟩;subst o;subst p;subst q;subst r;refine⟨λc=>?_,λe=>?_⟩
 ·have b:k<g.length:=by simp only[ah]at c;omega
  have s:((k:Int).toNat)=k:=by omega
  rw[s];refine⟨by omega,λh=>f _ ?_,λh=>⟨?_,⟨rfl,rfl,rfl,k+1,rfl,b,?_⟩,by omega⟩⟩
  ·constructor
   ·intro _
    have:m=g[k]:=by
     simp only[aF,aQ,az,ap b,cZ]at h;exact rV h.1 (rV h.2 rfl)
    rw[this];exact rW b
   ·intro _;omega
  ·unfold ae;omega
  ·rw[eQ,ap b];intro a;simp only[Option.toList_some,aY,cg]at a;rcases a with a|a
   ·exact j a
   ·rw[az,ap b,cZ,←a]at h;simp at h
 ·simp only[aj]at e;refine f _ ⟨λh=>absurd h (by omega),λh=>absurd ?_ j⟩
  rwa [ba (by omega)]) (l:=λx=>Live.need λ_=>Live.all ⟨if x.1∈x.2.1 then 0 else-1,by split<;>simp_all,Live.leaf⟩)
def DA:Ct:=⟨2,⟨[sO 0 0,(1,true,[.d ic])],[J6]⟩,[⟨[sL 0],[J6]⟩],λ(x,l,_)=>one (l.length≤1000000000) (decide (x∈l),l,())⟩
abbrev Us(v:Bool×List Fk×Unit):aN DA.out:=⟨0,v⟩
theorem Ut:bO Tryz.prog 198 DA:=kC Iq (cv DA 0) (∀(c:Fk)(a:List Fk)(Q:aN DA.out→Prop),(Ct.spec DA (c,a,())).sat Q→a.length≤1000000000∧∀(b:Int),(0≤b↔c∈a)→Q (Us (decide (0≤b),a,()))) (by kernel_rfl) (by
 rintro x y Q ⟨a,c⟩;refine⟨a,λb e=>?_⟩;have:decide (0≤b)=decide (x∈y):=by simp only[e]
 rw[this];exact c)
def Qy:bu:=(198,[DA,zi])::Qx
theorem a0c:KK Qy:=⟨aP.add Iq.1 (by kernel_rfl) (ik (Ut) (bo (Gt))),bg.add Iq.2 (ik (λ_=>bH) (bo (λ_=>bH)))⟩
abbrev hdY:=(Rl×List Fk×Int)×List Fk×Int×Int
def xK:Ct:=⟨2,⟨[sP 0,(1,false,[.ptr 4 0])],gk 0++rH⟩,[⟨[(0,true,[.d tRl]),(1,false,[.d (.sl ic)]),sI 2],gk 0++rH⟩],λ(c,g,h,i,j,l,f,n,bk,b,a,m,e,_)=>eO (bP b a∧bZ bk∧f.length+1000≤10000000) (λy:hdY=>y.1.2.1.length≤300∧y.2.1.length≤f.length+300) λy=>(y.1.1,y.1.2.1,y.1.2.2,c,g,h,i,j,l,y.2.1,n,bk,b,y.2.2.1,m,y.2.2.2,())⟩
def a0d(j:Nat):cc:=⟨[sP 0,(1,false,[.ptr 4 0]),(4,false,[.ptr 5 0]),sO 7 6,sI j,sI (j+1)],gk 0++rH++[some (.cells [.d .bl, .d .bl]),some (.sl J5)]⟩
def Mh(x:xK.inp.den)(y:(a0d 18).den):Prop:=match x,y with
 |(c,q,r,s,t,u,w,A,bk,b,a,m,e,_),(n,i,B,f,g,h,eW,j,l,o,p,C,D,E,F,z,G,v,_)=>(B,f,g,h,eW,j,l,o,p,C,E)=(c,q,r,s,t,u,w,A,bk,b,m)∧bP b D∧@aZ Int _ n 5∧∃k:Nat,i=k∧@aZ Int _ (k:Int) (@max Int _ n 0)∧v.length=k
def Qz:cc:=⟨[sP 0,(1,false,[.ptr 4 0]),(4,false,[.ptr 5 0]),(7,false,[.d (.sl J5)]),sO 9 6,sI 36,sI 37],gk 0++rH++[some (.cells [.d .bl, .d .bl]),J6]⟩
def BM(x:xK.inp.den)(y:Qz.den):Prop:=match x,y with
 |(c,q,r,t,u,w,A,B,bk,b,a,m,e,_),(v,n,i,C,f,g,h,eW,j,l,o,p,D,E,F,G,z,H,s,_)=>(C,f,g,h,eW,j,l,o,p,D,F)=(c,q,r,t,u,w,A,B,bk,b,m)∧bP b E∧v.length≤5∧@aZ Int _ n 255∧∃k:Nat,i=k∧@aZ Int _ (k:Int) (@max Int _ n 0)∧s.length=k
def QC:cc:=⟨[sP 0,(1,false,[.ptr 4 0]),(4,false,[.ptr 5 0]),(12,false,[.ptr 6 0]),sO 13 7,(69,false,[.d (.sl ic)]),sI 70,sI 71],gk 0++rH++[some (.cells [.d .bl, .d .bl]),some (.cells [.d .bl, .d .bl]),J6]⟩
def xL(x:xK.inp.den)(y:QC.den):Prop:=match x,y with
 |(c,t,u,v,w,A,B,C,bk,b,a,m,e,_),(s,n,i,D,g,h,j,eW,l,o,p,q,E,G,F,H,z,J,r,K,f,_)=>(D,g,h,j,eW,l,o,p,q,E,F)=(c,t,u,v,w,A,B,C,bk,b,m)∧s.length≤255∧n=s.length∧∃k:Nat,i=k∧k≤s.length∧f.length≤5+k
def a5u(x:xK.inp.den):dG:=⟨[(3,bM (a0d 18) (Mh x) λ(n,i,_)=>(n-i).toNat),(11,bM Qz (BM x) λ(_,n,i,_)=>(n-i).toNat),(23,bM QC (xL x) λ(_,n,i,_)=>(n-i).toNat)],[],[],[],0⟩
abbrev zR(v:(Bool×Bool×Unit)×List Fk×Int×Int×BL×BL×Lg×Pg×La×List Fk×KM×Ln×BL×Int×Bool×Int×Unit):aN xK.out:=⟨0,v⟩
def QD:bu:=(180,[xK])::Qy
theorem a0e:KK QD:=kA a0c a5u (∀(g:Int)(h i:BL)(j:Lg)(k:Pg)(l:La)(m:List Fk)(n:KM)(o:Ln)(c:BL)(d:Int)(e:Bool)(p:Int)(Q:aN xK.out→Prop),let x:=(g,h,i,j,k,l,m,n,o,c,d,e,p,());(Ct.spec xK x).sat Q→bP c d∧∀(b:Int×Int×Int),b=cR c d e p 0 5→Is (Mh x (b.1,0,g,h,i,j,k,l,m,n,o,c,b.2.1,e,b.2.2,false,false,[],()))∧∀(C y X:Int)(Y d5:BL)(d6:Lg)(d7:Pg)(d8:La)(d9:List Fk)(e0:KM)(e1:Ln)(q:BL)(D:Int)(z:Bool)(e2:Int)(e3 e4:Bool)(H:List (Int×Int×BL×Unit)),Mh x (C,y,X,Y,d5,d6,d7,d8,d9,e0,e1,q,D,z,e2,e3,e4,H,())→Br (decide (y<C)) (bP q D∧∀(b:Int×Int×Int),b=cR q D z e2 0 4→bP q b.2.1∧∀(r:Int×Int×Int),r=cR q b.2.1 z b.2.2 1 1048576→bP q r.2.1∧∀(J:BL×Int×Int),J=gj q r.2.1 z r.2.2 32→(H.length+1)*40≤140737488355328∧ae (y+1)∧Is (Mh x (C,y+1,X,Y,d5,d6,d7,d8,d9,e0,e1,q,J.2.1,z,J.2.2,e3,e4,H++[(b.1,r.1,J.1,())],())∧(C-(y+1)).toNat<(C-y).toNat)) (bP q D∧∀(b:Int×Int×Int),b=cR q D z e2 0 255→Is (BM x (H,b.1,0,X,Y,d5,d6,d7,d8,d9,e0,e1,q,b.2.1,z,b.2.2,e3,e4,[],()))∧∀(K:List (Int×Int×BL×Unit))(E A L:Int)(M N:BL)(O:Lg)(P:Pg)(R:La)(S:List Fk)(U:KM)(F:Ln)(f:BL)(s:Int)(t:Bool)(w:Int)(e5 e6:Bool)(G:List Fk),let z3:=(L,M,N,O,P,R,S,U,F,f,s,t,w,());BM x (K,E,A,L,M,N,O,P,R,S,U,F,f,s,t,w,e5,e6,G,())→Br (decide (A<E)) (bP f s∧∀(b:Int×Int×Int),b=cR f s t w 0 4→bP f b.2.1∧∀(r:Int×Int×Int),r=cR f b.2.1 t b.2.2 1 1048576→(G.length+1)*16≤140737488355328∧ae (A+1)∧Is (BM x (K,E,A+1,L,M,N,O,P,R,S,U,F,f,r.2.1,t,r.2.2,e5,e6,G++[(b.1,r.1,())],())∧(E-(A+1)).toNat<(E-A).toNat)) (bP f s∧Br (!dM f s t w==0) (Q (zR ((false,false,()),[],dM f s t w,z3))) ((bZ F∧K.length≤1000000)∧∀(b:(Bool×Bool×Unit)×List Fk×Int),b.2.1.length≤K.length∧(b.2.2=0∨b.2.2=1)→Br (!b.2.2==0) (Q (zR ((false,false,()),[],5,z3))) (Is (xL x (G,(↑G.length:Int),0,L,M,N,O,P,R,S,U,F,f,s,t,w,e5,e6,b.1.1,b.1.2.1,b.2.1,()))∧∀(B:List Fk)(v a b9:Int)(c0 c1:BL)(c2:Lg)(c3:Pg)(c4:La)(W:List Fk)(c5:KM)(c6:Ln)(c7:BL)(c8:Int)(c9:Bool)(d0:Int)(e7 e8 d1 d2:Bool)(u:List Fk),let z5:Prop:=(v-(a+1)).toNat<(v-a).toNat;let z4:= !decide (B.getD a.toNat (0,0,())∈u);let z2:=(b9,c0,c1,c2,c3,c4,W,c5,c6,c7,c8,c9,d0,e7,e8,d1,d2,u,());xL x (B,v,a,z2)→Br (decide (a<v)) ((0≤a∧a<(↑B.length:Int))∧u.length≤1000000000∧Br z4 ((u.length+1)*16≤140737488355328∧ae (a+1)∧Is (xL x (B,v,a+1,b9,c0,c1,c2,c3,c4,W,c5,c6,c7,c8,c9,d0,e7,e8,d1,d2,u++[B.getD a.toNat (0,0,())],())∧z5)) (ae (a+1)∧Is (xL x (B,v,a+1,z2)∧z5))) (W.length+u.length≤10000000∧∀(b:List Fk),b.length≤W.length+u.length→Q (zR ((d1,d2,()),u,0,b9,c0,c1,c2,c3,c4,b,c5,c6,c7,c8,c9,d0,())))))))) (by kernel_rfl) (by
 conv=>zeta
 unfold Br;intro c se sg lg pg la fk km bk b a m e Q ⟨⟨h1,h2,h3⟩,hQ⟩;have W:∀(r:Rl)(f:List Fk)(X:Int)(R:List Fk)(Y e':Int),f.length≤300→R.length≤fk.length+300→Q ⟨0,(r,f,X,c,se,sg,lg,pg,la,R,km,bk,b,Y,m,e',())⟩:=λr f X R Y e' h h'=>hQ ((r,f,X),R,Y,e') ⟨h,h'⟩;clear hQ;refine⟨h1,λg hg=>?_⟩;have q0:=eD m e 0 5 h1;rw[←hg]at q0;refine⟨⟨rfl,q0.1,by omega,0,rfl,by omega,rfl⟩,?_⟩;rintro n i c1 a5 a6 a7 eW a8 a9 b0 b4 b1 a1 S e1 z z' v ⟨B,A,g2,k,g3,g4,g5⟩;simp only[Prod.mk.injEq]at B;obtain⟨E,F,G,H,J,K,L,M,N,j,o⟩:=B;subst E F G H J K L M N j o g3;refine⟨λp=>?_,λq=>?_⟩
 ·simp only[ah]at p;refine⟨A,λx C=>?_⟩;have t:=(eD S e1 0 4 A).1;rw[←C]at t;refine⟨t,λy U=>?_⟩;have D:=(eD S x.2.2 1 1048576 t).1;rw[←U]at D;refine⟨D,λw hw=>?_⟩;have r3:=(mL S y.2.2 32 D).1;rw[←hw]at r3;exact⟨by omega,by unfold ae;omega,⟨rfl,r3,g2,k+1,rfl,by omega,by rw[aa,g5];rfl⟩,by omega⟩
 simp only[aj]at q;refine⟨A,λx C=>?_⟩;have t:=eD S e1 0 255 A;rw[←C]at t;refine⟨⟨rfl,t.1,by omega,by omega,0,rfl,by omega,rfl⟩,?_⟩;clear hg q0 C t g A x;rintro v2 n2 i2 c2 b5 b6 b7 b8 b9 c0 c4 c5 b2 a2 m2 e2 w w' s ⟨B,A,g6,g7,k2,g8,g9,O⟩;simp only[Prod.mk.injEq]at B;obtain⟨E,F,G,H,J,K,L,M,N,j,o⟩:=B;subst E F G H J K L M N j o g8;refine⟨λp=>?_,λq=>?_⟩
 ·simp only[ah]at p;refine⟨A,λx C=>?_⟩;have t:=(eD m2 e2 0 4 A).1;rw[←C]at t;refine⟨t,λy U=>?_⟩;have D:=(eD m2 x.2.2 1 1048576 t).1;rw[←U]at D;exact⟨by omega,by unfold ae;omega,⟨rfl,D,g6,g7,k2+1,rfl,by omega,by rw[aa,O];rfl⟩,by omega⟩
 simp only[aj]at q;refine⟨A,λ_=>W _ [] _ _ _ _ (by simp) (by omega),λ_=>⟨⟨h2,by omega⟩,λcm c6=>⟨λ_=>W _ [] _ _ _ _ (by simp) (by omega),λ_=>⟨⟨rfl,by omega,rfl,0,rfl,aq _,by omega⟩,?_⟩⟩⟩⟩;have c7:s.length≤255:=by omega
 clear q g9 O g7;rintro s3 n3 i3 c3 c8 c9 d0 d1 d2 d3 d4 d5 b3 a3 m3 e3 u u' r r' f ⟨B,P,a0,k3,a4,d6,d7⟩;simp only[Prod.mk.injEq]at B;obtain⟨E,F,G,H,J,K,L,M,N,j,o⟩:=B;subst E F G H J K L M N j o a0 a4;refine⟨λp=>?_,λq=>⟨by omega,λy U=>W _ f _ y _ _ (by omega) (by omega)⟩⟩;simp only[ah]at p;exact⟨by omega,by omega,λ_=>⟨by omega,by unfold ae;omega,⟨rfl,P,rfl,k3+1,rfl,by omega,by rw[aa,bb];omega⟩,by omega⟩,λ_=>⟨by unfold ae;omega,⟨rfl,P,rfl,k3+1,rfl,by omega,by omega⟩,by omega⟩⟩) (l:=λ_=>aR λ_=>⟨(((false,false,()),[],0),[],0,0),aq _,aq _⟩)
def Ir:Ct:=⟨4,⟨[sI 0,sB 1,sB 2,sB 3],[]⟩,[⟨[(0,false,[.nilp])],[]⟩,⟨[sP 0],gk 0⟩],λ(id,a,b,c,_)=> .need (c.length≤1000000∧a.length≤1000000∧b.length≤1000000) (.ite (decide (id<0∨5≤id∨a.length≠32∨b.length≠32∨c.length≠32)) (.leaf ⟨0,()⟩) (.leaf ⟨1,(id,a,b,(c,[],[],()),iX,[[0,0,0,0,0],[0,0,0,0,0]],[],[],[],())⟩))⟩
abbrev oz(v:Unit):aN Ir.out:=⟨0,v⟩
abbrev Uu(v:Int×BL×BL×Lg×Pg×La×List Fk×KM×Ln×Unit):aN Ir.out:=⟨1,v⟩
def QE:bu:=(35,[Ir])::QD
theorem a0f:KK QE:=kA a0e (cv Ir 0) (∀(a:Int)(b c d:BL)(Q:aN Ir.out→Prop),let e:= !(↑d.length:Int)==32;let f:= !(↑c.length:Int)==32;let g:= !(↑b.length:Int)==32;let z:=Uu (a,b,c,(d,[],[],()),([],[],[],([((0,0,()),0,0,0,false,[[],[]],())],0,()),([],()),()),[[0,0,0,0,0],[0,0,0,0,0]],[],[],[],());(Tr.need (d.length≤1000000∧b.length≤1000000∧c.length≤1000000) (Tr.ite (decide (a<0∨5≤a∨b.length≠32∨c.length≠32∨d.length≠32)) (Tr.leaf (oz ())) (Tr.leaf z))).sat Q→Br (decide (a<0)) (Q (oz ())) (Br (decide (5≤a)) (Q (oz ())) (Br g (Q (oz ())) (Br f (Q (oz ())) (Br e (Q (oz ())) (b.length≤1000000∧c.length≤1000000∧d.length≤1000000∧True∧True∧Q z)))))) (by kernel_rfl) (by
 conv=>zeta
 unfold Br;intro id e f g Q ⟨⟨i,j,m⟩,b,c⟩;have a:(id<0∨5≤id∨e.length≠32∨f.length≠32∨g.length≠32)→Q ⟨0,()⟩:=λh=>b (decide_eq_true h);simp only[ah,aj,aQ,ax,ne_eq,aO,aJ];refine⟨λh=>a (by omega),λn=>⟨λh=>a (by omega),λo=>⟨λh=>a (by omega),λp=>⟨λh=>a (by omega),λq=>⟨λh=>a (by omega),λr=>⟨j,m,i,trivial,trivial,c (decide_eq_false (by omega))⟩⟩⟩⟩⟩⟩) (l:=λ_=>Live.need λ_=>Live.ite (λ_=>Live.leaf) (λ_=>Live.leaf))
def cvQ(bk b:Ln)(a:Nat)(n:Nat):Prop:=(dt bk (a:Int)).length≤(dt b (a:Int)).length∧∀q:Nat,1≤q→q<n→(xl bk (a:Int) (q:Int)).1=(xl b (a:Int) (q:Int)).1
def QF(bk b:Ln)(k:Nat):Prop:=∀a:Nat,a<k→cvQ bk b a ((dt bk (a:Int)).length+1)
theorem heL(bk:Ln){k:Nat}(h:k<5):(fu bk (k:Int)).2.1=((dt bk (k:Int)).length:Int):=by
 unfold fu;rw[ag (by omega)]
def xM:Ct:=⟨2,⟨[sP 0,(1,false,[.ptr 4 0])],gk 0++iW 4⟩,[⟨[sI 0],gk 0++iW 4⟩],λ(c,f,g,a,h,i,e,j,bk,b,_)=>eO (bZ bk∧bZ b∧cu a.2.1 a.2.2.1∧e.length+1≤10000000) (λy:Int×List Fk=>y.2.length≤e.length+1∧(y.1=0→QF bk b 5)) λy=>(y.1,c,f,g,a,h,i,y.2,j,bk,b,())⟩
def a0g:cc:=⟨[sP 0,(1,false,[.ptr 4 0]),sI 15],gk 0++iW 4⟩
def Mi(x:xM.inp.den)(y:a0g.den):Prop:=match x,y with
 |(c,m,n,o,p,q,r,s,bk,b,_),(i,t,a,e,f,eW,g,h,j,l,u,_)=>(t,a,e,f,eW,g,h,j,l,u)=(c,m,n,o,p,q,r,s,bk,b)∧∃k:Nat,i=k∧k≤5∧QF bk b k
def a0h:cc:=⟨[sP 0,(1,false,[.ptr 4 0]),sI 5,sI 6,sI 7,sI 15],gk 0++iW 4⟩
def Mj(x:xM.inp.den)(e:Int)(y:a0h.den):Prop:=match x,y with
 |(c,p,s,t,u,v,w,z,bk,b,_),(a,n,q,i,A,f,g,h,eW,j,l,m,o,B,_)=>(A,f,g,h,eW,j,l,m,o,B)=(c,p,s,t,u,v,w,z,bk,b)∧i=e∧a=e∧∃k r:Nat,e=k∧k<5∧QF bk b k∧n=(dt bk (k:Int)).length∧q=r∧1≤r∧r≤(dt bk (k:Int)).length+1∧cvQ bk b k r
def a0i:cc:=⟨[sP 0,(1,false,[.ptr 4 0]),sI 64],gk 0++iW 4⟩
def Ml(x:xM.inp.den)(y:a0i.den):Prop:=match x,y with
 |(c,m,n,o,p,q,r,s,bk,b,_),(i,t,a,e,f,eW,g,h,j,l,u,_)=>(t,a,e,f,eW,g,h,j,l,u)=(c,m,n,o,p,q,r,s,bk,b)∧QF bk b 5∧∃k:Nat,i=k∧k≤5
def a5v(x:xM.inp.den):dG:=⟨[(2,og a0g (Mi x) (λ(i,_)=>(5-i).toNat) λ(i,_)=>[(8,bM a0h (Mj x i) λ(_,n,q,_)=>(n+1-q).toNat)]),(17,bM a0i (Ml x) λ(i,_)=>(5-i).toNat)],[],[],[],0⟩
abbrev vy(v:Int×Int×BL×BL×Lg×Pg×La×List Fk×KM×Ln×Ln×Unit):aN xM.out:=⟨0,v⟩
def QG:bu:=(203,[xM])::QE
theorem QH:KK QG:=kA a0f a5v (∀(g:Int)(h i:BL)(j:Lg)(k:Pg)(l:La)(m:List Fk)(n:KM)(o p:Ln)(Q:aN xM.out→Prop),let F:=(h,i,j,k,l,m,n,o,p,());let x:=(g,F);(Ct.spec xM x).sat Q→Is (Mi x (0,g,F))∧∀(e K:Int)(L M:BL)(N:Lg)(O:Pg)(P:La)(R:List Fk)(S:KM)(y D:Ln),let U:Prop:=(fu D e).2.1<(fu y e).2.1;let B:=(K,L,M,N,O,P,R,S,y,D,());Mi x (e,B)→Br (decide (e<5)) (bZ y∧bZ D∧Br (decide U) (Q (vy (24,B))) (Is (Mj x e (e,(fu y e).2.1,1,e,B))∧∀(a q c r d:Int)(s t:BL)(u:Lg)(v:Pg)(w:La)(f:List Fk)(G:KM)(z A:Ln),let W:= !(xl z a c).1==(xl A a c).1;let E:=(d,s,t,u,v,w,f,G,z,A,());Mj x e (a,q,c,r,E)→Br (decide (c≤q)) (bZ z∧bZ A∧(ac (xl z a c).1≤1000000000∧ac (xl A a c).1≤1000000000)∧Br W (f.length+1≤10000000∧∀(b:List Fk),b.length≤f.length+1→Q (vy (18,d,s,t,u,v,w,b,G,z,A,()))) (ae (c+1)∧Is (Mj x e (a,q,c+1,r,E)∧(q+1-(c+1)).toNat<(q+1-c).toNat))) (ae (r+1)∧Is (Mi x (r+1,E)∧(5-(r+1)).toNat<(5-e).toNat)))) (Is (Ml x (0,B))∧∀(a q:Int)(c r:BL)(d:Lg)(s:Pg)(t:La)(u:List Fk)(v:KM)(w f:Ln),let H:=vW (List.reverse d.2.1) a;let C:=(q,c,r,d,s,t,u,v,w,f,());let J:Prop:=ae (a+1)∧Is (Ml x (a+1,C)∧(5-(a+1)).toNat<(5-a).toNat);Ml x (a,C)→Br (decide (a<5)) (cu d.2.1 d.2.2.1∧Br (H.2) (bZ f∧Br (decide (H.1<(fu f a).2.1)) (Q (vy (19,C))) J) J) (Q (vy (0,C))))) (by kernel_rfl) (by
 conv=>zeta
 unfold Br;intro c se sg lg pg la fk km bk b Q ⟨⟨C,D,h3,h4⟩,W⟩;have E:∀(F:Int)(G:List Fk),G.length≤fk.length+1→(F=0→QF bk b 5)→Q ⟨0,(F,c,se,sg,lg,pg,la,G,km,bk,b,())⟩:=λF G h h'=>W (F,G) ⟨h,h'⟩;clear W;refine⟨⟨rfl,0,rfl,by omega,λa ha=>by omega⟩,?_⟩;rintro i c1 a0 a1 a2 eW a3 J a4 K b1 ⟨f,k,g1,g2,X⟩;simp only[Prod.mk.injEq]at f;obtain⟨o,p,s,t,u,v,w,x,z,e⟩:=f;subst o p s t u v w x z e g1;simp only[ah,aj];refine⟨λa5=>?_,λa6=>?_⟩
 ·have H:k<5:=by omega
  rw[heL K H,heL b1 H];refine⟨C,D,λ_=>E 24 J (by omega) (λh=>absurd h (by decide)),λa7=>⟨⟨rfl,rfl,rfl,k,1,rfl,H,X,rfl,rfl,by omega,by omega,by omega,λq a b=>by omega⟩,?_⟩⟩;rintro a n q i2 c2 L M N O P j R A b2 ⟨f,B,S,k2,r,U,e4,Y,e6,e7,e8,e9,m⟩;simp only[Prod.mk.injEq]at f;obtain⟨o,p,s,t,u,v,w,x,z,e⟩:=f;have U:k=k2:=by omega
  subst o p s t u v w x z e U B S e6 e7;refine⟨λhc=>⟨C,D,⟨by have:=zO C (k:Int) (r:Int);omega,by have:=zO D (k:Int) (r:Int);omega⟩,λ_=>⟨by omega,λy hy=>E 18 y hy (λh=>absurd h (by decide))⟩,λhe=>⟨?_,⟨rfl,rfl,rfl,k,r+1,rfl,H,Y,rfl,rfl,by omega,by omega,m.1,λq a b=>?_⟩,by omega⟩⟩,λhc=>⟨by unfold ae;omega,⟨rfl,k+1,rfl,by omega,λa ha=>?_⟩,by omega⟩⟩
  ·have:=(C (k:Int)).1;unfold ae;omega
  ·rcases bN q r with g|g
   ·exact m.2 q a g
   ·have:q=r:=by omega
    subst this;simp only[aJ,aQ]at he;exact he
  ·rcases bN a k with g|g
   ·exact Y a g
   ·have:a=k:=by omega
    subst this;have:r=(dt A (a:Int)).length+1:=by omega
    rw[←this];exact m
 ·have:k=5:=by omega
  subst this;refine⟨⟨rfl,X,0,rfl,by omega⟩,?_⟩;rintro i2 c2 L M N O P j R A b2 ⟨f,B,k,S,U⟩;simp only[Prod.mk.injEq]at f;obtain⟨o,p,s,t,u,v,w,x,z,e⟩:=f;subst o p s t u v w x z e S;refine⟨λhl=>⟨h3,λ_=>⟨D,λ_=>E 19 j (by omega) (λh=>absurd h (by decide)),λ_=>⟨by unfold ae;omega,⟨rfl,B,k+1,rfl,by omega⟩,by omega⟩⟩,λ_=>⟨by unfold ae;omega,⟨rfl,B,k+1,rfl,by omega⟩,by omega⟩⟩,λ_=>E 0 j (by omega) λ_=>B⟩) (l:=λ_=>aR λ_=>⟨(24,[]),aq _,λh=>absurd h (by decide)⟩)
theorem erK(m:Bool){c:Prop}[Decidable c]{x y:Bool×Rs×List Lk}(a:c→x.1=false→xo m x.2.1≠0)(b:¬c→xo m y.2.1≠0)(h:(if c then x else y).1=false):xo m (if c then x else y).2.1≠0:=by
 by_cases g:c
 ·rw[an g]at h⊢;exact a g h
 ·rw[ag g];exact b g
theorem a0j(b:BL)(m:Bool)(au:Int):∀(k:Nat)(i last:Int)(s:Rs)(c:List Lk),(yb b m au k i last s c).1=false→xo m (yb b m au k i last s c).2.1≠0
 |0,_,_,_,_,h=>by simp[yb]at h
 |k+1,i,last,(a,e),c,h=>by
  rw[uX]at h⊢;exact erK m (λ_ h=>a0j b m au k _ _ _ _ h) (λg=>g) h
theorem a0k(b:BL)(m:Bool):∀(k:Nat)(au:Int)(s:Rs)(a:List Lk),(rp b m k au s a).1=false→xo m (rp b m k au s a).2.1≠0
 |0,_,_,_,h=>by simp[rp]at h
 |k+1,au,s,a,h=>by
  simp only[rp]at h⊢;split at h
  ·rename_i g;rw[an g];exact a0k b m k _ _ _ h
  ·rename_i g;rw[ag g];exact a0j b m au _ _ _ _ _ h
theorem a5w(b:BL)(m:Bool)(s:Rs)(h:(rZ b m s).1=false):xo m (rZ b m s).2.1≠0:=by
 unfold rZ at h⊢;dsimp only at h⊢;cases g:(rp b m 5 0 s []).1 with
 |false=>exact a0k b m 5 0 s [] g
 |true=>rw[g]at h;simpa using h
def cgW(b:BL)(m:Bool)(s:Rs)(ts:List Tm)(mp:KV):(Bool×Rs×List Lk)×Ln×List Tm×KV:=(rZ b m s,mw (rZ b m s).2.2 ts mp)
def cgL:Ct:=⟨2,⟨[sS 0 0,(1,false,[.ptr 3 0])],VX⟩,[⟨[(0,false,[.nilp])],VX⟩,⟨[(0,false,[.ptr 4 0])],kI 0 6++rH++bkP 5++[cT]⟩],λ(d,c,m,b,a,f,e,_)=> .need (bP b a∧b.length≤65536∧c.length+b.length≤4294967296) (.all ((Bool×Rs×List Lk)×Ln×List Tm×KV) (λy=>y=cgW b f (a,e) c m) λy=> .ite y.1.1
 (.leaf ⟨1,(d,y.2.2.2,b,y.1.2.1.1,f,y.1.2.1.2,y.2.1,y.2.2.1,())⟩)
 (.leaf ⟨0,(d,c,m,b,y.1.2.1.1,f,y.1.2.1.2,())⟩))⟩
theorem Uv:bO Tryz.prog 202 cgL:=bO.mono Nq λ_ _ h=>⟨h.1,h.2 _ rfl⟩
def QI:bu:=(202,[cgL])::QG
theorem a0l:KK QI:=⟨aP.add QH.1 (by kernel_rfl) (bo Uv),bg.add QH.2 (bo (λ_=>Live.need λ_=>Live.all ⟨_,rfl,Live.ite (λ_=>Live.leaf) (λ_=>Live.leaf)⟩))⟩
def clO(j a:Nat):List (Option CP):=[some (.cells [.d .i64, .d tB, .d tB, .d (.pf VZ), .mp (j+1), .ptr a 0, .d OB, .d tLa, .d (.sl ic)]),some (.mp .i64 tB),none,none]
structure WhY where
 err:Int
 pg:Pg
 fk:List Fk
 bk:Ln
 a:Int
 e:Int
def Mm(a:Pg)(b:List Fk)(bk:Ln)(w:(Bool×Rs×List Lk)×Ln×List Tm×KV)(y:WhY):Prop:=
 y.fk.length≤b.length+1∧(y.err≠0∧y.pg=a∧y.bk=bk∨y.err=0∧w.1.1=true∧cb y.pg∧y.bk=w.2.1∧QF bk y.bk 5)
def Iu:Ct:=⟨3,⟨[sP 0,sS 1 4,(2,false,[.ptr 7 0])],gk 0++kH 4++rH⟩,[⟨[sI 0],clO 0 9++kI 4 8++rH++[cT]++iW 9⟩],λ(c,l,n,f,i,o,j,p,bk,d,g,m,b,a,h,e,_)=>
 .need (bP b a∧h=true∧b.length≤65536∧g.length+b.length≤4294967296∧cb i∧bZ bk∧cu f.2.1 f.2.2.1∧j.length+1≤10000000) (.all ((Bool×Rs×List Lk)×Ln×List Tm×KV) (λw=>w=cgW b h (a,e) g m) λw=> .all WhY (Mm i j bk w) λy=>
  .leaf ⟨0,(y.err,c,l,n,f,y.pg,o,y.fk,p,d,if w.1.1 then w.2.2.2 else m,b,y.a,h,y.e,if w.1.1 then w.2.2.1 else g,y.bk,())⟩)⟩
theorem a0m{b:BL}(m:Bool)(au:Int):∀(k:Nat)(i last:Int)(s:Rs)(c:List Lk),bP b s.1→c.length≤s.1.toNat→bP b (yb b m au k i last s c).2.1.1∧(yb b m au k i last s c).2.2.length≤(yb b m au k i last s c).2.1.1.toNat
 |0,_,_,_,_,h,p=>⟨h,p⟩
 |k+1,i,last,(a,e),c,h,p=>by
  rw[uX];dsimp only;have y:=mL m e 32 h;generalize gj b a m e 32=t at*;obtain⟨j,f⟩:∃j,(if t.1.length=32 then t.2.2 else if(m&&t.2.2==0)=true then 5 else t.2.2)=j:=⟨_,rfl⟩;rw[f];have r:=eD m j 1 65536 y.1;generalize v:cR b t.2.1 m j 1 65536=u at*;obtain⟨q,g⟩:∃q,(if u.1<last then(if(m&&u.2.2==0)=true then 5 else u.2.2)else u.2.2)=q:=⟨_,rfl⟩;rw[g];have p:c.length≤a.toNat:=p;have C:=y.2.1;have D:=r.2.1;rcases Decidable.em ((if m=true then q else 5)=0)with l|l
  ·rw[an l];refine a0m m au k _ _ _ _ r.1 ?_;rw[aa,bb]
   have z:t.1.length=32:=by
    rcases Nat.decEq t.1.length 32 with w|w
    ·exfalso;rw[ag w]at f
     have x:m=true:=by
      cases m
      ·simp at l
      ·rfl
     subst x;have A:q=0:=by simpa using l
     have n:¬(j=0):=by
      rw[←f];simp only[fL];split
      ·omega
      ·rename_i B;simpa using B
     have o:=rnE (b:=b) (a:=t.2.1) (m:=true) (e:=j) 1 65536 (by simpa using n);rw[v]at o;rw[o]at g;simp[n]at g;omega
    ·exact w
   show c.length+1≤u.2.1.toNat;omega
  ·rw[ag l];refine⟨r.1,?_⟩;show c.length≤u.2.1.toNat;omega
theorem a0n{b:BL}(m:Bool):∀(k:Nat)(au:Int)(s:Rs)(a:List Lk),bP b s.1→a.length≤s.1.toNat→bP b (rp b m k au s a).2.1.1∧(rp b m k au s a).2.2.length≤(rp b m k au s a).2.1.1.toNat
 |0,_,_,_,h,c=>⟨h,c⟩
 |k+1,au,s,a,h,c=>by
  have e:=eD m s.2 0 1048576 h;have f:=e.2.1;have:=a0m m au (cR b s.1 m s.2 0 1048576).1.toNat 0 1 (cR b s.1 m s.2 0 1048576).2 a e.1 (by omega);simp only[rp];split
  ·exact a0n m k _ _ _ this.1 this.2
  ·exact this
theorem Iv{b:BL}{a:Int}(m:Bool)(e:Int)(h:bP b a):bP b (rZ b m (a,e)).2.1.1∧(rZ b m (a,e)).2.2.length≤b.length:=by
 have:=a0n m 5 0 (a,e) [] h (aq _);refine⟨this.1,?_⟩;have c:=this.2;have f:=this.1.2.2;show(rp b m 5 0 (a,e) []).2.2.length≤_;omega
theorem bdO{l:List Lk}(ts:List Tm)(m:KV)(h:l.length≤65536):bZ (mw l ts m).1∧(mw l ts m).2.1.length≤ts.length+l.length:=by
 have:=Fj ts m l l.length (aC _);rw[bp]at this;exact⟨λa=>⟨by have:=(this.2 a).1;omega,(this.2 a).2⟩,this.1⟩
abbrev rL(v:Int×Int×BL×BL×Lg×Pg×La×List Fk×KM×Int×KV×BL×Int×Bool×Int×List Tm×Ln×Unit):aN Iu.out:=⟨0,v⟩
def QJ:bu:=(181,[Iu])::QI
theorem a0o:KK QJ:=kA a0l (cv Iu 0) (∀(i:Int)(j k:BL)(f:Lg)(g:Pg)(l:La)(q:List Fk)(m:KM)(h:Ln)(n:Int)(s:List Tm)(u:KV)(c:BL)(o:Int)(d:Bool)(r:Int)(Q:aN Iu.out→Prop),let v:=rp c d 5 0 (o,r) [];(Ct.spec Iu (i,j,k,f,g,l,q,m,h,n,s,u,c,o,d,r,())).sat Q→(bP c o∧c.length≤65536∧s.length+c.length≤4294967296)∧∀(b:(Bool×(Int×Int)×List Lk)×Ln×List Tm×KV),let w:Prop:=bP c b.1.2.1.1∧(0:Int)≤4096∧(4096:Int)≤4096;b=((v.1&&xo d v.2.1==0,v.2),mw v.2.2 s u)→Br (b.1.1) (w∧∀(a:List Op×Int×Int),let y:= !dM c a.2.1 d a.2.2==0;let z:=(m,n,b.2.2.2,c,a.2.1,d,a.2.2,b.2.2.1,h,());zl c b.1.2.1.1 d b.1.2.1.2 4096 a→bP c a.2.1∧Br y (Q (rL (dM c a.2.1 d a.2.2,i,j,k,f,g,l,q,z))) ((bZ h∧bZ b.2.1∧cu f.2.1 f.2.2.1∧q.length+1≤10000000)∧∀(e:Int×List Fk),let x:=(i,j,k,f,g,l,e.2,z);e.2.length≤q.length+1∧(e.1=0→QF h b.2.1 5)→Br (!e.1==0) (Q (rL (e.1,x))) (cb g∧∀(t:Pg),iL g t→(cb t∧a.1.length≤1000000)∧∀(p:Int×Pg),xC t a.1 p→Br (!p.1==0) (Q (rL (p.1,x))) (Q (rL (0,i,j,k,f,p.2,l,e.2,m,n,b.2.2.2,c,a.2.1,d,a.2.2,b.2.2.1,b.2.1,())))))) (w∧∀(a:List Op×Int×Int),let A:= !dM c a.2.1 d a.2.2==0;zl c b.1.2.1.1 d b.1.2.1.2 4096 a→bP c a.2.1∧Br A (Q (rL (dM c a.2.1 d a.2.2,i,j,k,f,g,l,q,m,n,u,c,a.2.1,d,a.2.2,s,h,()))) False)) (by kernel_rfl) (by
 conv=>zeta
 unfold Br;intro c N O P A R u S bk d y m b a r e Q ⟨⟨B,C,U,W,X,Y,h7,h8⟩,K⟩;have j:∀w,w=cgW b r (a,e) y m→∀(q:Int)(p:Pg)(f:List Fk)(k:Ln)(s t:Int),Mm A u bk w ⟨q,p,f,k,s,t⟩→Q ⟨0,(q,c,N,O,P,p,R,f,S,d,if w.1.1 then w.2.2.2 else m,b,s,r,t,if w.1.1 then w.2.2.1 else y,k,())⟩:=λw n q p f k s t h=>K w n ⟨q,p,f,k,s,t⟩ h;clear K;refine⟨⟨B,U,W⟩,λw n=>?_⟩;have n:w=cgW b r (a,e) y m:=n;have L:bP b w.1.2.1.1∧w.1.2.2.length≤b.length:=by rw[n];exact Iv r e B
 have D:bZ w.2.1:=by rw[n];exact(bdO y m (by have:=(Iv r e B).2;omega)).1
 have hE:w.1.1=false→xo r w.1.2.1≠0:=by rw[n];exact a5w b r (a,e)
 have j:=j w n;clear n;have o:∀(q:Int)(f:List Fk),q≠0→f.length≤u.length+1→∀s t,Mm A u bk w ⟨q,A,f,bk,s,t⟩:=λq f E hf s t=>⟨hf, .inl ⟨E,rfl,rfl⟩⟩;refine⟨λg=>?_,λg=>?_⟩
 ·rw[g]at j;simp only[if_true]at j;refine⟨⟨L.1,by omega,by omega⟩,λp v=>⟨v.1,λi=>j _ _ _ _ _ _ (o _ u (jC i) (by omega) _ _),λi=>⟨⟨Y,D,h7,h8⟩,λx z=>⟨λF=>j _ _ _ _ _ _ (o _ x.2 (jC F) z.1 _ _),λF=>⟨X,λp1 G=>⟨⟨G.1,by have:=v.2.1;omega⟩,λch H=>⟨λM=>j _ _ _ _ _ _ (o _ x.2 (jC M) z.1 _ _),λM=>j 0 ch.2 x.2 w.2.1 _ _ ⟨z.1, .inr ⟨rfl,g,H.1,rfl,z.2 (aD.1 (jX F))⟩⟩⟩⟩⟩⟩⟩⟩⟩
 ·rw[g]at j;simp only[cf,if_false]at j;have E:=hE g
  have J:w.1.2.1.2≠0:=by
   intro h;apply E;unfold xo;rw[C,h];rfl
  refine⟨⟨L.1,by omega,by omega⟩,λp v=>⟨v.1,λi=>j _ _ _ _ _ _ (o _ u (jC i) (by omega) _ _),λi=>?_⟩⟩;have i:=aD.1 (jX i);have:=v.2.2.2 J;rw[this]at i;unfold dM at i;rw[an (by rw[C];exact J)]at i;rw[C]at i;exact J i) (l:=λ_=>Live.need λ_=>Live.all ⟨_,rfl,Live.all ⟨⟨1,_,[],_,0,0⟩,⟨aq _, .inl ⟨(by decide:(1:Int)≠0),rfl,rfl⟩⟩,Live.leaf⟩⟩)
abbrev yf:=Int×Pg×Ln×List Tm×KV
def t7(l:Lt)(lk:Lk)(t:BL)(a:Pg)(bk:Ln)(ts:List Tm)(m:KV)(y:yf):Prop:=
 if l.1=2 then Um lk a bk t ts m y
 else if l.1=3 then y.2=(a,bk,ts,m)
 else∃w,w=cgW t true (0,0) ts m∧y.2.2.2=(if w.1.1 then w.2.2 else(ts,m))∧(y.1≠0∧y.2.1=a∧y.2.2.1=bk∨y.1=0∧w.1.1=true∧cb y.2.1∧y.2.2.1=w.2.1∧QF bk y.2.2.1 5)
def yg(l:Lt)(a:Int)(la:La):La:=if a=0∧l.1≠2 then Kd la l.1 l.2.1 l.2.2.2.1 else la
def yh(l:Lt)(a:Int)(n:Nw):Prop:=if a=0 then n.1=l.1∧n.2.1=l.2.1∧n.2.2.1=l.2.2.1∧n.2.2.2.1=l.2.2.2.1 else n=jh
def Iw:Ct:=⟨5,⟨[sP 0,sS 1 4,zf 2,(3,true,[.d A3]),sB 4],gk 0++kH 4⟩,[⟨[(0,true,[.d If]),sI 1],clO 0 8++kI 4 7++[cT]++iW 8⟩],λ(l,lk,t,c,h,i,a,e,f,g,j,bk,d,b,m,_)=>
 eO (2≤l.1∧l.1≤4∧0≤l.2.1∧l.2.1<5∧fh f∧t.length≤65536∧b.length+t.length≤4294967296∧bU 1 b∧cb e∧bZ bk∧cu a.2.1 a.2.2.1∧g.length+1000≤10000000)
  (λy:yf×List Fk×Nw=>t7 l lk t e bk b m y.1∧y.2.1.length≤g.length+300∧yh l y.1.1 y.2.2) λy=>(y.2.2,y.1.1,c,h,i,a,y.1.2.1,yg l y.1.1 f,y.2.1,j,d,y.1.2.2.2.2,y.1.2.2.2.1,y.1.2.2.1,())⟩
def a0p:cc:=⟨[sP 0,(7,false,[.ptr 10 0]),(10,false,[.ptr 11 0]),(12,false,[.ptr 12 0]),sI 14],clO 0 8++kI 4 7++[cT]++iW 8++[some (.cells [.d SR]),some (.cells [.d If]),some (.cells [.d If])]⟩
def Ix(x:Iw.inp.den)(y:a0p.den):Prop:=match x,y with
 |(l,lk,t,c,p,q,r,s,u,v,w,bk,d,z,m,_),(e,A,b,f,g,eW,h,i,j,B,C,n,o,D,_,a,_)=>(A,b,f,g,h,j,B,D)=(c,p,q,r,u,w,d,l)∧i.length≤v.length+300∧t7 l lk t s bk z m (e,eW,o,n,C)∧a.1=l.1∧a.2.1=l.2.1∧a.2.2.1=l.2.2.1∧a.2.2.2.1=l.2.2.2.1
def a5x(x:Iw.inp.den):dG:=⟨[],[(10,bM a0p (Ix x) λ_=>0)],[],[],0⟩
theorem Iy(l:Lt)(lk:Lk)(t:BL){a:Pg}(bk:Ln)(ts:List Tm)(m:KV)(h:cb a):∃y,t7 l lk t a bk ts m y:=by
 unfold t7;split
 ·exact Ie _ _ _ _ _ _ h
 ·split
  ·exact⟨(0,_),rfl⟩
  ·exact⟨(1,a,bk,_),_,rfl,rfl, .inl ⟨(by decide:(1:Int)≠0),rfl,rfl⟩⟩
theorem zS(l:Lt)(a:Int):∃n,yh l a n:=by
 unfold yh;split
 ·exact⟨(l.1,l.2.1,l.2.2.1,l.2.2.2.1,false,false,[],()),rfl,rfl,rfl,rfl⟩
 ·exact⟨_,rfl⟩
abbrev gf(v:Nw×Int×Int×BL×BL×Lg×Pg×La×List Fk×KM×Int×KV×List Tm×Ln×Unit):aN Iw.out:=⟨0,v⟩
def QK:bu:=(166,[Iw])::QJ
theorem a0q:KK QK:=kA a0o a5x (∀(c:Lt)(J:Lk)(e:BL)(A:Int)(B C:BL)(r:Lg)(u:Pg)(w:La)(v:List Fk)(D:KM)(s:Ln)(E:Int)(f:List Tm)(z:KV)(Q:aN Iw.out→Prop),let G:=rp e true 5 0 (0,0) [];let H:=(c,J,e,A,B,C,r,u,w,v,D,s,E,f,z,());(Tr.need (2≤c.1∧c.1≤4∧0≤c.2.1∧c.2.1<5∧fh w∧e.length≤65536∧f.length+e.length≤4294967296∧bU 1 f∧cb u∧bZ s∧cu r.2.1 r.2.2.1∧v.length+1000≤10000000) (Tr.all (yf×List Fk×Nw) (λy=>t7 c J e u s f z y.1∧y.2.1.length≤v.length+300∧yh c y.1.1 y.2.2) λy=>Tr.leaf (gf (y.2.2,y.1.1,A,B,C,r,y.1.2.1,yg c y.1.1 w,y.2.1,D,E,y.1.2.2.2.2,y.1.2.2.2.1,y.1.2.2.1,())))).sat Q→e.length≤1099511627776∧(Br (c.1==2) ((bP e 0∧(0:Int)=0∧true=true∧(0:Int)=0∧cb u∧bZ s∧bU 1 f)∧∀(b:(Int×Pg×Ln×List Tm×KV)×Int×Int),Um J u s e f z b.1→Is (Ix H (b.1.1,A,B,C,r,b.1.2.1,w,v,D,E,b.1.2.2.2.2,b.1.2.2.2.1,b.1.2.2.1,c,(0,0,0,0,false,false,[],()),(c.1,c.2.1,c.2.2.1,c.2.2.2.1,false,false,[],()),()))) (Br (c.1==3) ((bP e 0∧bZ s∧v.length+1000≤10000000)∧∀(b:((Bool×Bool×Unit)×List Fk×Int)×List Fk×Int×Int),b.1.2.1.length≤300∧b.2.1.length≤v.length+300→Is (Ix H (b.1.2.2,A,B,C,r,u,w,b.2.1,D,E,z,f,s,c,(0,0,0,0,false,false,[],()),(c.1,c.2.1,c.2.2.1,c.2.2.2.1,b.1.1.1,b.1.1.2.1,b.1.2.1,()),()))) ((bP e 0∧true=true∧e.length≤65536∧f.length+e.length≤4294967296∧cb u∧bZ s∧cu r.2.1 r.2.2.1∧v.length+1≤10000000)∧∀(b:(Bool×(Int×Int)×List Lk)×Ln×List Tm×KV),b=((G.1&&xo true G.2.1==0,G.2),mw G.2.2 f z)→∀(F:WhY),Mm u v s b F→Is (Ix H (F.err,A,B,C,r,F.pg,w,F.fk,D,E,if b.1.1=true then b.2.2.2 else z,if b.1.1=true then b.2.2.1 else f,F.bk,c,(0,0,0,0,false,false,[],()),(c.1,c.2.1,c.2.2.1,c.2.2.2.1,false,false,[],()),())))))∧∀(K g:Int)(h i:BL)(j:Lg)(k:Pg)(d:La)(l:List Fk)(m:KM)(n:Int)(o:KV)(p:List Tm)(q:Ln)(a:Lt)(M t:Nw),let L:Prop:=(a.2.1==4)=false→False∧True;let x:=(l,m,n,o,p,q,());Ix H (K,g,h,i,j,k,d,l,m,n,o,p,q,a,M,t,())→Br (!K==0) (Q (gf ((0,0,0,0,false,false,[],()),K,g,h,i,j,k,d,x))) (Br (!a.1==2) (ae (a.1-3)∧Br (a.1-(3:Int)==0) (Br (a.2.1==0) (Q (gf (t,0,g,h,i,j,k,d.set ((7-1-1-1-1-1-1-1)/5) ((d.getD ((7-1-1-1-1-1-1-1)/5) (ak 5 0)).set ((7-1-1-1-1-1-1-1) % 5/1) a.2.2.2.1),x))) (Br (a.2.1==1) (Q (gf (t,0,g,h,i,j,k,d.set ((8-1-1-1-1-1-1-1)/5) ((d.getD ((8-1-1-1-1-1-1-1)/5) (ak 5 0)).set ((8-1-1-1-1-1-1-1) % 5/1) a.2.2.2.1),x))) (Br (a.2.1==2) (Q (gf (t,0,g,h,i,j,k,d.set ((9-1-1-1-1-1-1-1)/5) ((d.getD ((9-1-1-1-1-1-1-1)/5) (ak 5 0)).set ((9-1-1-1-1-1-1-1) % 5/1) a.2.2.2.1),x))) (Br (a.2.1==3) (Q (gf (t,0,g,h,i,j,k,d.set ((10-1-1-1-1-1-1-1)/5) ((d.getD ((10-1-1-1-1-1-1-1)/5) (ak 5 0)).set ((10-1-1-1-1-1-1-1) % 5/1) a.2.2.2.1),x))) (((a.2.1==4)=true→Q (gf (t,0,g,h,i,j,k,d.set ((11-1-1-1-1-1-1-1)/5) ((d.getD ((11-1-1-1-1-1-1-1)/5) (ak 5 0)).set ((11-1-1-1-1-1-1-1) % 5/1) a.2.2.2.1),x)))∧L))))) (Br (a.1-(3:Int)==1) (Br (a.2.1==0) (Q (gf (t,0,g,h,i,j,k,d.set ((12-1-1-1-1-1-1-1)/5) ((d.getD ((12-1-1-1-1-1-1-1)/5) (ak 5 0)).set ((12-1-1-1-1-1-1-1) % 5/1) a.2.2.2.1),x))) (Br (a.2.1==1) (Q (gf (t,0,g,h,i,j,k,d.set ((13-1-1-1-1-1-1-1)/5) ((d.getD ((13-1-1-1-1-1-1-1)/5) (ak 5 0)).set ((13-1-1-1-1-1-1-1) % 5/1) a.2.2.2.1),x))) (Br (a.2.1==2) (Q (gf (t,0,g,h,i,j,k,d.set ((14-1-1-1-1-1-1-1)/5) ((d.getD ((14-1-1-1-1-1-1-1)/5) (ak 5 0)).set ((14-1-1-1-1-1-1-1) % 5/1) a.2.2.2.1),x))) (Br (a.2.1==3) (Q (gf (t,0,g,h,i,j,k,d.set ((15-1-1-1-1-1-1-1)/5) ((d.getD ((15-1-1-1-1-1-1-1)/5) (ak 5 0)).set ((15-1-1-1-1-1-1-1) % 5/1) a.2.2.2.1),x))) (((a.2.1==4)=true→Q (gf (t,0,g,h,i,j,k,d.set ((16-1-1-1-1-1-1-1)/5) ((d.getD ((16-1-1-1-1-1-1-1)/5) (ak 5 0)).set ((16-1-1-1-1-1-1-1) % 5/1) a.2.2.2.1),x)))∧L))))) (False∧True))) (Q (gf (t,0,g,h,i,j,k,d,x))))) (by kernel_rfl) (by
 conv=>zeta
 unfold Br;intro l lk t c O P R S U W X bk d Y m Q ⟨⟨h1,h2,h3,h4,h5,h6,h7,h8,M,j,D,E⟩,N⟩;have o:∀(y:yf)(f:List Fk)(n:Nw),t7 l lk t S bk Y m y→f.length≤W.length+300→yh l y.1 n→Q ⟨0,(n,y.1,c,O,P,R,y.2.1,yg l y.1 U,f,X,d,y.2.2.2.2,y.2.2.2.1,y.2.2.1,())⟩:=λy f n a b e=>N (y,f,n) ⟨a,b,e⟩;clear N;have F:bP t 0:=⟨by omega,by omega,by omega⟩;refine⟨by omega,⟨λe=>⟨⟨F,rfl,rfl,rfl,M,j,h8⟩,λb G=>⟨rfl,by omega,?_,rfl,rfl,rfl,rfl⟩⟩,λe=>⟨λH=>⟨⟨F,j,E⟩,λb G=>⟨rfl,G.2,?_,rfl,rfl,rfl,rfl⟩⟩,λH=>⟨⟨F,rfl,h6,h7,M,j,D,by omega⟩,λw hw y z=>⟨rfl,by have:=z.1;omega,?_,rfl,rfl,rfl,rfl⟩⟩⟩⟩,?_⟩
 ·unfold t7;rw[an (be e)];exact G
 ·unfold t7;rw[ag (aA e),an (be H)]
 ·unfold t7;rw[ag (aA e),ag (aA H)];refine⟨w,hw,?_,z.2⟩;dsimp only;split<;>rfl
 ·rintro er c1 a5 a6 a7 eW g x a8 d1 J p q i _ nw ⟨A,B,C,n1,n2,n3,n4⟩;simp only[Prod.mk.injEq]at A;obtain⟨f1,f2,f3,f4,f5,f6,f7,f8⟩:=A;subst f1 f2 f3 f4 f5 f6 f7;obtain rfl:i=l:=by obtain⟨_,_,_,_,_,_,_,_⟩:=i;obtain⟨_,_,_,_,_,_,_,_⟩:=l;simpa using f8
  refine⟨λe=>?_,λe=>?_⟩
  ·have e:=jC e;have:=o _ x jh C B (by unfold yh;rw[ag e]);rw[show yg i (er,eW,q,p,J).1 g=g from ag (λh=>e h.1)]at this;exact this
  ·have e:=aD.1 (jX e);subst e;have o:=o _ x nw C B (by unfold yh;rw[an rfl];exact⟨n1,n2,n3,n4⟩);refine⟨λr=>⟨by unfold ae;omega,?_⟩,λr=>?_⟩
   ·have r:=jC r;rw[show yg i ((0:Int),eW,q,p,J).1 g=Kd g i.1 i.2.1 i.2.2.2.1 from an ⟨rfl,r⟩]at o;obtain⟨a0,a1,a2,a3,a4,b0,b1,b2,b3,b4,K⟩:=vx h5;subst K;obtain⟨k,a,e,n,pv,bx,a9,u⟩:=i;dsimp only at*;refine⟨λs=>?_,λs=>⟨λL=>?_,λL=>?_⟩⟩
    case refine_3=>exfalso;simp only[ax,ne_eq]at s L;omega
    all_goals
     first
     |(have s:k=3:=by have:=be s;omega
       subst s)
     |(have s:k=4:=by have:=be L;omega
       subst s)
     refine⟨λv=>?_,λA=>⟨λv=>?_,λB=>⟨λv=>?_,λC=>⟨λv=>?_,λg3=>⟨λv=>?_,λg4=>?_⟩⟩⟩⟩⟩
     case refine_6=>exfalso;simp only[ax,ne_eq]at A B C g3 g4;omega
     all_goals
      have v:=be v;subst v;exact o
   ·have r:=jX r;rw[show yg i ((0:Int),eW,q,p,J).1 g=g from ag (λh=>r h.2)]at o;exact o) (l:=λ_=>aR λh=>by obtain⟨y,z⟩:=Iy _ _ _ _ _ _ h.2.2.2.2.2.2.2.2.1;obtain⟨n,hn⟩:=zS _ y.1;exact⟨(y,[],n),z,aq _,hn⟩)
structure Cl where
 c:Int
 se:BL
 sg:BL
 lg:Lg
 pg:Pg
 la:La
 fk:List Fk
 km:KM
 bk:Ln
def kR(w:Cl):Prop:=0≤w.c∧w.c<5∧aB w.se∧fh w.la∧cb w.pg∧bZ w.bk∧cu w.lg.2.1 w.lg.2.2.1∧w.lg.2.1.length≤100000∧aB w.lg.1
def jR(w:Cl)(l:Lt)(ts:List Tm)(m:KV)(y:yf):Prop:=
 if w.lg.2.1.length<l.2.2.1 then y=(21,w.pg,w.bk,ts,m)
 else if(fQ (cL w.lg.2.1 l.2.2.1) l.2.1).2=false then y=(19,w.pg,w.bk,ts,m)
 else
  let z:=tW (fQ (cL w.lg.2.1 l.2.2.1) l.2.1).1.2.2.1 l ts m
  if z.1.2≠0 then y=(z.1.2,w.pg,w.bk,z.2)
  else
   let k:=zP l z.1.1 w.la w.bk z.2.1 z.2.2
   if k.1≠0 then y=(k.1,w.pg,w.bk,k.2)
   else if(vW w.lg.2.1.reverse l.2.1).2=true∧(l.1≠2∨(vW w.lg.2.1.reverse l.2.1).1<l.2.2.2.1)then y=(19,w.pg,w.bk,k.2)
   else if(aU .i64 l.2.2.1 w.km).isSome=false then y=(22,w.pg,w.bk,k.2)
   else
    let o:=sG ((aU .i64 l.2.2.1 w.km).getD []) l k.2.1 k.2.2
    if o.1.2≠0 then y=(o.1.2,w.pg,w.bk,o.2)else t7 l z.1.1 o.1.1 w.pg w.bk o.2.1 o.2.2 y
theorem BN(w:Cl)(l:Lt)(ts:List Tm)(m:KV)(h:cb w.pg):∃y,jR w l ts m y:=by
 unfold jR;dsimp only
 repeat' split
 all_goals first
  |exact⟨_,rfl⟩
  |exact Iy _ _ _ _ _ _ h
theorem fv{l:Lt}(h:mM l=true):yc l∧l.2.2.2.2.2.1.length≤4112∧jw l∧l.2.2.2.2.2.2.1.length=64:=by
 unfold mM at h;have h:=ai h;have b:=tO ((l.2.2.2.2.2.1.length:Int)-17);obtain⟨a,c,f,e⟩:=h;have b:=b c;have g:=a.2.2.2.2.2.2.2.2;exact⟨a,by omega,⟨by omega,by omega,by omega⟩,e⟩
theorem lcS{sg:BL}{l:Lt}{k:Nat}{ts:List Tm}(m:KV)(a:jw l)(h:bU (k+1) ts):bU k (tW sg l ts m).2.1:=by
 have b:=ol (k:=k) m h (jT (k:=104) (by decide) (by decide) (show aB l.2.2.2.2.2.1 by have:=a.2.1;unfold aB;omega));have c:=h.mono (j:=k) (by omega);unfold tW;rw[ck];dsimp only
 repeat' split
 all_goals first|exact c|exact b
theorem dgS{lk:Lk}{k:Nat}{ts:List Tm}(m:KV)(h:bU (k+1) ts):bU k (lB lk ts m).2.1:=by
 unfold lB;split
 ·rename_i g;exact ol m h (jT (k:=104) (by decide) (by decide) (by have:=pL g;unfold aB;omega))
 ·exact h.mono (by omega)
theorem chS{lk:Lk}{bk:Ln}{k:Nat}{ts:List Tm}(m:KV)(h:bU (k+1) ts):bU k (iB lk bk ts m).2.1:=by
 have a:=h.mono (j:=k) (by omega);unfold iB
 repeat' split
 all_goals first|exact a|exact dgS m h
theorem knS{l:Lt}{lk:Lk}{la:La}{bk:Ln}{k:Nat}{ts:List Tm}(m:KV)(h:bU (k+1) ts):bU k (zP l lk la bk ts m).2.1:=by
 unfold zP;split
 ·exact h.mono (by omega)
 ·exact chS m h
theorem upL(b:BL):(CL b).1.length≤4096:=by
 unfold CL;split
 ·simp
 ·rename_i c r _;split
  ·split
   ·rename_i g;have:=tO r.length g.1;rw[List.length_reverse];omega
   ·simp
  ·simp
theorem loT{ep:BL}{l:Lt}{k:Nat}{ts:List Tm}(m:KV)(h:bU (k+1) ts):bU k (sG ep l ts m).2.1∧(sG ep l ts m).1.1.length≤4096:=by
 have b:=h.mono (j:=k) (by omega);unfold sG;rw[ck];split
 ·exact⟨b,by simp⟩
 ·rename_i g;have a:=(loA (l:=l) m (show aB ep by unfold aB;omega) h).1
  repeat' split
  ·exact⟨a,by simp⟩
  ·exact⟨a,by simp⟩
  ·exact⟨a,upL _⟩
theorem Uw(l:List Mb)(id:Int):(fQ l id).1=y8∨(fQ l id).1∈l:=by
 induction l with
 |nil=>exact .inl rfl
 |cons a r b=>
  unfold fQ;split
  ·exact .inr (aM ..)
  ·rcases b with h|h
   ·exact .inl h
   ·exact .inr (aE _ h)
theorem vz{es:List Et}{n:Int}{x:Mb}(h:x∈cL es n):∃e∈es,x∈e.2.2.1:=by
 unfold cL at h;split at h
 ·simp at h
 ·exact⟨_,aT (by omega),h⟩
theorem sgN{es:List Et}{a:List BL}(h:cu es a)(n id:Int):aB (fQ (cL es n) id).1.2.2.1:=by
 rcases Uw (cL es n) id with g|g
 ·rw[g];exact aq _
 ·obtain⟨e,b,c⟩:=vz g;have:=(h.2.2.2 e b _ c).2;unfold aB;omega
def Iz:Ct:=⟨3,⟨[sP 0,sS 1 4,zf 2],gk 0++kH 4⟩,[⟨[(0,true,[.d If]),sI 1],clO 0 8++kI 4 7++[cT]++iW 8⟩],λ(l,c,b,e,f,i,g,a,h,bk,d,j,m,_)=>
 eO (mM l=true∧kR ⟨c,b,e,f,i,g,a,h,bk⟩∧a.length+2000≤10000000∧bU 10000 j)
  (λy:yf×List Fk×Nw=>jR ⟨c,b,e,f,i,g,a,h,bk⟩ l j m y.1∧y.2.1.length≤a.length+400∧yh l y.1.1 y.2.2) λy=>(y.2.2,y.1.1,c,b,e,f,y.1.2.1,yg l y.1.1 g,y.2.1,h,d,y.1.2.2.2.2,y.1.2.2.2.1,y.1.2.2.1,())⟩
abbrev kS(v:Nw×Int×Int×BL×BL×Lg×Pg×La×List Fk×KM×Int×KV×List Tm×Ln×Unit):aN Iz.out:=⟨0,v⟩
def QL:bu:=(128,[Iz])::QK
theorem a0r:KK QL:=kA a0q (cv Iz 0) (∀(a:Lt)(j:Int)(k l:BL)(d:Lg)(i:Pg)(g:La)(o:List Fk)(f:KM)(h:Ln)(m:Int)(p:List Tm)(q:KV)(Q:aN Iz.out→Prop),let w:Prop:=(↑(ac d.2.1):Int)<a.2.2.1;let s:=(j,k,l,d,i,g,o,f,m,q,p,h,());let t:=aU Ty.i64 a.2.2.1 f;let u:=vW (List.reverse d.2.1) a.2.1;(Ct.spec Iz (a,j,k,l,d,i,g,o,f,h,m,p,q,())).sat Q→True∧Br (decide w) (Q (kS ((0,0,0,0,false,false,[],()),21,s))) (cu d.2.1 d.2.2.1∧∀(b:Mb×Bool),b=fQ (cL d.2.1 a.2.2.1) a.2.1→Br (!b.2) (Q (kS ((0,0,0,0,false,false,[],()),19,s))) ((aB b.1.2.2.1∧jw a∧bU 1 p)∧∀(n:(Lk×Int)×List Tm×KV),n=tW b.1.2.2.1 a p q→Br (!n.1.2==0) (Q (kS ((0,0,0,0,false,false,[],()),n.1.2,j,k,l,d,i,g,o,f,m,n.2.2,n.2.1,h,()))) ((2≤a.1∧a.1≤4∧0≤a.2.1∧a.2.1<5∧fh g∧bZ h∧o.length+1≤10000000∧bU 1 n.2.1)∧∀(c:(Int×List Tm×KV)×List Fk),let r:=(j,k,l,d,i,g,c.2,f,m,c.1.2.2,c.1.2.1,h,());let v:=kS ((0,0,0,0,false,false,[],()),19,r);let z:Prop:=Br (!t.isSome) (Q (kS ((0,0,0,0,false,false,[],()),22,r))) ((jw a∧bU 1 c.1.2.1)∧∀(b:(BL×Int)×List Tm×KV),b=sG (t.getD []) a c.1.2.1 c.1.2.2→Br (!b.1.2==0) (Q (kS ((0,0,0,0,false,false,[],()),b.1.2,j,k,l,d,i,g,c.2,f,m,b.2.2,b.2.1,h,()))) ((2≤a.1∧a.1≤4∧0≤a.2.1∧a.2.1<5∧fh g∧ac b.1.1≤65536∧b.2.1.length+ac b.1.1≤4294967296∧bU 1 b.2.1∧cb i∧bZ h∧cu d.2.1 d.2.2.1∧c.2.length+1000≤10000000)∧∀(e:(Int×Pg×Ln×List Tm×KV)×List Fk×Nw),t7 a n.1.1 b.1.1 i h b.2.1 b.2.2 e.1∧e.2.1.length≤c.2.length+300∧yh a e.1.1 e.2.2→Q (kS (e.2.2,e.1.1,j,k,l,d,e.1.2.1,yg a e.1.1 g,e.2.1,f,m,e.1.2.2.2.2,e.1.2.2.2.1,e.1.2.2.1,()))));c.2.length≤o.length+1∧c.1=zP a n.1.1 g h n.2.1 n.2.2→Br (!c.1.1==0) (Q (kS ((0,0,0,0,false,false,[],()),c.1.1,r))) (cu d.2.1 d.2.2.1∧Br (u.2) (Br (!a.1==2) (Q v) (Br (decide (u.1<a.2.2.2.1)) (Q v) z)) z))))) (by kernel_rfl) (by
 conv=>zeta
 unfold Br;intro l c q r g o j u i bk d B m Q ⟨⟨h1,h2,h3,Y⟩,hQ⟩;have p:∀(y:yf)(f:List Fk)(n:Nw),jR ⟨c,q,r,g,o,j,u,i,bk⟩ l B m y→f.length≤u.length+400→yh l y.1 n→Q ⟨0,(n,y.1,c,q,r,g,y.2.1,yg l y.1 j,f,i,d,y.2.2.2.2,y.2.2.2.1,y.2.2.1,())⟩:=λy f n a b e=>hQ (y,f,n) ⟨a,b,e⟩;clear hQ;obtain⟨p1,p2,p3,K,p5,L,w,p8,p9⟩:=h2;obtain⟨s,l2,M,l4⟩:=fv h1;dsimp only at p1 p2 p3 K p5 L w p8 p9
 have bad:∀(x:Int)(f:List Fk)(C:List Tm)(D:KV),x≠0→jR ⟨c,q,r,g,o,j,u,i,bk⟩ l B m (x,o,bk,C,D)→f.length≤u.length+400→Q ⟨0,(jh,x,c,q,r,g,o,j,f,i,d,D,C,bk,())⟩:=by
  intro x f C D he hr N;have:=p _ f jh hr N (by unfold yh;rw[ag he]);rw[show yg l (x,o,bk,C,D).1 j=j from ag (λh=>he h.1)]at this;exact this
 unfold jR at bad p;dsimp only at bad p;refine⟨trivial,λe=>bad 21 u B m (by decide) (by rw[an (ai e)]) (by omega),λE=>⟨w,λz F=>⟨λe=>?_,λO=>⟨⟨?_,M,Y.mono (by omega)⟩,λy A=>?_⟩⟩⟩⟩
 ·exact bad 19 u B m (by decide) (by rw[ag (am E),an (by rw[←F];simpa using e)]) (by omega)
 ·rw[F];exact sgN w _ _
 have E:=am E;have O:¬z.2=false:=by simpa using O
 have P:=lcS (sg:=z.1.2.2.1) (k:=9999) m M Y;rw[←A]at P;simp only[ag E,←F,ag O,←A]at bad p;clear F A;refine⟨λe=>bad _ u _ _ (jC e) (by rw[an (jC e)]) (by omega),λe3=>⟨⟨s.1,s.2.1,s.2.2.1,s.2.2.2.1,K,L,by omega,P.mono (by omega)⟩,?_⟩⟩;simp only[ag (jX e3)]at bad p;rintro⟨k,f⟩ ⟨N,G⟩;dsimp only at N G;have R:=knS (l:=l) (lk:=y.1.1) (la:=j) (bk:=bk) (k:=9998) y.2.2 P;rw[←G]at R;simp only[←G]at bad p;clear G;refine⟨λe=>bad _ f _ _ (jC e) (by rw[an (jC e)]) (by omega),λe4=>⟨w,?_⟩⟩;simp only[ag (jX e4)]at bad p
 have tail:¬((vW g.2.1.reverse l.2.1).2=true∧(l.1≠2∨(vW g.2.1.reverse l.2.1).1<l.2.2.2.1))→((!(aU Ty.i64 l.2.2.1 i).isSome)=true→Q ⟨0,(jh,22,c,q,r,g,o,j,f,i,d,k.2.2,k.2.1,bk,())⟩)∧((!(aU Ty.i64 l.2.2.1 i).isSome)=false→(jw l∧bU 1 k.2.1)∧∀b,b=sG ((aU Ty.i64 l.2.2.1 i).getD []) l k.2.1 k.2.2→((!b.1.2==0)=true→Q ⟨0,(jh,b.1.2,c,q,r,g,o,j,f,i,d,b.2.2,b.2.1,bk,())⟩)∧((!b.1.2==0)=false→(2≤l.1∧l.1≤4∧0≤l.2.1∧l.2.1<5∧fh j∧b.1.1.length≤65536∧b.2.1.length+b.1.1.length≤4294967296∧bU 1 b.2.1∧cb o∧bZ bk∧cu g.2.1 g.2.2.1∧f.length+1000≤10000000)∧∀v:yf×List Fk×Nw,t7 l y.1.1 b.1.1 o bk b.2.1 b.2.2 v.1∧v.2.1.length≤f.length+300∧yh l v.1.1 v.2.2→Q ⟨0,(v.2.2,v.1.1,c,q,r,g,v.1.2.1,yg l v.1.1 j,v.2.1,i,d,v.1.2.2.2.2,v.1.2.2.2.1,v.1.2.2.1,())⟩)):=by
  intro e5;simp only[ag e5]at bad p;refine⟨λe=>bad 22 f _ _ (by decide) (by rw[an (by simpa using e)]) (by omega),λH=>⟨⟨M,R.mono (by omega)⟩,λb S=>?_⟩⟩;have H:¬(aU Ty.i64 l.2.2.1 i).isSome=false:=λh=>by rw[h]at H;cases H
  have U:=loT (ep:=(aU Ty.i64 l.2.2.1 i).getD []) (l:=l) (k:=9997) k.2.2 R;rw[←S]at U;simp only[ag H,←S]at bad p;clear S;refine⟨λe=>bad _ f _ _ (jC e) (by rw[an (jC e)]) (by omega),λe7=>⟨⟨s.1,s.2.1,s.2.2.1,s.2.2.2.1,K,by omega,by have:=U.1.2;omega,U.1.mono (by omega),p5,L,w,by omega⟩,λv hv=>p v.1 v.2.1 v.2.2 (by rw[ag (jX e7)];exact hv.1) (by omega) hv.2.2⟩⟩
 have t:(vW g.2.1.reverse l.2.1).2=true∧(l.1≠2∨(vW g.2.1.reverse l.2.1).1<l.2.2.2.1)→Q ⟨0,(jh,19,c,q,r,g,o,j,f,i,d,k.2.2,k.2.1,bk,())⟩:=λe=>bad 19 f _ _ (by decide) (by rw[an e]) (by omega);refine⟨λJ=>⟨λW=>t ⟨J, .inl (jC W)⟩,λW=>⟨λX=>t ⟨J, .inr (ai X)⟩,λX=>tail λh=>?_⟩⟩,λJ=>tail λh=>by rw[J]at h;exact absurd h.1 (by decide)⟩;rcases h.2 with h|h
 ·exact jX W h
 ·exact am X h) (l:=λ_=>aR λh=>by obtain⟨y,A⟩:=BN _ _ _ _ h.2.1.2.2.2.2.1;obtain⟨n,hn⟩:=zS _ y.1;exact⟨(y,[],n),A,aq _,hn⟩)
abbrev Mn:=(Int×Nw)×Cl×List Tm×KV
def oA(w:Cl)(b:BL)(ts:List Tm)(m:KV)(y:Mn):Prop:=
 if 65536<b.length then y=((2,jh),w,ts,m)
 else
  let k:=cR b 0 true 0 1 4
  if k.2.2≠0 then y=((k.2.2,jh),w,ts,m)
  else if k.1=1 then
   let x:=lQ b true (0,0)
   if dM b x.2.1 true x.2.2≠0 then y=((dM b x.2.1 true x.2.2,jh),w,ts,m)
   else
    let r:=rK w.c w.se w.lg w.km x.1 ts m
    y=((r.1.2,r.1.1),{w with lg:=r.2.1,km:=r.2.2.1},r.2.2.2)
  else
   let x:=mN b true (0,0)
   if dM b x.2.1 true x.2.2≠0 then y=((dM b x.2.1 true x.2.2,jh),w,ts,m)
   else∃z f n,jR w x.1 ts m z∧f.length≤w.fk.length+400∧yh x.1 z.1 n∧y=((z.1,n),{w with pg:=z.2.1,la:=yg x.1 z.1 w.la,fk:=f,bk:=z.2.2.1},z.2.2.2)
theorem IA(w:Cl)(b:BL)(ts:List Tm)(m:KV)(h:cb w.pg):∃y,oA w b ts m y:=by
 unfold oA;dsimp only
 repeat' split
 all_goals first
  |exact⟨_,rfl⟩
  |(obtain⟨z,a⟩:=BN w (mN b true (0,0)).1 ts m h
    obtain⟨n,c⟩:=zS (mN b true (0,0)).1 z.1;exact⟨_,z,[],n,a,aq _,c,rfl⟩)
theorem a5y{b:BL}{a:Int}(m:Bool)(e:Int)(h:bP b a):bP b (N7 b m (a,e)).2.1:=by
 exact(mL m _ 64 (Lj (λa e=>FP m e) _ (mL m _ 64 (Lj (λa e=>FO m e) _ (Lj (λa e=>FN m e) _ (mL m _ 64 (eD m _ 1 65536 (eD m e 1 1 h).1).1).1).1).1).1).1).1
theorem a5z{b:BL}{a:Int}(m:Bool)(e:Int)(h:bP b a):bP b (J9 b m (a,e)).2.1:=by
 exact(mL m _ 64 (mL m _ 4112 (mL m _ 64 (eD m _ 1 1048576 (eD m _ 1 65536 (eD m _ 0 4 (eD m e 2 4 h).1).1).1).1).1).1).1
theorem Ux{b:BL}{a e:Int}(h:dM b a true e=0):e=0∧(b.length:Int)≤a:=by
 unfold dM at h;simp only[if_true]at h;split at h
 ·contradiction
 ·split at h
  ·cases h
  ·omega
theorem QM{b:BL}(h:bP b 0):bP b (lQ b true (0,0)).2.1∧(dM b (lQ b true (0,0)).2.1 true (lQ b true (0,0)).2.2=0→lQ b true (0,0)=N7 b true (0,0)∧lD (lQ b true (0,0)).1=true):=by
 have a:=a5y true 0 h;unfold lQ;rw[ck];dsimp only;refine⟨a,λg=>?_⟩;have g:=(Ux g).1;cases c:lD (N7 b true (0,0)).1 with
 |true=>
  rw[c]at g;simp only[if_true]at g⊢;rw[an g];exact⟨rfl,c⟩
 |false=>
  rw[c]at g;exfalso;simp only[cf,if_false,fL]at g;split at g
  ·cases g
  ·rename_i h;exact h (by simpa using g)
theorem Uy{b:BL}(h:bP b 0):bP b (mN b true (0,0)).2.1∧(dM b (mN b true (0,0)).2.1 true (mN b true (0,0)).2.2=0→mN b true (0,0)=J9 b true (0,0)∧mM (mN b true (0,0)).1=true):=by
 have a:=a5z true 0 h;unfold mN;rw[ck];dsimp only;refine⟨a,λg=>?_⟩;have g:=(Ux g).1;cases c:mM (J9 b true (0,0)).1 with
 |true=>
  rw[c]at g;simp only[if_true]at g⊢;rw[an g];exact⟨rfl,c⟩
 |false=>
  rw[c]at g;exfalso;simp only[cf,if_false,fL]at g;split at g
  ·cases g
  ·rename_i h;exact h (by simpa using g)
theorem kT{e:Et}(h:lD e=true):xJ e:=by
 obtain⟨j,l,n,a,f,o,p,q⟩:=kK h;obtain⟨r,s,t,g,u⟩:=gw a;have v:=oq a;have w:=va a 48 (λb c=>by rw[f b c];omega);refine⟨⟨by omega,by omega,by omega⟩,by omega,by omega,by unfold aB;omega,λm i=>?_,λb c=>?_,by unfold aB;omega⟩
 ·have:=g m i;unfold uZ at this;omega
 ·have:=f b c;unfold aB;omega
def IB:Ct:=⟨3,⟨[sP 0,sS 1 4,sB 2],gk 0++kH 4⟩,[⟨[(0,true,[.d If]),sI 1],clO 0 8++kI 4 7++[cT]++iW 8⟩],λ(b,c,e,f,g,h,i,a,j,bk,d,l,m,_)=>
 eO (b.length≤10000000∧kR ⟨c,e,f,g,h,i,a,j,bk⟩∧a.length+2000≤10000000∧bU 10000 l)
  (λy:Mn=>oA ⟨c,e,f,g,h,i,a,j,bk⟩ b l m y) λy=>(y.1.2,y.1.1,y.2.1.c,y.2.1.se,y.2.1.sg,y.2.1.lg,y.2.1.pg,y.2.1.la,y.2.1.fk,y.2.1.km,d,y.2.2.2,y.2.2.1,y.2.1.bk,())⟩
abbrev oC(v:Nw×Int×Int×BL×BL×Lg×Pg×La×List Fk×KM×Int×KV×List Tm×Ln×Unit):aN IB.out:=⟨0,v⟩
def QN:bu:=(80,[IB])::QL
theorem a0s:KK QN:=kA a0r (cv IB 0) (∀(c:BL)(f:Int)(e h:BL)(d:Lg)(l:Pg)(i:La)(g:List Fk)(j:KM)(m:Ln)(n:Int)(k:List Tm)(o:KV)(Q:aN IB.out→Prop),let p:=Cl.mk f e h d l i g j m;let z:=(f,e,h,d,l,i,g,j,n,o,k,m,());(Ct.spec IB (c,f,e,h,d,l,i,g,j,m,n,k,o,())).sat Q→Br (decide (65536<(↑c.length:Int))) (Q (oC ((0,0,0,0,false,false,[],()),2,z))) (c.length≤1099511627776∧bP c 0∧∀(b:Int×Int×Int),let q:= !(if true=true then b.2.2 else 5)==0;b=cR c 0 true 0 1 4→True∧Br q (Q (oC ((0,0,0,0,false,false,[],()),if true=true then b.2.2 else 5,z))) (c.length≤1099511627776∧Br (b.1==1) (bP c 0∧∀(b:Et×Int×Int),let r:= !dM c b.2.1 true b.2.2==0;b=lQ c true (0,0)→bP c b.2.1∧Br r (Q (oC ((0,0,0,0,false,false,[],()),dM c b.2.1 true b.2.2,z))) ((xJ b.1∧aB e∧aB d.1∧cu d.2.1 d.2.2.1∧ac d.2.1≤100000∧bU 20 k)∧∀(a:(Nw×Int)×Lg×KM×List Tm×KV),a=rK f e d j b.1 k o→Q (oC (a.1.1,a.1.2,f,e,h,a.2.1,l,i,g,a.2.2.1,n,a.2.2.2.2,a.2.2.2.1,m,())))) (bP c 0∧∀(b:Lt×Int×Int),let s:= !dM c b.2.1 true b.2.2==0;b=mN c true (0,0)→bP c b.2.1∧Br s (Q (oC ((0,0,0,0,false,false,[],()),dM c b.2.1 true b.2.2,z))) ((mM b.1=true∧kR p∧g.length+2000≤10000000∧bU 10000 k)∧∀(a:(Int×Pg×Ln×List Tm×KV)×List Fk×Nw),jR p b.1 k o a.1∧a.2.1.length≤g.length+400∧yh b.1 a.1.1 a.2.2→Q (oC (a.2.2,a.1.1,f,e,h,d,a.1.2.1,yg b.1 a.1.1 i,a.2.1,j,n,a.1.2.2.2.2,a.1.2.2.2.1,a.1.2.2.1,()))))))) (by kernel_rfl) (by
 conv=>zeta
 unfold Br;intro b c g i p q j s u bk d v m Q ⟨⟨L,y,K,E⟩,F⟩;have a:∀(B:Int)(n:Nw)(w:Cl)(t:List Tm)(k:KV),oA ⟨c,g,i,p,q,j,s,u,bk⟩ b v m ((B,n),w,t,k)→Q ⟨0,(n,B,w.c,w.se,w.sg,w.lg,w.pg,w.la,w.fk,w.km,d,k,t,w.bk,())⟩:=λB n w t k h=>F _ h;clear F;have f:bP b 0:=⟨by omega,by omega,by omega⟩;have G:b.length≤1099511627776:=by omega
 unfold oA at a;dsimp only at a;refine⟨λe=>a 2 jh ⟨c,g,i,p,q,j,s,u,bk⟩ v m (by rw[an (by have:=ai e;omega)]),λC=>⟨G,f,λk H=>⟨trivial,?_⟩⟩⟩;have C:¬65536<b.length:=by have:=am C;omega
 simp only[ag C,←H]at a;simp only[if_true];clear H;refine⟨λe=>a _ jh ⟨c,g,i,p,q,j,s,u,bk⟩ v m (by rw[an (jC e)]),λJ=>⟨G,λD=>⟨f,λx z=>?_⟩,λD=>⟨f,λx z=>?_⟩⟩⟩
 ·simp only[ag (jX J),an (be D),←z]at a;have o:=QM f;rw[←z]at o;refine⟨o.1,λe=>a _ jh ⟨c,g,i,p,q,j,s,u,bk⟩ v m (by rw[an (jC e)]),λA=>⟨⟨kT (o.2 (aD.1 (jX A))).2,y.2.2.1,y.2.2.2.2.2.2.2.2,y.2.2.2.2.2.2.1,y.2.2.2.2.2.2.2.1,E.mono (by omega)⟩,λr f=>?_⟩⟩;exact a r.1.2 r.1.1 ⟨c,g,i,r.2.1,q,j,s,r.2.2.1,bk⟩ r.2.2.2.1 r.2.2.2.2 (by rw[ag (jX A),←f])
 ·simp only[ag (jX J),ag (aA D),←z]at a;have o:=Uy f;rw[←z]at o;refine⟨o.1,λe=>a _ jh ⟨c,g,i,p,q,j,s,u,bk⟩ v m (by rw[an (jC e)]),λA=>⟨⟨(o.2 (aD.1 (jX A))).2,y,K,E⟩,λr f=>?_⟩⟩;exact a r.1.1 r.2.2 ⟨c,g,i,p,r.1.2.1,yg x.1 r.1.1 j,r.2.1,u,r.1.2.2.1⟩ r.1.2.2.2.1 r.1.2.2.2.2 (by rw[ag (jX A)];exact⟨r.1,r.2.1,r.2.2,f.1,f.2.1,f.2.2,rfl⟩)) (l:=λ_=>aR λh=>IA _ _ _ _ h.2.1.2.2.2.2.1)
def Sd(b:BL)(a:Int)(x:BL)(c:Int):Prop:=b.drop a.toNat=x++b.drop c.toNat
theorem Sd.trans{b x y:BL}{a e c:Int}(h:Sd b a x e)(h':Sd b e y c):Sd b a (x++y) c:=by
 unfold Sd at*;rw[h,h',ay]
theorem kU{b:BL}{a e lo hi:Int}(i:bP b a)(h:(cR b a true e lo hi).2.2=0):e=0∧bP b (cR b a true e lo hi).2.1∧Sd b a (vn (cR b a true e lo hi).1) (cR b a true e lo hi).2.1∧lo≤(cR b a true e lo hi).1∧(cR b a true e lo hi).1≤hi:=by
 have c:=(eD true e lo hi i).1;unfold cR at h c⊢;split at h
 ·rename_i g;rw[an g]at c⊢;have g:e=0:=by simpa using g
  split at h
  ·rename_i f;rw[an f]at c⊢;split at h
   ·cases h
   ·rename_i l;rw[ag l]at c⊢;obtain⟨j,m,n,o⟩:=Ou f;dsimp only at c⊢;refine⟨g,c,?_,by omega,by omega⟩;unfold Sd;rw[jf]at j;have p:=i.2.1;have:(a+(fy 0 0 (b.drop a.toNat)).2.1).toNat=a.toNat+(fy 0 0 (b.drop a.toNat)).2.1.toNat:=by omega
    rw[this];exact j
  ·rename_i f;exact absurd h f
 ·rename_i g;have h:e=0:=h;exact absurd (by rw[h];rfl) g
theorem a7h{b:BL}{a e lo hi:Int}(h:(cR b a true e lo hi).2.2=0):e=0:=by
 unfold cR at h;split at h
 ·rename_i g;simpa using g
 ·exact h
theorem lS{b:BL}{a e n:Int}(m:bP b a)(h:(gj b a true e n).2.2=0):e=0∧bP b (gj b a true e n).2.1∧Sd b a (tx (gj b a true e n).1) (gj b a true e n).2.1∧(gj b a true e n).1.length≤n.toNat:=by
 have j:=mL true e n m;have f:=j.1;have o:=j.2.2;refine⟨?_,f,?_,o⟩
 ·unfold gj at h;split at h
  ·rename_i g;simpa using g
  ·exact h
 clear j o;unfold gj at h f⊢;split at h
 ·rename_i g;rw[an g]at f⊢;have g:e=0:=by simpa using g
  split at h
  ·rename_i i;rw[an i]at f⊢;split at h
   ·cases h
   ·rename_i q;rw[ag q]at f⊢;split at h
    ·cases h
    ·rename_i r;rw[ag r]at f⊢;obtain⟨l,w,x,y⟩:=Ou i;have A:=m.2.1;rw[jf]at l;have p:(a+(fy 0 0 (b.drop a.toNat)).2.1).toNat=a.toNat+(fy 0 0 (b.drop a.toNat)).2.1.toNat:=by omega
     generalize B:fy 0 0 (b.drop a.toNat)=G at*;obtain⟨v,c,z⟩:=G;dsimp only at*;subst g;unfold ya;rw[an (show(true&&(0:Int)==0)=true from rfl)];unfold Sd tx;split
     ·rename_i s;have:v=0:=by omega
      subst this;show b.drop a.toNat=(vn (0:Nat)++[])++b.drop (a+c).toNat;rw[p,bj];exact l
     ·rename_i s;rw[ag (by omega)];dsimp only
      have t:(((b.take (a+c+v).toNat).drop (a+c).toNat).length:Int)=v:=by
       rw[cD,bi];omega
      have u:b.drop (a+c).toNat=(b.take (a+c+v).toNat).drop (a+c).toNat++b.drop (a+c+v).toNat:=by
       conv=>lhs;rw[←dC (a+c+v).toNat b]
       rw[List.drop_append_of_le_length (by rw[bi];omega)]
      rw[t,l,ay,←p,←u]
  ·rename_i i;exact absurd h i
 ·rename_i g;have h:e=0:=h;exact absurd (by rw[h];rfl) g
theorem IC{b:BL}{a e:Int}(f:bP b a)(h:dM b a true e=0):e=0∧b.drop a.toNat=[]:=by
 obtain⟨c,g⟩:=Ux h;exact⟨c,bw (by omega)⟩
theorem a0t{b:BL}(f:bP b 0)(h:dM b (mN b true (0,0)).2.1 true (mN b true (0,0)).2.2=0):b=hX (mN b true (0,0)).1∧mM (mN b true (0,0)).1=true:=by
 obtain⟨u,v⟩:=(Uy f).2 h;refine⟨?_,v⟩;have w:=(Uy f).1;obtain⟨i,j⟩:=IC w h;rw[u]at i j w⊢;clear h u v;unfold J9 at i j⊢;dsimp only at i j⊢;have y:=(eD true 0 2 4 f).1;generalize z:cR b 0 true 0 2 4=k at*;have A:=(eD true k.2.2 0 4 y).1;generalize a:cR b k.2.1 true k.2.2 0 4=l at*;have B:=(eD true l.2.2 1 65536 A).1;generalize c:cR b l.2.1 true l.2.2 1 65536=m at*;have C:=(eD true m.2.2 1 1048576 B).1;generalize D:cR b m.2.1 true m.2.2 1 1048576=n at*;have E:=(mL true n.2.2 64 C).1;generalize F:gj b n.2.1 true n.2.2 64=p at*;have K:=(mL true p.2.2 4112 E).1;generalize G:gj b p.2.1 true p.2.2 4112=x at*;have H:=lS (n:=64) K i;generalize L:gj b x.2.1 true x.2.2 64=g at*;have o:=lS (n:=4112) (e:=p.2.2) E (by rw[G];exact H.1);rw[G]at o;have q:=lS (n:=64) (e:=n.2.2) C (by rw[F];exact o.1);rw[F]at q;have r:=kU (lo:=1) (hi:=1048576) (e:=m.2.2) B (by rw[D];exact q.1);rw[D]at r;have s:=kU (lo:=1) (hi:=65536) (e:=l.2.2) A (by rw[c];exact r.1);rw[c]at s;have t:=kU (lo:=0) (hi:=4) (e:=k.2.2) y (by rw[a];exact s.1);rw[a]at t;have J:=kU (lo:=2) (hi:=4) (e:=0) f (by rw[z];exact t.1);rw[z]at J;have:=(((((J.2.2.1.trans t.2.2.1).trans s.2.2.1).trans r.2.2.1).trans q.2.2.1).trans o.2.2.1).trans H.2.2.1;unfold Sd at this;rw[j,bj]at this;show b.drop (0:Int).toNat=_;rw[this];rfl
theorem QO{α:Type}{b:BL}{f:α→BL}{one:Rs→α×Rs}(j:∀a e,bP b a→bP b (one (a,e)).2.1)(h:∀a e,bP b a→(one (a,e)).2.2=0→e=0∧Sd b a (f (one (a,e)).1) (one (a,e)).2.1):∀(k:Nat)(s:Rs)(c:List α),bP b s.1→(xt one k s c).2.2=0→
 s.2=0∧∃l,(xt one k s c).1=c++l∧l.length=k∧Sd b s.1 (fl f l) (xt one k s c).2.1
 |0,s,c,i,g=>⟨g,[],by simp[xt],rfl,by simp[Sd,fl,xt]⟩
 |k+1,s,c,i,g=>by
  obtain⟨a,e⟩:=s;simp only[xt]at g⊢;have m:=j a e i;obtain⟨n,l,o,p,q⟩:=QO j h k (one (a,e)).2 (c++[(one (a,e)).1]) m g;obtain⟨r,t⟩:=h a e i n;exact⟨r,(one (a,e)).1::l,by rw[o];simp,by simp[p],by have:=t.trans q;simpa[fl]using this⟩
theorem IE{α:Type}{b:BL}{f:α→BL}{one:BL→Bool→Rs→α×Rs}(i:∀a e,bP b a→bP b (one b true (a,e)).2.1)(h:∀a e,bP b a→(one b true (a,e)).2.2=0→e=0∧Sd b a (f (one b true (a,e)).1) (one b true (a,e)).2.1){s:Rs}(c:bP b s.1)(g:(nL one b true s).2.2=0):
 s.2=0∧Sd b s.1 (vn (nL one b true s).1.length++fl f (nL one b true s).1) (nL one b true s).2.1:=by
 obtain⟨a,e⟩:=s;unfold nL at g⊢;dsimp only at g c⊢;have j:=(eD true e 0 5 c).1;obtain⟨m,l,n,o,p⟩:=QO i h _ _ [] j g;have q:=kU c m;refine⟨q.1,?_⟩;rw[n,eG,o,pm q.2.2.2.1];exact q.2.2.1.trans p
theorem a0u{b:BL}(c:bP b 0)(h:dM b (lQ b true (0,0)).2.1 true (lQ b true (0,0)).2.2=0):b=gO (lQ b true (0,0)).1∧lD (lQ b true (0,0)).1=true:=by
 obtain⟨D,E⟩:=(QM c).2 h;refine⟨?_,E⟩;have F:=(QM c).1;obtain⟨i,t⟩:=IC F h;rw[D]at i t F⊢;clear h D E;unfold N7 at i t⊢;dsimp only at i t⊢;have G:=(eD true 0 1 1 c).1;generalize H:cR b 0 true 0 1 1=k at*;have J:=(eD true k.2.2 1 65536 G).1;generalize K:cR b k.2.1 true k.2.2 1 65536=n at*;have L:=(mL true n.2.2 64 J).1;generalize M:gj b n.2.1 true n.2.2 64=p at*;have N:=(Lj (λa e=>FN true e) p.2 L).1;generalize j:nL CT b true p.2=v at*;have O:=(Lj (λa e=>FO true e) v.2 N).1;generalize l:nL CU b true v.2=u at*;have P:=(mL true u.2.2 64 O).1;generalize m:gj b u.2.1 true u.2.2 64=w at*;have W:=(Lj (λa e=>FP true e) w.2 P).1;generalize o:nL CV b true w.2=Q at*;have R:=lS (n:=64) W i;generalize Y:gj b Q.2.1 true Q.2.2 64=g at*;have x:=IE (f:=tx) (one:=CV) (s:=w.2) (λa e=>FP true e) (λa e c i=>⟨(lS c i).1,(lS c i).2.2.1⟩) P (by rw[o];exact R.1);rw[o]at x;have y:=lS (n:=64) (e:=u.2.2) O (by rw[m];exact x.1);rw[m]at y
 have z:=IE (f:=rq) (one:=CU) (s:=v.2) (λa e=>FO true e) (λa e c i=>by
  have q:=kU (eD true e 0 4 c).1 i;have r:=kU c q.1;exact⟨r.1,r.2.2.1.trans q.2.2.1⟩) N (by rw[l];exact y.1)
 rw[l]at z
 have A:=IE (f:=py) (one:=CT) (s:=p.2) (λa e=>FN true e) (λa e c i=>by
  have S:=lS (mL true _ 64 (eD true e 0 4 c).1).1 i;have q:=lS (eD true e 0 4 c).1 S.1;have r:=kU c q.1;exact⟨r.1,(r.2.2.1.trans q.2.2.1).trans S.2.2.1⟩) L (by rw[j];exact z.1)
 rw[j]at A;have B:=lS (n:=64) (e:=n.2.2) J (by rw[M];exact A.1);rw[M]at B;have C:=kU (lo:=1) (hi:=65536) (e:=k.2.2) G (by rw[K];exact B.1);rw[K]at C;have U:=kU (lo:=1) (hi:=1) (e:=0) c (by rw[H];exact C.1);rw[H]at U;have X:k.1=1:=by omega
 have:=(((((((U.2.2.1.trans C.2.2.1).trans B.2.2.1).trans A.2).trans z.2).trans y.2.2.1).trans x.2).trans R.2.2.1);unfold Sd at this;rw[t,bj,X]at this;show b.drop (0:Int).toNat=_;rw[this];simp only[gO,dL,fP,ay]
end Go.Tp
