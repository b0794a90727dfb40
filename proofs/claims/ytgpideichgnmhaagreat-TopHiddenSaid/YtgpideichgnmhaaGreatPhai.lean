/- A part of the proof of TopHiddenSaid: no conditions; packed by a program of our own. -/
import Derived.Test.YtgpideichgnmhaaGreatPhah
import Derived.Test.YtgpideichgnmhaaGreatPhaa
import Derived.Shelf.Spec.SlicesInsertGrow
set_option linter.defProp false
set_option linter.unusedVariables false
set_option linter.unusedSimpArgs false
open And renaming intro→ck
open BitVec renaming ofInt→bf,ofNat→ag
open Bool renaming and_eq_true→aK,false_eq_true→cz,not_eq_true'→aR,not_eq_true→cm,not_eq_false'→aN,not_eq_false→bR
open Go.Builtin renaming zeroCells→bP
open Go.IntKind renaming wrap_i64→dK
open Go.Lib renaming bitLen→gj
open Go.Value renaming int→gL
open Go.World renaming size_alloc→eP
open HSub renaming hSub→bO
open Int renaming eq_ofNat_of_zero_le→bo,le_refl→bp,toNat→rC
open LE renaming le→aX
open LT renaming lt→nJ
open List renaming map_cons→aY,length_append→aa,length_cons→bc,append_assoc→ay,mem_append→ba,nil_append→eO,append_nil→aH,mem_cons→bm,getD→bF,take_append_drop→ej,length_take→bd,getElem?_take→pz,length→ah,getD_eq_getElem?_getD→aw,getElem?_eq_none→be,length_nil→dx,map_append→dL,length_map→cG,mem_cons_self→aF,mem_cons_of_mem→aD,nodup_cons→nx,mem_map_of_mem→fV,mem_append_left→dd,mem_singleton→bV,length_drop→cW,take→de,length_singleton→bi,sum_cons→dy,length_eq_zero_iff→ju
open Nat renaming min_eq_left→fh,lt_of_lt_of_le→bw,le_refl→aE,zero_add→bT,zero_le→aq,lt_or_ge→br
open Option renaming isSome_iff_exists→cX,getD_some→dA
namespace Go.Tp
open Go.Hv Go.Proofs Go.RowKit
set_option maxRecDepth 100000
set_option maxHeartbeats 0
def kQ:Nd:=(0,0,0,false,[[],[]],())
def LQ(j:Nat):List (Option CP):=[some (.cells [.mp (j+1), .d .i64]),some (.mp cw mU)]
abbrev gU:=List (ID×Nd)
def LR:Ct:=⟨0,⟨[],[]⟩,[⟨[sP 0],LQ 0⟩],λ_=>one True (0,[(tW,kQ)],())⟩
def Xw:bG:=(103,[LR])::Xu
def Xx:=kA 103 LR Xv (cQ LR 0) (∀Q,bg LR () Q->Q ⟨0,0,dY cw (0,0,()) (0,0,0,false,[[],[]],()) [],()⟩) (by
 unfold bg;intro Q ⟨_,a⟩;exact a)
def LS:Ct:=⟨0,⟨[],[]⟩,[⟨[sP 0],[some (.cells [.d (.sl hX)])]⟩],λ_=>one True ([],())⟩
def Xy:bG:=(104,[LS])::Xw
def Xz:=kA 104 LS Xx (cQ LS 0) (∀Q,bg LS () Q->Q ⟨0,[],()⟩) (by
 unfold bg;intro Q ⟨_,a⟩;exact a)
def LU:Ct:=⟨0,⟨[],[]⟩,[⟨[sP 0],JL 0⟩],λ_=>one True ([],[],[],0,[(tW,kQ)],[],())⟩
def XA:bG:=(69,[LU])::Xy
def XB:=kA 69 LU Xz (cQ LU 0) (∀Q,bg LU () Q->True/\True/\Q ⟨0,[],[],[],0,[((0,0,()),0,0,0,false,[[],[]],())],[],()⟩) (by
 unfold bg;intro Q ⟨_,a⟩;exact⟨trivial,trivial,a⟩)
def GN(a b:ID):Bool:=decide (a.1<b.1)||(a.1==b.1&&decide (a.2.1<b.2.1))
def LV:Ct:=⟨2,⟨[(0,true,[.d cw]),(1,true,[.d cw])],[]⟩,[⟨[sL 0],[]⟩],λ(a,b,_)=>one True (GN a b,())⟩
def XC:bG:=(208,[LV])::XA
def XD:=kA 208 LV XB (cQ LV 0) (∀(a b:Fk)Q,bg LV (a,b,()) Q->Bd (a.1<b.1) (Q ⟨0,true,()⟩) (Br (a.1==b.1) (Q ⟨0,decide (a.2.1<b.2.1),()⟩) (Q ⟨0,false,()⟩))) (by
 unfold Bd Br bg;rintro⟨a,b,⟨⟩⟩ ⟨c,d,⟨⟩⟩ Q ⟨_,f⟩;dsimp only at*;have g:∀y:Bool,GN (a,b,()) (c,d,())=y->Q ⟨0,(y,())⟩:=λy e=>by rw[<-e];exact f
 clear f
 (repeat' (first|apply ck|intro _))<;>(try simp only[ai,aj,aS,aC,ne_eq,aR,aN,cm,bR]at*)<;>first
  |assumption
  |(exact g _ (by clear g;grind[GN]))
  |omega)
def tu(i:gJ):Bool:=iB i.1 i.2.1&&decide (0<=i.2.2.2.2.2.1/\i.2.2.2.2.2.1<=1114111/\(i.2.2.2.2.2.1<55296\/57343<i.2.2.2.2.2.1))
def LW:Ct:=⟨1,⟨[(0,true,[.d qb])],[]⟩,[⟨[sL 0],[]⟩],λ(i,_)=>one True (tu i,())⟩
def XE:bG:=(185,[LW])::XC
def XF:=kA 185 LW XD (cQ LW 0) (∀(a:gJ)Q,bg LW (a,()) Q->Bd (a.1<0) (Q ⟨0,false,()⟩) (Bd (5<=a.1) (Q ⟨0,false,()⟩) (Bd (a.2.1<1) (Q ⟨0,false,()⟩) (Bd (1099511627776<a.2.1) (Q ⟨0,false,()⟩) (Bd (0<=a.2.2.2.2.2.1) (Bd (a.2.2.2.2.2.1<=1114111) (Bd (a.2.2.2.2.2.1<55296) (Q ⟨0,true,()⟩) (Q ⟨0,decide (57343<a.2.2.2.2.2.1),()⟩)) (Q ⟨0,false,()⟩)) (Q ⟨0,false,()⟩)))))) (by
 unfold Bd bg;rintro⟨a,c,g,h,r,x,⟨⟩⟩ Q ⟨_,b⟩;dsimp only at*;have f:∀y:Bool,tu (a,c,g,h,r,x,())=y->Q ⟨0,(y,())⟩:=λy e=>by rw[<-e];exact b
 clear b
 (repeat' (first|apply ck|intro _))<;>(try simp only[ai,aj,aS,aC,ne_eq,aR,aN,cm,bR]at*)<;>first
  |assumption
  |(exact f _ (by clear f;grind[tu,iB]))
  |omega)
def LX:Ct:=⟨1,⟨[sL 0],[]⟩,[⟨[(0,false,[.k (.i64 1)])],[]⟩,⟨[(0,false,[.k (.i64 0)])],[]⟩],λ(b,_)=> .ite b (.leaf ⟨0,()⟩) (.leaf ⟨1,()⟩)⟩
def XG:bG:=(187,[LX])::XE
def XH:=kA 187 LX XF (cQ LX 0) (∀(a:Bool)Q,bg LX (a,()) Q->Br a (Q ⟨0,()⟩) (Q ⟨1,()⟩)) (by
 unfold Br bg;rintro b Q ⟨a,c⟩;exact⟨a,c⟩) (l:=λ_=>Live.ite (λ_=>Live.leaf) (λ_=>Live.leaf))
def zP(l:List ID)(id:ID):List ID:=l.takeWhile (GN · id)++[id]++l.dropWhile (GN · id)
def GO:Ct:=⟨2,⟨[(0,false,[.d (.sl cw)]),(1,true,[.d cw])],[]⟩,[⟨[(0,false,[.d (.sl cw)])],[]⟩],λ(l,id,_)=>one (l.length<=1000000) (zP l id,())⟩
def XI:cx:=⟨[(0,false,[.d (.sl cw)]),(3,false,[.ptr 0 0]),sI 5],[some (.cells [.d cw])]⟩
def LY(x:GO.inp.den)(y:XI.den):Prop:=match x,y with
 |(b,a,_),(l,i,id,_)=>l=b/\id=a/\∃k:Nat,i=k/\k<=b.length/\∀x∈b.take k,GN x a=true
def a5l(x:GO.inp.den):eH:=⟨[(2,bS XI (LY x) λ(l,i,_)=>(l.length-i).toNat)],[],[],[],0⟩
theorem CF{α:Type}{p:α->Bool}(z:α):∀{l:List α}{k:Nat},k<=l.length->(∀x∈l.take k,p x=true)->(k=l.length\/p (l.getD k z)=false)->l.takeWhile p=l.take k/\l.dropWhile p=l.drop k
 |[],_,c,_,_=>bY
 |x::l,0,_,_,h=>by
  have:p x=false:=by
   rcases h with h|h
   ·simp at h
   ·simpa using h
  simp[this]
 |x::l,k+1,c,e,h=>by
  have f:p x=true:=e x bY;obtain⟨a,b⟩:=CF z (l:=l) (k:=k) (cf c) (λy g=>e y (by simp[g])) (cf h);simp[f,a,b]
def XJ:bG:=(186,[GO])::XG
def XK:=kA 186 GO XH a5l (∀(d:List Fk)(e:Fk)Q,bg GO (d,e,()) Q->Is (LY (d,e,()) (d,0,e,()))/\∀(b:List Fk)(a:Int)(c:Fk),let z:=((0:Int)<=0/\0<=a/\a<=nI b)/\(0+(de a.toNat b).length)*16<=mM/\((de a.toNat b).length+1)*16<=mM/\(0<=a/\a<=nI b/\nI b<=nI b)/\((de a.toNat b++[c]).length+(List.drop a.toNat b).length)*16<=mM/\Q ⟨0,de a.toNat b++[c]++List.drop a.toNat b,()⟩;LY (d,e,()) (b,a,c,())->Bd (a<nI b) (mP (a<nI b) (iN a b/\oa (a<nI b) (True/\decide (a<nI b)=true/\Br (GN (gD b a (0,0,())) c) (am (a+1)/\Is (LY (d,e,()) (b,a+1,c,())/\lN (nI b-(a+1)) (nI b-a))) z))) (tT (a<nI b) (zL (a<nI b) z))) (by
 conv=>zeta
 unfold Bd Br gD iN lN mM nI bg tT oa zL mP;rintro l id Q ⟨u,n⟩;have q:∀y,zP l id=y->Q ⟨0,(y,())⟩:=λy e=>by rw[<-e];exact n
 clear n;refine⟨⟨rfl,rfl,0,rfl,aq _,bY⟩,?_⟩;rintro f i g ⟨rfl,rfl,k,rfl,r,o⟩;rw[show((k:Int).toNat)=k by omega]
 have fin:(k=f.length\/GN (f.getD k (0,0,())) g=false)->(0<=(0:Int)/\0<=(k:Int)/\(k:Int)<=f.length)/\(0+(f.take k).length)*16<=140737488355328/\((f.take k).length+1)*16<=140737488355328/\(0<=(k:Int)/\(k:Int)<=f.length/\(f.length:Int)<=f.length)/\((f.take k++[g]).length+(f.drop k).length)*16<=140737488355328/\Q ⟨0,(f.take k++[g]++f.drop k,())⟩:=by
  intro h;obtain⟨s,t⟩:=CF (p:=(GN · g)) (0,0,()) r o h;refine⟨⟨bp _,ac,ac⟩,?_,?_,⟨ac,ac,bp _⟩,?_,q _ ?_⟩
  ·simp;omega
  ·simp;omega
  ·simp;omega
  ·unfold zP;rw[s,t]
 refine⟨λa=>?_,λb=>⟨b,b,b,b,b,b,fin (.inl ?_)⟩⟩
 ·have m:k<f.length:=by simp only[ai]at a;omega
  refine⟨a,a,⟨ac,ac⟩,a,a,a,trivial,a,λc=>⟨cv,⟨rfl,rfl,k+1,rfl,m,?_⟩,ac⟩,λc=>fin (.inr c)⟩;rw[di (z:=((0,0,()):ID)) m];intro x j;rcases ba.1 j with j|j
  ·exact o x j
  ·simp at j;subst j;exact c
 ·simp only[aj]at b;omega)
def ng(n:gU)(id:ID):Bool:= !(id.1==0&&id.2.1==0)&&(aO cw id n).isSome
def LZ:Ct:=⟨2,⟨[sP 0,(1,true,[.d cw])],LQ 0⟩,[⟨[sL 0],LQ 0⟩],λ(id,g,n,_)=>one True (ng n id,g,n,())⟩
def XL:bG:=(183,[LZ])::XJ
def Oa:=kA 183 LZ XK (cQ LZ 0) (∀(a:Fk)(c:Int)(b:List (Fk×mU.den))Q,let z:=a.1==0&&a.2.1==0;bg LZ (a,c,b,()) Q->Br z (Q ⟨0,false,c,b,()⟩) (Q ⟨0,(aO cw a b).isSome,c,b,()⟩)) (by
 conv=>zeta
 unfold Br bg;rintro id g n Q ⟨_,b⟩;have a:∀y,ng n id=y->Q ⟨0,(y,g,n,())⟩:=λy e=>by rw[<-e];exact b
 exact⟨λh=>a _ (by unfold ng;rw[h];rfl),λh=>a _ (by unfold ng;rw[h];rfl)⟩)
def yV:Ct:=⟨1,⟨[sP 0],LQ 0⟩,[⟨[sI 0],LQ 0⟩],λ(g,n,_)=>one (n.length<=1000000/\0<=g/\g<=1000000) (n.length-1-g,g,n,())⟩
abbrev QH(v:Int×Int×List (Fk×mU.den)×Unit):cF yV.out:=⟨0,v⟩
theorem GP:bW Tryz.prog 174 yV:=kC Oa (cQ yV 0) (∀(a:Int)(b:List (Fk×mU.den))(Q:cF yV.out->Prop),let z:=QH (nI b-1-a,a,b,());(Tr.need (b.length<=1000000/\0<=a/\a<=1000000) (Tr.leaf z)).sat Q->am (nI b-1)/\am (nI b-1-a)/\Q z) (by
 conv=>zeta
 unfold nI;rintro g n Q ⟨⟨b,c,e⟩,a⟩;exact⟨cv,cv,a⟩)
def XM:bG:=(174,[yV])::XL
def XN:=kB 174 [yV] Oa (bL (GP))
def nh(n:gU)(g:Int)(id:ID):Int×Int×gU:=
 if ng n id=false then(13,g,n)
 else
  let x:=(aO cw id n).getD kQ
  if x.2.2.2.1=true then(12,g,n)else(0,g+1,dY cw id (x.1,x.2.1,x.2.2.1,true,x.2.2.2.2) n)
def GQ:Ct:=⟨2,⟨[sP 0,(1,true,[.d cw])],LQ 0⟩,[⟨[sI 0],LQ 0⟩],λ(id,g,n,_)=>dZ (0<=g/\g<=1000000) (nh n g id) λy=>(y.1,y.2.1,y.2.2,())⟩
abbrev QI(v:Int×Int×List (Fk×mU.den)×Unit):cF GQ.out:=⟨0,v⟩
def XO:bG:=(169,[GQ])::XM
def XP:=kA 169 GQ XN (cQ GQ 0) (∀(b:Fk)(c:Int)(a:List (Fk×mU.den))(Q:cF GQ.out->Prop),let z:=(aO cw b a).getD (0,0,0,false,[[],[]],());(Tr.need (0<=c/\c<=1000000) (Tr.all (Int×Int×gU) (λy=>y=nh a c b) λy=>Tr.leaf (QI (y.1,y.2.1,y.2.2,())))).sat Q->True/\Br (!ng a b) (Q ⟨0,13,c,a,()⟩) (Br (z.2.2.2.1) (Q ⟨0,12,c,a,()⟩) (am (c+1)/\Q ⟨0,0,c+1,dY cw b (z.1,z.2.1,z.2.2.1,true,z.2.2.2.2) a,()⟩))) (by
 conv=>zeta
 unfold Br;rintro id g n Q ⟨⟨i,j⟩,f⟩;have a:∀y,nh n g id=y->Q ⟨0,(y.1,y.2.1,y.2.2,())⟩:=λy e=>f y e.symm;clear f;unfold nh at a;refine⟨trivial,λc=>a (13,g,n) (ak (cf c)),λc=>?_⟩;rw[ae (by rw[aN]at c;rw[c];decide)]at a;refine⟨λb=>a (12,g,n) (ak b),λb=>⟨cv,a (0,_,_) (ae (λh=>?_))⟩⟩;have h:((aO cw id n).getD kQ).2.2.2.1=true:=h;rw[show((aO cw id n).getD kQ).2.2.2.1=false from b]at h;cases h) (l:=λ_=>bA)
def E8(r:Bool):Nat:=if r then 1 else 0
def od(n:gU)(i:gJ):Int×gU:=
 if tu i=false\/(i.2.2.1=0/\i.2.2.2.1=0/\i.2.2.2.2.1=false)then(1,n)
 else if ng n (i.1,i.2.1,())=true then(12,n)
 else if(aO cw (i.2.2.1,i.2.2.2.1,()) n).isSome=false then(13,n)
 else if 4096<n.length then(14,n)
 else
  let a:=(aO cw (i.2.2.1,i.2.2.2.1,()) n).getD kQ
  (0,dY cw (i.1,i.2.1,()) (i.1,i.2.1,i.2.2.2.2.2.1,false,[[],[]],()) (dY cw (i.2.2.1,i.2.2.2.1,()) (a.1,a.2.1,a.2.2.1,a.2.2.2.1,a.2.2.2.2.1.set (E8 i.2.2.2.2.1) (zP (a.2.2.2.2.1.getD (E8 i.2.2.2.2.1) []) (i.1,i.2.1,())),()) n))
theorem vq{kt:Ty}{β:Type}{k:kt.den}{v:β}:∀{l:List (kt.den×β)},cD k l=some v->∃a,(a,v)∈l
 |[],h=>by simp[cD]at h
 |p::l,h=>by
  simp only[cD]at h;split at h
  ·simp at h;exact⟨p.1,by rw[<-h];simp⟩
  ·obtain⟨a,b⟩:=vq h;exact⟨a,aD _ b⟩
def QJ(n:gU):Prop:=n.length<=1000000/\∀p∈n,∀l∈p.2.2.2.2.2.1,l.length<=1000000
def L0:Ct:=⟨2,⟨[sP 0,(1,true,[.d qb])],LQ 0⟩,[⟨[sI 0],LQ 0⟩],λ(i,g,n,_)=>dZ (QJ n) (od n i) λy=>(y.1,g,y.2,())⟩
def XQ:bG:=(171,[L0])::XO
def XR:=kA 171 L0 XP (cQ L0 0) (∀(a:gJ)(c:Int)(b:List (Fk×mU.den))Q,let l:=a.2.2.1==0&&a.2.2.2.1==0;let e:=(a.1,a.2.1,());let f:=(a.2.2.1,a.2.2.2.1,());let i:=aO cw f b;let z:=i.getD (0,0,0,false,[[],[]],());let g:=bF z.2.2.2.2.1 0 [];let h:=bF z.2.2.2.2.1 1 [];let j:=True/\Br (ng b e) (Q ⟨0,12,c,b,()⟩) (Br (!i.isSome) (Q ⟨0,13,c,b,()⟩) (Bd (4096<nI b) (Q ⟨0,14,c,b,()⟩) (Br (a.2.2.2.2.1) (Br (a.2.2.2.2.1) (h.length<=1000000/\Q ⟨0,0,c,dY cw e (a.1,a.2.1,a.2.2.2.2.2.1,false,[[],[]],()) (dY cw f (z.1,z.2.1,z.2.2.1,z.2.2.2.1,List.set z.2.2.2.2.1 1 (zP h e),()) b),()⟩) (g.length<=1000000/\Q ⟨0,0,c,dY cw e (a.1,a.2.1,a.2.2.2.2.2.1,false,[[],[]],()) (dY cw f (z.1,z.2.1,z.2.2.1,z.2.2.2.1,List.set z.2.2.2.2.1 1 (zP g e),()) b),()⟩)) (Br (a.2.2.2.2.1) (h.length<=1000000/\Q ⟨0,0,c,dY cw e (a.1,a.2.1,a.2.2.2.2.2.1,false,[[],[]],()) (dY cw f (z.1,z.2.1,z.2.2.1,z.2.2.2.1,List.set z.2.2.2.2.1 0 (zP h e),()) b),()⟩) (g.length<=1000000/\Q ⟨0,0,c,dY cw e (a.1,a.2.1,a.2.2.2.2.2.1,false,[[],[]],()) (dY cw f (z.1,z.2.1,z.2.2.1,z.2.2.2.1,List.set z.2.2.2.2.1 0 (zP g e),()) b),()⟩)))));bg L0 (a,c,b,()) Q->True/\Br (!tu a) (Q ⟨0,1,c,b,()⟩) (Br l (Br (!a.2.2.2.2.1) (Q ⟨0,1,c,b,()⟩) j) j)) (by
 conv=>zeta
 unfold Bd Br nI bg;rintro⟨a,c,f,i,r,x,⟨⟩⟩ g n Q ⟨h,A⟩;have b:∀y,od n (a,c,f,i,r,x,())=y->Q ⟨0,(y.1,g,y.2,())⟩:=λy e=>A y e.symm;clear A;unfold od at b;dsimp only at b⊢;have bad:(tu (a,c,f,i,r,x,())=false\/(f=0/\i=0/\r=false))->Q ⟨0,(1,g,n,())⟩:=λh=>b (1,n) (ak h);refine⟨trivial,λu=>bad (.inl (cf u)),λu=>⟨λo=>⟨λp=>bad (.inr ?_),λp=>?_⟩,λo=>?_⟩⟩
 ·simp only[aK,aS,aR]at o p;exact⟨o.1,o.2,p⟩
 all_goals
  have no:¬(tu (a,c,f,i,r,x,())=false\/(f=0/\i=0/\r=false)):=by
   rintro(h|⟨D,E,F⟩)
   ·rw[h]at u;cases u
   ·first
     |(rw[F]at p;cases p)
     |(rw[D,E]at o;cases o)
  rw[ae no]at b;refine⟨trivial,λw=>b (12,n) (ak w),λw=>?_⟩;rw[ae (by rw[w];decide)]at b;refine⟨λm=>b (13,n) (ak (cf m)),λm=>?_⟩;have m:(aO cw (f,i,()) n).isSome=true:=cf m
  rw[ae (by rw[m];decide)]at b;refine⟨λz=>b (14,n) (ak (by have:=af z;omega)),λz=>?_⟩;rw[ae (by have:=ap z;omega)]at b
  have B:∀j,(((aO cw (f,i,()) n).getD kQ).2.2.2.2.1.getD j []).length<=1000000:=by
   intro j;rw[cX]at m;obtain⟨v,C⟩:=m;rw[C,dA];obtain⟨H,G⟩:=vq C;rcases br j v.2.2.2.2.1.length with q|q
   ·exact h.2 _ G _ (aV q)
   ·rw[aw,be q];exact aq _
  refine⟨λs=>⟨λ_=>?_,(λt=>by rw[s]at t;cases t)⟩,λs=>⟨(λt=>by rw[s]at t;cases t),λ_=>?_⟩⟩
  ·subst s;exact⟨B 1,b (0,_) rfl⟩
  ·subst s;exact⟨B 0,b (0,_) rfl⟩) (l:=λ_=>bA)
def kc(x:Nd):List ID:=x.2.2.2.2.1.getD 0 []++x.2.2.2.2.1.getD 1 []
def iI(n:gU):List ID:=n.map (·.1)
variable{c id k:ID}
theorem Ob:jd cw k c=true↔k=c:=eR (t:=cw)
theorem mj{β:Type}{k:ID}{v:β}:∀{l:List (ID×β)},((cL (kt:=cw) k v l).map (·.1)=l.map (·.1)/\k∈l.map (·.1))\/((cL (kt:=cw) k v l).map (·.1)=l.map (·.1)++[k]/\k∉l.map (·.1))
 |[]=> .inr ⟨rfl,bY⟩
 |p::l=>by
  simp only[cL];by_cases e:jd cw k p.1=true
  ·rw[ak e];exact .inl ⟨rfl,by rw[Ob.1 e];simp⟩
  ·rw[ae e];have c:p.1≠k:=λh=>e (Ob.2 h.symm);rcases mj (k:=k) (v:=v) (l:=l)with⟨a,b⟩|⟨a,b⟩
   ·exact .inl ⟨by rw[aY,aY,a],by simp only[aY,bm];exact .inr b⟩
   ·exact .inr ⟨by rw[aY,aY,a];rfl,by simp only[aY,bm,not_or];exact⟨λh=>c h.symm,b⟩⟩
theorem rm{β:Type}{k:ID}{v:β}{q:ID×β}:∀{l:List (ID×β)},(l.map (·.1)).Nodup->q∈cL (kt:=cw) k v l->q=(k,v)\/(q∈l/\q.1≠k)
 |[],_,h=>by simp[cL]at h;exact .inl h
 |p::l,a,h=>by
  simp only[aY,nx]at a;simp only[cL]at h;by_cases e:jd cw k p.1=true
  ·rw[ak e]at h;have e:=Ob.1 e;rcases bm.1 h with h|h
   ·exact .inl (by rw[h,e])
   ·exact .inr ⟨aD _ h,λg=>a.1 (by rw[<-e,<-g];exact fV h)⟩
  ·rw[ae e]at h;rcases bm.1 h with h|h
   ·exact .inr ⟨by rw[h];simp,λg=>e (Ob.2 (by rw[<-h];exact g.symm))⟩
   ·rcases rm a.2 h with g|g
    ·exact .inl g
    ·exact .inr ⟨aD _ g.1,g.2⟩
theorem ke{β:Type}{k:ID}{v:β}:∀{l:List (ID×β)},cD (kt:=cw) k l=some v->(k,v)∈l
 |[],h=>by simp[cD]at h
 |p::l,h=>by
  simp only[cD]at h;split at h
  ·rename_i e;have e:=Ob.1 e;simp at h;rw[<-h,e];simp
  ·exact aD _ (ke h)
theorem qc{β:Type}{k:ID}:∀{l:List (ID×β)},cD (kt:=cw) k l=none->k∉l.map (·.1)
 |[],_=>bY
 |p::l,h=>by
  simp only[cD]at h;split at h
  ·simp at h
  ·rename_i e;simp only[aY,bm,not_or];exact⟨λg=>e (Ob.2 g),qc h⟩
structure xq(n:gU)(A:ID->List ID):Prop where
 nd:(iI n).Nodup
 two:∀p∈n,p.2.2.2.2.2.1.length=2
 key:∀p∈n,∀c∈kc p.2,c∈iI n
 own:∀k∈iI n,k∈A k
 up:∀p∈n,∀c∈kc p.2,A c=c::A p.1
 inn:∀k∈iI n,∀c∈A k,c∈iI n
 suf:∀k∈iI n,∀c∈A k,A c<:+A k
 dis:∀p∈n,(kc p.2).Nodup
 rt:tW∈iI n
def tv(n:gU):Prop:=∃A,xq n A
def QK(n:gU)(A:ID->List ID)(y:ID):Nat:=(iI n).countP λk=>decide (y∈A k)
def wt(n:gU)(A:ID->List ID)(y:ID):Nat:=3*QK n A y
theorem tz{α β:Type}(R:α->β->Bool):∀(l:List α)(m:List β),(l.map λa=>m.countP λb=>R a b).sum=(m.map λb=>l.countP λa=>R a b).sum
 |[],m=>by
  rw[List.map_nil,List.sum_nil]
  induction m with
  |nil=>rfl
  |cons b m c=>simp only[aY,dy,List.countP_nil]at*;omega
 |a::l,m=>by
  rw[aY,dy,tz R l m];clear tz
  induction m with
  |nil=>simp
  |cons b m c=>
   simp only[aY,dy,List.countP_cons]at c⊢;omega
theorem GR{α:Type}{f g:α->Nat}:∀{l:List α},(∀a∈l,f a<=g a)->(l.map f).sum<=(l.map g).sum
 |[],_=>bY
 |a::l,h=>by
  have e:=h a bY;have i:=GR (l:=l) (λb c=>h b (by simp[c]));simp only[aY,dy];omega
theorem CG{α:Type}{p:α->Bool}:∀{l:List α},l.Nodup->(∀a∈l,∀b∈l,p a=true->p b=true->a=b)->l.countP p<=1
 |[],_,_=>bY
 |a::l,c,h=>by
  rw[nx]at c;have m:=CG (l:=l) (p:=p) c.2 (λx i y j=>h x (by simp[i]) y (by simp[j]));rw[List.countP_cons];by_cases e:p a=true
  ·have:l.countP p=0:=List.countP_eq_zero.2 λb g f=>c.1 (by rw[h a bY b (by simp[g]) e f];exact g);rw[this,ak e];omega
  ·rw[ae e];omega
variable{α:Type}
theorem QL{a b l:List α}(c:a<:+l)(f:b<:+l)(h:a.length=b.length):a=b:=by
 obtain⟨s,rfl⟩:=c;obtain⟨t,e⟩:=f;have:=aI ah e;rw[aa,aa]at this;exact((List.append_inj' e h.symm).2).symm
variable{A:ID->List ID}{n:gU}
theorem xq.light(h:xq n A){p:ID×Nd}(m:p∈n):3+((kc p.2).map (wt n A)).sum<=wt n A p.1:=by
 have j:p.1∈iI n:=fV m
 have o:∀k∈iI n,(kc p.2).countP (λc=>decide (c∈A k))+(if k=p.1 then 1 else 0)<=(if p.1∈A k then 1 else 0):=by
  intro k i
  have one:(kc p.2).countP (λc=>decide (c∈A k))<=1:=by
   refine CG (h.dis p m) λa v b w x y=>?_;have l:=h.suf k i a (af x);have t:=h.suf k i b (af y);rw[h.up p m a v]at l;rw[h.up p m b w]at t;have:=QL l t bY;exact(List.cons.inj this).1
  have q:(∃c∈kc p.2,c∈A k)->p.1∈A k/\k≠p.1:=by
   rintro⟨c,r,s⟩;have l:=h.suf k i c s;rw[h.up p m c r]at l;refine⟨l.subset (by simp[h.own _ j]),λe=>?_⟩;subst e;have:=l.length_le;simp at this;omega
  by_cases u:(kc p.2).countP (λc=>decide (c∈A k))=0
  ·rw[u];by_cases e:k=p.1
   ·rw[ak e,ak (by rw[e];exact h.own _ j)];omega
   ·rw[ae e];omega
  ·have:∃c∈kc p.2,c∈A k:=by
    have:=List.countP_pos_iff.1 (Nat.pos_of_ne_zero u);obtain⟨c,r,z⟩:=this;exact⟨c,r,af z⟩
   obtain⟨B,D⟩:=q this;rw[ak B,ae D];omega
 have F:=tz (λ(c:ID)(k:ID)=>decide (c∈A k)) (kc p.2) (iI n);have G:=GR o
 have H:((iI n).map λk=>if p.1∈A k then 1 else 0).sum=QK n A p.1:=by
  unfold QK;generalize iI n=K
  induction K with
  |nil=>rfl
  |cons k K f=>rw[aY,dy,f,List.countP_cons];by_cases e:p.1∈A k<;>simp[e]<;>omega
 have J:((iI n).map λk=>(kc p.2).countP (λc=>decide (c∈A k))+(if k=p.1 then 1 else 0)).sum=((iI n).map λk=>(kc p.2).countP (λc=>decide (c∈A k))).sum+((iI n).map λk=>if k=p.1 then 1 else 0).sum:=by
  generalize iI n=K
  induction K with
  |nil=>rfl
  |cons k K f=>simp only[aY,dy]at f⊢;omega
 have L:1<=((iI n).map λk=>if k=p.1 then 1 else 0).sum:=by
  revert j;generalize iI n=K;intro j
  induction K with
  |nil=>simp at j
  |cons k K f=>
   simp only[aY,dy];by_cases e:k=p.1
   ·rw[ak e];omega
   ·have:=f (by rcases bm.1 j with g|g
                ·exact absurd g.symm e
                ·exact g)
    omega
 have E:((kc p.2).map (wt n A)).sum=3*((kc p.2).map λc=>QK n A c).sum:=by
  generalize kc p.2=C
  induction C with
  |nil=>rfl
  |cons c C f=>simp only[aY,dy]at f⊢;rw[f];unfold wt;omega
 rw[E];show 3+3*((kc p.2).map λc=>(iI n).countP λk=>decide (c∈A k)).sum<=3*QK n A p.1;omega
theorem xq.ge3(h:xq n A)(a:k∈iI n):3<=wt n A k:=by
 have:0<QK n A k:=List.countP_pos_iff.2 ⟨k,a,decide_eq_true (h.own k a)⟩;unfold wt;omega
theorem xq.le(y:ID):wt n A y<=3*n.length:=by
 have:QK n A y<=(iI n).length:=List.countP_le_length;unfold wt;unfold iI at this;rw[cG]at this;omega
theorem GS:tv [(tW,kQ)]:=by
 refine⟨λk=>[k],⟨by simp[iI],λp a=>?_,λp a c b=>?_,λk _=>bY,λp a c b=>?_,λk e c b=>?_,λk _ c b=>?_,λp a=>?_,by simp[iI]⟩⟩
 ·simp at a;subst a;rfl
 ·simp at a;subst a;simp[kc,kQ]at b
 ·simp at a;subst a;simp[kc,kQ]at b
 ·simp at b;rw[b];exact e
 ·simp at b;rw[b];exact List.suffix_refl _
 ·simp at a;subst a;simp[kc,kQ]
theorem yW(l:List ID)(x:ID):(zP l x).Perm (x::l):=by
 unfold zP;have h:l.takeWhile (GN · x)++l.dropWhile (GN · x)=l:=List.takeWhile_append_dropWhile
 conv=>rhs;rw[<-h]
 rw[ay];exact List.perm_middle
theorem L8{a:Nd}(e:a.2.2.2.2.1.length=2)(r:Bool)(x:ID)(g:Bool):(kc (a.1,a.2.1,a.2.2.1,g,a.2.2.2.2.1.set (E8 r) (zP (a.2.2.2.2.1.getD (E8 r) []) x),())).Perm (x::kc a)/\(a.2.2.2.2.1.set (E8 r) (zP (a.2.2.2.2.1.getD (E8 r) []) x)).length=2:=by
 obtain⟨h,i,j,l,f,⟨⟩⟩:=a;dsimp only at*
 match f,e with
 |[b,c],_=>
  cases r
  ·exact⟨(yW b x).append_right c,rfl⟩
  ·refine⟨?_,rfl⟩;show(b++zP c x).Perm (x::(b++c));exact((yW c x).append_left b).trans List.perm_middle
theorem xq.upd(h:xq n A){v s:Nd}(h0:cD (kt:=cw) k n=some s)(u:v.2.2.2.2.1=s.2.2.2.2.1):xq (cL (kt:=cw) k v n) A:=by
 have t:=ke h0;have a:k∈iI n:=fV t
 have j:iI (cL (kt:=cw) k v n)=iI n:=by
  rcases mj (k:=k) (v:=v) (l:=n)with⟨e,_⟩|⟨_,e⟩
  ·exact e
  ·exact absurd a e
 have b:∀p∈cL (kt:=cw) k v n,∃q∈n,q.1=p.1/\q.2.2.2.2.2.1=p.2.2.2.2.2.1:=by
  intro p f;rcases rm h.nd f with e|e
  ·exact⟨_,t,by rw[e],by rw[e];exact u.symm⟩
  ·exact⟨p,e.1,rfl,rfl⟩
 have r:∀{p q:ID×Nd},q.2.2.2.2.2.1=p.2.2.2.2.2.1->kc q.2=kc p.2:=λe=>by unfold kc;rw[e]
 refine⟨by rw[j];exact h.nd,λp f=>?_,λp f c m=>?_,λk a=>?_,λp f c m=>?_,λk a c m=>?_,λk a=>?_,λp f=>?_,by rw[j];exact h.rt⟩
 ·obtain⟨q,g,o,i⟩:=b p f;rw[<-i];exact h.two q g
 ·obtain⟨q,g,o,i⟩:=b p f;rw[j];exact h.key q g c (by rw[r i];exact m)
 ·rw[j]at a;exact h.own k a
 ·obtain⟨q,g,o,i⟩:=b p f;rw[<-o];exact h.up q g c (by rw[r i];exact m)
 ·rw[j]at a⊢;exact h.inn k a c m
 ·rw[j]at a;exact h.suf k a
 ·obtain⟨q,g,o,i⟩:=b p f;rw[<-r i];exact h.dis q g
variable{b g x:Int}
theorem Ek(h:tv n):tv (nh n g id).2.2:=by
 obtain⟨A,h⟩:=h;unfold nh;split
 ·exact⟨A,h⟩
 rename_i c;dsimp only;split
 ·exact⟨A,h⟩
 ·have c:ng n id=true:=cf c
  unfold ng at c;rw[aK,cX]at c;obtain⟨b,a⟩:=c.2;rw[a];exact⟨A,h.upd a rfl⟩
theorem L9:(nh n g id).2.2.length=n.length:=by
 unfold nh;split
 ·rfl
 rename_i c;dsimp only;split
 ·rfl
 ·have c:ng n id=true:=cf c
  unfold ng at c;rw[aK,cX]at c;obtain⟨h,a⟩:=c.2;have b:id∈n.map (·.1):=fV (f:=(·.1)) (ke a);rcases mj (k:=id) (v:=(((aO cw id n).getD kQ).1,((aO cw id n).getD kQ).2.1,((aO cw id n).getD kQ).2.2.1,true,((aO cw id n).getD kQ).2.2.2.2)) (l:=n)with⟨e,_⟩|⟨_,e⟩
  ·have:=aI ah e;simpa using this
  ·exact absurd b e
theorem GU{i:gJ}(h:tv n):tv (od n i).2/\(od n i).2.length<=n.length+1/\((od n i).1=0->n.length<=4096)/\((od n i).1≠0->(od n i).2=n):=by
 obtain⟨A,h⟩:=h;have O:∀k:Int,k≠0->tv n/\n.length<=n.length+1/\(k=0->n.length<=4096)/\(k≠0->n=n):=λk f=>⟨⟨A,h⟩,Nat.le_succ _,λe=>absurd e f,λ_=>rfl⟩;unfold od;split
 ·exact O 1 bt
 rename_i S;split
 ·exact O 12 bt
 rename_i U;split
 ·exact O 13 bt
 rename_i K;split
 ·exact O 14 bt
 rename_i Y;dsimp only;have K:(aO cw (i.2.2.1,i.2.2.2.1,()) n).isSome=true:=by rw[bR]at K;exact K
 rw[cX]at K;obtain⟨w,z⟩:=K;have z:cD (kt:=cw) (i.2.2.1,i.2.2.2.1,()) n=some w:=z;have ed:(aO cw (i.2.2.1,i.2.2.2.1,()) n).getD kQ=w:=by rw[show aO cw (i.2.2.1,i.2.2.2.1,()) n=some w from z];rfl
 rw[ed]
 have B:tu i=true:=by
  rw[not_or]at S;simpa using S.1
 have L:1<=i.2.1:=by
  unfold tu iB at B;rw[aK]at B;exact(af B.1).2.2.1
 have o:(i.1,i.2.1,())∉iI n:=by
  refine qc (β:=Nd) ?_;unfold ng at U;cases s:aO cw (i.1,i.2.1,()) n with
  |none=>exact s
  |some v=>
   exfalso;apply U;rw[s];have:(i.2.1==0)=false:=aC.2 (λ(e:@Eq Int i.2.1 0)=>by rw[e]at L;exact absurd L bt);show(!(i.1==0&&i.2.1==0)&&true)=true;rw[this];simp
 generalize hx:((i.1,i.2.1,()):ID)=x at*;generalize hp:((i.2.2.1,i.2.2.2.1,()):ID)=p at*;have C:=ke z;have t:p∈iI n:=fV C;have P:p≠x:=λe=>o (by rw[<-e];exact t);obtain⟨r,u⟩:=L8 (h.two _ C) i.2.2.2.2.1 x w.2.2.2.1;generalize M:((w.1,w.2.1,w.2.2.1,w.2.2.2.1,w.2.2.2.2.1.set (E8 i.2.2.2.2.1) (zP (w.2.2.2.2.1.getD (E8 i.2.2.2.2.1) []) x),()):Nd)=j at*;have u:j.2.2.2.2.1.length=2:=by rw[<-M];exact u
 have D:iI (cL (kt:=cw) p j n)=iI n:=by
  rcases mj (k:=p) (v:=j) (l:=n)with⟨e,_⟩|⟨_,e⟩
  ·exact e
  ·exact absurd t e
 generalize N:((i.1,i.2.1,i.2.2.2.2.2.1,false,[[],[]],()):Nd)=E at*;have F:kc E=[]:=by rw[<-N];rfl
 have Q:E.2.2.2.2.1.length=2:=by rw[<-N];rfl
 have G:iI (cL (kt:=cw) x E (cL (kt:=cw) p j n))=iI n++[x]:=by
  rcases mj (k:=x) (v:=E) (l:=cL (kt:=cw) p j n)with⟨_,e⟩|⟨e,_⟩
  ·have e:x∈iI (cL (kt:=cw) p j n):=e;rw[D]at e;exact absurd e o
  ·have e:iI (cL (kt:=cw) x E (cL (kt:=cw) p j n))=iI (cL (kt:=cw) p j n)++[x]:=e;rw[e,D]
 have nd1:(iI (cL (kt:=cw) p j n)).Nodup:=by rw[D];exact h.nd
 have mem:∀q∈cL (kt:=cw) x E (cL (kt:=cw) p j n),q=(x,E)\/q=(p,j)\/(q∈n/\q.1≠p/\q.1≠x):=by
  intro q s;rcases rm nd1 s with e|⟨e,W⟩
  ·exact .inl e
  ·rcases rm h.nd e with e|e
   ·exact .inr (.inl e)
   ·exact .inr (.inr ⟨e.1,e.2,W⟩)
 have H:∀q∈n,x∉kc q.2:=λq s m=>o (h.key q s x m);refine⟨⟨λy=>if y=x then x::A p else A y,?_⟩,?_,λ_=>Nat.le_of_not_lt Y,λe=>absurd rfl e⟩
 ·refine⟨?_,λq s=>?_,λq s c m=>?_,λk f=>?_,λq s c m=>?_,λk f c m=>?_,λk f c m=>?_,λq s=>?_,?_⟩
  ·rw[G,List.nodup_append];exact⟨h.nd,bY,λa ha b X e=>by simp at X;exact o (by rw[<-X,<-e];exact ha)⟩
  ·rcases mem q s with rfl|rfl|⟨e,_⟩
   ·exact Q
   ·exact u
   ·exact h.two q e
  ·rw[G];rcases mem q s with rfl|rfl|⟨e,_⟩
   ·rw[F]at m;cases m
   ·have:=r.mem_iff.1 m;rcases bm.1 this with e|e
    ·rw[e];simp
    ·exact dd _ (h.key _ C c e)
   ·exact dd _ (h.key q e c m)
  ·rw[G]at f;rcases ba.1 f with f|f
   ·have:k≠x:=λe=>o (by rw[<-e];exact f);rw[ae this];exact h.own k f
   ·simp at f;subst f;rw[ak rfl];simp
  ·rcases mem q s with rfl|rfl|⟨e,W,e3⟩
   ·rw[F]at m;cases m
   ·dsimp only;rw[ae P];have:=r.mem_iff.1 m;rcases bm.1 this with e|e
    ·rw[e,ak rfl]
    ·have:c≠x:=λg=>H _ C (by rw[<-g];exact e);rw[ae this];exact h.up _ C c e
   ·have:c≠x:=λg=>H q e (by rw[<-g];exact m);rw[ae this,ae e3];exact h.up q e c m
  ·rw[G]at f⊢;rcases ba.1 f with f|f
   ·have:k≠x:=λe=>o (by rw[<-e];exact f);rw[ae this]at m;exact dd _ (h.inn k f c m)
   ·simp at f;subst f;rw[ak rfl]at m;rcases bm.1 m with e|e
    ·rw[e];simp
    ·exact dd _ (h.inn p t c e)
  ·rw[G]at f;rcases ba.1 f with f|f
   ·have R:k≠x:=λe=>o (by rw[<-e];exact f);rw[ae R]at m⊢;have J:c≠x:=λe=>o (by rw[<-e];exact h.inn k f c m);rw[ae J];exact h.suf k f c m
   ·simp at f;subst f;rw[ak rfl]at m⊢;rcases bm.1 m with e|e
    ·rw[e,ak rfl];exact List.suffix_refl _
    ·have J:c≠k:=λg=>o (by rw[<-g];exact h.inn p t c e);rw[ae J];exact(h.suf p t c e).trans (List.suffix_cons k (A p))
  ·rcases mem q s with rfl|rfl|⟨e,_⟩
   ·rw[F];exact List.nodup_nil
   ·exact r.nodup_iff.2 (nx.2 ⟨H _ C,h.dis _ C⟩)
   ·exact h.dis q e
  ·rw[G];exact dd _ h.rt
 ·have:=aI ah G;unfold iI at this;rw[aa,cG,cG]at this;simp only[bi]at this;exact Nat.le_of_eq this
abbrev tSp:Ty:= .pr .i64 (.pr .i64 (.pr .i64 (.pr .i64 .un)))
abbrev Sp:=tSp.den
abbrev Trz:=TL.den
def TN(i:Nat):Nat×Bool×List IP:=(i,false,[.d (.pf TL)])
def qQ(t:Trz):Prop:=tv t.1/\t.1.length<=100000/\0<=t.2.1/\t.2.1<=100000
def CH:Ct:=⟨1,⟨[TN 0],[]⟩,[⟨[(0,false,[.fn 139 [] [(0,0)]])],[some (.cells [.d (.pf TL)])]⟩],λ(t,_)=>one True (t,())⟩
def QM:bG:=(95,[CH])::XQ
def GV:=kA 95 CH XR (cQ CH 0) (∀(a:List (Fk×mU.den)×Int×Unit)Q,bg CH (a,()) Q->Q ⟨0,a,()⟩) (by
 unfold bg;intro t Q ⟨_,a⟩;exact a)
def GW:Ct:=⟨1,⟨[TN 0],[]⟩,[⟨[sI 0],[]⟩],λ(t,_)=>one (qQ t) (t.1.length-1-t.2.1,())⟩
theorem QN:bW Tryz.prog 174 GW:=kC GV (cQ GW 0) (∀(a:List (Fk×mU.den)×Int×Unit)Q,bg GW (a,()) Q->am (nI a.1-1)/\am (nI a.1-1-a.2.1)/\Q ⟨0,nI a.1-1-a.2.1,()⟩) (by
 unfold nI bg;intro t Q ⟨⟨e,f,a,b⟩,c⟩;have a:@aX Int _ 0 t.2.1:=a;have b:@aX Int _ t.2.1 100000:=b;exact⟨cv,cv,c⟩)
def XS:bG:=(174,[GW,yV])::QM
def XT:=kB 174 [GW,yV] GV (je (QN) (bL (GP))) (l:=je (λ_=>eJ) (bL (λ_=>eJ)))
def Ma(n:gU)(s:Sp):Nd:=(aO cw (s.1,s.2.1,()) n).getD kQ
def pE(n:gU)(s:Sp)(j:Nat):List ID:=(Ma n s).2.2.2.2.1.getD j []
def uu(s:Sp):Int:=s.2.2.1
def ox(s:Sp):Int:=s.2.2.2.1
def lv(k:ID)(j a:Int):Sp:=(k.1,k.2.1,j,a,())
def tX(s:Sp):ID:=(s.1,s.2.1,())
def yX(n:gU)(A:ID->List ID)(s:Sp):Nat:=if uu s=0 then(((pE n s 0).drop (ox s).toNat).map (wt n A)).sum+((pE n s 1).map (wt n A)).sum+2 else(((pE n s 1).drop (ox s).toNat).map (wt n A)).sum+1
def qd(n:gU)(s:Sp):Prop:=tX s∈iI n/\0<=ox s/\(uu s=0/\ox s<=(pE n s 0).length\/uu s=1/\ox s<=(pE n s 1).length)
def QO(a i:Int)(N W:Nat):Prop:=0<=a/\a+W<=3*N/\0<=i/\i<=1000000000
def pm(n:gU)(A:ID->List ID)(l:List Sp):Nat:=(l.map (yX n A)).sum
def El:Ct:=⟨2,⟨[TN 0,sI 1],[]⟩,[⟨[(0,true,[.d cw]),sI 1],[]⟩],λ(t,i,_)=>fJ (qQ t/\i<=1000000000) (λ_:ID×Int=>True) λy=>(y.1,y.2,())⟩
def XU:cx:=⟨[(0,false,[.d .yl]),(1,false,[.ptr 0 0]),(3,false,[.own 1]),sI 4,(90,false,[.ptr 2 0]),(91,false,[.ptr 3 0]),(92,false,[.ptr 4 0]),(117,false,[.d .yl]),(118,false,[.k (.i64 0)])],[some (.cells [.d (.pf TL)]),some (.sl tSp),some (.cells [.d .i64]),some (.cells [.d cw]),some (.cells [.d .i64])]⟩
def jg(x:El.inp.den)(A:ID->List ID)(y:XU.den):Prop:=match x,y with
 |(a,f,_),(l,c,e,t,b,i,_,_,_)=>l=e/\t=a/\b≠[]/\(∀s∈b,qd a.1 s)/\QO c i a.1.length (pm a.1 A b)
noncomputable def ancO (n:gU):ID->List ID:=by
 classical
 exact if h:tv n then h.choose else λ_=>[]
theorem CI(h:tv n):xq n (ancO n):=by
 unfold ancO;rw[dif_pos h];exact h.choose_spec
theorem rp(n:gU)(A:ID->List ID)(l:List Sp)(s:Sp):pm n A (l++[s])=pm n A l+yX n A s:=by simp[pm]
variable{s s':Sp}
theorem AU(h:tX s∈iI n):(tX s,Ma n s)∈n:=by
 unfold Ma;cases a:aO cw (s.1,s.2.1,()) n with
 |none=>exact absurd h (qc a)
 |some v=>exact ke a
theorem Mc{l:List α}{z:α}(h0:0<=g)(h:g<l.length):l.drop g.toNat=l.getD g.toNat z::l.drop (g+1).toNat:=by
 rw[dv (z:=z) ac,show(g+1).toNat=g.toNat+1 by omega]
theorem CJ(h:uu s=0):yX n A s=(((pE n s 0).drop (ox s).toNat).map (wt n A)).sum+((pE n s 1).map (wt n A)).sum+2:=by unfold yX;rw[ak h]
theorem GX(h:uu s=1):yX n A s=(((pE n s 1).drop (ox s).toNat).map (wt n A)).sum+1:=by unfold yX;rw[ae (by rw[h];decide)]
theorem qe(n:gU)(s:Sp)(j a:Int)(i:Nat):pE n (lv (tX s) j a) i=pE n s i:=rfl
theorem yY(h:xq n A)(f:c∈iI n):qd n (lv c 0 0)/\yX n A (lv c 0 0)+1<=wt n A c:=by
 have a:tX (lv c 0 0)=c:=rfl;have g:=AU (s:=lv c 0 0) (by rw[a];exact f);rw[a]at g;have b:3+((kc (Ma n (lv c 0 0))).map (wt n A)).sum<=wt n A c:=h.light g;refine⟨⟨by rw[a];exact f,bp _, .inl ⟨rfl,Int.natCast_nonneg _⟩⟩,?_⟩;rw[CJ (s:=lv c 0 0) rfl];have e:(kc (Ma n (lv c 0 0)))=pE n (lv c 0 0) 0++pE n (lv c 0 0) 1:=rfl;rw[e,dL,List.sum_append]at b;have i:(pE n (lv c 0 0) 0).drop (ox (lv c 0 0)).toNat=pE n (lv c 0 0) 0:=rfl;rw[i];omega
variable{j:Nat}
theorem Me(m:xq n A)(o:qd n s)(e:uu s=j)(b:j=0\/j=1)(r:ox s<(pE n s j).length)(p:c=(pE n s j).getD (ox s).toNat (0,0,())):
 qd n (lv (tX s) (uu s) (ox s+1))/\qd n (lv c 0 0)/\yX n A (lv (tX s) (uu s) (ox s+1))+yX n A (lv c 0 0)+1<=yX n A s:=by
 obtain⟨q,t,o⟩:=o;have f:c∈pE n s j:=by rw[p];exact aV ac
 have u:=AU q
 have g:c∈kc (Ma n s):=by
  unfold kc;rcases b with rfl|rfl
  ·exact dd _ f
  ·exact List.mem_append_right _ f
 have h:c∈iI n:=m.key _ u c g;obtain⟨v,w⟩:=yY m h
 have i:((pE n s j).drop (ox s).toNat).map (wt n A)=wt n A c::((pE n s j).drop (ox s+1).toNat).map (wt n A):=by
  rw[Mc (z:=((0,0,()):ID)) t r,<-p];rfl
 have i:=aI List.sum i;rw[dy]at i;have l:uu (lv (tX s) (uu s) (ox s+1))=uu s:=rfl;have a:ox (lv (tX s) (uu s) (ox s+1))=ox s+1:=rfl;refine⟨⟨q,by rw[a];omega,?_⟩,v,?_⟩
 ·rw[l,a,qe,qe];rcases b with rfl|rfl
  ·exact .inl ⟨e,ac⟩
  ·exact .inr ⟨e,ac⟩
 ·rcases b with rfl|rfl
  ·rw[CJ (s:=s) e,CJ (s:=lv (tX s) (uu s) (ox s+1)) (l.trans e),a,qe,qe];omega
  ·rw[GX (s:=s) e,GX (s:=lv (tX s) (uu s) (ox s+1)) (l.trans e),a,qe];omega
theorem Mf(a:qd n s)(b:uu s=0):qd n (lv (tX s) 1 0)/\yX n A (lv (tX s) 1 0)+1<=yX n A s:=by
 obtain⟨c,f,a⟩:=a;refine⟨⟨c,bp _, .inr ⟨rfl,Int.natCast_nonneg _⟩⟩,?_⟩;rw[CJ b,GX (s:=lv (tX s) 1 0) rfl,qe];have e:(pE n s 1).drop (ox (lv (tX s) 1 0)).toNat=pE n s 1:=rfl;rw[e];omega
theorem GY(a:xq n A)(f:tX s∈iI n)(g:j=0\/j=1):(pE n s j).length<=n.length:=by
 have b:=AU f;have i:3+((kc (Ma n s)).map (wt n A)).sum<=wt n A (tX s):=a.light b;have m:=xq.le (n:=n) (A:=A) (tX s)
 have o:∀l:List ID,(∀c∈l,c∈iI n)->3*l.length<=(l.map (wt n A)).sum:=by
  intro l
  induction l with
  |nil=>intro _;simp
  |cons c l p=>
   intro h;have r:=a.ge3 (h c (aF ..));have t:=p λd q=>h d (aD _ q);simp only[aY,dy,bc];omega
 have u:=o (kc (Ma n s)) (a.key _ b);have e:(kc (Ma n s)).length=(pE n s 0).length+(pE n s 1).length:=by unfold kc;rw[aa];rfl
 rcases g with rfl|rfl<;>omega
theorem GZ(s:Sp):1<=yX n A s:=by unfold yX;split<;>omega
theorem G0{n:gU}{A:ID->List ID}:∀l:List Sp,l.length<=pm n A l
 |[]=>aq _
 |s::l=>by
  have:=GZ (n:=n) (A:=A) s;have:=G0 (n:=n) (A:=A) l;simp only[pm,aY,dy,bc]at*;omega
theorem Mg(a:xq n A):qd n (lv tW 0 0)/\yX n A (lv tW 0 0)<=3*n.length:=by
 obtain⟨b,e⟩:=yY a a.rt;have c:=xq.le (n:=n) (A:=A) tW;exact⟨b,ac⟩
theorem Mh{l:List α}(z:α)(h:l≠[]):∃p s,l=p++[s]/\((l.length:Int)-1).toNat=p.length/\l.getD p.length z=s/\(∀v,l.set p.length v=p++[v])/\l.take p.length=p:=by
 rcases List.eq_nil_or_concat l with e|⟨p,s,e⟩
 ·exact absurd e h
 ·subst e;refine⟨p,s,bY,bY,by simp[aw],λv=>bY,bY⟩
noncomputable def fatK (x:El.inp.den):ve:=bS XU (jg x (ancO x.1.1)) λ(_,_,_,_,a,_)=>pm x.1.1 (ancO x.1.1) a
noncomputable def fatA (x:El.inp.den):eH:=⟨[],[(1003,fatK x)],[(0,0,fatK x)],[],0⟩
variable{a p:List Sp}
theorem G1(h:∀x∈p++[s],qd n x)(h':qd n s'):∀x∈p++[s'],qd n x:=by
 intro x a;rcases ba.1 a with a|a
 ·exact h x (dd _ a)
 ·simp at a;subst a;exact h'
def XV:bG:=(151,[El])::XS
def XW:=kA 151 El XT fatA (∀(c:List (Fk×mU.den)×Int×Unit)(e:Int)Q,bg El (c,e,()) Q->Bd (e<0) (oX (e<0) (Q ⟨0,(0,0,()),6,()⟩)) (zL (e<0) (qQ c/\zL (e<0) (Bd (nI c.1-1-c.2.1<=e) (Q ⟨0,(0,0,()),6,()⟩) (True/\(true=true/\1+(List.map (λp=>(3072+p.1,p.2)) [(0,0)]).length<=87/\true=true)/\∀(l:Nat),true=true/\(true=true/\Is (jg (c,e,()) (ancO c.1) (l,0,l,c,[(0,0,0,0,())],e,(0,0,()),0,()))/\∀(j:Nat)(h:Int)(k:Nat)(d:List (Fk×mU.den)×Int×Unit)(a:List (Int×Int×Fk))(g:Int)(n:Fk)(o:Int),let F:=(j,h,k,d,a,g,n,o,());jg (c,e,()) (ancO c.1) F->Is (jg (c,e,()) (ancO c.1) F)/\∀(q:Nat)(m:Int)(r:Nat)(f:List (Fk×mU.den)×Int×Unit)(b:List (Int×Int×Fk))(i:Int)(s:Fk)(t:Int),let U:=0<nI (de ((↑b.length:Int)-1).toNat b);let u:=gD b (nI b-1) (0,0,0,0,());let W:= !(u.1==0&&u.2.1==0);let v:=u.2.2.1==1;let G:=v=false->False/\True;let H:=rC u.2.2.2.1;let w:=u.2.2.1==0;let J:=(b.set (nI b-1).toNat (u.1,u.2.1,u.2.2.1,u.2.2.2.1+1,())).length+1;let K:=(aO cw (u.1,u.2.1,()) f.1).getD (0,0,0,false,[[],[]],());let x:=bF K.2.2.2.2.1 1 [];let L:=x.getD H (0,0,());let X:=u.2.2.2.1<(↑x.length:Int);let y:=bF K.2.2.2.2.1 0 [];let M:=y.getD H (0,0,());let Y:=u.2.2.2.1<(↑y.length:Int);let z5:=am (nI b-1)/\iN (nI b-1) b/\am (u.2.2.2.1+1)/\iN (nI b-1) b/\Br w ((0<=u.2.2.2.1/\u.2.2.2.1<(↑y.length:Int))/\J*32<=mM/\Is (jg (c,e,()) (ancO c.1) (q,m,r,f,b.set (nI b-1).toNat (u.1,u.2.1,u.2.2.1,u.2.2.2.1+1,())++[(M.1,M.2.1,0,0,())],i,s,t,()))) ((v=true->(0<=u.2.2.2.1/\u.2.2.2.1<(↑x.length:Int))/\J*32<=mM/\Is (jg (c,e,()) (ancO c.1) (q,m,r,f,b.set (nI b-1).toNat (u.1,u.2.1,u.2.2.1,u.2.2.2.1+1,())++[(L.1,L.2.1,0,0,())],i,s,t,())))/\G);let z4:=true=true/\Br w (true=true/\Br W (false=false/\(true=true/\(none:Option (Nat×Bool))=none/\2=2)/\q=r/\(false=false/\true=true)/\(false=false/\true=true)/\Br (K.2.2.2.1) (true=true/\am (m+1)/\am (nI b-1)/\iN (nI b-1) b/\Is (jg (c,e,()) (ancO c.1) (q,m+1,r,f,b.set (nI b-1).toNat (u.1,u.2.1,1,0,()),i,s,t,()))) ((false=false/\true=true)/\Br (i==0) ((false=false/\true=true)/\true=true/\Q ⟨0,(K.1,K.2.1,()),0,()⟩) ((false=false/\true=true)/\am (i-1)/\true=true/\am (m+1)/\am (nI b-1)/\iN (nI b-1) b/\Is (jg (c,e,()) (ancO c.1) (q,m+1,r,f,b.set (nI b-1).toNat (u.1,u.2.1,1,0,()),i-1,s,t,()))))) (am (nI b-1)/\iN (nI b-1) b/\Is (jg (c,e,()) (ancO c.1) (q,m,r,f,b.set (nI b-1).toNat (u.1,u.2.1,1,0,()),i,s,t,())))) (am (nI b-1)/\((0:Int)=0/\0<=nI b-1/\nI b-1<=nI b)/\true=true/\Br (decide U) (Is (jg (c,e,()) (ancO c.1) (q,m,r,f,de (nI b-1).toNat b,i,s,t,()))) (Q ⟨0,(0,0,()),6,()⟩));jg (c,e,()) (ancO c.1) (q,m,r,f,b,i,s,t,())->am (nI b-1)/\iN (nI b-1) b/\Br w (true=true/\Br (decide Y) z5 z4) ((v=true->true=true/\Br (decide X) z5 z4)/\G))/\∀(j:Nat)(h:Int)(k:Nat)(d:List (Fk×mU.den)×Int×Unit)(a:List (Int×Int×Fk))(g:Int)(n:Fk)(o:Int),let a0:=0<nI (de ((↑a.length:Int)-1).toNat a);let z:=gD a (nI a-1) (0,0,0,0,());let a1:= !(z.1==0&&z.2.1==0);let A:=z.2.2.1==1;let N:=A=false->False/\True;let B:=z.2.2.1==0;let O:=(a.set (nI a-1).toNat (z.1,z.2.1,z.2.2.1,z.2.2.2.1+1,())).length+1;let C:=pm c.1 (ancO c.1) (a.set (nI a-1).toNat (z.1,z.2.1,1,0,()))<pm c.1 (ancO c.1) a;let P:=(aO cw (z.1,z.2.1,()) d.1).getD (0,0,0,false,[[],[]],());let D:=bF P.2.2.2.2.1 0 [];let a2:=z.2.2.2.1<(↑D.length:Int);let E:=bF P.2.2.2.2.1 1 [];let a3:=z.2.2.2.1<(↑E.length:Int);let R:=E.getD (rC z.2.2.2.1) (0,0,());let S:=D.getD (rC z.2.2.2.1) (0,0,());let z3:=true=true/\Br B (true=true/\Br a1 (false=false/\(true=true/\(none:Option (Nat×Bool))=none/\2=2)/\j=k/\(false=false/\true=true)/\(false=false/\true=true)/\Br (P.2.2.2.1) (true=true/\am (h+1)/\am (nI a-1)/\iN (nI a-1) a/\Is (jg (c,e,()) (ancO c.1) (j,h+1,k,d,a.set (nI a-1).toNat (z.1,z.2.1,1,0,()),g,n,o,())/\C)) ((false=false/\true=true)/\Br (g==0) ((false=false/\true=true)/\true=true/\Q ⟨0,(P.1,P.2.1,()),0,()⟩) ((false=false/\true=true)/\am (g-1)/\true=true/\am (h+1)/\am (nI a-1)/\iN (nI a-1) a/\Is (jg (c,e,()) (ancO c.1) (j,h+1,k,d,a.set (nI a-1).toNat (z.1,z.2.1,1,0,()),g-1,n,o,())/\C)))) (am (nI a-1)/\iN (nI a-1) a/\Is (jg (c,e,()) (ancO c.1) (j,h,k,d,a.set (nI a-1).toNat (z.1,z.2.1,1,0,()),g,n,o,())/\C))) (am (nI a-1)/\((0:Int)=0/\0<=nI a-1/\nI a-1<=nI a)/\true=true/\Br (decide a0) (Is (jg (c,e,()) (ancO c.1) (j,h,k,d,de (nI a-1).toNat a,g,n,o,())/\pm c.1 (ancO c.1) (de (nI a-1).toNat a)<pm c.1 (ancO c.1) a)) (Q ⟨0,(0,0,()),6,()⟩));let z2:=am (nI a-1)/\iN (nI a-1) a/\am (z.2.2.2.1+1)/\iN (nI a-1) a/\Br B ((0<=z.2.2.2.1/\z.2.2.2.1<(↑D.length:Int))/\O*32<=mM/\Is (jg (c,e,()) (ancO c.1) (j,h,k,d,a.set (nI a-1).toNat (z.1,z.2.1,z.2.2.1,z.2.2.2.1+1,())++[(S.1,S.2.1,0,0,())],g,n,o,())/\pm c.1 (ancO c.1) (a.set (nI a-1).toNat (z.1,z.2.1,z.2.2.1,z.2.2.2.1+1,())++[(S.1,S.2.1,0,0,())])<pm c.1 (ancO c.1) a)) ((A=true->(0<=z.2.2.2.1/\z.2.2.2.1<(↑E.length:Int))/\O*32<=mM/\Is (jg (c,e,()) (ancO c.1) (j,h,k,d,a.set (nI a-1).toNat (z.1,z.2.1,z.2.2.1,z.2.2.2.1+1,())++[(R.1,R.2.1,0,0,())],g,n,o,())/\pm c.1 (ancO c.1) (a.set (nI a-1).toNat (z.1,z.2.1,z.2.2.1,z.2.2.2.1+1,())++[(R.1,R.2.1,0,0,())])<pm c.1 (ancO c.1) a))/\N);jg (c,e,()) (ancO c.1) (j,h,k,d,a,g,n,o,())->am (nI a-1)/\iN (nI a-1) a/\Br B (true=true/\Br (decide a2) z2 z3) ((A=true->true=true/\Br (decide a3) z2 z3)/\N)))))) (by
 conv=>zeta
 unfold Bd Br gD iN mM nI bg oX zL mP;rintro t i Q ⟨⟨R,hi⟩,hQ⟩;have M:∀(y:ID)(e:Int),Q ⟨0,(y,e,())⟩:=λy e=>hQ (y,e) trivial;clear hQ;have N:=CI R.1;have hn:=R.2.1;have S:∀c:decide (i<0)=false,@aX Int _ 0 i:=λc=>Int.not_lt.1 (ap c);have b0:@aX Int _ i 1000000000:=hi;refine⟨λc=>⟨c,c,c,c,M _ _⟩,λc=>⟨c,c,R,c,c,λd=>M _ _,λd=>⟨trivial,⟨rfl,bt,rfl⟩,λl=>⟨rfl,⟨rfl,?_,λa1 a2 a3 a4 a5 a6 a7 a8 h=>⟨⟨h⟩,?_⟩⟩,?_⟩⟩⟩⟩
 ·have z0:=Mg N;have:pm t.1 (ancO t.1) [lv tW 0 0]=yX t.1 (ancO t.1) (lv tW 0 0):=by simp[pm]
  exact⟨⟨rfl,rfl,bY,λs B=>by simp at B;subst B;exact z0.1,by unfold QO;rw[show[((0,0,0,0,()):Sp)]=[lv tW 0 0]from rfl,this];have:=z0.2;have:=S c;omega⟩⟩
 all_goals
  clear c d;rintro C g l2 a o f id e ⟨g1,g2,g3,g4,g5,g6,g7,g8⟩;subst g1 g2;generalize ancO a.1=A at*;obtain⟨p,s,O,e1,e2,e3,e4⟩:=Mh (0,0,0,0,()) g3;have B:=g4 s (by rw[O];simp);have U:pm a.1 A o=pm a.1 A p+yX a.1 A s:=by rw[O,rp]
  have hl:=G0 (n:=a.1) (A:=A) o;have b1:o.length=p.length+1:=by rw[O];simp
  simp only[e1,e2,e3,e4];have D:am ((o.length:Int)-1):=cv
  have hB:0<=(o.length:Int)-1/\(o.length:Int)-1<o.length:=ac
  have hP:am (g+1):=cv
  have hM:am (f-1):=cv
  have r:∀x∈p++[s],qd a.1 x:=by rw[<-O];exact g4
  have b2:=GZ (n:=a.1) (A:=A) s;have J:∀v,((p++[v]:List Sp).length+1)*32<=140737488355328:=λv=>eM
  have K:∀(m:List Sp)(b w:Int),m≠[]->(∀s∈m,qd a.1 s)->pm a.1 A m+1<=pm a.1 A o->(b=g\/b=g+1)->(w=f\/w=f-1/\f≠0)->jg (a,i,()) A (C,b,C,a,m,w,id,e,())/\pm a.1 A m<pm a.1 A o:=
   λm b w W X h3 h4 h5=>⟨⟨rfl,rfl,W,X,by unfold QO;omega⟩,ac⟩
  have P:∀(j:Nat),uu s=j->(j=0\/j=1)->ox s<(pE a.1 s j).length->∀c,c=(pE a.1 s j).getD (ox s).toNat (0,0,())->jg (a,i,()) A (C,g,C,a,p++[lv (tX s) (uu s) (ox s+1)]++[lv c 0 0],f,id,e,())/\pm a.1 A (p++[lv (tX s) (uu s) (ox s+1)]++[lv c 0 0])<pm a.1 A o:=by
   intro j u Y hl c hc;obtain⟨k1,k2,k3⟩:=Me N B u Y hl hc;refine K _ g f bY ?_ ?_ (.inl rfl) (.inl rfl)
   ·intro x E;rcases ba.1 E with E|E
    ·exact G1 r k1 x E
    ·simp at E;subst E;exact k2
   ·rw[rp,rp,U];omega
  have L:0<=ox s:=B.2.1;rcases B.2.2 with⟨u,a0⟩|⟨u,a0⟩
  ·have F:(s.2.2.1==0)=true:=by show(uu s==0)=true;rw[u];rfl
   have nj:∀{G:Prop},(s.2.2.1==0)=false->G:=λc=>by rw[F]at c;cases c
   obtain⟨k1,k2⟩:=Mf (A:=A) B u
   have H:∀(b w:Int),(b=g\/b=g+1)->(w=f\/w=f-1/\f≠0)->jg (a,i,()) A (C,b,C,a,p++[lv (tX s) 1 0],w,id,e,())/\pm a.1 A (p++[lv (tX s) 1 0])<pm a.1 A o:=
    λb w W X=>K _ b w bY (G1 r k1) (by rw[rp,U];omega) W X
   have hN:ox s<(pE a.1 s 0).length->am (ox s+1):=λh=>by have:=GY N B.1 (j:=0) (.inl rfl);unfold am;omega
   refine⟨D,hB,λ_=>⟨trivial,λd=>⟨D,hB,hN (af d),hB,λ_=>⟨⟨L,af d⟩,J _,?_⟩,nj⟩,λd=>⟨trivial,λ_=>⟨trivial,λz=>⟨trivial,⟨trivial,trivial,trivial⟩,trivial,⟨trivial,trivial⟩,⟨trivial,trivial⟩,λgn=>⟨trivial,hP,D,hB,?_⟩,λgn=>⟨⟨trivial,trivial⟩,λ_=>⟨⟨trivial,trivial⟩,trivial,M _ _⟩,λiz=>⟨⟨trivial,trivial⟩,hM,trivial,hP,D,hB,?_⟩⟩⟩,λz=>⟨D,hB,?_⟩⟩,nj⟩⟩,nj⟩
   ·first
     |exact⟨(P 0 u (.inl rfl) (af d) _ rfl).1⟩
     |exact⟨P 0 u (.inl rfl) (af d) _ rfl⟩
   ·first
     |exact⟨(H (g+1) f (.inr rfl) (.inl rfl)).1⟩
     |exact⟨H (g+1) f (.inr rfl) (.inl rfl)⟩
   ·first
     |exact⟨(H (g+1) (f-1) (.inr rfl) (.inr ⟨rfl,aL iz⟩)).1⟩
     |exact⟨H (g+1) (f-1) (.inr rfl) (.inr ⟨rfl,aL iz⟩)⟩
   ·first
     |exact⟨(H g f (.inl rfl) (.inl rfl)).1⟩
     |exact⟨H g f (.inl rfl) (.inl rfl)⟩
  ·have F:(s.2.2.1==1)=true:=by show(uu s==1)=true;rw[u];rfl
   have n1:∀{G:Prop},(s.2.2.1==1)=false->G:=λc=>by rw[F]at c;cases c
   have a9:(s.2.2.1==0)=false:=by show(uu s==0)=false;rw[u];rfl
   have yj:∀{G:Prop},(s.2.2.1==0)=true->G:=λc=>by rw[a9]at c;cases c
   have hN:ox s<(pE a.1 s 1).length->am (ox s+1):=λh=>by have:=GY N B.1 (j:=1) (.inr rfl);unfold am;omega
   have PO:p≠[]->jg (a,i,()) A (C,g,C,a,p,f,id,e,())/\pm a.1 A p<pm a.1 A o:=
    λh=>K p g f h (λx E=>r x (dd _ E)) (by rw[U];omega) (.inl rfl) (.inl rfl)
   have PN:decide (0<(p.length:Int))=true->p≠[]:=λq e=>by rw[e]at q;cases q
   refine⟨D,hB,yj,λ_=>⟨λ_=>⟨trivial,λd=>⟨D,hB,hN (af d),hB,yj,λ_=>⟨λ_=>⟨⟨L,af d⟩,J _,?_⟩,n1⟩⟩,λd=>⟨trivial,yj,λ_=>⟨D,⟨by trivial,ac,ac⟩,trivial,λq=>?_,λq=>M _ _⟩⟩⟩,n1⟩⟩
   ·first
     |exact⟨(P 1 u (.inr rfl) (af d) _ rfl).1⟩
     |exact⟨P 1 u (.inr rfl) (af d) _ rfl⟩
   ·first
     |exact⟨(PO (PN q)).1⟩
     |exact⟨PO (PN q)⟩) (l:=λ_=>aU λ_=>⟨((0,0,()),0),trivial⟩)
def tr0:Trz:=([((0,0,()),(0,0,0,false,[[],[]],()))],0,())
def tr1:Trz:=([((0,0,()),(0,0,0,false,[[],[(0,1,())]],())),((0,1,()),(0,1,97,false,[[],[]],()))],0,())
def Em:Ct:=⟨2,⟨[TN 0,sI 1],[]⟩,[⟨[(0,true,[.d cw]),sL 1,sI 2],[]⟩],λ(t,i,_)=>fJ (qQ t/\i<=1000000000) (λy:ID×Bool×Int=>t=tr0->i=0->y=((0,0,()),true,0)) λy=>(y.1,y.2.1,y.2.2,())⟩
def XX:cx:=⟨[TN 0,(4,false,[.ptr 0 0]),(9,false,[.ptr 1 0])],[some (.cells [.d cw]),some (.cells [.d cw])]⟩
def yZ(x:Em.inp.den)(y:XX.den):Prop:=match x,y with
 |(a,_,_),(t,_,b,_)=>t=a/\t≠tr0/\(b.1,b.2.1,())∈iI a.1
noncomputable def fplA (x:Em.inp.den):eH:=⟨[(10,bS XX (yZ x) λ(_,_,a,_)=>wt x.1.1 (ancO x.1.1) (a.1,a.2.1,()))],[],[],[],0⟩
theorem G2(h:xq n A)(i:j=0\/j=1)(b:c∈((aO cw k n).getD kQ).2.2.2.2.1.getD j []):c∈iI n/\wt n A c<wt n A k:=by
 cases g:aO cw k n with
 |none=>
  rw[g]at b;rcases i with rfl|rfl<;>simp[kQ]at b
 |some v=>
  rw[g,dA]at b;have m:=ke g
  have a:c∈kc v:=by
   unfold kc;rcases i with rfl|rfl
   ·exact dd _ b
   ·exact List.mem_append_right _ b
  refine⟨h.key _ m c a,?_⟩;have f:=h.light m
  have o:wt n A c<=((kc v).map (wt n A)).sum:=by
   generalize kc v=l at*;clear f b
   induction l with
   |nil=>cases a
   |cons d l p=>
    simp only[aY,dy];rcases bm.1 a with e|e
    ·subst e;omega
    ·have:=p e;omega
  dsimp only at f;omega
def XY:bG:=(149,[Em])::XV
def XZ:=kA 149 Em XW fplA (∀(a:List (Fk×mU.den)×Int×Unit)(d:Int)(Q:cF Em.out->Prop),let h:=bF ((aO cw (0,0,()) a.1).getD (0,0,0,false,[[],[]],())).2.2.2.2.1 1 [];let j:=(↑h.length:Int)==0;let z:=∀(e:List (Fk×mU.den)×Int×Unit)(f c:Fk),let g:=bF ((aO cw c e.1).getD (0,0,0,false,[[],[]],())).2.2.2.2.1 0 [];yZ (a,d,()) (e,f,c,())->Bd (0<(↑g.length:Int)) (((0:Int)<=0/\0<(↑g.length:Int))/\Is (yZ (a,d,()) (e,f,g.getD 0 (0,0,()),())/\wt a.1 (ancO a.1) (g.getD 0 (0,0,()))<wt a.1 (ancO a.1) c)) (Q ⟨0,c,false,0,()⟩);bg Em (a,d,()) Q->Bd (d<0) (Q ⟨0,(0,0,()),false,6,()⟩) (qQ a/\Bd (nI a.1-1-a.2.1<d) (Q ⟨0,(0,0,()),false,6,()⟩) (Bd (0<d) (am (d-1)/\(qQ a/\d-(1:Int)<=1000000000)/\∀(b:Fk×Int),let i:=bF ((aO cw b.1 a.1).getD (0,0,0,false,[[],[]],())).2.2.2.2.1 1 [];let l:=(↑i.length:Int)==0;True->Br l (Q ⟨0,b.1,true,0,()⟩) (((0:Int)<=0/\0<(↑i.length:Int))/\Is (yZ (a,d,()) (a,(0,0,()),i.getD 0 (0,0,()),()))/\z)) (Br j (Q ⟨0,(0,0,()),true,0,()⟩) (((0:Int)<=0/\0<(↑h.length:Int))/\Is (yZ (a,d,()) (a,(0,0,()),h.getD 0 (0,0,()),()))/\z))))) (by
 conv=>zeta
 unfold Bd Br nI bg;rintro t i Q ⟨⟨n,s⟩,q⟩;have m:∀(y:ID)(b:Bool)(e:Int),(t=tr0->i=0->(y,b,e)=((0,0,()),true,0))->Q ⟨0,(y,b,e,())⟩:=λy b e h=>q (y,b,e) h;clear q;have r:=CI n.1;have u:@aX Int _ i 1000000000:=s
 have loop:t≠tr0->∀k:ID,((((aO cw k t.1).getD kQ).2.2.2.2.1.getD 1 []).length:Int)≠0->(0<=(0:Int)/\(0:Int)<(((aO cw k t.1).getD kQ).2.2.2.2.1.getD 1 []).length)/\Is (yZ (t,i,()) (t,(0,0,()),(((aO cw k t.1).getD kQ).2.2.2.2.1.getD 1 []).getD 0 (0,0,()),()))/\
  ∀(f:Trz)(d a:ID),yZ (t,i,()) (f,d,a,())->(decide ((0:Int)<(((aO cw a f.1).getD kQ).2.2.2.2.1.getD 0 []).length)=true->(0<=(0:Int)/\(0:Int)<(((aO cw a f.1).getD kQ).2.2.2.2.1.getD 0 []).length)/\Is (yZ (t,i,()) (f,d,(((aO cw a f.1).getD kQ).2.2.2.2.1.getD 0 []).getD 0 (0,0,()),())/\wt t.1 (ancO t.1) ((((aO cw a f.1).getD kQ).2.2.2.2.1.getD 0 []).getD 0 (0,0,()))<wt t.1 (ancO t.1) a))/\(decide ((0:Int)<(((aO cw a f.1).getD kQ).2.2.2.2.1.getD 0 []).length)=false->Q ⟨0,(a,false,0,())⟩):=by
  intro g k o;refine⟨⟨bp _,ac⟩,⟨⟨rfl,g,(G2 r (.inr rfl) (aV ac)).1⟩⟩,?_⟩;rintro f d a ⟨rfl,_,v⟩;refine⟨λc=>?_,λ_=>m _ _ _ λe=>absurd e g⟩;have c:=af c;have o:=G2 r (k:=a) (j:=0) (.inl rfl) (aV (z:=(0,0,())) (show 0<_ by omega));exact⟨⟨bp _,c⟩,⟨⟨rfl,g,o.1⟩,o.2⟩⟩
 refine⟨λc=>m _ _ _ λ_ e=>?_,λc=>⟨n,λd=>m _ _ _ λw x=>?_,λd=>⟨λp=>⟨?_,⟨n,?_⟩,λb _=>⟨λ_=>m _ _ _ λ_ e=>?_,λk=>loop ?_ b.1 (aL k)⟩⟩,λp=>⟨λ_=>m _ _ _ λ_ _=>rfl,λk=>loop ?_ (0,0,()) (aL k)⟩⟩⟩⟩
 ·subst e;exact absurd c bt
 ·subst w x;exact absurd d bt
 ·have:=af p;have:@nJ Int _ 0 i:=this;unfold am;omega
 ·have:@aX Int _ (i-1) 1000000000:=ac
  exact this
 ·subst e;exact absurd p bt
 ·intro e;have A:=af p;have B:=ap d;subst e;exact B A
 ·intro e;subst e;exact absurd k bt) (l:=λ_=>aU λ_=>⟨((0,0,()),true,0),λ_ _=>rfl⟩)
def Eo:Ct:=⟨1,⟨[TN 0],[]⟩,[⟨[(0,false,[.d .st])],[]⟩],λ(t,_)=>one (t=tr1) ([97],())⟩
def X0:cx:=⟨[(0,false,[.d .yl]),(1,false,[.ptr 0 0]),(3,false,[.own 1]),sI 4,(90,false,[.ptr 2 0]),(107,false,[.d .yl]),(108,false,[.k (.i64 0)])],[some (.cells [.d (.pf TL)]),some (.sl tSp),some (.cells [.own 3]),some (.sl .i32)]⟩
def ni(a:List Sp)(b:Int)(o:List Int):Nat:=
 if a=[(0,0,0,0,())]/\b=0/\o=[]then 5
 else if a=[(0,0,1,0,())]/\b=0/\o=[]then 4
 else if a=[(0,0,1,1,()),(0,1,0,0,())]/\b=0/\o=[]then 3
 else if a=[(0,0,1,1,()),(0,1,1,0,())]/\b=1/\o=[97]then 2
 else if a=[(0,0,1,1,())]/\b=1/\o=[97]then 1 else 0
def lq(x:Eo.inp.den)(y:X0.den):Prop:=match x,y with
 |(a,_),(l,b,c,t,e,o,_)=>l=c/\t=a/\0<ni e b o
def X1(x:Eo.inp.den):ve:=bS X0 (lq x) λ(_,a,_,_,b,o,_)=>ni b a o
def a5m(x:Eo.inp.den):eH:=⟨[],[(1003,X1 x)],[(0,0,X1 x)],[],0⟩
theorem a5n{o:List Int}(h:0<ni a b o):(a=[(0,0,0,0,())]/\b=0/\o=[])\/(a=[(0,0,1,0,())]/\b=0/\o=[])\/(a=[(0,0,1,1,()),(0,1,0,0,())]/\b=0/\o=[])\/(a=[(0,0,1,1,()),(0,1,1,0,())]/\b=1/\o=[97])\/(a=[(0,0,1,1,())]/\b=1/\o=[97]):=by
 unfold ni at h;split at h
 ·exact .inl ‹_›
 split at h
 ·exact .inr (.inl ‹_›)
 split at h
 ·exact .inr (.inr (.inl ‹_›))
 split at h
 ·exact .inr (.inr (.inr (.inl ‹_›)))
 split at h
 ·exact .inr (.inr (.inr (.inr ‹_›)))
 ·cases h
def X2:bG:=(51,[Eo])::XY
def X3:=kA 51 Eo XZ a5m (∀(g:List (Fk×mU.den)×Int×Unit)Q,bg Eo (g,()) Q->True/\(true=true/\1+(List.map (λp=>(768+p.1,p.2)) [(0,0)]).length<=87/\true=true)/\∀(l:Nat),true=true/\(true=true/\Is (lq (g,()) (l,0,l,g,[(0,0,0,0,())],[],()))/\∀(h:Nat)(d:Int)(i:Nat)(c:List (Fk×mU.den)×Int×Unit)(a:List (Int×Int×Fk))(e:List Int),lq (g,()) (h,d,i,c,a,e,())->Is (lq (g,()) (h,d,i,c,a,e,()))/\∀(m:Nat)(j:Int)(n:Nat)(f:List (Fk×mU.den)×Int×Unit)(b:List (Int×Int×Fk))(k:List Int),let M:=0<nI (de ((↑b.length:Int)-1).toNat b);let o:=gD b (nI b-1) (0,0,0,0,());let N:= !(o.1==0&&o.2.1==0);let q:=o.2.2.1==1;let A:=q=false->False/\True;let B:=rC o.2.2.2.1;let r:=o.2.2.1==0;let C:=(b.set (nI b-1).toNat (o.1,o.2.1,o.2.2.1,o.2.2.2.1+1,())).length+1;let J:=(aO cw (o.1,o.2.1,()) f.1).getD (0,0,0,false,[[],[]],());let s:=bF J.2.2.2.2.1 1 [];let D:=s.getD B (0,0,());let O:=o.2.2.2.1<(↑s.length:Int);let t:=bF J.2.2.2.2.1 0 [];let E:=t.getD B (0,0,());let P:=o.2.2.2.1<(↑t.length:Int);let X:=true=true/\Br r (true=true/\Br N (false=false/\(true=true/\(none:Option (Nat×Bool))=none/\2=2)/\m=n/\(false=false/\true=true)/\(false=false/\true=true)/\Br (!J.2.2.2.1) ((false=false/\true=true)/\(k.length+1)*4<=mM/\true=true/\am (j+1)/\am (nI b-1)/\iN (nI b-1) b/\Is (lq (g,()) (m,j+1,n,f,b.set (nI b-1).toNat (o.1,o.2.1,1,0,()),k++[J.2.2.1],()))) (true=true/\am (j+1)/\am (nI b-1)/\iN (nI b-1) b/\Is (lq (g,()) (m,j+1,n,f,b.set (nI b-1).toNat (o.1,o.2.1,1,0,()),k,())))) (am (nI b-1)/\iN (nI b-1) b/\Is (lq (g,()) (m,j,n,f,b.set (nI b-1).toNat (o.1,o.2.1,1,0,()),k,())))) (am (nI b-1)/\((0:Int)=0/\0<=nI b-1/\nI b-1<=nI b)/\true=true/\Br (decide M) (Is (lq (g,()) (m,j,n,f,de (nI b-1).toNat b,k,()))) (Q ⟨0,T0 k,()⟩));let Y:=am (nI b-1)/\iN (nI b-1) b/\am (o.2.2.2.1+1)/\iN (nI b-1) b/\Br r ((0<=o.2.2.2.1/\o.2.2.2.1<(↑t.length:Int))/\C*32<=mM/\Is (lq (g,()) (m,j,n,f,b.set (nI b-1).toNat (o.1,o.2.1,o.2.2.1,o.2.2.2.1+1,())++[(E.1,E.2.1,0,0,())],k,()))) ((q=true->(0<=o.2.2.2.1/\o.2.2.2.1<(↑s.length:Int))/\C*32<=mM/\Is (lq (g,()) (m,j,n,f,b.set (nI b-1).toNat (o.1,o.2.1,o.2.2.1,o.2.2.2.1+1,())++[(D.1,D.2.1,0,0,())],k,())))/\A);lq (g,()) (m,j,n,f,b,k,())->am (nI b-1)/\iN (nI b-1) b/\Br r (true=true/\Br (decide P) Y X) ((q=true->true=true/\Br (decide O) Y X)/\A))/\∀(h:Nat)(d:Int)(i:Nat)(c:List (Fk×mU.den)×Int×Unit)(a:List (Int×Int×Fk))(e:List Int),let R:=0<nI (de ((↑a.length:Int)-1).toNat a);let z:=gD a (nI a-1) (0,0,0,0,());let S:= !(z.1==0&&z.2.1==0);let u:=z.2.2.1==1;let F:=u=false->False/\True;let v:=z.2.2.1==0;let G:=(a.set (nI a-1).toNat (z.1,z.2.1,z.2.2.1,z.2.2.2.1+1,())).length+1;let w:=a.set (nI a-1).toNat (z.1,z.2.1,1,0,());let H:=(aO cw (z.1,z.2.1,()) c.1).getD (0,0,0,false,[[],[]],());let x:=bF H.2.2.2.2.1 0 [];let U:=z.2.2.2.1<(↑x.length:Int);let y:=bF H.2.2.2.2.1 1 [];let W:=z.2.2.2.1<(↑y.length:Int);let K:=y.getD (rC z.2.2.2.1) (0,0,());let L:=x.getD (rC z.2.2.2.1) (0,0,());let z3:=true=true/\Br v (true=true/\Br S (false=false/\(true=true/\(none:Option (Nat×Bool))=none/\2=2)/\h=i/\(false=false/\true=true)/\(false=false/\true=true)/\Br (!H.2.2.2.1) ((false=false/\true=true)/\(e.length+1)*4<=mM/\true=true/\am (d+1)/\am (nI a-1)/\iN (nI a-1) a/\Is (lq (g,()) (h,d+1,i,c,a.set (nI a-1).toNat (z.1,z.2.1,1,0,()),e++[H.2.2.1],())/\ni w (d+1) (e++[H.2.2.1])<ni a d e)) (true=true/\am (d+1)/\am (nI a-1)/\iN (nI a-1) a/\Is (lq (g,()) (h,d+1,i,c,a.set (nI a-1).toNat (z.1,z.2.1,1,0,()),e,())/\ni w (d+1) e<ni a d e))) (am (nI a-1)/\iN (nI a-1) a/\Is (lq (g,()) (h,d,i,c,a.set (nI a-1).toNat (z.1,z.2.1,1,0,()),e,())/\ni w d e<ni a d e))) (am (nI a-1)/\((0:Int)=0/\0<=nI a-1/\nI a-1<=nI a)/\true=true/\Br (decide R) (Is (lq (g,()) (h,d,i,c,de (nI a-1).toNat a,e,())/\ni (de (nI a-1).toNat a) d e<ni a d e)) (Q ⟨0,T0 e,()⟩));let z2:=am (nI a-1)/\iN (nI a-1) a/\am (z.2.2.2.1+1)/\iN (nI a-1) a/\Br v ((0<=z.2.2.2.1/\z.2.2.2.1<(↑x.length:Int))/\G*32<=mM/\Is (lq (g,()) (h,d,i,c,a.set (nI a-1).toNat (z.1,z.2.1,z.2.2.1,z.2.2.2.1+1,())++[(L.1,L.2.1,0,0,())],e,())/\ni (a.set (nI a-1).toNat (z.1,z.2.1,z.2.2.1,z.2.2.2.1+1,())++[(L.1,L.2.1,0,0,())]) d e<ni a d e)) ((u=true->(0<=z.2.2.2.1/\z.2.2.2.1<(↑y.length:Int))/\G*32<=mM/\Is (lq (g,()) (h,d,i,c,a.set (nI a-1).toNat (z.1,z.2.1,z.2.2.1,z.2.2.2.1+1,())++[(K.1,K.2.1,0,0,())],e,())/\ni (a.set (nI a-1).toNat (z.1,z.2.1,z.2.2.1,z.2.2.2.1+1,())++[(K.1,K.2.1,0,0,())]) d e<ni a d e))/\F);lq (g,()) (h,d,i,c,a,e,())->am (nI a-1)/\iN (nI a-1) a/\Br v (true=true/\Br (decide U) z2 z3) ((u=true->true=true/\Br (decide W) z2 z3)/\F)) (by
 conv=>zeta
 unfold Br gD iN mM nI bg;rintro t Q ⟨b,c⟩;subst b;refine⟨trivial,⟨rfl,bt,rfl⟩,λl=>⟨rfl,⟨rfl,⟨⟨rfl,rfl,bt⟩⟩,λg i j m n p h=>⟨⟨h⟩,?_⟩⟩,?_⟩⟩
 all_goals
  rintro q r s u v o ⟨e,f,a⟩;subst e f;rcases a5n a with⟨rfl,rfl,rfl⟩|⟨rfl,rfl,rfl⟩|⟨rfl,rfl,rfl⟩|⟨rfl,rfl,rfl⟩|⟨rfl,rfl,rfl⟩
  all_goals
   clear a
   (repeat' (first|apply ck|(intro h;first|exact absurd h bt|clear h)))<;>first
    |trivial
    |rfl
    |(unfold am;decide)
    |decide
    |exact⟨⟨rfl,rfl,bt⟩⟩
    |exact⟨⟨rfl,rfl,bt⟩,bt⟩
    |exact c)
abbrev cN:Option CP:=some (.cells [.d .i64])
def Oc(m:Mk):Prop:=0<=m.1/\m.1<=1099511627776/\0<=m.2.1/\m.2.1<5
def G3:Ct:=⟨3,⟨[(0,true,[.d hX]),sI 1,(2,false,[.ptr 0 0])],[cN]⟩,[⟨[sI 0],[cN]⟩],λ(m,t,a,_)=>fJ (Oc m/\0<=t/\t<=1099511627776/\0<=a/\a<5) (λ_:Int=>True) λy=>(y,a,())⟩
abbrev QP(v:Fk):cF G3.out:=⟨0,v⟩
def X4:bG:=(205,[G3])::X2
def X5:=kA 205 G3 X3 (cQ G3 0) (∀(a:hX.den)(c b:Int)(Q:cF G3.out->Prop),(Tr.need (Oc a/\0<=c/\c<=1099511627776/\0<=b/\b<5) (Tr.all Int (λa=>True) λy=>Tr.leaf (QP (y,b,())))).sat Q->Br (!a.1==c) (am (a.1-c)/\Q ⟨0,a.1-c,b,()⟩) (am (a.2.1-b)/\Q ⟨0,a.2.1-b,b,()⟩)) (by
 unfold Br;rintro⟨s,u,h,i,j,m,n,o,p,q,⟨⟩⟩ t a Q ⟨⟨⟨b,c,e,f⟩,r,v,w,x⟩,g⟩;have b:@aX Int _ 0 s:=b;have c:@aX Int _ s 1099511627776:=c;have e:@aX Int _ 0 u:=e;have f:@nJ Int _ u 5:=f;exact⟨λ_=>⟨by show am (@bO Int Int Int _ s t);unfold am;omega,g _ trivial⟩,λ_=>⟨by show am (@bO Int Int Int _ u a);unfold am;omega,g _ trivial⟩⟩) (l:=λ_=>aU λ_=>⟨0,trivial⟩)
theorem QQ(h0:0<=x)(a:x<=10000000):IntKind.i64.wrap ((bf 64 x>>>1).toNat:Int)=x/2:=by
 rw[dK];rw[BitVec.toNat_ushiftRight,BitVec.toNat_ofInt,Nat.shiftRight_eq_div_pow];omega
def G4:Ct:=⟨3,⟨[(0,false,[.d (.sl hX)]),sI 1,(2,false,[.fn 205 [] [(0,0)]])],[cN]⟩,[⟨[sI 0,sL 1],[cN]⟩],λ(l,t,a,_)=>fJ (l.length<=1000000/\(∀m∈l,Oc m)/\0<=t/\t<=1099511627776/\0<=a/\a<5) (λy:Int×Bool=>0<=y.1/\y.1<=l.length) λy=>(y.1,y.2,a,())⟩
def X6:cx:=⟨[(0,false,[.d (.sl hX)]),sI 1,(2,false,[.fn 205 [] [(0,0)]]),sI 8,sI 9,sI 10],[cN]⟩
def G5(x:G4.inp.den)(y:X6.den):Prop:=match x,y with
 |(b,c,e,_),(l,t,n,i,j,a,_)=>l=b/\t=c/\a=e/\n=b.length/\@aX Int _ 0 i/\@aX Int _ i j/\@aX Int _ j b.length
def a5o(x:G4.inp.den):eH:=⟨[(3,bS X6 (G5 x) λ(_,_,_,i,j,_)=>(@bO Int Int Int _ j i).toNat)],[],[],[],0⟩
def X7:bG:=(204,[G4])::X4
def X8:=kA 204 G4 X5 a5o (∀(e:List hX.den)(h i:Int)Q,bg G4 (e,h,i,()) Q->Is (G5 (e,h,i,()) (e,h,nI e,0,nI e,i,()))/\∀(f:List hX.den)(g j a c d:Int),let l:=0<=g/\g<=1099511627776/\0<=d/\d<5;let z:=bf 64 (a+c)>>>1;let m:=IntKind.i64.wrap (↑z.toNat:Int)+1;G5 (e,h,i,()) (f,g,j,a,c,d,())->Bd (a<c) (am (a+c)/\(0<=IntKind.i64.wrap (↑z.toNat:Int)/\IntKind.i64.wrap (↑z.toNat:Int)<nI f)/\(Oc (gD f (IntKind.i64.wrap (↑z.toNat:Int)) (0,0,0,0,false,0,0,false,0,0,()))/\l)/\∀(b:Int),True->Bd (b<0) (am m/\Is (G5 (e,h,i,()) (f,g,j,IntKind.i64.wrap (↑z.toNat:Int)+1,c,d,())/\(c-m).toNat<(c-a).toNat)) (Is (G5 (e,h,i,()) (f,g,j,a,IntKind.i64.wrap (↑z.toNat:Int),d,())/\(IntKind.i64.wrap (↑z.toNat:Int)-a).toNat<(c-a).toNat))) (Bd (a<j) (iN a f/\(Oc (gD f a (0,0,0,0,false,0,0,false,0,0,()))/\l)/\∀(b:Int),True->Q ⟨0,a,b==0,d,()⟩) (Q ⟨0,a,false,d,()⟩))) (by
 conv=>zeta
 unfold Bd gD iN nI bg;rintro l t a Q ⟨⟨s,m,o⟩,p⟩;have q:∀(y:Int)(b:Bool),0<=y/\y<=l.length->Q ⟨0,(y,b,a,())⟩:=λy b h=>p (y,b) h;clear p;refine⟨⟨rfl,rfl,rfl,rfl,bp _,Int.natCast_nonneg _,bp _⟩,?_⟩;rintro r u n i j v ⟨rfl,rfl,rfl,rfl,e,g,f⟩;have e:@aX Int _ 0 i:=e;have g:@aX Int _ i j:=g;have f:@aX Int _ j r.length:=f;refine⟨λc=>?_,λc=>⟨λd=>?_,λd=>q _ _ ⟨e,Int.le_trans g f⟩⟩⟩
 ·have c:=af c;rw[QQ (x:=i+j) ac ac];refine⟨cv,⟨ac,ac⟩,⟨m _ (aV ac),o⟩,λb _=>⟨λ_=>⟨cv,⟨rfl,rfl,rfl,rfl,?_,?_,f⟩,ac⟩,λ_=>⟨⟨rfl,rfl,rfl,rfl,e,?_,?_⟩,ac⟩⟩⟩
  ·show @aX Int _ 0 ((i+j)/2+1);omega
  ·show @aX Int _ ((i+j)/2+1) j;omega
  ·show @aX Int _ i ((i+j)/2);omega
  ·show @aX Int _ ((i+j)/2) r.length;omega
 ·have d:=af d;exact⟨⟨e,d⟩,⟨m _ (aV ac),o⟩,λb _=>q _ _ ⟨e,Int.le_trans g f⟩⟩) (l:=λ_=>aU λ_=>⟨(0,false),bp _,Int.natCast_nonneg _⟩)
end Go.Tp
namespace Go.Tp
open Go.Hv Go.Proofs Go.RowKit Go.Lib Go.Shelf
set_option maxRecDepth 100000
set_option maxHeartbeats 0
section
theorem fN{P:Program}(w:World)(n q ty elem:TypeId)(b o c f:Nat)(a:Addr)(e g z:Nat)(cs:List Value)
 (r:P.underlying n=some (.slice elem)) (p:(P.info? elem).map (·.size)=some z) (s:cs.length=Nat.min e c*z)
 (h:∀j v,cs[j]?=some v->w.cell? (a.add j)=some v) (t:∀j,j<cs.length->(w.cell? ⟨b,o+j,none⟩).isSome=true) (u:∀j,j<cs.length->w.frozen? ⟨b,o+j,none⟩=false) (x:∀v∈cs,v.oneCell'=true):
 (Builtin.copy_ #[n,q] ty #[.slice (some ⟨b,o,none⟩) c f, .slice (some a) e g]).run P w= .ok (goInt (Nat.min e c)) (w.setCells b o cs):=by
 have y:=run_loadCells_list (P:=P) w a cs h;have l:=run_storeCells_cells (P:=P) b o cs 0 w (cf t) (cf u) x;cases m:P.info? elem with
 |none=>simp[m]at p
 |some i=>
  have A:i.size=z:=by simpa[m]using p
  simp[Builtin.copy_,run_underlying r,Builtin.lenOf,Builtin.firstCells,sizeOf,typeInfo,m,A,<-s,y,l]
section
set_option maxHeartbeats 4000000
set_option maxRecDepth 100000
theorem wC:(Tryz.prog.info? 214).map (·.size)=some 10:=dC
theorem Ep(b n c i a vc:Nat)(cs vs:List Value)(w:World)(hi:i<n)(A:n+1<=c)(Y:n<=1000000)(q:a≠b)
 (B:cs.length=n*10) (C:vs.length=10)
 (D:∀j v,cs[j]?=some v->w.cell? ⟨b,j,none⟩=some v) (l:∀j,j<(n+1)*10->(w.cell? ⟨b,j,none⟩).isSome=true) (r:∀j,w.frozen? ⟨b,j,none⟩=false)
 (E:∀j v,vs[j]?=some v->w.cell? ⟨a,j,none⟩=some v) (F:∀v∈cs,v.oneCell'=true) (G:∀v∈vs,v.oneCell'=true)
 (R tB:TypeId) (kA H:Nat) (J:w.shape? a=some (R,kA)) (K:w.shape? b=some (tB,H)) (L:H≠0) (s:∀j,w.frozen? ⟨a,j,none⟩=false):
 Calls Tryz.prog 184 #[.slice (some ⟨b,0,none⟩) n c, .int .i64 i, .slice (some ⟨a,0,none⟩) 1 vc] w λe w'=>
  e= .returned (.slice (some ⟨b,0,none⟩) (n+1) c)/\w'=(w.drew.setCells b ((i+1)*10) (cs.drop (i*10))).setCells b (i*10) vs:=by
 have M:=tS;have S:=Tryz.sizeOf214;have u3:=Tryz.runUnderlying3;have U:=Tryz.runUnderlying233;have a0:¬((i:Int)=(n:Int)):=ac
 have a1:IntKind.i64.wrap ((i:Int)+1)=(i:Int)+1:=by rw[IntKind.wrap_i64];omega
 have a2:IntKind.i64.wrap ((n:Int)+1)=(n:Int)+1:=by rw[IntKind.wrap_i64];omega
 have a3:(0:Int)<=(i:Int)+1:=ac
 have a4:i<=n:=ac
 have a5:((i:Int)+1).toNat=i+1:=ac
 have X:((n:Int)+1).toNat=n+1:=ac
 have a6:¬(c=i+1):=ac
 have a7:(i:Int)<=(n:Int)+1:=ac
 have a8:¬(c=i):=ac
 have N:∀o O P,(callFunc 206 #[.slice (some ⟨a,0,none⟩) 1 vc, .slice (some ⟨b,o,none⟩) O P]).run Tryz.prog w= .ok (.value (.bool false)) w:=λo O P=>by
  rw[run_callFunc_extern Tryz.func206 dC dC dC (e:=Extern.SlicesOverlaps.overlaps #[233,233] #[4]) dC,
   Lib.run_overlaps_apart w 233 4 214 Tryz.underlying233 10 Tryz.sizeOf214 ⟨a,0,none⟩ ⟨b,o,none⟩ 1 vc O P q R tB kA H J K L (s _) (s _)]
  rfl
 have t:(cs.drop (i*10)).length=(n-i)*10:=by rw[List.length_drop,B];omega
 have g:∀m p sc,(Builtin.copy_ #[233,233] m #[.slice (some ⟨b,(i+1)*10,none⟩) (n-i) p, .slice (some ⟨b,i*10,none⟩) (n+1-i) sc]).run Tryz.prog w.drew= .ok (goInt (Nat.min (n+1-i) (n-i))) (w.drew.setCells b ((i+1)*10) (cs.drop (i*10))):=λm p sc=>
  fN w.drew _ _ m 214 b ((i+1)*10) (n-i) p ⟨b,i*10,none⟩ (n+1-i) sc 10 (cs.drop (i*10)) Tryz.underlying233 wC (by rw[t];simp only[Nat.min_def];split<;>omega)
   (λj v f=>by rw[Addr.add_lit];exact D (i*10+j) v (by rwa [List.getElem?_drop]at f))
   (λj f=>l _ ac) (λj f=>r _) (λv hv=>F v (List.mem_of_mem_drop hv))
 obtain⟨W1,hW1⟩:∃W1,W1=w.drew.setCells b ((i+1)*10) (cs.drop (i*10)):=⟨_,rfl⟩
 have u:∀k,k<(n+1)*10->(W1.cell? ⟨b,k,none⟩).isSome=true:=λk hk=>by
  rw[hW1];exact isSome_setCells b (cs.drop (i*10)) ((i+1)*10) w.drew (λj f=>l _ (by rw[t]at f;omega)) _ (l k hk)
 have y:∀(W:World),(∀x,W.cell? x=W1.cell? x)->(∀x,W.frozen? x=W1.frozen? x)->∀m p,(Builtin.copy_ #[233,233] m #[.slice (some ⟨b,i*10,none⟩) (n+1-i) p, .slice (some ⟨a,0,none⟩) 1 vc]).run Tryz.prog W= .ok (goInt (Nat.min 1 (n+1-i))) (W.setCells b (i*10) vs):=λW z Q m p=>
  fN W _ _ m 214 b (i*10) (n+1-i) p ⟨a,0,none⟩ 1 vc 10 vs Tryz.underlying233 wC (by rw[C];simp only[Nat.min_def];split<;>omega)
   (λj v f=>by
    rw[Addr.add_lit,z,hW1,World.cell?_setCells_out b _ _ _ _ (λh _=>absurd h q),Nat.zero_add];exact E j v f)
   (λj f=>by rw[z];exact u _ ac) (λj f=>by rw[Q,hW1,World.frozen?_setCells];exact r _) G
 rw[<-hW1]at g
 go_enter Tryz.func184,Tryz.ntmps184
 go_wp2_with (simp only[N])
 go_region_law_o (refine step_copy_runI rfl _ _ 233 233 rfl _ _ (by simp[Act.eval,Act.put]) (by simp[Act.eval,Act.put]) (g _ _ _) ?_)
 go_wp2_with (at_builtin;refine wpList_copy_runI _ rfl _ _ 233 233 rfl _ _ rfl rfl (y _ (λ_=>rfl) (λ_=>rfl) _ _) ?_)
 go_ret
 first|exact⟨rfl,rfl⟩|exact⟨rfl,by rw[hW1]⟩
abbrev CK:Value:= .agg #[.int .i64 0, .int .i64 0, .int .i64 0, .int .i64 0, .bool false, .int .i64 0, .int .i64 0, .bool false, .int .i64 0, .int .i64 0]
theorem G6(b n c i vb vc:Nat)(cs vs:List Value)(w:World)(hi:i<n)(hnc:n<=c)(hroom:c<n+1)(hn6:n<=1000000)
 (hcl:cs.length=n*10) (hvl:vs.length=10)
 (hcs:∀j v,cs[j]?=some v->w.cell? ⟨b,j,none⟩=some v)
 (hvs:∀j v,vs[j]?=some v->w.cell? ⟨vb,j,none⟩=some v) (h1c:∀v∈cs,v.oneCell'=true) (h1v:∀v∈vs,v.oneCell'=true):
 Calls Tryz.prog 184 #[.slice (some ⟨b,0,none⟩) n c, .int .i64 i, .slice (some ⟨vb,0,none⟩) 1 vc] w λe w'=>
  e= .returned (.slice (some ⟨w.heap.size,0,none⟩) (n+1) (grownCap w (n+1) c 214))/\
  w'=(((w.alloc (.cells ((cs.take (i*10)).toArray++Builtin.zeroCells CK.cells (n+1-i)++Builtin.zeroCells CK.cells (grownCap w (n+1) c 214-(n+1))) 214)).drew.setCells w.heap.size (i*10) vs).drew).setCells w.heap.size ((i+1)*10) (cs.drop (i*10)):=by
 have mixed:=tS;have z214:=Tryz.sizeOf214;have u3:=Tryz.runUnderlying3;have u233:=Tryz.runUnderlying233;obtain⟨i0,hi0,hz0,hzs,hzb⟩:=info_parts (P:=Tryz.prog) (e:=214) (z:=CK) (size:=10) (bytes:=80) dC;have hz2:¬((i:Int)=(n:Int)):=ac
 have hz3:(c:Int)<(n:Int)+1:=ac
 have hbw:b<w.heap.size:=block_lt_of_cell (hcs 0 _ (List.getElem?_eq_getElem ac));have hvw:vb<w.heap.size:=block_lt_of_cell (hvs 0 _ (List.getElem?_eq_getElem ac));have hkk:(n:Int)+1-(i:Int)=((n+1-i:Nat):Int):=ac
 have hik:i+(n+1-i)=n+1:=ac
 have hold:(Builtin.firstCells i0.size i (.slice (some ⟨b,0,none⟩) i c)).run Tryz.prog w.drew= .ok (cs.take (i*10)).toArray w.drew:=by
  rw[hzs]
  exact run_firstCells_some w.drew 10 i ⟨b,0,none⟩ i c (cs.take (i*10)) (by rw[List.length_take];omega) (λj v hj=>by
   rw[Addr.add_lit,Nat.zero_add];rw[List.getElem?_take]at hj;split at hj
   ·exact hcs j v hj
   ·cases hj)
 have hrz:∀ty,(Builtin.append_ #[233,3] ty #[.slice (some ⟨b,0,none⟩) i c, .int .i64 ((n:Int)+1-(i:Int))]).run Tryz.prog w=
  .ok (.slice (some ⟨w.heap.size,0,none⟩) (n+1) (grownCap w (n+1) c 214)) (w.drew.alloc (.cells ((cs.take (i*10)).toArray++Builtin.zeroCells CK.cells (n+1-i)++Builtin.zeroCells CK.cells (grownCap w (n+1) c 214-(n+1))) 214)):=λty=>by
  have h:=Lib.run_append_grow_zeros w 233 3 ty 214 i0 _ .i64 .i64 Tryz.underlying233 Tryz.underlying3 hi0 hz0 (some ⟨b,0,none⟩) i c (cs.take (i*10)) hold (n+1-i) ac ac ac ac (by rw[hzb];omega) (by rw[hzb,hik];exact growslice_fits hroom ac);rw[hik]at h;rw[hkk];exact h
 obtain⟨G,hG⟩:∃G,G=grownCap w (n+1) c 214:=⟨_,rfl⟩;obtain⟨ROW,hROW⟩:∃ROW:Array Value,ROW=(cs.take (i*10)).toArray++Builtin.zeroCells CK.cells (n+1-i)++Builtin.zeroCells CK.cells (G-(n+1)):=⟨_,rfl⟩;rw[<-hG]at hrz⊢;rw[<-hROW]at hrz⊢
 have hRl:(n+1)*10<=ROW.size:=by
  rw[hROW];simp[Builtin.zeroCells,Value.cells,hcl];omega
 obtain⟨W1,hW1⟩:∃W1,W1=w.drew.alloc (.cells ROW 214):=⟨_,rfl⟩;rw[<-hW1]at hrz
 have hN:∀j,j<(n+1)*10->(W1.cell? ⟨w.heap.size,j,none⟩).isSome=true:=λj hj=>by
  rw[hW1,World.cell?_alloc_at (w:=w.drew) ROW _ w.heap.size j rfl,Array.getElem?_eq_getElem ac];rfl
 have hNf:∀j,W1.frozen? ⟨w.heap.size,j,none⟩=false:=λj=>by rw[hW1];exact World.frozen?_alloc_at (w:=w.drew) ROW _ w.heap.size j rfl
 have hOb:∀j v,w.cell? ⟨b,j,none⟩=some v->W1.cell? ⟨b,j,none⟩=some v:=λj v h=>by rw[hW1,World.cell?_alloc_past (w:=w.drew) _ b j hbw];exact h
 have hOv:∀j v,w.cell? ⟨vb,j,none⟩=some v->W1.cell? ⟨vb,j,none⟩=some v:=λj v h=>by rw[hW1,World.cell?_alloc_past (w:=w.drew) _ vb j hvw];exact h
 have hcpA:∀(W:World),(∀x,W.cell? x=W1.cell? x)->(∀x,W.frozen? x=W1.frozen? x)->∀ty dc,(Builtin.copy_ #[233,233] ty #[.slice (some ⟨w.heap.size,i*10,none⟩) (n+1-i) dc, .slice (some ⟨vb,0,none⟩) 1 vc]).run Tryz.prog W= .ok (goInt (Nat.min 1 (n+1-i))) (W.setCells w.heap.size (i*10) vs):=λW hWc hWf ty dc=>
  fN W _ _ ty 214 w.heap.size (i*10) (n+1-i) dc ⟨vb,0,none⟩ 1 vc 10 vs Tryz.underlying233 wC (by rw[hvl];simp only[Nat.min_def];split<;>omega)
   (λj v hj=>by rw[Addr.add_lit,hWc,Nat.zero_add];exact hOv _ v (hvs j v hj))
   (λj hj=>by rw[hWc];exact hN _ ac) (λj hj=>by rw[hWf];exact hNf _) h1v
 have hGn:n+1<=G:=by rw[hG];exact grownCap_ge w _ _ _
 have hG63:G<=9223372036854775807:=by
  have:=grownCap_le_maxLen w (n+1) c 214 (by unfold maxLen;omega);rw[<-hG]at this;unfold maxLen at this;omega
 have hGi:¬(G=i):=ac
 have hGim:¬(G=i+1):=ac
 have hci:¬(c=i):=ac
 have hbN:b≠w.heap.size:=ac
 have hdl:(cs.drop (i*10)).length=(n-i)*10:=by rw[List.length_drop,hcl];omega
 have hcpB:∀(W:World),(∀x,W.cell? x=(W1.setCells w.heap.size (i*10) vs).cell? x)->(∀x,W.frozen? x=(W1.setCells w.heap.size (i*10) vs).frozen? x)->∀ty dc sc,(Builtin.copy_ #[233,233] ty #[.slice (some ⟨w.heap.size,(i+1)*10,none⟩) (n-i) dc, .slice (some ⟨b,i*10,none⟩) (n-i) sc]).run Tryz.prog W= .ok (goInt (Nat.min (n-i) (n-i))) (W.setCells w.heap.size ((i+1)*10) (cs.drop (i*10))):=λW hWc hWf ty dc sc=>
  fN W _ _ ty 214 w.heap.size ((i+1)*10) (n-i) dc ⟨b,i*10,none⟩ (n-i) sc 10 (cs.drop (i*10)) Tryz.underlying233 wC (by rw[hdl];simp only[Nat.min_def];split<;>omega)
   (λj v hj=>by
    rw[Addr.add_lit,hWc,World.cell?_setCells_out _ _ _ _ _ (λh _=>absurd h hbN)];exact hOb _ v (hcs (i*10+j) v (by rwa [List.getElem?_drop]at hj)))
   (λj hj=>by rw[hWc];exact isSome_setCells _ vs (i*10) W1 (λt ht=>hN _ (by rw[hvl]at ht;omega)) _ (hN _ ac))
   (λj hj=>by rw[hWf,World.frozen?_setCells];exact hNf _) (λv hv=>h1c v (List.mem_of_mem_drop hv))
 subst hW1;have hE1:∀x,((w.alloc (.cells ROW 214)).drew).cell? x=(w.drew.alloc (.cells ROW 214)).cell? x:=λx=>rfl;have hE2:∀x,((w.alloc (.cells ROW 214)).drew).frozen? x=(w.drew.alloc (.cells ROW 214)).frozen? x:=λx=>rfl;have hF1:∀x,(((w.alloc (.cells ROW 214)).drew.setCells w.heap.size (i*10) vs).drew).cell? x=((w.drew.alloc (.cells ROW 214)).setCells w.heap.size (i*10) vs).cell? x:=λx=>rfl;have hF2:∀x,(((w.alloc (.cells ROW 214)).drew.setCells w.heap.size (i*10) vs).drew).frozen? x=((w.drew.alloc (.cells ROW 214)).setCells w.heap.size (i*10) vs).frozen? x:=λx=>rfl;have hw1:IntKind.i64.wrap ((i:Int)+1)=(i:Int)+1:=by rw[IntKind.wrap_i64];omega
 have hw2:IntKind.i64.wrap ((n:Int)+1)=(n:Int)+1:=by rw[IntKind.wrap_i64];omega
 have hw3:IntKind.i64.wrap ((n:Int)+1-(i:Int))=(n:Int)+1-(i:Int):=by rw[IntKind.wrap_i64];omega
 have hb1:(0:Int)<=(i:Int)+1:=ac
 have hin:i<=n:=ac
 have htn:((i:Int)+1).toNat=i+1:=ac
 have hb3:(i:Int)<=(n:Int):=ac
 clear hkk hik hold hROW hG hRl
 go_enter Tryz.func184,Tryz.ntmps184
 go_wp2_with (first
  |(at_builtin;refine Lib.wpList_append_run _ rfl _ _ _ _ rfl _ _ rfl rfl _ _ (hrz _) ?_)
  |(at_builtin;refine wpList_copy_runI _ rfl _ _ 233 233 rfl _ _ rfl rfl (hcpA _ hE1 hE2 _ _) ?_)
  |(at_builtin;refine wpList_copy_runI _ rfl _ _ 233 233 rfl _ _ rfl rfl (hcpB _ (λ_=>rfl) (λ_=>rfl) _ _ _) ?_))
 go_region_law_o (refine step_copy_runI rfl _ _ 233 233 rfl (.slice (some ⟨w.heap.size,(i+1)*10,none⟩) (n-i) (G-(i+1))) (.slice (some ⟨b,i*10,none⟩) (n-i) (c-i)) (by simp[Act.eval,Act.put]) (by simp[Act.eval,Act.put]) (hcpB _ hF1 hF2 3 (G-(i+1)) (c-i)) ?_)
 go_wp2
 go_ret
 exact⟨rfl,rfl⟩
theorem wD(b n c g vc:Nat)(vs:List Value)(w:World)(a:n+1<=c)(D:n<=1000000)
 (m:vs.length=10) (o:∀j,j<(n+1)*10->(w.cell? ⟨b,j,none⟩).isSome=true) (p:∀j,w.frozen? ⟨b,j,none⟩=false)
 (q:∀j v,vs[j]?=some v->w.cell? ⟨g,j,none⟩=some v) (r:∀v∈vs,v.oneCell'=true):
 Calls Tryz.prog 184 #[.slice (some ⟨b,0,none⟩) n c, .int .i64 n, .slice (some ⟨g,0,none⟩) 1 vc] w λe w'=>
  e= .returned (.slice (some ⟨b,0,none⟩) (n+1) c)/\w'=w.setCells b (n*10) vs:=by
 have s:=tS;have y:=Tryz.sizeOf214;have G:=Tryz.runUnderlying3;have A:=Tryz.runUnderlying233;obtain⟨B,t,E,f,F⟩:=info_parts (P:=Tryz.prog) (e:=214) (z:=CK) (size:=10) (bytes:=80) dC
 have i:Src Tryz.prog B.size 233 (.slice (some ⟨g,0,none⟩) 1 vc) 1 vs w:=by
  rw[f];exact Src.ofSlice w Tryz.underlying233 ⟨g,0,none⟩ 1 vc vs ac (λj u C=>by rw[Addr.add_lit,Nat.zero_add];exact q j u C) r
 have l:∀x,(Builtin.append_ #[233,233] x #[.slice (some ⟨b,0,none⟩) n c, .slice (some ⟨g,0,none⟩) 1 vc]).run Tryz.prog w= .ok (.slice (some ⟨b,0,none⟩) (n+1) c) (w.setCells b (n*10) vs):=λx=>by
  have h:=run_append_room_src (w:=w) 233 233 x 214 B Tryz.underlying233 t b 0 n c _ 1 vs i a (by rw[m,f];intro j C;rw[Nat.zero_add];exact o _ ac) (by intro j _;exact p _);rw[f,Nat.zero_add]at h;exact h
 go_enter Tryz.func184,Tryz.ntmps184
 go_wp2_with (at_builtin;refine Lib.wpList_append_run _ rfl _ _ _ _ rfl _ _ rfl rfl _ _ (l _) ?_)
 all_goals (go_ret;exact⟨rfl,rfl⟩)
theorem pn(base:Option Addr)(n c vb vc:Nat)(cs vs:List Value)(w:World)(hnc:n<=c)(hroom:c<n+1)(hn6:n<=1000000)
 (hcl:cs.length=n*10) (hvl:vs.length=10) (hnil:base=none->n=0)
 (hcs:∀a,base=some a->∀j v,cs[j]?=some v->w.cell? (a.add j)=some v)
 (hvs:∀j v,vs[j]?=some v->w.cell? ⟨vb,j,none⟩=some v) (h1v:∀v∈vs,v.oneCell'=true):
 Calls Tryz.prog 184 #[.slice base n c, .int .i64 n, .slice (some ⟨vb,0,none⟩) 1 vc] w λe w'=>
  e= .returned (.slice (some ⟨w.heap.size,0,none⟩) (n+1) (grownCap w (n+1) c 214))/\
  w'=w.drew.alloc (.cells ((cs++vs).toArray++Builtin.zeroCells CK.cells (grownCap w (n+1) c 214-(n+1))) 214):=by
 have mixed:=tS;have z214:=Tryz.sizeOf214;have u3:=Tryz.runUnderlying3;have u233:=Tryz.runUnderlying233;obtain⟨i0,hi0,hz0,hzs,hzb⟩:=info_parts (P:=Tryz.prog) (e:=214) (z:=CK) (size:=10) (bytes:=80) dC
 have hsrc:Src Tryz.prog i0.size 233 (.slice (some ⟨vb,0,none⟩) 1 vc) 1 vs w:=by
  rw[hzs];exact Src.ofSlice w Tryz.underlying233 ⟨vb,0,none⟩ 1 vc vs ac (λj u hj=>by rw[Addr.add_lit,Nat.zero_add];exact hvs j u hj) h1v
 have hold:(Builtin.firstCells i0.size n (.slice base n c)).run Tryz.prog w.drew= .ok cs.toArray w.drew:=by
  rw[hzs];cases base with
  |none=>
   have h0:=hnil rfl;subst h0;rw[List.length_eq_zero_iff.1 (by omega:cs.length=0)];exact run_firstCells_none w.drew 10 0 0 c
  |some a=>exact run_firstCells_some w.drew 10 n a n c cs ac (λj v hj=>hcs a rfl j v hj)
 have hrun:∀ty,(Builtin.append_ #[233,233] ty #[.slice base n c, .slice (some ⟨vb,0,none⟩) 1 vc]).run Tryz.prog w=_:=λty=>
  run_append_grow_src w 233 233 ty 214 i0 _ Tryz.underlying233 hi0 hz0 base n c cs hold _ 1 vs hsrc hroom ac (by rw[hzb];exact growslice_fits hroom ac)
 go_enter Tryz.func184,Tryz.ntmps184
 cases base with
 |none=>
  have h0:=hnil rfl;subst h0
  go_wp2_with (at_builtin;refine Lib.wpList_append_run _ rfl _ _ _ _ rfl _ _ rfl rfl _ _ (hrun _) ?_)
  go_ret
  exact⟨rfl,rfl⟩
 |some a=>
  obtain⟨ab,ao,asp⟩:=a
  go_wp2_with (at_builtin;refine Lib.wpList_append_run _ rfl _ _ _ _ rfl _ _ rfl rfl _ _ (hrun _) ?_)
  all_goals (go_ret;exact⟨rfl,rfl⟩)
end
end
end Go.Tp
namespace Go.Tp
open Go.Hv Go.Proofs Go.RowKit
set_option maxRecDepth 100000
set_option maxHeartbeats 0
variable{C cs:Array Value}{us vs:List Value}{b cap j nb o:Nat}{ty:TypeId}{w w':World}
theorem G7(c:w.heap[b]?=some (.cells cs ty (0,0)))(i:o+vs.length<=cs.size)(g:∀v∈vs,v.oneCell'=true):
 ∃a,(w.setCells b o vs).heap[b]?=some (.cells a ty (0,0))/\a.toList=cs.toList.take o++vs++cs.toList.drop (o+vs.length)/\
  (w.setCells b o vs).heap.size=w.heap.size/\(w.setCells b o vs).os=w.os/\(w.setCells b o vs).tape=w.tape/\(w.setCells b o vs).output=w.output/\∀e,e≠b->(w.setCells b o vs).heap[e]?=w.heap[e]?:=by
 obtain⟨l,a,h,q⟩:=fC Tryz.prog c i g;have f:=run_storeCells_cells (P:=Tryz.prog) b o vs 0 w (λj m=>by rw[Nat.add_zero,cell_of_row w b _ _ _ _ c,Array.getElem?_eq_getElem ac];rfl) (λj _=>by simp[World.frozen?,c]) g;rw[h]at f;simp only[Nat.add_zero,Result.ok.injEq,true_and]at f;subst f;exact⟨a,q⟩
def kR:Ct:=⟨3,⟨[(0,false,[.own 0]),sI 1,(2,false,[.own 1])],[some (.sl hX),some (.sl hX)]⟩,[⟨[(0,false,[.own 2])],[none,none,some (.sl hX)]⟩],λ(i,l,v,_)=>one (0<=i/\i<=l.length/\l.length<=1000000/\v.length=1) (l.take i.toNat++v++l.drop i.toNat,())⟩
variable{h:Nat->Option Ch}{F:Nat->Prop}
theorem po{ρ:Nat->Pl}{l':List Mk}(hh:dN F ρ w h)(n:∀k,2<=k->ρ k= .un)
 (h0:l'.length≠0) (j:l'.length<=cap) (o:w'.heap[nb]?=some (.cells C ty (0,0))) (p:cap*10<=C.size) (r:C.toList.take us.length=us) (B:dT (Rd w (Av F ρ h) hX) l' us)
 (x:w.heap.size<=w'.heap.size) (D:w'.os=w.os) (E:w'.tape=w.tape) (G:w'.output=w.output) (H:∀b,b<w.heap.size->¬Go.Hv.qj ρ h b->w'.heap[b]?=w.heap[b]?)
 (l:Go.Hv.qj ρ h nb\/w.heap.size<=nb):Go.Hv.Ka F ρ w h 2 (du kR.out 0) ((du kR.out 0).get (l',())) (.returned (.slice (some ⟨nb,0,none⟩) l'.length cap)) w':=by
 have s:nb<w'.heap.size:=by
  rcases br nb w'.heap.size with q|q
  ·exact q
  ·rw[Array.getElem?_eq_none q]at o;cases o
 have g:∀b,Go.Hv.qj (gH ρ 2 (.sv (.slice (some ⟨nb,0,none⟩) l'.length cap))) (eU (du kR.out 0) ((du kR.out 0).get (l',()))) b->b=nb:=by
  rintro b ⟨k,c,a,_,f⟩
  have e:k=2:=by
   match k,a with
   |0,a=>cases a
   |1,a=>cases a
   |2,_=>rfl
   |k+3,a=>cases a
  subst e;rw[bU]at f;obtain⟨t,rfl⟩:∃t,cap=t+1:=⟨cap-1,ac⟩;simp[Pl.blk]at f;exact f.symm
 have y:Mv ρ w h (gH ρ 2 (.sv (.slice (some ⟨nb,0,none⟩) l'.length cap))) w' (eU (du kR.out 0) ((du kR.out 0).get (l',()))):=
  ⟨D,E,G,x,H,λb f q=>by
   have:=g b q;subst this;rcases l with q|q
   ·exact q
   ·omega⟩
 have J:¬F nb:=by
  rcases l with⟨k,c,a,u,f⟩|q
  ·exact(hh.fr k c nb a u f).2
  ·intro K;have:=hh.gs nb K;omega
 have e:∀{k c},eU (du kR.out 0) ((du kR.out 0).get (l',())) k=some c->k=2/\c= .sl hX l':=by
  intro k c a
  match k,a with
  |0,a=>cases a
  |1,a=>cases a
  |2,a=>exact⟨rfl,(Option.some.inj a).symm⟩
  |k+3,a=>cases a
 refine⟨gH ρ 2 (.sv (.slice (some ⟨nb,0,none⟩) l'.length cap)),[.slice (some ⟨nb,0,none⟩) l'.length cap],rfl,λk a=> .inl (gP _ _ _ ac),⟨⟨_,aP.single (i:= .own 2) ⟨_,_,_,bU _ _ _,rfl⟩,rfl⟩,trivial⟩,⟨λk c a=>?_,λk L c t b a v _ _ _ _=>?_,λk c b a u f=>?_,λk m M N z A a=>?_,λb f=>bw (hh.gs b f) x⟩,y,λk a=>?_⟩
 ·obtain⟨rfl,rfl⟩:=e a;exact⟨_,bU _ _ _, .inl ⟨nb,cap,C,ty,us,rfl,ac,o,j,p,B.imp (λ_ _=>Rd.evo y.evo),r⟩⟩
 ·rw[(e a).1,(e v).1]
 ·have:=g b ⟨k,c,a,u,f⟩;subst this;exact⟨s,J⟩
 ·have:=(e a).2;cases this
 ·have a:3<=k:=a;rw[gP _ _ _ ac];exact n k ac
theorem jC{α:Type}{a b:List α}(h:a.length=o):(a++b).take o=a:=by subst h;simp
theorem frz(h:w.heap[b]?=some (.cells cs ty (0,0)))(j:Nat):w.frozen? ⟨b,j,none⟩=false:=by simp[World.frozen?,h]
theorem shp(h:w.heap[b]?=some (.cells cs ty (0,0))):w.shape? b=some (ty,cs.size):=by simp[World.shape?,h]
theorem rdc(h:w.heap[b]?=some (.cells cs ty (0,0)))(c:cs.toList.take us.length=us)(j:Nat)(v:Value)(a:us[j]?=some v):w.cell? ⟨b,j,none⟩=some v:=by
 rw[cell_of_row w b j _ _ _ h,<-Array.getElem?_toList];rw[<-c,pz]at a;split at a
 ·exact a
 ·cases a
theorem QR:bW Tryz.prog 184 kR:=by
 rintro⟨i,l,v,⟨⟩⟩ Q ⟨⟨h0,h1,h2,h3⟩,hQ⟩ F ρ w a9 e3 hh hv c6;have h0:@aX Int _ 0 i:=h0;have h1:@aX Int _ i l.length:=h1;obtain⟨k,rfl⟩:=bo h0;rw[show((k:Int)).toNat=k by omega]at hQ;have hQ:Q ⟨0,(l.take k++v++l.drop k,())⟩:=hQ
 match a9,hv with
 |[v0,v1,v2],⟨⟨a0,b0,c0⟩,⟨a1,b1,c1⟩,⟨a2,b2,c2⟩,_⟩=>
 have e0:=aP.of_single b0;have e1:=aP.of_single b1;have e2:=aP.of_single b2;obtain⟨ad,n,cap,X,rfl⟩:=e0;obtain⟨b3,n2,c,Y,rfl⟩:=e2;have e1:a1=[gL .i64 (k:Int)]:=e1;subst e1;have c0:[Value.slice ad n cap]=[v0]:=c0;have c1:[gL .i64 (k:Int)]=[v1]:=c1;have c2:[Value.slice b3 n2 c]=[v2]:=c2;simp only[List.cons.injEq,and_true]at c0 c1 c2;subst c0 c1 c2;have a4:(eU kR.inp (kR.inp.get ((k:Int),l,v,()))) 0=some (.sl hX l):=rfl;have b4:(eU kR.inp (kR.inp.get ((k:Int),l,v,()))) 1=some (.sl hX v):=rfl;obtain⟨sv,s1,s2⟩:=hh.ok 0 _ a4;obtain⟨e7,t1,t2⟩:=hh.ok 1 _ b4;have X:ρ 0= .sv (.slice ad n cap):=X;have Y:ρ 1= .sv (.slice b3 n2 c):=Y;rw[X]at s1;rw[Y]at t1;simp only[Pl.sv.injEq]at s1 t1;subst s1 t1;rcases t2 with⟨U,e4,D,c7,f,g1,g2,g3,g4,g5,g6,g7⟩|⟨rfl,_⟩
 rotate_left
 ·cases h3
 simp only[Value.slice.injEq]at g1;obtain⟨rfl,rfl,rfl⟩:=g1;rw[h3]at g4⊢;have g5:c*10<=D.size:=g5;have t:f.length=10:=by have:=dT.length (λ_ _=>Rd.length) g6;rw[h3]at this;exact this
 have y:∀x∈f,x.oneCell'=true:=dT.all (λ_ _=>Rd.one) g6;have J:=rdc g3 g7
 have e8:U<w.heap.size:=by
  rcases br U w.heap.size with q|q
  ·exact q
  ·rw[Array.getElem?_eq_none q]at g3;cases g3
 have A:∀j,2<=j->ρ j= .un:=λj hj=>c6 j hj;have hL:(l.take k++v++l.drop k).length=l.length+1:=by simp only[aa,bd,cW];omega
 rcases s2 with⟨b,e5,C,ty,cs,K,q2,q3,q4,q5,q6,q7⟩|⟨rfl,a,K⟩
 ·simp only[Value.slice.injEq]at K;obtain⟨rfl,rfl,rfl⟩:=K;have q5:cap*10<=C.size:=q5;have L:cs.length=l.length*10:=dT.length (λ_ _=>Rd.length) q6;have a5:∀x∈cs,x.oneCell'=true:=dT.all (λ_ _=>Rd.one) q6;have a6:=rdc q3 q7;have b5:(ρ 0).blk=some b:=by rw[X];obtain⟨c',rfl⟩:∃c',cap=c'+1:=⟨cap-1,ac⟩;rfl
  have c8:(ρ 1).blk=some U:=by rw[Y];obtain⟨c',rfl⟩:∃c',c=c'+1:=⟨c-1,ac⟩;rfl
  have c9:U≠b:=λe=>by subst e;exact absurd (hh.inj 0 1 _ _ U a4 b4 rfl rfl b5 c8) bt
  have E:Go.Hv.qj ρ (eU kR.inp (kR.inp.get ((k:Int),l,v,()))) b:=⟨0,_,a4,rfl,b5⟩;obtain⟨p,s,rfl,r1,r2⟩:=dT.split (l:=l.take k) (m:=l.drop k) (by rw[ej];exact q6)
  have B:p.length=k*10:=by
   have:=dT.length (λ_ _=>Rd.length) r1;rw[bd,fh ac]at this;exact this
  have hR:dT (Rd w (Av F ρ (eU kR.inp (kR.inp.get ((k:Int),l,v,())))) hX) (l.take k++v++l.drop k) (p++f++s):=(r1.append g6).append r2;have b6:(p++s).drop (k*10)=s:=by rw[<-B];simp
  have d0:(p++s).take (k*10)=p:=jC B;have e6:s.length=(l.length-k)*10:=by rw[aa]at L;omega
  have e9:C.toList.length=C.size:=bY
  have f0:(p++f++s).length=(l.length+1)*10:=by simp only[aa];omega
  have b7:l.length+1<=cap->∀j,j<(l.length+1)*10->(w.cell? ⟨b,j,none⟩).isSome=true:=λhr j hj=>by
   rw[cell_of_row w b j _ _ _ q3,Array.getElem?_eq_getElem ac];rfl
  have a3:∀x∈s,x.oneCell'=true:=λx hx=>a5 x (List.mem_append_right _ hx)
  have b8:C.toList=p++s++C.toList.drop (l.length*10):=by
   conv=>lhs;rw[<-ej (l.length*10) C.toList]
   rw[<-L,q7]
  by_cases hr:l.length+1<=cap
  ·
   rcases br k l.length with hk|hk
   ·refine(Ep b l.length cap k U c (p++s) f w hk hr h2 c9 L t a6 (b7 hr) (frz q3) J a5 y c7 ty D.size C.size (shp g3) (shp q3) ac (frz g3)).mono ?_;rintro e w' ⟨rfl,rfl⟩;rw[b6];obtain⟨C1,f1,W,f3,f4,f5,f6,f7⟩:=G7 (w:=w.drew) (o:=(k+1)*10) (vs:=s) q3 ac a3;have M:=aI ah W;simp only[aa,bd,cW,Array.length_toList]at M;obtain⟨C2,d1,d2,d3,d4,d5,d6,d7⟩:=G7 (o:=k*10) (vs:=f) f1 ac y;have a7:=aI ah d2;simp only[aa,bd,cW,Array.length_toList]at a7
    have N:C1.toList.take (k*10)=p:=by
     rw[W,ay,List.take_append_of_le_length eM,List.take_take,fh ac,b8,ay];exact jC B
    have d8:∃z,C1.toList.drop (k*10+f.length)=s++z:=by
     refine⟨C.toList.drop ((k+1)*10+s.length),?_⟩;rw[W,t,ay];have:(C.toList.take ((k+1)*10)).length=k*10+10:=by rw[bd];omega
     rw[<-this,List.drop_left]
    obtain⟨z,hz⟩:=d8;rw[N,hz]at d2;refine⟨⟨0,(l.take k++v++l.drop k,())⟩,hQ,?_⟩
    have:=po hh A (nb:=b) (cap:=cap) (us:=p++f++s) ac ac d1 ac (by rw[d2,<-ay];exact jC rfl) hR (by rw[d3,f3];exact aE _) (d4.trans f4) (d5.trans f5) (d6.trans f6) (λh r H=>by
     have O:h≠b:=λe=>H (by rw[e];exact E);rw[d7 h O,f7 h O];rfl) (.inl E)
    rw[hL]at this;exact this
   ·obtain rfl:k=l.length:=ac
    refine(wD b l.length cap U c f w hr h2 t (b7 hr) (frz q3) J y).mono ?_;rintro e w' ⟨rfl,rfl⟩;obtain⟨C1,f1,W,f3,f4,f5,f6,f7⟩:=G7 (w:=w) (o:=l.length*10) (vs:=f) q3 ac y;have M:=aI ah W;simp only[aa,bd,cW,Array.length_toList]at M;have P:s=[]:=ju.1 ac;subst P;refine⟨⟨0,(l.take l.length++v++l.drop l.length,())⟩,hQ,?_⟩;have N:C.toList.take (l.length*10)=p:=by rw[b8,aH];exact jC B
    have:=po hh A (nb:=b) (cap:=cap) (us:=p++f++[]) ac ac f1 ac (by rw[W,N,aH];exact jC rfl) hR (by rw[f3];exact aE _) f4 f5 f6 (λh r H=>f7 h (λe=>H (by rw[e];exact E))) (.inl E);rw[hL]at this;exact this
  ·
   have b9:=grownCap_ge w (l.length+1) cap 214;rcases br k l.length with hk|hk
   ·refine(G6 b l.length cap k U c (p++s) f w hk q4 ac h2 L t a6 J a5 y).mono ?_;rintro e w' ⟨rfl,rfl⟩;rw[b6,d0];generalize grownCap w (l.length+1) cap 214=G at*;obtain⟨R,g⟩:∃R:Array Value,R=p.toArray++bP CK.cells (l.length+1-k)++bP CK.cells (G-(l.length+1)):=⟨_,rfl⟩;rw[<-g]
    have c3:R.size=G*10:=by
     rw[g];simp only[Array.size_append,size_zeroCells,List.size_toArray,B];show k*10+(l.length+1-k)*10+(G-(l.length+1))*10=G*10;omega
    have d9:R.toList.take (k*10)=p:=by
     rw[g];simp only[Array.toList_append,ay];exact jC B
    have c4:(w.alloc (.cells R 214)).drew.heap[w.heap.size]?=some (.cells R 214 (0,0)):=Go.heap_alloc_new w _;have a8:∀h,h<w.heap.size->(w.alloc (.cells R 214)).drew.heap[h]?=w.heap[h]?:=λh r=>(gf.drewAlloc w (.cells R 214)).old h r;have c5:(w.alloc (.cells R 214)).drew.heap.size=w.heap.size+1:=eP ..;obtain⟨C1,f1,W,f3,f4,f5,f6,f7⟩:=G7 (o:=k*10) (vs:=f) c4 ac y;have M:=aI ah W;simp only[aa,bd,cW,Array.length_toList]at M;rw[d9]at W;obtain⟨C2,d1,d2,d3,d4,d5,d6,d7⟩:=G7 (w:=((w.alloc (.cells R 214)).drew.setCells w.heap.size (k*10) f).drew) (o:=(k+1)*10) (vs:=s) f1 ac a3;have a7:=aI ah d2;simp only[aa,bd,cW,Array.length_toList]at a7
    have N:C1.toList.take ((k+1)*10)=p++f:=by
     rw[W];exact jC (by rw[aa];omega)
    rw[N]at d2;refine⟨⟨0,(l.take k++v++l.drop k,())⟩,hQ,?_⟩
    have:=po hh A (nb:=w.heap.size) (cap:=G) (us:=p++f++s) ac ac d1 ac (by rw[d2];exact jC rfl) hR (by rw[d3];show w.heap.size<=((w.alloc (.cells R 214)).drew.setCells w.heap.size (k*10) f).heap.size;rw[f3,c5];omega) (d4.trans f4) (d5.trans f5) (d6.trans f6) (λh r H=>by
     have O:h≠w.heap.size:=ac
     rw[d7 h O];show((w.alloc (.cells R 214)).drew.setCells w.heap.size (k*10) f).heap[h]?=_;rw[f7 h O,a8 h r]) (.inr (aE _))
    rw[hL]at this;exact this
   ·obtain rfl:k=l.length:=ac
    have P:s=[]:=ju.1 ac;subst P;refine(pn (some ⟨b,0,none⟩) l.length cap U c (p++[]) f w q4 ac h2 L t (λe=>by cases e) (λa e j u hj=>by cases e;rw[Addr.add_lit,bT];exact a6 j u hj) J y).mono ?_;rintro e w' ⟨rfl,rfl⟩;generalize grownCap w (l.length+1) cap 214=G at*;obtain⟨R,g⟩:∃R:Array Value,R=(p++[]++f).toArray++bP CK.cells (G-(l.length+1)):=⟨_,rfl⟩;rw[<-g]
    have c3:R.size=G*10:=by
     rw[g];simp only[Array.size_append,size_zeroCells,List.size_toArray,aa,B,t,dx];show l.length*10+0+10+(G-(l.length+1))*10=G*10;omega
    have S:=gf.drewAlloc w (.cells R 214);refine⟨⟨0,(l.take l.length++v++l.drop l.length,())⟩,hQ,?_⟩;have:=po hh A (w':=w.drew.alloc (.cells R 214)) (nb:=w.heap.size) (cap:=G) (us:=p++f++[]) ac ac (Go.heap_alloc_new w.drew _) ac (by rw[g];simp only[Array.toList_append,aH];exact jC rfl) hR S.size S.os S.tape S.output (λh r H=>S.old h r) (.inr (aE _));rw[hL]at this;exact this
 ·simp only[Value.slice.injEq]at K;obtain⟨rfl,rfl,rfl⟩:=K;obtain rfl:k=0:=by simp only[dx]at h1;omega
  have b9:=grownCap_ge w (0+1) 0 214;refine(pn ad 0 0 U c [] f w (aE _) ac ac rfl t (λ_=>rfl) (λa e j u hj=>by simp at hj) J y).mono ?_;rintro e w' ⟨rfl,rfl⟩;generalize grownCap w (0+1) 0 214=G at*;obtain⟨R,g⟩:∃R:Array Value,R=([]++f).toArray++bP CK.cells (G-(0+1)):=⟨_,rfl⟩;rw[<-g]
  have c3:R.size=G*10:=by
   rw[g];simp only[Array.size_append,size_zeroCells,List.size_toArray,aa,t,dx];show 0+10+(G-(0+1))*10=G*10;omega
  have S:=gf.drewAlloc w (.cells R 214);refine⟨⟨0,(v,())⟩,cf hQ,?_⟩;have:=po hh A (w':=w.drew.alloc (.cells R 214)) (l':=v) (nb:=w.heap.size) (cap:=G) (us:=f) ac ac (Go.heap_alloc_new w.drew _) ac (by rw[g];simp only[Array.toList_append,eO];exact jC rfl) g6 S.size S.os S.tape S.output (λh r H=>S.old h r) (.inr (aE _));rw[h3]at this;exact this
def X9:bG:=(184,[kR])::X7
def Ya:=kB 184 [kR] X8 (bL QR)
abbrev uv:Option CP:=some (.cells [.d (.sl hX)])
def fu(l:List Mk):Prop:=l.length<=512/\∀m∈l,Oc m
def Mi:Ct:=⟨3,⟨[sP 0,sI 1,sI 2],[uv]⟩,[⟨[sI 0,sL 1],[uv]⟩],λ(t,a,l,_)=>fJ (fu l/\0<=t/\t<=1099511627776/\0<=a/\a<5) (λy:Int×Bool=>0<=y.1/\y.1<=l.length) λy=>(y.1,y.2,l,())⟩
def Yb:bG:=(182,[Mi])::X9
def Yc:=kA 182 Mi Ya (cQ Mi 0) (∀(c d:Int)(a:List hX.den)Q,bg Mi (c,d,a,()) Q->(a.length<=1000000/\(∀(m:hX.den),m∈a->Oc m)/\0<=c/\c<=1099511627776/\0<=d/\d<5)/\∀(b:Int×Bool),0<=b.1/\b.1<=nI a->Q ⟨0,b.1,b.2,a,()⟩) (by
 unfold nI bg;rintro t a l Q ⟨⟨⟨h,c⟩,e⟩,f⟩;exact⟨⟨ac,c,e⟩,λb g=>f (b.1,b.2) g⟩) (l:=λ_=>aU λ_=>⟨(0,false),bp _,Int.natCast_nonneg _⟩)
def Mj:Ct:=⟨1,⟨[(0,false,[.d (.sl hX)])],[]⟩,[⟨[sO 0 0],[some (.sl hX)]⟩],λ(b,_)=>one (b.length<=1000000) (b,())⟩
def Yd:bG:=(167,[Mj])::Yb
def Od:=kA 167 Mj Yc (cQ Mj 0) (∀(a:List hX.den)Q,bg Mj (a,()) Q->∀(b:Bool),(b=true->a.isEmpty=true)->Br b (Q ⟨0,[],()⟩) ((0+a.length)*80<=mM/\Q ⟨0,a,()⟩)) (by
 unfold Br mM bg;rintro x Q ⟨e,a⟩ b c;refine⟨λh=>?_,λh=>⟨ac,a⟩⟩;have:=c h;simp only[List.isEmpty_iff]at this;subst this;exact a)
def AV:Ct:=⟨1,⟨[sP 0],[uv]⟩,[⟨[(0,false,[.d (.sl hX)])],[uv]⟩],λ(l,_)=>one (l.length<=1000000) (l,l,())⟩
theorem G8:bW Tryz.prog 130 AV:=kC Od (cQ AV 0) (∀(a:List hX.den)Q,bg AV (a,()) Q->a.length<=1000000/\Q ⟨0,a,a,()⟩) (by
 unfold bg;rintro l Q ⟨h,a⟩;exact⟨h,a⟩)
def Ye:bG:=(130,[AV])::Yd
def Yf:=kB 130 [AV] Od (bL (G8))
def Ml:Ct:=⟨1,⟨[sP 0],[uv]⟩,[⟨[sI 0],[uv]⟩],λ(l,_)=>fJ (fu l) (λy:Int=>0<=y/\y<=1099511627776) λy=>(y,l,())⟩
def Yg:bG:=(152,[Ml])::Ye
def Yh:=kA 152 Ml Yf (cQ Ml 0) (∀(a:List hX.den)Q,bg Ml (a,()) Q->Br (nI a==0) (Q ⟨0,0,a,()⟩) (am (nI a-1)/\iN (nI a-1) a/\Q ⟨0,(gD a (nI a-1) (0,0,0,0,false,0,0,false,0,0,())).1,a,()⟩)) (by
 unfold Br gD iN nI bg;rintro l Q ⟨⟨f,e⟩,a⟩;refine⟨λ_=>a _ bt,λc=>?_⟩;have c:¬((l.length:Int)=0):=aL c;have b:=e _ (aV (z:=(0,0,0,0,false,0,0,false,0,0,())) (show((l.length:Int)-1).toNat<l.length by omega));exact⟨cv,ac,a _ ⟨b.1,b.2.1⟩⟩) (l:=λ_=>aU λ_=>⟨0,bt⟩)
def G9:Ct:=⟨3,⟨[sP 0,sI 1,sI 2],[uv]⟩,[⟨[sL 0],[uv]⟩],λ(t,a,l,_)=>fJ (fu l) (λ_:Bool=>True) λy=>(y,l,())⟩
abbrev QS(v:Bool×List hX.den×Unit):cF G9.out:=⟨0,v⟩
def Yi:bG:=(168,[G9])::Yg
def Yj:=kA 168 G9 Yh (cQ G9 0) (∀(c d:Int)(a:List hX.den)Q,let z:=QS (false,a,());bg G9 (c,d,a,()) Q->Bd (c<1) (Q z) (Bd (1099511627776<c) (Q z) (Bd (d<0) (Q z) (Bd (5<=d) (Q z) ((fu a/\0<=c/\c<=1099511627776/\0<=d/\d<5)/\∀(b:Int×Bool),0<=b.1/\b.1<=nI a->Q ⟨0,b.2,a,()⟩))))) (by
 conv=>zeta
 unfold Bd nI bg;rintro t a l Q ⟨h,c⟩;have b:∀y,Q ⟨0,(y,l,())⟩:=λy=>c y trivial;exact⟨λ_=>b _,λe=>⟨λ_=>b _,λf=>⟨λ_=>b _,λg=>⟨λ_=>b _,λi=>⟨⟨h,by have:=ap e;omega,by have:=ap f;omega,by have:=ap g;omega,by have:=ap i;omega⟩,λ_ _=>b _⟩⟩⟩⟩⟩) (l:=λ_=>aU λ_=>⟨false,trivial⟩)
def Mm:Ct:=⟨2,⟨[sP 0,(1,true,[.d hX])],[uv]⟩,[⟨[sI 0],[uv]⟩],λ(m,l,_)=>fJ (fu l) (λy:Int×List Mk=>fu y.2) λy=>(y.1,y.2,())⟩
def Yk:bG:=(170,[Mm])::Yi
def Yl:=kA 170 Mm Yj (cQ Mm 0) (∀(c:hX.den)(a:List hX.den)Q,bg Mm (c,a,()) Q->True/\Br (!N9 c) (Q ⟨0,1,a,()⟩) ((fu a/\0<=c.1/\c.1<=1099511627776/\0<=c.2.1/\c.2.1<5)/\∀(b:Int×Bool),0<=b.1/\b.1<=nI a->Br (b.2) (Q ⟨0,12,a,()⟩) (Br (nI a==512) (Q ⟨0,14,a,()⟩) (a.length<=1000000/\(0<=b.1/\b.1<=nI a/\a.length<=1000000/\1=1)/\Q ⟨0,0,de b.1.toNat a++[c]++List.drop b.1.toNat a,()⟩)))) (by
 unfold Br nI bg;rintro⟨s,u,p,q,r,t,v,w,x,z,⟨⟩⟩ l Q ⟨h,i⟩;have f:∀(e:Int)(y:List Mk),fu y->Q ⟨0,(e,y,())⟩:=λe y A=>i (e,y) A;clear i;refine⟨trivial,λ_=>f _ _ h,λc=>?_⟩
 have j:Oc (s,u,p,q,r,t,v,w,x,z,()):=by
  simp only[N9,aN,aK,ai]at c;have g:@aX Int _ 1 s/\@aX Int _ s 1099511627776/\@aX Int _ 0 u/\@nJ Int _ u 5:=⟨c.1.1.1,c.1.1.2.1,c.1.1.2.2.1,c.1.1.2.2.2.1⟩;refine⟨?_,g.2.1,g.2.2.1,g.2.2.2⟩;show @aX Int _ 0 s;omega
 refine⟨⟨h,j⟩,λb o=>⟨λ_=>f _ _ h,λ_=>⟨λ_=>f _ _ h,λn=>?_⟩⟩⟩;have n:¬((l.length:Int)=512):=aL n;have B:=h.1;refine⟨ac,⟨o.1,o.2,ac,rfl⟩,f _ _ ⟨?_,λm a=>?_⟩⟩
 ·simp only[aa,bd,cW,bc,dx];omega
 ·simp only[ba,bV]at a;rcases a with(a|a)|a
  ·exact h.2 _ (List.mem_of_mem_take a)
  ·rw[a];exact j
  ·exact h.2 _ (List.mem_of_mem_drop a)) (l:=λ_=>aU λh=>⟨(0,_),h⟩)
def QT:Ct:=⟨1,⟨[(0,false,[.d .u64])],[]⟩,[⟨[sI 0],[]⟩],λ(x,_)=>one (x.toNat<=16777215) ((gj x.toNat:Int),())⟩
theorem QU:bW Tryz.prog 173 QT:=by
 rintro⟨x,⟨⟩⟩ Q ⟨f,h⟩ F ρ w a g j l c
 match a,l with
 |[m],⟨⟨n,o,b⟩,_⟩=>
 have p:n=[gL .u64 (x.toNat:Int)]:=aP.of_single o;subst p;have b:[gL .u64 (x.toNat:Int)]=[m]:=b;simp only[List.cons.injEq,and_true]at b;subst b;have f:x.toNat<=16777215:=f;refine(Tryz.bits_Len (x.toNat:Int) w ac ac).mono ?_;rintro e q ⟨rfl,rfl⟩;refine⟨_,h,ρ,[.int .i64 (gj x.toNat)],rfl,λk _=> .inl rfl,⟨⟨_,aP.single (i:= .d .i64 (gj x.toNat:Int)) rfl,rfl⟩,trivial⟩,j,Mv.refl ..,c⟩
theorem AW:∀x:Nat,x<2^24->x≠0->2^gj x<=2*x:=by
 intro x
 induction x using Nat.strongRecOn with
 |ind x a=>
  intro h b;rw[Lib.bitLen_half x b ac];by_cases c:x/2=0
  ·have e:x=1:=ac
   subst e;decide
  ·have:=a (x/2) ac ac c;rw[Nat.pow_add];omega
def Ym:bG:=(173,[QT])::Yk
def Yn:=kB 173 [QT] Yl (bL QU)
def Mn:Ct:=⟨1,⟨[sI 0],[]⟩,[⟨[(0,false,[.d .u64])],[]⟩],λ(x,_)=>fJ (1<=x/\x<=1000000) (λy:BitVec 64=>(y.toNat:Int)<=2*x/\1<=y.toNat) λy=>(y,())⟩
def Yo:bG:=(210,[Mn])::Ym
def Yp:=kA 210 Mn Yn (cQ Mn 0) (∀(a:Int)Q,let z:=gj (bf 64 a).toNat;bg Mn (a,()) Q->(bf 64 a).toNat<=16777215/\decide (0<=(↑z:Int))=true/\Q ⟨0,ag 64 1<<<(↑z:Int).toNat,()⟩) (by
 conv=>zeta
 unfold bg;rintro x Q ⟨⟨a,b⟩,f⟩;have a:@aX Int _ 1 x:=a;have b:@aX Int _ x 1000000:=b;have e:(bf 64 x).toNat=x.toNat:=by rw[BitVec.toNat_ofInt];omega
 rw[e];have g:=AW x.toNat ac ac
 have i:gj x.toNat<64:=by
  rcases br (gj x.toNat) 64 with q|q
  ·exact q
  ·have:=Nat.pow_le_pow_right (n:=2) ac q;omega
 have c:(1#64<<<(gj x.toNat:Int).toNat).toNat=2^gj x.toNat:=by
  rw[show(gj x.toNat:Int).toNat=gj x.toNat by omega,BitVec.toNat_shiftLeft];have:(1#64).toNat=1:=rfl;rw[this,Nat.shiftLeft_eq,Nat.one_mul,Nat.mod_eq_of_lt ac]
 refine⟨ac,bY,f _ ⟨?_,?_⟩⟩
 ·rw[c];have:((2^gj x.toNat:Nat):Int)<=((2*x.toNat:Nat):Int):=Int.ofNat_le.2 g;omega
 ·rw[c];exact Nat.pos_of_ne_zero bY) (l:=λx=>aU λh=>⟨1,by have:=h.1;show((1:Nat):Int)<=2*(x.1:Int);have:(1:Int)<=x.1:=this;omega,bt⟩)
def Mo:Ct:=⟨1,⟨[sP 0],[some (.cells [.d .u64])]⟩,[⟨[(0,false,[.d .u64])],[some (.cells [.d .u64])]⟩],λ(x,_)=>fJ True (λ_:BitVec 64×BitVec 64=>True) λy=>(y.1,y.2,())⟩
def Yq:bG:=(211,[Mo])::Yo
def Yr:=kA 211 Mo Yp (cQ Mo 0) (∀(a:BitVec 64)Q,let b:=a^^^a<<<13;let z:=a^^^a<<<13^^^b>>>7;bg Mo (a,()) Q->Q ⟨0,a^^^a<<<13^^^b>>>7^^^z<<<17,a^^^a<<<13^^^b>>>7^^^z<<<17,()⟩) (by
 conv=>zeta
 unfold bg;rintro x Q ⟨_,a⟩;exact a (_,_) trivial) (l:=λ_=>aU λ_=>⟨(0,0),trivial⟩)
def JN(a c:Int):Prop:=0<=a/\a<=1099511627776/\0<=c/\c<=1099511627776
def Ha:Ct:=⟨2,⟨[(0,true,[.d cw]),(1,true,[.d cw])],[]⟩,[⟨[sI 0],[]⟩],λ((a,c,_),(b,e,_),_)=>fJ (JN a c/\JN b e) (λ_:Int=>True) λy=>(y,())⟩
abbrev QV(v:Int×Unit):cF Ha.out:=⟨0,v⟩
def Ys:bG:=(137,[Ha])::Yq
def Yt:=kA 137 Ha Yr (cQ Ha 0) (∀(a b:Fk)(Q:cF Ha.out->Prop),(Tr.need (JN a.1 a.2.1/\JN b.1 b.2.1) (Tr.all Int (λa=>True) λy=>Tr.leaf (QV (y,())))).sat Q->Br (!a.1==b.1) (am (a.1-b.1)/\Q ⟨0,a.1-b.1,()⟩) (am (a.2.1-b.2.1)/\Q ⟨0,a.2.1-b.2.1,()⟩)) (by
 unfold Br;rintro⟨a,c,⟨⟩⟩ ⟨e,f,⟨⟩⟩ Q ⟨⟨⟨g,h,i,j⟩,m,n,o,p⟩,q⟩;have b:∀y,Q ⟨0,(y,())⟩:=λy=>q y trivial;dsimp only at g h i j m n o p;exact⟨λ_=>⟨by show am (@bO Int Int Int _ a e);unfold am;omega,b _⟩,λ_=>⟨by show am (@bO Int Int Int _ c f);unfold am;omega,b _⟩⟩) (l:=λ_=>aU λ_=>⟨0,trivial⟩)
def dw(o:Op):Prop:=JN o.2.1 o.2.2.1/\JN o.2.2.2.2.2.2.2.1 o.2.2.2.2.2.2.2.2.1
def za:Ct:=⟨2,⟨[(0,true,[.d lu]),(1,true,[.d lu])],[]⟩,[⟨[sI 0],[]⟩],λ(o,a,_)=>fJ (dw o/\dw a) (λ_:Int=>True) λy=>(y,())⟩
def Yu:bG:=(136,[za])::Ys
def Yv:=kA 136 za Yt (cQ za 0) (∀(a c:Op)Q,bg za (a,c,()) Q->(JN a.2.1 a.2.2.1/\JN c.2.1 c.2.2.1)/\∀(b:Int),True->Q ⟨0,b,()⟩) (by
 unfold bg;rintro o c Q ⟨h,a⟩;exact⟨⟨h.1.1,h.2.1⟩,λb _=>a b trivial⟩) (l:=λ_=>aU λ_=>⟨0,trivial⟩)
def Hb:bG:=(138,[za])::Yu
def zb:=kA 138 za Yv (cQ za 0) (∀(a c:Op)Q,bg za (a,c,()) Q->(JN a.2.2.2.2.2.2.2.1 a.2.2.2.2.2.2.2.2.1/\JN c.2.2.2.2.2.2.2.1 c.2.2.2.2.2.2.2.2.1)/\∀(b:Int),True->Q ⟨0,b,()⟩) (by
 unfold bg;rintro o c Q ⟨h,a⟩;exact⟨⟨h.1.2,h.2.2⟩,λb _=>a b trivial⟩) (l:=λ_=>aU λ_=>⟨0,trivial⟩)
def eW(g:Nat):Prop:=g=136\/g=138
def gA(l:List Op):Prop:=l.length<=100000/\∀o∈l,dw o
def eu(l m:List Op):Prop:=m.length=l.length/\∀o∈m,o∈l
theorem cP(l:List Op):eu l l:=⟨rfl,λ_ h=>h⟩
variable{l m:List Op}
theorem eI{n:List Op}(h:eu l m)(h':eu m n):eu l n:=⟨h'.1.trans h.1,λo a=>h.2 o (h'.2 o a)⟩
theorem iC(h:gA l)(h':eu l m):gA m:=⟨by rw[h'.1];exact h.1,λo a=>h.2 o (h'.2 o a)⟩
theorem ee(h:eu l m){i:Nat}{z:Op}(hi:i<l.length)(c:j<l.length):eu l ((m.set i (m.getD j z)).set j (m.getD i z)):=by
 have b:=h.1;refine⟨by simp[b],λo a=>h.2 o ?_⟩;rcases List.mem_or_eq_of_mem_set a with a|a
 ·rcases List.mem_or_eq_of_mem_set a with a|a
  ·exact a
  ·rw[a];exact aV ac
 ·rw[a];exact aV ac
abbrev nk:Option CP:=some (.sl lu)
abbrev fG(g:Nat)(i:Nat):Nat×Bool×List IP:=(i,false,[.fn g [] []])
abbrev QW:List cx:=[⟨[],[nk]⟩]
def Er(g:Nat):Ct:=⟨5,⟨[sO 0 0,sI 1,sI 2,(3,false,[.ptr 1 0]),fG g 4],[nk,cN]⟩,[⟨[sI 0,sI 1],[nk,cN]⟩],λ(a,b,l,n,_)=>fJ (gA l/\0<=a/\a<l.length/\0<=b/\b<l.length/\0<=n/\n<=1000) (λy:Int×Int×Int=>(y.1=a/\y.2.1=b\/y.1=b/\y.2.1=a)/\n<=y.2.2/\y.2.2<=n+1) λy=>(y.1,y.2.1,l,y.2.2,())⟩
abbrev AX(g:Nat)(v:Int×Int×List Op×Int×Unit):cF ((Er g)).out:=⟨0,v⟩
theorem QX(g:Nat)(e:eW g):il Tryz.prog Hb 219 (Er g) (cQ (Er g) 0):=by
 refine oE (∀(c d:Int)(a:List Op)(e:Int)(Q:cF (Er g).out->Prop),(Tr.need (gA a/\0<=c/\c<nI a/\0<=d/\d<nI a/\0<=e/\e<=1000) (Tr.all (Int×Int×Int) (λy=>(y.1=c/\y.2.1=d\/y.1=d/\y.2.1=c)/\e<=y.2.2/\y.2.2<=e+1) λy=>Tr.leaf (AX g (y.1,y.2.1,a,y.2.2,())))).sat Q->iN d a/\iN c a/\(dw (gD a d zO)/\dw (gD a c zO))/\∀(b:Int),True->Bd (b<0) (am (e+1)/\Q (AX g (d,c,a,e+1,()))) (Q (AX g (c,d,a,e,())))) ?_ (by rcases e with rfl|rfl<;>kernel_rfl);unfold Bd gD iN nI zO;rintro a b l n Q ⟨⟨h,f,i,j,m,o,p⟩,c⟩;refine⟨⟨j,m⟩,⟨f,i⟩,⟨h.2 _ (aV ac),h.2 _ (aV ac)⟩,λy _=>⟨λ_=>⟨cv,c (b,a,n+1) ⟨.inr ⟨rfl,rfl⟩,?_,bp _⟩⟩,λ_=>c (a,b,n) ⟨.inl ⟨rfl,rfl⟩,bp _,?_⟩⟩⟩
 ·show n<=n+1;omega
 ·show n<=n+1;omega
theorem QY(g:Nat)(a:eW g):bW Tryz.prog 219 (Er g):=dH zb.1 zb.2 tS dC (QX g a)
def CL(g:Nat):bG:=(219,[(Er g)])::Hb
theorem Oe(g:Nat)(a:eW g):bX Tryz.prog (CL g):=bX.add zb.1 dC (bL (QY g a))
theorem Of(g:Nat):cO (CL g):=cO.add zb.2 (bL (λx=>aU λ_=>⟨(x.1,x.2.1,x.2.2.2.1), .inl ⟨rfl,rfl⟩,bp _,by show @aX Int _ x.2.2.2.1 (x.2.2.2.1+1);omega⟩))
abbrev TO:Ty:= .ar 3 .i64
def oe(o:Op):List Int:=if o.1=1 then[o.1,o.2.1,o.2.2.1]else if o.1=2 then[o.1,o.2.2.2.2.2.2.2.1,o.2.2.2.2.2.2.2.2.1]else[o.1,o.2.2.2.2.2.2.2.2.2.2.1,o.2.2.2.2.2.2.2.2.2.1]
def Mp:Ct:=⟨1,⟨[(0,true,[.d lu])],[]⟩,[⟨[(0,true,[.d TO])],[]⟩],λ(o,_)=>one True (oe o,())⟩
def Yw:bG:=(131,[Mp])::Hb
def Yx:=kA 131 Mp zb (cQ Mp 0) (∀(a:Op)Q,bg Mp (a,()) Q->Br (a.1==1) (Q ⟨0,[a.1,a.2.1,a.2.2.1],()⟩) (Br (a.1==2) (Q ⟨0,[a.1,a.2.2.2.2.2.2.2.1,a.2.2.2.2.2.2.2.2.1],()⟩) (Q ⟨0,[a.1,a.2.2.2.2.2.2.2.2.2.2.1,a.2.2.2.2.2.2.2.2.2.1],()⟩))) (by
 unfold Br bg;rintro o Q ⟨_,f⟩;have a:∀y,oe o=y->Q ⟨0,(y,())⟩:=λy e=>by rw[<-e];exact f
 clear f;unfold oe at a;exact⟨λc=>a _ (ak (bz c)),λc=>⟨λb=>a _ (by rw[ae (aL c),ak (bz b)]),λb=>a _ (by rw[ae (aL c),ae (aL b)])⟩⟩)
def qR(o:Op):gJ:=(o.2.1,o.2.2.1,o.2.2.2.1,o.2.2.2.2.1,o.2.2.2.2.2.1,o.2.2.2.2.2.2.1,())
def CM(o:Op):ID:=(o.2.1,o.2.2.1,())
def TP(o:Op):ID:=(o.2.2.2.2.2.2.2.1,o.2.2.2.2.2.2.2.2.1,())
abbrev Iss:=List (ID×gJ)
abbrev QZ:=List (ID×Int)
def Mq:Ct:=⟨2,⟨[sP 0,(1,true,[.d lu])],JL 0⟩,[⟨[sL 0],JL 0⟩],λ(o,i,d,w,g,n,b,_)=>fJ (fu b) (λy:Bool=>gT o=true->o.1=1->y=(aO cw (CM o) i).isSome) λy=>(y,i,d,w,g,n,b,())⟩
def Yy:bG:=(132,[Mq])::Yw
def Yz:=kA 132 Mq Yx (cQ Mq 0) (∀(a:Op)(c:List (Fk×gJ))(d:List (Fk×Int))(f:List gJ)(g:Int)(h:List (Fk×mU.den))(e:List hX.den)Q,let z:=(c,d,f,g,h,e,());bg Mq (a,z) Q->True/\Br (!gT a) (Q ⟨0,false,z⟩) (Br (a.1==1) (Q ⟨0,(aO cw (a.2.1,a.2.2.1,()) c).isSome,z⟩) (Br (a.1==2) (Q ⟨0,(aO cw (a.2.2.2.2.2.2.2.1,a.2.2.2.2.2.2.2.2.1,()) d).isSome,z⟩) (fu e/\∀(b:Bool),True->Q ⟨0,b,z⟩)))) (by
 conv=>zeta
 unfold Br bg;rintro o i d w g n b Q ⟨h,j⟩;have a:∀y:Bool,(gT o=true->o.1=1->y=(aO cw (CM o) i).isSome)->Q ⟨0,(y,i,d,w,g,n,b,())⟩:=j;exact⟨trivial,λc=>a _ λe=>(by rw[e]at c;cases c),λc=>⟨λf=>a _ λ_ _=>rfl,λf=>⟨λm=>a _ λ_ e=>absurd e (aL f),λm=>⟨h,λy _=>a _ λ_ e=>absurd e (aL f)⟩⟩⟩⟩) (l:=λx=>aU λ_=>⟨(aO cw (CM x.1) x.2.1).isSome,λ_ _=>rfl⟩)
def TQ(k:Nat):List (Option CP):=[some (.cells [.mp 1, .mp 2, .own k, .ptr 4 0, .ptr 6 0]),some (.mp cw qb),some (.mp cw .i64),none,some (.cells [.mp 5, .d .i64]),some (.mp cw mU),some (.cells [.d (.sl hX)]),some (.sl qb)]
abbrev PS:=Iss×QZ×List gJ×Int×gU
def tA(o:Op)(p:PS):PS:=
 if o.1=1 then(dY cw (CM o) (qR o) p.1,p.2.1,p.2.2.1++[qR o],p.2.2.2)
 else if o.1=2 then(p.1,dY cw (TP o) 1 p.2.1,p.2.2.1,(nh p.2.2.2.2 p.2.2.2.1 (TP o)).2)else p
def Mr:Ct:=⟨2,⟨[sP 0,(1,true,[.d lu])],JL 0⟩,[⟨[],TQ 7⟩],λ(o,i,d,w,g,n,b,_)=>fJ (fu b/\w.length<=1000000/\0<=g/\g<=1000000) (λy:PS×List Mk=>y.1=tA o (i,d,w,g,n)/\fu y.2/\(o.1=1->y.2=b)) λy=>(y.1.1,y.1.2.1,y.1.2.2.2.1,y.1.2.2.2.2,y.2,y.1.2.2.1,())⟩
def YA:bG:=(133,[Mr])::Yy
def YB:=kA 133 Mr Yz (cQ Mr 0) (∀(a:Op)(e:List (Fk×gJ))(f:List (Fk×Int))(d:List gJ)(c:Int)(g:List (Fk×mU.den))(h:List hX.den)Q,let i:=(a.2.2.2.2.2.2.2.1,a.2.2.2.2.2.2.2.2.1,());let z:=(a.2.1,a.2.2.1,a.2.2.2.1,a.2.2.2.2.1,a.2.2.2.2.2.1,a.2.2.2.2.2.2.1,());bg Mr (a,e,f,d,c,g,h,()) Q->Br (a.1==1) ((d.length+1)*40<=mM/\Q ⟨0,dY cw (a.2.1,a.2.2.1,()) z e,f,c,g,h,d++[z],()⟩) (Br (a.1==2) ((0<=c/\c<=1000000)/\∀b,b=nh g c i->Q ⟨0,e,dY cw i 1 f,b.2.1,b.2.2,h,d,()⟩) (fu h/\∀(b:Int×List hX.den),fu b.2->Q ⟨0,e,f,c,g,b.2,d,()⟩))) (by
 conv=>zeta
 unfold Br mM bg;rintro o i d w g n b Q ⟨⟨f,z,r,s⟩,q⟩;have a:∀(p:PS)(y:List Mk),p=tA o (i,d,w,g,n)->fu y->(o.1=1->y=b)->Q ⟨0,(p.1,p.2.1,p.2.2.2.1,p.2.2.2.2,y,p.2.2.1,())⟩:=λp y t u v=>q (p,y) ⟨t,u,v⟩;clear q;unfold tA at a;refine⟨λc=>⟨ac,a (_,_,_,_,_) b (by rw[ak (bz c)];rfl) f λ_=>rfl⟩,λc=>⟨λj=>⟨⟨r,s⟩,λy m=>a (_,_,_,_,_) b (by rw[ae (aL c),ak (bz j)];subst m;rfl) f λ_=>rfl⟩,λj=>⟨f,λy m=>a (_,_,_,_,_) _ (by rw[ae (aL c),ae (aL j)]) m λe=>absurd e (aL c)⟩⟩⟩) (l:=λx=>aU λh=>⟨(_,x.2.2.2.2.2.2.1),rfl,h.1,λ_=>rfl⟩)
def Hc{β:Type}(f:β->Bool):List (ID×β)->Nat
 |[]=>0
 |p::l=>Hc f l+(if f p.2 then 1 else 0)
theorem He{β:Type}(f:β->Bool):∀l:List (ID×β),Hc f l<=l.length
 |[]=>aE _
 |p::l=>by
  have:=He f l;simp only[Hc,bc];split<;>omega
def gnN(n:gU):Nat:=Hc (λv:Nd=>v.2.2.2.1) n
theorem rq{β:Type}(f:β->Bool)(k:ID)(v:β):∀l:List (ID×β),Hc f (cL (kt:=cw) k v l)+(if(cD (kt:=cw) k l).any f then 1 else 0)=Hc f l+(if f v then 1 else 0)
 |[]=>by simp[cL,cD,Hc]
 |p::l=>by
  have c:=rq f k v l;by_cases e:jd cw k p.1=true
  ·have a:cL (kt:=cw) k v (p::l)=(p.1,v)::l:=by simp only[cL];rw[ak e]
   have b:cD (kt:=cw) k (p::l)=some p.2:=by simp only[cD];rw[ak e]
   rw[a,b];simp only[Hc,Option.any_some];omega
  ·have a:cL (kt:=cw) k v (p::l)=p::cL (kt:=cw) k v l:=by simp only[cL];rw[ae e]
   have b:cD (kt:=cw) k (p::l)=cD (kt:=cw) k l:=by simp only[cD];rw[ae e]
   rw[a,b];simp only[Hc];omega
variable{n:gU}
theorem YC(h:tv n)(s:n.length<=100000):QJ n:=by
 obtain⟨A,h⟩:=h;refine⟨ac,λp b l a=>?_⟩;have f:=h.two p b;have g:=h.light b;have i:=xq.le (n:=n) (A:=A) p.1
 have j:∀l:List ID,(∀c∈l,c∈iI n)->3*l.length<=(l.map (wt n A)).sum:=by
  intro l
  induction l with
  |nil=>intro _;simp
  |cons c l m=>
   intro q;have t:=h.ge3 (q c (aF ..));have f:=m λd o=>q d (aD _ o);simp only[aY,dy,bc];omega
 have u:=j (kc p.2) (h.key p b)
 have e:l.length<=(kc p.2).length:=by
  unfold kc;rw[aa]
  match r:p.2.2.2.2.2.1,f with
  |[v,w],_=>
   rw[r]at a;simp only[bm,List.not_mem_nil,or_false]at a;rcases a with rfl|rfl
   ·simp
   ·simp
 omega
def kf(n:gU)(g:Int):Prop:=tv n/\n.length<=4097/\0<=g/\g<=gnN n
variable{g:Int}
theorem CN(h:kf n g):g<=4097:=by
 have:gnN n<=n.length:=He _ n;have:=h.2.1;have:=h.2.2.2;omega
theorem wE{id:ID}(h:kf n g):kf (nh n g id).2.2 (nh n g id).2.1:=by
 refine⟨Ek h.1,by rw[L9];exact h.2.1,?_⟩;have b:=h.2.2;unfold nh;split
 ·exact b
 rename_i c;dsimp only;split
 ·exact b
 ·rename_i e;have c:ng n id=true:=cf c
  unfold ng at c;rw[aK,cX]at c;obtain⟨a,f⟩:=c.2;rw[f]at e⊢;have:=rq (λv:Nd=>v.2.2.2.1) id (a.1,a.2.1,a.2.2.1,true,a.2.2.2.2) n;rw[show cD (kt:=cw) id n=some a from f]at this;simp only[Option.any_some]at this;simp only[dA]at e⊢;rw[ae e,ak trivial]at this;unfold gnN at b⊢;show 0<=g+1/\g+1<=(Hc _ (cL (kt:=cw) id _ n):Int);omega
theorem AY{i:gJ}(h:kf n g):kf (od n i).2 g:=by
 obtain⟨t,A,u,w⟩:=GU (i:=i) h.1;by_cases q:(od n i).1=0
 ·refine⟨t,by have:=u q;omega,h.2.2.1,?_⟩;have x:=h.2.2.2;unfold od at q⊢;split at q
  ·cases q
  rename_i m;rw[ae m];split at q
  ·cases q
  rename_i r;rw[ae r];split at q
  ·cases q
  rename_i j;rw[ae j];split at q
  ·cases q
  rename_i y;rw[ae y];dsimp only;have j:(aO cw (i.2.2.1,i.2.2.2.1,()) n).isSome=true:=by rw[bR]at j;exact j
  rw[cX]at j;obtain⟨a,c⟩:=j;rw[c,dA];have s:=rq (λv:Nd=>v.2.2.2.1) (i.2.2.1,i.2.2.2.1,()) (a.1,a.2.1,a.2.2.1,a.2.2.2.1,a.2.2.2.2.1.set (E8 i.2.2.2.2.1) (zP (a.2.2.2.2.1.getD (E8 i.2.2.2.2.1) []) (i.1,i.2.1,())),()) n;rw[show cD (kt:=cw) (i.2.2.1,i.2.2.2.1,()) n=some a from c]at s;simp only[Option.any_some]at s;have o:=rq (λv:Nd=>v.2.2.2.1) (i.1,i.2.1,()) (i.1,i.2.1,i.2.2.2.2.2.1,false,[[],[]],()) (cL (kt:=cw) (i.2.2.1,i.2.2.2.1,()) (a.1,a.2.1,a.2.2.1,a.2.2.2.1,a.2.2.2.2.1.set (E8 i.2.2.2.2.1) (zP (a.2.2.2.2.1.getD (E8 i.2.2.2.2.1) []) (i.1,i.2.1,())),()) n)
  have f:tu i=true:=by
   rw[not_or]at m;simpa using m.1
  have l:1<=i.2.1:=by
   unfold tu iB at f;rw[aK]at f;exact(af f.1).2.2.1
  have b:cD (kt:=cw) (i.1,i.2.1,()) n=none:=by
   cases z:cD (kt:=cw) (i.1,i.2.1,()) n with
   |none=>rfl
   |some v=>
    exfalso;apply r;unfold ng;rw[show aO cw (i.1,i.2.1,()) n=some v from z];have:(i.2.1==0)=false:=aC.2 (λ(e:@Eq Int i.2.1 0)=>by rw[e]at l;exact absurd l bt);show(!(i.1==0&&i.2.1==0)&&true)=true;rw[this];simp
  rw[fM]at o
  have p:¬(jd cw (i.1,i.2.1,()) (i.2.2.1,i.2.2.2.1,())=true):=by
   intro q;rw[Ob.1 q]at b;rw[show cD (kt:=cw) (i.2.2.1,i.2.2.2.1,()) n=some a from c]at b;cases b
  rw[ae p,b]at o;simp only[Option.any_none,cz,if_false]at o;unfold gnN at x⊢;show g<=(Hc _ (cL (kt:=cw) (i.1,i.2.1,()) _ (cL (kt:=cw) (i.2.2.1,i.2.2.2.1,()) _ n)):Int);omega
 ·rw[w q];exact h
def Ms(d:QZ)(z:gU×Int×List gJ)(i:gJ):gU×Int×List gJ:=
 let a:=od z.1 i
 if a.1≠0 then(a.2,z.2.1,z.2.2++[i])
 else if(aO cw (i.1,i.2.1,()) d).isSome=true then((nh a.2 z.2.1 (i.1,i.2.1,())).2.2,(nh a.2 z.2.1 (i.1,i.2.1,())).2.1,z.2.2)else(a.2,z.2.1,z.2.2)
def wF(d:QZ)(w:List gJ)(z:gU×Int×List gJ):gU×Int×List gJ:=w.foldl (Ms d) z
def Es:Nat->QZ->List gJ->gU->Int->List gJ×Int×gU
 |0,_,w,n,g=>(w,g,n)
 |k+1,d,w,n,g=>if(wF d w (n,g,[])).2.2.length=w.length then((wF d w (n,g,[])).2.2,(wF d w (n,g,[])).2.1,(wF d w (n,g,[])).1)else Es k d (wF d w (n,g,[])).2.2 (wF d w (n,g,[])).1 (wF d w (n,g,[])).2.1
def Hf:Ct:=⟨1,⟨[sP 0],JL 0⟩,[⟨[],TQ 7⟩],λ(i,d,w,g,n,b,_)=>dZ (w.length<=1000000/\kf n g) (Es (w.length+1) d w n g) λy=>(i,d,y.2.1,y.2.2,b,y.1,())⟩
def Q0:cx:=⟨[sP 0],TQ 7⟩
def Mu(x:Hf.inp.den)(y:Q0.den):Prop:=match x,y with
 |(e,a,c,h,j,l,_),(i,d,g,n,b,w,_)=>i=e/\d=a/\b=l/\w.length<=1000000/\kf n g/\∃f,w.length<f/\Es f d w n g=Es (c.length+1) a c j h
def YD:cx:=⟨[sP 0,sO 2 8,sO 11 7,sI 12,sI 13],TQ 7++[some (.sl qb)]⟩
def Eu(z:Q0.den)(y:YD.den):Prop:=match z,y with
 |(e,c,f,h,m,a,_),(l,j,i,d,g,n,b,w,r,_)=>i=e/\d=c/\b=m/\w=a/\l=a.length/\kf n g/\∃k:Nat,j=k/\k<=a.length/\r.length<=k/\wF c (a.drop k) (n,g,r)=wF c a (h,f,[])
def a5p(x:Hf.inp.den):eH:=⟨[(0,pW Q0 (Mu x) (λ(_,_,_,_,_,w,_)=>w.length) λz=>[(2,bS YD (Eu z) λ(l,j,_)=>(@bO Int Int Int _ l j).toNat)])],[],[],[],0⟩
def YE:bG:=(134,[Hf])::YA
def YF:=kA 134 Hf YB a5p (∀(p:List (Fk×gJ))(q:List (Fk×Int))(r:List gJ)(s:Int)(t:List (Fk×mU.den))(u:List hX.den)Q,let y:=(p,q,r,s,t,u,());bg Hf y Q->Is (Mu y (p,q,s,t,u,r,()))/\∀(i:List (Fk×gJ))(j:List (Fk×Int))(k:Int)(l:List (Fk×mU.den))(m:List hX.den)(f:List gJ),let x:=(i,j,k,l,m,f,());Mu y x->Is (Eu x (nI f,0,i,j,k,l,m,f,[],()))/\∀(d a:Int)(n:List (Fk×gJ))(g:List (Fk×Int))(h:Int)(v:List (Fk×mU.den))(o:List hX.den)(c e:List gJ),let z:=gD c a (0,0,0,0,false,0,());let A:=aO cw (z.1,z.2.1,()) g;Eu x (d,a,n,g,h,v,o,c,e,())->Bd (a<d) (iN a c/\QJ v/\∀b,b=od v z->Br (!b.1==0) ((e.length+1)*40<=mM/\am (a+1)/\Is (Eu x (d,a+1,n,g,h,b.2,o,c,e++[gD c a (0,0,0,0,false,0,())],())/\lN (d-(a+1)) (d-a))) (Br (A.isSome) ((0<=h/\h<=1000000)/\∀w,w=nh b.2 h (z.1,z.2.1,())->am (a+1)/\Is (Eu x (d,a+1,n,g,w.2.1,w.2.2,o,c,e,())/\lN (d-(a+1)) (d-a))) (am (a+1)/\Is (Eu x (d,a+1,n,g,h,b.2,o,c,e,())/\lN (d-(a+1)) (d-a))))) (Br (nI e==nI c) (Q ⟨0,n,g,h,v,o,e,()⟩) (Is (Mu y (n,g,h,v,o,e,())/\e.length<f.length)))) (by
 conv=>zeta
 unfold Bd Br gD iN lN mM nI bg;rintro i d w g n b Q ⟨⟨K,L⟩,H⟩;have M:∀y,Es (w.length+1) d w n g=y->Q ⟨0,(i,d,y.2.1,y.2.2,b,y.1,())⟩:=λy e=>H y e.symm;clear H;refine⟨⟨⟨rfl,rfl,rfl,K,L,w.length+1,Nat.lt_succ_self _,rfl⟩⟩,?_⟩;rintro i1 d1 N O b1 w1 ⟨u,v,A,k1,P,f,k3,o⟩;subst u v A;obtain⟨f,rfl⟩:∃R,f=R+1:=⟨f-1,ac⟩;refine⟨⟨⟨rfl,rfl,rfl,rfl,rfl,P,0,rfl,aq _,aq _,rfl⟩⟩,?_⟩;rintro ln j i2 B C D b2 m r ⟨u,v,A,S,U,t,k,W,q2,q3,h⟩;subst u v A S U W;rw[show((k:Int)).toNat=k by omega];have E:=YC t.1 (by have:=t.2.1;omega);refine⟨λc=>?_,λc=>?_⟩
 ·have q:k<m.length:=by have:=af c;omega
  rw[dv (z:=((0,0,0,0,false,0,()):gJ)) q]at h;have h:wF B (m.drop (k+1)) (Ms B (D,C,r) (m.getD k (0,0,0,0,false,0,())))=_:=h;generalize m.getD k (0,0,0,0,false,0,())=x at*;have F:am ((k:Int)+1):=cv
  have G:((m.length:Int)-((k:Int)+1)).toNat<((m.length:Int)-(k:Int)).toNat:=ac
  have s:=AY (i:=x) t;unfold Ms at h;dsimp only at h;refine⟨ac,E,λa X=>?_⟩;rw[<-X]at h s;refine⟨λz=>⟨ac,F,⟨⟨rfl,rfl,rfl,rfl,rfl,s,k+1,rfl,q,eM,?_⟩,G⟩⟩,λz=>?_⟩
  ·rw[ak (cf z)]at h;exact h
  ·rw[ae (cf z)]at h;refine⟨λy=>⟨⟨s.2.2.1,by have:=CN s;omega⟩,λp J=>⟨F,⟨⟨rfl,rfl,rfl,rfl,rfl,?_,k+1,rfl,q,ac,?_⟩,G⟩⟩⟩,λy=>⟨F,⟨⟨rfl,rfl,rfl,rfl,rfl,s,k+1,rfl,q,ac,?_⟩,G⟩⟩⟩
   ·rw[J];exact wE s
   ·rw[ak y,<-J]at h;exact h
   ·rw[ae (by rw[y];decide)]at h;exact h
 ·have q:k=m.length:=by have:=ap c;omega
  subst q;rw[List.drop_length]at h;have h:(D,C,r)=wF B m (O,N,[]):=h;simp only[Es]at o;rw[<-h]at o;refine⟨λz=>?_,λz=>?_⟩
  ·rw[ak (by have:=bz z;show r.length=m.length;omega)]at o;exact M (r,C,D) o.symm
  ·have Y:¬(r.length=m.length):=by have:=aL z;omega
   rw[ae Y]at o;exact⟨⟨rfl,rfl,rfl,ac,t,f,ac,o⟩,ac⟩) (l:=λ_=>bA)
end Go.Tp
