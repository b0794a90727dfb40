/- A part of the proof of TopSealedSaid: no conditions; packed by a program of our own. -/
import Derived.Test.YtgpideichgnmhaaGreatPbah
import Derived.Test.YtgpideichgnmhaaGreatPbaa
import Derived.Shelf.Spec.SlicesInsertGrow
open And renaming intro→cc
open Array renaming length_toList→s8
open BitVec renaming ofInt→bi
open Bool renaming and_eq_true→aI,not_eq_true'→aP,not_eq_true→cd,not_eq_false'→aK,not_eq_false→bW
open Go.Builtin renaming zeroCells→bL
open Go.IntKind renaming wrap_i64→dm
open Go.Lib renaming bitLen→fM
open Go.Value renaming int→gj
open Go.World renaming size_alloc→dX
open HSub renaming hSub→bv
open Int renaming toNat_of_nonneg→pz,eq_ofNat_of_zero_le→bR,le_refl→bY
open LE renaming le→bc
open LT renaming lt→lB
open List renaming map_cons→aY,length_append→aa,length_cons→ba,append_assoc→ay,mem_append→bb,nil_append→eS,append_nil→aW,mem_cons→bt,getD→bB,take_append_drop→dI,length_take→be,length→ah,getD_eq_getElem?_getD→aw,getElem?_eq_none→bD,length_nil→de,map_append→dn,length_map→bT,map→rZ,mem_cons_self→aG,mem_cons_of_mem→aA,nodup_cons→mn,mem_map_of_mem→fB,mem_append_left→cL,mem_singleton→cf,length_drop→cI,take→cM,length_singleton→bh,sum_cons→dg,length_eq_zero_iff→r8
open Nat renaming min_eq_left→eB,lt_of_lt_of_le→bu,le_refl→aD,zero_add→bN,zero_le→aq,lt_or_ge→bI
open Option renaming isSome_iff_exists→cJ,getD_some→di
open Prod renaming fst→ga
namespace Go.Tp
open Go.Hv Go.Proofs Go.RowKit
set_option maxRecDepth 100000
set_option maxHeartbeats 0
def sK(b:BL)(m:Bool)(s:Rs):ID×Rs:=lk b<|
 let a:=cW b s.1 m s.2 0 4
 let c:=cW b a.2.1 m a.2.2 0 1099511627776
 ((a.1,c.1,()),c.2)
def R2:Ct:=⟨1,⟨[sP 0],rH⟩,[⟨[(0,true,[.d cq])],rH⟩],λ(b,a,m,e,_)=>dy (bQ b a) (sK b m (a,e)) λy=>(y.1,b,y.2.1,m,y.2.2,())⟩
def Ni:bw:=(220,[R2])::Nh
theorem Ym:KK Ni:=kA Yl (cE R2 0) (∀(a:BL)(e:Int)(d:Bool)(f:Int)Q,bd R2 (a,e,d,f,()) Q->bQ a e/\∀b,b=cW a e d f 0 4->bQ a b.2.1/\∀c,c=cW a b.2.1 d b.2.2 0 1099511627776->Q ⟨0,(b.1,c.1,()),a,c.2.1,d,c.2.2,()⟩) (by
 unfold bd;intro b a m e Q ⟨g,i⟩;have f:∀y,sK b m (a,e)=y->Q ⟨0,(y.1,b,y.2.1,m,y.2.2,())⟩:=λy h=>i y h.symm;clear i;unfold sK at f;rw[ck]at f;refine⟨g,λk j=>⟨?_,λc n=>?_⟩⟩
 ·rw[j];exact(eQ m e 0 4 g).1
 ·subst n j;exact f _ rfl) (l:=λ_=>bp)
theorem R3{b:BL}{a:Int}(m:Bool)(e:Int)(h:bQ b a):bQ b (sK b m (a,e)).2.1:=by
 unfold sK;rw[ck];exact(eQ m _ 0 1099511627776 (eQ m e 0 4 h).1).1
def x6(b:BL)(m:Bool)(s:Rs):tAn.den×Rs:=lk b<|
 let i:=sK b m s
 let f:=cW b i.2.1 m i.2.2 0 1
 ((i.1.1,i.1.2.1,f.1==1,()),f.2)
def R4:Ct:=⟨1,⟨[sP 0],rH⟩,[⟨[(0,true,[.d tAn])],rH⟩],λ(b,a,m,e,_)=>dy (bQ b a) (x6 b m (a,e)) λy=>(y.1,b,y.2.1,m,y.2.2,())⟩
def Nj:bw:=(222,[R4])::Ni
theorem Yn:KK Nj:=kA Ym (cE R4 0) (∀(a:BL)(d:Int)(c:Bool)(e:Int)Q,bd R4 (a,d,c,e,()) Q->bQ a d/\∀b,let z:=cW a b.2.1 c b.2.2 0 1;b=sK a c (d,e)->bQ a b.2.1/\Q ⟨0,(b.1.1,b.1.2.1,z.1==1,()),a,z.2.1,c,z.2.2,()⟩) (by
 conv=>zeta
 unfold bd;intro b a m e Q ⟨f,g⟩;have c:∀y,x6 b m (a,e)=y->Q ⟨0,(y.1,b,y.2.1,m,y.2.2,())⟩:=λy h=>g y h.symm;clear g;unfold x6 at c;rw[ck]at c;refine⟨f,λk i=>⟨?_,?_⟩⟩
 ·rw[i];exact R3 m e f
 ·subst i;exact c _ rfl) (l:=λ_=>bp)
def yY(b:BL)(m:Bool)(s:Rs):Op×Rs:=
 let k:=cW b s.1 m s.2 1 3
 if k.1=1 then
  let i:=sK b m k.2
  let p:=sK b m i.2
  let f:=cW b p.2.1 m p.2.2 0 1
  let x:=cW b f.2.1 m f.2.2 0 1114111
  ((k.1,i.1.1,i.1.2.1,p.1.1,p.1.2.1,f.1==1,IntKind.i32.wrap x.1,0,0,0,0,0,0,false,0,0,false,0,0,()),x.2)
 else if k.1=2 then
  let i:=sK b m k.2
  ((k.1,0,0,0,0,false,0,i.1.1,i.1.2.1,0,0,0,0,false,0,0,false,0,0,()),i.2)
 else if k.1=3 then
  let c:=cW b k.2.1 m k.2.2 0 1099511627776
  let u:=cW b c.2.1 m c.2.2 0 4
  let f:=x6 b m u.2
  let t:=x6 b m f.2
  let n:=cW b t.2.1 m t.2.2 0 1099511627776
  let v:=cW b n.2.1 m n.2.2 0 1099511627776
  ((k.1,0,0,0,0,false,0,0,0,c.1,u.1,f.1.1,f.1.2.1,f.1.2.2.1,t.1.1,t.1.2.1,t.1.2.2.1,n.1,v.1,()),v.2)
 else((k.1,0,0,0,0,false,0,0,0,0,0,0,0,false,0,0,false,0,0,()),k.2)
def Cy(b:BL)(m:Bool)(s:Rs):Op×Rs:=lk b<|
 let x:=yY b m s
 (x.1,x.2.1,if gw x.1=true then x.2.2 else if(m&&x.2.2==0)=true then 5 else x.2.2)
theorem anA{b:BL}{a:Int}(m:Bool)(e:Int)(h:bQ b a):bQ b (x6 b m (a,e)).2.1:=by
 unfold x6;rw[ck];exact(eQ m _ 0 1 (R3 m e h)).1
theorem a2l{b:BL}{a:Int}(m:Bool)(e:Int)(h:bQ b a):bQ b (yY b m (a,e)).2.1:=by
 have c:=(eQ m e 1 3 h).1;unfold yY;dsimp only;generalize cW b a m e 1 3=k at*;split
 ·exact(eQ m _ 0 1114111 (eQ m _ 0 1 (R3 m _ (R3 m _ c))).1).1
 split
 ·exact R3 m _ c
 split
 ·exact(eQ m _ 0 1099511627776 (eQ m _ 0 1099511627776 (anA m _ (anA m _ (eQ m _ 0 4 (eQ m _ 0 1099511627776 c).1).1))).1).1
 ·exact c
theorem Yo{b:BL}{a:Int}(m:Bool)(e:Int)(h:bQ b a):bQ b (Cy b m (a,e)).2.1:=by
 unfold Cy;rw[ck];exact a2l m e h
theorem lP{b:BL}{a:Int}{m:Bool}{e lo hi:Int}(h:e≠0):(cW b a m e lo hi).2.2=e:=by
 unfold cW;rw[af (by simp[h])]
theorem AB{b:BL}{a:Int}{m:Bool}{e:Int}(h:e≠0):(sK b m (a,e)).2.2=e:=by
 unfold sK;rw[ck];have c:(cW b a m e 0 4).2.2=e:=lP h;exact(lP (by rw[c];exact h)).trans c
theorem JZ{b:BL}{a:Int}{m:Bool}{e:Int}(h:e≠0):(x6 b m (a,e)).2.2=e:=by
 unfold x6;rw[ck];have c:(sK b m (a,e)).2.2=e:=AB h;exact(lP (by rw[c];exact h)).trans c
theorem AC{b:BL}{a:Int}{m:Bool}{e:Int}(h:e≠0):(Cy b m (a,e)).2.2=e:=by
 have f:(yY b m (a,e)).2.2=e:=by
  have f:(cW b a m e 1 3).2.2=e:=lP h;unfold yY;dsimp only;generalize cW b a m e 1 3=k at*;have j:k.2.2≠0:=by rw[f];exact h
  have R:∀(s:Rs)(g i:Int),s.2=e->(cW b s.1 m s.2 g i).2.2=e:=λs g i c=>(lP (by rw[c];exact h)).trans c;have D:∀s:Rs,s.2=e->(sK b m s).2.2=e:=λs c=>(AB (a:=s.1) (e:=s.2) (by rw[c];exact h)).trans c;have A:∀s:Rs,s.2=e->(x6 b m s).2.2=e:=λs c=>(JZ (a:=s.1) (e:=s.2) (by rw[c];exact h)).trans c;split
  ·exact R _ _ _ (R _ _ _ (D _ (D _ f)))
  split
  ·exact D _ f
  split
  ·exact R _ _ _ (R _ _ _ (A _ (A _ (R _ _ _ (R _ _ _ f)))))
  ·exact f
 unfold Cy;rw[ck];dsimp only;rw[f];split
 ·rfl
 ·rw[af (by simp[h])]
def R5:Ct:=⟨1,⟨[sP 0],rH⟩,[⟨[(0,true,[.d kE])],rH⟩],λ(b,a,m,e,_)=>dy (bQ b a) (Cy b m (a,e)) λy=>(y.1,b,y.2.1,m,y.2.2,())⟩
def Nk:bw:=(215,[R5])::Nj
theorem Yp:KK Nk:=kA Yn (cE R5 0) (∀(a:BL)(j:Int)(e:Bool)(k:Int)Q,bd R5 (a,j,e,k,()) Q->bQ a j/\∀b,let m:= !gw (b.1,0,0,0,0,false,0,0,0,0,0,0,0,false,0,0,false,0,0,());b=cW a j e k 1 3->Br (b.1==1) (bQ a b.2.1/\∀c,c=sK a e b.2->bQ a c.2.1/\∀d,let l:=cW a d.2.1 e d.2.2 0 1;d=sK a e c.2->bQ a d.2.1/\bQ a l.2.1/\∀f,let n:= !gw (b.1,c.1.1,c.1.2.1,d.1.1,d.1.2.1,l.1==1,IntKind.i32.wrap f.1,0,0,0,0,0,0,false,0,0,false,0,0,());f=cW a l.2.1 e l.2.2 0 1114111->True/\Br n (True/\Q ⟨0,(b.1,c.1.1,c.1.2.1,d.1.1,d.1.2.1,l.1==1,IntKind.i32.wrap f.1,0,0,0,0,0,0,false,0,0,false,0,0,()),a,f.2.1,e,if(e&&f.2.2==0)=true then 5 else f.2.2,()⟩) (Q ⟨0,(b.1,c.1.1,c.1.2.1,d.1.1,d.1.2.1,l.1==1,IntKind.i32.wrap f.1,0,0,0,0,0,0,false,0,0,false,0,0,()),a,f.2.1,e,f.2.2,()⟩)) (Br (b.1==2) (bQ a b.2.1/\∀c,let o:= !gw (b.1,0,0,0,0,false,0,c.1.1,c.1.2.1,0,0,0,0,false,0,0,false,0,0,());c=sK a e b.2->True/\Br o (True/\Q ⟨0,(b.1,0,0,0,0,false,0,c.1.1,c.1.2.1,0,0,0,0,false,0,0,false,0,0,()),a,c.2.1,e,if(e&&c.2.2==0)=true then 5 else c.2.2,()⟩) (Q ⟨0,(b.1,0,0,0,0,false,0,c.1.1,c.1.2.1,0,0,0,0,false,0,0,false,0,0,()),a,c.2.1,e,c.2.2,()⟩)) (Br (b.1==3) (bQ a b.2.1/\∀c,c=cW a b.2.1 e b.2.2 0 1099511627776->bQ a c.2.1/\∀d,d=cW a c.2.1 e c.2.2 0 4->bQ a d.2.1/\∀f,f=x6 a e d.2->bQ a f.2.1/\∀g,g=x6 a e f.2->bQ a g.2.1/\∀i,i=cW a g.2.1 e g.2.2 0 1099511627776->bQ a i.2.1/\∀h,let z:=(c.1,d.1,f.1.1,f.1.2.1,f.1.2.2.1,g.1.1,g.1.2.1,g.1.2.2.1,i.1,h.1,());let p:= !gw (b.1,0,0,0,0,false,0,0,0,z);h=cW a i.2.1 e i.2.2 0 1099511627776->True/\Br p (True/\Q ⟨0,(b.1,0,0,0,0,false,0,0,0,z),a,h.2.1,e,if(e&&h.2.2==0)=true then 5 else h.2.2,()⟩) (Q ⟨0,(b.1,0,0,0,0,false,0,0,0,z),a,h.2.1,e,h.2.2,()⟩)) (True/\Br m (True/\Q ⟨0,(b.1,0,0,0,0,false,0,0,0,0,0,0,0,false,0,0,false,0,0,()),a,b.2.1,e,if(e&&b.2.2==0)=true then 5 else b.2.2,()⟩) (Q ⟨0,(b.1,0,0,0,0,false,0,0,0,0,0,0,0,false,0,0,false,0,0,()),a,b.2.1,e,b.2.2,()⟩))))) (by
 conv=>zeta
 unfold Br bd;intro b a m e Q ⟨E,F⟩;have G:∀y,Cy b m (a,e)=y->Q ⟨0,(y.1,b,y.2.1,m,y.2.2,())⟩:=λy h=>F y h.symm;clear F
 have fin:∀(o:Op)(s:Rs),yY b m (a,e)=(o,s)->True/\((!gw o)=true->True/\Q ⟨0,(o,b,s.1,m,if(m&&s.2==0)=true then 5 else s.2,())⟩)/\((!gw o)=false->Q ⟨0,(o,b,s.1,m,s.2,())⟩):=by
  intro o s h
  have N:Cy b m (a,e)=(o,s.1,if gw o=true then s.2 else if(m&&s.2==0)=true then 5 else s.2):=by
   unfold Cy;rw[ck,h]
  have:=G _ N;refine⟨trivial,λg=>⟨trivial,?_⟩,λg=>?_⟩
  ·simp only[aP]at g;rw[g,af (by decide)]at this;exact this
  ·simp only[aK]at g;rw[am g]at this;exact this
 clear G;unfold yY at fin;dsimp only at fin;refine⟨E,λk H=>?_⟩;have r:=(eQ m e 1 3 E).1;rw[<-H]at r fin;clear H;refine⟨λc=>⟨r,λi A=>?_⟩,λc=>⟨λw=>⟨r,λi A=>?_⟩,λw=>⟨λz=>⟨r,λx B=>?_⟩,λz=>?_⟩⟩⟩
 ·have c:=aZ c;have j:=R3 m k.2.2 r;rw[am c]at fin;rw[show sK b m k.2=i from A.symm]at fin;rw[show sK b m (k.2.1,k.2.2)=i from A.symm]at j;refine⟨j,λp J=>?_⟩;have q:=R3 m i.2.2 j;rw[show sK b m i.2=p from J.symm]at fin;rw[show sK b m (i.2.1,i.2.2)=p from J.symm]at q;refine⟨q,(eQ m _ 0 1 q).1,λx B=>?_⟩;subst B;exact fin _ _ rfl
 ·have w:=aZ w;subst A;exact fin _ _ (by rw[af (aE c),am w])
 ·have z:=aZ z;rw[af (aE c),af (aE w),am z]at fin;have j:=(eQ m k.2.2 0 1099511627776 r).1;rw[<-B]at j fin;refine⟨j,λu O=>?_⟩;have q:=(eQ m x.2.2 0 4 j).1;rw[<-O]at q fin;refine⟨q,λf K=>?_⟩;have C:=anA m u.2.2 q;rw[show x6 b m u.2=f from K.symm]at fin;rw[show x6 b m (u.2.1,u.2.2)=f from K.symm]at C;refine⟨C,λt L=>?_⟩;have D:=anA m f.2.2 C;rw[show x6 b m f.2=t from L.symm]at fin;rw[show x6 b m (f.2.1,f.2.2)=t from L.symm]at D;refine⟨D,λn P=>?_⟩;have M:=(eQ m t.2.2 0 1099511627776 D).1;rw[<-P]at M fin;refine⟨M,λv R=>?_⟩;subst R;exact fin _ _ rfl
 ·exact fin _ _ (by rw[af (aE c),af (aE w),af (aE z)])) (l:=λ_=>bp)
def yZ(b:BL)(a:Int)(m:Bool)(e c:Int)(y:List Op×Int×Int):Prop:=bQ b y.2.1/\(y.1.length:Int)<=c/\(b=eu [iW]->a=0->m=true->e=0->c=64->y=([iW],(b.length:Int),0))/\(e≠0->y.2.2=e)
def Fa:Ct:=⟨2,⟨[sP 0,sI 1],rH⟩,[⟨[(0,false,[.d (.sl kE)])],rH⟩],λ(c,b,a,m,e,_)=>eD (bQ b a/\0<=c/\c<=4096) (yZ b a m e c) λy=>(y.1,b,y.2.1,m,y.2.2,())⟩
theorem J0:∀o∈[iW],Az o:=by
 intro o a;simp at a;subst a;unfold Az ac;decide
theorem J1{b:BL}{a:Int}(m:Bool)(e:Int){c:Int}(h:bQ b a)(h0:0<=c):∃y,yZ b a m e c y:=by
 by_cases g:b=eu [iW]/\c=64/\e=0
 ·exact⟨([iW],(b.length:Int),0),by unfold bQ at*;dsimp only;omega,by simp;omega,λ_ _ _ _ _=>rfl,λf=>absurd g.2.2 f⟩
 ·exact⟨([],a,e),h,by simp;omega,λi _ _ j l=>absurd ⟨i,l,j⟩ g,λ_=>rfl⟩
def Vm(b:BL)(m:Bool):Nat->Rs->List Op->List Op×Rs
 |0,s,a=>(a,s)
 |k+1,s,a=>if(if m then(Cy b m s).2.2 else 5)≠0 then([],(Cy b m s).2)else Vm b m k (Cy b m s).2 (a++[(Cy b m s).1])
def lpF(b:BL)(m:Bool)(s:Rs)(a:Int):List Op×Rs:=Vm b m (cW b s.1 m s.2 0 a).1.toNat (cW b s.1 m s.2 0 a).2 []
def Yq:cg:=⟨[sP 0,sO 5 1,sI 8,sI 9],rH++[some (.sl kE)]⟩
def J2(x:Fa.inp.den)(y:Yq.den):Prop:=match x,y with
 |(c,f,j,g,h,_),(n,i,b,a,m,e,v,_)=>b=f/\m=g/\bQ f a/\∃q k:Nat,n=q/\(q:Int)<=c/\i=k/\k<=q/\v.length=k/\(h≠0->e=h)/\Vm f g (q-k) (a,e) v=lpF f g (j,h) c
def a2m(x:Fa.inp.den):dB:=⟨[(3,bK Yq (J2 x) λ(n,i,_)=>(n-i).toNat)],[],[],[],0⟩
theorem AD:lpF (eu [iW]) true (0,0) 64=([iW],((eu [iW]).length:Int),0):=by kernel_rfl
abbrev R6(v:List Op×BL×Int×Bool×Int×Unit):cw Fa.out:=⟨0,v⟩
def Nl:bw:=(200,[Fa])::Nk
theorem Yr:KK Nl:=kA Yp a2m (∀(c:Int)(a:BL)(d:Int)(e:Bool)(j:Int)(Q:cw Fa.out->Prop),let n:=(c,a,d,e,j,());(Tr.need (bQ a d/\0<=c/\c<=4096) (Tr.all (List Op×Int×Int) (yZ a d e j c) λy=>Tr.leaf (R6 (y.1,a,y.2.1,e,y.2.2,())))).sat Q->bQ a d/\∀b,b=cW a d e j 0 c->Is (J2 n (b.1,0,a,b.2.1,e,b.2.2,[],()))/\∀(h f:Int)(i:BL)(k:Int)(g:Bool)(m:Int)(l:List Op),J2 n (h,f,i,k,g,m,l,())->Bd (f<h) (bQ i k/\∀b,let z:= !(if g=true then b.2.2 else 5)==0;b=Cy i g (k,m)->(l.length+1)*144<=mM/\True/\Br z (Q ⟨0,[],i,b.2.1,g,b.2.2,()⟩) (ac (f+1)/\Is (J2 n (h,f+1,i,b.2.1,g,b.2.2,l++[b.1],())/\lN (h-(f+1)) (h-f)))) (Q ⟨0,l,i,k,g,m,()⟩)) (by
 conv=>zeta
 unfold Bd Br lN mM;intro most b a m e Q ⟨⟨h1,h2,h3⟩,hQ⟩;have hq:∀(l:List Op)(a' e':Int),yZ b a m e most (l,a',e')->Q ⟨0,(l,b,a',m,e',())⟩:=λl a' e' h=>hQ (l,a',e') h;clear hQ;have hn:=eQ m e 0 most h1;refine⟨h1,λn hn'=>⟨?_,?_⟩⟩
 ·subst hn';refine⟨rfl,rfl,hn.1,(cW b a m e 0 most).1.toNat,0,(pz hn.2.2.1).symm,by have:=hn.2.2.2;have:=pz hn.2.2.1;omega,rfl,aq _,rfl,λh=>lP h,rfl⟩
 clear hn';intro n i b1 a1 m1 e1 v ⟨g1,g2,g3,q,k,g4,hm,g5,hk,g6,g7,g8⟩;subst g1 g2 g4 g5
 have tiny:∀l:List Op,lpF b1 m1 (a,e) most=(l,(a1,e1))->(b1=eu [iW]->a=0->m1=true->e=0->most=64->(l,a1,e1)=([iW],(b1.length:Int),0)):=by
  intro l hl h1 h2 h3 h4 h5;subst h1 h2 h3 h4 h5;rw[AD]at hl;exact hl.symm
 refine⟨λhlt=>?_,λhge=>?_⟩
 ·have hkq:k<q:=by simp only[ai]at hlt;omega
  refine⟨g3,λo ho=>⟨by omega,trivial,λc=>?_,λc=>?_⟩⟩
  ·have hr:=Yo m1 e1 g3;rw[<-ho]at hr;obtain⟨j,hj⟩:∃j,q-k=j+1:=⟨q-k-1,by omega⟩;rw[hj]at g8;simp only[Vm]at g8;rw[<-ho,am (by simp only[aP]at c;intro h;rw[h]at c;cases c)]at g8;refine hq _ _ _ ⟨hr,by simp;omega,λx1 x2 x3 x4 x5=>?_,λhe=>?_⟩
   ·subst x1 x2 x3 x4 x5;rw[AD]at g8;exact absurd (aH ga g8) (by simp)
   ·rw[ho];have:=AC (b:=b1) (a:=a1) (m:=m1) (e:=e1) (by rw[g7 he];exact he);rw[this];exact g7 he
  ·have hr:=Yo m1 e1 g3;rw[<-ho]at hr;obtain⟨j,hj⟩:∃j,q-k=j+1:=⟨q-k-1,by omega⟩;rw[hj]at g8;simp only[Vm]at g8;rw[<-ho,af (by simp only[aK]at c;intro h;exact h (aZ c))]at g8;refine⟨by unfold ac;omega,⟨rfl,rfl,hr,q,k+1,rfl,hm,rfl,hkq,by simp;omega,λhe=>?_,?_⟩,by omega⟩
   ·rw[ho];have:=AC (b:=b1) (a:=a1) (m:=m1) (e:=e1) (by rw[g7 he];exact he);rw[this];exact g7 he
   ·rw[show q-(k+1)=j by omega];exact g8
 ·have hkq:q-k=0:=by simp only[aj]at hge;omega
  rw[hkq]at g8;simp only[Vm]at g8;exact hq _ _ _ ⟨g3,by show(v.length:Int)<=most;omega,tiny v g8.symm,g7⟩) (l:=λ_=>aM λh=>J1 _ _ h.1 h.2.1)
def jT:Nd:=(0,0,0,false,[[],[]],())
def J3(j:Nat):List (Option CP):=[some (.cells [.mp (j+1), .d .i64]),some (.mp cq lO)]
abbrev gx:=List (ID×Nd)
def R7:Ct:=⟨0,⟨[],[]⟩,[⟨[sP 0],J3 0⟩],λ_=>one True (0,[(sf,jT)],())⟩
def Nn:bw:=(103,[R7])::Nl
theorem Ys:KK Nn:=kA Yr (cE R7 0) (∀Q,bd R7 () Q->Q ⟨0,0,dD cq (0,0,()) (0,0,0,false,[[],[]],()) [],()⟩) (by
 unfold bd;intro Q ⟨_,a⟩;exact a)
def R8:Ct:=⟨0,⟨[],[]⟩,[⟨[sP 0],[some (.cells [.d (.sl gF)])]⟩],λ_=>one True ([],())⟩
def No:bw:=(104,[R8])::Nn
theorem Yt:KK No:=kA Ys (cE R8 0) (∀Q,bd R8 () Q->Q ⟨0,[],()⟩) (by
 unfold bd;intro Q ⟨_,a⟩;exact a)
def R9:Ct:=⟨0,⟨[],[]⟩,[⟨[sP 0],E5 0⟩],λ_=>one True ([],[],[],0,[(sf,jT)],[],())⟩
def Np:bw:=(69,[R9])::No
theorem Yu:KK Np:=kA Yt (cE R9 0) (∀Q,bd R9 () Q->True/\True/\Q ⟨0,[],[],[],0,[((0,0,()),0,0,0,false,[[],[]],())],[],()⟩) (by
 unfold bd;intro Q ⟨_,a⟩;exact⟨trivial,trivial,a⟩)
def Fb(a b:ID):Bool:=decide (a.1<b.1)||(a.1==b.1&&decide (a.2.1<b.2.1))
def Sa:Ct:=⟨2,⟨[(0,true,[.d cq]),(1,true,[.d cq])],[]⟩,[⟨[sL 0],[]⟩],λ(a,b,_)=>one True (Fb a b,())⟩
def Nq:bw:=(208,[Sa])::Np
theorem Yv:KK Nq:=kA Yu (cE Sa 0) (∀(a b:Fk)Q,bd Sa (a,b,()) Q->Bd (a.1<b.1) (Q ⟨0,true,()⟩) (Br (a.1==b.1) (Q ⟨0,decide (a.2.1<b.2.1),()⟩) (Q ⟨0,false,()⟩))) (by
 unfold Bd Br bd;rintro⟨a,b,⟨⟩⟩ ⟨c,d,⟨⟩⟩ Q ⟨_,f⟩;dsimp only at*;have g:∀y:Bool,Fb (a,b,()) (c,d,())=y->Q ⟨0,(y,())⟩:=λy e=>by rw[<-e];exact f
 clear f
 (repeat' (first|apply cc|intro _))<;>(try simp only[ai,aj,aR,az,ne_eq,aP,aK,cd,bW]at*)<;>first
  |assumption
  |(exact g _ (by clear g;grind[Fb]))
  |omega)
def rJ(i:gi):Bool:=hH i.1 i.2.1&&decide (0<=i.2.2.2.2.2.1/\i.2.2.2.2.2.1<=1114111/\(i.2.2.2.2.2.1<55296\/57343<i.2.2.2.2.2.1))
def Sb:Ct:=⟨1,⟨[(0,true,[.d oM])],[]⟩,[⟨[sL 0],[]⟩],λ(i,_)=>one True (rJ i,())⟩
def Nr:bw:=(185,[Sb])::Nq
theorem Yw:KK Nr:=kA Yv (cE Sb 0) (∀(a:gi)Q,bd Sb (a,()) Q->Bd (a.1<0) (Q ⟨0,false,()⟩) (Bd (5<=a.1) (Q ⟨0,false,()⟩) (Bd (a.2.1<1) (Q ⟨0,false,()⟩) (Bd (1099511627776<a.2.1) (Q ⟨0,false,()⟩) (Bd (0<=a.2.2.2.2.2.1) (Bd (a.2.2.2.2.2.1<=1114111) (Bd (a.2.2.2.2.2.1<55296) (Q ⟨0,true,()⟩) (Q ⟨0,decide (57343<a.2.2.2.2.2.1),()⟩)) (Q ⟨0,false,()⟩)) (Q ⟨0,false,()⟩)))))) (by
 unfold Bd bd;rintro⟨a,c,g,h,r,x,⟨⟩⟩ Q ⟨_,b⟩;dsimp only at*;have f:∀y:Bool,rJ (a,c,g,h,r,x,())=y->Q ⟨0,(y,())⟩:=λy e=>by rw[<-e];exact b
 clear b
 (repeat' (first|apply cc|intro _))<;>(try simp only[ai,aj,aR,az,ne_eq,aP,aK,cd,bW]at*)<;>first
  |assumption
  |(exact f _ (by clear f;grind[rJ,hH]))
  |omega)
def Se:Ct:=⟨1,⟨[sL 0],[]⟩,[⟨[(0,false,[.k (.i64 1)])],[]⟩,⟨[(0,false,[.k (.i64 0)])],[]⟩],λ(b,_)=> .ite b (.leaf ⟨0,()⟩) (.leaf ⟨1,()⟩)⟩
def Ns:bw:=(187,[Se])::Nr
theorem Yx:KK Ns:=kA Yw (cE Se 0) (∀(a:Bool)Q,bd Se (a,()) Q->Br a (Q ⟨0,()⟩) (Q ⟨1,()⟩)) (by
 unfold Br bd;rintro b Q ⟨a,c⟩;exact⟨a,c⟩) (l:=λ_=>Live.ite (λ_=>Live.leaf) (λ_=>Live.leaf))
def x7(l:List ID)(id:ID):List ID:=l.takeWhile (Fb · id)++[id]++l.dropWhile (Fb · id)
def J4:Ct:=⟨2,⟨[(0,false,[.d (.sl cq)]),(1,true,[.d cq])],[]⟩,[⟨[(0,false,[.d (.sl cq)])],[]⟩],λ(l,id,_)=>one (l.length<=1000000) (x7 l id,())⟩
def Yy:cg:=⟨[(0,false,[.d (.sl cq)]),(3,false,[.ptr 0 0]),sI 5],[some (.cells [.d cq])]⟩
def J5(x:J4.inp.den)(y:Yy.den):Prop:=match x,y with
 |(b,a,_),(l,i,id,_)=>l=b/\id=a/\∃k:Nat,i=k/\k<=b.length/\∀x∈b.take k,Fb x a=true
def a2n(x:J4.inp.den):dB:=⟨[(2,bK Yy (J5 x) λ(l,i,_)=>(l.length-i).toNat)],[],[],[],0⟩
theorem AE{α:Type}{p:α->Bool}(z:α):∀{l:List α}{k:Nat},k<=l.length->(∀x∈l.take k,p x=true)->(k=l.length\/p (l.getD k z)=false)->l.takeWhile p=l.take k/\l.dropWhile p=l.drop k
 |[],_,c,_,_=>by simp
 |x::l,0,_,_,h=>by
  have:p x=false:=by
   rcases h with h|h
   ·simp at h
   ·simpa using h
  simp[this]
 |x::l,k+1,c,e,h=>by
  have f:p x=true:=e x (by simp);obtain⟨a,b⟩:=AE z (l:=l) (k:=k) (by simpa using c) (λy g=>e y (by simp[g])) (by simpa using h);simp[f,a,b]
def Nt:bw:=(186,[J4])::Ns
theorem Yz:KK Nt:=kA Yx a2n (∀(d:List Fk)(e:Fk)Q,bd J4 (d,e,()) Q->Is (J5 (d,e,()) (d,0,e,()))/\∀(b:List Fk)(a:Int)(c:Fk),let z:=((0:Int)<=0/\0<=a/\a<=nI b)/\(0+(cM a.toNat b).length)*16<=mM/\((cM a.toNat b).length+1)*16<=mM/\(0<=a/\a<=nI b/\nI b<=nI b)/\((cM a.toNat b++[c]).length+(List.drop a.toNat b).length)*16<=mM/\Q ⟨0,cM a.toNat b++[c]++List.drop a.toNat b,()⟩;J5 (d,e,()) (b,a,c,())->Bd (a<nI b) (decide (a<nI b)=true/\decide (a<nI b)=true/\iN a b/\decide (a<nI b)=true/\decide (a<nI b)=true/\decide (a<nI b)=true/\True/\decide (a<nI b)=true/\Br (Fb (gD b a (0,0,())) c) (ac (a+1)/\Is (J5 (d,e,()) (b,a+1,c,())/\lN (nI b-(a+1)) (nI b-a))) z) (decide (a<nI b)=false/\decide (a<nI b)=false/\decide (a<nI b)=false/\decide (a<nI b)=false/\decide (a<nI b)=false/\decide (a<nI b)=false/\z)) (by
 conv=>zeta
 unfold Bd Br gD iN lN mM nI bd;rintro l id Q ⟨u,n⟩;have q:∀y,x7 l id=y->Q ⟨0,(y,())⟩:=λy e=>by rw[<-e];exact n
 clear n;refine⟨⟨rfl,rfl,0,rfl,aq _,by simp⟩,?_⟩;rintro f i g ⟨rfl,rfl,k,rfl,r,o⟩;rw[show((k:Int).toNat)=k by omega]
 have fin:(k=f.length\/Fb (f.getD k (0,0,())) g=false)->(0<=(0:Int)/\0<=(k:Int)/\(k:Int)<=f.length)/\(0+(f.take k).length)*16<=140737488355328/\((f.take k).length+1)*16<=140737488355328/\(0<=(k:Int)/\(k:Int)<=f.length/\(f.length:Int)<=f.length)/\((f.take k++[g]).length+(f.drop k).length)*16<=140737488355328/\Q ⟨0,(f.take k++[g]++f.drop k,())⟩:=by
  intro h;obtain⟨s,t⟩:=AE (p:=(Fb · g)) (0,0,()) r o h;refine⟨⟨bY _,by omega,by omega⟩,?_,?_,⟨by omega,by omega,bY _⟩,?_,q _ ?_⟩
  ·simp;omega
  ·simp;omega
  ·simp;omega
  ·unfold x7;rw[s,t]
 refine⟨λa=>?_,λb=>⟨b,b,b,b,b,b,fin (.inl ?_)⟩⟩
 ·have m:k<f.length:=by simp only[ai]at a;omega
  refine⟨a,a,⟨by omega,by omega⟩,a,a,a,trivial,a,λc=>⟨by unfold ac;omega,⟨rfl,rfl,k+1,rfl,m,?_⟩,by omega⟩,λc=>fin (.inr c)⟩;rw[cQ (z:=((0,0,()):ID)) m];intro x j;rcases bb.1 j with j|j
  ·exact o x j
  ·simp at j;subst j;exact c
 ·simp only[aj]at b;omega)
def mc(n:gx)(id:ID):Bool:= !(id.1==0&&id.2.1==0)&&(aO cq id n).isSome
def Sf:Ct:=⟨2,⟨[sP 0,(1,true,[.d cq])],J3 0⟩,[⟨[sL 0],J3 0⟩],λ(id,g,n,_)=>one True (mc n id,g,n,())⟩
def Nu:bw:=(183,[Sf])::Nt
theorem Fc:KK Nu:=kA Yz (cE Sf 0) (∀(a:Fk)(c:Int)(b:List (Fk×lO.den))Q,let z:=a.1==0&&a.2.1==0;bd Sf (a,c,b,()) Q->Br z (Q ⟨0,false,c,b,()⟩) (Q ⟨0,(aO cq a b).isSome,c,b,()⟩)) (by
 conv=>zeta
 unfold Br bd;rintro id g n Q ⟨_,b⟩;have a:∀y,mc n id=y->Q ⟨0,(y,g,n,())⟩:=λy e=>by rw[<-e];exact b
 exact⟨λh=>a _ (by unfold mc;rw[h];rfl),λh=>a _ (by unfold mc;rw[h];rfl)⟩)
def Cz:Ct:=⟨1,⟨[sP 0],J3 0⟩,[⟨[sI 0],J3 0⟩],λ(g,n,_)=>one (n.length<=1000000/\0<=g/\g<=1000000) (n.length-1-g,g,n,())⟩
abbrev Sg(v:Int×Int×List (Fk×lO.den)×Unit):cw Cz.out:=⟨0,v⟩
theorem Fe:bS Tryz.prog 174 Cz:=kC Fc (cE Cz 0) (∀(a:Int)(b:List (Fk×lO.den))(Q:cw Cz.out->Prop),let z:=Sg (nI b-1-a,a,b,());(Tr.need (b.length<=1000000/\0<=a/\a<=1000000) (Tr.leaf z)).sat Q->ac (nI b-1)/\ac (nI b-1-a)/\Q z) (by
 conv=>zeta
 unfold nI;rintro g n Q ⟨⟨b,c,e⟩,a⟩;exact⟨by unfold ac;omega,by unfold ac;omega,a⟩)
def Nv:bw:=(174,[Cz])::Nu
theorem YA:KK Nv:=⟨aQ.add Fc.1 (by kernel_rfl) (bo (Fe)),bg.add Fc.2 (bo (λ_=>bJ))⟩
def me(n:gx)(g:Int)(id:ID):Int×Int×gx:=
 if mc n id=false then(13,g,n)
 else
  let x:=(aO cq id n).getD jT
  if x.2.2.2.1=true then(12,g,n)else(0,g+1,dD cq id (x.1,x.2.1,x.2.2.1,true,x.2.2.2.2) n)
def J6:Ct:=⟨2,⟨[sP 0,(1,true,[.d cq])],J3 0⟩,[⟨[sI 0],J3 0⟩],λ(id,g,n,_)=>dy (0<=g/\g<=1000000) (me n g id) λy=>(y.1,y.2.1,y.2.2,())⟩
abbrev Sh(v:Int×Int×List (Fk×lO.den)×Unit):cw J6.out:=⟨0,v⟩
def Nx:bw:=(169,[J6])::Nv
theorem YB:KK Nx:=kA YA (cE J6 0) (∀(b:Fk)(c:Int)(a:List (Fk×lO.den))(Q:cw J6.out->Prop),let z:=(aO cq b a).getD (0,0,0,false,[[],[]],());(Tr.need (0<=c/\c<=1000000) (Tr.all (Int×Int×gx) (λy=>y=me a c b) λy=>Tr.leaf (Sh (y.1,y.2.1,y.2.2,())))).sat Q->True/\Br (!mc a b) (Q ⟨0,13,c,a,()⟩) (Br (z.2.2.2.1) (Q ⟨0,12,c,a,()⟩) (ac (c+1)/\Q ⟨0,0,c+1,dD cq b (z.1,z.2.1,z.2.2.1,true,z.2.2.2.2) a,()⟩))) (by
 conv=>zeta
 unfold Br;rintro id g n Q ⟨⟨i,j⟩,f⟩;have a:∀y,me n g id=y->Q ⟨0,(y.1,y.2.1,y.2.2,())⟩:=λy e=>f y e.symm;clear f;unfold me at a;refine⟨trivial,λc=>a (13,g,n) (am (by simpa using c)),λc=>?_⟩;rw[af (by rw[aK]at c;rw[c];decide)]at a;refine⟨λb=>a (12,g,n) (am b),λb=>⟨by unfold ac;omega,a (0,_,_) (af (λh=>?_))⟩⟩;have h:((aO cq id n).getD jT).2.2.2.1=true:=h;rw[show((aO cq id n).getD jT).2.2.2.1=false from b]at h;cases h) (l:=λ_=>bp)
def Dr(r:Bool):Nat:=if r then 1 else 0
def mX(n:gx)(i:gi):Int×gx:=
 if rJ i=false\/(i.2.2.1=0/\i.2.2.2.1=0/\i.2.2.2.2.1=false)then(1,n)
 else if mc n (i.1,i.2.1,())=true then(12,n)
 else if(aO cq (i.2.2.1,i.2.2.2.1,()) n).isSome=false then(13,n)
 else if 4096<n.length then(14,n)
 else
  let a:=(aO cq (i.2.2.1,i.2.2.2.1,()) n).getD jT
  (0,dD cq (i.1,i.2.1,()) (i.1,i.2.1,i.2.2.2.2.2.1,false,[[],[]],()) (dD cq (i.2.2.1,i.2.2.2.1,()) (a.1,a.2.1,a.2.2.1,a.2.2.2.1,a.2.2.2.2.1.set (Dr i.2.2.2.2.1) (x7 (a.2.2.2.2.1.getD (Dr i.2.2.2.2.1) []) (i.1,i.2.1,())),()) n))
theorem tW{kt:Ty}{β:Type}{k:kt.den}{v:β}:∀{l:List (kt.den×β)},cz k l=some v->∃a,(a,v)∈l
 |[],h=>by simp[cz]at h
 |p::l,h=>by
  simp only[cz]at h;split at h
  ·simp at h;exact⟨p.1,by rw[<-h];simp⟩
  ·obtain⟨a,b⟩:=tW h;exact⟨a,aA _ b⟩
def Si(n:gx):Prop:=n.length<=1000000/\∀p∈n,∀l∈p.2.2.2.2.2.1,l.length<=1000000
def Sj:Ct:=⟨2,⟨[sP 0,(1,true,[.d oM])],J3 0⟩,[⟨[sI 0],J3 0⟩],λ(i,g,n,_)=>dy (Si n) (mX n i) λy=>(y.1,g,y.2,())⟩
def Ny:bw:=(171,[Sj])::Nx
theorem YC:KK Ny:=kA YB (cE Sj 0) (∀(a:gi)(c:Int)(b:List (Fk×lO.den))Q,let l:=a.2.2.1==0&&a.2.2.2.1==0;let f:=(a.1,a.2.1,());let g:=(a.2.2.1,a.2.2.2.1,());let j:=aO cq g b;let e:=j.getD (0,0,0,false,[[],[]],());let h:=bB e.2.2.2.2.1 ((4-1-1-1-1)/1) [];let i:=bB e.2.2.2.2.1 ((5-1-1-1-1)/1) [];let z:=True/\Br (mc b f) (Q ⟨0,12,c,b,()⟩) (Br (!j.isSome) (Q ⟨0,13,c,b,()⟩) (Bd (4096<nI b) (Q ⟨0,14,c,b,()⟩) (Br (a.2.2.2.2.1) (Br (a.2.2.2.2.1) (i.length<=1000000/\Q ⟨0,0,c,dD cq f (a.1,a.2.1,a.2.2.2.2.2.1,false,[[],[]],()) (dD cq g (e.1,e.2.1,e.2.2.1,e.2.2.2.1,List.set e.2.2.2.2.1 ((5-1-1-1-1)/1) (x7 i f),()) b),()⟩) (h.length<=1000000/\Q ⟨0,0,c,dD cq f (a.1,a.2.1,a.2.2.2.2.2.1,false,[[],[]],()) (dD cq g (e.1,e.2.1,e.2.2.1,e.2.2.2.1,List.set e.2.2.2.2.1 ((5-1-1-1-1)/1) (x7 h f),()) b),()⟩)) (Br (a.2.2.2.2.1) (i.length<=1000000/\Q ⟨0,0,c,dD cq f (a.1,a.2.1,a.2.2.2.2.2.1,false,[[],[]],()) (dD cq g (e.1,e.2.1,e.2.2.1,e.2.2.2.1,List.set e.2.2.2.2.1 ((4-1-1-1-1)/1) (x7 i f),()) b),()⟩) (h.length<=1000000/\Q ⟨0,0,c,dD cq f (a.1,a.2.1,a.2.2.2.2.2.1,false,[[],[]],()) (dD cq g (e.1,e.2.1,e.2.2.1,e.2.2.2.1,List.set e.2.2.2.2.1 ((4-1-1-1-1)/1) (x7 h f),()) b),()⟩)))));bd Sj (a,c,b,()) Q->True/\Br (!rJ a) (Q ⟨0,1,c,b,()⟩) (Br l (Br (!a.2.2.2.2.1) (Q ⟨0,1,c,b,()⟩) z) z)) (by
 conv=>zeta
 unfold Bd Br nI bd;rintro⟨a,c,f,i,r,x,⟨⟩⟩ g n Q ⟨h,A⟩;have b:∀y,mX n (a,c,f,i,r,x,())=y->Q ⟨0,(y.1,g,y.2,())⟩:=λy e=>A y e.symm;clear A;unfold mX at b;dsimp only at b⊢;have bad:(rJ (a,c,f,i,r,x,())=false\/(f=0/\i=0/\r=false))->Q ⟨0,(1,g,n,())⟩:=λh=>b (1,n) (am h);refine⟨trivial,λu=>bad (.inl (by simpa using u)),λu=>⟨λo=>⟨λp=>bad (.inr ?_),λp=>?_⟩,λo=>?_⟩⟩
 ·simp only[aI,aR,aP]at o p;exact⟨o.1,o.2,p⟩
 all_goals
  have no:¬(rJ (a,c,f,i,r,x,())=false\/(f=0/\i=0/\r=false)):=by
   rintro(h|⟨D,E,F⟩)
   ·rw[h]at u;cases u
   ·first
     |(rw[F]at p;cases p)
     |(rw[D,E]at o;cases o)
  rw[af no]at b;refine⟨trivial,λw=>b (12,n) (am w),λw=>?_⟩;rw[af (by rw[w];decide)]at b;refine⟨λm=>b (13,n) (am (by simpa using m)),λm=>?_⟩;have m:(aO cq (f,i,()) n).isSome=true:=by simpa using m
  rw[af (by rw[m];decide)]at b;refine⟨λz=>b (14,n) (am (by have:=ag z;omega)),λz=>?_⟩;rw[af (by have:=an z;omega)]at b
  have B:∀j,(((aO cq (f,i,()) n).getD jT).2.2.2.2.1.getD j []).length<=1000000:=by
   intro j;rw[cJ]at m;obtain⟨v,C⟩:=m;rw[C,di];obtain⟨H,G⟩:=tW C;rcases bI j v.2.2.2.2.1.length with q|q
   ·exact h.2 _ G _ (aS q)
   ·rw[aw,bD q];exact aq _
  refine⟨λs=>⟨λ_=>?_,(λt=>by rw[s]at t;cases t)⟩,λs=>⟨(λt=>by rw[s]at t;cases t),λ_=>?_⟩⟩
  ·subst s;exact⟨B 1,b (0,_) rfl⟩
  ·subst s;exact⟨B 0,b (0,_) rfl⟩) (l:=λ_=>bp)
def jt(x:Nd):List ID:=x.2.2.2.2.1.getD 0 []++x.2.2.2.2.1.getD 1 []
def ii(n:gx):List ID:=n.map (·.1)
theorem Nz{a b:ID}:iJ cq a b=true↔a=b:=dZ (t:=cq)
theorem lq{β:Type}{k:ID}{v:β}:∀{l:List (ID×β)},((cD (kt:=cq) k v l).map (·.1)=l.map (·.1)/\k∈l.map (·.1))\/((cD (kt:=cq) k v l).map (·.1)=l.map (·.1)++[k]/\k∉l.map (·.1))
 |[]=> .inr ⟨rfl,by simp⟩
 |p::l=>by
  simp only[cD];by_cases e:iJ cq k p.1=true
  ·rw[am e];exact .inl ⟨rfl,by rw[Nz.1 e];simp⟩
  ·rw[af e];have c:p.1≠k:=λh=>e (Nz.2 h.symm);rcases lq (k:=k) (v:=v) (l:=l)with⟨a,b⟩|⟨a,b⟩
   ·exact .inl ⟨by rw[aY,aY,a],by simp only[aY,bt];exact .inr b⟩
   ·exact .inr ⟨by rw[aY,aY,a];rfl,by simp only[aY,bt,not_or];exact⟨λh=>c h.symm,b⟩⟩
theorem qc{β:Type}{k:ID}{v:β}{q:ID×β}:∀{l:List (ID×β)},(l.map (·.1)).Nodup->q∈cD (kt:=cq) k v l->q=(k,v)\/(q∈l/\q.1≠k)
 |[],_,h=>by simp[cD]at h;exact .inl h
 |p::l,a,h=>by
  simp only[aY,mn]at a;simp only[cD]at h;by_cases e:iJ cq k p.1=true
  ·rw[am e]at h;have e:=Nz.1 e;rcases bt.1 h with h|h
   ·exact .inl (by rw[h,e])
   ·exact .inr ⟨aA _ h,λg=>a.1 (by rw[<-e,<-g];exact fB h)⟩
  ·rw[af e]at h;rcases bt.1 h with h|h
   ·exact .inr ⟨by rw[h];simp,λg=>e (Nz.2 (by rw[<-h];exact g.symm))⟩
   ·rcases qc a.2 h with g|g
    ·exact .inl g
    ·exact .inr ⟨aA _ g.1,g.2⟩
theorem ju{β:Type}{k:ID}{v:β}:∀{l:List (ID×β)},cz (kt:=cq) k l=some v->(k,v)∈l
 |[],h=>by simp[cz]at h
 |p::l,h=>by
  simp only[cz]at h;split at h
  ·rename_i e;have e:=Nz.1 e;simp at h;rw[<-h,e];simp
  ·exact aA _ (ju h)
theorem oN{β:Type}{k:ID}:∀{l:List (ID×β)},cz (kt:=cq) k l=none->k∉l.map (·.1)
 |[],_=>by simp
 |p::l,h=>by
  simp only[cz]at h;split at h
  ·simp at h
  ·rename_i e;simp only[aY,bt,not_or];exact⟨λg=>e (Nz.2 g),oN h⟩
structure vO(n:gx)(A:ID->List ID):Prop where
 nd:(ii n).Nodup
 two:∀p∈n,p.2.2.2.2.2.1.length=2
 key:∀p∈n,∀c∈jt p.2,c∈ii n
 own:∀k∈ii n,k∈A k
 up:∀p∈n,∀c∈jt p.2,A c=c::A p.1
 inn:∀k∈ii n,∀c∈A k,c∈ii n
 suf:∀k∈ii n,∀c∈A k,A c<:+A k
 dis:∀p∈n,(jt p.2).Nodup
 rt:sf∈ii n
def rK(n:gx):Prop:=∃A,vO n A
def Sk(n:gx)(A:ID->List ID)(y:ID):Nat:=(ii n).countP λk=>decide (y∈A k)
def wt(n:gx)(A:ID->List ID)(y:ID):Nat:=3*Sk n A y
theorem rL{α β:Type}(R:α->β->Bool):∀(l:List α)(m:List β),(l.map λa=>m.countP λb=>R a b).sum=(m.map λb=>l.countP λa=>R a b).sum
 |[],m=>by
  rw[List.map_nil,List.sum_nil]
  induction m with
  |nil=>rfl
  |cons b m c=>simp only[aY,dg,List.countP_nil]at*;omega
 |a::l,m=>by
  rw[aY,dg,rL R l m];clear rL
  induction m with
  |nil=>simp
  |cons b m c=>
   simp only[aY,dg,List.countP_cons]at c⊢;omega
theorem Ff{α:Type}{f g:α->Nat}:∀{l:List α},(∀a∈l,f a<=g a)->(l.map f).sum<=(l.map g).sum
 |[],_=>by simp
 |a::l,h=>by
  have e:=h a (by simp);have i:=Ff (l:=l) (λb c=>h b (by simp[c]));simp only[aY,dg];omega
theorem AF{α:Type}{p:α->Bool}:∀{l:List α},l.Nodup->(∀a∈l,∀b∈l,p a=true->p b=true->a=b)->l.countP p<=1
 |[],_,_=>by simp
 |a::l,c,h=>by
  rw[mn]at c;have m:=AF (l:=l) (p:=p) c.2 (λx i y j=>h x (by simp[i]) y (by simp[j]));rw[List.countP_cons];by_cases e:p a=true
  ·have:l.countP p=0:=List.countP_eq_zero.2 λb g f=>c.1 (by rw[h a (by simp) b (by simp[g]) e f];exact g);rw[this,am e];omega
  ·rw[af e];omega
theorem Sl{α:Type}{a b l:List α}(c:a<:+l)(f:b<:+l)(h:a.length=b.length):a=b:=by
 obtain⟨s,rfl⟩:=c;obtain⟨t,e⟩:=f;have:=aH ah e;rw[aa,aa]at this;exact((List.append_inj' e h.symm).2).symm
theorem vO.light{n:gx}{A:ID->List ID}(h:vO n A){p:ID×Nd}(m:p∈n):3+((jt p.2).map (wt n A)).sum<=wt n A p.1:=by
 have j:p.1∈ii n:=fB m
 have key:∀k∈ii n,(jt p.2).countP (λc=>decide (c∈A k))+(if k=p.1 then 1 else 0)<=(if p.1∈A k then 1 else 0):=by
  intro k i
  have one:(jt p.2).countP (λc=>decide (c∈A k))<=1:=by
   refine AF (h.dis p m) λa u b v w x=>?_;have l:=h.suf k i a (ag w);have s:=h.suf k i b (ag x);rw[h.up p m a u]at l;rw[h.up p m b v]at s;have:=Sl l s (by simp);exact(List.cons.inj this).1
  have o:(∃c∈jt p.2,c∈A k)->p.1∈A k/\k≠p.1:=by
   rintro⟨c,q,r⟩;have l:=h.suf k i c r;rw[h.up p m c q]at l;refine⟨l.subset (by simp[h.own _ j]),λe=>?_⟩;subst e;have:=l.length_le;simp at this;omega
  by_cases t:(jt p.2).countP (λc=>decide (c∈A k))=0
  ·rw[t];by_cases e:k=p.1
   ·rw[am e,am (by rw[e];exact h.own _ j)];omega
   ·rw[af e];omega
  ·have:∃c∈jt p.2,c∈A k:=by
    have:=List.countP_pos_iff.1 (Nat.pos_of_ne_zero t);obtain⟨c,q,y⟩:=this;exact⟨c,q,ag y⟩
   obtain⟨z,B⟩:=o this;rw[am z,af B];omega
 have E:=rL (λ(c:ID)(k:ID)=>decide (c∈A k)) (jt p.2) (ii n);have F:=Ff key
 have G:((ii n).map λk=>if p.1∈A k then 1 else 0).sum=Sk n A p.1:=by
  unfold Sk;generalize ii n=K
  induction K with
  |nil=>rfl
  |cons k K f=>rw[aY,dg,f,List.countP_cons];by_cases e:p.1∈A k<;>simp[e]<;>omega
 have H:((ii n).map λk=>(jt p.2).countP (λc=>decide (c∈A k))+(if k=p.1 then 1 else 0)).sum=((ii n).map λk=>(jt p.2).countP (λc=>decide (c∈A k))).sum+((ii n).map λk=>if k=p.1 then 1 else 0).sum:=by
  generalize ii n=K
  induction K with
  |nil=>rfl
  |cons k K f=>simp only[aY,dg]at f⊢;omega
 have J:1<=((ii n).map λk=>if k=p.1 then 1 else 0).sum:=by
  revert j;generalize ii n=K;intro j
  induction K with
  |nil=>simp at j
  |cons k K f=>
   simp only[aY,dg];by_cases e:k=p.1
   ·rw[am e];omega
   ·have:=f (by rcases bt.1 j with g|g
                ·exact absurd g.symm e
                ·exact g)
    omega
 have D:((jt p.2).map (wt n A)).sum=3*((jt p.2).map λc=>Sk n A c).sum:=by
  generalize jt p.2=C
  induction C with
  |nil=>rfl
  |cons c C f=>simp only[aY,dg]at f⊢;rw[f];unfold wt;omega
 rw[D];show 3+3*((jt p.2).map λc=>(ii n).countP λk=>decide (c∈A k)).sum<=3*Sk n A p.1;omega
theorem vO.ge3{n:gx}{A:ID->List ID}(h:vO n A){k:ID}(a:k∈ii n):3<=wt n A k:=by
 have:0<Sk n A k:=List.countP_pos_iff.2 ⟨k,a,decide_eq_true (h.own k a)⟩;unfold wt;omega
theorem vO.le{n:gx}{A:ID->List ID}(y:ID):wt n A y<=3*n.length:=by
 have:Sk n A y<=(ii n).length:=List.countP_le_length;unfold wt;unfold ii at this;rw[bT]at this;omega
theorem Fg:rK [(sf,jT)]:=by
 refine⟨λk=>[k],⟨by simp[ii],λp a=>?_,λp a c b=>?_,λk _=>by simp,λp a c b=>?_,λk e c b=>?_,λk _ c b=>?_,λp a=>?_,by simp[ii]⟩⟩
 ·simp at a;subst a;rfl
 ·simp at a;subst a;simp[jt,jT]at b
 ·simp at a;subst a;simp[jt,jT]at b
 ·simp at b;rw[b];exact e
 ·simp at b;rw[b];exact List.suffix_refl _
 ·simp at a;subst a;simp[jt,jT]
theorem xl(l:List ID)(x:ID):(x7 l x).Perm (x::l):=by
 unfold x7;have h:l.takeWhile (Fb · x)++l.dropWhile (Fb · x)=l:=List.takeWhile_append_dropWhile
 conv=>rhs;rw[<-h]
 rw[ay];exact List.perm_middle
theorem J7{a:Nd}(e:a.2.2.2.2.1.length=2)(r:Bool)(x:ID)(g:Bool):(jt (a.1,a.2.1,a.2.2.1,g,a.2.2.2.2.1.set (Dr r) (x7 (a.2.2.2.2.1.getD (Dr r) []) x),())).Perm (x::jt a)/\(a.2.2.2.2.1.set (Dr r) (x7 (a.2.2.2.2.1.getD (Dr r) []) x)).length=2:=by
 obtain⟨h,i,j,l,f,⟨⟩⟩:=a;dsimp only at*
 match f,e with
 |[b,c],_=>
  cases r
  ·exact⟨(xl b x).append_right c,rfl⟩
  ·refine⟨?_,rfl⟩;show(b++x7 c x).Perm (x::(b++c));exact((xl c x).append_left b).trans List.perm_middle
theorem vO.upd{n:gx}{A:ID->List ID}(h:vO n A){k:ID}{v s:Nd}(h0:cz (kt:=cq) k n=some s)(u:v.2.2.2.2.1=s.2.2.2.2.1):vO (cD (kt:=cq) k v n) A:=by
 have t:=ju h0;have a:k∈ii n:=fB t
 have j:ii (cD (kt:=cq) k v n)=ii n:=by
  rcases lq (k:=k) (v:=v) (l:=n)with⟨e,_⟩|⟨_,e⟩
  ·exact e
  ·exact absurd a e
 have b:∀p∈cD (kt:=cq) k v n,∃q∈n,q.1=p.1/\q.2.2.2.2.2.1=p.2.2.2.2.2.1:=by
  intro p f;rcases qc h.nd f with e|e
  ·exact⟨_,t,by rw[e],by rw[e];exact u.symm⟩
  ·exact⟨p,e.1,rfl,rfl⟩
 have r:∀{p q:ID×Nd},q.2.2.2.2.2.1=p.2.2.2.2.2.1->jt q.2=jt p.2:=λe=>by unfold jt;rw[e]
 refine⟨by rw[j];exact h.nd,λp f=>?_,λp f c m=>?_,λk a=>?_,λp f c m=>?_,λk a c m=>?_,λk a=>?_,λp f=>?_,by rw[j];exact h.rt⟩
 ·obtain⟨q,g,o,i⟩:=b p f;rw[<-i];exact h.two q g
 ·obtain⟨q,g,o,i⟩:=b p f;rw[j];exact h.key q g c (by rw[r i];exact m)
 ·rw[j]at a;exact h.own k a
 ·obtain⟨q,g,o,i⟩:=b p f;rw[<-o];exact h.up q g c (by rw[r i];exact m)
 ·rw[j]at a⊢;exact h.inn k a c m
 ·rw[j]at a;exact h.suf k a
 ·obtain⟨q,g,o,i⟩:=b p f;rw[<-r i];exact h.dis q g
theorem CA{n:gx}{g:Int}{id:ID}(h:rK n):rK (me n g id).2.2:=by
 obtain⟨A,h⟩:=h;unfold me;split
 ·exact⟨A,h⟩
 rename_i c;dsimp only;split
 ·exact⟨A,h⟩
 ·have c:mc n id=true:=by simpa using c
  unfold mc at c;rw[aI,cJ]at c;obtain⟨b,a⟩:=c.2;rw[a];exact⟨A,h.upd a rfl⟩
theorem J8{n:gx}{g:Int}{id:ID}:(me n g id).2.2.length=n.length:=by
 unfold me;split
 ·rfl
 rename_i c;dsimp only;split
 ·rfl
 ·have c:mc n id=true:=by simpa using c
  unfold mc at c;rw[aI,cJ]at c;obtain⟨h,a⟩:=c.2;have b:id∈n.map (·.1):=fB (f:=(·.1)) (ju a);rcases lq (k:=id) (v:=(((aO cq id n).getD jT).1,((aO cq id n).getD jT).2.1,((aO cq id n).getD jT).2.2.1,true,((aO cq id n).getD jT).2.2.2.2)) (l:=n)with⟨e,_⟩|⟨_,e⟩
  ·have:=aH ah e;simpa using this
  ·exact absurd b e
theorem Fh{n:gx}{i:gi}(h:rK n):rK (mX n i).2/\(mX n i).2.length<=n.length+1/\((mX n i).1=0->n.length<=4096)/\((mX n i).1≠0->(mX n i).2=n):=by
 obtain⟨A,h⟩:=h;have O:∀k:Int,k≠0->rK n/\n.length<=n.length+1/\(k=0->n.length<=4096)/\(k≠0->n=n):=λk f=>⟨⟨A,h⟩,Nat.le_succ _,λe=>absurd e f,λ_=>rfl⟩;unfold mX;split
 ·exact O 1 (by decide)
 rename_i S;split
 ·exact O 12 (by decide)
 rename_i U;split
 ·exact O 13 (by decide)
 rename_i K;split
 ·exact O 14 (by decide)
 rename_i Y;dsimp only;have K:(aO cq (i.2.2.1,i.2.2.2.1,()) n).isSome=true:=by rw[bW]at K;exact K
 rw[cJ]at K;obtain⟨w,z⟩:=K;have z:cz (kt:=cq) (i.2.2.1,i.2.2.2.1,()) n=some w:=z;have ed:(aO cq (i.2.2.1,i.2.2.2.1,()) n).getD jT=w:=by rw[show aO cq (i.2.2.1,i.2.2.2.1,()) n=some w from z];rfl
 rw[ed]
 have B:rJ i=true:=by
  rw[not_or]at S;simpa using S.1
 have L:1<=i.2.1:=by
  unfold rJ hH at B;rw[aI]at B;exact(ag B.1).2.2.1
 have o:(i.1,i.2.1,())∉ii n:=by
  refine oN (β:=Nd) ?_;unfold mc at U;cases s:aO cq (i.1,i.2.1,()) n with
  |none=>exact s
  |some v=>
   exfalso;apply U;rw[s];have:(i.2.1==0)=false:=az.2 (λ(e:@Eq Int i.2.1 0)=>by rw[e]at L;exact absurd L (by decide));show(!(i.1==0&&i.2.1==0)&&true)=true;rw[this];simp
 generalize hx:((i.1,i.2.1,()):ID)=x at*;generalize hp:((i.2.2.1,i.2.2.2.1,()):ID)=p at*;have C:=ju z;have t:p∈ii n:=fB C;have P:p≠x:=λe=>o (by rw[<-e];exact t);obtain⟨r,u⟩:=J7 (h.two _ C) i.2.2.2.2.1 x w.2.2.2.1;generalize M:((w.1,w.2.1,w.2.2.1,w.2.2.2.1,w.2.2.2.2.1.set (Dr i.2.2.2.2.1) (x7 (w.2.2.2.2.1.getD (Dr i.2.2.2.2.1) []) x),()):Nd)=j at*;have u:j.2.2.2.2.1.length=2:=by rw[<-M];exact u
 have D:ii (cD (kt:=cq) p j n)=ii n:=by
  rcases lq (k:=p) (v:=j) (l:=n)with⟨e,_⟩|⟨_,e⟩
  ·exact e
  ·exact absurd t e
 generalize N:((i.1,i.2.1,i.2.2.2.2.2.1,false,[[],[]],()):Nd)=E at*;have F:jt E=[]:=by rw[<-N];rfl
 have Q:E.2.2.2.2.1.length=2:=by rw[<-N];rfl
 have G:ii (cD (kt:=cq) x E (cD (kt:=cq) p j n))=ii n++[x]:=by
  rcases lq (k:=x) (v:=E) (l:=cD (kt:=cq) p j n)with⟨_,e⟩|⟨e,_⟩
  ·have e:x∈ii (cD (kt:=cq) p j n):=e;rw[D]at e;exact absurd e o
  ·have e:ii (cD (kt:=cq) x E (cD (kt:=cq) p j n))=ii (cD (kt:=cq) p j n)++[x]:=e;rw[e,D]
 have nd1:(ii (cD (kt:=cq) p j n)).Nodup:=by rw[D];exact h.nd
 have mem:∀q∈cD (kt:=cq) x E (cD (kt:=cq) p j n),q=(x,E)\/q=(p,j)\/(q∈n/\q.1≠p/\q.1≠x):=by
  intro q s;rcases qc nd1 s with e|⟨e,W⟩
  ·exact .inl e
  ·rcases qc h.nd e with e|e
   ·exact .inr (.inl e)
   ·exact .inr (.inr ⟨e.1,e.2,W⟩)
 have H:∀q∈n,x∉jt q.2:=λq s m=>o (h.key q s x m);refine⟨⟨λy=>if y=x then x::A p else A y,?_⟩,?_,λ_=>Nat.le_of_not_lt Y,λe=>absurd rfl e⟩
 ·refine⟨?_,λq s=>?_,λq s c m=>?_,λk f=>?_,λq s c m=>?_,λk f c m=>?_,λk f c m=>?_,λq s=>?_,?_⟩
  ·rw[G,List.nodup_append];exact⟨h.nd,by simp,λa ha b X e=>by simp at X;exact o (by rw[<-X,<-e];exact ha)⟩
  ·rcases mem q s with rfl|rfl|⟨e,_⟩
   ·exact Q
   ·exact u
   ·exact h.two q e
  ·rw[G];rcases mem q s with rfl|rfl|⟨e,_⟩
   ·rw[F]at m;cases m
   ·have:=r.mem_iff.1 m;rcases bt.1 this with e|e
    ·rw[e];simp
    ·exact cL _ (h.key _ C c e)
   ·exact cL _ (h.key q e c m)
  ·rw[G]at f;rcases bb.1 f with f|f
   ·have:k≠x:=λe=>o (by rw[<-e];exact f);rw[af this];exact h.own k f
   ·simp at f;subst f;rw[am rfl];simp
  ·rcases mem q s with rfl|rfl|⟨e,W,e3⟩
   ·rw[F]at m;cases m
   ·dsimp only;rw[af P];have:=r.mem_iff.1 m;rcases bt.1 this with e|e
    ·rw[e,am rfl]
    ·have:c≠x:=λg=>H _ C (by rw[<-g];exact e);rw[af this];exact h.up _ C c e
   ·have:c≠x:=λg=>H q e (by rw[<-g];exact m);rw[af this,af e3];exact h.up q e c m
  ·rw[G]at f⊢;rcases bb.1 f with f|f
   ·have:k≠x:=λe=>o (by rw[<-e];exact f);rw[af this]at m;exact cL _ (h.inn k f c m)
   ·simp at f;subst f;rw[am rfl]at m;rcases bt.1 m with e|e
    ·rw[e];simp
    ·exact cL _ (h.inn p t c e)
  ·rw[G]at f;rcases bb.1 f with f|f
   ·have R:k≠x:=λe=>o (by rw[<-e];exact f);rw[af R]at m⊢;have J:c≠x:=λe=>o (by rw[<-e];exact h.inn k f c m);rw[af J];exact h.suf k f c m
   ·simp at f;subst f;rw[am rfl]at m⊢;rcases bt.1 m with e|e
    ·rw[e,am rfl];exact List.suffix_refl _
    ·have J:c≠k:=λg=>o (by rw[<-g];exact h.inn p t c e);rw[af J];exact(h.suf p t c e).trans (List.suffix_cons k (A p))
  ·rcases mem q s with rfl|rfl|⟨e,_⟩
   ·rw[F];exact List.nodup_nil
   ·exact r.nodup_iff.2 (mn.2 ⟨H _ C,h.dis _ C⟩)
   ·exact h.dis q e
  ·rw[G];exact cL _ h.rt
 ·have:=aH ah G;unfold ii at this;rw[aa,bT,bT]at this;simp only[bh]at this;exact Nat.le_of_eq this
abbrev tSp:Ty:= .pr .i64 (.pr .i64 (.pr .i64 (.pr .i64 .un)))
abbrev Sp:=tSp.den
abbrev Trz:=Vl.den
def Vn(i:Nat):Nat×Bool×List IP:=(i,false,[.d (.pf Vl)])
def pK(t:Trz):Prop:=rK t.1/\t.1.length<=100000/\0<=t.2.1/\t.2.1<=100000
def Fi:Ct:=⟨1,⟨[Vn 0],[]⟩,[⟨[(0,false,[.fn 139 [] [(0,0)]])],[some (.cells [.d (.pf Vl)])]⟩],λ(t,_)=>one True (t,())⟩
def Fj:bw:=(95,[Fi])::Ny
theorem y7:KK Fj:=kA YC (cE Fi 0) (∀(a:List (Fk×lO.den)×Int×Unit)Q,bd Fi (a,()) Q->Q ⟨0,a,()⟩) (by
 unfold bd;intro t Q ⟨_,a⟩;exact a)
def J9:Ct:=⟨1,⟨[Vn 0],[]⟩,[⟨[sI 0],[]⟩],λ(t,_)=>one (pK t) (t.1.length-1-t.2.1,())⟩
theorem Sm:bS Tryz.prog 174 J9:=kC y7 (cE J9 0) (∀(a:List (Fk×lO.den)×Int×Unit)Q,bd J9 (a,()) Q->ac (nI a.1-1)/\ac (nI a.1-1-a.2.1)/\Q ⟨0,nI a.1-1-a.2.1,()⟩) (by
 unfold nI bd;intro t Q ⟨⟨e,f,a,b⟩,c⟩;have a:@bc Int _ 0 t.2.1:=a;have b:@bc Int _ t.2.1 100000:=b;exact⟨by unfold ac;omega,by unfold ac;omega,c⟩)
def NA:bw:=(174,[J9,Cz])::Fj
theorem YD:KK NA:=⟨aQ.add y7.1 (by kernel_rfl) (fQ (Sm) (bo (Fe))),bg.add y7.2 (fQ (λ_=>bJ) (bo (λ_=>bJ)))⟩
def Ka(n:gx)(s:Sp):Nd:=(aO cq (s.1,s.2.1,()) n).getD jT
def od(n:gx)(s:Sp)(j:Nat):List ID:=(Ka n s).2.2.2.2.1.getD j []
def sM(s:Sp):Int:=s.2.2.1
def nk(s:Sp):Int:=s.2.2.2.1
def kF(k:ID)(j a:Int):Sp:=(k.1,k.2.1,j,a,())
def si(s:Sp):ID:=(s.1,s.2.1,())
def xm(n:gx)(A:ID->List ID)(s:Sp):Nat:=if sM s=0 then(((od n s 0).drop (nk s).toNat).map (wt n A)).sum+((od n s 1).map (wt n A)).sum+2 else(((od n s 1).drop (nk s).toNat).map (wt n A)).sum+1
def oO(n:gx)(s:Sp):Prop:=si s∈ii n/\0<=nk s/\(sM s=0/\nk s<=(od n s 0).length\/sM s=1/\nk s<=(od n s 1).length)
def Sn(a i:Int)(N W:Nat):Prop:=0<=a/\a+W<=3*N/\0<=i/\i<=1000000000
def nS(n:gx)(A:ID->List ID)(l:List Sp):Nat:=(l.map (xm n A)).sum
def Fl:Ct:=⟨2,⟨[Vn 0,sI 1],[]⟩,[⟨[(0,true,[.d cq]),sI 1],[]⟩],λ(t,i,_)=>eD (pK t/\i<=1000000000) (λ_:ID×Int=>True) λy=>(y.1,y.2,())⟩
def YE:cg:=⟨[(0,false,[.d .yl]),(1,false,[.ptr 0 0]),(3,false,[.own 1]),sI 4,(90,false,[.ptr 2 0]),(91,false,[.ptr 3 0]),(92,false,[.ptr 4 0]),(117,false,[.d .yl]),(118,false,[.k (.i64 0)])],[some (.cells [.d (.pf Vl)]),some (.sl tSp),some (.cells [.d .i64]),some (.cells [.d cq]),some (.cells [.d .i64])]⟩
def iM(x:Fl.inp.den)(A:ID->List ID)(y:YE.den):Prop:=match x,y with
 |(a,f,_),(l,c,e,t,b,i,_,_,_)=>l=e/\t=a/\b≠[]/\(∀s∈b,oO a.1 s)/\Sn c i a.1.length (nS a.1 A b)
noncomputable def ancO (n:gx):ID->List ID:=by
 classical
 exact if h:rK n then h.choose else λ_=>[]
theorem AG{n:gx}(h:rK n):vO n (ancO n):=by
 unfold ancO;rw[dif_pos h];exact h.choose_spec
theorem qd(n:gx)(A:ID->List ID)(l:List Sp)(s:Sp):nS n A (l++[s])=nS n A l+xm n A s:=by simp[nS]
theorem y8{n:gx}{s:Sp}(h:si s∈ii n):(si s,Ka n s)∈n:=by
 unfold Ka;cases a:aO cq (s.1,s.2.1,()) n with
 |none=>exact absurd h (oN a)
 |some v=>exact ju a
theorem Kb{α:Type}{l:List α}{z:α}{a:Int}(h0:0<=a)(h:a<l.length):l.drop a.toNat=l.getD a.toNat z::l.drop (a+1).toNat:=by
 rw[cZ (z:=z) (by omega),show(a+1).toNat=a.toNat+1 by omega]
theorem AH{n:gx}{A:ID->List ID}{s:Sp}(h:sM s=0):xm n A s=(((od n s 0).drop (nk s).toNat).map (wt n A)).sum+((od n s 1).map (wt n A)).sum+2:=by unfold xm;rw[am h]
theorem Fm{n:gx}{A:ID->List ID}{s:Sp}(h:sM s=1):xm n A s=(((od n s 1).drop (nk s).toNat).map (wt n A)).sum+1:=by unfold xm;rw[af (by rw[h];decide)]
theorem oP(n:gx)(s:Sp)(j a:Int)(i:Nat):od n (kF (si s) j a) i=od n s i:=rfl
theorem xn{n:gx}{A:ID->List ID}(h:vO n A){c:ID}(f:c∈ii n):oO n (kF c 0 0)/\xm n A (kF c 0 0)+1<=wt n A c:=by
 have a:si (kF c 0 0)=c:=rfl;have g:=y8 (s:=kF c 0 0) (by rw[a];exact f);rw[a]at g;have b:3+((jt (Ka n (kF c 0 0))).map (wt n A)).sum<=wt n A c:=h.light g;refine⟨⟨by rw[a];exact f,bY _, .inl ⟨rfl,Int.natCast_nonneg _⟩⟩,?_⟩;rw[AH (s:=kF c 0 0) rfl];have e:(jt (Ka n (kF c 0 0)))=od n (kF c 0 0) 0++od n (kF c 0 0) 1:=rfl;rw[e,dn,List.sum_append]at b;have i:(od n (kF c 0 0) 0).drop (nk (kF c 0 0)).toNat=od n (kF c 0 0) 0:=rfl;rw[i];omega
theorem Kc{n:gx}{A:ID->List ID}(m:vO n A){s:Sp}(o:oO n s){j:Nat}(e:sM s=j)(b:j=0\/j=1)(r:nk s<(od n s j).length){c:ID}(p:c=(od n s j).getD (nk s).toNat (0,0,())):
 oO n (kF (si s) (sM s) (nk s+1))/\oO n (kF c 0 0)/\xm n A (kF (si s) (sM s) (nk s+1))+xm n A (kF c 0 0)+1<=xm n A s:=by
 obtain⟨q,t,o⟩:=o;have f:c∈od n s j:=by rw[p];exact aS (by omega)
 have u:=y8 q
 have g:c∈jt (Ka n s):=by
  unfold jt;rcases b with rfl|rfl
  ·exact cL _ f
  ·exact List.mem_append_right _ f
 have h:c∈ii n:=m.key _ u c g;obtain⟨v,w⟩:=xn m h
 have i:((od n s j).drop (nk s).toNat).map (wt n A)=wt n A c::((od n s j).drop (nk s+1).toNat).map (wt n A):=by
  rw[Kb (z:=((0,0,()):ID)) t r,<-p];rfl
 have i:=aH List.sum i;rw[dg]at i;have l:sM (kF (si s) (sM s) (nk s+1))=sM s:=rfl;have a:nk (kF (si s) (sM s) (nk s+1))=nk s+1:=rfl;refine⟨⟨q,by rw[a];omega,?_⟩,v,?_⟩
 ·rw[l,a,oP,oP];rcases b with rfl|rfl
  ·exact .inl ⟨e,by omega⟩
  ·exact .inr ⟨e,by omega⟩
 ·rcases b with rfl|rfl
  ·rw[AH (s:=s) e,AH (s:=kF (si s) (sM s) (nk s+1)) (l.trans e),a,oP,oP];omega
  ·rw[Fm (s:=s) e,Fm (s:=kF (si s) (sM s) (nk s+1)) (l.trans e),a,oP];omega
theorem Kd{n:gx}{A:ID->List ID}{s:Sp}(a:oO n s)(b:sM s=0):oO n (kF (si s) 1 0)/\xm n A (kF (si s) 1 0)+1<=xm n A s:=by
 obtain⟨c,f,a⟩:=a;refine⟨⟨c,bY _, .inr ⟨rfl,Int.natCast_nonneg _⟩⟩,?_⟩;rw[AH b,Fm (s:=kF (si s) 1 0) rfl,oP];have e:(od n s 1).drop (nk (kF (si s) 1 0)).toNat=od n s 1:=rfl;rw[e];omega
theorem Fo{n:gx}{A:ID->List ID}(a:vO n A){s:Sp}(f:si s∈ii n){j:Nat}(g:j=0\/j=1):(od n s j).length<=n.length:=by
 have b:=y8 f;have i:3+((jt (Ka n s)).map (wt n A)).sum<=wt n A (si s):=a.light b;have m:=vO.le (n:=n) (A:=A) (si s)
 have o:∀l:List ID,(∀c∈l,c∈ii n)->3*l.length<=(l.map (wt n A)).sum:=by
  intro l
  induction l with
  |nil=>intro _;simp
  |cons c l p=>
   intro h;have r:=a.ge3 (h c (aG ..));have t:=p λd q=>h d (aA _ q);simp only[aY,dg,ba];omega
 have u:=o (jt (Ka n s)) (a.key _ b);have e:(jt (Ka n s)).length=(od n s 0).length+(od n s 1).length:=by unfold jt;rw[aa];rfl
 rcases g with rfl|rfl<;>omega
theorem Fp{n:gx}{A:ID->List ID}(s:Sp):1<=xm n A s:=by unfold xm;split<;>omega
theorem Fq{n:gx}{A:ID->List ID}:∀l:List Sp,l.length<=nS n A l
 |[]=>aq _
 |s::l=>by
  have:=Fp (n:=n) (A:=A) s;have:=Fq (n:=n) (A:=A) l;simp only[nS,aY,dg,ba]at*;omega
theorem Kf{n:gx}{A:ID->List ID}(a:vO n A):oO n (kF sf 0 0)/\xm n A (kF sf 0 0)<=3*n.length:=by
 obtain⟨b,e⟩:=xn a a.rt;have c:=vO.le (n:=n) (A:=A) sf;exact⟨b,by omega⟩
theorem Kg{α:Type}{l:List α}(z:α)(h:l≠[]):∃p s,l=p++[s]/\((l.length:Int)-1).toNat=p.length/\l.getD p.length z=s/\(∀v,l.set p.length v=p++[v])/\l.take p.length=p:=by
 rcases List.eq_nil_or_concat l with e|⟨p,s,e⟩
 ·exact absurd e h
 ·subst e;refine⟨p,s,by simp,by simp,by simp[aw],λv=>by simp,by simp⟩
noncomputable def fatK (x:Fl.inp.den):tJ:=bK YE (iM x (ancO x.1.1)) λ(_,_,_,_,a,_)=>nS x.1.1 (ancO x.1.1) a
noncomputable def fatA (x:Fl.inp.den):dB:=⟨[],[(1003,fatK x)],[(0,0,fatK x)],[],0⟩
theorem Fr{n:gx}{p:List Sp}{s s':Sp}(h:∀x∈p++[s],oO n x)(h':oO n s'):∀x∈p++[s'],oO n x:=by
 intro x a;rcases bb.1 a with a|a
 ·exact h x (cL _ a)
 ·simp at a;subst a;exact h'
def NB:bw:=(151,[Fl])::NA
theorem YF:KK NB:=kA YD fatA (∀(c:List (Fk×lO.den)×Int×Unit)(e:Int)Q,bd Fl (c,e,()) Q->Bd (e<0) (decide (e<0)=true/\decide (e<0)=true/\decide (e<0)=true/\decide (e<0)=true/\Q ⟨0,(0,0,()),6,()⟩) (decide (e<0)=false/\decide (e<0)=false/\pK c/\decide (e<0)=false/\decide (e<0)=false/\Bd (nI c.1-1-c.2.1<=e) (Q ⟨0,(0,0,()),6,()⟩) (True/\(true=true/\1+(rZ (λp=>(3072+p.1,p.2)) [(0,0)]).length<=87/\true=true)/\∀(l:Nat),true=true/\(true=true/\Is (iM (c,e,()) (ancO c.1) (l,0,l,c,[(0,0,0,0,())],e,(0,0,()),0,()))/\∀(j:Nat)(h:Int)(k:Nat)(d:List (Fk×lO.den)×Int×Unit)(a:List (Int×Int×Fk))(g:Int)(n:Fk)(o:Int),let F:=(j,h,k,d,a,g,n,o,());iM (c,e,()) (ancO c.1) F->Is (iM (c,e,()) (ancO c.1) F)/\∀(q:Nat)(m:Int)(r:Nat)(f:List (Fk×lO.den)×Int×Unit)(b:List (Int×Int×Fk))(i:Int)(s:Fk)(t:Int),let S:=0<nI (cM ((↑b.length:Int)-1).toNat b);let u:=gD b (nI b-1) (0,0,0,0,());let U:= !(u.1==0&&u.2.1==0);let x:=u.2.2.1==1;let G:=x=false->False/\True;let H:=Int.toNat u.2.2.2.1;let y:=u.2.2.1==0;let J:=(b.set (nI b-1).toNat (u.1,u.2.1,u.2.2.1,u.2.2.2.1+1,())).length+1;let K:=(aO cq (u.1,u.2.1,()) f.1).getD (0,0,0,false,[[],[]],());let A:=bB K.2.2.2.2.1 ((5-1-1-1-1)/1) [];let L:=A.getD H (0,0,());let W:=u.2.2.2.1<(↑A.length:Int);let B:=bB K.2.2.2.2.1 ((4-1-1-1-1)/1) [];let M:=B.getD H (0,0,());let X:=u.2.2.2.1<(↑B.length:Int);let z5:=true=true/\Br y (true=true/\Br U (false=false/\(true=true/\(none:Option (Nat×Bool))=none/\2=2)/\q=r/\(false=false/\true=true)/\(false=false/\true=true)/\Br (K.2.2.2.1) (true=true/\ac (m+1)/\ac (nI b-1)/\iN (nI b-1) b/\Is (iM (c,e,()) (ancO c.1) (q,m+1,r,f,b.set (nI b-1).toNat (u.1,u.2.1,1,0,()),i,s,t,()))) ((false=false/\true=true)/\Br (i==0) ((false=false/\true=true)/\true=true/\Q ⟨0,(K.1,K.2.1,()),0,()⟩) ((false=false/\true=true)/\ac (i-1)/\true=true/\ac (m+1)/\ac (nI b-1)/\iN (nI b-1) b/\Is (iM (c,e,()) (ancO c.1) (q,m+1,r,f,b.set (nI b-1).toNat (u.1,u.2.1,1,0,()),i-1,s,t,()))))) (ac (nI b-1)/\iN (nI b-1) b/\Is (iM (c,e,()) (ancO c.1) (q,m,r,f,b.set (nI b-1).toNat (u.1,u.2.1,1,0,()),i,s,t,())))) (ac (nI b-1)/\((0:Int)=0/\0<=nI b-1/\nI b-1<=nI b)/\true=true/\Br (decide S) (Is (iM (c,e,()) (ancO c.1) (q,m,r,f,cM (nI b-1).toNat b,i,s,t,()))) (Q ⟨0,(0,0,()),6,()⟩));let z4:=ac (nI b-1)/\iN (nI b-1) b/\ac (u.2.2.2.1+1)/\iN (nI b-1) b/\Br y ((0<=u.2.2.2.1/\u.2.2.2.1<(↑B.length:Int))/\J*32<=mM/\Is (iM (c,e,()) (ancO c.1) (q,m,r,f,b.set (nI b-1).toNat (u.1,u.2.1,u.2.2.1,u.2.2.2.1+1,())++[(M.1,M.2.1,0,0,())],i,s,t,()))) ((x=true->(0<=u.2.2.2.1/\u.2.2.2.1<(↑A.length:Int))/\J*32<=mM/\Is (iM (c,e,()) (ancO c.1) (q,m,r,f,b.set (nI b-1).toNat (u.1,u.2.1,u.2.2.1,u.2.2.2.1+1,())++[(L.1,L.2.1,0,0,())],i,s,t,())))/\G);iM (c,e,()) (ancO c.1) (q,m,r,f,b,i,s,t,())->ac (nI b-1)/\iN (nI b-1) b/\Br y (true=true/\Br (decide X) z4 z5) ((x=true->true=true/\Br (decide W) z4 z5)/\G))/\∀(j:Nat)(h:Int)(k:Nat)(d:List (Fk×lO.den)×Int×Unit)(a:List (Int×Int×Fk))(g:Int)(n:Fk)(o:Int),let Y:=0<nI (cM ((↑a.length:Int)-1).toNat a);let z:=gD a (nI a-1) (0,0,0,0,());let a0:= !(z.1==0&&z.2.1==0);let C:=z.2.2.1==1;let N:=C=false->False/\True;let D:=z.2.2.1==0;let O:=(a.set (nI a-1).toNat (z.1,z.2.1,z.2.2.1,z.2.2.2.1+1,())).length+1;let P:=Int.toNat z.2.2.2.1;let E:=nS c.1 (ancO c.1) (a.set (nI a-1).toNat (z.1,z.2.1,1,0,()))<nS c.1 (ancO c.1) a;let R:=(aO cq (z.1,z.2.1,()) d.1).getD (0,0,0,false,[[],[]],());let z9:=bB R.2.2.2.2.1 ((5-1-1-1-1)/1) [];let a1:=z.2.2.2.1<(↑z9.length:Int);let v:=z9.getD P (0,0,());let z8:=bB R.2.2.2.2.1 ((4-1-1-1-1)/1) [];let a2:=z.2.2.2.1<(↑z8.length:Int);let w:=z8.getD P (0,0,());let z3:=true=true/\Br D (true=true/\Br a0 (false=false/\(true=true/\(none:Option (Nat×Bool))=none/\2=2)/\j=k/\(false=false/\true=true)/\(false=false/\true=true)/\Br (R.2.2.2.1) (true=true/\ac (h+1)/\ac (nI a-1)/\iN (nI a-1) a/\Is (iM (c,e,()) (ancO c.1) (j,h+1,k,d,a.set (nI a-1).toNat (z.1,z.2.1,1,0,()),g,n,o,())/\E)) ((false=false/\true=true)/\Br (g==0) ((false=false/\true=true)/\true=true/\Q ⟨0,(R.1,R.2.1,()),0,()⟩) ((false=false/\true=true)/\ac (g-1)/\true=true/\ac (h+1)/\ac (nI a-1)/\iN (nI a-1) a/\Is (iM (c,e,()) (ancO c.1) (j,h+1,k,d,a.set (nI a-1).toNat (z.1,z.2.1,1,0,()),g-1,n,o,())/\E)))) (ac (nI a-1)/\iN (nI a-1) a/\Is (iM (c,e,()) (ancO c.1) (j,h,k,d,a.set (nI a-1).toNat (z.1,z.2.1,1,0,()),g,n,o,())/\E))) (ac (nI a-1)/\((0:Int)=0/\0<=nI a-1/\nI a-1<=nI a)/\true=true/\Br (decide Y) (Is (iM (c,e,()) (ancO c.1) (j,h,k,d,cM (nI a-1).toNat a,g,n,o,())/\nS c.1 (ancO c.1) (cM (nI a-1).toNat a)<nS c.1 (ancO c.1) a)) (Q ⟨0,(0,0,()),6,()⟩));let z2:=ac (nI a-1)/\iN (nI a-1) a/\ac (z.2.2.2.1+1)/\iN (nI a-1) a/\Br D ((0<=z.2.2.2.1/\z.2.2.2.1<(↑z8.length:Int))/\O*32<=mM/\Is (iM (c,e,()) (ancO c.1) (j,h,k,d,a.set (nI a-1).toNat (z.1,z.2.1,z.2.2.1,z.2.2.2.1+1,())++[(w.1,w.2.1,0,0,())],g,n,o,())/\nS c.1 (ancO c.1) (a.set (nI a-1).toNat (z.1,z.2.1,z.2.2.1,z.2.2.2.1+1,())++[(w.1,w.2.1,0,0,())])<nS c.1 (ancO c.1) a)) ((C=true->(0<=z.2.2.2.1/\z.2.2.2.1<(↑z9.length:Int))/\O*32<=mM/\Is (iM (c,e,()) (ancO c.1) (j,h,k,d,a.set (nI a-1).toNat (z.1,z.2.1,z.2.2.1,z.2.2.2.1+1,())++[(v.1,v.2.1,0,0,())],g,n,o,())/\nS c.1 (ancO c.1) (a.set (nI a-1).toNat (z.1,z.2.1,z.2.2.1,z.2.2.2.1+1,())++[(v.1,v.2.1,0,0,())])<nS c.1 (ancO c.1) a))/\N);iM (c,e,()) (ancO c.1) (j,h,k,d,a,g,n,o,())->ac (nI a-1)/\iN (nI a-1) a/\Br D (true=true/\Br (decide a2) z2 z3) ((C=true->true=true/\Br (decide a1) z2 z3)/\N)))) (by
 conv=>zeta
 unfold Bd Br gD iN mM nI bd;rintro t i Q ⟨⟨R,hi⟩,hQ⟩;have M:∀(y:ID)(e:Int),Q ⟨0,(y,e,())⟩:=λy e=>hQ (y,e) trivial;clear hQ;have N:=AG R.1;have hn:=R.2.1;have S:∀c:decide (i<0)=false,@bc Int _ 0 i:=λc=>Int.not_lt.1 (an c);have b0:@bc Int _ i 1000000000:=hi;refine⟨λc=>⟨c,c,c,c,M _ _⟩,λc=>⟨c,c,R,c,c,λd=>M _ _,λd=>⟨trivial,⟨rfl,by decide,rfl⟩,λl=>⟨rfl,⟨rfl,?_,λa1 a2 a3 a4 a5 a6 a7 a8 h=>⟨⟨h⟩,?_⟩⟩,?_⟩⟩⟩⟩
 ·have z0:=Kf N;have:nS t.1 (ancO t.1) [kF sf 0 0]=xm t.1 (ancO t.1) (kF sf 0 0):=by simp[nS]
  exact⟨⟨rfl,rfl,by simp,λs B=>by simp at B;subst B;exact z0.1,by unfold Sn;rw[show[((0,0,0,0,()):Sp)]=[kF sf 0 0]from rfl,this];have:=z0.2;have:=S c;omega⟩⟩
 all_goals
  clear c d;rintro C g l2 a o f id e ⟨g1,g2,g3,g4,g5,g6,g7,g8⟩;subst g1 g2;generalize ancO a.1=A at*;obtain⟨p,s,O,e1,e2,e3,e4⟩:=Kg (0,0,0,0,()) g3;have B:=g4 s (by rw[O];simp);have U:nS a.1 A o=nS a.1 A p+xm a.1 A s:=by rw[O,qd]
  have hl:=Fq (n:=a.1) (A:=A) o;have b1:o.length=p.length+1:=by rw[O];simp
  simp only[e1,e2,e3,e4];have D:ac ((o.length:Int)-1):=by unfold ac;omega
  have hB:0<=(o.length:Int)-1/\(o.length:Int)-1<o.length:=by omega
  have hP:ac (g+1):=by unfold ac;omega
  have hM:ac (f-1):=by unfold ac;omega
  have r:∀x∈p++[s],oO a.1 x:=by rw[<-O];exact g4
  have b2:=Fp (n:=a.1) (A:=A) s;have J:∀v,((p++[v]:List Sp).length+1)*32<=140737488355328:=λv=>by simp;omega
  have K:∀(m:List Sp)(b w:Int),m≠[]->(∀s∈m,oO a.1 s)->nS a.1 A m+1<=nS a.1 A o->(b=g\/b=g+1)->(w=f\/w=f-1/\f≠0)->iM (a,i,()) A (C,b,C,a,m,w,id,e,())/\nS a.1 A m<nS a.1 A o:=
   λm b w W X h3 h4 h5=>⟨⟨rfl,rfl,W,X,by unfold Sn;omega⟩,by omega⟩
  have P:∀(j:Nat),sM s=j->(j=0\/j=1)->nk s<(od a.1 s j).length->∀c,c=(od a.1 s j).getD (nk s).toNat (0,0,())->iM (a,i,()) A (C,g,C,a,p++[kF (si s) (sM s) (nk s+1)]++[kF c 0 0],f,id,e,())/\nS a.1 A (p++[kF (si s) (sM s) (nk s+1)]++[kF c 0 0])<nS a.1 A o:=by
   intro j u Y hl c hc;obtain⟨k1,k2,k3⟩:=Kc N B u Y hl hc;refine K _ g f (by simp) ?_ ?_ (.inl rfl) (.inl rfl)
   ·intro x E;rcases bb.1 E with E|E
    ·exact Fr r k1 x E
    ·simp at E;subst E;exact k2
   ·rw[qd,qd,U];omega
  have L:0<=nk s:=B.2.1;rcases B.2.2 with⟨u,a0⟩|⟨u,a0⟩
  ·have F:(s.2.2.1==0)=true:=by show(sM s==0)=true;rw[u];rfl
   have nj:∀{G:Prop},(s.2.2.1==0)=false->G:=λc=>by rw[F]at c;cases c
   obtain⟨k1,k2⟩:=Kd (A:=A) B u
   have H:∀(b w:Int),(b=g\/b=g+1)->(w=f\/w=f-1/\f≠0)->iM (a,i,()) A (C,b,C,a,p++[kF (si s) 1 0],w,id,e,())/\nS a.1 A (p++[kF (si s) 1 0])<nS a.1 A o:=
    λb w W X=>K _ b w (by simp) (Fr r k1) (by rw[qd,U];omega) W X
   have hN:nk s<(od a.1 s 0).length->ac (nk s+1):=λh=>by have:=Fo N B.1 (j:=0) (.inl rfl);unfold ac;omega
   refine⟨D,hB,λ_=>⟨trivial,λd=>⟨D,hB,hN (ag d),hB,λ_=>⟨⟨L,ag d⟩,J _,?_⟩,nj⟩,λd=>⟨trivial,λ_=>⟨trivial,λz=>⟨trivial,⟨trivial,trivial,trivial⟩,trivial,⟨trivial,trivial⟩,⟨trivial,trivial⟩,λgn=>⟨trivial,hP,D,hB,?_⟩,λgn=>⟨⟨trivial,trivial⟩,λ_=>⟨⟨trivial,trivial⟩,trivial,M _ _⟩,λiz=>⟨⟨trivial,trivial⟩,hM,trivial,hP,D,hB,?_⟩⟩⟩,λz=>⟨D,hB,?_⟩⟩,nj⟩⟩,nj⟩
   ·first
     |exact⟨(P 0 u (.inl rfl) (ag d) _ rfl).1⟩
     |exact⟨P 0 u (.inl rfl) (ag d) _ rfl⟩
   ·first
     |exact⟨(H (g+1) f (.inr rfl) (.inl rfl)).1⟩
     |exact⟨H (g+1) f (.inr rfl) (.inl rfl)⟩
   ·first
     |exact⟨(H (g+1) (f-1) (.inr rfl) (.inr ⟨rfl,aE iz⟩)).1⟩
     |exact⟨H (g+1) (f-1) (.inr rfl) (.inr ⟨rfl,aE iz⟩)⟩
   ·first
     |exact⟨(H g f (.inl rfl) (.inl rfl)).1⟩
     |exact⟨H g f (.inl rfl) (.inl rfl)⟩
  ·have F:(s.2.2.1==1)=true:=by show(sM s==1)=true;rw[u];rfl
   have n1:∀{G:Prop},(s.2.2.1==1)=false->G:=λc=>by rw[F]at c;cases c
   have a9:(s.2.2.1==0)=false:=by show(sM s==0)=false;rw[u];rfl
   have yj:∀{G:Prop},(s.2.2.1==0)=true->G:=λc=>by rw[a9]at c;cases c
   have hN:nk s<(od a.1 s 1).length->ac (nk s+1):=λh=>by have:=Fo N B.1 (j:=1) (.inr rfl);unfold ac;omega
   have PO:p≠[]->iM (a,i,()) A (C,g,C,a,p,f,id,e,())/\nS a.1 A p<nS a.1 A o:=
    λh=>K p g f h (λx E=>r x (cL _ E)) (by rw[U];omega) (.inl rfl) (.inl rfl)
   have PN:decide (0<(p.length:Int))=true->p≠[]:=λq e=>by rw[e]at q;cases q
   refine⟨D,hB,yj,λ_=>⟨λ_=>⟨trivial,λd=>⟨D,hB,hN (ag d),hB,yj,λ_=>⟨λ_=>⟨⟨L,ag d⟩,J _,?_⟩,n1⟩⟩,λd=>⟨trivial,yj,λ_=>⟨D,⟨by trivial,by omega,by omega⟩,trivial,λq=>?_,λq=>M _ _⟩⟩⟩,n1⟩⟩
   ·first
     |exact⟨(P 1 u (.inr rfl) (ag d) _ rfl).1⟩
     |exact⟨P 1 u (.inr rfl) (ag d) _ rfl⟩
   ·first
     |exact⟨(PO (PN q)).1⟩
     |exact⟨PO (PN q)⟩) (l:=λ_=>aM λ_=>⟨((0,0,()),0),trivial⟩)
def tr0:Trz:=([((0,0,()),(0,0,0,false,[[],[]],()))],0,())
def tr1:Trz:=([((0,0,()),(0,0,0,false,[[],[(0,1,())]],())),((0,1,()),(0,1,97,false,[[],[]],()))],0,())
def Fs:Ct:=⟨2,⟨[Vn 0,sI 1],[]⟩,[⟨[(0,true,[.d cq]),sL 1,sI 2],[]⟩],λ(t,i,_)=>eD (pK t/\i<=1000000000) (λy:ID×Bool×Int=>t=tr0->i=0->y=((0,0,()),true,0)) λy=>(y.1,y.2.1,y.2.2,())⟩
def YG:cg:=⟨[Vn 0,(4,false,[.ptr 0 0]),(9,false,[.ptr 1 0])],[some (.cells [.d cq]),some (.cells [.d cq])]⟩
def xo(x:Fs.inp.den)(y:YG.den):Prop:=match x,y with
 |(a,_,_),(t,_,b,_)=>t=a/\t≠tr0/\(b.1,b.2.1,())∈ii a.1
noncomputable def fplA (x:Fs.inp.den):dB:=⟨[(10,bK YG (xo x) λ(_,_,a,_)=>wt x.1.1 (ancO x.1.1) (a.1,a.2.1,()))],[],[],[],0⟩
theorem Ft{n:gx}{A:ID->List ID}(h:vO n A){k c:ID}{j:Nat}(i:j=0\/j=1)(b:c∈((aO cq k n).getD jT).2.2.2.2.1.getD j []):c∈ii n/\wt n A c<wt n A k:=by
 cases g:aO cq k n with
 |none=>
  rw[g]at b;rcases i with rfl|rfl<;>simp[jT]at b
 |some v=>
  rw[g,di]at b;have m:=ju g
  have a:c∈jt v:=by
   unfold jt;rcases i with rfl|rfl
   ·exact cL _ b
   ·exact List.mem_append_right _ b
  refine⟨h.key _ m c a,?_⟩;have f:=h.light m
  have o:wt n A c<=((jt v).map (wt n A)).sum:=by
   generalize jt v=l at*;clear f b
   induction l with
   |nil=>cases a
   |cons d l p=>
    simp only[aY,dg];rcases bt.1 a with e|e
    ·subst e;omega
    ·have:=p e;omega
  dsimp only at f;omega
def NC:bw:=(149,[Fs])::NB
theorem YH:KK NC:=kA YF fplA (∀(a:List (Fk×lO.den)×Int×Unit)(d:Int)(Q:cw Fs.out->Prop),let h:=bB ((aO cq (0,0,()) a.1).getD (0,0,0,false,[[],[]],())).2.2.2.2.1 1 [];let j:=(↑h.length:Int)==0;let z:=∀(e:List (Fk×lO.den)×Int×Unit)(f c:Fk),let g:=bB ((aO cq c e.1).getD (0,0,0,false,[[],[]],())).2.2.2.2.1 0 [];xo (a,d,()) (e,f,c,())->Bd (0<(↑g.length:Int)) (((0:Int)<=0/\0<(↑g.length:Int))/\Is (xo (a,d,()) (e,f,g.getD 0 (0,0,()),())/\wt a.1 (ancO a.1) (g.getD 0 (0,0,()))<wt a.1 (ancO a.1) c)) (Q ⟨0,c,false,0,()⟩);bd Fs (a,d,()) Q->Bd (d<0) (Q ⟨0,(0,0,()),false,6,()⟩) (pK a/\Bd (nI a.1-1-a.2.1<d) (Q ⟨0,(0,0,()),false,6,()⟩) (Bd (0<d) (ac (d-1)/\(pK a/\d-(1:Int)<=1000000000)/\∀(b:Fk×Int),let i:=bB ((aO cq b.1 a.1).getD (0,0,0,false,[[],[]],())).2.2.2.2.1 1 [];let l:=(↑i.length:Int)==0;True->Br l (Q ⟨0,b.1,true,0,()⟩) (((0:Int)<=0/\0<(↑i.length:Int))/\Is (xo (a,d,()) (a,(0,0,()),i.getD 0 (0,0,()),()))/\z)) (Br j (Q ⟨0,(0,0,()),true,0,()⟩) (((0:Int)<=0/\0<(↑h.length:Int))/\Is (xo (a,d,()) (a,(0,0,()),h.getD 0 (0,0,()),()))/\z))))) (by
 conv=>zeta
 unfold Bd Br nI bd;rintro t i Q ⟨⟨n,s⟩,q⟩;have m:∀(y:ID)(b:Bool)(e:Int),(t=tr0->i=0->(y,b,e)=((0,0,()),true,0))->Q ⟨0,(y,b,e,())⟩:=λy b e h=>q (y,b,e) h;clear q;have r:=AG n.1;have u:@bc Int _ i 1000000000:=s
 have loop:t≠tr0->∀k:ID,((((aO cq k t.1).getD jT).2.2.2.2.1.getD 1 []).length:Int)≠0->(0<=(0:Int)/\(0:Int)<(((aO cq k t.1).getD jT).2.2.2.2.1.getD 1 []).length)/\Is (xo (t,i,()) (t,(0,0,()),(((aO cq k t.1).getD jT).2.2.2.2.1.getD 1 []).getD 0 (0,0,()),()))/\
  ∀(f:Trz)(d a:ID),xo (t,i,()) (f,d,a,())->(decide ((0:Int)<(((aO cq a f.1).getD jT).2.2.2.2.1.getD 0 []).length)=true->(0<=(0:Int)/\(0:Int)<(((aO cq a f.1).getD jT).2.2.2.2.1.getD 0 []).length)/\Is (xo (t,i,()) (f,d,(((aO cq a f.1).getD jT).2.2.2.2.1.getD 0 []).getD 0 (0,0,()),())/\wt t.1 (ancO t.1) ((((aO cq a f.1).getD jT).2.2.2.2.1.getD 0 []).getD 0 (0,0,()))<wt t.1 (ancO t.1) a))/\(decide ((0:Int)<(((aO cq a f.1).getD jT).2.2.2.2.1.getD 0 []).length)=false->Q ⟨0,(a,false,0,())⟩):=by
  intro g k o;refine⟨⟨bY _,by omega⟩,⟨⟨rfl,g,(Ft r (.inr rfl) (aS (by omega))).1⟩⟩,?_⟩;rintro f d a ⟨rfl,_,v⟩;refine⟨λc=>?_,λ_=>m _ _ _ λe=>absurd e g⟩;have c:=ag c;have o:=Ft r (k:=a) (j:=0) (.inl rfl) (aS (z:=(0,0,())) (show 0<_ by omega));exact⟨⟨bY _,c⟩,⟨⟨rfl,g,o.1⟩,o.2⟩⟩
 refine⟨λc=>m _ _ _ λ_ e=>?_,λc=>⟨n,λd=>m _ _ _ λw x=>?_,λd=>⟨λp=>⟨?_,⟨n,?_⟩,λb _=>⟨λ_=>m _ _ _ λ_ e=>?_,λk=>loop ?_ b.1 (aE k)⟩⟩,λp=>⟨λ_=>m _ _ _ λ_ _=>rfl,λk=>loop ?_ (0,0,()) (aE k)⟩⟩⟩⟩
 ·subst e;exact absurd c (by decide)
 ·subst w x;exact absurd d (by decide)
 ·have:=ag p;have:@lB Int _ 0 i:=this;unfold ac;omega
 ·have:@bc Int _ (i-1) 1000000000:=by omega
  exact this
 ·subst e;exact absurd p (by decide)
 ·intro e;have A:=ag p;have B:=an d;subst e;exact B A
 ·intro e;subst e;exact absurd k (by decide)) (l:=λ_=>aM λ_=>⟨((0,0,()),true,0),λ_ _=>rfl⟩)
def Fu:Ct:=⟨1,⟨[Vn 0],[]⟩,[⟨[(0,false,[.d .st])],[]⟩],λ(t,_)=>one (t=tr1) ([97],())⟩
def YI:cg:=⟨[(0,false,[.d .yl]),(1,false,[.ptr 0 0]),(3,false,[.own 1]),sI 4,(90,false,[.ptr 2 0]),(107,false,[.d .yl]),(108,false,[.k (.i64 0)])],[some (.cells [.d (.pf Vl)]),some (.sl tSp),some (.cells [.own 3]),some (.sl .i32)]⟩
def mg(a:List Sp)(b:Int)(o:List Int):Nat:=
 if a=[(0,0,0,0,())]/\b=0/\o=[]then 5
 else if a=[(0,0,1,0,())]/\b=0/\o=[]then 4
 else if a=[(0,0,1,1,()),(0,1,0,0,())]/\b=0/\o=[]then 3
 else if a=[(0,0,1,1,()),(0,1,1,0,())]/\b=1/\o=[97]then 2
 else if a=[(0,0,1,1,())]/\b=1/\o=[97]then 1 else 0
def kp(x:Fu.inp.den)(y:YI.den):Prop:=match x,y with
 |(a,_),(l,b,c,t,e,o,_)=>l=c/\t=a/\0<mg e b o
def YJ(x:Fu.inp.den):tJ:=bK YI (kp x) λ(_,a,_,_,b,o,_)=>mg b a o
def a2o(x:Fu.inp.den):dB:=⟨[],[(1003,YJ x)],[(0,0,YJ x)],[],0⟩
theorem a2p{a:List Sp}{b:Int}{o:List Int}(h:0<mg a b o):(a=[(0,0,0,0,())]/\b=0/\o=[])\/(a=[(0,0,1,0,())]/\b=0/\o=[])\/(a=[(0,0,1,1,()),(0,1,0,0,())]/\b=0/\o=[])\/(a=[(0,0,1,1,()),(0,1,1,0,())]/\b=1/\o=[97])\/(a=[(0,0,1,1,())]/\b=1/\o=[97]):=by
 unfold mg at h;split at h
 ·exact .inl ‹_›
 split at h
 ·exact .inr (.inl ‹_›)
 split at h
 ·exact .inr (.inr (.inl ‹_›))
 split at h
 ·exact .inr (.inr (.inr (.inl ‹_›)))
 split at h
 ·exact .inr (.inr (.inr (.inr ‹_›)))
 ·cases h
def ND:bw:=(51,[Fu])::NC
theorem YK:KK ND:=kA YH a2o (∀(g:List (Fk×lO.den)×Int×Unit)Q,bd Fu (g,()) Q->True/\(true=true/\1+(rZ (λp=>(768+p.1,p.2)) [(0,0)]).length<=87/\true=true)/\∀(l:Nat),true=true/\(true=true/\Is (kp (g,()) (l,0,l,g,[(0,0,0,0,())],[],()))/\∀(h:Nat)(d:Int)(i:Nat)(c:List (Fk×lO.den)×Int×Unit)(a:List (Int×Int×Fk))(e:List Int),kp (g,()) (h,d,i,c,a,e,())->Is (kp (g,()) (h,d,i,c,a,e,()))/\∀(m:Nat)(j:Int)(n:Nat)(f:List (Fk×lO.den)×Int×Unit)(b:List (Int×Int×Fk))(k:List Int),let L:=0<nI (cM ((↑b.length:Int)-1).toNat b);let o:=gD b (nI b-1) (0,0,0,0,());let M:= !(o.1==0&&o.2.1==0);let s:=o.2.2.1==1;let A:=s=false->False/\True;let B:=Int.toNat o.2.2.2.1;let t:=o.2.2.1==0;let C:=(b.set (nI b-1).toNat (o.1,o.2.1,o.2.2.1,o.2.2.2.1+1,())).length+1;let K:=(aO cq (o.1,o.2.1,()) f.1).getD (0,0,0,false,[[],[]],());let u:=bB K.2.2.2.2.1 ((5-1-1-1-1)/1) [];let D:=u.getD B (0,0,());let N:=o.2.2.2.1<(↑u.length:Int);let v:=bB K.2.2.2.2.1 ((4-1-1-1-1)/1) [];let E:=v.getD B (0,0,());let O:=o.2.2.2.1<(↑v.length:Int);let Y:=true=true/\Br t (true=true/\Br M (false=false/\(true=true/\(none:Option (Nat×Bool))=none/\2=2)/\m=n/\(false=false/\true=true)/\(false=false/\true=true)/\Br (!K.2.2.2.1) ((false=false/\true=true)/\(k.length+1)*4<=mM/\true=true/\ac (j+1)/\ac (nI b-1)/\iN (nI b-1) b/\Is (kp (g,()) (m,j+1,n,f,b.set (nI b-1).toNat (o.1,o.2.1,1,0,()),k++[K.2.2.1],()))) (true=true/\ac (j+1)/\ac (nI b-1)/\iN (nI b-1) b/\Is (kp (g,()) (m,j+1,n,f,b.set (nI b-1).toNat (o.1,o.2.1,1,0,()),k,())))) (ac (nI b-1)/\iN (nI b-1) b/\Is (kp (g,()) (m,j,n,f,b.set (nI b-1).toNat (o.1,o.2.1,1,0,()),k,())))) (ac (nI b-1)/\((0:Int)=0/\0<=nI b-1/\nI b-1<=nI b)/\true=true/\Br (decide L) (Is (kp (g,()) (m,j,n,f,cM (nI b-1).toNat b,k,()))) (Q ⟨0,Vy k,()⟩));let z4:=ac (nI b-1)/\iN (nI b-1) b/\ac (o.2.2.2.1+1)/\iN (nI b-1) b/\Br t ((0<=o.2.2.2.1/\o.2.2.2.1<(↑v.length:Int))/\C*32<=mM/\Is (kp (g,()) (m,j,n,f,b.set (nI b-1).toNat (o.1,o.2.1,o.2.2.1,o.2.2.2.1+1,())++[(E.1,E.2.1,0,0,())],k,()))) ((s=true->(0<=o.2.2.2.1/\o.2.2.2.1<(↑u.length:Int))/\C*32<=mM/\Is (kp (g,()) (m,j,n,f,b.set (nI b-1).toNat (o.1,o.2.1,o.2.2.1,o.2.2.2.1+1,())++[(D.1,D.2.1,0,0,())],k,())))/\A);kp (g,()) (m,j,n,f,b,k,())->ac (nI b-1)/\iN (nI b-1) b/\Br t (true=true/\Br (decide O) z4 Y) ((s=true->true=true/\Br (decide N) z4 Y)/\A))/\∀(h:Nat)(d:Int)(i:Nat)(c:List (Fk×lO.den)×Int×Unit)(a:List (Int×Int×Fk))(e:List Int),let P:=0<nI (cM ((↑a.length:Int)-1).toNat a);let z:=gD a (nI a-1) (0,0,0,0,());let R:= !(z.1==0&&z.2.1==0);let w:=z.2.2.1==1;let F:=w=false->False/\True;let x:=z.2.2.1==0;let G:=(a.set (nI a-1).toNat (z.1,z.2.1,z.2.2.1,z.2.2.2.1+1,())).length+1;let y:=a.set (nI a-1).toNat (z.1,z.2.1,1,0,());let H:=Int.toNat z.2.2.2.1;let J:=(aO cq (z.1,z.2.1,()) c.1).getD (0,0,0,false,[[],[]],());let S:=bB J.2.2.2.2.1 ((5-1-1-1-1)/1) [];let U:=z.2.2.2.1<(↑S.length:Int);let q:=S.getD H (0,0,());let W:=bB J.2.2.2.2.1 ((4-1-1-1-1)/1) [];let X:=z.2.2.2.1<(↑W.length:Int);let r:=W.getD H (0,0,());let z3:=true=true/\Br x (true=true/\Br R (false=false/\(true=true/\(none:Option (Nat×Bool))=none/\2=2)/\h=i/\(false=false/\true=true)/\(false=false/\true=true)/\Br (!J.2.2.2.1) ((false=false/\true=true)/\(e.length+1)*4<=mM/\true=true/\ac (d+1)/\ac (nI a-1)/\iN (nI a-1) a/\Is (kp (g,()) (h,d+1,i,c,a.set (nI a-1).toNat (z.1,z.2.1,1,0,()),e++[J.2.2.1],())/\mg y (d+1) (e++[J.2.2.1])<mg a d e)) (true=true/\ac (d+1)/\ac (nI a-1)/\iN (nI a-1) a/\Is (kp (g,()) (h,d+1,i,c,a.set (nI a-1).toNat (z.1,z.2.1,1,0,()),e,())/\mg y (d+1) e<mg a d e))) (ac (nI a-1)/\iN (nI a-1) a/\Is (kp (g,()) (h,d,i,c,a.set (nI a-1).toNat (z.1,z.2.1,1,0,()),e,())/\mg y d e<mg a d e))) (ac (nI a-1)/\((0:Int)=0/\0<=nI a-1/\nI a-1<=nI a)/\true=true/\Br (decide P) (Is (kp (g,()) (h,d,i,c,cM (nI a-1).toNat a,e,())/\mg (cM (nI a-1).toNat a) d e<mg a d e)) (Q ⟨0,Vy e,()⟩));let z2:=ac (nI a-1)/\iN (nI a-1) a/\ac (z.2.2.2.1+1)/\iN (nI a-1) a/\Br x ((0<=z.2.2.2.1/\z.2.2.2.1<(↑W.length:Int))/\G*32<=mM/\Is (kp (g,()) (h,d,i,c,a.set (nI a-1).toNat (z.1,z.2.1,z.2.2.1,z.2.2.2.1+1,())++[(r.1,r.2.1,0,0,())],e,())/\mg (a.set (nI a-1).toNat (z.1,z.2.1,z.2.2.1,z.2.2.2.1+1,())++[(r.1,r.2.1,0,0,())]) d e<mg a d e)) ((w=true->(0<=z.2.2.2.1/\z.2.2.2.1<(↑S.length:Int))/\G*32<=mM/\Is (kp (g,()) (h,d,i,c,a.set (nI a-1).toNat (z.1,z.2.1,z.2.2.1,z.2.2.2.1+1,())++[(q.1,q.2.1,0,0,())],e,())/\mg (a.set (nI a-1).toNat (z.1,z.2.1,z.2.2.1,z.2.2.2.1+1,())++[(q.1,q.2.1,0,0,())]) d e<mg a d e))/\F);kp (g,()) (h,d,i,c,a,e,())->ac (nI a-1)/\iN (nI a-1) a/\Br x (true=true/\Br (decide X) z2 z3) ((w=true->true=true/\Br (decide U) z2 z3)/\F)) (by
 conv=>zeta
 unfold Br gD iN mM nI bd;rintro t Q ⟨b,c⟩;subst b;refine⟨trivial,⟨rfl,by decide,rfl⟩,λl=>⟨rfl,⟨rfl,⟨⟨rfl,rfl,by decide⟩⟩,λg i j m n p h=>⟨⟨h⟩,?_⟩⟩,?_⟩⟩
 all_goals
  rintro q r s u v o ⟨e,f,a⟩;subst e f;rcases a2p a with⟨rfl,rfl,rfl⟩|⟨rfl,rfl,rfl⟩|⟨rfl,rfl,rfl⟩|⟨rfl,rfl,rfl⟩|⟨rfl,rfl,rfl⟩
  all_goals
   clear a
   (repeat' (first|apply cc|(intro h;first|exact absurd h (by decide)|clear h)))<;>first
    |trivial
    |rfl
    |(unfold ac;decide)
    |decide
    |exact⟨⟨rfl,rfl,by decide⟩⟩
    |exact⟨⟨rfl,rfl,by decide⟩,by decide⟩
    |exact c)
abbrev cN:Option CP:=some (.cells [.d .i64])
def NE(m:Mk):Prop:=0<=m.1/\m.1<=1099511627776/\0<=m.2.1/\m.2.1<5
def Kh:Ct:=⟨3,⟨[(0,true,[.d gF]),sI 1,(2,false,[.ptr 0 0])],[cN]⟩,[⟨[sI 0],[cN]⟩],λ(m,t,a,_)=>eD (NE m/\0<=t/\t<=1099511627776/\0<=a/\a<5) (λ_:Int=>True) λy=>(y,a,())⟩
abbrev So(v:Fk):cw Kh.out:=⟨0,v⟩
def NF:bw:=(205,[Kh])::ND
theorem YL:KK NF:=kA YK (cE Kh 0) (∀(a:gF.den)(c b:Int)(Q:cw Kh.out->Prop),(Tr.need (NE a/\0<=c/\c<=1099511627776/\0<=b/\b<5) (Tr.all Int (λa=>True) λy=>Tr.leaf (So (y,b,())))).sat Q->Br (!a.1==c) (ac (a.1-c)/\Q ⟨0,a.1-c,b,()⟩) (ac (a.2.1-b)/\Q ⟨0,a.2.1-b,b,()⟩)) (by
 unfold Br;rintro⟨s,u,h,i,j,m,n,o,p,q,⟨⟩⟩ t a Q ⟨⟨⟨b,c,e,f⟩,r,v,w,x⟩,g⟩;have b:@bc Int _ 0 s:=b;have c:@bc Int _ s 1099511627776:=c;have e:@bc Int _ 0 u:=e;have f:@lB Int _ u 5:=f;exact⟨λ_=>⟨by show ac (@bv Int Int Int _ s t);unfold ac;omega,g _ trivial⟩,λ_=>⟨by show ac (@bv Int Int Int _ u a);unfold ac;omega,g _ trivial⟩⟩) (l:=λ_=>aM λ_=>⟨0,trivial⟩)
theorem Sq{x:Int}(h0:0<=x)(a:x<=10000000):IntKind.i64.wrap ((bi 64 x>>>1).toNat:Int)=x/2:=by
 rw[dm];rw[BitVec.toNat_ushiftRight,BitVec.toNat_ofInt,Nat.shiftRight_eq_div_pow];omega
def Ki:Ct:=⟨3,⟨[(0,false,[.d (.sl gF)]),sI 1,(2,false,[.fn 205 [] [(0,0)]])],[cN]⟩,[⟨[sI 0,sL 1],[cN]⟩],λ(l,t,a,_)=>eD (l.length<=1000000/\(∀m∈l,NE m)/\0<=t/\t<=1099511627776/\0<=a/\a<5) (λy:Int×Bool=>0<=y.1/\y.1<=l.length) λy=>(y.1,y.2,a,())⟩
def YM:cg:=⟨[(0,false,[.d (.sl gF)]),sI 1,(2,false,[.fn 205 [] [(0,0)]]),sI 8,sI 9,sI 10],[cN]⟩
def Fv(x:Ki.inp.den)(y:YM.den):Prop:=match x,y with
 |(b,c,e,_),(l,t,n,i,j,a,_)=>l=b/\t=c/\a=e/\n=b.length/\@bc Int _ 0 i/\@bc Int _ i j/\@bc Int _ j b.length
def a2q(x:Ki.inp.den):dB:=⟨[(3,bK YM (Fv x) λ(_,_,_,i,j,_)=>(@bv Int Int Int _ j i).toNat)],[],[],[],0⟩
def NG:bw:=(204,[Ki])::NF
theorem NH:KK NG:=kA YL a2q (∀(e:List gF.den)(h i:Int)Q,bd Ki (e,h,i,()) Q->Is (Fv (e,h,i,()) (e,h,nI e,0,nI e,i,()))/\∀(f:List gF.den)(g j a c d:Int),let l:=0<=g/\g<=1099511627776/\0<=d/\d<5;let z:=bi 64 (a+c)>>>1;let m:=IntKind.i64.wrap (↑z.toNat:Int)+1;Fv (e,h,i,()) (f,g,j,a,c,d,())->Bd (a<c) (ac (a+c)/\(0<=IntKind.i64.wrap (↑z.toNat:Int)/\IntKind.i64.wrap (↑z.toNat:Int)<nI f)/\(NE (gD f (IntKind.i64.wrap (↑z.toNat:Int)) (0,0,0,0,false,0,0,false,0,0,()))/\l)/\∀(b:Int),True->Bd (b<0) (ac m/\Is (Fv (e,h,i,()) (f,g,j,IntKind.i64.wrap (↑z.toNat:Int)+1,c,d,())/\(c-m).toNat<(c-a).toNat)) (Is (Fv (e,h,i,()) (f,g,j,a,IntKind.i64.wrap (↑z.toNat:Int),d,())/\(IntKind.i64.wrap (↑z.toNat:Int)-a).toNat<(c-a).toNat))) (Bd (a<j) (iN a f/\(NE (gD f a (0,0,0,0,false,0,0,false,0,0,()))/\l)/\∀(b:Int),True->Q ⟨0,a,b==0,d,()⟩) (Q ⟨0,a,false,d,()⟩))) (by
 conv=>zeta
 unfold Bd gD iN nI bd;rintro l t a Q ⟨⟨s,m,o⟩,p⟩;have q:∀(y:Int)(b:Bool),0<=y/\y<=l.length->Q ⟨0,(y,b,a,())⟩:=λy b h=>p (y,b) h;clear p;refine⟨⟨rfl,rfl,rfl,rfl,bY _,Int.natCast_nonneg _,bY _⟩,?_⟩;rintro r u n i j v ⟨rfl,rfl,rfl,rfl,e,g,f⟩;have e:@bc Int _ 0 i:=e;have g:@bc Int _ i j:=g;have f:@bc Int _ j r.length:=f;refine⟨λc=>?_,λc=>⟨λd=>?_,λd=>q _ _ ⟨e,Int.le_trans g f⟩⟩⟩
 ·have c:=ag c;rw[Sq (x:=i+j) (by omega) (by omega)];refine⟨by unfold ac;omega,⟨by omega,by omega⟩,⟨m _ (aS (by omega)),o⟩,λb _=>⟨λ_=>⟨by unfold ac;omega,⟨rfl,rfl,rfl,rfl,?_,?_,f⟩,by omega⟩,λ_=>⟨⟨rfl,rfl,rfl,rfl,e,?_,?_⟩,by omega⟩⟩⟩
  ·show @bc Int _ 0 ((i+j)/2+1);omega
  ·show @bc Int _ ((i+j)/2+1) j;omega
  ·show @bc Int _ i ((i+j)/2);omega
  ·show @bc Int _ ((i+j)/2) r.length;omega
 ·have d:=ag d;exact⟨⟨e,d⟩,⟨m _ (aS (by omega)),o⟩,λb _=>q _ _ ⟨e,Int.le_trans g f⟩⟩) (l:=λ_=>aM λ_=>⟨(0,false),bY _,Int.natCast_nonneg _⟩)
end Go.Tp
namespace Go.Tp
open Go.Hv Go.Proofs Go.RowKit Go.Lib Go.Shelf
set_option maxRecDepth 100000
set_option maxHeartbeats 0
section
theorem fi{P:Program}(w:World)(n q ty elem:TypeId)(b o c f:Nat)(a:Addr)(e g z:Nat)(cs:List Value)
 (r:P.underlying n=some (.slice elem)) (p:(P.info? elem).map (·.size)=some z) (s:cs.length=Nat.min e c*z)
 (h:∀j v,cs[j]?=some v->w.cell? (a.add j)=some v) (t:∀j,j<cs.length->(w.cell? ⟨b,o+j,none⟩).isSome=true) (u:∀j,j<cs.length->w.frozen? ⟨b,o+j,none⟩=false) (x:∀v∈cs,v.oneCell'=true):
 (Builtin.copy_ #[n,q] ty #[.slice (some ⟨b,o,none⟩) c f, .slice (some a) e g]).run P w= .ok (goInt (Nat.min e c)) (w.setCells b o cs):=by
 have y:=run_loadCells_list (P:=P) w a cs h;have l:=run_storeCells_cells (P:=P) b o cs 0 w (by simpa using t) (by simpa using u) x;cases m:P.info? elem with
 |none=>simp[m]at p
 |some i=>
  have A:i.size=z:=by simpa[m]using p
  simp[Builtin.copy_,run_underlying r,Builtin.lenOf,Builtin.firstCells,sizeOf,typeInfo,m,A,<-s,y,l]
section
set_option maxHeartbeats 4000000
set_option maxRecDepth 100000
theorem va:(Tryz.prog.info? 214).map (·.size)=some 10:=by kernel_rfl
theorem CB(b n c i a vc:Nat)(cs vs:List Value)(w:World)(hi:i<n)(B:n+1<=c)(a0:n<=1000000)(q:a≠b)
 (C:cs.length=n*10) (D:vs.length=10)
 (E:∀j v,cs[j]?=some v->w.cell? ⟨b,j,none⟩=some v) (l:∀j,j<(n+1)*10->(w.cell? ⟨b,j,none⟩).isSome=true) (r:∀j,w.frozen? ⟨b,j,none⟩=false)
 (F:∀j v,vs[j]?=some v->w.cell? ⟨a,j,none⟩=some v) (G:∀v∈cs,v.oneCell'=true) (H:∀v∈vs,v.oneCell'=true)
 (S tB:TypeId) (kA J:Nat) (K:w.shape? a=some (S,kA)) (L:w.shape? b=some (tB,J)) (M:J≠0) (s:∀j,w.frozen? ⟨a,j,none⟩=false):
 Calls Tryz.prog 184 #[.slice (some ⟨b,0,none⟩) n c, .int .i64 i, .slice (some ⟨a,0,none⟩) 1 vc] w λe w'=>
  e= .returned (.slice (some ⟨b,0,none⟩) (n+1) c)/\w'=(w.drew.setCells b ((i+1)*10) (cs.drop (i*10))).setCells b (i*10) vs:=by
 have N:=sF;have U:=Tryz.sizeOf214;have u3:=Tryz.runUnderlying3;have X:=Tryz.runUnderlying233;have a1:¬((i:Int)=(n:Int)):=by omega
 have a2:IntKind.i64.wrap ((i:Int)+1)=(i:Int)+1:=by rw[IntKind.wrap_i64];omega
 have a3:IntKind.i64.wrap ((n:Int)+1)=(n:Int)+1:=by rw[IntKind.wrap_i64];omega
 have a4:(0:Int)<=(i:Int)+1:=by omega
 have a5:i<=n:=by omega
 have a6:((i:Int)+1).toNat=i+1:=by omega
 have Y:((n:Int)+1).toNat=n+1:=by omega
 have a7:¬(c=i+1):=by omega
 have a8:(i:Int)<=(n:Int)+1:=by omega
 have a9:¬(c=i):=by omega
 have O:∀o P Q,(callFunc 206 #[.slice (some ⟨a,0,none⟩) 1 vc, .slice (some ⟨b,o,none⟩) P Q]).run Tryz.prog w= .ok (.value (.bool false)) w:=λo P Q=>by
  rw[run_callFunc_extern Tryz.func206 (by kernel_rfl) (by kernel_rfl) (by kernel_rfl) (e:=Extern.SlicesOverlaps.overlaps #[233,233] #[4]) (by kernel_rfl),
   Lib.run_overlaps_apart w 233 4 214 Tryz.underlying233 10 Tryz.sizeOf214 ⟨a,0,none⟩ ⟨b,o,none⟩ 1 vc P Q q S tB kA J K L M (s _) (s _)]
  rfl
 have t:(cs.drop (i*10)).length=(n-i)*10:=by rw[List.length_drop,C];omega
 have g:∀m p sc,(Builtin.copy_ #[233,233] m #[.slice (some ⟨b,(i+1)*10,none⟩) (n-i) p, .slice (some ⟨b,i*10,none⟩) (n+1-i) sc]).run Tryz.prog w.drew= .ok (goInt (Nat.min (n+1-i) (n-i))) (w.drew.setCells b ((i+1)*10) (cs.drop (i*10))):=λm p sc=>
  fi w.drew _ _ m 214 b ((i+1)*10) (n-i) p ⟨b,i*10,none⟩ (n+1-i) sc 10 (cs.drop (i*10)) Tryz.underlying233 va (by rw[t];simp only[Nat.min_def];split<;>omega)
   (λj v f=>by rw[Addr.add_lit];exact E (i*10+j) v (by rwa [List.getElem?_drop]at f))
   (λj f=>l _ (by omega)) (λj f=>r _) (λv hv=>G v (List.mem_of_mem_drop hv))
 obtain⟨u,hW1⟩:∃u,u=w.drew.setCells b ((i+1)*10) (cs.drop (i*10)):=⟨_,rfl⟩
 have y:∀k,k<(n+1)*10->(u.cell? ⟨b,k,none⟩).isSome=true:=λk hk=>by
  rw[hW1];exact isSome_setCells b (cs.drop (i*10)) ((i+1)*10) w.drew (λj f=>l _ (by rw[t]at f;omega)) _ (l k hk)
 have z:∀(W:World),(∀x,W.cell? x=u.cell? x)->(∀x,W.frozen? x=u.frozen? x)->∀m p,(Builtin.copy_ #[233,233] m #[.slice (some ⟨b,i*10,none⟩) (n+1-i) p, .slice (some ⟨a,0,none⟩) 1 vc]).run Tryz.prog W= .ok (goInt (Nat.min 1 (n+1-i))) (W.setCells b (i*10) vs):=λW A R m p=>
  fi W _ _ m 214 b (i*10) (n+1-i) p ⟨a,0,none⟩ 1 vc 10 vs Tryz.underlying233 va (by rw[D];simp only[Nat.min_def];split<;>omega)
   (λj v f=>by
    rw[Addr.add_lit,A,hW1,World.cell?_setCells_out b _ _ _ _ (λh _=>absurd h q),Nat.zero_add];exact F j v f)
   (λj f=>by rw[A];exact y _ (by omega)) (λj f=>by rw[R,hW1,World.frozen?_setCells];exact r _) H
 rw[<-hW1]at g
 go_enter Tryz.func184,Tryz.ntmps184
 go_wp2_with (simp only[O])
 go_region_law_o (refine step_copy_runI rfl _ _ 233 233 rfl _ _ (by simp[Act.eval,Act.put]) (by simp[Act.eval,Act.put]) (g _ _ _) ?_)
 go_wp2_with (at_builtin;refine wpList_copy_runI _ rfl _ _ 233 233 rfl _ _ rfl rfl (z _ (λ_=>rfl) (λ_=>rfl) _ _) ?_)
 go_ret
 first|exact⟨rfl,rfl⟩|exact⟨rfl,by rw[hW1]⟩
abbrev AI:Value:= .agg #[.int .i64 0, .int .i64 0, .int .i64 0, .int .i64 0, .bool false, .int .i64 0, .int .i64 0, .bool false, .int .i64 0, .int .i64 0]
theorem Fw(b n c i vb vc:Nat)(cs vs:List Value)(w:World)(hi:i<n)(hnc:n<=c)(hroom:c<n+1)(hn6:n<=1000000)
 (hcl:cs.length=n*10) (hvl:vs.length=10)
 (hcs:∀j v,cs[j]?=some v->w.cell? ⟨b,j,none⟩=some v)
 (hvs:∀j v,vs[j]?=some v->w.cell? ⟨vb,j,none⟩=some v) (h1c:∀v∈cs,v.oneCell'=true) (h1v:∀v∈vs,v.oneCell'=true):
 Calls Tryz.prog 184 #[.slice (some ⟨b,0,none⟩) n c, .int .i64 i, .slice (some ⟨vb,0,none⟩) 1 vc] w λe w'=>
  e= .returned (.slice (some ⟨w.heap.size,0,none⟩) (n+1) (grownCap w (n+1) c 214))/\
  w'=(((w.alloc (.cells ((cs.take (i*10)).toArray++Builtin.zeroCells AI.cells (n+1-i)++Builtin.zeroCells AI.cells (grownCap w (n+1) c 214-(n+1))) 214)).drew.setCells w.heap.size (i*10) vs).drew).setCells w.heap.size ((i+1)*10) (cs.drop (i*10)):=by
 have mixed:=sF;have z214:=Tryz.sizeOf214;have u3:=Tryz.runUnderlying3;have u233:=Tryz.runUnderlying233;obtain⟨i0,hi0,hz0,hzs,hzb⟩:=info_parts (P:=Tryz.prog) (e:=214) (z:=AI) (size:=10) (bytes:=80) (by kernel_rfl);have hz2:¬((i:Int)=(n:Int)):=by omega
 have hz3:(c:Int)<(n:Int)+1:=by omega
 have hbw:b<w.heap.size:=block_lt_of_cell (hcs 0 _ (List.getElem?_eq_getElem (by omega)));have hvw:vb<w.heap.size:=block_lt_of_cell (hvs 0 _ (List.getElem?_eq_getElem (by omega)));have hkk:(n:Int)+1-(i:Int)=((n+1-i:Nat):Int):=by omega
 have hik:i+(n+1-i)=n+1:=by omega
 have hold:(Builtin.firstCells i0.size i (.slice (some ⟨b,0,none⟩) i c)).run Tryz.prog w.drew= .ok (cs.take (i*10)).toArray w.drew:=by
  rw[hzs]
  exact run_firstCells_some w.drew 10 i ⟨b,0,none⟩ i c (cs.take (i*10)) (by rw[List.length_take];omega) (λj v hj=>by
   rw[Addr.add_lit,Nat.zero_add];rw[List.getElem?_take]at hj;split at hj
   ·exact hcs j v hj
   ·cases hj)
 have hrz:∀ty,(Builtin.append_ #[233,3] ty #[.slice (some ⟨b,0,none⟩) i c, .int .i64 ((n:Int)+1-(i:Int))]).run Tryz.prog w=
  .ok (.slice (some ⟨w.heap.size,0,none⟩) (n+1) (grownCap w (n+1) c 214)) (w.drew.alloc (.cells ((cs.take (i*10)).toArray++Builtin.zeroCells AI.cells (n+1-i)++Builtin.zeroCells AI.cells (grownCap w (n+1) c 214-(n+1))) 214)):=λty=>by
  have h:=Lib.run_append_grow_zeros w 233 3 ty 214 i0 _ .i64 .i64 Tryz.underlying233 Tryz.underlying3 hi0 hz0 (some ⟨b,0,none⟩) i c (cs.take (i*10)) hold (n+1-i) (by omega) (by omega) (by omega) (by omega) (by rw[hzb];omega) (by rw[hzb,hik];exact growslice_fits hroom (by omega));rw[hik]at h;rw[hkk];exact h
 obtain⟨G,hG⟩:∃G,G=grownCap w (n+1) c 214:=⟨_,rfl⟩;obtain⟨ROW,hROW⟩:∃ROW:Array Value,ROW=(cs.take (i*10)).toArray++Builtin.zeroCells AI.cells (n+1-i)++Builtin.zeroCells AI.cells (G-(n+1)):=⟨_,rfl⟩;rw[<-hG]at hrz⊢;rw[<-hROW]at hrz⊢
 have hRl:(n+1)*10<=ROW.size:=by
  rw[hROW];simp[Builtin.zeroCells,Value.cells,hcl];omega
 obtain⟨W1,hW1⟩:∃W1,W1=w.drew.alloc (.cells ROW 214):=⟨_,rfl⟩;rw[<-hW1]at hrz
 have hN:∀j,j<(n+1)*10->(W1.cell? ⟨w.heap.size,j,none⟩).isSome=true:=λj hj=>by
  rw[hW1,World.cell?_alloc_at (w:=w.drew) ROW _ w.heap.size j rfl,Array.getElem?_eq_getElem (by omega)];rfl
 have hNf:∀j,W1.frozen? ⟨w.heap.size,j,none⟩=false:=λj=>by rw[hW1];exact World.frozen?_alloc_at (w:=w.drew) ROW _ w.heap.size j rfl
 have hOb:∀j v,w.cell? ⟨b,j,none⟩=some v->W1.cell? ⟨b,j,none⟩=some v:=λj v h=>by rw[hW1,World.cell?_alloc_past (w:=w.drew) _ b j hbw];exact h
 have hOv:∀j v,w.cell? ⟨vb,j,none⟩=some v->W1.cell? ⟨vb,j,none⟩=some v:=λj v h=>by rw[hW1,World.cell?_alloc_past (w:=w.drew) _ vb j hvw];exact h
 have hcpA:∀(W:World),(∀x,W.cell? x=W1.cell? x)->(∀x,W.frozen? x=W1.frozen? x)->∀ty dc,(Builtin.copy_ #[233,233] ty #[.slice (some ⟨w.heap.size,i*10,none⟩) (n+1-i) dc, .slice (some ⟨vb,0,none⟩) 1 vc]).run Tryz.prog W= .ok (goInt (Nat.min 1 (n+1-i))) (W.setCells w.heap.size (i*10) vs):=λW hWc hWf ty dc=>
  fi W _ _ ty 214 w.heap.size (i*10) (n+1-i) dc ⟨vb,0,none⟩ 1 vc 10 vs Tryz.underlying233 va (by rw[hvl];simp only[Nat.min_def];split<;>omega)
   (λj v hj=>by rw[Addr.add_lit,hWc,Nat.zero_add];exact hOv _ v (hvs j v hj))
   (λj hj=>by rw[hWc];exact hN _ (by omega)) (λj hj=>by rw[hWf];exact hNf _) h1v
 have hGn:n+1<=G:=by rw[hG];exact grownCap_ge w _ _ _
 have hG63:G<=9223372036854775807:=by
  have:=grownCap_le_maxLen w (n+1) c 214 (by unfold maxLen;omega);rw[<-hG]at this;unfold maxLen at this;omega
 have hGi:¬(G=i):=by omega
 have hGim:¬(G=i+1):=by omega
 have hci:¬(c=i):=by omega
 have hbN:b≠w.heap.size:=by omega
 have hdl:(cs.drop (i*10)).length=(n-i)*10:=by rw[List.length_drop,hcl];omega
 have hcpB:∀(W:World),(∀x,W.cell? x=(W1.setCells w.heap.size (i*10) vs).cell? x)->(∀x,W.frozen? x=(W1.setCells w.heap.size (i*10) vs).frozen? x)->∀ty dc sc,(Builtin.copy_ #[233,233] ty #[.slice (some ⟨w.heap.size,(i+1)*10,none⟩) (n-i) dc, .slice (some ⟨b,i*10,none⟩) (n-i) sc]).run Tryz.prog W= .ok (goInt (Nat.min (n-i) (n-i))) (W.setCells w.heap.size ((i+1)*10) (cs.drop (i*10))):=λW hWc hWf ty dc sc=>
  fi W _ _ ty 214 w.heap.size ((i+1)*10) (n-i) dc ⟨b,i*10,none⟩ (n-i) sc 10 (cs.drop (i*10)) Tryz.underlying233 va (by rw[hdl];simp only[Nat.min_def];split<;>omega)
   (λj v hj=>by
    rw[Addr.add_lit,hWc,World.cell?_setCells_out _ _ _ _ _ (λh _=>absurd h hbN)];exact hOb _ v (hcs (i*10+j) v (by rwa [List.getElem?_drop]at hj)))
   (λj hj=>by rw[hWc];exact isSome_setCells _ vs (i*10) W1 (λt ht=>hN _ (by rw[hvl]at ht;omega)) _ (hN _ (by omega)))
   (λj hj=>by rw[hWf,World.frozen?_setCells];exact hNf _) (λv hv=>h1c v (List.mem_of_mem_drop hv))
 subst hW1;have hE1:∀x,((w.alloc (.cells ROW 214)).drew).cell? x=(w.drew.alloc (.cells ROW 214)).cell? x:=λx=>rfl;have hE2:∀x,((w.alloc (.cells ROW 214)).drew).frozen? x=(w.drew.alloc (.cells ROW 214)).frozen? x:=λx=>rfl;have hF1:∀x,(((w.alloc (.cells ROW 214)).drew.setCells w.heap.size (i*10) vs).drew).cell? x=((w.drew.alloc (.cells ROW 214)).setCells w.heap.size (i*10) vs).cell? x:=λx=>rfl;have hF2:∀x,(((w.alloc (.cells ROW 214)).drew.setCells w.heap.size (i*10) vs).drew).frozen? x=((w.drew.alloc (.cells ROW 214)).setCells w.heap.size (i*10) vs).frozen? x:=λx=>rfl;have hw1:IntKind.i64.wrap ((i:Int)+1)=(i:Int)+1:=by rw[IntKind.wrap_i64];omega
 have hw2:IntKind.i64.wrap ((n:Int)+1)=(n:Int)+1:=by rw[IntKind.wrap_i64];omega
 have hw3:IntKind.i64.wrap ((n:Int)+1-(i:Int))=(n:Int)+1-(i:Int):=by rw[IntKind.wrap_i64];omega
 have hb1:(0:Int)<=(i:Int)+1:=by omega
 have hin:i<=n:=by omega
 have htn:((i:Int)+1).toNat=i+1:=by omega
 have hb3:(i:Int)<=(n:Int):=by omega
 clear hkk hik hold hROW hG hRl
 go_enter Tryz.func184,Tryz.ntmps184
 go_wp2_with (first
  |(at_builtin;refine Lib.wpList_append_run _ rfl _ _ _ _ rfl _ _ rfl rfl _ _ (hrz _) ?_)
  |(at_builtin;refine wpList_copy_runI _ rfl _ _ 233 233 rfl _ _ rfl rfl (hcpA _ hE1 hE2 _ _) ?_)
  |(at_builtin;refine wpList_copy_runI _ rfl _ _ 233 233 rfl _ _ rfl rfl (hcpB _ (λ_=>rfl) (λ_=>rfl) _ _ _) ?_))
 go_region_law_o (refine step_copy_runI rfl _ _ 233 233 rfl (.slice (some ⟨w.heap.size,(i+1)*10,none⟩) (n-i) (G-(i+1))) (.slice (some ⟨b,i*10,none⟩) (n-i) (c-i)) (by simp[Act.eval,Act.put]) (by simp[Act.eval,Act.put]) (hcpB _ hF1 hF2 3 (G-(i+1)) (c-i)) ?_)
 go_wp2
 go_ret
 exact⟨rfl,rfl⟩
theorem ve(b n c g vc:Nat)(vs:List Value)(w:World)(a:n+1<=c)(D:n<=1000000)
 (m:vs.length=10) (o:∀j,j<(n+1)*10->(w.cell? ⟨b,j,none⟩).isSome=true) (p:∀j,w.frozen? ⟨b,j,none⟩=false)
 (q:∀j v,vs[j]?=some v->w.cell? ⟨g,j,none⟩=some v) (r:∀v∈vs,v.oneCell'=true):
 Calls Tryz.prog 184 #[.slice (some ⟨b,0,none⟩) n c, .int .i64 n, .slice (some ⟨g,0,none⟩) 1 vc] w λe w'=>
  e= .returned (.slice (some ⟨b,0,none⟩) (n+1) c)/\w'=w.setCells b (n*10) vs:=by
 have s:=sF;have y:=Tryz.sizeOf214;have G:=Tryz.runUnderlying3;have A:=Tryz.runUnderlying233;obtain⟨B,t,E,f,F⟩:=info_parts (P:=Tryz.prog) (e:=214) (z:=AI) (size:=10) (bytes:=80) (by kernel_rfl)
 have i:Src Tryz.prog B.size 233 (.slice (some ⟨g,0,none⟩) 1 vc) 1 vs w:=by
  rw[f];exact Src.ofSlice w Tryz.underlying233 ⟨g,0,none⟩ 1 vc vs (by omega) (λj u C=>by rw[Addr.add_lit,Nat.zero_add];exact q j u C) r
 have l:∀x,(Builtin.append_ #[233,233] x #[.slice (some ⟨b,0,none⟩) n c, .slice (some ⟨g,0,none⟩) 1 vc]).run Tryz.prog w= .ok (.slice (some ⟨b,0,none⟩) (n+1) c) (w.setCells b (n*10) vs):=λx=>by
  have h:=run_append_room_src (w:=w) 233 233 x 214 B Tryz.underlying233 t b 0 n c _ 1 vs i a (by rw[m,f];intro j C;rw[Nat.zero_add];exact o _ (by omega)) (by intro j _;exact p _);rw[f,Nat.zero_add]at h;exact h
 go_enter Tryz.func184,Tryz.ntmps184
 go_wp2_with (at_builtin;refine Lib.wpList_append_run _ rfl _ _ _ _ rfl _ _ rfl rfl _ _ (l _) ?_)
 all_goals (go_ret;exact⟨rfl,rfl⟩)
theorem nT(base:Option Addr)(n c vb vc:Nat)(cs vs:List Value)(w:World)(hnc:n<=c)(hroom:c<n+1)(hn6:n<=1000000)
 (hcl:cs.length=n*10) (hvl:vs.length=10) (hnil:base=none->n=0)
 (hcs:∀a,base=some a->∀j v,cs[j]?=some v->w.cell? (a.add j)=some v)
 (hvs:∀j v,vs[j]?=some v->w.cell? ⟨vb,j,none⟩=some v) (h1v:∀v∈vs,v.oneCell'=true):
 Calls Tryz.prog 184 #[.slice base n c, .int .i64 n, .slice (some ⟨vb,0,none⟩) 1 vc] w λe w'=>
  e= .returned (.slice (some ⟨w.heap.size,0,none⟩) (n+1) (grownCap w (n+1) c 214))/\
  w'=w.drew.alloc (.cells ((cs++vs).toArray++Builtin.zeroCells AI.cells (grownCap w (n+1) c 214-(n+1))) 214):=by
 have mixed:=sF;have z214:=Tryz.sizeOf214;have u3:=Tryz.runUnderlying3;have u233:=Tryz.runUnderlying233;obtain⟨i0,hi0,hz0,hzs,hzb⟩:=info_parts (P:=Tryz.prog) (e:=214) (z:=AI) (size:=10) (bytes:=80) (by kernel_rfl)
 have hsrc:Src Tryz.prog i0.size 233 (.slice (some ⟨vb,0,none⟩) 1 vc) 1 vs w:=by
  rw[hzs];exact Src.ofSlice w Tryz.underlying233 ⟨vb,0,none⟩ 1 vc vs (by omega) (λj u hj=>by rw[Addr.add_lit,Nat.zero_add];exact hvs j u hj) h1v
 have hold:(Builtin.firstCells i0.size n (.slice base n c)).run Tryz.prog w.drew= .ok cs.toArray w.drew:=by
  rw[hzs];cases base with
  |none=>
   have h0:=hnil rfl;subst h0;rw[List.length_eq_zero_iff.1 (by omega:cs.length=0)];exact run_firstCells_none w.drew 10 0 0 c
  |some a=>exact run_firstCells_some w.drew 10 n a n c cs (by omega) (λj v hj=>hcs a rfl j v hj)
 have hrun:∀ty,(Builtin.append_ #[233,233] ty #[.slice base n c, .slice (some ⟨vb,0,none⟩) 1 vc]).run Tryz.prog w=_:=λty=>
  run_append_grow_src w 233 233 ty 214 i0 _ Tryz.underlying233 hi0 hz0 base n c cs hold _ 1 vs hsrc hroom (by omega) (by rw[hzb];exact growslice_fits hroom (by omega))
 go_enter Tryz.func184,Tryz.ntmps184
 cases base with
 |none=>
  have h0:=hnil rfl;subst h0
  go_wp2_with (at_builtin;refine Lib.wpList_append_run _ rfl _ _ _ _ rfl _ _ rfl rfl _ _ (hrun _) ?_)
  go_ret
  exact⟨rfl,rfl⟩
 |some a=>
  obtain⟨ab,ao,asp⟩:=a
  go_wp2_with (at_builtin;refine Lib.wpList_append_run _ rfl _ _ _ _ rfl _ _ rfl rfl _ _ (hrun _) ?_)
  all_goals (go_ret;exact⟨rfl,rfl⟩)
end
end
end Go.Tp
namespace Go.Tp
open Go.Hv Go.Proofs Go.RowKit
set_option maxRecDepth 100000
set_option maxHeartbeats 0
theorem Fx{w:World}{b o:Nat}{cs:Array Value}{ty:TypeId}{vs:List Value}(c:w.heap[b]?=some (.cells cs ty (0,0)))(i:o+vs.length<=cs.size)(g:∀v∈vs,v.oneCell'=true):
 ∃a,(w.setCells b o vs).heap[b]?=some (.cells a ty (0,0))/\a.toList=cs.toList.take o++vs++cs.toList.drop (o+vs.length)/\
  (w.setCells b o vs).heap.size=w.heap.size/\(w.setCells b o vs).os=w.os/\(w.setCells b o vs).tape=w.tape/\(w.setCells b o vs).output=w.output/\∀e,e≠b->(w.setCells b o vs).heap[e]?=w.heap[e]?:=by
 obtain⟨l,a,h,q⟩:=eW Tryz.prog c i g;have f:=run_storeCells_cells (P:=Tryz.prog) b o vs 0 w (λj m=>by rw[Nat.add_zero,cell_of_row w b _ _ _ _ c,Array.getElem?_eq_getElem (by omega)];rfl) (λj _=>by simp[World.frozen?,c]) g;rw[h]at f;simp only[Nat.add_zero,Result.ok.injEq,true_and]at f;subst f;exact⟨a,q⟩
def kq:Ct:=⟨3,⟨[(0,false,[.own 0]),sI 1,(2,false,[.own 1])],[some (.sl gF),some (.sl gF)]⟩,[⟨[(0,false,[.own 2])],[none,none,some (.sl gF)]⟩],λ(i,l,v,_)=>one (0<=i/\i<=l.length/\l.length<=1000000/\v.length=1) (l.take i.toNat++v++l.drop i.toNat,())⟩
theorem nU{F:Nat->Prop}{ρ:Nat->Pl}{w w':World}{h:Nat->Option Ch}{nb cap:Nat}{C:Array Value}{ty:TypeId}{l':List Mk}{us:List Value}(hh:dq F ρ w h)(n:∀k,2<=k->ρ k= .un)
 (h0:l'.length≠0) (j:l'.length<=cap) (o:w'.heap[nb]?=some (.cells C ty (0,0))) (p:cap*10<=C.size) (r:C.toList.take us.length=us) (B:dz (Rd w (Av F ρ h) gF) l' us)
 (x:w.heap.size<=w'.heap.size) (D:w'.os=w.os) (E:w'.tape=w.tape) (G:w'.output=w.output) (H:∀b,b<w.heap.size->¬Go.Hv.oW ρ h b->w'.heap[b]?=w.heap[b]?)
 (l:Go.Hv.oW ρ h nb\/w.heap.size<=nb):Go.Hv.IS F ρ w h 2 (cY kq.out 0) ((cY kq.out 0).get (l',())) (.returned (.slice (some ⟨nb,0,none⟩) l'.length cap)) w':=by
 have s:nb<w'.heap.size:=by
  rcases bI nb w'.heap.size with q|q
  ·exact q
  ·rw[Array.getElem?_eq_none q]at o;cases o
 have g:∀b,Go.Hv.oW (gd ρ 2 (.sv (.slice (some ⟨nb,0,none⟩) l'.length cap))) (ee (cY kq.out 0) ((cY kq.out 0).get (l',()))) b->b=nb:=by
  rintro b ⟨k,c,a,_,f⟩
  have e:k=2:=by
   match k,a with
   |0,a=>cases a
   |1,a=>cases a
   |2,_=>rfl
   |k+3,a=>cases a
  subst e;rw[bP]at f;obtain⟨t,rfl⟩:∃t,cap=t+1:=⟨cap-1,by omega⟩;simp[Pl.blk]at f;exact f.symm
 have y:Mv ρ w h (gd ρ 2 (.sv (.slice (some ⟨nb,0,none⟩) l'.length cap))) w' (ee (cY kq.out 0) ((cY kq.out 0).get (l',()))):=
  ⟨D,E,G,x,H,λb f q=>by
   have:=g b q;subst this;rcases l with q|q
   ·exact q
   ·omega⟩
 have J:¬F nb:=by
  rcases l with⟨k,c,a,u,f⟩|q
  ·exact(hh.fr k c nb a u f).2
  ·intro K;have:=hh.gs nb K;omega
 have e:∀{k c},ee (cY kq.out 0) ((cY kq.out 0).get (l',())) k=some c->k=2/\c= .sl gF l':=by
  intro k c a
  match k,a with
  |0,a=>cases a
  |1,a=>cases a
  |2,a=>exact⟨rfl,(Option.some.inj a).symm⟩
  |k+3,a=>cases a
 refine⟨gd ρ 2 (.sv (.slice (some ⟨nb,0,none⟩) l'.length cap)),[.slice (some ⟨nb,0,none⟩) l'.length cap],rfl,λk a=> .inl (gp _ _ _ (by omega)),⟨⟨_,aL.single (i:= .own 2) ⟨_,_,_,bP _ _ _,rfl⟩,rfl⟩,trivial⟩,⟨λk c a=>?_,λk L c t b a v _ _ _ _=>?_,λk c b a u f=>?_,λk m M N z A a=>?_,λb f=>bu (hh.gs b f) x⟩,y,λk a=>?_⟩
 ·obtain⟨rfl,rfl⟩:=e a;exact⟨_,bP _ _ _, .inl ⟨nb,cap,C,ty,us,rfl,by omega,o,j,p,B.imp (λ_ _=>Rd.evo y.evo),r⟩⟩
 ·rw[(e a).1,(e v).1]
 ·have:=g b ⟨k,c,a,u,f⟩;subst this;exact⟨s,J⟩
 ·have:=(e a).2;cases this
 ·have a:3<=k:=a;rw[gp _ _ _ (by omega)];exact n k (by omega)
theorem jd{α:Type}{a b:List α}{n:Nat}(h:a.length=n):(a++b).take n=a:=by subst h;simp
theorem frz{w:World}{b:Nat}{cs:Array Value}{ty:TypeId}(h:w.heap[b]?=some (.cells cs ty (0,0)))(j:Nat):w.frozen? ⟨b,j,none⟩=false:=by simp[World.frozen?,h]
theorem shp{w:World}{b:Nat}{cs:Array Value}{ty:TypeId}(h:w.heap[b]?=some (.cells cs ty (0,0))):w.shape? b=some (ty,cs.size):=by simp[World.shape?,h]
theorem rdc{w:World}{b:Nat}{cs:Array Value}{ty:TypeId}{us:List Value}(h:w.heap[b]?=some (.cells cs ty (0,0)))(c:cs.toList.take us.length=us)(j:Nat)(v:Value)(a:us[j]?=some v):w.cell? ⟨b,j,none⟩=some v:=by
 rw[cell_of_row w b j _ _ _ h,<-Array.getElem?_toList];rw[<-c,List.getElem?_take]at a;split at a
 ·exact a
 ·cases a
theorem Sr:bS Tryz.prog 184 kq:=by
 rintro⟨i,l,v,⟨⟩⟩ Q ⟨⟨h0,h1,h2,h3⟩,hQ⟩ F ρ w a9 e3 hh hv c6;have h0:@bc Int _ 0 i:=h0;have h1:@bc Int _ i l.length:=h1;obtain⟨k,rfl⟩:=bR h0;rw[show((k:Int)).toNat=k by omega]at hQ;have hQ:Q ⟨0,(l.take k++v++l.drop k,())⟩:=hQ
 match a9,hv with
 |[v0,v1,v2],⟨⟨a0,b0,c0⟩,⟨a1,b1,c1⟩,⟨a2,b2,c2⟩,_⟩=>
 have e0:=aL.of_single b0;have e1:=aL.of_single b1;have e2:=aL.of_single b2;obtain⟨ad,n,cap,X,rfl⟩:=e0;obtain⟨b3,n2,c,Y,rfl⟩:=e2;have e1:a1=[gj .i64 (k:Int)]:=e1;subst e1;have c0:[Value.slice ad n cap]=[v0]:=c0;have c1:[gj .i64 (k:Int)]=[v1]:=c1;have c2:[Value.slice b3 n2 c]=[v2]:=c2;simp only[List.cons.injEq,and_true]at c0 c1 c2;subst c0 c1 c2;have a4:(ee kq.inp (kq.inp.get ((k:Int),l,v,()))) 0=some (.sl gF l):=rfl;have b4:(ee kq.inp (kq.inp.get ((k:Int),l,v,()))) 1=some (.sl gF v):=rfl;obtain⟨sv,s1,s2⟩:=hh.ok 0 _ a4;obtain⟨e7,t1,t2⟩:=hh.ok 1 _ b4;have X:ρ 0= .sv (.slice ad n cap):=X;have Y:ρ 1= .sv (.slice b3 n2 c):=Y;rw[X]at s1;rw[Y]at t1;simp only[Pl.sv.injEq]at s1 t1;subst s1 t1;rcases t2 with⟨U,e4,D,c7,f,g1,g2,g3,g4,g5,g6,g7⟩|⟨rfl,_⟩
 rotate_left
 ·cases h3
 simp only[Value.slice.injEq]at g1;obtain⟨rfl,rfl,rfl⟩:=g1;rw[h3]at g4⊢;have g5:c*10<=D.size:=g5;have t:f.length=10:=by have:=dz.length (λ_ _=>Rd.length) g6;rw[h3]at this;exact this
 have y:∀x∈f,x.oneCell'=true:=dz.all (λ_ _=>Rd.one) g6;have J:=rdc g3 g7
 have e8:U<w.heap.size:=by
  rcases bI U w.heap.size with q|q
  ·exact q
  ·rw[Array.getElem?_eq_none q]at g3;cases g3
 have A:∀j,2<=j->ρ j= .un:=λj hj=>c6 j hj;have hL:(l.take k++v++l.drop k).length=l.length+1:=by simp only[aa,be,cI];omega
 rcases s2 with⟨b,e5,C,ty,cs,K,q2,q3,q4,q5,q6,q7⟩|⟨rfl,a,K⟩
 ·simp only[Value.slice.injEq]at K;obtain⟨rfl,rfl,rfl⟩:=K;have q5:cap*10<=C.size:=q5;have L:cs.length=l.length*10:=dz.length (λ_ _=>Rd.length) q6;have a5:∀x∈cs,x.oneCell'=true:=dz.all (λ_ _=>Rd.one) q6;have a6:=rdc q3 q7;have b5:(ρ 0).blk=some b:=by rw[X];obtain⟨c',rfl⟩:∃c',cap=c'+1:=⟨cap-1,by omega⟩;rfl
  have c8:(ρ 1).blk=some U:=by rw[Y];obtain⟨c',rfl⟩:∃c',c=c'+1:=⟨c-1,by omega⟩;rfl
  have c9:U≠b:=λe=>by subst e;exact absurd (hh.inj 0 1 _ _ U a4 b4 rfl rfl b5 c8) (by decide)
  have E:Go.Hv.oW ρ (ee kq.inp (kq.inp.get ((k:Int),l,v,()))) b:=⟨0,_,a4,rfl,b5⟩;obtain⟨p,s,rfl,r1,r2⟩:=dz.split (l:=l.take k) (m:=l.drop k) (by rw[dI];exact q6)
  have B:p.length=k*10:=by
   have:=dz.length (λ_ _=>Rd.length) r1;rw[be,eB (by omega)]at this;exact this
  have hR:dz (Rd w (Av F ρ (ee kq.inp (kq.inp.get ((k:Int),l,v,())))) gF) (l.take k++v++l.drop k) (p++f++s):=(r1.append g6).append r2;have b6:(p++s).drop (k*10)=s:=by rw[<-B];simp
  have d0:(p++s).take (k*10)=p:=jd B;have e6:s.length=(l.length-k)*10:=by rw[aa]at L;omega
  have e9:C.toList.length=C.size:=by simp
  have f0:(p++f++s).length=(l.length+1)*10:=by simp only[aa];omega
  have b7:l.length+1<=cap->∀j,j<(l.length+1)*10->(w.cell? ⟨b,j,none⟩).isSome=true:=λhr j hj=>by
   rw[cell_of_row w b j _ _ _ q3,Array.getElem?_eq_getElem (by omega)];rfl
  have a3:∀x∈s,x.oneCell'=true:=λx hx=>a5 x (List.mem_append_right _ hx)
  have b8:C.toList=p++s++C.toList.drop (l.length*10):=by
   conv=>lhs;rw[<-dI (l.length*10) C.toList]
   rw[<-L,q7]
  by_cases hr:l.length+1<=cap
  ·
   rcases bI k l.length with hk|hk
   ·refine(CB b l.length cap k U c (p++s) f w hk hr h2 c9 L t a6 (b7 hr) (frz q3) J a5 y c7 ty D.size C.size (shp g3) (shp q3) (by omega) (frz g3)).mono ?_;rintro e w' ⟨rfl,rfl⟩;rw[b6];obtain⟨C1,f1,W,f3,f4,f5,f6,f7⟩:=Fx (w:=w.drew) (o:=(k+1)*10) (vs:=s) q3 (by omega) a3;have M:=aH ah W;simp only[aa,be,cI,s8]at M;obtain⟨C2,d1,d2,d3,d4,d5,d6,d7⟩:=Fx (o:=k*10) (vs:=f) f1 (by omega) y;have a7:=aH ah d2;simp only[aa,be,cI,s8]at a7
    have N:C1.toList.take (k*10)=p:=by
     rw[W,ay,List.take_append_of_le_length (by simp;omega),List.take_take,eB (by omega),b8,ay];exact jd B
    have d8:∃z,C1.toList.drop (k*10+f.length)=s++z:=by
     refine⟨C.toList.drop ((k+1)*10+s.length),?_⟩;rw[W,t,ay];have:(C.toList.take ((k+1)*10)).length=k*10+10:=by rw[be];omega
     rw[<-this,List.drop_left]
    obtain⟨z,hz⟩:=d8;rw[N,hz]at d2;refine⟨⟨0,(l.take k++v++l.drop k,())⟩,hQ,?_⟩
    have:=nU hh A (nb:=b) (cap:=cap) (us:=p++f++s) (by omega) (by omega) d1 (by omega) (by rw[d2,<-ay];exact jd rfl) hR (by rw[d3,f3];exact aD _) (d4.trans f4) (d5.trans f5) (d6.trans f6) (λh r H=>by
     have O:h≠b:=λe=>H (by rw[e];exact E);rw[d7 h O,f7 h O];rfl) (.inl E)
    rw[hL]at this;exact this
   ·obtain rfl:k=l.length:=by omega
    refine(ve b l.length cap U c f w hr h2 t (b7 hr) (frz q3) J y).mono ?_;rintro e w' ⟨rfl,rfl⟩;obtain⟨C1,f1,W,f3,f4,f5,f6,f7⟩:=Fx (w:=w) (o:=l.length*10) (vs:=f) q3 (by omega) y;have M:=aH ah W;simp only[aa,be,cI,s8]at M;have P:s=[]:=r8.1 (by omega);subst P;refine⟨⟨0,(l.take l.length++v++l.drop l.length,())⟩,hQ,?_⟩;have N:C.toList.take (l.length*10)=p:=by rw[b8,aW];exact jd B
    have:=nU hh A (nb:=b) (cap:=cap) (us:=p++f++[]) (by omega) (by omega) f1 (by omega) (by rw[W,N,aW];exact jd rfl) hR (by rw[f3];exact aD _) f4 f5 f6 (λh r H=>f7 h (λe=>H (by rw[e];exact E))) (.inl E);rw[hL]at this;exact this
  ·
   have b9:=grownCap_ge w (l.length+1) cap 214;rcases bI k l.length with hk|hk
   ·refine(Fw b l.length cap k U c (p++s) f w hk q4 (by omega) h2 L t a6 J a5 y).mono ?_;rintro e w' ⟨rfl,rfl⟩;rw[b6,d0];generalize grownCap w (l.length+1) cap 214=G at*;obtain⟨R,g⟩:∃R:Array Value,R=p.toArray++bL AI.cells (l.length+1-k)++bL AI.cells (G-(l.length+1)):=⟨_,rfl⟩;rw[<-g]
    have c3:R.size=G*10:=by
     rw[g];simp only[Array.size_append,size_zeroCells,List.size_toArray,B];show k*10+(l.length+1-k)*10+(G-(l.length+1))*10=G*10;omega
    have d9:R.toList.take (k*10)=p:=by
     rw[g];simp only[Array.toList_append,ay];exact jd B
    have c4:(w.alloc (.cells R 214)).drew.heap[w.heap.size]?=some (.cells R 214 (0,0)):=Go.heap_alloc_new w _;have a8:∀h,h<w.heap.size->(w.alloc (.cells R 214)).drew.heap[h]?=w.heap[h]?:=λh r=>(fH.drewAlloc w (.cells R 214)).old h r;have c5:(w.alloc (.cells R 214)).drew.heap.size=w.heap.size+1:=dX ..;obtain⟨C1,f1,W,f3,f4,f5,f6,f7⟩:=Fx (o:=k*10) (vs:=f) c4 (by omega) y;have M:=aH ah W;simp only[aa,be,cI,s8]at M;rw[d9]at W;obtain⟨C2,d1,d2,d3,d4,d5,d6,d7⟩:=Fx (w:=((w.alloc (.cells R 214)).drew.setCells w.heap.size (k*10) f).drew) (o:=(k+1)*10) (vs:=s) f1 (by omega) a3;have a7:=aH ah d2;simp only[aa,be,cI,s8]at a7
    have N:C1.toList.take ((k+1)*10)=p++f:=by
     rw[W];exact jd (by rw[aa];omega)
    rw[N]at d2;refine⟨⟨0,(l.take k++v++l.drop k,())⟩,hQ,?_⟩
    have:=nU hh A (nb:=w.heap.size) (cap:=G) (us:=p++f++s) (by omega) (by omega) d1 (by omega) (by rw[d2];exact jd rfl) hR (by rw[d3];show w.heap.size<=((w.alloc (.cells R 214)).drew.setCells w.heap.size (k*10) f).heap.size;rw[f3,c5];omega) (d4.trans f4) (d5.trans f5) (d6.trans f6) (λh r H=>by
     have O:h≠w.heap.size:=by omega
     rw[d7 h O];show((w.alloc (.cells R 214)).drew.setCells w.heap.size (k*10) f).heap[h]?=_;rw[f7 h O,a8 h r]) (.inr (aD _))
    rw[hL]at this;exact this
   ·obtain rfl:k=l.length:=by omega
    have P:s=[]:=r8.1 (by omega);subst P;refine(nT (some ⟨b,0,none⟩) l.length cap U c (p++[]) f w q4 (by omega) h2 L t (λe=>by cases e) (λa e j u hj=>by cases e;rw[Addr.add_lit,bN];exact a6 j u hj) J y).mono ?_;rintro e w' ⟨rfl,rfl⟩;generalize grownCap w (l.length+1) cap 214=G at*;obtain⟨R,g⟩:∃R:Array Value,R=(p++[]++f).toArray++bL AI.cells (G-(l.length+1)):=⟨_,rfl⟩;rw[<-g]
    have c3:R.size=G*10:=by
     rw[g];simp only[Array.size_append,size_zeroCells,List.size_toArray,aa,B,t,de];show l.length*10+0+10+(G-(l.length+1))*10=G*10;omega
    have S:=fH.drewAlloc w (.cells R 214);refine⟨⟨0,(l.take l.length++v++l.drop l.length,())⟩,hQ,?_⟩;have:=nU hh A (w':=w.drew.alloc (.cells R 214)) (nb:=w.heap.size) (cap:=G) (us:=p++f++[]) (by omega) (by omega) (Go.heap_alloc_new w.drew _) (by omega) (by rw[g];simp only[Array.toList_append,aW];exact jd rfl) hR S.size S.os S.tape S.output (λh r H=>S.old h r) (.inr (aD _));rw[hL]at this;exact this
 ·simp only[Value.slice.injEq]at K;obtain⟨rfl,rfl,rfl⟩:=K;obtain rfl:k=0:=by simp only[de]at h1;omega
  have b9:=grownCap_ge w (0+1) 0 214;refine(nT ad 0 0 U c [] f w (aD _) (by omega) (by omega) rfl t (λ_=>rfl) (λa e j u hj=>by simp at hj) J y).mono ?_;rintro e w' ⟨rfl,rfl⟩;generalize grownCap w (0+1) 0 214=G at*;obtain⟨R,g⟩:∃R:Array Value,R=([]++f).toArray++bL AI.cells (G-(0+1)):=⟨_,rfl⟩;rw[<-g]
  have c3:R.size=G*10:=by
   rw[g];simp only[Array.size_append,size_zeroCells,List.size_toArray,aa,t,de];show 0+10+(G-(0+1))*10=G*10;omega
  have S:=fH.drewAlloc w (.cells R 214);refine⟨⟨0,(v,())⟩,by simpa using hQ,?_⟩;have:=nU hh A (w':=w.drew.alloc (.cells R 214)) (l':=v) (nb:=w.heap.size) (cap:=G) (us:=f) (by omega) (by omega) (Go.heap_alloc_new w.drew _) (by omega) (by rw[g];simp only[Array.toList_append,eS];exact jd rfl) g6 S.size S.os S.tape S.output (λh r H=>S.old h r) (.inr (aD _));rw[h3]at this;exact this
def NI:bw:=(184,[kq])::NG
theorem YN:KK NI:=⟨aQ.add NH.1 (by kernel_rfl) (bo Sr),bg.add NH.2 (bo (λ_=>bJ))⟩
abbrev sN:Option CP:=some (.cells [.d (.sl gF)])
def eM(l:List Mk):Prop:=l.length<=512/\∀m∈l,NE m
def Ss:Ct:=⟨3,⟨[sP 0,sI 1,sI 2],[sN]⟩,[⟨[sI 0,sL 1],[sN]⟩],λ(t,a,l,_)=>eD (eM l/\0<=t/\t<=1099511627776/\0<=a/\a<5) (λy:Int×Bool=>0<=y.1/\y.1<=l.length) λy=>(y.1,y.2,l,())⟩
def NJ:bw:=(182,[Ss])::NI
theorem YO:KK NJ:=kA YN (cE Ss 0) (∀(c d:Int)(a:List gF.den)Q,bd Ss (c,d,a,()) Q->(a.length<=1000000/\(∀(m:gF.den),m∈a->NE m)/\0<=c/\c<=1099511627776/\0<=d/\d<5)/\∀(b:Int×Bool),0<=b.1/\b.1<=nI a->Q ⟨0,b.1,b.2,a,()⟩) (by
 unfold nI bd;rintro t a l Q ⟨⟨⟨h,c⟩,e⟩,f⟩;exact⟨⟨by omega,c,e⟩,λb g=>f (b.1,b.2) g⟩) (l:=λ_=>aM λ_=>⟨(0,false),bY _,Int.natCast_nonneg _⟩)
def Sv:Ct:=⟨1,⟨[(0,false,[.d (.sl gF)])],[]⟩,[⟨[sO 0 0],[some (.sl gF)]⟩],λ(b,_)=>one (b.length<=1000000) (b,())⟩
def NK:bw:=(167,[Sv])::NJ
theorem Fy:KK NK:=kA YO (cE Sv 0) (∀(a:List gF.den)Q,bd Sv (a,()) Q->∀(b:Bool),(b=true->a.isEmpty=true)->Br b (Q ⟨0,[],()⟩) ((0+a.length)*80<=mM/\Q ⟨0,a,()⟩)) (by
 unfold Br mM bd;rintro x Q ⟨e,a⟩ b c;refine⟨λh=>?_,λh=>⟨by omega,a⟩⟩;have:=c h;simp only[List.isEmpty_iff]at this;subst this;exact a)
def Fz:Ct:=⟨1,⟨[sP 0],[sN]⟩,[⟨[(0,false,[.d (.sl gF)])],[sN]⟩],λ(l,_)=>one (l.length<=1000000) (l,l,())⟩
theorem FA:bS Tryz.prog 130 Fz:=kC Fy (cE Fz 0) (∀(a:List gF.den)Q,bd Fz (a,()) Q->a.length<=1000000/\Q ⟨0,a,a,()⟩) (by
 unfold bd;rintro l Q ⟨h,a⟩;exact⟨h,a⟩)
def NL:bw:=(130,[Fz])::NK
theorem YP:KK NL:=⟨aQ.add Fy.1 (by kernel_rfl) (bo (FA)),bg.add Fy.2 (bo (λ_=>bJ))⟩
def Sw:Ct:=⟨1,⟨[sP 0],[sN]⟩,[⟨[sI 0],[sN]⟩],λ(l,_)=>eD (eM l) (λy:Int=>0<=y/\y<=1099511627776) λy=>(y,l,())⟩
def NM:bw:=(152,[Sw])::NL
theorem YQ:KK NM:=kA YP (cE Sw 0) (∀(a:List gF.den)Q,bd Sw (a,()) Q->Br (nI a==0) (Q ⟨0,0,a,()⟩) (ac (nI a-1)/\iN (nI a-1) a/\Q ⟨0,(gD a (nI a-1) (0,0,0,0,false,0,0,false,0,0,())).1,a,()⟩)) (by
 unfold Br gD iN nI bd;rintro l Q ⟨⟨f,e⟩,a⟩;refine⟨λ_=>a _ (by decide),λc=>?_⟩;have c:¬((l.length:Int)=0):=aE c;have b:=e _ (aS (z:=(0,0,0,0,false,0,0,false,0,0,())) (show((l.length:Int)-1).toNat<l.length by omega));exact⟨by unfold ac;omega,by omega,a _ ⟨b.1,b.2.1⟩⟩) (l:=λ_=>aM λ_=>⟨0,by decide⟩)
def Kj:Ct:=⟨3,⟨[sP 0,sI 1,sI 2],[sN]⟩,[⟨[sL 0],[sN]⟩],λ(t,a,l,_)=>eD (eM l) (λ_:Bool=>True) λy=>(y,l,())⟩
abbrev Sx(v:Bool×List gF.den×Unit):cw Kj.out:=⟨0,v⟩
def NN:bw:=(168,[Kj])::NM
theorem YR:KK NN:=kA YQ (cE Kj 0) (∀(c d:Int)(a:List gF.den)Q,let z:=Sx (false,a,());bd Kj (c,d,a,()) Q->Bd (c<1) (Q z) (Bd (1099511627776<c) (Q z) (Bd (d<0) (Q z) (Bd (5<=d) (Q z) ((eM a/\0<=c/\c<=1099511627776/\0<=d/\d<5)/\∀(b:Int×Bool),0<=b.1/\b.1<=nI a->Q ⟨0,b.2,a,()⟩))))) (by
 conv=>zeta
 unfold Bd nI bd;rintro t a l Q ⟨h,c⟩;have b:∀y,Q ⟨0,(y,l,())⟩:=λy=>c y trivial;exact⟨λ_=>b _,λe=>⟨λ_=>b _,λf=>⟨λ_=>b _,λg=>⟨λ_=>b _,λi=>⟨⟨h,by have:=an e;omega,by have:=an f;omega,by have:=an g;omega,by have:=an i;omega⟩,λ_ _=>b _⟩⟩⟩⟩⟩) (l:=λ_=>aM λ_=>⟨false,trivial⟩)
def Sy:Ct:=⟨2,⟨[sP 0,(1,true,[.d gF])],[sN]⟩,[⟨[sI 0],[sN]⟩],λ(m,l,_)=>eD (eM l) (λy:Int×List Mk=>eM y.2) λy=>(y.1,y.2,())⟩
def NO:bw:=(170,[Sy])::NN
theorem NP:KK NO:=kA YR (cE Sy 0) (∀(c:gF.den)(a:List gF.den)Q,bd Sy (c,a,()) Q->True/\Br (!M7 c) (Q ⟨0,1,a,()⟩) ((eM a/\0<=c.1/\c.1<=1099511627776/\0<=c.2.1/\c.2.1<5)/\∀(b:Int×Bool),0<=b.1/\b.1<=nI a->Br (b.2) (Q ⟨0,12,a,()⟩) (Br (nI a==512) (Q ⟨0,14,a,()⟩) (a.length<=1000000/\(0<=b.1/\b.1<=nI a/\a.length<=1000000/\1=1)/\Q ⟨0,0,cM b.1.toNat a++[c]++List.drop b.1.toNat a,()⟩)))) (by
 unfold Br nI bd;rintro⟨s,u,p,q,r,t,v,w,x,z,⟨⟩⟩ l Q ⟨h,i⟩;have f:∀(e:Int)(y:List Mk),eM y->Q ⟨0,(e,y,())⟩:=λe y A=>i (e,y) A;clear i;refine⟨trivial,λ_=>f _ _ h,λc=>?_⟩
 have j:NE (s,u,p,q,r,t,v,w,x,z,()):=by
  simp only[M7,aK,aI,ai]at c;have g:@bc Int _ 1 s/\@bc Int _ s 1099511627776/\@bc Int _ 0 u/\@lB Int _ u 5:=⟨c.1.1.1,c.1.1.2.1,c.1.1.2.2.1,c.1.1.2.2.2.1⟩;refine⟨?_,g.2.1,g.2.2.1,g.2.2.2⟩;show @bc Int _ 0 s;omega
 refine⟨⟨h,j⟩,λb o=>⟨λ_=>f _ _ h,λ_=>⟨λ_=>f _ _ h,λn=>?_⟩⟩⟩;have n:¬((l.length:Int)=512):=aE n;have B:=h.1;refine⟨by omega,⟨o.1,o.2,by omega,rfl⟩,f _ _ ⟨?_,λm a=>?_⟩⟩
 ·simp only[aa,be,cI,ba,de];omega
 ·simp only[bb,cf]at a;rcases a with(a|a)|a
  ·exact h.2 _ (List.mem_of_mem_take a)
  ·rw[a];exact j
  ·exact h.2 _ (List.mem_of_mem_drop a)) (l:=λ_=>aM λh=>⟨(0,_),h⟩)
def YS:Ct:=⟨1,⟨[(0,false,[.d .u64])],[]⟩,[⟨[sI 0],[]⟩],λ(x,_)=>one (x.toNat<=16777215) ((fM x.toNat:Int),())⟩
theorem Sz:bS Tryz.prog 173 YS:=by
 rintro⟨x,⟨⟩⟩ Q ⟨f,h⟩ F ρ w a g j l c
 match a,l with
 |[m],⟨⟨n,o,b⟩,_⟩=>
 have p:n=[gj .u64 (x.toNat:Int)]:=aL.of_single o;subst p;have b:[gj .u64 (x.toNat:Int)]=[m]:=b;simp only[List.cons.injEq,and_true]at b;subst b;have f:x.toNat<=16777215:=f;refine(Tryz.bits_Len (x.toNat:Int) w (by omega) (by omega)).mono ?_;rintro e q ⟨rfl,rfl⟩;refine⟨_,h,ρ,[.int .i64 (fM x.toNat)],rfl,λk _=> .inl rfl,⟨⟨_,aL.single (i:= .d .i64 (fM x.toNat:Int)) rfl,rfl⟩,trivial⟩,j,Mv.refl ..,c⟩
theorem y9:∀x:Nat,x<2^24->x≠0->2^fM x<=2*x:=by
 intro x
 induction x using Nat.strongRecOn with
 |ind x a=>
  intro h b;rw[Lib.bitLen_half x b (by omega)];by_cases c:x/2=0
  ·have e:x=1:=by omega
   subst e;decide
  ·have:=a (x/2) (by omega) (by omega) c;rw[Nat.pow_add];omega
end Go.Tp
