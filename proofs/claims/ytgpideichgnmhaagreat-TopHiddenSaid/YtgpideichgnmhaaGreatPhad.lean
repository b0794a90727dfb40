/- A part of the proof of TopHiddenSaid: no conditions; packed by a program of our own. -/
import Derived.Test.YtgpideichgnmhaaGreatPhac
import Derived.Calls
set_option linter.defProp false
set_option linter.unusedVariables false
set_option linter.unusedSimpArgs false
open Array renaming getElem?_eq_some_iff→eX
open Bool renaming and_eq_true→aK,false_eq_true→cz,true_and→lx,not_eq_true'→aR
open Go.ChangeMaps renaming setBlock→eQ
open Go.Instr renaming checkKey→gF
open Go.Result renaming andThen_ok→aZ
open Go.Sem renaming run_pure→bD,run_bind→bJ
open Go.World renaming size_alloc→eP
open List renaming map_cons→aY,replicate→ax,append_assoc→ay,drop_of_length_le→bu,append_nil→aH,mem_cons→bm,getElem?_eq_getElem→an,getD→bF,map_append→dL,mem_map→fI,mem_cons_self→aF,mem_cons_of_mem→aD,all_eq_true→cH,nodup_cons→nx,mem_of_getElem?→mH,mem_map_of_mem→fV,getElem?_eq_some_iff→cq
open Nat renaming lt_of_lt_of_le→bw,le_refl→aE,zero_add→bT
open Ne renaming symm→mZ
open Option renaming isSome_iff_exists→cX,getD_some→dA
namespace Go.Hv
open Go.RowKit
variable{ok r:Bool}{es m1 m2:List MapEntry}{A F F':Nat->Prop}{kt:Ty}{D:TypeDesc}{t ty:TypeId}{x:V}{key u v z:Value}
section
def cD{kt:Ty}{β:Type}(k:kt.den):List (kt.den×β)->Option β
 |[]=>none
 |p::r=>if jd kt k p.1 then some p.2 else cD k r
def cL{kt:Ty}{β:Type}(k:kt.den)(v:β):List (kt.den×β)->List (kt.den×β)
 |[]=>[(k,v)]
 |p::r=>if jd kt k p.1 then(p.1,v)::r else p::cL k v r
def fD(f:MapEntry->Bool):List MapEntry->Nat->Option (Nat×Value)
 |[],_=>none
 |e::r,i=>if f e then some (i,e.val)else fD f r (i+1)
section
variable{P:Program}{F:Nat->Prop}{ρ:Nat->Pl}{w:World}{h get:Nat->Option Ch}{N W:Nat}
theorem Fx{f:MapEntry->Bool}(p:P.underlying t=some D)(g:∀e∈es,(Op.equal t key e.key).run P w= .ok (f e) w)
 (c:∀e∈es,∀r,Instr.sameNow D key e.key=some r->r=f e):(Instr.findKey t key es).run P w= .ok (fD f es 0) w:=by
 have ask:∀(l:List MapEntry)(i:Nat),(∀e∈l,(Op.equal t key e.key).run P w= .ok (f e) w)->(Instr.findAsking t key l i).run P w= .ok (fD f l i) w:=by
  intro l
  induction l with
  |nil=>intro i _;rfl
  |cons e r j=>
   intro i b;simp only[Instr.findAsking,fD,bJ,b e (aF ..),aZ];cases f e
   ·exact j (i+1) (λe m=>b e (aD _ m))
   ·rfl
 have n:∀(l:List MapEntry)(i:Nat)(r:Option (Nat×Value)),(∀e∈l,∀r,Instr.sameNow D key e.key=some r->r=f e)->Instr.findNow D key l i=some r->r=fD f l i:=by
  intro l
  induction l with
  |nil=>intro i r _ a;simp[Instr.findNow]at a;exact a.symm
  |cons e l j=>
   intro i r b a;simp only[Instr.findNow]at a;split at a
   ·rename_i o;simp at a;have:=b e (aF ..) _ o;simp[fD,<-this,a]
   ·rename_i o;have:=b e (aF ..) _ o;simp only[fD,<-this];exact j (i+1) r (λe m=>b e (aD _ m)) a
   ·simp at a
 simp only[Instr.findKey,bJ,run_underlying p,aZ];split
 ·rename_i r q;rw[n es 0 r c q];rfl
 ·exact ask es 0 g
def oL(P:Program)(t:TypeId):Option (TypeId×TypeId):=match P.underlying t with
 |some (.map a b)=>some (a,b)
 |_=>none
theorem jP{q:TypeId×TypeId}(h:oL P t=some q):P.underlying t=some (.map q.1 q.2):=by
 unfold oL at h;split at h<;>simp at h;subst h;assumption
def uK(P:Program)(t:TypeId)(kt:Ty):Bool:=
 match xP P t,gw kt with
 |some a,some b=>decide (a=b)&&decide (fK P t=some kt.agg)
 |_,_=>false
theorem xQ(h:uK P t kt=true):∃f d,xP P t=some f/\gw kt=some f/\fK P t=some kt.agg/\P.underlying t=some d/\(kt.agg=false->f.length=1):=by
 unfold uK at h;split at h
 case h_2=>simp at h
 rename_i a b i j;simp only[aK,ai]at h;obtain⟨rfl,c⟩:=h;obtain⟨o,g,l⟩:=Fv i;rw[c]at g;simp at g
 obtain⟨d,m⟩:∃d,P.underlying t=some d:=by
  unfold fK at c;cases n:P.underlying t with
  |none=>simp[n]at c
  |some d=>exact⟨d,rfl⟩
 exact⟨a,d,i,j,c,m,λe=>l (by rw[<-g];exact e)⟩
theorem jc.part{x:kt.den}(a:fK P t=some kt.agg)(h:jc w A kt x v):∃xs,Rd w A kt x xs/\eN P t xs v:=by
 obtain⟨xs,c,b⟩:=h;refine⟨xs,c,?_⟩;unfold eN;rw[a];cases e:kt.agg<;>simp[e]at b⊢<;>exact b
theorem Aj(h:Instr.sameNow D v u=some r):fp v u=r:=by
 unfold Instr.sameNow at h;split at h
 ·split at h<;>simp at h;exact h
 ·simp at h;subst h;simp only[fp];exact(beq_toListBytes _ _).symm
 ·simp at h;exact h
 ·simp at h
theorem xR{a b:Array Value}:Instr.sameNow D (.agg a) (.agg b)=none:=by
 cases D<;>rfl
theorem uL{c:Ty}{k:kt.den}(J:uK P t kt=true)(K:jc w A kt k key){l:List (kt.den×c.den)}(o:F2 (pA w A kt c) l es):
 ∃f:MapEntry->Bool,(Instr.findKey t key es).run P w= .ok (fD f es 0) w/\F2 (λ(q:kt.den×c.den)e=>pA w A kt c q e/\f e=jd kt k q.1) l es/\∀B,(gF B 10000 t key).run P w= .ok () w:=by
 obtain⟨L,d,G,H,y,M,X⟩:=xQ J;obtain⟨O,C,n⟩:=K.part y;have i:O.length=L.length:=(rY H C C).1.length.1
 have b:∀e:MapEntry,∀q:kt.den×c.den,pA w A kt c q e->(Op.equal t key e.key).run P w= .ok (jd kt k q.1) w/\∀r,Instr.sameNow d key e.key=some r->r=jd kt k q.1:=by
  intro e q a;obtain⟨Y,Q,s⟩:=a.1.part y;obtain⟨R,z⟩:=rY H C Q;have:=Fw (w:=w) G R n s;rw[z]at this;refine⟨this,λr u=>?_⟩;cases v:kt.agg
  ·have m:fK P t=some false:=by rw[y,v]
   simp[eN,m]at n s;rw[n,s]at z;have:=Aj u;simp only[ci,Bool.and_true]at z;rw[<-z,this]
  ·have m:fK P t=some true:=by rw[y,v]
   simp[eN,m]at n s;rw[n,s,xR]at u;simp at u
 classical
 let f:MapEntry->Bool:=λe=>if a:∃q,pA w A kt c q e then jd kt k a.choose.1 else false
 have D:∀e q,pA w A kt c q e->f e=jd kt k q.1:=by
  intro e q a;have x:∃q,pA w A kt c q e:=⟨q,a⟩;have S:=(b e q a).1;have E:=(b e _ x.choose_spec).1;rw[S]at E;simp at E;simp only[f,x,dif_pos];exact E.symm
 have j:∀e∈es,∃q,pA w A kt c q e:=by
  clear i
  induction l generalizing es with
  |nil=>cases es with
   |nil=>intro e g;simp at g
   |cons _ _=>exact o.elim
  |cons p l U=>cases es with
   |nil=>exact o.elim
   |cons e0 es=>
    intro e g;rcases bm.1 g with rfl|g
    ·exact⟨p,o.1⟩
    ·exact U o.2 e g
 refine⟨f,Fx M (λe g=>?_) (λe g r u=>?_),F2.imp (λq e a=>⟨a,D e q a⟩) o,λB=>ug B G i n⟩
 ·obtain⟨q,a⟩:=j e g;rw[D e q a];exact(b e q a).1
 ·obtain⟨q,a⟩:=j e g;rw[D e q a];exact(b e q a).2 r u
theorem qs{A:Nat->Prop}{kt a:Ty}{k:kt.den}{f:MapEntry->Bool}:∀{l:List (kt.den×a.den)}{es:List MapEntry}{i:Nat},F2 (λ(q:kt.den×a.den)e=>pA w A kt a q e/\f e=jd kt k q.1) l es->
 (fD f es i=none/\cD k l=none/\cL (β:=a.den) k=λv=>cL k v)\/∃j v x,fD f es i=some (j,v)/\cD k l=some x/\jc w A a x v
 |[],[],_,_=> .inl ⟨rfl,rfl,rfl⟩
 |p::l,e::es,i,⟨⟨b,c⟩,g⟩=>by
  simp only[fD,cD,c];cases m:jd kt k p.1
  ·have:=qs (i:=i+1) g;simpa using this
  ·exact .inr ⟨i,e.val,p.2,bY,bY,b.2⟩
def mJ(P:Program)(t:TypeId)(x i:V)(ok:Bool)(get:Nat->Option Ch):Option V:=
 match oL P t,x.one? with
 |some (a,b),some (.mp k)=>match get k with
  |some (.mp kt vt l)=>look a b kt vt l
  |some (.lk kt vt l)=>look a b kt vt l
  |_=>none
 |some (a,b),some (.fmp kt vt l)=>look a b kt vt l
 |_,_=>none
where
 look (a b:TypeId) (kt vt:Ty) (l:List (kt.den×vt.den)):Option V:=
  match zT P b,i.asD kt with
  |some (g,z0),some kd=>match ud vt z0 with
   |some x0=>if uK P a kt&&(decide (g=vt.agg)&&decide (fK P b=some vt.agg))then
    some (if ok then .tup [(vt.agg,jL vt ((cD kd l).getD x0)),(false,[.d .bl (cD kd l).isSome])]else V.ofD vt ((cD kd l).getD x0))
    else none
   |none=>none
  |_,_=>none
theorem uh(hh:dN F ρ w h)(hg:∀k b,get k=some b->h k=some b){i:V}(hx:aT w (Av F ρ h) ρ x v)(hi:aT w (Av F ρ h) ρ i u):
 dG P F ρ w h N W (Instr.lookup t v u ok) (Tr.ofOpt ((mJ P t x i ok get).map (·,[]))):=by
 refine .ofOpt λq L=>?_;cases n:mJ P t x i ok get with
 |none=>simp[n]at L
 |some y=>
  simp[n]at L;subst L;unfold mJ at n
  have go:∀{a b:TypeId}{bl:Nat}{s e:Ty}{l:List (s.den×e.den)},oL P t=some (a,b)->nz w (Av F ρ h) s e l bl->mJ.look P i ok a b s e l=some y->∃r,(Instr.lookup t (.map (some bl)) u ok).run P w= .ok r w/\aT w (Av F ρ h) ρ y r:=by
   rintro a b bl s e l c ⟨es,clock,e1,e2,_⟩ o;unfold mJ.look at o;split at o
   case h_2=>simp at o
   rename_i g z0 B hz M;split at o
   case h_2=>simp at o
   rename_i K O;split at o
   case isFalse=>simp at o
   rename_i hc;simp only[aK,ai]at hc;obtain⟨Q,rfl,a0⟩:=hc;obtain⟨iz,C,R,S,U⟩:=qk hz
   have X:jc w (Av F ρ h) e K C:=by
    obtain⟨vs,m,z⟩:=U w (Av F ρ h) ρ;exact⟨vs,jj O m,z⟩
   obtain⟨f,f1,f2,f3⟩:=uL Q (V.asD_ok M hi) e2;have A:(zeroValue b).run P w= .ok C w:=by simp[zeroValue,typeInfo,R,S]
   have p:(getObj bl).run P w= .ok (.map es clock) w:=by simp[getObj,Sem.run,e1]
   simp at o;subst o
   have fin:∀(D:Value)(Y:Bool),jc w (Av F ρ h) e ((cD B l).getD K) D->Y=(cD B l).isSome->
    aT w (Av F ρ h) ρ (if ok=true then V.tup [(e.agg,jL e ((cD B l).getD K)),(false,[I.d Ty.bl (cD B l).isSome])]else V.ofD e ((cD B l).getD K)) (if ok then .tuple #[D, .bool Y]else D):=by
    intro D Y m z;subst z;cases ok
    ·exact iK.2 m
    ·exact⟨[D, .bool _],rfl,iK.2 m,aM.2 rfl,trivial⟩
   rcases qs (i:=0) f2 with⟨g1,E,_⟩|⟨j,v',x',g1,E,g3⟩
   ·refine⟨if ok then .tuple #[C, .bool false]else C,?_,fin C false (by rw[E];exact X) (by rw[E];rfl)⟩;simp[Instr.lookup,run_underlying (jP c),p,f3,f1,g1,A]
   ·refine⟨if ok then .tuple #[v', .bool true]else v',?_,fin v' true (by rw[E];exact g3) (by rw[E];rfl)⟩;simp[Instr.lookup,run_underlying (jP c),p,f3,f1,g1]
  split at n
  case h_3=>simp at n
  case h_2=>
   rename_i a b s e l c hp;obtain⟨bl,G,_,_,h2⟩:=aQ hp hx;simp at G;subst G;obtain⟨r,H,J⟩:=go c h2 n;exact⟨r,w,H,bQ.pure hh J⟩
  rename_i a b k c hp;obtain⟨bl,hb,G⟩:=aQ hp hx;simp at G;subst G;split at n
  case h_3=>simp at n
  ·rename_i s e l hk;obtain⟨b',m,z⟩:=hh.ok _ _ (hg _ _ hk);rw[hb]at m;simp at m;subst m;obtain⟨r,H,J⟩:=go c z n;exact⟨r,w,H,bQ.pure hh J⟩
  ·rename_i s e l hk;obtain⟨b',m,z⟩:=hh.ok _ _ (hg _ _ hk);rw[hb]at m;simp at m;subst m;obtain⟨r,H,J⟩:=go c z n;exact⟨r,w,H,bQ.pure hh J⟩
def lm:List I->(Nat->Option Ch)->List I×eD
 |[],_=>([],[])
 | .own k::r,get=>match get k with
   |some (.sl e l)=>let q:=lm r (dg get k (some (.fr e l)));(.d (.sl e) l::q.1,(k,some (.fr e l))::q.2)
   |some (.fr e l)=>let q:=lm r get;(.d (.sl e) l::q.1,q.2)
   |_=>let q:=lm r get;(.own k::q.1,q.2)
 |i::r,get=>let q:=lm r get;(i::q.1,q.2)
def nR(x:V)(get:Nat->Option Ch):V×eD:=match x with
 | .val g l=>let q:=lm l get;(.val g q.1,q.2)
 |x=>(x,[])
theorem ra:∀{l:List I}{get h:Nat->Option Ch}{vs:List Value},dN F ρ w h->(∀k b,get k=some b->h k=some b)->aP w (Av F ρ h) ρ l vs->
 dN F ρ w (bj h (lm l get).2)/\Mv ρ w h ρ w (bj h (lm l get).2)/\aP w (Av F ρ (bj h (lm l get).2)) ρ (lm l get).1 vs
 |[],get,h,vs,m,_,J=>⟨m,Mv.refl _ _ _,J⟩
 |i::r,get,h,vs,m,o,⟨a,b,e,t,v⟩=>by
  have plain:dN F ρ w (bj h (lm r get).2)/\Mv ρ w h ρ w (bj h (lm r get).2)/\aP w (Av F ρ (bj h (lm r get).2)) ρ (i::(lm r get).1) vs:=by
   obtain⟨p,f,q⟩:=ra (l:=r) m o v;exact⟨p,f,a,b,e,t.evo f.evo (eA.refl ρ),q⟩
  cases i
  case own k=>
   simp only[lm];split
   ·rename_i x y z;obtain⟨E,G⟩:=pL m (o k _ z)
    have A:∀j c,dg get k (some (.fr x y)) j=some c->dg h k (some (.fr x y)) j=some c:=by
     intro j c s;by_cases H:j=k
     ·subst H;rw[bK]at s⊢;exact s
     ·rw[bI _ _ _ H]at s⊢;exact o j c s
    obtain⟨p,f,q⟩:=ra (l:=r) E A (v.evo G.evo (eA.refl ρ));refine⟨p,G.trans f,a,b,e,?_,q⟩;obtain⟨K,n,c,B,C⟩:=t;obtain⟨u,g,D⟩:=E.ok k _ (bK _ _ _);rw[B]at g;simp at g;subst g;exact⟨_,C,D.evo f.evo (λ_ _=>Rd.evo f.evo)⟩
   ·rename_i x y z;obtain⟨p,f,q⟩:=ra (l:=r) m o v;refine⟨p,f,a,b,e,?_,q⟩;obtain⟨K,n,c,B,C⟩:=t;obtain⟨u,g,D⟩:=m.ok k _ (o k _ z);rw[B]at g;simp at g;subst g;exact⟨_,C,D.evo f.evo (λ_ _=>Rd.evo f.evo)⟩
   ·exact plain
  all_goals exact plain
theorem vW{get h:Nat->Option Ch}(hh:dN F ρ w h)(c:∀k b,get k=some b->h k=some b)(a:aT w (Av F ρ h) ρ x v):
 dN F ρ w (bj h (nR x get).2)/\Mv ρ w h ρ w (bj h (nR x get).2)/\aT w (Av F ρ (bj h (nR x get).2)) ρ (nR x get).1 v:=by
 cases x
 case val g l=>
  obtain⟨e,f,i⟩:=a;obtain⟨j,m,n⟩:=ra hh c f;exact⟨j,m,e,n,i⟩
 all_goals exact⟨hh,Mv.refl _ _ _,a⟩
end
end
variable{C g:Ch}{E bl j len n:Nat}{w w':World}
section
section
variable{P:Program}{F:Nat->Prop}{ρ:Nat->Pl}{w:World}{h get:Nat->Option Ch}{N W:Nat}
theorem Fy{p q:ByteArray}(h:p.toList=q.toList):p=q:=by
 rw[ByteArray.toList_eq,ByteArray.toList_eq]at h;cases p;cases q
 congr 1
 exact Array.ext' h
theorem BW:∀{e:List Nat}{xs c:List Value},dE e xs c->ci xs c=true->xs=c
 |[],_,_,⟨rfl,rfl⟩,_=>rfl
 |_::_,_,_,⟨x,y,a,b,rfl,rfl,f,g⟩,h=>by
  simp only[ci,aK]at h
  have i:x=y:=by
   rcases f with⟨_,k,p,q,rfl,rfl⟩|⟨_,p,q,rfl,rfl⟩|⟨_,p,q,rfl,rfl⟩
   ·have:=h.1;simp[fp]at this;rw[this]
   ·have:=h.1;simp[fp]at this;rw[this]
   ·have:=h.1;simp only[fp]at this;rw[Fy (bz this)]
  rw[i,BW g h.2]
theorem uM:∀{f:List Nat}{xs:List Value},dE f xs xs->∀n,∀x∈xs,Instr.sameBits n x x=true
 |[],_,⟨rfl,_⟩,_,_,g=>by simp at g
 |_::_,_,⟨x,y,a,b,rfl,e,i,j⟩,n,z,c=>by
  simp at e;obtain⟨rfl,rfl⟩:=e;rcases bm.1 c with rfl|c
  ·rcases i with⟨_,k,p,q,rfl,_⟩|⟨_,p,q,rfl,_⟩|⟨_,p,q,rfl,_⟩
   ·cases n<;>simp[Instr.sameBits]
   ·cases n<;>simp[Instr.sameBits]
   ·cases n<;>simp only[Instr.sameBits]<;>rw[beq_toListBytes]<;>simp
  ·exact uM j n z c
theorem DL{k:kt.den}{x y:Value}(m:uK P t kt=true)(n:jc w A kt k x)(o:jc w A kt k y):x=y/\(Instr.keyThatStays x y).run P w= .ok y w:=by
 obtain⟨z,d,B,q,C,D,E⟩:=xQ m;obtain⟨G,r,j⟩:=n;obtain⟨H,s,b⟩:=o;obtain⟨l,u⟩:=rY q r s;have e:=BW l (u.trans (eR.2 rfl));subst e;have a:=uM l
 have c:x=y/\Instr.sameBits 10000 x y=true:=by
  cases f:kt.agg
  ·simp[f]at j b;subst j;simp at b;subst b;exact⟨rfl,a _ _ bY⟩
  ·simp[f]at j b;subst j b;refine⟨rfl,?_⟩;simp only[Instr.sameBits,beq_self_eq_true,lx,cH];intro p v;obtain⟨i,J,g⟩:=List.getElem_of_mem v;simp at g;subst g;exact a _ _ bY
 refine⟨c.1,?_⟩;simp[Instr.keyThatStays,c.2]
theorem uN{kt:Ty}{β:Type}{k:kt.den}{v:β}:∀{l:List (kt.den×β)},(l.map (·.1)).Nodup->((cL k v l).map (·.1)).Nodup/\(∀x,x∈(cL k v l).map (·.1)->x=k\/x∈l.map (·.1))
 |[],_=>by simp[cL]
 |p::r,h=>by
  simp only[aY,nx]at h;simp only[cL];split
  ·simp only[aY,nx];exact⟨h,λx a=> .inr a⟩
  ·rename_i b;obtain⟨f,c⟩:=uN (k:=k) (v:=v) h.2;simp only[aY,nx,bm];refine⟨⟨λg=>?_,f⟩,λx a=>?_⟩
   ·rcases c _ g with e|e
    ·exact b (eR.2 e.symm)
    ·exact h.1 e
   ·rcases a with e|e
    ·exact .inr (.inl e)
    ·rcases c x e with e|e
     ·exact .inl e
     ·exact .inr (.inr e)
theorem uO{A:Nat->Prop}{kt b:Ty}{k:kt.den}{vd:b.den}{f:MapEntry->Bool}{new:MapEntry}(a:pA w A kt b (k,vd) new):∀{l:List (kt.den×b.den)}{es:List MapEntry}{i:Nat},F2 (λ(q:kt.den×b.den)e=>pA w A kt b q e/\f e=jd kt k q.1) l es->
 fD f es i=none->F2 (pA w A kt b) (cL k vd l) (es++[new])
 |[],[],_,_,_=>⟨a,trivial⟩
 |p::l,e::es,i,⟨⟨j,m⟩,n⟩,c=>by
  simp only[fD,m]at c;cases g:jd kt k p.1
  ·simp only[g,cz,if_false]at c;simp only[cL,g,cz,if_false];exact⟨j,uO a n c⟩
  ·simp[g]at c
theorem uP{A:Nat->Prop}{kt n:Ty}{k:kt.den}{vd:n.den}{f:MapEntry->Bool}{g:MapEntry->MapEntry}:∀{l:List (kt.den×n.den)}{es:List MapEntry}{i j:Nat}{v:Value},F2 (λ(q:kt.den×n.den)e=>pA w A kt n q e/\f e=jd kt k q.1) l es->
 fD f es i=some (j,v)->i<=j/\(∃m q,es[j-i]?=some m/\pA w A kt n q m/\jd kt k q.1=true)/\((∀m q,es[j-i]?=some m->pA w A kt n q m->jd kt k q.1=true->pA w A kt n (q.1,vd) (g m))->F2 (pA w A kt n) (cL k vd l) (es.modify (j-i) g))
 |[],[],_,_,_,_,o=>by simp[fD]at o
 |p::l,e::es,i,j,v,⟨⟨s,y⟩,x⟩,o=>by
  simp only[fD,y]at o;cases r:jd kt k p.1
  ·simp only[r,cz,if_false]at o;obtain⟨E,⟨m,q,z,B,C⟩,D⟩:=uP (vd:=vd) (g:=g) x o;have t:j-i=(j-(i+1))+1:=ac
   refine⟨ac,⟨m,q,by rw[t];simpa using z,B,C⟩,λu=>?_⟩;simp only[cL,r,cz,if_false];rw[t,List.modify_succ_cons];exact⟨s,D (λm q a b c=>u m q (by rw[t];simpa using a) b c)⟩
  ·simp only[r,if_true,Option.some.injEq,Prod.mk.injEq]at o;obtain⟨rfl,_⟩:=o;refine⟨aE _,⟨e,p,bY,s,r⟩,λu=>?_⟩;simp only[cL,r,if_true,Nat.sub_self,List.modify_zero_cons];exact⟨u e p bY s r,F2.imp (λ_ _ h=>h.1) x⟩
theorem Ak{w:World}{o o':Obj}(l:w.heap[n]?=some o)(g:∀c e f,o≠ .cells c e f):∃w',(setObj n o').run P w= .ok () w'/\w'.heap[n]?=some o'/\w'.heap.size=w.heap.size/\w'.os=w.os/\w'.tape=w.tape/\w'.output=w.output/\∀a,a≠n->w'.heap[a]?=w.heap[a]?:=by
 have i:n<w.heap.size:=(eX.1 l).1;refine⟨{w with heap:=w.heap.setIfInBounds n o'},by cases o<;>first|(exact absurd rfl (g _ _ _))|(simp[setObj,Sem.run,l]),?_,bY,rfl,rfl,rfl,λa j=>?_⟩
 ·simp[i]
 ·show(w.heap.setIfInBounds n o')[a]?=_;rw[Array.getElem?_setIfInBounds];simp[mZ j]
def kF(P:Program)(t:TypeId)(x i y:V)(get:Nat->Option Ch):Option (V×eD):=
 match oL P t,x.one? with
 |some (a,b),some (.mp k)=>match get k with
  |some (.mp c e l)=>match i.asD c,(nR y get).1.asD e with
   |some f,some g=>if uK P a c&&decide (fK P b=some e.agg)then some (.tup [],(nR y get).2++[(k,some (.mp c e (cL f g l)))])else none
   |_,_=>none
  |_=>none
 |_,_=>none
theorem cR:∀(a b:eD)(h:Nat->Option Ch),bj h (a++b)=bj (bj h a) b
 |[],_,_=>rfl
 |u::r,b,h=>by simp only[List.cons_append,bj];exact cR r b _
theorem nS:∀(a:eD)(h:Nat->Option Ch)(k:Nat),(∀u∈a,u.1≠k)->bj h a k=h k
 |[],_,_,_=>rfl
 |u::r,h,k,b=>by
  simp only[bj];rw[nS r _ k (λv c=>b v (aD _ c))];have:=b u (aF ..);simp[dg,mZ this]
theorem nT:∀{l:List I}{get:Nat->Option Ch}{k:Nat}{c:Ch},get k=some c->(∀e m,c≠ .sl e m)->∀u∈(lm l get).2,u.1≠k
 |[],_,_,_,_,_=>by simp[lm]
 |i::r,get,k,c,f,g=>by
  intro u a;have plain:u∈(lm r get).2->u.1≠k:=λq=>nT (l:=r) f g u q;cases i
  case own q=>
   simp only[lm]at a;split at a
   ·rename_i e m j;simp only[bm]at a;have b:q≠k:=λn=>by subst n;rw[f]at j;exact g _ _ (Option.some.inj j)
    rcases a with rfl|a
    ·exact b
    ·exact nT (l:=r) (c:=c) (by rw[bI _ _ _ (mZ b)];exact f) g u a
   ·exact plain a
   ·exact plain a
  all_goals exact plain a
theorem Am(a:get j=some C)(b:∀e m,C≠ .sl e m):∀u∈(nR x get).2,u.1≠j:=by
 cases x
 case val g l=>exact nT a b
 all_goals simp[nR]
theorem bQ.behind{b:Nat->Option Ch}{u0 a:eD}(c:Mv ρ w h ρ w b)(f:bj h u0=b)(g:bQ F ρ w b N W x a v w'):bQ F ρ w h N W x (u0++a) v w':=by
 obtain⟨ρ',i,j,l,m,n⟩:=g;subst f;have e:=cR u0 a h;refine⟨ρ',i,j,by rw[e];exact l,by rw[e];exact m,by rw[e];exact c.trans n⟩
theorem jQ(hh:dN F ρ w h)(hg:∀k b,get k=some b->h k=some b){i y:V}{q:V×eD}(hx:aT w (Av F ρ h) ρ x v)(hi:aT w (Av F ρ h) ρ i u)(hy:aT w (Av F ρ h) ρ y z)(o:kF P t x i y get=some q):
 ∃w',(Instr.mapUpdate t v u z).run P w= .ok () w'/\bQ F ρ w h N W q.1 q.2 undef w':=by
 unfold kF at o;split at o
 case h_2=>simp at o
 rename_i a b k G hp;obtain⟨bl,R,E⟩:=aQ hp hx;simp at E;subst E;split at o
 case h_2=>simp at o
 rename_i H J l hk;split at o
 case h_2=>simp at o
 rename_i K L S U;split at o
 case isFalse=>simp at o
 rename_i X;simp only[aK,ai]at X;simp at o;subst o;obtain⟨Y,f2,f3⟩:=vW hh hg hy;have a0:=hg k _ hk;have C:bj h (nR y get).2 k=some (.mp H J l):=by rw[nS _ _ _ (Am hk bY)];exact a0
 generalize M:bj h (nR y get).2=E at Y f2 f3 C;have n:jc w (Av F ρ E) H K u:=(V.asD_ok S hi).evo f2.evo;have A:jc w (Av F ρ E) J L z:=V.asD_ok U f3;obtain⟨b',Q,p,clock,e1,e2,e3,e4,e5⟩:=Y.ok k _ C;rw[R]at Q;simp at Q;subst Q;obtain⟨f,g1,g2,g3⟩:=uL X.1 n e2;have B:(getObj bl).run P w= .ok (.map p clock) w:=by simp[getObj,Sem.run,e1]
 have fin:∀(o':Obj)(m:Array MapEntry)(c:Nat),o'= .map m c->F2 (pA w (Av F ρ E) H J) (cL K L l) m.toList->(m.toList.map (·.born)).Nodup->(∀e∈m.toList,e.born<c)->
  (∀w',(setObj bl o').run P w= .ok () w'->(Instr.mapUpdate t (.map (some bl)) u z).run P w= .ok () w')->∃w',(Instr.mapUpdate t (.map (some bl)) u z).run P w= .ok () w'/\bQ F ρ w h N W (.tup []) ((nR y get).2++[(k,some (.mp H J (cL K L l)))]) undef w':=by
  rintro o' m c rfl hF hn a1 O;obtain⟨w',s1,s2,s3,s4,s5,s6,s7⟩:=Ak (P:=P) (o':= .map m c) e1 bY;refine⟨w',O w' s1,?_⟩
  exact bQ.behind f2 M (bQ.set (N:=N) (W:=W) Y C rfl (.mp H J (cL K L l)) bY bY ac s4 s5 s6 (λb' _ a2=>s7 b' (λe=>a2 (by rw[R,e];rfl)))
   (λa3=>⟨bl,R,m,c,s2,F2.imp (λ_ _=>pA.evo a3.evo) hF,hn,a1,(uN e5).1⟩) (.tup []) undef (λ_=>fd))
 rcases r:fD f p.toList 0 with _|⟨j,vv⟩
 ·refine fin _ (p.push {key:=u,val:=z,born:=clock}) (clock+1) rfl ?_ ?_ ?_ ?_
  ·simpa using uO (new:={key:=u,val:=z,born:=clock}) ⟨n,A⟩ g2 r
  ·simp only[Array.toList_push,dL,aY,List.map_nil];refine List.nodup_append.2 ⟨e3,bY,?_⟩;intro a o b' a4 a9;simp at a4;obtain⟨e,s,rfl⟩:=fI.1 o;have:=e4 e s;omega
  ·intro e s;simp at s;rcases s with s|rfl
   ·have:=e4 e (cf s);omega
   ·exact Nat.lt_succ_self _
  ·intro w' hs;simp[Instr.mapUpdate,run_underlying (jP G),B,g3,g1,r,hs]
 ·obtain⟨_,⟨e0,q0,r1,r2,r3⟩,r4⟩:=uP (vd:=L) (g:=λe=>{e with key:=u,val:=z}) g2 r;simp only[Nat.sub_zero]at r1 r4;have a5:q0.1=K:=(eR.1 r3).symm;have a6:=(DL (P:=P) (w:=w) X.1 (by rw[<-a5];exact r2.1) n).2;refine fin _ (p.modify j λe=>{e with key:=u,val:=z}) clock rfl ?_ ?_ ?_ ?_
  ·rw[Array.toList_modify];exact r4 λe1 Q _ a b=>⟨by rw[<-eR.1 b];exact n,A⟩
  ·rw[Array.toList_modify]
   have:(p.toList.modify j λe=>{e with key:=u,val:=z}).map (·.born)=p.toList.map (·.born):=by
    apply List.ext_getElem?;intro i;simp only[List.getElem?_map,List.getElem?_modify];cases p.toList[i]?<;>simp;split<;>rfl
   rw[this];exact e3
  ·intro e s;rw[Array.toList_modify]at s;obtain⟨i,hi,a7⟩:=List.getElem_of_mem s;have:(p.toList.modify j λe=>{e with key:=u,val:=z})[i]?=some e:=by rw[an hi,a7]
   rw[List.getElem?_modify]at this;cases D:p.toList[i]? with
   |none=>simp[D]at this
   |some e9=>
    have h9:=e4 e9 (mH D);simp[D]at this;rw[<-this];split<;>exact h9
  ·intro w' hs
   have a8:((p[j]?).map (·.key)).getD u=e0.key:=by
    have:p[j]?=some e0:=cf r1
    simp[this]
   simp[Instr.mapUpdate,run_underlying (jP G),B,g3,g1,r,a8,a6,hs]
end
end
variable{R α β:Type}
section
section
variable{P:Program}{F:Nat->Prop}{ρ:Nat->Pl}{w:World}{h get:Nat->Option Ch}{N W:Nat}
theorem bQ.block(hh:dN F ρ w h)(g:ρ N= .un)(i:0<W)(o:Obj)(c:Ch)(a:∀m kt e rest last,c= .mit m kt e rest last->∃l,h m=some (.lk kt e l))
 (j:Mv ρ w h (gH ρ N (.bk w.heap.size)) (w.alloc o) (dg h N (some c))->(w.alloc o).heap[w.heap.size]?=some o->xk (w.alloc o) (Av F (gH ρ N (.bk w.heap.size)) (dg h N (some c))) (gH ρ N (.bk w.heap.size)) N c) (x:V) (v:Value)
 (n:gH ρ N (.bk w.heap.size) N= .bk w.heap.size->aT (w.alloc o) (Av F (gH ρ N (.bk w.heap.size)) (dg h N (some c))) (gH ρ N (.bk w.heap.size)) x v):bQ F ρ w h N W x [(N,some c)] v (w.alloc o):=by
 refine bQ.add hh g i (gf.alloc w o) (.bk w.heap.size) c a (λb _ f=>?_) (λp=>j p (Go.heap_alloc_new w o)) x v (λ_=>n (bU _ _ _));simp[Pl.blk]at f;subst f;exact⟨aE _,by rw[eP];omega⟩
def rZ(P:Program)(t:TypeId)(N:Nat):Option (V×eD):=
 match oL P t with
 |some (a,b)=>match JD P 8 a,JD P 8 b with
  |some c,some e=>some (sc (.mp N),[(N,some (.mp c e []))])
  |_,_=>none
 |none=>none
theorem sa(hh:dN F ρ w h)(f:ρ N= .un)(g:0<W):dG P F ρ w h N W (Instr.makeMap t none) (Tr.ofOpt (rZ P t N)):=by
 refine .ofOpt λq c=>?_;unfold rZ at c;split at c
 case h_2=>simp at c
 rename_i a b i;split at c<;>simp at c;rename_i j l m n;subst c;refine⟨.map (some w.heap.size),w.alloc (.map #[] 0),by simp[Instr.makeMap,newObj,Sem.run],bQ.block hh f g (.map #[] 0) (.mp j l []) bY (λ_ o=>⟨_,bU _ _ _, #[],0,o,trivial,bY,bY,bY⟩) _ _ (λe=>aM.2 ⟨_,e,rfl⟩)⟩
def An(P:Program)(t:TypeId)(x:V)(get:Nat->Option Ch)(N:Nat):Option (V×eD):=
 match x.one? with
 |some (.mp k)=>match oL P t,get k with
  |some _,some (.mp a b l)=>some (sc (.ptr N 0),[(k,some (.lk a b l)),(N,some (.mit k a b l none))])
  |some _,some (.lk a b l)=>some (sc (.ptr N 0),[(N,some (.mit k a b l none))])
  |_,_=>none
 |some (.fmp a b l)=>match oL P t with
  |some _=>some (sc (.ptr N 0),[(N,some (.fit a b l none))])
  |none=>none
 |some i=>match i.sc? with
  |some (_, .str s)=>if DF P t then some (sc (.ptr N 0),[(N,some (.sit s 0))])else none
  |_=>none
 |none=>none
theorem xS{w:World}{a:Ty}{l:List (kt.den×a.den)}(h:nz w A kt a l j)(hi:∀es clock,w.heap[j]?=some (.map es clock)->w.heap[n]?=some (.mapIter (some j) clock #[] clock)):pG w A kt a l none j n:=by
 obtain⟨es,clock,e,f,g,i,_⟩:=h;refine⟨es,clock, #[],e,hi es clock e,g,i,⟨l,List.Perm.refl _,?_⟩,bY⟩;rw[List.filter_eq_self.2 bY];exact f
theorem vX(hh:dN F ρ w h)(hg:∀k b,get k=some b->h k=some b)(S:ρ N= .un)(hW:0<W)(hx:aT w (Av F ρ h) ρ x v):dG P F ρ w h N W (Instr.range t v) (Tr.ofOpt (An P t x get N)):=by
 refine .ofOpt λq f=>?_;unfold An at f
 have y:∀{k bl:Nat}{o p:Ty}{l:List (o.den×p.den)}{K:TypeId×TypeId}{z:Nat->Option Ch},dN F ρ w z->z k=some (.lk o p l)->ρ k= .bk bl->oL P t=some K->
  ∃r U,(Instr.range t (.map (some bl))).run P w= .ok r U/\bQ F ρ w z N W (sc (.ptr N 0)) [(N,some (.mit k o p l none))] r U:=by
  intro k bl o p l K z L H A g;obtain⟨b',M,X⟩:=L.ok _ _ H;rw[A]at M;simp at M;subst M;obtain⟨es,clock,J,_⟩:=id X;have a0:k≠N:=λe=>by rw[e,S]at A;simp at A
  refine⟨.pointer (some ⟨w.heap.size,0,none⟩),_,run_range_map w t _ _ bl es clock (jP g) J,bQ.block L S hW (.mapIter (some bl) clock #[] clock) (.mit k o p l none) (λm a b c d e=>by simp at e;obtain⟨rfl,rfl,rfl,_⟩:=e;exact⟨l,H⟩) (λD E=>⟨w.heap.size,bl,bU _ _ _,by rw[gP _ _ _ a0];exact A,?_⟩) _ _ (λe=>aM.2 ⟨_,⟨_,e,rfl⟩,rfl⟩)⟩;have n:bl<w.heap.size:=(eX.1 J).1;refine xS (X.evo D.evo ((gf.alloc w _).old bl n)) λa3 B G=>?_;rw[(gf.alloc w _).old bl n,J]at G;simp at G;obtain⟨rfl,rfl⟩:=G;exact E
 split at f
 ·rename_i k O;obtain⟨bl,A,z⟩:=aQ O hx;simp at z;subst z;split at f
  case h_3=>simp at f
  ·rename_i K o p l g H;simp at f;subst f;have C:=hg k _ H
   obtain⟨a1,a2⟩:=hh.step (ρ':=ρ) (w':=w) (h':=dg h k (some (.lk o p l))) (λj=>j=k) (eA.refl ρ) (aE _) rfl rfl rfl (λj u=>bI _ _ _ u) (λ_ _ _=>rfl)
    (λj c b u Y _ Q=>by subst u;exact⟨(hh.fr j _ b C rfl Q).1, .inr ⟨j,_,rfl,C,rfl,Q⟩⟩)
    (λj j' _ _ _ u a4 _ _ _ _ _ _=>u.trans a4.symm)
    (λj m a b c d u R=>by
     by_cases e:j=k
     ·subst e;rw[bK]at u;simp at u
     ·rw[bI _ _ _ e]at u;obtain⟨l',hl⟩:=hh.it j m a b c d u;rcases R with R|R
      ·exact absurd R e
      ·rw[R,C]at hl;simp at hl)
    (λj c u Y D=>by
     subst u;rw[bK]at Y;simp at Y;subst Y;obtain⟨b',M,X⟩:=hh.ok j _ C;exact⟨b',M,X.evo D.evo rfl⟩)
   obtain⟨r,U,r1,r2⟩:=y a1 (bK _ _ _) A g;exact⟨r,U,r1,bQ.behind (u0:=[(k,some (.lk o p l))]) a2 rfl r2⟩
  ·rename_i K o p l g H;simp at f;subst f;exact y hh (hg k _ H) A g
 ·rename_i o p l O;split at f<;>simp at f;rename_i K g;subst f;obtain⟨bl,z,n,a5,h2⟩:=aQ O hx;simp at z;subst z;have a6:nz w (Av F ρ h) o p l bl:=h2;obtain⟨es,clock,J,_⟩:=id h2;refine⟨.pointer (some ⟨w.heap.size,0,none⟩),_,run_range_map w t _ _ bl es clock (jP g) J,bQ.block hh S hW (.mapIter (some bl) clock #[] clock) (.fit o p l none) bY (λD E=>⟨w.heap.size,bl,bU _ _ _,bw n D.size,λq=>a5 ((D.evo (F:=F)).av bl n q),?_⟩) _ _ (λe=>aM.2 ⟨_,⟨_,e,rfl⟩,rfl⟩)⟩;refine xS (a6.evo D.evo ((gf.alloc w _).old bl n)) λa3 B G=>?_;rw[(gf.alloc w _).old bl n,J]at G;simp at G;obtain⟨rfl,rfl⟩:=G;exact E
 ·rename_i i _ _ O;split at f
  case h_2=>simp at f
  rename_i kn s hs;split at f<;>simp at f;rename_i ht;subst f;have hv:=nM hs (aQ O hx);subst hv;exact⟨_,_,run_range_string w t (bM s) (hC ht),bQ.block hh S hW (.stringIter (bM s) 0) (.sit s 0) bY (λ_ A=>⟨_,bU _ _ _,A⟩) _ _ (λe=>aM.2 ⟨_,⟨_,e,rfl⟩,rfl⟩)⟩
 ·simp at f
def xT(x:V)(f:Bool)(get:Nat->Option Ch):Tr (V×eD):=
 match x.one?,f with
 |some (.ptr k 0),true=>match get k with
  |some (.sit s b)=> .ite (decide (b<s.length)) (.leaf (.tup [(false,[.k (.bool true)]),(false,[.d .i64 (b:Int)]),(false,[.d .i32 ((Utf8.decode (bM s) b).1:Int)])],[(k,some (.sit s (b+(Utf8.decode (bM s) b).2)))]))
   (.leaf (.tup [(false,[.k (.bool false)])],[]))
  |_=> .stuck
 |some (.ptr k 0),false=>match get k with
  |some (.mit m c e a _)=> .ite (!a.isEmpty) (.all ((c.den×e.den)×List (c.den×e.den)) (λz=>a.Perm (z.1::z.2)) (λz=> .leaf (.tup [(false,[.k (.bool true)]),(c.agg,jL c z.1.1),(e.agg,jL e z.1.2)],[(k,some (.mit m c e z.2 (some z.1)))])))
   (.leaf (.tup [(false,[.k (.bool false)])],[]))
  |some (.fit c e a _)=> .ite (!a.isEmpty) (.all ((c.den×e.den)×List (c.den×e.den)) (λz=>a.Perm (z.1::z.2)) (λz=> .leaf (.tup [(false,[.k (.bool true)]),(c.agg,jL c z.1.1),(e.agg,jL e z.1.2)],[(k,some (.fit c e z.2 (some z.1)))])))
   (.leaf (.tup [(false,[.k (.bool false)])],[]))
  |_=> .stuck
 |_,_=> .stuck
theorem F2.mem{R:α->β->Prop}:∀{l:List α}{m:List β}{b:β},F2 R l m->b∈m->∃a r c e m1 m2,l=c++a::e/\m=m1++b::m2/\R a b/\F2 R (c++e) (m1++m2)/\r=c++e
 |[],[],_,_,h=>by simp at h
 |a::l,i::m,b,⟨f,g⟩,h=>by
  rcases bm.1 h with rfl|h
  ·exact⟨a,_,[],l,[],m,rfl,rfl,f,g,rfl⟩
  ·obtain⟨j,r,c,e,m1,m2,n,o,p,q,s⟩:=F2.mem g h;exact⟨j,_,a::c,e,i::m1,m2,by rw[n];rfl,by rw[o];rfl,p,⟨f,q⟩,rfl⟩
theorem oM{seen:Array Nat}{e:MapEntry}(i:(es.map (·.born)).Nodup)(c:es.filter (λx=> !seen.contains x.born)=m1++e::m2):
 es.filter (λx=> !(seen.push e.born).contains x.born)=m1++m2:=by
 have j:es.filter (λx=> !(seen.push e.born).contains x.born)=(es.filter (λx=> !seen.contains x.born)).filter (λx=> !(x.born==e.born)):=by
  rw[List.filter_filter]
  congr 1
  funext x;simp only[Array.contains_push];cases seen.contains x.born<;>cases o:x.born==e.born<;>simp_all
 rw[j,c]
 have a:(m1++e::m2).map (·.born)|>.Nodup:=by
  rw[<-c];exact i.sublist (List.Sublist.map _ List.filter_sublist)
 rw[dL,aY,List.nodup_append]at a;obtain⟨p,g,l⟩:=a;rw[nx]at g
 have m:m1.filter (λx=> !(x.born==e.born))=m1:=List.filter_eq_self.2 λx b=>by
  have:=l x.born (fV b) e.born (aF ..);simp[this]
 have n:m2.filter (λx=> !(x.born==e.born))=m2:=List.filter_eq_self.2 λx b=>by
  have:x.born≠e.born:=λq=>g.1 (q▸fV (f:=(·.born)) b);simp[this]
 rw[List.filter_append,m,List.filter_cons];simp[n]
theorem xU(hh:dN F ρ w h)(hg:∀k b,get k=some b->h k=some b)(hx:aT w (Av F ρ h) ρ x v):dG P F ρ w h N W (Instr.next v r ty) (xT x r get):=by
 unfold xT;split
 ·rename_i k hp;obtain⟨_,⟨b,p,rfl⟩,h1⟩:=aQ hp hx;simp at h1;subst h1;simp only at p;split
  case h_2=>exact .stuck
  rename_i s o hk;have i:=hg k _ hk;obtain⟨K,t,q2⟩:=hh.ok _ _ i;rw[p]at t;simp at t;subst t;have a8:(bM s).size=s.length:=by simp[bM,ByteArray.size]
  refine .ite (λM=>?_) (λM=>?_)
  ·simp at M;have a2:=Lib.run_next_any_at (P:=P) w b (bM s) o ty q2 ac;have u:b<w.heap.size:=(eX.1 q2).1;refine .leaf a2 ?_;refine(bQ.set (w':=w.iterAt b (bM s) (o+(Utf8.decode (bM s) o).2)) hh i rfl (.sit s (o+(Utf8.decode (bM s) o).2)) bY bY (by simp[World.iterAt]) rfl rfl rfl (λK _ j=>?_) (λn=>⟨b,p,?_⟩) _ _ (λ_=>?_))
   ·have:K≠b:=λe=>j (by rw[p,e];rfl);simp[World.iterAt,mZ this]
   ·simp[World.iterAt,u]
   ·exact⟨_,rfl,aM.2 rfl,aM.2 rfl,aM.2 (by simp[bh,Rd]),trivial⟩
  ·simp at M;exact .pure hh (Lib.run_next_end_at w b (bM s) o ty q2 ac) ⟨_,rfl,aM.2 rfl,trivial⟩
 ·rename_i k hp;obtain⟨_,⟨b,p,rfl⟩,h1⟩:=aQ hp hx;simp at h1;subst h1;simp only at p;split
  case h_3=>exact .stuck
  case h_2=>
   rename_i kt vt c L hk;have i:=hg k _ hk;obtain⟨K,D,t,a3,qA,y,clock,seen,E,O,i3,i4,⟨q,i5,Q⟩,i7⟩:=hh.ok _ _ i;rw[p]at t;simp at t;subst t;have l:=run_next_at (P:=P) w ty b D clock clock seen y clock O E i4 (aE _);have f:(leftOf y seen).toList=y.toList.filter λe=> !seen.contains e.born:=by simp[leftOf]
   intro R hR;obtain⟨hT,S⟩:=hR;rcases l with⟨z,U⟩|⟨e,z,A,U,n3⟩
   ·have B:y.toList.filter (λe=> !seen.contains e.born)=[]:=by rw[<-f];simpa using z
    rw[B]at Q
    have X:q=[]:=by cases q with
     |nil=>rfl
     |cons _ _=>exact Q.elim
    subst X;have Y:c=[]:=List.Perm.eq_nil i5.symm;exact⟨_,w,_,U,S (by rw[Y];rfl),bQ.pure hh ⟨_,rfl,aM.2 rfl,trivial⟩⟩
   ·rw[f]at z;obtain⟨a,_,G,H,m1,m2,e1,e2,e3,e4,_⟩:=F2.mem Q z;have g:c.Perm (a::(G++H)):=i5.symm.trans (by rw[e1];exact List.perm_middle)
    have j:(!c.isEmpty)=true:=by
     cases c with
     |nil=>have:=g.length_eq;simp at this
     |cons _ _=>rfl
    have u:b<w.heap.size:=(eX.1 O).1;have a0:A.heap=w.heap/\A.os=w.os/\A.tape=w.tape/\A.output=w.output:=by rcases U with rfl|rfl<;>exact⟨rfl,rfl,rfl,rfl⟩
    obtain⟨J,z2,z3,z4⟩:=a0;have a1:D≠b:=λe9=>by rw[e9,O]at E;simp at E
    refine⟨_,_,_,n3,hT j (a,G++H) g,?_⟩;refine(bQ.set (w':=eQ A b (.mapIter (some D) clock (seen.push e.born) clock)) hh i rfl (.fit kt vt (G++H) (some a)) bY bY (by simp[eQ,J]) z2 z3 z4 (λK _ j=>?_) (λn=>⟨b,D,p,bw a3 n.size,λq=>qA ((n.evo (F:=F)).av D a3 q),y,clock,seen.push e.born,?_,?_,i3,i4,⟨G++H,List.Perm.refl _,?_⟩,?_⟩) _ _ (λn=>?_))
    ·have:K≠b:=λe=>j (by rw[p,e];rfl);simp[eQ,mZ this,J]
    ·simp[eQ,mZ a1,J,E]
    ·simp[eQ,J,u]
    ·rw[oM i3 e2];exact F2.imp (λ_ _=>pA.evo n.evo) e4
    ·intro q' C;simp at C;subst C;exact⟨seen,e,rfl,(List.mem_filter.1 z).1,e3.evo n.evo⟩
    ·exact⟨_,rfl,aM.2 rfl,iK.2 (e3.1.evo n.evo),iK.2 (e3.2.evo n.evo),trivial⟩
  rename_i m kt vt c L hk;have i:=hg k _ hk;obtain⟨K,D,t,q2,y,clock,seen,E,O,i3,i4,⟨q,i5,Q⟩,i7⟩:=hh.ok _ _ i;rw[p]at t;simp at t;subst t;have l:=run_next_at (P:=P) w ty b D clock clock seen y clock O E i4 (aE _);have f:(leftOf y seen).toList=y.toList.filter λe=> !seen.contains e.born:=by simp[leftOf]
  intro R hR;obtain⟨hT,S⟩:=hR;rcases l with⟨z,U⟩|⟨e,z,A,U,n3⟩
  ·have B:y.toList.filter (λe=> !seen.contains e.born)=[]:=by rw[<-f];simpa using z
   rw[B]at Q
   have X:q=[]:=by cases q with
    |nil=>rfl
    |cons _ _=>exact Q.elim
   subst X;have Y:c=[]:=List.Perm.eq_nil i5.symm;exact⟨_,w,_,U,S (by rw[Y];rfl),bQ.pure hh ⟨_,rfl,aM.2 rfl,trivial⟩⟩
  ·rw[f]at z;obtain⟨a,_,G,H,m1,m2,e1,e2,e3,e4,_⟩:=F2.mem Q z;have g:c.Perm (a::(G++H)):=i5.symm.trans (by rw[e1];exact List.perm_middle)
   have j:(!c.isEmpty)=true:=by
    cases c with
    |nil=>have:=g.length_eq;simp at this
    |cons _ _=>rfl
   have u:b<w.heap.size:=(eX.1 O).1;have a0:A.heap=w.heap/\A.os=w.os/\A.tape=w.tape/\A.output=w.output:=by rcases U with rfl|rfl<;>exact⟨rfl,rfl,rfl,rfl⟩
   obtain⟨J,z2,z3,z4⟩:=a0;have a1:D≠b:=λe9=>by rw[e9,O]at E;simp at E
   obtain⟨_,a5⟩:=hh.it k m kt vt c L i;refine⟨_,_,_,n3,hT j (a,G++H) g,?_⟩;refine(bQ.set (w':=eQ A b (.mapIter (some D) clock (seen.push e.born) clock)) hh i rfl (.mit m kt vt (G++H) (some a)) bY (λm' a9 b0 a6 a7 a4=>by simp at a4;obtain⟨rfl,rfl,rfl,_⟩:=a4;exact⟨_,a5⟩) (by simp[eQ,J]) z2 z3 z4 (λK _ j=>?_) (λn=>⟨b,D,p,q2,y,clock,seen.push e.born,?_,?_,i3,i4,⟨G++H,List.Perm.refl _,?_⟩,?_⟩) _ _ (λn=>?_))
   ·have:K≠b:=λe=>j (by rw[p,e];rfl);simp[eQ,mZ this,J]
   ·simp[eQ,mZ a1,J,E]
   ·simp[eQ,J,u]
   ·rw[oM i3 e2];exact F2.imp (λ_ _=>pA.evo n.evo) e4
   ·intro q' C;simp at C;subst C;exact⟨seen,e,rfl,(List.mem_filter.1 z).1,e3.evo n.evo⟩
   ·exact⟨_,rfl,aM.2 rfl,iK.2 (e3.1.evo n.evo),iK.2 (e3.2.evo n.evo),trivial⟩
 ·exact .stuck
def vY(x:V)(get:Nat->Option Ch):Option V:=
 match x.one? with
 |some (.ptr k 0)=>match get k with
  |some (.mit _ a b _ (some z))=>some (.tup [(a.agg,jL a z.1),(b.agg,jL b z.2)])
  |some (.fit a b _ (some z))=>some (.tup [(a.agg,jL a z.1),(b.agg,jL b z.2)])
  |_=>none
 |_=>none
theorem vZ(hh:dN F ρ w h)(B:∀k b,get k=some b->h k=some b)(D:aT w (Av F ρ h) ρ x v):dG P F ρ w h N W (Instr.entry v) (Tr.ofOpt ((vY x get).map (·,[]))):=by
 refine .ofOpt λq i=>?_;cases a:vY x get with
 |none=>simp[a]at i
 |some y=>
  simp[a]at i;subst i;unfold vY at a;split at a
  case h_2=>simp at a
  rename_i k E;obtain⟨_,⟨b,j,rfl⟩,C⟩:=aQ E D;simp at C;subst C;simp only at j;split at a<;>simp at a
  case h_2=>
   rename_i G H f z l;subst a;obtain⟨J,n,c,_,_,o,clock,seen,p,r,s,K,_,t⟩:=hh.ok _ _ (B _ _ l);rw[j]at c;simp at c;subst c;obtain⟨u,e,rfl,A,g⟩:=t z rfl;exact⟨_,w,run_entry_at w b n clock u o clock e r p A s,bQ.pure hh ⟨_,rfl,iK.2 g.1,iK.2 g.2,trivial⟩⟩
  rename_i m G H f z l;subst a;obtain⟨J,n,c,L,o,clock,seen,p,r,s,K,_,t⟩:=hh.ok _ _ (B _ _ l);rw[j]at c;simp at c;subst c;obtain⟨u,e,rfl,A,g⟩:=t z rfl;exact⟨_,w,run_entry_at w b n clock u o clock e r p A s,bQ.pure hh ⟨_,rfl,iK.2 g.1,iK.2 g.2,trivial⟩⟩
def kG(P:Program)(t:TypeId)(x:V):Option V:=
 match x.one? with
 |some (.ptr k a)=>if pK P t then some (sc (.ifc t k a))else none
 |_=>none
theorem pQ(hh:dN F ρ w h)(f:aT w (Av F ρ h) ρ x v):dG P F ρ w h N W (Instr.makeInterface t v) (Tr.ofOpt ((kG P t x).map (·,[]))):=by
 refine .ofOpt λq a=>?_;unfold kG at a;split at a
 case h_2=>simp at a
 rename_i k g i;split at a<;>simp at a;rename_i b;subst a;obtain⟨_,j,c⟩:=aQ i f;simp at c;subst c
 obtain⟨e,l⟩:∃e,P.underlying t=some (.pointer e):=by
  unfold pK at b;split at b
  ·exact⟨_,‹_›⟩
  ·simp at b
 exact⟨.iface t v,w,by simp[Instr.makeInterface,run_underlying l],bQ.pure hh (aM.2 ⟨v,j,rfl⟩)⟩
def DM:List V->Option (List (Nat×Nat))
 |[]=>some []
 |x::r=>match x.one?,DM r with
  |some (.ptr k a),some l=>some ((k,a)::l)
  |_,_=>none
theorem wa{A:Nat->Prop}:∀{l:List V}{m:List (Nat×Nat)}{vs:List Value},DM l=some m->F2 (aT w A ρ) l vs->F2 (lz ρ) m vs
 |[],m,[],h,_=>by simp[DM]at h;subst h;trivial
 |x::l,m,v::vs,h,⟨b,c⟩=>by
  simp only[DM]at h;split at h<;>simp at h;rename_i k e j f g;subst h;obtain⟨u,i,a⟩:=aQ f b;simp at a;subst a;exact⟨i,wa g c⟩
end
end
variable{f:FuncId}{cap first slots:List V}{ρ ρ':Nat->Pl}{ex ey:Operand}{name:String}
section
def Fz(v:Value):V:=match Fi v with
 |some i=>sc i
 |none=> .any
def dO(slots:List V):Operand->V
 | .tmp t=>slots.getD t (.tup [])
 | .const v=>Fz v
 | .func f=>sc (.fn f [] [])
 | .global _=> .any
theorem fW{a:Act}(h:F2 (aT w A ρ) slots a.tmps.toList)(x:Operand):aT w A ρ (dO slots x) (a.eval x):=by
 cases x with
 |tmp t=>
  simp only[dO,Act.eval,bF];cases b:slots[t]? with
  |none=>
   have c:a.tmps.toList[t]?=none:=by
    rw[List.getElem?_eq_none_iff]at b⊢;rw[<-h.length];exact b
   have e:a.tmps[t]?=none:=cf c
   simp only[Option.getD_none,Array.getD_eq_getD_getElem?,e];exact fd
  |some x=>
   obtain⟨v,c,e⟩:=h.get b;have i:a.tmps[t]?=some v:=cf c
   simp only[dA,Array.getD_eq_getD_getElem?,i];exact e
 |const v=>
  simp only[dO,Act.eval,Fz];cases j:Fi v with
  |none=>trivial
  |some x=>exact aM.2 (BK j)
 |global g=>trivial
 |func f=>exact aM.2 ⟨[],[],rfl,trivial,trivial⟩
def sb:Operand->Bool
 | .const (.slice none 0 0)=>true
 |_=>false
def xV(P:Program)(t:TypeId)(x:Operand)(v:V)(N:Nat):V×eD:=
 if sb x then
  match qY P t with
  |some e=>match JD P 8 e with
   |some b=>(sc (.own N),[(N,some (.sl b []))])
   |none=>(v,[])
  |none=>(v,[])
 else(v,[])
def DN(P:Program)(t:TypeId)(name:String):Option (FuncId×Bool):=
 match P.info? t with
 |some i=>match i.methods.find? (·.name==name)with
  |some m=>if m.path.toList.isEmpty then m.func else none
  |none=>none
 |none=>none
def zJ(x:Option V):Tr (V×eD):=Tr.ofOpt (x.map (·,[]))
def uQ(P:Program)(op:BinOp)(t:TypeId)(a b:I):Option (Bool×Bool):=
 match qY P t,b,a with
 |some _, .nils, .d (.sl _) l=>if isEq op then some (false,l.isEmpty)else none
 |some _, .nils, .cut _ l=>if isEq op then some (false,l.isEmpty)else none
 |some _, .nils, .nils=>if isEq op then some (true,true)else none
 |_,_,_=>none
where isEq:BinOp->Bool
 | .eql=>true
 | .neq=>true
 |_=>false
def sd(b:BinOp)(z:Bool):Bool:=match b with
 | .eql=>z
 |_=> !z
def sf(P:Program)(c:BinOp)(t:TypeId)(x y:V):Tr (V×eD):=
 match x,y with
 | .val false [a], .val false [b]=>match a.sc?,b.sc? with
   |some p,some q=>match rP P c t p q with
    |some r=> .needs r.1 (.leaf (r.2,[]))
    |none=> .stuck
   |_,_=>match uQ P c t a b with
    |some (true,_)=> .leaf (sc (.k (.bool (sd c true))),[])
    |some (false,m)=> .all Bool (λz=>z=true->m=true) λz=> .leaf (sc (.d .bl (sd c z)),[])
    |none=>zJ (qp P c t a b)
 | .val true l, .val true m=>zJ (vT P c t l m)
 |_,_=> .stuck
def qt:List (Nat×V)->(Nat->Option Ch)->List (Nat×V)×eD
 |[],_=>([],[])
 |p::r,get=>let q:=nR p.2 get;let s:=qt r (bj get q.2);((p.1,q.1)::s.1,q.2++s.2)
def gx(P:Program)(t:TypeId)(len:Nat)(parts:List (Nat×V))(get:Nat->Option Ch)(N:Nat):Tr (V×eD):=
 match lH P t len (qt parts get).1 N with
 |some r=> .leaf (r.1,(qt parts get).2++r.2)
 |none=> .stuck
def wb(P:Program)(t:TypeId)(x y:V)(get:Nat->Option Ch):Option (V×eD):=
 match vG P t x y get with
 |some q=>some q
 |none=>match vG P t x (nR y get).1 (bj get (nR y get).2)with
  |some q=>some (q.1,(nR y get).2++q.2)
  |none=>none
def si(P:Program)(b:Builtin)(ts:List TypeId)(args:List V)(get:Nat->Option Ch)(N:Nat):Tr (V×eD):=
 match b,ts,args with
 | .len,[t],[x]=>zJ (J3 P t x get)
 | .max,_,[x,y]=>zJ (PJ x y)
 | .min,_,[x,y]=>zJ (PK x y)
 | .append,[t,c],[x,y]=>if t=c then oG P t x y get N else aappendZ P t c x y get N
 | .copy,[t,_],[x,y]=>Tr.ofOpt (Fq P t x y get)
 |_,_,_=> .stuck
def J8(P:Program)(x:V):Tr (V×eD):=
 match x.one? with
 |some (.ptr ..)=> .leaf (x,[])
 |some (.pes ..)=> .leaf (x,[])
 |some (.pv ..)=> .leaf (x,[])
 |some (.fn ..)=> .leaf (x,[])
 |some (.ifc ..)=> .leaf (x,[])
 |some (.mth name t ..)=>match DN P t name with
  |some (_,b)=>if b=true\/pK P t=true then .leaf (x,[])else .stuck
  |none=> .stuck
 |_=> .stuck
def mK(f:Fn)(first cap:List V):Tr (V×eD):=
 match f with
 | .func g=>match DM first,DM cap with
   |some l,some m=> .leaf (sc (.fn g l m),[])
   |_,_=> .stuck
 | .method name=>match first,cap with
   |[x],[]=>match x.one? with
    |some (.ifc t k b)=> .leaf (sc (.mth name t k b),[])
    |_=> .stuck
   |_,_=> .stuck
 |_=> .stuck
def lK(P:Program)(o:Oper)(e:Operand->V)(get:Nat->Option Ch)(N:Nat):Tr (V×eD):=
 match o.op with
 | .move x=> .leaf (xV P o.type x (e x) N)
 | .assign x=> .leaf (xV P o.type x (e x) N)
 | .pick c a b=>match(e c).one? with
   |some (.k (.bool t))=> .leaf (if t then e a else e b,[])
   |some (.d .bl t)=> .ite t (.leaf (e a,[])) (.leaf (e b,[]))
   |_=> .stuck
 | .alloc t=>Tr.ofOpt (zZ P t N)
 | .box _ x=>Tr.ofOpt (PG (e x) N)
 | .build t parts=>Tr.ofOpt (Ag P t (parts.toList.map λp=>(p.1,e p.2)))
 | .buildSlice t len parts=>gx P t len (parts.toList.map λp=>(p.1,e p.2)) get N
 | .load t x=>zJ (xF P t (e x) get)
 | .store t x y=>Tr.ofOpt (wb P t (e x) (e y) get)
 | .nilCheck x=>J8 P (e x)
 | .binOp j t x y _=>sf P j t (e x) (e y)
 | .unOp j _ x=>zJ (aun j (e x))
 | .convert n q x=>lI P n q (e x) get
 | .makeInterface t x=>zJ (kG P t (e x))
 | .makeFunc f first cap=>mK f (first.toList.map e) (cap.toList.map e)
 | .makeMap t none=>Tr.ofOpt (rZ P t N)
 | .makeSlice t l c=>xL P t (e l) (e c) N
 | .slice t x r s u=>kE P t (e x) (r.map e) (s.map e) (u.map e) get N
 | .fieldAddr t x f=>zJ (iM P t (e x) f)
 | .field t x f=>zJ (vJ P t (e x) f)
 | .indexAddr t x i=>gg P t (e x) (e i) get
 | .index t x i=>rO P t (e x) (e i)
 | .lookup t x i ok=>zJ (mJ P t (e x) (e i) ok get)
 | .mapUpdate t m k x=>Tr.ofOpt (kF P t (e m) (e k) (e x) get)
 | .insert t m k x=>Tr.ofOpt (kF P t (e m) (e k) (e x) get)
 | .range t x=>Tr.ofOpt (An P t (e x) get N)
 | .next x g=>xT (e x) g get
 | .entry x=>zJ (vY (e x) get)
 | .extract x i=>zJ (rL (e x) i)
 | .call c=>match c.callee with
   | .builtin b=>si P b c.argTypes.toList (c.args.toList.map e) get N
   |_=> .stuck
 |_=> .stuck
section
variable{P:Program}{F:Nat->Prop}{ρ:Nat->Pl}{w:World}{h get:Nat->Option Ch}{N W:Nat}{a:Act}{o:Oper}
theorem qu(hh:dN F ρ w h)(i:ρ N= .un)(j:0<W)(f:aT w (Av F ρ h) ρ x (a.eval ex)):
 bQ F ρ w h N W (xV P t ex x N).1 (xV P t ex x N).2 (a.eval ex) w:=by
 unfold xV;split
 case isFalse=>exact bQ.pure hh f
 rename_i g;split
 case h_2=>exact bQ.pure hh f
 split
 case h_2=>exact bQ.pure hh f
 rename_i l _
 have c:a.eval ex= .slice none 0 0:=by
  unfold sb at g;split at g
  ·rfl
  ·simp at g
 rw[c];refine bQ.add hh i j (gf.refl w) (.sv (.slice none 0 0)) (.sl l []) (λ_ _ _ _ _ e=>by simp at e) (λb _ m=>by simp[Pl.blk]at m) (λ_=>?_) _ _ (λ_=>?_)
 ·exact⟨_,bU _ _ _, .inr ⟨rfl,none,rfl⟩⟩
 ·exact aM.2 ⟨none,0,0,bU _ _ _,rfl⟩
theorem nU:∀(u:eD){get h:Nat->Option Ch},(∀k b,get k=some b->h k=some b)->∀k b,bj get u k=some b->bj h u k=some b
 |[],_,_,f=>f
 |x::u,get,h,f=>by
  simp only[bj];refine nU u λk b c=>?_;by_cases e:k=x.1
  ·subst e;rw[bK]at c⊢;exact c
  ·rw[bI _ _ _ e]at c⊢;exact f k b c
theorem xW:∀{l:List (Nat×V)}{get h:Nat->Option Ch}{vs:List (Nat×Value)},dN F ρ w h->(∀k b,get k=some b->h k=some b)->
 F2 (λ(p:Nat×V)(q:Nat×Value)=>p.1=q.1/\aT w (Av F ρ h) ρ p.2 q.2) l vs->
 dN F ρ w (bj h (qt l get).2)/\Mv ρ w h ρ w (bj h (qt l get).2)/\F2 (λ(p:Nat×V)(q:Nat×Value)=>p.1=q.1/\aT w (Av F ρ (bj h (qt l get).2)) ρ p.2 q.2) (qt l get).1 vs
 |[],_,_,[],c,_,_=>⟨c,Mv.refl _ _ _,trivial⟩
 |p::r,get,h,q::vs,c,e,⟨⟨i,j⟩,m⟩=>by
  obtain⟨n,f,s⟩:=vW (x:=p.2) c e j;obtain⟨t,g,u⟩:=xW (l:=r) n (nU _ e) (F2.imp (λ_ _ q=>⟨q.1,q.2.evo f.evo (eA.refl ρ)⟩) m);simp only[qt];rw[cR];exact⟨t,f.trans g,⟨i,s.evo g.evo (eA.refl ρ)⟩,u⟩
theorem nV{parts:List (Nat×V)}{c:List (Nat×Value)}(hh:dN F ρ w h)(f:∀k b,get k=some b->h k=some b)(g:ρ N= .un)(i:0<W)
 (j:F2 (λ(p:Nat×V)(q:Nat×Value)=>p.1=q.1/\aT w (Av F ρ h) ρ p.2 q.2) parts c):dG P F ρ w h N W (Instr.buildSlice t len c.toArray) (gx P t len parts get N):=by
 unfold gx;split
 case h_2=>exact .stuck
 rename_i r l;obtain⟨m,n,s⟩:=xW hh f j;have e:=oI (P:=P) (t:=t) (len:=len) (N:=N) (W:=W) m g i s;rw[l]at e;intro R u;obtain⟨v,x,q,y,z,ρ',A,B,C,D,E⟩:=e (λq=>q=r) rfl;subst z;refine⟨v,x,_,y,u,ρ',A,B,?_,?_,?_⟩
 ·simp only[cR];exact C
 ·simp only[cR];exact D
 ·simp only[cR];exact n.trans E
theorem ui{y:V}{q:V×eD}(hh:dN F ρ w h)(e:∀k b,get k=some b->h k=some b)(g:aT w (Av F ρ h) ρ x v)(i:aT w (Av F ρ h) ρ y u)(c:wb P t x y get=some q):
 ∃w',(Instr.storeAt t v u).run P w= .ok () w'/\bQ F ρ w h N W q.1 q.2 undef w':=by
 unfold wb at c;split at c
 ·rename_i l f;simp at c;subst c;exact oF hh e g i f
 ·split at c
  case h_2=>simp at c
  rename_i l f;simp at c;subst c;obtain⟨m,j,n⟩:=vW hh e i;obtain⟨w',p,ρ',r,s,z,A,B⟩:=oF (N:=N) (W:=W) m (nU _ e) (g.evo j.evo (eA.refl ρ)) n f;refine⟨w',p,ρ',r,s,?_,?_,?_⟩
  ·simp only[cR];exact z
  ·simp only[cR];exact A
  ·simp only[cR];exact j.trans B
theorem kH{A:Nat->Prop}{c:Operand->V}{b:Operand->Value}(h:∀x,aT w A ρ (c x) (b x)):∀l:List Operand,F2 (aT w A ρ) (l.map c) (l.map b)
 |[]=>trivial
 |x::l=>⟨h x,kH h l⟩
theorem sj{A:Nat->Prop}{c:Operand->V}{b:Operand->Value}(h:∀x,aT w A ρ (c x) (b x)):∀l:List (Nat×Operand),
 F2 (λ(p:Nat×V)(q:Nat×Value)=>p.1=q.1/\aT w A ρ p.2 q.2) (l.map λp=>(p.1,c p.2)) (l.map λp=>(p.1,b p.2))
 |[]=>trivial
 |x::l=>⟨⟨rfl,h x.2⟩,sj h l⟩
theorem sk{c:Operand->V}{b:Operand->Value}(h:∀x,aT w A ρ (c x) (b x))(x:Option Operand):nN w A ρ (x.map c) (x.map b):=by
 cases x with
 |none=>trivial
 |some x=>exact h x
def OW(P:Program)(F:Nat->Prop)(ρ:Nat->Pl)(w:World)(h:Nat->Option Ch)(N W:Nat)(o:Oper)(a:Act)(t:Tr (V×eD)):Prop:=
 ∀(K:Act->World->Prop)(Q:Exit->Act->World->Prop),(t.sat λq=>∀v b,bQ F ρ w h N W q.1 q.2 v b->K (a.put o.dst v) b)->o.wp P a w K Q
theorem OW.of{s:Sem Value}{t:Tr (V×eD)}(b:execOp a.eval o=(do pure (.value (<-s))))(c:dG P F ρ w h N W s t):OW P F ρ w h N W o a t:=by
 intro K Q e;obtain⟨r,f,q,g,i,j⟩:=c _ e;unfold Oper.wp;rw[b,bJ,g];exact i r f j
theorem OW.ofU{s:Sem Unit}{x:Option (V×eD)}(b:execOp a.eval o=(do s;pure .skip))(c:∀q,x=some q->∃w',s.run P w= .ok () w'/\bQ F ρ w h N W q.1 q.2 undef w'):OW P F ρ w h N W o a (Tr.ofOpt x):=by
 intro K Q e;obtain⟨q,rfl,f⟩:=DC e;obtain⟨w',g,i⟩:=c q rfl;unfold Oper.wp;rw[b,bJ,g];exact f _ w' i
theorem OW.stuck:OW P F ρ w h N W o a .stuck:=λ_ _ h=>h.elim
theorem BX{q:FuncId×Bool}(h:DN P t name=some q):∃i m,P.info? t=some i/\i.methods.find? (·.name==name)=some m/\m.path.toList=[]/\m.func=some q:=by
 unfold DN at h;split at h
 case h_2=>simp at h
 rename_i i b;split at h
 case h_2=>simp at h
 rename_i m c;split at h
 case isFalse=>simp at h
 rename_i e;exact⟨i,m,b,c,cf e,h⟩
theorem wc{b:Bool}{p:Addr}(h:DN P t name=some (f,b))(c:b=true\/pK P t=true):
 (nilAhead (n+1) t (.pointer (some p)) name).run P w= .ok (some false) w:=by
 obtain⟨i,m,g,j,l,q⟩:=BX h;have r:(typeInfo t).run P w= .ok i w:=by simp[typeInfo,g]
 simp only[nilAhead,bJ,r,aZ,j,l,followBlind,bD,q];cases b with
 |true=>simp only[bD]
 |false=>
  rcases c with c|c
  ·simp at c
  unfold pK at c;split at c
  case h_2=>simp at c
  rename_i e s;simp only[bJ,run_underlying s,aZ,bD]
theorem Ao{m:Operand->V}(g:o.op= .nilCheck ex)(hh:dN F ρ w h)(j:aT w (Av F ρ h) ρ (m ex) (a.eval ex)):OW P F ρ w h N W o a (J8 P (m ex)):=by
 have fin:∀(v:V),v=m ex->(execOp a.eval o).run P w= .ok (.value (a.eval ex)) w->OW P F ρ w h N W o a (.leaf (v,[])):=by
  intro v s u K Q y;subst s;unfold Oper.wp;rw[u];exact y _ w (bQ.pure hh j)
 unfold J8;split
 ·rename_i i;obtain⟨_,⟨b,_,rfl⟩,e⟩:=aQ i j;simp at e;exact fin _ rfl (by simp only[execOp,g,e,bD])
 ·rename_i i;obtain⟨b,n,c,_,_,e⟩:=aQ i j;simp at e;exact fin _ rfl (by simp only[execOp,g,e,bD])
 ·rename_i i;obtain⟨b,l,z,e,_⟩:=aQ i j;simp at e;exact fin _ rfl (by simp only[execOp,g,e,bD])
 ·rename_i i;obtain⟨D,z,e,_⟩:=aQ i j;simp at e;exact fin _ rfl (by simp only[execOp,g,e,bD])
 ·rename_i i;obtain⟨v,_,e⟩:=aQ i j;simp at e;exact fin _ rfl (by simp only[execOp,g,e,bD])
 ·rename_i name t k l i;split
  case h_2=>exact OW.stuck
  rename_i f b A;split
  case isFalse=>exact OW.stuck
  rename_i B;obtain⟨_,⟨bl,_,rfl⟩,e⟩:=aQ i j;simp at e;refine fin _ rfl ?_;have q:(Go.program).run P w= .ok P w:=rfl;have C:P.types.size+Made.depth=(P.types.size+(Made.depth-1))+1:=rfl;have r:=wc (w:=w) (n:=P.types.size+(Made.depth-1)) (p:=⟨bl,l,none⟩) A B;rw[<-C]at r;simp[execOp,g,e,q,r]
 ·exact OW.stuck
theorem qL{f:Fn}{b vc:Array Value}(hh:dN F ρ w h)(c:F2 (aT w (Av F ρ h) ρ) first b.toList)(e:F2 (aT w (Av F ρ h) ρ) cap vc.toList):
 dG P F ρ w h N W (Instr.makeFunc f b vc) (mK f first cap):=by
 unfold mK;split
 ·rename_i g;split
  case h_2=>exact .stuck
  rename_i l m j n;exact .pure hh rfl (aM.2 ⟨b.toList,vc.toList,bY,wa j c,wa n e⟩)
 ·rename_i name;split
  case h_2=>exact .stuck
  rename_i x;split
  case h_2=>exact .stuck
  rename_i t k p q;obtain⟨b⟩:=b;obtain⟨vc⟩:=vc
  match b,vc,c,e with
  |[v],[],⟨r,_⟩,_=>
   obtain⟨u,s,i⟩:=aQ q r;simp at i;subst i;exact .pure hh rfl (aM.2 ⟨u,s,rfl⟩)
 ·exact .stuck
theorem qv{f:BinOp}{a b:I}{k m:Bool}(h:uQ P f t a b=some (k,m))(r:bh w A ρ a [v])(p:bh w A ρ b [u]):
 ∃z,(do eqGuard f t ex ey v u;binOp f t v u:Sem Value).run P w= .ok (.bool (sd f z)) w/\(z=true->m=true)/\(k=true->z=true):=by
 have sl:∀{e:TypeId}{j:Option Addr}{n c:Nat},qY P t=some e->uQ.isEq f=true->(do eqGuard f t ex ey (.slice j n c) (.slice none 0 0);binOp f t (.slice j n c) (.slice none 0 0):Sem Value).run P w= .ok (.bool (sd f j.isNone)) w:=by
  intro e j n c g i;rw[eqGuard_at_slice];cases f<;>simp[uQ.isEq]at i
  ·simp[binOp,run_equal_slice_nil w t e j n c (dh g),sd]
  ·simp[binOp,run_equal_slice_nil w t e j n c (dh g),sd]
 have data:∀{e:TypeId}{α:Type}{R:α->List Value->Prop}{l:List α},qY P t=some e->uQ.isEq f=true->na w A R l v->u= .slice none 0 0->
  ∃z,(do eqGuard f t ex ey v u;binOp f t v u:Sem Value).run P w= .ok (.bool (sd f z)) w/\(z=true->l.isEmpty=true):=by
  intro e α R l g i B C;subst C;rcases B with⟨D,E,cap,H,rfl,_⟩|⟨rfl,j,rfl⟩
  ·exact⟨_,sl g i,bY⟩
  ·exact⟨_,sl g i,λ_=>rfl⟩
 unfold uQ at h;split at h
 ·rename_i e l g;split at h<;>simp at h;rename_i i;obtain⟨rfl,rfl⟩:=h;obtain⟨G,q,s⟩:=r;simp at q;subst q;simp[bh]at p;obtain⟨z,x,y⟩:=data g i s p;exact⟨z,x,y,bY⟩
 ·rename_i e _ l g;split at h<;>simp at h;rename_i i;obtain⟨rfl,rfl⟩:=h;obtain⟨G,q,s,_⟩:=r;simp at q;subst q;simp[bh]at p;obtain⟨z,x,y⟩:=data g i s p;exact⟨z,x,y,bY⟩
 ·rename_i e g;split at h<;>simp at h;rename_i i;obtain⟨rfl,rfl⟩:=h;simp[bh]at r p;subst r p;exact⟨_,sl g i,bY,bY⟩
 ·simp at h
theorem wd(hh:dN F ρ w h){f:BinOp}{y:V}(C:aT w (Av F ρ h) ρ x v)(D:aT w (Av F ρ h) ρ y u):
 dG P F ρ w h N W (do eqGuard f t ex ey v u;binOp f t v u) (sf P f t x y):=by
 unfold sf;split
 ·rename_i p q;have n:=aM.1 C;have A:=aM.1 D;split
  ·rename_i r s H J;split
   case h_2=>exact .stuck
   rename_i z b;refine .needs λg=>?_;have K:=nM H n;have L:=nM J A;subst K;subst L;obtain⟨c,i,j⟩:=xH (w:=w) (ρ:=ρ) (ex:=ex) (ey:=ey) b g (Av F ρ h);exact .pure hh i j
  ·split
   ·rename_i g;obtain⟨z,B,_,M⟩:=qv (ex:=ex) (ey:=ey) g n A;obtain rfl:=M rfl;exact .pure hh B (aM.2 rfl)
   ·rename_i m g;obtain⟨z,B,O,_⟩:=qv (ex:=ex) (ey:=ey) g n A;intro R Q;exact⟨_,w,_,B,Q z O,bQ.pure hh (aM.2 rfl)⟩
   refine .ofOpt λz b=>?_;cases e:qp P f t p q with
   |none=>simp[e]at b
   |some r=>
    simp[e]at b;subst b;obtain⟨c,i,j⟩:=xI (w:=w) (ex:=ex) (ey:=ey) e n A;exact⟨c,w,i,bQ.pure hh j⟩
 ·rename_i l m;refine .ofOpt λz b=>?_;cases e:vT P f t l m with
  |none=>simp[e]at b
  |some r=>
   simp[e]at b;subst b;obtain⟨X,S,E⟩:=C;obtain⟨Y,U,G⟩:=D;simp at E G;subst E;subst G;obtain⟨c,i,j⟩:=vU (w:=w) (ex:=ex) (ey:=ey) e S U;exact⟨c,w,i,bQ.pure hh j⟩
 ·exact .stuck
theorem xX{y:Operand->V}(hh:dN F ρ w h)(v:∀k b,get k=some b->h k=some b)(j:∀x,aT w (Av F ρ h) ρ (y x) (a.eval x))(A:ρ N= .un)(B:0<W):
 OW P F ρ w h N W o a (lK P o y get N):=by
 unfold lK;split
 case h_1 x g=>
  intro K Q E;unfold Oper.wp;simp only[execOp,g,bD];exact E _ _ (qu hh A B (j x))
 case h_2 x g=>
  intro K Q E;unfold Oper.wp;simp only[execOp,g,bD];exact E _ _ (qu hh A B (j x))
 case h_3 c x z g=>
  split
  case h_3=>exact OW.stuck
  ·rename_i t E;have G:=aQ E (j c);simp[bh,Sc.val]at G;intro K Q J;unfold Oper.wp;simp only[execOp,g,G,asBool,bJ,bD,aZ];refine J _ _ (bQ.pure hh ?_);cases t
   ·exact j z
   ·exact j x
  ·rename_i t E;have G:=aQ E (j c);simp[bh,Rd]at G;intro K Q J;unfold Oper.wp;simp only[execOp,g,G,asBool,bJ,bD,aZ];cases t
   ·exact J.2 rfl _ _ (bQ.pure hh (j z))
   ·exact J.1 rfl _ _ (bQ.pure hh (j x))
 case h_4 t g=>exact .of (by simp only[execOp,g]) (vH hh A B)
 case h_5 t x g=>exact .of (s:=Instr.box t (a.eval x)) (by simp only[execOp,g]) (Aa hh A B (j x))
 case h_6 t parts g=>
  have:=vS (N:=N) (W:=W) (P:=P) (t:=t) hh (sj j parts.toList);refine .of (s:=Instr.build t (parts.map λ(i,x)=>(i,a.eval x))) (by simp only[execOp,g]) ?_;have e:parts.map (λ(i,x)=>(i,a.eval x))=(parts.toList.map λp=>(p.1,a.eval p.2)).toArray:=by apply Array.ext';simp
  rw[e];exact this
 case h_7 t len parts g=>
  have:=nV (N:=N) (W:=W) (P:=P) (t:=t) (len:=len) hh v A B (sj j parts.toList);refine .of (s:=Instr.buildSlice t len (parts.map λ(i,x)=>(i,a.eval x))) (by simp only[execOp,g]) ?_;have e:parts.map (λ(i,x)=>(i,a.eval x))=(parts.toList.map λp=>(p.1,a.eval p.2)).toArray:=by apply Array.ext';simp
  rw[e];exact this
 case h_8 t x g=>exact .of (by simp only[execOp,g]) (xG hh v (j x))
 case h_9 t x z g=>exact .ofU (by simp only[execOp,g]) λq M=>ui hh v (j x) (j z) M
 case h_10 x g=>exact Ao g hh (j x)
 case h_11 O t x z _ g=>exact .of (s:=do eqGuard O t x z (a.eval x) (a.eval z);binOp O t (a.eval x) (a.eval z)) (by simp only[execOp,g]) (wd hh (j x) (j z))
 case h_12 O t x g=>exact .of (by simp only[execOp,g]) (DJ hh (j x))
 case h_13 X Y x g=>exact .of (by simp only[execOp,g]) (rU hh v (j x))
 case h_14 t x g=>exact .of (by simp only[execOp,g]) (pQ hh (j x))
 case h_15 f first cap g=>exact .of (s:=Instr.makeFunc f (first.map a.eval) (cap.map a.eval)) (by simp only[execOp,g]) (qL hh (by simpa using kH j first.toList) (by simpa using kH j cap.toList))
 case h_16 t g=>exact .of (by simp only[execOp,g,Option.map_none]) (sa hh A B)
 case h_17 t l c g=>exact .of (by simp only[execOp,g]) (xM hh A B (j l) (j c))
 case h_18 t x lo hi mx g=>exact .of (by simp only[execOp,g]) (vQ hh v A B (j x) (sk j lo) (sk j hi) (sk j mx))
 case h_19 t x f g=>exact .of (by simp only[execOp,g]) (pI hh (j x))
 case h_20 t x f g=>exact .of (by simp only[execOp,g]) (vK hh (j x))
 case h_21 t x i g=>exact .of (by simp only[execOp,g]) (pH hh v (j x) (j i))
 case h_22 t x i g=>exact .of (by simp only[execOp,g]) (vL hh (j x) (j i))
 case h_23 t x i ok g=>exact .of (by simp only[execOp,g]) (uh hh v (j x) (j i))
 case h_24 t m k x g=>exact .ofU (by simp only[execOp,g]) λq M=>jQ hh v (j m) (j k) (j x) M
 case h_25 t m k x g=>exact .ofU (by simp only[execOp,g]) λq M=>jQ hh v (j m) (j k) (j x) M
 case h_26 t x g=>exact .of (by simp only[execOp,g]) (vX hh v A B (j x))
 case h_27 x H g=>exact .of (s:=Instr.next (a.eval x) H o.type) (by simp only[execOp,g]) (xU hh v (j x))
 case h_28 x g=>exact .of (by simp only[execOp,g]) (vZ hh v (j x))
 case h_29 x i g=>exact .of (by simp only[execOp,g]) (rM hh (j x))
 case h_30 c g=>
  obtain⟨callee,args,R⟩:=c;simp only;split
  case h_2=>exact OW.stuck
  rename_i b;obtain⟨args⟩:=args;obtain⟨R⟩:=R
  have L:∀(S:Builtin)(s:Sem Value)(t:Tr (V×eD)),b=S->(∀C,builtin S R.toArray o.type C (args.map a.eval).toArray=do pure (.value (<-s)))->dG P F ρ w h N W s t->OW P F ρ w h N W o a t:=by
   intro S s t G J hr;subst G;refine .of (s:=s) ?_ hr;simp only[execOp,g,resolve,invoke,pure_bind,List.map_toArray];exact J _
  simp only[si];split
  ·rename_i t x n
   have D:∃r,args=[r]/\y r=x:=by
    match args,n with
    |[r],e=>simp at e;exact⟨r,rfl,e⟩
   obtain⟨r,rfl,rfl⟩:=D;exact L .len _ _ rfl (λ_=>rfl) (Ad hh v (j r))
  ·rename_i x z n
   have D:∃r u,args=[r,u]/\y r=x/\y u=z:=by
    match args,n with
    |[r,u],e=>simp at e;exact⟨r,u,rfl,e.1,e.2⟩
   obtain⟨r,u,rfl,rfl,rfl⟩:=D;exact L .max _ _ rfl (λ_=>rfl) (Ae hh (j r) (j u))
  ·rename_i x z n
   have D:∃r u,args=[r,u]/\y r=x/\y u=z:=by
    match args,n with
    |[r,u],e=>simp at e;exact⟨r,u,rfl,e.1,e.2⟩
   obtain⟨r,u,rfl,rfl,rfl⟩:=D;exact L .min _ _ rfl (λ_=>rfl) (Af hh (j r) (j u))
  ·rename_i t t' x z n
   have D:∃r u,args=[r,u]/\y r=x/\y u=z:=by
    match args,n with
    |[r,u],e=>simp at e;exact⟨r,u,rfl,e.1,e.2⟩
   obtain⟨r,u,rfl,rfl,rfl⟩:=D;split
   case isFalse=>exact L .append _ _ rfl (λ_=>rfl) (rS hh v A B (j r) (j u))
   rename_i U;subst U;exact L .append _ _ rfl (λ_=>rfl) (ue hh v A B (j r) (j u))
  ·rename_i t t' x z n
   have D:∃r u,args=[r,u]/\y r=x/\y u=z:=by
    match args,n with
    |[r,u],e=>simp at e;exact⟨r,u,rfl,e.1,e.2⟩
   obtain⟨r,u,rfl,rfl,rfl⟩:=D;exact L .copy _ _ rfl (λ_=>rfl) (xJ hh v (j r) (j u))
  ·exact OW.stuck
 case h_31=>exact OW.stuck
end
end
inductive IP where
 |d (t:Ty)
 |pv (t:Ty)
 |cut (e:Ty)
 |k (s:Sc)
 |ptr (j off:Nat)
 |own (j:Nat)
 |mp (j:Nat)
 |ifc (t:TypeId) (j off:Nat)
 |fn (f:FuncId) (first cap:List (Nat×Nat))
 |nils
 |nilp
 |nilm
 |nili
 |nilf
@[reducible]def IP.val:IP->Type
  | .d t=>t.den
  | .pv t=>t.den
  | .cut e=>List e.den
  |_=>Unit
@[reducible]def IP.denK:IP->Type->Type
  | .d t,R=>t.den×R
  | .pv t,R=>t.den×R
  | .cut e,R=>List e.den×R
  |_,R=>R
def IP.put{R:Type}:(p:IP)->p.val->R->p.denK R
 | .d _,v,x=>(v,x)
 | .pv _,v,x=>(v,x)
 | .cut _,v,x=>(v,x)
 | .k _,_,x=>x
 | .ptr ..,_,x=>x
 | .own _,_,x=>x
 | .mp _,_,x=>x
 | .ifc ..,_,x=>x
 | .fn ..,_,x=>x
 | .nils,_,x=>x
 | .nilp,_,x=>x
 | .nilm,_,x=>x
 | .nili,_,x=>x
 | .nilf,_,x=>x
def IP.get{R:Type}:(p:IP)->p.denK R->p.val×R
 | .d _,x=>x
 | .pv _,x=>x
 | .cut _,x=>x
 | .k _,x=>((),x)
 | .ptr ..,x=>((),x)
 | .own _,x=>((),x)
 | .mp _,x=>((),x)
 | .ifc ..,x=>((),x)
 | .fn ..,x=>((),x)
 | .nils,x=>((),x)
 | .nilp,x=>((),x)
 | .nilm,x=>((),x)
 | .nili,x=>((),x)
 | .nilf,x=>((),x)
variable{p:IP}
theorem IP.get_put{v:p.val}{x:R}:p.get (p.put v x)=(v,x):=by cases p<;>rfl
def FA(r:Nat->Nat)(l:List (Nat×Nat)):List (Nat×Nat):=l.map λp=>(r p.1,p.2)
def IP.inst(r:Nat->Nat):(p:IP)->p.val->List I
 | .d t,v=>jL t v
 | .pv t,v=>[.pv t v]
 | .cut e,v=>[.cut e v]
 | .k s,_=>[.k s]
 | .ptr j c,_=>[.ptr (r j) c]
 | .own j,_=>[.own (r j)]
 | .mp j,_=>[.mp (r j)]
 | .ifc t j c,_=>[.ifc t (r j) c]
 | .fn f a b,_=>[.fn f (FA r a) (FA r b)]
 | .nils,_=>[.nils]
 | .nilp,_=>[.nilp]
 | .nilm,_=>[.nilm]
 | .nili,_=>[.nili]
 | .nilf,_=>[.nilf]
@[reducible]def LP.val:List IP->Type
  |[]=>Unit
  |p::l=>p.val×LP.val l
@[reducible]def LP.denK:List IP->Type->Type
  |[],R=>R
  |p::l,R=>p.denK (LP.denK l R)
def LP.put{R:Type}:(l:List IP)->LP.val l->R->LP.denK l R
 |[],_,x=>x
 |p::l,v,x=>p.put v.1 (LP.put l v.2 x)
def LP.get{R:Type}:(l:List IP)->LP.denK l R->LP.val l×R
 |[],x=>((),x)
 |p::l,x=>let q:=p.get x;let s:=LP.get l q.2;((q.1,s.1),s.2)
theorem LP.get_put:∀{l:List IP}{v:LP.val l}{x:R},LP.get l (LP.put l v x)=(v,x)
 |[],_,_=>rfl
 |p::l,v,x=>by simp only[LP.get,LP.put,IP.get_put,LP.get_put (l:=l)]
def LP.inst(r:Nat->Nat):(l:List IP)->LP.val l->List I
 |[],_=>[]
 |p::l,v=>p.inst r v.1++LP.inst r l v.2
inductive CP where
 |cells (l:List IP)
 |sl (e:Ty)
 |mp (kt vt:Ty)
 |lk (kt vt:Ty)
 |sit
 |mit (m:Nat) (kt vt:Ty)
 |nit
 |fit (kt vt:Ty)
@[reducible]def CP.val:CP->Type
  | .cells l=>LP.val l
  | .sl e=>List e.den
  | .mp a b=>List (a.den×b.den)
  | .lk a b=>List (a.den×b.den)
  | .sit=>List (BitVec 8)×Nat
  | .mit _ a b=>List (a.den×b.den)×Option (a.den×b.den)
  | .nit=>Unit
  | .fit a b=>List (a.den×b.den)×Option (a.den×b.den)
@[reducible]def CP.denK:CP->Type->Type
  | .cells l,R=>LP.denK l R
  | .sl e,R=>List e.den×R
  | .mp a b,R=>List (a.den×b.den)×R
  | .lk a b,R=>List (a.den×b.den)×R
  | .sit,R=>List (BitVec 8)×Nat×R
  | .mit _ a b,R=>List (a.den×b.den)×Option (a.den×b.den)×R
  | .nit,R=>R
  | .fit a b,R=>List (a.den×b.den)×Option (a.den×b.den)×R
def CP.put{R:Type}:(c:CP)->c.val->R->c.denK R
 | .cells l,v,x=>LP.put l v x
 | .sl _,v,x=>(v,x)
 | .mp ..,v,x=>(v,x)
 | .lk ..,v,x=>(v,x)
 | .sit,v,x=>(v.1,v.2,x)
 | .mit ..,v,x=>(v.1,v.2,x)
 | .nit,_,x=>x
 | .fit ..,v,x=>(v.1,v.2,x)
def CP.get{R:Type}:(c:CP)->c.denK R->c.val×R
 | .cells l,x=>LP.get l x
 | .sl _,x=>x
 | .mp ..,x=>x
 | .lk ..,x=>x
 | .sit,x=>((x.1,x.2.1),x.2.2)
 | .mit ..,x=>((x.1,x.2.1),x.2.2)
 | .nit,x=>((),x)
 | .fit ..,x=>((x.1,x.2.1),x.2.2)
variable{c:CP}
theorem CP.get_put{v:c.val}{x:R}:c.get (c.put v x)=(v,x):=by
 cases c
 case cells l=>exact LP.get_put
 all_goals rfl
def CP.inst(r:Nat->Nat):(c:CP)->c.val->Ch
 | .cells l,v=> .cells (LP.inst r l v)
 | .sl e,v=> .sl e v
 | .mp a b,v=> .mp a b v
 | .lk a b,v=> .lk a b v
 | .sit,v=> .sit v.1 v.2
 | .mit m a b,v=> .mit (r m) a b v.1 v.2
 | .nit,_=> .nit
 | .fit a b,v=> .fit a b v.1 v.2
@[reducible]def HP.val:List (Option CP)->Type
  |[]=>Unit
  |some c::l=>c.val×HP.val l
  |none::l=>HP.val l
@[reducible]def HP.denK:List (Option CP)->Type->Type
  |[],R=>R
  |some c::l,R=>c.denK (HP.denK l R)
  |none::l,R=>HP.denK l R
def HP.put{R:Type}:(l:List (Option CP))->HP.val l->R->HP.denK l R
 |[],_,x=>x
 |some c::l,v,x=>c.put v.1 (HP.put l v.2 x)
 |none::l,v,x=>HP.put l v x
def HP.get{R:Type}:(l:List (Option CP))->HP.denK l R->HP.val l×R
 |[],x=>((),x)
 |some c::l,x=>let q:=c.get x;let s:=HP.get l q.2;((q.1,s.1),s.2)
 |none::l,x=>HP.get l x
theorem HP.get_put:∀{l:List (Option CP)}{v:HP.val l}{x:R},HP.get l (HP.put l v x)=(v,x)
 |[],_,_=>rfl
 |some c::l,v,x=>by simp only[HP.get,HP.put,CP.get_put,HP.get_put (l:=l)]
 |none::l,v,x=>by simp only[HP.get,HP.put,HP.get_put (l:=l)]
abbrev fQ:=List (Nat×Ch)
def HP.inst(r:Nat->Nat):Nat->(l:List (Option CP))->HP.val l->fQ
 |_,[],_=>[]
 |n,some c::l,v=>(r n,c.inst r v.1)::HP.inst r (n+1) l v.2
 |n,none::l,v=>HP.inst r (n+1) l v
abbrev lL:=List (Nat×Bool×List IP)
@[reducible]def SP.val:lL->Type
  |[]=>Unit
  |p::l=>LP.val p.2.2×SP.val l
@[reducible]def SP.denK:lL->Type->Type
  |[],R=>R
  |p::l,R=>LP.denK p.2.2 (SP.denK l R)
def SP.put{R:Type}:(l:lL)->SP.val l->R->SP.denK l R
 |[],_,x=>x
 |p::l,v,x=>LP.put p.2.2 v.1 (SP.put l v.2 x)
def SP.get{R:Type}:(l:lL)->SP.denK l R->SP.val l×R
 |[],x=>((),x)
 |p::l,x=>let q:=LP.get p.2.2 x;let s:=SP.get l q.2;((q.1,s.1),s.2)
theorem SP.get_put:∀{l:lL}{v:SP.val l}{x:R},SP.get l (SP.put l v x)=(v,x)
 |[],_,_=>rfl
 |p::l,v,x=>by simp only[SP.get,SP.put,LP.get_put,SP.get_put (l:=l)]
def SP.inst(r:Nat->Nat):(l:lL)->SP.val l->List V->List V
 |[],_,s=>s
 |p::l,v,s=>SP.inst r l v.2 (s.set p.1 (.val p.2.1 (LP.inst r p.2.2 v.1)))
structure cx where
 sl:lL
 hp:List (Option CP)
@[reducible]def cx.val(p:cx):Type:=SP.val p.sl×HP.val p.hp
@[reducible]def cx.den(p:cx):Type:=SP.denK p.sl (HP.denK p.hp Unit)
def cx.put(p:cx)(v:p.val):p.den:=SP.put p.sl v.1 (HP.put p.hp v.2 ())
def cx.get(p:cx)(x:p.den):p.val:=let q:=SP.get p.sl x;(q.1,(HP.get p.hp q.2).1)
theorem cx.get_put{p:cx}{v:p.val}:p.get (p.put v)=v:=by simp only[cx.get,cx.put,SP.get_put,HP.get_put]
structure Mt where
 th:List (Nat×Option Nat)
 fz:List Nat
def aW{β:Type}:List (Nat×β)->Nat->Option β
 |[],_=>none
 |p::r,j=>if p.1=j then some p.2 else aW r j
def Mt.bind(m:Mt)(j:Nat)(k:Option Nat):Option Mt:=
 match aW m.th j with
 |some a=>if a=k then some m else none
 |none=>if k.isSome&&m.th.any (λp=>p.2==k)then none else some ⟨(j,k)::m.th,m.fz⟩
def Mt.binds(m:Mt):List (Nat×Nat)->List (Nat×Nat)->Option Mt
 |[],[]=>some m
 |p::l,q::r=>if p.2=q.2 then match m.bind p.1 (some q.1)with
   |some a=>Mt.binds a l r
   |none=>none
  else none
 |_,_=>none
def I.asG(c:Nat->Option Ch)(t:Ty):I->Option (t.den×List Nat)
 | .own q=>match c q,t with
   |some (.sl e l), .sl f=>match Ty.cast (.sl e) (.sl f) l with
    |some x=>some (x,[q])
    |none=>none
   |some (.fr e l), .sl f=>match Ty.cast (.sl e) (.sl f) l with
    |some x=>some (x,[])
    |none=>none
   |_,_=>none
 | .mp q=>match c q,t with
   |some (.mp a b l), .fm g h=>match Ty.cast (.fm a b) (.fm g h) l with
    |some x=>some (x,[q])
    |none=>none
   |some (.fm a b l), .fm g h=>match Ty.cast (.fm a b) (.fm g h) l with
    |some x=>some (x,[])
    |none=>none
   |_,_=>none
 |i=>match i.asD t with
  |some x=>some (x,[])
  |none=>none
def xY{α:Type}(x:Option (α×List Nat))(l:List I):Option (α×List I×List Nat):=match x with
 |some y=>some (y.1,l,y.2)
 |none=>none
def xZ{α:Type}(f:List I->Option (α×List I×List Nat)):Nat->List I->Option (List α×List I×List Nat)
 |0,l=>some ([],l,[])
 |n+1,l=>match f l with
  |some (x,b,z)=>match xZ f n b with
   |some (y,a,c)=>some (x::y,a,z++c)
   |none=>none
  |none=>none
def T2:List I->Bool
 | .d (.ar ..) _::_=>true
 |_=>false
def jR(b:Nat->Option Ch):(t:Ty)->List I->Option (t.den×List I×List Nat)
 | .un,l=>some ((),l,[])
 | .pr a r,l=>match jR b a l with
   |some (x,f,z)=>match jR b r f with
    |some (y,c,g)=>some ((x,y),c,z++g)
    |none=>none
   |none=>none
 | .ar n e,l=>if T2 l then(match l with
  |i::l=>xY (i.asG b (.ar n e)) l
  |[]=>none)else xZ (jR b e) n l
 | .pf t,i::l=>match i with
   | .ptr k 0=>match b k with
     |some (.cells m)=>match jR b t m with
      |some (x,[],z)=>some (x,l,k::z)
      |_=>none
     |some (.fc m)=>match jR b t m with
      |some (x,[],z)=>some (x,l,z)
      |_=>none
     |_=>none
   |i=>xY (i.asG b (.pf t)) l
 |t,i::l=>xY (i.asG b t) l
 |_,[]=>none
deriving instance DecidableEq for Sc
def IP.mt(i:Nat->Option Ch):(p:IP)->List I->Mt->Option (p.val×List I×Mt)
 | .d t,l,m=>match jR i t l with
   |some (x,r,z)=>some (x,r,⟨m.th,z++m.fz⟩)
   |none=>none
 | .pv t, .pv n x::l,m=>match Ty.cast n t x with
   |some y=>some (y,l,m)
   |none=>none
 | .cut e, .cut u x::l,m=>match Ty.cast (.sl u) (.sl e) x with
   |some y=>some (y,l,m)
   |none=>none
 | .k s, .k v::l,m=>if s=v then some ((),l,m)else none
 | .ptr j h, .ptr q c::l,m=>if h=c then(m.bind j (some q)).map λg=>((),l,g)else none
 | .own j, .own q::l,m=>(m.bind j (some q)).map λg=>((),l,g)
 | .own j, .nils::l,m=>(m.bind j none).map λg=>((),l,g)
 | .mp j, .mp q::l,m=>(m.bind j (some q)).map λg=>((),l,g)
 | .ifc t j h, .ifc n q c::l,m=>if t=n/\h=c then(m.bind j (some q)).map λg=>((),l,g)else none
 | .fn f a b, .fn w A B::l,m=>if f=w then match m.binds a A with
  |some g=>(g.binds b B).map λo=>((),l,o)
  |none=>none
   else none
 | .nils, .nils::l,m=>some ((),l,m)
 | .nilp, .nilp::l,m=>some ((),l,m)
 | .nilm, .nilm::l,m=>some ((),l,m)
 | .nili, .nili::l,m=>some ((),l,m)
 | .nilf, .nilf::l,m=>some ((),l,m)
 |_,_,_=>none
def LP.mt(a:Nat->Option Ch):(l:List IP)->List I->Mt->Option (LP.val l×Mt)
 |[],[],m=>some ((),m)
 |[],_::_,_=>none
 |p::l,c,m=>match p.mt a c m with
  |some (v,r,e)=>match LP.mt a l r e with
   |some (f,b)=>some ((v,f),b)
   |none=>none
  |none=>none
def SP.mt(a:Nat->Option Ch)(slots:List V):(l:lL)->Mt->Option (SP.val l×Mt)
 |[],m=>some ((),m)
 |p::l,m=>match slots[p.1]? with
  |some (.val g c)=>if g=p.2.1 then match LP.mt a p.2.2 c m with
   |some (v,e)=>match SP.mt a slots l e with
    |some (f,b)=>some ((v,f),b)
    |none=>none
   |none=>none
   else none
  |_=>none
def jv(kt c a b:Ty)(l:List (kt.den×c.den)):Option (List (a.den×b.den)):=match Ty.deq kt a,Ty.deq c b with
 |some h,some g=>some (h.down▸g.down▸l)
 |_,_=>none
def CP.mt(n:Nat->Option Ch):(c:CP)->Option Ch->Mt->Option (c.val×Mt)
 | .cells l,some (.cells p),m=>LP.mt n l p m
 | .sl e,some (.sl q l),m=>(Ty.cast (.sl q) (.sl e) l).map (·,m)
 | .mp h i,some (.mp a b l),m=>(jv a b h i l).map (·,m)
 | .lk h i,some (.lk a b l),m=>(jv a b h i l).map (·,m)
 | .sit,some (.sit s o),m=>some ((s,o),m)
 | .mit j h i,some (.mit k a b f g),m=>match m.bind j (some k),jv a b h i f,jv a b h i g.toList with
   |some t,some r,some l=>some ((r,l.head?),t)
   |_,_,_=>none
 | .nit,some .nit,m=>some ((),m)
 | .fit h i,some (.fit a b f g),m=>match jv a b h i f,jv a b h i g.toList with
   |some r,some l=>some ((r,l.head?),m)
   |_,_=>none
 |_,_,_=>none
def CP.mtO(a:Nat->Option Ch):(c:CP)->Option Nat->Mt->Option (c.val×Mt)
 |c,some k,m=>c.mt a (a k) m
 | .sl _,none,m=>some ([],m)
 |_,none,_=>none
def HP.mt(a:Nat->Option Ch):Nat->(l:List (Option CP))->Mt->Option (HP.val l×Mt)
 |_,[],m=>some ((),m)
 |n,none::l,m=>HP.mt a (n+1) l m
 |n,some c::l,m=>match aW m.th n with
  |some k=>match c.mtO a k m with
   |some (v,e)=>match HP.mt a (n+1) l e with
    |some (f,b)=>some ((v,f),b)
    |none=>none
   |none=>none
  |none=>none
variable{vals vs:List Value}{B m m':Mt}
section
section
variable{F:Nat->Prop}{ρ:Nat->Pl}{w:World}{h get:Nat->Option Ch}
theorem I.asG_ok(hh:dN F ρ w h)(A:∀k b,get k=some b->h k=some b){i:I}{x:kt.den}(f:i.asG get kt=some (x,[]))(q:bh w (Av F ρ h) ρ i vs):Rd w (Av F ρ h) kt x vs:=by
 cases i
 case own k=>
  cases kt<;>cases j:get k<;>simp only[I.asG,j]at f<;>first|(simp at f;done)|skip
  rename_i E r;cases r<;>simp only at f<;>first|(simp at f;done)|skip
  ·split at f<;>simp at f
  ·rename_i e l;split at f
   case h_2=>simp at f
   rename_i y m;simp at f;subst f;obtain⟨o,p⟩:=Ty.cast_ok m;simp at o;subst o;simp at p;subst p;obtain⟨v,g,s⟩:=hh.ok k _ (A k _ j);obtain⟨a,n,c,u,z⟩:=q;rw[u]at g;simp at g;subst g;exact⟨_,z,s⟩
 case mp k=>
  cases kt<;>cases j:get k<;>simp only[I.asG,j]at f<;>first|(simp at f;done)|skip
  rename_i G H r;cases r<;>simp only at f<;>first|(simp at f;done)|skip
  ·split at f<;>simp at f
  ·rename_i a b l;split at f
   case h_2=>simp at f
   rename_i y m;simp at f;subst f;obtain⟨o,p⟩:=Ty.cast_ok m;simp at o;obtain⟨rfl,rfl⟩:=o;simp at p;subst p;obtain⟨bl,g,s,u,z⟩:=hh.ok k _ (A k _ j);obtain⟨B,C,D⟩:=q;rw[C]at g;simp at g;subst g;exact⟨_,D,s,u,z⟩
 all_goals
  simp only[I.asG]at f;split at f
  case h_2=>simp at f
  rename_i y m;simp at f;subst f;exact I.asD_ok m q
theorem ya{α:Type}{A:Nat->Prop}{f:List I->Option (α×List I×List Nat)}{S:α->List Value->Prop}
 (i:∀l x r vs,f l=some (x,r,[])->aP w A ρ l vs->∃a b,vs=a++b/\S x a/\aP w A ρ r b):
 ∀(n:Nat)(l:List I)(x:List α)(r:List I)(vs:List Value),xZ f n l=some (x,r,[])->aP w A ρ l vs->∃a b,vs=a++b/\(x.length=n/\dT S x a)/\aP w A ρ r b
 |0,l,x,r,vs,h,c=>by simp[xZ]at h;obtain⟨rfl,rfl⟩:=h;exact⟨[],vs,rfl,⟨rfl,rfl⟩,c⟩
 |n+1,l,x,r,vs,h,c=>by
  simp only[xZ]at h;split at h
  case h_2=>simp at h
  rename_i y C z m;split at h
  case h_2=>simp at h
  rename_i D o E g;simp at h;obtain⟨rfl,rfl,rfl,rfl⟩:=h;obtain⟨a,b,e,p,q⟩:=i _ _ _ _ m c;obtain⟨j,s,t,⟨u,v⟩,B⟩:=ya i n _ _ _ _ g q;exact⟨a++j,s,by rw[e,t,ay],⟨by simp[u],a,j,rfl,p,v⟩,B⟩
theorem FB(hh:dN F ρ w h)(O:∀k b,get k=some b->h k=some b):∀{t:Ty}{l r:List I}{x:t.den}{vs:List Value},jR get t l=some (x,r,[])->aP w (Av F ρ h) ρ l vs->∃a b,vs=a++b/\Rd w (Av F ρ h) t x a/\aP w (Av F ρ h) ρ r b:=by
 intro t
 have one:∀{t:Ty}{i:I}{l r:List I}{x:t.den}{vs:List Value},xY (i.asG get t) l=some (x,r,[])->aP w (Av F ρ h) ρ (i::l) vs->∃a b,vs=a++b/\Rd w (Av F ρ h) t x a/\aP w (Av F ρ h) ρ r b:=by
  intro t i l r x vs f ⟨a,b,e,B,C⟩;unfold xY at f;split at f
  case h_2=>simp at f
  rename_i y o;obtain⟨y1,y2⟩:=y;simp at f;obtain⟨rfl,rfl,rfl⟩:=f;exact⟨a,b,e,I.asG_ok hh O o B,C⟩
 induction t with
 |un=>intro l r x vs f g;simp[jR]at f;subst f;exact⟨[],vs,rfl,rfl,g⟩
 |pr a q D E=>
  intro l r x vs f g;simp only[jR]at f;split at f
  case h_2=>simp at f
  rename_i y l' z o;split at f
  case h_2=>simp at f
  rename_i y' Q z' G;simp at f;obtain⟨rfl,rfl,rfl,rfl⟩:=f;obtain⟨c,d,H,p,s⟩:=D o g;obtain⟨P,R,v,J,K⟩:=E G s;exact⟨c++P,R,by rw[H,v,ay],⟨c,P,rfl,p,J⟩,K⟩
 |ar n e L=>
  intro l r x vs f g;simp only[jR]at f;split at f
  ·split at f
   ·exact one f g
   ·simp at f
  ·obtain⟨a,b,H,p,s⟩:=ya (λ_ _ _ _ M N=>L M N) n _ _ _ _ f g;exact⟨a,b,H,p,s⟩
 |pf t L=>
  intro l r x vs f g;cases l with
  |nil=>simp[jR]at f
  |cons i l=>
   simp only[jR]at f;split at f
   case h_2=>exact one f g
   rename_i k;split at f
   case h_3=>simp at f
   ·split at f<;>simp at f
   ·rename_i m S;split at f
    case h_2=>simp at f
    rename_i y z o;simp at f;obtain⟨rfl,rfl,rfl⟩:=f;obtain⟨a,b,e,B,C⟩:=g;obtain⟨bl,us,p,s,J,K,U⟩:=hh.ok k _ (O k _ S);obtain⟨c,d,v,M,N⟩:=L o K;have W:d=[]:=N;rw[W,aH]at v;obtain⟨u,⟨X,A,Y⟩,g3⟩:=B;simp only at A;rw[p]at A;simp at A;subst A;exact⟨a,b,e,⟨bl,0,c,by rw[g3,Y],s,J,M,λj w hj=>by rw[bT];exact U j w (by rw[v];exact hj)⟩,C⟩
 |_=>
  intro l r x vs f g;cases l with
  |nil=>simp[jR]at f
  |cons i l=>exact one f g
end
structure lb(m m':Mt):Prop where
 th:∀j k,aW m.th j=some k->aW m'.th j=some k
 fz:m'.fz=[]->m.fz=[]
theorem lb.refl(m:Mt):lb m m:=⟨λ_ _ a=>a,id⟩
theorem lb.trans(h:lb m B)(h':lb B m'):lb m m':=⟨λj k q=>h'.th j k (h.th j k q),λq=>h.fz (h'.fz q)⟩
def Mt.Inj(m:Mt):Prop:=∀j a k,aW m.th j=some (some k)->aW m.th a=some (some k)->j=a
theorem iF{β:Type}:∀{l:List (Nat×β)}{j:Nat}{k:β},aW l j=some k->(j,k)∈l
 |[],_,_,h=>by simp[aW]at h
 |p::r,j,k,h=>by
  simp only[aW]at h;split at h
  ·rename_i e;simp at h;subst e;subst h;simp
  ·exact aD _ (iF h)
theorem Mt.bind_ok{k:Option Nat}(h:m.bind j k=some m')(hi:m.Inj):lb m m'/\aW m'.th j=some k/\m'.Inj:=by
 unfold Mt.bind at h;split at h
 ·rename_i s g;split at h<;>simp at h;rename_i e;subst e;subst h;exact⟨lb.refl _,g,hi⟩
 ·rename_i n;split at h<;>simp at h;rename_i o;subst h;refine⟨⟨λi q f=>?_,id⟩,by simp[aW],λi l q b c=>?_⟩
  ·simp only[aW];split
   ·rename_i e;rw[<-e,n]at f;simp at f
   ·exact f
  ·have a:∀i,aW m.th i=some (some q)->k=some q->False:=by
    intro i f g;subst g;apply o;simp only[Option.isSome_some,lx,List.any_eq_true,aS];exact⟨_,iF f,rfl⟩
   simp only[aW]at b c;split at b<;>split at c
   ·rename_i p r;exact p.symm.trans r
   ·simp at b;exact(a l c b).elim
   ·simp at c;exact(a i b c).elim
   ·exact hi i l q b c
theorem Mt.binds_ok:∀{l r:List (Nat×Nat)}{m m':Mt},m.binds l r=some m'->m.Inj->lb m m'/\m'.Inj/\F2 (λp q=>p.2=q.2/\aW m'.th p.1=some (some q.1)) l r
 |[],[],m,m',h,a=>by simp[Mt.binds]at h;subst h;exact⟨lb.refl _,a,trivial⟩
 |[],_::_,_,_,h,_=>by simp[Mt.binds]at h
 |_::_,[],_,_,h,_=>by simp[Mt.binds]at h
 |p::l,q::r,m,m',h,a=>by
  simp only[Mt.binds]at h;split at h
  case isFalse=>simp at h
  rename_i e;split at h
  case h_2=>simp at h
  rename_i o c;obtain⟨f,g,i⟩:=Mt.bind_ok c a;obtain⟨b,j,n⟩:=Mt.binds_ok h i;exact⟨f.trans b,j,⟨e,b.th _ _ g⟩,n⟩
def lc(m:Mt)(ρ ρ':Nat->Pl):Prop:=∀j,match aW m.th j with
 |some (some k)=>ρ' j=ρ k
 |some none=>ρ' j= .sv (.slice none 0 0)
 |none=>True
theorem lc.some(h:lc m ρ ρ')(e:aW m.th j=some (some n)):ρ' j=ρ n:=by have:=h j;rw[e]at this;exact this
theorem lc.none(h:lc m ρ ρ')(e:aW m.th j=Option.some Option.none):ρ' j= .sv (.slice Option.none 0 0):=by have:=h j;rw[e]at this;exact this
def iG(k:Nat):Nat:=k
theorem we(l:List (Nat×Nat)):FA iG l=l:=by unfold FA;exact List.map_id l
section
variable{F:Nat->Prop}{ρ ρ':Nat->Pl}{w:World}{h get:Nat->Option Ch}{mf:Mt}
theorem nW(a:lc mf ρ ρ'):∀{l r:List (Nat×Nat)}{vs:List Value},F2 (λp q=>p.2=q.2/\aW mf.th p.1=some (some q.1)) l r->F2 (lz ρ) r vs->F2 (lz ρ') l vs
 |[],[],[],_,_=>trivial
 |p::_,q::_,v::_,⟨⟨c,e⟩,f⟩,⟨⟨b,g,i⟩,j⟩=>⟨⟨b,by rw[a.some e];exact g,by rw[c];exact i⟩,nW a f j⟩
theorem IP.mt_sub{s r:List I}{v:p.val}(c:p.mt get s m=some (v,r,m'))(hi:m.Inj):lb m m'/\m'.Inj:=by
 have g:∀{j:Nat}{k:Option Nat}{l:List I}{m':Mt}{r:List I},((m.bind j k).map λm'=>((),l,m'))=some ((),r,m')->lb m m'/\m'.Inj:=by
  intro j k l m' r i;cases e:m.bind j k with
  |none=>simp[e]at i
  |some o=>
   simp[e]at i;obtain⟨_,rfl⟩:=i;obtain⟨n,_,t⟩:=Mt.bind_ok e hi;exact⟨n,t⟩
 unfold IP.mt at c;split at c
 ·split at c
  case h_2=>simp at c
  rename_i x r z D;simp at c;obtain⟨_,_,rfl⟩:=c;exact⟨⟨λ_ _ q=>q,λq=>by simp at q;exact q.2⟩,hi⟩
 ·split at c<;>simp at c;obtain⟨_,_,rfl⟩:=c;exact⟨lb.refl _,hi⟩
 ·split at c<;>simp at c;obtain⟨_,_,rfl⟩:=c;exact⟨lb.refl _,hi⟩
 ·split at c<;>simp at c;obtain⟨_,rfl⟩:=c;exact⟨lb.refl _,hi⟩
 ·split at c
  ·exact g c
  ·simp at c
 ·exact g c
 ·exact g c
 ·exact g c
 ·split at c
  ·exact g c
  ·simp at c
 ·split at c
  case isFalse=>simp at c
  split at c
  case h_2=>simp at c
  rename_i o u;rename_i f a b E G y l _ _;cases e:o.binds b y with
  |none=>simp[e]at c
  |some H=>
   simp[e]at c;obtain⟨_,rfl⟩:=c;obtain⟨n,A,_⟩:=Mt.binds_ok u hi;obtain⟨B,C,_⟩:=Mt.binds_ok e A;exact⟨n.trans B,C⟩
 all_goals first
  |(simp at c;obtain⟨_,rfl⟩:=c;exact⟨lb.refl _,hi⟩)
  |(simp at c;done)
theorem IP.mt_ok(hh:dN F ρ w h)(W:∀k b,get k=some b->h k=some b)(G:lc mf ρ ρ')(X:mf.fz=[]){S r:List I}{v:p.val}(g:p.mt get S m=some (v,r,m'))(hi:m.Inj)(E:lb m' mf)(A:aP w (Av F ρ h) ρ S vs):
 ∃a b,vs=a++b/\aP w (Av F ρ h) ρ' (p.inst iG v) a/\aP w (Av F ρ h) ρ r b:=by
 unfold IP.mt at g;split at g
 ·split at g
  case h_2=>simp at g
  rename_i x r' z N;simp at g;obtain⟨rfl,rfl,rfl⟩:=g;have:=E.fz X;simp at this;obtain⟨rfl,_⟩:=this;obtain⟨a,b,e,Y,q2⟩:=FB hh W N A;exact⟨a,b,e,gq.2 Y,q2⟩
 ·obtain⟨a,b,e,o,s⟩:=A;split at g<;>simp at g;rename_i y O;obtain⟨rfl,rfl,rfl⟩:=g;obtain⟨H,rfl⟩:=Ty.cast_ok O;subst H;exact⟨a,b,e,aP.single o,s⟩
 ·obtain⟨a,b,e,o,s⟩:=A;split at g<;>simp at g;rename_i y O;obtain⟨rfl,rfl,rfl⟩:=g;obtain⟨H,U⟩:=Ty.cast_ok O;simp at H;subst H;simp at U;subst U;exact⟨a,b,e,aP.single o,s⟩
 ·obtain⟨a,b,e,o,s⟩:=A;split at g<;>simp at g;rename_i H;obtain⟨rfl,rfl⟩:=g;subst H;exact⟨a,b,e,aP.single o,s⟩
 ·obtain⟨a,b,e,o,s⟩:=A;split at g
  case isFalse=>simp at g
  rename_i M;rename_i j P q K l;cases i:m.bind j (some q)with
  |none=>simp[i]at g
  |some J=>
   simp[i]at g;obtain⟨rfl,rfl⟩:=g;obtain⟨_,B,_⟩:=Mt.bind_ok i hi;have:=G.some (E.th _ _ B);obtain⟨u,⟨bl,C,D⟩,L⟩:=o;exact⟨a,b,e,aP.single (⟨u,⟨bl,by simp only[iG];rw[this];exact C,by rw[M];exact D⟩,L⟩),s⟩
 ·obtain⟨a,b,e,o,s⟩:=A;rename_i j q l;cases i:m.bind j (some q)with
  |none=>simp[i]at g
  |some J=>
   simp[i]at g;obtain⟨rfl,rfl⟩:=g;obtain⟨_,B,_⟩:=Mt.bind_ok i hi;have:=G.some (E.th _ _ B);obtain⟨ad,n,c,C,D⟩:=o;exact⟨a,b,e,aP.single (⟨ad,n,c,by simp only[iG];rw[this];exact C,D⟩),s⟩
 ·obtain⟨a,b,e,o,s⟩:=A;rename_i j l;cases i:m.bind j none with
  |none=>simp[i]at g
  |some J=>
   simp[i]at g;obtain⟨rfl,rfl⟩:=g;obtain⟨_,B,_⟩:=Mt.bind_ok i hi;have:=G.none (E.th _ _ B);exact⟨a,b,e,aP.single (⟨none,0,0,this,o⟩),s⟩
 ·obtain⟨a,b,e,o,s⟩:=A;rename_i j q l;cases i:m.bind j (some q)with
  |none=>simp[i]at g
  |some J=>
   simp[i]at g;obtain⟨rfl,rfl⟩:=g;obtain⟨_,B,_⟩:=Mt.bind_ok i hi;have:=G.some (E.th _ _ B);obtain⟨bl,C,D⟩:=o;exact⟨a,b,e,aP.single (⟨bl,by simp only[iG];rw[this];exact C,D⟩),s⟩
 ·obtain⟨a,b,e,o,s⟩:=A;split at g
  case isFalse=>simp at g
  rename_i M;rename_i t j P t' q K l;cases i:m.bind j (some q)with
  |none=>simp[i]at g
  |some J=>
   simp[i]at g;obtain⟨rfl,rfl⟩:=g;obtain⟨_,B,_⟩:=Mt.bind_ok i hi;have:=G.some (E.th _ _ B);obtain⟨u,⟨bl,C,D⟩,L⟩:=o;exact⟨a,b,e,aP.single (⟨u,⟨bl,by simp only[iG];rw[this];exact C,by rw[M.2];exact D⟩,by rw[M.1];exact L⟩),s⟩
 ·obtain⟨a,b,e,o,s⟩:=A;split at g
  case isFalse=>simp at g
  rename_i ef;split at g
  case h_2=>simp at g
  rename_i J Q;rename_i f fa fb f' a0 R l _;cases i:J.binds fb R with
  |none=>simp[i]at g
  |some m2=>
   simp[i]at g;obtain⟨rfl,rfl⟩:=g;obtain⟨a1,B,a3⟩:=Mt.binds_ok Q hi;obtain⟨c1,c2,c3⟩:=Mt.binds_ok i B;obtain⟨fs,cs,C,D,L⟩:=o;refine⟨a,b,e,aP.single ⟨fs,cs,by rw[ef];exact C,?_,?_⟩,s⟩
   ·rw[we];exact nW G (F2.imp (λ_ _ q=>⟨q.1,(c1.trans E).th _ _ q.2⟩) a3) D
   ·rw[we];exact nW G (F2.imp (λ_ _ q=>⟨q.1,E.th _ _ q.2⟩) c3) L
 all_goals first
  |(simp at g;done)
  |(obtain⟨a,b,e,o,s⟩:=A;simp at g;obtain⟨rfl,_⟩:=g;exact⟨a,b,e,aP.single o,s⟩)
theorem LP.mt_sub:∀{l:List IP}{b:List I}{m m':Mt}{v:LP.val l},LP.mt get l b m=some (v,m')->m.Inj->lb m m'/\m'.Inj
 |[],[],m,m',v,h,a=>by simp[LP.mt]at h;subst h;exact⟨lb.refl _,a⟩
 |[],_::_,_,_,_,h,_=>by simp[LP.mt]at h
 |p::l,b,m,m',v,h,a=>by
  simp only[LP.mt]at h;split at h
  case h_2=>simp at h
  rename_i n r o c;split at h
  case h_2=>simp at h
  rename_i q s e;simp at h;obtain⟨_,rfl⟩:=h;obtain⟨f,g⟩:=IP.mt_sub c a;obtain⟨i,j⟩:=LP.mt_sub e g;exact⟨f.trans i,j⟩
theorem LP.mt_ok(hh:dN F ρ w h)(i:∀k b,get k=some b->h k=some b)(j:lc mf ρ ρ')(n:mf.fz=[]):∀{l:List IP}{f:List I}{m m':Mt}{v:LP.val l}{vs:List Value},LP.mt get l f m=some (v,m')->m.Inj->lb m' mf->aP w (Av F ρ h) ρ f vs->aP w (Av F ρ h) ρ' (LP.inst iG l v) vs
 |[],[],m,m',v,vs,c,_,_,g=>g
 |[],_::_,_,_,_,_,c,_,_,_=>by simp[LP.mt]at c
 |p::l,f,m,m',v,vs,c,o,q,g=>by
  simp only[LP.mt]at c;split at c
  case h_2=>simp at c
  rename_i A r B s;split at c
  case h_2=>simp at c
  rename_i C D t;simp at c;obtain⟨rfl,rfl⟩:=c;obtain⟨_,u⟩:=IP.mt_sub s o;obtain⟨x,_⟩:=LP.mt_sub t u;obtain⟨a,b,e,y,z⟩:=IP.mt_ok hh i j n s o (x.trans q) g;rw[e];exact aP.append y (LP.mt_ok hh i j n t u q z)
end
end
variable{a h i:Nat->Option Ch}
section
theorem F2.set_left{R:α->β->Prop}:∀{l:List α}{m:List β},F2 R l m->∀(i:Nat){a:α},(∀b,m[i]?=some b->R a b)->F2 R (l.set i a) m
 |[],[],_,_,_,_=>trivial
 |_::_,b::_,⟨_,h⟩,0,_,r=>⟨r b rfl,h⟩
 |_::_,_::_,⟨c,h⟩,i+1,_,r=>⟨c,F2.set_left h i (λb e=>r b (cf e))⟩
theorem F2.anys:∀(vs:List Value),F2 (aT w A ρ) (ax vs.length .any) vs
 |[]=>trivial
 |_::r=>⟨trivial,F2.anys r⟩
section
variable{F:Nat->Prop}{ρ ρ':Nat->Pl}{w:World}{h get:Nat->Option Ch}{mf:Mt}
theorem SP.mt_sub:∀{l:lL}{m m':Mt}{v:SP.val l},SP.mt get slots l m=some (v,m')->m.Inj->lb m m'/\m'.Inj
 |[],m,m',v,h,a=>by simp[SP.mt]at h;subst h;exact⟨lb.refl _,a⟩
 |p::l,m,m',v,h,a=>by
  simp only[SP.mt]at h;split at h
  case h_2=>simp at h
  split at h
  case isFalse=>simp at h
  split at h
  case h_2=>simp at h
  rename_i j n b;split at h
  case h_2=>simp at h
  rename_i o q c;simp at h;obtain⟨_,rfl⟩:=h;obtain⟨e,f⟩:=LP.mt_sub b a;obtain⟨g,i⟩:=SP.mt_sub c f;exact⟨e.trans g,i⟩
theorem SP.mt_ok(hh:dN F ρ w h)(j:∀k b,get k=some b->h k=some b)(n:lc mf ρ ρ')(o:mf.fz=[])(f:F2 (aT w (Av F ρ h) ρ) slots vals):
 ∀{l:lL}{m m':Mt}{v:SP.val l}{s:List V},SP.mt get slots l m=some (v,m')->m.Inj->lb m' mf->F2 (aT w (Av F ρ h) ρ') s vals->F2 (aT w (Av F ρ h) ρ') (SP.inst iG l v s) vals
 |[],_,_,_,_,_,_,_,i=>i
 |p::l,m,m',v,s,a,q,c,i=>by
  simp only[SP.mt]at a;split at a
  case h_2=>simp at a
  rename_i g G x;split at a
  case isFalse=>simp at a
  rename_i y;split at a
  case h_2=>simp at a
  rename_i H J r;split at a
  case h_2=>simp at a
  rename_i K L t;simp at a;obtain⟨rfl,rfl⟩:=a;obtain⟨_,u⟩:=LP.mt_sub r q;obtain⟨z,_⟩:=SP.mt_sub t u;refine SP.mt_ok (l:=l) hh j n o f t u c (i.set_left p.1 λb A=>?_);obtain⟨M,e,B⟩:=f.get x;rw[A]at e;simp at e;subst e;obtain⟨C,D,E⟩:=B;exact⟨C,LP.mt_ok hh j n o r q (z.trans c) D,by rw[<-y];exact E⟩
theorem CP.mt_sub{b:Option Ch}{v:c.val}(a:c.mt get b m=some (v,m'))(hi:m.Inj):lb m m'/\m'.Inj:=by
 have e:∀{α:Type}{x:Option α}{v:α},x.map (·,m)=some (v,m')->lb m m'/\m'.Inj:=by
  intro α x v h;cases x<;>simp at h;obtain⟨_,rfl⟩:=h;exact⟨lb.refl _,hi⟩
 cases b with
 |none=>cases c<;>simp[CP.mt]at a
 |some b=>
  cases c<;>cases b<;>simp only[CP.mt]at a<;>first|(simp at a;done)|exact e a|exact LP.mt_sub a hi|skip
  ·simp at a;obtain⟨_,rfl⟩:=a;exact⟨lb.refl _,hi⟩
  ·split at a
   case h_2=>simp at a
   rename_i j _ _ f _ _;simp at a;obtain⟨_,rfl⟩:=a;obtain⟨g,_,i⟩:=Mt.bind_ok f hi;exact⟨g,i⟩
  ·simp at a;subst a;exact⟨lb.refl _,hi⟩
  ·split at a
   case h_2=>simp at a
   simp at a;obtain⟨_,rfl⟩:=a;exact⟨lb.refl _,hi⟩
theorem iH{g c f:Ty}{l:List (kt.den×g.den)}{m:List (c.den×f.den)}(h:jv kt g c f l=some m):∃(e:kt=c)(i:g=f),m=e▸i▸l:=by
 unfold jv at h;split at h
 ·rename_i a b _ _;simp at h;exact⟨a.down,b.down,h.symm⟩
 ·simp at h
theorem CP.mt_ok(hh:dN F ρ w h)(L:∀bl b,get bl=some b->h bl=some b)(J:lc mf ρ ρ')(M:mf.fz=[]){v:c.val}(f:c.mt get (some C) m=some (v,m'))(hi:m.Inj)(K:lb m' mf)(s:ρ' j=ρ bl)(t:xk w (Av F ρ h) ρ bl C):
 xk w (Av F ρ h) ρ' j (c.inst iG v)/\C.own=true/\(c.inst iG v).own=true:=by
 cases c<;>cases C<;>simp only[CP.mt]at f<;>first|(simp at f;done)|skip
 ·rename_i l S;obtain⟨b,N,O,i,g,y⟩:=t;exact⟨⟨b,N,O,by rw[s];exact i,g,LP.mt_ok hh L J M f hi K y⟩,rfl,rfl⟩
 ·rename_i e P l;cases x:Ty.cast (.sl P) (.sl e) l<;>simp[x]at f;obtain⟨rfl,rfl⟩:=f;obtain⟨p,q⟩:=Ty.cast_ok x;simp at p;subst p;simp at q;subst q;obtain⟨u,i,g⟩:=t;exact⟨⟨u,by rw[s];exact i,g⟩,rfl,rfl⟩
 ·rename_i z A n o l;cases x:jv n o z A l<;>simp[x]at f;obtain⟨rfl,rfl⟩:=f;obtain⟨p,q,rfl⟩:=iH x;subst p;subst q;obtain⟨b,i,g⟩:=t;exact⟨⟨b,by rw[s];exact i,g⟩,rfl,rfl⟩
 ·rename_i z A n o l;cases x:jv n o z A l<;>simp[x]at f;obtain⟨rfl,rfl⟩:=f;obtain⟨p,q,rfl⟩:=iH x;subst p;subst q;obtain⟨b,i,g⟩:=t;exact⟨⟨b,by rw[s];exact i,g⟩,rfl,rfl⟩
 ·simp at f;obtain⟨rfl,rfl⟩:=f;obtain⟨b,i,g⟩:=t;exact⟨⟨b,by rw[s];exact i,g⟩,rfl,rfl⟩
 ·rename_i U z A W n o B a;split at f
  case h_2=>simp at f
  rename_i X r l i g y;simp at f;obtain⟨rfl,rfl⟩:=f;obtain⟨p,q,rfl⟩:=iH g;subst p;subst q;obtain⟨_,_,rfl⟩:=iH y;obtain⟨_,Q,_⟩:=Mt.bind_ok i hi;have:=J.some (K.th _ _ Q);obtain⟨b,D,E,G,H⟩:=t;refine⟨⟨b,D,by rw[s];exact E,by simp only[iG];rw[this];exact G,?_⟩,rfl,rfl⟩;have:a.toList.head?=a:=by cases a<;>rfl
  simp only[this];exact H
 ·obtain⟨b,i,g⟩:=t;exact⟨⟨b,by rw[s];exact i,g⟩,rfl,rfl⟩
 ·rename_i z A n o B a;split at f
  case h_2=>simp at f
  rename_i r l g y;simp at f;obtain⟨rfl,rfl⟩:=f;obtain⟨p,q,rfl⟩:=iH g;subst p;subst q;obtain⟨_,_,rfl⟩:=iH y;obtain⟨b,D,E,G,H,R⟩:=t;refine⟨⟨b,D,by rw[s];exact E,G,H,?_⟩,rfl,rfl⟩;have:a.toList.head?=a:=by cases a<;>rfl
  simp only[this];exact R
theorem CP.mtO_sub{k:Option Nat}{v:c.val}(a:c.mtO get k m=some (v,m'))(hi:m.Inj):lb m m'/\m'.Inj:=by
 unfold CP.mtO at a;split at a
 ·exact CP.mt_sub a hi
 ·simp at a;obtain⟨_,rfl⟩:=a;exact⟨lb.refl _,hi⟩
 ·simp at a
theorem HP.mt_sub:∀{l:List (Option CP)}{n:Nat}{m m':Mt}{v:HP.val l},HP.mt get n l m=some (v,m')->m.Inj->lb m m'/\m'.Inj
 |[],_,m,m',v,h,a=>by simp[HP.mt]at h;subst h;exact⟨lb.refl _,a⟩
 |none::l,n,m,m',v,h,a=>by simp only[HP.mt]at h;exact HP.mt_sub h a
 |some c::l,n,m,m',v,h,a=>by
  simp only[HP.mt]at h;split at h
  case h_2=>simp at h
  split at h
  case h_2=>simp at h
  rename_i o p b;split at h
  case h_2=>simp at h
  rename_i q r e;simp at h;obtain⟨_,rfl⟩:=h;obtain⟨f,g⟩:=CP.mtO_sub b a;obtain⟨i,j⟩:=HP.mt_sub e g;exact⟨f.trans i,j⟩
def a1u(F:Nat->Prop)(ρ ρ':Nat->Pl)(w:World)(h:Nat->Option Ch)(mf:Mt)(j:Nat)(a:Ch):Prop:=
 xk w (Av F ρ h) ρ' j a/\a.own=true/\∀b,(ρ' j).blk=some b->∃k c,aW mf.th j=some (some k)/\h k=some c/\c.own=true/\(ρ k).blk=some b
theorem HP.mt_ok(hh:dN F ρ w h)(o:∀k b,get k=some b->h k=some b)(p:lc mf ρ ρ')(y:mf.fz=[]):
 ∀{l:List (Option CP)}{n:Nat}{m m':Mt}{v:HP.val l},HP.mt get n l m=some (v,m')->m.Inj->lb m' mf->∀j g,aW (HP.inst iG n l v) j=some g->a1u F ρ ρ' w h mf j g
 |[],_,_,_,_,_,_,_,j,g,f=>by simp[HP.inst,aW]at f
 |none::l,n,m,m',v,a,s,q,j,g,f=>by
  simp only[HP.mt]at a;exact HP.mt_ok (l:=l) hh o p y a s q j g f
 |some c::l,n,m,m',v,a,s,q,j,g,f=>by
  simp only[HP.mt]at a;split at a
  case h_2=>simp at a
  rename_i k D;split at a
  case h_2=>simp at a
  rename_i K L i;split at a
  case h_2=>simp at a
  rename_i M N A;simp at a;obtain⟨rfl,rfl⟩:=a;obtain⟨E,B⟩:=CP.mtO_sub i s;obtain⟨C,_⟩:=HP.mt_sub A B;simp only[HP.inst,aW,iG]at f;split at f
  case isFalse=>exact HP.mt_ok (l:=l) hh o p y A B q j g f
  rename_i e;subst e;simp at f;subst f;have z:=((E.trans C).trans q).th _ _ D;cases k with
  |some k=>
   have r:=p.some z;cases t:get k with
   |none=>simp[CP.mtO,t]at i;cases c<;>simp[CP.mt]at i
   |some u=>
    simp only[CP.mtO,t]at i;obtain⟨G,H,J⟩:=CP.mt_ok hh o p y i s (C.trans q) r (hh.ok k u (o k u t));exact⟨G,J,λb x=>⟨k,u,z,o k u t,H,by rw[<-r];exact x⟩⟩
  |none=>
   have r:=p.none z;cases c<;>simp[CP.mtO]at i;obtain⟨rfl,rfl⟩:=i;exact⟨⟨_,r, .inr ⟨rfl,none,rfl⟩⟩,rfl,λb x=>by rw[r]at x;simp[Pl.blk]at x⟩
end
def yb(l:List (Option CP)):Bool:=l.all λc=>match c with
 |some (.mit m e f)=>match l[m]? with
  |some (some (.lk a b))=>(Ty.deq e a).isSome&&(Ty.deq f b).isSome
  |_=>false
 |_=>true
theorem HP.inst_at:∀{l:List (Option CP)}{n j:Nat}{v:HP.val l}{f:Ch},aW (HP.inst iG n l v) j=some f->n<=j/\∃c v',l[j-n]?=some (some c)/\f=c.inst iG v'
 |[],_,_,_,_,h=>by simp[HP.inst,aW]at h
 |none::l,n,j,v,f,h=>by
  simp only[HP.inst]at h;obtain⟨a,c,v',b,e⟩:=HP.inst_at h;exact⟨ac,c,v',by rw[show j-n=j-(n+1)+1 by omega];simpa using b,e⟩
 |some c::l,n,j,v,f,h=>by
  simp only[HP.inst,aW,iG]at h;split at h
  ·rename_i e;subst e;simp at h;exact⟨aE _,c,v.1,bY,h.symm⟩
  ·obtain⟨a,c,v',b,e⟩:=HP.inst_at h;exact⟨ac,c,v',by rw[show j-n=j-(n+1)+1 by omega];simpa using b,e⟩
theorem HP.at_inst:∀{l:List (Option CP)}{n i:Nat}{v:HP.val l}{c:CP},l[i]?=some (some c)->∃v',aW (HP.inst iG n l v) (n+i)=some (c.inst iG v')
 |[],_,_,_,_,h=>by simp at h
 |none::l,n,0,v,c,h=>by simp at h
 |none::l,n,i+1,v,c,h=>by
  obtain⟨v',a⟩:=HP.at_inst (l:=l) (n:=n+1) (v:=v) (cf h);exact⟨v',by simp only[HP.inst];rw[show n+(i+1)=n+1+i by omega];exact a⟩
 |some b::l,n,0,v,c,h=>by
  simp at h;subst h;exact⟨v.1,by simp[HP.inst,aW,iG]⟩
 |some b::l,n,i+1,v,c,h=>by
  obtain⟨v',a⟩:=HP.at_inst (l:=l) (n:=n+1) (v:=v.2) (cf h);refine⟨v',?_⟩;simp only[HP.inst,aW,iG];rw[ae ac,show n+(i+1)=n+1+i by omega];exact a
def gI(m:Mt)(ρ:Nat->Pl)(j:Nat):Pl:=match aW m.th j with
 |some (some k)=>ρ k
 |some none=> .sv (.slice none 0 0)
 |none=> .un
theorem so(m:Mt)(ρ:Nat->Pl):lc m ρ (gI m ρ):=by
 intro j;unfold gI;cases a:aW m.th j with
 |none=>trivial
 |some k=>cases k<;>rfl
theorem sp{get:Nat->Option Ch}{p:cx}{m1 m2:Mt}{U:SP.val p.sl}{f:HP.val p.hp}
 (hh:dN F ρ w h) (W:∀k b,get k=some b->h k=some b) (C:F2 (aT w (Av F ρ h) ρ) slots vals)
 (X:SP.mt get slots p.sl B=some (U,m1)) (Y:HP.mt get 0 p.hp m1=some (f,m2)) (hz:m2.fz=[]) (hi:B.Inj) (i:yb p.hp=true)
 (D:∀b,F' b->F b\/∃k c,h k=some c/\c.own=true/\(ρ k).blk=some b/\∀j,aW m2.th j≠some (some k)):
 dN F' (gI m2 ρ) w (aW (HP.inst iG 0 p.hp f))/\
 F2 (aT w (Av F' (gI m2 ρ) (aW (HP.inst iG 0 p.hp f))) (gI m2 ρ)) (SP.inst iG p.sl U (ax vals.length .any)) vals/\
 (∀b,Av F' (gI m2 ρ) (aW (HP.inst iG 0 p.hp f)) b->Av F ρ h b)/\
 (∀b,qj (gI m2 ρ) (aW (HP.inst iG 0 p.hp f)) b->qj ρ h b)/\lb B m2:=by
 obtain⟨a1,a2⟩:=SP.mt_sub X hi;obtain⟨b1,b2⟩:=HP.mt_sub Y a2;have ha:=so m2 ρ;have t:=HP.mt_ok hh W ha hz Y a2 (lb.refl _)
 have A:∀b,qj (gI m2 ρ) (aW (HP.inst iG 0 p.hp f)) b->qj ρ h b:=by
  rintro b ⟨j,u,g,E,a⟩;obtain⟨_,_,e⟩:=t j u g;obtain⟨k,l,_,o,r,s⟩:=e b a;exact⟨k,l,o,r,s⟩
 have x:∀b,Av F' (gI m2 ρ) (aW (HP.inst iG 0 p.hp f)) b->Av F ρ h b:=by
  rintro b (a|a)
  ·rcases D b a with q|⟨k,c,y,z,e,_⟩
   ·exact .inl q
   ·exact .inr ⟨k,c,y,z,e⟩
  ·exact .inr (A b a)
 have evo:qK w (Av F ρ h) w (Av F' (gI m2 ρ) (aW (HP.inst iG 0 p.hp f))):=⟨aE _,λ_ _ _ _ A _=>A,λb _ a=>x b a⟩;refine⟨⟨λj u g=>(t j u g).1.evo evo (eA.refl _) (λ_ _=>rfl),λj j' c G b g H _ _ a J=>?_,λj u b g E a=>?_,λj m kt vt a0 a3 g=>?_,λb a=>?_⟩,?_,x,A,a1.trans b1⟩
 ·obtain⟨_,_,e⟩:=t j c g;obtain⟨_,_,K⟩:=t j' G H;obtain⟨k,l,L,o,r,s⟩:=e b a;obtain⟨M,N,O,P,Q,R⟩:=K b J;have:=hh.inj k M l N b o P r Q s R;subst this;exact b2 j j' k L O
 ·obtain⟨_,_,e⟩:=t j u g;obtain⟨k,l,L,o,r,s⟩:=e b a;obtain⟨s1,s2⟩:=hh.fr k l b o r s;refine⟨s1,λhq=>?_⟩;rcases D b hq with q|⟨M,G,y,z,e,q4⟩
  ·exact s2 q
  ·have:=hh.inj k M l G b o y r z s e;subst this;exact q4 j L
 ·obtain⟨_,c,v',e1,e2⟩:=HP.inst_at g;cases c<;>simp[CP.inst]at e2;rename_i m' a4 a5;obtain⟨rfl,rfl,rfl,_⟩:=e2;unfold yb at i;rw[cH]at i;have:=i _ (mH e1);simp only at this;split at this
  case h_2=>simp at this
  rename_i a6 a7 hm;simp only[aK,cX]at this;obtain⟨⟨g1,_⟩,⟨g2,_⟩⟩:=this;have e3:=g1.down;have e4:=g2.down;subst e3;subst e4;obtain⟨S,hv⟩:=HP.at_inst (n:=0) (v:=f) hm;refine⟨S,?_⟩;simpa[iG,CP.inst]using hv
 ·rcases D b a with q|⟨k,c,y,z,e,_⟩
  ·exact hh.gs b q
  ·exact(hh.fr k c b y z e).1
 ·have:=SP.mt_ok hh W ha hz C X hi b1 (F2.anys vals);exact F2.imp (λ_ _=>aT.evo evo (eA.refl _)) this
end
variable{P:Program}
section
def FC(r:Nat->Nat)(ρ ρ':Nat->Pl):Prop:=∀j,ρ j≠ .un->ρ' (r j)=ρ j
section
variable{r:Nat->Nat}{ρ ρ':Nat->Pl}{w:World}{A:Nat->Prop}
theorem FC.bk(h:FC r ρ ρ')(e:ρ j= .bk n):ρ' (r j)= .bk n:=by rw[h j (by rw[e];simp),e]
theorem FC.sv(h:FC r ρ ρ')(e:ρ j= .sv v):ρ' (r j)= .sv v:=by rw[h j (by rw[e];simp),e]
theorem FC.ptrs(h:FC r ρ ρ'):∀{l:List (Nat×Nat)}{vs:List Value},F2 (lz ρ) l vs->F2 (lz ρ') (FA r l) vs
 |[],[],_=>trivial
 |_::_,_::_,⟨⟨b,a,c⟩,e⟩=>⟨⟨b,h.bk a,c⟩,h.ptrs e⟩
theorem IP.ren(h:FC r ρ ρ'){v:p.val}(g:aP w A ρ (p.inst iG v) vs):aP w A ρ' (p.inst r v) vs:=by
 cases p
 case d t=>exact gq.2 (gq.1 g)
 all_goals
  have g:=aP.of_single g;refine aP.single ?_
 case ptr j m=>obtain⟨u,⟨b,i,e⟩,l⟩:=g;exact⟨u,⟨b,h.bk i,e⟩,l⟩
 case own j=>obtain⟨a,n,c,i,e⟩:=g;exact⟨a,n,c,h.sv i,e⟩
 case mp j=>obtain⟨b,i,e⟩:=g;exact⟨b,h.bk i,e⟩
 case ifc t j m=>obtain⟨u,⟨b,i,e⟩,l⟩:=g;exact⟨u,⟨b,h.bk i,e⟩,l⟩
 case fn f a b=>
  obtain⟨o,q,i,e,l⟩:=g;rw[we]at e l;exact⟨o,q,i,h.ptrs e,h.ptrs l⟩
 all_goals exact g
theorem aP.split:∀{l m:List I}{vs:List Value},aP w A ρ (l++m) vs->∃a b,vs=a++b/\aP w A ρ l a/\aP w A ρ m b
 |[],_,vs,h=>⟨[],vs,rfl,rfl,h⟩
 |_::l,_,_,⟨a,b,e,f,g⟩=>
  let⟨c,d,i,j,n⟩:=aP.split (l:=l) g
  ⟨a++c,d,by rw[e,i,ay],⟨a,c,rfl,f,j⟩,n⟩
theorem LP.ren(h:FC r ρ ρ'):∀{l:List IP}{v:LP.val l}{vs:List Value},aP w A ρ (LP.inst iG l v) vs->aP w A ρ' (LP.inst r l v) vs
 |[],_,_,c=>c
 |_::_,_,_,c=>by
  obtain⟨a,b,e,f,g⟩:=aP.split c;rw[e];exact aP.append (IP.ren h f) (LP.ren h g)
theorem CP.ren(h:FC r ρ ρ'){v:c.val}(g:xk w A ρ j (c.inst iG v)):xk w A ρ' (r j) (c.inst r v):=by
 cases c
 case cells l=>obtain⟨b,q,s,a,f,i⟩:=g;exact⟨b,q,s,h.bk a,f,LP.ren h i⟩
 case sl e=>obtain⟨u,a,f⟩:=g;exact⟨u,h.sv a,f⟩
 case mp n o=>obtain⟨b,a,f⟩:=g;exact⟨b,h.bk a,f⟩
 case lk n o=>obtain⟨b,a,f⟩:=g;exact⟨b,h.bk a,f⟩
 case sit=>obtain⟨b,a,f⟩:=g;exact⟨b,h.bk a,f⟩
 case mit m n o=>obtain⟨b,p,a,f,i⟩:=g;exact⟨b,p,h.bk a,h.bk f,i⟩
 case nit=>obtain⟨b,a,f⟩:=g;exact⟨b,h.bk a,f⟩
 case fit n o=>obtain⟨b,p,a,f⟩:=g;exact⟨b,p,h.bk a,f⟩
theorem CP.own_inst(r:Nat->Nat){v:c.val}:(c.inst r v).own=true:=by cases c<;>rfl
end
def SP.res(r:Nat->Nat):(l:lL)->SP.val l->List (Bool×List I)
 |[],_=>[]
 |p::l,v=>(p.2.1,LP.inst r p.2.2 v.1)::SP.res r l v.2
def oN:Nat->lL->Bool
 |_,[]=>true
 |n,p::l=>p.1==n&&oN (n+1) l
def PM:List (Bool×List I)->V
 |[p]=> .val p.1 p.2
 |l=> .tup l
def lM:List Value->Value
 |[v]=>v
 |a=> .tuple a.toArray
theorem J9{l:List (Bool×List I)}(h:F2 (zU w A ρ) l vs):aT w A ρ (PM l) (lM vs):=by
 match l,vs,h with
 |[],[],_=>exact⟨[],rfl,trivial⟩
 |[p],[v],⟨a,_⟩=>exact a
 |p::q::l,v::u::vs,h=>exact⟨v::u::vs,rfl,h⟩
theorem SP.res_ren{r:Nat->Nat}(h:FC r ρ ρ'):∀{l:lL}{v:SP.val l}{vs:List Value},F2 (zU w A ρ) (SP.res iG l v) vs->F2 (zU w A ρ') (SP.res r l v) vs
 |[],_,[],_=>trivial
 |_::_,_,_::_,⟨⟨a,b,c⟩,e⟩=>⟨⟨a,LP.ren h b,c⟩,SP.res_ren h e⟩
theorem SP.res_ok{s:Mt}(hh:dN F ρ w h)(t:∀k b,i k=some b->h k=some b)(x:lc s ρ ρ')(y:s.fz=[])(f:F2 (aT w (Av F ρ h) ρ) slots vals):
 ∀{l:lL}{n:Nat}{m m':Mt}{v:SP.val l},SP.mt i slots l m=some (v,m')->m.Inj->lb m' s->oN n l=true->slots.length=n+l.length->F2 (zU w (Av F ρ h) ρ') (SP.res iG l v) (vals.drop n)
 |[],n,_,_,_,_,_,_,_,a=>by
  have:=f.length;rw[bu (by simp at a;omega)];trivial
 |p::l,n,m,m',v,c,z,e,q,a=>by
  simp only[SP.mt]at c;split at c
  case h_2=>simp at c
  rename_i g O E;split at c
  case isFalse=>simp at c
  rename_i G;split at c
  case h_2=>simp at c
  rename_i P Q B;split at c
  case h_2=>simp at c
  rename_i R S C;simp at c;obtain⟨rfl,rfl⟩:=c;obtain⟨_,D⟩:=LP.mt_sub B z;obtain⟨H,_⟩:=SP.mt_sub C D;simp only[oN,aK,aS]at q;obtain⟨rfl,q⟩:=q;obtain⟨u,j,J⟩:=f.get E
  have K:vals.drop p.1=u::vals.drop (p.1+1):=by
   have o:p.1<vals.length:=by rw[cq]at j;exact j.1
   rw[List.drop_eq_getElem_cons o];rw[an o]at j;simp at j;rw[j]
  rw[K];obtain⟨L,M,N⟩:=J;exact⟨⟨L,LP.mt_ok hh t x y B z (H.trans e) M,by rw[<-G];exact N⟩,SP.res_ok hh t x y f C D e q (by simp at a;omega)⟩
@[reducible]def du(l:List cx)(i:Nat):cx:=l.getD i ⟨[],[]⟩
@[reducible]def cF(l:List cx):Type:=Σ i:Nat,(du l i).den
structure Ct where
 nargs:Nat
 inp:cx
 out:List cx
 spec:inp.den->Tr (cF out)
def eU(p:cx)(v:p.val):Nat->Option Ch:=aW (HP.inst iG 0 p.hp v.2)
def pR(p:cx)(n:Nat)(v:p.val):List V:=SP.inst iG p.sl v.1 (ax n .any)
def Ka(F:Nat->Prop)(ρ:Nat->Pl)(w:World)(h:Nat->Option Ch)(R:Nat)(p:cx)(v:p.val)(e:Ending)(w':World):Prop:=
 ∃ρ' a,e= .returned (lM a)/\(∀k,k<R->ρ' k=ρ k\/ρ' k= .un)/\F2 (zU w' (Av F ρ' (eU p v)) ρ') (SP.res iG p.sl v.1) a/\dN F ρ' w' (eU p v)/\Mv ρ w h ρ' w' (eU p v)/\(∀k,p.hp.length<=k->ρ' k= .un)
def bW(P:Program)(f:FuncId)(c:Ct):Prop:=
 ∀(x:c.inp.den)(Q:cF c.out->Prop),(c.spec x).sat Q->∀(F:Nat->Prop)(ρ:Nat->Pl)(w:World)(a:List Value),a.length=c.nargs->
  dN F ρ w (eU c.inp (c.inp.get x))->F2 (aT w (Av F ρ (eU c.inp (c.inp.get x))) ρ) (pR c.inp c.nargs (c.inp.get x)) a->(∀k,c.inp.hp.length<=k->ρ k= .un)->
  Calls P f a.toArray w λe b=>∃y,Q y/\Ka F ρ w (eU c.inp (c.inp.get x)) c.inp.hp.length (du c.out y.1) ((du c.out y.1).get y.2) e b
def fj(P:Program)(f:FuncId):Bool:=
 match P.funcs[f]? with
 |some fn=> !(fn.name== "runtime.NumGoroutine")&&fn.body.isSome
 |none=>false
theorem kI(h:fj P f=true)(args:Array Value)(w:World):(callFunc f args).run P w= .ok (.enter f args) w:=by
 unfold fj at h;cases a:P.funcs[f]? with
 |none=>simp[a]at h
 |some fn=>
  simp only[a,aK,aR,Option.isSome_iff_ne_none]at h;have b:¬fn.name= "runtime.NumGoroutine" :=cf h.1
  simp[callFunc,a,b,h.2]
abbrev bG:=List (FuncId×List Ct)
def lO:bG->FuncId->List Ct
 |[],_=>[]
 |p::r,f=>if p.1=f then p.2 else lO r f
def bX(P:Program)(Γ:bG):Prop:=∀p∈Γ,fj P p.1=true/\∀c∈p.2,bW P p.1 c
theorem bX.get{Γ:bG}(h:bX P Γ){c:Ct}(a:c∈lO Γ f):fj P f=true/\bW P f c:=by
 induction Γ with
 |nil=>simp[lO]at a
 |cons p r b=>
  simp only[lO]at a;split at a
  ·rename_i e;subst e;exact⟨(h p bY).1,(h p bY).2 c a⟩
  ·exact b (λq g=>h q (aD _ g)) a
def lP:List Nat->(Nat->Option Ch)->eD
 |[],_=>[]
 |k::r,c=>match c k with
  |some (.sl e l)=>(k,some (.fr e l))::lP r (dg c k (some (.fr e l)))
  |some (.cells l)=>(k,some (.fc l))::lP r (dg c k (some (.fc l)))
  |some (.mp a b l)=>(k,some (.fm a b l))::lP r (dg c k (some (.fm a b l)))
  |_=>lP r c
theorem sq(g:∀k b,a k=some b->h k=some b)(k:Nat)(c:Option Ch):∀j b,dg a k c j=some b->dg h k c j=some b:=by
 intro j b f;by_cases e:j=k
 ·subst e;rw[bK]at f⊢;exact f
 ·rw[bI _ _ _ e]at f⊢;exact g j b f
theorem ss(hh:dN F ρ w h){k:Nat}{c:Ch}(C:h k=some c)(f:c.own=true)(K:ρ k= .bk bl)(i:g.own=false)(D:∀a b l,c≠ .lk a b l)(t:∀m a b r q,g≠ .mit m a b r q)
 (u:Mv ρ w h ρ w (dg h k (some g))->bl<w.heap.size->¬Av F ρ (dg h k (some g)) bl->xk w (Av F ρ (dg h k (some g))) ρ k g):dN F ρ w (dg h k (some g))/\Mv ρ w h ρ w (dg h k (some g)):=by
 refine hh.step (λj=>j=k) (eA.refl ρ) (aE _) rfl rfl rfl (λj e=>bI _ _ _ e) (λ_ _ _=>rfl) (λj c b e u f=>?_) (λj O c g b e E _ _ _ _ _ _=>e.trans E.symm) (λj m L M v x e y=>?_) (λj P e o N=>?_)
 ·subst e;rw[bK]at u;simp at u;subst u;rw[i]at f;simp at f
 ·by_cases p:j=k
  ·subst p;rw[bK]at e;simp at e;exact absurd e (t _ _ _ _ _)
  ·rw[bI _ _ _ p]at e;rcases y with y|y
   ·exact absurd y p
   ·obtain⟨Q,G⟩:=hh.it j m L M v x e;rw[y,C]at G;simp at G;exact absurd G (D _ _ _)
 ·subst e;rw[bK]at o;simp at o;subst o;have n:(ρ j).blk=some bl:=by rw[K];rfl
  have z:=hh.fr j _ bl C f n;refine u N z.1 λH=>?_;rcases H with H|⟨q,c,B,s,J⟩
  ·exact z.2 H
  ·by_cases p:q=j
   ·subst p;rw[bK]at B;simp at B;subst B;rw[i]at s;simp at s
   ·rw[bI _ _ _ p]at B;exact p (hh.inj q j c _ bl B C s f J n)
theorem oO(hh:dN F ρ w h){l:List I}(c:h E=some (.cells l)):dN F ρ w (dg h E (some (.fc l)))/\Mv ρ w h ρ w (dg h E (some (.fc l))):=by
 obtain⟨b,f,p,e,g,j⟩:=hh.ok E _ c;exact ss hh c rfl e rfl bY bY λm a n=>⟨b,f.toList,e,a,n,j.evo m.evo (eA.refl ρ),λi u o=>by rw[<-bT i];exact oC g i u o⟩
theorem DO(hh:dN F ρ w h){b:Ty}{l:List (kt.den×b.den)}(e:h n=some (.mp kt b l)):dN F ρ w (dg h n (some (.fm kt b l)))/\Mv ρ w h ρ w (dg h n (some (.fm kt b l))):=by
 obtain⟨bl,f,g⟩:=hh.ok n _ e;exact ss hh e rfl f rfl bY bY λi c j=>⟨bl,f,c,j,g.evo i.evo rfl⟩
theorem kJ{F:Nat->Prop}{ρ:Nat->Pl}{w:World}:∀{l:List Nat}{c h:Nat->Option Ch},dN F ρ w h->(∀k b,c k=some b->h k=some b)->
 dN F ρ w (bj h (lP l c))/\Mv ρ w h ρ w (bj h (lP l c))/\∀k b,bj c (lP l c) k=some b->bj h (lP l c) k=some b
 |[],c,h,g,f=>⟨g,Mv.refl _ _ _,f⟩
 |k::r,c,h,g,f=>by
  simp only[lP];split
  ·rename_i e l i;obtain⟨j,m⟩:=pL g (f k _ i);obtain⟨n,o,p⟩:=kJ (l:=r) j (sq f k (some (.fr e l)));exact⟨n,m.trans o,p⟩
  ·rename_i l i;obtain⟨j,m⟩:=oO g (f k _ i);obtain⟨n,o,p⟩:=kJ (l:=r) j (sq f k (some (.fc l)));exact⟨n,m.trans o,p⟩
  ·rename_i a b l i;obtain⟨j,m⟩:=DO g (f k _ i);obtain⟨n,o,p⟩:=kJ (l:=r) j (sq f k (some (.fm a b l)));exact⟨n,m.trans o,p⟩
  ·exact kJ (l:=r) g f
def DP(a:Nat->Option Ch)(slots:List V)(p:cx)(b:Mt):Option (p.val×Mt):=
 match SP.mt a slots p.sl b with
 |some (c,e)=>match HP.mt a 0 p.hp e with
  |some (f,g)=>some ((c,f),g)
  |none=>none
 |none=>none
def Kb:List Nat->Bool
 |[]=>true
 |_=>false
def fit(a:Nat->Option Ch)(slots:List V)(p:cx)(b:List (Nat×Option Nat)):Option (p.val×List (Nat×Option Nat)×eD):=
 match DP a slots p ⟨b,[]⟩with
 |some (v,m)=>if Kb m.fz then some (v,m.th,[])else
  match DP (bj a (lP m.fz a)) slots p ⟨b,[]⟩with
  |some (e,c)=>if Kb c.fz then some (e,c.th,lP m.fz a)else none
  |none=>none
 |none=>none
theorem BY{l:List Nat}(h:Kb l=true):l=[]:=by cases l<;>simp[Kb]at h;rfl
theorem Ap{p:cx}{f:List (Nat×Option Nat)}{v:p.val}{b:List (Nat×Option Nat)}{u:eD}(h:fit a slots p f=some (v,b,u)):
 ∃l,u=lP l a/\DP (bj a u) slots p ⟨f,[]⟩=some (v,⟨b,[]⟩):=by
 unfold fit at h;split at h
 case h_2=>simp at h
 rename_i i m g;split at h
 ·rename_i c;simp at h;obtain⟨rfl,rfl,rfl⟩:=h;refine⟨[],rfl,?_⟩;have:=BY c;simp only[bj];rw[g,<-this]
 ·split at h
  case h_2=>simp at h
  rename_i j n e;split at h
  case isFalse=>simp at h
  rename_i c;simp at h;obtain⟨rfl,rfl,rfl⟩:=h;have:=BY c;exact⟨m.fz,rfl,by rw[e,<-this]⟩
theorem wg{p:cx}{v:p.val}(h:DP a slots p B=some (v,m)):∃m1,SP.mt a slots p.sl B=some (v.1,m1)/\HP.mt a 0 p.hp m1=some (v.2,m):=by
 unfold DP at h;split at h
 case h_2=>simp at h
 rename_i f m1 c;split at h
 case h_2=>simp at h
 rename_i g i e;simp at h;obtain⟨rfl,rfl⟩:=h;exact⟨m1,c,e⟩
def sw(l:List Nat):eD:=l.map λk=>(k,none)
def sx(l:fQ):eD:=l.map λp=>(p.1,some p.2)
theorem sy:∀(l:List Nat)(h:Nat->Option Ch)(k:Nat),(k∈l->bj h (sw l) k=none)/\(k∉l->bj h (sw l) k=h k)
 |[],_,_=>⟨λq=>by simp at q,λ_=>rfl⟩
 |a::l,h,k=>by
  obtain⟨f,g⟩:=sy l (dg h a none) k;simp only[sw,aY,bj];by_cases b:k∈l
  ·exact⟨λ_=>f b,λq=>absurd (aD _ b) q⟩
  ·have c:=g b;simp only[sw]at c;refine⟨λq=>?_,λq=>?_⟩
   ·have:k=a:=by simpa[b]using q
    subst this;rw[c,bK]
   ·rw[c,bI _ _ _ (λe=>q (by rw[e];simp))]
theorem sA:∀(l:fQ)(h:Nat->Option Ch)(k:Nat),(∃c,bj h (sx l) k=some c/\(k,c)∈l)\/(bj h (sx l) k=h k/\∀c,(k,c)∉l)
 |[],_,_=> .inr ⟨rfl,λ_=>bY⟩
 |a::l,h,k=>by
  simp only[sx,aY,bj];rcases sA l (dg h a.1 (some a.2)) k with⟨c,b,g⟩|⟨b,g⟩
  ·exact .inl ⟨c,b,aD _ g⟩
  ·by_cases e:k=a.1
   ·refine .inl ⟨a.2,?_,by rw[e];simp⟩;simp only[sx]at b;rw[b,e,bK]
   ·refine .inr ⟨?_,λc f=>?_⟩
    ·simp only[sx]at b;rw[b,bI _ _ _ e]
    ·rw[bm]at f;rcases f with f|f
     ·exact e (by rw[<-f])
     ·exact g c f
end
end Go.Hv
