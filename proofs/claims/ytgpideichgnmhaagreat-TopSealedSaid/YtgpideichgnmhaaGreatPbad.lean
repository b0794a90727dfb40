/- A part of the proof of TopSealedSaid: no conditions; packed by a program of our own. -/
import Derived.Test.YtgpideichgnmhaaGreatPbac
import Derived.Calls
open Array renaming getElem?_eq_some_iff→eg
open Bool renaming and_eq_true→aI,false_eq_true→cu,true_and→fp,not_eq_true'→aP
open Go.ChangeMaps renaming setBlock→dY
open Go.Instr renaming checkKey→fZ
open Go.Result renaming andThen_ok→aX
open Go.Sem renaming run_pure→bA,run_bind→bF
open Go.World renaming size_alloc→dX
open List renaming map_cons→aY,replicate→ak,append_assoc→ay,drop_of_length_le→bC,append_nil→aW,mem_cons→bt,getElem?_eq_getElem→ap,getD→bB,map_append→dn,mem_map→dM,mem_cons_self→aG,mem_cons_of_mem→aA,all_eq_true→cU,nodup_cons→mn,mem_of_getElem?→gN,mem_map_of_mem→fB,getElem?_eq_some_iff→cy
open Nat renaming lt_of_lt_of_le→bu,le_refl→aD,zero_add→bN
open Ne renaming symm→lV
open Option renaming isSome_iff_exists→cJ,getD_some→di
namespace Go.Hv
open Go.RowKit
section
def cz{kt:Ty}{β:Type}(k:kt.den):List (kt.den×β)->Option β
 |[]=>none
 |p::r=>if iJ kt k p.1 then some p.2 else cz k r
def cD{kt:Ty}{β:Type}(k:kt.den)(v:β):List (kt.den×β)->List (kt.den×β)
 |[]=>[(k,v)]
 |p::r=>if iJ kt k p.1 then(p.1,v)::r else p::cD k v r
def eX(f:MapEntry->Bool):List MapEntry->Nat->Option (Nat×Value)
 |[],_=>none
 |e::r,i=>if f e then some (i,e.val)else eX f r (i+1)
section
variable{P:Program}{F:Nat->Prop}{ρ:Nat->Pl}{w:World}{h get:Nat->Option Ch}{N W:Nat}
theorem DQ{kt:TypeId}{d:TypeDesc}{key:Value}{f:MapEntry->Bool}(p:P.underlying kt=some d){es:List MapEntry}(g:∀e∈es,(Op.equal kt key e.key).run P w= .ok (f e) w)
 (c:∀e∈es,∀r,Instr.sameNow d key e.key=some r->r=f e):(Instr.findKey kt key es).run P w= .ok (eX f es 0) w:=by
 have ask:∀(l:List MapEntry)(i:Nat),(∀e∈l,(Op.equal kt key e.key).run P w= .ok (f e) w)->(Instr.findAsking kt key l i).run P w= .ok (eX f l i) w:=by
  intro l
  induction l with
  |nil=>intro i _;rfl
  |cons e r j=>
   intro i b;simp only[Instr.findAsking,eX,bF,b e (aG ..),aX];cases f e
   ·exact j (i+1) (λe m=>b e (aA _ m))
   ·rfl
 have n:∀(l:List MapEntry)(i:Nat)(r:Option (Nat×Value)),(∀e∈l,∀r,Instr.sameNow d key e.key=some r->r=f e)->Instr.findNow d key l i=some r->r=eX f l i:=by
  intro l
  induction l with
  |nil=>intro i r _ a;simp[Instr.findNow]at a;exact a.symm
  |cons e l j=>
   intro i r b a;simp only[Instr.findNow]at a;split at a
   ·rename_i o;simp at a;have:=b e (aG ..) _ o;simp[eX,<-this,a]
   ·rename_i o;have:=b e (aG ..) _ o;simp only[eX,<-this];exact j (i+1) r (λe m=>b e (aA _ m)) a
   ·simp at a
 simp only[Instr.findKey,bF,run_underlying p,aX];split
 ·rename_i r q;rw[n es 0 r c q];rfl
 ·exact ask es 0 g
def nD(P:Program)(t:TypeId):Option (TypeId×TypeId):=match P.underlying t with
 |some (.map a b)=>some (a,b)
 |_=>none
theorem jl{t:TypeId}{q:TypeId×TypeId}(h:nD P t=some q):P.underlying t=some (.map q.1 q.2):=by
 unfold nD at h;split at h<;>simp at h;subst h;assumption
def ti(P:Program)(t:TypeId)(kt:Ty):Bool:=
 match we P t,fV kt with
 |some a,some b=>decide (a=b)&&decide (ff P t=some kt.agg)
 |_,_=>false
theorem wg{t:TypeId}{kt:Ty}(h:ti P t kt=true):∃f d,we P t=some f/\fV kt=some f/\ff P t=some kt.agg/\P.underlying t=some d/\(kt.agg=false->f.length=1):=by
 unfold ti at h;split at h
 case h_2=>simp at h
 rename_i a b i j;simp only[aI,ai]at h;obtain⟨rfl,c⟩:=h;obtain⟨o,g,l⟩:=DO i;rw[c]at g;simp at g
 obtain⟨d,m⟩:∃d,P.underlying t=some d:=by
  unfold ff at c;cases n:P.underlying t with
  |none=>simp[n]at c
  |some d=>exact⟨d,rfl⟩
 exact⟨a,d,i,j,c,m,λe=>l (by rw[<-g];exact e)⟩
theorem iI.part{A:Nat->Prop}{t:TypeId}{kt:Ty}{x:kt.den}{v:Value}(a:ff P t=some kt.agg)(h:iI w A kt x v):∃xs,Rd w A kt x xs/\dU P t xs v:=by
 obtain⟨xs,c,b⟩:=h;refine⟨xs,c,?_⟩;unfold dU;rw[a];cases e:kt.agg<;>simp[e]at b⊢<;>exact b
theorem yx{d:TypeDesc}{x y:Value}{r:Bool}(h:Instr.sameNow d x y=some r):eH x y=r:=by
 unfold Instr.sameNow at h;split at h
 ·split at h<;>simp at h;exact h
 ·simp at h;subst h;simp only[eH];exact(beq_toListBytes _ _).symm
 ·simp at h;exact h
 ·simp at h
theorem wh{d:TypeDesc}{a b:Array Value}:Instr.sameNow d (.agg a) (.agg b)=none:=by
 cases d<;>rfl
theorem tj{A:Nat->Prop}{t:TypeId}{kt c:Ty}{k:kt.den}{key:Value}(J:ti P t kt=true)(K:iI w A kt k key){l:List (kt.den×c.den)}{es:List MapEntry}(o:F2 (nY w A kt c) l es):
 ∃f:MapEntry->Bool,(Instr.findKey t key es).run P w= .ok (eX f es 0) w/\F2 (λ(q:kt.den×c.den)e=>nY w A kt c q e/\f e=iJ kt k q.1) l es/\∀B,(fZ B 10000 t key).run P w= .ok () w:=by
 obtain⟨L,d,G,H,y,M,X⟩:=wg J;obtain⟨O,C,n⟩:=K.part y;have i:O.length=L.length:=(qG H C C).1.length.1
 have b:∀e:MapEntry,∀q:kt.den×c.den,nY w A kt c q e->(Op.equal t key e.key).run P w= .ok (iJ kt k q.1) w/\∀r,Instr.sameNow d key e.key=some r->r=iJ kt k q.1:=by
  intro e q a;obtain⟨Y,Q,s⟩:=a.1.part y;obtain⟨R,z⟩:=qG H C Q;have:=DP (w:=w) G R n s;rw[z]at this;refine⟨this,λr u=>?_⟩;cases v:kt.agg
  ·have m:ff P t=some false:=by rw[y,v]
   simp[dU,m]at n s;rw[n,s]at z;have:=yx u;simp only[cb,Bool.and_true]at z;rw[<-z,this]
  ·have m:ff P t=some true:=by rw[y,v]
   simp[dU,m]at n s;rw[n,s,wh]at u;simp at u
 classical
 let f:MapEntry->Bool:=λe=>if a:∃q,nY w A kt c q e then iJ kt k a.choose.1 else false
 have D:∀e q,nY w A kt c q e->f e=iJ kt k q.1:=by
  intro e q a;have x:∃q,nY w A kt c q e:=⟨q,a⟩;have S:=(b e q a).1;have E:=(b e _ x.choose_spec).1;rw[S]at E;simp at E;simp only[f,x,dif_pos];exact E.symm
 have j:∀e∈es,∃q,nY w A kt c q e:=by
  clear i
  induction l generalizing es with
  |nil=>cases es with
   |nil=>intro e g;simp at g
   |cons _ _=>exact o.elim
  |cons p l U=>cases es with
   |nil=>exact o.elim
   |cons e0 es=>
    intro e g;rcases bt.1 g with rfl|g
    ·exact⟨p,o.1⟩
    ·exact U o.2 e g
 refine⟨f,DQ M (λe g=>?_) (λe g r u=>?_),F2.imp (λq e a=>⟨a,D e q a⟩) o,λB=>ss B G i n⟩
 ·obtain⟨q,a⟩:=j e g;rw[D e q a];exact(b e q a).1
 ·obtain⟨q,a⟩:=j e g;rw[D e q a];exact(b e q a).2 r u
theorem pe{A:Nat->Prop}{kt a:Ty}{k:kt.den}{f:MapEntry->Bool}:∀{l:List (kt.den×a.den)}{es:List MapEntry}{i:Nat},F2 (λ(q:kt.den×a.den)e=>nY w A kt a q e/\f e=iJ kt k q.1) l es->
 (eX f es i=none/\cz k l=none/\cD (β:=a.den) k=λv=>cD k v)\/∃j v x,eX f es i=some (j,v)/\cz k l=some x/\iI w A a x v
 |[],[],_,_=> .inl ⟨rfl,rfl,rfl⟩
 |p::l,e::es,i,⟨⟨b,c⟩,g⟩=>by
  simp only[eX,cz,c];cases m:iJ kt k p.1
  ·have:=pe (i:=i+1) g;simpa using this
  ·exact .inr ⟨i,e.val,p.2,by simp,by simp,b.2⟩
def lD(P:Program)(t:TypeId)(x i:V)(ok:Bool)(get:Nat->Option Ch):Option V:=
 match nD P t,x.one? with
 |some (a,b),some (.mp k)=>match get k with
  |some (.mp kt vt l)=>look a b kt vt l
  |some (.lk kt vt l)=>look a b kt vt l
  |_=>none
 |some (a,b),some (.fmp kt vt l)=>look a b kt vt l
 |_,_=>none
where
 look (a b:TypeId) (kt vt:Ty) (l:List (kt.den×vt.den)):Option V:=
  match zT P b,i.asD kt with
  |some (g,z0),some kd=>match so vt z0 with
   |some x0=>if ti P a kt&&(decide (g=vt.agg)&&decide (ff P b=some vt.agg))then
    some (if ok then .tup [(vt.agg,iY vt ((cz kd l).getD x0)),(false,[.d .bl (cz kd l).isSome])]else V.ofD vt ((cz kd l).getD x0))
    else none
   |none=>none
  |_,_=>none
theorem sw(hh:dq F ρ w h)(hg:∀k b,get k=some b->h k=some b){t:TypeId}{x i:V}{ok:Bool}{v u:Value}(hx:aT w (Av F ρ h) ρ x v)(hi:aT w (Av F ρ h) ρ i u):
 dl P F ρ w h N W (Instr.lookup t v u ok) (Tr.ofOpt ((lD P t x i ok get).map (·,[]))):=by
 refine .ofOpt λq L=>?_;cases n:lD P t x i ok get with
 |none=>simp[n]at L
 |some y=>
  simp[n]at L;subst L;unfold lD at n
  have go:∀{a b:TypeId}{bl:Nat}{s e:Ty}{l:List (s.den×e.den)},nD P t=some (a,b)->mq w (Av F ρ h) s e l bl->lD.look P i ok a b s e l=some y->∃r,(Instr.lookup t (.map (some bl)) u ok).run P w= .ok r w/\aT w (Av F ρ h) ρ y r:=by
   rintro a b bl s e l c ⟨es,clock,e1,e2,_⟩ o;unfold lD.look at o;split at o
   case h_2=>simp at o
   rename_i g z0 B hz M;split at o
   case h_2=>simp at o
   rename_i K O;split at o
   case isFalse=>simp at o
   rename_i hc;simp only[aI,ai]at hc;obtain⟨Q,rfl,a0⟩:=hc;obtain⟨iz,C,R,S,U⟩:=oX hz
   have X:iI w (Av F ρ h) e K C:=by
    obtain⟨vs,m,z⟩:=U w (Av F ρ h) ρ;exact⟨vs,iP O m,z⟩
   obtain⟨f,f1,f2,f3⟩:=tj Q (V.asD_ok M hi) e2;have A:(zeroValue b).run P w= .ok C w:=by simp[zeroValue,typeInfo,R,S]
   have p:(getObj bl).run P w= .ok (.map es clock) w:=by simp[getObj,Sem.run,e1]
   simp at o;subst o
   have fin:∀(D:Value)(Y:Bool),iI w (Av F ρ h) e ((cz B l).getD K) D->Y=(cz B l).isSome->
    aT w (Av F ρ h) ρ (if ok=true then V.tup [(e.agg,iY e ((cz B l).getD K)),(false,[I.d Ty.bl (cz B l).isSome])]else V.ofD e ((cz B l).getD K)) (if ok then .tuple #[D, .bool Y]else D):=by
    intro D Y m z;subst z;cases ok
    ·exact il.2 m
    ·exact⟨[D, .bool _],rfl,il.2 m,aJ.2 rfl,trivial⟩
   rcases pe (i:=0) f2 with⟨g1,E,_⟩|⟨j,v',x',g1,E,g3⟩
   ·refine⟨if ok then .tuple #[C, .bool false]else C,?_,fin C false (by rw[E];exact X) (by rw[E];rfl)⟩;simp[Instr.lookup,run_underlying (jl c),p,f3,f1,g1,A]
   ·refine⟨if ok then .tuple #[v', .bool true]else v',?_,fin v' true (by rw[E];exact g3) (by rw[E];rfl)⟩;simp[Instr.lookup,run_underlying (jl c),p,f3,f1,g1]
  split at n
  case h_3=>simp at n
  case h_2=>
   rename_i a b s e l c hp;obtain⟨bl,G,_,_,h2⟩:=aN hp hx;simp at G;subst G;obtain⟨r,H,J⟩:=go c h2 n;exact⟨r,w,H,bM.pure hh J⟩
  rename_i a b k c hp;obtain⟨bl,hb,G⟩:=aN hp hx;simp at G;subst G;split at n
  case h_3=>simp at n
  ·rename_i s e l hk;obtain⟨b',m,z⟩:=hh.ok _ _ (hg _ _ hk);rw[hb]at m;simp at m;subst m;obtain⟨r,H,J⟩:=go c z n;exact⟨r,w,H,bM.pure hh J⟩
  ·rename_i s e l hk;obtain⟨b',m,z⟩:=hh.ok _ _ (hg _ _ hk);rw[hb]at m;simp at m;subst m;obtain⟨r,H,J⟩:=go c z n;exact⟨r,w,H,bM.pure hh J⟩
def kl:List I->(Nat->Option Ch)->List I×dN
 |[],_=>([],[])
 | .own k::r,get=>match get k with
   |some (.sl e l)=>let q:=kl r (cO get k (some (.fr e l)));(.d (.sl e) l::q.1,(k,some (.fr e l))::q.2)
   |some (.fr e l)=>let q:=kl r get;(.d (.sl e) l::q.1,q.2)
   |_=>let q:=kl r get;(.own k::q.1,q.2)
 |i::r,get=>let q:=kl r get;(i::q.1,q.2)
def mK(x:V)(get:Nat->Option Ch):V×dN:=match x with
 | .val g l=>let q:=kl l get;(.val g q.1,q.2)
 |x=>(x,[])
theorem pU:∀{l:List I}{get h:Nat->Option Ch}{vs:List Value},dq F ρ w h->(∀k b,get k=some b->h k=some b)->aL w (Av F ρ h) ρ l vs->
 dq F ρ w (bm h (kl l get).2)/\Mv ρ w h ρ w (bm h (kl l get).2)/\aL w (Av F ρ (bm h (kl l get).2)) ρ (kl l get).1 vs
 |[],get,h,vs,m,_,J=>⟨m,Mv.refl _ _ _,J⟩
 |i::r,get,h,vs,m,o,⟨a,b,e,t,v⟩=>by
  have plain:dq F ρ w (bm h (kl r get).2)/\Mv ρ w h ρ w (bm h (kl r get).2)/\aL w (Av F ρ (bm h (kl r get).2)) ρ (i::(kl r get).1) vs:=by
   obtain⟨p,f,q⟩:=pU (l:=r) m o v;exact⟨p,f,a,b,e,t.evo f.evo (dR.refl ρ),q⟩
  cases i
  case own k=>
   simp only[kl];split
   ·rename_i x y z;obtain⟨E,G⟩:=ot m (o k _ z)
    have A:∀j c,cO get k (some (.fr x y)) j=some c->cO h k (some (.fr x y)) j=some c:=by
     intro j c s;by_cases H:j=k
     ·subst H;rw[bG]at s⊢;exact s
     ·rw[bE _ _ _ H]at s⊢;exact o j c s
    obtain⟨p,f,q⟩:=pU (l:=r) E A (v.evo G.evo (dR.refl ρ));refine⟨p,G.trans f,a,b,e,?_,q⟩;obtain⟨K,n,c,B,C⟩:=t;obtain⟨u,g,D⟩:=E.ok k _ (bG _ _ _);rw[B]at g;simp at g;subst g;exact⟨_,C,D.evo f.evo (λ_ _=>Rd.evo f.evo)⟩
   ·rename_i x y z;obtain⟨p,f,q⟩:=pU (l:=r) m o v;refine⟨p,f,a,b,e,?_,q⟩;obtain⟨K,n,c,B,C⟩:=t;obtain⟨u,g,D⟩:=m.ok k _ (o k _ z);rw[B]at g;simp at g;subst g;exact⟨_,C,D.evo f.evo (λ_ _=>Rd.evo f.evo)⟩
   ·exact plain
  all_goals exact plain
theorem uA{x:V}{get h:Nat->Option Ch}{v:Value}(hh:dq F ρ w h)(c:∀k b,get k=some b->h k=some b)(a:aT w (Av F ρ h) ρ x v):
 dq F ρ w (bm h (mK x get).2)/\Mv ρ w h ρ w (bm h (mK x get).2)/\aT w (Av F ρ (bm h (mK x get).2)) ρ (mK x get).1 v:=by
 cases x
 case val g l=>
  obtain⟨e,f,i⟩:=a;obtain⟨j,m,n⟩:=pU hh c f;exact⟨j,m,e,n,i⟩
 all_goals exact⟨hh,Mv.refl _ _ _,a⟩
end
end
section
section
variable{P:Program}{F:Nat->Prop}{ρ:Nat->Pl}{w:World}{h get:Nat->Option Ch}{N W:Nat}
theorem DR{p q:ByteArray}(h:p.toList=q.toList):p=q:=by
 rw[ByteArray.toList_eq,ByteArray.toList_eq]at h;cases p;cases q
 congr 1
 exact Array.ext' h
theorem Ab:∀{e:List Nat}{xs c:List Value},dj e xs c->cb xs c=true->xs=c
 |[],_,_,⟨rfl,rfl⟩,_=>rfl
 |_::_,_,_,⟨x,y,a,b,rfl,rfl,f,g⟩,h=>by
  simp only[cb,aI]at h
  have i:x=y:=by
   rcases f with⟨_,k,p,q,rfl,rfl⟩|⟨_,p,q,rfl,rfl⟩|⟨_,p,q,rfl,rfl⟩
   ·have:=h.1;simp[eH]at this;rw[this]
   ·have:=h.1;simp[eH]at this;rw[this]
   ·have:=h.1;simp only[eH]at this;rw[DR (aZ this)]
  rw[i,Ab g h.2]
theorem tk:∀{f:List Nat}{xs:List Value},dj f xs xs->∀n,∀x∈xs,Instr.sameBits n x x=true
 |[],_,⟨rfl,_⟩,_,_,g=>by simp at g
 |_::_,_,⟨x,y,a,b,rfl,e,i,j⟩,n,z,c=>by
  simp at e;obtain⟨rfl,rfl⟩:=e;rcases bt.1 c with rfl|c
  ·rcases i with⟨_,k,p,q,rfl,_⟩|⟨_,p,q,rfl,_⟩|⟨_,p,q,rfl,_⟩
   ·cases n<;>simp[Instr.sameBits]
   ·cases n<;>simp[Instr.sameBits]
   ·cases n<;>simp only[Instr.sameBits]<;>rw[beq_toListBytes]<;>simp
  ·exact tk j n z c
theorem BZ{A:Nat->Prop}{t:TypeId}{kt:Ty}{k:kt.den}{x y:Value}(m:ti P t kt=true)(n:iI w A kt k x)(o:iI w A kt k y):x=y/\(Instr.keyThatStays x y).run P w= .ok y w:=by
 obtain⟨z,d,B,q,C,D,E⟩:=wg m;obtain⟨G,r,j⟩:=n;obtain⟨H,s,b⟩:=o;obtain⟨l,u⟩:=qG q r s;have e:=Ab l (u.trans (dZ.2 rfl));subst e;have a:=tk l
 have c:x=y/\Instr.sameBits 10000 x y=true:=by
  cases f:kt.agg
  ·simp[f]at j b;subst j;simp at b;subst b;exact⟨rfl,a _ _ (by simp)⟩
  ·simp[f]at j b;subst j b;refine⟨rfl,?_⟩;simp only[Instr.sameBits,beq_self_eq_true,fp,cU];intro p v;obtain⟨i,J,g⟩:=List.getElem_of_mem v;simp at g;subst g;exact a _ _ (by simp)
 refine⟨c.1,?_⟩;simp[Instr.keyThatStays,c.2]
theorem to{kt:Ty}{β:Type}{k:kt.den}{v:β}:∀{l:List (kt.den×β)},(l.map (·.1)).Nodup->((cD k v l).map (·.1)).Nodup/\(∀x,x∈(cD k v l).map (·.1)->x=k\/x∈l.map (·.1))
 |[],_=>by simp[cD]
 |p::r,h=>by
  simp only[aY,mn]at h;simp only[cD];split
  ·simp only[aY,mn];exact⟨h,λx a=> .inr a⟩
  ·rename_i b;obtain⟨f,c⟩:=to (k:=k) (v:=v) h.2;simp only[aY,mn,bt];refine⟨⟨λg=>?_,f⟩,λx a=>?_⟩
   ·rcases c _ g with e|e
    ·exact b (dZ.2 e.symm)
    ·exact h.1 e
   ·rcases a with e|e
    ·exact .inr (.inl e)
    ·rcases c x e with e|e
     ·exact .inl e
     ·exact .inr (.inr e)
theorem tp{A:Nat->Prop}{kt b:Ty}{k:kt.den}{vd:b.den}{f:MapEntry->Bool}{new:MapEntry}(a:nY w A kt b (k,vd) new):∀{l:List (kt.den×b.den)}{es:List MapEntry}{i:Nat},F2 (λ(q:kt.den×b.den)e=>nY w A kt b q e/\f e=iJ kt k q.1) l es->
 eX f es i=none->F2 (nY w A kt b) (cD k vd l) (es++[new])
 |[],[],_,_,_=>⟨a,trivial⟩
 |p::l,e::es,i,⟨⟨j,m⟩,n⟩,c=>by
  simp only[eX,m]at c;cases g:iJ kt k p.1
  ·simp only[g,cu,if_false]at c;simp only[cD,g,cu,if_false];exact⟨j,tp a n c⟩
  ·simp[g]at c
theorem tq{A:Nat->Prop}{kt n:Ty}{k:kt.den}{vd:n.den}{f:MapEntry->Bool}{g:MapEntry->MapEntry}:∀{l:List (kt.den×n.den)}{es:List MapEntry}{i j:Nat}{v:Value},F2 (λ(q:kt.den×n.den)e=>nY w A kt n q e/\f e=iJ kt k q.1) l es->
 eX f es i=some (j,v)->i<=j/\(∃m q,es[j-i]?=some m/\nY w A kt n q m/\iJ kt k q.1=true)/\((∀m q,es[j-i]?=some m->nY w A kt n q m->iJ kt k q.1=true->nY w A kt n (q.1,vd) (g m))->F2 (nY w A kt n) (cD k vd l) (es.modify (j-i) g))
 |[],[],_,_,_,_,o=>by simp[eX]at o
 |p::l,e::es,i,j,v,⟨⟨s,y⟩,x⟩,o=>by
  simp only[eX,y]at o;cases r:iJ kt k p.1
  ·simp only[r,cu,if_false]at o;obtain⟨E,⟨m,q,z,B,C⟩,D⟩:=tq (vd:=vd) (g:=g) x o;have t:j-i=(j-(i+1))+1:=by omega
   refine⟨by omega,⟨m,q,by rw[t];simpa using z,B,C⟩,λu=>?_⟩;simp only[cD,r,cu,if_false];rw[t,List.modify_succ_cons];exact⟨s,D (λm q a b c=>u m q (by rw[t];simpa using a) b c)⟩
  ·simp only[r,if_true,Option.some.injEq,Prod.mk.injEq]at o;obtain⟨rfl,_⟩:=o;refine⟨aD _,⟨e,p,by simp,s,r⟩,λu=>?_⟩;simp only[cD,r,if_true,Nat.sub_self,List.modify_zero_cons];exact⟨u e p (by simp) s r,F2.imp (λ_ _ h=>h.1) x⟩
theorem yz{w:World}{b:Nat}{o o':Obj}(l:w.heap[b]?=some o)(g:∀c e f,o≠ .cells c e f):∃w',(setObj b o').run P w= .ok () w'/\w'.heap[b]?=some o'/\w'.heap.size=w.heap.size/\w'.os=w.os/\w'.tape=w.tape/\w'.output=w.output/\∀a,a≠b->w'.heap[a]?=w.heap[a]?:=by
 have i:b<w.heap.size:=(eg.1 l).1;refine⟨{w with heap:=w.heap.setIfInBounds b o'},by cases o<;>first|(exact absurd rfl (g _ _ _))|(simp[setObj,Sem.run,l]),?_,by simp,rfl,rfl,rfl,λa j=>?_⟩
 ·simp[i]
 ·show(w.heap.setIfInBounds b o')[a]?=_;rw[Array.getElem?_setIfInBounds];simp[lV j]
def jI(P:Program)(t:TypeId)(x i y:V)(get:Nat->Option Ch):Option (V×dN):=
 match nD P t,x.one? with
 |some (a,b),some (.mp k)=>match get k with
  |some (.mp c e l)=>match i.asD c,(mK y get).1.asD e with
   |some f,some g=>if ti P a c&&decide (ff P b=some e.agg)then some (.tup [],(mK y get).2++[(k,some (.mp c e (cD f g l)))])else none
   |_,_=>none
  |_=>none
 |_,_=>none
theorem cF:∀(a b:dN)(h:Nat->Option Ch),bm h (a++b)=bm (bm h a) b
 |[],_,_=>rfl
 |u::r,b,h=>by simp only[List.cons_append,bm];exact cF r b _
theorem mL:∀(a:dN)(h:Nat->Option Ch)(k:Nat),(∀u∈a,u.1≠k)->bm h a k=h k
 |[],_,_,_=>rfl
 |u::r,h,k,b=>by
  simp only[bm];rw[mL r _ k (λv c=>b v (aA _ c))];have:=b u (aG ..);simp[cO,lV this]
theorem mN:∀{l:List I}{get:Nat->Option Ch}{k:Nat}{c:Ch},get k=some c->(∀e m,c≠ .sl e m)->∀u∈(kl l get).2,u.1≠k
 |[],_,_,_,_,_=>by simp[kl]
 |i::r,get,k,c,f,g=>by
  intro u a;have plain:u∈(kl r get).2->u.1≠k:=λq=>mN (l:=r) f g u q;cases i
  case own q=>
   simp only[kl]at a;split at a
   ·rename_i e m j;simp only[bt]at a;have b:q≠k:=λn=>by subst n;rw[f]at j;exact g _ _ (Option.some.inj j)
    rcases a with rfl|a
    ·exact b
    ·exact mN (l:=r) (c:=c) (by rw[bE _ _ _ (lV b)];exact f) g u a
   ·exact plain a
   ·exact plain a
  all_goals exact plain a
theorem yA{x:V}{k:Nat}{c:Ch}(a:get k=some c)(b:∀e m,c≠ .sl e m):∀u∈(mK x get).2,u.1≠k:=by
 cases x
 case val g l=>exact mN a b
 all_goals simp[mK]
theorem bM.behind{b:Nat->Option Ch}{u0 a:dN}{x:V}{v:Value}{w':World}(c:Mv ρ w h ρ w b)(f:bm h u0=b)(g:bM F ρ w b N W x a v w'):bM F ρ w h N W x (u0++a) v w':=by
 obtain⟨ρ',i,j,l,m,n⟩:=g;subst f;have e:=cF u0 a h;refine⟨ρ',i,j,by rw[e];exact l,by rw[e];exact m,by rw[e];exact c.trans n⟩
theorem jm(hh:dq F ρ w h)(hg:∀k b,get k=some b->h k=some b){t:TypeId}{x i y:V}{v u z:Value}{q:V×dN}(hx:aT w (Av F ρ h) ρ x v)(hi:aT w (Av F ρ h) ρ i u)(hy:aT w (Av F ρ h) ρ y z)(o:jI P t x i y get=some q):
 ∃w',(Instr.mapUpdate t v u z).run P w= .ok () w'/\bM F ρ w h N W q.1 q.2 undef w':=by
 unfold jI at o;split at o
 case h_2=>simp at o
 rename_i a b k G hp;obtain⟨bl,R,E⟩:=aN hp hx;simp at E;subst E;split at o
 case h_2=>simp at o
 rename_i H J l hk;split at o
 case h_2=>simp at o
 rename_i K L S U;split at o
 case isFalse=>simp at o
 rename_i X;simp only[aI,ai]at X;simp at o;subst o;obtain⟨Y,f2,f3⟩:=uA hh hg hy;have a0:=hg k _ hk;have C:bm h (mK y get).2 k=some (.mp H J l):=by rw[mL _ _ _ (yA hk (by simp))];exact a0
 generalize M:bm h (mK y get).2=E at Y f2 f3 C;have n:iI w (Av F ρ E) H K u:=(V.asD_ok S hi).evo f2.evo;have A:iI w (Av F ρ E) J L z:=V.asD_ok U f3;obtain⟨b',Q,p,clock,e1,e2,e3,e4,e5⟩:=Y.ok k _ C;rw[R]at Q;simp at Q;subst Q;obtain⟨f,g1,g2,g3⟩:=tj X.1 n e2;have B:(getObj bl).run P w= .ok (.map p clock) w:=by simp[getObj,Sem.run,e1]
 have fin:∀(o':Obj)(m:Array MapEntry)(c:Nat),o'= .map m c->F2 (nY w (Av F ρ E) H J) (cD K L l) m.toList->(m.toList.map (·.born)).Nodup->(∀e∈m.toList,e.born<c)->
  (∀w',(setObj bl o').run P w= .ok () w'->(Instr.mapUpdate t (.map (some bl)) u z).run P w= .ok () w')->∃w',(Instr.mapUpdate t (.map (some bl)) u z).run P w= .ok () w'/\bM F ρ w h N W (.tup []) ((mK y get).2++[(k,some (.mp H J (cD K L l)))]) undef w':=by
  rintro o' m c rfl hF hn a1 O;obtain⟨w',s1,s2,s3,s4,s5,s6,s7⟩:=yz (P:=P) (o':= .map m c) e1 (by simp);refine⟨w',O w' s1,?_⟩
  exact bM.behind f2 M (bM.set (N:=N) (W:=W) Y C rfl (.mp H J (cD K L l)) (by simp) (by simp) (by omega) s4 s5 s6 (λb' _ a2=>s7 b' (λe=>a2 (by rw[R,e];rfl)))
   (λa3=>⟨bl,R,m,c,s2,F2.imp (λ_ _=>nY.evo a3.evo) hF,hn,a1,(to e5).1⟩) (.tup []) undef (λ_=>ej))
 rcases r:eX f p.toList 0 with _|⟨j,vv⟩
 ·refine fin _ (p.push {key:=u,val:=z,born:=clock}) (clock+1) rfl ?_ ?_ ?_ ?_
  ·simpa using tp (new:={key:=u,val:=z,born:=clock}) ⟨n,A⟩ g2 r
  ·simp only[Array.toList_push,dn,aY,List.map_nil];refine List.nodup_append.2 ⟨e3,by simp,?_⟩;intro a o b' a4 a9;simp at a4;obtain⟨e,s,rfl⟩:=dM.1 o;have:=e4 e s;omega
  ·intro e s;simp at s;rcases s with s|rfl
   ·have:=e4 e (by simpa using s);omega
   ·exact Nat.lt_succ_self _
  ·intro w' hs;simp[Instr.mapUpdate,run_underlying (jl G),B,g3,g1,r,hs]
 ·obtain⟨_,⟨e0,q0,r1,r2,r3⟩,r4⟩:=tq (vd:=L) (g:=λe=>{e with key:=u,val:=z}) g2 r;simp only[Nat.sub_zero]at r1 r4;have a5:q0.1=K:=(dZ.1 r3).symm;have a6:=(BZ (P:=P) (w:=w) X.1 (by rw[<-a5];exact r2.1) n).2;refine fin _ (p.modify j λe=>{e with key:=u,val:=z}) clock rfl ?_ ?_ ?_ ?_
  ·rw[Array.toList_modify];exact r4 λe1 Q _ a b=>⟨by rw[<-dZ.1 b];exact n,A⟩
  ·rw[Array.toList_modify]
   have:(p.toList.modify j λe=>{e with key:=u,val:=z}).map (·.born)=p.toList.map (·.born):=by
    apply List.ext_getElem?;intro i;simp only[List.getElem?_map,List.getElem?_modify];cases p.toList[i]?<;>simp;split<;>rfl
   rw[this];exact e3
  ·intro e s;rw[Array.toList_modify]at s;obtain⟨i,hi,a7⟩:=List.getElem_of_mem s;have:(p.toList.modify j λe=>{e with key:=u,val:=z})[i]?=some e:=by rw[ap hi,a7]
   rw[List.getElem?_modify]at this;cases D:p.toList[i]? with
   |none=>simp[D]at this
   |some e9=>
    have h9:=e4 e9 (gN D);simp[D]at this;rw[<-this];split<;>exact h9
  ·intro w' hs
   have a8:((p[j]?).map (·.key)).getD u=e0.key:=by
    have:p[j]?=some e0:=by simpa using r1
    simp[this]
   simp[Instr.mapUpdate,run_underlying (jl G),B,g3,g1,r,a8,a6,hs]
end
end
section
section
variable{P:Program}{F:Nat->Prop}{ρ:Nat->Pl}{w:World}{h get:Nat->Option Ch}{N W:Nat}
theorem bM.block(hh:dq F ρ w h)(g:ρ N= .un)(i:0<W)(o:Obj)(c:Ch)(a:∀m kt e rest last,c= .mit m kt e rest last->∃l,h m=some (.lk kt e l))
 (j:Mv ρ w h (gd ρ N (.bk w.heap.size)) (w.alloc o) (cO h N (some c))->(w.alloc o).heap[w.heap.size]?=some o->vL (w.alloc o) (Av F (gd ρ N (.bk w.heap.size)) (cO h N (some c))) (gd ρ N (.bk w.heap.size)) N c) (x:V) (v:Value)
 (n:gd ρ N (.bk w.heap.size) N= .bk w.heap.size->aT (w.alloc o) (Av F (gd ρ N (.bk w.heap.size)) (cO h N (some c))) (gd ρ N (.bk w.heap.size)) x v):bM F ρ w h N W x [(N,some c)] v (w.alloc o):=by
 refine bM.add hh g i (fH.alloc w o) (.bk w.heap.size) c a (λb _ f=>?_) (λp=>j p (Go.heap_alloc_new w o)) x v (λ_=>n (bP _ _ _));simp[Pl.blk]at f;subst f;exact⟨aD _,by rw[dX];omega⟩
def qH(P:Program)(t:TypeId)(N:Nat):Option (V×dN):=
 match nD P t with
 |some (a,b)=>match Ig P 8 a,Ig P 8 b with
  |some c,some e=>some (sc (.mp N),[(N,some (.mp c e []))])
  |_,_=>none
 |none=>none
theorem qI(hh:dq F ρ w h)(f:ρ N= .un)(g:0<W){t:TypeId}:dl P F ρ w h N W (Instr.makeMap t none) (Tr.ofOpt (qH P t N)):=by
 refine .ofOpt λq c=>?_;unfold qH at c;split at c
 case h_2=>simp at c
 rename_i a b i;split at c<;>simp at c;rename_i j l m n;subst c;refine⟨.map (some w.heap.size),w.alloc (.map #[] 0),by simp[Instr.makeMap,newObj,Sem.run],bM.block hh f g (.map #[] 0) (.mp j l []) (by simp) (λ_ o=>⟨_,bP _ _ _, #[],0,o,trivial,by simp,by simp,by simp⟩) _ _ (λe=>aJ.2 ⟨_,e,rfl⟩)⟩
def yB(P:Program)(t:TypeId)(x:V)(get:Nat->Option Ch)(N:Nat):Option (V×dN):=
 match x.one? with
 |some (.mp k)=>match nD P t,get k with
  |some _,some (.mp a b l)=>some (sc (.ptr N 0),[(k,some (.lk a b l)),(N,some (.mit k a b l none))])
  |some _,some (.lk a b l)=>some (sc (.ptr N 0),[(N,some (.mit k a b l none))])
  |_,_=>none
 |some (.fmp a b l)=>match nD P t with
  |some _=>some (sc (.ptr N 0),[(N,some (.fit a b l none))])
  |none=>none
 |some i=>match i.sc? with
  |some (_, .str s)=>if BT P t then some (sc (.ptr N 0),[(N,some (.sit s 0))])else none
  |_=>none
 |none=>none
theorem wi{w:World}{A:Nat->Prop}{kt a:Ty}{l:List (kt.den×a.den)}{b c:Nat}(h:mq w A kt a l b)(hi:∀es clock,w.heap[b]?=some (.map es clock)->w.heap[c]?=some (.mapIter (some b) clock #[] clock)):oh w A kt a l none b c:=by
 obtain⟨es,clock,e,f,g,i,_⟩:=h;refine⟨es,clock, #[],e,hi es clock e,g,i,⟨l,List.Perm.refl _,?_⟩,by simp⟩;rw[List.filter_eq_self.2 (by simp)];exact f
theorem uB(hh:dq F ρ w h)(hg:∀k b,get k=some b->h k=some b)(S:ρ N= .un)(hW:0<W){t:TypeId}{x:V}{v:Value}(hx:aT w (Av F ρ h) ρ x v):dl P F ρ w h N W (Instr.range t v) (Tr.ofOpt (yB P t x get N)):=by
 refine .ofOpt λq f=>?_;unfold yB at f
 have y:∀{k bl:Nat}{o p:Ty}{l:List (o.den×p.den)}{K:TypeId×TypeId}{z:Nat->Option Ch},dq F ρ w z->z k=some (.lk o p l)->ρ k= .bk bl->nD P t=some K->
  ∃r U,(Instr.range t (.map (some bl))).run P w= .ok r U/\bM F ρ w z N W (sc (.ptr N 0)) [(N,some (.mit k o p l none))] r U:=by
  intro k bl o p l K z L H A g;obtain⟨b',M,X⟩:=L.ok _ _ H;rw[A]at M;simp at M;subst M;obtain⟨es,clock,J,_⟩:=id X;have a0:k≠N:=λe=>by rw[e,S]at A;simp at A
  refine⟨.pointer (some ⟨w.heap.size,0,none⟩),_,run_range_map w t _ _ bl es clock (jl g) J,bM.block L S hW (.mapIter (some bl) clock #[] clock) (.mit k o p l none) (λm a b c d e=>by simp at e;obtain⟨rfl,rfl,rfl,_⟩:=e;exact⟨l,H⟩) (λD E=>⟨w.heap.size,bl,bP _ _ _,by rw[gp _ _ _ a0];exact A,?_⟩) _ _ (λe=>aJ.2 ⟨_,⟨_,e,rfl⟩,rfl⟩)⟩;have n:bl<w.heap.size:=(eg.1 J).1;refine wi (X.evo D.evo ((fH.alloc w _).old bl n)) λa3 B G=>?_;rw[(fH.alloc w _).old bl n,J]at G;simp at G;obtain⟨rfl,rfl⟩:=G;exact E
 split at f
 ·rename_i k O;obtain⟨bl,A,z⟩:=aN O hx;simp at z;subst z;split at f
  case h_3=>simp at f
  ·rename_i K o p l g H;simp at f;subst f;have C:=hg k _ H
   obtain⟨a1,a2⟩:=hh.step (ρ':=ρ) (w':=w) (h':=cO h k (some (.lk o p l))) (λj=>j=k) (dR.refl ρ) (aD _) rfl rfl rfl (λj u=>bE _ _ _ u) (λ_ _ _=>rfl)
    (λj c b u Y _ Q=>by subst u;exact⟨(hh.fr j _ b C rfl Q).1, .inr ⟨j,_,rfl,C,rfl,Q⟩⟩)
    (λj j' _ _ _ u a4 _ _ _ _ _ _=>u.trans a4.symm)
    (λj m a b c d u R=>by
     by_cases e:j=k
     ·subst e;rw[bG]at u;simp at u
     ·rw[bE _ _ _ e]at u;obtain⟨l',hl⟩:=hh.it j m a b c d u;rcases R with R|R
      ·exact absurd R e
      ·rw[R,C]at hl;simp at hl)
    (λj c u Y D=>by
     subst u;rw[bG]at Y;simp at Y;subst Y;obtain⟨b',M,X⟩:=hh.ok j _ C;exact⟨b',M,X.evo D.evo rfl⟩)
   obtain⟨r,U,r1,r2⟩:=y a1 (bG _ _ _) A g;exact⟨r,U,r1,bM.behind (u0:=[(k,some (.lk o p l))]) a2 rfl r2⟩
  ·rename_i K o p l g H;simp at f;subst f;exact y hh (hg k _ H) A g
 ·rename_i o p l O;split at f<;>simp at f;rename_i K g;subst f;obtain⟨bl,z,n,a5,h2⟩:=aN O hx;simp at z;subst z;have a6:mq w (Av F ρ h) o p l bl:=h2;obtain⟨es,clock,J,_⟩:=id h2;refine⟨.pointer (some ⟨w.heap.size,0,none⟩),_,run_range_map w t _ _ bl es clock (jl g) J,bM.block hh S hW (.mapIter (some bl) clock #[] clock) (.fit o p l none) (by simp) (λD E=>⟨w.heap.size,bl,bP _ _ _,bu n D.size,λq=>a5 ((D.evo (F:=F)).av bl n q),?_⟩) _ _ (λe=>aJ.2 ⟨_,⟨_,e,rfl⟩,rfl⟩)⟩;refine wi (a6.evo D.evo ((fH.alloc w _).old bl n)) λa3 B G=>?_;rw[(fH.alloc w _).old bl n,J]at G;simp at G;obtain⟨rfl,rfl⟩:=G;exact E
 ·rename_i i _ _ O;split at f
  case h_2=>simp at f
  rename_i kn s hs;split at f<;>simp at f;rename_i ht;subst f;have hv:=mF hs (aN O hx);subst hv;exact⟨_,_,run_range_string w t (bH s) (gA ht),bM.block hh S hW (.stringIter (bH s) 0) (.sit s 0) (by simp) (λ_ A=>⟨_,bP _ _ _,A⟩) _ _ (λe=>aJ.2 ⟨_,⟨_,e,rfl⟩,rfl⟩)⟩
 ·simp at f
def wj(x:V)(f:Bool)(get:Nat->Option Ch):Tr (V×dN):=
 match x.one?,f with
 |some (.ptr k 0),true=>match get k with
  |some (.sit s b)=> .ite (decide (b<s.length)) (.leaf (.tup [(false,[.k (.bool true)]),(false,[.d .i64 (b:Int)]),(false,[.d .i32 ((Utf8.decode (bH s) b).1:Int)])],[(k,some (.sit s (b+(Utf8.decode (bH s) b).2)))]))
   (.leaf (.tup [(false,[.k (.bool false)])],[]))
  |_=> .stuck
 |some (.ptr k 0),false=>match get k with
  |some (.mit m c e a _)=> .ite (!a.isEmpty) (.all ((c.den×e.den)×List (c.den×e.den)) (λz=>a.Perm (z.1::z.2)) (λz=> .leaf (.tup [(false,[.k (.bool true)]),(c.agg,iY c z.1.1),(e.agg,iY e z.1.2)],[(k,some (.mit m c e z.2 (some z.1)))])))
   (.leaf (.tup [(false,[.k (.bool false)])],[]))
  |some (.fit c e a _)=> .ite (!a.isEmpty) (.all ((c.den×e.den)×List (c.den×e.den)) (λz=>a.Perm (z.1::z.2)) (λz=> .leaf (.tup [(false,[.k (.bool true)]),(c.agg,iY c z.1.1),(e.agg,iY e z.1.2)],[(k,some (.fit c e z.2 (some z.1)))])))
   (.leaf (.tup [(false,[.k (.bool false)])],[]))
  |_=> .stuck
 |_,_=> .stuck
theorem F2.mem{α β:Type}{R:α->β->Prop}:∀{l:List α}{m:List β}{b:β},F2 R l m->b∈m->∃a r c e m1 f,l=c++a::e/\m=m1++b::f/\R a b/\F2 R (c++e) (m1++f)/\r=c++e
 |[],[],_,_,h=>by simp at h
 |a::l,j::m,b,⟨g,i⟩,h=>by
  rcases bt.1 h with rfl|h
  ·exact⟨a,_,[],l,[],m,rfl,rfl,g,i,rfl⟩
  ·obtain⟨n,r,c,e,m1,f,o,p,q,s,t⟩:=F2.mem i h;exact⟨n,_,a::c,e,j::m1,f,by rw[o];rfl,by rw[p];rfl,q,⟨g,s⟩,rfl⟩
theorem nE{es:List MapEntry}{seen:Array Nat}{e:MapEntry}(j:(es.map (·.born)).Nodup){m1 b:List MapEntry}(g:es.filter (λx=> !seen.contains x.born)=m1++e::b):
 es.filter (λx=> !(seen.push e.born).contains x.born)=m1++b:=by
 have l:es.filter (λx=> !(seen.push e.born).contains x.born)=(es.filter (λx=> !seen.contains x.born)).filter (λx=> !(x.born==e.born)):=by
  rw[List.filter_filter]
  congr 1
  funext x;simp only[Array.contains_push];cases seen.contains x.born<;>cases p:x.born==e.born<;>simp_all
 rw[l,g]
 have a:(m1++e::b).map (·.born)|>.Nodup:=by
  rw[<-g];exact j.sublist (List.Sublist.map _ List.filter_sublist)
 rw[dn,aY,List.nodup_append]at a;obtain⟨r,i,m⟩:=a;rw[mn]at i
 have n:m1.filter (λx=> !(x.born==e.born))=m1:=List.filter_eq_self.2 λx c=>by
  have:=m x.born (fB c) e.born (aG ..);simp[this]
 have o:b.filter (λx=> !(x.born==e.born))=b:=List.filter_eq_self.2 λx c=>by
  have:x.born≠e.born:=λq=>i.1 (q▸fB (f:=(·.born)) c);simp[this]
 rw[List.filter_append,n,List.filter_cons];simp[o]
theorem wk(hh:dq F ρ w h)(hg:∀k b,get k=some b->h k=some b){ty:TypeId}{x:V}{r:Bool}{v:Value}(hx:aT w (Av F ρ h) ρ x v):dl P F ρ w h N W (Instr.next v r ty) (wj x r get):=by
 unfold wj;split
 ·rename_i k hp;obtain⟨_,⟨b,p,rfl⟩,h1⟩:=aN hp hx;simp at h1;subst h1;simp only at p;split
  case h_2=>exact .stuck
  rename_i s o hk;have i:=hg k _ hk;obtain⟨K,t,q2⟩:=hh.ok _ _ i;rw[p]at t;simp at t;subst t;have a8:(bH s).size=s.length:=by simp[bH,ByteArray.size]
  refine .ite (λM=>?_) (λM=>?_)
  ·simp at M;have a2:=Lib.run_next_any_at (P:=P) w b (bH s) o ty q2 (by omega);have u:b<w.heap.size:=(eg.1 q2).1;refine .leaf a2 ?_;refine(bM.set (w':=w.iterAt b (bH s) (o+(Utf8.decode (bH s) o).2)) hh i rfl (.sit s (o+(Utf8.decode (bH s) o).2)) (by simp) (by simp) (by simp[World.iterAt]) rfl rfl rfl (λK _ j=>?_) (λn=>⟨b,p,?_⟩) _ _ (λ_=>?_))
   ·have:K≠b:=λe=>j (by rw[p,e];rfl);simp[World.iterAt,lV this]
   ·simp[World.iterAt,u]
   ·exact⟨_,rfl,aJ.2 rfl,aJ.2 rfl,aJ.2 (by simp[bj,Rd]),trivial⟩
  ·simp at M;exact .pure hh (Lib.run_next_end_at w b (bH s) o ty q2 (by omega)) ⟨_,rfl,aJ.2 rfl,trivial⟩
 ·rename_i k hp;obtain⟨_,⟨b,p,rfl⟩,h1⟩:=aN hp hx;simp at h1;subst h1;simp only at p;split
  case h_3=>exact .stuck
  case h_2=>
   rename_i kt vt c L hk;have i:=hg k _ hk;obtain⟨K,D,t,a3,qA,y,clock,seen,E,O,i3,i4,⟨q,i5,Q⟩,i7⟩:=hh.ok _ _ i;rw[p]at t;simp at t;subst t;have l:=run_next_at (P:=P) w ty b D clock clock seen y clock O E i4 (aD _);have f:(leftOf y seen).toList=y.toList.filter λe=> !seen.contains e.born:=by simp[leftOf]
   intro R hR;obtain⟨hT,S⟩:=hR;rcases l with⟨z,U⟩|⟨e,z,A,U,n3⟩
   ·have B:y.toList.filter (λe=> !seen.contains e.born)=[]:=by rw[<-f];simpa using z
    rw[B]at Q
    have X:q=[]:=by cases q with
     |nil=>rfl
     |cons _ _=>exact Q.elim
    subst X;have Y:c=[]:=List.Perm.eq_nil i5.symm;exact⟨_,w,_,U,S (by rw[Y];rfl),bM.pure hh ⟨_,rfl,aJ.2 rfl,trivial⟩⟩
   ·rw[f]at z;obtain⟨a,_,G,H,m1,m2,e1,e2,e3,e4,_⟩:=F2.mem Q z;have g:c.Perm (a::(G++H)):=i5.symm.trans (by rw[e1];exact List.perm_middle)
    have j:(!c.isEmpty)=true:=by
     cases c with
     |nil=>have:=g.length_eq;simp at this
     |cons _ _=>rfl
    have u:b<w.heap.size:=(eg.1 O).1;have a0:A.heap=w.heap/\A.os=w.os/\A.tape=w.tape/\A.output=w.output:=by rcases U with rfl|rfl<;>exact⟨rfl,rfl,rfl,rfl⟩
    obtain⟨J,z2,z3,z4⟩:=a0;have a1:D≠b:=λe9=>by rw[e9,O]at E;simp at E
    refine⟨_,_,_,n3,hT j (a,G++H) g,?_⟩;refine(bM.set (w':=dY A b (.mapIter (some D) clock (seen.push e.born) clock)) hh i rfl (.fit kt vt (G++H) (some a)) (by simp) (by simp) (by simp[dY,J]) z2 z3 z4 (λK _ j=>?_) (λn=>⟨b,D,p,bu a3 n.size,λq=>qA ((n.evo (F:=F)).av D a3 q),y,clock,seen.push e.born,?_,?_,i3,i4,⟨G++H,List.Perm.refl _,?_⟩,?_⟩) _ _ (λn=>?_))
    ·have:K≠b:=λe=>j (by rw[p,e];rfl);simp[dY,lV this,J]
    ·simp[dY,lV a1,J,E]
    ·simp[dY,J,u]
    ·rw[nE i3 e2];exact F2.imp (λ_ _=>nY.evo n.evo) e4
    ·intro q' C;simp at C;subst C;exact⟨seen,e,rfl,(List.mem_filter.1 z).1,e3.evo n.evo⟩
    ·exact⟨_,rfl,aJ.2 rfl,il.2 (e3.1.evo n.evo),il.2 (e3.2.evo n.evo),trivial⟩
  rename_i m kt vt c L hk;have i:=hg k _ hk;obtain⟨K,D,t,q2,y,clock,seen,E,O,i3,i4,⟨q,i5,Q⟩,i7⟩:=hh.ok _ _ i;rw[p]at t;simp at t;subst t;have l:=run_next_at (P:=P) w ty b D clock clock seen y clock O E i4 (aD _);have f:(leftOf y seen).toList=y.toList.filter λe=> !seen.contains e.born:=by simp[leftOf]
  intro R hR;obtain⟨hT,S⟩:=hR;rcases l with⟨z,U⟩|⟨e,z,A,U,n3⟩
  ·have B:y.toList.filter (λe=> !seen.contains e.born)=[]:=by rw[<-f];simpa using z
   rw[B]at Q
   have X:q=[]:=by cases q with
    |nil=>rfl
    |cons _ _=>exact Q.elim
   subst X;have Y:c=[]:=List.Perm.eq_nil i5.symm;exact⟨_,w,_,U,S (by rw[Y];rfl),bM.pure hh ⟨_,rfl,aJ.2 rfl,trivial⟩⟩
  ·rw[f]at z;obtain⟨a,_,G,H,m1,m2,e1,e2,e3,e4,_⟩:=F2.mem Q z;have g:c.Perm (a::(G++H)):=i5.symm.trans (by rw[e1];exact List.perm_middle)
   have j:(!c.isEmpty)=true:=by
    cases c with
    |nil=>have:=g.length_eq;simp at this
    |cons _ _=>rfl
   have u:b<w.heap.size:=(eg.1 O).1;have a0:A.heap=w.heap/\A.os=w.os/\A.tape=w.tape/\A.output=w.output:=by rcases U with rfl|rfl<;>exact⟨rfl,rfl,rfl,rfl⟩
   obtain⟨J,z2,z3,z4⟩:=a0;have a1:D≠b:=λe9=>by rw[e9,O]at E;simp at E
   obtain⟨_,a5⟩:=hh.it k m kt vt c L i;refine⟨_,_,_,n3,hT j (a,G++H) g,?_⟩;refine(bM.set (w':=dY A b (.mapIter (some D) clock (seen.push e.born) clock)) hh i rfl (.mit m kt vt (G++H) (some a)) (by simp) (λm' a9 b0 a6 a7 a4=>by simp at a4;obtain⟨rfl,rfl,rfl,_⟩:=a4;exact⟨_,a5⟩) (by simp[dY,J]) z2 z3 z4 (λK _ j=>?_) (λn=>⟨b,D,p,q2,y,clock,seen.push e.born,?_,?_,i3,i4,⟨G++H,List.Perm.refl _,?_⟩,?_⟩) _ _ (λn=>?_))
   ·have:K≠b:=λe=>j (by rw[p,e];rfl);simp[dY,lV this,J]
   ·simp[dY,lV a1,J,E]
   ·simp[dY,J,u]
   ·rw[nE i3 e2];exact F2.imp (λ_ _=>nY.evo n.evo) e4
   ·intro q' C;simp at C;subst C;exact⟨seen,e,rfl,(List.mem_filter.1 z).1,e3.evo n.evo⟩
   ·exact⟨_,rfl,aJ.2 rfl,il.2 (e3.1.evo n.evo),il.2 (e3.2.evo n.evo),trivial⟩
 ·exact .stuck
def uC(x:V)(get:Nat->Option Ch):Option V:=
 match x.one? with
 |some (.ptr k 0)=>match get k with
  |some (.mit _ a b _ (some z))=>some (.tup [(a.agg,iY a z.1),(b.agg,iY b z.2)])
  |some (.fit a b _ (some z))=>some (.tup [(a.agg,iY a z.1),(b.agg,iY b z.2)])
  |_=>none
 |_=>none
theorem uD(hh:dq F ρ w h)(B:∀k b,get k=some b->h k=some b){x:V}{v:Value}(D:aT w (Av F ρ h) ρ x v):dl P F ρ w h N W (Instr.entry v) (Tr.ofOpt ((uC x get).map (·,[]))):=by
 refine .ofOpt λq i=>?_;cases a:uC x get with
 |none=>simp[a]at i
 |some y=>
  simp[a]at i;subst i;unfold uC at a;split at a
  case h_2=>simp at a
  rename_i k E;obtain⟨_,⟨b,j,rfl⟩,C⟩:=aN E D;simp at C;subst C;simp only at j;split at a<;>simp at a
  case h_2=>
   rename_i G H f z l;subst a;obtain⟨J,n,c,_,_,o,clock,seen,p,r,s,K,_,t⟩:=hh.ok _ _ (B _ _ l);rw[j]at c;simp at c;subst c;obtain⟨u,e,rfl,A,g⟩:=t z rfl;exact⟨_,w,run_entry_at w b n clock u o clock e r p A s,bM.pure hh ⟨_,rfl,il.2 g.1,il.2 g.2,trivial⟩⟩
  rename_i m G H f z l;subst a;obtain⟨J,n,c,L,o,clock,seen,p,r,s,K,_,t⟩:=hh.ok _ _ (B _ _ l);rw[j]at c;simp at c;subst c;obtain⟨u,e,rfl,A,g⟩:=t z rfl;exact⟨_,w,run_entry_at w b n clock u o clock e r p A s,bM.pure hh ⟨_,rfl,il.2 g.1,il.2 g.2,trivial⟩⟩
def jJ(P:Program)(t:TypeId)(x:V):Option V:=
 match x.one? with
 |some (.ptr k a)=>if oq P t then some (sc (.ifc t k a))else none
 |_=>none
theorem oy(hh:dq F ρ w h){t:TypeId}{x:V}{v:Value}(f:aT w (Av F ρ h) ρ x v):dl P F ρ w h N W (Instr.makeInterface t v) (Tr.ofOpt ((jJ P t x).map (·,[]))):=by
 refine .ofOpt λq a=>?_;unfold jJ at a;split at a
 case h_2=>simp at a
 rename_i k g i;split at a<;>simp at a;rename_i b;subst a;obtain⟨_,j,c⟩:=aN i f;simp at c;subst c
 obtain⟨e,l⟩:∃e,P.underlying t=some (.pointer e):=by
  unfold oq at b;split at b
  ·exact⟨_,‹_›⟩
  ·simp at b
 exact⟨.iface t v,w,by simp[Instr.makeInterface,run_underlying l],bM.pure hh (aJ.2 ⟨v,j,rfl⟩)⟩
def B0:List V->Option (List (Nat×Nat))
 |[]=>some []
 |x::r=>match x.one?,B0 r with
  |some (.ptr k a),some l=>some ((k,a)::l)
  |_,_=>none
theorem uE{A:Nat->Prop}:∀{l:List V}{m:List (Nat×Nat)}{vs:List Value},B0 l=some m->F2 (aT w A ρ) l vs->F2 (kH ρ) m vs
 |[],m,[],h,_=>by simp[B0]at h;subst h;trivial
 |x::l,m,v::vs,h,⟨b,c⟩=>by
  simp only[B0]at h;split at h<;>simp at h;rename_i k e j f g;subst h;obtain⟨u,i,a⟩:=aN f b;simp at a;subst a;exact⟨i,uE g c⟩
end
end
section
def DS(v:Value):V:=match DE v with
 |some i=>sc i
 |none=> .any
def dt(slots:List V):Operand->V
 | .tmp t=>slots.getD t (.tup [])
 | .const v=>DS v
 | .func f=>sc (.fn f [] [])
 | .global _=> .any
theorem fC{w:World}{A:Nat->Prop}{ρ:Nat->Pl}{slots:List V}{a:Act}(h:F2 (aT w A ρ) slots a.tmps.toList)(x:Operand):aT w A ρ (dt slots x) (a.eval x):=by
 cases x with
 |tmp t=>
  simp only[dt,Act.eval,bB];cases b:slots[t]? with
  |none=>
   have c:a.tmps.toList[t]?=none:=by
    rw[List.getElem?_eq_none_iff]at b⊢;rw[<-h.length];exact b
   have e:a.tmps[t]?=none:=by simpa using c
   simp only[Option.getD_none,Array.getD_eq_getD_getElem?,e];exact ej
  |some x=>
   obtain⟨v,c,e⟩:=h.get b;have i:a.tmps[t]?=some v:=by simpa using c
   simp only[di,Array.getD_eq_getD_getElem?,i];exact e
 |const v=>
  simp only[dt,Act.eval,DS];cases j:DE v with
  |none=>trivial
  |some x=>exact aJ.2 (zN j)
 |global g=>trivial
 |func f=>exact aJ.2 ⟨[],[],rfl,trivial,trivial⟩
def qJ:Operand->Bool
 | .const (.slice none 0 0)=>true
 |_=>false
def wl(P:Program)(t:TypeId)(x:Operand)(v:V)(N:Nat):V×dN:=
 if qJ x then
  match pS P t with
  |some e=>match Ig P 8 e with
   |some b=>(sc (.own N),[(N,some (.sl b []))])
   |none=>(v,[])
  |none=>(v,[])
 else(v,[])
def B1(P:Program)(t:TypeId)(name:String):Option (FuncId×Bool):=
 match P.info? t with
 |some i=>match i.methods.find? (·.name==name)with
  |some m=>if m.path.toList.isEmpty then m.func else none
  |none=>none
 |none=>none
def xU(x:Option V):Tr (V×dN):=Tr.ofOpt (x.map (·,[]))
def tr(P:Program)(op:BinOp)(t:TypeId)(a b:I):Option (Bool×Bool):=
 match pS P t,b,a with
 |some _, .nils, .d (.sl _) l=>if isEq op then some (false,l.isEmpty)else none
 |some _, .nils, .cut _ l=>if isEq op then some (false,l.isEmpty)else none
 |some _, .nils, .nils=>if isEq op then some (true,true)else none
 |_,_,_=>none
where isEq:BinOp->Bool
 | .eql=>true
 | .neq=>true
 |_=>false
def qK(b:BinOp)(z:Bool):Bool:=match b with
 | .eql=>z
 |_=> !z
def qL(P:Program)(c:BinOp)(t:TypeId)(x y:V):Tr (V×dN):=
 match x,y with
 | .val false [a], .val false [b]=>match a.sc?,b.sc? with
   |some p,some q=>match qw P c t p q with
    |some r=> .needs r.1 (.leaf (r.2,[]))
    |none=> .stuck
   |_,_=>match tr P c t a b with
    |some (true,_)=> .leaf (sc (.k (.bool (qK c true))),[])
    |some (false,m)=> .all Bool (λz=>z=true->m=true) λz=> .leaf (sc (.d .bl (qK c z)),[])
    |none=>xU (pb P c t a b)
 | .val true l, .val true m=>xU (ux P c t l m)
 |_,_=> .stuck
def ph:List (Nat×V)->(Nat->Option Ch)->List (Nat×V)×dN
 |[],_=>([],[])
 |p::r,get=>let q:=mK p.2 get;let s:=ph r (bm get q.2);((p.1,q.1)::s.1,q.2++s.2)
def fW(P:Program)(t:TypeId)(len:Nat)(parts:List (Nat×V))(get:Nat->Option Ch)(N:Nat):Tr (V×dN):=
 match kP P t len (ph parts get).1 N with
 |some r=> .leaf (r.1,(ph parts get).2++r.2)
 |none=> .stuck
def uF(P:Program)(t:TypeId)(x y:V)(get:Nat->Option Ch):Option (V×dN):=
 match uh P t x y get with
 |some q=>some q
 |none=>match uh P t x (mK y get).1 (bm get (mK y get).2)with
  |some q=>some (q.1,(mK y get).2++q.2)
  |none=>none
def qM(P:Program)(b:Builtin)(ts:List TypeId)(args:List V)(get:Nat->Option Ch)(N:Nat):Tr (V×dN):=
 match b,ts,args with
 | .len,[t],[x]=>xU (IJ P t x get)
 | .max,_,[x,y]=>xU (Qt x y)
 | .min,_,[x,y]=>xU (Qu x y)
 | .append,[t,c],[x,y]=>if t=c then ny P t x y get N else aappendZ P t c x y get N
 | .copy,[t,_],[x,y]=>Tr.ofOpt (DK P t x y get)
 |_,_,_=> .stuck
def IQ(P:Program)(x:V):Tr (V×dN):=
 match x.one? with
 |some (.ptr ..)=> .leaf (x,[])
 |some (.pes ..)=> .leaf (x,[])
 |some (.pv ..)=> .leaf (x,[])
 |some (.fn ..)=> .leaf (x,[])
 |some (.ifc ..)=> .leaf (x,[])
 |some (.mth name t ..)=>match B1 P t name with
  |some (_,b)=>if b=true\/oq P t=true then .leaf (x,[])else .stuck
  |none=> .stuck
 |_=> .stuck
def lE(f:Fn)(first cap:List V):Tr (V×dN):=
 match f with
 | .func g=>match B0 first,B0 cap with
   |some l,some m=> .leaf (sc (.fn g l m),[])
   |_,_=> .stuck
 | .method name=>match first,cap with
   |[x],[]=>match x.one? with
    |some (.ifc t k b)=> .leaf (sc (.mth name t k b),[])
    |_=> .stuck
   |_,_=> .stuck
 |_=> .stuck
def kS(P:Program)(o:Oper)(e:Operand->V)(get:Nat->Option Ch)(N:Nat):Tr (V×dN):=
 match o.op with
 | .move x=> .leaf (wl P o.type x (e x) N)
 | .assign x=> .leaf (wl P o.type x (e x) N)
 | .pick c a b=>match(e c).one? with
   |some (.k (.bool t))=> .leaf (if t then e a else e b,[])
   |some (.d .bl t)=> .ite t (.leaf (e a,[])) (.leaf (e b,[]))
   |_=> .stuck
 | .alloc t=>Tr.ofOpt (yn P t N)
 | .box _ x=>Tr.ofOpt (Qq (e x) N)
 | .build t parts=>Tr.ofOpt (yu P t (parts.toList.map λp=>(p.1,e p.2)))
 | .buildSlice t len parts=>fW P t len (parts.toList.map λp=>(p.1,e p.2)) get N
 | .load t x=>xU (vY P t (e x) get)
 | .store t x y=>Tr.ofOpt (uF P t (e x) (e y) get)
 | .nilCheck x=>IQ P (e x)
 | .binOp j t x y _=>qL P j t (e x) (e y)
 | .unOp j _ x=>xU (aun j (e x))
 | .convert n q x=>kQ P n q (e x) get
 | .makeInterface t x=>xU (jJ P t (e x))
 | .makeFunc f first cap=>lE f (first.toList.map e) (cap.toList.map e)
 | .makeMap t none=>Tr.ofOpt (qH P t N)
 | .makeSlice t l c=>wa P t (e l) (e c) N
 | .slice t x r s u=>jH P t (e x) (r.map e) (s.map e) (u.map e) get N
 | .fieldAddr t x f=>xU (io P t (e x) f)
 | .field t x f=>xU (uk P t (e x) f)
 | .indexAddr t x i=>fI P t (e x) (e i) get
 | .index t x i=>qv P t (e x) (e i)
 | .lookup t x i ok=>xU (lD P t (e x) (e i) ok get)
 | .mapUpdate t m k x=>Tr.ofOpt (jI P t (e m) (e k) (e x) get)
 | .insert t m k x=>Tr.ofOpt (jI P t (e m) (e k) (e x) get)
 | .range t x=>Tr.ofOpt (yB P t (e x) get N)
 | .next x g=>wj (e x) g get
 | .entry x=>xU (uC (e x) get)
 | .extract x i=>xU (qs (e x) i)
 | .call c=>match c.callee with
   | .builtin b=>qM P b c.argTypes.toList (c.args.toList.map e) get N
   |_=> .stuck
 |_=> .stuck
section
variable{P:Program}{F:Nat->Prop}{ρ:Nat->Pl}{w:World}{h get:Nat->Option Ch}{N W:Nat}{a:Act}{o:Oper}
theorem pi{t:TypeId}{x:Operand}{v:V}(hh:dq F ρ w h)(i:ρ N= .un)(j:0<W)(f:aT w (Av F ρ h) ρ v (a.eval x)):
 bM F ρ w h N W (wl P t x v N).1 (wl P t x v N).2 (a.eval x) w:=by
 unfold wl;split
 case isFalse=>exact bM.pure hh f
 rename_i g;split
 case h_2=>exact bM.pure hh f
 split
 case h_2=>exact bM.pure hh f
 rename_i l _
 have c:a.eval x= .slice none 0 0:=by
  unfold qJ at g;split at g
  ·rfl
  ·simp at g
 rw[c];refine bM.add hh i j (fH.refl w) (.sv (.slice none 0 0)) (.sl l []) (λ_ _ _ _ _ e=>by simp at e) (λb _ m=>by simp[Pl.blk]at m) (λ_=>?_) _ _ (λ_=>?_)
 ·exact⟨_,bP _ _ _, .inr ⟨rfl,none,rfl⟩⟩
 ·exact aJ.2 ⟨none,0,0,bP _ _ _,rfl⟩
theorem mO:∀(u:dN){get h:Nat->Option Ch},(∀k b,get k=some b->h k=some b)->∀k b,bm get u k=some b->bm h u k=some b
 |[],_,_,f=>f
 |x::u,get,h,f=>by
  simp only[bm];refine mO u λk b c=>?_;by_cases e:k=x.1
  ·subst e;rw[bG]at c⊢;exact c
  ·rw[bE _ _ _ e]at c⊢;exact f k b c
theorem wm:∀{l:List (Nat×V)}{get h:Nat->Option Ch}{vs:List (Nat×Value)},dq F ρ w h->(∀k b,get k=some b->h k=some b)->
 F2 (λ(p:Nat×V)(q:Nat×Value)=>p.1=q.1/\aT w (Av F ρ h) ρ p.2 q.2) l vs->
 dq F ρ w (bm h (ph l get).2)/\Mv ρ w h ρ w (bm h (ph l get).2)/\F2 (λ(p:Nat×V)(q:Nat×Value)=>p.1=q.1/\aT w (Av F ρ (bm h (ph l get).2)) ρ p.2 q.2) (ph l get).1 vs
 |[],_,_,[],c,_,_=>⟨c,Mv.refl _ _ _,trivial⟩
 |p::r,get,h,q::vs,c,e,⟨⟨i,j⟩,m⟩=>by
  obtain⟨n,f,s⟩:=uA (x:=p.2) c e j;obtain⟨t,g,u⟩:=wm (l:=r) n (mO _ e) (F2.imp (λ_ _ q=>⟨q.1,q.2.evo f.evo (dR.refl ρ)⟩) m);simp only[ph];rw[cF];exact⟨t,f.trans g,⟨i,s.evo g.evo (dR.refl ρ)⟩,u⟩
theorem mP{t:TypeId}{len:Nat}{parts:List (Nat×V)}{c:List (Nat×Value)}(hh:dq F ρ w h)(f:∀k b,get k=some b->h k=some b)(g:ρ N= .un)(i:0<W)
 (j:F2 (λ(p:Nat×V)(q:Nat×Value)=>p.1=q.1/\aT w (Av F ρ h) ρ p.2 q.2) parts c):dl P F ρ w h N W (Instr.buildSlice t len c.toArray) (fW P t len parts get N):=by
 unfold fW;split
 case h_2=>exact .stuck
 rename_i r l;obtain⟨m,n,s⟩:=wm hh f j;have e:=nA (P:=P) (t:=t) (len:=len) (N:=N) (W:=W) m g i s;rw[l]at e;intro R u;obtain⟨v,x,q,y,z,ρ',A,B,C,D,E⟩:=e (λq=>q=r) rfl;subst z;refine⟨v,x,_,y,u,ρ',A,B,?_,?_,?_⟩
 ·simp only[cF];exact C
 ·simp only[cF];exact D
 ·simp only[cF];exact n.trans E
theorem sx{t:TypeId}{x y:V}{v u:Value}{q:V×dN}(hh:dq F ρ w h)(e:∀k b,get k=some b->h k=some b)(g:aT w (Av F ρ h) ρ x v)(i:aT w (Av F ρ h) ρ y u)(c:uF P t x y get=some q):
 ∃w',(Instr.storeAt t v u).run P w= .ok () w'/\bM F ρ w h N W q.1 q.2 undef w':=by
 unfold uF at c;split at c
 ·rename_i l f;simp at c;subst c;exact nu hh e g i f
 ·split at c
  case h_2=>simp at c
  rename_i l f;simp at c;subst c;obtain⟨m,j,n⟩:=uA hh e i;obtain⟨w',p,ρ',r,s,z,A,B⟩:=nu (N:=N) (W:=W) m (mO _ e) (g.evo j.evo (dR.refl ρ)) n f;refine⟨w',p,ρ',r,s,?_,?_,?_⟩
  ·simp only[cF];exact z
  ·simp only[cF];exact A
  ·simp only[cF];exact j.trans B
theorem jK{A:Nat->Prop}{c:Operand->V}{b:Operand->Value}(h:∀x,aT w A ρ (c x) (b x)):∀l:List Operand,F2 (aT w A ρ) (l.map c) (l.map b)
 |[]=>trivial
 |x::l=>⟨h x,jK h l⟩
theorem qN{A:Nat->Prop}{c:Operand->V}{b:Operand->Value}(h:∀x,aT w A ρ (c x) (b x)):∀l:List (Nat×Operand),
 F2 (λ(p:Nat×V)(q:Nat×Value)=>p.1=q.1/\aT w A ρ p.2 q.2) (l.map λp=>(p.1,c p.2)) (l.map λp=>(p.1,b p.2))
 |[]=>trivial
 |x::l=>⟨⟨rfl,h x.2⟩,qN h l⟩
theorem qO{A:Nat->Prop}{c:Operand->V}{b:Operand->Value}(h:∀x,aT w A ρ (c x) (b x))(x:Option Operand):mG w A ρ (x.map c) (x.map b):=by
 cases x with
 |none=>trivial
 |some x=>exact h x
def OW(P:Program)(F:Nat->Prop)(ρ:Nat->Pl)(w:World)(h:Nat->Option Ch)(N W:Nat)(o:Oper)(a:Act)(t:Tr (V×dN)):Prop:=
 ∀(K:Act->World->Prop)(Q:Exit->Act->World->Prop),(t.sat λq=>∀v b,bM F ρ w h N W q.1 q.2 v b->K (a.put o.dst v) b)->o.wp P a w K Q
theorem OW.of{s:Sem Value}{t:Tr (V×dN)}(b:execOp a.eval o=(do pure (.value (<-s))))(c:dl P F ρ w h N W s t):OW P F ρ w h N W o a t:=by
 intro K Q e;obtain⟨r,f,q,g,i,j⟩:=c _ e;unfold Oper.wp;rw[b,bF,g];exact i r f j
theorem OW.ofU{s:Sem Unit}{x:Option (V×dN)}(b:execOp a.eval o=(do s;pure .skip))(c:∀q,x=some q->∃w',s.run P w= .ok () w'/\bM F ρ w h N W q.1 q.2 undef w'):OW P F ρ w h N W o a (Tr.ofOpt x):=by
 intro K Q e;obtain⟨q,rfl,f⟩:=BQ e;obtain⟨w',g,i⟩:=c q rfl;unfold Oper.wp;rw[b,bF,g];exact f _ w' i
theorem OW.stuck:OW P F ρ w h N W o a .stuck:=λ_ _ h=>h.elim
theorem Ac{t:TypeId}{name:String}{q:FuncId×Bool}(h:B1 P t name=some q):∃i m,P.info? t=some i/\i.methods.find? (·.name==name)=some m/\m.path.toList=[]/\m.func=some q:=by
 unfold B1 at h;split at h
 case h_2=>simp at h
 rename_i i b;split at h
 case h_2=>simp at h
 rename_i m c;split at h
 case isFalse=>simp at h
 rename_i e;exact⟨i,m,b,c,by simpa using e,h⟩
theorem uG{n:Nat}{t:TypeId}{name:String}{f:FuncId}{b:Bool}{p:Addr}(h:B1 P t name=some (f,b))(c:b=true\/oq P t=true):
 (nilAhead (n+1) t (.pointer (some p)) name).run P w= .ok (some false) w:=by
 obtain⟨i,m,g,j,l,q⟩:=Ac h;have r:(typeInfo t).run P w= .ok i w:=by simp[typeInfo,g]
 simp only[nilAhead,bF,r,aX,j,l,followBlind,bA,q];cases b with
 |true=>simp only[bA]
 |false=>
  rcases c with c|c
  ·simp at c
  unfold oq at c;split at c
  case h_2=>simp at c
  rename_i e s;simp only[bF,run_underlying s,aX,bA]
theorem yC{x:Operand}{m:Operand->V}(g:o.op= .nilCheck x)(hh:dq F ρ w h)(j:aT w (Av F ρ h) ρ (m x) (a.eval x)):OW P F ρ w h N W o a (IQ P (m x)):=by
 have fin:∀(v:V),v=m x->(execOp a.eval o).run P w= .ok (.value (a.eval x)) w->OW P F ρ w h N W o a (.leaf (v,[])):=by
  intro v s u K Q y;subst s;unfold Oper.wp;rw[u];exact y _ w (bM.pure hh j)
 unfold IQ;split
 ·rename_i i;obtain⟨_,⟨b,_,rfl⟩,e⟩:=aN i j;simp at e;exact fin _ rfl (by simp only[execOp,g,e,bA])
 ·rename_i i;obtain⟨b,n,c,_,_,e⟩:=aN i j;simp at e;exact fin _ rfl (by simp only[execOp,g,e,bA])
 ·rename_i i;obtain⟨b,l,z,e,_⟩:=aN i j;simp at e;exact fin _ rfl (by simp only[execOp,g,e,bA])
 ·rename_i i;obtain⟨D,z,e,_⟩:=aN i j;simp at e;exact fin _ rfl (by simp only[execOp,g,e,bA])
 ·rename_i i;obtain⟨v,_,e⟩:=aN i j;simp at e;exact fin _ rfl (by simp only[execOp,g,e,bA])
 ·rename_i name t k l i;split
  case h_2=>exact OW.stuck
  rename_i f b A;split
  case isFalse=>exact OW.stuck
  rename_i B;obtain⟨_,⟨bl,_,rfl⟩,e⟩:=aN i j;simp at e;refine fin _ rfl ?_;have q:(Go.program).run P w= .ok P w:=rfl;have C:P.types.size+Made.depth=(P.types.size+(Made.depth-1))+1:=rfl;have r:=uG (w:=w) (n:=P.types.size+(Made.depth-1)) (p:=⟨bl,l,none⟩) A B;rw[<-C]at r;simp[execOp,g,e,q,r]
 ·exact OW.stuck
theorem pC{f:Fn}{first cap:List V}{b vc:Array Value}(hh:dq F ρ w h)(c:F2 (aT w (Av F ρ h) ρ) first b.toList)(e:F2 (aT w (Av F ρ h) ρ) cap vc.toList):
 dl P F ρ w h N W (Instr.makeFunc f b vc) (lE f first cap):=by
 unfold lE;split
 ·rename_i g;split
  case h_2=>exact .stuck
  rename_i l m j n;exact .pure hh rfl (aJ.2 ⟨b.toList,vc.toList,by simp,uE j c,uE n e⟩)
 ·rename_i name;split
  case h_2=>exact .stuck
  rename_i x;split
  case h_2=>exact .stuck
  rename_i t k p q;obtain⟨b⟩:=b;obtain⟨vc⟩:=vc
  match b,vc,c,e with
  |[v],[],⟨r,_⟩,_=>
   obtain⟨u,s,i⟩:=aN q r;simp at i;subst i;exact .pure hh rfl (aJ.2 ⟨u,s,rfl⟩)
 ·exact .stuck
theorem pj{A:Nat->Prop}{f:BinOp}{t:TypeId}{ex ey:Operand}{a b:I}{k m:Bool}{v u:Value}(h:tr P f t a b=some (k,m))(r:bj w A ρ a [v])(p:bj w A ρ b [u]):
 ∃z,(do eqGuard f t ex ey v u;binOp f t v u:Sem Value).run P w= .ok (.bool (qK f z)) w/\(z=true->m=true)/\(k=true->z=true):=by
 have sl:∀{e:TypeId}{j:Option Addr}{n c:Nat},pS P t=some e->tr.isEq f=true->(do eqGuard f t ex ey (.slice j n c) (.slice none 0 0);binOp f t (.slice j n c) (.slice none 0 0):Sem Value).run P w= .ok (.bool (qK f j.isNone)) w:=by
  intro e j n c g i;rw[eqGuard_at_slice];cases f<;>simp[tr.isEq]at i
  ·simp[binOp,run_equal_slice_nil w t e j n c (cP g),qK]
  ·simp[binOp,run_equal_slice_nil w t e j n c (cP g),qK]
 have data:∀{e:TypeId}{α:Type}{R:α->List Value->Prop}{l:List α},pS P t=some e->tr.isEq f=true->lW w A R l v->u= .slice none 0 0->
  ∃z,(do eqGuard f t ex ey v u;binOp f t v u:Sem Value).run P w= .ok (.bool (qK f z)) w/\(z=true->l.isEmpty=true):=by
  intro e α R l g i B C;subst C;rcases B with⟨D,E,cap,H,rfl,_⟩|⟨rfl,j,rfl⟩
  ·exact⟨_,sl g i,by simp⟩
  ·exact⟨_,sl g i,λ_=>rfl⟩
 unfold tr at h;split at h
 ·rename_i e l g;split at h<;>simp at h;rename_i i;obtain⟨rfl,rfl⟩:=h;obtain⟨G,q,s⟩:=r;simp at q;subst q;simp[bj]at p;obtain⟨z,x,y⟩:=data g i s p;exact⟨z,x,y,by simp⟩
 ·rename_i e _ l g;split at h<;>simp at h;rename_i i;obtain⟨rfl,rfl⟩:=h;obtain⟨G,q,s,_⟩:=r;simp at q;subst q;simp[bj]at p;obtain⟨z,x,y⟩:=data g i s p;exact⟨z,x,y,by simp⟩
 ·rename_i e g;split at h<;>simp at h;rename_i i;obtain⟨rfl,rfl⟩:=h;simp[bj]at r p;subst r p;exact⟨_,sl g i,by simp,by simp⟩
 ·simp at h
theorem uH(hh:dq F ρ w h){f:BinOp}{t:TypeId}{ex ey:Operand}{x y:V}{v u:Value}(C:aT w (Av F ρ h) ρ x v)(D:aT w (Av F ρ h) ρ y u):
 dl P F ρ w h N W (do eqGuard f t ex ey v u;binOp f t v u) (qL P f t x y):=by
 unfold qL;split
 ·rename_i p q;have n:=aJ.1 C;have A:=aJ.1 D;split
  ·rename_i r s H J;split
   case h_2=>exact .stuck
   rename_i z b;refine .needs λg=>?_;have K:=mF H n;have L:=mF J A;subst K;subst L;obtain⟨c,i,j⟩:=v4 (w:=w) (ρ:=ρ) (ex:=ex) (ey:=ey) b g (Av F ρ h);exact .pure hh i j
  ·split
   ·rename_i g;obtain⟨z,B,_,M⟩:=pj (ex:=ex) (ey:=ey) g n A;obtain rfl:=M rfl;exact .pure hh B (aJ.2 rfl)
   ·rename_i m g;obtain⟨z,B,O,_⟩:=pj (ex:=ex) (ey:=ey) g n A;intro R Q;exact⟨_,w,_,B,Q z O,bM.pure hh (aJ.2 rfl)⟩
   refine .ofOpt λz b=>?_;cases e:pb P f t p q with
   |none=>simp[e]at b
   |some r=>
    simp[e]at b;subst b;obtain⟨c,i,j⟩:=v6 (w:=w) (ex:=ex) (ey:=ey) e n A;exact⟨c,w,i,bM.pure hh j⟩
 ·rename_i l m;refine .ofOpt λz b=>?_;cases e:ux P f t l m with
  |none=>simp[e]at b
  |some r=>
   simp[e]at b;subst b;obtain⟨X,S,E⟩:=C;obtain⟨Y,U,G⟩:=D;simp at E G;subst E;subst G;obtain⟨c,i,j⟩:=uy (w:=w) (ex:=ex) (ey:=ey) e S U;exact⟨c,w,i,bM.pure hh j⟩
 ·exact .stuck
theorem wn{y:Operand->V}(hh:dq F ρ w h)(v:∀k b,get k=some b->h k=some b)(j:∀x,aT w (Av F ρ h) ρ (y x) (a.eval x))(A:ρ N= .un)(B:0<W):
 OW P F ρ w h N W o a (kS P o y get N):=by
 unfold kS;split
 case h_1 x g=>
  intro K Q E;unfold Oper.wp;simp only[execOp,g,bA];exact E _ _ (pi hh A B (j x))
 case h_2 x g=>
  intro K Q E;unfold Oper.wp;simp only[execOp,g,bA];exact E _ _ (pi hh A B (j x))
 case h_3 c x z g=>
  split
  case h_3=>exact OW.stuck
  ·rename_i t E;have G:=aN E (j c);simp[bj,Sc.val]at G;intro K Q J;unfold Oper.wp;simp only[execOp,g,G,asBool,bF,bA,aX];refine J _ _ (bM.pure hh ?_);cases t
   ·exact j z
   ·exact j x
  ·rename_i t E;have G:=aN E (j c);simp[bj,Rd]at G;intro K Q J;unfold Oper.wp;simp only[execOp,g,G,asBool,bF,bA,aX];cases t
   ·exact J.2 rfl _ _ (bM.pure hh (j z))
   ·exact J.1 rfl _ _ (bM.pure hh (j x))
 case h_4 t g=>exact .of (by simp only[execOp,g]) (ui hh A B)
 case h_5 t x g=>exact .of (s:=Instr.box t (a.eval x)) (by simp only[execOp,g]) (yo hh A B (j x))
 case h_6 t parts g=>
  have:=uw (N:=N) (W:=W) (P:=P) (t:=t) hh (qN j parts.toList);refine .of (s:=Instr.build t (parts.map λ(i,x)=>(i,a.eval x))) (by simp only[execOp,g]) ?_;have e:parts.map (λ(i,x)=>(i,a.eval x))=(parts.toList.map λp=>(p.1,a.eval p.2)).toArray:=by apply Array.ext';simp
  rw[e];exact this
 case h_7 t len parts g=>
  have:=mP (N:=N) (W:=W) (P:=P) (t:=t) (len:=len) hh v A B (qN j parts.toList);refine .of (s:=Instr.buildSlice t len (parts.map λ(i,x)=>(i,a.eval x))) (by simp only[execOp,g]) ?_;have e:parts.map (λ(i,x)=>(i,a.eval x))=(parts.toList.map λp=>(p.1,a.eval p.2)).toArray:=by apply Array.ext';simp
  rw[e];exact this
 case h_8 t x g=>exact .of (by simp only[execOp,g]) (vZ hh v (j x))
 case h_9 t x z g=>exact .ofU (by simp only[execOp,g]) λq M=>sx hh v (j x) (j z) M
 case h_10 x g=>exact yC g hh (j x)
 case h_11 O t x z _ g=>exact .of (s:=do eqGuard O t x z (a.eval x) (a.eval z);binOp O t (a.eval x) (a.eval z)) (by simp only[execOp,g]) (uH hh (j x) (j z))
 case h_12 O t x g=>exact .of (by simp only[execOp,g]) (BX hh (j x))
 case h_13 X Y x g=>exact .of (by simp only[execOp,g]) (qC hh v (j x))
 case h_14 t x g=>exact .of (by simp only[execOp,g]) (oy hh (j x))
 case h_15 f first cap g=>exact .of (s:=Instr.makeFunc f (first.map a.eval) (cap.map a.eval)) (by simp only[execOp,g]) (pC hh (by simpa using jK j first.toList) (by simpa using jK j cap.toList))
 case h_16 t g=>exact .of (by simp only[execOp,g,Option.map_none]) (qI hh A B)
 case h_17 t l c g=>exact .of (by simp only[execOp,g]) (wb hh A B (j l) (j c))
 case h_18 t x lo hi mx g=>exact .of (by simp only[execOp,g]) (uu hh v A B (j x) (qO j lo) (qO j hi) (qO j mx))
 case h_19 t x f g=>exact .of (by simp only[execOp,g]) (om hh (j x))
 case h_20 t x f g=>exact .of (by simp only[execOp,g]) (ul hh (j x))
 case h_21 t x i g=>exact .of (by simp only[execOp,g]) (ol hh v (j x) (j i))
 case h_22 t x i g=>exact .of (by simp only[execOp,g]) (um hh (j x) (j i))
 case h_23 t x i ok g=>exact .of (by simp only[execOp,g]) (sw hh v (j x) (j i))
 case h_24 t m k x g=>exact .ofU (by simp only[execOp,g]) λq M=>jm hh v (j m) (j k) (j x) M
 case h_25 t m k x g=>exact .ofU (by simp only[execOp,g]) λq M=>jm hh v (j m) (j k) (j x) M
 case h_26 t x g=>exact .of (by simp only[execOp,g]) (uB hh v A B (j x))
 case h_27 x H g=>exact .of (s:=Instr.next (a.eval x) H o.type) (by simp only[execOp,g]) (wk hh v (j x))
 case h_28 x g=>exact .of (by simp only[execOp,g]) (uD hh v (j x))
 case h_29 x i g=>exact .of (by simp only[execOp,g]) (qt hh (j x))
 case h_30 c g=>
  obtain⟨callee,args,R⟩:=c;simp only;split
  case h_2=>exact OW.stuck
  rename_i b;obtain⟨args⟩:=args;obtain⟨R⟩:=R
  have L:∀(S:Builtin)(s:Sem Value)(t:Tr (V×dN)),b=S->(∀C,builtin S R.toArray o.type C (args.map a.eval).toArray=do pure (.value (<-s)))->dl P F ρ w h N W s t->OW P F ρ w h N W o a t:=by
   intro S s t G J hr;subst G;refine .of (s:=s) ?_ hr;simp only[execOp,g,resolve,invoke,pure_bind,List.map_toArray];exact J _
  simp only[qM];split
  ·rename_i t x n
   have D:∃r,args=[r]/\y r=x:=by
    match args,n with
    |[r],e=>simp at e;exact⟨r,rfl,e⟩
   obtain⟨r,rfl,rfl⟩:=D;exact L .len _ _ rfl (λ_=>rfl) (yr hh v (j r))
  ·rename_i x z n
   have D:∃r u,args=[r,u]/\y r=x/\y u=z:=by
    match args,n with
    |[r,u],e=>simp at e;exact⟨r,u,rfl,e.1,e.2⟩
   obtain⟨r,u,rfl,rfl,rfl⟩:=D;exact L .max _ _ rfl (λ_=>rfl) (ys hh (j r) (j u))
  ·rename_i x z n
   have D:∃r u,args=[r,u]/\y r=x/\y u=z:=by
    match args,n with
    |[r,u],e=>simp at e;exact⟨r,u,rfl,e.1,e.2⟩
   obtain⟨r,u,rfl,rfl,rfl⟩:=D;exact L .min _ _ rfl (λ_=>rfl) (yt hh (j r) (j u))
  ·rename_i t t' x z n
   have D:∃r u,args=[r,u]/\y r=x/\y u=z:=by
    match args,n with
    |[r,u],e=>simp at e;exact⟨r,u,rfl,e.1,e.2⟩
   obtain⟨r,u,rfl,rfl,rfl⟩:=D;split
   case isFalse=>exact L .append _ _ rfl (λ_=>rfl) (qz hh v A B (j r) (j u))
   rename_i U;subst U;exact L .append _ _ rfl (λ_=>rfl) (sp hh v A B (j r) (j u))
  ·rename_i t t' x z n
   have D:∃r u,args=[r,u]/\y r=x/\y u=z:=by
    match args,n with
    |[r,u],e=>simp at e;exact⟨r,u,rfl,e.1,e.2⟩
   obtain⟨r,u,rfl,rfl,rfl⟩:=D;exact L .copy _ _ rfl (λ_=>rfl) (v7 hh v (j r) (j u))
  ·exact OW.stuck
 case h_31=>exact OW.stuck
end
end
inductive IP where
 |d (t:Ty)
 |pv (t:Ty)
 |cut (e:Ty)
 |k (s:Sc)
 |ptr (j off:Nat)
 |own (j:Nat)
 |mp (j:Nat)
 |ifc (t:TypeId) (j off:Nat)
 |fn (f:FuncId) (first cap:List (Nat×Nat))
 |nils
 |nilp
 |nilm
 |nili
 |nilf
@[reducible]def IP.val:IP->Type
  | .d t=>t.den
  | .pv t=>t.den
  | .cut e=>List e.den
  |_=>Unit
@[reducible]def IP.denK:IP->Type->Type
  | .d t,R=>t.den×R
  | .pv t,R=>t.den×R
  | .cut e,R=>List e.den×R
  |_,R=>R
def IP.put{R:Type}:(p:IP)->p.val->R->p.denK R
 | .d _,v,x=>(v,x)
 | .pv _,v,x=>(v,x)
 | .cut _,v,x=>(v,x)
 | .k _,_,x=>x
 | .ptr ..,_,x=>x
 | .own _,_,x=>x
 | .mp _,_,x=>x
 | .ifc ..,_,x=>x
 | .fn ..,_,x=>x
 | .nils,_,x=>x
 | .nilp,_,x=>x
 | .nilm,_,x=>x
 | .nili,_,x=>x
 | .nilf,_,x=>x
def IP.get{R:Type}:(p:IP)->p.denK R->p.val×R
 | .d _,x=>x
 | .pv _,x=>x
 | .cut _,x=>x
 | .k _,x=>((),x)
 | .ptr ..,x=>((),x)
 | .own _,x=>((),x)
 | .mp _,x=>((),x)
 | .ifc ..,x=>((),x)
 | .fn ..,x=>((),x)
 | .nils,x=>((),x)
 | .nilp,x=>((),x)
 | .nilm,x=>((),x)
 | .nili,x=>((),x)
 | .nilf,x=>((),x)
theorem IP.get_put{R:Type}{p:IP}{v:p.val}{x:R}:p.get (p.put v x)=(v,x):=by cases p<;>rfl
def DT(r:Nat->Nat)(l:List (Nat×Nat)):List (Nat×Nat):=l.map λp=>(r p.1,p.2)
def IP.inst(r:Nat->Nat):(p:IP)->p.val->List I
 | .d t,v=>iY t v
 | .pv t,v=>[.pv t v]
 | .cut e,v=>[.cut e v]
 | .k s,_=>[.k s]
 | .ptr j c,_=>[.ptr (r j) c]
 | .own j,_=>[.own (r j)]
 | .mp j,_=>[.mp (r j)]
 | .ifc t j c,_=>[.ifc t (r j) c]
 | .fn f a b,_=>[.fn f (DT r a) (DT r b)]
 | .nils,_=>[.nils]
 | .nilp,_=>[.nilp]
 | .nilm,_=>[.nilm]
 | .nili,_=>[.nili]
 | .nilf,_=>[.nilf]
@[reducible]def LP.val:List IP->Type
  |[]=>Unit
  |p::l=>p.val×LP.val l
@[reducible]def LP.denK:List IP->Type->Type
  |[],R=>R
  |p::l,R=>p.denK (LP.denK l R)
def LP.put{R:Type}:(l:List IP)->LP.val l->R->LP.denK l R
 |[],_,x=>x
 |p::l,v,x=>p.put v.1 (LP.put l v.2 x)
def LP.get{R:Type}:(l:List IP)->LP.denK l R->LP.val l×R
 |[],x=>((),x)
 |p::l,x=>let q:=p.get x;let s:=LP.get l q.2;((q.1,s.1),s.2)
theorem LP.get_put{R:Type}:∀{l:List IP}{v:LP.val l}{x:R},LP.get l (LP.put l v x)=(v,x)
 |[],_,_=>rfl
 |p::l,v,x=>by simp only[LP.get,LP.put,IP.get_put,LP.get_put (l:=l)]
def LP.inst(r:Nat->Nat):(l:List IP)->LP.val l->List I
 |[],_=>[]
 |p::l,v=>p.inst r v.1++LP.inst r l v.2
inductive CP where
 |cells (l:List IP)
 |sl (e:Ty)
 |mp (kt vt:Ty)
 |lk (kt vt:Ty)
 |sit
 |mit (m:Nat) (kt vt:Ty)
 |nit
 |fit (kt vt:Ty)
@[reducible]def CP.val:CP->Type
  | .cells l=>LP.val l
  | .sl e=>List e.den
  | .mp a b=>List (a.den×b.den)
  | .lk a b=>List (a.den×b.den)
  | .sit=>List (BitVec 8)×Nat
  | .mit _ a b=>List (a.den×b.den)×Option (a.den×b.den)
  | .nit=>Unit
  | .fit a b=>List (a.den×b.den)×Option (a.den×b.den)
@[reducible]def CP.denK:CP->Type->Type
  | .cells l,R=>LP.denK l R
  | .sl e,R=>List e.den×R
  | .mp a b,R=>List (a.den×b.den)×R
  | .lk a b,R=>List (a.den×b.den)×R
  | .sit,R=>List (BitVec 8)×Nat×R
  | .mit _ a b,R=>List (a.den×b.den)×Option (a.den×b.den)×R
  | .nit,R=>R
  | .fit a b,R=>List (a.den×b.den)×Option (a.den×b.den)×R
def CP.put{R:Type}:(c:CP)->c.val->R->c.denK R
 | .cells l,v,x=>LP.put l v x
 | .sl _,v,x=>(v,x)
 | .mp ..,v,x=>(v,x)
 | .lk ..,v,x=>(v,x)
 | .sit,v,x=>(v.1,v.2,x)
 | .mit ..,v,x=>(v.1,v.2,x)
 | .nit,_,x=>x
 | .fit ..,v,x=>(v.1,v.2,x)
def CP.get{R:Type}:(c:CP)->c.denK R->c.val×R
 | .cells l,x=>LP.get l x
 | .sl _,x=>x
 | .mp ..,x=>x
 | .lk ..,x=>x
 | .sit,x=>((x.1,x.2.1),x.2.2)
 | .mit ..,x=>((x.1,x.2.1),x.2.2)
 | .nit,x=>((),x)
 | .fit ..,x=>((x.1,x.2.1),x.2.2)
theorem CP.get_put{R:Type}{c:CP}{v:c.val}{x:R}:c.get (c.put v x)=(v,x):=by
 cases c
 case cells l=>exact LP.get_put
 all_goals rfl
def CP.inst(r:Nat->Nat):(c:CP)->c.val->Ch
 | .cells l,v=> .cells (LP.inst r l v)
 | .sl e,v=> .sl e v
 | .mp a b,v=> .mp a b v
 | .lk a b,v=> .lk a b v
 | .sit,v=> .sit v.1 v.2
 | .mit m a b,v=> .mit (r m) a b v.1 v.2
 | .nit,_=> .nit
 | .fit a b,v=> .fit a b v.1 v.2
@[reducible]def HP.val:List (Option CP)->Type
  |[]=>Unit
  |some c::l=>c.val×HP.val l
  |none::l=>HP.val l
@[reducible]def HP.denK:List (Option CP)->Type->Type
  |[],R=>R
  |some c::l,R=>c.denK (HP.denK l R)
  |none::l,R=>HP.denK l R
def HP.put{R:Type}:(l:List (Option CP))->HP.val l->R->HP.denK l R
 |[],_,x=>x
 |some c::l,v,x=>c.put v.1 (HP.put l v.2 x)
 |none::l,v,x=>HP.put l v x
def HP.get{R:Type}:(l:List (Option CP))->HP.denK l R->HP.val l×R
 |[],x=>((),x)
 |some c::l,x=>let q:=c.get x;let s:=HP.get l q.2;((q.1,s.1),s.2)
 |none::l,x=>HP.get l x
theorem HP.get_put{R:Type}:∀{l:List (Option CP)}{v:HP.val l}{x:R},HP.get l (HP.put l v x)=(v,x)
 |[],_,_=>rfl
 |some c::l,v,x=>by simp only[HP.get,HP.put,CP.get_put,HP.get_put (l:=l)]
 |none::l,v,x=>by simp only[HP.get,HP.put,HP.get_put (l:=l)]
abbrev fu:=List (Nat×Ch)
def HP.inst(r:Nat->Nat):Nat->(l:List (Option CP))->HP.val l->fu
 |_,[],_=>[]
 |n,some c::l,v=>(r n,c.inst r v.1)::HP.inst r (n+1) l v.2
 |n,none::l,v=>HP.inst r (n+1) l v
abbrev kT:=List (Nat×Bool×List IP)
@[reducible]def SP.val:kT->Type
  |[]=>Unit
  |p::l=>LP.val p.2.2×SP.val l
@[reducible]def SP.denK:kT->Type->Type
  |[],R=>R
  |p::l,R=>LP.denK p.2.2 (SP.denK l R)
def SP.put{R:Type}:(l:kT)->SP.val l->R->SP.denK l R
 |[],_,x=>x
 |p::l,v,x=>LP.put p.2.2 v.1 (SP.put l v.2 x)
def SP.get{R:Type}:(l:kT)->SP.denK l R->SP.val l×R
 |[],x=>((),x)
 |p::l,x=>let q:=LP.get p.2.2 x;let s:=SP.get l q.2;((q.1,s.1),s.2)
theorem SP.get_put{R:Type}:∀{l:kT}{v:SP.val l}{x:R},SP.get l (SP.put l v x)=(v,x)
 |[],_,_=>rfl
 |p::l,v,x=>by simp only[SP.get,SP.put,LP.get_put,SP.get_put (l:=l)]
def SP.inst(r:Nat->Nat):(l:kT)->SP.val l->List V->List V
 |[],_,s=>s
 |p::l,v,s=>SP.inst r l v.2 (s.set p.1 (.val p.2.1 (LP.inst r p.2.2 v.1)))
structure cg where
 sl:kT
 hp:List (Option CP)
@[reducible]def cg.val(p:cg):Type:=SP.val p.sl×HP.val p.hp
@[reducible]def cg.den(p:cg):Type:=SP.denK p.sl (HP.denK p.hp Unit)
def cg.put(p:cg)(v:p.val):p.den:=SP.put p.sl v.1 (HP.put p.hp v.2 ())
def cg.get(p:cg)(x:p.den):p.val:=let q:=SP.get p.sl x;(q.1,(HP.get p.hp q.2).1)
theorem cg.get_put{p:cg}{v:p.val}:p.get (p.put v)=v:=by simp only[cg.get,cg.put,SP.get_put,HP.get_put]
structure Mt where
 th:List (Nat×Option Nat)
 fz:List Nat
def aV{β:Type}:List (Nat×β)->Nat->Option β
 |[],_=>none
 |p::r,j=>if p.1=j then some p.2 else aV r j
def Mt.bind(m:Mt)(j:Nat)(k:Option Nat):Option Mt:=
 match aV m.th j with
 |some a=>if a=k then some m else none
 |none=>if k.isSome&&m.th.any (λp=>p.2==k)then none else some ⟨(j,k)::m.th,m.fz⟩
def Mt.binds(m:Mt):List (Nat×Nat)->List (Nat×Nat)->Option Mt
 |[],[]=>some m
 |p::l,q::r=>if p.2=q.2 then match m.bind p.1 (some q.1)with
   |some a=>Mt.binds a l r
   |none=>none
  else none
 |_,_=>none
def I.asG(c:Nat->Option Ch)(t:Ty):I->Option (t.den×List Nat)
 | .own q=>match c q,t with
   |some (.sl e l), .sl f=>match Ty.cast (.sl e) (.sl f) l with
    |some x=>some (x,[q])
    |none=>none
   |some (.fr e l), .sl f=>match Ty.cast (.sl e) (.sl f) l with
    |some x=>some (x,[])
    |none=>none
   |_,_=>none
 | .mp q=>match c q,t with
   |some (.mp a b l), .fm g h=>match Ty.cast (.fm a b) (.fm g h) l with
    |some x=>some (x,[q])
    |none=>none
   |some (.fm a b l), .fm g h=>match Ty.cast (.fm a b) (.fm g h) l with
    |some x=>some (x,[])
    |none=>none
   |_,_=>none
 |i=>match i.asD t with
  |some x=>some (x,[])
  |none=>none
def wo{α:Type}(x:Option (α×List Nat))(l:List I):Option (α×List I×List Nat):=match x with
 |some y=>some (y.1,l,y.2)
 |none=>none
def wr{α:Type}(f:List I->Option (α×List I×List Nat)):Nat->List I->Option (List α×List I×List Nat)
 |0,l=>some ([],l,[])
 |n+1,l=>match f l with
  |some (x,b,z)=>match wr f n b with
   |some (y,a,c)=>some (x::y,a,z++c)
   |none=>none
  |none=>none
def Vz:List I->Bool
 | .d (.ar ..) _::_=>true
 |_=>false
def jn(b:Nat->Option Ch):(t:Ty)->List I->Option (t.den×List I×List Nat)
 | .un,l=>some ((),l,[])
 | .pr a r,l=>match jn b a l with
   |some (x,f,z)=>match jn b r f with
    |some (y,c,g)=>some ((x,y),c,z++g)
    |none=>none
   |none=>none
 | .ar n e,l=>if Vz l then(match l with
  |i::l=>wo (i.asG b (.ar n e)) l
  |[]=>none)else wr (jn b e) n l
 | .pf t,i::l=>match i with
   | .ptr k 0=>match b k with
     |some (.cells m)=>match jn b t m with
      |some (x,[],z)=>some (x,l,k::z)
      |_=>none
     |some (.fc m)=>match jn b t m with
      |some (x,[],z)=>some (x,l,z)
      |_=>none
     |_=>none
   |i=>wo (i.asG b (.pf t)) l
 |t,i::l=>wo (i.asG b t) l
 |_,[]=>none
deriving instance DecidableEq for Sc
def IP.mt(i:Nat->Option Ch):(p:IP)->List I->Mt->Option (p.val×List I×Mt)
 | .d t,l,m=>match jn i t l with
   |some (x,r,z)=>some (x,r,⟨m.th,z++m.fz⟩)
   |none=>none
 | .pv t, .pv n x::l,m=>match Ty.cast n t x with
   |some y=>some (y,l,m)
   |none=>none
 | .cut e, .cut u x::l,m=>match Ty.cast (.sl u) (.sl e) x with
   |some y=>some (y,l,m)
   |none=>none
 | .k s, .k v::l,m=>if s=v then some ((),l,m)else none
 | .ptr j h, .ptr q c::l,m=>if h=c then(m.bind j (some q)).map λg=>((),l,g)else none
 | .own j, .own q::l,m=>(m.bind j (some q)).map λg=>((),l,g)
 | .own j, .nils::l,m=>(m.bind j none).map λg=>((),l,g)
 | .mp j, .mp q::l,m=>(m.bind j (some q)).map λg=>((),l,g)
 | .ifc t j h, .ifc n q c::l,m=>if t=n/\h=c then(m.bind j (some q)).map λg=>((),l,g)else none
 | .fn f a b, .fn w A B::l,m=>if f=w then match m.binds a A with
  |some g=>(g.binds b B).map λo=>((),l,o)
  |none=>none
   else none
 | .nils, .nils::l,m=>some ((),l,m)
 | .nilp, .nilp::l,m=>some ((),l,m)
 | .nilm, .nilm::l,m=>some ((),l,m)
 | .nili, .nili::l,m=>some ((),l,m)
 | .nilf, .nilf::l,m=>some ((),l,m)
 |_,_,_=>none
def LP.mt(a:Nat->Option Ch):(l:List IP)->List I->Mt->Option (LP.val l×Mt)
 |[],[],m=>some ((),m)
 |[],_::_,_=>none
 |p::l,c,m=>match p.mt a c m with
  |some (v,r,e)=>match LP.mt a l r e with
   |some (f,b)=>some ((v,f),b)
   |none=>none
  |none=>none
def SP.mt(a:Nat->Option Ch)(slots:List V):(l:kT)->Mt->Option (SP.val l×Mt)
 |[],m=>some ((),m)
 |p::l,m=>match slots[p.1]? with
  |some (.val g c)=>if g=p.2.1 then match LP.mt a p.2.2 c m with
   |some (v,e)=>match SP.mt a slots l e with
    |some (f,b)=>some ((v,f),b)
    |none=>none
   |none=>none
   else none
  |_=>none
def iZ(kt c a b:Ty)(l:List (kt.den×c.den)):Option (List (a.den×b.den)):=match Ty.deq kt a,Ty.deq c b with
 |some h,some g=>some (h.down▸g.down▸l)
 |_,_=>none
def CP.mt(n:Nat->Option Ch):(c:CP)->Option Ch->Mt->Option (c.val×Mt)
 | .cells l,some (.cells p),m=>LP.mt n l p m
 | .sl e,some (.sl q l),m=>(Ty.cast (.sl q) (.sl e) l).map (·,m)
 | .mp h i,some (.mp a b l),m=>(iZ a b h i l).map (·,m)
 | .lk h i,some (.lk a b l),m=>(iZ a b h i l).map (·,m)
 | .sit,some (.sit s o),m=>some ((s,o),m)
 | .mit j h i,some (.mit k a b f g),m=>match m.bind j (some k),iZ a b h i f,iZ a b h i g.toList with
   |some t,some r,some l=>some ((r,l.head?),t)
   |_,_,_=>none
 | .nit,some .nit,m=>some ((),m)
 | .fit h i,some (.fit a b f g),m=>match iZ a b h i f,iZ a b h i g.toList with
   |some r,some l=>some ((r,l.head?),m)
   |_,_=>none
 |_,_,_=>none
def CP.mtO(a:Nat->Option Ch):(c:CP)->Option Nat->Mt->Option (c.val×Mt)
 |c,some k,m=>c.mt a (a k) m
 | .sl _,none,m=>some ([],m)
 |_,none,_=>none
def HP.mt(a:Nat->Option Ch):Nat->(l:List (Option CP))->Mt->Option (HP.val l×Mt)
 |_,[],m=>some ((),m)
 |n,none::l,m=>HP.mt a (n+1) l m
 |n,some c::l,m=>match aV m.th n with
  |some k=>match c.mtO a k m with
   |some (v,e)=>match HP.mt a (n+1) l e with
    |some (f,b)=>some ((v,f),b)
    |none=>none
   |none=>none
  |none=>none
section
section
variable{F:Nat->Prop}{ρ:Nat->Pl}{w:World}{h get:Nat->Option Ch}
theorem I.asG_ok(hh:dq F ρ w h)(A:∀k b,get k=some b->h k=some b){t:Ty}{i:I}{x:t.den}{vs:List Value}(f:i.asG get t=some (x,[]))(q:bj w (Av F ρ h) ρ i vs):Rd w (Av F ρ h) t x vs:=by
 cases i
 case own k=>
  cases t<;>cases j:get k<;>simp only[I.asG,j]at f<;>first|(simp at f;done)|skip
  rename_i E r;cases r<;>simp only at f<;>first|(simp at f;done)|skip
  ·split at f<;>simp at f
  ·rename_i e l;split at f
   case h_2=>simp at f
   rename_i y m;simp at f;subst f;obtain⟨o,p⟩:=Ty.cast_ok m;simp at o;subst o;simp at p;subst p;obtain⟨v,g,s⟩:=hh.ok k _ (A k _ j);obtain⟨a,n,c,u,z⟩:=q;rw[u]at g;simp at g;subst g;exact⟨_,z,s⟩
 case mp k=>
  cases t<;>cases j:get k<;>simp only[I.asG,j]at f<;>first|(simp at f;done)|skip
  rename_i G H r;cases r<;>simp only at f<;>first|(simp at f;done)|skip
  ·split at f<;>simp at f
  ·rename_i a b l;split at f
   case h_2=>simp at f
   rename_i y m;simp at f;subst f;obtain⟨o,p⟩:=Ty.cast_ok m;simp at o;obtain⟨rfl,rfl⟩:=o;simp at p;subst p;obtain⟨bl,g,s,u,z⟩:=hh.ok k _ (A k _ j);obtain⟨B,C,D⟩:=q;rw[C]at g;simp at g;subst g;exact⟨_,D,s,u,z⟩
 all_goals
  simp only[I.asG]at f;split at f
  case h_2=>simp at f
  rename_i y m;simp at f;subst f;exact I.asD_ok m q
theorem ws{α:Type}{A:Nat->Prop}{f:List I->Option (α×List I×List Nat)}{S:α->List Value->Prop}
 (i:∀l x r vs,f l=some (x,r,[])->aL w A ρ l vs->∃a b,vs=a++b/\S x a/\aL w A ρ r b):
 ∀(n:Nat)(l:List I)(x:List α)(r:List I)(vs:List Value),wr f n l=some (x,r,[])->aL w A ρ l vs->∃a b,vs=a++b/\(x.length=n/\dz S x a)/\aL w A ρ r b
 |0,l,x,r,vs,h,c=>by simp[wr]at h;obtain⟨rfl,rfl⟩:=h;exact⟨[],vs,rfl,⟨rfl,rfl⟩,c⟩
 |n+1,l,x,r,vs,h,c=>by
  simp only[wr]at h;split at h
  case h_2=>simp at h
  rename_i y C z m;split at h
  case h_2=>simp at h
  rename_i D o E g;simp at h;obtain⟨rfl,rfl,rfl,rfl⟩:=h;obtain⟨a,b,e,p,q⟩:=i _ _ _ _ m c;obtain⟨j,s,t,⟨u,v⟩,B⟩:=ws i n _ _ _ _ g q;exact⟨a++j,s,by rw[e,t,ay],⟨by simp[u],a,j,rfl,p,v⟩,B⟩
theorem DU(hh:dq F ρ w h)(O:∀k b,get k=some b->h k=some b):∀{t:Ty}{l r:List I}{x:t.den}{vs:List Value},jn get t l=some (x,r,[])->aL w (Av F ρ h) ρ l vs->∃a b,vs=a++b/\Rd w (Av F ρ h) t x a/\aL w (Av F ρ h) ρ r b:=by
 intro t
 have one:∀{t:Ty}{i:I}{l r:List I}{x:t.den}{vs:List Value},wo (i.asG get t) l=some (x,r,[])->aL w (Av F ρ h) ρ (i::l) vs->∃a b,vs=a++b/\Rd w (Av F ρ h) t x a/\aL w (Av F ρ h) ρ r b:=by
  intro t i l r x vs f ⟨a,b,e,B,C⟩;unfold wo at f;split at f
  case h_2=>simp at f
  rename_i y o;obtain⟨y1,y2⟩:=y;simp at f;obtain⟨rfl,rfl,rfl⟩:=f;exact⟨a,b,e,I.asG_ok hh O o B,C⟩
 induction t with
 |un=>intro l r x vs f g;simp[jn]at f;subst f;exact⟨[],vs,rfl,rfl,g⟩
 |pr a q D E=>
  intro l r x vs f g;simp only[jn]at f;split at f
  case h_2=>simp at f
  rename_i y l' z o;split at f
  case h_2=>simp at f
  rename_i y' Q z' G;simp at f;obtain⟨rfl,rfl,rfl,rfl⟩:=f;obtain⟨c,d,H,p,s⟩:=D o g;obtain⟨P,R,v,J,K⟩:=E G s;exact⟨c++P,R,by rw[H,v,ay],⟨c,P,rfl,p,J⟩,K⟩
 |ar n e L=>
  intro l r x vs f g;simp only[jn]at f;split at f
  ·split at f
   ·exact one f g
   ·simp at f
  ·obtain⟨a,b,H,p,s⟩:=ws (λ_ _ _ _ M N=>L M N) n _ _ _ _ f g;exact⟨a,b,H,p,s⟩
 |pf t L=>
  intro l r x vs f g;cases l with
  |nil=>simp[jn]at f
  |cons i l=>
   simp only[jn]at f;split at f
   case h_2=>exact one f g
   rename_i k;split at f
   case h_3=>simp at f
   ·split at f<;>simp at f
   ·rename_i m S;split at f
    case h_2=>simp at f
    rename_i y z o;simp at f;obtain⟨rfl,rfl,rfl⟩:=f;obtain⟨a,b,e,B,C⟩:=g;obtain⟨bl,us,p,s,J,K,U⟩:=hh.ok k _ (O k _ S);obtain⟨c,d,v,M,N⟩:=L o K;have W:d=[]:=N;rw[W,aW]at v;obtain⟨u,⟨X,A,Y⟩,g3⟩:=B;simp only at A;rw[p]at A;simp at A;subst A;exact⟨a,b,e,⟨bl,0,c,by rw[g3,Y],s,J,M,λj w hj=>by rw[bN];exact U j w (by rw[v];exact hj)⟩,C⟩
 |_=>
  intro l r x vs f g;cases l with
  |nil=>simp[jn]at f
  |cons i l=>exact one f g
end
structure kc(m m':Mt):Prop where
 th:∀j k,aV m.th j=some k->aV m'.th j=some k
 fz:m'.fz=[]->m.fz=[]
theorem kc.refl(m:Mt):kc m m:=⟨λ_ _ a=>a,id⟩
theorem kc.trans{a b c:Mt}(h:kc a b)(h':kc b c):kc a c:=⟨λj k q=>h'.th j k (h.th j k q),λq=>h.fz (h'.fz q)⟩
def Mt.Inj(m:Mt):Prop:=∀j a k,aV m.th j=some (some k)->aV m.th a=some (some k)->j=a
theorem ia{β:Type}:∀{l:List (Nat×β)}{j:Nat}{k:β},aV l j=some k->(j,k)∈l
 |[],_,_,h=>by simp[aV]at h
 |p::r,j,k,h=>by
  simp only[aV]at h;split at h
  ·rename_i e;simp at h;subst e;subst h;simp
  ·exact aA _ (ia h)
theorem Mt.bind_ok{m g:Mt}{j:Nat}{k:Option Nat}(h:m.bind j k=some g)(hi:m.Inj):kc m g/\aV g.th j=some k/\g.Inj:=by
 unfold Mt.bind at h;split at h
 ·rename_i t l;split at h<;>simp at h;rename_i e;subst e;subst h;exact⟨kc.refl _,l,hi⟩
 ·rename_i o;split at h<;>simp at h;rename_i p;subst h;refine⟨⟨λi q f=>?_,id⟩,by simp[aV],λi n q b c=>?_⟩
  ·simp only[aV];split
   ·rename_i e;rw[<-e,o]at f;simp at f
   ·exact f
  ·have a:∀i,aV m.th i=some (some q)->k=some q->False:=by
    intro i f l;subst l;apply p;simp only[Option.isSome_some,fp,List.any_eq_true,aR];exact⟨_,ia f,rfl⟩
   simp only[aV]at b c;split at b<;>split at c
   ·rename_i r s;exact r.symm.trans s
   ·simp at b;exact(a n c b).elim
   ·simp at c;exact(a i b c).elim
   ·exact hi i n q b c
theorem Mt.binds_ok:∀{l r:List (Nat×Nat)}{m a:Mt},m.binds l r=some a->m.Inj->kc m a/\a.Inj/\F2 (λp q=>p.2=q.2/\aV a.th p.1=some (some q.1)) l r
 |[],[],m,a,h,b=>by simp[Mt.binds]at h;subst h;exact⟨kc.refl _,b,trivial⟩
 |[],_::_,_,_,h,_=>by simp[Mt.binds]at h
 |_::_,[],_,_,h,_=>by simp[Mt.binds]at h
 |p::l,q::r,m,a,h,b=>by
  simp only[Mt.binds]at h;split at h
  case isFalse=>simp at h
  rename_i e;split at h
  case h_2=>simp at h
  rename_i s f;obtain⟨g,i,j⟩:=Mt.bind_ok f b;obtain⟨c,n,o⟩:=Mt.binds_ok h j;exact⟨g.trans c,n,⟨e,c.th _ _ i⟩,o⟩
def ke(m:Mt)(ρ ρ':Nat->Pl):Prop:=∀j,match aV m.th j with
 |some (some k)=>ρ' j=ρ k
 |some none=>ρ' j= .sv (.slice none 0 0)
 |none=>True
theorem ke.some{m:Mt}{ρ ρ':Nat->Pl}(h:ke m ρ ρ'){j k:Nat}(e:aV m.th j=some (some k)):ρ' j=ρ k:=by have:=h j;rw[e]at this;exact this
theorem ke.none{m:Mt}{ρ ρ':Nat->Pl}(h:ke m ρ ρ'){j:Nat}(e:aV m.th j=Option.some Option.none):ρ' j= .sv (.slice Option.none 0 0):=by have:=h j;rw[e]at this;exact this
def ib(k:Nat):Nat:=k
theorem uI(l:List (Nat×Nat)):DT ib l=l:=by unfold DT;exact List.map_id l
section
variable{F:Nat->Prop}{ρ ρ':Nat->Pl}{w:World}{h get:Nat->Option Ch}{mf:Mt}
theorem mQ(a:ke mf ρ ρ'):∀{l r:List (Nat×Nat)}{vs:List Value},F2 (λp q=>p.2=q.2/\aV mf.th p.1=some (some q.1)) l r->F2 (kH ρ) r vs->F2 (kH ρ') l vs
 |[],[],[],_,_=>trivial
 |p::_,q::_,v::_,⟨⟨c,e⟩,f⟩,⟨⟨b,g,i⟩,j⟩=>⟨⟨b,by rw[a.some e];exact g,by rw[c];exact i⟩,mQ a f j⟩
theorem IP.mt_sub{p:IP}{t r:List I}{m e:Mt}{v:p.val}(c:p.mt get t m=some (v,r,e))(hi:m.Inj):kc m e/\e.Inj:=by
 have i:∀{j:Nat}{k:Option Nat}{l:List I}{e:Mt}{r:List I},((m.bind j k).map λe=>((),l,e))=some ((),r,e)->kc m e/\e.Inj:=by
  intro j k l e r n;cases g:m.bind j k with
  |none=>simp[g]at n
  |some s=>
   simp[g]at n;obtain⟨_,rfl⟩:=n;obtain⟨o,_,u⟩:=Mt.bind_ok g hi;exact⟨o,u⟩
 unfold IP.mt at c;split at c
 ·split at c
  case h_2=>simp at c
  rename_i x r z E;simp at c;obtain⟨_,_,rfl⟩:=c;exact⟨⟨λ_ _ q=>q,λq=>by simp at q;exact q.2⟩,hi⟩
 ·split at c<;>simp at c;obtain⟨_,_,rfl⟩:=c;exact⟨kc.refl _,hi⟩
 ·split at c<;>simp at c;obtain⟨_,_,rfl⟩:=c;exact⟨kc.refl _,hi⟩
 ·split at c<;>simp at c;obtain⟨_,rfl⟩:=c;exact⟨kc.refl _,hi⟩
 ·split at c
  ·exact i c
  ·simp at c
 ·exact i c
 ·exact i c
 ·exact i c
 ·split at c
  ·exact i c
  ·simp at c
 ·split at c
  case isFalse=>simp at c
  split at c
  case h_2=>simp at c
  rename_i s y;rename_i f a b G H A l _ _;cases g:s.binds b A with
  |none=>simp[g]at c
  |some J=>
   simp[g]at c;obtain⟨_,rfl⟩:=c;obtain⟨o,B,_⟩:=Mt.binds_ok y hi;obtain⟨C,D,_⟩:=Mt.binds_ok g B;exact⟨o.trans C,D⟩
 all_goals first
  |(simp at c;obtain⟨_,rfl⟩:=c;exact⟨kc.refl _,hi⟩)
  |(simp at c;done)
theorem IP.mt_ok(hh:dq F ρ w h)(X:∀k b,get k=some b->h k=some b)(G:ke mf ρ ρ')(Y:mf.fz=[]){p:IP}{S r:List I}{m U:Mt}{v:p.val}{vs:List Value}(g:p.mt get S m=some (v,r,U))(hi:m.Inj)(E:kc U mf)(A:aL w (Av F ρ h) ρ S vs):
 ∃a b,vs=a++b/\aL w (Av F ρ h) ρ' (p.inst ib v) a/\aL w (Av F ρ h) ρ r b:=by
 unfold IP.mt at g;split at g
 ·split at g
  case h_2=>simp at g
  rename_i x r' z N;simp at g;obtain⟨rfl,rfl,rfl⟩:=g;have:=E.fz Y;simp at this;obtain⟨rfl,_⟩:=this;obtain⟨a,b,e,q1,q2⟩:=DU hh X N A;exact⟨a,b,e,fS.2 q1,q2⟩
 ·obtain⟨a,b,e,o,s⟩:=A;split at g<;>simp at g;rename_i y O;obtain⟨rfl,rfl,rfl⟩:=g;obtain⟨H,rfl⟩:=Ty.cast_ok O;subst H;exact⟨a,b,e,aL.single o,s⟩
 ·obtain⟨a,b,e,o,s⟩:=A;split at g<;>simp at g;rename_i y O;obtain⟨rfl,rfl,rfl⟩:=g;obtain⟨H,W⟩:=Ty.cast_ok O;simp at H;subst H;simp at W;subst W;exact⟨a,b,e,aL.single o,s⟩
 ·obtain⟨a,b,e,o,s⟩:=A;split at g<;>simp at g;rename_i H;obtain⟨rfl,rfl⟩:=g;subst H;exact⟨a,b,e,aL.single o,s⟩
 ·obtain⟨a,b,e,o,s⟩:=A;split at g
  case isFalse=>simp at g
  rename_i M;rename_i j P q K l;cases i:m.bind j (some q)with
  |none=>simp[i]at g
  |some J=>
   simp[i]at g;obtain⟨rfl,rfl⟩:=g;obtain⟨_,B,_⟩:=Mt.bind_ok i hi;have:=G.some (E.th _ _ B);obtain⟨u,⟨bl,C,D⟩,L⟩:=o;exact⟨a,b,e,aL.single (⟨u,⟨bl,by simp only[ib];rw[this];exact C,by rw[M];exact D⟩,L⟩),s⟩
 ·obtain⟨a,b,e,o,s⟩:=A;rename_i j q l;cases i:m.bind j (some q)with
  |none=>simp[i]at g
  |some J=>
   simp[i]at g;obtain⟨rfl,rfl⟩:=g;obtain⟨_,B,_⟩:=Mt.bind_ok i hi;have:=G.some (E.th _ _ B);obtain⟨ad,n,c,C,D⟩:=o;exact⟨a,b,e,aL.single (⟨ad,n,c,by simp only[ib];rw[this];exact C,D⟩),s⟩
 ·obtain⟨a,b,e,o,s⟩:=A;rename_i j l;cases i:m.bind j none with
  |none=>simp[i]at g
  |some J=>
   simp[i]at g;obtain⟨rfl,rfl⟩:=g;obtain⟨_,B,_⟩:=Mt.bind_ok i hi;have:=G.none (E.th _ _ B);exact⟨a,b,e,aL.single (⟨none,0,0,this,o⟩),s⟩
 ·obtain⟨a,b,e,o,s⟩:=A;rename_i j q l;cases i:m.bind j (some q)with
  |none=>simp[i]at g
  |some J=>
   simp[i]at g;obtain⟨rfl,rfl⟩:=g;obtain⟨_,B,_⟩:=Mt.bind_ok i hi;have:=G.some (E.th _ _ B);obtain⟨bl,C,D⟩:=o;exact⟨a,b,e,aL.single (⟨bl,by simp only[ib];rw[this];exact C,D⟩),s⟩
 ·obtain⟨a,b,e,o,s⟩:=A;split at g
  case isFalse=>simp at g
  rename_i M;rename_i t j P t' q K l;cases i:m.bind j (some q)with
  |none=>simp[i]at g
  |some J=>
   simp[i]at g;obtain⟨rfl,rfl⟩:=g;obtain⟨_,B,_⟩:=Mt.bind_ok i hi;have:=G.some (E.th _ _ B);obtain⟨u,⟨bl,C,D⟩,L⟩:=o;exact⟨a,b,e,aL.single (⟨u,⟨bl,by simp only[ib];rw[this];exact C,by rw[M.2];exact D⟩,by rw[M.1];exact L⟩),s⟩
 ·obtain⟨a,b,e,o,s⟩:=A;split at g
  case isFalse=>simp at g
  rename_i ef;split at g
  case h_2=>simp at g
  rename_i J Q;rename_i f fa fb f' a0 R l _;cases i:J.binds fb R with
  |none=>simp[i]at g
  |some m2=>
   simp[i]at g;obtain⟨rfl,rfl⟩:=g;obtain⟨a1,B,a3⟩:=Mt.binds_ok Q hi;obtain⟨c1,c2,c3⟩:=Mt.binds_ok i B;obtain⟨fs,cs,C,D,L⟩:=o;refine⟨a,b,e,aL.single ⟨fs,cs,by rw[ef];exact C,?_,?_⟩,s⟩
   ·rw[uI];exact mQ G (F2.imp (λ_ _ q=>⟨q.1,(c1.trans E).th _ _ q.2⟩) a3) D
   ·rw[uI];exact mQ G (F2.imp (λ_ _ q=>⟨q.1,E.th _ _ q.2⟩) c3) L
 all_goals first
  |(simp at g;done)
  |(obtain⟨a,b,e,o,s⟩:=A;simp at g;obtain⟨rfl,_⟩:=g;exact⟨a,b,e,aL.single o,s⟩)
theorem LP.mt_sub:∀{l:List IP}{c:List I}{m a:Mt}{v:LP.val l},LP.mt get l c m=some (v,a)->m.Inj->kc m a/\a.Inj
 |[],[],m,a,v,h,b=>by simp[LP.mt]at h;subst h;exact⟨kc.refl _,b⟩
 |[],_::_,_,_,_,h,_=>by simp[LP.mt]at h
 |p::l,c,m,a,v,h,b=>by
  simp only[LP.mt]at h;split at h
  case h_2=>simp at h
  rename_i o r q e;split at h
  case h_2=>simp at h
  rename_i s t f;simp at h;obtain⟨_,rfl⟩:=h;obtain⟨g,i⟩:=IP.mt_sub e b;obtain⟨j,n⟩:=LP.mt_sub f i;exact⟨g.trans j,n⟩
theorem LP.mt_ok(hh:dq F ρ w h)(j:∀k b,get k=some b->h k=some b)(n:ke mf ρ ρ')(o:mf.fz=[]):∀{l:List IP}{g:List I}{m f:Mt}{v:LP.val l}{vs:List Value},LP.mt get l g m=some (v,f)->m.Inj->kc f mf->aL w (Av F ρ h) ρ g vs->aL w (Av F ρ h) ρ' (LP.inst ib l v) vs
 |[],[],m,f,v,vs,c,_,_,i=>i
 |[],_::_,_,_,_,_,c,_,_,_=>by simp[LP.mt]at c
 |p::l,g,m,f,v,vs,c,q,s,i=>by
  simp only[LP.mt]at c;split at c
  case h_2=>simp at c
  rename_i B r C t;split at c
  case h_2=>simp at c
  rename_i D E u;simp at c;obtain⟨rfl,rfl⟩:=c;obtain⟨_,x⟩:=IP.mt_sub t q;obtain⟨y,_⟩:=LP.mt_sub u x;obtain⟨a,b,e,z,A⟩:=IP.mt_ok hh j n o t q (y.trans s) i;rw[e];exact aL.append z (LP.mt_ok hh j n o u x s A)
end
end
section
theorem F2.set_left{α β:Type}{R:α->β->Prop}:∀{l:List α}{m:List β},F2 R l m->∀(i:Nat){a:α},(∀b,m[i]?=some b->R a b)->F2 R (l.set i a) m
 |[],[],_,_,_,_=>trivial
 |_::_,b::_,⟨_,h⟩,0,_,r=>⟨r b rfl,h⟩
 |_::_,_::_,⟨c,h⟩,i+1,_,r=>⟨c,F2.set_left h i (λb e=>r b (by simpa using e))⟩
theorem F2.anys{w:World}{A:Nat->Prop}{ρ:Nat->Pl}:∀(vs:List Value),F2 (aT w A ρ) (ak vs.length .any) vs
 |[]=>trivial
 |_::r=>⟨trivial,F2.anys r⟩
section
variable{F:Nat->Prop}{ρ ρ':Nat->Pl}{w:World}{h get:Nat->Option Ch}{mf:Mt}
theorem SP.mt_sub{slots:List V}:∀{l:kT}{m a:Mt}{v:SP.val l},SP.mt get slots l m=some (v,a)->m.Inj->kc m a/\a.Inj
 |[],m,a,v,h,b=>by simp[SP.mt]at h;subst h;exact⟨kc.refl _,b⟩
 |p::l,m,a,v,h,b=>by
  simp only[SP.mt]at h;split at h
  case h_2=>simp at h
  split at h
  case isFalse=>simp at h
  split at h
  case h_2=>simp at h
  rename_i n o c;split at h
  case h_2=>simp at h
  rename_i q r e;simp at h;obtain⟨_,rfl⟩:=h;obtain⟨f,g⟩:=LP.mt_sub c b;obtain⟨i,j⟩:=SP.mt_sub e g;exact⟨f.trans i,j⟩
theorem SP.mt_ok(hh:dq F ρ w h)(n:∀k b,get k=some b->h k=some b)(o:ke mf ρ ρ')(q:mf.fz=[]){slots:List V}{vals:List Value}(f:F2 (aT w (Av F ρ h) ρ) slots vals):
 ∀{l:kT}{m i:Mt}{v:SP.val l}{s:List V},SP.mt get slots l m=some (v,i)->m.Inj->kc i mf->F2 (aT w (Av F ρ h) ρ') s vals->F2 (aT w (Av F ρ h) ρ') (SP.inst ib l v s) vals
 |[],_,_,_,_,_,_,_,j=>j
 |p::l,m,i,v,s,a,r,c,j=>by
  simp only[SP.mt]at a;split at a
  case h_2=>simp at a
  rename_i g H y;split at a
  case isFalse=>simp at a
  rename_i z;split at a
  case h_2=>simp at a
  rename_i J K t;split at a
  case h_2=>simp at a
  rename_i L M u;simp at a;obtain⟨rfl,rfl⟩:=a;obtain⟨_,x⟩:=LP.mt_sub t r;obtain⟨A,_⟩:=SP.mt_sub u x;refine SP.mt_ok (l:=l) hh n o q f u x c (j.set_left p.1 λb B=>?_);obtain⟨N,e,C⟩:=f.get y;rw[B]at e;simp at e;subst e;obtain⟨D,E,G⟩:=C;exact⟨D,LP.mt_ok hh n o q t r (A.trans c) E,by rw[<-z];exact G⟩
theorem CP.mt_sub{c:CP}{e:Option Ch}{m b:Mt}{v:c.val}(a:c.mt get e m=some (v,b))(hi:m.Inj):kc m b/\b.Inj:=by
 have f:∀{α:Type}{x:Option α}{v:α},x.map (·,m)=some (v,b)->kc m b/\b.Inj:=by
  intro α x v h;cases x<;>simp at h;obtain⟨_,rfl⟩:=h;exact⟨kc.refl _,hi⟩
 cases e with
 |none=>cases c<;>simp[CP.mt]at a
 |some e=>
  cases c<;>cases e<;>simp only[CP.mt]at a<;>first|(simp at a;done)|exact f a|exact LP.mt_sub a hi|skip
  ·simp at a;obtain⟨_,rfl⟩:=a;exact⟨kc.refl _,hi⟩
  ·split at a
   case h_2=>simp at a
   rename_i l _ _ g _ _;simp at a;obtain⟨_,rfl⟩:=a;obtain⟨i,_,j⟩:=Mt.bind_ok g hi;exact⟨i,j⟩
  ·simp at a;subst a;exact⟨kc.refl _,hi⟩
  ·split at a
   case h_2=>simp at a
   simp at a;obtain⟨_,rfl⟩:=a;exact⟨kc.refl _,hi⟩
theorem ic{kt g c f:Ty}{l:List (kt.den×g.den)}{m:List (c.den×f.den)}(h:iZ kt g c f l=some m):∃(e:kt=c)(i:g=f),m=e▸i▸l:=by
 unfold iZ at h;split at h
 ·rename_i a b _ _;simp at h;exact⟨a.down,b.down,h.symm⟩
 ·simp at h
theorem CP.mt_ok(hh:dq F ρ w h)(M:∀k b,get k=some b->h k=some b)(J:ke mf ρ ρ')(N:mf.fz=[]){c:CP}{C:Ch}{j k:Nat}{m K:Mt}{v:c.val}(f:c.mt get (some C) m=some (v,K))(hi:m.Inj)(L:kc K mf)(s:ρ' j=ρ k)(t:vL w (Av F ρ h) ρ k C):
 vL w (Av F ρ h) ρ' j (c.inst ib v)/\C.own=true/\(c.inst ib v).own=true:=by
 cases c<;>cases C<;>simp only[CP.mt]at f<;>first|(simp at f;done)|skip
 ·rename_i l U;obtain⟨b,O,P,i,g,y⟩:=t;exact⟨⟨b,O,P,by rw[s];exact i,g,LP.mt_ok hh M J N f hi L y⟩,rfl,rfl⟩
 ·rename_i e Q l;cases x:Ty.cast (.sl Q) (.sl e) l<;>simp[x]at f;obtain⟨rfl,rfl⟩:=f;obtain⟨p,q⟩:=Ty.cast_ok x;simp at p;subst p;simp at q;subst q;obtain⟨u,i,g⟩:=t;exact⟨⟨u,by rw[s];exact i,g⟩,rfl,rfl⟩
 ·rename_i z A n o l;cases x:iZ n o z A l<;>simp[x]at f;obtain⟨rfl,rfl⟩:=f;obtain⟨p,q,rfl⟩:=ic x;subst p;subst q;obtain⟨b,i,g⟩:=t;exact⟨⟨b,by rw[s];exact i,g⟩,rfl,rfl⟩
 ·rename_i z A n o l;cases x:iZ n o z A l<;>simp[x]at f;obtain⟨rfl,rfl⟩:=f;obtain⟨p,q,rfl⟩:=ic x;subst p;subst q;obtain⟨b,i,g⟩:=t;exact⟨⟨b,by rw[s];exact i,g⟩,rfl,rfl⟩
 ·simp at f;obtain⟨rfl,rfl⟩:=f;obtain⟨b,i,g⟩:=t;exact⟨⟨b,by rw[s];exact i,g⟩,rfl,rfl⟩
 ·rename_i W z A X n o B a;split at f
  case h_2=>simp at f
  rename_i Y r l i g y;simp at f;obtain⟨rfl,rfl⟩:=f;obtain⟨p,q,rfl⟩:=ic g;subst p;subst q;obtain⟨_,_,rfl⟩:=ic y;obtain⟨_,R,_⟩:=Mt.bind_ok i hi;have:=J.some (L.th _ _ R);obtain⟨b,D,E,G,H⟩:=t;refine⟨⟨b,D,by rw[s];exact E,by simp only[ib];rw[this];exact G,?_⟩,rfl,rfl⟩;have:a.toList.head?=a:=by cases a<;>rfl
  simp only[this];exact H
 ·obtain⟨b,i,g⟩:=t;exact⟨⟨b,by rw[s];exact i,g⟩,rfl,rfl⟩
 ·rename_i z A n o B a;split at f
  case h_2=>simp at f
  rename_i r l g y;simp at f;obtain⟨rfl,rfl⟩:=f;obtain⟨p,q,rfl⟩:=ic g;subst p;subst q;obtain⟨_,_,rfl⟩:=ic y;obtain⟨b,D,E,G,H,S⟩:=t;refine⟨⟨b,D,by rw[s];exact E,G,H,?_⟩,rfl,rfl⟩;have:a.toList.head?=a:=by cases a<;>rfl
  simp only[this];exact S
theorem CP.mtO_sub{c:CP}{k:Option Nat}{m b:Mt}{v:c.val}(a:c.mtO get k m=some (v,b))(hi:m.Inj):kc m b/\b.Inj:=by
 unfold CP.mtO at a;split at a
 ·exact CP.mt_sub a hi
 ·simp at a;obtain⟨_,rfl⟩:=a;exact⟨kc.refl _,hi⟩
 ·simp at a
theorem HP.mt_sub:∀{l:List (Option CP)}{n:Nat}{m a:Mt}{v:HP.val l},HP.mt get n l m=some (v,a)->m.Inj->kc m a/\a.Inj
 |[],_,m,a,v,h,b=>by simp[HP.mt]at h;subst h;exact⟨kc.refl _,b⟩
 |none::l,n,m,a,v,h,b=>by simp only[HP.mt]at h;exact HP.mt_sub h b
 |some c::l,n,m,a,v,h,b=>by
  simp only[HP.mt]at h;split at h
  case h_2=>simp at h
  split at h
  case h_2=>simp at h
  rename_i p q e;split at h
  case h_2=>simp at h
  rename_i r s f;simp at h;obtain⟨_,rfl⟩:=h;obtain⟨g,i⟩:=CP.mtO_sub e b;obtain⟨j,o⟩:=HP.mt_sub f i;exact⟨g.trans j,o⟩
def a0q(F:Nat->Prop)(ρ ρ':Nat->Pl)(w:World)(h:Nat->Option Ch)(mf:Mt)(j:Nat)(a:Ch):Prop:=
 vL w (Av F ρ h) ρ' j a/\a.own=true/\∀b,(ρ' j).blk=some b->∃k c,aV mf.th j=some (some k)/\h k=some c/\c.own=true/\(ρ k).blk=some b
theorem HP.mt_ok(hh:dq F ρ w h)(o:∀k b,get k=some b->h k=some b)(p:ke mf ρ ρ')(z:mf.fz=[]):
 ∀{l:List (Option CP)}{n:Nat}{m s:Mt}{v:HP.val l},HP.mt get n l m=some (v,s)->m.Inj->kc s mf->∀j g,aV (HP.inst ib n l v) j=some g->a0q F ρ ρ' w h mf j g
 |[],_,_,_,_,_,_,_,j,g,f=>by simp[HP.inst,aV]at f
 |none::l,n,m,s,v,a,t,q,j,g,f=>by
  simp only[HP.mt]at a;exact HP.mt_ok (l:=l) hh o p z a t q j g f
 |some c::l,n,m,s,v,a,t,q,j,g,f=>by
  simp only[HP.mt]at a;split at a
  case h_2=>simp at a
  rename_i k E;split at a
  case h_2=>simp at a
  rename_i L M i;split at a
  case h_2=>simp at a
  rename_i N O B;simp at a;obtain⟨rfl,rfl⟩:=a;obtain⟨G,C⟩:=CP.mtO_sub i t;obtain⟨D,_⟩:=HP.mt_sub B C;simp only[HP.inst,aV,ib]at f;split at f
  case isFalse=>exact HP.mt_ok (l:=l) hh o p z B C q j g f
  rename_i e;subst e;simp at f;subst f;have A:=((G.trans D).trans q).th _ _ E;cases k with
  |some k=>
   have r:=p.some A;cases u:get k with
   |none=>simp[CP.mtO,u]at i;cases c<;>simp[CP.mt]at i
   |some x=>
    simp only[CP.mtO,u]at i;obtain⟨H,J,K⟩:=CP.mt_ok hh o p z i t (D.trans q) r (hh.ok k x (o k x u));exact⟨H,K,λb y=>⟨k,x,A,o k x u,J,by rw[<-r];exact y⟩⟩
  |none=>
   have r:=p.none A;cases c<;>simp[CP.mtO]at i;obtain⟨rfl,rfl⟩:=i;exact⟨⟨_,r, .inr ⟨rfl,none,rfl⟩⟩,rfl,λb y=>by rw[r]at y;simp[Pl.blk]at y⟩
end
def wu(l:List (Option CP)):Bool:=l.all λc=>match c with
 |some (.mit m e f)=>match l[m]? with
  |some (some (.lk a b))=>(Ty.deq e a).isSome&&(Ty.deq f b).isSome
  |_=>false
 |_=>true
theorem HP.inst_at:∀{l:List (Option CP)}{n j:Nat}{v:HP.val l}{g:Ch},aV (HP.inst ib n l v) j=some g->n<=j/\∃c f,l[j-n]?=some (some c)/\g=c.inst ib f
 |[],_,_,_,_,h=>by simp[HP.inst,aV]at h
 |none::l,n,j,v,g,h=>by
  simp only[HP.inst]at h;obtain⟨a,c,f,b,e⟩:=HP.inst_at h;exact⟨by omega,c,f,by rw[show j-n=j-(n+1)+1 by omega];simpa using b,e⟩
 |some c::l,n,j,v,g,h=>by
  simp only[HP.inst,aV,ib]at h;split at h
  ·rename_i e;subst e;simp at h;exact⟨aD _,c,v.1,by simp,h.symm⟩
  ·obtain⟨a,c,f,b,e⟩:=HP.inst_at h;exact⟨by omega,c,f,by rw[show j-n=j-(n+1)+1 by omega];simpa using b,e⟩
theorem HP.at_inst:∀{l:List (Option CP)}{n i:Nat}{v:HP.val l}{c:CP},l[i]?=some (some c)->∃a,aV (HP.inst ib n l v) (n+i)=some (c.inst ib a)
 |[],_,_,_,_,h=>by simp at h
 |none::l,n,0,v,c,h=>by simp at h
 |none::l,n,i+1,v,c,h=>by
  obtain⟨a,b⟩:=HP.at_inst (l:=l) (n:=n+1) (v:=v) (by simpa using h);exact⟨a,by simp only[HP.inst];rw[show n+(i+1)=n+1+i by omega];exact b⟩
 |some e::l,n,0,v,c,h=>by
  simp at h;subst h;exact⟨v.1,by simp[HP.inst,aV,ib]⟩
 |some e::l,n,i+1,v,c,h=>by
  obtain⟨a,b⟩:=HP.at_inst (l:=l) (n:=n+1) (v:=v.2) (by simpa using h);refine⟨a,?_⟩;simp only[HP.inst,aV,ib];rw[af (by omega),show n+(i+1)=n+1+i by omega];exact b
def gf(m:Mt)(ρ:Nat->Pl)(j:Nat):Pl:=match aV m.th j with
 |some (some k)=>ρ k
 |some none=> .sv (.slice none 0 0)
 |none=> .un
theorem qP(m:Mt)(ρ:Nat->Pl):ke m ρ (gf m ρ):=by
 intro j;unfold gf;cases a:aV m.th j with
 |none=>trivial
 |some k=>cases k<;>rfl
theorem qQ{F F':Nat->Prop}{ρ:Nat->Pl}{w:World}{h get:Nat->Option Ch}{p:cg}{C m1 a:Mt}{W:SP.val p.sl}{g:HP.val p.hp}{slots:List V}{vals:List Value}
 (hh:dq F ρ w h) (X:∀k b,get k=some b->h k=some b) (D:F2 (aT w (Av F ρ h) ρ) slots vals)
 (Y:SP.mt get slots p.sl C=some (W,m1)) (h2:HP.mt get 0 p.hp m1=some (g,a)) (hz:a.fz=[]) (hi:C.Inj) (l:wu p.hp=true)
 (E:∀b,F' b->F b\/∃k c,h k=some c/\c.own=true/\(ρ k).blk=some b/\∀j,aV a.th j≠some (some k)):
 dq F' (gf a ρ) w (aV (HP.inst ib 0 p.hp g))/\
 F2 (aT w (Av F' (gf a ρ) (aV (HP.inst ib 0 p.hp g))) (gf a ρ)) (SP.inst ib p.sl W (ak vals.length .any)) vals/\
 (∀b,Av F' (gf a ρ) (aV (HP.inst ib 0 p.hp g)) b->Av F ρ h b)/\
 (∀b,oW (gf a ρ) (aV (HP.inst ib 0 p.hp g)) b->oW ρ h b)/\kc C a:=by
 obtain⟨a1,a2⟩:=SP.mt_sub Y hi;obtain⟨b1,b2⟩:=HP.mt_sub h2 a2;have ha:=qP a ρ;have u:=HP.mt_ok hh X ha hz h2 a2 (kc.refl _)
 have B:∀b,oW (gf a ρ) (aV (HP.inst ib 0 p.hp g)) b->oW ρ h b:=by
  rintro b ⟨j,x,i,G,e⟩;obtain⟨_,_,f⟩:=u j x i;obtain⟨k,o,_,r,s,t⟩:=f b e;exact⟨k,o,r,s,t⟩
 have y:∀b,Av F' (gf a ρ) (aV (HP.inst ib 0 p.hp g)) b->Av F ρ h b:=by
  rintro b (e|e)
  ·rcases E b e with q|⟨k,c,z,A,f,_⟩
   ·exact .inl q
   ·exact .inr ⟨k,c,z,A,f⟩
  ·exact .inr (B b e)
 have evo:pB w (Av F ρ h) w (Av F' (gf a ρ) (aV (HP.inst ib 0 p.hp g))):=⟨aD _,λ_ _ _ _ B _=>B,λb _ e=>y b e⟩;refine⟨⟨λj x i=>(u j x i).1.evo evo (dR.refl _) (λ_ _=>rfl),λj j' c H b i J _ _ e K=>?_,λj x b i G e=>?_,λj m kt vt a0 a3 i=>?_,λb e=>?_⟩,?_,y,B,a1.trans b1⟩
 ·obtain⟨_,_,f⟩:=u j c i;obtain⟨_,_,L⟩:=u j' H J;obtain⟨k,o,M,r,s,t⟩:=f b e;obtain⟨N,O,P,Q,R,S⟩:=L b K;have:=hh.inj k N o O b r Q s R t S;subst this;exact b2 j j' k M P
 ·obtain⟨_,_,f⟩:=u j x i;obtain⟨k,o,M,r,s,t⟩:=f b e;obtain⟨s1,s2⟩:=hh.fr k o b r s t;refine⟨s1,λhq=>?_⟩;rcases E b hq with q|⟨N,H,z,A,f,q4⟩
  ·exact s2 q
  ·have:=hh.inj k N o H b r z s A t f;subst this;exact q4 j M
 ·obtain⟨_,c,v',e1,e2⟩:=HP.inst_at i;cases c<;>simp[CP.inst]at e2;rename_i m' a4 a5;obtain⟨rfl,rfl,rfl,_⟩:=e2;unfold wu at l;rw[cU]at l;have:=l _ (gN e1);simp only at this;split at this
  case h_2=>simp at this
  rename_i a6 a7 hm;simp only[aI,cJ]at this;obtain⟨⟨g1,_⟩,⟨g2,_⟩⟩:=this;have e3:=g1.down;have e4:=g2.down;subst e3;subst e4;obtain⟨U,hv⟩:=HP.at_inst (n:=0) (v:=g) hm;refine⟨U,?_⟩;simpa[ib,CP.inst]using hv
 ·rcases E b e with q|⟨k,c,z,A,f,_⟩
  ·exact hh.gs b q
  ·exact(hh.fr k c b z A f).1
 ·have:=SP.mt_ok hh X ha hz D Y hi b1 (F2.anys vals);exact F2.imp (λ_ _=>aT.evo evo (dR.refl _)) this
end
section
def DV(r:Nat->Nat)(ρ ρ':Nat->Pl):Prop:=∀j,ρ j≠ .un->ρ' (r j)=ρ j
section
variable{r:Nat->Nat}{ρ ρ':Nat->Pl}{w:World}{A:Nat->Prop}
theorem DV.bk(h:DV r ρ ρ'){j b:Nat}(e:ρ j= .bk b):ρ' (r j)= .bk b:=by rw[h j (by rw[e];simp),e]
theorem DV.sv(h:DV r ρ ρ'){j:Nat}{v:Value}(e:ρ j= .sv v):ρ' (r j)= .sv v:=by rw[h j (by rw[e];simp),e]
theorem DV.ptrs(h:DV r ρ ρ'):∀{l:List (Nat×Nat)}{vs:List Value},F2 (kH ρ) l vs->F2 (kH ρ') (DT r l) vs
 |[],[],_=>trivial
 |_::_,_::_,⟨⟨b,a,c⟩,e⟩=>⟨⟨b,h.bk a,c⟩,h.ptrs e⟩
theorem IP.ren(h:DV r ρ ρ'){p:IP}{v:p.val}{vs:List Value}(g:aL w A ρ (p.inst ib v) vs):aL w A ρ' (p.inst r v) vs:=by
 cases p
 case d t=>exact fS.2 (fS.1 g)
 all_goals
  have g:=aL.of_single g;refine aL.single ?_
 case ptr j m=>obtain⟨u,⟨b,i,e⟩,l⟩:=g;exact⟨u,⟨b,h.bk i,e⟩,l⟩
 case own j=>obtain⟨a,n,c,i,e⟩:=g;exact⟨a,n,c,h.sv i,e⟩
 case mp j=>obtain⟨b,i,e⟩:=g;exact⟨b,h.bk i,e⟩
 case ifc t j m=>obtain⟨u,⟨b,i,e⟩,l⟩:=g;exact⟨u,⟨b,h.bk i,e⟩,l⟩
 case fn f a b=>
  obtain⟨o,q,i,e,l⟩:=g;rw[uI]at e l;exact⟨o,q,i,h.ptrs e,h.ptrs l⟩
 all_goals exact g
theorem aL.split:∀{l m:List I}{vs:List Value},aL w A ρ (l++m) vs->∃a b,vs=a++b/\aL w A ρ l a/\aL w A ρ m b
 |[],_,vs,h=>⟨[],vs,rfl,rfl,h⟩
 |_::l,_,_,⟨a,b,e,f,g⟩=>
  let⟨c,d,i,j,n⟩:=aL.split (l:=l) g
  ⟨a++c,d,by rw[e,i,ay],⟨a,c,rfl,f,j⟩,n⟩
theorem LP.ren(h:DV r ρ ρ'):∀{l:List IP}{v:LP.val l}{vs:List Value},aL w A ρ (LP.inst ib l v) vs->aL w A ρ' (LP.inst r l v) vs
 |[],_,_,c=>c
 |_::_,_,_,c=>by
  obtain⟨a,b,e,f,g⟩:=aL.split c;rw[e];exact aL.append (IP.ren h f) (LP.ren h g)
theorem CP.ren(h:DV r ρ ρ'){c:CP}{v:c.val}{j:Nat}(g:vL w A ρ j (c.inst ib v)):vL w A ρ' (r j) (c.inst r v):=by
 cases c
 case cells l=>obtain⟨b,q,s,a,f,i⟩:=g;exact⟨b,q,s,h.bk a,f,LP.ren h i⟩
 case sl e=>obtain⟨u,a,f⟩:=g;exact⟨u,h.sv a,f⟩
 case mp n o=>obtain⟨b,a,f⟩:=g;exact⟨b,h.bk a,f⟩
 case lk n o=>obtain⟨b,a,f⟩:=g;exact⟨b,h.bk a,f⟩
 case sit=>obtain⟨b,a,f⟩:=g;exact⟨b,h.bk a,f⟩
 case mit m n o=>obtain⟨b,p,a,f,i⟩:=g;exact⟨b,p,h.bk a,h.bk f,i⟩
 case nit=>obtain⟨b,a,f⟩:=g;exact⟨b,h.bk a,f⟩
 case fit n o=>obtain⟨b,p,a,f⟩:=g;exact⟨b,p,h.bk a,f⟩
theorem CP.own_inst(r:Nat->Nat){c:CP}{v:c.val}:(c.inst r v).own=true:=by cases c<;>rfl
end
def SP.res(r:Nat->Nat):(l:kT)->SP.val l->List (Bool×List I)
 |[],_=>[]
 |p::l,v=>(p.2.1,LP.inst r p.2.2 v.1)::SP.res r l v.2
def nF:Nat->kT->Bool
 |_,[]=>true
 |n,p::l=>p.1==n&&nF (n+1) l
def Qw:List (Bool×List I)->V
 |[p]=> .val p.1 p.2
 |l=> .tup l
def kU:List Value->Value
 |[v]=>v
 |a=> .tuple a.toArray
theorem IR{w:World}{A:Nat->Prop}{ρ:Nat->Pl}{l:List (Bool×List I)}{vs:List Value}(h:F2 (yg w A ρ) l vs):aT w A ρ (Qw l) (kU vs):=by
 match l,vs,h with
 |[],[],_=>exact⟨[],rfl,trivial⟩
 |[p],[v],⟨a,_⟩=>exact a
 |p::q::l,v::u::vs,h=>exact⟨v::u::vs,rfl,h⟩
theorem SP.res_ren{r:Nat->Nat}{ρ ρ':Nat->Pl}{w:World}{A:Nat->Prop}(h:DV r ρ ρ'):∀{l:kT}{v:SP.val l}{vs:List Value},F2 (yg w A ρ) (SP.res ib l v) vs->F2 (yg w A ρ') (SP.res r l v) vs
 |[],_,[],_=>trivial
 |_::_,_,_::_,⟨⟨a,b,c⟩,e⟩=>⟨⟨a,LP.ren h b,c⟩,SP.res_ren h e⟩
theorem SP.res_ok{F:Nat->Prop}{ρ ρ':Nat->Pl}{w:World}{h i:Nat->Option Ch}{s:Mt}(hh:dq F ρ w h)(x:∀k b,i k=some b->h k=some b)(y:ke s ρ ρ')(z:s.fz=[]){slots:List V}{vals:List Value}(f:F2 (aT w (Av F ρ h) ρ) slots vals):
 ∀{l:kT}{n:Nat}{m t:Mt}{v:SP.val l},SP.mt i slots l m=some (v,t)->m.Inj->kc t s->nF n l=true->slots.length=n+l.length->F2 (yg w (Av F ρ h) ρ') (SP.res ib l v) (vals.drop n)
 |[],n,_,_,_,_,_,_,_,a=>by
  have:=f.length;rw[bC (by simp at a;omega)];trivial
 |p::l,n,m,t,v,c,B,e,q,a=>by
  simp only[SP.mt]at c;split at c
  case h_2=>simp at c
  rename_i g P G;split at c
  case isFalse=>simp at c
  rename_i H;split at c
  case h_2=>simp at c
  rename_i Q R C;split at c
  case h_2=>simp at c
  rename_i S U D;simp at c;obtain⟨rfl,rfl⟩:=c;obtain⟨_,E⟩:=LP.mt_sub C B;obtain⟨J,_⟩:=SP.mt_sub D E;simp only[nF,aI,aR]at q;obtain⟨rfl,q⟩:=q;obtain⟨u,j,K⟩:=f.get G
  have L:vals.drop p.1=u::vals.drop (p.1+1):=by
   have o:p.1<vals.length:=by rw[cy]at j;exact j.1
   rw[List.drop_eq_getElem_cons o];rw[ap o]at j;simp at j;rw[j]
  rw[L];obtain⟨M,N,O⟩:=K;exact⟨⟨M,LP.mt_ok hh x y z C B (J.trans e) N,by rw[<-H];exact O⟩,SP.res_ok hh x y z f D E e q (by simp at a;omega)⟩
@[reducible]def cY(l:List cg)(i:Nat):cg:=l.getD i ⟨[],[]⟩
@[reducible]def cw(l:List cg):Type:=Σ i:Nat,(cY l i).den
structure Ct where
 nargs:Nat
 inp:cg
 out:List cg
 spec:inp.den->Tr (cw out)
def ee(p:cg)(v:p.val):Nat->Option Ch:=aV (HP.inst ib 0 p.hp v.2)
def oz(p:cg)(n:Nat)(v:p.val):List V:=SP.inst ib p.sl v.1 (ak n .any)
def IS(F:Nat->Prop)(ρ:Nat->Pl)(w:World)(h:Nat->Option Ch)(R:Nat)(p:cg)(v:p.val)(e:Ending)(w':World):Prop:=
 ∃ρ' a,e= .returned (kU a)/\(∀k,k<R->ρ' k=ρ k\/ρ' k= .un)/\F2 (yg w' (Av F ρ' (ee p v)) ρ') (SP.res ib p.sl v.1) a/\dq F ρ' w' (ee p v)/\Mv ρ w h ρ' w' (ee p v)/\(∀k,p.hp.length<=k->ρ' k= .un)
def bS(P:Program)(f:FuncId)(c:Ct):Prop:=
 ∀(x:c.inp.den)(Q:cw c.out->Prop),(c.spec x).sat Q->∀(F:Nat->Prop)(ρ:Nat->Pl)(w:World)(a:List Value),a.length=c.nargs->
  dq F ρ w (ee c.inp (c.inp.get x))->F2 (aT w (Av F ρ (ee c.inp (c.inp.get x))) ρ) (oz c.inp c.nargs (c.inp.get x)) a->(∀k,c.inp.hp.length<=k->ρ k= .un)->
  Calls P f a.toArray w λe b=>∃y,Q y/\IS F ρ w (ee c.inp (c.inp.get x)) c.inp.hp.length (cY c.out y.1) ((cY c.out y.1).get y.2) e b
def eY(P:Program)(f:FuncId):Bool:=
 match P.funcs[f]? with
 |some fn=> !(fn.name== "runtime.NumGoroutine")&&fn.body.isSome
 |none=>false
theorem jL{P:Program}{f:FuncId}(h:eY P f=true)(args:Array Value)(w:World):(callFunc f args).run P w= .ok (.enter f args) w:=by
 unfold eY at h;cases a:P.funcs[f]? with
 |none=>simp[a]at h
 |some fn=>
  simp only[a,aI,aP,Option.isSome_iff_ne_none]at h;have b:¬fn.name= "runtime.NumGoroutine" :=by simpa using h.1
  simp[callFunc,a,b,h.2]
abbrev bw:=List (FuncId×List Ct)
def kV:bw->FuncId->List Ct
 |[],_=>[]
 |p::r,f=>if p.1=f then p.2 else kV r f
def aQ(P:Program)(Γ:bw):Prop:=∀p∈Γ,eY P p.1=true/\∀c∈p.2,bS P p.1 c
theorem aQ.get{P:Program}{Γ:bw}(h:aQ P Γ){f:FuncId}{c:Ct}(a:c∈kV Γ f):eY P f=true/\bS P f c:=by
 induction Γ with
 |nil=>simp[kV]at a
 |cons p r b=>
  simp only[kV]at a;split at a
  ·rename_i e;subst e;exact⟨(h p (by simp)).1,(h p (by simp)).2 c a⟩
  ·exact b (λq g=>h q (aA _ g)) a
def kW:List Nat->(Nat->Option Ch)->dN
 |[],_=>[]
 |k::r,c=>match c k with
  |some (.sl e l)=>(k,some (.fr e l))::kW r (cO c k (some (.fr e l)))
  |some (.cells l)=>(k,some (.fc l))::kW r (cO c k (some (.fc l)))
  |some (.mp a b l)=>(k,some (.fm a b l))::kW r (cO c k (some (.fm a b l)))
  |_=>kW r c
theorem qR{a h:Nat->Option Ch}(g:∀k b,a k=some b->h k=some b)(k:Nat)(c:Option Ch):∀j b,cO a k c j=some b->cO h k c j=some b:=by
 intro j b f;by_cases e:j=k
 ·subst e;rw[bG]at f⊢;exact f
 ·rw[bE _ _ _ e]at f⊢;exact g j b f
theorem qS{F:Nat->Prop}{ρ:Nat->Pl}{w:World}{h:Nat->Option Ch}(hh:dq F ρ w h){k bl:Nat}{c g:Ch}(C:h k=some c)(f:c.own=true)(K:ρ k= .bk bl)(i:g.own=false)(D:∀a b l,c≠ .lk a b l)(t:∀m a b r q,g≠ .mit m a b r q)
 (u:Mv ρ w h ρ w (cO h k (some g))->bl<w.heap.size->¬Av F ρ (cO h k (some g)) bl->vL w (Av F ρ (cO h k (some g))) ρ k g):dq F ρ w (cO h k (some g))/\Mv ρ w h ρ w (cO h k (some g)):=by
 refine hh.step (λj=>j=k) (dR.refl ρ) (aD _) rfl rfl rfl (λj e=>bE _ _ _ e) (λ_ _ _=>rfl) (λj c b e u f=>?_) (λj O c g b e E _ _ _ _ _ _=>e.trans E.symm) (λj m L M v x e y=>?_) (λj P e o N=>?_)
 ·subst e;rw[bG]at u;simp at u;subst u;rw[i]at f;simp at f
 ·by_cases p:j=k
  ·subst p;rw[bG]at e;simp at e;exact absurd e (t _ _ _ _ _)
  ·rw[bE _ _ _ p]at e;rcases y with y|y
   ·exact absurd y p
   ·obtain⟨Q,G⟩:=hh.it j m L M v x e;rw[y,C]at G;simp at G;exact absurd G (D _ _ _)
 ·subst e;rw[bG]at o;simp at o;subst o;have n:(ρ j).blk=some bl:=by rw[K];rfl
  have z:=hh.fr j _ bl C f n;refine u N z.1 λH=>?_;rcases H with H|⟨q,c,B,s,J⟩
  ·exact z.2 H
  ·by_cases p:q=j
   ·subst p;rw[bG]at B;simp at B;subst B;rw[i]at s;simp at s
   ·rw[bE _ _ _ p]at B;exact p (hh.inj q j c _ bl B C s f J n)
theorem nG{F:Nat->Prop}{ρ:Nat->Pl}{w:World}{h:Nat->Option Ch}(hh:dq F ρ w h){k:Nat}{l:List I}(c:h k=some (.cells l)):dq F ρ w (cO h k (some (.fc l)))/\Mv ρ w h ρ w (cO h k (some (.fc l))):=by
 obtain⟨b,f,p,e,g,j⟩:=hh.ok k _ c;exact qS hh c rfl e rfl (by simp) (by simp) λm a n=>⟨b,f.toList,e,a,n,j.evo m.evo (dR.refl ρ),λi u o=>by rw[<-bN i];exact nr g i u o⟩
theorem B2{F:Nat->Prop}{ρ:Nat->Pl}{w:World}{h:Nat->Option Ch}(hh:dq F ρ w h){k:Nat}{a b:Ty}{l:List (a.den×b.den)}(e:h k=some (.mp a b l)):dq F ρ w (cO h k (some (.fm a b l)))/\Mv ρ w h ρ w (cO h k (some (.fm a b l))):=by
 obtain⟨bl,f,g⟩:=hh.ok k _ e;exact qS hh e rfl f rfl (by simp) (by simp) λi c j=>⟨bl,f,c,j,g.evo i.evo rfl⟩
theorem jM{F:Nat->Prop}{ρ:Nat->Pl}{w:World}:∀{l:List Nat}{c h:Nat->Option Ch},dq F ρ w h->(∀k b,c k=some b->h k=some b)->
 dq F ρ w (bm h (kW l c))/\Mv ρ w h ρ w (bm h (kW l c))/\∀k b,bm c (kW l c) k=some b->bm h (kW l c) k=some b
 |[],c,h,g,f=>⟨g,Mv.refl _ _ _,f⟩
 |k::r,c,h,g,f=>by
  simp only[kW];split
  ·rename_i e l i;obtain⟨j,m⟩:=ot g (f k _ i);obtain⟨n,o,p⟩:=jM (l:=r) j (qR f k (some (.fr e l)));exact⟨n,m.trans o,p⟩
  ·rename_i l i;obtain⟨j,m⟩:=nG g (f k _ i);obtain⟨n,o,p⟩:=jM (l:=r) j (qR f k (some (.fc l)));exact⟨n,m.trans o,p⟩
  ·rename_i a b l i;obtain⟨j,m⟩:=B2 g (f k _ i);obtain⟨n,o,p⟩:=jM (l:=r) j (qR f k (some (.fm a b l)));exact⟨n,m.trans o,p⟩
  ·exact jM (l:=r) g f
def B3(a:Nat->Option Ch)(slots:List V)(p:cg)(b:Mt):Option (p.val×Mt):=
 match SP.mt a slots p.sl b with
 |some (c,e)=>match HP.mt a 0 p.hp e with
  |some (f,g)=>some ((c,f),g)
  |none=>none
 |none=>none
def IT:List Nat->Bool
 |[]=>true
 |_=>false
def fit(a:Nat->Option Ch)(slots:List V)(p:cg)(b:List (Nat×Option Nat)):Option (p.val×List (Nat×Option Nat)×dN):=
 match B3 a slots p ⟨b,[]⟩with
 |some (v,m)=>if IT m.fz then some (v,m.th,[])else
  match B3 (bm a (kW m.fz a)) slots p ⟨b,[]⟩with
  |some (e,c)=>if IT c.fz then some (e,c.th,kW m.fz a)else none
  |none=>none
 |none=>none
theorem Ad{l:List Nat}(h:IT l=true):l=[]:=by cases l<;>simp[IT]at h;rfl
theorem yD{a:Nat->Option Ch}{slots:List V}{p:cg}{f:List (Nat×Option Nat)}{v:p.val}{b:List (Nat×Option Nat)}{u:dN}(h:fit a slots p f=some (v,b,u)):
 ∃l,u=kW l a/\B3 (bm a u) slots p ⟨f,[]⟩=some (v,⟨b,[]⟩):=by
 unfold fit at h;split at h
 case h_2=>simp at h
 rename_i i m g;split at h
 ·rename_i c;simp at h;obtain⟨rfl,rfl,rfl⟩:=h;refine⟨[],rfl,?_⟩;have:=Ad c;simp only[bm];rw[g,<-this]
 ·split at h
  case h_2=>simp at h
  rename_i j n e;split at h
  case isFalse=>simp at h
  rename_i c;simp at h;obtain⟨rfl,rfl,rfl⟩:=h;have:=Ad c;exact⟨m.fz,rfl,by rw[e,<-this]⟩
theorem uJ{a:Nat->Option Ch}{slots:List V}{p:cg}{b m:Mt}{v:p.val}(h:B3 a slots p b=some (v,m)):∃m1,SP.mt a slots p.sl b=some (v.1,m1)/\HP.mt a 0 p.hp m1=some (v.2,m):=by
 unfold B3 at h;split at h
 case h_2=>simp at h
 rename_i f m1 c;split at h
 case h_2=>simp at h
 rename_i g i e;simp at h;obtain⟨rfl,rfl⟩:=h;exact⟨m1,c,e⟩
def qT(l:List Nat):dN:=l.map λk=>(k,none)
def qU(l:fu):dN:=l.map λp=>(p.1,some p.2)
theorem qV:∀(l:List Nat)(h:Nat->Option Ch)(k:Nat),(k∈l->bm h (qT l) k=none)/\(k∉l->bm h (qT l) k=h k)
 |[],_,_=>⟨λq=>by simp at q,λ_=>rfl⟩
 |a::l,h,k=>by
  obtain⟨f,g⟩:=qV l (cO h a none) k;simp only[qT,aY,bm];by_cases b:k∈l
  ·exact⟨λ_=>f b,λq=>absurd (aA _ b) q⟩
  ·have c:=g b;simp only[qT]at c;refine⟨λq=>?_,λq=>?_⟩
   ·have:k=a:=by simpa[b]using q
    subst this;rw[c,bG]
   ·rw[c,bE _ _ _ (λe=>q (by rw[e];simp))]
theorem qW:∀(l:fu)(h:Nat->Option Ch)(k:Nat),(∃c,bm h (qU l) k=some c/\(k,c)∈l)\/(bm h (qU l) k=h k/\∀c,(k,c)∉l)
 |[],_,_=> .inr ⟨rfl,λ_=>by simp⟩
 |a::l,h,k=>by
  simp only[qU,aY,bm];rcases qW l (cO h a.1 (some a.2)) k with⟨c,b,g⟩|⟨b,g⟩
  ·exact .inl ⟨c,b,aA _ g⟩
  ·by_cases e:k=a.1
   ·refine .inl ⟨a.2,?_,by rw[e];simp⟩;simp only[qU]at b;rw[b,e,bG]
   ·refine .inr ⟨?_,λc f=>?_⟩
    ·simp only[qU]at b;rw[b,bE _ _ _ e]
    ·rw[bt]at f;rcases f with f|f
     ·exact e (by rw[<-f])
     ·exact g c f
end
end Go.Hv
