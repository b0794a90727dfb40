/- A part of the proof of TopSealedSaid: no conditions; packed by a program of our own. -/
import Derived.Test.YtgpideichgnmhaaGreatPbad
import Derived.Still
import Derived.Lib.BytesEntry
import Derived.ScopeJumps
import Derived.Scope
import Derived.RangeFuncIn
import Derived.RangeFuncLeaves
import Derived.RangeFuncCalls
import Derived.RangeFuncRecord
import Derived.OrdersIn
open Array renaming getElem?_eq_some_iff→eg
open Bool renaming and_eq_true→aI,false_eq_true→cu,or_eq_true→iH,not_eq_true'→aP
open Go.Region renaming ready→r7
open Go.Result renaming andThen_ok→aX
open Go.Sem renaming run_pure→bA,run_bind→bF
open List renaming length_cons→ba,nil_append→eS,take_of_length_le→bf,mem_cons→bt,getElem?_eq_getElem→ap,getD→bB,getD_eq_getElem?_getD→aw,length_map→bT,mem_map→dM,map→rZ,range'→pA,mem_cons_self→aG,mem_cons_of_mem→aA,all_eq_true→cU,mem_of_getElem?→gN,getElem_mem→kB,mem_append_left→cL
open Nat renaming lt_of_lt_of_le→bu,add_comm→eJ,le_refl→aD,le_trans→bq,zero_add→bN,add_assoc→eO,lt_or_ge→bI
open Ne renaming symm→lV
open Option renaming map_eq_some_iff→mj,getD_some→di
namespace Go.Hv
open Go.RowKit
section
def rn(a:List (Nat×Option Nat))(N j:Nat):Nat:=match aV a j with
 |some (some k)=>k
 |_=>N+j
def tu(a:List (Nat×Option Nat)):List Nat:=a.filterMap (·.2)
def CP.plain:CP->Bool
 | .lk .. =>false
 | .mit .. =>false
 |_=>true
def B4(l:List (Option CP)):Bool:=l.all λc=>match c with
 |some c=>c.plain
 |none=>false
def pl(l:List (Option CP)):Bool:=l.all λc=>match c with
 |some c=>c.plain
 |none=>true
def kX(n:Nat)(a:List (Nat×Option Nat)):Bool:=a.all λp=>decide (p.1<n)
def DW(c:Ct)(a:List (Nat×Option Nat))(u:dN)(N W:Nat)(y:cw c.out):Tr (V×dN):=
 if pl (cY c.out y.1).hp&&decide ((cY c.out y.1).hp.length<=W)then
  .leaf (Qw (SP.res (rn a N) (cY c.out y.1).sl ((cY c.out y.1).get y.2).1),u++(qT (tu a)++qU (HP.inst (rn a N) 0 (cY c.out y.1).hp ((cY c.out y.1).get y.2).2)))
 else .stuck
def Ae(c:Ct)(args:List V)(get:Nat->Option Ch)(N W:Nat):Option (Tr (V×dN)):=
 if args.length=c.nargs then
  match fit get args c.inp []with
  |some (v,a,u)=>if B4 c.inp.hp&&kX c.inp.hp.length a then some ((c.spec (c.inp.put v)).bind (DW c a u N W))else none
  |none=>none
 else none
def kY(l:List Ct)(args:List V)(get:Nat->Option Ch)(N W:Nat):Tr (V×dN):=match l with
 |[]=> .stuck
 |c::r=>match Ae c args get N W with
  |some t=>t
  |none=>kY r args get N W
theorem HP.mem_inst{r:Nat->Nat}:∀{l:List (Option CP)}{n k:Nat}{v:HP.val l}{b:Ch},(k,b)∈HP.inst r n l v->∃j c a,n<=j/\k=r j/\b=c.inst r a/\l[j-n]?=some (some c)/\aV (HP.inst ib n l v) j=some (c.inst ib a)
 |[],_,_,_,_,h=>by simp[HP.inst]at h
 |none::l,n,k,v,b,h=>by
  simp only[HP.inst]at h⊢;obtain⟨j,c,a,m,e,f,g,i⟩:=HP.mem_inst (l:=l) h;exact⟨j,c,a,by omega,e,f,by rw[show j-n=j-(n+1)+1 by omega];simpa using g,i⟩
 |some c::l,n,k,v,b,h=>by
  simp only[HP.inst,bt,Prod.mk.injEq]at h⊢;rcases h with⟨rfl,rfl⟩|h
  ·exact⟨n,c,v.1,aD _,rfl,rfl,by simp,by simp[aV,ib]⟩
  ·obtain⟨j,o,a,m,e,f,g,i⟩:=HP.mem_inst (l:=l) h;exact⟨j,o,a,by omega,e,f,by rw[show j-n=j-(n+1)+1 by omega];simpa using g,(af (show¬n=j by omega)).trans i⟩
theorem IU{a:List (Nat×Option Nat)}{k:Nat}(h:k∈tu a):∃j,(j,some k)∈a:=by
 unfold tu at h;rw[List.mem_filterMap]at h;obtain⟨p,b,c⟩:=h;exact⟨p.1,by rw[<-c];exact b⟩
theorem wv{a:List (Nat×Option Nat)}{j k:Nat}(h:aV a j=some (some k)):k∈tu a:=by
 unfold tu;rw[List.mem_filterMap];exact⟨_,ia h,rfl⟩
def vM(a:List (Nat×Option Nat)):Prop:=∀j k,(j,k)∈a->aV a j=some k
theorem Mt.bind_fun{m b:Mt}{j:Nat}{k:Option Nat}(h:m.bind j k=some b)(hi:vM m.th):vM b.th:=by
 unfold Mt.bind at h;split at h
 ·split at h<;>simp at h;subst h;exact hi
 ·rename_i c;split at h<;>simp at h;subst h;intro i q a;simp only[bt,Prod.mk.injEq]at a;simp only[aV];rcases a with⟨rfl,rfl⟩|a
  ·simp
  ·have:=hi i q a;split
   ·rename_i e;rw[<-e,c]at this;simp at this
   ·exact this
theorem Mt.binds_fun:∀{l r:List (Nat×Nat)}{m a:Mt},m.binds l r=some a->vM m.th->vM a.th
 |[],[],m,a,h,b=>by simp[Mt.binds]at h;subst h;exact b
 |[],_::_,_,_,h,_=>by simp[Mt.binds]at h
 |_::_,[],_,_,h,_=>by simp[Mt.binds]at h
 |p::l,q::r,m,a,h,b=>by
  simp only[Mt.binds]at h;split at h
  case isFalse=>simp at h
  split at h
  case h_2=>simp at h
  rename_i e c;exact Mt.binds_fun h (Mt.bind_fun c b)
section
variable{get:Nat->Option Ch}
theorem IP.mt_fun{p:IP}{o r:List I}{m e:Mt}{v:p.val}(c:p.mt get o m=some (v,r,e))(hi:vM m.th):vM e.th:=by
 have h:∀{j:Nat}{k:Option Nat}{l:List I}{e:Mt}{r:List I},((m.bind j k).map λe=>((),l,e))=some ((),r,e)->vM e.th:=by
  intro j k l e r i;cases g:m.bind j k with
  |none=>simp[g]at i
  |some n=>
   simp[g]at i;obtain⟨_,rfl⟩:=i;exact Mt.bind_fun g hi
 unfold IP.mt at c;split at c
 ·split at c
  case h_2=>simp at c
  simp at c;obtain⟨_,_,rfl⟩:=c;exact hi
 ·split at c<;>simp at c;obtain⟨_,_,rfl⟩:=c;exact hi
 ·split at c<;>simp at c;obtain⟨_,_,rfl⟩:=c;exact hi
 ·split at c<;>simp at c;obtain⟨_,rfl⟩:=c;exact hi
 ·split at c
  ·exact h c
  ·simp at c
 ·exact h c
 ·exact h c
 ·exact h c
 ·split at c
  ·exact h c
  ·simp at c
 ·split at c
  case isFalse=>simp at c
  split at c
  case h_2=>simp at c
  rename_i n q;rename_i f a b t u s l _ _;cases g:n.binds b s with
  |none=>simp[g]at c
  |some w=>
   simp[g]at c;obtain⟨_,rfl⟩:=c;exact Mt.binds_fun g (Mt.binds_fun q hi)
 all_goals first
  |(simp at c;obtain⟨_,rfl⟩:=c;exact hi)
  |(simp at c;done)
theorem LP.mt_fun:∀{l:List IP}{c:List I}{m a:Mt}{v:LP.val l},LP.mt get l c m=some (v,a)->vM m.th->vM a.th
 |[],[],m,a,v,h,b=>by simp[LP.mt]at h;subst h;exact b
 |[],_::_,_,_,_,h,_=>by simp[LP.mt]at h
 |p::l,c,m,a,v,h,b=>by
  simp only[LP.mt]at h;split at h
  case h_2=>simp at h
  rename_i g r i e;split at h
  case h_2=>simp at h
  rename_i j n f;simp at h;obtain⟨_,rfl⟩:=h;exact LP.mt_fun f (IP.mt_fun e b)
theorem SP.mt_fun{slots:List V}:∀{l:kT}{m a:Mt}{v:SP.val l},SP.mt get slots l m=some (v,a)->vM m.th->vM a.th
 |[],m,a,v,h,b=>by simp[SP.mt]at h;subst h;exact b
 |p::l,m,a,v,h,b=>by
  simp only[SP.mt]at h;split at h
  case h_2=>simp at h
  split at h
  case isFalse=>simp at h
  split at h
  case h_2=>simp at h
  rename_i f g c;split at h
  case h_2=>simp at h
  rename_i i j e;simp at h;obtain⟨_,rfl⟩:=h;exact SP.mt_fun e (LP.mt_fun c b)
theorem CP.mt_fun{c:CP}{b:Option Ch}{m e:Mt}{v:c.val}(a:c.mt get b m=some (v,e))(hi:vM m.th):vM e.th:=by
 have f:∀{α:Type}{x:Option α}{v:α},x.map (·,m)=some (v,e)->vM e.th:=by
  intro α x v h;cases x<;>simp at h;obtain⟨_,rfl⟩:=h;exact hi
 cases b with
 |none=>cases c<;>simp[CP.mt]at a
 |some b=>
  cases c<;>cases b<;>simp only[CP.mt]at a<;>first|(simp at a;done)|exact f a|exact LP.mt_fun a hi|skip
  ·simp at a;obtain⟨_,rfl⟩:=a;exact hi
  ·split at a
   case h_2=>simp at a
   rename_i i _ _ g _ _;simp at a;obtain⟨_,rfl⟩:=a;exact Mt.bind_fun g hi
  ·simp at a;subst a;exact hi
  ·split at a
   case h_2=>simp at a
   simp at a;obtain⟨_,rfl⟩:=a;exact hi
theorem HP.mt_fun:∀{l:List (Option CP)}{n:Nat}{m e:Mt}{v:HP.val l},HP.mt get n l m=some (v,e)->vM m.th->vM e.th
 |[],_,m,e,v,h,a=>by simp[HP.mt]at h;subst h;exact a
 |none::l,n,m,e,v,h,a=>by simp only[HP.mt]at h;exact HP.mt_fun (l:=l) h a
 |some c::l,n,m,e,v,h,a=>by
  simp only[HP.mt]at h;split at h
  case h_2=>simp at h
  split at h
  case h_2=>simp at h
  rename_i g i b;split at h
  case h_2=>simp at h
  rename_i j o f;simp at h;obtain⟨_,rfl⟩:=h;refine HP.mt_fun f ?_;unfold CP.mtO at b;split at b
  ·exact CP.mt_fun b a
  ·simp at b;obtain⟨_,rfl⟩:=b;exact a
  ·simp at b
theorem HP.mt_kind:∀{l:List (Option CP)}{n:Nat}{m f:Mt}{v:HP.val l},HP.mt get n l m=some (v,f)->m.Inj->∀(i:Nat)(c:CP),l[i]?=some (some c)->∃k,aV f.th (n+i)=some k/\∀g,k=some g->∃j,get g=some j/\(c.plain=true->∀kt r q,j≠ .lk kt r q)
 |[],_,_,_,_,_,_,i,c,a=>by simp at a
 |none::l,n,m,f,v,h,o,0,c,a=>by simp at a
 |none::l,n,m,f,v,h,o,i+1,c,a=>by
  simp only[HP.mt]at h;have:=HP.mt_kind (l:=l) h o i c (by simpa using a)
  rwa [show n+1+i=n+(i+1)by omega]at this
 |some s::l,n,m,f,v,h,o,i,c,a=>by
  simp only[HP.mt]at h;split at h
  case h_2=>simp at h
  rename_i k x;split at h
  case h_2=>simp at h
  rename_i B C b;split at h
  case h_2=>simp at h
  rename_i D E t;simp at h;obtain⟨_,rfl⟩:=h;obtain⟨y,u⟩:=CP.mtO_sub b o;cases i with
  |succ i=>
   have:=HP.mt_kind (l:=l) t u i c (by simpa using a)
   rwa [show n+1+i=n+(i+1)by omega]at this
  |zero=>
   simp at a;subst a;obtain⟨z,_⟩:=HP.mt_sub t u;refine⟨k,z.th _ _ (y.th _ _ x),λg p=>?_⟩;subst p;simp only[CP.mtO]at b;cases w:get g with
   |none=>rw[w]at b;cases s<;>simp[CP.mt]at b
   |some j=>
    refine⟨j,rfl,λA kt r q e=>?_⟩;subst e;rw[w]at b;cases s<;>simp[CP.mt,CP.plain]at b A
end
end
section
section
variable{P:Program}{F:Nat->Prop}{ρ:Nat->Pl}{w:World}{h get:Nat->Option Ch}{N W:Nat}{a:Act}{o:Oper}
theorem IV{l:List (Option CP)}(h:B4 l=true){j:Nat}(b:j<l.length):∃c,l[j]?=some (some c)/\c.plain=true:=by
 unfold B4 at h;rw[cU]at h;have:=h l[j] (kB b);split at this
 ·rename_i c e;exact⟨c,by rw[ap b,e],this⟩
 ·simp at this
theorem IW{l:List (Option CP)}(h:B4 l=true):wu l=true:=by
 unfold wu;unfold B4 at h;rw[cU]at h⊢;intro c b;have:=h c b;split at this
 ·rename_i e;cases e<;>simp[CP.plain]at this<;>rfl
 ·simp at this
theorem DX{l:List (Option CP)}(h:pl l=true){j:Nat}{c:CP}(b:l[j]?=some (some c)):c.plain=true:=by
 unfold pl at h;rw[cU]at h;exact h _ (gN b)
theorem jo{n:Nat}{b:List (Nat×Option Nat)}(h:kX n b=true){j:Nat}{k:Option Nat}(c:aV b j=some k):j<n:=by
 unfold kX at h;rw[cU]at h;simpa using h _ (ia c)
theorem Af:(⟨[],[]⟩:Mt).Inj:=λ_ _ _ q=>by simp[aV]at q
theorem IX:vM []:=λ_ _ q=>by simp at q
theorem IY{c:Ct}{v:c.inp.val}{f:List (Nat×Option Nat)}{args:List V}{vals:List Value}
 (hh:dq F ρ w h) (hg:∀k b,get k=some b->h k=some b) (hN:∀k,N<=k->k<N+W->ρ k= .un) (hv:F2 (aT w (Av F ρ h) ρ) args vals)
 (hf:B3 get args c.inp ⟨[],[]⟩=some (v,⟨f,[]⟩)) (b7:B4 c.inp.hp=true) (hk:kX c.inp.hp.length f=true):
 ∃F':Nat->Prop,dq F' (gf ⟨f,[]⟩ ρ) w (ee c.inp v)/\F2 (aT w (Av F' (gf ⟨f,[]⟩ ρ) (ee c.inp v)) (gf ⟨f,[]⟩ ρ)) (oz c.inp vals.length v) vals/\
  (∀k,c.inp.hp.length<=k->gf ⟨f,[]⟩ ρ k= .un)/\
  ∀(p:cg)(x:p.val)(e:Ending)(w':World),IS F' (gf ⟨f,[]⟩ ρ) w (ee c.inp v) c.inp.hp.length p x e w'->pl p.hp=true->p.hp.length<=W->
   ∃r,e= .returned r/\bM F ρ w h N W (Qw (SP.res (rn f N) p.sl x.1)) (qT (tu f)++qU (HP.inst (rn f N) 0 p.hp x.2)) r w':=by
 obtain⟨m1,b0,b1⟩:=uJ hf;have b8:vM f:=HP.mt_fun b1 (SP.mt_fun b0 IX);obtain⟨i1,i2⟩:=SP.mt_sub b0 Af;have b2:=HP.mt_kind b1 i2
 have E:∀j k,aV f j=some (some k)->∃g,h k=some g/\∀kt vt q,g≠ .lk kt vt q:=by
  intro j k b9;have a0:=jo hk b9;obtain⟨cp,e1,Q⟩:=IV b7 a0;obtain⟨k0,e3,e4⟩:=b2 j cp e1;rw[bN,b9]at e3;simp at e3;obtain⟨g,e5,e6⟩:=e4 k e3.symm;exact⟨g,hg _ _ e5,e6 Q⟩
 have a4:∀k,k∈tu f->∃j,aV f j=some (some k):=λk d0=>let⟨j,R⟩:=IU d0;⟨j,b8 j _ R⟩
 let F':Nat->Prop:=λb=>F b\/∃k c,h k=some c/\c.own=true/\(ρ k).blk=some b/\∀j,aV f j≠some (some k)
 obtain⟨c1,c2,c3,c4,_⟩:=qQ (F':=F') hh hg hv b0 b1 rfl Af (IW b7) (λb y=>y);refine⟨F',c1,c2,λk d8=>?_,?_⟩
 ·unfold gf;cases M:aV f k with
  |none=>rfl
  |some q=>exact absurd (jo hk M) (by omega)
 intro p x e w' ⟨ρ2,vs,he,b3,c0,D,A,b4⟩ c5 hW
 let ρn:Nat->Pl:=λk=>if N<=k/\k<N+W/\rn f N (k-N)=k then ρ2 (k-N)else ρ k
 have a1:∀{k:Nat},ρ k≠ .un->¬(N<=k/\k<N+W/\rn f N (k-N)=k):=λs q=>s (hN _ q.1 q.2.1);have u:∀{k:Nat},ρ k≠ .un->ρn k=ρ k:=λs=>af (a1 s)
 have S:DV (rn f N) ρ2 ρn:=by
  intro j R
  have a0:j<W:=by
   by_cases q:p.hp.length<=j
   ·exact absurd (b4 j q) R
   ·omega
  have fresh:rn f N j=N+j->ρn (rn f N j)=ρ2 j:=by
   intro e1;show(if _ then _ else _)=_;rw[e1,am ⟨by omega,by omega,by rw[show N+j-N=j by omega];exact e1⟩]
   congr 1;omega
  cases M:aV f j with
  |none=>exact fresh (by simp[rn,M])
  |some k=>cases k with
   |none=>exact fresh (by simp[rn,M])
   |some k=>
    have d3:=jo hk M
    have e1:ρ2 j=ρ k:=by
     rcases b3 j d3 with q|q
     ·rw[q];simp only[gf,M]
     ·exact absurd q R
    have Q:rn f N j=k:=by simp[rn,M]
    rw[Q,u (by rw[<-e1];exact R),e1]
 have a5:dR ρ ρn:=λk s=>u s
 have c6:∀k,ρ k= .un->ρn k≠ .un->N<=k/\k<N+W:=by
  intro k H J;by_cases q:N<=k/\k<N+W/\rn f N (k-N)=k
  ·exact⟨q.1,q.2.1⟩
  ·exact absurd H (by have:ρn k=ρ k:=af q;rw[<-this];exact J)
 have hU:∀k,(∃g,bm h (qT (tu f)++qU (HP.inst (rn f N) 0 p.hp x.2)) k=some g/\(k,g)∈HP.inst (rn f N) 0 p.hp x.2)\/
  (bm h (qT (tu f)++qU (HP.inst (rn f N) 0 p.hp x.2)) k=none/\k∈tu f)\/
  (bm h (qT (tu f)++qU (HP.inst (rn f N) 0 p.hp x.2)) k=h k/\k∉tu f/\∀g,(k,g)∉HP.inst (rn f N) 0 p.hp x.2):=by
  intro k;rw[cF];rcases qW (HP.inst (rn f N) 0 p.hp x.2) (bm h (qT (tu f))) k with⟨g,t,B⟩|⟨t,B⟩
  ·exact .inl ⟨g,t,B⟩
  ·obtain⟨d1,d2⟩:=qV (tu f) h k;by_cases y:k∈tu f
   ·exact .inr (.inl ⟨by rw[t];exact d1 y,y⟩)
   ·exact .inr (.inr ⟨by rw[t];exact d2 y,y,B⟩)
 generalize b5:bm h (qT (tu f)++qU (HP.inst (rn f N) 0 p.hp x.2))=hn at hU
 have i:∀{k:Nat}{g:Ch},hn k=some g->(∃j c G,k=rn f N j/\g=CP.inst (rn f N) c G/\c.plain=true/\ee p x j=some (c.inst ib G))\/(h k=some g/\k∉tu f):=by
  intro k g s;rcases hU k with⟨b6,t,B⟩|⟨t,_⟩|⟨t,B,_⟩
  ·rw[s]at t;simp at t;subst t;obtain⟨j,c,G,_,Q,e3,e4,e5⟩:=HP.mem_inst B;exact .inl ⟨j,c,G,Q,e3,DX c5 (by simpa using e4),e5⟩
  ·rw[s]at t;simp at t
  ·rw[s]at t;exact .inr ⟨t.symm,B⟩
 have n:∀{j:Nat}{c:CP}{G:c.val}{b:Nat},ee p x j=some (c.inst ib G)->(ρn (rn f N j)).blk=some b->(ρ2 j).blk=some b/\oW ρ2 (ee p x) b:=by
  intro j c G b H J;have:=D.ok j _ H;rw[S j this.un]at J;exact⟨J,j,_,H,CP.own_inst _,J⟩
 have a2:∀{k:Nat}{g:Ch}{b:Nat},h k=some g->k∉tu f->g.own=true->(ρ k).blk=some b->F' b:=by
  intro k g b H J O z;exact .inr ⟨k,g,H,O,z,λj R=>J (wv R)⟩
 have c7:∀b,oW (gf ⟨f,[]⟩ ρ) (ee c.inp v) b->oW ρ h b:=c4
 have d4:∀b,Av F ρn hn b->Av F' ρ2 (ee p x) b:=by
  rintro b (y|⟨k,g,H,J,O⟩)
  ·exact .inl (.inl y)
  ·rcases i H with⟨j,c',G,rfl,rfl,_,e⟩|⟨z,h5⟩
   ·exact .inr (n e O).2
   ·rw[u (hh.ok k g z).un]at O;exact .inl (a2 z h5 J O)
 have d5:∀b,b<w.heap.size->oW ρn hn b->oW ρ h b:=by
  rintro b y ⟨k,g,H,J,O⟩;rcases i H with⟨j,c',G,rfl,rfl,_,e⟩|⟨z,h5⟩
  ·exact c7 b (A.own b y (n e O).2)
  ·rw[u (hh.ok k g z).un]at O;exact⟨k,g,z,J,O⟩
 have a6:Mv ρ w h ρn w' hn:=⟨A.os,A.tape,A.output,A.size,λb y ho=>A.block b y (λq=>ho (c7 b q)),d5⟩;have a7:pB w' (Av F' ρ2 (ee p x)) w' (Av F ρn hn):=⟨aD _,λ_ _ _ _ ho _=>ho,λb _ y=>d4 b y⟩
 have U:∀{k:Nat}{g:Ch}{b:Nat},h k=some g->k∉tu f->g.own=true->(ρ k).blk=some b->w'.heap[b]?=w.heap[b]?:=by
  intro k g b H J O z;refine A.block b (hh.fr k g b H O z).1 ?_;rintro⟨j,cj,t,B,q3⟩;exact(c1.fr j cj b t B q3).2 (a2 H J O z)
 refine⟨kU vs,he,ρn,a5,c6,?_,?_,?_⟩
 ·rw[b5];have:=IR (SP.res_ren S c0);exact this.evo a7 (dR.refl _)
 ·rw[b5];refine⟨λk g s=>?_,λk k' g b6 b s c8 ho c9 y K=>?_,λk g b s ho y=>?_,λk m kt vt X Y s=>?_,λb y=>bu (hh.gs b y) A.size⟩
  ·rcases i s with⟨j,c',G,rfl,rfl,_,e⟩|⟨z,h5⟩
   ·exact(CP.ren S (D.ok j _ e)).evo a7 (dR.refl _) (λ_ _=>rfl)
   ·refine(hh.ok k g z).evo a6.evo a5 λb C=>?_;cases g<;>simp only[Ch.on]at C
    case mit m kt vt X Y=>
     obtain⟨l,hl⟩:=hh.it k m kt vt X Y z;rcases C with C|C
     ·exact U z h5 rfl C
     ·refine U hl (λL=>?_) rfl C;obtain⟨j,R⟩:=a4 m L;obtain⟨g,t,B⟩:=E j m R;rw[hl]at t;simp at t;exact B _ _ _ t.symm
    all_goals first|exact C.elim|exact U z h5 rfl C
  ·rcases i s with⟨j,c',G,rfl,rfl,_,e⟩|⟨z,h5⟩<;>rcases i c8 with⟨j',d9,e0,rfl,rfl,_,e'⟩|⟨a3,d6⟩
   ·obtain⟨t,_⟩:=n e y;obtain⟨d7,_⟩:=n e' K;rw[D.inj j j' _ _ b e e' (CP.own_inst _) (CP.own_inst _) t d7]
   ·obtain⟨t,_⟩:=n e y;rw[u (hh.ok k' _ a3).un]at K;exact absurd (a2 a3 d6 c9 K) (D.fr j _ b e (CP.own_inst _) t).2
   ·obtain⟨t,_⟩:=n e' K;rw[u (hh.ok k _ z).un]at y;exact absurd (a2 z h5 ho y) (D.fr j' _ b e' (CP.own_inst _) t).2
   ·rw[u (hh.ok k _ z).un]at y;rw[u (hh.ok k' _ a3).un]at K;exact hh.inj k k' g b6 b z a3 ho c9 y K
  ·rcases i s with⟨j,c',G,rfl,rfl,_,e⟩|⟨z,h5⟩
   ·obtain⟨t,_⟩:=n e y;obtain⟨s1,s2⟩:=D.fr j _ b e (CP.own_inst _) t;exact⟨s1,λq=>s2 (.inl q)⟩
   ·rw[u (hh.ok k _ z).un]at y;obtain⟨s1,s2⟩:=hh.fr k g b z ho y;exact⟨bu s1 A.size,s2⟩
  ·rcases i s with⟨j,c',G,rfl,e1,Q,_⟩|⟨z,h5⟩
   ·cases c'<;>simp[CP.inst,CP.plain]at e1 Q
   ·obtain⟨l,hl⟩:=hh.it k m kt vt X Y z;refine⟨l,?_⟩
    have L:m∉tu f:=by
     intro L;obtain⟨j,R⟩:=a4 m L;obtain⟨g,t,B⟩:=E j m R;rw[hl]at t;simp at t;exact B _ _ _ t.symm
    rcases hU m with⟨b6,t,B⟩|⟨_,B⟩|⟨t,_⟩
    ·exfalso;obtain⟨j,c,G,_,Q,e3,e4,e5⟩:=HP.mem_inst B;have a8:=(D.ok j _ e5).un;have a9:=(hh.ok m _ hl).un;cases M:aV f j with
     |none=>
      have:m=N+j:=by rw[Q];simp[rn,M]
      have a0:j<W:=by
       by_cases q:p.hp.length<=j
       ·exact absurd (b4 j q) a8
       ·omega
      exact a9 (hN m (by omega) (by omega))
     |some k0=>cases k0 with
      |none=>
       have:m=N+j:=by rw[Q];simp[rn,M]
       have a0:j<W:=by
        by_cases q:p.hp.length<=j
        ·exact absurd (b4 j q) a8
        ·omega
       exact a9 (hN m (by omega) (by omega))
      |some k0=>
       have:m=k0:=by rw[Q];simp[rn,M]
       subst this;exact L (wv M)
    ·exact absurd B L
    ·rw[t];exact hl
 ·rw[b5];exact a6
theorem ww{c:Ct}{f:FuncId}{args:List V}{vals:List Value}{t:Tr (V×dN)}(E:bS P f c)
 (hh:dq F ρ w h) (G:∀k b,get k=some b->h k=some b) (H:∀k,N<=k->k<N+W->ρ k= .un) (B:F2 (aT w (Av F ρ h) ρ) args vals)
 (J:(execOp a.eval o).run P w= .ok (.enter f vals.toArray) w) (i:Ae c args get N W=some t):OW P F ρ w h N W o a t:=by
 intro K Q C;unfold Ae at i;split at i
 case isFalse=>simp at i
 rename_i p;split at i
 case h_2=>simp at i
 rename_i v L u M;split at i
 case isFalse=>simp at i
 rename_i m;simp only[aI]at m;simp at i;subst i;obtain⟨l,rfl,x⟩:=yD M;obtain⟨O,D,R⟩:=jM (l:=l) hh G;have z:F2 (aT w (Av F ρ (bm h (kW l get))) ρ) args vals:=F2.imp (λ_ _=>aT.evo D.evo (dR.refl ρ)) B;obtain⟨S,U,X,Y,g4⟩:=IY (W:=W) O R H z x m.1 m.2;rw[cH]at C;have g:vals.length=c.nargs:=by rw[<-B.length];exact p
 have n:=E (c.inp.put v) _ C S (gf ⟨L,[]⟩ ρ) w vals g (by rw[cg.get_put];exact U) (by rw[cg.get_put,<-g];exact X) Y;unfold Oper.wp;rw[J];show Calls P f _ w _;refine n.mono ?_;rintro e q ⟨y,s,j⟩;unfold DW at s;split at s
 case isFalse=>exact s.elim
 rename_i A;simp only[aI,ai]at A;rw[cg.get_put]at j;obtain⟨r,rfl,ρ',p1,p2,p3,p4,p5⟩:=g4 _ _ e q j A.1 A.2;refine s r q ⟨ρ',p1,p2,?_,?_,?_⟩
 ·show aT _ (Av F ρ' (bm h (kW l get++_))) ρ' _ _;rw[cF];exact p3
 ·show dq F ρ' q (bm h (kW l get++_));rw[cF];exact p4
 ·show Mv ρ w h ρ' q (bm h (kW l get++_));rw[cF];exact D.trans p5
theorem nH{f:FuncId}{args:List V}{vals:List Value}(e:eY P f=true)
 (hh:dq F ρ w h) (j:∀k b,get k=some b->h k=some b) (m:∀k,N<=k->k<N+W->ρ k= .un) (n:F2 (aT w (Av F ρ h) ρ) args vals)
 (g:(execOp a.eval o).run P w=(callFunc f vals.toArray).run P w):∀(l:List Ct),(∀c∈l,bS P f c)->OW P F ρ w h N W o a (kY l args get N W)
 |[],_=>OW.stuck
 |c::r,p=>by
  simp only[kY];rw[jL e]at g;split
  ·rename_i t q;exact ww (p c (by simp)) hh j m n g q
  ·exact nH e hh j m n (by rw[jL e];exact g) r (λs i=>p s (aA _ i))
end
end
section
def B5:fu->Nat->fu
 |[],_=>[]
 |p::r,k=>if p.1=k then B5 r k else p::B5 r k
def DY:fu->Nat->Ch->fu
 |[],k,c=>[(k,c)]
 |p::r,k,c=>if p.1=k then(k,c)::r else p::DY r k c
def mR:fu->dN->fu
 |h,[]=>h
 |h,(k,none)::r=>mR (B5 h k) r
 |h,(k,some c)::r=>mR (DY h k c) r
theorem qX:∀(h:fu)(k:Nat),aV (B5 h k)=cO (aV h) k none
 |[],k=>by funext j;simp[B5,aV,cO]
 |p::r,k=>by
  funext j;have b:=congrFun (qX r k) j;simp only[B5];split
  ·rename_i e;rw[b];simp only[cO,aV];split
   ·rfl
   ·rw[af (by omega)]
  ·rename_i e;simp only[aV,cO]at b⊢;split
   ·rename_i c;rw[af (by omega)]
   ·exact b
theorem qY:∀(h:fu)(k:Nat)(c:Ch),aV (DY h k c)=cO (aV h) k (some c)
 |[],k,c=>by
  funext j;simp only[DY,aV,cO];by_cases e:k=j
  ·simp[e]
  ·rw[af e,af (by omega)]
 |p::r,k,c=>by
  funext j;have b:=congrFun (qY r k c) j;simp only[DY];split
  ·rename_i e;simp only[aV,cO];by_cases f:k=j
   ·simp[f]
   ·rw[af f,af (by omega),af (by omega)]
  ·rename_i e;simp only[aV,cO]at b⊢;split
   ·rename_i g;rw[af (by omega)]
   ·exact b
theorem dO:∀(u:dN)(h:fu),aV (mR h u)=bm (aV h) u
 |[],_=>rfl
 |(k,none)::r,h=>by simp only[mR,bm];rw[dO r,qX]
 |(k,some c)::r,h=>by simp only[mR,bm];rw[dO r,qY]
def wx(l:List (Nat×Nat)):List V:=l.map λp=>sc (.ptr p.1 p.2)
def cmpNm:String:=(Extern.BytealgCompare.rows.map Prod.fst).headD ""
def DZ(P:Program)(g:FuncId):Bool:=match P.funcs[g]? with
 |some fn=>fn.name==cmpNm&&fn.origin== "" &&fn.body.isNone
 |none=>false
def jN(a b:List (BitVec 8)):Int:=Extern.BytealgCompare.cmp (bH a) (bH b)
def IZ(vs:List V):Tr (V×dN):=match vs with
 |[x,y]=>match x.asD (.sl .u8),y.asD (.sl .u8)with
  |some a,some b=> .leaf (sc (.d .i64 (jN a b)),[])
  |_,_=> .stuck
 |_=> .stuck
def B6(P:Program)(Γ:bw)(o:Oper)(e:Operand->V)(get:Nat->Option Ch)(N W:Nat):Tr (V×dN):=
 match o.op with
 | .call c=>match c.callee with
   | .value f=>match(e f).one? with
     |some (.fn g first cap)=>if DZ P g then IZ (wx first++(c.args.toList.map e++wx cap))else kY (kV Γ g) (wx first++(c.args.toList.map e++wx cap)) get N W
     |_=> .stuck
   | .invoke recv name=>match(e recv).one? with
     |some (.ifc t k i)=>match B1 P t name with
      |some (g,b)=>if b=true/\oq P t=true then kY (kV Γ g) (sc (.ptr k i)::c.args.toList.map e) get N W else .stuck
      |none=> .stuck
     |_=> .stuck
   | .builtin _=>kS P o e get N
 |_=>kS P o e get N
section
variable{P:Program}{F:Nat->Prop}{ρ:Nat->Pl}{w:World}{h get:Nat->Option Ch}{N W:Nat}{a:Act}{o:Oper}{Γ:bw}
theorem kZ{A:Nat->Prop}:∀{l:List (Nat×Nat)}{vs:List Value},F2 (kH ρ) l vs->F2 (aT w A ρ) (wx l) vs
 |[],[],_=>trivial
 |_::_,v::_,⟨b,c⟩=>⟨aJ.2 ⟨v,b,rfl⟩,kZ c⟩
theorem yE{t:TypeId}{name:String}{f:FuncId}{n:Nat}{v:Value}(h:B1 P t name=some (f,true))(b:oq P t=true):(method (n+1) t v name).run P w= .ok (f,v) w:=by
 obtain⟨i,m,c,g,j,l⟩:=Ac h;have p:(typeInfo t).run P w= .ok i w:=by simp[typeInfo,c]
 unfold oq at b;split at b
 case h_2=>simp at b
 rename_i e q;simp only[method,bF,p,aX,g,j,follow,bA,l,receiverAt,run_underlying q,Place.get]
theorem pm{A:Nat->Prop}{l:List (BitVec 8)}{v:Value}(h:iI w A (.sl .u8) l v):(Extern.Bytes.bytesOf v).run P w= .ok (bH l) w:=by
 obtain⟨z,i,f⟩:=h;obtain⟨u,rfl,m⟩:=i;simp[Ty.agg]at f;subst f;rcases m with⟨b,c,cap,n,rfl,_,_,_,p,q⟩|⟨rfl,a,rfl⟩
 ·have r:n=rZ cm l:=kN.1 p
  have:=Lib.run_loadBytesX (P:=P) w (l.map λx=>(x.toNat:Int)) ⟨b,c,none⟩ .empty (λj x g=>by
   have e:(⟨b,c,none⟩:Addr).add j=⟨b,c+j,none⟩:=by unfold Addr.add;split<;>simp_all
   rw[e];refine q j _ ?_;rw[r];simp only[List.getElem?_map,mj]at g⊢;obtain⟨y,s,t⟩:=g;exact⟨y,s,by simp[cm,t]⟩)
  rw[bT]at this;simp only[Extern.Bytes.bytesOf,this]
  congr 1
  apply ByteArray.ext;simp[bH,Lib.bytesOf,ByteArray.empty,ByteArray.emptyWithCapacity];show rZ _ l=_;refine List.map_congr_left λx _=>?_;apply UInt8.toNat.inj;simp
 ·cases a with
  |none=>rfl
  |some a=>rfl
theorem D0{fn:Func}(h:fn.name=cmpNm):Extern.find fn=some Extern.BytealgCompare.compare:=by
 unfold Extern.find;rw[h];kernel_rfl
theorem uK{fn:Func}(h:fn.name=cmpNm)(b:fn.origin= ""):Extern.findNext fn=none:=by
 unfold Extern.findNext;rw[h,b];kernel_rfl
theorem I0{A:Nat->Prop}{g:FuncId}{a b:List (BitVec 8)}{u v:Value}(c:DZ P g=true)(j:iI w A (.sl .u8) a u)(l:iI w A (.sl .u8) b v):
 (callFunc g #[u,v]).run P w= .ok (.value (.int .i64 (jN a b))) w:=by
 unfold DZ at c;cases f:P.funcs[g]? with
 |none=>simp[f]at c
 |some fn=>
  simp only[f,aI,aR]at c;obtain⟨⟨i,m⟩,n⟩:=c;have p:fn.body=none:=by simpa using n
  have q:(Go.program).run P w= .ok P w:=rfl;have r:(fn.name== "runtime.NumGoroutine")=false:=by rw[i];decide
  simp only[callFunc,bF,q,aX,f,r,p,Option.isNone_none,uK i m,D0 i];have e:Extern.BytealgCompare.compare #[u,v]=(do pure (goInt (Extern.BytealgCompare.cmp (<-Extern.Bytes.bytesOf u) (<-Extern.Bytes.bytesOf v)))):=rfl
  have s:(Extern.BytealgCompare.compare #[u,v]).run P w= .ok (.int .i64 (jN a b)) w:=by
   rw[e];simp only[bF,pm j,pm l,aX,bA];rfl
  have t:∀x,(mark x).run P w= .ok () w:=λ_=>rfl;simp[t,s]
theorem tv(hΓ:aQ P Γ){E:Operand->V}(hh:dq F ρ w h)(hg:∀k b,get k=some b->h k=some b)(i:∀x,aT w (Av F ρ h) ρ (E x) (a.eval x))(hN:∀k,N<=k->k<N+W->ρ k= .un)(hW:0<W):
 OW P F ρ w h N W o a (B6 P Γ o E get N W):=by
 have m:OW P F ρ w h N W o a (kS P o E get N):=wn hh hg i (hN N (aD _) (by omega)) hW;unfold B6;split
 case h_2=>exact m
 rename_i c p;obtain⟨callee,args,ts⟩:=c;simp only
 have j:∀(g:FuncId)(G:List V)(H:List Value),F2 (aT w (Av F ρ h) ρ) G H->(execOp a.eval o).run P w=(callFunc g H.toArray).run P w->OW P F ρ w h N W o a (kY (kV Γ g) G get N W):=by
  intro g G H J L;cases hc:kV Γ g with
  |nil=>exact OW.stuck
  |cons c0 r0=>
   have q:=(hΓ.get (f:=g) (c:=c0) (by rw[hc];simp)).1;rw[<-hc];exact nH q hh hg hN J L _ (λc M=>(hΓ.get M).2)
 split
 ·rename_i f;split
  case h_2=>exact OW.stuck
  rename_i g first cap hf
  obtain⟨O,R,r,s,h3⟩:=aN hf (i f);simp at r;split
  ·rename_i z;have e:=F2.append (kZ (A:=Av F ρ h) (w:=w) s) (F2.append (jK i args.toList) (kZ h3));unfold IZ;split
   case h_2=>exact OW.stuck
   rename_i x y S;split
   case h_2=>exact OW.stuck
   rename_i da db U X;rw[S]at e
   obtain⟨u,v,Y,hu,J⟩:∃u v,O++(args.toList.map a.eval++R)=[u,v]/\aT w (Av F ρ h) ρ x u/\aT w (Av F ρ h) ρ y v:=by
    generalize O++(args.toList.map a.eval++R)=l at e
    match l,e with
    |[u,v],⟨q1,q2,_⟩=>exact⟨u,v,rfl,q1,q2⟩
   have B:=I0 z (V.asD_ok U hu) (V.asD_ok X J);intro K Q hs;unfold Oper.wp
   have L:(execOp a.eval o).run P w=(callFunc g #[u,v]).run P w:=by
    simp only[execOp,p,resolve,r,Deferred.ofValue,bF,bA,aX,invoke]
    congr 2
    apply Array.ext';have:=Y;simp at this⊢;exact this
   rw[L,B];exact hs _ _ (bM.pure hh (aJ.2 rfl))
  refine j g _ (O++(args.toList.map a.eval++R)) (F2.append (kZ s) (F2.append (jK i _) (kZ h3))) ?_;simp only[execOp,p,resolve,r,Deferred.ofValue,bF,bA,aX,invoke]
  congr 2
  apply Array.ext';simp
 ·rename_i recv name;split
  case h_2=>exact OW.stuck
  rename_i t k a1 hr;split
  case h_2=>exact OW.stuck
  rename_i g b hm;split
  case isFalse=>exact OW.stuck
  rename_i hb;obtain⟨rfl,hp⟩:=hb;obtain⟨v,r,s⟩:=aN hr (i recv);simp at s;refine j g _ (v::args.toList.map a.eval) ⟨aJ.2 ⟨v,r,rfl⟩,jK i _⟩ ?_;have a0:(Go.program).run P w= .ok P w:=rfl;have hd:P.types.size+Made.depth=(P.types.size+(Made.depth-1))+1:=rfl;have C:=yE (w:=w) (n:=P.types.size+(Made.depth-1)) (v:=v) hm hp;rw[<-hd]at C;simp only[execOp,p,resolve,s,bF,bA,aX,invoke];have D:(#[Value.iface t v]++Array.map a.eval args)[0]?=some (Value.iface t v):=by rw[Array.getElem?_append_left (by simp)];rfl
  simp only[D,callMethod,bF,a0,aX,C]
  congr 2
  apply Array.ext';simp;exact bf (by simp)
 ·exact m
end
structure St where
 slots:List V
 heap:fu
 next:Nat
def eZ(slots:List V)(dst:Option Tmp)(x:V):List V:=
 match dst with
 |some d=>slots.set d x
 |none=>slots
theorem nJ{w:World}{A:Nat->Prop}{ρ:Nat->Pl}{slots:List V}{a:Act}(h:F2 (aT w A ρ) slots a.tmps.toList)(dst:Option Tmp){x:V}{v:Value}(b:aT w A ρ x v):F2 (aT w A ρ) (eZ slots dst x) (a.put dst v).tmps.toList:=by
 cases dst with
 |none=>exact h
 |some d=>
  simp only[eZ,Act.put,Array.toList_setIfInBounds];exact h.set d b
structure eP where
 F:Nat->Prop
 ρ:Nat->Pl
 w:World
 h:Nat->Option Ch
 n:Nat
 dk:Bool
def mark(D:Nat):Deferred:={target:= .collected D,args:= #[]}
def wy(B:eP)(ρ:Nat->Pl)(w:World)(h:Nat->Option Ch)(b:List Deferred):Prop:=
 ∃l:List Nat,b=l.map mark/\l.Nodup/\∀D∈l,B.dk=true/\B.w.heap.size<=D/\D<w.heap.size/\w.heap[D]?=some (.deferred (some []))/\¬oW ρ h D
theorem wy.nil{B:eP}{ρ:Nat->Pl}{w:World}{h:Nat->Option Ch}{b:List Deferred}(e:b=[]):wy B ρ w h b:=⟨[],e,List.nodup_nil,λ_ c=>by simp at c⟩
theorem wy.no{B:eP}{ρ:Nat->Pl}{w:World}{h:Nat->Option Ch}{b:List Deferred}(c:wy B ρ w h b)(e:B.dk=false):b=[]:=by
 obtain⟨l,rfl,_,f⟩:=c;cases l with
 |nil=>rfl
 |cons D l=>have:=(f D (aG ..)).1;rw[e]at this;cases this
theorem wy.mv{B:eP}{ρ ρ':Nat->Pl}{w w':World}{h h':Nat->Option Ch}{f:List Deferred}(i:wy B ρ w h f)(b:Mv ρ w h ρ' w' h'):wy B ρ' w' h' f:=
 let⟨l,e,j,m⟩:=i
 ⟨l,e,j,λD n=>let⟨p,r,c,s,g⟩:=m D n;⟨p,r,bu c b.size,(b.block D c g).trans s,λq=>g (b.own D c q)⟩⟩
theorem wy.own{B:eP}{ρ ρ':Nat->Pl}{w:World}{h h':Nat->Option Ch}{c:List Deferred}(g:wy B ρ w h c)(i:∀b,b<w.heap.size->oW ρ' h' b->oW ρ h b):wy B ρ' w h' c:=
 let⟨l,e,j,m⟩:=g
 ⟨l,e,j,λD n=>let⟨p,r,f,s,t⟩:=m D n;⟨p,r,f,s,λq=>t (i D f q)⟩⟩
structure fv(R:Nat)(B:eP)(σ:St)(ρ:Nat->Pl)(a:Act)(w:World):Prop where
 defers:wy B ρ w (aV σ.heap) a.defers
 slots:F2 (aT w (Av B.F ρ (aV σ.heap)) ρ) σ.slots a.tmps.toList
 heap:dq B.F ρ w (aV σ.heap)
 mv:Mv B.ρ B.w B.h ρ w (aV σ.heap)
 fresh:∀k,σ.next<=k->ρ k= .un
 root:∀k,k<R->ρ k=B.ρ k\/ρ k= .un
 rn:R<=σ.next
 len:a.tmps.size=B.n
theorem jp(a:Act)(dst:Option Tmp)(v:Value):(a.put dst v).tmps.size=a.tmps.size:=by
 cases dst<;>simp[Act.put]
theorem fv.step{R:Nat}{B:eP}{σ:St}{ρ:Nat->Pl}{a:Act}{w w':World}{W:Nat}{y:V}{u:dN}{v:Value}{dst:Option Tmp}(b:fv R B σ ρ a w)(l:bM B.F ρ w (aV σ.heap) σ.next W y u v w'):
 ∃ρ',dR ρ ρ'/\fv R B ⟨eZ σ.slots dst y,mR σ.heap u,σ.next+W⟩ ρ' (a.put dst v) w':=by
 obtain⟨ρ',c,i,m,n,f⟩:=l;refine⟨ρ',c,?_,nJ (F2.imp (λ_ _=>aT.evo (by rw[dO];exact f.evo) c) b.slots) dst (by rw[dO];exact m),by rw[dO];exact n,by rw[dO];exact b.mv.trans f,λk g=>?_,λk g=>?_,?_,(jp ..).trans b.len⟩
 ·rw[dO];cases dst<;>exact b.defers.mv f
 ·by_cases e:ρ' k= .un
  ·exact e
  ·simp only at g;have:=i k (b.fresh k (by omega)) e;omega
 ·by_cases e:ρ k= .un
  ·by_cases j:ρ' k= .un
   ·exact .inr j
   ·have:=i k e j;have:=b.rn;omega
  ·rw[c k e];exact b.root k g
 ·have:=b.rn;simp only;omega
inductive Wa where
 |yes
 |no
 |ask (t:Nat) (b want:Bool)
 |bad
def gB(ops:Array Oper)(slots:List V)(o:Oper):Wa:=
 match o.guard with
 |none=> .yes
 |some (j,c)=>
  match(ops[j]?).bind (·.dst)with
  |none=> .no
  |some t=>
   match slots.getD t (.tup [])with
   | .val false [.k (.bool b)]=>if b==c then .yes else .no
   | .val false [.d .bl b]=> .ask t b c
   | .tup []=> .no
   |_=> .bad
section
variable{w:World}{A:Nat->Prop}{ρ:Nat->Pl}{slots:List V}{a:Act}{ops:Array Oper}{o:Oper}
theorem B7{j:Nat}{b:Bool}{t:Nat}(e:o.guard=some (j,b))(f:(ops[j]?).bind (·.dst)=some t):Region.wanted o (yielded ops a.tmps)=match a.tmps[t]? with
 |some (.bool c)=>c==b
 |_=>false:=by
 unfold Region.wanted;rw[e];simp only[yielded,f,Option.bind_some];cases g:a.tmps[t]? with
 |none=>simp
 |some z=>cases z<;>simp
theorem mS(h:F2 (aT w A ρ) slots a.tmps.toList):
 (gB ops slots o= .yes->Region.wanted o (yielded ops a.tmps)=true)/\(gB ops slots o= .no->Region.wanted o (yielded ops a.tmps)=false)/\
 (∀t b f,gB ops slots o= .ask t b f->Region.wanted o (yielded ops a.tmps)=(b==f)/\slots[t]?=some (.val false [.d .bl b])/\a.tmps[t]?=some (.bool b)):=by
 unfold gB;cases p:o.guard with
 |none=>simp[Region.wanted,p]
 |some v=>
  obtain⟨j,f⟩:=v;simp only;cases s:(ops[j]?).bind (·.dst)with
  |none=>
   simp only[reduceCtorEq,false_implies,implies_true,true_implies,and_true,true_and];unfold Region.wanted;rw[p];simp[yielded,s]
  |some t=>
   simp only;rw[B7 p s];have e:=fC h (.tmp t);simp only[dt,Act.eval]at e
   have n:∀c,a.tmps.getD t undef= .bool c->a.tmps[t]?=some (.bool c):=by
    intro c q;cases l:a.tmps[t]? with
    |none=>simp[l,undef]at q
    |some z=>simp[l]at q;rw[q]
   split
   ·rename_i b g;rw[g]at e;have i:=aJ.1 e;simp[bj,Sc.val]at i;have m:=n b (by simpa using i);rw[m];split<;>simp_all
   ·rename_i b g;rw[g]at e;have i:=aJ.1 e;simp[bj,Rd]at i;have m:=n b (by simpa using i);simp only[reduceCtorEq,false_implies,true_and,Wa.ask.injEq];rintro y B r ⟨rfl,rfl,rfl⟩;rw[m];refine⟨rfl,?_,rfl⟩;simp only[bB]at g;cases l:slots[t]? with
    |none=>simp[l]at g
    |some z=>simp[l]at g;rw[g]
   ·rename_i g;rw[g]at e;obtain⟨u,i,x⟩:=e;have:u=[]:=by match u,x with|[],_=>rfl
    subst this;simp only[reduceCtorEq,false_implies,implies_true,true_implies,and_true,true_and];cases l:a.tmps[t]? with
    |none=>rfl
    |some z=>
     simp[l]at i;subst i;rfl
   ·simp
end
end
section
def Live{R:Type}(t:Tr R):Prop:=∀Q,t.sat Q->∃q,Q q
namespace Live
variable{R S:Type}
theorem stuck:Live (.stuck:Tr R):=λ_ h=>h.elim
theorem leaf{r:R}:Live (.leaf r):=λ_ h=>⟨r,h⟩
theorem need{p:Prop}{x:Tr R}(h:p->Live x):Live (.need p x):=λQ a=>h a.1 Q a.2
theorem ite{b:Bool}{x y:Tr R}(h:b=true->Live x)(h':b=false->Live y):Live (.ite b x y):=λQ a=>by
 cases b
 ·exact h' rfl Q (a.2 rfl)
 ·exact h rfl Q (a.1 rfl)
theorem all{β:Type}{p:β->Prop}{k:β->Tr R}(h:∃b,p b/\Live (k b)):Live (.all β p k):=λQ a=>let⟨b,c,e⟩:=h;e Q (a b c)
theorem needs{l:List Prop}{x:Tr R}(h:Live x):Live (.needs l x):=by
 induction l with
 |nil=>exact h
 |cons p r a=>exact need λ_=>a
theorem ofOpt{x:Option R}:Live (Tr.ofOpt x):=by
 cases x
 ·exact stuck
 ·exact leaf
theorem bind{t:Tr R}{f:R->Tr S}(h:Live t)(b:∀r,Live (f r)):Live (t.bind f):=λQ a=>by
 rw[cH]at a;obtain⟨r,c⟩:=h _ a;exact b r Q c
end Live
theorem lb{R S:Type}{A:Tr R}(a:Live A):∀{B:Tr S}{Q:R->S->Prop},(A.sat λr=>B.sat (Q r))->B.sat λs=>A.sat λr=>Q r s
 | .leaf _,_,h=>h
 | .ite _ x y,_,h=>⟨λc=>lb a (B:=x) (bX (λ_ q=>q.1 c) h),λc=>lb a (B:=y) (bX (λ_ q=>q.2 c) h)⟩
 | .need _ x,_,h=>⟨let⟨_,e⟩:=a _ h;e.1,lb a (B:=x) (bX (λ_ q=>q.2) h)⟩
 | .all _ _ k,_,h=>λb c=>lb a (B:=k b) (bX (λ_ q=>q b c) h)
 | .fin,_,_=>trivial
 | .stuck,_,h=>let⟨_,e⟩:=a _ h;e.elim
section
variable{P:Program}{get:Nat->Option Ch}{N W:Nat}
theorem nK{R:Type}{j:Int}{f:Nat->Tr R}(a:∀q,Live (f q)):∀(n k:Nat),Live (iS j f n k):=by
 intro n
 induction n with
 |zero=>intro k;unfold iS;(repeat' (first|split|exact Live.stuck|exact Live.leaf|exact Live.ofOpt|exact Live.needs Live.leaf|(refine Live.need λ_=>?_)|(refine Live.ite (λ_=>?_) (λ_=>?_))));rename_i h;exact h.elim
 |succ n b=>intro k;unfold iS;(repeat' (first|split|exact Live.stuck|exact Live.leaf|exact Live.ofOpt|exact Live.needs Live.leaf|(refine Live.need λ_=>?_)|(refine Live.ite (λ_=>?_) (λ_=>?_))));all_goals first|exact a _|exact b _
theorem pD{t:TypeId}{x i:V}:Live (fI P t x i get):=by
 unfold fI;(repeat' (first|split|exact Live.stuck|exact Live.leaf|exact Live.ofOpt|exact Live.needs Live.leaf|(refine Live.need λ_=>?_)|(refine Live.ite (λ_=>?_) (λ_=>?_))));exact nK (λ_=>Live.leaf) _ _
theorem wz{t:TypeId}{x i:V}:Live (qv P t x i):=by
 unfold qv;(repeat' (first|split|exact Live.stuck|exact Live.leaf|exact Live.ofOpt|exact Live.needs Live.leaf|(refine Live.need λ_=>?_)|(refine Live.ite (λ_=>?_) (λ_=>?_))));exact nK (λ_=>Live.ofOpt) _ _
theorem wA{t:TypeId}{x:V}{lo hi a:Option V}:Live (jH P t x lo hi a get N):=by
 unfold jH;(repeat' (first|split|exact Live.stuck|exact Live.leaf|exact Live.ofOpt|exact Live.needs Live.leaf|(refine Live.need λ_=>?_)|(refine Live.ite (λ_=>?_) (λ_=>?_))))
 all_goals (unfold jH.cut;(repeat' (first|split|exact Live.stuck|exact Live.leaf|exact Live.ofOpt|exact Live.needs Live.leaf|(refine Live.need λ_=>?_)|(refine Live.ite (λ_=>?_) (λ_=>?_)))))
theorem uL{t:TypeId}{x y:V}:Live (ny P t x y get N):=by unfold ny;(repeat' (first|split|exact Live.stuck|exact Live.leaf|exact Live.ofOpt|exact Live.needs Live.leaf|(refine Live.need λ_=>?_)|(refine Live.ite (λ_=>?_) (λ_=>?_))))
theorem sy{t a:TypeId}{x y:V}:Live (aappendZ P t a x y get N):=by unfold aappendZ;(repeat' (first|split|exact Live.stuck|exact Live.leaf|exact Live.ofOpt|exact Live.needs Live.leaf|(refine Live.need λ_=>?_)|(refine Live.ite (λ_=>?_) (λ_=>?_))))
theorem yF{t:TypeId}{x y:V}:Live (wa P t x y N):=by unfold wa;(repeat' (first|split|exact Live.stuck|exact Live.leaf|exact Live.ofOpt|exact Live.needs Live.leaf|(refine Live.need λ_=>?_)|(refine Live.ite (λ_=>?_) (λ_=>?_))))
theorem sA{t a:TypeId}{x:V}:Live (kQ P t a x get):=by unfold kQ;(repeat' (first|split|exact Live.stuck|exact Live.leaf|exact Live.ofOpt|exact Live.needs Live.leaf|(refine Live.need λ_=>?_)|(refine Live.ite (λ_=>?_) (λ_=>?_))))
theorem yG{x:V}{b:Bool}:Live (wj x b get):=by
 unfold wj
 (repeat' (first|split|exact Live.stuck|exact Live.leaf|exact Live.ofOpt|exact Live.needs Live.leaf|(refine Live.need λ_=>?_)|(refine Live.ite (λ_=>?_) (λ_=>?_))))
 all_goals
  rename_i a _ _ c;cases a with
  |nil=>simp at c
  |cons z r=>exact Live.all ⟨(z,r),List.Perm.refl _,Live.leaf⟩
theorem wB{a:BinOp}{t:TypeId}{x y:V}:Live (qL P a t x y):=by
 unfold qL xU;(repeat' (first|split|(exact Live.all ⟨false,by simp,Live.leaf⟩)|exact Live.stuck|exact Live.leaf|exact Live.ofOpt|exact Live.needs Live.leaf|(refine Live.need λ_=>?_)|(refine Live.ite (λ_=>?_) (λ_=>?_))))
theorem nL{t:TypeId}{len:Nat}{parts:List (Nat×V)}:Live (fW P t len parts get N):=by
 unfold fW;split
 ·exact Live.leaf
 ·exact Live.stuck
theorem yH{o:Oper}{a:Operand->V}:Live (kS P o a get N):=by
 unfold kS xU;split<;>first|exact Live.leaf|exact Live.ofOpt|exact nL|exact wB|exact sA|exact yF|exact wA|exact pD|exact wz|exact yG|exact Live.stuck|skip
 ·(repeat' (first|split|exact Live.stuck|exact Live.leaf|exact Live.ofOpt|exact Live.needs Live.leaf|(refine Live.need λ_=>?_)|(refine Live.ite (λ_=>?_) (λ_=>?_))))
 ·unfold IQ;(repeat' (first|split|exact Live.stuck|exact Live.leaf|exact Live.ofOpt|exact Live.needs Live.leaf|(refine Live.need λ_=>?_)|(refine Live.ite (λ_=>?_) (λ_=>?_))))
 ·unfold lE;(repeat' (first|split|exact Live.stuck|exact Live.leaf|exact Live.ofOpt|exact Live.needs Live.leaf|(refine Live.need λ_=>?_)|(refine Live.ite (λ_=>?_) (λ_=>?_))))
 ·split
  ·unfold qM xU;split<;>first|exact Live.ofOpt|exact Live.stuck|skip
   split
   ·exact uL
   ·exact sy
  ·exact Live.stuck
end
def bg(Γ:bw):Prop:=∀p∈Γ,∀c∈p.2,∀x,Live (c.spec x)
theorem bg.get{Γ:bw}(h:bg Γ){f:FuncId}{c:Ct}(a:c∈kV Γ f)(x:c.inp.den):Live (c.spec x):=by
 induction Γ with
 |nil=>simp[kV]at a
 |cons p r b=>
  simp only[kV]at a;split at a
  ·rename_i e;subst e;exact h p (by simp) c a x
  ·exact b (λq g=>h q (aA _ g)) a
theorem wC{l:List Ct}{args:List V}{get:Nat->Option Ch}{N W:Nat}(h:∀c∈l,∀x,Live (c.spec x)):Live (kY l args get N W):=by
 induction l with
 |nil=>exact Live.stuck
 |cons c r e=>
  simp only[kY];split
  ·rename_i t a;unfold Ae at a;split at a
   case isFalse=>simp at a
   split at a
   case h_2=>simp at a
   split at a
   case isFalse=>simp at a
   simp at a;subst a;refine Live.bind (h c (by simp) _) λy=>?_;unfold DW;split
   ·exact Live.leaf
   ·exact Live.stuck
  ·exact e λf b=>h f (aA _ b)
theorem B8{vs:List V}:Live (IZ vs):=by
 unfold IZ
 (repeat' split)<;>first|exact Live.leaf|exact Live.stuck
theorem wD{P:Program}{Γ:bw}(h:bg Γ){o:Oper}{a:Operand->V}{get:Nat->Option Ch}{N W:Nat}:Live (B6 P Γ o a get N W):=by
 unfold B6
 repeat' split
 all_goals first|exact Live.stuck|exact yH|exact wC (λc b x=>h.get b x)|exact B8
end
section
def oA(a:List Nat)(o:Oper):Nat:=
 o.after.toList.foldl (λm e=>if Region.binds .any e then m|||(1<<<e.on)|||a.getD e.on 0 else m) 0
def lF(ops:List Oper):List Nat:=ops.foldl (λa o=>a++[oA a o]) []
def pV:List Oper->Nat->Bool
 |[],_=>true
 |o::r,k=>(o.after.toList.all λe=> !(Region.binds .any e)||decide (e.on<k))&&pV r (k+1)
def uM(ops:Array Oper)(a:List Nat)(i j:Nat)(x y:Oper):Bool:=
 (a.getD j 0).testBit i||x.apart ops y
def Ag(ops:Array Oper)(a:List Nat)(i:Nat)(x:Oper):List Oper->Nat->Bool
 |[],_=>true
 |y::r,j=>uM ops a i j x y&&Ag ops a i x r (j+1)
def pW(ops:Array Oper)(a:List Nat):List Oper->Nat->Bool
 |[],_=>true
 |x::r,i=>Ag ops a i x r (i+1)&&pW ops a r (i+1)
def wE(ops:List Oper):Bool:=pV ops 0&&pW ops.toArray (lF ops) ops 0
theorem qZ:∀(l:List Oper)(k i:Nat)(o:Oper),pV l k=true->l[i]?=some o->∀e∈o.after,Region.binds .any e=true->e.on<k+i:=by
 intro l
 induction l with
 |nil=>intro k i o _ a;simp at a
 |cons q r f=>
  intro k i o h a e b c;simp only[pV,aI,cU]at h;cases i with
  |zero=>
   simp at a;subst a;have:=h.1 e (Array.mem_toList_iff.2 b);simp only[c,Bool.not_true,Bool.false_or,ai]at this;omega
  |succ i=>
   have:=f (k+1) i o h.2 (by simpa using a) e b c;omega
theorem D1{ops:Array Oper}{a:List Nat}{i:Nat}{x:Oper}:∀(l:List Oper)(k j:Nat)(y:Oper),Ag ops a i x l k=true->l[j]?=some y->uM ops a i (k+j) x y=true:=by
 intro l
 induction l with
 |nil=>intro k j y _ b;simp at b
 |cons q r c=>
  intro k j y h b;simp only[Ag,aI]at h;cases j with
  |zero=>
   simp at b;subst b;exact h.1
  |succ j=>
   have:=c (k+1) j y h.2 (by simpa using b)
   rwa [eO,eJ 1 j]at this
theorem yI{ops:Array Oper}{a:List Nat}:∀(l:List Oper)(k i j:Nat)(x y:Oper),pW ops a l k=true->l[i]?=some x->l[j]?=some y->i<j->uM ops a (k+i) (k+j) x y=true:=by
 intro l
 induction l with
 |nil=>intro k i j x y _ e;simp at e
 |cons q r f=>
  intro k i j x y h b c g;simp only[pW,aI]at h;cases j with
  |zero=>omega
  |succ j=>
   cases i with
   |zero=>
    simp at b;subst b;have:=D1 r (k+1) j y h.1 (by simpa using c)
    rwa [eO,eJ 1 j]at this
   |succ i=>
    have:=f (k+1) i j x y h.2 (by simpa using b) (by simpa using c) (by omega)
    rwa [eO,eJ 1 i,eO,eJ 1 j]at this
theorem tz(a:List Nat):∀(l:List Edge)(m p:Nat),(l.foldl (λm e=>if Region.binds .any e then m|||(1<<<e.on)|||a.getD e.on 0 else m) m).testBit p=true->
 m.testBit p=true\/∃e∈l,Region.binds .any e=true/\(p=e.on\/(a.getD e.on 0).testBit p=true)
 |[],m,p,h=> .inl h
 |e::l,m,p,h=>by
  simp only[List.foldl_cons]at h;rcases tz a l _ p h with h|⟨c,f,g⟩
  ·split at h
   ·rename_i b;simp only[Nat.testBit_or,iH]at h;rcases h with(h|h)|h
    ·exact .inl h
    ·refine .inr ⟨e,aG ..,b, .inl ?_⟩;rw[Nat.shiftLeft_eq,Nat.one_mul,Nat.testBit_two_pow]at h;simp at h;exact h.symm
    ·exact .inr ⟨e,aG ..,b, .inr h⟩
   ·exact .inl h
  ·exact .inr ⟨c,aA _ f,g⟩
theorem q9:∀(l:List Oper)(a:List Nat),∃t,l.foldl (λa o=>a++[oA a o]) a=a++t/\t.length=l.length/\
 ∀i o,l[i]?=some o->t[i]?=some (oA (a++t.take i) o)
 |[],a=>⟨[],by simp,rfl,λi o h=>by simp at h⟩
 |o::l,a=>by
  obtain⟨t,c,e,f⟩:=q9 l (a++[oA a o]);refine⟨oA a o::t,by simp only[List.foldl_cons];rw[c];simp,by simp[e],λi q b=>?_⟩;cases i with
  |zero=>simp at b;subst b;simp
  |succ i=>
   have:=f i q (by simpa using b);simp only[List.getElem?_cons_succ,this,List.take_succ_cons];simp
theorem ra{ops:List Oper}{q p:Nat}(h:((lF ops).getD q 0).testBit p=true):
 ∃o,ops[q]?=some o/\∃e∈o.after,Region.binds .any e=true/\(p=e.on\/(e.on<q/\((lF ops).getD e.on 0).testBit p=true)):=by
 obtain⟨t,c,l,f⟩:=q9 ops [];have g:lF ops=t:=by unfold lF;rw[c];simp
 rw[g]at h⊢;cases a:ops[q]? with
 |none=>
  have:t[q]?=none:=by rw[List.getElem?_eq_none_iff]at a⊢;omega
  simp[bB,this]at h
 |some o=>
  have b:=f q o a;simp only[eS]at b;simp only[bB,b,di]at h;refine⟨o,rfl,?_⟩;unfold oA at h;rcases tz _ _ _ _ h with h|⟨e,i,j,h⟩
  ·simp at h
  ·refine⟨e,Array.mem_toList_iff.1 i,j,?_⟩;rcases h with h|h
   ·exact .inl h
   ·right;simp only[bB,List.getElem?_take]at h;split at h
    ·exact⟨‹_›,by simpa[bB]using h⟩
    ·simp at h
section
variable{P:Program}{ops:Array Oper}
abbrev mk(ops:Array Oper)(i:Nat):Nat:=(lF ops.toList).getD i 0
def lG(ops:Array Oper)(a:Array Bool):Prop:=∀m o,a.getD m false=true->ops[m]?=some o->∀e∈o.after,Region.binds .any e=true->a.getD e.on false=true
theorem wF{a:Array Bool}(f:lG ops a):∀(q p:Nat),a.getD q false=true->(mk ops q).testBit p=true->a.getD p false=true:=by
 intro q
 induction q using Nat.strongRecOn with
 |_ q g=>
  intro p i j;obtain⟨o,l,e,m,n,h⟩:=ra j;have c:ops[q]?=some o:=by simpa using l
  have b:=f q o i c e m n;rcases h with h|⟨r,s⟩
  ·rw[h];exact b
  ·exact g e.on r p b s
theorem rd{a:Array Bool}(j:lG ops a){q p:Nat}(l:q∈r7 .any ops a)(m:(mk ops q).testBit p=true):a.getD p false=true:=by
 obtain⟨_,o,n,b⟩:=mem_ready.1 l;obtain⟨g,f,e,r,s,h⟩:=ra m
 have:g=o:=by have i:ops[q]?=some g:=by simpa using f
              rw[n]at i;exact(Option.some.inj i).symm
 subst this;have c:=b e r s;rcases h with h|⟨u,t⟩
 ·rw[h];exact c
 ·exact wF j e.on p c t
theorem lc{a:Array Bool}{i:Nat}(h:a.getD i true=false):a.getD i false=false:=by
 rcases bI i a.size with b|b
 ·simp[b]at h⊢;exact h
 ·simp[Array.getElem?_eq_none b]at h
theorem yJ{a:Array Bool}(n:lG ops a){j:Nat}(p:j∈r7 .any ops a):lG ops (a.setIfInBounds j true):=by
 intro m o h f e i l;obtain⟨_,q,g,b⟩:=mem_ready.1 p;by_cases c:m=j
 ·subst c;rw[g]at f;simp at f;subst f;exact getD_set_true (b e i l)
 ·rw[getD_set_ne false (lV c)]at h;exact getD_set_true (n m o h f e i l)
end
theorem tA{n:Nat}{a:Array Bool}{j:Nat}(c:a.size=n)(h:a.getD j false=true):decide (j<n)=true:=by
 rcases bI j a.size with b|b
 ·simp;omega
 ·simp[Array.getElem?_eq_none b]at h
theorem B9(h:Nat->Option Ch){k j:Nat}(b c:Option Ch)(a:k≠j):cO (cO h k b) j c=cO (cO h j c) k b:=by
 funext i;simp only[cO];by_cases e:i=j<;>by_cases f:i=k
 ·omega
 ·simp[e,lV a]
 ·simp[f,a]
 ·simp[e,f]
theorem pn:∀(a:dN)(h:Nat->Option Ch)(k:Nat)(b:Option Ch),(∀u∈a,u.1≠k)->bm (cO h k b) a=cO (bm h a) k b
 |[],_,_,_,_=>rfl
 |u::r,h,k,b,c=>by
  simp only[bm];rw[B9 h b u.2 (lV (c u (aG ..))),pn r _ k b (λv e=>c v (aA _ e))]
theorem po:∀(x y:dN)(h:Nat->Option Ch),(∀u∈x,∀v∈y,u.1≠v.1)->bm (bm h x) y=bm (bm h y) x
 |[],_,_,_=>rfl
 |u::r,y,h,b=>by
  simp only[bm];rw[po r y _ (λv a=>b v (aA _ a)),pn y h u.1 u.2 (λv a=>lV (b u (aG ..) v a))]
def iU:Op->Bool
 | .move _=>false
 | .assign _=>false
 | .pick .. =>false
 | .alloc _=>false
 | .box .. =>false
 | .build .. =>false
 | .nilCheck _=>false
 | .binOp .. =>false
 | .unOp .. =>false
 | .makeInterface .. =>false
 | .makeFunc .. =>false
 | .makeMap .. =>false
 | .makeSlice .. =>false
 | .fieldAddr .. =>false
 | .field .. =>false
 | .index .. =>false
 | .extract .. =>false
 |_=>true
structure xV where
 m:Nat
 v:List Nat
def sC(N:Nat)(m:xV)(i k:Nat):Bool:=(decide (k<N)&&m.v.contains k)||(decide (N<=k)&&(decide ((k-N)/256=i)||m.m.testBit ((k-N)/256)))
def wG(N i k:Nat):Bool:=decide (N+256*i<=k)&&decide (k<N+256*i+256)
def wH(N:Nat)(mask:Nat->xV)(i k:Nat):List Oper->Nat->Bool
 |[],_=>true
 |o::r,j=>(!(iU o.op)||decide (j=i)||(mask j).m.testBit i||(mask i).m.testBit j|| !(sC N (mask j) j k))&&wH N mask i k r (j+1)
theorem D2{N:Nat}{mask:Nat->xV}{i k:Nat}:∀{l:List Oper}{n:Nat},wH N mask i k l n=true->∀(j:Nat)(o:Oper),l[j]?=some o->iU o.op=true->n+j≠i->(mask (n+j)).m.testBit i=false->(mask i).m.testBit (n+j)=false->sC N (mask (n+j)) (n+j) k=false:=by
 intro l
 induction l with
 |nil=>intro n _ j o h;simp at h
 |cons q r g=>
  intro n h j o b c a e f;simp only[wH,aI,iH,aP,ai]at h;cases j with
  |zero=>
   simp at b;subst b;simp only[Nat.add_zero]at*;rcases h.1 with(((h|h)|h)|h)|h
   ·rw[c]at h;simp at h
   ·exact absurd h a
   ·rw[e]at h;simp at h
   ·rw[f]at h;simp at h
   ·exact h
  |succ j=>
   have:=g h.2 j o (by simpa using b) c;rw[eO,eJ 1 j]at this;exact this a e f
def ir(N:Nat)(mask:Nat->xV)(ops:Array Oper)(i:Nat)(o:Oper)(a:dN):Bool:=
 a.all λu=>wG N i u.1||(iU o.op&&sC N (mask i) i u.1&&wH N mask i u.1 ops.toList 0)
theorem re{N:Nat}{mask:Nat->xV}{ops:Array Oper}{i:Nat}{o:Oper}{e:dN}(h:ir N mask ops i o e=true):∀u∈e,wG N i u.1=true\/
 (iU o.op=true/\sC N (mask i) i u.1=true/\∀(j:Nat)(y:Oper),ops[j]?=some y->iU y.op=true->j≠i->(mask j).m.testBit i=false->(mask i).m.testBit j=false->sC N (mask j) j u.1=false):=by
 intro u f;have:=cU.1 h u f;simp only[iH,aI]at this;refine this.imp id λ⟨⟨a,b⟩,c⟩=>⟨a,b,λj y g=>?_⟩;have:=D2 c j y (by simpa using g);simpa using this
def VA(N:Nat)(mask:Nat->xV)(ops:Array Oper)(i:Nat)(o:Oper)(k:Nat):Bool:=wG N i k||(iU o.op&&sC N (mask i) i k&&wH N mask i k ops.toList 0)
def LB:Option Ch->Option Ch->Prop
 |some a,some b=>a=b
 |_,_=>False
def Ah(a:Nat->Option Ch)(u:dN):List Nat->Prop
 |[]=>True
 |k::r=>LB (a k) (bm (λ_=>none) u k)/\Ah a u r
def wI(ok:Nat->Bool)(a:Nat->Option Ch)(q:V×dN):Tr (V×dN):=
 if q.2.all λu=>ok u.1 then .leaf q
 else .need (Ah a q.2 ((q.2.filter λu=> !(ok u.1)).map (·.1)).eraseDups) (.leaf (q.1,q.2.filter λu=>ok u.1))
theorem wJ{e:Nat->Option Ch}{u:dN}:∀{l:List Nat},Ah e u l->∀k∈l,∃c,e k=some c/\bm (λ_=>none) u k=some c
 |[],_,k,f=>by simp at f
 |j::r,h,k,f=>by
  rcases bt.1 f with rfl|f
  ·have g:=h.1;unfold LB at g;split at g
   ·rename_i a b i m;exact⟨a,i,by rw[m,g]⟩
   ·exact g.elim
  ·exact wJ h.2 k f
theorem iu:∀{u:dN}{h:Nat->Option Ch}{k:Nat},(∀x∈u,x.1≠k)->bm h u k=h k
 |[],_,_,_=>rfl
 |x::r,h,k,a=>by
  simp only[bm];rw[iu (λy b=>a y (aA _ b)),bE _ _ _ (lV (a x (aG ..)))]
theorem tC:∀{u:dN}{h h':Nat->Option Ch}{k:Nat},(∃x∈u,x.1=k)->bm h u k=bm h' u k
 |[],_,_,_,f=>by obtain⟨_,a,_⟩:=f;simp at a
 |x::r,h,h',k,f=>by
  simp only[bm];by_cases g:∃y∈r,y.1=k
  ·exact tC g
  ·have b:∀y∈r,y.1≠k:=λy c e=>g ⟨y,c,e⟩;rw[iu b,iu b];obtain⟨y,c,e⟩:=f;rcases bt.1 c with rfl|c
   ·subst e;rw[bG,bG]
   ·exact absurd e (b y c)
theorem ja{ok:Nat->Bool}:∀{u:dN}{h h':Nat->Option Ch}{k:Nat},ok k=true->h k=h' k->bm h (u.filter λx=>ok x.1) k=bm h' u k
 |[],_,_,_,_,e=>e
 |x::r,h,h',k,a,e=>by
  simp only[List.filter_cons];split
  ·simp only[bm];refine ja a ?_;by_cases g:k=x.1
   ·subst g;rw[bG,bG]
   ·rw[bE _ _ _ g,bE _ _ _ g,e]
  ·rename_i b;simp only[bm];refine ja a ?_;rw[bE _ _ _ (λg=>b (by rw[<-g];exact a)),e]
theorem I1{ok:Nat->Bool}{f h:Nat->Option Ch}{u:dN}(j:∀k b,f k=some b->h k=some b)(l:Ah f u ((u.filter λx=> !(ok x.1)).map (·.1)).eraseDups):
 bm h (u.filter λx=>ok x.1)=bm h u:=by
 funext k;cases g:ok k with
 |true=>exact ja g rfl
 |false=>
  rw[iu (λx a e=>by have:=(List.mem_filter.1 a).2;rw[e,g]at this;cases this)];by_cases a:∃x∈u,x.1=k
  ·obtain⟨c,m,n⟩:=wJ l k (by
    obtain⟨x,a,e⟩:=a;rw[List.mem_eraseDups];exact dM.2 ⟨x,List.mem_filter.2 ⟨a,by rw[e,g];rfl⟩,e⟩)
   rw[tC (h':=λ_=>none) a,n,j k c m]
  ·rw[iu (λx i e=>a ⟨x,i,e⟩)]
theorem D3{P:Program}{F:Nat->Prop}{ρ:Nat->Pl}{w:World}{h c:Nat->Option Ch}{N W:Nat}{o:Oper}{a:Act}{t:Tr (V×dN)}{ok:Nat->Bool}(j:∀k b,c k=some b->h k=some b)(l:OW P F ρ w h N W o a t):OW P F ρ w h N W o a (t.bind (wI ok c)):=by
 intro K Q g;rw[cH]at g;refine l K Q (bX ?_ g);rintro q e v i f;unfold wI at e;split at e
 ·exact e v i f
 ·obtain⟨m,n⟩:=e;refine n v i ?_;unfold bM at f⊢;rw[I1 j m];exact f
theorem rf{ok:Nat->Bool}{a:Nat->Option Ch}{q:V×dN}:Live (wI ok a q):=by
 unfold wI;split
 ·exact Live.leaf
 ·exact Live.need λ_=>Live.leaf
structure FSt where
 slots:List V
 h:Nat->Option Ch
section
variable(P:Program)(Γ:bw)(N:Nat)(mask:Nat->xV)(ops:Array Oper)
def gT(i:Nat)(o:Oper)(h:Nat->Option Ch):Nat->Option Ch:=if iU o.op then λk=>if sC N (mask i) i k then h k else none else λ_=>none
def uN(o:Oper)(i:Nat)(b:Operand->V)(a:Nat->Option Ch):Tr (V×dN):=(B6 P Γ o b a (N+256*i) 256).bind (wI (VA N mask ops i o) a)
def gtr(o:Oper)(i:Nat)(slots:List V)(a:Nat->Option Ch):Tr (V×dN):=
 match gB ops slots o with
 | .yes=>uN P Γ N mask ops o i (dt slots) a
 | .no=> .leaf (.tup [],[])
 | .ask _ b c=> .ite (b==c) (uN P Γ N mask ops o i (dt slots) a) (.leaf (.tup [],[]))
 | .bad=> .stuck
def fin(o:Oper)(i:Nat)(s:FSt)(q:V×dN):Tr FSt:=if ir N mask ops i o q.2 then .leaf ⟨eZ s.slots o.dst q.1,bm s.h q.2⟩else .stuck
def iv(i:Nat)(s:FSt):Tr FSt:=
 match ops[i]? with
 |none=> .stuck
 |some o=>(gtr P Γ N mask ops o i s.slots (gT N mask i o s.h)).bind (fin N mask ops o i s)
end
structure uO(R N:Nat)(B:eP)(ρ:Nat->Pl)(a:Act)(w:World)(s:FSt)(listed:Nat->Bool):Prop where
 defers:wy B ρ w s.h a.defers
 slots:F2 (aT w (Av B.F ρ s.h) ρ) s.slots a.tmps.toList
 heap:dq B.F ρ w s.h
 mv:Mv B.ρ B.w B.h ρ w s.h
 fresh:∀k,N<=k->ρ k≠ .un->listed ((k-N)/256)=true
 root:∀k,k<R->ρ k=B.ρ k\/ρ k= .un
 rn:R<=N
 len:a.tmps.size=B.n
theorem tD{N:Nat}{mask:Nat->xV}{i:Nat}{o:Oper}{h:Nat->Option Ch}:∀k b,gT N mask i o h k=some b->h k=some b:=by
 intro k b a;unfold gT at a;split at a
 ·simp only at a;split at a
  ·exact a
  ·simp at a
 ·simp at a
section
variable{P:Program}{Γ:bw}{R N:Nat}{mask:Nat->xV}{ops:Array Oper}
theorem wK(M:aQ P Γ){B:eP}{ρ:Nat->Pl}{a:Act}{w:World}{s:FSt}{c:Nat->Bool}{i:Nat}{K:Act->World->Prop}{Q:Exit->Act->World->Prop}
 (f:uO R N B ρ a w s c) (hi:c i=false) (g:(iv P Γ N mask ops i s).sat λs'=>∀ρ' l w',dR ρ ρ'->uO R N B ρ' l w' s' (λj=>j==i||c j)->K l w'):wpOp P ops Q i K a w:=by
 unfold iv at g;unfold wpOp;split at g
 ·exact g.elim
 rename_i o O;rw[cH]at g;obtain⟨S,U,W⟩:=mS (ops:=ops) (o:=o) f.slots
 have skip:(fin N mask ops o i s (.tup [],[])).sat (λs'=>∀ρ' l w',dR ρ ρ'->uO R N B ρ' l w' s' (λj=>j==i||c j)->K l w')->K (a.put o.dst undef) w:=by
  intro h;simp only[fin,ir,List.all_nil,if_true,Tr.sat,bm]at h;refine h ρ _ w (dR.refl ρ) ⟨?_,nJ f.slots o.dst ej,f.heap,f.mv,λk p C=>?_,f.root,f.rn,(jp ..).trans f.len⟩
  ·cases o.dst<;>exact f.defers
  ·simp[f.fresh k p C]
 have m:(uN P Γ N mask ops o i (dt s.slots) (gT N mask i o s.h)).sat (λr=>(fin N mask ops o i s r).sat (λs'=>∀ρ' l w',dR ρ ρ'->uO R N B ρ' l w' s' (λj=>j==i||c j)->K l w'))->o.wp P a w K Q:=by
  intro h
  have D:∀k,N+256*i<=k->k<N+256*i+256->ρ k= .un:=by
   intro k z E;by_cases H:ρ k= .un
   ·exact H
   ·have A:=f.fresh k (by omega) H;have e:(k-N)/256=i:=by omega
    rw[e,hi]at A;simp at A
  refine D3 tD (tv (F:=B.F) M f.heap tD (λx=>fC f.slots x) D (by omega)) K Q (bX ?_ h);rintro⟨y,u⟩ n v w' ⟨ρ',z,E,A,X,G⟩;unfold fin at n;split at n
  case isFalse=>exact n.elim
  refine n ρ' _ w' z ⟨?_,nJ (F2.imp (λ_ _=>aT.evo G.evo z) f.slots) o.dst A,X,f.mv.trans G,λk p C=>?_,λk p=>?_,f.rn,(jp ..).trans f.len⟩
  ·cases o.dst<;>exact f.defers.mv G
  ·by_cases n:ρ k= .un
   ·have:=E k n C;have e:(k-N)/256=i:=by omega
    simp[e]
   ·simp[f.fresh k p n]
  ·by_cases e:ρ k= .un
   ·by_cases J:ρ' k= .un
    ·exact .inr J
    ·have:=E k e J;have:=f.rn;omega
   ·rw[z k e];exact f.root k p
 simp only[O];unfold gtr at g;split at g
 ·rename_i q;rw[S q];simp only[if_true];exact .inl (m g)
 ·rename_i q;rw[U q];simp only[cu,if_false];exact skip g
 ·rename_i t b L q;rw[(W _ _ _ q).1];split
  ·rename_i e;exact .inl (m (g.1 e))
  ·rename_i e;exact skip (g.2 (by simpa using e))
 ·exact g.elim
end
end
section
theorem wL(P:Program)(o:Oper){m e:Operand->V}(q:Nat->Option Ch)(N:Nat)(h:∀x∈o.op.operands,m x=e x):kS P o m q N=kS P o e q N:=by
 obtain⟨v,w,u,y,s,guard⟩:=o
 have f:∀i:List (Nat×Operand),(∀x∈i.map (·.2),m x=e x)->(i.map λp=>(p.1,m p.2))=i.map λp=>(p.1,e p.2):=by
  intro i z;refine List.map_congr_left λp A=>?_;rw[z p.2 (dM.2 ⟨p,A,rfl⟩)]
 cases w<;>simp only[Op.operands]at h<;>simp only[kS]
 case build t i=>rw[f i.toList λx g=>h x (by simpa using g)]
 case buildSlice t n i=>rw[f i.toList λx g=>h x (by simpa using g)]
 case makeFunc fn first a=>
  rw[List.map_congr_left (l:=first.toList) λx g=>h x (by simp[Array.mem_toList_iff.1 g]),List.map_congr_left (l:=a.toList) λx g=>h x (by simp[Array.mem_toList_iff.1 g])]
 case call c=>
  have j:c.args.toList.map m=c.args.toList.map e:=List.map_congr_left λx g=>h x (by simp[Call.operands,Array.mem_toList_iff.1 g]);cases E:c.callee with
  |builtin b=>simp only[j]
  |_=>rfl
 case slice t x B C D=>cases B<;>cases C<;>cases D<;>simp_all
 case makeMap t r=>cases r<;>rfl
 all_goals (first|rfl|(simp_all;done))
theorem Ca(P:Program)(Γ:bw)(o:Oper){i a:Operand->V}(g:Nat->Option Ch)(N W:Nat)(h:∀x∈o.op.operands,i x=a x):B6 P Γ o i g N W=B6 P Γ o a g N W:=by
 have p:=wL P o g N h;unfold B6;split
 case h_2=>exact p
 rename_i c l;rw[l]at h;simp only[Op.operands]at h;have e:c.args.toList.map i=c.args.toList.map a:=List.map_congr_left λx q=>h x (by simp[Call.operands,Array.mem_toList_iff.1 q]);cases j:c.callee with
 |value f=>have n:i f=a f:=h f (by simp[Call.operands,j]);simp only[n,e]
 |invoke r m=>have n:i r=a r:=h r (by simp[Call.operands,j]);simp only[n,e]
 |builtin b=>exact p
theorem Cb{slots:List V}{dst:Option Tmp}{v:V}{x:Operand}(h:∀d,dst=some d->x≠ .tmp d):dt (eZ slots dst v) x=dt slots x:=by
 cases dst with
 |none=>rfl
 |some d=>
  cases x with
  |tmp t=>
   have a:d≠t:=λe=>h d rfl (e▸rfl);simp[dt,eZ,List.getElem?_set_ne a]
  |_=>rfl
theorem I2(P:Program)(Γ:bw){ops:Array Oper}(o:Oper)(slots:List V)(dst:Option Tmp)(v:V)(a:Nat->Option Ch)(N W:Nat)(h:∀d,dst=some d->d∉o.looksAt ops):
 B6 P Γ o (dt (eZ slots dst v)) a N W=B6 P Γ o (dt slots) a N W:=
 Ca P Γ o a N W λx c=>Cb λd e b=>h d e (by
  subst b;exact cL _ (List.mem_filterMap.2 ⟨.tmp d,by simpa using c,rfl⟩))
theorem wM{ops:Array Oper}(o:Oper)(slots:List V)(dst:Option Tmp)(v:V)(h:∀d,dst=some d->d∉o.looksAt ops):gB ops (eZ slots dst v) o=gB ops slots o:=by
 cases dst with
 |none=>rfl
 |some d=>
  unfold gB;cases c:o.guard with
  |none=>rfl
  |some f=>
   obtain⟨g,b⟩:=f;simp only;cases i:(ops[g]?).bind (·.dst)with
   |none=>rfl
   |some t=>
    have a:d≠t:=λe=>h d rfl (by subst e;simp[Oper.looksAt,c,i]);simp[eZ,List.getElem?_set_ne a]
theorem Cc(slots:List V){x y:Option Tmp}(v u:V)(h:∀d,x=some d->y≠some d):eZ (eZ slots x v) y u=eZ (eZ slots y u) x v:=by
 cases x with
 |none=>rfl
 |some d=>
  cases y with
  |none=>rfl
  |some e=>
   have a:d≠e:=λb=>h d rfl (b▸rfl);simp only[eZ];rw[List.set_comm _ _ a]
section
variable{P:Program}{Γ:bw}{N:Nat}{mask:Nat->xV}{ops:Array Oper}
theorem Ai(o:Oper)(i:Nat)(slots:List V)(dst:Option Tmp)(v:V)(a:Nat->Option Ch)(h:∀d,dst=some d->d∉o.looksAt ops):gtr P Γ N mask ops o i (eZ slots dst v) a=gtr P Γ N mask ops o i slots a:=by
 unfold gtr;simp only[wM o slots dst v h,uN,I2 P Γ o slots dst v a _ _ h]
theorem wN(b:bg Γ){o:Oper}{i:Nat}{slots:List V}{a:Nat->Option Ch}:Live (gtr P Γ N mask ops o i slots a):=by
 unfold gtr;split
 ·exact Live.bind (wD b) λ_=>rf
 ·exact Live.leaf
 ·exact Live.ite (λ_=>Live.bind (wD b) λ_=>rf) (λ_=>Live.leaf)
 ·exact Live.stuck
theorem D4{o:Oper}{i:Nat}{s:FSt}{q:V×dN}:Live (fin N mask ops o i s q):=by
 unfold fin;split
 ·exact Live.leaf
 ·exact Live.stuck
theorem yK(a:bg Γ){i:Nat}{s:FSt}:Live (iv P Γ N mask ops i s):=by
 unfold iv;split
 ·exact Live.stuck
 ·exact Live.bind (wN a) (λ_=>D4)
theorem rg{i j:Nat}{oi oj:Oper}{b:dN}{h:Nat->Option Ch}(l:ops[j]?=some oj)(c:i≠j)(f:(mask j).m.testBit i=false)(g:(mask i).m.testBit j=false)
 (n:ir N mask ops i oi b=true):gT N mask j oj (bm h b)=gT N mask j oj h:=by
 unfold gT;cases o:iU oj.op
 ·rfl
 ·simp only[if_true];funext k;split
  ·rename_i a;refine mL b h k λu p e=>?_;subst e;rcases re n u p with this|⟨_,_,this⟩
   ·simp only[wG,aI,ai]at this;have q:(u.1-N)/256=i:=by omega
    simp only[sC,iH,aI,ai,q,f]at a;rcases a with a|⟨_,a|a⟩
    ·omega
    ·exact c a
    ·simp at a
   ·rw[this j oj l o (lV c) f g]at a;simp at a
  ·rfl
theorem Cd{i j:Nat}{oi oj:Oper}{x y:dN}(r:ops[j]?=some oj)(f:i≠j)(b:(mask j).m.testBit i=false)(c:(mask i).m.testBit j=false)
 (s:ir N mask ops i oi x=true) (t:ir N mask ops j oj y=true):∀u∈x,∀v∈y,u.1≠v.1:=by
 intro u w v z e;have g:=re s u w;have n:=re t v z;simp only[wG,aI,ai]at g n;rw[e]at g;have own:∀{q:Nat}{k:Nat},N+256*q<=k/\k<N+256*q+256->(k-N)/256=q:=λh=>by omega
 have a:∀{m:xV}{q k:Nat},sC N m q k=true->k<N\/(k-N)/256=q\/m.m.testBit ((k-N)/256)=true:=by
  intro m q k h;simp only[sC,iH,aI,ai]at h;rcases h with h|h
  ·exact .inl h.1
  ·exact .inr h.2
 rcases g with o|⟨F,A,B⟩<;>rcases n with p|⟨C,l,G⟩
 ·have:=own o;have:=own p;omega
 ·have D:=own o;rcases a l with h|h|h
  ·omega
  ·omega
  ·rw[D,b]at h;simp at h
 ·have E:=own p;rcases a A with h|h|h
  ·omega
  ·omega
  ·rw[E,c]at h;simp at h
 ·rw[B j oj r C (lV f) b c]at l;simp at l
theorem yL(u:bg Γ){i j:Nat}{oi oj:Oper}{s:FSt}{Q:FSt->Prop}(hi:ops[i]?=some oi)(p:ops[j]?=some oj)(f:i≠j)(g:(mask j).m.testBit i=false)(l:(mask i).m.testBit j=false)
 (q:oi.apart ops oj=true) (h:(iv P Γ N mask ops i s).sat λv=>(iv P Γ N mask ops j v).sat Q):(iv P Γ N mask ops j s).sat λw=>(iv P Γ N mask ops i w).sat Q:=by
 obtain⟨x,y,z⟩:=Oper.apart_spec q;have t:∀d,oj.dst=some d->oi.dst≠some d:=λd A B=>y d B A;unfold iv at h⊢;simp only[hi,p]at h⊢;rw[cH]at h⊢;have c:Live (gtr P Γ N mask ops oi i s.slots (gT N mask i oi s.h)):=wN u
 have C:(gtr P Γ N mask ops oi i s.slots (gT N mask i oi s.h)).sat λr=>(gtr P Γ N mask ops oj j s.slots (gT N mask j oj s.h)).sat λn=>
  ir N mask ops i oi r.2=true/\ir N mask ops j oj n.2=true/\Q ⟨eZ (eZ s.slots oi.dst r.1) oj.dst n.1,bm (bm s.h r.2) n.2⟩:=by
  refine bX ?_ h;intro r o;unfold fin at o;split at o
  case isFalse=>exact o.elim
  rename_i e;simp only[Tr.sat]at o;rw[cH,Ai oj j _ _ _ _ x,rg p f g l e]at o;refine bX ?_ o;intro n b;split at b
  case isFalse=>exact b.elim
  rename_i a;exact⟨e,a,b⟩
 refine bX ?_ (lb c C);intro n b;obtain⟨_,_,a,_⟩:=c _ b;unfold fin;rw[am a];simp only[Tr.sat];rw[cH,Ai oi i _ _ _ _ z,rg (oi:=oj) (oj:=oi) (i:=j) hi (lV f) l g a];refine bX ?_ b;rintro r ⟨e,_,D⟩;rw[am e];simp only[Tr.sat];rw[Cc _ _ _ t,<-po r.2 n.2 s.h (Cd p f g l e a)];exact D
abbrev bV(vc:Nat->List Nat)(ops:Array Oper)(i:Nat):xV:=⟨mk ops i,vc i⟩
variable{vc:Nat->List Nat}
def oC(P:Program)(Γ:bw)(N:Nat)(vc:Nat->List Nat)(ops:Array Oper)(Q:FSt->Prop):Nat->Array Bool->FSt->Prop
 |0,a,s=>r7 .any ops a=[]/\Q s
 |b+1,a,s=>
  (r7 .any ops a=[]->Q s)/\
  ∀i∈r7 .any ops a,(iv P Γ N (bV vc ops) ops i s).sat λc=>oC P Γ N vc ops Q b (a.setIfInBounds i true) c
theorem uP(z:bg Γ){Q:FSt->Prop}{i:Nat}{oi:Oper}(hi:ops[i]?=some oi):
 ∀(b:Nat)(a:Array Bool)(s:FSt),lG ops a->
  (∀j oj,ops[j]?=some oj->j≠i->a.getD j true=false->(mk ops j).testBit i=true\/oi.apart ops oj=true)->
  i∈r7 .any ops a->((iv P Γ N (bV vc ops) ops i s).sat λm=>oC P Γ N vc ops Q b (a.setIfInBounds i true) m)->oC P Γ N vc ops Q (b+1) a s:=by
 intro b
 induction b with
 |zero=>
  intro a s u e g H;refine⟨λh=>(by rw[h]at g;cases g),λj l=>?_⟩;by_cases c:j=i
  ·subst c;exact H
  ·have:=ready_mono l c;obtain⟨m,v⟩:=yK z _ H;rw[v.1]at this;cases this
 |succ b B=>
  intro a s u e g H;refine⟨λh=>(by rw[h]at g;cases g),λj l=>?_⟩;by_cases c:j=i
  ·subst c;exact H
  ·have C:(iv P Γ N (bV vc ops) ops i s).sat λm=>(iv P Γ N (bV vc ops) ops j m).sat λD=>oC P Γ N vc ops Q b ((a.setIfInBounds i true).setIfInBounds j true) D:=
    bX (λm v=>v.2 j (ready_mono l c)) H
   obtain⟨f,oj,n,A⟩:=mem_ready.1 l;have o:=(mem_ready.1 g).1
   have p:(mk ops j).testBit i=false:=by
    cases w:(mk ops j).testBit i
    ·rfl
    ·have:=rd u l w;rw[lc o]at this;simp at this
   have q:(mk ops i).testBit j=false:=by
    cases w:(mk ops i).testBit j
    ·rfl
    ·have:=rd u g w;rw[lc f]at this;simp at this
   have x:=(e j oj n c f).resolve_left (by rw[p];simp);refine bX ?_ (yL z hi n (lV c) p q x C);intro E F;refine B (a.setIfInBounds j true) E (yJ u l) (λk ok G y r=>?_) (ready_mono g (lV c)) (bX ?_ F)
   ·refine e k ok G y ?_;by_cases t:j=k
    ·subst t;exact f
    ·rw[getD_set_ne true t]at r;exact r
   ·intro K J;rw[Array.setIfInBounds_comm _ _ c];exact J
def Ce(P:Program)(Γ:bw)(N:Nat)(mask:Nat->xV)(ops:Array Oper):Nat->Nat->FSt->Tr FSt
 |0,_,s=> .leaf s
 |n+1,k,s=>(iv P Γ N mask ops k s).bind (Ce P Γ N mask ops n (k+1))
theorem rh(G:bg Γ){Q:FSt->Prop}(u:wE ops.toList=true):∀(n k:Nat)(a:Array Bool)(s:FSt),k+n=ops.size->a.size=ops.size->(∀m,m<ops.size->a.getD m false=decide (m<k))->
 (Ce P Γ N (bV vc ops) ops n k s).sat Q->oC P Γ N vc ops Q n a s
 |0,k,a,s,K,C,hL,v=>by
  refine⟨?_,v⟩;cases h:r7 .any ops a with
  |nil=>rfl
  |cons i r=>
   have L:i∈r7 .any ops a:=by rw[h];exact aG ..
   obtain⟨w,o,B,_⟩:=mem_ready.1 L;have t:=(eg.1 B).1;have:=lc w;rw[hL i t]at this;simp at this;omega
 |n+1,k,a,s,K,C,hL,v=>by
  simp only[Ce]at v;rw[cH]at v;have q:k<ops.size:=by omega
  have l:ops[k]?=some ops[k]:=Array.getElem?_eq_getElem q;simp only[wE,aI]at u;obtain⟨c,f⟩:=u;have b:∀{i:Nat}{o:Oper},ops[i]?=some o->ops.toList[i]?=some o:=λh=>by simpa using h
  have g:lG ops a:=by
   intro m o x B e D E;have w:=qZ _ _ _ _ c (b B) e D E;have y:=(eg.1 B).1;rw[hL m y]at x;simp at x;rw[hL e.on (by omega)];simp;omega
  have p:k∈r7 .any ops a:=by
   rw[mem_ready];refine⟨?_,_,l,λe D E=>?_⟩
   ·have:=hL k q;have t:k<a.size:=by omega
    simp[t]at this⊢;exact this
   ·have w:=qZ _ _ _ _ c (b l) e D E;rw[hL e.on (by omega)];simp;omega
  refine uP G l n a s g (λj S H M F=>?_) p (bX ?_ v)
  ·have z:=(eg.1 H).1;have:=lc F;rw[hL j z]at this;simp at this;have J:=yI _ 0 _ _ _ _ f (b l) (b H) (by omega);simp only[bN,uM,iH,Array.toArray_toList]at J;exact J
  ·intro O w;refine rh G (by simp only[wE,aI];exact⟨c,f⟩) n (k+1) _ O (by omega) (by simpa using C) (λm x=>?_) w;by_cases A:m=k
   ·subst A;simp[C,x]
   ·rw[getD_set_ne false (lV A),hL m x];simp;omega
variable{R:Nat}
theorem ri(v:aQ P Γ){B:eP}{ρ0:Nat->Pl}{Q:FSt->Prop}{x:Exit->Act->World->Prop}(p:∀ρ a w s,dR ρ0 ρ->Q s->uO R N B ρ a w s (λj=>decide (j<ops.size))->x .normal a w):
 ∀(g:Nat)(b:Array Bool)(s:FSt)(ρ:Nat->Pl)(a:Act)(w:World),dR ρ0 ρ->b.size=ops.size->uO R N B ρ a w s (λj=>b.getD j false)->oC P Γ N vc ops Q g b s->wpAny P .any ops x g b a w
 |0,b,s,ρ,a,w,o,l,c,h=>⟨h.1,p ρ a w s o h.2 ⟨c.defers,c.slots,c.heap,c.mv,λk m n=>tA l (c.fresh k m n),c.root,c.rn,c.len⟩⟩
 |g+1,b,s,ρ,a,w,o,l,c,h=>by
  refine⟨λy=>p ρ a w s o (h.1 y) ⟨c.defers,c.slots,c.heap,c.mv,λk m n=>tA l (c.fresh k m n),c.root,c.rn,c.len⟩,λi q=>?_⟩;have r:=lc (mem_ready.1 q).1;refine wK v c r (bX ?_ (h.2 i q));intro z A ρ' C D t f;refine ri v p g _ z ρ' C D (o.trans t) (by simpa using l) ⟨f.defers,f.slots,f.heap,f.mv,λk m n=>?_,f.root,f.rn,f.len⟩ A;have:=f.fresh k m n;simp only[iH,aR]at this;rcases this with e|e
  ·rw[e];obtain⟨E,_⟩:=mem_ready.1 q
   have:i<b.size:=by
    rcases bI i b.size with u|u
    ·exact u
    ·simp[Array.getElem?_eq_none u]at E
   simp[this]
  ·exact getD_set_true e
theorem wO(i:aQ P Γ)(hL:bg Γ){B:eP}{ρ:Nat->Pl}{a:Act}{w:World}{s:FSt}{id:Nat}{Q:Exit->Act->World->Prop}{c:FSt->Prop}(e:P.follows .mixedOrders=true)(f:wE ops.toList=true)
 (b:uO R N B ρ a w s (λ_=>false)) (l:(Ce P Γ N (bV vc ops) ops ops.size 0 s).sat c)
 (n:∀ρ' a w s',dR ρ ρ'->c s'->uO R N B ρ' a w s' (λj=>decide (j<ops.size))->Q .normal a w):(Code.region id ops true).wp P Q a w:=by
 refine wp_region_any e ?_;obtain⟨o,g⟩:=b.heap.same (fH.drew w);refine ri i (vc:=vc) (N:=N) (B:=B) (ρ0:=ρ) (Q:=c) (λρ a w s p h b=>n ρ a w s p h b) _ _ s ρ a _ (dR.refl ρ) (by simp) ?_ ?_
 ·refine⟨b.defers.mv g,F2.imp (λ_ _=>aT.evo g.evo (dR.refl ρ)) b.slots,o,b.mv.trans g,λk q r=>?_,b.root,b.rn,b.len⟩;have:=b.fresh k q r;simp at this
 ·refine rh hL f ops.size 0 _ s (by omega) (by simp) (λm e=>?_) l;simp[e]
end
end
section
section
variable(P:Program)(Γ:bw)
def nM(o:Oper)(s:St):Tr St:=(B6 P Γ o (dt s.slots) (aV s.heap) s.next 256).bind λq=> .leaf ⟨eZ s.slots o.dst q.1,mR s.heap q.2,s.next+256⟩
def tE(o:Oper)(s:St):St:=⟨eZ s.slots o.dst (.tup []),s.heap,s.next⟩
def pp(s:St)(t:Nat)(b:Bool):St:=⟨s.slots.set t (sc (.k (.bool b))),s.heap,s.next⟩
def nN(slots:List V)(o:Oper):Option (Nat×Bool):=match o.op with
 | .pick (.tmp t) _ _=>match slots.getD t (.tup [])with
   | .val false [.d .bl b]=>some (t,b)
   |_=>none
 |_=>none
def jb(ops:Array Oper):List Oper->St->Tr St
 |[],s=> .leaf s
 |o::r,s=>match gB ops s.slots o with
  | .yes=>match nN s.slots o with
    |some (t,b)=> .ite b ((nM P Γ o (pp s t true)).bind (jb ops r)) ((nM P Γ o (pp s t false)).bind (jb ops r))
    |none=>(nM P Γ o s).bind (jb ops r)
  | .no=>jb ops r (tE o s)
  | .ask t b a=> .ite b (if true==a then(nM P Γ o (pp s t true)).bind (jb ops r)else jb ops r (tE o (pp s t true)))
   (if false==a then(nM P Γ o (pp s t false)).bind (jb ops r)else jb ops r (tE o (pp s t false)))
  | .bad=> .stuck
def VB(l:List Oper)(t:Nat):Option Oper:=l.find? λo=>match o.dst with
 |some d=>d==t
 |none=>false
def tF:Tr (V×dN)->List V
 | .leaf q=>[q.1]
 | .need _ x=>tF x
 | .ite _ x y=>tF x++tF y
 |_=>[]
def Qx:V->List I
 | .val _ l=>l
 |_=>[]
def VC:V->Bool
 | .val _ [.own _]=>true
 | .val _ [.ptr ..]=>true
 | .val _ [.mp _]=>true
 |_=>false
def Di(b:Bool)(l:List Oper)(slots:List V)(a:Nat->Option Ch):Nat->Operand->List V
 |0,_=>[]
 |n+1, .tmp t=>match(if b&&VC (slots.getD t (.tup []))then none else VB l t)with
  |none=>[slots.getD t (.tup [])]
  |some o=>match o.op with
   | .move x=>Di b l slots a n x
   | .assign x=>Di b l slots a n x
   | .nilCheck x=>Di b l slots a n x
   | .fieldAddr t x f=>(Di b l slots a n x).filterMap λv=>io P t v f
   | .indexAddr t x i=>(Di b l slots a n x).flatMap λv=>match Di b l slots a n i with
     |[]=>tF (fI P t v (sc (.d .i64 0)) a)
     |u::r=>(u::r).flatMap λu=>tF (fI P t v u a)
   | .load t x=>(Di b l slots a n x).filterMap λv=>vY P t v a
   | .makeInterface t x=>(Di b l slots a n x).filterMap λv=>jJ P t v
   | .slice t x none none none=>(Di b l slots a n x).flatMap λv=>tF (jH P t v none none none a 0)
   | .build _ c=>[.val true (c.toList.flatMap λp=>(Di b l slots a n p.2).flatMap Qx)]
   |_=>[]
 |_,x=>[dt slots x]
end
def a0r:I->List Nat
 | .own k=>[k]
 | .sub k .. =>[k]
 | .ptr k _=>[k]
 | .pes k .. =>[k]
 | .mp k=>[k]
 | .fn _ a b=>a.map (·.1)++b.map (·.1)
 | .ifc _ k _=>[k]
 | .mth _ _ k _=>[k]
 |_=>[]
def I3:List I->List Nat
 |[]=>[]
 |i::r=>a0r i++I3 r
def VD:V->List Nat
 | .val _ l=>I3 l
 |_=>[]
def wP(a:Nat->Option Ch):Nat->List Nat->List Nat->List Nat
 |0,_,seen=>seen
 |_,[],seen=>seen
 |n+1,k::r,seen=>if seen.contains k then wP a n r seen else match a k with
  |some (.cells l)=>wP a n (I3 l++r) (k::seen)
  |some (.fc l)=>wP a n (I3 l++r) (k::seen)
  |_=>wP a n r (k::seen)
def Qy(P:Program)(ops:Array Oper)(slots:List V)(a:Nat->Option Ch)(i:Nat):List Nat:=
 match ops[i]? with
 |some o=>
  let d:=o.op.operands.toList.flatMap λx=>(Di P false ops.toList slots a 12 x).flatMap VD++(Di P true ops.toList slots a 12 x).flatMap VD
  match o.op with
  | .call c=>match c.callee with
    | .builtin _=>d
    |_=>wP a 600 d []
  |_=>d
 |none=>[]
section
variable(P:Program)(Γ:bw)(N:Nat)(mask:Nat->xV)(ops:Array Oper)
def D5(o:Oper)(i:Nat)(q:List V×fu):Tr (List V×fu):=
 (gtr P Γ N mask ops o i q.1 (gT N mask i o (aV q.2))).bind λr=>if ir N mask ops i o r.2 then .leaf (eZ q.1 o.dst r.1,mR q.2 r.2)else .stuck
def wQ:List Oper->Nat->List V×fu->Tr (List V×fu)
 |[],_,q=> .leaf q
 |o::r,k,q=>(D5 P Γ N mask ops o k q).bind (wQ r (k+1))
def tG(o:Oper)(i:Nat)(q:List V×fu)(yes:Bool):Tr (List V×fu):=
 (if yes then uN P Γ N mask ops o i (dt q.1) (gT N mask i o (aV q.2))else .leaf (.tup [],[])).bind λr=>if ir N mask ops i o r.2 then .leaf (eZ q.1 o.dst r.1,mR q.2 r.2)else .stuck
def wR(o:Oper)(i:Nat)(q:List V×fu)(c:Bool):Tr (List V×fu):=match o.op with
 | .pick _ x y=>(Tr.leaf (if c then dt q.1 x else dt q.1 y,[])).bind λr=>if ir N mask ops i o r.2 then .leaf (eZ q.1 o.dst r.1,mR q.2 r.2)else .stuck
 |_=> .stuck
def nO:List (Nat×Bool)->List Oper->Nat->List V×fu->Tr (List V×fu)
 |_,[],_,q=> .leaf q
 |e,o::r,k,q=>match gB ops q.1 o with
  | .ask t b a=>match e.lookup t with
    |some c=> .need (b=c) ((tG P Γ N mask ops o k q (c==a)).bind (nO e r (k+1)))
    |none=> .ite b ((tG P Γ N mask ops o k q (true==a)).bind (nO ((t,true)::e) r (k+1))) ((tG P Γ N mask ops o k q (false==a)).bind (nO ((t,false)::e) r (k+1)))
  | .yes=>match nN q.1 o with
    |some (t,b)=>match e.lookup t with
     |some c=> .need (b=c) ((wR N mask ops o k q c).bind (nO e r (k+1)))
     |none=> .ite b ((wR N mask ops o k q true).bind (nO ((t,true)::e) r (k+1))) ((wR N mask ops o k q false).bind (nO ((t,false)::e) r (k+1)))
    |none=>(tG P Γ N mask ops o k q true).bind (nO e r (k+1))
  | .no=>(tG P Γ N mask ops o k q false).bind (nO e r (k+1))
  | .bad=> .stuck
end
def I4(P:Program)(Γ:bw)(ops:Array Oper)(a:Bool)(s:St):Tr St:=
 if a then
  if wE ops.toList then
   (nO P Γ s.next (bV (Qy P ops s.slots (aV s.heap)) ops) ops [] ops.toList 0 (s.slots,s.heap)).bind λq=> .leaf ⟨q.1,q.2,s.next+256*ops.size⟩
  else .stuck
 else jb P Γ ops ops.toList s
section
variable{P:Program}{Γ:bw}{R:Nat}{B:eP}{ops:Array Oper}
theorem fv.know{σ:St}{ρ:Nat->Pl}{a:Act}{w:World}{t:Nat}{b:Bool}(c:fv R B σ ρ a w)(f:a.tmps[t]?=some (.bool b)):fv R B (pp σ t b) ρ a w:=by
 refine⟨c.defers,c.slots.set_left t (λv e=>?_),c.heap,c.mv,c.fresh,c.root,c.rn,c.len⟩;have:a.tmps.toList[t]?=some (.bool b):=by simpa using f
 rw[this]at e;simp at e;subst e;exact aJ.2 rfl
theorem fv.skip{σ:St}{ρ:Nat->Pl}{a:Act}{w:World}{o:Oper}(b:fv R B σ ρ a w):fv R B (tE o σ) ρ (a.put o.dst undef) w:=
 ⟨by cases o.dst<;>exact b.defers,nJ b.slots o.dst ej,b.heap,b.mv,b.fresh,b.root,b.rn,(jp ..).trans b.len⟩
theorem wS(f:aQ P Γ){o:Oper}{σ:St}{ρ:Nat->Pl}{a:Act}{w:World}{K:Act->World->Prop}{Q:Exit->Act->World->Prop}(b:fv R B σ ρ a w)
 (h:(nM P Γ o σ).sat λσ'=>∀ρ' e w',dR ρ ρ'->fv R B σ' ρ' e w'->K e w'):o.wp P a w K Q:=by
 unfold nM at h;rw[cH]at h;refine tv (F:=B.F) f b.heap (λ_ _ q=>q) (λx=>fC b.slots x) (λk g _=>b.fresh k g) (by omega) K Q (bX ?_ h);rintro⟨y,u⟩ i v w' j;obtain⟨ρ',l,c⟩:=b.step (dst:=o.dst) j;exact i ρ' _ w' l c
theorem rj{σ:St}{ρ:Nat->Pl}{a:Act}{w:World}{o:Oper}{t:Nat}{b:Bool}(g:fv R B σ ρ a w)(h:nN σ.slots o=some (t,b)):a.tmps[t]?=some (.bool b):=by
 unfold nN at h;split at h
 case h_2=>simp at h
 rename_i i _ _ _;split at h
 case h_2=>simp at h
 rename_i c;simp at h;obtain⟨rfl,rfl⟩:=h;rw[aw]at c;cases e:σ.slots[i]? with
 |none=>rw[e]at c;simp at c
 |some x=>
  rw[e]at c;simp at c;subst c;obtain⟨v,j,l⟩:=g.slots.get e;have f:=aJ.1 l;simp[bj,Rd]at f;subst f;simpa using j
theorem Aj(x:aQ P Γ){Q:Exit->Act->World->Prop}:∀(l:List Oper)(k:Nat)(σ:St)(ρ:Nat->Pl)(a:Act)(w:World),(∀i,l[i]?=ops[k+i]?)->fv R B σ ρ a w->
 ((jb P Γ ops l σ).sat λσ'=>∀ρ' e w',dR ρ ρ'->fv R B σ' ρ' e w'->Q .normal e w')->wpOps P ops Q (pA k l.length) a w
 |[],k,σ,ρ,a,w,_,c,h=>h ρ a w (dR.refl ρ) c
 |o::r,k,σ,ρ,a,w,y,c,h=>by
  have A:ops[k]?=some o:=by have:=y 0;simpa using this.symm
  have q:∀i,r[i]?=ops[k+1+i]?:=λi=>by have:=y (i+1);simpa[eO,eJ 1 i]using this
  have z:=λσ ρ a w=>Aj x (Q:=Q) r (k+1) σ ρ a w q;obtain⟨C,s,D⟩:=mS (ops:=ops) (o:=o) c.slots;rw[ba,List.range'_succ,wpOps_cons];unfold wpOp;simp only[A]
  have yes:∀(σ1:St),fv R B σ1 ρ a w->(((nM P Γ o σ1).bind (jb P Γ ops r)).sat λσ'=>∀ρ' e w',dR ρ ρ'->fv R B σ' ρ' e w'->Q .normal e w')->o.wp P a w (wpOps P ops Q (pA (k+1) r.length)) Q:=by
   intro σ1 g p;rw[cH]at p;refine wS x g (bX ?_ p);intro σ' E ρ' e w' F u;exact z σ' ρ' e w' u (bX (λ_ G ρ2 H s v=>G ρ2 H s (F.trans v)) E)
  have no:∀(σ1:St),fv R B σ1 ρ a w->((jb P Γ ops r (tE o σ1)).sat λσ'=>∀ρ' e w',dR ρ ρ'->fv R B σ' ρ' e w'->Q .normal e w')->wpOps P ops Q (pA (k+1) r.length) (a.put o.dst undef) w:=
   λσ1 g p=>z _ _ _ _ g.skip p
  simp only[jb]at h;split at h
  ·rename_i m;rw[C m];split at h
   ·rename_i t b J;have j:=rj c J;cases b
    ·exact .inl (yes _ (c.know j) (h.2 rfl))
    ·exact .inl (yes _ (c.know j) (h.1 rfl))
   ·exact .inl (yes σ c h)
  ·rename_i m;rw[s m];exact no σ c h
  ·rename_i t b f m;obtain⟨K,_,j⟩:=D _ _ _ m;rw[K];cases b
   ·have n:=h.2 rfl;cases f
    ·exact .inl (yes _ (c.know j) n)
    ·exact no _ (c.know j) n
   ·have n:=h.1 rfl;cases f
    ·exact no _ (c.know j) n
    ·exact .inl (yes _ (c.know j) n)
  ·exact h.elim
theorem tH{N:Nat}{mask:Nat->xV}{Q:FSt->Prop}:∀(l:List Oper)(k:Nat)(q:List V×fu),(∀i,l[i]?=ops[k+i]?)->((wQ P Γ N mask ops l k q).sat λr=>Q ⟨r.1,aV r.2⟩)->(Ce P Γ N mask ops l.length k ⟨q.1,aV q.2⟩).sat Q
 |[],_,_,_,h=>h
 |o::r,k,q,c,h=>by
  have e:ops[k]?=some o:=by have:=c 0;simpa using this.symm
  have b:∀i,r[i]?=ops[k+1+i]?:=λi=>by have:=c (i+1);simpa[eO,eJ 1 i]using this
  simp only[wQ]at h;simp only[ba,Ce,iv,e];rw[cH]at h⊢;rw[D5,cH]at h;rw[cH];refine bX ?_ h;intro p a;unfold fin;split at a
  case isFalse=>exact a.elim
  rename_i f;rw[am f];simp only[Tr.sat]at a⊢;rw[<-dO];exact tH r (k+1) _ b a
theorem Ak{N:Nat}{mask:Nat->xV}{Q:List V×fu->Prop}:∀(l:List Oper)(a:List (Nat×Bool))(k:Nat)(q:List V×fu),(nO P Γ N mask ops a l k q).sat Q->(wQ P Γ N mask ops l k q).sat Q
 |[],_,_,_,h=>h
 |o::r,a,k,q,h=>by
  have w:=λa=>Ak (N:=N) (mask:=mask) (Q:=Q) r a (k+1)
  have go:∀(a:List (Nat×Bool))(t:Tr (V×dN)),((t.bind λr=>if ir N mask ops k o r.2 then .leaf (eZ q.1 o.dst r.1,mR q.2 r.2)else .stuck).bind (nO P Γ N mask ops a r (k+1))).sat Q->
   t.sat λg=>(if ir N mask ops k o g.2 then Tr.leaf (eZ q.1 o.dst g.1,mR q.2 g.2)else .stuck).sat λn=>(wQ P Γ N mask ops r (k+1) n).sat Q:=by
   intro a t u;rw[cH,cH]at u;exact bX (λ_ f=>bX (λ_ z=>w a _ z) f) u
  simp only[wQ,D5];rw[cH,cH];simp only[nO]at h;unfold gtr;split at h
  ·rename_i t b i p;simp only[p]
   have one:∀(c:Bool)(a:List (Nat×Bool)),b=c->((tG P Γ N mask ops o k q (c==i)).bind (nO P Γ N mask ops a r (k+1))).sat Q->
    (Tr.ite (b==i) (uN P Γ N mask ops o k (dt q.1) (gT N mask k o (aV q.2))) (.leaf (.tup [],[]))).sat λg=>(if ir N mask ops k o g.2 then Tr.leaf (eZ q.1 o.dst g.1,mR q.2 g.2)else .stuck).sat λn=>(wQ P Γ N mask ops r (k+1) n).sat Q:=by
    intro c a e f;subst e;refine⟨λj=>?_,λj=>?_⟩
    ·rw[j]at f;exact go a _ f
    ·rw[j]at f;exact go a _ f
   split at h
   ·obtain⟨e,f⟩:=h;exact one _ _ e f
   ·cases b
    ·exact one false _ rfl (h.2 rfl)
    ·exact one true _ rfl (h.1 rfl)
  ·rename_i p;simp only[p];split at h
   ·rename_i t b m
    have one:∀(c:Bool)(a:List (Nat×Bool)),b=c->((wR N mask ops o k q c).bind (nO P Γ N mask ops a r (k+1))).sat Q->
     (uN P Γ N mask ops o k (dt q.1) (gT N mask k o (aV q.2))).sat λg=>(if ir N mask ops k o g.2 then Tr.leaf (eZ q.1 o.dst g.1,mR q.2 g.2)else .stuck).sat λn=>(wQ P Γ N mask ops r (k+1) n).sat Q:=by
     intro c a e f;subst e;unfold nN at m;split at m
     case h_2=>simp at m
     rename_i D x y s;split at m
     case h_2=>simp at m
     rename_i v A;simp at m;obtain⟨rfl,rfl⟩:=m
     have e:uN P Γ N mask ops o k (dt q.1) (gT N mask k o (aV q.2))= .ite v (.leaf (dt q.1 x,[])) (.leaf (dt q.1 y,[])):=by
      have C:B6 P Γ o (dt q.1) (gT N mask k o (aV q.2)) (N+256*k) 256= .ite v (.leaf (dt q.1 x,[])) (.leaf (dt q.1 y,[])):=by
       simp only[B6,s,kS,dt,A,V.one?]
      rw[uN,C];rfl
     rw[e];simp only[wR,s]at f;have:=go a _ f;refine⟨λj=>?_,λj=>?_⟩
     ·rw[j]at this;exact this
     ·rw[j]at this;exact this
    split at h
    ·obtain⟨e,f⟩:=h;exact one _ _ e f
    ·cases b
     ·exact one false _ rfl (h.2 rfl)
     ·exact one true _ rfl (h.1 rfl)
   ·exact go a _ h
  ·rename_i p;simp only[p];exact go a _ h
  ·exact h.elim
theorem tI(t:aQ P Γ)(hL:bg Γ)(v:P.follows .mixedOrders=true){id:Nat}{c:Bool}{σ:St}{ρ:Nat->Pl}{a:Act}{w:World}{Q:Exit->Act->World->Prop}(f:fv R B σ ρ a w)
 (h:(I4 P Γ ops c σ).sat λσ'=>∀ρ' g w',dR ρ ρ'->fv R B σ' ρ' g w'->Q .normal g w'):(Code.region id ops c).wp P Q a w:=by
 unfold I4 at h;split at h
 ·rename_i m;subst m;split at h
  case isFalse=>exact h.elim
  rename_i n;rw[cH]at h;have u:=tH (Q:=λs=>∀ρ' g w',dR ρ ρ'->uO R σ.next B ρ' g w' s (λj=>decide (j<ops.size))->Q .normal g w') ops.toList 0 (σ.slots,σ.heap) (λi=>by simp) (Ak _ _ _ _ (bX (λq o ρ' g w' p b=>?_) h))
  ·have l:ops.toList.length=ops.size:=by simp
   rw[l]at u;refine wO (N:=σ.next) (R:=R) (B:=B) (s:=⟨σ.slots,aV σ.heap⟩) t hL v n ⟨f.defers,f.slots,f.heap,f.mv,λk r x=>absurd (f.fresh k r) x,f.root,f.rn,f.len⟩ u ?_;intro ρ' a w y p o b;exact o ρ' a w p b
  ·refine o ρ' g w' p ⟨b.defers,b.slots,b.heap,b.mv,λk r=>?_,b.root,?_,b.len⟩
   ·by_cases e:ρ' k= .un
    ·exact e
    ·simp only at r;have:=b.fresh k (by omega) e;simp at this;omega
   ·have:=f.rn;simp only;omega
 ·rename_i m;obtain rfl:c=false:=by simpa using m
  refine wp_region ?_;rw[List.range_eq_range'];have:=Aj t (Q:=Q) ops.toList 0 σ ρ a w (λi=>by simp) f h;simpa using this
end
end
section
structure tJ where
 ps:List cg
 inv:cw ps->Prop
 mu:cw ps->Nat
 inn:cw ps->List (Nat×tJ)
def Dj:Nat->List (Option CP)->Nat->List (Nat×Option Nat)
 |0,_,_=>[]
 |_+1,[],_=>[]
 |n+1,none::l,i=>Dj n l (i+1)
 |n+1,some _::l,i=>(i,some i)::Dj n l (i+1)
def lH(R:Nat)(a:List (Nat×Option Nat)):Bool:=a.all λp=>decide (R<=p.1)||decide (p.2=some p.1)
def fg(R:Nat)(s:St)(ps:List cg):Nat->Nat->Option (cw ps)
 |0,_=>none
 |n+1,i=>match fit (aV s.heap) s.slots (cY ps i) (Dj R (cY ps i).hp 0)with
  |some (v,a,_)=>if wu (cY ps i).hp&&kX (cY ps i).hp.length a&&decide (R<=(cY ps i).hp.length)&&lH R a then some ⟨i,(cY ps i).put v⟩else fg R s ps n (i+1)
  |none=>fg R s ps n (i+1)
def rk(R:Nat)(s:St)(ps:List cg):Option (cw ps):=fg R s ps ps.length 0
def fd(ps:List cg)(n:Nat)(y:cw ps):St:=
 ⟨oz (cY ps y.1) n ((cY ps y.1).get y.2),HP.inst ib 0 (cY ps y.1).hp ((cY ps y.1).get y.2).2,(cY ps y.1).hp.length⟩
theorem nP:∀(n:Nat)(l:List (Option CP))(i j:Nat)(k:Option Nat),aV (Dj n l i) j=some k->k=some j/\i<=j
 |0,_,_,_,_,h=>by simp[Dj,aV]at h
 |_+1,[],_,_,_,h=>by simp[Dj,aV]at h
 |n+1,none::l,i,j,k,h=>by
  simp only[Dj]at h;have:=nP n l (i+1) j k h;exact⟨this.1,by omega⟩
 |n+1,some _::l,i,j,k,h=>by
  simp only[Dj,aV]at h;split at h
  ·rename_i e;subst e;simp at h;exact⟨h.symm,aD _⟩
  ·have:=nP n l (i+1) j k h;exact⟨this.1,by omega⟩
theorem pX(n:Nat)(l:List (Option CP))(i:Nat):(⟨Dj n l i,[]⟩:Mt).Inj:=by
 intro j a k h b;have c:=(nP n l i j _ h).1;have e:=(nP n l i a _ b).1;simp at c e;omega
theorem tK{R:Nat}{a:List (Nat×Option Nat)}{ρ ρ0:Nat->Pl}(h:lH R a=true)(b:∀k,k<R->ρ k=ρ0 k\/ρ k= .un){k:Nat}(c:k<R):gf ⟨a,[]⟩ ρ k=ρ0 k\/gf ⟨a,[]⟩ ρ k= .un:=by
 unfold gf;cases e:aV a k with
 |none=>exact .inr rfl
 |some v=>
  unfold lH at h;rw[cU]at h;have:=h _ (ia e);simp only[iH,ai]at this;rcases this with q|q
  ·omega
  ·subst q;exact b k c
section
variable{R:Nat}{B:eP}
theorem jO{s:St}{ps:List cg}:∀{n i:Nat}{y:cw ps},fg R s ps n i=some y->∃v a u,fit (aV s.heap) s.slots (cY ps y.1) (Dj R (cY ps y.1).hp 0)=some (v,a,u)/\wu (cY ps y.1).hp=true/\kX (cY ps y.1).hp.length a=true/\R<=(cY ps y.1).hp.length/\lH R a=true/\(cY ps y.1).get y.2=v
 |0,_,_,h=>by simp[fg]at h
 |n+1,i,y,h=>by
  simp only[fg]at h;split at h
  case h_2=>exact jO h
  rename_i v a u c;split at h
  case isFalse=>exact jO h
  rename_i b;simp only[aI,ai]at b;simp at h;subst h;exact⟨v,a,u,c,b.1.1.1,b.1.1.2,b.1.2,b.2,cg.get_put⟩
theorem rl{σ:St}{ps:List cg}{y:cw ps}{ρ:Nat->Pl}{a:Act}{w:World}{n:Nat}(c:fv R B σ ρ a w)(E:B.n=n)(h:rk R σ ps=some y):∃ρ',fv R B (fd ps n y) ρ' a w/\∀b,b<w.heap.size->oW ρ' (aV (fd ps n y).heap) b->oW ρ (aV σ.heap) b:=by
 obtain⟨v,j,u,G,m,H,J,o,f⟩:=jO h;obtain⟨l,rfl,p⟩:=yD G;obtain⟨P,r,s⟩:=uJ p;obtain⟨K,i,L⟩:=jM (l:=l) c.heap (λ_ _ q=>q);have t:=F2.imp (λ_ _=>aT.evo i.evo (dR.refl ρ)) c.slots;obtain⟨M,D,Q,x,S⟩:=qQ (F':=B.F) K L t r s rfl (pX R _ 0) m (λb e=> .inl e)
 have z:Mv B.ρ B.w B.h (gf ⟨j,[]⟩ ρ) w (aV (HP.inst ib 0 (cY ps y.1).hp v.2)):=by
  have:=c.mv.trans i;exact⟨this.os,this.tape,this.output,this.size,this.block,λb e N=>this.own b e (x b N)⟩
 refine⟨gf ⟨j,[]⟩ ρ,⟨c.defers.own (λb e q=>i.own b e (x b (by simp only[fd,f]at q;exact q))),?_,?_,?_,λk A=>?_,λk C=>?_,J,c.len⟩,λb e q=>i.own b e (x b (by simp only[fd,f]at q;exact q))⟩
 ·simp only[fd,f,oz];have g:a.tmps.toList.length=n:=by simpa using c.len.trans E
  rw[g]at D;exact D
 ·simp only[fd,f];exact M
 ·simp only[fd,f];exact z
 ·simp only[fd]at A;unfold gf;cases O:aV j k with
  |none=>rfl
  |some q=>exact absurd (jo H O) (by omega)
 ·exact tK o c.root C
theorem jq{σ:St}{ps:List cg}{y:cw ps}{ρ:Nat->Pl}{a:Act}{w:World}{n:Nat}(b:fv R B σ ρ a w)(c:B.n=n)(h:rk R σ ps=some y):∃ρ',fv R B (fd ps n y) ρ' a w:=
 let⟨ρ',e,_⟩:=rl b c h
 ⟨ρ',e⟩
end
def IP.allK{R:Type}:(p:IP)->((R->Prop)->Prop)->(p.denK R->Prop)->Prop
 | .d t,f,q=>∀x:t.den,f λr=>q (x,r)
 | .pv t,f,q=>∀x:t.den,f λr=>q (x,r)
 | .cut e,f,q=>∀x:List e.den,f λr=>q (x,r)
 | .k _,f,q=>f q
 | .ptr ..,f,q=>f q
 | .own _,f,q=>f q
 | .mp _,f,q=>f q
 | .ifc ..,f,q=>f q
 | .fn ..,f,q=>f q
 | .nils,f,q=>f q
 | .nilp,f,q=>f q
 | .nilm,f,q=>f q
 | .nili,f,q=>f q
 | .nilf,f,q=>f q
abbrev sD{R:Type}(f:(R->Prop)->Prop):Prop:=∀k,f k->∀x,k x
theorem IP.allK_ok{R:Type}{p:IP}{f:(R->Prop)->Prop}(a:sD f):sD (p.allK f):=by
 intro q h x;cases p
 case d t=>exact a _ (h x.1) x.2
 case pv t=>exact a _ (h x.1) x.2
 case cut e=>exact a _ (h x.1) x.2
 all_goals exact a q h x
def LP.allK{R:Type}:(l:List IP)->((R->Prop)->Prop)->(LP.denK l R->Prop)->Prop
 |[],f,k=>f k
 |p::l,f,k=>p.allK (LP.allK l f) k
theorem LP.allK_ok{R:Type}{f:(R->Prop)->Prop}(a:sD f):∀{l:List IP},sD (LP.allK l f)
 |[]=>a
 |p::l=>IP.allK_ok (p:=p) (LP.allK_ok (l:=l) a)
def CP.allK{R:Type}:(c:CP)->((R->Prop)->Prop)->(c.denK R->Prop)->Prop
 | .cells l,f,k=>LP.allK l f k
 | .sl e,f,k=>∀x:List e.den,f λr=>k (x,r)
 | .mp a b,f,k=>∀x:List (a.den×b.den),f λr=>k (x,r)
 | .lk a b,f,k=>∀x:List (a.den×b.den),f λr=>k (x,r)
 | .sit,f,k=>∀(s:List (BitVec 8))(g:Nat),f λr=>k (s,g,r)
 | .mit _ a b,f,k=>∀(x:List (a.den×b.den))(z:Option (a.den×b.den)),f λr=>k (x,z,r)
 | .nit,f,k=>f k
 | .fit a b,f,k=>∀(x:List (a.den×b.den))(z:Option (a.den×b.den)),f λr=>k (x,z,r)
theorem CP.allK_ok{R:Type}{c:CP}{f:(R->Prop)->Prop}(a:sD f):sD (c.allK f):=by
 intro k h x;cases c
 case cells l=>exact LP.allK_ok a k h x
 case sl e=>exact a _ (h x.1) x.2
 case mp b g=>exact a _ (h x.1) x.2
 case lk b g=>exact a _ (h x.1) x.2
 case sit=>exact a _ (h x.1 x.2.1) x.2.2
 case mit m b g=>exact a _ (h x.1 x.2.1) x.2.2
 case nit=>exact a k h x
 case fit b g=>exact a _ (h x.1 x.2.1) x.2.2
def HP.allK{R:Type}:(l:List (Option CP))->((R->Prop)->Prop)->(HP.denK l R->Prop)->Prop
 |[],f,k=>f k
 |some c::l,f,k=>c.allK (HP.allK l f) k
 |none::l,f,k=>HP.allK l f k
theorem HP.allK_ok{R:Type}{f:(R->Prop)->Prop}(a:sD f):∀{l:List (Option CP)},sD (HP.allK l f)
 |[]=>a
 |some c::l=>CP.allK_ok (c:=c) (HP.allK_ok (l:=l) a)
 |none::l=>HP.allK_ok (l:=l) a
def SP.allK{R:Type}:(l:kT)->((R->Prop)->Prop)->(SP.denK l R->Prop)->Prop
 |[],f,k=>f k
 |p::l,f,k=>LP.allK p.2.2 (SP.allK l f) k
theorem SP.allK_ok{R:Type}{f:(R->Prop)->Prop}(a:sD f):∀{l:kT},sD (SP.allK l f)
 |[]=>a
 |p::l=>LP.allK_ok (l:=p.2.2) (SP.allK_ok (l:=l) a)
def cg.All(p:cg)(k:p.den->Prop):Prop:=SP.allK p.sl (HP.allK p.hp λk=>k ()) k
theorem cg.All_ok{p:cg}{k:p.den->Prop}(h:p.All k)(x:p.den):k x:=SP.allK_ok (HP.allK_ok (λ_ h _=>h)) k h x
def jP(ps:List cg)(k:cw ps->Prop):Nat->Nat->Prop
 |0,_=>True
 |1,i=>(cY ps i).All λx=>k ⟨i,x⟩
 |n+2,i=>((cY ps i).All λx=>k ⟨i,x⟩)/\jP ps k (n+1) (i+1)
theorem gu{ps:List cg}{k:cw ps->Prop}:∀{n i:Nat},jP ps k n i->∀y:cw ps,i<=y.1->y.1<i+n->k y
 |0,_,_,y,a,b=>by omega
 |1,i,h,⟨j,x⟩,a,b=>by
  simp only at a b;obtain rfl:j=i:=by omega
  exact cg.All_ok (k:=λx=>k ⟨j,x⟩) h x
 |n+2,i,h,⟨j,x⟩,a,b=>by
  by_cases e:j=i
  ·subst e;exact cg.All_ok (k:=λx=>k ⟨j,x⟩) h.1 x
  ·exact gu h.2 ⟨j,x⟩ (by simp only at a⊢;omega) (by simp only at b⊢;omega)
theorem dp{R:Nat}{s:St}{ps:List cg}:∀{n i:Nat}{y:cw ps},fg R s ps n i=some y->i<=y.1/\y.1<i+n
 |0,_,_,h=>by simp[fg]at h
 |n+1,i,y,h=>by
  simp only[fg]at h;split at h
  ·split at h
   ·simp at h;subst h;simp
   ·have:=dp h;omega
  ·have:=dp h;omega
inductive Is (p:Prop):Prop where
 |mk (h:p)
theorem Is.out{p:Prop}(h:Is p):p:=h.1
def fw(R:Nat)(c:tJ)(s:St)(p:cw c.ps->Prop):Prop:=match rk R s c.ps with
 |some y=>Is (p y)
 |none=>False
theorem fN{R:Nat}{c:tJ}{s:St}{p:cw c.ps->Prop}(h:fw R c s p):∃y,rk R s c.ps=some y/\p y:=by
 unfold fw at h;split at h
 ·rename_i y a;exact⟨y,a,h.1⟩
 ·exact h.elim
end
section
structure dB where
 loops:List (Nat×tJ)
 joins:List (Nat×tJ)
 jumps:List (Nat×Nat×tJ)
 splits:List (Nat×Nat×Nat)
 unroll:Nat
def gQ:Code->Option Nat
 | .region id _ _=>some id
 | .seq x y=>match gQ x with
   |some i=>some i
   |none=>gQ y
 | .cond _ x y=>match gQ x with
   |some i=>some i
   |none=>gQ y
 | .block _ c=>gQ c
 | .loop c=>gQ c
 | .scope c=>gQ c
 |_=>none
def tL{β:Type}(l:List (Nat×β)):Option Nat->Option β
 |none=>none
 |some k=>go l k
where go:List (Nat×β)->Nat->Option β
 |[],_=>none
 |p::r,j=>if p.1=j then some p.2 else go r j
abbrev Kn:=Exit->St->Prop
def fF(next:St->Prop)(Q:Kn):Kn
 | .normal,s=>next s
 |e,s=>Q e s
def pq(id:Nat)(Q:Kn):Kn
 | .exit a,s=>if a=id then Q .normal s else Q (.exit a) s
 |e,s=>Q e s
def I5(Q:Kn):Kn
 | .goto _,_=>False
 |e,s=>Q e s
def kf(l:Nat)(J:St->Prop)(Q:Kn):Kn
 | .goto a,s=>if a=l then J s else False
 |e,s=>Q e s
def Al:Nat->(St->Kn->Prop)->St->Kn->Prop
 |0,_,_,_=>False
 |n+1,f,s,Q=>f s (fF (λa=>Al n f a Q) Q)
def yM(x:Int)(f:Nat->Prop):Nat->Prop
 |0=>True
 |m+1=>yM x f m/\(x=(m:Int)->f m)
def ld(s:St)(c:Operand)(b:Bool):St:=match c with
 | .tmp t=>pp s t b
 |_=>s
def VE(s:St)(t q:Nat):St:=⟨s.slots.set t (sc (.k (.i64 q))),s.heap,s.next⟩
def gW(ro:Option Nat):Fence:={Fence.wide with round:=ro}
def oD(o:Oper):Bool:=match o.op with
 | .defer _=>false
 |_=>true
theorem D6{P:Program}{ro:Option Nat}{m a:Machine}(h:Steps P m a):StepsIn (Machine.fenced P (gW ro)) P m a:=(stepsIn_wide.2 h:StepsIn (Machine.fenced P Fence.wide) P m a)
theorem rm{P:Program}{ro:Option Nat}{n:Nat}{f:FuncId}{args:Array Value}{w:World}{R:Ending->World->Prop}(h:Calls P f args w R):CallsIn (gW ro) n P f args w R:=
 (callsIn_wide.2 h:CallsIn Fence.wide n P f args w R)
theorem rp{ro:Option Nat}{n:Nat}:(gW ro).depth.isSome=true->1<=n:=λq=>by cases q
theorem a0k{ro:Option Nat}(n:Nat):(gW ro).room n:=λ_ h=>by cases h
theorem VF{P:Program}{o:Oper}{a:Act}{w:World}{K:Act->World->Prop}{Q:Exit->Act->World->Prop}{ro:Option Nat}{n:Nat}(b:oD o=true)(h:o.wp P a w K Q):o.wpIn (gW ro) n P a w K Q:=by
 refine⟨λ_ _=>trivial,?_⟩;have e:o.semAt (gW ro).round a.eval=execOp a.eval o:=Oper.semAt_eq _ _ _ (λc g=>by unfold oD at b;rw[g]at b;cases b);rw[e];unfold Oper.wp at h;generalize(execOp a.eval o).run P w=r at*;cases r with
 |ok x f=>
  cases x<;>simp only[Oper.upon,Oper.uponIn]at h⊢<;>first
   |exact h
   |exact⟨rp,rm h⟩
   |exact⟨rp,λc i _=>let⟨v,f,r,s⟩:=h c i;⟨v,f,r,D6 s⟩⟩
 |halt x f=>cases x<;>simp only[Oper.upon,Oper.uponIn]at h⊢<;>exact h
section
variable{P:Program}{Γ:bw}{R:Nat}{B:eP}{ops:Array Oper}
theorem pY(C:aQ P Γ){ro:Option Nat}{n:Nat}{Q:Exit->Act->World->Prop}{rest:List Nat}:∀(l:List Oper)(k:Nat)(σ:St)(ρ:Nat->Pl)(a:Act)(w:World),(∀o∈l,oD o=true)->(∀i o,l[i]?=some o->ops[k+i]?=some o)->fv R B σ ρ a w->
 ((jb P Γ ops l σ).sat λσ'=>∀ρ' e w',dR ρ ρ'->fv R B σ' ρ' e w'->wpOpsIn (gW ro) n P ops Q rest e w')->wpOpsIn (gW ro) n P ops Q (pA k l.length++rest) a w
 |[],k,σ,ρ,a,w,_,_,c,h=>h ρ a w (dR.refl ρ) c
 |o::r,k,σ,ρ,a,w,D,E,c,h=>by
  have G:ops[k]?=some o:=by simpa using E 0 o rfl
  have u:∀i x,r[i]?=some x->ops[k+1+i]?=some x:=λi x m=>by have:=E (i+1) x (by simpa using m);rwa [eJ i 1,<-eO]at this
  have v:=D o (aG ..);have F:=λσ ρ a w=>pY C (Q:=Q) (rest:=rest) (ro:=ro) (n:=n) r (k+1) σ ρ a w (λx m=>D x (aA _ m)) u;obtain⟨H,y,J⟩:=mS (ops:=ops) (o:=o) c.slots;rw[ba,List.range'_succ,List.cons_append,wpOpsIn_cons];unfold wpOpIn;simp only[G]
  have yes:∀(σ1:St),fv R B σ1 ρ a w->(((nM P Γ o σ1).bind (jb P Γ ops r)).sat λσ'=>∀ρ' e w',dR ρ ρ'->fv R B σ' ρ' e w'->wpOpsIn (gW ro) n P ops Q rest e w')->o.wpIn (gW ro) n P a w (wpOpsIn (gW ro) n P ops Q (pA (k+1) r.length++rest)) Q:=by
   intro σ1 g s;rw[cH]at s;refine VF v (wS C g (bX ?_ s));intro σ' K ρ' e w' m z;exact F σ' ρ' e w' z (bX (λ_ L ρ2 M y A=>L ρ2 M y (m.trans A)) K)
  have no:∀(σ1:St),fv R B σ1 ρ a w->((jb P Γ ops r (tE o σ1)).sat λσ'=>∀ρ' e w',dR ρ ρ'->fv R B σ' ρ' e w'->wpOpsIn (gW ro) n P ops Q rest e w')->wpOpsIn (gW ro) n P ops Q (pA (k+1) r.length++rest) (a.put o.dst undef) w:=
   λσ1 g s=>F _ _ _ _ g.skip s
  simp only[jb]at h;split at h
  ·rename_i p;rw[am (H p)];split at h
   ·rename_i t b N;have j:=rj c N;cases b
    ·exact yes _ (c.know j) (h.2 rfl)
    ·exact yes _ (c.know j) (h.1 rfl)
   ·exact yes σ c h
  ·rename_i p;rw[af (by rw[y p];simp)];exact⟨λ_ _=>trivial,no σ c h⟩
  ·rename_i t b f p;obtain⟨O,_,j⟩:=J _ _ _ p;rw[O];cases b
   ·have q:=h.2 rfl;cases f
    ·exact yes _ (c.know j) q
    ·exact⟨λ_ _=>trivial,no _ (c.know j) q⟩
   ·have q:=h.1 rfl;cases f
    ·exact⟨λ_ _=>trivial,no _ (c.know j) q⟩
    ·exact yes _ (c.know j) q
  ·exact h.elim
end
section
variable(P:Program)(Γ:bw)
def D7:Code->St->Kn->Prop
 | .skip,s,Q=>Q .normal s
 | .region _ ops a,s,Q=>(a=false/\ops.toList.all oD=true)/\(jb P Γ ops ops.toList s).sat (Q .normal)
 | .seq x y,s,Q=>D7 x s (fF (λe=>D7 y e Q) Q)
 | .cond c x y,s,Q=>match dt s.slots c with
   | .val false [.k (.bool true)]=>D7 x s Q
   | .val false [.k (.bool false)]=>D7 y s Q
   | .val false [.d .bl b]=>(b=true->D7 x (ld s c true) Q)/\(b=false->D7 y (ld s c false) Q)
   |_=>False
 | .block id c,s,Q=>D7 c s (pq id Q)
 | .exit id,s,Q=>Q (.exit id) s
 | .ret,s,Q=>Q .ret s
 |_,_,_=>False
end
def TR(P:Program)(R:Nat)(B:eP)(ro:Option Nat)(c:Code)(σ:St)(Q:Kn):Prop:=
 ∀(n:Nat)(ρ:Nat->Pl)(a:Act)(w:World),fv R B σ ρ a w->c.wpIn (gW ro) n P (λe b f=>∃σ' ρ',Q e σ'/\dR ρ ρ'/\fv R B σ' ρ' b f) a w
theorem wT{P:Program}{R:Nat}{B:eP}{σ:St}{ρ:Nat->Pl}{a:Act}{w:World}(i:fv R B σ ρ a w){c:Operand}:
 (∀b,dt σ.slots c= .val false [.k (.bool b)]->a.eval c= .bool b)/\(∀b,dt σ.slots c= .val false [.d .bl b]->a.eval c= .bool b/\fv R B (ld σ c b) ρ a w):=by
 have h:=fC i.slots c;refine⟨λb e=>?_,λb e=>?_⟩
 ·rw[e]at h;have:=aJ.1 h;simp[bj]at this;exact this
 ·rw[e]at h;have f:=aJ.1 h;simp[bj,Rd]at f;refine⟨f,?_⟩;unfold ld;split
  ·rename_i t;refine i.know ?_;simp only[Act.eval]at f
   have:t<a.tmps.size:=by
    rcases bI t a.tmps.size with g|g
    ·exact g
    ·rw[Array.getD_eq_getD_getElem?,Array.getElem?_eq_none g]at f;simp[undef]at f
   rw[Array.getD_eq_getD_getElem?,Array.getElem?_eq_getElem this]at f;rw[Array.getElem?_eq_getElem this];simpa using f
  ·exact i
theorem D8{P:Program}{Γ:bw}{R:Nat}{B:eP}{ro:Option Nat}(C:aQ P Γ):∀(c:Code)(σ:St)(Q:Kn),D7 P Γ c σ Q->TR P R B ro c σ Q:=by
 intro c
 induction c with
 |skip=>exact λσ Q h n ρ a w f=>wpIn_skip ⟨σ,ρ,h,dR.refl ρ,f⟩
 |exit id=>exact λσ Q h n ρ a w f=>wpIn_exit ⟨σ,ρ,h,dR.refl ρ,f⟩
 |ret=>exact λσ Q h n ρ a w f=>wpIn_ret ⟨σ,ρ,h,dR.refl ρ,f⟩
 |region id ops v=>
  intro σ Q h n ρ a w f;obtain⟨⟨D,E⟩,F⟩:=h;subst D;refine wpIn_region ?_;rw[List.range_eq_range'];have:=pY C (ro:=ro) (n:=n) (rest:=[]) (Q:=λe m p=>∃σ' ρ',Q e σ'/\dR ρ ρ'/\fv R B σ' ρ' m p) ops.toList 0 σ ρ a w (λo G=>cU.1 E o G) (λi o H=>by simpa using H) f (bX (λσ' q ρ' m p l s=>⟨σ',ρ',q,l,s⟩) F);simpa using this
 |seq x y g j=>
  intro σ Q h n ρ a w f;refine wpIn_seq (wpIn_mono (g _ _ h n ρ a w f) ?_);rintro e m p ⟨σ',ρ',q,l,r⟩;cases e with
  |normal=>exact wpIn_mono (j _ _ q n ρ' m p r) (λe J K⟨σ2,ρ2,L,t,M⟩=>⟨σ2,ρ2,L,l.trans t,M⟩)
  |_=>exact⟨σ',ρ',q,l,r⟩
 |cond c x y g j=>
  intro σ Q h n ρ a w f;have u:=wT (P:=P) f (c:=c);simp only[D7]at h;split at h
  ·rename_i e;exact wpIn_cond_true (u.1 _ e) (g _ _ h n ρ a w f)
  ·rename_i e;exact wpIn_cond_false (u.1 _ e) (j _ _ h n ρ a w f)
  ·rename_i b e;obtain⟨z,A⟩:=u.2 b e;cases b with
   |true=>exact wpIn_cond_true z (g _ _ (h.1 rfl) n ρ a w A)
   |false=>exact wpIn_cond_false z (j _ _ (h.2 rfl) n ρ a w A)
  ·exact h.elim
 |block id c N=>
  intro σ Q h n ρ a w f;refine wpIn_block (wpIn_mono (N _ _ h n ρ a w f) ?_);rintro e m p ⟨σ',ρ',q,l,r⟩;cases e with
  |exit O=>
   simp only[Exit.inBlock];simp only[pq]at q;split
   ·rename_i e;rw[am e]at q;exact⟨σ',ρ',q,l,r⟩
   ·rename_i e;rw[af e]at q;exact⟨σ',ρ',q,l,r⟩
  |_=>exact⟨σ',ρ',q,l,r⟩
 |_=>intro σ Q h;exact h.elim
end
section
theorem F2.split{α β:Type}{R:α->β->Prop}:∀{m1:List β}{l:List α}{c:List β},F2 R l (m1++c)->F2 R (l.take m1.length) m1/\F2 R (l.drop m1.length) c
 |[],_,_,h=>⟨trivial,h⟩
 |b::m1,[],_,h=>h.elim
 |b::m1,a::l,c,⟨e,h⟩=>let⟨f,g⟩:=F2.split (m1:=m1) h;⟨⟨e,f⟩,g⟩
structure Dk(l:Nat)(ρ:Nat->Pl)(w:World)(h:Nat->Option Ch)(ρ':Nat->Pl)(w':World)(h':Nat->Option Ch):Prop where
 os:w'.os=w.os
 tape:w'.tape=w.tape
 output:w'.output=w.output
 size:w.heap.size<=w'.heap.size
 block:∀b,b<w.heap.size->b≠l->¬oW ρ h b->w'.heap[b]?=w.heap[b]?
 own:∀b,b<w.heap.size->oW ρ' h' b->oW ρ h b
theorem Mv.toL{l:Nat}{ρ ρ':Nat->Pl}{w w':World}{h h':Nat->Option Ch}(a:Mv ρ w h ρ' w' h'):Dk l ρ w h ρ' w' h':=⟨a.os,a.tape,a.output,a.size,λb c _=>a.block b c,a.own⟩
theorem Dk.trans{l:Nat}{ρ ρ' ρ'':Nat->Pl}{w w' e:World}{h h' f:Nat->Option Ch}(a:Dk l ρ w h ρ' w' h')(b:Dk l ρ' w' h' ρ'' e f):Dk l ρ w h ρ'' e f:=
 ⟨b.os.trans a.os,b.tape.trans a.tape,b.output.trans a.output,bq a.size b.size,
  λi c j g=>(b.block i (bu c a.size) j (λq=>g (a.own i c q))).trans (a.block i c j g),
  λi c g=>a.own i c (b.own i (bu c a.size) g)⟩
theorem Mv.transL{l:Nat}{ρ ρ' ρ'':Nat->Pl}{w w' e:World}{h h' f:Nat->Option Ch}(a:Mv ρ w h ρ' w' h')(b:Dk l ρ' w' h' ρ'' e f)(j:w.heap.size<=l):Mv ρ w h ρ'' e f:=
 ⟨b.os.trans a.os,b.tape.trans a.tape,b.output.trans a.output,bq a.size b.size,
  λi c g=>(b.block i (bu c a.size) (by omega) (λq=>g (a.own i c q))).trans (a.block i c g),
  λi c g=>a.own i c (b.own i (bu c a.size) g)⟩
theorem Dk.evo{F:Nat->Prop}{l:Nat}{ρ ρ':Nat->Pl}{w w':World}{h h':Nat->Option Ch}(a:Dk l ρ w h ρ' w' h')(j:∀o,w.heap[l]?=some o->LA o=false):pB w (Av F ρ h) w' (Av F ρ' h'):=
 ⟨a.size,λb c f o g i=>(a.block b c (λe=>by subst e;rw[j o g]at i;cases i) (λq=>f (.inr q))).trans g,λb c f=>f.imp id (a.own b c)⟩
theorem dq.put{F:Nat->Prop}{ρ:Nat->Pl}{w:World}{h:Nat->Option Ch}{l:Nat}(o':Obj)(hh:dq F ρ w h)(r:∀o,w.heap[l]?=some o->LA o=false)(s:¬oW ρ h l):
 dq F ρ (w.putObj l o') h/\Dk l ρ w h ρ (w.putObj l o') h:=by
 have p:Dk l ρ w h ρ (w.putObj l o') h:=⟨rfl,rfl,rfl,by rw[World.putObj_size];exact aD _,λb _ f _=>World.putObj_heap_other f,λ_ _ q=>q⟩;refine⟨⟨λk c j=>(hh.ok k c j).evo (p.evo r) (dR.refl ρ) (λb f=>World.putObj_heap_other ?_),hh.inj,λk c b t u v=>by rw[World.putObj_size];exact hh.fr k c b t u v,hh.it,λb f=>by rw[World.putObj_size];exact hh.gs b f⟩,p⟩;intro e;subst e;refine s ?_;cases c with
 |fr=>exact f.elim
 |fc=>exact f.elim
 |fm=>exact f.elim
 |mit m x y g i=>
  rcases f with f|f
  ·exact⟨k,_,j,rfl,f⟩
  ·obtain⟨z,n⟩:=hh.it k m x y g i j;exact⟨m,_,n,rfl,f⟩
 |_=>exact⟨k,_,j,rfl,f⟩
structure It where
 l:Nat
 D:Nat
 fn:FuncId
 tmps:Array Value
 ps:Array Tmp
 asg:Code
 body:Code
 n:Nat
 ds:List Deferred
def D9:Nat->Code
 |0=> .ret
 |k+1=> .exit k
def It.rcd(J:It)(m:Nat):Loop:={state:=if m=0 then .ready else .done,pending:=if m=0 then none else some (D9 (m-1)),fn:=J.fn,tmps:=J.tmps,params:=J.ps,assign:=J.asg,body:=J.body,defers:=J.D}
def It.act(J:It)(a:Act)(m:Nat):Act:={tmps:=a.tmps++(J.tmps.push (.func (.yield J.l) #[] #[])).push (.int .i64 (m:Int)),defers:=J.ds}
structure iw(R:Nat)(B:eP)(J:It)(σ:St)(ρ:Nat->Pl)(a:Act)(w:World)(m:Nat):Prop where
 rel:fv R B σ ρ (J.act a m) w
 df:a.defers=[]
 sz:a.tmps.size=J.n
 rc:w.heap[J.l]?=some (.loop (J.rcd m))
 ge:B.w.heap.size<=J.l
 no:¬oW ρ (aV σ.heap) J.l
theorem iw.lt{R:Nat}{B:eP}{J:It}{σ:St}{ρ:Nat->Pl}{a:Act}{w:World}{m:Nat}(h:iw R B J σ ρ a w m):J.l<w.heap.size:=(eg.1 h.rc).1
theorem It.act_list(J:It)(a:Act)(m:Nat):(J.act a m).tmps.toList=a.tmps.toList++((J.tmps.toList++[.func (.yield J.l) #[] #[]])++[.int .i64 (m:Int)]):=by simp[It.act]
abbrev VG(B:eP)(J:It)(σ:St)(ρ:Nat->Pl)(w:World):eP:=⟨B.F,ρ,w,aV σ.heap,J.n,false⟩
section
variable{P:Program}{Γ:bw}{R:Nat}{B:eP}{J:It}{σ:St}{ρ ρ':Nat->Pl}{a a':Act}{w w':World}{m:Nat}
theorem iw.sl(b:iw R B J σ ρ a w m):F2 (aT w (Av B.F ρ (aV σ.heap)) ρ) (σ.slots.take J.n) a.tmps.toList/\F2 (aT w (Av B.F ρ (aV σ.heap)) ρ) (σ.slots.drop J.n) ((J.tmps.toList++[.func (.yield J.l) #[] #[]])++[.int .i64 (m:Int)]):=by
 have h:=b.rel.slots;rw[It.act_list]at h;have c:=F2.split h;have e:a.tmps.toList.length=J.n:=by simpa using b.sz
 rw[e]at c;exact c
theorem iw.sub(b:iw R B J σ ρ a w m):fv σ.next (VG B J σ ρ w) ⟨σ.slots.take J.n,σ.heap,σ.next⟩ ρ a w:=
 ⟨.nil b.df,b.sl.1,b.rel.heap,Mv.refl _ _ _,b.rel.fresh,λ_ _=> .inl rfl,aD _,b.sz⟩
theorem rq(a:Act)(J:It)(m:Nat):(J.act a m).tmps.size=a.tmps.size+(J.tmps.size+2):=by simp[It.act]
theorem tM{R n:Nat}{B:eP}{ρ ρ':Nat->Pl}(h:∀k,k<R->ρ k=B.ρ k\/ρ k= .un)(h':∀k,k<n->ρ' k=ρ k\/ρ' k= .un)(c:R<=n):∀k,k<R->ρ' k=B.ρ k\/ρ' k= .un:=by
 intro k b;rcases h' k (by omega)with e|e
 ·rw[e];exact h k b
 ·exact .inr e
theorem iw.back{s:St}(c:iw R B J σ ρ a w m)(f:dR ρ ρ')(b:fv σ.next (VG B J σ ρ w) s ρ' a' w'):iw R B J ⟨s.slots++σ.slots.drop J.n,s.heap,s.next⟩ ρ' a' w' m:=by
 have g:a'.defers=[]:=b.defers.no rfl;refine⟨⟨?_,?_,b.heap,c.rel.mv.trans b.mv,b.fresh,tM c.rel.root b.root c.rel.rn,bq c.rel.rn b.rn,?_⟩,g,b.len,?_,c.ge,?_⟩
 ·exact c.rel.defers.mv b.mv
 ·rw[It.act_list];exact F2.append b.slots (F2.imp (λ_ _=>aT.evo b.mv.evo f) c.sl.2)
 ·have e:=c.rel.len;rw[rq]at e⊢;have h:a'.tmps.size=J.n:=b.len;rw[h,<-c.sz];exact e
 ·exact(b.mv.block J.l c.lt c.no).trans c.rc
 ·exact λq=>c.no (b.mv.own J.l c.lt q)
theorem iw.mvd{c:iw R B J σ ρ a w m}:∀o,w.heap[J.l]?=some o->LA o=false:=λo b=>by
 rw[c.rc]at b;cases b;rfl
end
def TI(P:Program)(R:Nat)(B:eP)(J:It)(c:Code)(σ:St)(Q:Kn):Prop:=
 ∀(ρ:Nat->Pl)(a:Act)(w:World)(m:Nat),iw R B J σ ρ a w m->c.wp P (λe a' w'=>∃σ' ρ' b,Q e σ'/\iw R B J σ' ρ' a' w' b) a w
section
variable{P:Program}{Γ:bw}{R:Nat}{B:eP}{J:It}{Q:Kn}{σ:St}
theorem TI.region(f:aQ P Γ)(hL:bg Γ)(g:P.follows .mixedOrders=true){id:Nat}{ops:Array Oper}{b:Bool}
 (h:(I4 P Γ ops b ⟨σ.slots.take J.n,σ.heap,σ.next⟩).sat λs=>Q .normal ⟨s.slots++σ.slots.drop J.n,s.heap,s.next⟩):TI P R B J (.region id ops b) σ Q:=
 λ_ _ _ m e=>tI f hL g e.sub (bX (λ_ q ρ' _ _ i c=>⟨_,ρ',m,q,e.back i c⟩) h)
end
def oF:List Oper->Option (List Oper×Oper×Operand×Array Operand×List Oper)
 |[]=>none
 |o::r=>match o.op with
  | .call ⟨.value f,args,_⟩=>some ([],o,f,args,r)
  |_=>match oF r with
   |some (x,y)=>some (o::x,y)
   |none=>none
theorem tN:∀{l:List Oper}{x r:List Oper}{o:Oper}{f:Operand}{args:Array Operand},oF l=some (x,o,f,args,r)->l=x++o::r/\∃ty,o.op= .call ⟨.value f,args,ty⟩
 |[],_,_,_,_,_,h=>by simp[oF]at h
 |p::l,x,r,o,f,args,h=>by
  simp only[oF]at h;split at h
  ·rename_i j b ty c;simp at h;obtain⟨rfl,rfl,rfl,rfl,rfl⟩:=h;exact⟨rfl,ty,c⟩
  ·split at h
   ·rename_i n q e;simp at h;obtain⟨rfl,rfl⟩:=h;obtain⟨g,i⟩:=tN e;exact⟨by rw[g];rfl,i⟩
   ·simp at h
def Am:List V->List (Tmp×V)->List V
 |s,[]=>s
 |s,p::r=>Am (s.set p.1 p.2) r
def vcY(P:Program)(Γ:bw)(n:Nat)(ps:Array Tmp)(h c:Code)(ops:Array Oper)(x:List Oper)(o:Oper)(f:Operand)(args:Array Operand)(r:List Oper)(σ:St)(Q:Kn):Prop:=
 (ops.toList.all oD=true/\o.guard=none/\args.size=ps.size)/\
 (jb P Γ ops x ⟨σ.slots.take n,σ.heap,σ.next⟩).sat λg=>match dt g.slots f,(σ.slots.drop n).getLast?,(σ.slots.drop n).dropLast.getLast? with
  | .val false [.d .yl l],some (.val false [.k (.i64 0)]),some (.val false [.d .yl p])=>l=p/\
    D7 P Γ h ⟨Am (σ.slots.drop n).dropLast.dropLast (ps.toList.zip (args.toList.map (dt g.slots))),g.heap,g.next⟩ λe s=>match e with
     | .normal=>D7 P Γ c s λe j=>
       let fin (b:Bool) (m:Nat):Prop:=(jb P Γ ops r ⟨eZ g.slots o.dst (.val false [.k (.bool b)]),j.heap,j.next⟩).sat λi=>Q .normal ⟨i.slots++((σ.slots.drop n).dropLast++[.val false [.k (.i64 (m:Int))]]),i.heap,i.next⟩
       match e with
       | .normal=>fin true 0
       | .ret=>fin false 1
       | .exit id=>fin false (id+2)
       |_=>False
     |_=>False
  |_,_,_=>False
end
end Go.Hv
