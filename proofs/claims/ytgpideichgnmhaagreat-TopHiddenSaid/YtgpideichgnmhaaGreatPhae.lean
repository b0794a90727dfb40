/- A part of the proof of TopHiddenSaid: no conditions; packed by a program of our own. -/
import Derived.Test.YtgpideichgnmhaaGreatPhad
import Derived.Still
import Derived.Lib.BytesEntry
import Derived.ScopeJumps
import Derived.Scope
import Derived.RangeFuncIn
import Derived.RangeFuncLeaves
import Derived.RangeFuncCalls
import Derived.RangeFuncRecord
import Derived.OrdersIn
set_option linter.defProp false
set_option linter.unusedVariables false
set_option linter.unusedSimpArgs false
open Array renaming getElem?_eq_some_iff→eX
open Bool renaming and_eq_true→aK,false_eq_true→cz,not_eq_true'→aR,or_eq_true→jb
open Go.Region renaming ready→tR
open Go.Result renaming andThen_ok→aZ
open Go.Sem renaming run_pure→bD,run_bind→bJ
open List renaming length_cons→bc,nil_append→eO,take_of_length_le→bb,mem_cons→bm,getElem?_eq_getElem→an,getD→bF,getElem?_set_ne→mF,getElem?_take→pz,getD_eq_getElem?_getD→aw,length_map→cG,mem_map→fI,foldl_cons→nu,range'→mG,mem_cons_self→aF,mem_cons_of_mem→aD,all_eq_true→cH,mem_of_getElem?→mH,getElem_mem→ls,mem_append_left→dd
open Nat renaming lt_of_lt_of_le→bw,add_comm→fq,le_refl→aE,le_trans→bE,zero_add→bT,add_assoc→fv,lt_or_ge→br
open Ne renaming symm→mZ
open Option renaming map_eq_some_iff→nt,getD_some→dA
namespace Go.Hv
open Go.RowKit
variable{M args vs:List V}{L N W i id j:Nat}{k ro:Option Nat}
section
def rn(a:List (Nat×Option Nat))(N j:Nat):Nat:=match aW a j with
 |some (some k)=>k
 |_=>N+j
def uR(a:List (Nat×Option Nat)):List Nat:=a.filterMap (·.2)
def CP.plain:CP->Bool
 | .lk .. =>false
 | .mit .. =>false
 |_=>true
def DQ(l:List (Option CP)):Bool:=l.all λc=>match c with
 |some c=>c.plain
 |none=>false
def qw(l:List (Option CP)):Bool:=l.all λc=>match c with
 |some c=>c.plain
 |none=>true
def lQ(n:Nat)(a:List (Nat×Option Nat)):Bool:=a.all λp=>decide (p.1<n)
def FD(c:Ct)(a:List (Nat×Option Nat))(u:eD)(N W:Nat)(y:cF c.out):Tr (V×eD):=
 if qw (du c.out y.1).hp&&decide ((du c.out y.1).hp.length<=W)then
  .leaf (PM (SP.res (rn a N) (du c.out y.1).sl ((du c.out y.1).get y.2).1),u++(sw (uR a)++sx (HP.inst (rn a N) 0 (du c.out y.1).hp ((du c.out y.1).get y.2).2)))
 else .stuck
def BZ(c:Ct)(args:List V)(get:Nat->Option Ch)(N W:Nat):Option (Tr (V×eD)):=
 if args.length=c.nargs then
  match fit get args c.inp []with
  |some (v,a,u)=>if DQ c.inp.hp&&lQ c.inp.hp.length a then some ((c.spec (c.inp.put v)).bind (FD c a u N W))else none
  |none=>none
 else none
def lR(l:List Ct)(args:List V)(get:Nat->Option Ch)(N W:Nat):Tr (V×eD):=match l with
 |[]=> .stuck
 |c::r=>match BZ c args get N W with
  |some t=>t
  |none=>lR r args get N W
theorem HP.mem_inst{r:Nat->Nat}:∀{l:List (Option CP)}{n k:Nat}{v:HP.val l}{a:Ch},(k,a)∈HP.inst r n l v->∃j c v',n<=j/\k=r j/\a=c.inst r v'/\l[j-n]?=some (some c)/\aW (HP.inst iG n l v) j=some (c.inst iG v')
 |[],_,_,_,_,h=>by simp[HP.inst]at h
 |none::l,n,k,v,a,h=>by
  simp only[HP.inst]at h⊢;obtain⟨j,c,v',i,b,e,f,g⟩:=HP.mem_inst (l:=l) h;exact⟨j,c,v',ac,b,e,by rw[show j-n=j-(n+1)+1 by omega];simpa using f,g⟩
 |some c::l,n,k,v,a,h=>by
  simp only[HP.inst,bm,Prod.mk.injEq]at h⊢;rcases h with⟨rfl,rfl⟩|h
  ·exact⟨n,c,v.1,aE _,rfl,rfl,bY,by simp[aW,iG]⟩
  ·obtain⟨j,m,v',i,b,e,f,g⟩:=HP.mem_inst (l:=l) h;exact⟨j,m,v',ac,b,e,by rw[show j-n=j-(n+1)+1 by omega];simpa using f,(ae (show¬n=j by omega)).trans g⟩
theorem Kc{a:List (Nat×Option Nat)}(h:i∈uR a):∃j,(j,some i)∈a:=by
 unfold uR at h;rw[List.mem_filterMap]at h;obtain⟨p,b,c⟩:=h;exact⟨p.1,by rw[<-c];exact b⟩
theorem yc{a:List (Nat×Option Nat)}(h:aW a j=some (some i)):i∈uR a:=by
 unfold uR;rw[List.mem_filterMap];exact⟨_,iF h,rfl⟩
def xl(a:List (Nat×Option Nat)):Prop:=∀j k,(j,k)∈a->aW a j=some k
theorem Mt.bind_fun{m m':Mt}(h:m.bind j k=some m')(hi:xl m.th):xl m'.th:=by
 unfold Mt.bind at h;split at h
 ·split at h<;>simp at h;subst h;exact hi
 ·rename_i b;split at h<;>simp at h;subst h;intro i q a;simp only[bm,Prod.mk.injEq]at a;simp only[aW];rcases a with⟨rfl,rfl⟩|a
  ·simp
  ·have:=hi i q a;split
   ·rename_i e;rw[<-e,b]at this;simp at this
   ·exact this
theorem Mt.binds_fun:∀{l r:List (Nat×Nat)}{m m':Mt},m.binds l r=some m'->xl m.th->xl m'.th
 |[],[],m,m',h,a=>by simp[Mt.binds]at h;subst h;exact a
 |[],_::_,_,_,h,_=>by simp[Mt.binds]at h
 |_::_,[],_,_,h,_=>by simp[Mt.binds]at h
 |p::l,q::r,m,m',h,a=>by
  simp only[Mt.binds]at h;split at h
  case isFalse=>simp at h
  split at h
  case h_2=>simp at h
  rename_i c b;exact Mt.binds_fun h (Mt.bind_fun b a)
section
variable{get:Nat->Option Ch}
theorem IP.mt_fun{p:IP}{n r:List I}{m m':Mt}{v:p.val}(c:p.mt get n m=some (v,r,m'))(hi:xl m.th):xl m'.th:=by
 have g:∀{j:Nat}{k:Option Nat}{l:List I}{m':Mt}{r:List I},((m.bind j k).map λm'=>((),l,m'))=some ((),r,m')->xl m'.th:=by
  intro j k l m' r h;cases e:m.bind j k with
  |none=>simp[e]at h
  |some i=>
   simp[e]at h;obtain⟨_,rfl⟩:=h;exact Mt.bind_fun e hi
 unfold IP.mt at c;split at c
 ·split at c
  case h_2=>simp at c
  simp at c;obtain⟨_,_,rfl⟩:=c;exact hi
 ·split at c<;>simp at c;obtain⟨_,_,rfl⟩:=c;exact hi
 ·split at c<;>simp at c;obtain⟨_,_,rfl⟩:=c;exact hi
 ·split at c<;>simp at c;obtain⟨_,rfl⟩:=c;exact hi
 ·split at c
  ·exact g c
  ·simp at c
 ·exact g c
 ·exact g c
 ·exact g c
 ·split at c
  ·exact g c
  ·simp at c
 ·split at c
  case isFalse=>simp at c
  split at c
  case h_2=>simp at c
  rename_i i o;rename_i f a b s t q l _ _;cases e:i.binds b q with
  |none=>simp[e]at c
  |some u=>
   simp[e]at c;obtain⟨_,rfl⟩:=c;exact Mt.binds_fun e (Mt.binds_fun o hi)
 all_goals first
  |(simp at c;obtain⟨_,rfl⟩:=c;exact hi)
  |(simp at c;done)
theorem LP.mt_fun:∀{l:List IP}{b:List I}{m m':Mt}{v:LP.val l},LP.mt get l b m=some (v,m')->xl m.th->xl m'.th
 |[],[],m,m',v,h,a=>by simp[LP.mt]at h;subst h;exact a
 |[],_::_,_,_,_,h,_=>by simp[LP.mt]at h
 |p::l,b,m,m',v,h,a=>by
  simp only[LP.mt]at h;split at h
  case h_2=>simp at h
  rename_i f r g c;split at h
  case h_2=>simp at h
  rename_i i j e;simp at h;obtain⟨_,rfl⟩:=h;exact LP.mt_fun e (IP.mt_fun c a)
theorem SP.mt_fun:∀{l:lL}{m m':Mt}{v:SP.val l},SP.mt get M l m=some (v,m')->xl m.th->xl m'.th
 |[],m,m',v,h,a=>by simp[SP.mt]at h;subst h;exact a
 |p::l,m,m',v,h,a=>by
  simp only[SP.mt]at h;split at h
  case h_2=>simp at h
  split at h
  case isFalse=>simp at h
  split at h
  case h_2=>simp at h
  rename_i e f b;split at h
  case h_2=>simp at h
  rename_i g i c;simp at h;obtain⟨_,rfl⟩:=h;exact SP.mt_fun c (LP.mt_fun b a)
theorem CP.mt_fun{c:CP}{b:Option Ch}{m m':Mt}{v:c.val}(a:c.mt get b m=some (v,m'))(hi:xl m.th):xl m'.th:=by
 have e:∀{α:Type}{x:Option α}{v:α},x.map (·,m)=some (v,m')->xl m'.th:=by
  intro α x v h;cases x<;>simp at h;obtain⟨_,rfl⟩:=h;exact hi
 cases b with
 |none=>cases c<;>simp[CP.mt]at a
 |some b=>
  cases c<;>cases b<;>simp only[CP.mt]at a<;>first|(simp at a;done)|exact e a|exact LP.mt_fun a hi|skip
  ·simp at a;obtain⟨_,rfl⟩:=a;exact hi
  ·split at a
   case h_2=>simp at a
   rename_i g _ _ f _ _;simp at a;obtain⟨_,rfl⟩:=a;exact Mt.bind_fun f hi
  ·simp at a;subst a;exact hi
  ·split at a
   case h_2=>simp at a
   simp at a;obtain⟨_,rfl⟩:=a;exact hi
theorem HP.mt_fun:∀{l:List (Option CP)}{n:Nat}{m m':Mt}{v:HP.val l},HP.mt get n l m=some (v,m')->xl m.th->xl m'.th
 |[],_,m,m',v,h,a=>by simp[HP.mt]at h;subst h;exact a
 |none::l,n,m,m',v,h,a=>by simp only[HP.mt]at h;exact HP.mt_fun (l:=l) h a
 |some c::l,n,m,m',v,h,a=>by
  simp only[HP.mt]at h;split at h
  case h_2=>simp at h
  split at h
  case h_2=>simp at h
  rename_i f g b;split at h
  case h_2=>simp at h
  rename_i i j e;simp at h;obtain⟨_,rfl⟩:=h;refine HP.mt_fun e ?_;unfold CP.mtO at b;split at b
  ·exact CP.mt_fun b a
  ·simp at b;obtain⟨_,rfl⟩:=b;exact a
  ·simp at b
theorem HP.mt_kind:∀{l:List (Option CP)}{n:Nat}{m m':Mt}{v:HP.val l},HP.mt get n l m=some (v,m')->m.Inj->∀(i:Nat)(c:CP),l[i]?=some (some c)->∃k,aW m'.th (n+i)=some k/\∀f,k=some f->∃g,get f=some g/\(c.plain=true->∀kt p q,g≠ .lk kt p q)
 |[],_,_,_,_,_,_,i,c,a=>by simp at a
 |none::l,n,m,m',v,h,j,0,c,a=>by simp at a
 |none::l,n,m,m',v,h,j,i+1,c,a=>by
  simp only[HP.mt]at h;have:=HP.mt_kind (l:=l) h j i c (cf a)
  rwa [show n+1+i=n+(i+1)by omega]at this
 |some r::l,n,m,m',v,h,j,i,c,a=>by
  simp only[HP.mt]at h;split at h
  case h_2=>simp at h
  rename_i k w;split at h
  case h_2=>simp at h
  rename_i A B b;split at h
  case h_2=>simp at h
  rename_i C D s;simp at h;obtain⟨_,rfl⟩:=h;obtain⟨x,t⟩:=CP.mtO_sub b j;cases i with
  |succ i=>
   have:=HP.mt_kind (l:=l) s t i c (cf a)
   rwa [show n+1+i=n+(i+1)by omega]at this
  |zero=>
   simp at a;subst a;obtain⟨y,_⟩:=HP.mt_sub s t;refine⟨k,y.th _ _ (x.th _ _ w),λf o=>?_⟩;subst o;simp only[CP.mtO]at b;cases u:get f with
   |none=>rw[u]at b;cases r<;>simp[CP.mt]at b
   |some g=>
    refine⟨g,rfl,λz kt p q e=>?_⟩;subst e;rw[u]at b;cases r<;>simp[CP.mt,CP.plain]at b z
end
end
variable{c:Ct}{f g:FuncId}{G:List (Option CP)}{vals:List Value}
section
section
variable{P:Program}{F:Nat->Prop}{ρ:Nat->Pl}{w:World}{h get:Nat->Option Ch}{N W:Nat}{a:Act}{o:Oper}
theorem Kd(h:DQ G=true)(b:j<G.length):∃c,G[j]?=some (some c)/\c.plain=true:=by
 unfold DQ at h;rw[cH]at h;have:=h G[j] (ls b);split at this
 ·rename_i c e;exact⟨c,by rw[an b,e],this⟩
 ·simp at this
theorem Kf(h:DQ G=true):yb G=true:=by
 unfold yb;unfold DQ at h;rw[cH]at h⊢;intro c b;have:=h c b;split at this
 ·rename_i e;cases e<;>simp[CP.plain]at this<;>rfl
 ·simp at this
theorem FE(h:qw G=true){c:CP}(b:G[j]?=some (some c)):c.plain=true:=by
 unfold qw at h;rw[cH]at h;exact h _ (mH b)
theorem jS{b:List (Nat×Option Nat)}(h:lQ i b=true)(c:aW b j=some k):j<i:=by
 unfold lQ at h;rw[cH]at h;simpa using h _ (iF c)
theorem Ca:(⟨[],[]⟩:Mt).Inj:=λ_ _ _ q=>by simp[aW]at q
theorem Kg:xl []:=λ_ _ q=>by simp at q
theorem Kh{v:c.inp.val}{f:List (Nat×Option Nat)}
 (hh:dN F ρ w h) (hg:∀k b,get k=some b->h k=some b) (hN:∀k,N<=k->k<N+W->ρ k= .un) (hv:F2 (aT w (Av F ρ h) ρ) args vals)
 (hf:DP get args c.inp ⟨[],[]⟩=some (v,⟨f,[]⟩)) (b7:DQ c.inp.hp=true) (hk:lQ c.inp.hp.length f=true):
 ∃F':Nat->Prop,dN F' (gI ⟨f,[]⟩ ρ) w (eU c.inp v)/\F2 (aT w (Av F' (gI ⟨f,[]⟩ ρ) (eU c.inp v)) (gI ⟨f,[]⟩ ρ)) (pR c.inp vals.length v) vals/\
  (∀k,c.inp.hp.length<=k->gI ⟨f,[]⟩ ρ k= .un)/\
  ∀(p:cx)(x:p.val)(e:Ending)(w':World),Ka F' (gI ⟨f,[]⟩ ρ) w (eU c.inp v) c.inp.hp.length p x e w'->qw p.hp=true->p.hp.length<=W->
   ∃r,e= .returned r/\bQ F ρ w h N W (PM (SP.res (rn f N) p.sl x.1)) (sw (uR f)++sx (HP.inst (rn f N) 0 p.hp x.2)) r w':=by
 obtain⟨m1,b0,b1⟩:=wg hf;have b8:xl f:=HP.mt_fun b1 (SP.mt_fun b0 Kg);obtain⟨i1,i2⟩:=SP.mt_sub b0 Ca;have b2:=HP.mt_kind b1 i2
 have E:∀j k,aW f j=some (some k)->∃g,h k=some g/\∀kt vt q,g≠ .lk kt vt q:=by
  intro j k b9;have a0:=jS hk b9;obtain⟨cp,e1,Q⟩:=Kd b7 a0;obtain⟨k0,e3,e4⟩:=b2 j cp e1;rw[bT,b9]at e3;simp at e3;obtain⟨g,e5,e6⟩:=e4 k e3.symm;exact⟨g,hg _ _ e5,e6 Q⟩
 have a4:∀k,k∈uR f->∃j,aW f j=some (some k):=λk d0=>let⟨j,R⟩:=Kc d0;⟨j,b8 j _ R⟩
 let F':Nat->Prop:=λb=>F b\/∃k c,h k=some c/\c.own=true/\(ρ k).blk=some b/\∀j,aW f j≠some (some k)
 obtain⟨c1,c2,c3,c4,_⟩:=sp (F':=F') hh hg hv b0 b1 rfl Ca (Kf b7) (λb y=>y);refine⟨F',c1,c2,λk d8=>?_,?_⟩
 ·unfold gI;cases M:aW f k with
  |none=>rfl
  |some q=>exact absurd (jS hk M) ac
 intro p x e w' ⟨ρ2,vs,he,b3,c0,D,A,b4⟩ c5 hW
 let ρn:Nat->Pl:=λk=>if N<=k/\k<N+W/\rn f N (k-N)=k then ρ2 (k-N)else ρ k
 have a1:∀{k:Nat},ρ k≠ .un->¬(N<=k/\k<N+W/\rn f N (k-N)=k):=λs q=>s (hN _ q.1 q.2.1);have u:∀{k:Nat},ρ k≠ .un->ρn k=ρ k:=λs=>ae (a1 s)
 have S:FC (rn f N) ρ2 ρn:=by
  intro j R
  have a0:j<W:=by
   by_cases q:p.hp.length<=j
   ·exact absurd (b4 j q) R
   ·omega
  have fresh:rn f N j=N+j->ρn (rn f N j)=ρ2 j:=by
   intro e1;show(if _ then _ else _)=_;rw[e1,ak ⟨ac,ac,by rw[show N+j-N=j by omega];exact e1⟩]
   congr 1;omega
  cases M:aW f j with
  |none=>exact fresh (by simp[rn,M])
  |some k=>cases k with
   |none=>exact fresh (by simp[rn,M])
   |some k=>
    have d3:=jS hk M
    have e1:ρ2 j=ρ k:=by
     rcases b3 j d3 with q|q
     ·rw[q];simp only[gI,M]
     ·exact absurd q R
    have Q:rn f N j=k:=by simp[rn,M]
    rw[Q,u (by rw[<-e1];exact R),e1]
 have a5:eA ρ ρn:=λk s=>u s
 have c6:∀k,ρ k= .un->ρn k≠ .un->N<=k/\k<N+W:=by
  intro k H J;by_cases q:N<=k/\k<N+W/\rn f N (k-N)=k
  ·exact⟨q.1,q.2.1⟩
  ·exact absurd H (by have:ρn k=ρ k:=ae q;rw[<-this];exact J)
 have hU:∀k,(∃g,bj h (sw (uR f)++sx (HP.inst (rn f N) 0 p.hp x.2)) k=some g/\(k,g)∈HP.inst (rn f N) 0 p.hp x.2)\/
  (bj h (sw (uR f)++sx (HP.inst (rn f N) 0 p.hp x.2)) k=none/\k∈uR f)\/
  (bj h (sw (uR f)++sx (HP.inst (rn f N) 0 p.hp x.2)) k=h k/\k∉uR f/\∀g,(k,g)∉HP.inst (rn f N) 0 p.hp x.2):=by
  intro k;rw[cR];rcases sA (HP.inst (rn f N) 0 p.hp x.2) (bj h (sw (uR f))) k with⟨g,t,B⟩|⟨t,B⟩
  ·exact .inl ⟨g,t,B⟩
  ·obtain⟨d1,d2⟩:=sy (uR f) h k;by_cases y:k∈uR f
   ·exact .inr (.inl ⟨by rw[t];exact d1 y,y⟩)
   ·exact .inr (.inr ⟨by rw[t];exact d2 y,y,B⟩)
 generalize b5:bj h (sw (uR f)++sx (HP.inst (rn f N) 0 p.hp x.2))=hn at hU
 have i:∀{k:Nat}{g:Ch},hn k=some g->(∃j c G,k=rn f N j/\g=CP.inst (rn f N) c G/\c.plain=true/\eU p x j=some (c.inst iG G))\/(h k=some g/\k∉uR f):=by
  intro k g s;rcases hU k with⟨b6,t,B⟩|⟨t,_⟩|⟨t,B,_⟩
  ·rw[s]at t;simp at t;subst t;obtain⟨j,c,G,_,Q,e3,e4,e5⟩:=HP.mem_inst B;exact .inl ⟨j,c,G,Q,e3,FE c5 (cf e4),e5⟩
  ·rw[s]at t;simp at t
  ·rw[s]at t;exact .inr ⟨t.symm,B⟩
 have n:∀{j:Nat}{c:CP}{G:c.val}{b:Nat},eU p x j=some (c.inst iG G)->(ρn (rn f N j)).blk=some b->(ρ2 j).blk=some b/\qj ρ2 (eU p x) b:=by
  intro j c G b H J;have:=D.ok j _ H;rw[S j this.un]at J;exact⟨J,j,_,H,CP.own_inst _,J⟩
 have a2:∀{k:Nat}{g:Ch}{b:Nat},h k=some g->k∉uR f->g.own=true->(ρ k).blk=some b->F' b:=by
  intro k g b H J O z;exact .inr ⟨k,g,H,O,z,λj R=>J (yc R)⟩
 have c7:∀b,qj (gI ⟨f,[]⟩ ρ) (eU c.inp v) b->qj ρ h b:=c4
 have d4:∀b,Av F ρn hn b->Av F' ρ2 (eU p x) b:=by
  rintro b (y|⟨k,g,H,J,O⟩)
  ·exact .inl (.inl y)
  ·rcases i H with⟨j,c',G,rfl,rfl,_,e⟩|⟨z,h5⟩
   ·exact .inr (n e O).2
   ·rw[u (hh.ok k g z).un]at O;exact .inl (a2 z h5 J O)
 have d5:∀b,b<w.heap.size->qj ρn hn b->qj ρ h b:=by
  rintro b y ⟨k,g,H,J,O⟩;rcases i H with⟨j,c',G,rfl,rfl,_,e⟩|⟨z,h5⟩
  ·exact c7 b (A.own b y (n e O).2)
  ·rw[u (hh.ok k g z).un]at O;exact⟨k,g,z,J,O⟩
 have a6:Mv ρ w h ρn w' hn:=⟨A.os,A.tape,A.output,A.size,λb y ho=>A.block b y (λq=>ho (c7 b q)),d5⟩;have a7:qK w' (Av F' ρ2 (eU p x)) w' (Av F ρn hn):=⟨aE _,λ_ _ _ _ ho _=>ho,λb _ y=>d4 b y⟩
 have U:∀{k:Nat}{g:Ch}{b:Nat},h k=some g->k∉uR f->g.own=true->(ρ k).blk=some b->w'.heap[b]?=w.heap[b]?:=by
  intro k g b H J O z;refine A.block b (hh.fr k g b H O z).1 ?_;rintro⟨j,cj,t,B,q3⟩;exact(c1.fr j cj b t B q3).2 (a2 H J O z)
 refine⟨lM vs,he,ρn,a5,c6,?_,?_,?_⟩
 ·rw[b5];have:=J9 (SP.res_ren S c0);exact this.evo a7 (eA.refl _)
 ·rw[b5];refine⟨λk g s=>?_,λk k' g b6 b s c8 ho c9 y K=>?_,λk g b s ho y=>?_,λk m kt vt X Y s=>?_,λb y=>bw (hh.gs b y) A.size⟩
  ·rcases i s with⟨j,c',G,rfl,rfl,_,e⟩|⟨z,h5⟩
   ·exact(CP.ren S (D.ok j _ e)).evo a7 (eA.refl _) (λ_ _=>rfl)
   ·refine(hh.ok k g z).evo a6.evo a5 λb C=>?_;cases g<;>simp only[Ch.on]at C
    case mit m kt vt X Y=>
     obtain⟨l,hl⟩:=hh.it k m kt vt X Y z;rcases C with C|C
     ·exact U z h5 rfl C
     ·refine U hl (λL=>?_) rfl C;obtain⟨j,R⟩:=a4 m L;obtain⟨g,t,B⟩:=E j m R;rw[hl]at t;simp at t;exact B _ _ _ t.symm
    all_goals first|exact C.elim|exact U z h5 rfl C
  ·rcases i s with⟨j,c',G,rfl,rfl,_,e⟩|⟨z,h5⟩<;>rcases i c8 with⟨j',d9,e0,rfl,rfl,_,e'⟩|⟨a3,d6⟩
   ·obtain⟨t,_⟩:=n e y;obtain⟨d7,_⟩:=n e' K;rw[D.inj j j' _ _ b e e' (CP.own_inst _) (CP.own_inst _) t d7]
   ·obtain⟨t,_⟩:=n e y;rw[u (hh.ok k' _ a3).un]at K;exact absurd (a2 a3 d6 c9 K) (D.fr j _ b e (CP.own_inst _) t).2
   ·obtain⟨t,_⟩:=n e' K;rw[u (hh.ok k _ z).un]at y;exact absurd (a2 z h5 ho y) (D.fr j' _ b e' (CP.own_inst _) t).2
   ·rw[u (hh.ok k _ z).un]at y;rw[u (hh.ok k' _ a3).un]at K;exact hh.inj k k' g b6 b z a3 ho c9 y K
  ·rcases i s with⟨j,c',G,rfl,rfl,_,e⟩|⟨z,h5⟩
   ·obtain⟨t,_⟩:=n e y;obtain⟨s1,s2⟩:=D.fr j _ b e (CP.own_inst _) t;exact⟨s1,λq=>s2 (.inl q)⟩
   ·rw[u (hh.ok k _ z).un]at y;obtain⟨s1,s2⟩:=hh.fr k g b z ho y;exact⟨bw s1 A.size,s2⟩
  ·rcases i s with⟨j,c',G,rfl,e1,Q,_⟩|⟨z,h5⟩
   ·cases c'<;>simp[CP.inst,CP.plain]at e1 Q
   ·obtain⟨l,hl⟩:=hh.it k m kt vt X Y z;refine⟨l,?_⟩
    have L:m∉uR f:=by
     intro L;obtain⟨j,R⟩:=a4 m L;obtain⟨g,t,B⟩:=E j m R;rw[hl]at t;simp at t;exact B _ _ _ t.symm
    rcases hU m with⟨b6,t,B⟩|⟨_,B⟩|⟨t,_⟩
    ·exfalso;obtain⟨j,c,G,_,Q,e3,e4,e5⟩:=HP.mem_inst B;have a8:=(D.ok j _ e5).un;have a9:=(hh.ok m _ hl).un;cases M:aW f j with
     |none=>
      have:m=N+j:=by rw[Q];simp[rn,M]
      have a0:j<W:=by
       by_cases q:p.hp.length<=j
       ·exact absurd (b4 j q) a8
       ·omega
      exact a9 (hN m ac ac)
     |some k0=>cases k0 with
      |none=>
       have:m=N+j:=by rw[Q];simp[rn,M]
       have a0:j<W:=by
        by_cases q:p.hp.length<=j
        ·exact absurd (b4 j q) a8
        ·omega
       exact a9 (hN m ac ac)
      |some k0=>
       have:m=k0:=by rw[Q];simp[rn,M]
       subst this;exact L (yc M)
    ·exact absurd B L
    ·rw[t];exact hl
 ·rw[b5];exact a6
theorem yd{t:Tr (V×eD)}(E:bW P f c)
 (hh:dN F ρ w h) (G:∀k b,get k=some b->h k=some b) (H:∀k,N<=k->k<N+W->ρ k= .un) (B:F2 (aT w (Av F ρ h) ρ) args vals)
 (J:(execOp a.eval o).run P w= .ok (.enter f vals.toArray) w) (i:BZ c args get N W=some t):OW P F ρ w h N W o a t:=by
 intro K Q C;unfold BZ at i;split at i
 case isFalse=>simp at i
 rename_i p;split at i
 case h_2=>simp at i
 rename_i v L u M;split at i
 case isFalse=>simp at i
 rename_i m;simp only[aK]at m;simp at i;subst i;obtain⟨l,rfl,x⟩:=Ap M;obtain⟨O,D,R⟩:=kJ (l:=l) hh G;have z:F2 (aT w (Av F ρ (bj h (lP l get))) ρ) args vals:=F2.imp (λ_ _=>aT.evo D.evo (eA.refl ρ)) B;obtain⟨S,U,X,Y,g4⟩:=Kh (W:=W) O R H z x m.1 m.2;rw[cV]at C;have g:vals.length=c.nargs:=by rw[<-B.length];exact p
 have n:=E (c.inp.put v) _ C S (gI ⟨L,[]⟩ ρ) w vals g (by rw[cx.get_put];exact U) (by rw[cx.get_put,<-g];exact X) Y;unfold Oper.wp;rw[J];show Calls P f _ w _;refine n.mono ?_;rintro e q ⟨y,s,j⟩;unfold FD at s;split at s
 case isFalse=>exact s.elim
 rename_i A;simp only[aK,ai]at A;rw[cx.get_put]at j;obtain⟨r,rfl,ρ',p1,p2,p3,p4,p5⟩:=g4 _ _ e q j A.1 A.2;refine s r q ⟨ρ',p1,p2,?_,?_,?_⟩
 ·show aT _ (Av F ρ' (bj h (lP l get++_))) ρ' _ _;rw[cR];exact p3
 ·show dN F ρ' q (bj h (lP l get++_));rw[cR];exact p4
 ·show Mv ρ w h ρ' q (bj h (lP l get++_));rw[cR];exact D.trans p5
theorem oP{f:FuncId}{args:List V}{vals:List Value}(e:fj P f=true)
 (hh:dN F ρ w h) (j:∀k b,get k=some b->h k=some b) (m:∀k,N<=k->k<N+W->ρ k= .un) (n:F2 (aT w (Av F ρ h) ρ) args vals)
 (g:(execOp a.eval o).run P w=(callFunc f vals.toArray).run P w):∀(l:List Ct),(∀c∈l,bW P f c)->OW P F ρ w h N W o a (lR l args get N W)
 |[],_=>OW.stuck
 |c::r,p=>by
  simp only[lR];rw[kI e]at g;split
  ·rename_i t q;exact yd (p c bY) hh j m n g q
  ·exact oP e hh j m n (by rw[kI e];exact g) r (λs i=>p s (aD _ i))
end
end
variable{a:Act}{b:Bool}{C U h':Nat->Option Ch}{ρ ρ' ρ'' ρ0:Nat->Pl}{A X:Nat->Prop}{dst:Option Tmp}{t:TypeId}{x y:V}{O:Value}{e w' z:World}{u:eD}
section
def DR:fQ->Nat->fQ
 |[],_=>[]
 |p::r,k=>if p.1=k then DR r k else p::DR r k
def FF:fQ->Nat->Ch->fQ
 |[],k,c=>[(k,c)]
 |p::r,k,c=>if p.1=k then(k,c)::r else p::FF r k c
def nX:fQ->eD->fQ
 |h,[]=>h
 |h,(k,none)::r=>nX (DR h k) r
 |h,(k,some c)::r=>nX (FF h k c) r
theorem sC:∀(h:fQ)(k:Nat),aW (DR h k)=dg (aW h) k none
 |[],k=>by funext j;simp[DR,aW,dg]
 |p::r,k=>by
  funext j;have b:=congrFun (sC r k) j;simp only[DR];split
  ·rename_i e;rw[b];simp only[dg,aW];split
   ·rfl
   ·rw[ae ac]
  ·rename_i e;simp only[aW,dg]at b⊢;split
   ·rename_i c;rw[ae ac]
   ·exact b
theorem sD:∀(h:fQ)(k:Nat)(c:Ch),aW (FF h k c)=dg (aW h) k (some c)
 |[],k,c=>by
  funext j;simp only[FF,aW,dg];by_cases e:k=j
  ·simp[e]
  ·rw[ae e,ae ac]
 |p::r,k,c=>by
  funext j;have b:=congrFun (sD r k c) j;simp only[FF];split
  ·rename_i e;simp only[aW,dg];by_cases f:k=j
   ·simp[f]
   ·rw[ae f,ae ac,ae ac]
  ·rename_i e;simp only[aW,dg]at b⊢;split
   ·rename_i g;rw[ae ac]
   ·exact b
theorem eG:∀(u:eD)(h:fQ),aW (nX h u)=bj (aW h) u
 |[],_=>rfl
 |(k,none)::r,h=>by simp only[nX,bj];rw[eG r,sC]
 |(k,some c)::r,h=>by simp only[nX,bj];rw[eG r,sD]
def ye(l:List (Nat×Nat)):List V:=l.map λp=>sc (.ptr p.1 p.2)
def cmpNm:String:=(Extern.BytealgCompare.rows.map Prod.fst).headD ""
def FG(P:Program)(g:FuncId):Bool:=match P.funcs[g]? with
 |some fn=>fn.name==cmpNm&&fn.origin== "" &&fn.body.isNone
 |none=>false
def lS(a b:List (BitVec 8)):Int:=Extern.BytealgCompare.cmp (bM a) (bM b)
def Ki(vs:List V):Tr (V×eD):=match vs with
 |[x,y]=>match x.asD (.sl .u8),y.asD (.sl .u8)with
  |some a,some b=> .leaf (sc (.d .i64 (lS a b)),[])
  |_,_=> .stuck
 |_=> .stuck
def DS(P:Program)(Γ:bG)(o:Oper)(e:Operand->V)(get:Nat->Option Ch)(N W:Nat):Tr (V×eD):=
 match o.op with
 | .call c=>match c.callee with
   | .value f=>match(e f).one? with
     |some (.fn g first cap)=>if FG P g then Ki (ye first++(c.args.toList.map e++ye cap))else lR (lO Γ g) (ye first++(c.args.toList.map e++ye cap)) get N W
     |_=> .stuck
   | .invoke recv name=>match(e recv).one? with
     |some (.ifc t k i)=>match DN P t name with
      |some (g,b)=>if b=true/\pK P t=true then lR (lO Γ g) (sc (.ptr k i)::c.args.toList.map e) get N W else .stuck
      |none=> .stuck
     |_=> .stuck
   | .builtin _=>lK P o e get N
 |_=>lK P o e get N
section
variable{P:Program}{F:Nat->Prop}{ρ:Nat->Pl}{w:World}{h get:Nat->Option Ch}{N W:Nat}{a:Act}{o:Oper}{Γ:bG}
theorem lT{A:Nat->Prop}:∀{l:List (Nat×Nat)}{vs:List Value},F2 (lz ρ) l vs->F2 (aT w A ρ) (ye l) vs
 |[],[],_=>trivial
 |_::_,v::_,⟨b,c⟩=>⟨aM.2 ⟨v,b,rfl⟩,lT c⟩
theorem Aq{name:String}{n:Nat}{v:Value}(h:DN P t name=some (f,true))(b:pK P t=true):(method (n+1) t v name).run P w= .ok (f,v) w:=by
 obtain⟨i,m,c,g,j,l⟩:=BX h;have p:(typeInfo t).run P w= .ok i w:=by simp[typeInfo,c]
 unfold pK at b;split at b
 case h_2=>simp at b
 rename_i e q;simp only[method,bJ,p,aZ,g,j,follow,bD,l,receiverAt,run_underlying q,Place.get]
theorem qx{l:List (BitVec 8)}(h:jc w A (.sl .u8) l O):(Extern.Bytes.bytesOf O).run P w= .ok (bM l) w:=by
 obtain⟨z,i,f⟩:=h;obtain⟨u,rfl,m⟩:=i;simp[Ty.agg]at f;subst f;rcases m with⟨b,c,cap,n,rfl,_,_,_,p,q⟩|⟨rfl,a,rfl⟩
 ·have r:n=List.map cu l:=lF.1 p
  have:=Lib.run_loadBytesX (P:=P) w (l.map λx=>(x.toNat:Int)) ⟨b,c,none⟩ .empty (λj x g=>by
   have e:(⟨b,c,none⟩:Addr).add j=⟨b,c+j,none⟩:=by unfold Addr.add;split<;>simp_all
   rw[e];refine q j _ ?_;rw[r];simp only[List.getElem?_map,nt]at g⊢;obtain⟨y,s,t⟩:=g;exact⟨y,s,by simp[cu,t]⟩)
  rw[cG]at this;simp only[Extern.Bytes.bytesOf,this]
  congr 1
  apply ByteArray.ext;simp[bM,Lib.bytesOf,ByteArray.empty,ByteArray.emptyWithCapacity];show List.map _ l=_;refine List.map_congr_left λx _=>?_;apply UInt8.toNat.inj;simp
 ·cases a with
  |none=>rfl
  |some a=>rfl
theorem FH{fn:Func}(h:fn.name=cmpNm):Extern.find fn=some Extern.BytealgCompare.compare:=by
 unfold Extern.find;rw[h];kernel_rfl
theorem wh{fn:Func}(h:fn.name=cmpNm)(b:fn.origin= ""):Extern.findNext fn=none:=by
 unfold Extern.findNext;rw[h,b];kernel_rfl
theorem Kj{a b:List (BitVec 8)}{v:Value}(c:FG P g=true)(j:jc w A (.sl .u8) a O)(l:jc w A (.sl .u8) b v):
 (callFunc g #[O,v]).run P w= .ok (.value (.int .i64 (lS a b))) w:=by
 unfold FG at c;cases f:P.funcs[g]? with
 |none=>simp[f]at c
 |some fn=>
  simp only[f,aK,aS]at c;obtain⟨⟨i,m⟩,n⟩:=c;have p:fn.body=none:=cf n
  have q:(Go.program).run P w= .ok P w:=rfl;have r:(fn.name== "runtime.NumGoroutine")=false:=by rw[i];decide
  simp only[callFunc,bJ,q,aZ,f,r,p,Option.isNone_none,wh i m,FH i];have e:Extern.BytealgCompare.compare #[O,v]=(do pure (goInt (Extern.BytealgCompare.cmp (<-Extern.Bytes.bytesOf O) (<-Extern.Bytes.bytesOf v)))):=rfl
  have s:(Extern.BytealgCompare.compare #[O,v]).run P w= .ok (.int .i64 (lS a b)) w:=by
   rw[e];simp only[bJ,qx j,qx l,aZ,bD];rfl
  have t:∀x,(mark x).run P w= .ok () w:=λ_=>rfl;simp[t,s]
theorem uS(hΓ:bX P Γ){E:Operand->V}(hh:dN F ρ w h)(hg:∀k b,get k=some b->h k=some b)(i:∀x,aT w (Av F ρ h) ρ (E x) (a.eval x))(hN:∀k,N<=k->k<N+W->ρ k= .un)(hW:0<W):
 OW P F ρ w h N W o a (DS P Γ o E get N W):=by
 have m:OW P F ρ w h N W o a (lK P o E get N):=xX hh hg i (hN N (aE _) ac) hW;unfold DS;split
 case h_2=>exact m
 rename_i c p;obtain⟨callee,args,ts⟩:=c;simp only
 have j:∀(g:FuncId)(G:List V)(H:List Value),F2 (aT w (Av F ρ h) ρ) G H->(execOp a.eval o).run P w=(callFunc g H.toArray).run P w->OW P F ρ w h N W o a (lR (lO Γ g) G get N W):=by
  intro g G H J L;cases hc:lO Γ g with
  |nil=>exact OW.stuck
  |cons c0 r0=>
   have q:=(hΓ.get (f:=g) (c:=c0) (by rw[hc];simp)).1;rw[<-hc];exact oP q hh hg hN J L _ (λc M=>(hΓ.get M).2)
 split
 ·rename_i f;split
  case h_2=>exact OW.stuck
  rename_i g first cap hf
  obtain⟨O,R,r,s,h3⟩:=aQ hf (i f);simp at r;split
  ·rename_i z;have e:=F2.append (lT (A:=Av F ρ h) (w:=w) s) (F2.append (kH i args.toList) (lT h3));unfold Ki;split
   case h_2=>exact OW.stuck
   rename_i x y S;split
   case h_2=>exact OW.stuck
   rename_i da db U X;rw[S]at e
   obtain⟨u,v,Y,hu,J⟩:∃u v,O++(args.toList.map a.eval++R)=[u,v]/\aT w (Av F ρ h) ρ x u/\aT w (Av F ρ h) ρ y v:=by
    generalize O++(args.toList.map a.eval++R)=l at e
    match l,e with
    |[u,v],⟨q1,q2,_⟩=>exact⟨u,v,rfl,q1,q2⟩
   have B:=Kj z (V.asD_ok U hu) (V.asD_ok X J);intro K Q hs;unfold Oper.wp
   have L:(execOp a.eval o).run P w=(callFunc g #[u,v]).run P w:=by
    simp only[execOp,p,resolve,r,Deferred.ofValue,bJ,bD,aZ,invoke]
    congr 2
    apply Array.ext';have:=Y;simp at this⊢;exact this
   rw[L,B];exact hs _ _ (bQ.pure hh (aM.2 rfl))
  refine j g _ (O++(args.toList.map a.eval++R)) (F2.append (lT s) (F2.append (kH i _) (lT h3))) ?_;simp only[execOp,p,resolve,r,Deferred.ofValue,bJ,bD,aZ,invoke]
  congr 2
  apply Array.ext';simp
 ·rename_i recv name;split
  case h_2=>exact OW.stuck
  rename_i t k a1 hr;split
  case h_2=>exact OW.stuck
  rename_i g b hm;split
  case isFalse=>exact OW.stuck
  rename_i hb;obtain⟨rfl,hp⟩:=hb;obtain⟨v,r,s⟩:=aQ hr (i recv);simp at s;refine j g _ (v::args.toList.map a.eval) ⟨aM.2 ⟨v,r,rfl⟩,kH i _⟩ ?_;have a0:(Go.program).run P w= .ok P w:=rfl;have hd:P.types.size+Made.depth=(P.types.size+(Made.depth-1))+1:=rfl;have C:=Aq (w:=w) (n:=P.types.size+(Made.depth-1)) (v:=v) hm hp;rw[<-hd]at C;simp only[execOp,p,resolve,s,bJ,bD,aZ,invoke];have D:(#[Value.iface t v]++Array.map a.eval args)[0]?=some (Value.iface t v):=by rw[Array.getElem?_append_left bY];rfl
  simp only[D,callMethod,bJ,a0,aZ,C]
  congr 2
  apply Array.ext';simp;exact bb bY
 ·exact m
end
structure St where
 slots:List V
 heap:fQ
 next:Nat
def fE(slots:List V)(dst:Option Tmp)(x:V):List V:=
 match dst with
 |some d=>slots.set d x
 |none=>slots
theorem oQ(h:F2 (aT e A ρ) M a.tmps.toList)(dst:Option Tmp)(b:aT e A ρ x O):F2 (aT e A ρ) (fE M dst x) (a.put dst O).tmps.toList:=by
 cases dst with
 |none=>exact h
 |some d=>
  simp only[fE,Act.put,Array.toList_setIfInBounds];exact h.set d b
structure fw where
 F:Nat->Prop
 ρ:Nat->Pl
 w:World
 h:Nat->Option Ch
 n:Nat
 dk:Bool
def mark(D:Nat):Deferred:={target:= .collected D,args:= #[]}
def yf(B:fw)(ρ:Nat->Pl)(w:World)(h:Nat->Option Ch)(b:List Deferred):Prop:=
 ∃l:List Nat,b=l.map mark/\l.Nodup/\∀D∈l,B.dk=true/\B.w.heap.size<=D/\D<w.heap.size/\w.heap[D]?=some (.deferred (some []))/\¬qj ρ h D
theorem yf.nil{B:fw}{ρ:Nat->Pl}{w:World}{h:Nat->Option Ch}{b:List Deferred}(e:b=[]):yf B ρ w h b:=⟨[],e,List.nodup_nil,λ_ c=>by simp at c⟩
theorem yf.no{B:fw}{b:List Deferred}(c:yf B ρ z C b)(e:B.dk=false):b=[]:=by
 obtain⟨l,rfl,_,f⟩:=c;cases l with
 |nil=>rfl
 |cons D l=>have:=(f D (aF ..)).1;rw[e]at this;cases this
theorem yf.mv{B:fw}{f:List Deferred}(i:yf B ρ z C f)(b:Mv ρ z C ρ' w' h'):yf B ρ' w' h' f:=
 let⟨l,e,j,m⟩:=i
 ⟨l,e,j,λD n=>let⟨p,r,c,s,g⟩:=m D n;⟨p,r,bw c b.size,(b.block D c g).trans s,λq=>g (b.own D c q)⟩⟩
theorem yf.own{B:fw}{c:List Deferred}(g:yf B ρ z C c)(i:∀b,b<z.heap.size->qj ρ' h' b->qj ρ C b):yf B ρ' z h' c:=
 let⟨l,e,j,m⟩:=g
 ⟨l,e,j,λD n=>let⟨p,r,f,s,t⟩:=m D n;⟨p,r,f,s,λq=>t (i D f q)⟩⟩
structure fR(R:Nat)(B:fw)(σ:St)(ρ:Nat->Pl)(a:Act)(w:World):Prop where
 defers:yf B ρ w (aW σ.heap) a.defers
 slots:F2 (aT w (Av B.F ρ (aW σ.heap)) ρ) σ.slots a.tmps.toList
 heap:dN B.F ρ w (aW σ.heap)
 mv:Mv B.ρ B.w B.h ρ w (aW σ.heap)
 fresh:∀k,σ.next<=k->ρ k= .un
 root:∀k,k<R->ρ k=B.ρ k\/ρ k= .un
 rn:R<=σ.next
 len:a.tmps.size=B.n
theorem jT(a:Act)(dst:Option Tmp)(v:Value):(a.put dst v).tmps.size=a.tmps.size:=by
 cases dst<;>simp[Act.put]
theorem fR.step{B:fw}{σ:St}(b:fR N B σ ρ a z)(l:bQ B.F ρ z (aW σ.heap) σ.next W y u O w'):
 ∃ρ',eA ρ ρ'/\fR N B ⟨fE σ.slots dst y,nX σ.heap u,σ.next+W⟩ ρ' (a.put dst O) w':=by
 obtain⟨ρ',c,i,m,n,f⟩:=l;refine⟨ρ',c,?_,oQ (F2.imp (λ_ _=>aT.evo (by rw[eG];exact f.evo) c) b.slots) dst (by rw[eG];exact m),by rw[eG];exact n,by rw[eG];exact b.mv.trans f,λk g=>?_,λk g=>?_,?_,(jT ..).trans b.len⟩
 ·rw[eG];cases dst<;>exact b.defers.mv f
 ·by_cases e:ρ' k= .un
  ·exact e
  ·simp only at g;have:=i k (b.fresh k ac) e;omega
 ·by_cases e:ρ k= .un
  ·by_cases j:ρ' k= .un
   ·exact .inr j
   ·have:=i k e j;have:=b.rn;omega
  ·rw[c k e];exact b.root k g
 ·have:=b.rn;simp only;omega
inductive Wa where
 |yes
 |no
 |ask (t:Nat) (b want:Bool)
 |bad
def hH(ops:Array Oper)(slots:List V)(o:Oper):Wa:=
 match o.guard with
 |none=> .yes
 |some (j,c)=>
  match(ops[j]?).bind (·.dst)with
  |none=> .no
  |some t=>
   match slots.getD t (.tup [])with
   | .val false [.k (.bool b)]=>if b==c then .yes else .no
   | .val false [.d .bl b]=> .ask t b c
   | .tup []=> .no
   |_=> .bad
section
variable{w:World}{A:Nat->Prop}{ρ:Nat->Pl}{slots:List V}{a:Act}{ops:Array Oper}{o:Oper}
theorem DT(e:o.guard=some (j,b))(f:(ops[j]?).bind (·.dst)=some i):Region.wanted o (yielded ops a.tmps)=match a.tmps[i]? with
 |some (.bool c)=>c==b
 |_=>false:=by
 unfold Region.wanted;rw[e];simp only[yielded,f,Option.bind_some];cases g:a.tmps[i]? with
 |none=>simp
 |some z=>cases z<;>simp
theorem nY(h:F2 (aT w A ρ) slots a.tmps.toList):
 (hH ops slots o= .yes->Region.wanted o (yielded ops a.tmps)=true)/\(hH ops slots o= .no->Region.wanted o (yielded ops a.tmps)=false)/\
 (∀t b f,hH ops slots o= .ask t b f->Region.wanted o (yielded ops a.tmps)=(b==f)/\slots[t]?=some (.val false [.d .bl b])/\a.tmps[t]?=some (.bool b)):=by
 unfold hH;cases p:o.guard with
 |none=>simp[Region.wanted,p]
 |some v=>
  obtain⟨j,f⟩:=v;simp only;cases s:(ops[j]?).bind (·.dst)with
  |none=>
   simp only[reduceCtorEq,false_implies,implies_true,true_implies,and_true,true_and];unfold Region.wanted;rw[p];simp[yielded,s]
  |some t=>
   simp only;rw[DT p s];have e:=fW h (.tmp t);simp only[dO,Act.eval]at e
   have n:∀c,a.tmps.getD t undef= .bool c->a.tmps[t]?=some (.bool c):=by
    intro c q;cases l:a.tmps[t]? with
    |none=>simp[l,undef]at q
    |some z=>simp[l]at q;rw[q]
   split
   ·rename_i b g;rw[g]at e;have i:=aM.1 e;simp[bh,Sc.val]at i;have m:=n b (cf i);rw[m];split<;>simp_all
   ·rename_i b g;rw[g]at e;have i:=aM.1 e;simp[bh,Rd]at i;have m:=n b (cf i);simp only[reduceCtorEq,false_implies,true_and,Wa.ask.injEq];rintro y B r ⟨rfl,rfl,rfl⟩;rw[m];refine⟨rfl,?_,rfl⟩;simp only[bF]at g;cases l:slots[t]? with
    |none=>simp[l]at g
    |some z=>simp[l]at g;rw[g]
   ·rename_i g;rw[g]at e;obtain⟨u,i,x⟩:=e;have:u=[]:=by match u,x with|[],_=>rfl
    subst this;simp only[reduceCtorEq,false_implies,implies_true,true_implies,and_true,true_and];cases l:a.tmps[t]? with
    |none=>rfl
    |some z=>
     simp[l]at i;subst i;rfl
   ·simp
end
end
variable{o oi oj:Oper}{P:Program}{p:Prop}{R α β:Type}{Γ:bG}
section
def Live{R:Type}(t:Tr R):Prop:=∀Q,t.sat Q->∃q,Q q
namespace Live
variable{R S:Type}
theorem stuck:Live (.stuck:Tr R):=λ_ h=>h.elim
theorem leaf{r:R}:Live (.leaf r):=λ_ h=>⟨r,h⟩
theorem need{x:Tr R}(h:p->Live x):Live (.need p x):=λQ a=>h a.1 Q a.2
theorem ite{x y:Tr R}(h:b=true->Live x)(h':b=false->Live y):Live (.ite b x y):=λQ a=>by
 cases b
 ·exact h' rfl Q (a.2 rfl)
 ·exact h rfl Q (a.1 rfl)
theorem all{p:β->Prop}{k:β->Tr R}(h:∃b,p b/\Live (k b)):Live (.all β p k):=λQ a=>let⟨b,c,e⟩:=h;e Q (a b c)
theorem needs{l:List Prop}{x:Tr R}(h:Live x):Live (.needs l x):=by
 induction l with
 |nil=>exact h
 |cons p r a=>exact need λ_=>a
theorem ofOpt{x:Option R}:Live (Tr.ofOpt x):=by
 cases x
 ·exact stuck
 ·exact leaf
theorem bind{t:Tr R}{f:R->Tr S}(h:Live t)(b:∀r,Live (f r)):Live (t.bind f):=λQ a=>by
 rw[cV]at a;obtain⟨r,c⟩:=h _ a;exact b r Q c
end Live
theorem lU{R S:Type}{A:Tr R}(a:Live A):∀{B:Tr S}{Q:R->S->Prop},(A.sat λr=>B.sat (Q r))->B.sat λs=>A.sat λr=>Q r s
 | .leaf _,_,h=>h
 | .ite _ x y,_,h=>⟨λc=>lU a (B:=x) (ca (λ_ q=>q.1 c) h),λc=>lU a (B:=y) (ca (λ_ q=>q.2 c) h)⟩
 | .need _ x,_,h=>⟨let⟨_,e⟩:=a _ h;e.1,lU a (B:=x) (ca (λ_ q=>q.2) h)⟩
 | .all _ _ k,_,h=>λb c=>lU a (B:=k b) (ca (λ_ q=>q b c) h)
 | .fin,_,_=>trivial
 | .stuck,_,h=>let⟨_,e⟩:=a _ h;e.elim
section
variable{P:Program}{get:Nat->Option Ch}{N W:Nat}
theorem oR{j:Int}{f:Nat->Tr R}(a:∀q,Live (f q)):∀(n k:Nat),Live (jm j f n k):=by
 intro n
 induction n with
 |zero=>intro k;unfold jm;(repeat' (first|split|exact Live.stuck|exact Live.leaf|exact Live.ofOpt|exact Live.needs Live.leaf|(refine Live.need λ_=>?_)|(refine Live.ite (λ_=>?_) (λ_=>?_))));rename_i h;exact h.elim
 |succ n b=>intro k;unfold jm;(repeat' (first|split|exact Live.stuck|exact Live.leaf|exact Live.ofOpt|exact Live.needs Live.leaf|(refine Live.need λ_=>?_)|(refine Live.ite (λ_=>?_) (λ_=>?_))));all_goals first|exact a _|exact b _
theorem qM:Live (gg P t x y get):=by
 unfold gg;(repeat' (first|split|exact Live.stuck|exact Live.leaf|exact Live.ofOpt|exact Live.needs Live.leaf|(refine Live.need λ_=>?_)|(refine Live.ite (λ_=>?_) (λ_=>?_))));exact oR (λ_=>Live.leaf) _ _
theorem yg:Live (rO P t x y):=by
 unfold rO;(repeat' (first|split|exact Live.stuck|exact Live.leaf|exact Live.ofOpt|exact Live.needs Live.leaf|(refine Live.need λ_=>?_)|(refine Live.ite (λ_=>?_) (λ_=>?_))));exact oR (λ_=>Live.ofOpt) _ _
theorem yh{lo hi a:Option V}:Live (kE P t x lo hi a get N):=by
 unfold kE;(repeat' (first|split|exact Live.stuck|exact Live.leaf|exact Live.ofOpt|exact Live.needs Live.leaf|(refine Live.need λ_=>?_)|(refine Live.ite (λ_=>?_) (λ_=>?_))))
 all_goals (unfold kE.cut;(repeat' (first|split|exact Live.stuck|exact Live.leaf|exact Live.ofOpt|exact Live.needs Live.leaf|(refine Live.need λ_=>?_)|(refine Live.ite (λ_=>?_) (λ_=>?_)))))
theorem wi:Live (oG P t x y get N):=by unfold oG;(repeat' (first|split|exact Live.stuck|exact Live.leaf|exact Live.ofOpt|exact Live.needs Live.leaf|(refine Live.need λ_=>?_)|(refine Live.ite (λ_=>?_) (λ_=>?_))))
theorem uj{a:TypeId}:Live (aappendZ P t a x y get N):=by unfold aappendZ;(repeat' (first|split|exact Live.stuck|exact Live.leaf|exact Live.ofOpt|exact Live.needs Live.leaf|(refine Live.need λ_=>?_)|(refine Live.ite (λ_=>?_) (λ_=>?_))))
theorem Ar:Live (xL P t x y N):=by unfold xL;(repeat' (first|split|exact Live.stuck|exact Live.leaf|exact Live.ofOpt|exact Live.needs Live.leaf|(refine Live.need λ_=>?_)|(refine Live.ite (λ_=>?_) (λ_=>?_))))
theorem uk{a:TypeId}:Live (lI P t a x get):=by unfold lI;(repeat' (first|split|exact Live.stuck|exact Live.leaf|exact Live.ofOpt|exact Live.needs Live.leaf|(refine Live.need λ_=>?_)|(refine Live.ite (λ_=>?_) (λ_=>?_))))
theorem As:Live (xT x b get):=by
 unfold xT
 (repeat' (first|split|exact Live.stuck|exact Live.leaf|exact Live.ofOpt|exact Live.needs Live.leaf|(refine Live.need λ_=>?_)|(refine Live.ite (λ_=>?_) (λ_=>?_))))
 all_goals
  rename_i a _ _ c;cases a with
  |nil=>simp at c
  |cons z r=>exact Live.all ⟨(z,r),List.Perm.refl _,Live.leaf⟩
theorem yi{a:BinOp}:Live (sf P a t x y):=by
 unfold sf zJ;(repeat' (first|split|(exact Live.all ⟨false,bY,Live.leaf⟩)|exact Live.stuck|exact Live.leaf|exact Live.ofOpt|exact Live.needs Live.leaf|(refine Live.need λ_=>?_)|(refine Live.ite (λ_=>?_) (λ_=>?_))))
theorem oS{parts:List (Nat×V)}:Live (gx P t i parts get N):=by
 unfold gx;split
 ·exact Live.leaf
 ·exact Live.stuck
theorem At{a:Operand->V}:Live (lK P o a get N):=by
 unfold lK zJ;split<;>first|exact Live.leaf|exact Live.ofOpt|exact oS|exact yi|exact uk|exact Ar|exact yh|exact qM|exact yg|exact As|exact Live.stuck|skip
 ·(repeat' (first|split|exact Live.stuck|exact Live.leaf|exact Live.ofOpt|exact Live.needs Live.leaf|(refine Live.need λ_=>?_)|(refine Live.ite (λ_=>?_) (λ_=>?_))))
 ·unfold J8;(repeat' (first|split|exact Live.stuck|exact Live.leaf|exact Live.ofOpt|exact Live.needs Live.leaf|(refine Live.need λ_=>?_)|(refine Live.ite (λ_=>?_) (λ_=>?_))))
 ·unfold mK;(repeat' (first|split|exact Live.stuck|exact Live.leaf|exact Live.ofOpt|exact Live.needs Live.leaf|(refine Live.need λ_=>?_)|(refine Live.ite (λ_=>?_) (λ_=>?_))))
 ·split
  ·unfold si zJ;split<;>first|exact Live.ofOpt|exact Live.stuck|skip
   split
   ·exact wi
   ·exact uj
  ·exact Live.stuck
end
def cO(Γ:bG):Prop:=∀p∈Γ,∀c∈p.2,∀x,Live (c.spec x)
theorem cO.get(h:cO Γ)(a:c∈lO Γ f)(x:c.inp.den):Live (c.spec x):=by
 induction Γ with
 |nil=>simp[lO]at a
 |cons p r b=>
  simp only[lO]at a;split at a
  ·rename_i e;subst e;exact h p bY c a x
  ·exact b (λq g=>h q (aD _ g)) a
theorem yk{l:List Ct}(h:∀c∈l,∀x,Live (c.spec x)):Live (lR l args C N W):=by
 induction l with
 |nil=>exact Live.stuck
 |cons c r e=>
  simp only[lR];split
  ·rename_i t a;unfold BZ at a;split at a
   case isFalse=>simp at a
   split at a
   case h_2=>simp at a
   split at a
   case isFalse=>simp at a
   simp at a;subst a;refine Live.bind (h c bY _) λy=>?_;unfold FD;split
   ·exact Live.leaf
   ·exact Live.stuck
  ·exact e λf b=>h f (aD _ b)
theorem DU:Live (Ki vs):=by
 unfold Ki
 (repeat' split)<;>first|exact Live.leaf|exact Live.stuck
theorem ym(h:cO Γ){a:Operand->V}:Live (DS P Γ o a C N W):=by
 unfold DS
 repeat' split
 all_goals first|exact Live.stuck|exact At|exact yk (λc b x=>h.get b x)|exact DU
end
variable{K:Act->World->Prop}{ops:Array Oper}{Q:Exit->Act->World->Prop}{ok:Nat->Bool}{q:V×eD}
section
def pS(a:List Nat)(o:Oper):Nat:=
 o.after.toList.foldl (λm e=>if Region.binds .any e then m|||(1<<<e.on)|||a.getD e.on 0 else m) 0
def mL(ops:List Oper):List Nat:=ops.foldl (λa o=>a++[pS a o]) []
def rd:List Oper->Nat->Bool
 |[],_=>true
 |o::r,k=>(o.after.toList.all λe=> !(Region.binds .any e)||decide (e.on<k))&&rd r (k+1)
def wj(ops:Array Oper)(a:List Nat)(i j:Nat)(x y:Oper):Bool:=
 (a.getD j 0).testBit i||x.apart ops y
def Cb(ops:Array Oper)(a:List Nat)(i:Nat)(x:Oper):List Oper->Nat->Bool
 |[],_=>true
 |y::r,j=>wj ops a i j x y&&Cb ops a i x r (j+1)
def re(ops:Array Oper)(a:List Nat):List Oper->Nat->Bool
 |[],_=>true
 |x::r,i=>Cb ops a i x r (i+1)&&re ops a r (i+1)
def yn(ops:List Oper):Bool:=rd ops 0&&re ops.toArray (mL ops) ops 0
theorem sE:∀(l:List Oper)(k i:Nat)(o:Oper),rd l k=true->l[i]?=some o->∀e∈o.after,Region.binds .any e=true->e.on<k+i:=by
 intro l
 induction l with
 |nil=>intro k i o _ a;simp at a
 |cons q r f=>
  intro k i o h a e b c;simp only[rd,aK,cH]at h;cases i with
  |zero=>
   simp at a;subst a;have:=h.1 e (Array.mem_toList_iff.2 b);simp only[c,Bool.not_true,Bool.false_or,ai]at this;omega
  |succ i=>
   have:=f (k+1) i o h.2 (cf a) e b c;omega
theorem FI{a:List Nat}:∀(l:List Oper)(k j:Nat)(y:Oper),Cb ops a i o l k=true->l[j]?=some y->wj ops a i (k+j) o y=true:=by
 intro l
 induction l with
 |nil=>intro k j y _ b;simp at b
 |cons q r c=>
  intro k j y h b;simp only[Cb,aK]at h;cases j with
  |zero=>
   simp at b;subst b;exact h.1
  |succ j=>
   have:=c (k+1) j y h.2 (cf b)
   rwa [fv,fq 1 j]at this
theorem Aw{a:List Nat}:∀(l:List Oper)(k i j:Nat)(x y:Oper),re ops a l k=true->l[i]?=some x->l[j]?=some y->i<j->wj ops a (k+i) (k+j) x y=true:=by
 intro l
 induction l with
 |nil=>intro k i j x y _ e;simp at e
 |cons q r f=>
  intro k i j x y h b c g;simp only[re,aK]at h;cases j with
  |zero=>omega
  |succ j=>
   cases i with
   |zero=>
    simp at b;subst b;have:=FI r (k+1) j y h.1 (cf c)
    rwa [fv,fq 1 j]at this
   |succ i=>
    have:=f (k+1) i j x y h.2 (cf b) (cf c) ac
    rwa [fv,fq 1 i,fv,fq 1 j]at this
theorem uT(a:List Nat):∀(l:List Edge)(m p:Nat),(l.foldl (λm e=>if Region.binds .any e then m|||(1<<<e.on)|||a.getD e.on 0 else m) m).testBit p=true->
 m.testBit p=true\/∃e∈l,Region.binds .any e=true/\(p=e.on\/(a.getD e.on 0).testBit p=true)
 |[],m,p,h=> .inl h
 |e::l,m,p,h=>by
  simp only[nu]at h;rcases uT a l _ p h with h|⟨c,f,g⟩
  ·split at h
   ·rename_i b;simp only[Nat.testBit_or,jb]at h;rcases h with(h|h)|h
    ·exact .inl h
    ·refine .inr ⟨e,aF ..,b, .inl ?_⟩;rw[Nat.shiftLeft_eq,Nat.one_mul,Nat.testBit_two_pow]at h;simp at h;exact h.symm
    ·exact .inr ⟨e,aF ..,b, .inr h⟩
   ·exact .inl h
  ·exact .inr ⟨c,aD _ f,g⟩
theorem sF:∀(l:List Oper)(a:List Nat),∃t,l.foldl (λa o=>a++[pS a o]) a=a++t/\t.length=l.length/\
 ∀i o,l[i]?=some o->t[i]?=some (pS (a++t.take i) o)
 |[],a=>⟨[],bY,rfl,λi o h=>by simp at h⟩
 |o::l,a=>by
  obtain⟨t,c,e,f⟩:=sF l (a++[pS a o]);refine⟨pS a o::t,by simp only[nu];rw[c];simp,by simp[e],λi q b=>?_⟩;cases i with
  |zero=>simp at b;subst b;simp
  |succ i=>
   have:=f i q (cf b);simp only[List.getElem?_cons_succ,this,List.take_succ_cons];simp
theorem sG{ops:List Oper}(h:((mL ops).getD N 0).testBit W=true):
 ∃o,ops[N]?=some o/\∃e∈o.after,Region.binds .any e=true/\(W=e.on\/(e.on<N/\((mL ops).getD e.on 0).testBit W=true)):=by
 obtain⟨t,c,l,f⟩:=sF ops [];have g:mL ops=t:=by unfold mL;rw[c];simp
 rw[g]at h⊢;cases a:ops[N]? with
 |none=>
  have:t[N]?=none:=by rw[List.getElem?_eq_none_iff]at a⊢;omega
  simp[bF,this]at h
 |some o=>
  have b:=f N o a;simp only[eO]at b;simp only[bF,b,dA]at h;refine⟨o,rfl,?_⟩;unfold pS at h;rcases uT _ _ _ _ h with h|⟨e,i,j,h⟩
  ·simp at h
  ·refine⟨e,Array.mem_toList_iff.1 i,j,?_⟩;rcases h with h|h
   ·exact .inl h
   ·right;simp only[bF,pz]at h;split at h
    ·exact⟨‹_›,by simpa[bF]using h⟩
    ·simp at h
section
variable{P:Program}{ops:Array Oper}
abbrev mk(ops:Array Oper)(i:Nat):Nat:=(mL ops.toList).getD i 0
def mN(ops:Array Oper)(a:Array Bool):Prop:=∀m o,a.getD m false=true->ops[m]?=some o->∀e∈o.after,Region.binds .any e=true->a.getD e.on false=true
theorem yo{a:Array Bool}(f:mN ops a):∀(q p:Nat),a.getD q false=true->(mk ops q).testBit p=true->a.getD p false=true:=by
 intro q
 induction q using Nat.strongRecOn with
 |_ q g=>
  intro p i j;obtain⟨o,l,e,m,n,h⟩:=sG j;have c:ops[q]?=some o:=cf l
  have b:=f q o i c e m n;rcases h with h|⟨r,s⟩
  ·rw[h];exact b
  ·exact g e.on r p b s
theorem sH{a:Array Bool}(j:mN ops a)(l:N∈tR .any ops a)(m:(mk ops N).testBit W=true):a.getD W false=true:=by
 obtain⟨_,o,n,b⟩:=mem_ready.1 l;obtain⟨g,f,e,r,s,h⟩:=sG m
 have:g=o:=by have i:ops[N]?=some g:=cf f
              rw[n]at i;exact(Option.some.inj i).symm
 subst this;have c:=b e r s;rcases h with h|⟨u,t⟩
 ·rw[h];exact c
 ·exact yo j e.on W c t
theorem lV{a:Array Bool}(h:a.getD i true=false):a.getD i false=false:=by
 rcases br i a.size with b|b
 ·simp[b]at h⊢;exact h
 ·simp[Array.getElem?_eq_none b]at h
theorem Ax{a:Array Bool}(n:mN ops a)(p:j∈tR .any ops a):mN ops (a.setIfInBounds j true):=by
 intro m o h f e i l;obtain⟨_,q,g,b⟩:=mem_ready.1 p;by_cases c:m=j
 ·subst c;rw[g]at f;simp at f;subst f;exact getD_set_true (b e i l)
 ·rw[getD_set_ne false (mZ c)]at h;exact getD_set_true (n m o h f e i l)
end
theorem uU{a:Array Bool}(c:a.size=i)(h:a.getD j false=true):decide (j<i)=true:=by
 rcases br j a.size with b|b
 ·simp;omega
 ·simp[Array.getElem?_eq_none b]at h
theorem DV(h:Nat->Option Ch)(b c:Option Ch)(a:N≠j):dg (dg h N b) j c=dg (dg h j c) N b:=by
 funext i;simp only[dg];by_cases e:i=j<;>by_cases f:i=N
 ·omega
 ·simp[e,mZ a]
 ·simp[f,a]
 ·simp[e,f]
theorem qy:∀(a:eD)(h:Nat->Option Ch)(k:Nat)(b:Option Ch),(∀u∈a,u.1≠k)->bj (dg h k b) a=dg (bj h a) k b
 |[],_,_,_,_=>rfl
 |u::r,h,k,b,c=>by
  simp only[bj];rw[DV h b u.2 (mZ (c u (aF ..))),qy r _ k b (λv e=>c v (aD _ e))]
theorem qz:∀(x y:eD)(h:Nat->Option Ch),(∀u∈x,∀v∈y,u.1≠v.1)->bj (bj h x) y=bj (bj h y) x
 |[],_,_,_=>rfl
 |u::r,y,h,b=>by
  simp only[bj];rw[qz r y _ (λv a=>b v (aD _ a)),qy y h u.1 u.2 (λv a=>mZ (b u (aF ..) v a))]
def jo:Op->Bool
 | .move _=>false
 | .assign _=>false
 | .pick .. =>false
 | .alloc _=>false
 | .box .. =>false
 | .build .. =>false
 | .nilCheck _=>false
 | .binOp .. =>false
 | .unOp .. =>false
 | .makeInterface .. =>false
 | .makeFunc .. =>false
 | .makeMap .. =>false
 | .makeSlice .. =>false
 | .fieldAddr .. =>false
 | .field .. =>false
 | .index .. =>false
 | .extract .. =>false
 |_=>true
structure zK where
 m:Nat
 v:List Nat
def ul(N:Nat)(m:zK)(i k:Nat):Bool:=(decide (k<N)&&m.v.contains k)||(decide (N<=k)&&(decide ((k-N)/256=i)||m.m.testBit ((k-N)/256)))
def yp(N i k:Nat):Bool:=decide (N+256*i<=k)&&decide (k<N+256*i+256)
def yq(N:Nat)(mask:Nat->zK)(i k:Nat):List Oper->Nat->Bool
 |[],_=>true
 |o::r,j=>(!(jo o.op)||decide (j=i)||(mask j).m.testBit i||(mask i).m.testBit j|| !(ul N (mask j) j k))&&yq N mask i k r (j+1)
theorem FJ{mask:Nat->zK}:∀{l:List Oper}{n:Nat},yq N mask i W l n=true->∀(j:Nat)(o:Oper),l[j]?=some o->jo o.op=true->n+j≠i->(mask (n+j)).m.testBit i=false->(mask i).m.testBit (n+j)=false->ul N (mask (n+j)) (n+j) W=false:=by
 intro l
 induction l with
 |nil=>intro n _ j o h;simp at h
 |cons q r g=>
  intro n h j o b c a e f;simp only[yq,aK,jb,aR,ai]at h;cases j with
  |zero=>
   simp at b;subst b;simp only[Nat.add_zero]at*;rcases h.1 with(((h|h)|h)|h)|h
   ·rw[c]at h;simp at h
   ·exact absurd h a
   ·rw[e]at h;simp at h
   ·rw[f]at h;simp at h
   ·exact h
  |succ j=>
   have:=g h.2 j o (cf b) c;rw[fv,fq 1 j]at this;exact this a e f
def iQ(N:Nat)(mask:Nat->zK)(ops:Array Oper)(i:Nat)(o:Oper)(a:eD):Bool:=
 a.all λu=>yp N i u.1||(jo o.op&&ul N (mask i) i u.1&&yq N mask i u.1 ops.toList 0)
theorem sJ{mask:Nat->zK}{e:eD}(h:iQ N mask ops i o e=true):∀u∈e,yp N i u.1=true\/
 (jo o.op=true/\ul N (mask i) i u.1=true/\∀(j:Nat)(y:Oper),ops[j]?=some y->jo y.op=true->j≠i->(mask j).m.testBit i=false->(mask i).m.testBit j=false->ul N (mask j) j u.1=false):=by
 intro u f;have:=cH.1 h u f;simp only[jb,aK]at this;refine this.imp id λ⟨⟨a,b⟩,c⟩=>⟨a,b,λj y g=>?_⟩;have:=FJ c j y (cf g);simpa using this
def T3(N:Nat)(mask:Nat->zK)(ops:Array Oper)(i:Nat)(o:Oper)(k:Nat):Bool:=yp N i k||(jo o.op&&ul N (mask i) i k&&yq N mask i k ops.toList 0)
def NH:Option Ch->Option Ch->Prop
 |some a,some b=>a=b
 |_,_=>False
def Cc(a:Nat->Option Ch)(u:eD):List Nat->Prop
 |[]=>True
 |k::r=>NH (a k) (bj (λ_=>none) u k)/\Cc a u r
def yr(ok:Nat->Bool)(a:Nat->Option Ch)(q:V×eD):Tr (V×eD):=
 if q.2.all λu=>ok u.1 then .leaf q
 else .need (Cc a q.2 ((q.2.filter λu=> !(ok u.1)).map (·.1)).eraseDups) (.leaf (q.1,q.2.filter λu=>ok u.1))
theorem ys{e:Nat->Option Ch}{u:eD}:∀{l:List Nat},Cc e u l->∀k∈l,∃c,e k=some c/\bj (λ_=>none) u k=some c
 |[],_,k,f=>by simp at f
 |j::r,h,k,f=>by
  rcases bm.1 f with rfl|f
  ·have g:=h.1;unfold NH at g;split at g
   ·rename_i a b i m;exact⟨a,i,by rw[m,g]⟩
   ·exact g.elim
  ·exact ys h.2 k f
theorem iR:∀{u:eD}{h:Nat->Option Ch}{k:Nat},(∀x∈u,x.1≠k)->bj h u k=h k
 |[],_,_,_=>rfl
 |x::r,h,k,a=>by
  simp only[bj];rw[iR (λy b=>a y (aD _ b)),bI _ _ _ (mZ (a x (aF ..)))]
theorem uV:∀{u:eD}{h h':Nat->Option Ch}{k:Nat},(∃x∈u,x.1=k)->bj h u k=bj h' u k
 |[],_,_,_,f=>by obtain⟨_,a,_⟩:=f;simp at a
 |x::r,h,h',k,f=>by
  simp only[bj];by_cases g:∃y∈r,y.1=k
  ·exact uV g
  ·have b:∀y∈r,y.1≠k:=λy c e=>g ⟨y,c,e⟩;rw[iR b,iR b];obtain⟨y,c,e⟩:=f;rcases bm.1 c with rfl|c
   ·subst e;rw[bK,bK]
   ·exact absurd e (b y c)
theorem jw{ok:Nat->Bool}:∀{u:eD}{h h':Nat->Option Ch}{k:Nat},ok k=true->h k=h' k->bj h (u.filter λx=>ok x.1) k=bj h' u k
 |[],_,_,_,_,e=>e
 |x::r,h,h',k,a,e=>by
  simp only[List.filter_cons];split
  ·simp only[bj];refine jw a ?_;by_cases g:k=x.1
   ·subst g;rw[bK,bK]
   ·rw[bI _ _ _ g,bI _ _ _ g,e]
  ·rename_i b;simp only[bj];refine jw a ?_;rw[bI _ _ _ (λg=>b (by rw[<-g];exact a)),e]
theorem Kk(j:∀k b,C k=some b->U k=some b)(l:Cc C u ((u.filter λx=> !(ok x.1)).map (·.1)).eraseDups):
 bj U (u.filter λx=>ok x.1)=bj U u:=by
 funext k;cases g:ok k with
 |true=>exact jw g rfl
 |false=>
  rw[iR (λx a e=>by have:=(List.mem_filter.1 a).2;rw[e,g]at this;cases this)];by_cases a:∃x∈u,x.1=k
  ·obtain⟨c,m,n⟩:=ys l k (by
    obtain⟨x,a,e⟩:=a;rw[List.mem_eraseDups];exact fI.2 ⟨x,List.mem_filter.2 ⟨a,by rw[e,g];rfl⟩,e⟩)
   rw[uV (h':=λ_=>none) a,n,j k c m]
  ·rw[iR (λx i e=>a ⟨x,i,e⟩)]
theorem FK{t:Tr (V×eD)}(j:∀k b,U k=some b->C k=some b)(l:OW P A ρ z C N W o a t):OW P A ρ z C N W o a (t.bind (yr ok U)):=by
 intro K Q g;rw[cV]at g;refine l K Q (ca ?_ g);rintro q e v i f;unfold yr at e;split at e
 ·exact e v i f
 ·obtain⟨m,n⟩:=e;refine n v i ?_;unfold bQ at f⊢;rw[Kk j m];exact f
theorem sK:Live (yr ok C q):=by
 unfold yr;split
 ·exact Live.leaf
 ·exact Live.need λ_=>Live.leaf
structure FSt where
 slots:List V
 h:Nat->Option Ch
section
variable(P:Program)(Γ:bG)(N:Nat)(mask:Nat->zK)(ops:Array Oper)
def iq(i:Nat)(o:Oper)(h:Nat->Option Ch):Nat->Option Ch:=if jo o.op then λk=>if ul N (mask i) i k then h k else none else λ_=>none
def wk(o:Oper)(i:Nat)(b:Operand->V)(a:Nat->Option Ch):Tr (V×eD):=(DS P Γ o b a (N+256*i) 256).bind (yr (T3 N mask ops i o) a)
def gtr(o:Oper)(i:Nat)(slots:List V)(a:Nat->Option Ch):Tr (V×eD):=
 match hH ops slots o with
 | .yes=>wk P Γ N mask ops o i (dO slots) a
 | .no=> .leaf (.tup [],[])
 | .ask _ b c=> .ite (b==c) (wk P Γ N mask ops o i (dO slots) a) (.leaf (.tup [],[]))
 | .bad=> .stuck
def fin(o:Oper)(i:Nat)(s:FSt)(q:V×eD):Tr FSt:=if iQ N mask ops i o q.2 then .leaf ⟨fE s.slots o.dst q.1,bj s.h q.2⟩else .stuck
def iS(i:Nat)(s:FSt):Tr FSt:=
 match ops[i]? with
 |none=> .stuck
 |some o=>(gtr P Γ N mask ops o i s.slots (iq N mask i o s.h)).bind (fin N mask ops o i s)
end
structure wl(R N:Nat)(B:fw)(ρ:Nat->Pl)(a:Act)(w:World)(s:FSt)(listed:Nat->Bool):Prop where
 defers:yf B ρ w s.h a.defers
 slots:F2 (aT w (Av B.F ρ s.h) ρ) s.slots a.tmps.toList
 heap:dN B.F ρ w s.h
 mv:Mv B.ρ B.w B.h ρ w s.h
 fresh:∀k,N<=k->ρ k≠ .un->listed ((k-N)/256)=true
 root:∀k,k<R->ρ k=B.ρ k\/ρ k= .un
 rn:R<=N
 len:a.tmps.size=B.n
theorem uW{mask:Nat->zK}:∀k b,iq N mask i o C k=some b->C k=some b:=by
 intro k b a;unfold iq at a;split at a
 ·simp only at a;split at a
  ·exact a
  ·simp at a
 ·simp at a
section
variable{P:Program}{Γ:bG}{R N:Nat}{mask:Nat->zK}{ops:Array Oper}
theorem yt(M:bX P Γ){B:fw}{w:World}{s:FSt}
 (f:wl R N B ρ a w s ok) (hi:ok i=false) (g:(iS P Γ N mask ops i s).sat λs'=>∀ρ' l w',eA ρ ρ'->wl R N B ρ' l w' s' (λj=>j==i||ok j)->K l w'):wpOp P ops Q i K a w:=by
 unfold iS at g;unfold wpOp;split at g
 ·exact g.elim
 rename_i o O;rw[cV]at g;obtain⟨S,U,W⟩:=nY (ops:=ops) (o:=o) f.slots
 have skip:(fin N mask ops o i s (.tup [],[])).sat (λs'=>∀ρ' l w',eA ρ ρ'->wl R N B ρ' l w' s' (λj=>j==i||ok j)->K l w')->K (a.put o.dst undef) w:=by
  intro h;simp only[fin,iQ,List.all_nil,if_true,Tr.sat,bj]at h;refine h ρ _ w (eA.refl ρ) ⟨?_,oQ f.slots o.dst fd,f.heap,f.mv,λk p C=>?_,f.root,f.rn,(jT ..).trans f.len⟩
  ·cases o.dst<;>exact f.defers
  ·simp[f.fresh k p C]
 have m:(wk P Γ N mask ops o i (dO s.slots) (iq N mask i o s.h)).sat (λr=>(fin N mask ops o i s r).sat (λs'=>∀ρ' l w',eA ρ ρ'->wl R N B ρ' l w' s' (λj=>j==i||ok j)->K l w'))->o.wp P a w K Q:=by
  intro h
  have D:∀k,N+256*i<=k->k<N+256*i+256->ρ k= .un:=by
   intro k z E;by_cases H:ρ k= .un
   ·exact H
   ·have A:=f.fresh k ac H;have e:(k-N)/256=i:=ac
    rw[e,hi]at A;simp at A
  refine FK uW (uS (F:=B.F) M f.heap uW (λx=>fW f.slots x) D ac) K Q (ca ?_ h);rintro⟨y,u⟩ n v w' ⟨ρ',z,E,A,X,G⟩;unfold fin at n;split at n
  case isFalse=>exact n.elim
  refine n ρ' _ w' z ⟨?_,oQ (F2.imp (λ_ _=>aT.evo G.evo z) f.slots) o.dst A,X,f.mv.trans G,λk p C=>?_,λk p=>?_,f.rn,(jT ..).trans f.len⟩
  ·cases o.dst<;>exact f.defers.mv G
  ·by_cases n:ρ k= .un
   ·have:=E k n C;have e:(k-N)/256=i:=ac
    simp[e]
   ·simp[f.fresh k p n]
  ·by_cases e:ρ k= .un
   ·by_cases J:ρ' k= .un
    ·exact .inr J
    ·have:=E k e J;have:=f.rn;omega
   ·rw[z k e];exact f.root k p
 simp only[O];unfold gtr at g;split at g
 ·rename_i q;rw[S q];simp only[if_true];exact .inl (m g)
 ·rename_i q;rw[U q];simp only[cz,if_false];exact skip g
 ·rename_i t b L q;rw[(W _ _ _ q).1];split
  ·rename_i e;exact .inl (m (g.1 e))
  ·rename_i e;exact skip (g.2 (cf e))
 ·exact g.elim
end
end
section
theorem yu(P:Program)(o:Oper){m e:Operand->V}(q:Nat->Option Ch)(N:Nat)(h:∀x∈o.op.operands,m x=e x):lK P o m q N=lK P o e q N:=by
 obtain⟨v,w,u,y,s,guard⟩:=o
 have f:∀i:List (Nat×Operand),(∀x∈i.map (·.2),m x=e x)->(i.map λp=>(p.1,m p.2))=i.map λp=>(p.1,e p.2):=by
  intro i z;refine List.map_congr_left λp A=>?_;rw[z p.2 (fI.2 ⟨p,A,rfl⟩)]
 cases w<;>simp only[Op.operands]at h<;>simp only[lK]
 case build t i=>rw[f i.toList λx g=>h x (cf g)]
 case buildSlice t n i=>rw[f i.toList λx g=>h x (cf g)]
 case makeFunc fn first a=>
  rw[List.map_congr_left (l:=first.toList) λx g=>h x (by simp[Array.mem_toList_iff.1 g]),List.map_congr_left (l:=a.toList) λx g=>h x (by simp[Array.mem_toList_iff.1 g])]
 case call c=>
  have j:c.args.toList.map m=c.args.toList.map e:=List.map_congr_left λx g=>h x (by simp[Call.operands,Array.mem_toList_iff.1 g]);cases E:c.callee with
  |builtin b=>simp only[j]
  |_=>rfl
 case slice t x B C D=>cases B<;>cases C<;>cases D<;>simp_all
 case makeMap t r=>cases r<;>rfl
 all_goals (first|rfl|(simp_all;done))
theorem DW(P:Program)(Γ:bG)(o:Oper){i a:Operand->V}(g:Nat->Option Ch)(N W:Nat)(h:∀x∈o.op.operands,i x=a x):DS P Γ o i g N W=DS P Γ o a g N W:=by
 have p:=yu P o g N h;unfold DS;split
 case h_2=>exact p
 rename_i c l;rw[l]at h;simp only[Op.operands]at h;have e:c.args.toList.map i=c.args.toList.map a:=List.map_congr_left λx q=>h x (by simp[Call.operands,Array.mem_toList_iff.1 q]);cases j:c.callee with
 |value f=>have n:i f=a f:=h f (by simp[Call.operands,j]);simp only[n,e]
 |invoke r m=>have n:i r=a r:=h r (by simp[Call.operands,j]);simp only[n,e]
 |builtin b=>exact p
theorem DX{x:Operand}(h:∀d,dst=some d->x≠ .tmp d):dO (fE M dst y) x=dO M x:=by
 cases dst with
 |none=>rfl
 |some d=>
  cases x with
  |tmp t=>
   have a:d≠t:=λe=>h d rfl (e▸rfl);simp[dO,fE,mF a]
  |_=>rfl
theorem Kl(P:Program)(Γ:bG)(o:Oper)(slots:List V)(dst:Option Tmp)(v:V)(a:Nat->Option Ch)(N W:Nat)(h:∀d,dst=some d->d∉o.looksAt ops):
 DS P Γ o (dO (fE slots dst v)) a N W=DS P Γ o (dO slots) a N W:=
 DW P Γ o a N W λx c=>DX λd e b=>h d e (by
  subst b;exact dd _ (List.mem_filterMap.2 ⟨.tmp d,cf c,rfl⟩))
theorem yv(o:Oper)(slots:List V)(dst:Option Tmp)(v:V)(h:∀d,dst=some d->d∉o.looksAt ops):hH ops (fE slots dst v) o=hH ops slots o:=by
 cases dst with
 |none=>rfl
 |some d=>
  unfold hH;cases c:o.guard with
  |none=>rfl
  |some f=>
   obtain⟨g,b⟩:=f;simp only;cases i:(ops[g]?).bind (·.dst)with
   |none=>rfl
   |some t=>
    have a:d≠t:=λe=>h d rfl (by subst e;simp[Oper.looksAt,c,i]);simp[fE,mF a]
theorem DY(slots:List V){x y:Option Tmp}(v u:V)(h:∀d,x=some d->y≠some d):fE (fE slots x v) y u=fE (fE slots y u) x v:=by
 cases x with
 |none=>rfl
 |some d=>
  cases y with
  |none=>rfl
  |some e=>
   have a:d≠e:=λb=>h d rfl (b▸rfl);simp only[fE];rw[List.set_comm _ _ a]
section
variable{P:Program}{Γ:bG}{N:Nat}{mask:Nat->zK}{ops:Array Oper}
theorem Cd(o:Oper)(i:Nat)(slots:List V)(dst:Option Tmp)(v:V)(a:Nat->Option Ch)(h:∀d,dst=some d->d∉o.looksAt ops):gtr P Γ N mask ops o i (fE slots dst v) a=gtr P Γ N mask ops o i slots a:=by
 unfold gtr;simp only[yv o slots dst v h,wk,Kl P Γ o slots dst v a _ _ h]
theorem yw(b:cO Γ):Live (gtr P Γ N mask ops o i M C):=by
 unfold gtr;split
 ·exact Live.bind (ym b) λ_=>sK
 ·exact Live.leaf
 ·exact Live.ite (λ_=>Live.bind (ym b) λ_=>sK) (λ_=>Live.leaf)
 ·exact Live.stuck
theorem FL{s:FSt}:Live (fin N mask ops o i s q):=by
 unfold fin;split
 ·exact Live.leaf
 ·exact Live.stuck
theorem Ay(a:cO Γ){s:FSt}:Live (iS P Γ N mask ops i s):=by
 unfold iS;split
 ·exact Live.stuck
 ·exact Live.bind (yw a) (λ_=>FL)
theorem sM{b:eD}(l:ops[j]?=some oj)(c:i≠j)(f:(mask j).m.testBit i=false)(g:(mask i).m.testBit j=false)
 (n:iQ N mask ops i oi b=true):iq N mask j oj (bj C b)=iq N mask j oj C:=by
 unfold iq;cases o:jo oj.op
 ·rfl
 ·simp only[if_true];funext k;split
  ·rename_i a;refine nS b C k λu p e=>?_;subst e;rcases sJ n u p with this|⟨_,_,this⟩
   ·simp only[yp,aK,ai]at this;have q:(u.1-N)/256=i:=ac
    simp only[ul,jb,aK,ai,q,f]at a;rcases a with a|⟨_,a|a⟩
    ·omega
    ·exact c a
    ·simp at a
   ·rw[this j oj l o (mZ c) f g]at a;simp at a
  ·rfl
theorem DZ{x y:eD}(r:ops[j]?=some oj)(f:i≠j)(b:(mask j).m.testBit i=false)(c:(mask i).m.testBit j=false)
 (s:iQ N mask ops i oi x=true) (t:iQ N mask ops j oj y=true):∀u∈x,∀v∈y,u.1≠v.1:=by
 intro u w v z e;have g:=sJ s u w;have n:=sJ t v z;simp only[yp,aK,ai]at g n;rw[e]at g;have own:∀{q:Nat}{k:Nat},N+256*q<=k/\k<N+256*q+256->(k-N)/256=q:=λh=>ac
 have a:∀{m:zK}{q k:Nat},ul N m q k=true->k<N\/(k-N)/256=q\/m.m.testBit ((k-N)/256)=true:=by
  intro m q k h;simp only[ul,jb,aK,ai]at h;rcases h with h|h
  ·exact .inl h.1
  ·exact .inr h.2
 rcases g with o|⟨F,A,B⟩<;>rcases n with p|⟨C,l,G⟩
 ·have:=own o;have:=own p;omega
 ·have D:=own o;rcases a l with h|h|h
  ·omega
  ·omega
  ·rw[D,b]at h;simp at h
 ·have E:=own p;rcases a A with h|h|h
  ·omega
  ·omega
  ·rw[E,c]at h;simp at h
 ·rw[B j oj r C (mZ f) b c]at l;simp at l
theorem Az(u:cO Γ){s:FSt}{Q:FSt->Prop}(hi:ops[i]?=some oi)(p:ops[j]?=some oj)(f:i≠j)(g:(mask j).m.testBit i=false)(l:(mask i).m.testBit j=false)
 (q:oi.apart ops oj=true) (h:(iS P Γ N mask ops i s).sat λv=>(iS P Γ N mask ops j v).sat Q):(iS P Γ N mask ops j s).sat λw=>(iS P Γ N mask ops i w).sat Q:=by
 obtain⟨x,y,z⟩:=Oper.apart_spec q;have t:∀d,oj.dst=some d->oi.dst≠some d:=λd A B=>y d B A;unfold iS at h⊢;simp only[hi,p]at h⊢;rw[cV]at h⊢;have c:Live (gtr P Γ N mask ops oi i s.slots (iq N mask i oi s.h)):=yw u
 have C:(gtr P Γ N mask ops oi i s.slots (iq N mask i oi s.h)).sat λr=>(gtr P Γ N mask ops oj j s.slots (iq N mask j oj s.h)).sat λn=>
  iQ N mask ops i oi r.2=true/\iQ N mask ops j oj n.2=true/\Q ⟨fE (fE s.slots oi.dst r.1) oj.dst n.1,bj (bj s.h r.2) n.2⟩:=by
  refine ca ?_ h;intro r o;unfold fin at o;split at o
  case isFalse=>exact o.elim
  rename_i e;simp only[Tr.sat]at o;rw[cV,Cd oj j _ _ _ _ x,sM p f g l e]at o;refine ca ?_ o;intro n b;split at b
  case isFalse=>exact b.elim
  rename_i a;exact⟨e,a,b⟩
 refine ca ?_ (lU c C);intro n b;obtain⟨_,_,a,_⟩:=c _ b;unfold fin;rw[ak a];simp only[Tr.sat];rw[cV,Cd oi i _ _ _ _ z,sM (oi:=oj) (oj:=oi) (i:=j) hi (mZ f) l g a];refine ca ?_ b;rintro r ⟨e,_,D⟩;rw[ak e];simp only[Tr.sat];rw[DY _ _ _ t,<-qz r.2 n.2 s.h (DZ p f g l e a)];exact D
abbrev cS(vc:Nat->List Nat)(ops:Array Oper)(i:Nat):zK:=⟨mk ops i,vc i⟩
variable{vc:Nat->List Nat}
def pT(P:Program)(Γ:bG)(N:Nat)(vc:Nat->List Nat)(ops:Array Oper)(Q:FSt->Prop):Nat->Array Bool->FSt->Prop
 |0,a,s=>tR .any ops a=[]/\Q s
 |b+1,a,s=>
  (tR .any ops a=[]->Q s)/\
  ∀i∈tR .any ops a,(iS P Γ N (cS vc ops) ops i s).sat λc=>pT P Γ N vc ops Q b (a.setIfInBounds i true) c
theorem wm(z:cO Γ){Q:FSt->Prop}(hi:ops[i]?=some oi):
 ∀(b:Nat)(a:Array Bool)(s:FSt),mN ops a->
  (∀j oj,ops[j]?=some oj->j≠i->a.getD j true=false->(mk ops j).testBit i=true\/oi.apart ops oj=true)->
  i∈tR .any ops a->((iS P Γ N (cS vc ops) ops i s).sat λm=>pT P Γ N vc ops Q b (a.setIfInBounds i true) m)->pT P Γ N vc ops Q (b+1) a s:=by
 intro b
 induction b with
 |zero=>
  intro a s u e g H;refine⟨λh=>(by rw[h]at g;cases g),λj l=>?_⟩;by_cases c:j=i
  ·subst c;exact H
  ·have:=ready_mono l c;obtain⟨m,v⟩:=Ay z _ H;rw[v.1]at this;cases this
 |succ b B=>
  intro a s u e g H;refine⟨λh=>(by rw[h]at g;cases g),λj l=>?_⟩;by_cases c:j=i
  ·subst c;exact H
  ·have C:(iS P Γ N (cS vc ops) ops i s).sat λm=>(iS P Γ N (cS vc ops) ops j m).sat λD=>pT P Γ N vc ops Q b ((a.setIfInBounds i true).setIfInBounds j true) D:=
    ca (λm v=>v.2 j (ready_mono l c)) H
   obtain⟨f,oj,n,A⟩:=mem_ready.1 l;have o:=(mem_ready.1 g).1
   have p:(mk ops j).testBit i=false:=by
    cases w:(mk ops j).testBit i
    ·rfl
    ·have:=sH u l w;rw[lV o]at this;simp at this
   have q:(mk ops i).testBit j=false:=by
    cases w:(mk ops i).testBit j
    ·rfl
    ·have:=sH u g w;rw[lV f]at this;simp at this
   have x:=(e j oj n c f).resolve_left (by rw[p];simp);refine ca ?_ (Az z hi n (mZ c) p q x C);intro E F;refine B (a.setIfInBounds j true) E (Ax u l) (λk ok G y r=>?_) (ready_mono g (mZ c)) (ca ?_ F)
   ·refine e k ok G y ?_;by_cases t:j=k
    ·subst t;exact f
    ·rw[getD_set_ne true t]at r;exact r
   ·intro K J;rw[Array.setIfInBounds_comm _ _ c];exact J
def D0(P:Program)(Γ:bG)(N:Nat)(mask:Nat->zK)(ops:Array Oper):Nat->Nat->FSt->Tr FSt
 |0,_,s=> .leaf s
 |n+1,k,s=>(iS P Γ N mask ops k s).bind (D0 P Γ N mask ops n (k+1))
theorem sN(G:cO Γ){Q:FSt->Prop}(u:yn ops.toList=true):∀(n k:Nat)(a:Array Bool)(s:FSt),k+n=ops.size->a.size=ops.size->(∀m,m<ops.size->a.getD m false=decide (m<k))->
 (D0 P Γ N (cS vc ops) ops n k s).sat Q->pT P Γ N vc ops Q n a s
 |0,k,a,s,K,C,hL,v=>by
  refine⟨?_,v⟩;cases h:tR .any ops a with
  |nil=>rfl
  |cons i r=>
   have L:i∈tR .any ops a:=by rw[h];exact aF ..
   obtain⟨w,o,B,_⟩:=mem_ready.1 L;have t:=(eX.1 B).1;have:=lV w;rw[hL i t]at this;simp at this;omega
 |n+1,k,a,s,K,C,hL,v=>by
  simp only[D0]at v;rw[cV]at v;have q:k<ops.size:=ac
  have l:ops[k]?=some ops[k]:=Array.getElem?_eq_getElem q;simp only[yn,aK]at u;obtain⟨c,f⟩:=u;have b:∀{i:Nat}{o:Oper},ops[i]?=some o->ops.toList[i]?=some o:=λh=>cf h
  have g:mN ops a:=by
   intro m o x B e D E;have w:=sE _ _ _ _ c (b B) e D E;have y:=(eX.1 B).1;rw[hL m y]at x;simp at x;rw[hL e.on ac];simp;omega
  have p:k∈tR .any ops a:=by
   rw[mem_ready];refine⟨?_,_,l,λe D E=>?_⟩
   ·have:=hL k q;have t:k<a.size:=ac
    simp[t]at this⊢;exact this
   ·have w:=sE _ _ _ _ c (b l) e D E;rw[hL e.on ac];simp;omega
  refine wm G l n a s g (λj S H M F=>?_) p (ca ?_ v)
  ·have z:=(eX.1 H).1;have:=lV F;rw[hL j z]at this;simp at this;have J:=Aw _ 0 _ _ _ _ f (b l) (b H) ac;simp only[bT,wj,jb,Array.toArray_toList]at J;exact J
  ·intro O w;refine sN G (by simp only[yn,aK];exact⟨c,f⟩) n (k+1) _ O ac (cf C) (λm x=>?_) w;by_cases A:m=k
   ·subst A;simp[C,x]
   ·rw[getD_set_ne false (mZ A),hL m x];simp;omega
variable{R:Nat}
theorem sQ(v:bX P Γ){B:fw}{ρ0:Nat->Pl}{Q:FSt->Prop}{x:Exit->Act->World->Prop}(p:∀ρ a w s,eA ρ0 ρ->Q s->wl R N B ρ a w s (λj=>decide (j<ops.size))->x .normal a w):
 ∀(g:Nat)(b:Array Bool)(s:FSt)(ρ:Nat->Pl)(a:Act)(w:World),eA ρ0 ρ->b.size=ops.size->wl R N B ρ a w s (λj=>b.getD j false)->pT P Γ N vc ops Q g b s->wpAny P .any ops x g b a w
 |0,b,s,ρ,a,w,o,l,c,h=>⟨h.1,p ρ a w s o h.2 ⟨c.defers,c.slots,c.heap,c.mv,λk m n=>uU l (c.fresh k m n),c.root,c.rn,c.len⟩⟩
 |g+1,b,s,ρ,a,w,o,l,c,h=>by
  refine⟨λy=>p ρ a w s o (h.1 y) ⟨c.defers,c.slots,c.heap,c.mv,λk m n=>uU l (c.fresh k m n),c.root,c.rn,c.len⟩,λi q=>?_⟩;have r:=lV (mem_ready.1 q).1;refine yt v c r (ca ?_ (h.2 i q));intro z A ρ' C D t f;refine sQ v p g _ z ρ' C D (o.trans t) (cf l) ⟨f.defers,f.slots,f.heap,f.mv,λk m n=>?_,f.root,f.rn,f.len⟩ A;have:=f.fresh k m n;simp only[jb,aS]at this;rcases this with e|e
  ·rw[e];obtain⟨E,_⟩:=mem_ready.1 q
   have:i<b.size:=by
    rcases br i b.size with u|u
    ·exact u
    ·simp[Array.getElem?_eq_none u]at E
   simp[this]
  ·exact getD_set_true e
theorem yx(i:bX P Γ)(hL:cO Γ){B:fw}{s:FSt}{c:FSt->Prop}(e:P.follows .mixedOrders=true)(f:yn ops.toList=true)
 (b:wl R N B ρ a z s (λ_=>false)) (l:(D0 P Γ N (cS vc ops) ops ops.size 0 s).sat c)
 (n:∀ρ' a z s',eA ρ ρ'->c s'->wl R N B ρ' a z s' (λj=>decide (j<ops.size))->Q .normal a z):(Code.region id ops true).wp P Q a z:=by
 refine wp_region_any e ?_;obtain⟨o,g⟩:=b.heap.same (gf.drew z);refine sQ i (vc:=vc) (N:=N) (B:=B) (ρ0:=ρ) (Q:=c) (λρ a z s p h b=>n ρ a z s p h b) _ _ s ρ a _ (eA.refl ρ) bY ?_ ?_
 ·refine⟨b.defers.mv g,F2.imp (λ_ _=>aT.evo g.evo (eA.refl ρ)) b.slots,o,b.mv.trans g,λk q r=>?_,b.root,b.rn,b.len⟩;have:=b.fresh k q r;simp at this
 ·refine sN hL f ops.size 0 _ s ac bY (λm e=>?_) l;simp[e]
end
end
section
section
variable(P:Program)(Γ:bG)
def oT(o:Oper)(s:St):Tr St:=(DS P Γ o (dO s.slots) (aW s.heap) s.next 256).bind λq=> .leaf ⟨fE s.slots o.dst q.1,nX s.heap q.2,s.next+256⟩
def uX(o:Oper)(s:St):St:=⟨fE s.slots o.dst (.tup []),s.heap,s.next⟩
def qB(s:St)(t:Nat)(b:Bool):St:=⟨s.slots.set t (sc (.k (.bool b))),s.heap,s.next⟩
def oU(slots:List V)(o:Oper):Option (Nat×Bool):=match o.op with
 | .pick (.tmp t) _ _=>match slots.getD t (.tup [])with
   | .val false [.d .bl b]=>some (t,b)
   |_=>none
 |_=>none
def jx(ops:Array Oper):List Oper->St->Tr St
 |[],s=> .leaf s
 |o::r,s=>match hH ops s.slots o with
  | .yes=>match oU s.slots o with
    |some (t,b)=> .ite b ((oT P Γ o (qB s t true)).bind (jx ops r)) ((oT P Γ o (qB s t false)).bind (jx ops r))
    |none=>(oT P Γ o s).bind (jx ops r)
  | .no=>jx ops r (uX o s)
  | .ask t b a=> .ite b (if true==a then(oT P Γ o (qB s t true)).bind (jx ops r)else jx ops r (uX o (qB s t true)))
   (if false==a then(oT P Γ o (qB s t false)).bind (jx ops r)else jx ops r (uX o (qB s t false)))
  | .bad=> .stuck
def T4(l:List Oper)(t:Nat):Option Oper:=l.find? λo=>match o.dst with
 |some d=>d==t
 |none=>false
def uY:Tr (V×eD)->List V
 | .leaf q=>[q.1]
 | .need _ x=>uY x
 | .ite _ x y=>uY x++uY y
 |_=>[]
def PP:V->List I
 | .val _ l=>l
 |_=>[]
def T5:V->Bool
 | .val _ [.own _]=>true
 | .val _ [.ptr ..]=>true
 | .val _ [.mp _]=>true
 |_=>false
def EX(b:Bool)(l:List Oper)(slots:List V)(a:Nat->Option Ch):Nat->Operand->List V
 |0,_=>[]
 |n+1, .tmp t=>match(if b&&T5 (slots.getD t (.tup []))then none else T4 l t)with
  |none=>[slots.getD t (.tup [])]
  |some o=>match o.op with
   | .move x=>EX b l slots a n x
   | .assign x=>EX b l slots a n x
   | .nilCheck x=>EX b l slots a n x
   | .fieldAddr t x f=>(EX b l slots a n x).filterMap λv=>iM P t v f
   | .indexAddr t x i=>(EX b l slots a n x).flatMap λv=>match EX b l slots a n i with
     |[]=>uY (gg P t v (sc (.d .i64 0)) a)
     |u::r=>(u::r).flatMap λu=>uY (gg P t v u a)
   | .load t x=>(EX b l slots a n x).filterMap λv=>xF P t v a
   | .makeInterface t x=>(EX b l slots a n x).filterMap λv=>kG P t v
   | .slice t x none none none=>(EX b l slots a n x).flatMap λv=>uY (kE P t v none none none a 0)
   | .build _ c=>[.val true (c.toList.flatMap λp=>(EX b l slots a n p.2).flatMap PP)]
   |_=>[]
 |_,x=>[dO slots x]
end
def a1v:I->List Nat
 | .own k=>[k]
 | .sub k .. =>[k]
 | .ptr k _=>[k]
 | .pes k .. =>[k]
 | .mp k=>[k]
 | .fn _ a b=>a.map (·.1)++b.map (·.1)
 | .ifc _ k _=>[k]
 | .mth _ _ k _=>[k]
 |_=>[]
def Km:List I->List Nat
 |[]=>[]
 |i::r=>a1v i++Km r
def T6:V->List Nat
 | .val _ l=>Km l
 |_=>[]
def yz(a:Nat->Option Ch):Nat->List Nat->List Nat->List Nat
 |0,_,seen=>seen
 |_,[],seen=>seen
 |n+1,k::r,seen=>if seen.contains k then yz a n r seen else match a k with
  |some (.cells l)=>yz a n (Km l++r) (k::seen)
  |some (.fc l)=>yz a n (Km l++r) (k::seen)
  |_=>yz a n r (k::seen)
def PQ(P:Program)(ops:Array Oper)(slots:List V)(a:Nat->Option Ch)(i:Nat):List Nat:=
 match ops[i]? with
 |some o=>
  let d:=o.op.operands.toList.flatMap λx=>(EX P false ops.toList slots a 12 x).flatMap T6++(EX P true ops.toList slots a 12 x).flatMap T6
  match o.op with
  | .call c=>match c.callee with
    | .builtin _=>d
    |_=>yz a 600 d []
  |_=>d
 |none=>[]
section
variable(P:Program)(Γ:bG)(N:Nat)(mask:Nat->zK)(ops:Array Oper)
def FM(o:Oper)(i:Nat)(q:List V×fQ):Tr (List V×fQ):=
 (gtr P Γ N mask ops o i q.1 (iq N mask i o (aW q.2))).bind λr=>if iQ N mask ops i o r.2 then .leaf (fE q.1 o.dst r.1,nX q.2 r.2)else .stuck
def yA:List Oper->Nat->List V×fQ->Tr (List V×fQ)
 |[],_,q=> .leaf q
 |o::r,k,q=>(FM P Γ N mask ops o k q).bind (yA r (k+1))
def uZ(o:Oper)(i:Nat)(q:List V×fQ)(yes:Bool):Tr (List V×fQ):=
 (if yes then wk P Γ N mask ops o i (dO q.1) (iq N mask i o (aW q.2))else .leaf (.tup [],[])).bind λr=>if iQ N mask ops i o r.2 then .leaf (fE q.1 o.dst r.1,nX q.2 r.2)else .stuck
def yB(o:Oper)(i:Nat)(q:List V×fQ)(c:Bool):Tr (List V×fQ):=match o.op with
 | .pick _ x y=>(Tr.leaf (if c then dO q.1 x else dO q.1 y,[])).bind λr=>if iQ N mask ops i o r.2 then .leaf (fE q.1 o.dst r.1,nX q.2 r.2)else .stuck
 |_=> .stuck
def oV:List (Nat×Bool)->List Oper->Nat->List V×fQ->Tr (List V×fQ)
 |_,[],_,q=> .leaf q
 |e,o::r,k,q=>match hH ops q.1 o with
  | .ask t b a=>match e.lookup t with
    |some c=> .need (b=c) ((uZ P Γ N mask ops o k q (c==a)).bind (oV e r (k+1)))
    |none=> .ite b ((uZ P Γ N mask ops o k q (true==a)).bind (oV ((t,true)::e) r (k+1))) ((uZ P Γ N mask ops o k q (false==a)).bind (oV ((t,false)::e) r (k+1)))
  | .yes=>match oU q.1 o with
    |some (t,b)=>match e.lookup t with
     |some c=> .need (b=c) ((yB N mask ops o k q c).bind (oV e r (k+1)))
     |none=> .ite b ((yB N mask ops o k q true).bind (oV ((t,true)::e) r (k+1))) ((yB N mask ops o k q false).bind (oV ((t,false)::e) r (k+1)))
    |none=>(uZ P Γ N mask ops o k q true).bind (oV e r (k+1))
  | .no=>(uZ P Γ N mask ops o k q false).bind (oV e r (k+1))
  | .bad=> .stuck
end
def Ko(P:Program)(Γ:bG)(ops:Array Oper)(a:Bool)(s:St):Tr St:=
 if a then
  if yn ops.toList then
   (oV P Γ s.next (cS (PQ P ops s.slots (aW s.heap)) ops) ops [] ops.toList 0 (s.slots,s.heap)).bind λq=> .leaf ⟨q.1,q.2,s.next+256*ops.size⟩
  else .stuck
 else jx P Γ ops ops.toList s
section
variable{P:Program}{Γ:bG}{R:Nat}{B:fw}{ops:Array Oper}
theorem fR.know{σ:St}(c:fR R B σ ρ a z)(f:a.tmps[i]?=some (.bool b)):fR R B (qB σ i b) ρ a z:=by
 refine⟨c.defers,c.slots.set_left i (λv e=>?_),c.heap,c.mv,c.fresh,c.root,c.rn,c.len⟩;have:a.tmps.toList[i]?=some (.bool b):=cf f
 rw[this]at e;simp at e;subst e;exact aM.2 rfl
theorem fR.skip{σ:St}(b:fR R B σ ρ a e):fR R B (uX o σ) ρ (a.put o.dst undef) e:=
 ⟨by cases o.dst<;>exact b.defers,oQ b.slots o.dst fd,b.heap,b.mv,b.fresh,b.root,b.rn,(jT ..).trans b.len⟩
theorem yC(f:bX P Γ){σ:St}(b:fR R B σ ρ a z)
 (h:(oT P Γ o σ).sat λσ'=>∀ρ' e w',eA ρ ρ'->fR R B σ' ρ' e w'->K e w'):o.wp P a z K Q:=by
 unfold oT at h;rw[cV]at h;refine uS (F:=B.F) f b.heap (λ_ _ q=>q) (λx=>fW b.slots x) (λk g _=>b.fresh k g) ac K Q (ca ?_ h);rintro⟨y,u⟩ i v w' j;obtain⟨ρ',l,c⟩:=b.step (dst:=o.dst) j;exact i ρ' _ w' l c
theorem sR{σ:St}(g:fR R B σ ρ a z)(h:oU σ.slots o=some (N,b)):a.tmps[N]?=some (.bool b):=by
 unfold oU at h;split at h
 case h_2=>simp at h
 rename_i i _ _ _;split at h
 case h_2=>simp at h
 rename_i c;simp at h;obtain⟨rfl,rfl⟩:=h;rw[aw]at c;cases e:σ.slots[i]? with
 |none=>rw[e]at c;simp at c
 |some x=>
  rw[e]at c;simp at c;subst c;obtain⟨v,j,l⟩:=g.slots.get e;have f:=aM.1 l;simp[bh,Rd]at f;subst f;simpa using j
theorem Ce(x:bX P Γ){Q:Exit->Act->World->Prop}:∀(l:List Oper)(k:Nat)(σ:St)(ρ:Nat->Pl)(a:Act)(w:World),(∀i,l[i]?=ops[k+i]?)->fR R B σ ρ a w->
 ((jx P Γ ops l σ).sat λσ'=>∀ρ' e w',eA ρ ρ'->fR R B σ' ρ' e w'->Q .normal e w')->wpOps P ops Q (mG k l.length) a w
 |[],k,σ,ρ,a,w,_,c,h=>h ρ a w (eA.refl ρ) c
 |o::r,k,σ,ρ,a,w,y,c,h=>by
  have A:ops[k]?=some o:=by have:=y 0;simpa using this.symm
  have q:∀i,r[i]?=ops[k+1+i]?:=λi=>by have:=y (i+1);simpa[fv,fq 1 i]using this
  have z:=λσ ρ a w=>Ce x (Q:=Q) r (k+1) σ ρ a w q;obtain⟨C,s,D⟩:=nY (ops:=ops) (o:=o) c.slots;rw[bc,List.range'_succ,wpOps_cons];unfold wpOp;simp only[A]
  have yes:∀(σ1:St),fR R B σ1 ρ a w->(((oT P Γ o σ1).bind (jx P Γ ops r)).sat λσ'=>∀ρ' e w',eA ρ ρ'->fR R B σ' ρ' e w'->Q .normal e w')->o.wp P a w (wpOps P ops Q (mG (k+1) r.length)) Q:=by
   intro σ1 g p;rw[cV]at p;refine yC x g (ca ?_ p);intro σ' E ρ' e w' F u;exact z σ' ρ' e w' u (ca (λ_ G ρ2 H s v=>G ρ2 H s (F.trans v)) E)
  have no:∀(σ1:St),fR R B σ1 ρ a w->((jx P Γ ops r (uX o σ1)).sat λσ'=>∀ρ' e w',eA ρ ρ'->fR R B σ' ρ' e w'->Q .normal e w')->wpOps P ops Q (mG (k+1) r.length) (a.put o.dst undef) w:=
   λσ1 g p=>z _ _ _ _ g.skip p
  simp only[jx]at h;split at h
  ·rename_i m;rw[C m];split at h
   ·rename_i t b J;have j:=sR c J;cases b
    ·exact .inl (yes _ (c.know j) (h.2 rfl))
    ·exact .inl (yes _ (c.know j) (h.1 rfl))
   ·exact .inl (yes σ c h)
  ·rename_i m;rw[s m];exact no σ c h
  ·rename_i t b f m;obtain⟨K,_,j⟩:=D _ _ _ m;rw[K];cases b
   ·have n:=h.2 rfl;cases f
    ·exact .inl (yes _ (c.know j) n)
    ·exact no _ (c.know j) n
   ·have n:=h.1 rfl;cases f
    ·exact no _ (c.know j) n
    ·exact .inl (yes _ (c.know j) n)
  ·exact h.elim
theorem u4{N:Nat}{mask:Nat->zK}{Q:FSt->Prop}:∀(l:List Oper)(k:Nat)(q:List V×fQ),(∀i,l[i]?=ops[k+i]?)->((yA P Γ N mask ops l k q).sat λr=>Q ⟨r.1,aW r.2⟩)->(D0 P Γ N mask ops l.length k ⟨q.1,aW q.2⟩).sat Q
 |[],_,_,_,h=>h
 |o::r,k,q,c,h=>by
  have e:ops[k]?=some o:=by have:=c 0;simpa using this.symm
  have b:∀i,r[i]?=ops[k+1+i]?:=λi=>by have:=c (i+1);simpa[fv,fq 1 i]using this
  simp only[yA]at h;simp only[bc,D0,iS,e];rw[cV]at h⊢;rw[FM,cV]at h;rw[cV];refine ca ?_ h;intro p a;unfold fin;split at a
  case isFalse=>exact a.elim
  rename_i f;rw[ak f];simp only[Tr.sat]at a⊢;rw[<-eG];exact u4 r (k+1) _ b a
theorem Cf{N:Nat}{mask:Nat->zK}{Q:List V×fQ->Prop}:∀(l:List Oper)(a:List (Nat×Bool))(k:Nat)(q:List V×fQ),(oV P Γ N mask ops a l k q).sat Q->(yA P Γ N mask ops l k q).sat Q
 |[],_,_,_,h=>h
 |o::r,a,k,q,h=>by
  have w:=λa=>Cf (N:=N) (mask:=mask) (Q:=Q) r a (k+1)
  have go:∀(a:List (Nat×Bool))(t:Tr (V×eD)),((t.bind λr=>if iQ N mask ops k o r.2 then .leaf (fE q.1 o.dst r.1,nX q.2 r.2)else .stuck).bind (oV P Γ N mask ops a r (k+1))).sat Q->
   t.sat λg=>(if iQ N mask ops k o g.2 then Tr.leaf (fE q.1 o.dst g.1,nX q.2 g.2)else .stuck).sat λn=>(yA P Γ N mask ops r (k+1) n).sat Q:=by
   intro a t u;rw[cV,cV]at u;exact ca (λ_ f=>ca (λ_ z=>w a _ z) f) u
  simp only[yA,FM];rw[cV,cV];simp only[oV]at h;unfold gtr;split at h
  ·rename_i t b i p;simp only[p]
   have one:∀(c:Bool)(a:List (Nat×Bool)),b=c->((uZ P Γ N mask ops o k q (c==i)).bind (oV P Γ N mask ops a r (k+1))).sat Q->
    (Tr.ite (b==i) (wk P Γ N mask ops o k (dO q.1) (iq N mask k o (aW q.2))) (.leaf (.tup [],[]))).sat λg=>(if iQ N mask ops k o g.2 then Tr.leaf (fE q.1 o.dst g.1,nX q.2 g.2)else .stuck).sat λn=>(yA P Γ N mask ops r (k+1) n).sat Q:=by
    intro c a e f;subst e;refine⟨λj=>?_,λj=>?_⟩
    ·rw[j]at f;exact go a _ f
    ·rw[j]at f;exact go a _ f
   split at h
   ·obtain⟨e,f⟩:=h;exact one _ _ e f
   ·cases b
    ·exact one false _ rfl (h.2 rfl)
    ·exact one true _ rfl (h.1 rfl)
  ·rename_i p;simp only[p];split at h
   ·rename_i t b m
    have one:∀(c:Bool)(a:List (Nat×Bool)),b=c->((yB N mask ops o k q c).bind (oV P Γ N mask ops a r (k+1))).sat Q->
     (wk P Γ N mask ops o k (dO q.1) (iq N mask k o (aW q.2))).sat λg=>(if iQ N mask ops k o g.2 then Tr.leaf (fE q.1 o.dst g.1,nX q.2 g.2)else .stuck).sat λn=>(yA P Γ N mask ops r (k+1) n).sat Q:=by
     intro c a e f;subst e;unfold oU at m;split at m
     case h_2=>simp at m
     rename_i D x y s;split at m
     case h_2=>simp at m
     rename_i v A;simp at m;obtain⟨rfl,rfl⟩:=m
     have e:wk P Γ N mask ops o k (dO q.1) (iq N mask k o (aW q.2))= .ite v (.leaf (dO q.1 x,[])) (.leaf (dO q.1 y,[])):=by
      have C:DS P Γ o (dO q.1) (iq N mask k o (aW q.2)) (N+256*k) 256= .ite v (.leaf (dO q.1 x,[])) (.leaf (dO q.1 y,[])):=by
       simp only[DS,s,lK,dO,A,V.one?]
      rw[wk,C];rfl
     rw[e];simp only[yB,s]at f;have:=go a _ f;refine⟨λj=>?_,λj=>?_⟩
     ·rw[j]at this;exact this
     ·rw[j]at this;exact this
    split at h
    ·obtain⟨e,f⟩:=h;exact one _ _ e f
    ·cases b
     ·exact one false _ rfl (h.2 rfl)
     ·exact one true _ rfl (h.1 rfl)
   ·exact go a _ h
  ·rename_i p;simp only[p];exact go a _ h
  ·exact h.elim
theorem va(t:bX P Γ)(hL:cO Γ)(v:P.follows .mixedOrders=true){c:Bool}{σ:St}(f:fR R B σ ρ a z)
 (h:(Ko P Γ ops c σ).sat λσ'=>∀ρ' g w',eA ρ ρ'->fR R B σ' ρ' g w'->Q .normal g w'):(Code.region id ops c).wp P Q a z:=by
 unfold Ko at h;split at h
 ·rename_i m;subst m;split at h
  case isFalse=>exact h.elim
  rename_i n;rw[cV]at h;have u:=u4 (Q:=λs=>∀ρ' g w',eA ρ ρ'->wl R σ.next B ρ' g w' s (λj=>decide (j<ops.size))->Q .normal g w') ops.toList 0 (σ.slots,σ.heap) (λi=>bY) (Cf _ _ _ _ (ca (λq o ρ' g w' p b=>?_) h))
  ·have l:ops.toList.length=ops.size:=bY
   rw[l]at u;refine yx (N:=σ.next) (R:=R) (B:=B) (s:=⟨σ.slots,aW σ.heap⟩) t hL v n ⟨f.defers,f.slots,f.heap,f.mv,λk r x=>absurd (f.fresh k r) x,f.root,f.rn,f.len⟩ u ?_;intro ρ' a z y p o b;exact o ρ' a z p b
  ·refine o ρ' g w' p ⟨b.defers,b.slots,b.heap,b.mv,λk r=>?_,b.root,?_,b.len⟩
   ·by_cases e:ρ' k= .un
    ·exact e
    ·simp only at r;have:=b.fresh k ac e;simp at this;omega
   ·have:=f.rn;simp only;omega
 ·rename_i m;obtain rfl:c=false:=cf m
  refine wp_region ?_;rw[List.range_eq_range'];have:=Ce t (Q:=Q) ops.toList 0 σ ρ a z (λi=>bY) f h;simpa using this
end
end
section
structure ve where
 ps:List cx
 inv:cF ps->Prop
 mu:cF ps->Nat
 inn:cF ps->List (Nat×ve)
def EY:Nat->List (Option CP)->Nat->List (Nat×Option Nat)
 |0,_,_=>[]
 |_+1,[],_=>[]
 |n+1,none::l,i=>EY n l (i+1)
 |n+1,some _::l,i=>(i,some i)::EY n l (i+1)
def mO(R:Nat)(a:List (Nat×Option Nat)):Bool:=a.all λp=>decide (R<=p.1)||decide (p.2=some p.1)
def fL(R:Nat)(s:St)(ps:List cx):Nat->Nat->Option (cF ps)
 |0,_=>none
 |n+1,i=>match fit (aW s.heap) s.slots (du ps i) (EY R (du ps i).hp 0)with
  |some (v,a,_)=>if yb (du ps i).hp&&lQ (du ps i).hp.length a&&decide (R<=(du ps i).hp.length)&&mO R a then some ⟨i,(du ps i).put v⟩else fL R s ps n (i+1)
  |none=>fL R s ps n (i+1)
def sT(R:Nat)(s:St)(ps:List cx):Option (cF ps):=fL R s ps ps.length 0
def fF(ps:List cx)(n:Nat)(y:cF ps):St:=
 ⟨pR (du ps y.1) n ((du ps y.1).get y.2),HP.inst iG 0 (du ps y.1).hp ((du ps y.1).get y.2).2,(du ps y.1).hp.length⟩
theorem oW:∀(n:Nat)(l:List (Option CP))(i j:Nat)(k:Option Nat),aW (EY n l i) j=some k->k=some j/\i<=j
 |0,_,_,_,_,h=>by simp[EY,aW]at h
 |_+1,[],_,_,_,h=>by simp[EY,aW]at h
 |n+1,none::l,i,j,k,h=>by
  simp only[EY]at h;have:=oW n l (i+1) j k h;exact⟨this.1,ac⟩
 |n+1,some _::l,i,j,k,h=>by
  simp only[EY,aW]at h;split at h
  ·rename_i e;subst e;simp at h;exact⟨h.symm,aE _⟩
  ·have:=oW n l (i+1) j k h;exact⟨this.1,ac⟩
theorem rf(n:Nat)(l:List (Option CP))(i:Nat):(⟨EY n l i,[]⟩:Mt).Inj:=by
 intro j a k h b;have c:=(oW n l i j _ h).1;have e:=(oW n l i a _ b).1;simp at c e;omega
theorem vf{a:List (Nat×Option Nat)}(h:mO i a=true)(b:∀j,j<i->ρ j=ρ0 j\/ρ j= .un)(c:j<i):gI ⟨a,[]⟩ ρ j=ρ0 j\/gI ⟨a,[]⟩ ρ j= .un:=by
 unfold gI;cases e:aW a j with
 |none=>exact .inr rfl
 |some v=>
  unfold mO at h;rw[cH]at h;have:=h _ (iF e);simp only[jb,ai]at this;rcases this with q|q
  ·omega
  ·subst q;exact b j c
section
variable{R:Nat}{B:fw}
theorem kK{s:St}{ps:List cx}:∀{n i:Nat}{y:cF ps},fL R s ps n i=some y->∃v a u,fit (aW s.heap) s.slots (du ps y.1) (EY R (du ps y.1).hp 0)=some (v,a,u)/\yb (du ps y.1).hp=true/\lQ (du ps y.1).hp.length a=true/\R<=(du ps y.1).hp.length/\mO R a=true/\(du ps y.1).get y.2=v
 |0,_,_,h=>by simp[fL]at h
 |n+1,i,y,h=>by
  simp only[fL]at h;split at h
  case h_2=>exact kK h
  rename_i v a u c;split at h
  case isFalse=>exact kK h
  rename_i b;simp only[aK,ai]at b;simp at h;subst h;exact⟨v,a,u,c,b.1.1.1,b.1.1.2,b.1.2,b.2,cx.get_put⟩
theorem sV{σ:St}{ps:List cx}{y:cF ps}(c:fR R B σ ρ a w')(E:B.n=W)(h:sT R σ ps=some y):∃ρ',fR R B (fF ps W y) ρ' a w'/\∀b,b<w'.heap.size->qj ρ' (aW (fF ps W y).heap) b->qj ρ (aW σ.heap) b:=by
 obtain⟨v,j,u,G,m,H,J,o,f⟩:=kK h;obtain⟨l,rfl,p⟩:=Ap G;obtain⟨P,r,s⟩:=wg p;obtain⟨K,i,L⟩:=kJ (l:=l) c.heap (λ_ _ q=>q);have t:=F2.imp (λ_ _=>aT.evo i.evo (eA.refl ρ)) c.slots;obtain⟨M,D,Q,x,S⟩:=sp (F':=B.F) K L t r s rfl (rf R _ 0) m (λb e=> .inl e)
 have z:Mv B.ρ B.w B.h (gI ⟨j,[]⟩ ρ) w' (aW (HP.inst iG 0 (du ps y.1).hp v.2)):=by
  have:=c.mv.trans i;exact⟨this.os,this.tape,this.output,this.size,this.block,λb e N=>this.own b e (x b N)⟩
 refine⟨gI ⟨j,[]⟩ ρ,⟨c.defers.own (λb e q=>i.own b e (x b (by simp only[fF,f]at q;exact q))),?_,?_,?_,λk A=>?_,λk C=>?_,J,c.len⟩,λb e q=>i.own b e (x b (by simp only[fF,f]at q;exact q))⟩
 ·simp only[fF,f,pR];have g:a.tmps.toList.length=W:=by simpa using c.len.trans E
  rw[g]at D;exact D
 ·simp only[fF,f];exact M
 ·simp only[fF,f];exact z
 ·simp only[fF]at A;unfold gI;cases O:aW j k with
  |none=>rfl
  |some q=>exact absurd (jS H O) ac
 ·exact vf o c.root C
theorem jU{σ:St}{ps:List cx}{y:cF ps}(b:fR R B σ ρ a z)(c:B.n=i)(h:sT R σ ps=some y):∃ρ',fR R B (fF ps i y) ρ' a z:=
 let⟨ρ',e,_⟩:=sV b c h
 ⟨ρ',e⟩
end
def IP.allK{R:Type}:(p:IP)->((R->Prop)->Prop)->(p.denK R->Prop)->Prop
 | .d t,f,q=>∀x:t.den,f λr=>q (x,r)
 | .pv t,f,q=>∀x:t.den,f λr=>q (x,r)
 | .cut e,f,q=>∀x:List e.den,f λr=>q (x,r)
 | .k _,f,q=>f q
 | .ptr ..,f,q=>f q
 | .own _,f,q=>f q
 | .mp _,f,q=>f q
 | .ifc ..,f,q=>f q
 | .fn ..,f,q=>f q
 | .nils,f,q=>f q
 | .nilp,f,q=>f q
 | .nilm,f,q=>f q
 | .nili,f,q=>f q
 | .nilf,f,q=>f q
abbrev um{R:Type}(f:(R->Prop)->Prop):Prop:=∀k,f k->∀x,k x
theorem IP.allK_ok{p:IP}{f:(R->Prop)->Prop}(a:um f):um (p.allK f):=by
 intro q h x;cases p
 case d t=>exact a _ (h x.1) x.2
 case pv t=>exact a _ (h x.1) x.2
 case cut e=>exact a _ (h x.1) x.2
 all_goals exact a q h x
def LP.allK{R:Type}:(l:List IP)->((R->Prop)->Prop)->(LP.denK l R->Prop)->Prop
 |[],f,k=>f k
 |p::l,f,k=>p.allK (LP.allK l f) k
theorem LP.allK_ok{f:(R->Prop)->Prop}(a:um f):∀{l:List IP},um (LP.allK l f)
 |[]=>a
 |p::l=>IP.allK_ok (p:=p) (LP.allK_ok (l:=l) a)
def CP.allK{R:Type}:(c:CP)->((R->Prop)->Prop)->(c.denK R->Prop)->Prop
 | .cells l,f,k=>LP.allK l f k
 | .sl e,f,k=>∀x:List e.den,f λr=>k (x,r)
 | .mp a b,f,k=>∀x:List (a.den×b.den),f λr=>k (x,r)
 | .lk a b,f,k=>∀x:List (a.den×b.den),f λr=>k (x,r)
 | .sit,f,k=>∀(s:List (BitVec 8))(g:Nat),f λr=>k (s,g,r)
 | .mit _ a b,f,k=>∀(x:List (a.den×b.den))(z:Option (a.den×b.den)),f λr=>k (x,z,r)
 | .nit,f,k=>f k
 | .fit a b,f,k=>∀(x:List (a.den×b.den))(z:Option (a.den×b.den)),f λr=>k (x,z,r)
theorem CP.allK_ok{c:CP}{f:(R->Prop)->Prop}(a:um f):um (c.allK f):=by
 intro k h x;cases c
 case cells l=>exact LP.allK_ok a k h x
 case sl e=>exact a _ (h x.1) x.2
 case mp b g=>exact a _ (h x.1) x.2
 case lk b g=>exact a _ (h x.1) x.2
 case sit=>exact a _ (h x.1 x.2.1) x.2.2
 case mit m b g=>exact a _ (h x.1 x.2.1) x.2.2
 case nit=>exact a k h x
 case fit b g=>exact a _ (h x.1 x.2.1) x.2.2
def HP.allK{R:Type}:(l:List (Option CP))->((R->Prop)->Prop)->(HP.denK l R->Prop)->Prop
 |[],f,k=>f k
 |some c::l,f,k=>c.allK (HP.allK l f) k
 |none::l,f,k=>HP.allK l f k
theorem HP.allK_ok{f:(R->Prop)->Prop}(a:um f):∀{l:List (Option CP)},um (HP.allK l f)
 |[]=>a
 |some c::l=>CP.allK_ok (c:=c) (HP.allK_ok (l:=l) a)
 |none::l=>HP.allK_ok (l:=l) a
def SP.allK{R:Type}:(l:lL)->((R->Prop)->Prop)->(SP.denK l R->Prop)->Prop
 |[],f,k=>f k
 |p::l,f,k=>LP.allK p.2.2 (SP.allK l f) k
theorem SP.allK_ok{f:(R->Prop)->Prop}(a:um f):∀{l:lL},um (SP.allK l f)
 |[]=>a
 |p::l=>LP.allK_ok (l:=p.2.2) (SP.allK_ok (l:=l) a)
def cx.All(p:cx)(k:p.den->Prop):Prop:=SP.allK p.sl (HP.allK p.hp λk=>k ()) k
theorem cx.All_ok{p:cx}{k:p.den->Prop}(h:p.All k)(x:p.den):k x:=SP.allK_ok (HP.allK_ok (λ_ h _=>h)) k h x
def kL(ps:List cx)(k:cF ps->Prop):Nat->Nat->Prop
 |0,_=>True
 |1,i=>(du ps i).All λx=>k ⟨i,x⟩
 |n+2,i=>((du ps i).All λx=>k ⟨i,x⟩)/\kL ps k (n+1) (i+1)
theorem gR{ps:List cx}{k:cF ps->Prop}:∀{n i:Nat},kL ps k n i->∀y:cF ps,i<=y.1->y.1<i+n->k y
 |0,_,_,y,a,b=>ac
 |1,i,h,⟨j,x⟩,a,b=>by
  simp only at a b;obtain rfl:j=i:=ac
  exact cx.All_ok (k:=λx=>k ⟨j,x⟩) h x
 |n+2,i,h,⟨j,x⟩,a,b=>by
  by_cases e:j=i
  ·subst e;exact cx.All_ok (k:=λx=>k ⟨j,x⟩) h.1 x
  ·exact gR h.2 ⟨j,x⟩ (by simp only at a⊢;omega) (by simp only at b⊢;omega)
theorem dM{R:Nat}{s:St}{ps:List cx}:∀{n i:Nat}{y:cF ps},fL R s ps n i=some y->i<=y.1/\y.1<i+n
 |0,_,_,h=>by simp[fL]at h
 |n+1,i,y,h=>by
  simp only[fL]at h;split at h
  ·split at h
   ·simp at h;subst h;simp
   ·have:=dM h;omega
  ·have:=dM h;omega
inductive Is (p:Prop):Prop where
 |mk (h:p)
theorem Is.out(h:Is p):p:=h.1
def fS(R:Nat)(c:ve)(s:St)(p:cF c.ps->Prop):Prop:=match sT R s c.ps with
 |some y=>Is (p y)
 |none=>False
theorem gl{c:ve}{s:St}{p:cF c.ps->Prop}(h:fS i c s p):∃y,sT i s c.ps=some y/\p y:=by
 unfold fS at h;split at h
 ·rename_i y a;exact⟨y,a,h.1⟩
 ·exact h.elim
end
section
structure eH where
 loops:List (Nat×ve)
 joins:List (Nat×ve)
 jumps:List (Nat×Nat×ve)
 splits:List (Nat×Nat×Nat)
 unroll:Nat
def ik:Code->Option Nat
 | .region id _ _=>some id
 | .seq x y=>match ik x with
   |some i=>some i
   |none=>ik y
 | .cond _ x y=>match ik x with
   |some i=>some i
   |none=>ik y
 | .block _ c=>ik c
 | .loop c=>ik c
 | .scope c=>ik c
 |_=>none
def vg{β:Type}(l:List (Nat×β)):Option Nat->Option β
 |none=>none
 |some k=>go l k
where go:List (Nat×β)->Nat->Option β
 |[],_=>none
 |p::r,j=>if p.1=j then some p.2 else go r j
abbrev Kn:=Exit->St->Prop
def gb(next:St->Prop)(Q:Kn):Kn
 | .normal,s=>next s
 |e,s=>Q e s
def qC(id:Nat)(Q:Kn):Kn
 | .exit a,s=>if a=id then Q .normal s else Q (.exit a) s
 |e,s=>Q e s
def Kp(Q:Kn):Kn
 | .goto _,_=>False
 |e,s=>Q e s
def ld(l:Nat)(J:St->Prop)(Q:Kn):Kn
 | .goto a,s=>if a=l then J s else False
 |e,s=>Q e s
def Cg:Nat->(St->Kn->Prop)->St->Kn->Prop
 |0,_,_,_=>False
 |n+1,f,s,Q=>f s (gb (λa=>Cg n f a Q) Q)
def AA(x:Int)(f:Nat->Prop):Nat->Prop
 |0=>True
 |m+1=>AA x f m/\(x=(m:Int)->f m)
def lW(s:St)(c:Operand)(b:Bool):St:=match c with
 | .tmp t=>qB s t b
 |_=>s
def T7(s:St)(t q:Nat):St:=⟨s.slots.set t (sc (.k (.i64 q))),s.heap,s.next⟩
def gW(ro:Option Nat):Fence:={Fence.wide with round:=ro}
def pU(o:Oper):Bool:=match o.op with
 | .defer _=>false
 |_=>true
theorem FN{m m':Machine}(h:Steps P m m'):StepsIn (Machine.fenced P (gW ro)) P m m':=(stepsIn_wide.2 h:StepsIn (Machine.fenced P Fence.wide) P m m')
theorem sW{args:Array Value}{R:Ending->World->Prop}(h:Calls P f args e R):CallsIn (gW ro) i P f args e R:=
 (callsIn_wide.2 h:CallsIn Fence.wide i P f args e R)
theorem sX:(gW ro).depth.isSome=true->1<=i:=λq=>by cases q
theorem T8(b:pU o=true)(h:o.wp P a z K Q):o.wpIn (gW ro) j P a z K Q:=by
 refine⟨λ_ _=>trivial,?_⟩;have e:o.semAt (gW ro).round a.eval=execOp a.eval o:=Oper.semAt_eq _ _ _ (λc g=>by unfold pU at b;rw[g]at b;cases b);rw[e];unfold Oper.wp at h;generalize(execOp a.eval o).run P z=r at*;cases r with
 |ok x f=>
  cases x<;>simp only[Oper.upon,Oper.uponIn]at h⊢<;>first
   |exact h
   |exact⟨sX,sW h⟩
   |exact⟨sX,λc i _=>let⟨v,f,r,s⟩:=h c i;⟨v,f,r,FN s⟩⟩
 |halt x f=>cases x<;>simp only[Oper.upon,Oper.uponIn]at h⊢<;>exact h
section
variable{P:Program}{Γ:bG}{R:Nat}{B:fw}{ops:Array Oper}
theorem rg(C:bX P Γ){ro:Option Nat}{n:Nat}{Q:Exit->Act->World->Prop}{rest:List Nat}:∀(l:List Oper)(k:Nat)(σ:St)(ρ:Nat->Pl)(a:Act)(w:World),(∀o∈l,pU o=true)->(∀i o,l[i]?=some o->ops[k+i]?=some o)->fR R B σ ρ a w->
 ((jx P Γ ops l σ).sat λσ'=>∀ρ' e w',eA ρ ρ'->fR R B σ' ρ' e w'->wpOpsIn (gW ro) n P ops Q rest e w')->wpOpsIn (gW ro) n P ops Q (mG k l.length++rest) a w
 |[],k,σ,ρ,a,w,_,_,c,h=>h ρ a w (eA.refl ρ) c
 |o::r,k,σ,ρ,a,w,D,E,c,h=>by
  have G:ops[k]?=some o:=by simpa using E 0 o rfl
  have u:∀i x,r[i]?=some x->ops[k+1+i]?=some x:=λi x m=>by have:=E (i+1) x (cf m);rwa [fq i 1,<-fv]at this
  have v:=D o (aF ..);have F:=λσ ρ a w=>rg C (Q:=Q) (rest:=rest) (ro:=ro) (n:=n) r (k+1) σ ρ a w (λx m=>D x (aD _ m)) u;obtain⟨H,y,J⟩:=nY (ops:=ops) (o:=o) c.slots;rw[bc,List.range'_succ,List.cons_append,wpOpsIn_cons];unfold wpOpIn;simp only[G]
  have yes:∀(σ1:St),fR R B σ1 ρ a w->(((oT P Γ o σ1).bind (jx P Γ ops r)).sat λσ'=>∀ρ' e w',eA ρ ρ'->fR R B σ' ρ' e w'->wpOpsIn (gW ro) n P ops Q rest e w')->o.wpIn (gW ro) n P a w (wpOpsIn (gW ro) n P ops Q (mG (k+1) r.length++rest)) Q:=by
   intro σ1 g s;rw[cV]at s;refine T8 v (yC C g (ca ?_ s));intro σ' K ρ' e w' m z;exact F σ' ρ' e w' z (ca (λ_ L ρ2 M y A=>L ρ2 M y (m.trans A)) K)
  have no:∀(σ1:St),fR R B σ1 ρ a w->((jx P Γ ops r (uX o σ1)).sat λσ'=>∀ρ' e w',eA ρ ρ'->fR R B σ' ρ' e w'->wpOpsIn (gW ro) n P ops Q rest e w')->wpOpsIn (gW ro) n P ops Q (mG (k+1) r.length++rest) (a.put o.dst undef) w:=
   λσ1 g s=>F _ _ _ _ g.skip s
  simp only[jx]at h;split at h
  ·rename_i p;rw[ak (H p)];split at h
   ·rename_i t b N;have j:=sR c N;cases b
    ·exact yes _ (c.know j) (h.2 rfl)
    ·exact yes _ (c.know j) (h.1 rfl)
   ·exact yes σ c h
  ·rename_i p;rw[ae (by rw[y p];simp)];exact⟨λ_ _=>trivial,no σ c h⟩
  ·rename_i t b f p;obtain⟨O,_,j⟩:=J _ _ _ p;rw[O];cases b
   ·have q:=h.2 rfl;cases f
    ·exact yes _ (c.know j) q
    ·exact⟨λ_ _=>trivial,no _ (c.know j) q⟩
   ·have q:=h.1 rfl;cases f
    ·exact⟨λ_ _=>trivial,no _ (c.know j) q⟩
    ·exact yes _ (c.know j) q
  ·exact h.elim
end
section
variable(P:Program)(Γ:bG)
def FO:Code->St->Kn->Prop
 | .skip,s,Q=>Q .normal s
 | .region _ ops a,s,Q=>(a=false/\ops.toList.all pU=true)/\(jx P Γ ops ops.toList s).sat (Q .normal)
 | .seq x y,s,Q=>FO x s (gb (λe=>FO y e Q) Q)
 | .cond c x y,s,Q=>match dO s.slots c with
   | .val false [.k (.bool true)]=>FO x s Q
   | .val false [.k (.bool false)]=>FO y s Q
   | .val false [.d .bl b]=>(b=true->FO x (lW s c true) Q)/\(b=false->FO y (lW s c false) Q)
   |_=>False
 | .block id c,s,Q=>FO c s (qC id Q)
 | .exit id,s,Q=>Q (.exit id) s
 | .ret,s,Q=>Q .ret s
 |_,_,_=>False
end
def TR(P:Program)(R:Nat)(B:fw)(ro:Option Nat)(c:Code)(σ:St)(Q:Kn):Prop:=
 ∀(n:Nat)(ρ:Nat->Pl)(a:Act)(w:World),fR R B σ ρ a w->c.wpIn (gW ro) n P (λe b f=>∃σ' ρ',Q e σ'/\eA ρ ρ'/\fR R B σ' ρ' b f) a w
theorem yD{P:Program}{B:fw}{σ:St}(i:fR j B σ ρ a z){c:Operand}:
 (∀b,dO σ.slots c= .val false [.k (.bool b)]->a.eval c= .bool b)/\(∀b,dO σ.slots c= .val false [.d .bl b]->a.eval c= .bool b/\fR j B (lW σ c b) ρ a z):=by
 have h:=fW i.slots c;refine⟨λb e=>?_,λb e=>?_⟩
 ·rw[e]at h;have:=aM.1 h;simp[bh]at this;exact this
 ·rw[e]at h;have f:=aM.1 h;simp[bh,Rd]at f;refine⟨f,?_⟩;unfold lW;split
  ·rename_i t;refine i.know ?_;simp only[Act.eval]at f
   have:t<a.tmps.size:=by
    rcases br t a.tmps.size with g|g
    ·exact g
    ·rw[Array.getD_eq_getD_getElem?,Array.getElem?_eq_none g]at f;simp[undef]at f
   rw[Array.getD_eq_getD_getElem?,Array.getElem?_eq_getElem this]at f;rw[Array.getElem?_eq_getElem this];simpa using f
  ·exact i
theorem FP{B:fw}(C:bX P Γ):∀(c:Code)(σ:St)(Q:Kn),FO P Γ c σ Q->TR P W B ro c σ Q:=by
 intro c
 induction c with
 |skip=>exact λσ Q h n ρ a w f=>wpIn_skip ⟨σ,ρ,h,eA.refl ρ,f⟩
 |exit id=>exact λσ Q h n ρ a w f=>wpIn_exit ⟨σ,ρ,h,eA.refl ρ,f⟩
 |ret=>exact λσ Q h n ρ a w f=>wpIn_ret ⟨σ,ρ,h,eA.refl ρ,f⟩
 |region id ops v=>
  intro σ Q h n ρ a w f;obtain⟨⟨D,E⟩,F⟩:=h;subst D;refine wpIn_region ?_;rw[List.range_eq_range'];have:=rg C (ro:=ro) (n:=n) (rest:=[]) (Q:=λe m p=>∃σ' ρ',Q e σ'/\eA ρ ρ'/\fR W B σ' ρ' m p) ops.toList 0 σ ρ a w (λo G=>cH.1 E o G) (λi o H=>cf H) f (ca (λσ' q ρ' m p l s=>⟨σ',ρ',q,l,s⟩) F);simpa using this
 |seq x y g j=>
  intro σ Q h n ρ a w f;refine wpIn_seq (wpIn_mono (g _ _ h n ρ a w f) ?_);rintro e m p ⟨σ',ρ',q,l,r⟩;cases e with
  |normal=>exact wpIn_mono (j _ _ q n ρ' m p r) (λe J K⟨σ2,ρ2,L,t,M⟩=>⟨σ2,ρ2,L,l.trans t,M⟩)
  |_=>exact⟨σ',ρ',q,l,r⟩
 |cond c x y g j=>
  intro σ Q h n ρ a w f;have u:=yD (P:=P) f (c:=c);simp only[FO]at h;split at h
  ·rename_i e;exact wpIn_cond_true (u.1 _ e) (g _ _ h n ρ a w f)
  ·rename_i e;exact wpIn_cond_false (u.1 _ e) (j _ _ h n ρ a w f)
  ·rename_i b e;obtain⟨z,A⟩:=u.2 b e;cases b with
   |true=>exact wpIn_cond_true z (g _ _ (h.1 rfl) n ρ a w A)
   |false=>exact wpIn_cond_false z (j _ _ (h.2 rfl) n ρ a w A)
  ·exact h.elim
 |block id c N=>
  intro σ Q h n ρ a w f;refine wpIn_block (wpIn_mono (N _ _ h n ρ a w f) ?_);rintro e m p ⟨σ',ρ',q,l,r⟩;cases e with
  |exit O=>
   simp only[Exit.inBlock];simp only[qC]at q;split
   ·rename_i e;rw[ak e]at q;exact⟨σ',ρ',q,l,r⟩
   ·rename_i e;rw[ae e]at q;exact⟨σ',ρ',q,l,r⟩
  |_=>exact⟨σ',ρ',q,l,r⟩
 |_=>intro σ Q h;exact h.elim
end
section
theorem F2.split{R:α->β->Prop}:∀{m1:List β}{l:List α}{m2:List β},F2 R l (m1++m2)->F2 R (l.take m1.length) m1/\F2 R (l.drop m1.length) m2
 |[],_,_,h=>⟨trivial,h⟩
 |b::m1,[],_,h=>h.elim
 |b::m1,a::l,m2,⟨c,h⟩=>let⟨e,f⟩:=F2.split (m1:=m1) h;⟨⟨c,e⟩,f⟩
structure EZ(l:Nat)(ρ:Nat->Pl)(w:World)(h:Nat->Option Ch)(ρ':Nat->Pl)(w':World)(h':Nat->Option Ch):Prop where
 os:w'.os=w.os
 tape:w'.tape=w.tape
 output:w'.output=w.output
 size:w.heap.size<=w'.heap.size
 block:∀b,b<w.heap.size->b≠l->¬qj ρ h b->w'.heap[b]?=w.heap[b]?
 own:∀b,b<w.heap.size->qj ρ' h' b->qj ρ h b
theorem Mv.toL(a:Mv ρ e C ρ' w' h'):EZ i ρ e C ρ' w' h':=⟨a.os,a.tape,a.output,a.size,λb c _=>a.block b c,a.own⟩
theorem EZ.trans(a:EZ N ρ z C ρ' w' h')(b:EZ N ρ' w' h' ρ'' e U):EZ N ρ z C ρ'' e U:=
 ⟨b.os.trans a.os,b.tape.trans a.tape,b.output.trans a.output,bE a.size b.size,
  λi c j g=>(b.block i (bw c a.size) j (λq=>g (a.own i c q))).trans (a.block i c j g),
  λi c g=>a.own i c (b.own i (bw c a.size) g)⟩
theorem Mv.transL(a:Mv ρ z C ρ' w' h')(b:EZ N ρ' w' h' ρ'' e U)(j:z.heap.size<=N):Mv ρ z C ρ'' e U:=
 ⟨b.os.trans a.os,b.tape.trans a.tape,b.output.trans a.output,bE a.size b.size,
  λi c g=>(b.block i (bw c a.size) ac (λq=>g (a.own i c q))).trans (a.block i c g),
  λi c g=>a.own i c (b.own i (bw c a.size) g)⟩
theorem EZ.evo{F:Nat->Prop}(a:EZ N ρ z C ρ' w' h')(j:∀o,z.heap[N]?=some o->PE o=false):qK z (Av F ρ C) w' (Av F ρ' h'):=
 ⟨a.size,λb c f o g i=>(a.block b c (λe=>by subst e;rw[j o g]at i;cases i) (λq=>f (.inr q))).trans g,λb c f=>f.imp id (a.own b c)⟩
theorem dN.put{l:Nat}(o':Obj)(hh:dN A ρ w' C)(r:∀o,w'.heap[l]?=some o->PE o=false)(s:¬qj ρ C l):
 dN A ρ (w'.putObj l o') C/\EZ l ρ w' C ρ (w'.putObj l o') C:=by
 have p:EZ l ρ w' C ρ (w'.putObj l o') C:=⟨rfl,rfl,rfl,by rw[World.putObj_size];exact aE _,λb _ f _=>World.putObj_heap_other f,λ_ _ q=>q⟩;refine⟨⟨λk c j=>(hh.ok k c j).evo (p.evo r) (eA.refl ρ) (λb f=>World.putObj_heap_other ?_),hh.inj,λk c b t u v=>by rw[World.putObj_size];exact hh.fr k c b t u v,hh.it,λb f=>by rw[World.putObj_size];exact hh.gs b f⟩,p⟩;intro e;subst e;refine s ?_;cases c with
 |fr=>exact f.elim
 |fc=>exact f.elim
 |fm=>exact f.elim
 |mit m x y g i=>
  rcases f with f|f
  ·exact⟨k,_,j,rfl,f⟩
  ·obtain⟨z,n⟩:=hh.it k m x y g i j;exact⟨m,_,n,rfl,f⟩
 |_=>exact⟨k,_,j,rfl,f⟩
structure It where
 l:Nat
 D:Nat
 fn:FuncId
 tmps:Array Value
 ps:Array Tmp
 asg:Code
 body:Code
 n:Nat
 ds:List Deferred
def FQ:Nat->Code
 |0=> .ret
 |k+1=> .exit k
def It.rcd(J:It)(m:Nat):Loop:={state:=if m=0 then .ready else .done,pending:=if m=0 then none else some (FQ (m-1)),fn:=J.fn,tmps:=J.tmps,params:=J.ps,assign:=J.asg,body:=J.body,defers:=J.D}
def It.act(J:It)(a:Act)(m:Nat):Act:={tmps:=a.tmps++(J.tmps.push (.func (.yield J.l) #[] #[])).push (.int .i64 (m:Int)),defers:=J.ds}
structure jy(R:Nat)(B:fw)(J:It)(σ:St)(ρ:Nat->Pl)(a:Act)(w:World)(m:Nat):Prop where
 rel:fR R B σ ρ (J.act a m) w
 df:a.defers=[]
 sz:a.tmps.size=J.n
 rc:w.heap[J.l]?=some (.loop (J.rcd m))
 ge:B.w.heap.size<=J.l
 no:¬qj ρ (aW σ.heap) J.l
theorem jy.lt{B:fw}{J:It}{σ:St}(h:jy i B J σ ρ a e j):J.l<e.heap.size:=(eX.1 h.rc).1
theorem It.act_list(J:It)(a:Act)(m:Nat):(J.act a m).tmps.toList=a.tmps.toList++((J.tmps.toList++[.func (.yield J.l) #[] #[]])++[.int .i64 (m:Int)]):=by simp[It.act]
abbrev T9(B:fw)(J:It)(σ:St)(ρ:Nat->Pl)(w:World):fw:=⟨B.F,ρ,w,aW σ.heap,J.n,false⟩
section
variable{P:Program}{Γ:bG}{R:Nat}{B:fw}{J:It}{σ:St}{ρ ρ':Nat->Pl}{a a':Act}{w w':World}{m:Nat}
theorem jy.sl(b:jy R B J σ ρ a w m):F2 (aT w (Av B.F ρ (aW σ.heap)) ρ) (σ.slots.take J.n) a.tmps.toList/\F2 (aT w (Av B.F ρ (aW σ.heap)) ρ) (σ.slots.drop J.n) ((J.tmps.toList++[.func (.yield J.l) #[] #[]])++[.int .i64 (m:Int)]):=by
 have h:=b.rel.slots;rw[It.act_list]at h;have c:=F2.split h;have e:a.tmps.toList.length=J.n:=by simpa using b.sz
 rw[e]at c;exact c
theorem jy.sub(b:jy R B J σ ρ a w m):fR σ.next (T9 B J σ ρ w) ⟨σ.slots.take J.n,σ.heap,σ.next⟩ ρ a w:=
 ⟨.nil b.df,b.sl.1,b.rel.heap,Mv.refl _ _ _,b.rel.fresh,λ_ _=> .inl rfl,aE _,b.sz⟩
theorem sY(a:Act)(J:It)(m:Nat):(J.act a m).tmps.size=a.tmps.size+(J.tmps.size+2):=by simp[It.act]
theorem vh{R n:Nat}{B:fw}{ρ ρ':Nat->Pl}(h:∀k,k<R->ρ k=B.ρ k\/ρ k= .un)(h':∀k,k<n->ρ' k=ρ k\/ρ' k= .un)(c:R<=n):∀k,k<R->ρ' k=B.ρ k\/ρ' k= .un:=by
 intro k b;rcases h' k ac with e|e
 ·rw[e];exact h k b
 ·exact .inr e
theorem jy.back{s:St}(c:jy R B J σ ρ a w m)(f:eA ρ ρ')(b:fR σ.next (T9 B J σ ρ w) s ρ' a' w'):jy R B J ⟨s.slots++σ.slots.drop J.n,s.heap,s.next⟩ ρ' a' w' m:=by
 have g:a'.defers=[]:=b.defers.no rfl;refine⟨⟨?_,?_,b.heap,c.rel.mv.trans b.mv,b.fresh,vh c.rel.root b.root c.rel.rn,bE c.rel.rn b.rn,?_⟩,g,b.len,?_,c.ge,?_⟩
 ·exact c.rel.defers.mv b.mv
 ·rw[It.act_list];exact F2.append b.slots (F2.imp (λ_ _=>aT.evo b.mv.evo f) c.sl.2)
 ·have e:=c.rel.len;rw[sY]at e⊢;have h:a'.tmps.size=J.n:=b.len;rw[h,<-c.sz];exact e
 ·exact(b.mv.block J.l c.lt c.no).trans c.rc
 ·exact λq=>c.no (b.mv.own J.l c.lt q)
end
def TI(P:Program)(R:Nat)(B:fw)(J:It)(c:Code)(σ:St)(Q:Kn):Prop:=
 ∀(ρ:Nat->Pl)(a:Act)(w:World)(m:Nat),jy R B J σ ρ a w m->c.wp P (λe a' w'=>∃σ' ρ' b,Q e σ'/\jy R B J σ' ρ' a' w' b) a w
section
variable{P:Program}{Γ:bG}{R:Nat}{B:fw}{J:It}{Q:Kn}{σ:St}
theorem TI.region(f:bX P Γ)(hL:cO Γ)(g:P.follows .mixedOrders=true)
 (h:(Ko P Γ ops b ⟨σ.slots.take J.n,σ.heap,σ.next⟩).sat λs=>Q .normal ⟨s.slots++σ.slots.drop J.n,s.heap,s.next⟩):TI P R B J (.region id ops b) σ Q:=
 λ_ _ _ m e=>va f hL g e.sub (ca (λ_ q ρ' _ _ i c=>⟨_,ρ',m,q,e.back i c⟩) h)
end
def pV:List Oper->Option (List Oper×Oper×Operand×Array Operand×List Oper)
 |[]=>none
 |o::r=>match o.op with
  | .call ⟨.value f,args,_⟩=>some ([],o,f,args,r)
  |_=>match pV r with
   |some (x,y)=>some (o::x,y)
   |none=>none
theorem vi:∀{l:List Oper}{x r:List Oper}{o:Oper}{f:Operand}{args:Array Operand},pV l=some (x,o,f,args,r)->l=x++o::r/\∃ty,o.op= .call ⟨.value f,args,ty⟩
 |[],_,_,_,_,_,h=>by simp[pV]at h
 |p::l,x,r,o,f,args,h=>by
  simp only[pV]at h;split at h
  ·rename_i j b ty c;simp at h;obtain⟨rfl,rfl,rfl,rfl,rfl⟩:=h;exact⟨rfl,ty,c⟩
  ·split at h
   ·rename_i n q e;simp at h;obtain⟨rfl,rfl⟩:=h;obtain⟨g,i⟩:=vi e;exact⟨by rw[g];rfl,i⟩
   ·simp at h
def Ci:List V->List (Tmp×V)->List V
 |s,[]=>s
 |s,p::r=>Ci (s.set p.1 p.2) r
def vcY(P:Program)(Γ:bG)(n:Nat)(ps:Array Tmp)(h c:Code)(ops:Array Oper)(x:List Oper)(o:Oper)(f:Operand)(args:Array Operand)(r:List Oper)(σ:St)(Q:Kn):Prop:=
 (ops.toList.all pU=true/\o.guard=none/\args.size=ps.size)/\
 (jx P Γ ops x ⟨σ.slots.take n,σ.heap,σ.next⟩).sat λg=>match dO g.slots f,(σ.slots.drop n).getLast?,(σ.slots.drop n).dropLast.getLast? with
  | .val false [.d .yl l],some (.val false [.k (.i64 0)]),some (.val false [.d .yl p])=>l=p/\
    FO P Γ h ⟨Ci (σ.slots.drop n).dropLast.dropLast (ps.toList.zip (args.toList.map (dO g.slots))),g.heap,g.next⟩ λe s=>match e with
     | .normal=>FO P Γ c s λe j=>
       let fin (b:Bool) (m:Nat):Prop:=(jx P Γ ops r ⟨fE g.slots o.dst (.val false [.k (.bool b)]),j.heap,j.next⟩).sat λi=>Q .normal ⟨i.slots++((σ.slots.drop n).dropLast++[.val false [.k (.i64 (m:Int))]]),i.heap,i.next⟩
       match e with
       | .normal=>fin true 0
       | .ret=>fin false 1
       | .exit id=>fin false (id+2)
       |_=>False
     |_=>False
  |_,_,_=>False
end
end Go.Hv
