/- A part of the proof of TopAuthenticSaid: no conditions; packed by a program of our own. -/
import Derived.Test.YtgpideichgnmhaaGreatPaae
import Derived.ScopeJumps
import Derived.Scope
import Derived.RangeFuncIn
import Derived.RangeFuncLeaves
import Derived.RangeFuncCalls
import Derived.RangeFuncRecord
import Derived.OrdersIn
import Derived.ProofKit
import Derived.OpenShut
import Derived.SizedLaws
import Derived.Carry
open Array renaming getElem?_eq_some_iff→dX
open BitVec renaming ofNat→af
open Bool renaming and_eq_true→aF,or_eq_true→ig
open Go.Instr renaming sureAddr→rT
open Go.Result renaming ok→nN,andThen_ok→aW
open Go.Sem renaming run_pure→bt,run_bind→bE
open Go.World renaming size_alloc→dR
open Int renaming toNat_natCast→aG,eq_ofNat_of_zero_le→cq
open List renaming map_cons→aX,replicate→ak,length_append→aa,length_cons→bd,take_of_length_le→ba,append_nil→bj,mem_cons→br,getElem?_eq_getElem→ap,getD→bv,getElem?_append_left→cH,getElem?_append_right→bB,drop_drop→jf,take_append_drop→dC,length→ac,getD_eq_getElem?_getD→az,length_nil→cX,range'→pn,mem_cons_self→aM,mem_cons_of_mem→aE,all_eq_true→cM,nodup_cons→lK,getElem?_eq_some_iff→dd,mem_append_left→cG,mem_singleton→cg,length_drop→cD
open Nat renaming lt_of_lt_of_le→bq,add_comm→fj,le_refl→aC,le_trans→bA,zero_add→bK,add_assoc→eA,lt_or_ge→bN
open Option renaming map_eq_some_iff→lJ,isSome_iff_exists→cE,getD_some→cZ
namespace Go.Hv
open Go.RowKit
section
section
variable(P:Program)(Γ:bu)
def nn(o:Oper)(s:St):Tr St:=(Cv P Γ o (dp s.slots) (aV s.heap) s.next 256).bind λq=> .leaf ⟨eM s.slots o.dst q.1,mo s.heap q.2,s.next+256⟩
def tA(o:Oper)(s:St):St:=⟨eM s.slots o.dst (.tup []),s.heap,s.next⟩
def o8(s:St)(t:Nat)(b:Bool):St:=⟨s.slots.set t (sc (.k (.bool b))),s.heap,s.next⟩
def np(slots:List V)(o:Oper):Option (Nat×Bool):=match o.op with
 | .pick (.tmp t) _ _=>match slots.getD t (.tup [])with
   | .val false [.d .bl b]=>some (t,b)
   |_=>none
 |_=>none
def iI(ops:Array Oper):List Oper→St→Tr St
 |[],s=> .leaf s
 |o::r,s=>match gi ops s.slots o with
  | .yes=>match np s.slots o with
    |some (t,b)=> .ite b ((nn P Γ o (o8 s t true)).bind (iI ops r)) ((nn P Γ o (o8 s t false)).bind (iI ops r))
    |none=>(nn P Γ o s).bind (iI ops r)
  | .no=>iI ops r (tA o s)
  | .ask t b a=> .ite b (if true==a then(nn P Γ o (o8 s t true)).bind (iI ops r)else iI ops r (tA o (o8 s t true)))
   (if false==a then(nn P Γ o (o8 s t false)).bind (iI ops r)else iI ops r (tA o (o8 s t false)))
  | .bad=> .stuck
def Wl(l:List Oper)(t:Nat):Option Oper:=l.find? λo=>match o.dst with
 |some d=>d==t
 |none=>false
def tC:Tr (V×dH)→List V
 | .leaf q=>[q.1]
 | .need _ x=>tC x
 | .ite _ x y=>tC x++tC y
 |_=>[]
def RI:V→List I
 | .val _ l=>l
 |_=>[]
def Wm:V→Bool
 | .val _ [.own _]=>true
 | .val _ [.ptr ..]=>true
 | .val _ [.mp _]=>true
 |_=>false
def D0(b:Bool)(l:List Oper)(slots:List V)(a:Nat→Option Ch):Nat→Operand→List V
 |0,_=>[]
 |n+1, .tmp t=>match(if b&&Wm (slots.getD t (.tup []))then none else Wl l t)with
  |none=>[slots.getD t (.tup [])]
  |some o=>match o.op with
   | .move x=>D0 b l slots a n x
   | .assign x=>D0 b l slots a n x
   | .nilCheck x=>D0 b l slots a n x
   | .fieldAddr t x f=>(D0 b l slots a n x).filterMap λv=>gU P t v f
   | .indexAddr t x i=>(D0 b l slots a n x).flatMap λv=>match D0 b l slots a n i with
     |[]=>tC (fq P t v (sc (.d .i64 0)) a)
     |u::r=>(u::r).flatMap λu=>tC (fq P t v u a)
   | .load t x=>(D0 b l slots a n x).filterMap λv=>wd P t v a
   | .makeInterface t x=>(D0 b l slots a n x).filterMap λv=>jp P t v
   | .slice t x none none none=>(D0 b l slots a n x).flatMap λv=>tC (jn P t v none none none a 0)
   | .build _ c=>[.val true (c.toList.flatMap λp=>(D0 b l slots a n p.2).flatMap RI)]
   |_=>[]
 |_,x=>[dp slots x]
end
def a22:I→List Nat
 | .own k=>[k]
 | .sub k .. =>[k]
 | .ptr k _=>[k]
 | .pes k .. =>[k]
 | .mp k=>[k]
 | .fn _ a b=>a.map (·.1)++b.map (·.1)
 | .ifc _ k _=>[k]
 | .mth _ _ k _=>[k]
 |_=>[]
def KH:List I→List Nat
 |[]=>[]
 |i::r=>a22 i++KH r
def Wn:V→List Nat
 | .val _ l=>KH l
 |_=>[]
def wZ(a:Nat→Option Ch):Nat→List Nat→List Nat→List Nat
 |0,_,seen=>seen
 |_,[],seen=>seen
 |n+1,k::r,seen=>if seen.contains k then wZ a n r seen else match a k with
  |some (.cells l)=>wZ a n (KH l++r) (k::seen)
  |some (.fc l)=>wZ a n (KH l++r) (k::seen)
  |_=>wZ a n r (k::seen)
def RJ(P:Program)(ops:Array Oper)(slots:List V)(a:Nat→Option Ch)(i:Nat):List Nat:=
 match ops[i]? with
 |some o=>
  let d:=o.op.operands.toList.flatMap λx=>(D0 P false ops.toList slots a 12 x).flatMap Wn++(D0 P true ops.toList slots a 12 x).flatMap Wn
  match o.op with
  | .call c=>match c.callee with
    | .builtin _=>d
    |_=>wZ a 600 d []
  |_=>d
 |none=>[]
section
variable(P:Program)(Γ:bu)(N:Nat)(mask:Nat→x9)(ops:Array Oper)
def EN(o:Oper)(i:Nat)(q:List V×eX):Tr (List V×eX):=
 (gtr P Γ N mask ops o i q.1 (gC N mask i o (aV q.2))).bind λr=>if gY N mask ops i o r.2 then .leaf (eM q.1 o.dst r.1,mo q.2 r.2)else .stuck
def w6:List Oper→Nat→List V×eX→Tr (List V×eX)
 |[],_,q=> .leaf q
 |o::r,k,q=>(EN P Γ N mask ops o k q).bind (w6 r (k+1))
def tD(o:Oper)(i:Nat)(q:List V×eX)(yes:Bool):Tr (List V×eX):=
 (if yes then uO P Γ N mask ops o i (dp q.1) (gC N mask i o (aV q.2))else .leaf (.tup [],[])).bind λr=>if gY N mask ops i o r.2 then .leaf (eM q.1 o.dst r.1,mo q.2 r.2)else .stuck
def w7(o:Oper)(i:Nat)(q:List V×eX)(c:Bool):Tr (List V×eX):=match o.op with
 | .pick _ x y=>(Tr.leaf (if c then dp q.1 x else dp q.1 y,[])).bind λr=>if gY N mask ops i o r.2 then .leaf (eM q.1 o.dst r.1,mo q.2 r.2)else .stuck
 |_=> .stuck
def nq:List (Nat×Bool)→List Oper→Nat→List V×eX→Tr (List V×eX)
 |_,[],_,q=> .leaf q
 |e,o::r,k,q=>match gi ops q.1 o with
  | .ask t b a=>match e.lookup t with
    |some c=> .need (b=c) ((tD P Γ N mask ops o k q (c==a)).bind (nq e r (k+1)))
    |none=> .ite b ((tD P Γ N mask ops o k q (true==a)).bind (nq ((t,true)::e) r (k+1))) ((tD P Γ N mask ops o k q (false==a)).bind (nq ((t,false)::e) r (k+1)))
  | .yes=>match np q.1 o with
    |some (t,b)=>match e.lookup t with
     |some c=> .need (b=c) ((w7 N mask ops o k q c).bind (nq e r (k+1)))
     |none=> .ite b ((w7 N mask ops o k q true).bind (nq ((t,true)::e) r (k+1))) ((w7 N mask ops o k q false).bind (nq ((t,false)::e) r (k+1)))
    |none=>(tD P Γ N mask ops o k q true).bind (nq e r (k+1))
  | .no=>(tD P Γ N mask ops o k q false).bind (nq e r (k+1))
  | .bad=> .stuck
end
def KI(P:Program)(Γ:bu)(ops:Array Oper)(a:Bool)(s:St):Tr St:=
 if a then
  if wO ops.toList then
   (nq P Γ s.next (cw (RJ P ops s.slots (aV s.heap)) ops) ops [] ops.toList 0 (s.slots,s.heap)).bind λq=> .leaf ⟨q.1,q.2,s.next+256*ops.size⟩
  else .stuck
 else iI P Γ ops ops.toList s
section
variable{P:Program}{Γ:bu}{R:Nat}{B:eB}{ops:Array Oper}
theorem eY.know{σ:St}{ρ:Nat→Pl}{a:Act}{w:World}{t:Nat}{b:Bool}(c:eY R B σ ρ a w)(f:a.tmps[t]?=some (.bool b)):eY R B (o8 σ t b) ρ a w:=by
 refine⟨c.defers,c.slots.set_left t (λv e=>?_),c.heap,c.mv,c.fresh,c.root,c.rn,c.len⟩;have:a.tmps.toList[t]?=some (.bool b):=by simpa using f
 rw[this]at e;simp at e;subst e;exact aH.2 rfl
theorem eY.skip{σ:St}{ρ:Nat→Pl}{a:Act}{w:World}{o:Oper}(b:eY R B σ ρ a w):eY R B (tA o σ) ρ (a.put o.dst undef) w:=
 ⟨by cases o.dst<;>exact b.defers,ni b.slots o.dst dZ,b.heap,b.mv,b.fresh,b.root,b.rn,(iU ..).trans b.len⟩
theorem w8(f:aP P Γ){o:Oper}{σ:St}{ρ:Nat→Pl}{a:Act}{w:World}{K:Act→World→Prop}{Q:Exit→Act→World→Prop}(b:eY R B σ ρ a w)
 (h:(nn P Γ o σ).sat λσ'=>∀ρ' e w',dK ρ ρ'→eY R B σ' ρ' e w'→K e w'):o.wp P a w K Q:=by
 unfold nn at h;rw[cC]at h;refine tq (F:=B.F) f b.heap (λ_ _ q=>q) (λx=>ff b.slots x) (λk g _=>b.fresh k g) (by omega) K Q (bS ?_ h);rintro⟨y,u⟩ i v w' j;obtain⟨ρ',l,c⟩:=b.step (dst:=o.dst) j;exact i ρ' _ w' l c
theorem qX{σ:St}{ρ:Nat→Pl}{a:Act}{w:World}{o:Oper}{t:Nat}{b:Bool}(g:eY R B σ ρ a w)(h:np σ.slots o=some (t,b)):a.tmps[t]?=some (.bool b):=by
 unfold np at h;split at h
 case h_2=>simp at h
 rename_i i _ _ _;split at h
 case h_2=>simp at h
 rename_i c;simp at h;obtain⟨rfl,rfl⟩:=h;rw[az]at c;cases e:σ.slots[i]? with
 |none=>rw[e]at c;simp at c
 |some x=>
  rw[e]at c;simp at c;subst c;obtain⟨v,j,l⟩:=g.slots.get e;have f:=aH.1 l;simp[bf,Rd]at f;subst f;simpa using j
theorem AR(x:aP P Γ){Q:Exit→Act→World→Prop}:∀(l:List Oper)(k:Nat)(σ:St)(ρ:Nat→Pl)(a:Act)(w:World),(∀i,l[i]?=ops[k+i]?)→eY R B σ ρ a w→
 ((iI P Γ ops l σ).sat λσ'=>∀ρ' e w',dK ρ ρ'→eY R B σ' ρ' e w'→Q .normal e w')→wpOps P ops Q (pn k l.length) a w
 |[],k,σ,ρ,a,w,_,c,h=>h ρ a w (dK.refl ρ) c
 |o::r,k,σ,ρ,a,w,y,c,h=>by
  have A:ops[k]?=some o:=by have:=y 0;simpa using this.symm
  have q:∀i,r[i]?=ops[k+1+i]?:=λi=>by have:=y (i+1);simpa[eA,fj 1 i]using this
  have z:=λσ ρ a w=>AR x (Q:=Q) r (k+1) σ ρ a w q;obtain⟨C,s,D⟩:=mq (ops:=ops) (o:=o) c.slots;rw[bd,List.range'_succ,wpOps_cons];unfold wpOp;simp only[A]
  have yes:∀(σ1:St),eY R B σ1 ρ a w→(((nn P Γ o σ1).bind (iI P Γ ops r)).sat λσ'=>∀ρ' e w',dK ρ ρ'→eY R B σ' ρ' e w'→Q .normal e w')→o.wp P a w (wpOps P ops Q (pn (k+1) r.length)) Q:=by
   intro σ1 g p;rw[cC]at p;refine w8 x g (bS ?_ p);intro σ' E ρ' e w' F u;exact z σ' ρ' e w' u (bS (λ_ G ρ2 H s v=>G ρ2 H s (F.trans v)) E)
  have no:∀(σ1:St),eY R B σ1 ρ a w→((iI P Γ ops r (tA o σ1)).sat λσ'=>∀ρ' e w',dK ρ ρ'→eY R B σ' ρ' e w'→Q .normal e w')→wpOps P ops Q (pn (k+1) r.length) (a.put o.dst undef) w:=
   λσ1 g p=>z _ _ _ _ g.skip p
  simp only[iI]at h;split at h
  ·rename_i m;rw[C m];split at h
   ·rename_i t b J;have j:=qX c J;cases b
    ·exact .inl (yes _ (c.know j) (h.2 rfl))
    ·exact .inl (yes _ (c.know j) (h.1 rfl))
   ·exact .inl (yes σ c h)
  ·rename_i m;rw[s m];exact no σ c h
  ·rename_i t b f m;obtain⟨K,_,j⟩:=D _ _ _ m;rw[K];cases b
   ·have n:=h.2 rfl;cases f
    ·exact .inl (yes _ (c.know j) n)
    ·exact no _ (c.know j) n
   ·have n:=h.1 rfl;cases f
    ·exact no _ (c.know j) n
    ·exact .inl (yes _ (c.know j) n)
  ·exact h.elim
theorem tE{N:Nat}{mask:Nat→x9}{Q:FSt→Prop}:∀(l:List Oper)(k:Nat)(q:List V×eX),(∀i,l[i]?=ops[k+i]?)→((w6 P Γ N mask ops l k q).sat λr=>Q ⟨r.1,aV r.2⟩)→(CD P Γ N mask ops l.length k ⟨q.1,aV q.2⟩).sat Q
 |[],_,_,_,h=>h
 |o::r,k,q,c,h=>by
  have e:ops[k]?=some o:=by have:=c 0;simpa using this.symm
  have b:∀i,r[i]?=ops[k+1+i]?:=λi=>by have:=c (i+1);simpa[eA,fj 1 i]using this
  simp only[w6]at h;simp only[bd,CD,hC,e];rw[cC]at h⊢;rw[EN,cC]at h;rw[cC];refine bS ?_ h;intro p a;unfold fin;split at a
  case isFalse=>exact a.elim
  rename_i f;rw[an f];simp only[Tr.sat]at a⊢;rw[←dI];exact tE r (k+1) _ b a
theorem AS{N:Nat}{mask:Nat→x9}{Q:List V×eX→Prop}:∀(l:List Oper)(a:List (Nat×Bool))(k:Nat)(q:List V×eX),(nq P Γ N mask ops a l k q).sat Q→(w6 P Γ N mask ops l k q).sat Q
 |[],_,_,_,h=>h
 |o::r,a,k,q,h=>by
  have w:=λa=>AS (N:=N) (mask:=mask) (Q:=Q) r a (k+1)
  have go:∀(a:List (Nat×Bool))(t:Tr (V×dH)),((t.bind λr=>if gY N mask ops k o r.2 then .leaf (eM q.1 o.dst r.1,mo q.2 r.2)else .stuck).bind (nq P Γ N mask ops a r (k+1))).sat Q→
   t.sat λg=>(if gY N mask ops k o g.2 then Tr.leaf (eM q.1 o.dst g.1,mo q.2 g.2)else .stuck).sat λn=>(w6 P Γ N mask ops r (k+1) n).sat Q:=by
   intro a t u;rw[cC,cC]at u;exact bS (λ_ f=>bS (λ_ z=>w a _ z) f) u
  simp only[w6,EN];rw[cC,cC];simp only[nq]at h;unfold gtr;split at h
  ·rename_i t b i p;simp only[p]
   have one:∀(c:Bool)(a:List (Nat×Bool)),b=c→((tD P Γ N mask ops o k q (c==i)).bind (nq P Γ N mask ops a r (k+1))).sat Q→
    (Tr.ite (b==i) (uO P Γ N mask ops o k (dp q.1) (gC N mask k o (aV q.2))) (.leaf (.tup [],[]))).sat λg=>(if gY N mask ops k o g.2 then Tr.leaf (eM q.1 o.dst g.1,mo q.2 g.2)else .stuck).sat λn=>(w6 P Γ N mask ops r (k+1) n).sat Q:=by
    intro c a e f;subst e;refine⟨λj=>?_,λj=>?_⟩
    ·rw[j]at f;exact go a _ f
    ·rw[j]at f;exact go a _ f
   split at h
   ·obtain⟨e,f⟩:=h;exact one _ _ e f
   ·cases b
    ·exact one false _ rfl (h.2 rfl)
    ·exact one true _ rfl (h.1 rfl)
  ·rename_i p;simp only[p];split at h
   ·rename_i t b m
    have one:∀(c:Bool)(a:List (Nat×Bool)),b=c→((w7 N mask ops o k q c).bind (nq P Γ N mask ops a r (k+1))).sat Q→
     (uO P Γ N mask ops o k (dp q.1) (gC N mask k o (aV q.2))).sat λg=>(if gY N mask ops k o g.2 then Tr.leaf (eM q.1 o.dst g.1,mo q.2 g.2)else .stuck).sat λn=>(w6 P Γ N mask ops r (k+1) n).sat Q:=by
     intro c a e f;subst e;unfold np at m;split at m
     case h_2=>simp at m
     rename_i D x y s;split at m
     case h_2=>simp at m
     rename_i v A;simp at m;obtain⟨rfl,rfl⟩:=m
     have e:uO P Γ N mask ops o k (dp q.1) (gC N mask k o (aV q.2))= .ite v (.leaf (dp q.1 x,[])) (.leaf (dp q.1 y,[])):=by
      have C:Cv P Γ o (dp q.1) (gC N mask k o (aV q.2)) (N+256*k) 256= .ite v (.leaf (dp q.1 x,[])) (.leaf (dp q.1 y,[])):=by
       simp only[Cv,s,kp,dp,A,V.one?]
      rw[uO,C];rfl
     rw[e];simp only[w7,s]at f;have:=go a _ f;refine⟨λj=>?_,λj=>?_⟩
     ·rw[j]at this;exact this
     ·rw[j]at this;exact this
    split at h
    ·obtain⟨e,f⟩:=h;exact one _ _ e f
    ·cases b
     ·exact one false _ rfl (h.2 rfl)
     ·exact one true _ rfl (h.1 rfl)
   ·exact go a _ h
  ·rename_i p;simp only[p];exact go a _ h
  ·exact h.elim
theorem tF(t:aP P Γ)(hL:bg Γ)(v:P.follows .mixedOrders=true){id:Nat}{c:Bool}{σ:St}{ρ:Nat→Pl}{a:Act}{w:World}{Q:Exit→Act→World→Prop}(f:eY R B σ ρ a w)
 (h:(KI P Γ ops c σ).sat λσ'=>∀ρ' g w',dK ρ ρ'→eY R B σ' ρ' g w'→Q .normal g w'):(Code.region id ops c).wp P Q a w:=by
 unfold KI at h;split at h
 ·rename_i m;subst m;split at h
  case isFalse=>exact h.elim
  rename_i n;rw[cC]at h;have u:=tE (Q:=λs=>∀ρ' g w',dK ρ ρ'→uP R σ.next B ρ' g w' s (λj=>decide (j<ops.size))→Q .normal g w') ops.toList 0 (σ.slots,σ.heap) (λi=>by simp) (AS _ _ _ _ (bS (λq o ρ' g w' p b=>?_) h))
  ·have l:ops.toList.length=ops.size:=by simp
   rw[l]at u;refine wY (N:=σ.next) (R:=R) (B:=B) (s:=⟨σ.slots,aV σ.heap⟩) t hL v n ⟨f.defers,f.slots,f.heap,f.mv,λk r x=>absurd (f.fresh k r) x,f.root,f.rn,f.len⟩ u ?_;intro ρ' a w y p o b;exact o ρ' a w p b
  ·refine o ρ' g w' p ⟨b.defers,b.slots,b.heap,b.mv,λk r=>?_,b.root,?_,b.len⟩
   ·by_cases e:ρ' k= .un
    ·exact e
    ·simp only at r;have:=b.fresh k (by omega) e;simp at this;omega
   ·have:=f.rn;simp only;omega
 ·rename_i m;obtain rfl:c=false:=by simpa using m
  refine wp_region ?_;rw[List.range_eq_range'];have:=AR t (Q:=Q) ops.toList 0 σ ρ a w (λi=>by simp) f h;simpa using this
end
end
section
structure tG where
 ps:List cc
 inv:aN ps→Prop
 mu:aN ps→Nat
 inn:aN ps→List (Nat×tG)
def D1:Nat→List (Option CP)→Nat→List (Nat×Option Nat)
 |0,_,_=>[]
 |_+1,[],_=>[]
 |n+1,none::l,i=>D1 n l (i+1)
 |n+1,some _::l,i=>(i,some i)::D1 n l (i+1)
def lj(R:Nat)(a:List (Nat×Option Nat)):Bool:=a.all λp=>decide (R≤p.1)||decide (p.2=some p.1)
def eT(R:Nat)(s:St)(ps:List cc):Nat→Nat→Option (aN ps)
 |0,_=>none
 |n+1,i=>match fit (aV s.heap) s.slots (cV ps i) (D1 R (cV ps i).hp 0)with
  |some (v,a,_)=>if wE (cV ps i).hp&&kv (cV ps i).hp.length a&&decide (R≤(cV ps i).hp.length)&&lj R a then some ⟨i,(cV ps i).put v⟩else eT R s ps n (i+1)
  |none=>eT R s ps n (i+1)
def qY(R:Nat)(s:St)(ps:List cc):Option (aN ps):=eT R s ps ps.length 0
def eN(ps:List cc)(n:Nat)(y:aN ps):St:=
 ⟨nZ (cV ps y.1) n ((cV ps y.1).get y.2),HP.inst gM 0 (cV ps y.1).hp ((cV ps y.1).get y.2).2,(cV ps y.1).hp.length⟩
theorem nr:∀(n:Nat)(l:List (Option CP))(i j:Nat)(k:Option Nat),aV (D1 n l i) j=some k→k=some j∧i≤j
 |0,_,_,_,_,h=>by simp[D1,aV]at h
 |_+1,[],_,_,_,h=>by simp[D1,aV]at h
 |n+1,none::l,i,j,k,h=>by
  simp only[D1]at h;have:=nr n l (i+1) j k h;exact⟨this.1,by omega⟩
 |n+1,some _::l,i,j,k,h=>by
  simp only[D1,aV]at h;split at h
  ·rename_i e;subst e;simp at h;exact⟨h.symm,aC _⟩
  ·have:=nr n l (i+1) j k h;exact⟨this.1,by omega⟩
theorem pJ(n:Nat)(l:List (Option CP))(i:Nat):(⟨D1 n l i,[]⟩:Mt).Inj:=by
 intro j a k h b;have c:=(nr n l i j _ h).1;have e:=(nr n l i a _ b).1;simp at c e;omega
theorem tH{R:Nat}{a:List (Nat×Option Nat)}{ρ ρ0:Nat→Pl}(h:lj R a=true)(b:∀k,k<R→ρ k=ρ0 k∨ρ k= .un){k:Nat}(c:k<R):fN ⟨a,[]⟩ ρ k=ρ0 k∨fN ⟨a,[]⟩ ρ k= .un:=by
 unfold fN;cases e:aV a k with
 |none=>exact .inr rfl
 |some v=>
  unfold lj at h;rw[cM]at h;have:=h _ (gL e);simp only[ig,ah]at this;rcases this with q|q
  ·omega
  ·subst q;exact b k c
section
variable{R:Nat}{B:eB}
theorem jt{s:St}{ps:List cc}:∀{n i:Nat}{y:aN ps},eT R s ps n i=some y→∃v a u,fit (aV s.heap) s.slots (cV ps y.1) (D1 R (cV ps y.1).hp 0)=some (v,a,u)∧wE (cV ps y.1).hp=true∧kv (cV ps y.1).hp.length a=true∧R≤(cV ps y.1).hp.length∧lj R a=true∧(cV ps y.1).get y.2=v
 |0,_,_,h=>by simp[eT]at h
 |n+1,i,y,h=>by
  simp only[eT]at h;split at h
  case h_2=>exact jt h
  rename_i v a u c;split at h
  case isFalse=>exact jt h
  rename_i b;simp only[aF,ah]at b;simp at h;subst h;exact⟨v,a,u,c,b.1.1.1,b.1.1.2,b.1.2,b.2,cc.get_put⟩
theorem qZ{σ:St}{ps:List cc}{y:aN ps}{ρ:Nat→Pl}{a:Act}{w:World}{n:Nat}(c:eY R B σ ρ a w)(E:B.n=n)(h:qY R σ ps=some y):∃ρ',eY R B (eN ps n y) ρ' a w∧∀b,b<w.heap.size→oJ ρ' (aV (eN ps n y).heap) b→oJ ρ (aV σ.heap) b:=by
 obtain⟨v,j,u,G,m,H,J,o,f⟩:=jt h;obtain⟨l,rfl,p⟩:=yK G;obtain⟨P,r,s⟩:=uK p;obtain⟨K,i,L⟩:=js (l:=l) c.heap (λ_ _ q=>q);have t:=F2.imp (λ_ _=>aS.evo i.evo (dK.refl ρ)) c.slots;obtain⟨M,D,Q,x,S⟩:=qF (F':=B.F) K L t r s rfl (pJ R _ 0) m (λb e=> .inl e)
 have z:Mv B.ρ B.w B.h (fN ⟨j,[]⟩ ρ) w (aV (HP.inst gM 0 (cV ps y.1).hp v.2)):=by
  have:=c.mv.trans i;exact⟨this.os,this.tape,this.output,this.size,this.block,λb e N=>this.own b e (x b N)⟩
 refine⟨fN ⟨j,[]⟩ ρ,⟨c.defers.own (λb e q=>i.own b e (x b (by simp only[eN,f]at q;exact q))),?_,?_,?_,λk A=>?_,λk C=>?_,J,c.len⟩,λb e q=>i.own b e (x b (by simp only[eN,f]at q;exact q))⟩
 ·simp only[eN,f,nZ];have g:a.tmps.toList.length=n:=by simpa using c.len.trans E
  rw[g]at D;exact D
 ·simp only[eN,f];exact M
 ·simp only[eN,f];exact z
 ·simp only[eN]at A;unfold fN;cases O:aV j k with
  |none=>rfl
  |some q=>exact absurd (iT H O) (by omega)
 ·exact tH o c.root C
theorem iV{σ:St}{ps:List cc}{y:aN ps}{ρ:Nat→Pl}{a:Act}{w:World}{n:Nat}(b:eY R B σ ρ a w)(c:B.n=n)(h:qY R σ ps=some y):∃ρ',eY R B (eN ps n y) ρ' a w:=
 let⟨ρ',e,_⟩:=qZ b c h
 ⟨ρ',e⟩
end
def IP.allK{R:Type}:(p:IP)→((R→Prop)→Prop)→(p.denK R→Prop)→Prop
 | .d t,f,q=>∀x:t.den,f λr=>q (x,r)
 | .pv t,f,q=>∀x:t.den,f λr=>q (x,r)
 | .cut e,f,q=>∀x:List e.den,f λr=>q (x,r)
 | .k _,f,q=>f q
 | .ptr ..,f,q=>f q
 | .own _,f,q=>f q
 | .mp _,f,q=>f q
 | .ifc ..,f,q=>f q
 | .fn ..,f,q=>f q
 | .nils,f,q=>f q
 | .nilp,f,q=>f q
 | .nilm,f,q=>f q
 | .nili,f,q=>f q
 | .nilf,f,q=>f q
abbrev sC{R:Type}(f:(R→Prop)→Prop):Prop:=∀k,f k→∀x,k x
theorem IP.allK_ok{R:Type}{p:IP}{f:(R→Prop)→Prop}(a:sC f):sC (p.allK f):=by
 intro q h x;cases p
 case d t=>exact a _ (h x.1) x.2
 case pv t=>exact a _ (h x.1) x.2
 case cut e=>exact a _ (h x.1) x.2
 all_goals exact a q h x
def LP.allK{R:Type}:(l:List IP)→((R→Prop)→Prop)→(LP.denK l R→Prop)→Prop
 |[],f,k=>f k
 |p::l,f,k=>p.allK (LP.allK l f) k
theorem LP.allK_ok{R:Type}{f:(R→Prop)→Prop}(a:sC f):∀{l:List IP},sC (LP.allK l f)
 |[]=>a
 |p::l=>IP.allK_ok (p:=p) (LP.allK_ok (l:=l) a)
def CP.allK{R:Type}:(c:CP)→((R→Prop)→Prop)→(c.denK R→Prop)→Prop
 | .cells l,f,k=>LP.allK l f k
 | .sl e,f,k=>∀x:List e.den,f λr=>k (x,r)
 | .mp a b,f,k=>∀x:List (a.den×b.den),f λr=>k (x,r)
 | .lk a b,f,k=>∀x:List (a.den×b.den),f λr=>k (x,r)
 | .sit,f,k=>∀(s:List (BitVec 8))(g:Nat),f λr=>k (s,g,r)
 | .mit _ a b,f,k=>∀(x:List (a.den×b.den))(z:Option (a.den×b.den)),f λr=>k (x,z,r)
 | .nit,f,k=>f k
 | .fit a b,f,k=>∀(x:List (a.den×b.den))(z:Option (a.den×b.den)),f λr=>k (x,z,r)
theorem CP.allK_ok{R:Type}{c:CP}{f:(R→Prop)→Prop}(a:sC f):sC (c.allK f):=by
 intro k h x;cases c
 case cells l=>exact LP.allK_ok a k h x
 case sl e=>exact a _ (h x.1) x.2
 case mp b g=>exact a _ (h x.1) x.2
 case lk b g=>exact a _ (h x.1) x.2
 case sit=>exact a _ (h x.1 x.2.1) x.2.2
 case mit m b g=>exact a _ (h x.1 x.2.1) x.2.2
 case nit=>exact a k h x
 case fit b g=>exact a _ (h x.1 x.2.1) x.2.2
def HP.allK{R:Type}:(l:List (Option CP))→((R→Prop)→Prop)→(HP.denK l R→Prop)→Prop
 |[],f,k=>f k
 |some c::l,f,k=>c.allK (HP.allK l f) k
 |none::l,f,k=>HP.allK l f k
theorem HP.allK_ok{R:Type}{f:(R→Prop)→Prop}(a:sC f):∀{l:List (Option CP)},sC (HP.allK l f)
 |[]=>a
 |some c::l=>CP.allK_ok (c:=c) (HP.allK_ok (l:=l) a)
 |none::l=>HP.allK_ok (l:=l) a
def SP.allK{R:Type}:(l:kq)→((R→Prop)→Prop)→(SP.denK l R→Prop)→Prop
 |[],f,k=>f k
 |p::l,f,k=>LP.allK p.2.2 (SP.allK l f) k
theorem SP.allK_ok{R:Type}{f:(R→Prop)→Prop}(a:sC f):∀{l:kq},sC (SP.allK l f)
 |[]=>a
 |p::l=>LP.allK_ok (l:=p.2.2) (SP.allK_ok (l:=l) a)
def cc.All(p:cc)(k:p.den→Prop):Prop:=SP.allK p.sl (HP.allK p.hp λk=>k ()) k
theorem cc.All_ok{p:cc}{k:p.den→Prop}(h:p.All k)(x:p.den):k x:=SP.allK_ok (HP.allK_ok (λ_ h _=>h)) k h x
def ju(ps:List cc)(k:aN ps→Prop):Nat→Nat→Prop
 |0,_=>True
 |1,i=>(cV ps i).All λx=>k ⟨i,x⟩
 |n+2,i=>((cV ps i).All λx=>k ⟨i,x⟩)∧ju ps k (n+1) (i+1)
theorem fW{ps:List cc}{k:aN ps→Prop}:∀{n i:Nat},ju ps k n i→∀y:aN ps,i≤y.1→y.1<i+n→k y
 |0,_,_,y,a,b=>by omega
 |1,i,h,⟨j,x⟩,a,b=>by
  simp only at a b;obtain rfl:j=i:=by omega
  exact cc.All_ok (k:=λx=>k ⟨j,x⟩) h x
 |n+2,i,h,⟨j,x⟩,a,b=>by
  by_cases e:j=i
  ·subst e;exact cc.All_ok (k:=λx=>k ⟨j,x⟩) h.1 x
  ·exact fW h.2 ⟨j,x⟩ (by simp only at a⊢;omega) (by simp only at b⊢;omega)
theorem dm{R:Nat}{s:St}{ps:List cc}:∀{n i:Nat}{y:aN ps},eT R s ps n i=some y→i≤y.1∧y.1<i+n
 |0,_,_,h=>by simp[eT]at h
 |n+1,i,y,h=>by
  simp only[eT]at h;split at h
  ·split at h
   ·simp at h;subst h;simp
   ·have:=dm h;omega
  ·have:=dm h;omega
inductive Is (p:Prop):Prop where
 |mk (h:p)
theorem Is.out{p:Prop}(h:Is p):p:=h.1
def eZ(R:Nat)(c:tG)(s:St)(p:aN c.ps→Prop):Prop:=match qY R s c.ps with
 |some y=>Is (p y)
 |none=>False
theorem fx{R:Nat}{c:tG}{s:St}{p:aN c.ps→Prop}(h:eZ R c s p):∃y,qY R s c.ps=some y∧p y:=by
 unfold eZ at h;split at h
 ·rename_i y a;exact⟨y,a,h.1⟩
 ·exact h.elim
end
section
structure dG where
 loops:List (Nat×tG)
 joins:List (Nat×tG)
 jumps:List (Nat×Nat×tG)
 splits:List (Nat×Nat×Nat)
 unroll:Nat
def gu:Code→Option Nat
 | .region id _ _=>some id
 | .seq x y=>match gu x with
   |some i=>some i
   |none=>gu y
 | .cond _ x y=>match gu x with
   |some i=>some i
   |none=>gu y
 | .block _ c=>gu c
 | .loop c=>gu c
 | .scope c=>gu c
 |_=>none
def tI{β:Type}(l:List (Nat×β)):Option Nat→Option β
 |none=>none
 |some k=>go l k
where go:List (Nat×β)→Nat→Option β
 |[],_=>none
 |p::r,j=>if p.1=j then some p.2 else go r j
abbrev Kn:=Exit→St→Prop
def fo(next:St→Prop)(Q:Kn):Kn
 | .normal,s=>next s
 |e,s=>Q e s
def o9(id:Nat)(Q:Kn):Kn
 | .exit a,s=>if a=id then Q .normal s else Q (.exit a) s
 |e,s=>Q e s
def KJ(Q:Kn):Kn
 | .goto _,_=>False
 |e,s=>Q e s
def jJ(l:Nat)(J:St→Prop)(Q:Kn):Kn
 | .goto a,s=>if a=l then J s else False
 |e,s=>Q e s
def AT:Nat→(St→Kn→Prop)→St→Kn→Prop
 |0,_,_,_=>False
 |n+1,f,s,Q=>f s (fo (λa=>AT n f a Q) Q)
def yT(x:Int)(f:Nat→Prop):Nat→Prop
 |0=>True
 |m+1=>yT x f m∧(x=(m:Int)→f m)
def kE(s:St)(c:Operand)(b:Bool):St:=match c with
 | .tmp t=>o8 s t b
 |_=>s
def Wo(s:St)(t q:Nat):St:=⟨s.slots.set t (sc (.k (.i64 q))),s.heap,s.next⟩
def gW(ro:Option Nat):Fence:={Fence.wide with round:=ro}
def od(o:Oper):Bool:=match o.op with
 | .defer _=>false
 |_=>true
theorem EO{P:Program}{ro:Option Nat}{m a:Machine}(h:Steps P m a):StepsIn (Machine.fenced P (gW ro)) P m a:=(stepsIn_wide.2 h:StepsIn (Machine.fenced P Fence.wide) P m a)
theorem q9{P:Program}{ro:Option Nat}{n:Nat}{f:FuncId}{args:Array Value}{w:World}{R:Ending→World→Prop}(h:Calls P f args w R):CallsIn (gW ro) n P f args w R:=
 (callsIn_wide.2 h:CallsIn Fence.wide n P f args w R)
theorem ra{ro:Option Nat}{n:Nat}:(gW ro).depth.isSome=true→1≤n:=λq=>by cases q
theorem a2w{ro:Option Nat}(n:Nat):(gW ro).room n:=λ_ h=>by cases h
theorem Wp{P:Program}{o:Oper}{a:Act}{w:World}{K:Act→World→Prop}{Q:Exit→Act→World→Prop}{ro:Option Nat}{n:Nat}(b:od o=true)(h:o.wp P a w K Q):o.wpIn (gW ro) n P a w K Q:=by
 refine⟨λ_ _=>trivial,?_⟩;have e:o.semAt (gW ro).round a.eval=execOp a.eval o:=Oper.semAt_eq _ _ _ (λc g=>by unfold od at b;rw[g]at b;cases b);rw[e];unfold Oper.wp at h;generalize(execOp a.eval o).run P w=r at*;cases r with
 |ok x f=>
  cases x<;>simp only[Oper.upon,Oper.uponIn]at h⊢<;>first
   |exact h
   |exact⟨ra,q9 h⟩
   |exact⟨ra,λc i _=>let⟨v,f,r,s⟩:=h c i;⟨v,f,r,EO s⟩⟩
 |halt x f=>cases x<;>simp only[Oper.upon,Oper.uponIn]at h⊢<;>exact h
section
variable{P:Program}{Γ:bu}{R:Nat}{B:eB}{ops:Array Oper}
theorem pK(C:aP P Γ){ro:Option Nat}{n:Nat}{Q:Exit→Act→World→Prop}{rest:List Nat}:∀(l:List Oper)(k:Nat)(σ:St)(ρ:Nat→Pl)(a:Act)(w:World),(∀o∈l,od o=true)→(∀i o,l[i]?=some o→ops[k+i]?=some o)→eY R B σ ρ a w→
 ((iI P Γ ops l σ).sat λσ'=>∀ρ' e w',dK ρ ρ'→eY R B σ' ρ' e w'→wpOpsIn (gW ro) n P ops Q rest e w')→wpOpsIn (gW ro) n P ops Q (pn k l.length++rest) a w
 |[],k,σ,ρ,a,w,_,_,c,h=>h ρ a w (dK.refl ρ) c
 |o::r,k,σ,ρ,a,w,D,E,c,h=>by
  have G:ops[k]?=some o:=by simpa using E 0 o rfl
  have u:∀i x,r[i]?=some x→ops[k+1+i]?=some x:=λi x m=>by have:=E (i+1) x (by simpa using m);rwa [fj i 1,←eA]at this
  have v:=D o (aM ..);have F:=λσ ρ a w=>pK C (Q:=Q) (rest:=rest) (ro:=ro) (n:=n) r (k+1) σ ρ a w (λx m=>D x (aE _ m)) u;obtain⟨H,y,J⟩:=mq (ops:=ops) (o:=o) c.slots;rw[bd,List.range'_succ,List.cons_append,wpOpsIn_cons];unfold wpOpIn;simp only[G]
  have yes:∀(σ1:St),eY R B σ1 ρ a w→(((nn P Γ o σ1).bind (iI P Γ ops r)).sat λσ'=>∀ρ' e w',dK ρ ρ'→eY R B σ' ρ' e w'→wpOpsIn (gW ro) n P ops Q rest e w')→o.wpIn (gW ro) n P a w (wpOpsIn (gW ro) n P ops Q (pn (k+1) r.length++rest)) Q:=by
   intro σ1 g s;rw[cC]at s;refine Wp v (w8 C g (bS ?_ s));intro σ' K ρ' e w' m z;exact F σ' ρ' e w' z (bS (λ_ L ρ2 M y A=>L ρ2 M y (m.trans A)) K)
  have no:∀(σ1:St),eY R B σ1 ρ a w→((iI P Γ ops r (tA o σ1)).sat λσ'=>∀ρ' e w',dK ρ ρ'→eY R B σ' ρ' e w'→wpOpsIn (gW ro) n P ops Q rest e w')→wpOpsIn (gW ro) n P ops Q (pn (k+1) r.length++rest) (a.put o.dst undef) w:=
   λσ1 g s=>F _ _ _ _ g.skip s
  simp only[iI]at h;split at h
  ·rename_i p;rw[an (H p)];split at h
   ·rename_i t b N;have j:=qX c N;cases b
    ·exact yes _ (c.know j) (h.2 rfl)
    ·exact yes _ (c.know j) (h.1 rfl)
   ·exact yes σ c h
  ·rename_i p;rw[ag (by rw[y p];simp)];exact⟨λ_ _=>trivial,no σ c h⟩
  ·rename_i t b f p;obtain⟨O,_,j⟩:=J _ _ _ p;rw[O];cases b
   ·have q:=h.2 rfl;cases f
    ·exact yes _ (c.know j) q
    ·exact⟨λ_ _=>trivial,no _ (c.know j) q⟩
   ·have q:=h.1 rfl;cases f
    ·exact⟨λ_ _=>trivial,no _ (c.know j) q⟩
    ·exact yes _ (c.know j) q
  ·exact h.elim
end
section
variable(P:Program)(Γ:bu)
def EP:Code→St→Kn→Prop
 | .skip,s,Q=>Q .normal s
 | .region _ ops a,s,Q=>(a=false∧ops.toList.all od=true)∧(iI P Γ ops ops.toList s).sat (Q .normal)
 | .seq x y,s,Q=>EP x s (fo (λe=>EP y e Q) Q)
 | .cond c x y,s,Q=>match dp s.slots c with
   | .val false [.k (.bool true)]=>EP x s Q
   | .val false [.k (.bool false)]=>EP y s Q
   | .val false [.d .bl b]=>(b=true→EP x (kE s c true) Q)∧(b=false→EP y (kE s c false) Q)
   |_=>False
 | .block id c,s,Q=>EP c s (o9 id Q)
 | .exit id,s,Q=>Q (.exit id) s
 | .ret,s,Q=>Q .ret s
 |_,_,_=>False
end
def TR(P:Program)(R:Nat)(B:eB)(ro:Option Nat)(c:Code)(σ:St)(Q:Kn):Prop:=
 ∀(n:Nat)(ρ:Nat→Pl)(a:Act)(w:World),eY R B σ ρ a w→c.wpIn (gW ro) n P (λe b f=>∃σ' ρ',Q e σ'∧dK ρ ρ'∧eY R B σ' ρ' b f) a w
theorem w9{P:Program}{R:Nat}{B:eB}{σ:St}{ρ:Nat→Pl}{a:Act}{w:World}(i:eY R B σ ρ a w){c:Operand}:
 (∀b,dp σ.slots c= .val false [.k (.bool b)]→a.eval c= .bool b)∧(∀b,dp σ.slots c= .val false [.d .bl b]→a.eval c= .bool b∧eY R B (kE σ c b) ρ a w):=by
 have h:=ff i.slots c;refine⟨λb e=>?_,λb e=>?_⟩
 ·rw[e]at h;have:=aH.1 h;simp[bf]at this;exact this
 ·rw[e]at h;have f:=aH.1 h;simp[bf,Rd]at f;refine⟨f,?_⟩;unfold kE;split
  ·rename_i t;refine i.know ?_;simp only[Act.eval]at f
   have:t<a.tmps.size:=by
    rcases bN t a.tmps.size with g|g
    ·exact g
    ·rw[Array.getD_eq_getD_getElem?,Array.getElem?_eq_none g]at f;simp[undef]at f
   rw[Array.getD_eq_getD_getElem?,Array.getElem?_eq_getElem this]at f;rw[Array.getElem?_eq_getElem this];simpa using f
  ·exact i
theorem EQ{P:Program}{Γ:bu}{R:Nat}{B:eB}{ro:Option Nat}(C:aP P Γ):∀(c:Code)(σ:St)(Q:Kn),EP P Γ c σ Q→TR P R B ro c σ Q:=by
 intro c
 induction c with
 |skip=>exact λσ Q h n ρ a w f=>wpIn_skip ⟨σ,ρ,h,dK.refl ρ,f⟩
 |exit id=>exact λσ Q h n ρ a w f=>wpIn_exit ⟨σ,ρ,h,dK.refl ρ,f⟩
 |ret=>exact λσ Q h n ρ a w f=>wpIn_ret ⟨σ,ρ,h,dK.refl ρ,f⟩
 |region id ops v=>
  intro σ Q h n ρ a w f;obtain⟨⟨D,E⟩,F⟩:=h;subst D;refine wpIn_region ?_;rw[List.range_eq_range'];have:=pK C (ro:=ro) (n:=n) (rest:=[]) (Q:=λe m p=>∃σ' ρ',Q e σ'∧dK ρ ρ'∧eY R B σ' ρ' m p) ops.toList 0 σ ρ a w (λo G=>cM.1 E o G) (λi o H=>by simpa using H) f (bS (λσ' q ρ' m p l s=>⟨σ',ρ',q,l,s⟩) F);simpa using this
 |seq x y g j=>
  intro σ Q h n ρ a w f;refine wpIn_seq (wpIn_mono (g _ _ h n ρ a w f) ?_);rintro e m p ⟨σ',ρ',q,l,r⟩;cases e with
  |normal=>exact wpIn_mono (j _ _ q n ρ' m p r) (λe J K⟨σ2,ρ2,L,t,M⟩=>⟨σ2,ρ2,L,l.trans t,M⟩)
  |_=>exact⟨σ',ρ',q,l,r⟩
 |cond c x y g j=>
  intro σ Q h n ρ a w f;have u:=w9 (P:=P) f (c:=c);simp only[EP]at h;split at h
  ·rename_i e;exact wpIn_cond_true (u.1 _ e) (g _ _ h n ρ a w f)
  ·rename_i e;exact wpIn_cond_false (u.1 _ e) (j _ _ h n ρ a w f)
  ·rename_i b e;obtain⟨z,A⟩:=u.2 b e;cases b with
   |true=>exact wpIn_cond_true z (g _ _ (h.1 rfl) n ρ a w A)
   |false=>exact wpIn_cond_false z (j _ _ (h.2 rfl) n ρ a w A)
  ·exact h.elim
 |block id c N=>
  intro σ Q h n ρ a w f;refine wpIn_block (wpIn_mono (N _ _ h n ρ a w f) ?_);rintro e m p ⟨σ',ρ',q,l,r⟩;cases e with
  |exit O=>
   simp only[Exit.inBlock];simp only[o9]at q;split
   ·rename_i e;rw[an e]at q;exact⟨σ',ρ',q,l,r⟩
   ·rename_i e;rw[ag e]at q;exact⟨σ',ρ',q,l,r⟩
  |_=>exact⟨σ',ρ',q,l,r⟩
 |_=>intro σ Q h;exact h.elim
end
section
theorem F2.split{α β:Type}{R:α→β→Prop}:∀{m1:List β}{l:List α}{c:List β},F2 R l (m1++c)→F2 R (l.take m1.length) m1∧F2 R (l.drop m1.length) c
 |[],_,_,h=>⟨trivial,h⟩
 |b::m1,[],_,h=>h.elim
 |b::m1,a::l,c,⟨e,h⟩=>let⟨f,g⟩:=F2.split (m1:=m1) h;⟨⟨e,f⟩,g⟩
structure D2(l:Nat)(ρ:Nat→Pl)(w:World)(h:Nat→Option Ch)(ρ':Nat→Pl)(w':World)(h':Nat→Option Ch):Prop where
 os:w'.os=w.os
 tape:w'.tape=w.tape
 output:w'.output=w.output
 size:w.heap.size≤w'.heap.size
 block:∀b,b<w.heap.size→b≠l→¬oJ ρ h b→w'.heap[b]?=w.heap[b]?
 own:∀b,b<w.heap.size→oJ ρ' h' b→oJ ρ h b
theorem Mv.toL{l:Nat}{ρ ρ':Nat→Pl}{w w':World}{h h':Nat→Option Ch}(a:Mv ρ w h ρ' w' h'):D2 l ρ w h ρ' w' h':=⟨a.os,a.tape,a.output,a.size,λb c _=>a.block b c,a.own⟩
theorem D2.trans{l:Nat}{ρ ρ' ρ'':Nat→Pl}{w w' e:World}{h h' f:Nat→Option Ch}(a:D2 l ρ w h ρ' w' h')(b:D2 l ρ' w' h' ρ'' e f):D2 l ρ w h ρ'' e f:=
 ⟨b.os.trans a.os,b.tape.trans a.tape,b.output.trans a.output,bA a.size b.size,
  λi c j g=>(b.block i (bq c a.size) j (λq=>g (a.own i c q))).trans (a.block i c j g),
  λi c g=>a.own i c (b.own i (bq c a.size) g)⟩
theorem Mv.transL{l:Nat}{ρ ρ' ρ'':Nat→Pl}{w w' e:World}{h h' f:Nat→Option Ch}(a:Mv ρ w h ρ' w' h')(b:D2 l ρ' w' h' ρ'' e f)(j:w.heap.size≤l):Mv ρ w h ρ'' e f:=
 ⟨b.os.trans a.os,b.tape.trans a.tape,b.output.trans a.output,bA a.size b.size,
  λi c g=>(b.block i (bq c a.size) (by omega) (λq=>g (a.own i c q))).trans (a.block i c g),
  λi c g=>a.own i c (b.own i (bq c a.size) g)⟩
theorem D2.evo{F:Nat→Prop}{l:Nat}{ρ ρ':Nat→Pl}{w w':World}{h h':Nat→Option Ch}(a:D2 l ρ w h ρ' w' h')(j:∀o,w.heap[l]?=some o→MO o=false):po w (Av F ρ h) w' (Av F ρ' h'):=
 ⟨a.size,λb c f o g i=>(a.block b c (λe=>by subst e;rw[j o g]at i;cases i) (λq=>f (.inr q))).trans g,λb c f=>f.imp id (a.own b c)⟩
theorem dn.put{F:Nat→Prop}{ρ:Nat→Pl}{w:World}{h:Nat→Option Ch}{l:Nat}(o':Obj)(hh:dn F ρ w h)(r:∀o,w.heap[l]?=some o→MO o=false)(s:¬oJ ρ h l):
 dn F ρ (w.putObj l o') h∧D2 l ρ w h ρ (w.putObj l o') h:=by
 have p:D2 l ρ w h ρ (w.putObj l o') h:=⟨rfl,rfl,rfl,by rw[World.putObj_size];exact aC _,λb _ f _=>World.putObj_heap_other f,λ_ _ q=>q⟩;refine⟨⟨λk c j=>(hh.ok k c j).evo (p.evo r) (dK.refl ρ) (λb f=>World.putObj_heap_other ?_),hh.inj,λk c b t u v=>by rw[World.putObj_size];exact hh.fr k c b t u v,hh.it,λb f=>by rw[World.putObj_size];exact hh.gs b f⟩,p⟩;intro e;subst e;refine s ?_;cases c with
 |fr=>exact f.elim
 |fc=>exact f.elim
 |fm=>exact f.elim
 |mit m x y g i=>
  rcases f with f|f
  ·exact⟨k,_,j,rfl,f⟩
  ·obtain⟨z,n⟩:=hh.it k m x y g i j;exact⟨m,_,n,rfl,f⟩
 |_=>exact⟨k,_,j,rfl,f⟩
structure It where
 l:Nat
 D:Nat
 fn:FuncId
 tmps:Array Value
 ps:Array Tmp
 asg:Code
 body:Code
 n:Nat
 ds:List Deferred
def ER:Nat→Code
 |0=> .ret
 |k+1=> .exit k
def It.rcd(J:It)(m:Nat):Loop:={state:=if m=0 then .ready else .done,pending:=if m=0 then none else some (ER (m-1)),fn:=J.fn,tmps:=J.tmps,params:=J.ps,assign:=J.asg,body:=J.body,defers:=J.D}
def It.act(J:It)(a:Act)(m:Nat):Act:={tmps:=a.tmps++(J.tmps.push (.func (.yield J.l) #[] #[])).push (.int .i64 (m:Int)),defers:=J.ds}
structure hH(R:Nat)(B:eB)(J:It)(σ:St)(ρ:Nat→Pl)(a:Act)(w:World)(m:Nat):Prop where
 rel:eY R B σ ρ (J.act a m) w
 df:a.defers=[]
 sz:a.tmps.size=J.n
 rc:w.heap[J.l]?=some (.loop (J.rcd m))
 ge:B.w.heap.size≤J.l
 no:¬oJ ρ (aV σ.heap) J.l
theorem hH.lt{R:Nat}{B:eB}{J:It}{σ:St}{ρ:Nat→Pl}{a:Act}{w:World}{m:Nat}(h:hH R B J σ ρ a w m):J.l<w.heap.size:=(dX.1 h.rc).1
theorem It.act_list(J:It)(a:Act)(m:Nat):(J.act a m).tmps.toList=a.tmps.toList++((J.tmps.toList++[.func (.yield J.l) #[] #[]])++[.int .i64 (m:Int)]):=by simp[It.act]
abbrev Wq(B:eB)(J:It)(σ:St)(ρ:Nat→Pl)(w:World):eB:=⟨B.F,ρ,w,aV σ.heap,J.n,false⟩
section
variable{P:Program}{Γ:bu}{R:Nat}{B:eB}{J:It}{σ:St}{ρ ρ':Nat→Pl}{a a':Act}{w w':World}{m:Nat}
theorem hH.sl(b:hH R B J σ ρ a w m):F2 (aS w (Av B.F ρ (aV σ.heap)) ρ) (σ.slots.take J.n) a.tmps.toList∧F2 (aS w (Av B.F ρ (aV σ.heap)) ρ) (σ.slots.drop J.n) ((J.tmps.toList++[.func (.yield J.l) #[] #[]])++[.int .i64 (m:Int)]):=by
 have h:=b.rel.slots;rw[It.act_list]at h;have c:=F2.split h;have e:a.tmps.toList.length=J.n:=by simpa using b.sz
 rw[e]at c;exact c
theorem hH.sub(b:hH R B J σ ρ a w m):eY σ.next (Wq B J σ ρ w) ⟨σ.slots.take J.n,σ.heap,σ.next⟩ ρ a w:=
 ⟨.nil b.df,b.sl.1,b.rel.heap,Mv.refl _ _ _,b.rel.fresh,λ_ _=> .inl rfl,aC _,b.sz⟩
theorem re(a:Act)(J:It)(m:Nat):(J.act a m).tmps.size=a.tmps.size+(J.tmps.size+2):=by simp[It.act]
theorem tJ{R n:Nat}{B:eB}{ρ ρ':Nat→Pl}(h:∀k,k<R→ρ k=B.ρ k∨ρ k= .un)(h':∀k,k<n→ρ' k=ρ k∨ρ' k= .un)(c:R≤n):∀k,k<R→ρ' k=B.ρ k∨ρ' k= .un:=by
 intro k b;rcases h' k (by omega)with e|e
 ·rw[e];exact h k b
 ·exact .inr e
theorem hH.back{s:St}(c:hH R B J σ ρ a w m)(f:dK ρ ρ')(b:eY σ.next (Wq B J σ ρ w) s ρ' a' w'):hH R B J ⟨s.slots++σ.slots.drop J.n,s.heap,s.next⟩ ρ' a' w' m:=by
 have g:a'.defers=[]:=b.defers.no rfl;refine⟨⟨?_,?_,b.heap,c.rel.mv.trans b.mv,b.fresh,tJ c.rel.root b.root c.rel.rn,bA c.rel.rn b.rn,?_⟩,g,b.len,?_,c.ge,?_⟩
 ·exact c.rel.defers.mv b.mv
 ·rw[It.act_list];exact F2.append b.slots (F2.imp (λ_ _=>aS.evo b.mv.evo f) c.sl.2)
 ·have e:=c.rel.len;rw[re]at e⊢;have h:a'.tmps.size=J.n:=b.len;rw[h,←c.sz];exact e
 ·exact(b.mv.block J.l c.lt c.no).trans c.rc
 ·exact λq=>c.no (b.mv.own J.l c.lt q)
theorem hH.mvd{c:hH R B J σ ρ a w m}:∀o,w.heap[J.l]?=some o→MO o=false:=λo b=>by
 rw[c.rc]at b;cases b;rfl
end
def TI(P:Program)(R:Nat)(B:eB)(J:It)(c:Code)(σ:St)(Q:Kn):Prop:=
 ∀(ρ:Nat→Pl)(a:Act)(w:World)(m:Nat),hH R B J σ ρ a w m→c.wp P (λe a' w'=>∃σ' ρ' b,Q e σ'∧hH R B J σ' ρ' a' w' b) a w
section
variable{P:Program}{Γ:bu}{R:Nat}{B:eB}{J:It}{Q:Kn}{σ:St}
theorem TI.region(f:aP P Γ)(hL:bg Γ)(g:P.follows .mixedOrders=true){id:Nat}{ops:Array Oper}{b:Bool}
 (h:(KI P Γ ops b ⟨σ.slots.take J.n,σ.heap,σ.next⟩).sat λs=>Q .normal ⟨s.slots++σ.slots.drop J.n,s.heap,s.next⟩):TI P R B J (.region id ops b) σ Q:=
 λ_ _ _ m e=>tF f hL g e.sub (bS (λ_ q ρ' _ _ i c=>⟨_,ρ',m,q,e.back i c⟩) h)
end
def oe:List Oper→Option (List Oper×Oper×Operand×Array Operand×List Oper)
 |[]=>none
 |o::r=>match o.op with
  | .call ⟨.value f,args,_⟩=>some ([],o,f,args,r)
  |_=>match oe r with
   |some (x,y)=>some (o::x,y)
   |none=>none
theorem tK:∀{l:List Oper}{x r:List Oper}{o:Oper}{f:Operand}{args:Array Operand},oe l=some (x,o,f,args,r)→l=x++o::r∧∃ty,o.op= .call ⟨.value f,args,ty⟩
 |[],_,_,_,_,_,h=>by simp[oe]at h
 |p::l,x,r,o,f,args,h=>by
  simp only[oe]at h;split at h
  ·rename_i j b ty c;simp at h;obtain⟨rfl,rfl,rfl,rfl,rfl⟩:=h;exact⟨rfl,ty,c⟩
  ·split at h
   ·rename_i n q e;simp at h;obtain⟨rfl,rfl⟩:=h;obtain⟨g,i⟩:=tK e;exact⟨by rw[g];rfl,i⟩
   ·simp at h
def AU:List V→List (Tmp×V)→List V
 |s,[]=>s
 |s,p::r=>AU (s.set p.1 p.2) r
def vcY(P:Program)(Γ:bu)(n:Nat)(ps:Array Tmp)(h c:Code)(ops:Array Oper)(x:List Oper)(o:Oper)(f:Operand)(args:Array Operand)(r:List Oper)(σ:St)(Q:Kn):Prop:=
 (ops.toList.all od=true∧o.guard=none∧args.size=ps.size)∧
 (iI P Γ ops x ⟨σ.slots.take n,σ.heap,σ.next⟩).sat λg=>match dp g.slots f,(σ.slots.drop n).getLast?,(σ.slots.drop n).dropLast.getLast? with
  | .val false [.d .yl l],some (.val false [.k (.i64 0)]),some (.val false [.d .yl p])=>l=p∧
    EP P Γ h ⟨AU (σ.slots.drop n).dropLast.dropLast (ps.toList.zip (args.toList.map (dp g.slots))),g.heap,g.next⟩ λe s=>match e with
     | .normal=>EP P Γ c s λe j=>
       let fin (b:Bool) (m:Nat):Prop:=(iI P Γ ops r ⟨eM g.slots o.dst (.val false [.k (.bool b)]),j.heap,j.next⟩).sat λi=>Q .normal ⟨i.slots++((σ.slots.drop n).dropLast++[.val false [.k (.i64 (m:Int))]]),i.heap,i.next⟩
       match e with
       | .normal=>fin true 0
       | .ret=>fin false 1
       | .exit id=>fin false (id+2)
       |_=>False
     |_=>False
  |_,_,_=>False
end
section
theorem F2.last{α β:Type}{R:α→β→Prop}:∀{m:List β}{l:List α}{x:β},F2 R l (m++[x])→F2 R l.dropLast m∧∃v,l.getLast?=some v∧R v x
 |[],[],_,h=>h.elim
 |[],[v],_,h=>⟨trivial,v,rfl,h.1⟩
 |[],_::_::_,_,h=>h.2.elim
 |_::_,[],_,h=>h.elim
 |b::m,[v],_,h=>by
  have:=F2.length h;simp at this
 |b::m,a::c::l,x,h=>by
  obtain⟨e,v,f,g⟩:=F2.last (m:=m) (l:=c::l) (x:=x) h.2;exact⟨⟨h.1,e⟩,v,by rw[List.getLast?_cons_cons];exact f,g⟩
theorem xa{R:V→Value→Prop}:∀(ps:List Tmp)(vs:List V)(us:List Value){slots:List V}{t:Array Value},F2 R slots t.toList→F2 R vs us→
 F2 R (AU slots (ps.zip vs)) ((ps.zip us).foldl (λt(p:Tmp×Value)=>t.setIfInBounds p.1 p.2) t).toList
 |[],_,_,_,_,h,_=>h
 |_::_,[],[],_,_,h,_=>h
 |_::_,[],_::_,_,_,_,a=>a.elim
 |_::_,_::_,[],_,_,_,a=>a.elim
 |p::ps,v::vs,u::us,slots,t,h,a=>by
  refine xa ps vs us (slots:=slots.set p v) (t:=t.setIfInBounds p u) ?_ a.2;rw[Array.toList_setIfInBounds];exact F2.set h p a.1
theorem rf:∀(l:List (Tmp×Value))(t:Array Value),(l.foldl (λt(p:Tmp×Value)=>t.setIfInBounds p.1 p.2) t).size=t.size
 |[],_=>rfl
 |p::l,t=>by rw[List.foldl_cons,rf l];simp
theorem wI.mvL{B:eB}{l:Nat}{r:Loop}{ρ ρ':Nat→Pl}{w w':World}{h h':Nat→Option Ch}{f:List Deferred}(i:wI B ρ w h f)(a:D2 l ρ w h ρ' w' h')(j:w.heap[l]?=some (.loop r)):wI B ρ' w' h' f:=
 let⟨z,e,m,n⟩:=i
 ⟨z,e,m,λD o=>let⟨p,s,b,c,g⟩:=n D o;⟨p,s,bq b a.size,(a.block D b (λe=>by subst e;rw[j]at c;cases c) g).trans c,λq=>g (a.own D b q)⟩⟩
section
variable{P:Program}{Γ:bu}{R:Nat}{B:eB}{J:It}{Q:Kn}{σ:St}
theorem TI.yield(hΓ:aP P Γ){id:Nat}{ops:Array Oper}{x r:List Oper}{o:Oper}{f:Operand}{args:Array Operand}(hs:oe ops.toList=some (x,o,f,args,r))
 (h:vcY P Γ J.n J.ps J.asg J.body ops x o f args r σ Q):TI P R B J (.region id ops false) σ Q:=by
 intro ρ a w m hr;obtain⟨⟨h1,h2,h3⟩,h⟩:=h;obtain⟨hl,ty,b5⟩:=tK hs;have a4:∀y∈ops.toList,od y=true:=λy N=>cM.1 h1 y N;have O:∀i:Nat,ops[i]?=(x++o::r)[i]?:=λi=>by rw[←hl];simp
 have b6:ops.size=x.length+(1+r.length):=by have:=aI ac hl;simp at this;omega
 rw[←wpIn_wide (n:=0)];refine wpIn_region (F:=gW none) ?_
 have b7:List.range ops.size=pn 0 x.length++(x.length::pn (x.length+1) r.length):=by
  rw[List.range_eq_range',b6,←List.range'_append_1,bK,fj 1 r.length,List.range'_succ]
 rw[b7];refine pK hΓ (ro:=none) x 0 ⟨σ.slots.take J.n,σ.heap,σ.next⟩ ρ a w (λy N=>a4 y (by rw[hl];exact cG _ N)) (λi y hi=>by rw[bK,O,cH (dd.1 hi).1];exact hi) hr.sub (bS ?_ h);intro g hq ρ1 E w1 a6 G;have c:=hr.back a6 G;split at hq
 case h_2=>exact hq.elim
 rename_i l1 l2 b8 b9 c0;obtain⟨rfl,hv⟩:=hq;have tl:=F2.imp (λ_ _=>aS.evo G.mv.evo a6) hr.sl.2;generalize hT:σ.slots.drop J.n=T at*;obtain⟨t1,v,t2,t3⟩:=F2.last tl;obtain⟨t4,v5,t5,t6⟩:=F2.last t1;rw[c0]at t5;have t5:=Option.some.inj t5;subst t5
 have c1:l1=J.l:=by
  have:=aH.1 t6;simp[bf,Rd]at this;exact this.symm
 subst c1;rw[b9]at t2;have t2:=Option.some.inj t2;subst t2
 have c2:m=0:=by
  have:=aH.1 t3;simp[bf,Sc.val]at this;exact this
 subst c2
 have c3:E.eval f= .func (.yield J.l) #[] #[]:=by
  have:=ff G.slots f;rw[b8]at this;have:=aH.1 this;simp[bf,Rd]at this;exact this
 have s:ops[x.length]?=some o:=by rw[O,bB (aC _),Nat.sub_self];rfl
 rw[wpOpsIn_cons];unfold wpOpIn;simp only[s];rw[an (by simp[Region.wanted,h2])];refine⟨λ_ _=>trivial,?_⟩
 have a7:(o.semAt (gW none).round E.eval).run P w1= .ok (.round J.l J.fn ((J.ps.zip (args.map E.eval)).foldl (λA(t,a)=>A.setIfInBounds t a) J.tmps) J.asg J.body) w1:=by
  have N:=run_yield (P:=P) (args:= #[]++args.map E.eval) c.rc (by simp[It.rcd,h3]);rw[show(gW none).round=none from rfl,Oper.semAt_none];simp only[execOp,b5,resolve,c3,Deferred.ofValue,bE,bt,aW,invoke];rw[N];simp[It.rcd]
 rw[a7,Oper.uponIn_round];refine⟨ra,roundIn_of_wpIn trivial ?_⟩
 have S:(J.ps.zip (args.map E.eval)).foldl (λA(t,a)=>A.setIfInBounds t a) J.tmps=(J.ps.toList.zip (args.toList.map E.eval)).foldl (λt(p:Tmp×Value)=>t.setIfInBounds p.1 p.2) J.tmps:=by
  rw[←Array.foldl_toList];simp
 rw[S]
 have rc:eY g.next ⟨B.F,ρ1,w1,aV g.heap,J.tmps.size,false⟩ ⟨AU T.dropLast.dropLast (J.ps.toList.zip (args.toList.map (dp g.slots))),g.heap,g.next⟩ ρ1 {tmps:=(J.ps.toList.zip (args.toList.map E.eval)).foldl (λt(p:Tmp×Value)=>t.setIfInBounds p.1 p.2) J.tmps,defers:=[]} w1:=
  ⟨.nil rfl,xa _ _ _ t4 (jq (λy=>ff G.slots y) _),G.heap,Mv.refl _ _ _,G.fresh,λ_ _=> .inl rfl,aC _,rf _ _⟩
 refine wpIn_mono (F:=gW (some J.l)) (EQ (ro:=some J.l) hΓ J.asg _ _ hv _ ρ1 _ w1 rc) ?_;rintro e a2 w2 ⟨s2,ρ2,q2,c4,C⟩;cases e with
 |normal=>
  have U:w2.heap[J.l]?=some (.loop (J.rcd 0)):=(C.mv.block J.l c.lt c.no).trans c.rc;have W:¬oJ ρ2 (aV s2.heap) J.l:=λq=>c.no (C.mv.own J.l c.lt q);have H:J.l<w2.heap.size:=bq c.lt C.mv.size;refine⟨_,run_beginRound U rfl,?_⟩;generalize X:({J.rcd 0 with state:= .busy}:Loop)=K;obtain⟨c5,a8⟩:=C.heap.put (.loop K) (λo s=>by rw[U]at s;cases s;rfl) W;have c6:a2.defers=[]:=C.defers.no rfl
  have rb:eY s2.next ⟨B.F,ρ2,w2.putObj J.l (.loop K),aV s2.heap,a2.tmps.size,false⟩ s2 ρ2 a2 (w2.putObj J.l (.loop K)):=
   ⟨.nil c6,F2.imp (λ_ _=>aS.evo (a8.evo (λo s=>by rw[U]at s;cases s;rfl)) (dK.refl _)) C.slots,c5,Mv.refl _ _ _,C.fresh,λ_ _=> .inl rfl,aC _,rfl⟩
  refine wpIn_mono (F:=gW (some J.l)) (EQ (ro:=some J.l) hΓ J.body _ _ q2 _ ρ2 a2 _ rb) ?_;rintro e3 a3 w3 ⟨Y,ρ3,q3,c7,L⟩;have a9:(w2.putObj J.l (.loop K)).heap[J.l]?=some (.loop K):=World.putObj_heap_same H;have j:J.l<(w2.putObj J.l (.loop K)).heap.size:=by rw[World.putObj_size];exact H
  have b0:w3.heap[J.l]?=some (.loop K):=(L.mv.block J.l j W).trans a9;have b1:¬oJ ρ3 (aV Y.heap) J.l:=λq=>W (L.mv.own J.l j q);have b2:J.l<w3.heap.size:=bq j L.mv.size
  have fin:∀(b:Option Code)(u:Nat),({K with state:=if b.isNone then .ready else .done,pending:=b}:Loop)=J.rcd u→
   (iI P Γ ops r ⟨eM g.slots o.dst (V.val false [.k (.bool b.isNone)]),Y.heap,Y.next⟩).sat (λs4=>Q .normal ⟨s4.slots++(T.dropLast++[V.val false [.k (.i64 (u:Int))]]),s4.heap,s4.next⟩)→
   ∃v z,(Instr.endRound J.l b).run P w3= .ok v z∧wpOpsIn (gW none) 0 P ops (λe a' z=>∃σ' ρ' m',Q e σ'∧hH R B J σ' ρ' a' z m') (pn (x.length+1) r.length) (E.put o.dst v) z:=by
   intro b u b3 hq;refine⟨_,_,run_endRound b b0,?_⟩;rw[b3];obtain⟨c8,c9⟩:=L.heap.put (.loop (J.rcd u)) (λo s=>by rw[b0]at s;cases s;rfl) b1;have ch:D2 J.l ρ1 w1 (aV g.heap) ρ3 (w3.putObj J.l (.loop (J.rcd u))) (aV Y.heap):=C.mv.toL.trans (a8.trans (L.mv.toL.trans c9));have ev:=ch.evo (F:=B.F) (λo s=>by have hc:=c.rc;rw[hc]at s;cases s;rfl);have hx:dK ρ1 ρ3:=c4.trans c7;have a0:g.slots.length=J.n:=by rw[F2.length G.slots];simpa using c.sz
   have D:(eM g.slots o.dst (V.val false [.k (.bool b.isNone)])).length=J.n:=by cases o.dst<;>simp[eM,a0]
   have d0:F2 (aS (w3.putObj J.l (.loop (J.rcd u))) (Av B.F ρ3 (aV Y.heap)) ρ3) (eM g.slots o.dst (V.val false [.k (.bool b.isNone)])) (E.put o.dst (.bool b.isNone)).tmps.toList:=
    ni (F2.imp (λ_ _=>aS.evo ev hx) G.slots) o.dst (aH.2 rfl)
   have b4:hH R B J ⟨eM g.slots o.dst (V.val false [.k (.bool b.isNone)])++(T.dropLast++[V.val false [.k (.i64 (u:Int))]]),Y.heap,Y.next⟩ ρ3 (E.put o.dst (.bool b.isNone)) (w3.putObj J.l (.loop (J.rcd u))) u:=by
    refine⟨⟨c.rel.defers.mvL ch c.rc,?_,c8,c.rel.mv.transL ch c.ge,L.fresh,tJ c.rel.root (n:=g.next) (λk hk=>?_) c.rel.rn,?_,?_⟩,?_,?_,World.putObj_heap_same b2,c.ge,b1⟩
    ·rw[It.act_list];exact F2.append d0 (F2.append (F2.imp (λ_ _=>aS.evo ev hx) t1) ⟨aH.2 rfl,trivial⟩)
    ·rcases L.root k (bq hk C.rn)with e|e
     ·rw[e];exact C.root k hk
     ·exact .inr e
    ·exact bA c.rel.rn (bA C.rn L.rn)
    ·have h1:=c.rel.len;rw[re]at h1⊢;rw[iU];exact h1
    ·cases o.dst<;>exact c.df
    ·rw[iU];exact c.sz
   have d1:(eM g.slots o.dst (V.val false [.k (.bool b.isNone)])++(T.dropLast++[V.val false [.k (.i64 (u:Int))]])).take J.n=eM g.slots o.dst (V.val false [.k (.bool b.isNone)]):=by rw[←D,List.take_left]
   have d2:(eM g.slots o.dst (V.val false [.k (.bool b.isNone)])++(T.dropLast++[V.val false [.k (.i64 (u:Int))]])).drop J.n=T.dropLast++[V.val false [.k (.i64 (u:Int))]]:=by rw[←D,List.drop_left]
   have M:=b4.sub;simp only[d1]at M
   have:=pK hΓ (ro:=none) (n:=0) (rest:=[]) (ops:=ops) (Q:=λe a' z=>∃σ' ρ' m',Q e σ'∧hH R B J σ' ρ' a' z m') r (x.length+1) _ ρ3 _ _ (λy N=>a4 y (by rw[hl];exact List.mem_append_right _ (aE _ N))) (λi y hi=>by rw[O,bB (by omega),show x.length+1+i-x.length=i+1 by omega,List.getElem?_cons_succ];exact hi) M
    (bS (λs4 q ρ5 a5 w5 d3 r5=>by
     have:=b4.back d3 r5;rw[d2]at this;exact⟨_,ρ5,u,q,this⟩) hq)
   rw[bj]at this;exact this
  cases e3 with
  |normal=>
   obtain⟨v,z,g1,g2⟩:=fin none 0 (by rw[←X];rfl) q3;exact⟨v,z,g1,g2⟩
  |ret=>
   obtain⟨v,z,g1,g2⟩:=fin (some .ret) 1 (by rw[←X];rfl) q3;exact⟨v,z,g1,g2⟩
  |exit i=>
   obtain⟨v,z,g1,g2⟩:=fin (some (.exit i)) (i+2) (by rw[←X];simp[It.rcd,ER]) q3;exact⟨v,z,g1,g2⟩
  |_=>exact q3.elim
 |_=>exact q2.elim
end
end
section
def cOk(n:Nat):Operand→Bool
 | .tmp t=>decide (t<n)
 |_=>true
section
variable(P:Program)(Γ:bu)(R N:Nat)(A:dG)(n:Nat)(ps:Array Tmp)(asg body:Code)
def lN:Code→Option Nat→St→Kn→Prop
 | .skip,none,s,Q=>Q .normal s
 | .region _ i h,none,s,Q=>match oe i.toList with
   |some (x,o,f,args,r)=>h=false∧vcY P Γ n ps asg body i x o f args r s Q
   |none=>(KI P Γ i h ⟨s.slots.take n,s.heap,s.next⟩).sat λe=>Q .normal ⟨e.slots++s.slots.drop n,e.heap,e.next⟩
 | .seq x y,none,s,Q=>match tI A.joins ((gu y).map (·+1000))with
   |some c=>lN x none s (fo (λe=>eZ R c e c.inv) Q)∧ju c.ps (λo=>c.inv o→lN y none (eN c.ps N o) Q) c.ps.length 0
   |none=>lN x none s (fo (λe=>lN y none e Q) Q)
 | .seq x y,some g,s,Q=>if(findLabel x g).isSome then lN x (some g) s (fo (λe=>lN y none e Q) Q)else lN y (some g) s Q
 | .cond c x y,none,s,Q=>cOk n c=true∧match dp s.slots c with
   | .val false [.k (.bool true)]=>lN x none s Q
   | .val false [.k (.bool false)]=>lN y none s Q
   | .val false [.d .bl b]=>(b=true→lN x none (kE s c true) Q)∧(b=false→lN y none (kE s c false) Q)
   |_=>False
 | .block id c,none,s,Q=>lN c none s (o9 id Q)
 | .scope c,none,s,Q=>match tI A.jumps (gu c)with
   |some (g,cut)=>(findLabel c g).isSome=true∧lN c none s (jJ g (λe=>eZ R cut e cut.inv) Q)∧
    ju cut.ps (λo=>cut.inv o→lN c (some g) (eN cut.ps N o) (jJ g (λe=>eZ R cut e λj=>cut.inv j∧cut.mu j<cut.mu o) Q)) cut.ps.length 0
   |none=>lN c none s (KJ Q)
 | .label _,none,s,Q=>Q .normal s
 | .label l,some g,s,Q=>if l==g then Q .normal s else False
 | .goto g,none,s,Q=>Q (.goto g) s
 | .exit id,none,s,Q=>Q (.exit id) s
 | .ret,none,s,Q=>Q .ret s
 |_,_,_,_=>False
end
section
variable{P:Program}{Γ:bu}{R:Nat}{B:eB}{J:It}{A:dG}{Q:Kn}{σ:St}{ρ:Nat→Pl}{a:Act}{w:World}{m N:Nat}
theorem TI.seq{x y:Code}(h:TI P R B J x σ (fo (λσ'=>TI P R B J y σ' Q) Q)):TI P R B J (.seq x y) σ Q:=by
 intro ρ a w m c;refine wp_seq (wp_mono (h ρ a w m c) ?_);rintro e f g ⟨σ',ρ',b,q,r⟩;cases e with
 |normal=>exact q ρ' f g b r
 |_=>exact⟨σ',ρ',b,q,r⟩
theorem TI.mono{c:Code}{b:Kn}(h:TI P R B J c σ Q)(f:∀e σ,Q e σ→b e σ):TI P R B J c σ b:=
 λρ a w m g=>wp_mono (h ρ a w m g) λe _ _⟨σ',ρ',i,q,r⟩=>⟨σ',ρ',i,f e σ' q,r⟩
theorem hH.enter{ps:List cc}{y:aN ps}(b:hH R B J σ ρ a w m)(c:B.n=N)(h:qY R σ ps=some y):∃ρ',hH R B J (eN ps N y) ρ' a w m:=by
 obtain⟨ρ',e,f⟩:=qZ b.rel c h;exact⟨ρ',e,b.df,b.sz,b.rc,b.ge,λq=>b.no (f J.l b.lt q)⟩
theorem TI.enter{c:Code}{cut:tG}{y:aN cut.ps}(e:B.n=N)(f:qY R σ cut.ps=some y)(h:TI P R B J c (eN cut.ps N y) Q):TI P R B J c σ Q:=λρ a w m g=>
 let⟨ρ',b⟩:=g.enter e f
 h ρ' a w m b
theorem TI.block{id:Nat}{c:Code}(h:TI P R B J c σ (o9 id Q)):TI P R B J (.block id c) σ Q:=by
 intro ρ a w m f;refine wp_block (wp_mono (h ρ a w m f) ?_);rintro e i j ⟨σ',ρ',b,q,r⟩;cases e with
 |exit g=>
  simp only[Exit.inBlock];simp only[o9]at q;split
  ·rename_i e;rw[an e]at q;exact⟨σ',ρ',b,q,r⟩
  ·rename_i e;rw[ag e]at q;exact⟨σ',ρ',b,q,r⟩
 |_=>exact⟨σ',ρ',b,q,r⟩
theorem TI.scope{c:Code}(h:TI P R B J c σ (KJ Q)):TI P R B J (.scope c) σ Q:=by
 intro ρ a w m b;refine wp_scope_straight (wp_mono (h ρ a w m b) ?_);rintro e g i ⟨σ',ρ',f,q,r⟩;cases e with
 |goto l=>exact q.elim
 |_=>exact⟨σ',ρ',f,q,r⟩
theorem TI.scopeJ{c rest:Code}{l:Nat}{cut:tG}(M:B.n=N)(W:findLabel c l=some rest)(first:TI P R B J c σ (jJ l (λs'=>eZ R cut s' cut.inv) Q))
 (v:∀o:aN cut.ps,o.1<cut.ps.length→cut.inv o→TI P R B J rest (eN cut.ps N o) (jJ l (λs'=>eZ R cut s' λo'=>cut.inv o'∧cut.mu o'<cut.mu o) Q)):TI P R B J (.scope c) σ Q:=by
 intro ρ a w m y b k x;have O:gotoIn l (.inScope c::k)=some (.code rest:: .inScope c::k):=by simp[gotoIn,W]
 have C:∀z(o:aN cut.ps)ρ a w m,cut.mu o=z→o.1<cut.ps.length→cut.inv o→hH R B J (eN cut.ps N o) ρ a w m→
  ∃e S U,(∃σ' ρ' X,Q e σ'∧hH R B J σ' ρ' S U X)∧Arrives P (lone (b.at a (.code rest:: .inScope c::k)) x w) b k x e S U:=by
  intro z
  induction z using Nat.strongRecOn with
  |_ z Y=>
   intro o ρ a w m hm D hI y;obtain⟨e,j,p,⟨σ1,ρ1,q,h,g⟩,f⟩:=v o D hI ρ a w m y b (.inScope c::k) x;cases e with
   |normal=>exact⟨.normal,j,p,⟨σ1,ρ1,q,h,g⟩,Steps.trans f (.one step_inScope)⟩
   |exit id=>exact⟨.exit id,j,p,⟨σ1,ρ1,q,h,g⟩,λE F=>f E (by simp[exitTo,F])⟩
   |goto l'=>
    simp only[jJ]at h;split at h
    case isFalse=>exact h.elim
    rename_i G;subst G;obtain⟨o',r,s,a0⟩:=fx h;obtain⟨ρ2,t⟩:=g.enter M r;have:=dm r;obtain⟨H,K,L,u,i⟩:=Y _ (by omega) o' ρ2 j p q rfl (by omega) s t;exact⟨H,K,L,u, .of_steps (f _ O) i⟩
   |ret=>exact⟨_,j,p,⟨σ1,ρ1,q,h,g⟩,f⟩
   |panic ch=>exact⟨_,j,p,⟨σ1,ρ1,q,h,g⟩,f⟩
   |outgrown=>exact⟨_,j,p,⟨σ1,ρ1,q,h,g⟩,f⟩
 obtain⟨e,j,p,⟨σ1,ρ1,q,h,g⟩,f⟩:=first ρ a w m y b (.inScope c::k) x
 cases e with
 |normal=>exact⟨.normal,j,p,⟨σ1,ρ1,q,h,g⟩, .head step_scope (Steps.trans f (.one step_inScope))⟩
 |exit id=>exact⟨.exit id,j,p,⟨σ1,ρ1,q,h,g⟩,λE F=> .head step_scope (f E (by simp[exitTo,F]))⟩
 |goto l'=>
  simp only[jJ]at h;split at h
  case isFalse=>exact h.elim
  rename_i G;subst G;obtain⟨o',r,s⟩:=fx h;obtain⟨ρ2,t⟩:=g.enter M r;have:=dm r;obtain⟨H,K,L,u,i⟩:=C _ o' ρ2 j p q rfl (by omega) s t;exact⟨H,K,L,u, .of_steps (.head step_scope (f _ O)) i⟩
 |ret=>exact⟨_,j,p,⟨σ1,ρ1,q,h,g⟩, .of_steps (.one step_scope) f⟩
 |panic ch=>exact⟨_,j,p,⟨σ1,ρ1,q,h,g⟩, .of_steps (.one step_scope) f⟩
 |outgrown=>exact⟨_,j,p,⟨σ1,ρ1,q,h,g⟩, .of_steps (.one step_scope) f⟩
theorem ES{c:Operand}(b:cOk a.tmps.size c=true):(J.act a m).eval c=a.eval c:=by
 cases c with
 |tmp t=>
  have e:t<a.tmps.size:=ai b;simp only[Act.eval,It.act,Array.getD_eq_getD_getElem?];rw[Array.getElem?_append_left e]
 |_=>rfl
def TIF(P:Program)(R:Nat)(B:eB)(J:It)(c:Code)(fr:Option Nat)(σ:St)(Q:Kn):Prop:=match fr with
 |none=>TI P R B J c σ Q
 |some l=>∀b,findLabel c l=some b→TI P R B J b σ Q
theorem RK(K:aP P Γ)(hL:bg Γ)(U:P.follows .mixedOrders=true)(L:B.n=N):∀(c:Code)(fr:Option Nat)(σ:St)(Q:Kn),lN P Γ R N A J.n J.ps J.asg J.body c fr σ Q→TIF P R B J c fr σ Q:=by
 intro c
 induction c with
 |skip=>
  intro fr σ Q h;cases fr with
  |none=>exact λρ _ _ m i=>wp_skip ⟨σ,ρ,m,h,i⟩
  |some l=>exact λ_ g=>by simp[findLabel]at g
 |region id W M=>
  intro fr σ Q h;cases fr with
  |some l=>exact λ_ g=>by simp[findLabel]at g
  |none=>
   simp only[lN]at h;split at h
   ·rename_i x o f args r t;obtain⟨rfl,h⟩:=h;exact TI.yield K t h
   ·exact TI.region K hL U h
 |seq x y p j=>
  intro fr σ Q h;cases fr with
  |none=>
   simp only[lN]at h;split at h
   ·rename_i cut v;obtain⟨C,D⟩:=h;refine TI.seq ((p none _ _ C).mono ?_);intro e σ' s;cases e with
    |normal=>
     obtain⟨o,O,E⟩:=fx s;have F:=dm O;exact TI.enter L O (j none _ _ (fW D o (by omega) (by omega) E))
    |_=>exact s
   ·refine TI.seq ((p none _ _ h).mono ?_);intro e σ' s;cases e with
    |normal=>exact j none _ _ s
    |_=>exact s
  |some l=>
   intro q g;simp only[lN]at h;simp only[findLabel]at g;split at h
   ·rename_i t;split at g
    ·rename_i r i;simp at g;subst g;refine TI.seq ((p (some l) _ _ h r i).mono ?_);intro e σ' s;cases e with
     |normal=>exact j none _ _ s
     |_=>exact s
    ·rename_i i;rw[i]at t;simp at t
   ·rename_i t;split at g
    ·rename_i r i;rw[i]at t;simp at t
    ·exact j (some l) _ _ h q g
 |cond c x y p j=>
  intro fr σ Q h;cases fr with
  |some l=>exact λ_ g=>by simp[findLabel]at g
  |none=>
   simp only[lN]at h;obtain⟨G,h⟩:=h;intro ρ a w m i;have H:(J.act a m).eval c=a.eval c:=ES (by rw[i.sz];exact G);have v:=w9 (P:=P) i.rel (c:=c);rw[H]at v;split at h
   ·rename_i z;exact wp_cond_true (v.1 _ z) (p none _ _ h ρ a w m i)
   ·rename_i z;exact wp_cond_false (v.1 _ z) (j none _ _ h ρ a w m i)
   ·rename_i b z;obtain⟨X,Y⟩:=v.2 b z;have ek:aV (kE σ c b).heap=aV σ.heap:=by cases c<;>rfl
    have S:hH R B J (kE σ c b) ρ a w m:=⟨Y,i.df,i.sz,i.rc,i.ge,by rw[ek];exact i.no⟩;refine wp_cond_split X (λe=>?_) (λe=>?_)
    ·subst e;exact p none _ _ (h.1 rfl) ρ a w m S
    ·subst e;exact j none _ _ (h.2 rfl) ρ a w m S
   ·exact h.elim
 |block id c u=>
  intro fr σ Q h;cases fr with
  |some l=>exact λ_ g=>by simp[findLabel]at g
  |none=>exact TI.block (u none _ _ h)
 |scope c u=>
  intro fr σ Q h;cases fr with
  |some l=>exact λ_ g=>by simp[findLabel]at g
  |none=>
   simp only[lN]at h;split at h
   ·rename_i l cut _;obtain⟨C,D,h3⟩:=h;rw[cE]at C;obtain⟨q,g⟩:=C;exact TI.scopeJ L g (u none _ _ D) λo F E=>u (some l) _ _ (fW h3 o (by omega) (by omega) E) q g
   ·exact TI.scope (u none _ _ h)
 |label l'=>
  intro fr σ Q h;cases fr with
  |none=>exact λρ _ _ m i=>wp_label ⟨σ,ρ,m,h,i⟩
  |some l=>
   intro q g;simp only[lN]at h;split at h
   ·rename_i e;simp only[findLabel,e,if_true,Option.some.injEq]at g;subst g;exact λρ _ _ m i=>wp_skip ⟨σ,ρ,m,h,i⟩
   ·exact h.elim
 |exit id=>
  intro fr σ Q h;cases fr with
  |some l=>exact λ_ g=>by simp[findLabel]at g
  |none=>exact λρ _ _ m i=>wp_exit ⟨σ,ρ,m,h,i⟩
 |goto l=>
  intro fr σ Q h;cases fr with
  |some l=>exact λ_ g=>by simp[findLabel]at g
  |none=>exact λρ _ _ m i=>wp_goto ⟨σ,ρ,m,h,i⟩
 |ret=>
  intro fr σ Q h;cases fr with
  |some l=>exact λ_ g=>by simp[findLabel]at g
  |none=>exact λρ _ _ m i=>wp_ret ⟨σ,ρ,m,h,i⟩
 |loop c u=>intro fr σ Q h;cases fr<;>simp[lN]at h
 |rangeFunc f ps x y p j=>intro fr σ Q h;cases fr<;>simp[lN]at h
 |refuse a0=>intro fr σ Q h;cases fr<;>simp[lN]at h
end
end
section
def yU(n:Nat)(Q:Kn):Kn:=λe s=>match e with
 | .normal=>fin s
 | .ret=>fin s
 |_=>False
where fin (s:St):Prop:=match(s.slots.drop n).getLast? with
 |some (.val false [.k (.i64 m)])=>if m=0 then Q .normal ⟨(s.slots.drop n).dropLast.dropLast,s.heap,s.next⟩else if m=1 then Q .ret ⟨(s.slots.drop n).dropLast.dropLast,s.heap,s.next⟩else Q (.exit (m-2).toNat) ⟨(s.slots.drop n).dropLast.dropLast,s.heap,s.next⟩
 |_=>False
def uR(P:Program)(f:FuncId):Func:=(P.funcs[f]?).getD default
def uS(P:Program)(Γ:bu)(R N:Nat)(A:dG)(g:Operand)(ps:Array Tmp)(b a:Code)(s:St)(Q:Kn):Prop:=
 match dp s.slots g with
 | .val false [.fn f [] cap]=>(eL P f=true∧1+cap.length≤(uR P f).ntmps∧(uR P f).results.toList.isEmpty=true)∧
   ∀l:Nat,lN P Γ R ((uR P f).ntmps+(N+2)) A (uR P f).ntmps ps b a ((uR P f).body.getD .skip) none
    ⟨(sc (.d .yl l)::cap.map λp=>sc (.ptr p.1 p.2))++ak ((uR P f).ntmps-(1+cap.length)) (.tup [])++((s.slots++[sc (.d .yl l)])++[sc (.k (.i64 0))]),s.heap,s.next⟩ (yU (uR P f).ntmps Q)
 |_=>False
theorem F2.repl{w:World}{A:Nat→Prop}{ρ:Nat→Pl}:∀(m:Nat),F2 (aS w A ρ) (ak m (.tup [])) (ak m undef)
 |0=>trivial
 |m+1=>⟨dZ,F2.repl m⟩
theorem F2.ptrs{w:World}{A:Nat→Prop}{ρ:Nat→Pl}:∀{l:List (Nat×Nat)}{vs:List Value},F2 (jZ ρ) l vs→F2 (aS w A ρ) (l.map λp=>sc (.ptr p.1 p.2)) vs
 |[],[],_=>trivial
 |[],_::_,h=>h.elim
 |_::_,[],h=>h.elim
 |_::_,v::_,⟨a,h⟩=>⟨aH.2 ⟨v,a,rfl⟩,F2.ptrs h⟩
section
variable{P:Program}{Γ:bu}{R N:Nat}{B:eB}{A:dG}{Q:Kn}{σ:St}
theorem ET(hΓ:aP P Γ)(hL:bg Γ)(hm:P.follows .mixedOrders=true){g:Operand}{ps:Array Tmp}{asg body:Code}{ρ:Nat→Pl}{a:Act}{w:World}(hN:B.n=N)(hk:B.dk=true)(hr:eY R B σ ρ a w)
 (h:uS P Γ R N A g ps asg body σ Q):(Code.rangeFunc g ps asg body).wp P (λe a' w'=>∃σ' ρ',Q e σ'∧eY R B σ' ρ' a' w') a w:=by
 unfold uS at h;split at h
 case h_2=>exact h.elim
 rename_i f cap hg;obtain⟨⟨hc,hn,hres⟩,h⟩:=h;have hgv:=ff hr.slots g;rw[hg]at hgv;obtain⟨fs,cs,e1,e2,e3⟩:=aH.1 hgv;have e1:a.eval g= .func (.func f) fs.toArray cs.toArray:=by simpa using e1
 have hfs:fs=[]:=by cases fs with
  |nil=>rfl
  |cons _ _=>exact e2.elim
 subst hfs
 obtain⟨fn0,hf,hb0⟩:∃fn,P.funcs[f]?=some fn∧fn.body.isSome=true:=by
  unfold eL at hc;split at hc
  ·rename_i fn hf;rw[aF]at hc;exact⟨fn,hf,hc.2⟩
  ·cases hc
 have hfn:uR P f=fn0:=by unfold uR;rw[hf];rfl
 rw[hfn]at hn hres h;rw[cE]at hb0;obtain⟨c,hb⟩:=hb0;rw[hb,cZ]at h;rw[←wpIn_wide (n:=0)];refine wpIn_rangeFunc λfn _=>?_;have hrun:=run_enterLoop_outer (P:=P) (w:=w) fn a.tmps ps asg body;have hcl:cs.length=cap.length:=(F2.length e3).symm
 let w1:World:=(w.alloc (.deferred (some []))).alloc (.loop {state:= .ready,pending:=none,fn,tmps:=a.tmps,params:=ps,assign:=asg,body,defers:=w.heap.size})
 refine⟨w.heap.size+1,[mark w.heap.size],w1,⟨.fn (.func f) cs.toArray, #[.func (.yield (w.heap.size+1)) #[] #[]]⟩,w1,f, #[.func (.yield (w.heap.size+1)) #[] #[]]++cs.toArray,w1,hrun,?_,λ_ _=>trivial,?_,(λq=>by cases q),?_⟩
 ·simp only[resolve,e1,Deferred.ofValue,bt];simp[Act.eval]
 ·simp only[invoke];exact jr hc _ _
 have s1:=fp.alloc w (.deferred (some []));have s2:=fp.alloc (w.alloc (.deferred (some []))) (.loop {state:= .ready,pending:=none,fn,tmps:=a.tmps,params:=ps,assign:=asg,body,defers:=w.heap.size});obtain⟨p1,p2⟩:=hr.heap.same s1;obtain⟨p3,p4⟩:=p1.same s2;have hmv:Mv ρ w (aV σ.heap) ρ w1 (aV σ.heap):=p2.trans p4;have hsz1:w1.heap.size=w.heap.size+2:=by show((w.alloc _).alloc _).heap.size=_;rw[dR,dR]
 have hD:w1.heap[w.heap.size]?=some (.deferred (some [])):=by
  rw[s2.old _ (by rw[dR];omega)];exact World.alloc_heap_new w _
 have hl:w1.heap[w.heap.size+1]?=some (.loop {state:= .ready,pending:=none,fn,tmps:=a.tmps,params:=ps,assign:=asg,body,defers:=w.heap.size}):=by
  have:=World.alloc_heap_new (w.alloc (.deferred (some []))) (.loop {state:= .ready,pending:=none,fn,tmps:=a.tmps,params:=ps,assign:=asg,body,defers:=w.heap.size});rw[dR]at this;exact this
 have hown:∀b,oJ ρ (aV σ.heap) b→b<w.heap.size:=λb⟨k,c,q1,q2,q3⟩=>(hr.heap.fr k c b q1 q2 q3).1
 let J:It:=⟨w.heap.size+1,w.heap.size,fn,a.tmps,ps,asg,body,fn0.ntmps,mark w.heap.size::a.defers⟩
 let B':eB:=⟨B.F,B.ρ,B.w,B.h,fn0.ntmps+(N+2),true⟩
 have hdf:wI B' ρ w1 (aV σ.heap) (mark w.heap.size::a.defers):=by
  obtain⟨z,z1,z2,z3⟩:=hr.defers;refine⟨w.heap.size::z,by rw[z1];rfl,lK.2 ⟨λq=>?_,z2⟩,λD hD'=>?_⟩
  ·have:=(z3 _ q).2.2.1;omega
  ·rcases br.1 hD' with rfl|hD'
   ·exact⟨rfl,hr.mv.size,by omega,hD,λq=>by have:=hown _ q;omega⟩
   ·obtain⟨y0,y1,y2,y3,y4⟩:=z3 D hD';exact⟨rfl,y1,by omega,(hmv.block D y2 y4).trans y3,y4⟩
 have hvs:=h (w.heap.size+1);refine q9 (ro:=none) (calls_of_wp hf hb ?_);have hI:=RK (J:=J) (B:=B') (N:=fn0.ntmps+(N+2)) hΓ hL hm rfl c none _ _ hvs
 have hrI:hH R B' J ⟨(sc (.d .yl (w.heap.size+1))::cap.map λp=>sc (.ptr p.1 p.2))++ak (fn0.ntmps-(1+cap.length)) (.tup [])++((σ.slots++[sc (.d .yl (w.heap.size+1))])++[sc (.k (.i64 0))]),σ.heap,σ.next⟩ ρ
  {tmps:=(#[.func (.yield (w.heap.size+1)) #[] #[]]++cs.toArray)++Array.replicate (fn0.ntmps-(#[.func (.yield (w.heap.size+1)) #[] #[]]++cs.toArray:Array Value).size) undef,defers:=[]} w1 0:=by
  refine⟨⟨hdf,?_,p3,hr.mv.trans hmv,hr.fresh,hr.root,hr.rn,?_⟩,rfl,?_,hl,by have:=hr.mv.size;show B.w.heap.size≤w.heap.size+1;omega,λq=>by have:=hown _ q;exact absurd this (by show¬(w.heap.size+1<w.heap.size);omega)⟩
  ·rw[It.act_list];have hsl:=F2.imp (λ_ _=>aS.evo hmv.evo (dK.refl ρ)) hr.slots;have hy:F2 (aS w1 (Av B'.F ρ (aV σ.heap)) ρ) [sc (.d .yl (w.heap.size+1))] [.func (.yield (w.heap.size+1)) #[] #[]]:=⟨aH.2 rfl,trivial⟩;have hz:F2 (aS w1 (Av B'.F ρ (aV σ.heap)) ρ) [sc (.k (.i64 0))] [.int .i64 ((0:Nat):Int)]:=⟨aH.2 rfl,trivial⟩;refine F2.append ?_ (F2.append (F2.append hsl hy) hz)
   have e:((#[.func (.yield (w.heap.size+1)) #[] #[]]++cs.toArray)++Array.replicate (fn0.ntmps-(#[.func (.yield (w.heap.size+1)) #[] #[]]++cs.toArray:Array Value).size) undef:Array Value).toList=(.func (.yield (w.heap.size+1)) #[] #[]::cs)++ak (fn0.ntmps-(1+cap.length)) undef:=by
    simp[hcl,fj]
   show F2 _ _ ((#[.func (.yield (w.heap.size+1)) #[] #[]]++cs.toArray)++Array.replicate (fn0.ntmps-(#[.func (.yield (w.heap.size+1)) #[] #[]]++cs.toArray:Array Value).size) undef:Array Value).toList;rw[e];have hh:F2 (aS w1 (Av B'.F ρ (aV σ.heap)) ρ) (sc (.d .yl (w.heap.size+1))::cap.map λp=>sc (.ptr p.1 p.2)) (.func (.yield (w.heap.size+1)) #[] #[]::cs):=⟨aH.2 rfl,F2.ptrs e3⟩;exact F2.append hh (F2.repl _)
  ·rw[re];have:=hr.len;simp only[Array.size_append,Array.size_replicate,List.size_toArray,bd,cX,hcl,B',J];omega
  ·simp only[Array.size_append,Array.size_replicate,List.size_toArray,bd,cX,hcl,J];omega
 refine wp_mono (hI ρ _ w1 0 hrI) ?_;rintro e a' w' ⟨σ',ρ',m',hq,hr'⟩
 have hcd:yU.fin fn0.ntmps Q σ'→∃v,(results fn0 a'.tmps).run P w'= .ok v w'∧rangePost Fence.wide 0 P (w.heap.size+1) (λe a' w'=>∃σ' ρ',Q e σ'∧eY R B σ' ρ' a' w') {a with defers:=[mark w.heap.size]++a.defers} (.returned v) w':=by
  intro hq
  have hre:fn0.results= #[]:=by
   have:=List.isEmpty_iff.1 hres;exact Array.toList_eq_nil_iff.1 this
  refine⟨.tuple #[],by unfold results;rw[hre];simp[bt],?_⟩;have hrc:=hr'.rc;refine⟨_,_,run_endLoop hrc (by unfold It.rcd;dsimp only;split<;>simp),?_⟩;have hrl:∀o,w'.heap[w.heap.size+1]?=some o→MO o=false:=λo ho=>by rw[hrc]at ho;cases ho;rfl
  obtain⟨q1,q2⟩:=hr'.rel.heap.put (l:=w.heap.size+1) (.loop {J.rcd m' with state:= .exhausted}) hrl hr'.no;have hsl:=hr'.sl.2;obtain⟨t1,v,t2,t3⟩:=F2.last hsl;have t4:=(F2.last t1).1
  have hrel:eY R B ⟨(σ'.slots.drop fn0.ntmps).dropLast.dropLast,σ'.heap,σ'.next⟩ ρ' {a with defers:=[mark w.heap.size]++a.defers} (w'.putObj (w.heap.size+1) (.loop {J.rcd m' with state:= .exhausted})):=by
   refine⟨?_,F2.imp (λ_ _=>aS.evo (q2.evo hrl) (dK.refl _)) t4,q1,hr'.rel.mv.transL q2 hr'.ge,hr'.rel.fresh,hr'.rel.root,hr'.rel.rn,hr.len⟩;obtain⟨z,z1,z2,z3⟩:=hr'.rel.defers.mvL q2 hrc;exact⟨z,z1,z2,λD hD=>⟨hk,(z3 D hD).2⟩⟩
  unfold yU.fin at hq;rw[t2]at hq;split at hq
  case h_2=>exact hq.elim
  rename_i m hv;have hv:=Option.some.inj hv;subst hv
  have hmm:(m':Int)=m:=by
   have:=aH.1 t3;simp[bf,Sc.val]at this;exact this
  subst hmm;split at hq
  ·rename_i h0;have h0:m'=0:=by omega
   subst h0;exact⟨_,ρ',hq,hrel⟩
  ·rename_i h0;split at hq
   ·rename_i h1;have h1:m'=1:=by omega
    subst h1;exact wpIn_ret ⟨_,ρ',hq,hrel⟩
   ·rename_i h1;obtain⟨k,rfl⟩:∃k,m'=k+2:=⟨m'-2,by omega⟩;have:((k+2:Nat):Int)-2=(k:Int):=by omega
    rw[this,aG]at hq;exact wpIn_exit ⟨_,ρ',hq,hrel⟩
 cases e with
 |normal=>obtain⟨v,h1,h2⟩:=hcd hq;exact⟨hr'.df,v,h1,h2⟩
 |ret=>obtain⟨v,h1,h2⟩:=hcd hq;exact⟨hr'.df,v,h1,h2⟩
 |_=>exact hq.elim
end
end
section
section
variable(P:Program)(Γ:bu)(R n:Nat)(A:dG)
def RL(s:St)(t:Nat):St:=match s.slots.getD t (.tup [])with
 | .val false [.ptr k _]=>match aV s.heap k with
   |some (.cells l)=>⟨s.slots,mo s.heap [(k,some (.fc l))],s.next⟩
   |_=>s
 |_=>s
def RM(J L:List (Nat×tG))(k:Option Nat):Option tG:=match tI J k with
 |some c=>some c
 |none=>tI L (k.map (·+5000))
def vc:Code→Option Nat→List (Nat×tG)→St→Kn→Prop
 | .skip,none,L,s,Q=>Q .normal s
 | .region id f a,none,L,s,Q=>match aV A.splits id with
   |some (t,0)=>(KI P Γ f a (RL s t)).sat (Q .normal)
   |some (t,m)=>match s.slots.getD t (.tup [])with
    | .val false [.d .i64 x]=>(0≤x∧x<(m:Int))∧yT x (λq=>(KI P Γ f a (Wo s t q)).sat (Q .normal)) m
    | .val false [.k (.i64 _)]=>(KI P Γ f a s).sat (Q .normal)
    |_=>False
   |none=>(KI P Γ f a s).sat (Q .normal)
 | .seq x y,none,L,s,Q=>match RM A.joins L (gu y)with
   |some c=>vc x none L s (fo (λe=>eZ R c e c.inv) Q)∧ju c.ps (λo=>c.inv o→vc y none L (eN c.ps n o) Q) c.ps.length 0
   |none=>vc x none L s (fo (λe=>vc y none L e Q) Q)
 | .seq x y,some l,L,s,Q=>if(findLabel x l).isSome then vc x (some l) L s (fo (λe=>vc y none L e Q) Q)else vc y (some l) L s Q
 | .cond c x y,none,L,s,Q=>match dp s.slots c with
   | .val false [.k (.bool true)]=>vc x none L s Q
   | .val false [.k (.bool false)]=>vc y none L s Q
   | .val false [.d .bl b]=>(b=true→vc x none L (kE s c true) Q)∧(b=false→vc y none L (kE s c false) Q)
   |_=>False
 | .block id c,none,L,s,Q=>vc c none L s (o9 id Q)
 | .loop c,none,L,s,Q=>match tI (L++A.loops) (gu c)with
   |some cut=>eZ R cut s cut.inv∧ju cut.ps (λo=>cut.inv o→vc c none (cut.inn o++L) (eN cut.ps n o) (fo (λe=>eZ R cut e λh=>cut.inv h∧cut.mu h<cut.mu o) Q)) cut.ps.length 0
   |none=>AT A.unroll (vc c none L) s Q
 | .scope c,none,L,s,Q=>match tI A.jumps (gu c)with
   |some (l,cut)=>(findLabel c l).isSome=true∧vc c none L s (jJ l (λe=>eZ R cut e cut.inv) Q)∧
    ju cut.ps (λo=>cut.inv o→vc c (some l) (cut.inn o++L) (eN cut.ps n o) (jJ l (λe=>eZ R cut e λh=>cut.inv h∧cut.mu h<cut.mu o) Q)) cut.ps.length 0
   |none=>vc c none L s (KJ Q)
 | .label _,none,L,s,Q=>Q .normal s
 | .label i,some l,L,s,Q=>if i==l then Q .normal s else False
 | .goto l,none,L,s,Q=>Q (.goto l) s
 | .exit id,none,L,s,Q=>Q (.exit id) s
 | .ret,none,L,s,Q=>Q .ret s
 | .rangeFunc g j x y,none,L,s,Q=>uS P Γ R n A g j x y s Q
 |_,_,_,_,_=>False
end
def T(P:Program)(R n:Nat)(c:Code)(σ:St)(Q:Kn):Prop:=
 ∀(B:eB)(ρ:Nat→Pl)(a:Act)(w:World),B.n=n∧B.dk=true→eY R B σ ρ a w→c.wp P (λe b f=>∃σ' ρ',Q e σ'∧eY R B σ' ρ' b f) a w
def TF(P:Program)(R n:Nat)(c:Code)(fr:Option Nat)(σ:St)(Q:Kn):Prop:=match fr with
 |none=>T P R n c σ Q
 |some l=>∀a,findLabel c l=some a→T P R n a σ Q
section
variable{P:Program}{Γ:bu}{R n:Nat}{A:dG}{Q:Kn}{σ:St}
theorem T.seq{x y:Code}(h:T P R n x σ (fo (λσ'=>T P R n y σ' Q) Q)):T P R n (.seq x y) σ Q:=by
 intro B ρ a w hB b;refine wp_seq (wp_mono (h B ρ a w hB b) ?_);rintro e c f ⟨σ',ρ',q,r⟩;cases e with
 |normal=>exact q B ρ' c f hB r
 |_=>exact⟨σ',ρ',q,r⟩
theorem T.mono{c:Code}{b:Kn}(h:T P R n c σ Q)(f:∀e σ,Q e σ→b e σ):T P R n c σ b:=
 λB ρ a w hB g=>wp_mono (h B ρ a w hB g) λe _ _⟨σ',ρ',q,r⟩=>⟨σ',ρ',f e σ' q,r⟩
theorem T.enter{c:Code}{cut:tG}{y:aN cut.ps}(e:qY R σ cut.ps=some y)(h:T P R n c (eN cut.ps n y) Q):T P R n c σ Q:=λB ρ a w hB f=>
 let⟨ρ',b⟩:=iV f hB.1 e
 h B ρ' a w hB b
theorem T.region(c:aP P Γ)(hL:bg Γ)(e:P.follows .mixedOrders=true){id:Nat}{ops:Array Oper}{a:Bool}(h:(KI P Γ ops a σ).sat (Q .normal)):T P R n (.region id ops a) σ Q:=
 λ_ ρ _ _ _ f=>tF c hL e f (bS (λσ' q _ _ _ _ b=>⟨σ',_,q,b⟩) h)
theorem T.block{id:Nat}{c:Code}(h:T P R n c σ (o9 id Q)):T P R n (.block id c) σ Q:=by
 intro B ρ a w hB b;refine wp_block (wp_mono (h B ρ a w hB b) ?_);rintro e g i ⟨σ',ρ',q,r⟩;cases e with
 |exit f=>
  simp only[Exit.inBlock];simp only[o9]at q;split
  ·rename_i e;rw[an e]at q;exact⟨σ',ρ',q,r⟩
  ·rename_i e;rw[ag e]at q;exact⟨σ',ρ',q,r⟩
 |_=>exact⟨σ',ρ',q,r⟩
theorem T.scope{c:Code}(h:T P R n c σ (KJ Q)):T P R n (.scope c) σ Q:=by
 intro B ρ a w hB b;refine wp_scope_straight (wp_mono (h B ρ a w hB b) ?_);rintro e f g ⟨σ',ρ',q,r⟩;cases e with
 |goto l=>exact q.elim
 |_=>exact⟨σ',ρ',q,r⟩
theorem T.loopC{c:Code}{cut:tG}(h0:eZ R cut σ cut.inv)
 (round:∀o:aN cut.ps,o.1<cut.ps.length→cut.inv o→T P R n c (eN cut.ps n o) (fo (λs'=>eZ R cut s' λo'=>cut.inv o'∧cut.mu o'<cut.mu o) Q)):T P R n (.loop c) σ Q:=by
 intro B ρ a w hB t b k u
 have v:∀m(o:aN cut.ps)ρ a w,cut.mu o=m→o.1<cut.ps.length→cut.inv o→eY R B (eN cut.ps n o) ρ a w→
  ∃e r s,(∃σ' ρ',Q e σ'∧eY R B σ' ρ' r s)∧Arrives P (lone (b.at a (.code c:: .inLoop c::k)) u w) b k u e r s:=by
  intro m
  induction m using Nat.strongRecOn with
  |_ m H=>
   intro o ρ a w N y z t;obtain⟨e,j,p,⟨σ1,ρ1,h,g⟩,f⟩:=round o y z B ρ a w hB t b (.inLoop c::k) u;cases e with
   |normal=>
    obtain⟨o',q,C,J⟩:=fx h;obtain⟨ρ2,D⟩:=iV g hB.1 q;have:=dm q;obtain⟨K,L,M,E,i⟩:=H _ (by omega) o' ρ2 j p rfl (by omega) C D;exact⟨K,L,M,E, .of_steps (Steps.trans f (.one step_inLoop)) i⟩
   |exit id=>exact⟨_,j,p,⟨σ1,ρ1,h,g⟩, .pass (x:= .inLoop c) rfl (λ_ _=> .inl (by simp)) f⟩
   |goto l=>exact⟨_,j,p,⟨σ1,ρ1,h,g⟩, .pass (x:= .inLoop c) rfl (λ_ _=> .inl (by simp)) f⟩
   |ret=>exact⟨_,j,p,⟨σ1,ρ1,h,g⟩, .pass (x:= .inLoop c) rfl (λ_ _=> .inl (by simp)) f⟩
   |panic O=>exact⟨_,j,p,⟨σ1,ρ1,h,g⟩, .pass (x:= .inLoop c) rfl (λ_ _=> .inl (by simp)) f⟩
   |outgrown=>exact⟨_,j,p,⟨σ1,ρ1,h,g⟩, .pass (x:= .inLoop c) rfl (λ_ _=> .inl (by simp)) f⟩
 obtain⟨o,G,z⟩:=fx h0;obtain⟨ρ',F⟩:=iV t hB.1 G;have:=dm G;obtain⟨e,r,s,h,f⟩:=v _ o ρ' a w rfl (by omega) z F;exact⟨e,r,s,h, .of_steps (.one step_loop) f⟩
theorem T.loopUn{c:Code}{f:St→Kn→Prop}(z:∀σ Q,f σ Q→T P R n c σ Q):∀(m:Nat)(σ:St),AT m f σ Q→T P R n (.loop c) σ Q:=by
 have u:∀(m:Nat)(σ:St),AT m f σ Q→∀(B:eB)ρ a w,B.n=n∧B.dk=true→eY R B σ ρ a w→∀b k o,
  ∃e s t,(∃σ' ρ',Q e σ'∧eY R B σ' ρ' s t)∧Arrives P (lone (b.at a (.code c:: .inLoop c::k)) o w) b k o e s t:=by
  intro m
  induction m with
  |zero=>intro σ h;exact h.elim
  |succ m C=>
   intro σ h B ρ a w hB v b k o;obtain⟨e,q,r,⟨σ1,ρ1,j,i⟩,g⟩:=z _ _ h B ρ a w hB v b (.inLoop c::k) o;cases e with
   |normal=>
    obtain⟨D,E,F,y,p⟩:=C σ1 j B ρ1 q r hB i b k o;exact⟨D,E,F,y, .of_steps (Steps.trans g (.one step_inLoop)) p⟩
   |exit id=>exact⟨_,q,r,⟨σ1,ρ1,j,i⟩, .pass (x:= .inLoop c) rfl (λ_ _=> .inl (by simp)) g⟩
   |goto l=>exact⟨_,q,r,⟨σ1,ρ1,j,i⟩, .pass (x:= .inLoop c) rfl (λ_ _=> .inl (by simp)) g⟩
   |ret=>exact⟨_,q,r,⟨σ1,ρ1,j,i⟩, .pass (x:= .inLoop c) rfl (λ_ _=> .inl (by simp)) g⟩
   |panic G=>exact⟨_,q,r,⟨σ1,ρ1,j,i⟩, .pass (x:= .inLoop c) rfl (λ_ _=> .inl (by simp)) g⟩
   |outgrown=>exact⟨_,q,r,⟨σ1,ρ1,j,i⟩, .pass (x:= .inLoop c) rfl (λ_ _=> .inl (by simp)) g⟩
 intro m σ h B ρ a w hB v b k o;obtain⟨e,s,t,j,g⟩:=u m σ h B ρ a w hB v b k o;exact⟨e,s,t,j, .of_steps (.one step_loop) g⟩
theorem T.scopeJ{c rest:Code}{l:Nat}{cut:tG}(M:findLabel c l=some rest)(first:T P R n c σ (jJ l (λs'=>eZ R cut s' cut.inv) Q))
 (u:∀o:aN cut.ps,o.1<cut.ps.length→cut.inv o→T P R n rest (eN cut.ps n o) (jJ l (λs'=>eZ R cut s' λo'=>cut.inv o'∧cut.mu o'<cut.mu o) Q)):T P R n (.scope c) σ Q:=by
 intro B ρ a w hB x b k v;have J:gotoIn l (.inScope c::k)=some (.code rest:: .inScope c::k):=by simp[gotoIn,M]
 have y:∀m(o:aN cut.ps)ρ a w,cut.mu o=m→o.1<cut.ps.length→cut.inv o→eY R B (eN cut.ps n o) ρ a w→
  ∃e K L,(∃σ' ρ',Q e σ'∧eY R B σ' ρ' K L)∧Arrives P (lone (b.at a (.code rest:: .inScope c::k)) v w) b k v e K L:=by
  intro m
  induction m using Nat.strongRecOn with
  |_ m N=>
   intro o ρ a w X z O x;obtain⟨e,j,p,⟨σ1,ρ1,h,g⟩,f⟩:=u o z O B ρ a w hB x b (.inScope c::k) v;cases e with
   |normal=>exact⟨.normal,j,p,⟨σ1,ρ1,h,g⟩,Steps.trans f (.one step_inScope)⟩
   |exit id=>exact⟨.exit id,j,p,⟨σ1,ρ1,h,g⟩,λC D=>f C (by simp[exitTo,D])⟩
   |goto S=>
    simp only[jJ]at h;split at h
    case isFalse=>exact h.elim
    rename_i E;subst E;obtain⟨o',q,r,U⟩:=fx h;obtain⟨ρ2,s⟩:=iV g hB.1 q;have:=dm q;obtain⟨F,G,H,t,i⟩:=N _ (by omega) o' ρ2 j p rfl (by omega) r s;exact⟨F,G,H,t, .of_steps (f _ J) i⟩
   |ret=>exact⟨_,j,p,⟨σ1,ρ1,h,g⟩,f⟩
   |panic W=>exact⟨_,j,p,⟨σ1,ρ1,h,g⟩,f⟩
   |outgrown=>exact⟨_,j,p,⟨σ1,ρ1,h,g⟩,f⟩
 obtain⟨e,j,p,⟨σ1,ρ1,h,g⟩,f⟩:=first B ρ a w hB x b (.inScope c::k) v
 cases e with
 |normal=>exact⟨.normal,j,p,⟨σ1,ρ1,h,g⟩, .head step_scope (Steps.trans f (.one step_inScope))⟩
 |exit id=>exact⟨.exit id,j,p,⟨σ1,ρ1,h,g⟩,λC D=> .head step_scope (f C (by simp[exitTo,D]))⟩
 |goto S=>
  simp only[jJ]at h;split at h
  case isFalse=>exact h.elim
  rename_i E;subst E;obtain⟨o',q,r⟩:=fx h;obtain⟨ρ2,s⟩:=iV g hB.1 q;have:=dm q;obtain⟨F,G,H,t,i⟩:=y _ o' ρ2 j p rfl (by omega) r s;exact⟨F,G,H,t, .of_steps (.head step_scope (f _ J)) i⟩
 |ret=>exact⟨_,j,p,⟨σ1,ρ1,h,g⟩, .of_steps (.one step_scope) f⟩
 |panic W=>exact⟨_,j,p,⟨σ1,ρ1,h,g⟩, .of_steps (.one step_scope) f⟩
 |outgrown=>exact⟨_,j,p,⟨σ1,ρ1,h,g⟩, .of_steps (.one step_scope) f⟩
theorem tL{x:Int}{f:Nat→Prop}:∀{m:Nat},yT x f m→∀q:Nat,q<m→x=(q:Int)→f q
 |0,_,q,b,_=>by omega
 |m+1,h,q,b,a=>by
  by_cases e:q=m
  ·subst e;exact h.2 a
  ·exact tL h.1 q (by omega) a
theorem KL{A:Nat→Prop}{ρ:Nat→Pl}{w:World}{slots:List V}{a:Act}(h:F2 (aS w A ρ) slots a.tmps.toList){t:Nat}{i:I}(b:slots.getD t (.tup [])= .val false [i]):∃v,a.tmps[t]?=some v∧bf w A ρ i [v]:=by
 have:slots[t]?=some (.val false [i]):=by
  simp only[bv]at b;cases c:slots[t]? with
  |none=>simp[c]at b
  |some z=>simp[c]at b;rw[b]
 obtain⟨v,e,f⟩:=h.get this;exact⟨v,by simpa using e,aH.1 f⟩
theorem eY.frz{B:eB}{ρ:Nat→Pl}{a:Act}{w:World}{t:Nat}(b:eY R B σ ρ a w):eY R B (RL σ t) ρ a w:=by
 unfold RL;split
 case h_2=>exact b
 split
 case h_2=>exact b
 rename_i _ k _ _ _ l f;obtain⟨g,c⟩:=ng b.heap f;have e:aV (mo σ.heap [(k,some (.fc l))])=cI (aV σ.heap) k (some (.fc l)):=by rw[dI];rfl
 refine⟨by show wI B ρ w (aV (mo σ.heap [(k,some (.fc l))])) a.defers;rw[e];exact b.defers.mv c,?_,?_,?_,b.fresh,b.root,b.rn,b.len⟩
 ·show F2 (aS w (Av B.F ρ (aV (mo σ.heap [(k,some (.fc l))]))) ρ) _ _;rw[e];exact F2.imp (λ_ _=>aS.evo c.evo (dK.refl ρ)) b.slots
 ·show dn B.F ρ w (aV (mo σ.heap [(k,some (.fc l))]));rw[e];exact g
 ·show Mv B.ρ B.w B.h ρ w (aV (mo σ.heap [(k,some (.fc l))]));rw[e];exact b.mv.trans c
theorem EU(K:aP P Γ)(hL:bg Γ)(M:P.follows .mixedOrders=true):∀(c:Code)(fr:Option Nat)(L:List (Nat×tG))(σ:St)(Q:Kn),vc P Γ R n A c fr L σ Q→TF P R n c fr σ Q:=by
 intro c
 induction c with
 |skip=>
  intro fr L σ Q h;cases fr with
  |none=>exact λ_ ρ _ _ _ g=>wp_skip ⟨σ,ρ,h,g⟩
  |some l=>exact λ_ i=>by simp[findLabel]at i
 |region id Y W=>
  intro fr L σ Q h;cases fr with
  |some l=>exact λ_ i=>by simp[findLabel]at i
  |none=>
   simp only[vc]at h;split at h
   ·rename_i t _;intro B ρ a w hB g;exact T.region (n:=n) K hL M h B ρ a w hB g.frz
   ·rename_i t m _ _;split at h
    ·rename_i x F;intro B ρ a w hB g;obtain⟨v,G,H⟩:=KL g.slots F;obtain⟨⟨x0,x1⟩,U⟩:=h;obtain⟨q,rfl⟩:=cq x0;have x2:(q:Int)<(m:Int):=x1;have u:=tL U q (by omega) rfl;simp[bf,Rd]at H;subst H;refine T.region (n:=n) K hL M u B ρ a w hB ⟨g.defers,g.slots.set_left t (λv C=>?_),g.heap,g.mv,g.fresh,g.root,g.rn,g.len⟩;have:a.tmps.toList[t]?=some (.int .i64 q):=by simpa using G
     rw[this]at C;simp at C;subst C;exact aH.2 rfl
    ·exact T.region K hL M h
    ·exact h.elim
   ·exact T.region K hL M h
 |seq x y p j=>
  intro fr L σ Q h;cases fr with
  |none=>
   simp only[vc]at h;split at h
   ·rename_i cut hc;obtain⟨G,H⟩:=h;refine T.seq ((p none _ _ _ G).mono ?_);intro e σ' u;cases e with
    |normal=>
     obtain⟨o,X,N⟩:=fx u;have O:=dm X;exact T.enter X (j none _ _ _ (fW H o (by omega) (by omega) N))
    |_=>exact u
   ·refine T.seq ((p none _ _ _ h).mono ?_);intro e σ' u;cases e with
    |normal=>exact j none _ _ _ u
    |_=>exact u
  |some l=>
   intro s i;simp only[vc]at h;simp only[findLabel]at i;split at h
   ·rename_i F;split at i
    ·rename_i r g;simp at i;subst i;refine T.seq ((p (some l) _ _ _ h r g).mono ?_);intro e σ' u;cases e with
     |normal=>exact j none _ _ _ u
     |_=>exact u
    ·rename_i g;rw[g]at F;simp at F
   ·rename_i F;split at i
    ·rename_i r g;rw[g]at F;simp at F
    ·exact j (some l) _ _ _ h s i
 |cond c x y p j=>
  intro fr L σ Q h;cases fr with
  |some l=>exact λ_ i=>by simp[findLabel]at i
  |none=>
   simp only[vc]at h;intro B ρ a w hB g;have C:=ff g.slots c;split at h
   ·rename_i S;rw[S]at C;have:=aH.1 C;simp[bf,Sc.val]at this;exact wp_cond_true this (p none _ _ _ h B ρ a w hB g)
   ·rename_i S;rw[S]at C;have:=aH.1 C;simp[bf,Sc.val]at this;exact wp_cond_false this (j none _ _ _ h B ρ a w hB g)
   ·rename_i b S;rw[S]at C;have J:=aH.1 C;simp[bf,Rd]at J
    have D:eY R B (kE σ c b) ρ a w:=by
     cases c with
     |tmp t=>
      refine g.know ?_;simp only[Act.eval]at J;cases u:a.tmps[t]? with
      |none=>simp[u,undef]at J
      |some z=>simp[u]at J;rw[J]
     |_=>exact g
    refine wp_cond_split J (λe=>?_) (λe=>?_)
    ·subst e;exact p none _ _ _ (h.1 rfl) B ρ a w hB D
    ·subst e;exact j none _ _ _ (h.2 rfl) B ρ a w hB D
   ·exact h.elim
 |block id c E=>
  intro fr L σ Q h;cases fr with
  |some l=>exact λ_ i=>by simp[findLabel]at i
  |none=>exact T.block (E none _ _ _ h)
 |loop c E=>
  intro fr L σ Q h;cases fr with
  |some l=>exact λ_ i=>by simp[findLabel]at i
  |none=>
   simp only[vc]at h;split at h
   ·exact T.loopC h.1 λo O N=>E none _ _ _ (fW h.2 o (by omega) (by omega) N)
   ·exact T.loopUn (λσ Q h=>E none _ σ Q h) _ _ h
 |rangeFunc f ps x y p j=>
  intro fr L σ Q h;cases fr with
  |some l=>exact λ_ i=>by simp[findLabel]at i
  |none=>exact λB ρ a w hB g=>ET K hL M hB.1 hB.2 g h
 |exit id=>
  intro fr L σ Q h;cases fr with
  |some l=>exact λ_ i=>by simp[findLabel]at i
  |none=>exact λ_ ρ _ _ _ g=>wp_exit ⟨σ,ρ,h,g⟩
 |scope c E=>
  intro fr L σ Q h;cases fr with
  |some l=>exact λ_ i=>by simp[findLabel]at i
  |none=>
   simp only[vc]at h;split at h
   ·rename_i l cut _;obtain⟨G,H,h3⟩:=h;rw[cE]at G;obtain⟨s,i⟩:=G;exact T.scopeJ i (E none _ _ _ H) λo O N=>E (some l) _ _ _ (fW h3 o (by omega) (by omega) N) s i
   ·exact T.scope (E none _ _ _ h)
 |label l'=>
  intro fr L σ Q h;cases fr with
  |none=>exact λ_ ρ _ _ _ g=>wp_label ⟨σ,ρ,h,g⟩
  |some l=>
   intro s i;simp only[vc]at h;split at h
   ·rename_i e;simp only[findLabel,e,if_true,Option.some.injEq]at i;subst i;exact λ_ ρ _ _ _ g=>wp_skip ⟨σ,ρ,h,g⟩
   ·exact h.elim
 |goto l=>
  intro fr L σ Q h;cases fr with
  |some l=>exact λ_ i=>by simp[findLabel]at i
  |none=>exact λ_ ρ _ _ _ g=>wp_goto ⟨σ,ρ,h,g⟩
 |ret=>
  intro fr L σ Q h;cases fr with
  |some l=>exact λ_ i=>by simp[findLabel]at i
  |none=>exact λ_ ρ _ _ _ g=>wp_ret ⟨σ,ρ,h,g⟩
 |refuse a0=>intro fr L σ Q h;cases fr<;>simp[vc]at h
end
end
section
def yV(p:cc)(a n:Nat)(v:p.val):St:=⟨nZ p a v++ak (n-a) (.tup []),HP.inst gM 0 p.hp v.2,p.hp.length⟩
def xb(P:Program)(σ:St):List ResultVar→Option (List V)
 |[]=>some []
 | .tmp t::r=>match xb P σ r with
   |some m=>some (σ.slots.getD t (.tup [])::m)
   |none=>none
 | .cell a t::r=>match(σ.slots.getD a (.tup [])).one? with
   |some (.ptr k b)=>match aV σ.heap k with
    |some (.cells l)=>match qf P t l b,xb P σ r with
     |some x,some m=>some (x::m)
     |_,_=>none
    |_=>none
   |_=>none
def jv(R:Nat)(h:eX)(a:List V)(ps:List cc):Nat→Nat→Option (aN ps)
 |0,_=>none
 |n+1,i=>match fit (aV h) a (cV ps i) (D1 R (cV ps i).hp 0)with
  |some (v,b,_)=>if lj R b&&oV (cV ps i).hp&&kv (cV ps i).hp.length b&&decide (R≤(cV ps i).hp.length)&&nf 0 (cV ps i).sl&&decide (a.length=(cV ps i).sl.length)then some ⟨i,(cV ps i).put v⟩else jv R h a ps n (i+1)
  |none=>jv R h a ps n (i+1)
def kF(h:eX):dH:=h.filterMap λp=>match p.2 with
 | .mit .. =>some (p.1,none)
 |_=>none
def RN(h:eX):dH:=h.filterMap λp=>match aV h p.1 with
 |some (.lk a b l)=>some (p.1,some (.mp a b l))
 |_=>none
def tM(h:eX):eX:=let a:=mo h (kF h);mo a (RN a)
theorem kG:∀{u:dH}{h:Nat→Option Ch}{k:Nat},(∀p∈u,p.2=none)→(bh h u k=h k∨bh h u k=none)∧((k,none)∈u→bh h u k=none)
 |[],_,_,_=>⟨.inl rfl,by simp⟩
 |(j,o)::r,h,k,b=>by
  have c:o=none:=b (j,o) (aM ..);subst c;obtain⟨a,f⟩:=kG (u:=r) (h:=cI h j none) (k:=k) (λp g=>b p (aE _ g));simp only[bh];refine⟨?_,λi=>?_⟩
  ·rcases a with a|a
   ·rw[a];by_cases e:k=j
    ·subst e;rw[bF];exact .inr rfl
    ·rw[bD _ _ _ e];exact .inl rfl
   ·exact .inr a
  ·rcases br.1 i with e|e
   ·simp at e;subst e;rcases a with a|a
    ·rw[a,bF]
    ·exact a
   ·exact f e
theorem rg{h0:Nat→Option Ch}:∀{u:dH}{h:Nat→Option Ch},(∀p∈u,∃a b l,h0 p.1=some (.lk a b l)∧p.2=some (.mp a b l))→(∀k,h k=h0 k∨∃a b l,h0 k=some (.lk a b l)∧h k=some (.mp a b l))→
 ∀k,bh h u k=h0 k∨∃a b l,h0 k=some (.lk a b l)∧bh h u k=some (.mp a b l)
 |[],_,_,c,k=>c k
 |p::r,h,f,c,k=>by
  simp only[bh];refine rg (λq g=>f q (aE _ g)) (λj=>?_) k;by_cases e:j=p.1
  ·subst e;rw[bF];obtain⟨a,b,l,i,m⟩:=f p (aM ..);exact .inr ⟨a,b,l,i,m⟩
  ·rw[bD _ _ _ e];exact c j
theorem rh(H:eX):(∀k,aV (tM H) k=aV H k∨aV (tM H) k=none∨∃a b l,aV H k=some (.lk a b l)∧aV (tM H) k=some (.mp a b l))∧∀k m a b r q,aV (tM H) k≠some (.mit m a b r q):=by
 have x:∀p∈kF H,p.2=none:=by
  intro p n;obtain⟨q,_,g⟩:=List.mem_filterMap.1 n;split at g<;>simp at g;rw[←g]
 have i:∀k m a b r q,aV H k=some (.mit m a b r q)→(k,none)∈kF H:=by
  intro k m a b r q c;exact List.mem_filterMap.2 ⟨(k, .mit m a b r q),gL c,rfl⟩
 have o:∀k,aV (mo H (kF H)) k=aV H k∨aV (mo H (kF H)) k=none:=λk=>by rw[dI];exact(kG x).1
 have g:∀k m a b r q,aV (mo H (kF H)) k≠some (.mit m a b r q):=by
  intro k m a b r q c;rcases o k with e|e
  ·rw[e]at c;have:=(kG (h:=aV H) (k:=k) x).2 (i k m a b r q c);rw[dI,this]at e;rw[←e]at c;simp at c
  ·rw[e]at c;simp at c
 have s:=rg (h0:=aV (mo H (kF H))) (u:=RN (mo H (kF H))) (h:=aV (mo H (kF H))) (λp n=>by
  obtain⟨q,_,t⟩:=List.mem_filterMap.1 n;split at t<;>simp at t;rename_i a b l y;subst t;exact⟨a,b,l,y,rfl⟩) (λk=> .inl rfl)
 rw[←dI]at s;refine⟨λk=>?_,λk m a b r q c=>?_⟩
 ·rcases s k with e|⟨a,b,l,v,w⟩
  ·rcases o k with f|f
   ·exact .inl (e.trans f)
   ·exact .inr (.inl (e.trans f))
  ·rcases o k with f|f
   ·exact .inr (.inr ⟨a,b,l,f▸v,w⟩)
   ·rw[v]at f;simp at f
 ·rcases s k with e|⟨z,A,l,v,w⟩
  ·exact g k m a b r q (e▸c)
  ·have j:aV (mo (mo H (kF H)) (RN (mo H (kF H)))) k=some (.mit m a b r q):=c;rw[w]at j;simp at j
theorem dn.tidy{F:Nat→Prop}{ρ:Nat→Pl}{w:World}{h h':Nat→Option Ch}(hh:dn F ρ w h)(n:∀k,h' k=h k∨h' k=none∨∃a b l,h k=some (.lk a b l)∧h' k=some (.mp a b l))(v:∀k m a b r q,h' k≠some (.mit m a b r q)):dn F ρ w h'∧Mv ρ w h ρ w h':=by
 refine hh.step (λk=>h' k≠h k) (dK.refl ρ) (aC _) rfl rfl rfl (λk f=>Classical.not_not.1 f) (λ_ _ _=>rfl) (λk c b g f x o=>?_) (λk u c G b g p f j H y o s=>?_) (λk m a b r q f=>absurd f (v k m a b r q)) (λk c g f z=>?_)
 ·rcases n k with e|e|⟨a,J,l,i,t⟩
  ·exact absurd e g
  ·rw[e]at f;simp at f
  ·exact⟨(hh.fr k _ b i rfl o).1, .inr ⟨k,_,g,i,rfl,o⟩⟩
 ·rcases n k with e|e|⟨a,A,l,i,t⟩
  ·exact absurd e g
  ·rw[e]at f;simp at f
  ·rcases n u with e|e|⟨K,L,M,C,N⟩
   ·exact absurd e p
   ·rw[e]at j;simp at j
   ·exact hh.inj k u _ _ b i C rfl rfl o s
 ·rcases n k with e|e|⟨a,A,l,i,t⟩
  ·exact absurd e g
  ·rw[e]at f;simp at f
  ·rw[t]at f;simp at f;subst f;obtain⟨b,D,E⟩:=hh.ok k _ i;exact⟨b,D,E.evo z.evo rfl⟩
theorem eY.tidy{R:Nat}{B:eB}{σ:St}{ρ:Nat→Pl}{a:Act}{w:World}(b:eY R B σ ρ a w):eY R B ⟨σ.slots,tM σ.heap,σ.next⟩ ρ a w:=by
 obtain⟨e,c⟩:=b.heap.tidy (rh σ.heap).1 (rh σ.heap).2;exact⟨b.defers.mv c,F2.imp (λ_ _=>aS.evo c.evo (dK.refl ρ)) b.slots,e,b.mv.trans c,b.fresh,b.root,b.rn,b.len⟩
def KN(P:Program)(res:List ResultVar)(R:Nat)(ps:List cc)(Q:aN ps→Prop):Kn:=λe s=>
 match e with
 | .normal=>fin s
 | .ret=>fin s
 |_=>False
where fin (s0:St):Prop:=let s:St:=⟨s0.slots,tM s0.heap,s0.next⟩
 match xb P s res with
 |some rs=>match jv R s.heap rs ps ps.length 0 with
  |some y=>Q y
  |none=>False
 |none=>False
def fvc(P:Program)(Γ:bu)(fn:Func)(c:Code)(a:Ct)(A:a.inp.den→dG):Prop:=
 a.inp.All λx=>∀Q:aN a.out→Prop,(a.spec x).sat Q→
  vc P Γ a.inp.hp.length fn.ntmps (A x) c none [] (yV a.inp a.nargs fn.ntmps (a.inp.get x)) (KN P fn.results.toList a.inp.hp.length a.out Q)
section
variable{P:Program}{R:Nat}{B:eB}
def ri(a:Array Value)(x:ResultVar):Sem Value:=
 match x with
 | .tmp t=>pure (a.getD t undef)
 | .cell b t=>do loadVar t (←asAddr (a.getD b undef))
theorem KO{σ:St}{ρ:Nat→Pl}{a:Act}{w:World}(g:eY R B σ ρ a w):∀(l:List ResultVar)(m:List V),xb P σ l=some m→
 ∃vs:List Value,(l.mapM (ri a.tmps)).run P w=nN vs w∧F2 (aS w (Av B.F ρ (aV σ.heap)) ρ) m vs:=by
 intro l
 induction l with
 |nil=>intro m h;simp[xb]at h;subst h;exact⟨[],rfl,trivial⟩
 |cons x l u=>
  intro m h
  have fin:∀(y:V)(c:List V)(v:Value),m=y::c→xb P σ l=some c→(ri a.tmps x).run P w=nN v w→aS w (Av B.F ρ (aV σ.heap)) ρ y v→
   ∃vs:List Value,((x::l).mapM (ri a.tmps)).run P w=nN vs w∧F2 (aS w (Av B.F ρ (aV σ.heap)) ρ) m vs:=by
   intro y c v e i z j;obtain⟨vs,f,A⟩:=u c i;subst e;refine⟨v::vs,?_,⟨j,A⟩⟩;simp only[List.mapM_cons,bE,z,aW,f,bt]
  cases x with
  |tmp t=>
   simp only[xb]at h;split at h
   case h_2=>simp at h
   rename_i c e;simp at h;exact fin _ c _ h.symm e rfl (ff g.slots (.tmp t))
  |cell b t=>
   simp only[xb]at h;split at h
   case h_2=>simp at h
   rename_i k n C;split at h
   case h_2=>simp at h
   rename_i K D;split at h
   case h_2=>simp at h
   rename_i y c E e;simp at h;obtain⟨_,⟨bl,q,rfl⟩,f⟩:=aL C (ff g.slots (.tmp b));simp at f;simp only at q;obtain⟨L,M,N,o,G,H⟩:=g.heap.ok k _ D;rw[q]at o;simp at o;subst o;obtain⟨r,s,J⟩:=ke E H (mS G);rw[bK]at s;refine fin y c r h.symm e ?_ J;show(asAddr (a.tmps.getD b undef)>>=λx=>loadVar t x).run P w=_;have p:a.tmps.getD b undef=Value.pointer (some ⟨bl,n,none⟩):=f;rw[p];simpa[Instr.loadAt,rT,asAddr,bE]using s
theorem xc{fn:Func}{a:Array Value}{w:World}{vs:List Value}(h:(fn.results.toList.mapM (ri a)).run P w= .ok vs w):
 (results fn a).run P w= .ok (kr vs) w:=by
 have e:fn.results=fn.results.toList.toArray:=by simp
 have:(results fn a)=((Functor.map List.toArray (fn.results.toList.mapM (ri a)))>>=λvs=>pure (if h:vs.size=1 then vs[0]else .tuple vs)):=by
  unfold results;rw[e,List.mapM_toArray];rfl
 rw[this,map_eq_pure_bind];simp only[bE,h,aW,bt]
 match vs with
 |[]=>rfl
 |[v]=>rfl
 |v::u::r=>rfl
theorem mr{h:eX}{b:List V}{ps:List cc}:∀{n i:Nat}{y:aN ps},jv R h b ps n i=some y→∃v a u,fit (aV h) b (cV ps y.1) (D1 R (cV ps y.1).hp 0)=some (v,a,u)∧lj R a=true∧oV (cV ps y.1).hp=true∧kv (cV ps y.1).hp.length a=true∧
 R≤(cV ps y.1).hp.length∧nf 0 (cV ps y.1).sl=true∧b.length=(cV ps y.1).sl.length∧(cV ps y.1).get y.2=v
 |0,_,_,h=>by simp[jv]at h
 |n+1,i,y,h=>by
  simp only[jv]at h;split at h
  case h_2=>exact mr h
  rename_i v a u e;split at h
  case isFalse=>exact mr h
  rename_i c;simp only[aF,ah]at c;obtain⟨⟨⟨⟨⟨f,g⟩,j⟩,l⟩,m⟩,o⟩:=c;simp at h;subst h;exact⟨v,a,u,e,f,g,j,l,m,o,cc.get_put⟩
theorem EV{l:List (Option CP)}(h:oV l=true):wE l=true:=by
 unfold wE;unfold oV at h;rw[cM]at h⊢;intro c a;have:=h c a;split at this
 ·rename_i b;cases b<;>simp[CP.plain]at this<;>rfl
 ·rfl
theorem yW{σ:St}{ps:List cc}{y:aN ps}{z:List V}{ρ:Nat→Pl}{a:Act}{w:World}{vals:List Value}(o:eY R B σ ρ a w)(G:F2 (aS w (Av B.F ρ (aV σ.heap)) ρ) z vals)
 (h:jv R σ.heap z ps ps.length 0=some y):Kw B.F B.ρ B.w B.h R (cV ps y.1) ((cV ps y.1).get y.2) (.returned (kr vals)) w:=by
 obtain⟨v,n,u,H,p,f,J,U,g,A,r⟩:=mr h;obtain⟨l,rfl,s⟩:=yK H;obtain⟨W,e,i⟩:=uK s;obtain⟨C,D,E⟩:=js (l:=l) o.heap (λ_ _ q=>q);have j:=F2.imp (λ_ _=>aS.evo D.evo (dK.refl ρ)) G;obtain⟨K,X,L,M,Y⟩:=qF (F':=B.F) C E j e i rfl (pJ R _ 0) (EV f) (λb m=> .inl m);obtain⟨i1,N⟩:=SP.mt_sub e (pJ R _ 0);obtain⟨O,_⟩:=HP.mt_sub i N;have c:=SP.res_ok C E (qE ⟨n,[]⟩ ρ) rfl j e (pJ R _ 0) O g (by omega);rw[List.drop_zero]at c;have evo:po w (Av B.F ρ (bh (aV σ.heap) (ku l (aV σ.heap)))) w (Av B.F (fN ⟨n,[]⟩ ρ) (aV (HP.inst gM 0 (cV ps y.1).hp v.2))):=⟨aC _,λ_ _ _ _ t _=>t,λb _ m=>L b m⟩;rw[r];refine⟨fN ⟨n,[]⟩ ρ,vals,rfl,λk x=>?_,F2.imp (λ_ _=>yp.evo evo (dK.refl _)) c,K,?_,λk Q=>?_⟩
 ·exact tH p o.root x
 ·have:=o.mv.trans D;exact⟨this.os,this.tape,this.output,this.size,this.block,λb m t=>this.own b m (M b t)⟩
 ·unfold fN;cases S:aV n k with
  |none=>rfl
  |some q=>exact absurd (iT J S) (by omega)
theorem eY.putD{D:Nat}{h:List Deferred}{σ:St}{ρ:Nat→Pl}{a:Array Value}{w:World}(b:eY R B σ ρ {tmps:=a,defers:=mark D::h} w):
 w.heap[D]?=some (.deferred (some []))∧eY R B σ ρ {tmps:=a,defers:=h} (w.putObj D (.deferred none)):=by
 obtain⟨z,f,g,i⟩:=b.defers;cases z with
 |nil=>cases f
 |cons q z=>
  simp only[aX,List.cons.injEq]at f;obtain⟨c,r⟩:=f;have c:D=q:=by unfold mark at c;simpa using c
  subst c;obtain⟨F,s,G,j,t⟩:=i D (aM ..);have l:∀o,w.heap[D]?=some o→MO o=false:=λo m=>by rw[j]at m;cases m;rfl
  obtain⟨u,n⟩:=b.heap.put (.deferred none) l t;refine⟨j,?_,F2.imp (λ_ _=>aS.evo (n.evo l) (dK.refl _)) b.slots,u,b.mv.transL n s,b.fresh,b.root,b.rn,b.len⟩;rw[lK]at g;refine⟨z,r,g.2,λE p=>?_⟩;obtain⟨v,x,y,A,C⟩:=i E (aE _ p);exact⟨v,x,by rw[World.putObj_size];exact y,by rw[World.putObj_heap_other (λe=>g.1 (by rw[←e];exact p))];exact A,C⟩
theorem EW{fn:Func}{f:Ending→World→Prop}{σ:St}{ρ:Nat→Pl}{a:Array Value}:∀(b:List Deferred)(w:World),eY R B σ ρ {tmps:=a,defers:=b} w→
 (∀w,eY R B σ ρ {tmps:=a,defers:=[]} w→∃v,(results fn a).run P w= .ok v w∧f (.returned v) w)→LeavesInM Fence.wide 0 P fn a f b .returning w
 |[],w,c,h=>h w c
 |d::b,w,c,h=>by
  obtain⟨z,e,_,_⟩:=c.defers
  obtain⟨D,rfl⟩:∃D,d=mark D:=by
   cases z with
   |nil=>cases e
   |cons D z=>exact⟨D,by simp only[aX,List.cons.injEq]at e;exact e.1⟩
  obtain⟨g,i⟩:=c.putD;exact⟨by simp, .inl ⟨D,_,rfl,run_takeDeferred g,EW b _ i h⟩⟩
theorem KP{Γ:bu}(u:aP P Γ)(hL:bg Γ)(v:P.follows .mixedOrders=true){f:FuncId}{fn:Func}{c:Code}{a:Ct}{A:a.inp.den→dG}(z:P.funcs[f]?=some fn)(C:fn.body=some c)(D:decide (a.nargs≤fn.ntmps)=true)
 (h:fvc P Γ fn c a A):bO P f a:=by
 intro x Q E F ρ w b j G H o
 have p:=cc.All_ok (k:=λx=>∀Q:aN a.out→Prop,(a.spec x).sat Q→
  vc P Γ a.inp.hp.length fn.ntmps (A x) c none [] (yV a.inp a.nargs fn.ntmps (a.inp.get x)) (KN P fn.results.toList a.inp.hp.length a.out Q)) h x Q E
 have J:=EU u hL v c none _ _ _ p;refine(callsIn_wide (n:=0)).1 (callsIn_of_wp_marks (F:=Fence.wide) (n:=0) z C trivial ?_);rw[wpIn_wide];have q:b.toArray.size=b.length:=by simp
 have K:a.nargs≤fn.ntmps:=by simpa using D
 rw[q]
 have L:eY a.inp.hp.length ⟨F,ρ,w,dV a.inp (a.inp.get x),fn.ntmps,true⟩ (yV a.inp a.nargs fn.ntmps (a.inp.get x)) ρ {tmps:=b.toArray++Array.replicate (fn.ntmps-b.length) undef,defers:=[]} w:=by
  refine⟨.nil rfl,?_,G,Mv.refl _ _ _,o,λ_ _=> .inl rfl,aC _,by simp;omega⟩;have:(b.toArray++Array.replicate (fn.ntmps-b.length) undef).toList=b++ak (fn.ntmps-b.length) undef:=by simp
  rw[this,j];refine F2.append H ?_;generalize fn.ntmps-a.nargs=m
  induction m with
  |zero=>trivial
  |succ m M=>exact⟨dZ,M⟩
 refine wp_mono (J _ ρ _ w ⟨rfl,rfl⟩ L) ?_;rintro e r l ⟨σ',ρ',s,i⟩
 have fin:KN.fin P fn.results.toList a.inp.hp.length a.out Q σ'→LeavesInM Fence.wide 0 P fn r.tmps (λe l=>∃y,Q y∧Kw F ρ w (dV a.inp (a.inp.get x)) a.inp.hp.length (cV a.out y.1) ((cV a.out y.1).get y.2) e l) r.defers .returning l:=by
  intro g;refine EW r.defers l i λl i=>?_;unfold KN.fin at g;dsimp only at g;split at g
  case h_2=>exact g.elim
  rename_i W t;split at g
  case h_2=>exact g.elim
  rename_i y N;obtain⟨O,S,U⟩:=KO i.tidy _ _ t;exact⟨kr O,xc S,y,g,yW i.tidy U N⟩
 cases e with
 |normal=>exact fin s
 |ret=>exact fin s
 |_=>exact s.elim
end
end
end Go.Hv
namespace Go.Hv
@[reducible]def aU(kt:Ty){β:Type}(k:kt.den)(l:List (kt.den×β)):Option β:=cy k l
@[reducible]def dy(kt:Ty){β:Type}(k:kt.den)(v:β)(l:List (kt.den×β)):List (kt.den×β):=cF k v l
@[reducible]def a7d(T:Type)(v:T):T:=v
def EX(P:Program)(f:FuncId):Func:=(P.funcs[f]?).getD default
def yX(fn:Func):Code:=fn.body.getD .skip
def CE(P:Program)(f:FuncId)(n:Nat):Bool:=eL P f&&decide (n≤(EX P f).ntmps)
def hJ(P:Program)(Γ:bu)(f:FuncId)(a:Ct)(A:a.inp.den→dG):Prop:=fvc P Γ (EX P f) (yX (EX P f)) a A
theorem dq{P:Program}{Γ:bu}(l:aP P Γ)(hL:bg Γ)(m:P.follows .mixedOrders=true){f:FuncId}{b:Ct}{A:b.inp.den→dG}(a:CE P f b.nargs=true)(h:hJ P Γ f b A):bO P f b:=by
 unfold CE eL at a;unfold hJ at h;cases g:P.funcs[f]? with
 |none=>simp[g]at a
 |some fn=>
  have e:EX P f=fn:=by simp[EX,g]
  rw[e]at h a;simp only[g,aF]at a;obtain⟨⟨_,i⟩,n⟩:=a;rw[cE]at i;obtain⟨c,j⟩:=i;have o:yX fn=c:=by simp[yX,j]
  rw[o]at h;exact KP l hL m g j n h
attribute [irreducible] hJ
def one{p:cc}(a:Prop)(y:p.den):Tr (aN [p]):= .need a (.leaf ⟨0,y⟩)
theorem bH{p:cc}{a:Prop}{y:p.den}:Live (one (p:=p) a y):=Live.need λ_=>Live.leaf
def du{p:cc}(a:Prop){β:Type}(v:β)(g:β→p.den):Tr (aN [p]):= .need a (.all β (λy=>y=v) λy=> .leaf ⟨0,g y⟩)
theorem bm{p:cc}{a:Prop}{β:Type}{v:β}{g:β→p.den}:Live (du (p:=p) a v g):=Live.need λ_=>Live.all ⟨v,rfl,Live.leaf⟩
theorem bO.mono{P:Program}{f:FuncId}{n:Nat}{a:cc}{out:List cc}{s s':a.den→Tr (aN out)}(h:bO P f ⟨n,a,out,s⟩)(b:∀x Q,(s' x).sat Q→(s x).sat Q):bO P f ⟨n,a,out,s'⟩:=
 λx Q c=>h x Q (b _ Q c)
theorem dz{p:cc}{a:Prop}{β:Type}{v:β}{g:β→p.den}{y:p.den}{Q:aN [p]→Prop}(h:(du (p:=p) a v g).sat Q)(e:g v=y):(one (p:=p) a y).sat Q:=⟨h.1,e▸h.2 v rfl⟩
theorem aP.add{P:Program}{Γ:bu}{f:FuncId}{cs:List Ct}(h:aP P Γ)(b:eL P f=true)(e:∀c∈cs,bO P f c):aP P ((f,cs)::Γ):=λp a=>by
 rcases br.1 a with rfl|a
 ·exact⟨b,e⟩
 ·exact h p a
theorem bg.add{Γ:bu}{f:FuncId}{cs:List Ct}(h:bg Γ)(b:∀c∈cs,∀x,Live (c.spec x)):bg ((f,cs)::Γ):=λp a=>by
 rcases br.1 a with rfl|a
 ·exact b
 ·exact h p a
theorem bo{α:Type 1}{p:α→Prop}{a:α}(h:p a):∀c∈[a],p c:=λc b=>by
 rw[cg.1 b];exact h
theorem ik{α:Type 1}{p:α→Prop}{a:α}{l:List α}(h:p a)(h':∀c∈l,p c):∀c∈a::l,p c:=λc b=>by
 rcases br.1 b with rfl|b
 ·exact h
 ·exact h' c b
def a23(n:Nat):dG:=⟨[],[],[],[],n⟩
def cv(c:Ct)(n:Nat):c.inp.den→dG:=λ_=>a23 n
theorem Wr{A B:Prop}(e:A=B)(b:B):A:=e▸b
def bM(p:cc)(a:p.den→Prop)(b:p.den→Nat):tG:=⟨[p],λy=>match y with
 |⟨0,x⟩=>a x
 |_=>False,λy=>match y with
 |⟨0,x⟩=>b x
 |_=>0,λ_=>[]⟩
def og(p:cc)(a:p.den→Prop)(c:p.den→Nat)(b:p.den→List (Nat×tG)):tG:=⟨[p],λy=>match y with
 |⟨0,x⟩=>a x
 |_=>False,λy=>match y with
 |⟨0,x⟩=>c x
 |_=>0,λy=>match y with
 |⟨0,x⟩=>b x
 |_=>[]⟩
end Go.Hv
namespace Go.Hv
open Go.ChangeShapes Go.WideShapes Go.RowKit
section
theorem sD{H:Type}{enc:TypeId×Value→H}{P:Program}(l:laidOutB P=true){W i:World}(m:Below W.heap.size W i):
 ∀(ts:List TypeId)(vs:List Value)(c:List (DataW H))(ps:List MemPlace),(∀t∈ts,P.readableRec t=true∧t<P.types.size)→(∀x∈ps,x.block<W.heap.size)→
  DataW.TrodAll enc P W 0 (λ_=>true) true ts vs c ps→DataW.TrodAll enc P i 0 (λb=>decide (b<W.heap.size)) true ts vs c ps:=by
 intro ts
 induction ts with
 |nil=>
  intro vs c ps _ _ h;obtain⟨rfl,rfl,rfl⟩:=trodAll_nil h;exact rfl
 |cons t ts n=>
  intro vs c ps j a h;obtain⟨v,e,d,f,p,q,rfl,rfl,rfl,o,r⟩:=trodAll_cons h;obtain⟨s,u⟩:=j t (aM ..);exact⟨p,q,Below.trod l s u o m (λx g=>a x (cG _ g)),n e f q (λt w=>j t (aE _ w)) (λx g=>a x (List.mem_append_right _ g)) r,rfl⟩
theorem EY{H:Type}{enc:TypeId×Value→H}{P:Program}{f:Func}{s:ChangeSpec}{W l:World}{args:Array Value}{i m:List (DataW H)}{b:List MemPlace}{tb:TypeId}
 (u:laidOutB P=true) (v:∀t∈f.params.toList,P.readableRec t=true∧t<P.types.size) (a:s.vars=[]) (g:f.resultTypes= #[tb]) (j:P.underlying tb=some .bool)
 (n:DataW.Whole enc P f.params.toList s.vars false W args.toList i m b)
 (c:s.fn H (i++m)={results:=[.lit (.bool true)],args:=i}) (o:Below W.heap.size W l):
 s.post enc P f false true false false W args (.bool true) l:=by
 have e:=n;obtain⟨p,q,w,r,rfl,_,_⟩:=n;rw[a]at r;obtain⟨rfl,rfl⟩:=trodVars_none r;rw[bj]at c e;refine⟨i,[],_,[],p,[],e,?_,?_,?_,o.frame _,λh=>by simp at h⟩
 ·rw[bj,c,g];exact⟨[],[],⟨1,by simp[DataW.trod,j,Value.cells]⟩,rfl,rfl⟩
 ·rw[bj,c];exact sD u o _ _ _ _ v (λx y=>by have:=e.lt x y;simpa using this) w
 ·rw[bj,c,a];exact rfl
theorem EZ(s:ByteArray):cd (s.data.toList.map UInt8.toBitVec)=s:=by
 unfold cd;rw[List.map_map];have:(UInt8.ofBitVec∘UInt8.toBitVec)=id:=by funext x;rfl
 rw[this,List.map_id]
theorem CF{W:World}{a:Addr}{u:Value}(h:W.cell? a=some u):a.block<W.heap.size∧a.spot=none:=by
 unfold World.cell? at h;split at h
 case h_2=>simp at h
 rename_i b;refine⟨(dX.1 b).1,?_⟩;cases c:a.spot with
 |none=>rfl
 |some x=>simp[c]at h
section
variable{H:Type}{enc:TypeId×Value→H}{P:Program}{W:World}
def RO(_:Nat):Prop:=False
def xd(enc:TypeId×Value→H)(P:Program)(W:World)(t:TypeId)(T:Ty):Prop:=
 ∀(a:Nat)(b:List Value)(x:DataW H×List MemPlace),DataW.trod enc P W 0 (λ_=>true) true a t b=some x→∃d:T.den,Rd W RO T d b
theorem KQ{t:TypeId}(b:P.underlying t=some (.int .i64)):xd enc P W t .i64:=by
 intro a f x c;obtain⟨z,e,_⟩:=DataW.trod_int b c;exact⟨z,e⟩
theorem RP{t:TypeId}(b:P.underlying t=some (.int .u8)):xd enc P W t .u8:=by
 intro a c x e;obtain⟨z,f,_,g⟩:=DataW.trod_int b e;simp[Lit.wf,IntKind.min,IntKind.max,IntKind.signed,IntKind.bits]at g;refine⟨af 8 z.toNat,?_⟩;show c=[ca _];rw[f];unfold ca;simp;omega
theorem RQ{t:TypeId}(b:P.underlying t=some .string):xd enc P W t .st:=by
 intro a c x e;obtain⟨s,f,_⟩:=DataW.trod_string b e;refine⟨s.data.toList.map UInt8.toBitVec,?_⟩;show c=[.string (cd _)];rw[EZ,f]
theorem adp(b o i:Nat):Addr.add ⟨b,o,none⟩ i=⟨b,o+i,none⟩:=by
 unfold Addr.add;split<;>simp_all
theorem uT{t e:TypeId}{E:Ty}{ce:Nat}(U:P.underlying t=some (.slice e))(F:P.cellsOf e=ce)(h0:0<ce)(X:xd enc P W e E):xd enc P W t (.sl E):=by
 intro M cs x Y;rcases DataW.trod_slice U Y with⟨o,hx⟩|⟨a,len,cap,G,N,n,_,o,hx,_,hl,hm,O,r,J,_⟩
 ·exact⟨[],_,o, .inr ⟨rfl,none,rfl⟩⟩
 ·obtain⟨a0,Q⟩:=J rfl;rw[F]at r Q
  have one:∀i y,(W.cells? 0 (a.add (i*ce)) ce).bind (DataW.trod enc P W 0 (λ_=>true) true n e)=some y→∃(d:E.den)(b:List Value),Rd W RO E d b∧b.length=ce∧∀j u,b[j]?=some u→W.cell? ((a.add (i*ce)).add j)=some u:=by
   intro i y s;rw[Option.bind_eq_some_iff]at s;obtain⟨b,D,w⟩:=s;obtain⟨d,hd⟩:=X n b y w;obtain⟨_,v,c⟩:=World.cells?_some D;refine⟨d,b,hd,v,λj u f=>?_⟩;rw[c j (by rw[←v];exact(dd.1 f).1),f]
  by_cases hc:cap=0
  ·have:len=0:=by omega
   subst this hc;exact⟨[],_,o, .inr ⟨rfl,some a,rfl⟩⟩
  have p:∃u,W.cell? ((a.add (0*ce)).add 0)=some u:=by
   by_cases hz:0<len
   ·have c:=r 0 hz;rw[ap (by omega)]at c;obtain⟨d,z,_,K,A⟩:=one 0 _ c;exact⟨_,A 0 z[0] (ap (by omega))⟩
   ·have c:=Q 0 (by omega);rw[ap (by omega)]at c;have L:len+0=0:=by omega
    rw[L]at c;obtain⟨d,z,_,K,A⟩:=one 0 _ c;exact⟨_,A 0 z[0] (ap (by omega))⟩
  obtain⟨u,f⟩:=p;rw[Nat.zero_mul]at f;obtain⟨R,S⟩:=CF f;obtain⟨B,C,sub⟩:=a;simp[Addr.add]at R S;subst S;clear f
  have all:∀m,m≤len→∃(l:List E.den)(b:List Value),l.length=m∧b.length=m*ce∧dv (Rd W RO E) l b∧∀i u,b[i]?=some u→W.cell? ⟨B,C+i,none⟩=some u:=by
   intro m
   induction m with
   |zero=>intro _;exact⟨[],[],rfl,by simp,rfl,λi u h=>by simp at h⟩
   |succ m ih=>
    intro a1;obtain⟨l,b,s,D,w,v⟩:=ih (by omega);have c:=r m (by omega);rw[ap (by omega)]at c;obtain⟨d,z,L,K,A⟩:=one m _ c;refine⟨l++[d],b++z,by simp[s],by rw[aa,D,K,Nat.succ_mul],dv.append w (dv.one L),λi u f=>?_⟩;rcases bN i b.length with g|g
    ·rw[cH g]at f;exact v i u f
    ·rw[bB g]at f;have:=A _ u f;rw[adp,adp,eA,show m*ce+(i-b.length)=i by omega]at this;exact this
  obtain⟨l,b,s,D,w,v⟩:=all len (aC _);exact⟨l,_,o, .inl ⟨B,C,cap,b,by rw[s],by omega,R,λq=>q,w,v⟩⟩
inductive CG (enc:TypeId×Value→H) (P:Program) (W:World):Nat→List (TypeId×Nat)→Ty→Prop
 |nil {o:Nat}:CG enc P W o [] .un
 |one {o:Nat} {t:TypeId} {T:Ty}:xd enc P W t T→CG enc P W o [(t,o)] T
 |cons {o:Nat} {t:TypeId} {r:List (TypeId×Nat)} {A B:Ty}:xd enc P W t A→CG enc P W (o+P.cellsOf t) r B→CG enc P W o ((t,o)::r) (.pr A B)
def dM(P:Program):List (TypeId×Nat)→Nat→Nat
 |[],o=>o
 |f::r,o=>dM P r (o+P.cellsOf f.1)
theorem KR{n:Nat}{cs:List Value}{o:Nat}{ps:List (TypeId×Nat)}{T:Ty}(h:CG enc P W o ps T):∀{xs:List (DataW H×List MemPlace)},cs.length=dM P ps o→
 (∀(i:Nat)(f:TypeId×Nat),ps[i]?=some f→DataW.trod enc P W 0 (λ_=>true) true n f.1 ((cs.drop f.2).take (P.cellsOf f.1))=xs[i]?)→xs.length=ps.length→∃d:T.den,Rd W RO T d (cs.drop o):=by
 induction h with
 |@nil o=>
  intro xs a _ _;have a:cs.length=o:=a;exact⟨(),by show cs.drop o=[];rw[←a,List.drop_length]⟩
 |@one o t T l=>
  intro xs a c e;have a:cs.length=o+P.cellsOf t:=a;have p:=c 0 (t,o) rfl;rw[ap (by rw[e];exact Nat.zero_lt_one)]at p;obtain⟨d,j⟩:=l n _ _ p;rw[ba (by rw[cD];show cs.length-o≤P.cellsOf t;omega)]at j;exact⟨d,j⟩
 |@cons o t r A B l v q=>
  intro xs a c e
  obtain⟨x,xs,rfl⟩:∃x b,xs=x::b:=by
   cases xs with
   |nil=>simp at e
   |cons x b=>exact⟨x,b,rfl⟩
  obtain⟨d,j⟩:=l n _ x (by have:=c 0 (t,o) rfl;simpa using this);obtain⟨s,m⟩:=q (xs:=xs) a (λi g u=>by have:=c (i+1) g (by simpa using u);simpa using this) (by simpa using e);refine⟨(d,s),(cs.drop o).take (P.cellsOf t),cs.drop (o+P.cellsOf t),?_,j,m⟩;rw[←jf,dC]
def Ws(P:Program)(t:TypeId):Bool:=match P.underlying t with
 |some (.struct _)=>true
 |_=>false
def rj(P:Program)(t:TypeId):List (TypeId×Nat):=match P.underlying t with
 |some (.struct a)=>a.toList.map λf=>(f.type,f.offset)
 |_=>[]
theorem rk{t:TypeId}{T:Ty}{ps:List (TypeId×Nat)}(b:Ws P t=true)(h:rj P t=ps)(m:CG enc P W 0 ps T)(o:P.cellsOf t=dM P ps 0):xd enc P W t T:=by
 intro j p x c;unfold Ws at b;split at b
 case h_2=>cases b
 rename_i q a;have e:rj P t=q.toList.map λf=>(f.type,f.offset):=by unfold rj;rw[a]
 rw[e]at h;subst h;obtain⟨r,n,_,rfl,s,u,c⟩:=DataW.trod_struct a c
 have:=KR (cs:=p) m (xs:=r) (by rw[s,o]) (λi f l=>by
  rw[List.getElem?_map]at l;obtain⟨g,v,rfl⟩:=lJ.1 l;exact c i g (by simpa using v)) (by simpa using u)
 simpa using this
end
theorem KS{P:Program}{f:FuncId}{a:Ct}(h:bO P f a)(x:a.inp.den){Q:aN a.out→Prop}(p:(a.spec x).sat Q){W:World}{vals:List Value}(r:vals.length=a.nargs)(hh:a.inp.hp=[])(s:F2 (aS W RO (λ_=> .un)) (nZ a.inp a.nargs (a.inp.get x)) vals):
 Calls P f vals.toArray W λe i=>Below W.heap.size W i∧∃(ρ':Nat→Pl)(y:aN a.out)(vs:List Value)(A:Nat→Prop),Q y∧e= .returned (kr vs)∧F2 (yp i A ρ') (SP.res gM (cV a.out y.1).sl ((cV a.out y.1).get y.2).1) vs:=by
 have j:dV a.inp (a.inp.get x)=λ_=>none:=by
  unfold dV;funext k;generalize(a.inp.get x).2=v;revert v;rw[hh];intro v;rfl
 have t:Av (λ_=>False) (λ_=>Pl.un) (dV a.inp (a.inp.get x))=RO:=by
  rw[j];funext b;refine propext ⟨λq=>?_,λq=>False.elim q⟩;rcases q with q|⟨k,c,l,_⟩
  ·exact q
  ·cases l
 refine(h x Q p (λ_=>False) (λ_=> .un) W vals r ?_ (by rw[t];exact s) (λ_ _=>rfl)).mono λe i⟨y,u,ρ',vs,l,B,w,C,g,D⟩=>?_
 ·rw[j];exact⟨λk c h=>(by cases h),λk E c F b h=>(by cases h),λk c b h=>(by cases h),λk m G J n o h=>(by cases h),λb h=>False.elim h⟩
 ·rw[j]at g;exact⟨⟨g.os,g.tape,g.output,g.size,λb z=>g.block b z λ⟨k,c,q,_⟩=>(by cases q)⟩,ρ',y,vs,_,u,l,w⟩
end
end Go.Hv
