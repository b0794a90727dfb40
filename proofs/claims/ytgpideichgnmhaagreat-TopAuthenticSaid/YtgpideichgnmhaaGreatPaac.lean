/- A part of the proof of TopAuthenticSaid: no conditions; packed by a program of our own. -/
import Derived.Test.YtgpideichgnmhaaGreatPaab
import Derived.Laws.Pointers
import Derived.Lib.AppendZerosOnto
import Derived.Laws.IdiomStrings
open Array renaming length_toList→sX
open Bool renaming false_eq_true→cf,or_eq_true→ig
open Decidable renaming not_not→aD
open Go.Builtin renaming append_→cQ,firstCells→cU,zeroCells→bI,copy_→gm
open Go.Instr renaming sureAddr→rT,sliceAt→mJ
open Go.IntKind renaming wrap_i64→dj
open Go.Result renaming andThen_ok→aW
open Go.Sem renaming run_pure→bt,run_bind→bE
open Go.Value renaming oneCell'→dB
open Go.World renaming size_alloc→dR
open Int renaming toNat_natCast→aG,toNat_of_nonneg→pm,eq_ofNat_of_zero_le→cq,le_refl→cr
open List renaming replicate→ak,length_append→aa,length_cons→bd,append_assoc→ay,drop_of_length_le→bw,nil_append→eG,take_of_length_le→ba,append_nil→bj,getElem?_eq_getElem→ap,getD→bv,getElem?_take_of_lt→ib,getElem?_drop→iq,getElem?_append_left→cH,drop_drop→jf,take_append_drop→dC,length_take→bi,length→ac,getD_eq_getElem?_getD→az,getElem?_eq_none→bY,length_nil→cX,map_append→dl,length_map→bT,mem_map→dY
open Nat renaming min_eq_left→ee,add_comm→fj,le_refl→aC,le_trans→bA,zero_add→bK,zero_le→aq,add_assoc→eA,lt_or_ge→bN
open Option renaming map_eq_some_iff→lJ
namespace Go.Hv
open Go.RowKit
section
section
variable{w:World}{A:Nat→Prop}{ρ:Nat→Pl}
def Ko(P:Program)(t:TypeId)(l:List I)(off:Nat)(y:V):Option (List I):=
 match jM P t,y with
 |some n, .val true m=>if jY m=n then ka l off m else none
 |some n, .val false [c]=>if n=1 then jj l off c else none
 |_,_=>none
theorem AB{P:Program}{t:TypeId}{l m:List I}{off:Nat}{y:V}{u:Value}{vs:List Value}(h:Ko P t l off y=some m)(p:aK w A ρ l vs)(q:aS w A ρ y u):
 jM P t=some u.cells.size∧off+u.cells.toList.length≤vs.length∧aK w A ρ m (vs.take off++u.cells.toList++vs.drop (off+u.cells.toList.length))∧∀v∈u.cells.toList,v.oneCell'=true:=by
 have r:∀{g i},y= .val g i→aK w A ρ i u.cells.toList:=λe=>dU (by rw[←e];exact q);unfold Ko at h;split at h
 case h_3=>simp at h
 ·rename_i n C b;split at h
  case isFalse=>simp at h
  rename_i o;have a:=r rfl;obtain⟨s,x⟩:=kc p a h;have:=aK.length a;exact⟨by rw[b,←o,←this];simp,s,x,aK.one a⟩
 ·rename_i n c b;split at h
  case isFalse=>simp at h
  rename_i o;subst o;have f:=aH.1 q
  have a:u.cells.toList=[u]:=by
   have:=bf.one f u (by simp);cases u<;>first|rfl|(simp[dB]at this)
  obtain⟨z,B⟩:=lW p f h;have j:u.cells.size=1:=by have:=aI ac a;simpa using this
  refine⟨by rw[b,j],by rw[a];simp;omega,?_,by rw[a];exact bf.one f⟩;rw[a]
  have:vs.take off++[u]++vs.drop (off+[u].length)=vs.set off u:=by
   rw[List.set_eq_take_append_cons_drop,an z];simp
  rw[this];exact B
end
theorem eJ(P:Program){w:World}{b off:Nat}{cs:Array Value}{ty:TypeId}{nv:List Value}(g:w.heap[b]?=some (.cells cs ty (0,0)))(j:off+nv.length≤cs.size)(i:∀v∈nv,v.oneCell'=true):
 ∃w' a,(storeCells ⟨b,off,none⟩ nv).run P w= .ok () w'∧w'.heap[b]?=some (.cells a ty (0,0))∧a.toList=cs.toList.take off++nv++cs.toList.drop (off+nv.length)∧
  w'.heap.size=w.heap.size∧w'.os=w.os∧w'.tape=w.tape∧w'.output=w.output∧∀e,e≠b→w'.heap[e]?=w.heap[e]?:=by
 have c:=run_storeCells_at P b off ty nv 0 cs w g (by omega) i;simp only[Nat.add_zero]at c;exact⟨_,_,c,setRow_heap w b cs _ ty (0,0) g,rfl,by simp[World.setRow],rfl,rfl,rfl,λe f=>setRow_other _ _ _ _ f⟩
theorem oL{P:Program}{w w':World}{t:TypeId}{n:Nat}(a:Addr)(v:Value)(b:jM P t=some n)(c:v.cells.size=n)
 (h:(storeCells a v.cells.toList).run P w= .ok () w'):(Instr.storeAt t (.pointer (some a)) v).run P w= .ok () w':=by
 simp only[Instr.storeAt,rT,bE,bt,aW,storeVar,bV b,c,ne_eq,not_true_eq_false,if_false,h]
theorem mT{α:Type}{l vs nv:List α}{off:Nat}(e:l.take vs.length=vs)(b:vs.length≤l.length)(i:off+nv.length≤vs.length):
 (l.take off++nv++l.drop (off+nv.length)).take (vs.take off++nv++vs.drop (off+nv.length)).length=vs.take off++nv++vs.drop (off+nv.length):=by
 have c:l=vs++l.drop vs.length:=by rw[←e,bi,ee b];simp
 have a:(vs.take off++nv++vs.drop (off+nv.length)).length=vs.length:=by simp;omega
 rw[a];have f:l.take off=vs.take off:=by rw[c,List.take_append_of_le_length (by omega)]
 have g:l.drop (off+nv.length)=vs.drop (off+nv.length)++l.drop vs.length:=by
  conv=>lhs;rw[c]
  rw[List.drop_append_of_le_length (by omega)]
 rw[f,g,←ay,List.take_append_of_le_length (by rw[a];exact aC _),ba (by rw[a];exact aC _)]
theorem oM{α:Type}{vs nv:List α}{q n m:Nat}(e:m+nv.length≤n):
 vs.take q++(((vs.drop q).take n).take m++nv++((vs.drop q).take n).drop (m+nv.length))++vs.drop (q+n)=vs.take (q+m)++nv++vs.drop (q+m+nv.length):=by
 have a:((vs.drop q).take n).take m=(vs.drop q).take m:=by rw[List.take_take];congr 1;omega
 have b:vs.take (q+m)=vs.take q++(vs.drop q).take m:=by rw[List.take_add]
 have c:((vs.drop q).take n).drop (m+nv.length)++vs.drop (q+n)=vs.drop (q+m+nv.length):=by
  rw[List.drop_take,jf];have:vs.drop (q+n)=(vs.drop (q+(m+nv.length))).drop (n-(m+nv.length)):=by rw[jf];congr 1;omega
  rw[this,dC]
  congr 1
  omega
 rw[a,b];simp only[ay];rw[←c]
def ui(P:Program)(t:TypeId)(x y:V)(get:Nat→Option Ch):Option (V×dH):=
 match x.one? with
 |some (.ptr k b)=>match get k with
  |some (.cells l)=>match Ko P t l b y with
   |some m=>some (.tup [],[(k,some (.cells m))])
   |none=>none
  |_=>none
 |some (.pes k e i a)=>match get k with
  |some (.sl c l)=>match Ty.deq c e with
   |some q=>match Ko P t (iF e ((q.down▸l:List e.den).getD i e.df)) a y with
    |some m=>match sj e m with
     |some z=>some (.tup [],[(k,some (.sl e ((q.down▸l:List e.den).set i z)))])
     |none=>none
    |none=>none
   |none=>none
  |_=>none
 |_=>none
theorem mU{P:Program}{F:Nat→Prop}{ρ:Nat→Pl}{w:World}{h get:Nat→Option Ch}{N W:Nat}{t:TypeId}{x y:V}{v u:Value}{q:V×dH}
 (hh:dn F ρ w h) (hg:∀k b,get k=some b→h k=some b) (hx:aS w (Av F ρ h) ρ x v) (hy:aS w (Av F ρ h) ρ y u) (f:ui P t x y get=some q):
 ∃w',(Instr.storeAt t v u).run P w= .ok () w'∧bJ F ρ w h N W q.1 q.2 undef w':=by
 unfold ui at f;split at f
 case h_3=>simp at f
 ·rename_i k a3 O;obtain⟨_,⟨b,p,rfl⟩,G⟩:=aL O hx;simp at G;subst G;simp only at p;split at f
  case h_2=>simp at f
  rename_i l Q;split at f
  case h_2=>simp at f
  rename_i m K;simp at f;subst f;have j:=hg k _ Q;obtain⟨H,cs,R,r,S,e3⟩:=hh.ok k _ j;rw[p]at r;simp at r;subst r;obtain⟨U,s,X,Y⟩:=AB K e3 hy;obtain⟨w',o,q1,q2,L,q4,q5,q6,q7,q8⟩:=eJ P S (by simpa using s) Y;refine⟨w',oL _ _ U rfl q1,bJ.set hh j rfl (.cells m) (by simp) (by simp) (by omega) q5 q6 q7 (λH _ B=>q8 H (λe=>B (by rw[p,e];rfl))) (λC=>?_) _ _ (λ_=>dZ)⟩;exact⟨b,o,R,p,q2,by rw[L];exact X.evo C.evo (dK.refl ρ)⟩
 ·rename_i k e i D O;obtain⟨b,n,c,p,hi,G⟩:=aL O hx;simp at G;subst G;split at f
  case h_2=>simp at f
  rename_i E l Q;split at f
  case h_2=>simp at f
  rename_i qq _;obtain⟨qq⟩:=qq;subst qq;split at f
  case h_2=>simp at f
  rename_i m K;split at f
  case h_2=>simp at f
  rename_i z hz;simp at f;subst f;have j:=hg k _ Q;obtain⟨sv,r,S⟩:=hh.ok k _ j;rw[p]at r;simp at r;subst r;rcases S with⟨H,cap,cells,R,us,M,o2,o3,o4,o5,o6,o7⟩|⟨_,a,M⟩
  case inr=>simp at M;omega
  simp at M;obtain⟨rfl,rfl,rfl⟩:=M;obtain⟨r1,r2⟩:=dv.get (λ_ _=>Rd.length) o6 (ap hi);have a0:l.getD i E.df=l[i]:=by simp[bv,ap hi]
  simp only[a0]at K;obtain⟨U,s,X,Y⟩:=AB K (fB.2 r1) hy;have a1:=ir hz X;have J:((us.drop (i*E.size)).take E.size).length=E.size:=by simp;omega
  rw[J]at s
  have a2:us.length≤cells.size:=by
   have:=aI ac o7;simp at this;omega
  obtain⟨w',o,q1,q2,L,q4,q5,q6,q7,q8⟩:=eJ P (off:=i*E.size+D) o3 (by simp at s⊢;omega) Y;have g:=dv.set (λ_ _=>Rd.length) o6 hi a1;rw[oM s]at g;refine⟨w',oL _ _ U rfl q1,bJ.set hh j rfl (.sl E (l.set i z)) (by simp) (by simp) (by omega) q5 q6 q7 (λH _ B=>q8 H (λe=>B ?_)) (λC=>?_) _ _ (λ_=>dZ)⟩
  ·obtain⟨c',rfl⟩:∃c',c=c'+1:=⟨c-1,by omega⟩;rw[p,e];rfl
  ·refine⟨_,p, .inl ⟨b,c,o,R,_,by simp,o2,q2,by simpa using o4,?_,g.imp (λ_ _=>Rd.evo C.evo),?_⟩⟩
   ·have:o.size=cells.size:=by
     have:=aI ac L;simp at this;rw[this];simp at s;omega
    omega
   ·rw[L];exact mT o7 (by simpa using a2) (by simp at s⊢;omega)
section
variable{P:Program}{F:Nat→Prop}{ρ:Nat→Pl}{w:World}{h:Nat→Option Ch}{N W:Nat}
theorem bJ.row(hh:dn F ρ w h)(e:ρ N= .un)(g:0<W){w':World}(cells:Array Value)(ty:TypeId)(a:List I)(c:aK w (Av F ρ h) ρ a cells.toList)
 (i:w'=w.alloc (.cells cells ty)):bJ F ρ w h N W (sc (.ptr N 0)) [(N,some (.cells a))] (.pointer (some ⟨w.heap.size,0,none⟩)) w':=by
 subst i;have j:fp w (w.alloc (.cells cells ty)):=fp.alloc w _;refine bJ.add hh e g j (.bk w.heap.size) (.cells a) (by simp) (λb _ f=>?_) (λl=>?_) _ _ (λ_=>aH.2 ⟨_,⟨w.heap.size,bL _ _ _,rfl⟩,rfl⟩)
 ·simp[Pl.blk]at f;subst f;exact⟨aC _,by rw[dR];omega⟩
 ·exact⟨w.heap.size,cells,ty,bL _ _ _,Go.heap_alloc_new w _,c.evo l.evo (qd e _)⟩
def yu(P:Program)(t:TypeId)(N:Nat):Option (V×dH):=
 match zT P t with
 |some (_,l)=>some (sc (.ptr N 0),[(N,some (.cells l))])
 |none=>none
theorem uj(hh:dn F ρ w h)(e:ρ N= .un)(f:0<W){t:TypeId}:dh P F ρ w h N W (Instr.alloc t true (.tuple #[])) (Tr.ofOpt (yu P t N)):=by
 refine .ofOpt λq a=>?_;unfold yu at a;split at a<;>simp at a;rename_i g l j;subst a;obtain⟨i,z,m,b,c⟩:=oK j;refine⟨.pointer (some ⟨w.heap.size,0,none⟩),w.alloc (.cells z.cells t),?_,bJ.row hh e f z.cells t l (dU (c _ _ _)) rfl⟩;simp[Instr.alloc,zeroValue,typeInfo,m,b,newVar,newRow]
def RB(x:V)(N:Nat):Option (V×dH):=
 match x with
 | .val _ l=>some (sc (.ptr N 0),[(N,some (.cells l))])
 |_=>none
theorem yv(hh:dn F ρ w h)(b:ρ N= .un)(c:0<W){t:TypeId}{x:V}{v:Value}(e:aS w (Av F ρ h) ρ x v):dh P F ρ w h N W (Instr.box t v) (Tr.ofOpt (RB x N)):=by
 refine .ofOpt λq a=>?_;unfold RB at a;split at a<;>simp at a;rename_i g l;subst a;exact⟨.pointer (some ⟨w.heap.size,0,none⟩),w.alloc (.cells v.cells t),by simp[Instr.box,newVar,newRow],bJ.row hh b c v.cells t l (dU e) rfl⟩
end
def I.int?:I→Option Int
 | .k (.i64 n)=>some n
 | .d .i64 n=>some n
 | .k (.i32 n)=>some n
 | .d .i32 n=>some n
 | .k (.u8 x)=>some (x.toNat:Int)
 | .d .u8 (x:BitVec 8)=>some (x.toNat:Int)
 | .k (.u64 x)=>some (x.toNat:Int)
 | .d .u64 (x:BitVec 64)=>some (x.toNat:Int)
 |_=>none
def V.int?(x:V):Option Int:=match x.one? with
 |some i=>i.int?
 |none=>none
theorem jk{w:World}{A:Nat→Prop}{ρ:Nat→Pl}{x:V}{n:Int}{v:Value}(h:x.int?=some n)(b:aS w A ρ x v):∃k,v= .int k n:=by
 unfold V.int? at h;split at h
 case h_2=>simp at h
 rename_i i c;have a:=aL c b;unfold I.int? at h;split at h<;>simp at h<;>subst h<;>simp[bf,Rd,Sc.val,ca,ji]at a<;>exact⟨_,a⟩
def V.nat?(x:V):Option Nat:=match x.one? with
 |some (.k (.i64 n))=>if 0≤n then some n.toNat else none
 |some (.k (.u8 x))=>some x.toNat
 |some (.k (.u64 x))=>some x.toNat
 |_=>none
theorem AC{w:World}{A:Nat→Prop}{ρ:Nat→Pl}{x:V}{n:Nat}{v:Value}(h:x.nat?=some n)(c:aS w A ρ x v):∃k,v= .int k (n:Int):=by
 unfold V.nat? at h;split at h
 ·rename_i m b;have a:=aL b c;split at h<;>simp at h;subst h;simp[bf,Sc.val]at a;subst a;exact⟨_,by rw[pm ‹_›]⟩
 ·rename_i m b;have a:=aL b c;simp at h;subst h;simp[bf,Sc.val,ca]at a;exact⟨_,a⟩
 ·rename_i m b;have a:=aL b c;simp at h;subst h;simp[bf,Sc.val,ji]at a;exact⟨_,a⟩
 ·simp at h
def iw{R:Type}(i:Int)(f:Nat→Tr R):Nat→Nat→Tr R
 |0,_=> .need False .fin
 |n+1,a=> .ite (i==(a:Int)) (f a) (iw i f n (a+1))
theorem kf{R:Type}{i:Int}{f:Nat→Tr R}{Q:R→Prop}:∀{n a:Nat},(iw i f n a).sat Q→∃j,j<a+n∧i=(j:Int)∧(f j).sat Q
 |0,_,h=>h.1.elim
 |n+1,a,h=>by
  simp only[iw,Tr.sat]at h;cases b:(i==(a:Int))
  ·obtain⟨j,g,c,e⟩:=kf (h.2 b);exact⟨j,by omega,c,e⟩
  ·exact⟨a,by omega,by simpa using b,h.1 b⟩
def uk:(t:Ty)→t.den→Nat→Option (Σ b:Ty,b.den)
 | .pr a r,x,n=>if n=0 then some ⟨.pr a r,x⟩else if a.size≤n then uk r x.2 (n-a.size)else none
 |t,x,n=>if n=0 then some ⟨t,x⟩else none
theorem Cg{w:World}{A:Nat→Prop}:∀{t:Ty}{x:t.den}{n:Nat}{y:Σ f:Ty,f.den}{vs:List Value},uk t x n=some y→Rd w A t x vs→n≤vs.length∧Rd w A y.1 y.2 (vs.drop n):=by
 intro t
 have one:∀{t:Ty}{x:t.den}{n:Nat}{y:Σ f:Ty,f.den}{vs:List Value},(if n=0 then some (⟨t,x⟩:Σ f:Ty,f.den)else none)=some y→Rd w A t x vs→n≤vs.length∧Rd w A y.1 y.2 (vs.drop n):=by
  intro t x n y vs h b;split at h<;>simp at h;rename_i g;subst g;subst h;exact⟨aq _,by simpa using b⟩
 induction t with
 |pr a r _ i=>
  intro x n y vs h b;simp only[uk]at h;split at h
  ·rename_i g;simp at h;subst g;subst h;exact⟨aq _,by simpa using b⟩
  ·split at h
   case isFalse=>simp at h
   obtain⟨c,d,e,j,l⟩:=b;have m:=Rd.length j;obtain⟨p,o⟩:=i h l;refine⟨by rw[e,aa];omega,?_⟩;rw[e,List.drop_append,bw (by omega),eG,m];exact o
 |_=>intro x n y vs h b;exact one h b
def I.frozen?(i:I)(get:Nat→Option Ch):Option (Σ e:Ty,List e.den):=
 match i with
 | .d (.sl e) l=>some ⟨e,l⟩
 | .cut e l=>some ⟨e,l⟩
 | .own q=>match get q with
   |some (.fr e l)=>some ⟨e,l⟩
   |_=>none
 |_=>none
theorem jl{F:Nat→Prop}{ρ:Nat→Pl}{w:World}{h get:Nat→Option Ch}{i:I}{q:Σ e:Ty,List e.den}{v:Value}(hh:dn F ρ w h)(p:∀k b,get k=some b→h k=some b)(hi:I.frozen? i get=some q)(j:bf w (Av F ρ h) ρ i [v]):
 ly w (Av F ρ h) (Rd w (Av F ρ h) q.1) q.2 v:=by
 unfold I.frozen? at hi;split at hi
 ·simp at hi;subst hi;obtain⟨u,f,g⟩:=j;simp at f;subst f;exact g
 ·simp at hi;subst hi;obtain⟨u,f,g,_⟩:=j;simp at f;subst f;exact g
 ·split at hi<;>simp at hi;rename_i e l r;subst hi;obtain⟨u,f,g⟩:=hh.ok _ _ (p _ _ r);obtain⟨a,n,c,m,o⟩:=j;simp at o;rw[f]at m;simp at m;subst m;subst o;exact g
 ·simp at hi
def fq(P:Program)(t:TypeId)(x i:V)(get:Nat→Option Ch):Tr (V×dH):=
 match x.one? with
 |some (.ptr k a)=>match Ce P t with
  |some (n,e)=>match jM P e with
   |some s=>match i.nat? with
    |some j=>if j<n then .leaf (sc (.ptr k (a+j*s)),[])else .stuck
    |none=>match i.int? with
     |some j=>iw j (λq=> .leaf (sc (.ptr k (a+q*s)),[])) n 0
     |none=> .stuck
   |none=> .stuck
  |none=> .stuck
 |some (.own k)=>match get k,i.int?,pE P t with
  |some (.sl e l),some j,some b=>if jM P b=some e.size then .need (0≤j∧j<l.length) (.leaf (sc (.pes k e j.toNat 0),[]))else .stuck
  |some (.fr e l),some j,some b=>if jM P b=some e.size then .need (0≤j∧j<l.length) (.leaf (sc (.pv e (l.getD j.toNat e.df)),[]))else .stuck
  |_,_,_=> .stuck
 |some c=>match c.frozen? get,i.int?,pE P t with
  |some q,some j,some b=>if jM P b=some q.1.size then .need (0≤j∧j<q.2.length) (.leaf (sc (.pv q.1 (q.2.getD j.toNat q.1.df)),[]))else .stuck
  |_,_,_=> .stuck
 |none=> .stuck
section
variable{P:Program}{F:Nat→Prop}{ρ:Nat→Pl}{w:World}{h get:Nat→Option Ch}{N W:Nat}
theorem oN{e:Ty}{l:List e.den}{v:Value}{f:IntKind}{j:Int}{t et:TypeId}(hh:dn F ρ w h)(g:ly w (Av F ρ h) (Rd w (Av F ρ h) e) l v)(m:pE P t=some et)(n:jM P et=some e.size)(o:0≤j∧j<l.length):
 dh P F ρ w h N W (Instr.indexAt t v (.int f j)) (.leaf (sc (.pv e (l.getD j.toNat e.df)),[])):=by
 obtain⟨i,rfl⟩:=cq o.1;have c:i<l.length:=by omega
 rcases g with⟨a,b,cap,p,rfl,z,q,s,u,x⟩|⟨rfl,_⟩
 case inr=>simp at c
 obtain⟨y,B⟩:=dv.get (λ_ _=>Rd.length) u (ap c);refine dh.pure (r:= .pointer (some ⟨a,b+i*e.size,none⟩)) hh ?_ (aH.2 ⟨a,b+i*e.size,((p.drop (i*e.size)).take e.size),rfl,q,s,?_,iO x⟩)
 ·simp[Instr.indexAt,asIntOf,run_underlying (cJ m),c,bV n,ci]
 ·have:l.getD (i:Int).toNat e.df=l[i]:=by simp[bv,ap c]
  rw[this];exact y
theorem nP(hh:dn F ρ w h)(G:∀k b,get k=some b→h k=some b){t:TypeId}{x i:V}{v u:Value}(E:aS w (Av F ρ h) ρ x v)(hi:aS w (Av F ρ h) ρ i u):
 dh P F ρ w h N W (Instr.indexAt t v u) (fq P t x i get):=by
 unfold fq;split
 ·rename_i k p z;obtain⟨_,⟨b,o,rfl⟩,B⟩:=aL z E;simp at B;subst B;simp only at o;split
  case h_2=>exact .stuck
  rename_i n e C;split
  case h_2=>exact .stuck
  rename_i s y
  have go:∀(j:Nat)(f:IntKind),j<n→dh P F ρ w h N W (Instr.indexAt t (.pointer (some ⟨b,p,none⟩)) (.int f (j:Int))) (.leaf (sc (.ptr k (p+j*s)),[])):=by
   intro j f H;refine dh.pure (r:= .pointer (some ⟨b,p+j*s,none⟩)) hh ?_ (aH.2 ⟨_,⟨b,o,rfl⟩,rfl⟩);have h0:(0:Int)≤j∧(j:Int)<n:=by omega
   simp[Instr.indexAt,asIntOf,run_underlying (lb C),rT,H,bV y,ci]
  split
  ·rename_i j g;obtain⟨f,rfl⟩:=AC g hi;split
   case isFalse=>exact .stuck
   exact go j f ‹_›
  ·split
   case h_2=>exact .stuck
   rename_i j g;obtain⟨f,rfl⟩:=jk g hi;intro R U;obtain⟨q,q1,X,Y⟩:=kf U;rw[X];exact go q f (by omega) R Y
 ·rename_i k z;split
  case h_3=>exact .stuck
  ·rename_i e l j O J g D;obtain⟨f,rfl⟩:=jk g hi;split
   case isFalse=>exact .stuck
   rename_i y;refine .need λo=>?_;obtain⟨a,n,c,B,Q⟩:=aL z E;simp at Q;subst Q;obtain⟨sv,K,e2⟩:=hh.ok k _ (G k _ J);rw[B]at K;simp at K;subst K;obtain⟨m,rfl⟩:=cq o.1;have L:m<l.length:=by omega
   rcases e2 with⟨b,cap,cells,ty,us,S,o2,o3,o4,o5,o6,o7⟩|⟨rfl,_⟩
   case inr=>simp at L
   simp at S;obtain⟨rfl,rfl,rfl⟩:=S;refine dh.pure (r:= .pointer (some ⟨b,m*e.size,none⟩)) hh ?_ (aH.2 ⟨b,_,_,B,by simpa using L,by simp⟩);simp[Instr.indexAt,asIntOf,run_underlying (cJ D),L,bV y,ci]
  ·rename_i e l j O J g D;obtain⟨f,rfl⟩:=jk g hi;split
   case isFalse=>exact .stuck
   rename_i y;refine .need λo=>?_;have M:I.frozen? (.own k) get=some ⟨e,l⟩:=by simp[I.frozen?,J]
   exact oN hh (jl hh G M (aL z E)) D y o
 ·rename_i it _ _ z;split
  case h_2=>exact .stuck
  rename_i q j O M g D;obtain⟨f,rfl⟩:=jk g hi;split
  case isFalse=>exact .stuck
  rename_i y;exact .need λo=>oN hh (jl hh G M (aL z E)) D y o
 ·exact .stuck
def gU(P:Program)(t:TypeId)(x:V)(f:Nat):Option V:=
 match ug P t f with
 |some (o,_)=>match x.one? with
  |some (.ptr k b)=>some (sc (.ptr k (b+o)))
  |some (.pes k e i a)=>some (sc (.pes k e i (a+o)))
  |some (.pv t y)=>match uk t y o with
   |some z=>some (sc (.pv z.1 z.2))
   |none=>none
  |_=>none
 |none=>none
theorem nQ(hh:dn F ρ w h){t:TypeId}{x:V}{f:Nat}{v:Value}(p:aS w (Av F ρ h) ρ x v):dh P F ρ w h N W (Instr.fieldAt t v f) (Tr.ofOpt ((gU P t x f).map (·,[]))):=by
 refine .ofOpt λq r=>?_;cases g:gU P t x f with
 |none=>simp[g]at r
 |some y=>
  simp[g]at r;subst r;unfold gU at g;split at g
  case h_2=>simp at g
  rename_i o X H;obtain⟨Y,J,i,K,s,L,M,rfl,_⟩:=sZ H
  have go:∀(b a:Nat),(Instr.fieldAt t (.pointer (some ⟨b,a,none⟩)) f).run P w= .ok (.pointer (some ⟨b,a+J.offset,none⟩)) w:=by
   intro b a;simp[Instr.fieldAt,run_underlying K,s,rT,fieldPlace,sizeOf,typeInfo,L,M,ci]
  split at g
  case h_4=>simp at g
  ·rename_i k a m;obtain⟨_,⟨b,B,rfl⟩,l⟩:=aL m p;simp at l g;subst l;subst g;exact⟨_,w,go b a,bJ.pure hh (aH.2 ⟨_,⟨b,B,rfl⟩,rfl⟩)⟩
  ·rename_i k e i' C m;obtain⟨b,n,c,B,D,l⟩:=aL m p;simp at l g;subst l;subst g;exact⟨_,w,go b _,bJ.pure hh (aH.2 ⟨b,n,c,B,D,by simp[eA]⟩)⟩
  ·rename_i t' y' m;split at g<;>simp at g;rename_i z E;subst g;obtain⟨b,a,cs,l,O,Q,R,S⟩:=aL m p;simp at l;subst l;obtain⟨d1,U⟩:=Cg E R;refine⟨_,w,go b a,bJ.pure hh (aH.2 ⟨b,_,_,rfl,O,Q,U,λj u G=>?_⟩)⟩;rw[iq]at G;rw[eA];exact S _ _ G
def qg(x:V)(i:Nat):Option V:=
 match x with
 | .tup l=>match l[i]? with
   |some p=>some (.val p.1 p.2)
   |none=>none
 |_=>none
theorem qh(hh:dn F ρ w h){x:V}{i:Nat}{v:Value}(c:aS w (Av F ρ h) ρ x v):dh P F ρ w h N W (Instr.extract v i) (Tr.ofOpt ((qg x i).map (·,[]))):=by
 refine .ofOpt λq a=>?_;unfold qg at a;split at a
 case h_2=>simp at a
 rename_i l;split at a<;>simp at a;rename_i p e;subst a;obtain⟨j,rfl,b⟩:=c;obtain⟨u,f,g⟩:=b.get e;exact⟨u,w,by simp[Instr.extract,f],bJ.pure hh g⟩
def qi(P:Program)(t:TypeId)(l:List I)(off:Nat):Option V:=
 match eS P t,jM P t with
 |some true,some n=>(fC l off n).map (.val true ·)
 |some false,some _=>(iu l off).map sc
 |_,_=>none
theorem oO{A:Nat→Prop}{t:TypeId}{l:List I}{off:Nat}{y:V}{vs:List Value}(i:aK w A ρ l vs)(a:qi P t l off=some y):
 ∃r,(part t vs.toArray off).run P w= .ok r w∧aS w A ρ y r:=by
 unfold qi at a;split at a
 case h_3=>simp at a
 ·rename_i n b f;cases e:fC l off n with
  |none=>simp[e]at a
  |some m=>
   simp[e]at a;subst a;obtain⟨j,g⟩:=gp i e;refine⟨.agg ((vs.drop off).take n).toArray,?_,_,g,by simp⟩;simp[part,eI b,bV f]
 ·rename_i n b f;cases e:iu l off with
  |none=>simp[e]at a
  |some c=>
   simp[e]at a;subst a;obtain⟨u,j,g⟩:=lV i e;refine⟨u,?_,aH.2 g⟩;simp[part,eI b,j]
def ul(P:Program)(t:TypeId)(x:V)(f:Nat):Option V:=
 match x with
 | .val true l=>match ug P t f with
   |some (o,a)=>qi P a l o
   |none=>none
 |_=>none
theorem um(hh:dn F ρ w h){t:TypeId}{x:V}{f:Nat}{v:Value}(g:aS w (Av F ρ h) ρ x v):dh P F ρ w h N W (Instr.field t v f) (Tr.ofOpt ((ul P t x f).map (·,[]))):=by
 refine .ofOpt λq b=>?_;cases a:ul P t x f with
 |none=>simp[a]at b
 |some y=>
  simp[a]at b;subst b;unfold ul at a;split at a
  case h_2=>simp at a
  rename_i l;split at a
  case h_2=>simp at a
  rename_i o u j;obtain⟨z,m,e⟩:=g;simp at e;subst e;obtain⟨B,C,i,n,c,D,E,rfl,rfl⟩:=sZ j;obtain⟨r,p,s⟩:=oO (w:=w) m a;exact⟨r,w,by simp[Instr.field,run_underlying n,c,asAgg,p],bJ.pure hh s⟩
def yw:List I→List I
 |[]=>[]
 |i::r=>match i with
  | .d (.ar n e) l=>((List.range n).map λj=>iF e (l.getD j e.df)).flatten++yw r
  |i=>i::yw r
theorem AD{w:World}{A:Nat→Prop}{ρ:Nat→Pl}{e:Ty}:∀{l:List e.den}{vs:List Value},dv (Rd w A e) l vs→aK w A ρ (l.map (iF e)).flatten vs
 |[],_,h=>h
 |_::_,_,⟨a,b,c,f,g⟩=>by rw[c];exact aK.append (fB.2 f) (AD g)
theorem yx{α:Type}(d:α)(l:List α):(List.range l.length).map (λj=>l.getD j d)=l:=by
 refine List.ext_getElem (by simp) λi b a=>?_;rw[List.getElem_map,List.getElem_range,az,ap a];rfl
theorem AE{w:World}{A:Nat→Prop}{ρ:Nat→Pl}:∀{l:List I}{vs:List Value},aK w A ρ l vs→aK w A ρ (yw l) vs
 |[],_,h=>h
 |i::r,_,⟨a,b,c,f,j⟩=>by
  have g:=AE j;unfold yw;split
  ·rename_i n e l;obtain⟨m,o⟩:l.length=n∧dv (Rd w A e) l a:=f;rw[c];have:=AD (ρ:=ρ) o;rw[←yx e.df l,m,List.map_map]at this;exact aK.append this g
  ·exact⟨a,b,c,f,g⟩
def Eo(P:Program)(e:TypeId)(n s:Nat)(l:List I)(j:Nat):Option V:=match l with
 |[.d (.ar a t) q]=>if a=n∧t.size=s∧t.agg=true∧eS P e=some true then some (.val true (iF t (q.getD j t.df)))else none
 |_=>none
theorem Ep{A:Nat→Prop}{e:TypeId}{n s j:Nat}{l:List I}{y:V}{vs:List Value}(p:aK w A ρ l vs)(c:Eo P e n s l j=some y)(u:jM P e=some s)(G:j<n):
 ∃r,(part e vs.toArray (j*s)).run P w= .ok r w∧aS w A ρ y r:=by
 unfold Eo at c;split at c
 case h_2=>simp at c
 rename_i v t q;split at c
 case isFalse=>simp at c
 rename_i g;obtain⟨rfl,rfl,H,z⟩:=g;simp at c;subst c;obtain⟨a,b,f,B,o⟩:=p;have o:b=[]:=o;subst o;rw[bj]at f;subst f;obtain⟨J,C⟩:q.length=v∧dv (Rd w A t) q vs:=B;have m:j<q.length:=by omega
 obtain⟨D,K⟩:=dv.get (λx L E=>Rd.length E) (i:=j) (x:=q[j]) C (ap m);refine⟨.agg ((vs.drop (j*t.size)).take t.size).toArray,by simp[part,eI z,bV u],_,fB.2 ?_,rfl⟩;rw[ap m];exact D
def qj(P:Program)(t:TypeId)(x i:V):Tr (V×dH):=
 match x,Ce P t with
 | .val true l,some (n,e)=>match jM P e with
   |some s=>match i.nat? with
    |some j=>if j<n then Tr.ofOpt ((qi P e (yw l) (j*s)).map (·,[]))else .stuck
    |none=>match i.int? with
     |some j=>match Eo P e n s l j.toNat with
      |some y=> .need (0≤j∧j<(n:Int)) (.leaf (y,[]))
      |none=>iw j (λq=>Tr.ofOpt ((qi P e (yw l) (q*s)).map (·,[]))) n 0
     |none=> .stuck
   |none=> .stuck
 |_,_=> .stuck
theorem uo(hh:dn F ρ w h){t:TypeId}{x i:V}{v u:Value}(H:aS w (Av F ρ h) ρ x v)(hi:aS w (Av F ρ h) ρ i u):dh P F ρ w h N W (Instr.index t v u) (qj P t x i):=by
 unfold qj;split
 case h_2=>exact .stuck
 rename_i l n e a;split
 case h_2=>exact .stuck
 rename_i s m;obtain⟨J,f,E⟩:=H;simp at E;subst E;have K:=f;replace f:=AE f;generalize yw l=G at*
 have go:∀(j:Nat)(c:IntKind),j<n→dh P F ρ w h N W (Instr.index t (.agg J.toArray) (.int c (j:Int))) (Tr.ofOpt ((qi P e G (j*s)).map (·,[]))):=by
  intro j c b;refine .ofOpt λq o=>?_;cases p:qi P e G (j*s)with
  |none=>simp[p]at o
  |some y=>
   simp[p]at o;subst o;obtain⟨r,g,z⟩:=oO (w:=w) f p;exact⟨r,w,by simp[Instr.index,asIntOf,run_underlying (lb a),b,bV m,g],bJ.pure hh z⟩
 split
 ·rename_i j B;obtain⟨c,rfl⟩:=AC B hi;split
  case isFalse=>exact .stuck
  exact go j c ‹_›
 ·split
  case h_2=>exact .stuck
  rename_i j B;obtain⟨c,rfl⟩:=jk B hi;split
  ·rename_i y L;intro R C;obtain⟨⟨S,U⟩,M⟩:=C;obtain⟨r,g,z⟩:=Ep (w:=w) (A:=Av F ρ h) K L m (by omega);refine⟨r,w,(y,[]),?_,M,bJ.pure hh z⟩;obtain⟨D,rfl⟩:∃D:Nat,j=D:=⟨j.toNat,by omega⟩;have b:D<n:=by omega
   rw[aG]at g;simp[Instr.index,asIntOf,run_underlying (lb a),b,bV m,g]
  ·intro R C;obtain⟨q,X,O,Q⟩:=kf C;rw[O];exact go q c (by omega) R Q
end
end
section
def gV(w:World)(A:Nat→Prop)(e:Ty)(l:List e.den)(v:Value):Prop:=
 (∃b c cap f,v= .slice (some ⟨b,c,none⟩) l.length cap∧l.length≤cap∧dv (Rd w A e) l f∧∀i u,f[i]?=some u→w.cell? ⟨b,c+i,none⟩=some u)∨(l=[]∧∃a,v= .slice a 0 0)
theorem ly.reads{w:World}{A:Nat→Prop}{e:Ty}{l:List e.den}{v:Value}(h:ly w A (Rd w A e) l v):gV w A e l v:=by
 rcases h with⟨a,b,cap,c,f,g,_,_,i,j⟩|h
 ·exact .inl ⟨a,b,cap,c,f,g,i,j⟩
 ·exact .inr h
theorem v9.reads{w:World}{A:Nat→Prop}{e:Ty}{l:List e.den}{v:Value}(h:v9 w A e l v):gV w A e l v:=by
 rcases h with⟨b,cap,cells,g,c,rfl,_,j,m,_,n,o⟩|h
 ·refine .inl ⟨b,0,cap,c,rfl,m,n,λi u a=>?_⟩;rw[bK,cell_of_row w b _ cells g (0,0) j]
  have f:i<c.length:=by
   rcases bN i c.length with q|q
   ·exact q
   ·rw[bY q]at a;simp at a
  rw[←o,ib f]at a;simpa using a
 ·exact .inr h
def I.slice?(i:I)(get:Nat→Option Ch):Option (Σ e:Ty,List e.den):=
 match i with
 | .own q=>match get q with
   |some (.sl e l)=>some ⟨e,l⟩
   |some (.fr e l)=>some ⟨e,l⟩
   |_=>none
 | .sub q a n e=>match get q with
   |some (.cells l)=>match fC l a (n*e.size)with
    |some m=>match sj (.ar n e) m with
     |some x=>some ⟨e,x⟩
     |none=>none
    |none=>none
   |_=>none
 |i=>i.frozen? get
theorem fV{F:Nat→Prop}{ρ:Nat→Pl}{w:World}{h get:Nat→Option Ch}{i:I}{q:Σ e:Ty,List e.den}{v:Value}(hh:dn F ρ w h)(r:∀k b,get k=some b→h k=some b)(hi:I.slice? i get=some q)(t:bf w (Av F ρ h) ρ i [v]):
 gV w (Av F ρ h) q.1 q.2 v:=by
 unfold I.slice? at hi;split at hi
 ·rename_i k;obtain⟨a,n,c,s,g⟩:=t;simp at g;subst g;split at hi<;>simp at hi
  ·rename_i e l j;subst hi;obtain⟨u,f,y⟩:=hh.ok _ _ (r _ _ j);rw[s]at f;simp at f;subst f;exact y.reads
  ·rename_i e l j;subst hi;obtain⟨u,f,y⟩:=hh.ok _ _ (r _ _ j);rw[s]at f;simp at f;subst f;exact ly.reads y
 ·rename_i k p n e;obtain⟨b,s,g⟩:=t;simp at g;subst g;split at hi
  case h_2=>simp at hi
  rename_i l j;split at hi
  case h_2=>simp at hi
  rename_i m C;split at hi<;>simp at hi;rename_i x D;subst hi;obtain⟨L,E,M,z,G,H⟩:=hh.ok _ _ (r _ _ j);rw[s]at z;simp at z;subst z;obtain⟨O,J⟩:=gp H C;obtain⟨B,K⟩:=ir D J;refine .inl ⟨b,p,n,_,by rw[B],Nat.le_of_eq B,K,λi u A=>?_⟩;have:=iO (vs:=E.toList) (off:=p) (n:=n*e.size) (w:=w) (blk:=b) (o:=0) (by simpa using mS G) i u A;simpa using this
 ·exact ly.reads (jl hh r hi t)
theorem gV.len{w:World}{A:Nat→Prop}{e:Ty}{l:List e.den}{v:Value}(h:gV w A e l v):∃a c,v= .slice a l.length c:=by
 rcases h with⟨b,f,cap,g,rfl,_⟩|⟨rfl,a,rfl⟩
 ·exact⟨_,_,rfl⟩
 ·exact⟨_,_,rfl⟩
theorem gV.load{P:Program}{w:World}{A:Nat→Prop}{e:Ty}{l:List e.den}{v:Value}(h:gV w A e l v):
 ∃cs,dv (Rd w A e) l cs∧((∃blk off cap,v= .slice (some ⟨blk,off,none⟩) l.length cap∧l.length≤cap∧(loadCells ⟨blk,off,none⟩ cs.length).run P w= .ok cs.toArray w∧∀i u,cs[i]?=some u→w.cell? ⟨blk,off+i,none⟩=some u)∨(l=[]∧cs=[]∧∃a,v= .slice a 0 0)):=by
 rcases h with⟨blk,off,cap,cs,b,f,g,c⟩|⟨rfl,a,b⟩
 ·exact⟨cs,g, .inl ⟨blk,off,cap,b,f,iv w blk off cs c,c⟩⟩
 ·exact⟨[],rfl, .inr ⟨rfl,rfl,a,b⟩⟩
section
variable{P:Program}{F:Nat→Prop}{ρ:Nat→Pl}{w:World}{h get:Nat→Option Ch}{N W:Nat}
def RC(n:Int):V:=sc (.k (.i64 n))
def nR(n:Int):V:=sc (.d .i64 n)
def Kp(P:Program)(t:TypeId)(x:V)(get:Nat→Option Ch):Option V:=
 match pE P t with
 |some _=>match x.one? with
  |some .nils=>some (RC 0)
  |some i=>match i.slice? get with
   |some q=>some (nR (q.2.length:Int))
   |none=>none
  |none=>none
 |none=>
  if Cf P t then match x.one? with
   |some (.k (.str s))=>some (RC (s.length:Int))
   |some (.d .st (s:List (BitVec 8)))=>some (nR (s.length:Int))
   |_=>none
  else match P.underlying t with
   |some (.map _ _)=>match x.one? with
    |some (.mp k)=>match get k with
     |some (.mp _ _ l)=>some (nR (l.length:Int))
     |some (.lk _ _ l)=>some (nR (l.length:Int))
     |_=>none
    |some (.fmp _ _ l)=>some (nR (l.length:Int))
    |_=>none
   |_=>none
theorem yz(hh:dn F ρ w h)(A:∀k b,get k=some b→h k=some b){t ty:TypeId}{x:V}{v:Value}(r:aS w (Av F ρ h) ρ x v):dh P F ρ w h N W (Builtin.len_ #[t] ty #[v]) (Tr.ofOpt ((Kp P t x get).map (·,[]))):=by
 refine .ofOpt λq u=>?_;cases f:Kp P t x get with
 |none=>simp[f]at u
 |some y=>
  simp[f]at u;subst u;unfold Kp at f;split at f
  ·rename_i e H;split at f
   ·rename_i m;simp at f;subst f;have n:=aL m r;simp[bf]at n;subst n;exact⟨.int .i64 0,w,by simp[Builtin.len_,run_underlying (cJ H),goInt],bJ.pure hh (aH.2 rfl)⟩
   ·rename_i i _ m;split at f<;>simp at f;rename_i q u;subst f;obtain⟨a,c,rfl⟩:=(fV hh A u (aL m r)).len;exact⟨.int .i64 q.2.length,w,by simp[Builtin.len_,run_underlying (cJ H),goInt],bJ.pure hh (aH.2 rfl)⟩
   ·simp at f
  ·split at f
   ·rename_i J;have go:∀s:List (BitVec 8),(cd s).size=s.length:=λs=>by simp[cd,ByteArray.size]
    split at f
    case h_3=>simp at f
    ·rename_i s m;simp at f;subst f;have n:=aL m r;simp[bf,Sc.val]at n;subst n;exact⟨.int .i64 s.length,w,by simp[Builtin.len_,run_underlying (gh J),goInt,go],bJ.pure hh (aH.2 rfl)⟩
    ·rename_i s m;simp at f;subst f;have n:=aL m r;simp[bf,Rd]at n;subst n;exact⟨.int .i64 s.length,w,by simp[Builtin.len_,run_underlying (gh J),goInt,go],bJ.pure hh (aH.2 rfl)⟩
   ·split at f
    case h_2=>simp at f
    rename_i Q R K;split at f
    case h_3=>simp at f
    case h_2=>
     rename_i g j l m;obtain⟨b,z,_,_,M⟩:=aL m r;simp at z f;subst z;subst f;obtain⟨B,clock,C,D,_⟩:=M;have o:(getObj b).run P w= .ok (.map B clock) w:=by simp[getObj,Sem.run,C]
     exact⟨.int .i64 l.length,w,by simp[Builtin.len_,run_underlying K,goInt,o,D.length],bJ.pure hh (aH.2 rfl)⟩
    rename_i k m;obtain⟨b,L,z⟩:=aL m r;simp at z;subst z
    have go:∀{g j:Ty}{l:List (g.den×j.den)},lM w (Av F ρ h) g j l b→(Builtin.len_ #[t] ty #[.map (some b)]).run P w= .ok (.int .i64 l.length) w:=by
     rintro g j l ⟨B,clock,C,D,_⟩;have o:(getObj b).run P w= .ok (.map B clock) w:=by simp[getObj,Sem.run,C]
     simp[Builtin.len_,run_underlying K,goInt,o,D.length]
    split at f<;>simp at f
    ·rename_i g j l E;subst f;obtain⟨O,p,G⟩:=hh.ok _ _ (A _ _ E);rw[L]at p;simp at p;subst p;exact⟨.int .i64 l.length,w,go G,bJ.pure hh (aH.2 rfl)⟩
    ·rename_i g j l E;subst f;obtain⟨O,p,G⟩:=hh.ok _ _ (A _ _ E);rw[L]at p;simp at p;subst p;exact⟨.int .i64 l.length,w,go G,bJ.pure hh (aH.2 rfl)⟩
def uq:V→Option (Bool×Int)
 | .val false [.k (.i64 n)]=>some (true,n)
 | .val false [.d .i64 n]=>some (false,n)
 |_=>none
theorem jm{A:Nat→Prop}{x:V}{q:Bool×Int}{v:Value}(a:uq x=some q)(b:aS w A ρ x v):v= .int .i64 q.2:=by
 unfold uq at a;split at a<;>simp at a<;>subst a
 ·have:=aH.1 b;simpa[bf,Sc.val]using this
 ·have:=aH.1 b;simpa[bf,Rd]using this
def RD(k:Bool)(n:Int):V:=if k then RC n else nR n
theorem AF{A:Nat→Prop}{k:Bool}{n:Int}:aS w A ρ (RD k n) (.int .i64 n):=by
 cases k
 ·exact aH.2 rfl
 ·exact aH.2 rfl
def RE(x y:V):Option V:=match uq x,uq y with
 |some a,some b=>some (RD (a.1&&b.1) (max a.2 b.2))
 |_,_=>none
def RF(x y:V):Option V:=match uq x,uq y with
 |some a,some b=>some (RD (a.1&&b.1) (min a.2 b.2))
 |_,_=>none
theorem yA(hh:dn F ρ w h){ts:Array TypeId}{ty:TypeId}{x y:V}{v u:Value}(e:aS w (Av F ρ h) ρ x v)(f:aS w (Av F ρ h) ρ y u):dh P F ρ w h N W (Builtin.max_ ts ty #[v,u]) (Tr.ofOpt ((RE x y).map (·,[]))):=by
 refine .ofOpt λq c=>?_;unfold RE at c;split at c<;>simp at c;rename_i a b g i;subst c;have j:=jm g e;have l:=jm i f;subst j l;refine⟨.int .i64 (max a.2 b.2),w,?_,bJ.pure hh AF⟩;have:max a.2 b.2=if b.2>a.2 then b.2 else a.2:=by split<;>omega
 rw[this];simp[Builtin.max_,Builtin.max2]
theorem yB(hh:dn F ρ w h){ts:Array TypeId}{ty:TypeId}{x y:V}{v u:Value}(e:aS w (Av F ρ h) ρ x v)(f:aS w (Av F ρ h) ρ y u):dh P F ρ w h N W (Builtin.min_ ts ty #[v,u]) (Tr.ofOpt ((RF x y).map (·,[]))):=by
 refine .ofOpt λq c=>?_;unfold RF at c;split at c<;>simp at c;rename_i a b g i;subst c;have j:=jm g e;have l:=jm i f;subst j l;refine⟨.int .i64 (min a.2 b.2),w,?_,bJ.pure hh AF⟩;have:min a.2 b.2=if b.2<a.2 then b.2 else a.2:=by split<;>omega
 rw[this];simp[Builtin.min_,Builtin.min2]
def I.sc?:I→Option (Bool×Sc)
 | .k s=>some (true,s)
 | .d .bl x=>some (false, .bool x)
 | .d .i64 x=>some (false, .i64 x)
 | .d .i32 x=>some (false, .i32 x)
 | .d .u8 x=>some (false, .u8 x)
 | .d .u64 x=>some (false, .u64 x)
 | .d .st x=>some (false, .str x)
 |_=>none
def Sc.item:Sc→I
 | .bool x=> .d .bl x
 | .i64 x=> .d .i64 x
 | .i32 x=> .d .i32 x
 | .u8 x=> .d .u8 x
 | .u64 x=> .d .u64 x
 | .str x=> .d .st x
def Wh(k:Bool)(s:Sc):V:=if k then sc (.k s)else sc s.item
theorem ur{A:Nat→Prop}{k:Bool}{s:Sc}:aS w A ρ (Wh k s) s.val:=by
 cases k
 ·refine aH.2 ?_;cases s<;>rfl
 ·exact aH.2 rfl
theorem lX{A:Nat→Prop}{i:I}{q:Bool×Sc}{v:Value}(a:i.sc?=some q)(b:bf w A ρ i [v]):v=q.2.val:=by
 unfold I.sc? at a;split at a<;>simp at a<;>subst a<;>simpa[bf,Rd,Sc.val]using b
def ae(n:Int):Prop:= -9223372036854775808≤n∧n<9223372036854775808
theorem ae.wrap{n:Int}(h:ae n):IntKind.i64.wrap n=n:=by
 unfold ae at h;rw[dj];omega
def qk(P:Program)(op:BinOp)(t:TypeId)(x y:Bool×Sc):Option (List Prop×V):=
 match x,y with
 |(false, .i64 a),(ky, .i64 b)=>arith a b ky false
 |(true, .i64 a),(false, .i64 b)=>arith a b false true
 |_,_=>plain x y
where
 plain (x y:Bool×Sc):Option (List Prop×V):=
  match Ee P op t x.2 y.2 with
  |some (c,z)=>if y.1 then(if c then some ([],Wh x.1 z)else none)else some (if gE op then[c=true]else[],Wh false z)
  |none=>none
 arith (a b:Int) (ky kx:Bool):Option (List Prop×V):=
  match op with
  | .add=>some ([ae (a+b)],nR (a+b))
  | .sub=>some ([ae (a-b)],nR (a-b))
  | .mul=>some ([ae (a*b)],nR (a*b))
  |_=>plain (kx, .i64 a) (ky, .i64 b)
theorem Ci{P:Program}{a:BinOp}{t:TypeId}{x y:Sc}{c:Bool}{z:Sc}(h:Ee P a t x y=some (c,z))(b:gE a=false):c=true:=by
 unfold Ee at h;simp only[b,cf,if_false]at h
 have one:∀{o:Option Sc},(o.map λz=>(true,z))=some (c,z)→c=true:=by
  intro o e;obtain⟨_,_,q⟩:=lJ.1 e;simp at q;exact q.1
 split at h
 ·exact one h
 ·exact one h
 ·exact one h
 ·exact one h
 ·split at h<;>simp at h<;>exact h.1
 ·split at h<;>simp at h<;>exact h.1
 ·simp at h
theorem wg{e:BinOp}{t:TypeId}{ex ey:Operand}{x y:Bool×Sc}{q:List Prop×V}(g:qk P e t x y=some q)(j:∀p∈q.1,p)(A:Nat→Prop):
 ∃r,(do eqGuard e t ex ey x.2.val y.2.val;binOp e t x.2.val y.2.val:Sem Value).run P w= .ok r w∧aS w A ρ q.2 r:=by
 have plain:∀{x y:Bool×Sc},qk.plain P e t x y=some q→∃r,(do eqGuard e t ex ey x.2.val y.2.val;binOp e t x.2.val y.2.val:Sem Value).run P w= .ok r w∧aS w A ρ q.2 r:=by
  intro x y h;unfold qk.plain at h;split at h
  case h_2=>simp at h
  rename_i c z l;split at h
  ·split at h
   case isFalse=>simp at h
   rename_i m;simp at h;subst h;exact⟨_,qb w e t ex ey _ _ _ c l m,ur⟩
  ·simp only[Option.some.injEq]at h;subst h
   have m:c=true:=by
    cases i:gE e
    ·exact Ci l i
    ·exact j (c=true) (by simp[i])
   exact⟨_,qb w e t ex ey _ _ _ c l m,ur (k:=false)⟩
 have f:∀{a b:Int}{o s:Bool},qk.arith P e t a b o s=some q→∃r,(do eqGuard e t ex ey (.int .i64 a) (.int .i64 b);binOp e t (.int .i64 a) (.int .i64 b):Sem Value).run P w= .ok r w∧aS w A ρ q.2 r:=by
  intro a b o s h;unfold qk.arith at h;have u:eqGuard e t ex ey (.int .i64 a) (.int .i64 b)=pure ():=lL rfl _ _ _ _
  have num:∀{n:Int},ae n→(binOp e t (.int .i64 a) (.int .i64 b)).run P w= .ok (.int .i64 (IntKind.i64.wrap n)) w→∃r,(do eqGuard e t ex ey (.int .i64 a) (.int .i64 b);binOp e t (.int .i64 a) (.int .i64 b):Sem Value).run P w= .ok r w∧aS w A ρ (nR n) r:=by
   intro n v B;refine⟨.int .i64 n,?_,aH.2 rfl⟩;rw[u,v.wrap]at*;simpa using B
  split at h
  ·simp at h;subst h;exact num (j _ (by simp)) (by rw[binOp_add];rfl)
  ·simp at h;subst h;exact num (j _ (by simp)) (by rw[binOp_sub];rfl)
  ·simp at h;subst h;exact num (j _ (by simp)) (by rw[binOp_mul];rfl)
  ·exact plain h
 unfold qk at g;split at g
 ·exact f g
 ·exact f g
 ·exact plain g
def a2v(x:I):Option Bool:=match x with
 | .nilp| .nilm| .nilf=>some true
 | .ptr .. | .pes .. | .pv .. | .mp _| .fn .. | .fmp .. =>some false
 |_=>none
def a6y:I→Bool
 | .nilp| .nilm=>true
 |_=>false
def nS(P:Program)(t:TypeId):Bool:=match P.underlying t with
 |some (.pointer _)=>true
 |_=>false
def Kq(P:Program)(t:TypeId):Bool:=match P.underlying t with
 |some (.map _ _)=>true
 |_=>false
def oP(P:Program)(op:BinOp)(t:TypeId)(x y:I):Option V:=
 match x,y with
 | .nilp, .nilp=>if nS P t then told true else none
 | .ptr .., .nilp=>if nS P t then told false else none
 | .pv .., .nilp=>if nS P t then told false else none
 | .nilm, .nilm=>if Kq P t then told true else none
 | .mp _, .nilm=>if Kq P t then told false else none
 |_,_=>none
where
 told (b:Bool):Option V:=match op with
  | .eql=>some (sc (.k (.bool b)))
  | .neq=>some (sc (.k (.bool (!b))))
  |_=>none
theorem wh{A:Nat→Prop}{g:BinOp}{t:TypeId}{ex ey:Operand}{x y:I}{z:V}{v u:Value}(a:oP P g t x y=some z)(c:bf w A ρ x [v])(f:bf w A ρ y [u]):
 ∃r,(do eqGuard g t ex ey v u;binOp g t v u:Sem Value).run P w= .ok r w∧aS w A ρ z r:=by
 have ptr:∀{p:Option Addr}{b:Bool},nS P t=true→p.isNone=b→oP.told g b=some z→∃r,(do eqGuard g t ex ey (.pointer p) (.pointer none);binOp g t (.pointer p) (.pointer none):Sem Value).run P w= .ok r w∧aS w A ρ z r:=by
  intro p b j l i
  have m:P.underlying t=some (.pointer (P.pointee t)):=by
   unfold nS at j;split at j
   ·rename_i e q;simp[Program.pointee,q]
   ·simp at j
  unfold oP.told at i;split at i<;>simp at i<;>subst i
  ·refine⟨_,?_,aH.2 rfl⟩;rw[eqGuard_at_pointer];simp[run_eql_pointer_nil w t p m,l,Sc.val]
  ·refine⟨_,?_,aH.2 rfl⟩;rw[eqGuard_at_pointer];simp[run_neq_pointer_nil w t p m,l,Sc.val]
 have mp:∀{p:Option Nat}{b:Bool},Kq P t=true→p.isNone=b→oP.told g b=some z→∃r,(do eqGuard g t ex ey (.map p) (.map none);binOp g t (.map p) (.map none):Sem Value).run P w= .ok r w∧aS w A ρ z r:=by
  intro p b j l i
  obtain⟨n,o,m⟩:∃n o,P.underlying t=some (.map n o):=by
   unfold Kq at j;split at j
   ·exact⟨_,_,‹_›⟩
   ·simp at j
  unfold oP.told at i;split at i<;>simp at i<;>subst i
  ·refine⟨_,?_,aH.2 rfl⟩;rw[eqGuard_at_map];simp[binOp,run_equal_map_nil w t n o p m,l,Sc.val]
  ·refine⟨_,?_,aH.2 rfl⟩;rw[eqGuard_at_map];simp[run_neq_map_nil w t n o p m,l,Sc.val]
 unfold oP at a;split at a
 ·split at a<;>first|(simp at a;done)|skip
  simp[bf]at c f;subst c f;exact ptr ‹_› rfl a
 ·split at a<;>first|(simp at a;done)|skip
  obtain⟨_,⟨b,_,rfl⟩,c⟩:=c;simp[bf]at c f;subst c f;exact ptr ‹_› rfl a
 ·split at a<;>first|(simp at a;done)|skip
  obtain⟨b,s,B,c,_⟩:=c;simp[bf]at c f;subst c f;exact ptr ‹_› rfl a
 ·split at a<;>first|(simp at a;done)|skip
  simp[bf]at c f;subst c f;exact mp ‹_› rfl a
 ·split at a<;>first|(simp at a;done)|skip
  obtain⟨b,_,c⟩:=c;simp[bf]at c f;subst c f;exact mp ‹_› rfl a
 ·simp at a
end
end
section
section
variable{P:Program}{F:Nat→Prop}{ρ:Nat→Pl}{w:World}{h get:Nat→Option Ch}{N W:Nat}
theorem nT(hh:dn F ρ w h){k:Nat}{e:Ty}{l:List e.den}(z:h k=some (.sl e l)):dn F ρ w (cI h k (some (.fr e l)))∧Mv ρ w h ρ w (cI h k (some (.fr e l))):=by
 refine hh.step (λj=>j=k) (dK.refl ρ) (aC _) rfl rfl rfl (λj a=>bD _ _ _ a) (λ_ _ _=>rfl) (λj c b a g C=>?_) (λj j' c o b a D _ _ _ _ _ _=>a.trans D.symm) (λj m S U p r a s=>?_) (λj c a g X=>?_)
 ·subst a;rw[bF]at g;simp at g;subst g;simp[Ch.own]at C
 ·by_cases n:j=k
  ·subst n;rw[bF]at a;simp at a
  ·rw[bD _ _ _ n]at a;rcases s with s|s
   ·exact absurd s n
   ·obtain⟨l',J⟩:=hh.it j m S U p r a;rw[s,z]at J;simp at J
 ·subst a;rw[bF]at g;simp at g;subst g;obtain⟨v,K,Y⟩:=hh.ok j _ z;refine⟨v,K,?_⟩;rcases Y with⟨b,cap,cells,L,A,rfl,h3,M,O,h6,Q,R⟩|q
  ·obtain⟨o,rfl⟩:∃o,cap=o+1:=⟨cap-1,by omega⟩;have f:(ρ j).blk=some b:=by rw[K];rfl
   have t:=hh.fr j _ b z rfl f;have hr:=gV.load (P:=default) (v9.reads (w:=w) (.inl ⟨b,o+1,cells,L,A,rfl,h3,M,O,h6,Q,R⟩));refine .inl ⟨b,0,o+1,A,rfl,O,t.1,λE=>?_,Q.imp (λ_ _=>Rd.evo X.evo),λi u B=>?_⟩
   ·rcases E with E|⟨q,c,x,y,G⟩
    ·exact t.2 E
    ·by_cases n:q=j
     ·subst n;rw[bF]at x;simp at x;subst x;simp[Ch.own]at y
     ·rw[bD _ _ _ n]at x;exact n (hh.inj q j c _ b x z y rfl G f)
   ·rw[bK,cell_of_row w b _ cells L (0,0) M]
    have H:i<A.length:=by
     rcases bN i A.length with q|q
     ·exact q
     ·rw[bY q]at B;simp at B
    rw[←R,ib H]at B;simpa using B
  ·exact .inr q
def kg(x:Option V)(d:Int):Option Int:=match x with
 |none=>some d
 |some v=>v.int?
theorem ft(a:Bool)(len cap l m c:Nat)(lo hi e:Option Value)
 (g:(lo=none∧l=0)∨∃k,lo=some (.int k (l:Int))) (j:(hi=none∧m=len)∨∃k,hi=some (.int k (m:Int)))
 (p:(e=none∧c=cap)∨((∃k,e=some (.int k (c:Int)))∧hi≠none)) (n:l≤m) (o:m≤c) (q:c≤cap):
 (Instr.sliceBounds a len cap lo hi e).run P w= .ok (l,m,c) w:=by
 have b:∀(k:IntKind)(i y:Nat)(code:BoundsCode),i≤y→(Instr.sliceBound (.int k (i:Int)) y code).run P w= .ok i w:=λk i y code h=>by
  rw[run_sliceBound w k i y code (by omega) (by omega)];simp
 rcases p with⟨rfl,rfl⟩|⟨⟨t,rfl⟩,f⟩
 ·rcases j with⟨rfl,rfl⟩|⟨r,rfl⟩<;>rcases g with⟨rfl,rfl⟩|⟨s,rfl⟩<;>simp[Instr.sliceBounds,b _ _ _ _ n,b _ _ _ _ o]
 ·rcases j with⟨rfl,rfl⟩|⟨r,rfl⟩
  ·exact absurd rfl f
  ·rcases g with⟨rfl,rfl⟩|⟨s,rfl⟩<;>simp[Instr.sliceBounds,b _ _ _ _ n,b _ _ _ _ o,b _ _ _ _ q]
def lY(w:World)(A:Nat→Prop)(ρ:Nat→Pl)(x:Option V)(v:Option Value):Prop:=match x,v with|none,none=>True|some a,some b=>aS w A ρ a b|_,_=>False
theorem ut{A:Nat→Prop}{x:Option V}{v:Option Value}{d n:Int}(h:kg x d=some n)(c:lY w A ρ x v):(v=none∧n=d)∨∃k,v=some (.int k n):=by
 cases x with
 |none=>cases v with
  |none=>simp[kg]at h;exact .inl ⟨rfl,h.symm⟩
  |some b=>exact c.elim
 |some a=>cases v with
  |none=>exact c.elim
  |some b=>obtain⟨k,rfl⟩:=jk h c;exact .inr ⟨k,rfl⟩
def uu{α:Type}(l:List α)(lo hi:Option V)(a b:Int):List α:=
 match lo,hi with
 |none,none=>l
 |none,some _=>l.take b.toNat
 |some _,none=>l.drop a.toNat
 |some _,some _=>(l.drop a.toNat).take (b.toNat-a.toNat)
def jn(P:Program)(t:TypeId)(x:V)(lo hi mx:Option V)(get:Nat→Option Ch)(N:Nat):Tr (V×dH):=
 match x.one? with
 |some (.ptr k off)=>match Ce P t,lo,hi,mx,get k with
  |some (n,et),none,none,none,some (.cells _)=>match J3 P 8 et,jM P et with
   |some e,some s=>if s=e.size∧0<n then .leaf (sc (.sub k off n e),[])else .stuck
   |_,_=> .stuck
  |some (n,et),none,none,none,some (.fc l)=>match J3 P 8 et,jM P et with
   |some e,some s=>if s=e.size∧0<n then(match fC l off (n*e.size)with
    |some m=>match sj (.ar n e) m with
     |some y=> .leaf (sc (.d (.sl e) y),[])
     |none=> .stuck
    |none=> .stuck)else .stuck
   |_,_=> .stuck
  |_,_,_,_,_=> .stuck
 |some (.pv (.pr (.ar n e) _) y)=>match Ce P t,lo,hi,mx with
  |some (n',et),none,none,none=>match jM P et with
   |some s=>if s=e.size∧n'=n∧0<n then .leaf (sc (.d (.sl e) y.1),[])else .stuck
   |none=> .stuck
  |_,_,_,_=> .stuck
 |some (.own k)=>match get k,mx,kg lo 0,pE P t with
  |some (.sl e l),none,some a,some et=>match kg hi (l.length:Int),jM P et,lo with
   |some b,some s,none=>if s=e.size then .need (a=0∧0≤b∧b≤l.length) (.leaf (sc (.own N),[(k,none),(N,some (.sl e (uu l lo hi a b)))]))else .stuck
   |_,_,_=> .stuck
  |some (.sl e l),some m,some a,some et=>match kg hi (l.length:Int),jM P et,m.int? with
   |some b,some s,some c=>if s=e.size∧hi.isSome then .need (0≤a∧a≤b∧b=c∧b≤l.length) (.leaf (sc (.cut e (uu l lo hi a b)),[(k,some (.fr e l))]))else .stuck
   |_,_,_=> .stuck
  |some (.fr e l),mx,some a,some et=>cut e l a et (kg hi (l.length:Int)) mx
  |_,_,_,_=> .stuck
 |some it=>match it.frozen? get,kg lo 0,pE P t with
  |some q,some a,some et=>cut q.1 q.2 a et (kg hi (q.2.length:Int)) mx
  |_,_,_=> .stuck
 |none=> .stuck
where
 cut (e:Ty) (l:List e.den) (a:Int) (et:TypeId) (b:Option Int) (mx:Option V):Tr (V×dH):=
  match b,jM P et,mx with
  |some b,some s,none=>if s=e.size then .need (0≤a∧a≤b∧b≤l.length) (.leaf (sc (.d (.sl e) (uu l lo hi a b)),[]))else .stuck
  |some b,some s,some m=>match m.int? with
   |some c=>if s=e.size∧hi.isSome then .need (0≤a∧a≤b∧b=c∧b≤l.length) (.leaf (sc (.cut e (uu l lo hi a b)),[]))else .stuck
   |none=> .stuck
  |_,_,_=> .stuck
theorem AG{α:Type}{l:List α}{lo hi:Option V}{g i:Option Value}{a b:Int}{A:Nat→Prop}(j:lY w A ρ lo g)(hh:lY w A ρ hi i)(c:kg lo 0=some a)(f:kg hi (l.length:Int)=some b)(m:0≤a∧a≤b∧b≤l.length):
 uu l lo hi a b=(l.drop a.toNat).take (b.toNat-a.toNat)∧(uu l lo hi a b).length=b.toNat-a.toNat:=by
 have e:uu l lo hi a b=(l.drop a.toNat).take (b.toNat-a.toNat):=by
  unfold uu;split
  ·simp[kg]at c f;subst c f;simp
  ·simp[kg]at c;subst c;simp
  ·simp[kg]at f;subst f;rw[ba];simp
  ·rfl
 refine⟨e,?_⟩;rw[e];simp;omega
theorem dv.drop_take{α:Type}{R:α→List Value→Prop}{n:Nat}(f:∀x vs,R x vs→vs.length=n){l:List α}{vs:List Value}(h:dv R l vs)(i m:Nat)(p:i+m≤l.length):dv R ((l.drop i).take m) ((vs.drop (i*n)).take (m*n)):=by
 have q:l=l.take i++((l.drop i).take m++(l.drop i).drop m):=by rw[dC,dC]
 rw[q]at h;obtain⟨a,b,e,r,s⟩:=dv.split h;obtain⟨c,d,t,g,y⟩:=dv.split s;have j:=dv.length f r;have o:=dv.length f g;have u:(l.take i).length=i:=by simp;omega
 have v:((l.drop i).take m).length=m:=by simp;omega
 rw[u]at j;rw[v]at o;rw[e,t,←j,List.drop_left,←o,List.take_left];exact g
theorem nU{lo hi C:Option V}{e:Ty}{l:List e.den}{v:Value}{f g o:Option Value}{a b:Int}{t et:TypeId}(y:pE P t=some et)(hs:jM P et=some e.size)
 (hv:ly w (Av F ρ h) (Rd w (Av F ρ h) e) l v) (hl:lY w (Av F ρ h) ρ lo f) (z:lY w (Av F ρ h) ρ hi g) (A:lY w (Av F ρ h) ρ C o)
 (h1:kg lo 0=some a) (h2:kg hi (l.length:Int)=some b) (K:0≤a∧a≤b∧b≤l.length) (hm:C=none∨(∃m,C=some m∧m.int?=some b∧hi.isSome=true)):
 ∃r,(mJ t v f g o).run P w= .ok r w∧ly w (Av F ρ h) (Rd w (Av F ρ h) e) (uu l lo hi a b) r∧(C.isSome=true→∃x n,r= .slice x n n):=by
 obtain⟨O,L⟩:=AG hl z h1 h2 K;obtain⟨i,rfl⟩:=cq K.1;obtain⟨j,rfl⟩:=cq (Int.le_trans K.1 K.2.1);simp only[aG]at O L;have B:i≤j∧j≤l.length:=by omega
 have q1:=ut h1 hl;have q2:=ut h2 z;have p:(mJ t v f g o).run P w=(Instr.slice t v f g o).run P w:=by simp[mJ,run_underlying (cJ y)]
 have D:∀(s:Option Addr)(cap:Nat),v= .slice s l.length cap→l.length≤cap→∃c,j≤c∧c≤cap∧(C.isSome=true→c=j)∧(Instr.sliceBounds true l.length cap f g o).run P w= .ok (i,j,c) w:=by
  intro s cap _ a0
  have r1:(f=none∧i=0)∨∃k,f=some (.int k (i:Int)):=by
   rcases q1 with⟨Q,p2⟩|q
   ·exact .inl ⟨Q,by omega⟩
   ·exact .inr q
  have r2:(g=none∧j=l.length)∨∃k,g=some (.int k (j:Int)):=by
   rcases q2 with⟨Q,p2⟩|q
   ·exact .inl ⟨Q,by omega⟩
   ·exact .inr q
  rcases hm with rfl|⟨m,rfl,R,S⟩
  ·have U:o=none:=by cases o<;>first|rfl|exact A.elim
   subst U;exact⟨cap,by omega,aC _,by simp,ft true l.length cap i j cap f g none r1 r2 (.inl ⟨rfl,rfl⟩) B.1 (by omega) (aC _)⟩
  ·cases o with
   |none=>exact A.elim
   |some u=>
    obtain⟨km,rfl⟩:=jk R A;refine⟨j,aC _,by omega,λ_=>rfl,ft true l.length cap i j j f g _ r1 r2 (.inr ⟨⟨km,rfl⟩,?_⟩) B.1 (aC _) (by omega)⟩;rintro rfl;cases hi with
    |none=>simp at S
    |some _=>exact z.elim
 rcases hv with⟨E,G,cap,cs,rfl,e2,e3,e4,e5,e6⟩|⟨rfl,X,rfl⟩
 ·obtain⟨c,k1,k2,k3,M⟩:=D _ cap rfl e2;refine⟨_,by rw[p];simp[Instr.slice,run_underlying (cJ y),M,bV hs];rfl,?_,?_⟩
  ·by_cases H:c=i
   ·right;have J:j-i=0:=by omega
    refine⟨List.eq_nil_of_length_eq_zero (by rw[L];exact J),some ⟨E,G,none⟩,?_⟩;rw[an H,J,show c-i=0 by omega]
   ·left;refine⟨E,G+i*e.size,c-i,(cs.drop (i*e.size)).take ((j-i)*e.size),?_,by rw[L];omega,e3,e4,?_,iO e6⟩
    ·rw[ag H,L];simp[ci]
    ·rw[O];exact dv.drop_take (λ_ _=>Rd.length) e5 i (j-i) (by omega)
  ·intro Y;have:=k3 Y;subst this;split<;>exact⟨_,_,rfl⟩
 ·simp only[cX]at B;obtain rfl:i=0:=by omega
  obtain rfl:j=0:=by omega
  obtain⟨c,k1,k2,k3,M⟩:=D X 0 rfl (aC _);obtain rfl:c=0:=by omega
  simp only[cX]at M;refine⟨.slice X 0 0,by rw[p];simp[Instr.slice,run_underlying (cJ y),M,bV hs], .inr ⟨by rw[O];simp,X,rfl⟩,λ_=>⟨_,_,rfl⟩⟩
theorem ql{lo hi y:Option V}{e:Ty}{l:List e.den}{v:Value}{z A B:Option Value}{a:Int}{t et:TypeId}(hh:dn F ρ w h)(j:pE P t=some et)
 (C:ly w (Av F ρ h) (Rd w (Av F ρ h) e) l v) (D:lY w (Av F ρ h) ρ lo z) (n:lY w (Av F ρ h) ρ hi A) (o:lY w (Av F ρ h) ρ y B) (E:kg lo 0=some a):
 dh P F ρ w h N W (mJ t v z A B) (jn.cut P lo hi e l a et (kg hi (l.length:Int)) y):=by
 unfold jn.cut;split
 ·rename_i b s p q;split
  case isFalse=>exact .stuck
  rename_i f;subst f;refine .need λg=>?_;obtain⟨r,u,x,_⟩:=nU (h:=h) j q C D n o E p g (.inl rfl);exact .pure hh u (aH.2 ⟨r,rfl,x⟩)
 ·rename_i b s m p q;split
  case h_2=>exact .stuck
  rename_i c G;split
  case isFalse=>exact .stuck
  rename_i f;obtain⟨rfl,i⟩:=f;refine .need λg=>?_;obtain⟨H,J,K,L⟩:=g;subst K;obtain⟨r,u,x,M⟩:=nU (h:=h) j q C D n o E p ⟨H,J,L⟩ (.inr ⟨m,rfl,G,i⟩);exact .pure hh u (aH.2 ⟨r,rfl,x,M rfl⟩)
 ·exact .stuck
theorem uv(hh:dn F ρ w h)(hg:∀k b,get k=some b→h k=some b)(hN:ρ N= .un)(hW:0<W){t:TypeId}{x:V}{lo hi mx:Option V}{v:Value}{O H Q:Option Value}
 (hx:aS w (Av F ρ h) ρ x v) (S:lY w (Av F ρ h) ρ lo O) (z:lY w (Av F ρ h) ρ hi H) (C:lY w (Av F ρ h) ρ mx Q):
 dh P F ρ w h N W (mJ t v O H Q) (jn P t x lo hi mx get N):=by
 unfold jn;split
 ·rename_i k D hp;obtain⟨_,⟨b,U,rfl⟩,X⟩:=aL hp hx;simp at X;subst X;simp only at U;split
  case h_3=>exact .stuck
  case h_2=>
   rename_i n et l A Y;split
   case h_2=>exact .stuck
   rename_i e s a7 R;split
   case isFalse=>exact .stuck
   rename_i hc;obtain⟨rfl,hn⟩:=hc;split
   case h_2=>exact .stuck
   rename_i m hm;split
   case h_2=>exact .stuck
   rename_i y hy;have E:O=none:=by cases O<;>first|rfl|exact S.elim
   have K:H=none:=by cases H<;>first|rfl|exact z.elim
   have G:Q=none:=by cases Q<;>first|rfl|exact C.elim
   subst E K G;have f:=ft (P:=P) (w:=w) false n n 0 n n none none none (.inl ⟨rfl,rfl⟩) (.inl ⟨rfl,rfl⟩) (.inl ⟨rfl,rfl⟩) (aq _) (aC _) (aC _);obtain⟨b',us,B,e2,e3,e4,e5⟩:=hh.ok k _ (hg k _ Y);rw[U]at B;simp at B;subst B;obtain⟨_,g2⟩:=gp e4 hm;obtain⟨g3,g4⟩:=ir hy g2;have L:n≠0:=by omega
   refine .pure (r:= .slice (some ⟨b,D,none⟩) n n) hh ?_ (aH.2 ⟨_,rfl, .inl ⟨b,D,n,_,by rw[g3],Nat.le_of_eq g3,e2,e3,g4,λi u hi=>?_⟩⟩)
   ·simp[mJ,run_underlying (lb A),rT,f,bV R,L,ci]
   ·have:=iO (o:=0) (off:=D) (n:=n*e.size) (vs:=us) (w:=w) (blk:=b) (λi v hi=>by rw[bK];exact e5 i v hi) i u hi
    rwa [bK]at this
  rename_i n et l A Y;split
  case h_2=>exact .stuck
  rename_i e s a7 R;split
  case isFalse=>exact .stuck
  rename_i hc;obtain⟨rfl,hn⟩:=hc;have E:O=none:=by cases O<;>first|rfl|exact S.elim
  have K:H=none:=by cases H<;>first|rfl|exact z.elim
  have G:Q=none:=by cases Q<;>first|rfl|exact C.elim
  subst E K G;have f:=ft (P:=P) (w:=w) false n n 0 n n none none none (.inl ⟨rfl,rfl⟩) (.inl ⟨rfl,rfl⟩) (.inl ⟨rfl,rfl⟩) (aq _) (aC _) (aC _);refine .pure (r:= .slice (some ⟨b,D,none⟩) n n) hh ?_ (aH.2 ⟨b,U,rfl⟩);have L:n≠0:=by omega
  simp[mJ,run_underlying (lb A),rT,f,bV R,L,ci]
 ·rename_i n e r y hp;obtain⟨b,D,cs,X,h2,h3,h4,h5⟩:=aL hp hx;simp at X;subst X;split
  case h_2=>exact .stuck
  rename_i n' et A;split
  case h_2=>exact .stuck
  rename_i s R;split
  case isFalse=>exact .stuck
  rename_i hc;obtain⟨rfl,rfl,hn⟩:=hc;have E:O=none:=by cases O<;>first|rfl|exact S.elim
  have K:H=none:=by cases H<;>first|rfl|exact z.elim
  have G:Q=none:=by cases Q<;>first|rfl|exact C.elim
  subst E K G;have f:=ft (P:=P) (w:=w) false n' n' 0 n' n' none none none (.inl ⟨rfl,rfl⟩) (.inl ⟨rfl,rfl⟩) (.inl ⟨rfl,rfl⟩) (aq _) (aC _) (aC _);obtain⟨c,d,B,⟨l1,l2⟩,_⟩:=h4;have L:n'≠0:=by omega
  refine .pure (r:= .slice (some ⟨b,D,none⟩) n' n') hh ?_ (aH.2 ⟨_,rfl, .inl ⟨b,D,n',c,by rw[l1],Nat.le_of_eq l1,h2,h3,l2,λi u hi=>h5 i u ?_⟩⟩)
  ·simp[mJ,run_underlying (lb A),rT,f,bV R,L,ci]
  ·rw[B,cH]
   ·exact hi
   ·rcases bN i c.length with q|q
    ·exact q
    ·rw[bY q]at hi;simp at hi
 ·rename_i k hp;obtain⟨ad,n,cap,M,X⟩:=aL hp hx;simp at X;subst X;split
  ·rename_i e l a et Y ha g;split
   case h_2=>exact .stuck
   rename_i b s U R;split
   case isFalse=>exact .stuck
   rename_i a2;subst a2;refine .need λa3=>?_;obtain⟨rfl,a6,a0⟩:=a3;have J:=hg k _ Y;obtain⟨sv,B,e2⟩:=hh.ok k _ J;rw[M]at B;simp at B;subst B;have E:O=none:=by cases O<;>first|rfl|exact S.elim
   have G:Q=none:=by cases Q<;>first|rfl|exact C.elim
   subst E G;obtain⟨ce,cl⟩:=AG S z ha U ⟨cr _,a6,a0⟩;simp only[Int.toNat_zero,List.drop_zero,Nat.sub_zero]at ce cl;obtain⟨j,rfl⟩:=cq a6;simp only[aG]at ce cl;have q2:=ut U z;have a1:∀v,(mJ t v none H none).run P w=(Instr.slice t v none H none).run P w:=λv=>by simp[mJ,run_underlying (cJ g)]
   have r2:(H=none∧j=l.length)∨∃k,H=some (.int k (j:Int)):=by
    rcases q2 with⟨p1,p2⟩|q
    ·exact .inl ⟨p1,by omega⟩
    ·exact .inr q
   rcases e2 with⟨b,b0,cells,ty,us,o1,o2,o3,o4,o5,o6,o7⟩|⟨rfl,b5,o1⟩
   ·simp at o1;obtain⟨rfl,rfl,rfl⟩:=o1;have a4:=ft (P:=P) (w:=w) true l.length cap 0 j cap none H none (.inl ⟨rfl,rfl⟩) r2 (.inl ⟨rfl,rfl⟩) (aq _) (by omega) (aC _);have a8:cap≠0:=by omega
    refine .leaf (r:= .slice (some ⟨b,0,none⟩) j cap) (w':=w) (by rw[a1];simp[Instr.slice,run_underlying (cJ g),a4,bV R,a8,ci]) ?_;refine bJ.move hh hN hW J rfl (.sv (.slice (some ⟨b,0,none⟩) j cap)) _ (by simp) (by simp) (aC _) rfl rfl rfl (λ_ _ _=>rfl) (λb' _ f=>?_) (λhm=>?_) _ _ (λhm=>aH.2 ⟨_,_,_,bL _ _ _,rfl⟩)
    ·obtain⟨c',rfl⟩:∃c',cap=c'+1:=⟨cap-1,by omega⟩;simp[Pl.blk]at f;subst f;exact⟨(hh.fr k _ b J rfl (by rw[M];rfl)).1, .inl (by rw[M];rfl)⟩
    ·refine⟨_,bL _ _ _, .inl ⟨b,cap,cells,ty,us.take (j*e.size),by rw[cl],o2,o3,by rw[cl];omega,o5,?_,?_⟩⟩
     ·have:=dv.drop_take (λ_ _=>Rd.length) o6 0 j (by omega);simp only[Nat.zero_mul,List.drop_zero]at this;rw[←ce]at this;exact this.imp (λ_ _=>Rd.evo hm.evo)
     ·have hu:us.length≤cells.toList.length:=by have:=aI ac o7;rw[bi]at this;omega
      have e9:us.take (j*e.size)=cells.toList.take (min (j*e.size) us.length):=by
       conv=>lhs;rw[←o7]
       rw[List.take_take]
      rw[e9,bi,ee (by omega)]
   ·simp at o1;obtain⟨rfl,rfl,rfl⟩:=o1;simp only[cX]at a0;obtain rfl:j=0:=by omega
    have a4:=ft (P:=P) (w:=w) true 0 0 0 0 0 none H none (.inl ⟨rfl,rfl⟩) (by simpa using r2) (.inl ⟨rfl,rfl⟩) (aC _) (aC _) (aC _);refine .leaf (r:= .slice ad 0 0) (w':=w) (by rw[a1];simp[Instr.slice,run_underlying (cJ g),a4,bV R]) ?_;refine bJ.move hh hN hW J rfl (.sv (.slice ad 0 0)) _ (by simp) (by simp) (aC _) rfl rfl rfl (λ_ _ _=>rfl) (λb' _ f=>?_) (λhm=>?_) _ _ (λhm=>aH.2 ⟨_,_,_,bL _ _ _,rfl⟩)
    ·cases ad<;>simp[Pl.blk]at f
    ·exact⟨_,bL _ _ _, .inr ⟨by rw[ce];simp,_,rfl⟩⟩
  ·rename_i e l m a et Y ha g;split
   case h_2=>exact .stuck
   rename_i b s c U R hc;split
   case isFalse=>exact .stuck
   rename_i a2;obtain⟨rfl,a5⟩:=a2;refine .need λa3=>?_;obtain⟨b1,b2,b3,b4⟩:=a3;subst b3;have J:=hg k _ Y;obtain⟨f1,f2⟩:=nT hh J;have a9:=f2.evo (F:=F);obtain⟨sv,B,e2⟩:=f1.ok k _ (bF _ _ _);rw[M]at B;simp at B;subst B
   have ev:∀{x v},lY w (Av F ρ h) ρ x v→lY w (Av F ρ (cI h k (some (.fr e l)))) ρ x v:=by
    intro x v hv;cases x<;>cases v<;>first|exact hv|exact aS.evo a9 (dK.refl ρ) hv
   obtain⟨r,r1,r2,r3⟩:=nU (h:=cI h k (some (.fr e l))) g R e2 (ev S) (ev z) (ev C) ha U ⟨b1,b2,b4⟩ (.inr ⟨m,rfl,hc,a5⟩);exact .leaf r1 ⟨ρ,dK.refl ρ,λ_ p q=>absurd p q,aH.2 ⟨r,rfl,r2,r3 rfl⟩,f1,f2⟩
  ·rename_i e l a et Y ha g;obtain⟨sv,B,e2⟩:=hh.ok k _ (hg k _ Y);rw[M]at B;simp at B;subst B;exact ql hh g e2 S z C ha
  ·exact .stuck
 ·rename_i it _ _ _ hp;split
  case h_2=>exact .stuck
  rename_i q a et hf ha g;exact ql hh g (jl hh hg hf (aL hp hx)) S z C ha
 ·exact .stuck
end
end
section
section
variable{P:Program}{F:Nat→Prop}{ρ:Nat→Pl}{w:World}{h get:Nat→Option Ch}{N W:Nat}
theorem pF(w:World){t:TypeId}{g:Bool}{l:List I}{i:TypeInfo}{z:Value}(h:zT P t=some (g,l))(hi:P.info? t=some i)(e:i.zero=some z):z.cells.size=jY l:=by
 obtain⟨f,j,a,b,c⟩:=oK h;rw[hi]at a;simp at a;subst a;rw[e]at b;simp at b;subst b;have:=aK.length (dU (c w (λ_=>False) (λ_=> .un)));simpa using this
theorem iP(w:World)(t ty e:TypeId)(s:Nat)(g:P.underlying t=some (.slice e))(i:jM P e=some s)(f a:Option Addr)(n cap c:Nat)(h:n≤cap):
 (cQ #[t,t] ty #[.slice f n cap, .slice a 0 c]).run P w= .ok (.slice f n cap) w:=by
 have j:(cU s 0 (.slice a 0 c)).run P w= .ok #[] w:=by
  cases a with
  |none=>simp[cU]
  |some a=>simp[cU,loadCells,loadCellsFrom]
 cases f with
 |none=>simp[cQ,run_underlying g,bV i,Builtin.lenOf,j,h]
 |some b=>simp[cQ,run_underlying g,bV i,Builtin.lenOf,j,h,storeCells]
theorem lz(w w':World)(t ty e:TypeId)(s:Nat)(o:P.underlying t=some (.slice e))(p:jM P e=some s)(g n cap:Nat)(a:Addr)(m c:Nat)(news:List Value)
 (q:news.length=m*s) (b:∀j u,news[j]?=some u→w.cell? (a.add j)=some u) (f:n+m≤cap) (l:(storeCells ⟨g,n*s,none⟩ news).run P w= .ok () w'):
 (cQ #[t,t] ty #[.slice (some ⟨g,0,none⟩) n cap, .slice (some a) m c]).run P w= .ok (.slice (some ⟨g,0,none⟩) (n+m) cap) w':=by
 have r:=run_firstCells_some (P:=P) w s m a m c news q b;have i:Addr.add ⟨g,0,none⟩ (n*s)=⟨g,n*s,none⟩:=by rw[ci,bK]
 simp[cQ,run_underlying o,bV p,Builtin.lenOf,f,r,i,l]
theorem bJ.made(hh:dn F ρ w h)(j:ρ N= .un)(m:0<W){w':World}{e:Ty}{l:List e.den}{vs:List Value}{cells:Array Value}{ty:TypeId}{cap:Nat}
 (f:w'=w.alloc (.cells cells ty)∨w'=w.drew.alloc (.cells cells ty)) (n:dv (Rd w (Av F ρ h) e) l vs) (h0:0<cap) (o:l.length≤cap) (p:cap*e.size≤cells.size) (q:cells.toList.take vs.length=vs):
 bJ F ρ w h N W (sc (.own N)) [(N,some (.sl e l))] (.slice (some ⟨w.heap.size,0,none⟩) l.length cap) w':=by
 have r:fp w w':=by rcases f with rfl|rfl;exact fp.alloc w _;exact fp.drewAlloc w _
 have a:w'.heap[w.heap.size]?=some (.cells cells ty):=by
  rcases f with rfl|rfl
  ·exact Go.heap_alloc_new w _
  ·exact Go.heap_alloc_new w.drew _
 have g:w.heap.size<w'.heap.size:=by
  rcases f with rfl|rfl
  ·rw[dR];omega
  ·rw[dR];show w.heap.size<w.heap.size+1;omega
 obtain⟨c,rfl⟩:∃c,cap=c+1:=⟨cap-1,by omega⟩;refine bJ.add hh j m r (.sv (.slice (some ⟨w.heap.size,0,none⟩) l.length (c+1))) _ (by simp) (λb _ i=>?_) (λs=>?_) _ _ (λ_=>aH.2 ⟨_,_,_,bL _ _ _,rfl⟩)
 ·simp[Pl.blk]at i;subst i;exact⟨aC _,g⟩
 ·exact⟨_,bL _ _ _, .inl ⟨w.heap.size,c+1,cells,ty,vs,rfl,h0,a,o,p,n.imp (λ_ _=>Rd.evo s.evo),q⟩⟩
theorem bJ.remade(hh:dn F ρ w h)(m:ρ N= .un)(n:0<W){k:Nat}{g:Ch}(o:h k=some g)(p:g.own=true)(i:∀kt q l,g≠ .lk kt q l){w':World}{e:Ty}{l:List e.den}{vs:List Value}{cells:Array Value}{ty:TypeId}{cap:Nat}
 (r:w'=w.drew.alloc (.cells cells ty)) (s:dv (Rd w (Av F ρ h) e) l vs) (h0:0<cap) (t:l.length≤cap) (u:cap*e.size≤cells.size) (v:cells.toList.take vs.length=vs):
 bJ F ρ w h N W (sc (.own N)) [(k,none),(N,some (.sl e l))] (.slice (some ⟨w.heap.size,0,none⟩) l.length cap) w':=by
 subst r;have a:=fp.drewAlloc w (.cells cells ty);have j:w.heap.size<(w.drew.alloc (.cells cells ty)).heap.size:=by rw[dR];show w.heap.size<w.heap.size+1;omega
 obtain⟨c,rfl⟩:∃c,cap=c+1:=⟨cap-1,by omega⟩;refine bJ.move hh m n o p (.sv (.slice (some ⟨w.heap.size,0,none⟩) l.length (c+1))) _ i (by simp) a.size a.os a.tape a.output (λb f _=>a.old b f) (λb _ f=>?_) (λx=>?_) _ _ (λ_=>aH.2 ⟨_,_,_,bL _ _ _,rfl⟩)
 ·simp[Pl.blk]at f;subst f;exact⟨j, .inr (aC _)⟩
 ·exact⟨_,bL _ _ _, .inl ⟨w.heap.size,c+1,cells,ty,vs,rfl,h0,Go.heap_alloc_new w.drew _,t,u,s.imp (λ_ _=>Rd.evo x.evo),v⟩⟩
theorem bJ.renum(hh:dn F ρ w h)(o:ρ N= .un)(p:0<W){k:Nat}{e:Ty}{l l':List e.den}(g:h k=some (.sl e l))(q:l'=l){v:Value}(m:ρ k= .sv v)(i:∃a n c,v= .slice a n c):
 bJ F ρ w h N W (sc (.own N)) [(k,none),(N,some (.sl e l'))] v w:=by
 subst q;obtain⟨a,n,c,rfl⟩:=i;obtain⟨u,j,r⟩:=hh.ok k _ g;rw[m]at j;simp at j;subst j;refine bJ.move hh o p g rfl (.sv (.slice a n c)) _ (by simp) (by simp) (aC _) rfl rfl rfl (λ_ _ _=>rfl) (λb _ s=>?_) (λt=>?_) _ _ (λ_=>aH.2 ⟨_,_,_,bL _ _ _,rfl⟩)
 ·have f:(ρ k).blk=some b:=by rw[m];exact s
  exact⟨(hh.fr k _ b g rfl f).1, .inl f⟩
 ·exact⟨_,bL _ _ _,r.evo t.evo (λ_ _=>rfl)⟩
def mV(P:Program)(t:TypeId)(x y:V)(get:Nat→Option Ch)(N:Nat):Tr (V×dH):=
 match pE P t with
 |none=> .stuck
 |some c=>
  match jM P c,VE P c,zT P c with
  |some s,some a,some (_,f)=>
   if jY f=s∧1≤a then
    match x.one?,y.one? with
    |some (.own k),some b=>match get k,b.slice? get with
     |some (.sl e l),some q=>match Ty.deq q.1 e with
      |some g=>if s=e.size then .need ((l.length+q.2.length)*a≤140737488355328) (.leaf (sc (.own N),[(k,none),(N,some (.sl e (l++(g.down▸q.2))))]))else .stuck
      |none=> .stuck
     |_,_=> .stuck
    |some .nils,some b=>match b.slice? get with
     |some q=>if s=q.1.size then .need (q.2.length*a≤140737488355328) (.leaf (sc (.own N),[(N,some (.sl q.1 q.2))]))else .stuck
     |_=> .stuck
    |some (.cut e l),some b=>match b.slice? get with
     |some q=>match Ty.deq q.1 e with
      |some g=>if s=e.size then .need (0<q.2.length) (.need ((l.length+q.2.length)*a≤140737488355328) (.leaf (sc (.own N),[(N,some (.sl e (l++(g.down▸q.2))))])))else .stuck
      |none=> .stuck
     |_=> .stuck
    |_,_=> .stuck
   else .stuck
  |_,_,_=> .stuck
theorem lZ{e:Ty}{z:Value}{olds news:List Value}{n m cap:Nat}{et:TypeId}{W0:World}(a:z.cells.size=e.size)(b:olds.length=n*e.size)(c:news.length=m*e.size):
 grownCap W0 (n+m) cap et*e.size≤(olds.toArray++news.toArray++bI z.cells (grownCap W0 (n+m) cap et-(n+m))).size:=by
 have f:=grownCap_ge W0 (n+m) cap et;generalize grownCap W0 (n+m) cap et=G at*;simp only[Array.size_append,List.size_toArray,size_zeroCells,a,b,c];rw[←Nat.add_mul,←Nat.add_mul];exact Nat.mul_le_mul_right _ (by omega)
theorem gX(t ty et:TypeId){e:Ty}{l m:List e.den}{a:Option Addr}{cap:Nat}{u:Value}{A:Nat→Prop}{z0:List I}{g0:Bool}{p:Nat}(L:pE P t=some et)(hs:jM P et=some e.size)(Y:VE P et=some p)(hz:zT P et=some (g0,z0))(a0:jY z0=e.size)(h1:1≤p)
 (c:cap<l.length+m.length) (y:a=none→l=[]∧cap=0) {cs:List Value} (M:dv (Rd w A e) l cs) (B:∀O,a=some O→∀j u,cs[j]?=some u→w.cell? (O.add j)=some u)
 (hy:gV w A e m u) (hm:0<m.length) (s:(l.length+m.length)*p≤140737488355328):
 ∃b cells vs,(cQ #[t,t] ty #[.slice a l.length cap,u]).run P w= .ok (.slice (some ⟨w.heap.size,0,none⟩) (l++m).length b) (w.drew.alloc (.cells cells et))∧dv (Rd w A e) (l++m) vs∧0<b∧(l++m).length≤b∧b*e.size≤cells.size∧cells.toList.take vs.length=vs:=by
 obtain⟨i,U,X,C,_⟩:=oK hz;have Q:U.cells.size=e.size:=by rw[pF w hz X C,a0]
 obtain⟨i',D,E⟩:=uh hs;obtain⟨a2,f,x⟩:=ys Y;rw[X]at D f;simp at D f;subst D f
 have R:(l.length+m.length:Nat)≤140737488355328:=by
  have:=Nat.le_mul_of_pos_right (l.length+m.length) (show 0<p by omega);omega
 obtain⟨K,G,a1⟩:=gV.load (P:=P) hy;have S:=dv.length (λ_ _=>Rd.length) M;have q:=dv.length (λ_ _=>Rd.length) G;rcases a1 with⟨H,J,b,rfl,_,_,r⟩|⟨rfl,_⟩
 case inr=>simp at hm
 have g:∀j v,K[j]?=some v→w.cell? ((⟨H,J,none⟩:Addr).add j)=some v:=λj v hj=>by rw[ci];exact r j v hj
 cases a with
 |none=>
  obtain⟨rfl,rfl⟩:=y rfl;simp only[cX,bK]at c s R;have o:=run_append_nil (P:=P) w t ty et i U (cJ L) X C ⟨H,J,none⟩ m.length b K (by rw[E];exact q) g hm (by omega) (by rw[x];omega);refine⟨_,_,K,o,G,?_,grownCap_ge _ _ _ _,?_,by simp⟩
  ·have:=grownCap_ge w m.length 0 et;omega
  ·have:=lZ (e:=e) (z:=U) (olds:=[]) (news:=K) (n:=0) (m:=m.length) (cap:=0) (et:=et) (W0:=w) Q (by simp) q;simpa using this
 |some O=>
  have o:=run_append_grow (P:=P) w t ty et i U (cJ L) X C O l.length cap cs (by rw[E];exact S) (B O rfl) ⟨H,J,none⟩ m.length b K (by rw[E];exact q) g c (by omega) (growslice_fits c (by rw[x];exact s));refine⟨_,_,cs++K,by rw[aa];exact o,dv.append M G,?_,by rw[aa];exact grownCap_ge _ _ _ _,lZ Q S q,?_⟩
  ·have:=grownCap_ge w (l.length+m.length) cap et;omega
  ·simp;rw[←ay,←aa,List.take_left]
theorem sk(hh:dn F ρ w h)(hg:∀k b,get k=some b→h k=some b)(hN:ρ N= .un)(hW:0<W){t ty:TypeId}{x y:V}{v u:Value}(hx:aS w (Av F ρ h) ρ x v)(hy:aS w (Av F ρ h) ρ y u):
 dh P F ρ w h N W (cQ #[t,t] ty #[v,u]) (mV P t x y get N):=by
 unfold mV;split
 ·exact .stuck
 rename_i et i;split
 case h_2=>exact .stuck
 rename_i s c3 g0 z0 hs D hz;split
 case isFalse=>exact .stuck
 rename_i hc;obtain⟨E,o⟩:=hc;split
 ·rename_i k iy hp hq;obtain⟨ad,n,cap,a2,h1⟩:=aL hp hx;simp at h1;subst h1;split
  case h_2=>exact .stuck
  rename_i e l q hk G;split
  case h_2=>exact .stuck
  rename_i g _;split
  case isFalse=>exact .stuck
  rename_i H;subst H;obtain⟨e',m⟩:=q;obtain⟨g⟩:=g;simp only at g;subst g;refine .need λc=>?_;simp only at c⊢;have B:=fV hh hg G (aL hq hy);simp only at B;have C:=hg k _ hk;obtain⟨sv,e1,e2⟩:=hh.ok k _ C;rw[a2]at e1;simp at e1;subst e1;by_cases J:m=[]
  ·subst J;obtain⟨a',c',rfl⟩:=B.len
   have b4:n≤cap:=by
    rcases e2 with⟨b,a9,cells,a3,us,p,o2,o3,o4,_⟩|⟨rfl,_,p⟩
    ·simp at p;omega
    ·simp at p;omega
   refine .leaf (iP w t ty et _ (cJ i) hs ad a' n cap c' b4) ?_;exact bJ.renum hh hN hW C (bj l) a2 ⟨_,_,_,rfl⟩
  ·have L:0<m.length:=by rcases m with _|_;exact absurd rfl J;simp
   rcases e2 with⟨b,a9,cells,a3,us,p,o2,o3,o4,o5,o6,o7⟩|⟨rfl,a0,p⟩
   ·simp at p;obtain⟨rfl,rfl,rfl⟩:=p;have b5:=dv.length (λ_ _=>Rd.length) o6;have c4:us.length≤cells.size:=by have:=aI ac o7;simp at this;omega
    have M:∀j v,us[j]?=some v→w.cell? ((⟨b,0,none⟩:Addr).add j)=some v:=λj v z=>by
     rw[ci,bK,cell_of_row w b _ cells a3 (0,0) o3]
     have b6:j<us.length:=by
      rcases bN j us.length with q|q
      ·exact q
      ·rw[bY q]at z;simp at z
     rw[←o7,ib b6]at z;simpa using z
    by_cases r:l.length+m.length≤cap
    ·obtain⟨ms,a4,b7⟩:=gV.load (P:=P) B;have b0:=dv.length (λ_ _=>Rd.length) a4;rcases b7 with⟨a5,a6,c',rfl,_,_,O⟩|⟨rfl,_⟩
     case inr=>simp at L
     have a7:l.length*e'.size+ms.length≤cells.size:=by
      rw[b0,←Nat.add_mul];exact bA (Nat.mul_le_mul_right _ r) o5
     have b1:∀v∈ms,v.oneCell'=true:=dv.all (λ_ _ h=>Rd.one h) a4;obtain⟨w',b2,q1,q2,q3,q4,q5,q6,q7,q8⟩:=eJ P o3 a7 b1;refine .leaf (lz w w' t ty et _ (cJ i) hs b l.length cap ⟨a5,a6,none⟩ m.length c' ms b0 (λj v z=>by rw[ci];exact O j v z) r q1) ?_;obtain⟨c1,rfl⟩:∃c1,cap=c1+1:=⟨cap-1,by omega⟩;have a8:(ρ k).blk=some b:=by rw[a2];rfl
     have b8:b2.size=cells.size:=by
      have:=aI ac q3;simp at this;omega
     refine bJ.move hh hN hW C rfl (.sv (.slice (some ⟨b,0,none⟩) (l.length+m.length) (c1+1))) _ (by simp) (by simp) (by omega) q5 q6 q7 (λb' _ b9=>q8 b' (λe=>b9 (by rw[a8,e]))) (λb' _ b3=>?_) (λc0=>?_) _ _ (λ_=>aH.2 ⟨_,_,_,bL _ _ _,rfl⟩)
     ·simp[Pl.blk]at b3;subst b3;exact⟨by rw[q4];exact(hh.fr k _ b C rfl a8).1, .inl a8⟩
     ·refine⟨_,bL _ _ _, .inl ⟨b,c1+1,b2,a3,us++ms,by rw[aa],o2,q2,by rw[aa];exact r,by rw[b8];exact o5,(dv.append o6 a4).imp (λ_ _=>Rd.evo c0.evo),?_⟩⟩;rw[q3,←b5];have:cells.toList.take us.length=us:=o7;rw[this,List.take_left]
    ·obtain⟨A,f,vs,Q,R,S,U,X,Y⟩:=gX (P:=P) t ty et (a:=some ⟨b,0,none⟩) (cap:=cap) i hs D hz E o (by omega) (by simp) o6 (λc2 K=>by simp at K;subst K;exact M) B L c;exact .leaf Q (bJ.remade hh hN hW C rfl (by simp) rfl R S U X Y)
   ·simp at p;obtain⟨rfl,rfl,rfl⟩:=p;obtain⟨A,f,vs,Q,R,S,U,X,Y⟩:=gX (P:=P) t ty et (a:=ad) (cap:=0) (l:=([]:List e'.den)) (cs:=[]) i hs D hz E o (by simp;omega) (λ_=>⟨rfl,rfl⟩) rfl (λ_ _ j u z=>by simp at z) B L c;exact .leaf Q (bJ.remade hh hN hW C rfl (by simp) rfl R S U X Y)
 ·rename_i iy hp hq;have h1:=aL hp hx;simp[bf]at h1;subst h1;split
  case h_2=>exact .stuck
  rename_i q G;split
  case isFalse=>exact .stuck
  rename_i H;subst H;obtain⟨e',m⟩:=q;refine .need λc=>?_;simp only at c⊢;have B:=fV hh hg G (aL hq hy);simp only at B;by_cases J:m=[]
  ·subst J;obtain⟨a',c',rfl⟩:=B.len;refine .leaf (iP w t ty et _ (cJ i) hs none a' 0 0 c' (aC _)) ?_;refine bJ.add hh hN hW (fp.refl w) (.sv (.slice none 0 0)) (.sl e' []) (by simp) (λb _ hb=>by simp[Pl.blk]at hb) (λL=>⟨_,bL _ _ _, .inr ⟨rfl,none,rfl⟩⟩) _ _ (λ_=>aH.2 ⟨_,_,_,bL _ _ _,rfl⟩)
  ·have L:0<m.length:=by rcases m with _|_;exact absurd rfl J;simp
   obtain⟨A,f,vs,Q,R,S,U,X,Y⟩:=gX (P:=P) t ty et (a:=none) (cap:=0) (l:=([]:List e'.den)) (cs:=[]) i hs D hz E o (by simp;omega) (λ_=>⟨rfl,rfl⟩) rfl (λ_ _ j u z=>by simp at z) B L (by simpa using c);exact .leaf Q (bJ.made hh hN hW (.inr rfl) R S U X Y)
 ·rename_i e l iy hp hq;obtain⟨u0,h1,h2,a0,n0,rfl⟩:=aL hp hx;simp at h1;subst h1;split
  case h_2=>exact .stuck
  rename_i q G;split
  case h_2=>exact .stuck
  rename_i g _;split
  case isFalse=>exact .stuck
  rename_i H;subst H;obtain⟨e',m⟩:=q;obtain⟨g⟩:=g;simp only at g;subst g;refine .need λL=> .need λc=>?_;simp only at c L⊢;have B:=fV hh hg G (aL hq hy);simp only at B;rcases h2 with⟨a5,a6,cap,cs,p,o2,o3,o4,o5,o6⟩|⟨rfl,a1,p⟩
  ·simp at p;obtain⟨rfl,rfl,rfl⟩:=p;obtain⟨A,f,vs,Q,R,S,U,X,Y⟩:=gX (P:=P) t ty et (a:=some ⟨a5,a6,none⟩) (cap:=l.length) i hs D hz E o (by omega) (by simp) o5 (λc2 K=>by simp at K;subst K;exact λj v z=>by rw[ci];exact o6 j v z) B L c;exact .leaf Q (bJ.made hh hN hW (.inr rfl) R S U X Y)
  ·simp at p;obtain⟨rfl,rfl⟩:=p;obtain⟨A,f,vs,Q,R,S,U,X,Y⟩:=gX (P:=P) t ty et (a:=a0) (cap:=0) (l:=([]:List e'.den)) (cs:=[]) i hs D hz E o (by simp;omega) (λ_=>⟨rfl,rfl⟩) rfl (λ_ _ j u z=>by simp at z) B L (by simpa using c);exact .leaf Q (bJ.made hh hN hW (.inr rfl) R S U X Y)
 ·exact .stuck
end
end
section
theorem nV(z:Array Value)(s:Nat)(a:z.size=s):∀n,(List.range (n*s)).map (λi=>z[i % z.size]!)=(ak n z.toList).flatten:=by
 intro n
 induction n with
 |zero=>simp
 |succ n c=>
  rw[List.replicate_succ',List.flatten_append,←c,Nat.succ_mul,List.range_add,dl]
  congr 1
  simp only[List.flatten_cons,List.flatten_nil,bj,List.map_map];apply List.ext_getElem
  ·simp[a]
  ·intro i b e;simp only[bT,List.length_range]at b;simp only[List.getElem_map,List.getElem_range,Function.comp_apply,a];have:(n*s+i) % s=i:=by rw[fj,Nat.add_mul_mod_self_right,Nat.mod_eq_of_lt b]
   rw[this,getElem!_pos z i (by omega)];simp
theorem qm(z:Array Value)(n:Nat):(bI z n).toList=(ak n z.toList).flatten:=by
 rw[←nV z z.size rfl n];simp[bI]
theorem uw{w:World}{A:Nat→Prop}{e:Ty}{x:e.den}{vs:List Value}(h:Rd w A e x vs):∀n,dv (Rd w A e) (ak n x) (ak n vs).flatten
 |0=>rfl
 |n+1=>⟨vs,_,by simp[List.replicate_succ],h,uw h n⟩
section
variable{P:Program}{F:Nat→Prop}{ρ:Nat→Pl}{w:World}{h get:Nat→Option Ch}{N W:Nat}
def aappendZ(P:Program)(t f:TypeId)(x y:V)(get:Nat→Option Ch)(N:Nat):Tr (V×dH):=
 match pE P t,yr P f,uq y,x.one? with
 |some b,some .i64,some n,some (.own k)=>match jM P b,VE P b,zT P b,get k with
  |some s,some a,some (_,c),some (.sl e l)=>match sj e c with
   |some g=>if s=e.size∧0<s∧jY c=s∧1≤a then .need (0≤n.2∧(l.length+n.2.toNat)*a≤140737488355328) (.leaf (sc (.own N),[(k,none),(N,some (.sl e (l++ak n.2.toNat g)))]))else .stuck
   |none=> .stuck
  |_,_,_,_=> .stuck
 |_,_,_,_=> .stuck
theorem qn(hh:dn F ρ w h)(hg:∀k b,get k=some b→h k=some b)(hN:ρ N= .un)(hW:0<W){t t' ty:TypeId}{x y:V}{v u:Value}(hx:aS w (Av F ρ h) ρ x v)(hy:aS w (Av F ρ h) ρ y u):
 dh P F ρ w h N W (cQ #[t,t'] ty #[v,u]) (aappendZ P t t' x y get N):=by
 unfold aappendZ;split
 case h_2=>exact .stuck
 rename_i et n k o p hn hp;have:=jm hn hy;subst this;split
 case h_2=>exact .stuck
 rename_i s A g0 z0 e l hs b4 hz hk;split
 case h_2=>exact .stuck
 rename_i x0 b5;split
 case isFalse=>exact .stuck
 rename_i hc;obtain⟨rfl,a6,b6,d3⟩:=hc;refine .need λhb=>?_;obtain⟨b7,B⟩:=hb;obtain⟨m,hm⟩:=cq b7;rw[hm]at B⊢;simp only[aG]at B⊢;obtain⟨i,M,hi,O,b8⟩:=oK hz;have b9:M.cells.size=e.size:=by rw[pF w hz hi O,b6]
 obtain⟨i',a1,C⟩:=uh hs;obtain⟨d5,D,E⟩:=ys b4;rw[hi]at a1 D;simp at a1 D;subst a1 D;have c0:Rd w (Av F ρ h) e x0 M.cells.toList:=ir b5 (dU (b8 w (Av F ρ h) ρ))
 have d4:(l.length+m:Nat)≤140737488355328:=by
  have:=Nat.le_mul_of_pos_right (l.length+m) (show 0<A by omega);omega
 obtain⟨U,Q,cap,a2,h1⟩:=aL hp hx;simp at h1;subst h1;have G:=hg k _ hk;obtain⟨sv,e1,e2⟩:=hh.ok k _ G;rw[a2]at e1;simp at e1;subst e1;have a3:IntKind.i64.wrap (m:Int)=m:=ae.wrap ⟨by omega,by omega⟩
 have d6:¬((m:Int)*(i.bytes:Int)>2^48):=by
  have h9:m*A≤(l.length+m)*A:=Nat.mul_le_mul_right _ (by omega);have:((m*i.bytes:Nat):Int)≤140737488355328:=by rw[E];omega
  rw[Int.natCast_mul]at this;omega
 have c4:=qm M.cells m;have f:=uw c0 m;rw[←c4]at f;have a4:=dv.length (λ_ _=>Rd.length) f;rw[List.length_replicate]at a4
 have g:∀(w':World),Q+m≤cap→(∀a,U=some a→(storeCells (a.add (Q*e.size)) (bI M.cells m).toList).run P w= .ok () w')→(U=none→w'=w)→(cQ #[t,t'] ty #[.slice U Q cap, .int .i64 m]).run P w= .ok (.slice U (Q+m) cap) w':=by
  intro w' c c5 c6;have H:¬((m:Int)<0):=by omega
  have J:¬(281474976710656<(m:Int)*(i.bytes:Int)):=by omega
  cases U with
  |none=>
   have:=c6 rfl;subst this;by_cases h0:m*e.size=0
   ·simp[cQ,run_underlying (cJ o),run_underlying (eo p),sizeOf,typeInfo,hi,C,asInt,asIntOf,a3,H,J,c,h0]
   ·simp[cQ,run_underlying (cJ o),run_underlying (eo p),sizeOf,typeInfo,zeroValue,hi,O,asInt,asIntOf,a3,H,J,c]
  |some a=>
   have h1:=c5 a rfl;by_cases h0:m*e.size=0
   ·have:m=0:=by rcases Nat.mul_eq_zero.1 h0 with q|q;exact q;omega
    subst this;simp[bI]at h1;have a7:IntKind.i64.wrap 0=0:=by decide
    have R:Q≤cap:=c;simp[cQ,run_underlying (cJ o),run_underlying (eo p),sizeOf,typeInfo,hi,C,asInt,asIntOf,a7,R,h1]
   ·simp[cQ,run_underlying (cJ o),run_underlying (eo p),sizeOf,typeInfo,zeroValue,hi,O,C,asInt,asIntOf,a3,H,J,c,h0,h1]
 by_cases c:Q+m≤cap
 ·rcases e2 with⟨b,X,cells,a8,us,S,o2,o3,o4,o5,o6,o7⟩|⟨rfl,a0,S⟩
  ·simp at S;obtain⟨rfl,rfl,rfl⟩:=S;have c7:=dv.length (λ_ _=>Rd.length) o6;have d7:us.length≤cells.size:=by have:=aI ac o7;simp at this;omega
   have K:l.length*e.size+(bI M.cells m).toList.length≤cells.size:=by
    rw[a4,←Nat.add_mul];exact bA (Nat.mul_le_mul_right _ c) o5
   have a9:∀v∈(bI M.cells m).toList,v.oneCell'=true:=dv.all (λ_ _ h=>Rd.one h) f;obtain⟨w',b0,q1,q2,q3,q4,q5,q6,q7,q8⟩:=eJ P o3 K a9;refine .leaf (g w' c (λa ha=>by simp at ha;subst ha;rw[ci,bK];exact q1) (by simp)) ?_;obtain⟨L,rfl⟩:∃L,cap=L+1:=⟨cap-1,by omega⟩;have a5:(ρ k).blk=some b:=by rw[a2];rfl
   have c8:b0.size=cells.size:=by
    have:=aI ac q3;simp at this K;omega
   refine bJ.move hh hN hW G rfl (.sv (.slice (some ⟨b,0,none⟩) (l.length+m) (L+1))) _ (by simp) (by simp) (by omega) q5 q6 q7 (λb' _ c9=>q8 b' (λe=>c9 (by rw[a5,e]))) (λb' _ b1=>?_) (λd0=>?_) _ _ (λ_=>aH.2 ⟨_,_,_,bL _ _ _,rfl⟩)
   ·simp[Pl.blk]at b1;subst b1;exact⟨by rw[q4];exact(hh.fr k _ b G rfl a5).1, .inl a5⟩
   ·refine⟨_,bL _ _ _, .inl ⟨b,L+1,b0,a8,us++(bI M.cells m).toList,by simp,o2,q2,by simp;exact c,by rw[c8];exact o5,(dv.append o6 f).imp (λ_ _=>Rd.evo d0.evo),?_⟩⟩;rw[q3,←c7];have:cells.toList.take us.length=us:=o7;rw[this,List.take_left]
  ·simp at S;obtain⟨rfl,rfl,rfl⟩:=S;obtain rfl:m=0:=by omega
   refine .leaf (g w c (λa ha=>by simp[bI,storeCells]) (by simp)) ?_;exact bJ.renum hh hN hW G (by simp) a2 ⟨_,_,_,rfl⟩
 ·have d1:0<m:=by
   rcases Nat.eq_zero_or_pos m with q|q
   ·subst q;exfalso;rcases e2 with⟨b,X,cells,a8,us,S,o2,o3,o4,_⟩|⟨rfl,_,S⟩
    ·simp at S;omega
    ·simp at S;omega
   ·exact q
  have b2:∃Y,dv (Rd w (Av F ρ h) e) l Y∧l.length=Q∧(cU e.size Q (.slice U Q cap)).run P w.drew= .ok Y.toArray w.drew:=by
   obtain⟨Y,L,c2⟩:=gV.load (P:=P) (e2.reads);have c3:=dv.length (λ_ _=>Rd.length) L;rcases c2 with⟨d8,d9,X,q1,_,_,q4⟩|⟨rfl,rfl,a,q1⟩
   ·simp at q1;obtain⟨rfl,rfl,rfl⟩:=q1;exact⟨Y,L,rfl,run_firstCells_some (P:=P) w.drew e.size l.length _ _ _ Y c3 (λj v hj=>by rw[ci];exact q4 j v hj)⟩
   ·simp at q1;obtain⟨rfl,rfl,rfl⟩:=q1;refine⟨[],L,rfl,?_⟩;cases U with
    |none=>simp[cU]
    |some a=>simp[cU,loadCells,loadCellsFrom]
  obtain⟨Y,L,rfl,c2⟩:=b2;have c3:=dv.length (λ_ _=>Rd.length) L;have h9:m*A≤281474976710656:=bA (Nat.mul_le_mul_right _ (Nat.le_add_left _ _)) (by omega:(l.length+m)*A≤_);have b3:=Lib.run_append_grow_zeros (P:=P) w t t' ty et i M .i64 .i64 (cJ o) (eo p) hi O U l.length cap Y (by rw[C];exact c2) m d1 (by rw[C];exact a6) (by omega) (by omega) (by rw[E];exact h9) (growslice_fits (by omega) (by rw[E];exact B));have d2:=grownCap_ge w (l.length+m) cap et;refine .leaf (y:=sc (.own N)) (r:= .slice (some ⟨w.heap.size,0,none⟩) (l++ak m x0).length (grownCap w (l.length+m) cap et)) (by simpa using b3) (bJ.remade hh hN hW G rfl (by simp) rfl (dv.append L f) (by omega) (by simpa using d2) ?_ ?_)
  ·have:=lZ (e:=e) (z:=M) (olds:=Y) (news:=(bI M.cells m).toList) (n:=l.length) (m:=m) (cap:=cap) (et:=et) (W0:=w) b9 c3 a4;simpa using this
  ·simp;rw[←ay,←sX,←aa,List.take_left]
def dD{α:Type}(dst a:List α):List α:=a.take dst.length++dst.drop a.length
def Er(P:Program)(t:TypeId)(x y:V)(get:Nat→Option Ch):Option (V×dH):=
 match pE P t,x.one?,y.one? with
 |some b,some (.own k),some e=>match jM P b,get k,e.slice? get with
  |some 1,some (.sl .u8 l),some ⟨.u8,m⟩=>some (nR (min m.length l.length:Nat),[(k,some (.sl .u8 (dD (α:=BitVec 8) l m)))])
  |_,_,_=>none
 |some b,some (.sub k a n .u8),some e=>match jM P b,get k,e.slice? get with
  |some 1,some (.cells l),some ⟨.u8,m⟩=>match fC l a n with
   |some c=>match sj (.ar n .u8) c with
    |some z=>match ka l a [.d (.ar n .u8) (dD (α:=BitVec 8) z m)]with
     |some f=>some (nR (min m.length n:Nat),[(k,some (.cells f))])
     |none=>none
    |none=>none
   |none=>none
  |_,_,_=>none
 |_,_,_=>none
theorem Es{α:Type}{l vs nv:List α}(h:l.take vs.length=vs)(a:vs.length≤l.length)(b:nv.length≤vs.length):(nv++l.drop nv.length).take (nv++vs.drop nv.length).length=nv++vs.drop nv.length:=by
 have:=mT (off:=0) h a (nv:=nv) (by omega);simpa using this
theorem kh{A:Nat→Prop}{l:List (BitVec 8)}{vs:List Value}:dv (Rd w A .u8) l vs↔vs=l.map ca:=by
 induction l generalizing vs with
 |nil=>exact Iff.rfl
 |cons x l c=>
  constructor
  ·rintro⟨a,b,rfl,e,f⟩;rw[c.1 f];simp only[Rd]at e;rw[e];rfl
  ·intro g;exact⟨[ca x],l.map ca,g,rfl,c.2 rfl⟩
theorem oQ{α:Type}(m:List α)(n:Nat):m.take (min m.length n)=m.take n:=by
 rcases Nat.le_total m.length n with h|h
 ·rw[ee h,ba (aC _),ba h]
 ·rw[Nat.min_eq_right h]
theorem gF{α:Type}(l m:List α):(dD l m).length=l.length:=by
 simp[dD];omega
theorem s9(l m:List (BitVec 8)):(dD l m).map ca=(m.take l.length).map ca++(l.map ca).drop ((m.take l.length).map ca).length:=by
 simp only[dD,dl,List.map_take,List.map_drop,bi,bT]
 congr 1
 by_cases a:l.length≤m.length
 ·rw[ee a,bw (by simp;exact a),bw (by simp)]
 ·rw[Nat.min_eq_right (by omega)]
theorem ki{t j ty et:TypeId}(e:pE P t=some et)(l:jM P et=some 1){b off a c sl:Nat}{u:Value}{news:List Value}{w':World}
 (f:(Builtin.lenOf u).run P w= .ok sl w) (m:(cU 1 (min sl a) u).run P w= .ok news.toArray w) (g:(storeCells ⟨b,off,none⟩ news).run P w= .ok () w'):
 (gm #[t,j] ty #[.slice (some ⟨b,off,none⟩) a c,u]).run P w= .ok (.int .i64 (min sl a:Nat)) w':=by
 have i:Nat.min sl a=min sl a:=rfl;simp[gm,run_underlying (cJ e),bV l,f,i,m,g,goInt]
theorem nW{t e ty et:TypeId}(a:pE P t=some et)(f:jM P et=some 1){c:Option Addr}{sl:Nat}{u:Value}
 (b:(Builtin.lenOf u).run P w= .ok sl w) (g:(cU 1 0 u).run P w= .ok #[] w):
 (gm #[t,e] ty #[.slice c 0 0,u]).run P w= .ok (.int .i64 0) w:=by
 cases c<;>simp[gm,run_underlying (cJ a),bV f,b,g,goInt,storeCells]
theorem wi(hh:dn F ρ w h)(hg:∀k b,get k=some b→h k=some b){t t' ty:TypeId}{x y:V}{v u:Value}(hx:aS w (Av F ρ h) ρ x v)(hy:aS w (Av F ρ h) ρ y u):
 dh P F ρ w h N W (gm #[t,t'] ty #[v,u]) (Tr.ofOpt (Er P t x y get)):=by
 refine .ofOpt λq f=>?_;unfold Er at f
 have O:∀{Q:I}{m:List (BitVec 8)},y.one?=some Q→Q.slice? get=some ⟨.u8,m⟩→(Builtin.lenOf u).run P w= .ok m.length w∧∀n,n≤m.length→(cU 1 n u).run P w= .ok ((m.take n).map ca).toArray w:=by
  intro Q m B h2;obtain⟨cs,c1,c2⟩:=gV.load (P:=P) (fV hh hg h2 (aL B hy));have c3:cs=m.map ca:=kh.1 c1;rcases c2 with⟨a7,o,cap,rfl,_,_,q⟩|⟨M,rfl,a,rfl⟩
  ·refine⟨rfl,λn hn=>run_firstCells_some (P:=P) w 1 n _ _ _ _ (by simp;omega) (λj v hj=>?_)⟩;rw[ci];refine q j v ?_;rw[c3];rw[List.map_take,List.getElem?_take]at hj;split at hj
   ·exact hj
   ·simp at hj
  ·simp only at M;subst M;refine⟨rfl,λn hn=>?_⟩;simp only[cX]at hn;obtain rfl:n=0:=by omega
   cases a with
   |none=>simp[cU]
   |some a=>simp[cU,loadCells,loadCellsFrom]
 have bytes:∀(l:List (BitVec 8)),∀v∈l.map ca,v.oneCell'=true:=by
  intro l v hv;obtain⟨_,_,rfl⟩:=dY.1 hv;rfl
 split at f
 ·rename_i et k Q p hp C;obtain⟨ad,n,cap,r,B⟩:=aL hp hx;simp at B;subst B;split at f
  case h_2=>simp at f
  rename_i l m hs hk hm;simp only[Option.some.injEq]at f;subst f;have g:=hg k _ hk;obtain⟨sv,D,e2⟩:=hh.ok k _ g;rw[r]at D;simp at D;subst D;obtain⟨s,hf⟩:=O C hm;rcases e2 with⟨b,a6,cells,E,us,R,o2,o3,o4,o5,o6,o7⟩|⟨a1,a0,R⟩
  ·simp at R;obtain⟨rfl,rfl,rfl⟩:=R;have G:m.take (min m.length (ac (α:=BitVec 8) l))=m.take (ac (α:=BitVec 8) l):=oQ _ _;have S:us=l.map ca:=kh.1 o6;have a2:us.length≤cells.size:=by have:=aI ac o7;simp at this;omega
   have i:((m.take (ac (α:=BitVec 8) l)).map ca).length≤us.length:=by rw[S,bT,bT,bi];exact Nat.min_le_left _ _
   obtain⟨w',A,M,q2,q3,q4,q5,q6,q7,q8⟩:=eJ P (off:=0) (nv:=(m.take (ac (α:=BitVec 8) l)).map ca) o3 (by omega) (bytes _)
   have a3:A.size=cells.size:=by
    have:=aI ac q3;simp at this i;omega
   refine⟨.int .i64 (min m.length (ac (α:=BitVec 8) l):Nat),w',ki p hs s (by rw[hf _ (Nat.min_le_left _ _),G]) M,bJ.set hh g rfl (.sl .u8 (dD (α:=BitVec 8) l m)) (by simp) (by simp) (by omega) q5 q6 q7 (λb' _ H=>q8 b' (λe=>H (by rw[r,e];obtain⟨c',rfl⟩:∃c',cap=c'+1:=⟨cap-1,by omega⟩;rfl))) (λJ=>?_) _ _ (λ_=>aH.2 rfl)⟩;refine⟨_,r, .inl ⟨b,cap,A,E,(dD (α:=BitVec 8) l m).map ca,by rw[gF],o2,q2,by rw[gF];exact o4,by rw[a3];exact o5,kh.2 rfl,?_⟩⟩;rw[s9,←S,q3];simp only[List.take_zero,eG,bK];exact Es o7 (by simpa using a2) i
  ·simp at R;obtain⟨rfl,rfl,rfl⟩:=R;have U:(l:List (BitVec 8))=[]:=a1;subst U;refine⟨.int .i64 0,w,nW p hs s (by simpa using hf 0 (aq _)),bJ.set hh g rfl (.sl .u8 (dD (α:=BitVec 8) [] m)) (by simp) (by simp) (aC _) rfl rfl rfl (λ_ _ _=>rfl) (λJ=>⟨_,r, .inr ⟨by simp[dD],_,rfl⟩⟩) _ _ (λ_=>aH.2 ?_)⟩;simp[bf,Rd]
 ·rename_i et k o n Q p hp C;obtain⟨b,K,B⟩:=aL hp hx;simp at B;subst B;split at f
  case h_2=>simp at f
  rename_i l m hs hk hm;split at f
  case h_2=>simp at f
  rename_i c hc;split at f
  case h_2=>simp at f
  rename_i z hz;split at f
  case h_2=>simp at f
  rename_i l' a4;simp only[Option.some.injEq]at f;subst f;have g:=hg k _ hk;obtain⟨b',cs,E,D,e2,e3⟩:=hh.ok k _ g;rw[K]at D;simp at D;subst D;obtain⟨s,hf⟩:=O C hm;obtain⟨g1,g2⟩:=gp e3 hc;obtain⟨d1,d2⟩:=ir hz g2;have a5:(cs.toList.drop o).take n=z.map ca:=kh.1 d2;have L:ac (α:=BitVec 8) z=n:=d1;have X:bf w (Av F ρ h) ρ (.d (.ar n .u8) (dD (α:=BitVec 8) z m)) ((dD (α:=BitVec 8) z m).map ca):=⟨by rw[gF];exact L,kh.2 rfl⟩;obtain⟨s1,s2⟩:=kc e3 (aK.single X) a4;have G:m.take (min m.length n)=m.take n:=oQ _ _;have i:((m.take n).map ca).length≤n:=by rw[bT,bi];exact Nat.min_le_left _ _
  obtain⟨w',A,M,q2,q3,q4,q5,q6,q7,q8⟩:=eJ P (off:=o) (nv:=(m.take n).map ca) e2 (by simp at g1⊢;omega) (bytes _);refine⟨.int .i64 (min m.length n:Nat),w',ki p hs s (by rw[hf _ (Nat.min_le_left _ _),G]) M,bJ.set hh g rfl (.cells l') (by simp) (by simp) (by omega) q5 q6 q7 (λb' _ H=>q8 b' (λe=>H (by rw[K,e];rfl))) (λJ=>⟨b,A,E,K,q2,?_⟩) _ _ (λ_=>aH.2 rfl)⟩;rw[q3];refine aK.evo J.evo (dK.refl ρ) ?_;have Y:((dD (α:=BitVec 8) z m).map ca).length=n:=by rw[bT,gF];exact L
  rw[Y,s9,L,←a5]at s2;have:=oM (vs:=cs.toList) (q:=o) (n:=n) (m:=0) (nv:=(m.take n).map ca) (by omega);simp only[List.take_zero,eG,bK,Nat.add_zero]at this;rw[←this];exact s2
 ·simp at f
end
end
section
def mW(place:Nat→Option (Nat×Nat)):List I→List (Nat×V)→Option (List I)
 |a,[]=>some a
 |a,(i,x)::r=>
  match place i with
  |none=>none
  |some (b,size)=>
   match x with
   | .val true l=>if jY l=size then
    match ka a b l with
    |some m=>mW place m r
    |none=>none
     else none
   | .val false [c]=>if size=1 then
    match jj a b c with
    |some m=>mW place m r
    |none=>none
     else none
   |_=>none
theorem wj(off:Nat):∀(l:List Value)(k:Nat)(cells:Array Value),off+k+l.length≤cells.size→
 ((l.zipIdx k).foldl (λcs(p:Value×Nat)=>cs.setIfInBounds (off+p.2) p.1) cells).toList=cells.toList.take (off+k)++l++cells.toList.drop (off+k+l.length)
 |[],k,cells,_=>by simp
 |v::l,k,cells,h=>by
  simp only[bd]at h;rw[List.zipIdx_cons,List.foldl_cons,wj off l (k+1) _ (by simp;omega)];simp only[Array.toList_setIfInBounds];have:=list_seg_step cells.toList (off+k) v l (by simp;omega);simpa[eA]using this
theorem wk(v:Value)(off:Nat)(cells:Array Value)(h:off+v.cells.size≤cells.size):
 (v.cells.zipIdx.foldl (λcs(c,j)=>cs.setIfInBounds (off+j) c) cells).toList=cells.toList.take off++v.cells.toList++cells.toList.drop (off+v.cells.toList.length):=by
 have e:v.cells.zipIdx.foldl (λcs(c,j)=>cs.setIfInBounds (off+j) c) cells=(v.cells.toList.zipIdx 0).foldl (λcs(p:Value×Nat)=>cs.setIfInBounds (off+p.2) p.1) cells:=by
  rw[←Array.foldl_toList];simp
 rw[e,wj off v.cells.toList 0 cells (by simpa using h)];simp
theorem qo{w:World}{A:Nat→Prop}{ρ:Nat→Pl}{place:Nat→Option (Nat×Nat)}:∀{parts:List (Nat×V)}{f:List (Nat×Value)}{b m:List I}{cells:Array Value},
 aK w A ρ b cells.toList→F2 (λ(p:Nat×V)(q:Nat×Value)=>p.1=q.1∧aS w A ρ p.2 q.2) parts f→mW place b parts=some m→
 ∃a,Instr.fill place cells f=some a∧aK w A ρ m a.toList
 |[],[],b,m,cells,hL,_,h=>by simp[mW]at h;subst h;exact⟨cells,rfl,hL⟩
 |(i,x)::r,(j,v)::K,b,m,cells,hL,⟨⟨u,E⟩,n⟩,h=>by
  simp only at u;subst u;unfold mW at h;split at h
  ·simp at h
  rename_i e size L
  have fin:∀(o:List I),v.cells.size=size→e+v.cells.toList.length≤cells.toList.length→aK w A ρ o (cells.toList.take e++v.cells.toList++cells.toList.drop (e+v.cells.toList.length))→mW place o r=some m→
   ∃a,Instr.fill place cells ((i,v)::K)=some a∧aK w A ρ m a.toList:=by
   intro o y G z M;have B:e+v.cells.size≤cells.size:=by simpa using G
   rw[←wk v e cells B]at z;obtain⟨a,t,C⟩:=qo z n M;refine⟨a,?_,C⟩;have c:¬((v.cells.size≠size||decide (e+v.cells.size>cells.size))=true):=by simp[y];omega
   simp only[Instr.fill,L,c];simpa using t
  split at h
  ·rename_i l;split at h
   case isFalse=>simp at h
   rename_i O;split at h
   case h_2=>simp at h
   rename_i o H;have D:=dU E;obtain⟨t,C⟩:=kc hL D H;have g:=aK.length D;exact fin o (by simp at g;omega) t C h
  ·rename_i c;split at h
   case isFalse=>simp at h
   rename_i O;split at h
   case h_2=>simp at h
   rename_i o H;have D:=dU E;have g:=aK.length D;have J:=aH.1 E
   have s:v.cells.toList=[v]:=by
    have:=bf.one J v (by simp);cases v<;>first|rfl|(simp[dB]at this)
   obtain⟨t,C⟩:=lW hL J H;have y:v.cells.size=1:=by have:=aI ac s;simpa using this
   refine fin o (by omega) (by rw[s];simp at t⊢;omega) ?_ h;rw[s]
   have:cells.toList.take e++[v]++cells.toList.drop (e+[v].length)=cells.toList.set e v:=by
    rw[List.set_eq_take_append_cons_drop,an t];simp
   rw[this];exact C
  ·simp at h
def AH(P:Program)(t:TypeId):Option (Nat→Option (Nat×Nat)):=
 match P.underlying t with
 |some (.array _ e)=>match P.info? e with
  |some c=>some λi=>some (i*c.size,c.size)
  |none=>none
 |some (.struct a)=>match a.toList.mapM (λf=>(P.info? f.type).map λi=>(f.offset,i.size))with
  |some b=>some λi=>b[i]?
  |none=>none
 |_=>none
section
variable{P:Program}{F:Nat→Prop}{ρ:Nat→Pl}{w:World}{h get:Nat→Option Ch}{N W:Nat}
def yC(P:Program)(t:TypeId)(parts:List (Nat×V)):Option (V×dH):=
 match zT P t,AH P t with
 |some (true,a),some place=>(mW place a parts).map λl=>(.val true l,[])
 |_,_=>none
theorem ux(hh:dn F ρ w h){t:TypeId}{parts:List (Nat×V)}{b:List (Nat×Value)}(z:F2 (λ(p:Nat×V)(q:Nat×Value)=>p.1=q.1∧aS w (Av F ρ h) ρ p.2 q.2) parts b):
 dh P F ρ w h N W (Instr.build t b.toArray) (Tr.ofOpt (yC P t parts)):=by
 refine .ofOpt λq g=>?_;unfold yC at g;split at g
 case h_2=>simp at g
 rename_i A place B a;cases r:mW place A parts with
 |none=>simp[r]at g
 |some l=>
  simp[r]at g;subst g;obtain⟨i,E,C,j,s⟩:=oK B;obtain⟨c,y,D⟩:=qo (dU (s w (Av F ρ h) ρ)) z r
  have f:P.built t b.toArray.toList=some c:=by
   unfold AH at a;unfold Program.built;rw[C];split at a
   ·rename_i n e u;split at a
    case h_2=>simp at a
    rename_i G v;simp at a;subst a;simp only[u,j,v];exact y
   ·rename_i m u;split at a
    case h_2=>simp at a
    rename_i o x;simp at a;subst a;simp only[u,j,x];simpa using y
   ·simp at a
  exact⟨_,w,run_build w t _ c f,bJ.pure hh ⟨c.toList,D,by simp⟩⟩
def nX(e:Ty):Nat→List I→Option (List e.den)
 |0,[]=>some []
 |0,_::_=>none
 |n+1,l=>match iN e l with
  |some (x,r)=>match nX e n r with
   |some m=>some (x::m)
   |none=>none
  |none=>none
theorem ta{A:Nat→Prop}{e:Ty}:∀{n:Nat}{l:List I}{m:List e.den}{vs:List Value},nX e n l=some m→aK w A ρ l vs→m.length=n∧dv (Rd w A e) m vs
 |0,[],m,vs,h,c=>by simp[nX]at h;subst h;exact⟨rfl,c⟩
 |0,_::_,_,_,h,_=>by simp[nX]at h
 |n+1,l,m,vs,h,c=>by
  simp only[nX]at h;split at h
  case h_2=>simp at h
  rename_i x r f;split at h<;>simp at h;rename_i q g;subst h;obtain⟨a,b,e,i,j⟩:=wc f c;obtain⟨o,p⟩:=ta g j;exact⟨by simp[o],a,b,e,i,p⟩
def Kr(n:Nat)(l:List I):List I:=match n with
 |0=>[]
 |n+1=>l++Kr n l
theorem AI{A:Nat→Prop}{l:List I}{vs:List Value}(h:aK w A ρ l vs):∀n,aK w A ρ (Kr n l) (ak n vs).flatten
 |0=>rfl
 |n+1=>by rw[List.replicate_succ,List.flatten_cons];exact aK.append h (AI h n)
def kj(P:Program)(t:TypeId)(len:Nat)(parts:List (Nat×V))(N:Nat):Option (V×dH):=
 match pE P t with
 |none=>none
 |some a=>
  match jM P a,zT P a,J3 P 8 a with
  |some s,some (_,b),some e=>
   if 0<s∧s=e.size∧len*s≤16777216∧jY b=s then
    match mW (λi=>some (i*s,s)) (Kr len b) parts with
    |some l=>match nX e len l with
     |some m=>some (sc (.own N),[(N,some (.sl e m))])
     |none=>none
    |none=>none
   else none
  |_,_,_=>none
theorem VG(place:Nat→Option (Nat×Nat)):∀(q:List (Nat×Value))(c g:Array Value),Instr.fill place c q=some g→g.size=c.size:=by
 intro q
 induction q with
 |nil=>intro c g f;simp[Instr.fill]at f;rw[f]
 |cons p q i=>
  intro c g f;obtain⟨a,b⟩:=p;unfold Instr.fill at f;split at f
  ·simp at f
  ·split at f
   ·simp at f
   ·rename_i j m _ e;rw[i _ _ f];simp only[ig,ah,not_or,ne_eq,aD,gt_iff_lt,Nat.not_lt]at e;have l:=wk b j c e.2;have:=aI ac l;rw[sX]at this;rw[this];simp;omega
theorem bJ.madeA(hh:dn F ρ w h)(c:ρ N= .un)(f:0<W){w':World}{e:Ty}{l:List e.den}{cells:Array Value}{ty:TypeId}
 (g:w'=w.alloc (.cells cells ty)) (i:dv (Rd w (Av F ρ h) e) l cells.toList) (o:0<e.size):bJ F ρ w h N W (sc (.own N)) [(N,some (.sl e l))] (.slice (some ⟨w.heap.size,0,none⟩) l.length l.length) w':=by
 by_cases j:l=[]
 ·subst j;subst g;refine bJ.add hh c f (fp.alloc w _) (.sv (.slice (some ⟨w.heap.size,0,none⟩) 0 0)) (.sl e []) (by simp) (λb _ m=>by simp[Pl.blk]at m) (λp=>⟨_,bL _ _ _, .inr ⟨rfl,_,rfl⟩⟩) _ _ (λ_=>aH.2 ⟨_,_,_,bL _ _ _,rfl⟩)
 ·have a:0<l.length:=by rcases l with _|_;exact absurd rfl j;simp
  have n:=dv.length (λ_ _=>Rd.length) i;exact bJ.made hh c f (.inl g) i a (aC _) (by rw[←sX,n];exact aC _) (ba (aC _))
theorem mX(hh:dn F ρ w h)(O:ρ N= .un)(Q:0<W){t:TypeId}{len:Nat}{parts:List (Nat×V)}{b:List (Nat×Value)}(R:F2 (λ(p:Nat×V)(q:Nat×Value)=>p.1=q.1∧aS w (Av F ρ h) ρ p.2 q.2) parts b):
 dh P F ρ w h N W (Instr.buildSlice t len b.toArray) (Tr.ofOpt (kj P t len parts N)):=by
 refine .ofOpt λq f=>?_;unfold kj at f;split at f
 ·simp at f
 rename_i S E;split at f
 case h_2=>simp at f
 rename_i s g0 U e G j X;split at f
 case isFalse=>simp at f
 rename_i n;obtain⟨o,rfl,n,g⟩:=n;split at f
 case h_2=>simp at f
 rename_i l Y;split at f<;>simp at f;rename_i m hm;subst f;obtain⟨i,A,H,u,B⟩:=oK j;have C:A.cells.size=e.size:=by rw[pF w j H u,g]
 have hz:=dU (B w (Av F ρ h) ρ);have h2:¬(len*e.size>2^24):=by omega
 have v:∀c:Array Value,aK w (Av F ρ h) ρ (Kr len U) c.toList→
  (∀a,Instr.fill (λi=>some (i*e.size,e.size)) c b=some a→(Instr.buildSlice t len b.toArray).run P w= .ok (.slice (some ⟨w.heap.size,0,none⟩) len len) (w.alloc (.cells a S)))→
  ∃r J,(Instr.buildSlice t len b.toArray).run P w= .ok r J∧bJ F ρ w h N W (sc (.own N)) [(N,some (.sl e m))] r J:=by
  intro c D x;obtain⟨a,y,h4⟩:=qo D R Y;obtain⟨K,d2⟩:=ta hm h4;have L:=x a y;rw[←K]at L;rw[←K];exact⟨_,_,L,bJ.madeA hh O Q rfl d2 o⟩
 by_cases M:len*e.size=0
 ·have g:len=0:=by rcases Nat.mul_eq_zero.1 M with q|q;exact q;omega
  subst g;refine v #[] rfl λa y=>?_;have e0:∀(z:Array Value),Array.map (λi=>z[i % z.size]!) (Array.range 0)= #[]:=λz=>by simp
  simp only[Instr.buildSlice,bE,run_underlying (cJ E),aW,bV G,Nat.zero_mul,if_true,e0,y];simp[newRow]
 ·refine v ((Array.range (len*e.size)).map (λi=>A.cells[i % A.cells.size]!)) ?_ λa y=>?_
  ·have:=AI hz len;rw[←nV A.cells e.size C len]at this;simpa using this
  ·simp only[Instr.buildSlice,bE,run_underlying (cJ E),aW,bV G,h2,if_false,M,zeroValue,typeInfo,run_program,H,u,bt,y];simp[newRow]
def wl(P:Program)(t:TypeId)(x y:V)(N:Nat):Tr (V×dH):=
 match pE P t,uq x,uq y with
 |some b,some n,some c=>match jM P b,VE P b,zT P b,J3 P 8 b with
  |some s,some a,some (_,f),some e=>match sj e f with
   |some g=>if s=e.size∧0<s∧jY f=s∧1≤a then .need (0≤n.2∧n.2=c.2∧n.2*a≤281474976710656) (.leaf (sc (.own N),[(N,some (.sl e (ak n.2.toNat g)))]))else .stuck
   |none=> .stuck
  |_,_,_,_=> .stuck
 |_,_,_=> .stuck
theorem wm(hh:dn F ρ w h)(R:ρ N= .un)(S:0<W){t:TypeId}{x y:V}{v u:Value}(U:aS w (Av F ρ h) ρ x v)(X:aS w (Av F ρ h) ρ y u):
 dh P F ρ w h N W (Instr.makeSlice t v u) (wl P t x y N):=by
 unfold wl;split
 case h_2=>exact .stuck
 rename_i M n c Y hn hc;have:=jm hn U;subst this;have:=jm hc X;subst this;split
 case h_2=>exact .stuck
 rename_i s o g0 z0 e hs B p a0;split
 case h_2=>exact .stuck
 rename_i x0 C;split
 case isFalse=>exact .stuck
 rename_i D;obtain⟨rfl,q,E,a1⟩:=D;refine .need λhb=>?_;obtain⟨b1,b2,G⟩:=hb;obtain⟨i,l,H,r,J⟩:=oK p;have K:l.cells.size=e.size:=by rw[pF w p H r,E]
 obtain⟨i',f,L⟩:=uh hs;obtain⟨a2,a,z⟩:=ys B;rw[H]at f a;simp at f a;subst f a;have hz:Rd w (Av F ρ h) e x0 l.cells.toList:=ir C (dU (J w (Av F ρ h) ρ));obtain⟨m,O⟩:=cq b1;rw[←b2,O];rw[O]at G
 have Q:m≤281474976710656:=by
  have h9:((m*o:Nat):Int)≤281474976710656:=by rw[Int.natCast_mul];exact G
  have:=Nat.le_mul_of_pos_right m (show 0<o by omega);omega
 have b:=run_make (P:=P) w t M i l (cJ Y) H r .i64 .i64 (m:Int) (m:Int) (by omega) (cr _) (by rw[z,Int.mul_comm];exact G) (by omega);simp only[aG,L]at b
 have g:(madeCells l.cells (m*e.size)).toList=(ak m l.cells.toList).flatten:=by
  rw[←nV l.cells e.size K m];apply List.ext_getElem?;intro j;simp only[madeCells,Array.toList_map,List.getElem?_map];by_cases hj:j<m*e.size<;>simp[hj]
 have A:=uw hz m;rw[←g]at A;have:=bJ.madeA (W:=W) hh R S rfl A q (ty:=M);simp only[List.length_replicate,aG]at this⊢;exact .leaf b this
end
end
end Go.Hv
