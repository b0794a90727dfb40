/- A part of the proof of TopHiddenSaid: no conditions; packed by a program of our own. -/
import Derived.Test.YtgpideichgnmhaaGreatPhab
import Derived.Laws.Pointers
import Derived.Lib.AppendZerosOnto
import Derived.Laws.IdiomStrings
import Derived.Laws.Cover4
import Derived.Maps.RangeRun
import Derived.Lib.OthersKept
set_option linter.defProp false
set_option linter.unusedVariables false
set_option linter.unusedSimpArgs false
open Bool renaming eq_iff_iff→nr,and_eq_true→aK,false_eq_true→cz,true_and→lx
open Go.Builtin renaming append_→dq,firstCells→dt,zeroCells→bP,copy_→ib
open Go.Instr renaming sureAddr→tQ,sliceAt→ou,checkKey→gF
open Go.IntKind renaming wrap_i64→dK
open Go.Result renaming ok→pF,andThen_ok→aZ
open Go.Sem renaming run_pure→bD,run_bind→bJ
open Go.Value renaming int→gL,oneCell'→eg
open Go.World renaming size_alloc→eP
open Int renaming toNat_natCast→aG,eq_ofNat_of_zero_le→bo,le_refl→bp
open List renaming map_cons→aY,replicate→ax,length_append→aa,length_cons→bc,append_assoc→ay,drop_of_length_le→bu,nil_append→eO,take_of_length_le→bb,append_nil→aH,getElem?_take_of_lt→iY,getElem?_drop→ji,getElem?_append_left→bq,drop_drop→ko,take_append_drop→ej,length_take→bd,getElem?_take→pz,length→ah,range→fo,getElem?_eq_none→be,length_nil→dx,map_append→dL,length_map→cG,mem_map→fI,foldl_cons→nu,range'→mG
open Nat renaming min_eq_left→fh,add_comm→fq,le_refl→aE,le_trans→bE,zero_add→bT,zero_le→aq,add_assoc→fv,lt_or_ge→br,eq_zero_or_pos→dP
open Option renaming map_eq_some_iff→nt,isSome_iff_exists→cX
open Prod renaming ext→ga
open UInt8 renaming ofBitVec→iX
namespace Go.Hv
open Go.RowKit
variable{ts:Array TypeId}{g0 r:Bool}{n:Int}{A F:Nat->Prop}{ex ey:Operand}{e:Ty}{dst et j t t' ty:TypeId}{x y:V}{u v z:Value}{W0 w w':World}
section
def iO(w:World)(A:Nat->Prop)(e:Ty)(l:List e.den)(v:Value):Prop:=
 (∃b c cap f,v= .slice (some ⟨b,c,none⟩) l.length cap/\l.length<=cap/\dT (Rd w A e) l f/\∀i u,f[i]?=some u->w.cell? ⟨b,c+i,none⟩=some u)\/(l=[]/\∃a,v= .slice a 0 0)
theorem na.reads{l:List e.den}(h:na w A (Rd w A e) l v):iO w A e l v:=by
 rcases h with⟨a,b,cap,c,f,g,_,_,i,j⟩|h
 ·exact .inl ⟨a,b,cap,c,f,g,i,j⟩
 ·exact .inr h
theorem xB.reads{l:List e.den}(h:xB w A e l v):iO w A e l v:=by
 rcases h with⟨b,cap,cells,g,c,rfl,_,j,m,_,n,o⟩|h
 ·refine .inl ⟨b,0,cap,c,rfl,m,n,λi u a=>?_⟩;rw[bT,cell_of_row w b _ cells g (0,0) j]
  have f:i<c.length:=by
   rcases br i c.length with q|q
   ·exact q
   ·rw[be q]at a;simp at a
  rw[<-o,iY f]at a;simpa using a
 ·exact .inr h
def I.slice?(i:I)(get:Nat->Option Ch):Option (Σ e:Ty,List e.den):=
 match i with
 | .own q=>match get q with
   |some (.sl e l)=>some ⟨e,l⟩
   |some (.fr e l)=>some ⟨e,l⟩
   |_=>none
 | .sub q a n e=>match get q with
   |some (.cells l)=>match gu l a (n*e.size)with
    |some m=>match ud (.ar n e) m with
     |some x=>some ⟨e,x⟩
     |none=>none
    |none=>none
   |_=>none
 |i=>i.frozen? get
theorem gQ{ρ:Nat->Pl}{h get:Nat->Option Ch}{i:I}{q:Σ e:Ty,List e.den}(hh:dN F ρ w h)(r:∀k b,get k=some b->h k=some b)(hi:I.slice? i get=some q)(t:bh w (Av F ρ h) ρ i [v]):
 iO w (Av F ρ h) q.1 q.2 v:=by
 unfold I.slice? at hi;split at hi
 ·rename_i k;obtain⟨a,n,c,s,g⟩:=t;simp at g;subst g;split at hi<;>simp at hi
  ·rename_i e l j;subst hi;obtain⟨u,f,y⟩:=hh.ok _ _ (r _ _ j);rw[s]at f;simp at f;subst f;exact y.reads
  ·rename_i e l j;subst hi;obtain⟨u,f,y⟩:=hh.ok _ _ (r _ _ j);rw[s]at f;simp at f;subst f;exact na.reads y
 ·rename_i k p n e;obtain⟨b,s,g⟩:=t;simp at g;subst g;split at hi
  case h_2=>simp at hi
  rename_i l j;split at hi
  case h_2=>simp at hi
  rename_i m C;split at hi<;>simp at hi;rename_i x D;subst hi;obtain⟨L,E,M,z,G,H⟩:=hh.ok _ _ (r _ _ j);rw[s]at z;simp at z;subst z;obtain⟨O,J⟩:=ig H C;obtain⟨B,K⟩:=jj D J;refine .inl ⟨b,p,n,_,by rw[B],Nat.le_of_eq B,K,λi u A=>?_⟩;have:=jN (vs:=E.toList) (off:=p) (n:=n*e.size) (w:=w) (blk:=b) (o:=0) (by simpa using oC G) i u A;simpa using this
 ·exact na.reads (kz hh r hi t)
theorem iO.len{l:List e.den}(h:iO w A e l v):∃a c,v= .slice a l.length c:=by
 rcases h with⟨b,f,cap,g,rfl,_⟩|⟨rfl,a,rfl⟩
 ·exact⟨_,_,rfl⟩
 ·exact⟨_,_,rfl⟩
theorem iO.load{P:Program}{l:List e.den}(h:iO w A e l v):
 ∃cs,dT (Rd w A e) l cs/\((∃blk off cap,v= .slice (some ⟨blk,off,none⟩) l.length cap/\l.length<=cap/\(loadCells ⟨blk,off,none⟩ cs.length).run P w= .ok cs.toArray w/\∀i u,cs[i]?=some u->w.cell? ⟨blk,off+i,none⟩=some u)\/(l=[]/\cs=[]/\∃a,v= .slice a 0 0)):=by
 rcases h with⟨blk,off,cap,cs,b,f,g,c⟩|⟨rfl,a,b⟩
 ·exact⟨cs,g, .inl ⟨blk,off,cap,b,f,jl w blk off cs c,c⟩⟩
 ·exact⟨[],rfl, .inr ⟨rfl,rfl,a,b⟩⟩
section
variable{P:Program}{F:Nat->Prop}{ρ:Nat->Pl}{w:World}{h get:Nat->Option Ch}{N W:Nat}
def PH(n:Int):V:=sc (.k (.i64 n))
def pJ(n:Int):V:=sc (.d .i64 n)
def J3(P:Program)(t:TypeId)(x:V)(get:Nat->Option Ch):Option V:=
 match qY P t with
 |some _=>match x.one? with
  |some .nils=>some (PH 0)
  |some i=>match i.slice? get with
   |some q=>some (pJ (q.2.length:Int))
   |none=>none
  |none=>none
 |none=>
  if DF P t then match x.one? with
   |some (.k (.str s))=>some (PH (s.length:Int))
   |some (.d .st (s:List (BitVec 8)))=>some (pJ (s.length:Int))
   |_=>none
  else match P.underlying t with
   |some (.map _ _)=>match x.one? with
    |some (.mp k)=>match get k with
     |some (.mp _ _ l)=>some (pJ (l.length:Int))
     |some (.lk _ _ l)=>some (pJ (l.length:Int))
     |_=>none
    |some (.fmp _ _ l)=>some (pJ (l.length:Int))
    |_=>none
   |_=>none
theorem Ad(hh:dN F ρ w h)(A:∀k b,get k=some b->h k=some b)(r:aT w (Av F ρ h) ρ x v):dG P F ρ w h N W (Builtin.len_ #[t] ty #[v]) (Tr.ofOpt ((J3 P t x get).map (·,[]))):=by
 refine .ofOpt λq u=>?_;cases f:J3 P t x get with
 |none=>simp[f]at u
 |some y=>
  simp[f]at u;subst u;unfold J3 at f;split at f
  ·rename_i e H;split at f
   ·rename_i m;simp at f;subst f;have n:=aQ m r;simp[bh]at n;subst n;exact⟨.int .i64 0,w,by simp[Builtin.len_,run_underlying (dh H),goInt],bQ.pure hh (aM.2 rfl)⟩
   ·rename_i i _ m;split at f<;>simp at f;rename_i q u;subst f;obtain⟨a,c,rfl⟩:=(gQ hh A u (aQ m r)).len;exact⟨.int .i64 q.2.length,w,by simp[Builtin.len_,run_underlying (dh H),goInt],bQ.pure hh (aM.2 rfl)⟩
   ·simp at f
  ·split at f
   ·rename_i J;have go:∀s:List (BitVec 8),(bM s).size=s.length:=λs=>by simp[bM,ByteArray.size]
    split at f
    case h_3=>simp at f
    ·rename_i s m;simp at f;subst f;have n:=aQ m r;simp[bh,Sc.val]at n;subst n;exact⟨.int .i64 s.length,w,by simp[Builtin.len_,run_underlying (hC J),goInt,go],bQ.pure hh (aM.2 rfl)⟩
    ·rename_i s m;simp at f;subst f;have n:=aQ m r;simp[bh,Rd]at n;subst n;exact⟨.int .i64 s.length,w,by simp[Builtin.len_,run_underlying (hC J),goInt,go],bQ.pure hh (aM.2 rfl)⟩
   ·split at f
    case h_2=>simp at f
    rename_i Q R K;split at f
    case h_3=>simp at f
    case h_2=>
     rename_i g j l m;obtain⟨b,z,_,_,M⟩:=aQ m r;simp at z f;subst z;subst f;obtain⟨B,clock,C,D,_⟩:=M;have o:(getObj b).run P w= .ok (.map B clock) w:=by simp[getObj,Sem.run,C]
     exact⟨.int .i64 l.length,w,by simp[Builtin.len_,run_underlying K,goInt,o,D.length],bQ.pure hh (aM.2 rfl)⟩
    rename_i k m;obtain⟨b,L,z⟩:=aQ m r;simp at z;subst z
    have go:∀{g j:Ty}{l:List (g.den×j.den)},nz w (Av F ρ h) g j l b->(Builtin.len_ #[t] ty #[.map (some b)]).run P w= .ok (.int .i64 l.length) w:=by
     rintro g j l ⟨B,clock,C,D,_⟩;have o:(getObj b).run P w= .ok (.map B clock) w:=by simp[getObj,Sem.run,C]
     simp[Builtin.len_,run_underlying K,goInt,o,D.length]
    split at f<;>simp at f
    ·rename_i g j l E;subst f;obtain⟨O,p,G⟩:=hh.ok _ _ (A _ _ E);rw[L]at p;simp at p;subst p;exact⟨.int .i64 l.length,w,go G,bQ.pure hh (aM.2 rfl)⟩
    ·rename_i g j l E;subst f;obtain⟨O,p,G⟩:=hh.ok _ _ (A _ _ E);rw[L]at p;simp at p;subst p;exact⟨.int .i64 l.length,w,go G,bQ.pure hh (aM.2 rfl)⟩
def vM:V->Option (Bool×Int)
 | .val false [.k (.i64 n)]=>some (true,n)
 | .val false [.d .i64 n]=>some (false,n)
 |_=>none
theorem kD{q:Bool×Int}(a:vM x=some q)(b:aT w A ρ x v):v= .int .i64 q.2:=by
 unfold vM at a;split at a<;>simp at a<;>subst a
 ·have:=aM.1 b;simpa[bh,Sc.val]using this
 ·have:=aM.1 b;simpa[bh,Rd]using this
def PI(k:Bool)(n:Int):V:=if k then PH n else pJ n
theorem BS:aT w A ρ (PI r n) (.int .i64 n):=by
 cases r
 ·exact aM.2 rfl
 ·exact aM.2 rfl
def PJ(x y:V):Option V:=match vM x,vM y with
 |some a,some b=>some (PI (a.1&&b.1) (max a.2 b.2))
 |_,_=>none
def PK(x y:V):Option V:=match vM x,vM y with
 |some a,some b=>some (PI (a.1&&b.1) (min a.2 b.2))
 |_,_=>none
theorem Ae(hh:dN F ρ w h)(e:aT w (Av F ρ h) ρ x v)(f:aT w (Av F ρ h) ρ y u):dG P F ρ w h N W (Builtin.max_ ts ty #[v,u]) (Tr.ofOpt ((PJ x y).map (·,[]))):=by
 refine .ofOpt λq c=>?_;unfold PJ at c;split at c<;>simp at c;rename_i a b g i;subst c;have j:=kD g e;have l:=kD i f;subst j l;refine⟨.int .i64 (max a.2 b.2),w,?_,bQ.pure hh BS⟩;have:max a.2 b.2=if b.2>a.2 then b.2 else a.2:=by split<;>omega
 rw[this];simp[Builtin.max_,Builtin.max2]
theorem Af(hh:dN F ρ w h)(e:aT w (Av F ρ h) ρ x v)(f:aT w (Av F ρ h) ρ y u):dG P F ρ w h N W (Builtin.min_ ts ty #[v,u]) (Tr.ofOpt ((PK x y).map (·,[]))):=by
 refine .ofOpt λq c=>?_;unfold PK at c;split at c<;>simp at c;rename_i a b g i;subst c;have j:=kD g e;have l:=kD i f;subst j l;refine⟨.int .i64 (min a.2 b.2),w,?_,bQ.pure hh BS⟩;have:min a.2 b.2=if b.2<a.2 then b.2 else a.2:=by split<;>omega
 rw[this];simp[Builtin.min_,Builtin.min2]
def I.sc?:I->Option (Bool×Sc)
 | .k s=>some (true,s)
 | .d .bl x=>some (false, .bool x)
 | .d .i64 x=>some (false, .i64 x)
 | .d .i32 x=>some (false, .i32 x)
 | .d .u8 x=>some (false, .u8 x)
 | .d .u64 x=>some (false, .u64 x)
 | .d .st x=>some (false, .str x)
 |_=>none
def Sc.item:Sc->I
 | .bool x=> .d .bl x
 | .i64 x=> .d .i64 x
 | .i32 x=> .d .i32 x
 | .u8 x=> .d .u8 x
 | .u64 x=> .d .u64 x
 | .str x=> .d .st x
def TY(k:Bool)(s:Sc):V:=if k then sc (.k s)else sc s.item
theorem vN{k:Bool}{s:Sc}:aT w A ρ (TY k s) s.val:=by
 cases k
 ·refine aM.2 ?_;cases s<;>rfl
 ·exact aM.2 rfl
theorem nM{i:I}{q:Bool×Sc}(a:i.sc?=some q)(b:bh w A ρ i [v]):v=q.2.val:=by
 unfold I.sc? at a;split at a<;>simp at a<;>subst a<;>simpa[bh,Rd,Sc.val]using b
def am(n:Int):Prop:= -9223372036854775808<=n/\n<9223372036854775808
theorem cv(h:am n:=by unfold am;omega):am n:=h
theorem am.wrap(h:am n):IntKind.i64.wrap n=n:=by
 unfold am at h;rw[dK];omega
def rP(P:Program)(op:BinOp)(t:TypeId)(x y:Bool×Sc):Option (List Prop×V):=
 match x,y with
 |(false, .i64 a),(ky, .i64 b)=>arith a b ky false
 |(true, .i64 a),(false, .i64 b)=>arith a b false true
 |_,_=>plain x y
where
 plain (x y:Bool×Sc):Option (List Prop×V):=
  match Fb P op t x.2 y.2 with
  |some (c,z)=>if y.1 then(if c then some ([],TY x.1 z)else none)else some (if iv op then[c=true]else[],TY false z)
  |none=>none
 arith (a b:Int) (ky kx:Bool):Option (List Prop×V):=
  match op with
  | .add=>some ([am (a+b)],pJ (a+b))
  | .sub=>some ([am (a-b)],pJ (a-b))
  | .mul=>some ([am (a*b)],pJ (a*b))
  |_=>plain (kx, .i64 a) (ky, .i64 b)
theorem DH{P:Program}{a:BinOp}{x y:Sc}{z:Sc}(h:Fb P a t x y=some (r,z))(b:iv a=false):r=true:=by
 unfold Fb at h;simp only[b,cz,if_false]at h
 have one:∀{o:Option Sc},(o.map λz=>(true,z))=some (r,z)->r=true:=by
  intro o e;obtain⟨_,_,q⟩:=nt.1 e;simp at q;exact q.1
 split at h
 ·exact one h
 ·exact one h
 ·exact one h
 ·exact one h
 ·split at h<;>simp at h<;>exact h.1
 ·split at h<;>simp at h<;>exact h.1
 ·simp at h
theorem xH{e:BinOp}{x y:Bool×Sc}{q:List Prop×V}(g:rP P e t x y=some q)(j:∀p∈q.1,p)(A:Nat->Prop):
 ∃r,(do eqGuard e t ex ey x.2.val y.2.val;binOp e t x.2.val y.2.val:Sem Value).run P w= .ok r w/\aT w A ρ q.2 r:=by
 have plain:∀{x y:Bool×Sc},rP.plain P e t x y=some q->∃r,(do eqGuard e t ex ey x.2.val y.2.val;binOp e t x.2.val y.2.val:Sem Value).run P w= .ok r w/\aT w A ρ q.2 r:=by
  intro x y h;unfold rP.plain at h;split at h
  case h_2=>simp at h
  rename_i c z l;split at h
  ·split at h
   case isFalse=>simp at h
   rename_i m;simp at h;subst h;exact⟨_,rF w e t ex ey _ _ _ c l m,vN⟩
  ·simp only[Option.some.injEq]at h;subst h
   have m:c=true:=by
    cases i:iv e
    ·exact DH l i
    ·exact j (c=true) (by simp[i])
   exact⟨_,rF w e t ex ey _ _ _ c l m,vN (k:=false)⟩
 have f:∀{a b:Int}{o s:Bool},rP.arith P e t a b o s=some q->∃r,(do eqGuard e t ex ey (.int .i64 a) (.int .i64 b);binOp e t (.int .i64 a) (.int .i64 b):Sem Value).run P w= .ok r w/\aT w A ρ q.2 r:=by
  intro a b o s h;unfold rP.arith at h;have u:eqGuard e t ex ey (.int .i64 a) (.int .i64 b)=pure ():=ny rfl _ _ _ _
  have num:∀{n:Int},am n->(binOp e t (.int .i64 a) (.int .i64 b)).run P w= .ok (.int .i64 (IntKind.i64.wrap n)) w->∃r,(do eqGuard e t ex ey (.int .i64 a) (.int .i64 b);binOp e t (.int .i64 a) (.int .i64 b):Sem Value).run P w= .ok r w/\aT w A ρ (pJ n) r:=by
   intro n v B;refine⟨.int .i64 n,?_,aM.2 rfl⟩;rw[u,v.wrap]at*;simpa using B
  split at h
  ·simp at h;subst h;exact num (j _ bY) (by rw[binOp_add];rfl)
  ·simp at h;subst h;exact num (j _ bY) (by rw[binOp_sub];rfl)
  ·simp at h;subst h;exact num (j _ bY) (by rw[binOp_mul];rfl)
  ·exact plain h
 unfold rP at g;split at g
 ·exact f g
 ·exact f g
 ·exact plain g
def pK(P:Program)(t:TypeId):Bool:=match P.underlying t with
 |some (.pointer _)=>true
 |_=>false
def J4(P:Program)(t:TypeId):Bool:=match P.underlying t with
 |some (.map _ _)=>true
 |_=>false
def qp(P:Program)(op:BinOp)(t:TypeId)(x y:I):Option V:=
 match x,y with
 | .nilp, .nilp=>if pK P t then told true else none
 | .ptr .., .nilp=>if pK P t then told false else none
 | .pv .., .nilp=>if pK P t then told false else none
 | .nilm, .nilm=>if J4 P t then told true else none
 | .mp _, .nilm=>if J4 P t then told false else none
 |_,_=>none
where
 told (b:Bool):Option V:=match op with
  | .eql=>some (sc (.k (.bool b)))
  | .neq=>some (sc (.k (.bool (!b))))
  |_=>none
theorem xI{g:BinOp}{x y:I}{z:V}(a:qp P g t x y=some z)(c:bh w A ρ x [v])(f:bh w A ρ y [u]):
 ∃r,(do eqGuard g t ex ey v u;binOp g t v u:Sem Value).run P w= .ok r w/\aT w A ρ z r:=by
 have ptr:∀{p:Option Addr}{b:Bool},pK P t=true->p.isNone=b->qp.told g b=some z->∃r,(do eqGuard g t ex ey (.pointer p) (.pointer none);binOp g t (.pointer p) (.pointer none):Sem Value).run P w= .ok r w/\aT w A ρ z r:=by
  intro p b j l i
  have m:P.underlying t=some (.pointer (P.pointee t)):=by
   unfold pK at j;split at j
   ·rename_i e q;simp[Program.pointee,q]
   ·simp at j
  unfold qp.told at i;split at i<;>simp at i<;>subst i
  ·refine⟨_,?_,aM.2 rfl⟩;rw[eqGuard_at_pointer];simp[run_eql_pointer_nil w t p m,l,Sc.val]
  ·refine⟨_,?_,aM.2 rfl⟩;rw[eqGuard_at_pointer];simp[run_neq_pointer_nil w t p m,l,Sc.val]
 have mp:∀{p:Option Nat}{b:Bool},J4 P t=true->p.isNone=b->qp.told g b=some z->∃r,(do eqGuard g t ex ey (.map p) (.map none);binOp g t (.map p) (.map none):Sem Value).run P w= .ok r w/\aT w A ρ z r:=by
  intro p b j l i
  obtain⟨n,o,m⟩:∃n o,P.underlying t=some (.map n o):=by
   unfold J4 at j;split at j
   ·exact⟨_,_,‹_›⟩
   ·simp at j
  unfold qp.told at i;split at i<;>simp at i<;>subst i
  ·refine⟨_,?_,aM.2 rfl⟩;rw[eqGuard_at_map];simp[binOp,run_equal_map_nil w t n o p m,l,Sc.val]
  ·refine⟨_,?_,aM.2 rfl⟩;rw[eqGuard_at_map];simp[run_neq_map_nil w t n o p m,l,Sc.val]
 unfold qp at a;split at a
 ·split at a<;>first|(simp at a;done)|skip
  simp[bh]at c f;subst c f;exact ptr ‹_› rfl a
 ·split at a<;>first|(simp at a;done)|skip
  obtain⟨_,⟨b,_,rfl⟩,c⟩:=c;simp[bh]at c f;subst c f;exact ptr ‹_› rfl a
 ·split at a<;>first|(simp at a;done)|skip
  obtain⟨b,s,B,c,_⟩:=c;simp[bh]at c f;subst c f;exact ptr ‹_› rfl a
 ·split at a<;>first|(simp at a;done)|skip
  simp[bh]at c f;subst c f;exact mp ‹_› rfl a
 ·split at a<;>first|(simp at a;done)|skip
  obtain⟨b,_,c⟩:=c;simp[bh]at c f;subst c f;exact mp ‹_› rfl a
 ·simp at a
end
end
variable{cs news olds vs xs:List Value}{cap d k p sl:Nat}{C hi lo mx:Option V}{B H O Q g o:Option Value}{α:Type}
section
section
variable{P:Program}{F:Nat->Prop}{ρ:Nat->Pl}{w:World}{h get:Nat->Option Ch}{N W:Nat}
theorem pL(hh:dN F ρ w h){l:List e.den}(z:h k=some (.sl e l)):dN F ρ w (dg h k (some (.fr e l)))/\Mv ρ w h ρ w (dg h k (some (.fr e l))):=by
 refine hh.step (λj=>j=k) (eA.refl ρ) (aE _) rfl rfl rfl (λj a=>bI _ _ _ a) (λ_ _ _=>rfl) (λj c b a g C=>?_) (λj j' c o b a D _ _ _ _ _ _=>a.trans D.symm) (λj m S U p r a s=>?_) (λj c a g X=>?_)
 ·subst a;rw[bK]at g;simp at g;subst g;simp[Ch.own]at C
 ·by_cases n:j=k
  ·subst n;rw[bK]at a;simp at a
  ·rw[bI _ _ _ n]at a;rcases s with s|s
   ·exact absurd s n
   ·obtain⟨l',J⟩:=hh.it j m S U p r a;rw[s,z]at J;simp at J
 ·subst a;rw[bK]at g;simp at g;subst g;obtain⟨v,K,Y⟩:=hh.ok j _ z;refine⟨v,K,?_⟩;rcases Y with⟨b,cap,cells,L,A,rfl,h3,M,O,h6,Q,R⟩|q
  ·obtain⟨o,rfl⟩:∃o,cap=o+1:=⟨cap-1,ac⟩;have f:(ρ j).blk=some b:=by rw[K];rfl
   have t:=hh.fr j _ b z rfl f;have hr:=iO.load (P:=default) (xB.reads (w:=w) (.inl ⟨b,o+1,cells,L,A,rfl,h3,M,O,h6,Q,R⟩));refine .inl ⟨b,0,o+1,A,rfl,O,t.1,λE=>?_,Q.imp (λ_ _=>Rd.evo X.evo),λi u B=>?_⟩
   ·rcases E with E|⟨q,c,x,y,G⟩
    ·exact t.2 E
    ·by_cases n:q=j
     ·subst n;rw[bK]at x;simp at x;subst x;simp[Ch.own]at y
     ·rw[bI _ _ _ n]at x;exact n (hh.inj q j c _ b x z y rfl G f)
   ·rw[bT,cell_of_row w b _ cells L (0,0) M]
    have H:i<A.length:=by
     rcases br i A.length with q|q
     ·exact q
     ·rw[be q]at B;simp at B
    rw[<-R,iY H]at B;simpa using B
  ·exact .inr q
def lE(x:Option V)(d:Int):Option Int:=match x with
 |none=>some d
 |some v=>v.int?
theorem gh(a:Bool)(len cap l m c:Nat)(lo hi e:Option Value)
 (g:(lo=none/\l=0)\/∃k,lo=some (.int k (l:Int))) (j:(hi=none/\m=len)\/∃k,hi=some (.int k (m:Int)))
 (p:(e=none/\c=cap)\/((∃k,e=some (.int k (c:Int)))/\hi≠none)) (n:l<=m) (o:m<=c) (q:c<=cap):
 (Instr.sliceBounds a len cap lo hi e).run P w= .ok (l,m,c) w:=by
 have b:∀(k:IntKind)(i y:Nat)(code:BoundsCode),i<=y->(Instr.sliceBound (.int k (i:Int)) y code).run P w= .ok i w:=λk i y code h=>by
  rw[run_sliceBound w k i y code ac ac];simp
 rcases p with⟨rfl,rfl⟩|⟨⟨t,rfl⟩,f⟩
 ·rcases j with⟨rfl,rfl⟩|⟨r,rfl⟩<;>rcases g with⟨rfl,rfl⟩|⟨s,rfl⟩<;>simp[Instr.sliceBounds,b _ _ _ _ n,b _ _ _ _ o]
 ·rcases j with⟨rfl,rfl⟩|⟨r,rfl⟩
  ·exact absurd rfl f
  ·rcases g with⟨rfl,rfl⟩|⟨s,rfl⟩<;>simp[Instr.sliceBounds,b _ _ _ _ n,b _ _ _ _ o,b _ _ _ _ q]
def nN(w:World)(A:Nat->Prop)(ρ:Nat->Pl)(x:Option V)(v:Option Value):Prop:=match x,v with|none,none=>True|some a,some b=>aT w A ρ a b|_,_=>False
theorem vO{d:Int}(h:lE C d=some n)(c:nN w A ρ C g):(g=none/\n=d)\/∃k,g=some (.int k n):=by
 cases C with
 |none=>cases g with
  |none=>simp[lE]at h;exact .inl ⟨rfl,h.symm⟩
  |some b=>exact c.elim
 |some a=>cases g with
  |none=>exact c.elim
  |some b=>obtain⟨k,rfl⟩:=kw h c;exact .inr ⟨k,rfl⟩
def vP{α:Type}(l:List α)(lo hi:Option V)(a b:Int):List α:=
 match lo,hi with
 |none,none=>l
 |none,some _=>l.take b.toNat
 |some _,none=>l.drop a.toNat
 |some _,some _=>(l.drop a.toNat).take (b.toNat-a.toNat)
def kE(P:Program)(t:TypeId)(x:V)(lo hi mx:Option V)(get:Nat->Option Ch)(N:Nat):Tr (V×eD):=
 match x.one? with
 |some (.ptr k off)=>match DE P t,lo,hi,mx,get k with
  |some (n,et),none,none,none,some (.cells _)=>match JD P 8 et,ll P et with
   |some e,some s=>if s=e.size/\0<n then .leaf (sc (.sub k off n e),[])else .stuck
   |_,_=> .stuck
  |some (n,et),none,none,none,some (.fc l)=>match JD P 8 et,ll P et with
   |some e,some s=>if s=e.size/\0<n then(match gu l off (n*e.size)with
    |some m=>match ud (.ar n e) m with
     |some y=> .leaf (sc (.d (.sl e) y),[])
     |none=> .stuck
    |none=> .stuck)else .stuck
   |_,_=> .stuck
  |_,_,_,_,_=> .stuck
 |some (.pv (.pr (.ar n e) _) y)=>match DE P t,lo,hi,mx with
  |some (n',et),none,none,none=>match ll P et with
   |some s=>if s=e.size/\n'=n/\0<n then .leaf (sc (.d (.sl e) y.1),[])else .stuck
   |none=> .stuck
  |_,_,_,_=> .stuck
 |some (.own k)=>match get k,mx,lE lo 0,qY P t with
  |some (.sl e l),none,some a,some et=>match lE hi (l.length:Int),ll P et,lo with
   |some b,some s,none=>if s=e.size then .need (a=0/\0<=b/\b<=l.length) (.leaf (sc (.own N),[(k,none),(N,some (.sl e (vP l lo hi a b)))]))else .stuck
   |_,_,_=> .stuck
  |some (.sl e l),some m,some a,some et=>match lE hi (l.length:Int),ll P et,m.int? with
   |some b,some s,some c=>if s=e.size/\hi.isSome then .need (0<=a/\a<=b/\b=c/\b<=l.length) (.leaf (sc (.cut e (vP l lo hi a b)),[(k,some (.fr e l))]))else .stuck
   |_,_,_=> .stuck
  |some (.fr e l),mx,some a,some et=>cut e l a et (lE hi (l.length:Int)) mx
  |_,_,_,_=> .stuck
 |some it=>match it.frozen? get,lE lo 0,qY P t with
  |some q,some a,some et=>cut q.1 q.2 a et (lE hi (q.2.length:Int)) mx
  |_,_,_=> .stuck
 |none=> .stuck
where
 cut (e:Ty) (l:List e.den) (a:Int) (et:TypeId) (b:Option Int) (mx:Option V):Tr (V×eD):=
  match b,ll P et,mx with
  |some b,some s,none=>if s=e.size then .need (0<=a/\a<=b/\b<=l.length) (.leaf (sc (.d (.sl e) (vP l lo hi a b)),[]))else .stuck
  |some b,some s,some m=>match m.int? with
   |some c=>if s=e.size/\hi.isSome then .need (0<=a/\a<=b/\b=c/\b<=l.length) (.leaf (sc (.cut e (vP l lo hi a b)),[]))else .stuck
   |none=> .stuck
  |_,_,_=> .stuck
theorem BT{l:List α}{b:Int}(j:nN w A ρ lo g)(hh:nN w A ρ hi o)(c:lE lo 0=some n)(f:lE hi (l.length:Int)=some b)(m:0<=n/\n<=b/\b<=l.length):
 vP l lo hi n b=(l.drop n.toNat).take (b.toNat-n.toNat)/\(vP l lo hi n b).length=b.toNat-n.toNat:=by
 have e:vP l lo hi n b=(l.drop n.toNat).take (b.toNat-n.toNat):=by
  unfold vP;split
  ·simp[lE]at c f;subst c f;simp
  ·simp[lE]at c;subst c;simp
  ·simp[lE]at f;subst f;rw[bb];simp
  ·rfl
 refine⟨e,?_⟩;rw[e];simp;omega
theorem dT.drop_take{R:α->List Value->Prop}(f:∀x vs,R x vs->vs.length=k){l:List α}(h:dT R l vs)(i m:Nat)(p:i+m<=l.length):dT R ((l.drop i).take m) ((vs.drop (i*k)).take (m*k)):=by
 have q:l=l.take i++((l.drop i).take m++(l.drop i).drop m):=by rw[ej,ej]
 rw[q]at h;obtain⟨a,b,e,r,s⟩:=dT.split h;obtain⟨c,d,t,g,y⟩:=dT.split s;have j:=dT.length f r;have o:=dT.length f g;have u:(l.take i).length=i:=eM
 have v:((l.drop i).take m).length=m:=eM
 rw[u]at j;rw[v]at o;rw[e,t,<-j,List.drop_left,<-o,List.take_left];exact g
theorem pM{l:List e.den}{f:Option Value}{a b:Int}(y:qY P t=some et)(hs:ll P et=some e.size)
 (hv:na w (Av F ρ h) (Rd w (Av F ρ h) e) l v) (hl:nN w (Av F ρ h) ρ lo f) (z:nN w (Av F ρ h) ρ hi g) (A:nN w (Av F ρ h) ρ C o)
 (h1:lE lo 0=some a) (h2:lE hi (l.length:Int)=some b) (K:0<=a/\a<=b/\b<=l.length) (hm:C=none\/(∃m,C=some m/\m.int?=some b/\hi.isSome=true)):
 ∃r,(ou t v f g o).run P w= .ok r w/\na w (Av F ρ h) (Rd w (Av F ρ h) e) (vP l lo hi a b) r/\(C.isSome=true->∃x n,r= .slice x n n):=by
 obtain⟨O,L⟩:=BT hl z h1 h2 K;obtain⟨i,rfl⟩:=bo K.1;obtain⟨j,rfl⟩:=bo (Int.le_trans K.1 K.2.1);simp only[aG]at O L;have B:i<=j/\j<=l.length:=ac
 have q1:=vO h1 hl;have q2:=vO h2 z;have p:(ou t v f g o).run P w=(Instr.slice t v f g o).run P w:=by simp[ou,run_underlying (dh y)]
 have D:∀(s:Option Addr)(cap:Nat),v= .slice s l.length cap->l.length<=cap->∃c,j<=c/\c<=cap/\(C.isSome=true->c=j)/\(Instr.sliceBounds true l.length cap f g o).run P w= .ok (i,j,c) w:=by
  intro s cap _ a0
  have r1:(f=none/\i=0)\/∃k,f=some (.int k (i:Int)):=by
   rcases q1 with⟨Q,p2⟩|q
   ·exact .inl ⟨Q,ac⟩
   ·exact .inr q
  have r2:(g=none/\j=l.length)\/∃k,g=some (.int k (j:Int)):=by
   rcases q2 with⟨Q,p2⟩|q
   ·exact .inl ⟨Q,ac⟩
   ·exact .inr q
  rcases hm with rfl|⟨m,rfl,R,S⟩
  ·have U:o=none:=by cases o<;>first|rfl|exact A.elim
   subst U;exact⟨cap,ac,aE _,bY,gh true l.length cap i j cap f g none r1 r2 (.inl ⟨rfl,rfl⟩) B.1 ac (aE _)⟩
  ·cases o with
   |none=>exact A.elim
   |some u=>
    obtain⟨km,rfl⟩:=kw R A;refine⟨j,aE _,ac,λ_=>rfl,gh true l.length cap i j j f g _ r1 r2 (.inr ⟨⟨km,rfl⟩,?_⟩) B.1 (aE _) ac⟩;rintro rfl;cases hi with
    |none=>simp at S
    |some _=>exact z.elim
 rcases hv with⟨E,G,cap,cs,rfl,e2,e3,e4,e5,e6⟩|⟨rfl,X,rfl⟩
 ·obtain⟨c,k1,k2,k3,M⟩:=D _ cap rfl e2;refine⟨_,by rw[p];simp[Instr.slice,run_underlying (dh y),M,cg hs];rfl,?_,?_⟩
  ·by_cases H:c=i
   ·right;have J:j-i=0:=ac
    refine⟨List.eq_nil_of_length_eq_zero (by rw[L];exact J),some ⟨E,G,none⟩,?_⟩;rw[ak H,J,show c-i=0 by omega]
   ·left;refine⟨E,G+i*e.size,c-i,(cs.drop (i*e.size)).take ((j-i)*e.size),?_,by rw[L];omega,e3,e4,?_,jN e6⟩
    ·rw[ae H,L];simp[cC]
    ·rw[O];exact dT.drop_take (λ_ _=>Rd.length) e5 i (j-i) ac
  ·intro Y;have:=k3 Y;subst this;split<;>exact⟨_,_,rfl⟩
 ·simp only[dx]at B;obtain rfl:i=0:=ac
  obtain rfl:j=0:=ac
  obtain⟨c,k1,k2,k3,M⟩:=D X 0 rfl (aE _);obtain rfl:c=0:=ac
  simp only[dx]at M;refine⟨.slice X 0 0,by rw[p];simp[Instr.slice,run_underlying (dh y),M,cg hs], .inr ⟨by rw[O];simp,X,rfl⟩,λ_=>⟨_,_,rfl⟩⟩
theorem rQ{l:List e.den}{a:Int}(hh:dN F ρ w h)(j:qY P t=some et)
 (C:na w (Av F ρ h) (Rd w (Av F ρ h) e) l v) (D:nN w (Av F ρ h) ρ lo O) (n:nN w (Av F ρ h) ρ hi Q) (o:nN w (Av F ρ h) ρ mx B) (E:lE lo 0=some a):
 dG P F ρ w h N W (ou t v O Q B) (kE.cut P lo hi e l a et (lE hi (l.length:Int)) mx):=by
 unfold kE.cut;split
 ·rename_i b s p q;split
  case isFalse=>exact .stuck
  rename_i f;subst f;refine .need λg=>?_;obtain⟨r,u,x,_⟩:=pM (h:=h) j q C D n o E p g (.inl rfl);exact .pure hh u (aM.2 ⟨r,rfl,x⟩)
 ·rename_i b s m p q;split
  case h_2=>exact .stuck
  rename_i c G;split
  case isFalse=>exact .stuck
  rename_i f;obtain⟨rfl,i⟩:=f;refine .need λg=>?_;obtain⟨H,J,K,L⟩:=g;subst K;obtain⟨r,u,x,M⟩:=pM (h:=h) j q C D n o E p ⟨H,J,L⟩ (.inr ⟨m,rfl,G,i⟩);exact .pure hh u (aM.2 ⟨r,rfl,x,M rfl⟩)
 ·exact .stuck
theorem vQ(hh:dN F ρ w h)(hg:∀k b,get k=some b->h k=some b)(hN:ρ N= .un)(hW:0<W)
 (hx:aT w (Av F ρ h) ρ x v) (S:nN w (Av F ρ h) ρ lo O) (z:nN w (Av F ρ h) ρ hi H) (C:nN w (Av F ρ h) ρ mx Q):
 dG P F ρ w h N W (ou t v O H Q) (kE P t x lo hi mx get N):=by
 unfold kE;split
 ·rename_i k D hp;obtain⟨_,⟨b,U,rfl⟩,X⟩:=aQ hp hx;simp at X;subst X;simp only at U;split
  case h_3=>exact .stuck
  case h_2=>
   rename_i n et l A Y;split
   case h_2=>exact .stuck
   rename_i e s a7 R;split
   case isFalse=>exact .stuck
   rename_i hc;obtain⟨rfl,hn⟩:=hc;split
   case h_2=>exact .stuck
   rename_i m hm;split
   case h_2=>exact .stuck
   rename_i y hy;have E:O=none:=by cases O<;>first|rfl|exact S.elim
   have K:H=none:=by cases H<;>first|rfl|exact z.elim
   have G:Q=none:=by cases Q<;>first|rfl|exact C.elim
   subst E K G;have f:=gh (P:=P) (w:=w) false n n 0 n n none none none (.inl ⟨rfl,rfl⟩) (.inl ⟨rfl,rfl⟩) (.inl ⟨rfl,rfl⟩) (aq _) (aE _) (aE _);obtain⟨b',us,B,e2,e3,e4,e5⟩:=hh.ok k _ (hg k _ Y);rw[U]at B;simp at B;subst B;obtain⟨_,g2⟩:=ig e4 hm;obtain⟨g3,g4⟩:=jj hy g2;have L:n≠0:=ac
   refine .pure (r:= .slice (some ⟨b,D,none⟩) n n) hh ?_ (aM.2 ⟨_,rfl, .inl ⟨b,D,n,_,by rw[g3],Nat.le_of_eq g3,e2,e3,g4,λi u hi=>?_⟩⟩)
   ·simp[ou,run_underlying (mI A),tQ,f,cg R,L,cC]
   ·have:=jN (o:=0) (off:=D) (n:=n*e.size) (vs:=us) (w:=w) (blk:=b) (λi v hi=>by rw[bT];exact e5 i v hi) i u hi
    rwa [bT]at this
  rename_i n et l A Y;split
  case h_2=>exact .stuck
  rename_i e s a7 R;split
  case isFalse=>exact .stuck
  rename_i hc;obtain⟨rfl,hn⟩:=hc;have E:O=none:=by cases O<;>first|rfl|exact S.elim
  have K:H=none:=by cases H<;>first|rfl|exact z.elim
  have G:Q=none:=by cases Q<;>first|rfl|exact C.elim
  subst E K G;have f:=gh (P:=P) (w:=w) false n n 0 n n none none none (.inl ⟨rfl,rfl⟩) (.inl ⟨rfl,rfl⟩) (.inl ⟨rfl,rfl⟩) (aq _) (aE _) (aE _);refine .pure (r:= .slice (some ⟨b,D,none⟩) n n) hh ?_ (aM.2 ⟨b,U,rfl⟩);have L:n≠0:=ac
  simp[ou,run_underlying (mI A),tQ,f,cg R,L,cC]
 ·rename_i n e r y hp;obtain⟨b,D,cs,X,h2,h3,h4,h5⟩:=aQ hp hx;simp at X;subst X;split
  case h_2=>exact .stuck
  rename_i n' et A;split
  case h_2=>exact .stuck
  rename_i s R;split
  case isFalse=>exact .stuck
  rename_i hc;obtain⟨rfl,rfl,hn⟩:=hc;have E:O=none:=by cases O<;>first|rfl|exact S.elim
  have K:H=none:=by cases H<;>first|rfl|exact z.elim
  have G:Q=none:=by cases Q<;>first|rfl|exact C.elim
  subst E K G;have f:=gh (P:=P) (w:=w) false n' n' 0 n' n' none none none (.inl ⟨rfl,rfl⟩) (.inl ⟨rfl,rfl⟩) (.inl ⟨rfl,rfl⟩) (aq _) (aE _) (aE _);obtain⟨c,d,B,⟨l1,l2⟩,_⟩:=h4;have L:n'≠0:=ac
  refine .pure (r:= .slice (some ⟨b,D,none⟩) n' n') hh ?_ (aM.2 ⟨_,rfl, .inl ⟨b,D,n',c,by rw[l1],Nat.le_of_eq l1,h2,h3,l2,λi u hi=>h5 i u ?_⟩⟩)
  ·simp[ou,run_underlying (mI A),tQ,f,cg R,L,cC]
  ·rw[B,bq]
   ·exact hi
   ·rcases br i c.length with q|q
    ·exact q
    ·rw[be q]at hi;simp at hi
 ·rename_i k hp;obtain⟨ad,n,cap,M,X⟩:=aQ hp hx;simp at X;subst X;split
  ·rename_i e l a et Y ha g;split
   case h_2=>exact .stuck
   rename_i b s U R;split
   case isFalse=>exact .stuck
   rename_i a2;subst a2;refine .need λa3=>?_;obtain⟨rfl,a6,a0⟩:=a3;have J:=hg k _ Y;obtain⟨sv,B,e2⟩:=hh.ok k _ J;rw[M]at B;simp at B;subst B;have E:O=none:=by cases O<;>first|rfl|exact S.elim
   have G:Q=none:=by cases Q<;>first|rfl|exact C.elim
   subst E G;obtain⟨ce,cl⟩:=BT S z ha U ⟨bp _,a6,a0⟩;simp only[Int.toNat_zero,List.drop_zero,Nat.sub_zero]at ce cl;obtain⟨j,rfl⟩:=bo a6;simp only[aG]at ce cl;have q2:=vO U z;have a1:∀v,(ou t v none H none).run P w=(Instr.slice t v none H none).run P w:=λv=>by simp[ou,run_underlying (dh g)]
   have r2:(H=none/\j=l.length)\/∃k,H=some (.int k (j:Int)):=by
    rcases q2 with⟨p1,p2⟩|q
    ·exact .inl ⟨p1,ac⟩
    ·exact .inr q
   rcases e2 with⟨b,b0,cells,ty,us,o1,o2,o3,o4,o5,o6,o7⟩|⟨rfl,b5,o1⟩
   ·simp at o1;obtain⟨rfl,rfl,rfl⟩:=o1;have a4:=gh (P:=P) (w:=w) true l.length cap 0 j cap none H none (.inl ⟨rfl,rfl⟩) r2 (.inl ⟨rfl,rfl⟩) (aq _) ac (aE _);have a8:cap≠0:=ac
    refine .leaf (r:= .slice (some ⟨b,0,none⟩) j cap) (w':=w) (by rw[a1];simp[Instr.slice,run_underlying (dh g),a4,cg R,a8,cC]) ?_;refine bQ.move hh hN hW J rfl (.sv (.slice (some ⟨b,0,none⟩) j cap)) _ bY bY (aE _) rfl rfl rfl (λ_ _ _=>rfl) (λb' _ f=>?_) (λhm=>?_) _ _ (λhm=>aM.2 ⟨_,_,_,bU _ _ _,rfl⟩)
    ·obtain⟨c',rfl⟩:∃c',cap=c'+1:=⟨cap-1,ac⟩;simp[Pl.blk]at f;subst f;exact⟨(hh.fr k _ b J rfl (by rw[M];rfl)).1, .inl (by rw[M];rfl)⟩
    ·refine⟨_,bU _ _ _, .inl ⟨b,cap,cells,ty,us.take (j*e.size),by rw[cl],o2,o3,by rw[cl];omega,o5,?_,?_⟩⟩
     ·have:=dT.drop_take (λ_ _=>Rd.length) o6 0 j ac;simp only[Nat.zero_mul,List.drop_zero]at this;rw[<-ce]at this;exact this.imp (λ_ _=>Rd.evo hm.evo)
     ·have hu:us.length<=cells.toList.length:=by have:=aI ah o7;rw[bd]at this;omega
      have e9:us.take (j*e.size)=cells.toList.take (min (j*e.size) us.length):=by
       conv=>lhs;rw[<-o7]
       rw[List.take_take]
      rw[e9,bd,fh ac]
   ·simp at o1;obtain⟨rfl,rfl,rfl⟩:=o1;simp only[dx]at a0;obtain rfl:j=0:=ac
    have a4:=gh (P:=P) (w:=w) true 0 0 0 0 0 none H none (.inl ⟨rfl,rfl⟩) (cf r2) (.inl ⟨rfl,rfl⟩) (aE _) (aE _) (aE _);refine .leaf (r:= .slice ad 0 0) (w':=w) (by rw[a1];simp[Instr.slice,run_underlying (dh g),a4,cg R]) ?_;refine bQ.move hh hN hW J rfl (.sv (.slice ad 0 0)) _ bY bY (aE _) rfl rfl rfl (λ_ _ _=>rfl) (λb' _ f=>?_) (λhm=>?_) _ _ (λhm=>aM.2 ⟨_,_,_,bU _ _ _,rfl⟩)
    ·cases ad<;>simp[Pl.blk]at f
    ·exact⟨_,bU _ _ _, .inr ⟨by rw[ce];simp,_,rfl⟩⟩
  ·rename_i e l m a et Y ha g;split
   case h_2=>exact .stuck
   rename_i b s c U R hc;split
   case isFalse=>exact .stuck
   rename_i a2;obtain⟨rfl,a5⟩:=a2;refine .need λa3=>?_;obtain⟨b1,b2,b3,b4⟩:=a3;subst b3;have J:=hg k _ Y;obtain⟨f1,f2⟩:=pL hh J;have a9:=f2.evo (F:=F);obtain⟨sv,B,e2⟩:=f1.ok k _ (bK _ _ _);rw[M]at B;simp at B;subst B
   have ev:∀{x v},nN w (Av F ρ h) ρ x v->nN w (Av F ρ (dg h k (some (.fr e l)))) ρ x v:=by
    intro x v hv;cases x<;>cases v<;>first|exact hv|exact aT.evo a9 (eA.refl ρ) hv
   obtain⟨r,r1,r2,r3⟩:=pM (h:=dg h k (some (.fr e l))) g R e2 (ev S) (ev z) (ev C) ha U ⟨b1,b2,b4⟩ (.inr ⟨m,rfl,hc,a5⟩);exact .leaf r1 ⟨ρ,eA.refl ρ,λ_ p q=>absurd p q,aM.2 ⟨r,rfl,r2,r3 rfl⟩,f1,f2⟩
  ·rename_i e l a et Y ha g;obtain⟨sv,B,e2⟩:=hh.ok k _ (hg k _ Y);rw[M]at B;simp at B;subst B;exact rQ hh g e2 S z C ha
  ·exact .stuck
 ·rename_i it _ _ _ hp;split
  case h_2=>exact .stuck
  rename_i q a et hf ha g;exact rQ hh g (kz hh hg hf (aQ hp hx)) S z C ha
 ·exact .stuck
end
end
variable{cells:Array Value}{m z0:List I}
section
section
variable{P:Program}{F:Nat->Prop}{ρ:Nat->Pl}{w:World}{h get:Nat->Option Ch}{N W:Nat}
theorem qZ(w:World){i:TypeInfo}(h:zT P t=some (r,m))(hi:P.info? t=some i)(e:i.zero=some z):z.cells.size=ly m:=by
 obtain⟨f,j,a,b,c⟩:=qk h;rw[hi]at a;simp at a;subst a;rw[e]at b;simp at b;subst b;have:=aP.length (eT (c w (λ_=>False) (λ_=> .un)));simpa using this
theorem jO(w:World)(t ty e:TypeId)(s:Nat)(g:P.underlying t=some (.slice e))(i:ll P e=some s)(f a:Option Addr)(n cap c:Nat)(h:n<=cap):
 (dq #[t,t] ty #[.slice f n cap, .slice a 0 c]).run P w= .ok (.slice f n cap) w:=by
 have j:(dt s 0 (.slice a 0 c)).run P w= .ok #[] w:=by
  cases a with
  |none=>simp[dt]
  |some a=>simp[dt,loadCells,loadCellsFrom]
 cases f with
 |none=>simp[dq,run_underlying g,cg i,Builtin.lenOf,j,h]
 |some b=>simp[dq,run_underlying g,cg i,Builtin.lenOf,j,h,storeCells]
theorem nc(w w':World)(t ty e:TypeId)(s:Nat)(o:P.underlying t=some (.slice e))(p:ll P e=some s)(g n cap:Nat)(a:Addr)(m c:Nat)(news:List Value)
 (q:news.length=m*s) (b:∀j u,news[j]?=some u->w.cell? (a.add j)=some u) (f:n+m<=cap) (l:(storeCells ⟨g,n*s,none⟩ news).run P w= .ok () w'):
 (dq #[t,t] ty #[.slice (some ⟨g,0,none⟩) n cap, .slice (some a) m c]).run P w= .ok (.slice (some ⟨g,0,none⟩) (n+m) cap) w':=by
 have r:=run_firstCells_some (P:=P) w s m a m c news q b;have i:Addr.add ⟨g,0,none⟩ (n*s)=⟨g,n*s,none⟩:=by rw[cC,bT]
 simp[dq,run_underlying o,cg p,Builtin.lenOf,f,r,i,l]
theorem bQ.made(hh:dN F ρ w h)(j:ρ N= .un)(m:0<W){l:List e.den}
 (f:w'=w.alloc (.cells cells ty)\/w'=w.drew.alloc (.cells cells ty)) (n:dT (Rd w (Av F ρ h) e) l vs) (h0:0<cap) (o:l.length<=cap) (p:cap*e.size<=cells.size) (q:cells.toList.take vs.length=vs):
 bQ F ρ w h N W (sc (.own N)) [(N,some (.sl e l))] (.slice (some ⟨w.heap.size,0,none⟩) l.length cap) w':=by
 have r:gf w w':=by rcases f with rfl|rfl;exact gf.alloc w _;exact gf.drewAlloc w _
 have a:w'.heap[w.heap.size]?=some (.cells cells ty):=by
  rcases f with rfl|rfl
  ·exact Go.heap_alloc_new w _
  ·exact Go.heap_alloc_new w.drew _
 have g:w.heap.size<w'.heap.size:=by
  rcases f with rfl|rfl
  ·rw[eP];omega
  ·rw[eP];show w.heap.size<w.heap.size+1;omega
 obtain⟨c,rfl⟩:∃c,cap=c+1:=⟨cap-1,ac⟩;refine bQ.add hh j m r (.sv (.slice (some ⟨w.heap.size,0,none⟩) l.length (c+1))) _ bY (λb _ i=>?_) (λs=>?_) _ _ (λ_=>aM.2 ⟨_,_,_,bU _ _ _,rfl⟩)
 ·simp[Pl.blk]at i;subst i;exact⟨aE _,g⟩
 ·exact⟨_,bU _ _ _, .inl ⟨w.heap.size,c+1,cells,ty,vs,rfl,h0,a,o,p,n.imp (λ_ _=>Rd.evo s.evo),q⟩⟩
theorem bQ.remade(hh:dN F ρ w h)(m:ρ N= .un)(n:0<W){g:Ch}(o:h k=some g)(p:g.own=true)(i:∀kt q l,g≠ .lk kt q l){l:List e.den}
 (r:w'=w.drew.alloc (.cells cells ty)) (s:dT (Rd w (Av F ρ h) e) l vs) (h0:0<cap) (t:l.length<=cap) (u:cap*e.size<=cells.size) (v:cells.toList.take vs.length=vs):
 bQ F ρ w h N W (sc (.own N)) [(k,none),(N,some (.sl e l))] (.slice (some ⟨w.heap.size,0,none⟩) l.length cap) w':=by
 subst r;have a:=gf.drewAlloc w (.cells cells ty);have j:w.heap.size<(w.drew.alloc (.cells cells ty)).heap.size:=by rw[eP];show w.heap.size<w.heap.size+1;omega
 obtain⟨c,rfl⟩:∃c,cap=c+1:=⟨cap-1,ac⟩;refine bQ.move hh m n o p (.sv (.slice (some ⟨w.heap.size,0,none⟩) l.length (c+1))) _ i bY a.size a.os a.tape a.output (λb f _=>a.old b f) (λb _ f=>?_) (λx=>?_) _ _ (λ_=>aM.2 ⟨_,_,_,bU _ _ _,rfl⟩)
 ·simp[Pl.blk]at f;subst f;exact⟨j, .inr (aE _)⟩
 ·exact⟨_,bU _ _ _, .inl ⟨w.heap.size,c+1,cells,ty,vs,rfl,h0,Go.heap_alloc_new w.drew _,t,u,s.imp (λ_ _=>Rd.evo x.evo),v⟩⟩
theorem bQ.renum(hh:dN F ρ w h)(o:ρ N= .un)(p:0<W){l l':List e.den}(g:h k=some (.sl e l))(q:l'=l)(m:ρ k= .sv v)(i:∃a n c,v= .slice a n c):
 bQ F ρ w h N W (sc (.own N)) [(k,none),(N,some (.sl e l'))] v w:=by
 subst q;obtain⟨a,n,c,rfl⟩:=i;obtain⟨u,j,r⟩:=hh.ok k _ g;rw[m]at j;simp at j;subst j;refine bQ.move hh o p g rfl (.sv (.slice a n c)) _ bY bY (aE _) rfl rfl rfl (λ_ _ _=>rfl) (λb _ s=>?_) (λt=>?_) _ _ (λ_=>aM.2 ⟨_,_,_,bU _ _ _,rfl⟩)
 ·have f:(ρ k).blk=some b:=by rw[m];exact s
  exact⟨(hh.fr k _ b g rfl f).1, .inl f⟩
 ·exact⟨_,bU _ _ _,r.evo t.evo (λ_ _=>rfl)⟩
def oG(P:Program)(t:TypeId)(x y:V)(get:Nat->Option Ch)(N:Nat):Tr (V×eD):=
 match qY P t with
 |none=> .stuck
 |some c=>
  match ll P c,Ts P c,zT P c with
  |some s,some a,some (_,f)=>
   if ly f=s/\1<=a then
    match x.one?,y.one? with
    |some (.own k),some b=>match get k,b.slice? get with
     |some (.sl e l),some q=>match Ty.deq q.1 e with
      |some g=>if s=e.size then .need ((l.length+q.2.length)*a<=140737488355328) (.leaf (sc (.own N),[(k,none),(N,some (.sl e (l++(g.down▸q.2))))]))else .stuck
      |none=> .stuck
     |_,_=> .stuck
    |some .nils,some b=>match b.slice? get with
     |some q=>if s=q.1.size then .need (q.2.length*a<=140737488355328) (.leaf (sc (.own N),[(N,some (.sl q.1 q.2))]))else .stuck
     |_=> .stuck
    |some (.cut e l),some b=>match b.slice? get with
     |some q=>match Ty.deq q.1 e with
      |some g=>if s=e.size then .need (0<q.2.length) (.need ((l.length+q.2.length)*a<=140737488355328) (.leaf (sc (.own N),[(N,some (.sl e (l++(g.down▸q.2))))])))else .stuck
      |none=> .stuck
     |_=> .stuck
    |_,_=> .stuck
   else .stuck
  |_,_,_=> .stuck
theorem nO{n m:Nat}(a:z.cells.size=e.size)(b:olds.length=n*e.size)(c:news.length=m*e.size):
 grownCap W0 (n+m) cap et*e.size<=(olds.toArray++news.toArray++bP z.cells (grownCap W0 (n+m) cap et-(n+m))).size:=by
 have f:=grownCap_ge W0 (n+m) cap et;generalize grownCap W0 (n+m) cap et=G at*;simp only[Array.size_append,List.size_toArray,size_zeroCells,a,b,c];rw[<-Nat.add_mul,<-Nat.add_mul];exact Nat.mul_le_mul_right _ ac
theorem iP(t ty et:TypeId){l m:List e.den}{a:Option Addr}(L:qY P t=some et)(hs:ll P et=some e.size)(Y:Ts P et=some p)(hz:zT P et=some (g0,z0))(a0:ly z0=e.size)(h1:1<=p)
 (c:cap<l.length+m.length) (y:a=none->l=[]/\cap=0)  (M:dT (Rd w A e) l cs) (B:∀O,a=some O->∀j u,cs[j]?=some u->w.cell? (O.add j)=some u)
 (hy:iO w A e m u) (hm:0<m.length) (s:(l.length+m.length)*p<=140737488355328):
 ∃b cells vs,(dq #[t,t] ty #[.slice a l.length cap,u]).run P w= .ok (.slice (some ⟨w.heap.size,0,none⟩) (l++m).length b) (w.drew.alloc (.cells cells et))/\dT (Rd w A e) (l++m) vs/\0<b/\(l++m).length<=b/\b*e.size<=cells.size/\cells.toList.take vs.length=vs:=by
 obtain⟨i,U,X,C,_⟩:=qk hz;have Q:U.cells.size=e.size:=by rw[qZ w hz X C,a0]
 obtain⟨i',D,E⟩:=vF hs;obtain⟨a2,f,x⟩:=zX Y;rw[X]at D f;simp at D f;subst D f
 have R:(l.length+m.length:Nat)<=140737488355328:=by
  have:=Nat.le_mul_of_pos_right (l.length+m.length) (show 0<p by omega);omega
 obtain⟨K,G,a1⟩:=iO.load (P:=P) hy;have S:=dT.length (λ_ _=>Rd.length) M;have q:=dT.length (λ_ _=>Rd.length) G;rcases a1 with⟨H,J,b,rfl,_,_,r⟩|⟨rfl,_⟩
 case inr=>simp at hm
 have g:∀j v,K[j]?=some v->w.cell? ((⟨H,J,none⟩:Addr).add j)=some v:=λj v hj=>by rw[cC];exact r j v hj
 cases a with
 |none=>
  obtain⟨rfl,rfl⟩:=y rfl;simp only[dx,bT]at c s R;have o:=run_append_nil (P:=P) w t ty et i U (dh L) X C ⟨H,J,none⟩ m.length b K (by rw[E];exact q) g hm ac (by rw[x];omega);refine⟨_,_,K,o,G,?_,grownCap_ge _ _ _ _,?_,bY⟩
  ·have:=grownCap_ge w m.length 0 et;omega
  ·have:=nO (e:=e) (z:=U) (olds:=[]) (news:=K) (n:=0) (m:=m.length) (cap:=0) (et:=et) (W0:=w) Q bY q;simpa using this
 |some O=>
  have o:=run_append_grow (P:=P) w t ty et i U (dh L) X C O l.length cap cs (by rw[E];exact S) (B O rfl) ⟨H,J,none⟩ m.length b K (by rw[E];exact q) g c ac (growslice_fits c (by rw[x];exact s));refine⟨_,_,cs++K,by rw[aa];exact o,dT.append M G,?_,by rw[aa];exact grownCap_ge _ _ _ _,nO Q S q,?_⟩
  ·have:=grownCap_ge w (l.length+m.length) cap et;omega
  ·simp;rw[<-ay,<-aa,List.take_left]
theorem ue(hh:dN F ρ w h)(hg:∀k b,get k=some b->h k=some b)(hN:ρ N= .un)(hW:0<W)(hx:aT w (Av F ρ h) ρ x v)(hy:aT w (Av F ρ h) ρ y u):
 dG P F ρ w h N W (dq #[t,t] ty #[v,u]) (oG P t x y get N):=by
 unfold oG;split
 ·exact .stuck
 rename_i et i;split
 case h_2=>exact .stuck
 rename_i s c3 g0 z0 hs D hz;split
 case isFalse=>exact .stuck
 rename_i hc;obtain⟨E,o⟩:=hc;split
 ·rename_i k iy hp hq;obtain⟨ad,n,cap,a2,h1⟩:=aQ hp hx;simp at h1;subst h1;split
  case h_2=>exact .stuck
  rename_i e l q hk G;split
  case h_2=>exact .stuck
  rename_i g _;split
  case isFalse=>exact .stuck
  rename_i H;subst H;obtain⟨e',m⟩:=q;obtain⟨g⟩:=g;simp only at g;subst g;refine .need λc=>?_;simp only at c⊢;have B:=gQ hh hg G (aQ hq hy);simp only at B;have C:=hg k _ hk;obtain⟨sv,e1,e2⟩:=hh.ok k _ C;rw[a2]at e1;simp at e1;subst e1;by_cases J:m=[]
  ·subst J;obtain⟨a',c',rfl⟩:=B.len
   have b4:n<=cap:=by
    rcases e2 with⟨b,a9,cells,a3,us,p,o2,o3,o4,_⟩|⟨rfl,_,p⟩
    ·simp at p;omega
    ·simp at p;omega
   refine .leaf (jO w t ty et _ (dh i) hs ad a' n cap c' b4) ?_;exact bQ.renum hh hN hW C (aH l) a2 ⟨_,_,_,rfl⟩
  ·have L:0<m.length:=by rcases m with _|_;exact absurd rfl J;simp
   rcases e2 with⟨b,a9,cells,a3,us,p,o2,o3,o4,o5,o6,o7⟩|⟨rfl,a0,p⟩
   ·simp at p;obtain⟨rfl,rfl,rfl⟩:=p;have b5:=dT.length (λ_ _=>Rd.length) o6;have c4:us.length<=cells.size:=by have:=aI ah o7;simp at this;omega
    have M:∀j v,us[j]?=some v->w.cell? ((⟨b,0,none⟩:Addr).add j)=some v:=λj v z=>by
     rw[cC,bT,cell_of_row w b _ cells a3 (0,0) o3]
     have b6:j<us.length:=by
      rcases br j us.length with q|q
      ·exact q
      ·rw[be q]at z;simp at z
     rw[<-o7,iY b6]at z;simpa using z
    by_cases r:l.length+m.length<=cap
    ·obtain⟨ms,a4,b7⟩:=iO.load (P:=P) B;have b0:=dT.length (λ_ _=>Rd.length) a4;rcases b7 with⟨a5,a6,c',rfl,_,_,O⟩|⟨rfl,_⟩
     case inr=>simp at L
     have a7:l.length*e'.size+ms.length<=cells.size:=by
      rw[b0,<-Nat.add_mul];exact bE (Nat.mul_le_mul_right _ r) o5
     have b1:∀v∈ms,v.oneCell'=true:=dT.all (λ_ _ h=>Rd.one h) a4;obtain⟨w',b2,q1,q2,q3,q4,q5,q6,q7,q8⟩:=fC P o3 a7 b1;refine .leaf (nc w w' t ty et _ (dh i) hs b l.length cap ⟨a5,a6,none⟩ m.length c' ms b0 (λj v z=>by rw[cC];exact O j v z) r q1) ?_;obtain⟨c1,rfl⟩:∃c1,cap=c1+1:=⟨cap-1,ac⟩;have a8:(ρ k).blk=some b:=by rw[a2];rfl
     have b8:b2.size=cells.size:=by
      have:=aI ah q3;simp at this;omega
     refine bQ.move hh hN hW C rfl (.sv (.slice (some ⟨b,0,none⟩) (l.length+m.length) (c1+1))) _ bY bY ac q5 q6 q7 (λb' _ b9=>q8 b' (λe=>b9 (by rw[a8,e]))) (λb' _ b3=>?_) (λc0=>?_) _ _ (λ_=>aM.2 ⟨_,_,_,bU _ _ _,rfl⟩)
     ·simp[Pl.blk]at b3;subst b3;exact⟨by rw[q4];exact(hh.fr k _ b C rfl a8).1, .inl a8⟩
     ·refine⟨_,bU _ _ _, .inl ⟨b,c1+1,b2,a3,us++ms,by rw[aa],o2,q2,by rw[aa];exact r,by rw[b8];exact o5,(dT.append o6 a4).imp (λ_ _=>Rd.evo c0.evo),?_⟩⟩;rw[q3,<-b5];have:cells.toList.take us.length=us:=o7;rw[this,List.take_left]
    ·obtain⟨A,f,vs,Q,R,S,U,X,Y⟩:=iP (P:=P) t ty et (a:=some ⟨b,0,none⟩) (cap:=cap) i hs D hz E o ac bY o6 (λc2 K=>by simp at K;subst K;exact M) B L c;exact .leaf Q (bQ.remade hh hN hW C rfl bY rfl R S U X Y)
   ·simp at p;obtain⟨rfl,rfl,rfl⟩:=p;obtain⟨A,f,vs,Q,R,S,U,X,Y⟩:=iP (P:=P) t ty et (a:=ad) (cap:=0) (l:=([]:List e'.den)) (cs:=[]) i hs D hz E o eM (λ_=>⟨rfl,rfl⟩) rfl (λ_ _ j u z=>by simp at z) B L c;exact .leaf Q (bQ.remade hh hN hW C rfl bY rfl R S U X Y)
 ·rename_i iy hp hq;have h1:=aQ hp hx;simp[bh]at h1;subst h1;split
  case h_2=>exact .stuck
  rename_i q G;split
  case isFalse=>exact .stuck
  rename_i H;subst H;obtain⟨e',m⟩:=q;refine .need λc=>?_;simp only at c⊢;have B:=gQ hh hg G (aQ hq hy);simp only at B;by_cases J:m=[]
  ·subst J;obtain⟨a',c',rfl⟩:=B.len;refine .leaf (jO w t ty et _ (dh i) hs none a' 0 0 c' (aE _)) ?_;refine bQ.add hh hN hW (gf.refl w) (.sv (.slice none 0 0)) (.sl e' []) bY (λb _ hb=>by simp[Pl.blk]at hb) (λL=>⟨_,bU _ _ _, .inr ⟨rfl,none,rfl⟩⟩) _ _ (λ_=>aM.2 ⟨_,_,_,bU _ _ _,rfl⟩)
  ·have L:0<m.length:=by rcases m with _|_;exact absurd rfl J;simp
   obtain⟨A,f,vs,Q,R,S,U,X,Y⟩:=iP (P:=P) t ty et (a:=none) (cap:=0) (l:=([]:List e'.den)) (cs:=[]) i hs D hz E o eM (λ_=>⟨rfl,rfl⟩) rfl (λ_ _ j u z=>by simp at z) B L (cf c);exact .leaf Q (bQ.made hh hN hW (.inr rfl) R S U X Y)
 ·rename_i e l iy hp hq;obtain⟨u0,h1,h2,a0,n0,rfl⟩:=aQ hp hx;simp at h1;subst h1;split
  case h_2=>exact .stuck
  rename_i q G;split
  case h_2=>exact .stuck
  rename_i g _;split
  case isFalse=>exact .stuck
  rename_i H;subst H;obtain⟨e',m⟩:=q;obtain⟨g⟩:=g;simp only at g;subst g;refine .need λL=> .need λc=>?_;simp only at c L⊢;have B:=gQ hh hg G (aQ hq hy);simp only at B;rcases h2 with⟨a5,a6,cap,cs,p,o2,o3,o4,o5,o6⟩|⟨rfl,a1,p⟩
  ·simp at p;obtain⟨rfl,rfl,rfl⟩:=p;obtain⟨A,f,vs,Q,R,S,U,X,Y⟩:=iP (P:=P) t ty et (a:=some ⟨a5,a6,none⟩) (cap:=l.length) i hs D hz E o ac bY o5 (λc2 K=>by simp at K;subst K;exact λj v z=>by rw[cC];exact o6 j v z) B L c;exact .leaf Q (bQ.made hh hN hW (.inr rfl) R S U X Y)
  ·simp at p;obtain⟨rfl,rfl⟩:=p;obtain⟨A,f,vs,Q,R,S,U,X,Y⟩:=iP (P:=P) t ty et (a:=a0) (cap:=0) (l:=([]:List e'.den)) (cs:=[]) i hs D hz E o eM (λ_=>⟨rfl,rfl⟩) rfl (λ_ _ j u z=>by simp at z) B L (cf c);exact .leaf Q (bQ.made hh hN hW (.inr rfl) R S U X Y)
 ·exact .stuck
end
end
section
theorem pN(z:Array Value)(s:Nat)(a:z.size=s):∀n,(fo (n*s)).map (λi=>z[i % z.size]!)=(ax n z.toList).flatten:=by
 intro n
 induction n with
 |zero=>simp
 |succ n c=>
  rw[List.replicate_succ',List.flatten_append,<-c,Nat.succ_mul,List.range_add,dL]
  congr 1
  simp only[List.flatten_cons,List.flatten_nil,aH,List.map_map];apply List.ext_getElem
  ·simp[a]
  ·intro i b e;simp only[cG,List.length_range]at b;simp only[List.getElem_map,List.getElem_range,Function.comp_apply,a];have:(n*s+i) % s=i:=by rw[fq,Nat.add_mul_mod_self_right,Nat.mod_eq_of_lt b]
   rw[this,getElem!_pos z i ac];simp
theorem rR(z:Array Value)(n:Nat):(bP z n).toList=(ax n z.toList).flatten:=by
 rw[<-pN z z.size rfl n];simp[bP]
theorem vR{w:World}{A:Nat->Prop}{e:Ty}{x:e.den}{vs:List Value}(h:Rd w A e x vs):∀n,dT (Rd w A e) (ax n x) (ax n vs).flatten
 |0=>rfl
 |n+1=>⟨vs,_,by simp[List.replicate_succ],h,vR h n⟩
section
variable{P:Program}{F:Nat->Prop}{ρ:Nat->Pl}{w:World}{h get:Nat->Option Ch}{N W:Nat}
def aappendZ(P:Program)(t f:TypeId)(x y:V)(get:Nat->Option Ch)(N:Nat):Tr (V×eD):=
 match qY P t,zW P f,vM y,x.one? with
 |some b,some .i64,some n,some (.own k)=>match ll P b,Ts P b,zT P b,get k with
  |some s,some a,some (_,c),some (.sl e l)=>match ud e c with
   |some g=>if s=e.size/\0<s/\ly c=s/\1<=a then .need (0<=n.2/\(l.length+n.2.toNat)*a<=140737488355328) (.leaf (sc (.own N),[(k,none),(N,some (.sl e (l++ax n.2.toNat g)))]))else .stuck
   |none=> .stuck
  |_,_,_,_=> .stuck
 |_,_,_,_=> .stuck
theorem rS(hh:dN F ρ w h)(hg:∀k b,get k=some b->h k=some b)(hN:ρ N= .un)(hW:0<W)(hx:aT w (Av F ρ h) ρ x v)(hy:aT w (Av F ρ h) ρ y u):
 dG P F ρ w h N W (dq #[t,t'] ty #[v,u]) (aappendZ P t t' x y get N):=by
 unfold aappendZ;split
 case h_2=>exact .stuck
 rename_i et n k o p hn hp;have:=kD hn hy;subst this;split
 case h_2=>exact .stuck
 rename_i s A g0 z0 e l hs b4 hz hk;split
 case h_2=>exact .stuck
 rename_i x0 b5;split
 case isFalse=>exact .stuck
 rename_i hc;obtain⟨rfl,a6,b6,d3⟩:=hc;refine .need λhb=>?_;obtain⟨b7,B⟩:=hb;obtain⟨m,hm⟩:=bo b7;rw[hm]at B⊢;simp only[aG]at B⊢;obtain⟨i,M,hi,O,b8⟩:=qk hz;have b9:M.cells.size=e.size:=by rw[qZ w hz hi O,b6]
 obtain⟨i',a1,C⟩:=vF hs;obtain⟨d5,D,E⟩:=zX b4;rw[hi]at a1 D;simp at a1 D;subst a1 D;have c0:Rd w (Av F ρ h) e x0 M.cells.toList:=jj b5 (eT (b8 w (Av F ρ h) ρ))
 have d4:(l.length+m:Nat)<=140737488355328:=by
  have:=Nat.le_mul_of_pos_right (l.length+m) (show 0<A by omega);omega
 obtain⟨U,Q,cap,a2,h1⟩:=aQ hp hx;simp at h1;subst h1;have G:=hg k _ hk;obtain⟨sv,e1,e2⟩:=hh.ok k _ G;rw[a2]at e1;simp at e1;subst e1;have a3:IntKind.i64.wrap (m:Int)=m:=am.wrap ⟨ac,ac⟩
 have d6:¬((m:Int)*(i.bytes:Int)>2^48):=by
  have h9:m*A<=(l.length+m)*A:=Nat.mul_le_mul_right _ ac;have:((m*i.bytes:Nat):Int)<=140737488355328:=by rw[E];omega
  rw[Int.natCast_mul]at this;omega
 have c4:=rR M.cells m;have f:=vR c0 m;rw[<-c4]at f;have a4:=dT.length (λ_ _=>Rd.length) f;rw[List.length_replicate]at a4
 have g:∀(w':World),Q+m<=cap->(∀a,U=some a->(storeCells (a.add (Q*e.size)) (bP M.cells m).toList).run P w= .ok () w')->(U=none->w'=w)->(dq #[t,t'] ty #[.slice U Q cap, .int .i64 m]).run P w= .ok (.slice U (Q+m) cap) w':=by
  intro w' c c5 c6;have H:¬((m:Int)<0):=ac
  have J:¬(281474976710656<(m:Int)*(i.bytes:Int)):=ac
  cases U with
  |none=>
   have:=c6 rfl;subst this;by_cases h0:m*e.size=0
   ·simp[dq,run_underlying (dh o),run_underlying (ft p),sizeOf,typeInfo,hi,C,asInt,asIntOf,a3,H,J,c,h0]
   ·simp[dq,run_underlying (dh o),run_underlying (ft p),sizeOf,typeInfo,zeroValue,hi,O,asInt,asIntOf,a3,H,J,c]
  |some a=>
   have h1:=c5 a rfl;by_cases h0:m*e.size=0
   ·have:m=0:=by rcases Nat.mul_eq_zero.1 h0 with q|q;exact q;omega
    subst this;simp[bP]at h1;have a7:IntKind.i64.wrap 0=0:=bt
    have R:Q<=cap:=c;simp[dq,run_underlying (dh o),run_underlying (ft p),sizeOf,typeInfo,hi,C,asInt,asIntOf,a7,R,h1]
   ·simp[dq,run_underlying (dh o),run_underlying (ft p),sizeOf,typeInfo,zeroValue,hi,O,C,asInt,asIntOf,a3,H,J,c,h0,h1]
 by_cases c:Q+m<=cap
 ·rcases e2 with⟨b,X,cells,a8,us,S,o2,o3,o4,o5,o6,o7⟩|⟨rfl,a0,S⟩
  ·simp at S;obtain⟨rfl,rfl,rfl⟩:=S;have c7:=dT.length (λ_ _=>Rd.length) o6;have d7:us.length<=cells.size:=by have:=aI ah o7;simp at this;omega
   have K:l.length*e.size+(bP M.cells m).toList.length<=cells.size:=by
    rw[a4,<-Nat.add_mul];exact bE (Nat.mul_le_mul_right _ c) o5
   have a9:∀v∈(bP M.cells m).toList,v.oneCell'=true:=dT.all (λ_ _ h=>Rd.one h) f;obtain⟨w',b0,q1,q2,q3,q4,q5,q6,q7,q8⟩:=fC P o3 K a9;refine .leaf (g w' c (λa ha=>by simp at ha;subst ha;rw[cC,bT];exact q1) bY) ?_;obtain⟨L,rfl⟩:∃L,cap=L+1:=⟨cap-1,ac⟩;have a5:(ρ k).blk=some b:=by rw[a2];rfl
   have c8:b0.size=cells.size:=by
    have:=aI ah q3;simp at this K;omega
   refine bQ.move hh hN hW G rfl (.sv (.slice (some ⟨b,0,none⟩) (l.length+m) (L+1))) _ bY bY ac q5 q6 q7 (λb' _ c9=>q8 b' (λe=>c9 (by rw[a5,e]))) (λb' _ b1=>?_) (λd0=>?_) _ _ (λ_=>aM.2 ⟨_,_,_,bU _ _ _,rfl⟩)
   ·simp[Pl.blk]at b1;subst b1;exact⟨by rw[q4];exact(hh.fr k _ b G rfl a5).1, .inl a5⟩
   ·refine⟨_,bU _ _ _, .inl ⟨b,L+1,b0,a8,us++(bP M.cells m).toList,bY,o2,q2,by simp;exact c,by rw[c8];exact o5,(dT.append o6 f).imp (λ_ _=>Rd.evo d0.evo),?_⟩⟩;rw[q3,<-c7];have:cells.toList.take us.length=us:=o7;rw[this,List.take_left]
  ·simp at S;obtain⟨rfl,rfl,rfl⟩:=S;obtain rfl:m=0:=ac
   refine .leaf (g w c (λa ha=>by simp[bP,storeCells]) bY) ?_;exact bQ.renum hh hN hW G bY a2 ⟨_,_,_,rfl⟩
 ·have d1:0<m:=by
   rcases dP m with q|q
   ·subst q;exfalso;rcases e2 with⟨b,X,cells,a8,us,S,o2,o3,o4,_⟩|⟨rfl,_,S⟩
    ·simp at S;omega
    ·simp at S;omega
   ·exact q
  have b2:∃Y,dT (Rd w (Av F ρ h) e) l Y/\l.length=Q/\(dt e.size Q (.slice U Q cap)).run P w.drew= .ok Y.toArray w.drew:=by
   obtain⟨Y,L,c2⟩:=iO.load (P:=P) (e2.reads);have c3:=dT.length (λ_ _=>Rd.length) L;rcases c2 with⟨d8,d9,X,q1,_,_,q4⟩|⟨rfl,rfl,a,q1⟩
   ·simp at q1;obtain⟨rfl,rfl,rfl⟩:=q1;exact⟨Y,L,rfl,run_firstCells_some (P:=P) w.drew e.size l.length _ _ _ Y c3 (λj v hj=>by rw[cC];exact q4 j v hj)⟩
   ·simp at q1;obtain⟨rfl,rfl,rfl⟩:=q1;refine⟨[],L,rfl,?_⟩;cases U with
    |none=>simp[dt]
    |some a=>simp[dt,loadCells,loadCellsFrom]
  obtain⟨Y,L,rfl,c2⟩:=b2;have c3:=dT.length (λ_ _=>Rd.length) L;have h9:m*A<=281474976710656:=bE (Nat.mul_le_mul_right _ (Nat.le_add_left _ _)) (by omega:(l.length+m)*A<=_);have b3:=Lib.run_append_grow_zeros (P:=P) w t t' ty et i M .i64 .i64 (dh o) (ft p) hi O U l.length cap Y (by rw[C];exact c2) m d1 (by rw[C];exact a6) ac ac (by rw[E];exact h9) (growslice_fits ac (by rw[E];exact B));have d2:=grownCap_ge w (l.length+m) cap et;refine .leaf (y:=sc (.own N)) (r:= .slice (some ⟨w.heap.size,0,none⟩) (l++ax m x0).length (grownCap w (l.length+m) cap et)) (cf b3) (bQ.remade hh hN hW G rfl bY rfl (dT.append L f) ac (cf d2) ?_ ?_)
  ·have:=nO (e:=e) (z:=M) (olds:=Y) (news:=(bP M.cells m).toList) (n:=l.length) (m:=m) (cap:=cap) (et:=et) (W0:=w) b9 c3 a4;simpa using this
  ·simp;rw[<-ay,<-Array.length_toList,<-aa,List.take_left]
def dU{α:Type}(dst a:List α):List α:=a.take dst.length++dst.drop a.length
def Fq(P:Program)(t:TypeId)(x y:V)(get:Nat->Option Ch):Option (V×eD):=
 match qY P t,x.one?,y.one? with
 |some b,some (.own k),some e=>match ll P b,get k,e.slice? get with
  |some 1,some (.sl .u8 l),some ⟨.u8,m⟩=>some (pJ (min m.length l.length:Nat),[(k,some (.sl .u8 (dU (α:=BitVec 8) l m)))])
  |_,_,_=>none
 |some b,some (.sub k a n .u8),some e=>match ll P b,get k,e.slice? get with
  |some 1,some (.cells l),some ⟨.u8,m⟩=>match gu l a n with
   |some c=>match ud (.ar n .u8) c with
    |some z=>match lA l a [.d (.ar n .u8) (dU (α:=BitVec 8) z m)]with
     |some f=>some (pJ (min m.length n:Nat),[(k,some (.cells f))])
     |none=>none
    |none=>none
   |none=>none
  |_,_,_=>none
 |_,_,_=>none
theorem Fr{l vs nv:List α}(h:l.take vs.length=vs)(a:vs.length<=l.length)(b:nv.length<=vs.length):(nv++l.drop nv.length).take (nv++vs.drop nv.length).length=nv++vs.drop nv.length:=by
 have:=oD (off:=0) h a (nv:=nv) ac;simpa using this
theorem lF{l:List (BitVec 8)}:dT (Rd w A .u8) l vs↔vs=l.map cu:=by
 induction l generalizing vs with
 |nil=>exact Iff.rfl
 |cons x l c=>
  constructor
  ·rintro⟨a,b,rfl,e,f⟩;rw[c.1 f];simp only[Rd]at e;rw[e];rfl
  ·intro g;exact⟨[cu x],l.map cu,g,rfl,c.2 rfl⟩
theorem qr(m:List α)(n:Nat):m.take (min m.length n)=m.take n:=by
 rcases Nat.le_total m.length n with h|h
 ·rw[fh h,bb (aE _),bb h]
 ·rw[Nat.min_eq_right h]
theorem iw(l m:List α):(dU l m).length=l.length:=by
 simp[dU];omega
theorem uI(l m:List (BitVec 8)):(dU l m).map cu=(m.take l.length).map cu++(l.map cu).drop ((m.take l.length).map cu).length:=by
 simp only[dU,dL,List.map_take,List.map_drop,bd,cG]
 congr 1
 by_cases a:l.length<=m.length
 ·rw[fh a,bu (by simp;exact a),bu bY]
 ·rw[Nat.min_eq_right ac]
theorem lG(e:qY P t=some et)(l:ll P et=some 1)
 (f:(Builtin.lenOf u).run P w= .ok sl w) (m:(dt 1 (min sl p) u).run P w= .ok news.toArray w) (g:(storeCells ⟨k,d,none⟩ news).run P w= .ok () w'):
 (ib #[t,j] ty #[.slice (some ⟨k,d,none⟩) p cap,u]).run P w= .ok (.int .i64 (min sl p:Nat)) w':=by
 have i:Nat.min sl p=min sl p:=rfl;simp[ib,run_underlying (dh e),cg l,f,i,m,g,goInt]
theorem pO(a:qY P t=some et)(f:ll P et=some 1){c:Option Addr}
 (b:(Builtin.lenOf u).run P w= .ok sl w) (g:(dt 1 0 u).run P w= .ok #[] w):
 (ib #[t,j] ty #[.slice c 0 0,u]).run P w= .ok (.int .i64 0) w:=by
 cases c<;>simp[ib,run_underlying (dh a),cg f,b,g,goInt,storeCells]
theorem xJ(hh:dN F ρ w h)(hg:∀k b,get k=some b->h k=some b)(hx:aT w (Av F ρ h) ρ x v)(hy:aT w (Av F ρ h) ρ y u):
 dG P F ρ w h N W (ib #[t,t'] ty #[v,u]) (Tr.ofOpt (Fq P t x y get)):=by
 refine .ofOpt λq f=>?_;unfold Fq at f
 have O:∀{Q:I}{m:List (BitVec 8)},y.one?=some Q->Q.slice? get=some ⟨.u8,m⟩->(Builtin.lenOf u).run P w= .ok m.length w/\∀n,n<=m.length->(dt 1 n u).run P w= .ok ((m.take n).map cu).toArray w:=by
  intro Q m B h2;obtain⟨cs,c1,c2⟩:=iO.load (P:=P) (gQ hh hg h2 (aQ B hy));have c3:cs=m.map cu:=lF.1 c1;rcases c2 with⟨a7,o,cap,rfl,_,_,q⟩|⟨M,rfl,a,rfl⟩
  ·refine⟨rfl,λn hn=>run_firstCells_some (P:=P) w 1 n _ _ _ _ eM (λj v hj=>?_)⟩;rw[cC];refine q j v ?_;rw[c3];rw[List.map_take,pz]at hj;split at hj
   ·exact hj
   ·simp at hj
  ·simp only at M;subst M;refine⟨rfl,λn hn=>?_⟩;simp only[dx]at hn;obtain rfl:n=0:=ac
   cases a with
   |none=>simp[dt]
   |some a=>simp[dt,loadCells,loadCellsFrom]
 have bytes:∀(l:List (BitVec 8)),∀v∈l.map cu,v.oneCell'=true:=by
  intro l v hv;obtain⟨_,_,rfl⟩:=fI.1 hv;rfl
 split at f
 ·rename_i et k Q p hp C;obtain⟨ad,n,cap,r,B⟩:=aQ hp hx;simp at B;subst B;split at f
  case h_2=>simp at f
  rename_i l m hs hk hm;simp only[Option.some.injEq]at f;subst f;have g:=hg k _ hk;obtain⟨sv,D,e2⟩:=hh.ok k _ g;rw[r]at D;simp at D;subst D;obtain⟨s,hf⟩:=O C hm;rcases e2 with⟨b,a6,cells,E,us,R,o2,o3,o4,o5,o6,o7⟩|⟨a1,a0,R⟩
  ·simp at R;obtain⟨rfl,rfl,rfl⟩:=R;have G:m.take (min m.length (ah (α:=BitVec 8) l))=m.take (ah (α:=BitVec 8) l):=qr _ _;have S:us=l.map cu:=lF.1 o6;have a2:us.length<=cells.size:=by have:=aI ah o7;simp at this;omega
   have i:((m.take (ah (α:=BitVec 8) l)).map cu).length<=us.length:=by rw[S,cG,cG,bd];exact Nat.min_le_left _ _
   obtain⟨w',A,M,q2,q3,q4,q5,q6,q7,q8⟩:=fC P (off:=0) (nv:=(m.take (ah (α:=BitVec 8) l)).map cu) o3 ac (bytes _)
   have a3:A.size=cells.size:=by
    have:=aI ah q3;simp at this i;omega
   refine⟨.int .i64 (min m.length (ah (α:=BitVec 8) l):Nat),w',lG p hs s (by rw[hf _ (Nat.min_le_left _ _),G]) M,bQ.set hh g rfl (.sl .u8 (dU (α:=BitVec 8) l m)) bY bY ac q5 q6 q7 (λb' _ H=>q8 b' (λe=>H (by rw[r,e];obtain⟨c',rfl⟩:∃c',cap=c'+1:=⟨cap-1,ac⟩;rfl))) (λJ=>?_) _ _ (λ_=>aM.2 rfl)⟩;refine⟨_,r, .inl ⟨b,cap,A,E,(dU (α:=BitVec 8) l m).map cu,by rw[iw],o2,q2,by rw[iw];exact o4,by rw[a3];exact o5,lF.2 rfl,?_⟩⟩;rw[uI,<-S,q3];simp only[List.take_zero,eO,bT];exact Fr o7 (cf a2) i
  ·simp at R;obtain⟨rfl,rfl,rfl⟩:=R;have U:(l:List (BitVec 8))=[]:=a1;subst U;refine⟨.int .i64 0,w,pO p hs s (by simpa using hf 0 (aq _)),bQ.set hh g rfl (.sl .u8 (dU (α:=BitVec 8) [] m)) bY bY (aE _) rfl rfl rfl (λ_ _ _=>rfl) (λJ=>⟨_,r, .inr ⟨by simp[dU],_,rfl⟩⟩) _ _ (λ_=>aM.2 ?_)⟩;simp[bh,Rd]
 ·rename_i et k o n Q p hp C;obtain⟨b,K,B⟩:=aQ hp hx;simp at B;subst B;split at f
  case h_2=>simp at f
  rename_i l m hs hk hm;split at f
  case h_2=>simp at f
  rename_i c hc;split at f
  case h_2=>simp at f
  rename_i z hz;split at f
  case h_2=>simp at f
  rename_i l' a4;simp only[Option.some.injEq]at f;subst f;have g:=hg k _ hk;obtain⟨b',cs,E,D,e2,e3⟩:=hh.ok k _ g;rw[K]at D;simp at D;subst D;obtain⟨s,hf⟩:=O C hm;obtain⟨g1,g2⟩:=ig e3 hc;obtain⟨d1,d2⟩:=jj hz g2;have a5:(cs.toList.drop o).take n=z.map cu:=lF.1 d2;have L:ah (α:=BitVec 8) z=n:=d1;have X:bh w (Av F ρ h) ρ (.d (.ar n .u8) (dU (α:=BitVec 8) z m)) ((dU (α:=BitVec 8) z m).map cu):=⟨by rw[iw];exact L,lF.2 rfl⟩;obtain⟨s1,s2⟩:=lB e3 (aP.single X) a4;have G:m.take (min m.length n)=m.take n:=qr _ _;have i:((m.take n).map cu).length<=n:=by rw[cG,bd];exact Nat.min_le_left _ _
  obtain⟨w',A,M,q2,q3,q4,q5,q6,q7,q8⟩:=fC P (off:=o) (nv:=(m.take n).map cu) e2 (by simp at g1⊢;omega) (bytes _);refine⟨.int .i64 (min m.length n:Nat),w',lG p hs s (by rw[hf _ (Nat.min_le_left _ _),G]) M,bQ.set hh g rfl (.cells l') bY bY ac q5 q6 q7 (λb' _ H=>q8 b' (λe=>H (by rw[K,e];rfl))) (λJ=>⟨b,A,E,K,q2,?_⟩) _ _ (λ_=>aM.2 rfl)⟩;rw[q3];refine aP.evo J.evo (eA.refl ρ) ?_;have Y:((dU (α:=BitVec 8) z m).map cu).length=n:=by rw[cG,iw];exact L
  rw[Y,uI,L,<-a5]at s2;have:=qm (vs:=cs.toList) (q:=o) (n:=n) (m:=0) (nv:=(m.take n).map cu) ac;simp only[List.take_zero,eO,bT,Nat.add_zero]at this;rw[<-this];exact s2
 ·simp at f
end
end
variable{parts:List (Nat×V)}{b:List (Nat×Value)}
section
def oH(place:Nat->Option (Nat×Nat)):List I->List (Nat×V)->Option (List I)
 |a,[]=>some a
 |a,(i,x)::r=>
  match place i with
  |none=>none
  |some (b,size)=>
   match x with
   | .val true l=>if ly l=size then
    match lA a b l with
    |some m=>oH place m r
    |none=>none
     else none
   | .val false [c]=>if size=1 then
    match kv a b c with
    |some m=>oH place m r
    |none=>none
     else none
   |_=>none
theorem xK(off:Nat):∀(l:List Value)(k:Nat)(cells:Array Value),off+k+l.length<=cells.size->
 ((l.zipIdx k).foldl (λcs(p:Value×Nat)=>cs.setIfInBounds (off+p.2) p.1) cells).toList=cells.toList.take (off+k)++l++cells.toList.drop (off+k+l.length)
 |[],k,cells,_=>bY
 |v::l,k,cells,h=>by
  simp only[bc]at h;rw[List.zipIdx_cons,nu,xK off l (k+1) _ eM];simp only[Array.toList_setIfInBounds];have:=list_seg_step cells.toList (off+k) v l eM;simpa[fv]using this
theorem Fs(v:Value)(off:Nat)(cells:Array Value)(h:off+v.cells.size<=cells.size):
 (v.cells.zipIdx.foldl (λcs(c,j)=>cs.setIfInBounds (off+j) c) cells).toList=cells.toList.take off++v.cells.toList++cells.toList.drop (off+v.cells.toList.length):=by
 have e:v.cells.zipIdx.foldl (λcs(c,j)=>cs.setIfInBounds (off+j) c) cells=(v.cells.toList.zipIdx 0).foldl (λcs(p:Value×Nat)=>cs.setIfInBounds (off+p.2) p.1) cells:=by
  rw[<-Array.foldl_toList];simp
 rw[e,xK off v.cells.toList 0 cells (cf h)];simp
theorem rT{w:World}{A:Nat->Prop}{ρ:Nat->Pl}{place:Nat->Option (Nat×Nat)}:∀{parts:List (Nat×V)}{f:List (Nat×Value)}{b m:List I}{cells:Array Value},
 aP w A ρ b cells.toList->F2 (λ(p:Nat×V)(q:Nat×Value)=>p.1=q.1/\aT w A ρ p.2 q.2) parts f->oH place b parts=some m->
 ∃a,Instr.fill place cells f=some a/\aP w A ρ m a.toList
 |[],[],b,m,cells,hL,_,h=>by simp[oH]at h;subst h;exact⟨cells,rfl,hL⟩
 |(i,x)::r,(j,v)::K,b,m,cells,hL,⟨⟨u,E⟩,n⟩,h=>by
  simp only at u;subst u;unfold oH at h;split at h
  ·simp at h
  rename_i e size L
  have fin:∀(o:List I),v.cells.size=size->e+v.cells.toList.length<=cells.toList.length->aP w A ρ o (cells.toList.take e++v.cells.toList++cells.toList.drop (e+v.cells.toList.length))->oH place o r=some m->
   ∃a,Instr.fill place cells ((i,v)::K)=some a/\aP w A ρ m a.toList:=by
   intro o y G z M;have B:e+v.cells.size<=cells.size:=cf G
   rw[<-Fs v e cells B]at z;obtain⟨a,t,C⟩:=rT z n M;refine⟨a,?_,C⟩;have c:¬((v.cells.size≠size||decide (e+v.cells.size>cells.size))=true):=by simp[y];omega
   simp only[Instr.fill,L,c];simpa using t
  split at h
  ·rename_i l;split at h
   case isFalse=>simp at h
   rename_i O;split at h
   case h_2=>simp at h
   rename_i o H;have D:=eT E;obtain⟨t,C⟩:=lB hL D H;have g:=aP.length D;exact fin o (by simp at g;omega) t C h
  ·rename_i c;split at h
   case isFalse=>simp at h
   rename_i O;split at h
   case h_2=>simp at h
   rename_i o H;have D:=eT E;have g:=aP.length D;have J:=aM.1 E
   have s:v.cells.toList=[v]:=by
    have:=bh.one J v bY;cases v<;>first|rfl|(simp[eg]at this)
   obtain⟨t,C⟩:=nL hL J H;have y:v.cells.size=1:=by have:=aI ah s;simpa using this
   refine fin o ac (by rw[s];simp at t⊢;omega) ?_ h;rw[s]
   have:cells.toList.take e++[v]++cells.toList.drop (e+[v].length)=cells.toList.set e v:=by
    rw[List.set_eq_take_append_cons_drop,ak t];simp
   rw[this];exact C
  ·simp at h
def BU(P:Program)(t:TypeId):Option (Nat->Option (Nat×Nat)):=
 match P.underlying t with
 |some (.array _ e)=>match P.info? e with
  |some c=>some λi=>some (i*c.size,c.size)
  |none=>none
 |some (.struct a)=>match a.toList.mapM (λf=>(P.info? f.type).map λi=>(f.offset,i.size))with
  |some b=>some λi=>b[i]?
  |none=>none
 |_=>none
section
variable{P:Program}{F:Nat->Prop}{ρ:Nat->Pl}{w:World}{h get:Nat->Option Ch}{N W:Nat}
def Ag(P:Program)(t:TypeId)(parts:List (Nat×V)):Option (V×eD):=
 match zT P t,BU P t with
 |some (true,a),some place=>(oH place a parts).map λl=>(.val true l,[])
 |_,_=>none
theorem vS(hh:dN F ρ w h)(z:F2 (λ(p:Nat×V)(q:Nat×Value)=>p.1=q.1/\aT w (Av F ρ h) ρ p.2 q.2) parts b):
 dG P F ρ w h N W (Instr.build t b.toArray) (Tr.ofOpt (Ag P t parts)):=by
 refine .ofOpt λq g=>?_;unfold Ag at g;split at g
 case h_2=>simp at g
 rename_i A place B a;cases r:oH place A parts with
 |none=>simp[r]at g
 |some l=>
  simp[r]at g;subst g;obtain⟨i,E,C,j,s⟩:=qk B;obtain⟨c,y,D⟩:=rT (eT (s w (Av F ρ h) ρ)) z r
  have f:P.built t b.toArray.toList=some c:=by
   unfold BU at a;unfold Program.built;rw[C];split at a
   ·rename_i n e u;split at a
    case h_2=>simp at a
    rename_i G v;simp at a;subst a;simp only[u,j,v];exact y
   ·rename_i m u;split at a
    case h_2=>simp at a
    rename_i o x;simp at a;subst a;simp only[u,j,x];simpa using y
   ·simp at a
  exact⟨_,w,run_build w t _ c f,bQ.pure hh ⟨c.toList,D,bY⟩⟩
def pP(e:Ty):Nat->List I->Option (List e.den)
 |0,[]=>some []
 |0,_::_=>none
 |n+1,l=>match jM e l with
  |some (x,r)=>match pP e n r with
   |some m=>some (x::m)
   |none=>none
  |none=>none
theorem uJ{A:Nat->Prop}{e:Ty}:∀{n:Nat}{l:List I}{m:List e.den}{vs:List Value},pP e n l=some m->aP w A ρ l vs->m.length=n/\dT (Rd w A e) m vs
 |0,[],m,vs,h,c=>by simp[pP]at h;subst h;exact⟨rfl,c⟩
 |0,_::_,_,_,h,_=>by simp[pP]at h
 |n+1,l,m,vs,h,c=>by
  simp only[pP]at h;split at h
  case h_2=>simp at h
  rename_i x r f;split at h<;>simp at h;rename_i q g;subst h;obtain⟨a,b,e,i,j⟩:=xE f c;obtain⟨o,p⟩:=uJ g j;exact⟨by simp[o],a,b,e,i,p⟩
def J5(n:Nat)(l:List I):List I:=match n with
 |0=>[]
 |n+1=>l++J5 n l
theorem BV{A:Nat->Prop}{l:List I}{vs:List Value}(h:aP w A ρ l vs):∀n,aP w A ρ (J5 n l) (ax n vs).flatten
 |0=>rfl
 |n+1=>by rw[List.replicate_succ,List.flatten_cons];exact aP.append h (BV h n)
def lH(P:Program)(t:TypeId)(len:Nat)(parts:List (Nat×V))(N:Nat):Option (V×eD):=
 match qY P t with
 |none=>none
 |some a=>
  match ll P a,zT P a,JD P 8 a with
  |some s,some (_,b),some e=>
   if 0<s/\s=e.size/\len*s<=16777216/\ly b=s then
    match oH (λi=>some (i*s,s)) (J5 len b) parts with
    |some l=>match pP e len l with
     |some m=>some (sc (.own N),[(N,some (.sl e m))])
     |none=>none
    |none=>none
   else none
  |_,_,_=>none
theorem bQ.madeA(hh:dN F ρ w h)(c:ρ N= .un)(f:0<W){l:List e.den}
 (g:w'=w.alloc (.cells cells ty)) (i:dT (Rd w (Av F ρ h) e) l cells.toList) (o:0<e.size):bQ F ρ w h N W (sc (.own N)) [(N,some (.sl e l))] (.slice (some ⟨w.heap.size,0,none⟩) l.length l.length) w':=by
 by_cases j:l=[]
 ·subst j;subst g;refine bQ.add hh c f (gf.alloc w _) (.sv (.slice (some ⟨w.heap.size,0,none⟩) 0 0)) (.sl e []) bY (λb _ m=>by simp[Pl.blk]at m) (λp=>⟨_,bU _ _ _, .inr ⟨rfl,_,rfl⟩⟩) _ _ (λ_=>aM.2 ⟨_,_,_,bU _ _ _,rfl⟩)
 ·have a:0<l.length:=by rcases l with _|_;exact absurd rfl j;simp
  have n:=dT.length (λ_ _=>Rd.length) i;exact bQ.made hh c f (.inl g) i a (aE _) (by rw[<-Array.length_toList,n];exact aE _) (bb (aE _))
theorem oI(hh:dN F ρ w h)(O:ρ N= .un)(Q:0<W){len:Nat}(R:F2 (λ(p:Nat×V)(q:Nat×Value)=>p.1=q.1/\aT w (Av F ρ h) ρ p.2 q.2) parts b):
 dG P F ρ w h N W (Instr.buildSlice t len b.toArray) (Tr.ofOpt (lH P t len parts N)):=by
 refine .ofOpt λq f=>?_;unfold lH at f;split at f
 ·simp at f
 rename_i S E;split at f
 case h_2=>simp at f
 rename_i s g0 U e G j X;split at f
 case isFalse=>simp at f
 rename_i n;obtain⟨o,rfl,n,g⟩:=n;split at f
 case h_2=>simp at f
 rename_i l Y;split at f<;>simp at f;rename_i m hm;subst f;obtain⟨i,A,H,u,B⟩:=qk j;have C:A.cells.size=e.size:=by rw[qZ w j H u,g]
 have hz:=eT (B w (Av F ρ h) ρ);have h2:¬(len*e.size>2^24):=ac
 have v:∀c:Array Value,aP w (Av F ρ h) ρ (J5 len U) c.toList->
  (∀a,Instr.fill (λi=>some (i*e.size,e.size)) c b=some a->(Instr.buildSlice t len b.toArray).run P w= .ok (.slice (some ⟨w.heap.size,0,none⟩) len len) (w.alloc (.cells a S)))->
  ∃r J,(Instr.buildSlice t len b.toArray).run P w= .ok r J/\bQ F ρ w h N W (sc (.own N)) [(N,some (.sl e m))] r J:=by
  intro c D x;obtain⟨a,y,h4⟩:=rT D R Y;obtain⟨K,d2⟩:=uJ hm h4;have L:=x a y;rw[<-K]at L;rw[<-K];exact⟨_,_,L,bQ.madeA hh O Q rfl d2 o⟩
 by_cases M:len*e.size=0
 ·have g:len=0:=by rcases Nat.mul_eq_zero.1 M with q|q;exact q;omega
  subst g;refine v #[] rfl λa y=>?_;have e0:∀(z:Array Value),Array.map (λi=>z[i % z.size]!) (Array.range 0)= #[]:=λz=>bY
  simp only[Instr.buildSlice,bJ,run_underlying (dh E),aZ,cg G,Nat.zero_mul,if_true,e0,y];simp[newRow]
 ·refine v ((Array.range (len*e.size)).map (λi=>A.cells[i % A.cells.size]!)) ?_ λa y=>?_
  ·have:=BV hz len;rw[<-pN A.cells e.size C len]at this;simpa using this
  ·simp only[Instr.buildSlice,bJ,run_underlying (dh E),aZ,cg G,h2,if_false,M,zeroValue,typeInfo,run_program,H,u,bD,y];simp[newRow]
def xL(P:Program)(t:TypeId)(x y:V)(N:Nat):Tr (V×eD):=
 match qY P t,vM x,vM y with
 |some b,some n,some c=>match ll P b,Ts P b,zT P b,JD P 8 b with
  |some s,some a,some (_,f),some e=>match ud e f with
   |some g=>if s=e.size/\0<s/\ly f=s/\1<=a then .need (0<=n.2/\n.2=c.2/\n.2*a<=281474976710656) (.leaf (sc (.own N),[(N,some (.sl e (ax n.2.toNat g)))]))else .stuck
   |none=> .stuck
  |_,_,_,_=> .stuck
 |_,_,_=> .stuck
theorem xM(hh:dN F ρ w h)(R:ρ N= .un)(S:0<W)(U:aT w (Av F ρ h) ρ x v)(X:aT w (Av F ρ h) ρ y u):
 dG P F ρ w h N W (Instr.makeSlice t v u) (xL P t x y N):=by
 unfold xL;split
 case h_2=>exact .stuck
 rename_i M n c Y hn hc;have:=kD hn U;subst this;have:=kD hc X;subst this;split
 case h_2=>exact .stuck
 rename_i s o g0 z0 e hs B p a0;split
 case h_2=>exact .stuck
 rename_i x0 C;split
 case isFalse=>exact .stuck
 rename_i D;obtain⟨rfl,q,E,a1⟩:=D;refine .need λhb=>?_;obtain⟨b1,b2,G⟩:=hb;obtain⟨i,l,H,r,J⟩:=qk p;have K:l.cells.size=e.size:=by rw[qZ w p H r,E]
 obtain⟨i',f,L⟩:=vF hs;obtain⟨a2,a,z⟩:=zX B;rw[H]at f a;simp at f a;subst f a;have hz:Rd w (Av F ρ h) e x0 l.cells.toList:=jj C (eT (J w (Av F ρ h) ρ));obtain⟨m,O⟩:=bo b1;rw[<-b2,O];rw[O]at G
 have Q:m<=281474976710656:=by
  have h9:((m*o:Nat):Int)<=281474976710656:=by rw[Int.natCast_mul];exact G
  have:=Nat.le_mul_of_pos_right m (show 0<o by omega);omega
 have b:=run_make (P:=P) w t M i l (dh Y) H r .i64 .i64 (m:Int) (m:Int) ac (bp _) (by rw[z,Int.mul_comm];exact G) ac;simp only[aG,L]at b
 have g:(madeCells l.cells (m*e.size)).toList=(ax m l.cells.toList).flatten:=by
  rw[<-pN l.cells e.size K m];apply List.ext_getElem?;intro j;simp only[madeCells,Array.toList_map,List.getElem?_map];by_cases hj:j<m*e.size<;>simp[hj]
 have A:=vR hz m;rw[<-g]at A;have:=bQ.madeA (W:=W) hh R S rfl A q (ty:=M);simp only[List.length_replicate,aG]at this⊢;exact .leaf b this
end
end
variable{a:List Nat}
section
section
variable{P:Program}{F:Nat->Prop}{ρ:Nat->Pl}{w:World}{h get:Nat->Option Ch}{N W:Nat}
def T0(l:List Int):List (BitVec 8):=(runesBytes l).data.toList.map UInt8.toBitVec
theorem DI(l:List Int):bM (T0 l)=runesBytes l:=by
 have:∀z:ByteArray,bM (z.data.toList.map UInt8.toBitVec)=z:=λ⟨d⟩=>by simp[bM,Function.comp_def]
 exact this _
theorem J6{l:List Int}:dT (Rd w A .i32) l vs↔vs=l.map (gL .i32):=by
 induction l generalizing vs with
 |nil=>exact Iff.rfl
 |cons x l c=>
  constructor
  ·rintro⟨a,b,rfl,e,f⟩;rw[c.1 f];simp only[Rd]at e;rw[e];rfl
  ·intro g;subst g;exact⟨[.int .i32 x],_,rfl,rfl,c.2 rfl⟩
def lI(P:Program)(a dst:TypeId)(x:V)(get:Nat->Option Ch):Tr (V×eD):=
 match zW P dst with
 |some k=>match x.one? with
  |some i=>match i.sc? with
   |some (false, .i32 n)=>if k= .i64/\(P.underlying a).isSome then .need (am n) (.leaf (pJ n,[]))else .stuck
   |some q=>if(P.underlying a).isSome then Tr.ofOpt ((BI k q.2).map λz=>(TY q.1 z,[]))else .stuck
   |none=> .stuck
  |none=> .stuck
 |none=>
  if DF P dst then
   match qY P a with
   |some e=>match zW P e,x.one? with
    |some .u8,some .nils=> .leaf (sc (.d .st []),[])
    |some .u8,some i=>match i.slice? get with
     |some ⟨.u8,l⟩=> .leaf (sc (.d .st l),[])
     |_=> .stuck
    |some .i32,some .nils=> .leaf (sc (.d .st []),[])
    |some .i32,some i=>match i.slice? get with
     |some ⟨.i32,l⟩=> .leaf (sc (.d .st (T0 l)),[])
     |_=> .stuck
    |_,_=> .stuck
   |none=> .stuck
  else
   match qY P dst,DF P a with
   |some e,true=>match zW P e,x.one? with
    |some .u8,some i=>match i.sc? with
     |some (_, .str s)=> .leaf (sc (.d (.sl .u8) s),[])
     |_=> .stuck
    |_,_=> .stuck
   |_,_=> .stuck
theorem Ah(l:List (BitVec 8)):∀(r:ByteArray),((l.map λx=>(x.toNat:Int)).foldl (λr n=>r.push (UInt8.ofNat n.toNat)) r)=⟨r.data++(l.map iX).toArray⟩:=by
 induction l with
 |nil=>intro r;simp
 |cons x l a=>
  intro r;simp only[aY,nu];rw[a]
  have:UInt8.ofNat ((x.toNat:Int).toNat)=iX x:=by
   apply UInt8.toBitVec_inj.1;simp
  rw[this];simp[ByteArray.push]
theorem rU(hh:dN F ρ w h)(hg:∀k b,get k=some b->h k=some b){g:TypeId}(E:aT w (Av F ρ h) ρ x v):dG P F ρ w h N W (convert g dst v) (lI P g dst x get):=by
 unfold lI;split
 ·rename_i k R;split
  case h_2=>exact .stuck
  rename_i i t;split
  case h_3=>exact .stuck
  ·rename_i n S;split
   case isFalse=>exact .stuck
   rename_i C;obtain⟨rfl,D⟩:=C;refine .need λhn=>?_;obtain⟨d,U⟩:=cX.1 D;have A:=nM S (aQ t E);subst A
   have C:(Conv.intToInt .i64 n).run P w= .ok (.int .i64 n) w:=by
    show pF (gL .i64 (IntKind.i64.wrap n)) w=_;rw[hn.wrap]
   exact .pure (r:= .int .i64 n) hh (by simp[Sc.val,convert,run_underlying U,run_underlying (ft R),C]) (aM.2 rfl)
  ·rename_i q _ S;split
   case isFalse=>exact .stuck
   rename_i D;refine .ofOpt λy X=>?_;cases C:BI k q.2 with
   |none=>simp[C]at X
   |some z=>
    simp[C]at X;subst X;obtain⟨d,U⟩:=cX.1 D;have A:=nM S (aQ t E);obtain⟨kk,n,e1,e2⟩:=xz (P:=P) w k q.2 z C;rw[e1]at A;subst A;exact⟨z.val,w,by simp[convert,run_underlying U,run_underlying (ft R),e2],bQ.pure hh vN⟩
 ·split
  ·rename_i o;split
   case h_2=>exact .stuck
   rename_i e J;split
   case h_5=>exact .stuck
   ·rename_i f t;have L:=aQ t E;simp[bh]at L;subst L;refine .pure (r:= .string (bM [])) hh ?_ (aM.2 rfl);rw[run_convert_bytes_string w g dst e _ 0 0 (dh J) (ft f) (hC o)];simp[Conv.bytesToString,bM];rfl
   ·rename_i i _ f t;split
    case h_2=>exact .stuck
    rename_i l D;have M:=gQ hh hg D (aQ t E);simp only at M;obtain⟨K,Y,c2⟩:=iO.load (P:=P) M;have c3:K=List.map cu l:=lF.1 Y;have A:K=(List.map (λ(x:BitVec 8)=>(x.toNat:Int)) l).map (gL .u8):=by rw[c3];simp[cu]
    refine .pure (r:= .string (bM l)) hh ?_ (aM.2 rfl);rcases c2 with⟨a0,a3,cap,rfl,_,q,_⟩|⟨rfl,rfl,a,rfl⟩
    ·rw[run_convert_bytes_string w g dst e _ _ cap (dh J) (ft f) (hC o)];have B:K.length=ah (α:=BitVec 8) l:=by rw[c3];simp
     rw[B,A]at q;rw[run_bytesToString w _ _ cap _ q,Ah];simp[bM]
    ·rw[run_convert_bytes_string w g dst e _ 0 0 (dh J) (ft f) (hC o)];cases a with
     |none=>simp[Conv.bytesToString,bM];rfl
     |some a=>
      have m:=run_loadCells_list (P:=P) w a [] (λj u G=>by simp at G);rw[run_bytesToString w a 0 0 [] (cf m)];simp[bM];rfl
   ·rename_i f t;have L:=aQ t E;simp[bh]at L;subst L;refine .pure (r:= .string (bM [])) hh ?_ (aM.2 rfl);rw[run_convert_runes_string w g dst e _ 0 0 (dh J) (ft f) (hC o)];simp[Conv.runesToString,bM];rfl
   ·rename_i i _ f t;split
    case h_2=>exact .stuck
    rename_i l D;have M:=gQ hh hg D (aQ t E);simp only at M;obtain⟨K,Y,c2⟩:=iO.load (P:=P) M;have A:K=List.map (gL .i32) l:=J6.1 Y;refine .pure (r:= .string (bM (T0 l))) hh ?_ (aM.2 rfl);rw[DI];rcases c2 with⟨a0,a3,cap,rfl,_,q,_⟩|⟨rfl,rfl,a,rfl⟩
    ·rw[run_convert_runes_string w g dst e _ _ cap (dh J) (ft f) (hC o)];have B:K.length=ah (α:=Int) l:=by rw[A];simp
     rw[B,A]at q;rw[run_runesToString w _ _ cap _ q]
    ·rw[run_convert_runes_string w g dst e _ 0 0 (dh J) (ft f) (hC o)];cases a with
     |none=>simp[Conv.runesToString,runesBytes]
     |some a=>
      have m:=run_loadCells_list (P:=P) w a [] (λj u G=>by simp at G);rw[run_runesToString w a 0 0 [] (cf m)]
  ·split
   case h_2=>exact .stuck
   rename_i e H O;split
   case h_2=>exact .stuck
   rename_i i f t;split
   case h_2=>exact .stuck
   rename_i kn s D;have A:=nM D (aQ t E);subst A;have Q:=run_bytes_of_string (P:=P) w g dst e (bM s) (hC O) (dh H) (ft f);have a4:(bM s).size=s.length:=by simp[bM,ByteArray.size]
   obtain⟨a1,a2⟩:=hh.same (gf.drewAlloc w (.cells (bytesRow (bM s) (grownCap w (bM s).size 0 e)) e ((bytesRow (bM s) (grownCap w (bM s).size 0 e)).size,(bytesRow (bM s) (grownCap w (bM s).size 0 e)).size+1)));refine .leaf Q ⟨ρ,eA.refl ρ,λ_ p q=>absurd p q,aM.2 ⟨_,rfl,?_⟩,a1,a2⟩;rw[a4];refine .inl ⟨w.heap.size,0,grownCap w s.length 0 e,s.map cu,rfl,grownCap_ge _ _ _ _,?_,λhA=>?_,lF.2 rfl,λj u G=>?_⟩
   ·rw[eP];show w.heap.size<w.heap.size+1;omega
   ·rcases hA with hA|⟨k,c,R,C,hb⟩
    ·have:=hh.gs _ hA;omega
    ·have:=(hh.fr k c _ R C hb).1;omega
   ·rw[bT,cell_of_row _ w.heap.size j _ _ _ (Go.heap_alloc_new w.drew _)]
    have a5:j<s.length:=by
     rcases br j s.length with q|q
     ·exact q
     ·rw[be (cf q)]at G;simp at G
    have H:(bytesRow (bM s) (grownCap w s.length 0 e))[j]?=(s.map cu)[j]?:=by
     unfold bytesRow;rw[Array.getElem?_append_left (by simp[bM];exact a5)];simp[bM,List.getElem?_map,Function.comp_def];rfl
    rw[H];exact G
def aun(a:UnOp)(x:V):Option V:=match x.one? with
 |some i=>match i.sc? with
  |some q=>match sun a q.2 with
   |some z=>some (TY q.1 z)
   |none=>none
  |none=>none
 |none=>none
theorem DJ(hh:dN F ρ w h){c:UnOp}(e:aT w (Av F ρ h) ρ x v):dG P F ρ w h N W (Op.unary c v) (Tr.ofOpt ((aun c x).map (·,[]))):=by
 refine .ofOpt λq b=>?_;cases a:aun c x with
 |none=>simp[a]at b
 |some y=>
  simp[a]at b;subst b;unfold aun at a;split at a
  case h_2=>simp at a
  rename_i i f;split at a
  case h_2=>simp at a
  rename_i q b;split at a<;>simp at a;rename_i z g;subst a;have j:=nM b (aQ f e);subst j;exact⟨_,w,DB w c _ _ g,bQ.pure hh vN⟩
def fp:Value->Value->Bool
 | .int _ a, .int _ b=>a==b
 | .bool a, .bool b=>a==b
 | .string a, .string b=>a.toList==b.toList
 |_,_=>false
def ci:List Value->List Value->Bool
 |[],[]=>true
 |x::a,y::b=>fp x y&&ci a b
 |_,_=>false
def Ft(t:Nat)(x y:Value):Prop:=(t=0/\∃k a b,x= .int k a/\y= .int k b)\/(t=1/\∃a b,x= .bool a/\y= .bool b)\/(t=2/\∃a b,x= .string a/\y= .string b)
def dE:List Nat->List Value->List Value->Prop
 |[],c,e=>c=[]/\e=[]
 |t::r,c,e=>∃x y a b,c=x::a/\e=y::b/\Ft t x y/\dE r a b
theorem dE.length:∀{l:List Nat}{xs c:List Value},dE l xs c->xs.length=l.length/\c.length=l.length
 |[],_,_,⟨rfl,rfl⟩=>⟨rfl,rfl⟩
 |_::_,_,_,⟨_,_,_,_,rfl,rfl,_,h⟩=>by obtain⟨a,b⟩:=dE.length h;simp[a,b]
theorem dE.append:∀{l m:List Nat}{xs c us vs:List Value},dE l xs c->dE m us vs->dE (l++m) (xs++us) (c++vs)
 |[],_,_,_,_,_,⟨rfl,rfl⟩,h=>h
 |_::_,_,_,_,_,_,⟨x,y,a,b,rfl,rfl,e,f⟩,h=>⟨x,y,_,_,rfl,rfl,e,dE.append f h⟩
theorem dE.split:∀{l m:List Nat}{xs c:List Value},dE (l++m) xs c->dE l (xs.take l.length) (c.take l.length)/\dE m (xs.drop l.length) (c.drop l.length)
 |[],_,_,_,h=>by simpa[dE]using h
 |_::_,_,_,_,⟨x,y,a,b,rfl,rfl,e,f⟩=>by
  obtain⟨p,q⟩:=dE.split f;exact⟨⟨x,y,_,_,rfl,rfl,e,cf p⟩,cf q⟩
theorem gv:∀{a b c d:List Value},a.length=b.length->ci (a++c) (b++d)=(ci a b&&ci c d)
 |[],[],_,_,_=>by simp[ci]
 |x::a,y::b,c,d,h=>by simp only[List.cons_append,ci,gv (a:=a) (b:=b) (cf h),Bool.and_assoc]
def Ai(P:Program)(f:TypeId->Option (List Nat)):List Field->Nat->Option (List Nat)
 |[],_=>some []
 |x::r,o=>if x.name≠ "_" /\x.offset=o then
   match f x.type,ll P x.type with
   |some a,some n=>if a.length=n then(match Ai P f r (o+n)with
    |some b=>some (a++b)
    |none=>none)else none
   |_,_=>none
  else none
def nP(P:Program):Nat->TypeId->Option (List Nat)
 |0,_=>none
 |d+1,t=>match P.underlying t with
  |some (.int _)=>some [0]
  |some .bool=>some [1]
  |some .string=>some [2]
  |some (.struct a)=>if P.stoodInHeld t then none else Ai P (nP P d) a.toList 0
  |_=>none
def eN(P:Program)(t:TypeId)(xs:List Value)(v:Value):Prop:=if fK P t=some true then v= .agg xs.toArray else xs=[v]
theorem xN(w:World)(d:Nat)(f:TypeId->Option (List Nat))(G:∀t c xs e x y,f t=some c->dE c xs e->eN P t xs x->eN P t e y->(Op.equalIn d t x y).run P w= .ok (ci xs e) w)
 (s:∀t c,f t=some c->(∃b,fK P t=some b/\(b=false->c.length=1))) (xs e:List Value):
 ∀(u:List Field)(o:Nat)(c:List Nat),Ai P f u o=some c->dE c (xs.drop o) (e.drop o)->(Op.eqFields d xs.toArray e.toArray u).run P w= .ok (ci (xs.drop o) (e.drop o)) w
 |[],o,c,j,z=>by
  simp[Ai]at j;subst j;obtain⟨A,B⟩:=z;rw[A,B];rfl
 |g::u,o,c,j,z=>by
  simp only[Ai]at j;split at j
  case isFalse=>simp at j
  rename_i O;obtain⟨r,rfl⟩:=O;split at j
  case h_2=>simp at j
  rename_i a n H C;split at j
  case isFalse=>simp at j
  rename_i Q;split at j<;>simp at j;rename_i b R;subst Q;subst j;obtain⟨J,S⟩:=z.split;obtain⟨U,i,A⟩:=s _ _ H;have m:=J.length
  have l:∀p:List Value,((p.drop g.offset).take a.length).length=a.length->∃v,(part g.type p.toArray g.offset).run P w= .ok v w/\eN P g.type ((p.drop g.offset).take a.length) v:=by
   intro p K;cases U
   ·have B:=A rfl;rw[B]at K⊢
    obtain⟨v,L⟩:∃v,(p.drop g.offset).take 1=[v]:=by
     match hq:(p.drop g.offset).take 1,K with
     |[v],_=>exact⟨v,rfl⟩
    refine⟨v,?_,by simp[eN,i,L]⟩
    have:p[g.offset]?=some v:=by
     have M:((p.drop g.offset).take 1)[0]?=some v:=by rw[L];rfl
     rw[iY ac,ji]at M;simpa using M
    simp[part,fB i,this]
   ·refine⟨.agg ((p.drop g.offset).take a.length).toArray,?_,by simp[eN,i]⟩;simp[part,fB i,cg C]
  obtain⟨x,X,Y⟩:=l xs m.1;obtain⟨y,y1,y2⟩:=l e m.2;have D:=G _ _ _ _ x y H J Y y2;have E:dE b (xs.drop (g.offset+a.length)) (e.drop (g.offset+a.length)):=by rw[<-ko,<-ko];exact S
  have ih:=xN w d f G s xs e u _ b R E
  have q:ci (xs.drop g.offset) (e.drop g.offset)=(ci ((xs.drop g.offset).take a.length) ((e.drop g.offset).take a.length)&&ci (xs.drop (g.offset+a.length)) (e.drop (g.offset+a.length))):=by
   rw[<-ko,<-ko,<-gv (by rw[m.1,m.2]),ej,ej]
  simp only[Op.eqFields,r,ne_eq,not_false_eq_true,if_true,bJ,X,y1,aZ,D];rw[q];cases ci ((xs.drop g.offset).take a.length) ((e.drop g.offset).take a.length)
  ·rfl
  ·simp only[Bool.not_true,cz,if_false,lx];exact ih
theorem rV(h:nP P d t=some a):∃b,fK P t=some b/\(b=false->a.length=1):=by
 cases d with
 |zero=>simp[nP]at h
 |succ d=>
  simp only[nP]at h;split at h
  ·rename_i c;simp at h;subst h;exact⟨false,by simp[fK,c],λ_=>rfl⟩
  ·rename_i c;simp at h;subst h;exact⟨false,by simp[fK,c],λ_=>rfl⟩
  ·rename_i c;simp at h;subst h;exact⟨false,by simp[fK,c],λ_=>rfl⟩
  ·rename_i c;exact⟨true,by simp[fK,c],λe=>by simp at e⟩
  ·simp at h
theorem oJ(w:World):∀(d c:Nat)(t:TypeId)(e:List Nat)(xs i:List Value)(x y:Value),nP P d t=some e->dE e xs i->eN P t xs x->eN P t i y->(Op.equalIn (d+c) t x y).run P w= .ok (ci xs i) w
 |0,_,_,_,_,_,_,_,h,_,_,_=>by simp[nP]at h
 |d+1,c,t,e,xs,i,x,y,h,n,o,p=>by
  have g:d+1+c=(d+c)+1:=ac
  rw[g];have one:fK P t=some false->xs=[x]/\i=[y]:=λr=>by simp[eN,r]at o p;exact⟨o,p⟩
  simp only[nP]at h;split at h
  ·rename_i k f;simp at h;subst h;obtain⟨rfl,rfl⟩:=one (by simp[fK,f]);obtain⟨_,_,_,_,g,j,l,_⟩:=n;simp at g j;obtain⟨rfl,_⟩:=g;obtain⟨rfl,_⟩:=j;rcases l with⟨_,v,a,b,rfl,rfl⟩|⟨q,_⟩|⟨q,_⟩
   ·rw[run_equalIn_int w (d+c) t v k a b f];simp[ci,fp]
   ·simp at q
   ·simp at q
  ·rename_i f;simp at h;subst h;obtain⟨rfl,rfl⟩:=one (by simp[fK,f]);obtain⟨_,_,_,_,g,j,l,_⟩:=n;simp at g j;obtain⟨rfl,_⟩:=g;obtain⟨rfl,_⟩:=j;rcases l with⟨q,_⟩|⟨_,a,b,rfl,rfl⟩|⟨q,_⟩
   ·simp at q
   ·rw[run_equalIn_bool w (d+c) t a b f];simp[ci,fp]
   ·simp at q
  ·rename_i f;simp at h;subst h;obtain⟨rfl,rfl⟩:=one (by simp[fK,f]);obtain⟨_,_,_,_,g,j,l,_⟩:=n;simp at g j;obtain⟨rfl,_⟩:=g;obtain⟨rfl,_⟩:=j;rcases l with⟨q,_⟩|⟨q,_⟩|⟨_,a,b,rfl,rfl⟩
   ·simp at q
   ·simp at q
   ·rw[run_equalIn_string w (d+c) t a b f];simp[ci,fp]
  ·rename_i u f;split at h
   ·simp at h
   rename_i s;simp[eN,fK,f]at o p;subst o p;have m:P.fieldsOf t=u:=by simp[Program.fieldsOf,f]
   rw[run_equalIn_struct (P:=P) w (d+c) t xs.toArray i.toArray (by rw[m];exact f) (cf s),m];have:=xN (P:=P) w (d+c) (nP P d) (λt e xs i x y z A B C=>oJ w d c t e xs i x y z A B C) (λ_ _ h=>rV h) xs i u.toList 0 e h (cf n);simpa using this
  ·simp at h
def jn:I->Option (Nat×Sc)
 | .k (.bool x)=>some (1, .bool x)
 | .d .bl x=>some (1, .bool x)
 | .k (.i64 x)=>some (0, .i64 x)
 | .d .i64 x=>some (0, .i64 x)
 | .k (.i32 x)=>some (0, .i32 x)
 | .d .i32 x=>some (0, .i32 x)
 | .k (.u8 x)=>some (0, .u8 x)
 | .d .u8 x=>some (0, .u8 x)
 |_=>none
def PL:Sc->Sc->Option Bool
 | .bool a, .bool b=>some (a==b)
 | .i64 a, .i64 b=>some (a==b)
 | .i32 a, .i32 b=>some (a==b)
 | .u8 a, .u8 b=>some (a==b)
 |_,_=>none
def ix:List I->List I->Option (List Nat×Bool)
 |[],[]=>some ([],true)
 |x::l,y::m=>match jn x,jn y with
  |some a,some b=>match PL a.2 b.2 with
   |some r=>match ix l m with
    |some q=>some (a.1::q.1,match l with
     |[]=>r
     |_::_=>r&&q.2)
    |none=>none
   |none=>none
  |_,_=>none
 |_,_=>none
theorem rW{i:I}{q:Nat×Sc}(h:jn i=some q)(a:bh w A ρ i vs):vs=[q.2.val]:=by
 unfold jn at h;split at h<;>simp at h<;>subst h<;>simpa[bh,Rd,Sc.val]using a
theorem lJ(a b:BitVec k):((a.toNat:Int)==(b.toNat:Int))=(a==b):=by
 rw[nr];simp only[aS];exact⟨λe=>BitVec.eq_of_toNat_eq ac,λe=>by rw[e]⟩
theorem J7{i j:I}{a b:Nat×Sc}(hi:jn i=some a)(o:jn j=some b)(h:PL a.2 b.2=some r):Ft a.1 a.2.val b.2.val/\fp a.2.val b.2.val=r:=by
 have f:∀{i:I}{a:Nat×Sc},jn i=some a->(∀x,a.2= .bool x->a.1=1)/\(∀x,a.2= .i64 x->a.1=0)/\(∀x,a.2= .i32 x->a.1=0)/\(∀x,a.2= .u8 x->a.1=0):=by
  intro i a h;unfold jn at h;split at h<;>simp at h<;>subst h<;>simp
 obtain⟨g,l,m,n⟩:=f hi;unfold PL at h;split at h<;>simp at h
 ·rename_i x y c e;rw[c,e];subst h;exact⟨.inr (.inl ⟨g _ c,_,_,rfl,rfl⟩),rfl⟩
 ·rename_i x y c e;rw[c,e];subst h;exact⟨.inl ⟨l _ c,_,_,_,rfl,rfl⟩,rfl⟩
 ·rename_i x y c e;rw[c,e];subst h;exact⟨.inl ⟨m _ c,_,_,_,rfl,rfl⟩,rfl⟩
 ·rename_i x y c e;rw[c,e];subst h;exact⟨.inl ⟨n _ c,_,_,_,rfl,rfl⟩,lJ _ _⟩
theorem rX{A:Nat->Prop}:∀{l m:List I}{q:List Nat×Bool}{xs f:List Value},ix l m=some q->aP w A ρ l xs->aP w A ρ m f->dE q.1 xs f/\ci xs f=q.2
 |[],[],q,xs,f,h,o,p=>by
  simp[ix]at h;subst h;have j:xs=[]:=o;have n:f=[]:=p;subst j n;exact⟨⟨rfl,rfl⟩,rfl⟩
 |[],_::_,_,_,_,h,_,_=>by simp[ix]at h
 |_::_,[],_,_,_,h,_,_=>by simp[ix]at h
 |x::l,y::m,q,xs,f,h,⟨a,b,j,s,t⟩,⟨c,d,n,u,v⟩=>by
  simp only[ix]at h;split at h
  case h_2=>simp at h
  rename_i K L g i;split at h
  case h_2=>simp at h
  rename_i r z;split at h
  case h_2=>simp at h
  rename_i B e;simp only[Option.some.injEq]at h;subst h;obtain⟨C,D⟩:=J7 g i z;obtain⟨E,G⟩:=rX e t v;have H:=rW g s;have J:=rW i u;subst H J j n;refine⟨⟨_,_,_,_,rfl,rfl,C,E⟩,?_⟩;simp only[List.singleton_append,ci,D,G];split
  ·have:B.2=true:=by
    cases m with
    |nil=>simp[ix]at e;rw[<-e]
    |cons _ _=>simp[ix]at e
   rw[this,Bool.and_true]
  ·rfl
def vT(P:Program)(b:BinOp)(t:TypeId)(l m:List I):Option V:=
 if P.eqGuardType P.depth t then none else
 match fK P t,nP P 12 t,ix l m with
 |some true,some a,some q=>if q.1=a then
  match b with
  | .eql=>some (sc (.d .bl q.2))
  | .neq=>some (sc (.d .bl (!q.2)))
  |_=>none
  else none
 |_,_,_=>none
theorem vU{f:BinOp}{l:List I}{z:V}{a:List Value}(h:vT P f t l m=some z)(n:aP w A ρ l xs)(o:aP w A ρ m a):
 ∃r,(do eqGuard f t ex ey (.agg xs.toArray) (.agg a.toArray);binOp f t (.agg xs.toArray) (.agg a.toArray):Sem Value).run P w= .ok r w/\aT w A ρ z r:=by
 unfold vT at h;split at h
 ·simp at h
 rename_i p;split at h
 case h_2=>simp at h
 rename_i b q c e s;split at h
 case isFalse=>simp at h
 rename_i u;obtain⟨i,v⟩:=rX s n o;rw[u]at i;have j:=run_eqGuard_agg w f t ex ey xs.toArray a.toArray (cf p);have g:=oJ (P:=P) w 12 9988 t b xs a (.agg xs.toArray) (.agg a.toArray) e i (by simp[eN,c]) (by simp[eN,c]);rw[v]at g;split at h
 ·simp at h;subst h;exact⟨.bool q.2,by rw[bJ,j,aZ,run_eql_struct,g,aZ],aM.2 rfl⟩
 ·simp at h;subst h;exact⟨.bool (!q.2),by rw[bJ,j,aZ,run_neq_struct,g,aZ],aM.2 rfl⟩
 ·simp at h
end
end
section
def uf{α:Type}(f:α->α->Bool):List α->List α->Bool
 |[],[]=>true
 |a::l,b::m=>f a b&&uf f l m
 |_,_=>false
def jd:(t:Ty)->t.den->t.den->Bool
 | .bl,a,b=>(show Bool from a)==b
 | .i64,a,b=>(show Int from a)==b
 | .i32,a,b=>(show Int from a)==b
 | .u8,a,b=>(show BitVec 8 from a)==b
 | .u64,a,b=>(show BitVec 64 from a)==b
 | .st,a,b=>(show List (BitVec 8)from a)==b
 | .yl,a,b=>(show Nat from a)==b
 | .un,_,_=>true
 | .pr a .un,x,y=>jd a x.1 y.1
 | .pr a r,x,y=>jd a x.1 y.1&&jd r x.2 y.2
 | .ar _ e,l,m=>uf (jd e) l m
 | .sl e,l,m=>uf (jd e) l m
 | .pf t,x,y=>jd t x y
 | .fm k v,l,m=>uf (λa b=>jd k a.1 b.1&&jd v a.2 b.2) l m
theorem oK{α:Type}{f:α->α->Bool}(c:∀a b,f a b=true↔a=b):∀{l m:List α},uf f l m=true↔l=m
 |[],[]=>by simp[uf]
 |[],_::_=>by simp[uf]
 |_::_,[]=>by simp[uf]
 |a::l,b::m=>by simp[uf,c,oK c (l:=l) (m:=m)]
theorem Fu(a r:Ty)(x y:(Ty.pr a r).den):jd (.pr a r) x y=(jd a x.1 y.1&&jd r x.2 y.2):=by
 cases r<;>first|rfl|(simp[jd])
theorem eR:∀{t:Ty}{x y:t.den},jd t x y=true↔x=y:=by
 intro t
 induction t with
 |un=>intro x y;exact⟨λ_=>rfl,λ_=>rfl⟩
 |pr a r f g=>
  intro x y;rw[Fu,aK,f,g];exact⟨λ⟨i,j⟩=>ga i j,λh=>by rw[h];exact⟨rfl,rfl⟩⟩
 |ar n e c=>intro x y;exact oK (λ_ _=>c)
 |sl e c=>intro x y;exact oK (λ_ _=>c)
 |pf t c=>intro x y;exact c
 |fm k v l m=>intro x y;exact oK (λa b=>by rw[aK,l,m];exact⟨λ⟨i,j⟩=>ga i j,λh=>by rw[h];exact⟨rfl,rfl⟩⟩)
 |_=>intro x y;simp[jd]
def gw:Ty->Option (List Nat)
 | .bl=>some [1]
 | .i64=>some [0]
 | .i32=>some [0]
 | .u8=>some [0]
 | .u64=>some [0]
 | .st=>some [2]
 | .un=>some []
 | .pr a r=>match gw a,gw r with
   |some x,some y=>some (x++y)
   |_,_=>none
 | .ar n e=>match gw e with
   |some x=>some (ax n x).flatten
   |none=>none
 | .sl _=>none
 | .pf _=>none
 | .fm .. =>none
 | .yl=>none
theorem xO{α:Type}{R:α->List Value->Prop}{f:α->α->Bool}{o:List Nat}(r:∀x y xs c,R x xs->R y c->dE o xs c/\ci xs c=f x y):
 ∀{l m:List α}{xs c:List Value},l.length=m.length->dT R l xs->dT R m c->dE (ax l.length o).flatten xs c/\ci xs c=uf f l m
 |[],[],xs,c,_,e,g=>by
  have i:xs=[]:=e;have j:c=[]:=g;subst i j;exact⟨⟨rfl,rfl⟩,rfl⟩
 |[],_::_,_,_,h,_,_=>by simp at h
 |_::_,[],_,_,h,_,_=>by simp at h
 |a::l,b::m,xs,c,h,⟨p,q,i,e,g⟩,⟨A,B,j,s,t⟩=>by
  obtain⟨n,u⟩:=r _ _ _ _ e s;obtain⟨v,z⟩:=xO r (cf h) g t;subst i j;refine⟨by simpa[List.replicate_succ]using n.append v,?_⟩;rw[gv (by rw[n.length.1,n.length.2]),u,z];rfl
theorem rY:∀{t:Ty}{l:List Nat}{x y:t.den}{xs j:List Value},gw t=some l->Rd w A t x xs->Rd w A t y j->dE l xs j/\ci xs j=jd t x y:=by
 intro t
 induction t with
 |un=>intro l x y xs j h g i;simp[gw]at h;subst h;simp only[Rd]at g i;subst g i;exact⟨⟨rfl,rfl⟩,rfl⟩
 |sl e=>intro l x y xs j h;simp[gw]at h
 |pf e=>intro l x y xs j h;simp[gw]at h
 |fm=>intro l x y xs j h;simp[gw]at h
 |yl=>intro l x y xs j h;simp[gw]at h
 |pr a r m o=>
  intro l x y xs j h ⟨c,d,z,g,i⟩ ⟨K,L,B,C,D⟩;simp only[gw]at h;split at h<;>simp at h;rename_i M N p q;subst h;obtain⟨s,E⟩:=m p g C;obtain⟨F,G⟩:=o q i D;subst z B;refine⟨s.append F,?_⟩;rw[gv (by rw[s.length.1,s.length.2]),E,G,Fu]
 |ar n e H=>
  intro l x y xs j h ⟨v,g⟩ ⟨J,i⟩;simp only[gw]at h;split at h<;>simp at h;rename_i O u;subst h;have:=xO (f:=jd e) (λ_ _ _ _ a b=>H u a b) (v.trans J.symm) g i;rw[v]at this;exact this
 |bl=>intro l x y xs j h g i;simp[gw]at h;subst h;simp only[Rd]at g i;subst g i;exact⟨⟨_,_,_,_,rfl,rfl, .inr (.inl ⟨rfl,_,_,rfl,rfl⟩),rfl,rfl⟩,by simp[ci,fp,jd]⟩
 |i64=>intro l x y xs j h g i;simp[gw]at h;subst h;simp only[Rd]at g i;subst g i;exact⟨⟨_,_,_,_,rfl,rfl, .inl ⟨rfl,_,_,_,rfl,rfl⟩,rfl,rfl⟩,by simp[ci,fp,jd]⟩
 |i32=>intro l x y xs j h g i;simp[gw]at h;subst h;simp only[Rd]at g i;subst g i;exact⟨⟨_,_,_,_,rfl,rfl, .inl ⟨rfl,_,_,_,rfl,rfl⟩,rfl,rfl⟩,by simp[ci,fp,jd]⟩
 |u8=>
  intro l x y xs j h g i;simp[gw]at h;subst h;simp only[Rd]at g i;subst g i;exact⟨⟨_,_,_,_,rfl,rfl, .inl ⟨rfl,_,_,_,rfl,rfl⟩,rfl,rfl⟩,by simp only[ci,fp,cu,jd,Bool.and_true];exact lJ _ _⟩
 |u64=>
  intro l x y xs j h g i;simp[gw]at h;subst h;simp only[Rd]at g i;subst g i;exact⟨⟨_,_,_,_,rfl,rfl, .inl ⟨rfl,_,_,_,rfl,rfl⟩,rfl,rfl⟩,by simp only[ci,fp,ku,jd,Bool.and_true];exact lJ _ _⟩
 |st=>
  intro l x y xs j h g i;simp[gw]at h;subst h;simp only[Rd]at g i;subst g i;exact⟨⟨_,_,_,_,rfl,rfl, .inr (.inr ⟨rfl,_,_,rfl,rfl⟩),rfl,rfl⟩,by simp only[ci,fp,jd,Bool.and_true];exact vB _ _⟩
section
variable{P:Program}{w:World}
theorem DK(d:Nat)(t e:TypeId)(n k:Nat)(xs b:List Value)(v:P.underlying t=some (.array n e))(A:ll P e=some 1)(f:fK P e=some false)
 (j:∀x y,Ft k x y->(Op.equalIn d e x y).run P w= .ok (fp x y) w) (B:xs.length=n) (C:dE (ax n k) xs b):
 (Op.equalIn (d+1) t (.agg xs.toArray) (.agg b.toArray)).run P w= .ok (ci xs b) w:=by
 simp only[Op.equalIn,bJ,run_underlying v,aZ,cg A];rw[Std.Legacy.Range.forIn_eq_forIn_range'];have l:Std.Legacy.Range.size [0:n]=n:=by simp[Std.Legacy.Range.size]
 simp only[l]
 have a:∀(h:List Value)(k:Nat)(z:Value),h[k]?=some z->(part e h.toArray (k*1)).run P w= .ok z w:=by
  intro h k z D;simp only[part,bJ,fB f,aZ,cz,if_false,Nat.mul_one];have:h.toArray[k]?=some z:=cf D
  rw[this];rfl
 suffices g:∀(m q:Nat)(as c:List Value),as.length=m->dE (ax m k) as c->(∀i,xs[q+i]?=as[i]?)->(∀i,b[q+i]?=c[i]?)->
  (((forIn (mG q m) ((none,⟨⟩):Option Bool×PUnit) λi __s=>do
   let __do_lift<-part e xs.toArray (i*1)
   let __do_lift_1<-part e b.toArray (i*1)
   let __do_lift<-Op.equalIn d e __do_lift __do_lift_1
   if(!__do_lift)=true then pure (ForInStep.done (some false,⟨⟩))else pure (ForInStep.yield (none,⟨⟩)):Sem (Option Bool×PUnit)).run P w)=
    .ok (if ci as c then(none,⟨⟩)else(some false,⟨⟩)) w)by
  have E:=g n 0 xs b B C (λi=>bY) (λi=>bY);refine(aI (Result.andThen · _) E).trans ?_;cases ci xs b<;>rfl
 intro m
 induction m with
 |zero=>
  intro q as c p o _ _;obtain⟨rfl,rfl⟩:=o;simp[ci]
 |succ m F=>
  intro q as c p o r s;obtain⟨x,y,as,c,rfl,rfl,G,H⟩:=o;have J:=a xs q x (by simpa using r 0);have K:=a b q y (by simpa using s 0);rw[List.range'_succ,List.forIn_cons];simp only[bJ,J,K,j x y G,aZ];cases u:fp x y
  ·simp[ci,u]
  ·have:=F (q+1) as c (cf p) H (λi=>by have:=r (i+1);simpa[fv,fq 1]using this) (λi=>by have:=s (i+1);simpa[fv,fq 1]using this);simp only[Bool.not_true,cz,if_false,bD,aZ,ci,u,lx];exact this
def xP(P:Program)(t:TypeId):Option (List Nat):=
 match P.underlying t with
 |some (.array n e)=>match nP P 4 e,ll P e,fK P e with
  |some [k],some 1,some false=>some (ax n k)
  |_,_,_=>none
 |_=>nP P 8 t
theorem Fv(h:xP P t=some a):∃b,fK P t=some b/\(b=false->a.length=1):=by
 unfold xP at h;split at h
 ·rename_i c;exact⟨true,by simp[fK,c],λe=>by simp at e⟩
 ·exact rV h
theorem Fw{c:List Nat}(h:xP P t=some c)(i:dE c xs vs)(j:eN P t xs v)(l:eN P t vs u):(Op.equal t v u).run P w= .ok (ci xs vs) w:=by
 unfold xP at h;unfold Op.equal Op.maxDepth;split at h
 ·rename_i n e o;split at h<;>simp at h;rename_i k p q f;subst h;simp[eN,fK,o]at j l;subst j l;refine DK 9999 t e n k xs vs o q f (λa b m=>?_) (by have:=i.length.1;simpa using this) i;have:=oJ (P:=P) w 4 9995 e [k] [a] [b] a b p ⟨a,b,[],[],rfl,rfl,m,rfl,rfl⟩ (by simp[eN,f]) (by simp[eN,f]);simpa[ci]using this
 ·exact oJ (P:=P) w 8 9992 t c xs vs v u h i j l
theorem nQ:∀(d c:Nat)(u:Bool)(t:TypeId)(e:List Nat)(xs:List Value)(x:Value),nP P d t=some e->xs.length=e.length->eN P t xs x->(gF u (d+c) t x).run P w= .ok () w
 |0,_,_,_,_,_,_,h,_,_=>by simp[nP]at h
 |d+1,c,u,t,e,xs,x,h,E,z=>by
  have F:d+1+c=(d+c)+1:=ac
  rw[F];simp only[nP]at h;split at h
  ·rename_i k l;simp[gF,run_underlying l]
  ·rename_i l;simp[gF,run_underlying l]
  ·rename_i l;simp[gF,run_underlying l]
  ·rename_i m l;split at h
   ·simp at h
   simp[eN,fK,l]at z;subst z;simp only[gF,bJ,run_underlying l,aZ];rw[<-Array.forIn_toList]
   suffices r:∀(m:List Field)(o:Nat)(e:List Nat),Ai P (nP P d) m o=some e->(xs.drop o).length=e.length->
    ((forIn m PUnit.unit λf __s=>do
      if f.name≠ "_" then do
       let __do_lift<-part f.type xs.toArray f.offset
       gF u (d+c) f.type __do_lift
       pure (ForInStep.yield PUnit.unit)
      else pure (ForInStep.yield PUnit.unit):Sem PUnit).run P w)= .ok PUnit.unit w by
    have:=r m.toList 0 e h (cf E);exact(aI (Result.andThen · _) this).trans rfl
   intro m
   induction m with
   |nil=>intro o e _ _;simp
   |cons g m G=>
    intro o e j s;simp only[Ai]at j;split at j
    case isFalse=>simp at j
    rename_i H;obtain⟨p,rfl⟩:=H;split at j
    case h_2=>simp at j
    rename_i a n A y;split at j
    case isFalse=>simp at j
    rename_i J;split at j<;>simp at j;rename_i b K;subst J;subst j;obtain⟨L,i,M⟩:=rV A;simp at s
    have q:∃v,(part g.type xs.toArray g.offset).run P w= .ok v w/\eN P g.type ((xs.drop g.offset).take a.length) v:=by
     have B:((xs.drop g.offset).take a.length).length=a.length:=eM
     cases L
     ·have N:=M rfl;rw[N]at B⊢
      obtain⟨v,C⟩:∃v,(xs.drop g.offset).take 1=[v]:=by
       match R:(xs.drop g.offset).take 1,B with
       |[v],_=>exact⟨v,rfl⟩
      refine⟨v,?_,by simp[eN,i,C]⟩
      have:xs[g.offset]?=some v:=by
       have D:((xs.drop g.offset).take 1)[0]?=some v:=by rw[C];rfl
       rw[iY ac,ji]at D;simpa using D
      simp[part,fB i,this]
     ·refine⟨.agg ((xs.drop g.offset).take a.length).toArray,?_,by simp[eN,i]⟩;simp[part,fB i,cg y]
    obtain⟨v,O,Q⟩:=q;have:=nQ d c u g.type a ((xs.drop g.offset).take a.length) v A eM Q;rw[List.forIn_cons];simp only[p,ne_eq,not_false_eq_true,if_true,bJ,O,aZ,this,bD];exact G _ b K eM
  ·simp at h
theorem vV(d:Nat)(f:Bool)(t e:TypeId)(n:Nat)(xs:List Value)(j:P.underlying t=some (.array n e))(l:ll P e=some 1)(b:fK P e=some false)
 (g:∀x,(gF f d e x).run P w= .ok () w) (p:xs.length=n):(gF f (d+1) t (.agg xs.toArray)).run P w= .ok () w:=by
 simp only[gF,bJ,run_underlying j,aZ];rw[Std.Legacy.Range.forIn_eq_forIn_range'];have h:Std.Legacy.Range.size [0:n]=n:=by simp[Std.Legacy.Range.size]
 simp only[h]
 suffices c:∀(m q:Nat),q+m<=xs.length->
  ((forIn (mG q m) PUnit.unit λi __s=>do
    let __do_lift<-sizeOf e
    let __do_lift<-part e xs.toArray (i*__do_lift)
    gF f d e __do_lift
    pure (ForInStep.yield PUnit.unit):Sem PUnit).run P w)= .ok PUnit.unit w by
  have:=c n 0 ac;exact(aI (Result.andThen · _) this).trans rfl
 intro m
 induction m with
 |zero=>intro q _;simp
 |succ m o=>
  intro q r
  have a:(part e xs.toArray (q*1)).run P w= .ok xs[q] w:=by
   simp only[part,bJ,fB b,aZ,cz,if_false,Nat.mul_one];have:xs.toArray[q]?=some xs[q]:=bY
   rw[this];rfl
  rw[List.range'_succ,List.forIn_cons];simp only[bJ,cg l,aZ,a,g,bD];exact o (q+1) ac
theorem ug{b:List Nat}(f:Bool)(h:xP P t=some b)(i:xs.length=b.length)(g:eN P t xs v):(gF f 10000 t v).run P w= .ok () w:=by
 unfold xP at h;split at h
 ·rename_i n e j;split at h<;>simp at h;rename_i k l m c;subst h;simp[eN,fK,j]at g;subst g;refine vV 9999 f t e n xs j m c (λa=>?_) (cf i);exact nQ 4 9995 f e [k] [a] a l rfl (by simp[eN,c])
 ·exact nQ 8 9992 f t b xs v h i g
end
end
end Go.Hv
