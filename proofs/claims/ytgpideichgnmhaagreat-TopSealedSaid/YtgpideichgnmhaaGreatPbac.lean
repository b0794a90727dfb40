/- A part of the proof of TopSealedSaid: no conditions; packed by a program of our own. -/
import Derived.Test.YtgpideichgnmhaaGreatPbab
import Derived.Laws.Pointers
import Derived.Lib.AppendZerosOnto
import Derived.Laws.IdiomStrings
import Derived.Laws.Cover4
import Derived.Maps.RangeRun
import Derived.Lib.OthersKept
open Array renaming length_toList→s8
open Bool renaming eq_iff_iff→mi,and_eq_true→aI,false_eq_true→cu,or_eq_true→iH,true_and→fp
open Decidable renaming not_not→aC
open Go.Builtin renaming append_→cV,firstCells→cX,zeroCells→bL,copy_→gI
open Go.Instr renaming sureAddr→rY,sliceAt→nh,checkKey→fZ
open Go.IntKind renaming wrap_i64→dm
open Go.Result renaming ok→og,andThen_ok→aX
open Go.Sem renaming run_pure→bA,run_bind→bF
open Go.Value renaming int→gj,oneCell'→dH
open Go.World renaming size_alloc→dX
open Int renaming toNat_natCast→aF,eq_ofNat_of_zero_le→bR,le_refl→bY
open List renaming map_cons→aY,replicate→ak,length_append→aa,length_cons→ba,append_assoc→ay,drop_of_length_le→bC,nil_append→eS,take_of_length_le→bf,append_nil→aW,getElem?_take_of_lt→iF,getElem?_drop→iO,getElem?_append_left→bU,drop_drop→jz,take_append_drop→dI,length_take→be,length→ah,range→kz,getElem?_eq_none→bD,length_nil→de,map_append→dn,length_map→bT,mem_map→dM,map→rZ,range'→pA
open Nat renaming min_eq_left→eB,add_comm→eJ,le_refl→aD,le_trans→bq,zero_add→bN,zero_le→aq,add_assoc→eO,lt_or_ge→bI,eq_zero_or_pos→jZ
open Option renaming map_eq_some_iff→mj,isSome_iff_exists→cJ
open Prod renaming ext→r6
open UInt8 renaming ofBitVec→iE
namespace Go.Hv
open Go.RowKit
section
def ip(w:World)(A:Nat->Prop)(e:Ty)(l:List e.den)(v:Value):Prop:=
 (∃b c cap f,v= .slice (some ⟨b,c,none⟩) l.length cap/\l.length<=cap/\dz (Rd w A e) l f/\∀i u,f[i]?=some u->w.cell? ⟨b,c+i,none⟩=some u)\/(l=[]/\∃a,v= .slice a 0 0)
theorem lW.reads{w:World}{A:Nat->Prop}{e:Ty}{l:List e.den}{v:Value}(h:lW w A (Rd w A e) l v):ip w A e l v:=by
 rcases h with⟨a,b,cap,c,f,g,_,_,i,j⟩|h
 ·exact .inl ⟨a,b,cap,c,f,g,i,j⟩
 ·exact .inr h
theorem vU.reads{w:World}{A:Nat->Prop}{e:Ty}{l:List e.den}{v:Value}(h:vU w A e l v):ip w A e l v:=by
 rcases h with⟨b,cap,cells,g,c,rfl,_,j,m,_,n,o⟩|h
 ·refine .inl ⟨b,0,cap,c,rfl,m,n,λi u a=>?_⟩;rw[bN,cell_of_row w b _ cells g (0,0) j]
  have f:i<c.length:=by
   rcases bI i c.length with q|q
   ·exact q
   ·rw[bD q]at a;simp at a
  rw[<-o,iF f]at a;simpa using a
 ·exact .inr h
def I.slice?(i:I)(get:Nat->Option Ch):Option (Σ e:Ty,List e.den):=
 match i with
 | .own q=>match get q with
   |some (.sl e l)=>some ⟨e,l⟩
   |some (.fr e l)=>some ⟨e,l⟩
   |_=>none
 | .sub q a n e=>match get q with
   |some (.cells l)=>match fT l a (n*e.size)with
    |some m=>match so (.ar n e) m with
     |some x=>some ⟨e,x⟩
     |none=>none
    |none=>none
   |_=>none
 |i=>i.frozen? get
theorem gq{F:Nat->Prop}{ρ:Nat->Pl}{w:World}{h get:Nat->Option Ch}{i:I}{q:Σ e:Ty,List e.den}{v:Value}(hh:dq F ρ w h)(r:∀k b,get k=some b->h k=some b)(hi:I.slice? i get=some q)(t:bj w (Av F ρ h) ρ i [v]):
 ip w (Av F ρ h) q.1 q.2 v:=by
 unfold I.slice? at hi;split at hi
 ·rename_i k;obtain⟨a,n,c,s,g⟩:=t;simp at g;subst g;split at hi<;>simp at hi
  ·rename_i e l j;subst hi;obtain⟨u,f,y⟩:=hh.ok _ _ (r _ _ j);rw[s]at f;simp at f;subst f;exact y.reads
  ·rename_i e l j;subst hi;obtain⟨u,f,y⟩:=hh.ok _ _ (r _ _ j);rw[s]at f;simp at f;subst f;exact lW.reads y
 ·rename_i k p n e;obtain⟨b,s,g⟩:=t;simp at g;subst g;split at hi
  case h_2=>simp at hi
  rename_i l j;split at hi
  case h_2=>simp at hi
  rename_i m C;split at hi<;>simp at hi;rename_i x D;subst hi;obtain⟨L,E,M,z,G,H⟩:=hh.ok _ _ (r _ _ j);rw[s]at z;simp at z;subst z;obtain⟨O,J⟩:=gL H C;obtain⟨B,K⟩:=iP D J;refine .inl ⟨b,p,n,_,by rw[B],Nat.le_of_eq B,K,λi u A=>?_⟩;have:=jj (vs:=E.toList) (off:=p) (n:=n*e.size) (w:=w) (blk:=b) (o:=0) (by simpa using nr G) i u A;simpa using this
 ·exact lW.reads (jF hh r hi t)
theorem ip.len{w:World}{A:Nat->Prop}{e:Ty}{l:List e.den}{v:Value}(h:ip w A e l v):∃a c,v= .slice a l.length c:=by
 rcases h with⟨b,f,cap,g,rfl,_⟩|⟨rfl,a,rfl⟩
 ·exact⟨_,_,rfl⟩
 ·exact⟨_,_,rfl⟩
theorem ip.load{P:Program}{w:World}{A:Nat->Prop}{e:Ty}{l:List e.den}{v:Value}(h:ip w A e l v):
 ∃cs,dz (Rd w A e) l cs/\((∃blk off cap,v= .slice (some ⟨blk,off,none⟩) l.length cap/\l.length<=cap/\(loadCells ⟨blk,off,none⟩ cs.length).run P w= .ok cs.toArray w/\∀i u,cs[i]?=some u->w.cell? ⟨blk,off+i,none⟩=some u)\/(l=[]/\cs=[]/\∃a,v= .slice a 0 0)):=by
 rcases h with⟨blk,off,cap,cs,b,f,g,c⟩|⟨rfl,a,b⟩
 ·exact⟨cs,g, .inl ⟨blk,off,cap,b,f,iR w blk off cs c,c⟩⟩
 ·exact⟨[],rfl, .inr ⟨rfl,rfl,a,b⟩⟩
section
variable{P:Program}{F:Nat->Prop}{ρ:Nat->Pl}{w:World}{h get:Nat->Option Ch}{N W:Nat}
def Qr(n:Int):V:=sc (.k (.i64 n))
def oo(n:Int):V:=sc (.d .i64 n)
def IJ(P:Program)(t:TypeId)(x:V)(get:Nat->Option Ch):Option V:=
 match pS P t with
 |some _=>match x.one? with
  |some .nils=>some (Qr 0)
  |some i=>match i.slice? get with
   |some q=>some (oo (q.2.length:Int))
   |none=>none
  |none=>none
 |none=>
  if BT P t then match x.one? with
   |some (.k (.str s))=>some (Qr (s.length:Int))
   |some (.d .st (s:List (BitVec 8)))=>some (oo (s.length:Int))
   |_=>none
  else match P.underlying t with
   |some (.map _ _)=>match x.one? with
    |some (.mp k)=>match get k with
     |some (.mp _ _ l)=>some (oo (l.length:Int))
     |some (.lk _ _ l)=>some (oo (l.length:Int))
     |_=>none
    |some (.fmp _ _ l)=>some (oo (l.length:Int))
    |_=>none
   |_=>none
theorem yr(hh:dq F ρ w h)(A:∀k b,get k=some b->h k=some b){t ty:TypeId}{x:V}{v:Value}(r:aT w (Av F ρ h) ρ x v):dl P F ρ w h N W (Builtin.len_ #[t] ty #[v]) (Tr.ofOpt ((IJ P t x get).map (·,[]))):=by
 refine .ofOpt λq u=>?_;cases f:IJ P t x get with
 |none=>simp[f]at u
 |some y=>
  simp[f]at u;subst u;unfold IJ at f;split at f
  ·rename_i e H;split at f
   ·rename_i m;simp at f;subst f;have n:=aN m r;simp[bj]at n;subst n;exact⟨.int .i64 0,w,by simp[Builtin.len_,run_underlying (cP H),goInt],bM.pure hh (aJ.2 rfl)⟩
   ·rename_i i _ m;split at f<;>simp at f;rename_i q u;subst f;obtain⟨a,c,rfl⟩:=(gq hh A u (aN m r)).len;exact⟨.int .i64 q.2.length,w,by simp[Builtin.len_,run_underlying (cP H),goInt],bM.pure hh (aJ.2 rfl)⟩
   ·simp at f
  ·split at f
   ·rename_i J;have go:∀s:List (BitVec 8),(bH s).size=s.length:=λs=>by simp[bH,ByteArray.size]
    split at f
    case h_3=>simp at f
    ·rename_i s m;simp at f;subst f;have n:=aN m r;simp[bj,Sc.val]at n;subst n;exact⟨.int .i64 s.length,w,by simp[Builtin.len_,run_underlying (gA J),goInt,go],bM.pure hh (aJ.2 rfl)⟩
    ·rename_i s m;simp at f;subst f;have n:=aN m r;simp[bj,Rd]at n;subst n;exact⟨.int .i64 s.length,w,by simp[Builtin.len_,run_underlying (gA J),goInt,go],bM.pure hh (aJ.2 rfl)⟩
   ·split at f
    case h_2=>simp at f
    rename_i Q R K;split at f
    case h_3=>simp at f
    case h_2=>
     rename_i g j l m;obtain⟨b,z,_,_,M⟩:=aN m r;simp at z f;subst z;subst f;obtain⟨B,clock,C,D,_⟩:=M;have o:(getObj b).run P w= .ok (.map B clock) w:=by simp[getObj,Sem.run,C]
     exact⟨.int .i64 l.length,w,by simp[Builtin.len_,run_underlying K,goInt,o,D.length],bM.pure hh (aJ.2 rfl)⟩
    rename_i k m;obtain⟨b,L,z⟩:=aN m r;simp at z;subst z
    have go:∀{g j:Ty}{l:List (g.den×j.den)},mq w (Av F ρ h) g j l b->(Builtin.len_ #[t] ty #[.map (some b)]).run P w= .ok (.int .i64 l.length) w:=by
     rintro g j l ⟨B,clock,C,D,_⟩;have o:(getObj b).run P w= .ok (.map B clock) w:=by simp[getObj,Sem.run,C]
     simp[Builtin.len_,run_underlying K,goInt,o,D.length]
    split at f<;>simp at f
    ·rename_i g j l E;subst f;obtain⟨O,p,G⟩:=hh.ok _ _ (A _ _ E);rw[L]at p;simp at p;subst p;exact⟨.int .i64 l.length,w,go G,bM.pure hh (aJ.2 rfl)⟩
    ·rename_i g j l E;subst f;obtain⟨O,p,G⟩:=hh.ok _ _ (A _ _ E);rw[L]at p;simp at p;subst p;exact⟨.int .i64 l.length,w,go G,bM.pure hh (aJ.2 rfl)⟩
def uo:V->Option (Bool×Int)
 | .val false [.k (.i64 n)]=>some (true,n)
 | .val false [.d .i64 n]=>some (false,n)
 |_=>none
theorem jG{A:Nat->Prop}{x:V}{q:Bool×Int}{v:Value}(a:uo x=some q)(b:aT w A ρ x v):v= .int .i64 q.2:=by
 unfold uo at a;split at a<;>simp at a<;>subst a
 ·have:=aJ.1 b;simpa[bj,Sc.val]using this
 ·have:=aJ.1 b;simpa[bj,Rd]using this
def Qs(k:Bool)(n:Int):V:=if k then Qr n else oo n
theorem zX{A:Nat->Prop}{k:Bool}{n:Int}:aT w A ρ (Qs k n) (.int .i64 n):=by
 cases k
 ·exact aJ.2 rfl
 ·exact aJ.2 rfl
def Qt(x y:V):Option V:=match uo x,uo y with
 |some a,some b=>some (Qs (a.1&&b.1) (max a.2 b.2))
 |_,_=>none
def Qu(x y:V):Option V:=match uo x,uo y with
 |some a,some b=>some (Qs (a.1&&b.1) (min a.2 b.2))
 |_,_=>none
theorem ys(hh:dq F ρ w h){ts:Array TypeId}{ty:TypeId}{x y:V}{v u:Value}(e:aT w (Av F ρ h) ρ x v)(f:aT w (Av F ρ h) ρ y u):dl P F ρ w h N W (Builtin.max_ ts ty #[v,u]) (Tr.ofOpt ((Qt x y).map (·,[]))):=by
 refine .ofOpt λq c=>?_;unfold Qt at c;split at c<;>simp at c;rename_i a b g i;subst c;have j:=jG g e;have l:=jG i f;subst j l;refine⟨.int .i64 (max a.2 b.2),w,?_,bM.pure hh zX⟩;have:max a.2 b.2=if b.2>a.2 then b.2 else a.2:=by split<;>omega
 rw[this];simp[Builtin.max_,Builtin.max2]
theorem yt(hh:dq F ρ w h){ts:Array TypeId}{ty:TypeId}{x y:V}{v u:Value}(e:aT w (Av F ρ h) ρ x v)(f:aT w (Av F ρ h) ρ y u):dl P F ρ w h N W (Builtin.min_ ts ty #[v,u]) (Tr.ofOpt ((Qu x y).map (·,[]))):=by
 refine .ofOpt λq c=>?_;unfold Qu at c;split at c<;>simp at c;rename_i a b g i;subst c;have j:=jG g e;have l:=jG i f;subst j l;refine⟨.int .i64 (min a.2 b.2),w,?_,bM.pure hh zX⟩;have:min a.2 b.2=if b.2<a.2 then b.2 else a.2:=by split<;>omega
 rw[this];simp[Builtin.min_,Builtin.min2]
def I.sc?:I->Option (Bool×Sc)
 | .k s=>some (true,s)
 | .d .bl x=>some (false, .bool x)
 | .d .i64 x=>some (false, .i64 x)
 | .d .i32 x=>some (false, .i32 x)
 | .d .u8 x=>some (false, .u8 x)
 | .d .u64 x=>some (false, .u64 x)
 | .d .st x=>some (false, .str x)
 |_=>none
def Sc.item:Sc->I
 | .bool x=> .d .bl x
 | .i64 x=> .d .i64 x
 | .i32 x=> .d .i32 x
 | .u8 x=> .d .u8 x
 | .u64 x=> .d .u64 x
 | .str x=> .d .st x
def Vx(k:Bool)(s:Sc):V:=if k then sc (.k s)else sc s.item
theorem uq{A:Nat->Prop}{k:Bool}{s:Sc}:aT w A ρ (Vx k s) s.val:=by
 cases k
 ·refine aJ.2 ?_;cases s<;>rfl
 ·exact aJ.2 rfl
theorem mF{A:Nat->Prop}{i:I}{q:Bool×Sc}{v:Value}(a:i.sc?=some q)(b:bj w A ρ i [v]):v=q.2.val:=by
 unfold I.sc? at a;split at a<;>simp at a<;>subst a<;>simpa[bj,Rd,Sc.val]using b
def ac(n:Int):Prop:= -9223372036854775808<=n/\n<9223372036854775808
theorem ac.wrap{n:Int}(h:ac n):IntKind.i64.wrap n=n:=by
 unfold ac at h;rw[dm];omega
def qw(P:Program)(op:BinOp)(t:TypeId)(x y:Bool×Sc):Option (List Prop×V):=
 match x,y with
 |(false, .i64 a),(ky, .i64 b)=>arith a b ky false
 |(true, .i64 a),(false, .i64 b)=>arith a b false true
 |_,_=>plain x y
where
 plain (x y:Bool×Sc):Option (List Prop×V):=
  match Dy P op t x.2 y.2 with
  |some (c,z)=>if y.1 then(if c then some ([],Vx x.1 z)else none)else some (if gV op then[c=true]else[],Vx false z)
  |none=>none
 arith (a b:Int) (ky kx:Bool):Option (List Prop×V):=
  match op with
  | .add=>some ([ac (a+b)],oo (a+b))
  | .sub=>some ([ac (a-b)],oo (a-b))
  | .mul=>some ([ac (a*b)],oo (a*b))
  |_=>plain (kx, .i64 a) (ky, .i64 b)
theorem BV{P:Program}{a:BinOp}{t:TypeId}{x y:Sc}{c:Bool}{z:Sc}(h:Dy P a t x y=some (c,z))(b:gV a=false):c=true:=by
 unfold Dy at h;simp only[b,cu,if_false]at h
 have one:∀{o:Option Sc},(o.map λz=>(true,z))=some (c,z)->c=true:=by
  intro o e;obtain⟨_,_,q⟩:=mj.1 e;simp at q;exact q.1
 split at h
 ·exact one h
 ·exact one h
 ·exact one h
 ·exact one h
 ·split at h<;>simp at h<;>exact h.1
 ·split at h<;>simp at h<;>exact h.1
 ·simp at h
theorem v4{e:BinOp}{t:TypeId}{ex ey:Operand}{x y:Bool×Sc}{q:List Prop×V}(g:qw P e t x y=some q)(j:∀p∈q.1,p)(A:Nat->Prop):
 ∃r,(do eqGuard e t ex ey x.2.val y.2.val;binOp e t x.2.val y.2.val:Sem Value).run P w= .ok r w/\aT w A ρ q.2 r:=by
 have plain:∀{x y:Bool×Sc},qw.plain P e t x y=some q->∃r,(do eqGuard e t ex ey x.2.val y.2.val;binOp e t x.2.val y.2.val:Sem Value).run P w= .ok r w/\aT w A ρ q.2 r:=by
  intro x y h;unfold qw.plain at h;split at h
  case h_2=>simp at h
  rename_i c z l;split at h
  ·split at h
   case isFalse=>simp at h
   rename_i m;simp at h;subst h;exact⟨_,qm w e t ex ey _ _ _ c l m,uq⟩
  ·simp only[Option.some.injEq]at h;subst h
   have m:c=true:=by
    cases i:gV e
    ·exact BV l i
    ·exact j (c=true) (by simp[i])
   exact⟨_,qm w e t ex ey _ _ _ c l m,uq (k:=false)⟩
 have f:∀{a b:Int}{o s:Bool},qw.arith P e t a b o s=some q->∃r,(do eqGuard e t ex ey (.int .i64 a) (.int .i64 b);binOp e t (.int .i64 a) (.int .i64 b):Sem Value).run P w= .ok r w/\aT w A ρ q.2 r:=by
  intro a b o s h;unfold qw.arith at h;have u:eqGuard e t ex ey (.int .i64 a) (.int .i64 b)=pure ():=mo rfl _ _ _ _
  have num:∀{n:Int},ac n->(binOp e t (.int .i64 a) (.int .i64 b)).run P w= .ok (.int .i64 (IntKind.i64.wrap n)) w->∃r,(do eqGuard e t ex ey (.int .i64 a) (.int .i64 b);binOp e t (.int .i64 a) (.int .i64 b):Sem Value).run P w= .ok r w/\aT w A ρ (oo n) r:=by
   intro n v B;refine⟨.int .i64 n,?_,aJ.2 rfl⟩;rw[u,v.wrap]at*;simpa using B
  split at h
  ·simp at h;subst h;exact num (j _ (by simp)) (by rw[binOp_add];rfl)
  ·simp at h;subst h;exact num (j _ (by simp)) (by rw[binOp_sub];rfl)
  ·simp at h;subst h;exact num (j _ (by simp)) (by rw[binOp_mul];rfl)
  ·exact plain h
 unfold qw at g;split at g
 ·exact f g
 ·exact f g
 ·exact plain g
def a0j(x:I):Option Bool:=match x with
 | .nilp| .nilm| .nilf=>some true
 | .ptr .. | .pes .. | .pv .. | .mp _| .fn .. | .fmp .. =>some false
 |_=>none
def a4q:I->Bool
 | .nilp| .nilm=>true
 |_=>false
def oq(P:Program)(t:TypeId):Bool:=match P.underlying t with
 |some (.pointer _)=>true
 |_=>false
def IK(P:Program)(t:TypeId):Bool:=match P.underlying t with
 |some (.map _ _)=>true
 |_=>false
def pb(P:Program)(op:BinOp)(t:TypeId)(x y:I):Option V:=
 match x,y with
 | .nilp, .nilp=>if oq P t then told true else none
 | .ptr .., .nilp=>if oq P t then told false else none
 | .pv .., .nilp=>if oq P t then told false else none
 | .nilm, .nilm=>if IK P t then told true else none
 | .mp _, .nilm=>if IK P t then told false else none
 |_,_=>none
where
 told (b:Bool):Option V:=match op with
  | .eql=>some (sc (.k (.bool b)))
  | .neq=>some (sc (.k (.bool (!b))))
  |_=>none
theorem v6{A:Nat->Prop}{g:BinOp}{t:TypeId}{ex ey:Operand}{x y:I}{z:V}{v u:Value}(a:pb P g t x y=some z)(c:bj w A ρ x [v])(f:bj w A ρ y [u]):
 ∃r,(do eqGuard g t ex ey v u;binOp g t v u:Sem Value).run P w= .ok r w/\aT w A ρ z r:=by
 have ptr:∀{p:Option Addr}{b:Bool},oq P t=true->p.isNone=b->pb.told g b=some z->∃r,(do eqGuard g t ex ey (.pointer p) (.pointer none);binOp g t (.pointer p) (.pointer none):Sem Value).run P w= .ok r w/\aT w A ρ z r:=by
  intro p b j l i
  have m:P.underlying t=some (.pointer (P.pointee t)):=by
   unfold oq at j;split at j
   ·rename_i e q;simp[Program.pointee,q]
   ·simp at j
  unfold pb.told at i;split at i<;>simp at i<;>subst i
  ·refine⟨_,?_,aJ.2 rfl⟩;rw[eqGuard_at_pointer];simp[run_eql_pointer_nil w t p m,l,Sc.val]
  ·refine⟨_,?_,aJ.2 rfl⟩;rw[eqGuard_at_pointer];simp[run_neq_pointer_nil w t p m,l,Sc.val]
 have mp:∀{p:Option Nat}{b:Bool},IK P t=true->p.isNone=b->pb.told g b=some z->∃r,(do eqGuard g t ex ey (.map p) (.map none);binOp g t (.map p) (.map none):Sem Value).run P w= .ok r w/\aT w A ρ z r:=by
  intro p b j l i
  obtain⟨n,o,m⟩:∃n o,P.underlying t=some (.map n o):=by
   unfold IK at j;split at j
   ·exact⟨_,_,‹_›⟩
   ·simp at j
  unfold pb.told at i;split at i<;>simp at i<;>subst i
  ·refine⟨_,?_,aJ.2 rfl⟩;rw[eqGuard_at_map];simp[binOp,run_equal_map_nil w t n o p m,l,Sc.val]
  ·refine⟨_,?_,aJ.2 rfl⟩;rw[eqGuard_at_map];simp[run_neq_map_nil w t n o p m,l,Sc.val]
 unfold pb at a;split at a
 ·split at a<;>first|(simp at a;done)|skip
  simp[bj]at c f;subst c f;exact ptr ‹_› rfl a
 ·split at a<;>first|(simp at a;done)|skip
  obtain⟨_,⟨b,_,rfl⟩,c⟩:=c;simp[bj]at c f;subst c f;exact ptr ‹_› rfl a
 ·split at a<;>first|(simp at a;done)|skip
  obtain⟨b,s,B,c,_⟩:=c;simp[bj]at c f;subst c f;exact ptr ‹_› rfl a
 ·split at a<;>first|(simp at a;done)|skip
  simp[bj]at c f;subst c f;exact mp ‹_› rfl a
 ·split at a<;>first|(simp at a;done)|skip
  obtain⟨b,_,c⟩:=c;simp[bj]at c f;subst c f;exact mp ‹_› rfl a
 ·simp at a
end
end
section
section
variable{P:Program}{F:Nat->Prop}{ρ:Nat->Pl}{w:World}{h get:Nat->Option Ch}{N W:Nat}
theorem ot(hh:dq F ρ w h){k:Nat}{e:Ty}{l:List e.den}(z:h k=some (.sl e l)):dq F ρ w (cO h k (some (.fr e l)))/\Mv ρ w h ρ w (cO h k (some (.fr e l))):=by
 refine hh.step (λj=>j=k) (dR.refl ρ) (aD _) rfl rfl rfl (λj a=>bE _ _ _ a) (λ_ _ _=>rfl) (λj c b a g C=>?_) (λj j' c o b a D _ _ _ _ _ _=>a.trans D.symm) (λj m S U p r a s=>?_) (λj c a g X=>?_)
 ·subst a;rw[bG]at g;simp at g;subst g;simp[Ch.own]at C
 ·by_cases n:j=k
  ·subst n;rw[bG]at a;simp at a
  ·rw[bE _ _ _ n]at a;rcases s with s|s
   ·exact absurd s n
   ·obtain⟨l',J⟩:=hh.it j m S U p r a;rw[s,z]at J;simp at J
 ·subst a;rw[bG]at g;simp at g;subst g;obtain⟨v,K,Y⟩:=hh.ok j _ z;refine⟨v,K,?_⟩;rcases Y with⟨b,cap,cells,L,A,rfl,h3,M,O,h6,Q,R⟩|q
  ·obtain⟨o,rfl⟩:∃o,cap=o+1:=⟨cap-1,by omega⟩;have f:(ρ j).blk=some b:=by rw[K];rfl
   have t:=hh.fr j _ b z rfl f;have hr:=ip.load (P:=default) (vU.reads (w:=w) (.inl ⟨b,o+1,cells,L,A,rfl,h3,M,O,h6,Q,R⟩));refine .inl ⟨b,0,o+1,A,rfl,O,t.1,λE=>?_,Q.imp (λ_ _=>Rd.evo X.evo),λi u B=>?_⟩
   ·rcases E with E|⟨q,c,x,y,G⟩
    ·exact t.2 E
    ·by_cases n:q=j
     ·subst n;rw[bG]at x;simp at x;subst x;simp[Ch.own]at y
     ·rw[bE _ _ _ n]at x;exact n (hh.inj q j c _ b x z y rfl G f)
   ·rw[bN,cell_of_row w b _ cells L (0,0) M]
    have H:i<A.length:=by
     rcases bI i A.length with q|q
     ·exact q
     ·rw[bD q]at B;simp at B
    rw[<-R,iF H]at B;simpa using B
  ·exact .inr q
def kM(x:Option V)(d:Int):Option Int:=match x with
 |none=>some d
 |some v=>v.int?
theorem fJ(a:Bool)(len cap l m c:Nat)(lo hi e:Option Value)
 (g:(lo=none/\l=0)\/∃k,lo=some (.int k (l:Int))) (j:(hi=none/\m=len)\/∃k,hi=some (.int k (m:Int)))
 (p:(e=none/\c=cap)\/((∃k,e=some (.int k (c:Int)))/\hi≠none)) (n:l<=m) (o:m<=c) (q:c<=cap):
 (Instr.sliceBounds a len cap lo hi e).run P w= .ok (l,m,c) w:=by
 have b:∀(k:IntKind)(i y:Nat)(code:BoundsCode),i<=y->(Instr.sliceBound (.int k (i:Int)) y code).run P w= .ok i w:=λk i y code h=>by
  rw[run_sliceBound w k i y code (by omega) (by omega)];simp
 rcases p with⟨rfl,rfl⟩|⟨⟨t,rfl⟩,f⟩
 ·rcases j with⟨rfl,rfl⟩|⟨r,rfl⟩<;>rcases g with⟨rfl,rfl⟩|⟨s,rfl⟩<;>simp[Instr.sliceBounds,b _ _ _ _ n,b _ _ _ _ o]
 ·rcases j with⟨rfl,rfl⟩|⟨r,rfl⟩
  ·exact absurd rfl f
  ·rcases g with⟨rfl,rfl⟩|⟨s,rfl⟩<;>simp[Instr.sliceBounds,b _ _ _ _ n,b _ _ _ _ o,b _ _ _ _ q]
def mG(w:World)(A:Nat->Prop)(ρ:Nat->Pl)(x:Option V)(v:Option Value):Prop:=match x,v with|none,none=>True|some a,some b=>aT w A ρ a b|_,_=>False
theorem ur{A:Nat->Prop}{x:Option V}{v:Option Value}{d n:Int}(h:kM x d=some n)(c:mG w A ρ x v):(v=none/\n=d)\/∃k,v=some (.int k n):=by
 cases x with
 |none=>cases v with
  |none=>simp[kM]at h;exact .inl ⟨rfl,h.symm⟩
  |some b=>exact c.elim
 |some a=>cases v with
  |none=>exact c.elim
  |some b=>obtain⟨k,rfl⟩:=jE h c;exact .inr ⟨k,rfl⟩
def ut{α:Type}(l:List α)(lo hi:Option V)(a b:Int):List α:=
 match lo,hi with
 |none,none=>l
 |none,some _=>l.take b.toNat
 |some _,none=>l.drop a.toNat
 |some _,some _=>(l.drop a.toNat).take (b.toNat-a.toNat)
def jH(P:Program)(t:TypeId)(x:V)(lo hi mx:Option V)(get:Nat->Option Ch)(N:Nat):Tr (V×dN):=
 match x.one? with
 |some (.ptr k off)=>match BS P t,lo,hi,mx,get k with
  |some (n,et),none,none,none,some (.cells _)=>match Ig P 8 et,kj P et with
   |some e,some s=>if s=e.size/\0<n then .leaf (sc (.sub k off n e),[])else .stuck
   |_,_=> .stuck
  |some (n,et),none,none,none,some (.fc l)=>match Ig P 8 et,kj P et with
   |some e,some s=>if s=e.size/\0<n then(match fT l off (n*e.size)with
    |some m=>match so (.ar n e) m with
     |some y=> .leaf (sc (.d (.sl e) y),[])
     |none=> .stuck
    |none=> .stuck)else .stuck
   |_,_=> .stuck
  |_,_,_,_,_=> .stuck
 |some (.pv (.pr (.ar n e) _) y)=>match BS P t,lo,hi,mx with
  |some (n',et),none,none,none=>match kj P et with
   |some s=>if s=e.size/\n'=n/\0<n then .leaf (sc (.d (.sl e) y.1),[])else .stuck
   |none=> .stuck
  |_,_,_,_=> .stuck
 |some (.own k)=>match get k,mx,kM lo 0,pS P t with
  |some (.sl e l),none,some a,some et=>match kM hi (l.length:Int),kj P et,lo with
   |some b,some s,none=>if s=e.size then .need (a=0/\0<=b/\b<=l.length) (.leaf (sc (.own N),[(k,none),(N,some (.sl e (ut l lo hi a b)))]))else .stuck
   |_,_,_=> .stuck
  |some (.sl e l),some m,some a,some et=>match kM hi (l.length:Int),kj P et,m.int? with
   |some b,some s,some c=>if s=e.size/\hi.isSome then .need (0<=a/\a<=b/\b=c/\b<=l.length) (.leaf (sc (.cut e (ut l lo hi a b)),[(k,some (.fr e l))]))else .stuck
   |_,_,_=> .stuck
  |some (.fr e l),mx,some a,some et=>cut e l a et (kM hi (l.length:Int)) mx
  |_,_,_,_=> .stuck
 |some it=>match it.frozen? get,kM lo 0,pS P t with
  |some q,some a,some et=>cut q.1 q.2 a et (kM hi (q.2.length:Int)) mx
  |_,_,_=> .stuck
 |none=> .stuck
where
 cut (e:Ty) (l:List e.den) (a:Int) (et:TypeId) (b:Option Int) (mx:Option V):Tr (V×dN):=
  match b,kj P et,mx with
  |some b,some s,none=>if s=e.size then .need (0<=a/\a<=b/\b<=l.length) (.leaf (sc (.d (.sl e) (ut l lo hi a b)),[]))else .stuck
  |some b,some s,some m=>match m.int? with
   |some c=>if s=e.size/\hi.isSome then .need (0<=a/\a<=b/\b=c/\b<=l.length) (.leaf (sc (.cut e (ut l lo hi a b)),[]))else .stuck
   |none=> .stuck
  |_,_,_=> .stuck
theorem zY{α:Type}{l:List α}{lo hi:Option V}{g i:Option Value}{a b:Int}{A:Nat->Prop}(j:mG w A ρ lo g)(hh:mG w A ρ hi i)(c:kM lo 0=some a)(f:kM hi (l.length:Int)=some b)(m:0<=a/\a<=b/\b<=l.length):
 ut l lo hi a b=(l.drop a.toNat).take (b.toNat-a.toNat)/\(ut l lo hi a b).length=b.toNat-a.toNat:=by
 have e:ut l lo hi a b=(l.drop a.toNat).take (b.toNat-a.toNat):=by
  unfold ut;split
  ·simp[kM]at c f;subst c f;simp
  ·simp[kM]at c;subst c;simp
  ·simp[kM]at f;subst f;rw[bf];simp
  ·rfl
 refine⟨e,?_⟩;rw[e];simp;omega
theorem dz.drop_take{α:Type}{R:α->List Value->Prop}{n:Nat}(f:∀x vs,R x vs->vs.length=n){l:List α}{vs:List Value}(h:dz R l vs)(i m:Nat)(p:i+m<=l.length):dz R ((l.drop i).take m) ((vs.drop (i*n)).take (m*n)):=by
 have q:l=l.take i++((l.drop i).take m++(l.drop i).drop m):=by rw[dI,dI]
 rw[q]at h;obtain⟨a,b,e,r,s⟩:=dz.split h;obtain⟨c,d,t,g,y⟩:=dz.split s;have j:=dz.length f r;have o:=dz.length f g;have u:(l.take i).length=i:=by simp;omega
 have v:((l.drop i).take m).length=m:=by simp;omega
 rw[u]at j;rw[v]at o;rw[e,t,<-j,List.drop_left,<-o,List.take_left];exact g
theorem ou{lo hi C:Option V}{e:Ty}{l:List e.den}{v:Value}{f g o:Option Value}{a b:Int}{t et:TypeId}(y:pS P t=some et)(Y:kj P et=some e.size)
 (hv:lW w (Av F ρ h) (Rd w (Av F ρ h) e) l v) (hl:mG w (Av F ρ h) ρ lo f) (z:mG w (Av F ρ h) ρ hi g) (A:mG w (Av F ρ h) ρ C o)
 (h1:kM lo 0=some a) (h2:kM hi (l.length:Int)=some b) (J:0<=a/\a<=b/\b<=l.length) (hm:C=none\/(∃m,C=some m/\m.int?=some b/\hi.isSome=true)):
 ∃r,(nh t v f g o).run P w= .ok r w/\lW w (Av F ρ h) (Rd w (Av F ρ h) e) (ut l lo hi a b) r/\(C.isSome=true->∃x n,r= .slice x n n):=by
 obtain⟨M,K⟩:=zY hl z h1 h2 J;obtain⟨i,rfl⟩:=bR J.1;obtain⟨j,rfl⟩:=bR (Int.le_trans J.1 J.2.1);simp only[aF]at M K;have B:i<=j/\j<=l.length:=by omega
 have q1:=ur h1 hl;have q2:=ur h2 z;have p:(nh t v f g o).run P w=(Instr.slice t v f g o).run P w:=by simp[nh,run_underlying (cP y)]
 have key:∀(s:Option Addr)(cap:Nat),v= .slice s l.length cap->l.length<=cap->∃c,j<=c/\c<=cap/\(C.isSome=true->c=j)/\(Instr.sliceBounds true l.length cap f g o).run P w= .ok (i,j,c) w:=by
  intro s cap _ a0
  have r1:(f=none/\i=0)\/∃k,f=some (.int k (i:Int)):=by
   rcases q1 with⟨O,p2⟩|q
   ·exact .inl ⟨O,by omega⟩
   ·exact .inr q
  have r2:(g=none/\j=l.length)\/∃k,g=some (.int k (j:Int)):=by
   rcases q2 with⟨O,p2⟩|q
   ·exact .inl ⟨O,by omega⟩
   ·exact .inr q
  rcases hm with rfl|⟨m,rfl,Q,R⟩
  ·have S:o=none:=by cases o<;>first|rfl|exact A.elim
   subst S;exact⟨cap,by omega,aD _,by simp,fJ true l.length cap i j cap f g none r1 r2 (.inl ⟨rfl,rfl⟩) B.1 (by omega) (aD _)⟩
  ·cases o with
   |none=>exact A.elim
   |some u=>
    obtain⟨km,rfl⟩:=jE Q A;refine⟨j,aD _,by omega,λ_=>rfl,fJ true l.length cap i j j f g _ r1 r2 (.inr ⟨⟨km,rfl⟩,?_⟩) B.1 (aD _) (by omega)⟩;rintro rfl;cases hi with
    |none=>simp at R
    |some _=>exact z.elim
 rcases hv with⟨D,E,cap,cs,rfl,e2,e3,e4,e5,e6⟩|⟨rfl,U,rfl⟩
 ·obtain⟨c,k1,k2,k3,L⟩:=key _ cap rfl e2;refine⟨_,by rw[p];simp[Instr.slice,run_underlying (cP y),L,ca Y];rfl,?_,?_⟩
  ·by_cases G:c=i
   ·right;have H:j-i=0:=by omega
    refine⟨List.eq_nil_of_length_eq_zero (by rw[K];exact H),some ⟨D,E,none⟩,?_⟩;rw[am G,H,show c-i=0 by omega]
   ·left;refine⟨D,E+i*e.size,c-i,(cs.drop (i*e.size)).take ((j-i)*e.size),?_,by rw[K];omega,e3,e4,?_,jj e6⟩
    ·rw[af G,K];simp[cv]
    ·rw[M];exact dz.drop_take (λ_ _=>Rd.length) e5 i (j-i) (by omega)
  ·intro X;have:=k3 X;subst this;split<;>exact⟨_,_,rfl⟩
 ·simp only[de]at B;obtain rfl:i=0:=by omega
  obtain rfl:j=0:=by omega
  obtain⟨c,k1,k2,k3,L⟩:=key U 0 rfl (aD _);obtain rfl:c=0:=by omega
  simp only[de]at L;refine⟨.slice U 0 0,by rw[p];simp[Instr.slice,run_underlying (cP y),L,ca Y], .inr ⟨by rw[M];simp,U,rfl⟩,λ_=>⟨_,_,rfl⟩⟩
theorem qx{lo hi y:Option V}{e:Ty}{l:List e.den}{v:Value}{z A B:Option Value}{a:Int}{t et:TypeId}(hh:dq F ρ w h)(j:pS P t=some et)
 (C:lW w (Av F ρ h) (Rd w (Av F ρ h) e) l v) (D:mG w (Av F ρ h) ρ lo z) (n:mG w (Av F ρ h) ρ hi A) (o:mG w (Av F ρ h) ρ y B) (E:kM lo 0=some a):
 dl P F ρ w h N W (nh t v z A B) (jH.cut P lo hi e l a et (kM hi (l.length:Int)) y):=by
 unfold jH.cut;split
 ·rename_i b s p q;split
  case isFalse=>exact .stuck
  rename_i f;subst f;refine .need λg=>?_;obtain⟨r,u,x,_⟩:=ou (h:=h) j q C D n o E p g (.inl rfl);exact .pure hh u (aJ.2 ⟨r,rfl,x⟩)
 ·rename_i b s m p q;split
  case h_2=>exact .stuck
  rename_i c G;split
  case isFalse=>exact .stuck
  rename_i f;obtain⟨rfl,i⟩:=f;refine .need λg=>?_;obtain⟨H,J,K,L⟩:=g;subst K;obtain⟨r,u,x,M⟩:=ou (h:=h) j q C D n o E p ⟨H,J,L⟩ (.inr ⟨m,rfl,G,i⟩);exact .pure hh u (aJ.2 ⟨r,rfl,x,M rfl⟩)
 ·exact .stuck
theorem uu(hh:dq F ρ w h)(hg:∀k b,get k=some b->h k=some b)(hN:ρ N= .un)(hW:0<W){t:TypeId}{x:V}{lo hi mx:Option V}{v:Value}{O H Q:Option Value}
 (hx:aT w (Av F ρ h) ρ x v) (S:mG w (Av F ρ h) ρ lo O) (z:mG w (Av F ρ h) ρ hi H) (C:mG w (Av F ρ h) ρ mx Q):
 dl P F ρ w h N W (nh t v O H Q) (jH P t x lo hi mx get N):=by
 unfold jH;split
 ·rename_i k D hp;obtain⟨_,⟨b,U,rfl⟩,X⟩:=aN hp hx;simp at X;subst X;simp only at U;split
  case h_3=>exact .stuck
  case h_2=>
   rename_i n et l A Y;split
   case h_2=>exact .stuck
   rename_i e s a7 R;split
   case isFalse=>exact .stuck
   rename_i hc;obtain⟨rfl,hn⟩:=hc;split
   case h_2=>exact .stuck
   rename_i m hm;split
   case h_2=>exact .stuck
   rename_i y hy;have E:O=none:=by cases O<;>first|rfl|exact S.elim
   have K:H=none:=by cases H<;>first|rfl|exact z.elim
   have G:Q=none:=by cases Q<;>first|rfl|exact C.elim
   subst E K G;have f:=fJ (P:=P) (w:=w) false n n 0 n n none none none (.inl ⟨rfl,rfl⟩) (.inl ⟨rfl,rfl⟩) (.inl ⟨rfl,rfl⟩) (aq _) (aD _) (aD _);obtain⟨b',us,B,e2,e3,e4,e5⟩:=hh.ok k _ (hg k _ Y);rw[U]at B;simp at B;subst B;obtain⟨_,g2⟩:=gL e4 hm;obtain⟨g3,g4⟩:=iP hy g2;have L:n≠0:=by omega
   refine .pure (r:= .slice (some ⟨b,D,none⟩) n n) hh ?_ (aJ.2 ⟨_,rfl, .inl ⟨b,D,n,_,by rw[g3],Nat.le_of_eq g3,e2,e3,g4,λi u hi=>?_⟩⟩)
   ·simp[nh,run_underlying (lC A),rY,f,ca R,L,cv]
   ·have:=jj (o:=0) (off:=D) (n:=n*e.size) (vs:=us) (w:=w) (blk:=b) (λi v hi=>by rw[bN];exact e5 i v hi) i u hi
    rwa [bN]at this
  rename_i n et l A Y;split
  case h_2=>exact .stuck
  rename_i e s a7 R;split
  case isFalse=>exact .stuck
  rename_i hc;obtain⟨rfl,hn⟩:=hc;have E:O=none:=by cases O<;>first|rfl|exact S.elim
  have K:H=none:=by cases H<;>first|rfl|exact z.elim
  have G:Q=none:=by cases Q<;>first|rfl|exact C.elim
  subst E K G;have f:=fJ (P:=P) (w:=w) false n n 0 n n none none none (.inl ⟨rfl,rfl⟩) (.inl ⟨rfl,rfl⟩) (.inl ⟨rfl,rfl⟩) (aq _) (aD _) (aD _);refine .pure (r:= .slice (some ⟨b,D,none⟩) n n) hh ?_ (aJ.2 ⟨b,U,rfl⟩);have L:n≠0:=by omega
  simp[nh,run_underlying (lC A),rY,f,ca R,L,cv]
 ·rename_i n e r y hp;obtain⟨b,D,cs,X,h2,h3,h4,h5⟩:=aN hp hx;simp at X;subst X;split
  case h_2=>exact .stuck
  rename_i n' et A;split
  case h_2=>exact .stuck
  rename_i s R;split
  case isFalse=>exact .stuck
  rename_i hc;obtain⟨rfl,rfl,hn⟩:=hc;have E:O=none:=by cases O<;>first|rfl|exact S.elim
  have K:H=none:=by cases H<;>first|rfl|exact z.elim
  have G:Q=none:=by cases Q<;>first|rfl|exact C.elim
  subst E K G;have f:=fJ (P:=P) (w:=w) false n' n' 0 n' n' none none none (.inl ⟨rfl,rfl⟩) (.inl ⟨rfl,rfl⟩) (.inl ⟨rfl,rfl⟩) (aq _) (aD _) (aD _);obtain⟨c,d,B,⟨l1,l2⟩,_⟩:=h4;have L:n'≠0:=by omega
  refine .pure (r:= .slice (some ⟨b,D,none⟩) n' n') hh ?_ (aJ.2 ⟨_,rfl, .inl ⟨b,D,n',c,by rw[l1],Nat.le_of_eq l1,h2,h3,l2,λi u hi=>h5 i u ?_⟩⟩)
  ·simp[nh,run_underlying (lC A),rY,f,ca R,L,cv]
  ·rw[B,bU]
   ·exact hi
   ·rcases bI i c.length with q|q
    ·exact q
    ·rw[bD q]at hi;simp at hi
 ·rename_i k hp;obtain⟨ad,n,cap,M,X⟩:=aN hp hx;simp at X;subst X;split
  ·rename_i e l a et Y ha g;split
   case h_2=>exact .stuck
   rename_i b s U R;split
   case isFalse=>exact .stuck
   rename_i a2;subst a2;refine .need λa3=>?_;obtain⟨rfl,a6,a0⟩:=a3;have J:=hg k _ Y;obtain⟨sv,B,e2⟩:=hh.ok k _ J;rw[M]at B;simp at B;subst B;have E:O=none:=by cases O<;>first|rfl|exact S.elim
   have G:Q=none:=by cases Q<;>first|rfl|exact C.elim
   subst E G;obtain⟨ce,cl⟩:=zY S z ha U ⟨bY _,a6,a0⟩;simp only[Int.toNat_zero,List.drop_zero,Nat.sub_zero]at ce cl;obtain⟨j,rfl⟩:=bR a6;simp only[aF]at ce cl;have q2:=ur U z;have a1:∀v,(nh t v none H none).run P w=(Instr.slice t v none H none).run P w:=λv=>by simp[nh,run_underlying (cP g)]
   have r2:(H=none/\j=l.length)\/∃k,H=some (.int k (j:Int)):=by
    rcases q2 with⟨p1,p2⟩|q
    ·exact .inl ⟨p1,by omega⟩
    ·exact .inr q
   rcases e2 with⟨b,b0,cells,ty,us,o1,o2,o3,o4,o5,o6,o7⟩|⟨rfl,b5,o1⟩
   ·simp at o1;obtain⟨rfl,rfl,rfl⟩:=o1;have a4:=fJ (P:=P) (w:=w) true l.length cap 0 j cap none H none (.inl ⟨rfl,rfl⟩) r2 (.inl ⟨rfl,rfl⟩) (aq _) (by omega) (aD _);have a8:cap≠0:=by omega
    refine .leaf (r:= .slice (some ⟨b,0,none⟩) j cap) (w':=w) (by rw[a1];simp[Instr.slice,run_underlying (cP g),a4,ca R,a8,cv]) ?_;refine bM.move hh hN hW J rfl (.sv (.slice (some ⟨b,0,none⟩) j cap)) _ (by simp) (by simp) (aD _) rfl rfl rfl (λ_ _ _=>rfl) (λb' _ f=>?_) (λhm=>?_) _ _ (λhm=>aJ.2 ⟨_,_,_,bP _ _ _,rfl⟩)
    ·obtain⟨c',rfl⟩:∃c',cap=c'+1:=⟨cap-1,by omega⟩;simp[Pl.blk]at f;subst f;exact⟨(hh.fr k _ b J rfl (by rw[M];rfl)).1, .inl (by rw[M];rfl)⟩
    ·refine⟨_,bP _ _ _, .inl ⟨b,cap,cells,ty,us.take (j*e.size),by rw[cl],o2,o3,by rw[cl];omega,o5,?_,?_⟩⟩
     ·have:=dz.drop_take (λ_ _=>Rd.length) o6 0 j (by omega);simp only[Nat.zero_mul,List.drop_zero]at this;rw[<-ce]at this;exact this.imp (λ_ _=>Rd.evo hm.evo)
     ·have hu:us.length<=cells.toList.length:=by have:=aH ah o7;rw[be]at this;omega
      have e9:us.take (j*e.size)=cells.toList.take (min (j*e.size) us.length):=by
       conv=>lhs;rw[<-o7]
       rw[List.take_take]
      rw[e9,be,eB (by omega)]
   ·simp at o1;obtain⟨rfl,rfl,rfl⟩:=o1;simp only[de]at a0;obtain rfl:j=0:=by omega
    have a4:=fJ (P:=P) (w:=w) true 0 0 0 0 0 none H none (.inl ⟨rfl,rfl⟩) (by simpa using r2) (.inl ⟨rfl,rfl⟩) (aD _) (aD _) (aD _);refine .leaf (r:= .slice ad 0 0) (w':=w) (by rw[a1];simp[Instr.slice,run_underlying (cP g),a4,ca R]) ?_;refine bM.move hh hN hW J rfl (.sv (.slice ad 0 0)) _ (by simp) (by simp) (aD _) rfl rfl rfl (λ_ _ _=>rfl) (λb' _ f=>?_) (λhm=>?_) _ _ (λhm=>aJ.2 ⟨_,_,_,bP _ _ _,rfl⟩)
    ·cases ad<;>simp[Pl.blk]at f
    ·exact⟨_,bP _ _ _, .inr ⟨by rw[ce];simp,_,rfl⟩⟩
  ·rename_i e l m a et Y ha g;split
   case h_2=>exact .stuck
   rename_i b s c U R hc;split
   case isFalse=>exact .stuck
   rename_i a2;obtain⟨rfl,a5⟩:=a2;refine .need λa3=>?_;obtain⟨b1,b2,b3,b4⟩:=a3;subst b3;have J:=hg k _ Y;obtain⟨f1,f2⟩:=ot hh J;have a9:=f2.evo (F:=F);obtain⟨sv,B,e2⟩:=f1.ok k _ (bG _ _ _);rw[M]at B;simp at B;subst B
   have ev:∀{x v},mG w (Av F ρ h) ρ x v->mG w (Av F ρ (cO h k (some (.fr e l)))) ρ x v:=by
    intro x v hv;cases x<;>cases v<;>first|exact hv|exact aT.evo a9 (dR.refl ρ) hv
   obtain⟨r,r1,r2,r3⟩:=ou (h:=cO h k (some (.fr e l))) g R e2 (ev S) (ev z) (ev C) ha U ⟨b1,b2,b4⟩ (.inr ⟨m,rfl,hc,a5⟩);exact .leaf r1 ⟨ρ,dR.refl ρ,λ_ p q=>absurd p q,aJ.2 ⟨r,rfl,r2,r3 rfl⟩,f1,f2⟩
  ·rename_i e l a et Y ha g;obtain⟨sv,B,e2⟩:=hh.ok k _ (hg k _ Y);rw[M]at B;simp at B;subst B;exact qx hh g e2 S z C ha
  ·exact .stuck
 ·rename_i it _ _ _ hp;split
  case h_2=>exact .stuck
  rename_i q a et hf ha g;exact qx hh g (jF hh hg hf (aN hp hx)) S z C ha
 ·exact .stuck
end
end
section
section
variable{P:Program}{F:Nat->Prop}{ρ:Nat->Pl}{w:World}{h get:Nat->Option Ch}{N W:Nat}
theorem pT(w:World){t:TypeId}{g:Bool}{l:List I}{i:TypeInfo}{z:Value}(h:zT P t=some (g,l))(hi:P.info? t=some i)(e:i.zero=some z):z.cells.size=kG l:=by
 obtain⟨f,j,a,b,c⟩:=oX h;rw[hi]at a;simp at a;subst a;rw[e]at b;simp at b;subst b;have:=aL.length (eb (c w (λ_=>False) (λ_=> .un)));simpa using this
theorem jk(w:World)(t ty e:TypeId)(s:Nat)(g:P.underlying t=some (.slice e))(i:kj P e=some s)(f a:Option Addr)(n cap c:Nat)(h:n<=cap):
 (cV #[t,t] ty #[.slice f n cap, .slice a 0 c]).run P w= .ok (.slice f n cap) w:=by
 have j:(cX s 0 (.slice a 0 c)).run P w= .ok #[] w:=by
  cases a with
  |none=>simp[cX]
  |some a=>simp[cX,loadCells,loadCellsFrom]
 cases f with
 |none=>simp[cV,run_underlying g,ca i,Builtin.lenOf,j,h]
 |some b=>simp[cV,run_underlying g,ca i,Builtin.lenOf,j,h,storeCells]
theorem lX(w w':World)(t ty e:TypeId)(s:Nat)(o:P.underlying t=some (.slice e))(p:kj P e=some s)(g n cap:Nat)(a:Addr)(m c:Nat)(news:List Value)
 (q:news.length=m*s) (b:∀j u,news[j]?=some u->w.cell? (a.add j)=some u) (f:n+m<=cap) (l:(storeCells ⟨g,n*s,none⟩ news).run P w= .ok () w'):
 (cV #[t,t] ty #[.slice (some ⟨g,0,none⟩) n cap, .slice (some a) m c]).run P w= .ok (.slice (some ⟨g,0,none⟩) (n+m) cap) w':=by
 have r:=run_firstCells_some (P:=P) w s m a m c news q b;have i:Addr.add ⟨g,0,none⟩ (n*s)=⟨g,n*s,none⟩:=by rw[cv,bN]
 simp[cV,run_underlying o,ca p,Builtin.lenOf,f,r,i,l]
theorem bM.made(hh:dq F ρ w h)(j:ρ N= .un)(m:0<W){w':World}{e:Ty}{l:List e.den}{vs:List Value}{cells:Array Value}{ty:TypeId}{cap:Nat}
 (f:w'=w.alloc (.cells cells ty)\/w'=w.drew.alloc (.cells cells ty)) (n:dz (Rd w (Av F ρ h) e) l vs) (h0:0<cap) (o:l.length<=cap) (p:cap*e.size<=cells.size) (q:cells.toList.take vs.length=vs):
 bM F ρ w h N W (sc (.own N)) [(N,some (.sl e l))] (.slice (some ⟨w.heap.size,0,none⟩) l.length cap) w':=by
 have r:fH w w':=by rcases f with rfl|rfl;exact fH.alloc w _;exact fH.drewAlloc w _
 have a:w'.heap[w.heap.size]?=some (.cells cells ty):=by
  rcases f with rfl|rfl
  ·exact Go.heap_alloc_new w _
  ·exact Go.heap_alloc_new w.drew _
 have g:w.heap.size<w'.heap.size:=by
  rcases f with rfl|rfl
  ·rw[dX];omega
  ·rw[dX];show w.heap.size<w.heap.size+1;omega
 obtain⟨c,rfl⟩:∃c,cap=c+1:=⟨cap-1,by omega⟩;refine bM.add hh j m r (.sv (.slice (some ⟨w.heap.size,0,none⟩) l.length (c+1))) _ (by simp) (λb _ i=>?_) (λs=>?_) _ _ (λ_=>aJ.2 ⟨_,_,_,bP _ _ _,rfl⟩)
 ·simp[Pl.blk]at i;subst i;exact⟨aD _,g⟩
 ·exact⟨_,bP _ _ _, .inl ⟨w.heap.size,c+1,cells,ty,vs,rfl,h0,a,o,p,n.imp (λ_ _=>Rd.evo s.evo),q⟩⟩
theorem bM.remade(hh:dq F ρ w h)(m:ρ N= .un)(n:0<W){k:Nat}{g:Ch}(o:h k=some g)(p:g.own=true)(i:∀kt q l,g≠ .lk kt q l){w':World}{e:Ty}{l:List e.den}{vs:List Value}{cells:Array Value}{ty:TypeId}{cap:Nat}
 (r:w'=w.drew.alloc (.cells cells ty)) (s:dz (Rd w (Av F ρ h) e) l vs) (h0:0<cap) (t:l.length<=cap) (u:cap*e.size<=cells.size) (v:cells.toList.take vs.length=vs):
 bM F ρ w h N W (sc (.own N)) [(k,none),(N,some (.sl e l))] (.slice (some ⟨w.heap.size,0,none⟩) l.length cap) w':=by
 subst r;have a:=fH.drewAlloc w (.cells cells ty);have j:w.heap.size<(w.drew.alloc (.cells cells ty)).heap.size:=by rw[dX];show w.heap.size<w.heap.size+1;omega
 obtain⟨c,rfl⟩:∃c,cap=c+1:=⟨cap-1,by omega⟩;refine bM.move hh m n o p (.sv (.slice (some ⟨w.heap.size,0,none⟩) l.length (c+1))) _ i (by simp) a.size a.os a.tape a.output (λb f _=>a.old b f) (λb _ f=>?_) (λx=>?_) _ _ (λ_=>aJ.2 ⟨_,_,_,bP _ _ _,rfl⟩)
 ·simp[Pl.blk]at f;subst f;exact⟨j, .inr (aD _)⟩
 ·exact⟨_,bP _ _ _, .inl ⟨w.heap.size,c+1,cells,ty,vs,rfl,h0,Go.heap_alloc_new w.drew _,t,u,s.imp (λ_ _=>Rd.evo x.evo),v⟩⟩
theorem bM.renum(hh:dq F ρ w h)(o:ρ N= .un)(p:0<W){k:Nat}{e:Ty}{l l':List e.den}(g:h k=some (.sl e l))(q:l'=l){v:Value}(m:ρ k= .sv v)(i:∃a n c,v= .slice a n c):
 bM F ρ w h N W (sc (.own N)) [(k,none),(N,some (.sl e l'))] v w:=by
 subst q;obtain⟨a,n,c,rfl⟩:=i;obtain⟨u,j,r⟩:=hh.ok k _ g;rw[m]at j;simp at j;subst j;refine bM.move hh o p g rfl (.sv (.slice a n c)) _ (by simp) (by simp) (aD _) rfl rfl rfl (λ_ _ _=>rfl) (λb _ s=>?_) (λt=>?_) _ _ (λ_=>aJ.2 ⟨_,_,_,bP _ _ _,rfl⟩)
 ·have f:(ρ k).blk=some b:=by rw[m];exact s
  exact⟨(hh.fr k _ b g rfl f).1, .inl f⟩
 ·exact⟨_,bP _ _ _,r.evo t.evo (λ_ _=>rfl)⟩
def ny(P:Program)(t:TypeId)(x y:V)(get:Nat->Option Ch)(N:Nat):Tr (V×dN):=
 match pS P t with
 |none=> .stuck
 |some c=>
  match kj P c,Va P c,zT P c with
  |some s,some a,some (_,f)=>
   if kG f=s/\1<=a then
    match x.one?,y.one? with
    |some (.own k),some b=>match get k,b.slice? get with
     |some (.sl e l),some q=>match Ty.deq q.1 e with
      |some g=>if s=e.size then .need ((l.length+q.2.length)*a<=140737488355328) (.leaf (sc (.own N),[(k,none),(N,some (.sl e (l++(g.down▸q.2))))]))else .stuck
      |none=> .stuck
     |_,_=> .stuck
    |some .nils,some b=>match b.slice? get with
     |some q=>if s=q.1.size then .need (q.2.length*a<=140737488355328) (.leaf (sc (.own N),[(N,some (.sl q.1 q.2))]))else .stuck
     |_=> .stuck
    |some (.cut e l),some b=>match b.slice? get with
     |some q=>match Ty.deq q.1 e with
      |some g=>if s=e.size then .need (0<q.2.length) (.need ((l.length+q.2.length)*a<=140737488355328) (.leaf (sc (.own N),[(N,some (.sl e (l++(g.down▸q.2))))])))else .stuck
      |none=> .stuck
     |_=> .stuck
    |_,_=> .stuck
   else .stuck
  |_,_,_=> .stuck
theorem mH{e:Ty}{z:Value}{olds news:List Value}{n m cap:Nat}{et:TypeId}{W0:World}(a:z.cells.size=e.size)(b:olds.length=n*e.size)(c:news.length=m*e.size):
 grownCap W0 (n+m) cap et*e.size<=(olds.toArray++news.toArray++bL z.cells (grownCap W0 (n+m) cap et-(n+m))).size:=by
 have f:=grownCap_ge W0 (n+m) cap et;generalize grownCap W0 (n+m) cap et=G at*;simp only[Array.size_append,List.size_toArray,size_zeroCells,a,b,c];rw[<-Nat.add_mul,<-Nat.add_mul];exact Nat.mul_le_mul_right _ (by omega)
theorem iq(t ty et:TypeId){e:Ty}{l m:List e.den}{a:Option Addr}{cap:Nat}{u:Value}{A:Nat->Prop}{z0:List I}{g0:Bool}{p:Nat}(L:pS P t=some et)(hs:kj P et=some e.size)(Y:Va P et=some p)(hz:zT P et=some (g0,z0))(a0:kG z0=e.size)(h1:1<=p)
 (c:cap<l.length+m.length) (y:a=none->l=[]/\cap=0) {cs:List Value} (M:dz (Rd w A e) l cs) (B:∀O,a=some O->∀j u,cs[j]?=some u->w.cell? (O.add j)=some u)
 (hy:ip w A e m u) (hm:0<m.length) (s:(l.length+m.length)*p<=140737488355328):
 ∃b cells vs,(cV #[t,t] ty #[.slice a l.length cap,u]).run P w= .ok (.slice (some ⟨w.heap.size,0,none⟩) (l++m).length b) (w.drew.alloc (.cells cells et))/\dz (Rd w A e) (l++m) vs/\0<b/\(l++m).length<=b/\b*e.size<=cells.size/\cells.toList.take vs.length=vs:=by
 obtain⟨i,U,X,C,_⟩:=oX hz;have Q:U.cells.size=e.size:=by rw[pT w hz X C,a0]
 obtain⟨i',D,E⟩:=ug hs;obtain⟨a2,f,x⟩:=yk Y;rw[X]at D f;simp at D f;subst D f
 have R:(l.length+m.length:Nat)<=140737488355328:=by
  have:=Nat.le_mul_of_pos_right (l.length+m.length) (show 0<p by omega);omega
 obtain⟨K,G,a1⟩:=ip.load (P:=P) hy;have S:=dz.length (λ_ _=>Rd.length) M;have q:=dz.length (λ_ _=>Rd.length) G;rcases a1 with⟨H,J,b,rfl,_,_,r⟩|⟨rfl,_⟩
 case inr=>simp at hm
 have g:∀j v,K[j]?=some v->w.cell? ((⟨H,J,none⟩:Addr).add j)=some v:=λj v hj=>by rw[cv];exact r j v hj
 cases a with
 |none=>
  obtain⟨rfl,rfl⟩:=y rfl;simp only[de,bN]at c s R;have o:=run_append_nil (P:=P) w t ty et i U (cP L) X C ⟨H,J,none⟩ m.length b K (by rw[E];exact q) g hm (by omega) (by rw[x];omega);refine⟨_,_,K,o,G,?_,grownCap_ge _ _ _ _,?_,by simp⟩
  ·have:=grownCap_ge w m.length 0 et;omega
  ·have:=mH (e:=e) (z:=U) (olds:=[]) (news:=K) (n:=0) (m:=m.length) (cap:=0) (et:=et) (W0:=w) Q (by simp) q;simpa using this
 |some O=>
  have o:=run_append_grow (P:=P) w t ty et i U (cP L) X C O l.length cap cs (by rw[E];exact S) (B O rfl) ⟨H,J,none⟩ m.length b K (by rw[E];exact q) g c (by omega) (growslice_fits c (by rw[x];exact s));refine⟨_,_,cs++K,by rw[aa];exact o,dz.append M G,?_,by rw[aa];exact grownCap_ge _ _ _ _,mH Q S q,?_⟩
  ·have:=grownCap_ge w (l.length+m.length) cap et;omega
  ·simp;rw[<-ay,<-aa,List.take_left]
theorem sp(hh:dq F ρ w h)(hg:∀k b,get k=some b->h k=some b)(hN:ρ N= .un)(hW:0<W){t ty:TypeId}{x y:V}{v u:Value}(hx:aT w (Av F ρ h) ρ x v)(hy:aT w (Av F ρ h) ρ y u):
 dl P F ρ w h N W (cV #[t,t] ty #[v,u]) (ny P t x y get N):=by
 unfold ny;split
 ·exact .stuck
 rename_i et i;split
 case h_2=>exact .stuck
 rename_i s c3 g0 z0 hs D hz;split
 case isFalse=>exact .stuck
 rename_i hc;obtain⟨E,o⟩:=hc;split
 ·rename_i k iy hp hq;obtain⟨ad,n,cap,a2,h1⟩:=aN hp hx;simp at h1;subst h1;split
  case h_2=>exact .stuck
  rename_i e l q hk G;split
  case h_2=>exact .stuck
  rename_i g _;split
  case isFalse=>exact .stuck
  rename_i H;subst H;obtain⟨e',m⟩:=q;obtain⟨g⟩:=g;simp only at g;subst g;refine .need λc=>?_;simp only at c⊢;have B:=gq hh hg G (aN hq hy);simp only at B;have C:=hg k _ hk;obtain⟨sv,e1,e2⟩:=hh.ok k _ C;rw[a2]at e1;simp at e1;subst e1;by_cases J:m=[]
  ·subst J;obtain⟨a',c',rfl⟩:=B.len
   have b4:n<=cap:=by
    rcases e2 with⟨b,a9,cells,a3,us,p,o2,o3,o4,_⟩|⟨rfl,_,p⟩
    ·simp at p;omega
    ·simp at p;omega
   refine .leaf (jk w t ty et _ (cP i) hs ad a' n cap c' b4) ?_;exact bM.renum hh hN hW C (aW l) a2 ⟨_,_,_,rfl⟩
  ·have L:0<m.length:=by rcases m with _|_;exact absurd rfl J;simp
   rcases e2 with⟨b,a9,cells,a3,us,p,o2,o3,o4,o5,o6,o7⟩|⟨rfl,a0,p⟩
   ·simp at p;obtain⟨rfl,rfl,rfl⟩:=p;have b5:=dz.length (λ_ _=>Rd.length) o6;have c4:us.length<=cells.size:=by have:=aH ah o7;simp at this;omega
    have M:∀j v,us[j]?=some v->w.cell? ((⟨b,0,none⟩:Addr).add j)=some v:=λj v z=>by
     rw[cv,bN,cell_of_row w b _ cells a3 (0,0) o3]
     have b6:j<us.length:=by
      rcases bI j us.length with q|q
      ·exact q
      ·rw[bD q]at z;simp at z
     rw[<-o7,iF b6]at z;simpa using z
    by_cases r:l.length+m.length<=cap
    ·obtain⟨ms,a4,b7⟩:=ip.load (P:=P) B;have b0:=dz.length (λ_ _=>Rd.length) a4;rcases b7 with⟨a5,a6,c',rfl,_,_,O⟩|⟨rfl,_⟩
     case inr=>simp at L
     have a7:l.length*e'.size+ms.length<=cells.size:=by
      rw[b0,<-Nat.add_mul];exact bq (Nat.mul_le_mul_right _ r) o5
     have b1:∀v∈ms,v.oneCell'=true:=dz.all (λ_ _ h=>Rd.one h) a4;obtain⟨w',b2,q1,q2,q3,q4,q5,q6,q7,q8⟩:=eW P o3 a7 b1;refine .leaf (lX w w' t ty et _ (cP i) hs b l.length cap ⟨a5,a6,none⟩ m.length c' ms b0 (λj v z=>by rw[cv];exact O j v z) r q1) ?_;obtain⟨c1,rfl⟩:∃c1,cap=c1+1:=⟨cap-1,by omega⟩;have a8:(ρ k).blk=some b:=by rw[a2];rfl
     have b8:b2.size=cells.size:=by
      have:=aH ah q3;simp at this;omega
     refine bM.move hh hN hW C rfl (.sv (.slice (some ⟨b,0,none⟩) (l.length+m.length) (c1+1))) _ (by simp) (by simp) (by omega) q5 q6 q7 (λb' _ b9=>q8 b' (λe=>b9 (by rw[a8,e]))) (λb' _ b3=>?_) (λc0=>?_) _ _ (λ_=>aJ.2 ⟨_,_,_,bP _ _ _,rfl⟩)
     ·simp[Pl.blk]at b3;subst b3;exact⟨by rw[q4];exact(hh.fr k _ b C rfl a8).1, .inl a8⟩
     ·refine⟨_,bP _ _ _, .inl ⟨b,c1+1,b2,a3,us++ms,by rw[aa],o2,q2,by rw[aa];exact r,by rw[b8];exact o5,(dz.append o6 a4).imp (λ_ _=>Rd.evo c0.evo),?_⟩⟩;rw[q3,<-b5];have:cells.toList.take us.length=us:=o7;rw[this,List.take_left]
    ·obtain⟨A,f,vs,Q,R,S,U,X,Y⟩:=iq (P:=P) t ty et (a:=some ⟨b,0,none⟩) (cap:=cap) i hs D hz E o (by omega) (by simp) o6 (λc2 K=>by simp at K;subst K;exact M) B L c;exact .leaf Q (bM.remade hh hN hW C rfl (by simp) rfl R S U X Y)
   ·simp at p;obtain⟨rfl,rfl,rfl⟩:=p;obtain⟨A,f,vs,Q,R,S,U,X,Y⟩:=iq (P:=P) t ty et (a:=ad) (cap:=0) (l:=([]:List e'.den)) (cs:=[]) i hs D hz E o (by simp;omega) (λ_=>⟨rfl,rfl⟩) rfl (λ_ _ j u z=>by simp at z) B L c;exact .leaf Q (bM.remade hh hN hW C rfl (by simp) rfl R S U X Y)
 ·rename_i iy hp hq;have h1:=aN hp hx;simp[bj]at h1;subst h1;split
  case h_2=>exact .stuck
  rename_i q G;split
  case isFalse=>exact .stuck
  rename_i H;subst H;obtain⟨e',m⟩:=q;refine .need λc=>?_;simp only at c⊢;have B:=gq hh hg G (aN hq hy);simp only at B;by_cases J:m=[]
  ·subst J;obtain⟨a',c',rfl⟩:=B.len;refine .leaf (jk w t ty et _ (cP i) hs none a' 0 0 c' (aD _)) ?_;refine bM.add hh hN hW (fH.refl w) (.sv (.slice none 0 0)) (.sl e' []) (by simp) (λb _ hb=>by simp[Pl.blk]at hb) (λL=>⟨_,bP _ _ _, .inr ⟨rfl,none,rfl⟩⟩) _ _ (λ_=>aJ.2 ⟨_,_,_,bP _ _ _,rfl⟩)
  ·have L:0<m.length:=by rcases m with _|_;exact absurd rfl J;simp
   obtain⟨A,f,vs,Q,R,S,U,X,Y⟩:=iq (P:=P) t ty et (a:=none) (cap:=0) (l:=([]:List e'.den)) (cs:=[]) i hs D hz E o (by simp;omega) (λ_=>⟨rfl,rfl⟩) rfl (λ_ _ j u z=>by simp at z) B L (by simpa using c);exact .leaf Q (bM.made hh hN hW (.inr rfl) R S U X Y)
 ·rename_i e l iy hp hq;obtain⟨u0,h1,h2,a0,n0,rfl⟩:=aN hp hx;simp at h1;subst h1;split
  case h_2=>exact .stuck
  rename_i q G;split
  case h_2=>exact .stuck
  rename_i g _;split
  case isFalse=>exact .stuck
  rename_i H;subst H;obtain⟨e',m⟩:=q;obtain⟨g⟩:=g;simp only at g;subst g;refine .need λL=> .need λc=>?_;simp only at c L⊢;have B:=gq hh hg G (aN hq hy);simp only at B;rcases h2 with⟨a5,a6,cap,cs,p,o2,o3,o4,o5,o6⟩|⟨rfl,a1,p⟩
  ·simp at p;obtain⟨rfl,rfl,rfl⟩:=p;obtain⟨A,f,vs,Q,R,S,U,X,Y⟩:=iq (P:=P) t ty et (a:=some ⟨a5,a6,none⟩) (cap:=l.length) i hs D hz E o (by omega) (by simp) o5 (λc2 K=>by simp at K;subst K;exact λj v z=>by rw[cv];exact o6 j v z) B L c;exact .leaf Q (bM.made hh hN hW (.inr rfl) R S U X Y)
  ·simp at p;obtain⟨rfl,rfl⟩:=p;obtain⟨A,f,vs,Q,R,S,U,X,Y⟩:=iq (P:=P) t ty et (a:=a0) (cap:=0) (l:=([]:List e'.den)) (cs:=[]) i hs D hz E o (by simp;omega) (λ_=>⟨rfl,rfl⟩) rfl (λ_ _ j u z=>by simp at z) B L (by simpa using c);exact .leaf Q (bM.made hh hN hW (.inr rfl) R S U X Y)
 ·exact .stuck
end
end
section
theorem ov(z:Array Value)(s:Nat)(a:z.size=s):∀n,(kz (n*s)).map (λi=>z[i % z.size]!)=(ak n z.toList).flatten:=by
 intro n
 induction n with
 |zero=>simp
 |succ n c=>
  rw[List.replicate_succ',List.flatten_append,<-c,Nat.succ_mul,List.range_add,dn]
  congr 1
  simp only[List.flatten_cons,List.flatten_nil,aW,List.map_map];apply List.ext_getElem
  ·simp[a]
  ·intro i b e;simp only[bT,List.length_range]at b;simp only[List.getElem_map,List.getElem_range,Function.comp_apply,a];have:(n*s+i) % s=i:=by rw[eJ,Nat.add_mul_mod_self_right,Nat.mod_eq_of_lt b]
   rw[this,getElem!_pos z i (by omega)];simp
theorem qy(z:Array Value)(n:Nat):(bL z n).toList=(ak n z.toList).flatten:=by
 rw[<-ov z z.size rfl n];simp[bL]
theorem uv{w:World}{A:Nat->Prop}{e:Ty}{x:e.den}{vs:List Value}(h:Rd w A e x vs):∀n,dz (Rd w A e) (ak n x) (ak n vs).flatten
 |0=>rfl
 |n+1=>⟨vs,_,by simp[List.replicate_succ],h,uv h n⟩
section
variable{P:Program}{F:Nat->Prop}{ρ:Nat->Pl}{w:World}{h get:Nat->Option Ch}{N W:Nat}
def aappendZ(P:Program)(t f:TypeId)(x y:V)(get:Nat->Option Ch)(N:Nat):Tr (V×dN):=
 match pS P t,yi P f,uo y,x.one? with
 |some b,some .i64,some n,some (.own k)=>match kj P b,Va P b,zT P b,get k with
  |some s,some a,some (_,c),some (.sl e l)=>match so e c with
   |some g=>if s=e.size/\0<s/\kG c=s/\1<=a then .need (0<=n.2/\(l.length+n.2.toNat)*a<=140737488355328) (.leaf (sc (.own N),[(k,none),(N,some (.sl e (l++ak n.2.toNat g)))]))else .stuck
   |none=> .stuck
  |_,_,_,_=> .stuck
 |_,_,_,_=> .stuck
theorem qz(hh:dq F ρ w h)(hg:∀k b,get k=some b->h k=some b)(hN:ρ N= .un)(hW:0<W){t t' ty:TypeId}{x y:V}{v u:Value}(hx:aT w (Av F ρ h) ρ x v)(hy:aT w (Av F ρ h) ρ y u):
 dl P F ρ w h N W (cV #[t,t'] ty #[v,u]) (aappendZ P t t' x y get N):=by
 unfold aappendZ;split
 case h_2=>exact .stuck
 rename_i et n k o p hn hp;have:=jG hn hy;subst this;split
 case h_2=>exact .stuck
 rename_i s A g0 z0 e l hs b4 hz hk;split
 case h_2=>exact .stuck
 rename_i x0 b5;split
 case isFalse=>exact .stuck
 rename_i hc;obtain⟨rfl,a6,b6,d3⟩:=hc;refine .need λhb=>?_;obtain⟨b7,B⟩:=hb;obtain⟨m,hm⟩:=bR b7;rw[hm]at B⊢;simp only[aF]at B⊢;obtain⟨i,M,hi,O,b8⟩:=oX hz;have b9:M.cells.size=e.size:=by rw[pT w hz hi O,b6]
 obtain⟨i',a1,C⟩:=ug hs;obtain⟨d5,D,E⟩:=yk b4;rw[hi]at a1 D;simp at a1 D;subst a1 D;have c0:Rd w (Av F ρ h) e x0 M.cells.toList:=iP b5 (eb (b8 w (Av F ρ h) ρ))
 have d4:(l.length+m:Nat)<=140737488355328:=by
  have:=Nat.le_mul_of_pos_right (l.length+m) (show 0<A by omega);omega
 obtain⟨U,Q,cap,a2,h1⟩:=aN hp hx;simp at h1;subst h1;have G:=hg k _ hk;obtain⟨sv,e1,e2⟩:=hh.ok k _ G;rw[a2]at e1;simp at e1;subst e1;have a3:IntKind.i64.wrap (m:Int)=m:=ac.wrap ⟨by omega,by omega⟩
 have d6:¬((m:Int)*(i.bytes:Int)>2^48):=by
  have h9:m*A<=(l.length+m)*A:=Nat.mul_le_mul_right _ (by omega);have:((m*i.bytes:Nat):Int)<=140737488355328:=by rw[E];omega
  rw[Int.natCast_mul]at this;omega
 have c4:=qy M.cells m;have f:=uv c0 m;rw[<-c4]at f;have a4:=dz.length (λ_ _=>Rd.length) f;rw[List.length_replicate]at a4
 have g:∀(w':World),Q+m<=cap->(∀a,U=some a->(storeCells (a.add (Q*e.size)) (bL M.cells m).toList).run P w= .ok () w')->(U=none->w'=w)->(cV #[t,t'] ty #[.slice U Q cap, .int .i64 m]).run P w= .ok (.slice U (Q+m) cap) w':=by
  intro w' c c5 c6;have H:¬((m:Int)<0):=by omega
  have J:¬(281474976710656<(m:Int)*(i.bytes:Int)):=by omega
  cases U with
  |none=>
   have:=c6 rfl;subst this;by_cases h0:m*e.size=0
   ·simp[cV,run_underlying (cP o),run_underlying (eK p),sizeOf,typeInfo,hi,C,asInt,asIntOf,a3,H,J,c,h0]
   ·simp[cV,run_underlying (cP o),run_underlying (eK p),sizeOf,typeInfo,zeroValue,hi,O,asInt,asIntOf,a3,H,J,c]
  |some a=>
   have h1:=c5 a rfl;by_cases h0:m*e.size=0
   ·have:m=0:=by rcases Nat.mul_eq_zero.1 h0 with q|q;exact q;omega
    subst this;simp[bL]at h1;have a7:IntKind.i64.wrap 0=0:=by decide
    have R:Q<=cap:=c;simp[cV,run_underlying (cP o),run_underlying (eK p),sizeOf,typeInfo,hi,C,asInt,asIntOf,a7,R,h1]
   ·simp[cV,run_underlying (cP o),run_underlying (eK p),sizeOf,typeInfo,zeroValue,hi,O,C,asInt,asIntOf,a3,H,J,c,h0,h1]
 by_cases c:Q+m<=cap
 ·rcases e2 with⟨b,X,cells,a8,us,S,o2,o3,o4,o5,o6,o7⟩|⟨rfl,a0,S⟩
  ·simp at S;obtain⟨rfl,rfl,rfl⟩:=S;have c7:=dz.length (λ_ _=>Rd.length) o6;have d7:us.length<=cells.size:=by have:=aH ah o7;simp at this;omega
   have K:l.length*e.size+(bL M.cells m).toList.length<=cells.size:=by
    rw[a4,<-Nat.add_mul];exact bq (Nat.mul_le_mul_right _ c) o5
   have a9:∀v∈(bL M.cells m).toList,v.oneCell'=true:=dz.all (λ_ _ h=>Rd.one h) f;obtain⟨w',b0,q1,q2,q3,q4,q5,q6,q7,q8⟩:=eW P o3 K a9;refine .leaf (g w' c (λa ha=>by simp at ha;subst ha;rw[cv,bN];exact q1) (by simp)) ?_;obtain⟨L,rfl⟩:∃L,cap=L+1:=⟨cap-1,by omega⟩;have a5:(ρ k).blk=some b:=by rw[a2];rfl
   have c8:b0.size=cells.size:=by
    have:=aH ah q3;simp at this K;omega
   refine bM.move hh hN hW G rfl (.sv (.slice (some ⟨b,0,none⟩) (l.length+m) (L+1))) _ (by simp) (by simp) (by omega) q5 q6 q7 (λb' _ c9=>q8 b' (λe=>c9 (by rw[a5,e]))) (λb' _ b1=>?_) (λd0=>?_) _ _ (λ_=>aJ.2 ⟨_,_,_,bP _ _ _,rfl⟩)
   ·simp[Pl.blk]at b1;subst b1;exact⟨by rw[q4];exact(hh.fr k _ b G rfl a5).1, .inl a5⟩
   ·refine⟨_,bP _ _ _, .inl ⟨b,L+1,b0,a8,us++(bL M.cells m).toList,by simp,o2,q2,by simp;exact c,by rw[c8];exact o5,(dz.append o6 f).imp (λ_ _=>Rd.evo d0.evo),?_⟩⟩;rw[q3,<-c7];have:cells.toList.take us.length=us:=o7;rw[this,List.take_left]
  ·simp at S;obtain⟨rfl,rfl,rfl⟩:=S;obtain rfl:m=0:=by omega
   refine .leaf (g w c (λa ha=>by simp[bL,storeCells]) (by simp)) ?_;exact bM.renum hh hN hW G (by simp) a2 ⟨_,_,_,rfl⟩
 ·have d1:0<m:=by
   rcases jZ m with q|q
   ·subst q;exfalso;rcases e2 with⟨b,X,cells,a8,us,S,o2,o3,o4,_⟩|⟨rfl,_,S⟩
    ·simp at S;omega
    ·simp at S;omega
   ·exact q
  have b2:∃Y,dz (Rd w (Av F ρ h) e) l Y/\l.length=Q/\(cX e.size Q (.slice U Q cap)).run P w.drew= .ok Y.toArray w.drew:=by
   obtain⟨Y,L,c2⟩:=ip.load (P:=P) (e2.reads);have c3:=dz.length (λ_ _=>Rd.length) L;rcases c2 with⟨d8,d9,X,q1,_,_,q4⟩|⟨rfl,rfl,a,q1⟩
   ·simp at q1;obtain⟨rfl,rfl,rfl⟩:=q1;exact⟨Y,L,rfl,run_firstCells_some (P:=P) w.drew e.size l.length _ _ _ Y c3 (λj v hj=>by rw[cv];exact q4 j v hj)⟩
   ·simp at q1;obtain⟨rfl,rfl,rfl⟩:=q1;refine⟨[],L,rfl,?_⟩;cases U with
    |none=>simp[cX]
    |some a=>simp[cX,loadCells,loadCellsFrom]
  obtain⟨Y,L,rfl,c2⟩:=b2;have c3:=dz.length (λ_ _=>Rd.length) L;have h9:m*A<=281474976710656:=bq (Nat.mul_le_mul_right _ (Nat.le_add_left _ _)) (by omega:(l.length+m)*A<=_);have b3:=Lib.run_append_grow_zeros (P:=P) w t t' ty et i M .i64 .i64 (cP o) (eK p) hi O U l.length cap Y (by rw[C];exact c2) m d1 (by rw[C];exact a6) (by omega) (by omega) (by rw[E];exact h9) (growslice_fits (by omega) (by rw[E];exact B));have d2:=grownCap_ge w (l.length+m) cap et;refine .leaf (y:=sc (.own N)) (r:= .slice (some ⟨w.heap.size,0,none⟩) (l++ak m x0).length (grownCap w (l.length+m) cap et)) (by simpa using b3) (bM.remade hh hN hW G rfl (by simp) rfl (dz.append L f) (by omega) (by simpa using d2) ?_ ?_)
  ·have:=mH (e:=e) (z:=M) (olds:=Y) (news:=(bL M.cells m).toList) (n:=l.length) (m:=m) (cap:=cap) (et:=et) (W0:=w) b9 c3 a4;simpa using this
  ·simp;rw[<-ay,<-s8,<-aa,List.take_left]
def dJ{α:Type}(dst a:List α):List α:=a.take dst.length++dst.drop a.length
def DK(P:Program)(t:TypeId)(x y:V)(get:Nat->Option Ch):Option (V×dN):=
 match pS P t,x.one?,y.one? with
 |some b,some (.own k),some e=>match kj P b,get k,e.slice? get with
  |some 1,some (.sl .u8 l),some ⟨.u8,m⟩=>some (oo (min m.length l.length:Nat),[(k,some (.sl .u8 (dJ (α:=BitVec 8) l m)))])
  |_,_,_=>none
 |some b,some (.sub k a n .u8),some e=>match kj P b,get k,e.slice? get with
  |some 1,some (.cells l),some ⟨.u8,m⟩=>match fT l a n with
   |some c=>match so (.ar n .u8) c with
    |some z=>match kI l a [.d (.ar n .u8) (dJ (α:=BitVec 8) z m)]with
     |some f=>some (oo (min m.length n:Nat),[(k,some (.cells f))])
     |none=>none
    |none=>none
   |none=>none
  |_,_,_=>none
 |_,_,_=>none
theorem DL{α:Type}{l vs nv:List α}(h:l.take vs.length=vs)(a:vs.length<=l.length)(b:nv.length<=vs.length):(nv++l.drop nv.length).take (nv++vs.drop nv.length).length=nv++vs.drop nv.length:=by
 have:=nt (off:=0) h a (nv:=nv) (by omega);simpa using this
theorem kN{A:Nat->Prop}{l:List (BitVec 8)}{vs:List Value}:dz (Rd w A .u8) l vs↔vs=l.map cm:=by
 induction l generalizing vs with
 |nil=>exact Iff.rfl
 |cons x l c=>
  constructor
  ·rintro⟨a,b,rfl,e,f⟩;rw[c.1 f];simp only[Rd]at e;rw[e];rfl
  ·intro g;exact⟨[cm x],l.map cm,g,rfl,c.2 rfl⟩
theorem pc{α:Type}(m:List α)(n:Nat):m.take (min m.length n)=m.take n:=by
 rcases Nat.le_total m.length n with h|h
 ·rw[eB h,bf (aD _),bf h]
 ·rw[Nat.min_eq_right h]
theorem gX{α:Type}(l m:List α):(dJ l m).length=l.length:=by
 simp[dJ];omega
theorem te(l m:List (BitVec 8)):(dJ l m).map cm=(m.take l.length).map cm++(l.map cm).drop ((m.take l.length).map cm).length:=by
 simp only[dJ,dn,List.map_take,List.map_drop,be,bT]
 congr 1
 by_cases a:l.length<=m.length
 ·rw[eB a,bC (by simp;exact a),bC (by simp)]
 ·rw[Nat.min_eq_right (by omega)]
theorem kO{t j ty et:TypeId}(e:pS P t=some et)(l:kj P et=some 1){b off a c sl:Nat}{u:Value}{news:List Value}{w':World}
 (f:(Builtin.lenOf u).run P w= .ok sl w) (m:(cX 1 (min sl a) u).run P w= .ok news.toArray w) (g:(storeCells ⟨b,off,none⟩ news).run P w= .ok () w'):
 (gI #[t,j] ty #[.slice (some ⟨b,off,none⟩) a c,u]).run P w= .ok (.int .i64 (min sl a:Nat)) w':=by
 have i:Nat.min sl a=min sl a:=rfl;simp[gI,run_underlying (cP e),ca l,f,i,m,g,goInt]
theorem ow{t e ty et:TypeId}(a:pS P t=some et)(f:kj P et=some 1){c:Option Addr}{sl:Nat}{u:Value}
 (b:(Builtin.lenOf u).run P w= .ok sl w) (g:(cX 1 0 u).run P w= .ok #[] w):
 (gI #[t,e] ty #[.slice c 0 0,u]).run P w= .ok (.int .i64 0) w:=by
 cases c<;>simp[gI,run_underlying (cP a),ca f,b,g,goInt,storeCells]
theorem v7(hh:dq F ρ w h)(hg:∀k b,get k=some b->h k=some b){t t' ty:TypeId}{x y:V}{v u:Value}(hx:aT w (Av F ρ h) ρ x v)(hy:aT w (Av F ρ h) ρ y u):
 dl P F ρ w h N W (gI #[t,t'] ty #[v,u]) (Tr.ofOpt (DK P t x y get)):=by
 refine .ofOpt λq f=>?_;unfold DK at f
 have O:∀{Q:I}{m:List (BitVec 8)},y.one?=some Q->Q.slice? get=some ⟨.u8,m⟩->(Builtin.lenOf u).run P w= .ok m.length w/\∀n,n<=m.length->(cX 1 n u).run P w= .ok ((m.take n).map cm).toArray w:=by
  intro Q m B h2;obtain⟨cs,c1,c2⟩:=ip.load (P:=P) (gq hh hg h2 (aN B hy));have c3:cs=m.map cm:=kN.1 c1;rcases c2 with⟨a7,o,cap,rfl,_,_,q⟩|⟨M,rfl,a,rfl⟩
  ·refine⟨rfl,λn hn=>run_firstCells_some (P:=P) w 1 n _ _ _ _ (by simp;omega) (λj v hj=>?_)⟩;rw[cv];refine q j v ?_;rw[c3];rw[List.map_take,List.getElem?_take]at hj;split at hj
   ·exact hj
   ·simp at hj
  ·simp only at M;subst M;refine⟨rfl,λn hn=>?_⟩;simp only[de]at hn;obtain rfl:n=0:=by omega
   cases a with
   |none=>simp[cX]
   |some a=>simp[cX,loadCells,loadCellsFrom]
 have bytes:∀(l:List (BitVec 8)),∀v∈l.map cm,v.oneCell'=true:=by
  intro l v hv;obtain⟨_,_,rfl⟩:=dM.1 hv;rfl
 split at f
 ·rename_i et k Q p hp C;obtain⟨ad,n,cap,r,B⟩:=aN hp hx;simp at B;subst B;split at f
  case h_2=>simp at f
  rename_i l m hs hk hm;simp only[Option.some.injEq]at f;subst f;have g:=hg k _ hk;obtain⟨sv,D,e2⟩:=hh.ok k _ g;rw[r]at D;simp at D;subst D;obtain⟨s,hf⟩:=O C hm;rcases e2 with⟨b,a6,cells,E,us,R,o2,o3,o4,o5,o6,o7⟩|⟨a1,a0,R⟩
  ·simp at R;obtain⟨rfl,rfl,rfl⟩:=R;have G:m.take (min m.length (ah (α:=BitVec 8) l))=m.take (ah (α:=BitVec 8) l):=pc _ _;have S:us=l.map cm:=kN.1 o6;have a2:us.length<=cells.size:=by have:=aH ah o7;simp at this;omega
   have i:((m.take (ah (α:=BitVec 8) l)).map cm).length<=us.length:=by rw[S,bT,bT,be];exact Nat.min_le_left _ _
   obtain⟨w',A,M,q2,q3,q4,q5,q6,q7,q8⟩:=eW P (off:=0) (nv:=(m.take (ah (α:=BitVec 8) l)).map cm) o3 (by omega) (bytes _)
   have a3:A.size=cells.size:=by
    have:=aH ah q3;simp at this i;omega
   refine⟨.int .i64 (min m.length (ah (α:=BitVec 8) l):Nat),w',kO p hs s (by rw[hf _ (Nat.min_le_left _ _),G]) M,bM.set hh g rfl (.sl .u8 (dJ (α:=BitVec 8) l m)) (by simp) (by simp) (by omega) q5 q6 q7 (λb' _ H=>q8 b' (λe=>H (by rw[r,e];obtain⟨c',rfl⟩:∃c',cap=c'+1:=⟨cap-1,by omega⟩;rfl))) (λJ=>?_) _ _ (λ_=>aJ.2 rfl)⟩;refine⟨_,r, .inl ⟨b,cap,A,E,(dJ (α:=BitVec 8) l m).map cm,by rw[gX],o2,q2,by rw[gX];exact o4,by rw[a3];exact o5,kN.2 rfl,?_⟩⟩;rw[te,<-S,q3];simp only[List.take_zero,eS,bN];exact DL o7 (by simpa using a2) i
  ·simp at R;obtain⟨rfl,rfl,rfl⟩:=R;have U:(l:List (BitVec 8))=[]:=a1;subst U;refine⟨.int .i64 0,w,ow p hs s (by simpa using hf 0 (aq _)),bM.set hh g rfl (.sl .u8 (dJ (α:=BitVec 8) [] m)) (by simp) (by simp) (aD _) rfl rfl rfl (λ_ _ _=>rfl) (λJ=>⟨_,r, .inr ⟨by simp[dJ],_,rfl⟩⟩) _ _ (λ_=>aJ.2 ?_)⟩;simp[bj,Rd]
 ·rename_i et k o n Q p hp C;obtain⟨b,K,B⟩:=aN hp hx;simp at B;subst B;split at f
  case h_2=>simp at f
  rename_i l m hs hk hm;split at f
  case h_2=>simp at f
  rename_i c hc;split at f
  case h_2=>simp at f
  rename_i z hz;split at f
  case h_2=>simp at f
  rename_i l' a4;simp only[Option.some.injEq]at f;subst f;have g:=hg k _ hk;obtain⟨b',cs,E,D,e2,e3⟩:=hh.ok k _ g;rw[K]at D;simp at D;subst D;obtain⟨s,hf⟩:=O C hm;obtain⟨g1,g2⟩:=gL e3 hc;obtain⟨d1,d2⟩:=iP hz g2;have a5:(cs.toList.drop o).take n=z.map cm:=kN.1 d2;have L:ah (α:=BitVec 8) z=n:=d1;have X:bj w (Av F ρ h) ρ (.d (.ar n .u8) (dJ (α:=BitVec 8) z m)) ((dJ (α:=BitVec 8) z m).map cm):=⟨by rw[gX];exact L,kN.2 rfl⟩;obtain⟨s1,s2⟩:=kJ e3 (aL.single X) a4;have G:m.take (min m.length n)=m.take n:=pc _ _;have i:((m.take n).map cm).length<=n:=by rw[bT,be];exact Nat.min_le_left _ _
  obtain⟨w',A,M,q2,q3,q4,q5,q6,q7,q8⟩:=eW P (off:=o) (nv:=(m.take n).map cm) e2 (by simp at g1⊢;omega) (bytes _);refine⟨.int .i64 (min m.length n:Nat),w',kO p hs s (by rw[hf _ (Nat.min_le_left _ _),G]) M,bM.set hh g rfl (.cells l') (by simp) (by simp) (by omega) q5 q6 q7 (λb' _ H=>q8 b' (λe=>H (by rw[K,e];rfl))) (λJ=>⟨b,A,E,K,q2,?_⟩) _ _ (λ_=>aJ.2 rfl)⟩;rw[q3];refine aL.evo J.evo (dR.refl ρ) ?_;have Y:((dJ (α:=BitVec 8) z m).map cm).length=n:=by rw[bT,gX];exact L
  rw[Y,te,L,<-a5]at s2;have:=o8 (vs:=cs.toList) (q:=o) (n:=n) (m:=0) (nv:=(m.take n).map cm) (by omega);simp only[List.take_zero,eS,bN,Nat.add_zero]at this;rw[<-this];exact s2
 ·simp at f
end
end
section
def nz(place:Nat->Option (Nat×Nat)):List I->List (Nat×V)->Option (List I)
 |a,[]=>some a
 |a,(i,x)::r=>
  match place i with
  |none=>none
  |some (b,size)=>
   match x with
   | .val true l=>if kG l=size then
    match kI a b l with
    |some m=>nz place m r
    |none=>none
     else none
   | .val false [c]=>if size=1 then
    match jD a b c with
    |some m=>nz place m r
    |none=>none
     else none
   |_=>none
theorem v8(off:Nat):∀(l:List Value)(k:Nat)(cells:Array Value),off+k+l.length<=cells.size->
 ((l.zipIdx k).foldl (λcs(p:Value×Nat)=>cs.setIfInBounds (off+p.2) p.1) cells).toList=cells.toList.take (off+k)++l++cells.toList.drop (off+k+l.length)
 |[],k,cells,_=>by simp
 |v::l,k,cells,h=>by
  simp only[ba]at h;rw[List.zipIdx_cons,List.foldl_cons,v8 off l (k+1) _ (by simp;omega)];simp only[Array.toList_setIfInBounds];have:=list_seg_step cells.toList (off+k) v l (by simp;omega);simpa[eO]using this
theorem v9(v:Value)(off:Nat)(cells:Array Value)(h:off+v.cells.size<=cells.size):
 (v.cells.zipIdx.foldl (λcs(c,j)=>cs.setIfInBounds (off+j) c) cells).toList=cells.toList.take off++v.cells.toList++cells.toList.drop (off+v.cells.toList.length):=by
 have e:v.cells.zipIdx.foldl (λcs(c,j)=>cs.setIfInBounds (off+j) c) cells=(v.cells.toList.zipIdx 0).foldl (λcs(p:Value×Nat)=>cs.setIfInBounds (off+p.2) p.1) cells:=by
  rw[<-Array.foldl_toList];simp
 rw[e,v8 off v.cells.toList 0 cells (by simpa using h)];simp
theorem qB{w:World}{A:Nat->Prop}{ρ:Nat->Pl}{place:Nat->Option (Nat×Nat)}:∀{parts:List (Nat×V)}{f:List (Nat×Value)}{b m:List I}{cells:Array Value},
 aL w A ρ b cells.toList->F2 (λ(p:Nat×V)(q:Nat×Value)=>p.1=q.1/\aT w A ρ p.2 q.2) parts f->nz place b parts=some m->
 ∃a,Instr.fill place cells f=some a/\aL w A ρ m a.toList
 |[],[],b,m,cells,hL,_,h=>by simp[nz]at h;subst h;exact⟨cells,rfl,hL⟩
 |(i,x)::r,(j,v)::K,b,m,cells,hL,⟨⟨u,E⟩,n⟩,h=>by
  simp only at u;subst u;unfold nz at h;split at h
  ·simp at h
  rename_i e size L
  have fin:∀(o:List I),v.cells.size=size->e+v.cells.toList.length<=cells.toList.length->aL w A ρ o (cells.toList.take e++v.cells.toList++cells.toList.drop (e+v.cells.toList.length))->nz place o r=some m->
   ∃a,Instr.fill place cells ((i,v)::K)=some a/\aL w A ρ m a.toList:=by
   intro o y G z M;have B:e+v.cells.size<=cells.size:=by simpa using G
   rw[<-v9 v e cells B]at z;obtain⟨a,t,C⟩:=qB z n M;refine⟨a,?_,C⟩;have c:¬((v.cells.size≠size||decide (e+v.cells.size>cells.size))=true):=by simp[y];omega
   simp only[Instr.fill,L,c];simpa using t
  split at h
  ·rename_i l;split at h
   case isFalse=>simp at h
   rename_i O;split at h
   case h_2=>simp at h
   rename_i o H;have D:=eb E;obtain⟨t,C⟩:=kJ hL D H;have g:=aL.length D;exact fin o (by simp at g;omega) t C h
  ·rename_i c;split at h
   case isFalse=>simp at h
   rename_i O;split at h
   case h_2=>simp at h
   rename_i o H;have D:=eb E;have g:=aL.length D;have J:=aJ.1 E
   have s:v.cells.toList=[v]:=by
    have:=bj.one J v (by simp);cases v<;>first|rfl|(simp[dH]at this)
   obtain⟨t,C⟩:=mE hL J H;have y:v.cells.size=1:=by have:=aH ah s;simpa using this
   refine fin o (by omega) (by rw[s];simp at t⊢;omega) ?_ h;rw[s]
   have:cells.toList.take e++[v]++cells.toList.drop (e+[v].length)=cells.toList.set e v:=by
    rw[List.set_eq_take_append_cons_drop,am t];simp
   rw[this];exact C
  ·simp at h
def zZ(P:Program)(t:TypeId):Option (Nat->Option (Nat×Nat)):=
 match P.underlying t with
 |some (.array _ e)=>match P.info? e with
  |some c=>some λi=>some (i*c.size,c.size)
  |none=>none
 |some (.struct a)=>match a.toList.mapM (λf=>(P.info? f.type).map λi=>(f.offset,i.size))with
  |some b=>some λi=>b[i]?
  |none=>none
 |_=>none
section
variable{P:Program}{F:Nat->Prop}{ρ:Nat->Pl}{w:World}{h get:Nat->Option Ch}{N W:Nat}
def yu(P:Program)(t:TypeId)(parts:List (Nat×V)):Option (V×dN):=
 match zT P t,zZ P t with
 |some (true,a),some place=>(nz place a parts).map λl=>(.val true l,[])
 |_,_=>none
theorem uw(hh:dq F ρ w h){t:TypeId}{parts:List (Nat×V)}{b:List (Nat×Value)}(z:F2 (λ(p:Nat×V)(q:Nat×Value)=>p.1=q.1/\aT w (Av F ρ h) ρ p.2 q.2) parts b):
 dl P F ρ w h N W (Instr.build t b.toArray) (Tr.ofOpt (yu P t parts)):=by
 refine .ofOpt λq g=>?_;unfold yu at g;split at g
 case h_2=>simp at g
 rename_i A place B a;cases r:nz place A parts with
 |none=>simp[r]at g
 |some l=>
  simp[r]at g;subst g;obtain⟨i,E,C,j,s⟩:=oX B;obtain⟨c,y,D⟩:=qB (eb (s w (Av F ρ h) ρ)) z r
  have f:P.built t b.toArray.toList=some c:=by
   unfold zZ at a;unfold Program.built;rw[C];split at a
   ·rename_i n e u;split at a
    case h_2=>simp at a
    rename_i G v;simp at a;subst a;simp only[u,j,v];exact y
   ·rename_i m u;split at a
    case h_2=>simp at a
    rename_i o x;simp at a;subst a;simp only[u,j,x];simpa using y
   ·simp at a
  exact⟨_,w,run_build w t _ c f,bM.pure hh ⟨c.toList,D,by simp⟩⟩
def ox(e:Ty):Nat->List I->Option (List e.den)
 |0,[]=>some []
 |0,_::_=>none
 |n+1,l=>match ji e l with
  |some (x,r)=>match ox e n r with
   |some m=>some (x::m)
   |none=>none
  |none=>none
theorem tf{A:Nat->Prop}{e:Ty}:∀{n:Nat}{l:List I}{m:List e.den}{vs:List Value},ox e n l=some m->aL w A ρ l vs->m.length=n/\dz (Rd w A e) m vs
 |0,[],m,vs,h,c=>by simp[ox]at h;subst h;exact⟨rfl,c⟩
 |0,_::_,_,_,h,_=>by simp[ox]at h
 |n+1,l,m,vs,h,c=>by
  simp only[ox]at h;split at h
  case h_2=>simp at h
  rename_i x r f;split at h<;>simp at h;rename_i q g;subst h;obtain⟨a,b,e,i,j⟩:=vX f c;obtain⟨o,p⟩:=tf g j;exact⟨by simp[o],a,b,e,i,p⟩
def IL(n:Nat)(l:List I):List I:=match n with
 |0=>[]
 |n+1=>l++IL n l
theorem Aa{A:Nat->Prop}{l:List I}{vs:List Value}(h:aL w A ρ l vs):∀n,aL w A ρ (IL n l) (ak n vs).flatten
 |0=>rfl
 |n+1=>by rw[List.replicate_succ,List.flatten_cons];exact aL.append h (Aa h n)
def kP(P:Program)(t:TypeId)(len:Nat)(parts:List (Nat×V))(N:Nat):Option (V×dN):=
 match pS P t with
 |none=>none
 |some a=>
  match kj P a,zT P a,Ig P 8 a with
  |some s,some (_,b),some e=>
   if 0<s/\s=e.size/\len*s<=16777216/\kG b=s then
    match nz (λi=>some (i*s,s)) (IL len b) parts with
    |some l=>match ox e len l with
     |some m=>some (sc (.own N),[(N,some (.sl e m))])
     |none=>none
    |none=>none
   else none
  |_,_,_=>none
theorem Vc(place:Nat->Option (Nat×Nat)):∀(q:List (Nat×Value))(c g:Array Value),Instr.fill place c q=some g->g.size=c.size:=by
 intro q
 induction q with
 |nil=>intro c g f;simp[Instr.fill]at f;rw[f]
 |cons p q i=>
  intro c g f;obtain⟨a,b⟩:=p;unfold Instr.fill at f;split at f
  ·simp at f
  ·split at f
   ·simp at f
   ·rename_i j m _ e;rw[i _ _ f];simp only[iH,ai,not_or,ne_eq,aC,gt_iff_lt,Nat.not_lt]at e;have l:=v9 b j c e.2;have:=aH ah l;rw[s8]at this;rw[this];simp;omega
theorem bM.madeA(hh:dq F ρ w h)(c:ρ N= .un)(f:0<W){w':World}{e:Ty}{l:List e.den}{cells:Array Value}{ty:TypeId}
 (g:w'=w.alloc (.cells cells ty)) (i:dz (Rd w (Av F ρ h) e) l cells.toList) (o:0<e.size):bM F ρ w h N W (sc (.own N)) [(N,some (.sl e l))] (.slice (some ⟨w.heap.size,0,none⟩) l.length l.length) w':=by
 by_cases j:l=[]
 ·subst j;subst g;refine bM.add hh c f (fH.alloc w _) (.sv (.slice (some ⟨w.heap.size,0,none⟩) 0 0)) (.sl e []) (by simp) (λb _ m=>by simp[Pl.blk]at m) (λp=>⟨_,bP _ _ _, .inr ⟨rfl,_,rfl⟩⟩) _ _ (λ_=>aJ.2 ⟨_,_,_,bP _ _ _,rfl⟩)
 ·have a:0<l.length:=by rcases l with _|_;exact absurd rfl j;simp
  have n:=dz.length (λ_ _=>Rd.length) i;exact bM.made hh c f (.inl g) i a (aD _) (by rw[<-s8,n];exact aD _) (bf (aD _))
theorem nA(hh:dq F ρ w h)(M:ρ N= .un)(O:0<W){t:TypeId}{len:Nat}{parts:List (Nat×V)}{b:List (Nat×Value)}(Q:F2 (λ(p:Nat×V)(q:Nat×Value)=>p.1=q.1/\aT w (Av F ρ h) ρ p.2 q.2) parts b):
 dl P F ρ w h N W (Instr.buildSlice t len b.toArray) (Tr.ofOpt (kP P t len parts N)):=by
 refine .ofOpt λq f=>?_;unfold kP at f;split at f
 ·simp at f
 rename_i R D;split at f
 case h_2=>simp at f
 rename_i s g0 S e E j U;split at f
 case isFalse=>simp at f
 rename_i n;obtain⟨o,rfl,n,g⟩:=n;split at f
 case h_2=>simp at f
 rename_i l X;split at f<;>simp at f;rename_i m Y;subst f;obtain⟨i,y,G,u,A⟩:=oX j;have B:y.cells.size=e.size:=by rw[pT w j G u,g]
 have hz:=eb (A w (Av F ρ h) ρ);have h2:¬(len*e.size>2^24):=by omega
 have key:∀c:Array Value,aL w (Av F ρ h) ρ (IL len S) c.toList->
  (∀a,Instr.fill (λi=>some (i*e.size,e.size)) c b=some a->(Instr.buildSlice t len b.toArray).run P w= .ok (.slice (some ⟨w.heap.size,0,none⟩) len len) (w.alloc (.cells a R)))->
  ∃r H,(Instr.buildSlice t len b.toArray).run P w= .ok r H/\bM F ρ w h N W (sc (.own N)) [(N,some (.sl e m))] r H:=by
  intro c C v;obtain⟨a,x,h4⟩:=qB C Q X;obtain⟨J,d2⟩:=tf Y h4;have K:=v a x;rw[<-J]at K;rw[<-J];exact⟨_,_,K,bM.madeA hh M O rfl d2 o⟩
 by_cases L:len*e.size=0
 ·have g:len=0:=by rcases Nat.mul_eq_zero.1 L with q|q;exact q;omega
  subst g;refine key #[] rfl λa x=>?_;have e0:∀(z:Array Value),Array.map (λi=>z[i % z.size]!) (Array.range 0)= #[]:=λz=>by simp
  simp only[Instr.buildSlice,bF,run_underlying (cP D),aX,ca E,Nat.zero_mul,if_true,e0,x];simp[newRow]
 ·refine key ((Array.range (len*e.size)).map (λi=>y.cells[i % y.cells.size]!)) ?_ λa x=>?_
  ·have:=Aa hz len;rw[<-ov y.cells e.size B len]at this;simpa using this
  ·simp only[Instr.buildSlice,bF,run_underlying (cP D),aX,ca E,h2,if_false,L,zeroValue,typeInfo,run_program,G,u,bA,x];simp[newRow]
def wa(P:Program)(t:TypeId)(x y:V)(N:Nat):Tr (V×dN):=
 match pS P t,uo x,uo y with
 |some b,some n,some c=>match kj P b,Va P b,zT P b,Ig P 8 b with
  |some s,some a,some (_,f),some e=>match so e f with
   |some g=>if s=e.size/\0<s/\kG f=s/\1<=a then .need (0<=n.2/\n.2=c.2/\n.2*a<=281474976710656) (.leaf (sc (.own N),[(N,some (.sl e (ak n.2.toNat g)))]))else .stuck
   |none=> .stuck
  |_,_,_,_=> .stuck
 |_,_,_=> .stuck
theorem wb(hh:dq F ρ w h)(R:ρ N= .un)(S:0<W){t:TypeId}{x y:V}{v u:Value}(U:aT w (Av F ρ h) ρ x v)(X:aT w (Av F ρ h) ρ y u):
 dl P F ρ w h N W (Instr.makeSlice t v u) (wa P t x y N):=by
 unfold wa;split
 case h_2=>exact .stuck
 rename_i M n c Y hn hc;have:=jG hn U;subst this;have:=jG hc X;subst this;split
 case h_2=>exact .stuck
 rename_i s o g0 z0 e hs B p a0;split
 case h_2=>exact .stuck
 rename_i x0 C;split
 case isFalse=>exact .stuck
 rename_i D;obtain⟨rfl,q,E,a1⟩:=D;refine .need λhb=>?_;obtain⟨b1,b2,G⟩:=hb;obtain⟨i,l,H,r,J⟩:=oX p;have K:l.cells.size=e.size:=by rw[pT w p H r,E]
 obtain⟨i',f,L⟩:=ug hs;obtain⟨a2,a,z⟩:=yk B;rw[H]at f a;simp at f a;subst f a;have hz:Rd w (Av F ρ h) e x0 l.cells.toList:=iP C (eb (J w (Av F ρ h) ρ));obtain⟨m,O⟩:=bR b1;rw[<-b2,O];rw[O]at G
 have Q:m<=281474976710656:=by
  have h9:((m*o:Nat):Int)<=281474976710656:=by rw[Int.natCast_mul];exact G
  have:=Nat.le_mul_of_pos_right m (show 0<o by omega);omega
 have b:=run_make (P:=P) w t M i l (cP Y) H r .i64 .i64 (m:Int) (m:Int) (by omega) (bY _) (by rw[z,Int.mul_comm];exact G) (by omega);simp only[aF,L]at b
 have g:(madeCells l.cells (m*e.size)).toList=(ak m l.cells.toList).flatten:=by
  rw[<-ov l.cells e.size K m];apply List.ext_getElem?;intro j;simp only[madeCells,Array.toList_map,List.getElem?_map];by_cases hj:j<m*e.size<;>simp[hj]
 have A:=uv hz m;rw[<-g]at A;have:=bM.madeA (W:=W) hh R S rfl A q (ty:=M);simp only[List.length_replicate,aF]at this⊢;exact .leaf b this
end
end
section
section
variable{P:Program}{F:Nat->Prop}{ρ:Nat->Pl}{w:World}{h get:Nat->Option Ch}{N W:Nat}
def Vy(l:List Int):List (BitVec 8):=(runesBytes l).data.toList.map UInt8.toBitVec
theorem BW(l:List Int):bH (Vy l)=runesBytes l:=by
 have:∀z:ByteArray,bH (z.data.toList.map UInt8.toBitVec)=z:=λ⟨d⟩=>by simp[bH,Function.comp_def]
 exact this _
theorem IM{A:Nat->Prop}{l:List Int}{vs:List Value}:dz (Rd w A .i32) l vs↔vs=l.map (gj .i32):=by
 induction l generalizing vs with
 |nil=>exact Iff.rfl
 |cons x l c=>
  constructor
  ·rintro⟨a,b,rfl,e,f⟩;rw[c.1 f];simp only[Rd]at e;rw[e];rfl
  ·intro g;subst g;exact⟨[.int .i32 x],_,rfl,rfl,c.2 rfl⟩
def kQ(P:Program)(a dst:TypeId)(x:V)(get:Nat->Option Ch):Tr (V×dN):=
 match yi P dst with
 |some k=>match x.one? with
  |some i=>match i.sc? with
   |some (false, .i32 n)=>if k= .i64/\(P.underlying a).isSome then .need (ac n) (.leaf (oo n,[]))else .stuck
   |some q=>if(P.underlying a).isSome then Tr.ofOpt ((zL k q.2).map λz=>(Vx q.1 z,[]))else .stuck
   |none=> .stuck
  |none=> .stuck
 |none=>
  if BT P dst then
   match pS P a with
   |some e=>match yi P e,x.one? with
    |some .u8,some .nils=> .leaf (sc (.d .st []),[])
    |some .u8,some i=>match i.slice? get with
     |some ⟨.u8,l⟩=> .leaf (sc (.d .st l),[])
     |_=> .stuck
    |some .i32,some .nils=> .leaf (sc (.d .st []),[])
    |some .i32,some i=>match i.slice? get with
     |some ⟨.i32,l⟩=> .leaf (sc (.d .st (Vy l)),[])
     |_=> .stuck
    |_,_=> .stuck
   |none=> .stuck
  else
   match pS P dst,BT P a with
   |some e,true=>match yi P e,x.one? with
    |some .u8,some i=>match i.sc? with
     |some (_, .str s)=> .leaf (sc (.d (.sl .u8) s),[])
     |_=> .stuck
    |_,_=> .stuck
   |_,_=> .stuck
theorem yv(l:List (BitVec 8)):∀(r:ByteArray),((l.map λx=>(x.toNat:Int)).foldl (λr n=>r.push (UInt8.ofNat n.toNat)) r)=⟨r.data++(l.map iE).toArray⟩:=by
 induction l with
 |nil=>intro r;simp
 |cons x l a=>
  intro r;simp only[aY,List.foldl_cons];rw[a]
  have:UInt8.ofNat ((x.toNat:Int).toNat)=iE x:=by
   apply UInt8.toBitVec_inj.1;simp
  rw[this];simp[ByteArray.push]
theorem qC(hh:dq F ρ w h)(hg:∀k b,get k=some b->h k=some b){g dst:TypeId}{x:V}{v:Value}(E:aT w (Av F ρ h) ρ x v):dl P F ρ w h N W (convert g dst v) (kQ P g dst x get):=by
 unfold kQ;split
 ·rename_i k R;split
  case h_2=>exact .stuck
  rename_i i t;split
  case h_3=>exact .stuck
  ·rename_i n S;split
   case isFalse=>exact .stuck
   rename_i C;obtain⟨rfl,D⟩:=C;refine .need λhn=>?_;obtain⟨d,U⟩:=cJ.1 D;have A:=mF S (aN t E);subst A
   have C:(Conv.intToInt .i64 n).run P w= .ok (.int .i64 n) w:=by
    show og (gj .i64 (IntKind.i64.wrap n)) w=_;rw[hn.wrap]
   exact .pure (r:= .int .i64 n) hh (by simp[Sc.val,convert,run_underlying U,run_underlying (eK R),C]) (aJ.2 rfl)
  ·rename_i q _ S;split
   case isFalse=>exact .stuck
   rename_i D;refine .ofOpt λy X=>?_;cases C:zL k q.2 with
   |none=>simp[C]at X
   |some z=>
    simp[C]at X;subst X;obtain⟨d,U⟩:=cJ.1 D;have A:=mF S (aN t E);obtain⟨kk,n,e1,e2⟩:=vS (P:=P) w k q.2 z C;rw[e1]at A;subst A;exact⟨z.val,w,by simp[convert,run_underlying U,run_underlying (eK R),e2],bM.pure hh uq⟩
 ·split
  ·rename_i o;split
   case h_2=>exact .stuck
   rename_i e J;split
   case h_5=>exact .stuck
   ·rename_i f t;have L:=aN t E;simp[bj]at L;subst L;refine .pure (r:= .string (bH [])) hh ?_ (aJ.2 rfl);rw[run_convert_bytes_string w g dst e _ 0 0 (cP J) (eK f) (gA o)];simp[Conv.bytesToString,bH];rfl
   ·rename_i i _ f t;split
    case h_2=>exact .stuck
    rename_i l D;have M:=gq hh hg D (aN t E);simp only at M;obtain⟨K,Y,c2⟩:=ip.load (P:=P) M;have c3:K=rZ cm l:=kN.1 Y;have A:K=(rZ (λ(x:BitVec 8)=>(x.toNat:Int)) l).map (gj .u8):=by rw[c3];simp[cm]
    refine .pure (r:= .string (bH l)) hh ?_ (aJ.2 rfl);rcases c2 with⟨a0,a3,cap,rfl,_,q,_⟩|⟨rfl,rfl,a,rfl⟩
    ·rw[run_convert_bytes_string w g dst e _ _ cap (cP J) (eK f) (gA o)];have B:K.length=ah (α:=BitVec 8) l:=by rw[c3];simp
     rw[B,A]at q;rw[run_bytesToString w _ _ cap _ q,yv];simp[bH]
    ·rw[run_convert_bytes_string w g dst e _ 0 0 (cP J) (eK f) (gA o)];cases a with
     |none=>simp[Conv.bytesToString,bH];rfl
     |some a=>
      have m:=run_loadCells_list (P:=P) w a [] (λj u G=>by simp at G);rw[run_bytesToString w a 0 0 [] (by simpa using m)];simp[bH];rfl
   ·rename_i f t;have L:=aN t E;simp[bj]at L;subst L;refine .pure (r:= .string (bH [])) hh ?_ (aJ.2 rfl);rw[run_convert_runes_string w g dst e _ 0 0 (cP J) (eK f) (gA o)];simp[Conv.runesToString,bH];rfl
   ·rename_i i _ f t;split
    case h_2=>exact .stuck
    rename_i l D;have M:=gq hh hg D (aN t E);simp only at M;obtain⟨K,Y,c2⟩:=ip.load (P:=P) M;have A:K=rZ (gj .i32) l:=IM.1 Y;refine .pure (r:= .string (bH (Vy l))) hh ?_ (aJ.2 rfl);rw[BW];rcases c2 with⟨a0,a3,cap,rfl,_,q,_⟩|⟨rfl,rfl,a,rfl⟩
    ·rw[run_convert_runes_string w g dst e _ _ cap (cP J) (eK f) (gA o)];have B:K.length=ah (α:=Int) l:=by rw[A];simp
     rw[B,A]at q;rw[run_runesToString w _ _ cap _ q]
    ·rw[run_convert_runes_string w g dst e _ 0 0 (cP J) (eK f) (gA o)];cases a with
     |none=>simp[Conv.runesToString,runesBytes]
     |some a=>
      have m:=run_loadCells_list (P:=P) w a [] (λj u G=>by simp at G);rw[run_runesToString w a 0 0 [] (by simpa using m)]
  ·split
   case h_2=>exact .stuck
   rename_i e H O;split
   case h_2=>exact .stuck
   rename_i i f t;split
   case h_2=>exact .stuck
   rename_i kn s D;have A:=mF D (aN t E);subst A;have Q:=run_bytes_of_string (P:=P) w g dst e (bH s) (gA O) (cP H) (eK f);have a4:(bH s).size=s.length:=by simp[bH,ByteArray.size]
   obtain⟨a1,a2⟩:=hh.same (fH.drewAlloc w (.cells (bytesRow (bH s) (grownCap w (bH s).size 0 e)) e ((bytesRow (bH s) (grownCap w (bH s).size 0 e)).size,(bytesRow (bH s) (grownCap w (bH s).size 0 e)).size+1)));refine .leaf Q ⟨ρ,dR.refl ρ,λ_ p q=>absurd p q,aJ.2 ⟨_,rfl,?_⟩,a1,a2⟩;rw[a4];refine .inl ⟨w.heap.size,0,grownCap w s.length 0 e,s.map cm,rfl,grownCap_ge _ _ _ _,?_,λhA=>?_,kN.2 rfl,λj u G=>?_⟩
   ·rw[dX];show w.heap.size<w.heap.size+1;omega
   ·rcases hA with hA|⟨k,c,R,C,hb⟩
    ·have:=hh.gs _ hA;omega
    ·have:=(hh.fr k c _ R C hb).1;omega
   ·rw[bN,cell_of_row _ w.heap.size j _ _ _ (Go.heap_alloc_new w.drew _)]
    have a5:j<s.length:=by
     rcases bI j s.length with q|q
     ·exact q
     ·rw[bD (by simpa using q)]at G;simp at G
    have H:(bytesRow (bH s) (grownCap w s.length 0 e))[j]?=(s.map cm)[j]?:=by
     unfold bytesRow;rw[Array.getElem?_append_left (by simp[bH];exact a5)];simp[bH,List.getElem?_map,Function.comp_def];rfl
    rw[H];exact G
def aun(a:UnOp)(x:V):Option V:=match x.one? with
 |some i=>match i.sc? with
  |some q=>match sun a q.2 with
   |some z=>some (Vx q.1 z)
   |none=>none
  |none=>none
 |none=>none
theorem BX(hh:dq F ρ w h){c:UnOp}{x:V}{v:Value}(e:aT w (Av F ρ h) ρ x v):dl P F ρ w h N W (Op.unary c v) (Tr.ofOpt ((aun c x).map (·,[]))):=by
 refine .ofOpt λq b=>?_;cases a:aun c x with
 |none=>simp[a]at b
 |some y=>
  simp[a]at b;subst b;unfold aun at a;split at a
  case h_2=>simp at a
  rename_i i f;split at a
  case h_2=>simp at a
  rename_i q b;split at a<;>simp at a;rename_i z g;subst a;have j:=mF b (aN f e);subst j;exact⟨_,w,BP w c _ _ g,bM.pure hh uq⟩
def eH:Value->Value->Bool
 | .int _ a, .int _ b=>a==b
 | .bool a, .bool b=>a==b
 | .string a, .string b=>a.toList==b.toList
 |_,_=>false
def cb:List Value->List Value->Bool
 |[],[]=>true
 |x::a,y::b=>eH x y&&cb a b
 |_,_=>false
def DM(t:Nat)(x y:Value):Prop:=(t=0/\∃k a b,x= .int k a/\y= .int k b)\/(t=1/\∃a b,x= .bool a/\y= .bool b)\/(t=2/\∃a b,x= .string a/\y= .string b)
def dj:List Nat->List Value->List Value->Prop
 |[],c,e=>c=[]/\e=[]
 |t::r,c,e=>∃x y a b,c=x::a/\e=y::b/\DM t x y/\dj r a b
theorem dj.length:∀{l:List Nat}{xs c:List Value},dj l xs c->xs.length=l.length/\c.length=l.length
 |[],_,_,⟨rfl,rfl⟩=>⟨rfl,rfl⟩
 |_::_,_,_,⟨_,_,_,_,rfl,rfl,_,h⟩=>by obtain⟨a,b⟩:=dj.length h;simp[a,b]
theorem dj.append:∀{l m:List Nat}{xs c us vs:List Value},dj l xs c->dj m us vs->dj (l++m) (xs++us) (c++vs)
 |[],_,_,_,_,_,⟨rfl,rfl⟩,h=>h
 |_::_,_,_,_,_,_,⟨x,y,a,b,rfl,rfl,e,f⟩,h=>⟨x,y,_,_,rfl,rfl,e,dj.append f h⟩
theorem dj.split:∀{l m:List Nat}{xs c:List Value},dj (l++m) xs c->dj l (xs.take l.length) (c.take l.length)/\dj m (xs.drop l.length) (c.drop l.length)
 |[],_,_,_,h=>by simpa[dj]using h
 |_::_,_,_,_,⟨x,y,a,b,rfl,rfl,e,f⟩=>by
  obtain⟨p,q⟩:=dj.split f;exact⟨⟨x,y,_,_,rfl,rfl,e,by simpa using p⟩,by simpa using q⟩
theorem fU:∀{a b c d:List Value},a.length=b.length->cb (a++c) (b++d)=(cb a b&&cb c d)
 |[],[],_,_,_=>by simp[cb]
 |x::a,y::b,c,d,h=>by simp only[List.cons_append,cb,fU (a:=a) (b:=b) (by simpa using h),Bool.and_assoc]
def yw(P:Program)(f:TypeId->Option (List Nat)):List Field->Nat->Option (List Nat)
 |[],_=>some []
 |x::r,o=>if x.name≠ "_" /\x.offset=o then
   match f x.type,kj P x.type with
   |some a,some n=>if a.length=n then(match yw P f r (o+n)with
    |some b=>some (a++b)
    |none=>none)else none
   |_,_=>none
  else none
def mI(P:Program):Nat->TypeId->Option (List Nat)
 |0,_=>none
 |d+1,t=>match P.underlying t with
  |some (.int _)=>some [0]
  |some .bool=>some [1]
  |some .string=>some [2]
  |some (.struct a)=>if P.stoodInHeld t then none else yw P (mI P d) a.toList 0
  |_=>none
def dU(P:Program)(t:TypeId)(xs:List Value)(v:Value):Prop:=if ff P t=some true then v= .agg xs.toArray else xs=[v]
theorem wc(w:World)(d:Nat)(f:TypeId->Option (List Nat))(G:∀t c xs e x y,f t=some c->dj c xs e->dU P t xs x->dU P t e y->(Op.equalIn d t x y).run P w= .ok (cb xs e) w)
 (s:∀t c,f t=some c->(∃b,ff P t=some b/\(b=false->c.length=1))) (xs e:List Value):
 ∀(u:List Field)(o:Nat)(c:List Nat),yw P f u o=some c->dj c (xs.drop o) (e.drop o)->(Op.eqFields d xs.toArray e.toArray u).run P w= .ok (cb (xs.drop o) (e.drop o)) w
 |[],o,c,j,z=>by
  simp[yw]at j;subst j;obtain⟨A,B⟩:=z;rw[A,B];rfl
 |g::u,o,c,j,z=>by
  simp only[yw]at j;split at j
  case isFalse=>simp at j
  rename_i O;obtain⟨r,rfl⟩:=O;split at j
  case h_2=>simp at j
  rename_i a n H C;split at j
  case isFalse=>simp at j
  rename_i Q;split at j<;>simp at j;rename_i b R;subst Q;subst j;obtain⟨J,S⟩:=z.split;obtain⟨U,i,A⟩:=s _ _ H;have m:=J.length
  have l:∀p:List Value,((p.drop g.offset).take a.length).length=a.length->∃v,(part g.type p.toArray g.offset).run P w= .ok v w/\dU P g.type ((p.drop g.offset).take a.length) v:=by
   intro p K;cases U
   ·have B:=A rfl;rw[B]at K⊢
    obtain⟨v,L⟩:∃v,(p.drop g.offset).take 1=[v]:=by
     match hq:(p.drop g.offset).take 1,K with
     |[v],_=>exact⟨v,rfl⟩
    refine⟨v,?_,by simp[dU,i,L]⟩
    have:p[g.offset]?=some v:=by
     have M:((p.drop g.offset).take 1)[0]?=some v:=by rw[L];rfl
     rw[iF (by omega),iO]at M;simpa using M
    simp[part,eV i,this]
   ·refine⟨.agg ((p.drop g.offset).take a.length).toArray,?_,by simp[dU,i]⟩;simp[part,eV i,ca C]
  obtain⟨x,X,Y⟩:=l xs m.1;obtain⟨y,y1,y2⟩:=l e m.2;have D:=G _ _ _ _ x y H J Y y2;have E:dj b (xs.drop (g.offset+a.length)) (e.drop (g.offset+a.length)):=by rw[<-jz,<-jz];exact S
  have ih:=wc w d f G s xs e u _ b R E
  have q:cb (xs.drop g.offset) (e.drop g.offset)=(cb ((xs.drop g.offset).take a.length) ((e.drop g.offset).take a.length)&&cb (xs.drop (g.offset+a.length)) (e.drop (g.offset+a.length))):=by
   rw[<-jz,<-jz,<-fU (by rw[m.1,m.2]),dI,dI]
  simp only[Op.eqFields,r,ne_eq,not_false_eq_true,if_true,bF,X,y1,aX,D];rw[q];cases cb ((xs.drop g.offset).take a.length) ((e.drop g.offset).take a.length)
  ·rfl
  ·simp only[Bool.not_true,cu,if_false,fp];exact ih
theorem qD{d:Nat}{t:TypeId}{a:List Nat}(h:mI P d t=some a):∃b,ff P t=some b/\(b=false->a.length=1):=by
 cases d with
 |zero=>simp[mI]at h
 |succ d=>
  simp only[mI]at h;split at h
  ·rename_i c;simp at h;subst h;exact⟨false,by simp[ff,c],λ_=>rfl⟩
  ·rename_i c;simp at h;subst h;exact⟨false,by simp[ff,c],λ_=>rfl⟩
  ·rename_i c;simp at h;subst h;exact⟨false,by simp[ff,c],λ_=>rfl⟩
  ·rename_i c;exact⟨true,by simp[ff,c],λe=>by simp at e⟩
  ·simp at h
theorem nB(w:World):∀(d c:Nat)(t:TypeId)(e:List Nat)(xs i:List Value)(x y:Value),mI P d t=some e->dj e xs i->dU P t xs x->dU P t i y->(Op.equalIn (d+c) t x y).run P w= .ok (cb xs i) w
 |0,_,_,_,_,_,_,_,h,_,_,_=>by simp[mI]at h
 |d+1,c,t,e,xs,i,x,y,h,n,o,p=>by
  have g:d+1+c=(d+c)+1:=by omega
  rw[g];have one:ff P t=some false->xs=[x]/\i=[y]:=λr=>by simp[dU,r]at o p;exact⟨o,p⟩
  simp only[mI]at h;split at h
  ·rename_i k f;simp at h;subst h;obtain⟨rfl,rfl⟩:=one (by simp[ff,f]);obtain⟨_,_,_,_,g,j,l,_⟩:=n;simp at g j;obtain⟨rfl,_⟩:=g;obtain⟨rfl,_⟩:=j;rcases l with⟨_,v,a,b,rfl,rfl⟩|⟨q,_⟩|⟨q,_⟩
   ·rw[run_equalIn_int w (d+c) t v k a b f];simp[cb,eH]
   ·simp at q
   ·simp at q
  ·rename_i f;simp at h;subst h;obtain⟨rfl,rfl⟩:=one (by simp[ff,f]);obtain⟨_,_,_,_,g,j,l,_⟩:=n;simp at g j;obtain⟨rfl,_⟩:=g;obtain⟨rfl,_⟩:=j;rcases l with⟨q,_⟩|⟨_,a,b,rfl,rfl⟩|⟨q,_⟩
   ·simp at q
   ·rw[run_equalIn_bool w (d+c) t a b f];simp[cb,eH]
   ·simp at q
  ·rename_i f;simp at h;subst h;obtain⟨rfl,rfl⟩:=one (by simp[ff,f]);obtain⟨_,_,_,_,g,j,l,_⟩:=n;simp at g j;obtain⟨rfl,_⟩:=g;obtain⟨rfl,_⟩:=j;rcases l with⟨q,_⟩|⟨q,_⟩|⟨_,a,b,rfl,rfl⟩
   ·simp at q
   ·simp at q
   ·rw[run_equalIn_string w (d+c) t a b f];simp[cb,eH]
  ·rename_i u f;split at h
   ·simp at h
   rename_i s;simp[dU,ff,f]at o p;subst o p;have m:P.fieldsOf t=u:=by simp[Program.fieldsOf,f]
   rw[run_equalIn_struct (P:=P) w (d+c) t xs.toArray i.toArray (by rw[m];exact f) (by simpa using s),m];have:=wc (P:=P) w (d+c) (mI P d) (λt e xs i x y z A B C=>nB w d c t e xs i x y z A B C) (λ_ _ h=>qD h) xs i u.toList 0 e h (by simpa using n);simpa using this
  ·simp at h
def iT:I->Option (Nat×Sc)
 | .k (.bool x)=>some (1, .bool x)
 | .d .bl x=>some (1, .bool x)
 | .k (.i64 x)=>some (0, .i64 x)
 | .d .i64 x=>some (0, .i64 x)
 | .k (.i32 x)=>some (0, .i32 x)
 | .d .i32 x=>some (0, .i32 x)
 | .k (.u8 x)=>some (0, .u8 x)
 | .d .u8 x=>some (0, .u8 x)
 |_=>none
def Qv:Sc->Sc->Option Bool
 | .bool a, .bool b=>some (a==b)
 | .i64 a, .i64 b=>some (a==b)
 | .i32 a, .i32 b=>some (a==b)
 | .u8 a, .u8 b=>some (a==b)
 |_,_=>none
def a44(a b:Bool):Bool:=match a with
 |true=>b
 |false=>false
def gY:List I->List I->Option (List Nat×Bool)
 |[],[]=>some ([],true)
 |x::l,y::m=>match iT x,iT y with
  |some a,some b=>match Qv a.2 b.2 with
   |some r=>match gY l m with
    |some q=>some (a.1::q.1,match l with
     |[]=>r
     |_::_=>r&&q.2)
    |none=>none
   |none=>none
  |_,_=>none
 |_,_=>none
theorem qE{A:Nat->Prop}{i:I}{q:Nat×Sc}{vs:List Value}(h:iT i=some q)(a:bj w A ρ i vs):vs=[q.2.val]:=by
 unfold iT at h;split at h<;>simp at h<;>subst h<;>simpa[bj,Rd,Sc.val]using a
theorem kR{n:Nat}(a b:BitVec n):((a.toNat:Int)==(b.toNat:Int))=(a==b):=by
 rw[mi];simp only[aR];exact⟨λe=>BitVec.eq_of_toNat_eq (by omega),λe=>by rw[e]⟩
theorem IN{i j:I}{a b:Nat×Sc}{r:Bool}(hi:iT i=some a)(o:iT j=some b)(h:Qv a.2 b.2=some r):DM a.1 a.2.val b.2.val/\eH a.2.val b.2.val=r:=by
 have f:∀{i:I}{a:Nat×Sc},iT i=some a->(∀x,a.2= .bool x->a.1=1)/\(∀x,a.2= .i64 x->a.1=0)/\(∀x,a.2= .i32 x->a.1=0)/\(∀x,a.2= .u8 x->a.1=0):=by
  intro i a h;unfold iT at h;split at h<;>simp at h<;>subst h<;>simp
 obtain⟨g,l,m,n⟩:=f hi;unfold Qv at h;split at h<;>simp at h
 ·rename_i x y c e;rw[c,e];subst h;exact⟨.inr (.inl ⟨g _ c,_,_,rfl,rfl⟩),rfl⟩
 ·rename_i x y c e;rw[c,e];subst h;exact⟨.inl ⟨l _ c,_,_,_,rfl,rfl⟩,rfl⟩
 ·rename_i x y c e;rw[c,e];subst h;exact⟨.inl ⟨m _ c,_,_,_,rfl,rfl⟩,rfl⟩
 ·rename_i x y c e;rw[c,e];subst h;exact⟨.inl ⟨n _ c,_,_,_,rfl,rfl⟩,kR _ _⟩
theorem qF{A:Nat->Prop}:∀{l m:List I}{q:List Nat×Bool}{xs f:List Value},gY l m=some q->aL w A ρ l xs->aL w A ρ m f->dj q.1 xs f/\cb xs f=q.2
 |[],[],q,xs,f,h,o,p=>by
  simp[gY]at h;subst h;have j:xs=[]:=o;have n:f=[]:=p;subst j n;exact⟨⟨rfl,rfl⟩,rfl⟩
 |[],_::_,_,_,_,h,_,_=>by simp[gY]at h
 |_::_,[],_,_,_,h,_,_=>by simp[gY]at h
 |x::l,y::m,q,xs,f,h,⟨a,b,j,s,t⟩,⟨c,d,n,u,v⟩=>by
  simp only[gY]at h;split at h
  case h_2=>simp at h
  rename_i K L g i;split at h
  case h_2=>simp at h
  rename_i r z;split at h
  case h_2=>simp at h
  rename_i B e;simp only[Option.some.injEq]at h;subst h;obtain⟨C,D⟩:=IN g i z;obtain⟨E,G⟩:=qF e t v;have H:=qE g s;have J:=qE i u;subst H J j n;refine⟨⟨_,_,_,_,rfl,rfl,C,E⟩,?_⟩;simp only[List.singleton_append,cb,D,G];split
  ·have:B.2=true:=by
    cases m with
    |nil=>simp[gY]at e;rw[<-e]
    |cons _ _=>simp[gY]at e
   rw[this,Bool.and_true]
  ·rfl
def ux(P:Program)(b:BinOp)(t:TypeId)(l m:List I):Option V:=
 if P.eqGuardType P.depth t then none else
 match ff P t,mI P 12 t,gY l m with
 |some true,some a,some q=>if q.1=a then
  match b with
  | .eql=>some (sc (.d .bl q.2))
  | .neq=>some (sc (.d .bl (!q.2)))
  |_=>none
  else none
 |_,_,_=>none
theorem uy{A:Nat->Prop}{f:BinOp}{t:TypeId}{ex ey:Operand}{l m:List I}{z:V}{xs a:List Value}(h:ux P f t l m=some z)(n:aL w A ρ l xs)(o:aL w A ρ m a):
 ∃r,(do eqGuard f t ex ey (.agg xs.toArray) (.agg a.toArray);binOp f t (.agg xs.toArray) (.agg a.toArray):Sem Value).run P w= .ok r w/\aT w A ρ z r:=by
 unfold ux at h;split at h
 ·simp at h
 rename_i p;split at h
 case h_2=>simp at h
 rename_i b q c e s;split at h
 case isFalse=>simp at h
 rename_i u;obtain⟨i,v⟩:=qF s n o;rw[u]at i;have j:=run_eqGuard_agg w f t ex ey xs.toArray a.toArray (by simpa using p);have g:=nB (P:=P) w 12 9988 t b xs a (.agg xs.toArray) (.agg a.toArray) e i (by simp[dU,c]) (by simp[dU,c]);rw[v]at g;split at h
 ·simp at h;subst h;exact⟨.bool q.2,by rw[bF,j,aX,run_eql_struct,g,aX],aJ.2 rfl⟩
 ·simp at h;subst h;exact⟨.bool (!q.2),by rw[bF,j,aX,run_neq_struct,g,aX],aJ.2 rfl⟩
 ·simp at h
end
end
section
def sq{α:Type}(f:α->α->Bool):List α->List α->Bool
 |[],[]=>true
 |a::l,b::m=>f a b&&sq f l m
 |_,_=>false
def iJ:(t:Ty)->t.den->t.den->Bool
 | .bl,a,b=>(show Bool from a)==b
 | .i64,a,b=>(show Int from a)==b
 | .i32,a,b=>(show Int from a)==b
 | .u8,a,b=>(show BitVec 8 from a)==b
 | .u64,a,b=>(show BitVec 64 from a)==b
 | .st,a,b=>(show List (BitVec 8)from a)==b
 | .yl,a,b=>(show Nat from a)==b
 | .un,_,_=>true
 | .pr a .un,x,y=>iJ a x.1 y.1
 | .pr a r,x,y=>iJ a x.1 y.1&&iJ r x.2 y.2
 | .ar _ e,l,m=>sq (iJ e) l m
 | .sl e,l,m=>sq (iJ e) l m
 | .pf t,x,y=>iJ t x y
 | .fm k v,l,m=>sq (λa b=>iJ k a.1 b.1&&iJ v a.2 b.2) l m
theorem nC{α:Type}{f:α->α->Bool}(c:∀a b,f a b=true↔a=b):∀{l m:List α},sq f l m=true↔l=m
 |[],[]=>by simp[sq]
 |[],_::_=>by simp[sq]
 |_::_,[]=>by simp[sq]
 |a::l,b::m=>by simp[sq,c,nC c (l:=l) (m:=m)]
theorem DN(a r:Ty)(x y:(Ty.pr a r).den):iJ (.pr a r) x y=(iJ a x.1 y.1&&iJ r x.2 y.2):=by
 cases r<;>first|rfl|(simp[iJ])
theorem dZ:∀{t:Ty}{x y:t.den},iJ t x y=true↔x=y:=by
 intro t
 induction t with
 |un=>intro x y;exact⟨λ_=>rfl,λ_=>rfl⟩
 |pr a r f g=>
  intro x y;rw[DN,aI,f,g];exact⟨λ⟨i,j⟩=>r6 i j,λh=>by rw[h];exact⟨rfl,rfl⟩⟩
 |ar n e c=>intro x y;exact nC (λ_ _=>c)
 |sl e c=>intro x y;exact nC (λ_ _=>c)
 |pf t c=>intro x y;exact c
 |fm k v l m=>intro x y;exact nC (λa b=>by rw[aI,l,m];exact⟨λ⟨i,j⟩=>r6 i j,λh=>by rw[h];exact⟨rfl,rfl⟩⟩)
 |_=>intro x y;simp[iJ]
def fV:Ty->Option (List Nat)
 | .bl=>some [1]
 | .i64=>some [0]
 | .i32=>some [0]
 | .u8=>some [0]
 | .u64=>some [0]
 | .st=>some [2]
 | .un=>some []
 | .pr a r=>match fV a,fV r with
   |some x,some y=>some (x++y)
   |_,_=>none
 | .ar n e=>match fV e with
   |some x=>some (ak n x).flatten
   |none=>none
 | .sl _=>none
 | .pf _=>none
 | .fm .. =>none
 | .yl=>none
theorem wd{α:Type}{R:α->List Value->Prop}{f:α->α->Bool}{o:List Nat}(r:∀x y xs c,R x xs->R y c->dj o xs c/\cb xs c=f x y):
 ∀{l m:List α}{xs c:List Value},l.length=m.length->dz R l xs->dz R m c->dj (ak l.length o).flatten xs c/\cb xs c=sq f l m
 |[],[],xs,c,_,e,g=>by
  have i:xs=[]:=e;have j:c=[]:=g;subst i j;exact⟨⟨rfl,rfl⟩,rfl⟩
 |[],_::_,_,_,h,_,_=>by simp at h
 |_::_,[],_,_,h,_,_=>by simp at h
 |a::l,b::m,xs,c,h,⟨p,q,i,e,g⟩,⟨A,B,j,s,t⟩=>by
  obtain⟨n,u⟩:=r _ _ _ _ e s;obtain⟨v,z⟩:=wd r (by simpa using h) g t;subst i j;refine⟨by simpa[List.replicate_succ]using n.append v,?_⟩;rw[fU (by rw[n.length.1,n.length.2]),u,z];rfl
theorem qG{w:World}{A:Nat->Prop}:∀{t:Ty}{l:List Nat}{x y:t.den}{xs j:List Value},fV t=some l->Rd w A t x xs->Rd w A t y j->dj l xs j/\cb xs j=iJ t x y:=by
 intro t
 induction t with
 |un=>intro l x y xs j h g i;simp[fV]at h;subst h;simp only[Rd]at g i;subst g i;exact⟨⟨rfl,rfl⟩,rfl⟩
 |sl e=>intro l x y xs j h;simp[fV]at h
 |pf e=>intro l x y xs j h;simp[fV]at h
 |fm=>intro l x y xs j h;simp[fV]at h
 |yl=>intro l x y xs j h;simp[fV]at h
 |pr a r m o=>
  intro l x y xs j h ⟨c,d,z,g,i⟩ ⟨K,L,B,C,D⟩;simp only[fV]at h;split at h<;>simp at h;rename_i M N p q;subst h;obtain⟨s,E⟩:=m p g C;obtain⟨F,G⟩:=o q i D;subst z B;refine⟨s.append F,?_⟩;rw[fU (by rw[s.length.1,s.length.2]),E,G,DN]
 |ar n e H=>
  intro l x y xs j h ⟨v,g⟩ ⟨J,i⟩;simp only[fV]at h;split at h<;>simp at h;rename_i O u;subst h;have:=wd (f:=iJ e) (λ_ _ _ _ a b=>H u a b) (v.trans J.symm) g i;rw[v]at this;exact this
 |bl=>intro l x y xs j h g i;simp[fV]at h;subst h;simp only[Rd]at g i;subst g i;exact⟨⟨_,_,_,_,rfl,rfl, .inr (.inl ⟨rfl,_,_,rfl,rfl⟩),rfl,rfl⟩,by simp[cb,eH,iJ]⟩
 |i64=>intro l x y xs j h g i;simp[fV]at h;subst h;simp only[Rd]at g i;subst g i;exact⟨⟨_,_,_,_,rfl,rfl, .inl ⟨rfl,_,_,_,rfl,rfl⟩,rfl,rfl⟩,by simp[cb,eH,iJ]⟩
 |i32=>intro l x y xs j h g i;simp[fV]at h;subst h;simp only[Rd]at g i;subst g i;exact⟨⟨_,_,_,_,rfl,rfl, .inl ⟨rfl,_,_,_,rfl,rfl⟩,rfl,rfl⟩,by simp[cb,eH,iJ]⟩
 |u8=>
  intro l x y xs j h g i;simp[fV]at h;subst h;simp only[Rd]at g i;subst g i;exact⟨⟨_,_,_,_,rfl,rfl, .inl ⟨rfl,_,_,_,rfl,rfl⟩,rfl,rfl⟩,by simp only[cb,eH,cm,iJ,Bool.and_true];exact kR _ _⟩
 |u64=>
  intro l x y xs j h g i;simp[fV]at h;subst h;simp only[Rd]at g i;subst g i;exact⟨⟨_,_,_,_,rfl,rfl, .inl ⟨rfl,_,_,_,rfl,rfl⟩,rfl,rfl⟩,by simp only[cb,eH,jC,iJ,Bool.and_true];exact kR _ _⟩
 |st=>
  intro l x y xs j h g i;simp[fV]at h;subst h;simp only[Rd]at g i;subst g i;exact⟨⟨_,_,_,_,rfl,rfl, .inr (.inr ⟨rfl,_,_,rfl,rfl⟩),rfl,rfl⟩,by simp only[cb,eH,iJ,Bool.and_true];exact uc _ _⟩
section
variable{P:Program}{w:World}
theorem BY(d:Nat)(t e:TypeId)(n k:Nat)(xs b:List Value)(v:P.underlying t=some (.array n e))(A:kj P e=some 1)(f:ff P e=some false)
 (j:∀x y,DM k x y->(Op.equalIn d e x y).run P w= .ok (eH x y) w) (B:xs.length=n) (C:dj (ak n k) xs b):
 (Op.equalIn (d+1) t (.agg xs.toArray) (.agg b.toArray)).run P w= .ok (cb xs b) w:=by
 simp only[Op.equalIn,bF,run_underlying v,aX,ca A];rw[Std.Legacy.Range.forIn_eq_forIn_range'];have l:Std.Legacy.Range.size [0:n]=n:=by simp[Std.Legacy.Range.size]
 simp only[l]
 have a:∀(h:List Value)(k:Nat)(z:Value),h[k]?=some z->(part e h.toArray (k*1)).run P w= .ok z w:=by
  intro h k z D;simp only[part,bF,eV f,aX,cu,if_false,Nat.mul_one];have:h.toArray[k]?=some z:=by simpa using D
  rw[this];rfl
 suffices g:∀(m q:Nat)(as c:List Value),as.length=m->dj (ak m k) as c->(∀i,xs[q+i]?=as[i]?)->(∀i,b[q+i]?=c[i]?)->
  (((forIn (pA q m) ((none,⟨⟩):Option Bool×PUnit) λi __s=>do
   let __do_lift<-part e xs.toArray (i*1)
   let __do_lift_1<-part e b.toArray (i*1)
   let __do_lift<-Op.equalIn d e __do_lift __do_lift_1
   if(!__do_lift)=true then pure (ForInStep.done (some false,⟨⟩))else pure (ForInStep.yield (none,⟨⟩)):Sem (Option Bool×PUnit)).run P w)=
    .ok (if cb as c then(none,⟨⟩)else(some false,⟨⟩)) w)by
  have E:=g n 0 xs b B C (λi=>by simp) (λi=>by simp);refine(aH (Result.andThen · _) E).trans ?_;cases cb xs b<;>rfl
 intro m
 induction m with
 |zero=>
  intro q as c p o _ _;obtain⟨rfl,rfl⟩:=o;simp[cb]
 |succ m F=>
  intro q as c p o r s;obtain⟨x,y,as,c,rfl,rfl,G,H⟩:=o;have J:=a xs q x (by simpa using r 0);have K:=a b q y (by simpa using s 0);rw[List.range'_succ,List.forIn_cons];simp only[bF,J,K,j x y G,aX];cases u:eH x y
  ·simp[cb,u]
  ·have:=F (q+1) as c (by simpa using p) H (λi=>by have:=r (i+1);simpa[eO,eJ 1]using this) (λi=>by have:=s (i+1);simpa[eO,eJ 1]using this);simp only[Bool.not_true,cu,if_false,bA,aX,cb,u,fp];exact this
def we(P:Program)(t:TypeId):Option (List Nat):=
 match P.underlying t with
 |some (.array n e)=>match mI P 4 e,kj P e,ff P e with
  |some [k],some 1,some false=>some (ak n k)
  |_,_,_=>none
 |_=>mI P 8 t
theorem DO{t:TypeId}{a:List Nat}(h:we P t=some a):∃b,ff P t=some b/\(b=false->a.length=1):=by
 unfold we at h;split at h
 ·rename_i c;exact⟨true,by simp[ff,c],λe=>by simp at e⟩
 ·exact qD h
theorem DP{t:TypeId}{c:List Nat}{xs g:List Value}{x y:Value}(h:we P t=some c)(i:dj c xs g)(j:dU P t xs x)(l:dU P t g y):(Op.equal t x y).run P w= .ok (cb xs g) w:=by
 unfold we at h;unfold Op.equal Op.maxDepth;split at h
 ·rename_i n e o;split at h<;>simp at h;rename_i k p q f;subst h;simp[dU,ff,o]at j l;subst j l;refine BY 9999 t e n k xs g o q f (λa b m=>?_) (by have:=i.length.1;simpa using this) i;have:=nB (P:=P) w 4 9995 e [k] [a] [b] a b p ⟨a,b,[],[],rfl,rfl,m,rfl,rfl⟩ (by simp[dU,f]) (by simp[dU,f]);simpa[cb]using this
 ·exact nB (P:=P) w 8 9992 t c xs g x y h i j l
theorem mJ:∀(d c:Nat)(u:Bool)(t:TypeId)(e:List Nat)(xs:List Value)(x:Value),mI P d t=some e->xs.length=e.length->dU P t xs x->(fZ u (d+c) t x).run P w= .ok () w
 |0,_,_,_,_,_,_,h,_,_=>by simp[mI]at h
 |d+1,c,u,t,e,xs,x,h,E,z=>by
  have F:d+1+c=(d+c)+1:=by omega
  rw[F];simp only[mI]at h;split at h
  ·rename_i k l;simp[fZ,run_underlying l]
  ·rename_i l;simp[fZ,run_underlying l]
  ·rename_i l;simp[fZ,run_underlying l]
  ·rename_i m l;split at h
   ·simp at h
   simp[dU,ff,l]at z;subst z;simp only[fZ,bF,run_underlying l,aX];rw[<-Array.forIn_toList]
   suffices r:∀(m:List Field)(o:Nat)(e:List Nat),yw P (mI P d) m o=some e->(xs.drop o).length=e.length->
    ((forIn m PUnit.unit λf __s=>do
      if f.name≠ "_" then do
       let __do_lift<-part f.type xs.toArray f.offset
       fZ u (d+c) f.type __do_lift
       pure (ForInStep.yield PUnit.unit)
      else pure (ForInStep.yield PUnit.unit):Sem PUnit).run P w)= .ok PUnit.unit w by
    have:=r m.toList 0 e h (by simpa using E);exact(aH (Result.andThen · _) this).trans rfl
   intro m
   induction m with
   |nil=>intro o e _ _;simp
   |cons g m G=>
    intro o e j s;simp only[yw]at j;split at j
    case isFalse=>simp at j
    rename_i H;obtain⟨p,rfl⟩:=H;split at j
    case h_2=>simp at j
    rename_i a n A y;split at j
    case isFalse=>simp at j
    rename_i J;split at j<;>simp at j;rename_i b K;subst J;subst j;obtain⟨L,i,M⟩:=qD A;simp at s
    have q:∃v,(part g.type xs.toArray g.offset).run P w= .ok v w/\dU P g.type ((xs.drop g.offset).take a.length) v:=by
     have B:((xs.drop g.offset).take a.length).length=a.length:=by simp;omega
     cases L
     ·have N:=M rfl;rw[N]at B⊢
      obtain⟨v,C⟩:∃v,(xs.drop g.offset).take 1=[v]:=by
       match R:(xs.drop g.offset).take 1,B with
       |[v],_=>exact⟨v,rfl⟩
      refine⟨v,?_,by simp[dU,i,C]⟩
      have:xs[g.offset]?=some v:=by
       have D:((xs.drop g.offset).take 1)[0]?=some v:=by rw[C];rfl
       rw[iF (by omega),iO]at D;simpa using D
      simp[part,eV i,this]
     ·refine⟨.agg ((xs.drop g.offset).take a.length).toArray,?_,by simp[dU,i]⟩;simp[part,eV i,ca y]
    obtain⟨v,O,Q⟩:=q;have:=mJ d c u g.type a ((xs.drop g.offset).take a.length) v A (by simp;omega) Q;rw[List.forIn_cons];simp only[p,ne_eq,not_false_eq_true,if_true,bF,O,aX,this,bA];exact G _ b K (by simp;omega)
  ·simp at h
theorem uz(d:Nat)(f:Bool)(t e:TypeId)(n:Nat)(xs:List Value)(j:P.underlying t=some (.array n e))(l:kj P e=some 1)(b:ff P e=some false)
 (g:∀x,(fZ f d e x).run P w= .ok () w) (p:xs.length=n):(fZ f (d+1) t (.agg xs.toArray)).run P w= .ok () w:=by
 simp only[fZ,bF,run_underlying j,aX];rw[Std.Legacy.Range.forIn_eq_forIn_range'];have h:Std.Legacy.Range.size [0:n]=n:=by simp[Std.Legacy.Range.size]
 simp only[h]
 suffices c:∀(m q:Nat),q+m<=xs.length->
  ((forIn (pA q m) PUnit.unit λi __s=>do
    let __do_lift<-sizeOf e
    let __do_lift<-part e xs.toArray (i*__do_lift)
    fZ f d e __do_lift
    pure (ForInStep.yield PUnit.unit):Sem PUnit).run P w)= .ok PUnit.unit w by
  have:=c n 0 (by omega);exact(aH (Result.andThen · _) this).trans rfl
 intro m
 induction m with
 |zero=>intro q _;simp
 |succ m o=>
  intro q r
  have a:(part e xs.toArray (q*1)).run P w= .ok xs[q] w:=by
   simp only[part,bF,eV b,aX,cu,if_false,Nat.mul_one];have:xs.toArray[q]?=some xs[q]:=by simp
   rw[this];rfl
  rw[List.range'_succ,List.forIn_cons];simp only[bF,ca l,aX,a,g,bA];exact o (q+1) (by omega)
theorem ss{t:TypeId}{b:List Nat}{xs:List Value}{x:Value}(f:Bool)(h:we P t=some b)(i:xs.length=b.length)(g:dU P t xs x):(fZ f 10000 t x).run P w= .ok () w:=by
 unfold we at h;split at h
 ·rename_i n e j;split at h<;>simp at h;rename_i k l m c;subst h;simp[dU,ff,j]at g;subst g;refine uz 9999 f t e n xs j m c (λa=>?_) (by simpa using i);exact mJ 4 9995 f e [k] [a] a l rfl (by simp[dU,c])
 ·exact mJ 8 9992 f t b xs x h i g
end
end
end Go.Hv
