/- A part of the proof of TopAuthenticSaid: no conditions; packed by a program of our own. -/
import Derived.Test.YtgpideichgnmhaaGreatPaac
import Derived.Laws.Cover4
import Derived.Maps.RangeRun
import Derived.Lib.OthersKept
open Array renaming getElem?_eq_some_iff→dX
open Bool renaming eq_iff_iff→lI,and_eq_true→aF,false_eq_true→cf,true_and→fL
open Go.ChangeMaps renaming setBlock→dS
open Go.Instr renaming checkKey→fK
open Go.Result renaming ok→nN,andThen_ok→aW
open Go.Sem renaming run_pure→bt,run_bind→bE
open Go.Value renaming int→fO
open Go.World renaming size_alloc→dR
open List renaming map_cons→aX,replicate→ak,mem_cons→br,getElem?_eq_getElem→ap,getD→bv,getElem?_take_of_lt→ib,getElem?_drop→iq,drop_drop→jf,take_append_drop→dC,length→ac,getElem?_eq_none→bY,map_append→dl,mem_map→dY,map→rU,range'→pn,mem_cons_self→aM,mem_cons_of_mem→aE,all_eq_true→cM,nodup_cons→lK,mem_map_of_mem→fe
open Nat renaming lt_of_lt_of_le→bq,add_comm→fj,le_refl→aC,zero_add→bK,add_assoc→eA,lt_or_ge→bN
open Ne renaming symm→lx
open Option renaming isSome_iff_exists→cE,getD_some→cZ
open Prod renaming ext→rV
namespace Go.Hv
open Go.RowKit
section
section
variable{P:Program}{F:Nat→Prop}{ρ:Nat→Pl}{w:World}{h get:Nat→Option Ch}{N W:Nat}
def Wi(l:List Int):List (BitVec 8):=(runesBytes l).data.toList.map UInt8.toBitVec
theorem Cj(l:List Int):cd (Wi l)=runesBytes l:=by
 have:∀z:ByteArray,cd (z.data.toList.map UInt8.toBitVec)=z:=λ⟨d⟩=>by simp[cd,Function.comp_def]
 exact this _
theorem Ks{A:Nat→Prop}{l:List Int}{vs:List Value}:dv (Rd w A .i32) l vs↔vs=l.map (fO .i32):=by
 induction l generalizing vs with
 |nil=>exact Iff.rfl
 |cons x l c=>
  constructor
  ·rintro⟨a,b,rfl,e,f⟩;rw[c.1 f];simp only[Rd]at e;rw[e];rfl
  ·intro g;subst g;exact⟨[.int .i32 x],_,rfl,rfl,c.2 rfl⟩
def kl(P:Program)(a dst:TypeId)(x:V)(get:Nat→Option Ch):Tr (V×dH):=
 match yr P dst with
 |some k=>match x.one? with
  |some i=>match i.sc? with
   |some (false, .i32 n)=>if k= .i64∧(P.underlying a).isSome then .need (ae n) (.leaf (nR n,[]))else .stuck
   |some q=>if(P.underlying a).isSome then Tr.ofOpt ((Aw k q.2).map λz=>(Wh q.1 z,[]))else .stuck
   |none=> .stuck
  |none=> .stuck
 |none=>
  if Cf P dst then
   match pE P a with
   |some e=>match yr P e,x.one? with
    |some .u8,some .nils=> .leaf (sc (.d .st []),[])
    |some .u8,some i=>match i.slice? get with
     |some ⟨.u8,l⟩=> .leaf (sc (.d .st l),[])
     |_=> .stuck
    |some .i32,some .nils=> .leaf (sc (.d .st []),[])
    |some .i32,some i=>match i.slice? get with
     |some ⟨.i32,l⟩=> .leaf (sc (.d .st (Wi l)),[])
     |_=> .stuck
    |_,_=> .stuck
   |none=> .stuck
  else
   match pE P dst,Cf P a with
   |some e,true=>match yr P e,x.one? with
    |some .u8,some i=>match i.sc? with
     |some (_, .str s)=> .leaf (sc (.d (.sl .u8) s),[])
     |_=> .stuck
    |_,_=> .stuck
   |_,_=> .stuck
theorem yD(l:List (BitVec 8)):∀(r:ByteArray),((l.map λx=>(x.toNat:Int)).foldl (λr n=>r.push (UInt8.ofNat n.toNat)) r)=⟨r.data++(l.map UInt8.ofBitVec).toArray⟩:=by
 induction l with
 |nil=>intro r;simp
 |cons x l a=>
  intro r;simp only[aX,List.foldl_cons];rw[a]
  have:UInt8.ofNat ((x.toNat:Int).toNat)=UInt8.ofBitVec x:=by
   apply UInt8.toBitVec_inj.1;simp
  rw[this];simp[ByteArray.push]
theorem qp(hh:dn F ρ w h)(hg:∀k b,get k=some b→h k=some b){g dst:TypeId}{x:V}{v:Value}(E:aS w (Av F ρ h) ρ x v):dh P F ρ w h N W (convert g dst v) (kl P g dst x get):=by
 unfold kl;split
 ·rename_i k R;split
  case h_2=>exact .stuck
  rename_i i t;split
  case h_3=>exact .stuck
  ·rename_i n S;split
   case isFalse=>exact .stuck
   rename_i C;obtain⟨rfl,D⟩:=C;refine .need λhn=>?_;obtain⟨d,U⟩:=cE.1 D;have A:=lX S (aL t E);subst A
   have C:(Conv.intToInt .i64 n).run P w= .ok (.int .i64 n) w:=by
    show nN (fO .i64 (IntKind.i64.wrap n)) w=_;rw[hn.wrap]
   exact .pure (r:= .int .i64 n) hh (by simp[Sc.val,convert,run_underlying U,run_underlying (eo R),C]) (aH.2 rfl)
  ·rename_i q _ S;split
   case isFalse=>exact .stuck
   rename_i D;refine .ofOpt λy X=>?_;cases C:Aw k q.2 with
   |none=>simp[C]at X
   |some z=>
    simp[C]at X;subst X;obtain⟨d,U⟩:=cE.1 D;have A:=lX S (aL t E);obtain⟨kk,n,e1,e2⟩:=v7 (P:=P) w k q.2 z C;rw[e1]at A;subst A;exact⟨z.val,w,by simp[convert,run_underlying U,run_underlying (eo R),e2],bJ.pure hh ur⟩
 ·split
  ·rename_i o;split
   case h_2=>exact .stuck
   rename_i e J;split
   case h_5=>exact .stuck
   ·rename_i f t;have L:=aL t E;simp[bf]at L;subst L;refine .pure (r:= .string (cd [])) hh ?_ (aH.2 rfl);rw[run_convert_bytes_string w g dst e _ 0 0 (cJ J) (eo f) (gh o)];simp[Conv.bytesToString,cd];rfl
   ·rename_i i _ f t;split
    case h_2=>exact .stuck
    rename_i l D;have M:=fV hh hg D (aL t E);simp only at M;obtain⟨K,Y,c2⟩:=gV.load (P:=P) M;have c3:K=rU ca l:=kh.1 Y;have A:K=(rU (λ(x:BitVec 8)=>(x.toNat:Int)) l).map (fO .u8):=by rw[c3];simp[ca]
    refine .pure (r:= .string (cd l)) hh ?_ (aH.2 rfl);rcases c2 with⟨a0,a3,cap,rfl,_,q,_⟩|⟨rfl,rfl,a,rfl⟩
    ·rw[run_convert_bytes_string w g dst e _ _ cap (cJ J) (eo f) (gh o)];have B:K.length=ac (α:=BitVec 8) l:=by rw[c3];simp
     rw[B,A]at q;rw[run_bytesToString w _ _ cap _ q,yD];simp[cd]
    ·rw[run_convert_bytes_string w g dst e _ 0 0 (cJ J) (eo f) (gh o)];cases a with
     |none=>simp[Conv.bytesToString,cd];rfl
     |some a=>
      have m:=run_loadCells_list (P:=P) w a [] (λj u G=>by simp at G);rw[run_bytesToString w a 0 0 [] (by simpa using m)];simp[cd];rfl
   ·rename_i f t;have L:=aL t E;simp[bf]at L;subst L;refine .pure (r:= .string (cd [])) hh ?_ (aH.2 rfl);rw[run_convert_runes_string w g dst e _ 0 0 (cJ J) (eo f) (gh o)];simp[Conv.runesToString,cd];rfl
   ·rename_i i _ f t;split
    case h_2=>exact .stuck
    rename_i l D;have M:=fV hh hg D (aL t E);simp only at M;obtain⟨K,Y,c2⟩:=gV.load (P:=P) M;have A:K=rU (fO .i32) l:=Ks.1 Y;refine .pure (r:= .string (cd (Wi l))) hh ?_ (aH.2 rfl);rw[Cj];rcases c2 with⟨a0,a3,cap,rfl,_,q,_⟩|⟨rfl,rfl,a,rfl⟩
    ·rw[run_convert_runes_string w g dst e _ _ cap (cJ J) (eo f) (gh o)];have B:K.length=ac (α:=Int) l:=by rw[A];simp
     rw[B,A]at q;rw[run_runesToString w _ _ cap _ q]
    ·rw[run_convert_runes_string w g dst e _ 0 0 (cJ J) (eo f) (gh o)];cases a with
     |none=>simp[Conv.runesToString,runesBytes]
     |some a=>
      have m:=run_loadCells_list (P:=P) w a [] (λj u G=>by simp at G);rw[run_runesToString w a 0 0 [] (by simpa using m)]
  ·split
   case h_2=>exact .stuck
   rename_i e H O;split
   case h_2=>exact .stuck
   rename_i i f t;split
   case h_2=>exact .stuck
   rename_i kn s D;have A:=lX D (aL t E);subst A;have Q:=run_bytes_of_string (P:=P) w g dst e (cd s) (gh O) (cJ H) (eo f);have a4:(cd s).size=s.length:=by simp[cd,ByteArray.size]
   obtain⟨a1,a2⟩:=hh.same (fp.drewAlloc w (.cells (bytesRow (cd s) (grownCap w (cd s).size 0 e)) e ((bytesRow (cd s) (grownCap w (cd s).size 0 e)).size,(bytesRow (cd s) (grownCap w (cd s).size 0 e)).size+1)));refine .leaf Q ⟨ρ,dK.refl ρ,λ_ p q=>absurd p q,aH.2 ⟨_,rfl,?_⟩,a1,a2⟩;rw[a4];refine .inl ⟨w.heap.size,0,grownCap w s.length 0 e,s.map ca,rfl,grownCap_ge _ _ _ _,?_,λhA=>?_,kh.2 rfl,λj u G=>?_⟩
   ·rw[dR];show w.heap.size<w.heap.size+1;omega
   ·rcases hA with hA|⟨k,c,R,C,hb⟩
    ·have:=hh.gs _ hA;omega
    ·have:=(hh.fr k c _ R C hb).1;omega
   ·rw[bK,cell_of_row _ w.heap.size j _ _ _ (Go.heap_alloc_new w.drew _)]
    have a5:j<s.length:=by
     rcases bN j s.length with q|q
     ·exact q
     ·rw[bY (by simpa using q)]at G;simp at G
    have H:(bytesRow (cd s) (grownCap w s.length 0 e))[j]?=(s.map ca)[j]?:=by
     unfold bytesRow;rw[Array.getElem?_append_left (by simp[cd];exact a5)];simp[cd,List.getElem?_map,Function.comp_def];rfl
    rw[H];exact G
def aun(a:UnOp)(x:V):Option V:=match x.one? with
 |some i=>match i.sc? with
  |some q=>match sun a q.2 with
   |some z=>some (Wh q.1 z)
   |none=>none
  |none=>none
 |none=>none
theorem Ck(hh:dn F ρ w h){c:UnOp}{x:V}{v:Value}(e:aS w (Av F ρ h) ρ x v):dh P F ρ w h N W (Op.unary c v) (Tr.ofOpt ((aun c x).map (·,[]))):=by
 refine .ofOpt λq b=>?_;cases a:aun c x with
 |none=>simp[a]at b
 |some y=>
  simp[a]at b;subst b;unfold aun at a;split at a
  case h_2=>simp at a
  rename_i i f;split at a
  case h_2=>simp at a
  rename_i q b;split at a<;>simp at a;rename_i z g;subst a;have j:=lX b (aL f e);subst j;exact⟨_,w,Cb w c _ _ g,bJ.pure hh ur⟩
def ei:Value→Value→Bool
 | .int _ a, .int _ b=>a==b
 | .bool a, .bool b=>a==b
 | .string a, .string b=>a.toList==b.toList
 |_,_=>false
def bW:List Value→List Value→Bool
 |[],[]=>true
 |x::a,y::b=>ei x y&&bW a b
 |_,_=>false
def Eu(t:Nat)(x y:Value):Prop:=(t=0∧∃k a b,x= .int k a∧y= .int k b)∨(t=1∧∃a b,x= .bool a∧y= .bool b)∨(t=2∧∃a b,x= .string a∧y= .string b)
def dg:List Nat→List Value→List Value→Prop
 |[],c,e=>c=[]∧e=[]
 |t::r,c,e=>∃x y a b,c=x::a∧e=y::b∧Eu t x y∧dg r a b
theorem dg.length:∀{l:List Nat}{xs c:List Value},dg l xs c→xs.length=l.length∧c.length=l.length
 |[],_,_,⟨rfl,rfl⟩=>⟨rfl,rfl⟩
 |_::_,_,_,⟨_,_,_,_,rfl,rfl,_,h⟩=>by obtain⟨a,b⟩:=dg.length h;simp[a,b]
theorem dg.append:∀{l m:List Nat}{xs c us vs:List Value},dg l xs c→dg m us vs→dg (l++m) (xs++us) (c++vs)
 |[],_,_,_,_,_,⟨rfl,rfl⟩,h=>h
 |_::_,_,_,_,_,_,⟨x,y,a,b,rfl,rfl,e,f⟩,h=>⟨x,y,_,_,rfl,rfl,e,dg.append f h⟩
theorem dg.split:∀{l m:List Nat}{xs c:List Value},dg (l++m) xs c→dg l (xs.take l.length) (c.take l.length)∧dg m (xs.drop l.length) (c.drop l.length)
 |[],_,_,_,h=>by simpa[dg]using h
 |_::_,_,_,_,⟨x,y,a,b,rfl,rfl,e,f⟩=>by
  obtain⟨p,q⟩:=dg.split f;exact⟨⟨x,y,_,_,rfl,rfl,e,by simpa using p⟩,by simpa using q⟩
theorem fD:∀{a b c d:List Value},a.length=b.length→bW (a++c) (b++d)=(bW a b&&bW c d)
 |[],[],_,_,_=>by simp[bW]
 |x::a,y::b,c,d,h=>by simp only[List.cons_append,bW,fD (a:=a) (b:=b) (by simpa using h),Bool.and_assoc]
def yE(P:Program)(f:TypeId→Option (List Nat)):List Field→Nat→Option (List Nat)
 |[],_=>some []
 |x::r,o=>if x.name≠ "_" ∧x.offset=o then
   match f x.type,jM P x.type with
   |some a,some n=>if a.length=n then(match yE P f r (o+n)with
    |some b=>some (a++b)
    |none=>none)else none
   |_,_=>none
  else none
def ma(P:Program):Nat→TypeId→Option (List Nat)
 |0,_=>none
 |d+1,t=>match P.underlying t with
  |some (.int _)=>some [0]
  |some .bool=>some [1]
  |some .string=>some [2]
  |some (.struct a)=>if P.stoodInHeld t then none else yE P (ma P d) a.toList 0
  |_=>none
def dQ(P:Program)(t:TypeId)(xs:List Value)(v:Value):Prop:=if eS P t=some true then v= .agg xs.toArray else xs=[v]
theorem wn(w:World)(d:Nat)(f:TypeId→Option (List Nat))(G:∀t c xs e x y,f t=some c→dg c xs e→dQ P t xs x→dQ P t e y→(Op.equalIn d t x y).run P w= .ok (bW xs e) w)
 (s:∀t c,f t=some c→(∃b,eS P t=some b∧(b=false→c.length=1))) (xs e:List Value):
 ∀(u:List Field)(o:Nat)(c:List Nat),yE P f u o=some c→dg c (xs.drop o) (e.drop o)→(Op.eqFields d xs.toArray e.toArray u).run P w= .ok (bW (xs.drop o) (e.drop o)) w
 |[],o,c,j,z=>by
  simp[yE]at j;subst j;obtain⟨A,B⟩:=z;rw[A,B];rfl
 |g::u,o,c,j,z=>by
  simp only[yE]at j;split at j
  case isFalse=>simp at j
  rename_i O;obtain⟨r,rfl⟩:=O;split at j
  case h_2=>simp at j
  rename_i a n H C;split at j
  case isFalse=>simp at j
  rename_i Q;split at j<;>simp at j;rename_i b R;subst Q;subst j;obtain⟨J,S⟩:=z.split;obtain⟨U,i,A⟩:=s _ _ H;have m:=J.length
  have l:∀p:List Value,((p.drop g.offset).take a.length).length=a.length→∃v,(part g.type p.toArray g.offset).run P w= .ok v w∧dQ P g.type ((p.drop g.offset).take a.length) v:=by
   intro p K;cases U
   ·have B:=A rfl;rw[B]at K⊢
    obtain⟨v,L⟩:∃v,(p.drop g.offset).take 1=[v]:=by
     match hq:(p.drop g.offset).take 1,K with
     |[v],_=>exact⟨v,rfl⟩
    refine⟨v,?_,by simp[dQ,i,L]⟩
    have:p[g.offset]?=some v:=by
     have M:((p.drop g.offset).take 1)[0]?=some v:=by rw[L];rfl
     rw[ib (by omega),iq]at M;simpa using M
    simp[part,eI i,this]
   ·refine⟨.agg ((p.drop g.offset).take a.length).toArray,?_,by simp[dQ,i]⟩;simp[part,eI i,bV C]
  obtain⟨x,X,Y⟩:=l xs m.1;obtain⟨y,y1,y2⟩:=l e m.2;have D:=G _ _ _ _ x y H J Y y2;have E:dg b (xs.drop (g.offset+a.length)) (e.drop (g.offset+a.length)):=by rw[←jf,←jf];exact S
  have ih:=wn w d f G s xs e u _ b R E
  have q:bW (xs.drop g.offset) (e.drop g.offset)=(bW ((xs.drop g.offset).take a.length) ((e.drop g.offset).take a.length)&&bW (xs.drop (g.offset+a.length)) (e.drop (g.offset+a.length))):=by
   rw[←jf,←jf,←fD (by rw[m.1,m.2]),dC,dC]
  simp only[Op.eqFields,r,ne_eq,not_false_eq_true,if_true,bE,X,y1,aW,D];rw[q];cases bW ((xs.drop g.offset).take a.length) ((e.drop g.offset).take a.length)
  ·rfl
  ·simp only[Bool.not_true,cf,if_false,fL];exact ih
theorem qr{d:Nat}{t:TypeId}{a:List Nat}(h:ma P d t=some a):∃b,eS P t=some b∧(b=false→a.length=1):=by
 cases d with
 |zero=>simp[ma]at h
 |succ d=>
  simp only[ma]at h;split at h
  ·rename_i c;simp at h;subst h;exact⟨false,by simp[eS,c],λ_=>rfl⟩
  ·rename_i c;simp at h;subst h;exact⟨false,by simp[eS,c],λ_=>rfl⟩
  ·rename_i c;simp at h;subst h;exact⟨false,by simp[eS,c],λ_=>rfl⟩
  ·rename_i c;exact⟨true,by simp[eS,c],λe=>by simp at e⟩
  ·simp at h
theorem mY(w:World):∀(d c:Nat)(t:TypeId)(e:List Nat)(xs i:List Value)(x y:Value),ma P d t=some e→dg e xs i→dQ P t xs x→dQ P t i y→(Op.equalIn (d+c) t x y).run P w= .ok (bW xs i) w
 |0,_,_,_,_,_,_,_,h,_,_,_=>by simp[ma]at h
 |d+1,c,t,e,xs,i,x,y,h,n,o,p=>by
  have g:d+1+c=(d+c)+1:=by omega
  rw[g];have one:eS P t=some false→xs=[x]∧i=[y]:=λr=>by simp[dQ,r]at o p;exact⟨o,p⟩
  simp only[ma]at h;split at h
  ·rename_i k f;simp at h;subst h;obtain⟨rfl,rfl⟩:=one (by simp[eS,f]);obtain⟨_,_,_,_,g,j,l,_⟩:=n;simp at g j;obtain⟨rfl,_⟩:=g;obtain⟨rfl,_⟩:=j;rcases l with⟨_,v,a,b,rfl,rfl⟩|⟨q,_⟩|⟨q,_⟩
   ·rw[run_equalIn_int w (d+c) t v k a b f];simp[bW,ei]
   ·simp at q
   ·simp at q
  ·rename_i f;simp at h;subst h;obtain⟨rfl,rfl⟩:=one (by simp[eS,f]);obtain⟨_,_,_,_,g,j,l,_⟩:=n;simp at g j;obtain⟨rfl,_⟩:=g;obtain⟨rfl,_⟩:=j;rcases l with⟨q,_⟩|⟨_,a,b,rfl,rfl⟩|⟨q,_⟩
   ·simp at q
   ·rw[run_equalIn_bool w (d+c) t a b f];simp[bW,ei]
   ·simp at q
  ·rename_i f;simp at h;subst h;obtain⟨rfl,rfl⟩:=one (by simp[eS,f]);obtain⟨_,_,_,_,g,j,l,_⟩:=n;simp at g j;obtain⟨rfl,_⟩:=g;obtain⟨rfl,_⟩:=j;rcases l with⟨q,_⟩|⟨q,_⟩|⟨_,a,b,rfl,rfl⟩
   ·simp at q
   ·simp at q
   ·rw[run_equalIn_string w (d+c) t a b f];simp[bW,ei]
  ·rename_i u f;split at h
   ·simp at h
   rename_i s;simp[dQ,eS,f]at o p;subst o p;have m:P.fieldsOf t=u:=by simp[Program.fieldsOf,f]
   rw[run_equalIn_struct (P:=P) w (d+c) t xs.toArray i.toArray (by rw[m];exact f) (by simpa using s),m];have:=wn (P:=P) w (d+c) (ma P d) (λt e xs i x y z A B C=>mY w d c t e xs i x y z A B C) (λ_ _ h=>qr h) xs i u.toList 0 e h (by simpa using n);simpa using this
  ·simp at h
def ix:I→Option (Nat×Sc)
 | .k (.bool x)=>some (1, .bool x)
 | .d .bl x=>some (1, .bool x)
 | .k (.i64 x)=>some (0, .i64 x)
 | .d .i64 x=>some (0, .i64 x)
 | .k (.i32 x)=>some (0, .i32 x)
 | .d .i32 x=>some (0, .i32 x)
 | .k (.u8 x)=>some (0, .u8 x)
 | .d .u8 x=>some (0, .u8 x)
 |_=>none
def RG:Sc→Sc→Option Bool
 | .bool a, .bool b=>some (a==b)
 | .i64 a, .i64 b=>some (a==b)
 | .i32 a, .i32 b=>some (a==b)
 | .u8 a, .u8 b=>some (a==b)
 |_,_=>none
def a7c(a b:Bool):Bool:=match a with
 |true=>b
 |false=>false
def gG:List I→List I→Option (List Nat×Bool)
 |[],[]=>some ([],true)
 |x::l,y::m=>match ix x,ix y with
  |some a,some b=>match RG a.2 b.2 with
   |some r=>match gG l m with
    |some q=>some (a.1::q.1,match l with
     |[]=>r
     |_::_=>r&&q.2)
    |none=>none
   |none=>none
  |_,_=>none
 |_,_=>none
theorem qs{A:Nat→Prop}{i:I}{q:Nat×Sc}{vs:List Value}(h:ix i=some q)(a:bf w A ρ i vs):vs=[q.2.val]:=by
 unfold ix at h;split at h<;>simp at h<;>subst h<;>simpa[bf,Rd,Sc.val]using a
theorem ko{n:Nat}(a b:BitVec n):((a.toNat:Int)==(b.toNat:Int))=(a==b):=by
 rw[lI];simp only[aQ];exact⟨λe=>BitVec.eq_of_toNat_eq (by omega),λe=>by rw[e]⟩
theorem Kt{i j:I}{a b:Nat×Sc}{r:Bool}(hi:ix i=some a)(o:ix j=some b)(h:RG a.2 b.2=some r):Eu a.1 a.2.val b.2.val∧ei a.2.val b.2.val=r:=by
 have f:∀{i:I}{a:Nat×Sc},ix i=some a→(∀x,a.2= .bool x→a.1=1)∧(∀x,a.2= .i64 x→a.1=0)∧(∀x,a.2= .i32 x→a.1=0)∧(∀x,a.2= .u8 x→a.1=0):=by
  intro i a h;unfold ix at h;split at h<;>simp at h<;>subst h<;>simp
 obtain⟨g,l,m,n⟩:=f hi;unfold RG at h;split at h<;>simp at h
 ·rename_i x y c e;rw[c,e];subst h;exact⟨.inr (.inl ⟨g _ c,_,_,rfl,rfl⟩),rfl⟩
 ·rename_i x y c e;rw[c,e];subst h;exact⟨.inl ⟨l _ c,_,_,_,rfl,rfl⟩,rfl⟩
 ·rename_i x y c e;rw[c,e];subst h;exact⟨.inl ⟨m _ c,_,_,_,rfl,rfl⟩,rfl⟩
 ·rename_i x y c e;rw[c,e];subst h;exact⟨.inl ⟨n _ c,_,_,_,rfl,rfl⟩,ko _ _⟩
theorem qt{A:Nat→Prop}:∀{l m:List I}{q:List Nat×Bool}{xs f:List Value},gG l m=some q→aK w A ρ l xs→aK w A ρ m f→dg q.1 xs f∧bW xs f=q.2
 |[],[],q,xs,f,h,o,p=>by
  simp[gG]at h;subst h;have j:xs=[]:=o;have n:f=[]:=p;subst j n;exact⟨⟨rfl,rfl⟩,rfl⟩
 |[],_::_,_,_,_,h,_,_=>by simp[gG]at h
 |_::_,[],_,_,_,h,_,_=>by simp[gG]at h
 |x::l,y::m,q,xs,f,h,⟨a,b,j,s,t⟩,⟨c,d,n,u,v⟩=>by
  simp only[gG]at h;split at h
  case h_2=>simp at h
  rename_i K L g i;split at h
  case h_2=>simp at h
  rename_i r z;split at h
  case h_2=>simp at h
  rename_i B e;simp only[Option.some.injEq]at h;subst h;obtain⟨C,D⟩:=Kt g i z;obtain⟨E,G⟩:=qt e t v;have H:=qs g s;have J:=qs i u;subst H J j n;refine⟨⟨_,_,_,_,rfl,rfl,C,E⟩,?_⟩;simp only[List.singleton_append,bW,D,G];split
  ·have:B.2=true:=by
    cases m with
    |nil=>simp[gG]at e;rw[←e]
    |cons _ _=>simp[gG]at e
   rw[this,Bool.and_true]
  ·rfl
def uy(P:Program)(b:BinOp)(t:TypeId)(l m:List I):Option V:=
 if P.eqGuardType P.depth t then none else
 match eS P t,ma P 12 t,gG l m with
 |some true,some a,some q=>if q.1=a then
  match b with
  | .eql=>some (sc (.d .bl q.2))
  | .neq=>some (sc (.d .bl (!q.2)))
  |_=>none
  else none
 |_,_,_=>none
theorem uz{A:Nat→Prop}{f:BinOp}{t:TypeId}{ex ey:Operand}{l m:List I}{z:V}{xs a:List Value}(h:uy P f t l m=some z)(n:aK w A ρ l xs)(o:aK w A ρ m a):
 ∃r,(do eqGuard f t ex ey (.agg xs.toArray) (.agg a.toArray);binOp f t (.agg xs.toArray) (.agg a.toArray):Sem Value).run P w= .ok r w∧aS w A ρ z r:=by
 unfold uy at h;split at h
 ·simp at h
 rename_i p;split at h
 case h_2=>simp at h
 rename_i b q c e s;split at h
 case isFalse=>simp at h
 rename_i u;obtain⟨i,v⟩:=qt s n o;rw[u]at i;have j:=run_eqGuard_agg w f t ex ey xs.toArray a.toArray (by simpa using p);have g:=mY (P:=P) w 12 9988 t b xs a (.agg xs.toArray) (.agg a.toArray) e i (by simp[dQ,c]) (by simp[dQ,c]);rw[v]at g;split at h
 ·simp at h;subst h;exact⟨.bool q.2,by rw[bE,j,aW,run_eql_struct,g,aW],aH.2 rfl⟩
 ·simp at h;subst h;exact⟨.bool (!q.2),by rw[bE,j,aW,run_neq_struct,g,aW],aH.2 rfl⟩
 ·simp at h
end
end
section
def so{α:Type}(f:α→α→Bool):List α→List α→Bool
 |[],[]=>true
 |a::l,b::m=>f a b&&so f l m
 |_,_=>false
def ij:(t:Ty)→t.den→t.den→Bool
 | .bl,a,b=>(show Bool from a)==b
 | .i64,a,b=>(show Int from a)==b
 | .i32,a,b=>(show Int from a)==b
 | .u8,a,b=>(show BitVec 8 from a)==b
 | .u64,a,b=>(show BitVec 64 from a)==b
 | .st,a,b=>(show List (BitVec 8)from a)==b
 | .yl,a,b=>(show Nat from a)==b
 | .un,_,_=>true
 | .pr a .un,x,y=>ij a x.1 y.1
 | .pr a r,x,y=>ij a x.1 y.1&&ij r x.2 y.2
 | .ar _ e,l,m=>so (ij e) l m
 | .sl e,l,m=>so (ij e) l m
 | .pf t,x,y=>ij t x y
 | .fm k v,l,m=>so (λa b=>ij k a.1 b.1&&ij v a.2 b.2) l m
theorem mZ{α:Type}{f:α→α→Bool}(c:∀a b,f a b=true↔a=b):∀{l m:List α},so f l m=true↔l=m
 |[],[]=>by simp[so]
 |[],_::_=>by simp[so]
 |_::_,[]=>by simp[so]
 |a::l,b::m=>by simp[so,c,mZ c (l:=l) (m:=m)]
theorem Ev(a r:Ty)(x y:(Ty.pr a r).den):ij (.pr a r) x y=(ij a x.1 y.1&&ij r x.2 y.2):=by
 cases r<;>first|rfl|(simp[ij])
theorem eu:∀{t:Ty}{x y:t.den},ij t x y=true↔x=y:=by
 intro t
 induction t with
 |un=>intro x y;exact⟨λ_=>rfl,λ_=>rfl⟩
 |pr a r f g=>
  intro x y;rw[Ev,aF,f,g];exact⟨λ⟨i,j⟩=>rV i j,λh=>by rw[h];exact⟨rfl,rfl⟩⟩
 |ar n e c=>intro x y;exact mZ (λ_ _=>c)
 |sl e c=>intro x y;exact mZ (λ_ _=>c)
 |pf t c=>intro x y;exact c
 |fm k v l m=>intro x y;exact mZ (λa b=>by rw[aF,l,m];exact⟨λ⟨i,j⟩=>rV i j,λh=>by rw[h];exact⟨rfl,rfl⟩⟩)
 |_=>intro x y;simp[ij]
def fE:Ty→Option (List Nat)
 | .bl=>some [1]
 | .i64=>some [0]
 | .i32=>some [0]
 | .u8=>some [0]
 | .u64=>some [0]
 | .st=>some [2]
 | .un=>some []
 | .pr a r=>match fE a,fE r with
   |some x,some y=>some (x++y)
   |_,_=>none
 | .ar n e=>match fE e with
   |some x=>some (ak n x).flatten
   |none=>none
 | .sl _=>none
 | .pf _=>none
 | .fm .. =>none
 | .yl=>none
theorem wo{α:Type}{R:α→List Value→Prop}{f:α→α→Bool}{o:List Nat}(r:∀x y xs c,R x xs→R y c→dg o xs c∧bW xs c=f x y):
 ∀{l m:List α}{xs c:List Value},l.length=m.length→dv R l xs→dv R m c→dg (ak l.length o).flatten xs c∧bW xs c=so f l m
 |[],[],xs,c,_,e,g=>by
  have i:xs=[]:=e;have j:c=[]:=g;subst i j;exact⟨⟨rfl,rfl⟩,rfl⟩
 |[],_::_,_,_,h,_,_=>by simp at h
 |_::_,[],_,_,h,_,_=>by simp at h
 |a::l,b::m,xs,c,h,⟨p,q,i,e,g⟩,⟨A,B,j,s,t⟩=>by
  obtain⟨n,u⟩:=r _ _ _ _ e s;obtain⟨v,z⟩:=wo r (by simpa using h) g t;subst i j;refine⟨by simpa[List.replicate_succ]using n.append v,?_⟩;rw[fD (by rw[n.length.1,n.length.2]),u,z];rfl
theorem qu{w:World}{A:Nat→Prop}:∀{t:Ty}{l:List Nat}{x y:t.den}{xs j:List Value},fE t=some l→Rd w A t x xs→Rd w A t y j→dg l xs j∧bW xs j=ij t x y:=by
 intro t
 induction t with
 |un=>intro l x y xs j h g i;simp[fE]at h;subst h;simp only[Rd]at g i;subst g i;exact⟨⟨rfl,rfl⟩,rfl⟩
 |sl e=>intro l x y xs j h;simp[fE]at h
 |pf e=>intro l x y xs j h;simp[fE]at h
 |fm=>intro l x y xs j h;simp[fE]at h
 |yl=>intro l x y xs j h;simp[fE]at h
 |pr a r m o=>
  intro l x y xs j h ⟨c,d,z,g,i⟩ ⟨K,L,B,C,D⟩;simp only[fE]at h;split at h<;>simp at h;rename_i M N p q;subst h;obtain⟨s,E⟩:=m p g C;obtain⟨F,G⟩:=o q i D;subst z B;refine⟨s.append F,?_⟩;rw[fD (by rw[s.length.1,s.length.2]),E,G,Ev]
 |ar n e H=>
  intro l x y xs j h ⟨v,g⟩ ⟨J,i⟩;simp only[fE]at h;split at h<;>simp at h;rename_i O u;subst h;have:=wo (f:=ij e) (λ_ _ _ _ a b=>H u a b) (v.trans J.symm) g i;rw[v]at this;exact this
 |bl=>intro l x y xs j h g i;simp[fE]at h;subst h;simp only[Rd]at g i;subst g i;exact⟨⟨_,_,_,_,rfl,rfl, .inr (.inl ⟨rfl,_,_,rfl,rfl⟩),rfl,rfl⟩,by simp[bW,ei,ij]⟩
 |i64=>intro l x y xs j h g i;simp[fE]at h;subst h;simp only[Rd]at g i;subst g i;exact⟨⟨_,_,_,_,rfl,rfl, .inl ⟨rfl,_,_,_,rfl,rfl⟩,rfl,rfl⟩,by simp[bW,ei,ij]⟩
 |i32=>intro l x y xs j h g i;simp[fE]at h;subst h;simp only[Rd]at g i;subst g i;exact⟨⟨_,_,_,_,rfl,rfl, .inl ⟨rfl,_,_,_,rfl,rfl⟩,rfl,rfl⟩,by simp[bW,ei,ij]⟩
 |u8=>
  intro l x y xs j h g i;simp[fE]at h;subst h;simp only[Rd]at g i;subst g i;exact⟨⟨_,_,_,_,rfl,rfl, .inl ⟨rfl,_,_,_,rfl,rfl⟩,rfl,rfl⟩,by simp only[bW,ei,ca,ij,Bool.and_true];exact ko _ _⟩
 |u64=>
  intro l x y xs j h g i;simp[fE]at h;subst h;simp only[Rd]at g i;subst g i;exact⟨⟨_,_,_,_,rfl,rfl, .inl ⟨rfl,_,_,_,rfl,rfl⟩,rfl,rfl⟩,by simp only[bW,ei,ji,ij,Bool.and_true];exact ko _ _⟩
 |st=>
  intro l x y xs j h g i;simp[fE]at h;subst h;simp only[Rd]at g i;subst g i;exact⟨⟨_,_,_,_,rfl,rfl, .inr (.inr ⟨rfl,_,_,rfl,rfl⟩),rfl,rfl⟩,by simp only[bW,ei,ij,Bool.and_true];exact ud _ _⟩
section
variable{P:Program}{w:World}
theorem Cm(d:Nat)(t e:TypeId)(n k:Nat)(xs b:List Value)(v:P.underlying t=some (.array n e))(A:jM P e=some 1)(f:eS P e=some false)
 (j:∀x y,Eu k x y→(Op.equalIn d e x y).run P w= .ok (ei x y) w) (B:xs.length=n) (C:dg (ak n k) xs b):
 (Op.equalIn (d+1) t (.agg xs.toArray) (.agg b.toArray)).run P w= .ok (bW xs b) w:=by
 simp only[Op.equalIn,bE,run_underlying v,aW,bV A];rw[Std.Legacy.Range.forIn_eq_forIn_range'];have l:Std.Legacy.Range.size [0:n]=n:=by simp[Std.Legacy.Range.size]
 simp only[l]
 have a:∀(h:List Value)(k:Nat)(z:Value),h[k]?=some z→(part e h.toArray (k*1)).run P w= .ok z w:=by
  intro h k z D;simp only[part,bE,eI f,aW,cf,if_false,Nat.mul_one];have:h.toArray[k]?=some z:=by simpa using D
  rw[this];rfl
 suffices g:∀(m q:Nat)(as c:List Value),as.length=m→dg (ak m k) as c→(∀i,xs[q+i]?=as[i]?)→(∀i,b[q+i]?=c[i]?)→
  (((forIn (pn q m) ((none,⟨⟩):Option Bool×PUnit) λi __s=>do
   let __do_lift←part e xs.toArray (i*1)
   let __do_lift_1←part e b.toArray (i*1)
   let __do_lift←Op.equalIn d e __do_lift __do_lift_1
   if(!__do_lift)=true then pure (ForInStep.done (some false,⟨⟩))else pure (ForInStep.yield (none,⟨⟩)):Sem (Option Bool×PUnit)).run P w)=
    .ok (if bW as c then(none,⟨⟩)else(some false,⟨⟩)) w)by
  have E:=g n 0 xs b B C (λi=>by simp) (λi=>by simp);refine(aI (Result.andThen · _) E).trans ?_;cases bW xs b<;>rfl
 intro m
 induction m with
 |zero=>
  intro q as c p o _ _;obtain⟨rfl,rfl⟩:=o;simp[bW]
 |succ m F=>
  intro q as c p o r s;obtain⟨x,y,as,c,rfl,rfl,G,H⟩:=o;have J:=a xs q x (by simpa using r 0);have K:=a b q y (by simpa using s 0);rw[List.range'_succ,List.forIn_cons];simp only[bE,J,K,j x y G,aW];cases u:ei x y
  ·simp[bW,u]
  ·have:=F (q+1) as c (by simpa using p) H (λi=>by have:=r (i+1);simpa[eA,fj 1]using this) (λi=>by have:=s (i+1);simpa[eA,fj 1]using this);simp only[Bool.not_true,cf,if_false,bt,aW,bW,u,fL];exact this
def wr(P:Program)(t:TypeId):Option (List Nat):=
 match P.underlying t with
 |some (.array n e)=>match ma P 4 e,jM P e,eS P e with
  |some [k],some 1,some false=>some (ak n k)
  |_,_,_=>none
 |_=>ma P 8 t
theorem Ew{t:TypeId}{a:List Nat}(h:wr P t=some a):∃b,eS P t=some b∧(b=false→a.length=1):=by
 unfold wr at h;split at h
 ·rename_i c;exact⟨true,by simp[eS,c],λe=>by simp at e⟩
 ·exact qr h
theorem Ex{t:TypeId}{c:List Nat}{xs g:List Value}{x y:Value}(h:wr P t=some c)(i:dg c xs g)(j:dQ P t xs x)(l:dQ P t g y):(Op.equal t x y).run P w= .ok (bW xs g) w:=by
 unfold wr at h;unfold Op.equal Op.maxDepth;split at h
 ·rename_i n e o;split at h<;>simp at h;rename_i k p q f;subst h;simp[dQ,eS,o]at j l;subst j l;refine Cm 9999 t e n k xs g o q f (λa b m=>?_) (by have:=i.length.1;simpa using this) i;have:=mY (P:=P) w 4 9995 e [k] [a] [b] a b p ⟨a,b,[],[],rfl,rfl,m,rfl,rfl⟩ (by simp[dQ,f]) (by simp[dQ,f]);simpa[bW]using this
 ·exact mY (P:=P) w 8 9992 t c xs g x y h i j l
theorem mc:∀(d c:Nat)(u:Bool)(t:TypeId)(e:List Nat)(xs:List Value)(x:Value),ma P d t=some e→xs.length=e.length→dQ P t xs x→(fK u (d+c) t x).run P w= .ok () w
 |0,_,_,_,_,_,_,h,_,_=>by simp[ma]at h
 |d+1,c,u,t,e,xs,x,h,E,z=>by
  have F:d+1+c=(d+c)+1:=by omega
  rw[F];simp only[ma]at h;split at h
  ·rename_i k l;simp[fK,run_underlying l]
  ·rename_i l;simp[fK,run_underlying l]
  ·rename_i l;simp[fK,run_underlying l]
  ·rename_i m l;split at h
   ·simp at h
   simp[dQ,eS,l]at z;subst z;simp only[fK,bE,run_underlying l,aW];rw[←Array.forIn_toList]
   suffices r:∀(m:List Field)(o:Nat)(e:List Nat),yE P (ma P d) m o=some e→(xs.drop o).length=e.length→
    ((forIn m PUnit.unit λf __s=>do
      if f.name≠ "_" then do
       let __do_lift←part f.type xs.toArray f.offset
       fK u (d+c) f.type __do_lift
       pure (ForInStep.yield PUnit.unit)
      else pure (ForInStep.yield PUnit.unit):Sem PUnit).run P w)= .ok PUnit.unit w by
    have:=r m.toList 0 e h (by simpa using E);exact(aI (Result.andThen · _) this).trans rfl
   intro m
   induction m with
   |nil=>intro o e _ _;simp
   |cons g m G=>
    intro o e j s;simp only[yE]at j;split at j
    case isFalse=>simp at j
    rename_i H;obtain⟨p,rfl⟩:=H;split at j
    case h_2=>simp at j
    rename_i a n A y;split at j
    case isFalse=>simp at j
    rename_i J;split at j<;>simp at j;rename_i b K;subst J;subst j;obtain⟨L,i,M⟩:=qr A;simp at s
    have q:∃v,(part g.type xs.toArray g.offset).run P w= .ok v w∧dQ P g.type ((xs.drop g.offset).take a.length) v:=by
     have B:((xs.drop g.offset).take a.length).length=a.length:=by simp;omega
     cases L
     ·have N:=M rfl;rw[N]at B⊢
      obtain⟨v,C⟩:∃v,(xs.drop g.offset).take 1=[v]:=by
       match R:(xs.drop g.offset).take 1,B with
       |[v],_=>exact⟨v,rfl⟩
      refine⟨v,?_,by simp[dQ,i,C]⟩
      have:xs[g.offset]?=some v:=by
       have D:((xs.drop g.offset).take 1)[0]?=some v:=by rw[C];rfl
       rw[ib (by omega),iq]at D;simpa using D
      simp[part,eI i,this]
     ·refine⟨.agg ((xs.drop g.offset).take a.length).toArray,?_,by simp[dQ,i]⟩;simp[part,eI i,bV y]
    obtain⟨v,O,Q⟩:=q;have:=mc d c u g.type a ((xs.drop g.offset).take a.length) v A (by simp;omega) Q;rw[List.forIn_cons];simp only[p,ne_eq,not_false_eq_true,if_true,bE,O,aW,this,bt];exact G _ b K (by simp;omega)
  ·simp at h
theorem uA(d:Nat)(f:Bool)(t e:TypeId)(n:Nat)(xs:List Value)(j:P.underlying t=some (.array n e))(l:jM P e=some 1)(b:eS P e=some false)
 (g:∀x,(fK f d e x).run P w= .ok () w) (p:xs.length=n):(fK f (d+1) t (.agg xs.toArray)).run P w= .ok () w:=by
 simp only[fK,bE,run_underlying j,aW];rw[Std.Legacy.Range.forIn_eq_forIn_range'];have h:Std.Legacy.Range.size [0:n]=n:=by simp[Std.Legacy.Range.size]
 simp only[h]
 suffices c:∀(m q:Nat),q+m≤xs.length→
  ((forIn (pn q m) PUnit.unit λi __s=>do
    let __do_lift←sizeOf e
    let __do_lift←part e xs.toArray (i*__do_lift)
    fK f d e __do_lift
    pure (ForInStep.yield PUnit.unit):Sem PUnit).run P w)= .ok PUnit.unit w by
  have:=c n 0 (by omega);exact(aI (Result.andThen · _) this).trans rfl
 intro m
 induction m with
 |zero=>intro q _;simp
 |succ m o=>
  intro q r
  have a:(part e xs.toArray (q*1)).run P w= .ok xs[q] w:=by
   simp only[part,bE,eI b,aW,cf,if_false,Nat.mul_one];have:xs.toArray[q]?=some xs[q]:=by simp
   rw[this];rfl
  rw[List.range'_succ,List.forIn_cons];simp only[bE,bV l,aW,a,g,bt];exact o (q+1) (by omega)
theorem sp{t:TypeId}{b:List Nat}{xs:List Value}{x:Value}(f:Bool)(h:wr P t=some b)(i:xs.length=b.length)(g:dQ P t xs x):(fK f 10000 t x).run P w= .ok () w:=by
 unfold wr at h;split at h
 ·rename_i n e j;split at h<;>simp at h;rename_i k l m c;subst h;simp[dQ,eS,j]at g;subst g;refine uA 9999 f t e n xs j m c (λa=>?_) (by simpa using i);exact mc 4 9995 f e [k] [a] a l rfl (by simp[dQ,c])
 ·exact mc 8 9992 f t b xs x h i g
end
end
section
def cy{kt:Ty}{β:Type}(k:kt.den):List (kt.den×β)→Option β
 |[]=>none
 |p::r=>if ij kt k p.1 then some p.2 else cy k r
def cF{kt:Ty}{β:Type}(k:kt.den)(v:β):List (kt.den×β)→List (kt.den×β)
 |[]=>[(k,v)]
 |p::r=>if ij kt k p.1 then(p.1,v)::r else p::cF k v r
def eK(f:MapEntry→Bool):List MapEntry→Nat→Option (Nat×Value)
 |[],_=>none
 |e::r,i=>if f e then some (i,e.val)else eK f r (i+1)
section
variable{P:Program}{F:Nat→Prop}{ρ:Nat→Pl}{w:World}{h get:Nat→Option Ch}{N W:Nat}
theorem Ey{kt:TypeId}{d:TypeDesc}{key:Value}{f:MapEntry→Bool}(p:P.underlying kt=some d){es:List MapEntry}(g:∀e∈es,(Op.equal kt key e.key).run P w= .ok (f e) w)
 (c:∀e∈es,∀r,Instr.sameNow d key e.key=some r→r=f e):(Instr.findKey kt key es).run P w= .ok (eK f es 0) w:=by
 have ask:∀(l:List MapEntry)(i:Nat),(∀e∈l,(Op.equal kt key e.key).run P w= .ok (f e) w)→(Instr.findAsking kt key l i).run P w= .ok (eK f l i) w:=by
  intro l
  induction l with
  |nil=>intro i _;rfl
  |cons e r j=>
   intro i b;simp only[Instr.findAsking,eK,bE,b e (aM ..),aW];cases f e
   ·exact j (i+1) (λe m=>b e (aE _ m))
   ·rfl
 have n:∀(l:List MapEntry)(i:Nat)(r:Option (Nat×Value)),(∀e∈l,∀r,Instr.sameNow d key e.key=some r→r=f e)→Instr.findNow d key l i=some r→r=eK f l i:=by
  intro l
  induction l with
  |nil=>intro i r _ a;simp[Instr.findNow]at a;exact a.symm
  |cons e l j=>
   intro i r b a;simp only[Instr.findNow]at a;split at a
   ·rename_i o;simp at a;have:=b e (aM ..) _ o;simp[eK,←this,a]
   ·rename_i o;have:=b e (aM ..) _ o;simp only[eK,←this];exact j (i+1) r (λe m=>b e (aE _ m)) a
   ·simp at a
 simp only[Instr.findKey,bE,run_underlying p,aW];split
 ·rename_i r q;rw[n es 0 r c q];rfl
 ·exact ask es 0 g
def na(P:Program)(t:TypeId):Option (TypeId×TypeId):=match P.underlying t with
 |some (.map a b)=>some (a,b)
 |_=>none
theorem iQ{t:TypeId}{q:TypeId×TypeId}(h:na P t=some q):P.underlying t=some (.map q.1 q.2):=by
 unfold na at h;split at h<;>simp at h;subst h;assumption
def td(P:Program)(t:TypeId)(kt:Ty):Bool:=
 match wr P t,fE kt with
 |some a,some b=>decide (a=b)&&decide (eS P t=some kt.agg)
 |_,_=>false
theorem ws{t:TypeId}{kt:Ty}(h:td P t kt=true):∃f d,wr P t=some f∧fE kt=some f∧eS P t=some kt.agg∧P.underlying t=some d∧(kt.agg=false→f.length=1):=by
 unfold td at h;split at h
 case h_2=>simp at h
 rename_i a b i j;simp only[aF,ah]at h;obtain⟨rfl,c⟩:=h;obtain⟨o,g,l⟩:=Ew i;rw[c]at g;simp at g
 obtain⟨d,m⟩:∃d,P.underlying t=some d:=by
  unfold eS at c;cases n:P.underlying t with
  |none=>simp[n]at c
  |some d=>exact⟨d,rfl⟩
 exact⟨a,d,i,j,c,m,λe=>l (by rw[←g];exact e)⟩
theorem ii.part{A:Nat→Prop}{t:TypeId}{kt:Ty}{x:kt.den}{v:Value}(a:eS P t=some kt.agg)(h:ii w A kt x v):∃xs,Rd w A kt x xs∧dQ P t xs v:=by
 obtain⟨xs,c,b⟩:=h;refine⟨xs,c,?_⟩;unfold dQ;rw[a];cases e:kt.agg<;>simp[e]at b⊢<;>exact b
theorem yF{d:TypeDesc}{x y:Value}{r:Bool}(h:Instr.sameNow d x y=some r):ei x y=r:=by
 unfold Instr.sameNow at h;split at h
 ·split at h<;>simp at h;exact h
 ·simp at h;subst h;simp only[ei];exact(beq_toListBytes _ _).symm
 ·simp at h;exact h
 ·simp at h
theorem wu{d:TypeDesc}{a b:Array Value}:Instr.sameNow d (.agg a) (.agg b)=none:=by
 cases d<;>rfl
theorem te{A:Nat→Prop}{t:TypeId}{kt c:Ty}{k:kt.den}{key:Value}(J:td P t kt=true)(K:ii w A kt k key){l:List (kt.den×c.den)}{es:List MapEntry}(o:F2 (nH w A kt c) l es):
 ∃f:MapEntry→Bool,(Instr.findKey t key es).run P w= .ok (eK f es 0) w∧F2 (λ(q:kt.den×c.den)e=>nH w A kt c q e∧f e=ij kt k q.1) l es∧∀B,(fK B 10000 t key).run P w= .ok () w:=by
 obtain⟨L,d,G,H,y,M,X⟩:=ws J;obtain⟨O,C,n⟩:=K.part y;have i:O.length=L.length:=(qu H C C).1.length.1
 have b:∀e:MapEntry,∀q:kt.den×c.den,nH w A kt c q e→(Op.equal t key e.key).run P w= .ok (ij kt k q.1) w∧∀r,Instr.sameNow d key e.key=some r→r=ij kt k q.1:=by
  intro e q a;obtain⟨Y,Q,s⟩:=a.1.part y;obtain⟨R,z⟩:=qu H C Q;have:=Ex (w:=w) G R n s;rw[z]at this;refine⟨this,λr u=>?_⟩;cases v:kt.agg
  ·have m:eS P t=some false:=by rw[y,v]
   simp[dQ,m]at n s;rw[n,s]at z;have:=yF u;simp only[bW,Bool.and_true]at z;rw[←z,this]
  ·have m:eS P t=some true:=by rw[y,v]
   simp[dQ,m]at n s;rw[n,s,wu]at u;simp at u
 classical
 let f:MapEntry→Bool:=λe=>if a:∃q,nH w A kt c q e then ij kt k a.choose.1 else false
 have D:∀e q,nH w A kt c q e→f e=ij kt k q.1:=by
  intro e q a;have x:∃q,nH w A kt c q e:=⟨q,a⟩;have S:=(b e q a).1;have E:=(b e _ x.choose_spec).1;rw[S]at E;simp at E;simp only[f,x,dif_pos];exact E.symm
 have j:∀e∈es,∃q,nH w A kt c q e:=by
  clear i
  induction l generalizing es with
  |nil=>cases es with
   |nil=>intro e g;simp at g
   |cons _ _=>exact o.elim
  |cons p l U=>cases es with
   |nil=>exact o.elim
   |cons e0 es=>
    intro e g;rcases br.1 g with rfl|g
    ·exact⟨p,o.1⟩
    ·exact U o.2 e g
 refine⟨f,Ey M (λe g=>?_) (λe g r u=>?_),F2.imp (λq e a=>⟨a,D e q a⟩) o,λB=>sp B G i n⟩
 ·obtain⟨q,a⟩:=j e g;rw[D e q a];exact(b e q a).1
 ·obtain⟨q,a⟩:=j e g;rw[D e q a];exact(b e q a).2 r u
theorem oR{A:Nat→Prop}{kt a:Ty}{k:kt.den}{f:MapEntry→Bool}:∀{l:List (kt.den×a.den)}{es:List MapEntry}{i:Nat},F2 (λ(q:kt.den×a.den)e=>nH w A kt a q e∧f e=ij kt k q.1) l es→
 (eK f es i=none∧cy k l=none∧cF (β:=a.den) k=λv=>cF k v)∨∃j v x,eK f es i=some (j,v)∧cy k l=some x∧ii w A a x v
 |[],[],_,_=> .inl ⟨rfl,rfl,rfl⟩
 |p::l,e::es,i,⟨⟨b,c⟩,g⟩=>by
  simp only[eK,cy,c];cases m:ij kt k p.1
  ·have:=oR (i:=i+1) g;simpa using this
  ·exact .inr ⟨i,e.val,p.2,by simp,by simp,b.2⟩
def lc(P:Program)(t:TypeId)(x i:V)(ok:Bool)(get:Nat→Option Ch):Option V:=
 match na P t,x.one? with
 |some (a,b),some (.mp k)=>match get k with
  |some (.mp kt vt l)=>look a b kt vt l
  |some (.lk kt vt l)=>look a b kt vt l
  |_=>none
 |some (a,b),some (.fmp kt vt l)=>look a b kt vt l
 |_,_=>none
where
 look (a b:TypeId) (kt vt:Ty) (l:List (kt.den×vt.den)):Option V:=
  match zT P b,i.asD kt with
  |some (g,z0),some kd=>match sj vt z0 with
   |some x0=>if td P a kt&&(decide (g=vt.agg)&&decide (eS P b=some vt.agg))then
    some (if ok then .tup [(vt.agg,iF vt ((cy kd l).getD x0)),(false,[.d .bl (cy kd l).isSome])]else V.ofD vt ((cy kd l).getD x0))
    else none
   |none=>none
  |_,_=>none
theorem sq(hh:dn F ρ w h)(hg:∀k b,get k=some b→h k=some b){t:TypeId}{x i:V}{ok:Bool}{v u:Value}(hx:aS w (Av F ρ h) ρ x v)(hi:aS w (Av F ρ h) ρ i u):
 dh P F ρ w h N W (Instr.lookup t v u ok) (Tr.ofOpt ((lc P t x i ok get).map (·,[]))):=by
 refine .ofOpt λq L=>?_;cases n:lc P t x i ok get with
 |none=>simp[n]at L
 |some y=>
  simp[n]at L;subst L;unfold lc at n
  have go:∀{a b:TypeId}{bl:Nat}{s e:Ty}{l:List (s.den×e.den)},na P t=some (a,b)→lM w (Av F ρ h) s e l bl→lc.look P i ok a b s e l=some y→∃r,(Instr.lookup t (.map (some bl)) u ok).run P w= .ok r w∧aS w (Av F ρ h) ρ y r:=by
   rintro a b bl s e l c ⟨es,clock,e1,e2,_⟩ o;unfold lc.look at o;split at o
   case h_2=>simp at o
   rename_i g z0 B hz M;split at o
   case h_2=>simp at o
   rename_i K O;split at o
   case isFalse=>simp at o
   rename_i hc;simp only[aF,ah]at hc;obtain⟨Q,rfl,a0⟩:=hc;obtain⟨iz,C,R,S,U⟩:=oK hz
   have X:ii w (Av F ρ h) e K C:=by
    obtain⟨vs,m,z⟩:=U w (Av F ρ h) ρ;exact⟨vs,ir O m,z⟩
   obtain⟨f,f1,f2,f3⟩:=te Q (V.asD_ok M hi) e2;have A:(zeroValue b).run P w= .ok C w:=by simp[zeroValue,typeInfo,R,S]
   have p:(getObj bl).run P w= .ok (.map es clock) w:=by simp[getObj,Sem.run,e1]
   simp at o;subst o
   have fin:∀(D:Value)(Y:Bool),ii w (Av F ρ h) e ((cy B l).getD K) D→Y=(cy B l).isSome→
    aS w (Av F ρ h) ρ (if ok=true then V.tup [(e.agg,iF e ((cy B l).getD K)),(false,[I.d Ty.bl (cy B l).isSome])]else V.ofD e ((cy B l).getD K)) (if ok then .tuple #[D, .bool Y]else D):=by
    intro D Y m z;subst z;cases ok
    ·exact gS.2 m
    ·exact⟨[D, .bool _],rfl,gS.2 m,aH.2 rfl,trivial⟩
   rcases oR (i:=0) f2 with⟨g1,E,_⟩|⟨j,v',x',g1,E,g3⟩
   ·refine⟨if ok then .tuple #[C, .bool false]else C,?_,fin C false (by rw[E];exact X) (by rw[E];rfl)⟩;simp[Instr.lookup,run_underlying (iQ c),p,f3,f1,g1,A]
   ·refine⟨if ok then .tuple #[v', .bool true]else v',?_,fin v' true (by rw[E];exact g3) (by rw[E];rfl)⟩;simp[Instr.lookup,run_underlying (iQ c),p,f3,f1,g1]
  split at n
  case h_3=>simp at n
  case h_2=>
   rename_i a b s e l c hp;obtain⟨bl,G,_,_,h2⟩:=aL hp hx;simp at G;subst G;obtain⟨r,H,J⟩:=go c h2 n;exact⟨r,w,H,bJ.pure hh J⟩
  rename_i a b k c hp;obtain⟨bl,hb,G⟩:=aL hp hx;simp at G;subst G;split at n
  case h_3=>simp at n
  ·rename_i s e l hk;obtain⟨b',m,z⟩:=hh.ok _ _ (hg _ _ hk);rw[hb]at m;simp at m;subst m;obtain⟨r,H,J⟩:=go c z n;exact⟨r,w,H,bJ.pure hh J⟩
  ·rename_i s e l hk;obtain⟨b',m,z⟩:=hh.ok _ _ (hg _ _ hk);rw[hb]at m;simp at m;subst m;obtain⟨r,H,J⟩:=go c z n;exact⟨r,w,H,bJ.pure hh J⟩
def jN:List I→(Nat→Option Ch)→List I×dH
 |[],_=>([],[])
 | .own k::r,get=>match get k with
   |some (.sl e l)=>let q:=jN r (cI get k (some (.fr e l)));(.d (.sl e) l::q.1,(k,some (.fr e l))::q.2)
   |some (.fr e l)=>let q:=jN r get;(.d (.sl e) l::q.1,q.2)
   |_=>let q:=jN r get;(.own k::q.1,q.2)
 |i::r,get=>let q:=jN r get;(i::q.1,q.2)
def me(x:V)(get:Nat→Option Ch):V×dH:=match x with
 | .val g l=>let q:=jN l get;(.val g q.1,q.2)
 |x=>(x,[])
theorem pG:∀{l:List I}{get h:Nat→Option Ch}{vs:List Value},dn F ρ w h→(∀k b,get k=some b→h k=some b)→aK w (Av F ρ h) ρ l vs→
 dn F ρ w (bh h (jN l get).2)∧Mv ρ w h ρ w (bh h (jN l get).2)∧aK w (Av F ρ (bh h (jN l get).2)) ρ (jN l get).1 vs
 |[],get,h,vs,m,_,J=>⟨m,Mv.refl _ _ _,J⟩
 |i::r,get,h,vs,m,o,⟨a,b,e,t,v⟩=>by
  have plain:dn F ρ w (bh h (jN r get).2)∧Mv ρ w h ρ w (bh h (jN r get).2)∧aK w (Av F ρ (bh h (jN r get).2)) ρ (i::(jN r get).1) vs:=by
   obtain⟨p,f,q⟩:=pG (l:=r) m o v;exact⟨p,f,a,b,e,t.evo f.evo (dK.refl ρ),q⟩
  cases i
  case own k=>
   simp only[jN];split
   ·rename_i x y z;obtain⟨E,G⟩:=nT m (o k _ z)
    have A:∀j c,cI get k (some (.fr x y)) j=some c→cI h k (some (.fr x y)) j=some c:=by
     intro j c s;by_cases H:j=k
     ·subst H;rw[bF]at s⊢;exact s
     ·rw[bD _ _ _ H]at s⊢;exact o j c s
    obtain⟨p,f,q⟩:=pG (l:=r) E A (v.evo G.evo (dK.refl ρ));refine⟨p,G.trans f,a,b,e,?_,q⟩;obtain⟨K,n,c,B,C⟩:=t;obtain⟨u,g,D⟩:=E.ok k _ (bF _ _ _);rw[B]at g;simp at g;subst g;exact⟨_,C,D.evo f.evo (λ_ _=>Rd.evo f.evo)⟩
   ·rename_i x y z;obtain⟨p,f,q⟩:=pG (l:=r) m o v;refine⟨p,f,a,b,e,?_,q⟩;obtain⟨K,n,c,B,C⟩:=t;obtain⟨u,g,D⟩:=m.ok k _ (o k _ z);rw[B]at g;simp at g;subst g;exact⟨_,C,D.evo f.evo (λ_ _=>Rd.evo f.evo)⟩
   ·exact plain
  all_goals exact plain
theorem uB{x:V}{get h:Nat→Option Ch}{v:Value}(hh:dn F ρ w h)(c:∀k b,get k=some b→h k=some b)(a:aS w (Av F ρ h) ρ x v):
 dn F ρ w (bh h (me x get).2)∧Mv ρ w h ρ w (bh h (me x get).2)∧aS w (Av F ρ (bh h (me x get).2)) ρ (me x get).1 v:=by
 cases x
 case val g l=>
  obtain⟨e,f,i⟩:=a;obtain⟨j,m,n⟩:=pG hh c f;exact⟨j,m,e,n,i⟩
 all_goals exact⟨hh,Mv.refl _ _ _,a⟩
end
end
section
section
variable{P:Program}{F:Nat→Prop}{ρ:Nat→Pl}{w:World}{h get:Nat→Option Ch}{N W:Nat}
theorem Ez{p q:ByteArray}(h:p.toList=q.toList):p=q:=by
 rw[ByteArray.toList_eq,ByteArray.toList_eq]at h;cases p;cases q
 congr 1
 exact Array.ext' h
theorem AJ:∀{e:List Nat}{xs c:List Value},dg e xs c→bW xs c=true→xs=c
 |[],_,_,⟨rfl,rfl⟩,_=>rfl
 |_::_,_,_,⟨x,y,a,b,rfl,rfl,f,g⟩,h=>by
  simp only[bW,aF]at h
  have i:x=y:=by
   rcases f with⟨_,k,p,q,rfl,rfl⟩|⟨_,p,q,rfl,rfl⟩|⟨_,p,q,rfl,rfl⟩
   ·have:=h.1;simp[ei]at this;rw[this]
   ·have:=h.1;simp[ei]at this;rw[this]
   ·have:=h.1;simp only[ei]at this;rw[Ez (be this)]
  rw[i,AJ g h.2]
theorem tf:∀{f:List Nat}{xs:List Value},dg f xs xs→∀n,∀x∈xs,Instr.sameBits n x x=true
 |[],_,⟨rfl,_⟩,_,_,g=>by simp at g
 |_::_,_,⟨x,y,a,b,rfl,e,i,j⟩,n,z,c=>by
  simp at e;obtain⟨rfl,rfl⟩:=e;rcases br.1 c with rfl|c
  ·rcases i with⟨_,k,p,q,rfl,_⟩|⟨_,p,q,rfl,_⟩|⟨_,p,q,rfl,_⟩
   ·cases n<;>simp[Instr.sameBits]
   ·cases n<;>simp[Instr.sameBits]
   ·cases n<;>simp only[Instr.sameBits]<;>rw[beq_toListBytes]<;>simp
  ·exact tf j n z c
theorem Cn{A:Nat→Prop}{t:TypeId}{kt:Ty}{k:kt.den}{x y:Value}(m:td P t kt=true)(n:ii w A kt k x)(o:ii w A kt k y):x=y∧(Instr.keyThatStays x y).run P w= .ok y w:=by
 obtain⟨z,d,B,q,C,D,E⟩:=ws m;obtain⟨G,r,j⟩:=n;obtain⟨H,s,b⟩:=o;obtain⟨l,u⟩:=qu q r s;have e:=AJ l (u.trans (eu.2 rfl));subst e;have a:=tf l
 have c:x=y∧Instr.sameBits 10000 x y=true:=by
  cases f:kt.agg
  ·simp[f]at j b;subst j;simp at b;subst b;exact⟨rfl,a _ _ (by simp)⟩
  ·simp[f]at j b;subst j b;refine⟨rfl,?_⟩;simp only[Instr.sameBits,beq_self_eq_true,fL,cM];intro p v;obtain⟨i,J,g⟩:=List.getElem_of_mem v;simp at g;subst g;exact a _ _ (by simp)
 refine⟨c.1,?_⟩;simp[Instr.keyThatStays,c.2]
theorem ti{kt:Ty}{β:Type}{k:kt.den}{v:β}:∀{l:List (kt.den×β)},(l.map (·.1)).Nodup→((cF k v l).map (·.1)).Nodup∧(∀x,x∈(cF k v l).map (·.1)→x=k∨x∈l.map (·.1))
 |[],_=>by simp[cF]
 |p::r,h=>by
  simp only[aX,lK]at h;simp only[cF];split
  ·simp only[aX,lK];exact⟨h,λx a=> .inr a⟩
  ·rename_i b;obtain⟨f,c⟩:=ti (k:=k) (v:=v) h.2;simp only[aX,lK,br];refine⟨⟨λg=>?_,f⟩,λx a=>?_⟩
   ·rcases c _ g with e|e
    ·exact b (eu.2 e.symm)
    ·exact h.1 e
   ·rcases a with e|e
    ·exact .inr (.inl e)
    ·rcases c x e with e|e
     ·exact .inl e
     ·exact .inr (.inr e)
theorem tj{A:Nat→Prop}{kt b:Ty}{k:kt.den}{vd:b.den}{f:MapEntry→Bool}{new:MapEntry}(a:nH w A kt b (k,vd) new):∀{l:List (kt.den×b.den)}{es:List MapEntry}{i:Nat},F2 (λ(q:kt.den×b.den)e=>nH w A kt b q e∧f e=ij kt k q.1) l es→
 eK f es i=none→F2 (nH w A kt b) (cF k vd l) (es++[new])
 |[],[],_,_,_=>⟨a,trivial⟩
 |p::l,e::es,i,⟨⟨j,m⟩,n⟩,c=>by
  simp only[eK,m]at c;cases g:ij kt k p.1
  ·simp only[g,cf,if_false]at c;simp only[cF,g,cf,if_false];exact⟨j,tj a n c⟩
  ·simp[g]at c
theorem tk{A:Nat→Prop}{kt n:Ty}{k:kt.den}{vd:n.den}{f:MapEntry→Bool}{g:MapEntry→MapEntry}:∀{l:List (kt.den×n.den)}{es:List MapEntry}{i j:Nat}{v:Value},F2 (λ(q:kt.den×n.den)e=>nH w A kt n q e∧f e=ij kt k q.1) l es→
 eK f es i=some (j,v)→i≤j∧(∃m q,es[j-i]?=some m∧nH w A kt n q m∧ij kt k q.1=true)∧((∀m q,es[j-i]?=some m→nH w A kt n q m→ij kt k q.1=true→nH w A kt n (q.1,vd) (g m))→F2 (nH w A kt n) (cF k vd l) (es.modify (j-i) g))
 |[],[],_,_,_,_,o=>by simp[eK]at o
 |p::l,e::es,i,j,v,⟨⟨s,y⟩,x⟩,o=>by
  simp only[eK,y]at o;cases r:ij kt k p.1
  ·simp only[r,cf,if_false]at o;obtain⟨E,⟨m,q,z,B,C⟩,D⟩:=tk (vd:=vd) (g:=g) x o;have t:j-i=(j-(i+1))+1:=by omega
   refine⟨by omega,⟨m,q,by rw[t];simpa using z,B,C⟩,λu=>?_⟩;simp only[cF,r,cf,if_false];rw[t,List.modify_succ_cons];exact⟨s,D (λm q a b c=>u m q (by rw[t];simpa using a) b c)⟩
  ·simp only[r,if_true,Option.some.injEq,Prod.mk.injEq]at o;obtain⟨rfl,_⟩:=o;refine⟨aC _,⟨e,p,by simp,s,r⟩,λu=>?_⟩;simp only[cF,r,if_true,Nat.sub_self,List.modify_zero_cons];exact⟨u e p (by simp) s r,F2.imp (λ_ _ h=>h.1) x⟩
theorem yG{w:World}{b:Nat}{o o':Obj}(l:w.heap[b]?=some o)(g:∀c e f,o≠ .cells c e f):∃w',(setObj b o').run P w= .ok () w'∧w'.heap[b]?=some o'∧w'.heap.size=w.heap.size∧w'.os=w.os∧w'.tape=w.tape∧w'.output=w.output∧∀a,a≠b→w'.heap[a]?=w.heap[a]?:=by
 have i:b<w.heap.size:=(dX.1 l).1;refine⟨{w with heap:=w.heap.setIfInBounds b o'},by cases o<;>first|(exact absurd rfl (g _ _ _))|(simp[setObj,Sem.run,l]),?_,by simp,rfl,rfl,rfl,λa j=>?_⟩
 ·simp[i]
 ·show(w.heap.setIfInBounds b o')[a]?=_;rw[Array.getElem?_setIfInBounds];simp[lx j]
def jo(P:Program)(t:TypeId)(x i y:V)(get:Nat→Option Ch):Option (V×dH):=
 match na P t,x.one? with
 |some (a,b),some (.mp k)=>match get k with
  |some (.mp c e l)=>match i.asD c,(me y get).1.asD e with
   |some f,some g=>if td P a c&&decide (eS P b=some e.agg)then some (.tup [],(me y get).2++[(k,some (.mp c e (cF f g l)))])else none
   |_,_=>none
  |_=>none
 |_,_=>none
theorem cx:∀(a b:dH)(h:Nat→Option Ch),bh h (a++b)=bh (bh h a) b
 |[],_,_=>rfl
 |u::r,b,h=>by simp only[List.cons_append,bh];exact cx r b _
theorem mg:∀(a:dH)(h:Nat→Option Ch)(k:Nat),(∀u∈a,u.1≠k)→bh h a k=h k
 |[],_,_,_=>rfl
 |u::r,h,k,b=>by
  simp only[bh];rw[mg r _ k (λv c=>b v (aE _ c))];have:=b u (aM ..);simp[cI,lx this]
theorem mh:∀{l:List I}{get:Nat→Option Ch}{k:Nat}{c:Ch},get k=some c→(∀e m,c≠ .sl e m)→∀u∈(jN l get).2,u.1≠k
 |[],_,_,_,_,_=>by simp[jN]
 |i::r,get,k,c,f,g=>by
  intro u a;have plain:u∈(jN r get).2→u.1≠k:=λq=>mh (l:=r) f g u q;cases i
  case own q=>
   simp only[jN]at a;split at a
   ·rename_i e m j;simp only[br]at a;have b:q≠k:=λn=>by subst n;rw[f]at j;exact g _ _ (Option.some.inj j)
    rcases a with rfl|a
    ·exact b
    ·exact mh (l:=r) (c:=c) (by rw[bD _ _ _ (lx b)];exact f) g u a
   ·exact plain a
   ·exact plain a
  all_goals exact plain a
theorem yH{x:V}{k:Nat}{c:Ch}(a:get k=some c)(b:∀e m,c≠ .sl e m):∀u∈(me x get).2,u.1≠k:=by
 cases x
 case val g l=>exact mh a b
 all_goals simp[me]
theorem bJ.behind{b:Nat→Option Ch}{u0 a:dH}{x:V}{v:Value}{w':World}(c:Mv ρ w h ρ w b)(f:bh h u0=b)(g:bJ F ρ w b N W x a v w'):bJ F ρ w h N W x (u0++a) v w':=by
 obtain⟨ρ',i,j,l,m,n⟩:=g;subst f;have e:=cx u0 a h;refine⟨ρ',i,j,by rw[e];exact l,by rw[e];exact m,by rw[e];exact c.trans n⟩
theorem iR(hh:dn F ρ w h)(hg:∀k b,get k=some b→h k=some b){t:TypeId}{x i y:V}{v u z:Value}{q:V×dH}(hx:aS w (Av F ρ h) ρ x v)(hi:aS w (Av F ρ h) ρ i u)(hy:aS w (Av F ρ h) ρ y z)(o:jo P t x i y get=some q):
 ∃w',(Instr.mapUpdate t v u z).run P w= .ok () w'∧bJ F ρ w h N W q.1 q.2 undef w':=by
 unfold jo at o;split at o
 case h_2=>simp at o
 rename_i a b k G hp;obtain⟨bl,R,E⟩:=aL hp hx;simp at E;subst E;split at o
 case h_2=>simp at o
 rename_i H J l hk;split at o
 case h_2=>simp at o
 rename_i K L S U;split at o
 case isFalse=>simp at o
 rename_i X;simp only[aF,ah]at X;simp at o;subst o;obtain⟨Y,f2,f3⟩:=uB hh hg hy;have a0:=hg k _ hk;have C:bh h (me y get).2 k=some (.mp H J l):=by rw[mg _ _ _ (yH hk (by simp))];exact a0
 generalize M:bh h (me y get).2=E at Y f2 f3 C;have n:ii w (Av F ρ E) H K u:=(V.asD_ok S hi).evo f2.evo;have A:ii w (Av F ρ E) J L z:=V.asD_ok U f3;obtain⟨b',Q,p,clock,e1,e2,e3,e4,e5⟩:=Y.ok k _ C;rw[R]at Q;simp at Q;subst Q;obtain⟨f,g1,g2,g3⟩:=te X.1 n e2;have B:(getObj bl).run P w= .ok (.map p clock) w:=by simp[getObj,Sem.run,e1]
 have fin:∀(o':Obj)(m:Array MapEntry)(c:Nat),o'= .map m c→F2 (nH w (Av F ρ E) H J) (cF K L l) m.toList→(m.toList.map (·.born)).Nodup→(∀e∈m.toList,e.born<c)→
  (∀w',(setObj bl o').run P w= .ok () w'→(Instr.mapUpdate t (.map (some bl)) u z).run P w= .ok () w')→∃w',(Instr.mapUpdate t (.map (some bl)) u z).run P w= .ok () w'∧bJ F ρ w h N W (.tup []) ((me y get).2++[(k,some (.mp H J (cF K L l)))]) undef w':=by
  rintro o' m c rfl hF hn a1 O;obtain⟨w',s1,s2,s3,s4,s5,s6,s7⟩:=yG (P:=P) (o':= .map m c) e1 (by simp);refine⟨w',O w' s1,?_⟩
  exact bJ.behind f2 M (bJ.set (N:=N) (W:=W) Y C rfl (.mp H J (cF K L l)) (by simp) (by simp) (by omega) s4 s5 s6 (λb' _ a2=>s7 b' (λe=>a2 (by rw[R,e];rfl)))
   (λa3=>⟨bl,R,m,c,s2,F2.imp (λ_ _=>nH.evo a3.evo) hF,hn,a1,(ti e5).1⟩) (.tup []) undef (λ_=>dZ))
 rcases r:eK f p.toList 0 with _|⟨j,vv⟩
 ·refine fin _ (p.push {key:=u,val:=z,born:=clock}) (clock+1) rfl ?_ ?_ ?_ ?_
  ·simpa using tj (new:={key:=u,val:=z,born:=clock}) ⟨n,A⟩ g2 r
  ·simp only[Array.toList_push,dl,aX,List.map_nil];refine List.nodup_append.2 ⟨e3,by simp,?_⟩;intro a o b' a4 a9;simp at a4;obtain⟨e,s,rfl⟩:=dY.1 o;have:=e4 e s;omega
  ·intro e s;simp at s;rcases s with s|rfl
   ·have:=e4 e (by simpa using s);omega
   ·exact Nat.lt_succ_self _
  ·intro w' hs;simp[Instr.mapUpdate,run_underlying (iQ G),B,g3,g1,r,hs]
 ·obtain⟨_,⟨e0,q0,r1,r2,r3⟩,r4⟩:=tk (vd:=L) (g:=λe=>{e with key:=u,val:=z}) g2 r;simp only[Nat.sub_zero]at r1 r4;have a5:q0.1=K:=(eu.1 r3).symm;have a6:=(Cn (P:=P) (w:=w) X.1 (by rw[←a5];exact r2.1) n).2;refine fin _ (p.modify j λe=>{e with key:=u,val:=z}) clock rfl ?_ ?_ ?_ ?_
  ·rw[Array.toList_modify];exact r4 λe1 Q _ a b=>⟨by rw[←eu.1 b];exact n,A⟩
  ·rw[Array.toList_modify]
   have:(p.toList.modify j λe=>{e with key:=u,val:=z}).map (·.born)=p.toList.map (·.born):=by
    apply List.ext_getElem?;intro i;simp only[List.getElem?_map,List.getElem?_modify];cases p.toList[i]?<;>simp;split<;>rfl
   rw[this];exact e3
  ·intro e s;rw[Array.toList_modify]at s;obtain⟨i,hi,a7⟩:=List.getElem_of_mem s;have:(p.toList.modify j λe=>{e with key:=u,val:=z})[i]?=some e:=by rw[ap hi,a7]
   rw[List.getElem?_modify]at this;cases D:p.toList[i]? with
   |none=>simp[D]at this
   |some e9=>
    have h9:=e4 e9 (List.mem_of_getElem? D);simp[D]at this;rw[←this];split<;>exact h9
  ·intro w' hs
   have a8:((p[j]?).map (·.key)).getD u=e0.key:=by
    have:p[j]?=some e0:=by simpa using r1
    simp[this]
   simp[Instr.mapUpdate,run_underlying (iQ G),B,g3,g1,r,a8,a6,hs]
end
end
section
section
variable{P:Program}{F:Nat→Prop}{ρ:Nat→Pl}{w:World}{h get:Nat→Option Ch}{N W:Nat}
theorem bJ.block(hh:dn F ρ w h)(g:ρ N= .un)(i:0<W)(o:Obj)(c:Ch)(a:∀m kt e rest last,c= .mit m kt e rest last→∃l,h m=some (.lk kt e l))
 (j:Mv ρ w h (fM ρ N (.bk w.heap.size)) (w.alloc o) (cI h N (some c))→(w.alloc o).heap[w.heap.size]?=some o→vU (w.alloc o) (Av F (fM ρ N (.bk w.heap.size)) (cI h N (some c))) (fM ρ N (.bk w.heap.size)) N c) (x:V) (v:Value)
 (n:fM ρ N (.bk w.heap.size) N= .bk w.heap.size→aS (w.alloc o) (Av F (fM ρ N (.bk w.heap.size)) (cI h N (some c))) (fM ρ N (.bk w.heap.size)) x v):bJ F ρ w h N W x [(N,some c)] v (w.alloc o):=by
 refine bJ.add hh g i (fp.alloc w o) (.bk w.heap.size) c a (λb _ f=>?_) (λp=>j p (Go.heap_alloc_new w o)) x v (λ_=>n (bL _ _ _));simp[Pl.blk]at f;subst f;exact⟨aC _,by rw[dR];omega⟩
def qv(P:Program)(t:TypeId)(N:Nat):Option (V×dH):=
 match na P t with
 |some (a,b)=>match J3 P 8 a,J3 P 8 b with
  |some c,some e=>some (sc (.mp N),[(N,some (.mp c e []))])
  |_,_=>none
 |none=>none
theorem qw(hh:dn F ρ w h)(f:ρ N= .un)(g:0<W){t:TypeId}:dh P F ρ w h N W (Instr.makeMap t none) (Tr.ofOpt (qv P t N)):=by
 refine .ofOpt λq c=>?_;unfold qv at c;split at c
 case h_2=>simp at c
 rename_i a b i;split at c<;>simp at c;rename_i j l m n;subst c;refine⟨.map (some w.heap.size),w.alloc (.map #[] 0),by simp[Instr.makeMap,newObj,Sem.run],bJ.block hh f g (.map #[] 0) (.mp j l []) (by simp) (λ_ o=>⟨_,bL _ _ _, #[],0,o,trivial,by simp,by simp,by simp⟩) _ _ (λe=>aH.2 ⟨_,e,rfl⟩)⟩
def yI(P:Program)(t:TypeId)(x:V)(get:Nat→Option Ch)(N:Nat):Option (V×dH):=
 match x.one? with
 |some (.mp k)=>match na P t,get k with
  |some _,some (.mp a b l)=>some (sc (.ptr N 0),[(k,some (.lk a b l)),(N,some (.mit k a b l none))])
  |some _,some (.lk a b l)=>some (sc (.ptr N 0),[(N,some (.mit k a b l none))])
  |_,_=>none
 |some (.fmp a b l)=>match na P t with
  |some _=>some (sc (.ptr N 0),[(N,some (.fit a b l none))])
  |none=>none
 |some i=>match i.sc? with
  |some (_, .str s)=>if Cf P t then some (sc (.ptr N 0),[(N,some (.sit s 0))])else none
  |_=>none
 |none=>none
theorem wv{w:World}{A:Nat→Prop}{kt a:Ty}{l:List (kt.den×a.den)}{b c:Nat}(h:lM w A kt a l b)(hi:∀es clock,w.heap[b]?=some (.map es clock)→w.heap[c]?=some (.mapIter (some b) clock #[] clock)):nO w A kt a l none b c:=by
 obtain⟨es,clock,e,f,g,i,_⟩:=h;refine⟨es,clock, #[],e,hi es clock e,g,i,⟨l,List.Perm.refl _,?_⟩,by simp⟩;rw[List.filter_eq_self.2 (by simp)];exact f
theorem uC(hh:dn F ρ w h)(hg:∀k b,get k=some b→h k=some b)(S:ρ N= .un)(hW:0<W){t:TypeId}{x:V}{v:Value}(hx:aS w (Av F ρ h) ρ x v):dh P F ρ w h N W (Instr.range t v) (Tr.ofOpt (yI P t x get N)):=by
 refine .ofOpt λq f=>?_;unfold yI at f
 have y:∀{k bl:Nat}{o p:Ty}{l:List (o.den×p.den)}{K:TypeId×TypeId}{z:Nat→Option Ch},dn F ρ w z→z k=some (.lk o p l)→ρ k= .bk bl→na P t=some K→
  ∃r U,(Instr.range t (.map (some bl))).run P w= .ok r U∧bJ F ρ w z N W (sc (.ptr N 0)) [(N,some (.mit k o p l none))] r U:=by
  intro k bl o p l K z L H A g;obtain⟨b',M,X⟩:=L.ok _ _ H;rw[A]at M;simp at M;subst M;obtain⟨es,clock,J,_⟩:=id X;have a0:k≠N:=λe=>by rw[e,S]at A;simp at A
  refine⟨.pointer (some ⟨w.heap.size,0,none⟩),_,run_range_map w t _ _ bl es clock (iQ g) J,bJ.block L S hW (.mapIter (some bl) clock #[] clock) (.mit k o p l none) (λm a b c d e=>by simp at e;obtain⟨rfl,rfl,rfl,_⟩:=e;exact⟨l,H⟩) (λD E=>⟨w.heap.size,bl,bL _ _ _,by rw[fU _ _ _ a0];exact A,?_⟩) _ _ (λe=>aH.2 ⟨_,⟨_,e,rfl⟩,rfl⟩)⟩;have n:bl<w.heap.size:=(dX.1 J).1;refine wv (X.evo D.evo ((fp.alloc w _).old bl n)) λa3 B G=>?_;rw[(fp.alloc w _).old bl n,J]at G;simp at G;obtain⟨rfl,rfl⟩:=G;exact E
 split at f
 ·rename_i k O;obtain⟨bl,A,z⟩:=aL O hx;simp at z;subst z;split at f
  case h_3=>simp at f
  ·rename_i K o p l g H;simp at f;subst f;have C:=hg k _ H
   obtain⟨a1,a2⟩:=hh.step (ρ':=ρ) (w':=w) (h':=cI h k (some (.lk o p l))) (λj=>j=k) (dK.refl ρ) (aC _) rfl rfl rfl (λj u=>bD _ _ _ u) (λ_ _ _=>rfl)
    (λj c b u Y _ Q=>by subst u;exact⟨(hh.fr j _ b C rfl Q).1, .inr ⟨j,_,rfl,C,rfl,Q⟩⟩)
    (λj j' _ _ _ u a4 _ _ _ _ _ _=>u.trans a4.symm)
    (λj m a b c d u R=>by
     by_cases e:j=k
     ·subst e;rw[bF]at u;simp at u
     ·rw[bD _ _ _ e]at u;obtain⟨l',hl⟩:=hh.it j m a b c d u;rcases R with R|R
      ·exact absurd R e
      ·rw[R,C]at hl;simp at hl)
    (λj c u Y D=>by
     subst u;rw[bF]at Y;simp at Y;subst Y;obtain⟨b',M,X⟩:=hh.ok j _ C;exact⟨b',M,X.evo D.evo rfl⟩)
   obtain⟨r,U,r1,r2⟩:=y a1 (bF _ _ _) A g;exact⟨r,U,r1,bJ.behind (u0:=[(k,some (.lk o p l))]) a2 rfl r2⟩
  ·rename_i K o p l g H;simp at f;subst f;exact y hh (hg k _ H) A g
 ·rename_i o p l O;split at f<;>simp at f;rename_i K g;subst f;obtain⟨bl,z,n,a5,h2⟩:=aL O hx;simp at z;subst z;have a6:lM w (Av F ρ h) o p l bl:=h2;obtain⟨es,clock,J,_⟩:=id h2;refine⟨.pointer (some ⟨w.heap.size,0,none⟩),_,run_range_map w t _ _ bl es clock (iQ g) J,bJ.block hh S hW (.mapIter (some bl) clock #[] clock) (.fit o p l none) (by simp) (λD E=>⟨w.heap.size,bl,bL _ _ _,bq n D.size,λq=>a5 ((D.evo (F:=F)).av bl n q),?_⟩) _ _ (λe=>aH.2 ⟨_,⟨_,e,rfl⟩,rfl⟩)⟩;refine wv (a6.evo D.evo ((fp.alloc w _).old bl n)) λa3 B G=>?_;rw[(fp.alloc w _).old bl n,J]at G;simp at G;obtain⟨rfl,rfl⟩:=G;exact E
 ·rename_i i _ _ O;split at f
  case h_2=>simp at f
  rename_i kn s hs;split at f<;>simp at f;rename_i ht;subst f;have hv:=lX hs (aL O hx);subst hv;exact⟨_,_,run_range_string w t (cd s) (gh ht),bJ.block hh S hW (.stringIter (cd s) 0) (.sit s 0) (by simp) (λ_ A=>⟨_,bL _ _ _,A⟩) _ _ (λe=>aH.2 ⟨_,⟨_,e,rfl⟩,rfl⟩)⟩
 ·simp at f
def ww(x:V)(f:Bool)(get:Nat→Option Ch):Tr (V×dH):=
 match x.one?,f with
 |some (.ptr k 0),true=>match get k with
  |some (.sit s b)=> .ite (decide (b<s.length)) (.leaf (.tup [(false,[.k (.bool true)]),(false,[.d .i64 (b:Int)]),(false,[.d .i32 ((Utf8.decode (cd s) b).1:Int)])],[(k,some (.sit s (b+(Utf8.decode (cd s) b).2)))]))
   (.leaf (.tup [(false,[.k (.bool false)])],[]))
  |_=> .stuck
 |some (.ptr k 0),false=>match get k with
  |some (.mit m c e a _)=> .ite (!a.isEmpty) (.all ((c.den×e.den)×List (c.den×e.den)) (λz=>a.Perm (z.1::z.2)) (λz=> .leaf (.tup [(false,[.k (.bool true)]),(c.agg,iF c z.1.1),(e.agg,iF e z.1.2)],[(k,some (.mit m c e z.2 (some z.1)))])))
   (.leaf (.tup [(false,[.k (.bool false)])],[]))
  |some (.fit c e a _)=> .ite (!a.isEmpty) (.all ((c.den×e.den)×List (c.den×e.den)) (λz=>a.Perm (z.1::z.2)) (λz=> .leaf (.tup [(false,[.k (.bool true)]),(c.agg,iF c z.1.1),(e.agg,iF e z.1.2)],[(k,some (.fit c e z.2 (some z.1)))])))
   (.leaf (.tup [(false,[.k (.bool false)])],[]))
  |_=> .stuck
 |_,_=> .stuck
theorem F2.mem{α β:Type}{R:α→β→Prop}:∀{l:List α}{m:List β}{b:β},F2 R l m→b∈m→∃a r c e m1 f,l=c++a::e∧m=m1++b::f∧R a b∧F2 R (c++e) (m1++f)∧r=c++e
 |[],[],_,_,h=>by simp at h
 |a::l,j::m,b,⟨g,i⟩,h=>by
  rcases br.1 h with rfl|h
  ·exact⟨a,_,[],l,[],m,rfl,rfl,g,i,rfl⟩
  ·obtain⟨n,r,c,e,m1,f,o,p,q,s,t⟩:=F2.mem i h;exact⟨n,_,a::c,e,j::m1,f,by rw[o];rfl,by rw[p];rfl,q,⟨g,s⟩,rfl⟩
theorem nc{es:List MapEntry}{seen:Array Nat}{e:MapEntry}(j:(es.map (·.born)).Nodup){m1 b:List MapEntry}(g:es.filter (λx=> !seen.contains x.born)=m1++e::b):
 es.filter (λx=> !(seen.push e.born).contains x.born)=m1++b:=by
 have l:es.filter (λx=> !(seen.push e.born).contains x.born)=(es.filter (λx=> !seen.contains x.born)).filter (λx=> !(x.born==e.born)):=by
  rw[List.filter_filter]
  congr 1
  funext x;simp only[Array.contains_push];cases seen.contains x.born<;>cases p:x.born==e.born<;>simp_all
 rw[l,g]
 have a:(m1++e::b).map (·.born)|>.Nodup:=by
  rw[←g];exact j.sublist (List.Sublist.map _ List.filter_sublist)
 rw[dl,aX,List.nodup_append]at a;obtain⟨r,i,m⟩:=a;rw[lK]at i
 have n:m1.filter (λx=> !(x.born==e.born))=m1:=List.filter_eq_self.2 λx c=>by
  have:=m x.born (fe c) e.born (aM ..);simp[this]
 have o:b.filter (λx=> !(x.born==e.born))=b:=List.filter_eq_self.2 λx c=>by
  have:x.born≠e.born:=λq=>i.1 (q▸fe (f:=(·.born)) c);simp[this]
 rw[List.filter_append,n,List.filter_cons];simp[o]
theorem wx(hh:dn F ρ w h)(hg:∀k b,get k=some b→h k=some b){ty:TypeId}{x:V}{r:Bool}{v:Value}(hx:aS w (Av F ρ h) ρ x v):dh P F ρ w h N W (Instr.next v r ty) (ww x r get):=by
 unfold ww;split
 ·rename_i k hp;obtain⟨_,⟨b,p,rfl⟩,h1⟩:=aL hp hx;simp at h1;subst h1;simp only at p;split
  case h_2=>exact .stuck
  rename_i s o hk;have i:=hg k _ hk;obtain⟨K,t,q2⟩:=hh.ok _ _ i;rw[p]at t;simp at t;subst t;have a8:(cd s).size=s.length:=by simp[cd,ByteArray.size]
  refine .ite (λM=>?_) (λM=>?_)
  ·simp at M;have a2:=Lib.run_next_any_at (P:=P) w b (cd s) o ty q2 (by omega);have u:b<w.heap.size:=(dX.1 q2).1;refine .leaf a2 ?_;refine(bJ.set (w':=w.iterAt b (cd s) (o+(Utf8.decode (cd s) o).2)) hh i rfl (.sit s (o+(Utf8.decode (cd s) o).2)) (by simp) (by simp) (by simp[World.iterAt]) rfl rfl rfl (λK _ j=>?_) (λn=>⟨b,p,?_⟩) _ _ (λ_=>?_))
   ·have:K≠b:=λe=>j (by rw[p,e];rfl);simp[World.iterAt,lx this]
   ·simp[World.iterAt,u]
   ·exact⟨_,rfl,aH.2 rfl,aH.2 rfl,aH.2 (by simp[bf,Rd]),trivial⟩
  ·simp at M;exact .pure hh (Lib.run_next_end_at w b (cd s) o ty q2 (by omega)) ⟨_,rfl,aH.2 rfl,trivial⟩
 ·rename_i k hp;obtain⟨_,⟨b,p,rfl⟩,h1⟩:=aL hp hx;simp at h1;subst h1;simp only at p;split
  case h_3=>exact .stuck
  case h_2=>
   rename_i kt vt c L hk;have i:=hg k _ hk;obtain⟨K,D,t,a3,qA,y,clock,seen,E,O,i3,i4,⟨q,i5,Q⟩,i7⟩:=hh.ok _ _ i;rw[p]at t;simp at t;subst t;have l:=run_next_at (P:=P) w ty b D clock clock seen y clock O E i4 (aC _);have f:(leftOf y seen).toList=y.toList.filter λe=> !seen.contains e.born:=by simp[leftOf]
   intro R hR;obtain⟨hT,S⟩:=hR;rcases l with⟨z,U⟩|⟨e,z,A,U,n3⟩
   ·have B:y.toList.filter (λe=> !seen.contains e.born)=[]:=by rw[←f];simpa using z
    rw[B]at Q
    have X:q=[]:=by cases q with
     |nil=>rfl
     |cons _ _=>exact Q.elim
    subst X;have Y:c=[]:=List.Perm.eq_nil i5.symm;exact⟨_,w,_,U,S (by rw[Y];rfl),bJ.pure hh ⟨_,rfl,aH.2 rfl,trivial⟩⟩
   ·rw[f]at z;obtain⟨a,_,G,H,m1,m2,e1,e2,e3,e4,_⟩:=F2.mem Q z;have g:c.Perm (a::(G++H)):=i5.symm.trans (by rw[e1];exact List.perm_middle)
    have j:(!c.isEmpty)=true:=by
     cases c with
     |nil=>have:=g.length_eq;simp at this
     |cons _ _=>rfl
    have u:b<w.heap.size:=(dX.1 O).1;have a0:A.heap=w.heap∧A.os=w.os∧A.tape=w.tape∧A.output=w.output:=by rcases U with rfl|rfl<;>exact⟨rfl,rfl,rfl,rfl⟩
    obtain⟨J,z2,z3,z4⟩:=a0;have a1:D≠b:=λe9=>by rw[e9,O]at E;simp at E
    refine⟨_,_,_,n3,hT j (a,G++H) g,?_⟩;refine(bJ.set (w':=dS A b (.mapIter (some D) clock (seen.push e.born) clock)) hh i rfl (.fit kt vt (G++H) (some a)) (by simp) (by simp) (by simp[dS,J]) z2 z3 z4 (λK _ j=>?_) (λn=>⟨b,D,p,bq a3 n.size,λq=>qA ((n.evo (F:=F)).av D a3 q),y,clock,seen.push e.born,?_,?_,i3,i4,⟨G++H,List.Perm.refl _,?_⟩,?_⟩) _ _ (λn=>?_))
    ·have:K≠b:=λe=>j (by rw[p,e];rfl);simp[dS,lx this,J]
    ·simp[dS,lx a1,J,E]
    ·simp[dS,J,u]
    ·rw[nc i3 e2];exact F2.imp (λ_ _=>nH.evo n.evo) e4
    ·intro q' C;simp at C;subst C;exact⟨seen,e,rfl,(List.mem_filter.1 z).1,e3.evo n.evo⟩
    ·exact⟨_,rfl,aH.2 rfl,gS.2 (e3.1.evo n.evo),gS.2 (e3.2.evo n.evo),trivial⟩
  rename_i m kt vt c L hk;have i:=hg k _ hk;obtain⟨K,D,t,q2,y,clock,seen,E,O,i3,i4,⟨q,i5,Q⟩,i7⟩:=hh.ok _ _ i;rw[p]at t;simp at t;subst t;have l:=run_next_at (P:=P) w ty b D clock clock seen y clock O E i4 (aC _);have f:(leftOf y seen).toList=y.toList.filter λe=> !seen.contains e.born:=by simp[leftOf]
  intro R hR;obtain⟨hT,S⟩:=hR;rcases l with⟨z,U⟩|⟨e,z,A,U,n3⟩
  ·have B:y.toList.filter (λe=> !seen.contains e.born)=[]:=by rw[←f];simpa using z
   rw[B]at Q
   have X:q=[]:=by cases q with
    |nil=>rfl
    |cons _ _=>exact Q.elim
   subst X;have Y:c=[]:=List.Perm.eq_nil i5.symm;exact⟨_,w,_,U,S (by rw[Y];rfl),bJ.pure hh ⟨_,rfl,aH.2 rfl,trivial⟩⟩
  ·rw[f]at z;obtain⟨a,_,G,H,m1,m2,e1,e2,e3,e4,_⟩:=F2.mem Q z;have g:c.Perm (a::(G++H)):=i5.symm.trans (by rw[e1];exact List.perm_middle)
   have j:(!c.isEmpty)=true:=by
    cases c with
    |nil=>have:=g.length_eq;simp at this
    |cons _ _=>rfl
   have u:b<w.heap.size:=(dX.1 O).1;have a0:A.heap=w.heap∧A.os=w.os∧A.tape=w.tape∧A.output=w.output:=by rcases U with rfl|rfl<;>exact⟨rfl,rfl,rfl,rfl⟩
   obtain⟨J,z2,z3,z4⟩:=a0;have a1:D≠b:=λe9=>by rw[e9,O]at E;simp at E
   obtain⟨_,a5⟩:=hh.it k m kt vt c L i;refine⟨_,_,_,n3,hT j (a,G++H) g,?_⟩;refine(bJ.set (w':=dS A b (.mapIter (some D) clock (seen.push e.born) clock)) hh i rfl (.mit m kt vt (G++H) (some a)) (by simp) (λm' a9 b0 a6 a7 a4=>by simp at a4;obtain⟨rfl,rfl,rfl,_⟩:=a4;exact⟨_,a5⟩) (by simp[dS,J]) z2 z3 z4 (λK _ j=>?_) (λn=>⟨b,D,p,q2,y,clock,seen.push e.born,?_,?_,i3,i4,⟨G++H,List.Perm.refl _,?_⟩,?_⟩) _ _ (λn=>?_))
   ·have:K≠b:=λe=>j (by rw[p,e];rfl);simp[dS,lx this,J]
   ·simp[dS,lx a1,J,E]
   ·simp[dS,J,u]
   ·rw[nc i3 e2];exact F2.imp (λ_ _=>nH.evo n.evo) e4
   ·intro q' C;simp at C;subst C;exact⟨seen,e,rfl,(List.mem_filter.1 z).1,e3.evo n.evo⟩
   ·exact⟨_,rfl,aH.2 rfl,gS.2 (e3.1.evo n.evo),gS.2 (e3.2.evo n.evo),trivial⟩
 ·exact .stuck
def uD(x:V)(get:Nat→Option Ch):Option V:=
 match x.one? with
 |some (.ptr k 0)=>match get k with
  |some (.mit _ a b _ (some z))=>some (.tup [(a.agg,iF a z.1),(b.agg,iF b z.2)])
  |some (.fit a b _ (some z))=>some (.tup [(a.agg,iF a z.1),(b.agg,iF b z.2)])
  |_=>none
 |_=>none
theorem uE(hh:dn F ρ w h)(B:∀k b,get k=some b→h k=some b){x:V}{v:Value}(D:aS w (Av F ρ h) ρ x v):dh P F ρ w h N W (Instr.entry v) (Tr.ofOpt ((uD x get).map (·,[]))):=by
 refine .ofOpt λq i=>?_;cases a:uD x get with
 |none=>simp[a]at i
 |some y=>
  simp[a]at i;subst i;unfold uD at a;split at a
  case h_2=>simp at a
  rename_i k E;obtain⟨_,⟨b,j,rfl⟩,C⟩:=aL E D;simp at C;subst C;simp only at j;split at a<;>simp at a
  case h_2=>
   rename_i G H f z l;subst a;obtain⟨J,n,c,_,_,o,clock,seen,p,r,s,K,_,t⟩:=hh.ok _ _ (B _ _ l);rw[j]at c;simp at c;subst c;obtain⟨u,e,rfl,A,g⟩:=t z rfl;exact⟨_,w,run_entry_at w b n clock u o clock e r p A s,bJ.pure hh ⟨_,rfl,gS.2 g.1,gS.2 g.2,trivial⟩⟩
  rename_i m G H f z l;subst a;obtain⟨J,n,c,L,o,clock,seen,p,r,s,K,_,t⟩:=hh.ok _ _ (B _ _ l);rw[j]at c;simp at c;subst c;obtain⟨u,e,rfl,A,g⟩:=t z rfl;exact⟨_,w,run_entry_at w b n clock u o clock e r p A s,bJ.pure hh ⟨_,rfl,gS.2 g.1,gS.2 g.2,trivial⟩⟩
def jp(P:Program)(t:TypeId)(x:V):Option V:=
 match x.one? with
 |some (.ptr k a)=>if nS P t then some (sc (.ifc t k a))else none
 |_=>none
theorem nY(hh:dn F ρ w h){t:TypeId}{x:V}{v:Value}(f:aS w (Av F ρ h) ρ x v):dh P F ρ w h N W (Instr.makeInterface t v) (Tr.ofOpt ((jp P t x).map (·,[]))):=by
 refine .ofOpt λq a=>?_;unfold jp at a;split at a
 case h_2=>simp at a
 rename_i k g i;split at a<;>simp at a;rename_i b;subst a;obtain⟨_,j,c⟩:=aL i f;simp at c;subst c
 obtain⟨e,l⟩:∃e,P.underlying t=some (.pointer e):=by
  unfold nS at b;split at b
  ·exact⟨_,‹_›⟩
  ·simp at b
 exact⟨.iface t v,w,by simp[Instr.makeInterface,run_underlying l],bJ.pure hh (aH.2 ⟨v,j,rfl⟩)⟩
def Co:List V→Option (List (Nat×Nat))
 |[]=>some []
 |x::r=>match x.one?,Co r with
  |some (.ptr k a),some l=>some ((k,a)::l)
  |_,_=>none
theorem uF{A:Nat→Prop}:∀{l:List V}{m:List (Nat×Nat)}{vs:List Value},Co l=some m→F2 (aS w A ρ) l vs→F2 (jZ ρ) m vs
 |[],m,[],h,_=>by simp[Co]at h;subst h;trivial
 |x::l,m,v::vs,h,⟨b,c⟩=>by
  simp only[Co]at h;split at h<;>simp at h;rename_i k e j f g;subst h;obtain⟨u,i,a⟩:=aL f b;simp at a;subst a;exact⟨i,uF g c⟩
end
end
section
def EA(v:Value):V:=match Ek v with
 |some i=>sc i
 |none=> .any
def dp(slots:List V):Operand→V
 | .tmp t=>slots.getD t (.tup [])
 | .const v=>EA v
 | .func f=>sc (.fn f [] [])
 | .global _=> .any
theorem ff{w:World}{A:Nat→Prop}{ρ:Nat→Pl}{slots:List V}{a:Act}(h:F2 (aS w A ρ) slots a.tmps.toList)(x:Operand):aS w A ρ (dp slots x) (a.eval x):=by
 cases x with
 |tmp t=>
  simp only[dp,Act.eval,bv];cases b:slots[t]? with
  |none=>
   have c:a.tmps.toList[t]?=none:=by
    rw[List.getElem?_eq_none_iff]at b⊢;rw[←h.length];exact b
   have e:a.tmps[t]?=none:=by simpa using c
   simp only[Option.getD_none,Array.getD_eq_getD_getElem?,e];exact dZ
  |some x=>
   obtain⟨v,c,e⟩:=h.get b;have i:a.tmps[t]?=some v:=by simpa using c
   simp only[cZ,Array.getD_eq_getD_getElem?,i];exact e
 |const v=>
  simp only[dp,Act.eval,EA];cases j:Ek v with
  |none=>trivial
  |some x=>exact aH.2 (Ay j)
 |global g=>trivial
 |func f=>exact aH.2 ⟨[],[],rfl,trivial,trivial⟩
def qx:Operand→Bool
 | .const (.slice none 0 0)=>true
 |_=>false
def wy(P:Program)(t:TypeId)(x:Operand)(v:V)(N:Nat):V×dH:=
 if qx x then
  match pE P t with
  |some e=>match J3 P 8 e with
   |some b=>(sc (.own N),[(N,some (.sl b []))])
   |none=>(v,[])
  |none=>(v,[])
 else(v,[])
def Cp(P:Program)(t:TypeId)(name:String):Option (FuncId×Bool):=
 match P.info? t with
 |some i=>match i.methods.find? (·.name==name)with
  |some m=>if m.path.toList.isEmpty then m.func else none
  |none=>none
 |none=>none
def x8(x:Option V):Tr (V×dH):=Tr.ofOpt (x.map (·,[]))
def to(P:Program)(op:BinOp)(t:TypeId)(a b:I):Option (Bool×Bool):=
 match pE P t,b,a with
 |some _, .nils, .d (.sl _) l=>if isEq op then some (false,l.isEmpty)else none
 |some _, .nils, .cut _ l=>if isEq op then some (false,l.isEmpty)else none
 |some _, .nils, .nils=>if isEq op then some (true,true)else none
 |_,_,_=>none
where isEq:BinOp→Bool
 | .eql=>true
 | .neq=>true
 |_=>false
def qy(b:BinOp)(z:Bool):Bool:=match b with
 | .eql=>z
 |_=> !z
def qz(P:Program)(c:BinOp)(t:TypeId)(x y:V):Tr (V×dH):=
 match x,y with
 | .val false [a], .val false [b]=>match a.sc?,b.sc? with
   |some p,some q=>match qk P c t p q with
    |some r=> .needs r.1 (.leaf (r.2,[]))
    |none=> .stuck
   |_,_=>match to P c t a b with
    |some (true,_)=> .leaf (sc (.k (.bool (qy c true))),[])
    |some (false,m)=> .all Bool (λz=>z=true→m=true) λz=> .leaf (sc (.d .bl (qy c z)),[])
    |none=>x8 (oP P c t a b)
 | .val true l, .val true m=>x8 (uy P c t l m)
 |_,_=> .stuck
def oS:List (Nat×V)→(Nat→Option Ch)→List (Nat×V)×dH
 |[],_=>([],[])
 |p::r,get=>let q:=me p.2 get;let s:=oS r (bh get q.2);((p.1,q.1)::s.1,q.2++s.2)
def fF(P:Program)(t:TypeId)(len:Nat)(parts:List (Nat×V))(get:Nat→Option Ch)(N:Nat):Tr (V×dH):=
 match kj P t len (oS parts get).1 N with
 |some r=> .leaf (r.1,(oS parts get).2++r.2)
 |none=> .stuck
def uG(P:Program)(t:TypeId)(x y:V)(get:Nat→Option Ch):Option (V×dH):=
 match ui P t x y get with
 |some q=>some q
 |none=>match ui P t x (me y get).1 (bh get (me y get).2)with
  |some q=>some (q.1,(me y get).2++q.2)
  |none=>none
def qB(P:Program)(b:Builtin)(ts:List TypeId)(args:List V)(get:Nat→Option Ch)(N:Nat):Tr (V×dH):=
 match b,ts,args with
 | .len,[t],[x]=>x8 (Kp P t x get)
 | .max,_,[x,y]=>x8 (RE x y)
 | .min,_,[x,y]=>x8 (RF x y)
 | .append,[t,c],[x,y]=>if t=c then mV P t x y get N else aappendZ P t c x y get N
 | .copy,[t,_],[x,y]=>Tr.ofOpt (Er P t x y get)
 |_,_,_=> .stuck
def Ku(P:Program)(x:V):Tr (V×dH):=
 match x.one? with
 |some (.ptr ..)=> .leaf (x,[])
 |some (.pes ..)=> .leaf (x,[])
 |some (.pv ..)=> .leaf (x,[])
 |some (.fn ..)=> .leaf (x,[])
 |some (.ifc ..)=> .leaf (x,[])
 |some (.mth name t ..)=>match Cp P t name with
  |some (_,b)=>if b=true∨nS P t=true then .leaf (x,[])else .stuck
  |none=> .stuck
 |_=> .stuck
def ld(f:Fn)(first cap:List V):Tr (V×dH):=
 match f with
 | .func g=>match Co first,Co cap with
   |some l,some m=> .leaf (sc (.fn g l m),[])
   |_,_=> .stuck
 | .method name=>match first,cap with
   |[x],[]=>match x.one? with
    |some (.ifc t k b)=> .leaf (sc (.mth name t k b),[])
    |_=> .stuck
   |_,_=> .stuck
 |_=> .stuck
def kp(P:Program)(o:Oper)(e:Operand→V)(get:Nat→Option Ch)(N:Nat):Tr (V×dH):=
 match o.op with
 | .move x=> .leaf (wy P o.type x (e x) N)
 | .assign x=> .leaf (wy P o.type x (e x) N)
 | .pick c a b=>match(e c).one? with
   |some (.k (.bool t))=> .leaf (if t then e a else e b,[])
   |some (.d .bl t)=> .ite t (.leaf (e a,[])) (.leaf (e b,[]))
   |_=> .stuck
 | .alloc t=>Tr.ofOpt (yu P t N)
 | .box _ x=>Tr.ofOpt (RB (e x) N)
 | .build t parts=>Tr.ofOpt (yC P t (parts.toList.map λp=>(p.1,e p.2)))
 | .buildSlice t len parts=>fF P t len (parts.toList.map λp=>(p.1,e p.2)) get N
 | .load t x=>x8 (wd P t (e x) get)
 | .store t x y=>Tr.ofOpt (uG P t (e x) (e y) get)
 | .nilCheck x=>Ku P (e x)
 | .binOp j t x y _=>qz P j t (e x) (e y)
 | .unOp j _ x=>x8 (aun j (e x))
 | .convert n q x=>kl P n q (e x) get
 | .makeInterface t x=>x8 (jp P t (e x))
 | .makeFunc f first cap=>ld f (first.toList.map e) (cap.toList.map e)
 | .makeMap t none=>Tr.ofOpt (qv P t N)
 | .makeSlice t l c=>wl P t (e l) (e c) N
 | .slice t x r s u=>jn P t (e x) (r.map e) (s.map e) (u.map e) get N
 | .fieldAddr t x f=>x8 (gU P t (e x) f)
 | .field t x f=>x8 (ul P t (e x) f)
 | .indexAddr t x i=>fq P t (e x) (e i) get
 | .index t x i=>qj P t (e x) (e i)
 | .lookup t x i ok=>x8 (lc P t (e x) (e i) ok get)
 | .mapUpdate t m k x=>Tr.ofOpt (jo P t (e m) (e k) (e x) get)
 | .insert t m k x=>Tr.ofOpt (jo P t (e m) (e k) (e x) get)
 | .range t x=>Tr.ofOpt (yI P t (e x) get N)
 | .next x g=>ww (e x) g get
 | .entry x=>x8 (uD (e x) get)
 | .extract x i=>x8 (qg (e x) i)
 | .call c=>match c.callee with
   | .builtin b=>qB P b c.argTypes.toList (c.args.toList.map e) get N
   |_=> .stuck
 |_=> .stuck
section
variable{P:Program}{F:Nat→Prop}{ρ:Nat→Pl}{w:World}{h get:Nat→Option Ch}{N W:Nat}{a:Act}{o:Oper}
theorem oT{t:TypeId}{x:Operand}{v:V}(hh:dn F ρ w h)(i:ρ N= .un)(j:0<W)(f:aS w (Av F ρ h) ρ v (a.eval x)):
 bJ F ρ w h N W (wy P t x v N).1 (wy P t x v N).2 (a.eval x) w:=by
 unfold wy;split
 case isFalse=>exact bJ.pure hh f
 rename_i g;split
 case h_2=>exact bJ.pure hh f
 split
 case h_2=>exact bJ.pure hh f
 rename_i l _
 have c:a.eval x= .slice none 0 0:=by
  unfold qx at g;split at g
  ·rfl
  ·simp at g
 rw[c];refine bJ.add hh i j (fp.refl w) (.sv (.slice none 0 0)) (.sl l []) (λ_ _ _ _ _ e=>by simp at e) (λb _ m=>by simp[Pl.blk]at m) (λ_=>?_) _ _ (λ_=>?_)
 ·exact⟨_,bL _ _ _, .inr ⟨rfl,none,rfl⟩⟩
 ·exact aH.2 ⟨none,0,0,bL _ _ _,rfl⟩
theorem mi:∀(u:dH){get h:Nat→Option Ch},(∀k b,get k=some b→h k=some b)→∀k b,bh get u k=some b→bh h u k=some b
 |[],_,_,f=>f
 |x::u,get,h,f=>by
  simp only[bh];refine mi u λk b c=>?_;by_cases e:k=x.1
  ·subst e;rw[bF]at c⊢;exact c
  ·rw[bD _ _ _ e]at c⊢;exact f k b c
theorem wz:∀{l:List (Nat×V)}{get h:Nat→Option Ch}{vs:List (Nat×Value)},dn F ρ w h→(∀k b,get k=some b→h k=some b)→
 F2 (λ(p:Nat×V)(q:Nat×Value)=>p.1=q.1∧aS w (Av F ρ h) ρ p.2 q.2) l vs→
 dn F ρ w (bh h (oS l get).2)∧Mv ρ w h ρ w (bh h (oS l get).2)∧F2 (λ(p:Nat×V)(q:Nat×Value)=>p.1=q.1∧aS w (Av F ρ (bh h (oS l get).2)) ρ p.2 q.2) (oS l get).1 vs
 |[],_,_,[],c,_,_=>⟨c,Mv.refl _ _ _,trivial⟩
 |p::r,get,h,q::vs,c,e,⟨⟨i,j⟩,m⟩=>by
  obtain⟨n,f,s⟩:=uB (x:=p.2) c e j;obtain⟨t,g,u⟩:=wz (l:=r) n (mi _ e) (F2.imp (λ_ _ q=>⟨q.1,q.2.evo f.evo (dK.refl ρ)⟩) m);simp only[oS];rw[cx];exact⟨t,f.trans g,⟨i,s.evo g.evo (dK.refl ρ)⟩,u⟩
theorem mj{t:TypeId}{len:Nat}{parts:List (Nat×V)}{c:List (Nat×Value)}(hh:dn F ρ w h)(f:∀k b,get k=some b→h k=some b)(g:ρ N= .un)(i:0<W)
 (j:F2 (λ(p:Nat×V)(q:Nat×Value)=>p.1=q.1∧aS w (Av F ρ h) ρ p.2 q.2) parts c):dh P F ρ w h N W (Instr.buildSlice t len c.toArray) (fF P t len parts get N):=by
 unfold fF;split
 case h_2=>exact .stuck
 rename_i r l;obtain⟨m,n,s⟩:=wz hh f j;have e:=mX (P:=P) (t:=t) (len:=len) (N:=N) (W:=W) m g i s;rw[l]at e;intro R u;obtain⟨v,x,q,y,z,ρ',A,B,C,D,E⟩:=e (λq=>q=r) rfl;subst z;refine⟨v,x,_,y,u,ρ',A,B,?_,?_,?_⟩
 ·simp only[cx];exact C
 ·simp only[cx];exact D
 ·simp only[cx];exact n.trans E
theorem ss{t:TypeId}{x y:V}{v u:Value}{q:V×dH}(hh:dn F ρ w h)(e:∀k b,get k=some b→h k=some b)(g:aS w (Av F ρ h) ρ x v)(i:aS w (Av F ρ h) ρ y u)(c:uG P t x y get=some q):
 ∃w',(Instr.storeAt t v u).run P w= .ok () w'∧bJ F ρ w h N W q.1 q.2 undef w':=by
 unfold uG at c;split at c
 ·rename_i l f;simp at c;subst c;exact mU hh e g i f
 ·split at c
  case h_2=>simp at c
  rename_i l f;simp at c;subst c;obtain⟨m,j,n⟩:=uB hh e i;obtain⟨w',p,ρ',r,s,z,A,B⟩:=mU (N:=N) (W:=W) m (mi _ e) (g.evo j.evo (dK.refl ρ)) n f;refine⟨w',p,ρ',r,s,?_,?_,?_⟩
  ·simp only[cx];exact z
  ·simp only[cx];exact A
  ·simp only[cx];exact j.trans B
theorem jq{A:Nat→Prop}{c:Operand→V}{b:Operand→Value}(h:∀x,aS w A ρ (c x) (b x)):∀l:List Operand,F2 (aS w A ρ) (l.map c) (l.map b)
 |[]=>trivial
 |x::l=>⟨h x,jq h l⟩
theorem qC{A:Nat→Prop}{c:Operand→V}{b:Operand→Value}(h:∀x,aS w A ρ (c x) (b x)):∀l:List (Nat×Operand),
 F2 (λ(p:Nat×V)(q:Nat×Value)=>p.1=q.1∧aS w A ρ p.2 q.2) (l.map λp=>(p.1,c p.2)) (l.map λp=>(p.1,b p.2))
 |[]=>trivial
 |x::l=>⟨⟨rfl,h x.2⟩,qC h l⟩
theorem qD{A:Nat→Prop}{c:Operand→V}{b:Operand→Value}(h:∀x,aS w A ρ (c x) (b x))(x:Option Operand):lY w A ρ (x.map c) (x.map b):=by
 cases x with
 |none=>trivial
 |some x=>exact h x
def OW(P:Program)(F:Nat→Prop)(ρ:Nat→Pl)(w:World)(h:Nat→Option Ch)(N W:Nat)(o:Oper)(a:Act)(t:Tr (V×dH)):Prop:=
 ∀(K:Act→World→Prop)(Q:Exit→Act→World→Prop),(t.sat λq=>∀v b,bJ F ρ w h N W q.1 q.2 v b→K (a.put o.dst v) b)→o.wp P a w K Q
theorem OW.of{s:Sem Value}{t:Tr (V×dH)}(b:execOp a.eval o=(do pure (.value (←s))))(c:dh P F ρ w h N W s t):OW P F ρ w h N W o a t:=by
 intro K Q e;obtain⟨r,f,q,g,i,j⟩:=c _ e;unfold Oper.wp;rw[b,bE,g];exact i r f j
theorem OW.ofU{s:Sem Unit}{x:Option (V×dH)}(b:execOp a.eval o=(do s;pure .skip))(c:∀q,x=some q→∃w',s.run P w= .ok () w'∧bJ F ρ w h N W q.1 q.2 undef w'):OW P F ρ w h N W o a (Tr.ofOpt x):=by
 intro K Q e;obtain⟨q,rfl,f⟩:=Cc e;obtain⟨w',g,i⟩:=c q rfl;unfold Oper.wp;rw[b,bE,g];exact f _ w' i
theorem OW.stuck:OW P F ρ w h N W o a .stuck:=λ_ _ h=>h.elim
theorem AK{t:TypeId}{name:String}{q:FuncId×Bool}(h:Cp P t name=some q):∃i m,P.info? t=some i∧i.methods.find? (·.name==name)=some m∧m.path.toList=[]∧m.func=some q:=by
 unfold Cp at h;split at h
 case h_2=>simp at h
 rename_i i b;split at h
 case h_2=>simp at h
 rename_i m c;split at h
 case isFalse=>simp at h
 rename_i e;exact⟨i,m,b,c,by simpa using e,h⟩
theorem uH{n:Nat}{t:TypeId}{name:String}{f:FuncId}{b:Bool}{p:Addr}(h:Cp P t name=some (f,b))(c:b=true∨nS P t=true):
 (nilAhead (n+1) t (.pointer (some p)) name).run P w= .ok (some false) w:=by
 obtain⟨i,m,g,j,l,q⟩:=AK h;have r:(typeInfo t).run P w= .ok i w:=by simp[typeInfo,g]
 simp only[nilAhead,bE,r,aW,j,l,followBlind,bt,q];cases b with
 |true=>simp only[bt]
 |false=>
  rcases c with c|c
  ·simp at c
  unfold nS at c;split at c
  case h_2=>simp at c
  rename_i e s;simp only[bE,run_underlying s,aW,bt]
theorem yJ{x:Operand}{m:Operand→V}(g:o.op= .nilCheck x)(hh:dn F ρ w h)(j:aS w (Av F ρ h) ρ (m x) (a.eval x)):OW P F ρ w h N W o a (Ku P (m x)):=by
 have fin:∀(v:V),v=m x→(execOp a.eval o).run P w= .ok (.value (a.eval x)) w→OW P F ρ w h N W o a (.leaf (v,[])):=by
  intro v s u K Q y;subst s;unfold Oper.wp;rw[u];exact y _ w (bJ.pure hh j)
 unfold Ku;split
 ·rename_i i;obtain⟨_,⟨b,_,rfl⟩,e⟩:=aL i j;simp at e;exact fin _ rfl (by simp only[execOp,g,e,bt])
 ·rename_i i;obtain⟨b,n,c,_,_,e⟩:=aL i j;simp at e;exact fin _ rfl (by simp only[execOp,g,e,bt])
 ·rename_i i;obtain⟨b,l,z,e,_⟩:=aL i j;simp at e;exact fin _ rfl (by simp only[execOp,g,e,bt])
 ·rename_i i;obtain⟨D,z,e,_⟩:=aL i j;simp at e;exact fin _ rfl (by simp only[execOp,g,e,bt])
 ·rename_i i;obtain⟨v,_,e⟩:=aL i j;simp at e;exact fin _ rfl (by simp only[execOp,g,e,bt])
 ·rename_i name t k l i;split
  case h_2=>exact OW.stuck
  rename_i f b A;split
  case isFalse=>exact OW.stuck
  rename_i B;obtain⟨_,⟨bl,_,rfl⟩,e⟩:=aL i j;simp at e;refine fin _ rfl ?_;have q:(Go.program).run P w= .ok P w:=rfl;have C:P.types.size+Made.depth=(P.types.size+(Made.depth-1))+1:=rfl;have r:=uH (w:=w) (n:=P.types.size+(Made.depth-1)) (p:=⟨bl,l,none⟩) A B;rw[←C]at r;simp[execOp,g,e,q,r]
 ·exact OW.stuck
theorem pp{f:Fn}{first cap:List V}{b vc:Array Value}(hh:dn F ρ w h)(c:F2 (aS w (Av F ρ h) ρ) first b.toList)(e:F2 (aS w (Av F ρ h) ρ) cap vc.toList):
 dh P F ρ w h N W (Instr.makeFunc f b vc) (ld f first cap):=by
 unfold ld;split
 ·rename_i g;split
  case h_2=>exact .stuck
  rename_i l m j n;exact .pure hh rfl (aH.2 ⟨b.toList,vc.toList,by simp,uF j c,uF n e⟩)
 ·rename_i name;split
  case h_2=>exact .stuck
  rename_i x;split
  case h_2=>exact .stuck
  rename_i t k p q;obtain⟨b⟩:=b;obtain⟨vc⟩:=vc
  match b,vc,c,e with
  |[v],[],⟨r,_⟩,_=>
   obtain⟨u,s,i⟩:=aL q r;simp at i;subst i;exact .pure hh rfl (aH.2 ⟨u,s,rfl⟩)
 ·exact .stuck
theorem oU{A:Nat→Prop}{f:BinOp}{t:TypeId}{ex ey:Operand}{a b:I}{k m:Bool}{v u:Value}(h:to P f t a b=some (k,m))(r:bf w A ρ a [v])(p:bf w A ρ b [u]):
 ∃z,(do eqGuard f t ex ey v u;binOp f t v u:Sem Value).run P w= .ok (.bool (qy f z)) w∧(z=true→m=true)∧(k=true→z=true):=by
 have sl:∀{e:TypeId}{j:Option Addr}{n c:Nat},pE P t=some e→to.isEq f=true→(do eqGuard f t ex ey (.slice j n c) (.slice none 0 0);binOp f t (.slice j n c) (.slice none 0 0):Sem Value).run P w= .ok (.bool (qy f j.isNone)) w:=by
  intro e j n c g i;rw[eqGuard_at_slice];cases f<;>simp[to.isEq]at i
  ·simp[binOp,run_equal_slice_nil w t e j n c (cJ g),qy]
  ·simp[binOp,run_equal_slice_nil w t e j n c (cJ g),qy]
 have data:∀{e:TypeId}{α:Type}{R:α→List Value→Prop}{l:List α},pE P t=some e→to.isEq f=true→ly w A R l v→u= .slice none 0 0→
  ∃z,(do eqGuard f t ex ey v u;binOp f t v u:Sem Value).run P w= .ok (.bool (qy f z)) w∧(z=true→l.isEmpty=true):=by
  intro e α R l g i B C;subst C;rcases B with⟨D,E,cap,H,rfl,_⟩|⟨rfl,j,rfl⟩
  ·exact⟨_,sl g i,by simp⟩
  ·exact⟨_,sl g i,λ_=>rfl⟩
 unfold to at h;split at h
 ·rename_i e l g;split at h<;>simp at h;rename_i i;obtain⟨rfl,rfl⟩:=h;obtain⟨G,q,s⟩:=r;simp at q;subst q;simp[bf]at p;obtain⟨z,x,y⟩:=data g i s p;exact⟨z,x,y,by simp⟩
 ·rename_i e _ l g;split at h<;>simp at h;rename_i i;obtain⟨rfl,rfl⟩:=h;obtain⟨G,q,s,_⟩:=r;simp at q;subst q;simp[bf]at p;obtain⟨z,x,y⟩:=data g i s p;exact⟨z,x,y,by simp⟩
 ·rename_i e g;split at h<;>simp at h;rename_i i;obtain⟨rfl,rfl⟩:=h;simp[bf]at r p;subst r p;exact⟨_,sl g i,by simp,by simp⟩
 ·simp at h
theorem uI(hh:dn F ρ w h){f:BinOp}{t:TypeId}{ex ey:Operand}{x y:V}{v u:Value}(C:aS w (Av F ρ h) ρ x v)(D:aS w (Av F ρ h) ρ y u):
 dh P F ρ w h N W (do eqGuard f t ex ey v u;binOp f t v u) (qz P f t x y):=by
 unfold qz;split
 ·rename_i p q;have n:=aH.1 C;have A:=aH.1 D;split
  ·rename_i r s H J;split
   case h_2=>exact .stuck
   rename_i z b;refine .needs λg=>?_;have K:=lX H n;have L:=lX J A;subst K;subst L;obtain⟨c,i,j⟩:=wg (w:=w) (ρ:=ρ) (ex:=ex) (ey:=ey) b g (Av F ρ h);exact .pure hh i j
  ·split
   ·rename_i g;obtain⟨z,B,_,M⟩:=oU (ex:=ex) (ey:=ey) g n A;obtain rfl:=M rfl;exact .pure hh B (aH.2 rfl)
   ·rename_i m g;obtain⟨z,B,O,_⟩:=oU (ex:=ex) (ey:=ey) g n A;intro R Q;exact⟨_,w,_,B,Q z O,bJ.pure hh (aH.2 rfl)⟩
   refine .ofOpt λz b=>?_;cases e:oP P f t p q with
   |none=>simp[e]at b
   |some r=>
    simp[e]at b;subst b;obtain⟨c,i,j⟩:=wh (w:=w) (ex:=ex) (ey:=ey) e n A;exact⟨c,w,i,bJ.pure hh j⟩
 ·rename_i l m;refine .ofOpt λz b=>?_;cases e:uy P f t l m with
  |none=>simp[e]at b
  |some r=>
   simp[e]at b;subst b;obtain⟨X,S,E⟩:=C;obtain⟨Y,U,G⟩:=D;simp at E G;subst E;subst G;obtain⟨c,i,j⟩:=uz (w:=w) (ex:=ex) (ey:=ey) e S U;exact⟨c,w,i,bJ.pure hh j⟩
 ·exact .stuck
theorem wA{y:Operand→V}(hh:dn F ρ w h)(v:∀k b,get k=some b→h k=some b)(j:∀x,aS w (Av F ρ h) ρ (y x) (a.eval x))(A:ρ N= .un)(B:0<W):
 OW P F ρ w h N W o a (kp P o y get N):=by
 unfold kp;split
 case h_1 x g=>
  intro K Q E;unfold Oper.wp;simp only[execOp,g,bt];exact E _ _ (oT hh A B (j x))
 case h_2 x g=>
  intro K Q E;unfold Oper.wp;simp only[execOp,g,bt];exact E _ _ (oT hh A B (j x))
 case h_3 c x z g=>
  split
  case h_3=>exact OW.stuck
  ·rename_i t E;have G:=aL E (j c);simp[bf,Sc.val]at G;intro K Q J;unfold Oper.wp;simp only[execOp,g,G,asBool,bE,bt,aW];refine J _ _ (bJ.pure hh ?_);cases t
   ·exact j z
   ·exact j x
  ·rename_i t E;have G:=aL E (j c);simp[bf,Rd]at G;intro K Q J;unfold Oper.wp;simp only[execOp,g,G,asBool,bE,bt,aW];cases t
   ·exact J.2 rfl _ _ (bJ.pure hh (j z))
   ·exact J.1 rfl _ _ (bJ.pure hh (j x))
 case h_4 t g=>exact .of (by simp only[execOp,g]) (uj hh A B)
 case h_5 t x g=>exact .of (s:=Instr.box t (a.eval x)) (by simp only[execOp,g]) (yv hh A B (j x))
 case h_6 t parts g=>
  have:=ux (N:=N) (W:=W) (P:=P) (t:=t) hh (qC j parts.toList);refine .of (s:=Instr.build t (parts.map λ(i,x)=>(i,a.eval x))) (by simp only[execOp,g]) ?_;have e:parts.map (λ(i,x)=>(i,a.eval x))=(parts.toList.map λp=>(p.1,a.eval p.2)).toArray:=by apply Array.ext';simp
  rw[e];exact this
 case h_7 t len parts g=>
  have:=mj (N:=N) (W:=W) (P:=P) (t:=t) (len:=len) hh v A B (qC j parts.toList);refine .of (s:=Instr.buildSlice t len (parts.map λ(i,x)=>(i,a.eval x))) (by simp only[execOp,g]) ?_;have e:parts.map (λ(i,x)=>(i,a.eval x))=(parts.toList.map λp=>(p.1,a.eval p.2)).toArray:=by apply Array.ext';simp
  rw[e];exact this
 case h_8 t x g=>exact .of (by simp only[execOp,g]) (we hh v (j x))
 case h_9 t x z g=>exact .ofU (by simp only[execOp,g]) λq M=>ss hh v (j x) (j z) M
 case h_10 x g=>exact yJ g hh (j x)
 case h_11 O t x z _ g=>exact .of (s:=do eqGuard O t x z (a.eval x) (a.eval z);binOp O t (a.eval x) (a.eval z)) (by simp only[execOp,g]) (uI hh (j x) (j z))
 case h_12 O t x g=>exact .of (by simp only[execOp,g]) (Ck hh (j x))
 case h_13 X Y x g=>exact .of (by simp only[execOp,g]) (qp hh v (j x))
 case h_14 t x g=>exact .of (by simp only[execOp,g]) (nY hh (j x))
 case h_15 f first cap g=>exact .of (s:=Instr.makeFunc f (first.map a.eval) (cap.map a.eval)) (by simp only[execOp,g]) (pp hh (by simpa using jq j first.toList) (by simpa using jq j cap.toList))
 case h_16 t g=>exact .of (by simp only[execOp,g,Option.map_none]) (qw hh A B)
 case h_17 t l c g=>exact .of (by simp only[execOp,g]) (wm hh A B (j l) (j c))
 case h_18 t x lo hi mx g=>exact .of (by simp only[execOp,g]) (uv hh v A B (j x) (qD j lo) (qD j hi) (qD j mx))
 case h_19 t x f g=>exact .of (by simp only[execOp,g]) (nQ hh (j x))
 case h_20 t x f g=>exact .of (by simp only[execOp,g]) (um hh (j x))
 case h_21 t x i g=>exact .of (by simp only[execOp,g]) (nP hh v (j x) (j i))
 case h_22 t x i g=>exact .of (by simp only[execOp,g]) (uo hh (j x) (j i))
 case h_23 t x i ok g=>exact .of (by simp only[execOp,g]) (sq hh v (j x) (j i))
 case h_24 t m k x g=>exact .ofU (by simp only[execOp,g]) λq M=>iR hh v (j m) (j k) (j x) M
 case h_25 t m k x g=>exact .ofU (by simp only[execOp,g]) λq M=>iR hh v (j m) (j k) (j x) M
 case h_26 t x g=>exact .of (by simp only[execOp,g]) (uC hh v A B (j x))
 case h_27 x H g=>exact .of (s:=Instr.next (a.eval x) H o.type) (by simp only[execOp,g]) (wx hh v (j x))
 case h_28 x g=>exact .of (by simp only[execOp,g]) (uE hh v (j x))
 case h_29 x i g=>exact .of (by simp only[execOp,g]) (qh hh (j x))
 case h_30 c g=>
  obtain⟨callee,args,R⟩:=c;simp only;split
  case h_2=>exact OW.stuck
  rename_i b;obtain⟨args⟩:=args;obtain⟨R⟩:=R
  have L:∀(S:Builtin)(s:Sem Value)(t:Tr (V×dH)),b=S→(∀C,builtin S R.toArray o.type C (args.map a.eval).toArray=do pure (.value (←s)))→dh P F ρ w h N W s t→OW P F ρ w h N W o a t:=by
   intro S s t G J hr;subst G;refine .of (s:=s) ?_ hr;simp only[execOp,g,resolve,invoke,pure_bind,List.map_toArray];exact J _
  simp only[qB];split
  ·rename_i t x n
   have D:∃r,args=[r]∧y r=x:=by
    match args,n with
    |[r],e=>simp at e;exact⟨r,rfl,e⟩
   obtain⟨r,rfl,rfl⟩:=D;exact L .len _ _ rfl (λ_=>rfl) (yz hh v (j r))
  ·rename_i x z n
   have D:∃r u,args=[r,u]∧y r=x∧y u=z:=by
    match args,n with
    |[r,u],e=>simp at e;exact⟨r,u,rfl,e.1,e.2⟩
   obtain⟨r,u,rfl,rfl,rfl⟩:=D;exact L .max _ _ rfl (λ_=>rfl) (yA hh (j r) (j u))
  ·rename_i x z n
   have D:∃r u,args=[r,u]∧y r=x∧y u=z:=by
    match args,n with
    |[r,u],e=>simp at e;exact⟨r,u,rfl,e.1,e.2⟩
   obtain⟨r,u,rfl,rfl,rfl⟩:=D;exact L .min _ _ rfl (λ_=>rfl) (yB hh (j r) (j u))
  ·rename_i t t' x z n
   have D:∃r u,args=[r,u]∧y r=x∧y u=z:=by
    match args,n with
    |[r,u],e=>simp at e;exact⟨r,u,rfl,e.1,e.2⟩
   obtain⟨r,u,rfl,rfl,rfl⟩:=D;split
   case isFalse=>exact L .append _ _ rfl (λ_=>rfl) (qn hh v A B (j r) (j u))
   rename_i U;subst U;exact L .append _ _ rfl (λ_=>rfl) (sk hh v A B (j r) (j u))
  ·rename_i t t' x z n
   have D:∃r u,args=[r,u]∧y r=x∧y u=z:=by
    match args,n with
    |[r,u],e=>simp at e;exact⟨r,u,rfl,e.1,e.2⟩
   obtain⟨r,u,rfl,rfl,rfl⟩:=D;exact L .copy _ _ rfl (λ_=>rfl) (wi hh v (j r) (j u))
  ·exact OW.stuck
 case h_31=>exact OW.stuck
end
end
inductive IP where
 |d (t:Ty)
 |pv (t:Ty)
 |cut (e:Ty)
 |k (s:Sc)
 |ptr (j off:Nat)
 |own (j:Nat)
 |mp (j:Nat)
 |ifc (t:TypeId) (j off:Nat)
 |fn (f:FuncId) (first cap:List (Nat×Nat))
 |nils
 |nilp
 |nilm
 |nili
 |nilf
@[reducible]def IP.val:IP→Type
  | .d t=>t.den
  | .pv t=>t.den
  | .cut e=>List e.den
  |_=>Unit
@[reducible]def IP.denK:IP→Type→Type
  | .d t,R=>t.den×R
  | .pv t,R=>t.den×R
  | .cut e,R=>List e.den×R
  |_,R=>R
def IP.put{R:Type}:(p:IP)→p.val→R→p.denK R
 | .d _,v,x=>(v,x)
 | .pv _,v,x=>(v,x)
 | .cut _,v,x=>(v,x)
 | .k _,_,x=>x
 | .ptr ..,_,x=>x
 | .own _,_,x=>x
 | .mp _,_,x=>x
 | .ifc ..,_,x=>x
 | .fn ..,_,x=>x
 | .nils,_,x=>x
 | .nilp,_,x=>x
 | .nilm,_,x=>x
 | .nili,_,x=>x
 | .nilf,_,x=>x
def IP.get{R:Type}:(p:IP)→p.denK R→p.val×R
 | .d _,x=>x
 | .pv _,x=>x
 | .cut _,x=>x
 | .k _,x=>((),x)
 | .ptr ..,x=>((),x)
 | .own _,x=>((),x)
 | .mp _,x=>((),x)
 | .ifc ..,x=>((),x)
 | .fn ..,x=>((),x)
 | .nils,x=>((),x)
 | .nilp,x=>((),x)
 | .nilm,x=>((),x)
 | .nili,x=>((),x)
 | .nilf,x=>((),x)
theorem IP.get_put{R:Type}{p:IP}{v:p.val}{x:R}:p.get (p.put v x)=(v,x):=by cases p<;>rfl
def EB(r:Nat→Nat)(l:List (Nat×Nat)):List (Nat×Nat):=l.map λp=>(r p.1,p.2)
def IP.inst(r:Nat→Nat):(p:IP)→p.val→List I
 | .d t,v=>iF t v
 | .pv t,v=>[.pv t v]
 | .cut e,v=>[.cut e v]
 | .k s,_=>[.k s]
 | .ptr j c,_=>[.ptr (r j) c]
 | .own j,_=>[.own (r j)]
 | .mp j,_=>[.mp (r j)]
 | .ifc t j c,_=>[.ifc t (r j) c]
 | .fn f a b,_=>[.fn f (EB r a) (EB r b)]
 | .nils,_=>[.nils]
 | .nilp,_=>[.nilp]
 | .nilm,_=>[.nilm]
 | .nili,_=>[.nili]
 | .nilf,_=>[.nilf]
@[reducible]def LP.val:List IP→Type
  |[]=>Unit
  |p::l=>p.val×LP.val l
@[reducible]def LP.denK:List IP→Type→Type
  |[],R=>R
  |p::l,R=>p.denK (LP.denK l R)
def LP.put{R:Type}:(l:List IP)→LP.val l→R→LP.denK l R
 |[],_,x=>x
 |p::l,v,x=>p.put v.1 (LP.put l v.2 x)
def LP.get{R:Type}:(l:List IP)→LP.denK l R→LP.val l×R
 |[],x=>((),x)
 |p::l,x=>let q:=p.get x;let s:=LP.get l q.2;((q.1,s.1),s.2)
theorem LP.get_put{R:Type}:∀{l:List IP}{v:LP.val l}{x:R},LP.get l (LP.put l v x)=(v,x)
 |[],_,_=>rfl
 |p::l,v,x=>by simp only[LP.get,LP.put,IP.get_put,LP.get_put (l:=l)]
def LP.inst(r:Nat→Nat):(l:List IP)→LP.val l→List I
 |[],_=>[]
 |p::l,v=>p.inst r v.1++LP.inst r l v.2
inductive CP where
 |cells (l:List IP)
 |sl (e:Ty)
 |mp (kt vt:Ty)
 |lk (kt vt:Ty)
 |sit
 |mit (m:Nat) (kt vt:Ty)
 |nit
 |fit (kt vt:Ty)
@[reducible]def CP.val:CP→Type
  | .cells l=>LP.val l
  | .sl e=>List e.den
  | .mp a b=>List (a.den×b.den)
  | .lk a b=>List (a.den×b.den)
  | .sit=>List (BitVec 8)×Nat
  | .mit _ a b=>List (a.den×b.den)×Option (a.den×b.den)
  | .nit=>Unit
  | .fit a b=>List (a.den×b.den)×Option (a.den×b.den)
@[reducible]def CP.denK:CP→Type→Type
  | .cells l,R=>LP.denK l R
  | .sl e,R=>List e.den×R
  | .mp a b,R=>List (a.den×b.den)×R
  | .lk a b,R=>List (a.den×b.den)×R
  | .sit,R=>List (BitVec 8)×Nat×R
  | .mit _ a b,R=>List (a.den×b.den)×Option (a.den×b.den)×R
  | .nit,R=>R
  | .fit a b,R=>List (a.den×b.den)×Option (a.den×b.den)×R
def CP.put{R:Type}:(c:CP)→c.val→R→c.denK R
 | .cells l,v,x=>LP.put l v x
 | .sl _,v,x=>(v,x)
 | .mp ..,v,x=>(v,x)
 | .lk ..,v,x=>(v,x)
 | .sit,v,x=>(v.1,v.2,x)
 | .mit ..,v,x=>(v.1,v.2,x)
 | .nit,_,x=>x
 | .fit ..,v,x=>(v.1,v.2,x)
def CP.get{R:Type}:(c:CP)→c.denK R→c.val×R
 | .cells l,x=>LP.get l x
 | .sl _,x=>x
 | .mp ..,x=>x
 | .lk ..,x=>x
 | .sit,x=>((x.1,x.2.1),x.2.2)
 | .mit ..,x=>((x.1,x.2.1),x.2.2)
 | .nit,x=>((),x)
 | .fit ..,x=>((x.1,x.2.1),x.2.2)
theorem CP.get_put{R:Type}{c:CP}{v:c.val}{x:R}:c.get (c.put v x)=(v,x):=by
 cases c
 case cells l=>exact LP.get_put
 all_goals rfl
def CP.inst(r:Nat→Nat):(c:CP)→c.val→Ch
 | .cells l,v=> .cells (LP.inst r l v)
 | .sl e,v=> .sl e v
 | .mp a b,v=> .mp a b v
 | .lk a b,v=> .lk a b v
 | .sit,v=> .sit v.1 v.2
 | .mit m a b,v=> .mit (r m) a b v.1 v.2
 | .nit,_=> .nit
 | .fit a b,v=> .fit a b v.1 v.2
@[reducible]def HP.val:List (Option CP)→Type
  |[]=>Unit
  |some c::l=>c.val×HP.val l
  |none::l=>HP.val l
@[reducible]def HP.denK:List (Option CP)→Type→Type
  |[],R=>R
  |some c::l,R=>c.denK (HP.denK l R)
  |none::l,R=>HP.denK l R
def HP.put{R:Type}:(l:List (Option CP))→HP.val l→R→HP.denK l R
 |[],_,x=>x
 |some c::l,v,x=>c.put v.1 (HP.put l v.2 x)
 |none::l,v,x=>HP.put l v x
def HP.get{R:Type}:(l:List (Option CP))→HP.denK l R→HP.val l×R
 |[],x=>((),x)
 |some c::l,x=>let q:=c.get x;let s:=HP.get l q.2;((q.1,s.1),s.2)
 |none::l,x=>HP.get l x
theorem HP.get_put{R:Type}:∀{l:List (Option CP)}{v:HP.val l}{x:R},HP.get l (HP.put l v x)=(v,x)
 |[],_,_=>rfl
 |some c::l,v,x=>by simp only[HP.get,HP.put,CP.get_put,HP.get_put (l:=l)]
 |none::l,v,x=>by simp only[HP.get,HP.put,HP.get_put (l:=l)]
abbrev eX:=List (Nat×Ch)
def HP.inst(r:Nat→Nat):Nat→(l:List (Option CP))→HP.val l→eX
 |_,[],_=>[]
 |n,some c::l,v=>(r n,c.inst r v.1)::HP.inst r (n+1) l v.2
 |n,none::l,v=>HP.inst r (n+1) l v
abbrev kq:=List (Nat×Bool×List IP)
@[reducible]def SP.val:kq→Type
  |[]=>Unit
  |p::l=>LP.val p.2.2×SP.val l
@[reducible]def SP.denK:kq→Type→Type
  |[],R=>R
  |p::l,R=>LP.denK p.2.2 (SP.denK l R)
def SP.put{R:Type}:(l:kq)→SP.val l→R→SP.denK l R
 |[],_,x=>x
 |p::l,v,x=>LP.put p.2.2 v.1 (SP.put l v.2 x)
def SP.get{R:Type}:(l:kq)→SP.denK l R→SP.val l×R
 |[],x=>((),x)
 |p::l,x=>let q:=LP.get p.2.2 x;let s:=SP.get l q.2;((q.1,s.1),s.2)
theorem SP.get_put{R:Type}:∀{l:kq}{v:SP.val l}{x:R},SP.get l (SP.put l v x)=(v,x)
 |[],_,_=>rfl
 |p::l,v,x=>by simp only[SP.get,SP.put,LP.get_put,SP.get_put (l:=l)]
def SP.inst(r:Nat→Nat):(l:kq)→SP.val l→List V→List V
 |[],_,s=>s
 |p::l,v,s=>SP.inst r l v.2 (s.set p.1 (.val p.2.1 (LP.inst r p.2.2 v.1)))
structure cc where
 sl:kq
 hp:List (Option CP)
@[reducible]def cc.val(p:cc):Type:=SP.val p.sl×HP.val p.hp
@[reducible]def cc.den(p:cc):Type:=SP.denK p.sl (HP.denK p.hp Unit)
def cc.put(p:cc)(v:p.val):p.den:=SP.put p.sl v.1 (HP.put p.hp v.2 ())
def cc.get(p:cc)(x:p.den):p.val:=let q:=SP.get p.sl x;(q.1,(HP.get p.hp q.2).1)
theorem cc.get_put{p:cc}{v:p.val}:p.get (p.put v)=v:=by simp only[cc.get,cc.put,SP.get_put,HP.get_put]
structure Mt where
 th:List (Nat×Option Nat)
 fz:List Nat
def aV{β:Type}:List (Nat×β)→Nat→Option β
 |[],_=>none
 |p::r,j=>if p.1=j then some p.2 else aV r j
def Mt.bind(m:Mt)(j:Nat)(k:Option Nat):Option Mt:=
 match aV m.th j with
 |some a=>if a=k then some m else none
 |none=>if k.isSome&&m.th.any (λp=>p.2==k)then none else some ⟨(j,k)::m.th,m.fz⟩
def Mt.binds(m:Mt):List (Nat×Nat)→List (Nat×Nat)→Option Mt
 |[],[]=>some m
 |p::l,q::r=>if p.2=q.2 then match m.bind p.1 (some q.1)with
   |some a=>Mt.binds a l r
   |none=>none
  else none
 |_,_=>none
def I.asG(c:Nat→Option Ch)(t:Ty):I→Option (t.den×List Nat)
 | .own q=>match c q,t with
   |some (.sl e l), .sl f=>match Ty.cast (.sl e) (.sl f) l with
    |some x=>some (x,[q])
    |none=>none
   |some (.fr e l), .sl f=>match Ty.cast (.sl e) (.sl f) l with
    |some x=>some (x,[])
    |none=>none
   |_,_=>none
 | .mp q=>match c q,t with
   |some (.mp a b l), .fm g h=>match Ty.cast (.fm a b) (.fm g h) l with
    |some x=>some (x,[q])
    |none=>none
   |some (.fm a b l), .fm g h=>match Ty.cast (.fm a b) (.fm g h) l with
    |some x=>some (x,[])
    |none=>none
   |_,_=>none
 |i=>match i.asD t with
  |some x=>some (x,[])
  |none=>none
def wB{α:Type}(x:Option (α×List Nat))(l:List I):Option (α×List I×List Nat):=match x with
 |some y=>some (y.1,l,y.2)
 |none=>none
def wC{α:Type}(f:List I→Option (α×List I×List Nat)):Nat→List I→Option (List α×List I×List Nat)
 |0,l=>some ([],l,[])
 |n+1,l=>match f l with
  |some (x,b,z)=>match wC f n b with
   |some (y,a,c)=>some (x::y,a,z++c)
   |none=>none
  |none=>none
def Wj:List I→Bool
 | .d (.ar ..) _::_=>true
 |_=>false
def iS(b:Nat→Option Ch):(t:Ty)→List I→Option (t.den×List I×List Nat)
 | .un,l=>some ((),l,[])
 | .pr a r,l=>match iS b a l with
   |some (x,f,z)=>match iS b r f with
    |some (y,c,g)=>some ((x,y),c,z++g)
    |none=>none
   |none=>none
 | .ar n e,l=>if Wj l then(match l with
  |i::l=>wB (i.asG b (.ar n e)) l
  |[]=>none)else wC (iS b e) n l
 | .pf t,i::l=>match i with
   | .ptr k 0=>match b k with
     |some (.cells m)=>match iS b t m with
      |some (x,[],z)=>some (x,l,k::z)
      |_=>none
     |some (.fc m)=>match iS b t m with
      |some (x,[],z)=>some (x,l,z)
      |_=>none
     |_=>none
   |i=>wB (i.asG b (.pf t)) l
 |t,i::l=>wB (i.asG b t) l
 |_,[]=>none
deriving instance DecidableEq for Sc
def IP.mt(i:Nat→Option Ch):(p:IP)→List I→Mt→Option (p.val×List I×Mt)
 | .d t,l,m=>match iS i t l with
   |some (x,r,z)=>some (x,r,⟨m.th,z++m.fz⟩)
   |none=>none
 | .pv t, .pv n x::l,m=>match Ty.cast n t x with
   |some y=>some (y,l,m)
   |none=>none
 | .cut e, .cut u x::l,m=>match Ty.cast (.sl u) (.sl e) x with
   |some y=>some (y,l,m)
   |none=>none
 | .k s, .k v::l,m=>if s=v then some ((),l,m)else none
 | .ptr j h, .ptr q c::l,m=>if h=c then(m.bind j (some q)).map λg=>((),l,g)else none
 | .own j, .own q::l,m=>(m.bind j (some q)).map λg=>((),l,g)
 | .own j, .nils::l,m=>(m.bind j none).map λg=>((),l,g)
 | .mp j, .mp q::l,m=>(m.bind j (some q)).map λg=>((),l,g)
 | .ifc t j h, .ifc n q c::l,m=>if t=n∧h=c then(m.bind j (some q)).map λg=>((),l,g)else none
 | .fn f a b, .fn w A B::l,m=>if f=w then match m.binds a A with
  |some g=>(g.binds b B).map λo=>((),l,o)
  |none=>none
   else none
 | .nils, .nils::l,m=>some ((),l,m)
 | .nilp, .nilp::l,m=>some ((),l,m)
 | .nilm, .nilm::l,m=>some ((),l,m)
 | .nili, .nili::l,m=>some ((),l,m)
 | .nilf, .nilf::l,m=>some ((),l,m)
 |_,_,_=>none
def LP.mt(a:Nat→Option Ch):(l:List IP)→List I→Mt→Option (LP.val l×Mt)
 |[],[],m=>some ((),m)
 |[],_::_,_=>none
 |p::l,c,m=>match p.mt a c m with
  |some (v,r,e)=>match LP.mt a l r e with
   |some (f,b)=>some ((v,f),b)
   |none=>none
  |none=>none
def SP.mt(a:Nat→Option Ch)(slots:List V):(l:kq)→Mt→Option (SP.val l×Mt)
 |[],m=>some ((),m)
 |p::l,m=>match slots[p.1]? with
  |some (.val g c)=>if g=p.2.1 then match LP.mt a p.2.2 c m with
   |some (v,e)=>match SP.mt a slots l e with
    |some (f,b)=>some ((v,f),b)
    |none=>none
   |none=>none
   else none
  |_=>none
def iG(kt c a b:Ty)(l:List (kt.den×c.den)):Option (List (a.den×b.den)):=match Ty.deq kt a,Ty.deq c b with
 |some h,some g=>some (h.down▸g.down▸l)
 |_,_=>none
def CP.mt(n:Nat→Option Ch):(c:CP)→Option Ch→Mt→Option (c.val×Mt)
 | .cells l,some (.cells p),m=>LP.mt n l p m
 | .sl e,some (.sl q l),m=>(Ty.cast (.sl q) (.sl e) l).map (·,m)
 | .mp h i,some (.mp a b l),m=>(iG a b h i l).map (·,m)
 | .lk h i,some (.lk a b l),m=>(iG a b h i l).map (·,m)
 | .sit,some (.sit s o),m=>some ((s,o),m)
 | .mit j h i,some (.mit k a b f g),m=>match m.bind j (some k),iG a b h i f,iG a b h i g.toList with
   |some t,some r,some l=>some ((r,l.head?),t)
   |_,_,_=>none
 | .nit,some .nit,m=>some ((),m)
 | .fit h i,some (.fit a b f g),m=>match iG a b h i f,iG a b h i g.toList with
   |some r,some l=>some ((r,l.head?),m)
   |_,_=>none
 |_,_,_=>none
def CP.mtO(a:Nat→Option Ch):(c:CP)→Option Nat→Mt→Option (c.val×Mt)
 |c,some k,m=>c.mt a (a k) m
 | .sl _,none,m=>some ([],m)
 |_,none,_=>none
def HP.mt(a:Nat→Option Ch):Nat→(l:List (Option CP))→Mt→Option (HP.val l×Mt)
 |_,[],m=>some ((),m)
 |n,none::l,m=>HP.mt a (n+1) l m
 |n,some c::l,m=>match aV m.th n with
  |some k=>match c.mtO a k m with
   |some (v,e)=>match HP.mt a (n+1) l e with
    |some (f,b)=>some ((v,f),b)
    |none=>none
   |none=>none
  |none=>none
end Go.Hv
