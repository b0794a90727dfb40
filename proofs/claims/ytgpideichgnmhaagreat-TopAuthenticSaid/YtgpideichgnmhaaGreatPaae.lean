/- A part of the proof of TopAuthenticSaid: no conditions; packed by a program of our own. -/
import Derived.Test.YtgpideichgnmhaaGreatPaad
import Derived.Calls
import Derived.Still
import Derived.Lib.BytesEntry
open Array renaming getElem?_eq_some_iff→dX
open Bool renaming and_eq_true→aF,false_eq_true→cf,or_eq_true→ig,true_and→fL,not_eq_true'→aO
open Go.Region renaming ready→rX
open Go.Result renaming andThen_ok→aW
open Go.Sem renaming run_pure→bt,run_bind→bE
open List renaming map_cons→aX,replicate→ak,append_assoc→ay,drop_of_length_le→bw,nil_append→eG,take_of_length_le→ba,append_nil→bj,mem_cons→br,getElem?_eq_getElem→ap,getD→bv,length_map→bT,mem_map→dY,map→rU,mem_cons_self→aM,mem_cons_of_mem→aE,all_eq_true→cM,getElem?_eq_some_iff→dd,getElem_mem→rW,mem_append_left→cG
open Nat renaming lt_of_lt_of_le→bq,add_comm→fj,le_refl→aC,zero_add→bK,add_assoc→eA,lt_or_ge→bN
open Ne renaming symm→lx
open Option renaming map_eq_some_iff→lJ,isSome_iff_exists→cE,getD_some→cZ
namespace Go.Hv
open Go.RowKit
section
section
variable{F:Nat→Prop}{ρ:Nat→Pl}{w:World}{h get:Nat→Option Ch}
theorem I.asG_ok(hh:dn F ρ w h)(A:∀k b,get k=some b→h k=some b){t:Ty}{i:I}{x:t.den}{vs:List Value}(f:i.asG get t=some (x,[]))(q:bf w (Av F ρ h) ρ i vs):Rd w (Av F ρ h) t x vs:=by
 cases i
 case own k=>
  cases t<;>cases j:get k<;>simp only[I.asG,j]at f<;>first|(simp at f;done)|skip
  rename_i E r;cases r<;>simp only at f<;>first|(simp at f;done)|skip
  ·split at f<;>simp at f
  ·rename_i e l;split at f
   case h_2=>simp at f
   rename_i y m;simp at f;subst f;obtain⟨o,p⟩:=Ty.cast_ok m;simp at o;subst o;simp at p;subst p;obtain⟨v,g,s⟩:=hh.ok k _ (A k _ j);obtain⟨a,n,c,u,z⟩:=q;rw[u]at g;simp at g;subst g;exact⟨_,z,s⟩
 case mp k=>
  cases t<;>cases j:get k<;>simp only[I.asG,j]at f<;>first|(simp at f;done)|skip
  rename_i G H r;cases r<;>simp only at f<;>first|(simp at f;done)|skip
  ·split at f<;>simp at f
  ·rename_i a b l;split at f
   case h_2=>simp at f
   rename_i y m;simp at f;subst f;obtain⟨o,p⟩:=Ty.cast_ok m;simp at o;obtain⟨rfl,rfl⟩:=o;simp at p;subst p;obtain⟨bl,g,s,u,z⟩:=hh.ok k _ (A k _ j);obtain⟨B,C,D⟩:=q;rw[C]at g;simp at g;subst g;exact⟨_,D,s,u,z⟩
 all_goals
  simp only[I.asG]at f;split at f
  case h_2=>simp at f
  rename_i y m;simp at f;subst f;exact I.asD_ok m q
theorem wD{α:Type}{A:Nat→Prop}{f:List I→Option (α×List I×List Nat)}{S:α→List Value→Prop}
 (i:∀l x r vs,f l=some (x,r,[])→aK w A ρ l vs→∃a b,vs=a++b∧S x a∧aK w A ρ r b):
 ∀(n:Nat)(l:List I)(x:List α)(r:List I)(vs:List Value),wC f n l=some (x,r,[])→aK w A ρ l vs→∃a b,vs=a++b∧(x.length=n∧dv S x a)∧aK w A ρ r b
 |0,l,x,r,vs,h,c=>by simp[wC]at h;obtain⟨rfl,rfl⟩:=h;exact⟨[],vs,rfl,⟨rfl,rfl⟩,c⟩
 |n+1,l,x,r,vs,h,c=>by
  simp only[wC]at h;split at h
  case h_2=>simp at h
  rename_i y C z m;split at h
  case h_2=>simp at h
  rename_i D o E g;simp at h;obtain⟨rfl,rfl,rfl,rfl⟩:=h;obtain⟨a,b,e,p,q⟩:=i _ _ _ _ m c;obtain⟨j,s,t,⟨u,v⟩,B⟩:=wD i n _ _ _ _ g q;exact⟨a++j,s,by rw[e,t,ay],⟨by simp[u],a,j,rfl,p,v⟩,B⟩
theorem EC(hh:dn F ρ w h)(O:∀k b,get k=some b→h k=some b):∀{t:Ty}{l r:List I}{x:t.den}{vs:List Value},iS get t l=some (x,r,[])→aK w (Av F ρ h) ρ l vs→∃a b,vs=a++b∧Rd w (Av F ρ h) t x a∧aK w (Av F ρ h) ρ r b:=by
 intro t
 have one:∀{t:Ty}{i:I}{l r:List I}{x:t.den}{vs:List Value},wB (i.asG get t) l=some (x,r,[])→aK w (Av F ρ h) ρ (i::l) vs→∃a b,vs=a++b∧Rd w (Av F ρ h) t x a∧aK w (Av F ρ h) ρ r b:=by
  intro t i l r x vs f ⟨a,b,e,B,C⟩;unfold wB at f;split at f
  case h_2=>simp at f
  rename_i y o;obtain⟨y1,y2⟩:=y;simp at f;obtain⟨rfl,rfl,rfl⟩:=f;exact⟨a,b,e,I.asG_ok hh O o B,C⟩
 induction t with
 |un=>intro l r x vs f g;simp[iS]at f;subst f;exact⟨[],vs,rfl,rfl,g⟩
 |pr a q D E=>
  intro l r x vs f g;simp only[iS]at f;split at f
  case h_2=>simp at f
  rename_i y l' z o;split at f
  case h_2=>simp at f
  rename_i y' Q z' G;simp at f;obtain⟨rfl,rfl,rfl,rfl⟩:=f;obtain⟨c,d,H,p,s⟩:=D o g;obtain⟨P,R,v,J,K⟩:=E G s;exact⟨c++P,R,by rw[H,v,ay],⟨c,P,rfl,p,J⟩,K⟩
 |ar n e L=>
  intro l r x vs f g;simp only[iS]at f;split at f
  ·split at f
   ·exact one f g
   ·simp at f
  ·obtain⟨a,b,H,p,s⟩:=wD (λ_ _ _ _ M N=>L M N) n _ _ _ _ f g;exact⟨a,b,H,p,s⟩
 |pf t L=>
  intro l r x vs f g;cases l with
  |nil=>simp[iS]at f
  |cons i l=>
   simp only[iS]at f;split at f
   case h_2=>exact one f g
   rename_i k;split at f
   case h_3=>simp at f
   ·split at f<;>simp at f
   ·rename_i m S;split at f
    case h_2=>simp at f
    rename_i y z o;simp at f;obtain⟨rfl,rfl,rfl⟩:=f;obtain⟨a,b,e,B,C⟩:=g;obtain⟨bl,us,p,s,J,K,U⟩:=hh.ok k _ (O k _ S);obtain⟨c,d,v,M,N⟩:=L o K;have W:d=[]:=N;rw[W,bj]at v;obtain⟨u,⟨X,A,Y⟩,g3⟩:=B;simp only at A;rw[p]at A;simp at A;subst A;exact⟨a,b,e,⟨bl,0,c,by rw[g3,Y],s,J,M,λj w hj=>by rw[bK];exact U j w (by rw[v];exact hj)⟩,C⟩
 |_=>
  intro l r x vs f g;cases l with
  |nil=>simp[iS]at f
  |cons i l=>exact one f g
end
structure jH(m m':Mt):Prop where
 th:∀j k,aV m.th j=some k→aV m'.th j=some k
 fz:m'.fz=[]→m.fz=[]
theorem jH.refl(m:Mt):jH m m:=⟨λ_ _ a=>a,id⟩
theorem jH.trans{a b c:Mt}(h:jH a b)(h':jH b c):jH a c:=⟨λj k q=>h'.th j k (h.th j k q),λq=>h.fz (h'.fz q)⟩
def Mt.Inj(m:Mt):Prop:=∀j a k,aV m.th j=some (some k)→aV m.th a=some (some k)→j=a
theorem gL{β:Type}:∀{l:List (Nat×β)}{j:Nat}{k:β},aV l j=some k→(j,k)∈l
 |[],_,_,h=>by simp[aV]at h
 |p::r,j,k,h=>by
  simp only[aV]at h;split at h
  ·rename_i e;simp at h;subst e;subst h;simp
  ·exact aE _ (gL h)
theorem Mt.bind_ok{m g:Mt}{j:Nat}{k:Option Nat}(h:m.bind j k=some g)(hi:m.Inj):jH m g∧aV g.th j=some k∧g.Inj:=by
 unfold Mt.bind at h;split at h
 ·rename_i t l;split at h<;>simp at h;rename_i e;subst e;subst h;exact⟨jH.refl _,l,hi⟩
 ·rename_i o;split at h<;>simp at h;rename_i p;subst h;refine⟨⟨λi q f=>?_,id⟩,by simp[aV],λi n q b c=>?_⟩
  ·simp only[aV];split
   ·rename_i e;rw[←e,o]at f;simp at f
   ·exact f
  ·have a:∀i,aV m.th i=some (some q)→k=some q→False:=by
    intro i f l;subst l;apply p;simp only[Option.isSome_some,fL,List.any_eq_true,aQ];exact⟨_,gL f,rfl⟩
   simp only[aV]at b c;split at b<;>split at c
   ·rename_i r s;exact r.symm.trans s
   ·simp at b;exact(a n c b).elim
   ·simp at c;exact(a i b c).elim
   ·exact hi i n q b c
theorem Mt.binds_ok:∀{l r:List (Nat×Nat)}{m a:Mt},m.binds l r=some a→m.Inj→jH m a∧a.Inj∧F2 (λp q=>p.2=q.2∧aV a.th p.1=some (some q.1)) l r
 |[],[],m,a,h,b=>by simp[Mt.binds]at h;subst h;exact⟨jH.refl _,b,trivial⟩
 |[],_::_,_,_,h,_=>by simp[Mt.binds]at h
 |_::_,[],_,_,h,_=>by simp[Mt.binds]at h
 |p::l,q::r,m,a,h,b=>by
  simp only[Mt.binds]at h;split at h
  case isFalse=>simp at h
  rename_i e;split at h
  case h_2=>simp at h
  rename_i s f;obtain⟨g,i,j⟩:=Mt.bind_ok f b;obtain⟨c,n,o⟩:=Mt.binds_ok h j;exact⟨g.trans c,n,⟨e,c.th _ _ i⟩,o⟩
def jI(m:Mt)(ρ ρ':Nat→Pl):Prop:=∀j,match aV m.th j with
 |some (some k)=>ρ' j=ρ k
 |some none=>ρ' j= .sv (.slice none 0 0)
 |none=>True
theorem jI.some{m:Mt}{ρ ρ':Nat→Pl}(h:jI m ρ ρ'){j k:Nat}(e:aV m.th j=some (some k)):ρ' j=ρ k:=by have:=h j;rw[e]at this;exact this
theorem jI.none{m:Mt}{ρ ρ':Nat→Pl}(h:jI m ρ ρ'){j:Nat}(e:aV m.th j=Option.some Option.none):ρ' j= .sv (.slice Option.none 0 0):=by have:=h j;rw[e]at this;exact this
def gM(k:Nat):Nat:=k
theorem uJ(l:List (Nat×Nat)):EB gM l=l:=by unfold EB;exact List.map_id l
section
variable{F:Nat→Prop}{ρ ρ':Nat→Pl}{w:World}{h get:Nat→Option Ch}{mf:Mt}
theorem mn(a:jI mf ρ ρ'):∀{l r:List (Nat×Nat)}{vs:List Value},F2 (λp q=>p.2=q.2∧aV mf.th p.1=some (some q.1)) l r→F2 (jZ ρ) r vs→F2 (jZ ρ') l vs
 |[],[],[],_,_=>trivial
 |p::_,q::_,v::_,⟨⟨c,e⟩,f⟩,⟨⟨b,g,i⟩,j⟩=>⟨⟨b,by rw[a.some e];exact g,by rw[c];exact i⟩,mn a f j⟩
theorem IP.mt_sub{p:IP}{t r:List I}{m e:Mt}{v:p.val}(c:p.mt get t m=some (v,r,e))(hi:m.Inj):jH m e∧e.Inj:=by
 have i:∀{j:Nat}{k:Option Nat}{l:List I}{e:Mt}{r:List I},((m.bind j k).map λe=>((),l,e))=some ((),r,e)→jH m e∧e.Inj:=by
  intro j k l e r n;cases g:m.bind j k with
  |none=>simp[g]at n
  |some s=>
   simp[g]at n;obtain⟨_,rfl⟩:=n;obtain⟨o,_,u⟩:=Mt.bind_ok g hi;exact⟨o,u⟩
 unfold IP.mt at c;split at c
 ·split at c
  case h_2=>simp at c
  rename_i x r z E;simp at c;obtain⟨_,_,rfl⟩:=c;exact⟨⟨λ_ _ q=>q,λq=>by simp at q;exact q.2⟩,hi⟩
 ·split at c<;>simp at c;obtain⟨_,_,rfl⟩:=c;exact⟨jH.refl _,hi⟩
 ·split at c<;>simp at c;obtain⟨_,_,rfl⟩:=c;exact⟨jH.refl _,hi⟩
 ·split at c<;>simp at c;obtain⟨_,rfl⟩:=c;exact⟨jH.refl _,hi⟩
 ·split at c
  ·exact i c
  ·simp at c
 ·exact i c
 ·exact i c
 ·exact i c
 ·split at c
  ·exact i c
  ·simp at c
 ·split at c
  case isFalse=>simp at c
  split at c
  case h_2=>simp at c
  rename_i s y;rename_i f a b G H A l _ _;cases g:s.binds b A with
  |none=>simp[g]at c
  |some J=>
   simp[g]at c;obtain⟨_,rfl⟩:=c;obtain⟨o,B,_⟩:=Mt.binds_ok y hi;obtain⟨C,D,_⟩:=Mt.binds_ok g B;exact⟨o.trans C,D⟩
 all_goals first
  |(simp at c;obtain⟨_,rfl⟩:=c;exact⟨jH.refl _,hi⟩)
  |(simp at c;done)
theorem IP.mt_ok(hh:dn F ρ w h)(X:∀k b,get k=some b→h k=some b)(G:jI mf ρ ρ')(Y:mf.fz=[]){p:IP}{S r:List I}{m U:Mt}{v:p.val}{vs:List Value}(g:p.mt get S m=some (v,r,U))(hi:m.Inj)(E:jH U mf)(A:aK w (Av F ρ h) ρ S vs):
 ∃a b,vs=a++b∧aK w (Av F ρ h) ρ' (p.inst gM v) a∧aK w (Av F ρ h) ρ r b:=by
 unfold IP.mt at g;split at g
 ·split at g
  case h_2=>simp at g
  rename_i x r' z N;simp at g;obtain⟨rfl,rfl,rfl⟩:=g;have:=E.fz Y;simp at this;obtain⟨rfl,_⟩:=this;obtain⟨a,b,e,q1,q2⟩:=EC hh X N A;exact⟨a,b,e,fB.2 q1,q2⟩
 ·obtain⟨a,b,e,o,s⟩:=A;split at g<;>simp at g;rename_i y O;obtain⟨rfl,rfl,rfl⟩:=g;obtain⟨H,rfl⟩:=Ty.cast_ok O;subst H;exact⟨a,b,e,aK.single o,s⟩
 ·obtain⟨a,b,e,o,s⟩:=A;split at g<;>simp at g;rename_i y O;obtain⟨rfl,rfl,rfl⟩:=g;obtain⟨H,W⟩:=Ty.cast_ok O;simp at H;subst H;simp at W;subst W;exact⟨a,b,e,aK.single o,s⟩
 ·obtain⟨a,b,e,o,s⟩:=A;split at g<;>simp at g;rename_i H;obtain⟨rfl,rfl⟩:=g;subst H;exact⟨a,b,e,aK.single o,s⟩
 ·obtain⟨a,b,e,o,s⟩:=A;split at g
  case isFalse=>simp at g
  rename_i M;rename_i j P q K l;cases i:m.bind j (some q)with
  |none=>simp[i]at g
  |some J=>
   simp[i]at g;obtain⟨rfl,rfl⟩:=g;obtain⟨_,B,_⟩:=Mt.bind_ok i hi;have:=G.some (E.th _ _ B);obtain⟨u,⟨bl,C,D⟩,L⟩:=o;exact⟨a,b,e,aK.single (⟨u,⟨bl,by simp only[gM];rw[this];exact C,by rw[M];exact D⟩,L⟩),s⟩
 ·obtain⟨a,b,e,o,s⟩:=A;rename_i j q l;cases i:m.bind j (some q)with
  |none=>simp[i]at g
  |some J=>
   simp[i]at g;obtain⟨rfl,rfl⟩:=g;obtain⟨_,B,_⟩:=Mt.bind_ok i hi;have:=G.some (E.th _ _ B);obtain⟨ad,n,c,C,D⟩:=o;exact⟨a,b,e,aK.single (⟨ad,n,c,by simp only[gM];rw[this];exact C,D⟩),s⟩
 ·obtain⟨a,b,e,o,s⟩:=A;rename_i j l;cases i:m.bind j none with
  |none=>simp[i]at g
  |some J=>
   simp[i]at g;obtain⟨rfl,rfl⟩:=g;obtain⟨_,B,_⟩:=Mt.bind_ok i hi;have:=G.none (E.th _ _ B);exact⟨a,b,e,aK.single (⟨none,0,0,this,o⟩),s⟩
 ·obtain⟨a,b,e,o,s⟩:=A;rename_i j q l;cases i:m.bind j (some q)with
  |none=>simp[i]at g
  |some J=>
   simp[i]at g;obtain⟨rfl,rfl⟩:=g;obtain⟨_,B,_⟩:=Mt.bind_ok i hi;have:=G.some (E.th _ _ B);obtain⟨bl,C,D⟩:=o;exact⟨a,b,e,aK.single (⟨bl,by simp only[gM];rw[this];exact C,D⟩),s⟩
 ·obtain⟨a,b,e,o,s⟩:=A;split at g
  case isFalse=>simp at g
  rename_i M;rename_i t j P t' q K l;cases i:m.bind j (some q)with
  |none=>simp[i]at g
  |some J=>
   simp[i]at g;obtain⟨rfl,rfl⟩:=g;obtain⟨_,B,_⟩:=Mt.bind_ok i hi;have:=G.some (E.th _ _ B);obtain⟨u,⟨bl,C,D⟩,L⟩:=o;exact⟨a,b,e,aK.single (⟨u,⟨bl,by simp only[gM];rw[this];exact C,by rw[M.2];exact D⟩,by rw[M.1];exact L⟩),s⟩
 ·obtain⟨a,b,e,o,s⟩:=A;split at g
  case isFalse=>simp at g
  rename_i ef;split at g
  case h_2=>simp at g
  rename_i J Q;rename_i f fa fb f' a0 R l _;cases i:J.binds fb R with
  |none=>simp[i]at g
  |some m2=>
   simp[i]at g;obtain⟨rfl,rfl⟩:=g;obtain⟨a1,B,a3⟩:=Mt.binds_ok Q hi;obtain⟨c1,c2,c3⟩:=Mt.binds_ok i B;obtain⟨fs,cs,C,D,L⟩:=o;refine⟨a,b,e,aK.single ⟨fs,cs,by rw[ef];exact C,?_,?_⟩,s⟩
   ·rw[uJ];exact mn G (F2.imp (λ_ _ q=>⟨q.1,(c1.trans E).th _ _ q.2⟩) a3) D
   ·rw[uJ];exact mn G (F2.imp (λ_ _ q=>⟨q.1,E.th _ _ q.2⟩) c3) L
 all_goals first
  |(simp at g;done)
  |(obtain⟨a,b,e,o,s⟩:=A;simp at g;obtain⟨rfl,_⟩:=g;exact⟨a,b,e,aK.single o,s⟩)
theorem LP.mt_sub:∀{l:List IP}{c:List I}{m a:Mt}{v:LP.val l},LP.mt get l c m=some (v,a)→m.Inj→jH m a∧a.Inj
 |[],[],m,a,v,h,b=>by simp[LP.mt]at h;subst h;exact⟨jH.refl _,b⟩
 |[],_::_,_,_,_,h,_=>by simp[LP.mt]at h
 |p::l,c,m,a,v,h,b=>by
  simp only[LP.mt]at h;split at h
  case h_2=>simp at h
  rename_i o r q e;split at h
  case h_2=>simp at h
  rename_i s t f;simp at h;obtain⟨_,rfl⟩:=h;obtain⟨g,i⟩:=IP.mt_sub e b;obtain⟨j,n⟩:=LP.mt_sub f i;exact⟨g.trans j,n⟩
theorem LP.mt_ok(hh:dn F ρ w h)(j:∀k b,get k=some b→h k=some b)(n:jI mf ρ ρ')(o:mf.fz=[]):∀{l:List IP}{g:List I}{m f:Mt}{v:LP.val l}{vs:List Value},LP.mt get l g m=some (v,f)→m.Inj→jH f mf→aK w (Av F ρ h) ρ g vs→aK w (Av F ρ h) ρ' (LP.inst gM l v) vs
 |[],[],m,f,v,vs,c,_,_,i=>i
 |[],_::_,_,_,_,_,c,_,_,_=>by simp[LP.mt]at c
 |p::l,g,m,f,v,vs,c,q,s,i=>by
  simp only[LP.mt]at c;split at c
  case h_2=>simp at c
  rename_i B r C t;split at c
  case h_2=>simp at c
  rename_i D E u;simp at c;obtain⟨rfl,rfl⟩:=c;obtain⟨_,x⟩:=IP.mt_sub t q;obtain⟨y,_⟩:=LP.mt_sub u x;obtain⟨a,b,e,z,A⟩:=IP.mt_ok hh j n o t q (y.trans s) i;rw[e];exact aK.append z (LP.mt_ok hh j n o u x s A)
end
end
section
theorem F2.set_left{α β:Type}{R:α→β→Prop}:∀{l:List α}{m:List β},F2 R l m→∀(i:Nat){a:α},(∀b,m[i]?=some b→R a b)→F2 R (l.set i a) m
 |[],[],_,_,_,_=>trivial
 |_::_,b::_,⟨_,h⟩,0,_,r=>⟨r b rfl,h⟩
 |_::_,_::_,⟨c,h⟩,i+1,_,r=>⟨c,F2.set_left h i (λb e=>r b (by simpa using e))⟩
theorem F2.anys{w:World}{A:Nat→Prop}{ρ:Nat→Pl}:∀(vs:List Value),F2 (aS w A ρ) (ak vs.length .any) vs
 |[]=>trivial
 |_::r=>⟨trivial,F2.anys r⟩
section
variable{F:Nat→Prop}{ρ ρ':Nat→Pl}{w:World}{h get:Nat→Option Ch}{mf:Mt}
theorem SP.mt_sub{slots:List V}:∀{l:kq}{m a:Mt}{v:SP.val l},SP.mt get slots l m=some (v,a)→m.Inj→jH m a∧a.Inj
 |[],m,a,v,h,b=>by simp[SP.mt]at h;subst h;exact⟨jH.refl _,b⟩
 |p::l,m,a,v,h,b=>by
  simp only[SP.mt]at h;split at h
  case h_2=>simp at h
  split at h
  case isFalse=>simp at h
  split at h
  case h_2=>simp at h
  rename_i n o c;split at h
  case h_2=>simp at h
  rename_i q r e;simp at h;obtain⟨_,rfl⟩:=h;obtain⟨f,g⟩:=LP.mt_sub c b;obtain⟨i,j⟩:=SP.mt_sub e g;exact⟨f.trans i,j⟩
theorem SP.mt_ok(hh:dn F ρ w h)(n:∀k b,get k=some b→h k=some b)(o:jI mf ρ ρ')(q:mf.fz=[]){slots:List V}{vals:List Value}(f:F2 (aS w (Av F ρ h) ρ) slots vals):
 ∀{l:kq}{m i:Mt}{v:SP.val l}{s:List V},SP.mt get slots l m=some (v,i)→m.Inj→jH i mf→F2 (aS w (Av F ρ h) ρ') s vals→F2 (aS w (Av F ρ h) ρ') (SP.inst gM l v s) vals
 |[],_,_,_,_,_,_,_,j=>j
 |p::l,m,i,v,s,a,r,c,j=>by
  simp only[SP.mt]at a;split at a
  case h_2=>simp at a
  rename_i g H y;split at a
  case isFalse=>simp at a
  rename_i z;split at a
  case h_2=>simp at a
  rename_i J K t;split at a
  case h_2=>simp at a
  rename_i L M u;simp at a;obtain⟨rfl,rfl⟩:=a;obtain⟨_,x⟩:=LP.mt_sub t r;obtain⟨A,_⟩:=SP.mt_sub u x;refine SP.mt_ok (l:=l) hh n o q f u x c (j.set_left p.1 λb B=>?_);obtain⟨N,e,C⟩:=f.get y;rw[B]at e;simp at e;subst e;obtain⟨D,E,G⟩:=C;exact⟨D,LP.mt_ok hh n o q t r (A.trans c) E,by rw[←z];exact G⟩
theorem CP.mt_sub{c:CP}{e:Option Ch}{m b:Mt}{v:c.val}(a:c.mt get e m=some (v,b))(hi:m.Inj):jH m b∧b.Inj:=by
 have f:∀{α:Type}{x:Option α}{v:α},x.map (·,m)=some (v,b)→jH m b∧b.Inj:=by
  intro α x v h;cases x<;>simp at h;obtain⟨_,rfl⟩:=h;exact⟨jH.refl _,hi⟩
 cases e with
 |none=>cases c<;>simp[CP.mt]at a
 |some e=>
  cases c<;>cases e<;>simp only[CP.mt]at a<;>first|(simp at a;done)|exact f a|exact LP.mt_sub a hi|skip
  ·simp at a;obtain⟨_,rfl⟩:=a;exact⟨jH.refl _,hi⟩
  ·split at a
   case h_2=>simp at a
   rename_i l _ _ g _ _;simp at a;obtain⟨_,rfl⟩:=a;obtain⟨i,_,j⟩:=Mt.bind_ok g hi;exact⟨i,j⟩
  ·simp at a;subst a;exact⟨jH.refl _,hi⟩
  ·split at a
   case h_2=>simp at a
   simp at a;obtain⟨_,rfl⟩:=a;exact⟨jH.refl _,hi⟩
theorem gN{kt g c f:Ty}{l:List (kt.den×g.den)}{m:List (c.den×f.den)}(h:iG kt g c f l=some m):∃(e:kt=c)(i:g=f),m=e▸i▸l:=by
 unfold iG at h;split at h
 ·rename_i a b _ _;simp at h;exact⟨a.down,b.down,h.symm⟩
 ·simp at h
theorem CP.mt_ok(hh:dn F ρ w h)(M:∀k b,get k=some b→h k=some b)(J:jI mf ρ ρ')(N:mf.fz=[]){c:CP}{C:Ch}{j k:Nat}{m K:Mt}{v:c.val}(f:c.mt get (some C) m=some (v,K))(hi:m.Inj)(L:jH K mf)(s:ρ' j=ρ k)(t:vU w (Av F ρ h) ρ k C):
 vU w (Av F ρ h) ρ' j (c.inst gM v)∧C.own=true∧(c.inst gM v).own=true:=by
 cases c<;>cases C<;>simp only[CP.mt]at f<;>first|(simp at f;done)|skip
 ·rename_i l U;obtain⟨b,O,P,i,g,y⟩:=t;exact⟨⟨b,O,P,by rw[s];exact i,g,LP.mt_ok hh M J N f hi L y⟩,rfl,rfl⟩
 ·rename_i e Q l;cases x:Ty.cast (.sl Q) (.sl e) l<;>simp[x]at f;obtain⟨rfl,rfl⟩:=f;obtain⟨p,q⟩:=Ty.cast_ok x;simp at p;subst p;simp at q;subst q;obtain⟨u,i,g⟩:=t;exact⟨⟨u,by rw[s];exact i,g⟩,rfl,rfl⟩
 ·rename_i z A n o l;cases x:iG n o z A l<;>simp[x]at f;obtain⟨rfl,rfl⟩:=f;obtain⟨p,q,rfl⟩:=gN x;subst p;subst q;obtain⟨b,i,g⟩:=t;exact⟨⟨b,by rw[s];exact i,g⟩,rfl,rfl⟩
 ·rename_i z A n o l;cases x:iG n o z A l<;>simp[x]at f;obtain⟨rfl,rfl⟩:=f;obtain⟨p,q,rfl⟩:=gN x;subst p;subst q;obtain⟨b,i,g⟩:=t;exact⟨⟨b,by rw[s];exact i,g⟩,rfl,rfl⟩
 ·simp at f;obtain⟨rfl,rfl⟩:=f;obtain⟨b,i,g⟩:=t;exact⟨⟨b,by rw[s];exact i,g⟩,rfl,rfl⟩
 ·rename_i W z A X n o B a;split at f
  case h_2=>simp at f
  rename_i Y r l i g y;simp at f;obtain⟨rfl,rfl⟩:=f;obtain⟨p,q,rfl⟩:=gN g;subst p;subst q;obtain⟨_,_,rfl⟩:=gN y;obtain⟨_,R,_⟩:=Mt.bind_ok i hi;have:=J.some (L.th _ _ R);obtain⟨b,D,E,G,H⟩:=t;refine⟨⟨b,D,by rw[s];exact E,by simp only[gM];rw[this];exact G,?_⟩,rfl,rfl⟩;have:a.toList.head?=a:=by cases a<;>rfl
  simp only[this];exact H
 ·obtain⟨b,i,g⟩:=t;exact⟨⟨b,by rw[s];exact i,g⟩,rfl,rfl⟩
 ·rename_i z A n o B a;split at f
  case h_2=>simp at f
  rename_i r l g y;simp at f;obtain⟨rfl,rfl⟩:=f;obtain⟨p,q,rfl⟩:=gN g;subst p;subst q;obtain⟨_,_,rfl⟩:=gN y;obtain⟨b,D,E,G,H,S⟩:=t;refine⟨⟨b,D,by rw[s];exact E,G,H,?_⟩,rfl,rfl⟩;have:a.toList.head?=a:=by cases a<;>rfl
  simp only[this];exact S
theorem CP.mtO_sub{c:CP}{k:Option Nat}{m b:Mt}{v:c.val}(a:c.mtO get k m=some (v,b))(hi:m.Inj):jH m b∧b.Inj:=by
 unfold CP.mtO at a;split at a
 ·exact CP.mt_sub a hi
 ·simp at a;obtain⟨_,rfl⟩:=a;exact⟨jH.refl _,hi⟩
 ·simp at a
theorem HP.mt_sub:∀{l:List (Option CP)}{n:Nat}{m a:Mt}{v:HP.val l},HP.mt get n l m=some (v,a)→m.Inj→jH m a∧a.Inj
 |[],_,m,a,v,h,b=>by simp[HP.mt]at h;subst h;exact⟨jH.refl _,b⟩
 |none::l,n,m,a,v,h,b=>by simp only[HP.mt]at h;exact HP.mt_sub h b
 |some c::l,n,m,a,v,h,b=>by
  simp only[HP.mt]at h;split at h
  case h_2=>simp at h
  split at h
  case h_2=>simp at h
  rename_i p q e;split at h
  case h_2=>simp at h
  rename_i r s f;simp at h;obtain⟨_,rfl⟩:=h;obtain⟨g,i⟩:=CP.mtO_sub e b;obtain⟨j,o⟩:=HP.mt_sub f i;exact⟨g.trans j,o⟩
def a21(F:Nat→Prop)(ρ ρ':Nat→Pl)(w:World)(h:Nat→Option Ch)(mf:Mt)(j:Nat)(a:Ch):Prop:=
 vU w (Av F ρ h) ρ' j a∧a.own=true∧∀b,(ρ' j).blk=some b→∃k c,aV mf.th j=some (some k)∧h k=some c∧c.own=true∧(ρ k).blk=some b
theorem HP.mt_ok(hh:dn F ρ w h)(o:∀k b,get k=some b→h k=some b)(p:jI mf ρ ρ')(z:mf.fz=[]):
 ∀{l:List (Option CP)}{n:Nat}{m s:Mt}{v:HP.val l},HP.mt get n l m=some (v,s)→m.Inj→jH s mf→∀j g,aV (HP.inst gM n l v) j=some g→a21 F ρ ρ' w h mf j g
 |[],_,_,_,_,_,_,_,j,g,f=>by simp[HP.inst,aV]at f
 |none::l,n,m,s,v,a,t,q,j,g,f=>by
  simp only[HP.mt]at a;exact HP.mt_ok (l:=l) hh o p z a t q j g f
 |some c::l,n,m,s,v,a,t,q,j,g,f=>by
  simp only[HP.mt]at a;split at a
  case h_2=>simp at a
  rename_i k E;split at a
  case h_2=>simp at a
  rename_i L M i;split at a
  case h_2=>simp at a
  rename_i N O B;simp at a;obtain⟨rfl,rfl⟩:=a;obtain⟨G,C⟩:=CP.mtO_sub i t;obtain⟨D,_⟩:=HP.mt_sub B C;simp only[HP.inst,aV,gM]at f;split at f
  case isFalse=>exact HP.mt_ok (l:=l) hh o p z B C q j g f
  rename_i e;subst e;simp at f;subst f;have A:=((G.trans D).trans q).th _ _ E;cases k with
  |some k=>
   have r:=p.some A;cases u:get k with
   |none=>simp[CP.mtO,u]at i;cases c<;>simp[CP.mt]at i
   |some x=>
    simp only[CP.mtO,u]at i;obtain⟨H,J,K⟩:=CP.mt_ok hh o p z i t (D.trans q) r (hh.ok k x (o k x u));exact⟨H,K,λb y=>⟨k,x,A,o k x u,J,by rw[←r];exact y⟩⟩
  |none=>
   have r:=p.none A;cases c<;>simp[CP.mtO]at i;obtain⟨rfl,rfl⟩:=i;exact⟨⟨_,r, .inr ⟨rfl,none,rfl⟩⟩,rfl,λb y=>by rw[r]at y;simp[Pl.blk]at y⟩
end
def wE(l:List (Option CP)):Bool:=l.all λc=>match c with
 |some (.mit m e f)=>match l[m]? with
  |some (some (.lk a b))=>(Ty.deq e a).isSome&&(Ty.deq f b).isSome
  |_=>false
 |_=>true
theorem HP.inst_at:∀{l:List (Option CP)}{n j:Nat}{v:HP.val l}{g:Ch},aV (HP.inst gM n l v) j=some g→n≤j∧∃c f,l[j-n]?=some (some c)∧g=c.inst gM f
 |[],_,_,_,_,h=>by simp[HP.inst,aV]at h
 |none::l,n,j,v,g,h=>by
  simp only[HP.inst]at h;obtain⟨a,c,f,b,e⟩:=HP.inst_at h;exact⟨by omega,c,f,by rw[show j-n=j-(n+1)+1 by omega];simpa using b,e⟩
 |some c::l,n,j,v,g,h=>by
  simp only[HP.inst,aV,gM]at h;split at h
  ·rename_i e;subst e;simp at h;exact⟨aC _,c,v.1,by simp,h.symm⟩
  ·obtain⟨a,c,f,b,e⟩:=HP.inst_at h;exact⟨by omega,c,f,by rw[show j-n=j-(n+1)+1 by omega];simpa using b,e⟩
theorem HP.at_inst:∀{l:List (Option CP)}{n i:Nat}{v:HP.val l}{c:CP},l[i]?=some (some c)→∃a,aV (HP.inst gM n l v) (n+i)=some (c.inst gM a)
 |[],_,_,_,_,h=>by simp at h
 |none::l,n,0,v,c,h=>by simp at h
 |none::l,n,i+1,v,c,h=>by
  obtain⟨a,b⟩:=HP.at_inst (l:=l) (n:=n+1) (v:=v) (by simpa using h);exact⟨a,by simp only[HP.inst];rw[show n+(i+1)=n+1+i by omega];exact b⟩
 |some e::l,n,0,v,c,h=>by
  simp at h;subst h;exact⟨v.1,by simp[HP.inst,aV,gM]⟩
 |some e::l,n,i+1,v,c,h=>by
  obtain⟨a,b⟩:=HP.at_inst (l:=l) (n:=n+1) (v:=v.2) (by simpa using h);refine⟨a,?_⟩;simp only[HP.inst,aV,gM];rw[ag (by omega),show n+(i+1)=n+1+i by omega];exact b
def fN(m:Mt)(ρ:Nat→Pl)(j:Nat):Pl:=match aV m.th j with
 |some (some k)=>ρ k
 |some none=> .sv (.slice none 0 0)
 |none=> .un
theorem qE(m:Mt)(ρ:Nat→Pl):jI m ρ (fN m ρ):=by
 intro j;unfold fN;cases a:aV m.th j with
 |none=>trivial
 |some k=>cases k<;>rfl
theorem qF{F F':Nat→Prop}{ρ:Nat→Pl}{w:World}{h get:Nat→Option Ch}{p:cc}{C m1 a:Mt}{W:SP.val p.sl}{g:HP.val p.hp}{slots:List V}{vals:List Value}
 (hh:dn F ρ w h) (X:∀k b,get k=some b→h k=some b) (D:F2 (aS w (Av F ρ h) ρ) slots vals)
 (Y:SP.mt get slots p.sl C=some (W,m1)) (h2:HP.mt get 0 p.hp m1=some (g,a)) (hz:a.fz=[]) (hi:C.Inj) (l:wE p.hp=true)
 (E:∀b,F' b→F b∨∃k c,h k=some c∧c.own=true∧(ρ k).blk=some b∧∀j,aV a.th j≠some (some k)):
 dn F' (fN a ρ) w (aV (HP.inst gM 0 p.hp g))∧
 F2 (aS w (Av F' (fN a ρ) (aV (HP.inst gM 0 p.hp g))) (fN a ρ)) (SP.inst gM p.sl W (ak vals.length .any)) vals∧
 (∀b,Av F' (fN a ρ) (aV (HP.inst gM 0 p.hp g)) b→Av F ρ h b)∧
 (∀b,oJ (fN a ρ) (aV (HP.inst gM 0 p.hp g)) b→oJ ρ h b)∧jH C a:=by
 obtain⟨a1,a2⟩:=SP.mt_sub Y hi;obtain⟨b1,b2⟩:=HP.mt_sub h2 a2;have ha:=qE a ρ;have u:=HP.mt_ok hh X ha hz h2 a2 (jH.refl _)
 have B:∀b,oJ (fN a ρ) (aV (HP.inst gM 0 p.hp g)) b→oJ ρ h b:=by
  rintro b ⟨j,x,i,G,e⟩;obtain⟨_,_,f⟩:=u j x i;obtain⟨k,o,_,r,s,t⟩:=f b e;exact⟨k,o,r,s,t⟩
 have y:∀b,Av F' (fN a ρ) (aV (HP.inst gM 0 p.hp g)) b→Av F ρ h b:=by
  rintro b (e|e)
  ·rcases E b e with q|⟨k,c,z,A,f,_⟩
   ·exact .inl q
   ·exact .inr ⟨k,c,z,A,f⟩
  ·exact .inr (B b e)
 have evo:po w (Av F ρ h) w (Av F' (fN a ρ) (aV (HP.inst gM 0 p.hp g))):=⟨aC _,λ_ _ _ _ B _=>B,λb _ e=>y b e⟩;refine⟨⟨λj x i=>(u j x i).1.evo evo (dK.refl _) (λ_ _=>rfl),λj j' c H b i J _ _ e K=>?_,λj x b i G e=>?_,λj m kt vt a0 a3 i=>?_,λb e=>?_⟩,?_,y,B,a1.trans b1⟩
 ·obtain⟨_,_,f⟩:=u j c i;obtain⟨_,_,L⟩:=u j' H J;obtain⟨k,o,M,r,s,t⟩:=f b e;obtain⟨N,O,P,Q,R,S⟩:=L b K;have:=hh.inj k N o O b r Q s R t S;subst this;exact b2 j j' k M P
 ·obtain⟨_,_,f⟩:=u j x i;obtain⟨k,o,M,r,s,t⟩:=f b e;obtain⟨s1,s2⟩:=hh.fr k o b r s t;refine⟨s1,λhq=>?_⟩;rcases E b hq with q|⟨N,H,z,A,f,q4⟩
  ·exact s2 q
  ·have:=hh.inj k N o H b r z s A t f;subst this;exact q4 j M
 ·obtain⟨_,c,v',e1,e2⟩:=HP.inst_at i;cases c<;>simp[CP.inst]at e2;rename_i m' a4 a5;obtain⟨rfl,rfl,rfl,_⟩:=e2;unfold wE at l;rw[cM]at l;have:=l _ (List.mem_of_getElem? e1);simp only at this;split at this
  case h_2=>simp at this
  rename_i a6 a7 hm;simp only[aF,cE]at this;obtain⟨⟨g1,_⟩,⟨g2,_⟩⟩:=this;have e3:=g1.down;have e4:=g2.down;subst e3;subst e4;obtain⟨U,hv⟩:=HP.at_inst (n:=0) (v:=g) hm;refine⟨U,?_⟩;simpa[gM,CP.inst]using hv
 ·rcases E b e with q|⟨k,c,z,A,f,_⟩
  ·exact hh.gs b q
  ·exact(hh.fr k c b z A f).1
 ·have:=SP.mt_ok hh X ha hz D Y hi b1 (F2.anys vals);exact F2.imp (λ_ _=>aS.evo evo (dK.refl _)) this
end
section
def ED(r:Nat→Nat)(ρ ρ':Nat→Pl):Prop:=∀j,ρ j≠ .un→ρ' (r j)=ρ j
section
variable{r:Nat→Nat}{ρ ρ':Nat→Pl}{w:World}{A:Nat→Prop}
theorem ED.bk(h:ED r ρ ρ'){j b:Nat}(e:ρ j= .bk b):ρ' (r j)= .bk b:=by rw[h j (by rw[e];simp),e]
theorem ED.sv(h:ED r ρ ρ'){j:Nat}{v:Value}(e:ρ j= .sv v):ρ' (r j)= .sv v:=by rw[h j (by rw[e];simp),e]
theorem ED.ptrs(h:ED r ρ ρ'):∀{l:List (Nat×Nat)}{vs:List Value},F2 (jZ ρ) l vs→F2 (jZ ρ') (EB r l) vs
 |[],[],_=>trivial
 |_::_,_::_,⟨⟨b,a,c⟩,e⟩=>⟨⟨b,h.bk a,c⟩,h.ptrs e⟩
theorem IP.ren(h:ED r ρ ρ'){p:IP}{v:p.val}{vs:List Value}(g:aK w A ρ (p.inst gM v) vs):aK w A ρ' (p.inst r v) vs:=by
 cases p
 case d t=>exact fB.2 (fB.1 g)
 all_goals
  have g:=aK.of_single g;refine aK.single ?_
 case ptr j m=>obtain⟨u,⟨b,i,e⟩,l⟩:=g;exact⟨u,⟨b,h.bk i,e⟩,l⟩
 case own j=>obtain⟨a,n,c,i,e⟩:=g;exact⟨a,n,c,h.sv i,e⟩
 case mp j=>obtain⟨b,i,e⟩:=g;exact⟨b,h.bk i,e⟩
 case ifc t j m=>obtain⟨u,⟨b,i,e⟩,l⟩:=g;exact⟨u,⟨b,h.bk i,e⟩,l⟩
 case fn f a b=>
  obtain⟨o,q,i,e,l⟩:=g;rw[uJ]at e l;exact⟨o,q,i,h.ptrs e,h.ptrs l⟩
 all_goals exact g
theorem aK.split:∀{l m:List I}{vs:List Value},aK w A ρ (l++m) vs→∃a b,vs=a++b∧aK w A ρ l a∧aK w A ρ m b
 |[],_,vs,h=>⟨[],vs,rfl,rfl,h⟩
 |_::l,_,_,⟨a,b,e,f,g⟩=>
  let⟨c,d,i,j,n⟩:=aK.split (l:=l) g
  ⟨a++c,d,by rw[e,i,ay],⟨a,c,rfl,f,j⟩,n⟩
theorem LP.ren(h:ED r ρ ρ'):∀{l:List IP}{v:LP.val l}{vs:List Value},aK w A ρ (LP.inst gM l v) vs→aK w A ρ' (LP.inst r l v) vs
 |[],_,_,c=>c
 |_::_,_,_,c=>by
  obtain⟨a,b,e,f,g⟩:=aK.split c;rw[e];exact aK.append (IP.ren h f) (LP.ren h g)
theorem CP.ren(h:ED r ρ ρ'){c:CP}{v:c.val}{j:Nat}(g:vU w A ρ j (c.inst gM v)):vU w A ρ' (r j) (c.inst r v):=by
 cases c
 case cells l=>obtain⟨b,q,s,a,f,i⟩:=g;exact⟨b,q,s,h.bk a,f,LP.ren h i⟩
 case sl e=>obtain⟨u,a,f⟩:=g;exact⟨u,h.sv a,f⟩
 case mp n o=>obtain⟨b,a,f⟩:=g;exact⟨b,h.bk a,f⟩
 case lk n o=>obtain⟨b,a,f⟩:=g;exact⟨b,h.bk a,f⟩
 case sit=>obtain⟨b,a,f⟩:=g;exact⟨b,h.bk a,f⟩
 case mit m n o=>obtain⟨b,p,a,f,i⟩:=g;exact⟨b,p,h.bk a,h.bk f,i⟩
 case nit=>obtain⟨b,a,f⟩:=g;exact⟨b,h.bk a,f⟩
 case fit n o=>obtain⟨b,p,a,f⟩:=g;exact⟨b,p,h.bk a,f⟩
theorem CP.own_inst(r:Nat→Nat){c:CP}{v:c.val}:(c.inst r v).own=true:=by cases c<;>rfl
end
def SP.res(r:Nat→Nat):(l:kq)→SP.val l→List (Bool×List I)
 |[],_=>[]
 |p::l,v=>(p.2.1,LP.inst r p.2.2 v.1)::SP.res r l v.2
def nf:Nat→kq→Bool
 |_,[]=>true
 |n,p::l=>p.1==n&&nf (n+1) l
def RH:List (Bool×List I)→V
 |[p]=> .val p.1 p.2
 |l=> .tup l
def kr:List Value→Value
 |[v]=>v
 |a=> .tuple a.toArray
theorem Kv{w:World}{A:Nat→Prop}{ρ:Nat→Pl}{l:List (Bool×List I)}{vs:List Value}(h:F2 (yp w A ρ) l vs):aS w A ρ (RH l) (kr vs):=by
 match l,vs,h with
 |[],[],_=>exact⟨[],rfl,trivial⟩
 |[p],[v],⟨a,_⟩=>exact a
 |p::q::l,v::u::vs,h=>exact⟨v::u::vs,rfl,h⟩
theorem SP.res_ren{r:Nat→Nat}{ρ ρ':Nat→Pl}{w:World}{A:Nat→Prop}(h:ED r ρ ρ'):∀{l:kq}{v:SP.val l}{vs:List Value},F2 (yp w A ρ) (SP.res gM l v) vs→F2 (yp w A ρ') (SP.res r l v) vs
 |[],_,[],_=>trivial
 |_::_,_,_::_,⟨⟨a,b,c⟩,e⟩=>⟨⟨a,LP.ren h b,c⟩,SP.res_ren h e⟩
theorem SP.res_ok{F:Nat→Prop}{ρ ρ':Nat→Pl}{w:World}{h i:Nat→Option Ch}{s:Mt}(hh:dn F ρ w h)(x:∀k b,i k=some b→h k=some b)(y:jI s ρ ρ')(z:s.fz=[]){slots:List V}{vals:List Value}(f:F2 (aS w (Av F ρ h) ρ) slots vals):
 ∀{l:kq}{n:Nat}{m t:Mt}{v:SP.val l},SP.mt i slots l m=some (v,t)→m.Inj→jH t s→nf n l=true→slots.length=n+l.length→F2 (yp w (Av F ρ h) ρ') (SP.res gM l v) (vals.drop n)
 |[],n,_,_,_,_,_,_,_,a=>by
  have:=f.length;rw[bw (by simp at a;omega)];trivial
 |p::l,n,m,t,v,c,B,e,q,a=>by
  simp only[SP.mt]at c;split at c
  case h_2=>simp at c
  rename_i g P G;split at c
  case isFalse=>simp at c
  rename_i H;split at c
  case h_2=>simp at c
  rename_i Q R C;split at c
  case h_2=>simp at c
  rename_i S U D;simp at c;obtain⟨rfl,rfl⟩:=c;obtain⟨_,E⟩:=LP.mt_sub C B;obtain⟨J,_⟩:=SP.mt_sub D E;simp only[nf,aF,aQ]at q;obtain⟨rfl,q⟩:=q;obtain⟨u,j,K⟩:=f.get G
  have L:vals.drop p.1=u::vals.drop (p.1+1):=by
   have o:p.1<vals.length:=by rw[dd]at j;exact j.1
   rw[List.drop_eq_getElem_cons o];rw[ap o]at j;simp at j;rw[j]
  rw[L];obtain⟨M,N,O⟩:=K;exact⟨⟨M,LP.mt_ok hh x y z C B (J.trans e) N,by rw[←H];exact O⟩,SP.res_ok hh x y z f D E e q (by simp at a;omega)⟩
@[reducible]def cV(l:List cc)(i:Nat):cc:=l.getD i ⟨[],[]⟩
@[reducible]def aN(l:List cc):Type:=Σ i:Nat,(cV l i).den
structure Ct where
 nargs:Nat
 inp:cc
 out:List cc
 spec:inp.den→Tr (aN out)
def dV(p:cc)(v:p.val):Nat→Option Ch:=aV (HP.inst gM 0 p.hp v.2)
def nZ(p:cc)(n:Nat)(v:p.val):List V:=SP.inst gM p.sl v.1 (ak n .any)
def Kw(F:Nat→Prop)(ρ:Nat→Pl)(w:World)(h:Nat→Option Ch)(R:Nat)(p:cc)(v:p.val)(e:Ending)(w':World):Prop:=
 ∃ρ' a,e= .returned (kr a)∧(∀k,k<R→ρ' k=ρ k∨ρ' k= .un)∧F2 (yp w' (Av F ρ' (dV p v)) ρ') (SP.res gM p.sl v.1) a∧dn F ρ' w' (dV p v)∧Mv ρ w h ρ' w' (dV p v)∧(∀k,p.hp.length≤k→ρ' k= .un)
def bO(P:Program)(f:FuncId)(c:Ct):Prop:=
 ∀(x:c.inp.den)(Q:aN c.out→Prop),(c.spec x).sat Q→∀(F:Nat→Prop)(ρ:Nat→Pl)(w:World)(a:List Value),a.length=c.nargs→
  dn F ρ w (dV c.inp (c.inp.get x))→F2 (aS w (Av F ρ (dV c.inp (c.inp.get x))) ρ) (nZ c.inp c.nargs (c.inp.get x)) a→(∀k,c.inp.hp.length≤k→ρ k= .un)→
  Calls P f a.toArray w λe b=>∃y,Q y∧Kw F ρ w (dV c.inp (c.inp.get x)) c.inp.hp.length (cV c.out y.1) ((cV c.out y.1).get y.2) e b
def eL(P:Program)(f:FuncId):Bool:=
 match P.funcs[f]? with
 |some fn=> !(fn.name== "runtime.NumGoroutine")&&fn.body.isSome
 |none=>false
theorem jr{P:Program}{f:FuncId}(h:eL P f=true)(args:Array Value)(w:World):(callFunc f args).run P w= .ok (.enter f args) w:=by
 unfold eL at h;cases a:P.funcs[f]? with
 |none=>simp[a]at h
 |some fn=>
  simp only[a,aF,aO,Option.isSome_iff_ne_none]at h;have b:¬fn.name= "runtime.NumGoroutine" :=by simpa using h.1
  simp[callFunc,a,b,h.2]
abbrev bu:=List (FuncId×List Ct)
def ks:bu→FuncId→List Ct
 |[],_=>[]
 |p::r,f=>if p.1=f then p.2 else ks r f
def aP(P:Program)(Γ:bu):Prop:=∀p∈Γ,eL P p.1=true∧∀c∈p.2,bO P p.1 c
theorem aP.get{P:Program}{Γ:bu}(h:aP P Γ){f:FuncId}{c:Ct}(a:c∈ks Γ f):eL P f=true∧bO P f c:=by
 induction Γ with
 |nil=>simp[ks]at a
 |cons p r b=>
  simp only[ks]at a;split at a
  ·rename_i e;subst e;exact⟨(h p (by simp)).1,(h p (by simp)).2 c a⟩
  ·exact b (λq g=>h q (aE _ g)) a
def ku:List Nat→(Nat→Option Ch)→dH
 |[],_=>[]
 |k::r,c=>match c k with
  |some (.sl e l)=>(k,some (.fr e l))::ku r (cI c k (some (.fr e l)))
  |some (.cells l)=>(k,some (.fc l))::ku r (cI c k (some (.fc l)))
  |some (.mp a b l)=>(k,some (.fm a b l))::ku r (cI c k (some (.fm a b l)))
  |_=>ku r c
theorem qG{a h:Nat→Option Ch}(g:∀k b,a k=some b→h k=some b)(k:Nat)(c:Option Ch):∀j b,cI a k c j=some b→cI h k c j=some b:=by
 intro j b f;by_cases e:j=k
 ·subst e;rw[bF]at f⊢;exact f
 ·rw[bD _ _ _ e]at f⊢;exact g j b f
theorem qH{F:Nat→Prop}{ρ:Nat→Pl}{w:World}{h:Nat→Option Ch}(hh:dn F ρ w h){k bl:Nat}{c g:Ch}(C:h k=some c)(f:c.own=true)(K:ρ k= .bk bl)(i:g.own=false)(D:∀a b l,c≠ .lk a b l)(t:∀m a b r q,g≠ .mit m a b r q)
 (u:Mv ρ w h ρ w (cI h k (some g))→bl<w.heap.size→¬Av F ρ (cI h k (some g)) bl→vU w (Av F ρ (cI h k (some g))) ρ k g):dn F ρ w (cI h k (some g))∧Mv ρ w h ρ w (cI h k (some g)):=by
 refine hh.step (λj=>j=k) (dK.refl ρ) (aC _) rfl rfl rfl (λj e=>bD _ _ _ e) (λ_ _ _=>rfl) (λj c b e u f=>?_) (λj O c g b e E _ _ _ _ _ _=>e.trans E.symm) (λj m L M v x e y=>?_) (λj P e o N=>?_)
 ·subst e;rw[bF]at u;simp at u;subst u;rw[i]at f;simp at f
 ·by_cases p:j=k
  ·subst p;rw[bF]at e;simp at e;exact absurd e (t _ _ _ _ _)
  ·rw[bD _ _ _ p]at e;rcases y with y|y
   ·exact absurd y p
   ·obtain⟨Q,G⟩:=hh.it j m L M v x e;rw[y,C]at G;simp at G;exact absurd G (D _ _ _)
 ·subst e;rw[bF]at o;simp at o;subst o;have n:(ρ j).blk=some bl:=by rw[K];rfl
  have z:=hh.fr j _ bl C f n;refine u N z.1 λH=>?_;rcases H with H|⟨q,c,B,s,J⟩
  ·exact z.2 H
  ·by_cases p:q=j
   ·subst p;rw[bF]at B;simp at B;subst B;rw[i]at s;simp at s
   ·rw[bD _ _ _ p]at B;exact p (hh.inj q j c _ bl B C s f J n)
theorem ng{F:Nat→Prop}{ρ:Nat→Pl}{w:World}{h:Nat→Option Ch}(hh:dn F ρ w h){k:Nat}{l:List I}(c:h k=some (.cells l)):dn F ρ w (cI h k (some (.fc l)))∧Mv ρ w h ρ w (cI h k (some (.fc l))):=by
 obtain⟨b,f,p,e,g,j⟩:=hh.ok k _ c;exact qH hh c rfl e rfl (by simp) (by simp) λm a n=>⟨b,f.toList,e,a,n,j.evo m.evo (dK.refl ρ),λi u o=>by rw[←bK i];exact mS g i u o⟩
theorem Cq{F:Nat→Prop}{ρ:Nat→Pl}{w:World}{h:Nat→Option Ch}(hh:dn F ρ w h){k:Nat}{a b:Ty}{l:List (a.den×b.den)}(e:h k=some (.mp a b l)):dn F ρ w (cI h k (some (.fm a b l)))∧Mv ρ w h ρ w (cI h k (some (.fm a b l))):=by
 obtain⟨bl,f,g⟩:=hh.ok k _ e;exact qH hh e rfl f rfl (by simp) (by simp) λi c j=>⟨bl,f,c,j,g.evo i.evo rfl⟩
theorem js{F:Nat→Prop}{ρ:Nat→Pl}{w:World}:∀{l:List Nat}{c h:Nat→Option Ch},dn F ρ w h→(∀k b,c k=some b→h k=some b)→
 dn F ρ w (bh h (ku l c))∧Mv ρ w h ρ w (bh h (ku l c))∧∀k b,bh c (ku l c) k=some b→bh h (ku l c) k=some b
 |[],c,h,g,f=>⟨g,Mv.refl _ _ _,f⟩
 |k::r,c,h,g,f=>by
  simp only[ku];split
  ·rename_i e l i;obtain⟨j,m⟩:=nT g (f k _ i);obtain⟨n,o,p⟩:=js (l:=r) j (qG f k (some (.fr e l)));exact⟨n,m.trans o,p⟩
  ·rename_i l i;obtain⟨j,m⟩:=ng g (f k _ i);obtain⟨n,o,p⟩:=js (l:=r) j (qG f k (some (.fc l)));exact⟨n,m.trans o,p⟩
  ·rename_i a b l i;obtain⟨j,m⟩:=Cq g (f k _ i);obtain⟨n,o,p⟩:=js (l:=r) j (qG f k (some (.fm a b l)));exact⟨n,m.trans o,p⟩
  ·exact js (l:=r) g f
def Cr(a:Nat→Option Ch)(slots:List V)(p:cc)(b:Mt):Option (p.val×Mt):=
 match SP.mt a slots p.sl b with
 |some (c,e)=>match HP.mt a 0 p.hp e with
  |some (f,g)=>some ((c,f),g)
  |none=>none
 |none=>none
def Kx:List Nat→Bool
 |[]=>true
 |_=>false
def fit(a:Nat→Option Ch)(slots:List V)(p:cc)(b:List (Nat×Option Nat)):Option (p.val×List (Nat×Option Nat)×dH):=
 match Cr a slots p ⟨b,[]⟩with
 |some (v,m)=>if Kx m.fz then some (v,m.th,[])else
  match Cr (bh a (ku m.fz a)) slots p ⟨b,[]⟩with
  |some (e,c)=>if Kx c.fz then some (e,c.th,ku m.fz a)else none
  |none=>none
 |none=>none
theorem AL{l:List Nat}(h:Kx l=true):l=[]:=by cases l<;>simp[Kx]at h;rfl
theorem yK{a:Nat→Option Ch}{slots:List V}{p:cc}{f:List (Nat×Option Nat)}{v:p.val}{b:List (Nat×Option Nat)}{u:dH}(h:fit a slots p f=some (v,b,u)):
 ∃l,u=ku l a∧Cr (bh a u) slots p ⟨f,[]⟩=some (v,⟨b,[]⟩):=by
 unfold fit at h;split at h
 case h_2=>simp at h
 rename_i i m g;split at h
 ·rename_i c;simp at h;obtain⟨rfl,rfl,rfl⟩:=h;refine⟨[],rfl,?_⟩;have:=AL c;simp only[bh];rw[g,←this]
 ·split at h
  case h_2=>simp at h
  rename_i j n e;split at h
  case isFalse=>simp at h
  rename_i c;simp at h;obtain⟨rfl,rfl,rfl⟩:=h;have:=AL c;exact⟨m.fz,rfl,by rw[e,←this]⟩
theorem uK{a:Nat→Option Ch}{slots:List V}{p:cc}{b m:Mt}{v:p.val}(h:Cr a slots p b=some (v,m)):∃m1,SP.mt a slots p.sl b=some (v.1,m1)∧HP.mt a 0 p.hp m1=some (v.2,m):=by
 unfold Cr at h;split at h
 case h_2=>simp at h
 rename_i f m1 c;split at h
 case h_2=>simp at h
 rename_i g i e;simp at h;obtain⟨rfl,rfl⟩:=h;exact⟨m1,c,e⟩
def qI(l:List Nat):dH:=l.map λk=>(k,none)
def qJ(l:eX):dH:=l.map λp=>(p.1,some p.2)
theorem qK:∀(l:List Nat)(h:Nat→Option Ch)(k:Nat),(k∈l→bh h (qI l) k=none)∧(k∉l→bh h (qI l) k=h k)
 |[],_,_=>⟨λq=>by simp at q,λ_=>rfl⟩
 |a::l,h,k=>by
  obtain⟨f,g⟩:=qK l (cI h a none) k;simp only[qI,aX,bh];by_cases b:k∈l
  ·exact⟨λ_=>f b,λq=>absurd (aE _ b) q⟩
  ·have c:=g b;simp only[qI]at c;refine⟨λq=>?_,λq=>?_⟩
   ·have:k=a:=by simpa[b]using q
    subst this;rw[c,bF]
   ·rw[c,bD _ _ _ (λe=>q (by rw[e];simp))]
theorem qL:∀(l:eX)(h:Nat→Option Ch)(k:Nat),(∃c,bh h (qJ l) k=some c∧(k,c)∈l)∨(bh h (qJ l) k=h k∧∀c,(k,c)∉l)
 |[],_,_=> .inr ⟨rfl,λ_=>by simp⟩
 |a::l,h,k=>by
  simp only[qJ,aX,bh];rcases qL l (cI h a.1 (some a.2)) k with⟨c,b,g⟩|⟨b,g⟩
  ·exact .inl ⟨c,b,aE _ g⟩
  ·by_cases e:k=a.1
   ·refine .inl ⟨a.2,?_,by rw[e];simp⟩;simp only[qJ]at b;rw[b,e,bF]
   ·refine .inr ⟨?_,λc f=>?_⟩
    ·simp only[qJ]at b;rw[b,bD _ _ _ e]
    ·rw[br]at f;rcases f with f|f
     ·exact e (by rw[←f])
     ·exact g c f
end
section
def rn(a:List (Nat×Option Nat))(N j:Nat):Nat:=match aV a j with
 |some (some k)=>k
 |_=>N+j
def tp(a:List (Nat×Option Nat)):List Nat:=a.filterMap (·.2)
def CP.plain:CP→Bool
 | .lk .. =>false
 | .mit .. =>false
 |_=>true
def Cs(l:List (Option CP)):Bool:=l.all λc=>match c with
 |some c=>c.plain
 |none=>false
def oV(l:List (Option CP)):Bool:=l.all λc=>match c with
 |some c=>c.plain
 |none=>true
def kv(n:Nat)(a:List (Nat×Option Nat)):Bool:=a.all λp=>decide (p.1<n)
def EE(c:Ct)(a:List (Nat×Option Nat))(u:dH)(N W:Nat)(y:aN c.out):Tr (V×dH):=
 if oV (cV c.out y.1).hp&&decide ((cV c.out y.1).hp.length≤W)then
  .leaf (RH (SP.res (rn a N) (cV c.out y.1).sl ((cV c.out y.1).get y.2).1),u++(qI (tp a)++qJ (HP.inst (rn a N) 0 (cV c.out y.1).hp ((cV c.out y.1).get y.2).2)))
 else .stuck
def AM(c:Ct)(args:List V)(get:Nat→Option Ch)(N W:Nat):Option (Tr (V×dH)):=
 if args.length=c.nargs then
  match fit get args c.inp []with
  |some (v,a,u)=>if Cs c.inp.hp&&kv c.inp.hp.length a then some ((c.spec (c.inp.put v)).bind (EE c a u N W))else none
  |none=>none
 else none
def kw(l:List Ct)(args:List V)(get:Nat→Option Ch)(N W:Nat):Tr (V×dH):=match l with
 |[]=> .stuck
 |c::r=>match AM c args get N W with
  |some t=>t
  |none=>kw r args get N W
theorem HP.mem_inst{r:Nat→Nat}:∀{l:List (Option CP)}{n k:Nat}{v:HP.val l}{b:Ch},(k,b)∈HP.inst r n l v→∃j c a,n≤j∧k=r j∧b=c.inst r a∧l[j-n]?=some (some c)∧aV (HP.inst gM n l v) j=some (c.inst gM a)
 |[],_,_,_,_,h=>by simp[HP.inst]at h
 |none::l,n,k,v,b,h=>by
  simp only[HP.inst]at h⊢;obtain⟨j,c,a,m,e,f,g,i⟩:=HP.mem_inst (l:=l) h;exact⟨j,c,a,by omega,e,f,by rw[show j-n=j-(n+1)+1 by omega];simpa using g,i⟩
 |some c::l,n,k,v,b,h=>by
  simp only[HP.inst,br,Prod.mk.injEq]at h⊢;rcases h with⟨rfl,rfl⟩|h
  ·exact⟨n,c,v.1,aC _,rfl,rfl,by simp,by simp[aV,gM]⟩
  ·obtain⟨j,o,a,m,e,f,g,i⟩:=HP.mem_inst (l:=l) h;exact⟨j,o,a,by omega,e,f,by rw[show j-n=j-(n+1)+1 by omega];simpa using g,(ag (show¬n=j by omega)).trans i⟩
theorem Ky{a:List (Nat×Option Nat)}{k:Nat}(h:k∈tp a):∃j,(j,some k)∈a:=by
 unfold tp at h;rw[List.mem_filterMap]at h;obtain⟨p,b,c⟩:=h;exact⟨p.1,by rw[←c];exact b⟩
theorem wF{a:List (Nat×Option Nat)}{j k:Nat}(h:aV a j=some (some k)):k∈tp a:=by
 unfold tp;rw[List.mem_filterMap];exact⟨_,gL h,rfl⟩
def vV(a:List (Nat×Option Nat)):Prop:=∀j k,(j,k)∈a→aV a j=some k
theorem Mt.bind_fun{m b:Mt}{j:Nat}{k:Option Nat}(h:m.bind j k=some b)(hi:vV m.th):vV b.th:=by
 unfold Mt.bind at h;split at h
 ·split at h<;>simp at h;subst h;exact hi
 ·rename_i c;split at h<;>simp at h;subst h;intro i q a;simp only[br,Prod.mk.injEq]at a;simp only[aV];rcases a with⟨rfl,rfl⟩|a
  ·simp
  ·have:=hi i q a;split
   ·rename_i e;rw[←e,c]at this;simp at this
   ·exact this
theorem Mt.binds_fun:∀{l r:List (Nat×Nat)}{m a:Mt},m.binds l r=some a→vV m.th→vV a.th
 |[],[],m,a,h,b=>by simp[Mt.binds]at h;subst h;exact b
 |[],_::_,_,_,h,_=>by simp[Mt.binds]at h
 |_::_,[],_,_,h,_=>by simp[Mt.binds]at h
 |p::l,q::r,m,a,h,b=>by
  simp only[Mt.binds]at h;split at h
  case isFalse=>simp at h
  split at h
  case h_2=>simp at h
  rename_i e c;exact Mt.binds_fun h (Mt.bind_fun c b)
section
variable{get:Nat→Option Ch}
theorem IP.mt_fun{p:IP}{o r:List I}{m e:Mt}{v:p.val}(c:p.mt get o m=some (v,r,e))(hi:vV m.th):vV e.th:=by
 have h:∀{j:Nat}{k:Option Nat}{l:List I}{e:Mt}{r:List I},((m.bind j k).map λe=>((),l,e))=some ((),r,e)→vV e.th:=by
  intro j k l e r i;cases g:m.bind j k with
  |none=>simp[g]at i
  |some n=>
   simp[g]at i;obtain⟨_,rfl⟩:=i;exact Mt.bind_fun g hi
 unfold IP.mt at c;split at c
 ·split at c
  case h_2=>simp at c
  simp at c;obtain⟨_,_,rfl⟩:=c;exact hi
 ·split at c<;>simp at c;obtain⟨_,_,rfl⟩:=c;exact hi
 ·split at c<;>simp at c;obtain⟨_,_,rfl⟩:=c;exact hi
 ·split at c<;>simp at c;obtain⟨_,rfl⟩:=c;exact hi
 ·split at c
  ·exact h c
  ·simp at c
 ·exact h c
 ·exact h c
 ·exact h c
 ·split at c
  ·exact h c
  ·simp at c
 ·split at c
  case isFalse=>simp at c
  split at c
  case h_2=>simp at c
  rename_i n q;rename_i f a b t u s l _ _;cases g:n.binds b s with
  |none=>simp[g]at c
  |some w=>
   simp[g]at c;obtain⟨_,rfl⟩:=c;exact Mt.binds_fun g (Mt.binds_fun q hi)
 all_goals first
  |(simp at c;obtain⟨_,rfl⟩:=c;exact hi)
  |(simp at c;done)
theorem LP.mt_fun:∀{l:List IP}{c:List I}{m a:Mt}{v:LP.val l},LP.mt get l c m=some (v,a)→vV m.th→vV a.th
 |[],[],m,a,v,h,b=>by simp[LP.mt]at h;subst h;exact b
 |[],_::_,_,_,_,h,_=>by simp[LP.mt]at h
 |p::l,c,m,a,v,h,b=>by
  simp only[LP.mt]at h;split at h
  case h_2=>simp at h
  rename_i g r i e;split at h
  case h_2=>simp at h
  rename_i j n f;simp at h;obtain⟨_,rfl⟩:=h;exact LP.mt_fun f (IP.mt_fun e b)
theorem SP.mt_fun{slots:List V}:∀{l:kq}{m a:Mt}{v:SP.val l},SP.mt get slots l m=some (v,a)→vV m.th→vV a.th
 |[],m,a,v,h,b=>by simp[SP.mt]at h;subst h;exact b
 |p::l,m,a,v,h,b=>by
  simp only[SP.mt]at h;split at h
  case h_2=>simp at h
  split at h
  case isFalse=>simp at h
  split at h
  case h_2=>simp at h
  rename_i f g c;split at h
  case h_2=>simp at h
  rename_i i j e;simp at h;obtain⟨_,rfl⟩:=h;exact SP.mt_fun e (LP.mt_fun c b)
theorem CP.mt_fun{c:CP}{b:Option Ch}{m e:Mt}{v:c.val}(a:c.mt get b m=some (v,e))(hi:vV m.th):vV e.th:=by
 have f:∀{α:Type}{x:Option α}{v:α},x.map (·,m)=some (v,e)→vV e.th:=by
  intro α x v h;cases x<;>simp at h;obtain⟨_,rfl⟩:=h;exact hi
 cases b with
 |none=>cases c<;>simp[CP.mt]at a
 |some b=>
  cases c<;>cases b<;>simp only[CP.mt]at a<;>first|(simp at a;done)|exact f a|exact LP.mt_fun a hi|skip
  ·simp at a;obtain⟨_,rfl⟩:=a;exact hi
  ·split at a
   case h_2=>simp at a
   rename_i i _ _ g _ _;simp at a;obtain⟨_,rfl⟩:=a;exact Mt.bind_fun g hi
  ·simp at a;subst a;exact hi
  ·split at a
   case h_2=>simp at a
   simp at a;obtain⟨_,rfl⟩:=a;exact hi
theorem HP.mt_fun:∀{l:List (Option CP)}{n:Nat}{m e:Mt}{v:HP.val l},HP.mt get n l m=some (v,e)→vV m.th→vV e.th
 |[],_,m,e,v,h,a=>by simp[HP.mt]at h;subst h;exact a
 |none::l,n,m,e,v,h,a=>by simp only[HP.mt]at h;exact HP.mt_fun (l:=l) h a
 |some c::l,n,m,e,v,h,a=>by
  simp only[HP.mt]at h;split at h
  case h_2=>simp at h
  split at h
  case h_2=>simp at h
  rename_i g i b;split at h
  case h_2=>simp at h
  rename_i j o f;simp at h;obtain⟨_,rfl⟩:=h;refine HP.mt_fun f ?_;unfold CP.mtO at b;split at b
  ·exact CP.mt_fun b a
  ·simp at b;obtain⟨_,rfl⟩:=b;exact a
  ·simp at b
theorem HP.mt_kind:∀{l:List (Option CP)}{n:Nat}{m f:Mt}{v:HP.val l},HP.mt get n l m=some (v,f)→m.Inj→∀(i:Nat)(c:CP),l[i]?=some (some c)→∃k,aV f.th (n+i)=some k∧∀g,k=some g→∃j,get g=some j∧(c.plain=true→∀kt r q,j≠ .lk kt r q)
 |[],_,_,_,_,_,_,i,c,a=>by simp at a
 |none::l,n,m,f,v,h,o,0,c,a=>by simp at a
 |none::l,n,m,f,v,h,o,i+1,c,a=>by
  simp only[HP.mt]at h;have:=HP.mt_kind (l:=l) h o i c (by simpa using a)
  rwa [show n+1+i=n+(i+1)by omega]at this
 |some s::l,n,m,f,v,h,o,i,c,a=>by
  simp only[HP.mt]at h;split at h
  case h_2=>simp at h
  rename_i k x;split at h
  case h_2=>simp at h
  rename_i B C b;split at h
  case h_2=>simp at h
  rename_i D E t;simp at h;obtain⟨_,rfl⟩:=h;obtain⟨y,u⟩:=CP.mtO_sub b o;cases i with
  |succ i=>
   have:=HP.mt_kind (l:=l) t u i c (by simpa using a)
   rwa [show n+1+i=n+(i+1)by omega]at this
  |zero=>
   simp at a;subst a;obtain⟨z,_⟩:=HP.mt_sub t u;refine⟨k,z.th _ _ (y.th _ _ x),λg p=>?_⟩;subst p;simp only[CP.mtO]at b;cases w:get g with
   |none=>rw[w]at b;cases s<;>simp[CP.mt]at b
   |some j=>
    refine⟨j,rfl,λA kt r q e=>?_⟩;subst e;rw[w]at b;cases s<;>simp[CP.mt,CP.plain]at b A
end
end
section
section
variable{P:Program}{F:Nat→Prop}{ρ:Nat→Pl}{w:World}{h get:Nat→Option Ch}{N W:Nat}{a:Act}{o:Oper}
theorem Kz{l:List (Option CP)}(h:Cs l=true){j:Nat}(b:j<l.length):∃c,l[j]?=some (some c)∧c.plain=true:=by
 unfold Cs at h;rw[cM]at h;have:=h l[j] (rW b);split at this
 ·rename_i c e;exact⟨c,by rw[ap b,e],this⟩
 ·simp at this
theorem KA{l:List (Option CP)}(h:Cs l=true):wE l=true:=by
 unfold wE;unfold Cs at h;rw[cM]at h⊢;intro c b;have:=h c b;split at this
 ·rename_i e;cases e<;>simp[CP.plain]at this<;>rfl
 ·simp at this
theorem EF{l:List (Option CP)}(h:oV l=true){j:Nat}{c:CP}(b:l[j]?=some (some c)):c.plain=true:=by
 unfold oV at h;rw[cM]at h;exact h _ (List.mem_of_getElem? b)
theorem iT{n:Nat}{b:List (Nat×Option Nat)}(h:kv n b=true){j:Nat}{k:Option Nat}(c:aV b j=some k):j<n:=by
 unfold kv at h;rw[cM]at h;simpa using h _ (gL c)
theorem AN:(⟨[],[]⟩:Mt).Inj:=λ_ _ _ q=>by simp[aV]at q
theorem KB:vV []:=λ_ _ q=>by simp at q
theorem KC{c:Ct}{v:c.inp.val}{f:List (Nat×Option Nat)}{args:List V}{vals:List Value}
 (hh:dn F ρ w h) (hg:∀k b,get k=some b→h k=some b) (hN:∀k,N≤k→k<N+W→ρ k= .un) (hv:F2 (aS w (Av F ρ h) ρ) args vals)
 (hf:Cr get args c.inp ⟨[],[]⟩=some (v,⟨f,[]⟩)) (b7:Cs c.inp.hp=true) (hk:kv c.inp.hp.length f=true):
 ∃F':Nat→Prop,dn F' (fN ⟨f,[]⟩ ρ) w (dV c.inp v)∧F2 (aS w (Av F' (fN ⟨f,[]⟩ ρ) (dV c.inp v)) (fN ⟨f,[]⟩ ρ)) (nZ c.inp vals.length v) vals∧
  (∀k,c.inp.hp.length≤k→fN ⟨f,[]⟩ ρ k= .un)∧
  ∀(p:cc)(x:p.val)(e:Ending)(w':World),Kw F' (fN ⟨f,[]⟩ ρ) w (dV c.inp v) c.inp.hp.length p x e w'→oV p.hp=true→p.hp.length≤W→
   ∃r,e= .returned r∧bJ F ρ w h N W (RH (SP.res (rn f N) p.sl x.1)) (qI (tp f)++qJ (HP.inst (rn f N) 0 p.hp x.2)) r w':=by
 obtain⟨m1,b0,b1⟩:=uK hf;have b8:vV f:=HP.mt_fun b1 (SP.mt_fun b0 KB);obtain⟨i1,i2⟩:=SP.mt_sub b0 AN;have b2:=HP.mt_kind b1 i2
 have E:∀j k,aV f j=some (some k)→∃g,h k=some g∧∀kt vt q,g≠ .lk kt vt q:=by
  intro j k b9;have a0:=iT hk b9;obtain⟨cp,e1,Q⟩:=Kz b7 a0;obtain⟨k0,e3,e4⟩:=b2 j cp e1;rw[bK,b9]at e3;simp at e3;obtain⟨g,e5,e6⟩:=e4 k e3.symm;exact⟨g,hg _ _ e5,e6 Q⟩
 have a4:∀k,k∈tp f→∃j,aV f j=some (some k):=λk d0=>let⟨j,R⟩:=Ky d0;⟨j,b8 j _ R⟩
 let F':Nat→Prop:=λb=>F b∨∃k c,h k=some c∧c.own=true∧(ρ k).blk=some b∧∀j,aV f j≠some (some k)
 obtain⟨c1,c2,c3,c4,_⟩:=qF (F':=F') hh hg hv b0 b1 rfl AN (KA b7) (λb y=>y);refine⟨F',c1,c2,λk d8=>?_,?_⟩
 ·unfold fN;cases M:aV f k with
  |none=>rfl
  |some q=>exact absurd (iT hk M) (by omega)
 intro p x e w' ⟨ρ2,vs,he,b3,c0,D,A,b4⟩ c5 hW
 let ρn:Nat→Pl:=λk=>if N≤k∧k<N+W∧rn f N (k-N)=k then ρ2 (k-N)else ρ k
 have a1:∀{k:Nat},ρ k≠ .un→¬(N≤k∧k<N+W∧rn f N (k-N)=k):=λs q=>s (hN _ q.1 q.2.1);have u:∀{k:Nat},ρ k≠ .un→ρn k=ρ k:=λs=>ag (a1 s)
 have S:ED (rn f N) ρ2 ρn:=by
  intro j R
  have a0:j<W:=by
   by_cases q:p.hp.length≤j
   ·exact absurd (b4 j q) R
   ·omega
  have fresh:rn f N j=N+j→ρn (rn f N j)=ρ2 j:=by
   intro e1;show(if _ then _ else _)=_;rw[e1,an ⟨by omega,by omega,by rw[show N+j-N=j by omega];exact e1⟩]
   congr 1;omega
  cases M:aV f j with
  |none=>exact fresh (by simp[rn,M])
  |some k=>cases k with
   |none=>exact fresh (by simp[rn,M])
   |some k=>
    have d3:=iT hk M
    have e1:ρ2 j=ρ k:=by
     rcases b3 j d3 with q|q
     ·rw[q];simp only[fN,M]
     ·exact absurd q R
    have Q:rn f N j=k:=by simp[rn,M]
    rw[Q,u (by rw[←e1];exact R),e1]
 have a5:dK ρ ρn:=λk s=>u s
 have c6:∀k,ρ k= .un→ρn k≠ .un→N≤k∧k<N+W:=by
  intro k H J;by_cases q:N≤k∧k<N+W∧rn f N (k-N)=k
  ·exact⟨q.1,q.2.1⟩
  ·exact absurd H (by have:ρn k=ρ k:=ag q;rw[←this];exact J)
 have hU:∀k,(∃g,bh h (qI (tp f)++qJ (HP.inst (rn f N) 0 p.hp x.2)) k=some g∧(k,g)∈HP.inst (rn f N) 0 p.hp x.2)∨
  (bh h (qI (tp f)++qJ (HP.inst (rn f N) 0 p.hp x.2)) k=none∧k∈tp f)∨
  (bh h (qI (tp f)++qJ (HP.inst (rn f N) 0 p.hp x.2)) k=h k∧k∉tp f∧∀g,(k,g)∉HP.inst (rn f N) 0 p.hp x.2):=by
  intro k;rw[cx];rcases qL (HP.inst (rn f N) 0 p.hp x.2) (bh h (qI (tp f))) k with⟨g,t,B⟩|⟨t,B⟩
  ·exact .inl ⟨g,t,B⟩
  ·obtain⟨d1,d2⟩:=qK (tp f) h k;by_cases y:k∈tp f
   ·exact .inr (.inl ⟨by rw[t];exact d1 y,y⟩)
   ·exact .inr (.inr ⟨by rw[t];exact d2 y,y,B⟩)
 generalize b5:bh h (qI (tp f)++qJ (HP.inst (rn f N) 0 p.hp x.2))=hn at hU
 have i:∀{k:Nat}{g:Ch},hn k=some g→(∃j c G,k=rn f N j∧g=CP.inst (rn f N) c G∧c.plain=true∧dV p x j=some (c.inst gM G))∨(h k=some g∧k∉tp f):=by
  intro k g s;rcases hU k with⟨b6,t,B⟩|⟨t,_⟩|⟨t,B,_⟩
  ·rw[s]at t;simp at t;subst t;obtain⟨j,c,G,_,Q,e3,e4,e5⟩:=HP.mem_inst B;exact .inl ⟨j,c,G,Q,e3,EF c5 (by simpa using e4),e5⟩
  ·rw[s]at t;simp at t
  ·rw[s]at t;exact .inr ⟨t.symm,B⟩
 have n:∀{j:Nat}{c:CP}{G:c.val}{b:Nat},dV p x j=some (c.inst gM G)→(ρn (rn f N j)).blk=some b→(ρ2 j).blk=some b∧oJ ρ2 (dV p x) b:=by
  intro j c G b H J;have:=D.ok j _ H;rw[S j this.un]at J;exact⟨J,j,_,H,CP.own_inst _,J⟩
 have a2:∀{k:Nat}{g:Ch}{b:Nat},h k=some g→k∉tp f→g.own=true→(ρ k).blk=some b→F' b:=by
  intro k g b H J O z;exact .inr ⟨k,g,H,O,z,λj R=>J (wF R)⟩
 have c7:∀b,oJ (fN ⟨f,[]⟩ ρ) (dV c.inp v) b→oJ ρ h b:=c4
 have d4:∀b,Av F ρn hn b→Av F' ρ2 (dV p x) b:=by
  rintro b (y|⟨k,g,H,J,O⟩)
  ·exact .inl (.inl y)
  ·rcases i H with⟨j,c',G,rfl,rfl,_,e⟩|⟨z,h5⟩
   ·exact .inr (n e O).2
   ·rw[u (hh.ok k g z).un]at O;exact .inl (a2 z h5 J O)
 have d5:∀b,b<w.heap.size→oJ ρn hn b→oJ ρ h b:=by
  rintro b y ⟨k,g,H,J,O⟩;rcases i H with⟨j,c',G,rfl,rfl,_,e⟩|⟨z,h5⟩
  ·exact c7 b (A.own b y (n e O).2)
  ·rw[u (hh.ok k g z).un]at O;exact⟨k,g,z,J,O⟩
 have a6:Mv ρ w h ρn w' hn:=⟨A.os,A.tape,A.output,A.size,λb y ho=>A.block b y (λq=>ho (c7 b q)),d5⟩;have a7:po w' (Av F' ρ2 (dV p x)) w' (Av F ρn hn):=⟨aC _,λ_ _ _ _ ho _=>ho,λb _ y=>d4 b y⟩
 have U:∀{k:Nat}{g:Ch}{b:Nat},h k=some g→k∉tp f→g.own=true→(ρ k).blk=some b→w'.heap[b]?=w.heap[b]?:=by
  intro k g b H J O z;refine A.block b (hh.fr k g b H O z).1 ?_;rintro⟨j,cj,t,B,q3⟩;exact(c1.fr j cj b t B q3).2 (a2 H J O z)
 refine⟨kr vs,he,ρn,a5,c6,?_,?_,?_⟩
 ·rw[b5];have:=Kv (SP.res_ren S c0);exact this.evo a7 (dK.refl _)
 ·rw[b5];refine⟨λk g s=>?_,λk k' g b6 b s c8 ho c9 y K=>?_,λk g b s ho y=>?_,λk m kt vt X Y s=>?_,λb y=>bq (hh.gs b y) A.size⟩
  ·rcases i s with⟨j,c',G,rfl,rfl,_,e⟩|⟨z,h5⟩
   ·exact(CP.ren S (D.ok j _ e)).evo a7 (dK.refl _) (λ_ _=>rfl)
   ·refine(hh.ok k g z).evo a6.evo a5 λb C=>?_;cases g<;>simp only[Ch.on]at C
    case mit m kt vt X Y=>
     obtain⟨l,hl⟩:=hh.it k m kt vt X Y z;rcases C with C|C
     ·exact U z h5 rfl C
     ·refine U hl (λL=>?_) rfl C;obtain⟨j,R⟩:=a4 m L;obtain⟨g,t,B⟩:=E j m R;rw[hl]at t;simp at t;exact B _ _ _ t.symm
    all_goals first|exact C.elim|exact U z h5 rfl C
  ·rcases i s with⟨j,c',G,rfl,rfl,_,e⟩|⟨z,h5⟩<;>rcases i c8 with⟨j',d9,e0,rfl,rfl,_,e'⟩|⟨a3,d6⟩
   ·obtain⟨t,_⟩:=n e y;obtain⟨d7,_⟩:=n e' K;rw[D.inj j j' _ _ b e e' (CP.own_inst _) (CP.own_inst _) t d7]
   ·obtain⟨t,_⟩:=n e y;rw[u (hh.ok k' _ a3).un]at K;exact absurd (a2 a3 d6 c9 K) (D.fr j _ b e (CP.own_inst _) t).2
   ·obtain⟨t,_⟩:=n e' K;rw[u (hh.ok k _ z).un]at y;exact absurd (a2 z h5 ho y) (D.fr j' _ b e' (CP.own_inst _) t).2
   ·rw[u (hh.ok k _ z).un]at y;rw[u (hh.ok k' _ a3).un]at K;exact hh.inj k k' g b6 b z a3 ho c9 y K
  ·rcases i s with⟨j,c',G,rfl,rfl,_,e⟩|⟨z,h5⟩
   ·obtain⟨t,_⟩:=n e y;obtain⟨s1,s2⟩:=D.fr j _ b e (CP.own_inst _) t;exact⟨s1,λq=>s2 (.inl q)⟩
   ·rw[u (hh.ok k _ z).un]at y;obtain⟨s1,s2⟩:=hh.fr k g b z ho y;exact⟨bq s1 A.size,s2⟩
  ·rcases i s with⟨j,c',G,rfl,e1,Q,_⟩|⟨z,h5⟩
   ·cases c'<;>simp[CP.inst,CP.plain]at e1 Q
   ·obtain⟨l,hl⟩:=hh.it k m kt vt X Y z;refine⟨l,?_⟩
    have L:m∉tp f:=by
     intro L;obtain⟨j,R⟩:=a4 m L;obtain⟨g,t,B⟩:=E j m R;rw[hl]at t;simp at t;exact B _ _ _ t.symm
    rcases hU m with⟨b6,t,B⟩|⟨_,B⟩|⟨t,_⟩
    ·exfalso;obtain⟨j,c,G,_,Q,e3,e4,e5⟩:=HP.mem_inst B;have a8:=(D.ok j _ e5).un;have a9:=(hh.ok m _ hl).un;cases M:aV f j with
     |none=>
      have:m=N+j:=by rw[Q];simp[rn,M]
      have a0:j<W:=by
       by_cases q:p.hp.length≤j
       ·exact absurd (b4 j q) a8
       ·omega
      exact a9 (hN m (by omega) (by omega))
     |some k0=>cases k0 with
      |none=>
       have:m=N+j:=by rw[Q];simp[rn,M]
       have a0:j<W:=by
        by_cases q:p.hp.length≤j
        ·exact absurd (b4 j q) a8
        ·omega
       exact a9 (hN m (by omega) (by omega))
      |some k0=>
       have:m=k0:=by rw[Q];simp[rn,M]
       subst this;exact L (wF M)
    ·exact absurd B L
    ·rw[t];exact hl
 ·rw[b5];exact a6
theorem wG{c:Ct}{f:FuncId}{args:List V}{vals:List Value}{t:Tr (V×dH)}(E:bO P f c)
 (hh:dn F ρ w h) (G:∀k b,get k=some b→h k=some b) (H:∀k,N≤k→k<N+W→ρ k= .un) (B:F2 (aS w (Av F ρ h) ρ) args vals)
 (J:(execOp a.eval o).run P w= .ok (.enter f vals.toArray) w) (i:AM c args get N W=some t):OW P F ρ w h N W o a t:=by
 intro K Q C;unfold AM at i;split at i
 case isFalse=>simp at i
 rename_i p;split at i
 case h_2=>simp at i
 rename_i v L u M;split at i
 case isFalse=>simp at i
 rename_i m;simp only[aF]at m;simp at i;subst i;obtain⟨l,rfl,x⟩:=yK M;obtain⟨O,D,R⟩:=js (l:=l) hh G;have z:F2 (aS w (Av F ρ (bh h (ku l get))) ρ) args vals:=F2.imp (λ_ _=>aS.evo D.evo (dK.refl ρ)) B;obtain⟨S,U,X,Y,g4⟩:=KC (W:=W) O R H z x m.1 m.2;rw[cC]at C;have g:vals.length=c.nargs:=by rw[←B.length];exact p
 have n:=E (c.inp.put v) _ C S (fN ⟨L,[]⟩ ρ) w vals g (by rw[cc.get_put];exact U) (by rw[cc.get_put,←g];exact X) Y;unfold Oper.wp;rw[J];show Calls P f _ w _;refine n.mono ?_;rintro e q ⟨y,s,j⟩;unfold EE at s;split at s
 case isFalse=>exact s.elim
 rename_i A;simp only[aF,ah]at A;rw[cc.get_put]at j;obtain⟨r,rfl,ρ',p1,p2,p3,p4,p5⟩:=g4 _ _ e q j A.1 A.2;refine s r q ⟨ρ',p1,p2,?_,?_,?_⟩
 ·show aS _ (Av F ρ' (bh h (ku l get++_))) ρ' _ _;rw[cx];exact p3
 ·show dn F ρ' q (bh h (ku l get++_));rw[cx];exact p4
 ·show Mv ρ w h ρ' q (bh h (ku l get++_));rw[cx];exact D.trans p5
theorem nh{f:FuncId}{args:List V}{vals:List Value}(e:eL P f=true)
 (hh:dn F ρ w h) (j:∀k b,get k=some b→h k=some b) (m:∀k,N≤k→k<N+W→ρ k= .un) (n:F2 (aS w (Av F ρ h) ρ) args vals)
 (g:(execOp a.eval o).run P w=(callFunc f vals.toArray).run P w):∀(l:List Ct),(∀c∈l,bO P f c)→OW P F ρ w h N W o a (kw l args get N W)
 |[],_=>OW.stuck
 |c::r,p=>by
  simp only[kw];rw[jr e]at g;split
  ·rename_i t q;exact wG (p c (by simp)) hh j m n g q
  ·exact nh e hh j m n (by rw[jr e];exact g) r (λs i=>p s (aE _ i))
end
end
section
def Cu:eX→Nat→eX
 |[],_=>[]
 |p::r,k=>if p.1=k then Cu r k else p::Cu r k
def EG:eX→Nat→Ch→eX
 |[],k,c=>[(k,c)]
 |p::r,k,c=>if p.1=k then(k,c)::r else p::EG r k c
def mo:eX→dH→eX
 |h,[]=>h
 |h,(k,none)::r=>mo (Cu h k) r
 |h,(k,some c)::r=>mo (EG h k c) r
theorem qM:∀(h:eX)(k:Nat),aV (Cu h k)=cI (aV h) k none
 |[],k=>by funext j;simp[Cu,aV,cI]
 |p::r,k=>by
  funext j;have b:=congrFun (qM r k) j;simp only[Cu];split
  ·rename_i e;rw[b];simp only[cI,aV];split
   ·rfl
   ·rw[ag (by omega)]
  ·rename_i e;simp only[aV,cI]at b⊢;split
   ·rename_i c;rw[ag (by omega)]
   ·exact b
theorem qN:∀(h:eX)(k:Nat)(c:Ch),aV (EG h k c)=cI (aV h) k (some c)
 |[],k,c=>by
  funext j;simp only[EG,aV,cI];by_cases e:k=j
  ·simp[e]
  ·rw[ag e,ag (by omega)]
 |p::r,k,c=>by
  funext j;have b:=congrFun (qN r k c) j;simp only[EG];split
  ·rename_i e;simp only[aV,cI];by_cases f:k=j
   ·simp[f]
   ·rw[ag f,ag (by omega),ag (by omega)]
  ·rename_i e;simp only[aV,cI]at b⊢;split
   ·rename_i g;rw[ag (by omega)]
   ·exact b
theorem dI:∀(u:dH)(h:eX),aV (mo h u)=bh (aV h) u
 |[],_=>rfl
 |(k,none)::r,h=>by simp only[mo,bh];rw[dI r,qM]
 |(k,some c)::r,h=>by simp only[mo,bh];rw[dI r,qN]
def wH(l:List (Nat×Nat)):List V:=l.map λp=>sc (.ptr p.1 p.2)
def cmpNm:String:=(Extern.BytealgCompare.rows.map Prod.fst).headD ""
def EH(P:Program)(g:FuncId):Bool:=match P.funcs[g]? with
 |some fn=>fn.name==cmpNm&&fn.origin== "" &&fn.body.isNone
 |none=>false
def sw(a b:List (BitVec 8)):Int:=Extern.BytealgCompare.cmp (cd a) (cd b)
def KD(vs:List V):Tr (V×dH):=match vs with
 |[x,y]=>match x.asD (.sl .u8),y.asD (.sl .u8)with
  |some a,some b=> .leaf (sc (.d .i64 (sw a b)),[])
  |_,_=> .stuck
 |_=> .stuck
def Cv(P:Program)(Γ:bu)(o:Oper)(e:Operand→V)(get:Nat→Option Ch)(N W:Nat):Tr (V×dH):=
 match o.op with
 | .call c=>match c.callee with
   | .value f=>match(e f).one? with
     |some (.fn g first cap)=>if EH P g then KD (wH first++(c.args.toList.map e++wH cap))else kw (ks Γ g) (wH first++(c.args.toList.map e++wH cap)) get N W
     |_=> .stuck
   | .invoke recv name=>match(e recv).one? with
     |some (.ifc t k i)=>match Cp P t name with
      |some (g,b)=>if b=true∧nS P t=true then kw (ks Γ g) (sc (.ptr k i)::c.args.toList.map e) get N W else .stuck
      |none=> .stuck
     |_=> .stuck
   | .builtin _=>kp P o e get N
 |_=>kp P o e get N
section
variable{P:Program}{F:Nat→Prop}{ρ:Nat→Pl}{w:World}{h get:Nat→Option Ch}{N W:Nat}{a:Act}{o:Oper}{Γ:bu}
theorem kz{A:Nat→Prop}:∀{l:List (Nat×Nat)}{vs:List Value},F2 (jZ ρ) l vs→F2 (aS w A ρ) (wH l) vs
 |[],[],_=>trivial
 |_::_,v::_,⟨b,c⟩=>⟨aH.2 ⟨v,b,rfl⟩,kz c⟩
theorem yL{t:TypeId}{name:String}{f:FuncId}{n:Nat}{v:Value}(h:Cp P t name=some (f,true))(b:nS P t=true):(method (n+1) t v name).run P w= .ok (f,v) w:=by
 obtain⟨i,m,c,g,j,l⟩:=AK h;have p:(typeInfo t).run P w= .ok i w:=by simp[typeInfo,c]
 unfold nS at b;split at b
 case h_2=>simp at b
 rename_i e q;simp only[method,bE,p,aW,g,j,follow,bt,l,receiverAt,run_underlying q,Place.get]
theorem oW{A:Nat→Prop}{l:List (BitVec 8)}{v:Value}(h:ii w A (.sl .u8) l v):(Extern.Bytes.bytesOf v).run P w= .ok (cd l) w:=by
 obtain⟨z,i,f⟩:=h;obtain⟨u,rfl,m⟩:=i;simp[Ty.agg]at f;subst f;rcases m with⟨b,c,cap,n,rfl,_,_,_,p,q⟩|⟨rfl,a,rfl⟩
 ·have r:n=rU ca l:=kh.1 p
  have:=Lib.run_loadBytesX (P:=P) w (l.map λx=>(x.toNat:Int)) ⟨b,c,none⟩ .empty (λj x g=>by
   have e:(⟨b,c,none⟩:Addr).add j=⟨b,c+j,none⟩:=by unfold Addr.add;split<;>simp_all
   rw[e];refine q j _ ?_;rw[r];simp only[List.getElem?_map,lJ]at g⊢;obtain⟨y,s,t⟩:=g;exact⟨y,s,by simp[ca,t]⟩)
  rw[bT]at this;simp only[Extern.Bytes.bytesOf,this]
  congr 1
  apply ByteArray.ext;simp[cd,Lib.bytesOf,ByteArray.empty,ByteArray.emptyWithCapacity];show rU _ l=_;refine List.map_congr_left λx _=>?_;apply UInt8.toNat.inj;simp
 ·cases a with
  |none=>rfl
  |some a=>rfl
theorem EI{fn:Func}(h:fn.name=cmpNm):Extern.find fn=some Extern.BytealgCompare.compare:=by
 unfold Extern.find;rw[h];kernel_rfl
theorem uL{fn:Func}(h:fn.name=cmpNm)(b:fn.origin= ""):Extern.findNext fn=none:=by
 unfold Extern.findNext;rw[h,b];kernel_rfl
theorem KE{A:Nat→Prop}{g:FuncId}{a b:List (BitVec 8)}{u v:Value}(c:EH P g=true)(j:ii w A (.sl .u8) a u)(l:ii w A (.sl .u8) b v):
 (callFunc g #[u,v]).run P w= .ok (.value (.int .i64 (sw a b))) w:=by
 unfold EH at c;cases f:P.funcs[g]? with
 |none=>simp[f]at c
 |some fn=>
  simp only[f,aF,aQ]at c;obtain⟨⟨i,m⟩,n⟩:=c;have p:fn.body=none:=by simpa using n
  have q:(Go.program).run P w= .ok P w:=rfl;have r:(fn.name== "runtime.NumGoroutine")=false:=by rw[i];decide
  simp only[callFunc,bE,q,aW,f,r,p,Option.isNone_none,uL i m,EI i];have e:Extern.BytealgCompare.compare #[u,v]=(do pure (goInt (Extern.BytealgCompare.cmp (←Extern.Bytes.bytesOf u) (←Extern.Bytes.bytesOf v)))):=rfl
  have s:(Extern.BytealgCompare.compare #[u,v]).run P w= .ok (.int .i64 (sw a b)) w:=by
   rw[e];simp only[bE,oW j,oW l,aW,bt];rfl
  have t:∀x,(mark x).run P w= .ok () w:=λ_=>rfl;simp[t,s]
theorem tq(hΓ:aP P Γ){E:Operand→V}(hh:dn F ρ w h)(hg:∀k b,get k=some b→h k=some b)(i:∀x,aS w (Av F ρ h) ρ (E x) (a.eval x))(hN:∀k,N≤k→k<N+W→ρ k= .un)(hW:0<W):
 OW P F ρ w h N W o a (Cv P Γ o E get N W):=by
 have m:OW P F ρ w h N W o a (kp P o E get N):=wA hh hg i (hN N (aC _) (by omega)) hW;unfold Cv;split
 case h_2=>exact m
 rename_i c p;obtain⟨callee,args,ts⟩:=c;simp only
 have j:∀(g:FuncId)(G:List V)(H:List Value),F2 (aS w (Av F ρ h) ρ) G H→(execOp a.eval o).run P w=(callFunc g H.toArray).run P w→OW P F ρ w h N W o a (kw (ks Γ g) G get N W):=by
  intro g G H J L;cases hc:ks Γ g with
  |nil=>exact OW.stuck
  |cons c0 r0=>
   have q:=(hΓ.get (f:=g) (c:=c0) (by rw[hc];simp)).1;rw[←hc];exact nh q hh hg hN J L _ (λc M=>(hΓ.get M).2)
 split
 ·rename_i f;split
  case h_2=>exact OW.stuck
  rename_i g first cap hf
  obtain⟨O,R,r,s,h3⟩:=aL hf (i f);simp at r;split
  ·rename_i z;have e:=F2.append (kz (A:=Av F ρ h) (w:=w) s) (F2.append (jq i args.toList) (kz h3));unfold KD;split
   case h_2=>exact OW.stuck
   rename_i x y S;split
   case h_2=>exact OW.stuck
   rename_i da db U X;rw[S]at e
   obtain⟨u,v,Y,hu,J⟩:∃u v,O++(args.toList.map a.eval++R)=[u,v]∧aS w (Av F ρ h) ρ x u∧aS w (Av F ρ h) ρ y v:=by
    generalize O++(args.toList.map a.eval++R)=l at e
    match l,e with
    |[u,v],⟨q1,q2,_⟩=>exact⟨u,v,rfl,q1,q2⟩
   have B:=KE z (V.asD_ok U hu) (V.asD_ok X J);intro K Q hs;unfold Oper.wp
   have L:(execOp a.eval o).run P w=(callFunc g #[u,v]).run P w:=by
    simp only[execOp,p,resolve,r,Deferred.ofValue,bE,bt,aW,invoke]
    congr 2
    apply Array.ext';have:=Y;simp at this⊢;exact this
   rw[L,B];exact hs _ _ (bJ.pure hh (aH.2 rfl))
  refine j g _ (O++(args.toList.map a.eval++R)) (F2.append (kz s) (F2.append (jq i _) (kz h3))) ?_;simp only[execOp,p,resolve,r,Deferred.ofValue,bE,bt,aW,invoke]
  congr 2
  apply Array.ext';simp
 ·rename_i recv name;split
  case h_2=>exact OW.stuck
  rename_i t k a1 hr;split
  case h_2=>exact OW.stuck
  rename_i g b hm;split
  case isFalse=>exact OW.stuck
  rename_i hb;obtain⟨rfl,hp⟩:=hb;obtain⟨v,r,s⟩:=aL hr (i recv);simp at s;refine j g _ (v::args.toList.map a.eval) ⟨aH.2 ⟨v,r,rfl⟩,jq i _⟩ ?_;have a0:(Go.program).run P w= .ok P w:=rfl;have hd:P.types.size+Made.depth=(P.types.size+(Made.depth-1))+1:=rfl;have C:=yL (w:=w) (n:=P.types.size+(Made.depth-1)) (v:=v) hm hp;rw[←hd]at C;simp only[execOp,p,resolve,s,bE,bt,aW,invoke];have D:(#[Value.iface t v]++Array.map a.eval args)[0]?=some (Value.iface t v):=by rw[Array.getElem?_append_left (by simp)];rfl
  simp only[D,callMethod,bE,a0,aW,C]
  congr 2
  apply Array.ext';simp;exact ba (by simp)
 ·exact m
end
structure St where
 slots:List V
 heap:eX
 next:Nat
def eM(slots:List V)(dst:Option Tmp)(x:V):List V:=
 match dst with
 |some d=>slots.set d x
 |none=>slots
theorem ni{w:World}{A:Nat→Prop}{ρ:Nat→Pl}{slots:List V}{a:Act}(h:F2 (aS w A ρ) slots a.tmps.toList)(dst:Option Tmp){x:V}{v:Value}(b:aS w A ρ x v):F2 (aS w A ρ) (eM slots dst x) (a.put dst v).tmps.toList:=by
 cases dst with
 |none=>exact h
 |some d=>
  simp only[eM,Act.put,Array.toList_setIfInBounds];exact h.set d b
structure eB where
 F:Nat→Prop
 ρ:Nat→Pl
 w:World
 h:Nat→Option Ch
 n:Nat
 dk:Bool
def mark(D:Nat):Deferred:={target:= .collected D,args:= #[]}
def wI(B:eB)(ρ:Nat→Pl)(w:World)(h:Nat→Option Ch)(b:List Deferred):Prop:=
 ∃l:List Nat,b=l.map mark∧l.Nodup∧∀D∈l,B.dk=true∧B.w.heap.size≤D∧D<w.heap.size∧w.heap[D]?=some (.deferred (some []))∧¬oJ ρ h D
theorem wI.nil{B:eB}{ρ:Nat→Pl}{w:World}{h:Nat→Option Ch}{b:List Deferred}(e:b=[]):wI B ρ w h b:=⟨[],e,List.nodup_nil,λ_ c=>by simp at c⟩
theorem wI.no{B:eB}{ρ:Nat→Pl}{w:World}{h:Nat→Option Ch}{b:List Deferred}(c:wI B ρ w h b)(e:B.dk=false):b=[]:=by
 obtain⟨l,rfl,_,f⟩:=c;cases l with
 |nil=>rfl
 |cons D l=>have:=(f D (aM ..)).1;rw[e]at this;cases this
theorem wI.mv{B:eB}{ρ ρ':Nat→Pl}{w w':World}{h h':Nat→Option Ch}{f:List Deferred}(i:wI B ρ w h f)(b:Mv ρ w h ρ' w' h'):wI B ρ' w' h' f:=
 let⟨l,e,j,m⟩:=i
 ⟨l,e,j,λD n=>let⟨p,r,c,s,g⟩:=m D n;⟨p,r,bq c b.size,(b.block D c g).trans s,λq=>g (b.own D c q)⟩⟩
theorem wI.own{B:eB}{ρ ρ':Nat→Pl}{w:World}{h h':Nat→Option Ch}{c:List Deferred}(g:wI B ρ w h c)(i:∀b,b<w.heap.size→oJ ρ' h' b→oJ ρ h b):wI B ρ' w h' c:=
 let⟨l,e,j,m⟩:=g
 ⟨l,e,j,λD n=>let⟨p,r,f,s,t⟩:=m D n;⟨p,r,f,s,λq=>t (i D f q)⟩⟩
structure eY(R:Nat)(B:eB)(σ:St)(ρ:Nat→Pl)(a:Act)(w:World):Prop where
 defers:wI B ρ w (aV σ.heap) a.defers
 slots:F2 (aS w (Av B.F ρ (aV σ.heap)) ρ) σ.slots a.tmps.toList
 heap:dn B.F ρ w (aV σ.heap)
 mv:Mv B.ρ B.w B.h ρ w (aV σ.heap)
 fresh:∀k,σ.next≤k→ρ k= .un
 root:∀k,k<R→ρ k=B.ρ k∨ρ k= .un
 rn:R≤σ.next
 len:a.tmps.size=B.n
theorem iU(a:Act)(dst:Option Tmp)(v:Value):(a.put dst v).tmps.size=a.tmps.size:=by
 cases dst<;>simp[Act.put]
theorem eY.step{R:Nat}{B:eB}{σ:St}{ρ:Nat→Pl}{a:Act}{w w':World}{W:Nat}{y:V}{u:dH}{v:Value}{dst:Option Tmp}(b:eY R B σ ρ a w)(l:bJ B.F ρ w (aV σ.heap) σ.next W y u v w'):
 ∃ρ',dK ρ ρ'∧eY R B ⟨eM σ.slots dst y,mo σ.heap u,σ.next+W⟩ ρ' (a.put dst v) w':=by
 obtain⟨ρ',c,i,m,n,f⟩:=l;refine⟨ρ',c,?_,ni (F2.imp (λ_ _=>aS.evo (by rw[dI];exact f.evo) c) b.slots) dst (by rw[dI];exact m),by rw[dI];exact n,by rw[dI];exact b.mv.trans f,λk g=>?_,λk g=>?_,?_,(iU ..).trans b.len⟩
 ·rw[dI];cases dst<;>exact b.defers.mv f
 ·by_cases e:ρ' k= .un
  ·exact e
  ·simp only at g;have:=i k (b.fresh k (by omega)) e;omega
 ·by_cases e:ρ k= .un
  ·by_cases j:ρ' k= .un
   ·exact .inr j
   ·have:=i k e j;have:=b.rn;omega
  ·rw[c k e];exact b.root k g
 ·have:=b.rn;simp only;omega
inductive Wa where
 |yes
 |no
 |ask (t:Nat) (b want:Bool)
 |bad
def gi(ops:Array Oper)(slots:List V)(o:Oper):Wa:=
 match o.guard with
 |none=> .yes
 |some (j,c)=>
  match(ops[j]?).bind (·.dst)with
  |none=> .no
  |some t=>
   match slots.getD t (.tup [])with
   | .val false [.k (.bool b)]=>if b==c then .yes else .no
   | .val false [.d .bl b]=> .ask t b c
   | .tup []=> .no
   |_=> .bad
section
variable{w:World}{A:Nat→Prop}{ρ:Nat→Pl}{slots:List V}{a:Act}{ops:Array Oper}{o:Oper}
theorem Cw{j:Nat}{b:Bool}{t:Nat}(e:o.guard=some (j,b))(f:(ops[j]?).bind (·.dst)=some t):Region.wanted o (yielded ops a.tmps)=match a.tmps[t]? with
 |some (.bool c)=>c==b
 |_=>false:=by
 unfold Region.wanted;rw[e];simp only[yielded,f,Option.bind_some];cases g:a.tmps[t]? with
 |none=>simp
 |some z=>cases z<;>simp
theorem mq(h:F2 (aS w A ρ) slots a.tmps.toList):
 (gi ops slots o= .yes→Region.wanted o (yielded ops a.tmps)=true)∧(gi ops slots o= .no→Region.wanted o (yielded ops a.tmps)=false)∧
 (∀t b f,gi ops slots o= .ask t b f→Region.wanted o (yielded ops a.tmps)=(b==f)∧slots[t]?=some (.val false [.d .bl b])∧a.tmps[t]?=some (.bool b)):=by
 unfold gi;cases p:o.guard with
 |none=>simp[Region.wanted,p]
 |some v=>
  obtain⟨j,f⟩:=v;simp only;cases s:(ops[j]?).bind (·.dst)with
  |none=>
   simp only[reduceCtorEq,false_implies,implies_true,true_implies,and_true,true_and];unfold Region.wanted;rw[p];simp[yielded,s]
  |some t=>
   simp only;rw[Cw p s];have e:=ff h (.tmp t);simp only[dp,Act.eval]at e
   have n:∀c,a.tmps.getD t undef= .bool c→a.tmps[t]?=some (.bool c):=by
    intro c q;cases l:a.tmps[t]? with
    |none=>simp[l,undef]at q
    |some z=>simp[l]at q;rw[q]
   split
   ·rename_i b g;rw[g]at e;have i:=aH.1 e;simp[bf,Sc.val]at i;have m:=n b (by simpa using i);rw[m];split<;>simp_all
   ·rename_i b g;rw[g]at e;have i:=aH.1 e;simp[bf,Rd]at i;have m:=n b (by simpa using i);simp only[reduceCtorEq,false_implies,true_and,Wa.ask.injEq];rintro y B r ⟨rfl,rfl,rfl⟩;rw[m];refine⟨rfl,?_,rfl⟩;simp only[bv]at g;cases l:slots[t]? with
    |none=>simp[l]at g
    |some z=>simp[l]at g;rw[g]
   ·rename_i g;rw[g]at e;obtain⟨u,i,x⟩:=e;have:u=[]:=by match u,x with|[],_=>rfl
    subst this;simp only[reduceCtorEq,false_implies,implies_true,true_implies,and_true,true_and];cases l:a.tmps[t]? with
    |none=>rfl
    |some z=>
     simp[l]at i;subst i;rfl
   ·simp
end
end
section
def Live{R:Type}(t:Tr R):Prop:=∀Q,t.sat Q→∃q,Q q
namespace Live
variable{R S:Type}
theorem stuck:Live (.stuck:Tr R):=λ_ h=>h.elim
theorem leaf{r:R}:Live (.leaf r):=λ_ h=>⟨r,h⟩
theorem need{p:Prop}{x:Tr R}(h:p→Live x):Live (.need p x):=λQ a=>h a.1 Q a.2
theorem ite{b:Bool}{x y:Tr R}(h:b=true→Live x)(h':b=false→Live y):Live (.ite b x y):=λQ a=>by
 cases b
 ·exact h' rfl Q (a.2 rfl)
 ·exact h rfl Q (a.1 rfl)
theorem all{β:Type}{p:β→Prop}{k:β→Tr R}(h:∃b,p b∧Live (k b)):Live (.all β p k):=λQ a=>let⟨b,c,e⟩:=h;e Q (a b c)
theorem needs{l:List Prop}{x:Tr R}(h:Live x):Live (.needs l x):=by
 induction l with
 |nil=>exact h
 |cons p r a=>exact need λ_=>a
theorem ofOpt{x:Option R}:Live (Tr.ofOpt x):=by
 cases x
 ·exact stuck
 ·exact leaf
theorem bind{t:Tr R}{f:R→Tr S}(h:Live t)(b:∀r,Live (f r)):Live (t.bind f):=λQ a=>by
 rw[cC]at a;obtain⟨r,c⟩:=h _ a;exact b r Q c
end Live
theorem kB{R S:Type}{A:Tr R}(a:Live A):∀{B:Tr S}{Q:R→S→Prop},(A.sat λr=>B.sat (Q r))→B.sat λs=>A.sat λr=>Q r s
 | .leaf _,_,h=>h
 | .ite _ x y,_,h=>⟨λc=>kB a (B:=x) (bS (λ_ q=>q.1 c) h),λc=>kB a (B:=y) (bS (λ_ q=>q.2 c) h)⟩
 | .need _ x,_,h=>⟨let⟨_,e⟩:=a _ h;e.1,kB a (B:=x) (bS (λ_ q=>q.2) h)⟩
 | .all _ _ k,_,h=>λb c=>kB a (B:=k b) (bS (λ_ q=>q b c) h)
 | .fin,_,_=>trivial
 | .stuck,_,h=>let⟨_,e⟩:=a _ h;e.elim
section
variable{P:Program}{get:Nat→Option Ch}{N W:Nat}
theorem nk{R:Type}{j:Int}{f:Nat→Tr R}(a:∀q,Live (f q)):∀(n k:Nat),Live (iw j f n k):=by
 intro n
 induction n with
 |zero=>intro k;unfold iw;(repeat' (first|split|exact Live.stuck|exact Live.leaf|exact Live.ofOpt|exact Live.needs Live.leaf|(refine Live.need λ_=>?_)|(refine Live.ite (λ_=>?_) (λ_=>?_))));rename_i h;exact h.elim
 |succ n b=>intro k;unfold iw;(repeat' (first|split|exact Live.stuck|exact Live.leaf|exact Live.ofOpt|exact Live.needs Live.leaf|(refine Live.need λ_=>?_)|(refine Live.ite (λ_=>?_) (λ_=>?_))));all_goals first|exact a _|exact b _
theorem pq{t:TypeId}{x i:V}:Live (fq P t x i get):=by
 unfold fq;(repeat' (first|split|exact Live.stuck|exact Live.leaf|exact Live.ofOpt|exact Live.needs Live.leaf|(refine Live.need λ_=>?_)|(refine Live.ite (λ_=>?_) (λ_=>?_))));exact nk (λ_=>Live.leaf) _ _
theorem wJ{t:TypeId}{x i:V}:Live (qj P t x i):=by
 unfold qj;(repeat' (first|split|exact Live.stuck|exact Live.leaf|exact Live.ofOpt|exact Live.needs Live.leaf|(refine Live.need λ_=>?_)|(refine Live.ite (λ_=>?_) (λ_=>?_))));exact nk (λ_=>Live.ofOpt) _ _
theorem wK{t:TypeId}{x:V}{lo hi a:Option V}:Live (jn P t x lo hi a get N):=by
 unfold jn;(repeat' (first|split|exact Live.stuck|exact Live.leaf|exact Live.ofOpt|exact Live.needs Live.leaf|(refine Live.need λ_=>?_)|(refine Live.ite (λ_=>?_) (λ_=>?_))))
 all_goals (unfold jn.cut;(repeat' (first|split|exact Live.stuck|exact Live.leaf|exact Live.ofOpt|exact Live.needs Live.leaf|(refine Live.need λ_=>?_)|(refine Live.ite (λ_=>?_) (λ_=>?_)))))
theorem uM{t:TypeId}{x y:V}:Live (mV P t x y get N):=by unfold mV;(repeat' (first|split|exact Live.stuck|exact Live.leaf|exact Live.ofOpt|exact Live.needs Live.leaf|(refine Live.need λ_=>?_)|(refine Live.ite (λ_=>?_) (λ_=>?_))))
theorem sx{t a:TypeId}{x y:V}:Live (aappendZ P t a x y get N):=by unfold aappendZ;(repeat' (first|split|exact Live.stuck|exact Live.leaf|exact Live.ofOpt|exact Live.needs Live.leaf|(refine Live.need λ_=>?_)|(refine Live.ite (λ_=>?_) (λ_=>?_))))
theorem yM{t:TypeId}{x y:V}:Live (wl P t x y N):=by unfold wl;(repeat' (first|split|exact Live.stuck|exact Live.leaf|exact Live.ofOpt|exact Live.needs Live.leaf|(refine Live.need λ_=>?_)|(refine Live.ite (λ_=>?_) (λ_=>?_))))
theorem sy{t a:TypeId}{x:V}:Live (kl P t a x get):=by unfold kl;(repeat' (first|split|exact Live.stuck|exact Live.leaf|exact Live.ofOpt|exact Live.needs Live.leaf|(refine Live.need λ_=>?_)|(refine Live.ite (λ_=>?_) (λ_=>?_))))
theorem yN{x:V}{b:Bool}:Live (ww x b get):=by
 unfold ww
 (repeat' (first|split|exact Live.stuck|exact Live.leaf|exact Live.ofOpt|exact Live.needs Live.leaf|(refine Live.need λ_=>?_)|(refine Live.ite (λ_=>?_) (λ_=>?_))))
 all_goals
  rename_i a _ _ c;cases a with
  |nil=>simp at c
  |cons z r=>exact Live.all ⟨(z,r),List.Perm.refl _,Live.leaf⟩
theorem wL{a:BinOp}{t:TypeId}{x y:V}:Live (qz P a t x y):=by
 unfold qz x8;(repeat' (first|split|(exact Live.all ⟨false,by simp,Live.leaf⟩)|exact Live.stuck|exact Live.leaf|exact Live.ofOpt|exact Live.needs Live.leaf|(refine Live.need λ_=>?_)|(refine Live.ite (λ_=>?_) (λ_=>?_))))
theorem nl{t:TypeId}{len:Nat}{parts:List (Nat×V)}:Live (fF P t len parts get N):=by
 unfold fF;split
 ·exact Live.leaf
 ·exact Live.stuck
theorem yO{o:Oper}{a:Operand→V}:Live (kp P o a get N):=by
 unfold kp x8;split<;>first|exact Live.leaf|exact Live.ofOpt|exact nl|exact wL|exact sy|exact yM|exact wK|exact pq|exact wJ|exact yN|exact Live.stuck|skip
 ·(repeat' (first|split|exact Live.stuck|exact Live.leaf|exact Live.ofOpt|exact Live.needs Live.leaf|(refine Live.need λ_=>?_)|(refine Live.ite (λ_=>?_) (λ_=>?_))))
 ·unfold Ku;(repeat' (first|split|exact Live.stuck|exact Live.leaf|exact Live.ofOpt|exact Live.needs Live.leaf|(refine Live.need λ_=>?_)|(refine Live.ite (λ_=>?_) (λ_=>?_))))
 ·unfold ld;(repeat' (first|split|exact Live.stuck|exact Live.leaf|exact Live.ofOpt|exact Live.needs Live.leaf|(refine Live.need λ_=>?_)|(refine Live.ite (λ_=>?_) (λ_=>?_))))
 ·split
  ·unfold qB x8;split<;>first|exact Live.ofOpt|exact Live.stuck|skip
   split
   ·exact uM
   ·exact sx
  ·exact Live.stuck
end
def bg(Γ:bu):Prop:=∀p∈Γ,∀c∈p.2,∀x,Live (c.spec x)
theorem bg.get{Γ:bu}(h:bg Γ){f:FuncId}{c:Ct}(a:c∈ks Γ f)(x:c.inp.den):Live (c.spec x):=by
 induction Γ with
 |nil=>simp[ks]at a
 |cons p r b=>
  simp only[ks]at a;split at a
  ·rename_i e;subst e;exact h p (by simp) c a x
  ·exact b (λq g=>h q (aE _ g)) a
theorem wM{l:List Ct}{args:List V}{get:Nat→Option Ch}{N W:Nat}(h:∀c∈l,∀x,Live (c.spec x)):Live (kw l args get N W):=by
 induction l with
 |nil=>exact Live.stuck
 |cons c r e=>
  simp only[kw];split
  ·rename_i t a;unfold AM at a;split at a
   case isFalse=>simp at a
   split at a
   case h_2=>simp at a
   split at a
   case isFalse=>simp at a
   simp at a;subst a;refine Live.bind (h c (by simp) _) λy=>?_;unfold EE;split
   ·exact Live.leaf
   ·exact Live.stuck
  ·exact e λf b=>h f (aE _ b)
theorem Cx{vs:List V}:Live (KD vs):=by
 unfold KD
 (repeat' split)<;>first|exact Live.leaf|exact Live.stuck
theorem wN{P:Program}{Γ:bu}(h:bg Γ){o:Oper}{a:Operand→V}{get:Nat→Option Ch}{N W:Nat}:Live (Cv P Γ o a get N W):=by
 unfold Cv
 repeat' split
 all_goals first|exact Live.stuck|exact yO|exact wM (λc b x=>h.get b x)|exact Cx
end
section
def oa(a:List Nat)(o:Oper):Nat:=
 o.after.toList.foldl (λm e=>if Region.binds .any e then m|||(1<<<e.on)|||a.getD e.on 0 else m) 0
def lf(ops:List Oper):List Nat:=ops.foldl (λa o=>a++[oa a o]) []
def pH:List Oper→Nat→Bool
 |[],_=>true
 |o::r,k=>(o.after.toList.all λe=> !(Region.binds .any e)||decide (e.on<k))&&pH r (k+1)
def uN(ops:Array Oper)(a:List Nat)(i j:Nat)(x y:Oper):Bool:=
 (a.getD j 0).testBit i||x.apart ops y
def AO(ops:Array Oper)(a:List Nat)(i:Nat)(x:Oper):List Oper→Nat→Bool
 |[],_=>true
 |y::r,j=>uN ops a i j x y&&AO ops a i x r (j+1)
def pI(ops:Array Oper)(a:List Nat):List Oper→Nat→Bool
 |[],_=>true
 |x::r,i=>AO ops a i x r (i+1)&&pI ops a r (i+1)
def wO(ops:List Oper):Bool:=pH ops 0&&pI ops.toArray (lf ops) ops 0
theorem qO:∀(l:List Oper)(k i:Nat)(o:Oper),pH l k=true→l[i]?=some o→∀e∈o.after,Region.binds .any e=true→e.on<k+i:=by
 intro l
 induction l with
 |nil=>intro k i o _ a;simp at a
 |cons q r f=>
  intro k i o h a e b c;simp only[pH,aF,cM]at h;cases i with
  |zero=>
   simp at a;subst a;have:=h.1 e (Array.mem_toList_iff.2 b);simp only[c,Bool.not_true,Bool.false_or,ah]at this;omega
  |succ i=>
   have:=f (k+1) i o h.2 (by simpa using a) e b c;omega
theorem EJ{ops:Array Oper}{a:List Nat}{i:Nat}{x:Oper}:∀(l:List Oper)(k j:Nat)(y:Oper),AO ops a i x l k=true→l[j]?=some y→uN ops a i (k+j) x y=true:=by
 intro l
 induction l with
 |nil=>intro k j y _ b;simp at b
 |cons q r c=>
  intro k j y h b;simp only[AO,aF]at h;cases j with
  |zero=>
   simp at b;subst b;exact h.1
  |succ j=>
   have:=c (k+1) j y h.2 (by simpa using b)
   rwa [eA,fj 1 j]at this
theorem yP{ops:Array Oper}{a:List Nat}:∀(l:List Oper)(k i j:Nat)(x y:Oper),pI ops a l k=true→l[i]?=some x→l[j]?=some y→i<j→uN ops a (k+i) (k+j) x y=true:=by
 intro l
 induction l with
 |nil=>intro k i j x y _ e;simp at e
 |cons q r f=>
  intro k i j x y h b c g;simp only[pI,aF]at h;cases j with
  |zero=>omega
  |succ j=>
   cases i with
   |zero=>
    simp at b;subst b;have:=EJ r (k+1) j y h.1 (by simpa using c)
    rwa [eA,fj 1 j]at this
   |succ i=>
    have:=f (k+1) i j x y h.2 (by simpa using b) (by simpa using c) (by omega)
    rwa [eA,fj 1 i,eA,fj 1 j]at this
theorem tr(a:List Nat):∀(l:List Edge)(m p:Nat),(l.foldl (λm e=>if Region.binds .any e then m|||(1<<<e.on)|||a.getD e.on 0 else m) m).testBit p=true→
 m.testBit p=true∨∃e∈l,Region.binds .any e=true∧(p=e.on∨(a.getD e.on 0).testBit p=true)
 |[],m,p,h=> .inl h
 |e::l,m,p,h=>by
  simp only[List.foldl_cons]at h;rcases tr a l _ p h with h|⟨c,f,g⟩
  ·split at h
   ·rename_i b;simp only[Nat.testBit_or,ig]at h;rcases h with(h|h)|h
    ·exact .inl h
    ·refine .inr ⟨e,aM ..,b, .inl ?_⟩;rw[Nat.shiftLeft_eq,Nat.one_mul,Nat.testBit_two_pow]at h;simp at h;exact h.symm
    ·exact .inr ⟨e,aM ..,b, .inr h⟩
   ·exact .inl h
  ·exact .inr ⟨c,aE _ f,g⟩
theorem qP:∀(l:List Oper)(a:List Nat),∃t,l.foldl (λa o=>a++[oa a o]) a=a++t∧t.length=l.length∧
 ∀i o,l[i]?=some o→t[i]?=some (oa (a++t.take i) o)
 |[],a=>⟨[],by simp,rfl,λi o h=>by simp at h⟩
 |o::l,a=>by
  obtain⟨t,c,e,f⟩:=qP l (a++[oa a o]);refine⟨oa a o::t,by simp only[List.foldl_cons];rw[c];simp,by simp[e],λi q b=>?_⟩;cases i with
  |zero=>simp at b;subst b;simp
  |succ i=>
   have:=f i q (by simpa using b);simp only[List.getElem?_cons_succ,this,List.take_succ_cons];simp
theorem qQ{ops:List Oper}{q p:Nat}(h:((lf ops).getD q 0).testBit p=true):
 ∃o,ops[q]?=some o∧∃e∈o.after,Region.binds .any e=true∧(p=e.on∨(e.on<q∧((lf ops).getD e.on 0).testBit p=true)):=by
 obtain⟨t,c,l,f⟩:=qP ops [];have g:lf ops=t:=by unfold lf;rw[c];simp
 rw[g]at h⊢;cases a:ops[q]? with
 |none=>
  have:t[q]?=none:=by rw[List.getElem?_eq_none_iff]at a⊢;omega
  simp[bv,this]at h
 |some o=>
  have b:=f q o a;simp only[eG]at b;simp only[bv,b,cZ]at h;refine⟨o,rfl,?_⟩;unfold oa at h;rcases tr _ _ _ _ h with h|⟨e,i,j,h⟩
  ·simp at h
  ·refine⟨e,Array.mem_toList_iff.1 i,j,?_⟩;rcases h with h|h
   ·exact .inl h
   ·right;simp only[bv,List.getElem?_take]at h;split at h
    ·exact⟨‹_›,by simpa[bv]using h⟩
    ·simp at h
section
variable{P:Program}{ops:Array Oper}
abbrev mk(ops:Array Oper)(i:Nat):Nat:=(lf ops.toList).getD i 0
def lh(ops:Array Oper)(a:Array Bool):Prop:=∀m o,a.getD m false=true→ops[m]?=some o→∀e∈o.after,Region.binds .any e=true→a.getD e.on false=true
theorem wP{a:Array Bool}(f:lh ops a):∀(q p:Nat),a.getD q false=true→(mk ops q).testBit p=true→a.getD p false=true:=by
 intro q
 induction q using Nat.strongRecOn with
 |_ q g=>
  intro p i j;obtain⟨o,l,e,m,n,h⟩:=qQ j;have c:ops[q]?=some o:=by simpa using l
  have b:=f q o i c e m n;rcases h with h|⟨r,s⟩
  ·rw[h];exact b
  ·exact g e.on r p b s
theorem qR{a:Array Bool}(j:lh ops a){q p:Nat}(l:q∈rX .any ops a)(m:(mk ops q).testBit p=true):a.getD p false=true:=by
 obtain⟨_,o,n,b⟩:=mem_ready.1 l;obtain⟨g,f,e,r,s,h⟩:=qQ m
 have:g=o:=by have i:ops[q]?=some g:=by simpa using f
              rw[n]at i;exact(Option.some.inj i).symm
 subst this;have c:=b e r s;rcases h with h|⟨u,t⟩
 ·rw[h];exact c
 ·exact wP j e.on p c t
theorem kD{a:Array Bool}{i:Nat}(h:a.getD i true=false):a.getD i false=false:=by
 rcases bN i a.size with b|b
 ·simp[b]at h⊢;exact h
 ·simp[Array.getElem?_eq_none b]at h
theorem yQ{a:Array Bool}(n:lh ops a){j:Nat}(p:j∈rX .any ops a):lh ops (a.setIfInBounds j true):=by
 intro m o h f e i l;obtain⟨_,q,g,b⟩:=mem_ready.1 p;by_cases c:m=j
 ·subst c;rw[g]at f;simp at f;subst f;exact getD_set_true (b e i l)
 ·rw[getD_set_ne false (lx c)]at h;exact getD_set_true (n m o h f e i l)
end
theorem tu{n:Nat}{a:Array Bool}{j:Nat}(c:a.size=n)(h:a.getD j false=true):decide (j<n)=true:=by
 rcases bN j a.size with b|b
 ·simp;omega
 ·simp[Array.getElem?_eq_none b]at h
theorem Cy(h:Nat→Option Ch){k j:Nat}(b c:Option Ch)(a:k≠j):cI (cI h k b) j c=cI (cI h j c) k b:=by
 funext i;simp only[cI];by_cases e:i=j<;>by_cases f:i=k
 ·omega
 ·simp[e,lx a]
 ·simp[f,a]
 ·simp[e,f]
theorem oX:∀(a:dH)(h:Nat→Option Ch)(k:Nat)(b:Option Ch),(∀u∈a,u.1≠k)→bh (cI h k b) a=cI (bh h a) k b
 |[],_,_,_,_=>rfl
 |u::r,h,k,b,c=>by
  simp only[bh];rw[Cy h b u.2 (lx (c u (aM ..))),oX r _ k b (λv e=>c v (aE _ e))]
theorem oY:∀(x y:dH)(h:Nat→Option Ch),(∀u∈x,∀v∈y,u.1≠v.1)→bh (bh h x) y=bh (bh h y) x
 |[],_,_,_=>rfl
 |u::r,y,h,b=>by
  simp only[bh];rw[oY r y _ (λv a=>b v (aE _ a)),oX y h u.1 u.2 (λv a=>lx (b u (aM ..) v a))]
def iA:Op→Bool
 | .move _=>false
 | .assign _=>false
 | .pick .. =>false
 | .alloc _=>false
 | .box .. =>false
 | .build .. =>false
 | .nilCheck _=>false
 | .binOp .. =>false
 | .unOp .. =>false
 | .makeInterface .. =>false
 | .makeFunc .. =>false
 | .makeMap .. =>false
 | .makeSlice .. =>false
 | .fieldAddr .. =>false
 | .field .. =>false
 | .index .. =>false
 | .extract .. =>false
 |_=>true
structure x9 where
 m:Nat
 v:List Nat
def sA(N:Nat)(m:x9)(i k:Nat):Bool:=(decide (k<N)&&m.v.contains k)||(decide (N≤k)&&(decide ((k-N)/256=i)||m.m.testBit ((k-N)/256)))
def wQ(N i k:Nat):Bool:=decide (N+256*i≤k)&&decide (k<N+256*i+256)
def wR(N:Nat)(mask:Nat→x9)(i k:Nat):List Oper→Nat→Bool
 |[],_=>true
 |o::r,j=>(!(iA o.op)||decide (j=i)||(mask j).m.testBit i||(mask i).m.testBit j|| !(sA N (mask j) j k))&&wR N mask i k r (j+1)
theorem EK{N:Nat}{mask:Nat→x9}{i k:Nat}:∀{l:List Oper}{n:Nat},wR N mask i k l n=true→∀(j:Nat)(o:Oper),l[j]?=some o→iA o.op=true→n+j≠i→(mask (n+j)).m.testBit i=false→(mask i).m.testBit (n+j)=false→sA N (mask (n+j)) (n+j) k=false:=by
 intro l
 induction l with
 |nil=>intro n _ j o h;simp at h
 |cons q r g=>
  intro n h j o b c a e f;simp only[wR,aF,ig,aO,ah]at h;cases j with
  |zero=>
   simp at b;subst b;simp only[Nat.add_zero]at*;rcases h.1 with(((h|h)|h)|h)|h
   ·rw[c]at h;simp at h
   ·exact absurd h a
   ·rw[e]at h;simp at h
   ·rw[f]at h;simp at h
   ·exact h
  |succ j=>
   have:=g h.2 j o (by simpa using b) c;rw[eA,fj 1 j]at this;exact this a e f
def gY(N:Nat)(mask:Nat→x9)(ops:Array Oper)(i:Nat)(o:Oper)(a:dH):Bool:=
 a.all λu=>wQ N i u.1||(iA o.op&&sA N (mask i) i u.1&&wR N mask i u.1 ops.toList 0)
theorem qS{N:Nat}{mask:Nat→x9}{ops:Array Oper}{i:Nat}{o:Oper}{e:dH}(h:gY N mask ops i o e=true):∀u∈e,wQ N i u.1=true∨
 (iA o.op=true∧sA N (mask i) i u.1=true∧∀(j:Nat)(y:Oper),ops[j]?=some y→iA y.op=true→j≠i→(mask j).m.testBit i=false→(mask i).m.testBit j=false→sA N (mask j) j u.1=false):=by
 intro u f;have:=cM.1 h u f;simp only[ig,aF]at this;refine this.imp id λ⟨⟨a,b⟩,c⟩=>⟨a,b,λj y g=>?_⟩;have:=EK c j y (by simpa using g);simpa using this
def Wk(N:Nat)(mask:Nat→x9)(ops:Array Oper)(i:Nat)(o:Oper)(k:Nat):Bool:=wQ N i k||(iA o.op&&sA N (mask i) i k&&wR N mask i k ops.toList 0)
def MP:Option Ch→Option Ch→Prop
 |some a,some b=>a=b
 |_,_=>False
def AP(a:Nat→Option Ch)(u:dH):List Nat→Prop
 |[]=>True
 |k::r=>MP (a k) (bh (λ_=>none) u k)∧AP a u r
def wS(ok:Nat→Bool)(a:Nat→Option Ch)(q:V×dH):Tr (V×dH):=
 if q.2.all λu=>ok u.1 then .leaf q
 else .need (AP a q.2 ((q.2.filter λu=> !(ok u.1)).map (·.1)).eraseDups) (.leaf (q.1,q.2.filter λu=>ok u.1))
theorem wT{e:Nat→Option Ch}{u:dH}:∀{l:List Nat},AP e u l→∀k∈l,∃c,e k=some c∧bh (λ_=>none) u k=some c
 |[],_,k,f=>by simp at f
 |j::r,h,k,f=>by
  rcases br.1 f with rfl|f
  ·have g:=h.1;unfold MP at g;split at g
   ·rename_i a b i m;exact⟨a,i,by rw[m,g]⟩
   ·exact g.elim
  ·exact wT h.2 k f
theorem gZ:∀{u:dH}{h:Nat→Option Ch}{k:Nat},(∀x∈u,x.1≠k)→bh h u k=h k
 |[],_,_,_=>rfl
 |x::r,h,k,a=>by
  simp only[bh];rw[gZ (λy b=>a y (aE _ b)),bD _ _ _ (lx (a x (aM ..)))]
theorem tv:∀{u:dH}{h h':Nat→Option Ch}{k:Nat},(∃x∈u,x.1=k)→bh h u k=bh h' u k
 |[],_,_,_,f=>by obtain⟨_,a,_⟩:=f;simp at a
 |x::r,h,h',k,f=>by
  simp only[bh];by_cases g:∃y∈r,y.1=k
  ·exact tv g
  ·have b:∀y∈r,y.1≠k:=λy c e=>g ⟨y,c,e⟩;rw[gZ b,gZ b];obtain⟨y,c,e⟩:=f;rcases br.1 c with rfl|c
   ·subst e;rw[bF,bF]
   ·exact absurd e (b y c)
theorem iH{ok:Nat→Bool}:∀{u:dH}{h h':Nat→Option Ch}{k:Nat},ok k=true→h k=h' k→bh h (u.filter λx=>ok x.1) k=bh h' u k
 |[],_,_,_,_,e=>e
 |x::r,h,h',k,a,e=>by
  simp only[List.filter_cons];split
  ·simp only[bh];refine iH a ?_;by_cases g:k=x.1
   ·subst g;rw[bF,bF]
   ·rw[bD _ _ _ g,bD _ _ _ g,e]
  ·rename_i b;simp only[bh];refine iH a ?_;rw[bD _ _ _ (λg=>b (by rw[←g];exact a)),e]
theorem KF{ok:Nat→Bool}{f h:Nat→Option Ch}{u:dH}(j:∀k b,f k=some b→h k=some b)(l:AP f u ((u.filter λx=> !(ok x.1)).map (·.1)).eraseDups):
 bh h (u.filter λx=>ok x.1)=bh h u:=by
 funext k;cases g:ok k with
 |true=>exact iH g rfl
 |false=>
  rw[gZ (λx a e=>by have:=(List.mem_filter.1 a).2;rw[e,g]at this;cases this)];by_cases a:∃x∈u,x.1=k
  ·obtain⟨c,m,n⟩:=wT l k (by
    obtain⟨x,a,e⟩:=a;rw[List.mem_eraseDups];exact dY.2 ⟨x,List.mem_filter.2 ⟨a,by rw[e,g];rfl⟩,e⟩)
   rw[tv (h':=λ_=>none) a,n,j k c m]
  ·rw[gZ (λx i e=>a ⟨x,i,e⟩)]
theorem EL{P:Program}{F:Nat→Prop}{ρ:Nat→Pl}{w:World}{h c:Nat→Option Ch}{N W:Nat}{o:Oper}{a:Act}{t:Tr (V×dH)}{ok:Nat→Bool}(j:∀k b,c k=some b→h k=some b)(l:OW P F ρ w h N W o a t):OW P F ρ w h N W o a (t.bind (wS ok c)):=by
 intro K Q g;rw[cC]at g;refine l K Q (bS ?_ g);rintro q e v i f;unfold wS at e;split at e
 ·exact e v i f
 ·obtain⟨m,n⟩:=e;refine n v i ?_;unfold bJ at f⊢;rw[KF j m];exact f
theorem qT{ok:Nat→Bool}{a:Nat→Option Ch}{q:V×dH}:Live (wS ok a q):=by
 unfold wS;split
 ·exact Live.leaf
 ·exact Live.need λ_=>Live.leaf
structure FSt where
 slots:List V
 h:Nat→Option Ch
section
variable(P:Program)(Γ:bu)(N:Nat)(mask:Nat→x9)(ops:Array Oper)
def gC(i:Nat)(o:Oper)(h:Nat→Option Ch):Nat→Option Ch:=if iA o.op then λk=>if sA N (mask i) i k then h k else none else λ_=>none
def uO(o:Oper)(i:Nat)(b:Operand→V)(a:Nat→Option Ch):Tr (V×dH):=(Cv P Γ o b a (N+256*i) 256).bind (wS (Wk N mask ops i o) a)
def gtr(o:Oper)(i:Nat)(slots:List V)(a:Nat→Option Ch):Tr (V×dH):=
 match gi ops slots o with
 | .yes=>uO P Γ N mask ops o i (dp slots) a
 | .no=> .leaf (.tup [],[])
 | .ask _ b c=> .ite (b==c) (uO P Γ N mask ops o i (dp slots) a) (.leaf (.tup [],[]))
 | .bad=> .stuck
def fin(o:Oper)(i:Nat)(s:FSt)(q:V×dH):Tr FSt:=if gY N mask ops i o q.2 then .leaf ⟨eM s.slots o.dst q.1,bh s.h q.2⟩else .stuck
def hC(i:Nat)(s:FSt):Tr FSt:=
 match ops[i]? with
 |none=> .stuck
 |some o=>(gtr P Γ N mask ops o i s.slots (gC N mask i o s.h)).bind (fin N mask ops o i s)
end
structure uP(R N:Nat)(B:eB)(ρ:Nat→Pl)(a:Act)(w:World)(s:FSt)(listed:Nat→Bool):Prop where
 defers:wI B ρ w s.h a.defers
 slots:F2 (aS w (Av B.F ρ s.h) ρ) s.slots a.tmps.toList
 heap:dn B.F ρ w s.h
 mv:Mv B.ρ B.w B.h ρ w s.h
 fresh:∀k,N≤k→ρ k≠ .un→listed ((k-N)/256)=true
 root:∀k,k<R→ρ k=B.ρ k∨ρ k= .un
 rn:R≤N
 len:a.tmps.size=B.n
theorem tz{N:Nat}{mask:Nat→x9}{i:Nat}{o:Oper}{h:Nat→Option Ch}:∀k b,gC N mask i o h k=some b→h k=some b:=by
 intro k b a;unfold gC at a;split at a
 ·simp only at a;split at a
  ·exact a
  ·simp at a
 ·simp at a
section
variable{P:Program}{Γ:bu}{R N:Nat}{mask:Nat→x9}{ops:Array Oper}
theorem wU(M:aP P Γ){B:eB}{ρ:Nat→Pl}{a:Act}{w:World}{s:FSt}{c:Nat→Bool}{i:Nat}{K:Act→World→Prop}{Q:Exit→Act→World→Prop}
 (f:uP R N B ρ a w s c) (hi:c i=false) (g:(hC P Γ N mask ops i s).sat λs'=>∀ρ' l w',dK ρ ρ'→uP R N B ρ' l w' s' (λj=>j==i||c j)→K l w'):wpOp P ops Q i K a w:=by
 unfold hC at g;unfold wpOp;split at g
 ·exact g.elim
 rename_i o O;rw[cC]at g;obtain⟨S,U,W⟩:=mq (ops:=ops) (o:=o) f.slots
 have skip:(fin N mask ops o i s (.tup [],[])).sat (λs'=>∀ρ' l w',dK ρ ρ'→uP R N B ρ' l w' s' (λj=>j==i||c j)→K l w')→K (a.put o.dst undef) w:=by
  intro h;simp only[fin,gY,List.all_nil,if_true,Tr.sat,bh]at h;refine h ρ _ w (dK.refl ρ) ⟨?_,ni f.slots o.dst dZ,f.heap,f.mv,λk p C=>?_,f.root,f.rn,(iU ..).trans f.len⟩
  ·cases o.dst<;>exact f.defers
  ·simp[f.fresh k p C]
 have m:(uO P Γ N mask ops o i (dp s.slots) (gC N mask i o s.h)).sat (λr=>(fin N mask ops o i s r).sat (λs'=>∀ρ' l w',dK ρ ρ'→uP R N B ρ' l w' s' (λj=>j==i||c j)→K l w'))→o.wp P a w K Q:=by
  intro h
  have D:∀k,N+256*i≤k→k<N+256*i+256→ρ k= .un:=by
   intro k z E;by_cases H:ρ k= .un
   ·exact H
   ·have A:=f.fresh k (by omega) H;have e:(k-N)/256=i:=by omega
    rw[e,hi]at A;simp at A
  refine EL tz (tq (F:=B.F) M f.heap tz (λx=>ff f.slots x) D (by omega)) K Q (bS ?_ h);rintro⟨y,u⟩ n v w' ⟨ρ',z,E,A,X,G⟩;unfold fin at n;split at n
  case isFalse=>exact n.elim
  refine n ρ' _ w' z ⟨?_,ni (F2.imp (λ_ _=>aS.evo G.evo z) f.slots) o.dst A,X,f.mv.trans G,λk p C=>?_,λk p=>?_,f.rn,(iU ..).trans f.len⟩
  ·cases o.dst<;>exact f.defers.mv G
  ·by_cases n:ρ k= .un
   ·have:=E k n C;have e:(k-N)/256=i:=by omega
    simp[e]
   ·simp[f.fresh k p n]
  ·by_cases e:ρ k= .un
   ·by_cases J:ρ' k= .un
    ·exact .inr J
    ·have:=E k e J;have:=f.rn;omega
   ·rw[z k e];exact f.root k p
 simp only[O];unfold gtr at g;split at g
 ·rename_i q;rw[S q];simp only[if_true];exact .inl (m g)
 ·rename_i q;rw[U q];simp only[cf,if_false];exact skip g
 ·rename_i t b L q;rw[(W _ _ _ q).1];split
  ·rename_i e;exact .inl (m (g.1 e))
  ·rename_i e;exact skip (g.2 (by simpa using e))
 ·exact g.elim
end
end
section
theorem wV(P:Program)(o:Oper){m e:Operand→V}(q:Nat→Option Ch)(N:Nat)(h:∀x∈o.op.operands,m x=e x):kp P o m q N=kp P o e q N:=by
 obtain⟨v,w,u,y,s,guard⟩:=o
 have f:∀i:List (Nat×Operand),(∀x∈i.map (·.2),m x=e x)→(i.map λp=>(p.1,m p.2))=i.map λp=>(p.1,e p.2):=by
  intro i z;refine List.map_congr_left λp A=>?_;rw[z p.2 (dY.2 ⟨p,A,rfl⟩)]
 cases w<;>simp only[Op.operands]at h<;>simp only[kp]
 case build t i=>rw[f i.toList λx g=>h x (by simpa using g)]
 case buildSlice t n i=>rw[f i.toList λx g=>h x (by simpa using g)]
 case makeFunc fn first a=>
  rw[List.map_congr_left (l:=first.toList) λx g=>h x (by simp[Array.mem_toList_iff.1 g]),List.map_congr_left (l:=a.toList) λx g=>h x (by simp[Array.mem_toList_iff.1 g])]
 case call c=>
  have j:c.args.toList.map m=c.args.toList.map e:=List.map_congr_left λx g=>h x (by simp[Call.operands,Array.mem_toList_iff.1 g]);cases E:c.callee with
  |builtin b=>simp only[j]
  |_=>rfl
 case slice t x B C D=>cases B<;>cases C<;>cases D<;>simp_all
 case makeMap t r=>cases r<;>rfl
 all_goals (first|rfl|(simp_all;done))
theorem Cz(P:Program)(Γ:bu)(o:Oper){i a:Operand→V}(g:Nat→Option Ch)(N W:Nat)(h:∀x∈o.op.operands,i x=a x):Cv P Γ o i g N W=Cv P Γ o a g N W:=by
 have p:=wV P o g N h;unfold Cv;split
 case h_2=>exact p
 rename_i c l;rw[l]at h;simp only[Op.operands]at h;have e:c.args.toList.map i=c.args.toList.map a:=List.map_congr_left λx q=>h x (by simp[Call.operands,Array.mem_toList_iff.1 q]);cases j:c.callee with
 |value f=>have n:i f=a f:=h f (by simp[Call.operands,j]);simp only[n,e]
 |invoke r m=>have n:i r=a r:=h r (by simp[Call.operands,j]);simp only[n,e]
 |builtin b=>exact p
theorem CA{slots:List V}{dst:Option Tmp}{v:V}{x:Operand}(h:∀d,dst=some d→x≠ .tmp d):dp (eM slots dst v) x=dp slots x:=by
 cases dst with
 |none=>rfl
 |some d=>
  cases x with
  |tmp t=>
   have a:d≠t:=λe=>h d rfl (e▸rfl);simp[dp,eM,List.getElem?_set_ne a]
  |_=>rfl
theorem KG(P:Program)(Γ:bu){ops:Array Oper}(o:Oper)(slots:List V)(dst:Option Tmp)(v:V)(a:Nat→Option Ch)(N W:Nat)(h:∀d,dst=some d→d∉o.looksAt ops):
 Cv P Γ o (dp (eM slots dst v)) a N W=Cv P Γ o (dp slots) a N W:=
 Cz P Γ o a N W λx c=>CA λd e b=>h d e (by
  subst b;exact cG _ (List.mem_filterMap.2 ⟨.tmp d,by simpa using c,rfl⟩))
theorem wW{ops:Array Oper}(o:Oper)(slots:List V)(dst:Option Tmp)(v:V)(h:∀d,dst=some d→d∉o.looksAt ops):gi ops (eM slots dst v) o=gi ops slots o:=by
 cases dst with
 |none=>rfl
 |some d=>
  unfold gi;cases c:o.guard with
  |none=>rfl
  |some f=>
   obtain⟨g,b⟩:=f;simp only;cases i:(ops[g]?).bind (·.dst)with
   |none=>rfl
   |some t=>
    have a:d≠t:=λe=>h d rfl (by subst e;simp[Oper.looksAt,c,i]);simp[eM,List.getElem?_set_ne a]
theorem CB(slots:List V){x y:Option Tmp}(v u:V)(h:∀d,x=some d→y≠some d):eM (eM slots x v) y u=eM (eM slots y u) x v:=by
 cases x with
 |none=>rfl
 |some d=>
  cases y with
  |none=>rfl
  |some e=>
   have a:d≠e:=λb=>h d rfl (b▸rfl);simp only[eM];rw[List.set_comm _ _ a]
section
variable{P:Program}{Γ:bu}{N:Nat}{mask:Nat→x9}{ops:Array Oper}
theorem AQ(o:Oper)(i:Nat)(slots:List V)(dst:Option Tmp)(v:V)(a:Nat→Option Ch)(h:∀d,dst=some d→d∉o.looksAt ops):gtr P Γ N mask ops o i (eM slots dst v) a=gtr P Γ N mask ops o i slots a:=by
 unfold gtr;simp only[wW o slots dst v h,uO,KG P Γ o slots dst v a _ _ h]
theorem wX(b:bg Γ){o:Oper}{i:Nat}{slots:List V}{a:Nat→Option Ch}:Live (gtr P Γ N mask ops o i slots a):=by
 unfold gtr;split
 ·exact Live.bind (wN b) λ_=>qT
 ·exact Live.leaf
 ·exact Live.ite (λ_=>Live.bind (wN b) λ_=>qT) (λ_=>Live.leaf)
 ·exact Live.stuck
theorem EM{o:Oper}{i:Nat}{s:FSt}{q:V×dH}:Live (fin N mask ops o i s q):=by
 unfold fin;split
 ·exact Live.leaf
 ·exact Live.stuck
theorem yR(a:bg Γ){i:Nat}{s:FSt}:Live (hC P Γ N mask ops i s):=by
 unfold hC;split
 ·exact Live.stuck
 ·exact Live.bind (wX a) (λ_=>EM)
theorem qU{i j:Nat}{oi oj:Oper}{b:dH}{h:Nat→Option Ch}(l:ops[j]?=some oj)(c:i≠j)(f:(mask j).m.testBit i=false)(g:(mask i).m.testBit j=false)
 (n:gY N mask ops i oi b=true):gC N mask j oj (bh h b)=gC N mask j oj h:=by
 unfold gC;cases o:iA oj.op
 ·rfl
 ·simp only[if_true];funext k;split
  ·rename_i a;refine mg b h k λu p e=>?_;subst e;rcases qS n u p with this|⟨_,_,this⟩
   ·simp only[wQ,aF,ah]at this;have q:(u.1-N)/256=i:=by omega
    simp only[sA,ig,aF,ah,q,f]at a;rcases a with a|⟨_,a|a⟩
    ·omega
    ·exact c a
    ·simp at a
   ·rw[this j oj l o (lx c) f g]at a;simp at a
  ·rfl
theorem CC{i j:Nat}{oi oj:Oper}{x y:dH}(r:ops[j]?=some oj)(f:i≠j)(b:(mask j).m.testBit i=false)(c:(mask i).m.testBit j=false)
 (s:gY N mask ops i oi x=true) (t:gY N mask ops j oj y=true):∀u∈x,∀v∈y,u.1≠v.1:=by
 intro u w v z e;have g:=qS s u w;have n:=qS t v z;simp only[wQ,aF,ah]at g n;rw[e]at g;have own:∀{q:Nat}{k:Nat},N+256*q≤k∧k<N+256*q+256→(k-N)/256=q:=λh=>by omega
 have a:∀{m:x9}{q k:Nat},sA N m q k=true→k<N∨(k-N)/256=q∨m.m.testBit ((k-N)/256)=true:=by
  intro m q k h;simp only[sA,ig,aF,ah]at h;rcases h with h|h
  ·exact .inl h.1
  ·exact .inr h.2
 rcases g with o|⟨F,A,B⟩<;>rcases n with p|⟨C,l,G⟩
 ·have:=own o;have:=own p;omega
 ·have D:=own o;rcases a l with h|h|h
  ·omega
  ·omega
  ·rw[D,b]at h;simp at h
 ·have E:=own p;rcases a A with h|h|h
  ·omega
  ·omega
  ·rw[E,c]at h;simp at h
 ·rw[B j oj r C (lx f) b c]at l;simp at l
theorem yS(u:bg Γ){i j:Nat}{oi oj:Oper}{s:FSt}{Q:FSt→Prop}(hi:ops[i]?=some oi)(p:ops[j]?=some oj)(f:i≠j)(g:(mask j).m.testBit i=false)(l:(mask i).m.testBit j=false)
 (q:oi.apart ops oj=true) (h:(hC P Γ N mask ops i s).sat λv=>(hC P Γ N mask ops j v).sat Q):(hC P Γ N mask ops j s).sat λw=>(hC P Γ N mask ops i w).sat Q:=by
 obtain⟨x,y,z⟩:=Oper.apart_spec q;have t:∀d,oj.dst=some d→oi.dst≠some d:=λd A B=>y d B A;unfold hC at h⊢;simp only[hi,p]at h⊢;rw[cC]at h⊢;have c:Live (gtr P Γ N mask ops oi i s.slots (gC N mask i oi s.h)):=wX u
 have C:(gtr P Γ N mask ops oi i s.slots (gC N mask i oi s.h)).sat λr=>(gtr P Γ N mask ops oj j s.slots (gC N mask j oj s.h)).sat λn=>
  gY N mask ops i oi r.2=true∧gY N mask ops j oj n.2=true∧Q ⟨eM (eM s.slots oi.dst r.1) oj.dst n.1,bh (bh s.h r.2) n.2⟩:=by
  refine bS ?_ h;intro r o;unfold fin at o;split at o
  case isFalse=>exact o.elim
  rename_i e;simp only[Tr.sat]at o;rw[cC,AQ oj j _ _ _ _ x,qU p f g l e]at o;refine bS ?_ o;intro n b;split at b
  case isFalse=>exact b.elim
  rename_i a;exact⟨e,a,b⟩
 refine bS ?_ (kB c C);intro n b;obtain⟨_,_,a,_⟩:=c _ b;unfold fin;rw[an a];simp only[Tr.sat];rw[cC,AQ oi i _ _ _ _ z,qU (oi:=oj) (oj:=oi) (i:=j) hi (lx f) l g a];refine bS ?_ b;rintro r ⟨e,_,D⟩;rw[an e];simp only[Tr.sat];rw[CB _ _ _ t,←oY r.2 n.2 s.h (CC p f g l e a)];exact D
abbrev cw(vc:Nat→List Nat)(ops:Array Oper)(i:Nat):x9:=⟨mk ops i,vc i⟩
variable{vc:Nat→List Nat}
def ob(P:Program)(Γ:bu)(N:Nat)(vc:Nat→List Nat)(ops:Array Oper)(Q:FSt→Prop):Nat→Array Bool→FSt→Prop
 |0,a,s=>rX .any ops a=[]∧Q s
 |b+1,a,s=>
  (rX .any ops a=[]→Q s)∧
  ∀i∈rX .any ops a,(hC P Γ N (cw vc ops) ops i s).sat λc=>ob P Γ N vc ops Q b (a.setIfInBounds i true) c
theorem uQ(z:bg Γ){Q:FSt→Prop}{i:Nat}{oi:Oper}(hi:ops[i]?=some oi):
 ∀(b:Nat)(a:Array Bool)(s:FSt),lh ops a→
  (∀j oj,ops[j]?=some oj→j≠i→a.getD j true=false→(mk ops j).testBit i=true∨oi.apart ops oj=true)→
  i∈rX .any ops a→((hC P Γ N (cw vc ops) ops i s).sat λm=>ob P Γ N vc ops Q b (a.setIfInBounds i true) m)→ob P Γ N vc ops Q (b+1) a s:=by
 intro b
 induction b with
 |zero=>
  intro a s u e g H;refine⟨λh=>(by rw[h]at g;cases g),λj l=>?_⟩;by_cases c:j=i
  ·subst c;exact H
  ·have:=ready_mono l c;obtain⟨m,v⟩:=yR z _ H;rw[v.1]at this;cases this
 |succ b B=>
  intro a s u e g H;refine⟨λh=>(by rw[h]at g;cases g),λj l=>?_⟩;by_cases c:j=i
  ·subst c;exact H
  ·have C:(hC P Γ N (cw vc ops) ops i s).sat λm=>(hC P Γ N (cw vc ops) ops j m).sat λD=>ob P Γ N vc ops Q b ((a.setIfInBounds i true).setIfInBounds j true) D:=
    bS (λm v=>v.2 j (ready_mono l c)) H
   obtain⟨f,oj,n,A⟩:=mem_ready.1 l;have o:=(mem_ready.1 g).1
   have p:(mk ops j).testBit i=false:=by
    cases w:(mk ops j).testBit i
    ·rfl
    ·have:=qR u l w;rw[kD o]at this;simp at this
   have q:(mk ops i).testBit j=false:=by
    cases w:(mk ops i).testBit j
    ·rfl
    ·have:=qR u g w;rw[kD f]at this;simp at this
   have x:=(e j oj n c f).resolve_left (by rw[p];simp);refine bS ?_ (yS z hi n (lx c) p q x C);intro E F;refine B (a.setIfInBounds j true) E (yQ u l) (λk ok G y r=>?_) (ready_mono g (lx c)) (bS ?_ F)
   ·refine e k ok G y ?_;by_cases t:j=k
    ·subst t;exact f
    ·rw[getD_set_ne true t]at r;exact r
   ·intro K J;rw[Array.setIfInBounds_comm _ _ c];exact J
def CD(P:Program)(Γ:bu)(N:Nat)(mask:Nat→x9)(ops:Array Oper):Nat→Nat→FSt→Tr FSt
 |0,_,s=> .leaf s
 |n+1,k,s=>(hC P Γ N mask ops k s).bind (CD P Γ N mask ops n (k+1))
theorem qV(G:bg Γ){Q:FSt→Prop}(u:wO ops.toList=true):∀(n k:Nat)(a:Array Bool)(s:FSt),k+n=ops.size→a.size=ops.size→(∀m,m<ops.size→a.getD m false=decide (m<k))→
 (CD P Γ N (cw vc ops) ops n k s).sat Q→ob P Γ N vc ops Q n a s
 |0,k,a,s,K,C,hL,v=>by
  refine⟨?_,v⟩;cases h:rX .any ops a with
  |nil=>rfl
  |cons i r=>
   have L:i∈rX .any ops a:=by rw[h];exact aM ..
   obtain⟨w,o,B,_⟩:=mem_ready.1 L;have t:=(dX.1 B).1;have:=kD w;rw[hL i t]at this;simp at this;omega
 |n+1,k,a,s,K,C,hL,v=>by
  simp only[CD]at v;rw[cC]at v;have q:k<ops.size:=by omega
  have l:ops[k]?=some ops[k]:=Array.getElem?_eq_getElem q;simp only[wO,aF]at u;obtain⟨c,f⟩:=u;have b:∀{i:Nat}{o:Oper},ops[i]?=some o→ops.toList[i]?=some o:=λh=>by simpa using h
  have g:lh ops a:=by
   intro m o x B e D E;have w:=qO _ _ _ _ c (b B) e D E;have y:=(dX.1 B).1;rw[hL m y]at x;simp at x;rw[hL e.on (by omega)];simp;omega
  have p:k∈rX .any ops a:=by
   rw[mem_ready];refine⟨?_,_,l,λe D E=>?_⟩
   ·have:=hL k q;have t:k<a.size:=by omega
    simp[t]at this⊢;exact this
   ·have w:=qO _ _ _ _ c (b l) e D E;rw[hL e.on (by omega)];simp;omega
  refine uQ G l n a s g (λj S H M F=>?_) p (bS ?_ v)
  ·have z:=(dX.1 H).1;have:=kD F;rw[hL j z]at this;simp at this;have J:=yP _ 0 _ _ _ _ f (b l) (b H) (by omega);simp only[bK,uN,ig,Array.toArray_toList]at J;exact J
  ·intro O w;refine qV G (by simp only[wO,aF];exact⟨c,f⟩) n (k+1) _ O (by omega) (by simpa using C) (λm x=>?_) w;by_cases A:m=k
   ·subst A;simp[C,x]
   ·rw[getD_set_ne false (lx A),hL m x];simp;omega
variable{R:Nat}
theorem qW(v:aP P Γ){B:eB}{ρ0:Nat→Pl}{Q:FSt→Prop}{x:Exit→Act→World→Prop}(p:∀ρ a w s,dK ρ0 ρ→Q s→uP R N B ρ a w s (λj=>decide (j<ops.size))→x .normal a w):
 ∀(g:Nat)(b:Array Bool)(s:FSt)(ρ:Nat→Pl)(a:Act)(w:World),dK ρ0 ρ→b.size=ops.size→uP R N B ρ a w s (λj=>b.getD j false)→ob P Γ N vc ops Q g b s→wpAny P .any ops x g b a w
 |0,b,s,ρ,a,w,o,l,c,h=>⟨h.1,p ρ a w s o h.2 ⟨c.defers,c.slots,c.heap,c.mv,λk m n=>tu l (c.fresh k m n),c.root,c.rn,c.len⟩⟩
 |g+1,b,s,ρ,a,w,o,l,c,h=>by
  refine⟨λy=>p ρ a w s o (h.1 y) ⟨c.defers,c.slots,c.heap,c.mv,λk m n=>tu l (c.fresh k m n),c.root,c.rn,c.len⟩,λi q=>?_⟩;have r:=kD (mem_ready.1 q).1;refine wU v c r (bS ?_ (h.2 i q));intro z A ρ' C D t f;refine qW v p g _ z ρ' C D (o.trans t) (by simpa using l) ⟨f.defers,f.slots,f.heap,f.mv,λk m n=>?_,f.root,f.rn,f.len⟩ A;have:=f.fresh k m n;simp only[ig,aQ]at this;rcases this with e|e
  ·rw[e];obtain⟨E,_⟩:=mem_ready.1 q
   have:i<b.size:=by
    rcases bN i b.size with u|u
    ·exact u
    ·simp[Array.getElem?_eq_none u]at E
   simp[this]
  ·exact getD_set_true e
theorem wY(i:aP P Γ)(hL:bg Γ){B:eB}{ρ:Nat→Pl}{a:Act}{w:World}{s:FSt}{id:Nat}{Q:Exit→Act→World→Prop}{c:FSt→Prop}(e:P.follows .mixedOrders=true)(f:wO ops.toList=true)
 (b:uP R N B ρ a w s (λ_=>false)) (l:(CD P Γ N (cw vc ops) ops ops.size 0 s).sat c)
 (n:∀ρ' a w s',dK ρ ρ'→c s'→uP R N B ρ' a w s' (λj=>decide (j<ops.size))→Q .normal a w):(Code.region id ops true).wp P Q a w:=by
 refine wp_region_any e ?_;obtain⟨o,g⟩:=b.heap.same (fp.drew w);refine qW i (vc:=vc) (N:=N) (B:=B) (ρ0:=ρ) (Q:=c) (λρ a w s p h b=>n ρ a w s p h b) _ _ s ρ a _ (dK.refl ρ) (by simp) ?_ ?_
 ·refine⟨b.defers.mv g,F2.imp (λ_ _=>aS.evo g.evo (dK.refl ρ)) b.slots,o,b.mv.trans g,λk q r=>?_,b.root,b.rn,b.len⟩;have:=b.fresh k q r;simp at this
 ·refine qV hL f ops.size 0 _ s (by omega) (by simp) (λm e=>?_) l;simp[e]
end
end
end Go.Hv
