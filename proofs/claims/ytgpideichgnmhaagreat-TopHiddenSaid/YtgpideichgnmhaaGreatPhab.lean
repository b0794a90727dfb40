/- A part of the proof of TopHiddenSaid: no conditions; packed by a program of our own. -/
import Derived.KernelRfl
import Derived.Below
import Derived.Orders
import Derived.Laws.StructEq
import Derived.Laws.BytesString
import Derived.Laws.Tables
import Derived.Laws.Slices
import Derived.Laws.Cells
import Derived.Laws.MakeOwn
import Derived.Laws.CopyOwn
import Derived.Laws.AppendOwn
import Derived.Laws.BytesArg
import Derived.Laws.Cover3
set_option linter.defProp false
set_option linter.unusedVariables false
set_option linter.unusedSimpArgs false
open BitVec renaming ofInt→bf
open Bool renaming eq_iff_iff→nr,and_eq_true→aK,false_eq_true→cz
open Go.Instr renaming sureAddr→tQ
open Go.IntKind renaming wrap_i64→dK
open Go.Result renaming ok→pF,andThen_ok→aZ
open Go.Sem renaming run_pure→bD,run_bind→bJ
open Go.Value renaming int→gL,oneCell'→eg
open Go.World renaming size_alloc→eP
open Int renaming toNat_natCast→aG,toNat_of_nonneg→qJ,eq_ofNat_of_zero_le→bo
open List renaming map_cons→aY,replicate→ax,length_append→aa,length_cons→bc,append_assoc→ay,mem_append→ba,drop_of_length_le→bu,nil_append→eO,take_of_length_le→bb,append_nil→aH,mem_cons→bm,getElem?_eq_getElem→an,getD→bF,getElem?_take_of_lt→iY,getElem?_drop→ji,getElem?_append_left→bq,getElem?_append_right→aJ,getElem?_set_ne→mF,drop_drop→ko,take_append_drop→ej,length_take→bd,getElem?_take→pz,length→ah,range→fo,getD_eq_getElem?_getD→aw
open Nat renaming min_eq_left→fh,lt_of_lt_of_le→bw,add_comm→fq,le_refl→aE,le_trans→bE,zero_add→bT,zero_le→aq,add_assoc→fv
open Option renaming map_eq_some_iff→nt
open UInt8 renaming ofBitVec→iX
namespace Go
abbrev ai:=@decide_eq_true_eq
abbrev aj:=@decide_eq_false_iff_not
abbrev af:=@of_decide_eq_true
abbrev ap:=@of_decide_eq_false
abbrev aC:=@beq_eq_false_iff_ne
abbrev aL:=@ne_of_beq_false
abbrev aS:=@beq_iff_eq
abbrev bz:=@eq_of_beq
abbrev ae:=@if_neg
abbrev ak:=@if_pos
abbrev aI:=@congrArg
end Go
namespace Go
variable{p q:Prop}
theorem ac(h:p:=by omega):p:=h
theorem bt(h:p:=by decide):p:=h
theorem bY(h:p:=by simp):p:=h
theorem eM(h:p:=by simp;omega):p:=h
theorem dC(h:p:=by kernel_rfl):p:=h
theorem cf(c:p)(h:p->q:=by intro h;simpa using h):q:=h c
end Go
namespace Go.Hv
open Go.RowKit
variable{N W b f i j m n o off z:Nat}{P:Program}{r u v:Value}
section
inductive Sc where
 |bool (b:Bool)
 |i64 (n:Int)
 |i32 (n:Int)
 |u8 (x:BitVec 8)
 |u64 (x:BitVec 64)
 |str (s:List (BitVec 8))
def cu(x:BitVec 8):Value:= .int .u8 (x.toNat:Int)
def ku(x:BitVec 64):Value:= .int .u64 (x.toNat:Int)
def bM(s:List (BitVec 8)):ByteArray:=⟨(s.map iX).toArray⟩
def Sc.val:Sc->Value
 | .bool b=> .bool b
 | .i64 n=> .int .i64 n
 | .i32 n=> .int .i32 n
 | .u8 x=>cu x
 | .u64 x=>ku x
 | .str s=> .string (bM s)
def JS{n:Nat}(a:BinOp)(x y:BitVec n)(mk:BitVec n->Sc):Option Sc:=
 match a with
 | .add=>some (mk (x+y))
 | .sub=>some (mk (x-y))
 | .mul=>some (mk (x*y))
 | .quo=>if y.toNat=0 then none else some (mk (x/y))
 | .rem=>if y.toNat=0 then none else some (mk (x % y))
 | .and=>some (mk (x&&&y))
 | .or=>some (mk (x|||y))
 | .xor=>some (mk (x^^^y))
 | .andNot=>some (mk (x&&& ~~~y))
 | .eql=>some (.bool (x==y))
 | .neq=>some (.bool (!(x==y)))
 | .lss=>some (.bool (decide (x.toNat<y.toNat)))
 | .leq=>some (.bool (decide (x.toNat<=y.toNat)))
 | .gtr=>some (.bool (decide (y.toNat<x.toNat)))
 | .geq=>some (.bool (decide (y.toNat<=x.toNat)))
 |_=>none
def vz{n:Nat}(a:BinOp)(x:BitVec n)(m:Nat)(mk:BitVec n->Sc):Option Sc:=
 match a with
 | .shl=>some (mk (x<<<m))
 | .shr=>some (mk (x>>>m))
 |_=>none
def JT(k:IntKind)(mk:Int->Sc)(a:BinOp)(x y:Int):Option Sc:=
 match a with
 | .add=>some (mk (k.wrap (x+y)))
 | .sub=>some (mk (k.wrap (x-y)))
 | .mul=>some (mk (k.wrap (x*y)))
 | .quo=>if y=0 then none else some (mk (k.wrap (x.tdiv y)))
 | .rem=>if y=0 then none else some (mk (x.tmod y))
 | .and=>some (mk (bits .and k x y))
 | .or=>some (mk (bits .or k x y))
 | .xor=>some (mk (bits .xor k x y))
 | .andNot=>some (mk (bits .andNot k x y))
 | .eql=>some (.bool (x==y))
 | .neq=>some (.bool (!(x==y)))
 | .lss=>some (.bool (decide (x<y)))
 | .leq=>some (.bool (decide (x<=y)))
 | .gtr=>some (.bool (decide (y<x)))
 | .geq=>some (.bool (decide (y<=x)))
 |_=>none
def zQ(a:BinOp)(x:Int)(m:Nat):Option Sc:=
 match a with
 | .shl=>some (.i64 (IntKind.i64.wrap (x*2^(min m 64))))
 | .shr=>some (.i64 (x.fdiv (2^(min m 64))))
 |_=>none
def zR:Sc->Option (Bool×Nat)
 | .i64 n=>some (decide (0<=n),n.toNat)
 | .u8 x=>some (true,x.toNat)
 | .u64 x=>some (true,x.toNat)
 |_=>none
def iv:BinOp->Bool
 | .shl| .shr=>true
 |_=>false
def Fb(P:Program)(c:BinOp)(t:TypeId)(x y:Sc):Option (Bool×Sc):=
 if iv c then
  match zR y with
  |none=>none
  |some m=>
   match x with
   | .i64 a=>(zQ c a m.2).map λz=>(m.1,z)
   | .u8 a=>(vz c a m.2 .u8).map λz=>(m.1,z)
   | .u64 a=>(vz c a m.2 .u64).map λz=>(m.1,z)
   |_=>none
 else
  match x,y with
  | .i64 a, .i64 b=>(JT .i64 .i64 c a b).map λz=>(true,z)
  | .i32 a, .i32 b=>(JT .i32 .i32 c a b).map λz=>(true,z)
  | .u8 a, .u8 b=>(JS c a b .u8).map λz=>(true,z)
  | .u64 a, .u64 b=>(JS c a b .u64).map λz=>(true,z)
  | .bool a, .bool b=>
    match P.underlying t,c with
    |some .bool, .eql=>some (true, .bool (a==b))
    |some .bool, .neq=>some (true, .bool (!(a==b)))
    |_,_=>none
  | .str a, .str b=>
    match c with
    | .eql=>some (true, .bool (a==b))
    | .neq=>some (true, .bool (!(a==b)))
    |_=>none
  |_,_=>none
def gO(x:Sc):Option (List Value):=some [x.val]
section
variable{k:IntKind}
theorem Fc(a:k.signed=false)(n:Int):k.wrap n=n % (2^k.bits:Int):=by simp[IntKind.wrap,a]
theorem iE(a:k.signed=false)(n:Nat):k.wrap (n:Int)=((n % 2^k.bits:Nat):Int):=by rw[Fc a];simp
theorem iJ(a:k.signed=false)(h:n<2^k.bits):k.wrap (n:Int)=(n:Int):=by rw[iE a,Nat.mod_eq_of_lt h]
theorem rD(g:k.signed=false)(w:World)(t:TypeId)(j:BinOp)(x y:BitVec k.bits)(mk:BitVec k.bits->Sc)(z:Sc)(m:iv j=false)
 (b:∀a,gO (mk a)=some [.int k (a.toNat:Int)]) (h:JS j x y mk=some z):
 ∃v,(binOp j t (.int k (x.toNat:Int)) (.int k (y.toNat:Int))).run P w= .ok v w/\gO z=some [v]:=by
 have n:=x.isLt;have o:=y.isLt;have c:bf k.bits (x.toNat:Int)=x:=bY
 have f:bf k.bits (y.toNat:Int)=y:=bY
 cases j<;>simp only[JS,Option.some.injEq]at h<;>simp only[iv]at m
 case add=>
  subst h;refine⟨_,by rw[binOp_add];rfl,?_⟩;rw[b,BitVec.toNat_add,<-Int.natCast_add,iE g]
 case sub=>
  subst h;refine⟨_,by rw[binOp_sub];rfl,?_⟩;rw[b,BitVec.toNat_sub,Fc g]
  congr 3
  have:((2^k.bits-y.toNat+x.toNat:Nat):Int)=((x.toNat:Int)-y.toNat)+((2^k.bits:Nat):Int):=ac
  rw[Int.natCast_emod,this];simp
 case mul=>
  subst h;refine⟨_,by rw[binOp_mul];rfl,?_⟩;rw[b,BitVec.toNat_mul,<-Int.natCast_mul,iE g]
 case quo=>
  split at h<;>simp at h;rename_i l;subst h;have i:¬((y.toNat:Int)=0):=ac
  refine⟨.int k (k.wrap ((x.toNat:Int).tdiv (y.toNat:Int))),by rw[binOp_quo];simp only[Op.intDiv,i,if_false,bD],?_⟩;rw[b,BitVec.toNat_udiv,<-Int.ofNat_tdiv,iJ g (Nat.lt_of_le_of_lt (Nat.div_le_self _ _) n)]
 case rem=>
  split at h<;>simp at h;rename_i l;subst h;have i:¬((y.toNat:Int)=0):=ac
  refine⟨.int k ((x.toNat:Int).tmod (y.toNat:Int)),by rw[binOp_rem];simp only[Op.intDiv,i,if_false,bD],?_⟩;rw[b,BitVec.toNat_umod,<-Int.ofNat_tmod]
 case and=>
  subst h;refine⟨_,by rw[binOp_and];rfl,?_⟩;rw[b,c,f,iJ g (BitVec.isLt _)]
 case or=>
  subst h;refine⟨_,by rw[binOp_or];rfl,?_⟩;rw[b,c,f,iJ g (BitVec.isLt _)]
 case xor=>
  subst h;refine⟨_,by rw[binOp_xor];rfl,?_⟩;rw[b,c,f,iJ g (BitVec.isLt _)]
 case andNot=>
  subst h;refine⟨_,by rw[binOp_andNot];rfl,?_⟩;rw[b,c,f,iJ g (BitVec.isLt _)]
 case eql=>
  subst h;refine⟨_,by rw[binOp_eql];rfl,?_⟩;simp only[gO,Sc.val,Option.some.injEq,List.cons.injEq,and_true,Value.bool.injEq];rw[nr];simp only[aS];exact⟨λe=>by rw[e],λe=>BitVec.eq_of_toNat_eq ac⟩
 case neq=>
  subst h;refine⟨_,by rw[binOp_neq];rfl,?_⟩;simp only[gO,Sc.val,Option.some.injEq,List.cons.injEq,and_true,Value.bool.injEq,bne]
  congr 1
  rw[nr];simp only[aS];exact⟨λe=>by rw[e],λe=>BitVec.eq_of_toNat_eq ac⟩
 case lss=>subst h;exact⟨_,by rw[binOp_lss];rfl,by simp[gO,Sc.val]⟩
 case leq=>subst h;exact⟨_,by rw[binOp_leq];rfl,by simp[gO,Sc.val]⟩
 case gtr=>subst h;exact⟨_,by rw[binOp_gtr];rfl,by simp[gO,Sc.val]⟩
 case geq=>subst h;exact⟨_,by rw[binOp_geq];rfl,by simp[gO,Sc.val]⟩
 all_goals (simp at m h)
theorem oz(i:k.signed=false)(w:World)(t:TypeId)(e:BinOp)(x:BitVec k.bits)(j:IntKind)(y:Int)(m:Nat)(l:y=(m:Int))(mk:BitVec k.bits->Sc)(z:Sc)
 (c:∀a,gO (mk a)=some [.int k (a.toNat:Int)]) (h:vz e x m mk=some z):
 ∃v,(binOp e t (.int k (x.toNat:Int)) (.int j y)).run P w= .ok v w/\gO z=some [v]:=by
 subst l;have f:=x.isLt;have g:¬((m:Int)<0):=ac
 cases e<;>simp only[vz,Option.some.injEq]at h<;>first|(simp at h;done)|skip
 case shl=>
  subst h;refine⟨.int k (k.wrap ((x.toNat:Int)*2^(min m k.bits))),by rw[binOp_shl];simp only[Op.shift,g,if_false,aG,bD],?_⟩;have n:(x.toNat:Int)*2^(min m k.bits)=((x.toNat*2^(min m k.bits):Nat):Int):=bY
  rw[c,n,iE i,BitVec.toNat_shiftLeft,Nat.shiftLeft_eq]
  congr 3
  rcases Nat.le_total m k.bits with b|b
  ·rw[fh b]
  ·rw[Nat.min_eq_right b];obtain⟨d,rfl⟩:=Nat.exists_eq_add_of_le b;rw[Nat.pow_add,<-Nat.mul_assoc,Nat.mul_right_comm,Nat.mul_mod_left,Nat.mul_mod_left]
 case shr=>
  subst h;refine⟨.int k ((x.toNat:Int).fdiv (2^(min m k.bits))),by rw[binOp_shr];simp only[Op.shift,g,if_false,aG,bD],?_⟩;rw[c,BitVec.toNat_ushiftRight,Nat.shiftRight_eq_div_pow]
  congr 3
  rw[Int.fdiv_eq_ediv_of_nonneg _ (Int.pow_nonneg bt)];rcases Nat.le_total m k.bits with b|b
  ·rw[fh b];simp
  ·rw[Nat.min_eq_right b];have o:x.toNat/2^k.bits=0:=Nat.div_eq_of_lt f;have p:x.toNat/2^m=0:=Nat.div_eq_of_lt (bw f (Nat.pow_le_pow_right bt b));rw[p];have:(x.toNat:Int)/(2^k.bits)=((x.toNat/2^k.bits:Nat):Int):=bY
   rw[this,o]
end
theorem rE(w:World)(t:TypeId)(k:IntKind)(mk:Int->Sc)(a:∀n,(mk n).val= .int k n)(c:BinOp)(x y:Int)(z:Sc)(e:iv c=false)(h:JT k mk c x y=some z):
 ∃v,(binOp c t (.int k x) (.int k y)).run P w= .ok v w/\z.val=v:=by
 cases c<;>simp only[JT,Option.some.injEq]at h<;>simp only[iv]at e
 case add=>subst h;exact⟨_,by rw[binOp_add];rfl,a _⟩
 case sub=>subst h;exact⟨_,by rw[binOp_sub];rfl,a _⟩
 case mul=>subst h;exact⟨_,by rw[binOp_mul];rfl,a _⟩
 case quo=>
  split at h<;>simp at h;rename_i b;subst h;exact⟨.int k (k.wrap (x.tdiv y)),by rw[binOp_quo];simp only[Op.intDiv,b,if_false,bD],a _⟩
 case rem=>
  split at h<;>simp at h;rename_i b;subst h;exact⟨.int k (x.tmod y),by rw[binOp_rem];simp only[Op.intDiv,b,if_false,bD],a _⟩
 case and=>subst h;exact⟨_,by rw[binOp_and];rfl,a _⟩
 case or=>subst h;exact⟨_,by rw[binOp_or];rfl,a _⟩
 case xor=>subst h;exact⟨_,by rw[binOp_xor];rfl,a _⟩
 case andNot=>subst h;exact⟨_,by rw[binOp_andNot];rfl,a _⟩
 case eql=>subst h;exact⟨_,by rw[binOp_eql];rfl,rfl⟩
 case neq=>subst h;exact⟨_,by rw[binOp_neq];rfl,rfl⟩
 case lss=>subst h;exact⟨_,by rw[binOp_lss];rfl,by simp[Sc.val]⟩
 case leq=>subst h;exact⟨_,by rw[binOp_leq];rfl,by simp[Sc.val]⟩
 case gtr=>subst h;exact⟨_,by rw[binOp_gtr];rfl,by simp[Sc.val]⟩
 case geq=>subst h;exact⟨_,by rw[binOp_geq];rfl,by simp[Sc.val]⟩
 all_goals (simp at e h)
theorem vA(w:World)(t:TypeId)(a:BinOp)(x:Int)(c:IntKind)(y:Int)(m:Nat)(e:y=(m:Int))(z:Sc)(h:zQ a x m=some z):
 ∃v,(binOp a t (.int .i64 x) (.int c y)).run P w= .ok v w/\gO z=some [v]:=by
 subst e;have b:¬((m:Int)<0):=ac
 cases a<;>simp only[zQ,Option.some.injEq]at h<;>first|(simp at h;done)|skip
 case shl=>subst h;exact⟨_,by rw[binOp_shl];simp only[Op.shift,b,if_false,aG,bD];rfl,rfl⟩
 case shr=>subst h;exact⟨_,by rw[binOp_shr];simp only[Op.shift,b,if_false,aG,bD];rfl,rfl⟩
theorem DA{y:Sc}{m:Bool×Nat}(h:zR y=some m)(a:m.1=true):∃b n,y.val= .int b n/\n=(m.2:Int):=by
 cases y<;>simp only[zR,Option.some.injEq]at h<;>first|(simp at h;done)|skip
 case i64 n=>
  subst h;simp at a;exact⟨.i64,n,rfl,eM⟩
 case u8 x=>subst h;exact⟨.u8,_,rfl,rfl⟩
 case u64 x=>subst h;exact⟨.u64,_,rfl,rfl⟩
theorem oA(s:List (BitVec 8)):(bM s).toList=s.map iX:=by
 rw[ByteArray.toList_eq];simp[bM]
theorem jK:∀{a b:List (BitVec 8)},a.map iX=b.map iX->a=b
 |[],[],_=>rfl
 |[],_::_,h=>by simp at h
 |_::_,[],h=>by simp at h
 |x::a,y::b,h=>by
  simp only[aY,List.cons.injEq]at h;have c:x=y:=by have:=aI UInt8.toBitVec h.1;simpa using this
  rw[c,jK h.2]
theorem vB(a b:List (BitVec 8)):((bM a).toList==(bM b).toList)=(a==b):=by
 rw[oA,oA,nr];simp only[aS];exact⟨jK,λh=>by rw[h]⟩
def xy:Value->Bool
 | .int .. | .bool _| .string _=>true
 |_=>false
theorem ny(h:xy v=true)(a:BinOp)(t:TypeId)(x y:Operand):eqGuard a t x y v u=pure ():=by
 cases v<;>simp[xy]at h
 ·exact eqGuard_at_bool a t x y u _
 ·exact eqGuard_at_int a t x y u _ _
 ·exact eqGuard_at_string a t x y u _
theorem rF(w:World)(g:BinOp)(t:TypeId)(ex ey:Operand)(x y z:Sc)(c:Bool)(h:Fb P g t x y=some (c,z))(D:c=true):
 (do eqGuard g t ex ey x.val y.val;binOp g t x.val y.val:Sem Value).run P w= .ok z.val w:=by
 have e:((binOp g t x.val y.val).run P w= .ok z.val w)->
  (do eqGuard g t ex ey x.val y.val;binOp g t x.val y.val:Sem Value).run P w= .ok z.val w:=by
  intro o;rw[ny (by cases x<;>rfl)];simpa using o
 have f:∀{s:Sem Value}{z:Sc},(∃v,s.run P w= .ok v w/\gO z=some [v])->s.run P w= .ok z.val w:=by
  rintro s z ⟨v,o,p⟩;simp only[gO,Option.some.injEq,List.cons.injEq,and_true]at p;rw[o,p]
 have i:∀{s:Sem Value}{z:Sc},(∃v,s.run P w= .ok v w/\z.val=v)->s.run P w= .ok z.val w:=by
  rintro s z ⟨v,o,p⟩;rw[o,p]
 unfold Fb at h;split at h
 ·rename_i C;split at h
  ·simp at h
  ·rename_i m E;cases x<;>simp only[nt,Prod.mk.injEq]at h<;>first|(simp at h;done)|skip
   all_goals
    obtain⟨q,j,rfl,rfl⟩:=h;obtain⟨r,n,u,A⟩:=DA E D;rw[u]at e⊢;refine e (f ?_)
   ·exact vA w t g _ r n m.2 A _ j
   ·exact oz (k:= .u8) rfl w t g _ r n m.2 A .u8 _ (λ_=>rfl) j
   ·exact oz (k:= .u64) rfl w t g _ r n m.2 A .u64 _ (λ_=>rfl) j
 ·rename_i C;have l:iv g=false:=cf C
  split at h
  ·obtain⟨q,j,h⟩:=nt.1 h;simp only[Prod.mk.injEq]at h;obtain⟨rfl,rfl⟩:=h;exact e (i (rE w t .i64 .i64 (λ_=>rfl) g _ _ _ l j))
  ·obtain⟨q,j,h⟩:=nt.1 h;simp only[Prod.mk.injEq]at h;obtain⟨rfl,rfl⟩:=h;exact e (i (rE w t .i32 .i32 (λ_=>rfl) g _ _ _ l j))
  ·obtain⟨q,j,h⟩:=nt.1 h;simp only[Prod.mk.injEq]at h;obtain⟨rfl,rfl⟩:=h;exact e (f (rD (k:= .u8) rfl w t g _ _ .u8 _ l (λ_=>rfl) j))
  ·obtain⟨q,j,h⟩:=nt.1 h;simp only[Prod.mk.injEq]at h;obtain⟨rfl,rfl⟩:=h;exact e (f (rD (k:= .u64) rfl w t g _ _ .u64 _ l (λ_=>rfl) j))
  ·rename_i a b;split at h<;>first|(simp at h;done)|(simp only[Option.some.injEq,Prod.mk.injEq]at h)
   ·rename_i B;obtain⟨_,rfl⟩:=h;refine e ?_;simp[Sc.val,binOp,run_equal_bool w t a b B]
   ·rename_i B;obtain⟨_,rfl⟩:=h;refine e ?_;simp[Sc.val,binOp,run_equal_bool w t a b B]
  ·rename_i a b;split at h<;>first|(simp at h;done)|(simp only[Option.some.injEq,Prod.mk.injEq]at h)
   ·obtain⟨_,rfl⟩:=h;refine e ?_;simp only[Sc.val,binOp,Op.stringOp,bD,vB]
   ·obtain⟨_,rfl⟩:=h;refine e ?_;simp only[Sc.val,binOp,Op.stringOp,bD,vB]
  ·simp at h
def sun(a:UnOp)(x:Sc):Option Sc:=
 match a,x with
 | .not, .bool b=>some (.bool (!b))
 | .neg, .i64 n=>some (.i64 (IntKind.i64.wrap (0-n)))
 |_,_=>none
theorem DB(w:World)(a:UnOp)(x z:Sc)(h:sun a x=some z):(Op.unary a x.val).run P w= .ok z.val w:=by
 unfold sun at h;split at h<;>first|(simp at h;done)|skip
 all_goals (simp only[Option.some.injEq]at h;subst h;rfl)
def BI(dst:IntKind)(x:Sc):Option Sc:=
 match dst,x with
 | .i64, .i64 n=>some (.i64 (IntKind.i64.wrap n))
 | .i64, .i32 n=>some (.i64 (IntKind.i64.wrap n))
 | .i64, .u8 x=>some (.i64 (x.toNat:Int))
 | .i64, .u64 x=>some (.i64 (IntKind.i64.wrap (x.toNat:Int)))
 | .i32, .i64 n=>some (.i32 (IntKind.i32.wrap n))
 | .i32, .i32 n=>some (.i32 (IntKind.i32.wrap n))
 | .u8, .i64 n=>some (.u8 (bf 8 n))
 | .u8, .u8 x=>some (.u8 x)
 | .u8, .u64 x=>some (.u8 (x.setWidth 8))
 | .u64, .i64 n=>some (.u64 (bf 64 n))
 | .u64, .u8 x=>some (.u64 (x.setWidth 64))
 | .u64, .u64 x=>some (.u64 x)
 |_,_=>none
theorem rG(h:n<9223372036854775808):IntKind.i64.wrap (n:Int)=n:=by
 rw[dK];omega
theorem qi{k:IntKind}(a:k.signed=false)(n:Int):k.wrap n=((bf k.bits n).toNat:Int):=by
 rw[Fc a,BitVec.toNat_ofInt];rw[qJ (Int.emod_nonneg _ (by have:=Nat.two_pow_pos k.bits;omega))];simp
theorem xz(w:World)(dst:IntKind)(x z:Sc)(h:BI dst x=some z):
 ∃k n,x.val= .int k n/\(Conv.intToInt dst n).run P w= .ok z.val w:=by
 unfold BI at h;split at h<;>first|(simp at h;done)|skip
 all_goals
  simp only[Option.some.injEq]at h;subst h;refine⟨_,_,rfl,?_⟩
 case h_1=>rfl
 case h_2=>rfl
 case h_3 x=>have:=x.isLt;show pF (gL .i64 (IntKind.i64.wrap (x.toNat:Int))) w=_;rw[rG ac];rfl
 case h_4=>rfl
 case h_5=>rfl
 case h_6=>rfl
 case h_7 n=>show pF (gL .u8 (IntKind.u8.wrap n)) w=_;rw[qi (k:= .u8) rfl];rfl
 case h_8 x=>show pF (gL .u8 (IntKind.u8.wrap (x.toNat:Int))) w=_;rw[iJ (k:= .u8) rfl x.isLt];rfl
 case h_9 x=>show pF (gL .u8 (IntKind.u8.wrap (x.toNat:Int))) w=_;rw[iE (k:= .u8) rfl];simp only[Sc.val,cu,BitVec.toNat_setWidth];rfl
 case h_10 n=>show pF (gL .u64 (IntKind.u64.wrap n)) w=_;rw[qi (k:= .u64) rfl];rfl
 case h_11 x=>show pF (gL .u64 (IntKind.u64.wrap (x.toNat:Int))) w=_;rw[iE (k:= .u64) rfl];simp only[Sc.val,ku,BitVec.toNat_setWidth];rfl
 case h_12 x=>show pF (gL .u64 (IntKind.u64.wrap (x.toNat:Int))) w=_;rw[iJ (k:= .u64) rfl x.isLt];rfl
def PD:Value->Option Sc
 | .bool b=>some (.bool b)
 | .int .i64 n=>some (.i64 n)
 | .int .i32 n=>some (.i32 n)
 | .int .u8 n=>if 0<=n/\n<256 then some (.u8 (bf 8 n))else none
 | .int .u64 n=>if 0<=n/\n<18446744073709551616 then some (.u64 (bf 64 n))else none
 | .string s=>some (.str (s.data.toList.map (·.toBitVec)))
 |_=>none
theorem JU{x:Sc}(h:PD v=some x):v=x.val:=by
 unfold PD at h;split at h<;>first|(simp at h;done)|skip
 ·simp at h;subst h;rfl
 ·simp at h;subst h;rfl
 ·simp at h;subst h;rfl
 ·split at h<;>simp at h;rename_i n a;subst h;simp only[Sc.val,cu,BitVec.toNat_ofInt]
  congr 1
  omega
 ·split at h<;>simp at h;rename_i n a;subst h;simp only[Sc.val,ku,BitVec.toNat_ofInt]
  congr 1
  omega
 ·rename_i s;simp at h;subst h;simp only[Sc.val,bM]
  congr 1
  cases s with
  |mk d=>
   congr 1
   apply Array.ext';simp[List.map_map,Function.comp_def]
end
inductive Ty where
 |bl
 |i64
 |i32
 |u8
 |u64
 |st
 |sl (e:Ty)
 |ar (n:Nat) (e:Ty)
 |un
 |pr (a r:Ty)
 |pf (t:Ty)
 |fm (k v:Ty)
 |yl
@[reducible]def Ty.den:Ty->Type
  | .bl=>Bool
  | .i64=>Int
  | .i32=>Int
  | .u8=>BitVec 8
  | .u64=>BitVec 64
  | .st=>List (BitVec 8)
  | .sl e=>List e.den
  | .ar _ e=>List e.den
  | .un=>Unit
  | .pr a r=>a.den×r.den
  | .pf t=>t.den
  | .fm k v=>List (k.den×v.den)
  | .yl=>Nat
def Ty.size:Ty->Nat
 | .bl=>1
 | .i64=>1
 | .i32=>1
 | .u8=>1
 | .u64=>1
 | .st=>1
 | .sl _=>1
 | .ar n e=>n*e.size
 | .un=>0
 | .pr a r=>a.size+r.size
 | .pf _=>1
 | .fm .. =>1
 | .yl=>1
def Ty.df:(t:Ty)->t.den
 | .bl=>false
 | .i64=>(0:Int)
 | .i32=>(0:Int)
 | .u8=>(0:BitVec 8)
 | .u64=>(0:BitVec 64)
 | .st=>([]:List (BitVec 8))
 | .sl _=>[]
 | .ar n e=>ax n e.df
 | .un=>()
 | .pr a r=>(a.df,r.df)
 | .pf t=>t.df
 | .fm .. =>[]
 | .yl=>(0:Nat)
def Ty.deq:(a b:Ty)->Option (PLift (a=b))
 | .bl, .bl=>some ⟨rfl⟩
 | .i64, .i64=>some ⟨rfl⟩
 | .i32, .i32=>some ⟨rfl⟩
 | .u8, .u8=>some ⟨rfl⟩
 | .u64, .u64=>some ⟨rfl⟩
 | .st, .st=>some ⟨rfl⟩
 | .yl, .yl=>some ⟨rfl⟩
 | .un, .un=>some ⟨rfl⟩
 | .sl e, .sl f=>match Ty.deq e f with
   |some h=>some ⟨h.down▸rfl⟩
   |none=>none
 | .ar n e, .ar m f=>match Ty.deq e f,Nat.decEq n m with
   |some h, .isTrue g=>some ⟨h.down▸g▸rfl⟩
   |_,_=>none
 | .pr a r, .pr c q=>match Ty.deq a c,Ty.deq r q with
   |some h,some g=>some ⟨h.down▸g.down▸rfl⟩
   |_,_=>none
 | .pf e, .pf f=>match Ty.deq e f with
   |some h=>some ⟨h.down▸rfl⟩
   |none=>none
 | .fm a r, .fm c q=>match Ty.deq a c,Ty.deq r q with
   |some h,some g=>some ⟨h.down▸g.down▸rfl⟩
   |_,_=>none
 |_,_=>none
def Ty.cast(a b:Ty)(x:a.den):Option b.den:=
 match Ty.deq a b with
 |some h=>some (h.down▸x)
 |none=>none
variable{a kt:Ty}
theorem Ty.cast_ok{x:a.den}{y:kt.den}(h:Ty.cast a kt x=some y):∃e:a=kt,y=e▸x:=by
 unfold Ty.cast at h;split at h
 ·rename_i q _;simp at h;exact⟨q.down,h.symm⟩
 ·simp at h
def Ty.agg:Ty->Bool
 | .ar .. =>true
 | .un=>true
 | .pr .. =>true
 |_=>false
def F2{α β:Type}(R:α->β->Prop):List α->List β->Prop
 |[],[]=>True
 |a::l,b::m=>R a b/\F2 R l m
 |_,_=>False
variable{R α β:Type}
theorem F2.imp{R S:α->β->Prop}(h:∀a b,R a b->S a b):∀{l:List α}{m:List β},F2 R l m->F2 S l m
 |[],[],_=>trivial
 |_::_,_::_,⟨a,b⟩=>⟨h _ _ a,F2.imp h b⟩
theorem F2.length{R:α->β->Prop}:∀{l:List α}{m:List β},F2 R l m->l.length=m.length
 |[],[],_=>rfl
 |_::_,_::_,⟨_,b⟩=>aI (·+1) (F2.length b)
theorem F2.get{R:α->β->Prop}:∀{l:List α}{m:List β},F2 R l m->∀{i:Nat}{a:α},l[i]?=some a->∃b,m[i]?=some b/\R a b
 |a::_,b::_,⟨h,_⟩,0,_,e=>by simp at e;subst e;exact⟨b,rfl,h⟩
 |_::_,_::_,⟨_,h⟩,i+1,_,e=>F2.get h (cf e)
theorem F2.set{R:α->β->Prop}:∀{l:List α}{m:List β},F2 R l m->∀(i:Nat){a:α}{b:β},R a b->F2 R (l.set i a) (m.set i b)
 |[],[],_,_,_,_,_=>trivial
 |_::_,_::_,⟨_,h⟩,0,_,_,r=>⟨r,h⟩
 |_::_,_::_,⟨c,h⟩,i+1,_,_,r=>⟨c,F2.set h i r⟩
theorem F2.append{R:α->β->Prop}:∀{l:List α}{m:List β},F2 R l m->∀{l':List α}{m':List β},F2 R l' m'->F2 R (l++l') (m++m')
 |[],[],_,_,_,h=>h
 |_::_,_::_,⟨a,b⟩,_,_,h=>⟨a,F2.append b h⟩
def dT{α:Type}(R:α->List Value->Prop):List α->List Value->Prop
 |[],c=>c=[]
 |x::l,c=>∃a b,c=a++b/\R x a/\dT R l b
def na(w:World)(A:Nat->Prop){α:Type}(R:α->List Value->Prop)(l:List α)(v:Value):Prop:=
 (∃b c cap e,v= .slice (some ⟨b,c,none⟩) l.length cap/\l.length<=cap/\b<w.heap.size/\¬A b/\dT R l e/\∀i u,e[i]?=some u->w.cell? ⟨b,c+i,none⟩=some u)\/
 (l=[]/\∃a,v= .slice a 0 0)
def TX(g:Bool){α:Type}(R:α->List Value->Prop)(x:α)(v:Value):Prop:=∃a,R x a/\(if g then v= .agg a.toArray else a=[v])
def JV(w:World)(c f:Bool){α β:Type}(R:α->List Value->Prop)(S:β->List Value->Prop)(l:List (α×β))(b:Nat):Prop:=
 ∃a clock,w.heap[b]?=some (.map a clock)/\F2 (λq e=>TX c R q.1 e.key/\TX f S q.2 e.val) l a.toList/\(a.toList.map (·.born)).Nodup/\(∀e∈a.toList,e.born<clock)/\(l.map (·.1)).Nodup
def Rd(w:World)(A:Nat->Prop):(t:Ty)->t.den->List Value->Prop
 | .bl,x,f=>f=[.bool x]
 | .i64,x,f=>f=[.int .i64 x]
 | .i32,x,f=>f=[.int .i32 x]
 | .u8,x,f=>f=[cu x]
 | .u64,x,f=>f=[ku x]
 | .st,x,f=>f=[.string (bM x)]
 | .sl e,l,f=>∃v,f=[v]/\na w A (Rd w A e) l v
 | .ar n e,l,f=>l.length=n/\dT (Rd w A e) l f
 | .un,_,f=>f=[]
 | .yl,x,f=>f=[.func (.yield x) #[] #[]]
 | .pr a r,x,f=>∃c d,f=c++d/\Rd w A a x.1 c/\Rd w A r x.2 d
 | .pf t,x,f=>∃b g h,f=[.pointer (some ⟨b,g,none⟩)]/\b<w.heap.size/\¬A b/\Rd w A t x h/\∀i u,h[i]?=some u->w.cell? ⟨b,g+i,none⟩=some u
 | .fm k v,l,f=>∃b,f=[.map (some b)]/\b<w.heap.size/\¬A b/\JV w k.agg v.agg (Rd w A k) (Rd w A v) l b
theorem dT.length{R:α->List Value->Prop}(c:∀x vs,R x vs->vs.length=n):∀{l:List α}{vs:List Value},dT R l vs->vs.length=l.length*n
 |[],vs,h=>by rw[h];simp
 |_::l,vs,⟨a,b,e,f,g⟩=>by rw[e,aa,c _ _ f,dT.length c g,bc,Nat.succ_mul,fq]
theorem dT.imp{R S:α->List Value->Prop}(h:∀x vs,R x vs->S x vs):∀{l:List α}{vs:List Value},dT R l vs->dT S l vs
 |[],_,e=>e
 |_::_,_,⟨a,b,e,c,f⟩=>⟨a,b,e,h _ _ c,dT.imp h f⟩
theorem dT.append{R:α->List Value->Prop}:∀{l m:List α}{vs us:List Value},dT R l vs->dT R m us->dT R (l++m) (vs++us)
 |[],_,_,_,e,h=>by rw[e];exact h
 |_::_,_,_,us,⟨a,b,e,c,f⟩,h=>⟨a,b++us,by rw[e,ay],c,dT.append f h⟩
theorem dT.one{α:Type}{R:α->List Value->Prop}{x:α}{vs:List Value}(h:R x vs):dT R [x] vs:=⟨vs,[],bY,h,rfl⟩
theorem dT.split{R:α->List Value->Prop}:∀{l m:List α}{vs:List Value},dT R (l++m) vs->∃a b,vs=a++b/\dT R l a/\dT R m b
 |[],_,vs,h=>⟨[],vs,rfl,rfl,h⟩
 |_::l,m,vs,⟨a,b,e,f,g⟩=>by
  obtain⟨c,d,i,j,n⟩:=dT.split (l:=l) g;exact⟨a++c,d,by rw[e,i,ay],⟨a,c,rfl,f,j⟩,n⟩
theorem dT.all{R:α->List Value->Prop}{p:Value->Prop}(f:∀x vs,R x vs->∀v∈vs,p v):∀{l:List α}{vs:List Value},dT R l vs->∀v∈vs,p v
 |[],_,e=>by rw[e];simp
 |_::_,_,⟨a,b,e,g,h⟩=>by
  intro v c;rw[e,ba]at c;rcases c with c|c
  ·exact f _ _ g v c
  ·exact dT.all f h v c
variable{A E F:Nat->Prop}{w w':World}
theorem Rd.length:∀{t:Ty}{x:t.den}{vs:List Value},Rd w A t x vs->vs.length=t.size:=by
 intro t
 induction t with
 |bl|i64|i32|u8|u64|st|yl=>intro x vs h;simp only[Rd]at h;rw[h];rfl
 |sl e=>intro x vs ⟨v,h,_⟩;rw[h];rfl
 |ar n e j=>intro x vs ⟨b,f⟩;rw[dT.length (λy l=>j (x:=y) (vs:=l)) f,b];rfl
 |un=>intro x vs h;simp only[Rd]at h;rw[h];rfl
 |pr a r g i=>intro x vs ⟨c,d,e,b,f⟩;rw[e,aa,g b,i f];rfl
 |pf t=>intro x vs ⟨_,_,_,h,_⟩;rw[h];rfl
 |fm=>intro x vs ⟨_,h,_⟩;rw[h];rfl
theorem Rd.one{w:World}{A:Nat->Prop}:∀{t:Ty}{x:t.den}{vs:List Value},Rd w A t x vs->∀v∈vs,v.oneCell'=true:=by
 intro t
 induction t with
 |bl|i64|i32|u8|u64|st|yl=>intro x vs h;simp only[Rd]at h;rw[h];intro v b;simp at b;subst b;rfl
 |sl e=>
  intro x vs ⟨v,h,f⟩;rw[h];intro u j;simp at j;subst j;rcases f with⟨_,_,_,_,rfl,_⟩|⟨_,_,rfl⟩<;>rfl
 |ar n e l=>intro x vs ⟨_,f⟩;exact dT.all (λy o h=>l h) f
 |un=>intro x vs h;simp only[Rd]at h;rw[h];simp
 |pr a r g i=>
  intro x vs ⟨c,d,e,m,f⟩ v b;rw[e,ba]at b;rcases b with b|b
  ·exact g m v b
  ·exact i f v b
 |pf t=>intro x vs ⟨_,_,_,h,_⟩ v b;rw[h]at b;simp at b;subst b;rfl
 |fm=>intro x vs ⟨_,h,_⟩ v b;rw[h]at b;simp at b;subst b;rfl
def PE:Obj->Bool
 | .loop _=>false
 | .deferred _=>false
 |_=>true
structure qK(w:World)(A:Nat->Prop)(w':World)(A':Nat->Prop):Prop where
 size:w.heap.size<=w'.heap.size
 same:∀b,b<w.heap.size->¬A b->∀o,w.heap[b]?=some o->PE o=true->w'.heap[b]?=some o
 av:∀b,b<w.heap.size->A' b->A b
theorem qK.refl(w:World)(A:Nat->Prop):qK w A w A:=⟨aE _,λ_ _ _ _ h _=>h,λ_ _ h=>h⟩
theorem qK.trans{c:World}(h:qK w A w' F)(h':qK w' F c E):qK w A c E:=
 ⟨bE h.size h'.size,λb a g o j i=>h'.same b (bw a h.size) (λq=>g (h.av b a q)) o (h.same b a g o j i) i,
  λb a q=>h.av b a (h'.av b (bw a h.size) q)⟩
theorem qK.cell(g:qK w A w' F)(c:b<w.heap.size)(i:¬A b)(h:w.cell? ⟨b,off,none⟩=some u):w'.cell? ⟨b,off,none⟩=some u:=by
 obtain⟨o,a⟩:∃o,w.heap[b]?=some o:=⟨_,Array.getElem?_eq_getElem c⟩;cases e:PE o with
 |true=>exact(World.cell?_of_block ((g.same b c i o a e).trans a.symm)).trans h
 |false=>
  exfalso;cases o<;>simp[PE]at e<;>simp[World.cell?,a]at h
theorem na.evo(b:qK w A w' F){R S:α->List Value->Prop}(h:∀x vs,R x vs->S x vs){l:List α}(c:na w A R l v):na w' F S l v:=by
 rcases c with⟨a,e,cap,m,n,o,f,j,p,r⟩|c
 ·exact .inl ⟨a,e,cap,m,n,o,bw f b.size,λq=>j (b.av a f q),p.imp h,λi u s=>b.cell f j (r i u s)⟩
 ·exact .inr c
variable{c g:Bool}
theorem TX.imp{R S:α->List Value->Prop}(h:∀x vs,R x vs->S x vs){x:α}(a:TX g R x v):TX g S x v:=let⟨vs,b,c⟩:=a;⟨vs,h _ _ b,c⟩
theorem JV.evo{a:Bool}{R e:α->List Value->Prop}{S f:β->List Value->Prop}{l:List (α×β)}(g:w'.heap[b]?=w.heap[b]?)(i:∀x vs,R x vs->e x vs)(j:∀x vs,S x vs->f x vs)
 (h:JV w a c R S l b):JV w' a c e f l b:=
 let⟨m,clock,n,o,p⟩:=h;⟨m,clock,by rw[g];exact n,F2.imp (λ_ _ q=>⟨q.1.imp i,q.2.imp j⟩) o,p⟩
theorem Rd.evo(j:qK w A w' E):∀{t:Ty}{x:t.den}{vs:List Value},Rd w A t x vs->Rd w' E t x vs:=by
 intro t
 induction t with
 |bl|i64|i32|u8|u64|st|un|yl=>intro x vs h;exact h
 |sl e m=>intro x vs ⟨v,h,f⟩;exact⟨v,h,f.evo j (λy F h=>m h)⟩
 |ar n e m=>intro x vs ⟨l,f⟩;exact⟨l,f.imp (λy F h=>m h)⟩
 |pr a r s z=>intro x vs ⟨c,d,e,l,f⟩;exact⟨c,d,e,s l,z f⟩
 |pf t m=>intro x vs ⟨b,B,G,l,f,o,p,H⟩;exact⟨b,B,G,l,bw f j.size,λq=>o (j.av b f q),m p,λi u J=>j.cell f o (H i u J)⟩
 |fm k v C D=>intro x vs ⟨b,l,f,o,p⟩;exact⟨b,l,bw f j.size,λq=>o (j.av b f q),p.evo (by obtain⟨K,clock,g,_⟩:=p;exact(j.same b f o _ g rfl).trans g.symm) (λ_ _ h=>C h) (λ_ _ h=>D h)⟩
theorem xA{a b:List α}(k:Nat)(h:a.length=n):(a++b).drop (k+n)=b.drop k:=by
 rw[List.drop_append,bu ac,eO];congr 1;omega
theorem Fe{a b:List α}(k:Nat)(h:a.length=n):(a++b).take (k+n)=a++b.take k:=by
 rw[List.take_append,bb ac];congr 2;omega
theorem dT.get{R:α->List Value->Prop}(f:∀x vs,R x vs->vs.length=n):∀{l:List α}{vs:List Value}{i:Nat}{x:α},dT R l vs->l[i]?=some x->R x ((vs.drop (i*n)).take n)/\i*n+n<=vs.length
 |[],_,_,_,_,h=>by simp at h
 |y::l,vs,0,x,⟨a,b,e,c,g⟩,h=>by
  simp at h;subst h;have:=f _ _ c;subst e;refine⟨?_,eM⟩;rw[Nat.zero_mul,List.drop_zero,<-this,List.take_left];exact c
 |y::l,vs,i+1,x,⟨a,b,e,c,g⟩,h=>by
  have:=f _ _ c;subst e;obtain⟨j,m⟩:=dT.get f (i:=i) g (cf h);refine⟨?_,by rw[aa,Nat.succ_mul];omega⟩;rw[Nat.succ_mul,xA _ this];exact j
theorem dT.set{R:α->List Value->Prop}(f:∀x vs,R x vs->vs.length=n):∀{l:List α}{vs us:List Value}{i:Nat}{y:α},dT R l vs->i<l.length->R y us->dT R (l.set i y) (vs.take (i*n)++us++vs.drop (i*n+n))
 |[],_,_,_,_,_,h,_=>by simp at h
 |x::l,vs,us,0,y,⟨a,b,e,c,g⟩,_,j=>by
  have:=f _ _ c;subst e;refine⟨us,b,?_,j,g⟩;rw[Nat.zero_mul,bT,List.take_zero,eO,<-this,List.drop_left]
 |x::l,vs,us,i+1,y,⟨a,b,e,c,g⟩,h,j=>by
  have:=f _ _ c;subst e;have m:=dT.set f (i:=i) g (cf h) j;refine⟨a,_,?_,c,m⟩;rw[Nat.succ_mul,Fe _ this,show i*n+n+n=(i*n+n)+n from rfl,xA _ this];simp[ay]
variable{nv vs:List Value}
section
inductive Pl where
 |un
 |bk (b:Nat)
 |sv (v:Value)
def Pl.blk:Pl->Option Nat
 | .bk b=>some b
 | .sv (.slice (some a) _ (_+1))=>some a.block
 |_=>none
inductive I where
 |k (s:Sc)
 |d (t:Ty) (x:t.den)
 |cut (e:Ty) (l:List e.den)
 |own (k:Nat)
 |sub (k off n:Nat) (e:Ty)
 |ptr (k off:Nat)
 |pes (k:Nat) (e:Ty) (i inner:Nat)
 |pv (t:Ty) (x:t.den)
 |nils
 |nilp
 |nilm
 |nili
 |nilf
 |mp (k:Nat)
 |fn (f:FuncId) (first cap:List (Nat×Nat))
 |ifc (t:TypeId) (k off:Nat)
 |mth (name:String) (t:TypeId) (k off:Nat)
 |fmp (kt vt:Ty) (l:List (kt.den×vt.den))
def I.size:I->Nat
 | .d t _=>t.size
 |_=>1
def ly:List I->Nat
 |[]=>0
 |i::r=>i.size+ly r
inductive V where
 |any
 |val (g:Bool) (l:List I)
 |tup (l:List (Bool×List I))
def sc(i:I):V:= .val false [i]
def lz(ρ:Nat->Pl)(p:Nat×Nat)(v:Value):Prop:=∃b,ρ p.1= .bk b/\v= .pointer (some ⟨b,p.2,none⟩)
def bh(w:World)(A:Nat->Prop)(ρ:Nat->Pl):I->List Value->Prop
 | .k s,g=>g=[s.val]
 | .d t x,g=>Rd w A t x g
 | .cut e l,g=>∃v,g=[v]/\na w A (Rd w A e) l v/\∃a n,v= .slice a n n
 | .own k,g=>∃a n c,ρ k= .sv (.slice a n c)/\g=[.slice a n c]
 | .sub k j n _,g=>∃b,ρ k= .bk b/\g=[.slice (some ⟨b,j,none⟩) n n]
 | .ptr k j,g=>∃v,lz ρ (k,j) v/\g=[v]
 | .pes k e i m,g=>∃b n c,ρ k= .sv (.slice (some ⟨b,0,none⟩) n c)/\i<n/\g=[.pointer (some ⟨b,i*e.size+m,none⟩)]
 | .pv t x,g=>∃b j o,g=[.pointer (some ⟨b,j,none⟩)]/\b<w.heap.size/\¬A b/\Rd w A t x o/\∀i u,o[i]?=some u->w.cell? ⟨b,j+i,none⟩=some u
 | .nils,g=>g=[.slice none 0 0]
 | .nilp,g=>g=[.pointer none]
 | .nilm,g=>g=[.map none]
 | .nili,g=>g=[.nilIface]
 | .nilf,g=>g=[.nilFunc]
 | .mp k,g=>∃b,ρ k= .bk b/\g=[.map (some b)]
 | .fn f first cap,g=>∃p o,g=[.func (.func f) p.toArray o.toArray]/\F2 (lz ρ) first p/\F2 (lz ρ) cap o
 | .ifc t k j,g=>∃v,lz ρ (k,j) v/\g=[.iface t v]
 | .mth name t k j,g=>∃v,lz ρ (k,j) v/\g=[.func (.method name) #[.iface t v] #[]]
 | .fmp q r l,g=>Rd w A (.fm q r) l g
def aP(w:World)(A:Nat->Prop)(ρ:Nat->Pl):List I->List Value->Prop
 |[],c=>c=[]
 |i::r,c=>∃a b,c=a++b/\bh w A ρ i a/\aP w A ρ r b
def zU(w:World)(A:Nat->Prop)(ρ:Nat->Pl)(x:Bool×List I)(v:Value):Prop:=
 ∃a,aP w A ρ x.2 a/\(if x.1 then v= .agg a.toArray else a=[v])
def aT(w:World)(A:Nat->Prop)(ρ:Nat->Pl):V->Value->Prop
 | .any,_=>True
 | .val g l,v=>zU w A ρ (g,l) v
 | .tup l,v=>∃a,v= .tuple a.toArray/\F2 (zU w A ρ) l a
def eA(ρ ρ':Nat->Pl):Prop:=∀k,ρ k≠ .un->ρ' k=ρ k
theorem eA.refl(ρ:Nat->Pl):eA ρ ρ:=λ_ _=>rfl
theorem eA.trans{ρ ρ' ρ'':Nat->Pl}(h:eA ρ ρ')(h':eA ρ' ρ''):eA ρ ρ'':=λk a=>by
 rw[h' k (by rw[h k a];exact a),h k a]
theorem eA.bk{ρ ρ':Nat->Pl}(h:eA ρ ρ')(e:ρ n= .bk b):ρ' n= .bk b:=by rw[h n (by rw[e];simp),e]
theorem eA.sv{ρ ρ':Nat->Pl}(h:eA ρ ρ')(e:ρ n= .sv v):ρ' n= .sv v:=by rw[h n (by rw[e];simp),e]
section
variable{w w':World}{A A':Nat->Prop}{ρ ρ':Nat->Pl}
theorem lz.ext(a:eA ρ ρ'){p:Nat×Nat}(h:lz ρ p v):lz ρ' p v:=let⟨b,c,e⟩:=h;⟨b,a.bk c,e⟩
theorem bh.evo(j:qK w A w' A')(g:eA ρ ρ'){i:I}(h:bh w A ρ i vs):bh w' A' ρ' i vs:=by
 cases i
 case d=>exact Rd.evo j h
 case cut=>obtain⟨v,f,e,m⟩:=h;exact⟨v,f,e.evo j (λ_ _=>Rd.evo j),m⟩
 case own=>obtain⟨a,n,c,f,e⟩:=h;exact⟨a,n,c,g.sv f,e⟩
 case sub=>obtain⟨b,f,e⟩:=h;exact⟨b,g.bk f,e⟩
 case ptr=>obtain⟨v,f,e⟩:=h;exact⟨v,f.ext g,e⟩
 case pes=>obtain⟨b,n,c,f,e⟩:=h;exact⟨b,n,c,g.sv f,e⟩
 case pv=>
  obtain⟨b,o,p,f,e,m,r,s⟩:=h;exact⟨b,o,p,f,bw e j.size,λq=>m (j.av b e q),Rd.evo j r,λi u y=>j.cell e m (s i u y)⟩
 case mp=>obtain⟨b,f,e⟩:=h;exact⟨b,g.bk f,e⟩
 case fn=>obtain⟨z,p,f,e,m⟩:=h;exact⟨z,p,f,F2.imp (λ_ _=>lz.ext g) e,F2.imp (λ_ _=>lz.ext g) m⟩
 case ifc=>obtain⟨v,f,e⟩:=h;exact⟨v,f.ext g,e⟩
 case mth=>obtain⟨v,f,e⟩:=h;exact⟨v,f.ext g,e⟩
 case fmp B C l=>exact Rd.evo (t:= .fm B C) (x:=l) j h
 all_goals exact h
theorem aP.evo(e:qK w A w' A')(f:eA ρ ρ'):∀{l:List I}{vs:List Value},aP w A ρ l vs->aP w' A' ρ' l vs
 |[],_,h=>h
 |_::_,_,⟨a,b,c,g,i⟩=>⟨a,b,c,g.evo e f,aP.evo e f i⟩
theorem zU.evo(a:qK w A w' A')(b:eA ρ ρ'){x:Bool×List I}(h:zU w A ρ x v):zU w' A' ρ' x v:=
 let⟨c,e,f⟩:=h;⟨c,e.evo a b,f⟩
theorem aT.evo(a:qK w A w' A')(b:eA ρ ρ'){x:V}(h:aT w A ρ x v):aT w' A' ρ' x v:=by
 cases x
 case any=>trivial
 case val g l=>exact zU.evo a b h
 case tup l=>obtain⟨c,e,f⟩:=h;exact⟨c,e,F2.imp (λ_ _=>zU.evo a b) f⟩
theorem Sc.one(s:Sc):s.val.oneCell'=true:=by cases s<;>rfl
theorem bh.length{i:I}(h:bh w A ρ i vs):vs.length=i.size:=by
 cases i
 case d=>exact Rd.length h
 case cut=>obtain⟨_,rfl,_⟩:=h;rfl
 case own=>obtain⟨_,_,_,_,rfl⟩:=h;rfl
 case sub=>obtain⟨_,_,rfl⟩:=h;rfl
 case ptr=>obtain⟨_,_,rfl⟩:=h;rfl
 case pes=>obtain⟨_,_,_,_,_,rfl⟩:=h;rfl
 case pv=>obtain⟨_,_,_,rfl,_⟩:=h;rfl
 case mp=>obtain⟨_,_,rfl⟩:=h;rfl
 case fn=>obtain⟨_,_,rfl,_⟩:=h;rfl
 case ifc=>obtain⟨_,_,rfl⟩:=h;rfl
 case mth=>obtain⟨_,_,rfl⟩:=h;rfl
 case fmp=>obtain⟨_,rfl,_⟩:=h;rfl
 all_goals (simp only[bh]at h;rw[h];rfl)
theorem aP.length:∀{l:List I}{vs:List Value},aP w A ρ l vs->vs.length=ly l
 |[],_,h=>by rw[h];rfl
 |_::_,_,⟨a,b,c,e,f⟩=>by rw[c,aa,bh.length e,aP.length f];rfl
theorem bh.one{i:I}{vs:List Value}(h:bh w A ρ i vs):∀v∈vs,v.oneCell'=true:=by
 cases i
 case k s=>simp only[bh]at h;rw[h];simp[Sc.one]
 case d=>exact Rd.one h
 case cut=>obtain⟨_,rfl,_,_,_,rfl⟩:=h;simp[eg]
 case own=>obtain⟨_,_,_,_,rfl⟩:=h;simp[eg]
 case sub=>obtain⟨_,_,rfl⟩:=h;simp[eg]
 case ptr=>obtain⟨_,⟨_,_,rfl⟩,rfl⟩:=h;simp[eg]
 case pes=>obtain⟨_,_,_,_,_,rfl⟩:=h;simp[eg]
 case pv=>obtain⟨_,_,_,rfl,_⟩:=h;simp[eg]
 case mp=>obtain⟨_,_,rfl⟩:=h;simp[eg]
 case fn=>obtain⟨_,_,rfl,_⟩:=h;simp[eg]
 case ifc=>obtain⟨_,_,rfl⟩:=h;simp[eg]
 case mth=>obtain⟨_,_,rfl⟩:=h;simp[eg]
 case fmp=>obtain⟨_,rfl,_⟩:=h;simp[eg]
 all_goals (simp only[bh]at h;rw[h];simp[eg])
theorem aP.one:∀{l:List I}{vs:List Value},aP w A ρ l vs->∀v∈vs,v.oneCell'=true
 |[],_,h=>by rw[h];simp
 |_::_,_,⟨a,b,e,f,g⟩=>by
  intro v c;rw[e,ba]at c;rcases c with c|c
  ·exact bh.one f v c
  ·exact aP.one g v c
theorem aP.append:∀{l m:List I}{vs us:List Value},aP w A ρ l vs->aP w A ρ m us->aP w A ρ (l++m) (vs++us)
 |[],_,_,_,h,h'=>by rw[h];exact h'
 |_::_,_,_,_,⟨a,b,c,e,f⟩,h'=>⟨a,b++_,by rw[c,ay],e,aP.append f h'⟩
theorem aP.single{i:I}(h:bh w A ρ i vs):aP w A ρ [i] vs:=⟨vs,[],bY,h,rfl⟩
theorem aP.of_single{i:I}(h:aP w A ρ [i] vs):bh w A ρ i vs:=by
 obtain⟨a,b,c,e,f⟩:=h;rw[f,aH]at c;rw[c];exact e
theorem aM{i:I}:aT w A ρ (sc i) v↔bh w A ρ i [v]:=by
 constructor
 ·rintro⟨c,b,a⟩;simp at a;subst a;exact aP.of_single b
 ·intro h;exact⟨[v],aP.single h,bY⟩
theorem fd:aT w A ρ (.tup []) undef:=⟨[],rfl,trivial⟩
theorem eT{l:List I}(h:aT w A ρ (.val g l) v):aP w A ρ l v.cells.toList:=by
 obtain⟨e,b,a⟩:=h;cases g
 ·simp at a;subst a;have:=aP.one b v bY;have c:v.cells= #[v]:=by cases v<;>first|rfl|(simp[eg]at this)
  rw[c];exact b
 ·simp at a;subst a;exact b
end
def jL:(t:Ty)->t.den->List I
 | .pr a r,x=> .d a x.1::jL r x.2
 | .un,_=>[]
 | .bl,x=>[.d .bl x]
 | .i64,x=>[.d .i64 x]
 | .i32,x=>[.d .i32 x]
 | .u8,x=>[.d .u8 x]
 | .u64,x=>[.d .u64 x]
 | .st,x=>[.d .st x]
 | .yl,x=>[.d .yl x]
 | .sl e,x=>[.d (.sl e) x]
 | .ar n e,x=>[.d (.ar n e) x]
 | .pf t,x=>[.pv t x]
 | .fm k v,x=>[.fmp k v x]
def V.ofD(t:Ty)(x:t.den):V:= .val t.agg (jL t x)
def jc(w:World)(A:Nat->Prop)(t:Ty)(x:t.den)(v:Value):Prop:=∃a,Rd w A t x a/\(if t.agg then v= .agg a.toArray else a=[v])
section
variable{w w':World}{A A':Nat->Prop}{ρ ρ':Nat->Pl}
theorem jc.evo(a:qK w A w' A'){t:Ty}{x:t.den}(h:jc w A t x v):jc w' A' t x v:=let⟨b,c,e⟩:=h;⟨b,Rd.evo a c,e⟩
theorem gq:∀{t:Ty}{x:t.den}{vs:List Value},aP w A ρ (jL t x) vs↔Rd w A t x vs:=by
 intro t
 induction t with
 |pr a r j b=>
  intro x vs;constructor
  ·rintro⟨c,d,e,f,g⟩;exact⟨c,d,e,f,b.1 g⟩
  ·rintro⟨c,d,e,f,g⟩;exact⟨c,d,e,f,b.2 g⟩
 |un=>intro x vs;exact Iff.rfl
 |pf t=>intro x vs;exact⟨λh=>aP.of_single (i:= .pv t x) h,λh=>aP.single (i:= .pv t x) h⟩
 |fm k v=>intro x vs;exact⟨λh=>aP.of_single (i:= .fmp k v x) h,λh=>aP.single (i:= .fmp k v x) h⟩
 |_=>intro x vs;exact⟨λh=>aP.of_single (i:= .d _ x) h,λh=>aP.single (i:= .d _ x) h⟩
theorem iK{x:kt.den}:aT w A ρ (V.ofD kt x) v↔jc w A kt x v:=by
 constructor
 ·rintro⟨a,b,c⟩;exact⟨a,gq.1 b,c⟩
 ·rintro⟨a,b,c⟩;exact⟨a,gq.2 b,c⟩
theorem jc.cells{x:a.den}(h:jc w A a x v):Rd w A a x v.cells.toList:=gq.1 (eT (ρ:=λ_=> .un) (iK.2 h))
end
def xB(w:World)(A:Nat->Prop)(e:Ty)(l:List e.den)(v:Value):Prop:=
 (∃b cap cells f c,v= .slice (some ⟨b,0,none⟩) l.length cap/\0<cap/\w.heap[b]?=some (.cells cells f (0,0))/\l.length<=cap/\cap*e.size<=cells.size/\dT (Rd w A e) l c/\cells.toList.take c.length=c)\/
 (l=[]/\∃a,v= .slice a 0 0)
def pA(w:World)(A:Nat->Prop)(kt a:Ty)(q:kt.den×a.den)(e:MapEntry):Prop:=jc w A kt q.1 e.key/\jc w A a q.2 e.val
def nz(w:World)(A:Nat->Prop)(kt c:Ty)(l:List (kt.den×c.den))(b:Nat):Prop:=
 ∃a clock,w.heap[b]?=some (.map a clock)/\F2 (pA w A kt c) l a.toList/\(a.toList.map (·.born)).Nodup/\(∀e∈a.toList,e.born<clock)/\(l.map (·.1)).Nodup
def pG(w:World)(A:Nat->Prop)(kt a:Ty)(rest:List (kt.den×a.den))(last:Option (kt.den×a.den))(m b:Nat):Prop:=
 ∃c clock seen,w.heap[m]?=some (.map c clock)/\w.heap[b]?=some (.mapIter (some m) clock seen clock)/\(c.toList.map (·.born)).Nodup/\(∀e∈c.toList,e.born<clock)/\
  (∃q:List (kt.den×a.den),q.Perm rest/\F2 (pA w A kt a) q (c.toList.filter λe=> !seen.contains e.born))/\
  (∀q,last=some q->∃(f:Array Nat)(e:MapEntry),seen=f.push e.born/\e∈c.toList/\pA w A kt a q e)
inductive Ch where
 |cells (l:List I)
 |sl (e:Ty) (l:List e.den)
 |mp (kt vt:Ty) (l:List (kt.den×vt.den))
 |lk (kt vt:Ty) (l:List (kt.den×vt.den))
 |fr (e:Ty) (l:List e.den)
 |fc (l:List I)
 |sit (s:List (BitVec 8)) (pos:Nat)
 |mit (m:Nat) (kt vt:Ty) (rest:List (kt.den×vt.den)) (last:Option (kt.den×vt.den))
 |nit
 |fm (kt vt:Ty) (l:List (kt.den×vt.den))
 |fit (kt vt:Ty) (rest:List (kt.den×vt.den)) (last:Option (kt.den×vt.den))
def Ch.own:Ch->Bool
 | .fr .. =>false
 | .fc .. =>false
 | .fm .. =>false
 |_=>true
def xk(w:World)(A:Nat->Prop)(ρ:Nat->Pl)(k:Nat):Ch->Prop
 | .cells l=>∃b o q,ρ k= .bk b/\w.heap[b]?=some (.cells o q (0,0))/\aP w A ρ l o.toList
 | .sl e l=>∃v,ρ k= .sv v/\xB w A e l v
 | .mp f g l=>∃b,ρ k= .bk b/\nz w A f g l b
 | .lk f g l=>∃b,ρ k= .bk b/\nz w A f g l b
 | .fr e l=>∃v,ρ k= .sv v/\na w A (Rd w A e) l v
 | .fc l=>∃b p,ρ k= .bk b/\b<w.heap.size/\¬A b/\aP w A ρ l p/\∀i u,p[i]?=some u->w.cell? ⟨b,i,none⟩=some u
 | .sit s n=>∃b,ρ k= .bk b/\w.heap[b]?=some (.stringIter (bM s) n)
 | .mit m f g a c=>∃b j,ρ k= .bk b/\ρ m= .bk j/\pG w A f g a c j b
 | .nit=>∃b,ρ k= .bk b/\w.heap[b]?=some (.mapIter none 0 #[] 0)
 | .fm f g l=>∃b,ρ k= .bk b/\b<w.heap.size/\¬A b/\nz w A f g l b
 | .fit f g a c=>∃b j,ρ k= .bk b/\j<w.heap.size/\¬A j/\pG w A f g a c j b
def Ch.on(ρ:Nat->Pl)(k:Nat):Ch->Nat->Prop
 | .mit m ..,b=>(ρ k).blk=some b\/(ρ m).blk=some b
 | .fr ..,_=>False
 | .fc ..,_=>False
 | .fm ..,_=>False
 |_,b=>(ρ k).blk=some b
section
variable{w w':World}{A A':Nat->Prop}{ρ ρ':Nat->Pl}
theorem xB.evo(f:qK w A w' A'){l:List kt.den}(g:∀b,(Pl.sv v).blk=some b->w'.heap[b]?=w.heap[b]?)(h:xB w A kt l v):xB w' A' kt l v:=by
 rcases h with⟨b,cap,cells,i,j,a,m,n,o,p,q,r⟩|h
 ·refine .inl ⟨b,cap,cells,i,j,a,m,?_,o,p,q.imp (λ_ _=>Rd.evo f),r⟩;rw[g b (by subst a;obtain⟨c,rfl⟩:∃c,cap=c+1:=⟨cap-1,ac⟩;rfl)];exact n
 ·exact .inr h
theorem pA.evo(b:qK w A w' A'){q:kt.den×a.den}{e:MapEntry}(h:pA w A kt a q e):pA w' A' kt a q e:=⟨h.1.evo b,h.2.evo b⟩
theorem nz.evo(c:qK w A w' A'){l:List (kt.den×a.den)}(e:w'.heap[b]?=w.heap[b]?)(h:nz w A kt a l b):nz w' A' kt a l b:=by
 obtain⟨f,clock,g,i,j⟩:=h;exact⟨f,clock,by rw[e];exact g,F2.imp (λ_ _=>pA.evo c) i,j⟩
theorem pG.evo(c:qK w A w' A'){rest:List (kt.den×a.den)}{last:Option (kt.den×a.den)}(f:w'.heap[m]?=w.heap[m]?)(g:w'.heap[b]?=w.heap[b]?)(h:pG w A kt a rest last m b):pG w' A' kt a rest last m b:=by
 obtain⟨i,clock,seen,j,l,n,o,⟨q,p,r⟩,t⟩:=h;refine⟨i,clock,seen,by rw[f];exact j,by rw[g];exact l,n,o,⟨q,p,F2.imp (λ_ _=>pA.evo c) r⟩,λq u=>?_⟩;obtain⟨s,e,v,x,y⟩:=t q u;exact⟨s,e,v,x,y.evo c⟩
theorem xk.un{c:Ch}(h:xk w A ρ N c):ρ N≠ .un:=by
 cases c<;>simp only[xk]at h
 case cells l=>obtain⟨b,j,m,a,_⟩:=h;rw[a];simp
 case sl e l=>obtain⟨v,a,_⟩:=h;rw[a];simp
 case mp f g l=>obtain⟨b,a,_⟩:=h;rw[a];simp
 case lk f g l=>obtain⟨b,a,_⟩:=h;rw[a];simp
 case fr e l=>obtain⟨v,a,_⟩:=h;rw[a];simp
 case fc l=>obtain⟨b,n,a,_⟩:=h;rw[a];simp
 case sit=>obtain⟨b,a,_⟩:=h;rw[a];simp
 case mit=>obtain⟨b,i,a,_⟩:=h;rw[a];simp
 case nit=>obtain⟨b,a,_⟩:=h;rw[a];simp
 case fm=>obtain⟨b,a,_⟩:=h;rw[a];simp
 case fit=>obtain⟨b,i,a,_⟩:=h;rw[a];simp
theorem xk.evo(j:qK w A w' A')(n:eA ρ ρ'){c:Ch}(p:∀b,c.on ρ N b->w'.heap[b]?=w.heap[b]?)(h:xk w A ρ N c):xk w' A' ρ' N c:=by
 cases c
 case cells l=>obtain⟨b,C,D,a,f,o⟩:=h;exact⟨b,C,D,n.bk a,by rw[p b (by simp[Ch.on,a,Pl.blk])];exact f,o.evo j n⟩
 case sl e l=>obtain⟨v,a,f⟩:=h;exact⟨v,n.sv a,f.evo j (λb E=>p b (by simp only[Ch.on,a];exact E))⟩
 case mp z B l=>obtain⟨b,a,f⟩:=h;exact⟨b,n.bk a,f.evo j (p b (by simp[Ch.on,a,Pl.blk]))⟩
 case lk z B l=>obtain⟨b,a,f⟩:=h;exact⟨b,n.bk a,f.evo j (p b (by simp[Ch.on,a,Pl.blk]))⟩
 case fr e l=>obtain⟨v,a,f⟩:=h;exact⟨v,n.sv a,f.evo j (λ_ _=>Rd.evo j)⟩
 case fc l=>
  obtain⟨b,G,a,f,o,r,H⟩:=h;exact⟨b,G,n.bk a,bw f j.size,λq=>o (j.av b f q),r.evo j n,λi u J=>j.cell f o (H i u J)⟩
 case sit s K=>obtain⟨b,a,f⟩:=h;exact⟨b,n.bk a,by rw[p b (by simp[Ch.on,a,Pl.blk])];exact f⟩
 case mit m z B x y=>obtain⟨b,t,a,f,o⟩:=h;exact⟨b,t,n.bk a,n.bk f,o.evo j (p t (by simp[Ch.on,f,Pl.blk])) (p b (by simp[Ch.on,a,Pl.blk]))⟩
 case nit=>obtain⟨b,a,f⟩:=h;exact⟨b,n.bk a,by rw[p b (by simp[Ch.on,a,Pl.blk])];exact f⟩
 case fm z B l=>obtain⟨b,a,f,o,r⟩:=h;exact⟨b,n.bk a,bw f j.size,λq=>o (j.av b f q),r.evo j (by obtain⟨L,clock,g,_⟩:=r;exact(j.same b f o _ g rfl).trans g.symm)⟩
 case fit z B x y=>obtain⟨b,t,a,f,o,r⟩:=h;exact⟨b,t,n.bk a,bw f j.size,λq=>o (j.av t f q),r.evo j (by obtain⟨L,clock,seen,g,_⟩:=r;exact(j.same t f o _ g rfl).trans g.symm) (p b (by simp[Ch.on,a,Pl.blk]))⟩
end
abbrev eD:=List (Nat×Option Ch)
def dg(h:Nat->Option Ch)(k:Nat)(b:Option Ch):Nat->Option Ch:=λj=>if j=k then b else h j
def bj:(Nat->Option Ch)->eD->(Nat->Option Ch)
 |h,[]=>h
 |h,u::r=>bj (dg h u.1 u.2) r
theorem bK(h:Nat->Option Ch)(k:Nat)(c:Option Ch):dg h k c k=c:=by simp[dg]
theorem bI(h:Nat->Option Ch)(k:Nat)(c:Option Ch)(e:j≠k):dg h k c j=h j:=by simp[dg,e]
def gH(ρ:Nat->Pl)(k:Nat)(p:Pl):Nat->Pl:=λj=>if j=k then p else ρ j
theorem bU(ρ:Nat->Pl)(k:Nat)(p:Pl):gH ρ k p k=p:=by simp[gH]
theorem gP(ρ:Nat->Pl)(k:Nat)(p:Pl)(h:j≠k):gH ρ k p j=ρ j:=by simp[gH,h]
theorem rI{ρ:Nat->Pl}(h:ρ n= .un)(p:Pl):eA ρ (gH ρ n p):=λj a=>by
 by_cases e:j=n
 ·subst e;exact absurd h a
 ·exact gP ρ n p e
def qj(ρ:Nat->Pl)(h:Nat->Option Ch)(b:Nat):Prop:=∃k c,h k=some c/\c.own=true/\(ρ k).blk=some b
def Av(F:Nat->Prop)(ρ:Nat->Pl)(h:Nat->Option Ch)(b:Nat):Prop:=F b\/qj ρ h b
structure dN(F:Nat->Prop)(ρ:Nat->Pl)(w:World)(h:Nat->Option Ch):Prop where
 ok:∀k c,h k=some c->xk w (Av F ρ h) ρ k c
 inj:∀k k' c c' b,h k=some c->h k'=some c'->c.own=true->c'.own=true->(ρ k).blk=some b->(ρ k').blk=some b->k=k'
 fr:∀k c b,h k=some c->c.own=true->(ρ k).blk=some b->b<w.heap.size/\¬F b
 it:∀k m kt vt rest last,h k=some (.mit m kt vt rest last)->∃l,h m=some (.lk kt vt l)
 gs:∀b,F b->b<w.heap.size
structure Mv(ρ:Nat->Pl)(w:World)(h:Nat->Option Ch)(ρ':Nat->Pl)(w':World)(h':Nat->Option Ch):Prop where
 os:w'.os=w.os
 tape:w'.tape=w.tape
 output:w'.output=w.output
 size:w.heap.size<=w'.heap.size
 block:∀b,b<w.heap.size->¬qj ρ h b->w'.heap[b]?=w.heap[b]?
 own:∀b,b<w.heap.size->qj ρ' h' b->qj ρ h b
theorem Mv.refl(ρ:Nat->Pl)(w:World)(h:Nat->Option Ch):Mv ρ w h ρ w h:=⟨rfl,rfl,rfl,aE _,λ_ _ _=>rfl,λ_ _ a=>a⟩
theorem Mv.trans{ρ ρ' ρ'':Nat->Pl}{e:World}{h h' f:Nat->Option Ch}(a:Mv ρ w h ρ' w' h')(b:Mv ρ' w' h' ρ'' e f):Mv ρ w h ρ'' e f:=
 ⟨b.os.trans a.os,b.tape.trans a.tape,b.output.trans a.output,bE a.size b.size,
  λi c g=>(b.block i (bw c a.size) (λq=>g (a.own i c q))).trans (a.block i c g),
  λi c g=>a.own i c (b.own i (bw c a.size) g)⟩
theorem Mv.evo{ρ ρ':Nat->Pl}{h h':Nat->Option Ch}(a:Mv ρ w h ρ' w' h'):qK w (Av F ρ h) w' (Av F ρ' h'):=
 ⟨a.size,λb c e o f _=>(a.block b c (λq=>e (.inr q))).trans f,λb c e=>e.imp id (a.own b c)⟩
def bQ(F:Nat->Prop)(ρ:Nat->Pl)(w:World)(h:Nat->Option Ch)(N W:Nat)(x:V)(a:eD)(v:Value)(w':World):Prop:=
 ∃ρ',eA ρ ρ'/\(∀k,ρ k= .un->ρ' k≠ .un->N<=k/\k<N+W)/\aT w' (Av F ρ' (bj h a)) ρ' x v/\dN F ρ' w' (bj h a)/\Mv ρ w h ρ' w' (bj h a)
theorem bQ.pure{ρ:Nat->Pl}{h:Nat->Option Ch}{x:V}(hh:dN F ρ w h)(c:aT w (Av F ρ h) ρ x v):bQ F ρ w h N W x [] v w:=
 ⟨ρ,eA.refl ρ,λ_ a b=>absurd a b,c,hh,Mv.refl ρ w h⟩
section
variable{F:Nat->Prop}{ρ ρ':Nat->Pl}{w w':World}{h h':Nat->Option Ch}
theorem dN.step(hh:dN F ρ w h)(T:Nat->Prop)(hx:eA ρ ρ')
 (S:w.heap.size<=w'.heap.size) (ho:w'.os=w.os) (ht:w'.tape=w.tape) (hu:w'.output=w.output)
 (D:∀k,¬T k->h' k=h k)
 (hw:∀b,b<w.heap.size->(∀k c,T k->h k=some c->c.own=true->(ρ k).blk≠some b)->w'.heap[b]?=w.heap[b]?)
 (G:∀k c b,T k->h' k=some c->c.own=true->(ρ' k).blk=some b->b<w'.heap.size/\(w.heap.size<=b\/∃j B,T j/\h j=some B/\B.own=true/\(ρ j).blk=some b))
 (hd:∀k o c t b,T k->T o->h' k=some c->h' o=some t->c.own=true->t.own=true->(ρ' k).blk=some b->(ρ' o).blk=some b->k=o)
 (hi:∀k m kt E rest last,h' k=some (.mit m kt E rest last)->(T k\/T m)->∃l,h' m=some (.lk kt E l)/\(T m->T k))
 (u:∀k c,T k->h' k=some c->Mv ρ w h ρ' w' h'->xk w' (Av F ρ' h') ρ' k c):
 dN F ρ' w' h'/\Mv ρ w h ρ' w' h':=by
 have J:∀{k c},h k=some c->ρ' k=ρ k:=λ{k c}e=>hx k (hh.ok k c e).un
 have U:Mv ρ w h ρ' w' h':=by
  refine⟨ho,ht,hu,S,λb K X=>hw b K λk c _ e u G=>X ⟨k,c,e,u,G⟩,λb K⟨k,c,e,L,f⟩=>?_⟩;by_cases n:T k
  ·rcases(G k c b n e L f).2 with q|⟨j,B,_,a,b',t⟩
   ·omega
   ·exact⟨j,B,a,b',t⟩
  ·rw[D k n]at e;rw[J e]at f;exact⟨k,c,e,L,f⟩
 refine⟨⟨λk c e=>?_,λk o c t b e i u r f g=>?_,λk c b e u f=>?_,λk m kt E rest last e=>?_,λb G=>bw (hh.gs b G) S⟩,U⟩
 ·by_cases n:T k
  ·exact u k c n e U
  ·have Y:=e;rw[D k n]at e;refine(hh.ok k c e).evo U.evo hx λb p=>?_
   have v:∀(q:Nat)(M:Ch),¬T q->h q=some M->M.own=true->(ρ q).blk=some b->w'.heap[b]?=w.heap[b]?:=λq M a0 hq O P=>
    hw b (hh.fr q M b hq O P).1 λj B H Q x y=>a0 (hh.inj q j M B b hq Q O x P y▸H)
   cases c<;>simp only[Ch.on]at p
   case mit m kt E rest last=>
    obtain⟨l,hl⟩:=hh.it k m kt E rest last e;have C:¬T m:=λC=>n ((hi k m kt E rest last Y (.inr C)).choose_spec.2 C);rcases p with p|p
    ·exact v k _ n e rfl p
    ·exact v m _ C hl rfl p
   all_goals first|exact v k _ n e rfl p|exact p.elim
 ·have z:∀{k o c t},T k->¬T o->h' k=some c->h' o=some t->c.own=true->t.own=true->(ρ' k).blk=some b->(ρ' o).blk=some b->k=o:=by
   intro k o c t n s e i u r f g;rw[D o s]at i;rw[J i]at g;have R:=(hh.fr o t b i r g).1;rcases(G k c b n e u f).2 with q|⟨j,B,H,Q,x,y⟩
   ·omega
   ·exact absurd (hh.inj j o B t b Q i x r y g▸H) s
  by_cases n:T k<;>by_cases s:T o
  ·exact hd k o c t b n s e i u r f g
  ·exact z n s e i u r f g
  ·exact(z s n i e r u g f).symm
  ·rw[D k n]at e;rw[D o s]at i;rw[J e]at f;rw[J i]at g;exact hh.inj k o c t b e i u r f g
 ·by_cases n:T k
  ·obtain⟨R,h2⟩:=G k c b n e u f;refine⟨R,λhF=>?_⟩;rcases h2 with q|⟨j,B,_,Q,x,y⟩
   ·have:=hh.gs b hF;omega
   ·exact(hh.fr j B b Q x y).2 hF
  ·rw[D k n]at e;rw[J e]at f;obtain⟨R,h2⟩:=hh.fr k c b e u f;exact⟨bw R S,h2⟩
 ·by_cases n:T k\/T m
  ·obtain⟨l,hl,_⟩:=hi k m kt E rest last e n;exact⟨l,hl⟩
  ·rw[D k (λq=>n (.inl q))]at e;rw[D m (λq=>n (.inr q))];exact hh.it k m kt E rest last e
theorem dN.fresh(hh:dN F ρ w h)(a:ρ N= .un):h N=none:=by
 cases e:h N with
 |none=>rfl
 |some c=>exact absurd a (hh.ok N c e).un
theorem dN.mit_old(hh:dN F ρ w h)(c:ρ N= .un){rest:List (kt.den×a.den)}{last:Option (kt.den×a.den)}(f:h n=some (.mit m kt a rest last)):m≠N:=by
 obtain⟨l,b⟩:=hh.it n m kt a rest last f;intro e;rw[e,hh.fresh c]at b;simp at b
end
structure gf(w w':World):Prop where
 os:w'.os=w.os
 tape:w'.tape=w.tape
 output:w'.output=w.output
 size:w.heap.size<=w'.heap.size
 old:∀b,b<w.heap.size->w'.heap[b]?=w.heap[b]?
theorem gf.alloc(w:World)(o:Obj):gf w (w.alloc o):=⟨rfl,rfl,rfl,by rw[eP];omega,λb a=>Go.heap_alloc_old w o b a⟩
theorem gf.drewAlloc(w:World)(o:Obj):gf w (w.drew.alloc o):=⟨rfl,rfl,rfl,by rw[eP];show w.heap.size<=w.heap.size+1;omega,λb a=>Go.heap_alloc_old w.drew o b a⟩
theorem gf.refl(w:World):gf w w:=⟨rfl,rfl,rfl,aE _,λ_ _=>rfl⟩
theorem gf.drew(w:World):gf w w.drew:=⟨rfl,rfl,rfl,aE w.heap.size,λ_ _=>rfl⟩
section
variable{F:Nat->Prop}{ρ:Nat->Pl}{w w':World}{h:Nat->Option Ch}{N W:Nat}
theorem dN.same(hh:dN F ρ w h)(a:gf w w'):dN F ρ w' h/\Mv ρ w h ρ w' h:=
 hh.step (λ_=>False) (eA.refl ρ) a.size a.os a.tape a.output (λ_ _=>rfl) (λb c _=>a.old b c) (λ_ _ _ q=>q.elim) (λ_ _ _ _ _ q=>q.elim) (λ_ _ _ _ _ _ _ q=>by simp at q) (λ_ _ q=>q.elim)
theorem bQ.add(hh:dN F ρ w h)(r:ρ N= .un)(M:0<W)(i:gf w w')(p:Pl)(c:Ch)(j:∀m kt q rest last,c= .mit m kt q rest last->∃l,h m=some (.lk kt q l))
 (z:∀b,c.own=true->p.blk=some b->w.heap.size<=b/\b<w'.heap.size)
 (E:Mv ρ w h (gH ρ N p) w' (dg h N (some c))->xk w' (Av F (gH ρ N p) (dg h N (some c))) (gH ρ N p) N c) (x:V) (v:Value)
 (G:Mv ρ w h (gH ρ N p) w' (dg h N (some c))->aT w' (Av F (gH ρ N p) (dg h N (some c))) (gH ρ N p) x v):
 bQ F ρ w h N W x [(N,some c)] v w':=by
 have B:=rI r p;have s:=hh.fresh r
 obtain⟨H,C⟩:=hh.step (ρ':=gH ρ N p) (w':=w') (h':=dg h N (some c)) (λk=>k=N) B i.size i.os i.tape i.output
  (λk f=>bI _ _ _ f)
  (λb J _=>i.old b J)
  (λk K b f a n g=>by subst f;rw[bK]at a;simp at a;subst a;rw[bU]at g;exact⟨(z b n g).2, .inl (z b n g).1⟩)
  (λk O _ _ _ f t _ _ _ _ _ _=>f.trans t.symm)
  (λk m kt q rest last f o=>by
   by_cases e:k=N
   ·subst e;rw[bK]at f;simp at f;obtain⟨l,u⟩:=j m kt q rest last f;have y:m≠k:=λe=>by rw[e,s]at u;simp at u
    exact⟨l,by rw[bI _ _ _ y];exact u,λ_=>rfl⟩
   ·rw[bI _ _ _ e]at f;have:=hh.mit_old r f;rcases o with o|o
    ·exact absurd o e
    ·exact absurd o this)
  (λk K f a y=>by subst f;rw[bK]at a;simp at a;subst a;exact E y)
 refine⟨_,B,λk L D=>?_,G C,H,C⟩;by_cases e:k=N
 ·omega
 ·rw[gP _ _ _ e]at D;exact absurd L D
theorem bQ.set(hh:dN F ρ w h){k:Nat}{n:Ch}(p:h k=some n)(f:n.own=true)(c:Ch)
 (r:∀kt i l,n≠ .lk kt i l)
 (y:∀m kt i rest last,c= .mit m kt i rest last->∃l,h m=some (.lk kt i l))
 (D:w.heap.size<=w'.heap.size) (E:w'.os=w.os) (G:w'.tape=w.tape) (H:w'.output=w.output)
 (J:∀b,b<w.heap.size->(ρ k).blk≠some b->w'.heap[b]?=w.heap[b]?)
 (K:Mv ρ w h ρ w' (dg h k (some c))->xk w' (Av F ρ (dg h k (some c))) ρ k c) (x:V) (v:Value)
 (L:Mv ρ w h ρ w' (dg h k (some c))->aT w' (Av F ρ (dg h k (some c))) ρ x v):
 bQ F ρ w h N W x [(k,some c)] v w':=by
 obtain⟨M,C⟩:=hh.step (ρ':=ρ) (w':=w') (h':=dg h k (some c)) (λj=>j=k) (eA.refl ρ) D E G H
  (λj a=>bI _ _ _ a)
  (λb O z=>J b O (z k n rfl p f))
  (λj P b a g Q s=>by
   subst a;have:=(hh.fr j n b p f s).1;exact⟨ac, .inr ⟨j,n,rfl,p,f,s⟩⟩)
  (λj U _ _ _ a B _ _ _ _ _ _=>a.trans B.symm)
  (λj m kt i rest last a t=>by
   by_cases e:j=k
   ·subst e;rw[bK]at a;simp at a;obtain⟨l,o⟩:=y m kt i rest last a;have u:m≠j:=λe=>by rw[e,p]at o;exact r _ _ _ (Option.some.inj o)
    exact⟨l,by rw[bI _ _ _ u];exact o,λq=>absurd q u⟩
   ·rw[bI _ _ _ e]at a;rcases t with t|t
    ·exact absurd t e
    ·obtain⟨l,o⟩:=hh.it j m kt i rest last a;rw[t,p]at o;exact absurd (Option.some.inj o) (r _ _ _))
  (λj P a g u=>by subst a;rw[bK]at g;simp at g;subst g;exact K u)
 exact⟨_,eA.refl ρ,λ_ R S=>absurd R S,L C,M,C⟩
theorem bQ.move(hh:dN F ρ w h)(B:ρ N= .un)(hW:0<W){k:Nat}{s:Ch}(t:h k=some s)(n:s.own=true)(p:Pl)(c:Ch)
 (C:∀kt r l,s≠ .lk kt r l) (D:∀m kt r rest last,c≠ .mit m kt r rest last)
 (O:w.heap.size<=w'.heap.size) (P:w'.os=w.os) (Q:w'.tape=w.tape) (R:w'.output=w.output)
 (S:∀b,b<w.heap.size->(ρ k).blk≠some b->w'.heap[b]?=w.heap[b]?)
 (J:∀b,c.own=true->p.blk=some b->b<w'.heap.size/\((ρ k).blk=some b\/w.heap.size<=b))
 (U:Mv ρ w h (gH ρ N p) w' (dg (dg h k none) N (some c))->xk w' (Av F (gH ρ N p) (dg (dg h k none) N (some c))) (gH ρ N p) N c) (x:V) (v:Value)
 (X:Mv ρ w h (gH ρ N p) w' (dg (dg h k none) N (some c))->aT w' (Av F (gH ρ N p) (dg (dg h k none) N (some c))) (gH ρ N p) x v):
 bQ F ρ w h N W x [(k,none),(N,some c)] v w':=by
 have K:=rI B p;have i:k≠N:=λe=>by have:=hh.fresh B;rw[e,this]at t;simp at t
 obtain⟨Y,L⟩:=hh.step (ρ':=gH ρ N p) (w':=w') (h':=dg (dg h k none) N (some c)) (λj=>j=N\/j=k) K O P Q R
  (λj f=>by rw[bI _ _ _ (λe=>f (.inl e)),bI _ _ _ (λe=>f (.inr e))])
  (λb hb E=>S b hb (E k s (.inr rfl) t n))
  (λj c' b f a u o=>by
   rcases f with rfl|rfl
   ·rw[bK]at a;simp at a;subst a;rw[bU]at o;refine⟨(J b u o).1,?_⟩;rcases(J b u o).2 with q|q
    ·exact .inr ⟨_,s, .inr rfl,t,n,q⟩
    ·exact .inl q
   ·rw[bI _ _ _ i,bK]at a;simp at a)
  (λj j' c1 c2 b f G z y _ _ _ _=>by
   rcases f with rfl|rfl<;>rcases G with rfl|rfl
   ·rfl
   ·rw[bI _ _ _ i,bK]at y;simp at y
   ·rw[bI _ _ _ i,bK]at z;simp at z
   ·rfl)
  (λj m kt r rest last f g=>by
   by_cases e:j=N
   ·subst e;rw[bK]at f;simp at f;exact absurd f (D m kt r rest last)
   ·rw[bI _ _ _ e]at f;by_cases H:j=k
    ·subst H;rw[bK]at f;simp at f
    ·rw[bI _ _ _ H]at f;have q1:=hh.mit_old B f
     have q2:m≠k:=λe=>by
      obtain⟨l,M⟩:=hh.it j m kt r rest last f;rw[e,t]at M;exact C _ _ _ (Option.some.inj M)
     rcases g with g|g<;>rcases g with g|g
     ·exact absurd g e
     ·exact absurd g H
     ·exact absurd g q1
     ·exact absurd g q2)
  (λj c' f a hm=>by
   rcases f with rfl|rfl
   ·rw[bK]at a;simp at a;subst a;exact U hm
   ·rw[bI _ _ _ i,bK]at a;simp at a)
 refine⟨_,K,λj z y=>?_,X L,Y,L⟩;by_cases e:j=N
 ·omega
 ·rw[gP _ _ _ e]at y;exact absurd z y
end
end
section
inductive Tr (R:Type):Type 1 where
 |leaf (r:R)
 |ite (b:Bool) (x y:Tr R)
 |need (p:Prop) (x:Tr R)
 |all (β:Type) (p:β->Prop) (k:β->Tr R)
 |fin
 |stuck
def Tr.sat{R:Type}:Tr R->(R->Prop)->Prop
 | .leaf r,Q=>Q r
 | .ite b x y,Q=>(b=true->x.sat Q)/\(b=false->y.sat Q)
 | .need p x,Q=>p/\x.sat Q
 | .all _ p k,Q=>∀b,p b->(k b).sat Q
 | .fin,_=>True
 | .stuck,_=>False
def Tr.bind{R S:Type}:Tr R->(R->Tr S)->Tr S
 | .leaf r,f=>f r
 | .ite b x y,f=> .ite b (x.bind f) (y.bind f)
 | .need p x,f=> .need p (x.bind f)
 | .all β p k,f=> .all β p λb=>(k b).bind f
 | .fin,_=> .fin
 | .stuck,_=> .stuck
theorem cV{R S:Type}{f:R->Tr S}{Q:S->Prop}:∀{x:Tr R},(x.bind f).sat Q↔x.sat λr=>(f r).sat Q
 | .leaf _=>Iff.rfl
 | .ite _ x y=>by simp only[Tr.bind,Tr.sat,cV (x:=x),cV (x:=y)]
 | .need _ x=>by simp only[Tr.bind,Tr.sat,cV (x:=x)]
 | .all _ p k=>by simp only[Tr.bind,Tr.sat];exact⟨λh b a=>cV.1 (h b a),λh b a=>cV.2 (h b a)⟩
 | .fin=>Iff.rfl
 | .stuck=>Iff.rfl
theorem ca{R:Type}{Q c:R->Prop}(a:∀r,Q r->c r):∀{x:Tr R},x.sat Q->x.sat c
 | .leaf _,h=>a _ h
 | .ite _ _ _,h=>⟨λb=>ca a (h.1 b),λb=>ca a (h.2 b)⟩
 | .need _ _,h=>⟨h.1,ca a h.2⟩
 | .all _ _ _,h=>λb e=>ca a (h b e)
 | .fin,_=>trivial
 | .stuck,h=>h
def Tr.needs{R:Type}(l:List Prop)(x:Tr R):Tr R:=match l with
 |[]=>x
 |p::r=> .need p (Tr.needs r x)
theorem uF{R:Type}{Q:R->Prop}{x:Tr R}:∀{l:List Prop},(Tr.needs l x).sat Q↔(∀p∈l,p)/\x.sat Q
 |[]=>by simp[Tr.needs]
 |p::r=>by simp only[Tr.needs,Tr.sat,uF (l:=r),bm,forall_eq_or_imp,and_assoc]
def Tr.ofOpt{R:Type}:Option R->Tr R
 |some r=> .leaf r
 |none=> .stuck
theorem DC{Q:R->Prop}{x:Option R}(h:(Tr.ofOpt x).sat Q):∃r,x=some r/\Q r:=by
 cases x with
 |none=>exact h.elim
 |some r=>exact⟨r,rfl,h⟩
def Sc.asD(t:Ty)(s:Sc):Option t.den:=
 match s,t with
 | .bool b, .bl=>some b
 | .i64 n, .i64=>some n
 | .i32 n, .i32=>some n
 | .u8 x, .u8=>some x
 | .u64 x, .u64=>some x
 | .str s, .st=>some s
 |_,_=>none
theorem a1t{s:Sc}{x:a.den}(h:s.asD a=some x):Rd w A a x [s.val]:=by
 cases s<;>cases a<;>simp[Sc.asD]at h<;>subst h<;>rfl
def I.asD(t:Ty):I->Option t.den
 | .k s=>s.asD t
 | .d c x=>Ty.cast c t x
 | .cut e l=>match t with
   | .sl f=>Ty.cast (.sl e) (.sl f) l
   |_=>none
 | .nils=>match t with
   | .sl _=>some []
   |_=>none
 | .pv c x=>match t with
   | .pf g=>Ty.cast c g x
   |_=>none
 | .fmp a b l=>match t with
   | .fm h i=>Ty.cast (.fm a b) (.fm h i) l
   |_=>none
 |_=>none
theorem I.asD_ok{ρ:Nat->Pl}{i:I}{x:kt.den}(h:i.asD kt=some x)(c:bh w A ρ i vs):Rd w A kt x vs:=by
 cases i<;>simp only[I.asD]at h
 case k s=>simp only[bh]at c;rw[c];exact Hv.a1t h
 case d f y=>obtain⟨e,rfl⟩:=Ty.cast_ok h;subst e;exact c
 case cut e l=>
  split at h
  case h_2=>simp at h
  obtain⟨q,rfl⟩:=Ty.cast_ok h;simp at q;subst q;obtain⟨v,g,j,_⟩:=c;exact⟨v,g,j⟩
 case nils=>
  split at h<;>simp at h;subst h;simp only[bh]at c;exact⟨_,c, .inr ⟨rfl,none,rfl⟩⟩
 case pv f y=>
  split at h
  case h_2=>simp at h
  obtain⟨e,rfl⟩:=Ty.cast_ok h;subst e;exact c
 case fmp a b l=>
  split at h
  case h_2=>simp at h
  obtain⟨e,rfl⟩:=Ty.cast_ok h;simp at e;obtain⟨rfl,rfl⟩:=e;exact c
 all_goals (simp at h)
def vC{α:Type}(x:Option α)(l:List I):Option (α×List I):=match x with
 |some y=>some (y,l)
 |none=>none
def xC{α:Type}(f:List I->Option (α×List I)):Nat->List I->Option (List α×List I)
 |0,l=>some ([],l)
 |n+1,l=>match f l with
  |some (x,r)=>match xC f n r with
   |some (y,s)=>some (x::y,s)
   |none=>none
  |none=>none
def jM:(t:Ty)->List I->Option (t.den×List I)
 | .un,l=>some ((),l)
 | .pr a r,l=>match jM a l with
   |some (x,c)=>match jM r c with
    |some (y,b)=>some ((x,y),b)
    |none=>none
   |none=>none
 | .ar n e,i::l=>match vC (i.asD (.ar n e)) l with
   |some q=>some q
   |none=>xC (jM e) n (i::l)
 |t,i::l=>vC (i.asD t) l
 |_,[]=>none
theorem xD{w:World}{A:Nat->Prop}{ρ:Nat->Pl}{e:Ty}(g:∀{l m:List I}{x:e.den}{vs:List Value},jM e l=some (x,m)->aP w A ρ l vs->∃a b,vs=a++b/\Rd w A e x a/\aP w A ρ m b):∀{n:Nat}{l m:List I}{x:List e.den}{vs:List Value},xC (jM e) n l=some (x,m)->aP w A ρ l vs->∃a b,vs=a++b/\(x.length=n/\dT (Rd w A e) x a)/\aP w A ρ m b
 |0,l,m,x,vs,h,f=>by
  simp[xC]at h;obtain⟨rfl,rfl⟩:=h;exact⟨[],vs,rfl,⟨rfl,rfl⟩,f⟩
 |n+1,l,m,x,vs,h,f=>by
  simp only[xC]at h;split at h
  case h_2=>simp at h
  rename_i y r j;split at h
  case h_2=>simp at h
  rename_i z s o;simp at h;obtain⟨rfl,rfl⟩:=h;obtain⟨c,d,p,q,t⟩:=g j f;obtain⟨i,u,v,⟨B,C⟩,D⟩:=xD g o t;exact⟨c++i,u,by rw[p,v,ay],⟨by simp[B],c,i,rfl,q,C⟩,D⟩
theorem xE{ρ:Nat->Pl}:∀{t:Ty}{l m:List I}{x:t.den}{vs:List Value},jM t l=some (x,m)->aP w A ρ l vs->∃a b,vs=a++b/\Rd w A t x a/\aP w A ρ m b:=by
 intro t
 have one:∀{t:Ty}{i:I}{l m:List I}{x:t.den}{vs:List Value},vC (i.asD t) l=some (x,m)->aP w A ρ (i::l) vs->∃a b,vs=a++b/\Rd w A t x a/\aP w A ρ m b:=by
  intro t i l m x vs h ⟨a,b,g,B,C⟩;unfold vC at h;split at h<;>simp at h;rename_i y j;obtain⟨rfl,rfl⟩:=h;exact⟨a,b,g,I.asD_ok j B,C⟩
 induction t with
 |un=>intro l m x vs h f;simp[jM]at h;subst h;exact⟨[],vs,rfl,rfl,f⟩
 |pr a r o p=>
  intro l m x vs h f;simp only[jM]at h;split at h
  case h_2=>simp at h
  rename_i y N j;split at h
  case h_2=>simp at h
  rename_i z D E;simp at h;obtain⟨rfl,rfl⟩:=h;obtain⟨c,d,F,s,u⟩:=o j f;obtain⟨v,G,H,J,K⟩:=p E u;exact⟨c++v,G,by rw[F,H,ay],⟨c,v,rfl,s,J⟩,K⟩
 |ar n e L=>
  intro l m x vs h f;cases l with
  |nil=>simp[jM]at h
  |cons i l=>
   simp only[jM]at h;split at h
   ·rename_i q M;simp at h;subst h;exact one M f
   ·exact xD (λs u=>L s u) h f
 |_=>
  intro l m x vs h f;cases l with
  |nil=>simp[jM]at h
  |cons i l=>exact one h f
def ud(t:Ty)(l:List I):Option t.den:=match jM t l with
 |some (x,[])=>some x
 |_=>none
theorem jj{ρ:Nat->Pl}{l:List I}{x:kt.den}(h:ud kt l=some x)(c:aP w A ρ l vs):Rd w A kt x vs:=by
 unfold ud at h;split at h<;>simp at h;rename_i y f;subst h;obtain⟨a,b,e,g,i⟩:=xE f c;rw[e,i,aH];exact g
def V.asD(t:Ty):V->Option t.den
 | .val g l=>if g=t.agg then ud t l else none
 |_=>none
theorem V.asD_ok{ρ:Nat->Pl}{x:V}{y:kt.den}(h:x.asD kt=some y)(a:aT w A ρ x v):jc w A kt y v:=by
 unfold V.asD at h;split at h
 case h_2=>simp at h
 rename_i g l;split at h
 case isFalse=>simp at h
 rename_i b;obtain⟨c,e,f⟩:=a;exact⟨c,jj h e,by rw[<-b];exact f⟩
def kZ:(t:Ty)->t.den->Nat->Option I
 | .ar _ e,l,j=>if e.size=0 then none else kZ e (l.getD (j/e.size) e.df) (j % e.size)
 | .pr a r,x,j=>if j<a.size then kZ a x.1 j else kZ r x.2 (j-a.size)
 | .un,_,_=>none
 | .bl,x,_=>some (.d .bl x)
 | .i64,x,_=>some (.d .i64 x)
 | .i32,x,_=>some (.d .i32 x)
 | .u8,x,_=>some (.d .u8 x)
 | .u64,x,_=>some (.d .u64 x)
 | .st,x,_=>some (.d .st x)
 | .yl,x,_=>some (.d .yl x)
 | .sl e,x,_=>some (.d (.sl e) x)
 | .pf t,x,_=>some (.pv t x)
 | .fm k v,x,_=>some (.fmp k v x)
theorem Ff{ρ:Nat->Pl}:∀{t:Ty}{x:t.den}{j:Nat}{i:I}{vs:List Value},Rd w A t x vs->j<t.size->kZ t x j=some i->∃v,vs[j]?=some v/\bh w A ρ i [v]:=by
 intro t
 induction t with
 |ar n e D=>
  intro l j i vs ⟨s,m⟩ f h;simp only[kZ]at h;split at h<;>first|(simp at h;done)|skip
  rename_i J;simp only[Ty.size]at f;have o:0<e.size:=ac
  have B:j/e.size<l.length:=by rw[s];exact Nat.div_lt_of_lt_mul (by rw[Nat.mul_comm];exact f)
  obtain⟨E,K⟩:=dT.get (λ_ _=>Rd.length) m (an B);have F:l.getD (j/e.size) e.df=l[j/e.size]:=by simp[bF,an B]
  rw[F]at h;obtain⟨v,p,q⟩:=D E (Nat.mod_lt _ o) h;refine⟨v,?_,q⟩;rw[iY (Nat.mod_lt _ o),ji]at p;rw[<-p]
  congr 1
  rw[Nat.mul_comm];exact(Nat.div_add_mod j e.size).symm
 |pr a r u y=>
  intro x j i vs ⟨c,d,e,s,m⟩ f h;have G:=Rd.length s;simp only[kZ]at h;simp only[Ty.size]at f;split at h
  ·rename_i C;obtain⟨v,p,q⟩:=u s C h;exact⟨v,by rw[e,bq ac];exact p,q⟩
  ·rename_i C;obtain⟨v,p,q⟩:=y m ac h;exact⟨v,by rw[e,aJ ac,G];exact p,q⟩
 |un=>intro x j i vs _ f h;simp[kZ]at h
 |sl e=>
  intro x j i vs h f g;simp only[kZ,Option.some.injEq]at g;subst g;simp only[Ty.size]at f;obtain rfl:j=0:=ac
  obtain⟨v,rfl,m⟩:=h;exact⟨v,rfl,v,rfl,m⟩
 |pf t=>
  intro x j i vs h f g;simp only[kZ,Option.some.injEq]at g;subst g;simp only[Ty.size]at f;obtain rfl:j=0:=ac
  obtain⟨b,z,H,rfl,m⟩:=h;exact⟨_,rfl,b,z,H,rfl,m⟩
 |fm k v=>
  intro x j i vs h f g;simp only[kZ,Option.some.injEq]at g;subst g;simp only[Ty.size]at f;obtain rfl:j=0:=ac
  obtain⟨b,rfl,m⟩:=h;exact⟨_,rfl,b,rfl,m⟩
 |_=>
  intro x j i vs h f g;simp only[kZ,Option.some.injEq]at g;subst g;simp only[Ty.size]at f;obtain rfl:j=0:=ac
  simp only[Rd]at h;subst h;exact⟨_,rfl,rfl⟩
def zV:I->Nat->Option I
 | .d t x,j=>kZ t x j
 |i,_=>some i
def jk:List I->Nat->Option I
 |[],_=>none
 |i::r,a=>if a<i.size then zV i a else jk r (a-i.size)
def vD:(t:Ty)->t.den->Nat->I->Option t.den
 | .ar _ e,l,j,i=>if e.size=0 then none else match vD e (l.getD (j/e.size) e.df) (j % e.size) i with
   |some y=>some (l.set (j/e.size) y)
   |none=>none
 | .pr a r,x,j,i=>if j<a.size then(match vD a x.1 j i with
  |some y=>some (y,x.2)
  |none=>none)else(match vD r x.2 (j-a.size) i with
  |some y=>some (x.1,y)
  |none=>none)
 | .un,_,_,_=>none
 | .bl,_,_,i=>i.asD .bl
 | .i64,_,_,i=>i.asD .i64
 | .i32,_,_,i=>i.asD .i32
 | .u8,_,_,i=>i.asD .u8
 | .u64,_,_,i=>i.asD .u64
 | .st,_,_,i=>i.asD .st
 | .yl,_,_,i=>i.asD .yl
 | .sl e,_,_,i=>i.asD (.sl e)
 | .pf t,_,_,i=>i.asD (.pf t)
 | .fm k v,_,_,i=>i.asD (.fm k v)
theorem BJ{l:List α}{v:α}(h:l.length=1)(a:j<1):l.set j v=[v]:=by
 match l,h with
 |[u],_=>
  obtain rfl:j=0:=ac
  rfl
theorem rJ{vs:List α}{v:α}(f:m<n)(h:j*n+n<=vs.length):
 vs.set (j*n+m) v=vs.take (j*n)++((vs.drop (j*n)).take n).set m v++vs.drop (j*n+n):=by
 apply List.ext_getElem?;intro i;have b:(vs.take (j*n)).length=j*n:=eM
 have a:(((vs.drop (j*n)).take n).set m v).length=n:=eM
 rw[ay];by_cases c:i<j*n
 ·rw[bq ac,iY c,mF ac]
 ·rw[aJ ac,b];by_cases g:i<j*n+n
  ·rw[bq ac];by_cases e:i=j*n+m
   ·subst e;rw[List.getElem?_set_self ac];have:j*n+m-j*n=m:=ac
    rw[this,List.getElem?_set_self eM]
   ·rw[mF ac,mF ac,iY ac,ji]
    congr 1;omega
  ·rw[aJ ac,a,mF ac,ji]
   congr 1;omega
theorem JW{ρ:Nat->Pl}:∀{t:Ty}{x y:t.den}{j:Nat}{i:I}{vs:List Value}{v:Value},Rd w A t x vs->j<t.size->bh w A ρ i [v]->vD t x j i=some y->Rd w A t y (vs.set j v):=by
 intro t
 induction t with
 |ar n e F=>
  intro l y j i vs v ⟨g,p⟩ b m h;simp only[vD]at h;split at h<;>first|(simp at h;done)|skip
  rename_i N;split at h<;>simp at h;rename_i z o;subst h;simp only[Ty.size]at b;have f:0<e.size:=ac
  have q:j/e.size<l.length:=by rw[g];exact Nat.div_lt_of_lt_mul (by rw[Nat.mul_comm];exact b)
  obtain⟨G,H⟩:=dT.get (λ_ _=>Rd.length) p (an q);have J:l.getD (j/e.size) e.df=l[j/e.size]:=by simp[bF,an q]
  rw[J]at o;have K:=F G (Nat.mod_lt _ f) m o;refine⟨by simp[g],?_⟩;have L:=dT.set (λ_ _=>Rd.length) p q K;have s:j=j/e.size*e.size+j % e.size:=by rw[Nat.mul_comm];exact(Nat.div_add_mod j e.size).symm
  have C:=rJ (v:=v) (Nat.mod_lt j f) H;rw[<-s]at C;rw[C];exact L
 |pr a r u B=>
  intro x y j i vs v ⟨c,d,e,g,p⟩ b m h;have M:=Rd.length g;simp only[vD]at h;simp only[Ty.size]at b;split at h
  ·rename_i D;split at h<;>simp at h;rename_i z o;subst h;exact⟨c.set j v,d,by rw[e,List.set_append_left _ _ ac],u g D m o,p⟩
  ·rename_i D;split at h<;>simp at h;rename_i z o;subst h;exact⟨c,d.set (j-a.size) v,by rw[e,List.set_append_right _ _ ac,M],g,B p ac m o⟩
 |un=>intro x y j i vs v _ b _ h;simp[vD]at h
 |_=>
  intro x y j i vs v h b m E;simp only[vD]at E;simp only[Ty.size]at b;have:=I.asD_ok E m;rw[BJ (Rd.length h) b];exact this
def Fg:I->Nat->I->Option I
 | .d t x,j,i=>match vD t x j i with
   |some y=>some (.d t y)
   |none=>if t.size=1/\i.size=1 then some i else none
 |_,_,i=>if i.size=1 then some i else none
def kv:List I->Nat->I->Option (List I)
 |[],_,_=>none
 |i::r,a,x=>if a<i.size then(Fg i a x).map (·::r)else(kv r (a-i.size) x).map (i:: ·)
section
variable{w:World}{A:Nat->Prop}{ρ:Nat->Pl}
theorem DD{i x:I}(h:bh w A ρ i vs)(b:j<i.size)(a:zV i j=some x):∃v,vs[j]?=some v/\bh w A ρ x [v]:=by
 cases i
 case d t y=>exact Ff h b a
 all_goals
  simp only[zV,Option.some.injEq]at a;subst a;have c:=bh.length h;simp only[I.size]at b c;obtain rfl:j=0:=ac
  match vs,c with
  |[v],_=>exact⟨v,rfl,h⟩
theorem nK:∀{l:List I}{off:Nat}{x:I}{vs:List Value},aP w A ρ l vs->jk l off=some x->∃v,vs[off]?=some v/\bh w A ρ x [v]
 |[],_,_,_,_,h=>by simp[jk]at h
 |i::r,off,x,vs,⟨a,b,c,g,m⟩,h=>by
  have n:=bh.length g;simp only[jk]at h;split at h
  ·rename_i j;obtain⟨v,e,f⟩:=DD g j h;exact⟨v,by rw[c,bq ac];exact e,f⟩
  ·rename_i j;obtain⟨v,e,f⟩:=nK m h;exact⟨v,by rw[c,aJ ac,n];exact e,f⟩
theorem JX{i x y:I}(h:bh w A ρ i vs)(b:j<i.size)(e:bh w A ρ x [v])(a:Fg i j x=some y):bh w A ρ y (vs.set j v):=by
 have single:∀{i:I},bh w A ρ i vs->i.size=1->j<i.size->x.size=1->bh w A ρ x (vs.set j v):=by
  intro i f g b _;rw[BJ ((bh.length f).trans g) ac];exact e
 cases i
 case d t z=>
  simp only[Fg]at a;split at a
  ·rename_i m l;simp at a;subst a;exact JW h b e l
  ·split at a<;>simp at a;rename_i c;subst a;exact single h c.1 b c.2
 all_goals
  simp only[Fg]at a;split at a<;>simp at a;rename_i c;subst a;exact single h rfl b c
theorem nL:∀{l m:List I}{off:Nat}{x:I}{vs:List Value}{v:Value},aP w A ρ l vs->bh w A ρ x [v]->kv l off x=some m->off<vs.length/\aP w A ρ m (vs.set off v)
 |[],_,_,_,_,_,_,_,h=>by simp[kv]at h
 |i::r,m,off,x,vs,v,⟨a,b,c,f,g⟩,j,h=>by
  have o:=bh.length f;simp only[kv]at h;split at h
  ·rename_i n;cases e:Fg i off x with
   |none=>simp[e]at h
   |some y=>
    simp[e]at h;subst h;refine⟨by rw[c,aa];omega,a.set off v,b,?_,JX f n j e,g⟩;rw[c,List.set_append_left _ _ ac]
  ·rename_i n;cases e:kv r (off-i.size) x with
   |none=>simp[e]at h
   |some q=>
    simp[e]at h;subst h;obtain⟨s,p⟩:=nL g j e;refine⟨by rw[c,aa];omega,a,b.set (off-i.size) v,?_,f,p⟩;rw[c,List.set_append_right _ _ ac,o]
def ic:List I->Nat->Option (List I×List I)
 |[],n=>if n=0 then some ([],[])else none
 |i::r,n=>if n=0 then some ([],i::r)else if i.size<=n then(match ic r (n-i.size)with
  |some (a,b)=>some (i::a,b)
  |none=>none)else none
theorem iL:∀{l a b:List I}{n:Nat}{vs:List Value},aP w A ρ l vs->ic l n=some (a,b)->n<=vs.length/\aP w A ρ a (vs.take n)/\aP w A ρ b (vs.drop n)
 |[],a,b,n,vs,h,e=>by
  simp only[ic]at e;split at e<;>simp at e;rename_i g;obtain⟨rfl,rfl⟩:=e;subst g;have:vs=[]:=h;subst this;exact⟨aq _,rfl,rfl⟩
 |i::r,a,b,n,vs,hL,e=>by
  obtain⟨c,d,f,j,m⟩:=hL;have o:=bh.length j;simp only[ic]at e;split at e
  ·rename_i g;simp at e;obtain⟨rfl,rfl⟩:=e;subst g;exact⟨aq _,by simp[aP],by simpa using⟨c,d,f,j,m⟩⟩
  ·split at e
   ·rename_i p;split at e<;>simp at e;rename_i u v q;obtain⟨rfl,rfl⟩:=e;obtain⟨x,s,t⟩:=iL m q;refine⟨by rw[f,aa];omega,⟨c,d.take (n-i.size),?_,j,s⟩,?_⟩
    ·rw[f,List.take_append,o,bb ac]
    ·rw[f,List.drop_append,bu ac,eO,o];exact t
   ·simp at e
def gu(l:List I)(off n:Nat):Option (List I):=match ic l off with
 |some (_,b)=>match ic b n with
  |some (c,_)=>some c
  |none=>none
 |none=>none
theorem ig{l m:List I}(h:aP w A ρ l vs)(e:gu l off n=some m):off+n<=vs.length/\aP w A ρ m ((vs.drop off).take n):=by
 unfold gu at e;split at e
 case h_2=>simp at e
 rename_i a b g;split at e<;>simp at e;rename_i c d f;subst e;obtain⟨p,_,i⟩:=iL h g;obtain⟨j,o,_⟩:=iL i f;exact⟨by simp at j;omega,o⟩
def lA(l:List I)(off:Nat)(new:List I):Option (List I):=match ic l off with
 |some (a,b)=>match ic b (ly new)with
  |some (_,d)=>some (a++new++d)
  |none=>none
 |none=>none
theorem lB{l m new:List I}(h:aP w A ρ l vs)(i:aP w A ρ new nv)(e:lA l off new=some m):
 off+nv.length<=vs.length/\aP w A ρ m (vs.take off++nv++vs.drop (off+nv.length)):=by
 unfold lA at e;split at e
 case h_2=>simp at e
 rename_i a b n;split at e<;>simp at e;rename_i c d f;subst e;obtain⟨r,o,p⟩:=iL h n;obtain⟨j,_,g⟩:=iL p f;have q:=aP.length i;rw[<-q]at j g;rw[ko]at g;refine⟨by simp at j;omega,?_⟩;simpa[ay]using aP.append o (aP.append i g)
end
end
variable{cs:Array Value}{e et t ty:TypeId}
section
def ll(P:Program)(t:TypeId):Option Nat:=(P.info? t).map (·.size)
def Ts(P:Program)(t:TypeId):Option Nat:=(P.info? t).map (·.bytes)
def fK(P:Program)(t:TypeId):Option Bool:=
 match P.underlying t with
 |some (.struct _)|some (.array _ _)=>some true
 |some _=>some false
 |none=>none
def DE(P:Program)(t:TypeId):Option (Nat×TypeId):=
 match P.underlying t with
 |some (.array n e)=>some (n,e)
 |_=>none
def qY(P:Program)(t:TypeId):Option TypeId:=
 match P.underlying t with
 |some (.slice e)=>some e
 |_=>none
def zW(P:Program)(t:TypeId):Option IntKind:=
 match P.underlying t with
 |some (.int k)=>some k
 |_=>none
def DF(P:Program)(t:TypeId):Bool:=
 match P.underlying t with
 |some .string=>true
 |_=>false
def vE(P:Program)(t:TypeId)(f:Nat):Option (Nat×TypeId):=
 match P.underlying t with
 |some (.struct a)=>match a[f]? with
  |some x=>match P.info? x.type with
   |some i=>if i.size=0 then none else some (x.offset,x.type)
   |none=>none
  |none=>none
 |_=>none
theorem vF(h:ll P t=some n):∃i,P.info? t=some i/\i.size=n:=by
 unfold ll at h;cases a:P.info? t with
 |none=>simp[a]at h
 |some i=>simp[a]at h;exact⟨i,rfl,h⟩
theorem zX(h:Ts P t=some n):∃i,P.info? t=some i/\i.bytes=n:=by
 unfold Ts at h;cases a:P.info? t with
 |none=>simp[a]at h
 |some i=>simp[a]at h;exact⟨i,rfl,h⟩
theorem cg(h:ll P t=some n)(w:World):(sizeOf t).run P w= .ok n w:=by
 obtain⟨i,a,rfl⟩:=vF h;simp[sizeOf,typeInfo,a]
theorem fB(h:fK P t=some g)(w:World):(isAgg t).run P w= .ok g w:=by
 unfold fK at h;unfold isAgg;cases a:P.underlying t with
 |none=>simp[a]at h
 |some d=>
  rw[bJ,run_underlying a];cases d<;>simp[a]at h<;>subst h<;>rfl
theorem dh(h:qY P t=some e):P.underlying t=some (.slice e):=by
 unfold qY at h;split at h
 ·rename_i b a;simp at h;subst h;exact a
 ·simp at h
theorem mI(h:DE P t=some (n,e)):P.underlying t=some (.array n e):=by
 unfold DE at h;split at h
 ·rename_i b c a;simp at h;obtain⟨rfl,rfl⟩:=h;exact a
 ·simp at h
theorem ft{k:IntKind}(h:zW P t=some k):P.underlying t=some (.int k):=by
 unfold zW at h;split at h
 ·rename_i b a;simp at h;subst h;exact a
 ·simp at h
theorem hC(h:DF P t=true):P.underlying t=some .string:=by
 unfold DF at h;split at h
 ·rename_i a;exact a
 ·simp at h
theorem cC(b o n:Nat):Addr.add ⟨b,o,none⟩ n=⟨b,o+n,none⟩:=Addr.add_lit b o n
theorem uG(h:vE P t f=some (o,ty)):
 ∃a x i,P.underlying t=some (.struct a)/\a[f]?=some x/\P.info? x.type=some i/\i.size≠0/\x.offset=o/\x.type=ty:=by
 unfold vE at h;split at h
 case h_2=>simp at h
 rename_i a c;split at h
 case h_2=>simp at h
 rename_i x e;split at h
 case h_2=>simp at h
 rename_i i g;split at h<;>simp at h;rename_i j;exact⟨a,x,i,c,e,g,j,h.1,h.2⟩
def Ty.app:Ty->Ty->Ty
 | .un,b=>b
 | .pr a r,b=> .pr a (r.app b)
 |a,b=> .pr a b
def Fh(f:TypeId->Option Ty):List Field->Option Ty
 |[]=>some .un
 |x::r=>match f x.type,Fh f r with
  |some a,some b=>some (a.app b)
  |_,_=>none
def JD(P:Program):Nat->TypeId->Option Ty
 |0,_=>none
 |n+1,t=>match P.underlying t with
  |some .bool=>some .bl
  |some (.int .i64)=>some .i64
  |some (.int .i32)=>some .i32
  |some (.int .u8)=>some .u8
  |some (.int .u64)=>some .u64
  |some .string=>some .st
  |some (.slice e)=>(JD P n e).map .sl
  |some (.array m e)=>(JD P n e).map (.ar m)
  |some (.struct a)=>Fh (JD P n) a.toList
  |_=>none
def Fi(v:Value):Option I:=
 match PD v with
 |some s=>some (.k s)
 |none=>match v with
  | .slice none 0 0=>some .nils
  | .pointer none=>some .nilp
  | .map none=>some .nilm
  | .nilIface=>some .nili
  | .nilFunc=>some .nilf
  |_=>none
theorem BK{ρ:Nat->Pl}{i:I}(h:Fi v=some i):bh w A ρ i [v]:=by
 unfold Fi at h;split at h
 ·rename_i s a;simp at h;subst h;simp only[bh,JU a]
 ·split at h<;>simp at h<;>subst h<;>rfl
def JY:Value->Bool
 | .int .u8 n=>n==0
 |_=>false
theorem JZ(h:JY v=true):v=cu 0:=by
 unfold JY at h;split at h
 ·simp at h;subst h;rfl
 ·simp at h
def Fj(f:List Value->Option (List I×List Value)):Nat->List Value->Option (List I×List Value)
 |0,c=>some ([],c)
 |n+1,c=>match f c with
  |some (a,r)=>match Fj f n r with
   |some (b,q)=>some (a++b,q)
   |none=>none
  |none=>none
def Fl(f:TypeId->List Value->Option (List I×List Value)):List Field->List Value->Option (List I×List Value)
 |[],c=>some ([],c)
 |x::l,c=>match f x.type c with
  |some (a,r)=>match Fl f l r with
   |some (b,q)=>some (a++b,q)
   |none=>none
  |none=>none
def Tt(P:Program):Nat->TypeId->List Value->Option (List I×List Value)
 |0,_,_=>none
 |n+1,t,a=>match P.underlying t with
  |some (.array m e)=>
   if 8<m/\zW P e=some .u8 then
    if(a.take m).all JY&&decide (m<=a.length)then some ([.d (.ar m .u8) (ax m (0:BitVec 8))],a.drop m)else none
   else Fj (Tt P n e) m a
  |some (.struct b)=>Fl (Tt P n) b.toList a
  |some _=>match a with
   |v::r=>match Fi v with
    |some i=>some ([i],r)
    |none=>none
   |[]=>none
  |none=>none
section
variable{w:World}{A:Nat->Prop}{ρ:Nat->Pl}
abbrev Fm(w:World)(A:Nat->Prop)(ρ:Nat->Pl)(vs:List Value)(q:List I×List Value):Prop:=∃a,vs=a++q.2/\aP w A ρ q.1 a
theorem BM{f:List Value->Option (List I×List Value)}(c:∀vs q,f vs=some q->Fm w A ρ vs q):∀(n:Nat)(vs:List Value)(q:List I×List Value),Fj f n vs=some q->Fm w A ρ vs q
 |0,vs,q,h=>by simp[Fj]at h;subst h;exact⟨[],rfl,rfl⟩
 |n+1,vs,q,h=>by
  simp only[Fj]at h;split at h
  case h_2=>simp at h
  rename_i a r e;split at h<;>simp at h;rename_i b o g;subst h;obtain⟨x,i,j⟩:=c _ _ e;obtain⟨y,l,m⟩:=BM c n _ _ g;exact⟨x++y,by rw[i,l,ay],aP.append j m⟩
theorem BN{f:TypeId->List Value->Option (List I×List Value)}(c:∀t vs q,f t vs=some q->Fm w A ρ vs q):∀(l:List Field)(vs:List Value)(q:List I×List Value),Fl f l vs=some q->Fm w A ρ vs q
 |[],vs,q,h=>by simp[Fl]at h;subst h;exact⟨[],rfl,rfl⟩
 |x::l,vs,q,h=>by
  simp only[Fl]at h;split at h
  case h_2=>simp at h
  rename_i a r e;split at h<;>simp at h;rename_i b o g;subst h;obtain⟨x,i,j⟩:=c _ _ _ e;obtain⟨y,m,n⟩:=BN c l _ _ g;exact⟨x++y,by rw[i,m,ay],aP.append j n⟩
theorem uH:∀(vs:List Value),vs.all JY=true->dT (Rd w A .u8) (ax vs.length (0:BitVec 8)) vs
 |[],_=>rfl
 |v::r,h=>by
  simp only[List.all_cons,aK]at h;exact⟨[v],r,rfl,by rw[JZ h.1];rfl,uH r h.2⟩
theorem zY{P:Program}:∀(n:Nat)(t:TypeId)(vs:List Value)(q:List I×List Value),Tt P n t vs=some q->Fm w A ρ vs q
 |0,_,_,_,h=>by simp[Tt]at h
 |n+1,t,vs,q,h=>by
  simp only[Tt]at h;split at h
  ·split at h
   ·split at h<;>simp at h;rename_i a;simp only[aK,ai]at a;subst h;refine⟨vs.take _,(ej _ _).symm,aP.single ⟨bY,?_⟩⟩;have:=uH (w:=w) (A:=A) _ a.1;rw[bd,fh a.2]at this;exact this
   ·exact BM (zY n _) _ _ _ h
  ·exact BN (zY n) _ _ _ h
  ·split at h
   ·split at h<;>simp at h;rename_i i b;subst h;exact⟨[_],rfl,aP.single (BK b)⟩
   ·simp at h
  ·simp at h
end
def zT(P:Program)(t:TypeId):Option (Bool×List I):=
 match P.info? t with
 |some i=>match i.zero with
  |some z=>match Tt P 12 t z.cells.toList with
   |some (l,[])=>match z with
    | .agg _=>some (true,l)
    | .tuple _=>none
    |_=>some (false,l)
   |_=>none
  |none=>none
 |none=>none
theorem qk{l:List I}(h:zT P t=some (g,l)):∃i z,P.info? t=some i/\i.zero=some z/\∀w A ρ,aT w A ρ (.val g l) z:=by
 unfold zT at h;split at h
 case h_2=>simp at h
 rename_i i j;split at h
 case h_2=>simp at h
 rename_i z m;split at h
 case h_2=>simp at h
 rename_i p n;refine⟨i,z,j,m,λw A ρ=>?_⟩;obtain⟨a,e,b⟩:=zY (w:=w) (A:=A) (ρ:=ρ) _ _ _ _ n;simp only[aH]at e;subst e;split at h
 ·simp at h;obtain⟨rfl,rfl⟩:=h;exact⟨_,b,by simp[Value.cells]⟩
 ·simp at h
 ·rename_i c f;simp at h;obtain⟨rfl,rfl⟩:=h;refine⟨[z],?_,bY⟩;have o:z.cells= #[z]:=by cases z<;>first|rfl|(exact absurd rfl (c _))|(exact absurd rfl (f _))
  rw[o]at b;exact b
def dG(P:Program)(F:Nat->Prop)(ρ:Nat->Pl)(w:World)(h:Nat->Option Ch)(N W:Nat)(s:Sem Value)(t:Tr (V×eD)):Prop:=
 ∀R,t.sat R->∃r a q,s.run P w= .ok r a/\R q/\bQ F ρ w h N W q.1 q.2 r a
section
variable{P:Program}{F:Nat->Prop}{ρ:Nat->Pl}{w:World}{h:Nat->Option Ch}{N W:Nat}{s:Sem Value}
theorem dG.stuck:dG P F ρ w h N W s .stuck:=λ_ a=>a.elim
theorem dG.leaf{y:V}{a:eD}(b:s.run P w= .ok r w')(c:bQ F ρ w h N W y a r w'):dG P F ρ w h N W s (.leaf (y,a)):=λ_ e=>⟨r,w',_,b,e,c⟩
theorem dG.pure(hh:dN F ρ w h){y:V}(a:s.run P w= .ok r w)(b:aT w (Av F ρ h) ρ y r):dG P F ρ w h N W s (.leaf (y,[])):= .leaf a (bQ.pure hh b)
theorem dG.need{p:Prop}{t:Tr (V×eD)}(b:p->dG P F ρ w h N W s t):dG P F ρ w h N W s (.need p t):=λR a=>b a.1 R a.2
theorem dG.needs{l:List Prop}{t:Tr (V×eD)}(a:(∀p∈l,p)->dG P F ρ w h N W s t):dG P F ρ w h N W s (.needs l t):=λR b=>let q:=uF.1 b;a q.1 R q.2
theorem dG.ite{x y:Tr (V×eD)}(c:g=true->dG P F ρ w h N W s x)(e:g=false->dG P F ρ w h N W s y):dG P F ρ w h N W s (.ite g x y):=λR a=>by
 cases g
 ·exact e rfl R (a.2 rfl)
 ·exact c rfl R (a.1 rfl)
theorem dG.ofOpt{x:Option (V×eD)}(a:∀q,x=some q->∃r w',s.run P w= .ok r w'/\bQ F ρ w h N W q.1 q.2 r w'):dG P F ρ w h N W s (Tr.ofOpt x):=by
 cases x with
 |none=>exact .stuck
 |some q=>obtain⟨r,w',b,c⟩:=a q rfl;exact .leaf b c
end
def V.one?:V->Option I
 | .val false [i]=>some i
 |_=>none
theorem J0{x:V}{i:I}(h:x.one?=some i):x=sc i:=by
 unfold V.one? at h;split at h
 ·simp at h;subst h;rfl
 ·simp at h
theorem aQ{ρ:Nat->Pl}{x:V}{i:I}(h:x.one?=some i)(a:aT w A ρ x v):bh w A ρ i [v]:=by
 rw[J0 h]at a;exact aM.1 a
theorem jl(w:World)(blk o:Nat)(cs:List Value)(h:∀i v,cs[i]?=some v->w.cell? ⟨blk,o+i,none⟩=some v):
 (loadCells ⟨blk,o,none⟩ cs.length).run P w= .ok cs.toArray w:=
 run_loadCells_list w _ cs λj v a=>by rw[cC];exact h j v a
theorem jN{blk:Nat}(h:∀i v,vs[i]?=some v->w.cell? ⟨blk,o+i,none⟩=some v):
 ∀i v,((vs.drop off).take n)[i]?=some v->w.cell? ⟨blk,o+off+i,none⟩=some v:=by
 intro i v a;rw[pz]at a;split at a
 ·rw[ji]at a;rw[fv];exact h _ _ a
 ·simp at a
def rK(P:Program)(t:TypeId)(l:List I)(off:Nat):Option V:=
 match fK P t,ll P t with
 |some true,some n=>(gu l off n).map λm=> .val true m
 |some false,some _=>(jk l off).map sc
 |_,_=>none
theorem lC{ρ:Nat->Pl}{l:List I}{y:V}(e:rK P t l off=some y)(z:aP w A ρ l vs)(B:∀i v,vs[i]?=some v->w.cell? ⟨b,o+i,none⟩=some v):
 ∃r,(Instr.loadAt t (.pointer (some ⟨b,o+off,none⟩))).run P w= .ok r w/\aT w A ρ y r:=by
 unfold rK at e;split at e
 case h_3=>simp at e
 ·rename_i n f p;cases g:gu l off n with
  |none=>simp[g]at e
  |some m=>
   simp[g]at e;subst e;obtain⟨C,x⟩:=ig z g;have q:((vs.drop off).take n).length=n:=eM
   have a:=jl (P:=P) w b (o+off) _ (jN (n:=n) B);rw[q]at a;refine⟨.agg ((vs.drop off).take n).toArray,?_,⟨_,x,bY⟩⟩;simp only[Instr.loadAt,tQ,bJ,bD,aZ,loadVar,fB f,cg p,if_true,a]
 ·rename_i n f p;cases g:jk l off with
  |none=>simp[g]at e
  |some c=>
   simp[g]at e;subst e;obtain⟨u,C,x⟩:=nK z g;have j:=B off u C;refine⟨u,?_,aM.2 x⟩;simp only[Instr.loadAt,tQ,bJ,bD,aZ,loadVar,fB f,cz,if_false,run_load,j]
theorem oC(h:w.heap[b]?=some (.cells cs ty (0,0))):∀i v,cs.toList[i]?=some v->w.cell? ⟨b,0+i,none⟩=some v:=by
 intro i v a;rw[bT,cell_of_row w b i cs ty (0,0) h];simpa using a
theorem PF{l:List kt.den}(h:xB w A kt l (.slice (some ⟨b,0,none⟩) n N))(hi:i<n):
 ∃vs,l.length=n/\Rd w A kt (l.getD i kt.df) vs/\∀j v,vs[j]?=some v->w.cell? ⟨b,i*kt.size+j,none⟩=some v:=by
 rcases h with⟨t,cap,cells,m,u,g,x,o,y,z,p,q⟩|⟨_,a,g⟩
 ·simp at g;obtain⟨rfl,rfl,rfl⟩:=g;obtain⟨r,B⟩:=dT.get (λ_ _=>Rd.length) p (an hi);refine⟨_,rfl,by rw[show l.getD i kt.df=l[i]by simp[bF,an hi]];exact r,λj v f=>?_⟩;rw[pz]at f;split at f
  ·rw[ji]at f;rw[cell_of_row w b _ cells m (0,0) o,<-f,<-q];rw[iY ac];simp
  ·simp at f
 ·simp at g;omega
def xF(P:Program)(t:TypeId)(x:V)(b:Nat->Option Ch):Option V:=
 match x.one? with
 |some (.ptr k c)=>match b k with
  |some (.cells l)=>rK P t l c
  |some (.fc l)=>rK P t l c
  |_=>none
 |some (.pes k e i a)=>match b k with
  |some (.sl f l)=>match Ty.deq f e with
   |some q=>rK P t (jL e ((q.down▸l:List e.den).getD i e.df)) a
   |none=>none
  |_=>none
 |some (.pv g y)=>rK P t (jL g y) 0
 |_=>none
theorem xG{ρ:Nat->Pl}{h j:Nat->Option Ch}{x:V}
 (hh:dN F ρ w h) (B:∀k b,j k=some b->h k=some b) (C:aT w (Av F ρ h) ρ x v):dG P F ρ w h N W (Instr.loadAt t v) (Tr.ofOpt ((xF P t x j).map (·,[]))):=by
 refine .ofOpt λq D=>?_;cases a:xF P t x j with
 |none=>simp[a]at D
 |some y=>
  simp[a]at D;subst D
  suffices K:∃r,(Instr.loadAt t v).run P w= .ok r w/\aT w (Av F ρ h) ρ y r by
   obtain⟨r,g,L⟩:=K;exact⟨r,w,g,bQ.pure hh L⟩
  unfold xF at a;split at a
  case h_4=>simp at a
  ·rename_i k E m;obtain⟨_,⟨b,p,rfl⟩,g⟩:=aQ m C;simp at g;subst g;simp only at p;split at a
   case h_3=>simp at a
   ·rename_i l z;obtain⟨M,O,ty,f,G,H⟩:=hh.ok k _ (B k _ z);rw[p]at f;simp at f;subst f;have:=lC a H (oC G)
    rwa [bT]at this
   ·rename_i l z;obtain⟨M,Q,f,_,_,H,R⟩:=hh.ok k _ (B k _ z);rw[p]at f;simp at f;subst f;have:=lC (o:=0) a H (cf R)
    rwa [bT]at this
  ·rename_i k e i J m;obtain⟨b,n,c,p,S,g⟩:=aQ m C;simp at g;subst g;split at a
   case h_2=>simp at a
   rename_i e' l z;split at a
   case h_2=>simp at a
   rename_i q _;obtain⟨q⟩:=q;subst q;obtain⟨u,f,G⟩:=hh.ok k _ (B k _ z);rw[p]at f;simp at f;subst f;obtain⟨Q,_,U,X⟩:=PF G S;exact lC a (gq.2 U) X
  ·rename_i t' y' m;obtain⟨b,E,O,g,_,_,Y,h5⟩:=aQ m C;simp at g;subst g;exact lC a (gq.2 Y) h5
end
section
section
variable{w:World}{A:Nat->Prop}{ρ:Nat->Pl}
def J1(P:Program)(t:TypeId)(l:List I)(off:Nat)(y:V):Option (List I):=
 match ll P t,y with
 |some n, .val true m=>if ly m=n then lA l off m else none
 |some n, .val false [c]=>if n=1 then kv l off c else none
 |_,_=>none
theorem BO{l m:List I}{y:V}(h:J1 P t l off y=some m)(p:aP w A ρ l vs)(q:aT w A ρ y u):
 ll P t=some u.cells.size/\off+u.cells.toList.length<=vs.length/\aP w A ρ m (vs.take off++u.cells.toList++vs.drop (off+u.cells.toList.length))/\∀v∈u.cells.toList,v.oneCell'=true:=by
 have r:∀{g i},y= .val g i->aP w A ρ i u.cells.toList:=λe=>eT (by rw[<-e];exact q);unfold J1 at h;split at h
 case h_3=>simp at h
 ·rename_i n C b;split at h
  case isFalse=>simp at h
  rename_i o;have a:=r rfl;obtain⟨s,x⟩:=lB p a h;have:=aP.length a;exact⟨by rw[b,<-o,<-this];simp,s,x,aP.one a⟩
 ·rename_i n c b;split at h
  case isFalse=>simp at h
  rename_i o;subst o;have f:=aM.1 q
  have a:u.cells.toList=[u]:=by
   have:=bh.one f u bY;cases u<;>first|rfl|(simp[eg]at this)
  obtain⟨z,B⟩:=nL p f h;have j:u.cells.size=1:=by have:=aI ah a;simpa using this
  refine⟨by rw[b,j],by rw[a];simp;omega,?_,by rw[a];exact bh.one f⟩;rw[a]
  have:vs.take off++[u]++vs.drop (off+[u].length)=vs.set off u:=by
   rw[List.set_eq_take_append_cons_drop,ak z];simp
  rw[this];exact B
end
theorem fC(P:Program)(g:w.heap[b]?=some (.cells cs ty (0,0)))(j:off+nv.length<=cs.size)(i:∀v∈nv,v.oneCell'=true):
 ∃w' a,(storeCells ⟨b,off,none⟩ nv).run P w= .ok () w'/\w'.heap[b]?=some (.cells a ty (0,0))/\a.toList=cs.toList.take off++nv++cs.toList.drop (off+nv.length)/\
  w'.heap.size=w.heap.size/\w'.os=w.os/\w'.tape=w.tape/\w'.output=w.output/\∀e,e≠b->w'.heap[e]?=w.heap[e]?:=by
 have c:=run_storeCells_at P b off ty nv 0 cs w g ac i;simp only[Nat.add_zero]at c;exact⟨_,_,c,setRow_heap w b cs _ ty (0,0) g,rfl,by simp[World.setRow],rfl,rfl,rfl,λe f=>setRow_other _ _ _ _ f⟩
theorem ql(a:Addr)(v:Value)(b:ll P t=some n)(c:v.cells.size=n)
 (h:(storeCells a v.cells.toList).run P w= .ok () w'):(Instr.storeAt t (.pointer (some a)) v).run P w= .ok () w':=by
 simp only[Instr.storeAt,tQ,bJ,bD,aZ,storeVar,cg b,c,ne_eq,not_true_eq_false,if_false,h]
theorem oD{l vs nv:List α}(e:l.take vs.length=vs)(b:vs.length<=l.length)(i:off+nv.length<=vs.length):
 (l.take off++nv++l.drop (off+nv.length)).take (vs.take off++nv++vs.drop (off+nv.length)).length=vs.take off++nv++vs.drop (off+nv.length):=by
 have c:l=vs++l.drop vs.length:=by rw[<-e,bd,fh b];simp
 have a:(vs.take off++nv++vs.drop (off+nv.length)).length=vs.length:=eM
 rw[a];have f:l.take off=vs.take off:=by rw[c,List.take_append_of_le_length ac]
 have g:l.drop (off+nv.length)=vs.drop (off+nv.length)++l.drop vs.length:=by
  conv=>lhs;rw[c]
  rw[List.drop_append_of_le_length ac]
 rw[f,g,<-ay,List.take_append_of_le_length (by rw[a];exact aE _),bb (by rw[a];exact aE _)]
theorem qm{vs nv:List α}{q:Nat}(e:m+nv.length<=n):
 vs.take q++(((vs.drop q).take n).take m++nv++((vs.drop q).take n).drop (m+nv.length))++vs.drop (q+n)=vs.take (q+m)++nv++vs.drop (q+m+nv.length):=by
 have a:((vs.drop q).take n).take m=(vs.drop q).take m:=by rw[List.take_take];congr 1;omega
 have b:vs.take (q+m)=vs.take q++(vs.drop q).take m:=by rw[List.take_add]
 have c:((vs.drop q).take n).drop (m+nv.length)++vs.drop (q+n)=vs.drop (q+m+nv.length):=by
  rw[List.drop_take,ko];have:vs.drop (q+n)=(vs.drop (q+(m+nv.length))).drop (n-(m+nv.length)):=by rw[ko];congr 1;omega
  rw[this,ej]
  congr 1
  omega
 rw[a,b];simp only[ay];rw[<-c]
def vG(P:Program)(t:TypeId)(x y:V)(get:Nat->Option Ch):Option (V×eD):=
 match x.one? with
 |some (.ptr k b)=>match get k with
  |some (.cells l)=>match J1 P t l b y with
   |some m=>some (.tup [],[(k,some (.cells m))])
   |none=>none
  |_=>none
 |some (.pes k e i a)=>match get k with
  |some (.sl c l)=>match Ty.deq c e with
   |some q=>match J1 P t (jL e ((q.down▸l:List e.den).getD i e.df)) a y with
    |some m=>match ud e m with
     |some z=>some (.tup [],[(k,some (.sl e ((q.down▸l:List e.den).set i z)))])
     |none=>none
    |none=>none
   |none=>none
  |_=>none
 |_=>none
theorem oF{ρ:Nat->Pl}{h get:Nat->Option Ch}{x y:V}{q:V×eD}
 (hh:dN F ρ w h) (hg:∀k b,get k=some b->h k=some b) (hx:aT w (Av F ρ h) ρ x v) (hy:aT w (Av F ρ h) ρ y u) (f:vG P t x y get=some q):
 ∃w',(Instr.storeAt t v u).run P w= .ok () w'/\bQ F ρ w h N W q.1 q.2 undef w':=by
 unfold vG at f;split at f
 case h_3=>simp at f
 ·rename_i k a3 O;obtain⟨_,⟨b,p,rfl⟩,G⟩:=aQ O hx;simp at G;subst G;simp only at p;split at f
  case h_2=>simp at f
  rename_i l Q;split at f
  case h_2=>simp at f
  rename_i m K;simp at f;subst f;have j:=hg k _ Q;obtain⟨H,cs,R,r,S,e3⟩:=hh.ok k _ j;rw[p]at r;simp at r;subst r;obtain⟨U,s,X,Y⟩:=BO K e3 hy;obtain⟨w',o,q1,q2,L,q4,q5,q6,q7,q8⟩:=fC P S (cf s) Y;refine⟨w',ql _ _ U rfl q1,bQ.set hh j rfl (.cells m) bY bY ac q5 q6 q7 (λH _ B=>q8 H (λe=>B (by rw[p,e];rfl))) (λC=>?_) _ _ (λ_=>fd)⟩;exact⟨b,o,R,p,q2,by rw[L];exact X.evo C.evo (eA.refl ρ)⟩
 ·rename_i k e i D O;obtain⟨b,n,c,p,hi,G⟩:=aQ O hx;simp at G;subst G;split at f
  case h_2=>simp at f
  rename_i E l Q;split at f
  case h_2=>simp at f
  rename_i qq _;obtain⟨qq⟩:=qq;subst qq;split at f
  case h_2=>simp at f
  rename_i m K;split at f
  case h_2=>simp at f
  rename_i z hz;simp at f;subst f;have j:=hg k _ Q;obtain⟨sv,r,S⟩:=hh.ok k _ j;rw[p]at r;simp at r;subst r;rcases S with⟨H,cap,cells,R,us,M,o2,o3,o4,o5,o6,o7⟩|⟨_,a,M⟩
  case inr=>simp at M;omega
  simp at M;obtain⟨rfl,rfl,rfl⟩:=M;obtain⟨r1,r2⟩:=dT.get (λ_ _=>Rd.length) o6 (an hi);have a0:l.getD i E.df=l[i]:=by simp[bF,an hi]
  simp only[a0]at K;obtain⟨U,s,X,Y⟩:=BO K (gq.2 r1) hy;have a1:=jj hz X;have J:((us.drop (i*E.size)).take E.size).length=E.size:=eM
  rw[J]at s
  have a2:us.length<=cells.size:=by
   have:=aI ah o7;simp at this;omega
  obtain⟨w',o,q1,q2,L,q4,q5,q6,q7,q8⟩:=fC P (off:=i*E.size+D) o3 (by simp at s⊢;omega) Y;have g:=dT.set (λ_ _=>Rd.length) o6 hi a1;rw[qm s]at g;refine⟨w',ql _ _ U rfl q1,bQ.set hh j rfl (.sl E (l.set i z)) bY bY ac q5 q6 q7 (λH _ B=>q8 H (λe=>B ?_)) (λC=>?_) _ _ (λ_=>fd)⟩
  ·obtain⟨c',rfl⟩:∃c',c=c'+1:=⟨c-1,ac⟩;rw[p,e];rfl
  ·refine⟨_,p, .inl ⟨b,c,o,R,_,bY,o2,q2,cf o4,?_,g.imp (λ_ _=>Rd.evo C.evo),?_⟩⟩
   ·have:o.size=cells.size:=by
     have:=aI ah L;simp at this;rw[this];simp at s;omega
    omega
   ·rw[L];exact oD o7 (cf a2) (by simp at s⊢;omega)
section
variable{P:Program}{F:Nat->Prop}{ρ:Nat->Pl}{w:World}{h:Nat->Option Ch}{N W:Nat}
theorem bQ.row(hh:dN F ρ w h)(e:ρ N= .un)(g:0<W)(cells:Array Value)(ty:TypeId)(a:List I)(c:aP w (Av F ρ h) ρ a cells.toList)
 (i:w'=w.alloc (.cells cells ty)):bQ F ρ w h N W (sc (.ptr N 0)) [(N,some (.cells a))] (.pointer (some ⟨w.heap.size,0,none⟩)) w':=by
 subst i;have j:gf w (w.alloc (.cells cells ty)):=gf.alloc w _;refine bQ.add hh e g j (.bk w.heap.size) (.cells a) bY (λb _ f=>?_) (λl=>?_) _ _ (λ_=>aM.2 ⟨_,⟨w.heap.size,bU _ _ _,rfl⟩,rfl⟩)
 ·simp[Pl.blk]at f;subst f;exact⟨aE _,by rw[eP];omega⟩
 ·exact⟨w.heap.size,cells,ty,bU _ _ _,Go.heap_alloc_new w _,c.evo l.evo (rI e _)⟩
def zZ(P:Program)(t:TypeId)(N:Nat):Option (V×eD):=
 match zT P t with
 |some (_,l)=>some (sc (.ptr N 0),[(N,some (.cells l))])
 |none=>none
theorem vH(hh:dN F ρ w h)(e:ρ N= .un)(f:0<W):dG P F ρ w h N W (Instr.alloc t true (.tuple #[])) (Tr.ofOpt (zZ P t N)):=by
 refine .ofOpt λq a=>?_;unfold zZ at a;split at a<;>simp at a;rename_i g l j;subst a;obtain⟨i,z,m,b,c⟩:=qk j;refine⟨.pointer (some ⟨w.heap.size,0,none⟩),w.alloc (.cells z.cells t),?_,bQ.row hh e f z.cells t l (eT (c _ _ _)) rfl⟩;simp[Instr.alloc,zeroValue,typeInfo,m,b,newVar,newRow]
def PG(x:V)(N:Nat):Option (V×eD):=
 match x with
 | .val _ l=>some (sc (.ptr N 0),[(N,some (.cells l))])
 |_=>none
theorem Aa(hh:dN F ρ w h)(b:ρ N= .un)(c:0<W){x:V}(e:aT w (Av F ρ h) ρ x v):dG P F ρ w h N W (Instr.box t v) (Tr.ofOpt (PG x N)):=by
 refine .ofOpt λq a=>?_;unfold PG at a;split at a<;>simp at a;rename_i g l;subst a;exact⟨.pointer (some ⟨w.heap.size,0,none⟩),w.alloc (.cells v.cells t),by simp[Instr.box,newVar,newRow],bQ.row hh b c v.cells t l (eT e) rfl⟩
end
def I.int?:I->Option Int
 | .k (.i64 n)=>some n
 | .d .i64 n=>some n
 | .k (.i32 n)=>some n
 | .d .i32 n=>some n
 | .k (.u8 x)=>some (x.toNat:Int)
 | .d .u8 (x:BitVec 8)=>some (x.toNat:Int)
 | .k (.u64 x)=>some (x.toNat:Int)
 | .d .u64 (x:BitVec 64)=>some (x.toNat:Int)
 |_=>none
def V.int?(x:V):Option Int:=match x.one? with
 |some i=>i.int?
 |none=>none
theorem kw{ρ:Nat->Pl}{x:V}{n:Int}(h:x.int?=some n)(b:aT w A ρ x v):∃k,v= .int k n:=by
 unfold V.int? at h;split at h
 case h_2=>simp at h
 rename_i i c;have a:=aQ c b;unfold I.int? at h;split at h<;>simp at h<;>subst h<;>simp[bh,Rd,Sc.val,cu,ku]at a<;>exact⟨_,a⟩
def V.nat?(x:V):Option Nat:=match x.one? with
 |some (.k (.i64 n))=>if 0<=n then some n.toNat else none
 |some (.k (.u8 x))=>some x.toNat
 |some (.k (.u64 x))=>some x.toNat
 |_=>none
theorem BP{ρ:Nat->Pl}{x:V}(h:x.nat?=some n)(c:aT w A ρ x v):∃k,v= .int k (n:Int):=by
 unfold V.nat? at h;split at h
 ·rename_i m b;have a:=aQ b c;split at h<;>simp at h;subst h;simp[bh,Sc.val]at a;subst a;exact⟨_,by rw[qJ ‹_›]⟩
 ·rename_i m b;have a:=aQ b c;simp at h;subst h;simp[bh,Sc.val,cu]at a;exact⟨_,a⟩
 ·rename_i m b;have a:=aQ b c;simp at h;subst h;simp[bh,Sc.val,ku]at a;exact⟨_,a⟩
 ·simp at h
def jm{R:Type}(i:Int)(f:Nat->Tr R):Nat->Nat->Tr R
 |0,_=> .need False .fin
 |n+1,a=> .ite (i==(a:Int)) (f a) (jm i f n (a+1))
theorem lD{R:Type}{i:Int}{f:Nat->Tr R}{Q:R->Prop}:∀{n a:Nat},(jm i f n a).sat Q->∃j,j<a+n/\i=(j:Int)/\(f j).sat Q
 |0,_,h=>h.1.elim
 |n+1,a,h=>by
  simp only[jm,Tr.sat]at h;cases b:(i==(a:Int))
  ·obtain⟨j,g,c,e⟩:=lD (h.2 b);exact⟨j,ac,c,e⟩
  ·exact⟨a,ac,cf b,h.1 b⟩
def vI:(t:Ty)->t.den->Nat->Option (Σ b:Ty,b.den)
 | .pr a r,x,n=>if n=0 then some ⟨.pr a r,x⟩else if a.size<=n then vI r x.2 (n-a.size)else none
 |t,x,n=>if n=0 then some ⟨t,x⟩else none
theorem DG:∀{t:Ty}{x:t.den}{n:Nat}{y:Σ f:Ty,f.den}{vs:List Value},vI t x n=some y->Rd w A t x vs->n<=vs.length/\Rd w A y.1 y.2 (vs.drop n):=by
 intro t
 have one:∀{t:Ty}{x:t.den}{n:Nat}{y:Σ f:Ty,f.den}{vs:List Value},(if n=0 then some (⟨t,x⟩:Σ f:Ty,f.den)else none)=some y->Rd w A t x vs->n<=vs.length/\Rd w A y.1 y.2 (vs.drop n):=by
  intro t x n y vs h b;split at h<;>simp at h;rename_i g;subst g;subst h;exact⟨aq _,cf b⟩
 induction t with
 |pr a r _ i=>
  intro x n y vs h b;simp only[vI]at h;split at h
  ·rename_i g;simp at h;subst g;subst h;exact⟨aq _,cf b⟩
  ·split at h
   case isFalse=>simp at h
   obtain⟨c,d,e,j,l⟩:=b;have m:=Rd.length j;obtain⟨p,o⟩:=i h l;refine⟨by rw[e,aa];omega,?_⟩;rw[e,List.drop_append,bu ac,eO,m];exact o
 |_=>intro x n y vs h b;exact one h b
def I.frozen?(i:I)(get:Nat->Option Ch):Option (Σ e:Ty,List e.den):=
 match i with
 | .d (.sl e) l=>some ⟨e,l⟩
 | .cut e l=>some ⟨e,l⟩
 | .own q=>match get q with
   |some (.fr e l)=>some ⟨e,l⟩
   |_=>none
 |_=>none
theorem kz{ρ:Nat->Pl}{h get:Nat->Option Ch}{i:I}{q:Σ e:Ty,List e.den}(hh:dN F ρ w h)(p:∀k b,get k=some b->h k=some b)(hi:I.frozen? i get=some q)(j:bh w (Av F ρ h) ρ i [v]):
 na w (Av F ρ h) (Rd w (Av F ρ h) q.1) q.2 v:=by
 unfold I.frozen? at hi;split at hi
 ·simp at hi;subst hi;obtain⟨u,f,g⟩:=j;simp at f;subst f;exact g
 ·simp at hi;subst hi;obtain⟨u,f,g,_⟩:=j;simp at f;subst f;exact g
 ·split at hi<;>simp at hi;rename_i e l r;subst hi;obtain⟨u,f,g⟩:=hh.ok _ _ (p _ _ r);obtain⟨a,n,c,m,o⟩:=j;simp at o;rw[f]at m;simp at m;subst m;subst o;exact g
 ·simp at hi
def gg(P:Program)(t:TypeId)(x i:V)(get:Nat->Option Ch):Tr (V×eD):=
 match x.one? with
 |some (.ptr k a)=>match DE P t with
  |some (n,e)=>match ll P e with
   |some s=>match i.nat? with
    |some j=>if j<n then .leaf (sc (.ptr k (a+j*s)),[])else .stuck
    |none=>match i.int? with
     |some j=>jm j (λq=> .leaf (sc (.ptr k (a+q*s)),[])) n 0
     |none=> .stuck
   |none=> .stuck
  |none=> .stuck
 |some (.own k)=>match get k,i.int?,qY P t with
  |some (.sl e l),some j,some b=>if ll P b=some e.size then .need (0<=j/\j<l.length) (.leaf (sc (.pes k e j.toNat 0),[]))else .stuck
  |some (.fr e l),some j,some b=>if ll P b=some e.size then .need (0<=j/\j<l.length) (.leaf (sc (.pv e (l.getD j.toNat e.df)),[]))else .stuck
  |_,_,_=> .stuck
 |some c=>match c.frozen? get,i.int?,qY P t with
  |some q,some j,some b=>if ll P b=some q.1.size then .need (0<=j/\j<q.2.length) (.leaf (sc (.pv q.1 (q.2.getD j.toNat q.1.df)),[]))else .stuck
  |_,_,_=> .stuck
 |none=> .stuck
section
variable{P:Program}{F:Nat->Prop}{ρ:Nat->Pl}{w:World}{h get:Nat->Option Ch}{N W:Nat}
theorem qn{e:Ty}{l:List e.den}{f:IntKind}{j:Int}(hh:dN F ρ w h)(g:na w (Av F ρ h) (Rd w (Av F ρ h) e) l v)(m:qY P t=some et)(n:ll P et=some e.size)(o:0<=j/\j<l.length):
 dG P F ρ w h N W (Instr.indexAt t v (.int f j)) (.leaf (sc (.pv e (l.getD j.toNat e.df)),[])):=by
 obtain⟨i,rfl⟩:=bo o.1;have c:i<l.length:=ac
 rcases g with⟨a,b,cap,p,rfl,z,q,s,u,x⟩|⟨rfl,_⟩
 case inr=>simp at c
 obtain⟨y,B⟩:=dT.get (λ_ _=>Rd.length) u (an c);refine dG.pure (r:= .pointer (some ⟨a,b+i*e.size,none⟩)) hh ?_ (aM.2 ⟨a,b+i*e.size,((p.drop (i*e.size)).take e.size),rfl,q,s,?_,jN x⟩)
 ·simp[Instr.indexAt,asIntOf,run_underlying (dh m),c,cg n,cC]
 ·have:l.getD (i:Int).toNat e.df=l[i]:=by simp[bF,an c]
  rw[this];exact y
theorem pH(hh:dN F ρ w h)(G:∀k b,get k=some b->h k=some b){x i:V}(E:aT w (Av F ρ h) ρ x v)(hi:aT w (Av F ρ h) ρ i u):
 dG P F ρ w h N W (Instr.indexAt t v u) (gg P t x i get):=by
 unfold gg;split
 ·rename_i k p z;obtain⟨_,⟨b,o,rfl⟩,B⟩:=aQ z E;simp at B;subst B;simp only at o;split
  case h_2=>exact .stuck
  rename_i n e C;split
  case h_2=>exact .stuck
  rename_i s y
  have go:∀(j:Nat)(f:IntKind),j<n->dG P F ρ w h N W (Instr.indexAt t (.pointer (some ⟨b,p,none⟩)) (.int f (j:Int))) (.leaf (sc (.ptr k (p+j*s)),[])):=by
   intro j f H;refine dG.pure (r:= .pointer (some ⟨b,p+j*s,none⟩)) hh ?_ (aM.2 ⟨_,⟨b,o,rfl⟩,rfl⟩);have h0:(0:Int)<=j/\(j:Int)<n:=ac
   simp[Instr.indexAt,asIntOf,run_underlying (mI C),tQ,H,cg y,cC]
  split
  ·rename_i j g;obtain⟨f,rfl⟩:=BP g hi;split
   case isFalse=>exact .stuck
   exact go j f ‹_›
  ·split
   case h_2=>exact .stuck
   rename_i j g;obtain⟨f,rfl⟩:=kw g hi;intro R U;obtain⟨q,q1,X,Y⟩:=lD U;rw[X];exact go q f ac R Y
 ·rename_i k z;split
  case h_3=>exact .stuck
  ·rename_i e l j O J g D;obtain⟨f,rfl⟩:=kw g hi;split
   case isFalse=>exact .stuck
   rename_i y;refine .need λo=>?_;obtain⟨a,n,c,B,Q⟩:=aQ z E;simp at Q;subst Q;obtain⟨sv,K,e2⟩:=hh.ok k _ (G k _ J);rw[B]at K;simp at K;subst K;obtain⟨m,rfl⟩:=bo o.1;have L:m<l.length:=ac
   rcases e2 with⟨b,cap,cells,ty,us,S,o2,o3,o4,o5,o6,o7⟩|⟨rfl,_⟩
   case inr=>simp at L
   simp at S;obtain⟨rfl,rfl,rfl⟩:=S;refine dG.pure (r:= .pointer (some ⟨b,m*e.size,none⟩)) hh ?_ (aM.2 ⟨b,_,_,B,cf L,bY⟩);simp[Instr.indexAt,asIntOf,run_underlying (dh D),L,cg y,cC]
  ·rename_i e l j O J g D;obtain⟨f,rfl⟩:=kw g hi;split
   case isFalse=>exact .stuck
   rename_i y;refine .need λo=>?_;have M:I.frozen? (.own k) get=some ⟨e,l⟩:=by simp[I.frozen?,J]
   exact qn hh (kz hh G M (aQ z E)) D y o
 ·rename_i it _ _ z;split
  case h_2=>exact .stuck
  rename_i q j O M g D;obtain⟨f,rfl⟩:=kw g hi;split
  case isFalse=>exact .stuck
  rename_i y;exact .need λo=>qn hh (kz hh G M (aQ z E)) D y o
 ·exact .stuck
def iM(P:Program)(t:TypeId)(x:V)(f:Nat):Option V:=
 match vE P t f with
 |some (o,_)=>match x.one? with
  |some (.ptr k b)=>some (sc (.ptr k (b+o)))
  |some (.pes k e i a)=>some (sc (.pes k e i (a+o)))
  |some (.pv t y)=>match vI t y o with
   |some z=>some (sc (.pv z.1 z.2))
   |none=>none
  |_=>none
 |none=>none
theorem pI(hh:dN F ρ w h){x:V}(p:aT w (Av F ρ h) ρ x v):dG P F ρ w h N W (Instr.fieldAt t v f) (Tr.ofOpt ((iM P t x f).map (·,[]))):=by
 refine .ofOpt λq r=>?_;cases g:iM P t x f with
 |none=>simp[g]at r
 |some y=>
  simp[g]at r;subst r;unfold iM at g;split at g
  case h_2=>simp at g
  rename_i o X H;obtain⟨Y,J,i,K,s,L,M,rfl,_⟩:=uG H
  have go:∀(b a:Nat),(Instr.fieldAt t (.pointer (some ⟨b,a,none⟩)) f).run P w= .ok (.pointer (some ⟨b,a+J.offset,none⟩)) w:=by
   intro b a;simp[Instr.fieldAt,run_underlying K,s,tQ,fieldPlace,sizeOf,typeInfo,L,M,cC]
  split at g
  case h_4=>simp at g
  ·rename_i k a m;obtain⟨_,⟨b,B,rfl⟩,l⟩:=aQ m p;simp at l g;subst l;subst g;exact⟨_,w,go b a,bQ.pure hh (aM.2 ⟨_,⟨b,B,rfl⟩,rfl⟩)⟩
  ·rename_i k e i' C m;obtain⟨b,n,c,B,D,l⟩:=aQ m p;simp at l g;subst l;subst g;exact⟨_,w,go b _,bQ.pure hh (aM.2 ⟨b,n,c,B,D,by simp[fv]⟩)⟩
  ·rename_i t' y' m;split at g<;>simp at g;rename_i z E;subst g;obtain⟨b,a,cs,l,O,Q,R,S⟩:=aQ m p;simp at l;subst l;obtain⟨d1,U⟩:=DG E R;refine⟨_,w,go b a,bQ.pure hh (aM.2 ⟨b,_,_,rfl,O,Q,U,λj u G=>?_⟩)⟩;rw[ji]at G;rw[fv];exact S _ _ G
def rL(x:V)(i:Nat):Option V:=
 match x with
 | .tup l=>match l[i]? with
   |some p=>some (.val p.1 p.2)
   |none=>none
 |_=>none
theorem rM(hh:dN F ρ w h){x:V}(c:aT w (Av F ρ h) ρ x v):dG P F ρ w h N W (Instr.extract v i) (Tr.ofOpt ((rL x i).map (·,[]))):=by
 refine .ofOpt λq a=>?_;unfold rL at a;split at a
 case h_2=>simp at a
 rename_i l;split at a<;>simp at a;rename_i p e;subst a;obtain⟨j,rfl,b⟩:=c;obtain⟨u,f,g⟩:=b.get e;exact⟨u,w,by simp[Instr.extract,f],bQ.pure hh g⟩
def rN(P:Program)(t:TypeId)(l:List I)(off:Nat):Option V:=
 match fK P t,ll P t with
 |some true,some n=>(gu l off n).map (.val true ·)
 |some false,some _=>(jk l off).map sc
 |_,_=>none
theorem qo{l:List I}{y:V}(i:aP w A ρ l vs)(a:rN P t l off=some y):
 ∃r,(part t vs.toArray off).run P w= .ok r w/\aT w A ρ y r:=by
 unfold rN at a;split at a
 case h_3=>simp at a
 ·rename_i n b f;cases e:gu l off n with
  |none=>simp[e]at a
  |some m=>
   simp[e]at a;subst a;obtain⟨j,g⟩:=ig i e;refine⟨.agg ((vs.drop off).take n).toArray,?_,_,g,bY⟩;simp[part,fB b,cg f]
 ·rename_i n b f;cases e:jk l off with
  |none=>simp[e]at a
  |some c=>
   simp[e]at a;subst a;obtain⟨u,j,g⟩:=nK i e;refine⟨u,?_,aM.2 g⟩;simp[part,fB b,j]
def vJ(P:Program)(t:TypeId)(x:V)(f:Nat):Option V:=
 match x with
 | .val true l=>match vE P t f with
   |some (o,a)=>rN P a l o
   |none=>none
 |_=>none
theorem vK(hh:dN F ρ w h){x:V}(g:aT w (Av F ρ h) ρ x v):dG P F ρ w h N W (Instr.field t v f) (Tr.ofOpt ((vJ P t x f).map (·,[]))):=by
 refine .ofOpt λq b=>?_;cases a:vJ P t x f with
 |none=>simp[a]at b
 |some y=>
  simp[a]at b;subst b;unfold vJ at a;split at a
  case h_2=>simp at a
  rename_i l;split at a
  case h_2=>simp at a
  rename_i o u j;obtain⟨z,m,e⟩:=g;simp at e;subst e;obtain⟨B,C,i,n,c,D,E,rfl,rfl⟩:=uG j;obtain⟨r,p,s⟩:=qo (w:=w) m a;exact⟨r,w,by simp[Instr.field,run_underlying n,c,asAgg,p],bQ.pure hh s⟩
def Ab:List I->List I
 |[]=>[]
 |i::r=>match i with
  | .d (.ar n e) l=>((fo n).map λj=>jL e (l.getD j e.df)).flatten++Ab r
  |i=>i::Ab r
theorem BQ{w:World}{A:Nat->Prop}{ρ:Nat->Pl}{e:Ty}:∀{l:List e.den}{vs:List Value},dT (Rd w A e) l vs->aP w A ρ (l.map (jL e)).flatten vs
 |[],_,h=>h
 |_::_,_,⟨a,b,c,f,g⟩=>by rw[c];exact aP.append (gq.2 f) (BQ g)
theorem Ac(d:α)(l:List α):(fo l.length).map (λj=>l.getD j d)=l:=by
 refine List.ext_getElem bY λi b a=>?_;rw[List.getElem_map,List.getElem_range,aw,an a];rfl
theorem BR{w:World}{A:Nat->Prop}{ρ:Nat->Pl}:∀{l:List I}{vs:List Value},aP w A ρ l vs->aP w A ρ (Ab l) vs
 |[],_,h=>h
 |i::r,_,⟨a,b,c,f,j⟩=>by
  have g:=BR j;unfold Ab;split
  ·rename_i n e l;obtain⟨m,o⟩:l.length=n/\dT (Rd w A e) l a:=f;rw[c];have:=BQ (ρ:=ρ) o;rw[<-Ac e.df l,m,List.map_map]at this;exact aP.append this g
  ·exact⟨a,b,c,f,g⟩
def Fo(P:Program)(e:TypeId)(n s:Nat)(l:List I)(j:Nat):Option V:=match l with
 |[.d (.ar a t) q]=>if a=n/\t.size=s/\t.agg=true/\fK P e=some true then some (.val true (jL t (q.getD j t.df)))else none
 |_=>none
theorem Fp{N:Nat}{l:List I}{y:V}(p:aP w A ρ l vs)(c:Fo P e n N l j=some y)(u:ll P e=some N)(G:j<n):
 ∃r,(part e vs.toArray (j*N)).run P w= .ok r w/\aT w A ρ y r:=by
 unfold Fo at c;split at c
 case h_2=>simp at c
 rename_i v t q;split at c
 case isFalse=>simp at c
 rename_i g;obtain⟨rfl,rfl,H,z⟩:=g;simp at c;subst c;obtain⟨a,b,f,B,o⟩:=p;have o:b=[]:=o;subst o;rw[aH]at f;subst f;obtain⟨J,C⟩:q.length=v/\dT (Rd w A t) q vs:=B;have m:j<q.length:=ac
 obtain⟨D,K⟩:=dT.get (λx L E=>Rd.length E) (i:=j) (x:=q[j]) C (an m);refine⟨.agg ((vs.drop (j*t.size)).take t.size).toArray,by simp[part,fB z,cg u],_,gq.2 ?_,rfl⟩;rw[an m];exact D
def rO(P:Program)(t:TypeId)(x i:V):Tr (V×eD):=
 match x,DE P t with
 | .val true l,some (n,e)=>match ll P e with
   |some s=>match i.nat? with
    |some j=>if j<n then Tr.ofOpt ((rN P e (Ab l) (j*s)).map (·,[]))else .stuck
    |none=>match i.int? with
     |some j=>match Fo P e n s l j.toNat with
      |some y=> .need (0<=j/\j<(n:Int)) (.leaf (y,[]))
      |none=>jm j (λq=>Tr.ofOpt ((rN P e (Ab l) (q*s)).map (·,[]))) n 0
     |none=> .stuck
   |none=> .stuck
 |_,_=> .stuck
theorem vL(hh:dN F ρ w h){x i:V}(H:aT w (Av F ρ h) ρ x v)(hi:aT w (Av F ρ h) ρ i u):dG P F ρ w h N W (Instr.index t v u) (rO P t x i):=by
 unfold rO;split
 case h_2=>exact .stuck
 rename_i l n e a;split
 case h_2=>exact .stuck
 rename_i s m;obtain⟨J,f,E⟩:=H;simp at E;subst E;have K:=f;replace f:=BR f;generalize Ab l=G at*
 have go:∀(j:Nat)(c:IntKind),j<n->dG P F ρ w h N W (Instr.index t (.agg J.toArray) (.int c (j:Int))) (Tr.ofOpt ((rN P e G (j*s)).map (·,[]))):=by
  intro j c b;refine .ofOpt λq o=>?_;cases p:rN P e G (j*s)with
  |none=>simp[p]at o
  |some y=>
   simp[p]at o;subst o;obtain⟨r,g,z⟩:=qo (w:=w) f p;exact⟨r,w,by simp[Instr.index,asIntOf,run_underlying (mI a),b,cg m,g],bQ.pure hh z⟩
 split
 ·rename_i j B;obtain⟨c,rfl⟩:=BP B hi;split
  case isFalse=>exact .stuck
  exact go j c ‹_›
 ·split
  case h_2=>exact .stuck
  rename_i j B;obtain⟨c,rfl⟩:=kw B hi;split
  ·rename_i y L;intro R C;obtain⟨⟨S,U⟩,M⟩:=C;obtain⟨r,g,z⟩:=Fp (w:=w) (A:=Av F ρ h) K L m ac;refine⟨r,w,(y,[]),?_,M,bQ.pure hh z⟩;obtain⟨D,rfl⟩:∃D:Nat,j=D:=⟨j.toNat,ac⟩;have b:D<n:=ac
   rw[aG]at g;simp[Instr.index,asIntOf,run_underlying (mI a),b,cg m,g]
  ·intro R C;obtain⟨q,X,O,Q⟩:=lD C;rw[O];exact go q c ac R Q
end
end
end Go.Hv
