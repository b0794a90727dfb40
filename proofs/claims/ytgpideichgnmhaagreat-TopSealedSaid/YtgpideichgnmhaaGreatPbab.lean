/- A part of the proof of TopSealedSaid: no conditions; packed by a program of our own. -/
import Derived.Below
import Derived.Orders
import Derived.KernelRfl
import Derived.Laws.StructEq
import Derived.Laws.BytesString
import Derived.Laws.Tables
import Derived.Laws.Slices
import Derived.Laws.Cells
import Derived.Laws.MakeOwn
import Derived.Laws.CopyOwn
import Derived.Laws.AppendOwn
import Derived.Laws.BytesArg
import Derived.Laws.Cover3
open BitVec renaming ofInt→bi
open Bool renaming eq_iff_iff→mi,and_eq_true→aI,false_eq_true→cu
open Go.Instr renaming sureAddr→rY
open Go.IntKind renaming wrap_i64→dm
open Go.Result renaming ok→og,andThen_ok→aX
open Go.Sem renaming run_pure→bA,run_bind→bF
open Go.Value renaming int→gj,oneCell'→dH
open Go.World renaming size_alloc→dX
open Int renaming toNat_natCast→aF,toNat_of_nonneg→pz,eq_ofNat_of_zero_le→bR
open List renaming map_cons→aY,replicate→ak,length_append→aa,length_cons→ba,append_assoc→ay,mem_append→bb,drop_of_length_le→bC,nil_append→eS,take_of_length_le→bf,append_nil→aW,mem_cons→bt,getElem?_eq_getElem→ap,getD→bB,getElem?_take_of_lt→iF,getElem?_drop→iO,getElem?_append_left→bU,getElem?_append_right→aU,drop_drop→jz,take_append_drop→dI,length_take→be,length→ah,range→kz,getD_eq_getElem?_getD→aw
open Nat renaming min_eq_left→eB,lt_of_lt_of_le→bu,add_comm→eJ,le_refl→aD,le_trans→bq,zero_add→bN,zero_le→aq,add_assoc→eO
open Option renaming map_eq_some_iff→mj
open UInt8 renaming ofBitVec→iE
namespace Go
abbrev ai:=@decide_eq_true_eq
abbrev aj:=@decide_eq_false_iff_not
abbrev ag:=@of_decide_eq_true
abbrev an:=@of_decide_eq_false
abbrev az:=@beq_eq_false_iff_ne
abbrev aE:=@ne_of_beq_false
abbrev aR:=@beq_iff_eq
abbrev aZ:=@eq_of_beq
abbrev af:=@if_neg
abbrev am:=@if_pos
abbrev aH:=@congrArg
end Go
namespace Go.Hv
open Go.RowKit
section
abbrev Bs:=List (BitVec 8)
inductive Sc where
 |bool (b:Bool)
 |i64 (n:Int)
 |i32 (n:Int)
 |u8 (x:BitVec 8)
 |u64 (x:BitVec 64)
 |str (s:List (BitVec 8))
def cm(x:BitVec 8):Value:= .int .u8 (x.toNat:Int)
def jC(x:BitVec 64):Value:= .int .u64 (x.toNat:Int)
def bH(s:List (BitVec 8)):ByteArray:=⟨(s.map iE).toArray⟩
def Sc.val:Sc->Value
 | .bool b=> .bool b
 | .i64 n=> .int .i64 n
 | .i32 n=> .int .i32 n
 | .u8 x=>cm x
 | .u64 x=>jC x
 | .str s=> .string (bH s)
def Iy{n:Nat}(a:BinOp)(x y:BitVec n)(mk:BitVec n->Sc):Option Sc:=
 match a with
 | .add=>some (mk (x+y))
 | .sub=>some (mk (x-y))
 | .mul=>some (mk (x*y))
 | .quo=>if y.toNat=0 then none else some (mk (x/y))
 | .rem=>if y.toNat=0 then none else some (mk (x % y))
 | .and=>some (mk (x&&&y))
 | .or=>some (mk (x|||y))
 | .xor=>some (mk (x^^^y))
 | .andNot=>some (mk (x&&& ~~~y))
 | .eql=>some (.bool (x==y))
 | .neq=>some (.bool (!(x==y)))
 | .lss=>some (.bool (decide (x.toNat<y.toNat)))
 | .leq=>some (.bool (decide (x.toNat<=y.toNat)))
 | .gtr=>some (.bool (decide (y.toNat<x.toNat)))
 | .geq=>some (.bool (decide (y.toNat<=x.toNat)))
 |_=>none
def ua{n:Nat}(a:BinOp)(x:BitVec n)(m:Nat)(mk:BitVec n->Sc):Option Sc:=
 match a with
 | .shl=>some (mk (x<<<m))
 | .shr=>some (mk (x>>>m))
 |_=>none
def Iz(k:IntKind)(mk:Int->Sc)(a:BinOp)(x y:Int):Option Sc:=
 match a with
 | .add=>some (mk (k.wrap (x+y)))
 | .sub=>some (mk (k.wrap (x-y)))
 | .mul=>some (mk (k.wrap (x*y)))
 | .quo=>if y=0 then none else some (mk (k.wrap (x.tdiv y)))
 | .rem=>if y=0 then none else some (mk (x.tmod y))
 | .and=>some (mk (bits .and k x y))
 | .or=>some (mk (bits .or k x y))
 | .xor=>some (mk (bits .xor k x y))
 | .andNot=>some (mk (bits .andNot k x y))
 | .eql=>some (.bool (x==y))
 | .neq=>some (.bool (!(x==y)))
 | .lss=>some (.bool (decide (x<y)))
 | .leq=>some (.bool (decide (x<=y)))
 | .gtr=>some (.bool (decide (y<x)))
 | .geq=>some (.bool (decide (y<=x)))
 |_=>none
def ye(a:BinOp)(x:Int)(m:Nat):Option Sc:=
 match a with
 | .shl=>some (.i64 (IntKind.i64.wrap (x*2^(min m 64))))
 | .shr=>some (.i64 (x.fdiv (2^(min m 64))))
 |_=>none
def yf:Sc->Option (Bool×Nat)
 | .i64 n=>some (decide (0<=n),n.toNat)
 | .u8 x=>some (true,x.toNat)
 | .u64 x=>some (true,x.toNat)
 |_=>none
def gV:BinOp->Bool
 | .shl| .shr=>true
 |_=>false
def Dy(P:Program)(c:BinOp)(t:TypeId)(x y:Sc):Option (Bool×Sc):=
 if gV c then
  match yf y with
  |none=>none
  |some m=>
   match x with
   | .i64 a=>(ye c a m.2).map λz=>(m.1,z)
   | .u8 a=>(ua c a m.2 .u8).map λz=>(m.1,z)
   | .u64 a=>(ua c a m.2 .u64).map λz=>(m.1,z)
   |_=>none
 else
  match x,y with
  | .i64 a, .i64 b=>(Iz .i64 .i64 c a b).map λz=>(true,z)
  | .i32 a, .i32 b=>(Iz .i32 .i32 c a b).map λz=>(true,z)
  | .u8 a, .u8 b=>(Iy c a b .u8).map λz=>(true,z)
  | .u64 a, .u64 b=>(Iy c a b .u64).map λz=>(true,z)
  | .bool a, .bool b=>
    match P.underlying t,c with
    |some .bool, .eql=>some (true, .bool (a==b))
    |some .bool, .neq=>some (true, .bool (!(a==b)))
    |_,_=>none
  | .str a, .str b=>
    match c with
    | .eql=>some (true, .bool (a==b))
    | .neq=>some (true, .bool (!(a==b)))
    |_=>none
  |_,_=>none
def gn(x:Sc):Option (List Value):=some [x.val]
section
variable{k:IntKind}
theorem Dz(a:k.signed=false)(n:Int):k.wrap n=n % (2^k.bits:Int):=by simp[IntKind.wrap,a]
theorem hY(a:k.signed=false)(n:Nat):k.wrap (n:Int)=((n % 2^k.bits:Nat):Int):=by rw[Dz a];simp
theorem ik(a:k.signed=false){n:Nat}(h:n<2^k.bits):k.wrap (n:Int)=(n:Int):=by rw[hY a,Nat.mod_eq_of_lt h]
theorem qk(g:k.signed=false){P:Program}(w:World)(t:TypeId)(j:BinOp)(x y:BitVec k.bits)(mk:BitVec k.bits->Sc)(z:Sc)(m:gV j=false)
 (b:∀a,gn (mk a)=some [.int k (a.toNat:Int)]) (h:Iy j x y mk=some z):
 ∃v,(binOp j t (.int k (x.toNat:Int)) (.int k (y.toNat:Int))).run P w= .ok v w/\gn z=some [v]:=by
 have n:=x.isLt;have o:=y.isLt;have c:bi k.bits (x.toNat:Int)=x:=by simp
 have f:bi k.bits (y.toNat:Int)=y:=by simp
 cases j<;>simp only[Iy,Option.some.injEq]at h<;>simp only[gV]at m
 case add=>
  subst h;refine⟨_,by rw[binOp_add];rfl,?_⟩;rw[b,BitVec.toNat_add,<-Int.natCast_add,hY g]
 case sub=>
  subst h;refine⟨_,by rw[binOp_sub];rfl,?_⟩;rw[b,BitVec.toNat_sub,Dz g]
  congr 3
  have:((2^k.bits-y.toNat+x.toNat:Nat):Int)=((x.toNat:Int)-y.toNat)+((2^k.bits:Nat):Int):=by omega
  rw[Int.natCast_emod,this];simp
 case mul=>
  subst h;refine⟨_,by rw[binOp_mul];rfl,?_⟩;rw[b,BitVec.toNat_mul,<-Int.natCast_mul,hY g]
 case quo=>
  split at h<;>simp at h;rename_i l;subst h;have i:¬((y.toNat:Int)=0):=by omega
  refine⟨.int k (k.wrap ((x.toNat:Int).tdiv (y.toNat:Int))),by rw[binOp_quo];simp only[Op.intDiv,i,if_false,bA],?_⟩;rw[b,BitVec.toNat_udiv,<-Int.ofNat_tdiv,ik g (Nat.lt_of_le_of_lt (Nat.div_le_self _ _) n)]
 case rem=>
  split at h<;>simp at h;rename_i l;subst h;have i:¬((y.toNat:Int)=0):=by omega
  refine⟨.int k ((x.toNat:Int).tmod (y.toNat:Int)),by rw[binOp_rem];simp only[Op.intDiv,i,if_false,bA],?_⟩;rw[b,BitVec.toNat_umod,<-Int.ofNat_tmod]
 case and=>
  subst h;refine⟨_,by rw[binOp_and];rfl,?_⟩;rw[b,c,f,ik g (BitVec.isLt _)]
 case or=>
  subst h;refine⟨_,by rw[binOp_or];rfl,?_⟩;rw[b,c,f,ik g (BitVec.isLt _)]
 case xor=>
  subst h;refine⟨_,by rw[binOp_xor];rfl,?_⟩;rw[b,c,f,ik g (BitVec.isLt _)]
 case andNot=>
  subst h;refine⟨_,by rw[binOp_andNot];rfl,?_⟩;rw[b,c,f,ik g (BitVec.isLt _)]
 case eql=>
  subst h;refine⟨_,by rw[binOp_eql];rfl,?_⟩;simp only[gn,Sc.val,Option.some.injEq,List.cons.injEq,and_true,Value.bool.injEq];rw[mi];simp only[aR];exact⟨λe=>by rw[e],λe=>BitVec.eq_of_toNat_eq (by omega)⟩
 case neq=>
  subst h;refine⟨_,by rw[binOp_neq];rfl,?_⟩;simp only[gn,Sc.val,Option.some.injEq,List.cons.injEq,and_true,Value.bool.injEq,bne]
  congr 1
  rw[mi];simp only[aR];exact⟨λe=>by rw[e],λe=>BitVec.eq_of_toNat_eq (by omega)⟩
 case lss=>subst h;exact⟨_,by rw[binOp_lss];rfl,by simp[gn,Sc.val]⟩
 case leq=>subst h;exact⟨_,by rw[binOp_leq];rfl,by simp[gn,Sc.val]⟩
 case gtr=>subst h;exact⟨_,by rw[binOp_gtr];rfl,by simp[gn,Sc.val]⟩
 case geq=>subst h;exact⟨_,by rw[binOp_geq];rfl,by simp[gn,Sc.val]⟩
 all_goals (simp at m h)
theorem np(i:k.signed=false){P:Program}(w:World)(t:TypeId)(e:BinOp)(x:BitVec k.bits)(j:IntKind)(y:Int)(m:Nat)(l:y=(m:Int))(mk:BitVec k.bits->Sc)(z:Sc)
 (c:∀a,gn (mk a)=some [.int k (a.toNat:Int)]) (h:ua e x m mk=some z):
 ∃v,(binOp e t (.int k (x.toNat:Int)) (.int j y)).run P w= .ok v w/\gn z=some [v]:=by
 subst l;have f:=x.isLt;have g:¬((m:Int)<0):=by omega
 cases e<;>simp only[ua,Option.some.injEq]at h<;>first|(simp at h;done)|skip
 case shl=>
  subst h;refine⟨.int k (k.wrap ((x.toNat:Int)*2^(min m k.bits))),by rw[binOp_shl];simp only[Op.shift,g,if_false,aF,bA],?_⟩;have n:(x.toNat:Int)*2^(min m k.bits)=((x.toNat*2^(min m k.bits):Nat):Int):=by simp
  rw[c,n,hY i,BitVec.toNat_shiftLeft,Nat.shiftLeft_eq]
  congr 3
  rcases Nat.le_total m k.bits with b|b
  ·rw[eB b]
  ·rw[Nat.min_eq_right b];obtain⟨d,rfl⟩:=Nat.exists_eq_add_of_le b;rw[Nat.pow_add,<-Nat.mul_assoc,Nat.mul_right_comm,Nat.mul_mod_left,Nat.mul_mod_left]
 case shr=>
  subst h;refine⟨.int k ((x.toNat:Int).fdiv (2^(min m k.bits))),by rw[binOp_shr];simp only[Op.shift,g,if_false,aF,bA],?_⟩;rw[c,BitVec.toNat_ushiftRight,Nat.shiftRight_eq_div_pow]
  congr 3
  rw[Int.fdiv_eq_ediv_of_nonneg _ (Int.pow_nonneg (by decide))];rcases Nat.le_total m k.bits with b|b
  ·rw[eB b];simp
  ·rw[Nat.min_eq_right b];have o:x.toNat/2^k.bits=0:=Nat.div_eq_of_lt f;have p:x.toNat/2^m=0:=Nat.div_eq_of_lt (bu f (Nat.pow_le_pow_right (by decide) b));rw[p];have:(x.toNat:Int)/(2^k.bits)=((x.toNat/2^k.bits:Nat):Int):=by simp
   rw[this,o]
end
theorem ql{P:Program}(w:World)(t:TypeId)(k:IntKind)(mk:Int->Sc)(a:∀n,(mk n).val= .int k n)(c:BinOp)(x y:Int)(z:Sc)(e:gV c=false)(h:Iz k mk c x y=some z):
 ∃v,(binOp c t (.int k x) (.int k y)).run P w= .ok v w/\z.val=v:=by
 cases c<;>simp only[Iz,Option.some.injEq]at h<;>simp only[gV]at e
 case add=>subst h;exact⟨_,by rw[binOp_add];rfl,a _⟩
 case sub=>subst h;exact⟨_,by rw[binOp_sub];rfl,a _⟩
 case mul=>subst h;exact⟨_,by rw[binOp_mul];rfl,a _⟩
 case quo=>
  split at h<;>simp at h;rename_i b;subst h;exact⟨.int k (k.wrap (x.tdiv y)),by rw[binOp_quo];simp only[Op.intDiv,b,if_false,bA],a _⟩
 case rem=>
  split at h<;>simp at h;rename_i b;subst h;exact⟨.int k (x.tmod y),by rw[binOp_rem];simp only[Op.intDiv,b,if_false,bA],a _⟩
 case and=>subst h;exact⟨_,by rw[binOp_and];rfl,a _⟩
 case or=>subst h;exact⟨_,by rw[binOp_or];rfl,a _⟩
 case xor=>subst h;exact⟨_,by rw[binOp_xor];rfl,a _⟩
 case andNot=>subst h;exact⟨_,by rw[binOp_andNot];rfl,a _⟩
 case eql=>subst h;exact⟨_,by rw[binOp_eql];rfl,rfl⟩
 case neq=>subst h;exact⟨_,by rw[binOp_neq];rfl,rfl⟩
 case lss=>subst h;exact⟨_,by rw[binOp_lss];rfl,by simp[Sc.val]⟩
 case leq=>subst h;exact⟨_,by rw[binOp_leq];rfl,by simp[Sc.val]⟩
 case gtr=>subst h;exact⟨_,by rw[binOp_gtr];rfl,by simp[Sc.val]⟩
 case geq=>subst h;exact⟨_,by rw[binOp_geq];rfl,by simp[Sc.val]⟩
 all_goals (simp at e h)
theorem ub{P:Program}(w:World)(t:TypeId)(a:BinOp)(x:Int)(c:IntKind)(y:Int)(m:Nat)(e:y=(m:Int))(z:Sc)(h:ye a x m=some z):
 ∃v,(binOp a t (.int .i64 x) (.int c y)).run P w= .ok v w/\gn z=some [v]:=by
 subst e;have b:¬((m:Int)<0):=by omega
 cases a<;>simp only[ye,Option.some.injEq]at h<;>first|(simp at h;done)|skip
 case shl=>subst h;exact⟨_,by rw[binOp_shl];simp only[Op.shift,b,if_false,aF,bA];rfl,rfl⟩
 case shr=>subst h;exact⟨_,by rw[binOp_shr];simp only[Op.shift,b,if_false,aF,bA];rfl,rfl⟩
theorem BO{y:Sc}{m:Bool×Nat}(h:yf y=some m)(a:m.1=true):∃b n,y.val= .int b n/\n=(m.2:Int):=by
 cases y<;>simp only[yf,Option.some.injEq]at h<;>first|(simp at h;done)|skip
 case i64 n=>
  subst h;simp at a;exact⟨.i64,n,rfl,by simp;omega⟩
 case u8 x=>subst h;exact⟨.u8,_,rfl,rfl⟩
 case u64 x=>subst h;exact⟨.u64,_,rfl,rfl⟩
theorem nq(s:List (BitVec 8)):(bH s).toList=s.map iE:=by
 rw[ByteArray.toList_eq];simp[bH]
theorem jh:∀{a b:List (BitVec 8)},a.map iE=b.map iE->a=b
 |[],[],_=>rfl
 |[],_::_,h=>by simp at h
 |_::_,[],h=>by simp at h
 |x::a,y::b,h=>by
  simp only[aY,List.cons.injEq]at h;have c:x=y:=by have:=aH UInt8.toBitVec h.1;simpa using this
  rw[c,jh h.2]
theorem uc(a b:List (BitVec 8)):((bH a).toList==(bH b).toList)=(a==b):=by
 rw[nq,nq,mi];simp only[aR];exact⟨jh,λh=>by rw[h]⟩
def vR:Value->Bool
 | .int .. | .bool _| .string _=>true
 |_=>false
theorem mo{v u:Value}(h:vR v=true)(a:BinOp)(t:TypeId)(x y:Operand):eqGuard a t x y v u=pure ():=by
 cases v<;>simp[vR]at h
 ·exact eqGuard_at_bool a t x y u _
 ·exact eqGuard_at_int a t x y u _ _
 ·exact eqGuard_at_string a t x y u _
theorem qm{P:Program}(w:World)(g:BinOp)(t:TypeId)(ex ey:Operand)(x y z:Sc)(c:Bool)(h:Dy P g t x y=some (c,z))(D:c=true):
 (do eqGuard g t ex ey x.val y.val;binOp g t x.val y.val:Sem Value).run P w= .ok z.val w:=by
 have e:((binOp g t x.val y.val).run P w= .ok z.val w)->
  (do eqGuard g t ex ey x.val y.val;binOp g t x.val y.val:Sem Value).run P w= .ok z.val w:=by
  intro o;rw[mo (by cases x<;>rfl)];simpa using o
 have f:∀{s:Sem Value}{z:Sc},(∃v,s.run P w= .ok v w/\gn z=some [v])->s.run P w= .ok z.val w:=by
  rintro s z ⟨v,o,p⟩;simp only[gn,Option.some.injEq,List.cons.injEq,and_true]at p;rw[o,p]
 have i:∀{s:Sem Value}{z:Sc},(∃v,s.run P w= .ok v w/\z.val=v)->s.run P w= .ok z.val w:=by
  rintro s z ⟨v,o,p⟩;rw[o,p]
 unfold Dy at h;split at h
 ·rename_i C;split at h
  ·simp at h
  ·rename_i m E;cases x<;>simp only[mj,Prod.mk.injEq]at h<;>first|(simp at h;done)|skip
   all_goals
    obtain⟨q,j,rfl,rfl⟩:=h;obtain⟨r,n,u,A⟩:=BO E D;rw[u]at e⊢;refine e (f ?_)
   ·exact ub w t g _ r n m.2 A _ j
   ·exact np (k:= .u8) rfl w t g _ r n m.2 A .u8 _ (λ_=>rfl) j
   ·exact np (k:= .u64) rfl w t g _ r n m.2 A .u64 _ (λ_=>rfl) j
 ·rename_i C;have l:gV g=false:=by simpa using C
  split at h
  ·obtain⟨q,j,h⟩:=mj.1 h;simp only[Prod.mk.injEq]at h;obtain⟨rfl,rfl⟩:=h;exact e (i (ql w t .i64 .i64 (λ_=>rfl) g _ _ _ l j))
  ·obtain⟨q,j,h⟩:=mj.1 h;simp only[Prod.mk.injEq]at h;obtain⟨rfl,rfl⟩:=h;exact e (i (ql w t .i32 .i32 (λ_=>rfl) g _ _ _ l j))
  ·obtain⟨q,j,h⟩:=mj.1 h;simp only[Prod.mk.injEq]at h;obtain⟨rfl,rfl⟩:=h;exact e (f (qk (k:= .u8) rfl w t g _ _ .u8 _ l (λ_=>rfl) j))
  ·obtain⟨q,j,h⟩:=mj.1 h;simp only[Prod.mk.injEq]at h;obtain⟨rfl,rfl⟩:=h;exact e (f (qk (k:= .u64) rfl w t g _ _ .u64 _ l (λ_=>rfl) j))
  ·rename_i a b;split at h<;>first|(simp at h;done)|(simp only[Option.some.injEq,Prod.mk.injEq]at h)
   ·rename_i B;obtain⟨_,rfl⟩:=h;refine e ?_;simp[Sc.val,binOp,run_equal_bool w t a b B]
   ·rename_i B;obtain⟨_,rfl⟩:=h;refine e ?_;simp[Sc.val,binOp,run_equal_bool w t a b B]
  ·rename_i a b;split at h<;>first|(simp at h;done)|(simp only[Option.some.injEq,Prod.mk.injEq]at h)
   ·obtain⟨_,rfl⟩:=h;refine e ?_;simp only[Sc.val,binOp,Op.stringOp,bA,uc]
   ·obtain⟨_,rfl⟩:=h;refine e ?_;simp only[Sc.val,binOp,Op.stringOp,bA,uc]
  ·simp at h
def sun(a:UnOp)(x:Sc):Option Sc:=
 match a,x with
 | .not, .bool b=>some (.bool (!b))
 | .neg, .i64 n=>some (.i64 (IntKind.i64.wrap (0-n)))
 |_,_=>none
theorem BP{P:Program}(w:World)(a:UnOp)(x z:Sc)(h:sun a x=some z):(Op.unary a x.val).run P w= .ok z.val w:=by
 unfold sun at h;split at h<;>first|(simp at h;done)|skip
 all_goals (simp only[Option.some.injEq]at h;subst h;rfl)
def zL(dst:IntKind)(x:Sc):Option Sc:=
 match dst,x with
 | .i64, .i64 n=>some (.i64 (IntKind.i64.wrap n))
 | .i64, .i32 n=>some (.i64 (IntKind.i64.wrap n))
 | .i64, .u8 x=>some (.i64 (x.toNat:Int))
 | .i64, .u64 x=>some (.i64 (IntKind.i64.wrap (x.toNat:Int)))
 | .i32, .i64 n=>some (.i32 (IntKind.i32.wrap n))
 | .i32, .i32 n=>some (.i32 (IntKind.i32.wrap n))
 | .u8, .i64 n=>some (.u8 (bi 8 n))
 | .u8, .u8 x=>some (.u8 x)
 | .u8, .u64 x=>some (.u8 (x.setWidth 8))
 | .u64, .i64 n=>some (.u64 (bi 64 n))
 | .u64, .u8 x=>some (.u64 (x.setWidth 64))
 | .u64, .u64 x=>some (.u64 x)
 |_,_=>none
theorem qn{n:Nat}(h:n<9223372036854775808):IntKind.i64.wrap (n:Int)=n:=by
 rw[dm];omega
theorem oV{k:IntKind}(a:k.signed=false)(n:Int):k.wrap n=((bi k.bits n).toNat:Int):=by
 rw[Dz a,BitVec.toNat_ofInt];rw[pz (Int.emod_nonneg _ (by have:=Nat.two_pow_pos k.bits;omega))];simp
theorem vS{P:Program}(w:World)(dst:IntKind)(x z:Sc)(h:zL dst x=some z):
 ∃k n,x.val= .int k n/\(Conv.intToInt dst n).run P w= .ok z.val w:=by
 unfold zL at h;split at h<;>first|(simp at h;done)|skip
 all_goals
  simp only[Option.some.injEq]at h;subst h;refine⟨_,_,rfl,?_⟩
 case h_1=>rfl
 case h_2=>rfl
 case h_3 x=>have:=x.isLt;show og (gj .i64 (IntKind.i64.wrap (x.toNat:Int))) w=_;rw[qn (by omega)];rfl
 case h_4=>rfl
 case h_5=>rfl
 case h_6=>rfl
 case h_7 n=>show og (gj .u8 (IntKind.u8.wrap n)) w=_;rw[oV (k:= .u8) rfl];rfl
 case h_8 x=>show og (gj .u8 (IntKind.u8.wrap (x.toNat:Int))) w=_;rw[ik (k:= .u8) rfl x.isLt];rfl
 case h_9 x=>show og (gj .u8 (IntKind.u8.wrap (x.toNat:Int))) w=_;rw[hY (k:= .u8) rfl];simp only[Sc.val,cm,BitVec.toNat_setWidth];rfl
 case h_10 n=>show og (gj .u64 (IntKind.u64.wrap n)) w=_;rw[oV (k:= .u64) rfl];rfl
 case h_11 x=>show og (gj .u64 (IntKind.u64.wrap (x.toNat:Int))) w=_;rw[hY (k:= .u64) rfl];simp only[Sc.val,jC,BitVec.toNat_setWidth];rfl
 case h_12 x=>show og (gj .u64 (IntKind.u64.wrap (x.toNat:Int))) w=_;rw[ik (k:= .u64) rfl x.isLt];rfl
def Qo:Value->Option Sc
 | .bool b=>some (.bool b)
 | .int .i64 n=>some (.i64 n)
 | .int .i32 n=>some (.i32 n)
 | .int .u8 n=>if 0<=n/\n<256 then some (.u8 (bi 8 n))else none
 | .int .u64 n=>if 0<=n/\n<18446744073709551616 then some (.u64 (bi 64 n))else none
 | .string s=>some (.str (s.data.toList.map (·.toBitVec)))
 |_=>none
theorem IA{v:Value}{x:Sc}(h:Qo v=some x):v=x.val:=by
 unfold Qo at h;split at h<;>first|(simp at h;done)|skip
 ·simp at h;subst h;rfl
 ·simp at h;subst h;rfl
 ·simp at h;subst h;rfl
 ·split at h<;>simp at h;rename_i n a;subst h;simp only[Sc.val,cm,BitVec.toNat_ofInt]
  congr 1
  omega
 ·split at h<;>simp at h;rename_i n a;subst h;simp only[Sc.val,jC,BitVec.toNat_ofInt]
  congr 1
  omega
 ·rename_i s;simp at h;subst h;simp only[Sc.val,bH]
  congr 1
  cases s with
  |mk d=>
   congr 1
   apply Array.ext';simp[List.map_map,Function.comp_def]
end
inductive Ty where
 |bl
 |i64
 |i32
 |u8
 |u64
 |st
 |sl (e:Ty)
 |ar (n:Nat) (e:Ty)
 |un
 |pr (a r:Ty)
 |pf (t:Ty)
 |fm (k v:Ty)
 |yl
@[reducible]def Ty.den:Ty->Type
  | .bl=>Bool
  | .i64=>Int
  | .i32=>Int
  | .u8=>BitVec 8
  | .u64=>BitVec 64
  | .st=>List (BitVec 8)
  | .sl e=>List e.den
  | .ar _ e=>List e.den
  | .un=>Unit
  | .pr a r=>a.den×r.den
  | .pf t=>t.den
  | .fm k v=>List (k.den×v.den)
  | .yl=>Nat
def Ty.size:Ty->Nat
 | .bl=>1
 | .i64=>1
 | .i32=>1
 | .u8=>1
 | .u64=>1
 | .st=>1
 | .sl _=>1
 | .ar n e=>n*e.size
 | .un=>0
 | .pr a r=>a.size+r.size
 | .pf _=>1
 | .fm .. =>1
 | .yl=>1
def Ty.df:(t:Ty)->t.den
 | .bl=>false
 | .i64=>(0:Int)
 | .i32=>(0:Int)
 | .u8=>(0:BitVec 8)
 | .u64=>(0:BitVec 64)
 | .st=>([]:List (BitVec 8))
 | .sl _=>[]
 | .ar n e=>ak n e.df
 | .un=>()
 | .pr a r=>(a.df,r.df)
 | .pf t=>t.df
 | .fm .. =>[]
 | .yl=>(0:Nat)
def Ty.deq:(a b:Ty)->Option (PLift (a=b))
 | .bl, .bl=>some ⟨rfl⟩
 | .i64, .i64=>some ⟨rfl⟩
 | .i32, .i32=>some ⟨rfl⟩
 | .u8, .u8=>some ⟨rfl⟩
 | .u64, .u64=>some ⟨rfl⟩
 | .st, .st=>some ⟨rfl⟩
 | .yl, .yl=>some ⟨rfl⟩
 | .un, .un=>some ⟨rfl⟩
 | .sl e, .sl f=>match Ty.deq e f with
   |some h=>some ⟨h.down▸rfl⟩
   |none=>none
 | .ar n e, .ar m f=>match Ty.deq e f,Nat.decEq n m with
   |some h, .isTrue g=>some ⟨h.down▸g▸rfl⟩
   |_,_=>none
 | .pr a r, .pr c q=>match Ty.deq a c,Ty.deq r q with
   |some h,some g=>some ⟨h.down▸g.down▸rfl⟩
   |_,_=>none
 | .pf e, .pf f=>match Ty.deq e f with
   |some h=>some ⟨h.down▸rfl⟩
   |none=>none
 | .fm a r, .fm c q=>match Ty.deq a c,Ty.deq r q with
   |some h,some g=>some ⟨h.down▸g.down▸rfl⟩
   |_,_=>none
 |_,_=>none
def Ty.cast(a b:Ty)(x:a.den):Option b.den:=
 match Ty.deq a b with
 |some h=>some (h.down▸x)
 |none=>none
theorem Ty.cast_ok{a b:Ty}{x:a.den}{y:b.den}(h:Ty.cast a b x=some y):∃e:a=b,y=e▸x:=by
 unfold Ty.cast at h;split at h
 ·rename_i q _;simp at h;exact⟨q.down,h.symm⟩
 ·simp at h
def Ty.agg:Ty->Bool
 | .ar .. =>true
 | .un=>true
 | .pr .. =>true
 |_=>false
def F2{α β:Type}(R:α->β->Prop):List α->List β->Prop
 |[],[]=>True
 |a::l,b::m=>R a b/\F2 R l m
 |_,_=>False
theorem F2.imp{α β:Type}{R S:α->β->Prop}(h:∀a b,R a b->S a b):∀{l:List α}{m:List β},F2 R l m->F2 S l m
 |[],[],_=>trivial
 |_::_,_::_,⟨a,b⟩=>⟨h _ _ a,F2.imp h b⟩
theorem F2.length{α β:Type}{R:α->β->Prop}:∀{l:List α}{m:List β},F2 R l m->l.length=m.length
 |[],[],_=>rfl
 |_::_,_::_,⟨_,b⟩=>aH (·+1) (F2.length b)
theorem F2.get{α β:Type}{R:α->β->Prop}:∀{l:List α}{m:List β},F2 R l m->∀{i:Nat}{a:α},l[i]?=some a->∃b,m[i]?=some b/\R a b
 |a::_,b::_,⟨h,_⟩,0,_,e=>by simp at e;subst e;exact⟨b,rfl,h⟩
 |_::_,_::_,⟨_,h⟩,i+1,_,e=>F2.get h (by simpa using e)
theorem F2.set{α β:Type}{R:α->β->Prop}:∀{l:List α}{m:List β},F2 R l m->∀(i:Nat){a:α}{b:β},R a b->F2 R (l.set i a) (m.set i b)
 |[],[],_,_,_,_,_=>trivial
 |_::_,_::_,⟨_,h⟩,0,_,_,r=>⟨r,h⟩
 |_::_,_::_,⟨c,h⟩,i+1,_,_,r=>⟨c,F2.set h i r⟩
theorem F2.append{α β:Type}{R:α->β->Prop}:∀{l:List α}{m:List β},F2 R l m->∀{l':List α}{c:List β},F2 R l' c->F2 R (l++l') (m++c)
 |[],[],_,_,_,h=>h
 |_::_,_::_,⟨a,b⟩,_,_,h=>⟨a,F2.append b h⟩
def dz{α:Type}(R:α->List Value->Prop):List α->List Value->Prop
 |[],c=>c=[]
 |x::l,c=>∃a b,c=a++b/\R x a/\dz R l b
def lW(w:World)(A:Nat->Prop){α:Type}(R:α->List Value->Prop)(l:List α)(v:Value):Prop:=
 (∃b c cap e,v= .slice (some ⟨b,c,none⟩) l.length cap/\l.length<=cap/\b<w.heap.size/\¬A b/\dz R l e/\∀i u,e[i]?=some u->w.cell? ⟨b,c+i,none⟩=some u)\/
 (l=[]/\∃a,v= .slice a 0 0)
def Vu(g:Bool){α:Type}(R:α->List Value->Prop)(x:α)(v:Value):Prop:=∃a,R x a/\(if g then v= .agg a.toArray else a=[v])
def IB(w:World)(c f:Bool){α β:Type}(R:α->List Value->Prop)(S:β->List Value->Prop)(l:List (α×β))(b:Nat):Prop:=
 ∃a clock,w.heap[b]?=some (.map a clock)/\F2 (λq e=>Vu c R q.1 e.key/\Vu f S q.2 e.val) l a.toList/\(a.toList.map (·.born)).Nodup/\(∀e∈a.toList,e.born<clock)/\(l.map (·.1)).Nodup
def Rd(w:World)(A:Nat->Prop):(t:Ty)->t.den->List Value->Prop
 | .bl,x,f=>f=[.bool x]
 | .i64,x,f=>f=[.int .i64 x]
 | .i32,x,f=>f=[.int .i32 x]
 | .u8,x,f=>f=[cm x]
 | .u64,x,f=>f=[jC x]
 | .st,x,f=>f=[.string (bH x)]
 | .sl e,l,f=>∃v,f=[v]/\lW w A (Rd w A e) l v
 | .ar n e,l,f=>l.length=n/\dz (Rd w A e) l f
 | .un,_,f=>f=[]
 | .yl,x,f=>f=[.func (.yield x) #[] #[]]
 | .pr a r,x,f=>∃c d,f=c++d/\Rd w A a x.1 c/\Rd w A r x.2 d
 | .pf t,x,f=>∃b g h,f=[.pointer (some ⟨b,g,none⟩)]/\b<w.heap.size/\¬A b/\Rd w A t x h/\∀i u,h[i]?=some u->w.cell? ⟨b,g+i,none⟩=some u
 | .fm k v,l,f=>∃b,f=[.map (some b)]/\b<w.heap.size/\¬A b/\IB w k.agg v.agg (Rd w A k) (Rd w A v) l b
theorem dz.length{α:Type}{R:α->List Value->Prop}{n:Nat}(c:∀x vs,R x vs->vs.length=n):∀{l:List α}{vs:List Value},dz R l vs->vs.length=l.length*n
 |[],vs,h=>by rw[h];simp
 |_::l,vs,⟨a,b,e,f,g⟩=>by rw[e,aa,c _ _ f,dz.length c g,ba,Nat.succ_mul,eJ]
theorem dz.imp{α:Type}{R S:α->List Value->Prop}(h:∀x vs,R x vs->S x vs):∀{l:List α}{vs:List Value},dz R l vs->dz S l vs
 |[],_,e=>e
 |_::_,_,⟨a,b,e,c,f⟩=>⟨a,b,e,h _ _ c,dz.imp h f⟩
theorem dz.append{α:Type}{R:α->List Value->Prop}:∀{l m:List α}{vs us:List Value},dz R l vs->dz R m us->dz R (l++m) (vs++us)
 |[],_,_,_,e,h=>by rw[e];exact h
 |_::_,_,_,us,⟨a,b,e,c,f⟩,h=>⟨a,b++us,by rw[e,ay],c,dz.append f h⟩
theorem dz.one{α:Type}{R:α->List Value->Prop}{x:α}{vs:List Value}(h:R x vs):dz R [x] vs:=⟨vs,[],by simp,h,rfl⟩
theorem dz.split{α:Type}{R:α->List Value->Prop}:∀{l m:List α}{vs:List Value},dz R (l++m) vs->∃a b,vs=a++b/\dz R l a/\dz R m b
 |[],_,vs,h=>⟨[],vs,rfl,rfl,h⟩
 |_::l,m,vs,⟨a,b,e,f,g⟩=>by
  obtain⟨c,d,i,j,n⟩:=dz.split (l:=l) g;exact⟨a++c,d,by rw[e,i,ay],⟨a,c,rfl,f,j⟩,n⟩
theorem dz.all{α:Type}{R:α->List Value->Prop}{p:Value->Prop}(f:∀x vs,R x vs->∀v∈vs,p v):∀{l:List α}{vs:List Value},dz R l vs->∀v∈vs,p v
 |[],_,e=>by rw[e];simp
 |_::_,_,⟨a,b,e,g,h⟩=>by
  intro v c;rw[e,bb]at c;rcases c with c|c
  ·exact f _ _ g v c
  ·exact dz.all f h v c
theorem Rd.length{w:World}{A:Nat->Prop}:∀{t:Ty}{x:t.den}{vs:List Value},Rd w A t x vs->vs.length=t.size:=by
 intro t
 induction t with
 |bl|i64|i32|u8|u64|st|yl=>intro x vs h;simp only[Rd]at h;rw[h];rfl
 |sl e=>intro x vs ⟨v,h,_⟩;rw[h];rfl
 |ar n e j=>intro x vs ⟨b,f⟩;rw[dz.length (λy l=>j (x:=y) (vs:=l)) f,b];rfl
 |un=>intro x vs h;simp only[Rd]at h;rw[h];rfl
 |pr a r g i=>intro x vs ⟨c,d,e,b,f⟩;rw[e,aa,g b,i f];rfl
 |pf t=>intro x vs ⟨_,_,_,h,_⟩;rw[h];rfl
 |fm=>intro x vs ⟨_,h,_⟩;rw[h];rfl
theorem Rd.one{w:World}{A:Nat->Prop}:∀{t:Ty}{x:t.den}{vs:List Value},Rd w A t x vs->∀v∈vs,v.oneCell'=true:=by
 intro t
 induction t with
 |bl|i64|i32|u8|u64|st|yl=>intro x vs h;simp only[Rd]at h;rw[h];intro v b;simp at b;subst b;rfl
 |sl e=>
  intro x vs ⟨v,h,f⟩;rw[h];intro u j;simp at j;subst j;rcases f with⟨_,_,_,_,rfl,_⟩|⟨_,_,rfl⟩<;>rfl
 |ar n e l=>intro x vs ⟨_,f⟩;exact dz.all (λy o h=>l h) f
 |un=>intro x vs h;simp only[Rd]at h;rw[h];simp
 |pr a r g i=>
  intro x vs ⟨c,d,e,m,f⟩ v b;rw[e,bb]at b;rcases b with b|b
  ·exact g m v b
  ·exact i f v b
 |pf t=>intro x vs ⟨_,_,_,h,_⟩ v b;rw[h]at b;simp at b;subst b;rfl
 |fm=>intro x vs ⟨_,h,_⟩ v b;rw[h]at b;simp at b;subst b;rfl
def LA:Obj->Bool
 | .loop _=>false
 | .deferred _=>false
 |_=>true
structure pB(w:World)(A:Nat->Prop)(w':World)(A':Nat->Prop):Prop where
 size:w.heap.size<=w'.heap.size
 same:∀b,b<w.heap.size->¬A b->∀o,w.heap[b]?=some o->LA o=true->w'.heap[b]?=some o
 av:∀b,b<w.heap.size->A' b->A b
theorem pB.refl(w:World)(A:Nat->Prop):pB w A w A:=⟨aD _,λ_ _ _ _ h _=>h,λ_ _ h=>h⟩
theorem pB.trans{w w' c:World}{A f e:Nat->Prop}(h:pB w A w' f)(h':pB w' f c e):pB w A c e:=
 ⟨bq h.size h'.size,λb a g o j i=>h'.same b (bu a h.size) (λq=>g (h.av b a q)) o (h.same b a g o j i) i,
  λb a q=>h.av b a (h'.av b (bu a h.size) q)⟩
theorem pB.cell{w w':World}{A f:Nat->Prop}(g:pB w A w' f){b off:Nat}{u:Value}(c:b<w.heap.size)(i:¬A b)(h:w.cell? ⟨b,off,none⟩=some u):w'.cell? ⟨b,off,none⟩=some u:=by
 obtain⟨o,a⟩:∃o,w.heap[b]?=some o:=⟨_,Array.getElem?_eq_getElem c⟩;cases e:LA o with
 |true=>exact(World.cell?_of_block ((g.same b c i o a e).trans a.symm)).trans h
 |false=>
  exfalso;cases o<;>simp[LA]at e<;>simp[World.cell?,a]at h
theorem lW.evo{w w':World}{A g:Nat->Prop}(b:pB w A w' g){α:Type}{R S:α->List Value->Prop}(h:∀x vs,R x vs->S x vs){l:List α}{v:Value}(c:lW w A R l v):lW w' g S l v:=by
 rcases c with⟨a,e,cap,m,n,o,f,j,p,r⟩|c
 ·exact .inl ⟨a,e,cap,m,n,o,bu f b.size,λq=>j (b.av a f q),p.imp h,λi u s=>b.cell f j (r i u s)⟩
 ·exact .inr c
theorem Vu.imp{g:Bool}{α:Type}{R S:α->List Value->Prop}(h:∀x vs,R x vs->S x vs){x:α}{v:Value}(a:Vu g R x v):Vu g S x v:=let⟨vs,b,c⟩:=a;⟨vs,h _ _ b,c⟩
theorem IB.evo{w w':World}{a c:Bool}{α β:Type}{R e:α->List Value->Prop}{S f:β->List Value->Prop}{l:List (α×β)}{b:Nat}(g:w'.heap[b]?=w.heap[b]?)(i:∀x vs,R x vs->e x vs)(j:∀x vs,S x vs->f x vs)
 (h:IB w a c R S l b):IB w' a c e f l b:=
 let⟨m,clock,n,o,p⟩:=h;⟨m,clock,by rw[g];exact n,F2.imp (λ_ _ q=>⟨q.1.imp i,q.2.imp j⟩) o,p⟩
theorem Rd.evo{w w':World}{A E:Nat->Prop}(j:pB w A w' E):∀{t:Ty}{x:t.den}{vs:List Value},Rd w A t x vs->Rd w' E t x vs:=by
 intro t
 induction t with
 |bl|i64|i32|u8|u64|st|un|yl=>intro x vs h;exact h
 |sl e m=>intro x vs ⟨v,h,f⟩;exact⟨v,h,f.evo j (λy F h=>m h)⟩
 |ar n e m=>intro x vs ⟨l,f⟩;exact⟨l,f.imp (λy F h=>m h)⟩
 |pr a r s z=>intro x vs ⟨c,d,e,l,f⟩;exact⟨c,d,e,s l,z f⟩
 |pf t m=>intro x vs ⟨b,B,G,l,f,o,p,H⟩;exact⟨b,B,G,l,bu f j.size,λq=>o (j.av b f q),m p,λi u J=>j.cell f o (H i u J)⟩
 |fm k v C D=>intro x vs ⟨b,l,f,o,p⟩;exact⟨b,l,bu f j.size,λq=>o (j.av b f q),p.evo (by obtain⟨K,clock,g,_⟩:=p;exact(j.same b f o _ g rfl).trans g.symm) (λ_ _ h=>C h) (λ_ _ h=>D h)⟩
theorem vT{α:Type}{a b:List α}{n:Nat}(k:Nat)(h:a.length=n):(a++b).drop (k+n)=b.drop k:=by
 rw[List.drop_append,bC (by omega),eS];congr 1;omega
theorem DA{α:Type}{a b:List α}{n:Nat}(k:Nat)(h:a.length=n):(a++b).take (k+n)=a++b.take k:=by
 rw[List.take_append,bf (by omega)];congr 2;omega
theorem dz.get{α:Type}{R:α->List Value->Prop}{n:Nat}(f:∀x vs,R x vs->vs.length=n):∀{l:List α}{vs:List Value}{i:Nat}{x:α},dz R l vs->l[i]?=some x->R x ((vs.drop (i*n)).take n)/\i*n+n<=vs.length
 |[],_,_,_,_,h=>by simp at h
 |y::l,vs,0,x,⟨a,b,e,c,g⟩,h=>by
  simp at h;subst h;have:=f _ _ c;subst e;refine⟨?_,by simp;omega⟩;rw[Nat.zero_mul,List.drop_zero,<-this,List.take_left];exact c
 |y::l,vs,i+1,x,⟨a,b,e,c,g⟩,h=>by
  have:=f _ _ c;subst e;obtain⟨j,m⟩:=dz.get f (i:=i) g (by simpa using h);refine⟨?_,by rw[aa,Nat.succ_mul];omega⟩;rw[Nat.succ_mul,vT _ this];exact j
theorem dz.set{α:Type}{R:α->List Value->Prop}{n:Nat}(f:∀x vs,R x vs->vs.length=n):∀{l:List α}{vs us:List Value}{i:Nat}{y:α},dz R l vs->i<l.length->R y us->dz R (l.set i y) (vs.take (i*n)++us++vs.drop (i*n+n))
 |[],_,_,_,_,_,h,_=>by simp at h
 |x::l,vs,us,0,y,⟨a,b,e,c,g⟩,_,j=>by
  have:=f _ _ c;subst e;refine⟨us,b,?_,j,g⟩;rw[Nat.zero_mul,bN,List.take_zero,eS,<-this,List.drop_left]
 |x::l,vs,us,i+1,y,⟨a,b,e,c,g⟩,h,j=>by
  have:=f _ _ c;subst e;have m:=dz.set f (i:=i) g (by simpa using h) j;refine⟨a,_,?_,c,m⟩;rw[Nat.succ_mul,DA _ this,show i*n+n+n=(i*n+n)+n from rfl,vT _ this];simp[ay]
section
inductive Pl where
 |un
 |bk (b:Nat)
 |sv (v:Value)
def Pl.blk:Pl->Option Nat
 | .bk b=>some b
 | .sv (.slice (some a) _ (_+1))=>some a.block
 |_=>none
inductive I where
 |k (s:Sc)
 |d (t:Ty) (x:t.den)
 |cut (e:Ty) (l:List e.den)
 |own (k:Nat)
 |sub (k off n:Nat) (e:Ty)
 |ptr (k off:Nat)
 |pes (k:Nat) (e:Ty) (i inner:Nat)
 |pv (t:Ty) (x:t.den)
 |nils
 |nilp
 |nilm
 |nili
 |nilf
 |mp (k:Nat)
 |fn (f:FuncId) (first cap:List (Nat×Nat))
 |ifc (t:TypeId) (k off:Nat)
 |mth (name:String) (t:TypeId) (k off:Nat)
 |fmp (kt vt:Ty) (l:List (kt.den×vt.den))
def I.size:I->Nat
 | .d t _=>t.size
 |_=>1
def kG:List I->Nat
 |[]=>0
 |i::r=>i.size+kG r
inductive V where
 |any
 |val (g:Bool) (l:List I)
 |tup (l:List (Bool×List I))
def sc(i:I):V:= .val false [i]
def kH(ρ:Nat->Pl)(p:Nat×Nat)(v:Value):Prop:=∃b,ρ p.1= .bk b/\v= .pointer (some ⟨b,p.2,none⟩)
def bj(w:World)(A:Nat->Prop)(ρ:Nat->Pl):I->List Value->Prop
 | .k s,g=>g=[s.val]
 | .d t x,g=>Rd w A t x g
 | .cut e l,g=>∃v,g=[v]/\lW w A (Rd w A e) l v/\∃a n,v= .slice a n n
 | .own k,g=>∃a n c,ρ k= .sv (.slice a n c)/\g=[.slice a n c]
 | .sub k j n _,g=>∃b,ρ k= .bk b/\g=[.slice (some ⟨b,j,none⟩) n n]
 | .ptr k j,g=>∃v,kH ρ (k,j) v/\g=[v]
 | .pes k e i m,g=>∃b n c,ρ k= .sv (.slice (some ⟨b,0,none⟩) n c)/\i<n/\g=[.pointer (some ⟨b,i*e.size+m,none⟩)]
 | .pv t x,g=>∃b j o,g=[.pointer (some ⟨b,j,none⟩)]/\b<w.heap.size/\¬A b/\Rd w A t x o/\∀i u,o[i]?=some u->w.cell? ⟨b,j+i,none⟩=some u
 | .nils,g=>g=[.slice none 0 0]
 | .nilp,g=>g=[.pointer none]
 | .nilm,g=>g=[.map none]
 | .nili,g=>g=[.nilIface]
 | .nilf,g=>g=[.nilFunc]
 | .mp k,g=>∃b,ρ k= .bk b/\g=[.map (some b)]
 | .fn f first cap,g=>∃p o,g=[.func (.func f) p.toArray o.toArray]/\F2 (kH ρ) first p/\F2 (kH ρ) cap o
 | .ifc t k j,g=>∃v,kH ρ (k,j) v/\g=[.iface t v]
 | .mth name t k j,g=>∃v,kH ρ (k,j) v/\g=[.func (.method name) #[.iface t v] #[]]
 | .fmp q r l,g=>Rd w A (.fm q r) l g
def aL(w:World)(A:Nat->Prop)(ρ:Nat->Pl):List I->List Value->Prop
 |[],c=>c=[]
 |i::r,c=>∃a b,c=a++b/\bj w A ρ i a/\aL w A ρ r b
def yg(w:World)(A:Nat->Prop)(ρ:Nat->Pl)(x:Bool×List I)(v:Value):Prop:=
 ∃a,aL w A ρ x.2 a/\(if x.1 then v= .agg a.toArray else a=[v])
def aT(w:World)(A:Nat->Prop)(ρ:Nat->Pl):V->Value->Prop
 | .any,_=>True
 | .val g l,v=>yg w A ρ (g,l) v
 | .tup l,v=>∃a,v= .tuple a.toArray/\F2 (yg w A ρ) l a
def dR(ρ ρ':Nat->Pl):Prop:=∀k,ρ k≠ .un->ρ' k=ρ k
theorem dR.refl(ρ:Nat->Pl):dR ρ ρ:=λ_ _=>rfl
theorem dR.trans{ρ ρ' ρ'':Nat->Pl}(h:dR ρ ρ')(h':dR ρ' ρ''):dR ρ ρ'':=λk a=>by
 rw[h' k (by rw[h k a];exact a),h k a]
theorem dR.bk{ρ ρ':Nat->Pl}(h:dR ρ ρ'){k b:Nat}(e:ρ k= .bk b):ρ' k= .bk b:=by rw[h k (by rw[e];simp),e]
theorem dR.sv{ρ ρ':Nat->Pl}(h:dR ρ ρ'){k:Nat}{v:Value}(e:ρ k= .sv v):ρ' k= .sv v:=by rw[h k (by rw[e];simp),e]
section
variable{w w':World}{A A':Nat->Prop}{ρ ρ':Nat->Pl}
theorem kH.ext(a:dR ρ ρ'){p:Nat×Nat}{v:Value}(h:kH ρ p v):kH ρ' p v:=let⟨b,c,e⟩:=h;⟨b,a.bk c,e⟩
theorem bj.evo(j:pB w A w' A')(g:dR ρ ρ'){i:I}{vs:List Value}(h:bj w A ρ i vs):bj w' A' ρ' i vs:=by
 cases i
 case d=>exact Rd.evo j h
 case cut=>obtain⟨v,f,e,m⟩:=h;exact⟨v,f,e.evo j (λ_ _=>Rd.evo j),m⟩
 case own=>obtain⟨a,n,c,f,e⟩:=h;exact⟨a,n,c,g.sv f,e⟩
 case sub=>obtain⟨b,f,e⟩:=h;exact⟨b,g.bk f,e⟩
 case ptr=>obtain⟨v,f,e⟩:=h;exact⟨v,f.ext g,e⟩
 case pes=>obtain⟨b,n,c,f,e⟩:=h;exact⟨b,n,c,g.sv f,e⟩
 case pv=>
  obtain⟨b,o,p,f,e,m,r,s⟩:=h;exact⟨b,o,p,f,bu e j.size,λq=>m (j.av b e q),Rd.evo j r,λi u y=>j.cell e m (s i u y)⟩
 case mp=>obtain⟨b,f,e⟩:=h;exact⟨b,g.bk f,e⟩
 case fn=>obtain⟨z,p,f,e,m⟩:=h;exact⟨z,p,f,F2.imp (λ_ _=>kH.ext g) e,F2.imp (λ_ _=>kH.ext g) m⟩
 case ifc=>obtain⟨v,f,e⟩:=h;exact⟨v,f.ext g,e⟩
 case mth=>obtain⟨v,f,e⟩:=h;exact⟨v,f.ext g,e⟩
 case fmp B C l=>exact Rd.evo (t:= .fm B C) (x:=l) j h
 all_goals exact h
theorem aL.evo(e:pB w A w' A')(f:dR ρ ρ'):∀{l:List I}{vs:List Value},aL w A ρ l vs->aL w' A' ρ' l vs
 |[],_,h=>h
 |_::_,_,⟨a,b,c,g,i⟩=>⟨a,b,c,g.evo e f,aL.evo e f i⟩
theorem yg.evo(a:pB w A w' A')(b:dR ρ ρ'){x:Bool×List I}{v:Value}(h:yg w A ρ x v):yg w' A' ρ' x v:=
 let⟨c,e,f⟩:=h;⟨c,e.evo a b,f⟩
theorem aT.evo(a:pB w A w' A')(b:dR ρ ρ'){x:V}{v:Value}(h:aT w A ρ x v):aT w' A' ρ' x v:=by
 cases x
 case any=>trivial
 case val g l=>exact yg.evo a b h
 case tup l=>obtain⟨c,e,f⟩:=h;exact⟨c,e,F2.imp (λ_ _=>yg.evo a b) f⟩
theorem Sc.one(s:Sc):s.val.oneCell'=true:=by cases s<;>rfl
theorem bj.length{i:I}{vs:List Value}(h:bj w A ρ i vs):vs.length=i.size:=by
 cases i
 case d=>exact Rd.length h
 case cut=>obtain⟨_,rfl,_⟩:=h;rfl
 case own=>obtain⟨_,_,_,_,rfl⟩:=h;rfl
 case sub=>obtain⟨_,_,rfl⟩:=h;rfl
 case ptr=>obtain⟨_,_,rfl⟩:=h;rfl
 case pes=>obtain⟨_,_,_,_,_,rfl⟩:=h;rfl
 case pv=>obtain⟨_,_,_,rfl,_⟩:=h;rfl
 case mp=>obtain⟨_,_,rfl⟩:=h;rfl
 case fn=>obtain⟨_,_,rfl,_⟩:=h;rfl
 case ifc=>obtain⟨_,_,rfl⟩:=h;rfl
 case mth=>obtain⟨_,_,rfl⟩:=h;rfl
 case fmp=>obtain⟨_,rfl,_⟩:=h;rfl
 all_goals (simp only[bj]at h;rw[h];rfl)
theorem aL.length:∀{l:List I}{vs:List Value},aL w A ρ l vs->vs.length=kG l
 |[],_,h=>by rw[h];rfl
 |_::_,_,⟨a,b,c,e,f⟩=>by rw[c,aa,bj.length e,aL.length f];rfl
theorem bj.one{i:I}{vs:List Value}(h:bj w A ρ i vs):∀v∈vs,v.oneCell'=true:=by
 cases i
 case k s=>simp only[bj]at h;rw[h];simp[Sc.one]
 case d=>exact Rd.one h
 case cut=>obtain⟨_,rfl,_,_,_,rfl⟩:=h;simp[dH]
 case own=>obtain⟨_,_,_,_,rfl⟩:=h;simp[dH]
 case sub=>obtain⟨_,_,rfl⟩:=h;simp[dH]
 case ptr=>obtain⟨_,⟨_,_,rfl⟩,rfl⟩:=h;simp[dH]
 case pes=>obtain⟨_,_,_,_,_,rfl⟩:=h;simp[dH]
 case pv=>obtain⟨_,_,_,rfl,_⟩:=h;simp[dH]
 case mp=>obtain⟨_,_,rfl⟩:=h;simp[dH]
 case fn=>obtain⟨_,_,rfl,_⟩:=h;simp[dH]
 case ifc=>obtain⟨_,_,rfl⟩:=h;simp[dH]
 case mth=>obtain⟨_,_,rfl⟩:=h;simp[dH]
 case fmp=>obtain⟨_,rfl,_⟩:=h;simp[dH]
 all_goals (simp only[bj]at h;rw[h];simp[dH])
theorem aL.one:∀{l:List I}{vs:List Value},aL w A ρ l vs->∀v∈vs,v.oneCell'=true
 |[],_,h=>by rw[h];simp
 |_::_,_,⟨a,b,e,f,g⟩=>by
  intro v c;rw[e,bb]at c;rcases c with c|c
  ·exact bj.one f v c
  ·exact aL.one g v c
theorem aL.append:∀{l m:List I}{vs us:List Value},aL w A ρ l vs->aL w A ρ m us->aL w A ρ (l++m) (vs++us)
 |[],_,_,_,h,h'=>by rw[h];exact h'
 |_::_,_,_,_,⟨a,b,c,e,f⟩,h'=>⟨a,b++_,by rw[c,ay],e,aL.append f h'⟩
theorem aL.single{i:I}{vs:List Value}(h:bj w A ρ i vs):aL w A ρ [i] vs:=⟨vs,[],by simp,h,rfl⟩
theorem aL.of_single{i:I}{vs:List Value}(h:aL w A ρ [i] vs):bj w A ρ i vs:=by
 obtain⟨a,b,c,e,f⟩:=h;rw[f,aW]at c;rw[c];exact e
theorem aJ{i:I}{v:Value}:aT w A ρ (sc i) v↔bj w A ρ i [v]:=by
 constructor
 ·rintro⟨c,b,a⟩;simp at a;subst a;exact aL.of_single b
 ·intro h;exact⟨[v],aL.single h,by simp⟩
theorem ej:aT w A ρ (.tup []) undef:=⟨[],rfl,trivial⟩
theorem eb{g:Bool}{l:List I}{v:Value}(h:aT w A ρ (.val g l) v):aL w A ρ l v.cells.toList:=by
 obtain⟨e,b,a⟩:=h;cases g
 ·simp at a;subst a;have:=aL.one b v (by simp);have c:v.cells= #[v]:=by cases v<;>first|rfl|(simp[dH]at this)
  rw[c];exact b
 ·simp at a;subst a;exact b
end
def iY:(t:Ty)->t.den->List I
 | .pr a r,x=> .d a x.1::iY r x.2
 | .un,_=>[]
 | .bl,x=>[.d .bl x]
 | .i64,x=>[.d .i64 x]
 | .i32,x=>[.d .i32 x]
 | .u8,x=>[.d .u8 x]
 | .u64,x=>[.d .u64 x]
 | .st,x=>[.d .st x]
 | .yl,x=>[.d .yl x]
 | .sl e,x=>[.d (.sl e) x]
 | .ar n e,x=>[.d (.ar n e) x]
 | .pf t,x=>[.pv t x]
 | .fm k v,x=>[.fmp k v x]
def V.ofD(t:Ty)(x:t.den):V:= .val t.agg (iY t x)
def iI(w:World)(A:Nat->Prop)(t:Ty)(x:t.den)(v:Value):Prop:=∃a,Rd w A t x a/\(if t.agg then v= .agg a.toArray else a=[v])
section
variable{w w':World}{A A':Nat->Prop}{ρ ρ':Nat->Pl}
theorem iI.evo(a:pB w A w' A'){t:Ty}{x:t.den}{v:Value}(h:iI w A t x v):iI w' A' t x v:=let⟨b,c,e⟩:=h;⟨b,Rd.evo a c,e⟩
theorem fS:∀{t:Ty}{x:t.den}{vs:List Value},aL w A ρ (iY t x) vs↔Rd w A t x vs:=by
 intro t
 induction t with
 |pr a r j b=>
  intro x vs;constructor
  ·rintro⟨c,d,e,f,g⟩;exact⟨c,d,e,f,b.1 g⟩
  ·rintro⟨c,d,e,f,g⟩;exact⟨c,d,e,f,b.2 g⟩
 |un=>intro x vs;exact Iff.rfl
 |pf t=>intro x vs;exact⟨λh=>aL.of_single (i:= .pv t x) h,λh=>aL.single (i:= .pv t x) h⟩
 |fm k v=>intro x vs;exact⟨λh=>aL.of_single (i:= .fmp k v x) h,λh=>aL.single (i:= .fmp k v x) h⟩
 |_=>intro x vs;exact⟨λh=>aL.of_single (i:= .d _ x) h,λh=>aL.single (i:= .d _ x) h⟩
theorem il{t:Ty}{x:t.den}{v:Value}:aT w A ρ (V.ofD t x) v↔iI w A t x v:=by
 constructor
 ·rintro⟨a,b,c⟩;exact⟨a,fS.1 b,c⟩
 ·rintro⟨a,b,c⟩;exact⟨a,fS.2 b,c⟩
theorem iI.cells{t:Ty}{x:t.den}{v:Value}(h:iI w A t x v):Rd w A t x v.cells.toList:=fS.1 (eb (ρ:=λ_=> .un) (il.2 h))
end
def vU(w:World)(A:Nat->Prop)(e:Ty)(l:List e.den)(v:Value):Prop:=
 (∃b cap cells f c,v= .slice (some ⟨b,0,none⟩) l.length cap/\0<cap/\w.heap[b]?=some (.cells cells f (0,0))/\l.length<=cap/\cap*e.size<=cells.size/\dz (Rd w A e) l c/\cells.toList.take c.length=c)\/
 (l=[]/\∃a,v= .slice a 0 0)
def nY(w:World)(A:Nat->Prop)(kt a:Ty)(q:kt.den×a.den)(e:MapEntry):Prop:=iI w A kt q.1 e.key/\iI w A a q.2 e.val
def mq(w:World)(A:Nat->Prop)(kt c:Ty)(l:List (kt.den×c.den))(b:Nat):Prop:=
 ∃a clock,w.heap[b]?=some (.map a clock)/\F2 (nY w A kt c) l a.toList/\(a.toList.map (·.born)).Nodup/\(∀e∈a.toList,e.born<clock)/\(l.map (·.1)).Nodup
def oh(w:World)(A:Nat->Prop)(kt a:Ty)(rest:List (kt.den×a.den))(last:Option (kt.den×a.den))(m b:Nat):Prop:=
 ∃c clock seen,w.heap[m]?=some (.map c clock)/\w.heap[b]?=some (.mapIter (some m) clock seen clock)/\(c.toList.map (·.born)).Nodup/\(∀e∈c.toList,e.born<clock)/\
  (∃q:List (kt.den×a.den),q.Perm rest/\F2 (nY w A kt a) q (c.toList.filter λe=> !seen.contains e.born))/\
  (∀q,last=some q->∃(f:Array Nat)(e:MapEntry),seen=f.push e.born/\e∈c.toList/\nY w A kt a q e)
inductive Ch where
 |cells (l:List I)
 |sl (e:Ty) (l:List e.den)
 |mp (kt vt:Ty) (l:List (kt.den×vt.den))
 |lk (kt vt:Ty) (l:List (kt.den×vt.den))
 |fr (e:Ty) (l:List e.den)
 |fc (l:List I)
 |sit (s:List (BitVec 8)) (pos:Nat)
 |mit (m:Nat) (kt vt:Ty) (rest:List (kt.den×vt.den)) (last:Option (kt.den×vt.den))
 |nit
 |fm (kt vt:Ty) (l:List (kt.den×vt.den))
 |fit (kt vt:Ty) (rest:List (kt.den×vt.den)) (last:Option (kt.den×vt.den))
def Ch.own:Ch->Bool
 | .fr .. =>false
 | .fc .. =>false
 | .fm .. =>false
 |_=>true
def vL(w:World)(A:Nat->Prop)(ρ:Nat->Pl)(k:Nat):Ch->Prop
 | .cells l=>∃b o q,ρ k= .bk b/\w.heap[b]?=some (.cells o q (0,0))/\aL w A ρ l o.toList
 | .sl e l=>∃v,ρ k= .sv v/\vU w A e l v
 | .mp f g l=>∃b,ρ k= .bk b/\mq w A f g l b
 | .lk f g l=>∃b,ρ k= .bk b/\mq w A f g l b
 | .fr e l=>∃v,ρ k= .sv v/\lW w A (Rd w A e) l v
 | .fc l=>∃b p,ρ k= .bk b/\b<w.heap.size/\¬A b/\aL w A ρ l p/\∀i u,p[i]?=some u->w.cell? ⟨b,i,none⟩=some u
 | .sit s n=>∃b,ρ k= .bk b/\w.heap[b]?=some (.stringIter (bH s) n)
 | .mit m f g a c=>∃b j,ρ k= .bk b/\ρ m= .bk j/\oh w A f g a c j b
 | .nit=>∃b,ρ k= .bk b/\w.heap[b]?=some (.mapIter none 0 #[] 0)
 | .fm f g l=>∃b,ρ k= .bk b/\b<w.heap.size/\¬A b/\mq w A f g l b
 | .fit f g a c=>∃b j,ρ k= .bk b/\j<w.heap.size/\¬A j/\oh w A f g a c j b
def Ch.on(ρ:Nat->Pl)(k:Nat):Ch->Nat->Prop
 | .mit m ..,b=>(ρ k).blk=some b\/(ρ m).blk=some b
 | .fr ..,_=>False
 | .fc ..,_=>False
 | .fm ..,_=>False
 |_,b=>(ρ k).blk=some b
section
variable{w w':World}{A A':Nat->Prop}{ρ ρ':Nat->Pl}
theorem vU.evo(f:pB w A w' A'){e:Ty}{l:List e.den}{v:Value}(g:∀b,(Pl.sv v).blk=some b->w'.heap[b]?=w.heap[b]?)(h:vU w A e l v):vU w' A' e l v:=by
 rcases h with⟨b,cap,cells,i,j,a,m,n,o,p,q,r⟩|h
 ·refine .inl ⟨b,cap,cells,i,j,a,m,?_,o,p,q.imp (λ_ _=>Rd.evo f),r⟩;rw[g b (by subst a;obtain⟨c,rfl⟩:∃c,cap=c+1:=⟨cap-1,by omega⟩;rfl)];exact n
 ·exact .inr h
theorem nY.evo(b:pB w A w' A'){kt a:Ty}{q:kt.den×a.den}{e:MapEntry}(h:nY w A kt a q e):nY w' A' kt a q e:=⟨h.1.evo b,h.2.evo b⟩
theorem mq.evo(c:pB w A w' A'){kt a:Ty}{l:List (kt.den×a.den)}{b:Nat}(e:w'.heap[b]?=w.heap[b]?)(h:mq w A kt a l b):mq w' A' kt a l b:=by
 obtain⟨f,clock,g,i,j⟩:=h;exact⟨f,clock,by rw[e];exact g,F2.imp (λ_ _=>nY.evo c) i,j⟩
theorem oh.evo(c:pB w A w' A'){kt a:Ty}{rest:List (kt.den×a.den)}{last:Option (kt.den×a.den)}{m b:Nat}(f:w'.heap[m]?=w.heap[m]?)(g:w'.heap[b]?=w.heap[b]?)(h:oh w A kt a rest last m b):oh w' A' kt a rest last m b:=by
 obtain⟨i,clock,seen,j,l,n,o,⟨q,p,r⟩,t⟩:=h;refine⟨i,clock,seen,by rw[f];exact j,by rw[g];exact l,n,o,⟨q,p,F2.imp (λ_ _=>nY.evo c) r⟩,λq u=>?_⟩;obtain⟨s,e,v,x,y⟩:=t q u;exact⟨s,e,v,x,y.evo c⟩
theorem vL.un{k:Nat}{c:Ch}(h:vL w A ρ k c):ρ k≠ .un:=by
 cases c<;>simp only[vL]at h
 case cells l=>obtain⟨b,j,m,a,_⟩:=h;rw[a];simp
 case sl e l=>obtain⟨v,a,_⟩:=h;rw[a];simp
 case mp f g l=>obtain⟨b,a,_⟩:=h;rw[a];simp
 case lk f g l=>obtain⟨b,a,_⟩:=h;rw[a];simp
 case fr e l=>obtain⟨v,a,_⟩:=h;rw[a];simp
 case fc l=>obtain⟨b,n,a,_⟩:=h;rw[a];simp
 case sit=>obtain⟨b,a,_⟩:=h;rw[a];simp
 case mit=>obtain⟨b,i,a,_⟩:=h;rw[a];simp
 case nit=>obtain⟨b,a,_⟩:=h;rw[a];simp
 case fm=>obtain⟨b,a,_⟩:=h;rw[a];simp
 case fit=>obtain⟨b,i,a,_⟩:=h;rw[a];simp
theorem vL.evo(j:pB w A w' A')(n:dR ρ ρ'){k:Nat}{c:Ch}(p:∀b,c.on ρ k b->w'.heap[b]?=w.heap[b]?)(h:vL w A ρ k c):vL w' A' ρ' k c:=by
 cases c
 case cells l=>obtain⟨b,C,D,a,f,o⟩:=h;exact⟨b,C,D,n.bk a,by rw[p b (by simp[Ch.on,a,Pl.blk])];exact f,o.evo j n⟩
 case sl e l=>obtain⟨v,a,f⟩:=h;exact⟨v,n.sv a,f.evo j (λb E=>p b (by simp only[Ch.on,a];exact E))⟩
 case mp z B l=>obtain⟨b,a,f⟩:=h;exact⟨b,n.bk a,f.evo j (p b (by simp[Ch.on,a,Pl.blk]))⟩
 case lk z B l=>obtain⟨b,a,f⟩:=h;exact⟨b,n.bk a,f.evo j (p b (by simp[Ch.on,a,Pl.blk]))⟩
 case fr e l=>obtain⟨v,a,f⟩:=h;exact⟨v,n.sv a,f.evo j (λ_ _=>Rd.evo j)⟩
 case fc l=>
  obtain⟨b,G,a,f,o,r,H⟩:=h;exact⟨b,G,n.bk a,bu f j.size,λq=>o (j.av b f q),r.evo j n,λi u J=>j.cell f o (H i u J)⟩
 case sit s K=>obtain⟨b,a,f⟩:=h;exact⟨b,n.bk a,by rw[p b (by simp[Ch.on,a,Pl.blk])];exact f⟩
 case mit m z B x y=>obtain⟨b,t,a,f,o⟩:=h;exact⟨b,t,n.bk a,n.bk f,o.evo j (p t (by simp[Ch.on,f,Pl.blk])) (p b (by simp[Ch.on,a,Pl.blk]))⟩
 case nit=>obtain⟨b,a,f⟩:=h;exact⟨b,n.bk a,by rw[p b (by simp[Ch.on,a,Pl.blk])];exact f⟩
 case fm z B l=>obtain⟨b,a,f,o,r⟩:=h;exact⟨b,n.bk a,bu f j.size,λq=>o (j.av b f q),r.evo j (by obtain⟨L,clock,g,_⟩:=r;exact(j.same b f o _ g rfl).trans g.symm)⟩
 case fit z B x y=>obtain⟨b,t,a,f,o,r⟩:=h;exact⟨b,t,n.bk a,bu f j.size,λq=>o (j.av t f q),r.evo j (by obtain⟨L,clock,seen,g,_⟩:=r;exact(j.same t f o _ g rfl).trans g.symm) (p b (by simp[Ch.on,a,Pl.blk]))⟩
end
abbrev dN:=List (Nat×Option Ch)
def cO(h:Nat->Option Ch)(k:Nat)(b:Option Ch):Nat->Option Ch:=λj=>if j=k then b else h j
def bm:(Nat->Option Ch)->dN->(Nat->Option Ch)
 |h,[]=>h
 |h,u::r=>bm (cO h u.1 u.2) r
theorem bG(h:Nat->Option Ch)(k:Nat)(c:Option Ch):cO h k c k=c:=by simp[cO]
theorem bE(h:Nat->Option Ch)(k:Nat)(c:Option Ch){j:Nat}(e:j≠k):cO h k c j=h j:=by simp[cO,e]
def gd(ρ:Nat->Pl)(k:Nat)(p:Pl):Nat->Pl:=λj=>if j=k then p else ρ j
theorem bP(ρ:Nat->Pl)(k:Nat)(p:Pl):gd ρ k p k=p:=by simp[gd]
theorem gp(ρ:Nat->Pl)(k:Nat)(p:Pl){j:Nat}(h:j≠k):gd ρ k p j=ρ j:=by simp[gd,h]
theorem qo{ρ:Nat->Pl}{k:Nat}(h:ρ k= .un)(p:Pl):dR ρ (gd ρ k p):=λj a=>by
 by_cases e:j=k
 ·subst e;exact absurd h a
 ·exact gp ρ k p e
def oW(ρ:Nat->Pl)(h:Nat->Option Ch)(b:Nat):Prop:=∃k c,h k=some c/\c.own=true/\(ρ k).blk=some b
def Av(F:Nat->Prop)(ρ:Nat->Pl)(h:Nat->Option Ch)(b:Nat):Prop:=F b\/oW ρ h b
structure dq(F:Nat->Prop)(ρ:Nat->Pl)(w:World)(h:Nat->Option Ch):Prop where
 ok:∀k c,h k=some c->vL w (Av F ρ h) ρ k c
 inj:∀k k' c c' b,h k=some c->h k'=some c'->c.own=true->c'.own=true->(ρ k).blk=some b->(ρ k').blk=some b->k=k'
 fr:∀k c b,h k=some c->c.own=true->(ρ k).blk=some b->b<w.heap.size/\¬F b
 it:∀k m kt vt rest last,h k=some (.mit m kt vt rest last)->∃l,h m=some (.lk kt vt l)
 gs:∀b,F b->b<w.heap.size
structure Mv(ρ:Nat->Pl)(w:World)(h:Nat->Option Ch)(ρ':Nat->Pl)(w':World)(h':Nat->Option Ch):Prop where
 os:w'.os=w.os
 tape:w'.tape=w.tape
 output:w'.output=w.output
 size:w.heap.size<=w'.heap.size
 block:∀b,b<w.heap.size->¬oW ρ h b->w'.heap[b]?=w.heap[b]?
 own:∀b,b<w.heap.size->oW ρ' h' b->oW ρ h b
theorem Mv.refl(ρ:Nat->Pl)(w:World)(h:Nat->Option Ch):Mv ρ w h ρ w h:=⟨rfl,rfl,rfl,aD _,λ_ _ _=>rfl,λ_ _ a=>a⟩
theorem Mv.trans{ρ ρ' ρ'':Nat->Pl}{w w' e:World}{h h' f:Nat->Option Ch}(a:Mv ρ w h ρ' w' h')(b:Mv ρ' w' h' ρ'' e f):Mv ρ w h ρ'' e f:=
 ⟨b.os.trans a.os,b.tape.trans a.tape,b.output.trans a.output,bq a.size b.size,
  λi c g=>(b.block i (bu c a.size) (λq=>g (a.own i c q))).trans (a.block i c g),
  λi c g=>a.own i c (b.own i (bu c a.size) g)⟩
theorem Mv.evo{F:Nat->Prop}{ρ ρ':Nat->Pl}{w w':World}{h h':Nat->Option Ch}(a:Mv ρ w h ρ' w' h'):pB w (Av F ρ h) w' (Av F ρ' h'):=
 ⟨a.size,λb c e o f _=>(a.block b c (λq=>e (.inr q))).trans f,λb c e=>e.imp id (a.own b c)⟩
def bM(F:Nat->Prop)(ρ:Nat->Pl)(w:World)(h:Nat->Option Ch)(N W:Nat)(x:V)(a:dN)(v:Value)(w':World):Prop:=
 ∃ρ',dR ρ ρ'/\(∀k,ρ k= .un->ρ' k≠ .un->N<=k/\k<N+W)/\aT w' (Av F ρ' (bm h a)) ρ' x v/\dq F ρ' w' (bm h a)/\Mv ρ w h ρ' w' (bm h a)
theorem bM.pure{F:Nat->Prop}{ρ:Nat->Pl}{w:World}{h:Nat->Option Ch}{N W:Nat}{x:V}{v:Value}(hh:dq F ρ w h)(c:aT w (Av F ρ h) ρ x v):bM F ρ w h N W x [] v w:=
 ⟨ρ,dR.refl ρ,λ_ a b=>absurd a b,c,hh,Mv.refl ρ w h⟩
section
variable{F:Nat->Prop}{ρ ρ':Nat->Pl}{w w':World}{h h':Nat->Option Ch}
theorem dq.step(hh:dq F ρ w h)(T:Nat->Prop)(hx:dR ρ ρ')
 (S:w.heap.size<=w'.heap.size) (ho:w'.os=w.os) (ht:w'.tape=w.tape) (hu:w'.output=w.output)
 (D:∀k,¬T k->h' k=h k)
 (hw:∀b,b<w.heap.size->(∀k c,T k->h k=some c->c.own=true->(ρ k).blk≠some b)->w'.heap[b]?=w.heap[b]?)
 (G:∀k c b,T k->h' k=some c->c.own=true->(ρ' k).blk=some b->b<w'.heap.size/\(w.heap.size<=b\/∃j B,T j/\h j=some B/\B.own=true/\(ρ j).blk=some b))
 (hd:∀k o c t b,T k->T o->h' k=some c->h' o=some t->c.own=true->t.own=true->(ρ' k).blk=some b->(ρ' o).blk=some b->k=o)
 (hi:∀k m kt E rest last,h' k=some (.mit m kt E rest last)->(T k\/T m)->∃l,h' m=some (.lk kt E l)/\(T m->T k))
 (u:∀k c,T k->h' k=some c->Mv ρ w h ρ' w' h'->vL w' (Av F ρ' h') ρ' k c):
 dq F ρ' w' h'/\Mv ρ w h ρ' w' h':=by
 have J:∀{k c},h k=some c->ρ' k=ρ k:=λ{k c}e=>hx k (hh.ok k c e).un
 have U:Mv ρ w h ρ' w' h':=by
  refine⟨ho,ht,hu,S,λb K X=>hw b K λk c _ e u G=>X ⟨k,c,e,u,G⟩,λb K⟨k,c,e,L,f⟩=>?_⟩;by_cases n:T k
  ·rcases(G k c b n e L f).2 with q|⟨j,B,_,a,b',t⟩
   ·omega
   ·exact⟨j,B,a,b',t⟩
  ·rw[D k n]at e;rw[J e]at f;exact⟨k,c,e,L,f⟩
 refine⟨⟨λk c e=>?_,λk o c t b e i u r f g=>?_,λk c b e u f=>?_,λk m kt E rest last e=>?_,λb G=>bu (hh.gs b G) S⟩,U⟩
 ·by_cases n:T k
  ·exact u k c n e U
  ·have Y:=e;rw[D k n]at e;refine(hh.ok k c e).evo U.evo hx λb p=>?_
   have v:∀(q:Nat)(M:Ch),¬T q->h q=some M->M.own=true->(ρ q).blk=some b->w'.heap[b]?=w.heap[b]?:=λq M a0 hq O P=>
    hw b (hh.fr q M b hq O P).1 λj B H Q x y=>a0 (hh.inj q j M B b hq Q O x P y▸H)
   cases c<;>simp only[Ch.on]at p
   case mit m kt E rest last=>
    obtain⟨l,hl⟩:=hh.it k m kt E rest last e;have C:¬T m:=λC=>n ((hi k m kt E rest last Y (.inr C)).choose_spec.2 C);rcases p with p|p
    ·exact v k _ n e rfl p
    ·exact v m _ C hl rfl p
   all_goals first|exact v k _ n e rfl p|exact p.elim
 ·have z:∀{k o c t},T k->¬T o->h' k=some c->h' o=some t->c.own=true->t.own=true->(ρ' k).blk=some b->(ρ' o).blk=some b->k=o:=by
   intro k o c t n s e i u r f g;rw[D o s]at i;rw[J i]at g;have R:=(hh.fr o t b i r g).1;rcases(G k c b n e u f).2 with q|⟨j,B,H,Q,x,y⟩
   ·omega
   ·exact absurd (hh.inj j o B t b Q i x r y g▸H) s
  by_cases n:T k<;>by_cases s:T o
  ·exact hd k o c t b n s e i u r f g
  ·exact z n s e i u r f g
  ·exact(z s n i e r u g f).symm
  ·rw[D k n]at e;rw[D o s]at i;rw[J e]at f;rw[J i]at g;exact hh.inj k o c t b e i u r f g
 ·by_cases n:T k
  ·obtain⟨R,h2⟩:=G k c b n e u f;refine⟨R,λhF=>?_⟩;rcases h2 with q|⟨j,B,_,Q,x,y⟩
   ·have:=hh.gs b hF;omega
   ·exact(hh.fr j B b Q x y).2 hF
  ·rw[D k n]at e;rw[J e]at f;obtain⟨R,h2⟩:=hh.fr k c b e u f;exact⟨bu R S,h2⟩
 ·by_cases n:T k\/T m
  ·obtain⟨l,hl,_⟩:=hi k m kt E rest last e n;exact⟨l,hl⟩
  ·rw[D k (λq=>n (.inl q))]at e;rw[D m (λq=>n (.inr q))];exact hh.it k m kt E rest last e
theorem dq.fresh(hh:dq F ρ w h){N:Nat}(a:ρ N= .un):h N=none:=by
 cases e:h N with
 |none=>rfl
 |some c=>exact absurd a (hh.ok N c e).un
theorem dq.mit_old(hh:dq F ρ w h){N k m:Nat}(c:ρ N= .un){kt a:Ty}{rest:List (kt.den×a.den)}{last:Option (kt.den×a.den)}(f:h k=some (.mit m kt a rest last)):m≠N:=by
 obtain⟨l,b⟩:=hh.it k m kt a rest last f;intro e;rw[e,hh.fresh c]at b;simp at b
end
structure fH(w w':World):Prop where
 os:w'.os=w.os
 tape:w'.tape=w.tape
 output:w'.output=w.output
 size:w.heap.size<=w'.heap.size
 old:∀b,b<w.heap.size->w'.heap[b]?=w.heap[b]?
theorem fH.alloc(w:World)(o:Obj):fH w (w.alloc o):=⟨rfl,rfl,rfl,by rw[dX];omega,λb a=>Go.heap_alloc_old w o b a⟩
theorem fH.drewAlloc(w:World)(o:Obj):fH w (w.drew.alloc o):=⟨rfl,rfl,rfl,by rw[dX];show w.heap.size<=w.heap.size+1;omega,λb a=>Go.heap_alloc_old w.drew o b a⟩
theorem fH.refl(w:World):fH w w:=⟨rfl,rfl,rfl,aD _,λ_ _=>rfl⟩
theorem fH.drew(w:World):fH w w.drew:=⟨rfl,rfl,rfl,aD w.heap.size,λ_ _=>rfl⟩
section
variable{F:Nat->Prop}{ρ:Nat->Pl}{w w':World}{h:Nat->Option Ch}{N W:Nat}
theorem dq.same(hh:dq F ρ w h)(a:fH w w'):dq F ρ w' h/\Mv ρ w h ρ w' h:=
 hh.step (λ_=>False) (dR.refl ρ) a.size a.os a.tape a.output (λ_ _=>rfl) (λb c _=>a.old b c) (λ_ _ _ q=>q.elim) (λ_ _ _ _ _ q=>q.elim) (λ_ _ _ _ _ _ _ q=>by simp at q) (λ_ _ q=>q.elim)
theorem bM.add(hh:dq F ρ w h)(r:ρ N= .un)(M:0<W)(i:fH w w')(p:Pl)(c:Ch)(j:∀m kt q rest last,c= .mit m kt q rest last->∃l,h m=some (.lk kt q l))
 (z:∀b,c.own=true->p.blk=some b->w.heap.size<=b/\b<w'.heap.size)
 (E:Mv ρ w h (gd ρ N p) w' (cO h N (some c))->vL w' (Av F (gd ρ N p) (cO h N (some c))) (gd ρ N p) N c) (x:V) (v:Value)
 (G:Mv ρ w h (gd ρ N p) w' (cO h N (some c))->aT w' (Av F (gd ρ N p) (cO h N (some c))) (gd ρ N p) x v):
 bM F ρ w h N W x [(N,some c)] v w':=by
 have B:=qo r p;have s:=hh.fresh r
 obtain⟨H,C⟩:=hh.step (ρ':=gd ρ N p) (w':=w') (h':=cO h N (some c)) (λk=>k=N) B i.size i.os i.tape i.output
  (λk f=>bE _ _ _ f)
  (λb J _=>i.old b J)
  (λk K b f a n g=>by subst f;rw[bG]at a;simp at a;subst a;rw[bP]at g;exact⟨(z b n g).2, .inl (z b n g).1⟩)
  (λk O _ _ _ f t _ _ _ _ _ _=>f.trans t.symm)
  (λk m kt q rest last f o=>by
   by_cases e:k=N
   ·subst e;rw[bG]at f;simp at f;obtain⟨l,u⟩:=j m kt q rest last f;have y:m≠k:=λe=>by rw[e,s]at u;simp at u
    exact⟨l,by rw[bE _ _ _ y];exact u,λ_=>rfl⟩
   ·rw[bE _ _ _ e]at f;have:=hh.mit_old r f;rcases o with o|o
    ·exact absurd o e
    ·exact absurd o this)
  (λk K f a y=>by subst f;rw[bG]at a;simp at a;subst a;exact E y)
 refine⟨_,B,λk L D=>?_,G C,H,C⟩;by_cases e:k=N
 ·omega
 ·rw[gp _ _ _ e]at D;exact absurd L D
theorem bM.set(hh:dq F ρ w h){k:Nat}{n:Ch}(p:h k=some n)(f:n.own=true)(c:Ch)
 (r:∀kt i l,n≠ .lk kt i l)
 (y:∀m kt i rest last,c= .mit m kt i rest last->∃l,h m=some (.lk kt i l))
 (D:w.heap.size<=w'.heap.size) (E:w'.os=w.os) (G:w'.tape=w.tape) (H:w'.output=w.output)
 (J:∀b,b<w.heap.size->(ρ k).blk≠some b->w'.heap[b]?=w.heap[b]?)
 (K:Mv ρ w h ρ w' (cO h k (some c))->vL w' (Av F ρ (cO h k (some c))) ρ k c) (x:V) (v:Value)
 (L:Mv ρ w h ρ w' (cO h k (some c))->aT w' (Av F ρ (cO h k (some c))) ρ x v):
 bM F ρ w h N W x [(k,some c)] v w':=by
 obtain⟨M,C⟩:=hh.step (ρ':=ρ) (w':=w') (h':=cO h k (some c)) (λj=>j=k) (dR.refl ρ) D E G H
  (λj a=>bE _ _ _ a)
  (λb O z=>J b O (z k n rfl p f))
  (λj P b a g Q s=>by
   subst a;have:=(hh.fr j n b p f s).1;exact⟨by omega, .inr ⟨j,n,rfl,p,f,s⟩⟩)
  (λj U _ _ _ a B _ _ _ _ _ _=>a.trans B.symm)
  (λj m kt i rest last a t=>by
   by_cases e:j=k
   ·subst e;rw[bG]at a;simp at a;obtain⟨l,o⟩:=y m kt i rest last a;have u:m≠j:=λe=>by rw[e,p]at o;exact r _ _ _ (Option.some.inj o)
    exact⟨l,by rw[bE _ _ _ u];exact o,λq=>absurd q u⟩
   ·rw[bE _ _ _ e]at a;rcases t with t|t
    ·exact absurd t e
    ·obtain⟨l,o⟩:=hh.it j m kt i rest last a;rw[t,p]at o;exact absurd (Option.some.inj o) (r _ _ _))
  (λj P a g u=>by subst a;rw[bG]at g;simp at g;subst g;exact K u)
 exact⟨_,dR.refl ρ,λ_ R S=>absurd R S,L C,M,C⟩
theorem bM.move(hh:dq F ρ w h)(B:ρ N= .un)(hW:0<W){k:Nat}{s:Ch}(t:h k=some s)(n:s.own=true)(p:Pl)(c:Ch)
 (C:∀kt r l,s≠ .lk kt r l) (D:∀m kt r rest last,c≠ .mit m kt r rest last)
 (O:w.heap.size<=w'.heap.size) (P:w'.os=w.os) (Q:w'.tape=w.tape) (R:w'.output=w.output)
 (S:∀b,b<w.heap.size->(ρ k).blk≠some b->w'.heap[b]?=w.heap[b]?)
 (J:∀b,c.own=true->p.blk=some b->b<w'.heap.size/\((ρ k).blk=some b\/w.heap.size<=b))
 (U:Mv ρ w h (gd ρ N p) w' (cO (cO h k none) N (some c))->vL w' (Av F (gd ρ N p) (cO (cO h k none) N (some c))) (gd ρ N p) N c) (x:V) (v:Value)
 (X:Mv ρ w h (gd ρ N p) w' (cO (cO h k none) N (some c))->aT w' (Av F (gd ρ N p) (cO (cO h k none) N (some c))) (gd ρ N p) x v):
 bM F ρ w h N W x [(k,none),(N,some c)] v w':=by
 have K:=qo B p;have i:k≠N:=λe=>by have:=hh.fresh B;rw[e,this]at t;simp at t
 obtain⟨Y,L⟩:=hh.step (ρ':=gd ρ N p) (w':=w') (h':=cO (cO h k none) N (some c)) (λj=>j=N\/j=k) K O P Q R
  (λj f=>by rw[bE _ _ _ (λe=>f (.inl e)),bE _ _ _ (λe=>f (.inr e))])
  (λb hb E=>S b hb (E k s (.inr rfl) t n))
  (λj c' b f a u o=>by
   rcases f with rfl|rfl
   ·rw[bG]at a;simp at a;subst a;rw[bP]at o;refine⟨(J b u o).1,?_⟩;rcases(J b u o).2 with q|q
    ·exact .inr ⟨_,s, .inr rfl,t,n,q⟩
    ·exact .inl q
   ·rw[bE _ _ _ i,bG]at a;simp at a)
  (λj j' c1 c2 b f G z y _ _ _ _=>by
   rcases f with rfl|rfl<;>rcases G with rfl|rfl
   ·rfl
   ·rw[bE _ _ _ i,bG]at y;simp at y
   ·rw[bE _ _ _ i,bG]at z;simp at z
   ·rfl)
  (λj m kt r rest last f g=>by
   by_cases e:j=N
   ·subst e;rw[bG]at f;simp at f;exact absurd f (D m kt r rest last)
   ·rw[bE _ _ _ e]at f;by_cases H:j=k
    ·subst H;rw[bG]at f;simp at f
    ·rw[bE _ _ _ H]at f;have q1:=hh.mit_old B f
     have q2:m≠k:=λe=>by
      obtain⟨l,M⟩:=hh.it j m kt r rest last f;rw[e,t]at M;exact C _ _ _ (Option.some.inj M)
     rcases g with g|g<;>rcases g with g|g
     ·exact absurd g e
     ·exact absurd g H
     ·exact absurd g q1
     ·exact absurd g q2)
  (λj c' f a hm=>by
   rcases f with rfl|rfl
   ·rw[bG]at a;simp at a;subst a;exact U hm
   ·rw[bE _ _ _ i,bG]at a;simp at a)
 refine⟨_,K,λj z y=>?_,X L,Y,L⟩;by_cases e:j=N
 ·omega
 ·rw[gp _ _ _ e]at y;exact absurd z y
end
end
section
inductive Tr (R:Type):Type 1 where
 |leaf (r:R)
 |ite (b:Bool) (x y:Tr R)
 |need (p:Prop) (x:Tr R)
 |all (β:Type) (p:β->Prop) (k:β->Tr R)
 |fin
 |stuck
def Tr.sat{R:Type}:Tr R->(R->Prop)->Prop
 | .leaf r,Q=>Q r
 | .ite b x y,Q=>(b=true->x.sat Q)/\(b=false->y.sat Q)
 | .need p x,Q=>p/\x.sat Q
 | .all _ p k,Q=>∀b,p b->(k b).sat Q
 | .fin,_=>True
 | .stuck,_=>False
def Tr.bind{R S:Type}:Tr R->(R->Tr S)->Tr S
 | .leaf r,f=>f r
 | .ite b x y,f=> .ite b (x.bind f) (y.bind f)
 | .need p x,f=> .need p (x.bind f)
 | .all β p k,f=> .all β p λb=>(k b).bind f
 | .fin,_=> .fin
 | .stuck,_=> .stuck
theorem cH{R S:Type}{f:R->Tr S}{Q:S->Prop}:∀{x:Tr R},(x.bind f).sat Q↔x.sat λr=>(f r).sat Q
 | .leaf _=>Iff.rfl
 | .ite _ x y=>by simp only[Tr.bind,Tr.sat,cH (x:=x),cH (x:=y)]
 | .need _ x=>by simp only[Tr.bind,Tr.sat,cH (x:=x)]
 | .all _ p k=>by simp only[Tr.bind,Tr.sat];exact⟨λh b a=>cH.1 (h b a),λh b a=>cH.2 (h b a)⟩
 | .fin=>Iff.rfl
 | .stuck=>Iff.rfl
theorem bX{R:Type}{Q c:R->Prop}(a:∀r,Q r->c r):∀{x:Tr R},x.sat Q->x.sat c
 | .leaf _,h=>a _ h
 | .ite _ _ _,h=>⟨λb=>bX a (h.1 b),λb=>bX a (h.2 b)⟩
 | .need _ _,h=>⟨h.1,bX a h.2⟩
 | .all _ _ _,h=>λb e=>bX a (h b e)
 | .fin,_=>trivial
 | .stuck,h=>h
def Tr.needs{R:Type}(l:List Prop)(x:Tr R):Tr R:=match l with
 |[]=>x
 |p::r=> .need p (Tr.needs r x)
theorem s9{R:Type}{Q:R->Prop}{x:Tr R}:∀{l:List Prop},(Tr.needs l x).sat Q↔(∀p∈l,p)/\x.sat Q
 |[]=>by simp[Tr.needs]
 |p::r=>by simp only[Tr.needs,Tr.sat,s9 (l:=r),bt,forall_eq_or_imp,and_assoc]
def Tr.ofOpt{R:Type}:Option R->Tr R
 |some r=> .leaf r
 |none=> .stuck
theorem BQ{R:Type}{Q:R->Prop}{x:Option R}(h:(Tr.ofOpt x).sat Q):∃r,x=some r/\Q r:=by
 cases x with
 |none=>exact h.elim
 |some r=>exact⟨r,rfl,h⟩
def Sc.asD(t:Ty)(s:Sc):Option t.den:=
 match s,t with
 | .bool b, .bl=>some b
 | .i64 n, .i64=>some n
 | .i32 n, .i32=>some n
 | .u8 x, .u8=>some x
 | .u64 x, .u64=>some x
 | .str s, .st=>some s
 |_,_=>none
theorem a0o{w:World}{A:Nat->Prop}{t:Ty}{s:Sc}{x:t.den}(h:s.asD t=some x):Rd w A t x [s.val]:=by
 cases s<;>cases t<;>simp[Sc.asD]at h<;>subst h<;>rfl
def I.asD(t:Ty):I->Option t.den
 | .k s=>s.asD t
 | .d c x=>Ty.cast c t x
 | .cut e l=>match t with
   | .sl f=>Ty.cast (.sl e) (.sl f) l
   |_=>none
 | .nils=>match t with
   | .sl _=>some []
   |_=>none
 | .pv c x=>match t with
   | .pf g=>Ty.cast c g x
   |_=>none
 | .fmp a b l=>match t with
   | .fm h i=>Ty.cast (.fm a b) (.fm h i) l
   |_=>none
 |_=>none
theorem I.asD_ok{w:World}{A:Nat->Prop}{ρ:Nat->Pl}{t:Ty}{i:I}{x:t.den}{vs:List Value}(h:i.asD t=some x)(c:bj w A ρ i vs):Rd w A t x vs:=by
 cases i<;>simp only[I.asD]at h
 case k s=>simp only[bj]at c;rw[c];exact Hv.a0o h
 case d f y=>obtain⟨e,rfl⟩:=Ty.cast_ok h;subst e;exact c
 case cut e l=>
  split at h
  case h_2=>simp at h
  obtain⟨q,rfl⟩:=Ty.cast_ok h;simp at q;subst q;obtain⟨v,g,j,_⟩:=c;exact⟨v,g,j⟩
 case nils=>
  split at h<;>simp at h;subst h;simp only[bj]at c;exact⟨_,c, .inr ⟨rfl,none,rfl⟩⟩
 case pv f y=>
  split at h
  case h_2=>simp at h
  obtain⟨e,rfl⟩:=Ty.cast_ok h;subst e;exact c
 case fmp a b l=>
  split at h
  case h_2=>simp at h
  obtain⟨e,rfl⟩:=Ty.cast_ok h;simp at e;obtain⟨rfl,rfl⟩:=e;exact c
 all_goals (simp at h)
def ud{α:Type}(x:Option α)(l:List I):Option (α×List I):=match x with
 |some y=>some (y,l)
 |none=>none
def vV{α:Type}(f:List I->Option (α×List I)):Nat->List I->Option (List α×List I)
 |0,l=>some ([],l)
 |n+1,l=>match f l with
  |some (x,r)=>match vV f n r with
   |some (y,s)=>some (x::y,s)
   |none=>none
  |none=>none
def ji:(t:Ty)->List I->Option (t.den×List I)
 | .un,l=>some ((),l)
 | .pr a r,l=>match ji a l with
   |some (x,c)=>match ji r c with
    |some (y,b)=>some ((x,y),b)
    |none=>none
   |none=>none
 | .ar n e,i::l=>match ud (i.asD (.ar n e)) l with
   |some q=>some q
   |none=>vV (ji e) n (i::l)
 |t,i::l=>ud (i.asD t) l
 |_,[]=>none
theorem vW{w:World}{A:Nat->Prop}{ρ:Nat->Pl}{e:Ty}(g:∀{l m:List I}{x:e.den}{vs:List Value},ji e l=some (x,m)->aL w A ρ l vs->∃a b,vs=a++b/\Rd w A e x a/\aL w A ρ m b):∀{n:Nat}{l m:List I}{x:List e.den}{vs:List Value},vV (ji e) n l=some (x,m)->aL w A ρ l vs->∃a b,vs=a++b/\(x.length=n/\dz (Rd w A e) x a)/\aL w A ρ m b
 |0,l,m,x,vs,h,f=>by
  simp[vV]at h;obtain⟨rfl,rfl⟩:=h;exact⟨[],vs,rfl,⟨rfl,rfl⟩,f⟩
 |n+1,l,m,x,vs,h,f=>by
  simp only[vV]at h;split at h
  case h_2=>simp at h
  rename_i y r j;split at h
  case h_2=>simp at h
  rename_i z s o;simp at h;obtain⟨rfl,rfl⟩:=h;obtain⟨c,d,p,q,t⟩:=g j f;obtain⟨i,u,v,⟨B,C⟩,D⟩:=vW g o t;exact⟨c++i,u,by rw[p,v,ay],⟨by simp[B],c,i,rfl,q,C⟩,D⟩
theorem vX{w:World}{A:Nat->Prop}{ρ:Nat->Pl}:∀{t:Ty}{l m:List I}{x:t.den}{vs:List Value},ji t l=some (x,m)->aL w A ρ l vs->∃a b,vs=a++b/\Rd w A t x a/\aL w A ρ m b:=by
 intro t
 have one:∀{t:Ty}{i:I}{l m:List I}{x:t.den}{vs:List Value},ud (i.asD t) l=some (x,m)->aL w A ρ (i::l) vs->∃a b,vs=a++b/\Rd w A t x a/\aL w A ρ m b:=by
  intro t i l m x vs h ⟨a,b,g,B,C⟩;unfold ud at h;split at h<;>simp at h;rename_i y j;obtain⟨rfl,rfl⟩:=h;exact⟨a,b,g,I.asD_ok j B,C⟩
 induction t with
 |un=>intro l m x vs h f;simp[ji]at h;subst h;exact⟨[],vs,rfl,rfl,f⟩
 |pr a r o p=>
  intro l m x vs h f;simp only[ji]at h;split at h
  case h_2=>simp at h
  rename_i y N j;split at h
  case h_2=>simp at h
  rename_i z D E;simp at h;obtain⟨rfl,rfl⟩:=h;obtain⟨c,d,F,s,u⟩:=o j f;obtain⟨v,G,H,J,K⟩:=p E u;exact⟨c++v,G,by rw[F,H,ay],⟨c,v,rfl,s,J⟩,K⟩
 |ar n e L=>
  intro l m x vs h f;cases l with
  |nil=>simp[ji]at h
  |cons i l=>
   simp only[ji]at h;split at h
   ·rename_i q M;simp at h;subst h;exact one M f
   ·exact vW (λs u=>L s u) h f
 |_=>
  intro l m x vs h f;cases l with
  |nil=>simp[ji]at h
  |cons i l=>exact one h f
def so(t:Ty)(l:List I):Option t.den:=match ji t l with
 |some (x,[])=>some x
 |_=>none
theorem iP{w:World}{A:Nat->Prop}{ρ:Nat->Pl}{t:Ty}{l:List I}{x:t.den}{vs:List Value}(h:so t l=some x)(c:aL w A ρ l vs):Rd w A t x vs:=by
 unfold so at h;split at h<;>simp at h;rename_i y f;subst h;obtain⟨a,b,e,g,i⟩:=vX f c;rw[e,i,aW];exact g
def V.asD(t:Ty):V->Option t.den
 | .val g l=>if g=t.agg then so t l else none
 |_=>none
theorem V.asD_ok{w:World}{A:Nat->Prop}{ρ:Nat->Pl}{t:Ty}{x:V}{y:t.den}{v:Value}(h:x.asD t=some y)(a:aT w A ρ x v):iI w A t y v:=by
 unfold V.asD at h;split at h
 case h_2=>simp at h
 rename_i g l;split at h
 case isFalse=>simp at h
 rename_i b;obtain⟨c,e,f⟩:=a;exact⟨c,iP h e,by rw[<-b];exact f⟩
def ka:(t:Ty)->t.den->Nat->Option I
 | .ar _ e,l,j=>if e.size=0 then none else ka e (l.getD (j/e.size) e.df) (j % e.size)
 | .pr a r,x,j=>if j<a.size then ka a x.1 j else ka r x.2 (j-a.size)
 | .un,_,_=>none
 | .bl,x,_=>some (.d .bl x)
 | .i64,x,_=>some (.d .i64 x)
 | .i32,x,_=>some (.d .i32 x)
 | .u8,x,_=>some (.d .u8 x)
 | .u64,x,_=>some (.d .u64 x)
 | .st,x,_=>some (.d .st x)
 | .yl,x,_=>some (.d .yl x)
 | .sl e,x,_=>some (.d (.sl e) x)
 | .pf t,x,_=>some (.pv t x)
 | .fm k v,x,_=>some (.fmp k v x)
theorem DB{w:World}{A:Nat->Prop}{ρ:Nat->Pl}:∀{t:Ty}{x:t.den}{j:Nat}{i:I}{vs:List Value},Rd w A t x vs->j<t.size->ka t x j=some i->∃v,vs[j]?=some v/\bj w A ρ i [v]:=by
 intro t
 induction t with
 |ar n e D=>
  intro l j i vs ⟨s,m⟩ f h;simp only[ka]at h;split at h<;>first|(simp at h;done)|skip
  rename_i J;simp only[Ty.size]at f;have o:0<e.size:=by omega
  have B:j/e.size<l.length:=by rw[s];exact Nat.div_lt_of_lt_mul (by rw[Nat.mul_comm];exact f)
  obtain⟨E,K⟩:=dz.get (λ_ _=>Rd.length) m (ap B);have F:l.getD (j/e.size) e.df=l[j/e.size]:=by simp[bB,ap B]
  rw[F]at h;obtain⟨v,p,q⟩:=D E (Nat.mod_lt _ o) h;refine⟨v,?_,q⟩;rw[iF (Nat.mod_lt _ o),iO]at p;rw[<-p]
  congr 1
  rw[Nat.mul_comm];exact(Nat.div_add_mod j e.size).symm
 |pr a r u y=>
  intro x j i vs ⟨c,d,e,s,m⟩ f h;have G:=Rd.length s;simp only[ka]at h;simp only[Ty.size]at f;split at h
  ·rename_i C;obtain⟨v,p,q⟩:=u s C h;exact⟨v,by rw[e,bU (by omega)];exact p,q⟩
  ·rename_i C;obtain⟨v,p,q⟩:=y m (by omega) h;exact⟨v,by rw[e,aU (by omega),G];exact p,q⟩
 |un=>intro x j i vs _ f h;simp[ka]at h
 |sl e=>
  intro x j i vs h f g;simp only[ka,Option.some.injEq]at g;subst g;simp only[Ty.size]at f;obtain rfl:j=0:=by omega
  obtain⟨v,rfl,m⟩:=h;exact⟨v,rfl,v,rfl,m⟩
 |pf t=>
  intro x j i vs h f g;simp only[ka,Option.some.injEq]at g;subst g;simp only[Ty.size]at f;obtain rfl:j=0:=by omega
  obtain⟨b,z,H,rfl,m⟩:=h;exact⟨_,rfl,b,z,H,rfl,m⟩
 |fm k v=>
  intro x j i vs h f g;simp only[ka,Option.some.injEq]at g;subst g;simp only[Ty.size]at f;obtain rfl:j=0:=by omega
  obtain⟨b,rfl,m⟩:=h;exact⟨_,rfl,b,rfl,m⟩
 |_=>
  intro x j i vs h f g;simp only[ka,Option.some.injEq]at g;subst g;simp only[Ty.size]at f;obtain rfl:j=0:=by omega
  simp only[Rd]at h;subst h;exact⟨_,rfl,rfl⟩
def yh:I->Nat->Option I
 | .d t x,j=>ka t x j
 |i,_=>some i
def iQ:List I->Nat->Option I
 |[],_=>none
 |i::r,a=>if a<i.size then yh i a else iQ r (a-i.size)
def ue:(t:Ty)->t.den->Nat->I->Option t.den
 | .ar _ e,l,j,i=>if e.size=0 then none else match ue e (l.getD (j/e.size) e.df) (j % e.size) i with
   |some y=>some (l.set (j/e.size) y)
   |none=>none
 | .pr a r,x,j,i=>if j<a.size then(match ue a x.1 j i with
  |some y=>some (y,x.2)
  |none=>none)else(match ue r x.2 (j-a.size) i with
  |some y=>some (x.1,y)
  |none=>none)
 | .un,_,_,_=>none
 | .bl,_,_,i=>i.asD .bl
 | .i64,_,_,i=>i.asD .i64
 | .i32,_,_,i=>i.asD .i32
 | .u8,_,_,i=>i.asD .u8
 | .u64,_,_,i=>i.asD .u64
 | .st,_,_,i=>i.asD .st
 | .yl,_,_,i=>i.asD .yl
 | .sl e,_,_,i=>i.asD (.sl e)
 | .pf t,_,_,i=>i.asD (.pf t)
 | .fm k v,_,_,i=>i.asD (.fm k v)
theorem zM{α:Type}{l:List α}{j:Nat}{v:α}(h:l.length=1)(a:j<1):l.set j v=[v]:=by
 match l,h with
 |[u],_=>
  obtain rfl:j=0:=by omega
  rfl
theorem qp{α:Type}{vs:List α}{q n m:Nat}{v:α}(f:m<n)(h:q*n+n<=vs.length):
 vs.set (q*n+m) v=vs.take (q*n)++((vs.drop (q*n)).take n).set m v++vs.drop (q*n+n):=by
 apply List.ext_getElem?;intro i;have b:(vs.take (q*n)).length=q*n:=by simp;omega
 have a:(((vs.drop (q*n)).take n).set m v).length=n:=by simp;omega
 rw[ay];by_cases c:i<q*n
 ·rw[bU (by omega),iF c,List.getElem?_set_ne (by omega)]
 ·rw[aU (by omega),b];by_cases g:i<q*n+n
  ·rw[bU (by omega)];by_cases e:i=q*n+m
   ·subst e;rw[List.getElem?_set_self (by omega)];have:q*n+m-q*n=m:=by omega
    rw[this,List.getElem?_set_self (by simp;omega)]
   ·rw[List.getElem?_set_ne (by omega),List.getElem?_set_ne (by omega),iF (by omega),iO]
    congr 1;omega
  ·rw[aU (by omega),a,List.getElem?_set_ne (by omega),iO]
   congr 1;omega
theorem IC{w:World}{A:Nat->Prop}{ρ:Nat->Pl}:∀{t:Ty}{x y:t.den}{j:Nat}{i:I}{vs:List Value}{v:Value},Rd w A t x vs->j<t.size->bj w A ρ i [v]->ue t x j i=some y->Rd w A t y (vs.set j v):=by
 intro t
 induction t with
 |ar n e F=>
  intro l y j i vs v ⟨g,p⟩ b m h;simp only[ue]at h;split at h<;>first|(simp at h;done)|skip
  rename_i N;split at h<;>simp at h;rename_i z o;subst h;simp only[Ty.size]at b;have f:0<e.size:=by omega
  have q:j/e.size<l.length:=by rw[g];exact Nat.div_lt_of_lt_mul (by rw[Nat.mul_comm];exact b)
  obtain⟨G,H⟩:=dz.get (λ_ _=>Rd.length) p (ap q);have J:l.getD (j/e.size) e.df=l[j/e.size]:=by simp[bB,ap q]
  rw[J]at o;have K:=F G (Nat.mod_lt _ f) m o;refine⟨by simp[g],?_⟩;have L:=dz.set (λ_ _=>Rd.length) p q K;have s:j=j/e.size*e.size+j % e.size:=by rw[Nat.mul_comm];exact(Nat.div_add_mod j e.size).symm
  have C:=qp (v:=v) (Nat.mod_lt j f) H;rw[<-s]at C;rw[C];exact L
 |pr a r u B=>
  intro x y j i vs v ⟨c,d,e,g,p⟩ b m h;have M:=Rd.length g;simp only[ue]at h;simp only[Ty.size]at b;split at h
  ·rename_i D;split at h<;>simp at h;rename_i z o;subst h;exact⟨c.set j v,d,by rw[e,List.set_append_left _ _ (by omega)],u g D m o,p⟩
  ·rename_i D;split at h<;>simp at h;rename_i z o;subst h;exact⟨c,d.set (j-a.size) v,by rw[e,List.set_append_right _ _ (by omega),M],g,B p (by omega) m o⟩
 |un=>intro x y j i vs v _ b _ h;simp[ue]at h
 |_=>
  intro x y j i vs v h b m E;simp only[ue]at E;simp only[Ty.size]at b;have:=I.asD_ok E m;rw[zM (Rd.length h) b];exact this
def DC:I->Nat->I->Option I
 | .d t x,j,i=>match ue t x j i with
   |some y=>some (.d t y)
   |none=>if t.size=1/\i.size=1 then some i else none
 |_,_,i=>if i.size=1 then some i else none
def jD:List I->Nat->I->Option (List I)
 |[],_,_=>none
 |i::r,a,x=>if a<i.size then(DC i a x).map (·::r)else(jD r (a-i.size) x).map (i:: ·)
section
variable{w:World}{A:Nat->Prop}{ρ:Nat->Pl}
theorem BR{i x:I}{j:Nat}{vs:List Value}(h:bj w A ρ i vs)(b:j<i.size)(a:yh i j=some x):∃v,vs[j]?=some v/\bj w A ρ x [v]:=by
 cases i
 case d t y=>exact DB h b a
 all_goals
  simp only[yh,Option.some.injEq]at a;subst a;have c:=bj.length h;simp only[I.size]at b c;obtain rfl:j=0:=by omega
  match vs,c with
  |[v],_=>exact⟨v,rfl,h⟩
theorem mD:∀{l:List I}{off:Nat}{x:I}{vs:List Value},aL w A ρ l vs->iQ l off=some x->∃v,vs[off]?=some v/\bj w A ρ x [v]
 |[],_,_,_,_,h=>by simp[iQ]at h
 |i::r,off,x,vs,⟨a,b,c,g,m⟩,h=>by
  have n:=bj.length g;simp only[iQ]at h;split at h
  ·rename_i j;obtain⟨v,e,f⟩:=BR g j h;exact⟨v,by rw[c,bU (by omega)];exact e,f⟩
  ·rename_i j;obtain⟨v,e,f⟩:=mD m h;exact⟨v,by rw[c,aU (by omega),n];exact e,f⟩
theorem IE{i x y:I}{j:Nat}{vs:List Value}{v:Value}(h:bj w A ρ i vs)(b:j<i.size)(e:bj w A ρ x [v])(a:DC i j x=some y):bj w A ρ y (vs.set j v):=by
 have single:∀{i:I},bj w A ρ i vs->i.size=1->j<i.size->x.size=1->bj w A ρ x (vs.set j v):=by
  intro i f g b _;rw[zM ((bj.length f).trans g) (by omega)];exact e
 cases i
 case d t z=>
  simp only[DC]at a;split at a
  ·rename_i m l;simp at a;subst a;exact IC h b e l
  ·split at a<;>simp at a;rename_i c;subst a;exact single h c.1 b c.2
 all_goals
  simp only[DC]at a;split at a<;>simp at a;rename_i c;subst a;exact single h rfl b c
theorem mE:∀{l m:List I}{off:Nat}{x:I}{vs:List Value}{v:Value},aL w A ρ l vs->bj w A ρ x [v]->jD l off x=some m->off<vs.length/\aL w A ρ m (vs.set off v)
 |[],_,_,_,_,_,_,_,h=>by simp[jD]at h
 |i::r,m,off,x,vs,v,⟨a,b,c,f,g⟩,j,h=>by
  have o:=bj.length f;simp only[jD]at h;split at h
  ·rename_i n;cases e:DC i off x with
   |none=>simp[e]at h
   |some y=>
    simp[e]at h;subst h;refine⟨by rw[c,aa];omega,a.set off v,b,?_,IE f n j e,g⟩;rw[c,List.set_append_left _ _ (by omega)]
  ·rename_i n;cases e:jD r (off-i.size) x with
   |none=>simp[e]at h
   |some q=>
    simp[e]at h;subst h;obtain⟨s,p⟩:=mE g j e;refine⟨by rw[c,aa];omega,a,b.set (off-i.size) v,?_,f,p⟩;rw[c,List.set_append_right _ _ (by omega),o]
def a0p:(t:Ty)->t.den->Option (List I)
 | .ar _ e,l=>some (l.map λx=> .d e x)
 | .pr a r,x=>some (.d a x.1::iY r x.2)
 |_,_=>none
def Vv:List I->Nat->Option (List I)
 |[],n=>if n=0 then some []else none
 |i::r,n=>if n=0 then some []else if i.size<=n then(Vv r (n-i.size)).map (i:: ·)else none
def Vw:List I->Nat->Option (List I)
 |[],n=>if n=0 then some []else none
 |i::r,n=>if n=0 then some (i::r)else if i.size<=n then Vw r (n-i.size)else none
def gJ:List I->Nat->Option (List I×List I)
 |[],n=>if n=0 then some ([],[])else none
 |i::r,n=>if n=0 then some ([],i::r)else if i.size<=n then(match gJ r (n-i.size)with
  |some (a,b)=>some (i::a,b)
  |none=>none)else none
theorem im:∀{l a b:List I}{n:Nat}{vs:List Value},aL w A ρ l vs->gJ l n=some (a,b)->n<=vs.length/\aL w A ρ a (vs.take n)/\aL w A ρ b (vs.drop n)
 |[],a,b,n,vs,h,e=>by
  simp only[gJ]at e;split at e<;>simp at e;rename_i g;obtain⟨rfl,rfl⟩:=e;subst g;have:vs=[]:=h;subst this;exact⟨aq _,rfl,rfl⟩
 |i::r,a,b,n,vs,hL,e=>by
  obtain⟨c,d,f,j,m⟩:=hL;have o:=bj.length j;simp only[gJ]at e;split at e
  ·rename_i g;simp at e;obtain⟨rfl,rfl⟩:=e;subst g;exact⟨aq _,by simp[aL],by simpa using⟨c,d,f,j,m⟩⟩
  ·split at e
   ·rename_i p;split at e<;>simp at e;rename_i u v q;obtain⟨rfl,rfl⟩:=e;obtain⟨x,s,t⟩:=im m q;refine⟨by rw[f,aa];omega,⟨c,d.take (n-i.size),?_,j,s⟩,?_⟩
    ·rw[f,List.take_append,o,bf (by omega)]
    ·rw[f,List.drop_append,bC (by omega),eS,o];exact t
   ·simp at e
def fT(l:List I)(off n:Nat):Option (List I):=match gJ l off with
 |some (_,b)=>match gJ b n with
  |some (c,_)=>some c
  |none=>none
 |none=>none
theorem gL{l m:List I}{off n:Nat}{vs:List Value}(h:aL w A ρ l vs)(e:fT l off n=some m):off+n<=vs.length/\aL w A ρ m ((vs.drop off).take n):=by
 unfold fT at e;split at e
 case h_2=>simp at e
 rename_i a b g;split at e<;>simp at e;rename_i c d f;subst e;obtain⟨p,_,i⟩:=im h g;obtain⟨j,o,_⟩:=im i f;exact⟨by simp at j;omega,o⟩
def kI(l:List I)(off:Nat)(new:List I):Option (List I):=match gJ l off with
 |some (a,b)=>match gJ b (kG new)with
  |some (_,d)=>some (a++new++d)
  |none=>none
 |none=>none
theorem kJ{l m new:List I}{off:Nat}{vs nv:List Value}(h:aL w A ρ l vs)(i:aL w A ρ new nv)(e:kI l off new=some m):
 off+nv.length<=vs.length/\aL w A ρ m (vs.take off++nv++vs.drop (off+nv.length)):=by
 unfold kI at e;split at e
 case h_2=>simp at e
 rename_i a b n;split at e<;>simp at e;rename_i c d f;subst e;obtain⟨r,o,p⟩:=im h n;obtain⟨j,_,g⟩:=im p f;have q:=aL.length i;rw[<-q]at j g;rw[jz]at g;refine⟨by simp at j;omega,?_⟩;simpa[ay]using aL.append o (aL.append i g)
end
end
section
def kj(P:Program)(t:TypeId):Option Nat:=(P.info? t).map (·.size)
def Va(P:Program)(t:TypeId):Option Nat:=(P.info? t).map (·.bytes)
def ff(P:Program)(t:TypeId):Option Bool:=
 match P.underlying t with
 |some (.struct _)|some (.array _ _)=>some true
 |some _=>some false
 |none=>none
def BS(P:Program)(t:TypeId):Option (Nat×TypeId):=
 match P.underlying t with
 |some (.array n e)=>some (n,e)
 |_=>none
def pS(P:Program)(t:TypeId):Option TypeId:=
 match P.underlying t with
 |some (.slice e)=>some e
 |_=>none
def yi(P:Program)(t:TypeId):Option IntKind:=
 match P.underlying t with
 |some (.int k)=>some k
 |_=>none
def BT(P:Program)(t:TypeId):Bool:=
 match P.underlying t with
 |some .string=>true
 |_=>false
def uf(P:Program)(t:TypeId)(f:Nat):Option (Nat×TypeId):=
 match P.underlying t with
 |some (.struct a)=>match a[f]? with
  |some x=>match P.info? x.type with
   |some i=>if i.size=0 then none else some (x.offset,x.type)
   |none=>none
  |none=>none
 |_=>none
theorem ug{P:Program}{t:TypeId}{n:Nat}(h:kj P t=some n):∃i,P.info? t=some i/\i.size=n:=by
 unfold kj at h;cases a:P.info? t with
 |none=>simp[a]at h
 |some i=>simp[a]at h;exact⟨i,rfl,h⟩
theorem yk{P:Program}{t:TypeId}{n:Nat}(h:Va P t=some n):∃i,P.info? t=some i/\i.bytes=n:=by
 unfold Va at h;cases a:P.info? t with
 |none=>simp[a]at h
 |some i=>simp[a]at h;exact⟨i,rfl,h⟩
theorem ca{P:Program}{t:TypeId}{n:Nat}(h:kj P t=some n)(w:World):(sizeOf t).run P w= .ok n w:=by
 obtain⟨i,a,rfl⟩:=ug h;simp[sizeOf,typeInfo,a]
theorem eV{P:Program}{t:TypeId}{b:Bool}(h:ff P t=some b)(w:World):(isAgg t).run P w= .ok b w:=by
 unfold ff at h;unfold isAgg;cases a:P.underlying t with
 |none=>simp[a]at h
 |some d=>
  rw[bF,run_underlying a];cases d<;>simp[a]at h<;>subst h<;>rfl
theorem cP{P:Program}{t e:TypeId}(h:pS P t=some e):P.underlying t=some (.slice e):=by
 unfold pS at h;split at h
 ·rename_i b a;simp at h;subst h;exact a
 ·simp at h
theorem lC{P:Program}{t e:TypeId}{n:Nat}(h:BS P t=some (n,e)):P.underlying t=some (.array n e):=by
 unfold BS at h;split at h
 ·rename_i b c a;simp at h;obtain⟨rfl,rfl⟩:=h;exact a
 ·simp at h
theorem eK{P:Program}{t:TypeId}{k:IntKind}(h:yi P t=some k):P.underlying t=some (.int k):=by
 unfold yi at h;split at h
 ·rename_i b a;simp at h;subst h;exact a
 ·simp at h
theorem gA{P:Program}{t:TypeId}(h:BT P t=true):P.underlying t=some .string:=by
 unfold BT at h;split at h
 ·rename_i a;exact a
 ·simp at h
theorem cv(b o n:Nat):Addr.add ⟨b,o,none⟩ n=⟨b,o+n,none⟩:=Addr.add_lit b o n
theorem ta{P:Program}{t b:TypeId}{f o:Nat}(h:uf P t f=some (o,b)):
 ∃a x i,P.underlying t=some (.struct a)/\a[f]?=some x/\P.info? x.type=some i/\i.size≠0/\x.offset=o/\x.type=b:=by
 unfold uf at h;split at h
 case h_2=>simp at h
 rename_i a c;split at h
 case h_2=>simp at h
 rename_i x e;split at h
 case h_2=>simp at h
 rename_i i g;split at h<;>simp at h;rename_i j;exact⟨a,x,i,c,e,g,j,h.1,h.2⟩
def Ty.app:Ty->Ty->Ty
 | .un,b=>b
 | .pr a r,b=> .pr a (r.app b)
 |a,b=> .pr a b
def DD(f:TypeId->Option Ty):List Field->Option Ty
 |[]=>some .un
 |x::r=>match f x.type,DD f r with
  |some a,some b=>some (a.app b)
  |_,_=>none
def Ig(P:Program):Nat->TypeId->Option Ty
 |0,_=>none
 |n+1,t=>match P.underlying t with
  |some .bool=>some .bl
  |some (.int .i64)=>some .i64
  |some (.int .i32)=>some .i32
  |some (.int .u8)=>some .u8
  |some (.int .u64)=>some .u64
  |some .string=>some .st
  |some (.slice e)=>(Ig P n e).map .sl
  |some (.array m e)=>(Ig P n e).map (.ar m)
  |some (.struct a)=>DD (Ig P n) a.toList
  |_=>none
def DE(v:Value):Option I:=
 match Qo v with
 |some s=>some (.k s)
 |none=>match v with
  | .slice none 0 0=>some .nils
  | .pointer none=>some .nilp
  | .map none=>some .nilm
  | .nilIface=>some .nili
  | .nilFunc=>some .nilf
  |_=>none
theorem zN{w:World}{A:Nat->Prop}{ρ:Nat->Pl}{v:Value}{i:I}(h:DE v=some i):bj w A ρ i [v]:=by
 unfold DE at h;split at h
 ·rename_i s a;simp at h;subst h;simp only[bj,IA a]
 ·split at h<;>simp at h<;>subst h<;>rfl
def IF:Value->Bool
 | .int .u8 n=>n==0
 |_=>false
theorem IG{v:Value}(h:IF v=true):v=cm 0:=by
 unfold IF at h;split at h
 ·simp at h;subst h;rfl
 ·simp at h
def DF(f:List Value->Option (List I×List Value)):Nat->List Value->Option (List I×List Value)
 |0,c=>some ([],c)
 |n+1,c=>match f c with
  |some (a,r)=>match DF f n r with
   |some (b,q)=>some (a++b,q)
   |none=>none
  |none=>none
def DG(f:TypeId->List Value->Option (List I×List Value)):List Field->List Value->Option (List I×List Value)
 |[],c=>some ([],c)
 |x::l,c=>match f x.type c with
  |some (a,r)=>match DG f l r with
   |some (b,q)=>some (a++b,q)
   |none=>none
  |none=>none
def Vb(P:Program):Nat->TypeId->List Value->Option (List I×List Value)
 |0,_,_=>none
 |n+1,t,a=>match P.underlying t with
  |some (.array m e)=>
   if 8<m/\yi P e=some .u8 then
    if(a.take m).all IF&&decide (m<=a.length)then some ([.d (.ar m .u8) (ak m (0:BitVec 8))],a.drop m)else none
   else DF (Vb P n e) m a
  |some (.struct b)=>DG (Vb P n) b.toList a
  |some _=>match a with
   |v::r=>match DE v with
    |some i=>some ([i],r)
    |none=>none
   |[]=>none
  |none=>none
section
variable{w:World}{A:Nat->Prop}{ρ:Nat->Pl}
abbrev DH(w:World)(A:Nat->Prop)(ρ:Nat->Pl)(vs:List Value)(q:List I×List Value):Prop:=∃a,vs=a++q.2/\aL w A ρ q.1 a
theorem zP{f:List Value->Option (List I×List Value)}(c:∀vs q,f vs=some q->DH w A ρ vs q):∀(n:Nat)(vs:List Value)(q:List I×List Value),DF f n vs=some q->DH w A ρ vs q
 |0,vs,q,h=>by simp[DF]at h;subst h;exact⟨[],rfl,rfl⟩
 |n+1,vs,q,h=>by
  simp only[DF]at h;split at h
  case h_2=>simp at h
  rename_i a r e;split at h<;>simp at h;rename_i b o g;subst h;obtain⟨x,i,j⟩:=c _ _ e;obtain⟨y,l,m⟩:=zP c n _ _ g;exact⟨x++y,by rw[i,l,ay],aL.append j m⟩
theorem zQ{f:TypeId->List Value->Option (List I×List Value)}(c:∀t vs q,f t vs=some q->DH w A ρ vs q):∀(l:List Field)(vs:List Value)(q:List I×List Value),DG f l vs=some q->DH w A ρ vs q
 |[],vs,q,h=>by simp[DG]at h;subst h;exact⟨[],rfl,rfl⟩
 |x::l,vs,q,h=>by
  simp only[DG]at h;split at h
  case h_2=>simp at h
  rename_i a r e;split at h<;>simp at h;rename_i b o g;subst h;obtain⟨x,i,j⟩:=c _ _ _ e;obtain⟨y,m,n⟩:=zQ c l _ _ g;exact⟨x++y,by rw[i,m,ay],aL.append j n⟩
theorem td:∀(vs:List Value),vs.all IF=true->dz (Rd w A .u8) (ak vs.length (0:BitVec 8)) vs
 |[],_=>rfl
 |v::r,h=>by
  simp only[List.all_cons,aI]at h;exact⟨[v],r,rfl,by rw[IG h.1];rfl,td r h.2⟩
theorem ym{P:Program}:∀(n:Nat)(t:TypeId)(vs:List Value)(q:List I×List Value),Vb P n t vs=some q->DH w A ρ vs q
 |0,_,_,_,h=>by simp[Vb]at h
 |n+1,t,vs,q,h=>by
  simp only[Vb]at h;split at h
  ·split at h
   ·split at h<;>simp at h;rename_i a;simp only[aI,ai]at a;subst h;refine⟨vs.take _,(dI _ _).symm,aL.single ⟨by simp,?_⟩⟩;have:=td (w:=w) (A:=A) _ a.1;rw[be,eB a.2]at this;exact this
   ·exact zP (ym n _) _ _ _ h
  ·exact zQ (ym n) _ _ _ h
  ·split at h
   ·split at h<;>simp at h;rename_i i b;subst h;exact⟨[_],rfl,aL.single (zN b)⟩
   ·simp at h
  ·simp at h
end
def zT(P:Program)(t:TypeId):Option (Bool×List I):=
 match P.info? t with
 |some i=>match i.zero with
  |some z=>match Vb P 12 t z.cells.toList with
   |some (l,[])=>match z with
    | .agg _=>some (true,l)
    | .tuple _=>none
    |_=>some (false,l)
   |_=>none
  |none=>none
 |none=>none
theorem oX{P:Program}{t:TypeId}{g:Bool}{l:List I}(h:zT P t=some (g,l)):∃i z,P.info? t=some i/\i.zero=some z/\∀w A ρ,aT w A ρ (.val g l) z:=by
 unfold zT at h;split at h
 case h_2=>simp at h
 rename_i i j;split at h
 case h_2=>simp at h
 rename_i z m;split at h
 case h_2=>simp at h
 rename_i p n;refine⟨i,z,j,m,λw A ρ=>?_⟩;obtain⟨a,e,b⟩:=ym (w:=w) (A:=A) (ρ:=ρ) _ _ _ _ n;simp only[aW]at e;subst e;split at h
 ·simp at h;obtain⟨rfl,rfl⟩:=h;exact⟨_,b,by simp[Value.cells]⟩
 ·simp at h
 ·rename_i c f;simp at h;obtain⟨rfl,rfl⟩:=h;refine⟨[z],?_,by simp⟩;have o:z.cells= #[z]:=by cases z<;>first|rfl|(exact absurd rfl (c _))|(exact absurd rfl (f _))
  rw[o]at b;exact b
def dl(P:Program)(F:Nat->Prop)(ρ:Nat->Pl)(w:World)(h:Nat->Option Ch)(N W:Nat)(s:Sem Value)(t:Tr (V×dN)):Prop:=
 ∀R,t.sat R->∃r a q,s.run P w= .ok r a/\R q/\bM F ρ w h N W q.1 q.2 r a
section
variable{P:Program}{F:Nat->Prop}{ρ:Nat->Pl}{w:World}{h:Nat->Option Ch}{N W:Nat}{s:Sem Value}
theorem dl.stuck:dl P F ρ w h N W s .stuck:=λ_ a=>a.elim
theorem dl.leaf{y:V}{a:dN}{r:Value}{w':World}(b:s.run P w= .ok r w')(c:bM F ρ w h N W y a r w'):dl P F ρ w h N W s (.leaf (y,a)):=λ_ e=>⟨r,w',_,b,e,c⟩
theorem dl.pure(hh:dq F ρ w h){y:V}{r:Value}(a:s.run P w= .ok r w)(b:aT w (Av F ρ h) ρ y r):dl P F ρ w h N W s (.leaf (y,[])):= .leaf a (bM.pure hh b)
theorem dl.need{p:Prop}{t:Tr (V×dN)}(b:p->dl P F ρ w h N W s t):dl P F ρ w h N W s (.need p t):=λR a=>b a.1 R a.2
theorem dl.needs{l:List Prop}{t:Tr (V×dN)}(a:(∀p∈l,p)->dl P F ρ w h N W s t):dl P F ρ w h N W s (.needs l t):=λR b=>let q:=s9.1 b;a q.1 R q.2
theorem dl.ite{b:Bool}{x y:Tr (V×dN)}(c:b=true->dl P F ρ w h N W s x)(e:b=false->dl P F ρ w h N W s y):dl P F ρ w h N W s (.ite b x y):=λR a=>by
 cases b
 ·exact e rfl R (a.2 rfl)
 ·exact c rfl R (a.1 rfl)
theorem dl.ofOpt{x:Option (V×dN)}(a:∀q,x=some q->∃r w',s.run P w= .ok r w'/\bM F ρ w h N W q.1 q.2 r w'):dl P F ρ w h N W s (Tr.ofOpt x):=by
 cases x with
 |none=>exact .stuck
 |some q=>obtain⟨r,w',b,c⟩:=a q rfl;exact .leaf b c
end
def V.one?:V->Option I
 | .val false [i]=>some i
 |_=>none
theorem IH{x:V}{i:I}(h:x.one?=some i):x=sc i:=by
 unfold V.one? at h;split at h
 ·simp at h;subst h;rfl
 ·simp at h
theorem aN{w:World}{A:Nat->Prop}{ρ:Nat->Pl}{x:V}{i:I}{v:Value}(h:x.one?=some i)(a:aT w A ρ x v):bj w A ρ i [v]:=by
 rw[IH h]at a;exact aJ.1 a
theorem iR{P:Program}(w:World)(blk o:Nat)(cs:List Value)(h:∀i v,cs[i]?=some v->w.cell? ⟨blk,o+i,none⟩=some v):
 (loadCells ⟨blk,o,none⟩ cs.length).run P w= .ok cs.toArray w:=
 run_loadCells_list w _ cs λj v a=>by rw[cv];exact h j v a
theorem jj{vs:List Value}{off n:Nat}{w:World}{blk o:Nat}(h:∀i v,vs[i]?=some v->w.cell? ⟨blk,o+i,none⟩=some v):
 ∀i v,((vs.drop off).take n)[i]?=some v->w.cell? ⟨blk,o+off+i,none⟩=some v:=by
 intro i v a;rw[List.getElem?_take]at a;split at a
 ·rw[iO]at a;rw[eO];exact h _ _ a
 ·simp at a
def qr(P:Program)(t:TypeId)(l:List I)(off:Nat):Option V:=
 match ff P t,kj P t with
 |some true,some n=>(fT l off n).map λm=> .val true m
 |some false,some _=>(iQ l off).map sc
 |_,_=>none
theorem kK{P:Program}{w:World}{A:Nat->Prop}{ρ:Nat->Pl}{t:TypeId}{l:List I}{off:Nat}{y:V}{vs:List Value}{b o:Nat}(e:qr P t l off=some y)(z:aL w A ρ l vs)(B:∀i v,vs[i]?=some v->w.cell? ⟨b,o+i,none⟩=some v):
 ∃r,(Instr.loadAt t (.pointer (some ⟨b,o+off,none⟩))).run P w= .ok r w/\aT w A ρ y r:=by
 unfold qr at e;split at e
 case h_3=>simp at e
 ·rename_i n f p;cases g:fT l off n with
  |none=>simp[g]at e
  |some m=>
   simp[g]at e;subst e;obtain⟨C,x⟩:=gL z g;have q:((vs.drop off).take n).length=n:=by simp;omega
   have a:=iR (P:=P) w b (o+off) _ (jj (n:=n) B);rw[q]at a;refine⟨.agg ((vs.drop off).take n).toArray,?_,⟨_,x,by simp⟩⟩;simp only[Instr.loadAt,rY,bF,bA,aX,loadVar,eV f,ca p,if_true,a]
 ·rename_i n f p;cases g:iQ l off with
  |none=>simp[g]at e
  |some c=>
   simp[g]at e;subst e;obtain⟨u,C,x⟩:=mD z g;have j:=B off u C;refine⟨u,?_,aJ.2 x⟩;simp only[Instr.loadAt,rY,bF,bA,aX,loadVar,eV f,cu,if_false,run_load,j]
theorem nr{w:World}{b:Nat}{cs:Array Value}{ty:TypeId}(h:w.heap[b]?=some (.cells cs ty (0,0))):∀i v,cs.toList[i]?=some v->w.cell? ⟨b,0+i,none⟩=some v:=by
 intro i v a;rw[bN,cell_of_row w b i cs ty (0,0) h];simpa using a
theorem Qp{w:World}{A:Nat->Prop}{e:Ty}{l:List e.den}{b n c i:Nat}(h:vU w A e l (.slice (some ⟨b,0,none⟩) n c))(hi:i<n):
 ∃vs,l.length=n/\Rd w A e (l.getD i e.df) vs/\∀j v,vs[j]?=some v->w.cell? ⟨b,i*e.size+j,none⟩=some v:=by
 rcases h with⟨t,cap,cells,m,u,g,x,o,y,z,p,q⟩|⟨_,a,g⟩
 ·simp at g;obtain⟨rfl,rfl,rfl⟩:=g;obtain⟨r,B⟩:=dz.get (λ_ _=>Rd.length) p (ap hi);refine⟨_,rfl,by rw[show l.getD i e.df=l[i]by simp[bB,ap hi]];exact r,λj v f=>?_⟩;rw[List.getElem?_take]at f;split at f
  ·rw[iO]at f;rw[cell_of_row w b _ cells m (0,0) o,<-f,<-q];rw[iF (by omega)];simp
  ·simp at f
 ·simp at g;omega
def vY(P:Program)(t:TypeId)(x:V)(b:Nat->Option Ch):Option V:=
 match x.one? with
 |some (.ptr k c)=>match b k with
  |some (.cells l)=>qr P t l c
  |some (.fc l)=>qr P t l c
  |_=>none
 |some (.pes k e i a)=>match b k with
  |some (.sl f l)=>match Ty.deq f e with
   |some q=>qr P t (iY e ((q.down▸l:List e.den).getD i e.df)) a
   |none=>none
  |_=>none
 |some (.pv g y)=>qr P t (iY g y) 0
 |_=>none
theorem vZ{P:Program}{F:Nat->Prop}{ρ:Nat->Pl}{w:World}{h j:Nat->Option Ch}{N W:Nat}{t:TypeId}{x:V}{v:Value}
 (hh:dq F ρ w h) (B:∀k b,j k=some b->h k=some b) (C:aT w (Av F ρ h) ρ x v):dl P F ρ w h N W (Instr.loadAt t v) (Tr.ofOpt ((vY P t x j).map (·,[]))):=by
 refine .ofOpt λq D=>?_;cases a:vY P t x j with
 |none=>simp[a]at D
 |some y=>
  simp[a]at D;subst D
  suffices K:∃r,(Instr.loadAt t v).run P w= .ok r w/\aT w (Av F ρ h) ρ y r by
   obtain⟨r,g,L⟩:=K;exact⟨r,w,g,bM.pure hh L⟩
  unfold vY at a;split at a
  case h_4=>simp at a
  ·rename_i k E m;obtain⟨_,⟨b,p,rfl⟩,g⟩:=aN m C;simp at g;subst g;simp only at p;split at a
   case h_3=>simp at a
   ·rename_i l z;obtain⟨M,O,ty,f,G,H⟩:=hh.ok k _ (B k _ z);rw[p]at f;simp at f;subst f;have:=kK a H (nr G)
    rwa [bN]at this
   ·rename_i l z;obtain⟨M,Q,f,_,_,H,R⟩:=hh.ok k _ (B k _ z);rw[p]at f;simp at f;subst f;have:=kK (o:=0) a H (by simpa using R)
    rwa [bN]at this
  ·rename_i k e i J m;obtain⟨b,n,c,p,S,g⟩:=aN m C;simp at g;subst g;split at a
   case h_2=>simp at a
   rename_i e' l z;split at a
   case h_2=>simp at a
   rename_i q _;obtain⟨q⟩:=q;subst q;obtain⟨u,f,G⟩:=hh.ok k _ (B k _ z);rw[p]at f;simp at f;subst f;obtain⟨Q,_,U,X⟩:=Qp G S;exact kK a (fS.2 U) X
  ·rename_i t' y' m;obtain⟨b,E,O,g,_,_,Y,h5⟩:=aN m C;simp at g;subst g;exact kK a (fS.2 Y) h5
end
section
section
variable{w:World}{A:Nat->Prop}{ρ:Nat->Pl}
def II(P:Program)(t:TypeId)(l:List I)(off:Nat)(y:V):Option (List I):=
 match kj P t,y with
 |some n, .val true m=>if kG m=n then kI l off m else none
 |some n, .val false [c]=>if n=1 then jD l off c else none
 |_,_=>none
theorem zR{P:Program}{t:TypeId}{l m:List I}{off:Nat}{y:V}{u:Value}{vs:List Value}(h:II P t l off y=some m)(p:aL w A ρ l vs)(q:aT w A ρ y u):
 kj P t=some u.cells.size/\off+u.cells.toList.length<=vs.length/\aL w A ρ m (vs.take off++u.cells.toList++vs.drop (off+u.cells.toList.length))/\∀v∈u.cells.toList,v.oneCell'=true:=by
 have r:∀{g i},y= .val g i->aL w A ρ i u.cells.toList:=λe=>eb (by rw[<-e];exact q);unfold II at h;split at h
 case h_3=>simp at h
 ·rename_i n C b;split at h
  case isFalse=>simp at h
  rename_i o;have a:=r rfl;obtain⟨s,x⟩:=kJ p a h;have:=aL.length a;exact⟨by rw[b,<-o,<-this];simp,s,x,aL.one a⟩
 ·rename_i n c b;split at h
  case isFalse=>simp at h
  rename_i o;subst o;have f:=aJ.1 q
  have a:u.cells.toList=[u]:=by
   have:=bj.one f u (by simp);cases u<;>first|rfl|(simp[dH]at this)
  obtain⟨z,B⟩:=mE p f h;have j:u.cells.size=1:=by have:=aH ah a;simpa using this
  refine⟨by rw[b,j],by rw[a];simp;omega,?_,by rw[a];exact bj.one f⟩;rw[a]
  have:vs.take off++[u]++vs.drop (off+[u].length)=vs.set off u:=by
   rw[List.set_eq_take_append_cons_drop,am z];simp
  rw[this];exact B
end
theorem eW(P:Program){w:World}{b off:Nat}{cs:Array Value}{ty:TypeId}{nv:List Value}(g:w.heap[b]?=some (.cells cs ty (0,0)))(j:off+nv.length<=cs.size)(i:∀v∈nv,v.oneCell'=true):
 ∃w' a,(storeCells ⟨b,off,none⟩ nv).run P w= .ok () w'/\w'.heap[b]?=some (.cells a ty (0,0))/\a.toList=cs.toList.take off++nv++cs.toList.drop (off+nv.length)/\
  w'.heap.size=w.heap.size/\w'.os=w.os/\w'.tape=w.tape/\w'.output=w.output/\∀e,e≠b->w'.heap[e]?=w.heap[e]?:=by
 have c:=run_storeCells_at P b off ty nv 0 cs w g (by omega) i;simp only[Nat.add_zero]at c;exact⟨_,_,c,setRow_heap w b cs _ ty (0,0) g,rfl,by simp[World.setRow],rfl,rfl,rfl,λe f=>setRow_other _ _ _ _ f⟩
theorem oY{P:Program}{w w':World}{t:TypeId}{n:Nat}(a:Addr)(v:Value)(b:kj P t=some n)(c:v.cells.size=n)
 (h:(storeCells a v.cells.toList).run P w= .ok () w'):(Instr.storeAt t (.pointer (some a)) v).run P w= .ok () w':=by
 simp only[Instr.storeAt,rY,bF,bA,aX,storeVar,ca b,c,ne_eq,not_true_eq_false,if_false,h]
theorem nt{α:Type}{l vs nv:List α}{off:Nat}(e:l.take vs.length=vs)(b:vs.length<=l.length)(i:off+nv.length<=vs.length):
 (l.take off++nv++l.drop (off+nv.length)).take (vs.take off++nv++vs.drop (off+nv.length)).length=vs.take off++nv++vs.drop (off+nv.length):=by
 have c:l=vs++l.drop vs.length:=by rw[<-e,be,eB b];simp
 have a:(vs.take off++nv++vs.drop (off+nv.length)).length=vs.length:=by simp;omega
 rw[a];have f:l.take off=vs.take off:=by rw[c,List.take_append_of_le_length (by omega)]
 have g:l.drop (off+nv.length)=vs.drop (off+nv.length)++l.drop vs.length:=by
  conv=>lhs;rw[c]
  rw[List.drop_append_of_le_length (by omega)]
 rw[f,g,<-ay,List.take_append_of_le_length (by rw[a];exact aD _),bf (by rw[a];exact aD _)]
theorem o8{α:Type}{vs nv:List α}{q n m:Nat}(e:m+nv.length<=n):
 vs.take q++(((vs.drop q).take n).take m++nv++((vs.drop q).take n).drop (m+nv.length))++vs.drop (q+n)=vs.take (q+m)++nv++vs.drop (q+m+nv.length):=by
 have a:((vs.drop q).take n).take m=(vs.drop q).take m:=by rw[List.take_take];congr 1;omega
 have b:vs.take (q+m)=vs.take q++(vs.drop q).take m:=by rw[List.take_add]
 have c:((vs.drop q).take n).drop (m+nv.length)++vs.drop (q+n)=vs.drop (q+m+nv.length):=by
  rw[List.drop_take,jz];have:vs.drop (q+n)=(vs.drop (q+(m+nv.length))).drop (n-(m+nv.length)):=by rw[jz];congr 1;omega
  rw[this,dI]
  congr 1
  omega
 rw[a,b];simp only[ay];rw[<-c]
def uh(P:Program)(t:TypeId)(x y:V)(get:Nat->Option Ch):Option (V×dN):=
 match x.one? with
 |some (.ptr k b)=>match get k with
  |some (.cells l)=>match II P t l b y with
   |some m=>some (.tup [],[(k,some (.cells m))])
   |none=>none
  |_=>none
 |some (.pes k e i a)=>match get k with
  |some (.sl c l)=>match Ty.deq c e with
   |some q=>match II P t (iY e ((q.down▸l:List e.den).getD i e.df)) a y with
    |some m=>match so e m with
     |some z=>some (.tup [],[(k,some (.sl e ((q.down▸l:List e.den).set i z)))])
     |none=>none
    |none=>none
   |none=>none
  |_=>none
 |_=>none
theorem nu{P:Program}{F:Nat->Prop}{ρ:Nat->Pl}{w:World}{h get:Nat->Option Ch}{N W:Nat}{t:TypeId}{x y:V}{v u:Value}{q:V×dN}
 (hh:dq F ρ w h) (hg:∀k b,get k=some b->h k=some b) (hx:aT w (Av F ρ h) ρ x v) (hy:aT w (Av F ρ h) ρ y u) (f:uh P t x y get=some q):
 ∃w',(Instr.storeAt t v u).run P w= .ok () w'/\bM F ρ w h N W q.1 q.2 undef w':=by
 unfold uh at f;split at f
 case h_3=>simp at f
 ·rename_i k a3 O;obtain⟨_,⟨b,p,rfl⟩,G⟩:=aN O hx;simp at G;subst G;simp only at p;split at f
  case h_2=>simp at f
  rename_i l Q;split at f
  case h_2=>simp at f
  rename_i m K;simp at f;subst f;have j:=hg k _ Q;obtain⟨H,cs,R,r,S,e3⟩:=hh.ok k _ j;rw[p]at r;simp at r;subst r;obtain⟨U,s,X,Y⟩:=zR K e3 hy;obtain⟨w',o,q1,q2,L,q4,q5,q6,q7,q8⟩:=eW P S (by simpa using s) Y;refine⟨w',oY _ _ U rfl q1,bM.set hh j rfl (.cells m) (by simp) (by simp) (by omega) q5 q6 q7 (λH _ B=>q8 H (λe=>B (by rw[p,e];rfl))) (λC=>?_) _ _ (λ_=>ej)⟩;exact⟨b,o,R,p,q2,by rw[L];exact X.evo C.evo (dR.refl ρ)⟩
 ·rename_i k e i D O;obtain⟨b,n,c,p,hi,G⟩:=aN O hx;simp at G;subst G;split at f
  case h_2=>simp at f
  rename_i E l Q;split at f
  case h_2=>simp at f
  rename_i qq _;obtain⟨qq⟩:=qq;subst qq;split at f
  case h_2=>simp at f
  rename_i m K;split at f
  case h_2=>simp at f
  rename_i z hz;simp at f;subst f;have j:=hg k _ Q;obtain⟨sv,r,S⟩:=hh.ok k _ j;rw[p]at r;simp at r;subst r;rcases S with⟨H,cap,cells,R,us,M,o2,o3,o4,o5,o6,o7⟩|⟨_,a,M⟩
  case inr=>simp at M;omega
  simp at M;obtain⟨rfl,rfl,rfl⟩:=M;obtain⟨r1,r2⟩:=dz.get (λ_ _=>Rd.length) o6 (ap hi);have a0:l.getD i E.df=l[i]:=by simp[bB,ap hi]
  simp only[a0]at K;obtain⟨U,s,X,Y⟩:=zR K (fS.2 r1) hy;have a1:=iP hz X;have J:((us.drop (i*E.size)).take E.size).length=E.size:=by simp;omega
  rw[J]at s
  have a2:us.length<=cells.size:=by
   have:=aH ah o7;simp at this;omega
  obtain⟨w',o,q1,q2,L,q4,q5,q6,q7,q8⟩:=eW P (off:=i*E.size+D) o3 (by simp at s⊢;omega) Y;have g:=dz.set (λ_ _=>Rd.length) o6 hi a1;rw[o8 s]at g;refine⟨w',oY _ _ U rfl q1,bM.set hh j rfl (.sl E (l.set i z)) (by simp) (by simp) (by omega) q5 q6 q7 (λH _ B=>q8 H (λe=>B ?_)) (λC=>?_) _ _ (λ_=>ej)⟩
  ·obtain⟨c',rfl⟩:∃c',c=c'+1:=⟨c-1,by omega⟩;rw[p,e];rfl
  ·refine⟨_,p, .inl ⟨b,c,o,R,_,by simp,o2,q2,by simpa using o4,?_,g.imp (λ_ _=>Rd.evo C.evo),?_⟩⟩
   ·have:o.size=cells.size:=by
     have:=aH ah L;simp at this;rw[this];simp at s;omega
    omega
   ·rw[L];exact nt o7 (by simpa using a2) (by simp at s⊢;omega)
section
variable{P:Program}{F:Nat->Prop}{ρ:Nat->Pl}{w:World}{h:Nat->Option Ch}{N W:Nat}
theorem bM.row(hh:dq F ρ w h)(e:ρ N= .un)(g:0<W){w':World}(cells:Array Value)(ty:TypeId)(a:List I)(c:aL w (Av F ρ h) ρ a cells.toList)
 (i:w'=w.alloc (.cells cells ty)):bM F ρ w h N W (sc (.ptr N 0)) [(N,some (.cells a))] (.pointer (some ⟨w.heap.size,0,none⟩)) w':=by
 subst i;have j:fH w (w.alloc (.cells cells ty)):=fH.alloc w _;refine bM.add hh e g j (.bk w.heap.size) (.cells a) (by simp) (λb _ f=>?_) (λl=>?_) _ _ (λ_=>aJ.2 ⟨_,⟨w.heap.size,bP _ _ _,rfl⟩,rfl⟩)
 ·simp[Pl.blk]at f;subst f;exact⟨aD _,by rw[dX];omega⟩
 ·exact⟨w.heap.size,cells,ty,bP _ _ _,Go.heap_alloc_new w _,c.evo l.evo (qo e _)⟩
def yn(P:Program)(t:TypeId)(N:Nat):Option (V×dN):=
 match zT P t with
 |some (_,l)=>some (sc (.ptr N 0),[(N,some (.cells l))])
 |none=>none
theorem ui(hh:dq F ρ w h)(e:ρ N= .un)(f:0<W){t:TypeId}:dl P F ρ w h N W (Instr.alloc t true (.tuple #[])) (Tr.ofOpt (yn P t N)):=by
 refine .ofOpt λq a=>?_;unfold yn at a;split at a<;>simp at a;rename_i g l j;subst a;obtain⟨i,z,m,b,c⟩:=oX j;refine⟨.pointer (some ⟨w.heap.size,0,none⟩),w.alloc (.cells z.cells t),?_,bM.row hh e f z.cells t l (eb (c _ _ _)) rfl⟩;simp[Instr.alloc,zeroValue,typeInfo,m,b,newVar,newRow]
def Qq(x:V)(N:Nat):Option (V×dN):=
 match x with
 | .val _ l=>some (sc (.ptr N 0),[(N,some (.cells l))])
 |_=>none
theorem yo(hh:dq F ρ w h)(b:ρ N= .un)(c:0<W){t:TypeId}{x:V}{v:Value}(e:aT w (Av F ρ h) ρ x v):dl P F ρ w h N W (Instr.box t v) (Tr.ofOpt (Qq x N)):=by
 refine .ofOpt λq a=>?_;unfold Qq at a;split at a<;>simp at a;rename_i g l;subst a;exact⟨.pointer (some ⟨w.heap.size,0,none⟩),w.alloc (.cells v.cells t),by simp[Instr.box,newVar,newRow],bM.row hh b c v.cells t l (eb e) rfl⟩
end
def I.int?:I->Option Int
 | .k (.i64 n)=>some n
 | .d .i64 n=>some n
 | .k (.i32 n)=>some n
 | .d .i32 n=>some n
 | .k (.u8 x)=>some (x.toNat:Int)
 | .d .u8 (x:BitVec 8)=>some (x.toNat:Int)
 | .k (.u64 x)=>some (x.toNat:Int)
 | .d .u64 (x:BitVec 64)=>some (x.toNat:Int)
 |_=>none
def V.int?(x:V):Option Int:=match x.one? with
 |some i=>i.int?
 |none=>none
theorem jE{w:World}{A:Nat->Prop}{ρ:Nat->Pl}{x:V}{n:Int}{v:Value}(h:x.int?=some n)(b:aT w A ρ x v):∃k,v= .int k n:=by
 unfold V.int? at h;split at h
 case h_2=>simp at h
 rename_i i c;have a:=aN c b;unfold I.int? at h;split at h<;>simp at h<;>subst h<;>simp[bj,Rd,Sc.val,cm,jC]at a<;>exact⟨_,a⟩
def V.nat?(x:V):Option Nat:=match x.one? with
 |some (.k (.i64 n))=>if 0<=n then some n.toNat else none
 |some (.k (.u8 x))=>some x.toNat
 |some (.k (.u64 x))=>some x.toNat
 |_=>none
theorem zU{w:World}{A:Nat->Prop}{ρ:Nat->Pl}{x:V}{n:Nat}{v:Value}(h:x.nat?=some n)(c:aT w A ρ x v):∃k,v= .int k (n:Int):=by
 unfold V.nat? at h;split at h
 ·rename_i m b;have a:=aN b c;split at h<;>simp at h;subst h;simp[bj,Sc.val]at a;subst a;exact⟨_,by rw[pz ‹_›]⟩
 ·rename_i m b;have a:=aN b c;simp at h;subst h;simp[bj,Sc.val,cm]at a;exact⟨_,a⟩
 ·rename_i m b;have a:=aN b c;simp at h;subst h;simp[bj,Sc.val,jC]at a;exact⟨_,a⟩
 ·simp at h
def iS{R:Type}(i:Int)(f:Nat->Tr R):Nat->Nat->Tr R
 |0,_=> .need False .fin
 |n+1,a=> .ite (i==(a:Int)) (f a) (iS i f n (a+1))
theorem kL{R:Type}{i:Int}{f:Nat->Tr R}{Q:R->Prop}:∀{n a:Nat},(iS i f n a).sat Q->∃j,j<a+n/\i=(j:Int)/\(f j).sat Q
 |0,_,h=>h.1.elim
 |n+1,a,h=>by
  simp only[iS,Tr.sat]at h;cases b:(i==(a:Int))
  ·obtain⟨j,g,c,e⟩:=kL (h.2 b);exact⟨j,by omega,c,e⟩
  ·exact⟨a,by omega,by simpa using b,h.1 b⟩
def uj:(t:Ty)->t.den->Nat->Option (Σ b:Ty,b.den)
 | .pr a r,x,n=>if n=0 then some ⟨.pr a r,x⟩else if a.size<=n then uj r x.2 (n-a.size)else none
 |t,x,n=>if n=0 then some ⟨t,x⟩else none
theorem BU{w:World}{A:Nat->Prop}:∀{t:Ty}{x:t.den}{n:Nat}{y:Σ f:Ty,f.den}{vs:List Value},uj t x n=some y->Rd w A t x vs->n<=vs.length/\Rd w A y.1 y.2 (vs.drop n):=by
 intro t
 have one:∀{t:Ty}{x:t.den}{n:Nat}{y:Σ f:Ty,f.den}{vs:List Value},(if n=0 then some (⟨t,x⟩:Σ f:Ty,f.den)else none)=some y->Rd w A t x vs->n<=vs.length/\Rd w A y.1 y.2 (vs.drop n):=by
  intro t x n y vs h b;split at h<;>simp at h;rename_i g;subst g;subst h;exact⟨aq _,by simpa using b⟩
 induction t with
 |pr a r _ i=>
  intro x n y vs h b;simp only[uj]at h;split at h
  ·rename_i g;simp at h;subst g;subst h;exact⟨aq _,by simpa using b⟩
  ·split at h
   case isFalse=>simp at h
   obtain⟨c,d,e,j,l⟩:=b;have m:=Rd.length j;obtain⟨p,o⟩:=i h l;refine⟨by rw[e,aa];omega,?_⟩;rw[e,List.drop_append,bC (by omega),eS,m];exact o
 |_=>intro x n y vs h b;exact one h b
def I.frozen?(i:I)(get:Nat->Option Ch):Option (Σ e:Ty,List e.den):=
 match i with
 | .d (.sl e) l=>some ⟨e,l⟩
 | .cut e l=>some ⟨e,l⟩
 | .own q=>match get q with
   |some (.fr e l)=>some ⟨e,l⟩
   |_=>none
 |_=>none
theorem jF{F:Nat->Prop}{ρ:Nat->Pl}{w:World}{h get:Nat->Option Ch}{i:I}{q:Σ e:Ty,List e.den}{v:Value}(hh:dq F ρ w h)(p:∀k b,get k=some b->h k=some b)(hi:I.frozen? i get=some q)(j:bj w (Av F ρ h) ρ i [v]):
 lW w (Av F ρ h) (Rd w (Av F ρ h) q.1) q.2 v:=by
 unfold I.frozen? at hi;split at hi
 ·simp at hi;subst hi;obtain⟨u,f,g⟩:=j;simp at f;subst f;exact g
 ·simp at hi;subst hi;obtain⟨u,f,g,_⟩:=j;simp at f;subst f;exact g
 ·split at hi<;>simp at hi;rename_i e l r;subst hi;obtain⟨u,f,g⟩:=hh.ok _ _ (p _ _ r);obtain⟨a,n,c,m,o⟩:=j;simp at o;rw[f]at m;simp at m;subst m;subst o;exact g
 ·simp at hi
def fI(P:Program)(t:TypeId)(x i:V)(get:Nat->Option Ch):Tr (V×dN):=
 match x.one? with
 |some (.ptr k a)=>match BS P t with
  |some (n,e)=>match kj P e with
   |some s=>match i.nat? with
    |some j=>if j<n then .leaf (sc (.ptr k (a+j*s)),[])else .stuck
    |none=>match i.int? with
     |some j=>iS j (λq=> .leaf (sc (.ptr k (a+q*s)),[])) n 0
     |none=> .stuck
   |none=> .stuck
  |none=> .stuck
 |some (.own k)=>match get k,i.int?,pS P t with
  |some (.sl e l),some j,some b=>if kj P b=some e.size then .need (0<=j/\j<l.length) (.leaf (sc (.pes k e j.toNat 0),[]))else .stuck
  |some (.fr e l),some j,some b=>if kj P b=some e.size then .need (0<=j/\j<l.length) (.leaf (sc (.pv e (l.getD j.toNat e.df)),[]))else .stuck
  |_,_,_=> .stuck
 |some c=>match c.frozen? get,i.int?,pS P t with
  |some q,some j,some b=>if kj P b=some q.1.size then .need (0<=j/\j<q.2.length) (.leaf (sc (.pv q.1 (q.2.getD j.toNat q.1.df)),[]))else .stuck
  |_,_,_=> .stuck
 |none=> .stuck
section
variable{P:Program}{F:Nat->Prop}{ρ:Nat->Pl}{w:World}{h get:Nat->Option Ch}{N W:Nat}
theorem o9{e:Ty}{l:List e.den}{v:Value}{f:IntKind}{j:Int}{t et:TypeId}(hh:dq F ρ w h)(g:lW w (Av F ρ h) (Rd w (Av F ρ h) e) l v)(m:pS P t=some et)(n:kj P et=some e.size)(o:0<=j/\j<l.length):
 dl P F ρ w h N W (Instr.indexAt t v (.int f j)) (.leaf (sc (.pv e (l.getD j.toNat e.df)),[])):=by
 obtain⟨i,rfl⟩:=bR o.1;have c:i<l.length:=by omega
 rcases g with⟨a,b,cap,p,rfl,z,q,s,u,x⟩|⟨rfl,_⟩
 case inr=>simp at c
 obtain⟨y,B⟩:=dz.get (λ_ _=>Rd.length) u (ap c);refine dl.pure (r:= .pointer (some ⟨a,b+i*e.size,none⟩)) hh ?_ (aJ.2 ⟨a,b+i*e.size,((p.drop (i*e.size)).take e.size),rfl,q,s,?_,jj x⟩)
 ·simp[Instr.indexAt,asIntOf,run_underlying (cP m),c,ca n,cv]
 ·have:l.getD (i:Int).toNat e.df=l[i]:=by simp[bB,ap c]
  rw[this];exact y
theorem ol(hh:dq F ρ w h)(G:∀k b,get k=some b->h k=some b){t:TypeId}{x i:V}{v u:Value}(E:aT w (Av F ρ h) ρ x v)(hi:aT w (Av F ρ h) ρ i u):
 dl P F ρ w h N W (Instr.indexAt t v u) (fI P t x i get):=by
 unfold fI;split
 ·rename_i k p z;obtain⟨_,⟨b,o,rfl⟩,B⟩:=aN z E;simp at B;subst B;simp only at o;split
  case h_2=>exact .stuck
  rename_i n e C;split
  case h_2=>exact .stuck
  rename_i s y
  have go:∀(j:Nat)(f:IntKind),j<n->dl P F ρ w h N W (Instr.indexAt t (.pointer (some ⟨b,p,none⟩)) (.int f (j:Int))) (.leaf (sc (.ptr k (p+j*s)),[])):=by
   intro j f H;refine dl.pure (r:= .pointer (some ⟨b,p+j*s,none⟩)) hh ?_ (aJ.2 ⟨_,⟨b,o,rfl⟩,rfl⟩);have h0:(0:Int)<=j/\(j:Int)<n:=by omega
   simp[Instr.indexAt,asIntOf,run_underlying (lC C),rY,H,ca y,cv]
  split
  ·rename_i j g;obtain⟨f,rfl⟩:=zU g hi;split
   case isFalse=>exact .stuck
   exact go j f ‹_›
  ·split
   case h_2=>exact .stuck
   rename_i j g;obtain⟨f,rfl⟩:=jE g hi;intro R U;obtain⟨q,q1,X,Y⟩:=kL U;rw[X];exact go q f (by omega) R Y
 ·rename_i k z;split
  case h_3=>exact .stuck
  ·rename_i e l j O J g D;obtain⟨f,rfl⟩:=jE g hi;split
   case isFalse=>exact .stuck
   rename_i y;refine .need λo=>?_;obtain⟨a,n,c,B,Q⟩:=aN z E;simp at Q;subst Q;obtain⟨sv,K,e2⟩:=hh.ok k _ (G k _ J);rw[B]at K;simp at K;subst K;obtain⟨m,rfl⟩:=bR o.1;have L:m<l.length:=by omega
   rcases e2 with⟨b,cap,cells,ty,us,S,o2,o3,o4,o5,o6,o7⟩|⟨rfl,_⟩
   case inr=>simp at L
   simp at S;obtain⟨rfl,rfl,rfl⟩:=S;refine dl.pure (r:= .pointer (some ⟨b,m*e.size,none⟩)) hh ?_ (aJ.2 ⟨b,_,_,B,by simpa using L,by simp⟩);simp[Instr.indexAt,asIntOf,run_underlying (cP D),L,ca y,cv]
  ·rename_i e l j O J g D;obtain⟨f,rfl⟩:=jE g hi;split
   case isFalse=>exact .stuck
   rename_i y;refine .need λo=>?_;have M:I.frozen? (.own k) get=some ⟨e,l⟩:=by simp[I.frozen?,J]
   exact o9 hh (jF hh G M (aN z E)) D y o
 ·rename_i it _ _ z;split
  case h_2=>exact .stuck
  rename_i q j O M g D;obtain⟨f,rfl⟩:=jE g hi;split
  case isFalse=>exact .stuck
  rename_i y;exact .need λo=>o9 hh (jF hh G M (aN z E)) D y o
 ·exact .stuck
def io(P:Program)(t:TypeId)(x:V)(f:Nat):Option V:=
 match uf P t f with
 |some (o,_)=>match x.one? with
  |some (.ptr k b)=>some (sc (.ptr k (b+o)))
  |some (.pes k e i a)=>some (sc (.pes k e i (a+o)))
  |some (.pv t y)=>match uj t y o with
   |some z=>some (sc (.pv z.1 z.2))
   |none=>none
  |_=>none
 |none=>none
theorem om(hh:dq F ρ w h){t:TypeId}{x:V}{f:Nat}{v:Value}(p:aT w (Av F ρ h) ρ x v):dl P F ρ w h N W (Instr.fieldAt t v f) (Tr.ofOpt ((io P t x f).map (·,[]))):=by
 refine .ofOpt λq r=>?_;cases g:io P t x f with
 |none=>simp[g]at r
 |some y=>
  simp[g]at r;subst r;unfold io at g;split at g
  case h_2=>simp at g
  rename_i o X H;obtain⟨Y,J,i,K,s,L,M,rfl,_⟩:=ta H
  have go:∀(b a:Nat),(Instr.fieldAt t (.pointer (some ⟨b,a,none⟩)) f).run P w= .ok (.pointer (some ⟨b,a+J.offset,none⟩)) w:=by
   intro b a;simp[Instr.fieldAt,run_underlying K,s,rY,fieldPlace,sizeOf,typeInfo,L,M,cv]
  split at g
  case h_4=>simp at g
  ·rename_i k a m;obtain⟨_,⟨b,B,rfl⟩,l⟩:=aN m p;simp at l g;subst l;subst g;exact⟨_,w,go b a,bM.pure hh (aJ.2 ⟨_,⟨b,B,rfl⟩,rfl⟩)⟩
  ·rename_i k e i' C m;obtain⟨b,n,c,B,D,l⟩:=aN m p;simp at l g;subst l;subst g;exact⟨_,w,go b _,bM.pure hh (aJ.2 ⟨b,n,c,B,D,by simp[eO]⟩)⟩
  ·rename_i t' y' m;split at g<;>simp at g;rename_i z E;subst g;obtain⟨b,a,cs,l,O,Q,R,S⟩:=aN m p;simp at l;subst l;obtain⟨d1,U⟩:=BU E R;refine⟨_,w,go b a,bM.pure hh (aJ.2 ⟨b,_,_,rfl,O,Q,U,λj u G=>?_⟩)⟩;rw[iO]at G;rw[eO];exact S _ _ G
def qs(x:V)(i:Nat):Option V:=
 match x with
 | .tup l=>match l[i]? with
   |some p=>some (.val p.1 p.2)
   |none=>none
 |_=>none
theorem qt(hh:dq F ρ w h){x:V}{i:Nat}{v:Value}(c:aT w (Av F ρ h) ρ x v):dl P F ρ w h N W (Instr.extract v i) (Tr.ofOpt ((qs x i).map (·,[]))):=by
 refine .ofOpt λq a=>?_;unfold qs at a;split at a
 case h_2=>simp at a
 rename_i l;split at a<;>simp at a;rename_i p e;subst a;obtain⟨j,rfl,b⟩:=c;obtain⟨u,f,g⟩:=b.get e;exact⟨u,w,by simp[Instr.extract,f],bM.pure hh g⟩
def qu(P:Program)(t:TypeId)(l:List I)(off:Nat):Option V:=
 match ff P t,kj P t with
 |some true,some n=>(fT l off n).map (.val true ·)
 |some false,some _=>(iQ l off).map sc
 |_,_=>none
theorem pa{A:Nat->Prop}{t:TypeId}{l:List I}{off:Nat}{y:V}{vs:List Value}(i:aL w A ρ l vs)(a:qu P t l off=some y):
 ∃r,(part t vs.toArray off).run P w= .ok r w/\aT w A ρ y r:=by
 unfold qu at a;split at a
 case h_3=>simp at a
 ·rename_i n b f;cases e:fT l off n with
  |none=>simp[e]at a
  |some m=>
   simp[e]at a;subst a;obtain⟨j,g⟩:=gL i e;refine⟨.agg ((vs.drop off).take n).toArray,?_,_,g,by simp⟩;simp[part,eV b,ca f]
 ·rename_i n b f;cases e:iQ l off with
  |none=>simp[e]at a
  |some c=>
   simp[e]at a;subst a;obtain⟨u,j,g⟩:=mD i e;refine⟨u,?_,aJ.2 g⟩;simp[part,eV b,j]
def uk(P:Program)(t:TypeId)(x:V)(f:Nat):Option V:=
 match x with
 | .val true l=>match uf P t f with
   |some (o,a)=>qu P a l o
   |none=>none
 |_=>none
theorem ul(hh:dq F ρ w h){t:TypeId}{x:V}{f:Nat}{v:Value}(g:aT w (Av F ρ h) ρ x v):dl P F ρ w h N W (Instr.field t v f) (Tr.ofOpt ((uk P t x f).map (·,[]))):=by
 refine .ofOpt λq b=>?_;cases a:uk P t x f with
 |none=>simp[a]at b
 |some y=>
  simp[a]at b;subst b;unfold uk at a;split at a
  case h_2=>simp at a
  rename_i l;split at a
  case h_2=>simp at a
  rename_i o u j;obtain⟨z,m,e⟩:=g;simp at e;subst e;obtain⟨B,C,i,n,c,D,E,rfl,rfl⟩:=ta j;obtain⟨r,p,s⟩:=pa (w:=w) m a;exact⟨r,w,by simp[Instr.field,run_underlying n,c,asAgg,p],bM.pure hh s⟩
def yp:List I->List I
 |[]=>[]
 |i::r=>match i with
  | .d (.ar n e) l=>((kz n).map λj=>iY e (l.getD j e.df)).flatten++yp r
  |i=>i::yp r
theorem zV{w:World}{A:Nat->Prop}{ρ:Nat->Pl}{e:Ty}:∀{l:List e.den}{vs:List Value},dz (Rd w A e) l vs->aL w A ρ (l.map (iY e)).flatten vs
 |[],_,h=>h
 |_::_,_,⟨a,b,c,f,g⟩=>by rw[c];exact aL.append (fS.2 f) (zV g)
theorem yq{α:Type}(d:α)(l:List α):(kz l.length).map (λj=>l.getD j d)=l:=by
 refine List.ext_getElem (by simp) λi b a=>?_;rw[List.getElem_map,List.getElem_range,aw,ap a];rfl
theorem zW{w:World}{A:Nat->Prop}{ρ:Nat->Pl}:∀{l:List I}{vs:List Value},aL w A ρ l vs->aL w A ρ (yp l) vs
 |[],_,h=>h
 |i::r,_,⟨a,b,c,f,j⟩=>by
  have g:=zW j;unfold yp;split
  ·rename_i n e l;obtain⟨m,o⟩:l.length=n/\dz (Rd w A e) l a:=f;rw[c];have:=zV (ρ:=ρ) o;rw[<-yq e.df l,m,List.map_map]at this;exact aL.append this g
  ·exact⟨a,b,c,f,g⟩
def DI(P:Program)(e:TypeId)(n s:Nat)(l:List I)(j:Nat):Option V:=match l with
 |[.d (.ar a t) q]=>if a=n/\t.size=s/\t.agg=true/\ff P e=some true then some (.val true (iY t (q.getD j t.df)))else none
 |_=>none
theorem DJ{A:Nat->Prop}{e:TypeId}{n s j:Nat}{l:List I}{y:V}{vs:List Value}(p:aL w A ρ l vs)(c:DI P e n s l j=some y)(u:kj P e=some s)(G:j<n):
 ∃r,(part e vs.toArray (j*s)).run P w= .ok r w/\aT w A ρ y r:=by
 unfold DI at c;split at c
 case h_2=>simp at c
 rename_i v t q;split at c
 case isFalse=>simp at c
 rename_i g;obtain⟨rfl,rfl,H,z⟩:=g;simp at c;subst c;obtain⟨a,b,f,B,o⟩:=p;have o:b=[]:=o;subst o;rw[aW]at f;subst f;obtain⟨J,C⟩:q.length=v/\dz (Rd w A t) q vs:=B;have m:j<q.length:=by omega
 obtain⟨D,K⟩:=dz.get (λx L E=>Rd.length E) (i:=j) (x:=q[j]) C (ap m);refine⟨.agg ((vs.drop (j*t.size)).take t.size).toArray,by simp[part,eV z,ca u],_,fS.2 ?_,rfl⟩;rw[ap m];exact D
def qv(P:Program)(t:TypeId)(x i:V):Tr (V×dN):=
 match x,BS P t with
 | .val true l,some (n,e)=>match kj P e with
   |some s=>match i.nat? with
    |some j=>if j<n then Tr.ofOpt ((qu P e (yp l) (j*s)).map (·,[]))else .stuck
    |none=>match i.int? with
     |some j=>match DI P e n s l j.toNat with
      |some y=> .need (0<=j/\j<(n:Int)) (.leaf (y,[]))
      |none=>iS j (λq=>Tr.ofOpt ((qu P e (yp l) (q*s)).map (·,[]))) n 0
     |none=> .stuck
   |none=> .stuck
 |_,_=> .stuck
theorem um(hh:dq F ρ w h){t:TypeId}{x i:V}{v u:Value}(H:aT w (Av F ρ h) ρ x v)(hi:aT w (Av F ρ h) ρ i u):dl P F ρ w h N W (Instr.index t v u) (qv P t x i):=by
 unfold qv;split
 case h_2=>exact .stuck
 rename_i l n e a;split
 case h_2=>exact .stuck
 rename_i s m;obtain⟨J,f,E⟩:=H;simp at E;subst E;have K:=f;replace f:=zW f;generalize yp l=G at*
 have go:∀(j:Nat)(c:IntKind),j<n->dl P F ρ w h N W (Instr.index t (.agg J.toArray) (.int c (j:Int))) (Tr.ofOpt ((qu P e G (j*s)).map (·,[]))):=by
  intro j c b;refine .ofOpt λq o=>?_;cases p:qu P e G (j*s)with
  |none=>simp[p]at o
  |some y=>
   simp[p]at o;subst o;obtain⟨r,g,z⟩:=pa (w:=w) f p;exact⟨r,w,by simp[Instr.index,asIntOf,run_underlying (lC a),b,ca m,g],bM.pure hh z⟩
 split
 ·rename_i j B;obtain⟨c,rfl⟩:=zU B hi;split
  case isFalse=>exact .stuck
  exact go j c ‹_›
 ·split
  case h_2=>exact .stuck
  rename_i j B;obtain⟨c,rfl⟩:=jE B hi;split
  ·rename_i y L;intro R C;obtain⟨⟨S,U⟩,M⟩:=C;obtain⟨r,g,z⟩:=DJ (w:=w) (A:=Av F ρ h) K L m (by omega);refine⟨r,w,(y,[]),?_,M,bM.pure hh z⟩;obtain⟨D,rfl⟩:∃D:Nat,j=D:=⟨j.toNat,by omega⟩;have b:D<n:=by omega
   rw[aF]at g;simp[Instr.index,asIntOf,run_underlying (lC a),b,ca m,g]
  ·intro R C;obtain⟨q,X,O,Q⟩:=kL C;rw[O];exact go q c (by omega) R Q
end
end
end Go.Hv
