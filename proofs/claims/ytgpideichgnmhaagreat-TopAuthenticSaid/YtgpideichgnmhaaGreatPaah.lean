/- A part of the proof of TopAuthenticSaid: no conditions; packed by a program of our own. -/
import Derived.Test.YtgpideichgnmhaaGreatPaag
open BitVec renaming ofNat→af
open Bool renaming eq_iff_iff→lI,false_eq_true→cf,not_eq_true'→aO,not_eq_true→bX,not_eq_false'→aJ
open Int renaming toNat_natCast→aG,toNat_of_nonneg→pm
open List renaming map_cons→aX,length_append→aa,length_cons→bd,append_assoc→ay,mem_append→aY,drop_of_length_le→bw,take_of_length_le→ba,append_nil→bj,getElem?_eq_getElem→ap,getD→bv,take_append_drop→dC,length→ac,getD_eq_getElem?_getD→az,length_nil→cX,map_append→dl,length_map→bT,map→rU,mem_cons_self→aM,mem_cons_of_mem→aE,take→cS,take_length→bp,length_eq_zero_iff→rY
open Nat renaming le_refl→aC,le_trans→bA,zero_le→aq
namespace Go.Tp
open Go.Hv Go.Proofs Go.RowKit
set_option maxRecDepth 100000
set_option maxHeartbeats 0
abbrev il:Ty:= .pr .i64 (.pr tB (.pr tB .un))
abbrev Mb:=Int×BL×BL×Unit
abbrev r6:Ty:= .pr .i64 (.pr tB (.pr (.sl il) (.pr (.sl ic) (.pr tB (.pr (.sl tB) (.pr tB .un))))))
abbrev Et:=Int×BL×List Mb×List Fk×BL×List BL×BL×Unit
def px(last:Int):List Int→Bool
 |[]=>true
 |n::r=>if n≤last∨5≤n then false else px n r
theorem xq(last n:Int)(r:List Int):px last (n::r)=if n≤last∨5≤n then false else px n r:=rfl
theorem ny{α:Type}{l:List α}{k:Nat}{p:α→Prop}(z:α)(h:∀m∈l.take k,p m)(b:k<l.length)(c:p (l.getD k z)):∀m∈l.take (k+1),p m:=by
 rw[cK (z:=z) b];intro m a;rcases aY.1 a with a|a
 ·exact h m a
 ·simp at a;rw[a];exact c
def sFn(i:Nat)(f:FuncId):Nat×Bool×List IP:=(i,false,[.fn f [] []])
def Yn:Ct:=⟨1,⟨[(0,true,[.d il])],[]⟩,[⟨[sI 0],[]⟩],λ(m,_)=>one True (m.1,())⟩
abbrev Yo(v:Int×Unit):aN Yn.out:=⟨0,v⟩
def Yp:bu:=(141,[Yn])::Ym
theorem a36:KK Yp:=kA a35 (cv Yn 0) (∀(a:Mb)(Q:aN Yn.out→Prop),(Ct.spec Yn (a,())).sat Q→Q (Yo (a.1,()))) (by kernel_rfl) (by
 intro m Q ⟨_,a⟩;exact a)
def Yq:Ct:=⟨1,⟨[(0,true,[.d ic])],[]⟩,[⟨[sI 0],[]⟩],λ(m,_)=>one True (m.1,())⟩
abbrev Yr(v:Int×Unit):aN Yq.out:=⟨0,v⟩
def Ys:bu:=(143,[Yq])::Yp
theorem a37:KK Ys:=kA a36 (cv Yq 0) (∀(a:Fk)(Q:aN Yq.out→Prop),(Ct.spec Yq (a,())).sat Q→Q (Yr (a.1,()))) (by kernel_rfl) (by
 intro m Q ⟨_,a⟩;exact a)
def Yt:Ct:=⟨2,⟨[(0,false,[.d (.sl il)]),sFn 1 141],[]⟩,[⟨[sL 0],[]⟩],λ(l,_)=>one (l.length≤1000000) (px (-1) (l.map (·.1)),())⟩
def rmP:cc:=⟨[sFn 1 141,sI 5,(9,false,[.d (.sl il)]),sI 10,sI 11],[]⟩
def rmI(l:List Mb)(y:rmP.den):Prop:=match y with
 |(a,b,n,i,_)=>b=l∧n=l.length∧∃k:Nat,i=k∧k≤l.length∧px a ((l.drop k).map (·.1))=px (-1) (l.map (·.1))
def rmA(x:Yt.inp.den):dG:=⟨[(3,bM rmP (rmI x.1) λ(_,_,n,i,_)=>(n-i).toNat)],[],[],[],0⟩
abbrev Fl(v:Bool×Unit):aN Yt.out:=⟨0,v⟩
def Yu:bu:=(140,[Yt])::Ys
theorem a38:KK Yu:=kA a37 rmA (∀(c:List Mb)(Q:aN Yt.out→Prop),(Ct.spec Yt (c,())).sat Q→Is (rmI c ((-1:Int),c,(↑c.length:Int),0,()))∧∀(e:Int)(b:List Mb)(d a:Int),let z:=b.getD a.toNat (0,[],[],());rmI c (e,b,d,a,())→Br (decide (a<d)) ((0≤a∧a<(↑b.length:Int))∧True∧Br (decide (z.1≤e)) (Q (Fl (false,()))) (Br (decide (5≤z.1)) (Q (Fl (false,()))) (ae (a+1)∧Is (rmI c (z.1,b,d,a+1,())∧(d-(a+1)).toNat<(d-a).toNat)))) (Q (Fl (true,())))) (by kernel_rfl) (by
 conv=>zeta
 unfold Br;intro l Q ⟨p,b⟩;have c:∀y,px (-1) (l.map (·.1))=y→Q ⟨0,(y,())⟩:=λy e=>by rw[e]at b;exact b
 clear b;refine⟨⟨rfl,rfl,0,rfl,aq _,rfl⟩,?_⟩;rintro f j n i ⟨rfl,rfl,k,rfl,q,a⟩;simp only[ah,aj,aG];refine⟨λh=>?_,λh=>c _ ?_⟩
 ·have o:k<j.length:=by omega
  rw[cW (z:=((0,[],[],()):Mb)) o,aX,xq]at a;generalize j.getD k ((0,[],[],()):Mb)=H at*;refine⟨by omega,trivial,λg=>c _ ?_,λg=>⟨λm=>c _ ?_,λm=>⟨by unfold ae;omega,⟨⟨rfl,rfl,k+1,rfl,by omega,?_⟩,by omega⟩⟩⟩⟩
  ·rw[←a,an (.inl g)]
  ·rw[←a,an (.inr m)]
  ·rw[←a,ag (by omega)]
 ·rw[←a,bw (by omega)];rfl)
def Yv:Ct:=⟨2,⟨[(0,false,[.d (.sl ic)]),sFn 1 143],[]⟩,[⟨[sL 0],[]⟩],λ(l,_)=>one (l.length≤1000000) (px (-1) (l.map (·.1)),())⟩
def reP:cc:=⟨[sFn 1 143,sI 5,(9,false,[.d (.sl ic)]),sI 10,sI 11],[]⟩
def reI(l:List Fk)(y:reP.den):Prop:=match y with
 |(a,b,n,i,_)=>b=l∧n=l.length∧∃k:Nat,i=k∧k≤l.length∧px a ((l.drop k).map (·.1))=px (-1) (l.map (·.1))
def reA(x:Yv.inp.den):dG:=⟨[(3,bM reP (reI x.1) λ(_,_,n,i,_)=>(n-i).toNat)],[],[],[],0⟩
abbrev Fm(v:Bool×Unit):aN Yv.out:=⟨0,v⟩
def Yw:bu:=(142,[Yv])::Yu
theorem a39:KK Yw:=kA a38 reA (∀(c:List Fk)(Q:aN Yv.out→Prop),(Ct.spec Yv (c,())).sat Q→Is (reI c ((-1:Int),c,(↑c.length:Int),0,()))∧∀(e:Int)(b:List Fk)(d a:Int),let z:=b.getD a.toNat (0,0,());reI c (e,b,d,a,())→Br (decide (a<d)) ((0≤a∧a<(↑b.length:Int))∧True∧Br (decide (z.1≤e)) (Q (Fm (false,()))) (Br (decide (5≤z.1)) (Q (Fm (false,()))) (ae (a+1)∧Is (reI c (z.1,b,d,a+1,())∧(d-(a+1)).toNat<(d-a).toNat)))) (Q (Fm (true,())))) (by kernel_rfl) (by
 conv=>zeta
 unfold Br;intro l Q ⟨p,b⟩;have c:∀y,px (-1) (l.map (·.1))=y→Q ⟨0,(y,())⟩:=λy e=>by rw[e]at b;exact b
 clear b;refine⟨⟨rfl,rfl,0,rfl,aq _,rfl⟩,?_⟩;rintro f j n i ⟨rfl,rfl,k,rfl,q,a⟩;simp only[ah,aj,aG];refine⟨λh=>?_,λh=>c _ ?_⟩
 ·have o:k<j.length:=by omega
  rw[cW (z:=((0,0,()):Fk)) o,aX,xq]at a;generalize j.getD k ((0,0,()):Fk)=H at*;refine⟨by omega,trivial,λg=>c _ ?_,λg=>⟨λm=>c _ ?_,λm=>⟨by unfold ae;omega,⟨⟨rfl,rfl,k+1,rfl,by omega,?_⟩,by omega⟩⟩⟩⟩
  ·rw[←a,an (.inl g)]
  ·rw[←a,an (.inr m)]
  ·rw[←a,ag (by omega)]
 ·rw[←a,bw (by omega)];rfl)
def y8:Mb:=(0,[],[],())
def uZ(m:Mb):Prop:=m.2.1.length=32∧m.2.2.1.length=32
def y9(x:Fk):Prop:=0≤x.2.1∧x.2.1≤1048576
instance (m:Mb):Decidable (uZ m):=by unfold uZ;infer_instance
instance (m:Fk):Decidable (y9 m):=by unfold y9;infer_instance
def pc(ms:List Mb)(es:List Fk):Bool:=decide (1≤ms.length∧(ms.getD 0 y8).1=0∧px (-1) (ms.map (·.1))=true∧px (-1) (es.map (·.1))=true∧(∀m∈ms,uZ m)∧∀e∈es,y9 e)
def Sj:Ct:=⟨2,⟨[(0,false,[.d (.sl il)]),(1,false,[.d (.sl ic)])],[]⟩,[⟨[sL 0],[]⟩],λ(a,b,_)=>one (a.length≤1000000∧b.length≤1000000) (pc a b,())⟩
def ptP:cc:=⟨[(1,false,[.d (.sl ic)]),(29,false,[.d (.sl il)]),sI 30,sI 31],[]⟩
def ptI(x:Sj.inp.den)(y:ptP.den):Prop:=match x,y with
 |(a,e,_),(b,c,n,i,_)=>b=e∧c=a∧n=a.length∧(1≤a.length∧(a.getD 0 y8).1=0∧px (-1) (a.map (·.1))=true∧px (-1) (e.map (·.1))=true)∧∃k:Nat,i=k∧k≤a.length∧∀m∈a.take k,uZ m
def puP:cc:=⟨[(46,false,[.d (.sl ic)]),sI 47,sI 48],[]⟩
def puI(x:Sj.inp.den)(y:puP.den):Prop:=match x,y with
 |(b,a,_),(c,n,i,_)=>c=a∧n=a.length∧(1≤b.length∧(b.getD 0 y8).1=0∧px (-1) (b.map (·.1))=true∧px (-1) (a.map (·.1))=true∧∀m∈b,uZ m)∧∃k:Nat,i=k∧k≤a.length∧∀m∈a.take k,y9 m
def ptA(x:Sj.inp.den):dG:=⟨[(4,bM ptP (ptI x) λ(_,_,n,i,_)=>(n-i).toNat),(10,bM puP (puI x) λ(_,n,i,_)=>(n-i).toNat)],[],[],[],0⟩
abbrev nz(v:Bool×Unit):aN Sj.out:=⟨0,v⟩
def Yx:bu:=(99,[Sj])::Yw
theorem a4a:KK Yx:=kA a39 ptA (∀(a:List Mb)(d:List Fk)(Q:aN Sj.out→Prop),let l:= !(a.getD 0 (0,[],[],())).1==0;let m:= !px (-1:Int) (rU (λa=>a.1) d);let n:= !px (-1:Int) (rU (λa=>a.1) a);(Ct.spec Sj (a,d,())).sat Q→Br (decide ((↑a.length:Int)<1)) (Q (nz (false,()))) (((0:Int)≤0∧0<(↑a.length:Int))∧Br l (Q (nz (false,()))) (a.length≤1000000∧Br n (Q (nz (false,()))) (d.length≤1000000∧Br m (Q (nz (false,()))) (Is (ptI (a,d,()) (d,a,(↑a.length:Int),0,()))∧∀(i:List Fk)(e:List Mb)(g b:Int),let z:=e.getD b.toNat (0,[],[],());let o:= !(↑(ac z.2.1):Int)==32;let p:= !(↑(ac z.2.2.1):Int)==32;ptI (a,d,()) (i,e,g,b,())→Br (decide (b<g)) ((0≤b∧b<(↑e.length:Int))∧Br o (Q (nz (false,()))) (Br p (Q (nz (false,()))) (ae (b+1)∧Is (ptI (a,d,()) (i,e,g,b+1,())∧(g-(b+1)).toNat<(g-b).toNat)))) (Is (puI (a,d,()) (i,(↑i.length:Int),0,()))∧∀(f:List Fk)(h c:Int),let j:=f.getD c.toNat (0,0,());puI (a,d,()) (f,h,c,())→Br (decide (c<h)) ((0≤c∧c<(↑f.length:Int))∧Br (decide (j.2.1<0)) (Q (nz (false,()))) (Br (decide (1048576<j.2.1)) (Q (nz (false,()))) (ae (c+1)∧Is (puI (a,d,()) (f,h,c+1,())∧(h-(c+1)).toNat<(h-c).toNat)))) (Q (nz (true,()))))))))) (by kernel_rfl) (by
 conv=>zeta
 unfold Br;intro q y Q ⟨⟨D,E⟩,B⟩
 have hB:∀b:Bool,(b=true↔(1≤q.length∧(q.getD 0 y8).1=0∧px (-1) (q.map (·.1))=true∧px (-1) (y.map (·.1))=true∧(∀m∈q,uZ m)∧∀e∈y,y9 e))→Q ⟨0,(b,())⟩:=by
  intro b F
  have:b=pc q y:=by
   unfold pc;rw[lI,F,ah]
  rw[this];exact B
 clear B;simp only[ah,aj];refine⟨λa=>hB _ (by constructor<;>intro h<;>simp at h;omega),λa=>⟨by omega,λc=>hB _ ?_,λc=>⟨D,λe=>hB _ ?_,λe=>⟨E,λf=>hB _ ?_,λf=>⟨⟨rfl,rfl,rfl,⟨by omega,show(q.getD 0 (0,[],[],())).1=(0:Int)by simpa using c,by simpa using e,by simpa using f⟩,0,rfl,aq _,by simp⟩,?_⟩⟩⟩⟩⟩
 ·constructor
  ·intro h;simp at h
  ·rintro⟨_,h,_⟩;have G:(q.getD 0 (0,[],[],())).1=(0:Int):=h;rw[G]at c;simp at c
 ·constructor
  ·intro h;simp at h
  ·rintro⟨_,_,h,_⟩;simp[h]at e
 ·constructor
  ·intro h;simp at h
  ·rintro⟨_,_,_,h,_⟩;simp[h]at f
 ·rintro J r n i ⟨rfl,rfl,rfl,o,k,rfl,L,C⟩;simp only[aG];refine⟨λh=>?_,λh=>⟨⟨rfl,rfl,⟨o.1,o.2.1,o.2.2.1,o.2.2.2,?_⟩,0,rfl,aq _,by simp⟩,?_⟩⟩
  ·have u:k<r.length:=by omega
   have v:=aT (z:=((0,[],[],()):Mb)) u;have A:=λo=>ny ((0,[],[],()):Mb) (p:=uZ) C u o;generalize r.getD k (0,[],[],())=H at*;refine⟨by omega,λg=>hB _ ?_,λg=>⟨λw=>hB _ ?_,λw=>⟨by unfold ae;omega,⟨⟨rfl,rfl,rfl,o,k+1,rfl,by omega,A ⟨?_,?_⟩⟩,by omega⟩⟩⟩⟩
   ·constructor
    ·intro h;simp at h
    ·rintro⟨_,_,_,_,h,_⟩;have:=(h H v).1;simp[this]at g
   ·constructor
    ·intro h;simp at h
    ·rintro⟨_,_,_,_,h,_⟩;have:=(h H v).2;simp[this]at w
   ·have:(H.2.1.length:Int)=32:=by simpa using g
    omega
   ·have:(H.2.2.1.length:Int)=32:=by simpa using w
    omega
  ·have:k=r.length:=by omega
   rwa [this,bp]at C
  ·rintro s M j ⟨rfl,rfl,l,x,rfl,K,t⟩;refine⟨λh=>?_,λh=>hB _ ?_⟩
   ·have u:x<s.length:=by omega
    have v:=aT (z:=((0,0,()):Fk)) u;have A:=λo=>ny ((0,0,()):Fk) (p:=y9) t u o;simp only[aG];generalize s.getD x (0,0,())=H at*;refine⟨by omega,λg=>hB _ ?_,λg=>⟨λw=>hB _ ?_,λw=>⟨by unfold ae;omega,⟨⟨rfl,rfl,l,x+1,rfl,by omega,A ⟨by omega,by omega⟩⟩,by omega⟩⟩⟩⟩
    ·constructor
     ·intro h;simp at h
     ·rintro⟨_,_,_,_,_,h⟩;have:=(h H v).1;omega
    ·constructor
     ·intro h;simp at h
     ·rintro⟨_,_,_,_,_,h⟩;have:=(h H v).2;omega
   ·have:x=s.length:=by omega
    rw[this,bp]at t;exact⟨λ_=>⟨l.1,l.2.1,l.2.2.1,l.2.2.2.1,l.2.2.2.2,t⟩,λ_=>rfl⟩)
def hK(e:Et):Prop:=e.2.2.1.length≤1000000∧e.2.2.2.1.length≤1000000∧e.2.2.2.2.2.1.length≤1000000
def lD(e:Et):Bool:=decide (1≤e.1∧e.1≤65536∧(e.1=1∧e.2.1.length=0∨e.2.1.length=32)∧pc e.2.2.1 e.2.2.2.1=true∧(∀b∈e.2.2.2.2.2.1,b.length=48)∧e.2.2.2.2.1.length=32∧e.2.2.2.2.2.1.length=e.2.2.1.length∧e.2.2.2.2.2.2.1.length=64)
def Yy:Ct:=⟨1,⟨[(0,true,[.d r6])],[]⟩,[⟨[sL 0],[]⟩],λ(e,_)=>one (hK e) (lD e,())⟩
def etP:cc:=⟨[(1,false,[.ptr 0 0]),(42,false,[.d (.sl tB)]),sI 43,sI 44],[some (.cells [.d r6])]⟩
def etI(e:Et)(y:etP.den):Prop:=match y with
 |(a,n,i,c,_)=>c=e∧a=e.2.2.2.2.2.1∧n=a.length∧(1≤e.1∧e.1≤65536∧(e.1=1∧e.2.1.length=0∨e.2.1.length=32)∧pc e.2.2.1 e.2.2.2.1=true)∧∃k:Nat,i=k∧k≤a.length∧∀b∈a.take k,b.length=48
def etJ:cc:=⟨[(1,false,[.ptr 0 0])],[some (.cells [.d r6])]⟩
def etK(e:Et)(y:etJ.den):Prop:=match y with
 |(a,_)=>a=e∧(1≤e.1∧e.1≤65536∧(e.1=1∧e.2.1.length=0∨e.2.1.length=32)∧pc e.2.2.1 e.2.2.2.1=true)
def etA(x:Yy.inp.den):dG:=⟨[(5,bM etP (etI x.1) λ(_,n,i,_)=>(n-i).toNat)],[(4,bM etJ (etK x.1) λ_=>0)],[],[],0⟩
abbrev pe(v:Bool×Unit):aN Yy.out:=⟨0,v⟩
def Yz:bu:=(60,[Yy])::Yx
theorem Sk:KK Yz:=kA a4a etA (∀(a:Et)(Q:aN Yy.out→Prop),let m:= !pc a.2.2.1 a.2.2.2.1;let g:Prop:=decide (a.1<1)=true→Q (pe (false,()));let h:Prop:=decide (65536<a.1)=true→Q (pe (false,()));let i:=ac a.2.1;let j:Prop:=(ac a.2.2.1≤1000000∧ac a.2.2.2.1≤1000000)∧Br m (Q (pe (false,()))) (Is (etK a ((a.1,a.2.1,a.2.2.1,a.2.2.2.1,a.2.2.2.2.1,a.2.2.2.2.2.1,a.2.2.2.2.2.2.1,()),())));let l:Prop:=Br (!(↑i:Int)==32) (Q (pe (false,()))) j;let z:Prop:=∀(d:Et),etK a (d,())→Is (etI a (d.2.2.2.2.2.1,(↑(ac d.2.2.2.2.2.1):Int),0,(d.1,d.2.1,d.2.2.1,d.2.2.2.1,d.2.2.2.2.1,d.2.2.2.2.2.1,d.2.2.2.2.2.2.1,()),()))∧∀(f:List BL)(e c:Int)(b:Et),let n:=(↑(ac b.2.2.2.2.1):Int)==32;let o:= !(↑(f.getD c.toNat []).length:Int)==48;let p:=(↑(ac b.2.2.2.2.2.1):Int)==(↑(ac b.2.2.1):Int);etI a (f,e,c,b,())→Br (decide (c<e)) ((0≤c∧c<(↑f.length:Int))∧Br o (Q (pe (false,()))) (ae (c+1)∧Is (etI a (f,e,c+1,(b.1,b.2.1,b.2.2.1,b.2.2.2.1,b.2.2.2.2.1,b.2.2.2.2.2.1,b.2.2.2.2.2.2.1,()),())∧(e-(c+1)).toNat<(e-c).toNat))) (Br n (Br p (Q (pe ((↑(ac b.2.2.2.2.2.2.1):Int)==64,()))) (Q (pe (false,())))) (Q (pe (false,()))));(Ct.spec Yy (a,())).sat Q→Br (a.1==1) ((g∧(decide (a.1<1)=false→h∧(decide (65536<a.1)=false→Br (!(↑i:Int)==0) l j)))∧z) ((g∧(decide (a.1<1)=false→h∧(decide (65536<a.1)=false→l)))∧z)) (by kernel_rfl) (by
 conv=>zeta
 unfold Br;rintro⟨n,pv,m,o,v,r,w,⟨⟩⟩ Q ⟨l,x⟩;dsimp only
 have hB:∀b:Bool,(b=true↔(1≤n∧n≤65536∧(n=1∧pv.length=0∨pv.length=32)∧pc m o=true∧(∀b∈r,b.length=48)∧v.length=32∧r.length=m.length∧w.length=64))→Q ⟨0,(b,())⟩:=by
  intro b A
  have:b=lD (n,pv,m,o,v,r,w,()):=by
   unfold lD;rw[lI,A,ah]
  rw[this];exact x
 clear x;have f:(¬(1≤n∧n≤65536∧(n=1∧pv.length=0∨pv.length=32)∧pc m o=true))→Q ⟨0,(false,())⟩:=λh=>hB _ ⟨λh=>by simp at h,λg=>absurd ⟨g.1,g.2.1,g.2.2.1,g.2.2.2.1⟩ h⟩;simp only[ah,aj,aO,aJ,aQ,ax,ne_eq];refine⟨λh=>⟨?h1,?t1⟩,λh=>⟨?h2,?t2⟩⟩
 case h1=>
  refine⟨λa=>f (by omega),λa=>⟨λb=>f (by omega),λb=>⟨λc=>⟨λd=>f (by omega),λd=>⟨⟨l.1,l.2.1⟩,λe=>f (by simp[e]),λe=>⟨rfl,by omega,by omega, .inr (Int.ofNat.inj d),e⟩⟩⟩,λc=>⟨⟨l.1,l.2.1⟩,λe=>f (by simp[e]),λe=>⟨rfl,by omega,by omega, .inl ⟨h,Int.ofNat.inj c⟩,e⟩⟩⟩⟩⟩
 case h2=>
  refine⟨λa=>f (by omega),λa=>⟨λb=>f (by omega),λb=>⟨λd=>f (by omega),λd=>⟨⟨l.1,l.2.1⟩,λe=>f (by simp[e]),λe=>⟨rfl,by omega,by omega, .inr (Int.ofNat.inj d),e⟩⟩⟩⟩⟩
 all_goals
  rintro D ⟨rfl,j⟩;refine⟨⟨rfl,rfl,rfl,j,0,rfl,aq _,by simp⟩,?_⟩;rintro s E i F ⟨rfl,rfl,rfl,_,k,rfl,G,t⟩;dsimp only at*;simp only[aG];refine⟨λg=>?_,λg=>?_⟩
  ·have y:k<s.length:=by omega
   have:=l.2.2;dsimp only at this;have B:=aT (z:=([]:BL)) y;have C:=λj=>ny ([]:BL) (p:=λb=>b.length=48) t y j;generalize s.getD k []=H at*;refine⟨by omega,λc=>hB _ ⟨λq=>by simp at q,λq=>?_⟩,λc=>⟨by unfold ae;omega,⟨⟨rfl,rfl,rfl,j,k+1,rfl,by omega,C (by omega)⟩,by omega⟩⟩⟩;have:=q.2.2.2.2.1 H B;omega
  ·have u:k=s.length:=by omega
   rw[u,bp]at t;refine⟨λc=>⟨λd=>hB _ ⟨λq=>?_,λq=>?_⟩,λd=>hB _ ⟨λq=>by simp at q,λq=>by omega⟩⟩,λc=>hB _ ⟨λq=>by simp at q,λq=>by omega⟩⟩
   ·simp only[aQ]at q;exact⟨j.1,j.2.1,j.2.2.1,j.2.2.2,t,by omega,by omega,by omega⟩
   ·simp only[aQ];omega)
def tx(s:BL):BL:=vn s.length++s
def py(m:Mb):BL:=vn m.1++tx m.2.1++tx m.2.2.1
def rq(x:Fk):BL:=vn x.1++vn x.2.1
def fl{α:Type}(f:α→BL)(l:List α):BL:=(l.map f).flatten
theorem nA{α:Type}(f:α→BL){l:List α}{k:Nat}(z:α)(h:k<l.length):fl f (l.take (k+1))=fl f (l.take k)++f (l.getD k z):=by
 rw[cK (z:=z) h];simp[fl]
theorem iJ{α:Type}(f:α→BL)(l:List α):∀k,(fl f (l.take k)).length≤(fl f l).length:=by
 intro k;have:fl f l=fl f (l.take k)++fl f (l.drop k):=by unfold fl;rw[←List.flatten_append,←dl,dC]
 rw[this];simp
theorem dW(s:BL):(tx s).length≤s.length+7:=by have:=bz s.length;simp only[tx,aa];omega
theorem lP(s:BL):s.length≤(tx s).length:=by simp only[tx,aa];omega
def fP(e:Et):BL:=vn 1++vn e.1++tx e.2.1++vn e.2.2.1.length++fl py e.2.2.1++vn e.2.2.2.1.length++fl rq e.2.2.2.1++tx e.2.2.2.2.1
def dL(e:Et):BL:=fP e++vn e.2.2.2.2.2.1.length++fl tx e.2.2.2.2.2.1
def za:Ct:=⟨2,⟨[sB 0,(1,true,[.d r6])],[]⟩,[⟨[(0,false,[.d tB])],[]⟩],λ(b,e,_)=>one (b.length+(fP e).length≤1000000000∧hK e) (b++fP e,())⟩
def YA:cc:=⟨[sB 0,(3,false,[.ptr 0 0]),(23,false,[.d (.sl il)]),sI 24,sI 25],[some (.cells [.d r6])]⟩
def K4(b:BL)(e:Et)(y:YA.den):Prop:=match y with
 |(q,a,n,i,c,_)=>c=e∧a=e.2.2.1∧n=a.length∧∃k:Nat,i=k∧k≤a.length∧q=b++(vn 1++vn e.1++tx e.2.1++vn e.2.2.1.length++fl py (a.take k))
def YB:cc:=⟨[sB 0,(3,false,[.ptr 0 0]),(46,false,[.d (.sl ic)]),sI 47,sI 48],[some (.cells [.d r6])]⟩
def K5(b:BL)(e:Et)(y:YB.den):Prop:=match y with
 |(q,a,n,i,c,_)=>c=e∧a=e.2.2.2.1∧n=a.length∧∃k:Nat,i=k∧k≤a.length∧q=b++(vn 1++vn e.1++tx e.2.1++vn e.2.2.1.length++fl py e.2.2.1++vn e.2.2.2.1.length++fl rq (a.take k))
def a4b(x:za.inp.den):dG:=⟨[(4,bM YA (K4 x.1 x.2.1) λ(_,_,n,i,_)=>(n-i).toNat),(10,bM YB (K5 x.1 x.2.1) λ(_,_,n,i,_)=>(n-i).toNat)],[],[],[],0⟩
abbrev Sl(v:BL×Unit):aN za.out:=⟨0,v⟩
theorem Fo:bO Tryz.prog 84 za:=kC Sk a4b (∀(e:BL)(a:Et)(Q:aN za.out→Prop),let n:=vn (↑(ac a.2.1):Int)++a.2.1;(Ct.spec za (e,a,())).sat Q→e.length≤1099511627776∧(e++vn 1).length≤1099511627776∧(e++vn 1++vn a.1).length+ac a.2.1≤1099511627776∧(e++vn 1++vn a.1++n).length≤1099511627776∧Is (K4 e a (e++vn 1++vn a.1++n++vn (↑(ac a.2.2.1):Int),a.2.2.1,(↑(ac a.2.2.1):Int),0,(a.1,a.2.1,a.2.2.1,a.2.2.2.1,a.2.2.2.2.1,a.2.2.2.2.2.1,a.2.2.2.2.2.2.1,()),()))∧∀(h:BL)(d:List Mb)(i b:Int)(c:Et),let o:=(c.1,c.2.1,c.2.2.1,c.2.2.2.1,c.2.2.2.2.1,c.2.2.2.2.2.1,c.2.2.2.2.2.2.1,());let z:=d.getD b.toNat (0,[],[],());let p:=vn (↑(ac z.2.1):Int)++z.2.1;K4 e a (h,d,i,b,c,())→Br (decide (b<i)) ((0≤b∧b<(↑d.length:Int))∧h.length≤1099511627776∧(h++vn z.1).length+ac z.2.1≤1099511627776∧(h++vn z.1++p).length+ac z.2.2.1≤1099511627776∧ae (b+1)∧Is (K4 e a (h++vn z.1++p++(vn (↑(ac z.2.2.1):Int)++z.2.2.1),d,i,b+1,o,())∧(i-(b+1)).toNat<(i-b).toNat)) (h.length≤1099511627776∧Is (K5 e a (h++vn (↑(ac c.2.2.2.1):Int),c.2.2.2.1,(↑(ac c.2.2.2.1):Int),0,o,()))∧∀(j:BL)(k:List Fk)(l f:Int)(g:Et),let m:=k.getD f.toNat (0,0,());K5 e a (j,k,l,f,g,())→Br (decide (f<l)) ((0≤f∧f<(↑k.length:Int))∧j.length≤1099511627776∧(j++vn m.1).length≤1099511627776∧ae (f+1)∧Is (K5 e a (j++vn m.1++vn m.2.1,k,l,f+1,(g.1,g.2.1,g.2.2.1,g.2.2.2.1,g.2.2.2.2.1,g.2.2.2.2.2.1,g.2.2.2.2.2.2.1,()),())∧(l-(f+1)).toNat<(l-f).toNat)) (j.length+ac g.2.2.2.2.1≤1099511627776∧Q (Sl (j++(vn (↑(ac g.2.2.2.2.1):Int)++g.2.2.2.2.1),()))))) (by kernel_rfl) (by
 conv=>zeta
 unfold Br;rintro b ⟨n,pv,a,c,l,p,r,⟨⟩⟩ Q ⟨⟨u,D,E,F⟩,v⟩;dsimp only at*;have w:∀s:BL,vn s.length++s=tx s:=λ_=>rfl;simp only[w];have t:fP (n,pv,a,c,l,p,r,())=vn 1++vn n++tx pv++vn a.length++fl py a++vn c.length++fl rq c++tx l:=rfl;have m:b.length+(fP (n,pv,a,c,l,p,r,())).length≤1000000000:=u;rw[t]at m;simp only[aa]at m;have G:=lP pv;have J:=lP l;simp only[aa];refine⟨by omega,by omega,by omega,by omega,⟨rfl,rfl,rfl,0,rfl,aq _,by simp[fl]⟩,?_⟩;rintro q a x i z ⟨rfl,rfl,rfl,k,rfl,A,rfl⟩;dsimp only at*;simp only[aG,ah,aj];have B:=iJ py a k;simp only[aa];refine⟨λh=>?_,λh=>?_⟩
 ·have f:k<a.length:=by omega
  have o:=nA py (0,[],[],()) f;have g:=iJ py a (k+1);rw[o,aa]at g;generalize a.getD k (0,[],[],())=H at*;simp only[py,aa]at g;have K:=lP H.2.1;have L:=lP H.2.2.1;refine⟨by omega,by omega,by omega,by omega,by unfold ae;omega,⟨⟨rfl,rfl,rfl,k+1,rfl,f,?_⟩,by omega⟩⟩;rw[o];simp only[py,ay]
 ·have j:k=a.length:=by omega
  subst j;rw[bp]at*;refine⟨by omega,⟨rfl,rfl,rfl,0,rfl,aq _,by simp[fl]⟩,?_⟩;rintro q c x i z ⟨rfl,rfl,rfl,k,rfl,A,rfl⟩;dsimp only at*;simp only[aG];have B:=iJ rq c k;simp only[aa];refine⟨λh=>?_,λh=>?_⟩
  ·have f:k<c.length:=by omega
   have o:=nA rq (0,0,()) f;have g:=iJ rq c (k+1);rw[o,aa]at g;generalize c.getD k (0,0,())=H at*;simp only[rq,aa]at g;refine⟨by omega,by omega,by omega,by unfold ae;omega,⟨⟨rfl,rfl,rfl,k+1,rfl,f,?_⟩,by omega⟩⟩;rw[o];simp only[rq,ay]
  ·have j:k=c.length:=by omega
   subst j;rw[bp]at*;refine⟨by omega,?_⟩;have C:∀y,y=b++fP (n,pv,a,c,l,p,r,())→Q ⟨0,(y,())⟩:=λy e=>by rw[e];exact v
   refine C _ ?_;rw[t];simp only[ay])
def Nr:bu:=(84,[za])::Yz
theorem YC:KK Nr:=⟨aP.add Sk.1 (by kernel_rfl) (bo (Fo)),bg.add Sk.2 (bo (λ_=>bH))⟩
def Fp:Ct:=⟨2,⟨[sB 0,(1,true,[.d r6])],[]⟩,[⟨[(0,false,[.d tB])],[]⟩],λ(b,e,_)=>one (b.length+(dL e).length≤1000000000∧hK e) (b++dL e,())⟩
def YD:cc:=⟨[sB 0,(15,false,[.d (.sl tB)]),sI 16,sI 17],[]⟩
def K6(b:BL)(e:Et)(y:YD.den):Prop:=match y with
 |(q,a,n,i,_)=>a=e.2.2.2.2.2.1∧n=a.length∧∃k:Nat,i=k∧k≤a.length∧q=b++(fP e++vn a.length++fl tx (a.take k))
def a4c(x:Fp.inp.den):dG:=⟨[(3,bM YD (K6 x.1 x.2.1) λ(_,_,n,i,_)=>(n-i).toNat)],[],[],[],0⟩
abbrev Sm(v:BL×Unit):aN Fp.out:=⟨0,v⟩
def Ns:bu:=(109,[Fp])::Nr
theorem YE:KK Ns:=kA YC a4c (∀(c:BL)(a:Et)(Q:aN Fp.out→Prop),let g:=ac a.2.2.2.2.2.1;let z:=(a.1,a.2.1,a.2.2.1,a.2.2.2.1,a.2.2.2.2.1,a.2.2.2.2.2.1,a.2.2.2.2.2.2.1,());(Ct.spec Fp (c,a,())).sat Q→(c.length+ac (fP z)≤1000000000∧hK z)∧(c++fP z).length≤1099511627776∧Is (K6 c a (c++fP z++vn (↑g:Int),a.2.2.2.2.2.1,(↑g:Int),0,()))∧∀(f:BL)(d:List BL)(e b:Int),K6 c a (f,d,e,b,())→Br (decide (b<e)) ((0≤b∧b<(↑d.length:Int))∧f.length+(d.getD b.toNat []).length≤1099511627776∧ae (b+1)∧Is (K6 c a (f++(vn (↑(d.getD b.toNat []).length:Int)++d.getD b.toNat []),d,e,b+1,())∧(e-(b+1)).toNat<(e-b).toNat)) (Q (Sm (f,())))) (by kernel_rfl) (by
 conv=>zeta
 unfold Br;rintro b ⟨n,pv,c,f,g,a,j,⟨⟩⟩ Q ⟨⟨x,t⟩,z⟩;dsimp only at*;have A:∀s:BL,vn s.length++s=tx s:=λ_=>rfl;simp only[A];have u:dL (n,pv,c,f,g,a,j,())=fP (n,pv,c,f,g,a,j,())++vn a.length++fl tx a:=rfl;have o:b.length+(dL (n,pv,c,f,g,a,j,())).length≤1000000000:=x;rw[u]at o;have v:∀y,y=b++dL (n,pv,c,f,g,a,j,())→Q ⟨0,(y,())⟩:=λy e=>by rw[e];exact z
 rw[u]at v;generalize m:fP (n,pv,c,f,g,a,j,())=C at*;simp only[aa]at*;refine⟨⟨by omega,t⟩,by omega,⟨rfl,rfl,0,rfl,aq _,by rw[m];simp[fl]⟩,?_⟩;rintro q a D i ⟨rfl,rfl,k,rfl,E,rfl⟩;simp only[aG,ah,aj];have F:=iJ tx a k;have B:=t.2.2;dsimp only at B;refine⟨λh=>?_,λh=>?_⟩
 ·have l:k<a.length:=by omega
  have w:=nA tx [] l;have p:=iJ tx a (k+1);rw[w,aa]at p;have G:=lP (a.getD k []);rw[m];simp only[aa];refine⟨by omega,by omega,by unfold ae;omega,⟨⟨rfl,rfl,k+1,rfl,l,?_⟩,by omega⟩⟩;rw[w,m];simp only[ay]
 ·have r:k=a.length:=by omega
  subst r;refine v _ ?_;rw[bp,m])
def gO(e:Et):BL:=dL e++tx e.2.2.2.2.2.2.1
def Fq:Ct:=⟨2,⟨[sB 0,(1,true,[.d r6])],[]⟩,[⟨[(0,false,[.d tB])],[]⟩],λ(b,e,_)=>one (b.length+(gO e).length≤1000000000∧hK e) (b++gO e,())⟩
abbrev Sn(v:BL×Unit):aN Fq.out:=⟨0,v⟩
def Nt:bu:=(73,[Fq])::Ns
theorem YF:KK Nt:=kA YE (cv Fq 0) (∀(b:BL)(a:Et)(Q:aN Fq.out→Prop),let z:=(a.1,a.2.1,a.2.2.1,a.2.2.2.1,a.2.2.2.2.1,a.2.2.2.2.2.1,a.2.2.2.2.2.2.1,());(Ct.spec Fq (b,a,())).sat Q→(b.length+ac (dL z)≤1000000000∧hK z)∧(b++dL z).length+ac a.2.2.2.2.2.2.1≤1099511627776∧Q (Sn (b++dL z++(vn (↑(ac a.2.2.2.2.2.2.1):Int)++a.2.2.2.2.2.2.1),()))) (by kernel_rfl) (by
 conv=>zeta
 rintro b ⟨n,pv,c,f,g,h,a,⟨⟩⟩ Q ⟨⟨l,m⟩,o⟩;dsimp only at*;have p:∀s:BL,vn s.length++s=tx s:=λ_=>rfl;simp only[p];have j:gO (n,pv,c,f,g,h,a,())=dL (n,pv,c,f,g,h,a,())++tx a:=rfl;have i:b.length+(gO (n,pv,c,f,g,h,a,())).length≤1000000000:=l;rw[j]at i;have r:=lP a;simp only[aa]at*;refine⟨⟨by omega,m⟩,by omega,?_⟩;have q:∀y,y=b++gO (n,pv,c,f,g,h,a,())→Q ⟨0,(y,())⟩:=λy e=>by rw[e];exact o
 exact q _ (by rw[j,ay]))
def VY:Option CP:=some (.sl il)
def Fr:Ct:=⟨1,⟨[(0,false,[.d (.sl il)])],[]⟩,[⟨[sO 0 0],[VY]⟩],λ(l,_)=>one (l.length≤1000000∧∀m∈l,m.2.1.length≤1000000∧m.2.2.1.length≤1000000) (l,())⟩
def YG:cc:=⟨[sO 3 0,(6,false,[.d (.sl il)]),sI 7,sI 8],[VY]⟩
def K7(l:List Mb)(y:YG.den):Prop:=match y with
 |(a,n,i,v,_)=>a=l∧n=l.length∧∃k:Nat,i=k∧k≤l.length∧v=l.take k
def a4d(x:Fr.inp.den):dG:=⟨[(3,bM YG (K7 x.1) λ(_,n,i,_)=>(n-i).toNat)],[],[],[],0⟩
abbrev So(v:List Mb×Unit):aN Fr.out:=⟨0,v⟩
def Nu:bu:=(90,[Fr])::Nt
theorem Fs:KK Nu:=kA YF a4d (∀(c:List Mb)(Q:aN Fr.out→Prop),(Ct.spec Fr (c,())).sat Q→Is (K7 c (c,(↑c.length:Int),0,[],()))∧∀(b:List Mb)(d a:Int)(e:List Mb),let z:=b.getD a.toNat (0,[],[],());K7 c (b,d,a,e,())→Br (decide (a<d)) ((0≤a∧a<(↑b.length:Int))∧(0+ac z.2.1)*1≤140737488355328∧(0+ac z.2.2.1)*1≤140737488355328∧(e.length+1)*56≤140737488355328∧ae (a+1)∧Is (K7 c (b,d,a+1,e++[(z.1,z.2.1,z.2.2.1,())],())∧(d-(a+1)).toNat<(d-a).toNat)) (Q (So (e,())))) (by kernel_rfl) (by
 conv=>zeta
 unfold Br;intro l Q ⟨⟨j,c⟩,b⟩;have f:∀y,l=y→Q ⟨0,(y,())⟩:=λy e=>by rw[e]at b;exact b
 clear b;refine⟨⟨rfl,rfl,0,rfl,aq _,rfl⟩,?_⟩;rintro l n i v ⟨rfl,rfl,k,rfl,m,rfl⟩;simp only[aG,ah,aj];refine⟨λh=>?_,λh=>f _ ?_⟩
 ·have a:k<l.length:=by omega
  have o:=c _ (aT (z:=((0,[],[],()):Mb)) a);have g:=cK (z:=((0,[],[],()):Mb)) a;refine⟨by omega,by omega,by omega,by simp;omega,by unfold ae;omega,⟨⟨rfl,rfl,k+1,rfl,a,g.symm⟩,by omega⟩⟩
 ·rw[ba (by omega)])
def fQ:List Mb→Int→Mb×Bool
 |[],_=>(y8,false)
 |m::r,id=>if m.1=id then(m,true)else fQ r id
def CN:Ct:=⟨2,⟨[(0,false,[.d (.sl il)]),sI 1],[]⟩,[⟨[(0,true,[.d il]),sL 1],[]⟩],λ(l,id,_)=>one (l.length≤1000000) ((fQ l id).1,(fQ l id).2,())⟩
def YH:cc:=⟨[sI 1,(4,false,[.ptr 0 0]),(8,false,[.d (.sl il)]),sI 9,sI 10],[some (.cells [.d il])]⟩
def K8(l:List Mb)(id:Int)(y:YH.den):Prop:=match y with
 |(a,b,n,i,z,_)=>a=id∧b=l∧n=l.length∧∃k:Nat,i=k∧k≤l.length∧fQ (l.drop k) id=fQ l id
def a4e(x:CN.inp.den):dG:=⟨[(2,bM YH (K8 x.1 x.2.1) λ(_,_,n,i,_)=>(n-i).toNat)],[],[],[],0⟩
abbrev Ft(v:Mb×Bool×Unit):aN CN.out:=⟨0,v⟩
theorem Fu:bO Tryz.prog 145 CN:=kC Fs a4e (∀(c:List Mb)(e:Int)(Q:aN CN.out→Prop),(Ct.spec CN (c,e,())).sat Q→Is (K8 c e (e,c,(↑c.length:Int),0,(0,[],[],()),()))∧∀(f:Int)(b:List Mb)(d a:Int)(g:Mb),let z:=b.getD a.toNat (0,[],[],());K8 c e (f,b,d,a,g,())→Br (decide (a<d)) ((0≤a∧a<(↑b.length:Int))∧Br (z.1==f) (Q (Ft ((z.1,z.2.1,z.2.2.1,()),true,()))) (ae (a+1)∧Is (K8 c e (f,b,d,a+1,(g.1,g.2.1,g.2.2.1,()),())∧(d-(a+1)).toNat<(d-a).toNat))) (Q (Ft ((0,[],[],()),false,())))) (by kernel_rfl) (by
 conv=>zeta
 unfold Br;intro l id Q ⟨j,c⟩;have f:∀y:Mb×Bool,fQ l id=y→Q ⟨0,(y.1,y.2,())⟩:=λy e=>by rw[←e];exact c
 clear c;refine⟨⟨rfl,rfl,rfl,0,rfl,aq _,rfl⟩,?_⟩;rintro id l n i z ⟨rfl,rfl,rfl,k,rfl,m,a⟩;simp only[aG,ah,aj,aQ,ax,ne_eq];refine⟨λh=>?_,λh=>f (y8,false) ?_⟩
 ·have b:k<l.length:=by omega
  rw[cW (z:=((0,[],[],()):Mb)) b]at a;generalize l.getD k (0,[],[],())=H at*;simp only[fQ]at a;refine⟨by omega,λg=>f (H,true) ?_,λg=>⟨by unfold ae;omega,⟨⟨rfl,rfl,rfl,k+1,rfl,b,?_⟩,by omega⟩⟩⟩
  ·rw[←a,an g]
  ·rw[←a,ag g]
 ·rw[←a,bw (by omega)];rfl)
def Nv:bu:=(145,[CN])::Nu
theorem YI:KK Nv:=⟨aP.add Fs.1 (by kernel_rfl) (bo (Fu)),bg.add Fs.2 (bo (λ_=>bH))⟩
abbrev VZ:Ty:= .pr tB (.pr (.sl r6) (.pr (.sl tB) .un))
abbrev Lg:=BL×List Et×List BL×Unit
def r7:List (Option CP):=[some (.cells [.d tB, .d (.sl r6), .d (.sl tB)])]
def zb(es:List Et):Prop:=es.length≤1000000∧∀e∈es,hK e
def Nx:Bool→List Et→Int→Bool
 |_,[],_=>false
 |a,e::r,id=>if a&& !(fQ e.2.2.1 id).2 then true else Nx (fQ e.2.2.1 id).2 r id
def CO:Ct:=⟨2,⟨[sP 0,sI 1],r7⟩,[⟨[sL 0],r7⟩],λ(id,a,b,c,_)=>one (zb b) (Nx false b id,a,b,c,())⟩
def YJ:cc:=⟨[sP 0,sI 1,sL 5,(13,false,[.d (.sl r6)]),sI 14,sI 15],r7⟩
def K9(x:CO.inp.den)(y:YJ.den):Prop:=match x,y with
 |(id,a,b,j,_),(c,e,f,n,i,l,g,h,_)=>c=id∧f=b∧n=b.length∧l=a∧g=b∧h=j∧∃k:Nat,i=k∧k≤b.length∧Nx e (b.drop k) id=Nx false b id
def a4f(x:CO.inp.den):dG:=⟨[(3,bM YJ (K9 x) λ(_,_,_,n,i,_)=>(n-i).toNat)],[],[],[],0⟩
abbrev Fv(v:Bool×Lg):aN CO.out:=⟨0,v⟩
def Fw:bu:=(146,[CO])::Nv
theorem tS:KK Fw:=kA YI a4f (∀(f:Int)(g:BL)(d:List Et)(h:List BL)(Q:aN CO.out→Prop),let m:=(f,g,d,h,());(Ct.spec CO m).sat Q→Is (K9 m (f,false,d,(↑d.length:Int),0,g,d,h,()))∧∀(e:Int)(l:Bool)(b:List Et)(c a:Int)(i:BL)(j:List Et)(k:List BL),let z:=b.getD a.toNat (0,[],[],[],[],[],[],());let n:=fQ z.2.2.1 e;let o:Prop:=ae (a+1)∧Is (K9 m (e,n.2,b,c,a+1,i,j,k,())∧(c-(a+1)).toNat<(c-a).toNat);K9 m (e,l,b,c,a,i,j,k,())→Br (decide (a<c)) ((0≤a∧a<(↑b.length:Int))∧ac z.2.2.1≤1000000∧Br l (Br (!n.2) (Q (Fv (true,i,j,k,()))) o) o) (Q (Fv (false,i,j,k,())))) (by kernel_rfl) (by
 conv=>zeta
 unfold Br;intro id a j m Q ⟨⟨t,p⟩,l⟩;have o:∀y,Nx false j id=y→Q ⟨0,(y,a,j,m,())⟩:=λy e=>by rw[e]at l;exact l
 clear l;refine⟨⟨rfl,rfl,rfl,rfl,rfl,rfl,0,rfl,aq _,rfl⟩,?_⟩;rintro id q r n i a j m ⟨rfl,rfl,rfl,rfl,rfl,rfl,k,rfl,u,f⟩;simp only[aG,ah,aj];refine⟨λh=>?_,λh=>o _ ?_⟩
 ·have b:k<j.length:=by omega
  have s:=p _ (aT (z:=((0,[],[],[],[],[],[],()):Et)) b);rw[cW (z:=((0,[],[],[],[],[],[],()):Et)) b]at f;generalize j.getD k (0,[],[],[],[],[],[],())=H at*;simp only[Nx]at f;refine⟨by omega,s.1,λg=>⟨λc=>o _ ?_,λc=>⟨by unfold ae;omega,⟨⟨rfl,rfl,rfl,rfl,rfl,rfl,k+1,rfl,b,?_⟩,by omega⟩⟩⟩,λg=>⟨by unfold ae;omega,⟨⟨rfl,rfl,rfl,rfl,rfl,rfl,k+1,rfl,b,?_⟩,by omega⟩⟩⟩
  ·rw[←f,g,c];rfl
  ·rw[←f,g,c];rfl
  ·rw[←f,g];rfl
 ·rw[←f,bw (by omega)];rfl)
def V0(i:Nat):Nat×Bool×List IP:=(i,false,[.d (.pf VZ)])
def rr(ms:List Mb):Prop:=∀m∈ms,m.2.1.length≤1000000∧m.2.2.1.length≤1000000
def cu(es:List Et)(a:List BL):Prop:=zb es∧es.length=a.length∧(∀d∈a,d.length≤1000000)∧∀e∈es,rr e.2.2.1
def zc:Ct:=⟨1,⟨[V0 0],[]⟩,[⟨[sI 0],[]⟩],λ(a,_)=>one True (a.2.1.length,())⟩
abbrev Sq(v:Int×Unit):aN zc.out:=⟨0,v⟩
theorem Fx:bO Tryz.prog 48 zc:=kC tS (cv zc 0) (∀(a:Lg)(Q:aN zc.out→Prop),(Ct.spec zc (a,())).sat Q→Q (Sq ((↑(ac a.2.1):Int),()))) (by kernel_rfl) (by
 intro b Q ⟨_,a⟩;exact a)
def YK:bu:=(48,[zc])::Fw
theorem a6z:KK YK:=⟨aP.add tS.1 (by kernel_rfl) (bo (Fx)),bg.add tS.2 (bo (λ_=>bH))⟩
def CQ:Ct:=⟨1,⟨[sP 0],r7⟩,[⟨[sI 0],r7⟩],λ(a,b,c,_)=>one True (b.length,a,b,c,())⟩
abbrev Sr(v:Int×Lg):aN CQ.out:=⟨0,v⟩
theorem Ss:bO Tryz.prog 48 CQ:=kC tS (cv CQ 0) (∀(b:BL)(a:List Et)(c:List BL)(Q:aN CQ.out→Prop),(Ct.spec CQ (b,a,c,())).sat Q→Q (Sr ((↑a.length:Int),b,a,c,()))) (by kernel_rfl) (by
 intro a c e Q ⟨_,b⟩;exact b)
def Ny:bu:=(48,[CQ,zc])::Fw
theorem YL:KK Ny:=⟨aP.add tS.1 (by kernel_rfl) (ik (Ss) (bo (Fx))),bg.add tS.2 (ik (λ_=>bH) (bo (λ_=>bH)))⟩
def kJ(es:List Et)(a:List BL)(n:Int):BL:=if n<1∨es.length<n then[]else a.getD (n-1).toNat []
def Fy:Ct:=⟨2,⟨[sP 0,sI 1],r7⟩,[⟨[(0,false,[.d tB])],r7⟩],λ(n,a,b,c,_)=>one (cu b c) (kJ b c n,a,b,c,())⟩
abbrev Fz(v:BL×Lg):aN Fy.out:=⟨0,v⟩
def FA:bu:=(107,[Fy])::Ny
theorem tT:KK FA:=kA YL (cv Fy 0) (∀(a:Int)(d:BL)(c:List Et)(b:List BL)(Q:aN Fy.out→Prop),let z:=Fz ([],d,c,b,());(Ct.spec Fy (a,d,c,b,())).sat Q→Br (decide (a<1)) (Q z) (True∧Br (decide ((↑c.length:Int)<a)) (Q z) (ae (a-1)∧(0≤a-1∧a-1<(↑b.length:Int))∧(0+(b.getD (a-1).toNat []).length)*1≤140737488355328∧Q (Fz (b.getD (a-1).toNat [],d,c,b,()))))) (by kernel_rfl) (by
 conv=>zeta
 unfold Br;intro n a i c Q ⟨⟨j,m,l,_⟩,f⟩;have b:∀y,kJ i c n=y→Q ⟨0,(y,a,i,c,())⟩:=λy e=>by rw[e]at f;exact f
 clear f;unfold kJ at b;simp only[ah,aj];refine⟨λh=>b _ (an (.inl h)),λh=>⟨trivial,λg=>b _ (an (.inr g)),λg=>?_⟩⟩;have o:=l _ (aT (z:=([]:BL)) (show(n-1).toNat<c.length by omega));have p:=j.1;exact⟨by unfold ae;omega,by omega,by omega,b _ (ag (by omega))⟩)
def cL(es:List Et)(n:Int):List Mb:=if n<1∨es.length<n then[]else(es.getD (n-1).toNat (0,[],[],[],[],[],[],())).2.2.1
def zd:Ct:=⟨2,⟨[V0 0,sI 1],[]⟩,[⟨[sO 0 0],[VY]⟩],λ(a,n,_)=>one (cu a.2.1 a.2.2.1) (cL a.2.1 n,())⟩
abbrev ze(v:List Mb×Unit):aN zd.out:=⟨0,v⟩
theorem FB:bO Tryz.prog 47 zd:=kC tT (cv zd 0) (∀(b:Lg)(a:Int)(Q:aN zd.out→Prop),let c:=ac b.2.1;let z:=bv b.2.1 (a-1).toNat (0,[],[],[],[],[],[],());(Ct.spec zd (b,a,())).sat Q→Br (decide (a<1)) (Q (ze ([],()))) (True∧Br (decide ((↑c:Int)<a)) (Q (ze ([],()))) (ae (a-1)∧(0≤a-1∧a-1<(↑c:Int))∧(ac z.2.2.1≤1000000∧∀(m:Mb),m∈z.2.2.1→ac m.2.1≤1000000∧ac m.2.2.1≤1000000)∧Q (ze (z.2.2.1,()))))) (by kernel_rfl) (by
 conv=>zeta
 unfold Br;rintro⟨a,f,m,⟨⟩⟩ n Q ⟨⟨i,o,p,l⟩,c⟩;dsimp only at*;have b:∀y,cL f n=y→Q ⟨0,(y,())⟩:=λy e=>by rw[e]at c;exact c
 clear c;unfold cL at b;simp only[ah,aj];refine⟨λh=>b _ (an (.inl h)),λh=>⟨trivial,λg=>b _ (an (.inr g)),λg=>?_⟩⟩;have q:=i.1;have j:=aT (z:=((0,[],[],[],[],[],[],()):Et)) (show(n-1).toNat<f.length by omega);exact⟨by unfold ae;omega,by omega,⟨(i.2 _ j).1,l _ j⟩,b _ (ag (by omega))⟩)
def YM:bu:=(47,[zd])::FA
theorem a60:KK YM:=⟨aP.add tT.1 (by kernel_rfl) (bo (FB)),bg.add tT.2 (bo (λ_=>bH))⟩
def CR:Ct:=⟨2,⟨[sP 0,sI 1],r7⟩,[⟨[sO 0 1],r7++[VY]⟩],λ(n,a,b,c,_)=>one (cu b c) (a,b,c,cL b n,())⟩
abbrev FC(v:BL×List Et×List BL×List Mb×Unit):aN CR.out:=⟨0,v⟩
theorem Sv:bO Tryz.prog 47 CR:=kC tT (cv CR 0) (∀(a:Int)(c:BL)(b:List Et)(d:List BL)(Q:aN CR.out→Prop),let e:=FC (c,b,d,[],());let z:=b.getD (a-1).toNat (0,[],[],[],[],[],[],());(Ct.spec CR (a,c,b,d,())).sat Q→Br (decide (a<1)) (Q e) (True∧Br (decide ((↑b.length:Int)<a)) (Q e) (ae (a-1)∧(0≤a-1∧a-1<(↑b.length:Int))∧(ac z.2.2.1≤1000000∧∀(m:Mb),m∈z.2.2.1→ac m.2.1≤1000000∧ac m.2.2.1≤1000000)∧Q (FC (c,b,d,z.2.2.1,()))))) (by kernel_rfl) (by
 conv=>zeta
 unfold Br;intro n a c l Q ⟨⟨i,o,p,m⟩,f⟩;have b:∀y,cL c n=y→Q ⟨0,(a,c,l,y,())⟩:=λy e=>by rw[e]at f;exact f
 clear f;unfold cL at b;simp only[ah,aj];refine⟨λh=>b _ (an (.inl h)),λh=>⟨trivial,λg=>b _ (an (.inr g)),λg=>?_⟩⟩;have q:=i.1;have j:=aT (z:=((0,[],[],[],[],[],[],()):Et)) (show(n-1).toNat<c.length by omega);exact⟨by unfold ae;omega,by omega,⟨(i.2 _ j).1,m _ j⟩,b _ (ag (by omega))⟩)
def Nz:bu:=(47,[CR,zd])::FA
theorem YN:KK Nz:=⟨aP.add tT.1 (by kernel_rfl) (ik (Sv) (bo (FB))),bg.add tT.2 (ik (λ_=>bH) (bo (λ_=>bH)))⟩
def Lb:List Fk→Int→Int×Bool
 |[],_=>(0,false)
 |x::r,a=>if x.1=a then(x.2.1,true)else Lb r a
def vW:List Et→Int→Int×Bool
 |[],_=>(0,false)
 |e::r,a=>if(Lb e.2.2.2.1 a).2 then Lb e.2.2.2.1 a else vW r a
def FD:Ct:=⟨2,⟨[V0 0,sI 1],[]⟩,[⟨[sI 0,sL 1],[]⟩],λ(a,b,_)=>one (cu a.2.1 a.2.2.1) ((vW a.2.1.reverse b).1,(vW a.2.1.reverse b).2,())⟩
def YO:cc:=⟨[V0 0,sI 1,sI 10,sI 11],[]⟩
def Lc(lg:Lg)(au:Int)(y:YO.den):Prop:=match y with
 |(a,b,n,i,_)=>a=lg∧b=au∧n=lg.2.1.length∧∃k:Nat,i=k∧k≤lg.2.1.length∧vW (lg.2.1.take (lg.2.1.length-k)).reverse au=vW lg.2.1.reverse au
def YP:cc:=⟨[V0 0,sI 1,sI 10,sI 11,(25,false,[.d (.sl ic)]),sI 26,sI 27],[]⟩
def Ld(lg:Lg)(au e:Int)(y:YP.den):Prop:=match y with
 |(b,c,n,i,a,f,j,_)=>b=lg∧c=au∧n=lg.2.1.length∧e=i∧f=a.length∧a.length≤1000000∧∃k:Nat,i=k∧k<lg.2.1.length∧(if(Lb a au).2 then Lb a au else vW (lg.2.1.take (lg.2.1.length-(k+1))).reverse au)=vW lg.2.1.reverse au∧∃r:Nat,j=r∧r≤a.length∧Lb (a.drop r) au=Lb a au
def a4g(x:FD.inp.den):dG:=⟨[(2,og YO (Lc x.1 x.2.1) (λ(_,_,n,i,_)=>(n-i).toNat) λ(_,_,_,i,_)=>[(5,bM YP (Ld x.1 x.2.1 i) λ(_,_,_,_,_,n,j,_)=>(n-j).toNat)])],[],[],[],0⟩
abbrev FE(v:Int×Bool×Unit):aN FD.out:=⟨0,v⟩
def NA:bu:=(165,[FD])::Nz
theorem YQ:KK NA:=kA YN a4g (∀(d:Lg)(e:Int)(Q:aN FD.out→Prop),(Ct.spec FD (d,e,())).sat Q→True∧Is (Lc d e (d,e,(↑(ac d.2.1):Int),0,()))∧∀(c:Lg)(m h a:Int),let z:=ac c.2.1;let n:=bv c.2.1 ((↑z:Int)-1-a).toNat (0,[],[],[],[],[],[],());Lc d e (c,m,h,a,())→Br (decide (a<h)) (True∧ae ((↑z:Int)-1)∧ae ((↑z:Int)-1-a)∧(0≤(↑z:Int)-1-a∧(↑z:Int)-1-a<(↑z:Int))∧Is (Ld d e a (c,m,h,a,n.2.2.2.1,(↑(ac n.2.2.2.1):Int),0,()))∧∀(l:Lg)(i k j:Int)(f:List Fk)(g b:Int),let o:=f.getD b.toNat (0,0,());Ld d e a (l,i,k,j,f,g,b,())→Br (decide (b<g)) ((0≤b∧b<(↑f.length:Int))∧Br (o.1==i) (Q (FE (o.2.1,true,()))) (ae (b+1)∧Is (Ld d e a (l,i,k,j,f,g,b+1,())∧(g-(b+1)).toNat<(g-b).toNat))) (ae (j+1)∧Is (Lc d e (l,i,k,j+1,())∧(k-(j+1)).toNat<(h-a).toNat))) (Q (FE (0,false,())))) (by kernel_rfl) (by
 conv=>zeta
 unfold Br;rintro⟨a,b,F,⟨⟩⟩ u Q ⟨⟨v,O,P,R⟩,w⟩;dsimp only at*;have x:∀y:Int×Bool,vW b.reverse u=y→Q ⟨0,(y.1,y.2,())⟩:=λy e=>by rw[←e];exact w
 clear w;have S:=v.1;refine⟨trivial,⟨rfl,rfl,rfl,0,rfl,aq _,by simp⟩,?_⟩;rintro G u n i ⟨rfl,rfl,rfl,k,rfl,U,f⟩;simp only[ah,aj]at*;have A:(((a,b,F,()):Lg).2.1).length=b.length:=rfl;have J:((b.length:Int)-1-(k:Int)).toNat=b.length-(k+1):=by omega
 refine⟨λh=>?_,λh=>x (0,false) ?_⟩
 ·have m:k<b.length:=by omega
  have K:b.length-k=(b.length-(k+1))+1:=by omega
  have B:b.length-(k+1)<b.length:=by omega
  rw[J];rw[K,cK (z:=((0,[],[],[],[],[],[],()):Et)) B,List.reverse_append]at f;have C:=v.2 _ (aT (z:=((0,[],[],[],[],[],[],()):Et)) B);generalize b.getD (b.length-(k+1)) (0,[],[],[],[],[],[],())=H at*;refine⟨trivial,by unfold ae;omega,by unfold ae;omega,by omega,⟨rfl,rfl,rfl,rfl,rfl,C.2.1,k,rfl,m,f,0,rfl,aq _,rfl⟩,?_⟩;clear f C;rintro L M W X D Y j ⟨rfl,rfl,rfl,E,rfl,q,p,rfl,s,f,r,rfl,hr,l⟩;have t:p=k:=by have:(k:Int)=p:=E;omega
  subst t;dsimp only at f;simp only[aG];refine⟨λg=>?_,λg=>⟨by unfold ae;omega,⟨⟨rfl,rfl,rfl,p+1,rfl,m,?_⟩,by omega⟩⟩⟩
  ·have o:r<D.length:=by omega
   rw[cW (z:=((0,0,()):Fk)) o]at l;generalize D.getD r (0,0,())=H at*;simp only[Lb]at l;refine⟨by omega,λc=>x (H.2.1,true) ?_,λc=>⟨by unfold ae;omega,⟨⟨rfl,rfl,rfl,E,rfl,q,p,rfl,s,f,r+1,rfl,o,?_⟩,by omega⟩⟩⟩
   ·rw[an (by simpa using c)]at l;rw[←l]at f;simpa using f.symm
   ·rw[ag (by simpa using c)]at l;exact l
  ·rw[bw (by omega)]at l;rw[←l]at f;simpa[Lb]using f
 ·have N:b.length-k=0:=by omega
  rw[N]at f;rw[←f];rfl)
def FF:Ct:=⟨1,⟨[V0 0],[]⟩,[⟨[sP 0],[some (.cells [.d tB, .cut r6, .cut tB])]⟩],λ(a,_)=>one (cu a.2.1 a.2.2.1) (a.1,a.2.1,a.2.2.1,())⟩
abbrev Sw(v:Lg):aN FF.out:=⟨0,v⟩
def NB:bu:=(91,[FF])::NA
theorem YR:KK NB:=kA YQ (cv FF 0) (∀(a:Lg)(Q:aN FF.out→Prop),let z:=ac a.2.1;(Ct.spec FF (a,())).sat Q→((0:Int)≤0∧0≤(↑z:Int)∧(↑z:Int)=(↑z:Int)∧(↑z:Int)≤(↑z:Int))∧((0:Int)≤0∧0≤(↑z:Int)∧(↑z:Int)=(↑z:Int)∧(↑z:Int)≤(↑(ac a.2.2.1):Int))∧Q (Sw (a.1,cS (↑z:Int).toNat a.2.1,cS (↑z:Int).toNat a.2.2.1,()))) (by kernel_rfl) (by
 conv=>zeta
 rintro⟨a,b,f,⟨⟩⟩ Q ⟨⟨g,h,i,j⟩,c⟩;dsimp only at*;have e:((b.length:Int)).toNat=b.length:=aG _;rw[e,bp,ba (by omega)];exact⟨by omega,by omega,c⟩)
def fY(es:List Et):List Mb:=(es.getD (es.length-1) (0,[],[],[],[],[],[],())).2.2.1
def J8(es:List Et)(last:List Mb)(m:Mb):Prop:=Nx false es m.1=false∧((fQ last m.1).2=true→(fQ last m.1).1.2.1=m.2.1∧(fQ last m.1).1.2.2.1=m.2.2.1)
instance (es:List Et) (last:List Mb) (m:Mb):Decidable (J8 es last m):=by unfold J8;infer_instance
def ru(ms:List Mb)(last:List Mb):List Int:=(last.filter λm=> !(fQ ms m.1).2).map (·.1)
def FG(es:List Et)(ms:List Mb)(ns:List Fk):Bool:=decide ((∀m∈ms,J8 es (fY es) m)∧ru ms (fY es)=ns.map (·.1))
def u4:Ct:=⟨3,⟨[sP 0,(1,false,[.d (.sl il)]),(2,false,[.d (.sl ic)])],r7⟩,[⟨[sL 0],r7⟩],λ(c,e,a,b,f,_)=>one (zb b∧c.length≤1000000∧e.length≤1000000) (FG b c e,a,b,f,())⟩
def YS:cc:=⟨[sP 0,(1,false,[.d (.sl il)]),(2,false,[.d (.sl ic)]),(7,false,[.d (.sl il)])],r7⟩
def Le(x:u4.inp.den)(y:YS.den):Prop:=match x,y with
 |(e,f,h,b,g,_),(i,j,c,a,l,m,_)=>i=e∧j=f∧c=fY b∧a=h∧l=b∧m=g
theorem FH{α β:Type}(f:α→β){l:List α}{k:Nat}(z:α)(y:β)(h:k<l.length):(l.map f).getD k y=f (l.getD k z):=by
 simp[az,ap,h]
theorem FI{es:List Et}(h:zb es):(fY es).length≤1000000:=by
 unfold fY;rcases Nat.eq_zero_or_pos es.length with e|e
 ·have:es=[]:=rY.1 e;subst this;simp
 ·exact(h.2 _ (aT (z:=((0,[],[],[],[],[],[],()):Et)) (show es.length-1<es.length by omega))).1
theorem CS(ms:List Mb){last:List Mb}{k:Nat}(h:k<last.length):ru ms (last.take (k+1))=ru ms (last.take k)++(if(fQ ms (last.getD k (0,[],[],())).1).2 then[]else[(last.getD k (0,[],[],())).1]):=by
 rw[cK (z:=((0,[],[],()):Mb)) h];unfold ru;rw[List.filter_append,dl]
 congr 1
 by_cases c:(fQ ms (last.getD k (0,[],[],())).1).2=true
 ·rw[an c];simp only[List.filter_cons,c];rfl
 ·rw[ag c];simp only[bX]at c;simp only[List.filter_cons,c];rfl
theorem FJ(ms last:List Mb):∀k,(ru ms (last.take k)).length≤last.length:=by
 intro k;unfold ru;rw[bT];refine bA (List.length_filter_le _ _) ?_;simp;omega
def YT:cc:=⟨[sP 0,(1,false,[.d (.sl il)]),(2,false,[.d (.sl ic)]),(7,false,[.d (.sl il)]),(38,false,[.d (.sl il)]),sI 39,sI 40],r7⟩
def FK(x:u4.inp.den)(y:YT.den):Prop:=match x,y with
 |(b,f,j,c,g,_),(l,o,e,h,n,i,a,p,q,_)=>l=b∧o=f∧e=fY c∧h=b∧n=b.length∧a=j∧p=c∧q=g∧∃k:Nat,i=k∧k≤b.length∧∀m∈b.take k,J8 c (fY c) m
def YU:cc:=⟨[(1,false,[.d (.sl il)]),(2,false,[.d (.sl ic)]),sO 12 1,(75,false,[.d (.sl il)]),sI 76,sI 77],r7++[some (.sl .i64)]⟩
def FL(x:u4.inp.den)(y:YU.den):Prop:=match x,y with
 |(c,f,h,b,g,_),(j,l,e,n,i,a,o,p,q,_)=>j=c∧l=f∧e=fY b∧n=(fY b).length∧a=h∧o=b∧p=g∧(∀m∈c,J8 b (fY b) m)∧∃k:Nat,i=k∧k≤(fY b).length∧q=ru c ((fY b).take k)
def YV:cc:=⟨[(12,false,[.d (.sl .i64)]),(101,false,[.d (.sl ic)]),sI 102,sI 103],r7⟩
def Lf(x:u4.inp.den)(y:YV.den):Prop:=match x,y with
 |(e,b,h,c,f,_),(g,j,n,i,a,l,o,_)=>j=b∧n=b.length∧a=h∧l=c∧o=f∧(∀m∈e,J8 c (fY c) m)∧g=ru e (fY c)∧ac g=b.length∧∃k:Nat,i=k∧k≤b.length∧cS k g=(b.take k).map (·.1)
def a4h(x:u4.inp.den):dG:=⟨[(5,bM YT (FK x) λ(_,_,_,_,n,i,_)=>(n-i).toNat),(13,bM YU (FL x) λ(_,_,_,n,i,_)=>(n-i).toNat),(22,bM YV (Lf x) λ(_,_,n,i,_)=>(n-i).toNat)],[(4,bM YS (Le x) λ_=>0)],[],[],0⟩
abbrev u5(v:Bool×Lg):aN u4.out:=⟨0,v⟩
def NC:bu:=(108,[u4])::NB
theorem ND:KK NC:=kA YR a4h (∀(c:List Mb)(d:List Fk)(e:BL)(a:List Et)(f:List BL)(Q:aN u4.out→Prop),let x:=(c,d,e,a,f,());(Ct.spec u4 x).sat Q→(Br (decide (0<(↑a.length:Int))) (ae ((↑a.length:Int)-1)∧(0≤(↑a.length:Int)-1∧(↑a.length:Int)-1<(↑a.length:Int))∧Is (Le x (c,d,(a.getD ((↑a.length:Int)-1).toNat (0,[],[],[],[],[],[],())).2.2.1,e,a,f,()))) (Is (Le x (c,d,[],e,a,f,()))))∧∀(C:List Mb)(J:List Fk)(K:List Mb)(L:BL)(M:List Et)(N:List BL),Le x (C,J,K,L,M,N,())→Is (FK x (C,J,K,C,(↑C.length:Int),0,L,M,N,()))∧∀(E:List Mb)(F:List Fk)(j g:List Mb)(l b:Int)(n:BL)(k:List Et)(o:List BL),let G:=u5 (false,n,k,o,());let O:Prop:=ae (b+1)∧Is (FK x (E,F,j,g,l,b+1,n,k,o,())∧(l-(b+1)).toNat<(l-b).toNat);let A:=g.getD b.toNat (0,[],[],());let H:= !(fQ j A.1).1.2.1==A.2.1;let R:= !(fQ j A.1).1.2.2.1==A.2.2.1;FK x (E,F,j,g,l,b,n,k,o,())→Br (decide (b<l)) ((0≤b∧b<(↑g.length:Int))∧j.length≤1000000∧zb k∧Br (Nx false k A.1) (Q G) (Br ((fQ j A.1).2) (True∧Br H (Q G) (True∧Br R (Q G) O)) O)) (Is (FL x (E,F,j,(↑j.length:Int),0,n,k,o,[],()))∧∀(s:List Mb)(p:List Fk)(q:List Mb)(m h:Int)(u:BL)(v:List Et)(w:List BL)(r:List Int),let B:Prop:=(m-(h+1)).toNat<(m-h).toNat;let S:= !(↑r.length:Int)==(↑p.length:Int);let P:=q.getD h.toNat (0,[],[],());FL x (s,p,q,m,h,u,v,w,r,())→Br (decide (h<m)) ((0≤h∧h<(↑q.length:Int))∧s.length≤1000000∧Br (!(fQ s P.1).2) ((r.length+1)*8≤140737488355328∧ae (h+1)∧Is (FL x (s,p,q,m,h+1,u,v,w,r++[P.1],())∧B)) (ae (h+1)∧Is (FL x (s,p,q,m,h+1,u,v,w,r,())∧B))) (Br S (Q (u5 (false,u,v,w,()))) (Is (Lf x (r,p,(↑p.length:Int),0,u,v,w,()))∧∀(y:List Int)(z:List Fk)(t i:Int)(U:BL)(W:List Et)(X:List BL),let D:=(U,W,X,());let Y:= !(z.getD i.toNat (0,0,())).1==y.getD i.toNat 0;Lf x (y,z,t,i,D)→Br (decide (i<t)) ((0≤i∧i<(↑z.length:Int))∧(0≤i∧i<(↑y.length:Int))∧Br Y (Q (u5 (false,D))) (ae (i+1)∧Is (Lf x (y,z,t,i+1,D)∧(t-(i+1)).toNat<(t-i).toNat))) (Q (u5 (true,D))))))) (by kernel_rfl) (by
 conv=>zeta
 unfold Br;rintro j o a f s Q ⟨⟨B,N,X⟩,J⟩
 have hB:∀b:Bool,(b=true↔((∀m∈j,J8 f (fY f) m)∧ru j (fY f)=o.map (·.1)))→Q ⟨0,(b,a,f,s,())⟩:=by
  intro b O;have:b=FG f j o:=by unfold FG;rw[lI,O,ah]
  rw[this];exact J
 clear J;have Y:=B.1;have C:=FI B;simp only[ah,aj];refine⟨⟨λh=>⟨by unfold ae;omega,by omega,⟨rfl,rfl,?_,rfl,rfl,rfl⟩⟩,λh=>⟨rfl,rfl,?_,rfl,rfl,rfl⟩⟩,?_⟩
 ·have:((f.length:Int)-1).toNat=f.length-1:=by omega
  rw[this];rfl
 ·have:f=[]:=rY.1 (by omega);subst this;rfl
 ·rintro j o t a f s ⟨rfl,rfl,rfl,rfl,rfl,rfl⟩;refine⟨⟨rfl,rfl,rfl,rfl,rfl,rfl,rfl,rfl,0,rfl,aq _,by simp⟩,?_⟩;rintro P o t j n i a f s ⟨rfl,rfl,rfl,rfl,rfl,rfl,rfl,rfl,k,rfl,R,K⟩;simp only[aG];refine⟨λh=>?_,λh=>⟨⟨rfl,rfl,rfl,rfl,rfl,rfl,rfl,?_,0,rfl,aq _,rfl⟩,?_⟩⟩
  ·have l:k<j.length:=by omega
   have S:=aT (z:=((0,[],[],()):Mb)) l;have y:=λD=>ny ((0,[],[],()):Mb) (p:=J8 f (fY f)) K l D;generalize j.getD k (0,[],[],())=H at*;have E:¬J8 f (fY f) H→Q ⟨0,(false,a,f,s,())⟩:=λg=>hB _ ⟨λq=>by simp at q,λq=>absurd (q.1 H S) g⟩;have L:J8 f (fY f) H→ae ((k:Int)+1)∧Is (FK (j,o,a,f,s,()) (j,o,fY f,j,(j.length:Int),(k:Int)+1,a,f,s,())∧((j.length:Int)-((k:Int)+1)).toNat<((j.length:Int)-(k:Int)).toNat):=λD=>⟨by unfold ae;omega,⟨⟨rfl,rfl,rfl,rfl,rfl,rfl,rfl,rfl,k+1,rfl,l,y D⟩,by omega⟩⟩;refine⟨by omega,C,B,λg=>E λq=>by rw[q.1]at g;simp at g,λg=>⟨λc=>⟨trivial,λd=>E λq=>?_,λd=>⟨trivial,λe=>E λq=>?_,λe=>L ⟨g,λ_=>⟨?_,?_⟩⟩⟩⟩,λc=>L ⟨g,λM=>?_⟩⟩⟩
   ·rw[(q.2 c).1]at d;simp at d
   ·rw[(q.2 c).2]at e;simp at e
   ·simpa using d
   ·simpa using e
   ·rw[c]at M;simp at M
  ·have:k=j.length:=by omega
   rwa [this,bp]at K
  ·rintro j o t n i a f s U ⟨rfl,rfl,rfl,rfl,rfl,rfl,rfl,v,k,rfl,R,rfl⟩;have F:=λh=>CS j (last:=fY f) (k:=k) h;have W:=FJ j (fY f) k;simp only[aG];refine⟨λh=>?_,λh=>?_⟩
   ·have l:k<(fY f).length:=by omega
    have y:=F l;generalize(fY f).getD k (0,[],[],())=H at*;refine⟨by omega,N,λg=>⟨by omega,by unfold ae;omega,⟨⟨rfl,rfl,rfl,rfl,rfl,rfl,rfl,v,k+1,rfl,l,?_⟩,by omega⟩⟩,λg=>⟨by unfold ae;omega,⟨⟨rfl,rfl,rfl,rfl,rfl,rfl,rfl,v,k+1,rfl,l,?_⟩,by omega⟩⟩⟩
    ·rw[y,ag (by simpa using g)]
    ·rw[y,an (by simpa using g),bj]
   ·have:k=(fY f).length:=by omega
    rw[this,bp];refine⟨λg=>hB _ ⟨λq=>by simp at q,λq=>?_⟩,λg=>⟨⟨rfl,rfl,rfl,rfl,rfl,v,rfl,?_,0,rfl,aq _,by simp⟩,?_⟩⟩
    ·rw[q.2]at g;simp at g
    ·have:(((ru j (fY f)).length:Nat):Int)=o.length:=by simpa using g
     exact Int.ofNat.inj this
    ·rintro U o n i a f s ⟨rfl,rfl,rfl,rfl,rfl,v,rfl,w,r,rfl,hr,A⟩;simp only[aG];refine⟨λg=>?_,λg=>hB _ ⟨λ_=>⟨v,?_⟩,λ_=>rfl⟩⟩
     ·have u:r<o.length:=by omega
      have G:=FH (λx:Fk=>x.1) ((0,0,()):Fk) (0:Int) u;refine⟨by omega,by omega,λc=>hB _ ⟨λq=>by simp at q,λq=>?_⟩,λc=>⟨by unfold ae;omega,⟨⟨rfl,rfl,rfl,rfl,rfl,v,rfl,w,r+1,rfl,u,?_⟩,by omega⟩⟩⟩
      ·rw[q.2,G]at c;simp at c
      ·rw[cK (z:=((0,0,()):Fk)) u,cK (z:=(0:Int)) (by omega),A,dl];have:(o.getD r (0,0,())).1=(ru j (fY f)).getD r 0:=by simpa using c
       rw[←this];rfl
     ·have G:r=o.length:=by omega
      rw[G,bp]at A;rw[ba (by omega)]at A;exact A)
def rnL:Ct:=⟨3,⟨[sP 0,sI 1,sI 2],rH⟩,[⟨[sI 0],rH⟩],λ(c,f,b,a,m,e,_)=>du (bP b a) (cR b a m e c f) λy=>(y.1,b,y.2.1,m,y.2.2,())⟩
theorem Sx:bO Tryz.prog 52 rnL:=bO.mono MU λ_ _ h=>dz h rfl
def NE:bu:=(52,[rnL])::NC
theorem NF:KK NE:=⟨aP.add ND.1 (by kernel_rfl) (bo Sx),bg.add ND.2 (bo (λ_=>bm))⟩
def rtL:Ct:=⟨2,⟨[sP 0,sI 1],rH⟩,[⟨[sO 0 1],rH++[cB]⟩],λ(n,b,a,m,e,_)=>du (bP b a) (gj b a m e n) λy=>(b,y.2.1,m,y.2.2,y.1,())⟩
theorem Sy:bO Tryz.prog 53 rtL:=bO.mono MV λ_ _ h=>dz h rfl
def NG:bu:=(53,[rtL])::NE
theorem NH:KK NG:=⟨aP.add NF.1 (by kernel_rfl) (bo Sy),bg.add NF.2 (bo (λ_=>bm))⟩
def xr:cc:=⟨[sO 0 4],CK++[cB]⟩
abbrev Z:=BL×List Tm×KV
def Sz(d:Int)(y:Z):xr.den:=(d,y.2.2,y.2.1,y.1,())
def drL:Ct:=⟨1,⟨[sP 0],lO⟩,[xr],λ(d,a,m,_)=>du (a.length≤4294967296∧0≤d∧d≤4294967296) (dT (115,[dx (d+1)],()) a m) (Sz (d+1))⟩
theorem SA:bO Tryz.prog 356 drL:=bO.mono M1 λ_ _ h=>dz h rfl
def NI:bu:=(356,[drL])::NG
theorem NJ:KK NI:=⟨aP.add NH.1 (by kernel_rfl) (bo SA),bg.add NH.2 (bo (λ_=>bm))⟩
def haL:Ct:=⟨2,⟨[sP 0,sB 1],lO⟩,[xr],λ(b,d,a,m,_)=>du (aB b∧a.length≤4294967296) (dT (104,[b],()) a m) (Sz d)⟩
theorem SB:bO Tryz.prog 357 haL:=bO.mono M3 λ_ _ h=>dz h rfl
def NK:bu:=(357,[haL])::NI
theorem NL:KK NK:=⟨aP.add NJ.1 (by kernel_rfl) (bo SB),bg.add NJ.2 (bo (λ_=>bm))⟩
def puL:Ct:=⟨2,⟨[sP 0,sB 1],lO⟩,[xr],λ(b,d,a,m,_)=>du (aB b∧a.length≤4294967296) (de (112,[b],()) a m) (Sz d)⟩
theorem SC:bO Tryz.prog 360 puL:=bO.mono M4 λ_ _ h=>dz h rfl
def NM:bu:=(360,[puL])::NK
theorem NN:KK NM:=⟨aP.add NL.1 (by kernel_rfl) (bo SC),bg.add NL.2 (bo (λ_=>bm))⟩
def snL:Ct:=⟨2,⟨[sP 0,sB 1],lO⟩,[xr],λ(b,d,a,m,_)=>du (aB b∧a.length≤4294967296) (de (118,[b],()) a m) (Sz d)⟩
theorem SD:bO Tryz.prog 364 snL:=bO.mono M5 λ_ _ h=>dz h rfl
def NO:bu:=(364,[snL])::NM
theorem NP:KK NO:=⟨aP.add NN.1 (by kernel_rfl) (bo SD),bg.add NN.2 (bo (λ_=>bm))⟩
def deL:Ct:=⟨3,⟨[sP 0,sB 1,sB 2],lO⟩,[xr],λ(b,c,d,a,m,_)=>du (aB b∧aB c∧a.length≤4294967296) (de (107,[b,c],()) a m) (Sz d)⟩
theorem SE:bO Tryz.prog 355 deL:=bO.mono M6 λ_ _ h=>dz h rfl
def NQ:bu:=(355,[deL])::NO
theorem NR:KK NQ:=⟨aP.add NP.1 (by kernel_rfl) (bo SE),bg.add NP.2 (bo (λ_=>bm))⟩
def sgL:Ct:=⟨3,⟨[sP 0,sB 1,sB 2],lO⟩,[xr],λ(b,c,d,a,m,_)=>du (aB b∧aB c∧a.length≤4294967296) (de (103,[b,c],()) a m) (Sz d)⟩
theorem SF:bO Tryz.prog 363 sgL:=bO.mono M7 λ_ _ h=>dz h rfl
def NS:bu:=(363,[sgL])::NQ
theorem NT:KK NS:=⟨aP.add NR.1 (by kernel_rfl) (bo SF),bg.add NR.2 (bo (λ_=>bm))⟩
def seL:Ct:=⟨5,⟨[sP 0,sB 1,sI 2,sB 3,sB 4],lO⟩,[xr],λ(k,n,o,x,d,a,m,_)=>du (aB k∧aB o∧aB x∧a.length≤4294967296) (lA k n o x a m) (Sz d)⟩
theorem SG:bO Tryz.prog 361 seL:=bO.mono M9 λ_ _ h=>dz h rfl
def NU:bu:=(361,[seL])::NS
theorem NV:KK NU:=⟨aP.add NT.1 (by kernel_rfl) (bo SG),bg.add NT.2 (bo (λ_=>bm))⟩
def opL:Ct:=⟨5,⟨[sP 0,sB 1,sI 2,sB 3,sB 4],lO⟩,[⟨[sO 0 3,sI 1],lO++[cB]⟩],λ(k,n,o,x,d,a,m,_)=>du (aB k∧aB o∧aB x∧fg a) (yZ k n o x a) λy=>(y.2,d,a,m,y.1,())⟩
theorem SH:bO Tryz.prog 359 opL:=bO.mono Nb λ_ _ h=>dz h rfl
def NW:bu:=(359,[opL])::NU
theorem NX:KK NW:=⟨aP.add NV.1 (by kernel_rfl) (bo SH),bg.add NV.2 (bo (λ_=>bm))⟩
def shL:Ct:=⟨3,⟨[sP 0,sB 1,sB 2],lO⟩,[⟨[sO 0 4,sI 1],CK++[cB]⟩],λ(s,p,d,a,m,_)=>du (aB s∧aB p∧fg a) (mK s p a m) λy=>(y.2,d,y.1.2.2,y.1.2.1,y.1.1,())⟩
theorem SI:bO Tryz.prog 362 shL:=bO.mono Nc λ_ _ h=>dz h rfl
def NY:bu:=(362,[shL])::NW
theorem NZ:KK NY:=⟨aP.add NX.1 (by kernel_rfl) (bo SI),bg.add NX.2 (bo (λ_=>bm))⟩
def dgL:Ct:=⟨2,⟨[sS 0 0,(1,true,[.d A3])],kH 0⟩,[⟨[sO 0 4],kI 0 3++[cT,cB]⟩],λ(l,d,a,m,_)=>du (a.length≤4294967296) (lB l a m) λy=>(d,y.2.2,y.2.1,y.1,())⟩
theorem SJ:bO Tryz.prog 177 dgL:=bO.mono Nh λ_ _ h=>dz h rfl
def N0:bu:=(177,[dgL])::NY
theorem N1:KK N0:=⟨aP.add NZ.1 (by kernel_rfl) (bo SJ),bg.add NZ.2 (bo (λ_=>bm))⟩
def chL:Ct:=⟨3,⟨[sP 0,sS 1 2,(2,true,[.d A3])],iW 0++kH 2⟩,[⟨[sI 0],iW 0++kI 2 5++[cT]⟩],λ(lk,l,d,a,m,_)=>du (a.length≤4294967296∧bZ l) (iB lk l a m) λy=>(y.1,l,d,y.2.2,y.2.1,())⟩
theorem SK:bO Tryz.prog 161 chL:=bO.mono Nj λ_ _ h=>dz h rfl
def N2:bu:=(161,[chL])::N0
theorem N3:KK N2:=⟨aP.add N1.1 (by kernel_rfl) (bo SK),bg.add N1.2 (bo (λ_=>bm))⟩
def tkL:Ct:=⟨3,⟨[sP 0,sS 1 2,(2,true,[.d A3])],iW 0++kH 2⟩,[⟨[sI 0],iW 0++kI 2 5++[cT]⟩],λ(lk,l,d,a,m,_)=>du (a.length≤4294967295∧bZ l) (nK lk l a m) λy=>(y.1,y.2.1,d,y.2.2.2,y.2.2.1,())⟩
theorem SL:bO Tryz.prog 120 tkL:=bO.mono Nl λ_ _ h=>dz h rfl
def N4:bu:=(120,[tkL])::N2
theorem N5:KK N4:=⟨aP.add N3.1 (by kernel_rfl) (bo SL),bg.add N3.2 (bo (λ_=>bm))⟩
def YW:Ct:=⟨2,⟨[(0,false,[.d (.sl il)]),sI 1],[]⟩,[⟨[(0,true,[.d il]),sL 1],[]⟩],λ(l,id,_)=>du (l.length≤1000000) (fQ l id) λy=>(y.1,y.2,())⟩
theorem Lh:bO Tryz.prog 145 YW:=bO.mono Fu λ_ _ h=>dz h rfl
def FM:bu:=(145,[YW])::N4
theorem SM:KK FM:=⟨aP.add N5.1 (by kernel_rfl) (bo Lh),bg.add N5.2 (bo (λ_=>bm))⟩
def xt{α:Type}(one:Rs→α×Rs):Nat→Rs→List α→List α×Rs
 |0,s,a=>(a,s)
 |k+1,s,a=>xt one k (one s).2 (a++[(one s).1])
def CT(b:BL)(m:Bool)(s:Rs):Mb×Rs:=
 let i:=cR b s.1 m s.2 0 4
 let p:=gj b i.2.1 m i.2.2 64
 let g:=gj b p.2.1 m p.2.2 64
 ((i.1,p.1,g.1,()),g.2)
def CU(b:BL)(m:Bool)(s:Rs):Fk×Rs:=
 let i:=cR b s.1 m s.2 0 4
 let p:=cR b i.2.1 m i.2.2 0 1048576
 ((i.1,p.1,()),p.2)
def CV(b:BL)(m:Bool)(s:Rs):BL×Rs:=gj b s.1 m s.2 64
def V1:List (Option CP):=[some (.cells [.ptr 1 0])]++rH
def YX:Ct:=⟨1,⟨[sP 0],V1⟩,[⟨[(0,true,[.d il])],V1⟩],λ(b,a,m,e,_)=>du (bP b a) (CT b m (a,e)) λy=>(y.1,b,y.2.1,m,y.2.2,())⟩
abbrev YY(v:Mb×BL×Int×Bool×Int×Unit):aN YX.out:=⟨0,v⟩
def YZ:bu:=(55,[YX])::FM
theorem a4i:KK YZ:=kA SM (cv YX 0) (∀(a:BL)(f:Int)(d:Bool)(g:Int)(Q:aN YX.out→Prop),(Ct.spec YX (a,f,d,g,())).sat Q→bP a f∧∀(b:Int×Int×Int),b=cR a f d g 0 4→bP a b.2.1∧∀(c:BL×Int×Int),c=gj a b.2.1 d b.2.2 64→bP a c.2.1∧∀(e:BL×Int×Int),e=gj a c.2.1 d c.2.2 64→Q (YY ((b.1,c.1,e.1,()),a,e.2.1,d,e.2.2,()))) (by kernel_rfl) (by
 rintro b a m e Q ⟨c,g⟩;have f:=eD m e 0 4 c;refine⟨c,?_⟩;rintro y rfl;refine⟨f.1,?_⟩;have h:=mL m (cR b a m e 0 4).2.2 64 f.1;rintro y rfl;refine⟨h.1,?_⟩;rintro y rfl;exact g _ rfl) (l:=λ_=>bm)
def Y0:Ct:=⟨1,⟨[sP 0],V1⟩,[⟨[(0,true,[.d ic])],V1⟩],λ(b,a,m,e,_)=>du (bP b a) (CU b m (a,e)) λy=>(y.1,b,y.2.1,m,y.2.2,())⟩
abbrev Y1(v:Fk×BL×Int×Bool×Int×Unit):aN Y0.out:=⟨0,v⟩
def Y2:bu:=(57,[Y0])::YZ
theorem a4j:KK Y2:=kA a4i (cv Y0 0) (∀(a:BL)(e:Int)(d:Bool)(f:Int)(Q:aN Y0.out→Prop),(Ct.spec Y0 (a,e,d,f,())).sat Q→bP a e∧∀(b:Int×Int×Int),b=cR a e d f 0 4→bP a b.2.1∧∀(c:Int×Int×Int),c=cR a b.2.1 d b.2.2 0 1048576→Q (Y1 ((b.1,c.1,()),a,c.2.1,d,c.2.2,()))) (by kernel_rfl) (by
 rintro b a m e Q ⟨c,f⟩;have g:=eD m e 0 4 c;refine⟨c,?_⟩;rintro y rfl;refine⟨g.1,?_⟩;rintro y rfl;exact f _ rfl) (l:=λ_=>bm)
def Y3:Ct:=⟨1,⟨[sP 0],V1⟩,[⟨[(0,false,[.d tB])],V1⟩],λ(b,a,m,e,_)=>du (bP b a) (CV b m (a,e)) λy=>(y.1,b,y.2.1,m,y.2.2,())⟩
abbrev Y4(v:BL×BL×Int×Bool×Int×Unit):aN Y3.out:=⟨0,v⟩
def Y5:bu:=(59,[Y3])::Y2
theorem a4k:KK Y5:=kA a4j (cv Y3 0) (∀(a:BL)(c:Int)(d:Bool)(e:Int)(Q:aN Y3.out→Prop),(Ct.spec Y3 (a,c,d,e,())).sat Q→bP a c∧∀(b:BL×Int×Int),b=gj a c d e 64→Q (Y4 (b.1,a,b.2.1,d,b.2.2,()))) (by kernel_rfl) (by
 rintro b a m e Q ⟨c,f⟩;refine⟨c,?_⟩;rintro y rfl;exact f _ rfl) (l:=λ_=>bm)
def nL{α:Type}(one:BL→Bool→Rs→α×Rs)(b:BL)(m:Bool)(s:Rs):List α×Rs:=xt (one b m) (cR b s.1 m s.2 0 5).1.toNat (cR b s.1 m s.2 0 5).2 []
def Li:List (Option CP):=rH++[some (.cells [.ptr 0 0])]
def N6(i:Nat)(f:FuncId)(j:Nat):Nat×Bool×List IP:=(i,false,[.fn f [] [(j,0)]])
def Y6:Ct:=⟨2,⟨[sP 0,N6 1 55 1],Li⟩,[⟨[sO 0 2],Li++[VY]⟩],λ(b,a,m,e,_)=>du (bP b a) (nL CT b m (a,e)) λy=>(b,y.2.1,m,y.2.2,y.1,())⟩
def l1P:cc:=⟨[sP 0,N6 1 55 1,sO 5 2,sI 7,sI 8],Li++[VY]⟩
def l1I(c:BL)(g:Int)(f:Bool)(h:Int)(y:l1P.den):Prop:=match y with
 |(n,i,b,a,m,e,v,_)=>b=c∧m=f∧bP c a∧∃q k:Nat,n=q∧q≤5∧i=k∧k≤q∧v.length=k∧xt (CT c f) (q-k) (a,e) v=nL CT c f (g,h)
def l1A(x:Y6.inp.den):dG:=⟨[(3,bM l1P (l1I x.1 x.2.1 x.2.2.1 x.2.2.2.1) λ(n,i,_)=>(n-i).toNat)],[],[],[],0⟩
theorem FN{b:BL}{a:Int}(m:Bool)(e:Int)(h:bP b a):bP b (CT b m (a,e)).2.1:=by
 have c:=eD m e 0 4 h;have f:=mL m (cR b a m e 0 4).2.2 64 c.1;exact(mL m _ 64 f.1).1
theorem FO{b:BL}{a:Int}(m:Bool)(e:Int)(h:bP b a):bP b (CU b m (a,e)).2.1:=(eD m _ 0 1048576 (eD m e 0 4 h).1).1
theorem FP{b:BL}{a:Int}(m:Bool)(e:Int)(h:bP b a):bP b (CV b m (a,e)).2.1:=(mL m e 64 h).1
abbrev Y7(v:BL×Int×Bool×Int×List Mb×Unit):aN Y6.out:=⟨0,v⟩
def Y8:bu:=(54,[Y6])::Y5
theorem a4l:KK Y8:=kA a4k l1A (∀(f:BL)(h:Int)(i:Bool)(k:Int)(Q:aN Y6.out→Prop),(Ct.spec Y6 (f,h,i,k,())).sat Q→bP f h∧∀(b:Int×Int×Int),b=cR f h i k 0 5→Is (l1I f h i k (b.1,0,f,b.2.1,i,b.2.2,[],()))∧∀(j g:Int)(a:BL)(d:Int)(c:Bool)(e:Int)(l:List Mb),let m:=cR a d c e 0 4;let z:=gj a m.2.1 c m.2.2 64;let n:=gj a z.2.1 c z.2.2 64;l1I f h i k (j,g,a,d,c,e,l,())→Br (decide (g<j)) (bP a d∧∀(b:Mb×Int×Int),b=((m.1,z.1,n.1,()),n.2)→(l.length+1)*56≤140737488355328∧ae (g+1)∧Is (l1I f h i k (j,g+1,a,b.2.1,c,b.2.2,l++[(b.1.1,b.1.2.1,b.1.2.2.1,())],())∧(j-(g+1)).toNat<(j-g).toNat)) (Q (Y7 (a,d,c,e,l,())))) (by kernel_rfl) (by
 conv=>zeta
 unfold Br;intro b a m e Q ⟨p,r⟩;have t:∀y,nL CT b m (a,e)=y→Q ⟨0,(b,y.2.1,m,y.2.2,y.1,())⟩:=λy e=>r y e.symm;clear r;have c:=eD m e 0 5 p;refine⟨p,?_⟩;rintro y rfl;refine⟨⟨rfl,rfl,c.1,(cR b a m e 0 5).1.toNat,0,(pm c.2.2.1).symm,by have:=c.2.2.2;omega,rfl,aq _,rfl,rfl⟩,?_⟩;clear c;rintro n i b x m u v ⟨rfl,rfl,s,q,k,rfl,g,rfl,z,w,f⟩;simp only[ah,aj];have j:v.length=k:=w;refine⟨λh=>⟨s,?_⟩,λh=>?_⟩
 ·rintro y rfl;refine⟨by omega,by unfold ae;omega,⟨⟨rfl,rfl,FN m u s,q,k+1,rfl,g,rfl,by omega,by simp[j],?_⟩,by omega⟩⟩;have o:q-k=(q-(k+1))+1:=by omega
  rw[o]at f;exact f
 ·have o:q-k=0:=by omega
  rw[o]at f;exact t _ f.symm) (l:=λ_=>bm)
def cEn:Option CP:=some (.sl ic)
def Y9:Ct:=⟨2,⟨[sP 0,N6 1 57 1],Li⟩,[⟨[sO 0 2],Li++[cEn]⟩],λ(b,a,m,e,_)=>du (bP b a) (nL CU b m (a,e)) λy=>(b,y.2.1,m,y.2.2,y.1,())⟩
def l2P:cc:=⟨[sP 0,N6 1 57 1,sO 5 2,sI 7,sI 8],Li++[cEn]⟩
def l2I(c:BL)(g:Int)(f:Bool)(h:Int)(y:l2P.den):Prop:=match y with
 |(n,i,b,a,m,e,v,_)=>b=c∧m=f∧bP c a∧∃q k:Nat,n=q∧q≤5∧i=k∧k≤q∧v.length=k∧xt (CU c f) (q-k) (a,e) v=nL CU c f (g,h)
def l2A(x:Y9.inp.den):dG:=⟨[(3,bM l2P (l2I x.1 x.2.1 x.2.2.1 x.2.2.2.1) λ(n,i,_)=>(n-i).toNat)],[],[],[],0⟩
abbrev Za(v:BL×Int×Bool×Int×List Fk×Unit):aN Y9.out:=⟨0,v⟩
def Zb:bu:=(56,[Y9])::Y8
theorem a4m:KK Zb:=kA a4l l2A (∀(e:BL)(h:Int)(i:Bool)(k:Int)(Q:aN Y9.out→Prop),(Ct.spec Y9 (e,h,i,k,())).sat Q→bP e h∧∀(b:Int×Int×Int),b=cR e h i k 0 5→Is (l2I e h i k (b.1,0,e,b.2.1,i,b.2.2,[],()))∧∀(j f:Int)(a:BL)(d:Int)(c:Bool)(g:Int)(l:List Fk),let m:=cR a d c g 0 4;let z:=cR a m.2.1 c m.2.2 0 1048576;l2I e h i k (j,f,a,d,c,g,l,())→Br (decide (f<j)) (bP a d∧∀(b:Fk×Int×Int),b=((m.1,z.1,()),z.2)→(l.length+1)*16≤140737488355328∧ae (f+1)∧Is (l2I e h i k (j,f+1,a,b.2.1,c,b.2.2,l++[(b.1.1,b.1.2.1,())],())∧(j-(f+1)).toNat<(j-f).toNat)) (Q (Za (a,d,c,g,l,())))) (by kernel_rfl) (by
 conv=>zeta
 unfold Br;intro b a m e Q ⟨p,r⟩;have t:∀y,nL CU b m (a,e)=y→Q ⟨0,(b,y.2.1,m,y.2.2,y.1,())⟩:=λy e=>r y e.symm;clear r;have c:=eD m e 0 5 p;refine⟨p,?_⟩;rintro y rfl;refine⟨⟨rfl,rfl,c.1,(cR b a m e 0 5).1.toNat,0,(pm c.2.2.1).symm,by have:=c.2.2.2;omega,rfl,aq _,rfl,rfl⟩,?_⟩;clear c;rintro n i b x m u v ⟨rfl,rfl,s,q,k,rfl,g,rfl,z,w,f⟩;simp only[ah,aj];have j:v.length=k:=w;refine⟨λh=>⟨s,?_⟩,λh=>?_⟩
 ·rintro y rfl;refine⟨by omega,by unfold ae;omega,⟨⟨rfl,rfl,FO m u s,q,k+1,rfl,g,rfl,by omega,by simp[j],?_⟩,by omega⟩⟩;have o:q-k=(q-(k+1))+1:=by omega
  rw[o]at f;exact f
 ·have o:q-k=0:=by omega
  rw[o]at f;exact t _ f.symm) (l:=λ_=>bm)
def cBx:Option CP:=some (.sl tB)
def Zc:Ct:=⟨2,⟨[sP 0,N6 1 59 1],Li⟩,[⟨[sO 0 2],Li++[cBx]⟩],λ(b,a,m,e,_)=>du (bP b a) (nL CV b m (a,e)) λy=>(b,y.2.1,m,y.2.2,y.1,())⟩
def l3P:cc:=⟨[sP 0,N6 1 59 1,sO 5 2,sI 7,sI 8],Li++[cBx]⟩
def l3I(c:BL)(g:Int)(f:Bool)(h:Int)(y:l3P.den):Prop:=match y with
 |(n,i,b,a,m,e,v,_)=>b=c∧m=f∧bP c a∧∃q k:Nat,n=q∧q≤5∧i=k∧k≤q∧v.length=k∧xt (CV c f) (q-k) (a,e) v=nL CV c f (g,h)
def l3A(x:Zc.inp.den):dG:=⟨[(3,bM l3P (l3I x.1 x.2.1 x.2.2.1 x.2.2.2.1) λ(n,i,_)=>(n-i).toNat)],[],[],[],0⟩
abbrev Zd(v:BL×Int×Bool×Int×List BL×Unit):aN Zc.out:=⟨0,v⟩
def Ze:bu:=(58,[Zc])::Zb
theorem a4n:KK Ze:=kA a4m l3A (∀(a:BL)(d:Int)(e:Bool)(g:Int)(Q:aN Zc.out→Prop),(Ct.spec Zc (a,d,e,g,())).sat Q→bP a d∧∀(b:Int×Int×Int),b=cR a d e g 0 5→Is (l3I a d e g (b.1,0,a,b.2.1,e,b.2.2,[],()))∧∀(f c:Int)(h:BL)(i:Int)(j:Bool)(l:Int)(k:List BL),l3I a d e g (f,c,h,i,j,l,k,())→Br (decide (c<f)) (bP h i∧∀(b:BL×Int×Int),b=CV h j (i,l)→(k.length+1)*24≤140737488355328∧ae (c+1)∧Is (l3I a d e g (f,c+1,h,b.2.1,j,b.2.2,k++[b.1],())∧(f-(c+1)).toNat<(f-c).toNat)) (Q (Zd (h,i,j,l,k,())))) (by kernel_rfl) (by
 unfold Br;intro b a m e Q ⟨p,r⟩;have t:∀y,nL CV b m (a,e)=y→Q ⟨0,(b,y.2.1,m,y.2.2,y.1,())⟩:=λy e=>r y e.symm;clear r;have c:=eD m e 0 5 p;refine⟨p,?_⟩;rintro y rfl;refine⟨⟨rfl,rfl,c.1,(cR b a m e 0 5).1.toNat,0,(pm c.2.2.1).symm,by have:=c.2.2.2;omega,rfl,aq _,rfl,rfl⟩,?_⟩;clear c;rintro n i b x m u v ⟨rfl,rfl,s,q,k,rfl,g,rfl,z,w,f⟩;simp only[ah,aj];have j:v.length=k:=w;refine⟨λh=>⟨s,?_⟩,λh=>?_⟩
 ·rintro y rfl;refine⟨by omega,by unfold ae;omega,⟨⟨rfl,rfl,FP m u s,q,k+1,rfl,g,rfl,by omega,by simp[j],?_⟩,by omega⟩⟩;have o:q-k=(q-(k+1))+1:=by omega
  rw[o]at f;exact f
 ·have o:q-k=0:=by omega
  rw[o]at f;exact t _ f.symm) (l:=λ_=>bm)
def lk{α:Type}(b:BL)(x:α):α:=match b with
 |[]=>x
 |_::_=>x
theorem ck{α:Type}(b:BL)(x:α):lk b x=x:=by cases b<;>rfl
def D5:Et:=(0,[],[],[],[],[],[],())
def N7(b:BL)(m:Bool)(s:Rs):Et×Rs:=
 let k:=cR b s.1 m s.2 1 1
 let n:=cR b k.2.1 m k.2.2 1 65536
 let p:=gj b n.2.1 m n.2.2 64
 let e:=nL CT b m p.2
 let a:=nL CU b m e.2
 let f:=gj b a.2.1 m a.2.2 64
 let c:=nL CV b m f.2
 let g:=gj b c.2.1 m c.2.2 64
 ((n.1,p.1,e.1,a.1,f.1,c.1,g.1,()),g.2)
def lQ(b:BL)(m:Bool)(s:Rs):Et×Rs:=
 lk b (let x:=N7 b m s
 let a:=if lD x.1=true then x.2.2 else if(m&&x.2.2==0)=true then 5 else x.2.2
 (if(if m=true then a else 5)=0 then x.1 else D5,(x.2.1,a)))
theorem FQ{α:Type}{b:BL}{one:Rs→α×Rs}(h:∀a e,bP b a→bP b (one (a,e)).2.1):∀(n:Nat)(s:Rs)(c:List α),bP b s.1→bP b (xt one n s c).2.1∧(xt one n s c).1.length=c.length+n
 |0,s,c,f=>⟨f,rfl⟩
 |n+1,s,c,f=>by
  obtain⟨g,i⟩:=FQ h n (one s).2 (c++[(one s).1]) (h s.1 s.2 f);refine⟨g,?_⟩;simp only[xt];rw[i];simp;omega
theorem Lj{α:Type}{b:BL}{m:Bool}{one:BL→Bool→Rs→α×Rs}(h:∀a e,bP b a→bP b (one b m (a,e)).2.1)(s:Rs)(f:bP b s.1):bP b (nL one b m s).2.1∧(nL one b m s).1.length≤5:=by
 have c:=eD m s.2 0 5 f;obtain⟨g,i⟩:=FQ h (cR b s.1 m s.2 0 5).1.toNat (cR b s.1 m s.2 0 5).2 [] c.1;refine⟨g,?_⟩;have:=c.2.2.2;unfold nL;rw[i];simp only[cX];omega
def Zf:Ct:=⟨1,⟨[sP 0],rH⟩,[⟨[(0,true,[.d r6])],rH⟩],λ(b,a,m,e,_)=>du (bP b a) (lQ b m (a,e)) λy=>(y.1,b,y.2.1,m,y.2.2,())⟩
abbrev A5(v:Et×BL×Int×Bool×Int×Unit):aN Zf.out:=⟨0,v⟩
def Zg:bu:=(25,[Zf])::Ze
theorem a4o:KK Zg:=kA a4n (cv Zf 0) (∀(c:BL)(k:Int)(d:Bool)(l:Int)(Q:aN Zf.out→Prop),(Ct.spec Zf (c,k,d,l,())).sat Q→bP c k∧∀(b:Int×Int×Int),b=cR c k d l 1 1→bP c b.2.1∧∀(e:Int×Int×Int),e=cR c b.2.1 d b.2.2 1 65536→bP c e.2.1∧∀(f:BL×Int×Int),f=gj c e.2.1 d e.2.2 64→bP c f.2.1∧∀(g:List Mb×Int×Int),g=nL CT c d (f.2.1,f.2.2)→bP c g.2.1∧∀(h:List Fk×Int×Int),h=nL CU c d (g.2.1,g.2.2)→bP c h.2.1∧∀(i:BL×Int×Int),i=gj c h.2.1 d h.2.2 64→bP c i.2.1∧∀(j:List BL×Int×Int),j=nL CV c d (i.2.1,i.2.2)→bP c j.2.1∧∀(a:BL×Int×Int),let m:=d&&a.2.2==0;let n:= !(if d=true then a.2.2 else 5)==0;let o:= !(if d=true then if m=true then 5 else a.2.2 else 5)==0;let z:=(e.1,f.1,g.1,h.1,i.1,j.1,a.1,());a=gj c j.2.1 d j.2.2 64→hK z∧Br (!lD z) (True∧True∧Br o (Q (A5 ((0,[],[],[],[],[],[],()),c,a.2.1,d,if m=true then 5 else a.2.2,()))) (Q (A5 (z,c,a.2.1,d,if m=true then 5 else a.2.2,())))) (True∧Br n (Q (A5 ((0,[],[],[],[],[],[],()),c,a.2.1,d,a.2.2,()))) (Q (A5 (z,c,a.2.1,d,a.2.2,()))))) (by kernel_rfl) (by
 conv=>zeta
 unfold Br;intro b a m e Q ⟨G,H⟩;have c:∀(r:Et)(s t:Int),lQ b m (a,e)=(r,s,t)→Q ⟨0,(r,b,s,m,t,())⟩:=λr s t e=>H (r,s,t) e.symm;clear H;refine⟨G,λk w=>?_⟩;have x:=(eD m e 1 1 G).1;rw[←w]at x;refine⟨x,λn y=>?_⟩;have z:=(eD m k.2.2 1 65536 x).1;rw[←y]at z;refine⟨z,λp A=>?_⟩;have B:=(mL m n.2.2 64 z).1;rw[←A]at B;refine⟨B,λC f=>?_⟩;have u:=Lj (m:=m) (one:=CT) (λa e=>FN m e) (p.2.1,p.2.2) B;rw[←f]at u;refine⟨u.1,λJ i=>?_⟩;have v:=Lj (m:=m) (one:=CU) (λa e=>FO m e) (C.2.1,C.2.2) u.1;rw[←i]at v;refine⟨v.1,λD j=>?_⟩;have E:=(mL m J.2.2 64 v.1).1;rw[←j]at E;refine⟨E,λM o=>?_⟩;have F:=Lj (m:=m) (one:=CV) (λa e=>FP m e) (D.2.1,D.2.2) E;rw[←o]at F;refine⟨F.1,λK q=>?_⟩;have L:N7 b m (a,e)=((n.1,p.1,C.1,J.1,D.1,M.1,K.1,()),K.2):=by subst q o j i f A y w;rfl
 unfold lQ at c;rw[ck,L]at c;clear L;dsimp only at c;clear w y A f i j o q;refine⟨⟨by have:=u.2;dsimp only;omega,by have:=v.2;dsimp only;omega,by have:=F.2;dsimp only;omega⟩,λh=>⟨trivial,trivial,λg=>c _ _ _ ?_,λg=>c _ _ _ ?_⟩,λh=>⟨trivial,λg=>c _ _ _ ?_,λg=>c _ _ _ ?_⟩⟩
 all_goals
  simp only[aO,aJ,ax,ne_eq,aQ]at h g;simp only[h,g,if_true,if_false,cf,D5]) (l:=λ_=>bm)
def bU(k:Nat)(ts:List Tm):Prop:=(∀t∈ts,eC t)∧ts.length+k≤4294967296
theorem bU.ok{k:Nat}{ts:List Tm}(h:bU k ts):fg ts:=⟨by have:=h.2;omega,h.1⟩
theorem bU.le{k:Nat}{ts:List Tm}(h:bU k ts):ts.length≤4294967296:=by have:=h.2;omega
theorem bU.mono{k j:Nat}{ts:List Tm}(h:bU k ts)(a:j≤k):bU j ts:=⟨h.1,by have:=h.2;omega⟩
theorem ol{t:Tm}{k:Nat}{ts:List Tm}(m:KV)(h:bU (k+1) ts)(b:eC t):bU k (dT t ts m).2.1:=by
 unfold dT jg;dsimp only;split
 ·refine⟨λx a=>?_,by have:=h.2;simp;omega⟩;rcases aY.1 a with a|a
  ·exact h.1 x a
  ·simp at a;subst a;exact b
 ·exact h.mono (by omega)
theorem pz{t:Tm}{k:Nat}{ts:List Tm}(m:KV)(h:bU (k+1) ts)(a:eC t):bU k (de t ts m).2.1:=by
 unfold de;split
 ·exact ol m h a
 ·exact h.mono (by omega)
theorem u6(t:Tm)(n:Int):(jO t n).length=(nJ t).toNat:=by
 have:=uU t;simp[jO,eb];omega
theorem tU(t:Tm)(ts:List Tm)(m:KV):(dT t ts m).1.length=(nJ t).toNat:=by unfold dT;exact u6 _ _
theorem Ll(t:Tm)(ts:List Tm)(m:KV):(de t ts m).1.length≤(nJ t).toNat:=by
 unfold de;split
 ·exact Nat.le_of_eq (tU _ _ _)
 ·simp
theorem CW{t:Tm}(h:t.1≠98):(nJ t).toNat≤64:=by
 unfold nJ;(repeat' split)<;>first|omega|(exact absurd (by assumption) h)
theorem jT{k:BitVec 8}{b:BL}(a:k≠98)(c:k≠103)(h:aB b):eC (k,[b],()):=gD (.inl (by rw[Xo];have:=h;omega)) (.inr ⟨a, .inr ⟨c,aC _⟩⟩)
theorem A6{k:BitVec 8}{b c:BL}(a:k≠98)(e:k≠112)(h:aB b)(h':aB c):eC (k,[b,c],()):=gD (.inr ⟨e,by rw[K0];have:=h;have:=h';omega⟩) (.inr ⟨a, .inl (aC _)⟩)
theorem tm4{b c d e:BL}(h:aB b)(h':aB c)(a:aB d)(f:aB e):eC (98,[b,c,d,e],()):=gD (.inr ⟨by decide,by rw[sz4];have:=h;have:=h';have:=a;have:=f;omega⟩) (.inl (aC _))
def hV(n id:Int)(sec pub:BL)(ts:List Tm)(m:KV):(BL×Int)×List Tm×KV:=
 if(mK sec pub ts m).2≠0 then(([],(mK sec pub ts m).2),(mK sec pub ts m).1.2)
 else(((de (107,[(mK sec pub ts m).1.1,vn n++vn id],()) (mK sec pub ts m).1.2.1 (mK sec pub ts m).1.2.2).1,0),(de (107,[(mK sec pub ts m).1.1,vn n++vn id],()) (mK sec pub ts m).1.2.1 (mK sec pub ts m).1.2.2).2)
theorem shS{sec pub:BL}{k:Nat}{ts:List Tm}(m:KV)(c:aB sec)(i:aB pub)(h:bU (k+1) ts):(mK sec pub ts m).1.1.length≤64∧bU k (mK sec pub ts m).1.2.1:=by
 unfold mK;split
 ·exact⟨by simp,h.mono (by omega)⟩
 ·split
  ·exact⟨by simp,h.mono (by omega)⟩
  ·rename_i f;have a:(fH pub 112 ts).2=true:=by simpa using f
   have e:=rl (b:=pub) (k:=112) h.ok a;have j:=(e.1.2.2.2.2 e.2).2;have l:=gH (fH pub 112 ts).1.2.1 0;have n:aB ((fH pub 112 ts).1.2.1.getD 0 [])∨True:= .inr trivial
   have g:eC (100,(if 0<sw sec ((fH pub 112 ts).1.2.1.getD 0 [])then[(fH pub 112 ts).1.2.1.getD 0 [],sec]else[sec,(fH pub 112 ts).1.2.1.getD 0 []]),()):=by
    split
    ·exact gD (.inr ⟨by decide,by rw[K0];have:=c;omega⟩) (.inr ⟨by decide, .inl (aC _)⟩)
    ·exact gD (.inr ⟨by decide,by rw[K0];have:=c;omega⟩) (.inr ⟨by decide, .inl (aC _)⟩)
   exact⟨bA (Nat.le_of_eq (tU _ _ _)) (CW (by show(100:BitVec 8)≠98;decide)),ol m h g⟩
def FR:Ct:=⟨5,⟨[sS 0 0,sI 1,sI 2,sB 3,sB 4],kH 0⟩,[⟨[sO 0 4,sI 1],kI 0 3++[cT,cB]⟩],λ(n,id,a,b,d,c,m,_)=>du (aB a∧aB b∧bU 2 c) (hV n id a b c m) λy=>(y.1.2,d,y.2.2,y.2.1,y.1.1,())⟩
abbrev FT(v:Int×Int×KV×List Tm×BL×Unit):aN FR.out:=⟨0,v⟩
def N8:bu:=(83,[FR])::Zg
theorem FU:KK N8:=kA a4o (cv FR 0) (∀(a d:Int)(e f:BL)(g:Int)(h:List Tm)(i:KV)(Q:aN FR.out→Prop),(Ct.spec FR (a,d,e,f,g,h,i,())).sat Q→(aB e∧aB f∧fg h)∧∀(b:(BL×List Tm×KV)×Int),b=mK e f h i→Br (!b.2==0) (Q (FT (b.2,g,b.1.2.2,b.1.2.1,[],()))) (0≤1099511627776∧ac (vn a)≤1099511627776∧(aB b.1.1∧aB (vn a++vn d)∧b.1.2.1.length≤4294967296)∧∀(c:BL×List Tm×KV),c=de (af 8 107,[b.1.1,vn a++vn d],()) b.1.2.1 b.1.2.2→Q (FT (0,g,c.2.2,c.2.1,c.1,())))) (by kernel_rfl) (by
 unfold Br;intro n id b c d q m Q ⟨⟨g,i,j⟩,o⟩;have a:∀y,hV n id b c q m=y→Q ⟨0,(y.1.2,d,y.2.2,y.2.1,y.1.1,())⟩:=λy e=>o y e.symm;clear o;refine⟨⟨g,i,j.ok⟩,?_⟩;intro r f;have p:=shS m g i j;rw[←f]at p;unfold hV at a;rw[←f]at a;clear f;have s:=bz n;have t:=bz id;refine⟨λh=>a (([],r.2),r.1.2) (an (by simpa using h)),λh=>⟨by omega,by omega,⟨by unfold aB;omega,by unfold aB;simp;omega,p.2.le⟩,?_⟩⟩;rintro y rfl;exact a _ (ag (by simpa using h))) (l:=λ_=>bm)
def xu:Ct:=⟨2,⟨[sB 0,(1,true,[.d .i64, .d tB, .d (.sl il), .d (.sl ic), .d tB, .own 0, .d tB])],[some (.sl tB)]⟩,[⟨[(0,false,[.d tB])],[some (.sl tB)]⟩],λ(b,n,pv,a,c,e,f,g,_)=>one (b.length+(fP (n,pv,a,c,e,[],f,())).length≤1000000000∧hK (n,pv,a,c,e,[],f,())) (b++fP (n,pv,a,c,e,[],f,()),g,())⟩
def coH:List (Option CP):=[some (.sl tB),some (.cells [.d .i64, .d tB, .d (.sl il), .d (.sl ic), .d tB, .own 0, .d tB])]
def Zh:cc:=⟨[sB 0,(3,false,[.ptr 1 0]),(23,false,[.d (.sl il)]),sI 24,sI 25],coH⟩
def Lm(x:xu.inp.den)(y:Zh.den):Prop:=match x,y with
 |(j,h,b,a,c,e,f,g,_),(q,l,n,i,m,o,pv,p,r,s,t,_)=>m=g∧o=h∧pv=b∧p=a∧r=c∧s=e∧t=f∧l=a∧n=a.length∧∃k:Nat,i=k∧k≤a.length∧q=j++(vn 1++vn h++tx b++vn a.length++fl py (a.take k))
def Zi:cc:=⟨[sB 0,(3,false,[.ptr 1 0]),(46,false,[.d (.sl ic)]),sI 47,sI 48],coH⟩
def Lo(x:xu.inp.den)(y:Zi.den):Prop:=match x,y with
 |(j,h,c,b,a,e,f,g,_),(q,l,n,i,m,o,pv,p,r,s,t,_)=>m=g∧o=h∧pv=c∧p=b∧r=a∧s=e∧t=f∧l=a∧n=a.length∧∃k:Nat,i=k∧k≤a.length∧q=j++(vn 1++vn h++tx c++vn b.length++fl py b++vn a.length++fl rq (a.take k))
def a4p(x:xu.inp.den):dG:=⟨[(4,bM Zh (Lm x) λ(_,_,n,i,_)=>(n-i).toNat),(10,bM Zi (Lo x) λ(_,_,n,i,_)=>(n-i).toNat)],[],[],[],0⟩
abbrev SN(v:BL×List BL×Unit):aN xu.out:=⟨0,v⟩
theorem SO:bO Tryz.prog 84 xu:=kC FU a4p (∀(d:BL)(f:Int)(c:BL)(g:List Mb)(h:List Fk)(i j:BL)(k:List BL)(Q:aN xu.out→Prop),let D:=vn (↑c.length:Int)++c;let A:=(d,f,c,g,h,i,j,k,());(Ct.spec xu A).sat Q→d.length≤1099511627776∧(d++vn 1).length≤1099511627776∧(d++vn 1++vn f).length+c.length≤1099511627776∧(d++vn 1++vn f++D).length≤1099511627776∧Is (Lm A (d++vn 1++vn f++D++vn (↑g.length:Int),g,(↑g.length:Int),0,k,f,c,g,h,i,j,()))∧∀(l:BL)(b:List Mb)(m a:Int)(s:List BL)(t:Int)(u:BL)(v:List Mb)(n:List Fk)(w y:BL),let B:=(s,t,u,v,n,w,y,());let x:=b.getD a.toNat (0,[],[],());let E:=vn (↑(ac x.2.1):Int)++x.2.1;Lm A (l,b,m,a,B)→Br (decide (a<m)) ((0≤a∧a<(↑b.length:Int))∧l.length≤1099511627776∧(l++vn x.1).length+ac x.2.1≤1099511627776∧(l++vn x.1++E).length+ac x.2.2.1≤1099511627776∧ae (a+1)∧Is (Lm A (l++vn x.1++E++(vn (↑(ac x.2.2.1):Int)++x.2.2.1),b,m,a+1,B)∧(m-(a+1)).toNat<(m-a).toNat)) (l.length≤1099511627776∧Is (Lo A (l++vn (↑n.length:Int),n,(↑n.length:Int),0,B))∧∀(o:BL)(p:List Fk)(q e:Int)(z:List BL)(G:Int)(H:BL)(J:List Mb)(K:List Fk)(r L:BL),let F:=(z,G,H,J,K,r,L,());let C:=p.getD e.toNat (0,0,());Lo A (o,p,q,e,F)→Br (decide (e<q)) ((0≤e∧e<(↑p.length:Int))∧o.length≤1099511627776∧(o++vn C.1).length≤1099511627776∧ae (e+1)∧Is (Lo A (o++vn C.1++vn C.2.1,p,q,e+1,F)∧(q-(e+1)).toNat<(q-e).toNat)) (o.length+r.length≤1099511627776∧Q (SN (o++(vn (↑r.length:Int)++r),z,()))))) (by kernel_rfl) (by
 conv=>zeta
 unfold Br;rintro b n pv a c j m r Q ⟨⟨t,E,F,G⟩,u⟩;dsimp only at*;have x:∀s:BL,vn s.length++s=tx s:=λ_=>rfl;simp only[x];have v:∀y,y=b++fP (n,pv,a,c,j,[],m,())→Q ⟨0,(y,r,())⟩:=λy e=>by rw[e];exact u
 have w:fP (n,pv,a,c,j,[],m,())=vn 1++vn n++tx pv++vn a.length++fl py a++vn c.length++fl rq c++tx j:=rfl;have o:b.length+(fP (n,pv,a,c,j,[],m,())).length≤1000000000:=t;rw[w]at o v;clear t u w;simp only[aa]at o;have J:=lP pv;have K:=lP j;simp only[aa];refine⟨by omega,by omega,by omega,by omega,⟨rfl,rfl,rfl,rfl,rfl,rfl,rfl,rfl,rfl,0,rfl,aq _,by simp[fl]⟩,?_⟩;rintro q a z i r n pv A c j m ⟨rfl,rfl,rfl,rfl,rfl,rfl,rfl,rfl,rfl,k,rfl,B,rfl⟩;simp only[aG,ah,aj];have C:=iJ py a k;simp only[aa];refine⟨λh=>?_,λh=>?_⟩
 ·have f:k<a.length:=by omega
  have p:=nA py (0,[],[],()) f;have g:=iJ py a (k+1);rw[p,aa]at g;generalize a.getD k (0,[],[],())=H at*;simp only[py,aa]at g;have L:=lP H.2.1;have M:=lP H.2.2.1;refine⟨by omega,by omega,by omega,by omega,by unfold ae;omega,⟨⟨rfl,rfl,rfl,rfl,rfl,rfl,rfl,rfl,rfl,k+1,rfl,f,?_⟩,by omega⟩⟩;rw[p];simp only[py,ay]
 ·have l:k=a.length:=by omega
  subst l;rw[bp]at*;refine⟨by omega,⟨rfl,rfl,rfl,rfl,rfl,rfl,rfl,rfl,rfl,0,rfl,aq _,by simp[fl]⟩,?_⟩;rintro q c z i r n pv a D j m ⟨rfl,rfl,rfl,rfl,rfl,rfl,rfl,rfl,rfl,k,rfl,B,rfl⟩;simp only[aG];have C:=iJ rq c k;simp only[aa];refine⟨λh=>?_,λh=>?_⟩
  ·have f:k<c.length:=by omega
   have p:=nA rq (0,0,()) f;have g:=iJ rq c (k+1);rw[p,aa]at g;generalize c.getD k (0,0,())=H at*;simp only[rq,aa]at g;refine⟨by omega,by omega,by omega,by unfold ae;omega,⟨⟨rfl,rfl,rfl,rfl,rfl,rfl,rfl,rfl,rfl,k+1,rfl,f,?_⟩,by omega⟩⟩;rw[p];simp only[rq,ay]
  ·have l:k=c.length:=by omega
   subst l;rw[bp]at*;refine⟨by omega,v _ ?_⟩;simp only[ay])
def N9:bu:=(84,[xu,za])::N8
theorem Zj:KK N9:=⟨aP.add FU.1 (by kernel_rfl) (ik (SO) (bo (Fo))),bg.add FU.2 (ik (λ_=>bH) (bo (λ_=>bH)))⟩
def jU(lg:Lg)(e:Et)(ts:List Tm)(m:KV):Int×Lg×List Tm×KV:=
 lk lg.1 (if lD e=false then(1,lg,ts,m)
 else if e.1≤lg.2.1.length then((if lg.2.2.1.getD (e.1-1).toNat []=(dT (104,[dL e],()) ts m).1 then 16 else 18),lg,(dT (104,[dL e],()) ts m).2)
 else if e.1≠lg.2.1.length+1 then(15,lg,ts,m)
 else if e.2.1≠kJ lg.2.1 lg.2.2.1 lg.2.1.length then(17,lg,ts,m)
 else if yY lg.1 (dL e) e.2.2.2.2.2.2.1 ts=false then(10,lg,ts,m)
 else if FG lg.2.1 e.2.2.1 e.2.2.2.1=false then(19,lg,ts,m)
 else(0,(lg.1,lg.2.1++[(e.1,[],e.2.2.1,e.2.2.2.1,[],[],[],())],lg.2.2.1++[(dT (104,[dL e],()) ts m).1],()),(dT (104,[dL e],()) ts m).2))
theorem kK{e:Et}(h:lD e=true):(1≤e.1∧e.1≤65536∧(e.1=1∧e.2.1.length=0∨e.2.1.length=32)∧pc e.2.2.1 e.2.2.2.1=true∧(∀b∈e.2.2.2.2.2.1,b.length=48)∧e.2.2.2.2.1.length=32∧e.2.2.2.2.2.1.length=e.2.2.1.length∧e.2.2.2.2.2.2.1.length=64):=by
 unfold lD at h;exact ai h
def FV:Ct:=⟨3,⟨[sP 0,sS 1 1,(2,true,[.d r6])],r7++kH 1⟩,[⟨[sI 0],r7++kI 1 4++[cT]⟩],λ(e,a,b,c,d,f,m,_)=>du (aB a∧hK e∧(dL e).length≤100000000∧aB e.2.2.2.2.2.2.1∧rr e.2.2.1∧cu b c∧b.length≤100000∧bU 1 f) (jU (a,b,c,()) e f m) λy=>(y.1,y.2.1.1,y.2.1.2.1,y.2.1.2.2.1,d,y.2.2.2,y.2.2.1,())⟩
abbrev kL(v:Int×BL×List Et×List BL×Int×KV×List Tm×Unit):aN FV.out:=⟨0,v⟩
def Oa:bu:=(72,[FV])::N9
theorem Zk:KK Oa:=kA Zj (cv FV 0) (∀(a:Et)(f:BL)(c:List Et)(d:List BL)(h:Int)(e:List Tm)(g:KV)(Q:aN FV.out→Prop),let o:= !FG c a.2.2.1 a.2.2.2.1;let p:= !a.1==(↑c.length:Int)+1;let l:Prop:=aB (dL a)∧e.length≤4294967296;let q:= !yY f (dL a) a.2.2.2.2.2.2.1 e;let r:= !a.2.1==kJ c d (↑c.length:Int);let i:=(f,c,d,h,g,e,());let j:Prop:=0+ac (dL a)≤1000000000∧hK a;let z:=jg (af 8 104,[dL a],()) e g;(Ct.spec FV (a,f,c,d,h,e,g,())).sat Q→hK a∧Br (!lD a) (Q (kL (1,i))) (Br (decide (a.1≤(↑c.length:Int))) (ae (a.1-1)∧(0≤a.1-1∧a.1-1<(↑d.length:Int))∧j∧l∧∀(b:BL×List Tm×KV),let n:=(f,c,d,h,b.2.2,b.2.1,());let s:=d.getD (a.1-1).toNat []==b.1;b=(jO (af 8 104,[dL a],()) z.1,z.2)→True∧Br s (Q (kL (16,n))) (Q (kL (18,n)))) (ae ((↑c.length:Int)+1)∧Br p (Q (kL (15,i))) (cu c d∧True∧Br r (Q (kL (17,i))) (j∧(aB f∧aB (dL a)∧aB a.2.2.2.2.2.2.1∧fg e)∧Br q (Q (kL (10,i))) ((zb c∧ac a.2.2.1≤1000000∧ac a.2.2.2.1≤1000000)∧Br o (Q (kL (19,i))) ((ac a.2.2.1≤1000000∧∀(m:Mb),m∈a.2.2.1→ac m.2.1≤1000000∧ac m.2.2.1≤1000000)∧(0+ac a.2.2.2.1)*16≤140737488355328∧((0:Int)≤0∧0≤(↑c.length:Int)∧(↑c.length:Int)=(↑c.length:Int)∧(↑c.length:Int)≤(↑c.length:Int))∧0<1∧((cS (↑c.length:Int).toNat c).length+1)*152≤140737488355328∧((0:Int)≤0∧0≤(↑c.length:Int)∧(↑c.length:Int)=(↑c.length:Int)∧(↑c.length:Int)≤(↑d.length:Int))∧j∧l∧∀(b:BL×List Tm×KV),b=(jO (af 8 104,[dL a],()) z.1,z.2)→0<1∧((cS (↑c.length:Int).toNat d).length+1)*24≤140737488355328∧Q (kL (0,f,cS (↑c.length:Int).toNat c++[(a.1,[],a.2.2.1,a.2.2.2.1,[],[],[],())],cS (↑c.length:Int).toNat d++[b.1],h,b.2.2,b.2.1,()))))))))) (by kernel_rfl) (by
 conv=>zeta
 unfold Br;intro e a u A d v m Q ⟨⟨B,j,F,C,D,w,G,x⟩,z⟩;have i:∀o p q r s t,jU (a,u,A,()) e v m=(o,(p,q,r,()),s,t)→Q ⟨0,(o,p,q,r,d,t,s,())⟩:=λo p q r s t e=>z (o,(p,q,r,()),s,t) e.symm;clear z;unfold jU at i;rw[ck]at i;dsimp only at i;have y:aB (dL e):=by unfold aB;omega
 have E:((u.length:Int)).toNat=u.length:=aG _;have H:=w.2.1;simp only[aO,aJ,ah,aj,aQ,ax,ne_eq];refine⟨j,λg=>i _ _ _ _ _ _ (an g),λg=>?_⟩;have J:=kK g;rw[ag (by rw[g];decide)]at i;refine⟨λc=>?_,λc=>?_⟩
 ·rw[an c]at i;refine⟨by unfold ae;omega,by omega,⟨by omega,j⟩,⟨y,x.le⟩,?_⟩;intro b n;have n:b=dT (104,[dL e],()) v m:=n;subst n;exact⟨trivial,λf=>i _ _ _ _ _ _ (by rw[an f]),λf=>i _ _ _ _ _ _ (by rw[ag f])⟩
 ·rw[ag c]at i;refine⟨by unfold ae;omega,λf=>i _ _ _ _ _ _ (an f),λf=>?_⟩;rw[ag (λh=>h f)]at i;refine⟨w,trivial,λf=>i _ _ _ _ _ _ (an f),λf=>?_⟩;rw[ag (λh=>h f)]at i;refine⟨⟨by omega,j⟩,⟨B,y,C,x.ok⟩,λf=>i _ _ _ _ _ _ (an f),λf=>?_⟩;rw[ag (by rw[f];decide)]at i;refine⟨⟨w.1,j.1,j.2.1⟩,λf=>i _ _ _ _ _ _ (an f),λf=>?_⟩;rw[ag (by rw[f];decide)]at i;have:=j.2.1;rw[E,bp,ba (by omega)];refine⟨⟨j.1,D⟩,by omega,⟨by omega,by omega,trivial,by omega⟩,by omega,by omega,⟨by omega,by omega,trivial,by omega⟩,⟨by omega,j⟩,⟨y,x.le⟩,?_⟩;intro b n;have n:b=dT (104,[dL e],()) v m:=n;subst n;exact⟨by omega,by omega,i _ _ _ _ _ _ rfl⟩) (l:=λ_=>bm)
theorem V2{sec pub:BL}{k:Nat}{ts:List Tm}(m:KV)(n id:Int)(b:aB sec)(c:aB pub)(h:bU (k+2) ts):(hV n id sec pub ts m).1.1.length≤64∧bU k (hV n id sec pub ts m).2.1:=by
 have a:=shS m b c h;unfold hV;split
 ·exact⟨by simp,a.2.mono (by omega)⟩
 ·have f:=bz n;have g:=bz id;have e:=A6 (k:=107) (by decide) (by decide) (show aB (mK sec pub ts m).1.1 by have:=a.1;unfold aB;omega) (show aB (vn n++vn id)by unfold aB;simp;omega);exact⟨bA (Ll _ _ _) (CW (by show(107:BitVec 8)≠98;decide)),pz _ a.2 e⟩
def Zl:List Mb→Int→Nat→Option Nat
 |[],_,_=>none
 |m::r,id,k=>if m.1=id then some k else Zl r id (k+1)
def tV(e:Et)(id:Int)(sec:BL)(ts:List Tm)(m:KV):(BL×Int)×List Tm×KV:=
 lk sec (if lD e=false then(([],13),ts,m)else
 match Zl e.2.2.1 id 0 with
 |none=>(([],13),ts,m)
 |some i=>
  if(hV e.1 id sec e.2.2.2.2.1 ts m).1.2≠0 then(([],(hV e.1 id sec e.2.2.2.2.1 ts m).1.2),(hV e.1 id sec e.2.2.2.2.1 ts m).2)
  else if(yZ (hV e.1 id sec e.2.2.2.2.1 ts m).1.1 1 (fP e) (e.2.2.2.2.2.1.getD i []) (hV e.1 id sec e.2.2.2.2.1 ts m).2.1).2≠0 then(([],(yZ (hV e.1 id sec e.2.2.2.2.1 ts m).1.1 1 (fP e) (e.2.2.2.2.2.1.getD i []) (hV e.1 id sec e.2.2.2.2.1 ts m).2.1).2),(hV e.1 id sec e.2.2.2.2.1 ts m).2)
  else if(yZ (hV e.1 id sec e.2.2.2.2.1 ts m).1.1 1 (fP e) (e.2.2.2.2.2.1.getD i []) (hV e.1 id sec e.2.2.2.2.1 ts m).2.1).1.length≠32 then(([],5),(hV e.1 id sec e.2.2.2.2.1 ts m).2)
  else(((yZ (hV e.1 id sec e.2.2.2.2.1 ts m).1.1 1 (fP e) (e.2.2.2.2.2.1.getD i []) (hV e.1 id sec e.2.2.2.2.1 ts m).2.1).1,0),(hV e.1 id sec e.2.2.2.2.1 ts m).2))
def CX:Ct:=⟨4,⟨[sS 0 0,(1,true,[.d r6]),sI 2,sB 3],kH 0⟩,[⟨[(0,false,[.d tB]),sI 1],kI 0 3++[cT]⟩],λ(e,id,a,d,c,m,_)=>du (aB a∧hK e∧(fP e).length≤100000000∧(∀b∈e.2.2.2.2.2.1,aB b)∧aB e.2.2.2.2.1∧bU 2 c) (tV e id a c m) λy=>(y.1.1,y.1.2,d,y.2.2,y.2.1,())⟩
def Zm:cc:=⟨[sS 0 0,sI 2,sB 3,(5,false,[.ptr 3 0]),(19,false,[.d (.sl il)]),sI 20,sI 21],kH 0++[some (.cells [.d r6])]⟩
def Lp(x:CX.inp.den)(y:Zm.den):Prop:=match x,y with
 |(f,a,b,j,g,l,_),(id,h,c,n,i,d,o,m,e,_)=>e=f∧id=a∧h=b∧d=j∧o=g∧m=l∧c=f.2.2.1∧n=c.length∧lD f=true∧∃k:Nat,i=k∧k≤c.length∧Zl (c.drop k) a k=Zl c a 0
def a4q(x:CX.inp.den):dG:=⟨[(4,bM Zm (Lp x) λ(_,_,_,n,i,_)=>(n-i).toNat)],[],[],[],0⟩
abbrev om(v:BL×Int×Int×KV×List Tm×Unit):aN CX.out:=⟨0,v⟩
def Ob:bu:=(45,[CX])::Oa
theorem Zn:KK Ob:=kA Zk a4q (∀(d:Et)(k:Int)(l:BL)(g:Int)(h:List Tm)(i:KV)(Q:aN CX.out→Prop),let z:=(d,k,l,g,h,i,());(Ct.spec CX z).sat Q→hK d∧Br (!lD d) (Q (om ([],13,g,i,h,()))) (Is (Lp z (k,l,d.2.2.1,(↑(ac d.2.2.1):Int),0,g,h,i,d,()))∧∀(m:Int)(p:BL)(n:List Mb)(j a f:Int)(o:List Tm)(q:KV)(c:Et),let s:=bv c.2.2.2.2.2.1 a.toNat [];let t:= !(n.getD a.toNat (0,[],[],())).1==m;Lp z (m,p,n,j,a,f,o,q,c,())→Br (decide (a<j)) ((0≤a∧a<(↑n.length:Int))∧Br t (ae (a+1)∧Is (Lp z (m,p,n,j,a+1,f,o,q,c,())∧(j-(a+1)).toNat<(j-a).toNat)) ((aB p∧aB c.2.2.2.2.1∧bU 2 o)∧∀(b:(BL×Int)×List Tm×KV),let r:=(f,b.2.2,b.2.1,());b=hV c.1 m p c.2.2.2.2.1 o q→Br (!b.1.2==0) (Q (om ([],b.1.2,r))) ((0+ac (fP c)≤1000000000∧hK c)∧(0≤a∧a<(↑(ac c.2.2.2.2.2.1):Int))∧(aB b.1.1∧aB (fP c)∧aB s∧fg b.2.1)∧∀(e:BL×Int),let u:= !(↑(ac e.1):Int)==32;e=yZ b.1.1 1 (fP c) s b.2.1→Br (!e.2==0) (Q (om ([],e.2,r))) (Br u (Q (om ([],5,r))) (Q (om (e.1,0,r))))))) (Q (om ([],13,f,q,o,()))))) (by kernel_rfl) (by
 conv=>zeta
 unfold Br;intro e id q d y m Q ⟨⟨A,w,M,G,B,C⟩,D⟩;have a:∀s t u v,tV e id q y m=((s,t),u,v)→Q ⟨0,(s,t,d,v,u,())⟩:=λs t u v e=>D ((s,t),u,v) e.symm;clear D;unfold tV at a;rw[ck]at a;simp only[aO,aJ,ah,aj,aQ,ax,ne_eq];refine⟨w,λg=>a _ _ _ _ (an g),λg=>?_⟩;rw[ag (by rw[g];decide)]at a;have J:=kK g;have K:=J.2.2.2.2.2.2.1;refine⟨⟨rfl,rfl,rfl,rfl,rfl,rfl,rfl,rfl,g,0,rfl,aq _,rfl⟩,?_⟩;rintro id q N n i d y m e ⟨rfl,rfl,rfl,rfl,rfl,rfl,rfl,rfl,_,k,rfl,O,j⟩;simp only[aG];have L:=w.1;refine⟨λh=>?_,λh=>a _ _ _ _ ?_⟩
 ·have r:k<e.2.2.1.length:=by omega
  rw[cW (z:=((0,[],[],()):Mb)) r]at j;have x:=aT (z:=([]:BL)) (show k<e.2.2.2.2.2.1.length by omega);generalize e.2.2.1.getD k (0,[],[],())=H at*;simp only[Zl]at j;refine⟨by omega,λc=>⟨by unfold ae;omega,⟨⟨rfl,rfl,rfl,rfl,rfl,rfl,rfl,rfl,g,k+1,rfl,r,?_⟩,by omega⟩⟩,λc=>⟨⟨A,B,C⟩,?_⟩⟩
  ·rw[ag c]at j;exact j
  ·rw[an c]at j;rw[←j]at a;dsimp only at a;have p:=V2 m e.1 id A B C;intro b E;rw[←E]at a p;clear E;refine⟨λf=>a _ _ _ _ (an f),λf=>?_⟩;rw[ag (λh=>h f)]at a;refine⟨⟨by omega,w⟩,by omega,⟨by have:=p.1;unfold aB;omega,by unfold aB;omega,G _ x,p.2.ok⟩,?_⟩;intro o F;rw[←F]at a;clear F;refine⟨λf=>a _ _ _ _ (an f),λf=>?_⟩;rw[ag (λh=>h f)]at a;exact⟨λf=>a _ _ _ _ (an (by omega)),λf=>a _ _ _ _ (ag (by omega))⟩
 ·rw[←j,bw (by omega)];rfl) (l:=λ_=>bm)
def u7(n:Int)(once key co:BL):List Mb→List BL→List Tm→KV→(List BL×Int)×List Tm×KV
 |[],b,a,m=>((b,0),a,m)
 |p::r,b,a,m=>
  if(hV n p.1 once p.2.1 a m).1.2≠0 then(([],(hV n p.1 once p.2.1 a m).1.2),(hV n p.1 once p.2.1 a m).2)
  else u7 n once key co r (b++[(lA (hV n p.1 once p.2.1 a m).1.1 1 co key (hV n p.1 once p.2.1 a m).2.1 (hV n p.1 once p.2.1 a m).2.2).1]) (lA (hV n p.1 once p.2.1 a m).1.1 1 co key (hV n p.1 once p.2.1 a m).2.1 (hV n p.1 once p.2.1 a m).2.2).2.1 (lA (hV n p.1 once p.2.1 a m).1.1 1 co key (hV n p.1 once p.2.1 a m).2.1 (hV n p.1 once p.2.1 a m).2.2).2.2
def oo(lg:Lg)(ms:List Mb)(ns:List Fk)(a:BL):Et:=(lg.2.1.length+1,kJ lg.2.1 lg.2.2.1 lg.2.1.length,ms,ns,a,[],[],())
def kM(lg:Lg)(ms:List Mb)(ns:List Fk)(a:BL)(b:List BL)(sg:BL):Et:=(lg.2.1.length+1,kJ lg.2.1 lg.2.2.1 lg.2.1.length,ms,ns,a,b,sg,())
def SQ(lg:Lg)(sec once key:BL)(ms:List Mb)(ns:List Fk)(p:Z):(Et×Int)×List Tm×KV:=
 let z:=u7 (lg.2.1.length+1) once key (fP (oo lg ms ns p.1)) ms [] p.2.1 p.2.2
 if z.1.2≠0 then((D5,z.1.2),z.2)
 else let g:=de (103,[sec,dL (kM lg ms ns p.1 z.1.1 [])],()) z.2.1 z.2.2
  ((kM lg ms ns p.1 z.1.1 g.1,0),g.2)
def r8(lg:Lg)(sec once key:BL)(ms:List Mb)(ns:List Fk)(ts:List Tm)(m:KV):(Et×Int)×List Tm×KV:=
 lk sec (if sec.length≠32∨once.length≠32∨key.length≠32 then((D5,1),ts,m)
 else
  let v:=de (118,[sec],()) ts m
  if v.1≠lg.1 then((D5,23),v.2)
  else if(lg.2.1.length:Int)=65536 then((D5,14),v.2)
  else
   let p:=de (112,[once],()) v.2.1 v.2.2
   if pc ms ns=false∨FG lg.2.1 ms ns=false then((D5,19),p.2)else SQ lg sec once key ms ns p)
theorem u9:∀(l:List Int)(last:Int),px last l=true→last≤4→(l.length:Int)≤4-last
 |[],last,_,h=>by simp;omega
 |n::r,last,h,a=>by
  simp only[px]at h;split at h
  ·simp at h
  ·rename_i b;have:=u9 r n h (by omega);simp only[bd];omega
theorem gw{ms:List Mb}{ns:List Fk}(h:pc ms ns=true):1≤ms.length∧ms.length≤5∧ns.length≤5∧(∀m∈ms,uZ m)∧(∀e∈ns,y9 e):=by
 unfold pc at h;obtain⟨a,_,b,c,d,e⟩:=ai h;have f:=u9 _ _ b (by omega);have g:=u9 _ _ c (by omega);simp only[bT]at f g;exact⟨a,by omega,by omega,d,e⟩
theorem A7{α:Type}(f:α→BL)(c:Nat):∀l:List α,(∀x∈l,(f x).length≤c)→(fl f l).length≤l.length*c
 |[],_=>by simp[fl]
 |x::l,h=>by
  have b:=A7 f c l (λy a=>h y (aE _ a));have g:=h x (aM ..);have e:fl f (x::l)=f x++fl f l:=by simp[fl]
  rw[e,aa,bd,Nat.succ_mul];omega
theorem oq{e:Et}(h:pc e.2.2.1 e.2.2.2.1=true):(fP e).length≤1000+e.2.1.length+e.2.2.2.2.1.length:=by
 obtain⟨_,c,f,a,g⟩:=gw h;have i:=bz 1;have j:=bz e.1;have l:=bz e.2.2.1.length;have n:=bz e.2.2.2.1.length;have o:=dW e.2.1;have p:=dW e.2.2.2.2.1
 have q:=A7 py 85 e.2.2.1 (λm b=>by
  obtain⟨r,s⟩:=a m b;have:=bz m.1;have:=dW m.2.1;have:=dW m.2.2.1;simp only[py,aa];omega)
 have t:=A7 rq 14 e.2.2.2.1 (λm _=>by
  have:=bz m.1;have:=bz m.2.1;simp only[rq,aa];omega)
 simp only[fP,aa];omega
theorem va{e:Et}(h:pc e.2.2.1 e.2.2.2.1=true)(c:Nat)(f:∀b∈e.2.2.2.2.2.1,b.length≤c):(dL e).length≤1010+e.2.1.length+e.2.2.2.2.1.length+e.2.2.2.2.2.1.length*(c+7):=by
 have g:=oq h;have i:=bz e.2.2.2.2.2.1.length;have j:=A7 tx (c+7) e.2.2.2.2.2.1 (λb a=>by have:=dW b;have:=f b a;omega);simp only[dL,aa];omega
theorem rv{es:List Et}{a:List BL}(h:cu es a)(n:Int):(kJ es a n).length≤1000000:=by
 unfold kJ;split
 ·simp
 ·exact h.2.2.1 _ (aT (by have:=h.2.1;omega))
theorem seS{k o x:BL}{n:Int}{j:Nat}{ts:List Tm}(m:KV)(a:aB k)(b:aB o)(c:aB x)(h:bU (j+1) ts):bU j (lA k n o x ts m).2.1∧(lA k n o x ts m).1.length≤x.length+16:=by
 unfold lA;split
 ·exact⟨h.mono (by omega),by simp⟩
 ·refine⟨pz m h (tm4 a (by unfold aB;rw[eb];omega) b c),bA (Ll _ _ _) ?_⟩;show((if(98:BitVec 8)=103 then(64:Int)else if(98:BitVec 8)=98 then((([k,dx n,o,x]:List BL).getD 3 []).length:Int)+16 else 32)).toNat≤_;simp
def CY:Ct:=⟨7,⟨[sP 0,sS 1 1,sB 2,sB 3,sB 4,(5,false,[.d (.sl il)]),(6,false,[.d (.sl ic)])],r7++kH 1⟩,[⟨[(0,true,[.d r6]),sI 1],r7++kI 1 4++[cT]⟩],λ(e,b,f,g,i,a,c,h,d,j,m,_)=>du (g.length≤1000000∧i.length≤1000000∧rr g∧cu c h∧c.length≤100000∧bU 40 j) (r8 (a,c,h,()) e b f g i j m) λy=>(y.1.1,y.1.2,a,c,h,d,y.2.2,y.2.1,())⟩
def Zo:cc:=⟨[sS 1 1,sB 2,sB 3,sB 4,(14,false,[.ptr 5 0]),(17,false,[.ptr 4 0]),(86,false,[.d (.sl il)]),sI 87,sI 88],r7++kI 1 7++[some (.cells [.d .i64, .d tB, .d (.sl il), .d (.sl ic), .d tB, .own 6, .d tB]),some (.cells [.d r6]),some (.sl tB),cT]⟩
def Lq(x:CY.inp.den)(y:Zo.den):Prop:=match x,y with
 |(e,c,g,f,l,q,h,o,A,j,p,_),(t,s,u,B,n,i,a,C,D,d,m,E,pv,v,F,r,G,_,w,z,_)=>
  t=e∧s=c∧u=g∧B=f∧n=f.length∧a=q∧C=h∧D=o∧d=A∧(E,pv,v,F,r,([]:List BL),G,())=oo (q,h,o,()) f l r∧e.length=32∧c.length=32∧g.length=32∧pc f l=true∧ac r≤64∧
  r8 (q,h,o,()) e c g f l j p=SQ (q,h,o,()) e c g f l (r,(de (112,[c],()) (de (118,[e],()) j p).2.1 (de (118,[e],()) j p).2.2).2)∧
  ∃k:Nat,i=k∧k≤f.length∧ac w=k∧(∀b∈w,ac b≤1000)∧bU (38-3*k) z∧
   u7 (h.length+1) c g (fP (oo (q,h,o,()) f l r)) (f.drop k) w z m=u7 (h.length+1) c g (fP (oo (q,h,o,()) f l r)) f [] (de (112,[c],()) (de (118,[e],()) j p).2.1 (de (118,[e],()) j p).2.2).2.1 (de (112,[c],()) (de (118,[e],()) j p).2.1 (de (118,[e],()) j p).2.2).2.2
def a4r(x:CY.inp.den):dG:=⟨[(13,bM Zo (Lq x) λ(_,_,_,_,n,i,_)=>(n-i).toNat)],[],[],[],0⟩
abbrev ot(v:Et×Int×BL×List Et×List BL×Int×KV×List Tm×Unit):aN CY.out:=⟨0,v⟩
def Oc:bu:=(71,[CY])::Ob
theorem Zp:KK Oc:=kA Zn a4r (∀(p q v:BL)(c:List Mb)(f:List Fk)(d:BL)(a:List Et)(e:List BL)(g:Int)(r:List Tm)(t:KV)(Q:aN CY.out→Prop),let K:= !(↑v.length:Int)==32;let L:= !(↑q.length:Int)==32;let W:= !(↑p.length:Int)==32;let X:=(↑a.length:Int)==65536;let x:=(p,q,v,c,f,d,a,e,g,r,t,());let M:=ot ((0,[],[],[],[],[],[],()),1,d,a,e,g,t,r,());(Ct.spec CY x).sat Q→Br W (Q M) (Br L (Q M) (Br K (Q M) ((aB p∧r.length≤4294967296)∧∀(b:BL×List Tm×KV),let R:=(d,a,e,g,b.2.2,b.2.1,());b=de (af 8 118,[p],()) r t→True∧Br (!b.1==d) (Q (ot ((0,[],[],[],[],[],[],()),23,R))) (Br X (Q (ot ((0,[],[],[],[],[],[],()),14,R))) (ae ((↑a.length:Int)+1)∧cu a e∧(aB q∧b.2.1.length≤4294967296)∧∀(s:BL×List Tm×KV),let S:=ot ((0,[],[],[],[],[],[],()),19,d,a,e,g,s.2.2,s.2.1,());s=de (af 8 112,[q],()) b.2.1 b.2.2→(c.length≤1000000∧f.length≤1000000)∧Br (!pc c f) (Q S) ((zb a∧c.length≤1000000∧f.length≤1000000)∧Br (!FG a c f) (Q S) ((c.length≤1000000∧∀(m:Mb),m∈c→ac m.2.1≤1000000∧ac m.2.2.1≤1000000)∧(0+f.length)*16≤140737488355328∧Is (Lq x (p,q,v,c,(↑c.length:Int),0,d,a,e,g,s.2.2,(↑a.length:Int)+1,kJ a e (↑a.length:Int),c,f,s.1,[],(0,[],[],[],[],[],[],()),[],s.2.1,()))∧∀(A B C:BL)(w:List Mb)(y h:Int)(D:BL)(E:List Et)(F:List BL)(G:Int)(N:KV)(i:Int)(j:BL)(k:List Mb)(l:List Fk)(n o:BL)(U:Et)(u:List BL)(z:List Tm),let O:=fP (i,j,k,l,n,[],o,());let P:=w.getD h.toNat (0,[],[],());let H:=(i,j,k,l,n,u,o,());Lq x (A,B,C,w,y,h,D,E,F,G,N,i,j,k,l,n,o,U,u,z,())→Br (decide (h<y)) ((0≤h∧h<(↑w.length:Int))∧(aB B∧aB P.2.1∧bU 2 z)∧∀(b:(BL×Int)×List Tm×KV),b=hV i P.1 B P.2.1 z N→Br (!b.1.2==0) (Q (ot ((0,[],[],[],[],[],[],()),b.1.2,D,E,F,G,b.2.2,b.2.1,()))) ((0+ac O≤1000000000∧hK (i,j,k,l,n,[],o,()))∧(aB b.1.1∧aB O∧aB C∧b.2.1.length≤4294967296)∧∀(J:BL×List Tm×KV),J=lA b.1.1 1 O C b.2.1 b.2.2→(u.length+1)*24≤140737488355328∧ae (h+1)∧Is (Lq x (A,B,C,w,y,h+1,D,E,F,G,J.2.2,i,j,k,l,n,o,U,u++[J.1],J.2.1,())∧(y-(h+1)).toNat<(y-h).toNat))) ((0+ac (dL H)≤1000000000∧hK H)∧(aB A∧aB (dL H)∧z.length≤4294967296)∧∀(b:BL×List Tm×KV),b=de (af 8 103,[A,dL H],()) z N→Q (ot ((i,j,k,l,n,u,b.1,()),0,D,E,F,G,b.2.2,b.2.1,()))))))))))) (by kernel_rfl) (by
 conv=>zeta
 unfold Br;intro s j w r t a o u d K m Q ⟨⟨h1,h2,h3,h4,h5,h6⟩,hQ⟩;have L:∀y1 y2 y3 y4,r8 (a,o,u,()) s j w r t K m=((y1,y2),y3,y4)→Q ⟨0,(y1,y2,a,o,u,d,y4,y3,())⟩:=λy1 y2 y3 y4 e=>hQ ((y1,y2),y3,y4) e.symm;clear hQ;obtain⟨R,X⟩:∃R,r8 (a,o,u,()) s j w r t K m=R:=⟨_,rfl⟩
 have A:(if s.length≠32∨j.length≠32∨w.length≠32 then((D5,1),K,m)
  else
   let v:=de (118,[s],()) K m
   if v.1≠a then((D5,23),v.2)
   else if(o.length:Int)=65536 then((D5,14),v.2)
   else
    let p:=de (112,[j],()) v.2.1 v.2.2
    if pc r t=false∨FG o r t=false then((D5,19),p.2)else SQ (a,o,u,()) s j w r t p)=R:=by
  rw[←X];unfold r8;rw[ck]
 rw[X]at L;simp only[aO,aJ,ah,aj,aQ,ax,ne_eq];have f1:(s.length≠32∨j.length≠32∨w.length≠32)→Q ⟨0,(D5,1,a,o,u,d,m,K,())⟩:=λc=>L _ _ _ _ (by rw[←A,an c]);refine⟨λc=>f1 (.inl (by omega)),λc1=>⟨λc=>f1 (.inr (.inl (by omega))),λc2=>⟨λc=>f1 (.inr (.inr (by omega))),λc3=>?_⟩⟩⟩;clear f1;have e1:s.length=32:=by omega
 have e2:j.length=32:=by omega
 have e3:w.length=32:=by omega
 rw[ag (by omega)]at A;dsimp only at A;have hs:aB s:=by unfold aB;omega
 have ho:aB j:=by unfold aB;omega
 have hk:aB w:=by unfold aB;omega
 have hv:=pz m h6 (jT (k:=118) (by decide) (by decide) hs);refine⟨⟨hs,h6.le⟩,?_⟩;intro v D;have D:v=de (118,[s],()) K m:=D;rw[←D]at A hv;refine⟨trivial,λc=>L _ _ _ _ (by rw[←A,an c];rfl),λc=>?_⟩;rw[ag (λh=>h c)]at A;refine⟨λc=>L _ _ _ _ (by rw[←A,an c];rfl),λc=>?_⟩;rw[ag c]at A;have hp:=pz v.2.2 hv (jT (k:=112) (by decide) (by decide) ho);have N:=bA (Ll (112,[j],()) v.2.1 v.2.2) (CW (by show(112:BitVec 8)≠98;decide));refine⟨by unfold ae;omega,h4,⟨ho,hv.le⟩,?_⟩;intro p E;have E:p=de (112,[j],()) v.2.1 v.2.2:=E;rw[←E]at A hp N;refine⟨⟨h1,h2⟩,λc=>L _ _ _ _ (by rw[←A,an (.inl c)];rfl),λU=>⟨⟨h4.1,h1,h2⟩,λc=>L _ _ _ _ (by rw[←A,an (.inr c)];rfl),λc5=>?_⟩⟩;rw[ag (by rw[U,c5];simp)]at A;have W:de (112,[j],()) (de (118,[s],()) K m).2.1 (de (118,[s],()) K m).2.2=p:=by rw[←D];exact E.symm
 obtain⟨b1,b2,b3,b4,b5⟩:=gw U;refine⟨⟨h1,h3⟩,by omega,⟨rfl,rfl,rfl,rfl,rfl,rfl,rfl,rfl,rfl,rfl,e1,e2,e3,U,N,?_,0,rfl,aq _,rfl,by simp,hp,?_⟩,?_⟩
 ·rw[X,W];exact A.symm
 ·rw[W];rfl
 ·clear A E hp N D hv;rintro s j w a8 n i a o u d m2 en pv r t y sg rz B O ⟨rfl,rfl,rfl,rfl,rfl,rfl,rfl,rfl,rfl,Y,_,_,_,_,a4,hM,k,rfl,a9,a0,a1,G,hL⟩;simp only[oo,Prod.mk.injEq]at Y;obtain⟨rfl,rfl,rfl,rfl,-,-,rfl,-⟩:=Y;rw[X,W]at hM;rw[W]at hL;simp only[aG];have b0:=rv h4 o.length;have a2:=oq (e:=oo (a,o,u,()) r t y) U
  have a6:(fP (oo (a,o,u,()) r t y)).length≤2000000:=by
   have:(oo (a,o,u,()) r t y).2.1=kJ o u o.length:=rfl;rw[this]at a2;have:(oo (a,o,u,()) r t y).2.2.2.2.1=y:=rfl;rw[this]at a2;omega
  refine⟨λc=>?_,λc=>?_⟩
  ·have J:k<r.length:=by omega
   rw[cW (z:=((0,[],[],()):Mb)) J]at hL;have hm:=b4 _ (aT (z:=((0,[],[],()):Mb)) J);generalize r.getD k (0,[],[],())=H at*;simp only[u7]at hL;have a3:aB H.2.1:=by unfold aB;have:=hm.1;omega
   have a5:38-3*k=(38-3*(k+1))+1+2:=by omega
   rw[a5]at G;have F:=V2 m2 ((o.length:Int)+1) H.1 ho a3 G;refine⟨by omega,⟨ho,a3,G.mono (by omega)⟩,?_⟩;intro b hb;rw[←hb]at hL F;clear hb;refine⟨λf=>L _ _ _ _ ?_,λf=>?_⟩
   ·rw[an f]at hL;rw[hM];unfold SQ;rw[←hL];dsimp only;rw[an f];rfl
   ·rw[ag (λh=>h f)]at hL;have P:=seS (n:=1) b.2.2 (show aB b.1.1 by have:=F.1;unfold aB;omega) (show aB (fP (oo (a,o,u,()) r t y))by unfold aB;omega) hk F.2;refine⟨⟨by show 0+(fP (oo (a,o,u,()) r t y)).length≤_;omega,by show r.length≤_;omega,by show t.length≤_;omega,by simp⟩,⟨by have:=F.1;unfold aB;omega,by show(fP (oo (a,o,u,()) r t y)).length≤_;omega,hk,F.2.le⟩,?_⟩;intro x hx;have hx:x=lA b.1.1 1 (fP (oo (a,o,u,()) r t y)) w b.2.1 b.2.2:=hx;rw[←hx]at hL P;clear hx;have M:B.length=k:=a0;refine⟨by omega,by unfold ae;omega,⟨⟨rfl,rfl,rfl,rfl,rfl,rfl,rfl,rfl,rfl,rfl,e1,e2,e3,U,a4,by rw[W];exact X.trans hM,k+1,rfl,J,by simp[M],?_,P.1,by rw[W];exact hL⟩,by omega⟩⟩;intro q C;rcases aY.1 C with C|C
    ·exact a1 q C
    ·simp at C;subst C;have:=P.2;omega
  ·have J:k=r.length:=by omega
   rw[bw (by omega)]at hL;have M:B.length=k:=a0;have S:=va (e:=kM (a,o,u,()) r t y B []) U 1000 a1
   have a7:(dL (kM (a,o,u,()) r t y B [])).length≤2000000:=by
    have:(kM (a,o,u,()) r t y B []).2.1=kJ o u o.length:=rfl;rw[this]at S;have:(kM (a,o,u,()) r t y B []).2.2.2.2.1=y:=rfl;rw[this]at S;have:(kM (a,o,u,()) r t y B []).2.2.2.2.2.1=B:=rfl;rw[this]at S;omega
   refine⟨⟨by show 0+(dL (kM (a,o,u,()) r t y B [])).length≤_;omega,by show r.length≤_;omega,by show t.length≤_;omega,by show B.length≤_;omega⟩,⟨hs,by show(dL (kM (a,o,u,()) r t y B [])).length≤_;omega,G.le⟩,?_⟩;intro g hg;have hg:g=de (103,[s,dL (kM (a,o,u,()) r t y B [])],()) O m2:=hg;refine L _ _ _ _ ?_;rw[hM];unfold SQ;rw[←hL];have hz:u7 ((o.length:Int)+1) j w (fP (oo (a,o,u,()) r t y)) [] B O m2=((B,0),O,m2):=rfl;rw[hz];dsimp only;rw[ag (λh=>h rfl),←hg];rfl) (l:=λ_=>bm)
end Go.Tp
