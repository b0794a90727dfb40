/- A part of the proof of TopAuthenticSaid: no conditions; packed by a program of our own. -/
import Derived.Test.YtgpideichgnmhaaGreatPaah
open And renaming intro→bQ
open BitVec renaming ofInt→bc,ofNat→af,setWidth→aw
open Bool renaming eq_iff_iff→lI,and_eq_true→aF,false_eq_true→cf,or_eq_true→ig,not_eq_true'→aO,not_eq_true→bX,not_eq_false'→aJ,not_eq_false→bR
open Int renaming toNat_natCast→aG,toNat_of_nonneg→pm,eq_ofNat_of_zero_le→cq,le_refl→cr
open List renaming map_cons→aX,length_append→aa,length_cons→bd,append_assoc→ay,mem_append→aY,nil_append→eG,take_of_length_le→ba,append_nil→bj,mem_cons→br,getElem?_eq_getElem→ap,getD→bv,getElem?_append_left→cH,getElem?_append_right→bB,length_take→bi,length→ac,getD_eq_getElem?_getD→az,getElem?_eq_none→bY,length_nil→cX,length_map→bT,mem_cons_of_mem→aE,nodup_cons→lK,mem_map_of_mem→fe,getElem?_eq_some_iff→dd,getElem_mem→rW,mem_append_left→cG,mem_singleton→cg,take→cS,length_singleton→bb,sum_cons→cY,take_add_one→eQ
open Nat renaming le_trans→bA,zero_add→bK,zero_le→aq,lt_or_ge→bN
open Option renaming isSome_iff_exists→cE,getD_some→cZ
open Prod renaming ext→rV
namespace Go.Tp
open Go.Hv Go.Proofs Go.RowKit
set_option maxRecDepth 100000
set_option maxHeartbeats 0
abbrev SR:Ty:= .pr .i64 (.pr .i64 (.pr .i64 (.pr .i64 (.pr tB (.pr tB (.pr tB .un))))))
abbrev Lt:=Int×Int×Int×Int×BL×BL×BL×Unit
def Lr:Lt:=(0,0,0,0,[],[],[],())
def yc(l:Lt):Prop:=2≤l.1∧l.1≤4∧0≤l.2.1∧l.2.1<5∧1≤l.2.2.1∧l.2.2.1≤65536∧1≤l.2.2.2.1∧l.2.2.2.1≤1048576∧(l.1=2∧l.2.2.2.2.1.length=32∨l.2.2.2.2.1.length=0∧(l.1≠2∨l.2.2.2.1=1))
instance (l:Lt):Decidable (yc l):=by unfold yc;infer_instance
def Od(l:Lt):Bool:=decide (yc l)
def zf(i:Nat):Nat×Bool×List IP:=(i,true,[.d SR])
def FW:Ct:=⟨1,⟨[zf 0],[]⟩,[⟨[sL 0],[]⟩],λ(l,_)=>one True (Od l,())⟩
abbrev gx(v:Bool×Unit):aN FW.out:=⟨0,v⟩
def Oe:bu:=(101,[FW])::Oc
theorem Zq:KK Oe:=kA Zp (cv FW 0) (∀(a:Lt)(Q:aN FW.out→Prop),let b:=ac a.2.2.2.2.1;let z:Prop:=Br ((↑b:Int)==0) (Br (!a.1==2) (Q (gx (true,()))) (Q (gx (a.2.2.2.1==1,())))) (Q (gx (false,())));(Ct.spec FW (a,())).sat Q→Br (decide (a.1<2)) (Q (gx (false,()))) (Br (decide (4<a.1)) (Q (gx (false,()))) (Br (decide (a.2.1<0)) (Q (gx (false,()))) (Br (decide (5≤a.2.1)) (Q (gx (false,()))) (Br (decide (a.2.2.1<1)) (Q (gx (false,()))) (Br (decide (65536<a.2.2.1)) (Q (gx (false,()))) (Br (decide (a.2.2.2.1<1)) (Q (gx (false,()))) (Br (decide (1048576<a.2.2.2.1)) (Q (gx (false,()))) (Br (a.1==2) (Br ((↑b:Int)==32) (Q (gx (true,()))) z) z))))))))) (by kernel_rfl) (by
 conv=>zeta
 unfold Br;rintro⟨k,a,e,n,p,b,s,⟨⟩⟩ Q ⟨_,c⟩;dsimp only at*
 have hB:∀y:Bool,(y=true↔(2≤k∧k≤4∧0≤a∧a<5∧1≤e∧e≤65536∧1≤n∧n≤1048576∧(k=2∧p.length=32∨p.length=0∧(k≠2∨n=1))))→Q ⟨0,(y,())⟩:=by
  intro y f;have:y=Od (k,a,e,n,p,b,s,()):=by unfold Od;rw[lI,f,ah];exact Iff.rfl
  rw[this];exact c
 clear c
 (repeat' (first|apply bQ|intro _))<;>refine hB _ ?_<;>simp only[ah,aj,aO,aJ,aQ,ax,ne_eq,cf,false_iff,true_iff]at* <;>omega)
def mM(l:Lt):Bool:=decide (yc l∧(fd ((l.2.2.2.2.2.1.length:Int)-17)).2=0∧(fd ((l.2.2.2.2.2.1.length:Int)-17)).1+16=l.2.2.2.2.2.1.length∧l.2.2.2.2.2.2.1.length=64)
def FX:Ct:=⟨1,⟨[zf 0],[]⟩,[⟨[sL 0],[]⟩],λ(l,_)=>one (l.2.2.2.2.2.1.length≤1099511627776) (mM l,())⟩
abbrev ve(v:Bool×Unit):aN FX.out:=⟨0,v⟩
def Of:bu:=(64,[FX])::Oe
theorem Zr:KK Of:=kA Zq (cv FX 0) (∀(a:Lt)(Q:aN FX.out→Prop),let b:=ac a.2.2.2.2.2.1;let z:=(↑b:Int)-17;let c:=(fd z).1+16==(↑b:Int);(Ct.spec FX (a,())).sat Q→ae z∧True∧True∧Br (Od a) (Br ((fd z).2==0) (ae ((fd z).1+16)∧Br c (Q (ve ((↑(ac a.2.2.2.2.2.2.1):Int)==64,()))) (Q (ve (false,())))) (Q (ve (false,())))) (Q (ve (false,())))) (by kernel_rfl) (by
 conv=>zeta
 unfold Br;intro l Q ⟨j,e⟩
 have hB:∀y:Bool,(y=true↔(yc l∧(fd ((l.2.2.2.2.2.1.length:Int)-17)).2=0∧(fd ((l.2.2.2.2.2.1.length:Int)-17)).1+16=l.2.2.2.2.2.1.length∧l.2.2.2.2.2.2.1.length=64))→Q ⟨0,(y,())⟩:=by
  intro y g;have:y=mM l:=by unfold mM;rw[lI,g,ah]
  rw[this];exact e
 clear e;have i:=tO ((l.2.2.2.2.2.1.length:Int)-17);have f:Od l=true↔yc l:=by unfold Od;rw[ah]
 generalize fd ((l.2.2.2.2.2.1.length:Int)-17)=K at*;simp only[aO,aJ,aQ,ax,ne_eq];refine⟨by unfold ae;omega,trivial,trivial,λa=>⟨λb=>⟨by have:=i b;unfold ae;omega,λc=>hB _ ?_,λc=>hB _ ?_⟩,λb=>hB _ ?_⟩,λa=>hB _ ?_⟩
 ·simp only[aQ];exact⟨λh=>⟨f.1 a,b,c,Int.ofNat.inj h⟩,λh=>by have:=h.2.2.2;omega⟩
 ·exact⟨λh=>by simp at h,λh=>absurd h.2.2.1 c⟩
 ·exact⟨λh=>by simp at h,λh=>absurd h.2.1 b⟩
 ·exact⟨λh=>by simp at h,λh=>by rw[f.2 h.1]at a;simp at a⟩)
def eg(l:Lt):BL:=vn l.1++vn l.2.1++vn l.2.2.1++vn l.2.2.2.1++tx l.2.2.2.2.1
theorem my(l:Lt):(eg l).length≤35+l.2.2.2.2.1.length:=by
 have a:=bz l.1;have b:=bz l.2.1;have c:=bz l.2.2.1;have e:=bz l.2.2.2.1;have f:=dW l.2.2.2.2.1;simp only[eg,aa];omega
def FY:Ct:=⟨2,⟨[sB 0,zf 1],[]⟩,[⟨[(0,false,[.d tB])],[]⟩],λ(b,l,_)=>one (b.length+l.2.2.2.2.1.length≤1000000000) (b++eg l,())⟩
abbrev SS(v:BL×Unit):aN FY.out:=⟨0,v⟩
def Og:bu:=(87,[FY])::Of
theorem Zs:KK Og:=kA Zr (cv FY 5) (∀(b:BL)(a:Lt)(Q:aN FY.out→Prop),(Ct.spec FY (b,a,())).sat Q→b.length≤1099511627776∧(b++vn a.1).length≤1099511627776∧(b++vn a.1++vn a.2.1).length≤1099511627776∧(b++vn a.1++vn a.2.1++vn a.2.2.1).length≤1099511627776∧(b++vn a.1++vn a.2.1++vn a.2.2.1++vn a.2.2.2.1).length+ac a.2.2.2.2.1≤1099511627776∧Q (SS (b++vn a.1++vn a.2.1++vn a.2.2.1++vn a.2.2.2.1++(vn (↑(ac a.2.2.2.2.1):Int)++a.2.2.2.2.1),()))) (by kernel_rfl) (by
 rintro b ⟨k,a,e,n,p,c,s,⟨⟩⟩ Q ⟨h,f⟩;dsimp only at*;have g:∀y,y=b++eg (k,a,e,n,p,c,s,())→Q ⟨0,(y,())⟩:=λy e=>by rw[e];exact f
 have i:=bz k;have j:=bz a;have l:=bz e;have m:=bz n;simp only[aa];refine⟨by omega,by omega,by omega,by omega,by omega,g _ ?_⟩;simp only[eg,tx,ay])
def hX(l:Lt):BL:=eg l++tx l.2.2.2.2.2.1++tx l.2.2.2.2.2.2.1
def FZ:Ct:=⟨2,⟨[sB 0,zf 1],[]⟩,[⟨[(0,false,[.d tB])],[]⟩],λ(b,l,_)=>one (b.length+l.2.2.2.2.1.length+l.2.2.2.2.2.1.length+l.2.2.2.2.2.2.1.length≤1000000000) (b++hX l,())⟩
abbrev SU(v:BL×Unit):aN FZ.out:=⟨0,v⟩
def Oh:bu:=(82,[FZ])::Og
theorem Zt:KK Oh:=kA Zs (cv FZ 0) (∀(b:BL)(a:Lt)(Q:aN FZ.out→Prop),let z:=vn (↑(ac a.2.2.2.2.2.1):Int)++a.2.2.2.2.2.1;(Ct.spec FZ (b,a,())).sat Q→b.length+ac a.2.2.2.2.1≤1000000000∧(b++eg a).length+ac a.2.2.2.2.2.1≤1099511627776∧(b++eg a++z).length+ac a.2.2.2.2.2.2.1≤1099511627776∧Q (SU (b++eg a++z++(vn (↑(ac a.2.2.2.2.2.2.1):Int)++a.2.2.2.2.2.2.1),()))) (by kernel_rfl) (by
 conv=>zeta
 rintro b l Q ⟨f,a⟩;have c:∀y,y=b++hX l→Q ⟨0,(y,())⟩:=λy e=>by rw[e];exact a
 have g:=my l;have h:=bz l.2.2.2.2.2.1.length;simp only[aa];refine⟨by omega,by omega,by omega,c _ ?_⟩;simp only[hX,tx,ay])
def J9(b:BL)(m:Bool)(s:Rs):Lt×Rs:=
 let k:=cR b s.1 m s.2 2 4
 let a:=cR b k.2.1 m k.2.2 0 4
 let e:=cR b a.2.1 m a.2.2 1 65536
 let n:=cR b e.2.1 m e.2.2 1 1048576
 let p:=gj b n.2.1 m n.2.2 64
 let x:=gj b p.2.1 m p.2.2 4112
 let g:=gj b x.2.1 m x.2.2 64
 ((k.1,a.1,e.1,n.1,p.1,x.1,g.1,()),g.2)
def mN(b:BL)(m:Bool)(s:Rs):Lt×Rs:=
 lk b (let x:=J9 b m s
 let a:=if mM x.1=true then x.2.2 else if(m&&x.2.2==0)=true then 5 else x.2.2
 (if(if m=true then a else 5)=0 then x.1 else Lr,(x.2.1,a)))
def F0:Ct:=⟨1,⟨[sP 0],rH⟩,[⟨[zf 0],rH⟩],λ(b,a,m,e,_)=>du (bP b a) (mN b m (a,e)) λy=>(y.1,b,y.2.1,m,y.2.2,())⟩
abbrev vf(v:Lt×BL×Int×Bool×Int×Unit):aN F0.out:=⟨0,v⟩
def Oi:bu:=(27,[F0])::Oh
theorem Zu:KK Oi:=kA Zt (cv F0 0) (∀(d:BL)(j:Int)(c:Bool)(k:Int)(Q:aN F0.out→Prop),(Ct.spec F0 (d,j,c,k,())).sat Q→bP d j∧∀(b:Int×Int×Int),b=cR d j c k 2 4→bP d b.2.1∧∀(f:Int×Int×Int),f=cR d b.2.1 c b.2.2 0 4→bP d f.2.1∧∀(g:Int×Int×Int),g=cR d f.2.1 c f.2.2 1 65536→bP d g.2.1∧∀(h:Int×Int×Int),h=cR d g.2.1 c g.2.2 1 1048576→bP d h.2.1∧∀(i:BL×Int×Int),i=gj d h.2.1 c h.2.2 64→bP d i.2.1∧∀(e:BL×Int×Int),e=gj d i.2.1 c i.2.2 4112→bP d e.2.1∧∀(a:BL×Int×Int),let l:=c&&a.2.2==0;let m:= !(if c=true then a.2.2 else 5)==0;let n:= !(if c=true then if l=true then 5 else a.2.2 else 5)==0;let z:=(b.1,f.1,g.1,h.1,i.1,e.1,a.1,());a=gj d e.2.1 c e.2.2 64→ac e.1≤1099511627776∧Br (!mM z) (True∧True∧Br n (Q (vf ((0,0,0,0,[],[],[],()),d,a.2.1,c,if l=true then 5 else a.2.2,()))) (Q (vf (z,d,a.2.1,c,if l=true then 5 else a.2.2,())))) (True∧Br m (Q (vf ((0,0,0,0,[],[],[],()),d,a.2.1,c,a.2.2,()))) (Q (vf (z,d,a.2.1,c,a.2.2,()))))) (by kernel_rfl) (by
 conv=>zeta
 unfold Br;intro b a m e Q ⟨D,E⟩;have f:∀(o:Lt)(q r:Int),mN b m (a,e)=(o,q,r)→Q ⟨0,(o,b,q,m,r,())⟩:=λo q r e=>E (o,q,r) e.symm;clear E;refine⟨D,λk s=>?_⟩;have t:=(eD m e 2 4 D).1;rw[←s]at t;refine⟨t,λF i=>?_⟩;have u:=(eD m k.2.2 0 4 t).1;rw[←i]at u;refine⟨u,λG j=>?_⟩;have v:=(eD m F.2.2 1 65536 u).1;rw[←j]at v;refine⟨v,λn w=>?_⟩;have y:=(eD m G.2.2 1 1048576 v).1;rw[←w]at y;refine⟨y,λp z=>?_⟩;have A:=(mL m n.2.2 64 y).1;rw[←z]at A;refine⟨A,λx B=>?_⟩;have C:=mL m p.2.2 4112 A;rw[←B]at C;refine⟨C.1,λg H=>?_⟩;have J:J9 b m (a,e)=((k.1,F.1,G.1,n.1,p.1,x.1,g.1,()),g.2):=by subst H B z w j i s;rfl
 unfold mN at f;rw[ck,J]at f;clear J;dsimp only at f;clear s i j w z B H;refine⟨by have:=C.2.2;omega,λh=>⟨trivial,trivial,λc=>f _ _ _ ?_,λc=>f _ _ _ ?_⟩,λh=>⟨trivial,λc=>f _ _ _ ?_,λc=>f _ _ _ ?_⟩⟩
 all_goals
  simp only[aO,aJ,ax,ne_eq,aQ]at h c;simp only[h,c,if_true,if_false,cf,Lr]) (l:=λ_=>bm)
def lR(l:Lt):BL:=vn l.1++vn l.2.1
def F3:Ct:=⟨3,⟨[sS 0 0,sB 1,zf 2],kH 0⟩,[⟨[sO 0 4],kI 0 3++[cT,cB]⟩],λ(a,l,d,b,m,_)=>du (aB a∧b.length≤4294967296) (de (107,[a,lR l],()) b m) λy=>(d,y.2.2,y.2.1,y.1,())⟩
abbrev SV(v:Int×KV×List Tm×BL×Unit):aN F3.out:=⟨0,v⟩
def Oj:bu:=(86,[F3])::Oi
theorem Zv:KK Oj:=kA Zu (cv F3 0) (∀(c:BL)(a:Lt)(e:Int)(d:List Tm)(f:KV)(Q:aN F3.out→Prop),(Ct.spec F3 (c,a,e,d,f,())).sat Q→0≤1099511627776∧ac (vn a.1)≤1099511627776∧(aB c∧aB (vn a.1++vn a.2.1)∧d.length≤4294967296)∧∀(b:BL×List Tm×KV),b=de (af 8 107,[c,vn a.1++vn a.2.1],()) d f→Q (SV (e,b.2.2,b.2.1,b.1,()))) (by kernel_rfl) (by
 intro g l d h m Q ⟨⟨a,c⟩,e⟩;have i:=bz l.1;have j:=bz l.2.1;exact⟨by omega,by omega,⟨a,by unfold aB;simp;omega,c⟩,λb f=>e b f⟩) (l:=λ_=>bm)
theorem paA(b:BL):(lq b).2=0→64≤(lq b).1.length∧(lq b).1.length≤4096:=by
 unfold lq;split
 ·rename_i h;have:=tO b.length h;intro _;simp only[aa,bd,List.length_replicate];omega
 ·rename_i h;intro a;exact absurd a h
def Zw(sec ep:BL)(l:Lt)(pd:BL)(ts:List Tm)(m:KV):(Lt×Int)×List Tm×KV:=
 let k:=de (107,[ep,lR l],()) ts m
 let b:=lA k.1 l.2.2.2.1 (eg l) pd k.2.1 k.2.2
 let h:=dT (104,[b.1],()) b.2.1 b.2.2
 let g:=de (103,[sec,eg l++tx h.1],()) h.2.1 h.2.2
 (((l.1,l.2.1,l.2.2.1,l.2.2.2.1,l.2.2.2.2.1,b.1,g.1,()),0),g.2)
def r9(sec ep:BL)(l:Lt)(text:BL)(ts:List Tm)(m:KV):(Lt×Int)×List Tm×KV:=
 lk sec (if sec.length≠32∨ep.length≠32∨Od l=false then((Lr,1),ts,m)
 else if(lq text).2≠0 then((Lr,(lq text).2),ts,m)
 else Zw sec ep l (lq text).1 ts m)
def F4:Ct:=⟨5,⟨[sS 0 0,sB 1,sB 2,zf 3,sB 4],kH 0⟩,[⟨[zf 0,sI 1],kI 0 3++[cT]⟩],λ(a,c,l,text,d,b,m,_)=>du (bU 4 b) (r9 a c l text b m) λy=>(y.1.1,y.1.2,d,y.2.2,y.2.1,())⟩
abbrev zg(v:Lt×Int×Int×KV×List Tm×Unit):aN F4.out:=⟨0,v⟩
def Ol:bu:=(81,[F4])::Oj
theorem Zx:KK Ol:=kA Zv (cv F4 0) (∀(h i:BL)(a:Lt)(e:BL)(f:Int)(d:List Tm)(g:KV)(Q:aN F4.out→Prop),let o:= !(↑i.length:Int)==32;let p:= !(↑h.length:Int)==32;let l:=eg (a.1,a.2.1,a.2.2.1,a.2.2.2.1,a.2.2.2.2.1,[],[],());let z:=zg ((0,0,0,0,[],[],[],()),1,f,g,d,());(Ct.spec F4 (h,i,a,e,f,d,g,())).sat Q→Br p (Q z) (Br o (Q z) (True∧Br (!Od a) (Q z) (True∧Br (!(lq e).2==0) (Q (zg ((0,0,0,0,[],[],[],()),(lq e).2,f,g,d,()))) ((0+ac a.2.2.2.2.1)*1≤140737488355328∧(aB i∧d.length≤4294967296)∧∀(b:BL×List Tm×KV),b=de (af 8 107,[i,lR (a.1,a.2.1,a.2.2.1,a.2.2.2.1,a.2.2.2.2.1,[],[],())],()) d g→0+ac a.2.2.2.2.1≤1000000000∧(aB b.1∧aB l∧aB (lq e).1∧b.2.1.length≤4294967296)∧∀(c:BL×List Tm×KV),let m:=jg (af 8 104,[c.1],()) c.2.1 c.2.2;c=lA b.1 a.2.2.2.1 l (lq e).1 b.2.1 b.2.2→0+ac a.2.2.2.2.1≤1000000000∧(aB c.1∧c.2.1.length≤4294967296)∧∀(b:BL×List Tm×KV),let n:=vn (↑(ac b.1):Int)++b.1;b=(jO (af 8 104,[c.1],()) m.1,m.2)→ac (eg (a.1,a.2.1,a.2.2.1,a.2.2.2.1,a.2.2.2.2.1,c.1,[],()))+ac b.1≤1099511627776∧(aB h∧aB (eg (a.1,a.2.1,a.2.2.1,a.2.2.2.1,a.2.2.2.2.1,c.1,[],())++n)∧b.2.1.length≤4294967296)∧∀(j:BL×List Tm×KV),j=de (af 8 103,[h,eg (a.1,a.2.1,a.2.2.1,a.2.2.2.1,a.2.2.2.2.1,c.1,[],())++n],()) b.2.1 b.2.2→Q (zg ((a.1,a.2.1,a.2.2.1,a.2.2.2.1,a.2.2.2.2.1,c.1,j.1,()),0,f,j.2.2,j.2.1,()))))))) (by kernel_rfl) (by
 conv=>zeta
 unfold Br;intro a i l text d y m Q ⟨h,C⟩;have f:∀p q r s,r9 a i l text y m=((p,q),r,s)→Q ⟨0,(p,q,d,s,r,())⟩:=λp q r s e=>C ((p,q),r,s) e.symm;clear C;unfold r9 at f;rw[ck]at f;simp only[aO,aJ,ah,aj,aQ,ax,ne_eq];refine⟨λc=>f _ _ _ _ (an (.inl (by omega))),λO=>⟨λc=>f _ _ _ _ (an (.inr (.inl (by omega)))),λP=>⟨trivial,λc=>f _ _ _ _ (an (.inr (.inr c))),λD=>?_⟩⟩⟩;have R:a.length=32:=by omega
 have S:i.length=32:=by omega
 rw[ag (by rw[D];simp;omega)]at f;refine⟨trivial,λc=>f _ _ _ _ (an c),λE=>?_⟩;rw[ag (λh=>h E)]at f;have H:yc l:=ai D;have J:l.2.2.2.2.1.length≤32:=by have:=H.2.2.2.2.2.2.2.2;omega
 have U:=my l;have W:=paA text E;have K:aB a:=by unfold aB;omega
 have F:aB i:=by unfold aB;omega
 have j:aB (eg l):=by unfold aB;omega
 have X:=bz l.1;have Y:=bz l.2.1;have z:=pz m h (A6 (k:=107) (by decide) (by decide) F (show aB (lR l)by unfold aB lR;simp;omega));have L:=bA (Ll (107,[i,lR l],()) y m) (CW (by show(107:BitVec 8)≠98;decide));refine⟨by omega,⟨F,h.le⟩,?_⟩;intro k u;have u:k=de (107,[i,lR l],()) y m:=u;rw[←u]at z L;have A:=seS (n:=l.2.2.2.1) k.2.2 (show aB k.1 by unfold aB;omega) j (show aB (lq text).1 by unfold aB;omega) z;refine⟨by omega,⟨by unfold aB;omega,j,by unfold aB;omega,z.le⟩,?_⟩;intro b v;have v:b=lA k.1 l.2.2.2.1 (eg l) (lq text).1 k.2.1 k.2.2:=v;rw[←v]at A;have o:aB b.1:=by unfold aB;omega
 have G:=ol b.2.2 A.1 (jT (k:=104) (by decide) (by decide) o);have M:=tU (104,[b.1],()) b.2.1 b.2.2;have N:=CW (t:=(104,[b.1],())) (by show(104:BitVec 8)≠98;decide);refine⟨by omega,⟨o,A.1.le⟩,?_⟩;intro x w;have w:x=dT (104,[b.1],()) b.2.1 b.2.2:=w;rw[←w]at G M;have tl:=dW x.1;refine⟨by show(eg l).length+x.1.length≤_;omega,⟨K,by show(eg l++tx x.1).length≤_;rw[aa];omega,G.le⟩,?_⟩;intro g B;have B:g=de (103,[a,eg l++tx x.1],()) x.2.1 x.2.2:=B;refine f _ _ _ _ ?_;unfold Zw;dsimp only;rw[←u,←v,←w,←B]) (l:=λ_=>bm)
def lkZ:Lk:=(0,0,0,[],[],())
def tW(sg:BL)(l:Lt)(ts:List Tm)(m:KV):(Lk×Int)×List Tm×KV:=
 lk sg (if mM l=false then((lkZ,1),ts,m)
 else
  let h:=dT (104,[l.2.2.2.2.2.1],()) ts m
  if yY sg (eg l++tx h.1) l.2.2.2.2.2.2.1 h.2.1=false then((lkZ,10),h.2)
  else(((l.2.1,l.2.2.2.1,l.2.2.1,l.2.2.2.2.1,h.1,()),0),h.2))
def jw(l:Lt):Prop:=l.2.2.2.2.1.length≤1000000∧l.2.2.2.2.2.1.length≤1000000∧l.2.2.2.2.2.2.1.length≤1000000
def F5:Ct:=⟨3,⟨[sS 0 0,sB 1,zf 2],kH 0⟩,[⟨[(0,true,[.d A3]),sI 1],kI 0 3++[cT]⟩],λ(a,l,d,b,m,_)=>du (aB a∧jw l∧bU 1 b) (tW a l b m) λy=>(y.1.1,y.1.2,d,y.2.2,y.2.1,())⟩
abbrev zh(v:Lk×Int×Int×KV×List Tm×Unit):aN F5.out:=⟨0,v⟩
def Om:bu:=(163,[F5])::Ol
theorem Zy:KK Om:=kA Zx (cv F5 0) (∀(d:BL)(a:Lt)(e:Int)(c:List Tm)(f:KV)(Q:aN F5.out→Prop),let g:=jg (af 8 104,[a.2.2.2.2.2.1],()) c f;(Ct.spec F5 (d,a,e,c,f,())).sat Q→ac a.2.2.2.2.2.1≤1099511627776∧Br (!mM a) (Q (zh ((0,0,0,[],[],()),1,e,f,c,()))) ((aB a.2.2.2.2.2.1∧c.length≤4294967296)∧∀(b:BL×List Tm×KV),let z:=eg a++(vn (↑(ac b.1):Int)++b.1);let h:= !yY d z a.2.2.2.2.2.2.1 b.2.1;b=(jO (af 8 104,[a.2.2.2.2.2.1],()) g.1,g.2)→0+ac a.2.2.2.2.1≤1000000000∧ac (eg a)+ac b.1≤1099511627776∧(aB d∧aB z∧aB a.2.2.2.2.2.2.1∧fg b.2.1)∧Br h (Q (zh ((0,0,0,[],[],()),10,e,b.2.2,b.2.1,()))) ((0+ac a.2.2.2.2.1)*1≤140737488355328∧Q (zh ((a.2.1,a.2.2.2.1,a.2.2.1,a.2.2.2.2.1,b.1,()),0,e,b.2.2,b.2.1,()))))) (by kernel_rfl) (by
 conv=>zeta
 unfold Br;intro p l d o m Q ⟨⟨s,u,h⟩,q⟩;have a:∀f g i j,tW p l o m=((f,g),i,j)→Q ⟨0,(f,g,d,j,i,())⟩:=λf g i j e=>q ((f,g),i,j) e.symm;clear q;unfold tW at a;rw[ck]at a;simp only[aO,aJ,ah,aj,aQ,ax,ne_eq];obtain⟨A,B,C⟩:=u;have b:aB l.2.2.2.2.2.1:=by unfold aB;omega
 have D:=my l;refine⟨by omega,λc=>a _ _ _ _ (an c),λv=>⟨⟨b,h.le⟩,?_⟩⟩;rw[ag (by rw[v];decide)]at a;have r:=ol m h (jT (k:=104) (by decide) (by decide) b);have w:=tU (104,[l.2.2.2.2.2.1],()) o m;have y:=CW (t:=(104,[l.2.2.2.2.2.1],())) (by show(104:BitVec 8)≠98;decide);intro x n;have n:x=dT (104,[l.2.2.2.2.2.1],()) o m:=n;rw[←n]at r w a;clear n;have E:=dW x.1;refine⟨by omega,by omega,⟨s,by show(eg l++tx x.1).length≤_;rw[aa];omega,by unfold aB;omega,r.ok⟩,λc=>a _ _ _ _ (an c),λc=>⟨by omega,a _ _ _ _ (ag (λh=>?_))⟩⟩;have z:yY p (eg l++tx x.1) l.2.2.2.2.2.2.1 x.2.1=true:=c;rw[z]at h;simp at h) (l:=λ_=>bm)
theorem opA{k:BL}{n:Int}{o x:BL}{ts:List Tm}(h:fg ts):(yZ k n o x ts).1.length≤1099511627776:=by
 unfold yZ;split
 ·simp
 ·split
  ·rename_i a;have c:=rl (b:=x) (k:=98) h a.1;have:=gH (fH x 98 ts).1.2.1 3;have:=c.1.1;dsimp only;omega
  ·simp
def loH:List (Option CP):=[some (.cells [.ifc 96 5 0]),some (.cells [.d tB]),some (.cells [.d SR]),some (.cells [.d tB]),some (.cells [.d .i64])]
def CZ(ep:BL)(l:Lt)(ts:List Tm)(m:KV):(BL×Int)×List Tm×KV:=
 (yZ (de (107,[ep,lR l],()) ts m).1 l.2.2.2.1 (eg l) l.2.2.2.2.2.1 (de (107,[ep,lR l],()) ts m).2.1,(de (107,[ep,lR l],()) ts m).2)
theorem loA{ep:BL}{l:Lt}{k:Nat}{ts:List Tm}(m:KV)(b:aB ep)(h:bU (k+1) ts):bU k (CZ ep l ts m).2.1∧(CZ ep l ts m).1.1.length≤1099511627776:=by
 have c:=bz l.1;have e:=bz l.2.1;have a:=pz m h (A6 (k:=107) (by decide) (by decide) b (show aB (lR l)by unfold aB lR;simp;omega));exact⟨a,opA a.ok⟩
def F6:Ct:=⟨5,⟨[(0,false,[.ptr 0 0]),(1,false,[.ptr 1 0]),(2,false,[.ptr 2 0]),(3,false,[.ptr 3 0]),(4,false,[.ptr 4 0])],loH++kH 5⟩,[⟨[],loH++kI 5 8++[cT]⟩],λ(a,l,_,_,d,b,m,_)=>du (aB a∧jw l∧bU 1 b) (CZ a l b m) λy=>(a,l,y.1.1,y.1.2,d,y.2.2,y.2.1,())⟩
abbrev SW(v:BL×Lt×BL×Int×Int×KV×List Tm×Unit):aN F6.out:=⟨0,v⟩
def On:bu:=(85,[F6])::Om
theorem Zz:KK On:=kA Zy (cv F6 0) (∀(c:BL)(a:Lt)(h:BL)(i f:Int)(e:List Tm)(g:KV)(Q:aN F6.out→Prop),(Ct.spec F6 (c,a,h,i,f,e,g,())).sat Q→(aB c∧e.length≤4294967296)∧∀(b:BL×List Tm×KV),b=de (af 8 107,[c,lR a],()) e g→0+ac a.2.2.2.2.1≤1000000000∧(aB b.1∧aB (eg a)∧aB a.2.2.2.2.2.1∧fg b.2.1)∧∀(d:BL×Int),d=yZ b.1 a.2.2.2.1 (eg a) a.2.2.2.2.2.1 b.2.1→Q (SW (c,a,d.1,d.2,f,b.2.2,b.2.1,()))) (by kernel_rfl) (by
 intro b l _ _ d c m Q ⟨⟨e,f,h⟩,g⟩;obtain⟨j,n,p⟩:=f;have q:=my l;have r:=bz l.1;have s:=bz l.2.1;have i:=pz m h (A6 (k:=107) (by decide) (by decide) e (show aB (lR l)by unfold aB lR;simp;omega));have t:=bA (Ll (107,[b,lR l],()) c m) (CW (by show(107:BitVec 8)≠98;decide));refine⟨⟨e,h.le⟩,?_⟩;intro k a;have a:k=de (107,[b,lR l],()) c m:=a;subst a;refine⟨by omega,⟨by unfold aB;omega,by unfold aB;omega,by unfold aB;omega,i.ok⟩,?_⟩;rintro o rfl;exact g _ rfl) (l:=λ_=>bm)
def F7:Ct:=⟨2,⟨[(0,false,[.ptr 0 0]),(1,false,[.ptr 1 0])],[some (.cells [.d tB]),some (.cells [.d .i64])]⟩,[⟨[],[some (.cells [.d tB]),some (.cells [.d .i64])]⟩],λ(b,_,_)=>du (b.length≤1099511627776) (CL b) λy=>(y.1,y.2,())⟩
abbrev SX(v:BL×Int×Unit):aN F7.out:=⟨0,v⟩
def Oo:bu:=(88,[F7])::On
theorem ZA:KK Oo:=kA Zz (cv F7 0) (∀(a:BL)(b:Int)(Q:aN F7.out→Prop),(Ct.spec F7 (a,b,())).sat Q→a.length≤1099511627776∧Q (SX ((CL a).1,(CL a).2,()))) (by kernel_rfl) (by
 intro b _ Q ⟨h,a⟩;exact⟨h,a _ rfl⟩) (l:=λ_=>bm)
def sG(ep:BL)(l:Lt)(ts:List Tm)(m:KV):(BL×Int)×List Tm×KV:=
 lk ep (if mM l=false∨ep.length≠32 then(([],1),ts,m)
 else if(CZ ep l ts m).1.2≠0 then(([],(CZ ep l ts m).1.2),(CZ ep l ts m).2)
 else if(CL (CZ ep l ts m).1.1).2≠0 then(([],(CL (CZ ep l ts m).1.1).2),(CZ ep l ts m).2)
 else(((CL (CZ ep l ts m).1.1).1,0),(CZ ep l ts m).2))
def F8:Ct:=⟨3,⟨[sS 0 0,sB 1,zf 2],kH 0⟩,[⟨[(0,false,[.d tB]),sI 1],kI 0 3++[cT]⟩],λ(b,l,d,a,m,_)=>du (jw l∧bU 1 a) (sG b l a m) λy=>(y.1.1,y.1.2,d,y.2.2,y.2.1,())⟩
abbrev vg(v:BL×Int×Int×KV×List Tm×Unit):aN F8.out:=⟨0,v⟩
def Oq:bu:=(46,[F8])::Oo
theorem ZB:KK Oq:=kA ZA (cv F8 3) (∀(c:BL)(a:Lt)(f:Int)(d:List Tm)(g:KV)(Q:aN F8.out→Prop),let j:= !(↑c.length:Int)==32;let i:=vg ([],1,f,g,d,());let z:=de (af 8 107,[c,lR a],()) d g;(Ct.spec F8 (c,a,f,d,g,())).sat Q→ac a.2.2.2.2.2.1≤1099511627776∧Br (!mM a) (Q i) (Br j (Q i) ((aB c∧jw a∧bU 1 d)∧∀(b:(BL×Int)×List Tm×KV),let h:=(f,b.2.2,b.2.1,());b=(yZ z.1 a.2.2.2.1 (eg a) a.2.2.2.2.2.1 z.2.1,z.2)→Br (!b.1.2==0) (Q (vg ([],b.1.2,h))) (ac b.1.1≤1099511627776∧∀(e:BL×Int),e=CL b.1.1→Br (!e.2==0) (Q (vg ([],e.2,h))) (Q (vg (e.1,e.2,h))))))) (by kernel_rfl) (by
 conv=>zeta
 unfold Br;intro o l d p m Q ⟨⟨q,h⟩,r⟩;have a:∀f g i j,sG o l p m=((f,g),i,j)→Q ⟨0,(f,g,d,j,i,())⟩:=λf g i j e=>r ((f,g),i,j) e.symm;clear r;unfold sG at a;rw[ck]at a;simp only[aO,aJ,ah,aj,aQ,ax,ne_eq];have x:=q.2.1;refine⟨by omega,λc=>a _ _ _ _ (an (.inl c)),λv=>⟨λc=>a _ _ _ _ (an (.inr (by omega))),λy=>?_⟩⟩;have s:aB o:=by unfold aB;omega
 have t:=loA (l:=l) m s h;refine⟨⟨s,q,h⟩,?_⟩;rw[ag (by rw[v];simp;omega)]at a;intro b n;have n:b=CZ o l p m:=n;rw[←n]at t a;clear n;refine⟨λc=>a _ _ _ _ (an c),λc=>?_⟩;rw[ag (λh=>h c)]at a;refine⟨t.2,?_⟩;intro u w;rw[←w]at a;refine⟨λc=>a _ _ _ _ (an c),λc=>?_⟩;rw[ag (λh=>h c)]at a;rw[c];exact a _ _ _ _ rfl) (l:=λ_=>bm)
theorem F9(x:BitVec 64)(k i:Nat)(hi:i<64):(aw 64 (aw 8 (x>>>k))<<<k).getLsbD i=(decide (k≤i∧i<k+8)&&x.getLsbD i):=by
 simp only[BitVec.getLsbD_shiftLeft,BitVec.getLsbD_setWidth,BitVec.getLsbD_ushiftRight];rcases bN i k with h|h
 ·have:¬(k≤i∧i<k+8):=by omega
  simp[h,this]
 ·have e:k+(i-k)=i:=by omega
  rw[e];have b:¬i<k:=by omega
  have c:i-k<64:=by omega
  rcases bN i (k+8)with g|g
  ·have a:i-k<8:=by omega
   simp[hi,b,c,a,h,g]
  ·have a:¬i-k<8:=by omega
   have f:¬i<k+8:=by omega
   simp[a,f]
theorem Ga(x:BitVec 64):af 64 0|||aw 64 (aw 8 (x>>>0))<<<0|||aw 64 (aw 8 (x>>>8))<<<8|||aw 64 (aw 8 (x>>>16))<<<16|||aw 64 (aw 8 (x>>>24))<<<24|||aw 64 (aw 8 (x>>>32))<<<32|||aw 64 (aw 8 (x>>>40))<<<40|||aw 64 (aw 8 (x>>>48))<<<48|||aw 64 (aw 8 (x>>>56))<<<56=x:=by
 refine BitVec.eq_of_getLsbD_eq λi a=>?_;simp only[BitVec.getLsbD_or,F9 x _ i a];have z:(af 64 0).getLsbD i=false:=by simp
 rw[z];cases x.getLsbD i
 ·simp
 ·simp only[Bool.and_true,Bool.false_or,ig,ah];omega
theorem Gb(t:Tm){n:Nat}(h:n≤4294967296):(xk (jO t n)).toNat=n:=by
 have:xk (jO t n)=bc 64 (n:Int):=Ga (bc 64 (n:Int));rw[this];exact AY h
def Nm(ts:List Tm)(b:BL)(t:Tm):Prop:=∃i:Nat,ts[i]?=some t∧b=jO t ((i+1:Nat):Int)
structure Gc(ts:List Tm)(m:KV):Prop where
 le:ts.length≤4294967296
 at_:∀(i:Nat)(t:Tm),ts[i]?=some t→W3 (tN t) m=((i+1:Nat):Int)
 no:∀k,W3 k m≠0→∃(i:Nat)(t:Tm),ts[i]?=some t∧tN t=k
theorem Nm.le{ts:List Tm}{b:BL}{t:Tm}(h:Nm ts b t):t∈ts:=let⟨_,a,_⟩:=h;List.mem_of_getElem? a
theorem Nm.mono{ts us:List Tm}{b:BL}{t:Tm}(h:Nm ts b t):Nm (ts++us) b t:=by
 obtain⟨i,a,c⟩:=h;have e:i<ts.length:=(dd.1 a).1;exact⟨i,by rw[cH e];exact a,c⟩
theorem Nm.uni{ts:List Tm}{b:BL}{t a:Tm}(o:ts.length≤4294967296)(h:Nm ts b t)(h':Nm ts b a):t=a:=by
 obtain⟨i,e,g⟩:=h;obtain⟨j,c,l⟩:=h';have p:i<ts.length:=(dd.1 e).1;have q:j<ts.length:=(dd.1 c).1;have f:=Gb t (n:=i+1) (by omega);have m:=Gb a (n:=j+1) (by omega);rw[←g]at f;rw[←l,f]at m;have:i=j:=by omega
 subst this;rw[e]at c;exact Option.some.inj c
theorem Ls(t:Tm)(n:Int):(jO t n).getD 0 0=t.1:=rfl
theorem a2x(t:Tm):16≤nJ t:=uU t
theorem Lu(t:Tm)(n:Int):9≤(jO t n).length:=by
 have:=uU t;rw[u6];omega
theorem Ge{ts:List Tm}{b:BL}{t:Tm}(g:ts.length≤4294967296)(h:Nm ts b t):fH b t.1 ts=(t,true):=by
 obtain⟨i,f,a⟩:=h;have j:i<ts.length:=(dd.1 f).1;have c:=Gb t (n:=i+1) (by omega);rw[←a]at c;unfold fH
 rw[ag (by
  rw[not_or];refine⟨?_,?_⟩
  ·have:=Lu t ((i+1:Nat):Int);rw[←a]at this;omega
  ·rw[a,Ls];simp),ag (by rw[c];omega),c]
 have e:ts.getD (i+1-1) Fb=t:=by rw[Nat.add_sub_cancel,az,f];rfl
 rw[e];have:(t.1==t.1&&b==jO t ((i+1:Nat):Int))=true:=by rw[←a];simp
 rw[this]
theorem Ot{ts:List Tm}{b:BL}{k:BitVec 8}(h:(fH b k ts).2=true):Nm ts b (fH b k ts).1∧(fH b k ts).1.1=k:=by
 unfold fH at h⊢;split at h
 ·cases h
 rename_i c;rw[ag c];split at h
 ·cases h
 rename_i a;rw[ag a];dsimp only at h⊢;rw[aF,aQ,aQ]at h;rw[not_or]at a;have e:(xk b).toNat-1<ts.length:=by omega
 refine⟨⟨(xk b).toNat-1,?_,?_⟩,h.1⟩
 ·rw[az,ap e];rfl
 ·rw[show(xk b).toNat-1+1=(xk b).toNat by omega];exact h.2
theorem Gf{a b:Nat}(g:a≤1099511627776)(i:b≤1099511627776)(h:dx a=dx b):a=b:=by
 have e:∀n:Nat,xk ((0:BitVec 8)::dx (n:Int))=bc 64 (n:Int):=λn=>Ga (bc 64 (n:Int));have c:=e a;rw[h,e b]at c;have f:=aI BitVec.toNat c;rw[BitVec.ofInt_natCast,BitVec.ofInt_natCast,BitVec.toNat_ofNat,BitVec.toNat_ofNat]at f;omega
theorem Gg:∀{l l':List BL},lp l≤1099511627776→lp l'≤1099511627776→D3 l=D3 l'→l=l'
 |[],[],_,_,_=>rfl
 |[],p::r,_,_,h=>by
  have:=aI ac h;simp only[D3,List.map_nil,List.flatten_nil,cX,aX,List.flatten_cons,aa,eb]at this;omega
 |p::r,[],_,_,h=>by
  have:=aI ac h;simp only[D3,List.map_nil,List.flatten_nil,cX,aX,List.flatten_cons,aa,eb]at this;omega
 |p::r,q::s,a,b,h=>by
  simp only[lp,aX,cY]at a b;simp only[D3,aX,List.flatten_cons,ay]at h;obtain⟨c,e⟩:=List.append_inj h (by rw[eb,eb]);have f:=Gf (by omega) (by omega) c;obtain⟨g,i⟩:=List.append_inj e f;rw[g,Gg (l:=r) (l':=s) (by show(r.map λp=>p.length+8).sum≤_;omega) (by show(s.map λp=>p.length+8).sum≤_;omega) i]
theorem A8{t a:Tm}(c:lp t.2.1≤1099511627776)(e:lp a.2.1≤1099511627776)(h:tN t=tN a):t=a:=by
 obtain⟨k,l,u⟩:=t;obtain⟨f,g,j⟩:=a;obtain⟨b,i⟩:=List.cons.inj h;have b:k=f:=b;rw[b,show l=g from Gg c e i]
structure ZC(t:Tm)(ts:List Tm)(r:BL×List Tm×KV):Prop where
 w:Gc r.2.1 r.2.2
 nm:Nm r.2.1 r.1 t
 ex:r.2.1=ts∨r.2.1=ts++[t]∧t∉ts
theorem Gh{t:Tm}{ts:List Tm}{m:KV}(b:Gc ts m)(u:ts.length<4294967296)(n:∀x∈ts,eC x)(o:eC t):ZC t ts (dT t ts m):=by
 unfold dT jg;split
 ·rename_i h;dsimp only
  have p:t∉ts:=by
   intro r;obtain⟨i,s⟩:=List.getElem?_of_mem r;rw[b.at_ i t s]at h;omega
  refine⟨⟨by simp;omega,λi x a=>?_,λk f=>?_⟩,⟨ts.length,by simp,by simp⟩, .inr ⟨rfl,p⟩⟩
  ·show(cy (kt:= .st) (tN x) (cF (kt:= .st) (tN t) _ m)).getD 0=_;rw[fX];rcases bN i ts.length with g|g
   ·rw[cH g]at a;have j:=b.at_ i x a
    have:¬(tN x=tN t):=by
     intro e;have:=A8 (n x (List.mem_of_getElem? a)).1 o.1 e;subst this;exact p (List.mem_of_getElem? a)
    rw[ag (by rw[eu];exact this)];exact j
   ·rw[bB g]at a
    have:i-ts.length=0:=by
     rcases Nat.eq_zero_or_pos (i-ts.length)with q|q
     ·exact q
     ·rw[bY (by simp;omega)]at a;cases a
    rw[this]at a;have a:t=x:=by simpa using a
    subst a;rw[an (eu.2 rfl)];simp;omega
  ·have f:(cy (kt:= .st) k (cF (kt:= .st) (tN t) ((ts.length:Int)+1) m)).getD 0≠0:=f;rw[fX]at f;split at f
   ·rename_i e;exact⟨ts.length,t,by simp,(eu.1 e).symm⟩
   ·obtain⟨i,x,c,l⟩:=b.no k f;exact⟨i,x,by rw[cH (dd.1 c).1];exact c,l⟩
 ·rename_i h;dsimp only;obtain⟨i,x,c,l⟩:=b.no _ h;have e:=A8 (n x (List.mem_of_getElem? c)).1 o.1 l;subst e;exact⟨b,⟨i,c,by rw[b.at_ i x c]⟩, .inl rfl⟩
theorem SY{t:Tm}{ts:List Tm}{m:KV}(a:Gc ts m)(h:t∈ts):(dT t ts m).2=(ts,m):=by
 obtain⟨i,b⟩:=List.getElem?_of_mem h;have:=a.at_ i t b;unfold dT jg;rw[ag (by rw[this];omega)]
theorem Lv:Gc [] []:=⟨aq _,λi t h=>by simp at h,λk h=>absurd rfl h⟩
theorem jx(c:BitVec 8){n:Nat}(h:n=c.toNat):af 8 n=c:=by subst h;simp
theorem A9:∀(l:BL)(m s:Nat),s<6→(fy m s l).2.2=0→∃n:Nat,(fy m s l).1=((m+n*128^s:Nat):Int)∧n<128^(6-s)∧(n=0→s=0)∧(fy m s l).2.1=((s+(ll (5-s) n).length:Nat):Int)∧l=ll (5-s) n++l.drop (ll (5-s) n).length∧m+n*128^s≤1099511627776
 |[],_,_,_,h=>by cases h
 |c::r,m,s,x,h=>by
  have y:=c.isLt;simp only[fy]at h⊢;split at h
  ·rename_i g;rw[an g];obtain⟨n,o,z,p,t,b,u⟩:=A9 r _ (s+1) g.2 h;have A:n≠0:=λq=>by have:=p q;omega
   have v:5-s=(5-(s+1))+1:=by omega
   have e:ll (5-s) (c.toNat % 128+128*n)=c::ll (5-(s+1)) n:=by
    rw[v];simp only[ll];rw[ag (by omega),jx c (by omega),show(c.toNat % 128+128*n)/128=n by omega]
   have f:m+(c.toNat % 128+128*n)*128^s=m+c.toNat % 128*128^s+n*128^(s+1):=by
    rw[Nat.add_mul,Nat.pow_succ,Nat.mul_comm 128 n,Nat.mul_assoc,Nat.mul_comm 128 (128^s)];omega
   refine⟨c.toNat % 128+128*n,?_,?_,λq=>by omega,?_,?_,?_⟩
   ·rw[o,f]
   ·have:128^(6-s)=128*128^(6-(s+1)):=by rw[←Nat.pow_succ',show(6-(s+1)).succ=6-s by omega]
    rw[this];omega
   ·rw[t,e,bd];congr 1;omega
   ·rw[e,List.cons_append,bd,List.drop_succ_cons,←b]
   ·rw[f];exact u
  ·rename_i g;rw[ag g];split at h
   ·cases h
   ·rename_i a;rw[ag a];split at h
    ·cases h
    ·rename_i i;rw[ag i];rw[not_or]at a;have w:c.toNat % 128=c.toNat:=Nat.mod_eq_of_lt (by omega);rw[w]at i⊢
     have j:ll (5-s) c.toNat=[c]:=by
      cases b:5-s with
      |zero=>simp only[ll];rw[jx c rfl]
      |succ k=>simp only[ll];rw[an (by omega),jx c rfl]
     refine⟨c.toNat,rfl,?_,λq=>?_,?_,?_,by omega⟩
     ·have:128^1≤128^(6-s):=Nat.pow_le_pow_right (by decide) (by omega);omega
     ·have:=a.2;omega
     ·rw[j];rfl
     ·rw[j];rfl
theorem Lw{n:Nat}(h:n<128^6):ll 6 n=ll 5 n:=by
 have e:∀(k n:Nat),n<128^(k+1)→ll (k+1) n=ll k n:=by
  intro k
  induction k with
  |zero=>
   intro n h;simp only[ll];rw[an (by omega)]
  |succ k a=>
   intro n h;rw[show ll (k+1+1) n=if n<128 then[af 8 n]else af 8 (n % 128+128)::ll (k+1) (n/128)from rfl,show ll (k+1) n=if n<128 then[af 8 n]else af 8 (n % 128+128)::ll k (n/128)from rfl];rw[a (n/128) (by rw[Nat.pow_succ]at h;omega)]
 exact e 5 n h
theorem Gi{n:Nat}(h:n≤1099511627776):vn (n:Int)=ll 5 n:=by
 unfold vn;rw[show(min (max (n:Int) 0) 1099511627776).toNat=n by omega]
 exact Lw (by have:(128:Nat)^6=4398046511104:=by decide
              omega)
theorem Ou{l:BL}(h:(fy 0 0 l).2.2=0):l=vn (fy 0 0 l).1++l.drop (fy 0 0 l).2.1.toNat∧(fy 0 0 l).2.1=((vn (fy 0 0 l).1).length:Int)∧0≤(fy 0 0 l).1∧(fy 0 0 l).1≤1099511627776:=by
 obtain⟨n,a,f,g,b,e,c⟩:=A9 l 0 0 (by decide) h;rw[Nat.pow_zero,Nat.mul_one,bK]at a c;rw[bK]at b;rw[a,Gi c,b,aG];exact⟨e,rfl,by omega,by omega⟩
theorem Gj:∀(k n m s:Nat)(r:BL),k+s=5→n<128^(k+1)→(n=0→s=0)→m+n*128^s≤1099511627776→fy m s (ll k n++r)=(((m+n*128^s:Nat):Int),((s+(ll k n).length:Nat):Int),0)
 |0,n,m,s,r,h,a,c,f=>by
  have a:n<128:=a;simp only[ll,List.cons_append,eG,fy];have b:(af 8 n).toNat=n:=by simp;omega
  rw[b,Nat.mod_eq_of_lt a,ag (by omega),ag (by rw[not_or];exact⟨by omega,λq=>by have:=c q.1;omega⟩),ag (by omega)];rfl
 |k+1,n,m,s,r,h,a,c,f=>by
  simp only[ll];split
  ·rename_i e;simp only[List.cons_append,eG,fy];have b:(af 8 n).toNat=n:=by simp;omega
   rw[b,Nat.mod_eq_of_lt e,ag (by omega),ag (by rw[not_or];exact⟨by omega,λq=>by have:=c q.1;omega⟩),ag (by omega)];rfl
  ·rename_i i;simp only[List.cons_append,fy];have b:(af 8 (n % 128+128)).toNat=n % 128+128:=by simp;omega
   rw[b,an (by omega),show(n % 128+128) % 128=n % 128 by omega]
   have g:m+n % 128*128^s+n/128*128^(s+1)=m+n*128^s:=by
    have:n=n % 128+128*(n/128):=by omega
    conv=>rhs;rw[this,Nat.add_mul,Nat.mul_comm 128 (n/128),Nat.mul_assoc]
    rw[Nat.pow_succ,Nat.mul_comm 128 (128^s)];omega
   have:=Gj k (n/128) (m+n % 128*128^s) (s+1) r (by omega) (by rw[Nat.pow_succ]at a;omega) (λq=>by omega) (by rw[g];exact f);rw[this,g,bd]
   congr 3
   omega
theorem Ba{n:Int}(h0:0≤n)(h:n≤1099511627776)(r:BL):fy 0 0 (vn n++r)=(n,((vn n).length:Int),0):=by
 obtain⟨m,rfl⟩:=cq h0;have a:m≤1099511627776:=by omega
 rw[show((m:Nat):Int)=(m:Int)from rfl];show fy 0 0 (vn (m:Int)++r)=((m:Int),((vn (m:Int)).length:Int),0)
 rw[Gi a,Gj 5 m 0 0 r rfl (by have:(128:Nat)^6=4398046511104:=by decide
                              omega) (λ_=>rfl) (by omega)]
 simp
def Gk:Ct:=⟨1,⟨[sB 0],[]⟩,[⟨[(0,false,[.d tB])],[]⟩],λ(b,_)=>one (b.length≤1000000) (b,())⟩
abbrev Gl(v:BL×Unit):aN Gk.out:=⟨0,v⟩
def Ov:bu:=(67,[Gk])::Oq
theorem ZD:KK Ov:=kA ZB (cv Gk 0) (∀(a:BL)(Q:aN Gk.out→Prop),(Ct.spec Gk (a,())).sat Q→∀(b:Bool),(b=true→a.isEmpty=true)→Br b (Q (Gl ([],()))) ((0+a.length)*1≤140737488355328∧Q (Gl (a,())))) (by kernel_rfl) (by
 unfold Br;rintro x Q ⟨e,a⟩ b c;refine⟨λh=>?_,λh=>⟨by omega,a⟩⟩;have:=c h;simp only[List.isEmpty_iff]at this;subst this;exact a)
def Gm:Ct:=⟨1,⟨[(0,false,[.d (.sl ic)])],[]⟩,[⟨[sO 0 0],[J6]⟩],λ(b,_)=>one (b.length≤1000000000) (b,())⟩
abbrev Gn(v:List Fk×Unit):aN Gm.out:=⟨0,v⟩
def Ow:bu:=(199,[Gm])::Ov
theorem ZE:KK Ow:=kA ZD (cv Gm 0) (∀(a:List Fk)(Q:aN Gm.out→Prop),(Ct.spec Gm (a,())).sat Q→∀(b:Bool),(b=true→a.isEmpty=true)→Br b (Q (Gn ([],()))) ((0+a.length)*16≤140737488355328∧Q (Gn (a,())))) (by kernel_rfl) (by
 unfold Br;rintro x Q ⟨e,a⟩ b c;refine⟨λh=>?_,λh=>⟨by omega,a⟩⟩;have:=c h;simp only[List.isEmpty_iff]at this;subst this;exact a)
def Gp:Ct:=⟨2,⟨[(0,false,[.d (.sl ic)]),(1,true,[.d ic])],[]⟩,[⟨[sI 0],[]⟩],λ(l,x,_)=> .need (l.length≤1000000000) (.all Int (λy=>(0≤y↔x∈l)) λy=> .leaf ⟨0,(y,())⟩)⟩
def ZF:cc:=⟨[(0,false,[.d (.sl ic)]),(3,false,[.ptr 0 0]),sI 7,sI 8],[some (.cells [.d ic])]⟩
def Lx(l:List Fk)(x:Fk)(y:ZF.den):Prop:=match y with
 |(a,n,i,b,_)=>a=l∧b=x∧n=l.length∧∃k:Nat,i=k∧k≤l.length∧x∉l.take k
def a4s(x:Gp.inp.den):dG:=⟨[(2,bM ZF (Lx x.1 x.2.1) λ(_,n,i,_)=>(n-i).toNat)],[],[],[],0⟩
abbrev Gq(v:Int×Unit):aN Gp.out:=⟨0,v⟩
def Ox:bu:=(214,[Gp])::Ow
theorem Gs:KK Ox:=kA ZE a4s (∀(c:List Fk)(f:Fk)(Q:aN Gp.out→Prop),(Ct.spec Gp (c,f,())).sat Q→Is (Lx c f (c,(↑c.length:Int),0,f,()))∧∀(b:List Fk)(d a:Int)(e:Fk),let g:=b.getD a.toNat (0,0,());let z:=e.1==g.1&&e.2.1==g.2.1;Lx c f (b,d,a,e,())→Br (decide (a<d)) ((0≤a∧a<(↑b.length:Int))∧Br z (Q (Gq (a,()))) (ae (a+1)∧Is (Lx c f (b,d,a+1,e,())∧(d-(a+1)).toNat<(d-a).toNat))) (Q (Gq ((-1:Int),())))) (by kernel_rfl) (by
 conv=>zeta
 unfold Br;rintro l x Q ⟨t,f⟩;refine⟨⟨rfl,rfl,rfl,0,rfl,aq _,by simp⟩,?_⟩;rintro g n i m ⟨o,p,q,k,r,u,j⟩;subst o;subst p;subst q;subst r;refine⟨λc=>?_,λe=>?_⟩
 ·have b:k<g.length:=by simp only[ah]at c;omega
  have s:((k:Int).toNat)=k:=by omega
  rw[s];refine⟨by omega,λh=>f _ ?_,λh=>⟨?_,⟨rfl,rfl,rfl,k+1,rfl,b,?_⟩,by omega⟩⟩
  ·constructor
   ·intro _
    have:m=g[k]:=by
     simp only[aF,aQ,az,ap b,cZ]at h;exact rV h.1 (rV h.2 rfl)
    rw[this];exact rW b
   ·intro _;omega
  ·unfold ae;omega
  ·rw[eQ,ap b];intro a;simp only[Option.toList_some,aY,cg]at a;rcases a with a|a
   ·exact j a
   ·rw[az,ap b,cZ,←a]at h;simp at h
 ·simp only[aj]at e;refine f _ ⟨λh=>absurd h (by omega),λh=>absurd ?_ j⟩
  rwa [ba (by omega)]) (l:=λx=>Live.need λ_=>Live.all ⟨if x.2.1∈x.1 then 0 else-1,by split<;>simp_all,Live.leaf⟩)
def zi:Ct:=⟨2,⟨[(0,false,[.d (.sl ic)]),(1,true,[.d ic])],[]⟩,[⟨[sL 0],[]⟩],λ(l,x,_)=>one (l.length≤1000000000) (decide (x∈l),())⟩
abbrev SZ(v:Bool×Unit):aN zi.out:=⟨0,v⟩
theorem Gt:bO Tryz.prog 198 zi:=kC Gs (cv zi 0) (∀(a:List Fk)(c:Fk)(Q:aN zi.out→Prop),(Ct.spec zi (a,c,())).sat Q→a.length≤1000000000∧∀(b:Int),(0≤b↔c∈a)→Q (SZ (decide (0≤b),()))) (by kernel_rfl) (by
 rintro x y Q ⟨a,c⟩;refine⟨a,λb e=>?_⟩;have:decide (0≤b)=decide (y∈x):=by simp only[e]
 rw[this];exact c)
def Oy:bu:=(198,[zi])::Ox
theorem ZG:KK Oy:=⟨aP.add Gs.1 (by kernel_rfl) (bo (Gt)),bg.add Gs.2 (bo (λ_=>bH))⟩
def Gu:Ct:=⟨2,⟨[sB 0,sB 1],[]⟩,[⟨[sL 0],[]⟩],λ(a,b,_)=>one (a.length≤1000000000∧b.length≤1000000000) (a==b,())⟩
def ZH:cc:=⟨[sB 0,sB 1,sI 12,sI 13],[]⟩
def Ly(a b:BL)(y:ZH.den):Prop:=match y with
 |(c,e,n,i,_)=>c=a∧e=b∧n=a.length∧a.length=b.length∧∃k:Nat,i=k∧k≤a.length∧a.take k=b.take k
def a4t(x:Gu.inp.den):dG:=⟨[(4,bM ZH (Ly x.1 x.2.1) λ(_,_,n,i,_)=>(n-i).toNat)],[],[],[],0⟩
abbrev zj(v:Bool×Unit):aN Gu.out:=⟨0,v⟩
def Oz:bu:=(217,[Gu])::Oy
theorem ZI:KK Oz:=kA ZG a4t (∀(b c:BL)(Q:aN Gu.out→Prop),let g:= !(↑b.length:Int)==(↑c.length:Int);(Ct.spec Gu (b,c,())).sat Q→Br g (Q (zj (false,()))) (Is (Ly b c (b,c,(↑b.length:Int),0,()))∧∀(e f:BL)(d a:Int),let z:= !e.getD a.toNat (af 8 0)==f.getD a.toNat (af 8 0);Ly b c (e,f,d,a,())→Br (decide (a<d)) ((0≤a∧a<(↑e.length:Int))∧(0≤a∧a<(↑f.length:Int))∧Br z (Q (zj (false,()))) (ae (a+1)∧Is (Ly b c (e,f,d,a+1,())∧(d-(a+1)).toNat<(d-a).toNat))) (Q (zj (true,()))))) (by kernel_rfl) (by
 conv=>zeta
 unfold Br;rintro a b Q ⟨⟨q,r⟩,c⟩;refine⟨λh=>?_,λh=>?_⟩
 ·have:(a==b)=false:=by
   rw[ax];rintro rfl;simp at h
  rw[this]at c;exact c
 ·have p:a.length=b.length:=by
   simp only[aJ,aQ]at h;omega
  refine⟨⟨rfl,rfl,rfl,p,0,rfl,aq _,rfl⟩,?_⟩;rintro f g n i ⟨s,t,u,_,k,v,x,j⟩;subst s;subst t;subst u;subst v;refine⟨λl=>?_,λm=>?_⟩
  ·have o:k<f.length:=by simp only[ah]at l;omega
   have e:k<g.length:=by omega
   have w:((k:Int).toNat)=k:=by omega
   rw[w];simp only[az,ap o,ap e,cZ];refine⟨by omega,by omega,λh=>?_,λh=>⟨?_,⟨rfl,rfl,rfl,p,k+1,rfl,o,?_⟩,by omega⟩⟩
   ·have:(f==g)=false:=by
     rw[ax];rintro rfl;simp at h
    rw[this]at c;exact c
   ·unfold ae;omega
   ·rw[eQ,eQ,j,ap o,ap e];simp only[aJ,aQ]at h;rw[h]
  ·simp only[aj]at m;have:f=g:=by
    rw[ba (by omega),ba (by omega)]at j;exact j
   subst this;simp only[BEq.rfl]at c;exact c)
def Gv:Ct:=⟨1,⟨[sB 0],[]⟩,[⟨[sP 0],r7⟩],λ(a,_)=>one (a.length≤1000000) (a,[],[],())⟩
abbrev S0(v:Lg):aN Gv.out:=⟨0,v⟩
def OA:bu:=(36,[Gv])::Oz
theorem ZJ:KK OA:=kA ZI (cv Gv 0) (∀(a:BL)(Q:aN Gv.out→Prop),(Ct.spec Gv (a,())).sat Q→(0+a.length)*1≤140737488355328∧Q (S0 (a,[],[],()))) (by kernel_rfl) (by
 rintro x Q ⟨b,a⟩;exact⟨by omega,a⟩)
def eO{p:cc}(a:Prop){β:Type}(R:β→Prop)(g:β→p.den):Tr (aN [p]):= .need a (.all β R λy=> .leaf ⟨0,g y⟩)
theorem aR{p:cc}{b:Prop}{β:Type}{R:β→Prop}{g:β→p.den}(h:b→∃y,R y):Live (eO (p:=p) b R g):=Live.need λa=>Live.all ⟨(h a).choose,(h a).choose_spec,Live.leaf⟩
abbrev cO:Ty:= .pr .i64 (.pr .i64 .un)
abbrev ou:Ty:= .pr .i64 (.pr .i64 (.pr .i64 (.pr .i64 (.pr .bl (.pr .i32 .un)))))
abbrev gP:Ty:= .pr .i64 (.pr .i64 (.pr .i32 (.pr .bl (.pr (.ar 2 (.sl cO)) .un))))
abbrev V3:Ty:= .pr (.fm cO gP) (.pr .i64 .un)
abbrev eV:Ty:= .pr .i64 (.pr .i64 (.pr .i64 (.pr .i64 (.pr .bl (.pr .i64 (.pr .i64 (.pr .bl (.pr .i64 (.pr .i64 .un)))))))))
abbrev tMB:Ty:= .pr (.sl eV) .un
abbrev ZK:Ty:= .pr (.fm cO ou) (.pr (.fm cO .i64) (.pr (.sl ou) (.pr (.pf V3) (.pr (.pf tMB) .un))))
abbrev OB:Ty:= .pf ZK
abbrev jV:Ty:= .pr .i64 (.pr .i64 (.pr .i64 (.pr .i64 (.pr .i64 (.pr .bl (.pr .i32 (.pr .i64 (.pr .i64 eV))))))))
abbrev eR:=ou.den
abbrev Pg:=ZK.den
abbrev Op:=jV.den
abbrev Mk:=eV.den
abbrev ID:=cO.den
abbrev Nd:=gP.den
def sa:cO.den:=(0,0,())
def iC:Op:=(1,0,1,0,0,true,97,0,0,0,0,0,0,false,0,0,false,0,0,())
def iX:Pg:=([],[],[],([((0,0,()),(0,0,0,false,[[],[]],()))],0,()),([],()),())
def eW:Pg:=([((0,1,()),(0,1,0,0,true,97,()))],[],[],([((0,0,()),(0,0,0,false,[[],[(0,1,())]],())),((0,1,()),(0,1,97,false,[[],[]],()))],0,()),([],()),())
def Gw(j:Nat):List (Option CP):=[some (.cells [.mp (j+1), .mp (j+2), .own (j+3), .ptr (j+4) 0, .ptr (j+6) 0]),some (.mp cO ou),some (.mp cO .i64),some (.sl ou),some (.cells [.mp (j+5), .d .i64]),some (.mp cO gP),some (.cells [.d (.sl eV)])]
def gI(a c:Int):Bool:=decide (0≤a∧a<5∧1≤c∧c≤1099511627776)
def S1(a c:Int):Bool:=(a==0&&c==0)||gI a c
def OC(m:eV.den):Bool:=decide (1≤m.1∧m.1≤1099511627776∧0≤m.2.1∧m.2.1<5∧1≤m.2.2.2.2.2.2.2.2.1∧m.2.2.2.2.2.2.2.2.1≤4∧0≤m.2.2.2.2.2.2.2.2.2.1∧m.2.2.2.2.2.2.2.2.2.1≤1099511627776)&&S1 m.2.2.1 m.2.2.2.1&&S1 m.2.2.2.2.2.1 m.2.2.2.2.2.2.1
def fZ:Op→Bool
 |(k,a,c,b,e,r,x,f,g,h,i,j,fc,l,m,n,o,p,v,_)=>
  let q:=decide (a=0∧c=0∧b=0∧e=0∧r=false∧x=0)
  let s:=decide (f=0∧g=0)
  let t:=decide (h=0∧i=0∧j=0∧fc=0∧l=false∧m=0∧n=0∧o=false∧p=0∧v=0)
  if k=1 then gI a c&&decide (0≤x∧x≤1114111∧(x<55296∨57343<x))&&(b==0&&e==0&&r||gI b e)&&s&&t
  else if k=2 then gI f g&&q&&t
  else if k=3 then OC (h,i,j,fc,l,m,n,o,p,v,())&&q&&s
  else false
def bn(b:Bool):BL:=vn (if b then 1 else 0)
def Ka:Op→BL
 |(k,a,c,b,e,r,x,f,g,h,i,j,fc,l,m,n,o,p,v,_)=>
  vn k++(if k=1 then vn a++vn c++vn b++vn e++bn r++vn x
  else if k=2 then vn f++vn g
  else if k=3 then vn h++vn i++vn j++vn fc++bn l++vn m++vn n++bn o++vn p++vn v else[])
def ej(l:List Op):BL:=vn l.length++fl Ka l
def Gx:Ct:=⟨1,⟨[(0,true,[.d cO])],[]⟩,[⟨[sL 0],[]⟩],λ((a,c,_),_)=>one True (gI a c,())⟩
abbrev vh(v:Bool×Unit):aN Gx.out:=⟨0,v⟩
def OD:bu:=(156,[Gx])::OA
theorem ZL:KK OD:=kA ZJ (cv Gx 0) (∀(a:Fk)(Q:aN Gx.out→Prop),(Ct.spec Gx (a,())).sat Q→Br (decide (0≤a.1)) (Br (decide (a.1<5)) (Br (decide (1≤a.2.1)) (Q (vh (decide (a.2.1≤1099511627776),()))) (Q (vh (false,())))) (Q (vh (false,())))) (Q (vh (false,())))) (by kernel_rfl) (by
 unfold Br;rintro⟨a,c,⟨⟩⟩ Q ⟨_,b⟩;dsimp only at*;have f:∀y:Bool,gI a c=y→Q ⟨0,(y,())⟩:=λy e=>by rw[←e];exact b
 clear b
 (repeat' (first|apply bQ|intro _))<;>(try simp only[ah,aj,aQ,ax,ne_eq,aO,aJ,bX,bR]at*)<;>first
  |assumption
  |(exact f _ (by clear f;grind[gI]))
  |omega)
def Gy:Ct:=⟨1,⟨[(0,true,[.d cO])],[]⟩,[⟨[sL 0],[]⟩],λ((a,c,_),_)=>one True (S1 a c,())⟩
abbrev rx(v:Bool×Unit):aN Gy.out:=⟨0,v⟩
def OE:bu:=(175,[Gy])::OD
theorem ZM:KK OE:=kA ZL (cv Gy 0) (∀(a:Fk)(Q:aN Gy.out→Prop),let z:=a.1==0&&a.2.1==0;(Ct.spec Gy (a,())).sat Q→Br z (Q (rx (true,()))) (Br (decide (0≤a.1)) (Br (decide (a.1<5)) (Br (decide (1≤a.2.1)) (Q (rx (decide (a.2.1≤1099511627776),()))) (Q (rx (false,())))) (Q (rx (false,())))) (Q (rx (false,()))))) (by kernel_rfl) (by
 conv=>zeta
 unfold Br;rintro⟨a,c,⟨⟩⟩ Q ⟨_,b⟩;dsimp only at*;have f:∀y:Bool,S1 a c=y→Q ⟨0,(y,())⟩:=λy e=>by rw[←e];exact b
 clear b
 (repeat' (first|apply bQ|intro _))<;>(try simp only[ah,aj,aQ,ax,ne_eq,aO,aJ,bX,bR]at*)<;>first
  |assumption
  |(exact f _ (by clear f;grind[gI,S1]))
  |omega)
def Gz:Ct:=⟨1,⟨[(0,true,[.d eV])],[]⟩,[⟨[sL 0],[]⟩],λ(m,_)=>one True (OC m,())⟩
abbrev jy(v:Bool×Unit):aN Gz.out:=⟨0,v⟩
def OF:bu:=(153,[Gz])::OE
theorem ZN:KK OF:=kA ZM (cv Gz 0) (∀(a:eV.den)(Q:aN Gz.out→Prop),let h:Prop:=a.2.2.2.2.2.2.2.2.2.1≤1099511627776;let c:Prop:=decide (a.2.1<5)=false→Q (jy (false,()));let e:Prop:=a.2.2.2.2.2.2.2.2.1≤4;let f:Prop:=1≤a.2.2.2.2.2.2.2.2.1;let g:Prop:=0≤a.2.2.2.2.2.2.2.2.2.1;let b:Prop:=(decide (a.2.1<5)=true→Q (jy (false,())))∧c;let z:Prop:=Br (decide f) (Br (decide e) (Br (decide g) (Q (jy (false,()))) (Q (jy (false,())))) (Q (jy (false,())))) (Q (jy (false,())));(Ct.spec Gz (a,())).sat Q→Br (decide (1≤a.1)) (Br (decide (a.1≤1099511627776)) (Br (decide (0≤a.2.1)) (Br (decide f) (Br (decide e) (Br (decide g) ((decide (a.2.1<5)=true→Br (decide h) (True∧Br (S1 a.2.2.1 a.2.2.2.1) (True∧Q (jy (S1 a.2.2.2.2.2.1 a.2.2.2.2.2.2.1,()))) (Q (jy (false,())))) (Q (jy (false,()))))∧c) b) b) b) z) z) z) (by kernel_rfl) (by
 conv=>zeta
 unfold Br;rintro⟨c,f,g,fc,h,i,j,l,m,v,⟨⟩⟩ Q ⟨_,a⟩;dsimp only at*;have b:∀y:Bool,OC (c,f,g,fc,h,i,j,l,m,v,())=y→Q ⟨0,(y,())⟩:=λy e=>by rw[←e];exact a
 clear a
 (repeat' (first|apply bQ|intro _))<;>(try simp only[ah,aj,aQ,ax,ne_eq,aO,aJ,bX,bR]at*)<;>first
  |assumption
  |(exact b _ (by clear b;grind[OC]))
  |omega
  |exact trivial)
def sH:eR→Bool
 |(a,c,b,e,r,x,_)=>gI a c&&decide (0≤x∧x≤1114111∧(x<55296∨57343<x))&&(b==0&&e==0&&r||gI b e)
def GA:Ct:=⟨1,⟨[(0,true,[.d ou])],[]⟩,[⟨[sL 0],[]⟩],λ(i,_)=>one True (sH i,())⟩
abbrev ry(v:Bool×Unit):aN GA.out:=⟨0,v⟩
def OG:bu:=(155,[GA])::OF
theorem ZO:KK OG:=kA ZN (cv GA 0) (∀(a:eR)(Q:aN GA.out→Prop),let f:=a.2.2.1==0&&a.2.2.2.1==0;let c:Prop:=True∧Q (ry (gI a.2.2.1 a.2.2.2.1,()));let b:Prop:=gI a.1 a.2.1=false→Q (ry (false,()));let e:Prop:=True∧(gI a.1 a.2.1=true→Q (ry (false,())))∧b;let z:Prop:=Br f (Br (a.2.2.2.2.1) (Q (ry (true,()))) c) c;(Ct.spec GA (a,())).sat Q→Br (decide (0≤a.2.2.2.2.2.1)) (Br (decide (a.2.2.2.2.2.1≤1114111)) (Br (decide (a.2.2.2.2.2.1<55296)) (True∧(gI a.1 a.2.1=true→z)∧b) (True∧(gI a.1 a.2.1=true→Br (decide (57343<a.2.2.2.2.2.1)) z (Q (ry (false,()))))∧b)) e) e) (by kernel_rfl) (by
 conv=>zeta
 unfold Br;rintro⟨a,c,g,h,r,x,⟨⟩⟩ Q ⟨_,b⟩;dsimp only at*;have f:∀y:Bool,sH (a,c,g,h,r,x,())=y→Q ⟨0,(y,())⟩:=λy e=>by rw[←e];exact b
 clear b
 (repeat' (first|apply bQ|intro _))<;>(try simp only[ah,aj,aQ,ax,ne_eq,aO,aJ,bX,bR]at*)<;>first
  |assumption
  |(exact f _ (by clear f;grind[sH]))
  |omega
  |exact trivial)
def GB:Ct:=⟨1,⟨[(0,true,[.d jV])],[]⟩,[⟨[sL 0],[]⟩],λ(o,_)=>one True (fZ o,())⟩
abbrev mz(v:Bool×Unit):aN GB.out:=⟨0,v⟩
def OH:bu:=(116,[GB])::OG
theorem ZP:KK OH:=kA ZO (cv GB 0) (∀(a:Op)(Q:aN GB.out→Prop),let b:=(a.2.1,a.2.2.1,a.2.2.2.1,a.2.2.2.2.1,a.2.2.2.2.2.1,a.2.2.2.2.2.2.1,());let z:=a.2.2.2.2.2.2.2.2.2.1==0&&(a.2.2.2.2.2.2.2.2.2.2.1==0&&(a.2.2.2.2.2.2.2.2.2.2.2.1==0&&(a.2.2.2.2.2.2.2.2.2.2.2.2.1==0&&(a.2.2.2.2.2.2.2.2.2.2.2.2.2.1==false&&(a.2.2.2.2.2.2.2.2.2.2.2.2.2.2.1==0&&(a.2.2.2.2.2.2.2.2.2.2.2.2.2.2.2.1==0&&(a.2.2.2.2.2.2.2.2.2.2.2.2.2.2.2.2.1==false&&(a.2.2.2.2.2.2.2.2.2.2.2.2.2.2.2.2.2.1==0&&a.2.2.2.2.2.2.2.2.2.2.2.2.2.2.2.2.2.2.1==0))))))));(Ct.spec GB (a,())).sat Q→Br (a.1==1) (True∧Br (sH b) (Q (mz (a.1==a.1&&(a.2.1==a.2.1&&(a.2.2.1==a.2.2.1&&(a.2.2.2.1==a.2.2.2.1&&(a.2.2.2.2.1==a.2.2.2.2.1&&(a.2.2.2.2.2.1==a.2.2.2.2.2.1&&(a.2.2.2.2.2.2.1==a.2.2.2.2.2.2.1&&(a.2.2.2.2.2.2.2.1==0&&(a.2.2.2.2.2.2.2.2.1==0&&z)))))))),()))) (Q (mz (false,())))) (Br (a.1==2) (True∧Br (gI a.2.2.2.2.2.2.2.1 a.2.2.2.2.2.2.2.2.1) (Q (mz (a.1==a.1&&(a.2.1==0&&(a.2.2.1==0&&(a.2.2.2.1==0&&(a.2.2.2.2.1==0&&(a.2.2.2.2.2.1==false&&(a.2.2.2.2.2.2.1==0&&(a.2.2.2.2.2.2.2.1==a.2.2.2.2.2.2.2.1&&(a.2.2.2.2.2.2.2.2.1==a.2.2.2.2.2.2.2.2.1&&z)))))))),()))) (Q (mz (false,())))) (Br (a.1==3) (True∧Br (OC a.2.2.2.2.2.2.2.2.2) (Q (mz (a.1==a.1&&(a.2.1==0&&(a.2.2.1==0&&(a.2.2.2.1==0&&(a.2.2.2.2.1==0&&(a.2.2.2.2.2.1==false&&(a.2.2.2.2.2.2.1==0&&(a.2.2.2.2.2.2.2.1==0&&(a.2.2.2.2.2.2.2.2.1==0&&(a.2.2.2.2.2.2.2.2.2.1==a.2.2.2.2.2.2.2.2.2.1&&(a.2.2.2.2.2.2.2.2.2.2.1==a.2.2.2.2.2.2.2.2.2.2.1&&(a.2.2.2.2.2.2.2.2.2.2.2.1==a.2.2.2.2.2.2.2.2.2.2.2.1&&(a.2.2.2.2.2.2.2.2.2.2.2.2.1==a.2.2.2.2.2.2.2.2.2.2.2.2.1&&(a.2.2.2.2.2.2.2.2.2.2.2.2.2.1==a.2.2.2.2.2.2.2.2.2.2.2.2.2.1&&(a.2.2.2.2.2.2.2.2.2.2.2.2.2.2.1==a.2.2.2.2.2.2.2.2.2.2.2.2.2.2.1&&(a.2.2.2.2.2.2.2.2.2.2.2.2.2.2.2.1==a.2.2.2.2.2.2.2.2.2.2.2.2.2.2.2.1&&(a.2.2.2.2.2.2.2.2.2.2.2.2.2.2.2.2.1==a.2.2.2.2.2.2.2.2.2.2.2.2.2.2.2.2.1&&(a.2.2.2.2.2.2.2.2.2.2.2.2.2.2.2.2.2.1==a.2.2.2.2.2.2.2.2.2.2.2.2.2.2.2.2.2.1&&a.2.2.2.2.2.2.2.2.2.2.2.2.2.2.2.2.2.2.1==a.2.2.2.2.2.2.2.2.2.2.2.2.2.2.2.2.2.2.1))))))))))))))))),()))) (Q (mz (false,())))) (Q (mz (false,())))))) (by kernel_rfl) (by
 conv=>zeta
 unfold Br;rintro⟨k,a,c,g,h,r,x,i,j,l,m,n,fc,o,p,q,s,t,v,⟨⟩⟩ Q ⟨_,b⟩;dsimp only at*;have f:∀y:Bool,fZ (k,a,c,g,h,r,x,i,j,l,m,n,fc,o,p,q,s,t,v,())=y→Q ⟨0,(y,())⟩:=λy e=>by rw[←e];exact b
 clear b
 (repeat' (first|apply bQ|intro _))<;>(try simp only[ah,aj,aQ,ax,ne_eq,aO,aJ,bX,bR]at*)<;>first
  |assumption
  |(exact f _ (by clear f;grind[fZ,sH]))
  |omega
  |exact trivial)
def C0:Ct:=⟨2,⟨[sB 0,(1,false,[.d (.sl .i64)])],[]⟩,[⟨[(0,false,[.d tB])],[]⟩],λ(b,l,_)=>one (b.length+7*l.length≤1000000000) (b++fl vn l,())⟩
def ZQ:cc:=⟨[sB 0,(7,false,[.d (.sl .i64)]),sI 8,sI 9],[]⟩
def LA(x:C0.inp.den)(y:ZQ.den):Prop:=match x,y with
 |(c,a,_),(b,l,n,i,_)=>l=a∧n=a.length∧∃k:Nat,i=k∧k≤a.length∧b=c++fl vn (a.take k)
def a4u(x:C0.inp.den):dG:=⟨[(2,bM ZQ (LA x) λ(_,_,n,i,_)=>(n-i).toNat)],[],[],[],0⟩
theorem GC{α:Type}(f:α→BL)(l m:List α):fl f (l++m)=fl f l++fl f m:=by simp[fl]
theorem GD{α:Type}{f:α→BL}{n:Nat}(h:∀x,(f x).length≤n)(l:List α):(fl f l).length≤n*l.length:=by
 induction l with
 |nil=>simp[fl]
 |cons x l a=>have:=h x;simp only[fl,aX,List.flatten_cons,aa,bd]at*;rw[Nat.mul_succ];omega
abbrev S2(v:BL×Unit):aN C0.out:=⟨0,v⟩
def OI:bu:=(159,[C0])::OH
theorem ZR:KK OI:=kA ZP a4u (∀(d:BL)(b:List Int)(Q:aN C0.out→Prop),(Ct.spec C0 (d,b,())).sat Q→Is (LA (d,b,()) (d,b,(↑b.length:Int),0,()))∧∀(e:BL)(f:List Int)(c a:Int),LA (d,b,()) (e,f,c,a,())→Br (decide (a<c)) ((0≤a∧a<(↑f.length:Int))∧e.length≤1099511627776∧ae (a+1)∧Is (LA (d,b,()) (e++vn (f.getD a.toNat 0),f,c,a+1,())∧(c-(a+1)).toNat<(c-a).toNat)) (Q (S2 (e,())))) (by kernel_rfl) (by
 unfold Br;rintro b l Q ⟨j,g⟩;refine⟨⟨rfl,rfl,0,rfl,aq _,by simp[fl]⟩,?_⟩;rintro m f n i ⟨rfl,rfl,k,rfl,o,rfl⟩;have h:=GD bz (f.take k);rw[bi]at h;refine⟨λc=>?_,λe=>?_⟩
 ·have a:k<f.length:=by simp only[ah]at c;omega
  refine⟨by omega,by rw[aa];omega,by unfold ae;omega,⟨rfl,rfl,k+1,rfl,a,?_⟩,by omega⟩;rw[show((k:Int).toNat)=k by omega,cK (z:=(0:Int)) a,GC,ay];simp[fl]
 ·simp only[aj]at e;rw[ba (by omega)];exact g)
theorem fl2(a b:Int):fl vn [a,b]=vn a++vn b:=by simp[fl]
theorem fl4(a b c d:Int):fl vn [a,b,c,d]=vn a++vn b++vn c++vn d:=by simp[fl]
abbrev tAn:Ty:= .pr .i64 (.pr .i64 (.pr .bl .un))
def GF(a c:Int)(b:Bool):BL:=vn a++vn c++bn b
def GG:Ct:=⟨2,⟨[sB 0,(1,true,[.d tAn])],[]⟩,[⟨[(0,false,[.d tB])],[]⟩],λ(b,(a,c,h,_),_)=>one (b.length+14≤1000000000) (b++GF a c h,())⟩
abbrev S3(v:BL×Unit):aN GG.out:=⟨0,v⟩
def OJ:bu:=(160,[GG])::OI
theorem ZS:KK OJ:=kA ZR (cv GG 0) (∀(b:BL)(a:Int×Int×Bool×Unit)(Q:aN GG.out→Prop),(Ct.spec GG (b,a,())).sat Q→b.length+7*2≤1000000000∧(b++fl vn [a.1,a.2.1]).length≤1099511627776∧Q (S3 (b++fl vn [a.1,a.2.1]++vn (if a.2.2.1=true then 1 else 0),()))) (by kernel_rfl) (by
 rintro b ⟨a,c,h,⟨⟩⟩ Q ⟨i,f⟩;dsimp only at*;have g:∀y:BL,y=b++GF a c h→Q ⟨0,(y,())⟩:=λy e=>by rw[e];exact f
 have j:=bz a;have l:=bz c;rw[fl2];simp only[aa];refine⟨by omega,by omega,g _ ?_⟩;simp only[GF,bn,ay])
def Bb(o:Op):Prop:=ae o.2.2.2.2.2.2.1
def C3:Ct:=⟨2,⟨[sB 0,(1,false,[.d (.sl jV)])],[]⟩,[⟨[(0,false,[.d tB])],[]⟩],λ(b,l,_)=>one (b.length+100*l.length≤1000000000∧∀o∈l,Bb o) (b++ej l,())⟩
def ZT:cc:=⟨[sB 0,(13,false,[.d (.sl jV)]),sI 14,sI 15],[]⟩
def vi(x:C3.inp.den)(y:ZT.den):Prop:=match x,y with
 |(c,a,_),(b,l,n,i,_)=>l=a∧n=a.length∧∃k:Nat,i=k∧k≤a.length∧b=c++(vn a.length++fl Ka (a.take k))
def a4v(x:C3.inp.den):dG:=⟨[(3,bM ZT (vi x) λ(_,_,n,i,_)=>(n-i).toNat)],[],[],[],0⟩
def Bc:Op:=(0,0,0,0,0,false,0,0,0,0,0,0,0,false,0,0,false,0,0,())
theorem GH(b:Bool):(bn b).length≤7:=bz _
theorem LB(o:Op):(Ka o).length≤77:=by
 obtain⟨k,a,c,e,f,r,x,g,i,j,l,m,fc,n,p,q,s,t,v,⟨⟩⟩:=o;have h:=bz;have b:=GH;unfold Ka;dsimp only;have u:=h k;split
 ·have:=h a;have:=h c;have:=h e;have:=h f;have:=b r;have:=h x;simp only[aa];omega
 split
 ·have:=h g;have:=h i;simp only[aa];omega
 split
 ·have:=h j;have:=h l;have:=h m;have:=h fc;have:=b n;have:=h p;have:=h q;have:=b s;have:=h t;have:=h v;simp only[aa];omega
 ·simp only[aa,cX];omega
abbrev S4(v:BL×Unit):aN C3.out:=⟨0,v⟩
def OK:bu:=(119,[C3])::OJ
theorem ZU:KK OK:=kA ZS a4v (∀(f:BL)(e:List Op)(Q:aN C3.out→Prop),(Ct.spec C3 (f,e,())).sat Q→f.length≤1099511627776∧Is (vi (f,e,()) (f++vn (↑e.length:Int),e,(↑e.length:Int),0,()))∧∀(c:BL)(b:List Op)(d a:Int),let g:Prop:=(d-(a+1)).toNat<(d-a).toNat;let z:=b.getD a.toNat (0,0,0,0,0,false,0,0,0,0,0,0,0,false,0,0,false,0,0,());vi (f,e,()) (c,b,d,a,())→Br (decide (a<d)) ((0≤a∧a<(↑b.length:Int))∧c.length≤1099511627776∧Br (z.1==1) ((c++vn z.1).length+7*4≤1000000000∧(c++vn z.1++fl vn [z.2.1,z.2.2.1,z.2.2.2.1,z.2.2.2.2.1]).length≤1099511627776∧ae z.2.2.2.2.2.2.1∧(c++vn z.1++fl vn [z.2.1,z.2.2.1,z.2.2.2.1,z.2.2.2.2.1]++vn (if z.2.2.2.2.2.1=true then 1 else 0)).length≤1099511627776∧ae (a+1)∧Is (vi (f,e,()) (c++vn z.1++fl vn [z.2.1,z.2.2.1,z.2.2.2.1,z.2.2.2.2.1]++vn (if z.2.2.2.2.2.1=true then 1 else 0)++vn z.2.2.2.2.2.2.1,b,d,a+1,())∧g)) (Br (z.1==2) ((c++vn z.1).length+7*2≤1000000000∧ae (a+1)∧Is (vi (f,e,()) (c++vn z.1++fl vn [z.2.2.2.2.2.2.2.1,z.2.2.2.2.2.2.2.2.1],b,d,a+1,())∧g)) (Br (z.1==3) ((c++vn z.1).length+7*2≤1000000000∧(c++vn z.1++fl vn [z.2.2.2.2.2.2.2.2.2.1,z.2.2.2.2.2.2.2.2.2.2.1]).length+14≤1000000000∧(c++vn z.1++fl vn [z.2.2.2.2.2.2.2.2.2.1,z.2.2.2.2.2.2.2.2.2.2.1]++GF z.2.2.2.2.2.2.2.2.2.2.2.1 z.2.2.2.2.2.2.2.2.2.2.2.2.1 z.2.2.2.2.2.2.2.2.2.2.2.2.2.1).length+14≤1000000000∧(c++vn z.1++fl vn [z.2.2.2.2.2.2.2.2.2.1,z.2.2.2.2.2.2.2.2.2.2.1]++GF z.2.2.2.2.2.2.2.2.2.2.2.1 z.2.2.2.2.2.2.2.2.2.2.2.2.1 z.2.2.2.2.2.2.2.2.2.2.2.2.2.1++GF z.2.2.2.2.2.2.2.2.2.2.2.2.2.2.1 z.2.2.2.2.2.2.2.2.2.2.2.2.2.2.2.1 z.2.2.2.2.2.2.2.2.2.2.2.2.2.2.2.2.1).length+7*2≤1000000000∧ae (a+1)∧Is (vi (f,e,()) (c++vn z.1++fl vn [z.2.2.2.2.2.2.2.2.2.1,z.2.2.2.2.2.2.2.2.2.2.1]++GF z.2.2.2.2.2.2.2.2.2.2.2.1 z.2.2.2.2.2.2.2.2.2.2.2.2.1 z.2.2.2.2.2.2.2.2.2.2.2.2.2.1++GF z.2.2.2.2.2.2.2.2.2.2.2.2.2.2.1 z.2.2.2.2.2.2.2.2.2.2.2.2.2.2.2.1 z.2.2.2.2.2.2.2.2.2.2.2.2.2.2.2.2.1++fl vn [z.2.2.2.2.2.2.2.2.2.2.2.2.2.2.2.2.2.1,z.2.2.2.2.2.2.2.2.2.2.2.2.2.2.2.2.2.2.1],b,d,a+1,())∧g)) (ae (a+1)∧Is (vi (f,e,()) (c++vn z.1,b,d,a+1,())∧g))))) (Q (S4 (c,())))) (by kernel_rfl) (by
 conv=>zeta
 unfold Br;rintro b l Q ⟨⟨h1,G⟩,H⟩;have v0:=bz l.length;refine⟨by omega,⟨rfl,rfl,0,rfl,aq _,by simp[fl]⟩,?_⟩;rintro b1 f n i ⟨rfl,rfl,k,rfl,hk,rfl⟩;have J:=GD LB (f.take k);rw[bi]at J;refine⟨λC=>?_,λD=>?_⟩
 ·have j:k<f.length:=by simp only[ah]at C;omega
  rw[show((k:Int).toNat)=k by omega];have E:=G _ (aT (z:=Bc) j);have K:vi (b,f,()) (b++(vn f.length++fl Ka (f.take k))++Ka (f.getD k Bc),f,(f.length:Int),(k:Int)+1,()):=⟨rfl,rfl,k+1,rfl,j,by rw[cK (z:=Bc) j,GC];simp[fl]⟩;have hL:(b++(vn f.length++fl Ka (f.take k))).length≤999999910:=by simp only[aa];omega
  have L:(0,0,0,0,0,false,0,0,0,0,0,0,0,false,0,0,false,0,0,())=Bc:=rfl;rw[L];generalize f.getD k Bc=o at*;obtain⟨M,a,c,N,O,r,x,P,R,S,U,W,fc,X,Y,tc,tb,nm,v,⟨⟩⟩:=o;generalize b++(vn f.length++fl Ka (f.take k))=z at*;have w:ae ((k:Int)+1):=by unfold ae;omega
  have A:((f.length:Int)-((k:Int)+1)).toNat<((f.length:Int)-(k:Int)).toNat:=by omega
  clear J h1 H G L;have E:ae x:=E;dsimp only;have h:=bz;have g:=GH;have h0:=h M;have m:∀y,y=z++Ka (M,a,c,N,O,r,x,P,R,S,U,W,fc,X,Y,tc,tb,nm,v,())→vi (b,f,()) (y,f,(f.length:Int),(k:Int)+1,()):=λy e=>by rw[e];exact K
  clear K;unfold Ka at m;simp only[fl2,fl4,aQ,ax,ne_eq,aa];have e1:=h a;have e2:=h c;have e3:=h N;have e4:=h O;have e5:=g r;have e6:=h x;have e7:=h P;have e8:=h R;have e9:=h S;have a0:=h U;have t:∀p q s,(GF p q s).length≤21:=λp q s=>by have:=h p;have:=h q;have:=g s;unfold GF;simp only[aa];omega
  have a1:=t W fc X;have a2:=t Y tc tb;have a3:=h nm;have a4:=h v;unfold bn at e5;refine⟨by omega,by omega,λu=>⟨by omega,by omega,E,by omega,w,m _ ?_,A⟩,λu=>⟨λB=>⟨by omega,w,m _ ?_,A⟩,λB=>⟨λF=>?_,λF=>?_⟩⟩⟩
  ·dsimp only;rw[an u];simp only[bn,ay]
  ·dsimp only;rw[ag u,an B];simp only[ay]
  ·refine⟨by omega,by omega,by omega,by omega,w,m _ ?_,A⟩;dsimp only;rw[ag u,ag B,an F];simp only[GF,ay]
  ·exact⟨w,m _ (by dsimp only;rw[ag u,ag B,ag F,bj]),A⟩
 ·simp only[aj]at D;rw[ba (by omega)];exact H)
def sJ(b:BL)(m:Bool)(s:Rs):ID×Rs:=lk b<|
 let a:=cR b s.1 m s.2 0 4
 let c:=cR b a.2.1 m a.2.2 0 1099511627776
 ((a.1,c.1,()),c.2)
def GI:Ct:=⟨1,⟨[sP 0],rH⟩,[⟨[(0,true,[.d cO])],rH⟩],λ(b,a,m,e,_)=>du (bP b a) (sJ b m (a,e)) λy=>(y.1,b,y.2.1,m,y.2.2,())⟩
abbrev S5(v:Fk×BL×Int×Bool×Int×Unit):aN GI.out:=⟨0,v⟩
def OL:bu:=(220,[GI])::OK
theorem ZV:KK OL:=kA ZU (cv GI 0) (∀(a:BL)(e:Int)(d:Bool)(f:Int)(Q:aN GI.out→Prop),(Ct.spec GI (a,e,d,f,())).sat Q→bP a e∧∀(b:Int×Int×Int),b=cR a e d f 0 4→bP a b.2.1∧∀(c:Int×Int×Int),c=cR a b.2.1 d b.2.2 0 1099511627776→Q (S5 ((b.1,c.1,()),a,c.2.1,d,c.2.2,()))) (by kernel_rfl) (by
 intro b a m e Q ⟨g,i⟩;have f:∀y,sJ b m (a,e)=y→Q ⟨0,(y.1,b,y.2.1,m,y.2.2,())⟩:=λy h=>i y h.symm;clear i;unfold sJ at f;rw[ck]at f;refine⟨g,λk j=>⟨?_,λc n=>?_⟩⟩
 ·rw[j];exact(eD m e 0 4 g).1
 ·subst n j;exact f _ rfl) (l:=λ_=>bm)
theorem S6{b:BL}{a:Int}(m:Bool)(e:Int)(h:bP b a):bP b (sJ b m (a,e)).2.1:=by
 unfold sJ;rw[ck];exact(eD m _ 0 1099511627776 (eD m e 0 4 h).1).1
def yd(b:BL)(m:Bool)(s:Rs):tAn.den×Rs:=lk b<|
 let i:=sJ b m s
 let f:=cR b i.2.1 m i.2.2 0 1
 ((i.1.1,i.1.2.1,f.1==1,()),f.2)
def GJ:Ct:=⟨1,⟨[sP 0],rH⟩,[⟨[(0,true,[.d tAn])],rH⟩],λ(b,a,m,e,_)=>du (bP b a) (yd b m (a,e)) λy=>(y.1,b,y.2.1,m,y.2.2,())⟩
abbrev S7(v:(Int×Int×Bool×Unit)×BL×Int×Bool×Int×Unit):aN GJ.out:=⟨0,v⟩
def OM:bu:=(222,[GJ])::OL
theorem ZW:KK OM:=kA ZV (cv GJ 0) (∀(a:BL)(d:Int)(c:Bool)(e:Int)(Q:aN GJ.out→Prop),(Ct.spec GJ (a,d,c,e,())).sat Q→bP a d∧∀(b:Fk×Int×Int),let z:=cR a b.2.1 c b.2.2 0 1;b=sJ a c (d,e)→bP a b.2.1∧Q (S7 ((b.1.1,b.1.2.1,z.1==1,()),a,z.2.1,c,z.2.2,()))) (by kernel_rfl) (by
 conv=>zeta
 intro b a m e Q ⟨f,g⟩;have c:∀y,yd b m (a,e)=y→Q ⟨0,(y.1,b,y.2.1,m,y.2.2,())⟩:=λy h=>g y h.symm;clear g;unfold yd at c;rw[ck]at c;refine⟨f,λk i=>⟨?_,?_⟩⟩
 ·rw[i];exact S6 m e f
 ·subst i;exact c _ rfl) (l:=λ_=>bm)
def zk(b:BL)(m:Bool)(s:Rs):Op×Rs:=
 let k:=cR b s.1 m s.2 1 3
 if k.1=1 then
  let i:=sJ b m k.2
  let p:=sJ b m i.2
  let f:=cR b p.2.1 m p.2.2 0 1
  let x:=cR b f.2.1 m f.2.2 0 1114111
  ((k.1,i.1.1,i.1.2.1,p.1.1,p.1.2.1,f.1==1,IntKind.i32.wrap x.1,0,0,0,0,0,0,false,0,0,false,0,0,()),x.2)
 else if k.1=2 then
  let i:=sJ b m k.2
  ((k.1,0,0,0,0,false,0,i.1.1,i.1.2.1,0,0,0,0,false,0,0,false,0,0,()),i.2)
 else if k.1=3 then
  let c:=cR b k.2.1 m k.2.2 0 1099511627776
  let u:=cR b c.2.1 m c.2.2 0 4
  let f:=yd b m u.2
  let t:=yd b m f.2
  let n:=cR b t.2.1 m t.2.2 0 1099511627776
  let v:=cR b n.2.1 m n.2.2 0 1099511627776
  ((k.1,0,0,0,0,false,0,0,0,c.1,u.1,f.1.1,f.1.2.1,f.1.2.2.1,t.1.1,t.1.2.1,t.1.2.2.1,n.1,v.1,()),v.2)
 else((k.1,0,0,0,0,false,0,0,0,0,0,0,0,false,0,0,false,0,0,()),k.2)
def C4(b:BL)(m:Bool)(s:Rs):Op×Rs:=lk b<|
 let x:=zk b m s
 (x.1,x.2.1,if fZ x.1=true then x.2.2 else if(m&&x.2.2==0)=true then 5 else x.2.2)
theorem anA{b:BL}{a:Int}(m:Bool)(e:Int)(h:bP b a):bP b (yd b m (a,e)).2.1:=by
 unfold yd;rw[ck];exact(eD m _ 0 1 (S6 m e h)).1
theorem a4w{b:BL}{a:Int}(m:Bool)(e:Int)(h:bP b a):bP b (zk b m (a,e)).2.1:=by
 have c:=(eD m e 1 3 h).1;unfold zk;dsimp only;generalize cR b a m e 1 3=k at*;split
 ·exact(eD m _ 0 1114111 (eD m _ 0 1 (S6 m _ (S6 m _ c))).1).1
 split
 ·exact S6 m _ c
 split
 ·exact(eD m _ 0 1099511627776 (eD m _ 0 1099511627776 (anA m _ (anA m _ (eD m _ 0 4 (eD m _ 0 1099511627776 c).1).1))).1).1
 ·exact c
theorem ZX{b:BL}{a:Int}(m:Bool)(e:Int)(h:bP b a):bP b (C4 b m (a,e)).2.1:=by
 unfold C4;rw[ck];exact a4w m e h
theorem ls{b:BL}{a:Int}{m:Bool}{e lo hi:Int}(h:e≠0):(cR b a m e lo hi).2.2=e:=by
 unfold cR;rw[ag (by simp[h])]
theorem Bd{b:BL}{a:Int}{m:Bool}{e:Int}(h:e≠0):(sJ b m (a,e)).2.2=e:=by
 unfold sJ;rw[ck];have c:(cR b a m e 0 4).2.2=e:=ls h;exact(ls (by rw[c];exact h)).trans c
theorem LC{b:BL}{a:Int}{m:Bool}{e:Int}(h:e≠0):(yd b m (a,e)).2.2=e:=by
 unfold yd;rw[ck];have c:(sJ b m (a,e)).2.2=e:=Bd h;exact(ls (by rw[c];exact h)).trans c
theorem Be{b:BL}{a:Int}{m:Bool}{e:Int}(h:e≠0):(C4 b m (a,e)).2.2=e:=by
 have f:(zk b m (a,e)).2.2=e:=by
  have f:(cR b a m e 1 3).2.2=e:=ls h;unfold zk;dsimp only;generalize cR b a m e 1 3=k at*;have j:k.2.2≠0:=by rw[f];exact h
  have R:∀(s:Rs)(g i:Int),s.2=e→(cR b s.1 m s.2 g i).2.2=e:=λs g i c=>(ls (by rw[c];exact h)).trans c;have D:∀s:Rs,s.2=e→(sJ b m s).2.2=e:=λs c=>(Bd (a:=s.1) (e:=s.2) (by rw[c];exact h)).trans c;have A:∀s:Rs,s.2=e→(yd b m s).2.2=e:=λs c=>(LC (a:=s.1) (e:=s.2) (by rw[c];exact h)).trans c;split
  ·exact R _ _ _ (R _ _ _ (D _ (D _ f)))
  split
  ·exact D _ f
  split
  ·exact R _ _ _ (R _ _ _ (A _ (A _ (R _ _ _ (R _ _ _ f)))))
  ·exact f
 unfold C4;rw[ck];dsimp only;rw[f];split
 ·rfl
 ·rw[ag (by simp[h])]
def GK:Ct:=⟨1,⟨[sP 0],rH⟩,[⟨[(0,true,[.d jV])],rH⟩],λ(b,a,m,e,_)=>du (bP b a) (C4 b m (a,e)) λy=>(y.1,b,y.2.1,m,y.2.2,())⟩
abbrev kN(v:Op×BL×Int×Bool×Int×Unit):aN GK.out:=⟨0,v⟩
def ON:bu:=(215,[GK])::OM
theorem ZY:KK ON:=kA ZW (cv GK 0) (∀(a:BL)(j:Int)(e:Bool)(k:Int)(Q:aN GK.out→Prop),(Ct.spec GK (a,j,e,k,())).sat Q→bP a j∧∀(b:Int×Int×Int),let m:= !fZ (b.1,0,0,0,0,false,0,0,0,0,0,0,0,false,0,0,false,0,0,());b=cR a j e k 1 3→Br (b.1==1) (bP a b.2.1∧∀(c:Fk×Int×Int),c=sJ a e b.2→bP a c.2.1∧∀(d:Fk×Int×Int),let l:=cR a d.2.1 e d.2.2 0 1;d=sJ a e c.2→bP a d.2.1∧bP a l.2.1∧∀(f:Int×Int×Int),let n:= !fZ (b.1,c.1.1,c.1.2.1,d.1.1,d.1.2.1,l.1==1,IntKind.i32.wrap f.1,0,0,0,0,0,0,false,0,0,false,0,0,());f=cR a l.2.1 e l.2.2 0 1114111→True∧Br n (True∧Q (kN ((b.1,c.1.1,c.1.2.1,d.1.1,d.1.2.1,l.1==1,IntKind.i32.wrap f.1,0,0,0,0,0,0,false,0,0,false,0,0,()),a,f.2.1,e,if(e&&f.2.2==0)=true then 5 else f.2.2,()))) (Q (kN ((b.1,c.1.1,c.1.2.1,d.1.1,d.1.2.1,l.1==1,IntKind.i32.wrap f.1,0,0,0,0,0,0,false,0,0,false,0,0,()),a,f.2.1,e,f.2.2,())))) (Br (b.1==2) (bP a b.2.1∧∀(c:Fk×Int×Int),let o:= !fZ (b.1,0,0,0,0,false,0,c.1.1,c.1.2.1,0,0,0,0,false,0,0,false,0,0,());c=sJ a e b.2→True∧Br o (True∧Q (kN ((b.1,0,0,0,0,false,0,c.1.1,c.1.2.1,0,0,0,0,false,0,0,false,0,0,()),a,c.2.1,e,if(e&&c.2.2==0)=true then 5 else c.2.2,()))) (Q (kN ((b.1,0,0,0,0,false,0,c.1.1,c.1.2.1,0,0,0,0,false,0,0,false,0,0,()),a,c.2.1,e,c.2.2,())))) (Br (b.1==3) (bP a b.2.1∧∀(c:Int×Int×Int),c=cR a b.2.1 e b.2.2 0 1099511627776→bP a c.2.1∧∀(d:Int×Int×Int),d=cR a c.2.1 e c.2.2 0 4→bP a d.2.1∧∀(f:(Int×Int×Bool×Unit)×Int×Int),f=yd a e d.2→bP a f.2.1∧∀(g:(Int×Int×Bool×Unit)×Int×Int),g=yd a e f.2→bP a g.2.1∧∀(i:Int×Int×Int),i=cR a g.2.1 e g.2.2 0 1099511627776→bP a i.2.1∧∀(h:Int×Int×Int),let z:=(c.1,d.1,f.1.1,f.1.2.1,f.1.2.2.1,g.1.1,g.1.2.1,g.1.2.2.1,i.1,h.1,());let p:= !fZ (b.1,0,0,0,0,false,0,0,0,z);h=cR a i.2.1 e i.2.2 0 1099511627776→True∧Br p (True∧Q (kN ((b.1,0,0,0,0,false,0,0,0,z),a,h.2.1,e,if(e&&h.2.2==0)=true then 5 else h.2.2,()))) (Q (kN ((b.1,0,0,0,0,false,0,0,0,z),a,h.2.1,e,h.2.2,())))) (True∧Br m (True∧Q (kN ((b.1,0,0,0,0,false,0,0,0,0,0,0,0,false,0,0,false,0,0,()),a,b.2.1,e,if(e&&b.2.2==0)=true then 5 else b.2.2,()))) (Q (kN ((b.1,0,0,0,0,false,0,0,0,0,0,0,0,false,0,0,false,0,0,()),a,b.2.1,e,b.2.2,()))))))) (by kernel_rfl) (by
 conv=>zeta
 unfold Br;intro b a m e Q ⟨E,F⟩;have G:∀y,C4 b m (a,e)=y→Q ⟨0,(y.1,b,y.2.1,m,y.2.2,())⟩:=λy h=>F y h.symm;clear F
 have fin:∀(o:Op)(s:Rs),zk b m (a,e)=(o,s)→True∧((!fZ o)=true→True∧Q ⟨0,(o,b,s.1,m,if(m&&s.2==0)=true then 5 else s.2,())⟩)∧((!fZ o)=false→Q ⟨0,(o,b,s.1,m,s.2,())⟩):=by
  intro o s h
  have N:C4 b m (a,e)=(o,s.1,if fZ o=true then s.2 else if(m&&s.2==0)=true then 5 else s.2):=by
   unfold C4;rw[ck,h]
  have:=G _ N;refine⟨trivial,λg=>⟨trivial,?_⟩,λg=>?_⟩
  ·simp only[aO]at g;rw[g,ag (by decide)]at this;exact this
  ·simp only[aJ]at g;rw[an g]at this;exact this
 clear G;unfold zk at fin;dsimp only at fin;refine⟨E,λk H=>?_⟩;have r:=(eD m e 1 3 E).1;rw[←H]at r fin;clear H;refine⟨λc=>⟨r,λi A=>?_⟩,λc=>⟨λw=>⟨r,λi A=>?_⟩,λw=>⟨λz=>⟨r,λx B=>?_⟩,λz=>?_⟩⟩⟩
 ·have c:=be c;have j:=S6 m k.2.2 r;rw[an c]at fin;rw[show sJ b m k.2=i from A.symm]at fin;rw[show sJ b m (k.2.1,k.2.2)=i from A.symm]at j;refine⟨j,λp J=>?_⟩;have q:=S6 m i.2.2 j;rw[show sJ b m i.2=p from J.symm]at fin;rw[show sJ b m (i.2.1,i.2.2)=p from J.symm]at q;refine⟨q,(eD m _ 0 1 q).1,λx B=>?_⟩;subst B;exact fin _ _ rfl
 ·have w:=be w;subst A;exact fin _ _ (by rw[ag (aA c),an w])
 ·have z:=be z;rw[ag (aA c),ag (aA w),an z]at fin;have j:=(eD m k.2.2 0 1099511627776 r).1;rw[←B]at j fin;refine⟨j,λu O=>?_⟩;have q:=(eD m x.2.2 0 4 j).1;rw[←O]at q fin;refine⟨q,λf K=>?_⟩;have C:=anA m u.2.2 q;rw[show yd b m u.2=f from K.symm]at fin;rw[show yd b m (u.2.1,u.2.2)=f from K.symm]at C;refine⟨C,λt L=>?_⟩;have D:=anA m f.2.2 C;rw[show yd b m f.2=t from L.symm]at fin;rw[show yd b m (f.2.1,f.2.2)=t from L.symm]at D;refine⟨D,λn P=>?_⟩;have M:=(eD m t.2.2 0 1099511627776 D).1;rw[←P]at M fin;refine⟨M,λv R=>?_⟩;subst R;exact fin _ _ rfl
 ·exact fin _ _ (by rw[ag (aA c),ag (aA w),ag (aA z)])) (l:=λ_=>bm)
def zl(b:BL)(a:Int)(m:Bool)(e c:Int)(y:List Op×Int×Int):Prop:=bP b y.2.1∧(y.1.length:Int)≤c∧(b=ej [iC]→a=0→m=true→e=0→c=64→y=([iC],(b.length:Int),0))∧(e≠0→y.2.2=e)
def GL:Ct:=⟨2,⟨[sP 0,sI 1],rH⟩,[⟨[(0,false,[.d (.sl jV)])],rH⟩],λ(c,b,a,m,e,_)=>eO (bP b a∧0≤c∧c≤4096) (zl b a m e c) λy=>(y.1,b,y.2.1,m,y.2.2,())⟩
theorem LD:∀o∈[iC],Bb o:=by
 intro o a;simp at a;subst a;unfold Bb ae;decide
theorem LF{b:BL}{a:Int}(m:Bool)(e:Int){c:Int}(h:bP b a)(h0:0≤c):∃y,zl b a m e c y:=by
 by_cases g:b=ej [iC]∧c=64∧e=0
 ·exact⟨([iC],(b.length:Int),0),by unfold bP at*;dsimp only;omega,by simp;omega,λ_ _ _ _ _=>rfl,λf=>absurd g.2.2 f⟩
 ·exact⟨([],a,e),h,by simp;omega,λi _ _ j l=>absurd ⟨i,l,j⟩ g,λ_=>rfl⟩
def V4(b:BL)(m:Bool):Nat→Rs→List Op→List Op×Rs
 |0,s,a=>(a,s)
 |k+1,s,a=>if(if m then(C4 b m s).2.2 else 5)≠0 then([],(C4 b m s).2)else V4 b m k (C4 b m s).2 (a++[(C4 b m s).1])
def lpF(b:BL)(m:Bool)(s:Rs)(a:Int):List Op×Rs:=V4 b m (cR b s.1 m s.2 0 a).1.toNat (cR b s.1 m s.2 0 a).2 []
def ZZ:cc:=⟨[sP 0,sO 5 1,sI 8,sI 9],rH++[some (.sl jV)]⟩
def LG(x:GL.inp.den)(y:ZZ.den):Prop:=match x,y with
 |(c,f,j,g,h,_),(n,i,b,a,m,e,v,_)=>b=f∧m=g∧bP f a∧∃q k:Nat,n=q∧(q:Int)≤c∧i=k∧k≤q∧v.length=k∧(h≠0→e=h)∧V4 f g (q-k) (a,e) v=lpF f g (j,h) c
def a4x(x:GL.inp.den):dG:=⟨[(3,bM ZZ (LG x) λ(n,i,_)=>(n-i).toNat)],[],[],[],0⟩
theorem Bf:lpF (ej [iC]) true (0,0) 64=([iC],((ej [iC]).length:Int),0):=by kernel_rfl
abbrev zm(v:List Op×BL×Int×Bool×Int×Unit):aN GL.out:=⟨0,v⟩
def OO:bu:=(200,[GL])::ON
theorem Z0:KK OO:=kA ZY a4x (∀(c:Int)(a:BL)(d:Int)(e:Bool)(j:Int)(Q:aN GL.out→Prop),let n:=(c,a,d,e,j,());(Tr.need (bP a d∧0≤c∧c≤4096) (Tr.all (List Op×Int×Int) (zl a d e j c) λy=>Tr.leaf (zm (y.1,a,y.2.1,e,y.2.2,())))).sat Q→bP a d∧∀(b:Int×Int×Int),b=cR a d e j 0 c→Is (LG n (b.1,0,a,b.2.1,e,b.2.2,[],()))∧∀(h f:Int)(i:BL)(k:Int)(g:Bool)(m:Int)(l:List Op),LG n (h,f,i,k,g,m,l,())→Br (decide (f<h)) (bP i k∧∀(b:Op×Int×Int),let z:= !(if g=true then b.2.2 else 5)==0;b=C4 i g (k,m)→(l.length+1)*144≤140737488355328∧True∧Br z (Q (zm ([],i,b.2.1,g,b.2.2,()))) (ae (f+1)∧Is (LG n (h,f+1,i,b.2.1,g,b.2.2,l++[b.1],())∧(h-(f+1)).toNat<(h-f).toNat))) (Q (zm (l,i,k,g,m,())))) (by kernel_rfl) (by
 conv=>zeta
 unfold Br;intro most b a m e Q ⟨⟨h1,h2,h3⟩,hQ⟩;have hq:∀(l:List Op)(a' e':Int),zl b a m e most (l,a',e')→Q ⟨0,(l,b,a',m,e',())⟩:=λl a' e' h=>hQ (l,a',e') h;clear hQ;have hn:=eD m e 0 most h1;refine⟨h1,λn hn'=>⟨?_,?_⟩⟩
 ·subst hn';refine⟨rfl,rfl,hn.1,(cR b a m e 0 most).1.toNat,0,(pm hn.2.2.1).symm,by have:=hn.2.2.2;have:=pm hn.2.2.1;omega,rfl,aq _,rfl,λh=>ls h,rfl⟩
 clear hn';intro n i b1 a1 m1 e1 v ⟨g1,g2,g3,q,k,g4,hm,g5,hk,g6,g7,g8⟩;subst g1 g2 g4 g5
 have tiny:∀l:List Op,lpF b1 m1 (a,e) most=(l,(a1,e1))→(b1=ej [iC]→a=0→m1=true→e=0→most=64→(l,a1,e1)=([iC],(b1.length:Int),0)):=by
  intro l hl h1 h2 h3 h4 h5;subst h1 h2 h3 h4 h5;rw[Bf]at hl;exact hl.symm
 refine⟨λhlt=>?_,λhge=>?_⟩
 ·have hkq:k<q:=by simp only[ah]at hlt;omega
  refine⟨g3,λo ho=>⟨by omega,trivial,λc=>?_,λc=>?_⟩⟩
  ·have hr:=ZX m1 e1 g3;rw[←ho]at hr;obtain⟨j,hj⟩:∃j,q-k=j+1:=⟨q-k-1,by omega⟩;rw[hj]at g8;simp only[V4]at g8;rw[←ho,an (by simp only[aO]at c;intro h;rw[h]at c;cases c)]at g8;refine hq _ _ _ ⟨hr,by simp;omega,λx1 x2 x3 x4 x5=>?_,λhe=>?_⟩
   ·subst x1 x2 x3 x4 x5;rw[Bf]at g8;exact absurd (aI Prod.fst g8) (by simp)
   ·rw[ho];have:=Be (b:=b1) (a:=a1) (m:=m1) (e:=e1) (by rw[g7 he];exact he);rw[this];exact g7 he
  ·have hr:=ZX m1 e1 g3;rw[←ho]at hr;obtain⟨j,hj⟩:∃j,q-k=j+1:=⟨q-k-1,by omega⟩;rw[hj]at g8;simp only[V4]at g8;rw[←ho,ag (by simp only[aJ]at c;intro h;exact h (be c))]at g8;refine⟨by unfold ae;omega,⟨rfl,rfl,hr,q,k+1,rfl,hm,rfl,hkq,by simp;omega,λhe=>?_,?_⟩,by omega⟩
   ·rw[ho];have:=Be (b:=b1) (a:=a1) (m:=m1) (e:=e1) (by rw[g7 he];exact he);rw[this];exact g7 he
   ·rw[show q-(k+1)=j by omega];exact g8
 ·have hkq:q-k=0:=by simp only[aj]at hge;omega
  rw[hkq]at g8;simp only[V4]at g8;exact hq _ _ _ ⟨g3,by show(v.length:Int)≤most;omega,tiny v g8.symm,g7⟩) (l:=λ_=>aR λh=>LF _ _ h.1 h.2.1)
def jz:Nd:=(0,0,0,false,[[],[]],())
def LH(j:Nat):List (Option CP):=[some (.cells [.mp (j+1), .d .i64]),some (.mp cO gP)]
abbrev ga:=List (ID×Nd)
def GM:Ct:=⟨0,⟨[],[]⟩,[⟨[sP 0],LH 0⟩],λ_=>one True (0,[(sa,jz)],())⟩
abbrev S8(v:Int×List (Fk×gP.den)×Unit):aN GM.out:=⟨0,v⟩
def OP:bu:=(103,[GM])::OO
theorem Z1:KK OP:=kA Z0 (cv GM 0) (∀(Q:aN GM.out→Prop),(Ct.spec GM ()).sat Q→Q (S8 (0,dy (Ty.i64.pr (Ty.i64.pr Ty.un)) (0,0,()) (0,0,0,false,[[],[]],()) [],()))) (by kernel_rfl) (by
 intro Q ⟨_,a⟩;exact a)
def GN:Ct:=⟨0,⟨[],[]⟩,[⟨[sP 0],[some (.cells [.d (.sl eV)])]⟩],λ_=>one True ([],())⟩
abbrev S9(v:List eV.den×Unit):aN GN.out:=⟨0,v⟩
def OQ:bu:=(104,[GN])::OP
theorem Z2:KK OQ:=kA Z1 (cv GN 0) (∀(Q:aN GN.out→Prop),(Ct.spec GN ()).sat Q→Q (S9 ([],()))) (by kernel_rfl) (by
 intro Q ⟨_,a⟩;exact a)
def GO:Ct:=⟨0,⟨[],[]⟩,[⟨[sP 0],Gw 0⟩],λ_=>one True ([],[],[],0,[(sa,jz)],[],())⟩
abbrev Ta(v:List (Fk×eR)×List (Fk×Int)×List eR×Int×List (Fk×gP.den)×List eV.den×Unit):aN GO.out:=⟨0,v⟩
def OR:bu:=(69,[GO])::OQ
theorem Z3:KK OR:=kA Z2 (cv GO 0) (∀(Q:aN GO.out→Prop),(Ct.spec GO ()).sat Q→True∧True∧Q (Ta ([],[],[],0,[((0,0,()),0,0,0,false,[[],[]],())],[],()))) (by kernel_rfl) (by
 intro Q ⟨_,a⟩;exact⟨trivial,trivial,a⟩)
def GP(a b:ID):Bool:=decide (a.1<b.1)||(a.1==b.1&&decide (a.2.1<b.2.1))
def GQ:Ct:=⟨2,⟨[(0,true,[.d cO]),(1,true,[.d cO])],[]⟩,[⟨[sL 0],[]⟩],λ(a,b,_)=>one True (GP a b,())⟩
abbrev zn(v:Bool×Unit):aN GQ.out:=⟨0,v⟩
def OS:bu:=(208,[GQ])::OR
theorem Z4:KK OS:=kA Z3 (cv GQ 0) (∀(a b:Fk)(Q:aN GQ.out→Prop),(Ct.spec GQ (a,b,())).sat Q→Br (decide (a.1<b.1)) (Q (zn (true,()))) (Br (a.1==b.1) (Q (zn (decide (a.2.1<b.2.1),()))) (Q (zn (false,()))))) (by kernel_rfl) (by
 unfold Br;rintro⟨a,b,⟨⟩⟩ ⟨c,d,⟨⟩⟩ Q ⟨_,f⟩;dsimp only at*;have g:∀y:Bool,GP (a,b,()) (c,d,())=y→Q ⟨0,(y,())⟩:=λy e=>by rw[←e];exact f
 clear f
 (repeat' (first|apply bQ|intro _))<;>(try simp only[ah,aj,aQ,ax,ne_eq,aO,aJ,bX,bR]at*)<;>first
  |assumption
  |(exact g _ (by clear g;grind[GP]))
  |omega)
def rA(i:eR):Bool:=gI i.1 i.2.1&&decide (0≤i.2.2.2.2.2.1∧i.2.2.2.2.2.1≤1114111∧(i.2.2.2.2.2.1<55296∨57343<i.2.2.2.2.2.1))
def GR:Ct:=⟨1,⟨[(0,true,[.d ou])],[]⟩,[⟨[sL 0],[]⟩],λ(i,_)=>one True (rA i,())⟩
abbrev kO(v:Bool×Unit):aN GR.out:=⟨0,v⟩
def OT:bu:=(185,[GR])::OS
theorem Z5:KK OT:=kA Z4 (cv GR 0) (∀(a:eR)(Q:aN GR.out→Prop),(Ct.spec GR (a,())).sat Q→Br (decide (a.1<0)) (Q (kO (false,()))) (Br (decide (5≤a.1)) (Q (kO (false,()))) (Br (decide (a.2.1<1)) (Q (kO (false,()))) (Br (decide (1099511627776<a.2.1)) (Q (kO (false,()))) (Br (decide (0≤a.2.2.2.2.2.1)) (Br (decide (a.2.2.2.2.2.1≤1114111)) (Br (decide (a.2.2.2.2.2.1<55296)) (Q (kO (true,()))) (Q (kO (decide (57343<a.2.2.2.2.2.1),())))) (Q (kO (false,())))) (Q (kO (false,())))))))) (by kernel_rfl) (by
 unfold Br;rintro⟨a,c,g,h,r,x,⟨⟩⟩ Q ⟨_,b⟩;dsimp only at*;have f:∀y:Bool,rA (a,c,g,h,r,x,())=y→Q ⟨0,(y,())⟩:=λy e=>by rw[←e];exact b
 clear b
 (repeat' (first|apply bQ|intro _))<;>(try simp only[ah,aj,aQ,ax,ne_eq,aO,aJ,bX,bR]at*)<;>first
  |assumption
  |(exact f _ (by clear f;grind[rA,gI]))
  |omega)
def C5:Ct:=⟨1,⟨[sL 0],[]⟩,[⟨[(0,false,[.k (.i64 1)])],[]⟩,⟨[(0,false,[.k (.i64 0)])],[]⟩],λ(b,_)=> .ite b (.leaf ⟨0,()⟩) (.leaf ⟨1,()⟩)⟩
abbrev Tb(v:Unit):aN C5.out:=⟨0,v⟩
abbrev Tc(v:Unit):aN C5.out:=⟨1,v⟩
def OU:bu:=(187,[C5])::OT
theorem Z6:KK OU:=kA Z5 (cv C5 0) (∀(a:Bool)(Q:aN C5.out→Prop),(Ct.spec C5 (a,())).sat Q→Br a (Q (Tb ())) (Q (Tc ()))) (by kernel_rfl) (by
 unfold Br;rintro b Q ⟨a,c⟩;exact⟨a,c⟩) (l:=λ_=>Live.ite (λ_=>Live.leaf) (λ_=>Live.leaf))
def ye(l:List ID)(id:ID):List ID:=l.takeWhile (GP · id)++[id]++l.dropWhile (GP · id)
def C6:Ct:=⟨2,⟨[(0,false,[.d (.sl cO)]),(1,true,[.d cO])],[]⟩,[⟨[(0,false,[.d (.sl cO)])],[]⟩],λ(l,id,_)=>one (l.length≤1000000) (ye l id,())⟩
def Z7:cc:=⟨[(0,false,[.d (.sl cO)]),(3,false,[.ptr 0 0]),sI 5],[some (.cells [.d cO])]⟩
def LI(x:C6.inp.den)(y:Z7.den):Prop:=match x,y with
 |(b,a,_),(l,i,id,_)=>l=b∧id=a∧∃k:Nat,i=k∧k≤b.length∧∀x∈b.take k,GP x a=true
def a4y(x:C6.inp.den):dG:=⟨[(2,bM Z7 (LI x) λ(l,i,_)=>(l.length-i).toNat)],[],[],[],0⟩
theorem Bg{α:Type}{p:α→Bool}(z:α):∀{l:List α}{k:Nat},k≤l.length→(∀x∈l.take k,p x=true)→(k=l.length∨p (l.getD k z)=false)→l.takeWhile p=l.take k∧l.dropWhile p=l.drop k
 |[],_,c,_,_=>by simp
 |x::l,0,_,_,h=>by
  have:p x=false:=by
   rcases h with h|h
   ·simp at h
   ·simpa using h
  simp[this]
 |x::l,k+1,c,e,h=>by
  have f:p x=true:=e x (by simp);obtain⟨a,b⟩:=Bg z (l:=l) (k:=k) (by simpa using c) (λy g=>e y (by simp[g])) (by simpa using h);simp[f,a,b]
abbrev Td(v:List Fk×Unit):aN C6.out:=⟨0,v⟩
def OV:bu:=(186,[C6])::OU
theorem Z8:KK OV:=kA Z6 a4y (∀(d:List Fk)(e:Fk)(Q:aN C6.out→Prop),(Ct.spec C6 (d,e,())).sat Q→Is (LI (d,e,()) (d,0,e,()))∧∀(b:List Fk)(a:Int)(c:Fk),let g:=b.getD a.toNat (0,0,());let f:Prop:=a<(↑b.length:Int);let z:Prop:=((0:Int)≤0∧0≤a∧a≤(↑b.length:Int))∧(0+(cS a.toNat b).length)*16≤140737488355328∧((cS a.toNat b).length+1)*16≤140737488355328∧(0≤a∧a≤(↑b.length:Int)∧(↑b.length:Int)≤(↑b.length:Int))∧((cS a.toNat b++[c]).length+(List.drop a.toNat b).length)*16≤140737488355328∧Q (Td (cS a.toNat b++[c]++List.drop a.toNat b,()));LI (d,e,()) (b,a,c,())→Br (decide f) (decide f=true∧decide f=true∧(0≤a∧a<(↑b.length:Int))∧decide f=true∧decide f=true∧decide f=true∧True∧decide f=true∧Br (GP g c) (ae (a+1)∧Is (LI (d,e,()) (b,a+1,c,())∧((↑b.length:Int)-(a+1)).toNat<((↑b.length:Int)-a).toNat)) z) (decide f=false∧decide f=false∧decide f=false∧decide f=false∧decide f=false∧decide f=false∧z)) (by kernel_rfl) (by
 conv=>zeta
 unfold Br;rintro l id Q ⟨u,n⟩;have q:∀y,ye l id=y→Q ⟨0,(y,())⟩:=λy e=>by rw[←e];exact n
 clear n;refine⟨⟨rfl,rfl,0,rfl,aq _,by simp⟩,?_⟩;rintro f i g ⟨rfl,rfl,k,rfl,r,o⟩;rw[show((k:Int).toNat)=k by omega]
 have fin:(k=f.length∨GP (f.getD k (0,0,())) g=false)→(0≤(0:Int)∧0≤(k:Int)∧(k:Int)≤f.length)∧(0+(f.take k).length)*16≤140737488355328∧((f.take k).length+1)*16≤140737488355328∧(0≤(k:Int)∧(k:Int)≤f.length∧(f.length:Int)≤f.length)∧((f.take k++[g]).length+(f.drop k).length)*16≤140737488355328∧Q ⟨0,(f.take k++[g]++f.drop k,())⟩:=by
  intro h;obtain⟨s,t⟩:=Bg (p:=(GP · g)) (0,0,()) r o h;refine⟨⟨cr _,by omega,by omega⟩,?_,?_,⟨by omega,by omega,cr _⟩,?_,q _ ?_⟩
  ·simp;omega
  ·simp;omega
  ·simp;omega
  ·unfold ye;rw[s,t]
 refine⟨λa=>?_,λb=>⟨b,b,b,b,b,b,fin (.inl ?_)⟩⟩
 ·have m:k<f.length:=by simp only[ah]at a;omega
  refine⟨a,a,⟨by omega,by omega⟩,a,a,a,trivial,a,λc=>⟨by unfold ae;omega,⟨rfl,rfl,k+1,rfl,m,?_⟩,by omega⟩,λc=>fin (.inr c)⟩;rw[cK (z:=((0,0,()):ID)) m];intro x j;rcases aY.1 j with j|j
  ·exact o x j
  ·simp at j;subst j;exact c
 ·simp only[aj]at b;omega)
def lE(n:ga)(id:ID):Bool:= !(id.1==0&&id.2.1==0)&&(aU cO id n).isSome
def GS:Ct:=⟨2,⟨[sP 0,(1,true,[.d cO])],LH 0⟩,[⟨[sL 0],LH 0⟩],λ(id,g,n,_)=>one True (lE n id,g,n,())⟩
abbrev GU(v:Bool×Int×List (Fk×gP.den)×Unit):aN GS.out:=⟨0,v⟩
def OX:bu:=(183,[GS])::OV
theorem GV:KK OX:=kA Z8 (cv GS 0) (∀(a:Fk)(c:Int)(b:List (Fk×gP.den))(Q:aN GS.out→Prop),let z:=a.1==0&&a.2.1==0;(Ct.spec GS (a,c,b,())).sat Q→Br z (Q (GU (false,c,b,()))) (Q (GU ((aU (Ty.i64.pr (Ty.i64.pr Ty.un)) a b).isSome,c,b,())))) (by kernel_rfl) (by
 conv=>zeta
 unfold Br;rintro id g n Q ⟨_,b⟩;have a:∀y,lE n id=y→Q ⟨0,(y,g,n,())⟩:=λy e=>by rw[←e];exact b
 exact⟨λh=>a _ (by unfold lE;rw[h];rfl),λh=>a _ (by unfold lE;rw[h];rfl)⟩)
def C7:Ct:=⟨1,⟨[sP 0],LH 0⟩,[⟨[sI 0],LH 0⟩],λ(g,n,_)=>one (n.length≤1000000∧0≤g∧g≤1000000) (n.length-1-g,g,n,())⟩
abbrev Te(v:Int×Int×List (Fk×gP.den)×Unit):aN C7.out:=⟨0,v⟩
theorem GW:bO Tryz.prog 174 C7:=kC GV (cv C7 0) (∀(a:Int)(b:List (Fk×gP.den))(Q:aN C7.out→Prop),let z:=Te ((↑b.length:Int)-1-a,a,b,());(Tr.need (b.length≤1000000∧0≤a∧a≤1000000) (Tr.leaf z)).sat Q→ae ((↑b.length:Int)-1)∧ae ((↑b.length:Int)-1-a)∧Q z) (by kernel_rfl) (by
 conv=>zeta
 rintro g n Q ⟨⟨b,c,e⟩,a⟩;exact⟨by unfold ae;omega,by unfold ae;omega,a⟩)
def OY:bu:=(174,[C7])::OX
theorem Z9:KK OY:=⟨aP.add GV.1 (by kernel_rfl) (bo (GW)),bg.add GV.2 (bo (λ_=>bH))⟩
def lF(n:ga)(g:Int)(id:ID):Int×Int×ga:=
 if lE n id=false then(13,g,n)
 else
  let x:=(aU cO id n).getD jz
  if x.2.2.2.1=true then(12,g,n)else(0,g+1,dy cO id (x.1,x.2.1,x.2.2.1,true,x.2.2.2.2) n)
def LJ:Ct:=⟨2,⟨[sP 0,(1,true,[.d cO])],LH 0⟩,[⟨[sI 0],LH 0⟩],λ(id,g,n,_)=>du (0≤g∧g≤1000000) (lF n g id) λy=>(y.1,y.2.1,y.2.2,())⟩
abbrev vj(v:Int×Int×List (Fk×gP.den)×Unit):aN LJ.out:=⟨0,v⟩
def OZ:bu:=(169,[LJ])::OY
theorem a_:KK OZ:=kA Z9 (cv LJ 0) (∀(b:Fk)(c:Int)(a:List (Fk×gP.den))(Q:aN LJ.out→Prop),let z:=(aU (Ty.i64.pr (Ty.i64.pr Ty.un)) b a).getD (0,0,0,false,[[],[]],());(Tr.need (0≤c∧c≤1000000) (Tr.all (Int×Int×ga) (λy=>y=lF a c b) λy=>Tr.leaf (vj (y.1,y.2.1,y.2.2,())))).sat Q→True∧Br (!lE a b) (Q (vj (13,c,a,()))) (Br (z.2.2.2.1) (Q (vj (12,c,a,()))) (ae (c+1)∧Q (vj (0,c+1,dy (Ty.i64.pr (Ty.i64.pr Ty.un)) b (z.1,z.2.1,z.2.2.1,true,z.2.2.2.2) a,()))))) (by kernel_rfl) (by
 conv=>zeta
 unfold Br;rintro id g n Q ⟨⟨i,j⟩,f⟩;have a:∀y,lF n g id=y→Q ⟨0,(y.1,y.2.1,y.2.2,())⟩:=λy e=>f y e.symm;clear f;unfold lF at a;refine⟨trivial,λc=>a (13,g,n) (an (by simpa using c)),λc=>?_⟩;rw[ag (by rw[aJ]at c;rw[c];decide)]at a;refine⟨λb=>a (12,g,n) (an b),λb=>⟨by unfold ae;omega,a (0,_,_) (ag (λh=>?_))⟩⟩;have h:((aU cO id n).getD jz).2.2.2.1=true:=h;rw[show((aU cO id n).getD jz).2.2.2.1=false from b]at h;cases h) (l:=λ_=>bm)
def D6(r:Bool):Nat:=if r then 1 else 0
def mA(n:ga)(i:eR):Int×ga:=
 if rA i=false∨(i.2.2.1=0∧i.2.2.2.1=0∧i.2.2.2.2.1=false)then(1,n)
 else if lE n (i.1,i.2.1,())=true then(12,n)
 else if(aU cO (i.2.2.1,i.2.2.2.1,()) n).isSome=false then(13,n)
 else if 4096<n.length then(14,n)
 else
  let a:=(aU cO (i.2.2.1,i.2.2.2.1,()) n).getD jz
  (0,dy cO (i.1,i.2.1,()) (i.1,i.2.1,i.2.2.2.2.2.1,false,[[],[]],()) (dy cO (i.2.2.1,i.2.2.2.1,()) (a.1,a.2.1,a.2.2.1,a.2.2.2.1,a.2.2.2.2.1.set (D6 i.2.2.2.2.1) (ye (a.2.2.2.2.1.getD (D6 i.2.2.2.2.1) []) (i.1,i.2.1,())),()) n))
theorem tX{kt:Ty}{β:Type}{k:kt.den}{v:β}:∀{l:List (kt.den×β)},cy k l=some v→∃a,(a,v)∈l
 |[],h=>by simp[cy]at h
 |p::l,h=>by
  simp only[cy]at h;split at h
  ·simp at h;exact⟨p.1,by rw[←h];simp⟩
  ·obtain⟨a,b⟩:=tX h;exact⟨a,aE _ b⟩
def Tf(n:ga):Prop:=n.length≤1000000∧∀p∈n,∀l∈p.2.2.2.2.2.1,l.length≤1000000
def GX:Ct:=⟨2,⟨[sP 0,(1,true,[.d ou])],LH 0⟩,[⟨[sI 0],LH 0⟩],λ(i,g,n,_)=>du (Tf n) (mA n i) λy=>(y.1,g,y.2,())⟩
abbrev jA(v:Int×Int×List (Fk×gP.den)×Unit):aN GX.out:=⟨0,v⟩
def O0:bu:=(171,[GX])::OZ
theorem b_:KK O0:=kA a_ (cv GX 0) (∀(a:eR)(c:Int)(b:List (Fk×gP.den))(Q:aN GX.out→Prop),let l:=a.2.2.1==0&&a.2.2.2.1==0;let e:=(a.1,a.2.1,());let f:=(a.2.2.1,a.2.2.2.1,());let i:=aU (Ty.i64.pr (Ty.i64.pr Ty.un)) f b;let z:=i.getD (0,0,0,false,[[],[]],());let g:=bv z.2.2.2.2.1 ((4-1-1-1-1)/1) [];let h:=bv z.2.2.2.2.1 ((5-1-1-1-1)/1) [];let j:Prop:=True∧Br (lE b e) (Q (jA (12,c,b,()))) (Br (!i.isSome) (Q (jA (13,c,b,()))) (Br (decide (4096<(↑b.length:Int))) (Q (jA (14,c,b,()))) (Br (a.2.2.2.2.1) (Br (a.2.2.2.2.1) (h.length≤1000000∧Q (jA (0,c,dy (Ty.i64.pr (Ty.i64.pr Ty.un)) e (a.1,a.2.1,a.2.2.2.2.2.1,false,[[],[]],()) (dy (Ty.i64.pr (Ty.i64.pr Ty.un)) f (z.1,z.2.1,z.2.2.1,z.2.2.2.1,List.set z.2.2.2.2.1 ((5-1-1-1-1)/1) (ye h e),()) b),()))) (g.length≤1000000∧Q (jA (0,c,dy (Ty.i64.pr (Ty.i64.pr Ty.un)) e (a.1,a.2.1,a.2.2.2.2.2.1,false,[[],[]],()) (dy (Ty.i64.pr (Ty.i64.pr Ty.un)) f (z.1,z.2.1,z.2.2.1,z.2.2.2.1,List.set z.2.2.2.2.1 ((5-1-1-1-1)/1) (ye g e),()) b),())))) (Br (a.2.2.2.2.1) (h.length≤1000000∧Q (jA (0,c,dy (Ty.i64.pr (Ty.i64.pr Ty.un)) e (a.1,a.2.1,a.2.2.2.2.2.1,false,[[],[]],()) (dy (Ty.i64.pr (Ty.i64.pr Ty.un)) f (z.1,z.2.1,z.2.2.1,z.2.2.2.1,List.set z.2.2.2.2.1 ((4-1-1-1-1)/1) (ye h e),()) b),()))) (g.length≤1000000∧Q (jA (0,c,dy (Ty.i64.pr (Ty.i64.pr Ty.un)) e (a.1,a.2.1,a.2.2.2.2.2.1,false,[[],[]],()) (dy (Ty.i64.pr (Ty.i64.pr Ty.un)) f (z.1,z.2.1,z.2.2.1,z.2.2.2.1,List.set z.2.2.2.2.1 ((4-1-1-1-1)/1) (ye g e),()) b),())))))));(Ct.spec GX (a,c,b,())).sat Q→True∧Br (!rA a) (Q (jA (1,c,b,()))) (Br l (Br (!a.2.2.2.2.1) (Q (jA (1,c,b,()))) j) j)) (by kernel_rfl) (by
 conv=>zeta
 unfold Br;rintro⟨a,c,f,i,r,x,⟨⟩⟩ g n Q ⟨h,A⟩;have b:∀y,mA n (a,c,f,i,r,x,())=y→Q ⟨0,(y.1,g,y.2,())⟩:=λy e=>A y e.symm;clear A;unfold mA at b;dsimp only at b⊢;have bad:(rA (a,c,f,i,r,x,())=false∨(f=0∧i=0∧r=false))→Q ⟨0,(1,g,n,())⟩:=λh=>b (1,n) (an h);refine⟨trivial,λu=>bad (.inl (by simpa using u)),λu=>⟨λo=>⟨λp=>bad (.inr ?_),λp=>?_⟩,λo=>?_⟩⟩
 ·simp only[aF,aQ,aO]at o p;exact⟨o.1,o.2,p⟩
 all_goals
  have no:¬(rA (a,c,f,i,r,x,())=false∨(f=0∧i=0∧r=false)):=by
   rintro(h|⟨D,E,F⟩)
   ·rw[h]at u;cases u
   ·first
     |(rw[F]at p;cases p)
     |(rw[D,E]at o;cases o)
  rw[ag no]at b;refine⟨trivial,λw=>b (12,n) (an w),λw=>?_⟩;rw[ag (by rw[w];decide)]at b;refine⟨λm=>b (13,n) (an (by simpa using m)),λm=>?_⟩;have m:(aU cO (f,i,()) n).isSome=true:=by simpa using m
  rw[ag (by rw[m];decide)]at b;refine⟨λz=>b (14,n) (an (by have:=ai z;omega)),λz=>?_⟩;rw[ag (by have:=am z;omega)]at b
  have B:∀j,(((aU cO (f,i,()) n).getD jz).2.2.2.2.1.getD j []).length≤1000000:=by
   intro j;rw[cE]at m;obtain⟨v,C⟩:=m;rw[C,cZ];obtain⟨H,G⟩:=tX C;rcases bN j v.2.2.2.2.1.length with q|q
   ·exact h.2 _ G _ (aT q)
   ·rw[az,bY q];exact aq _
  refine⟨λs=>⟨λ_=>?_,(λt=>by rw[s]at t;cases t)⟩,λs=>⟨(λt=>by rw[s]at t;cases t),λ_=>?_⟩⟩
  ·subst s;exact⟨B 1,b (0,_) rfl⟩
  ·subst s;exact⟨B 0,b (0,_) rfl⟩) (l:=λ_=>bm)
def iY(x:Nd):List ID:=x.2.2.2.2.1.getD 0 []++x.2.2.2.2.1.getD 1 []
def gQ(n:ga):List ID:=n.map (·.1)
theorem O1{a b:ID}:ij cO a b=true↔a=b:=eu (t:=cO)
theorem kP{β:Type}{k:ID}{v:β}:∀{l:List (ID×β)},((cF (kt:=cO) k v l).map (·.1)=l.map (·.1)∧k∈l.map (·.1))∨((cF (kt:=cO) k v l).map (·.1)=l.map (·.1)++[k]∧k∉l.map (·.1))
 |[]=> .inr ⟨rfl,by simp⟩
 |p::l=>by
  simp only[cF];by_cases e:ij cO k p.1=true
  ·rw[an e];exact .inl ⟨rfl,by rw[O1.1 e];simp⟩
  ·rw[ag e];have c:p.1≠k:=λh=>e (O1.2 h.symm);rcases kP (k:=k) (v:=v) (l:=l)with⟨a,b⟩|⟨a,b⟩
   ·exact .inl ⟨by rw[aX,aX,a],by simp only[aX,br];exact .inr b⟩
   ·exact .inr ⟨by rw[aX,aX,a];rfl,by simp only[aX,br,not_or];exact⟨λh=>c h.symm,b⟩⟩
theorem pO{β:Type}{k:ID}{v:β}{q:ID×β}:∀{l:List (ID×β)},(l.map (·.1)).Nodup→q∈cF (kt:=cO) k v l→q=(k,v)∨(q∈l∧q.1≠k)
 |[],_,h=>by simp[cF]at h;exact .inl h
 |p::l,a,h=>by
  simp only[aX,lK]at a;simp only[cF]at h;by_cases e:ij cO k p.1=true
  ·rw[an e]at h;have e:=O1.1 e;rcases br.1 h with h|h
   ·exact .inl (by rw[h,e])
   ·exact .inr ⟨aE _ h,λg=>a.1 (by rw[←e,←g];exact fe h)⟩
  ·rw[ag e]at h;rcases br.1 h with h|h
   ·exact .inr ⟨by rw[h];simp,λg=>e (O1.2 (by rw[←h];exact g.symm))⟩
   ·rcases pO a.2 h with g|g
    ·exact .inl g
    ·exact .inr ⟨aE _ g.1,g.2⟩
theorem iZ{β:Type}{k:ID}{v:β}:∀{l:List (ID×β)},cy (kt:=cO) k l=some v→(k,v)∈l
 |[],h=>by simp[cy]at h
 |p::l,h=>by
  simp only[cy]at h;split at h
  ·rename_i e;have e:=O1.1 e;simp at h;rw[←h,e];simp
  ·exact aE _ (iZ h)
theorem ov{β:Type}{k:ID}:∀{l:List (ID×β)},cy (kt:=cO) k l=none→k∉l.map (·.1)
 |[],_=>by simp
 |p::l,h=>by
  simp only[cy]at h;split at h
  ·simp at h
  ·rename_i e;simp only[aX,br,not_or];exact⟨λg=>e (O1.2 g),ov h⟩
structure vX(n:ga)(A:ID→List ID):Prop where
 nd:(gQ n).Nodup
 two:∀p∈n,p.2.2.2.2.2.1.length=2
 key:∀p∈n,∀c∈iY p.2,c∈gQ n
 own:∀k∈gQ n,k∈A k
 up:∀p∈n,∀c∈iY p.2,A c=c::A p.1
 inn:∀k∈gQ n,∀c∈A k,c∈gQ n
 suf:∀k∈gQ n,∀c∈A k,A c<:+A k
 dis:∀p∈n,(iY p.2).Nodup
 rt:sa∈gQ n
def rB(n:ga):Prop:=∃A,vX n A
def Tg(n:ga)(A:ID→List ID)(y:ID):Nat:=(gQ n).countP λk=>decide (y∈A k)
def wt(n:ga)(A:ID→List ID)(y:ID):Nat:=3*Tg n A y
theorem rC{α β:Type}(R:α→β→Bool):∀(l:List α)(m:List β),(l.map λa=>m.countP λb=>R a b).sum=(m.map λb=>l.countP λa=>R a b).sum
 |[],m=>by
  rw[List.map_nil,List.sum_nil]
  induction m with
  |nil=>rfl
  |cons b m c=>simp only[aX,cY,List.countP_nil]at*;omega
 |a::l,m=>by
  rw[aX,cY,rC R l m];clear rC
  induction m with
  |nil=>simp
  |cons b m c=>
   simp only[aX,cY,List.countP_cons]at c⊢;omega
theorem GY{α:Type}{f g:α→Nat}:∀{l:List α},(∀a∈l,f a≤g a)→(l.map f).sum≤(l.map g).sum
 |[],_=>by simp
 |a::l,h=>by
  have e:=h a (by simp);have i:=GY (l:=l) (λb c=>h b (by simp[c]));simp only[aX,cY];omega
theorem Bi{α:Type}{p:α→Bool}:∀{l:List α},l.Nodup→(∀a∈l,∀b∈l,p a=true→p b=true→a=b)→l.countP p≤1
 |[],_,_=>by simp
 |a::l,c,h=>by
  rw[lK]at c;have m:=Bi (l:=l) (p:=p) c.2 (λx i y j=>h x (by simp[i]) y (by simp[j]));rw[List.countP_cons];by_cases e:p a=true
  ·have:l.countP p=0:=List.countP_eq_zero.2 λb g f=>c.1 (by rw[h a (by simp) b (by simp[g]) e f];exact g);rw[this,an e];omega
  ·rw[ag e];omega
theorem Th{α:Type}{a b l:List α}(c:a<:+l)(f:b<:+l)(h:a.length=b.length):a=b:=by
 obtain⟨s,rfl⟩:=c;obtain⟨t,e⟩:=f;have:=aI ac e;rw[aa,aa]at this;exact((List.append_inj' e h.symm).2).symm
theorem vX.light{n:ga}{A:ID→List ID}(h:vX n A){p:ID×Nd}(m:p∈n):3+((iY p.2).map (wt n A)).sum≤wt n A p.1:=by
 have j:p.1∈gQ n:=fe m
 have o:∀k∈gQ n,(iY p.2).countP (λc=>decide (c∈A k))+(if k=p.1 then 1 else 0)≤(if p.1∈A k then 1 else 0):=by
  intro k i
  have one:(iY p.2).countP (λc=>decide (c∈A k))≤1:=by
   refine Bi (h.dis p m) λa v b w x y=>?_;have l:=h.suf k i a (ai x);have t:=h.suf k i b (ai y);rw[h.up p m a v]at l;rw[h.up p m b w]at t;have:=Th l t (by simp);exact(List.cons.inj this).1
  have q:(∃c∈iY p.2,c∈A k)→p.1∈A k∧k≠p.1:=by
   rintro⟨c,r,s⟩;have l:=h.suf k i c s;rw[h.up p m c r]at l;refine⟨l.subset (by simp[h.own _ j]),λe=>?_⟩;subst e;have:=l.length_le;simp at this;omega
  by_cases u:(iY p.2).countP (λc=>decide (c∈A k))=0
  ·rw[u];by_cases e:k=p.1
   ·rw[an e,an (by rw[e];exact h.own _ j)];omega
   ·rw[ag e];omega
  ·have:∃c∈iY p.2,c∈A k:=by
    have:=List.countP_pos_iff.1 (Nat.pos_of_ne_zero u);obtain⟨c,r,z⟩:=this;exact⟨c,r,ai z⟩
   obtain⟨B,D⟩:=q this;rw[an B,ag D];omega
 have F:=rC (λ(c:ID)(k:ID)=>decide (c∈A k)) (iY p.2) (gQ n);have G:=GY o
 have H:((gQ n).map λk=>if p.1∈A k then 1 else 0).sum=Tg n A p.1:=by
  unfold Tg;generalize gQ n=K
  induction K with
  |nil=>rfl
  |cons k K f=>rw[aX,cY,f,List.countP_cons];by_cases e:p.1∈A k<;>simp[e]<;>omega
 have J:((gQ n).map λk=>(iY p.2).countP (λc=>decide (c∈A k))+(if k=p.1 then 1 else 0)).sum=((gQ n).map λk=>(iY p.2).countP (λc=>decide (c∈A k))).sum+((gQ n).map λk=>if k=p.1 then 1 else 0).sum:=by
  generalize gQ n=K
  induction K with
  |nil=>rfl
  |cons k K f=>simp only[aX,cY]at f⊢;omega
 have L:1≤((gQ n).map λk=>if k=p.1 then 1 else 0).sum:=by
  revert j;generalize gQ n=K;intro j
  induction K with
  |nil=>simp at j
  |cons k K f=>
   simp only[aX,cY];by_cases e:k=p.1
   ·rw[an e];omega
   ·have:=f (by rcases br.1 j with g|g
                ·exact absurd g.symm e
                ·exact g)
    omega
 have E:((iY p.2).map (wt n A)).sum=3*((iY p.2).map λc=>Tg n A c).sum:=by
  generalize iY p.2=C
  induction C with
  |nil=>rfl
  |cons c C f=>simp only[aX,cY]at f⊢;rw[f];unfold wt;omega
 rw[E];show 3+3*((iY p.2).map λc=>(gQ n).countP λk=>decide (c∈A k)).sum≤3*Tg n A p.1;omega
theorem vX.ge3{n:ga}{A:ID→List ID}(h:vX n A){k:ID}(a:k∈gQ n):3≤wt n A k:=by
 have:0<Tg n A k:=List.countP_pos_iff.2 ⟨k,a,decide_eq_true (h.own k a)⟩;unfold wt;omega
theorem vX.le{n:ga}{A:ID→List ID}(y:ID):wt n A y≤3*n.length:=by
 have:Tg n A y≤(gQ n).length:=List.countP_le_length;unfold wt;unfold gQ at this;rw[bT]at this;omega
theorem GZ:rB [(sa,jz)]:=by
 refine⟨λk=>[k],⟨by simp[gQ],λp a=>?_,λp a c b=>?_,λk _=>by simp,λp a c b=>?_,λk e c b=>?_,λk _ c b=>?_,λp a=>?_,by simp[gQ]⟩⟩
 ·simp at a;subst a;rfl
 ·simp at a;subst a;simp[iY,jz]at b
 ·simp at a;subst a;simp[iY,jz]at b
 ·simp at b;rw[b];exact e
 ·simp at b;rw[b];exact List.suffix_refl _
 ·simp at a;subst a;simp[iY,jz]
theorem xv(l:List ID)(x:ID):(ye l x).Perm (x::l):=by
 unfold ye;have h:l.takeWhile (GP · x)++l.dropWhile (GP · x)=l:=List.takeWhile_append_dropWhile
 conv=>rhs;rw[←h]
 rw[ay];exact List.perm_middle
theorem LK{a:Nd}(e:a.2.2.2.2.1.length=2)(r:Bool)(x:ID)(g:Bool):(iY (a.1,a.2.1,a.2.2.1,g,a.2.2.2.2.1.set (D6 r) (ye (a.2.2.2.2.1.getD (D6 r) []) x),())).Perm (x::iY a)∧(a.2.2.2.2.1.set (D6 r) (ye (a.2.2.2.2.1.getD (D6 r) []) x)).length=2:=by
 obtain⟨h,i,j,l,f,⟨⟩⟩:=a;dsimp only at*
 match f,e with
 |[b,c],_=>
  cases r
  ·exact⟨(xv b x).append_right c,rfl⟩
  ·refine⟨?_,rfl⟩;show(b++ye c x).Perm (x::(b++c));exact((xv c x).append_left b).trans List.perm_middle
theorem vX.upd{n:ga}{A:ID→List ID}(h:vX n A){k:ID}{v s:Nd}(h0:cy (kt:=cO) k n=some s)(u:v.2.2.2.2.1=s.2.2.2.2.1):vX (cF (kt:=cO) k v n) A:=by
 have t:=iZ h0;have a:k∈gQ n:=fe t
 have j:gQ (cF (kt:=cO) k v n)=gQ n:=by
  rcases kP (k:=k) (v:=v) (l:=n)with⟨e,_⟩|⟨_,e⟩
  ·exact e
  ·exact absurd a e
 have b:∀p∈cF (kt:=cO) k v n,∃q∈n,q.1=p.1∧q.2.2.2.2.2.1=p.2.2.2.2.2.1:=by
  intro p f;rcases pO h.nd f with e|e
  ·exact⟨_,t,by rw[e],by rw[e];exact u.symm⟩
  ·exact⟨p,e.1,rfl,rfl⟩
 have r:∀{p q:ID×Nd},q.2.2.2.2.2.1=p.2.2.2.2.2.1→iY q.2=iY p.2:=λe=>by unfold iY;rw[e]
 refine⟨by rw[j];exact h.nd,λp f=>?_,λp f c m=>?_,λk a=>?_,λp f c m=>?_,λk a c m=>?_,λk a=>?_,λp f=>?_,by rw[j];exact h.rt⟩
 ·obtain⟨q,g,o,i⟩:=b p f;rw[←i];exact h.two q g
 ·obtain⟨q,g,o,i⟩:=b p f;rw[j];exact h.key q g c (by rw[r i];exact m)
 ·rw[j]at a;exact h.own k a
 ·obtain⟨q,g,o,i⟩:=b p f;rw[←o];exact h.up q g c (by rw[r i];exact m)
 ·rw[j]at a⊢;exact h.inn k a c m
 ·rw[j]at a;exact h.suf k a
 ·obtain⟨q,g,o,i⟩:=b p f;rw[←r i];exact h.dis q g
theorem C8{n:ga}{g:Int}{id:ID}(h:rB n):rB (lF n g id).2.2:=by
 obtain⟨A,h⟩:=h;unfold lF;split
 ·exact⟨A,h⟩
 rename_i c;dsimp only;split
 ·exact⟨A,h⟩
 ·have c:lE n id=true:=by simpa using c
  unfold lE at c;rw[aF,cE]at c;obtain⟨b,a⟩:=c.2;rw[a];exact⟨A,h.upd a rfl⟩
theorem LL{n:ga}{g:Int}{id:ID}:(lF n g id).2.2.length=n.length:=by
 unfold lF;split
 ·rfl
 rename_i c;dsimp only;split
 ·rfl
 ·have c:lE n id=true:=by simpa using c
  unfold lE at c;rw[aF,cE]at c;obtain⟨h,a⟩:=c.2;have b:id∈n.map (·.1):=fe (f:=(·.1)) (iZ a);rcases kP (k:=id) (v:=(((aU cO id n).getD jz).1,((aU cO id n).getD jz).2.1,((aU cO id n).getD jz).2.2.1,true,((aU cO id n).getD jz).2.2.2.2)) (l:=n)with⟨e,_⟩|⟨_,e⟩
  ·have:=aI ac e;simpa using this
  ·exact absurd b e
theorem G0{n:ga}{i:eR}(h:rB n):rB (mA n i).2∧(mA n i).2.length≤n.length+1∧((mA n i).1=0→n.length≤4096)∧((mA n i).1≠0→(mA n i).2=n):=by
 obtain⟨A,h⟩:=h;have O:∀k:Int,k≠0→rB n∧n.length≤n.length+1∧(k=0→n.length≤4096)∧(k≠0→n=n):=λk f=>⟨⟨A,h⟩,Nat.le_succ _,λe=>absurd e f,λ_=>rfl⟩;unfold mA;split
 ·exact O 1 (by decide)
 rename_i S;split
 ·exact O 12 (by decide)
 rename_i U;split
 ·exact O 13 (by decide)
 rename_i K;split
 ·exact O 14 (by decide)
 rename_i Y;dsimp only;have K:(aU cO (i.2.2.1,i.2.2.2.1,()) n).isSome=true:=by rw[bR]at K;exact K
 rw[cE]at K;obtain⟨w,z⟩:=K;have z:cy (kt:=cO) (i.2.2.1,i.2.2.2.1,()) n=some w:=z;have ed:(aU cO (i.2.2.1,i.2.2.2.1,()) n).getD jz=w:=by rw[show aU cO (i.2.2.1,i.2.2.2.1,()) n=some w from z];rfl
 rw[ed]
 have B:rA i=true:=by
  rw[not_or]at S;simpa using S.1
 have L:1≤i.2.1:=by
  unfold rA gI at B;rw[aF]at B;exact(ai B.1).2.2.1
 have o:(i.1,i.2.1,())∉gQ n:=by
  refine ov (β:=Nd) ?_;unfold lE at U;cases s:aU cO (i.1,i.2.1,()) n with
  |none=>exact s
  |some v=>
   exfalso;apply U;rw[s];have:(i.2.1==0)=false:=ax.2 (λ(e:@Eq Int i.2.1 0)=>by rw[e]at L;exact absurd L (by decide));show(!(i.1==0&&i.2.1==0)&&true)=true;rw[this];simp
 generalize hx:((i.1,i.2.1,()):ID)=x at*;generalize hp:((i.2.2.1,i.2.2.2.1,()):ID)=p at*;have C:=iZ z;have t:p∈gQ n:=fe C;have P:p≠x:=λe=>o (by rw[←e];exact t);obtain⟨r,u⟩:=LK (h.two _ C) i.2.2.2.2.1 x w.2.2.2.1;generalize M:((w.1,w.2.1,w.2.2.1,w.2.2.2.1,w.2.2.2.2.1.set (D6 i.2.2.2.2.1) (ye (w.2.2.2.2.1.getD (D6 i.2.2.2.2.1) []) x),()):Nd)=j at*;have u:j.2.2.2.2.1.length=2:=by rw[←M];exact u
 have D:gQ (cF (kt:=cO) p j n)=gQ n:=by
  rcases kP (k:=p) (v:=j) (l:=n)with⟨e,_⟩|⟨_,e⟩
  ·exact e
  ·exact absurd t e
 generalize N:((i.1,i.2.1,i.2.2.2.2.2.1,false,[[],[]],()):Nd)=E at*;have F:iY E=[]:=by rw[←N];rfl
 have Q:E.2.2.2.2.1.length=2:=by rw[←N];rfl
 have G:gQ (cF (kt:=cO) x E (cF (kt:=cO) p j n))=gQ n++[x]:=by
  rcases kP (k:=x) (v:=E) (l:=cF (kt:=cO) p j n)with⟨_,e⟩|⟨e,_⟩
  ·have e:x∈gQ (cF (kt:=cO) p j n):=e;rw[D]at e;exact absurd e o
  ·have e:gQ (cF (kt:=cO) x E (cF (kt:=cO) p j n))=gQ (cF (kt:=cO) p j n)++[x]:=e;rw[e,D]
 have nd1:(gQ (cF (kt:=cO) p j n)).Nodup:=by rw[D];exact h.nd
 have mem:∀q∈cF (kt:=cO) x E (cF (kt:=cO) p j n),q=(x,E)∨q=(p,j)∨(q∈n∧q.1≠p∧q.1≠x):=by
  intro q s;rcases pO nd1 s with e|⟨e,W⟩
  ·exact .inl e
  ·rcases pO h.nd e with e|e
   ·exact .inr (.inl e)
   ·exact .inr (.inr ⟨e.1,e.2,W⟩)
 have H:∀q∈n,x∉iY q.2:=λq s m=>o (h.key q s x m);refine⟨⟨λy=>if y=x then x::A p else A y,?_⟩,?_,λ_=>Nat.le_of_not_lt Y,λe=>absurd rfl e⟩
 ·refine⟨?_,λq s=>?_,λq s c m=>?_,λk f=>?_,λq s c m=>?_,λk f c m=>?_,λk f c m=>?_,λq s=>?_,?_⟩
  ·rw[G,List.nodup_append];exact⟨h.nd,by simp,λa ha b X e=>by simp at X;exact o (by rw[←X,←e];exact ha)⟩
  ·rcases mem q s with rfl|rfl|⟨e,_⟩
   ·exact Q
   ·exact u
   ·exact h.two q e
  ·rw[G];rcases mem q s with rfl|rfl|⟨e,_⟩
   ·rw[F]at m;cases m
   ·have:=r.mem_iff.1 m;rcases br.1 this with e|e
    ·rw[e];simp
    ·exact cG _ (h.key _ C c e)
   ·exact cG _ (h.key q e c m)
  ·rw[G]at f;rcases aY.1 f with f|f
   ·have:k≠x:=λe=>o (by rw[←e];exact f);rw[ag this];exact h.own k f
   ·simp at f;subst f;rw[an rfl];simp
  ·rcases mem q s with rfl|rfl|⟨e,W,e3⟩
   ·rw[F]at m;cases m
   ·dsimp only;rw[ag P];have:=r.mem_iff.1 m;rcases br.1 this with e|e
    ·rw[e,an rfl]
    ·have:c≠x:=λg=>H _ C (by rw[←g];exact e);rw[ag this];exact h.up _ C c e
   ·have:c≠x:=λg=>H q e (by rw[←g];exact m);rw[ag this,ag e3];exact h.up q e c m
  ·rw[G]at f⊢;rcases aY.1 f with f|f
   ·have:k≠x:=λe=>o (by rw[←e];exact f);rw[ag this]at m;exact cG _ (h.inn k f c m)
   ·simp at f;subst f;rw[an rfl]at m;rcases br.1 m with e|e
    ·rw[e];simp
    ·exact cG _ (h.inn p t c e)
  ·rw[G]at f;rcases aY.1 f with f|f
   ·have R:k≠x:=λe=>o (by rw[←e];exact f);rw[ag R]at m⊢;have J:c≠x:=λe=>o (by rw[←e];exact h.inn k f c m);rw[ag J];exact h.suf k f c m
   ·simp at f;subst f;rw[an rfl]at m⊢;rcases br.1 m with e|e
    ·rw[e,an rfl];exact List.suffix_refl _
    ·have J:c≠k:=λg=>o (by rw[←g];exact h.inn p t c e);rw[ag J];exact(h.suf p t c e).trans (List.suffix_cons k (A p))
  ·rcases mem q s with rfl|rfl|⟨e,_⟩
   ·rw[F];exact List.nodup_nil
   ·exact r.nodup_iff.2 (lK.2 ⟨H _ C,h.dis _ C⟩)
   ·exact h.dis q e
  ·rw[G];exact cG _ h.rt
 ·have:=aI ac G;unfold gQ at this;rw[aa,bT,bT]at this;simp only[bb]at this;exact Nat.le_of_eq this
end Go.Tp
