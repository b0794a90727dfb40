/- A part of the proof of TopSealedSaid: no conditions; packed by a program of our own. -/
import Derived.Test.YtgpideichgnmhaaGreatPbag
open And renaming intro→cc
open BitVec renaming ofInt→bi,ofNat→ae,setWidth→ax
open Bool renaming eq_iff_iff→mi,and_eq_true→aI,false_eq_true→cu,or_eq_true→iH,not_eq_true'→aP,not_eq_true→cd,not_eq_false'→aK,not_eq_false→bW
open Int renaming toNat_natCast→aF,toNat_of_nonneg→pz,eq_ofNat_of_zero_le→bR
open List renaming map_cons→aY,length_append→aa,length_cons→ba,append_assoc→ay,mem_append→bb,drop_of_length_le→bC,nil_append→eS,take_of_length_le→bf,append_nil→aW,getElem?_eq_getElem→ap,getD→bB,getElem?_append_left→bU,getElem?_append_right→aU,length_take→be,length→ah,getD_eq_getElem?_getD→aw,getElem?_eq_none→bD,length_nil→de,length_map→bT,mem_cons_self→aG,mem_cons_of_mem→aA,mem_of_getElem?→gN,getElem?_eq_some_iff→cy,getElem_mem→kB,mem_singleton→cf,take→cM,sum_cons→dg,take_add_one→dW,take_length→br
open Nat renaming le_refl→aD,le_trans→bq,zero_add→bN,zero_le→aq,lt_or_ge→bI,eq_zero_or_pos→jZ
open Option renaming getD_some→di
open Prod renaming ext→r6
namespace Go.Tp
open Go.Hv Go.Proofs Go.RowKit
set_option maxRecDepth 100000
set_option maxHeartbeats 0
def rnL:Ct:=⟨3,⟨[sP 0,sI 1,sI 2],rH⟩,[⟨[sI 0],rH⟩],λ(c,f,b,a,m,e,_)=>dy (bQ b a) (cW b a m e c f) λy=>(y.1,b,y.2.1,m,y.2.2,())⟩
theorem Rk:bS Tryz.prog 52 rnL:=bS.mono LC λ_ _ h=>dE h rfl
def L8:bw:=(52,[rnL])::L6
theorem L9:KK L8:=⟨aQ.add L7.1 (by kernel_rfl) (bo Rk),bg.add L7.2 (bo (λ_=>bp))⟩
def rtL:Ct:=⟨2,⟨[sP 0,sI 1],rH⟩,[⟨[sO 0 1],rH++[cB]⟩],λ(n,b,a,m,e,_)=>dy (bQ b a) (gC b a m e n) λy=>(b,y.2.1,m,y.2.2,y.1,())⟩
theorem Rm:bS Tryz.prog 53 rtL:=bS.mono LD λ_ _ h=>dE h rfl
def Ma:bw:=(53,[rtL])::L8
theorem Mc:KK Ma:=⟨aQ.add L9.1 (by kernel_rfl) (bo Rm),bg.add L9.2 (bo (λ_=>bp))⟩
def xh:cg:=⟨[sO 0 4],Cn++[cB]⟩
abbrev Z:=BL×List Tm×KV
def Rn(d:Int)(y:Z):xh.den:=(d,y.2.2,y.2.1,y.1,())
def drL:Ct:=⟨1,⟨[sP 0],mw⟩,[xh],λ(d,a,m,_)=>dy (a.length<=4294967296/\0<=d/\d<=4294967296) (dV (115,[dv (d+1)],()) a m) (Rn (d+1))⟩
theorem Ro:bS Tryz.prog 356 drL:=bS.mono LF λ_ _ h=>dE h rfl
def Me:bw:=(356,[drL])::Ma
theorem Mf:KK Me:=⟨aQ.add Mc.1 (by kernel_rfl) (bo Ro),bg.add Mc.2 (bo (λ_=>bp))⟩
def haL:Ct:=⟨2,⟨[sP 0,sB 1],mw⟩,[xh],λ(b,d,a,m,_)=>dy (aB b/\a.length<=4294967296) (dV (104,[b],()) a m) (Rn d)⟩
theorem Rp:bS Tryz.prog 357 haL:=bS.mono LG λ_ _ h=>dE h rfl
def Mg:bw:=(357,[haL])::Me
theorem Mh:KK Mg:=⟨aQ.add Mf.1 (by kernel_rfl) (bo Rp),bg.add Mf.2 (bo (λ_=>bp))⟩
def puL:Ct:=⟨2,⟨[sP 0,sB 1],mw⟩,[xh],λ(b,d,a,m,_)=>dy (aB b/\a.length<=4294967296) (dh (112,[b],()) a m) (Rn d)⟩
theorem Rq:bS Tryz.prog 360 puL:=bS.mono LH λ_ _ h=>dE h rfl
def Mi:bw:=(360,[puL])::Mg
theorem Mj:KK Mi:=⟨aQ.add Mh.1 (by kernel_rfl) (bo Rq),bg.add Mh.2 (bo (λ_=>bp))⟩
def snL:Ct:=⟨2,⟨[sP 0,sB 1],mw⟩,[xh],λ(b,d,a,m,_)=>dy (aB b/\a.length<=4294967296) (dh (118,[b],()) a m) (Rn d)⟩
theorem Rr:bS Tryz.prog 364 snL:=bS.mono LI λ_ _ h=>dE h rfl
def Ml:bw:=(364,[snL])::Mi
theorem Mm:KK Ml:=⟨aQ.add Mj.1 (by kernel_rfl) (bo Rr),bg.add Mj.2 (bo (λ_=>bp))⟩
def deL:Ct:=⟨3,⟨[sP 0,sB 1,sB 2],mw⟩,[xh],λ(b,c,d,a,m,_)=>dy (aB b/\aB c/\a.length<=4294967296) (dh (107,[b,c],()) a m) (Rn d)⟩
theorem Rt:bS Tryz.prog 355 deL:=bS.mono LJ λ_ _ h=>dE h rfl
def Mn:bw:=(355,[deL])::Ml
theorem Mo:KK Mn:=⟨aQ.add Mm.1 (by kernel_rfl) (bo Rt),bg.add Mm.2 (bo (λ_=>bp))⟩
def sgL:Ct:=⟨3,⟨[sP 0,sB 1,sB 2],mw⟩,[xh],λ(b,c,d,a,m,_)=>dy (aB b/\aB c/\a.length<=4294967296) (dh (103,[b,c],()) a m) (Rn d)⟩
theorem Ru:bS Tryz.prog 363 sgL:=bS.mono LK λ_ _ h=>dE h rfl
def Mp:bw:=(363,[sgL])::Mn
theorem Mq:KK Mp:=⟨aQ.add Mo.1 (by kernel_rfl) (bo Ru),bg.add Mo.2 (bo (λ_=>bp))⟩
def seL:Ct:=⟨5,⟨[sP 0,sB 1,sI 2,sB 3,sB 4],mw⟩,[xh],λ(k,n,o,x,d,a,m,_)=>dy (aB k/\aB o/\aB x/\a.length<=4294967296) (lY k n o x a m) (Rn d)⟩
theorem Rv:bS Tryz.prog 361 seL:=bS.mono LL λ_ _ h=>dE h rfl
def Mr:bw:=(361,[seL])::Mp
theorem Ms:KK Mr:=⟨aQ.add Mq.1 (by kernel_rfl) (bo Rv),bg.add Mq.2 (bo (λ_=>bp))⟩
def opL:Ct:=⟨5,⟨[sP 0,sB 1,sI 2,sB 3,sB 4],mw⟩,[⟨[sO 0 3,sI 1],mw++[cB]⟩],λ(k,n,o,x,d,a,m,_)=>dy (aB k/\aB o/\aB x/\eC a) (sG k n o x a) λy=>(y.2,d,a,m,y.1,())⟩
theorem Rw:bS Tryz.prog 359 opL:=bS.mono LN λ_ _ h=>dE h rfl
def Mu:bw:=(359,[opL])::Mr
theorem Mw:KK Mu:=⟨aQ.add Ms.1 (by kernel_rfl) (bo Rw),bg.add Ms.2 (bo (λ_=>bp))⟩
def shL:Ct:=⟨3,⟨[sP 0,sB 1,sB 2],mw⟩,[⟨[sO 0 4,sI 1],Cn++[cB]⟩],λ(s,p,d,a,m,_)=>dy (aB s/\aB p/\eC a) (my s p a m) λy=>(y.2,d,y.1.2.2,y.1.2.1,y.1.1,())⟩
theorem Rx:bS Tryz.prog 362 shL:=bS.mono LO λ_ _ h=>dE h rfl
def Mx:bw:=(362,[shL])::Mu
theorem My:KK Mx:=⟨aQ.add Mw.1 (by kernel_rfl) (bo Rx),bg.add Mw.2 (bo (λ_=>bp))⟩
def dgL:Ct:=⟨2,⟨[sS 0 0,(1,true,[.d Aq])],iK 0⟩,[⟨[sO 0 4],lj 0 3++[cT,cB]⟩],λ(l,d,a,m,_)=>dy (a.length<=4294967296) (lZ l a m) λy=>(d,y.2.2,y.2.1,y.1,())⟩
theorem Ry:bS Tryz.prog 177 dgL:=bS.mono LQ λ_ _ h=>dE h rfl
def Mz:bw:=(177,[dgL])::Mx
theorem MA:KK Mz:=⟨aQ.add My.1 (by kernel_rfl) (bo Ry),bg.add My.2 (bo (λ_=>bp))⟩
def chL:Ct:=⟨3,⟨[sP 0,sS 1 2,(2,true,[.d Aq])],jr 0++iK 2⟩,[⟨[sI 0],jr 0++lj 2 5++[cT]⟩],λ(lk,l,d,a,m,_)=>dy (a.length<=4294967296/\ci l) (iV lk l a m) λy=>(y.1,l,d,y.2.2,y.2.1,())⟩
theorem Rz:bS Tryz.prog 161 chL:=bS.mono LR λ_ _ h=>dE h rfl
def MB:bw:=(161,[chL])::Mz
theorem MC:KK MB:=⟨aQ.add MA.1 (by kernel_rfl) (bo Rz),bg.add MA.2 (bo (λ_=>bp))⟩
def tkL:Ct:=⟨3,⟨[sP 0,sS 1 2,(2,true,[.d Aq])],jr 0++iK 2⟩,[⟨[sI 0],jr 0++lj 2 5++[cT]⟩],λ(lk,l,d,a,m,_)=>dy (a.length<=4294967295/\ci l) (oa lk l a m) λy=>(y.1,y.2.1,d,y.2.2.2,y.2.2.1,())⟩
theorem RA:bS Tryz.prog 120 tkL:=bS.mono LS λ_ _ h=>dE h rfl
def MD:bw:=(120,[tkL])::MB
theorem ME:KK MD:=⟨aQ.add MC.1 (by kernel_rfl) (bo RA),bg.add MC.2 (bo (λ_=>bp))⟩
def XB:Ct:=⟨2,⟨[(0,false,[.d (.sl iL)]),sI 1],[]⟩,[⟨[(0,true,[.d iL]),sL 1],[]⟩],λ(l,id,_)=>dy (l.length<=1000000) (gk l id) λy=>(y.1,y.2,())⟩
theorem JC:bS Tryz.prog 145 XB:=bS.mono Ev λ_ _ h=>dE h rfl
def EJ:bw:=(145,[XB])::MD
theorem RB:KK EJ:=⟨aQ.add ME.1 (by kernel_rfl) (bo JC),bg.add ME.2 (bo (λ_=>bp))⟩
def xi{α:Type}(one:Rs->α×Rs):Nat->Rs->List α->List α×Rs
 |0,s,a=>(a,s)
 |k+1,s,a=>xi one k (one s).2 (a++[(one s).1])
def Cr(b:BL)(m:Bool)(s:Rs):Mb×Rs:=
 let i:=cW b s.1 m s.2 0 4
 let p:=gC b i.2.1 m i.2.2 64
 let g:=gC b p.2.1 m p.2.2 64
 ((i.1,p.1,g.1,()),g.2)
def Cs(b:BL)(m:Bool)(s:Rs):Fk×Rs:=
 let i:=cW b s.1 m s.2 0 4
 let p:=cW b i.2.1 m i.2.2 0 1048576
 ((i.1,p.1,()),p.2)
def Cu(b:BL)(m:Bool)(s:Rs):BL×Rs:=gC b s.1 m s.2 64
def Vj:List (Option CP):=[some (.cells [.ptr 1 0])]++rH
def g1C:Ct:=⟨1,⟨[sP 0],Vj⟩,[⟨[(0,true,[.d iL])],Vj⟩],λ(b,a,m,e,_)=>dy (bQ b a) (Cr b m (a,e)) λy=>(y.1,b,y.2.1,m,y.2.2,())⟩
def XC:bw:=(55,[g1C])::EJ
theorem a17:KK XC:=kA RB (cE g1C 0) (∀(a:BL)(f:Int)(d:Bool)(g:Int)Q,bd g1C (a,f,d,g,()) Q->bQ a f/\∀b,b=cW a f d g 0 4->bQ a b.2.1/\∀c,c=gC a b.2.1 d b.2.2 64->bQ a c.2.1/\∀e,e=gC a c.2.1 d c.2.2 64->Q ⟨0,(b.1,c.1,e.1,()),a,e.2.1,d,e.2.2,()⟩) (by
 unfold bd;rintro b a m e Q ⟨c,g⟩;have f:=eQ m e 0 4 c;refine⟨c,?_⟩;rintro y rfl;refine⟨f.1,?_⟩;have h:=ni m (cW b a m e 0 4).2.2 64 f.1;rintro y rfl;refine⟨h.1,?_⟩;rintro y rfl;exact g _ rfl) (l:=λ_=>bp)
def g2C:Ct:=⟨1,⟨[sP 0],Vj⟩,[⟨[(0,true,[.d iG])],Vj⟩],λ(b,a,m,e,_)=>dy (bQ b a) (Cs b m (a,e)) λy=>(y.1,b,y.2.1,m,y.2.2,())⟩
def XD:bw:=(57,[g2C])::XC
theorem a18:KK XD:=kA a17 (cE g2C 0) (∀(a:BL)(e:Int)(d:Bool)(f:Int)Q,bd g2C (a,e,d,f,()) Q->bQ a e/\∀b,b=cW a e d f 0 4->bQ a b.2.1/\∀c,c=cW a b.2.1 d b.2.2 0 1048576->Q ⟨0,(b.1,c.1,()),a,c.2.1,d,c.2.2,()⟩) (by
 unfold bd;rintro b a m e Q ⟨c,f⟩;have g:=eQ m e 0 4 c;refine⟨c,?_⟩;rintro y rfl;refine⟨g.1,?_⟩;rintro y rfl;exact f _ rfl) (l:=λ_=>bp)
def g3C:Ct:=⟨1,⟨[sP 0],Vj⟩,[⟨[(0,false,[.d tB])],Vj⟩],λ(b,a,m,e,_)=>dy (bQ b a) (Cu b m (a,e)) λy=>(y.1,b,y.2.1,m,y.2.2,())⟩
def XE:bw:=(59,[g3C])::XD
theorem a19:KK XE:=kA a18 (cE g3C 0) (∀(a:BL)(c:Int)(d:Bool)(e:Int)Q,bd g3C (a,c,d,e,()) Q->bQ a c/\∀b,b=gC a c d e 64->Q ⟨0,b.1,a,b.2.1,d,b.2.2,()⟩) (by
 unfold bd;rintro b a m e Q ⟨c,f⟩;refine⟨c,?_⟩;rintro y rfl;exact f _ rfl) (l:=λ_=>bp)
def ob{α:Type}(one:BL->Bool->Rs->α×Rs)(b:BL)(m:Bool)(s:Rs):List α×Rs:=xi (one b m) (cW b s.1 m s.2 0 5).1.toNat (cW b s.1 m s.2 0 5).2 []
def JD:List (Option CP):=rH++[some (.cells [.ptr 0 0])]
def MF(i:Nat)(f:FuncId)(j:Nat):Nat×Bool×List IP:=(i,false,[.fn f [] [(j,0)]])
def l1C:Ct:=⟨2,⟨[sP 0,MF 1 55 1],JD⟩,[⟨[sO 0 2],JD++[Vg]⟩],λ(b,a,m,e,_)=>dy (bQ b a) (ob Cr b m (a,e)) λy=>(b,y.2.1,m,y.2.2,y.1,())⟩
def l1P:cg:=⟨[sP 0,MF 1 55 1,sO 5 2,sI 7,sI 8],JD++[Vg]⟩
def l1I(c:BL)(g:Int)(f:Bool)(h:Int)(y:l1P.den):Prop:=match y with
 |(n,i,b,a,m,e,v,_)=>b=c/\m=f/\bQ c a/\∃q k:Nat,n=q/\q<=5/\i=k/\k<=q/\v.length=k/\xi (Cr c f) (q-k) (a,e) v=ob Cr c f (g,h)
def l1A(x:l1C.inp.den):dB:=⟨[(3,bK l1P (l1I x.1 x.2.1 x.2.2.1 x.2.2.2.1) λ(n,i,_)=>(n-i).toNat)],[],[],[],0⟩
theorem EK{b:BL}{a:Int}(m:Bool)(e:Int)(h:bQ b a):bQ b (Cr b m (a,e)).2.1:=by
 have c:=eQ m e 0 4 h;have f:=ni m (cW b a m e 0 4).2.2 64 c.1;exact(ni m _ 64 f.1).1
theorem EL{b:BL}{a:Int}(m:Bool)(e:Int)(h:bQ b a):bQ b (Cs b m (a,e)).2.1:=(eQ m _ 0 1048576 (eQ m e 0 4 h).1).1
theorem EN{b:BL}{a:Int}(m:Bool)(e:Int)(h:bQ b a):bQ b (Cu b m (a,e)).2.1:=(ni m e 64 h).1
def XF:bw:=(54,[l1C])::XE
theorem a2a:KK XF:=kA a19 l1A (∀(f:BL)(h:Int)(i:Bool)(k:Int)Q,bd l1C (f,h,i,k,()) Q->bQ f h/\∀b,b=cW f h i k 0 5->Is (l1I f h i k (b.1,0,f,b.2.1,i,b.2.2,[],()))/\∀(j g:Int)(a:BL)(d:Int)(c:Bool)(e:Int)(l:List Mb),let m:=cW a d c e 0 4;let z:=gC a m.2.1 c m.2.2 64;let n:=gC a z.2.1 c z.2.2 64;l1I f h i k (j,g,a,d,c,e,l,())->Bd (g<j) (bQ a d/\∀b,b=((m.1,z.1,n.1,()),n.2)->(l.length+1)*56<=mM/\ac (g+1)/\Is (l1I f h i k (j,g+1,a,b.2.1,c,b.2.2,l++[(b.1.1,b.1.2.1,b.1.2.2.1,())],())/\lN (j-(g+1)) (j-g))) (Q ⟨0,a,d,c,e,l,()⟩)) (by
 conv=>zeta
 unfold Bd lN mM bd;intro b a m e Q ⟨p,r⟩;have t:∀y,ob Cr b m (a,e)=y->Q ⟨0,(b,y.2.1,m,y.2.2,y.1,())⟩:=λy e=>r y e.symm;clear r;have c:=eQ m e 0 5 p;refine⟨p,?_⟩;rintro y rfl;refine⟨⟨rfl,rfl,c.1,(cW b a m e 0 5).1.toNat,0,(pz c.2.2.1).symm,by have:=c.2.2.2;omega,rfl,aq _,rfl,rfl⟩,?_⟩;clear c;rintro n i b x m u v ⟨rfl,rfl,s,q,k,rfl,g,rfl,z,w,f⟩;simp only[ai,aj];have j:v.length=k:=w;refine⟨λh=>⟨s,?_⟩,λh=>?_⟩
 ·rintro y rfl;refine⟨by omega,by unfold ac;omega,⟨⟨rfl,rfl,EK m u s,q,k+1,rfl,g,rfl,by omega,by simp[j],?_⟩,by omega⟩⟩;have o:q-k=(q-(k+1))+1:=by omega
  rw[o]at f;exact f
 ·have o:q-k=0:=by omega
  rw[o]at f;exact t _ f.symm) (l:=λ_=>bp)
def cEn:Option CP:=some (.sl iG)
def l2C:Ct:=⟨2,⟨[sP 0,MF 1 57 1],JD⟩,[⟨[sO 0 2],JD++[cEn]⟩],λ(b,a,m,e,_)=>dy (bQ b a) (ob Cs b m (a,e)) λy=>(b,y.2.1,m,y.2.2,y.1,())⟩
def l2P:cg:=⟨[sP 0,MF 1 57 1,sO 5 2,sI 7,sI 8],JD++[cEn]⟩
def l2I(c:BL)(g:Int)(f:Bool)(h:Int)(y:l2P.den):Prop:=match y with
 |(n,i,b,a,m,e,v,_)=>b=c/\m=f/\bQ c a/\∃q k:Nat,n=q/\q<=5/\i=k/\k<=q/\v.length=k/\xi (Cs c f) (q-k) (a,e) v=ob Cs c f (g,h)
def l2A(x:l2C.inp.den):dB:=⟨[(3,bK l2P (l2I x.1 x.2.1 x.2.2.1 x.2.2.2.1) λ(n,i,_)=>(n-i).toNat)],[],[],[],0⟩
def XG:bw:=(56,[l2C])::XF
theorem a2b:KK XG:=kA a2a l2A (∀(e:BL)(h:Int)(i:Bool)(k:Int)Q,bd l2C (e,h,i,k,()) Q->bQ e h/\∀b,b=cW e h i k 0 5->Is (l2I e h i k (b.1,0,e,b.2.1,i,b.2.2,[],()))/\∀(j f:Int)(a:BL)(d:Int)(c:Bool)(g:Int)(l:List Fk),let m:=cW a d c g 0 4;let z:=cW a m.2.1 c m.2.2 0 1048576;l2I e h i k (j,f,a,d,c,g,l,())->Bd (f<j) (bQ a d/\∀b,b=((m.1,z.1,()),z.2)->(l.length+1)*16<=mM/\ac (f+1)/\Is (l2I e h i k (j,f+1,a,b.2.1,c,b.2.2,l++[(b.1.1,b.1.2.1,())],())/\lN (j-(f+1)) (j-f))) (Q ⟨0,a,d,c,g,l,()⟩)) (by
 conv=>zeta
 unfold Bd lN mM bd;intro b a m e Q ⟨p,r⟩;have t:∀y,ob Cs b m (a,e)=y->Q ⟨0,(b,y.2.1,m,y.2.2,y.1,())⟩:=λy e=>r y e.symm;clear r;have c:=eQ m e 0 5 p;refine⟨p,?_⟩;rintro y rfl;refine⟨⟨rfl,rfl,c.1,(cW b a m e 0 5).1.toNat,0,(pz c.2.2.1).symm,by have:=c.2.2.2;omega,rfl,aq _,rfl,rfl⟩,?_⟩;clear c;rintro n i b x m u v ⟨rfl,rfl,s,q,k,rfl,g,rfl,z,w,f⟩;simp only[ai,aj];have j:v.length=k:=w;refine⟨λh=>⟨s,?_⟩,λh=>?_⟩
 ·rintro y rfl;refine⟨by omega,by unfold ac;omega,⟨⟨rfl,rfl,EL m u s,q,k+1,rfl,g,rfl,by omega,by simp[j],?_⟩,by omega⟩⟩;have o:q-k=(q-(k+1))+1:=by omega
  rw[o]at f;exact f
 ·have o:q-k=0:=by omega
  rw[o]at f;exact t _ f.symm) (l:=λ_=>bp)
def cBx:Option CP:=some (.sl tB)
def l3C:Ct:=⟨2,⟨[sP 0,MF 1 59 1],JD⟩,[⟨[sO 0 2],JD++[cBx]⟩],λ(b,a,m,e,_)=>dy (bQ b a) (ob Cu b m (a,e)) λy=>(b,y.2.1,m,y.2.2,y.1,())⟩
def l3P:cg:=⟨[sP 0,MF 1 59 1,sO 5 2,sI 7,sI 8],JD++[cBx]⟩
def l3I(c:BL)(g:Int)(f:Bool)(h:Int)(y:l3P.den):Prop:=match y with
 |(n,i,b,a,m,e,v,_)=>b=c/\m=f/\bQ c a/\∃q k:Nat,n=q/\q<=5/\i=k/\k<=q/\v.length=k/\xi (Cu c f) (q-k) (a,e) v=ob Cu c f (g,h)
def l3A(x:l3C.inp.den):dB:=⟨[(3,bK l3P (l3I x.1 x.2.1 x.2.2.1 x.2.2.2.1) λ(n,i,_)=>(n-i).toNat)],[],[],[],0⟩
def XH:bw:=(58,[l3C])::XG
theorem a2c:KK XH:=kA a2b l3A (∀(a:BL)(d:Int)(e:Bool)(g:Int)Q,bd l3C (a,d,e,g,()) Q->bQ a d/\∀b,b=cW a d e g 0 5->Is (l3I a d e g (b.1,0,a,b.2.1,e,b.2.2,[],()))/\∀(f c:Int)(h:BL)(i:Int)(j:Bool)(l:Int)(k:List BL),l3I a d e g (f,c,h,i,j,l,k,())->Bd (c<f) (bQ h i/\∀b,b=Cu h j (i,l)->(k.length+1)*24<=mM/\ac (c+1)/\Is (l3I a d e g (f,c+1,h,b.2.1,j,b.2.2,k++[b.1],())/\lN (f-(c+1)) (f-c))) (Q ⟨0,h,i,j,l,k,()⟩)) (by
 unfold Bd lN mM bd;intro b a m e Q ⟨p,r⟩;have t:∀y,ob Cu b m (a,e)=y->Q ⟨0,(b,y.2.1,m,y.2.2,y.1,())⟩:=λy e=>r y e.symm;clear r;have c:=eQ m e 0 5 p;refine⟨p,?_⟩;rintro y rfl;refine⟨⟨rfl,rfl,c.1,(cW b a m e 0 5).1.toNat,0,(pz c.2.2.1).symm,by have:=c.2.2.2;omega,rfl,aq _,rfl,rfl⟩,?_⟩;clear c;rintro n i b x m u v ⟨rfl,rfl,s,q,k,rfl,g,rfl,z,w,f⟩;simp only[ai,aj];have j:v.length=k:=w;refine⟨λh=>⟨s,?_⟩,λh=>?_⟩
 ·rintro y rfl;refine⟨by omega,by unfold ac;omega,⟨⟨rfl,rfl,EN m u s,q,k+1,rfl,g,rfl,by omega,by simp[j],?_⟩,by omega⟩⟩;have o:q-k=(q-(k+1))+1:=by omega
  rw[o]at f;exact f
 ·have o:q-k=0:=by omega
  rw[o]at f;exact t _ f.symm) (l:=λ_=>bp)
def lk{α:Type}(b:BL)(x:α):α:=match b with
 |[]=>x
 |_::_=>x
theorem ck{α:Type}(b:BL)(x:α):lk b x=x:=by cases b<;>rfl
def Do:Et:=(0,[],[],[],[],[],[],())
def MG(b:BL)(m:Bool)(s:Rs):Et×Rs:=
 let k:=cW b s.1 m s.2 1 1
 let n:=cW b k.2.1 m k.2.2 1 65536
 let p:=gC b n.2.1 m n.2.2 64
 let e:=ob Cr b m p.2
 let a:=ob Cs b m e.2
 let f:=gC b a.2.1 m a.2.2 64
 let c:=ob Cu b m f.2
 let g:=gC b c.2.1 m c.2.2 64
 ((n.1,p.1,e.1,a.1,f.1,c.1,g.1,()),g.2)
def eL(b:BL)(m:Bool)(s:Rs):Et×Rs:=
 lk b (let x:=MG b m s
 let a:=if ig x.1=true then x.2.2 else if(m&&x.2.2==0)=true then 5 else x.2.2
 (if(if m=true then a else 5)=0 then x.1 else Do,(x.2.1,a)))
theorem EO{α:Type}{b:BL}{one:Rs->α×Rs}(h:∀a e,bQ b a->bQ b (one (a,e)).2.1):∀(n:Nat)(s:Rs)(c:List α),bQ b s.1->bQ b (xi one n s c).2.1/\(xi one n s c).1.length=c.length+n
 |0,s,c,f=>⟨f,rfl⟩
 |n+1,s,c,f=>by
  obtain⟨g,i⟩:=EO h n (one s).2 (c++[(one s).1]) (h s.1 s.2 f);refine⟨g,?_⟩;simp only[xi];rw[i];simp;omega
theorem JE{α:Type}{b:BL}{m:Bool}{one:BL->Bool->Rs->α×Rs}(h:∀a e,bQ b a->bQ b (one b m (a,e)).2.1)(s:Rs)(f:bQ b s.1):bQ b (ob one b m s).2.1/\(ob one b m s).1.length<=5:=by
 have c:=eQ m s.2 0 5 f;obtain⟨g,i⟩:=EO h (cW b s.1 m s.2 0 5).1.toNat (cW b s.1 m s.2 0 5).2 [] c.1;refine⟨g,?_⟩;have:=c.2.2.2;unfold ob;rw[i];simp only[de];omega
def egC:Ct:=⟨1,⟨[sP 0],rH⟩,[⟨[(0,true,[.d oI])],rH⟩],λ(b,a,m,e,_)=>dy (bQ b a) (eL b m (a,e)) λy=>(y.1,b,y.2.1,m,y.2.2,())⟩
def XI:bw:=(25,[egC])::XH
theorem a2d:KK XI:=kA a2c (cE egC 0) (∀(c:BL)(k:Int)(d:Bool)(l:Int)Q,bd egC (c,k,d,l,()) Q->bQ c k/\∀b,b=cW c k d l 1 1->bQ c b.2.1/\∀e,e=cW c b.2.1 d b.2.2 1 65536->bQ c e.2.1/\∀f,f=gC c e.2.1 d e.2.2 64->bQ c f.2.1/\∀g,g=ob Cr c d (f.2.1,f.2.2)->bQ c g.2.1/\∀h,h=ob Cs c d (g.2.1,g.2.2)->bQ c h.2.1/\∀i,i=gC c h.2.1 d h.2.2 64->bQ c i.2.1/\∀j,j=ob Cu c d (i.2.1,i.2.2)->bQ c j.2.1/\∀a,let m:=d&&a.2.2==0;let n:= !(if d=true then a.2.2 else 5)==0;let o:= !(if d=true then if m=true then 5 else a.2.2 else 5)==0;let z:=(e.1,f.1,g.1,h.1,i.1,j.1,a.1,());a=gC c j.2.1 d j.2.2 64->gg z/\Br (!ig z) (True/\True/\Br o (Q ⟨0,(0,[],[],[],[],[],[],()),c,a.2.1,d,if m=true then 5 else a.2.2,()⟩) (Q ⟨0,z,c,a.2.1,d,if m=true then 5 else a.2.2,()⟩)) (True/\Br n (Q ⟨0,(0,[],[],[],[],[],[],()),c,a.2.1,d,a.2.2,()⟩) (Q ⟨0,z,c,a.2.1,d,a.2.2,()⟩))) (by
 conv=>zeta
 unfold Br bd;intro b a m e Q ⟨G,H⟩;have c:∀(r:Et)(s t:Int),eL b m (a,e)=(r,s,t)->Q ⟨0,(r,b,s,m,t,())⟩:=λr s t e=>H (r,s,t) e.symm;clear H;refine⟨G,λk w=>?_⟩;have x:=(eQ m e 1 1 G).1;rw[<-w]at x;refine⟨x,λn y=>?_⟩;have z:=(eQ m k.2.2 1 65536 x).1;rw[<-y]at z;refine⟨z,λp A=>?_⟩;have B:=(ni m n.2.2 64 z).1;rw[<-A]at B;refine⟨B,λC f=>?_⟩;have u:=JE (m:=m) (one:=Cr) (λa e=>EK m e) (p.2.1,p.2.2) B;rw[<-f]at u;refine⟨u.1,λJ i=>?_⟩;have v:=JE (m:=m) (one:=Cs) (λa e=>EL m e) (C.2.1,C.2.2) u.1;rw[<-i]at v;refine⟨v.1,λD j=>?_⟩;have E:=(ni m J.2.2 64 v.1).1;rw[<-j]at E;refine⟨E,λM o=>?_⟩;have F:=JE (m:=m) (one:=Cu) (λa e=>EN m e) (D.2.1,D.2.2) E;rw[<-o]at F;refine⟨F.1,λK q=>?_⟩;have L:MG b m (a,e)=((n.1,p.1,C.1,J.1,D.1,M.1,K.1,()),K.2):=by subst q o j i f A y w;rfl
 unfold eL at c;rw[ck,L]at c;clear L;dsimp only at c;clear w y A f i j o q;refine⟨⟨by have:=u.2;dsimp only;omega,by have:=v.2;dsimp only;omega,by have:=F.2;dsimp only;omega⟩,λh=>⟨trivial,trivial,λg=>c _ _ _ ?_,λg=>c _ _ _ ?_⟩,λh=>⟨trivial,λg=>c _ _ _ ?_,λg=>c _ _ _ ?_⟩⟩
 all_goals
  simp only[aP,aK,az,ne_eq,aR]at h g;simp only[h,g,if_true,if_false,cu,Do]) (l:=λ_=>bp)
def bO(k:Nat)(ts:List Tm):Prop:=(∀t∈ts,eI t)/\ts.length+k<=4294967296
theorem bO.ok{k:Nat}{ts:List Tm}(h:bO k ts):eC ts:=⟨by have:=h.2;omega,h.1⟩
theorem bO.le{k:Nat}{ts:List Tm}(h:bO k ts):ts.length<=4294967296:=by have:=h.2;omega
theorem bO.mono{k j:Nat}{ts:List Tm}(h:bO k ts)(a:j<=k):bO j ts:=⟨h.1,by have:=h.2;omega⟩
theorem oJ{t:Tm}{k:Nat}{ts:List Tm}(m:KV)(h:bO (k+1) ts)(b:eI t):bO k (dV t ts m).2.1:=by
 unfold dV jA;dsimp only;split
 ·refine⟨λx a=>?_,by have:=h.2;simp;omega⟩;rcases bb.1 a with a|a
  ·exact h.1 x a
  ·simp at a;subst a;exact b
 ·exact h.mono (by omega)
theorem pJ{t:Tm}{k:Nat}{ts:List Tm}(m:KV)(h:bO (k+1) ts)(a:eI t):bO k (dh t ts m).2.1:=by
 unfold dh;split
 ·exact oJ m h a
 ·exact h.mono (by omega)
theorem u4(t:Tm)(n:Int):(ko t n).length=(nZ t).toNat:=by
 have:=uT t;simp[ko,eo];omega
theorem tU(t:Tm)(ts:List Tm)(m:KV):(dV t ts m).1.length=(nZ t).toNat:=by unfold dV;exact u4 _ _
theorem JF(t:Tm)(ts:List Tm)(m:KV):(dh t ts m).1.length<=(nZ t).toNat:=by
 unfold dh;split
 ·exact Nat.le_of_eq (tU _ _ _)
 ·simp
theorem Cv{t:Tm}(h:t.1≠98):(nZ t).toNat<=64:=by
 unfold nZ;(repeat' split)<;>first|omega|(exact absurd (by assumption) h)
theorem kD{k:BitVec 8}{b:BL}(a:k≠98)(c:k≠103)(h:aB b):eI (k,[b],()):=gU (.inl (by rw[Wk];have:=h;omega)) (.inr ⟨a, .inr ⟨c,aD _⟩⟩)
theorem yV{k:BitVec 8}{b c:BL}(a:k≠98)(e:k≠112)(h:aB b)(h':aB c):eI (k,[b,c],()):=gU (.inr ⟨e,by rw[Jj];have:=h;have:=h';omega⟩) (.inr ⟨a, .inl (aD _)⟩)
theorem tm4{b c d e:BL}(h:aB b)(h':aB c)(a:aB d)(f:aB e):eI (98,[b,c,d,e],()):=gU (.inr ⟨by decide,by rw[sz4];have:=h;have:=h';have:=a;have:=f;omega⟩) (.inl (aD _))
def gR(n id:Int)(sec pub:BL)(ts:List Tm)(m:KV):(BL×Int)×List Tm×KV:=
 if(my sec pub ts m).2≠0 then(([],(my sec pub ts m).2),(my sec pub ts m).1.2)
 else(((dh (107,[(my sec pub ts m).1.1,vn n++vn id],()) (my sec pub ts m).1.2.1 (my sec pub ts m).1.2.2).1,0),(dh (107,[(my sec pub ts m).1.1,vn n++vn id],()) (my sec pub ts m).1.2.1 (my sec pub ts m).1.2.2).2)
theorem shS{sec pub:BL}{k:Nat}{ts:List Tm}(m:KV)(c:aB sec)(i:aB pub)(h:bO (k+1) ts):(my sec pub ts m).1.1.length<=64/\bO k (my sec pub ts m).1.2.1:=by
 unfold my;split
 ·exact⟨by simp,h.mono (by omega)⟩
 ·split
  ·exact⟨by simp,h.mono (by omega)⟩
  ·rename_i f;have a:(fK pub 112 ts).2=true:=by simpa using f
   have e:=rB (b:=pub) (k:=112) h.ok a;have j:=(e.1.2.2.2.2 e.2).2;have l:=gZ (fK pub 112 ts).1.2.1 0;have n:aB ((fK pub 112 ts).1.2.1.getD 0 [])\/True:= .inr trivial
   have g:eI (100,(if 0<jN sec ((fK pub 112 ts).1.2.1.getD 0 [])then[(fK pub 112 ts).1.2.1.getD 0 [],sec]else[sec,(fK pub 112 ts).1.2.1.getD 0 []]),()):=by
    split
    ·exact gU (.inr ⟨by decide,by rw[Jj];have:=c;omega⟩) (.inr ⟨by decide, .inl (aD _)⟩)
    ·exact gU (.inr ⟨by decide,by rw[Jj];have:=c;omega⟩) (.inr ⟨by decide, .inl (aD _)⟩)
   exact⟨bq (Nat.le_of_eq (tU _ _ _)) (Cv (by show(100:BitVec 8)≠98;decide)),oJ m h g⟩
def RC:Ct:=⟨5,⟨[sS 0 0,sI 1,sI 2,sB 3,sB 4],iK 0⟩,[⟨[sO 0 4,sI 1],lj 0 3++[cT,cB]⟩],λ(n,id,a,b,d,c,m,_)=>dy (aB a/\aB b/\bO 2 c) (gR n id a b c m) λy=>(y.1.2,d,y.2.2,y.2.1,y.1.1,())⟩
def MH:bw:=(83,[RC])::XI
theorem EP:KK MH:=kA a2d (cE RC 0) (∀(a d:Int)(e f:BL)(g:Int)(h:List Tm)(i:KV)Q,bd RC (a,d,e,f,g,h,i,()) Q->(aB e/\aB f/\eC h)/\∀b,b=my e f h i->Br (!b.2==0) (Q ⟨0,b.2,g,b.1.2.2,b.1.2.1,[],()⟩) (0<=1099511627776/\ah (vn a)<=1099511627776/\(aB b.1.1/\aB (vn a++vn d)/\b.1.2.1.length<=4294967296)/\∀c,c=dh (ae 8 107,[b.1.1,vn a++vn d],()) b.1.2.1 b.1.2.2->Q ⟨0,0,g,c.2.2,c.2.1,c.1,()⟩)) (by
 unfold Br bd;intro n id b c d q m Q ⟨⟨g,i,j⟩,o⟩;have a:∀y,gR n id b c q m=y->Q ⟨0,(y.1.2,d,y.2.2,y.2.1,y.1.1,())⟩:=λy e=>o y e.symm;clear o;refine⟨⟨g,i,j.ok⟩,?_⟩;intro r f;have p:=shS m g i j;rw[<-f]at p;unfold gR at a;rw[<-f]at a;clear f;have s:=bz n;have t:=bz id;refine⟨λh=>a (([],r.2),r.1.2) (am (by simpa using h)),λh=>⟨by omega,by omega,⟨by unfold aB;omega,by unfold aB;simp;omega,p.2.le⟩,?_⟩⟩;rintro y rfl;exact a _ (af (by simpa using h))) (l:=λ_=>bp)
def Cw:Ct:=⟨2,⟨[sB 0,(1,true,[.d .i64, .d tB, .d (.sl iL), .d (.sl iG), .d tB, .own 0, .d tB])],[some (.sl tB)]⟩,[⟨[(0,false,[.d tB])],[some (.sl tB)]⟩],λ(b,n,pv,a,c,e,f,g,_)=>one (b.length+(fq (n,pv,a,c,e,[],f,())).length<=1000000000/\gg (n,pv,a,c,e,[],f,())) (b++fq (n,pv,a,c,e,[],f,()),g,())⟩
def coH:List (Option CP):=[some (.sl tB),some (.cells [.d .i64, .d tB, .d (.sl iL), .d (.sl iG), .d tB, .own 0, .d tB])]
def XJ:cg:=⟨[sB 0,(3,false,[.ptr 1 0]),(23,false,[.d (.sl iL)]),sI 24,sI 25],coH⟩
def JG(x:Cw.inp.den)(y:XJ.den):Prop:=match x,y with
 |(j,h,b,a,c,e,f,g,_),(q,l,n,i,m,o,pv,p,r,s,t,_)=>m=g/\o=h/\pv=b/\p=a/\r=c/\s=e/\t=f/\l=a/\n=a.length/\∃k:Nat,i=k/\k<=a.length/\q=j++(vn 1++vn h++tx b++vn a.length++fl pH (a.take k))
def XK:cg:=⟨[sB 0,(3,false,[.ptr 1 0]),(46,false,[.d (.sl iG)]),sI 47,sI 48],coH⟩
def JH(x:Cw.inp.den)(y:XK.den):Prop:=match x,y with
 |(j,h,c,b,a,e,f,g,_),(q,l,n,i,m,o,pv,p,r,s,t,_)=>m=g/\o=h/\pv=c/\p=b/\r=a/\s=e/\t=f/\l=a/\n=a.length/\∃k:Nat,i=k/\k<=a.length/\q=j++(vn 1++vn h++tx c++vn b.length++fl pH b++vn a.length++fl rE (a.take k))
def a2e(x:Cw.inp.den):dB:=⟨[(4,bK XJ (JG x) λ(_,_,n,i,_)=>(n-i).toNat),(10,bK XK (JH x) λ(_,_,n,i,_)=>(n-i).toNat)],[],[],[],0⟩
theorem RD:bS Tryz.prog 84 Cw:=kC EP a2e (∀(d:BL)(f:Int)(c:BL)(g:List Mb)(h:List Fk)(i j:BL)(k:List BL)Q,let A:=(d,f,c,g,h,i,j,k,());bd Cw A Q->d.length<=1099511627776/\(d++vn 1).length<=1099511627776/\(d++vn 1++vn f).length+c.length<=1099511627776/\(d++vn 1++vn f++(vn (nI c)++c)).length<=1099511627776/\Is (JG A (d++vn 1++vn f++(vn (nI c)++c)++vn (nI g),g,nI g,0,k,f,c,g,h,i,j,()))/\∀(l:BL)(b:List Mb)(m a:Int)(s:List BL)(t:Int)(u:BL)(v:List Mb)(n:List Fk)(w y:BL),let B:=(s,t,u,v,n,w,y,());let x:=gD b a (0,[],[],());let D:=vn (↑(ah x.2.1):Int)++x.2.1;JG A (l,b,m,a,B)->Bd (a<m) (iN a b/\l.length<=1099511627776/\(l++vn x.1).length+ah x.2.1<=1099511627776/\(l++vn x.1++D).length+ah x.2.2.1<=1099511627776/\ac (a+1)/\Is (JG A (l++vn x.1++D++(vn (↑(ah x.2.2.1):Int)++x.2.2.1),b,m,a+1,B)/\lN (m-(a+1)) (m-a))) (l.length<=1099511627776/\Is (JH A (l++vn (nI n),n,nI n,0,B))/\∀(o:BL)(p:List Fk)(q e:Int)(z:List BL)(F:Int)(G:BL)(H:List Mb)(J:List Fk)(r K:BL),let E:=(z,F,G,H,J,r,K,());let C:=gD p e (0,0,());JH A (o,p,q,e,E)->Bd (e<q) (iN e p/\o.length<=1099511627776/\(o++vn C.1).length<=1099511627776/\ac (e+1)/\Is (JH A (o++vn C.1++vn C.2.1,p,q,e+1,E)/\lN (q-(e+1)) (q-e))) (o.length+r.length<=1099511627776/\Q ⟨0,o++(vn (nI r)++r),z,()⟩))) (by
 conv=>zeta
 unfold Bd gD iN lN nI bd;rintro b n pv a c j m r Q ⟨⟨t,E,F,G⟩,u⟩;dsimp only at*;have x:∀s:BL,vn s.length++s=tx s:=λ_=>rfl;simp only[x];have v:∀y,y=b++fq (n,pv,a,c,j,[],m,())->Q ⟨0,(y,r,())⟩:=λy e=>by rw[e];exact u
 have w:fq (n,pv,a,c,j,[],m,())=vn 1++vn n++tx pv++vn a.length++fl pH a++vn c.length++fl rE c++tx j:=rfl;have o:b.length+(fq (n,pv,a,c,j,[],m,())).length<=1000000000:=t;rw[w]at o v;clear t u w;simp only[aa]at o;have J:=mz pv;have K:=mz j;simp only[aa];refine⟨by omega,by omega,by omega,by omega,⟨rfl,rfl,rfl,rfl,rfl,rfl,rfl,rfl,rfl,0,rfl,aq _,by simp[fl]⟩,?_⟩;rintro q a z i r n pv A c j m ⟨rfl,rfl,rfl,rfl,rfl,rfl,rfl,rfl,rfl,k,rfl,B,rfl⟩;simp only[aF,ai,aj];have C:=jc pH a k;simp only[aa];refine⟨λh=>?_,λh=>?_⟩
 ·have f:k<a.length:=by omega
  have p:=nR pH (0,[],[],()) f;have g:=jc pH a (k+1);rw[p,aa]at g;generalize a.getD k (0,[],[],())=H at*;simp only[pH,aa]at g;have L:=mz H.2.1;have M:=mz H.2.2.1;refine⟨by omega,by omega,by omega,by omega,by unfold ac;omega,⟨⟨rfl,rfl,rfl,rfl,rfl,rfl,rfl,rfl,rfl,k+1,rfl,f,?_⟩,by omega⟩⟩;rw[p];simp only[pH,ay]
 ·have l:k=a.length:=by omega
  subst l;rw[br]at*;refine⟨by omega,⟨rfl,rfl,rfl,rfl,rfl,rfl,rfl,rfl,rfl,0,rfl,aq _,by simp[fl]⟩,?_⟩;rintro q c z i r n pv a D j m ⟨rfl,rfl,rfl,rfl,rfl,rfl,rfl,rfl,rfl,k,rfl,B,rfl⟩;simp only[aF];have C:=jc rE c k;simp only[aa];refine⟨λh=>?_,λh=>?_⟩
  ·have f:k<c.length:=by omega
   have p:=nR rE (0,0,()) f;have g:=jc rE c (k+1);rw[p,aa]at g;generalize c.getD k (0,0,())=H at*;simp only[rE,aa]at g;refine⟨by omega,by omega,by omega,by unfold ac;omega,⟨⟨rfl,rfl,rfl,rfl,rfl,rfl,rfl,rfl,rfl,k+1,rfl,f,?_⟩,by omega⟩⟩;rw[p];simp only[rE,ay]
  ·have l:k=c.length:=by omega
   subst l;rw[br]at*;refine⟨by omega,v _ ?_⟩;simp only[ay])
def MI:bw:=(84,[Cw,Er])::MH
theorem XL:KK MI:=⟨aQ.add EP.1 (by kernel_rfl) (fQ (RD) (bo (Es))),bg.add EP.2 (fQ (λ_=>bJ) (bo (λ_=>bJ)))⟩
def kg(lg:Lg)(e:Et)(ts:List Tm)(m:KV):Int×Lg×List Tm×KV:=
 lk lg.1 (if ig e=false then(1,lg,ts,m)
 else if e.1<=lg.2.1.length then((if lg.2.2.1.getD (e.1-1).toNat []=(dV (104,[dL e],()) ts m).1 then 16 else 18),lg,(dV (104,[dL e],()) ts m).2)
 else if e.1≠lg.2.1.length+1 then(15,lg,ts,m)
 else if e.2.1≠ll lg.2.1 lg.2.2.1 lg.2.1.length then(17,lg,ts,m)
 else if xX lg.1 (dL e) e.2.2.2.2.2.2.1 ts=false then(10,lg,ts,m)
 else if ED lg.2.1 e.2.2.1 e.2.2.2.1=false then(19,lg,ts,m)
 else(0,(lg.1,lg.2.1++[(e.1,[],e.2.2.1,e.2.2.2.1,[],[],[],())],lg.2.2.1++[(dV (104,[dL e],()) ts m).1],()),(dV (104,[dL e],()) ts m).2))
theorem lm{e:Et}(h:ig e=true):(1<=e.1/\e.1<=65536/\(e.1=1/\e.2.1.length=0\/e.2.1.length=32)/\pw e.2.2.1 e.2.2.2.1=true/\(∀b∈e.2.2.2.2.2.1,b.length=48)/\e.2.2.2.2.1.length=32/\e.2.2.2.2.2.1.length=e.2.2.1.length/\e.2.2.2.2.2.2.1.length=64):=by
 unfold ig at h;exact ag h
def RE:Ct:=⟨3,⟨[sP 0,sS 1 1,(2,true,[.d oI])],sa++iK 1⟩,[⟨[sI 0],sa++lj 1 4++[cT]⟩],λ(e,a,b,c,d,f,m,_)=>dy (aB a/\gg e/\(dL e).length<=100000000/\aB e.2.2.2.2.2.2.1/\pI e.2.2.1/\cC b c/\b.length<=100000/\bO 1 f) (kg (a,b,c,()) e f m) λy=>(y.1,y.2.1.1,y.2.1.2.1,y.2.1.2.2.1,d,y.2.2.2,y.2.2.1,())⟩
def MJ:bw:=(72,[RE])::MI
theorem XM:KK MJ:=kA XL (cE RE 0) (∀(a:Et)(f:BL)(c:List Et)(d:List BL)(h:Int)(e:List Tm)(g:KV)Q,let o:= !ED c a.2.2.1 a.2.2.2.1;let p:= !a.2.1==ll c d (nI c);let l:=aB (dL a)/\e.length<=4294967296;let q:= !xX f (dL a) a.2.2.2.2.2.2.1 e;let i:=(f,c,d,h,g,e,());let j:=0+ah (dL a)<=1000000000/\gg a;let z:=jA (ae 8 104,[dL a],()) e g;bd RE (a,f,c,d,h,e,g,()) Q->gg a/\Br (!ig a) (Q ⟨0,1,i⟩) (Bd (a.1<=nI c) (ac (a.1-1)/\iN (a.1-1) d/\j/\l/\∀b,let r:=gD d (a.1-1) []==b.1;let n:=(f,c,d,h,b.2.2,b.2.1,());b=(ko (ae 8 104,[dL a],()) z.1,z.2)->True/\Br r (Q ⟨0,16,n⟩) (Q ⟨0,18,n⟩)) (ac (nI c+1)/\Br (!a.1==nI c+1) (Q ⟨0,15,i⟩) (cC c d/\True/\Br p (Q ⟨0,17,i⟩) (j/\(aB f/\aB (dL a)/\aB a.2.2.2.2.2.2.1/\eC e)/\Br q (Q ⟨0,10,i⟩) ((yU c/\ah a.2.2.1<=1000000/\ah a.2.2.2.1<=1000000)/\Br o (Q ⟨0,19,i⟩) ((ah a.2.2.1<=1000000/\∀(m:Mb),m∈a.2.2.1->ah m.2.1<=1000000/\ah m.2.2.1<=1000000)/\(0+ah a.2.2.2.1)*16<=mM/\((0:Int)<=0/\0<=nI c/\nI c=nI c/\nI c<=nI c)/\0<1/\((cM (nI c).toNat c).length+1)*152<=mM/\((0:Int)<=0/\0<=nI c/\nI c=nI c/\nI c<=nI d)/\j/\l/\∀b,b=(ko (ae 8 104,[dL a],()) z.1,z.2)->0<1/\((cM (nI c).toNat d).length+1)*24<=mM/\Q ⟨0,0,f,cM (nI c).toNat c++[(a.1,[],a.2.2.1,a.2.2.2.1,[],[],[],())],cM (nI c).toNat d++[b.1],h,b.2.2,b.2.1,()⟩))))))) (by
 conv=>zeta
 unfold Bd Br gD iN mM nI bd;intro e a u A d v m Q ⟨⟨B,j,F,C,D,w,G,x⟩,z⟩;have i:∀o p q r s t,kg (a,u,A,()) e v m=(o,(p,q,r,()),s,t)->Q ⟨0,(o,p,q,r,d,t,s,())⟩:=λo p q r s t e=>z (o,(p,q,r,()),s,t) e.symm;clear z;unfold kg at i;rw[ck]at i;dsimp only at i;have y:aB (dL e):=by unfold aB;omega
 have E:((u.length:Int)).toNat=u.length:=aF _;have H:=w.2.1;simp only[aP,aK,ai,aj,aR,az,ne_eq];refine⟨j,λg=>i _ _ _ _ _ _ (am g),λg=>?_⟩;have J:=lm g;rw[af (by rw[g];decide)]at i;refine⟨λc=>?_,λc=>?_⟩
 ·rw[am c]at i;refine⟨by unfold ac;omega,by omega,⟨by omega,j⟩,⟨y,x.le⟩,?_⟩;intro b n;have n:b=dV (104,[dL e],()) v m:=n;subst n;exact⟨trivial,λf=>i _ _ _ _ _ _ (by rw[am f]),λf=>i _ _ _ _ _ _ (by rw[af f])⟩
 ·rw[af c]at i;refine⟨by unfold ac;omega,λf=>i _ _ _ _ _ _ (am f),λf=>?_⟩;rw[af (λh=>h f)]at i;refine⟨w,trivial,λf=>i _ _ _ _ _ _ (am f),λf=>?_⟩;rw[af (λh=>h f)]at i;refine⟨⟨by omega,j⟩,⟨B,y,C,x.ok⟩,λf=>i _ _ _ _ _ _ (am f),λf=>?_⟩;rw[af (by rw[f];decide)]at i;refine⟨⟨w.1,j.1,j.2.1⟩,λf=>i _ _ _ _ _ _ (am f),λf=>?_⟩;rw[af (by rw[f];decide)]at i;have:=j.2.1;rw[E,br,bf (by omega)];refine⟨⟨j.1,D⟩,by omega,⟨by omega,by omega,trivial,by omega⟩,by omega,by omega,⟨by omega,by omega,trivial,by omega⟩,⟨by omega,j⟩,⟨y,x.le⟩,?_⟩;intro b n;have n:b=dV (104,[dL e],()) v m:=n;subst n;exact⟨by omega,by omega,i _ _ _ _ _ _ rfl⟩) (l:=λ_=>bp)
theorem Vk{sec pub:BL}{k:Nat}{ts:List Tm}(m:KV)(n id:Int)(b:aB sec)(c:aB pub)(h:bO (k+2) ts):(gR n id sec pub ts m).1.1.length<=64/\bO k (gR n id sec pub ts m).2.1:=by
 have a:=shS m b c h;unfold gR;split
 ·exact⟨by simp,a.2.mono (by omega)⟩
 ·have f:=bz n;have g:=bz id;have e:=yV (k:=107) (by decide) (by decide) (show aB (my sec pub ts m).1.1 by have:=a.1;unfold aB;omega) (show aB (vn n++vn id)by unfold aB;simp;omega);exact⟨bq (JF _ _ _) (Cv (by show(107:BitVec 8)≠98;decide)),pJ _ a.2 e⟩
def Dp:List Mb->Int->Nat->Option Nat
 |[],_,_=>none
 |m::r,id,k=>if m.1=id then some k else Dp r id (k+1)
def lM(e:Et)(id:Int)(sec:BL)(ts:List Tm)(m:KV):(BL×Int)×List Tm×KV:=
 lk sec (if ig e=false then(([],13),ts,m)else
 match Dp e.2.2.1 id 0 with
 |none=>(([],13),ts,m)
 |some i=>
  if(gR e.1 id sec e.2.2.2.2.1 ts m).1.2≠0 then(([],(gR e.1 id sec e.2.2.2.2.1 ts m).1.2),(gR e.1 id sec e.2.2.2.2.1 ts m).2)
  else if(sG (gR e.1 id sec e.2.2.2.2.1 ts m).1.1 1 (fq e) (e.2.2.2.2.2.1.getD i []) (gR e.1 id sec e.2.2.2.2.1 ts m).2.1).2≠0 then(([],(sG (gR e.1 id sec e.2.2.2.2.1 ts m).1.1 1 (fq e) (e.2.2.2.2.2.1.getD i []) (gR e.1 id sec e.2.2.2.2.1 ts m).2.1).2),(gR e.1 id sec e.2.2.2.2.1 ts m).2)
  else if(sG (gR e.1 id sec e.2.2.2.2.1 ts m).1.1 1 (fq e) (e.2.2.2.2.2.1.getD i []) (gR e.1 id sec e.2.2.2.2.1 ts m).2.1).1.length≠32 then(([],5),(gR e.1 id sec e.2.2.2.2.1 ts m).2)
  else(((sG (gR e.1 id sec e.2.2.2.2.1 ts m).1.1 1 (fq e) (e.2.2.2.2.2.1.getD i []) (gR e.1 id sec e.2.2.2.2.1 ts m).2.1).1,0),(gR e.1 id sec e.2.2.2.2.1 ts m).2))
def JI:Ct:=⟨4,⟨[sS 0 0,(1,true,[.d oI]),sI 2,sB 3],iK 0⟩,[⟨[(0,false,[.d tB]),sI 1],lj 0 3++[cT]⟩],λ(e,id,a,d,c,m,_)=>dy (aB a/\gg e/\(fq e).length<=100000000/\(∀b∈e.2.2.2.2.2.1,aB b)/\aB e.2.2.2.2.1/\bO 2 c) (lM e id a c m) λy=>(y.1.1,y.1.2,d,y.2.2,y.2.1,())⟩
def XN:cg:=⟨[sS 0 0,sI 2,sB 3,(5,false,[.ptr 3 0]),(19,false,[.d (.sl iL)]),sI 20,sI 21],iK 0++[some (.cells [.d oI])]⟩
def JJ(x:JI.inp.den)(y:XN.den):Prop:=match x,y with
 |(f,a,b,j,g,l,_),(id,h,c,n,i,d,o,m,e,_)=>e=f/\id=a/\h=b/\d=j/\o=g/\m=l/\c=f.2.2.1/\n=c.length/\ig f=true/\∃k:Nat,i=k/\k<=c.length/\Dp (c.drop k) a k=Dp c a 0
def a2f(x:JI.inp.den):dB:=⟨[(4,bK XN (JJ x) λ(_,_,_,n,i,_)=>(n-i).toNat)],[],[],[],0⟩
def MK:bw:=(45,[JI])::MJ
theorem XO:KK MK:=kA XM a2f (∀(d:Et)(k:Int)(l:BL)(g:Int)(h:List Tm)(i:KV)Q,let z:=(d,k,l,g,h,i,());bd JI z Q->gg d/\Br (!ig d) (Q ⟨0,[],13,g,i,h,()⟩) (Is (JJ z (k,l,d.2.2.1,nI d.2.2.1,0,g,h,i,d,()))/\∀(m:Int)(p:BL)(n:List Mb)(j a f:Int)(o:List Tm)(q:KV)(c:Et),let t:= !(gD n a (0,[],[],())).1==m;let s:=bB c.2.2.2.2.2.1 a.toNat [];JJ z (m,p,n,j,a,f,o,q,c,())->Bd (a<j) (iN a n/\Br t (ac (a+1)/\Is (JJ z (m,p,n,j,a+1,f,o,q,c,())/\lN (j-(a+1)) (j-a))) ((aB p/\aB c.2.2.2.2.1/\bO 2 o)/\∀b,let r:=(f,b.2.2,b.2.1,());b=gR c.1 m p c.2.2.2.2.1 o q->Br (!b.1.2==0) (Q ⟨0,[],b.1.2,r⟩) ((0+ah (fq c)<=1000000000/\gg c)/\iN a c.2.2.2.2.2.1/\(aB b.1.1/\aB (fq c)/\aB s/\eC b.2.1)/\∀e,e=sG b.1.1 1 (fq c) s b.2.1->Br (!e.2==0) (Q ⟨0,[],e.2,r⟩) (Br (!(nI e.1)==32) (Q ⟨0,[],5,r⟩) (Q ⟨0,e.1,0,r⟩))))) (Q ⟨0,[],13,f,q,o,()⟩))) (by
 conv=>zeta
 unfold Bd Br gD iN lN nI bd;intro e id q d y m Q ⟨⟨A,w,M,G,B,C⟩,D⟩;have a:∀s t u v,lM e id q y m=((s,t),u,v)->Q ⟨0,(s,t,d,v,u,())⟩:=λs t u v e=>D ((s,t),u,v) e.symm;clear D;unfold lM at a;rw[ck]at a;simp only[aP,aK,ai,aj,aR,az,ne_eq];refine⟨w,λg=>a _ _ _ _ (am g),λg=>?_⟩;rw[af (by rw[g];decide)]at a;have J:=lm g;have K:=J.2.2.2.2.2.2.1;refine⟨⟨rfl,rfl,rfl,rfl,rfl,rfl,rfl,rfl,g,0,rfl,aq _,rfl⟩,?_⟩;rintro id q N n i d y m e ⟨rfl,rfl,rfl,rfl,rfl,rfl,rfl,rfl,_,k,rfl,O,j⟩;simp only[aF];have L:=w.1;refine⟨λh=>?_,λh=>a _ _ _ _ ?_⟩
 ·have r:k<e.2.2.1.length:=by omega
  rw[cZ (z:=((0,[],[],()):Mb)) r]at j;have x:=aS (z:=([]:BL)) (show k<e.2.2.2.2.2.1.length by omega);generalize e.2.2.1.getD k (0,[],[],())=H at*;simp only[Dp]at j;refine⟨by omega,λc=>⟨by unfold ac;omega,⟨⟨rfl,rfl,rfl,rfl,rfl,rfl,rfl,rfl,g,k+1,rfl,r,?_⟩,by omega⟩⟩,λc=>⟨⟨A,B,C⟩,?_⟩⟩
  ·rw[af c]at j;exact j
  ·rw[am c]at j;rw[<-j]at a;dsimp only at a;have p:=Vk m e.1 id A B C;intro b E;rw[<-E]at a p;clear E;refine⟨λf=>a _ _ _ _ (am f),λf=>?_⟩;rw[af (λh=>h f)]at a;refine⟨⟨by omega,w⟩,by omega,⟨by have:=p.1;unfold aB;omega,by unfold aB;omega,G _ x,p.2.ok⟩,?_⟩;intro o F;rw[<-F]at a;clear F;refine⟨λf=>a _ _ _ _ (am f),λf=>?_⟩;rw[af (λh=>h f)]at a;exact⟨λf=>a _ _ _ _ (am (by omega)),λf=>a _ _ _ _ (af (by omega))⟩
 ·rw[<-j,bC (by omega)];rfl) (l:=λ_=>bp)
def u5(n:Int)(once key co:BL):List Mb->List BL->List Tm->KV->(List BL×Int)×List Tm×KV
 |[],b,a,m=>((b,0),a,m)
 |p::r,b,a,m=>
  if(gR n p.1 once p.2.1 a m).1.2≠0 then(([],(gR n p.1 once p.2.1 a m).1.2),(gR n p.1 once p.2.1 a m).2)
  else u5 n once key co r (b++[(lY (gR n p.1 once p.2.1 a m).1.1 1 co key (gR n p.1 once p.2.1 a m).2.1 (gR n p.1 once p.2.1 a m).2.2).1]) (lY (gR n p.1 once p.2.1 a m).1.1 1 co key (gR n p.1 once p.2.1 a m).2.1 (gR n p.1 once p.2.1 a m).2.2).2.1 (lY (gR n p.1 once p.2.1 a m).1.1 1 co key (gR n p.1 once p.2.1 a m).2.1 (gR n p.1 once p.2.1 a m).2.2).2.2
def oK(lg:Lg)(ms:List Mb)(ns:List Fk)(a:BL):Et:=(lg.2.1.length+1,ll lg.2.1 lg.2.2.1 lg.2.1.length,ms,ns,a,[],[],())
def lp(lg:Lg)(ms:List Mb)(ns:List Fk)(a:BL)(b:List BL)(sg:BL):Et:=(lg.2.1.length+1,ll lg.2.1 lg.2.2.1 lg.2.1.length,ms,ns,a,b,sg,())
def RF(lg:Lg)(sec once key:BL)(ms:List Mb)(ns:List Fk)(p:Z):(Et×Int)×List Tm×KV:=
 let z:=u5 (lg.2.1.length+1) once key (fq (oK lg ms ns p.1)) ms [] p.2.1 p.2.2
 if z.1.2≠0 then((Do,z.1.2),z.2)
 else let g:=dh (103,[sec,dL (lp lg ms ns p.1 z.1.1 [])],()) z.2.1 z.2.2
  ((lp lg ms ns p.1 z.1.1 g.1,0),g.2)
def sb(lg:Lg)(sec once key:BL)(ms:List Mb)(ns:List Fk)(ts:List Tm)(m:KV):(Et×Int)×List Tm×KV:=
 lk sec (if sec.length≠32\/once.length≠32\/key.length≠32 then((Do,1),ts,m)
 else
  let v:=dh (118,[sec],()) ts m
  if v.1≠lg.1 then((Do,23),v.2)
  else if(lg.2.1.length:Int)=65536 then((Do,14),v.2)
  else
   let p:=dh (112,[once],()) v.2.1 v.2.2
   if pw ms ns=false\/ED lg.2.1 ms ns=false then((Do,19),p.2)else RF lg sec once key ms ns p)
theorem u6:∀(l:List Int)(last:Int),pG last l=true->last<=4->(l.length:Int)<=4-last
 |[],last,_,h=>by simp;omega
 |n::r,last,h,a=>by
  simp only[pG]at h;split at h
  ·simp at h
  ·rename_i b;have:=u6 r n h (by omega);simp only[ba];omega
theorem fX{ms:List Mb}{ns:List Fk}(h:pw ms ns=true):1<=ms.length/\ms.length<=5/\ns.length<=5/\(∀m∈ms,uZ m)/\(∀e∈ns,yT e):=by
 unfold pw at h;obtain⟨a,_,b,c,d,e⟩:=ag h;have f:=u6 _ _ b (by omega);have g:=u6 _ _ c (by omega);simp only[bT]at f g;exact⟨a,by omega,by omega,d,e⟩
theorem As{α:Type}(f:α->BL)(c:Nat):∀l:List α,(∀x∈l,(f x).length<=c)->(fl f l).length<=l.length*c
 |[],_=>by simp[fl]
 |x::l,h=>by
  have b:=As f c l (λy a=>h y (aA _ a));have g:=h x (aG ..);have e:fl f (x::l)=f x++fl f l:=by simp[fl]
  rw[e,aa,ba,Nat.succ_mul];omega
theorem oL{e:Et}(h:pw e.2.2.1 e.2.2.2.1=true):(fq e).length<=1000+e.2.1.length+e.2.2.2.2.1.length:=by
 obtain⟨_,c,f,a,g⟩:=fX h;have i:=bz 1;have j:=bz e.1;have l:=bz e.2.2.1.length;have n:=bz e.2.2.2.1.length;have o:=dS e.2.1;have p:=dS e.2.2.2.2.1
 have q:=As pH 85 e.2.2.1 (λm b=>by
  obtain⟨r,s⟩:=a m b;have:=bz m.1;have:=dS m.2.1;have:=dS m.2.2.1;simp only[pH,aa];omega)
 have t:=As rE 14 e.2.2.2.1 (λm _=>by
  have:=bz m.1;have:=bz m.2.1;simp only[rE,aa];omega)
 simp only[fq,aa];omega
theorem u7{e:Et}(h:pw e.2.2.1 e.2.2.2.1=true)(c:Nat)(f:∀b∈e.2.2.2.2.2.1,b.length<=c):(dL e).length<=1010+e.2.1.length+e.2.2.2.2.1.length+e.2.2.2.2.2.1.length*(c+7):=by
 have g:=oL h;have i:=bz e.2.2.2.2.2.1.length;have j:=As tx (c+7) e.2.2.2.2.2.1 (λb a=>by have:=dS b;have:=f b a;omega);simp only[dL,aa];omega
theorem rG{es:List Et}{a:List BL}(h:cC es a)(n:Int):(ll es a n).length<=1000000:=by
 unfold ll;split
 ·simp
 ·exact h.2.2.1 _ (aS (by have:=h.2.1;omega))
theorem seS{k o x:BL}{n:Int}{j:Nat}{ts:List Tm}(m:KV)(a:aB k)(b:aB o)(c:aB x)(h:bO (j+1) ts):bO j (lY k n o x ts m).2.1/\(lY k n o x ts m).1.length<=x.length+16:=by
 unfold lY;split
 ·exact⟨h.mono (by omega),by simp⟩
 ·refine⟨pJ m h (tm4 a (by unfold aB;rw[eo];omega) b c),bq (JF _ _ _) ?_⟩;show((if(98:BitVec 8)=103 then(64:Int)else if(98:BitVec 8)=98 then((([k,dv n,o,x]:List BL).getD 3 []).length:Int)+16 else 32)).toNat<=_;simp
def EQ:Ct:=⟨7,⟨[sP 0,sS 1 1,sB 2,sB 3,sB 4,(5,false,[.d (.sl iL)]),(6,false,[.d (.sl iG)])],sa++iK 1⟩,[⟨[(0,true,[.d oI]),sI 1],sa++lj 1 4++[cT]⟩],λ(e,b,key,f,h,a,c,g,d,i,m,_)=>dy (f.length<=1000000/\h.length<=1000000/\pI f/\cC c g/\c.length<=100000/\bO 40 i) (sb (a,c,g,()) e b key f h i m) λy=>(y.1.1,y.1.2,a,c,g,d,y.2.2,y.2.1,())⟩
def XP:cg:=⟨[sS 1 1,sB 2,sB 3,sB 4,(14,false,[.ptr 5 0]),(17,false,[.ptr 4 0]),(86,false,[.d (.sl iL)]),sI 87,sI 88],sa++lj 1 7++[some (.cells [.d .i64, .d tB, .d (.sl iL), .d (.sl iG), .d tB, .own 6, .d tB]),some (.cells [.d oI]),some (.sl tB),cT]⟩
def JK(x:EQ.inp.den)(y:XP.den):Prop:=match x,y with
 |(e,c,g,f,l,q,h,o,z,j,p,_),(t,s,key,A,n,i,a,B,C,d,m,D,pv,u,E,r,F,_,v,w,_)=>
  t=e/\s=c/\key=g/\A=f/\n=f.length/\a=q/\B=h/\C=o/\d=z/\(D,pv,u,E,r,([]:List BL),F,())=oK (q,h,o,()) f l r/\e.length=32/\c.length=32/\g.length=32/\pw f l=true/\ah r<=64/\
  sb (q,h,o,()) e c g f l j p=RF (q,h,o,()) e c g f l (r,(dh (112,[c],()) (dh (118,[e],()) j p).2.1 (dh (118,[e],()) j p).2.2).2)/\
  ∃k:Nat,i=k/\k<=f.length/\ah v=k/\(∀b∈v,ah b<=1000)/\bO (38-3*k) w/\
   u5 (h.length+1) c g (fq (oK (q,h,o,()) f l r)) (f.drop k) v w m=u5 (h.length+1) c g (fq (oK (q,h,o,()) f l r)) f [] (dh (112,[c],()) (dh (118,[e],()) j p).2.1 (dh (118,[e],()) j p).2.2).2.1 (dh (112,[c],()) (dh (118,[e],()) j p).2.1 (dh (118,[e],()) j p).2.2).2.2
def a2g(x:EQ.inp.den):dB:=⟨[(13,bK XP (JK x) λ(_,_,_,_,n,i,_)=>(n-i).toNat)],[],[],[],0⟩
abbrev ER(v:Et×Int×BL×List Et×List BL×Int×KV×List Tm×Unit):cw EQ.out:=⟨0,v⟩
def ML:bw:=(71,[EQ])::MK
theorem XQ:KK ML:=kA XO a2g (∀(p q v:BL)(c:List Mb)(f:List Fk)(d:BL)(a:List Et)(e:List BL)(g:Int)(r:List Tm)(t:KV)Q,let x:=(p,q,v,c,f,d,a,e,g,r,t,());let K:=ER ((0,[],[],[],[],[],[],()),1,d,a,e,g,t,r,());bd EQ x Q->Br (!(nI p)==32) (Q K) (Br (!(nI q)==32) (Q K) (Br (!(nI v)==32) (Q K) ((aB p/\r.length<=4294967296)/\∀b,let O:=(d,a,e,g,b.2.2,b.2.1,());b=dh (ae 8 118,[p],()) r t->True/\Br (!b.1==d) (Q ⟨0,(0,[],[],[],[],[],[],()),23,O⟩) (Br (nI a==65536) (Q ⟨0,(0,[],[],[],[],[],[],()),14,O⟩) (ac (nI a+1)/\cC a e/\(aB q/\b.2.1.length<=4294967296)/\∀s,let P:=ER ((0,[],[],[],[],[],[],()),19,d,a,e,g,s.2.2,s.2.1,());s=dh (ae 8 112,[q],()) b.2.1 b.2.2->(c.length<=1000000/\f.length<=1000000)/\Br (!pw c f) (Q P) ((yU a/\c.length<=1000000/\f.length<=1000000)/\Br (!ED a c f) (Q P) ((c.length<=1000000/\∀(m:Mb),m∈c->ah m.2.1<=1000000/\ah m.2.2.1<=1000000)/\(0+f.length)*16<=mM/\Is (JK x (p,q,v,c,nI c,0,d,a,e,g,s.2.2,nI a+1,ll a e (nI a),c,f,s.1,[],(0,[],[],[],[],[],[],()),[],s.2.1,()))/\∀(A B C:BL)(w:List Mb)(y h:Int)(D:BL)(E:List Et)(F:List BL)(G:Int)(L:KV)(i:Int)(j:BL)(k:List Mb)(l:List Fk)(n o:BL)(R:Et)(u:List BL)(z:List Tm),let M:=gD w h (0,[],[],());let N:=fq (i,j,k,l,n,[],o,());let H:=(i,j,k,l,n,u,o,());JK x (A,B,C,w,y,h,D,E,F,G,L,i,j,k,l,n,o,R,u,z,())->Bd (h<y) (iN h w/\(aB B/\aB M.2.1/\bO 2 z)/\∀b,b=gR i M.1 B M.2.1 z L->Br (!b.1.2==0) (Q ⟨0,(0,[],[],[],[],[],[],()),b.1.2,D,E,F,G,b.2.2,b.2.1,()⟩) ((0+ah N<=1000000000/\gg (i,j,k,l,n,[],o,()))/\(aB b.1.1/\aB N/\aB C/\b.2.1.length<=4294967296)/\∀J,J=lY b.1.1 1 N C b.2.1 b.2.2->(u.length+1)*24<=mM/\ac (h+1)/\Is (JK x (A,B,C,w,y,h+1,D,E,F,G,J.2.2,i,j,k,l,n,o,R,u++[J.1],J.2.1,())/\lN (y-(h+1)) (y-h)))) ((0+ah (dL H)<=1000000000/\gg H)/\(aB A/\aB (dL H)/\z.length<=4294967296)/\∀b,b=dh (ae 8 103,[A,dL H],()) z L->Q ⟨0,(i,j,k,l,n,u,b.1,()),0,D,E,F,G,b.2.2,b.2.1,()⟩))))))))) (by
 conv=>zeta
 unfold Bd Br gD iN lN mM nI bd;intro s j key r t a o u d J m Q ⟨⟨h1,h2,h3,h4,h5,h6⟩,hQ⟩;have K:∀y1 y2 y3 y4,sb (a,o,u,()) s j key r t J m=((y1,y2),y3,y4)->Q ⟨0,(y1,y2,a,o,u,d,y4,y3,())⟩:=λy1 y2 y3 y4 e=>hQ ((y1,y2),y3,y4) e.symm;clear hQ;obtain⟨R,W⟩:∃R,sb (a,o,u,()) s j key r t J m=R:=⟨_,rfl⟩
 have y:(if s.length≠32\/j.length≠32\/key.length≠32 then((Do,1),J,m)
  else
   let v:=dh (118,[s],()) J m
   if v.1≠a then((Do,23),v.2)
   else if(o.length:Int)=65536 then((Do,14),v.2)
   else
    let p:=dh (112,[j],()) v.2.1 v.2.2
    if pw r t=false\/ED o r t=false then((Do,19),p.2)else RF (a,o,u,()) s j key r t p)=R:=by
  rw[<-W];unfold sb;rw[ck]
 rw[W]at K;simp only[aP,aK,ai,aj,aR,az,ne_eq];have f1:(s.length≠32\/j.length≠32\/key.length≠32)->Q ⟨0,(Do,1,a,o,u,d,m,J,())⟩:=λc=>K _ _ _ _ (by rw[<-y,am c]);refine⟨λc=>f1 (.inl (by omega)),λc1=>⟨λc=>f1 (.inr (.inl (by omega))),λc2=>⟨λc=>f1 (.inr (.inr (by omega))),λc3=>?_⟩⟩⟩;clear f1;have e1:s.length=32:=by omega
 have e2:j.length=32:=by omega
 have e3:key.length=32:=by omega
 rw[af (by omega)]at y;dsimp only at y;have hs:aB s:=by unfold aB;omega
 have ho:aB j:=by unfold aB;omega
 have hk:aB key:=by unfold aB;omega
 have hv:=pJ m h6 (kD (k:=118) (by decide) (by decide) hs);refine⟨⟨hs,h6.le⟩,?_⟩;intro v C;have C:v=dh (118,[s],()) J m:=C;rw[<-C]at y hv;refine⟨trivial,λc=>K _ _ _ _ (by rw[<-y,am c];rfl),λc=>?_⟩;rw[af (λh=>h c)]at y;refine⟨λc=>K _ _ _ _ (by rw[<-y,am c];rfl),λc=>?_⟩;rw[af c]at y;have hp:=pJ v.2.2 hv (kD (k:=112) (by decide) (by decide) ho);have M:=bq (JF (112,[j],()) v.2.1 v.2.2) (Cv (by show(112:BitVec 8)≠98;decide));refine⟨by unfold ac;omega,h4,⟨ho,hv.le⟩,?_⟩;intro p D;have D:p=dh (112,[j],()) v.2.1 v.2.2:=D;rw[<-D]at y hp M;refine⟨⟨h1,h2⟩,λc=>K _ _ _ _ (by rw[<-y,am (.inl c)];rfl),λS=>⟨⟨h4.1,h1,h2⟩,λc=>K _ _ _ _ (by rw[<-y,am (.inr c)];rfl),λc5=>?_⟩⟩;rw[af (by rw[S,c5];simp)]at y;have U:dh (112,[j],()) (dh (118,[s],()) J m).2.1 (dh (118,[s],()) J m).2.2=p:=by rw[<-C];exact D.symm
 obtain⟨b1,b2,b3,b4,b5⟩:=fX S;refine⟨⟨h1,h3⟩,by omega,⟨rfl,rfl,rfl,rfl,rfl,rfl,rfl,rfl,rfl,rfl,e1,e2,e3,S,M,?_,0,rfl,aq _,rfl,by simp,hp,?_⟩,?_⟩
 ·rw[W,U];exact y.symm
 ·rw[U];rfl
 ·clear y D hp M C hv;rintro s j key a7 n i a o u d m2 en pv r t w sg rz A N ⟨rfl,rfl,rfl,rfl,rfl,rfl,rfl,rfl,rfl,X,_,_,_,_,a3,hM,k,rfl,a8,Y,a0,F,hL⟩;simp only[oK,Prod.mk.injEq]at X;obtain⟨rfl,rfl,rfl,rfl,-,-,rfl,-⟩:=X;rw[W,U]at hM;rw[U]at hL;simp only[aF];have a9:=rG h4 o.length;have a1:=oL (e:=oK (a,o,u,()) r t w) S
  have a5:(fq (oK (a,o,u,()) r t w)).length<=2000000:=by
   have:(oK (a,o,u,()) r t w).2.1=ll o u o.length:=rfl;rw[this]at a1;have:(oK (a,o,u,()) r t w).2.2.2.2.1=w:=rfl;rw[this]at a1;omega
  refine⟨λc=>?_,λc=>?_⟩
  ·have G:k<r.length:=by omega
   rw[cZ (z:=((0,[],[],()):Mb)) G]at hL;have hm:=b4 _ (aS (z:=((0,[],[],()):Mb)) G);generalize r.getD k (0,[],[],())=H at*;simp only[u5]at hL;have a2:aB H.2.1:=by unfold aB;have:=hm.1;omega
   have a4:38-3*k=(38-3*(k+1))+1+2:=by omega
   rw[a4]at F;have E:=Vk m2 ((o.length:Int)+1) H.1 ho a2 F;refine⟨by omega,⟨ho,a2,F.mono (by omega)⟩,?_⟩;intro b hb;rw[<-hb]at hL E;clear hb;refine⟨λf=>K _ _ _ _ ?_,λf=>?_⟩
   ·rw[am f]at hL;rw[hM];unfold RF;rw[<-hL];dsimp only;rw[am f];rfl
   ·rw[af (λh=>h f)]at hL;have O:=seS (n:=1) b.2.2 (show aB b.1.1 by have:=E.1;unfold aB;omega) (show aB (fq (oK (a,o,u,()) r t w))by unfold aB;omega) hk E.2;refine⟨⟨by show 0+(fq (oK (a,o,u,()) r t w)).length<=_;omega,by show r.length<=_;omega,by show t.length<=_;omega,by simp⟩,⟨by have:=E.1;unfold aB;omega,by show(fq (oK (a,o,u,()) r t w)).length<=_;omega,hk,E.2.le⟩,?_⟩;intro x hx;have hx:x=lY b.1.1 1 (fq (oK (a,o,u,()) r t w)) key b.2.1 b.2.2:=hx;rw[<-hx]at hL O;clear hx;have L:A.length=k:=Y;refine⟨by omega,by unfold ac;omega,⟨⟨rfl,rfl,rfl,rfl,rfl,rfl,rfl,rfl,rfl,rfl,e1,e2,e3,S,a3,by rw[U];exact W.trans hM,k+1,rfl,G,by simp[L],?_,O.1,by rw[U];exact hL⟩,by omega⟩⟩;intro q B;rcases bb.1 B with B|B
    ·exact a0 q B
    ·simp at B;subst B;have:=O.2;omega
  ·have G:k=r.length:=by omega
   rw[bC (by omega)]at hL;have L:A.length=k:=Y;have P:=u7 (e:=lp (a,o,u,()) r t w A []) S 1000 a0
   have a6:(dL (lp (a,o,u,()) r t w A [])).length<=2000000:=by
    have:(lp (a,o,u,()) r t w A []).2.1=ll o u o.length:=rfl;rw[this]at P;have:(lp (a,o,u,()) r t w A []).2.2.2.2.1=w:=rfl;rw[this]at P;have:(lp (a,o,u,()) r t w A []).2.2.2.2.2.1=A:=rfl;rw[this]at P;omega
   refine⟨⟨by show 0+(dL (lp (a,o,u,()) r t w A [])).length<=_;omega,by show r.length<=_;omega,by show t.length<=_;omega,by show A.length<=_;omega⟩,⟨hs,by show(dL (lp (a,o,u,()) r t w A [])).length<=_;omega,F.le⟩,?_⟩;intro g hg;have hg:g=dh (103,[s,dL (lp (a,o,u,()) r t w A [])],()) N m2:=hg;refine K _ _ _ _ ?_;rw[hM];unfold RF;rw[<-hL];have hz:u5 ((o.length:Int)+1) j key (fq (oK (a,o,u,()) r t w)) [] A N m2=((A,0),N,m2):=rfl;rw[hz];dsimp only;rw[af (λh=>h rfl),<-hg];rfl) (l:=λ_=>bp)
abbrev Dq:Ty:= .pr .i64 (.pr .i64 (.pr .i64 (.pr .i64 (.pr tB (.pr tB (.pr tB .un))))))
abbrev Lt:=Int×Int×Int×Int×BL×BL×BL×Unit
def JL:Lt:=(0,0,0,0,[],[],[],())
def xZ(l:Lt):Prop:=2<=l.1/\l.1<=4/\0<=l.2.1/\l.2.1<5/\1<=l.2.2.1/\l.2.2.1<=65536/\1<=l.2.2.2.1/\l.2.2.2.1<=1048576/\(l.1=2/\l.2.2.2.2.1.length=32\/l.2.2.2.2.1.length=0/\(l.1≠2\/l.2.2.2.1=1))
instance (l:Lt):Decidable (xZ l):=by unfold xZ;infer_instance
def MM(l:Lt):Bool:=decide (xZ l)
def yW(i:Nat):Nat×Bool×List IP:=(i,true,[.d Dq])
def RG:Ct:=⟨1,⟨[yW 0],[]⟩,[⟨[sL 0],[]⟩],λ(l,_)=>one True (MM l,())⟩
def MN:bw:=(101,[RG])::ML
theorem XR:KK MN:=kA XQ (cE RG 0) (∀(a:Lt)Q,let z:=Br (nI a.2.2.2.2.1==0) (Br (!a.1==2) (Q ⟨0,true,()⟩) (Q ⟨0,a.2.2.2.1==1,()⟩)) (Q ⟨0,false,()⟩);bd RG (a,()) Q->Bd (a.1<2) (Q ⟨0,false,()⟩) (Bd (4<a.1) (Q ⟨0,false,()⟩) (Bd (a.2.1<0) (Q ⟨0,false,()⟩) (Bd (5<=a.2.1) (Q ⟨0,false,()⟩) (Bd (a.2.2.1<1) (Q ⟨0,false,()⟩) (Bd (65536<a.2.2.1) (Q ⟨0,false,()⟩) (Bd (a.2.2.2.1<1) (Q ⟨0,false,()⟩) (Bd (1048576<a.2.2.2.1) (Q ⟨0,false,()⟩) (Br (a.1==2) (Br (nI a.2.2.2.2.1==32) (Q ⟨0,true,()⟩) z) z))))))))) (by
 conv=>zeta
 unfold Bd Br nI bd;rintro⟨k,a,e,n,p,b,s,⟨⟩⟩ Q ⟨_,c⟩;dsimp only at*
 have hB:∀y:Bool,(y=true↔(2<=k/\k<=4/\0<=a/\a<5/\1<=e/\e<=65536/\1<=n/\n<=1048576/\(k=2/\p.length=32\/p.length=0/\(k≠2\/n=1))))->Q ⟨0,(y,())⟩:=by
  intro y f;have:y=MM (k,a,e,n,p,b,s,()):=by unfold MM;rw[mi,f,ai];exact Iff.rfl
  rw[this];exact c
 clear c
 (repeat' (first|apply cc|intro _))<;>refine hB _ ?_<;>simp only[ai,aj,aP,aK,aR,az,ne_eq,cu,false_iff,true_iff]at* <;>omega)
def jR(l:Lt):Bool:=decide (xZ l/\(fe ((l.2.2.2.2.2.1.length:Int)-17)).2=0/\(fe ((l.2.2.2.2.2.1.length:Int)-17)).1+16=l.2.2.2.2.2.1.length/\l.2.2.2.2.2.2.1.length=64)
def RH:Ct:=⟨1,⟨[yW 0],[]⟩,[⟨[sL 0],[]⟩],λ(l,_)=>one (l.2.2.2.2.2.1.length<=1099511627776) (jR l,())⟩
def MO:bw:=(64,[RH])::MN
theorem XS:KK MO:=kA XR (cE RH 0) (∀(a:Lt)Q,let z:=fe (nI a.2.2.2.2.2.1-17);let b:=z.1+16==nI a.2.2.2.2.2.1;bd RH (a,()) Q->ac (nI a.2.2.2.2.2.1-17)/\True/\True/\Br (MM a) (Br (z.2==0) (ac (z.1+16)/\Br b (Q ⟨0,nI a.2.2.2.2.2.2.1==64,()⟩) (Q ⟨0,false,()⟩)) (Q ⟨0,false,()⟩)) (Q ⟨0,false,()⟩)) (by
 conv=>zeta
 unfold Br nI bd;intro l Q ⟨j,e⟩
 have hB:∀y:Bool,(y=true↔(xZ l/\(fe ((l.2.2.2.2.2.1.length:Int)-17)).2=0/\(fe ((l.2.2.2.2.2.1.length:Int)-17)).1+16=l.2.2.2.2.2.1.length/\l.2.2.2.2.2.2.1.length=64))->Q ⟨0,(y,())⟩:=by
  intro y g;have:y=jR l:=by unfold jR;rw[mi,g,ai]
  rw[this];exact e
 clear e;have i:=tR ((l.2.2.2.2.2.1.length:Int)-17);have f:MM l=true↔xZ l:=by unfold MM;rw[ai]
 generalize fe ((l.2.2.2.2.2.1.length:Int)-17)=K at*;simp only[aP,aK,aR,az,ne_eq];refine⟨by unfold ac;omega,trivial,trivial,λa=>⟨λb=>⟨by have:=i b;unfold ac;omega,λc=>hB _ ?_,λc=>hB _ ?_⟩,λb=>hB _ ?_⟩,λa=>hB _ ?_⟩
 ·simp only[aR];exact⟨λh=>⟨f.1 a,b,c,Int.ofNat.inj h⟩,λh=>by have:=h.2.2.2;omega⟩
 ·exact⟨λh=>by simp at h,λh=>absurd h.2.2.1 c⟩
 ·exact⟨λh=>by simp at h,λh=>absurd h.2.1 b⟩
 ·exact⟨λh=>by simp at h,λh=>by rw[f.2 h.1]at a;simp at a⟩)
def ei(l:Lt):BL:=vn l.1++vn l.2.1++vn l.2.2.1++vn l.2.2.2.1++tx l.2.2.2.2.1
theorem mV(l:Lt):(ei l).length<=35+l.2.2.2.2.1.length:=by
 have a:=bz l.1;have b:=bz l.2.1;have c:=bz l.2.2.1;have e:=bz l.2.2.2.1;have f:=dS l.2.2.2.2.1;simp only[ei,aa];omega
def RI:Ct:=⟨2,⟨[sB 0,yW 1],[]⟩,[⟨[(0,false,[.d tB])],[]⟩],λ(b,l,_)=>one (b.length+l.2.2.2.2.1.length<=1000000000) (b++ei l,())⟩
def MP:bw:=(87,[RI])::MO
theorem XT:KK MP:=kA XS (cE RI 5) (∀(b:BL)(a:Lt)Q,bd RI (b,a,()) Q->b.length<=1099511627776/\(b++vn a.1).length<=1099511627776/\(b++vn a.1++vn a.2.1).length<=1099511627776/\(b++vn a.1++vn a.2.1++vn a.2.2.1).length<=1099511627776/\(b++vn a.1++vn a.2.1++vn a.2.2.1++vn a.2.2.2.1).length+ah a.2.2.2.2.1<=1099511627776/\Q ⟨0,b++vn a.1++vn a.2.1++vn a.2.2.1++vn a.2.2.2.1++(vn (nI a.2.2.2.2.1)++a.2.2.2.2.1),()⟩) (by
 unfold nI bd;rintro b ⟨k,a,e,n,p,c,s,⟨⟩⟩ Q ⟨h,f⟩;dsimp only at*;have g:∀y,y=b++ei (k,a,e,n,p,c,s,())->Q ⟨0,(y,())⟩:=λy e=>by rw[e];exact f
 have i:=bz k;have j:=bz a;have l:=bz e;have m:=bz n;simp only[aa];refine⟨by omega,by omega,by omega,by omega,by omega,g _ ?_⟩;simp only[ei,tx,ay])
def gh(l:Lt):BL:=ei l++tx l.2.2.2.2.2.1++tx l.2.2.2.2.2.2.1
def RJ:Ct:=⟨2,⟨[sB 0,yW 1],[]⟩,[⟨[(0,false,[.d tB])],[]⟩],λ(b,l,_)=>one (b.length+l.2.2.2.2.1.length+l.2.2.2.2.2.1.length+l.2.2.2.2.2.2.1.length<=1000000000) (b++gh l,())⟩
def MQ:bw:=(82,[RJ])::MP
theorem XU:KK MQ:=kA XT (cE RJ 0) (∀(b:BL)(a:Lt)Q,let z:=vn (nI a.2.2.2.2.2.1)++a.2.2.2.2.2.1;bd RJ (b,a,()) Q->b.length+ah a.2.2.2.2.1<=1000000000/\(b++ei a).length+ah a.2.2.2.2.2.1<=1099511627776/\(b++ei a++z).length+ah a.2.2.2.2.2.2.1<=1099511627776/\Q ⟨0,b++ei a++z++(vn (nI a.2.2.2.2.2.2.1)++a.2.2.2.2.2.2.1),()⟩) (by
 conv=>zeta
 unfold nI bd;rintro b l Q ⟨f,a⟩;have c:∀y,y=b++gh l->Q ⟨0,(y,())⟩:=λy e=>by rw[e];exact a
 have g:=mV l;have h:=bz l.2.2.2.2.2.1.length;simp only[aa];refine⟨by omega,by omega,by omega,c _ ?_⟩;simp only[gh,tx,ay])
def Im(b:BL)(m:Bool)(s:Rs):Lt×Rs:=
 let k:=cW b s.1 m s.2 2 4
 let a:=cW b k.2.1 m k.2.2 0 4
 let e:=cW b a.2.1 m a.2.2 1 65536
 let n:=cW b e.2.1 m e.2.2 1 1048576
 let p:=gC b n.2.1 m n.2.2 64
 let x:=gC b p.2.1 m p.2.2 4112
 let g:=gC b x.2.1 m x.2.2 64
 ((k.1,a.1,e.1,n.1,p.1,x.1,g.1,()),g.2)
def fR(b:BL)(m:Bool)(s:Rs):Lt×Rs:=
 lk b (let x:=Im b m s
 let a:=if jR x.1=true then x.2.2 else if(m&&x.2.2==0)=true then 5 else x.2.2
 (if(if m=true then a else 5)=0 then x.1 else JL,(x.2.1,a)))
def RK:Ct:=⟨1,⟨[sP 0],rH⟩,[⟨[yW 0],rH⟩],λ(b,a,m,e,_)=>dy (bQ b a) (fR b m (a,e)) λy=>(y.1,b,y.2.1,m,y.2.2,())⟩
def MR:bw:=(27,[RK])::MQ
theorem XV:KK MR:=kA XU (cE RK 0) (∀(d:BL)(j:Int)(c:Bool)(k:Int)Q,bd RK (d,j,c,k,()) Q->bQ d j/\∀b,b=cW d j c k 2 4->bQ d b.2.1/\∀f,f=cW d b.2.1 c b.2.2 0 4->bQ d f.2.1/\∀g,g=cW d f.2.1 c f.2.2 1 65536->bQ d g.2.1/\∀h,h=cW d g.2.1 c g.2.2 1 1048576->bQ d h.2.1/\∀i,i=gC d h.2.1 c h.2.2 64->bQ d i.2.1/\∀e,e=gC d i.2.1 c i.2.2 4112->bQ d e.2.1/\∀a,let l:=c&&a.2.2==0;let m:= !(if c=true then a.2.2 else 5)==0;let n:= !(if c=true then if l=true then 5 else a.2.2 else 5)==0;let z:=(b.1,f.1,g.1,h.1,i.1,e.1,a.1,());a=gC d e.2.1 c e.2.2 64->ah e.1<=1099511627776/\Br (!jR z) (True/\True/\Br n (Q ⟨0,(0,0,0,0,[],[],[],()),d,a.2.1,c,if l=true then 5 else a.2.2,()⟩) (Q ⟨0,z,d,a.2.1,c,if l=true then 5 else a.2.2,()⟩)) (True/\Br m (Q ⟨0,(0,0,0,0,[],[],[],()),d,a.2.1,c,a.2.2,()⟩) (Q ⟨0,z,d,a.2.1,c,a.2.2,()⟩))) (by
 conv=>zeta
 unfold Br bd;intro b a m e Q ⟨D,E⟩;have f:∀(o:Lt)(q r:Int),fR b m (a,e)=(o,q,r)->Q ⟨0,(o,b,q,m,r,())⟩:=λo q r e=>E (o,q,r) e.symm;clear E;refine⟨D,λk s=>?_⟩;have t:=(eQ m e 2 4 D).1;rw[<-s]at t;refine⟨t,λF i=>?_⟩;have u:=(eQ m k.2.2 0 4 t).1;rw[<-i]at u;refine⟨u,λG j=>?_⟩;have v:=(eQ m F.2.2 1 65536 u).1;rw[<-j]at v;refine⟨v,λn w=>?_⟩;have y:=(eQ m G.2.2 1 1048576 v).1;rw[<-w]at y;refine⟨y,λp z=>?_⟩;have A:=(ni m n.2.2 64 y).1;rw[<-z]at A;refine⟨A,λx B=>?_⟩;have C:=ni m p.2.2 4112 A;rw[<-B]at C;refine⟨C.1,λg H=>?_⟩;have J:Im b m (a,e)=((k.1,F.1,G.1,n.1,p.1,x.1,g.1,()),g.2):=by subst H B z w j i s;rfl
 unfold fR at f;rw[ck,J]at f;clear J;dsimp only at f;clear s i j w z B H;refine⟨by have:=C.2.2;omega,λh=>⟨trivial,trivial,λc=>f _ _ _ ?_,λc=>f _ _ _ ?_⟩,λh=>⟨trivial,λc=>f _ _ _ ?_,λc=>f _ _ _ ?_⟩⟩
 all_goals
  simp only[aP,aK,az,ne_eq,aR]at h c;simp only[h,c,if_true,if_false,cu,JL]) (l:=λ_=>bp)
def jg(l:Lt):BL:=vn l.1++vn l.2.1
def RL:Ct:=⟨3,⟨[sS 0 0,sB 1,yW 2],iK 0⟩,[⟨[sO 0 4],lj 0 3++[cT,cB]⟩],λ(a,l,d,b,m,_)=>dy (aB a/\b.length<=4294967296) (dh (107,[a,jg l],()) b m) λy=>(d,y.2.2,y.2.1,y.1,())⟩
def MS:bw:=(86,[RL])::MR
theorem XW:KK MS:=kA XV (cE RL 0) (∀(c:BL)(a:Lt)(e:Int)(d:List Tm)(f:KV)Q,bd RL (c,a,e,d,f,()) Q->0<=1099511627776/\ah (vn a.1)<=1099511627776/\(aB c/\aB (vn a.1++vn a.2.1)/\d.length<=4294967296)/\∀b,b=dh (ae 8 107,[c,vn a.1++vn a.2.1],()) d f->Q ⟨0,e,b.2.2,b.2.1,b.1,()⟩) (by
 unfold bd;intro g l d h m Q ⟨⟨a,c⟩,e⟩;have i:=bz l.1;have j:=bz l.2.1;exact⟨by omega,by omega,⟨a,by unfold aB;simp;omega,c⟩,λb f=>e b f⟩) (l:=λ_=>bp)
theorem paA(b:BL):(lK b).2=0->64<=(lK b).1.length/\(lK b).1.length<=4096:=by
 unfold lK;split
 ·rename_i h;have:=tR b.length h;intro _;simp only[aa,ba,List.length_replicate];omega
 ·rename_i h;intro a;exact absurd a h
def XX(sec ep:BL)(l:Lt)(pd:BL)(ts:List Tm)(m:KV):(Lt×Int)×List Tm×KV:=
 let k:=dh (107,[ep,jg l],()) ts m
 let b:=lY k.1 l.2.2.2.1 (ei l) pd k.2.1 k.2.2
 let h:=dV (104,[b.1],()) b.2.1 b.2.2
 let g:=dh (103,[sec,ei l++tx h.1],()) h.2.1 h.2.2
 (((l.1,l.2.1,l.2.2.1,l.2.2.2.1,l.2.2.2.2.1,b.1,g.1,()),0),g.2)
def sd(sec ep:BL)(l:Lt)(text:BL)(ts:List Tm)(m:KV):(Lt×Int)×List Tm×KV:=
 lk sec (if sec.length≠32\/ep.length≠32\/MM l=false then((JL,1),ts,m)
 else if(lK text).2≠0 then((JL,(lK text).2),ts,m)
 else XX sec ep l (lK text).1 ts m)
def JM:Ct:=⟨5,⟨[sS 0 0,sB 1,sB 2,yW 3,sB 4],iK 0⟩,[⟨[yW 0,sI 1],lj 0 3++[cT]⟩],λ(a,c,l,text,d,b,m,_)=>dy (bO 4 b) (sd a c l text b m) λy=>(y.1.1,y.1.2,d,y.2.2,y.2.1,())⟩
abbrev RM(v:Lt×Int×Int×KV×List Tm×Unit):cw JM.out:=⟨0,v⟩
def MT:bw:=(81,[JM])::MS
theorem XY:KK MT:=kA XW (cE JM 0) (∀(h i:BL)(a:Lt)(e:BL)(f:Int)(d:List Tm)(g:KV)Q,let l:=ei (a.1,a.2.1,a.2.2.1,a.2.2.2.1,a.2.2.2.2.1,[],[],());let z:=RM ((0,0,0,0,[],[],[],()),1,f,g,d,());bd JM (h,i,a,e,f,d,g,()) Q->Br (!(nI h)==32) (Q z) (Br (!(nI i)==32) (Q z) (True/\Br (!MM a) (Q z) (True/\Br (!(lK e).2==0) (Q ⟨0,(0,0,0,0,[],[],[],()),(lK e).2,f,g,d,()⟩) ((0+ah a.2.2.2.2.1)*1<=mM/\(aB i/\d.length<=4294967296)/\∀b,b=dh (ae 8 107,[i,jg (a.1,a.2.1,a.2.2.1,a.2.2.2.1,a.2.2.2.2.1,[],[],())],()) d g->0+ah a.2.2.2.2.1<=1000000000/\(aB b.1/\aB l/\aB (lK e).1/\b.2.1.length<=4294967296)/\∀c,let m:=jA (ae 8 104,[c.1],()) c.2.1 c.2.2;c=lY b.1 a.2.2.2.1 l (lK e).1 b.2.1 b.2.2->0+ah a.2.2.2.2.1<=1000000000/\(aB c.1/\c.2.1.length<=4294967296)/\∀b,b=(ko (ae 8 104,[c.1],()) m.1,m.2)->ah (ei (a.1,a.2.1,a.2.2.1,a.2.2.2.1,a.2.2.2.2.1,c.1,[],()))+ah b.1<=1099511627776/\(aB h/\aB (ei (a.1,a.2.1,a.2.2.1,a.2.2.2.1,a.2.2.2.2.1,c.1,[],())++(vn (nI b.1)++b.1))/\b.2.1.length<=4294967296)/\∀j,j=dh (ae 8 103,[h,ei (a.1,a.2.1,a.2.2.1,a.2.2.2.1,a.2.2.2.2.1,c.1,[],())++(vn (nI b.1)++b.1)],()) b.2.1 b.2.2->Q ⟨0,(a.1,a.2.1,a.2.2.1,a.2.2.2.1,a.2.2.2.2.1,c.1,j.1,()),0,f,j.2.2,j.2.1,()⟩))))) (by
 conv=>zeta
 unfold Br mM nI bd;intro a i l text d y m Q ⟨h,C⟩;have f:∀p q r s,sd a i l text y m=((p,q),r,s)->Q ⟨0,(p,q,d,s,r,())⟩:=λp q r s e=>C ((p,q),r,s) e.symm;clear C;unfold sd at f;rw[ck]at f;simp only[aP,aK,ai,aj,aR,az,ne_eq];refine⟨λc=>f _ _ _ _ (am (.inl (by omega))),λO=>⟨λc=>f _ _ _ _ (am (.inr (.inl (by omega)))),λP=>⟨trivial,λc=>f _ _ _ _ (am (.inr (.inr c))),λD=>?_⟩⟩⟩;have R:a.length=32:=by omega
 have S:i.length=32:=by omega
 rw[af (by rw[D];simp;omega)]at f;refine⟨trivial,λc=>f _ _ _ _ (am c),λE=>?_⟩;rw[af (λh=>h E)]at f;have H:xZ l:=ag D;have J:l.2.2.2.2.1.length<=32:=by have:=H.2.2.2.2.2.2.2.2;omega
 have U:=mV l;have W:=paA text E;have K:aB a:=by unfold aB;omega
 have F:aB i:=by unfold aB;omega
 have j:aB (ei l):=by unfold aB;omega
 have X:=bz l.1;have Y:=bz l.2.1;have z:=pJ m h (yV (k:=107) (by decide) (by decide) F (show aB (jg l)by unfold aB jg;simp;omega));have L:=bq (JF (107,[i,jg l],()) y m) (Cv (by show(107:BitVec 8)≠98;decide));refine⟨by omega,⟨F,h.le⟩,?_⟩;intro k u;have u:k=dh (107,[i,jg l],()) y m:=u;rw[<-u]at z L;have A:=seS (n:=l.2.2.2.1) k.2.2 (show aB k.1 by unfold aB;omega) j (show aB (lK text).1 by unfold aB;omega) z;refine⟨by omega,⟨by unfold aB;omega,j,by unfold aB;omega,z.le⟩,?_⟩;intro b v;have v:b=lY k.1 l.2.2.2.1 (ei l) (lK text).1 k.2.1 k.2.2:=v;rw[<-v]at A;have o:aB b.1:=by unfold aB;omega
 have G:=oJ b.2.2 A.1 (kD (k:=104) (by decide) (by decide) o);have M:=tU (104,[b.1],()) b.2.1 b.2.2;have N:=Cv (t:=(104,[b.1],())) (by show(104:BitVec 8)≠98;decide);refine⟨by omega,⟨o,A.1.le⟩,?_⟩;intro x w;have w:x=dV (104,[b.1],()) b.2.1 b.2.2:=w;rw[<-w]at G M;have tl:=dS x.1;refine⟨by show(ei l).length+x.1.length<=_;omega,⟨K,by show(ei l++tx x.1).length<=_;rw[aa];omega,G.le⟩,?_⟩;intro g B;have B:g=dh (103,[a,ei l++tx x.1],()) x.2.1 x.2.2:=B;refine f _ _ _ _ ?_;unfold XX;dsimp only;rw[<-u,<-v,<-w,<-B]) (l:=λ_=>bp)
def lkZ:Lk:=(0,0,0,[],[],())
def tV(sg:BL)(l:Lt)(ts:List Tm)(m:KV):(Lk×Int)×List Tm×KV:=
 lk sg (if jR l=false then((lkZ,1),ts,m)
 else
  let h:=dV (104,[l.2.2.2.2.2.1],()) ts m
  if xX sg (ei l++tx h.1) l.2.2.2.2.2.2.1 h.2.1=false then((lkZ,10),h.2)
  else(((l.2.1,l.2.2.2.1,l.2.2.1,l.2.2.2.2.1,h.1,()),0),h.2))
def hC(l:Lt):Prop:=l.2.2.2.2.1.length<=1000000/\l.2.2.2.2.2.1.length<=1000000/\l.2.2.2.2.2.2.1.length<=1000000
def RN:Ct:=⟨3,⟨[sS 0 0,sB 1,yW 2],iK 0⟩,[⟨[(0,true,[.d Aq]),sI 1],lj 0 3++[cT]⟩],λ(a,l,d,b,m,_)=>dy (aB a/\hC l/\bO 1 b) (tV a l b m) λy=>(y.1.1,y.1.2,d,y.2.2,y.2.1,())⟩
def MU:bw:=(163,[RN])::MT
theorem XZ:KK MU:=kA XY (cE RN 0) (∀(d:BL)(a:Lt)(e:Int)(c:List Tm)(f:KV)Q,let g:=jA (ae 8 104,[a.2.2.2.2.2.1],()) c f;bd RN (d,a,e,c,f,()) Q->ah a.2.2.2.2.2.1<=1099511627776/\Br (!jR a) (Q ⟨0,(0,0,0,[],[],()),1,e,f,c,()⟩) ((aB a.2.2.2.2.2.1/\c.length<=4294967296)/\∀b,let h:=ei a++(vn (nI b.1)++b.1);let z:= !xX d h a.2.2.2.2.2.2.1 b.2.1;b=(ko (ae 8 104,[a.2.2.2.2.2.1],()) g.1,g.2)->0+ah a.2.2.2.2.1<=1000000000/\ah (ei a)+ah b.1<=1099511627776/\(aB d/\aB h/\aB a.2.2.2.2.2.2.1/\eC b.2.1)/\Br z (Q ⟨0,(0,0,0,[],[],()),10,e,b.2.2,b.2.1,()⟩) ((0+ah a.2.2.2.2.1)*1<=mM/\Q ⟨0,(a.2.1,a.2.2.2.1,a.2.2.1,a.2.2.2.2.1,b.1,()),0,e,b.2.2,b.2.1,()⟩))) (by
 conv=>zeta
 unfold Br mM nI bd;intro p l d o m Q ⟨⟨s,u,h⟩,q⟩;have a:∀f g i j,tV p l o m=((f,g),i,j)->Q ⟨0,(f,g,d,j,i,())⟩:=λf g i j e=>q ((f,g),i,j) e.symm;clear q;unfold tV at a;rw[ck]at a;simp only[aP,aK,ai,aj,aR,az,ne_eq];obtain⟨A,B,C⟩:=u;have b:aB l.2.2.2.2.2.1:=by unfold aB;omega
 have D:=mV l;refine⟨by omega,λc=>a _ _ _ _ (am c),λv=>⟨⟨b,h.le⟩,?_⟩⟩;rw[af (by rw[v];decide)]at a;have r:=oJ m h (kD (k:=104) (by decide) (by decide) b);have w:=tU (104,[l.2.2.2.2.2.1],()) o m;have y:=Cv (t:=(104,[l.2.2.2.2.2.1],())) (by show(104:BitVec 8)≠98;decide);intro x n;have n:x=dV (104,[l.2.2.2.2.2.1],()) o m:=n;rw[<-n]at r w a;clear n;have E:=dS x.1;refine⟨by omega,by omega,⟨s,by show(ei l++tx x.1).length<=_;rw[aa];omega,by unfold aB;omega,r.ok⟩,λc=>a _ _ _ _ (am c),λc=>⟨by omega,a _ _ _ _ (af (λh=>?_))⟩⟩;have z:xX p (ei l++tx x.1) l.2.2.2.2.2.2.1 x.2.1=true:=c;rw[z]at h;simp at h) (l:=λ_=>bp)
theorem opA{k:BL}{n:Int}{o x:BL}{ts:List Tm}(h:eC ts):(sG k n o x ts).1.length<=1099511627776:=by
 unfold sG;split
 ·simp
 ·split
  ·rename_i a;have c:=rB (b:=x) (k:=98) h a.1;have:=gZ (fK x 98 ts).1.2.1 3;have:=c.1.1;dsimp only;omega
  ·simp
def loH:List (Option CP):=[some (.cells [.ifc 96 5 0]),some (.cells [.d tB]),some (.cells [.d Dq]),some (.cells [.d tB]),some (.cells [.d .i64])]
def Cx(ep:BL)(l:Lt)(ts:List Tm)(m:KV):(BL×Int)×List Tm×KV:=
 (sG (dh (107,[ep,jg l],()) ts m).1 l.2.2.2.1 (ei l) l.2.2.2.2.2.1 (dh (107,[ep,jg l],()) ts m).2.1,(dh (107,[ep,jg l],()) ts m).2)
theorem loA{ep:BL}{l:Lt}{k:Nat}{ts:List Tm}(m:KV)(b:aB ep)(h:bO (k+1) ts):bO k (Cx ep l ts m).2.1/\(Cx ep l ts m).1.1.length<=1099511627776:=by
 have c:=bz l.1;have e:=bz l.2.1;have a:=pJ m h (yV (k:=107) (by decide) (by decide) b (show aB (jg l)by unfold aB jg;simp;omega));exact⟨a,opA a.ok⟩
def RO:Ct:=⟨5,⟨[(0,false,[.ptr 0 0]),(1,false,[.ptr 1 0]),(2,false,[.ptr 2 0]),(3,false,[.ptr 3 0]),(4,false,[.ptr 4 0])],loH++iK 5⟩,[⟨[],loH++lj 5 8++[cT]⟩],λ(a,l,_,_,d,b,m,_)=>dy (aB a/\hC l/\bO 1 b) (Cx a l b m) λy=>(a,l,y.1.1,y.1.2,d,y.2.2,y.2.1,())⟩
def MV:bw:=(85,[RO])::MU
theorem X0:KK MV:=kA XZ (cE RO 0) (∀(c:BL)(a:Lt)(h:BL)(i f:Int)(e:List Tm)(g:KV)Q,bd RO (c,a,h,i,f,e,g,()) Q->(aB c/\e.length<=4294967296)/\∀b,b=dh (ae 8 107,[c,jg a],()) e g->0+ah a.2.2.2.2.1<=1000000000/\(aB b.1/\aB (ei a)/\aB a.2.2.2.2.2.1/\eC b.2.1)/\∀d,d=sG b.1 a.2.2.2.1 (ei a) a.2.2.2.2.2.1 b.2.1->Q ⟨0,c,a,d.1,d.2,f,b.2.2,b.2.1,()⟩) (by
 unfold bd;intro b l _ _ d c m Q ⟨⟨e,f,h⟩,g⟩;obtain⟨j,n,p⟩:=f;have q:=mV l;have r:=bz l.1;have s:=bz l.2.1;have i:=pJ m h (yV (k:=107) (by decide) (by decide) e (show aB (jg l)by unfold aB jg;simp;omega));have t:=bq (JF (107,[b,jg l],()) c m) (Cv (by show(107:BitVec 8)≠98;decide));refine⟨⟨e,h.le⟩,?_⟩;intro k a;have a:k=dh (107,[b,jg l],()) c m:=a;subst a;refine⟨by omega,⟨by unfold aB;omega,by unfold aB;omega,by unfold aB;omega,i.ok⟩,?_⟩;rintro o rfl;exact g _ rfl) (l:=λ_=>bp)
def RP:Ct:=⟨2,⟨[(0,false,[.ptr 0 0]),(1,false,[.ptr 1 0])],[some (.cells [.d tB]),some (.cells [.d .i64])]⟩,[⟨[],[some (.cells [.d tB]),some (.cells [.d .i64])]⟩],λ(b,_,_)=>dy (b.length<=1099511627776) (Co b) λy=>(y.1,y.2,())⟩
def MW:bw:=(88,[RP])::MV
theorem X1:KK MW:=kA X0 (cE RP 0) (∀(a:BL)(b:Int)Q,bd RP (a,b,()) Q->a.length<=1099511627776/\Q ⟨0,(Co a).1,(Co a).2,()⟩) (by
 unfold bd;intro b _ Q ⟨h,a⟩;exact⟨h,a _ rfl⟩) (l:=λ_=>bp)
def mW(ep:BL)(l:Lt)(ts:List Tm)(m:KV):(BL×Int)×List Tm×KV:=
 lk ep (if jR l=false\/ep.length≠32 then(([],1),ts,m)
 else if(Cx ep l ts m).1.2≠0 then(([],(Cx ep l ts m).1.2),(Cx ep l ts m).2)
 else if(Co (Cx ep l ts m).1.1).2≠0 then(([],(Co (Cx ep l ts m).1.1).2),(Cx ep l ts m).2)
 else(((Co (Cx ep l ts m).1.1).1,0),(Cx ep l ts m).2))
def JN:Ct:=⟨3,⟨[sS 0 0,sB 1,yW 2],iK 0⟩,[⟨[(0,false,[.d tB]),sI 1],lj 0 3++[cT]⟩],λ(b,l,d,a,m,_)=>dy (hC l/\bO 1 a) (mW b l a m) λy=>(y.1.1,y.1.2,d,y.2.2,y.2.1,())⟩
abbrev RQ(v:BL×Int×Int×KV×List Tm×Unit):cw JN.out:=⟨0,v⟩
def MX:bw:=(46,[JN])::MW
theorem X2:KK MX:=kA X1 (cE JN 3) (∀(c:BL)(a:Lt)(f:Int)(d:List Tm)(g:KV)Q,let i:=RQ ([],1,f,g,d,());let z:=dh (ae 8 107,[c,jg a],()) d g;bd JN (c,a,f,d,g,()) Q->ah a.2.2.2.2.2.1<=1099511627776/\Br (!jR a) (Q i) (Br (!(nI c)==32) (Q i) ((aB c/\hC a/\bO 1 d)/\∀b,let h:=(f,b.2.2,b.2.1,());b=(sG z.1 a.2.2.2.1 (ei a) a.2.2.2.2.2.1 z.2.1,z.2)->Br (!b.1.2==0) (Q ⟨0,[],b.1.2,h⟩) (ah b.1.1<=1099511627776/\∀e,e=Co b.1.1->Br (!e.2==0) (Q ⟨0,[],e.2,h⟩) (Q ⟨0,e.1,e.2,h⟩))))) (by
 conv=>zeta
 unfold Br nI bd;intro o l d p m Q ⟨⟨q,h⟩,r⟩;have a:∀f g i j,mW o l p m=((f,g),i,j)->Q ⟨0,(f,g,d,j,i,())⟩:=λf g i j e=>r ((f,g),i,j) e.symm;clear r;unfold mW at a;rw[ck]at a;simp only[aP,aK,ai,aj,aR,az,ne_eq];have x:=q.2.1;refine⟨by omega,λc=>a _ _ _ _ (am (.inl c)),λv=>⟨λc=>a _ _ _ _ (am (.inr (by omega))),λy=>?_⟩⟩;have s:aB o:=by unfold aB;omega
 have t:=loA (l:=l) m s h;refine⟨⟨s,q,h⟩,?_⟩;rw[af (by rw[v];simp;omega)]at a;intro b n;have n:b=Cx o l p m:=n;rw[<-n]at t a;clear n;refine⟨λc=>a _ _ _ _ (am c),λc=>?_⟩;rw[af (λh=>h c)]at a;refine⟨t.2,?_⟩;intro u w;rw[<-w]at a;refine⟨λc=>a _ _ _ _ (am c),λc=>?_⟩;rw[af (λh=>h c)]at a;rw[c];exact a _ _ _ _ rfl) (l:=λ_=>bp)
theorem ES(x:BitVec 64)(k i:Nat)(hi:i<64):(ax 64 (ax 8 (x>>>k))<<<k).getLsbD i=(decide (k<=i/\i<k+8)&&x.getLsbD i):=by
 simp only[BitVec.getLsbD_shiftLeft,BitVec.getLsbD_setWidth,BitVec.getLsbD_ushiftRight];rcases bI i k with h|h
 ·have:¬(k<=i/\i<k+8):=by omega
  simp[h,this]
 ·have e:k+(i-k)=i:=by omega
  rw[e];have b:¬i<k:=by omega
  have c:i-k<64:=by omega
  rcases bI i (k+8)with g|g
  ·have a:i-k<8:=by omega
   simp[hi,b,c,a,h,g]
  ·have a:¬i-k<8:=by omega
   have f:¬i<k+8:=by omega
   simp[a,f]
theorem ET(x:BitVec 64):ae 64 0|||ax 64 (ax 8 (x>>>0))<<<0|||ax 64 (ax 8 (x>>>8))<<<8|||ax 64 (ax 8 (x>>>16))<<<16|||ax 64 (ax 8 (x>>>24))<<<24|||ax 64 (ax 8 (x>>>32))<<<32|||ax 64 (ax 8 (x>>>40))<<<40|||ax 64 (ax 8 (x>>>48))<<<48|||ax 64 (ax 8 (x>>>56))<<<56=x:=by
 refine BitVec.eq_of_getLsbD_eq λi a=>?_;simp only[BitVec.getLsbD_or,ES x _ i a];have z:(ae 64 0).getLsbD i=false:=by simp
 rw[z];cases x.getLsbD i
 ·simp
 ·simp only[Bool.and_true,Bool.false_or,iH,ai];omega
theorem EU(t:Tm){n:Nat}(h:n<=4294967296):(w9 (ko t n)).toNat=n:=by
 have:w9 (ko t n)=bi 64 (n:Int):=ET (bi 64 (n:Int));rw[this];exact Ap h
def Nm(ts:List Tm)(b:BL)(t:Tm):Prop:=∃i:Nat,ts[i]?=some t/\b=ko t ((i+1:Nat):Int)
structure xj(ts:List Tm)(m:KV):Prop where
 le:ts.length<=4294967296
 at_:∀(i:Nat)(t:Tm),ts[i]?=some t->V7 (tQ t) m=((i+1:Nat):Int)
 no:∀k,V7 k m≠0->∃(i:Nat)(t:Tm),ts[i]?=some t/\tQ t=k
theorem Nm.le{ts:List Tm}{b:BL}{t:Tm}(h:Nm ts b t):t∈ts:=let⟨_,a,_⟩:=h;gN a
theorem Nm.mono{ts us:List Tm}{b:BL}{t:Tm}(h:Nm ts b t):Nm (ts++us) b t:=by
 obtain⟨i,a,c⟩:=h;have e:i<ts.length:=(cy.1 a).1;exact⟨i,by rw[bU e];exact a,c⟩
theorem Nm.uni{ts:List Tm}{b:BL}{t a:Tm}(o:ts.length<=4294967296)(h:Nm ts b t)(h':Nm ts b a):t=a:=by
 obtain⟨i,e,g⟩:=h;obtain⟨j,c,l⟩:=h';have p:i<ts.length:=(cy.1 e).1;have q:j<ts.length:=(cy.1 c).1;have f:=EU t (n:=i+1) (by omega);have m:=EU a (n:=j+1) (by omega);rw[<-g]at f;rw[<-l,f]at m;have:i=j:=by omega
 subst this;rw[e]at c;exact Option.some.inj c
theorem JO(t:Tm)(n:Int):(ko t n).getD 0 0=t.1:=rfl
theorem a0l(t:Tm):16<=nZ t:=uT t
theorem JP(t:Tm)(n:Int):9<=(ko t n).length:=by
 have:=uT t;rw[u4];omega
theorem rI{ts:List Tm}{b:BL}{t:Tm}(g:ts.length<=4294967296)(h:Nm ts b t):fK b t.1 ts=(t,true):=by
 obtain⟨i,f,a⟩:=h;have j:i<ts.length:=(cy.1 f).1;have c:=EU t (n:=i+1) (by omega);rw[<-a]at c;unfold fK
 rw[af (by
  rw[not_or];refine⟨?_,?_⟩
  ·have:=JP t ((i+1:Nat):Int);rw[<-a]at this;omega
  ·rw[a,JO];simp),af (by rw[c];omega),c]
 have e:ts.getD (i+1-1) Dm=t:=by rw[Nat.add_sub_cancel,aw,f];rfl
 rw[e];have:(t.1==t.1&&b==ko t ((i+1:Nat):Int))=true:=by rw[<-a];simp
 rw[this]
theorem MY{ts:List Tm}{b:BL}{k:BitVec 8}(h:(fK b k ts).2=true):Nm ts b (fK b k ts).1/\(fK b k ts).1.1=k:=by
 unfold fK at h⊢;split at h
 ·cases h
 rename_i c;rw[af c];split at h
 ·cases h
 rename_i a;rw[af a];dsimp only at h⊢;rw[aI,aR,aR]at h;rw[not_or]at a;have e:(w9 b).toNat-1<ts.length:=by omega
 refine⟨⟨(w9 b).toNat-1,?_,?_⟩,h.1⟩
 ·rw[aw,ap e];rfl
 ·rw[show(w9 b).toNat-1+1=(w9 b).toNat by omega];exact h.2
theorem yX{a b:Nat}(g:a<=1099511627776)(i:b<=1099511627776)(h:dv a=dv b):a=b:=by
 have e:∀n:Nat,w9 ((0:BitVec 8)::dv (n:Int))=bi 64 (n:Int):=λn=>ET (bi 64 (n:Int));have c:=e a;rw[h,e b]at c;have f:=aH BitVec.toNat c;rw[BitVec.ofInt_natCast,BitVec.ofInt_natCast,BitVec.toNat_ofNat,BitVec.toNat_ofNat]at f;omega
theorem EV:∀{l l':List BL},lJ l<=1099511627776->lJ l'<=1099511627776->Dl l=Dl l'->l=l'
 |[],[],_,_,_=>rfl
 |[],p::r,_,_,h=>by
  have:=aH ah h;simp only[Dl,List.map_nil,List.flatten_nil,de,aY,List.flatten_cons,aa,eo]at this;omega
 |p::r,[],_,_,h=>by
  have:=aH ah h;simp only[Dl,List.map_nil,List.flatten_nil,de,aY,List.flatten_cons,aa,eo]at this;omega
 |p::r,q::s,a,b,h=>by
  simp only[lJ,aY,dg]at a b;simp only[Dl,aY,List.flatten_cons,ay]at h;obtain⟨c,e⟩:=List.append_inj h (by rw[eo,eo]);have f:=yX (by omega) (by omega) c;obtain⟨g,i⟩:=List.append_inj e f;rw[g,EV (l:=r) (l':=s) (by show(r.map λp=>p.length+8).sum<=_;omega) (by show(s.map λp=>p.length+8).sum<=_;omega) i]
theorem At{t a:Tm}(c:lJ t.2.1<=1099511627776)(e:lJ a.2.1<=1099511627776)(h:tQ t=tQ a):t=a:=by
 obtain⟨k,l,u⟩:=t;obtain⟨f,g,j⟩:=a;obtain⟨b,i⟩:=List.cons.inj h;have b:k=f:=b;rw[b,show l=g from EV c e i]
structure X3(t:Tm)(ts:List Tm)(r:BL×List Tm×KV):Prop where
 w:xj r.2.1 r.2.2
 nm:Nm r.2.1 r.1 t
 ex:r.2.1=ts\/r.2.1=ts++[t]/\t∉ts
theorem xk{t:Tm}{ts:List Tm}{m:KV}(b:xj ts m)(u:ts.length<4294967296)(n:∀x∈ts,eI x)(o:eI t):X3 t ts (dV t ts m):=by
 unfold dV jA;split
 ·rename_i h;dsimp only
  have p:t∉ts:=by
   intro r;obtain⟨i,s⟩:=List.getElem?_of_mem r;rw[b.at_ i t s]at h;omega
  refine⟨⟨by simp;omega,λi x a=>?_,λk f=>?_⟩,⟨ts.length,by simp,by simp⟩, .inr ⟨rfl,p⟩⟩
  ·show(cz (kt:= .st) (tQ x) (cD (kt:= .st) (tQ t) _ m)).getD 0=_;rw[fh];rcases bI i ts.length with g|g
   ·rw[bU g]at a;have j:=b.at_ i x a
    have:¬(tQ x=tQ t):=by
     intro e;have:=At (n x (gN a)).1 o.1 e;subst this;exact p (gN a)
    rw[af (by rw[dZ];exact this)];exact j
   ·rw[aU g]at a
    have:i-ts.length=0:=by
     rcases jZ (i-ts.length)with q|q
     ·exact q
     ·rw[bD (by simp;omega)]at a;cases a
    rw[this]at a;have a:t=x:=by simpa using a
    subst a;rw[am (dZ.2 rfl)];simp;omega
  ·have f:(cz (kt:= .st) k (cD (kt:= .st) (tQ t) ((ts.length:Int)+1) m)).getD 0≠0:=f;rw[fh]at f;split at f
   ·rename_i e;exact⟨ts.length,t,by simp,(dZ.1 e).symm⟩
   ·obtain⟨i,x,c,l⟩:=b.no k f;exact⟨i,x,by rw[bU (cy.1 c).1];exact c,l⟩
 ·rename_i h;dsimp only;obtain⟨i,x,c,l⟩:=b.no _ h;have e:=At (n x (gN c)).1 o.1 l;subst e;exact⟨b,⟨i,c,by rw[b.at_ i x c]⟩, .inl rfl⟩
theorem RR{t:Tm}{ts:List Tm}{m:KV}(a:xj ts m)(h:t∈ts):(dV t ts m).2=(ts,m):=by
 obtain⟨i,b⟩:=List.getElem?_of_mem h;have:=a.at_ i t b;unfold dV jA;rw[af (by rw[this];omega)]
theorem Aw:xj [] []:=⟨aq _,λi t h=>by simp at h,λk h=>absurd rfl h⟩
theorem jS(c:BitVec 8){n:Nat}(h:n=c.toNat):ae 8 n=c:=by subst h;simp
theorem Ax:∀(l:BL)(m s:Nat),s<6->(fO m s l).2.2=0->∃n:Nat,(fO m s l).1=((m+n*128^s:Nat):Int)/\n<128^(6-s)/\(n=0->s=0)/\(fO m s l).2.1=((s+(lI (5-s) n).length:Nat):Int)/\l=lI (5-s) n++l.drop (lI (5-s) n).length/\m+n*128^s<=1099511627776
 |[],_,_,_,h=>by cases h
 |c::r,m,s,x,h=>by
  have y:=c.isLt;simp only[fO]at h⊢;split at h
  ·rename_i g;rw[am g];obtain⟨n,o,z,p,t,b,u⟩:=Ax r _ (s+1) g.2 h;have A:n≠0:=λq=>by have:=p q;omega
   have v:5-s=(5-(s+1))+1:=by omega
   have e:lI (5-s) (c.toNat % 128+128*n)=c::lI (5-(s+1)) n:=by
    rw[v];simp only[lI];rw[af (by omega),jS c (by omega),show(c.toNat % 128+128*n)/128=n by omega]
   have f:m+(c.toNat % 128+128*n)*128^s=m+c.toNat % 128*128^s+n*128^(s+1):=by
    rw[Nat.add_mul,Nat.pow_succ,Nat.mul_comm 128 n,Nat.mul_assoc,Nat.mul_comm 128 (128^s)];omega
   refine⟨c.toNat % 128+128*n,?_,?_,λq=>by omega,?_,?_,?_⟩
   ·rw[o,f]
   ·have:128^(6-s)=128*128^(6-(s+1)):=by rw[<-Nat.pow_succ',show(6-(s+1)).succ=6-s by omega]
    rw[this];omega
   ·rw[t,e,ba];congr 1;omega
   ·rw[e,List.cons_append,ba,List.drop_succ_cons,<-b]
   ·rw[f];exact u
  ·rename_i g;rw[af g];split at h
   ·cases h
   ·rename_i a;rw[af a];split at h
    ·cases h
    ·rename_i i;rw[af i];rw[not_or]at a;have w:c.toNat % 128=c.toNat:=Nat.mod_eq_of_lt (by omega);rw[w]at i⊢
     have j:lI (5-s) c.toNat=[c]:=by
      cases b:5-s with
      |zero=>simp only[lI];rw[jS c rfl]
      |succ k=>simp only[lI];rw[am (by omega),jS c rfl]
     refine⟨c.toNat,rfl,?_,λq=>?_,?_,?_,by omega⟩
     ·have:128^1<=128^(6-s):=Nat.pow_le_pow_right (by decide) (by omega);omega
     ·have:=a.2;omega
     ·rw[j];rfl
     ·rw[j];rfl
theorem JQ{n:Nat}(h:n<128^6):lI 6 n=lI 5 n:=by
 have e:∀(k n:Nat),n<128^(k+1)->lI (k+1) n=lI k n:=by
  intro k
  induction k with
  |zero=>
   intro n h;simp only[lI];rw[am (by omega)]
  |succ k a=>
   intro n h;rw[show lI (k+1+1) n=if n<128 then[ae 8 n]else ae 8 (n % 128+128)::lI (k+1) (n/128)from rfl,show lI (k+1) n=if n<128 then[ae 8 n]else ae 8 (n % 128+128)::lI k (n/128)from rfl];rw[a (n/128) (by rw[Nat.pow_succ]at h;omega)]
 exact e 5 n h
theorem EW{n:Nat}(h:n<=1099511627776):vn (n:Int)=lI 5 n:=by
 unfold vn;rw[show(min (max (n:Int) 0) 1099511627776).toNat=n by omega]
 exact JQ (by have:(128:Nat)^6=4398046511104:=by decide
              omega)
theorem MZ{l:BL}(h:(fO 0 0 l).2.2=0):l=vn (fO 0 0 l).1++l.drop (fO 0 0 l).2.1.toNat/\(fO 0 0 l).2.1=((vn (fO 0 0 l).1).length:Int)/\0<=(fO 0 0 l).1/\(fO 0 0 l).1<=1099511627776:=by
 obtain⟨n,a,f,g,b,e,c⟩:=Ax l 0 0 (by decide) h;rw[Nat.pow_zero,Nat.mul_one,bN]at a c;rw[bN]at b;rw[a,EW c,b,aF];exact⟨e,rfl,by omega,by omega⟩
theorem EX:∀(k n m s:Nat)(r:BL),k+s=5->n<128^(k+1)->(n=0->s=0)->m+n*128^s<=1099511627776->fO m s (lI k n++r)=(((m+n*128^s:Nat):Int),((s+(lI k n).length:Nat):Int),0)
 |0,n,m,s,r,h,a,c,f=>by
  have a:n<128:=a;simp only[lI,List.cons_append,eS,fO];have b:(ae 8 n).toNat=n:=by simp;omega
  rw[b,Nat.mod_eq_of_lt a,af (by omega),af (by rw[not_or];exact⟨by omega,λq=>by have:=c q.1;omega⟩),af (by omega)];rfl
 |k+1,n,m,s,r,h,a,c,f=>by
  simp only[lI];split
  ·rename_i e;simp only[List.cons_append,eS,fO];have b:(ae 8 n).toNat=n:=by simp;omega
   rw[b,Nat.mod_eq_of_lt e,af (by omega),af (by rw[not_or];exact⟨by omega,λq=>by have:=c q.1;omega⟩),af (by omega)];rfl
  ·rename_i i;simp only[List.cons_append,fO];have b:(ae 8 (n % 128+128)).toNat=n % 128+128:=by simp;omega
   rw[b,am (by omega),show(n % 128+128) % 128=n % 128 by omega]
   have g:m+n % 128*128^s+n/128*128^(s+1)=m+n*128^s:=by
    have:n=n % 128+128*(n/128):=by omega
    conv=>rhs;rw[this,Nat.add_mul,Nat.mul_comm 128 (n/128),Nat.mul_assoc]
    rw[Nat.pow_succ,Nat.mul_comm 128 (128^s)];omega
   have:=EX k (n/128) (m+n % 128*128^s) (s+1) r (by omega) (by rw[Nat.pow_succ]at a;omega) (λq=>by omega) (by rw[g];exact f);rw[this,g,ba]
   congr 3
   omega
theorem Ay{n:Int}(h0:0<=n)(h:n<=1099511627776)(r:BL):fO 0 0 (vn n++r)=(n,((vn n).length:Int),0):=by
 obtain⟨m,rfl⟩:=bR h0;have a:m<=1099511627776:=by omega
 rw[show((m:Nat):Int)=(m:Int)from rfl];show fO 0 0 (vn (m:Int)++r)=((m:Int),((vn (m:Int)).length:Int),0)
 rw[EW a,EX 5 m 0 0 r rfl (by have:(128:Nat)^6=4398046511104:=by decide
                              omega) (λ_=>rfl) (by omega)]
 simp
def RS:Ct:=⟨1,⟨[sB 0],[]⟩,[⟨[(0,false,[.d tB])],[]⟩],λ(b,_)=>one (b.length<=1000000) (b,())⟩
def M0:bw:=(67,[RS])::MX
theorem X4:KK M0:=kA X2 (cE RS 0) (∀(a:BL)Q,bd RS (a,()) Q->∀(b:Bool),(b=true->a.isEmpty=true)->Br b (Q ⟨0,[],()⟩) ((0+a.length)*1<=mM/\Q ⟨0,a,()⟩)) (by
 unfold Br mM bd;rintro x Q ⟨e,a⟩ b c;refine⟨λh=>?_,λh=>⟨by omega,a⟩⟩;have:=c h;simp only[List.isEmpty_iff]at this;subst this;exact a)
def RT:Ct:=⟨1,⟨[(0,false,[.d (.sl iG)])],[]⟩,[⟨[sO 0 0],[Ij]⟩],λ(b,_)=>one (b.length<=1000000000) (b,())⟩
def M1:bw:=(199,[RT])::M0
theorem X5:KK M1:=kA X4 (cE RT 0) (∀(a:List Fk)Q,bd RT (a,()) Q->∀(b:Bool),(b=true->a.isEmpty=true)->Br b (Q ⟨0,[],()⟩) ((0+a.length)*16<=mM/\Q ⟨0,a,()⟩)) (by
 unfold Br mM bd;rintro x Q ⟨e,a⟩ b c;refine⟨λh=>?_,λh=>⟨by omega,a⟩⟩;have:=c h;simp only[List.isEmpty_iff]at this;subst this;exact a)
def RU:Ct:=⟨2,⟨[(0,false,[.d (.sl iG)]),(1,true,[.d iG])],[]⟩,[⟨[sI 0],[]⟩],λ(l,x,_)=> .need (l.length<=1000000000) (.all Int (λy=>(0<=y↔x∈l)) λy=> .leaf ⟨0,(y,())⟩)⟩
def X6:cg:=⟨[(0,false,[.d (.sl iG)]),(3,false,[.ptr 0 0]),sI 7,sI 8],[some (.cells [.d iG])]⟩
def JR(l:List Fk)(x:Fk)(y:X6.den):Prop:=match y with
 |(a,n,i,b,_)=>a=l/\b=x/\n=l.length/\∃k:Nat,i=k/\k<=l.length/\x∉l.take k
def a2h(x:RU.inp.den):dB:=⟨[(2,bK X6 (JR x.1 x.2.1) λ(_,n,i,_)=>(n-i).toNat)],[],[],[],0⟩
def M2:bw:=(214,[RU])::M1
theorem EY:KK M2:=kA X5 a2h (∀(c:List Fk)(f:Fk)Q,bd RU (c,f,()) Q->Is (JR c f (c,nI c,0,f,()))/\∀(b:List Fk)(d a:Int)(e:Fk),let z:=e.1==(gD b a (0,0,())).1&&e.2.1==(gD b a (0,0,())).2.1;JR c f (b,d,a,e,())->Bd (a<d) (iN a b/\Br z (Q ⟨0,a,()⟩) (ac (a+1)/\Is (JR c f (b,d,a+1,e,())/\lN (d-(a+1)) (d-a)))) (Q ⟨0,(-1:Int),()⟩)) (by
 conv=>zeta
 unfold Bd Br gD iN lN nI bd;rintro l x Q ⟨t,f⟩;refine⟨⟨rfl,rfl,rfl,0,rfl,aq _,by simp⟩,?_⟩;rintro g n i m ⟨o,p,q,k,r,u,j⟩;subst o;subst p;subst q;subst r;refine⟨λc=>?_,λe=>?_⟩
 ·have b:k<g.length:=by simp only[ai]at c;omega
  have s:((k:Int).toNat)=k:=by omega
  rw[s];refine⟨by omega,λh=>f _ ?_,λh=>⟨?_,⟨rfl,rfl,rfl,k+1,rfl,b,?_⟩,by omega⟩⟩
  ·constructor
   ·intro _
    have:m=g[k]:=by
     simp only[aI,aR,aw,ap b,di]at h;exact r6 h.1 (r6 h.2 rfl)
    rw[this];exact kB b
   ·intro _;omega
  ·unfold ac;omega
  ·rw[dW,ap b];intro a;simp only[Option.toList_some,bb,cf]at a;rcases a with a|a
   ·exact j a
   ·rw[aw,ap b,di,<-a]at h;simp at h
 ·simp only[aj]at e;refine f _ ⟨λh=>absurd h (by omega),λh=>absurd ?_ j⟩
  rwa [bf (by omega)]) (l:=λx=>Live.need λ_=>Live.all ⟨if x.2.1∈x.1 then 0 else-1,by split<;>simp_all,Live.leaf⟩)
def EZ:Ct:=⟨2,⟨[(0,false,[.d (.sl iG)]),(1,true,[.d iG])],[]⟩,[⟨[sL 0],[]⟩],λ(l,x,_)=>one (l.length<=1000000000) (decide (x∈l),())⟩
theorem E0:bS Tryz.prog 198 EZ:=kC EY (cE EZ 0) (∀(a:List Fk)(c:Fk)Q,bd EZ (a,c,()) Q->a.length<=1000000000/\∀(b:Int),(0<=b↔c∈a)->Q ⟨0,decide (0<=b),()⟩) (by
 unfold bd;rintro x y Q ⟨a,c⟩;refine⟨a,λb e=>?_⟩;have:decide (0<=b)=decide (y∈x):=by simp only[e]
 rw[this];exact c)
def M3:bw:=(198,[EZ])::M2
theorem X7:KK M3:=⟨aQ.add EY.1 (by kernel_rfl) (bo (E0)),bg.add EY.2 (bo (λ_=>bJ))⟩
def RV:Ct:=⟨2,⟨[sB 0,sB 1],[]⟩,[⟨[sL 0],[]⟩],λ(a,b,_)=>one (a.length<=1000000000/\b.length<=1000000000) (a==b,())⟩
def X8:cg:=⟨[sB 0,sB 1,sI 12,sI 13],[]⟩
def JS(a b:BL)(y:X8.den):Prop:=match y with
 |(c,e,n,i,_)=>c=a/\e=b/\n=a.length/\a.length=b.length/\∃k:Nat,i=k/\k<=a.length/\a.take k=b.take k
def a2i(x:RV.inp.den):dB:=⟨[(4,bK X8 (JS x.1 x.2.1) λ(_,_,n,i,_)=>(n-i).toNat)],[],[],[],0⟩
def M4:bw:=(217,[RV])::M3
theorem X9:KK M4:=kA X7 a2i (∀(b c:BL)Q,bd RV (b,c,()) Q->Br (!(nI b)==nI c) (Q ⟨0,false,()⟩) (Is (JS b c (b,c,nI b,0,()))/\∀(e f:BL)(d a:Int),let z:= !gD e a (ae 8 0)==gD f a (ae 8 0);JS b c (e,f,d,a,())->Bd (a<d) (iN a e/\iN a f/\Br z (Q ⟨0,false,()⟩) (ac (a+1)/\Is (JS b c (e,f,d,a+1,())/\lN (d-(a+1)) (d-a)))) (Q ⟨0,true,()⟩))) (by
 conv=>zeta
 unfold Bd Br gD iN lN nI bd;rintro a b Q ⟨⟨q,r⟩,c⟩;refine⟨λh=>?_,λh=>?_⟩
 ·have:(a==b)=false:=by
   rw[az];rintro rfl;simp at h
  rw[this]at c;exact c
 ·have p:a.length=b.length:=by
   simp only[aK,aR]at h;omega
  refine⟨⟨rfl,rfl,rfl,p,0,rfl,aq _,rfl⟩,?_⟩;rintro f g n i ⟨s,t,u,_,k,v,x,j⟩;subst s;subst t;subst u;subst v;refine⟨λl=>?_,λm=>?_⟩
  ·have o:k<f.length:=by simp only[ai]at l;omega
   have e:k<g.length:=by omega
   have w:((k:Int).toNat)=k:=by omega
   rw[w];simp only[aw,ap o,ap e,di];refine⟨by omega,by omega,λh=>?_,λh=>⟨?_,⟨rfl,rfl,rfl,p,k+1,rfl,o,?_⟩,by omega⟩⟩
   ·have:(f==g)=false:=by
     rw[az];rintro rfl;simp at h
    rw[this]at c;exact c
   ·unfold ac;omega
   ·rw[dW,dW,j,ap o,ap e];simp only[aK,aR]at h;rw[h]
  ·simp only[aj]at m;have:f=g:=by
    rw[bf (by omega),bf (by omega)]at j;exact j
   subst this;simp only[BEq.rfl]at c;exact c)
def RW:Ct:=⟨1,⟨[sB 0],[]⟩,[⟨[sP 0],sa⟩],λ(a,_)=>one (a.length<=1000000) (a,[],[],())⟩
def M5:bw:=(36,[RW])::M4
theorem Ya:KK M5:=kA X9 (cE RW 0) (∀(a:BL)Q,bd RW (a,()) Q->(0+a.length)*1<=mM/\Q ⟨0,a,[],[],()⟩) (by
 unfold mM bd;rintro x Q ⟨b,a⟩;exact⟨by omega,a⟩)
def eD{p:cg}(a:Prop){β:Type}(R:β->Prop)(g:β->p.den):Tr (cw [p]):= .need a (.all β R λy=> .leaf ⟨0,g y⟩)
theorem aM{p:cg}{b:Prop}{β:Type}{R:β->Prop}{g:β->p.den}(h:b->∃y,R y):Live (eD (p:=p) b R g):=Live.need λa=>Live.all ⟨(h a).choose,(h a).choose_spec,Live.leaf⟩
abbrev cq:Ty:= .pr .i64 (.pr .i64 .un)
abbrev oM:Ty:= .pr .i64 (.pr .i64 (.pr .i64 (.pr .i64 (.pr .bl (.pr .i32 .un)))))
abbrev lO:Ty:= .pr .i64 (.pr .i64 (.pr .i32 (.pr .bl (.pr (.ar 2 (.sl cq)) .un))))
abbrev Vl:Ty:= .pr (.fm cq lO) (.pr .i64 .un)
abbrev gF:Ty:= .pr .i64 (.pr .i64 (.pr .i64 (.pr .i64 (.pr .bl (.pr .i64 (.pr .i64 (.pr .bl (.pr .i64 (.pr .i64 .un)))))))))
abbrev tMB:Ty:= .pr (.sl gF) .un
abbrev Yb:Ty:= .pr (.fm cq oM) (.pr (.fm cq .i64) (.pr (.sl oM) (.pr (.pf Vl) (.pr (.pf tMB) .un))))
abbrev M6:Ty:= .pf Yb
abbrev kE:Ty:= .pr .i64 (.pr .i64 (.pr .i64 (.pr .i64 (.pr .i64 (.pr .bl (.pr .i32 (.pr .i64 (.pr .i64 gF))))))))
abbrev gi:=oM.den
abbrev Pg:=Yb.den
abbrev Op:=kE.den
def zO:Op:=(0,0,0,0,0,false,0,0,0,0,0,0,0,false,0,0,false,0,0,())
abbrev Mk:=gF.den
abbrev ID:=cq.den
abbrev Nd:=lO.den
def sf:cq.den:=(0,0,())
def iW:Op:=(1,0,1,0,0,true,97,0,0,0,0,0,0,false,0,0,false,0,0,())
def js:Pg:=([],[],[],([((0,0,()),(0,0,0,false,[[],[]],()))],0,()),([],()),())
def ft:Pg:=([((0,1,()),(0,1,0,0,true,97,()))],[],[],([((0,0,()),(0,0,0,false,[[],[(0,1,())]],())),((0,1,()),(0,1,97,false,[[],[]],()))],0,()),([],()),())
def E5(j:Nat):List (Option CP):=[some (.cells [.mp (j+1), .mp (j+2), .own (j+3), .ptr (j+4) 0, .ptr (j+6) 0]),some (.mp cq oM),some (.mp cq .i64),some (.sl oM),some (.cells [.mp (j+5), .d .i64]),some (.mp cq lO),some (.cells [.d (.sl gF)])]
def hH(a c:Int):Bool:=decide (0<=a/\a<5/\1<=c/\c<=1099511627776)
def RX(a c:Int):Bool:=(a==0&&c==0)||hH a c
def M7(m:gF.den):Bool:=decide (1<=m.1/\m.1<=1099511627776/\0<=m.2.1/\m.2.1<5/\1<=m.2.2.2.2.2.2.2.2.1/\m.2.2.2.2.2.2.2.2.1<=4/\0<=m.2.2.2.2.2.2.2.2.2.1/\m.2.2.2.2.2.2.2.2.2.1<=1099511627776)&&RX m.2.2.1 m.2.2.2.1&&RX m.2.2.2.2.2.1 m.2.2.2.2.2.2.1
def gw:Op->Bool
 |(k,a,c,b,e,r,x,f,g,h,i,j,fc,l,m,n,o,p,v,_)=>
  let q:=decide (a=0/\c=0/\b=0/\e=0/\r=false/\x=0)
  let s:=decide (f=0/\g=0)
  let t:=decide (h=0/\i=0/\j=0/\fc=0/\l=false/\m=0/\n=0/\o=false/\p=0/\v=0)
  if k=1 then hH a c&&decide (0<=x/\x<=1114111/\(x<55296\/57343<x))&&(b==0&&e==0&&r||hH b e)&&s&&t
  else if k=2 then hH f g&&q&&t
  else if k=3 then M7 (h,i,j,fc,l,m,n,o,p,v,())&&q&&s
  else false
def bn(b:Bool):BL:=vn (if b then 1 else 0)
def In:Op->BL
 |(k,a,c,b,e,r,x,f,g,h,i,j,fc,l,m,n,o,p,v,_)=>
  vn k++(if k=1 then vn a++vn c++vn b++vn e++bn r++vn x
  else if k=2 then vn f++vn g
  else if k=3 then vn h++vn i++vn j++vn fc++bn l++vn m++vn n++bn o++vn p++vn v else[])
def eu(l:List Op):BL:=vn l.length++fl In l
def RY:Ct:=⟨1,⟨[(0,true,[.d cq])],[]⟩,[⟨[sL 0],[]⟩],λ((a,c,_),_)=>one True (hH a c,())⟩
def M8:bw:=(156,[RY])::M5
theorem Yc:KK M8:=kA Ya (cE RY 0) (∀(a:Fk)Q,bd RY (a,()) Q->Bd (0<=a.1) (Bd (a.1<5) (Bd (1<=a.2.1) (Q ⟨0,decide (a.2.1<=1099511627776),()⟩) (Q ⟨0,false,()⟩)) (Q ⟨0,false,()⟩)) (Q ⟨0,false,()⟩)) (by
 unfold Bd bd;rintro⟨a,c,⟨⟩⟩ Q ⟨_,b⟩;dsimp only at*;have f:∀y:Bool,hH a c=y->Q ⟨0,(y,())⟩:=λy e=>by rw[<-e];exact b
 clear b
 (repeat' (first|apply cc|intro _))<;>(try simp only[ai,aj,aR,az,ne_eq,aP,aK,cd,bW]at*)<;>first
  |assumption
  |(exact f _ (by clear f;grind[hH]))
  |omega)
def RZ:Ct:=⟨1,⟨[(0,true,[.d cq])],[]⟩,[⟨[sL 0],[]⟩],λ((a,c,_),_)=>one True (RX a c,())⟩
def M9:bw:=(175,[RZ])::M8
theorem Yd:KK M9:=kA Yc (cE RZ 0) (∀(a:Fk)Q,let z:=a.1==0&&a.2.1==0;bd RZ (a,()) Q->Br z (Q ⟨0,true,()⟩) (Bd (0<=a.1) (Bd (a.1<5) (Bd (1<=a.2.1) (Q ⟨0,decide (a.2.1<=1099511627776),()⟩) (Q ⟨0,false,()⟩)) (Q ⟨0,false,()⟩)) (Q ⟨0,false,()⟩))) (by
 conv=>zeta
 unfold Bd Br bd;rintro⟨a,c,⟨⟩⟩ Q ⟨_,b⟩;dsimp only at*;have f:∀y:Bool,RX a c=y->Q ⟨0,(y,())⟩:=λy e=>by rw[<-e];exact b
 clear b
 (repeat' (first|apply cc|intro _))<;>(try simp only[ai,aj,aR,az,ne_eq,aP,aK,cd,bW]at*)<;>first
  |assumption
  |(exact f _ (by clear f;grind[hH,RX]))
  |omega)
def JT:Ct:=⟨1,⟨[(0,true,[.d gF])],[]⟩,[⟨[sL 0],[]⟩],λ(m,_)=>one True (M7 m,())⟩
def Na:bw:=(153,[JT])::M9
theorem Ye:KK Na:=kA Yd (cE JT 0) (∀(a:gF.den)(Q:cw JT.out->Prop),let h:=a.2.2.2.2.2.2.2.2.2.1<=1099511627776;let c:=decide (a.2.1<5)=false->Q ⟨0,false,()⟩;let e:=a.2.2.2.2.2.2.2.2.1<=4;let f:=1<=a.2.2.2.2.2.2.2.2.1;let g:=0<=a.2.2.2.2.2.2.2.2.2.1;let b:=(decide (a.2.1<5)=true->Q ⟨0,false,()⟩)/\c;let z:=Br (decide f) (Br (decide e) (Br (decide g) (Q ⟨0,false,()⟩) (Q ⟨0,false,()⟩)) (Q ⟨0,false,()⟩)) (Q ⟨0,false,()⟩);bd JT (a,()) Q->Bd (1<=a.1) (Bd (a.1<=1099511627776) (Bd (0<=a.2.1) (Br (decide f) (Br (decide e) (Br (decide g) ((decide (a.2.1<5)=true->Br (decide h) (True/\Br (RX a.2.2.1 a.2.2.2.1) (True/\Q ⟨0,RX a.2.2.2.2.2.1 a.2.2.2.2.2.2.1,()⟩) (Q ⟨0,false,()⟩)) (Q ⟨0,false,()⟩))/\c) b) b) b) z) z) z) (by
 conv=>zeta
 unfold Bd Br bd;rintro⟨c,f,g,fc,h,i,j,l,m,v,⟨⟩⟩ Q ⟨_,a⟩;dsimp only at*;have b:∀y:Bool,M7 (c,f,g,fc,h,i,j,l,m,v,())=y->Q ⟨0,(y,())⟩:=λy e=>by rw[<-e];exact a
 clear a
 (repeat' (first|apply cc|intro _))<;>(try simp only[ai,aj,aR,az,ne_eq,aP,aK,cd,bW]at*)<;>first
  |assumption
  |(exact b _ (by clear b;grind[M7]))
  |omega
  |exact trivial)
def sJ:gi->Bool
 |(a,c,b,e,r,x,_)=>hH a c&&decide (0<=x/\x<=1114111/\(x<55296\/57343<x))&&(b==0&&e==0&&r||hH b e)
def JU:Ct:=⟨1,⟨[(0,true,[.d oM])],[]⟩,[⟨[sL 0],[]⟩],λ(i,_)=>one True (sJ i,())⟩
def Nb:bw:=(155,[JU])::Na
theorem Yf:KK Nb:=kA Ye (cE JU 0) (∀(a:gi)(Q:cw JU.out->Prop),let f:=a.2.2.1==0&&a.2.2.2.1==0;let c:=True/\Q ⟨0,hH a.2.2.1 a.2.2.2.1,()⟩;let b:=hH a.1 a.2.1=false->Q ⟨0,false,()⟩;let e:=True/\(hH a.1 a.2.1=true->Q ⟨0,false,()⟩)/\b;let z:=Br f (Br (a.2.2.2.2.1) (Q ⟨0,true,()⟩) c) c;bd JU (a,()) Q->Bd (0<=a.2.2.2.2.2.1) (Bd (a.2.2.2.2.2.1<=1114111) (Bd (a.2.2.2.2.2.1<55296) (True/\(hH a.1 a.2.1=true->z)/\b) (True/\(hH a.1 a.2.1=true->Bd (57343<a.2.2.2.2.2.1) z (Q ⟨0,false,()⟩))/\b)) e) e) (by
 conv=>zeta
 unfold Bd Br bd;rintro⟨a,c,g,h,r,x,⟨⟩⟩ Q ⟨_,b⟩;dsimp only at*;have f:∀y:Bool,sJ (a,c,g,h,r,x,())=y->Q ⟨0,(y,())⟩:=λy e=>by rw[<-e];exact b
 clear b
 (repeat' (first|apply cc|intro _))<;>(try simp only[ai,aj,aR,az,ne_eq,aP,aK,cd,bW]at*)<;>first
  |assumption
  |(exact f _ (by clear f;grind[sJ]))
  |omega
  |exact trivial)
def R0:Ct:=⟨1,⟨[(0,true,[.d kE])],[]⟩,[⟨[sL 0],[]⟩],λ(o,_)=>one True (gw o,())⟩
def Nc:bw:=(116,[R0])::Nb
theorem Yg:KK Nc:=kA Yf (cE R0 0) (∀(a:Op)Q,let b:=(a.2.1,a.2.2.1,a.2.2.2.1,a.2.2.2.2.1,a.2.2.2.2.2.1,a.2.2.2.2.2.2.1,());let z:=a.2.2.2.2.2.2.2.2.2.1==0&&(a.2.2.2.2.2.2.2.2.2.2.1==0&&(a.2.2.2.2.2.2.2.2.2.2.2.1==0&&(a.2.2.2.2.2.2.2.2.2.2.2.2.1==0&&(a.2.2.2.2.2.2.2.2.2.2.2.2.2.1==false&&(a.2.2.2.2.2.2.2.2.2.2.2.2.2.2.1==0&&(a.2.2.2.2.2.2.2.2.2.2.2.2.2.2.2.1==0&&(a.2.2.2.2.2.2.2.2.2.2.2.2.2.2.2.2.1==false&&(a.2.2.2.2.2.2.2.2.2.2.2.2.2.2.2.2.2.1==0&&a.2.2.2.2.2.2.2.2.2.2.2.2.2.2.2.2.2.2.1==0))))))));bd R0 (a,()) Q->Br (a.1==1) (True/\Br (sJ b) (Q ⟨0,a.1==a.1&&(a.2.1==a.2.1&&(a.2.2.1==a.2.2.1&&(a.2.2.2.1==a.2.2.2.1&&(a.2.2.2.2.1==a.2.2.2.2.1&&(a.2.2.2.2.2.1==a.2.2.2.2.2.1&&(a.2.2.2.2.2.2.1==a.2.2.2.2.2.2.1&&(a.2.2.2.2.2.2.2.1==0&&(a.2.2.2.2.2.2.2.2.1==0&&z)))))))),()⟩) (Q ⟨0,false,()⟩)) (Br (a.1==2) (True/\Br (hH a.2.2.2.2.2.2.2.1 a.2.2.2.2.2.2.2.2.1) (Q ⟨0,a.1==a.1&&(a.2.1==0&&(a.2.2.1==0&&(a.2.2.2.1==0&&(a.2.2.2.2.1==0&&(a.2.2.2.2.2.1==false&&(a.2.2.2.2.2.2.1==0&&(a.2.2.2.2.2.2.2.1==a.2.2.2.2.2.2.2.1&&(a.2.2.2.2.2.2.2.2.1==a.2.2.2.2.2.2.2.2.1&&z)))))))),()⟩) (Q ⟨0,false,()⟩)) (Br (a.1==3) (True/\Br (M7 a.2.2.2.2.2.2.2.2.2) (Q ⟨0,a.1==a.1&&(a.2.1==0&&(a.2.2.1==0&&(a.2.2.2.1==0&&(a.2.2.2.2.1==0&&(a.2.2.2.2.2.1==false&&(a.2.2.2.2.2.2.1==0&&(a.2.2.2.2.2.2.2.1==0&&(a.2.2.2.2.2.2.2.2.1==0&&(a.2.2.2.2.2.2.2.2.2.1==a.2.2.2.2.2.2.2.2.2.1&&(a.2.2.2.2.2.2.2.2.2.2.1==a.2.2.2.2.2.2.2.2.2.2.1&&(a.2.2.2.2.2.2.2.2.2.2.2.1==a.2.2.2.2.2.2.2.2.2.2.2.1&&(a.2.2.2.2.2.2.2.2.2.2.2.2.1==a.2.2.2.2.2.2.2.2.2.2.2.2.1&&(a.2.2.2.2.2.2.2.2.2.2.2.2.2.1==a.2.2.2.2.2.2.2.2.2.2.2.2.2.1&&(a.2.2.2.2.2.2.2.2.2.2.2.2.2.2.1==a.2.2.2.2.2.2.2.2.2.2.2.2.2.2.1&&(a.2.2.2.2.2.2.2.2.2.2.2.2.2.2.2.1==a.2.2.2.2.2.2.2.2.2.2.2.2.2.2.2.1&&(a.2.2.2.2.2.2.2.2.2.2.2.2.2.2.2.2.1==a.2.2.2.2.2.2.2.2.2.2.2.2.2.2.2.2.1&&(a.2.2.2.2.2.2.2.2.2.2.2.2.2.2.2.2.2.1==a.2.2.2.2.2.2.2.2.2.2.2.2.2.2.2.2.2.1&&a.2.2.2.2.2.2.2.2.2.2.2.2.2.2.2.2.2.2.1==a.2.2.2.2.2.2.2.2.2.2.2.2.2.2.2.2.2.2.1))))))))))))))))),()⟩) (Q ⟨0,false,()⟩)) (Q ⟨0,false,()⟩)))) (by
 conv=>zeta
 unfold Br bd;rintro⟨k,a,c,g,h,r,x,i,j,l,m,n,fc,o,p,q,s,t,v,⟨⟩⟩ Q ⟨_,b⟩;dsimp only at*;have f:∀y:Bool,gw (k,a,c,g,h,r,x,i,j,l,m,n,fc,o,p,q,s,t,v,())=y->Q ⟨0,(y,())⟩:=λy e=>by rw[<-e];exact b
 clear b
 (repeat' (first|apply cc|intro _))<;>(try simp only[ai,aj,aR,az,ne_eq,aP,aK,cd,bW]at*)<;>first
  |assumption
  |(exact f _ (by clear f;grind[gw,sJ]))
  |omega
  |exact trivial)
def JV:Ct:=⟨2,⟨[sB 0,(1,false,[.d (.sl .i64)])],[]⟩,[⟨[(0,false,[.d tB])],[]⟩],λ(b,l,_)=>one (b.length+7*l.length<=1000000000) (b++fl vn l,())⟩
def Yh:cg:=⟨[sB 0,(7,false,[.d (.sl .i64)]),sI 8,sI 9],[]⟩
def JW(x:JV.inp.den)(y:Yh.den):Prop:=match x,y with
 |(c,a,_),(b,l,n,i,_)=>l=a/\n=a.length/\∃k:Nat,i=k/\k<=a.length/\b=c++fl vn (a.take k)
def a2j(x:JV.inp.den):dB:=⟨[(2,bK Yh (JW x) λ(_,_,n,i,_)=>(n-i).toNat)],[],[],[],0⟩
theorem E6{α:Type}(f:α->BL)(l m:List α):fl f (l++m)=fl f l++fl f m:=by simp[fl]
theorem E7{α:Type}{f:α->BL}{n:Nat}(h:∀x,(f x).length<=n)(l:List α):(fl f l).length<=n*l.length:=by
 induction l with
 |nil=>simp[fl]
 |cons x l a=>have:=h x;simp only[fl,aY,List.flatten_cons,aa,ba]at*;rw[Nat.mul_succ];omega
def Nf:bw:=(159,[JV])::Nc
theorem Yi:KK Nf:=kA Yg a2j (∀(d:BL)(b:List Int)Q,bd JV (d,b,()) Q->Is (JW (d,b,()) (d,b,nI b,0,()))/\∀(e:BL)(f:List Int)(c a:Int),JW (d,b,()) (e,f,c,a,())->Bd (a<c) (iN a f/\e.length<=1099511627776/\ac (a+1)/\Is (JW (d,b,()) (e++vn (gD f a 0),f,c,a+1,())/\lN (c-(a+1)) (c-a))) (Q ⟨0,e,()⟩)) (by
 unfold Bd gD iN lN nI bd;rintro b l Q ⟨j,g⟩;refine⟨⟨rfl,rfl,0,rfl,aq _,by simp[fl]⟩,?_⟩;rintro m f n i ⟨rfl,rfl,k,rfl,o,rfl⟩;have h:=E7 bz (f.take k);rw[be]at h;refine⟨λc=>?_,λe=>?_⟩
 ·have a:k<f.length:=by simp only[ai]at c;omega
  refine⟨by omega,by rw[aa];omega,by unfold ac;omega,⟨rfl,rfl,k+1,rfl,a,?_⟩,by omega⟩;rw[show((k:Int).toNat)=k by omega,cQ (z:=(0:Int)) a,E6,ay];simp[fl]
 ·simp only[aj]at e;rw[bf (by omega)];exact g)
theorem fl2(a b:Int):fl vn [a,b]=vn a++vn b:=by simp[fl]
theorem fl4(a b c d:Int):fl vn [a,b,c,d]=vn a++vn b++vn c++vn d:=by simp[fl]
abbrev tAn:Ty:= .pr .i64 (.pr .i64 (.pr .bl .un))
def E8(a c:Int)(b:Bool):BL:=vn a++vn c++bn b
def R1:Ct:=⟨2,⟨[sB 0,(1,true,[.d tAn])],[]⟩,[⟨[(0,false,[.d tB])],[]⟩],λ(b,(a,c,h,_),_)=>one (b.length+14<=1000000000) (b++E8 a c h,())⟩
def Ng:bw:=(160,[R1])::Nf
theorem Yj:KK Ng:=kA Yi (cE R1 0) (∀(b:BL)(a:Int×Int×Bool×Unit)Q,bd R1 (b,a,()) Q->b.length+7*2<=1000000000/\(b++fl vn [a.1,a.2.1]).length<=1099511627776/\Q ⟨0,b++fl vn [a.1,a.2.1]++vn (if a.2.2.1=true then 1 else 0),()⟩) (by
 unfold bd;rintro b ⟨a,c,h,⟨⟩⟩ Q ⟨i,f⟩;dsimp only at*;have g:∀y:BL,y=b++E8 a c h->Q ⟨0,(y,())⟩:=λy e=>by rw[e];exact f
 have j:=bz a;have l:=bz c;rw[fl2];simp only[aa];refine⟨by omega,by omega,g _ ?_⟩;simp only[E8,bn,ay])
def Az(o:Op):Prop:=ac o.2.2.2.2.2.2.1
def JX:Ct:=⟨2,⟨[sB 0,(1,false,[.d (.sl kE)])],[]⟩,[⟨[(0,false,[.d tB])],[]⟩],λ(b,l,_)=>one (b.length+100*l.length<=1000000000/\∀o∈l,Az o) (b++eu l,())⟩
def Yk:cg:=⟨[sB 0,(13,false,[.d (.sl kE)]),sI 14,sI 15],[]⟩
def u9(x:JX.inp.den)(y:Yk.den):Prop:=match x,y with
 |(c,a,_),(b,l,n,i,_)=>l=a/\n=a.length/\∃k:Nat,i=k/\k<=a.length/\b=c++(vn a.length++fl In (a.take k))
def a2k(x:JX.inp.den):dB:=⟨[(3,bK Yk (u9 x) λ(_,_,n,i,_)=>(n-i).toNat)],[],[],[],0⟩
def AA:Op:=(0,0,0,0,0,false,0,0,0,0,0,0,0,false,0,0,false,0,0,())
theorem E9(b:Bool):(bn b).length<=7:=bz _
theorem JY(o:Op):(In o).length<=77:=by
 obtain⟨k,a,c,e,f,r,x,g,i,j,l,m,fc,n,p,q,s,t,v,⟨⟩⟩:=o;have h:=bz;have b:=E9;unfold In;dsimp only;have u:=h k;split
 ·have:=h a;have:=h c;have:=h e;have:=h f;have:=b r;have:=h x;simp only[aa];omega
 split
 ·have:=h g;have:=h i;simp only[aa];omega
 split
 ·have:=h j;have:=h l;have:=h m;have:=h fc;have:=b n;have:=h p;have:=h q;have:=b s;have:=h t;have:=h v;simp only[aa];omega
 ·simp only[aa,de];omega
def Nh:bw:=(119,[JX])::Ng
theorem Yl:KK Nh:=kA Yj a2k (∀(f:BL)(e:List Op)Q,bd JX (f,e,()) Q->f.length<=1099511627776/\Is (u9 (f,e,()) (f++vn (nI e),e,nI e,0,()))/\∀(c:BL)(b:List Op)(d a:Int),let z:=c++vn (gD b a zO).1;u9 (f,e,()) (c,b,d,a,())->Bd (a<d) (iN a b/\c.length<=1099511627776/\Br ((gD b a zO).1==1) (z.length+7*4<=1000000000/\(c++vn (gD b a zO).1++fl vn [(gD b a zO).2.1,(gD b a zO).2.2.1,(gD b a zO).2.2.2.1,(gD b a zO).2.2.2.2.1]).length<=1099511627776/\ac (gD b a zO).2.2.2.2.2.2.1/\(c++vn (gD b a zO).1++fl vn [(gD b a zO).2.1,(gD b a zO).2.2.1,(gD b a zO).2.2.2.1,(gD b a zO).2.2.2.2.1]++vn (if(gD b a zO).2.2.2.2.2.1=true then 1 else 0)).length<=1099511627776/\ac (a+1)/\Is (u9 (f,e,()) (c++vn (gD b a zO).1++fl vn [(gD b a zO).2.1,(gD b a zO).2.2.1,(gD b a zO).2.2.2.1,(gD b a zO).2.2.2.2.1]++vn (if(gD b a zO).2.2.2.2.2.1=true then 1 else 0)++vn (gD b a zO).2.2.2.2.2.2.1,b,d,a+1,())/\lN (d-(a+1)) (d-a))) (Br ((gD b a zO).1==2) (z.length+7*2<=1000000000/\ac (a+1)/\Is (u9 (f,e,()) (c++vn (gD b a zO).1++fl vn [(gD b a zO).2.2.2.2.2.2.2.1,(gD b a zO).2.2.2.2.2.2.2.2.1],b,d,a+1,())/\lN (d-(a+1)) (d-a))) (Br ((gD b a zO).1==3) (z.length+7*2<=1000000000/\(c++vn (gD b a zO).1++fl vn [(gD b a zO).2.2.2.2.2.2.2.2.2.1,(gD b a zO).2.2.2.2.2.2.2.2.2.2.1]).length+14<=1000000000/\(c++vn (gD b a zO).1++fl vn [(gD b a zO).2.2.2.2.2.2.2.2.2.1,(gD b a zO).2.2.2.2.2.2.2.2.2.2.1]++E8 (gD b a zO).2.2.2.2.2.2.2.2.2.2.2.1 (gD b a zO).2.2.2.2.2.2.2.2.2.2.2.2.1 (gD b a zO).2.2.2.2.2.2.2.2.2.2.2.2.2.1).length+14<=1000000000/\(c++vn (gD b a zO).1++fl vn [(gD b a zO).2.2.2.2.2.2.2.2.2.1,(gD b a zO).2.2.2.2.2.2.2.2.2.2.1]++E8 (gD b a zO).2.2.2.2.2.2.2.2.2.2.2.1 (gD b a zO).2.2.2.2.2.2.2.2.2.2.2.2.1 (gD b a zO).2.2.2.2.2.2.2.2.2.2.2.2.2.1++E8 (gD b a zO).2.2.2.2.2.2.2.2.2.2.2.2.2.2.1 (gD b a zO).2.2.2.2.2.2.2.2.2.2.2.2.2.2.2.1 (gD b a zO).2.2.2.2.2.2.2.2.2.2.2.2.2.2.2.2.1).length+7*2<=1000000000/\ac (a+1)/\Is (u9 (f,e,()) (c++vn (gD b a zO).1++fl vn [(gD b a zO).2.2.2.2.2.2.2.2.2.1,(gD b a zO).2.2.2.2.2.2.2.2.2.2.1]++E8 (gD b a zO).2.2.2.2.2.2.2.2.2.2.2.1 (gD b a zO).2.2.2.2.2.2.2.2.2.2.2.2.1 (gD b a zO).2.2.2.2.2.2.2.2.2.2.2.2.2.1++E8 (gD b a zO).2.2.2.2.2.2.2.2.2.2.2.2.2.2.1 (gD b a zO).2.2.2.2.2.2.2.2.2.2.2.2.2.2.2.1 (gD b a zO).2.2.2.2.2.2.2.2.2.2.2.2.2.2.2.2.1++fl vn [(gD b a zO).2.2.2.2.2.2.2.2.2.2.2.2.2.2.2.2.2.1,(gD b a zO).2.2.2.2.2.2.2.2.2.2.2.2.2.2.2.2.2.2.1],b,d,a+1,())/\lN (d-(a+1)) (d-a))) (ac (a+1)/\Is (u9 (f,e,()) (c++vn (gD b a zO).1,b,d,a+1,())/\lN (d-(a+1)) (d-a)))))) (Q ⟨0,c,()⟩)) (by
 conv=>zeta
 unfold Bd Br gD iN lN nI bd zO;rintro b l Q ⟨⟨h1,G⟩,H⟩;have v0:=bz l.length;refine⟨by omega,⟨rfl,rfl,0,rfl,aq _,by simp[fl]⟩,?_⟩;rintro b1 f n i ⟨rfl,rfl,k,rfl,hk,rfl⟩;have J:=E7 JY (f.take k);rw[be]at J;refine⟨λC=>?_,λD=>?_⟩
 ·have j:k<f.length:=by simp only[ai]at C;omega
  rw[show((k:Int).toNat)=k by omega];have E:=G _ (aS (z:=AA) j);have K:u9 (b,f,()) (b++(vn f.length++fl In (f.take k))++In (f.getD k AA),f,(f.length:Int),(k:Int)+1,()):=⟨rfl,rfl,k+1,rfl,j,by rw[cQ (z:=AA) j,E6];simp[fl]⟩;have hL:(b++(vn f.length++fl In (f.take k))).length<=999999910:=by simp only[aa];omega
  have L:(0,0,0,0,0,false,0,0,0,0,0,0,0,false,0,0,false,0,0,())=AA:=rfl;rw[L];generalize f.getD k AA=o at*;obtain⟨M,a,c,N,O,r,x,P,R,S,U,W,fc,X,Y,tc,tb,nm,v,⟨⟩⟩:=o;generalize b++(vn f.length++fl In (f.take k))=z at*;have w:ac ((k:Int)+1):=by unfold ac;omega
  have A:((f.length:Int)-((k:Int)+1)).toNat<((f.length:Int)-(k:Int)).toNat:=by omega
  clear J h1 H G L;have E:ac x:=E;dsimp only;have h:=bz;have g:=E9;have h0:=h M;have m:∀y,y=z++In (M,a,c,N,O,r,x,P,R,S,U,W,fc,X,Y,tc,tb,nm,v,())->u9 (b,f,()) (y,f,(f.length:Int),(k:Int)+1,()):=λy e=>by rw[e];exact K
  clear K;unfold In at m;simp only[fl2,fl4,aR,az,ne_eq,aa];have e1:=h a;have e2:=h c;have e3:=h N;have e4:=h O;have e5:=g r;have e6:=h x;have e7:=h P;have e8:=h R;have e9:=h S;have a0:=h U;have t:∀p q s,(E8 p q s).length<=21:=λp q s=>by have:=h p;have:=h q;have:=g s;unfold E8;simp only[aa];omega
  have a1:=t W fc X;have a2:=t Y tc tb;have a3:=h nm;have a4:=h v;unfold bn at e5;refine⟨by omega,by omega,λu=>⟨by omega,by omega,E,by omega,w,m _ ?_,A⟩,λu=>⟨λB=>⟨by omega,w,m _ ?_,A⟩,λB=>⟨λF=>?_,λF=>?_⟩⟩⟩
  ·dsimp only;rw[am u];simp only[bn,ay]
  ·dsimp only;rw[af u,am B];simp only[ay]
  ·refine⟨by omega,by omega,by omega,by omega,w,m _ ?_,A⟩;dsimp only;rw[af u,af B,am F];simp only[E8,ay]
  ·exact⟨w,m _ (by dsimp only;rw[af u,af B,af F,aW]),A⟩
 ·simp only[aj]at D;rw[bf (by omega)];exact H)
end Go.Tp
