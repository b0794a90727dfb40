/- A part of the proof of TopAuthenticSaid: no conditions; packed by a program of our own. -/
import Derived.Test.YtgpideichgnmhaaGreatPaal
open Bool renaming eq_iff_iff→lI,and_eq_true→aF,not_eq_false→bR
open Decidable renaming not_not→aD
open Int renaming toNat_natCast→aG,le_refl→cr
open List renaming replicate→ak,length_append→aa,length_cons→bd,append_assoc→ay,mem_append→aY,drop_of_length_le→bw,nil_append→eG,take_of_length_le→ba,append_nil→bj,mem_cons→br,getElem?_eq_getElem→ap,getElem?_append_left→cH,getElem?_append_right→bB,drop_drop→jf,length_take→bi,length→ac,getD_eq_getElem?_getD→az,getElem?_eq_none→bY,length_nil→cX,map_append→dl,length_map→bT,mem_cons_self→aM,mem_cons_of_mem→aE,mem_map_of_mem→fe,mem_append_left→cG,length_drop→cD,length_singleton→bb,take_length→bp,length_eq_zero_iff→rY,length_set→cz
open Nat renaming le_refl→aC,le_trans→bA,zero_le→aq,lt_or_ge→bN
open Prod renaming ext→rV
namespace Go.Tp
open Go.Hv Go.Proofs Go.RowKit
set_option maxRecDepth 100000
set_option maxHeartbeats 0
theorem el{n a:Int}{r r':BL}(h0:0≤n)(c:n≤1099511627776)(e:0≤a)(f:a≤1099511627776)(h:vn n++r=vn a++r'):n=a∧r=r':=by
 have b:=Ba h0 c r;rw[h,Ba e f r']at b;have g:a=n:=aI Prod.fst b;subst g;exact⟨rfl,List.append_cancel_left h⟩
theorem jD{s s' r r':BL}(b:s.length≤1099511627776)(c:s'.length≤1099511627776)(h:tx s++r=tx s'++r'):s=s'∧r=r':=by
 unfold tx at h;rw[ay,ay]at h;obtain⟨e,a⟩:=el (by omega) (by omega) (by omega) (by omega) h;exact List.append_inj a (by omega)
theorem vA{α:Type}(f:α→BL)(x:α)(l:List α):fl f (x::l)=f x++fl f l:=by simp[fl]
theorem vB{α:Type}{f:α→BL}{p:α→Prop}(b:∀x y r r',p x→p y→f x++r=f y++r'→x=y∧r=r'):∀{l l':List α}{r r':BL},l.length=l'.length→(∀x∈l,p x)→(∀x∈l',p x)→fl f l++r=fl f l'++r'→l=l'∧r=r'
 |[],[],_,_,_,_,_,h=>⟨rfl,h⟩
 |[],_::_,_,_,h,_,_,_=>by simp at h
 |_::_,[],_,_,h,_,_,_=>by simp at h
 |x::l,y::m,r,r',g,c,e,h=>by
  rw[vA,vA,ay,ay]at h;obtain⟨i,j⟩:=b x y _ _ (c x (aM ..)) (e y (aM ..)) h;obtain⟨n,o⟩:=vB b (by simpa using g) (λz a=>c z (aE _ a)) (λz a=>e z (aE _ a)) j;exact⟨by rw[i,n],o⟩
theorem IF:∀{l:List Int}{last:Int},px last l=true→∀n∈l,last<n∧n<5
 |[],_,_,_,h=>by simp at h
 |n::r,last,h,x,a=>by
  simp only[px]at h;split at h
  ·cases h
  ·rename_i g;rcases br.1 a with a|a
   ·subst a;omega
   ·have:=IF h x a;omega
theorem IG{l l':Lt}{h h':BL}(b:yc l)(a:yc l')(n:h.length≤1000000)(o:h'.length≤1000000)(e:eg l++tx h=eg l'++tx h'):
 l.1=l'.1∧l.2.1=l'.2.1∧l.2.2.1=l'.2.2.1∧l.2.2.2.1=l'.2.2.2.1∧l.2.2.2.2.1=l'.2.2.2.2.1∧h=h':=by
 obtain⟨p,q,r,s,t,u,v,w,x⟩:=b;obtain⟨y,z,A,B,C,D,E,F,G⟩:=a;unfold eg at e;simp only[ay]at e;obtain⟨c,e⟩:=el (by omega) (by omega) (by omega) (by omega) e;obtain⟨f,e⟩:=el (by omega) (by omega) (by omega) (by omega) e;obtain⟨g,e⟩:=el (by omega) (by omega) (by omega) (by omega) e;obtain⟨i,e⟩:=el (by omega) (by omega) (by omega) (by omega) e;obtain⟨j,e⟩:=jD (by omega) (by omega) e;have e:tx h++[]=tx h'++[]:=by rw[bj,bj];exact e
 obtain⟨m,_⟩:=jD (by omega) (by omega) e;exact⟨c,f,g,i,j,m⟩
theorem a50{l l':Lt}(h:l.1=l'.1∧l.2.1=l'.2.1∧l.2.2.1=l'.2.2.1∧l.2.2.2.1=l'.2.2.2.1∧l.2.2.2.2.1=l'.2.2.2.2.1):eg l=eg l':=by
 obtain⟨a,b,c,e,f⟩:=h;unfold eg;rw[a,b,c,e,f]
theorem IH{l:Lt}{e:Et}{x:BL}(a:2≤l.1∧l.1≤4):dL e≠eg l++x:=by
 intro h;unfold dL fP eg at h;simp only[ay]at h;obtain⟨b,_⟩:=el (by omega) (by omega) (by omega) (by omega) h;omega
theorem a65{l:Lt}{e:Et}(a:2≤l.1∧l.1≤4):fP e≠eg l:=by
 intro h;unfold fP eg at h;simp only[ay]at h;obtain⟨b,_⟩:=el (by omega) (by omega) (by omega) (by omega) h;omega
structure etG(e:Et):Prop where
 n:1≤e.1∧e.1≤65536
 pv:e.2.1.length≤1000000
 pt:pc e.2.2.1 e.2.2.2.1=true
 oc:e.2.2.2.2.1.length≤1000
 bx:e.2.2.2.2.2.1.length≤5∧∀b∈e.2.2.2.2.2.1,b.length≤1000
theorem II{e:Et}(h:lD e=true):etG e:=by
 obtain⟨c,f,j,a,g,l,m,n⟩:=kK h;have:=(gw a).2.1;exact⟨⟨c,f⟩,by omega,a,by omega,by omega,λb i=>by rw[g b i];omega⟩
theorem Uz{ms:List Mb}{ns:List Fk}(h:pc ms ns=true):(∀m∈ms,0≤m.1∧m.1<5∧m.2.1.length=32∧m.2.2.1.length=32)∧∀x∈ns,0≤x.1∧x.1<5∧0≤x.2.1∧x.2.1≤1048576:=by
 unfold pc at h;obtain⟨_,_,b,c,d,e⟩:=ai h;refine⟨λm f=>?_,λx g=>?_⟩
 ·have:=IF b m.1 (fe f);have a:=d m f;exact⟨by omega,this.2,a.1,a.2⟩
 ·have:=IF c x.1 (fe g);have a:=e x g;exact⟨by omega,this.2,a.1,a.2⟩
theorem UA{e a:Et}(g:etG e)(u:etG a){r r':BL}(h:dL e++r=dL a++r'):e.1=a.1∧e.2.1=a.2.1∧e.2.2.1=a.2.2.1∧e.2.2.2.1=a.2.2.2.1∧e.2.2.2.2.1=a.2.2.2.2.1∧e.2.2.2.2.2.1=a.2.2.2.2.2.1∧r=r':=by
 obtain⟨⟨G,H⟩,J,j,K,L,v⟩:=g;obtain⟨⟨M,N⟩,O,l,P,Q,w⟩:=u;have R:=gw j;have S:=gw l;have n:=Uz j;have o:=Uz l;unfold dL fP at h;simp only[ay]at h;obtain⟨_,h⟩:=el (by omega) (by omega) (by omega) (by omega) h;obtain⟨z,h⟩:=el (by omega) (by omega) (by omega) (by omega) h;obtain⟨A,h⟩:=jD (by omega) (by omega) h;obtain⟨U,h⟩:=el (by omega) (by omega) (by omega) (by omega) h
 obtain⟨B,h⟩:=vB (f:=py) (p:=λm=>0≤m.1∧m.1<5∧m.2.1.length=32∧m.2.2.1.length=32) (λx y r r' s t q=>by
  unfold py at q;simp only[ay]at q;obtain⟨c,q⟩:=el (by omega) (by omega) (by omega) (by omega) q;obtain⟨i,q⟩:=jD (by omega) (by omega) q;obtain⟨C,q⟩:=jD (by omega) (by omega) q;exact⟨rV c (rV i (rV C rfl)),q⟩) (by omega) n.1 o.1 h
 obtain⟨W,h⟩:=el (by omega) (by omega) (by omega) (by omega) h
 obtain⟨D,h⟩:=vB (f:=rq) (p:=λx=>0≤x.1∧x.1<5∧0≤x.2.1∧x.2.1≤1048576) (λx y r r' s t q=>by
  unfold rq at q;simp only[ay]at q;obtain⟨c,q⟩:=el (by omega) (by omega) (by omega) (by omega) q;obtain⟨i,q⟩:=el (by omega) (by omega) (by omega) (by omega) q;exact⟨rV c (rV i rfl),q⟩) (by omega) n.2 o.2 h
 obtain⟨E,h⟩:=jD (by omega) (by omega) h;obtain⟨X,h⟩:=el (by omega) (by omega) (by omega) (by omega) h;obtain⟨F,h⟩:=vB (f:=tx) (p:=λb=>b.length≤1000) (λx y r r' s t q=>jD (by omega) (by omega) q) (by omega) v w h;exact⟨z,A,B,D,E,F,h⟩
def DB:Ct:=⟨1,⟨[sP 0],iW 0⟩,[⟨[(0,false,[.ptr 2 0])],iW 0++iW 2⟩],λ(bk,_)=>eO (∀p∈bk,p.2.length≤1048576) (λ_:Ln=>True) λy=>(bk,y,())⟩
def a0v:cc:=⟨[sP 0,(3,false,[.ptr 2 0]),(13,false,[.ptr 4 0])],[some (.cells [.mp 1]),some (.lk .i64 (.sl J4))]++iW 2++[some (.mit 1 .i64 (.sl J4))]⟩
def Mo(x:DB.inp.den)(y:a0v.den):Prop:=match x,y with
 |(bk,_),(b,_,a,_,_)=>b=bk∧∀p∈a,p.2.length≤1048576
def a51(x:DB.inp.den):dG:=⟨[(5,bM a0v (Mo x) λ(_,_,a,_,_)=>a.length)],[],[],[],0⟩
abbrev UB(v:Ln×Ln×Unit):aN DB.out:=⟨0,v⟩
def QP:bu:=(92,[DB])::QN
theorem a0w:KK QP:=kA a0s a51 (∀(a:Ln)(Q:aN DB.out→Prop),(Ct.spec DB (a,())).sat Q→True∧Is (Mo (a,()) (a,[],a,none,()))∧∀(d e c:Ln)(z:Option (Int×List Kn)),Mo (a,()) (d,e,c,z,())→Br (!c.isEmpty) (∀(b:(Int×List Kn)×Ln),c.Perm (b.1::b.2)→(0+ac b.1.2)*72≤140737488355328∧Is (Mo (a,()) (d,dy Ty.i64 b.1.1 b.1.2 e,b.2,some b.1,())∧b.2.length<c.length)) (Q (UB (d,e,())))) (by kernel_rfl) (by
 unfold Br;intro bk Q ⟨g,h⟩;refine⟨trivial,⟨rfl,g⟩,?_⟩;rintro i n c z ⟨rfl,j⟩;refine⟨λ_ b e=>?_,λ_=>h n trivial⟩;have f:∀p∈b.1::b.2,p.2.length≤1048576:=λp a=>j p (e.mem_iff.2 a);have m:=e.length_eq;refine⟨by have:=f b.1 (aM ..);omega,⟨rfl,λp a=>f p (aE _ a)⟩,by rw[m];exact Nat.lt_succ_self _⟩) (l:=λ_=>aR λ_=>⟨[],trivial⟩)
def DC:Ct:=⟨1,⟨[sP 0],gk 0⟩,[⟨[(0,false,[.ptr 4 0])],gk 0++gk 4⟩],λ(c,e,f,a,b,g,h,i,bk,_)=>eO ((∀p∈bk,p.2.length≤1048576)∧cb b∧cu a.2.1 a.2.2.1) (λy:Cl=>iL b y.pg) λy=>(c,e,f,a,b,g,h,i,bk,y.c,y.se,y.sg,y.lg,y.pg,y.la,y.fk,y.km,y.bk,())⟩
def a0x:cc:=⟨[sP 0,(3,false,[.ptr 4 0]),(35,false,[.ptr 8 0])],[some (.cells [.d .i64, .d tB, .d tB, .d (.pf VZ), .mp 1, .ptr 2 0, .d OB, .d tLa, .d (.sl ic)]),some (.lk .i64 tB)]++iW 2++gk 4++[some (.mit 1 .i64 tB)]⟩
def Mp(x:DC.inp.den)(y:a0x.den):Prop:=match x,y with
 |(c,m,n,o,l,p,q,r,bk,_),(s,a,b,e,eW,f,g,h,i,_,_,_,_,j,_,_,_,_,_,_,_)=>(s,a,b,e,eW,f,g,h,i)=(c,m,n,o,l,p,q,r,bk)∧iL l j
def a52(x:DC.inp.den):dG:=⟨[(7,bM a0x (Mp x) λ(_,_,_,_,_,_,_,_,_,_,_,_,_,_,_,_,_,_,a,_,_)=>a.length)],[],[],[],0⟩
abbrev UC(v:Int×BL×BL×Lg×Pg×La×List Fk×KM×Ln×Int×BL×BL×Lg×Pg×La×List Fk×KM×Ln×Unit):aN DC.out:=⟨0,v⟩
def QQ:bu:=(49,[DC])::QP
theorem a0y:KK QQ:=kA a0w a52 (∀(d:Int)(e f:BL)(a:Lg)(c:Pg)(g:La)(h:List Fk)(i:KM)(j:Ln)(Q:aN DC.out→Prop),let x:=(d,e,f,a,c,g,h,i,j,());(Ct.spec DC x).sat Q→cu a.2.1 a.2.2.1∧(∀(p:Int×List Kn),p∈j→ac p.2≤1048576)∧∀(b:Ln),True→cb c∧∀(G:Pg),iL c G→Is (Mp x (d,e,f,a,c,g,h,i,j,d,e,f,a,G,g,h,[],b,i,none,()))∧∀(l:Int)(m n:BL)(o:Lg)(q:Pg)(r:La)(s:List Fk)(t:KM)(u:Ln)(v:Int)(w y:BL)(A:Lg)(B:Pg)(C:La)(D:List Fk)(E:KM)(F:Ln)(k:KM)(z:Option (Int×BL)),Mp x (l,m,n,o,q,r,s,t,u,v,w,y,A,B,C,D,E,F,k,z,())→Br (!k.isEmpty) (∀(b:(Int×BL)×KM),k.Perm (b.1::b.2)→Is (Mp x (l,m,n,o,q,r,s,t,u,v,w,y,A,B,C,D,dy Ty.i64 b.1.1 b.1.2 E,F,b.2,some b.1,())∧b.2.length<k.length)) (Q (UC (l,m,n,o,q,r,s,t,u,v,w,y,A,B,C,D,E,F,())))) (by kernel_rfl) (by
 conv=>zeta
 unfold Br;intro c R S U W X Y km bk Q ⟨⟨r,s,t⟩,u⟩;refine⟨t,r,λb _=>⟨s,λp v=>⟨⟨rfl,v⟩,?_⟩⟩⟩;rintro c1 w x y eW A B C D E a e f g h i j m n z ⟨o,q⟩;simp only[Prod.mk.injEq]at o;obtain⟨F,G,H,J,K,L,M,N,O⟩:=o;subst F G H J K L M N O;exact⟨λ_ b P=>⟨⟨rfl,q⟩,by rw[P.length_eq];exact Nat.lt_succ_self _⟩,λ_=>u ⟨E,a,e,f,g,h,i,j,m⟩ q⟩) (l:=λ_=>aR λ_=>⟨⟨0,[],[],([],[],[],()),_,[],[],[],[]⟩,(iD _).choose_spec⟩)
abbrev D9:Ty:= .pr .i64 (.pr .i64 If)
abbrev DD:Ty:= .pr .i64 (.pr tB (.pr tB (.pr (.pf VZ) .un)))
abbrev DE:Ty:= .pr OB (.pr tLa (.pr (.sl ic) .un))
def wdC(j n i:Nat):List (Option CP):=[some (.cells [.d DD, .mp (j+5+2*i), .ptr (n+1+2*i) 0, .d DE]),some (.mp .i64 tB)]
def BO(j n:Nat):List (Option CP):=[some (.cells [.ifc 96 (j+1) 0, .fn 33 [] [(j+3,0)], .d (.ar 5 (.ar 2 tB)), .d (.ar 5 il), .ptr (j+4) 0, .ptr (j+6) 0, .ptr (j+8) 0, .ptr (j+10) 0, .ptr (j+12) 0, .mp (j+14), .mp (j+15), .mp (j+16), .mp (j+17), .mp (j+18), .ptr (j+19) 0, .d (.ar 5 .bl), .own (n+11), .own (n+12)]),some (.cells [.own n, .mp (j+2), .d .i64]),some (.mp .st .i64),some (.cells [.ptr (j+1) 0])]++wdC j n 0++wdC j n 1++wdC j n 2++wdC j n 3++wdC j n 4++[some (.mp .i64 tB),some (.mp .i64 tB),some (.mp .i64 tB),some (.mp .i64 tB),some (.mp .i64 tB),some (.cells [.d VZ])]
def pT(n:Nat):List (Option CP):=[some (.sl CJ),some (.cells [.mp (n+2)]),some (.mp .i64 (.sl J4)),some (.cells [.mp (n+4)]),some (.mp .i64 (.sl J4)),some (.cells [.mp (n+6)]),some (.mp .i64 (.sl J4)),some (.cells [.mp (n+8)]),some (.mp .i64 (.sl J4)),some (.cells [.mp (n+10)]),some (.mp .i64 (.sl J4)),some (.sl tB),some (.sl .i64)]
def jK:List (Option CP):=BO 0 20++pT 20
def IJ(n:Nat):List (Option CP):=BO 0 n++ak 13 none
structure Wd where
 sec:List (List BL)
 al:List Mb
 go:List Bool
 d:Int
 m:KV
 c0:Cl
 c1:Cl
 c2:Cl
 c3:Cl
 c4:Cl
 k0:KM
 k1:KM
 k2:KM
 k3:KM
 k4:KM
 lg:Lg
 ts:List Tm
 st:List BL
 ln:List Int
abbrev WH:=(cc.mk [] jK).den
abbrev QA:=Int×BL×BL×Lg×Unit
abbrev QB:=Pg×La×List Fk×Unit
abbrev TA(R:Type):=(List (List BL))×(List Mb)×(List Bool)×Int×KV×QA×QB×KM×QA×QB×KM×QA×QB×KM×QA×QB×KM×QA×QB×KM×KM×KM×KM×KM×KM×Lg×(List Tm)×Ln×Ln×Ln×Ln×Ln×(List BL)×(List Int)×R
abbrev TZ(R:Type):=(List (List BL))×(List Mb)×(List Bool)×Int×KV×QA×QB×KM×QA×QB×KM×QA×QB×KM×QA×QB×KM×QA×QB×KM×KM×KM×KM×KM×KM×Lg×(List BL)×(List Int)×(List Tm)×Ln×Ln×Ln×Ln×Ln×R
def DF{R:Type}(w:Wd)(r:R):TA R:=(w.sec,w.al,w.go,w.d,w.m,(w.c0.c,w.c0.se,w.c0.sg,w.c0.lg,()),(w.c0.pg,w.c0.la,w.c0.fk,()),w.c0.km,(w.c1.c,w.c1.se,w.c1.sg,w.c1.lg,()),(w.c1.pg,w.c1.la,w.c1.fk,()),w.c1.km,(w.c2.c,w.c2.se,w.c2.sg,w.c2.lg,()),(w.c2.pg,w.c2.la,w.c2.fk,()),w.c2.km,(w.c3.c,w.c3.se,w.c3.sg,w.c3.lg,()),(w.c3.pg,w.c3.la,w.c3.fk,()),w.c3.km,(w.c4.c,w.c4.se,w.c4.sg,w.c4.lg,()),(w.c4.pg,w.c4.la,w.c4.fk,()),w.c4.km,w.k0,w.k1,w.k2,w.k3,w.k4,w.lg,w.ts,w.c0.bk,w.c1.bk,w.c2.bk,w.c3.bk,w.c4.bk,w.st,w.ln,r)
def a0z{R:Type}(w:Wd)(r:R):TZ R:=(w.sec,w.al,w.go,w.d,w.m,(w.c0.c,w.c0.se,w.c0.sg,w.c0.lg,()),(w.c0.pg,w.c0.la,w.c0.fk,()),w.c0.km,(w.c1.c,w.c1.se,w.c1.sg,w.c1.lg,()),(w.c1.pg,w.c1.la,w.c1.fk,()),w.c1.km,(w.c2.c,w.c2.se,w.c2.sg,w.c2.lg,()),(w.c2.pg,w.c2.la,w.c2.fk,()),w.c2.km,(w.c3.c,w.c3.se,w.c3.sg,w.c3.lg,()),(w.c3.pg,w.c3.la,w.c3.fk,()),w.c3.km,(w.c4.c,w.c4.se,w.c4.sg,w.c4.lg,()),(w.c4.pg,w.c4.la,w.c4.fk,()),w.c4.km,w.k0,w.k1,w.k2,w.k3,w.k4,w.lg,w.st,w.ln,w.ts,w.c0.bk,w.c1.bk,w.c2.bk,w.c3.bk,w.c4.bk,r)
def dO(w:Wd):TA Unit:=(w.sec,w.al,w.go,w.d,w.m,(w.c0.c,w.c0.se,w.c0.sg,w.c0.lg,()),(w.c0.pg,w.c0.la,w.c0.fk,()),w.c0.km,(w.c1.c,w.c1.se,w.c1.sg,w.c1.lg,()),(w.c1.pg,w.c1.la,w.c1.fk,()),w.c1.km,(w.c2.c,w.c2.se,w.c2.sg,w.c2.lg,()),(w.c2.pg,w.c2.la,w.c2.fk,()),w.c2.km,(w.c3.c,w.c3.se,w.c3.sg,w.c3.lg,()),(w.c3.pg,w.c3.la,w.c3.fk,()),w.c3.km,(w.c4.c,w.c4.se,w.c4.sg,w.c4.lg,()),(w.c4.pg,w.c4.la,w.c4.fk,()),w.c4.km,w.k0,w.k1,w.k2,w.k3,w.k4,w.lg,w.ts,w.c0.bk,w.c1.bk,w.c2.bk,w.c3.bk,w.c4.bk,w.st,w.ln,())
def unZ(w:Wd):TZ Unit:=(w.sec,w.al,w.go,w.d,w.m,(w.c0.c,w.c0.se,w.c0.sg,w.c0.lg,()),(w.c0.pg,w.c0.la,w.c0.fk,()),w.c0.km,(w.c1.c,w.c1.se,w.c1.sg,w.c1.lg,()),(w.c1.pg,w.c1.la,w.c1.fk,()),w.c1.km,(w.c2.c,w.c2.se,w.c2.sg,w.c2.lg,()),(w.c2.pg,w.c2.la,w.c2.fk,()),w.c2.km,(w.c3.c,w.c3.se,w.c3.sg,w.c3.lg,()),(w.c3.pg,w.c3.la,w.c3.fk,()),w.c3.km,(w.c4.c,w.c4.se,w.c4.sg,w.c4.lg,()),(w.c4.pg,w.c4.la,w.c4.fk,()),w.c4.km,w.k0,w.k1,w.k2,w.k3,w.k4,w.lg,w.st,w.ln,w.ts,w.c0.bk,w.c1.bk,w.c2.bk,w.c3.bk,w.c4.bk,())
def WA(p:(List (List BL))→(List Mb)→(List Bool)→Int→KV→QA→QB→KM→QA→QB→KM→QA→QB→KM→QA→QB→KM→QA→QB→KM→KM→KM→KM→KM→KM→Lg→(List Tm)→Ln→Ln→Ln→Ln→Ln→(List BL)→(List Int)→Prop):Prop:=∀B C D E F G H J K L a b c e f g h i j l m n o q r s t u v w x y z A,p B C D E F G H J K L a b c e f g h i j l m n o q r s t u v w x y z A
def WB(p:(List (List BL))→(List Mb)→(List Bool)→Int→KV→QA→QB→KM→QA→QB→KM→QA→QB→KM→QA→QB→KM→QA→QB→KM→KM→KM→KM→KM→KM→Lg→(List BL)→(List Int)→(List Tm)→Ln→Ln→Ln→Ln→Ln→Prop):Prop:=∀B C D E F G H J K L a b c e f g h i j l m n o q r s t u v w x y z A,p B C D E F G H J K L a b c e f g h i j l m n o q r s t u v w x y z A
def mkC(a:DD.den)(b:DE.den)(km:KM)(bk:Ln):Cl:=⟨a.1,a.2.1,a.2.2.1,a.2.2.2.1,b.1,b.2.1,b.2.2.1,km,bk⟩
def cA(c:Cl):DD.den:=(c.c,c.se,c.sg,c.lg,())
def bC(c:Cl):DE.den:=(c.pg,c.la,c.fk,())
def cw(x:WH):Wd:=match x with
 |(a,b,go,d,m,c,e,f,g,h,i,j,l,n,o,p,q,r,s,t,u,v,w,y,z,A,B,C,D,E,F,G,st,H,_)=>
  ⟨a,b,go,d,m,mkC c e f C,mkC g h i D,mkC j l n E,mkC o p q F,mkC r s t G,u,v,w,y,z,A,B,st,H⟩
def unW(w:Wd):WH:=(w.sec,w.al,w.go,w.d,w.m,cA w.c0,bC w.c0,w.c0.km,cA w.c1,bC w.c1,w.c1.km,cA w.c2,bC w.c2,w.c2.km,cA w.c3,bC w.c3,w.c3.km,cA w.c4,bC w.c4,w.c4.km,w.k0,w.k1,w.k2,w.k3,w.k4,w.lg,w.ts,w.c0.bk,w.c1.bk,w.c2.bk,w.c3.bk,w.c4.bk,w.st,w.ln,())
theorem a66(w:Wd):cw (unW w)=w:=rfl
theorem a67(x:WH):unW (cw x)=x:=rfl
def IK:Ct:=⟨1,⟨[sI 0],[]⟩,[⟨[sL 0],[]⟩],λ(n,_)=>one True (decide (1≤n∧n≤31∧n % 2=1),())⟩
abbrev zU(v:Bool×Unit):aN IK.out:=⟨0,v⟩
def QR:bu:=(29,[IK])::QQ
theorem a00:KK QR:=kA a0y (cv IK 0) (∀(a:Int)(Q:aN IK.out→Prop),(Ct.spec IK (a,())).sat Q→Br (decide (1≤a)) (Br (decide (a≤31)) (Q (zU (a.tmod (2:Int)==1,()))) (Q (zU (false,())))) (Q (zU (false,())))) (by kernel_rfl) (by
 unfold Br;intro n Q ⟨_,b⟩;have a:∀y,decide (1≤n∧n≤31∧n % 2=1)=y→Q ⟨0,(y,())⟩:=λy e=>by rw[e]at b;exact b
 refine⟨λh=>⟨λg=>a _ ?_,λg=>a _ ?_⟩,λh=>a _ ?_⟩
 ·have h:=ai h;have g:=ai g;rw[Int.tmod_eq_emod_of_nonneg (by omega),lI,decide_eq_true_iff,aQ];exact⟨λq=>q.2.2,λq=>⟨h,g,q⟩⟩
 ·exact decide_eq_false λq=>am g q.2.1
 ·exact decide_eq_false λq=>am h q.1)
def xN:Ct:=⟨1,⟨[sI 0],[]⟩,[⟨[sL 0],[]⟩],λ(n,_)=>one True (decide (0≤n∧n<5),())⟩
abbrev BP(v:Bool×Unit):aN xN.out:=⟨0,v⟩
def IL:bu:=(28,[xN])::QR
theorem UD:KK IL:=kA a00 (cv xN 0) (∀(a:Int)(Q:aN xN.out→Prop),(Ct.spec xN (a,())).sat Q→Br (decide (0≤a)) (Q (BP (decide (a<5),()))) (Q (BP (false,())))) (by kernel_rfl) (by
 unfold Br;intro n Q ⟨_,a⟩;have b:∀y,decide (0≤n∧n<5)=y→Q ⟨0,(y,())⟩:=λy e=>by rw[e]at a;exact a
 refine⟨λh=>b _ ?_,λh=>b _ ?_⟩
 ·rw[decide_eq_decide];exact⟨λg=>g.2,λg=>⟨ai h,g⟩⟩
 ·exact decide_eq_false λg=>am h g.1)
theorem Wd.all{F:List (List BL)→List Mb→List Bool→Int→KV→DD.den→DE.den→KM→DD.den→DE.den→KM→DD.den→DE.den→KM→DD.den→DE.den→KM→DD.den→DE.den→KM→KM→KM→KM→KM→KM→Lg→List Tm→Ln→Ln→Ln→Ln→Ln→List BL→List Int→Prop}
 (h:∀w:Wd,F w.sec w.al w.go w.d w.m (cA w.c0) (bC w.c0) w.c0.km (cA w.c1) (bC w.c1) w.c1.km (cA w.c2) (bC w.c2) w.c2.km (cA w.c3) (bC w.c3) w.c3.km (cA w.c4) (bC w.c4) w.c4.km w.k0 w.k1 w.k2 w.k3 w.k4 w.lg w.ts w.c0.bk w.c1.bk w.c2.bk w.c3.bk w.c4.bk w.st w.ln):
 ∀E G H J K L M N O a b c e f g i j l n o p q r s t u v x y z A B C D,F E G H J K L M N O a b c e f g i j l n o p q r s t u v x y z A B C D:=λE G H J K L M N O a b c e f g i j l n o p q r s t u v x y z A B C D=>h (cw (E,G,H,J,K,L,M,N,O,a,b,c,e,f,g,i,j,l,n,o,p,q,r,s,t,u,v,x,y,z,A,B,C,D,()))
def IM:Ct:=⟨1,⟨[sP 0],jK⟩,[⟨[sL 0],jK⟩],λ(B,C,D,E,F,G,H,J,K,b,c,e,f,g,h,i,j,l,m,n,o,p,q,r,s,t,u,v,w,x,y,z,a,A,_)=>one True (decide (400≤a.length),B,C,D,E,F,G,H,J,K,b,c,e,f,g,h,i,j,l,m,n,o,p,q,r,s,t,u,v,w,x,y,z,a,A,())⟩
abbrev UE(v:Bool×TA Unit):aN IM.out:=⟨0,v⟩
def QS:bu:=(39,[IM])::IL
theorem a01:KK QS:=kA UD (cv IM 0) (WA λb c d e f g h i j k l m n o p q r s t u v w y z A B C D E F G H a J=>let x:=(c,d,e,f,g,h,i,j,k,l,m,n,o,p,q,r,s,t,u,v,w,y,z,A,B,C,D,E,F,G,H,a,J,());∀(Q:aN IM.out→Prop),(Ct.spec IM (b,x)).sat Q→Q (UE (decide (400≤(↑a.length:Int)),b,x))) (by kernel_rfl) (by
 conv=>zeta
 unfold WA;refine Wd.all λw=>?_;intro Q ⟨_,a⟩;have:decide (400≤w.st.length)=decide (400≤(w.st.length:Int)):=by rw[decide_eq_decide];omega
 rw[this]at a;exact a)
def IN:Ct:=⟨2,⟨[sP 0,sI 1],jK⟩,[⟨[sL 0],jK⟩],λ(n,C,D,E,F,G,H,J,K,L,b,c,e,f,g,h,i,j,l,m,o,p,q,r,s,t,u,v,w,x,y,z,A,a,B,_)=>one True (decide (1≤n∧n≤a.length),C,D,E,F,G,H,J,K,L,b,c,e,f,g,h,i,j,l,m,o,p,q,r,s,t,u,v,w,x,y,z,A,a,B,())⟩
abbrev IQ(v:Bool×TA Unit):aN IN.out:=⟨0,v⟩
def QT:bu:=(40,[IN])::QS
theorem a02:KK QT:=kA a01 (cv IN 0) (∀(a:Int),WA λc d e f g h i j k l m n o p q r s t u v w y z A B C D E F G H J b K=>let x:=(c,d,e,f,g,h,i,j,k,l,m,n,o,p,q,r,s,t,u,v,w,y,z,A,B,C,D,E,F,G,H,J,b,K,());∀(Q:aN IN.out→Prop),(Ct.spec IN (a,x)).sat Q→Br (decide (1≤a)) (Q (IQ (decide (a≤(↑b.length:Int)),x))) (Q (IQ (false,x)))) (by kernel_rfl) (by
 conv=>zeta
 unfold Br WA;intro n;refine Wd.all λw=>?_;intro Q ⟨_,a⟩;have b:∀y,decide (1≤n∧n≤(w.st.length:Int))=y→Q ⟨0,(y,w.sec,w.al,w.go,w.d,w.m,(cA w.c0),(bC w.c0),w.c0.km,(cA w.c1),(bC w.c1),w.c1.km,(cA w.c2),(bC w.c2),w.c2.km,(cA w.c3),(bC w.c3),w.c3.km,(cA w.c4),(bC w.c4),w.c4.km,w.k0,w.k1,w.k2,w.k3,w.k4,w.lg,w.ts,w.c0.bk,w.c1.bk,w.c2.bk,w.c3.bk,w.c4.bk,w.st,w.ln,())⟩:=λy e=>by rw[e]at a;exact a
 refine⟨λh=>b _ ?_,λh=>b _ ?_⟩
 ·rw[decide_eq_decide];exact⟨λg=>g.2,λg=>⟨ai h,g⟩⟩
 ·exact decide_eq_false λg=>am h g.1)
def xO:Ct:=⟨3,⟨[sP 0,sB 1,sI 2],jK⟩,[⟨[(0,true,[.d D9])],IJ 33++pT 33⟩],λ(b,n,D,E,F,G,H,J,K,L,M,e,f,g,h,i,j,l,m,o,p,q,r,s,t,u,v,w,x,y,z,A,B,C,a,c,_)=>one (a.length≤1000000∧c.length≤1000000) ((0,a.length+1,0,0,0,0,false,false,[],()),D,E,F,G,H,J,K,L,M,e,f,g,h,i,j,l,m,o,p,q,r,s,t,u,v,w,x,y,z,A,B,C,a++[b],c++[n],())⟩
abbrev Mq(v:(Int×Int×Nw)×TA Unit):aN xO.out:=⟨0,v⟩
def IR:bu:=(43,[xO])::QT
theorem UF:KK IR:=kA a02 (cv xO 0) (∀(b:BL)(d:Int),WA λe f g h i j k l m n o p q r s t u v w y z x A B C D E F G H J K a c=>∀(Q:aN xO.out→Prop),(Ct.spec xO (b,d,e,f,g,h,i,j,k,l,m,n,o,p,q,r,s,t,u,v,w,y,z,x,A,B,C,D,E,F,G,H,J,K,a,c,())).sat Q→(a.length+1)*24≤140737488355328∧(c.length+1)*8≤140737488355328∧Q (Mq ((0,(↑(a++[b]).length:Int),0,0,0,0,false,false,[],()),e,f,g,h,i,j,k,l,m,n,o,p,q,r,s,t,u,v,w,y,z,x,A,B,C,D,E,F,G,H,J,K,a++[b],c++[d],()))) (by kernel_rfl) (by
 unfold WA;intro b n;refine Wd.all λw=>?_;intro Q ⟨⟨c,e⟩,a⟩;refine⟨by omega,by omega,?_⟩;rw[show((w.st++[b]).length:Int)=w.st.length+1 by rw[aa,bb];omega];exact a)
def DG:Ct:=⟨1,⟨[sP 0],jK⟩,[⟨[(0,false,[.d (.sl .i64)])],jK⟩],λ(B,C,D,E,F,G,H,J,K,b,c,e,f,g,h,i,j,l,m,n,o,p,q,r,s,a,t,u,v,w,x,y,z,A,_)=>one (cu a.2.1 a.2.2.1) ((cL a.2.1 a.2.1.length).map (·.1),B,C,D,E,F,G,H,J,K,b,c,e,f,g,h,i,j,l,m,n,o,p,q,r,s,a,t,u,v,w,x,y,z,A,())⟩
def a03:cc:=⟨[sO 3 33,(17,false,[.d (.sl il)]),sI 18,sI 19],jK++[some (.sl .i64)]⟩
def Mr(x:DG.inp.den)(y:a03.den):Prop:=match x,y with
 |(a1,a2,a3,a4,a5,a6,a7,a8,a9,b,c,e,f,g,h,j,m,o,p,q,r,t,u,v,w,a,z,A,B,C,D,E,F,G,_),(l,n,i,b1,b2,b3,b4,b5,b6,b7,b8,b9,H,J,K,L,M,N,O,P,Q,R,S,U,W,X,Y,a0,b0,c0,c1,c2,c3,c4,c5,c6,c7,s,_)=>(cw (b1,b2,b3,b4,b5,b6,b7,b8,b9,H,J,K,L,M,N,O,P,Q,R,S,U,W,X,Y,a0,b0,c0,c1,c2,c3,c4,c5,c6,c7,()))=(cw (a1,a2,a3,a4,a5,a6,a7,a8,a9,b,c,e,f,g,h,j,m,o,p,q,r,t,u,v,w,a,z,A,B,C,D,E,F,G,()))∧l=cL a.2.1 a.2.1.length∧n=l.length∧∃k:Nat,i=k∧k≤l.length∧s=(l.take k).map (·.1)
def a53(x:DG.inp.den):dG:=⟨[(5,bM a03 (Mr x) λ(_,n,i,_)=>(n-i).toNat)],[],[],[],0⟩
theorem Ms{es:List Et}{a:List BL}(h:cu es a)(n:Int):(cL es n).length≤1000000:=by
 unfold cL;split
 ·simp
 ·exact(h.1.2 _ (aT (by omega))).1
abbrev UG(v:List Int×TA Unit):aN DG.out:=⟨0,v⟩
def QU:bu:=(20,[DG])::IR
theorem a04:KK QU:=kA UF a53 (WA λd e f g h i j k l m n o p q r s t u v w y z a0 a1 a2 a a3 a4 a5 a6 a7 a8 a9 b0=>let x:=(d,e,f,g,h,i,j,k,l,m,n,o,p,q,r,s,t,u,v,w,y,z,a0,a1,a2,a,a3,a4,a5,a6,a7,a8,a9,b0,());∀(Q:aN DG.out→Prop),(Ct.spec DG x).sat Q→True∧cu a.2.1 a.2.2.1∧Is (Mr x (cL a.2.1 (↑(ac a.2.1):Int),(↑(cL a.2.1 (↑(ac a.2.1):Int)).length:Int),0,d,e,f,g,h,i,j,k,l,m,n,o,p,q,r,s,t,u,v,w,y,z,a0,a1,a2,a,a3,a4,a5,a6,a7,a8,a9,b0,[],()))∧∀(A:List Mb)(c b:Int),WA λC D E F G H J K L M N O P R S U W X Y d2 d3 d4 d5 d6 d7 d8 d9 e0 e1 e2 e3 e4 e5 e6=>∀(B:List Int),Mr x (A,c,b,C,D,E,F,G,H,J,K,L,M,N,O,P,R,S,U,W,X,Y,d2,d3,d4,d5,d6,d7,d8,d9,e0,e1,e2,e3,e4,e5,e6,B,())→Br (decide (b<c)) ((0≤b∧b<(↑A.length:Int))∧(B.length+1)*8≤140737488355328∧ae (b+1)∧Is (Mr x (A,c,b+1,C,D,E,F,G,H,J,K,L,M,N,O,P,R,S,U,W,X,Y,d2,d3,d4,d5,d6,d7,d8,d9,e0,e1,e2,e3,e4,e5,e6,B++[(A.getD b.toNat (0,[],[],())).1],())∧(c-(b+1)).toNat<(c-b).toNat)) (Q (UG (B,C,D,E,F,G,H,J,K,L,M,N,O,P,R,S,U,W,X,Y,d2,d3,d4,d5,d6,d7,d8,d9,e0,e1,e2,e3,e4,e5,e6,())))) (by kernel_rfl) (by
 conv=>zeta
 unfold Br WA;refine Wd.all λw=>?_;rintro Q ⟨h,c⟩;have j:=Ms h w.lg.2.1.length;refine⟨trivial,h,⟨rfl,rfl,rfl,0,rfl,aq _,rfl⟩,?_⟩;intro l n i;refine Wd.all λv=>?_;rintro s ⟨e,a,o,k,p,t,q⟩;have e:v=w:=e;have a:l=cL w.lg.2.1 w.lg.2.1.length:=a;subst e o p q;rw[←a]at j;have c:Q ⟨0,((cL v.lg.2.1 v.lg.2.1.length).map (·.1),v.sec,v.al,v.go,v.d,v.m,(cA v.c0),(bC v.c0),v.c0.km,(cA v.c1),(bC v.c1),v.c1.km,(cA v.c2),(bC v.c2),v.c2.km,(cA v.c3),(bC v.c3),v.c3.km,(cA v.c4),(bC v.c4),v.c4.km,v.k0,v.k1,v.k2,v.k3,v.k4,v.lg,v.ts,v.c0.bk,v.c1.bk,v.c2.bk,v.c3.bk,v.c4.bk,v.st,v.ln,())⟩:=c;rw[←a]at c;have r:((k:Int).toNat)=k:=by omega
 rw[r];refine⟨λf=>?_,λg=>?_⟩
 ·have b:k<l.length:=by simp only[ah]at f;omega
  refine⟨by omega,by rw[bT,bi];omega,by unfold ae;omega,⟨rfl,a,rfl,k+1,rfl,b,?_⟩,by omega⟩;rw[cK (z:=((0,[],[],()):Mb)) b,dl];rfl
 ·simp only[aj]at g;rw[ba (by omega)];exact c)
def xP:Ct:=⟨2,⟨[sP 0,sI 1],jK⟩,[⟨[sL 0],jK⟩],λ(n,D,E,a,F,G,H,J,K,L,b,c,e,f,g,h,i,j,l,m,o,p,q,r,s,t,u,v,w,x,y,z,A,B,C,_)=>one (a.length=5) (decide (0≤n)&&decide (n<5)&&a.getD n.toNat false,D,E,a,F,G,H,J,K,L,b,c,e,f,g,h,i,j,l,m,o,p,q,r,s,t,u,v,w,x,y,z,A,B,C,())⟩
abbrev lv(v:Bool×TA Unit):aN xP.out:=⟨0,v⟩
def IS:bu:=(14,[xP])::QU
theorem UH:KK IS:=kA a04 (cv xP 0) (∀(a:Int),WA λc d b e f g h i j k l m n o p q r s t u v w y z A B C D E F G H J K=>let x:=(c,d,b,e,f,g,h,i,j,k,l,m,n,o,p,q,r,s,t,u,v,w,y,z,A,B,C,D,E,F,G,H,J,K,());∀(Q:aN xP.out→Prop),(Ct.spec xP (a,x)).sat Q→True∧Br (decide (0≤a∧a<5)) (Br (a==0) (Q (lv (b.getD ((36-10-15-1-1-1-1-1-1-1-1-1-1-1)/1) false,x))) (Br (a==1) (Q (lv (b.getD ((37-10-15-1-1-1-1-1-1-1-1-1-1-1)/1) false,x))) (Br (a==2) (Q (lv (b.getD ((38-10-15-1-1-1-1-1-1-1-1-1-1-1)/1) false,x))) (Br (a==3) (Q (lv (b.getD ((39-10-15-1-1-1-1-1-1-1-1-1-1-1)/1) false,x))) (Br (a==4) (Q (lv (b.getD ((40-10-15-1-1-1-1-1-1-1-1-1-1-1)/1) false,x))) (False∧True)))))) (Q (lv (false,x)))) (by kernel_rfl) (by
 conv=>zeta
 unfold Br WA;intro n;refine Wd.all λw=>?_;intro Q ⟨h,f⟩;have c:∀y,(decide (0≤n)&&decide (n<5)&&w.go.getD n.toNat false)=y→Q ⟨0,(y,w.sec,w.al,w.go,w.d,w.m,(cA w.c0),(bC w.c0),w.c0.km,(cA w.c1),(bC w.c1),w.c1.km,(cA w.c2),(bC w.c2),w.c2.km,(cA w.c3),(bC w.c3),w.c3.km,(cA w.c4),(bC w.c4),w.c4.km,w.k0,w.k1,w.k2,w.k3,w.k4,w.lg,w.ts,w.c0.bk,w.c1.bk,w.c2.bk,w.c3.bk,w.c4.bk,w.st,w.ln,())⟩:=λy e=>by rw[e]at f;exact f
 refine⟨trivial,λa=>?_,λa=>c _ ?_⟩
 ·have a:=ai a;have e:(decide (0≤n)&&decide (n<5)&&w.go.getD n.toNat false)=w.go.getD n.toNat false:=by simp[a.1,a.2]
  rw[e]at c;refine⟨λb=>?_,λi=>⟨λb=>?_,λj=>⟨λb=>?_,λl=>⟨λb=>?_,λo=>⟨λb=>?_,λp=>?_⟩⟩⟩⟩⟩
  case refine_6=>exfalso;simp only[ax,ne_eq]at i j l o p;omega
  all_goals
   have b:=be b;subst b;exact c _ rfl
 ·have a:=am a;rcases Decidable.em (0≤n)with g|g
  ·have:¬n<5:=λq=>a ⟨g,q⟩;simp[this]
  ·simp[g])
def DH:Ct:=⟨1,⟨[sP 0],jK⟩,[⟨[(0,false,[.d (.sl tB)])],jK⟩],λ(C,D,E,F,G,H,J,K,L,c,e,f,g,h,i,j,l,m,n,o,p,q,r,s,t,u,v,w,x,y,z,A,a,B,_)=>one (a.length≤1000000∧∀b∈a,b.length≤10000000) (a,C,D,E,F,G,H,J,K,L,c,e,f,g,h,i,j,l,m,n,o,p,q,r,s,t,u,v,w,x,y,z,A,a,B,())⟩
def a05:cc:=⟨[sO 3 33,sO 11 31,sI 12,sI 13],jK++[some (.sl tB)]⟩
def Mu(x:DH.inp.den)(y:a05.den):Prop:=match x,y with
 |(a1,a2,a3,a4,a5,a6,a7,a8,a9,b,c,e,f,g,h,j,l,m,o,p,q,r,t,u,v,w,z,A,B,C,D,E,a,F,_),(n,i,b1,b2,b3,b4,b5,b6,b7,b8,b9,G,H,J,K,L,M,N,O,P,Q,R,S,U,W,X,Y,a0,b0,c0,c1,c2,c3,c4,c5,c6,s,_)=>(cw (b1,b2,b3,b4,b5,b6,b7,b8,b9,G,H,J,K,L,M,N,O,P,Q,R,S,U,W,X,Y,a0,b0,c0,c1,c2,c3,c4,c5,c6,()))=(cw (a1,a2,a3,a4,a5,a6,a7,a8,a9,b,c,e,f,g,h,j,l,m,o,p,q,r,t,u,v,w,z,A,B,C,D,E,a,F,()))∧n=a.length∧∃k:Nat,i=k∧k≤a.length∧s=a.take k
def a54(x:DH.inp.den):dG:=⟨[(5,bM a05 (Mu x) λ(n,i,_)=>(n-i).toNat)],[],[],[],0⟩
abbrev UI(v:List BL×TA Unit):aN DH.out:=⟨0,v⟩
def QV:bu:=(10,[DH])::IS
theorem a06:KK QV:=kA UH a54 (WA λe f g h i j k l m n o p q r s t u v w y z a0 a1 a2 a3 a4 a5 a6 a7 a8 a9 b0 b b1=>let x:=(e,f,g,h,i,j,k,l,m,n,o,p,q,r,s,t,u,v,w,y,z,a0,a1,a2,a3,a4,a5,a6,a7,a8,a9,b0,b,b1,());∀(Q:aN DH.out→Prop),(Ct.spec DH x).sat Q→Is (Mu x ((↑b.length:Int),0,e,f,g,h,i,j,k,l,m,n,o,p,q,r,s,t,u,v,w,y,z,a0,a1,a2,a3,a4,a5,a6,a7,a8,a9,b0,b,b1,[],()))∧∀(c a:Int),WA λB C D E F G H J K L M N O P R S U W X Y d3 d4 d5 d6 d7 d8 d9 e0 e1 e2 e3 e4 d e5=>∀(A:List BL),Mu x (c,a,B,C,D,E,F,G,H,J,K,L,M,N,O,P,R,S,U,W,X,Y,d3,d4,d5,d6,d7,d8,d9,e0,e1,e2,e3,e4,d,e5,A,())→Br (decide (a<c)) ((0≤a∧a<(↑d.length:Int))∧(0+(d.getD a.toNat []).length)*1≤140737488355328∧(A.length+1)*24≤140737488355328∧ae (a+1)∧Is (Mu x (c,a+1,B,C,D,E,F,G,H,J,K,L,M,N,O,P,R,S,U,W,X,Y,d3,d4,d5,d6,d7,d8,d9,e0,e1,e2,e3,e4,d,e5,A++[d.getD a.toNat []],())∧(c-(a+1)).toNat<(c-a).toNat)) (Q (UI (A,B,C,D,E,F,G,H,J,K,L,M,N,O,P,R,S,U,W,X,Y,d3,d4,d5,d6,d7,d8,d9,e0,e1,e2,e3,e4,d,e5,())))) (by kernel_rfl) (by
 conv=>zeta
 unfold Br WA;refine Wd.all λw=>?_;rintro Q ⟨⟨h,l⟩,m⟩;refine⟨⟨rfl,rfl,0,rfl,aq _,rfl⟩,?_⟩;intro n i;refine Wd.all λv=>?_;rintro s ⟨b,c,k,o,j,e⟩;have b:v=w:=b;have c:n=w.st.length:=c;have e:s=w.st.take k:=e;have j:k≤w.st.length:=j;subst b c o e;have p:((k:Int).toNat)=k:=by omega
 rw[p];refine⟨λf=>?_,λg=>?_⟩
 ·have a:k<v.st.length:=by simp only[ah]at f;omega
  have q:=l _ (aT (z:=([]:BL)) a);refine⟨by omega,by omega,by rw[bi];omega,by unfold ae;omega,⟨rfl,rfl,k+1,rfl,a,?_⟩,by omega⟩;rw[cK (z:=([]:BL)) a]
 ·simp only[aj]at g;rw[ba (by omega)];exact m)
def IT:Ct:=⟨1,⟨[sP 0],jK⟩,[⟨[(0,false,[.d (.sl .i64)])],jK⟩],λ(B,C,D,E,F,G,H,J,K,b,c,e,f,g,h,i,j,l,m,n,o,p,q,r,s,t,u,v,w,x,y,z,A,a,_)=>one (a.length≤1000000) (a,B,C,D,E,F,G,H,J,K,b,c,e,f,g,h,i,j,l,m,n,o,p,q,r,s,t,u,v,w,x,y,z,A,a,())⟩
abbrev UJ(v:List Int×TA Unit):aN IT.out:=⟨0,v⟩
def QW:bu:=(17,[IT])::QV
theorem a07:KK QW:=kA a06 (cv IT 0) (WA λb c d e f g h i j k l m n o p q r s t u v w y z A B C D E F G H J a=>let x:=(c,d,e,f,g,h,i,j,k,l,m,n,o,p,q,r,s,t,u,v,w,y,z,A,B,C,D,E,F,G,H,J,a,());∀(Q:aN IT.out→Prop),(Ct.spec IT (b,x)).sat Q→(0+a.length)*8≤140737488355328∧Q (UJ (a,b,x))) (by kernel_rfl) (by
 conv=>zeta
 unfold WA;refine Wd.all λw=>?_;intro Q ⟨h,a⟩;exact⟨by omega,a⟩)
theorem IU{la:La}(h:fh la){k c n:Int}(i:0≤n∧n≤1048576):fh (Kd la k c n):=by
 obtain⟨j,e⟩:=h;unfold Kd;refine⟨by rw[cz];exact j,λr a=>?_⟩;rcases List.mem_or_eq_of_mem_set a with a|a
 ·exact e r a
 ·subst a;rcases bN (k-3).toNat la.length with g|g
  ·have f:=e _ (aT (z:=[]) g);refine⟨by rw[cz];exact f.1,λx b=>?_⟩;rcases List.mem_or_eq_of_mem_set b with b|b
   ·exact f.2 x b
   ·subst b;exact i
  ·rw[List.set_eq_of_length_le g]at a;exact e _ a
theorem tkB{lk:Lk}{bk:Ln}(ts:List Tm)(m:KV)(h:bZ bk):bZ (nK lk bk ts m).2.1:=by
 unfold nK;split
 ·rename_i g;dsimp only
  have c:pw lk=true∧¬lk.2.1≤(dt bk lk.1).length∧¬((dt bk lk.1).length:Int)+1<lk.2.1:=by
   unfold iB at g;split at g
   ·cases g
   ·rename_i f;split at g
    ·dsimp only at g;split at g<;>cases g
    ·rename_i i;split at g
     ·cases g
     ·rename_i j;exact⟨by simpa using f,i,j⟩
  have l:=oh c.1;intro a;unfold CM;rw[uY];split
  ·rename_i e;subst e;refine⟨by rw[aa,bb];omega,λq b=>?_⟩;rcases aY.1 b with b|b
   ·exact(h lk.1).2 q b
   ·simp at b;subst b;exact⟨lr _,lr _⟩
  ·exact h a
 ·exact h
theorem UK{lk:Lk}{bk:Ln}{k:Nat}{ts:List Tm}(m:KV)(h:bU (k+2) ts):bU k (nK lk bk ts m).2.2.1:=by
 unfold nK;have a:=chS (lk:=lk) (bk:=bk) m h;split
 ·exact dgS _ a
 ·exact a.mono (by omega)
theorem a08{k:Nat}:∀(l:List Lk)(z:Ln×List Tm×KV),bU (k+l.length) z.2.1→bU k (l.foldl No z).2.1
 |[],_,h=>h
 |x::r,z,h=>by
  rw[List.foldl_cons];refine a08 r _ ?_;unfold No;exact dgS _ (h.mono (by simp;omega))
theorem UL{l:Lt}{lk:Lk}{t:BL}{j:Pg}{bk:Ln}{k:Nat}{ts:List Tm}{m:KV}{y:yf}(s:t.length≤5000)(n:cb j)(b:bZ bk)(a:bU (k+5000) ts)(h:t7 l lk t j bk ts m y):cb y.2.1∧bZ y.2.2.1∧bU k y.2.2.2.1:=by
 unfold t7 at h;split at h
 ·obtain⟨⟨c,p⟩,f,_⟩:=h;refine⟨f,?_⟩;rw[p];unfold D7;dsimp only
  repeat' split
  ·exact⟨b,a.mono (by omega)⟩
  ·exact⟨tkB _ _ b,UK m (a.mono (by omega))⟩
  ·exact⟨tkB _ _ b,UK m (a.mono (by omega))⟩
 ·split at h
  ·rw[h];exact⟨n,b,a.mono (by omega)⟩
  ·obtain⟨w,o,q,f⟩:=h;have r:bP t 0:=⟨by omega,by omega,by omega⟩;have u:=(Iv true 0 r).2
   have e:bU k y.2.2.2.1:=by
    rw[q];split
    ·rw[o];exact a08 _ _ (a.mono (by show k+(rZ t true (0,0)).2.2.length≤k+5000;omega))
    ·exact a.mono (by omega)
   rcases f with⟨_,g,i⟩|⟨_,_,g,i,_⟩
   ·exact⟨by rw[g];exact n,by rw[i];exact b,e⟩
   ·refine⟨g,?_,e⟩;rw[i,o];exact(bdO ts m (by omega)).1
theorem Mw{w:Cl}{l:Lt}{k:Nat}{ts:List Tm}{m:KV}{y:yf}(e:mM l=true)(h:kR w)(g:bU (k+6000) ts)(r:jR w l ts m y):cb y.2.1∧bZ y.2.2.1∧bU k y.2.2.2.1:=by
 obtain⟨p,q,s,t,a,b,u,v,x⟩:=h;have e:=(fv e).2.2.1;have i:bU k ts:=g.mono (by omega);unfold jR at r;dsimp only at r;split at r
 ·rw[r];exact⟨a,b,i⟩
 split at r
 ·rw[r];exact⟨a,b,i⟩
 have j:=lcS (sg:=(fQ (cL w.lg.2.1 l.2.2.1) l.2.1).1.2.2.1) (k:=k+5999) m e g;split at r
 ·rw[r];exact⟨a,b,j.mono (by omega)⟩
 generalize tW (fQ (cL w.lg.2.1 l.2.2.1) l.2.1).1.2.2.1 l ts m=z at*;have c:=knS (l:=l) (lk:=z.1.1) (la:=w.la) (bk:=w.bk) (k:=k+5998) z.2.2 j;generalize zP l z.1.1 w.la w.bk z.2.1 z.2.2=f at*;split at r
 ·rw[r];exact⟨a,b,c.mono (by omega)⟩
 split at r
 ·rw[r];exact⟨a,b,c.mono (by omega)⟩
 split at r
 ·rw[r];exact⟨a,b,c.mono (by omega)⟩
 have n:=loT (ep:=(aU Ty.i64 l.2.2.1 w.km).getD []) (l:=l) (k:=k+5997) f.2.2 c;generalize sG ((aU Ty.i64 l.2.2.1 w.km).getD []) l f.2.1 f.2.2=o at*;split at r
 ·rw[r];exact⟨a,b,n.1.mono (by omega)⟩
 ·exact UL (by omega) a b (n.1.mono (by omega)) r
theorem IV{lg:Lg}{e:Et}{ts:List Tm}{m:KV}(h:cu lg.2.1 lg.2.2.1)(i:lg.2.1.length≤100000)(f:aB lg.1):cu (jU lg e ts m).2.1.2.1 (jU lg e ts m).2.1.2.2.1∧(jU lg e ts m).2.1.2.1.length≤100000∧aB (jU lg e ts m).2.1.1:=by
 have j:cu lg.2.1 lg.2.2.1∧lg.2.1.length≤100000∧aB lg.1:=⟨h,i,f⟩;unfold jU;rw[ck]
 repeat' split
 all_goals try exact j
 rename_i c s l _ _ _;have c:lD e=true:=by simpa using c
 obtain⟨t,u,v,w,y,z,A,B⟩:=kK c;have l:e.1=lg.2.1.length+1:=by omega
 obtain⟨g,C,D,E,n,F,G⟩:=kT c;obtain⟨⟨H,o⟩,p,q,r⟩:=h;dsimp only;refine⟨⟨⟨by simp;omega,λx a=>?_⟩,by simp[p],λd b=>?_,λx a=>?_⟩,by simp;omega,f⟩
 ·rcases aY.1 a with a|a
  ·exact o x a
  ·simp at a;subst a;exact⟨g.1,g.2.1,by simp⟩
 ·rcases aY.1 b with b|b
  ·exact q d b
  ·simp at b;subst b;rw[tU];exact bA (CW (by show(104:BitVec 8)≠98;decide)) (by omega)
 ·rcases aY.1 a with a|a
  ·exact r x a
  ·simp at a;subst a;exact n
theorem UM{e:Et}{c:Int}{se:BL}(a:aB se)(b:aB e.2.2.2.2.1){k:Nat}:∀(l:List Mb)(km:KM)(ts:List Tm)(m:KV),bU (k+2*l.length) ts→bU k (D8 e c se l km ts m).2.2.1
 |[],_,_,_,h=>h.mono (by omega)
 |p::r,km,ts,m,h=>by
  have f:=keS (e:=e) (c:=c) (se:=se) (k:=k+2*r.length) m a b (h.mono (by simp;omega));simp only[D8];split
  ·exact UM a b r km ts m (h.mono (by simp;omega))
  ·split
   ·exact f.mono (by omega)
   ·exact UM a b r _ _ _ f
theorem UN{c:Int}{se:BL}{lg:Lg}{km:KM}{e:Et}{k:Nat}{ts:List Tm}{m:KV}(j:xJ e)(a:aB se)(h:cu lg.2.1 lg.2.2.1)(b:lg.2.1.length≤100000)(f:aB lg.1)(p:bU (k+100) ts):cu (rK c se lg km e ts m).2.1.2.1 (rK c se lg km e ts m).2.1.2.2.1∧(rK c se lg km e ts m).2.1.2.1.length≤100000∧aB (rK c se lg km e ts m).2.1.1∧bU k (rK c se lg km e ts m).2.2.2.1:=by
 have i:=IV (e:=e) (ts:=ts) (m:=m) h b f;have l:=tkS (lg:=lg) (e:=e) (k:=k+99) m j.2.1 p;have n:=tk5 (e:=e) (lg:=lg) (ts:=ts) (m:=m);unfold rK;rw[ck];dsimp only;generalize jU lg e ts m=t at*;split
 ·exact⟨h,b,f,l.mono (by omega)⟩
 ·rename_i g;have n:=n (aD.1 g);have o:=UM (c:=c) a j.2.2.2.2.2.2 (k:=k) e.2.2.1 km t.2.2.1 t.2.2.2 (l.mono (by omega));generalize D8 e c se e.2.2.1 km t.2.2.1 t.2.2.2=r at*;split
  ·exact⟨h,b,f,o⟩
  ·exact⟨i.1,i.2.1,i.2.2,o⟩
theorem a09{w:Cl}{b:BL}{k:Nat}{ts:List Tm}{m:KV}{y:Mn}(h:kR w)(e:bU (k+10000) ts)(r:oA w b ts m y):kR y.2.1∧y.2.1.fk.length≤w.fk.length+400∧bU k y.2.2.1∧y.2.1.c=w.c∧y.2.1.se=w.se∧y.2.1.sg=w.sg:=by
 have a:kR w∧w.fk.length≤w.fk.length+400∧bU k ts∧w.c=w.c∧w.se=w.se∧w.sg=w.sg:=⟨h,by omega,e.mono (by omega),rfl,rfl,rfl⟩;unfold oA at r;dsimp only at r;split at r
 ·rw[r];exact a
 rename_i F;have l:bP b 0:=⟨by omega,by omega,by omega⟩;split at r
 ·rw[r];exact a
 obtain⟨o,p,i,j,x,A,s,t,u⟩:=h;split at r
 ·split at r
  ·rw[r];exact a
  ·rename_i g;have B:=kT ((QM l).2 (aD.1 g)).2;have q:=UN (c:=w.c) (km:=w.km) (m:=m) (k:=k) B i s t u (e.mono (by omega));rw[r];exact⟨⟨o,p,i,j,x,A,q.1,q.2.1,q.2.2.1⟩,by dsimp only;omega,q.2.2.2,rfl,rfl,rfl⟩
 ·split at r
  ·rw[r];exact a
  ·rename_i g;have v:=((Uy l).2 (aD.1 g)).2;obtain⟨z,f,n,C,D,G,E⟩:=r;have q:=Mw (k:=k) v a.1 (e.mono (by omega)) C;rw[E];refine⟨⟨o,p,i,?_,q.1,q.2.1,s,t,u⟩,D,q.2.2,rfl,rfl,rfl⟩;unfold yg;split
   ·have:=(fv v).1.2.2.2.2.2.2;exact IU j ⟨by omega,by omega⟩
   ·exact j
structure Su(k:Nat)(ts:List Tm)(m:KV):Prop where
 w:Gc ts m
 k:bU k ts
theorem Su.mono{k j:Nat}{ts:List Tm}{m:KV}(h:Su k ts m)(a:j≤k):Su j ts m:=⟨h.w,h.k.mono a⟩
def Gr(K:Tm→Prop)(ts a:List Tm):Prop:=∃b,a=ts++b∧∀t∈b,K t
theorem Gr.refl(K:Tm→Prop)(ts:List Tm):Gr K ts ts:=⟨[],by simp,by simp⟩
theorem Gr.trans{K:Tm→Prop}{a b c:List Tm}(h:Gr K a b)(h':Gr K b c):Gr K a c:=by
 obtain⟨e,rfl,f⟩:=h;obtain⟨g,rfl,i⟩:=h';exact⟨e++g,by rw[ay],λt j=>(aY.1 j).elim (f t) (i t)⟩
theorem Gr.imp{K c:Tm→Prop}{a b:List Tm}(e:∀t,K t→c t)(h:Gr K a b):Gr c a b:=let⟨f,g,i⟩:=h;⟨f,g,λt j=>e t (i t j)⟩
theorem Gr.nm{K:Tm→Prop}{a b:List Tm}(h:Gr K a b){n:BL}{t:Tm}(c:Nm a n t):Nm b n t:=by obtain⟨e,rfl,_⟩:=h;exact c.mono
theorem Gr.mem{K:Tm→Prop}{a b:List Tm}(h:Gr K a b){t:Tm}(c:t∈a):t∈b:=by obtain⟨e,rfl,_⟩:=h;exact cG _ c
theorem Gr.old{K:Tm→Prop}{a b:List Tm}(h:Gr K a b){t:Tm}(c:t∈b):t∈a∨K t:=by
 obtain⟨f,rfl,e⟩:=h;exact(aY.1 c).imp id (e t)
structure Ok(K:Tm→Prop)(k:Nat)(ts:List Tm)(z:List Tm×KV):Prop where
 su:Su k z.1 z.2
 gr:Gr K ts z.1
theorem Ok.refl{K:Tm→Prop}{k j:Nat}{ts:List Tm}{m:KV}(h:Su j ts m)(a:k≤j):Ok K k ts (ts,m):=⟨h.mono a,Gr.refl K ts⟩
theorem Ok.trans{K:Tm→Prop}{k j:Nat}{ts:List Tm}{z y:List Tm×KV}(h:Ok K j ts z)(h':Ok K k z.1 y):Ok K k ts y:=⟨h'.su,h.gr.trans h'.gr⟩
theorem Ok.mono{K:Tm→Prop}{k j:Nat}{ts:List Tm}{z:List Tm×KV}(h:Ok K j ts z)(a:k≤j):Ok K k ts z:=⟨h.su.mono a,h.gr⟩
theorem Ok.imp{K a:Tm→Prop}{k:Nat}{ts:List Tm}{z:List Tm×KV}(b:∀t,K t→a t)(h:Ok K k ts z):Ok a k ts z:=⟨h.su,h.gr.imp b⟩
theorem zV{t:Tm}{k:Nat}{ts:List Tm}{m:KV}(h:Su (k+1) ts m)(a:eC t):Ok (·=t) k ts (dT t ts m).2∧Nm (dT t ts m).2.1 (dT t ts m).1 t:=by
 have q:=Gh h.w (by have:=h.k.2;omega) h.k.1 a;refine⟨⟨⟨q.w,ol m h.k a⟩,?_⟩,q.nm⟩;rcases q.ex with e|⟨e,_⟩
 ·rw[e];exact Gr.refl _ _
 ·rw[e];exact⟨[t],rfl,λx b=>by simpa using b⟩
theorem IW{t:Tm}{k:Nat}{ts:List Tm}{m:KV}(h:Su (k+1) ts m)(a:eC t):Ok (·=t) k ts (de t ts m).2∧((t.2.1.getD 0 []).length=32→Nm (de t ts m).2.1 (de t ts m).1 t):=by
 unfold de;split
 ·exact⟨(zV h a).1,λ_=>(zV h a).2⟩
 ·rename_i g;exact⟨Ok.refl h (by omega),λq=>absurd q g⟩
def gy(t:Tm):Prop:=t.1≠103∧t.1≠115
theorem nmP{t:Tm}{k:Nat}{ts:List Tm}{m:KV}(h:Su (k+1) ts m)(a:eC t)(b:gy t):Ok gy k ts (dT t ts m).2:=(zV h a).1.imp λ_ e=>by rw[e];exact b
theorem naP{t:Tm}{k:Nat}{ts:List Tm}{m:KV}(h:Su (k+1) ts m)(a:eC t)(b:gy t):Ok gy k ts (de t ts m).2:=(IW h a).1.imp λ_ e=>by rw[e];exact b
theorem Mx(b:List BL):gy (104,b,()):=⟨by show(104:BitVec 8)≠103;decide,by show(104:BitVec 8)≠115;decide⟩
theorem UO(b:List BL):gy (107,b,()):=⟨by show(107:BitVec 8)≠103;decide,by show(107:BitVec 8)≠115;decide⟩
theorem a55(b:List BL):gy (100,b,()):=⟨by show(100:BitVec 8)≠103;decide,by show(100:BitVec 8)≠115;decide⟩
theorem IX{sec pub:BL}{ts:List Tm}(a:aB sec)(h:fg ts)(e:(fH pub 112 ts).2=true):eC (100,(if 0<sw sec ((fH pub 112 ts).1.2.1.getD 0 [])then[(fH pub 112 ts).1.2.1.getD 0 [],sec]else[sec,(fH pub 112 ts).1.2.1.getD 0 []]),()):=by
 have c:=rl (b:=pub) (k:=112) h e;have f:=(c.1.2.2.2.2 c.2).2;have g:=gH (fH pub 112 ts).1.2.1 0;split
 ·exact gD (.inr ⟨by decide,by rw[K0];have:=a;omega⟩) (.inr ⟨by decide, .inl (aC _)⟩)
 ·exact gD (.inr ⟨by decide,by rw[K0];have:=a;omega⟩) (.inr ⟨by decide, .inl (aC _)⟩)
theorem shP{sec pub:BL}{k:Nat}{ts:List Tm}{m:KV}(a:aB sec)(h:Su (k+1) ts m):Ok gy k ts (mK sec pub ts m).1.2:=by
 unfold mK;split
 ·exact Ok.refl h (by omega)
 split
 ·exact Ok.refl h (by omega)
 ·rename_i g;exact nmP h (IX a h.k.ok (by simpa using g)) (a55 _)
theorem bxP{sec pub:BL}{k:Nat}{ts:List Tm}{m:KV}(n id:Int)(b:aB sec)(c:aB pub)(h:Su (k+2) ts m):Ok gy k ts (hV n id sec pub ts m).2:=by
 have a:=shP (pub:=pub) (k:=k+1) b h;have e:=(shS m b c h.k).1;unfold hV;split
 ·exact a.mono (by omega)
 ·have f:=bz n;have g:=bz id;exact a.trans (naP a.su (A6 (by decide) (by decide) (show aB (mK sec pub ts m).1.1 by unfold aB;omega) (show aB (vn n++vn id)by unfold aB;simp;omega)) (UO _))
theorem keP{e:Et}{c:Int}{se:BL}{k:Nat}{ts:List Tm}{m:KV}(a:aB se)(b:aB e.2.2.2.2.1)(h:Su (k+2) ts m):Ok gy k ts (tV e c se ts m).2:=by
 have f:=bxP (k:=k) e.1 c a b h;have g:Ok gy k ts (ts,m):=Ok.refl h (by omega);unfold tV;rw[ck]
 repeat' split
 all_goals first|exact g|exact f
theorem a1a{e:Et}{lg:Lg}{k:Nat}{ts:List Tm}{m:KV}(c:(dL e).length≤100000000)(h:Su (k+1) ts m):Ok gy k ts (jU lg e ts m).2.2:=by
 have a:=nmP (k:=k) h (jT (k:=104) (by decide) (by decide) (show aB (dL e)by unfold aB;omega)) (Mx _);have b:Ok gy k ts (ts,m):=Ok.refl h (by omega);unfold jU;rw[ck]
 repeat' split
 all_goals first|exact b|exact a
theorem UP{e:Et}{c:Int}{se:BL}(a:aB se)(b:aB e.2.2.2.2.1){k:Nat}:∀(l:List Mb)(km:KM)(ts:List Tm)(m:KV),Su (k+2*l.length) ts m→Ok gy k ts (D8 e c se l km ts m).2.2
 |[],_,_,_,h=>Ok.refl h (by omega)
 |p::r,km,ts,m,h=>by
  have f:=keP (e:=e) (c:=c) (se:=se) (k:=k+2*r.length) a b (h.mono (by simp;omega));simp only[D8];split
  ·exact UP a b r km ts m (h.mono (by simp;omega))
  ·split
   ·exact f.mono (by omega)
   ·exact f.trans (UP a b r _ _ _ f.su)
theorem a1b{c:Int}{se:BL}{lg:Lg}{km:KM}{e:Et}{k:Nat}{ts:List Tm}{m:KV}(f:xJ e)(a:aB se)(j:Su (k+100) ts m):Ok gy k ts (rK c se lg km e ts m).2.2.2:=by
 have b:=a1a (lg:=lg) (e:=e) (k:=k+99) f.2.1 j;have h:=tk5 (e:=e) (lg:=lg) (ts:=ts) (m:=m);unfold rK;rw[ck];dsimp only;generalize jU lg e ts m=t at*;split
 ·exact b.mono (by omega)
 ·rename_i g;have h:=h (aD.1 g);have i:=b.trans (UP (c:=c) a f.2.2.2.2.2.2 (k:=k) e.2.2.1 km t.2.2.1 t.2.2.2 (b.su.mono (by omega)));split
  ·exact i
  ·exact i
theorem lcP{sg:BL}{l:Lt}{k:Nat}{ts:List Tm}{m:KV}(a:jw l)(h:Su (k+1) ts m):Ok gy k ts (tW sg l ts m).2:=by
 have b:=nmP (k:=k) h (jT (k:=104) (by decide) (by decide) (show aB l.2.2.2.2.2.1 by have:=a.2.1;unfold aB;omega)) (Mx _);have c:Ok gy k ts (ts,m):=Ok.refl h (by omega);unfold tW;rw[ck];dsimp only
 repeat' split
 all_goals first|exact c|exact b
theorem dgP{lk:Lk}{k:Nat}{ts:List Tm}{m:KV}(h:Su (k+1) ts m):Ok gy k ts (lB lk ts m).2:=by
 unfold lB;split
 ·rename_i g;exact nmP h (jT (k:=104) (by decide) (by decide) (by have:=pL g;unfold aB;omega)) (Mx _)
 ·exact Ok.refl h (by omega)
theorem chP{lk:Lk}{bk:Ln}{k:Nat}{ts:List Tm}{m:KV}(h:Su (k+1) ts m):Ok gy k ts (iB lk bk ts m).2:=by
 have a:Ok gy k ts (ts,m):=Ok.refl h (by omega);unfold iB
 repeat' split
 all_goals first|exact a|exact dgP h
theorem knP{l:Lt}{lk:Lk}{la:La}{bk:Ln}{k:Nat}{ts:List Tm}{m:KV}(h:Su (k+1) ts m):Ok gy k ts (zP l lk la bk ts m).2:=by
 unfold zP;split
 ·exact Ok.refl h (by omega)
 ·exact chP h
theorem tkP{lk:Lk}{bk:Ln}{k:Nat}{ts:List Tm}{m:KV}(h:Su (k+2) ts m):Ok gy k ts (nK lk bk ts m).2.2:=by
 unfold nK;have a:=chP (lk:=lk) (bk:=bk) h;split
 ·exact a.trans (dgP a.su)
 ·exact a.mono (by omega)
theorem loP{ep:BL}{l:Lt}{k:Nat}{ts:List Tm}{m:KV}(h:Su (k+1) ts m):Ok gy k ts (sG ep l ts m).2:=by
 have a:Ok gy k ts (ts,m):=Ok.refl h (by omega);unfold sG;rw[ck];split
 ·exact a
 ·rename_i g;have c:=bz l.1;have e:=bz l.2.1;have b:Ok gy k ts (CZ ep l ts m).2:=naP h (A6 (k:=107) (by decide) (by decide) (show aB ep by unfold aB;omega) (show aB (lR l)by unfold aB lR;simp;omega)) (UO _)
  repeat' split
  all_goals exact b
theorem bdP{k:Nat}:∀(l:List Lk)(z:Ln×List Tm×KV),Su (k+l.length) z.2.1 z.2.2→Ok gy k z.2.1 (l.foldl No z).2
 |[],_,h=>Ok.refl h (by simp)
 |x::r,z,h=>by
  rw[List.foldl_cons];have a:Ok gy (k+r.length) z.2.1 (No z x).2:=dgP (h.mono (by simp;omega));exact a.trans (bdP r _ a.su)
theorem txP{l:Lt}{lk:Lk}{t:BL}{e:Pg}{bk:Ln}{k:Nat}{ts:List Tm}{m:KV}{y:yf}(o:t.length≤5000)(a:Su (k+5000) ts m)(h:t7 l lk t e bk ts m y):Ok gy k ts y.2.2.2:=by
 have b:Ok gy k ts (ts,m):=Ok.refl a (by omega);unfold t7 at h;split at h
 ·obtain⟨⟨c,f⟩,g,_⟩:=h;rw[f];unfold D7;dsimp only
  repeat' split
  ·exact b
  ·exact tkP (a.mono (by omega))
  ·exact tkP (a.mono (by omega))
 ·split at h
  ·rw[h];exact b
  ·obtain⟨w,i,j,g⟩:=h;have n:bP t 0:=⟨by omega,by omega,by omega⟩;have p:=(Iv true 0 n).2;rw[j];split
   ·rw[i];exact bdP (rZ t true (0,0)).2.2 ([],ts,m) (a.mono (by omega))
   ·exact b
theorem a56{w:Cl}{l:Lt}{k:Nat}{ts:List Tm}{m:KV}{y:yf}(b:mM l=true)(g:Su (k+6000) ts m)(r:jR w l ts m y):Ok gy k ts y.2.2.2:=by
 have b:=(fv b).2.2.1;have h:Ok gy k ts (ts,m):=Ok.refl g (by omega);unfold jR at r;dsimp only at r;split at r
 ·rw[r];exact h
 split at r
 ·rw[r];exact h
 have c:=lcP (sg:=(fQ (cL w.lg.2.1 l.2.2.1) l.2.1).1.2.2.1) (k:=k+5999) b g;split at r
 ·rw[r];exact c.mono (by omega)
 generalize tW (fQ (cL w.lg.2.1 l.2.2.1) l.2.1).1.2.2.1 l ts m=z at*;have a:=c.trans (knP (l:=l) (lk:=z.1.1) (la:=w.la) (bk:=w.bk) (k:=k+5998) c.su);generalize zP l z.1.1 w.la w.bk z.2.1 z.2.2=e at*;split at r
 ·rw[r];exact a.mono (by omega)
 split at r
 ·rw[r];exact a.mono (by omega)
 split at r
 ·rw[r];exact a.mono (by omega)
 have f:=a.trans (loP (ep:=(aU Ty.i64 l.2.2.1 w.km).getD []) (l:=l) (k:=k+5997) a.su);have i:=(loT (ep:=(aU Ty.i64 l.2.2.1 w.km).getD []) (l:=l) (k:=k+5997) e.2.2 a.su.k).2;generalize sG ((aU Ty.i64 l.2.2.1 w.km).getD []) l e.2.1 e.2.2=o at*;split at r
 ·rw[r];exact f.mono (by omega)
 ·exact f.trans (txP (by omega) (f.su.mono (by omega)) r)
theorem rcP{w:Cl}{b:BL}{k:Nat}{ts:List Tm}{m:KV}{y:Mn}(h:kR w)(c:Su (k+10000) ts m)(r:oA w b ts m y):Ok gy k ts y.2.2:=by
 have a:Ok gy k ts (ts,m):=Ok.refl c (by omega);unfold oA at r;dsimp only at r;split at r
 ·rw[r];exact a
 rename_i q;have e:bP b 0:=⟨by omega,by omega,by omega⟩;split at r
 ·rw[r];exact a
 obtain⟨s,t,i,u,v,x,A,B,C⟩:=h;split at r
 ·split at r
  ·rw[r];exact a
  ·rename_i g;have j:=kT ((QM e).2 (aD.1 g)).2;rw[r];exact a1b j i (c.mono (by omega))
 ·split at r
  ·rw[r];exact a
  ·rename_i g;have l:=((Uy e).2 (aD.1 g)).2;obtain⟨z,f,n,o,D,E,p⟩:=r;rw[p];exact a56 l (c.mono (by omega)) o
theorem Nm.inj{ts:List Tm}{m:KV}{b a:BL}{t:Tm}(c:Gc ts m)(h:Nm ts b t)(h':Nm ts a t):b=a:=by
 obtain⟨i,e,f⟩:=h;obtain⟨j,g,l⟩:=h';have n:=c.at_ i t e;have o:=c.at_ j t g;have:i=j:=by omega
 subst this;rw[f,l]
theorem Nm.len{ts:List Tm}{b:BL}{t:Tm}(h:Nm ts b t):b.length=(nJ t).toNat:=by
 obtain⟨i,_,a⟩:=h;rw[a,u6]
theorem a57{t:Tm}(h:t.1≠98)(h':t.1≠103):(nJ t).toNat=32:=by
 unfold nJ;rw[ag h',ag h];rfl
theorem Nm.len32{ts:List Tm}{b:BL}{t:Tm}(h:Nm ts b t)(a:t.1≠98)(c:t.1≠103):b.length=32:=by rw[h.len,a57 a c]
theorem Nm.len64{ts:List Tm}{b:BL}{l:List BL}(h:Nm ts b (103,l,())):b.length=64:=by
 rw[h.len];rfl
theorem Nm.len98{ts:List Tm}{b k n o x:BL}(h:Nm ts b (98,[k,n,o,x],())):b.length=x.length+16:=by
 rw[h.len];show((x.length:Int)+16).toNat=_;omega
theorem QX{k b s:BL}{ts:List Tm}(h:yY k b s ts=true):∃t v,Nm ts s t∧t.1=103∧Nm ts k v∧v.1=118∧t.2.1.getD 0 []=v.2.1.getD 0 []∧t.2.1.getD 1 []=b:=by
 unfold yY at h;rw[aF,aF,aF,aQ,aQ]at h;obtain⟨⟨c,e⟩,f,g⟩:=h;have a:=Ot c;have b:=Ot e;exact⟨_,_,a.1,a.2,b.1,b.2,f,g⟩
theorem seG{q o x:BL}{n:Int}{k:Nat}{ts:List Tm}{m:KV}(h0:0≤n)(a:q.length=32)(b:aB o)(c:aB x)(h:Su (k+1) ts m):Ok (·=(98,[q,dx n,o,x],())) k ts (lA q n o x ts m).2∧Nm (lA q n o x ts m).2.1 (lA q n o x ts m).1 (98,[q,dx n,o,x],()):=by
 unfold lA;rw[ag (by omega)];have:=IW h (t:=(98,[q,dx n,o,x],())) (tm4 (by unfold aB;omega) (by unfold aB;rw[eb];omega) b c);exact⟨this.1,this.2 a⟩
theorem a58{sec ep pd:BL}{l:Lt}{k:Nat}{ts:List Tm}{m:KV}(h:Su (k+4) ts m)(v:sec.length=32)(w:ep.length=32)(q:yc l)(D:pd.length≤5000):
 ∃r b hh g z,Zw sec ep l pd ts m=(((l.1,l.2.1,l.2.2.1,l.2.2.2.1,l.2.2.2.2.1,b,g,()),0),z)∧Ok (λt=>gy t∨t=(103,[sec,eg l++tx hh],())) k ts z∧
  Nm z.1 r (107,[ep,lR l],())∧Nm z.1 b (98,[r,dx l.2.2.2.1,eg l,pd],())∧Nm z.1 hh (104,[b],())∧Nm z.1 g (103,[sec,eg l++tx hh],()):=by
 have y:l.2.2.2.2.1.length≤32:=by have:=q.2.2.2.2.2.2.2.2;omega
 have hh:=my l;have j:aB (eg l):=by unfold aB;omega
 have E:=bz l.1;have F:=bz l.2.1;have p:=IW (k:=k+3) (t:=(107,[ep,lR l],())) h (A6 (by decide) (by decide) (show aB ep by unfold aB;omega) (show aB (lR l)by unfold aB lR;simp;omega));have s:=p.2 w
 have u:Zw sec ep l pd ts m=(let k:=de (107,[ep,lR l],()) ts m
  let b:=lA k.1 l.2.2.2.1 (eg l) pd k.2.1 k.2.2
  let h:=dT (104,[b.1],()) b.2.1 b.2.2
  let g:=de (103,[sec,eg l++tx h.1],()) h.2.1 h.2.2
  (((l.1,l.2.1,l.2.2.1,l.2.2.2.1,l.2.2.2.2.1,b.1,g.1,()),0),g.2)):=rfl
 rw[u];dsimp only;have c:=p.1;clear p u;generalize de (107,[ep,lR l],()) ts m=K at*;have A:=s.len32 (by show(107:BitVec 8)≠98;decide) (by show(107:BitVec 8)≠103;decide);have f:=seG (k:=k+2) (n:=l.2.2.2.1) (o:=eg l) (x:=pd) (by have:=q.2.2.2.2.2.2.1;omega) A j (by unfold aB;omega) c.su;generalize lA K.1 l.2.2.2.1 (eg l) pd K.2.1 K.2.2=B at*;have bl:=f.2.len98;have a:=zV (k:=k+1) (t:=(104,[B.1],())) f.1.su (jT (by decide) (by decide) (by unfold aB;omega));generalize dT (104,[B.1],()) B.2.1 B.2.2=H at*;have J:=a.2.len32 (by show(104:BitVec 8)≠98;decide) (by show(104:BitVec 8)≠103;decide);have L:=dW H.1;have i:=IW (k:=k) (t:=(103,[sec,eg l++tx H.1],())) a.1.su (A6 (by decide) (by decide) (by unfold aB;omega) (by unfold aB;simp only[aa];omega));have C:=i.2 v;generalize de (103,[sec,eg l++tx H.1],()) H.2.1 H.2.2=G at*;refine⟨K.1,B.1,H.1,G.1,G.2,rfl,?_,i.1.gr.nm (a.1.gr.nm (f.1.gr.nm s)),i.1.gr.nm (a.1.gr.nm f.2),i.1.gr.nm a.2,C⟩;exact(c.imp λt e=> .inl (by rw[e];exact UO _)).trans ((f.1.imp λt e=> .inl (by rw[e];exact⟨by show(98:BitVec 8)≠103;decide,by show(98:BitVec 8)≠115;decide⟩)).trans ((a.1.imp λt e=> .inl (by rw[e];exact Mx _)).trans (i.1.imp λt e=> .inr e)))
theorem a1c{n:Int}(h0:0≤n)(h:(fd n).2=0):n<(fd n).1∧(fd n).1≤4096∧fd ((fd n).1-1)=((fd n).1,0):=by
 have z:¬n<0:=by omega
 by_cases a:n<64
 ·have e:fd n=(64,0):=by unfold fd;rw[ag z,an a]
  rw[e];exact⟨a,by decide,rfl⟩
 by_cases b:n<128
 ·have e:fd n=(128,0):=by unfold fd;rw[ag z,ag a,an b]
  rw[e];exact⟨b,by decide,rfl⟩
 by_cases c:n<256
 ·have e:fd n=(256,0):=by unfold fd;rw[ag z,ag a,ag b,an c]
  rw[e];exact⟨c,by decide,rfl⟩
 by_cases f:n<512
 ·have e:fd n=(512,0):=by unfold fd;rw[ag z,ag a,ag b,ag c,an f]
  rw[e];exact⟨f,by decide,rfl⟩
 by_cases g:n<1024
 ·have e:fd n=(1024,0):=by unfold fd;rw[ag z,ag a,ag b,ag c,ag f,an g]
  rw[e];exact⟨g,by decide,rfl⟩
 by_cases i:n<2048
 ·have e:fd n=(2048,0):=by unfold fd;rw[ag z,ag a,ag b,ag c,ag f,ag g,an i]
  rw[e];exact⟨i,by decide,rfl⟩
 by_cases j:n<4096
 ·have e:fd n=(4096,0):=by unfold fd;rw[ag z,ag a,ag b,ag c,ag f,ag g,ag i,an j]
  rw[e];exact⟨j,by decide,rfl⟩
 ·have e:fd n=(0,2):=by unfold fd;rw[ag z,ag a,ag b,ag c,ag f,ag g,ag i,ag j]
  rw[e]at h;cases h
theorem My{b:BL}(h:(lq b).2=0):fd (((lq b).1.length:Int)-1)=(((lq b).1.length:Int),0)∧(lq b).1.length≤4096∧b.length<(lq b).1.length∧((lq b).1.length:Int)=(fd b.length).1:=by
 unfold lq at h⊢;split
 ·rename_i g;obtain⟨e,f,a⟩:=a1c (Int.natCast_nonneg _) g;dsimp only
  have c:((b++128::ak ((fd b.length).1.toNat-b.length-1) 0).length:Int)=(fd b.length).1:=by
   simp only[aa,bd,List.length_replicate];omega
  rw[c];exact⟨a,by omega,by omega,rfl⟩
 ·rename_i g;rw[ag g]at h;exact absurd h g
theorem QY{sec ep text:BL}{l:Lt}{k:Nat}{ts:List Tm}{m:KV}(h:Su (k+4) ts m):
 ((r9 sec ep l text ts m).1.2≠0∧(r9 sec ep l text ts m).2=(ts,m))∨
 ∃f b hh g z,yc l∧ep.length=32∧sec.length=32∧(lq text).2=0∧r9 sec ep l text ts m=(((l.1,l.2.1,l.2.2.1,l.2.2.2.1,l.2.2.2.2.1,b,g,()),0),z)∧Ok (λt=>gy t∨t=(103,[sec,eg l++tx hh],())) k ts z∧
  Nm z.1 f (107,[ep,lR l],())∧Nm z.1 b (98,[f,dx l.2.2.2.1,eg l,(lq text).1],())∧Nm z.1 hh (104,[b],())∧Nm z.1 g (103,[sec,eg l++tx hh],())∧
  mM (l.1,l.2.1,l.2.2.1,l.2.2.2.1,l.2.2.2.2.1,b,g,())=true:=by
 unfold r9;rw[ck];split
 ·exact .inl ⟨by simp,rfl⟩
 rename_i a;split
 ·rename_i c;exact .inl ⟨c,rfl⟩
 rename_i c;rw[not_or,not_or]at a;have c:(lq text).2=0:=aD.1 c;have i:yc l:=by have:=a.2.2;rw[bR]at this;exact ai this
 have j:=My c;obtain⟨f,b,hh,g,z,p,q,r,n,s,o⟩:=a58 (l:=l) (pd:=(lq text).1) h (aD.1 a.1) (aD.1 a.2.1) i (by omega);refine .inr ⟨f,b,hh,g,z,i,aD.1 a.2.1,aD.1 a.1,c,p,q,r,n,s,o,?_⟩;unfold mM;have u:=n.len98;have e:((b.length:Int)-17)=((lq text).1.length:Int)-1:=by omega
 refine decide_eq_true ⟨i,?_,?_,o.len64⟩
 ·show(fd ((b.length:Int)-17)).2=0;rw[e,j.1]
 ·show(fd ((b.length:Int)-17)).1+16=(b.length:Int);rw[e,j.1];dsimp only;omega
theorem a1d{sg:BL}{l:Lt}{k:Nat}{ts:List Tm}{m:KV}(c:jw l)(h:Su (k+1) ts m)(h0:(tW sg l ts m).1.2=0):
 ∃hh t v,(tW sg l ts m).1.1=(l.2.1,l.2.2.2.1,l.2.2.1,l.2.2.2.2.1,hh,())∧Nm (tW sg l ts m).2.1 hh (104,[l.2.2.2.2.2.1],())∧Nm (tW sg l ts m).2.1 l.2.2.2.2.2.2.1 t∧t.1=103∧Nm (tW sg l ts m).2.1 sg v∧v.1=118∧t.2.1.getD 0 []=v.2.1.getD 0 []∧t.2.1.getD 1 []=eg l++tx hh∧mM l=true:=by
 unfold tW at h0⊢;rw[ck]at h0⊢;split at h0
 ·cases h0
 rename_i a;rw[ag a];dsimp only at h0⊢;have q:=zV (k:=k) (t:=(104,[l.2.2.2.2.2.1],())) h (jT (by decide) (by decide) (by have:=c.2.1;unfold aB;omega));generalize dT (104,[l.2.2.2.2.2.1],()) ts m=H at*;split at h0
 ·cases h0
 rename_i b;rw[ag b];dsimp only;obtain⟨t,v,e,f,g,i,j,n⟩:=QX (bR _▸b:yY sg (eg l++tx H.1) l.2.2.2.2.2.2.1 H.2.1=true);exact⟨H.1,t,v,rfl,q.2,e,f,g,i,j,n,by simpa using a⟩
def Bh(b:BL)(a:Int)(r:BL):Prop:=bP b a∧b.drop a.toNat=r
theorem Bh.step{b x r:BL}{a:Int}(h:Bh b a (x++r)):Bh b (a+x.length) r:=by
 obtain⟨⟨e,g,i⟩,c⟩:=h;have f:=aI ac c;rw[cD,aa]at f;refine⟨⟨e,by omega,by omega⟩,?_⟩;rw[show(a+(x.length:Int)).toNat=a.toNat+x.length by omega,←jf,c,List.drop_left]
theorem lT{b r:BL}{a n lo hi:Int}(h:Bh b a (vn n++r))(h0:0≤n)(e:n≤1099511627776)(f:lo≤n)(hh:n≤hi):∃c,cR b a true 0 lo hi=(n,c,0)∧Bh b c r:=by
 refine⟨a+(vn n).length,?_,h.step⟩;unfold cR;rw[an (show(true&&(0:Int)==0)=true from rfl),h.2,Ba h0 e r,an rfl,ag (by dsimp only;omega)]
theorem nG{b s r:BL}{a n:Int}(h:Bh b a (tx s++r))(m:(s.length:Int)≤n)(o:s.length≤1099511627776):∃g,gj b a true 0 n=(s,g,0)∧Bh b g r:=by
 unfold tx at h;rw[ay]at h;have c:=h.step;have f:=c.step;refine⟨_,?_,f⟩;have i:=aI ac c.2;rw[cD,aa]at i;obtain⟨⟨p,q,t⟩,j⟩:=h;obtain⟨⟨u,v,w⟩,l⟩:=c;unfold gj;rw[an (show(true&&(0:Int)==0)=true from rfl),j,Ba (by omega) (by omega) _,an rfl];dsimp only;rw[ag (by omega),ag (by omega)];unfold ya;rw[an (show(true&&(0:Int)==0)=true from rfl)];rcases Nat.eq_zero_or_pos s.length with e|e
 ·have:s=[]:=rY.1 e;subst this;rw[an (by simp)];simp
 ·rw[ag (by omega),ag (by omega),List.drop_take];rw[l,show(a+((vn (s.length:Int)).length:Int)+(s.length:Int)).toNat-(a+((vn (s.length:Int)).length:Int)).toNat=s.length by omega,List.take_left]
theorem IY{b:BL}{a:Int}(h:Bh b a []):dM b a true 0=0:=by
 obtain⟨⟨f,g,i⟩,c⟩:=h;have e:=aI ac c;rw[cD,cX]at e;unfold dM;rw[ag (by simp),ag (by omega)]
theorem Bh.zero{b:BL}(h:b.length≤1000000000):Bh b 0 b:=⟨⟨by omega,by omega,by omega⟩,rfl⟩
theorem a1e{l:Lt}(h:mM l=true):∃a,mN (hX l) true (0,0)=(l,a,0)∧dM (hX l) a true 0=0:=by
 have c:=h;obtain⟨f,B,C,D⟩:=ai h;obtain⟨E,F,G,H,J,K,L,M,N⟩:=f;have O:=tO ((l.2.2.2.2.2.1.length:Int)-17);have P:l.2.2.2.2.2.1.length≤4112:=by have:=(fv h).2.2.1.2.1;have:=(fv h);omega
 have g:Bh (hX l) 0 (vn l.1++(vn l.2.1++(vn l.2.2.1++(vn l.2.2.2.1++(tx l.2.2.2.2.1++(tx l.2.2.2.2.2.1++(tx l.2.2.2.2.2.2.1++[]))))))):=by
  have Q:=my l;have R:=dW l.2.2.2.2.2.1;have S:=dW l.2.2.2.2.2.2.1
  have e:hX l=vn l.1++(vn l.2.1++(vn l.2.2.1++(vn l.2.2.2.1++(tx l.2.2.2.2.1++(tx l.2.2.2.2.2.1++(tx l.2.2.2.2.2.2.1++[])))))):=by
   simp only[hX,eg,ay,bj]
  have i:(hX l).length≤1000000000:=by unfold hX;simp only[aa];omega
  have:=Bh.zero i;rw[←e];exact this
 obtain⟨U,j,m⟩:=lT (lo:=2) (hi:=4) g (by omega) (by omega) (by omega) (by omega);obtain⟨W,o,p⟩:=lT (lo:=0) (hi:=4) m (by omega) (by omega) (by omega) (by omega);obtain⟨X,q,r⟩:=lT (lo:=1) (hi:=65536) p (by omega) (by omega) (by omega) (by omega);obtain⟨Y,s,t⟩:=lT (lo:=1) (hi:=1048576) r (by omega) (by omega) (by omega) (by omega);obtain⟨a5,u,v⟩:=nG (n:=64) t (by omega) (by omega);obtain⟨a6,w,x⟩:=nG (n:=4112) v (by omega) (by omega);obtain⟨b,y,z⟩:=nG (n:=64) x (by omega) (by omega)
 have A:J9 (hX l) true (0,0)=(l,b,0):=by
  unfold J9;dsimp only;rw[j];dsimp only;rw[o];dsimp only;rw[q];dsimp only;rw[s];dsimp only;rw[u];dsimp only;rw[w];dsimp only;rw[y]
 refine⟨b,?_,IY z⟩;unfold mN;rw[ck,A];dsimp only;rw[an c];rfl
theorem QZ{α:Type}{b:BL}{f:α→BL}{one:Rs→α×Rs}:∀(l:List α)(a:Int)(r:BL)(c:List α),(∀x∈l,∀a r,Bh b a (f x++r)→∃e,one (a,0)=(x,e,0)∧Bh b e r)→Bh b a (fl f l++r)→
 ∃e,xt one l.length (a,0) c=(c++l,e,0)∧Bh b e r
 |[],a,r,c,_,g=>⟨a,by simp[xt],by simpa[fl]using g⟩
 |x::l,a,r,c,h,g=>by
  rw[vA,ay]at g;obtain⟨i,j,m⟩:=h x (aM ..) a _ g;obtain⟨n,o,p⟩:=QZ l i r (c++[x]) (λy q=>h y (aE _ q)) m;refine⟨n,?_,p⟩;show xt one l.length (one (a,0)).2 (c++[(one (a,0)).1])=_;rw[j];dsimp only;rw[o,ay];rfl
theorem IZ{α:Type}{b r:BL}{f:α→BL}{one:BL→Bool→Rs→α×Rs}{l:List α}{a:Int}(p:l.length≤5)(h:∀x∈l,∀a r,Bh b a (f x++r)→∃c,one b true (a,0)=(x,c,0)∧Bh b c r)(e:Bh b a (vn l.length++(fl f l++r))):
 ∃c,nL one b true (a,0)=(l,c,0)∧Bh b c r:=by
 obtain⟨g,i,j⟩:=lT (lo:=0) (hi:=5) e (by omega) (by omega) (by omega) (by omega);obtain⟨m,n,o⟩:=QZ (one:=one b true) l g r [] h j;refine⟨m,?_,o⟩;unfold nL;rw[i];dsimp only;rw[aG,n,eG]
theorem a1f{e:Et}(h:lD e=true):∃a,lQ (gO e) true (0,0)=(e,a,0)∧dM (gO e) a true 0=0:=by
 have q:=h;have g:=II h;have s:=kT h;obtain⟨Y,q2,q3,m,t,q6,q7,q8⟩:=kK h;obtain⟨u,v⟩:=Uz m;have pk:=gw m
 have w:Bh (gO e) 0 (vn 1++(vn e.1++(tx e.2.1++(vn e.2.2.1.length++(fl py e.2.2.1++(vn e.2.2.2.1.length++(fl rq e.2.2.2.1++(tx e.2.2.2.2.1++(vn e.2.2.2.2.2.1.length++(fl tx e.2.2.2.2.2.1++(tx e.2.2.2.2.2.2.1++[]))))))))))):=by
  have y:(gO e).length≤1000000000:=by
   have:=s.2.1;have:=dW e.2.2.2.2.2.2.1;unfold gO;simp only[aa];omega
  have z:gO e=vn 1++(vn e.1++(tx e.2.1++(vn e.2.2.1.length++(fl py e.2.2.1++(vn e.2.2.2.1.length++(fl rq e.2.2.2.1++(tx e.2.2.2.2.1++(vn e.2.2.2.2.2.1.length++(fl tx e.2.2.2.2.2.1++(tx e.2.2.2.2.2.2.1++[])))))))))):=by
   simp only[gO,dL,fP,ay,bj]
  have:=Bh.zero y;rw[←z];exact this
 obtain⟨a1,A,B⟩:=lT (lo:=1) (hi:=1) w (by omega) (by omega) (by omega) (by omega);obtain⟨a2,C,D⟩:=lT (lo:=1) (hi:=65536) B (by omega) (by omega) (by omega) (by omega);obtain⟨a3,E,F⟩:=nG (n:=64) D (by omega) (by omega)
 obtain⟨a4,G,H⟩:=IZ (one:=CT) (by omega) (λx c a r b=>by
  have:=u x c;simp only[py,ay]at b;obtain⟨J,f,i⟩:=lT (lo:=0) (hi:=4) b (by omega) (by omega) (by omega) (by omega);obtain⟨o,j,l⟩:=nG (n:=64) i (by omega) (by omega);obtain⟨K,L,M⟩:=nG (n:=64) l (by omega) (by omega);refine⟨K,?_,M⟩;unfold CT;dsimp only;rw[f];dsimp only;rw[j];dsimp only;rw[L]) F
 obtain⟨a5,N,O⟩:=IZ (one:=CU) (by omega) (λx c a r b=>by
  have:=v x c;simp only[rq,ay]at b;obtain⟨J,f,i⟩:=lT (lo:=0) (hi:=4) b (by omega) (by omega) (by omega) (by omega);obtain⟨o,j,l⟩:=lT (lo:=0) (hi:=1048576) i (by omega) (by omega) (by omega) (by omega);refine⟨o,?_,l⟩;unfold CU;dsimp only;rw[f];dsimp only;rw[j]) H
 obtain⟨a6,P,Q⟩:=nG (n:=64) O (by omega) (by omega)
 obtain⟨a7,R,S⟩:=IZ (one:=CV) (by omega) (λx c a r b=>by
  have:=t x c;exact nG (n:=64) b (by omega) (by omega)) Q
 obtain⟨p,U,W⟩:=nG (n:=64) S (by omega) (by omega)
 have X:N7 (gO e) true (0,0)=(e,p,0):=by
  unfold N7;dsimp only;rw[A];dsimp only;rw[C];dsimp only;rw[E];dsimp only;rw[G];dsimp only;rw[N];dsimp only;rw[P];dsimp only;rw[R];dsimp only;rw[U]
 refine⟨p,?_,IY W⟩;unfold lQ;rw[ck,X];dsimp only;rw[an q];rfl
def knN(ts:List Tm)(a:Int)(q:Nat)(k:Kn):Prop:=∃lk:Lk,pw lk=true∧lk.1=a∧lk.2.1=(q:Int)+1∧lk.2.2.1=k.2.2.1∧Nm ts k.1 (104,[D4 lk],())
def zW(ts:List Tm)(bk:Ln):Prop:=∀(a:Int)(q:Nat)(k:Kn),(dt bk a)[q]?=some k→knN ts a q k
theorem BQ(ts:List Tm):zW ts []:=λa q k h=>by simp[dt,aU,cy]at h
theorem zW.gr{K:Tm→Prop}{ts b:List Tm}{bk:Ln}(h:zW ts bk)(g:Gr K ts b):zW b bk:=λa q k c=>let⟨lk,e,f,i,j,l⟩:=h a q k c;⟨lk,e,f,i,j,g.nm l⟩
theorem I0{d:BL}(h:d.length=32):dD (ak 32 0) d=d:=by
 unfold dD;simp[h];rw[←h,bp]
theorem a1g{lk:Lk}{k:Nat}{ts:List Tm}{m:KV}(h:Su (k+1) ts m)(a:pw lk=true):Nm (lB lk ts m).2.1 (lB lk ts m).1 (104,[D4 lk],()):=by
 unfold lB;rw[an a];exact(zV h (jT (k:=104) (by decide) (by decide) (by have:=pL a;unfold aB;omega))).2
theorem Q0{lk:Lk}{bk:Ln}{k:Nat}{ts:List Tm}{m:KV}(h:Su (k+1) ts m)(c:pw lk=true)(n:lk.2.1=((dt bk lk.1).length:Int)+1)(f:zW ts bk):zW (lB lk ts m).2.1 (CM lk bk ts m):=by
 intro a q x b;have i:=a1g h c;have j:=(dgP (lk:=lk) h).gr;unfold CM at b;rw[uY]at b;split at b
 ·rename_i e;subst e;rcases bN q (dt bk lk.1).length with g|g
  ·rw[cH g]at b;exact(f.gr j) _ q x b
  ·rw[bB g]at b
   have l:q-(dt bk lk.1).length=0:=by
    rcases Nat.eq_zero_or_pos (q-(dt bk lk.1).length)with e|e
    ·exact e
    ·rw[bY (by simp;omega)]at b;cases b
   rw[l]at b;have b:=Option.some.inj b;subst b;refine⟨lk,c,rfl,by omega,rfl,?_⟩;show Nm _ (dD _ _) _;rw[I0 (i.len32 (by show(104:BitVec 8)≠98;decide) (by show(104:BitVec 8)≠103;decide))];exact i
 ·exact(f.gr j) a q x b
theorem a1h{lk:Lk}{bk:Ln}{ts:List Tm}{m:KV}(h:(iB lk bk ts m).1=0):pw lk=true∧lk.2.1=((dt bk lk.1).length:Int)+1∧(fu bk lk.1).2.2.1=lk.2.2.2.1∧¬(0<(dt bk lk.1).length∧lk.2.2.1<((dt bk lk.1).getD ((dt bk lk.1).length-1) pa).2.2.1)∧(iB lk bk ts m).2=(ts,m):=by
 unfold iB at h⊢;split at h
 ·cases h
 rename_i a;split at h
 ·dsimp only at h;split at h<;>cases h
 rename_i e;split at h
 ·cases h
 rename_i f;split at h
 ·cases h
 rename_i b;split at h
 ·cases h
 rename_i c;rw[ag a,ag e,ag f,ag b,ag c];exact⟨by simpa using a,by omega,aD.1 b,c,rfl⟩
theorem I1{lk:Lk}{bk:Ln}{k:Nat}{ts:List Tm}{m:KV}(h:Su (k+2) ts m)(b:zW ts bk):zW (nK lk bk ts m).2.2.1 (nK lk bk ts m).2.1:=by
 have a:=(tkP (lk:=lk) (bk:=bk) h).gr;unfold nK at a⊢;split
 ·rename_i g;obtain⟨c,e,_,_,f⟩:=a1h g;dsimp only;rw[f];exact Q0 (k:=k+1) h c e b
 ·rename_i g;rw[ag g]at a;exact b.gr a
inductive Gd:List Lk→Prop
 |nil:Gd []
 |snoc {l:List Lk} {x:Lk}:Gd l→0≤x.1→x.1<5→1≤x.2.2.1→x.2.2.1≤65536→x.2.2.2.2.1.length=32→x.2.1=(l.countP (λy=>y.1==x.1):Int)+1→x.2.1≤1048576→Gd (l++[x])
theorem I2{b:BL}{au:Int}(h0:0≤au)(x:au<5):∀(k:Nat)(i last:Int)(s:Rs)(c:List Lk),bP b s.1→i+k≤1048576→Gd c→i=(c.countP (λy=>y.1==au):Int)→
 bP b (yb b true au k i last s c).2.1.1∧Gd (yb b true au k i last s c).2.2∧∀a:Int,a≠au→(yb b true au k i last s c).2.2.countP (λy=>y.1==a)=c.countP (λy=>y.1==a)
 |0,_,_,s,c,n,_,h,_=>⟨n,h,λ_ _=>rfl⟩
 |k+1,i,last,s,c,n,J,h,K=>by
  obtain⟨a,e⟩:=s;rw[uX];have o:=mL true e 32 n;generalize gj b a true e 32=t at*;dsimp only at o⊢;generalize l:(if t.1.length=32 then t.2.2 else if(true&&t.2.2==0)=true then 5 else t.2.2)=m at*;have A:=eD true m 1 65536 o.1;have p:(cR b t.2.1 true m 1 65536).2.2=0→m=0∧1≤(cR b t.2.1 true m 1 65536).1∧(cR b t.2.1 true m 1 65536).1≤65536:=λq=>let z:=kU o.1 q;⟨z.1,z.2.2.2⟩
  generalize cR b t.2.1 true m 1 65536=u at*;rw[an (show(true=true)from rfl)];generalize j:(if u.1<last then(if(true&&u.2.2==0)=true then 5 else u.2.2)else u.2.2)=B at*;by_cases g:B=0
  ·rw[an g];rw[g]at j
   have D:u.2.2=0:=by
    split at j
    ·split at j
     ·cases j
     ·exact j
    ·exact j
   obtain⟨E,F,G⟩:=p D
   have H:t.1.length=32:=by
    by_cases q:t.1.length=32
    ·exact q
    ·exfalso;rw[ag q,E]at l;split at l
     ·cases l
     ·rename_i w;apply w;rw[l];rfl
   have r:Gd (c++[(au,i+1,u.1,[],t.1,())]):=Gd.snoc h h0 x F G H (by dsimp only;omega) (by dsimp only;omega)
   have f:∀a:Int,(c++[((au,i+1,u.1,[],t.1,()):Lk)]).countP (λy=>y.1==a)=c.countP (λy=>y.1==a)+(if au=a then 1 else 0):=by
    intro a;rw[List.countP_append,List.countP_cons,List.countP_nil];simp
   have v:=I2 h0 x k (i+1) u.1 (u.2.1,B) (c++[(au,i+1,u.1,[],t.1,())]) A.1 (by omega) r (by rw[f,an rfl];omega);refine⟨v.1,v.2.1,λa C=>?_⟩;rw[v.2.2 a C,f,ag (λq=>C q.symm)];rfl
  ·rw[ag g];exact⟨A.1,h,λ_ _=>rfl⟩
theorem I3{b:BL}:∀(k:Nat)(au:Int)(s:Rs)(c:List Lk),0≤au→au+k≤5→bP b s.1→Gd c→(∀a:Int,au≤a→c.countP (λy=>y.1==a)=0)→Gd (rp b true k au s c).2.2
 |0,_,_,c,_,_,_,h,_=>h
 |k+1,au,s,c,g,j,i,h,e=>by
  simp only[rp];have f:=eD true s.2 0 1048576 i;generalize cR b s.1 true s.2 0 1048576=n at*;have:=I2 (b:=b) (au:=au) g (by omega) n.1.toNat 0 1 n.2 c f.1 (by have:=f.2.2;omega) h (by rw[e au (cr _)];rfl);generalize yb b true au n.1.toNat 0 1 n.2 c=r at*;split
  ·exact I3 k (au+1) r.2.1 r.2.2 (by omega) (by omega) this.1 this.2.1 (λa l=>by rw[this.2.2 a (by omega),e a (by omega)])
  ·exact this.2.1
theorem a1i{b:BL}{s:Rs}(h:bP b s.1):Gd (rZ b true s).2.2:=I3 5 0 s [] (by omega) (by omega) h Gd.nil (λ_ _=>rfl)
theorem Mz(bk:Ln)(a:Int):(xl bk a (dt bk a).length).1=(if(dt bk a).length=0 then[]else((dt bk a).getD ((dt bk a).length-1) pa).1):=by
 unfold xl;split
 ·rename_i h;rw[an (by omega)]
 ·rename_i h;rw[ag (by omega)];dsimp only;rw[show(((dt bk a).length:Int)-1).toNat=(dt bk a).length-1 by omega]
theorem zX{bk:Ln}{a:Int}(h:0≤a∧a<5):(fu bk a).2.2.1=(if(dt bk a).length=0 then[]else((dt bk a).getD ((dt bk a).length-1) pa).1):=by
 unfold fu;rw[ag (by omega)];exact Mz bk a
theorem a1j{k:Nat}{ts:List Tm}{m:KV}:∀{l:List Lk},Gd l→Su (k+l.length) ts m→
 Ok gy k ts (mw l ts m).2∧zW (mw l ts m).2.1 (mw l ts m).1∧∀a,(dt (mw l ts m).1 a).length=l.countP (λy=>y.1==a):=by
 intro l h
 induction h generalizing k with
 |nil=>intro f;exact⟨Ok.refl f (by omega),BQ _,λa=>rfl⟩
 |@snoc l x F j n r s t u v A=>
  intro f;obtain⟨g,o,c⟩:=A (k:=k+1) (f.mono (by simp;omega));have e:mw (l++[x]) ts m=No (mw l ts m) x:=by unfold mw;rw[List.foldl_append];rfl
  rw[e];generalize mw l ts m=z at*;have B:=zX (bk:=z.1) (a:=x.1) ⟨j,n⟩
  have C:pw (x.1,x.2.1,x.2.2.1,(fu z.1 x.1).2.2.1,x.2.2.2.2.1,())=true:=by
   unfold pw;refine decide_eq_true ⟨j,n,by show 1≤x.2.1;omega,v,r,s,t,?_⟩;dsimp only;rw[B];by_cases q:(dt z.1 x.1).length=0
   ·rw[an q];refine .inl ⟨?_,rfl⟩;rw[c]at q;omega
   ·rw[ag q];refine .inr ?_
    have D:(dt z.1 x.1)[(dt z.1 x.1).length-1]?=some ((dt z.1 x.1).getD ((dt z.1 x.1).length-1) pa):=by
     rw[az,ap (by omega)];rfl
    obtain⟨lk,_,_,_,_,E⟩:=o _ _ _ D;exact E.len32 (by show(104:BitVec 8)≠98;decide) (by show(104:BitVec 8)≠103;decide)
  unfold No;dsimp only;generalize b:(x.1,x.2.1,x.2.2.1,(fu z.1 x.1).2.2.1,x.2.2.2.2.1,())=lk at*;have p:lk.1=x.1:=by rw[←b]
  have i:lk.2.1=x.2.1:=by rw[←b]
  refine⟨g.trans (dgP g.su),Q0 (k:=k) g.su C (by rw[i,p,c,u]) o,λa=>?_⟩;unfold CM;rw[uY,List.countP_append,List.countP_cons,List.countP_nil,p];by_cases q:a=x.1
  ·subst q;rw[an rfl,aa,c];simp
  ·rw[ag q,c];have:(x.1==a)=false:=by simpa using λw=>q w.symm
   rw[this];rfl
theorem a1k{l:Lt}{lk:Lk}{t:BL}{i:Pg}{bk:Ln}{k:Nat}{ts:List Tm}{m:KV}{y:yf}(j:t.length≤5000)(b:Su (k+5000) ts m)(a:zW ts bk)(h:t7 l lk t i bk ts m y):zW y.2.2.2.1 y.2.2.1:=by
 have e:=(txP (k:=k) j b h).gr;unfold t7 at h;split at h
 ·obtain⟨⟨c,n⟩,f,_⟩:=h;rw[n]at e⊢;unfold D7 at e⊢;dsimp only at e⊢
  repeat' split
  ·exact a
  ·exact I1 (k:=k+4998) b a
  ·exact I1 (k:=k+4998) b a
 ·split at h
  ·rw[h];exact a
  ·obtain⟨w,o,p,f⟩:=h;rcases f with⟨_,_,q⟩|⟨_,r,_,u,_⟩
   ·rw[q];exact a.gr e
   ·rw[p,an r,u,o];have g:bP t 0:=⟨by omega,by omega,by omega⟩;have v:=(Iv true 0 g).2;exact(a1j (k:=k) (a1i (s:=(0,0)) g) (b.mono (by omega))).2.1
theorem UQ{w:Cl}{l:Lt}{k:Nat}{ts:List Tm}{m:KV}{y:yf}(c:mM l=true)(h:Su (k+6000) ts m)(a:zW ts w.bk)(r:jR w l ts m y):zW y.2.2.2.1 y.2.2.1:=by
 have c:=(fv c).2.2.1;unfold jR at r;dsimp only at r;split at r
 ·rw[r];exact a
 split at r
 ·rw[r];exact a
 have e:=lcP (sg:=(fQ (cL w.lg.2.1 l.2.2.1) l.2.1).1.2.2.1) (k:=k+5999) c h;split at r
 ·rw[r];exact a.gr e.gr
 generalize tW (fQ (cL w.lg.2.1 l.2.2.1) l.2.1).1.2.2.1 l ts m=z at*;have b:=e.trans (knP (l:=l) (lk:=z.1.1) (la:=w.la) (bk:=w.bk) (k:=k+5998) e.su);generalize zP l z.1.1 w.la w.bk z.2.1 z.2.2=f at*;split at r
 ·rw[r];exact a.gr b.gr
 split at r
 ·rw[r];exact a.gr b.gr
 split at r
 ·rw[r];exact a.gr b.gr
 have g:=b.trans (loP (ep:=(aU Ty.i64 l.2.2.1 w.km).getD []) (l:=l) (k:=k+5997) b.su);have i:=(loT (ep:=(aU Ty.i64 l.2.2.1 w.km).getD []) (l:=l) (k:=k+5997) f.2.2 b.su.k).2;generalize sG ((aU Ty.i64 l.2.2.1 w.km).getD []) l f.2.1 f.2.2=o at*;split at r
 ·rw[r];exact a.gr g.gr
 ·exact a1k (k:=k+900) (by omega) (g.su.mono (by omega)) (a.gr g.gr) r
theorem MA{l l':Lk}(h:pw l=true)(h':pw l'=true)(e:D4 l=D4 l'):l=l':=by
 have a:=oh h;have j:=oh h';unfold D4 at e;simp only[ay]at e;obtain⟨b,e⟩:=el (by omega) (by omega) (by omega) (by omega) e;obtain⟨c,e⟩:=el (by omega) (by omega) (by omega) (by omega) e;obtain⟨f,e⟩:=el (by omega) (by omega) (by omega) (by omega) e;rw[←ay,←ay (vn (l'.2.2.2.1.length:Int))]at e;obtain⟨g,e⟩:=jD (s:=l.2.2.2.1) (s':=l'.2.2.2.1) (by omega) (by omega) e;obtain⟨i,_⟩:=jD (s:=l.2.2.2.2.1) (s':=l'.2.2.2.2.1) (r:=[]) (r':=[]) (by omega) (by omega) (by simpa[tx]using e);obtain⟨m,n,o,p,q,⟨⟩⟩:=l;obtain⟨t,u,v,w,x,⟨⟩⟩:=l';dsimp only at b c f g i;subst b c f g i;rfl
def Wd.cl(w:Wd):Nat→Cl
 |0=>w.c0
 |1=>w.c1
 |2=>w.c2
 |3=>w.c3
 |_=>w.c4
def Wd.setC(w:Wd):Nat→Cl→Wd
 |0,c=>{w with c0:=c}
 |1,c=>{w with c1:=c}
 |2,c=>{w with c2:=c}
 |3,c=>{w with c3:=c}
 |_,c=>{w with c4:=c}
def Wd.aft(w:Wd)(i:Nat)(z:Cl×List Tm×KV):Wd:={w.setC i z.1 with ts:=z.2.1,m:=z.2.2}
def Wd.ky(w:Wd):Nat→KM
 |0=>w.k0
 |1=>w.k1
 |2=>w.k2
 |3=>w.k3
 |_=>w.k4
def Wd.setK(w:Wd):Nat→KM→Wd
 |0,c=>{w with k0:=c}
 |1,c=>{w with k1:=c}
 |2,c=>{w with k2:=c}
 |3,c=>{w with k3:=c}
 |_,c=>{w with k4:=c}
structure di(w:Wd)(n:Nat):Prop where
 cl:∀i,i<5→kR (w.cl i)∧(w.cl i).c=i∧(w.cl i).fk.length+400*n+2000≤10000000
 ts:bU (10000*n+10000) w.ts
 sec:w.sec.length=5∧∀r∈w.sec,r.length=2∧∀s∈r,s.length≤64
 al:w.al.length=5∧rr w.al
 lg:cu w.lg.2.1 w.lg.2.2.1∧w.lg.2.1.length≤100000∧aB w.lg.1
 l5:∀e∈w.lg.2.1,e.2.2.1.length≤5
 go:w.go.length=5
 st:w.st.length≤1000∧w.ln.length=w.st.length∧∀b∈w.st,b.length≤2000000
 dr:0≤w.d∧w.d+2*n≤1000000
def Wd.se(w:Wd)(i j:Nat):BL:=(w.sec.getD i (ak 2 [])).getD j []
def Wb(x:Et)(i:Int)(sec:BL)(ts:List Tm):List Mb→KM→KM
 |[],a=>a
 |p::r,a=>Wb x i sec ts r (if p.1=i then cF (kt:= .i64) x.1 (tV x i sec (gv ts).1 (gv ts).2).1.1 a else a)
def gA(b:BL)(i:Int)(r:Int×Nw)(w:Wd):Wd:=
 if r.1=0∧r.2.1=1 then w.setK i.toNat (Wb (lQ b true (0,0)).1 i (w.se i.toNat 0) w.ts (lQ b true (0,0)).1.2.2.1 (w.ky i.toNat))else w
def jS(w:Wd)(i:Int)(b:BL)(y:(Int×Nw)×Wd):Prop:=
 ∃r:Mn,oA (w.cl i.toNat) b w.ts w.m r∧y=(r.1,gA b i r.1 (w.aft i.toNat r.2))
theorem io{i:Nat}(h:i<5):i=0∨i=1∨i=2∨i=3∨i=4:=by omega
theorem zY(w:Wd)(c:Cl){i j:Nat}(hi:i<5)(a:j<5):(w.setC i c).cl j=if j=i then c else w.cl j:=by
 rcases io hi with rfl|rfl|rfl|rfl|rfl<;>rcases io a with rfl|rfl|rfl|rfl|rfl<;>rfl
theorem a59(w:Wd)(c:KM){i j:Nat}(hi:i<5)(a:j<5):(w.setK i c).ky j=if j=i then c else w.ky j:=by
 rcases io hi with rfl|rfl|rfl|rfl|rfl<;>rcases io a with rfl|rfl|rfl|rfl|rfl<;>rfl
theorem jb(w:Wd)(i:Nat)(c:Cl):(w.setC i c).sec=w.sec∧(w.setC i c).al=w.al∧(w.setC i c).go=w.go∧(w.setC i c).d=w.d∧(w.setC i c).lg=w.lg∧(w.setC i c).st=w.st∧(w.setC i c).ln=w.ln∧(w.setC i c).ts=w.ts∧(w.setC i c).m=w.m∧∀j,(w.setC i c).ky j=w.ky j:=by
 unfold Wd.setC;split<;>exact⟨rfl,rfl,rfl,rfl,rfl,rfl,rfl,rfl,rfl,λ_=>rfl⟩
theorem oD(w:Wd)(i:Nat)(c:KM):(w.setK i c).sec=w.sec∧(w.setK i c).al=w.al∧(w.setK i c).go=w.go∧(w.setK i c).d=w.d∧(w.setK i c).lg=w.lg∧(w.setK i c).st=w.st∧(w.setK i c).ln=w.ln∧(w.setK i c).ts=w.ts∧(w.setK i c).m=w.m∧∀j,(w.setK i c).cl j=w.cl j:=by
 unfold Wd.setK;split<;>exact⟨rfl,rfl,rfl,rfl,rfl,rfl,rfl,rfl,rfl,λ_=>rfl⟩
theorem di.mono{w:Wd}{n k:Nat}(h:di w n)(b:k≤n):di w k:=
 ⟨λi a=>⟨(h.cl i a).1,(h.cl i a).2.1,by have:=(h.cl i a).2.2;omega⟩,h.ts.mono (by omega),h.sec,h.al,h.lg,h.l5,h.go,h.st,⟨h.dr.1,by have:=h.dr.2;omega⟩⟩
theorem I4{w:Wd}{n i:Nat}{c:KM}(h:di w n):di (w.setK i c) n:=by
 obtain⟨e,f,g,l,b,m,o,p,r,a⟩:=oD w i c;exact⟨λj q=>by rw[a];exact h.cl j q,by rw[p];exact h.ts,by rw[e];exact h.sec,by rw[f];exact h.al,by rw[b];exact h.lg,by rw[b];exact h.l5,by rw[g];exact h.go,by rw[m,o];exact h.st,by rw[l];exact h.dr⟩
theorem vC{w:Wd}{n i:Nat}{b:BL}{r:Mn}(h:di w (n+1))(hi:i<5)(f:oA (w.cl i) b w.ts w.m r):di (w.aft i r.2) n:=by
 unfold Wd.aft;obtain⟨l,o,p,s,c,t,u,z,A,v⟩:=jb w i r.2.1;obtain⟨x,y,B⟩:=h.cl i hi;have q:=a09 (k:=10000*n+10000) x (h.ts.mono (by omega)) f;refine⟨λj a=>?_,q.2.2.1,by dsimp only;rw[l];exact h.sec,by dsimp only;rw[o];exact h.al,by dsimp only;rw[c];exact h.lg,by dsimp only;rw[c];exact h.l5,by dsimp only;rw[p];exact h.go,by dsimp only;rw[t,u];exact h.st,by dsimp only;rw[s];exact⟨h.dr.1,by have:=h.dr.2;omega⟩⟩
 have e:Wd.cl {w.setC i r.2.1 with ts:=r.2.2.1,m:=r.2.2.2} j=(w.setC i r.2.1).cl j:=by
  rcases io a with rfl|rfl|rfl|rfl|rfl<;>rfl
 rw[e,zY w r.2.1 hi a];split
 ·rename_i g;subst g;exact⟨q.1,q.2.2.2.1.trans y,by omega⟩
 ·have:=h.cl j a;exact⟨this.1,this.2.1,by omega⟩
theorem I5{ts:List Tm}(h:∀t∈ts,eC t):(∀t∈(gv ts).1,eC t)∧(gv ts).1.length≤ts.length:=by
 have e:∀(l:List Tm)(z:List Tm×KV),(∀t∈l,eC t)→(∀t∈z.1,eC t)→(∀t∈(l.foldl (λa t=>(jg t a.1 a.2).2) z).1,eC t):=by
  intro l
  induction l with
  |nil=>intro z _ c;exact c
  |cons a r g=>
   intro z f c;rw[List.foldl_cons];refine g _ (λt b=>f t (aE _ b)) ?_;unfold jg;split
   ·intro t b;rcases aY.1 b with b|b
    ·exact c t b
    ·simp at b;subst b;exact f a (aM ..)
   ·exact c
 refine⟨e ts _ h (λt b=>by simp at b),?_⟩;have:=y7 ts ts.length (aC _);rw[bp]at this;exact this
theorem a1l{w:Wd}{n:Nat}(h:di w n)(i j:Nat):(w.se i j).length≤64:=by
 unfold Wd.se;rcases bN i w.sec.length with g|g
 ·have b:=h.sec.2 _ (aT (z:=ak 2 []) g);rcases bN j (w.sec.getD i (ak 2 [])).length with a|a
  ·exact b.2 _ (aT a)
  ·rw[az (l:=w.sec.getD i _),bY a];simp
 ·rw[az (l:=w.sec),bY g,Option.getD_none];rcases j with _|_|j<;>simp
theorem pU{w:Wd}{n:Nat}(h:di w n){i:Int}(b:BL)(hi:0≤i∧i<5):∃y,jS w i b y:=by
 obtain⟨r,a⟩:=IA (w.cl i.toNat) b w.ts w.m (h.cl i.toNat (by omega)).1.2.2.2.2.1;exact⟨_,r,a,rfl⟩
theorem jc{w:Wd}{n:Nat}{i:Int}{b:BL}{y:(Int×Nw)×Wd}(h:di w (n+1))(hi:0≤i∧i<5)(a:jS w i b y):di y.2 n:=by
 obtain⟨r,a,rfl⟩:=a;have:=vC h (show i.toNat<5 by omega) a;unfold gA;dsimp only;split
 ·exact I4 this
 ·exact this
theorem I6{w:Cl}{b:BL}{ts:List Tm}{m:KV}{r:Mn}(h:oA w b ts m r)(h0:r.1.1=0)(a:r.1.2.1=1):lD (lQ b true (0,0)).1=true∧dM b (lQ b true (0,0)).2.1 true (lQ b true (0,0)).2.2=0:=by
 unfold oA at h;dsimp only at h;split at h
 ·rw[h]at h0;exact absurd h0 (by show¬((2:Int)=0);decide)
 rename_i l;have e:bP b 0:=⟨by omega,by omega,by omega⟩;split at h
 ·rename_i g;rw[h]at h0;exact absurd h0 g
 split at h
 ·split at h
  ·rename_i g;rw[h]at h0;exact absurd h0 g
  ·rename_i g;have g:=aD.1 g;exact⟨((QM e).2 g).2,g⟩
 ·split at h
  ·rename_i g;rw[h]at h0;exact absurd h0 g
  ·rename_i g;have i:=(fv ((Uy e).2 (aD.1 g)).2).1.1;obtain⟨z,f,n,o,p,c,j⟩:=h;rw[j]at h0 a;unfold yh at c;have h0:z.1=0:=h0;rw[an h0]at c;have a:n.1=1:=a;exact absurd (a.symm.trans c.1) (λq=>by rw[←q]at i;exact absurd i (by decide))
def bxH(j:Nat):List (Option CP):=[some (.cells [.ptr j 0])]
def n2C:Ct:=⟨1,⟨[(0,false,[.ptr 0 0])],bxH 1++kH 1⟩,[⟨[sS 0 4],bxH 1++kH 1++kH 4⟩],λ(d,a,m,_)=>one (fg a) (d,a,m,d,(gv a).1,(gv a).2,())⟩
abbrev a1m(v:Int×List Tm×KV×Int×List Tm×KV×Unit):aN n2C.out:=⟨0,v⟩
def a1n:bu:=(33,[n2C])::QW
theorem a6a:KK a1n:=kA a07 (cv n2C 0) (∀(b:Int)(a:List Tm)(c:KV)(Q:aN n2C.out→Prop),(Ct.spec n2C (b,a,c,())).sat Q→fg a∧Q (a1m (b,a,c,b,(gv a).1,(gv a).2,()))) (by kernel_rfl) (by
 intro d b m Q ⟨h,a⟩;exact⟨h,a⟩)
def wdR:List (Option CP):=[some (.cells [.ifc 96 1 0, .fn 33 [] [(3,0)], .d (.ar 5 (.ar 2 tB)), .d (.ar 5 il), .ptr 4 0, .ptr 6 0, .ptr 8 0, .ptr 10 0, .ptr 12 0, .mp 14, .mp 15, .mp 16, .mp 17, .mp 18, .ptr 19 0, .d (.ar 5 .bl), .own 31, .own 32])]++((IJ 33).drop 1).take 30++[some (.sl tB),some (.sl .i64)]++(pT 33).take 11
theorem Wd.all2{F:List (List BL)→List Mb→List Bool→Int→KV→DD.den→DE.den→KM→DD.den→DE.den→KM→DD.den→DE.den→KM→DD.den→DE.den→KM→DD.den→DE.den→KM→KM→KM→KM→KM→KM→Lg→List BL→List Int→List Tm→Ln→Ln→Ln→Ln→Ln→Prop}
 (h:∀w:Wd,F w.sec w.al w.go w.d w.m (cA w.c0) (bC w.c0) w.c0.km (cA w.c1) (bC w.c1) w.c1.km (cA w.c2) (bC w.c2) w.c2.km (cA w.c3) (bC w.c3) w.c3.km (cA w.c4) (bC w.c4) w.c4.km w.k0 w.k1 w.k2 w.k3 w.k4 w.lg w.st w.ln w.ts w.c0.bk w.c1.bk w.c2.bk w.c3.bk w.c4.bk):
 ∀E G H J K L M N O a b c e f g i j l n o p q r s t u v x y z A B C D,F E G H J K L M N O a b c e f g i j l n o p q r s t u v x y z A B C D:=λE G H J K L M N O a b c e f g i j l n o p q r s t u v x y z A B C D=>h (cw (E,G,H,J,K,L,M,N,O,a,b,c,e,f,g,i,j,l,n,o,p,q,r,s,t,u,y,z,A,B,C,D,v,x,()))
def DI:Ct:=⟨3,⟨[sP 0,sI 1,sB 2],jK⟩,[⟨[(0,true,[.d D9])],wdR⟩],λ(i,b,G,H,J,K,L,M,N,O,P,a,c,e,f,g,h,j,l,o,p,q,r,s,t,u,v,w,x,z,A,B,C,D,E,F,_)=>eO (0≤i∧i<5∧b.length≤10000000∧∃n,di (cw (G,H,J,K,L,M,N,O,P,a,c,e,f,g,h,j,l,o,p,q,r,s,t,u,v,w,x,z,A,B,C,D,E,F,())) (n+1)) (jS (cw (G,H,J,K,L,M,N,O,P,a,c,e,f,g,h,j,l,o,p,q,r,s,t,u,v,w,x,z,A,B,C,D,E,F,())) i b) λy=>((y.1.1,0,y.1.2),y.2.sec,y.2.al,y.2.go,y.2.d,y.2.m,(cA y.2.c0),(bC y.2.c0),y.2.c0.km,(cA y.2.c1),(bC y.2.c1),y.2.c1.km,(cA y.2.c2),(bC y.2.c2),y.2.c2.km,(cA y.2.c3),(bC y.2.c3),y.2.c3.km,(cA y.2.c4),(bC y.2.c4),y.2.c4.km,y.2.k0,y.2.k1,y.2.k2,y.2.k3,y.2.k4,y.2.lg,y.2.st,y.2.ln,y.2.ts,y.2.c0.bk,y.2.c1.bk,y.2.c2.bk,y.2.c3.bk,y.2.c4.bk,())⟩
def a1o:cc:=⟨[sP 0,sI 1,sB 2,(6,false,[.ptr 44 0]),(7,false,[.ptr 45 0]),sI 8],wdR++[some (.cells [.d D9]),some (.cells [.d If])]⟩
def zZ(x:DI.inp.den)(y:a1o.den):Prop:=match x,y with
 |(i,b,K,L,M,N,O,P,Q,R,S,a,e,f,g,h,l,n,o,p,q,s,t,u,v,w,z,A,B,C,D,E,F,G,H,J,_),(j,c,er,b1,b2,b3,b4,b5,b6,b7,b8,b9,U,W,X,Y,a0,b0,c0,c1,c2,c3,c4,c5,c6,c7,c8,c9,d0,d1,d2,d3,d4,d5,d6,d7,d8,sn,nw,_)=>j=i∧c=b∧∃r,oA ((cw (K,L,M,N,O,P,Q,R,S,a,e,f,g,h,l,n,o,p,q,s,t,u,v,w,z,A,B,C,D,E,F,G,H,J,())).cl i.toNat) b (cw (K,L,M,N,O,P,Q,R,S,a,e,f,g,h,l,n,o,p,q,s,t,u,v,w,z,A,B,C,D,E,F,G,H,J,())).ts (cw (K,L,M,N,O,P,Q,R,S,a,e,f,g,h,l,n,o,p,q,s,t,u,v,w,z,A,B,C,D,E,F,G,H,J,())).m r∧(er,nw)=r.1∧(cw (b1,b2,b3,b4,b5,b6,b7,b8,b9,U,W,X,Y,a0,b0,c0,c1,c2,c3,c4,c5,c6,c7,c8,c9,d0,d3,d4,d5,d6,d7,d8,d1,d2,()))=(cw (K,L,M,N,O,P,Q,R,S,a,e,f,g,h,l,n,o,p,q,s,t,u,v,w,z,A,B,C,D,E,F,G,H,J,())).aft i.toNat r.2
def a1p:cc:=⟨[sP 0,sI 1,(6,false,[.ptr 44 0]),(7,false,[.ptr 45 0]),sI 8,(9,false,[.ptr 46 0]),(38,false,[.d (.sl il)]),sI 39,sI 40],wdR++[some (.cells [.d D9]),some (.cells [.d If]),some (.cells [.d r6])]⟩
def vD(x:DI.inp.den)(y:a1p.den):Prop:=match x,y with
 |(i,b,O,P,Q,R,S,U,W,X,Y,a,c,f,g,h,l,o,p,s,t,u,v,z,A,B,C,D,E,F,G,H,J,K,L,M,_),(j,er,N,n,k,b1,b2,b3,b4,b5,b6,b7,b8,b9,a0,b0,c0,c1,c2,c3,c4,c5,c6,c7,c8,c9,d0,d1,d2,d3,d4,d5,d6,d7,d8,d9,e0,e1,e2,sn,nw,e,_)=>j=i∧e=(lQ b true (0,0)).1∧N=e.2.2.1∧n=N.length∧(∃r w,oA ((cw (O,P,Q,R,S,U,W,X,Y,a,c,f,g,h,l,o,p,s,t,u,v,z,A,B,C,D,E,F,G,H,J,K,L,M,())).cl i.toNat) b (cw (O,P,Q,R,S,U,W,X,Y,a,c,f,g,h,l,o,p,s,t,u,v,z,A,B,C,D,E,F,G,H,J,K,L,M,())).ts (cw (O,P,Q,R,S,U,W,X,Y,a,c,f,g,h,l,o,p,s,t,u,v,z,A,B,C,D,E,F,G,H,J,K,L,M,())).m r∧(er,nw)=r.1∧r.1.1=0∧r.1.2.1=1∧w=(cw (O,P,Q,R,S,U,W,X,Y,a,c,f,g,h,l,o,p,s,t,u,v,z,A,B,C,D,E,F,G,H,J,K,L,M,())).aft i.toNat r.2∧
  ∃q:Nat,k=q∧q≤N.length∧∃km,(cw (b1,b2,b3,b4,b5,b6,b7,b8,b9,a0,b0,c0,c1,c2,c3,c4,c5,c6,c7,c8,c9,d0,d1,d2,d3,d4,d7,d8,d9,e0,e1,e2,d5,d6,()))=w.setK i.toNat km∧Wb e i (w.se i.toNat 0) w.ts (N.drop q) km=Wb e i (w.se i.toNat 0) w.ts N (w.ky i.toNat))
def a6b(x:DI.inp.den):dG:=⟨[(5,bM a1p (vD x) λ(_,_,_,n,k,_)=>(n-k).toNat)],[(2,bM a1o (zZ x) λ_=>0)],[],[(1,1,5),(8,1,5)],0⟩
abbrev Aa(v:(Int×Int×Nw)×TZ Unit):aN DI.out:=⟨0,v⟩
def Q1:bu:=(41,[DI])::a1n
theorem a1q:KK Q1:=kA a6a a6b (∀(p:Int)(c:BL),WA λE a4 a5 a6 a7 e k r f l s g m t h n u i o v a8 a9 b0 b1 b2 b3 q w z a0 a1 a2 b4 b5=>let j5:=Cl.mk f.1 f.2.1 f.2.2.1 f.2.2.2.1 l.1 l.2.1 l.2.2.1 s z;let j6:=Cl.mk e.1 e.2.1 e.2.2.1 e.2.2.2.1 k.1 k.2.1 k.2.2.1 r w;let j7:=Cl.mk i.1 i.2.1 i.2.2.1 i.2.2.2.1 o.1 o.2.1 o.2.2.1 v a2;let z9:=Cl.mk h.1 h.2.1 h.2.2.1 h.2.2.2.1 n.1 n.2.1 n.2.2.1 u a1;let z8:=Cl.mk g.1 g.2.1 g.2.2.1 g.2.2.2.1 m.1 m.2.1 m.2.2.1 t a0;let z1:=(a4,a5,a6,a7,e,k,r,f,l,s,g,m,t,h,n,u,i,o,v,a8,a9,b0,b1,b2,b3,q,w,z,a0,a1,a2,b4,b5,());let x:=(p,c,E,z1);∀(Q:aN DI.out→Prop),(Tr.need (0≤p∧p<5∧c.length≤10000000∧∃p,di (cw (E,z1)) (p+1)) (Tr.all ((Int×Nw)×Wd) (jS (cw (E,z1)) p c) λy=>Tr.leaf (Aa ((y.1.1,0,y.1.2),unZ y.2)))).sat Q→((0≤p∧p<5)∧((((True∧(p=0→(c.length≤10000000∧kR j6∧ac k.2.2.1+2000≤10000000∧bU 10000 q)∧∀(b:(Int×Nw)×Cl×List Tm×KV),oA j6 c q a7 b→Is (zZ x (0,c,b.1.1,E,a4,a5,a6,b.2.2.2,(b.2.1.c,b.2.1.se,b.2.1.sg,b.2.1.lg,()),(b.2.1.pg,b.2.1.la,b.2.1.fk,()),b.2.1.km,f,l,s,g,m,t,h,n,u,i,o,v,a8,a9,b0,b1,b2,b3,b4,b5,b.2.2.1,b.2.1.bk,z,a0,a1,a2,(0,0,0,0,0,0,false,false,[],()),b.1.2,()))))∧(p=1→(c.length≤10000000∧kR j5∧ac l.2.2.1+2000≤10000000∧bU 10000 q)∧∀(b:(Int×Nw)×Cl×List Tm×KV),oA j5 c q a7 b→Is (zZ x (1,c,b.1.1,E,a4,a5,a6,b.2.2.2,e,k,r,(b.2.1.c,b.2.1.se,b.2.1.sg,b.2.1.lg,()),(b.2.1.pg,b.2.1.la,b.2.1.fk,()),b.2.1.km,g,m,t,h,n,u,i,o,v,a8,a9,b0,b1,b2,b3,b4,b5,b.2.2.1,w,b.2.1.bk,a0,a1,a2,(0,0,0,0,0,0,false,false,[],()),b.1.2,()))))∧(p=2→(c.length≤10000000∧kR z8∧ac m.2.2.1+2000≤10000000∧bU 10000 q)∧∀(b:(Int×Nw)×Cl×List Tm×KV),oA z8 c q a7 b→Is (zZ x (2,c,b.1.1,E,a4,a5,a6,b.2.2.2,e,k,r,f,l,s,(b.2.1.c,b.2.1.se,b.2.1.sg,b.2.1.lg,()),(b.2.1.pg,b.2.1.la,b.2.1.fk,()),b.2.1.km,h,n,u,i,o,v,a8,a9,b0,b1,b2,b3,b4,b5,b.2.2.1,w,z,b.2.1.bk,a1,a2,(0,0,0,0,0,0,false,false,[],()),b.1.2,()))))∧(p=3→(c.length≤10000000∧kR z9∧ac n.2.2.1+2000≤10000000∧bU 10000 q)∧∀(b:(Int×Nw)×Cl×List Tm×KV),oA z9 c q a7 b→Is (zZ x (3,c,b.1.1,E,a4,a5,a6,b.2.2.2,e,k,r,f,l,s,g,m,t,(b.2.1.c,b.2.1.se,b.2.1.sg,b.2.1.lg,()),(b.2.1.pg,b.2.1.la,b.2.1.fk,()),b.2.1.km,i,o,v,a8,a9,b0,b1,b2,b3,b4,b5,b.2.2.1,w,z,a0,b.2.1.bk,a2,(0,0,0,0,0,0,false,false,[],()),b.1.2,()))))∧(p=4→(c.length≤10000000∧kR j7∧ac o.2.2.1+2000≤10000000∧bU 10000 q)∧∀(b:(Int×Nw)×Cl×List Tm×KV),oA j7 c q a7 b→Is (zZ x (4,c,b.1.1,E,a4,a5,a6,b.2.2.2,e,k,r,f,l,s,g,m,t,h,n,u,(b.2.1.c,b.2.1.se,b.2.1.sg,b.2.1.lg,()),(b.2.1.pg,b.2.1.la,b.2.1.fk,()),b.2.1.km,a8,a9,b0,b1,b2,b3,b4,b5,b.2.2.1,w,z,a0,a1,b.2.1.bk,(0,0,0,0,0,0,false,false,[],()),b.1.2,()))))∧∀(j2:Int)(f7:BL)(f5:Int),WB λf8 f9 g0 g1 g2 g3 g4 g5 g6 g7 g8 g9 h0 h1 h2 h3 h4 h5 h6 h7 h8 h9 i0 i1 i2 i3 i4 i5 i6 i7 i8 i9 j0 j1=>∀(j3:Int×Int×Nw)(f6:Nw),let z5:=Aa ((f5,0,f6),f8,f9,g0,g1,g2,g3,g4,g5,g6,g7,g8,g9,h0,h1,h2,h3,h4,h5,h6,h7,h8,h9,i0,i1,i2,i3,i4,i5,i6,i7,i8,i9,j0,j1,());zZ x (j2,f7,f5,f8,f9,g0,g1,g2,g3,g4,g5,g6,g7,g8,g9,h0,h1,h2,h3,h4,h5,h6,h7,h8,h9,i0,i1,i2,i3,i4,i5,i6,i7,i8,i9,j0,j1,j3,f6,())→Br (f5==0) (Br (f6.1==1) (f7.length≤1099511627776∧bP f7 0∧∀(b:Et×Int×Int),b=lQ f7 true (0,0)→Is (vD x (j2,f5,b.1.2.2.1,(↑(ac b.1.2.2.1):Int),0,f8,f9,g0,g1,g2,g3,g4,g5,g6,g7,g8,g9,h0,h1,h2,h3,h4,h5,h6,h7,h8,h9,i0,i1,i2,i3,i4,i5,i6,i7,i8,i9,j0,j1,j3,f6,b.1,()))∧∀(B F:Int)(D:List Mb)(C d:Int),let k3:=(D.getD d.toNat (0,[],[],())).1==B;let z4:Prop:=(C-(d+1)).toNat<(C-d).toNat;WB λA G H J K L M N O P R S U W X Y d6 d7 d8 d9 e0 e1 e2 e3 e4 e5 e6 e7 j e8 e9 f0 f1 f2=>let j8:=(A.getD 4 (ak 2 [])).getD 0 [];let j9:=(A.getD 3 (ak 2 [])).getD 0 [];let k0:=(A.getD 2 (ak 2 [])).getD 0 [];let k1:=(A.getD 1 (ak 2 [])).getD 0 [];let k2:=(A.getD 0 (ak 2 [])).getD 0 [];∀(f4:Int×Int×Nw)(f3:Nw)(a:Et),let z3:=(e5,e6,e7,j,e8,e9,f0,f1,f2,f4,f3,a,());let j4:=(e2,e3,e4,z3);let z7:=(A,G,H,J,K,L,M,N,O,P,R,S,U,W,X,Y,d6,d7,d8,d9,e0,e1,j4);let z2:Prop:=hK a∧ac (fP a)≤100000000∧(∀(b:BL),b∈a.2.2.2.2.2.1→aB b)∧aB a.2.2.2.2.1∧bU 2 (gv j).1;vD x (B,F,D,C,d,z7)→Br (decide (d<C)) ((0≤d∧d<(↑D.length:Int))∧Br k3 ((0≤B∧B<5)∧((((True∧(B=0→fg j∧(aB k2∧z2)∧∀(b:(BL×Int)×List Tm×KV),b=tV a 0 k2 (gv j).1 (gv j).2→ae (d+1)∧Is (vD x (0,F,D,C,d+1,A,G,H,J,K,L,M,N,O,P,R,S,U,W,X,Y,d6,d7,d8,d9,dy Ty.i64 a.1 b.1.1 e0,e1,j4)∧z4)))∧(B=1→fg j∧(aB k1∧z2)∧∀(b:(BL×Int)×List Tm×KV),b=tV a 1 k1 (gv j).1 (gv j).2→ae (d+1)∧Is (vD x (1,F,D,C,d+1,A,G,H,J,K,L,M,N,O,P,R,S,U,W,X,Y,d6,d7,d8,d9,e0,dy Ty.i64 a.1 b.1.1 e1,j4)∧z4)))∧(B=2→fg j∧(aB k0∧z2)∧∀(b:(BL×Int)×List Tm×KV),b=tV a 2 k0 (gv j).1 (gv j).2→ae (d+1)∧Is (vD x (2,F,D,C,d+1,A,G,H,J,K,L,M,N,O,P,R,S,U,W,X,Y,d6,d7,d8,d9,e0,e1,dy Ty.i64 a.1 b.1.1 e2,e3,e4,z3)∧z4)))∧(B=3→fg j∧(aB j9∧z2)∧∀(b:(BL×Int)×List Tm×KV),b=tV a 3 j9 (gv j).1 (gv j).2→ae (d+1)∧Is (vD x (3,F,D,C,d+1,A,G,H,J,K,L,M,N,O,P,R,S,U,W,X,Y,d6,d7,d8,d9,e0,e1,e2,dy Ty.i64 a.1 b.1.1 e3,e4,z3)∧z4)))∧(B=4→fg j∧(aB j8∧z2)∧∀(b:(BL×Int)×List Tm×KV),b=tV a 4 j8 (gv j).1 (gv j).2→ae (d+1)∧Is (vD x (4,F,D,C,d+1,A,G,H,J,K,L,M,N,O,P,R,S,U,W,X,Y,d6,d7,d8,d9,e0,e1,e2,e3,dy Ty.i64 a.1 b.1.1 e4,z3)∧z4))) (ae (d+1)∧Is (vD x (B,F,D,C,d+1,z7)∧z4))) (Q (Aa ((F,0,f3),A,G,H,J,K,L,M,N,O,P,R,S,U,W,X,Y,d6,d7,d8,d9,e0,e1,e2,e3,e4,e5,e6,e7,j,e8,e9,f0,f1,f2,())))) (Q z5)) (Q z5)) (by kernel_rfl) (by
 conv=>zeta
 unfold Br WA WB unZ;intro i b;refine Wd.all λw=>?_;intro Q ⟨⟨X,Y,h3,n,t⟩,hQ⟩;have t:di w (n+1):=t;have N:∀y:(Int×Nw)×Wd,jS w i b y→Q ⟨0,((y.1.1,0,y.1.2),y.2.sec,y.2.al,y.2.go,y.2.d,y.2.m,(cA y.2.c0),(bC y.2.c0),y.2.c0.km,(cA y.2.c1),(bC y.2.c1),y.2.c1.km,(cA y.2.c2),(bC y.2.c2),y.2.c2.km,(cA y.2.c3),(bC y.2.c3),y.2.c3.km,(cA y.2.c4),(bC y.2.c4),y.2.c4.km,y.2.k0,y.2.k1,y.2.k2,y.2.k3,y.2.k4,y.2.lg,y.2.st,y.2.ln,y.2.ts,y.2.c0.bk,y.2.c1.bk,y.2.c2.bk,y.2.c3.bk,y.2.c4.bk,())⟩:=λy h=>hQ y h;clear hQ;have hb:b.length≤1099511627776:=by omega
 have D:bP b 0:=⟨hb,by omega,by omega⟩;have a:∀q<5,b.length≤10000000∧kR (w.cl q)∧(w.cl q).fk.length+2000≤10000000∧bU 10000 w.ts:=λq N=>⟨h3,(t.cl q N).1,by have:=(t.cl q N).2.2;omega,t.ts.mono (by omega)⟩;refine⟨⟨⟨X,Y⟩,⟨⟨⟨⟨trivial,λe=>⟨a 0 (by omega),λr D=>?_⟩⟩,λe=>⟨a 1 (by omega),λr D=>?_⟩⟩,λe=>⟨a 2 (by omega),λr D=>?_⟩⟩,λe=>⟨a 3 (by omega),λr D=>?_⟩⟩,λe=>⟨a 4 (by omega),λr D=>?_⟩⟩,?_⟩
 all_goals try (subst e;exact⟨rfl,rfl,r,D,rfl,rfl⟩)
 intro j c O;refine Wd.all2 λv=>?_;rintro sn P ⟨rfl,rfl,r,x,e3,R⟩;have R:v=w.aft j.toNat r.2:=R;obtain⟨⟨E,F⟩,rc⟩:=r;have G:O=E:=aI Prod.fst e3;have J:P=F:=aI Prod.snd e3;subst G J;have K:di v n:=by rw[R];exact vC t (by omega) x
 have fin:∀z,gA c j (O,P) v=z→Q ⟨0,((O,0,P),z.sec,z.al,z.go,z.d,z.m,(cA z.c0),(bC z.c0),z.c0.km,(cA z.c1),(bC z.c1),z.c1.km,(cA z.c2),(bC z.c2),z.c2.km,(cA z.c3),(bC z.c3),z.c3.km,(cA z.c4),(bC z.c4),z.c4.km,z.k0,z.k1,z.k2,z.k3,z.k4,z.lg,z.st,z.ln,z.ts,z.c0.bk,z.c1.bk,z.c2.bk,z.c3.bk,z.c4.bk,())⟩:=λz hz=>N ((O,P),z) ⟨_,x,by rw[←hz,R]⟩;have out:¬(O=0∧P.1=1)→Q ⟨0,((O,0,P),v.sec,v.al,v.go,v.d,v.m,(cA v.c0),(bC v.c0),v.c0.km,(cA v.c1),(bC v.c1),v.c1.km,(cA v.c2),(bC v.c2),v.c2.km,(cA v.c3),(bC v.c3),v.c3.km,(cA v.c4),(bC v.c4),v.c4.km,v.k0,v.k1,v.k2,v.k3,v.k4,v.lg,v.st,v.ln,v.ts,v.c0.bk,v.c1.bk,v.c2.bk,v.c3.bk,v.c4.bk,())⟩:=λg=>fin v (ag g);refine⟨λA=>⟨λB=>⟨hb,D,λe he=>⟨⟨rfl,by rw[he],rfl,rfl,_,v,x,rfl,be A,be B,R,0,rfl,aq _,v.ky j.toNat,?_,rfl⟩,?_⟩⟩,λB=>out λg=>aA B g.2⟩,λA=>out λg=>aA A g.1⟩
 ·rcases io (show j.toNat<5 by omega)with q|q|q|q|q<;>rw[q]<;>rfl
 clear out fin R e3 x K A B;intro L o ms n2 k;refine Wd.all2 λu=>?_;rintro a4 p S ⟨rfl,f0,rfl,rfl,r2,f,s,f3,A,B,U,q,rfl,a5,km,W,C⟩;have W:u=f.setK L.toNat km:=W;have U:f=w.aft L.toNat r2.2:=U;have K:di f n:=by rw[U];exact vC t (by omega) s
 obtain⟨⟨E,F⟩,a6⟩:=r2;have G:o=E:=aI Prod.fst f3;have J:p=F:=aI Prod.snd f3;subst G J;have hx:=kT (I6 s A B).1
 have out:∀z,f.setK L.toNat (Wb S L (f.se L.toNat 0) f.ts S.2.2.1 (f.ky L.toNat))=z→Q ⟨0,((o,0,p),z.sec,z.al,z.go,z.d,z.m,(cA z.c0),(bC z.c0),z.c0.km,(cA z.c1),(bC z.c1),z.c1.km,(cA z.c2),(bC z.c2),z.c2.km,(cA z.c3),(bC z.c3),z.c3.km,(cA z.c4),(bC z.c4),z.c4.km,z.k0,z.k1,z.k2,z.k3,z.k4,z.lg,z.st,z.ln,z.ts,z.c0.bk,z.c1.bk,z.c2.bk,z.c3.bk,z.c4.bk,())⟩:=λz hz=>N ((o,p),z) ⟨_,s,by
  rw[←U];show _=((o,p),gA c L (o,p) f);unfold gA;rw[an ⟨A,B⟩,←f0,hz]⟩
 rw[←f0]at hx;clear N f3 a;obtain⟨o1,o2,o3,o4,o5,o6,o7⟩:=hx;have ek:((q:Int).toNat)=q:=by omega
 rw[ek];refine⟨λa0=>?_,λa1=>?_⟩
 ·have M:q<S.2.2.1.length:=by simp only[ah]at a0;omega
  have a2:bU 2 (gv f.ts).1:=⟨(I5 K.ts.1).1,by have:=(I5 K.ts.1).2;have:=K.ts.2;omega⟩;have a3:∀i j,aB (f.se i j):=λi j=>bA (a1l K i j) (by decide);have ht:=K.ts.ok;have a7:S.2.2.1.length≤1000000:=o1.1;have hI:ae ((q:Int)+1):=by unfold ae;omega
  rw[cW (z:=((0,[],[],()):Mb)) M]at C;simp only[Wb]at C;generalize S.2.2.1.getD q (0,[],[],())=H at*;refine⟨by omega,λg=>⟨⟨X,Y⟩,⟨⟨⟨⟨trivial,λe=>?_⟩,λe=>?_⟩,λe=>?_⟩,λe=>?_⟩,λe=>?_⟩,λg=>⟨hI,⟨rfl,f0,rfl,rfl,_,f,s,rfl,A,B,U,q+1,rfl,M,km,W,by rw[ag (aA g)]at C;exact C⟩,by omega⟩⟩
  all_goals
   rw[an (be g)]at C;subst e;subst W;refine⟨ht,⟨a3 _ 0,o1,o3,o6,o7,a2⟩,λb hb=>⟨hI,⟨rfl,f0,rfl,rfl,_,f,s,rfl,A,B,U,q+1,rfl,M,_,rfl,by rw[hb];exact C⟩,by omega⟩⟩
 ·have hd:S.2.2.1.drop q=[]:=bw (by simp only[aj]at a1;omega);rw[hd]at C;exact out u (by rw[W,←C];rfl)) (l:=λ_=>aR λh=>by obtain⟨X,Y,_,n,t⟩:=h;exact pU t _ ⟨X,Y⟩)
end Go.Tp
