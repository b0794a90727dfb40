/- A part of the proof of TopHiddenSaid: no conditions; packed by a program of our own. -/
import Derived.Test.YtgpideichgnmhaaGreatPhak
set_option linter.defProp false
set_option linter.unusedVariables false
set_option linter.unusedSimpArgs false
open BitVec renaming ofInt→bf,ofNat→ag
open Bool renaming eq_iff_iff→nr,and_eq_true→aK,not_eq_false→bR
open Decidable renaming not_not→aA
open Go.IntKind renaming i64→ii
open Int renaming toNat_natCast→aG,le_refl→bp,toNat→rC
open LE renaming le→aX
open LT renaming lt→nJ
open List renaming map_cons→aY,replicate→ax,length_append→aa,length_cons→bc,append_assoc→ay,mem_append→ba,drop_of_length_le→bu,nil_append→eO,take_of_length_le→bb,append_nil→aH,mem_cons→bm,getElem?_eq_getElem→an,getElem?_append_left→bq,getElem?_append_right→aJ,drop_drop→ko,length_take→bd,length→ah,getD_eq_getElem?_getD→aw,getElem?_eq_none→be,length_nil→dx,map_append→dL,length_map→cG,mem_map→fI,foldl_cons→nu,mem_cons_self→aF,mem_cons_of_mem→aD,mem_map_of_mem→fV,mem_append_left→dd,length_drop→cW,take→de,length_singleton→bi,take_length→bv,length_eq_zero_iff→ju,length_set→cI
open Nat renaming le_refl→aE,le_trans→bE,zero_le→aq,lt_or_ge→br,eq_zero_or_pos→dP
namespace Go.Tp
open Go.Hv Go.Proofs Go.RowKit
set_option maxRecDepth 100000
set_option maxHeartbeats 0
abbrev Ij:Ty:= .pr .i64 (.pr .i64 HZ)
abbrev EP:Ty:= .pr .i64 (.pr tB (.pr tB (.pr (.pf TG) .un)))
abbrev EQ:Ty:= .pr N8 (.pr tLa (.pr (.sl iZ) .un))
def A_(j n i:Nat):List (Option CP):=[some (.cells [.d EP, .mp (j+5+2*i), .ptr (n+1+2*i) 0, .d EQ]),some (.mp .i64 tB)]
def tZ(j n:Nat):List (Option CP):=[some (.cells [.ifc 96 (j+1) 0, .fn 33 [] [(j+3,0)], .d (.ar 5 (.ar 2 tB)), .d (.ar 5 jf), .ptr (j+4) 0, .ptr (j+6) 0, .ptr (j+8) 0, .ptr (j+10) 0, .ptr (j+12) 0, .mp (j+14), .mp (j+15), .mp (j+16), .mp (j+17), .mp (j+18), .ptr (j+19) 0, .d (.ar 5 .bl), .own (n+11), .own (n+12)]),some (.cells [.own n, .mp (j+2), .d .i64]),some (.mp .st .i64),some (.cells [.ptr (j+1) 0])]++A_ j n 0++A_ j n 1++A_ j n 2++A_ j n 3++A_ j n 4++[some (.mp .i64 tB),some (.mp .i64 tB),some (.mp .i64 tB),some (.mp .i64 tB),some (.mp .i64 tB),some (.cells [.d TG])]
def om(n:Nat):List (Option CP):=[some (.sl D6),some (.cells [.mp (n+2)]),some (.mp .i64 (.sl JE)),some (.cells [.mp (n+4)]),some (.mp .i64 (.sl JE)),some (.cells [.mp (n+6)]),some (.mp .i64 (.sl JE)),some (.cells [.mp (n+8)]),some (.mp .i64 (.sl JE)),some (.cells [.mp (n+10)]),some (.mp .i64 (.sl JE)),some (.sl tB),some (.sl .i64)]
def nn:List (Option CP):=tZ 0 20++om 20
def JP(n:Nat):List (Option CP):=tZ 0 n++ax 13 none
structure Wd where
 sec:List (List BL)
 al:List Mb
 go:List Bool
 d:Int
 m:KV
 c0:Cl
 c1:Cl
 c2:Cl
 c3:Cl
 c4:Cl
 k0:KM
 k1:KM
 k2:KM
 k3:KM
 k4:KM
 lg:Lg
 ts:List Tm
 st:List BL
 ln:List Int
abbrev WH:=(cx.mk [] nn).den
abbrev QA:=Int×BL×BL×Lg×Unit
abbrev QB:=Pg×La×List Fk×Unit
abbrev TA(R:Type):=(List (List BL))×(List Mb)×(List Bool)×Int×KV×QA×QB×KM×QA×QB×KM×QA×QB×KM×QA×QB×KM×QA×QB×KM×KM×KM×KM×KM×KM×Lg×(List Tm)×Ln×Ln×Ln×Ln×Ln×(List BL)×(List Int)×R
abbrev TZ(R:Type):=(List (List BL))×(List Mb)×(List Bool)×Int×KV×QA×QB×KM×QA×QB×KM×QA×QB×KM×QA×QB×KM×QA×QB×KM×KM×KM×KM×KM×KM×Lg×(List BL)×(List Int)×(List Tm)×Ln×Ln×Ln×Ln×Ln×R
def wO{R:Type}(w:Wd)(r:R):TA R:=(w.sec,w.al,w.go,w.d,w.m,(w.c0.c,w.c0.se,w.c0.sg,w.c0.lg,()),(w.c0.pg,w.c0.la,w.c0.fk,()),w.c0.km,(w.c1.c,w.c1.se,w.c1.sg,w.c1.lg,()),(w.c1.pg,w.c1.la,w.c1.fk,()),w.c1.km,(w.c2.c,w.c2.se,w.c2.sg,w.c2.lg,()),(w.c2.pg,w.c2.la,w.c2.fk,()),w.c2.km,(w.c3.c,w.c3.se,w.c3.sg,w.c3.lg,()),(w.c3.pg,w.c3.la,w.c3.fk,()),w.c3.km,(w.c4.c,w.c4.se,w.c4.sg,w.c4.lg,()),(w.c4.pg,w.c4.la,w.c4.fk,()),w.c4.km,w.k0,w.k1,w.k2,w.k3,w.k4,w.lg,w.ts,w.c0.bk,w.c1.bk,w.c2.bk,w.c3.bk,w.c4.bk,w.st,w.ln,r)
def B_{R:Type}(w:Wd)(r:R):TZ R:=(w.sec,w.al,w.go,w.d,w.m,(w.c0.c,w.c0.se,w.c0.sg,w.c0.lg,()),(w.c0.pg,w.c0.la,w.c0.fk,()),w.c0.km,(w.c1.c,w.c1.se,w.c1.sg,w.c1.lg,()),(w.c1.pg,w.c1.la,w.c1.fk,()),w.c1.km,(w.c2.c,w.c2.se,w.c2.sg,w.c2.lg,()),(w.c2.pg,w.c2.la,w.c2.fk,()),w.c2.km,(w.c3.c,w.c3.se,w.c3.sg,w.c3.lg,()),(w.c3.pg,w.c3.la,w.c3.fk,()),w.c3.km,(w.c4.c,w.c4.se,w.c4.sg,w.c4.lg,()),(w.c4.pg,w.c4.la,w.c4.fk,()),w.c4.km,w.k0,w.k1,w.k2,w.k3,w.k4,w.lg,w.st,w.ln,w.ts,w.c0.bk,w.c1.bk,w.c2.bk,w.c3.bk,w.c4.bk,r)
def cY(w:Wd):TA Unit:=(w.sec,w.al,w.go,w.d,w.m,(w.c0.c,w.c0.se,w.c0.sg,w.c0.lg,()),(w.c0.pg,w.c0.la,w.c0.fk,()),w.c0.km,(w.c1.c,w.c1.se,w.c1.sg,w.c1.lg,()),(w.c1.pg,w.c1.la,w.c1.fk,()),w.c1.km,(w.c2.c,w.c2.se,w.c2.sg,w.c2.lg,()),(w.c2.pg,w.c2.la,w.c2.fk,()),w.c2.km,(w.c3.c,w.c3.se,w.c3.sg,w.c3.lg,()),(w.c3.pg,w.c3.la,w.c3.fk,()),w.c3.km,(w.c4.c,w.c4.se,w.c4.sg,w.c4.lg,()),(w.c4.pg,w.c4.la,w.c4.fk,()),w.c4.km,w.k0,w.k1,w.k2,w.k3,w.k4,w.lg,w.ts,w.c0.bk,w.c1.bk,w.c2.bk,w.c3.bk,w.c4.bk,w.st,w.ln,())
def RP(w:Wd):TZ Unit:=(w.sec,w.al,w.go,w.d,w.m,(w.c0.c,w.c0.se,w.c0.sg,w.c0.lg,()),(w.c0.pg,w.c0.la,w.c0.fk,()),w.c0.km,(w.c1.c,w.c1.se,w.c1.sg,w.c1.lg,()),(w.c1.pg,w.c1.la,w.c1.fk,()),w.c1.km,(w.c2.c,w.c2.se,w.c2.sg,w.c2.lg,()),(w.c2.pg,w.c2.la,w.c2.fk,()),w.c2.km,(w.c3.c,w.c3.se,w.c3.sg,w.c3.lg,()),(w.c3.pg,w.c3.la,w.c3.fk,()),w.c3.km,(w.c4.c,w.c4.se,w.c4.sg,w.c4.lg,()),(w.c4.pg,w.c4.la,w.c4.fk,()),w.c4.km,w.k0,w.k1,w.k2,w.k3,w.k4,w.lg,w.st,w.ln,w.ts,w.c0.bk,w.c1.bk,w.c2.bk,w.c3.bk,w.c4.bk,())
def WA(p:(List (List BL))->(List Mb)->(List Bool)->Int->KV->QA->QB->KM->QA->QB->KM->QA->QB->KM->QA->QB->KM->QA->QB->KM->KM->KM->KM->KM->KM->Lg->(List Tm)->Ln->Ln->Ln->Ln->Ln->(List BL)->(List Int)->Prop):Prop:=∀B C D E F G H J K L a b c e f g h i j l m n o q r s t u v w x y z A,p B C D E F G H J K L a b c e f g h i j l m n o q r s t u v w x y z A
def WB(p:(List (List BL))->(List Mb)->(List Bool)->Int->KV->QA->QB->KM->QA->QB->KM->QA->QB->KM->QA->QB->KM->QA->QB->KM->KM->KM->KM->KM->KM->Lg->(List BL)->(List Int)->(List Tm)->Ln->Ln->Ln->Ln->Ln->Prop):Prop:=∀B C D E F G H J K L a b c e f g h i j l m n o q r s t u v w x y z A,p B C D E F G H J K L a b c e f g h i j l m n o q r s t u v w x y z A
def C_(a:EP.den)(b:EQ.den)(km:KM)(bk:Ln):Cl:=⟨a.1,a.2.1,a.2.2.1,a.2.2.2.1,b.1,b.2.1,b.2.2.1,km,bk⟩
def cA(c:Cl):EP.den:=(c.c,c.se,c.sg,c.lg,())
def qT(c:Cl):EQ.den:=(c.pg,c.la,c.fk,())
def cS(x:WH):Wd:=match x with
 |(a,b,go,d,m,c,e,f,g,h,i,j,l,n,o,p,q,r,s,t,u,v,w,y,z,A,B,C,D,E,F,G,st,H,_)=>
  ⟨a,b,go,d,m,C_ c e f C,C_ g h i D,C_ j l n E,C_ o p q F,C_ r s t G,u,v,w,y,z,A,B,st,H⟩
def M8:Ct:=⟨1,⟨[sI 0],[]⟩,[⟨[sL 0],[]⟩],λ(n,_)=>one True (decide (1<=n/\n<=31/\n % 2=1),())⟩
def C':bG:=(29,[M8])::y_
def D_:=kA 29 M8 z_ (cQ M8 0) (∀(a:Int)Q,bg M8 (a,()) Q->Bd (1<=a) (Bd (a<=31) (Q ⟨0,a.tmod (2:Int)==1,()⟩) (Q ⟨0,false,()⟩)) (Q ⟨0,false,()⟩)) (by
 unfold Bd bg;intro n Q ⟨_,b⟩;have a:∀y,decide (1<=n/\n<=31/\n % 2=1)=y->Q ⟨0,(y,())⟩:=λy e=>by rw[e]at b;exact b
 refine⟨λh=>⟨λg=>a _ ?_,λg=>a _ ?_⟩,λh=>a _ ?_⟩
 ·have h:=af h;have g:=af g;rw[Int.tmod_eq_emod_of_nonneg ac,nr,decide_eq_true_iff,aS];exact⟨λq=>q.2.2,λq=>⟨h,g,q⟩⟩
 ·exact decide_eq_false λq=>ap g q.2.1
 ·exact decide_eq_false λq=>ap h q.1)
def C8:Ct:=⟨1,⟨[sI 0],[]⟩,[⟨[sL 0],[]⟩],λ(n,_)=>one True (decide (0<=n/\n<5),())⟩
def RQ:bG:=(28,[C8])::C'
def RR:=kA 28 C8 D_ (cQ C8 0) (∀(a:Int)Q,bg C8 (a,()) Q->Bd (0<=a) (Q ⟨0,decide (a<5),()⟩) (Q ⟨0,false,()⟩)) (by
 unfold Bd bg;intro n Q ⟨_,a⟩;have b:∀y,decide (0<=n/\n<5)=y->Q ⟨0,(y,())⟩:=λy e=>by rw[e]at a;exact a
 refine⟨λh=>b _ ?_,λh=>b _ ?_⟩
 ·rw[decide_eq_decide];exact⟨λg=>g.2,λg=>⟨af h,g⟩⟩
 ·exact decide_eq_false λg=>ap h g.1)
theorem Wd.all{F:List (List BL)->List Mb->List Bool->Int->KV->EP.den->EQ.den->KM->EP.den->EQ.den->KM->EP.den->EQ.den->KM->EP.den->EQ.den->KM->EP.den->EQ.den->KM->KM->KM->KM->KM->KM->Lg->List Tm->Ln->Ln->Ln->Ln->Ln->List BL->List Int->Prop}
 (h:∀w:Wd,F w.sec w.al w.go w.d w.m (cA w.c0) (qT w.c0) w.c0.km (cA w.c1) (qT w.c1) w.c1.km (cA w.c2) (qT w.c2) w.c2.km (cA w.c3) (qT w.c3) w.c3.km (cA w.c4) (qT w.c4) w.c4.km w.k0 w.k1 w.k2 w.k3 w.k4 w.lg w.ts w.c0.bk w.c1.bk w.c2.bk w.c3.bk w.c4.bk w.st w.ln):
 ∀E G H J K L M N O a b c e f g i j l n o p q r s t u v x y z A B C D,F E G H J K L M N O a b c e f g i j l n o p q r s t u v x y z A B C D:=λE G H J K L M N O a b c e f g i j l n o p q r s t u v x y z A B C D=>h (cS (E,G,H,J,K,L,M,N,O,a,b,c,e,f,g,i,j,l,n,o,p,q,r,s,t,u,v,x,y,z,A,B,C,D,()))
def M9:Ct:=⟨1,⟨[sP 0],nn⟩,[⟨[sL 0],nn⟩],λ(B,C,D,E,F,G,H,J,K,b,c,e,f,g,h,i,j,l,m,n,o,p,q,r,s,t,u,v,w,x,y,z,a,A,_)=>one True (decide (400<=a.length),B,C,D,E,F,G,H,J,K,b,c,e,f,g,h,i,j,l,m,n,o,p,q,r,s,t,u,v,w,x,y,z,a,A,())⟩
def D':bG:=(39,[M9])::RQ
def E_:=kA 39 M9 RR (cQ M9 0) (WA λb c d e f g h i j k l m n o p q r s t u v w y z A B C D E F G H a J=>let x:=(c,d,e,f,g,h,i,j,k,l,m,n,o,p,q,r,s,t,u,v,w,y,z,A,B,C,D,E,F,G,H,a,J,());∀Q,bg M9 (b,x) Q->Q ⟨0,decide (400<=nI a),b,x⟩) (by
 conv=>zeta
 unfold WA nI bg;refine Wd.all λw=>?_;intro Q ⟨_,a⟩;have:decide (400<=w.st.length)=decide (400<=(w.st.length:Int)):=by rw[decide_eq_decide];omega
 rw[this]at a;exact a)
def Na:Ct:=⟨2,⟨[sP 0,sI 1],nn⟩,[⟨[sL 0],nn⟩],λ(n,C,D,E,F,G,H,J,K,L,b,c,e,f,g,h,i,j,l,m,o,p,q,r,s,t,u,v,w,x,y,z,A,a,B,_)=>one True (decide (1<=n/\n<=a.length),C,D,E,F,G,H,J,K,L,b,c,e,f,g,h,i,j,l,m,o,p,q,r,s,t,u,v,w,x,y,z,A,a,B,())⟩
def E':bG:=(40,[Na])::D'
def F_:=kA 40 Na E_ (cQ Na 0) (∀(a:Int),WA λc d e f g h i j k l m n o p q r s t u v w y z A B C D E F G H J b K=>let x:=(c,d,e,f,g,h,i,j,k,l,m,n,o,p,q,r,s,t,u,v,w,y,z,A,B,C,D,E,F,G,H,J,b,K,());∀Q,bg Na (a,x) Q->Bd (1<=a) (Q ⟨0,decide (a<=nI b),x⟩) (Q ⟨0,false,x⟩)) (by
 conv=>zeta
 unfold Bd WA nI bg;intro n;refine Wd.all λw=>?_;intro Q ⟨_,a⟩;have b:∀y,decide (1<=n/\n<=(w.st.length:Int))=y->Q ⟨0,(y,cY w)⟩:=λy e=>by rw[e]at a;exact a
 refine⟨λh=>b _ ?_,λh=>b _ ?_⟩
 ·rw[decide_eq_decide];exact⟨λg=>g.2,λg=>⟨af h,g⟩⟩
 ·exact decide_eq_false λg=>ap h g.1)
def C9:Ct:=⟨3,⟨[sP 0,sB 1,sI 2],nn⟩,[⟨[(0,true,[.d Ij])],JP 33++om 33⟩],λ(b,n,D,E,F,G,H,J,K,L,M,e,f,g,h,i,j,l,m,o,p,q,r,s,t,u,v,w,x,y,z,A,B,C,a,c,_)=>one (a.length<=1000000/\c.length<=1000000) ((0,a.length+1,0,0,0,0,false,false,[],()),D,E,F,G,H,J,K,L,M,e,f,g,h,i,j,l,m,o,p,q,r,s,t,u,v,w,x,y,z,A,B,C,a++[b],c++[n],())⟩
def RS:bG:=(43,[C9])::E'
def RT:=kA 43 C9 F_ (cQ C9 0) (∀(b:BL)(d:Int),WA λe f g h i j k l m n o p q r s t u v w y z x A B C D E F G H J K a c=>∀Q,bg C9 (b,d,e,f,g,h,i,j,k,l,m,n,o,p,q,r,s,t,u,v,w,y,z,x,A,B,C,D,E,F,G,H,J,K,a,c,()) Q->(a.length+1)*24<=mM/\(c.length+1)*8<=mM/\Q ⟨0,(0,nI (a++[b]),0,0,0,0,false,false,[],()),e,f,g,h,i,j,k,l,m,n,o,p,q,r,s,t,u,v,w,y,z,x,A,B,C,D,E,F,G,H,J,K,a++[b],c++[d],()⟩) (by
 unfold WA mM nI bg;intro b n;refine Wd.all λw=>?_;intro Q ⟨⟨c,e⟩,a⟩;refine⟨ac,ac,?_⟩;rw[show((w.st++[b]).length:Int)=w.st.length+1 by rw[aa,bi];omega];exact a)
def Ik:Ct:=⟨1,⟨[sP 0],nn⟩,[⟨[(0,false,[.d (.sl .i64)])],nn⟩],λ(B,C,D,E,F,G,H,J,K,b,c,e,f,g,h,i,j,l,m,n,o,p,q,r,s,a,t,u,v,w,x,y,z,A,_)=>one (cK a.2.1 a.2.2.1) ((cZ a.2.1 a.2.1.length).map (·.1),B,C,D,E,F,G,H,J,K,b,c,e,f,g,h,i,j,l,m,n,o,p,q,r,s,a,t,u,v,w,x,y,z,A,())⟩
def G_:cx:=⟨[sO 3 33,(17,false,[.d (.sl jf)]),sI 18,sI 19],nn++[some (.sl .i64)]⟩
def Nb(x:Ik.inp.den)(y:G_.den):Prop:=match x,y with
 |(a1,a2,a3,a4,a5,a6,a7,a8,a9,b,c,e,f,g,h,j,m,o,p,q,r,t,u,v,w,a,z,A,B,C,D,E,F,G,_),(l,n,i,b1,b2,b3,b4,b5,b6,b7,b8,b9,H,J,K,L,M,N,O,P,Q,R,S,U,W,X,Y,a0,b0,c0,c1,c2,c3,c4,c5,c6,c7,s,_)=>(cS (b1,b2,b3,b4,b5,b6,b7,b8,b9,H,J,K,L,M,N,O,P,Q,R,S,U,W,X,Y,a0,b0,c0,c1,c2,c3,c4,c5,c6,c7,()))=(cS (a1,a2,a3,a4,a5,a6,a7,a8,a9,b,c,e,f,g,h,j,m,o,p,q,r,t,u,v,w,a,z,A,B,C,D,E,F,G,()))/\l=cZ a.2.1 a.2.1.length/\n=l.length/\∃k:Nat,i=k/\k<=l.length/\s=(l.take k).map (·.1)
def a6p(x:Ik.inp.den):eH:=⟨[(5,bS G_ (Nb x) λ(_,n,i,_)=>(n-i).toNat)],[],[],[],0⟩
theorem Nc{es:List Et}{a:List BL}(h:cK es a)(n:Int):(cZ es n).length<=1000000:=by
 unfold cZ;split
 ·simp
 ·exact(h.1.2 _ (aV ac)).1
def G':bG:=(20,[Ik])::RS
def H_:=kA 20 Ik RT a6p (WA λd e f g h i j k l m n o p q r s t u v w y z a0 a1 a2 a a3 a4 a5 a6 a7 a8 a9 b0=>let x:=(d,e,f,g,h,i,j,k,l,m,n,o,p,q,r,s,t,u,v,w,y,z,a0,a1,a2,a,a3,a4,a5,a6,a7,a8,a9,b0,());∀Q,bg Ik x Q->True/\cK a.2.1 a.2.2.1/\Is (Nb x (cZ a.2.1 (nI a.2.1),nI (cZ a.2.1 (↑(ah a.2.1):Int)),0,d,e,f,g,h,i,j,k,l,m,n,o,p,q,r,s,t,u,v,w,y,z,a0,a1,a2,a,a3,a4,a5,a6,a7,a8,a9,b0,[],()))/\∀(A:List Mb)(c b:Int),WA λC D E F G H J K L M N O P R S U W X Y d2 d3 d4 d5 d6 d7 d8 d9 e0 e1 e2 e3 e4 e5 e6=>∀(B:List Int),Nb x (A,c,b,C,D,E,F,G,H,J,K,L,M,N,O,P,R,S,U,W,X,Y,d2,d3,d4,d5,d6,d7,d8,d9,e0,e1,e2,e3,e4,e5,e6,B,())->Bd (b<c) (iN b A/\(B.length+1)*8<=mM/\am (b+1)/\Is (Nb x (A,c,b+1,C,D,E,F,G,H,J,K,L,M,N,O,P,R,S,U,W,X,Y,d2,d3,d4,d5,d6,d7,d8,d9,e0,e1,e2,e3,e4,e5,e6,B++[(gD A b (0,[],[],())).1],())/\lN (c-(b+1)) (c-b))) (Q ⟨0,B,C,D,E,F,G,H,J,K,L,M,N,O,P,R,S,U,W,X,Y,d2,d3,d4,d5,d6,d7,d8,d9,e0,e1,e2,e3,e4,e5,e6,()⟩)) (by
 conv=>zeta
 unfold Bd WA gD iN lN mM nI bg;refine Wd.all λw=>?_;rintro Q ⟨h,c⟩;have j:=Nc h w.lg.2.1.length;refine⟨trivial,h,⟨rfl,rfl,rfl,0,rfl,aq _,rfl⟩,?_⟩;intro l n i;refine Wd.all λv=>?_;rintro s ⟨e,a,m,k,o,r,p⟩;have e:v=w:=e;have a:l=cZ w.lg.2.1 w.lg.2.1.length:=a;subst e m o p;rw[<-a]at j;have c:Q ⟨0,((cZ v.lg.2.1 v.lg.2.1.length).map (·.1),cY v)⟩:=c;rw[<-a]at c;have q:((k:Int).toNat)=k:=ac
 rw[q];refine⟨λf=>?_,λg=>?_⟩
 ·have b:k<l.length:=by simp only[ai]at f;omega
  refine⟨ac,by rw[cG,bd];omega,cv,⟨rfl,a,rfl,k+1,rfl,b,?_⟩,ac⟩;rw[di (z:=((0,[],[],()):Mb)) b,dL];rfl
 ·simp only[aj]at g;rw[bb ac];exact c)
def Da:Ct:=⟨2,⟨[sP 0,sI 1],nn⟩,[⟨[sL 0],nn⟩],λ(n,D,E,a,F,G,H,J,K,L,b,c,e,f,g,h,i,j,l,m,o,p,q,r,s,t,u,v,w,x,y,z,A,B,C,_)=>one (a.length=5) (decide (0<=n)&&decide (n<5)&&a.getD n.toNat false,D,E,a,F,G,H,J,K,L,b,c,e,f,g,h,i,j,l,m,o,p,q,r,s,t,u,v,w,x,y,z,A,B,C,())⟩
def RU:bG:=(14,[Da])::G'
def RV:=kA 14 Da H_ (cQ Da 0) (∀(a:Int),WA λc d b e f g h i j k l m n o p q r s t u v w y z A B C D E F G H J K=>let x:=(c,d,b,e,f,g,h,i,j,k,l,m,n,o,p,q,r,s,t,u,v,w,y,z,A,B,C,D,E,F,G,H,J,K,());∀Q,bg Da (a,x) Q->True/\Bd (0<=a/\a<5) (Br (a==0) (Q ⟨0,b.getD ((36-10-15-1-1-1-1-1-1-1-1-1-1-1)/1) false,x⟩) (Br (a==1) (Q ⟨0,b.getD ((37-10-15-1-1-1-1-1-1-1-1-1-1-1)/1) false,x⟩) (Br (a==2) (Q ⟨0,b.getD ((38-10-15-1-1-1-1-1-1-1-1-1-1-1)/1) false,x⟩) (Br (a==3) (Q ⟨0,b.getD ((39-10-15-1-1-1-1-1-1-1-1-1-1-1)/1) false,x⟩) (Br (a==4) (Q ⟨0,b.getD ((40-10-15-1-1-1-1-1-1-1-1-1-1-1)/1) false,x⟩) (False/\True)))))) (Q ⟨0,false,x⟩)) (by
 conv=>zeta
 unfold Bd Br WA bg;intro n;refine Wd.all λw=>?_;intro Q ⟨h,f⟩;have c:∀y,(decide (0<=n)&&decide (n<5)&&w.go.getD n.toNat false)=y->Q ⟨0,(y,cY w)⟩:=λy e=>by rw[e]at f;exact f
 refine⟨trivial,λa=>?_,λa=>c _ ?_⟩
 ·have a:=af a;have e:(decide (0<=n)&&decide (n<5)&&w.go.getD n.toNat false)=w.go.getD n.toNat false:=by simp[a.1,a.2]
  rw[e]at c;refine⟨λb=>?_,λi=>⟨λb=>?_,λj=>⟨λb=>?_,λl=>⟨λb=>?_,λm=>⟨λb=>?_,λo=>?_⟩⟩⟩⟩⟩
  case refine_6=>exfalso;simp only[aC,ne_eq]at i j l m o;omega
  all_goals
   have b:=bz b;subst b;exact c _ rfl
 ·have a:=ap a;rcases Decidable.em (0<=n)with g|g
  ·have:¬n<5:=λq=>a ⟨g,q⟩;simp[this]
  ·simp[g])
def Il:Ct:=⟨1,⟨[sP 0],nn⟩,[⟨[(0,false,[.d (.sl tB)])],nn⟩],λ(C,D,E,F,G,H,J,K,L,c,e,f,g,h,i,j,l,m,n,o,p,q,r,s,t,u,v,w,x,y,z,A,a,B,_)=>one (a.length<=1000000/\∀b∈a,b.length<=10000000) (a,C,D,E,F,G,H,J,K,L,c,e,f,g,h,i,j,l,m,n,o,p,q,r,s,t,u,v,w,x,y,z,A,a,B,())⟩
def I_:cx:=⟨[sO 3 33,sO 11 31,sI 12,sI 13],nn++[some (.sl tB)]⟩
def Nf(x:Il.inp.den)(y:I_.den):Prop:=match x,y with
 |(a1,a2,a3,a4,a5,a6,a7,a8,a9,b,c,e,f,g,h,j,l,m,o,p,q,r,t,u,v,w,z,A,B,C,D,E,a,F,_),(n,i,b1,b2,b3,b4,b5,b6,b7,b8,b9,G,H,J,K,L,M,N,O,P,Q,R,S,U,W,X,Y,a0,b0,c0,c1,c2,c3,c4,c5,c6,s,_)=>(cS (b1,b2,b3,b4,b5,b6,b7,b8,b9,G,H,J,K,L,M,N,O,P,Q,R,S,U,W,X,Y,a0,b0,c0,c1,c2,c3,c4,c5,c6,()))=(cS (a1,a2,a3,a4,a5,a6,a7,a8,a9,b,c,e,f,g,h,j,l,m,o,p,q,r,t,u,v,w,z,A,B,C,D,E,a,F,()))/\n=a.length/\∃k:Nat,i=k/\k<=a.length/\s=a.take k
def a6q(x:Il.inp.den):eH:=⟨[(5,bS I_ (Nf x) λ(n,i,_)=>(n-i).toNat)],[],[],[],0⟩
def I':bG:=(10,[Il])::RU
def J_:=kA 10 Il RV a6q (WA λe f g h i j k l m n o p q r s t u v w y z a0 a1 a2 a3 a4 a5 a6 a7 a8 a9 b0 b b1=>let x:=(e,f,g,h,i,j,k,l,m,n,o,p,q,r,s,t,u,v,w,y,z,a0,a1,a2,a3,a4,a5,a6,a7,a8,a9,b0,b,b1,());∀Q,bg Il x Q->Is (Nf x (nI b,0,e,f,g,h,i,j,k,l,m,n,o,p,q,r,s,t,u,v,w,y,z,a0,a1,a2,a3,a4,a5,a6,a7,a8,a9,b0,b,b1,[],()))/\∀(c a:Int),WA λB C D E F G H J K L M N O P R S U W X Y d3 d4 d5 d6 d7 d8 d9 e0 e1 e2 e3 e4 d e5=>∀(A:List BL),Nf x (c,a,B,C,D,E,F,G,H,J,K,L,M,N,O,P,R,S,U,W,X,Y,d3,d4,d5,d6,d7,d8,d9,e0,e1,e2,e3,e4,d,e5,A,())->Bd (a<c) (iN a d/\(0+(gD d a []).length)*1<=mM/\(A.length+1)*24<=mM/\am (a+1)/\Is (Nf x (c,a+1,B,C,D,E,F,G,H,J,K,L,M,N,O,P,R,S,U,W,X,Y,d3,d4,d5,d6,d7,d8,d9,e0,e1,e2,e3,e4,d,e5,A++[gD d a []],())/\lN (c-(a+1)) (c-a))) (Q ⟨0,A,B,C,D,E,F,G,H,J,K,L,M,N,O,P,R,S,U,W,X,Y,d3,d4,d5,d6,d7,d8,d9,e0,e1,e2,e3,e4,d,e5,()⟩)) (by
 conv=>zeta
 unfold Bd WA gD iN lN mM nI bg;refine Wd.all λw=>?_;rintro Q ⟨⟨h,l⟩,m⟩;refine⟨⟨rfl,rfl,0,rfl,aq _,rfl⟩,?_⟩;intro n i;refine Wd.all λv=>?_;rintro s ⟨b,c,k,o,j,e⟩;have b:v=w:=b;have c:n=w.st.length:=c;have e:s=w.st.take k:=e;have j:k<=w.st.length:=j;subst b c o e;have p:((k:Int).toNat)=k:=ac
 rw[p];refine⟨λf=>?_,λg=>?_⟩
 ·have a:k<v.st.length:=by simp only[ai]at f;omega
  have q:=l _ (aV (z:=([]:BL)) a);refine⟨ac,ac,by rw[bd];omega,cv,⟨rfl,rfl,k+1,rfl,a,?_⟩,ac⟩;rw[di (z:=([]:BL)) a]
 ·simp only[aj]at g;rw[bb ac];exact m)
def Ng:Ct:=⟨1,⟨[sP 0],nn⟩,[⟨[(0,false,[.d (.sl .i64)])],nn⟩],λ(B,C,D,E,F,G,H,J,K,b,c,e,f,g,h,i,j,l,m,n,o,p,q,r,s,t,u,v,w,x,y,z,A,a,_)=>one (a.length<=1000000) (a,B,C,D,E,F,G,H,J,K,b,c,e,f,g,h,i,j,l,m,n,o,p,q,r,s,t,u,v,w,x,y,z,A,a,())⟩
def J':bG:=(17,[Ng])::I'
def K_:=kA 17 Ng J_ (cQ Ng 0) (WA λb c d e f g h i j k l m n o p q r s t u v w y z A B C D E F G H J a=>let x:=(c,d,e,f,g,h,i,j,k,l,m,n,o,p,q,r,s,t,u,v,w,y,z,A,B,C,D,E,F,G,H,J,a,());∀Q,bg Ng (b,x) Q->(0+a.length)*8<=mM/\Q ⟨0,a,b,x⟩) (by
 conv=>zeta
 unfold WA mM bg;refine Wd.all λw=>?_;intro Q ⟨h,a⟩;exact⟨ac,a⟩)
variable{a c:Int}{la:La}
theorem Im(h:fU la){k n:Int}(i:0<=n/\n<=1048576):fU (tD la k c n):=by
 obtain⟨j,e⟩:=h;unfold tD;refine⟨by rw[cI];exact j,λr a=>?_⟩;rcases List.mem_or_eq_of_mem_set a with a|a
 ·exact e r a
 ·subst a;rcases br (k-3).toNat la.length with g|g
  ·have f:=e _ (aV (z:=[]) g);refine⟨by rw[cI];exact f.1,λx b=>?_⟩;rcases List.mem_or_eq_of_mem_set b with b|b
   ·exact f.2 x b
   ·subst b;exact i
  ·rw[List.set_eq_of_length_le g]at a;exact e _ a
variable{l' lk:Lk}{bk:Ln}
theorem tkB(ts:List Tm)(m:KV)(h:cr bk):cr (kp lk bk ts m).2.1:=by
 unfold kp;split
 ·rename_i g;dsimp only
  have c:nf lk=true/\¬lk.2.1<=(cJ bk lk.1).length/\¬((cJ bk lk.1).length:Int)+1<lk.2.1:=by
   unfold ij at g;split at g
   ·cases g
   ·rename_i f;split at g
    ·dsimp only at g;split at g<;>cases g
    ·rename_i i;split at g
     ·cases g
     ·rename_i j;exact⟨cf f,i,j⟩
  have l:=jz c.1;intro a;unfold pX;rw[kO];split
  ·rename_i e;subst e;refine⟨by rw[aa,bi];omega,λq b=>?_⟩;rcases ba.1 b with b|b
   ·exact(h lk.1).2 q b
   ·simp at b;subst b;exact⟨mS _,mS _⟩
  ·exact h a
 ·exact h
variable{f ts':List Tm}
theorem RW{k:Nat}(m:KV)(h:cb (k+2) f):cb k (kp lk bk f m).2.2.1:=by
 unfold kp;have a:=chS (lk:=lk) (bk:=bk) m h;split
 ·exact dgS _ a
 ·exact a.mono ac
theorem L_{k:Nat}:∀(l:List Lk)(z:Ln×List Tm×KV),cb (k+l.length) z.2.1->cb k (l.foldl D8 z).2.1
 |[],_,h=>h
 |x::r,z,h=>by
  rw[nu];refine L_ r _ ?_;unfold D8;exact dgS _ (h.mono eM)
variable{D b ep key o pd pub q r s sg x:BL}{l:Lt}{y:xt}
theorem RX{j:Pg}{k:Nat}{m:KV}(s:x.length<=5000)(n:cy j)(b:cr bk)(a:cb (k+5000) ts')(h:tY l lk x j bk ts' m y):cy y.2.1/\cr y.2.2.1/\cb k y.2.2.2.1:=by
 unfold tY at h;split at h
 ·obtain⟨⟨c,p⟩,f,_⟩:=h;refine⟨f,?_⟩;rw[p];unfold EK;dsimp only
  repeat' split
  ·exact⟨b,a.mono ac⟩
  ·exact⟨tkB _ _ b,RW m (a.mono ac)⟩
  ·exact⟨tkB _ _ b,RW m (a.mono ac)⟩
 ·split at h
  ·rw[h];exact⟨n,b,a.mono ac⟩
  ·obtain⟨w,o,q,f⟩:=h;have r:bZ x 0:=⟨ac,ac,ac⟩;have u:=(H6 true 0 r).2
   have e:cb k y.2.2.2.1:=by
    rw[q];split
    ·rw[o];exact L_ _ _ (a.mono (by show k+(rj x true (0,0)).2.2.length<=k+5000;omega))
    ·exact a.mono ac
   rcases f with⟨_,g,i⟩|⟨_,_,g,i,_⟩
   ·exact⟨by rw[g];exact n,by rw[i];exact b,e⟩
   ·refine⟨g,?_,e⟩;rw[i,o];exact(bdO ts' m ac).1
theorem Nh{w:Cl}{k:Nat}{m:KV}(e:jY l=true)(h:mo w)(g:cb (k+6000) ts')(r:kg w l ts' m y):cy y.2.1/\cr y.2.2.1/\cb k y.2.2.2.1:=by
 obtain⟨p,q,s,t,a,b,u,v,x⟩:=h;have e:=(dJ e).2.2.1;have i:cb k ts':=g.mono ac;unfold kg at r;dsimp only at r;split at r
 ·rw[r];exact⟨a,b,i⟩
 split at r
 ·rw[r];exact⟨a,b,i⟩
 have j:=lcS (sg:=(gn (cZ w.lg.2.1 l.2.2.1) l.2.1).1.2.2.1) (k:=k+5999) m e g;split at r
 ·rw[r];exact⟨a,b,j.mono ac⟩
 generalize nE (gn (cZ w.lg.2.1 l.2.2.1) l.2.1).1.2.2.1 l ts' m=z at*;have c:=knS (l:=l) (lk:=z.1.1) (la:=w.la) (bk:=w.bk) (k:=k+5998) z.2.2 j;generalize wJ l z.1.1 w.la w.bk z.2.1 z.2.2=f at*;split at r
 ·rw[r];exact⟨a,b,c.mono ac⟩
 split at r
 ·rw[r];exact⟨a,b,c.mono ac⟩
 split at r
 ·rw[r];exact⟨a,b,c.mono ac⟩
 have n:=loT (ep:=(aO Ty.i64 l.2.2.1 w.km).getD []) (l:=l) (k:=k+5997) f.2.2 c;generalize tq ((aO Ty.i64 l.2.2.1 w.km).getD []) l f.2.1 f.2.2=o at*;split at r
 ·rw[r];exact⟨a,b,n.1.mono ac⟩
 ·exact RX ac a b (n.1.mono ac) r
variable{e:Et}
theorem In{lg:Lg}{ts:List Tm}{m:KV}(h:cK lg.2.1 lg.2.2.1)(i:lg.2.1.length<=100000)(f:aB lg.1):cK (iu lg e ts m).2.1.2.1 (iu lg e ts m).2.1.2.2.1/\(iu lg e ts m).2.1.2.1.length<=100000/\aB (iu lg e ts m).2.1.1:=by
 have j:cK lg.2.1 lg.2.2.1/\lg.2.1.length<=100000/\aB lg.1:=⟨h,i,f⟩;unfold iu;rw[bN]
 repeat' split
 all_goals try exact j
 rename_i c s l _ _ _;have c:iU e=true:=cf c
 obtain⟨t,u,v,w,y,z,A,B⟩:=me c;have l:e.1=lg.2.1.length+1:=ac
 obtain⟨g,C,D,E,n,F,G⟩:=im c;obtain⟨⟨H,o⟩,p,q,r⟩:=h;dsimp only;refine⟨⟨⟨eM,λx a=>?_⟩,by simp[p],λd b=>?_,λx a=>?_⟩,eM,f⟩
 ·rcases ba.1 a with a|a
  ·exact o x a
  ·simp at a;subst a;exact⟨g.1,g.2.1,bY⟩
 ·rcases ba.1 b with b|b
  ·exact q d b
  ·simp at b;subst b;rw[vp];exact bE (Eg (by show(104:BitVec 8)≠98;decide)) ac
 ·rcases ba.1 a with a|a
  ·exact r x a
  ·simp at a;subst a;exact n
theorem RY{e:Et}{c:Int}{se:BL}(a:aB se)(b:aB e.2.2.2.2.1){k:Nat}:∀(l:List Mb)(km:KM)(ts:List Tm)(m:KV),cb (k+2*l.length) ts->cb k (rv e c se l km ts m).2.2.1
 |[],_,_,_,h=>h.mono ac
 |p::r,km,ts,m,h=>by
  have f:=keS (e:=e) (c:=c) (se:=se) (k:=k+2*r.length) m a b (h.mono eM);simp only[rv];split
  ·exact RY a b r km ts m (h.mono eM)
  ·split
   ·exact f.mono ac
   ·exact RY a b r _ _ _ f
variable{km:KM}
theorem RZ{lg:Lg}{k:Nat}{ts:List Tm}{m:KV}(j:wK e)(a:aB x)(h:cK lg.2.1 lg.2.2.1)(b:lg.2.1.length<=100000)(f:aB lg.1)(p:cb (k+100) ts):cK (kT c x lg km e ts m).2.1.2.1 (kT c x lg km e ts m).2.1.2.2.1/\(kT c x lg km e ts m).2.1.2.1.length<=100000/\aB (kT c x lg km e ts m).2.1.1/\cb k (kT c x lg km e ts m).2.2.2.1:=by
 have i:=In (e:=e) (ts:=ts) (m:=m) h b f;have l:=tkS (lg:=lg) (e:=e) (k:=k+99) m j.2.1 p;have n:=tk5 (e:=e) (lg:=lg) (ts:=ts) (m:=m);unfold kT;rw[bN];dsimp only;generalize iu lg e ts m=t at*;split
 ·exact⟨h,b,f,l.mono ac⟩
 ·rename_i g;have n:=n (aA.1 g);have o:=RY (c:=c) a j.2.2.2.2.2.2 (k:=k) e.2.2.1 km t.2.2.1 t.2.2.2 (l.mono ac);generalize rv e c x e.2.2.1 km t.2.2.1 t.2.2.2=r at*;split
  ·exact⟨h,b,f,o⟩
  ·exact⟨i.1,i.2.1,i.2.2,o⟩
theorem L'{w:Cl}{k:Nat}{m:KV}{y:E9}(h:mo w)(e:cb (k+10000) ts')(r:ol w b ts' m y):mo y.2.1/\y.2.1.fk.length<=w.fk.length+400/\cb k y.2.2.1/\y.2.1.c=w.c/\y.2.1.se=w.se/\y.2.1.sg=w.sg:=by
 have a:mo w/\w.fk.length<=w.fk.length+400/\cb k ts'/\w.c=w.c/\w.se=w.se/\w.sg=w.sg:=⟨h,ac,e.mono ac,rfl,rfl,rfl⟩;unfold ol at r;dsimp only at r;split at r
 ·rw[r];exact a
 rename_i F;have l:bZ b 0:=⟨ac,ac,ac⟩;split at r
 ·rw[r];exact a
 obtain⟨o,p,i,j,x,A,s,t,u⟩:=h;split at r
 ·split at r
  ·rw[r];exact a
  ·rename_i g;have B:=im ((M4 l).2 (aA.1 g)).2;have q:=RZ (c:=w.c) (km:=w.km) (m:=m) (k:=k) B i s t u (e.mono ac);rw[r];exact⟨⟨o,p,i,j,x,A,q.1,q.2.1,q.2.2.1⟩,by dsimp only;omega,q.2.2.2,rfl,rfl,rfl⟩
 ·split at r
  ·rw[r];exact a
  ·rename_i g;have v:=((RM l).2 (aA.1 g)).2;obtain⟨z,f,n,C,D,G,E⟩:=r;have q:=Nh (k:=k) v a.1 (e.mono ac) C;rw[E];refine⟨⟨o,p,i,?_,q.1,q.2.1,s,t,u⟩,D,q.2.2,rfl,rfl,rfl⟩;unfold xu;split
   ·have:=(dJ v).1.2.2.2.2.2.2;exact Im j ⟨ac,ac⟩
   ·exact j
structure Su(k:Nat)(ts:List Tm)(m:KV):Prop where
 w:Cu ts m
 k:cb k ts
variable{u:KV}{i j n p:Nat}
theorem Su.mono{k:Nat}(h:Su k f u)(a:j<=k):Su j f u:=⟨h.w,h.k.mono a⟩
def Gr(K:Tm->Prop)(ts ts':List Tm):Prop:=∃a,ts'=ts++a/\∀t∈a,K t
theorem Gr.refl(K:Tm->Prop)(ts:List Tm):Gr K ts ts:=⟨[],bY,bY⟩
variable{K K':Tm->Prop}
theorem Gr.trans{b c:List Tm}(h:Gr K ts' b)(h':Gr K b c):Gr K ts' c:=by
 obtain⟨e,rfl,f⟩:=h;obtain⟨g,rfl,i⟩:=h';exact⟨e++g,by rw[ay],λt j=>(ba.1 j).elim (f t) (i t)⟩
theorem Gr.imp{b:List Tm}(c:∀t,K t->K' t)(h:Gr K ts' b):Gr K' ts' b:=let⟨e,f,g⟩:=h;⟨e,f,λt i=>c t (g t i)⟩
variable{t:Tm}
theorem Gr.nm(h:Gr K f ts')(c:Nm f b t):Nm ts' b t:=by obtain⟨e,rfl,_⟩:=h;exact c.mono
theorem Gr.mem(h:Gr K f ts')(c:t∈f):t∈ts':=by obtain⟨e,rfl,_⟩:=h;exact dd _ c
theorem Gr.old{b:List Tm}(h:Gr K ts' b)(c:t∈b):t∈ts'\/K t:=by
 obtain⟨f,rfl,e⟩:=h;exact(ba.1 c).imp id (e t)
structure Ok(K:Tm->Prop)(k:Nat)(ts:List Tm)(z:List Tm×KV):Prop where
 su:Su k z.1 z.2
 gr:Gr K ts z.1
theorem Ok.refl(h:Su j f u)(a:n<=j):Ok K n f (f,u):=⟨h.mono a,Gr.refl K f⟩
variable{z:List Tm×KV}
theorem Ok.trans{y:List Tm×KV}(h:Ok K j f z)(h':Ok K n z.1 y):Ok K n f y:=⟨h'.su,h.gr.trans h'.gr⟩
theorem Ok.mono{k:Nat}(h:Ok K j f z)(a:k<=j):Ok K k f z:=⟨h.su.mono a,h.gr⟩
theorem Ok.imp(a:∀t,K t->K' t)(h:Ok K n f z):Ok K' n f z:=⟨h.su,h.gr.imp a⟩
theorem ry{k:Nat}(h:Su (k+1) f u)(a:eB t):Ok (·=t) k f (dI t f u).2/\Nm (dI t f u).2.1 (dI t f u).1 t:=by
 have q:=tr h.w (by have:=h.k.2;omega) h.k.1 a;refine⟨⟨⟨q.w,pZ u h.k a⟩,?_⟩,q.nm⟩;rcases q.ex with e|⟨e,_⟩
 ·rw[e];exact Gr.refl _ _
 ·rw[e];exact⟨[t],rfl,λx b=>cf b⟩
theorem zl{k:Nat}(h:Su (k+1) f u)(a:eB t):Ok (·=t) k f (cM t f u).2/\((t.2.1.getD 0 []).length=32->Nm (cM t f u).2.1 (cM t f u).1 t):=by
 unfold cM;split
 ·exact⟨(ry h a).1,λ_=>(ry h a).2⟩
 ·rename_i g;exact⟨Ok.refl h ac,λq=>absurd q g⟩
def gG(t:Tm):Prop:=t.1≠103/\t.1≠115
theorem nmP{k:Nat}(h:Su (k+1) f u)(a:eB t)(b:gG t):Ok gG k f (dI t f u).2:=(ry h a).1.imp λ_ e=>by rw[e];exact b
theorem naP(h:Su (n+1) f u)(a:eB t)(b:gG t):Ok gG n f (cM t f u).2:=(zl h a).1.imp λ_ e=>by rw[e];exact b
theorem Io(b:List BL):gG (104,b,()):=⟨by show(104:BitVec 8)≠103;decide,by show(104:BitVec 8)≠115;decide⟩
theorem R0(b:List BL):gG (107,b,()):=⟨by show(107:BitVec 8)≠103;decide,by show(107:BitVec 8)≠115;decide⟩
theorem a6r(b:List BL):gG (100,b,()):=⟨by show(100:BitVec 8)≠103;decide,by show(100:BitVec 8)≠115;decide⟩
theorem Db{sec:BL}(a:aB sec)(h:fX ts')(e:(fi pub 112 ts').2=true):eB (100,(if 0<lS sec ((fi pub 112 ts').1.2.1.getD 0 [])then[(fi pub 112 ts').1.2.1.getD 0 [],sec]else[sec,(fi pub 112 ts').1.2.1.getD 0 []]),()):=by
 have c:=tj (b:=pub) (k:=112) h e;have f:=(c.1.2.2.2.2 c.2).2;have g:=iA (fi pub 112 ts').1.2.1 0;split
 ·exact ir (.inr ⟨bt,by rw[KD];have:=a;omega⟩) (.inr ⟨bt, .inl (aE _)⟩)
 ·exact ir (.inr ⟨bt,by rw[KD];have:=a;omega⟩) (.inr ⟨bt, .inl (aE _)⟩)
theorem shP{k:Nat}(a:aB b)(h:Su (k+1) f u):Ok gG k f (jq b pub f u).1.2:=by
 unfold jq;split
 ·exact Ok.refl h ac
 split
 ·exact Ok.refl h ac
 ·rename_i g;exact nmP h (Db a h.k.ok (cf g)) (a6r _)
theorem M_{k:Nat}{m:KV}(n id:Int)(b:aB r)(c:aB pub)(h:Su (k+2) ts' m):Ok gG k ts' (gp n id r pub ts' m).2:=by
 have a:=shP (pub:=pub) (k:=k+1) b h;have e:=(shS m b c h.k).1;unfold gp;split
 ·exact a.mono ac
 ·have f:=bC n;have g:=bC id;exact a.trans (naP a.su (xp bt bt (show aB (jq r pub ts' m).1.1 by unfold aB;omega) (show aB (vn n++vn id)by unfold aB;simp;omega)) (R0 _))
theorem keP{se:BL}{k:Nat}{m:KV}(a:aB se)(b:aB e.2.2.2.2.1)(h:Su (k+2) ts' m):Ok gG k ts' (pj e c se ts' m).2:=by
 have f:=M_ (k:=k) e.1 c a b h;have g:Ok gG k ts' (ts',m):=Ok.refl h ac;unfold pj;rw[bN]
 repeat' split
 all_goals first|exact g|exact f
theorem R2{lg:Lg}{k:Nat}(c:(dS e).length<=100000000)(h:Su (k+1) f u):Ok gG k f (iu lg e f u).2.2:=by
 have a:=nmP (k:=k) h (ja (k:=104) bt bt (show aB (dS e)by unfold aB;omega)) (Io _);have b:Ok gG k f (f,u):=Ok.refl h ac;unfold iu;rw[bN]
 repeat' split
 all_goals first|exact b|exact a
theorem R3{e:Et}{c:Int}{se:BL}(a:aB se)(b:aB e.2.2.2.2.1){k:Nat}:∀(l:List Mb)(km:KM)(ts:List Tm)(m:KV),Su (k+2*l.length) ts m->Ok gG k ts (rv e c se l km ts m).2.2
 |[],_,_,_,h=>Ok.refl h ac
 |p::r,km,ts,m,h=>by
  have f:=keP (e:=e) (c:=c) (se:=se) (k:=k+2*r.length) a b (h.mono eM);simp only[rv];split
  ·exact R3 a b r km ts m (h.mono eM)
  ·split
   ·exact f.mono ac
   ·exact f.trans (R3 a b r _ _ _ f.su)
theorem M'{se:BL}{lg:Lg}{k:Nat}{ts:List Tm}{m:KV}(f:wK e)(a:aB se)(j:Su (k+100) ts m):Ok gG k ts (kT c se lg km e ts m).2.2.2:=by
 have b:=R2 (lg:=lg) (e:=e) (k:=k+99) f.2.1 j;have h:=tk5 (e:=e) (lg:=lg) (ts:=ts) (m:=m);unfold kT;rw[bN];dsimp only;generalize iu lg e ts m=t at*;split
 ·exact b.mono ac
 ·rename_i g;have h:=h (aA.1 g);have i:=b.trans (R3 (c:=c) a f.2.2.2.2.2.2 (k:=k) e.2.2.1 km t.2.2.1 t.2.2.2 (b.su.mono ac));split
  ·exact i
  ·exact i
theorem lcP{k:Nat}(a:jZ l)(h:Su (k+1) f u):Ok gG k f (nE sg l f u).2:=by
 have b:=nmP (k:=k) h (ja (k:=104) bt bt (show aB l.2.2.2.2.2.1 by have:=a.2.1;unfold aB;omega)) (Io _);have c:Ok gG k f (f,u):=Ok.refl h ac;unfold nE;rw[bN];dsimp only
 repeat' split
 all_goals first|exact c|exact b
theorem OP{k:Nat}(h:Su (k+1) f u):Ok gG k f (gy lk f u).2:=by
 unfold gy;split
 ·rename_i g;exact nmP h (ja (k:=104) bt bt (by have:=pa g;unfold aB;omega)) (Io _)
 ·exact Ok.refl h ac
theorem chP(h:Su (n+1) f u):Ok gG n f (ij lk bk f u).2:=by
 have a:Ok gG n f (f,u):=Ok.refl h ac;unfold ij
 repeat' split
 all_goals first|exact a|exact OP h
theorem knP{k:Nat}(h:Su (k+1) f u):Ok gG k f (wJ l lk la bk f u).2:=by
 unfold wJ;split
 ·exact Ok.refl h ac
 ·exact chP h
theorem N_{k:Nat}(h:Su (k+2) f u):Ok gG k f (kp lk bk f u).2.2:=by
 unfold kp;have a:=chP (lk:=lk) (bk:=bk) h;split
 ·exact a.trans (OP a.su)
 ·exact a.mono ac
theorem loP{k:Nat}(h:Su (k+1) f u):Ok gG k f (tq ep l f u).2:=by
 have a:Ok gG k f (f,u):=Ok.refl h ac;unfold tq;rw[bN];split
 ·exact a
 ·rename_i g;have c:=bC l.1;have e:=bC l.2.1;have b:Ok gG k f (AP ep l f u).2:=naP h (xp (k:=107) bt bt (show aB ep by unfold aB;omega) (show aB (jB l)by unfold aB jB;simp;omega)) (R0 _)
  repeat' split
  all_goals exact b
theorem bdP{k:Nat}:∀(l:List Lk)(z:Ln×List Tm×KV),Su (k+l.length) z.2.1 z.2.2->Ok gG k z.2.1 (l.foldl D8 z).2
 |[],_,h=>Ok.refl h bY
 |x::r,z,h=>by
  rw[nu];have a:Ok gG (k+r.length) z.2.1 (D8 z x).2:=OP (h.mono eM);exact a.trans (bdP r _ a.su)
theorem txP{e:Pg}{k:Nat}(o:r.length<=5000)(a:Su (k+5000) ts' u)(h:tY l lk r e bk ts' u y):Ok gG k ts' y.2.2.2:=by
 have b:Ok gG k ts' (ts',u):=Ok.refl a ac;unfold tY at h;split at h
 ·obtain⟨⟨c,f⟩,g,_⟩:=h;rw[f];unfold EK;dsimp only
  repeat' split
  ·exact b
  ·exact N_ (a.mono ac)
  ·exact N_ (a.mono ac)
 ·split at h
  ·rw[h];exact b
  ·obtain⟨w,i,j,g⟩:=h;have n:bZ r 0:=⟨ac,ac,ac⟩;have p:=(H6 true 0 n).2;rw[j];split
   ·rw[i];exact bdP (rj r true (0,0)).2.2 ([],ts',u) (a.mono ac)
   ·exact b
theorem a6s{w:Cl}{k:Nat}(b:jY l=true)(g:Su (k+6000) ts' u)(r:kg w l ts' u y):Ok gG k ts' y.2.2.2:=by
 have b:=(dJ b).2.2.1;have h:Ok gG k ts' (ts',u):=Ok.refl g ac;unfold kg at r;dsimp only at r;split at r
 ·rw[r];exact h
 split at r
 ·rw[r];exact h
 have c:=lcP (sg:=(gn (cZ w.lg.2.1 l.2.2.1) l.2.1).1.2.2.1) (k:=k+5999) b g;split at r
 ·rw[r];exact c.mono ac
 generalize nE (gn (cZ w.lg.2.1 l.2.2.1) l.2.1).1.2.2.1 l ts' u=z at*;have a:=c.trans (knP (l:=l) (lk:=z.1.1) (la:=w.la) (bk:=w.bk) (k:=k+5998) c.su);generalize wJ l z.1.1 w.la w.bk z.2.1 z.2.2=e at*;split at r
 ·rw[r];exact a.mono ac
 split at r
 ·rw[r];exact a.mono ac
 split at r
 ·rw[r];exact a.mono ac
 have f:=a.trans (loP (ep:=(aO Ty.i64 l.2.2.1 w.km).getD []) (l:=l) (k:=k+5997) a.su);have i:=(loT (ep:=(aO Ty.i64 l.2.2.1 w.km).getD []) (l:=l) (k:=k+5997) e.2.2 a.su.k).2;generalize tq ((aO Ty.i64 l.2.2.1 w.km).getD []) l e.2.1 e.2.2=o at*;split at r
 ·rw[r];exact f.mono ac
 ·exact f.trans (txP ac (f.su.mono ac) r)
theorem rcP{w:Cl}{k:Nat}{m:KV}{y:E9}(h:mo w)(c:Su (k+10000) ts' m)(r:ol w b ts' m y):Ok gG k ts' y.2.2:=by
 have a:Ok gG k ts' (ts',m):=Ok.refl c ac;unfold ol at r;dsimp only at r;split at r
 ·rw[r];exact a
 rename_i q;have e:bZ b 0:=⟨ac,ac,ac⟩;split at r
 ·rw[r];exact a
 obtain⟨s,t,i,u,v,x,A,B,C⟩:=h;split at r
 ·split at r
  ·rw[r];exact a
  ·rename_i g;have j:=im ((M4 e).2 (aA.1 g)).2;rw[r];exact M' j i (c.mono ac)
 ·split at r
  ·rw[r];exact a
  ·rename_i g;have l:=((RM e).2 (aA.1 g)).2;obtain⟨z,f,n,o,D,E,p⟩:=r;rw[p];exact a6s l (c.mono ac) o
theorem Nm.inj(c:Cu ts' u)(h:Nm ts' b t)(h':Nm ts' r t):b=r:=by
 obtain⟨i,e,f⟩:=h;obtain⟨j,g,l⟩:=h';have n:=c.at_ i t e;have o:=c.at_ j t g;have:i=j:=ac
 subst this;rw[f,l]
theorem Nm.len(h:Nm f b t):b.length=(oY t).toNat:=by
 obtain⟨i,_,a⟩:=h;rw[a,wz]
theorem a6t(h:t.1≠98)(h':t.1≠103):(oY t).toNat=32:=by
 unfold oY;rw[ae h',ae h];rfl
theorem Nm.len32(h:Nm f b t)(a:t.1≠98)(c:t.1≠103):b.length=32:=by rw[h.len,a6t a c]
theorem Nm.len64{l:List BL}(h:Nm f b (103,l,())):b.length=64:=by
 rw[h.len];rfl
theorem Nm.len98(h:Nm f b (98,[r,s,o,x],())):b.length=x.length+16:=by
 rw[h.len];show((x.length:Int)+16).toNat=_;omega
theorem OQ(h:ws r b s ts'=true):∃t v,Nm ts' s t/\t.1=103/\Nm ts' r v/\v.1=118/\t.2.1.getD 0 []=v.2.1.getD 0 []/\t.2.1.getD 1 []=b:=by
 unfold ws at h;rw[aK,aK,aK,aS,aS]at h;obtain⟨⟨c,e⟩,f,g⟩:=h;have a:=Cv c;have b:=Cv e;exact⟨_,_,a.1,a.2,b.1,b.2,f,g⟩
theorem seG{n:Int}{k:Nat}(h0:0<=n)(a:q.length=32)(b:aB o)(c:aB x)(h:Su (k+1) f u):Ok (·=(98,[q,dB n,o,x],())) k f (jp q n o x f u).2/\Nm (jp q n o x f u).2.1 (jp q n o x f u).1 (98,[q,dB n,o,x],()):=by
 unfold jp;rw[ae ac];have:=zl h (t:=(98,[q,dB n,o,x],())) (V8 hK (by unfold aB;rw[eK];omega) b c);exact⟨this.1,this.2 a⟩
theorem a6u{k:Nat}{m:KV}(h:Su (k+4) ts' m)(v:sg.length=32)(w:ep.length=32)(q:pD l)(D:pd.length<=5000):
 ∃r b hh g z,Qz sg ep l pd ts' m=(((l.1,l.2.1,l.2.2.1,l.2.2.2.1,l.2.2.2.2.1,b,g,()),0),z)/\Ok (λt=>gG t\/t=(103,[sg,dp l++tx hh],())) k ts' z/\
  Nm z.1 r (107,[ep,jB l],())/\Nm z.1 b (98,[r,dB l.2.2.2.1,dp l,pd],())/\Nm z.1 hh (104,[b],())/\Nm z.1 g (103,[sg,dp l++tx hh],()):=by
 have y:l.2.2.2.2.1.length<=32:=by have:=q.2.2.2.2.2.2.2.2;omega
 have hh:=mi l;have j:aB (dp l):=hK
 have E:=bC l.1;have F:=bC l.2.1;have p:=zl (k:=k+3) (t:=(107,[ep,jB l],())) h (xp bt bt (show aB ep by unfold aB;omega) (show aB (jB l)by unfold aB jB;simp;omega));have s:=p.2 w
 have u:Qz sg ep l pd ts' m=(let k:=cM (107,[ep,jB l],()) ts' m
  let b:=jp k.1 l.2.2.2.1 (dp l) pd k.2.1 k.2.2
  let h:=dI (104,[b.1],()) b.2.1 b.2.2
  let g:=cM (103,[sg,dp l++tx h.1],()) h.2.1 h.2.2
  (((l.1,l.2.1,l.2.2.1,l.2.2.2.1,l.2.2.2.2.1,b.1,g.1,()),0),g.2)):=rfl
 rw[u];dsimp only;have c:=p.1;clear p u;generalize cM (107,[ep,jB l],()) ts' m=K at*;have A:=s.len32 (by show(107:BitVec 8)≠98;decide) (by show(107:BitVec 8)≠103;decide);have f:=seG (k:=k+2) (n:=l.2.2.2.1) (o:=dp l) (x:=pd) (by have:=q.2.2.2.2.2.2.1;omega) A j hK c.su;generalize jp K.1 l.2.2.2.1 (dp l) pd K.2.1 K.2.2=B at*;have bl:=f.2.len98;have a:=ry (k:=k+1) (t:=(104,[B.1],())) f.1.su (ja bt bt hK);generalize dI (104,[B.1],()) B.2.1 B.2.2=H at*;have J:=a.2.len32 (by show(104:BitVec 8)≠98;decide) (by show(104:BitVec 8)≠103;decide);have L:=eC H.1;have i:=zl (k:=k) (t:=(103,[sg,dp l++tx H.1],())) a.1.su (xp bt bt hK (by unfold aB;simp only[aa];omega));have C:=i.2 v;generalize cM (103,[sg,dp l++tx H.1],()) H.2.1 H.2.2=G at*;refine⟨K.1,B.1,H.1,G.1,G.2,rfl,?_,i.1.gr.nm (a.1.gr.nm (f.1.gr.nm s)),i.1.gr.nm (a.1.gr.nm f.2),i.1.gr.nm a.2,C⟩;exact(c.imp λt e=> .inl (by rw[e];exact R0 _)).trans ((f.1.imp λt e=> .inl (by rw[e];exact⟨by show(98:BitVec 8)≠103;decide,by show(98:BitVec 8)≠115;decide⟩)).trans ((a.1.imp λt e=> .inl (by rw[e];exact Io _)).trans (i.1.imp λt e=> .inr e)))
theorem N'{n:Int}(h0:0<=n)(h:(eY n).2=0):n<(eY n).1/\(eY n).1<=4096/\eY ((eY n).1-1)=((eY n).1,0):=by
 have z:¬n<0:=ac
 by_cases a:n<64
 ·have e:eY n=(64,0):=by unfold eY;rw[ae z,ak a]
  rw[e];exact⟨a,bt,rfl⟩
 by_cases b:n<128
 ·have e:eY n=(128,0):=by unfold eY;rw[ae z,ae a,ak b]
  rw[e];exact⟨b,bt,rfl⟩
 by_cases c:n<256
 ·have e:eY n=(256,0):=by unfold eY;rw[ae z,ae a,ae b,ak c]
  rw[e];exact⟨c,bt,rfl⟩
 by_cases f:n<512
 ·have e:eY n=(512,0):=by unfold eY;rw[ae z,ae a,ae b,ae c,ak f]
  rw[e];exact⟨f,bt,rfl⟩
 by_cases g:n<1024
 ·have e:eY n=(1024,0):=by unfold eY;rw[ae z,ae a,ae b,ae c,ae f,ak g]
  rw[e];exact⟨g,bt,rfl⟩
 by_cases i:n<2048
 ·have e:eY n=(2048,0):=by unfold eY;rw[ae z,ae a,ae b,ae c,ae f,ae g,ak i]
  rw[e];exact⟨i,bt,rfl⟩
 by_cases j:n<4096
 ·have e:eY n=(4096,0):=by unfold eY;rw[ae z,ae a,ae b,ae c,ae f,ae g,ae i,ak j]
  rw[e];exact⟨j,bt,rfl⟩
 ·have e:eY n=(0,2):=by unfold eY;rw[ae z,ae a,ae b,ae c,ae f,ae g,ae i,ae j]
  rw[e]at h;cases h
theorem kV(h:(fY b).2=0):eY (((fY b).1.length:Int)-1)=(((fY b).1.length:Int),0)/\(fY b).1.length<=4096/\b.length<(fY b).1.length/\((fY b).1.length:Int)=(eY b.length).1:=by
 unfold fY at h⊢;split
 ·rename_i g;obtain⟨e,f,a⟩:=N' (Int.natCast_nonneg _) g;dsimp only
  have c:((b++128::ax ((eY b.length).1.toNat-b.length-1) 0).length:Int)=(eY b.length).1:=by
   simp only[aa,bc,List.length_replicate];omega
  rw[c];exact⟨a,ac,ac,rfl⟩
 ·rename_i g;rw[ae g]at h;exact absurd h g
theorem Ip{sec text:BL}{k:Nat}{m:KV}(h:Su (k+4) ts' m):
 ((mT sec ep l text ts' m).1.2≠0/\(mT sec ep l text ts' m).2=(ts',m))\/
 ∃f b hh g z,pD l/\ep.length=32/\sec.length=32/\(fY text).2=0/\mT sec ep l text ts' m=(((l.1,l.2.1,l.2.2.1,l.2.2.2.1,l.2.2.2.2.1,b,g,()),0),z)/\Ok (λt=>gG t\/t=(103,[sec,dp l++tx hh],())) k ts' z/\
  Nm z.1 f (107,[ep,jB l],())/\Nm z.1 b (98,[f,dB l.2.2.2.1,dp l,(fY text).1],())/\Nm z.1 hh (104,[b],())/\Nm z.1 g (103,[sec,dp l++tx hh],())/\
  jY (l.1,l.2.1,l.2.2.1,l.2.2.2.1,l.2.2.2.2.1,b,g,())=true:=by
 unfold mT;rw[bN];split
 ·exact .inl ⟨bY,rfl⟩
 rename_i a;split
 ·rename_i c;exact .inl ⟨c,rfl⟩
 rename_i c;rw[not_or,not_or]at a;have c:(fY text).2=0:=aA.1 c;have i:pD l:=by have:=a.2.2;rw[bR]at this;exact af this
 have j:=kV c;obtain⟨f,b,hh,g,z,p,q,r,n,s,o⟩:=a6u (l:=l) (pd:=(fY text).1) h (aA.1 a.1) (aA.1 a.2.1) i ac;refine .inr ⟨f,b,hh,g,z,i,aA.1 a.2.1,aA.1 a.1,c,p,q,r,n,s,o,?_⟩;unfold jY;have u:=n.len98;have e:((b.length:Int)-17)=((fY text).1.length:Int)-1:=ac
 refine decide_eq_true ⟨i,?_,?_,o.len64⟩
 ·show(eY ((b.length:Int)-17)).2=0;rw[e,j.1]
 ·show(eY ((b.length:Int)-17)).1+16=(b.length:Int);rw[e,j.1];dsimp only;omega
theorem OR{k:Nat}(c:jZ l)(h:Su (k+1) ts' u)(h0:(nE sg l ts' u).1.2=0):
 ∃hh t v,(nE sg l ts' u).1.1=(l.2.1,l.2.2.2.1,l.2.2.1,l.2.2.2.2.1,hh,())/\Nm (nE sg l ts' u).2.1 hh (104,[l.2.2.2.2.2.1],())/\Nm (nE sg l ts' u).2.1 l.2.2.2.2.2.2.1 t/\t.1=103/\Nm (nE sg l ts' u).2.1 sg v/\v.1=118/\t.2.1.getD 0 []=v.2.1.getD 0 []/\t.2.1.getD 1 []=dp l++tx hh/\jY l=true:=by
 unfold nE at h0⊢;rw[bN]at h0⊢;split at h0
 ·cases h0
 rename_i a;rw[ae a];dsimp only at h0⊢;have q:=ry (k:=k) (t:=(104,[l.2.2.2.2.2.1],())) h (ja bt bt (by have:=c.2.1;unfold aB;omega));generalize dI (104,[l.2.2.2.2.2.1],()) ts' u=H at*;split at h0
 ·cases h0
 rename_i b;rw[ae b];dsimp only;obtain⟨t,v,e,f,g,i,j,n⟩:=OQ (bR _▸b:ws sg (dp l++tx H.1) l.2.2.2.2.2.2.1 H.2.1=true);exact⟨H.1,t,v,rfl,q.2,e,f,g,i,j,n,cf a⟩
def Bh(b:BL)(a:Int)(r:BL):Prop:=bZ b a/\b.drop a.toNat=r
theorem Bh.step(h:Bh b a (x++r)):Bh b (a+x.length) r:=by
 obtain⟨⟨e,g,i⟩,c⟩:=h;have f:=aI ah c;rw[cW,aa]at f;refine⟨⟨e,ac,ac⟩,?_⟩;rw[show(a+(x.length:Int)).toNat=a.toNat+x.length by omega,<-ko,c,List.drop_left]
theorem kh{n lo hi:Int}(h:Bh b a (vn n++r))(h0:0<=n)(e:n<=1099511627776)(f:lo<=n)(hh:n<=hi):∃c,dn b a true 0 lo hi=(n,c,0)/\Bh b c r:=by
 refine⟨a+(vn n).length,?_,h.step⟩;unfold dn;rw[ak (show(true&&(0:Int)==0)=true from rfl),h.2,Cz h0 e r,ak rfl,ae (by dsimp only;omega)]
theorem nG{n:Int}(h:Bh b a (tx s++r))(m:(s.length:Int)<=n)(o:s.length<=1099511627776):∃g,hJ b a true 0 n=(s,g,0)/\Bh b g r:=by
 unfold tx at h;rw[ay]at h;have c:=h.step;have f:=c.step;refine⟨_,?_,f⟩;have i:=aI ah c.2;rw[cW,aa]at i;obtain⟨⟨p,q,t⟩,j⟩:=h;obtain⟨⟨u,v,w⟩,l⟩:=c;unfold hJ;rw[ak (show(true&&(0:Int)==0)=true from rfl),j,Cz ac ac _,ak rfl];dsimp only;rw[ae ac,ae ac];unfold zM;rw[ak (show(true&&(0:Int)==0)=true from rfl)];rcases dP s.length with e|e
 ·have:s=[]:=ju.1 e;subst this;rw[ak bY];simp
 ·rw[ae ac,ae ac,List.drop_take];rw[l,show(a+((vn (s.length:Int)).length:Int)+(s.length:Int)).toNat-(a+((vn (s.length:Int)).length:Int)).toNat=s.length by omega,List.take_left]
theorem Iq(h:Bh b a []):eZ b a true 0=0:=by
 obtain⟨⟨f,g,i⟩,c⟩:=h;have e:=aI ah c;rw[cW,dx]at e;unfold eZ;rw[ae bY,ae ac]
theorem Bh.zero(h:b.length<=1000000000):Bh b 0 b:=⟨⟨ac,ac,ac⟩,rfl⟩
theorem Ir(h:jY l=true):∃a,pl (eV l) true (0,0)=(l,a,0)/\eZ (eV l) a true 0=0:=by
 have c:=h;obtain⟨f,B,C,D⟩:=af h;obtain⟨E,F,G,H,J,K,L,M,N⟩:=f;have O:=vm ((l.2.2.2.2.2.1.length:Int)-17);have P:l.2.2.2.2.2.1.length<=4112:=by have:=(dJ h).2.2.1.2.1;have:=(dJ h);omega
 have g:Bh (eV l) 0 (vn l.1++(vn l.2.1++(vn l.2.2.1++(vn l.2.2.2.1++(tx l.2.2.2.2.1++(tx l.2.2.2.2.2.1++(tx l.2.2.2.2.2.2.1++[]))))))):=by
  have Q:=mi l;have R:=eC l.2.2.2.2.2.1;have S:=eC l.2.2.2.2.2.2.1
  have e:eV l=vn l.1++(vn l.2.1++(vn l.2.2.1++(vn l.2.2.2.1++(tx l.2.2.2.2.1++(tx l.2.2.2.2.2.1++(tx l.2.2.2.2.2.2.1++[])))))):=by
   simp only[eV,dp,ay,aH]
  have i:(eV l).length<=1000000000:=by unfold eV;simp only[aa];omega
  have:=Bh.zero i;rw[<-e];exact this
 obtain⟨U,j,m⟩:=kh (lo:=2) (hi:=4) g ac ac ac ac;obtain⟨W,o,p⟩:=kh (lo:=0) (hi:=4) m ac ac ac ac;obtain⟨X,q,r⟩:=kh (lo:=1) (hi:=65536) p ac ac ac ac;obtain⟨Y,s,t⟩:=kh (lo:=1) (hi:=1048576) r ac ac ac ac;obtain⟨a5,u,v⟩:=nG (n:=64) t ac ac;obtain⟨a6,w,x⟩:=nG (n:=4112) v ac ac;obtain⟨b,y,z⟩:=nG (n:=64) x ac ac
 have A:JK (eV l) true (0,0)=(l,b,0):=by
  unfold JK;dsimp only;rw[j];dsimp only;rw[o];dsimp only;rw[q];dsimp only;rw[s];dsimp only;rw[u];dsimp only;rw[w];dsimp only;rw[y]
 refine⟨b,?_,Iq z⟩;unfold pl;rw[bN,A];dsimp only;rw[ak c];rfl
theorem OS{α:Type}{b:BL}{f:α->BL}{one:Rs->α×Rs}:∀(l:List α)(a:Int)(r:BL)(c:List α),(∀x∈l,∀a r,Bh b a (f x++r)->∃e,one (a,0)=(x,e,0)/\Bh b e r)->Bh b a (fl f l++r)->
 ∃e,yU one l.length (a,0) c=(c++l,e,0)/\Bh b e r
 |[],a,r,c,_,g=>⟨a,by simp[yU],by simpa[fl]using g⟩
 |x::l,a,r,c,h,g=>by
  rw[wL,ay]at g;obtain⟨i,j,m⟩:=h x (aF ..) a _ g;obtain⟨n,o,p⟩:=OS l i r (c++[x]) (λy q=>h y (aD _ q)) m;refine⟨n,?_,p⟩;show yU one l.length (one (a,0)).2 (c++[(one (a,0)).1])=_;rw[j];dsimp only;rw[o,ay];rfl
theorem Iu{α:Type}{f:α->BL}{one:BL->Bool->Rs->α×Rs}{l:List α}(p:l.length<=5)(h:∀x∈l,∀a r,Bh b a (f x++r)->∃c,one b true (a,0)=(x,c,0)/\Bh b c r)(e:Bh b a (vn l.length++(fl f l++r))):
 ∃c,pC one b true (a,0)=(l,c,0)/\Bh b c r:=by
 obtain⟨g,i,j⟩:=kh (lo:=0) (hi:=5) e ac ac ac ac;obtain⟨m,n,o⟩:=OS (one:=one b true) l g r [] h j;refine⟨m,?_,o⟩;unfold pC;rw[i];dsimp only;rw[aG,n,eO]
theorem OT(h:iU e=true):∃a,jJ (gi e) true (0,0)=(e,a,0)/\eZ (gi e) a true 0=0:=by
 have q:=h;have g:=Ig h;have s:=im h;obtain⟨Y,q2,q3,m,t,q6,q7,q8⟩:=me h;obtain⟨u,v⟩:=RN m;have pk:=fT m
 have w:Bh (gi e) 0 (vn 1++(vn e.1++(tx e.2.1++(vn e.2.2.1.length++(fl pY e.2.2.1++(vn e.2.2.2.1.length++(fl qP e.2.2.2.1++(tx e.2.2.2.2.1++(vn e.2.2.2.2.2.1.length++(fl tx e.2.2.2.2.2.1++(tx e.2.2.2.2.2.2.1++[]))))))))))):=by
  have y:(gi e).length<=1000000000:=by
   have:=s.2.1;have:=eC e.2.2.2.2.2.2.1;unfold gi;simp only[aa];omega
  have z:gi e=vn 1++(vn e.1++(tx e.2.1++(vn e.2.2.1.length++(fl pY e.2.2.1++(vn e.2.2.2.1.length++(fl qP e.2.2.2.1++(tx e.2.2.2.2.1++(vn e.2.2.2.2.2.1.length++(fl tx e.2.2.2.2.2.1++(tx e.2.2.2.2.2.2.1++[])))))))))):=by
   simp only[gi,dS,eo,ay,aH]
  have:=Bh.zero y;rw[<-z];exact this
 obtain⟨a1,A,B⟩:=kh (lo:=1) (hi:=1) w ac ac ac ac;obtain⟨a2,C,D⟩:=kh (lo:=1) (hi:=65536) B ac ac ac ac;obtain⟨a3,E,F⟩:=nG (n:=64) D ac ac
 obtain⟨a4,G,H⟩:=Iu (one:=Ed) ac (λx c a r b=>by
  have:=u x c;simp only[pY,ay]at b;obtain⟨J,f,i⟩:=kh (lo:=0) (hi:=4) b ac ac ac ac;obtain⟨o,j,l⟩:=nG (n:=64) i ac ac;obtain⟨K,L,M⟩:=nG (n:=64) l ac ac;refine⟨K,?_,M⟩;unfold Ed;dsimp only;rw[f];dsimp only;rw[j];dsimp only;rw[L]) F
 obtain⟨a5,N,O⟩:=Iu (one:=Ee) ac (λx c a r b=>by
  have:=v x c;simp only[qP,ay]at b;obtain⟨J,f,i⟩:=kh (lo:=0) (hi:=4) b ac ac ac ac;obtain⟨o,j,l⟩:=kh (lo:=0) (hi:=1048576) i ac ac ac ac;refine⟨o,?_,l⟩;unfold Ee;dsimp only;rw[f];dsimp only;rw[j]) H
 obtain⟨a6,P,Q⟩:=nG (n:=64) O ac ac
 obtain⟨a7,R,S⟩:=Iu (one:=Ef) ac (λx c a r b=>by
  have:=t x c;exact nG (n:=64) b ac ac) Q
 obtain⟨p,U,W⟩:=nG (n:=64) S ac ac
 have X:N2 (gi e) true (0,0)=(e,p,0):=by
  unfold N2;dsimp only;rw[A];dsimp only;rw[C];dsimp only;rw[E];dsimp only;rw[G];dsimp only;rw[N];dsimp only;rw[P];dsimp only;rw[R];dsimp only;rw[U]
 refine⟨p,?_,Iq W⟩;unfold jJ;rw[bN,X];dsimp only;rw[ak q];rfl
def knN(ts:List Tm)(a:Int)(q:Nat)(k:Kn):Prop:=∃lk:Lk,nf lk=true/\lk.1=a/\lk.2.1=(q:Int)+1/\lk.2.2.1=k.2.2.1/\Nm ts k.1 (104,[vo lk],())
def Bn(ts:List Tm)(bk:Ln):Prop:=∀(a:Int)(q:Nat)(k:Kn),(cJ bk a)[q]?=some k->knN ts a q k
theorem Dc(ts:List Tm):Bn ts []:=λa q k h=>by simp[cJ,aO,cD]at h
theorem Bn.gr{ts:List Tm}(h:Bn ts bk)(g:Gr K ts ts'):Bn ts' bk:=λa q k b=>let⟨lk,c,e,f,i,j⟩:=h a q k b;⟨lk,c,e,f,i,g.nm j⟩
theorem mr(h:b.length=32):dU (ax 32 0) b=b:=by
 unfold dU;simp[h];rw[<-h,bv]
theorem Iv{k:Nat}(h:Su (k+1) f u)(a:nf lk=true):Nm (gy lk f u).2.1 (gy lk f u).1 (104,[vo lk],()):=by
 unfold gy;rw[ak a];exact(ry h (ja (k:=104) bt bt (by have:=pa a;unfold aB;omega))).2
theorem OU{k:Nat}(h:Su (k+1) ts' u)(c:nf lk=true)(n:lk.2.1=((cJ bk lk.1).length:Int)+1)(f:Bn ts' bk):Bn (gy lk ts' u).2.1 (pX lk bk ts' u):=by
 intro a q x b;have i:=Iv h c;have j:=(OP (lk:=lk) h).gr;unfold pX at b;rw[kO]at b;split at b
 ·rename_i e;subst e;rcases br q (cJ bk lk.1).length with g|g
  ·rw[bq g]at b;exact(f.gr j) _ q x b
  ·rw[aJ g]at b
   have l:q-(cJ bk lk.1).length=0:=by
    rcases dP (q-(cJ bk lk.1).length)with e|e
    ·exact e
    ·rw[be eM]at b;cases b
   rw[l]at b;have b:=Option.some.inj b;subst b;refine⟨lk,c,rfl,ac,rfl,?_⟩;show Nm _ (dU _ _) _;rw[mr (i.len32 (by show(104:BitVec 8)≠98;decide) (by show(104:BitVec 8)≠103;decide))];exact i
 ·exact(f.gr j) a q x b
theorem Bo(h:(ij lk bk ts' u).1=0):nf lk=true/\lk.2.1=((cJ bk lk.1).length:Int)+1/\(fe bk lk.1).2.2.1=lk.2.2.2.1/\¬(0<(cJ bk lk.1).length/\lk.2.2.1<((cJ bk lk.1).getD ((cJ bk lk.1).length-1) kN).2.2.1)/\(ij lk bk ts' u).2=(ts',u):=by
 unfold ij at h⊢;split at h
 ·cases h
 rename_i a;split at h
 ·dsimp only at h;split at h<;>cases h
 rename_i e;split at h
 ·cases h
 rename_i f;split at h
 ·cases h
 rename_i b;split at h
 ·cases h
 rename_i c;rw[ae a,ae e,ae f,ae b,ae c];exact⟨cf a,ac,aA.1 b,c,rfl⟩
theorem Iw{k:Nat}(h:Su (k+2) ts' u)(b:Bn ts' bk):Bn (kp lk bk ts' u).2.2.1 (kp lk bk ts' u).2.1:=by
 have a:=(N_ (lk:=lk) (bk:=bk) h).gr;unfold kp at a⊢;split
 ·rename_i g;obtain⟨c,e,_,_,f⟩:=Bo g;dsimp only;rw[f];exact OU (k:=k+1) h c e b
 ·rename_i g;rw[ae g]at a;exact b.gr a
inductive Gd:List Lk->Prop
 |nil:Gd []
 |snoc {l:List Lk} {x:Lk}:Gd l->0<=x.1->x.1<5->1<=x.2.2.1->x.2.2.1<=65536->x.2.2.2.2.1.length=32->x.2.1=(l.countP (λy=>y.1==x.1):Int)+1->x.2.1<=1048576->Gd (l++[x])
theorem Ix{b:BL}{au:Int}(h0:0<=au)(x:au<5):∀(k:Nat)(i last:Int)(s:Rs)(c:List Lk),bZ b s.1->i+k<=1048576->Gd c->i=(c.countP (λy=>y.1==au):Int)->
 bZ b (xn b true au k i last s c).2.1.1/\Gd (xn b true au k i last s c).2.2/\∀a:Int,a≠au->(xn b true au k i last s c).2.2.countP (λy=>y.1==a)=c.countP (λy=>y.1==a)
 |0,_,_,s,c,n,_,h,_=>⟨n,h,λ_ _=>rfl⟩
 |k+1,i,last,s,c,n,J,h,K=>by
  obtain⟨a,e⟩:=s;rw[tk];have o:=ow true e 32 n;generalize hJ b a true e 32=t at*;dsimp only at o⊢;generalize l:(if t.1.length=32 then t.2.2 else if(true&&t.2.2==0)=true then 5 else t.2.2)=m at*;have A:=fx true m 1 65536 o.1;have p:(dn b t.2.1 true m 1 65536).2.2=0->m=0/\1<=(dn b t.2.1 true m 1 65536).1/\(dn b t.2.1 true m 1 65536).1<=65536:=λq=>let z:=mq o.1 q;⟨z.1,z.2.2.2⟩
  generalize dn b t.2.1 true m 1 65536=u at*;rw[ak (show(true=true)from rfl)];generalize j:(if u.1<last then(if(true&&u.2.2==0)=true then 5 else u.2.2)else u.2.2)=B at*;by_cases g:B=0
  ·rw[ak g];rw[g]at j
   have D:u.2.2=0:=by
    split at j
    ·split at j
     ·cases j
     ·exact j
    ·exact j
   obtain⟨E,F,G⟩:=p D
   have H:t.1.length=32:=by
    by_cases q:t.1.length=32
    ·exact q
    ·exfalso;rw[ae q,E]at l;split at l
     ·cases l
     ·rename_i w;apply w;rw[l];rfl
   have r:Gd (c++[(au,i+1,u.1,[],t.1,())]):=Gd.snoc h h0 x F G H (by dsimp only;omega) (by dsimp only;omega)
   have f:∀a:Int,(c++[((au,i+1,u.1,[],t.1,()):Lk)]).countP (λy=>y.1==a)=c.countP (λy=>y.1==a)+(if au=a then 1 else 0):=by
    intro a;rw[List.countP_append,List.countP_cons,List.countP_nil];simp
   have v:=Ix h0 x k (i+1) u.1 (u.2.1,B) (c++[(au,i+1,u.1,[],t.1,())]) A.1 ac r (by rw[f,ak rfl];omega);refine⟨v.1,v.2.1,λa C=>?_⟩;rw[v.2.2 a C,f,ae (λq=>C q.symm)];rfl
  ·rw[ae g];exact⟨A.1,h,λ_ _=>rfl⟩
theorem Iy{b:BL}:∀(k:Nat)(au:Int)(s:Rs)(c:List Lk),0<=au->au+k<=5->bZ b s.1->Gd c->(∀a:Int,au<=a->c.countP (λy=>y.1==a)=0)->Gd (qD b true k au s c).2.2
 |0,_,_,c,_,_,_,h,_=>h
 |k+1,au,s,c,g,j,i,h,e=>by
  simp only[qD];have f:=fx true s.2 0 1048576 i;generalize dn b s.1 true s.2 0 1048576=n at*;have:=Ix (b:=b) (au:=au) g ac n.1.toNat 0 1 n.2 c f.1 (by have:=f.2.2;omega) h (by rw[e au (bp _)];rfl);generalize xn b true au n.1.toNat 0 1 n.2 c=r at*;split
  ·exact Iy k (au+1) r.2.1 r.2.2 ac ac this.1 this.2.1 (λa l=>by rw[this.2.2 a ac,e a ac])
  ·exact this.2.1
theorem O_{s:Rs}(h:bZ b s.1):Gd (rj b true s).2.2:=Iy 5 0 s [] ac ac h Gd.nil (λ_ _=>rfl)
theorem Ni(bk:Ln)(a:Int):(xm bk a (cJ bk a).length).1=(if(cJ bk a).length=0 then[]else((cJ bk a).getD ((cJ bk a).length-1) kN).1):=by
 unfold xm;split
 ·rename_i h;rw[ak ac]
 ·rename_i h;rw[ae ac];dsimp only;rw[show(((cJ bk a).length:Int)-1).toNat=(cJ bk a).length-1 by omega]
theorem tF(h:0<=a/\a<5):(fe bk a).2.2.1=(if(cJ bk a).length=0 then[]else((cJ bk a).getD ((cJ bk a).length-1) kN).1):=by
 unfold fe;rw[ae ac];exact Ni bk a
theorem O'{k:Nat}{ts:List Tm}{m:KV}:∀{l:List Lk},Gd l->Su (k+l.length) ts m->
 Ok gG k ts (nC l ts m).2/\Bn (nC l ts m).2.1 (nC l ts m).1/\∀a,(cJ (nC l ts m).1 a).length=l.countP (λy=>y.1==a):=by
 intro l h
 induction h generalizing k with
 |nil=>intro f;exact⟨Ok.refl f ac,Dc _,λa=>rfl⟩
 |@snoc l x F j n r s t u v A=>
  intro f;obtain⟨g,o,c⟩:=A (k:=k+1) (f.mono eM);have e:nC (l++[x]) ts m=D8 (nC l ts m) x:=by unfold nC;rw[List.foldl_append];rfl
  rw[e];generalize nC l ts m=z at*;have B:=tF (bk:=z.1) (a:=x.1) ⟨j,n⟩
  have C:nf (x.1,x.2.1,x.2.2.1,(fe z.1 x.1).2.2.1,x.2.2.2.2.1,())=true:=by
   unfold nf;refine decide_eq_true ⟨j,n,by show 1<=x.2.1;omega,v,r,s,t,?_⟩;dsimp only;rw[B];by_cases q:(cJ z.1 x.1).length=0
   ·rw[ak q];refine .inl ⟨?_,rfl⟩;rw[c]at q;omega
   ·rw[ae q];refine .inr ?_
    have D:(cJ z.1 x.1)[(cJ z.1 x.1).length-1]?=some ((cJ z.1 x.1).getD ((cJ z.1 x.1).length-1) kN):=by
     rw[aw,an ac];rfl
    obtain⟨lk,_,_,_,_,E⟩:=o _ _ _ D;exact E.len32 (by show(104:BitVec 8)≠98;decide) (by show(104:BitVec 8)≠103;decide)
  unfold D8;dsimp only;generalize b:(x.1,x.2.1,x.2.2.1,(fe z.1 x.1).2.2.1,x.2.2.2.2.1,())=lk at*;have p:lk.1=x.1:=by rw[<-b]
  have i:lk.2.1=x.2.1:=by rw[<-b]
  refine⟨g.trans (OP g.su),OU (k:=k) g.su C (by rw[i,p,c,u]) o,λa=>?_⟩;unfold pX;rw[kO,List.countP_append,List.countP_cons,List.countP_nil,p];by_cases q:a=x.1
  ·subst q;rw[ak rfl,aa,c];simp
  ·rw[ae q,c];have:(x.1==a)=false:=by simpa using λw=>q w.symm
   rw[this];rfl
theorem P_{i:Pg}{k:Nat}{m:KV}(j:x.length<=5000)(b:Su (k+5000) ts' m)(a:Bn ts' bk)(h:tY l lk x i bk ts' m y):Bn y.2.2.2.1 y.2.2.1:=by
 have e:=(txP (k:=k) j b h).gr;unfold tY at h;split at h
 ·obtain⟨⟨c,n⟩,f,_⟩:=h;rw[n]at e⊢;unfold EK at e⊢;dsimp only at e⊢
  repeat' split
  ·exact a
  ·exact Iw (k:=k+4998) b a
  ·exact Iw (k:=k+4998) b a
 ·split at h
  ·rw[h];exact a
  ·obtain⟨w,o,p,f⟩:=h;rcases f with⟨_,_,q⟩|⟨_,r,_,u,_⟩
   ·rw[q];exact a.gr e
   ·rw[p,ak r,u,o];have g:bZ x 0:=⟨ac,ac,ac⟩;have v:=(H6 true 0 g).2;exact(O' (k:=k) (O_ (s:=(0,0)) g) (b.mono ac)).2.1
theorem R4{w:Cl}{k:Nat}(c:jY l=true)(h:Su (k+6000) ts' u)(a:Bn ts' w.bk)(r:kg w l ts' u y):Bn y.2.2.2.1 y.2.2.1:=by
 have c:=(dJ c).2.2.1;unfold kg at r;dsimp only at r;split at r
 ·rw[r];exact a
 split at r
 ·rw[r];exact a
 have e:=lcP (sg:=(gn (cZ w.lg.2.1 l.2.2.1) l.2.1).1.2.2.1) (k:=k+5999) c h;split at r
 ·rw[r];exact a.gr e.gr
 generalize nE (gn (cZ w.lg.2.1 l.2.2.1) l.2.1).1.2.2.1 l ts' u=z at*;have b:=e.trans (knP (l:=l) (lk:=z.1.1) (la:=w.la) (bk:=w.bk) (k:=k+5998) e.su);generalize wJ l z.1.1 w.la w.bk z.2.1 z.2.2=f at*;split at r
 ·rw[r];exact a.gr b.gr
 split at r
 ·rw[r];exact a.gr b.gr
 split at r
 ·rw[r];exact a.gr b.gr
 have g:=b.trans (loP (ep:=(aO Ty.i64 l.2.2.1 w.km).getD []) (l:=l) (k:=k+5997) b.su);have i:=(loT (ep:=(aO Ty.i64 l.2.2.1 w.km).getD []) (l:=l) (k:=k+5997) f.2.2 b.su.k).2;generalize tq ((aO Ty.i64 l.2.2.1 w.km).getD []) l f.2.1 f.2.2=o at*;split at r
 ·rw[r];exact a.gr g.gr
 ·exact P_ (k:=k+900) ac (g.su.mono ac) (a.gr g.gr) r
theorem Nj(h:nf lk=true)(h':nf l'=true)(e:vo lk=vo l'):lk=l':=by
 have a:=jz h;have j:=jz h';unfold vo at e;simp only[ay]at e;obtain⟨b,e⟩:=fg ac ac ac ac e;obtain⟨c,e⟩:=fg ac ac ac ac e;obtain⟨f,e⟩:=fg ac ac ac ac e;rw[<-ay,<-ay (vn (l'.2.2.2.1.length:Int))]at e;obtain⟨g,e⟩:=kU (s:=lk.2.2.2.1) (s':=l'.2.2.2.1) ac ac e;obtain⟨i,_⟩:=kU (s:=lk.2.2.2.2.1) (s':=l'.2.2.2.2.1) (r:=[]) (r':=[]) ac ac (by simpa[tx]using e);obtain⟨m,n,o,p,q,⟨⟩⟩:=lk;obtain⟨t,u,v,w,x,⟨⟩⟩:=l';dsimp only at b c f g i;subst b c f g i;rfl
def Wd.cl(w:Wd):Nat->Cl
 |0=>w.c0
 |1=>w.c1
 |2=>w.c2
 |3=>w.c3
 |_=>w.c4
def Wd.setC(w:Wd):Nat->Cl->Wd
 |0,c=>{w with c0:=c}
 |1,c=>{w with c1:=c}
 |2,c=>{w with c2:=c}
 |3,c=>{w with c3:=c}
 |_,c=>{w with c4:=c}
def Wd.aft(w:Wd)(i:Nat)(z:Cl×List Tm×KV):Wd:={w.setC i z.1 with ts:=z.2.1,m:=z.2.2}
def Wd.ky(w:Wd):Nat->KM
 |0=>w.k0
 |1=>w.k1
 |2=>w.k2
 |3=>w.k3
 |_=>w.k4
def Wd.setK(w:Wd):Nat->KM->Wd
 |0,c=>{w with k0:=c}
 |1,c=>{w with k1:=c}
 |2,c=>{w with k2:=c}
 |3,c=>{w with k3:=c}
 |_,c=>{w with k4:=c}
structure cU(w:Wd)(n:Nat):Prop where
 cl:∀i,i<5->mo (w.cl i)/\(w.cl i).c=i/\(w.cl i).fk.length+400*n+2000<=10000000
 ts:cb (10000*n+10000) w.ts
 sec:w.sec.length=5/\∀r∈w.sec,r.length=2/\∀s∈r,s.length<=64
 al:w.al.length=5/\pi w.al
 lg:cK w.lg.2.1 w.lg.2.2.1/\w.lg.2.1.length<=100000/\aB w.lg.1
 l5:∀e∈w.lg.2.1,e.2.2.1.length<=5
 go:w.go.length=5
 st:w.st.length<=1000/\w.ln.length=w.st.length/\∀b∈w.st,b.length<=2000000
 dr:0<=w.d/\w.d+2*n<=1000000
def Wd.se(w:Wd)(i j:Nat):BL:=(w.sec.getD i (ax 2 [])).getD j []
def Nk(x:Et)(i:Int)(sec:BL)(ts:List Tm):List Mb->KM->KM
 |[],a=>a
 |p::r,a=>Nk x i sec ts r (if p.1=i then cL (kt:= .i64) x.1 (pj x i sec (hV ts).1 (hV ts).2).1.1 a else a)
def fH(b:BL)(i:Int)(r:Int×Nw)(w:Wd):Wd:=
 if r.1=0/\r.2.1=1 then w.setK i.toNat (Nk (jJ b true (0,0)).1 i (w.se i.toNat 0) w.ts (jJ b true (0,0)).1.2.2.1 (w.ky i.toNat))else w
def iV(w:Wd)(i:Int)(b:BL)(y:(Int×Nw)×Wd):Prop:=
 ∃r:E9,ol (w.cl i.toNat) b w.ts w.m r/\y=(r.1,fH b i r.1 (w.aft i.toNat r.2))
theorem fZ(h:i<5):i=0\/i=1\/i=2\/i=3\/i=4:=ac
theorem Bp(w:Wd)(c:Cl)(hi:i<5)(a:j<5):(w.setC i c).cl j=if j=i then c else w.cl j:=by
 rcases fZ hi with rfl|rfl|rfl|rfl|rfl<;>rcases fZ a with rfl|rfl|rfl|rfl|rfl<;>rfl
theorem R5(w:Wd)(c:KM)(hi:i<5)(a:j<5):(w.setK i c).ky j=if j=i then c else w.ky j:=by
 rcases fZ hi with rfl|rfl|rfl|rfl|rfl<;>rcases fZ a with rfl|rfl|rfl|rfl|rfl<;>rfl
theorem dj(w:Wd)(i:Nat)(c:Cl):(w.setC i c).sec=w.sec/\(w.setC i c).al=w.al/\(w.setC i c).go=w.go/\(w.setC i c).d=w.d/\(w.setC i c).lg=w.lg/\(w.setC i c).st=w.st/\(w.setC i c).ln=w.ln/\(w.setC i c).ts=w.ts/\(w.setC i c).m=w.m/\∀j,(w.setC i c).ky j=w.ky j:=by
 unfold Wd.setC;split<;>exact⟨rfl,rfl,rfl,rfl,rfl,rfl,rfl,rfl,rfl,λ_=>rfl⟩
theorem mX(w:Wd)(i:Nat)(c:KM):(w.setK i c).sec=w.sec/\(w.setK i c).al=w.al/\(w.setK i c).go=w.go/\(w.setK i c).d=w.d/\(w.setK i c).lg=w.lg/\(w.setK i c).st=w.st/\(w.setK i c).ln=w.ln/\(w.setK i c).ts=w.ts/\(w.setK i c).m=w.m/\∀j,(w.setK i c).cl j=w.cl j:=by
 unfold Wd.setK;split<;>exact⟨rfl,rfl,rfl,rfl,rfl,rfl,rfl,rfl,rfl,λ_=>rfl⟩
variable{v:Wd}
theorem cU.mono{k:Nat}(h:cU v n)(b:k<=n):cU v k:=
 ⟨λi a=>⟨(h.cl i a).1,(h.cl i a).2.1,by have:=(h.cl i a).2.2;omega⟩,h.ts.mono ac,h.sec,h.al,h.lg,h.l5,h.go,h.st,⟨h.dr.1,by have:=h.dr.2;omega⟩⟩
theorem Iz(h:cU v n):cU (v.setK i km) n:=by
 obtain⟨e,f,g,l,b,m,o,p,r,a⟩:=mX v i km;exact⟨λj q=>by rw[a];exact h.cl j q,by rw[p];exact h.ts,by rw[e];exact h.sec,by rw[f];exact h.al,by rw[b];exact h.lg,by rw[b];exact h.l5,by rw[g];exact h.go,by rw[m,o];exact h.st,by rw[l];exact h.dr⟩
theorem wP{w:Wd}{r:E9}(h:cU w (n+1))(hi:i<5)(f:ol (w.cl i) b w.ts w.m r):cU (w.aft i r.2) n:=by
 unfold Wd.aft;obtain⟨l,o,p,s,c,t,u,z,A,v⟩:=dj w i r.2.1;obtain⟨x,y,B⟩:=h.cl i hi;have q:=L' (k:=10000*n+10000) x (h.ts.mono ac) f;refine⟨λj a=>?_,q.2.2.1,by dsimp only;rw[l];exact h.sec,by dsimp only;rw[o];exact h.al,by dsimp only;rw[c];exact h.lg,by dsimp only;rw[c];exact h.l5,by dsimp only;rw[p];exact h.go,by dsimp only;rw[t,u];exact h.st,by dsimp only;rw[s];exact⟨h.dr.1,by have:=h.dr.2;omega⟩⟩
 have e:Wd.cl {w.setC i r.2.1 with ts:=r.2.2.1,m:=r.2.2.2} j=(w.setC i r.2.1).cl j:=by
  rcases fZ a with rfl|rfl|rfl|rfl|rfl<;>rfl
 rw[e,Bp w r.2.1 hi a];split
 ·rename_i g;subst g;exact⟨q.1,q.2.2.2.1.trans y,ac⟩
 ·have:=h.cl j a;exact⟨this.1,this.2.1,ac⟩
theorem IA(h:∀t∈ts',eB t):(∀t∈(hV ts').1,eB t)/\(hV ts').1.length<=ts'.length:=by
 have e:∀(l:List Tm)(z:List Tm×KV),(∀t∈l,eB t)->(∀t∈z.1,eB t)->(∀t∈(l.foldl (λa t=>(jV t a.1 a.2).2) z).1,eB t):=by
  intro l
  induction l with
  |nil=>intro z _ c;exact c
  |cons a r g=>
   intro z f c;rw[nu];refine g _ (λt b=>f t (aD _ b)) ?_;unfold jV;split
   ·intro t b;rcases ba.1 b with b|b
    ·exact c t b
    ·simp at b;subst b;exact f a (aF ..)
   ·exact c
 refine⟨e ts' _ h (λt b=>by simp at b),?_⟩;have:=AG ts' ts'.length (aE _);rw[bv]at this;exact this
theorem P'(h:cU v n)(i j:Nat):(v.se i j).length<=64:=by
 unfold Wd.se;rcases br i v.sec.length with g|g
 ·have b:=h.sec.2 _ (aV (z:=ax 2 []) g);rcases br j (v.sec.getD i (ax 2 [])).length with a|a
  ·exact b.2 _ (aV a)
  ·rw[aw (l:=v.sec.getD i _),be a];simp
 ·rw[aw (l:=v.sec),be g,Option.getD_none];rcases j with _|_|j<;>simp
theorem rA(h:cU v n){i:Int}(b:BL)(hi:0<=i/\i<5):∃y,iV v i b y:=by
 obtain⟨r,a⟩:=Ia (v.cl i.toNat) b v.ts v.m (h.cl i.toNat ac).1.2.2.2.2.1;exact⟨_,r,a,rfl⟩
theorem gB{y:(Int×Nw)×Wd}(h:cU v (n+1))(hi:0<=c/\c<5)(a:iV v c b y):cU y.2 n:=by
 obtain⟨r,a,rfl⟩:=a;have:=wP h (show c.toNat<5 by omega) a;unfold fH;dsimp only;split
 ·exact Iz this
 ·exact this
theorem IB{w:Cl}{r:E9}(h:ol w b ts' u r)(h0:r.1.1=0)(a:r.1.2.1=1):iU (jJ b true (0,0)).1=true/\eZ b (jJ b true (0,0)).2.1 true (jJ b true (0,0)).2.2=0:=by
 unfold ol at h;dsimp only at h;split at h
 ·rw[h]at h0;exact absurd h0 (by show¬((2:Int)=0);decide)
 rename_i l;have e:bZ b 0:=⟨ac,ac,ac⟩;split at h
 ·rename_i g;rw[h]at h0;exact absurd h0 g
 split at h
 ·split at h
  ·rename_i g;rw[h]at h0;exact absurd h0 g
  ·rename_i g;have g:=aA.1 g;exact⟨((M4 e).2 g).2,g⟩
 ·split at h
  ·rename_i g;rw[h]at h0;exact absurd h0 g
  ·rename_i g;have i:=(dJ ((RM e).2 (aA.1 g)).2).1.1;obtain⟨z,f,n,o,p,c,j⟩:=h;rw[j]at h0 a;unfold zi at c;have h0:z.1=0:=h0;rw[ak h0]at c;have a:n.1=1:=a;exact absurd (a.symm.trans c.1) (λq=>by rw[<-q]at i;exact absurd i bt)
def bxH(j:Nat):List (Option CP):=[some (.cells [.ptr j 0])]
def n2C:Ct:=⟨1,⟨[(0,false,[.ptr 0 0])],bxH 1++lZ 1⟩,[⟨[sS 0 4],bxH 1++lZ 1++lZ 4⟩],λ(d,a,m,_)=>one (fX a) (d,a,m,d,(hV a).1,(hV a).2,())⟩
def a6v:bG:=(33,[n2C])::J'
def a6w:=kA 33 n2C K_ (cQ n2C 0) (∀(b:Int)(a:List Tm)(c:KV)Q,bg n2C (b,a,c,()) Q->fX a/\Q ⟨0,b,a,c,b,(hV a).1,(hV a).2,()⟩) (by
 unfold bg;intro d b m Q ⟨h,a⟩;exact⟨h,a⟩)
def Q_:List (Option CP):=[some (.cells [.ifc 96 1 0, .fn 33 [] [(3,0)], .d (.ar 5 (.ar 2 tB)), .d (.ar 5 jf), .ptr 4 0, .ptr 6 0, .ptr 8 0, .ptr 10 0, .ptr 12 0, .mp 14, .mp 15, .mp 16, .mp 17, .mp 18, .ptr 19 0, .d (.ar 5 .bl), .own 31, .own 32])]++((JP 33).drop 1).take 30++[some (.sl tB),some (.sl .i64)]++(om 33).take 11
theorem Wd.all2{F:List (List BL)->List Mb->List Bool->Int->KV->EP.den->EQ.den->KM->EP.den->EQ.den->KM->EP.den->EQ.den->KM->EP.den->EQ.den->KM->EP.den->EQ.den->KM->KM->KM->KM->KM->KM->Lg->List BL->List Int->List Tm->Ln->Ln->Ln->Ln->Ln->Prop}
 (h:∀w:Wd,F w.sec w.al w.go w.d w.m (cA w.c0) (qT w.c0) w.c0.km (cA w.c1) (qT w.c1) w.c1.km (cA w.c2) (qT w.c2) w.c2.km (cA w.c3) (qT w.c3) w.c3.km (cA w.c4) (qT w.c4) w.c4.km w.k0 w.k1 w.k2 w.k3 w.k4 w.lg w.st w.ln w.ts w.c0.bk w.c1.bk w.c2.bk w.c3.bk w.c4.bk):
 ∀E G H J K L M N O a b c e f g i j l n o p q r s t u v x y z A B C D,F E G H J K L M N O a b c e f g i j l n o p q r s t u v x y z A B C D:=λE G H J K L M N O a b c e f g i j l n o p q r s t u v x y z A B C D=>h (cS (E,G,H,J,K,L,M,N,O,a,b,c,e,f,g,i,j,l,n,o,p,q,r,s,t,u,y,z,A,B,C,D,v,x,()))
def Bq:Ct:=⟨3,⟨[sP 0,sI 1,sB 2],nn⟩,[⟨[(0,true,[.d Ij])],Q_⟩],λ(i,b,a)=>fJ (0<=i/\i<5/\b.length<=10000000/\∃n,cU (cS a) (n+1)) (iV (cS a) i b) λy=>((y.1.1,0,y.1.2),RP y.2)⟩
def Q':cx:=⟨[sP 0,sI 1,sB 2,(6,false,[.ptr 44 0]),(7,false,[.ptr 45 0]),sI 8],Q_++[some (.cells [.d Ij]),some (.cells [.d HZ])]⟩
def Bt(x:Bq.inp.den)(y:Q'.den):Prop:=match x,y with
 |(i,b,a),(j,c,L,M,N,O,P,Q,R,S,U,W,e,f,g,h,l,n,o,p,q,s,t,u,v,w,z,A,B,C,D,E,F,G,H,J,K,Y,X,_)=>j=i/\c=b/\∃r,ol ((cS a).cl i.toNat) b (cS a).ts (cS a).m r/\(L,X)=r.1/\(cS (M,N,O,P,Q,R,S,U,W,e,f,g,h,l,n,o,p,q,s,t,u,v,w,z,A,B,E,F,G,H,J,K,C,D,()))=(cS a).aft i.toNat r.2
def R_:cx:=⟨[sP 0,sI 1,(6,false,[.ptr 44 0]),(7,false,[.ptr 45 0]),sI 8,(9,false,[.ptr 46 0]),(38,false,[.d (.sl jf)]),sI 39,sI 40],Q_++[some (.cells [.d Ij]),some (.cells [.d HZ]),some (.cells [.d tU])]⟩
def wQ(x:Bq.inp.den)(y:R_.den):Prop:=match x,y with
 |(i,b,c),(j,Q,a,n,k,R,S,U,W,X,Y,b7,b8,b9,f,g,h,l,o,p,s,t,u,v,z,A,B,C,D,E,F,G,H,J,K,L,M,N,O,sn,nw,e,_)=>j=i/\e=(jJ b true (0,0)).1/\a=e.2.2.1/\n=a.length/\(∃r w,ol ((cS c).cl i.toNat) b (cS c).ts (cS c).m r/\(Q,nw)=r.1/\r.1.1=0/\r.1.2.1=1/\w=(cS c).aft i.toNat r.2/\
  ∃q:Nat,k=q/\q<=a.length/\∃P,(cS (R,S,U,W,X,Y,b7,b8,b9,f,g,h,l,o,p,s,t,u,v,z,A,B,C,D,E,F,J,K,L,M,N,O,G,H,()))=w.setK i.toNat P/\Nk e i (w.se i.toNat 0) w.ts (a.drop q) P=Nk e i (w.se i.toNat 0) w.ts a (w.ky i.toNat))
def a6x(x:Bq.inp.den):eH:=⟨[(5,bS R_ (wQ x) λ(_,_,_,n,k,_)=>(n-k).toNat)],[(2,bS Q' (Bt x) λ_=>0)],[],[(1,1,5),(8,1,5)],0⟩
abbrev IC(v:(Int×Int×Nw)×TZ Unit):cF Bq.out:=⟨0,v⟩
def R':bG:=(41,[Bq])::a6v
def S_:=kA 41 Bq a6w a6x (∀(p:Int)(c:BL),WA λF a4 a5 a6 a7 e k r f l s g m t h n u i o v a8 a9 b0 b1 b2 b3 q w z a0 a1 a2 b4 b5=>let j5:=Cl.mk f.1 f.2.1 f.2.2.1 f.2.2.2.1 l.1 l.2.1 l.2.2.1 s z;let j6:=Cl.mk e.1 e.2.1 e.2.2.1 e.2.2.2.1 k.1 k.2.1 k.2.2.1 r w;let z9:=Cl.mk i.1 i.2.1 i.2.2.1 i.2.2.2.1 o.1 o.2.1 o.2.2.1 v a2;let z8:=Cl.mk h.1 h.2.1 h.2.2.1 h.2.2.2.1 n.1 n.2.1 n.2.2.1 u a1;let z7:=Cl.mk g.1 g.2.1 g.2.2.1 g.2.2.2.1 m.1 m.2.1 m.2.2.1 t a0;let z1:=(a4,a5,a6,a7,e,k,r,f,l,s,g,m,t,h,n,u,i,o,v,a8,a9,b0,b1,b2,b3,q,w,z,a0,a1,a2,b4,b5,());let A:=(p,c,F,z1);∀(Q:cF Bq.out->Prop),(Tr.need (0<=p/\p<5/\c.length<=10000000/\∃p,cU (cS (F,z1)) (p+1)) (Tr.all ((Int×Nw)×Wd) (iV (cS (F,z1)) p c) λy=>Tr.leaf (IC ((y.1.1,0,y.1.2),RP y.2)))).sat Q->((0<=p/\p<5)/\((((True/\(p=0->(c.length<=10000000/\mo j6/\ah k.2.2.1+2000<=10000000/\cb 10000 q)/\∀(b:(Int×Nw)×Cl×List Tm×KV),ol j6 c q a7 b->Is (Bt A (0,c,b.1.1,F,a4,a5,a6,b.2.2.2,(b.2.1.c,b.2.1.se,b.2.1.sg,b.2.1.lg,()),(b.2.1.pg,b.2.1.la,b.2.1.fk,()),b.2.1.km,f,l,s,g,m,t,h,n,u,i,o,v,a8,a9,b0,b1,b2,b3,b4,b5,b.2.2.1,b.2.1.bk,z,a0,a1,a2,(0,0,0,0,0,0,false,false,[],()),b.1.2,()))))/\(p=1->(c.length<=10000000/\mo j5/\ah l.2.2.1+2000<=10000000/\cb 10000 q)/\∀(b:(Int×Nw)×Cl×List Tm×KV),ol j5 c q a7 b->Is (Bt A (1,c,b.1.1,F,a4,a5,a6,b.2.2.2,e,k,r,(b.2.1.c,b.2.1.se,b.2.1.sg,b.2.1.lg,()),(b.2.1.pg,b.2.1.la,b.2.1.fk,()),b.2.1.km,g,m,t,h,n,u,i,o,v,a8,a9,b0,b1,b2,b3,b4,b5,b.2.2.1,w,b.2.1.bk,a0,a1,a2,(0,0,0,0,0,0,false,false,[],()),b.1.2,()))))/\(p=2->(c.length<=10000000/\mo z7/\ah m.2.2.1+2000<=10000000/\cb 10000 q)/\∀(b:(Int×Nw)×Cl×List Tm×KV),ol z7 c q a7 b->Is (Bt A (2,c,b.1.1,F,a4,a5,a6,b.2.2.2,e,k,r,f,l,s,(b.2.1.c,b.2.1.se,b.2.1.sg,b.2.1.lg,()),(b.2.1.pg,b.2.1.la,b.2.1.fk,()),b.2.1.km,h,n,u,i,o,v,a8,a9,b0,b1,b2,b3,b4,b5,b.2.2.1,w,z,b.2.1.bk,a1,a2,(0,0,0,0,0,0,false,false,[],()),b.1.2,()))))/\(p=3->(c.length<=10000000/\mo z8/\ah n.2.2.1+2000<=10000000/\cb 10000 q)/\∀(b:(Int×Nw)×Cl×List Tm×KV),ol z8 c q a7 b->Is (Bt A (3,c,b.1.1,F,a4,a5,a6,b.2.2.2,e,k,r,f,l,s,g,m,t,(b.2.1.c,b.2.1.se,b.2.1.sg,b.2.1.lg,()),(b.2.1.pg,b.2.1.la,b.2.1.fk,()),b.2.1.km,i,o,v,a8,a9,b0,b1,b2,b3,b4,b5,b.2.2.1,w,z,a0,b.2.1.bk,a2,(0,0,0,0,0,0,false,false,[],()),b.1.2,()))))/\(p=4->(c.length<=10000000/\mo z9/\ah o.2.2.1+2000<=10000000/\cb 10000 q)/\∀(b:(Int×Nw)×Cl×List Tm×KV),ol z9 c q a7 b->Is (Bt A (4,c,b.1.1,F,a4,a5,a6,b.2.2.2,e,k,r,f,l,s,g,m,t,h,n,u,(b.2.1.c,b.2.1.se,b.2.1.sg,b.2.1.lg,()),(b.2.1.pg,b.2.1.la,b.2.1.fk,()),b.2.1.km,a8,a9,b0,b1,b2,b3,b4,b5,b.2.2.1,w,z,a0,a1,b.2.1.bk,(0,0,0,0,0,0,false,false,[],()),b.1.2,()))))/\∀(j2:Int)(f7:BL)(f5:Int),WB λf8 f9 g0 g1 g2 g3 g4 g5 g6 g7 g8 g9 h0 h1 h2 h3 h4 h5 h6 h7 h8 h9 i0 i1 i2 i3 i4 i5 i6 i7 i8 i9 j0 j1=>∀(j3:Int×Int×Nw)(f6:Nw),let z4:=IC ((f5,0,f6),f8,f9,g0,g1,g2,g3,g4,g5,g6,g7,g8,g9,h0,h1,h2,h3,h4,h5,h6,h7,h8,h9,i0,i1,i2,i3,i4,i5,i6,i7,i8,i9,j0,j1,());Bt A (j2,f7,f5,f8,f9,g0,g1,g2,g3,g4,g5,g6,g7,g8,g9,h0,h1,h2,h3,h4,h5,h6,h7,h8,h9,i0,i1,i2,i3,i4,i5,i6,i7,i8,i9,j0,j1,j3,f6,())->Br (f5==0) (Br (f6.1==1) (f7.length<=1099511627776/\bZ f7 0/\∀b,b=jJ f7 true (0,0)->Is (wQ A (j2,f5,b.1.2.2.1,nI b.1.2.2.1,0,f8,f9,g0,g1,g2,g3,g4,g5,g6,g7,g8,g9,h0,h1,h2,h3,h4,h5,h6,h7,h8,h9,i0,i1,i2,i3,i4,i5,i6,i7,i8,i9,j0,j1,j3,f6,b.1,()))/\∀(D G:Int)(E:List Mb)(x d:Int),let k2:=(gD E d (0,[],[],())).1==D;let B:=x-(d+1);WB λC H J K L M N O P R S U W X Y d5 d6 d7 d8 d9 e0 e1 e2 e3 e4 e5 e6 e7 j e8 e9 f0 f1 f2=>let j7:=(C.getD 4 (ax 2 [])).getD 0 [];let j8:=(C.getD 3 (ax 2 [])).getD 0 [];let j9:=(C.getD 2 (ax 2 [])).getD 0 [];let k0:=(C.getD 1 (ax 2 [])).getD 0 [];let k1:=(C.getD 0 (ax 2 [])).getD 0 [];∀(f4:Int×Int×Nw)(f3:Nw)(a:Et),let z3:=(e5,e6,e7,j,e8,e9,f0,f1,f2,f4,f3,a,());let j4:=(e2,e3,e4,z3);let z6:=(C,H,J,K,L,M,N,O,P,R,S,U,W,X,Y,d5,d6,d7,d8,d9,e0,e1,j4);let z2:=iT a/\ah (eo a)<=100000000/\(∀(b:BL),b∈a.2.2.2.2.2.1->aB b)/\aB a.2.2.2.2.1/\cb 2 (hV j).1;wQ A (D,G,E,x,d,z6)->Bd (d<x) (iN d E/\Br k2 ((0<=D/\D<5)/\((((True/\(D=0->fX j/\(aB k1/\z2)/\∀b,b=pj a 0 k1 (hV j).1 (hV j).2->am (d+1)/\Is (wQ A (0,G,E,x,d+1,C,H,J,K,L,M,N,O,P,R,S,U,W,X,Y,d5,d6,d7,d8,d9,dY Ty.i64 a.1 b.1.1 e0,e1,j4)/\lN B (x-d))))/\(D=1->fX j/\(aB k0/\z2)/\∀b,b=pj a 1 k0 (hV j).1 (hV j).2->am (d+1)/\Is (wQ A (1,G,E,x,d+1,C,H,J,K,L,M,N,O,P,R,S,U,W,X,Y,d5,d6,d7,d8,d9,e0,dY Ty.i64 a.1 b.1.1 e1,j4)/\lN B (x-d))))/\(D=2->fX j/\(aB j9/\z2)/\∀b,b=pj a 2 j9 (hV j).1 (hV j).2->am (d+1)/\Is (wQ A (2,G,E,x,d+1,C,H,J,K,L,M,N,O,P,R,S,U,W,X,Y,d5,d6,d7,d8,d9,e0,e1,dY Ty.i64 a.1 b.1.1 e2,e3,e4,z3)/\lN B (x-d))))/\(D=3->fX j/\(aB j8/\z2)/\∀b,b=pj a 3 j8 (hV j).1 (hV j).2->am (d+1)/\Is (wQ A (3,G,E,x,d+1,C,H,J,K,L,M,N,O,P,R,S,U,W,X,Y,d5,d6,d7,d8,d9,e0,e1,e2,dY Ty.i64 a.1 b.1.1 e3,e4,z3)/\lN B (x-d))))/\(D=4->fX j/\(aB j7/\z2)/\∀b,b=pj a 4 j7 (hV j).1 (hV j).2->am (d+1)/\Is (wQ A (4,G,E,x,d+1,C,H,J,K,L,M,N,O,P,R,S,U,W,X,Y,d5,d6,d7,d8,d9,e0,e1,e2,e3,dY Ty.i64 a.1 b.1.1 e4,z3)/\lN B (x-d)))) (am (d+1)/\Is (wQ A (D,G,E,x,d+1,z6)/\lN B (x-d)))) (Q ⟨0,(G,0,f3),C,H,J,K,L,M,N,O,P,R,S,U,W,X,Y,d5,d6,d7,d8,d9,e0,e1,e2,e3,e4,e5,e6,e7,j,e8,e9,f0,f1,f2,()⟩)) (Q z4)) (Q z4)) (by
 conv=>zeta
 unfold Bd Br WA WB gD iN lN nI RP;intro i b;refine Wd.all λw=>?_;intro Q ⟨⟨W,X,h3,n,s⟩,hQ⟩;have s:cU w (n+1):=s;have M:∀y:(Int×Nw)×Wd,iV w i b y->Q ⟨0,((y.1.1,0,y.1.2),RP y.2)⟩:=λy h=>hQ y h;clear hQ;have Y:b.length<=1099511627776:=ac
 have C:bZ b 0:=⟨Y,ac,ac⟩;have a:∀q<5,b.length<=10000000/\mo (w.cl q)/\(w.cl q).fk.length+2000<=10000000/\cb 10000 w.ts:=λq M=>⟨h3,(s.cl q M).1,by have:=(s.cl q M).2.2;omega,s.ts.mono ac⟩;refine⟨⟨⟨W,X⟩,⟨⟨⟨⟨trivial,λe=>⟨a 0 ac,λr C=>?_⟩⟩,λe=>⟨a 1 ac,λr C=>?_⟩⟩,λe=>⟨a 2 ac,λr C=>?_⟩⟩,λe=>⟨a 3 ac,λr C=>?_⟩⟩,λe=>⟨a 4 ac,λr C=>?_⟩⟩,?_⟩
 all_goals try (subst e;exact⟨rfl,rfl,r,C,rfl,rfl⟩)
 intro j c N;refine Wd.all2 λv=>?_;rintro sn O ⟨rfl,rfl,r,t,e3,P⟩;have P:v=w.aft j.toNat r.2:=P;obtain⟨⟨D,E⟩,rc⟩:=r;have F:N=D:=aI Prod.fst e3;have G:O=E:=aI Prod.snd e3;subst F G;have J:cU v n:=by rw[P];exact wP s ac t
 have fin:∀z,fH c j (N,O) v=z->Q ⟨0,((N,0,O),RP z)⟩:=λz hz=>M ((N,O),z) ⟨_,t,by rw[<-hz,P]⟩;have out:¬(N=0/\O.1=1)->Q ⟨0,((N,0,O),RP v)⟩:=λg=>fin v (ae g);refine⟨λx=>⟨λA=>⟨Y,C,λe he=>⟨⟨rfl,by rw[he],rfl,rfl,_,v,t,rfl,bz x,bz A,P,0,rfl,aq _,v.ky j.toNat,?_,rfl⟩,?_⟩⟩,λA=>out λg=>aL A g.2⟩,λx=>out λg=>aL x g.1⟩
 ·rcases fZ (show j.toNat<5 by omega)with q|q|q|q|q<;>rw[q]<;>rfl
 clear out fin P e3 t J x A;intro K m ms n2 k;refine Wd.all2 λu=>?_;rintro a4 o R ⟨rfl,f0,rfl,rfl,r2,f,p,f3,x,A,S,q,rfl,a5,km,U,B⟩;have U:u=f.setK K.toNat km:=U;have S:f=w.aft K.toNat r2.2:=S;have J:cU f n:=by rw[S];exact wP s ac p
 obtain⟨⟨D,E⟩,a6⟩:=r2;have F:m=D:=aI Prod.fst f3;have G:o=E:=aI Prod.snd f3;subst F G;have hx:=im (IB p x A).1
 have out:∀z,f.setK K.toNat (Nk R K (f.se K.toNat 0) f.ts R.2.2.1 (f.ky K.toNat))=z->Q ⟨0,((m,0,o),RP z)⟩:=λz hz=>M ((m,o),z) ⟨_,p,by
  rw[<-S];show _=((m,o),fH c K (m,o) f);unfold fH;rw[ak ⟨x,A⟩,<-f0,hz]⟩
 rw[<-f0]at hx;clear M f3 a;obtain⟨o1,o2,o3,o4,o5,o6,o7⟩:=hx;have ek:((q:Int).toNat)=q:=ac
 rw[ek];refine⟨λa0=>?_,λa1=>?_⟩
 ·have L:q<R.2.2.1.length:=by simp only[ai]at a0;omega
  have a2:cb 2 (hV f.ts).1:=⟨(IA J.ts.1).1,by have:=(IA J.ts.1).2;have:=J.ts.2;omega⟩;have a3:∀i j,aB (f.se i j):=λi j=>bE (P' J i j) bt;have ht:=J.ts.ok;have a7:R.2.2.1.length<=1000000:=o1.1;have hI:am ((q:Int)+1):=cv
  rw[dv (z:=((0,[],[],()):Mb)) L]at B;simp only[Nk]at B;generalize R.2.2.1.getD q (0,[],[],())=H at*;refine⟨ac,λg=>⟨⟨W,X⟩,⟨⟨⟨⟨trivial,λe=>?_⟩,λe=>?_⟩,λe=>?_⟩,λe=>?_⟩,λe=>?_⟩,λg=>⟨hI,⟨rfl,f0,rfl,rfl,_,f,p,rfl,x,A,S,q+1,rfl,L,km,U,by rw[ae (aL g)]at B;exact B⟩,ac⟩⟩
  all_goals
   rw[ak (bz g)]at B;subst e;subst U;refine⟨ht,⟨a3 _ 0,o1,o3,o6,o7,a2⟩,λb Y=>⟨hI,⟨rfl,f0,rfl,rfl,_,f,p,rfl,x,A,S,q+1,rfl,L,_,rfl,by rw[Y];exact B⟩,ac⟩⟩
 ·have hd:R.2.2.1.drop q=[]:=bu (by simp only[aj]at a1;omega);rw[hd]at B;exact out u (by rw[U,<-B];rfl)) (l:=λ_=>aU λh=>by obtain⟨W,X,_,n,s⟩:=h;exact rA s _ ⟨W,X⟩)
def R6(n i:Int):Bool:=bits .and .i64 (n.fdiv (2^(min i.toNat 64))) 1==1
def oy(n:Int):Int->List Mb->List Mb
 |_,[]=>[]
 |i,m::r=>if R6 n i then m::oy n (i+1) r else oy n (i+1) r
def Bu(n:Int)(was:List Int):Int->List Mb->List Int
 |_,[]=>[]
 |i,_::r=>if R6 n i then Bu n was (i+1) r else(was.filter (·==i)).map (λ_=>i)++Bu n was (i+1) r
def ua:List Bool->List Fk->List Bool
 |g,[]=>g
 |g,x::r=>ua (g.set x.1.toNat true) r
def Wd.su(w:Wd)(d:Int)(z:List Tm×KV):Wd:={w with d:=d,ts:=z.1,m:=z.2}
theorem wR{n:Int}{once key co:BL}(g:aB once)(o:key.length<=64)(i:aB co){k:Nat}:∀(ms:List Mb)(a:List BL)(ts:List Tm)(m:KV),(∀p∈ms,aB p.2.1)->cb (k+3*ms.length) ts->(∀b∈a,b.length<=80)->
 cb k (ob n once key co ms a ts m).2.1/\(∀b∈(ob n once key co ms a ts m).1.1,b.length<=80)/\(ob n once key co ms a ts m).1.1.length<=a.length+ms.length
 |[],a,ts,m,_,e,f=>⟨e.mono ac,f,by show a.length<=_;omega⟩
 |p::r,a,ts,m,l,e,f=>by
  have c:=N4 (k:=k+3*r.length+1) m n p.1 g (l p (aF ..)) (e.mono eM);simp only[ob];split
  ·exact⟨c.2.mono ac,bY,bY⟩
  ·generalize gp n p.1 once p.2.1 ts m=z at*;have s:=seS (n:=1) (j:=k+3*r.length) z.2.2 (show aB z.1.1 by have:=c.1;unfold aB;omega) i (show aB key by unfold aB;omega) c.2
   have:=wR g o i (n:=n) (key:=key) r (a++[(jp z.1.1 1 co key z.2.1 z.2.2).1]) _ (jp z.1.1 1 co key z.2.1 z.2.2).2.2 (λq t=>l q (aD _ t)) s.1 (λb c=>by
    rcases ba.1 c with c|c
    ·exact f b c
    ·simp at c;subst c;omega)
   refine⟨this.1,this.2.1,?_⟩;have h:=this.2.2;rw[aa,bi]at h;rw[bc];omega
theorem R7{lg:Lg}{ms:List Mb}{ns:List Fk}{k:Nat}{m:KV}(A:cK lg.2.1 lg.2.2.1)(t:pi ms)(u:cb (k+40) ts'):
 cb k (lp lg ep sg key ms ns ts' m).2.1/\((lp lg ep sg key ms ns ts' m).1.2=0->wK (lp lg ep sg key ms ns ts' m).1.1/\(gi (lp lg ep sg key ms ns ts' m).1.1).length<=2000000/\pB ms ns=true):=by
 have B:cb k ts':=u.mono ac;unfold lp;rw[bN];split
 ·exact⟨B,λh=>by cases h⟩
 rename_i i;rw[not_or,not_or]at i;have j:ep.length=32:=aA.1 i.1;have l:sg.length=32:=aA.1 i.2.1;have C:key.length=32:=aA.1 i.2.2;have o:=rl (k:=k+39) m u (ja (k:=118) bt bt (show aB ep by unfold aB;omega));dsimp only;generalize cM (118,[ep],()) ts' m=v at*;split
 ·exact⟨o.mono ac,λh=>by cases h⟩
 split
 ·exact⟨o.mono ac,λh=>by cases h⟩
 have w:=rl (k:=k+38) v.2.2 o (ja (k:=112) bt bt (show aB sg by unfold aB;omega));have q:=bE (K3 (112,[sg],()) v.2.1 v.2.2) (Eg (by show(112:BitVec 8)≠98;decide));generalize cM (112,[sg],()) v.2.1 v.2.2=p at*;split
 ·exact⟨w.mono ac,λh=>by cases h⟩
 rename_i y;rw[not_or]at y;have f:pB ms ns=true:=cf y.1
 obtain⟨H,D,J,K,L⟩:=fT f;have r:=mh A lg.2.1.length
 have M:(eo (kq lg ms ns p.1)).length<=1002000:=by
  have:=mg (e:=kq lg ms ns p.1) f;have j:(kq lg ms ns p.1).2.1.length<=1000000:=r;have l:(kq lg ms ns p.1).2.2.2.2.1.length<=64:=q;omega
 unfold JJ;dsimp only;have a:=wR (n:=lg.2.1.length+1) (k:=k+1) (show aB sg by unfold aB;omega) (show key.length<=64 by omega) (show aB (eo (kq lg ms ns p.1))by unfold aB;omega) ms [] p.2.1 p.2.2 (λx E=>by have:=(t x E).1;unfold aB;omega) (w.mono ac) bY;generalize ob (lg.2.1.length+1) sg key (eo (kq lg ms ns p.1)) ms [] p.2.1 p.2.2=z at*;split
 ·exact⟨a.1.mono ac,λh=>absurd h ‹_›⟩
 have s:∀c:BL,(dS (jX lg ms ns p.1 z.1.1 c)).length<=1003000:=by
  intro c;have:=tp (e:=jX lg ms ns p.1 z.1.1 c) f 80 a.2.1;have j:(jX lg ms ns p.1 z.1.1 c).2.1.length<=1000000:=r;have l:(jX lg ms ns p.1 z.1.1 c).2.2.2.2.1.length<=64:=q;have C:(jX lg ms ns p.1 z.1.1 c).2.2.2.2.2.1.length<=5:=by have:=a.2.2;simp at this;exact bE this D
  omega
 have F:=rl (k:=k) z.2.2 a.1 (xp (k:=103) bt bt (show aB ep by unfold aB;omega) (show aB (dS (jX lg ms ns p.1 z.1.1 []))by have:=s [];unfold aB;omega));have N:=bE (K3 (103,[ep,dS (jX lg ms ns p.1 z.1.1 [])],()) z.2.1 z.2.2) (Eg (by show(103:BitVec 8)≠98;decide));generalize cM (103,[ep,dS (jX lg ms ns p.1 z.1.1 [])],()) z.2.1 z.2.2=g at*;refine⟨F,λ_=>⟨⟨⟨?_,?_,?_⟩,?_,?_,?_,t,?_,?_⟩,?_,f⟩⟩
 ·show ms.length<=_;omega
 ·show ns.length<=_;omega
 ·show z.1.1.length<=_;have:=a.2.2;simp at this;omega
 ·have:=s g.1;exact bE this bt
 ·have:=mg (e:=jX lg ms ns p.1 z.1.1 g.1) f;have j:(jX lg ms ns p.1 z.1.1 g.1).2.1.length<=1000000:=r;have l:(jX lg ms ns p.1 z.1.1 g.1).2.2.2.2.1.length<=64:=q;show(eo (jX lg ms ns p.1 z.1.1 g.1)).length<=100000000;omega
 ·show g.1.length<=_;omega
 ·intro b G;have:=a.2.1 b G;unfold aB;omega
 ·show p.1.length<=_;omega
 ·show(dS (jX lg ms ns p.1 z.1.1 g.1)++tx g.1).length<=2000000;have:=s g.1;have O:=eC g.1;rw[aa];omega
def qG(w:Wd):BL×List Tm×KV:=dI (115,[dB (w.d+1)],()) w.ts w.m
def gC(w:Wd):BL×List Tm×KV:=dI (115,[dB (w.d+1+1)],()) (qG w).2.1 (qG w).2.2
def dW(w:Wd)(n:Int)(es:List Fk):(Et×Int)×List Tm×KV:=lp w.lg (w.se 0 1) (qG w).1 (gC w).1 (oy n 0 w.al) es (gC w).2.1 (gC w).2.2
def qH(w:Wd)(n:Int)(es:List Fk):Int×Lg×List Tm×KV:=iu w.lg (dW w n es).1.1 (dW w n es).2.1 (dW w n es).2.2
def Wd.mb(w:Wd)(n:Int)(es:List Fk)(g:List Bool):Wd:={w with d:=w.d+1+1,lg:=(qH w n es).2.1,ts:=(qH w n es).2.2.1,m:=(qH w n es).2.2.2,go:=g}
def uz(w:Wd)(n:Int)(es:List Fk):Prop:=es.map (·.1)=Bu n ((cZ w.lg.2.1 w.lg.2.1.length).map (·.1)) 0 w.al/\(∀e∈es,0<=e.1/\e.1<5)
def ff(w:Wd)(n:Int)(y:(Int×Int)×Wd):Prop:=
 ∃a:List Fk,uz w n a/\
  if(dW w n a).1.2≠0 then y=(((dW w n a).1.2,0),w.su (w.d+1+1) (dW w n a).2)
  else if(qH w n a).1≠0 then y=(((qH w n a).1,0),w.mb n a w.go)
  else∃r,iV (w.mb n a (ua w.go a)) 0 (gi (dW w n a).1.1) r/\y=((0,(r.2.st.length:Int)+1),{r.2 with st:=r.2.st++[gi (dW w n a).1.1],ln:=r.2.ln++[0]})
theorem jE{n:Int}{x:Mb}:∀{i:Int}{l:List Mb},x∈oy n i l->x∈l
 |_,[],h=>by simp[oy]at h
 |i,m::r,h=>by
  simp only[oy]at h;split at h
  ·rcases bm.1 h with h|h
   ·rw[h];exact aF ..
   ·exact aD _ (jE h)
  ·exact aD _ (jE h)
theorem fP(n:Int):eB (115,[dB n],()):=ja bt bt (by unfold aB;rw[eK];omega)
theorem tG{k:Nat}(h:cU v (k+2))(n:Int)(es:List Fk):cb (10000*(k+1)+10100) (dW v n es).2.1/\((dW v n es).1.2=0->wK (dW v n es).1.1/\(gi (dW v n es).1.1).length<=2000000/\pB (oy n 0 v.al) es=true):=by
 have a:=pZ (k:=10000*(k+1)+10141) v.m (h.ts.mono ac) (fP (v.d+1));have b:=pZ (k:=10000*(k+1)+10140) (qG v).2.2 a (fP (v.d+1+1));exact R7 h.lg.1 (λx c=>h.al.2 x (jE c)) b
variable{C:Lg}
theorem a6y(h:∀x∈C.2.1,x.2.2.1.length<=5):∀x∈(iu C e f u).2.1.2.1,x.2.2.1.length<=5:=by
 unfold iu;rw[bN]
 repeat' split
 all_goals try exact h
 rename_i b _ _ _ _ _;have b:iU e=true:=cf b
 intro x a;rcases ba.1 a with a|a
 ·exact h x a
 ·simp at a;subst a;exact(fT (me b).2.2.2.1).2.1
theorem wS{n:Int}{was:List Int}:∀{l:List Mb}{i:Int},0<=i->i+l.length<=5->∀a∈Bu n was i l,0<=a/\a<5
 |[],_,_,_,a,b=>by simp[Bu]at b
 |m::r,i,e,c,a,b=>by
  simp only[bc]at c;simp only[Bu]at b;split at b
  ·exact wS (l:=r) (i:=i+1) ac ac a b
  ·rcases ba.1 b with b|b
   ·obtain⟨_,_,rfl⟩:=fI.1 b;omega
   ·exact wS (l:=r) (i:=i+1) ac ac a b
theorem tH{k:Nat}(h:cU v (k+2)){n:Int}{es:List Fk}(h0:(dW v n es).1.2=0){g:List Bool}(c:g.length=5):cU (v.mb n es g) (k+1):=by
 obtain⟨f,b⟩:=tG h n es;have b:=b h0;have j:=In (e:=(dW v n es).1.1) (ts:=(dW v n es).2.1) (m:=(dW v n es).2.2) h.lg.1 h.lg.2.1 h.lg.2.2;have l:=tkS (lg:=v.lg) (e:=(dW v n es).1.1) (k:=10000*(k+1)+10000) (dW v n es).2.2 b.1.2.1 (f.mono ac);have o:∀i,i<5->(v.mb n es g).cl i=v.cl i:=λi a=>by rcases fZ a with rfl|rfl|rfl|rfl|rfl<;>rfl
 exact⟨λi a=>by rw[o i a];exact⟨(h.cl i a).1,(h.cl i a).2.1,by have:=(h.cl i a).2.2;omega⟩,l,h.sec,h.al,j,a6y h.l5,c,h.st,⟨by show 0<=v.d+1+1;have:=h.dr.1;omega,by show v.d+1+1+_<=_;have:=h.dr.2;omega⟩⟩
theorem rB:∀(g:List Bool)(l:List Fk),(ua g l).length=g.length
 |_,[]=>rfl
 |g,x::r=>by rw[ua,rB,cI]
def pq:Ct:=⟨2,⟨[sP 0,sI 1],nn⟩,[⟨[(0,true,[.d Ij])],JP 33++om 33⟩],λ(n,a)=>fJ (1<=n/\n<=31/\∃k,cU (cS a) (k+2)) (ff (cS a) n) λy=>((y.1.1,y.1.2,kr),cY y.2)⟩
def IE:Option CP:=some (.cells [.d Ij])
def cLi:Option CP:=some (.cells [.d (.ar 5 .i64)])
def T_:cx:=⟨[sP 0,sI 1,(4,false,[.ptr 33 0]),(5,false,[.ptr 34 0]),(29,false,[.d (.sl JF)]),sI 30,sI 31],nn++[IE,cLi]⟩
def wT(x:pq.inp.den)(y:T_.den):Prop:=match x,y with
 |(n,H),(J,v,K,i,L,M,N,O,P,Q,R,S,U,a,b,c,e,f,g,j,l,m,o,p,q,r,s,t,u,w,z,A,B,C,D,E,F,G,_,W,_)=>J=n/\(cS (L,M,N,O,P,Q,R,S,U,a,b,c,e,f,g,j,l,m,o,p,q,r,s,t,u,w,z,A,B,C,D,E,F,G,()))=(cS H)/\(∀h∈v,@aX Int _ 0 h.1/\@nJ Int _ h.1 5)/\K=v.length/\v.length<=5/\W.length=5/\@aX Int _ 0 i
def T':cx:=⟨[sP 0,sI 1,(4,false,[.ptr 33 0]),(5,false,[.ptr 34 0]),sO 8 35,sO 9 36,(10,false,[.d (.sl .i64)]),(46,true,[.d (.ar 5 jf)]),sI 47],nn++[IE,cLi,some (.sl jf),some (.sl iZ)]⟩
def IF(x:pq.inp.den)(y:T'.den):Prop:=match x,y with
 |(n,c),(L,a,b,i,M,N,O,P,Q,R,S,U,W,e,f,g,h,j,l,m,o,p,q,r,s,t,u,v,w,z,A,B,C,D,E,F,G,H,_,X,J,K,_)=>L=n/\(cS (M,N,O,P,Q,R,S,U,W,e,f,g,h,j,l,m,o,p,q,r,s,t,u,v,w,z,A,B,C,D,E,F,G,H,()))=(cS c)/\a=(cZ (cS c).lg.2.1 (cS c).lg.2.1.length).map (·.1)/\b=(cS c).al/\X.length=5/\∃k:Nat,i=k/\k<=5/\J.length<=k/\K.length<=k*a.length/\
  J++oy n k (b.drop k)=oy n 0 b/\K.map (·.1)++Bu n a k (b.drop k)=Bu n a 0 b
def U_:cx:=⟨[sP 0,sI 1,(4,false,[.ptr 33 0]),(5,false,[.ptr 34 0]),sO 8 35,sO 9 36,(10,false,[.d (.sl .i64)]),sI 11,(46,true,[.d (.ar 5 jf)]),sI 47,(60,false,[.d (.sl .i64)]),sI 61,sI 62],nn++[IE,cLi,some (.sl jf),some (.sl iZ)]⟩
def uA(x:pq.inp.den)(O:Int)(y:U_.den):Prop:=match x,y with
 |(n,e),(P,a,id,b,i,c,Q,j,R,S,U,W,X,Y,b7,b8,b9,f,g,h,l,m,o,p,r,s,t,u,v,w,z,A,B,C,D,E,F,G,H,J,K,L,_,li,M,N,_)=>P=n/\(cS (R,S,U,W,X,Y,b7,b8,b9,f,g,h,l,m,o,p,r,s,t,u,v,w,z,A,B,C,D,E,F,G,H,J,K,L,()))=(cS e)/\a=(cZ (cS e).lg.2.1 (cS e).lg.2.1.length).map (·.1)/\b=(cS e).al/\li.length=5/\id=i/\i=O/\c=a/\Q=a.length/\∃k q:Nat,i=k/\k<5/\j=q/\q<=a.length/\R6 n k=false/\M.length<=k/\N.length<=k*a.length+q/\
  M++oy n (k+1) (b.drop (k+1))=oy n 0 b/\N.map (·.1)++((a.drop q).filter (·==i)).map (λ_=>i)++Bu n a (k+1) (b.drop (k+1))=Bu n a 0 b
def U':cx:=⟨[sP 0,(4,false,[.ptr 46 0]),(17,false,[.ptr 47 0]),(129,false,[.d (.sl iZ)]),sI 130,sI 131],JP 33++om 33++[IE,some (.cells [.d tU])]⟩
def zm(x:pq.inp.den)(y:U'.den):Prop:=match x,y with
 |(n,b),(a,K,i,L,M,N,O,P,Q,R,S,U,c,f,h,j,l,m,o,p,q,r,s,t,u,v,w,z,A,B,C,D,E,F,G,H,J,_,e,_)=>uz (cS b) n a/\(dW (cS b) n a).1.2=0/\(qH (cS b) n a).1=0/\e=(dW (cS b) n a).1.1/\K=a.length/\∃(k:Nat)(g:List Bool),i=k/\k<=a.length/\(cS (L,M,N,O,P,Q,R,S,U,c,f,h,j,l,m,o,p,q,r,s,t,u,v,w,z,A,B,C,D,E,F,G,H,J,()))=(cS b).mb n a g/\ua g (a.drop k)=ua (cS b).go a/\g.length=5
def V_(x:pq.inp.den):eH:=⟨[(3,bS T_ (wT x) λ(_,_,a,i,_)=>(a-i).toNat),(11,pW T' (IF x) (λ(_,_,_,i,_)=>(5-i).toNat) λ(_,_,_,i,_)=>[(16,bS U_ (uA x i) λ(_,_,_,_,_,_,a,j,_)=>(a-j).toNat)]),(30,bS U' (zm x) λ(_,a,i,_)=>(a-i).toNat)],[],[],[],0⟩
theorem mw{k:Nat}(h:cU v (k+2))(n:Int):∃y,ff v n y:=by
 obtain⟨b,c⟩:∃b,uz v n b:=by
  refine⟨(Bu n ((cZ v.lg.2.1 v.lg.2.1.length).map (·.1)) 0 v.al).map λa=>(a,0,()),by rw[List.map_map];exact(List.map_congr_left λ_ _=>rfl).trans (List.map_id _),?_⟩;intro e c;obtain⟨a,l,rfl⟩:=fI.1 c;exact wS ac (by rw[h.al.1];omega) a l
 by_cases f:(dW v n b).1.2=0
 ·by_cases j:(qH v n b).1=0
  ·obtain⟨r,m⟩:=rA (tH h f (g:=ua v.go b) (by rw[rB];exact h.go)) (gi (dW v n b).1.1) (i:=0) ac;exact⟨_,b,c,by rw[ae (λg=>g f),ae (λg=>g j)];exact⟨r,m,rfl⟩⟩
  ·exact⟨_,b,c,by rw[ae (λg=>g f),ak j]⟩
 ·exact⟨_,b,c,by rw[ak f]⟩
abbrev Nl(v:(Int×Int×Nw)×TA Unit):cF pq.out:=⟨0,v⟩
def R8:bG:=(37,[pq])::R'
def R9:=kA 37 pq S_ V_ (∀(e:Int),WA λh i j k l m n o p q r s t u v w z a0 a1 a2 a3 a4 a5 a6 a7 a8 a9 f b0 b1 b2 b3 b4 b5=>let x:=(i,j,k,l,m,n,o,p,q,r,s,t,u,v,w,z,a0,a1,a2,a3,a4,a5,a6,a7,a8,a9,f,b0,b1,b2,b3,b4,b5,());∀(Q:cF pq.out->Prop),(Tr.need (1<=e/\e<=31/\∃e,cU (cS (h,x)) (e+2)) (Tr.all ((Int×Int)×Wd) (ff (cS (h,x)) e) λy=>Tr.leaf (Nl ((y.1.1,y.1.2,0,0,0,0,false,false,[],()),cY y.2)))).sat Q->cr f/\Is (wT (e,h,x) (e,uq f 5,nI (uq f 5),0,h,i,j,k,l,m,n,o,p,q,r,s,t,u,v,w,z,a0,a1,a2,a3,a4,a5,a6,a7,a8,a9,f,b0,b1,b2,b3,b4,b5,(0,0,0,0,0,0,false,false,[],()),[0,0,0,0,0],()))/\∀(g7:Int)(b9:List (Int×Int×BL×Unit))(H c:Int),let M:=H-(c+1);let S:=gD b9 c (0,0,[],());WA λg8 g1 g9 h0 h1 h2 h3 h4 h5 h6 h7 h8 h9 i0 i1 i2 i3 i4 i5 i6 i7 i8 i9 j0 j1 N j2 j3 j4 j5 j6 j7 j8 j9=>∀(k0:Int×Int×Nw)(k1:List Int),wT (e,h,x) (g7,b9,H,c,g8,g1,g9,h0,h1,h2,h3,h4,h5,h6,h7,h8,h9,i0,i1,i2,i3,i4,i5,i6,i7,i8,i9,j0,j1,N,j2,j3,j4,j5,j6,j7,j8,j9,k0,k1,())->Bd (c<H) (iN c b9/\Br (S.1==0) (am (c+1)/\Is (wT (e,h,x) (g7,b9,H,c+1,g8,g1,g9,h0,h1,h2,h3,h4,h5,h6,h7,h8,h9,i0,i1,i2,i3,i4,i5,i6,i7,i8,i9,j0,j1,N,j2,j3,j4,j5,j6,j7,j8,j9,k0,k1.set 0 S.2.1,())/\lN M (H-c))) (Br (S.1==1) (am (c+1)/\Is (wT (e,h,x) (g7,b9,H,c+1,g8,g1,g9,h0,h1,h2,h3,h4,h5,h6,h7,h8,h9,i0,i1,i2,i3,i4,i5,i6,i7,i8,i9,j0,j1,N,j2,j3,j4,j5,j6,j7,j8,j9,k0,k1.set 1 S.2.1,())/\lN M (H-c))) (Br (S.1==2) (am (c+1)/\Is (wT (e,h,x) (g7,b9,H,c+1,g8,g1,g9,h0,h1,h2,h3,h4,h5,h6,h7,h8,h9,i0,i1,i2,i3,i4,i5,i6,i7,i8,i9,j0,j1,N,j2,j3,j4,j5,j6,j7,j8,j9,k0,k1.set 2 S.2.1,())/\lN M (H-c))) (Br (S.1==3) (am (c+1)/\Is (wT (e,h,x) (g7,b9,H,c+1,g8,g1,g9,h0,h1,h2,h3,h4,h5,h6,h7,h8,h9,i0,i1,i2,i3,i4,i5,i6,i7,i8,i9,j0,j1,N,j2,j3,j4,j5,j6,j7,j8,j9,k0,k1.set 3 S.2.1,())/\lN M (H-c))) (Br (S.1==4) (am (c+1)/\Is (wT (e,h,x) (g7,b9,H,c+1,g8,g1,g9,h0,h1,h2,h3,h4,h5,h6,h7,h8,h9,i0,i1,i2,i3,i4,i5,i6,i7,i8,i9,j0,j1,N,j2,j3,j4,j5,j6,j7,j8,j9,k0,k1.set 4 S.2.1,())/\lN M (H-c))) (False/\True)))))) (cK N.2.1 N.2.2.1/\Is (IF (e,h,x) (g7,List.map (λe=>e.1) (cZ N.2.1 (nI N.2.1)),g1,0,g8,g1,g9,h0,h1,h2,h3,h4,h5,h6,h7,h8,h9,i0,i1,i2,i3,i4,i5,i6,i7,i8,i9,j0,j1,N,j2,j3,j4,j5,j6,j7,j8,j9,k0,k1,[],[],()))/\∀(n6:Int)(n7:List Int)(n9:List Mb)(A:Int),let z8:=bits BinOp.and ii (n6.fdiv (2^min A.toNat 64)) (1:Int)==1;WA λk2 k5 k6 J n8 k7 k8 k9 l0 l1 l2 l3 l4 l5 l6 l7 l8 l9 m0 m1 m2 m3 m4 m5 m6 L m7 m8 m9 n0 n1 n2 n3 n4=>let o2:=(m8,m9,n0,n1,n2,n3,n4,());let o3:=jV (ag 8 115,[dB (J+1)],()) m7 n8;∀(o0:Int×Int×Nw)(o1:List Int)(k3:List Mb)(k4:List Fk),let z6:=(k2,k5,k6,J,n8,k7,k8,k9,l0,l1,l2,l3,l4,l5,l6,l7,l8,l9,m0,m1,m2,m3,m4,m5,m6,L,m7,m8,m9,n0,n1,n2,n3,n4,o0,o1,k3,k4,());IF (e,h,x) (n6,n7,n9,A,z6)->Bd (A<5) ((0<=A/\A<5)/\decide (0<=A)=true/\Br z8 ((k3.length+1)*56<=mM/\am (A+1)/\Is (IF (e,h,x) (n6,n7,n9,A+1,k2,k5,k6,J,n8,k7,k8,k9,l0,l1,l2,l3,l4,l5,l6,l7,l8,l9,m0,m1,m2,m3,m4,m5,m6,L,m7,m8,m9,n0,n1,n2,n3,n4,o0,o1,k3++[gD n9 A (0,[],[],())],k4,())/\lN (5-(A+1)) (5-A))) (Is (uA (e,h,x) A (n6,n7,A,n9,A,n7,nI n7,0,z6))/\∀(D:Int)(B:List Int)(a:Int)(F:List Mb)(C:Int)(E:List Int)(g d:Int),WA λU W X Y c9 d0 d1 d2 d3 d4 d5 d6 d7 d8 d9 e0 e1 e2 e3 e4 e5 e6 e7 e8 e9 f0 f1 f2 f3 f6 K g2 g3 g4=>∀(g5:Int×Int×Nw)(O:List Int)(g6:List Mb)(f9:List Fk),let P:=f9.length+1;let z3:=(U,W,X,Y,c9,d0,d1,d2,d3,d4,d5,d6,d7,d8,d9,e0,e1,e2,e3,e4,e5,e6,e7,e8,e9,f0,f1,f2,f3,f6,K,g2,g3,g4,g5,O,g6,f9,());uA (e,h,x) A (D,B,a,F,C,E,g,d,z3)->Bd (d<g) (iN d E/\Br (gD E d 0==a) (Br (a==0) (P*16<=mM/\am (d+1)/\Is (uA (e,h,x) A (D,B,a,F,C,E,g,d+1,U,W,X,Y,c9,d0,d1,d2,d3,d4,d5,d6,d7,d8,d9,e0,e1,e2,e3,e4,e5,e6,e7,e8,e9,f0,f1,f2,f3,f6,K,g2,g3,g4,g5,O,g6,f9++[(a,O.getD 0 0,())],())/\lN (g-(d+1)) (g-d))) (Br (a==1) (P*16<=mM/\am (d+1)/\Is (uA (e,h,x) A (D,B,a,F,C,E,g,d+1,U,W,X,Y,c9,d0,d1,d2,d3,d4,d5,d6,d7,d8,d9,e0,e1,e2,e3,e4,e5,e6,e7,e8,e9,f0,f1,f2,f3,f6,K,g2,g3,g4,g5,O,g6,f9++[(a,O.getD 1 0,())],())/\lN (g-(d+1)) (g-d))) (Br (a==2) (P*16<=mM/\am (d+1)/\Is (uA (e,h,x) A (D,B,a,F,C,E,g,d+1,U,W,X,Y,c9,d0,d1,d2,d3,d4,d5,d6,d7,d8,d9,e0,e1,e2,e3,e4,e5,e6,e7,e8,e9,f0,f1,f2,f3,f6,K,g2,g3,g4,g5,O,g6,f9++[(a,O.getD 2 0,())],())/\lN (g-(d+1)) (g-d))) (Br (a==3) (P*16<=mM/\am (d+1)/\Is (uA (e,h,x) A (D,B,a,F,C,E,g,d+1,U,W,X,Y,c9,d0,d1,d2,d3,d4,d5,d6,d7,d8,d9,e0,e1,e2,e3,e4,e5,e6,e7,e8,e9,f0,f1,f2,f3,f6,K,g2,g3,g4,g5,O,g6,f9++[(a,O.getD 3 0,())],())/\lN (g-(d+1)) (g-d))) (Br (a==4) (P*16<=mM/\am (d+1)/\Is (uA (e,h,x) A (D,B,a,F,C,E,g,d+1,U,W,X,Y,c9,d0,d1,d2,d3,d4,d5,d6,d7,d8,d9,e0,e1,e2,e3,e4,e5,e6,e7,e8,e9,f0,f1,f2,f3,f6,K,g2,g3,g4,g5,O,g6,f9++[(a,O.getD 4 0,())],())/\lN (g-(d+1)) (g-d))) (False/\True)))))) (am (d+1)/\Is (uA (e,h,x) A (D,B,a,F,C,E,g,d+1,z3)/\lN (g-(d+1)) (g-d)))) (am (C+1)/\Is (IF (e,h,x) (D,B,F,C+1,z3)/\lN (5-(C+1)) (5-A))))) ((m7.length<=4294967296/\0<=J/\J<=4294967296)/\∀b,let z9:=jV (ag 8 115,[dB (J+1+1)],()) b.2.1 b.2.2;b=(jH (ag 8 115,[dB (J+1)],()) o3.1,o3.2)->(b.2.1.length<=4294967296/\0<=J+1/\J+(1:Int)<=4294967296)/\∀n5,n5=(jH (ag 8 115,[dB (J+1+1)],()) z9.1,z9.2)->(k3.length<=1000000/\k4.length<=1000000/\pi k3/\cK L.2.1 L.2.2.1/\ah L.2.1<=100000/\cb 40 n5.2.1)/\∀G,G=lp L ((k2.getD 0 (ax 2 [])).getD 1 []) b.1 n5.1 k3 k4 n5.2.1 n5.2.2->Br (!G.1.2==0) (Q ⟨0,(G.1.2,0,0,0,0,0,false,false,[],()),k2,k5,k6,J+1+1,G.2.2,k7,k8,k9,l0,l1,l2,l3,l4,l5,l6,l7,l8,l9,m0,m1,m2,m3,m4,m5,m6,L,G.2.1,o2⟩) ((aB L.1/\iT G.1.1/\ah (dS G.1.1)<=100000000/\aB G.1.1.2.2.2.2.2.2.1/\pi G.1.1.2.2.1/\cK L.2.1 L.2.2.1/\ah L.2.1<=100000/\cb 1 G.2.1)/\∀b,b=iu L G.1.1 G.2.1 G.2.2->Br (!b.1==0) (Q ⟨0,(b.1,0,0,0,0,0,false,false,[],()),k2,k5,k6,J+1+1,b.2.2.2,k7,k8,k9,l0,l1,l2,l3,l4,l5,l6,l7,l8,l9,m0,m1,m2,m3,m4,m5,m6,b.2.1,b.2.2.1,o2⟩) (Is (zm (e,h,x) (k4,nI k4,0,k2,k5,k6,J+1+1,b.2.2.2,k7,k8,k9,l0,l1,l2,l3,l4,l5,l6,l7,l8,l9,m0,m1,m2,m3,m4,m5,m6,b.2.1,b.2.2.1,m8,m9,n0,n1,n2,n3,n4,o0,G.1.1,()))/\∀(D:List Fk)(B a:Int),let R:=B-(a+1);let z5:=gD D a (0,0,());WA λF C E g d U W X Y c9 d0 d1 d2 d3 d4 d5 d6 d7 d8 d9 e0 e1 e2 e3 e4 e5 e6 e7 e8 e9 f0 f1 f2 f3=>let z7:=cS (F,C,E,g,d,U,W,X,Y,c9,d0,d1,d2,d3,d4,d5,d6,d7,d8,d9,e0,e1,e2,e3,e4,e5,e6,e7,e8,e9,f0,f1,f2,f3,());∀(f6:Int×Int×Nw)(K:Et),let z2:=(g,d,U,W,X,Y,c9,d0,d1,d2,d3,d4,d5,d6,d7,d8,d9,e0,e1,e2,e3,e4,e5,e6,e7,e8,e9,f0,f1,f2,f3,f6,K,());zm (e,h,x) (D,B,a,F,C,E,z2)->Bd (a<B) (iN a D/\Br (z5.1==0) (am (a+1)/\Is (zm (e,h,x) (D,B,a+1,F,C,E.set ((36-10-15-1-1-1-1-1-1-1-1-1-1-1)/1) true,z2)/\lN R (B-a))) (Br (z5.1==1) (am (a+1)/\Is (zm (e,h,x) (D,B,a+1,F,C,E.set ((37-10-15-1-1-1-1-1-1-1-1-1-1-1)/1) true,z2)/\lN R (B-a))) (Br (z5.1==2) (am (a+1)/\Is (zm (e,h,x) (D,B,a+1,F,C,E.set ((38-10-15-1-1-1-1-1-1-1-1-1-1-1)/1) true,z2)/\lN R (B-a))) (Br (z5.1==3) (am (a+1)/\Is (zm (e,h,x) (D,B,a+1,F,C,E.set ((39-10-15-1-1-1-1-1-1-1-1-1-1-1)/1) true,z2)/\lN R (B-a))) (Br (z5.1==4) (am (a+1)/\Is (zm (e,h,x) (D,B,a+1,F,C,E.set ((40-10-15-1-1-1-1-1-1-1-1-1-1-1)/1) true,z2)/\lN R (B-a))) (False/\True)))))) ((0+ah (gi K)<=1000000000/\iT K)/\((0:Int)<=0/\(0:Int)<5/\ah (gi K)<=10000000/\∃e,cU z7 (e+1))/\∀(b:(Int×Nw)×Wd),iV z7 0 (gi K) b->(b.2.st.length<=1000000/\b.2.ln.length<=1000000)/\Q ⟨0,(0,nI b.2.st+1,0,0,0,0,false,false,[],()),b.2.sec,b.2.al,b.2.go,b.2.d,b.2.m,(b.2.c0.c,b.2.c0.se,b.2.c0.sg,b.2.c0.lg,()),(b.2.c0.pg,b.2.c0.la,b.2.c0.fk,()),b.2.c0.km,(b.2.c1.c,b.2.c1.se,b.2.c1.sg,b.2.c1.lg,()),(b.2.c1.pg,b.2.c1.la,b.2.c1.fk,()),b.2.c1.km,(b.2.c2.c,b.2.c2.se,b.2.c2.sg,b.2.c2.lg,()),(b.2.c2.pg,b.2.c2.la,b.2.c2.fk,()),b.2.c2.km,(b.2.c3.c,b.2.c3.se,b.2.c3.sg,b.2.c3.lg,()),(b.2.c3.pg,b.2.c3.la,b.2.c3.fk,()),b.2.c3.km,(b.2.c4.c,b.2.c4.se,b.2.c4.sg,b.2.c4.lg,()),(b.2.c4.pg,b.2.c4.la,b.2.c4.fk,()),b.2.c4.km,b.2.k0,b.2.k1,b.2.k2,b.2.k3,b.2.k4,b.2.lg,b.2.ts,b.2.c0.bk,b.2.c1.bk,b.2.c2.bk,b.2.c3.bk,b.2.c4.bk,b.2.st++[gi K],b.2.ln++[0],()⟩)))))) (by
 conv=>zeta
 unfold Bd Br WA gD iN lN mM nI cY;intro n;refine Wd.all λw=>?_;intro Q ⟨⟨h1,h2,k,B⟩,hQ⟩;have B:cU w (k+2):=B;have hq:∀y:(Int×Int)×Wd,ff w n y->Q ⟨0,((y.1.1,y.1.2,kr),cY y.2)⟩:=λy h=>hQ y h;clear hQ;have O:=(B.cl 0 ac).1.2.2.2.2.2.1;have hv:=HQ O
 have a5:∀h∈uq w.c0.bk 5,0<=h.1/\h.1<5:=by
  intro h hh;unfold uq at hh;obtain⟨a,ha,e⟩:=List.mem_filterMap.1 hh;have ha:a<5:=cf ha
  split at e
  ·simp only[Option.some.injEq]at e;subst e;unfold fe;rw[ae ac];dsimp only;omega
  ·simp at e
 refine⟨O,⟨rfl,rfl,a5,rfl,hv.1,rfl,ac⟩,?_⟩;intro n1 v ln i;refine Wd.all λf=>?_;rintro sn li ⟨rfl,e1,e2,rfl,e3,e4,e5⟩;have e1:f=w:=e1;subst e1;refine⟨λF=>?_,λE=>?_⟩
 ·have hi:i.toNat<v.length:=by simp only[ai]at F;omega
  have hm:=e2 _ (aV (z:=((0,0,[],()):Hd)) hi);generalize v.getD i.toNat (0,0,[],())=H at*;have hI:am (i+1):=cv
  have M:∀(q:Nat)(x:Int),am (i+1)/\Is (wT (n1,cY f) (n1,v,(v.length:Int),i+1,f.sec,f.al,f.go,f.d,f.m,(cA f.c0),(qT f.c0),f.c0.km,(cA f.c1),(qT f.c1),f.c1.km,(cA f.c2),(qT f.c2),f.c2.km,(cA f.c3),(qT f.c3),f.c3.km,(cA f.c4),(qT f.c4),f.c4.km,f.k0,f.k1,f.k2,f.k3,f.k4,f.lg,f.ts,f.c0.bk,f.c1.bk,f.c2.bk,f.c3.bk,f.c4.bk,f.st,f.ln,sn,li.set q x,())/\((v.length:Int)-(i+1)).toNat<((v.length:Int)-i).toNat):=λq x=>⟨hI,⟨rfl,rfl,e2,rfl,e3,by rw[cI];exact e4,ac⟩,ac⟩;refine⟨ac,λ_=>M 0 _,λg0=>⟨λ_=>M 1 _,λg1=>⟨λ_=>M 2 _,λg2=>⟨λ_=>M 3 _,λg3=>⟨λ_=>M 4 _,λg4=>?_⟩⟩⟩⟩⟩;exfalso;simp only[aC,ne_eq]at g0 g1 g2 g3 g4;omega
 clear E e5 hv a5 e2 e3;have P:=B.al
 have a0:((cZ f.lg.2.1 f.lg.2.1.length).map (·.1)).length<=5:=by
  rw[cG];unfold cZ;split
  ·simp
  ·exact B.l5 _ (aV ac)
 refine⟨B.lg.1,⟨rfl,rfl,rfl,rfl,e4,0,rfl,ac,aq _,aq _,rfl,rfl⟩,?_⟩;intro C D al i2;refine Wd.all λp=>?_;rintro c6 c7 ms K ⟨rfl,e6,X,Y,e9,q,rfl,c8,hm,he,A,s⟩;have e6:p=f:=e6;subst e6;have Y:al=p.al:=Y;have X:D=(cZ p.lg.2.1 p.lg.2.1.length).map (·.1):=X;rw[<-X]at a0;rw[<-Y]at P;refine⟨λF=>?_,λE=>?_⟩
 ·have hk:q<5:=by simp only[ai]at F;omega
  have b2:decide (0<=(q:Int))=true:=decide_eq_true ac;have hI:am ((q:Int)+1):=cv
  have hL:q*D.length<=5*D.length:=Nat.mul_le_mul_right _ ac;have hS:(q+1)*D.length=q*D.length+D.length:=Nat.succ_mul _ _;rw[dv (z:=((0,[],[],()):Mb)) (show q<al.length by rw[P.1];exact hk)]at A s;simp only[oy,Bu]at A s;rw[show((q:Int).toNat)=q by omega];refine⟨⟨ac,ac⟩,b2,λg=>?_,λg=>⟨?_,?_⟩⟩
  ·have g:R6 C q=true:=by unfold R6;rw[show((q:Int).toNat)=q by omega];exact g
   rw[ak g]at A s;exact⟨ac,hI,⟨rfl,rfl,X,Y,e9,q+1,rfl,ac,by rw[aa,bi];omega,ac,by rw[ay];exact A,s⟩,ac⟩
  ·have g:R6 C q=false:=by unfold R6;rw[show((q:Int).toNat)=q by omega];exact g
   rw[ae (by rw[g];decide)]at A s;exact⟨rfl,rfl,X,Y,e9,rfl,rfl,rfl,rfl,q,0,rfl,hk,rfl,aq _,g,hm,he,A,by rw[ay];exact s⟩
  ·clear A s he hm g;intro n3 c5 id b3 i3 u c9 j;refine Wd.all λo=>?_;rintro b4 b5 b6 a6 ⟨rfl,a1,R,a2,a3,rfl,b7,rfl,rfl,S,r,a7,a8,rfl,hr,g,hm,he,A,s⟩;have a1:o=p:=a1;subst a1;have b8:S=q:=by have:(S:Int)=q:=a7.symm.trans b7;omega
   subst b8;subst a7;have ew:u=D:=R.trans X.symm;rw[<-ew]at a0 hL hS;rw[show((r:Int).toNat)=r by omega];refine⟨λF=>?_,λE=>?_⟩
   ·have G:r<u.length:=by simp only[ai]at F;omega
    have U:am ((r:Int)+1):=cv
    rw[dv (z:=(0:Int)) G,List.filter_cons]at s;refine⟨ac,λc=>?_,λc=>?_⟩
    ·rw[ak c,aY]at s
     have M:∀x:Int,(a6.length+1)*16<=140737488355328/\am ((r:Int)+1)/\Is (uA (n3,cY o) (S:Int) (n3,u,(S:Int),b3,(S:Int),u,(u.length:Int),(r:Int)+1,o.sec,o.al,o.go,o.d,o.m,(cA o.c0),(qT o.c0),o.c0.km,(cA o.c1),(qT o.c1),o.c1.km,(cA o.c2),(qT o.c2),o.c2.km,(cA o.c3),(qT o.c3),o.c3.km,(cA o.c4),(qT o.c4),o.c4.km,o.k0,o.k1,o.k2,o.k3,o.k4,o.lg,o.ts,o.c0.bk,o.c1.bk,o.c2.bk,o.c3.bk,o.c4.bk,o.st,o.ln,b4,b5,b6,a6++[((S:Int),x,())],())/\((u.length:Int)-((r:Int)+1)).toNat<((u.length:Int)-(r:Int)).toNat):=λx=>
      ⟨ac,U,⟨rfl,rfl,R,a2,a3,rfl,rfl,rfl,rfl,S,r+1,rfl,a8,rfl,G,g,hm,by rw[aa,bi];omega,A,by rw[dL,ay,ay];rw[ay]at s;exact s⟩,ac⟩
     refine⟨λ_=>M _,λg0=>⟨λ_=>M _,λg1=>⟨λ_=>M _,λg2=>⟨λ_=>M _,λg3=>⟨λ_=>M _,λg4=>?_⟩⟩⟩⟩⟩;exfalso;simp only[aC,ne_eq]at g0 g1 g2 g3 g4;omega
    ·rw[ae (by rw[c];decide)]at s;exact⟨U,⟨rfl,rfl,R,a2,a3,rfl,rfl,rfl,rfl,S,r+1,rfl,a8,rfl,G,g,hm,ac,A,s⟩,ac⟩
   ·have hd:u.drop r=[]:=bu (by simp only[aj]at E;omega);rw[hd,List.filter_nil,List.map_nil,aH]at s;exact⟨hI,⟨rfl,rfl,R,a2,a3,S+1,rfl,ac,ac,ac,A,s⟩,ac⟩
 ·have a9:q=5:=by simp only[aj]at E;omega
  subst a9;have hd:al.drop 5=[]:=bu (by rw[P.1];omega);rw[hd]at A s;have A:ms=oy C 0 p.al:=by rw[<-Y,<-A];simp[oy]
  have s:K.map (·.1)=Bu C D 0 p.al:=by rw[<-Y,<-s];simp[Bu]
  have hg:uz p C K:=⟨by rw[s,X],λe he=>wS (l:=p.al) (i:=0) (was:=D) (n:=C) ac (by rw[<-Y,P.1];omega) e.1 (by rw[<-s];exact fV he)⟩;have b9:K.length<=25:=ac
  clear E hd a0 he e4 e9;have s1:=pZ (k:=10000*(k+1)+10141) p.m (B.ts.mono ac) (fP (p.d+1));have s2:=pZ (k:=10000*(k+1)+10140) (qG p).2.2 s1 (fP (p.d+1+1));have b0:=B.dr;refine⟨⟨B.ts.le,b0.1,ac⟩,λb O=>?_⟩;have O:b=qG p:=O;subst O;refine⟨⟨s1.le,ac,ac⟩,λb O=>?_⟩;have O:b=gC p:=O;subst O;refine⟨⟨ac,ac,by rw[A];exact λx hx=>B.al.2 x (jE hx),B.lg.1,B.lg.2.1,s2.mono ac⟩,λz hz=>?_⟩;have hz:z=dW p C K:=by rw[A]at hz;exact hz
  subst hz;have W:=tG B C K;refine⟨λe=>hq (((dW p C K).1.2,0),p.su (p.d+1+1) (dW p C K).2) ⟨K,hg,by rw[ak (lf e)]⟩,λe=>?_⟩;have N:=aA.1 (nl e);have b1:=W.2 N;obtain⟨o1,o2,o3,o4,o5,o6,o7⟩:=b1.1;refine⟨⟨B.lg.2.2,o1,o2,o4,o5,B.lg.1,B.lg.2.1,W.1.mono ac⟩,λt ht=>?_⟩;have ht:t=qH p C K:=ht;subst ht;refine⟨λe=>hq (((qH p C K).1,0),p.mb C K p.go) ⟨K,hg,by rw[ae (λq=>q N),ak (lf e)]⟩,λe=>?_⟩;have J:=aA.1 (nl e);refine⟨⟨hg,N,J,rfl,rfl,0,p.go,rfl,aq _,rfl,rfl,B.go⟩,?_⟩;clear hg s1 s2 W b1 o1 o2 o3 o4 o5 o6 o7 A s e X b9 N J b0;intro L d0 i4;refine Wd.all λw4=>?_;rintro d1 e4 ⟨hg,N,J,A,rfl,r,g,rfl,hr,s,f3,f4⟩;have s:w4=p.mb C L g:=s;have N:(dW p C L).1.2=0:=N;have J:(qH p C L).1=0:=J;have A:e4=(dW p C L).1.1:=A;have W:=(tG B C L).2 N;rw[<-A]at W;rw[show((r:Int).toNat)=r by omega];have d2:L.length<=1000000:=by have:=(fT W.2.2).2.2.1;omega
  refine⟨λF=>?_,λE=>?_⟩
  ·have G:r<L.length:=by simp only[ai]at F;omega
   have U:am ((r:Int)+1):=cv
   have hm:=hg.2 _ (aV (z:=((0,0,()):Fk)) G);rw[dv (z:=((0,0,()):Fk)) G]at f3;simp only[ua]at f3;generalize L.getD r (0,0,())=H at*;refine⟨ac,λc=>?_,λg0=>⟨λc=>?_,λg1=>⟨λc=>?_,λg2=>⟨λc=>?_,λg3=>⟨λc=>?_,λg4=>?_⟩⟩⟩⟩⟩
   case refine_6=>exfalso;simp only[aC,ne_eq]at g0 g1 g2 g3 g4;omega
   all_goals
    rw[bz c]at f3;subst s;exact⟨U,⟨hg,N,J,A,rfl,r+1,_,rfl,G,rfl,f3,by rw[cI];exact f4⟩,ac⟩
  ·have hd:L.drop r=[]:=bu (by simp only[aj]at E;omega);rw[hd]at f3;have f3:g=ua p.go L:=f3;subst f3;have hw:=tH B (n:=C) (es:=L) N f4;rw[<-s]at hw;refine⟨⟨by have:=W.2.1;omega,W.1.1⟩,⟨ac,ac,by have:=W.2.1;omega,k,hw⟩,λy hy=>?_⟩;have hy:iV w4 0 (gi e4) y:=hy;have a4:=gB hw ac hy;refine⟨⟨by have:=a4.st.1;omega,by have:=a4.st.1;have:=a4.st.2.1;omega⟩,?_⟩
   have:=hq ((0,(y.2.st.length:Int)+1),{y.2 with st:=y.2.st++[gi e4],ln:=y.2.ln++[0]}) ⟨L,hg,by
    rw[ae (λq=>q N),ae (λq=>q J),<-A,<-s];exact⟨y,hy,rfl⟩⟩
   exact this) (l:=λ_=>aU λh=>by obtain⟨_,_,k,h⟩:=h;exact mw h _)
abbrev Bv:Ty:= .pr .i64 (.pr .i64 (.pr .i64 (.pr .i64 (.pr .i64 (.pr .i64 (.pr .st TK))))))
abbrev jt:=Bv.den
def zS:jt:=(0,0,0,0,0,0,[],0,0,0,0,[],[],[],())
def V'(i:Nat):Nat×Bool×List IP:=(i,true,[.d Bv])
def Wd.keep(w:Wd)(b:BL)(n:Int):Wd:={w with st:=w.st++[b],ln:=w.ln++[n]}
abbrev zn:=(Int×Int)×Wd
def ub(w:Wd)(b:BL)(n:Int):zn:=((0,(w.st.length:Int)+1),w.keep b n)
def tI(w:Wd)(s:jt):zn:=
 if s.2.2.2.1<1\/w.st.length<s.2.2.2.1\/400<=w.st.length\/s.2.2.1<0\/((w.st.getD (s.2.2.2.1-1).toNat []).length:Int)<=s.2.2.1 then((26,0),w)
 else if s.1=9 then ub w ((w.st.getD (s.2.2.2.1-1).toNat []).take s.2.2.1.toNat) 0
 else ub w ((w.st.getD (s.2.2.2.1-1).toNat []).set s.2.2.1.toNat ((w.st.getD (s.2.2.2.1-1).toNat []).getD s.2.2.1.toNat 0^^^bf 8 s.2.2.2.2.2.1)) 0
def IG:Ct:=⟨2,⟨[sP 0,V' 1],nn⟩,[⟨[(0,true,[.d Ij])],JP 33++om 33⟩],λ(s,E,F,G,H,J,K,L,M,N,e,f,g,h,i,j,l,m,n,o,p,q,r,t,u,v,w,x,z,A,B,C,D,a,c,_)=>dZ (a.length<=1000/\c.length<=1000/\∀b∈a,b.length<=2000000) (tI (cS (E,F,G,H,J,K,L,M,N,e,f,g,h,i,j,l,m,n,o,p,q,r,t,u,v,w,x,z,A,B,C,D,a,c,())) s) λy=>((y.1.1,y.1.2,kr),cY y.2)⟩
abbrev IH(v:(Int×Int×Nw)×TA Unit):cF IG.out:=⟨0,v⟩
def II:bG:=(42,[IG])::R8
def IJ:=kA 42 IG R9 (cQ IG 0) (∀(a:Int×Int×Int×Int×Int×Int×BL×Lt),let E:=rC a.2.2.1;let B:=a.2.2.2.1-1;WA λe f g h i j k l m n o p q r s t u v w z F G H J K L M N O P R S c d=>let U:=c.length<=1000000/\d.length<=1000000;let A:=400<=c.length;let W:=(f,g,h,i,j,k,l,m,n,o,p,q,r,s,t,u,v,w,z,F,G,H,J,K,L,M,N,O,P,R,S,c,d,());let x:=gD c B [];let C:= !decide (1<=a.2.2.2.1/\a.2.2.2.1<=nI c);let D:=IH ((26,0,0,0,0,0,false,false,[],()),e,W);∀(Q:cF IG.out->Prop),(Tr.need (c.length<=1000/\d.length<=1000/\∀(b:BL),b∈c->b.length<=2000000) (Tr.all zn (λy=>y=tI (cS (e,W)) a) λy=>Tr.leaf (IH ((y.1.1,y.1.2,0,0,0,0,false,false,[],()),cY y.2)))).sat Q->True/\Br C (C=true/\C=true/\Q D) (C=false/\True/\C=false/\Br (decide A) (decide A=true/\decide A=true/\decide A=true/\Q D) (decide A=false/\decide A=false/\decide A=false/\Bd (a.2.2.1<0) (rTa (a.2.2.1<0) (oX (a.2.2.1<0) (decide (a.2.2.1<0)=true/\Q D))) (rh (a.2.2.1<0) (am B/\decide (a.2.2.1<0)=false/\iN B c/\tT (a.2.2.1<0) (Bd (nI x<=a.2.2.1) (Q D) (am B/\iN B c/\(0+x.length)*1<=mM/\Br (a.1==9) (((0:Int)<=0/\0<=a.2.2.1/\a.2.2.1=a.2.2.1/\a.2.2.1<=nI x)/\U/\Q ⟨0,(0,nI c+1,0,0,0,0,false,false,[],()),e,f,g,h,i,j,k,l,m,n,o,p,q,r,s,t,u,v,w,z,F,G,H,J,K,L,M,N,O,P,R,S,c++[de E x],d++[0],()⟩) (iN a.2.2.1 x/\iN a.2.2.1 x/\U/\Q ⟨0,(0,nI c+1,0,0,0,0,false,false,[],()),e,f,g,h,i,j,k,l,m,n,o,p,q,r,s,t,u,v,w,z,F,G,H,J,K,L,M,N,O,P,R,S,c++[x.set E (x.getD E (ag 8 0)^^^bf 8 a.2.2.2.2.2.1)],d++[0],()⟩)))))))) (by
 conv=>zeta
 unfold Bd Br WA gD iN mM nI cY rh rTa tT oX zL mP;intro s;refine Wd.all λw=>?_;intro Q ⟨⟨r,t,p⟩,m⟩;have c:∀y:zn,tI w s=y->Q ⟨0,((y.1.1,y.1.2,kr),cY y.2)⟩:=λy e=>m y e.symm;clear m;unfold tI at c;have bad:(s.2.2.2.1<1\/(w.st.length:Int)<s.2.2.2.1\/400<=w.st.length\/s.2.2.1<0\/((w.st.getD (s.2.2.2.1-1).toNat []).length:Int)<=s.2.2.1)->Q ⟨0,((26,0,kr),cY w)⟩:=λh=>c ((26,0),w) (ak h);refine⟨trivial,λe=>⟨e,e,bad ?_⟩,λe=>⟨e,trivial,e,λb=>⟨b,b,b,bad (.inr (.inr (.inl (af b))))⟩,λb=>⟨b,b,b,λa=>⟨a,a,a,a,a,a,a,a,a,a,a,a,a,bad (.inr (.inr (.inr (.inl (af a)))))⟩,λa=>?_⟩⟩⟩
 ·have e:¬(1<=s.2.2.2.1/\s.2.2.2.1<=(w.st.length:Int)):=λh=>by rw[decide_eq_true h]at e;cases e
  rcases Decidable.em (s.2.2.2.1<1)with g|g
  ·exact .inl g
  ·exact .inr (.inl ac)
 ·have e:1<=s.2.2.2.1/\s.2.2.2.1<=(w.st.length:Int):=by
   cases h:decide (1<=s.2.2.2.1/\s.2.2.2.1<=(w.st.length:Int))with
   |true=>exact af h
   |false=>rw[h]at e;cases e
  have i:=ap b;have q:=ap a;have n:am (s.2.2.2.1-1):=cv
  have o:0<=s.2.2.2.1-1/\s.2.2.2.1-1<(w.st.length:Int):=ac
  have u:=p _ (aV (z:=([]:BL)) (show(s.2.2.2.1-1).toNat<w.st.length by omega));refine⟨a,a,a,a,a,a,a,a,n,a,o,a,a,a,a,λf=>bad (.inr (.inr (.inr (.inr (af f))))),λf=>?_⟩;have f:=ap f
  have no:¬(s.2.2.2.1<1\/(w.st.length:Int)<s.2.2.2.1\/400<=w.st.length\/s.2.2.1<0\/((w.st.getD (s.2.2.2.1-1).toNat []).length:Int)<=s.2.2.1):=by
   rintro(g|g|g|g|g)
   ·omega
   ·omega
   ·exact i g
   ·omega
   ·omega
  rw[ae no]at c;refine⟨n,o,ac,λj=>⟨⟨ac,ac,rfl,ac⟩,⟨ac,ac⟩,c _ (ak (bz j))⟩,λj=>⟨⟨ac,ac⟩,⟨ac,ac⟩,⟨ac,ac⟩,c _ (ae (aL j))⟩⟩) (l:=λ_=>bA)
theorem Sa(a:bZ b 0):jZ (pl b true (0,0)).1:=by
 have c:jZ (JK b true (0,0)).1:=
  ⟨bE (ow true _ 64 (fx true _ 1 1048576 (fx true _ 1 65536 (fx true _ 0 4 (fx true 0 2 4 a).1).1).1).1).2.2 bt,
   bE (ow true _ 4112 (ow true _ 64 (fx true _ 1 1048576 (fx true _ 1 65536 (fx true _ 0 4 (fx true 0 2 4 a).1).1).1).1).1).2.2 bt,
   bE (ow true _ 64 (ow true _ 4112 (ow true _ 64 (fx true _ 1 1048576 (fx true _ 1 65536 (fx true _ 0 4 (fx true 0 2 4 a).1).1).1).1).1).1).2.2 bt⟩
 unfold pl;rw[bN];dsimp only;generalize JK b true (0,0)=z at*;rcases Decidable.em ((if true=true then(if jY z.1=true then z.2.2 else if(true&&z.2.2==0)=true then 5 else z.2.2)else 5)=0)with g|g
 ·rw[ak g];exact c
 ·rw[ae g];exact⟨aq _,aq _,aq _⟩
def Dd(w:Wd)(i:Nat)(b:BL):Int:=((tq ((aO .i64 (pl b true (0,0)).1.2.2.1 (w.ky i)).getD []) (pl b true (0,0)).1 (hV w.ts).1 (hV w.ts).2).1.1.length:Int)
def Bw:Ct:=⟨3,⟨[sP 0,sI 1,sB 2],nn⟩,[⟨[sI 0],nn⟩],λ(i,b,E,F,G,H,J,K,L,M,N,c,e,f,g,h,j,l,m,n,o,p,q,r,s,t,u,v,a,w,x,z,A,B,C,D,_)=>dZ (0<=i/\i<5/\b.length<=1000000/\cb 10 a) (Dd (cS (E,F,G,H,J,K,L,M,N,c,e,f,g,h,j,l,m,n,o,p,q,r,s,t,u,v,a,w,x,z,A,B,C,D,())) i.toNat b) λy=>(y,E,F,G,H,J,K,L,M,N,c,e,f,g,h,j,l,m,n,o,p,q,r,s,t,u,v,a,w,x,z,A,B,C,D,())⟩
abbrev qf(v:Int×TA Unit):cF Bw.out:=⟨0,v⟩
theorem Sb:il Tryz.prog II 79 Bw λ_=>⟨[],[],[],[(2,1,5)],0⟩:=by
 have e:(il Tryz.prog II 79 Bw λ_=>⟨[],[],[],[(2,1,5)],0⟩)=
  (∀(x:Int)(X:BL)(M:List (List BL))(N:List Mb)(O:List Bool)(P:Int)(R:KV)(S:Int×BL×BL×Lg×Unit)(U:Pg×La×List Fk×Unit)(W:KM)(n:Int×BL×BL×Lg×Unit)(o:Pg×La×List Fk×Unit)(p:KM)(q:Int×BL×BL×Lg×Unit)(r:Pg×La×List Fk×Unit)(s:KM)(t:Int×BL×BL×Lg×Unit)(u:Pg×La×List Fk×Unit)(v:KM)(A:Int×BL×BL×Lg×Unit)(B:Pg×La×List Fk×Unit)(C f g h j m:KM)(D:Lg)(a:List Tm)(E F G H J:Ln)(K:List BL)(L:List Int)(Q:cF Bw.out->Prop),(Tr.need (0<=x/\x<5/\X.length<=1000000/\cb 10 a) (Tr.all Int (λy=>y=Dd (cS (M,N,O,P,R,S,U,W,n,o,p,q,r,s,t,u,v,A,B,C,f,g,h,j,m,D,a,E,F,G,H,J,K,L,())) x.toNat X) λy=>Tr.leaf (qf (y,M,N,O,P,R,S,U,W,n,o,p,q,r,s,t,u,v,A,B,C,f,g,h,j,m,D,a,E,F,G,H,J,K,L,())))).sat Q->X.length<=1099511627776/\bZ X 0/\∀(b:Lt×Int×Int),b=pl X true (0,0)->(0<=x/\x<5)/\((((True/\(x=0->fX a/\(jZ b.fst/\cb 1 (hV a).fst)/\∀(c:(BL×Int)×List Tm×KV),c=tq ((aO Ty.i64 b.fst.snd.snd.fst f).getD []) b.fst (hV a).fst (hV a).snd->Q (qf ((↑(ah c.fst.fst):Int),M,N,O,P,R,S,U,W,n,o,p,q,r,s,t,u,v,A,B,C,f,g,h,j,m,D,a,E,F,G,H,J,K,L,()))))/\(x=1->fX a/\(jZ b.fst/\cb 1 (hV a).fst)/\∀(c:(BL×Int)×List Tm×KV),c=tq ((aO Ty.i64 b.fst.snd.snd.fst g).getD []) b.fst (hV a).fst (hV a).snd->Q (qf ((↑(ah c.fst.fst):Int),M,N,O,P,R,S,U,W,n,o,p,q,r,s,t,u,v,A,B,C,f,g,h,j,m,D,a,E,F,G,H,J,K,L,()))))/\(x=2->fX a/\(jZ b.fst/\cb 1 (hV a).fst)/\∀(c:(BL×Int)×List Tm×KV),c=tq ((aO Ty.i64 b.fst.snd.snd.fst h).getD []) b.fst (hV a).fst (hV a).snd->Q (qf ((↑(ah c.fst.fst):Int),M,N,O,P,R,S,U,W,n,o,p,q,r,s,t,u,v,A,B,C,f,g,h,j,m,D,a,E,F,G,H,J,K,L,()))))/\(x=3->fX a/\(jZ b.fst/\cb 1 (hV a).fst)/\∀(c:(BL×Int)×List Tm×KV),c=tq ((aO Ty.i64 b.fst.snd.snd.fst j).getD []) b.fst (hV a).fst (hV a).snd->Q (qf ((↑(ah c.fst.fst):Int),M,N,O,P,R,S,U,W,n,o,p,q,r,s,t,u,v,A,B,C,f,g,h,j,m,D,a,E,F,G,H,J,K,L,()))))/\(x=4->fX a/\(jZ b.fst/\cb 1 (hV a).fst)/\∀(c:(BL×Int)×List Tm×KV),c=tq ((aO Ty.i64 b.fst.snd.snd.fst m).getD []) b.fst (hV a).fst (hV a).snd->Q (qf ((↑(ah c.fst.fst):Int),M,N,O,P,R,S,U,W,n,o,p,q,r,s,t,u,v,A,B,C,f,g,h,j,m,D,a,E,F,G,H,J,K,L,())))):=dC
 refine PW e ?_;clear e;intro i b;refine Wd.all λw=>?_;intro Q ⟨⟨h1,h2,h3,Y⟩,hQ⟩;have hq:∀y,Dd w i.toNat b=y->Q ⟨0,(y,cY w)⟩:=λy e=>hQ y e.symm;clear hQ;have hr:bZ b 0:=⟨ac,ac,ac⟩;have hc:=IA Y.1;refine⟨ac,hr,λl hl=>?_⟩;have hs:jZ l.1:=by rw[hl];exact Sa hr
 have hk:cb 1 (hV w.ts).1:=⟨hc.1,by have:=hc.2;have:=Y.2;omega⟩;unfold Dd at hq;rw[<-hl]at hq;refine⟨⟨h1,h2⟩,⟨⟨⟨⟨trivial,λe=>⟨Y.ok,⟨hs,hk⟩,λz hz=>?_⟩⟩,λe=>⟨Y.ok,⟨hs,hk⟩,λz hz=>?_⟩⟩,λe=>⟨Y.ok,⟨hs,hk⟩,λz hz=>?_⟩⟩,λe=>⟨Y.ok,⟨hs,hk⟩,λz hz=>?_⟩⟩,λe=>⟨Y.ok,⟨hs,hk⟩,λz hz=>?_⟩⟩
 all_goals
  subst e hz;exact hq _ rfl
theorem Se:bW Tryz.prog 79 Bw:=dH IJ.1 IJ.2 tS dC Sb
def OV:bG:=(79,[Bw])::II
def De:=kB 79 [Bw] IJ (bL (Se)) (l:=bL (λ_=>bA))
end Go.Tp
