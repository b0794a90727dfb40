/- A part of the proof of TopSealedSaid: no conditions; packed by a program of our own. -/
import Derived.Test.YtgpideichgnmhaaGreatPbam
import Derived.Test.YtgpideichgnmhaaGreatPbaf
import Derived.Test.YtgpideichgnmhaaGreatRows
open BitVec renaming ofNat→ae
open Bool renaming not_eq_true'→aP,not_eq_false'→aK
open Decidable renaming not_not→aC
open HSub renaming hSub→bv
open Int renaming toNat_natCast→aF,eq_ofNat_of_zero_le→bR,le_refl→bY
open LE renaming le→bc
open List renaming replicate→ak,length_append→aa,length_cons→ba,append_assoc→ay,mem_append→bb,append_nil→aW,mem_cons→bt,getElem?_eq_getElem→ap,getElem?_append_left→bU,getElem?_append_right→aU,length_take→be,length→ah,range→kz,getD_eq_getElem?_getD→aw,getElem?_eq_none→bD,map_append→dn,length_map→bT,mem_map→dM,map→rZ,mem_cons_self→aG,mem_cons_of_mem→aA,mem_of_getElem?→gN,getElem?_eq_some_iff→cy,getElem_mem→kB,mem_singleton→cf,length_singleton→bh,take_add_one→dW,take_length→br,length_set→cG
open Nat renaming min_eq_left→eB,add_comm→eJ,le_refl→aD,le_trans→bq,zero_le→aq,lt_or_ge→bI,eq_zero_or_pos→jZ
open Prod renaming fst→ga
open UInt8 renaming ofBitVec→iE
namespace Go.Tp
open Go.Hv Go.Proofs Go.RowKit
set_option maxRecDepth 100000
set_option maxHeartbeats 0
def stA:jx:=(1,0,0,0,0,0,[97],JL)
def vB(p:Pg)(s:jx)(y:List Op×Int):Prop:=y.1.length<=64/\(p=js->s=stA->y=([iW],0))
theorem Bj(p:Pg)(s:jx):∃y,vB p s y:=⟨([iW],0),by decide,λ_ _=>rfl⟩
def Li:Ct:=⟨2,⟨[(0,false,[.d M6]),Vs 1],[]⟩,[⟨[(0,false,[.d (.sl kE)]),sI 1],[]⟩],λ(p,s,_)=>eD (cr p) (vB p s) λy=>(y.1,y.2,())⟩
def PH:bw:=(75,[Li])::PG
theorem G6:KK PH:=kA M_ (cE Li 0) (∀(c:Pg)(a:Int×Int×Int×Int×Int×Int×BL×Lt)(Q:cw Li.out->Prop),let z:=cr c/\∀(b:List Op×Int),b.1.length<=64->Q ⟨0,b.1,b.2,()⟩;bd Li (c,a,()) Q->Br (a.1==1) (cr c/\∀(b:List Op×Int),b.1.length<=64/\(c=([],[],[],([((0,0,()),0,0,0,false,[[],[]],())],0,()),([],()),())->a.2.2.1=0->a.2.2.2.2.2.2.1=[ae 8 97]->a.2.1=0->b=([(1,0,1,0,0,true,97,0,0,0,0,0,0,false,0,0,false,0,0,())],0))->Q ⟨0,b.1,b.2,()⟩) (Br (a.1==2) z z)) (by
 conv=>zeta
 unfold Br bd;intro p s Q ⟨h,g⟩;have b:∀y,vB p s y->Q ⟨0,(y.1,y.2,())⟩:=g;refine⟨λ_=>⟨h,λy a=>b y ⟨a.1,λi f=>a.2 i (by rw[f];rfl) (by rw[f];rfl) (by rw[f];rfl)⟩⟩,λc=>⟨λ_=>⟨h,λy a=>b y ⟨a,λ_ e=>?_⟩⟩,λ_=>⟨h,λy a=>b y ⟨a,λ_ e=>?_⟩⟩⟩⟩
 all_goals (subst e;exact absurd c (by decide))) (l:=λ_=>aM λ_=>Bj _ _)
def iB(w:Wd)(i:Nat)(s:jx)(y:(BL×Int)×Wd):Prop:=∃p l e,je (w.cl i).pg p/\vB p s (l,e)/\
 (e≠0/\y=(([],e),w)\/e=0/\∃a z,Ip (w.cl i).pg l a/\z=x8 (w.cl i).c (w.cl i).sg (w.cl i).lg (w.cl i).pg (w.cl i).km (w.cl i).bk l a w.ts w.m/\y=(z.1,w.wrt i z))
theorem gH(w:Wd)(i:Nat)(s:jx):∃y,iB w i s y:=by
 obtain⟨p,a⟩:=iX (w.cl i).pg;obtain⟨⟨l,e⟩,b⟩:=Bj p s;by_cases h:e=0
 ·exact⟨_,p,l,e,a,b, .inr ⟨h,_,_,⟨_,(iX _).choose_spec,(qf _ _).choose_spec⟩,rfl,rfl⟩⟩
 ·exact⟨_,p,l,e,a,b, .inl ⟨h,rfl⟩⟩
def sZ(i:Nat):List (Option CP):=[some (.cells [.ptr (7+2*i) 0]),some (.cells [.d Iu]),some (.cells [.ptr 3 0])]
def C9:Ct:=⟨4,⟨[sS 0 4,(1,false,[.ptr 0 0]),(2,false,[.ptr 1 0]),(3,false,[.ptr 2 0])],sZ 0++zp 3 23++pN 23⟩,[⟨[(0,false,[.d tB]),sI 1],sZ 0++zp 3 36++ak 13 none++pN 36⟩],λ(s,a)=>eD (∃n,cR (bV a) (n+1)) (iB (bV a) 0 s) λy=>(y.1.1,y.1.2,s,bZ y.2)⟩
def Da:Ct:=⟨4,⟨[sS 0 4,(1,false,[.ptr 0 0]),(2,false,[.ptr 1 0]),(3,false,[.ptr 2 0])],sZ 1++zp 3 23++pN 23⟩,[⟨[(0,false,[.d tB]),sI 1],sZ 1++zp 3 36++ak 13 none++pN 36⟩],λ(s,a)=>eD (∃n,cR (bV a) (n+1)) (iB (bV a) 1 s) λy=>(y.1.1,y.1.2,s,bZ y.2)⟩
def Db:Ct:=⟨4,⟨[sS 0 4,(1,false,[.ptr 0 0]),(2,false,[.ptr 1 0]),(3,false,[.ptr 2 0])],sZ 2++zp 3 23++pN 23⟩,[⟨[(0,false,[.d tB]),sI 1],sZ 2++zp 3 36++ak 13 none++pN 36⟩],λ(s,a)=>eD (∃n,cR (bV a) (n+1)) (iB (bV a) 2 s) λy=>(y.1.1,y.1.2,s,bZ y.2)⟩
def Dc:Ct:=⟨4,⟨[sS 0 4,(1,false,[.ptr 0 0]),(2,false,[.ptr 1 0]),(3,false,[.ptr 2 0])],sZ 3++zp 3 23++pN 23⟩,[⟨[(0,false,[.d tB]),sI 1],sZ 3++zp 3 36++ak 13 none++pN 36⟩],λ(s,a)=>eD (∃n,cR (bV a) (n+1)) (iB (bV a) 3 s) λy=>(y.1.1,y.1.2,s,bZ y.2)⟩
def G7:Ct:=⟨4,⟨[sS 0 4,(1,false,[.ptr 0 0]),(2,false,[.ptr 1 0]),(3,false,[.ptr 2 0])],sZ 4++zp 3 23++pN 23⟩,[⟨[(0,false,[.d tB]),sI 1],sZ 4++zp 3 36++ak 13 none++pN 36⟩],λ(s,a)=>eD (∃n,cR (bV a) (n+1)) (iB (bV a) 4 s) λy=>(y.1.1,y.1.2,s,bZ y.2)⟩
abbrev Us(v:BL×Int×(Int×Int×Int×Int×Int×Int×BL×Lt)×TA Unit):cw C9.out:=⟨0,v⟩
theorem G8:bS Tryz.prog 74 C9:=kC G6 (cE C9 0) (∀(a:Int×Int×Int×Int×Int×Int×BL×Lt),WA λi j k l m c d f n o p q r s t u v w z A B C D E F G g h J K L M N O=>let H:=(J,K,L,M,N,O,());let x:=(j,k,l,m,c,d,f,n,o,p,q,r,s,t,u,v,w,z,A,B,C,D,E,F,G,g,h,H);∀(Q:cw C9.out->Prop),(Tr.need (∃a,cR (bV (i,x)) (a+1)) (Tr.all ((BL×Int)×Wd) (iB (bV (i,x)) 0 a) λy=>Tr.leaf (Us (y.1.1,y.1.2,a,bZ y.2)))).sat Q->cr d.1/\∀(b:Pg),je d.1 b->cr b/\∀(e:List Op×Int),vB b a e->Br (!e.2==0) (Q ⟨0,[],e.2,a,i,x⟩) ((e.1.length<=1000000/\cC c.2.2.2.1.2.1 c.2.2.2.1.2.2.1/\ci h/\cr d.1/\bO 6 g)/\∀(b:(BL×Int)×Pg×Ln×List Tm×KV),(∃a,Ip d.1 e.1 a/\b=x8 c.1 c.2.2.1 c.2.2.2.1 d.1 f h e.1 a g m)->Q ⟨0,b.1.1,b.1.2,a,i,j,k,l,b.2.2.2.2,c,(b.2.1,d.2),f,n,o,p,q,r,s,t,u,v,w,z,A,B,C,D,E,F,G,b.2.2.2.1,b.2.2.1,H⟩)) (by
 conv=>zeta
 unfold Br WA bZ;intro s;refine Wd.all λw=>?_;intro Q ⟨⟨n,h⟩,c⟩;have h:cR w (n+1):=h;have f:∀y,iB w 0 s y->Q ⟨0,(y.1.1,y.1.2,s,bZ y.2)⟩:=λy i=>c y i;clear c;obtain⟨⟨x,A,B,C,g,j,m,D,E⟩,o,q⟩:=h.cl 0 (by decide);refine⟨g,λp a=>⟨a.1,λl b=>⟨λe=>?_,λe=>⟨⟨by have:=b.1;omega,m,j,g,h.ts.mono (by omega)⟩,λz r=>?_⟩⟩⟩⟩
 ·exact f (([],l.2),w) ⟨p,l.1,l.2,a,b, .inl ⟨jU e,rfl⟩⟩
 ·obtain⟨t,u,v⟩:=r;exact f (z.1,w.wrt 0 z) ⟨p,l.1,l.2,a,b, .inr ⟨aC.1 (jV e),t,z,u,v,rfl⟩⟩)
def PI:bw:=(74,[C9])::PH
theorem G9:KK PI:=⟨aQ.add G6.1 (by kernel_rfl) (bo (G8)),bg.add G6.2 (bo (λ_=>aM λ_=>gH _ _ _))⟩
abbrev Ut(v:BL×Int×(Int×Int×Int×Int×Int×Int×BL×Lt)×TA Unit):cw Da.out:=⟨0,v⟩
theorem Ha:bS Tryz.prog 74 Da:=kC G9 (cE Da 0) (∀(a:Int×Int×Int×Int×Int×Int×BL×Lt),WA λi j k l m n o p c d f q r s t u v w z A B C D E F G g H h J K L M N=>let x:=(j,k,l,m,n,o,p,c,d,f,q,r,s,t,u,v,w,z,A,B,C,D,E,F,G,g,H,h,J,K,L,M,N,());∀(Q:cw Da.out->Prop),(Tr.need (∃a,cR (bV (i,x)) (a+1)) (Tr.all ((BL×Int)×Wd) (iB (bV (i,x)) 1 a) λy=>Tr.leaf (Ut (y.1.1,y.1.2,a,bZ y.2)))).sat Q->cr d.1/\∀(b:Pg),je d.1 b->cr b/\∀(e:List Op×Int),vB b a e->Br (!e.2==0) (Q ⟨0,[],e.2,a,i,x⟩) ((e.1.length<=1000000/\cC c.2.2.2.1.2.1 c.2.2.2.1.2.2.1/\ci h/\cr d.1/\bO 6 g)/\∀(b:(BL×Int)×Pg×Ln×List Tm×KV),(∃a,Ip d.1 e.1 a/\b=x8 c.1 c.2.2.1 c.2.2.2.1 d.1 f h e.1 a g m)->Q ⟨0,b.1.1,b.1.2,a,i,j,k,l,b.2.2.2.2,n,o,p,c,(b.2.1,d.2),f,q,r,s,t,u,v,w,z,A,B,C,D,E,F,G,b.2.2.2.1,H,b.2.2.1,J,K,L,M,N,()⟩)) (by
 conv=>zeta
 unfold Br WA bZ;intro s;refine Wd.all λw=>?_;intro Q ⟨⟨n,h⟩,c⟩;have h:cR w (n+1):=h;have f:∀y,iB w 1 s y->Q ⟨0,(y.1.1,y.1.2,s,bZ y.2)⟩:=λy i=>c y i;clear c;obtain⟨⟨x,A,B,C,g,j,m,D,E⟩,o,q⟩:=h.cl 1 (by decide);refine⟨g,λp a=>⟨a.1,λl b=>⟨λe=>?_,λe=>⟨⟨by have:=b.1;omega,m,j,g,h.ts.mono (by omega)⟩,λz r=>?_⟩⟩⟩⟩
 ·exact f (([],l.2),w) ⟨p,l.1,l.2,a,b, .inl ⟨jU e,rfl⟩⟩
 ·obtain⟨t,u,v⟩:=r;exact f (z.1,w.wrt 1 z) ⟨p,l.1,l.2,a,b, .inr ⟨aC.1 (jV e),t,z,u,v,rfl⟩⟩)
def PJ:bw:=(74,[Da])::PI
theorem Hb:KK PJ:=⟨aQ.add G9.1 (by kernel_rfl) (bo (Ha)),bg.add G9.2 (bo (λ_=>aM λ_=>gH _ _ _))⟩
abbrev Uu(v:BL×Int×(Int×Int×Int×Int×Int×Int×BL×Lt)×TA Unit):cw Db.out:=⟨0,v⟩
theorem Hc:bS Tryz.prog 74 Db:=kC Hb (cE Db 0) (∀(a:Int×Int×Int×Int×Int×Int×BL×Lt),WA λi j k l m n o p q r s c d f t u v w z A B C D E F G g H J h K L M N=>let x:=(j,k,l,m,n,o,p,q,r,s,c,d,f,t,u,v,w,z,A,B,C,D,E,F,G,g,H,J,h,K,L,M,N,());∀(Q:cw Db.out->Prop),(Tr.need (∃a,cR (bV (i,x)) (a+1)) (Tr.all ((BL×Int)×Wd) (iB (bV (i,x)) 2 a) λy=>Tr.leaf (Uu (y.1.1,y.1.2,a,bZ y.2)))).sat Q->cr d.1/\∀(b:Pg),je d.1 b->cr b/\∀(e:List Op×Int),vB b a e->Br (!e.2==0) (Q ⟨0,[],e.2,a,i,x⟩) ((e.1.length<=1000000/\cC c.2.2.2.1.2.1 c.2.2.2.1.2.2.1/\ci h/\cr d.1/\bO 6 g)/\∀(b:(BL×Int)×Pg×Ln×List Tm×KV),(∃a,Ip d.1 e.1 a/\b=x8 c.1 c.2.2.1 c.2.2.2.1 d.1 f h e.1 a g m)->Q ⟨0,b.1.1,b.1.2,a,i,j,k,l,b.2.2.2.2,n,o,p,q,r,s,c,(b.2.1,d.2),f,t,u,v,w,z,A,B,C,D,E,F,G,b.2.2.2.1,H,J,b.2.2.1,K,L,M,N,()⟩)) (by
 conv=>zeta
 unfold Br WA bZ;intro s;refine Wd.all λw=>?_;intro Q ⟨⟨n,h⟩,c⟩;have h:cR w (n+1):=h;have f:∀y,iB w 2 s y->Q ⟨0,(y.1.1,y.1.2,s,bZ y.2)⟩:=λy i=>c y i;clear c;obtain⟨⟨x,A,B,C,g,j,m,D,E⟩,o,q⟩:=h.cl 2 (by decide);refine⟨g,λp a=>⟨a.1,λl b=>⟨λe=>?_,λe=>⟨⟨by have:=b.1;omega,m,j,g,h.ts.mono (by omega)⟩,λz r=>?_⟩⟩⟩⟩
 ·exact f (([],l.2),w) ⟨p,l.1,l.2,a,b, .inl ⟨jU e,rfl⟩⟩
 ·obtain⟨t,u,v⟩:=r;exact f (z.1,w.wrt 2 z) ⟨p,l.1,l.2,a,b, .inr ⟨aC.1 (jV e),t,z,u,v,rfl⟩⟩)
def PK:bw:=(74,[Db])::PJ
theorem He:KK PK:=⟨aQ.add Hb.1 (by kernel_rfl) (bo (Hc)),bg.add Hb.2 (bo (λ_=>aM λ_=>gH _ _ _))⟩
abbrev Uv(v:BL×Int×(Int×Int×Int×Int×Int×Int×BL×Lt)×TA Unit):cw Dc.out:=⟨0,v⟩
theorem Hf:bS Tryz.prog 74 Dc:=kC He (cE Dc 0) (∀(a:Int×Int×Int×Int×Int×Int×BL×Lt),WA λi j k l m n o p q r s t u v c d f w z A B C D E F G g H J K h L M N=>let x:=(j,k,l,m,n,o,p,q,r,s,t,u,v,c,d,f,w,z,A,B,C,D,E,F,G,g,H,J,K,h,L,M,N,());∀(Q:cw Dc.out->Prop),(Tr.need (∃a,cR (bV (i,x)) (a+1)) (Tr.all ((BL×Int)×Wd) (iB (bV (i,x)) 3 a) λy=>Tr.leaf (Uv (y.1.1,y.1.2,a,bZ y.2)))).sat Q->cr d.1/\∀(b:Pg),je d.1 b->cr b/\∀(e:List Op×Int),vB b a e->Br (!e.2==0) (Q ⟨0,[],e.2,a,i,x⟩) ((e.1.length<=1000000/\cC c.2.2.2.1.2.1 c.2.2.2.1.2.2.1/\ci h/\cr d.1/\bO 6 g)/\∀(b:(BL×Int)×Pg×Ln×List Tm×KV),(∃a,Ip d.1 e.1 a/\b=x8 c.1 c.2.2.1 c.2.2.2.1 d.1 f h e.1 a g m)->Q ⟨0,b.1.1,b.1.2,a,i,j,k,l,b.2.2.2.2,n,o,p,q,r,s,t,u,v,c,(b.2.1,d.2),f,w,z,A,B,C,D,E,F,G,b.2.2.2.1,H,J,K,b.2.2.1,L,M,N,()⟩)) (by
 conv=>zeta
 unfold Br WA bZ;intro s;refine Wd.all λw=>?_;intro Q ⟨⟨n,h⟩,c⟩;have h:cR w (n+1):=h;have f:∀y,iB w 3 s y->Q ⟨0,(y.1.1,y.1.2,s,bZ y.2)⟩:=λy i=>c y i;clear c;obtain⟨⟨x,A,B,C,g,j,m,D,E⟩,o,q⟩:=h.cl 3 (by decide);refine⟨g,λp a=>⟨a.1,λl b=>⟨λe=>?_,λe=>⟨⟨by have:=b.1;omega,m,j,g,h.ts.mono (by omega)⟩,λz r=>?_⟩⟩⟩⟩
 ·exact f (([],l.2),w) ⟨p,l.1,l.2,a,b, .inl ⟨jU e,rfl⟩⟩
 ·obtain⟨t,u,v⟩:=r;exact f (z.1,w.wrt 3 z) ⟨p,l.1,l.2,a,b, .inr ⟨aC.1 (jV e),t,z,u,v,rfl⟩⟩)
def PL:bw:=(74,[Dc])::PK
theorem Hg:KK PL:=⟨aQ.add He.1 (by kernel_rfl) (bo (Hf)),bg.add He.2 (bo (λ_=>aM λ_=>gH _ _ _))⟩
abbrev Uw(v:BL×Int×(Int×Int×Int×Int×Int×Int×BL×Lt)×TA Unit):cw G7.out:=⟨0,v⟩
theorem Ux:bS Tryz.prog 74 G7:=kC Hg (cE G7 0) (∀(a:Int×Int×Int×Int×Int×Int×BL×Lt),WA λi j k l m n o p q r s t u v w z A c d f B C D E F G g H J K L h M N=>let x:=(j,k,l,m,n,o,p,q,r,s,t,u,v,w,z,A,c,d,f,B,C,D,E,F,G,g,H,J,K,L,h,M,N,());∀(Q:cw G7.out->Prop),(Tr.need (∃a,cR (bV (i,x)) (a+1)) (Tr.all ((BL×Int)×Wd) (iB (bV (i,x)) 4 a) λy=>Tr.leaf (Uw (y.1.1,y.1.2,a,bZ y.2)))).sat Q->cr d.1/\∀(b:Pg),je d.1 b->cr b/\∀(e:List Op×Int),vB b a e->Br (!e.2==0) (Q ⟨0,[],e.2,a,i,x⟩) ((e.1.length<=1000000/\cC c.2.2.2.1.2.1 c.2.2.2.1.2.2.1/\ci h/\cr d.1/\bO 6 g)/\∀(b:(BL×Int)×Pg×Ln×List Tm×KV),(∃a,Ip d.1 e.1 a/\b=x8 c.1 c.2.2.1 c.2.2.2.1 d.1 f h e.1 a g m)->Q ⟨0,b.1.1,b.1.2,a,i,j,k,l,b.2.2.2.2,n,o,p,q,r,s,t,u,v,w,z,A,c,(b.2.1,d.2),f,B,C,D,E,F,G,b.2.2.2.1,H,J,K,L,b.2.2.1,M,N,()⟩)) (by
 conv=>zeta
 unfold Br WA bZ;intro s;refine Wd.all λw=>?_;intro Q ⟨⟨n,h⟩,c⟩;have h:cR w (n+1):=h;have f:∀y,iB w 4 s y->Q ⟨0,(y.1.1,y.1.2,s,bZ y.2)⟩:=λy i=>c y i;clear c;obtain⟨⟨x,A,B,C,g,j,m,D,E⟩,o,q⟩:=h.cl 4 (by decide);refine⟨g,λp a=>⟨a.1,λl b=>⟨λe=>?_,λe=>⟨⟨by have:=b.1;omega,m,j,g,h.ts.mono (by omega)⟩,λz r=>?_⟩⟩⟩⟩
 ·exact f (([],l.2),w) ⟨p,l.1,l.2,a,b, .inl ⟨jU e,rfl⟩⟩
 ·obtain⟨t,u,v⟩:=r;exact f (z.1,w.wrt 4 z) ⟨p,l.1,l.2,a,b, .inr ⟨aC.1 (jV e),t,z,u,v,rfl⟩⟩)
def PM:bw:=(74,[G7,C9,Da,Db,Dc])::PL
theorem M':KK PM:=⟨aQ.add Hg.1 (by kernel_rfl) (fQ (Ux) (fQ (G8) (fQ (Ha) (fQ (Hc) (bo (Hf)))))),bg.add Hg.2 (fQ (λ_=>aM λ_=>gH _ _ _) (fQ (λ_=>aM λ_=>gH _ _ _) (fQ (λ_=>aM λ_=>gH _ _ _) (fQ (λ_=>aM λ_=>gH _ _ _) (bo (λ_=>aM λ_=>gH _ _ _))))))⟩
def vQ(w:Wd)(i:Nat)(s:jx)(r:(BL×Int)×Wd):Prop:=
 if s.1=5 then∃(l:List Op)(z:_),z=mA 4 (ma (w.cl i).bk [] 5++eu l) (w.cl i).c (w.cl i).sg (w.cl i).lg (w.cl i).la (w.cl i).km w.ts w.m/\r=(z.1,w.told i z)
 else if s.1=4 then∃t z,z=mA 3 t (w.cl i).c (w.cl i).sg (w.cl i).lg (w.cl i).la (w.cl i).km w.ts w.m/\r=(z.1,w.told i z)
 else iB w i s r
def ku(w:Wd)(i:Nat)(r:BL×Int):yc:=if r.2≠0 then((r.2,0),w)else zw w r.1 (Le w i r.1)
def kv(w:Wd)(s:jx)(y:yc):Prop:=
 if s.2.1<0\/5<=s.2.1\/400<=w.st.length then y=((26,0),w)
 else if w.go.getD s.2.1.toNat false=true then y=((19,0),w)
 else∃r,vQ w s.2.1.toNat s r/\y=ku r.2 s.2.1.toNat r.1
theorem Uy(w:Wd)(i:Nat)(s:jx):∃y,vQ w i s y:=by
 unfold vQ;split
 ·exact⟨_,[],_,rfl,rfl⟩
 split
 ·exact⟨_,[],_,rfl,rfl⟩
 ·exact gH w i s
theorem Bk(w:Wd)(s:jx):∃y,kv w s y:=by
 unfold kv;split
 ·exact⟨_,rfl⟩
 split
 ·exact⟨_,rfl⟩
 ·obtain⟨r,a⟩:=Uy w s.2.1.toNat s;exact⟨_,r,a,rfl⟩
theorem Uz{la:La}(h:fD la)(k c:Int):0<=xw la k c/\xw la k c<=1048576:=by
 unfold xw;rcases bI (k-3).toNat la.length with q|q
 ·have b:=h.2 _ (aS (z:=[]) q);rcases bI c.toNat (la.getD (k-3).toNat []).length with a|a
  ·exact b.2 _ (aS a)
  ·rw[aw (l:=la.getD _ _),bD a];simp
 ·rw[aw (l:=la),bD q];simp
theorem Hh{sg text:BL}{c:Int}{lg:Lg}{km:KM}{l:Lt}{ts:List Tm}{m:KV}(h:bO 4 ts):(gh (nl c sg lg km l text ts m).1.1).length<=100000:=by
 have:=(Zx (k:=0) (sg:=sg) (text:=text) (c:=c) (lg:=lg) (km:=km) (l:=l) m h).2;generalize(nl c sg lg km l text ts m).1.1=x at*;have v:=bz;have a:=dS x.2.2.2.2.1;have b:=dS x.2.2.2.2.2.1;have e:=dS x.2.2.2.2.2.2.1;have:=v x.1;have:=v x.2.1;have:=v x.2.2.1;have:=v x.2.2.2.1;unfold gh ei;simp only[aa];omega
theorem Bl{w:Wd}{n i:Nat}{c:Cl}{ts:List Tm}{m:KV}(h:cR w (n+1))(hi:i<5)(f:ls c)(l:c.c=(w.cl i).c)(o:c.fk=(w.cl i).fk)(p:bO (10000*n+10000) ts):cR (w.aft i (c,ts,m)) n:=by
 unfold Wd.aft;obtain⟨q,r,s,t,b,u,v,y,z,x⟩:=eG w i c;refine⟨λj a=>?_,p,by dsimp only;rw[q];exact h.sec,by dsimp only;rw[r];exact h.al,by dsimp only;rw[b];exact h.lg,by dsimp only;rw[b];exact h.l5,by dsimp only;rw[s];exact h.go,by dsimp only;rw[u,v];exact h.st,by dsimp only;rw[t];exact⟨h.dr.1,by have:=h.dr.2;omega⟩⟩;have e:Wd.cl {w.setC i c with ts:=ts,m:=m} j=(w.setC i c).cl j:=by rcases fo a with rfl|rfl|rfl|rfl|rfl<;>rfl
 rw[e,zs w c hi a];split
 ·rename_i g;subst g;have:=h.cl j a;exact⟨f,by rw[l];exact this.2.1,by rw[o];omega⟩
 ·have:=h.cl j a;exact⟨this.1,this.2.1,by omega⟩
theorem Bm{w:Wd}{n i:Nat}(h:cR w (n+1))(hi:i<5){a:Int}{t:BL}{z:(BL×Int)×La×List Tm×KV}(b:z=mA a t (w.cl i).c (w.cl i).sg (w.cl i).lg (w.cl i).la (w.cl i).km w.ts w.m):cR (w.told i z) n/\z.1.1.length<=100000:=by
 obtain⟨⟨j,o,p,e,q,r,s,u,v⟩,_,_⟩:=h.cl i hi
 have key:fD z.2.1/\bO (10000*n+10000) z.2.2.1/\z.1.1.length<=100000:=by
  unfold mA at b;rw[ck]at b;have f:=(Zx (k:=10000*n+10000) (text:=t) (c:=(w.cl i).c) (sg:=(w.cl i).sg) (lg:=(w.cl i).lg) (km:=(w.cl i).km) (l:=(a,0,0,xw (w.cl i).la a (w.cl i).c+1,[],[],[],())) w.m (h.ts.mono (by omega))).1;have x:=Hh (text:=t) (c:=(w.cl i).c) (sg:=(w.cl i).sg) (lg:=(w.cl i).lg) (km:=(w.cl i).km) (l:=(a,0,0,xw (w.cl i).la a (w.cl i).c+1,[],[],[],())) (m:=w.m) (show bO 4 w.ts from h.ts.mono (by omega));have y:=Uz e a (w.cl i).c;split at b
  ·subst b;exact⟨e,h.ts.mono (by omega),aq _⟩
  split at b
  ·subst b;exact⟨e,h.ts.mono (by omega),aq _⟩
  rename_i g;dsimp only at b;split at b
  ·subst b;exact⟨e,f,aq _⟩
  ·subst b;exact⟨GF e (by omega),f,x⟩
 exact⟨Bl h hi ⟨j,o,p,key.1,q,r,s,u,v⟩ rfl rfl key.2.1,key.2.2⟩
theorem UA{w:Wd}{n i:Nat}(h:cR w (n+1))(hi:i<5){l:List Op}{j:Int×Pg}(r:cr j.2){z:(BL×Int)×Pg×Ln×List Tm×KV}(a:z=x8 (w.cl i).c (w.cl i).sg (w.cl i).lg (w.cl i).pg (w.cl i).km (w.cl i).bk l j w.ts w.m):cR (w.wrt i z) n/\z.1.1.length<=100000:=by
 obtain⟨⟨s,u,v,x,b,e,y,A,B⟩,_,_⟩:=h.cl i hi
 have key:cr z.2.1/\ci z.2.2.1/\bO (10000*n+10000) z.2.2.2.1/\z.1.1.length<=100000:=by
  have f:bO (10000*n+10000) w.ts:=h.ts.mono (by omega);unfold x8 at a;rw[ck]at a;have g:=(Zx (k:=10000*n+10004) (text:=eu l) (c:=(w.cl i).c) (sg:=(w.cl i).sg) (lg:=(w.cl i).lg) (km:=(w.cl i).km) (l:=(2,0,0,(fx (w.cl i).bk (w.cl i).c).2.1+1,(fx (w.cl i).bk (w.cl i).c).2.2.1,[],[],())) w.m (h.ts.mono (by omega)));have C:=Hh (text:=eu l) (c:=(w.cl i).c) (sg:=(w.cl i).sg) (lg:=(w.cl i).lg) (km:=(w.cl i).km) (l:=(2,0,0,(fx (w.cl i).bk (w.cl i).c).2.1+1,(fx (w.cl i).bk (w.cl i).c).2.2.1,[],[],())) (m:=w.m) (show bO 4 w.ts from h.ts.mono (by omega))
  repeat' split at a
  ·subst a;exact⟨b,e,f,aq _⟩
  ·subst a;exact⟨b,e,f,aq _⟩
  ·subst a;exact⟨b,e,f,aq _⟩
  ·subst a;exact⟨b,e,f,aq _⟩
  ·dsimp only at a;generalize nl (w.cl i).c (w.cl i).sg (w.cl i).lg (w.cl i).km (2,0,0,(fx (w.cl i).bk (w.cl i).c).2.1+1,(fx (w.cl i).bk (w.cl i).c).2.2.1,[],[],()) (eu l) w.ts w.m=q at*;split at a
   ·subst a;exact⟨b,e,g.1.mono (by omega),aq _⟩
   ·have D:=oJ (k:=10000*n+10003) (t:=(104,[q.1.1.2.2.2.2.2.1],())) q.2.2 g.1 (kD (by decide) (by decide) (by have:=g.2.2.1;unfold aB;omega));have o:=T6 (k:=10000*n+10000) (lk:=(q.1.1.2.1,q.1.1.2.2.2.1,q.1.1.2.2.1,q.1.1.2.2.2.2.1,(dV (104,[q.1.1.2.2.2.2.2.1],()) q.2.1 q.2.2).1,())) (bk:=(w.cl i).bk) (dV (104,[q.1.1.2.2.2.2.2.1],()) q.2.1 q.2.2).2.2 (D.mono (by omega));have p:=tkB (lk:=(q.1.1.2.1,q.1.1.2.2.2.1,q.1.1.2.2.1,q.1.1.2.2.2.2.1,(dV (104,[q.1.1.2.2.2.2.2.1],()) q.2.1 q.2.2).1,())) (dV (104,[q.1.1.2.2.2.2.2.1],()) q.2.1 q.2.2).2.1 (dV (104,[q.1.1.2.2.2.2.2.1],()) q.2.1 q.2.2).2.2 e;unfold Zy at a;dsimp only at a;split at a
    ·subst a;exact⟨b,p,o,aq _⟩
    ·subst a;exact⟨r,p,o,C⟩
 exact⟨Bl h hi ⟨s,u,v,x,key.1,key.2.1,y,A,B⟩ rfl rfl key.2.2.1,key.2.2.2⟩
theorem Hi{w:Wd}{n i:Nat}(h:cR w (n+1))(hi:i<5){s:jx}{r:(BL×Int)×Wd}(b:vQ w i s r):cR r.2 n/\r.1.1.length<=100000/\r.2.st=w.st/\r.2.ln=w.ln:=by
 have a:∀c,(w.aft i c).st=w.st/\(w.aft i c).ln=w.ln:=λc=>let q:=eG w i c.1;⟨q.2.2.2.2.2.1,q.2.2.2.2.2.2.1⟩
 unfold vQ at b;split at b
 ·obtain⟨t,z,f,rfl⟩:=b;have:=Bm h hi f;exact⟨this.1,this.2,a _⟩
 split at b
 ·obtain⟨t,z,f,rfl⟩:=b;have:=Bm h hi f;exact⟨this.1,this.2,a _⟩
 ·obtain⟨p,l,e,m,o,⟨g,rfl⟩|⟨g,u,z,⟨v,x,j⟩,f,rfl⟩⟩:=b
  ·exact⟨h.mono (by omega),aq _,rfl,rfl⟩
  ·have:=UA h hi j.1 f;exact⟨this.1,this.2,a _⟩
def Dd:Ct:=⟨2,⟨[sP 0,Vs 1],gb⟩,[⟨[(0,true,[.d Du])],Gx 33++pN 33⟩],λ(s,a)=>eD (∃n,cR (bV a) (n+1)) (kv (bV a) s) λy=>((y.1.1,y.1.2,jB),bZ y.2)⟩
def cWp:Option CP:=some (.cells [.ptr 0 0])
def N_:cg:=⟨[(2,false,[.ptr 33 0]),(3,false,[.ptr 34 0]),(4,false,[.ptr 35 0])],gb++[cWp,J',GU]⟩
def UB(x:Dd.inp.den)(y:N_.den):Prop:=match x,y with
 |(s,a),(F,G,H,J,K,L,M,N,O,b,c,e,f,g,h,i,j,l,m,n,o,p,q,r,t,u,v,w,z,A,B,C,D,E,P,_)=>(bV (F,G,H,J,K,L,M,N,O,b,c,e,f,g,h,i,j,l,m,n,o,p,q,r,t,u,v,w,z,A,B,C,D,E,()))=(bV a)/\P=s/\¬(s.2.1<0\/5<=s.2.1\/400<=(bV a).st.length)/\¬((bV a).go.getD s.2.1.toNat false=true)
def PP:cg:=⟨[(2,false,[.ptr 46 0]),(3,false,[.ptr 47 0]),(4,false,[.ptr 48 0]),sB 7,sI 8],Gx 33++pN 33++[cWp,J',GU]⟩
def gm(x:Dd.inp.den)(y:PP.den):Prop:=match x,y with
 |(s,a),(b,G,H,J,K,L,M,N,O,P,Q,c,e,f,g,h,i,j,l,m,n,o,p,q,r,t,u,v,w,z,A,B,C,D,E,F,R,_)=>R=s/\¬(s.2.1<0\/5<=s.2.1\/400<=(bV a).st.length)/\¬((bV a).go.getD s.2.1.toNat false=true)/\vQ (bV a) s.2.1.toNat s ((b,G),(bV (H,J,K,L,M,N,O,P,Q,c,e,f,g,h,i,j,l,m,n,o,p,q,r,t,u,v,w,z,A,B,C,D,E,F,())))
def a33(x:Dd.inp.den):dB:=⟨[],[(5,bK N_ (UB x) λ_=>0),(12,bK PP (gm x) λ_=>0)],[],[],0⟩
abbrev zC(v:(Int×Int×Nw)×TA Unit):cw Dd.out:=⟨0,v⟩
def PQ:bw:=(38,[Dd])::PM
theorem N':KK PQ:=kA M' a33 (∀(e:Int×Int×Int×Int×Int×Int×BL×Lt),let j2:= !decide (0<=e.2.1/\e.2.1<5);WA λF b9 b5 c0 c1 c2 c3 c4 c5 c6 c7 c8 c9 d0 d1 d2 d3 d4 d5 d6 d7 d8 d9 e0 e1 e2 e3 e4 e5 e6 e7 e8 b7 e9=>let G:=(b9,b5,c0,c1,c2,c3,c4,c5,c6,c7,c8,c9,d0,d1,d2,d3,d4,d5,d6,d7,d8,d9,e0,e1,e2,e3,e4,e5,e6,e7,e8,b7,e9,());let i9:=zC ((26,0,0,0,0,0,false,false,[],()),F,G);let i6:=zC ((19,0,0,0,0,0,false,false,[],()),F,G);let z4:=UB (e,F,G) (F,b9,b5,c0,c1,c2,c3,c4,c5,c6,c7,c8,c9,d0,d1,d2,d3,d4,d5,d6,d7,d8,d9,e0,e1,e2,e3,e4,e5,e6,e7,e8,b7,e9,e,(0,0,0,0,0,0,false,false,[],()),());∀(Q:cw Dd.out->Prop),let O:=∀(f:BL)(g:Int),WA λh i j k l m n o p q r s t u v w z a0 a1 a2 a3 a4 a5 a6 a7 a8 c a9 b0 b1 b2 b3 a d=>let j0:=(i,j,k,l,m,n,o,p,q,r,s,t,u,v,w,z,a0,a1,a2,a3,a4,a5,a6,a7,a8,c,a9,b0,b1,b2,b3,a,d,());∀(b4:Int×Int×Int×Int×Int×Int×BL×Lt)(f6:Int×Int×Nw),gm (e,F,G) (f,g,h,i,j,k,l,m,n,o,p,q,r,s,t,u,v,w,z,a0,a1,a2,a3,a4,a5,a6,a7,a8,c,a9,b0,b1,b2,b3,a,d,b4,f6,())->Br (!g==0) (Q ⟨0,(g,0,0,0,0,0,false,false,[],()),h,j0⟩) ((0<=b4.2.1/\b4.2.1<5/\f.length<=1000000/\bO 10 c)/\∀b,b=Le (bV (h,j0)) (Int.toNat b4.2.1) f->(a.length<=1000000/\d.length<=1000000)/\Q ⟨0,(0,nI a+1,0,0,0,0,false,false,[],()),h,i,j,k,l,m,n,o,p,q,r,s,t,u,v,w,z,a0,a1,a2,a3,a4,a5,a6,a7,a8,c,a9,b0,b1,b2,b3,a++[f],d++[b],()⟩);(Tr.need (∃e,cR (bV (F,G)) (e+1)) (Tr.all yc (kv (bV (F,G)) e) λy=>Tr.leaf (zC ((y.1.1,y.1.2,0,0,0,0,false,false,[],()),bZ y.2)))).sat Q->True/\Br j2 (Q i9) (True/\Bd (400<=b7.length) (Q i9) ((Br (e.2.1==0) (Br (b5.getD ((38-1-1-10-15-1-1-1-1-1-1-1-1-1-1-1)/1) false) (Q i6) (Is z4)) (Br (e.2.1==1) (Br (b5.getD ((39-1-1-10-15-1-1-1-1-1-1-1-1-1-1-1)/1) false) (Q i6) (Is z4)) (Br (e.2.1==2) (Br (b5.getD ((40-1-1-10-15-1-1-1-1-1-1-1-1-1-1-1)/1) false) (Q i6) (Is z4)) (Br (e.2.1==3) (Br (b5.getD ((41-1-1-10-15-1-1-1-1-1-1-1-1-1-1-1)/1) false) (Q i6) (Is z4)) (Br (e.2.1==4) (Br (b5.getD ((42-1-1-10-15-1-1-1-1-1-1-1-1-1-1-1)/1) false) (Q i6) (Is z4)) (False/\True))))))/\WA λX Y h4 h5 h6 A J P B K R C L S D M U E N W h7 h8 h9 i0 i1 i2 H g2 g3 g4 g5 g6 i3 i4=>let z3:=bV (X,Y,h4,h5,h6,A,J,P,B,K,R,C,L,S,D,M,U,E,N,W,h7,h8,h9,i0,i1,i2,H,g2,g3,g4,g5,g6,i3,i4,());let i7:=(∃e,cR z3 (e+1));∀(x:Int×Int×Int×Int×Int×Int×BL×Lt)(i5:Int×Int×Nw),let z5:=(g2,g3,g4,g5,g6,i3,i4,x,i5,());let j1:=(x.1==5)=true->((0<=E.1/\E.1<5/\fD N.2.1/\cC E.2.2.2.1.2.1 E.2.2.2.1.2.2.1/\ci g6/\cr N.1/\bO 4 H)/\∀(b:(BL×Int)×La×List Tm×KV),(∃e,b=mA 4 (ma g6 [] 5++eu e) E.1 E.2.2.1 E.2.2.2.1 N.2.1 W H h6)->Is (gm (e,F,G) (b.1.1,b.1.2,X,Y,h4,h5,b.2.2.2,A,J,P,B,K,R,C,L,S,D,M,U,E,(N.1,b.2.1,N.2.2),W,h7,h8,h9,i0,i1,i2,b.2.2.1,z5)))/\O;let z9:=(x.1==5)=true->((0<=D.1/\D.1<5/\fD M.2.1/\cC D.2.2.2.1.2.1 D.2.2.2.1.2.2.1/\ci g5/\cr M.1/\bO 4 H)/\∀(b:(BL×Int)×La×List Tm×KV),(∃e,b=mA 4 (ma g5 [] 5++eu e) D.1 D.2.2.1 D.2.2.2.1 M.2.1 U H h6)->Is (gm (e,F,G) (b.1.1,b.1.2,X,Y,h4,h5,b.2.2.2,A,J,P,B,K,R,C,L,S,D,(M.1,b.2.1,M.2.2),U,E,N,W,h7,h8,h9,i0,i1,i2,b.2.2.1,z5)))/\O;let z8:=(x.1==5)=true->((0<=C.1/\C.1<5/\fD L.2.1/\cC C.2.2.2.1.2.1 C.2.2.2.1.2.2.1/\ci g4/\cr L.1/\bO 4 H)/\∀(b:(BL×Int)×La×List Tm×KV),(∃e,b=mA 4 (ma g4 [] 5++eu e) C.1 C.2.2.1 C.2.2.2.1 L.2.1 S H h6)->Is (gm (e,F,G) (b.1.1,b.1.2,X,Y,h4,h5,b.2.2.2,A,J,P,B,K,R,C,(L.1,b.2.1,L.2.2),S,D,M,U,E,N,W,h7,h8,h9,i0,i1,i2,b.2.2.1,z5)))/\O;let z7:=(x.1==5)=true->((0<=B.1/\B.1<5/\fD K.2.1/\cC B.2.2.2.1.2.1 B.2.2.2.1.2.2.1/\ci g3/\cr K.1/\bO 4 H)/\∀(b:(BL×Int)×La×List Tm×KV),(∃e,b=mA 4 (ma g3 [] 5++eu e) B.1 B.2.2.1 B.2.2.2.1 K.2.1 R H h6)->Is (gm (e,F,G) (b.1.1,b.1.2,X,Y,h4,h5,b.2.2.2,A,J,P,B,(K.1,b.2.1,K.2.2),R,C,L,S,D,M,U,E,N,W,h7,h8,h9,i0,i1,i2,b.2.2.1,z5)))/\O;let z6:=(x.1==5)=true->((0<=A.1/\A.1<5/\fD J.2.1/\cC A.2.2.2.1.2.1 A.2.2.2.1.2.2.1/\ci g2/\cr J.1/\bO 4 H)/\∀(b:(BL×Int)×La×List Tm×KV),(∃e,b=mA 4 (ma g2 [] 5++eu e) A.1 A.2.2.1 A.2.2.2.1 J.2.1 P H h6)->Is (gm (e,F,G) (b.1.1,b.1.2,X,Y,h4,h5,b.2.2.2,A,(J.1,b.2.1,J.2.2),P,B,K,R,C,L,S,D,M,U,E,N,W,h7,h8,h9,i0,i1,i2,b.2.2.1,z5)))/\O;UB (e,F,G) (X,Y,h4,h5,h6,A,J,P,B,K,R,C,L,S,D,M,U,E,N,W,h7,h8,h9,i0,i1,i2,H,z5)->Br (x.2.1==0) (Br (x.1==4) (z6/\((x.1==5)=false->((0<=A.1/\A.1<5/\fD J.2.1/\cC A.2.2.2.1.2.1 A.2.2.2.1.2.2.1/\ci g2/\pM J.2.2.1/\bO 4 H)/\∀(b:(BL×Int)×La×List Tm×KV),(∃e,b=mA 3 e A.1 A.2.2.1 A.2.2.2.1 J.2.1 P H h6)->Is (gm (e,F,G) (b.1.1,b.1.2,X,Y,h4,h5,b.2.2.2,A,(J.1,b.2.1,J.2.2),P,B,K,R,C,L,S,D,M,U,E,N,W,h7,h8,h9,i0,i1,i2,b.2.2.1,z5)))/\O)) (z6/\((x.1==5)=false->(i7/\∀(b:(BL×Int)×Wd),iB z3 0 x b->Is (gm (e,F,G) (b.1.1,b.1.2,CY b.2 (x,i5,()))))/\O))) (Br (x.2.1==1) (Br (x.1==4) (z7/\((x.1==5)=false->((0<=B.1/\B.1<5/\fD K.2.1/\cC B.2.2.2.1.2.1 B.2.2.2.1.2.2.1/\ci g3/\pM K.2.2.1/\bO 4 H)/\∀(b:(BL×Int)×La×List Tm×KV),(∃e,b=mA 3 e B.1 B.2.2.1 B.2.2.2.1 K.2.1 R H h6)->Is (gm (e,F,G) (b.1.1,b.1.2,X,Y,h4,h5,b.2.2.2,A,J,P,B,(K.1,b.2.1,K.2.2),R,C,L,S,D,M,U,E,N,W,h7,h8,h9,i0,i1,i2,b.2.2.1,z5)))/\O)) (z7/\((x.1==5)=false->(i7/\∀(b:(BL×Int)×Wd),iB z3 1 x b->Is (gm (e,F,G) (b.1.1,b.1.2,CY b.2 (x,i5,()))))/\O))) (Br (x.2.1==2) (Br (x.1==4) (z8/\((x.1==5)=false->((0<=C.1/\C.1<5/\fD L.2.1/\cC C.2.2.2.1.2.1 C.2.2.2.1.2.2.1/\ci g4/\pM L.2.2.1/\bO 4 H)/\∀(b:(BL×Int)×La×List Tm×KV),(∃e,b=mA 3 e C.1 C.2.2.1 C.2.2.2.1 L.2.1 S H h6)->Is (gm (e,F,G) (b.1.1,b.1.2,X,Y,h4,h5,b.2.2.2,A,J,P,B,K,R,C,(L.1,b.2.1,L.2.2),S,D,M,U,E,N,W,h7,h8,h9,i0,i1,i2,b.2.2.1,z5)))/\O)) (z8/\((x.1==5)=false->(i7/\∀(b:(BL×Int)×Wd),iB z3 2 x b->Is (gm (e,F,G) (b.1.1,b.1.2,CY b.2 (x,i5,()))))/\O))) (Br (x.2.1==3) (Br (x.1==4) (z9/\((x.1==5)=false->((0<=D.1/\D.1<5/\fD M.2.1/\cC D.2.2.2.1.2.1 D.2.2.2.1.2.2.1/\ci g5/\pM M.2.2.1/\bO 4 H)/\∀(b:(BL×Int)×La×List Tm×KV),(∃e,b=mA 3 e D.1 D.2.2.1 D.2.2.2.1 M.2.1 U H h6)->Is (gm (e,F,G) (b.1.1,b.1.2,X,Y,h4,h5,b.2.2.2,A,J,P,B,K,R,C,L,S,D,(M.1,b.2.1,M.2.2),U,E,N,W,h7,h8,h9,i0,i1,i2,b.2.2.1,z5)))/\O)) (z9/\((x.1==5)=false->(i7/\∀(b:(BL×Int)×Wd),iB z3 3 x b->Is (gm (e,F,G) (b.1.1,b.1.2,CY b.2 (x,i5,()))))/\O))) (Br (x.2.1==4) (Br (x.1==4) (j1/\((x.1==5)=false->((0<=E.1/\E.1<5/\fD N.2.1/\cC E.2.2.2.1.2.1 E.2.2.2.1.2.2.1/\ci g6/\pM N.2.2.1/\bO 4 H)/\∀(b:(BL×Int)×La×List Tm×KV),(∃e,b=mA 3 e E.1 E.2.2.1 E.2.2.2.1 N.2.1 W H h6)->Is (gm (e,F,G) (b.1.1,b.1.2,X,Y,h4,h5,b.2.2.2,A,J,P,B,K,R,C,L,S,D,M,U,E,(N.1,b.2.1,N.2.2),W,h7,h8,h9,i0,i1,i2,b.2.2.1,z5)))/\O)) (j1/\((x.1==5)=false->(i7/\∀(b:(BL×Int)×Wd),iB z3 4 x b->Is (gm (e,F,G) (b.1.1,b.1.2,CY b.2 (x,i5,()))))/\O))) (False/\True)))))))) (by
 conv=>zeta
 unfold Bd Br WA nI bZ CY;intro s;refine Wd.all λw=>?_;intro Q ⟨⟨n,h⟩,P⟩;have h:cR w (n+1):=h;have F:∀y,kv w s y->Q ⟨0,((y.1.1,y.1.2,jB),bZ y.2)⟩:=λy hy=>P y hy;clear P;have bad:(s.2.1<0\/5<=s.2.1\/400<=w.st.length)->Q ⟨0,((26,0,jB),bZ w)⟩:=λc=>F ((26,0),w) (by unfold kv;rw[am c])
 have tail:∀(b:BL)(j:Int)(f:Wd),¬(s.2.1<0\/5<=s.2.1\/400<=w.st.length)->¬(w.go.getD s.2.1.toNat false=true)->vQ w s.2.1.toNat s ((b,j),f)->((!j==0)=true->Q ⟨0,((j,0,jB),bZ f)⟩)/\
  ((!j==0)=false->(0<=s.2.1/\s.2.1<5/\b.length<=1000000/\bO 10 f.ts)/\∀k:Int,k=Le f s.2.1.toNat b->(f.st.length<=1000000/\f.ln.length<=1000000)/\∀B,B=f.keep b k->Q ⟨0,((0,(f.st.length:Int)+1,jB),bZ B)⟩):=by
  intro b j f no p R;have G:=no;rw[not_or,not_or]at G;have ok:=Hi h (show s.2.1.toNat<5 by omega) R;dsimp only at ok;have S:∀z:yc,z=ku f s.2.1.toNat (b,j)->Q ⟨0,((z.1.1,z.1.2,jB),bZ z.2)⟩:=λz i=>F z (by unfold kv;rw[af no,af p];exact⟨_,R,i⟩);refine⟨λc=>S ((j,0),f) ?_,λc=>⟨⟨by omega,by omega,by omega,ok.1.ts.mono (by omega)⟩,λk D=>⟨⟨by have:=ok.1.st.1;omega,by have:=ok.1.st;omega⟩,λB h3=>?_⟩⟩⟩
  ·unfold ku;rw[am (jU c)]
  ·have:=S (zw f b (Le f s.2.1.toNat b)) (by unfold ku;rw[af (jV c)]);rw[<-D]at this;subst h3;exact this
 refine⟨trivial,λc=>bad ?_,λc=>⟨trivial,λd=>bad (.inr (.inr (ag d))),λd=>⟨?_,?_⟩⟩⟩
 ·have c:¬(0<=s.2.1/\s.2.1<5):=λh=>by rw[decide_eq_true h]at c;cases c
  rcases Int.lt_or_le s.2.1 0 with q|q
  ·exact .inl q
  ·exact .inr (.inl (by omega))
 ·have c:0<=s.2.1/\s.2.1<5:=by
   cases h:decide (0<=s.2.1/\s.2.1<5)with
   |true=>exact ag h
   |false=>rw[h]at c;cases c
  have d':=an d
  have no:¬(s.2.1<0\/5<=s.2.1\/400<=w.st.length):=by
   rintro(q|q|q)
   ·omega
   ·omega
   ·exact d' q
  refine⟨λe=>?_,λH=>⟨λe=>?_,λu=>⟨λe=>?_,λv=>⟨λe=>?_,λJ=>⟨λe=>?_,λK=>?_⟩⟩⟩⟩⟩
  case refine_6=>exfalso;simp only[az,ne_eq]at H u v J K;omega
  all_goals
   have o:s.2.1.toNat=_:=aH Int.toNat (aZ e);refine⟨λg=>F ((19,0),w) ?_,λg=>⟨⟨rfl,rfl,no,?_⟩⟩⟩
   ·unfold kv;rw[af no,o];exact am g▸rfl
   ·show¬(w.go.getD s.2.1.toNat false=true);rw[o];intro q;have:=q.symm.trans g;cases this
 refine Wd.all λf=>?_;rintro C x ⟨u,v,no,p⟩;have u:w=f:=(show f=w from u).symm;have v:s=C:=(show C=s from v).symm;subst u v;have no:¬(s.2.1<0\/5<=s.2.1\/400<=w.st.length):=no;have p:¬(w.go.getD s.2.1.toNat false=true):=p
 have hw:0<=s.2.1/\s.2.1<5:=by
  rw[not_or,not_or]at no;omega
 clear bad;refine⟨λe=>?_,λH=>⟨λe=>?_,λu=>⟨λe=>?_,λv=>⟨λe=>?_,λJ=>⟨λe=>?_,λK=>?_⟩⟩⟩⟩⟩
 case refine_6=>exfalso;simp only[az,ne_eq]at H u v J K;omega
 all_goals
  have o:s.2.1.toNat=_:=aH Int.toNat (aZ e);have U:=h.cl s.2.1.toNat (by omega);have t4:∀(l:List Op)(z:_),z=mA 4 (ma (w.cl s.2.1.toNat).bk [] 5++eu l) (w.cl s.2.1.toNat).c (w.cl s.2.1.toNat).sg (w.cl s.2.1.toNat).lg (w.cl s.2.1.toNat).la (w.cl s.2.1.toNat).km w.ts w.m->s.1=5->vQ w s.2.1.toNat s (z.1,w.told s.2.1.toNat z):=λt z i c=>by unfold vQ;rw[am c];exact⟨t,z,i,rfl⟩
  have t3:∀t z,z=mA 3 t (w.cl s.2.1.toNat).c (w.cl s.2.1.toNat).sg (w.cl s.2.1.toNat).lg (w.cl s.2.1.toNat).la (w.cl s.2.1.toNat).km w.ts w.m->s.1≠5->s.1=4->vQ w s.2.1.toNat s (z.1,w.told s.2.1.toNat z):=λt z i c L=>by unfold vQ;rw[af c,am L];exact⟨t,z,i,rfl⟩
  have t0:∀r,iB w s.2.1.toNat s r->s.1≠5->s.1≠4->vQ w s.2.1.toNat s r:=λr hr c L=>by unfold vQ;rw[af c,af L];exact hr
  have T:∀(b:BL)(j:Int),∀f:Wd,∀C(x:Du.den),gm (s,bZ w) (b,j,f.sec,f.al,f.go,f.d,f.m,(cA f.c0),(nn f.c0),f.c0.km,(cA f.c1),(nn f.c1),f.c1.km,(cA f.c2),(nn f.c2),f.c2.km,(cA f.c3),(nn f.c3),f.c3.km,(cA f.c4),(nn f.c4),f.c4.km,f.k0,f.k1,f.k2,f.k3,f.k4,f.lg,f.ts,f.c0.bk,f.c1.bk,f.c2.bk,f.c3.bk,f.c4.bk,f.st,f.ln,C,x,())->C=s/\vQ w s.2.1.toNat s ((b,j),f):=λb j f C x g=>⟨g.1,g.2.2.2⟩;rw[o]at U;obtain⟨⟨W,X,p3,Y,p5,p6,p7,p8,p9⟩,a0,M⟩:=U;refine⟨λE=>⟨λA=>?_,λA=>⟨⟨⟨W,X,Y,p7,p6,bq (bq (Nat.le_add_right _ _) (Nat.le_add_right _ _)) M,h.ts.mono (by omega)⟩,λz i=>⟨⟨rfl,no,p,?_⟩⟩⟩,?_⟩⟩,λE=>⟨λA=>⟨⟨⟨W,X,Y,p7,p6,p5,h.ts.mono (by omega)⟩,λz i=>⟨⟨rfl,no,p,?_⟩⟩⟩,?_⟩,λA=>⟨⟨⟨n,h⟩,λz i=>⟨⟨rfl,no,p,?_⟩⟩⟩,?_⟩⟩⟩
  ·exfalso;have a:=aZ E;have b:=aZ A;rw[a]at b;exact absurd b (by decide)
  ·obtain⟨t,i⟩:=i;have:=t3 t z (by rw[o];exact i) (aE A) (aZ E);rw[o]at this⊢;exact this
  rotate_left
  ·obtain⟨t,i⟩:=i;have:=t4 _ z (by rw[o];exact i) (aZ A);rw[o]at this⊢;exact this
  rotate_left
  ·have:=t0 z (by rw[o];exact i) (aE A) (aE E);exact this
  all_goals
   intro b j;refine Wd.all λB=>?_;intro s3 N g;obtain⟨g1,g2⟩:=T b j B s3 N g;subst g1;obtain⟨T1,O⟩:=tail b j B no p g2;exact⟨T1,λc=>⟨(O c).1,λk D=>⟨((O c).2 k D).1,((O c).2 k D).2 _ rfl⟩⟩⟩) (l:=λ_=>aM λ_=>Bk _ _)
def xG:List (Int×BL)->Wd->Wd->Prop
 |[],w,a=>a=w
 |p::r,w,a=>∃y,jw w p.1 p.2 y/\xG r y.2 a
def yd(a:List Int)(c:List BL):List (Int×BL):=c.flatMap λb=>a.map λi=>(i,b)
def Wd.ids(w:Wd):List Int:=(cS w.lg.2.1 w.lg.2.1.length).map (·.1)
abbrev t8:=(Int×Int×Nw)×Wd
def bad(w:Wd):t8:=((26,0,jB),w)
def nf(z:yc):t8:=((z.1.1,z.1.2,jB),z.2)
def lx(w:Wd)(s:jx)(y:t8):Prop:=
 if 1<=s.1/\s.1<=5 then∃z,kv w s z/\y=nf z
 else if s.1=6 then(if 400<=w.st.length\/¬(1<=s.2.2.2.1/\s.2.2.2.1<=31/\s.2.2.2.1 % 2=1)then y=bad w else∃z,eN w s.2.2.2.1 z/\y=nf z)
 else if s.1=7 then(if¬(0<=s.2.1/\s.2.1<5)\/¬(1<=s.2.2.2.1/\s.2.2.2.1<=w.st.length)then y=bad w else∃z,jw w s.2.1 (w.st.getD (s.2.2.2.1-1).toNat []) z/\y=((z.1.1,0,z.1.2),z.2))
 else if s.1=8\/s.1=9 then y=nf (sY w s)
 else if s.1=10 then(if 400<=w.st.length\/65536<s.2.2.2.2.2.2.1.length then y=bad w else y=nf (zw w s.2.2.2.2.2.2.1 0))
 else if s.1=11 then y=nf (hV w s)
 else if s.1=12 then∃a,xG (yd w.ids w.st) w a/\y=((0,0,jB),a)
 else y=bad w
theorem Bn:∀{a b:List (Int×BL)}{w e f:Wd},xG a w e->xG b e f->xG (a++b) w f
 |[],_,_,_,_,h,c=>by
  have h:_=_:=h;subst h;exact c
 |p::a,_,_,_,_,h,c=>by
  obtain⟨y,g,i⟩:=h;exact⟨y,g,Bn i c⟩
theorem vC:∀{a:List (Int×BL)}{w w':Wd}{n:Nat},cR w (n+a.length)->(∀p∈a,0<=p.1/\p.1<5)->xG a w w'->cR w' n/\w'.st=w.st/\w'.ln=w.ln/\w'.lg=w.lg
 |[],_,_,_,h,_,e=>by
  have e:_=_:=e;subst e;exact⟨h,rfl,rfl,rfl⟩
 |p::a,w,w',n,h,f,⟨y,c,i⟩=>by
  have j:=iA (n:=n+a.length) (h.mono (by simp;omega)) (f p (aG ..)) c;have:=vC j (λq l=>f q (aA _ l)) i;have g:=ij c;obtain⟨z,o,e⟩:=c
  have m:y.2.lg=w.lg:=by
   have a:=(fE w p.1.toNat z.2).1.lg;have b:=(lR p.2 p.1 z.1 (w.aft p.1.toNat z.2)).1.lg;rw[e];exact b.trans a
  exact⟨this.1,this.2.1.trans g.1,this.2.2.1.trans g.2.1,this.2.2.2.trans m⟩
theorem Hj:∀(a:List (Int×BL)){w:Wd}{n:Nat},cR w (n+a.length)->(∀p∈a,0<=p.1/\p.1<5)->∃w',xG a w w'
 |[],w,_,_,_=>⟨w,rfl⟩
 |p::a,w,n,h,b=>by
  obtain⟨y,c⟩:=qi h (i:=p.1) p.2 (b p (aG ..));have e:=iA (n:=n+a.length) (h.mono (by simp;omega)) (b p (aG ..)) c;obtain⟨w',f⟩:=Hj a e (λq g=>b q (aA _ g));exact⟨w',y,c,f⟩
def kh(w:Wd):Prop:=∀i∈w.ids,0<=i/\i<5
theorem lS{w:Wd}{n:Nat}(h:cR w n):w.ids.length<=5:=by
 unfold Wd.ids;rw[bT];unfold cS;split
 ·exact aq _
 ·exact h.l5 _ (aS (by omega))
theorem lT(a:List Int)(c:List BL):(yd a c).length=c.length*a.length:=by
 unfold yd
 induction c with
 |nil=>simp
 |cons b c e=>simp only[List.flatMap_cons,aa,bT,ba,e,Nat.succ_mul];omega
theorem oT{a:List Int}{e:List BL}(h:∀i∈a,0<=i/\i<5):∀p∈yd a e,0<=p.1/\p.1<5:=by
 intro p c;unfold yd at c;obtain⟨b,_,f⟩:=List.mem_flatMap.1 c;obtain⟨i,g,rfl⟩:=dM.1 f;exact h i g
theorem Hk{w:Wd}{n:Nat}(h:cR w (n+5*w.st.length+3))(hi:kh w)(s:jx):∃y,lx w s y:=by
 unfold lx;split
 ·obtain⟨z,a⟩:=Bk w s;exact⟨_,z,a,rfl⟩
 split
 ·split
  ·exact⟨_,rfl⟩
  ·obtain⟨z,a⟩:=lw (k:=n+5*w.st.length+1) h s.2.2.2.1;exact⟨_,z,a,rfl⟩
 split
 ·split
  ·exact⟨_,rfl⟩
  ·rename_i g;rw[not_or]at g;obtain⟨z,a⟩:=qi h (i:=s.2.1) (w.st.getD (s.2.2.2.1-1).toNat []) (aC.1 g.1);exact⟨_,z,a,rfl⟩
 split
 ·exact⟨_,rfl⟩
 split
 ·split
  ·exact⟨_,rfl⟩
  ·exact⟨_,rfl⟩
 split
 ·exact⟨_,rfl⟩
 split
 ·obtain⟨b,c⟩:=Hj (yd w.ids w.st) (n:=0) (h.mono (by rw[lT];have:=lS h;have:=Nat.mul_le_mul_left w.st.length this;omega)) (oT hi);exact⟨_,b,c,rfl⟩
 ·exact⟨_,rfl⟩
def UC:Ct:=⟨2,⟨[sP 0,Vs 1],gb⟩,[⟨[(0,true,[.d Du])],Gx 33++pN 33⟩],λ(s,E,F,G,H,J,K,L,M,N,b,c,e,f,g,h,i,j,l,m,o,p,q,r,t,u,v,w,x,z,A,B,C,a,D,_)=>eD (s.2.2.2.2.2.2.1.length<=1000000/\kh (bV (E,F,G,H,J,K,L,M,N,b,c,e,f,g,h,i,j,l,m,o,p,q,r,t,u,v,w,x,z,A,B,C,a,D,()))/\∃n,cR (bV (E,F,G,H,J,K,L,M,N,b,c,e,f,g,h,i,j,l,m,o,p,q,r,t,u,v,w,x,z,A,B,C,a,D,())) (n+5*a.length+3)) (lx (bV (E,F,G,H,J,K,L,M,N,b,c,e,f,g,h,i,j,l,m,o,p,q,r,t,u,v,w,x,z,A,B,C,a,D,())) s) λy=>(y.1,bZ y.2)⟩
theorem nd1{p:Prop}[Decidable p](h:(!decide p)=true):¬p:=λq=>by rw[decide_eq_true q]at h;cases h
theorem nd2{p:Prop}[Decidable p](h:(!decide p)=false):p:=by
 by_cases q:p
 ·exact q
 ·rw[decide_eq_false q]at h;cases h
theorem Hl(a:List Int)(l:List BL)(b:BL):yd a (l++[b])=yd a l++a.map λi=>(i,b):=by
 unfold yd;rw[List.flatMap_append];simp
theorem Bo{a:List Int}{st:List BL}{k r:Nat}(c:a.length<=5)(j:k<st.length)(e:r<=a.length)(b:BL):(yd a (st.take k)++(a.take r).map λi=>(i,b)).length<=5*st.length:=by
 rw[aa,lT,bT,be,be];have f:min k st.length=k:=eB (by omega);have g:min r a.length=r:=eB e;rw[f,g];have h:(k+1)*a.length<=st.length*5:=Nat.mul_le_mul (by omega) c;rw[Nat.succ_mul]at h;omega
theorem Hm{a:List Int}{l:List BL}{r:Nat}(h:∀i∈a,0<=i/\i<5)(b:BL):∀p∈(yd a l++(a.take r).map λi=>(i,b)),0<=p.1/\p.1<5:=by
 intro p c;rcases bb.1 c with q|q
 ·exact oT h p q
 ·obtain⟨i,e,rfl⟩:=dM.1 q;exact h i (List.mem_of_mem_take e)
def PR:cg:=⟨[sP 0,(4,false,[.ptr 44 0]),(6,false,[.d (.sl .i64)]),sO 102 31,sI 103,sI 104],C'++[GU]⟩
def Bp(x:UC.inp.den)(y:PR.den):Prop:=match x,y with
 |(s,a1,a2,a3,a4,a5,a6,a7,a8,a9,b,c,e,f,g,h,i,l,m,n,o,p,q,r,t,u,v,w,z,A,B,C,D,a,E,_),(F,ln,j,b1,b2,b3,b4,b5,b6,b7,b8,b9,G,H,J,K,L,M,N,O,P,Q,R,S,U,W,X,Y,a0,b0,c0,c1,c2,c3,c4,c5,c6,_,_)=>s.1=12/\F=(bV (a1,a2,a3,a4,a5,a6,a7,a8,a9,b,c,e,f,g,h,i,l,m,n,o,p,q,r,t,u,v,w,z,A,B,C,D,a,E,())).ids/\ln=a.length/\∃k:Nat,j=k/\k<=a.length/\xG (yd F (a.take k)) (bV (a1,a2,a3,a4,a5,a6,a7,a8,a9,b,c,e,f,g,h,i,l,m,n,o,p,q,r,t,u,v,w,z,A,B,C,D,a,E,())) (bV (b1,b2,b3,b4,b5,b6,b7,b8,b9,G,H,J,K,L,M,N,O,P,Q,R,S,U,W,X,Y,a0,c1,c2,c3,c4,c5,c6,b0,c0,()))
def PT:cg:=⟨[sP 0,(4,false,[.ptr 44 0]),(6,false,[.d (.sl .i64)]),sB 8,sO 102 31,sI 103,sI 104,(108,false,[.d (.sl .i64)]),sI 109,sI 110],C'++[GU]⟩
def Bq(x:UC.inp.den)(i0:Int)(y:PT.den):Prop:=match x,y with
 |(s,a1,a2,a3,a4,a5,a6,a7,a8,a9,e,f,g,h,l,m,n,o,p,q,t,u,v,w,z,A,B,C,D,E,F,G,H,a,J,_),(c,b,ln,j,K,L,j2,b1,b2,b3,b4,b5,b6,b7,b8,b9,M,N,O,P,Q,R,S,U,W,X,Y,a0,b0,c0,c1,c2,c3,c4,c5,c6,c7,c8,c9,d0,d1,_,_)=>s.1=12/\c=(bV (a1,a2,a3,a4,a5,a6,a7,a8,a9,e,f,g,h,l,m,n,o,p,q,t,u,v,w,z,A,B,C,D,E,F,G,H,a,J,())).ids/\ln=a.length/\j=i0/\K=c/\L=c.length/\∃k r:Nat,j=k/\k<a.length/\b=a.getD k []/\j2=r/\r<=c.length/\xG (yd c (a.take k)++(c.take r).map λi=>(i,b)) (bV (a1,a2,a3,a4,a5,a6,a7,a8,a9,e,f,g,h,l,m,n,o,p,q,t,u,v,w,z,A,B,C,D,E,F,G,H,a,J,())) (bV (b1,b2,b3,b4,b5,b6,b7,b8,b9,M,N,O,P,Q,R,S,U,W,X,Y,a0,b0,c0,c1,c2,c3,c6,c7,c8,c9,d0,d1,c4,c5,()))
def doA(x:UC.inp.den):dB:=⟨[(31,oG PR (Bp x) (λ(_,b,j,_)=>(@bv Int Int Int _ b j).toNat) λ(_,_,c,_)=>[(34,bK PT (Bq x c) λ(_,_,_,_,_,a,e,_)=>(@bv Int Int Int _ a e).toNat)])],[],[],[],0⟩
abbrev O_(v:(Int×Int×Nw)×TA Unit):cw UC.out:=⟨0,v⟩
def O':bw:=(16,[UC])::PQ
theorem P_:KK O':=kA N' doA (∀(a:Int×Int×Int×Int×Int×Int×BL×Lt),let P:=65536<nI a.2.2.2.2.2.2.1;let R:= !decide (0<=a.2.1/\a.2.1<5);let B:=a.2.2.2.1-1;let z8:= !decide (1<=a.2.2.2.1/\a.2.2.2.1<=31/\a.2.2.2.1 % (2:Int)=1);WA λf g h i j k l m n o p q r s t u v w y z S U W X Y d a5 a6 a7 a8 a9 b0 c e=>let F:=400<=c.length;let z9:= !decide (1<=a.2.2.2.1/\a.2.2.2.1<=nI c);let x:=(g,h,i,j,k,l,m,n,o,p,q,r,s,t,u,v,w,y,z,S,U,W,X,Y,d,a5,a6,a7,a8,a9,b0,c,e,());let D:=O_ ((26,0,0,0,0,0,false,false,[],()),f,x);∀(Q:cw UC.out->Prop),let z4:=(c.length<=1000/\e.length<=1000/\∀(b:BL),b∈c->b.length<=2000000)/\∀b,b=sY (bV (f,x)) a->Q ⟨0,(b.1.1,b.1.2,0,0,0,0,false,false,[],()),bZ b.2⟩;let G:=(∃a,cR (bV (f,x)) (a+1))/\∀(b:(Int×Int)×Wd),kv (bV (f,x)) a b->Q ⟨0,(b.1.1,b.1.2,0,0,0,0,false,false,[],()),bZ b.2⟩;bd UC (a,f,x) Q->Br (a.1==1) G (Br (a.1==2) G (Br (a.1==3) G (Br (a.1==4) G (Br (a.1==5) G (Br (a.1==6) (True/\Br (decide F) (Q D) (True/\Br z8 (Q D) ((1<=a.2.2.2.1/\a.2.2.2.1<=31/\∃a,cR (bV (f,x)) (a+2))/\∀(b:(Int×Int)×Wd),eN (bV (f,x)) a.2.2.2.1 b->Q ⟨0,(b.1.1,b.1.2,0,0,0,0,false,false,[],()),bZ b.2⟩))) (Br (a.1==7) (True/\Br R (Q D) (True/\Br z9 (Q D) (ac B/\iN B c/\(0<=a.2.1/\a.2.1<5/\(gD c B []).length<=10000000/\∃a,cR (bV (f,x)) (a+1))/\∀(b:(Int×Nw)×Wd),jw (bV (f,x)) a.2.1 (gD c B []) b->Q ⟨0,(b.1.1,0,b.1.2),bZ b.2⟩))) (Br (a.1==8) z4 (Br (a.1==9) z4 (Br (a.1==10) (True/\Br (decide F) (Q D) (Br (decide P) (Q D) ((c.length<=1000000/\e.length<=1000000)/\Q ⟨0,(0,nI c+1,0,0,0,0,false,false,[],()),f,g,h,i,j,k,l,m,n,o,p,q,r,s,t,u,v,w,y,z,S,U,W,X,Y,d,a5,a6,a7,a8,a9,b0,c++[a.2.2.2.2.2.2.1],e++[0],()⟩))) (Br (a.1==11) ((ah a.2.2.2.2.2.2.1<=1000000/\∃a,cR (bV (f,x)) (a+1))/\∀b,b=hV (bV (f,x)) a->Q ⟨0,(b.1.1,b.1.2,0,0,0,0,false,false,[],()),bZ b.2⟩) (Br (a.1==12) (cC d.2.1 d.2.2.1/\Is (Bp (a,f,x) (rZ (λa=>a.1) (cS d.2.1 (nI d.2.1)),nI c,0,f,g,h,i,j,k,l,m,n,o,p,q,r,s,t,u,v,w,y,z,S,U,W,X,Y,d,c,e,a5,a6,a7,a8,a9,b0,(0,0,0,0,0,0,false,false,[],()),()))/\∀(K:List Int)(L C:Int),WB λf5 f6 f7 f8 f9 g0 g1 g2 g3 g4 g5 g6 g7 g8 g9 h0 h1 h2 h3 h4 h5 h6 h7 h8 h9 i0 M i1 i2 i3 i4 i5 i6 i7=>∀(j0:Int×Int×Nw),let z6:=(f5,f6,f7,f8,f9,g0,g1,g2,g3,g4,g5,g6,g7,g8,g9,h0,h1,h2,h3,h4,h5,h6,h7,h8,h9,i0,M,i1,i2,i3,i4,i5,i6,i7,j0,());Bp (a,f,x) (K,L,C,z6)->Bd (C<L) (iN C M/\Is (Bq (a,f,x) C (K,gD M C [],L,C,K,nI K,0,z6))/\∀(i8:List Int)(N:BL)(O H:Int)(E:List Int)(J A:Int),WB λc1 c2 c3 c4 c5 c6 c7 c8 c9 d0 d1 d2 d3 d4 d5 d6 d7 d8 d9 e0 e1 e2 e3 e4 e5 e6 e7 e8 e9 f0 f1 f2 f3 f4=>let z5:=bV (c1,c2,c3,c4,c5,c6,c7,c8,c9,d0,d1,d2,d3,d4,d5,d6,d7,d8,d9,e0,e1,e2,e3,e4,e5,e6,e9,f0,f1,f2,f3,f4,e7,e8,());∀(i9:Int×Int×Nw),let z7:=(c1,c2,c3,c4,c5,c6,c7,c8,c9,d0,d1,d2,d3,d4,d5,d6,d7,d8,d9,e0,e1,e2,e3,e4,e5,e6,e7,e8,e9,f0,f1,f2,f3,f4,i9,());Bq (a,f,x) C (i8,N,O,H,E,J,A,z7)->Bd (A<J) (iN A E/\(0<=gD E A 0/\gD E A (0:Int)<5/\N.length<=10000000/\∃a,cR z5 (a+1))/\∀(b:(Int×Nw)×Wd),jw z5 (gD E A 0) N b->ac (A+1)/\Is (Bq (a,f,x) C (i8,N,O,H,E,J,A+1,h_ b.2 (i9,()))/\lN (J-(A+1)) (J-A))) (ac (H+1)/\Is (Bp (a,f,x) (i8,O,H+1,z7)/\lN (O-(H+1)) (L-C)))) (Q ⟨0,(0,0,0,0,0,0,false,false,[],()),f5,f6,f7,f8,f9,g0,g1,g2,g3,g4,g5,g6,g7,g8,g9,h0,h1,h2,h3,h4,h5,h6,h7,h8,h9,i0,i2,i3,i4,i5,i6,i7,M,i1,()⟩)) (Q D))))))))))))) (by
 conv=>zeta
 unfold Bd Br WA WB gD iN lN nI bd bZ h_;intro s;refine Wd.all λw=>?_;intro Q ⟨⟨ht,A,n,C⟩,hQ⟩;have C:cR w (n+5*w.st.length+3):=C;have A:kh w:=A;have a:∀y:t8,lx w s y->Q ⟨0,(y.1,bZ y.2)⟩:=λy hy=>hQ y hy;clear hQ;have m:=C.st;have U:∃k,cR w (k+1):=⟨n+5*w.st.length+2,C⟩;have w2:∃k,cR w (k+2):=⟨n+5*w.st.length+1,C⟩;have g:=a (bad w)
 have o:∀k:Int,(s.1==k)=true->1<=k/\k<=5->(∃x,cR w (x+1))/\∀(z:(Int×Int)×Wd),kv w s z->Q ⟨0,((z.1.1,z.1.2,jB),bZ z.2)⟩:=λk h h1=>⟨U,λz p=>a (nf z) (by
  have e:s.1=k:=aZ h;unfold lx;rw[am (by rw[e];exact h1)];exact⟨z,p,rfl⟩)⟩
 refine⟨λc=>o 1 c (by decide),λW=>⟨λc=>o 2 c (by decide),λX=>⟨λc=>o 3 c (by decide),λY=>⟨λc=>o 4 c (by decide),λc4=>⟨λc=>o 5 c (by decide),λc5=>?_⟩⟩⟩⟩⟩;clear o
 have F:¬(1<=s.1/\s.1<=5):=by
  have W:¬@Eq Int s.1 1:=aE W;have X:¬@Eq Int s.1 2:=aE X;have Y:¬@Eq Int s.1 3:=aE Y;have c4:¬@Eq Int s.1 4:=aE c4;have c5:¬@Eq Int s.1 5:=aE c5;intro h;have h1:@bc Int _ 1 s.1:=h.1;have h2:@bc Int _ s.1 5:=h.2;omega
 unfold lx at g a;rw[af F]at g;simp only[af F]at a;clear W X Y c4 c5;refine⟨λc=>?_,λc6=>?_⟩
 ·have e:s.1=6:=aZ c;rw[am e]at g;simp only[am e]at a;refine⟨trivial,λd=>g (by rw[am (.inl (by have:=ag d;omega))]),λd=>⟨trivial,λf=>g (by rw[am (.inr (nd1 f))]),λf=>?_⟩⟩;have f:1<=s.2.2.2.1/\s.2.2.2.1<=31/\s.2.2.2.1 % 2=1:=nd2 f;refine⟨⟨f.1,f.2.1,w2⟩,λz p=>a (nf z) ?_⟩;rw[af (λq=>q.elim (λq=>by have:=an d;omega) (λq=>q f))];exact⟨z,p,rfl⟩
 rw[af (aE c6)]at g;simp only[af (aE c6)]at a;refine⟨λc=>?_,λc7=>?_⟩
 ·have e:s.1=7:=aZ c;rw[am e]at g;simp only[am e]at a;refine⟨trivial,λd=>g (by rw[am (.inl (nd1 d))]),λd=>⟨trivial,λf=>g (by rw[am (.inr (nd1 f))]),λf=>?_⟩⟩;have d:0<=s.2.1/\s.2.1<5:=nd2 d;have f:1<=s.2.2.2.1/\s.2.2.2.1<=w.st.length:=nd2 f;have f1:@bc Int _ 1 s.2.2.2.1:=f.1;have f2:@bc Int _ s.2.2.2.1 w.st.length:=f.2;have hm:=m.2.2 _ (aS (z:=([]:BL)) (show(s.2.2.2.1-1).toNat<w.st.length by omega));refine⟨by unfold ac;omega,by omega,⟨d.1,d.2,by omega,U⟩,λz p=>a ((z.1.1,0,z.1.2),z.2) ?_⟩;rw[af (λq=>q.elim (λq=>q d) (λq=>q f))];exact⟨z,p,rfl⟩
 rw[af (aE c7)]at g;simp only[af (aE c7)]at a;have O:w.st.length<=1000/\w.ln.length<=1000/\∀b:BL,b∈w.st->b.length<=2000000:=⟨m.1,by rw[m.2.1];exact m.1,m.2.2⟩;refine⟨λc=>⟨O,λz p=>a (nf z) ?_⟩,λc8=>⟨λc=>⟨O,λz p=>a (nf z) ?_⟩,λc9=>?_⟩⟩
 ·rw[am (.inl (aZ c))];exact aH nf p
 ·rw[am (.inr (aZ c))];exact aH nf p
 have G:¬(s.1=8\/s.1=9):=λq=>q.elim (aE c8) (aE c9);rw[af G]at g;simp only[af G]at a;refine⟨λc=>?_,λH=>?_⟩
 ·have e:s.1=10:=aZ c;rw[am e]at g;simp only[am e]at a;refine⟨trivial,λd=>g (by rw[am (.inl (by have:=ag d;omega))]),λd=>⟨λf=>g (by rw[am (.inr (by have:=ag f;omega))]),λf=>⟨⟨by omega,by rw[m.2.1];omega⟩,a (nf (zw w s.2.2.2.2.2.2.1 0)) ?_⟩⟩⟩;have d:=an d;have f:=an f;rw[af (λq=>q.elim (λq=>by omega) (λq=>by omega))]
 rw[af (aE H)]at g;simp only[af (aE H)]at a;refine⟨λc=>⟨⟨ht,U⟩,λz p=>a (nf z) ?_⟩,λJ=>?_⟩
 ·rw[am (aZ c)];exact aH nf p
 rw[af (aE J)]at g;simp only[af (aE J)]at a;refine⟨λc=>?_,λa0=>g (by rw[af (aE a0)])⟩;have B:s.1=12:=aZ c;clear g c c6 c7 c8 c9 H J G F;simp only[am B]at a;have P:=lS C;refine⟨C.lg.1,⟨⟨B,rfl,rfl,0,rfl,aq _,rfl⟩⟩,?_⟩;intro a1 ln j;refine Wd.all2 λv=>?_;rintro sn ⟨-,K,L,k,M,hk,t⟩;have K:a1=w.ids:=K;have L:ln=(w.st.length:Int):=L;have M:j=(k:Int):=M;have hk:k<=w.st.length:=hk;subst K L M;have t:xG (yd w.ids (w.st.take k)) w v:=t;have ek:((k:Int).toNat)=k:=by omega
 rw[ek];refine⟨λc=>?_,λc=>?_⟩
 ·have c:k<w.st.length:=by have:=ag c;omega
  have f0:xG (yd w.ids (w.st.take k)++(w.ids.take 0).map λi=>(i,w.st.getD k [])) w v:=by
   rw[List.take_zero,List.map_nil,aW];exact t
  have D:=vC (n:=n+3) (C.mono (by have:=Bo P c (aq _) (w.st.getD k []);omega)) (Hm A (w.st.getD k [])) f0;have N:v.st=w.st:=D.2.1;refine⟨by rw[N];omega,⟨⟨B,rfl,rfl,rfl,rfl,rfl,k,0,rfl,c,by rw[N],rfl,aq _,f0⟩⟩,?_⟩;clear f0 D N t;intro R b2 a2 j3 S a3 j4;refine Wd.all2 λu=>?_;rintro a5 ⟨-,K,L,M,e4,e5,E,r,e6,-,e7,e8,hr,t⟩;have K:R=w.ids:=K;have L:a2=(w.st.length:Int):=L;have M:j3=(k:Int):=M;have e7:b2=w.st.getD E []:=e7;have a4:E=k:=by have e6:j3=(E:Int):=e6;omega
  subst a4;subst K;have e4:S=w.ids:=e4;have e5:a3=(w.ids.length:Int):=e5;have e8:j4=(r:Int):=e8;have hr:r<=w.ids.length:=hr;subst L M e4 e5 e7 e8;clear e6;have t:xG (yd w.ids (w.st.take E)++(w.ids.take r).map λi=>(i,w.st.getD E [])) w u:=t;have D:=vC (n:=n+3) (C.mono (by have:=Bo P c hr (w.st.getD E []);omega)) (Hm A (w.st.getD E [])) t;have er:((r:Int).toNat)=r:=by omega
  rw[er];refine⟨λd=>?_,λd=>?_⟩
  ·have d:r<w.ids.length:=by have:=ag d;omega
   have hm:=A _ (aS (z:=(0:Int)) d);have a6:=m.2.2 _ (aS (z:=([]:BL)) c);refine⟨by omega,⟨hm.1,hm.2,by omega,n+2,D.1⟩,λz p=>⟨by unfold ac;omega,⟨⟨B,rfl,rfl,rfl,rfl,rfl,E,r+1,rfl,c,rfl,rfl,d,?_⟩,by omega⟩⟩⟩;show xG _ w z.2;rw[cQ (z:=(0:Int)) d,dn,<-ay];exact Bn t ⟨z,p,rfl⟩
  ·have d:r=w.ids.length:=by have:=an d;omega
   subst d;refine⟨by unfold ac;omega,⟨⟨B,rfl,rfl,E+1,rfl,c,?_⟩,by omega⟩⟩;show xG _ w u;rw[cQ (z:=([]:BL)) c,Hl];rw[br]at t;exact t
 ·have d:k=w.st.length:=by have:=an c;omega
  subst d;rw[br]at t;exact a ((0,0,jB),v) ⟨v,t,rfl⟩) (l:=λ_=>aM λh=>by obtain⟨_,h2,_,h3⟩:=h;exact Hk h3 h2 _)
end Go.Tp
namespace Go.Tp
open Go.Hv Go.Proofs Go.Proofs.YtgpideichgnmhaaGreat Go.RowKit Go.ChangeShapes Go.WideShapes
set_option maxRecDepth 100000
set_option maxHeartbeats 0
section
theorem Lj:ownKnob Tryz.prog.godebug=none:=by kernel_rfl
theorem Bt:laidOutB Tryz.prog=true:=by kernel_rfl
theorem P':mapsRowed Tryz.prog=true:=by kernel_rfl
theorem UD:Tryz.prog.stopsHeard=true:=by kernel_rfl
theorem UE:Tryz.prog.mayEnter=true:=by kernel_rfl
section
variable{H:Type}{enc:TypeId×Value->H}{W:World}
theorem Hn:wX enc Tryz.prog W 32 tB:=uS (e:=5) (ce:=1) (by kernel_rfl) (by kernel_rfl) (by decide) (QG (by kernel_rfl))
theorem ly:wX enc Tryz.prog W 3 .i64:=Ja (by kernel_rfl)
theorem PU:wX enc Tryz.prog W 9 .st:=QH (by kernel_rfl)
theorem UF:wX enc Tryz.prog W 34 Dq:=
 rA (ps:=[(3,0),(3,1),(3,2),(3,3),(32,4),(32,5),(32,6)]) (by kernel_rfl) (by kernel_rfl)
  (.cons ly (.cons ly (.cons ly (.cons ly (.cons Hn (.cons Hn (.cons Hn .nil))))))) (by kernel_rfl)
theorem UG:wX enc Tryz.prog W 36 Iu:=
 rA (ps:=[(3,0),(3,1),(3,2),(3,3),(3,4),(3,5),(9,6),(34,7)]) (by kernel_rfl) (by kernel_rfl)
  (.cons ly (.cons ly (.cons ly (.cons ly (.cons ly (.cons ly (.cons PU (.one UF)))))))) (by kernel_rfl)
theorem UH:wX enc Tryz.prog W 22 (.sl Iu):=uS (e:=36) (ce:=14) (by kernel_rfl) (by kernel_rfl) (by decide) UG
theorem a34:wX enc Tryz.prog W 57 (.sl .st):=uS (e:=9) (ce:=1) (by kernel_rfl) (by kernel_rfl) (by decide) PU
theorem a35:wX enc Tryz.prog W 58 (.sl .i64):=uS (e:=3) (ce:=1) (by kernel_rfl) (by kernel_rfl) (by decide) ly
end
theorem Ll{H:Type}{enc:TypeId×Value->H}{P:Program}{W:World}{t e:TypeId}{T:Ty}{v:Value}{d:DataW H}{ps:List MemPlace}{b:Nat}(g:P.underlying t=some (.slice e))(h:wX enc P W t T)(c:Value.okWide P W .any b t v)(i:DataW.Trod enc P W 0 (λ_=>true) true t v d ps):∃x:T.den,Rd W QF T x [v]:=by
 obtain⟨a,len,cap,rfl⟩:=okWide_slice g c;obtain⟨f,j⟩:=i;obtain⟨x,l⟩:=h f _ _ j;exact⟨x,l⟩
theorem Ho{W:World}{A:Nat->Prop}{ρ:Nat->Pl}{T:Ty}{x:T.den}{v:Value}(h:Rd W A T x [v]):aT W A ρ (.val false [.d T x]) v:=⟨[v],⟨[v],[],rfl,h,rfl⟩,rfl⟩
theorem Hp{P:Program}{f:FuncId}{n:Nat}{g:cg}{c:g.den->Tr (cw [⟨[sL 0],[]⟩])}{vals:Array Value}{W:World}(h:Calls P f vals W λe i=>Below W.heap.size W i/\∃(ρ':Nat->Pl)(y:cw (Ct.mk n g [⟨[sL 0],[]⟩] c).out)(vs:List Value)(A:Nat->Prop),y=⟨0,(true,())⟩/\e= .returned (kU vs)/\F2 (yg i A ρ') (SP.res ib (cY (Ct.mk n g [⟨[sL 0],[]⟩] c).out y.1).sl ((cY (Ct.mk n g [⟨[sL 0],[]⟩] c).out y.1).get y.2).1) vs):
 Calls P f vals W λe i=>e= .returned (.bool true)/\Below W.heap.size W i:=by
 refine h.mono λe i⟨hB,ρ',y,vs,A,p,q,r⟩=>⟨?_,hB⟩;subst p
 match vs,r with
 |[v],⟨⟨s,⟨a,b,j,l,m⟩,o⟩,_⟩=>
  have l:a=[.bool true]:=l;have m:b=[]:=m;have o:s=[v]:=o;subst l m;rw[aW]at j;rw[o]at j;rw[q,(List.cons.inj j).1];rfl
end
end Go.Tp
namespace Go.Tp
open Go.Hv Go.Proofs Go.RowKit
set_option maxRecDepth 100000
set_option maxHeartbeats 0
def Bu:Ct:=⟨4,⟨[sI 0,sB 1,sB 2,sB 3],[]⟩,[⟨[sP 0],gG 0⟩],λ(id,a,b,c,_)=>one (0<=id/\id<5/\a.length=32/\b.length=32/\c.length=32) (id,a,b,(c,[],[],()),js,[[0,0,0,0,0],[0,0,0,0,0]],[],[],[],())⟩
abbrev UI(v:Int×BL×BL×Lg×Pg×La×List Fk×KM×Ln×Unit):cw Bu.out:=⟨0,v⟩
def PV:bw:=(35,[Bu])::Bg
theorem Hq:KK PV:=kA xC (cE Bu 0) (∀(a:Int)(b c d:BL)(Q:cw Bu.out->Prop),let z:=UI (a,b,c,(d,[],[],()),([],[],[],([((0,0,()),0,0,0,false,[[],[]],())],0,()),([],()),()),[[0,0,0,0,0],[0,0,0,0,0]],[],[],[],());(Tr.need (0<=a/\a<5/\b.length=32/\c.length=32/\d.length=32) (Tr.leaf z)).sat Q->Bd (a<0) False (Bd (5<=a) False (Br (!(nI b)==32) False (Br (!(nI c)==32) False (Br (!(nI d)==32) False (b.length<=1000000/\c.length<=1000000/\d.length<=1000000/\True/\True/\Q z)))))) (by
 conv=>zeta
 unfold Bd Br nI;intro id e f g Q ⟨⟨i,j,l,a,b⟩,c⟩;simp only[ai,aj,aR,az,ne_eq,aP,aK];refine⟨λh=>by omega,λa=>⟨λh=>by omega,λb=>⟨λh=>by omega,λm=>⟨λh=>by omega,λn=>⟨λh=>by omega,λo=>⟨by omega,by omega,by omega,trivial,trivial,c⟩⟩⟩⟩⟩⟩)
def gy:Nat->List (List BL)×List Mb×List Tm×KV
 |0=>([],[],[],[])
 |k+1=>
  let p:=gy k
  let a:=dV (115,[dv ((2*k+1:Nat):Int)],()) p.2.2.1 p.2.2.2
  let b:=dV (115,[dv ((2*k+2:Nat):Int)],()) a.2.1 a.2.2
  let c:=dh (112,[a.1],()) b.2.1 b.2.2
  let d:=dh (118,[b.1],()) c.2.1 c.2.2
  (p.1++[[a.1,b.1]],p.2.1++[((k:Int),c.1,d.1,())],d.2)
def Bv(i:Nat):Cl:=⟨i,((gy 5).1.getD i []).getD 0 [],((gy 5).1.getD i []).getD 1 [],(((gy 5).2.1.getD 0 yS).2.2.1,[],[],()),js,[[0,0,0,0,0],[0,0,0,0,0]],[],[],[]⟩
def ng:Wd:=⟨(gy 5).1,(gy 5).2.1,[false,false,false,false,false],10,(gy 5).2.2.2,Bv 0,Bv 1,Bv 2,Bv 3,Bv 4,[],[],[],[],[],(((gy 5).2.1.getD 0 yS).2.2.1,[],[],()),(gy 5).2.2.1,[],[]⟩
theorem vD(K:Nat)(u:K<=400000000):∀k:Nat,k<=5->bO (K+4*(5-k)) (gy k).2.2.1/\(gy k).1.length=k/\(gy k).2.1.length=k/\(∀r∈(gy k).1,r.length=2/\∀s∈r,s.length=32)/\∀p∈(gy k).2.1,p.2.1.length=32/\p.2.2.1.length=32
 |0,_=>⟨⟨λt v=>(by cases v),(by show 0+(K+4*(5-0))<=4294967296;omega)⟩,rfl,rfl,by simp[gy],by simp[gy]⟩
 |k+1,J=>by
  obtain⟨w,x,y,z,A⟩:=vD K u k (by omega);generalize B:gy k=p at*
  have e:gy (k+1)=(let a:=dV (115,[dv ((2*k+1:Nat):Int)],()) p.2.2.1 p.2.2.2
   let b:=dV (115,[dv ((2*k+2:Nat):Int)],()) a.2.1 a.2.2
   let c:=dh (112,[a.1],()) b.2.1 b.2.2
   let d:=dh (118,[b.1],()) c.2.1 c.2.2
   (p.1++[[a.1,b.1]],p.2.1++[((k:Int),c.1,d.1,())],d.2)):=by subst B;rfl
  rw[e];dsimp only;have f:∀l:List BL,(nZ (115,l,())).toNat=32:=λl=>rfl;have i:∀l:List BL,(nZ (112,l,())).toNat=32:=λl=>rfl;have j:∀l:List BL,(nZ (118,l,())).toNat=32:=λl=>rfl;have C:=oJ (k:=K+4*(5-(k+1))+3) p.2.2.2 (w.mono (by omega)) (fP ((2*k+1:Nat):Int));have m:=(tU (115,[dv ((2*k+1:Nat):Int)],()) p.2.2.1 p.2.2.2).trans (f _);generalize dV (115,[dv ((2*k+1:Nat):Int)],()) p.2.2.1 p.2.2.2=a at*;have D:=oJ (k:=K+4*(5-(k+1))+2) a.2.2 C (fP ((2*k+2:Nat):Int));have n:=(tU (115,[dv ((2*k+2:Nat):Int)],()) a.2.1 a.2.2).trans (f _);generalize dV (115,[dv ((2*k+2:Nat):Int)],()) a.2.1 a.2.2=b at*;have E:=pJ (k:=K+4*(5-(k+1))+1) b.2.2 D (kD (k:=112) (by decide) (by decide) (show aB a.1 by unfold aB;omega))
  have F:(dh (112,[a.1],()) b.2.1 b.2.2).1.length=32:=by
   have e:dh (112,[a.1],()) b.2.1 b.2.2=dV (112,[a.1],()) b.2.1 b.2.2:=am m;rw[e];exact(tU _ _ _).trans (i _)
  generalize dh (112,[a.1],()) b.2.1 b.2.2=c at*;have G:=pJ (k:=K+4*(5-(k+1))) c.2.2 E (kD (k:=118) (by decide) (by decide) (show aB b.1 by unfold aB;omega))
  have H:(dh (118,[b.1],()) c.2.1 c.2.2).1.length=32:=by
   have e:dh (118,[b.1],()) c.2.1 c.2.2=dV (118,[b.1],()) c.2.1 c.2.2:=am n;rw[e];exact(tU _ _ _).trans (j _)
  generalize dh (118,[b.1],()) c.2.1 c.2.2=d at*;refine⟨G,by simp[x],by simp[y],λr g=>?_,λq h=>?_⟩
  ·rcases bb.1 g with g|g
   ·exact z r g
   ·rw[cf.1 g];refine⟨rfl,λs o=>?_⟩;simp only[bt,List.not_mem_nil,or_false]at o;rcases o with rfl|rfl
    ·exact m
    ·exact n
  ·rcases bb.1 h with h|h
   ·exact A q h
   ·rw[cf.1 h];exact⟨F,H⟩
theorem bO.le'{k:Nat}{ts:List Tm}(h:bO k ts):ts.length<=4294967296:=by have:=h.2;omega
theorem lz{k:Nat}{p:List (List BL)×List Mb×List Tm×KV}(e:gy k=p){a b c d:BL×List Tm×KV}(f:a=dV (115,[dv ((2*k+1:Nat):Int)],()) p.2.2.1 p.2.2.2)(g:b=dV (115,[dv ((2*k+2:Nat):Int)],()) a.2.1 a.2.2)(h:c=dh (112,[a.1],()) b.2.1 b.2.2)(i:d=dh (118,[b.1],()) c.2.1 c.2.2):gy (k+1)=(p.1++[[a.1,b.1]],p.2.1++[((k:Int),c.1,d.1,())],d.2):=by subst e f g h i;rfl
theorem UJ{i j:Nat}(hi:i<5)(a:j<2):(((gy 5).1.getD i (ak 2 [])).getD j []).length=32:=by
 obtain⟨_,b,_,c,_⟩:=vD 0 (by omega) 5 (aD _);have:=c _ (aS (z:=ak 2 []) (by rw[b];exact hi));exact this.2 _ (aS (by rw[this.1];exact a))
theorem PW{i:Nat}(hi:i<5):((gy 5).2.1.getD i yS).2.1.length=32/\((gy 5).2.1.getD i yS).2.2.1.length=32:=by
 obtain⟨_,_,a,_,b⟩:=vD 0 (by omega) 5 (aD _);exact b _ (aS (by rw[a];exact hi))
theorem lA:cR ng 10000:=by
 obtain⟨o,l,p,g,q⟩:=vD 100010000 (by omega) 5 (aD _);have w:=(PW (i:=0) (by omega)).2
 have h:∀i j:Nat,i<5->j<2->(((gy 5).1.getD i []).getD j []).length=32:=by
  intro i j f t;have:=g _ (aS (z:=[]) (show i<(gy 5).1.length by rw[l];exact f));exact this.2 _ (aS (by rw[this.1];exact t))
 have u:∀i:Nat,i<5->ls (Bv i)/\(Bv i).c=i/\(Bv i).fk.length+400*10000+2000<=10000000:=by
  intro i f;have y:=h i 0 f (by omega);refine⟨⟨by show(0:Int)<=(i:Int);omega,by show(i:Int)<5;omega,by show aB (((gy 5).1.getD i []).getD 0 []);unfold aB;omega,⟨rfl,?_⟩,vh,?_,?_,by show 0<=100000;omega,by show aB ((gy 5).2.1.getD 0 yS).2.2.1;unfold aB;omega⟩,rfl,by show 0+400*10000+2000<=10000000;omega⟩
  ·intro r b;have b:r∈([[0,0,0,0,0],[0,0,0,0,0]]:List (List Int)):=b;simp only[bt,List.not_mem_nil,or_false,or_self]at b;subst b;refine⟨rfl,λn m=>?_⟩;simp only[bt,List.not_mem_nil,or_false,or_self]at m;subst m;decide
  ·intro a;have e:dx (Bv i).bk a=[]:=rfl;rw[e];exact⟨aq _,by simp⟩
  ·exact⟨⟨aq _,by simp[Bv]⟩,rfl,by simp[Bv],by simp[Bv]⟩
 refine⟨λi f=>?_,o.mono (by omega),⟨l,λr b=>⟨(g r b).1,λs h=>by have:=(g r b).2 s h;omega⟩⟩,⟨p,λx v=>by have:=q x v;omega⟩,⟨⟨⟨aq _,by simp[ng]⟩,rfl,by simp[ng],by simp[ng]⟩,aq _,by show aB ((gy 5).2.1.getD 0 yS).2.2.1;unfold aB;omega⟩,by simp[ng],rfl,⟨aq _,rfl,by simp[ng]⟩,⟨by show(0:Int)<=10;omega,by show(10:Int)+2*10000<=1000000;omega⟩⟩;have:ng.cl i=Bv i:=by rcases fo f with rfl|rfl|rfl|rfl|rfl<;>rfl
 rw[this];exact u i f
def De:Ct:=⟨3,⟨[sI 0,(1,false,[.k (.bool false)]),(2,false,[.nils])],[]⟩,[⟨[(0,false,[.nilp])],[]⟩,⟨[sP 0],gb⟩],λ(n,_)=> .ite (decide (1<=n/\n<=31/\n % 2=1)) (.all ((Int×Int)×Wd) (eN ng n) λy=> .leaf ⟨1,(bZ y.2)⟩) (.leaf ⟨0,()⟩)⟩
def Q_:cg:=⟨[sI 0,(7,false,[.ptr 0 0])],[some (.cells [.ifc 96 1 0, .fn 33 [] [(3,0)], .d (.ar 5 (.ar 2 tB)), .d (.ar 5 iL), .nilp, .nilp, .nilp, .nilp, .nilp, .nilm, .nilm, .nilm, .nilm, .nilm, .nilp, .d (.ar 5 .bl), .nils, .nils]),some (.cells [.own 4, .mp 2, .d .i64]),some (.mp .st .i64),some (.cells [.ptr 1 0]),some (.sl Cm)]⟩
def UK(x:De.inp.den)(y:Q_.den):Prop:=match x,y with
 |(n,_),(b,a,c,go,d,m,e,_)=>b=n/\(a,c,e,m)=gy 5/\go=[false,false,false,false,false]/\d=10/\1<=n/\n<=31
def a36(x:De.inp.den):dB:=⟨[],[(15,bK Q_ (UK x) λ_=>0)],[],[],6⟩
theorem Hr:bS Tryz.prog 15 De:=kC Hq a36 (∀(d:Int)Q,let P:= !decide (1<=d/\d<=31/\d % (2:Int)=1);bd De (d,()) Q->True/\Br P (Q ⟨0,()⟩) (True/\((0<=4294967296/\(0:Int)<=0/\(0:Int)<=4294967296)/\∀b,let A:=jA (ae 8 115,[dv 2],()) b.2.1 b.2.2;b=(ko (ae 8 115,[dv 1],()) 1,[(ae 8 115,[dv 1],())],QN (tQ (ae 8 115,[dv 1],())) 1 [])->(b.2.1.length<=4294967296/\(0:Int)<=1/\(1:Int)<=4294967296)/\∀i,i=(ko (ae 8 115,[dv 2],()) A.1,A.2)->(aB b.1/\i.2.1.length<=4294967296)/\∀r,r=dh (ae 8 112,[b.1],()) i.2.1 i.2.2->(aB i.1/\r.2.1.length<=4294967296)/\∀j,let B:=jA (ae 8 115,[dv 3],()) j.2.1 j.2.2;j=dh (ae 8 118,[i.1],()) r.2.1 r.2.2->(j.2.1.length<=4294967296/\(0:Int)<=2/\(2:Int)<=4294967296)/\∀e,let C:=jA (ae 8 115,[dv 4],()) e.2.1 e.2.2;e=(ko (ae 8 115,[dv 3],()) B.1,B.2)->(e.2.1.length<=4294967296/\(0:Int)<=3/\(3:Int)<=4294967296)/\∀k,k=(ko (ae 8 115,[dv 4],()) C.1,C.2)->(aB e.1/\k.2.1.length<=4294967296)/\∀s,s=dh (ae 8 112,[e.1],()) k.2.1 k.2.2->(aB k.1/\s.2.1.length<=4294967296)/\∀l,let D:=jA (ae 8 115,[dv 5],()) l.2.1 l.2.2;l=dh (ae 8 118,[k.1],()) s.2.1 s.2.2->(l.2.1.length<=4294967296/\(0:Int)<=4/\(4:Int)<=4294967296)/\∀f,let E:=jA (ae 8 115,[dv 6],()) f.2.1 f.2.2;f=(ko (ae 8 115,[dv 5],()) D.1,D.2)->(f.2.1.length<=4294967296/\(0:Int)<=5/\(5:Int)<=4294967296)/\∀m,m=(ko (ae 8 115,[dv 6],()) E.1,E.2)->(aB f.1/\m.2.1.length<=4294967296)/\∀t,t=dh (ae 8 112,[f.1],()) m.2.1 m.2.2->(aB m.1/\t.2.1.length<=4294967296)/\∀n,let F:=jA (ae 8 115,[dv 7],()) n.2.1 n.2.2;n=dh (ae 8 118,[m.1],()) t.2.1 t.2.2->(n.2.1.length<=4294967296/\(0:Int)<=6/\(6:Int)<=4294967296)/\∀g,let G:=jA (ae 8 115,[dv 8],()) g.2.1 g.2.2;g=(ko (ae 8 115,[dv 7],()) F.1,F.2)->(g.2.1.length<=4294967296/\(0:Int)<=7/\(7:Int)<=4294967296)/\∀o,o=(ko (ae 8 115,[dv 8],()) G.1,G.2)->(aB g.1/\o.2.1.length<=4294967296)/\∀u,u=dh (ae 8 112,[g.1],()) o.2.1 o.2.2->(aB o.1/\u.2.1.length<=4294967296)/\∀p,let H:=jA (ae 8 115,[dv 9],()) p.2.1 p.2.2;p=dh (ae 8 118,[o.1],()) u.2.1 u.2.2->(p.2.1.length<=4294967296/\(0:Int)<=8/\(8:Int)<=4294967296)/\∀h,let R:=jA (ae 8 115,[dv 10],()) h.2.1 h.2.2;h=(ko (ae 8 115,[dv 9],()) H.1,H.2)->(h.2.1.length<=4294967296/\(0:Int)<=9/\(9:Int)<=4294967296)/\∀q,q=(ko (ae 8 115,[dv 10],()) R.1,R.2)->(aB h.1/\q.2.1.length<=4294967296)/\∀v,v=dh (ae 8 112,[h.1],()) q.2.1 q.2.2->(aB q.1/\v.2.1.length<=4294967296)/\∀y,y=dh (ae 8 118,[q.1],()) v.2.1 v.2.2->Is (UK (d,()) (d,[[b.1,i.1],[e.1,k.1],[f.1,m.1],[g.1,o.1],[h.1,q.1]],[(0,r.1,j.1,()),(1,s.1,l.1,()),(2,t.1,n.1,()),(3,u.1,p.1,()),(4,v.1,y.1,())],[false,false,false,false,false],10,y.2.2,y.2.1,())))/\∀(w:Int)(a:List (List BL))(c:List Mb)(z:List Bool)(S:Int)(U:KV)(W:List Tm),let K:=a.getD 4 (ak 2 []);let L:=a.getD 3 (ak 2 []);let M:=a.getD 2 (ak 2 []);let N:=a.getD 1 (ak 2 []);let O:=a.getD 0 (ak 2 []);let x:=c.getD ((12-10)/3) (0,[],[],());let J:=ah x.2.2.1=32;let X:=bV (a,c,z,S,U,(0,O.getD 0 [],O.getD 1 [],(x.2.2.1,[],[],()),()),(([],[],[],([((0,0,()),0,0,0,false,[[],[]],())],0,()),([],()),()),[[0,0,0,0,0],[0,0,0,0,0]],[],()),[],(1,N.getD 0 [],N.getD 1 [],(x.2.2.1,[],[],()),()),(([],[],[],([((0,0,()),0,0,0,false,[[],[]],())],0,()),([],()),()),[[0,0,0,0,0],[0,0,0,0,0]],[],()),[],(2,M.getD 0 [],M.getD 1 [],(x.2.2.1,[],[],()),()),(([],[],[],([((0,0,()),0,0,0,false,[[],[]],())],0,()),([],()),()),[[0,0,0,0,0],[0,0,0,0,0]],[],()),[],(3,L.getD 0 [],L.getD 1 [],(x.2.2.1,[],[],()),()),(([],[],[],([((0,0,()),0,0,0,false,[[],[]],())],0,()),([],()),()),[[0,0,0,0,0],[0,0,0,0,0]],[],()),[],(4,K.getD 0 [],K.getD 1 [],(x.2.2.1,[],[],()),()),(([],[],[],([((0,0,()),0,0,0,false,[[],[]],())],0,()),([],()),()),[[0,0,0,0,0],[0,0,0,0,0]],[],()),[],[],[],[],[],[],(x.2.2.1,[],[],()),W,[],[],[],[],[],[],[],());UK (d,()) (w,a,c,z,S,U,W,())->((0:Int)<=0/\(0:Int)<5/\(O.getD 0 []).length=32/\(O.getD 1 []).length=32/\J)/\((0:Int)<=1/\(1:Int)<5/\(N.getD 0 []).length=32/\(N.getD 1 []).length=32/\J)/\((0:Int)<=2/\(2:Int)<5/\(M.getD 0 []).length=32/\(M.getD 1 []).length=32/\J)/\((0:Int)<=3/\(3:Int)<5/\(L.getD 0 []).length=32/\(L.getD 1 []).length=32/\J)/\((0:Int)<=4/\(4:Int)<5/\(K.getD 0 []).length=32/\(K.getD 1 []).length=32/\J)/\ah x.2.2.1<=1000000/\(1<=w/\w<=31/\∃d,cR X (d+2))/\∀(b:(Int×Int)×Wd),eN X w b->Q ⟨1,bZ b.2⟩)) (by
 conv=>zeta
 unfold Br bd bZ;intro n Q hQ;have c5:decide (1<=n/\n<=31/\n % 2=1)=false->Q ⟨0,()⟩:=hQ.2;have u:decide (1<=n/\n<=31/\n % 2=1)=true->∀y,eN ng n y->Q ⟨1,(bZ y.2)⟩:=λc y hy=>hQ.1 c y hy;clear hQ;refine⟨trivial,λc=>c5 ?_,λc=>?_⟩
 ·cases h:decide (1<=n/\n<=31/\n % 2=1)with
  |false=>rfl
  |true=>rw[h]at c;cases c
 have c:decide (1<=n/\n<=31/\n % 2=1)=true:=by
  cases h:decide (1<=n/\n<=31/\n % 2=1)with
  |true=>rfl
  |false=>rw[h]at c;cases c
 have u:=u c;have cn:=ag c;refine⟨trivial,?_,?_⟩
 ·have z0:bO 20 ([]:List Tm):=⟨λt ht=>(by cases ht),(by show 0+20<=4294967296;omega)⟩;have e0:gy 0=([],[],[],[]):=rfl;refine⟨⟨by omega,by omega,by omega⟩,λv C=>?_⟩;have C:v=dV (115,[dv ((2*0+1:Nat):Int)],()) [] []:=C;have z1:bO 19 v.2.1:=by rw[C];exact oJ (k:=19) [] z0 (fP _)
  have l0:aB v.1:=by rw[C];unfold aB;rw[tU];decide
  refine⟨⟨z1.le',by omega,by omega⟩,λb1 D=>?_⟩;have D:b1=dV (115,[dv ((2*0+2:Nat):Int)],()) v.2.1 v.2.2:=D;have z2:bO 18 b1.2.1:=by rw[D];exact oJ (k:=18) v.2.2 z1 (fP _)
  have l1:aB b1.1:=by rw[D];unfold aB;rw[tU];decide
  refine⟨⟨l0,z2.le'⟩,λb2 q2=>?_⟩;have z3:bO 17 b2.2.1:=by rw[q2];exact pJ (k:=17) b1.2.2 z2 (kD (k:=112) (by decide) (by decide) l0)
  refine⟨⟨l1,z3.le'⟩,λb3 q3=>?_⟩;have z4:bO 16 b3.2.1:=by rw[q3];exact pJ (k:=16) b2.2.2 z3 (kD (k:=118) (by decide) (by decide) l1)
  have e1:=lz e0 C D q2 q3;refine⟨⟨z4.le',by omega,by omega⟩,λw E=>?_⟩;have E:w=dV (115,[dv ((2*1+1:Nat):Int)],()) b3.2.1 b3.2.2:=E;have z5:bO 15 w.2.1:=by rw[E];exact oJ (k:=15) b3.2.2 z4 (fP _)
  have l4:aB w.1:=by rw[E];unfold aB;rw[tU];decide
  refine⟨⟨z5.le',by omega,by omega⟩,λb5 F=>?_⟩;have F:b5=dV (115,[dv ((2*1+2:Nat):Int)],()) w.2.1 w.2.2:=F;have z6:bO 14 b5.2.1:=by rw[F];exact oJ (k:=14) w.2.2 z5 (fP _)
  have l5:aB b5.1:=by rw[F];unfold aB;rw[tU];decide
  refine⟨⟨l4,z6.le'⟩,λb6 q6=>?_⟩;have z7:bO 13 b6.2.1:=by rw[q6];exact pJ (k:=13) b5.2.2 z6 (kD (k:=112) (by decide) (by decide) l4)
  refine⟨⟨l5,z7.le'⟩,λb7 q7=>?_⟩;have z8:bO 12 b7.2.1:=by rw[q7];exact pJ (k:=12) b6.2.2 z7 (kD (k:=118) (by decide) (by decide) l5)
  have e2:=lz e1 E F q6 q7;refine⟨⟨z8.le',by omega,by omega⟩,λx G=>?_⟩;have G:x=dV (115,[dv ((2*2+1:Nat):Int)],()) b7.2.1 b7.2.2:=G;have z9:bO 11 x.2.1:=by rw[G];exact oJ (k:=11) b7.2.2 z8 (fP _)
  have l8:aB x.1:=by rw[G];unfold aB;rw[tU];decide
  refine⟨⟨z9.le',by omega,by omega⟩,λb9 H=>?_⟩;have H:b9=dV (115,[dv ((2*2+2:Nat):Int)],()) x.2.1 x.2.2:=H;have J:bO 10 b9.2.1:=by rw[H];exact oJ (k:=10) x.2.2 z9 (fP _)
  have l9:aB b9.1:=by rw[H];unfold aB;rw[tU];decide
  refine⟨⟨l8,J.le'⟩,λK L=>?_⟩;have M:bO 9 K.2.1:=by rw[L];exact pJ (k:=9) b9.2.2 J (kD (k:=112) (by decide) (by decide) l8)
  refine⟨⟨l9,M.le'⟩,λo N=>?_⟩;have O:bO 8 o.2.1:=by rw[N];exact pJ (k:=8) K.2.2 M (kD (k:=118) (by decide) (by decide) l9)
  have e3:=lz e2 G H L N;refine⟨⟨O.le',by omega,by omega⟩,λa e=>?_⟩;have e:a=dV (115,[dv ((2*3+1:Nat):Int)],()) o.2.1 o.2.2:=e;have P:bO 7 a.2.1:=by rw[e];exact oJ (k:=7) o.2.2 O (fP _)
  have R:aB a.1:=by rw[e];unfold aB;rw[tU];decide
  refine⟨⟨P.le',by omega,by omega⟩,λp f=>?_⟩;have f:p=dV (115,[dv ((2*3+2:Nat):Int)],()) a.2.1 a.2.2:=f;have S:bO 6 p.2.1:=by rw[f];exact oJ (k:=6) a.2.2 P (fP _)
  have U:aB p.1:=by rw[f];unfold aB;rw[tU];decide
  refine⟨⟨R,S.le'⟩,λW X=>?_⟩;have Y:bO 5 W.2.1:=by rw[X];exact pJ (k:=5) p.2.2 S (kD (k:=112) (by decide) (by decide) R)
  refine⟨⟨U,Y.le'⟩,λq a0=>?_⟩;have a5:bO 4 q.2.1:=by rw[a0];exact pJ (k:=4) W.2.2 Y (kD (k:=118) (by decide) (by decide) U)
  have e4:=lz e3 e f X a0;refine⟨⟨a5.le',by omega,by omega⟩,λb g=>?_⟩;have g:b=dV (115,[dv ((2*4+1:Nat):Int)],()) q.2.1 q.2.2:=g;have a6:bO 3 b.2.1:=by rw[g];exact oJ (k:=3) q.2.2 a5 (fP _)
  have a7:aB b.1:=by rw[g];unfold aB;rw[tU];decide
  refine⟨⟨a6.le',by omega,by omega⟩,λr l=>?_⟩;have l:r=dV (115,[dv ((2*4+2:Nat):Int)],()) b.2.1 b.2.2:=l;have a8:bO 2 r.2.1:=by rw[l];exact oJ (k:=2) b.2.2 a6 (fP _)
  have a9:aB r.1:=by rw[l];unfold aB;rw[tU];decide
  refine⟨⟨a7,a8.le'⟩,λc0 c1=>?_⟩;have c2:bO 1 c0.2.1:=by rw[c1];exact pJ (k:=1) r.2.2 a8 (kD (k:=112) (by decide) (by decide) a7)
  refine⟨⟨a9,c2.le'⟩,λc6 c3=>?_⟩;have c7:bO 0 c6.2.1:=by rw[c3];exact pJ (k:=0) c0.2.2 c2 (kD (k:=118) (by decide) (by decide) a9)
  have e5:=lz e4 g l c1 c3;exact⟨⟨rfl,e5.symm,rfl,rfl,cn.1,cn.2.1⟩⟩
 ·rintro n1 c4 al go d m ts ⟨r1,A,r2,r3,h2,h3⟩;have r1:n1=n:=r1;have A:(c4,al,ts,m)=gy 5:=A;have r2:go=[false,false,false,false,false]:=r2;have r3:d=10:=r3;have a1:c4=(gy 5).1:=aH ga A;have a2:al=(gy 5).2.1:=aH (λz=>z.2.1) A;have a3:ts=(gy 5).2.2.1:=aH (λz=>z.2.2.1) A;have a4:m=(gy 5).2.2.2:=aH (λz=>z.2.2.2) A;subst r1 r2 r3 a1 a2 a3 a4;have s:=λ{i j:Nat}(hi:i<5)(hj:j<2)=>UJ hi hj;have B:=(PW (i:=0) (by omega)).2;refine⟨⟨by omega,by omega,s (by omega) (by omega),s (by omega) (by omega),B⟩,⟨by omega,by omega,s (by omega) (by omega),s (by omega) (by omega),B⟩,⟨by omega,by omega,s (by omega) (by omega),s (by omega) (by omega),B⟩,⟨by omega,by omega,s (by omega) (by omega),s (by omega) (by omega),B⟩,⟨by omega,by omega,s (by omega) (by omega),s (by omega) (by omega),B⟩,bq (Nat.le_of_eq B) (by omega),⟨h2,h3,9998,lA⟩,λy hy=>u y hy⟩)
def Q':bw:=(15,[De])::PV
theorem a41:KK Q':=⟨aQ.add Hq.1 (by kernel_rfl) (bo (Hr)),bg.add Hq.2 (bo (λ_=>Live.ite (λ_=>Live.all ⟨_,(lw (k:=9998) lA _).choose_spec,Live.leaf⟩) (λ_=>Live.leaf)))⟩
theorem R_(l:List BL):((115,l,()):Tm).1≠103:=by show(115:BitVec 8)≠103;decide
theorem a37(l:List BL):((112,l,()):Tm).1≠103:=by show(112:BitVec 8)≠103;decide
theorem a38(l:List BL):((118,l,()):Tm).1≠103:=by show(118:BitVec 8)≠103;decide
theorem Hs:∀k:Nat,k<=5->Su (100-4*k) (gy k).2.2.1 (gy k).2.2.2/\(gy k).1.length=k/\(gy k).2.1.length=k/\(∀t∈(gy k).2.2.1,t.1≠103)/\
 ∀a:Nat,a<k->∃j f o sg,(gy k).1[a]?=some [j,f]/\(gy k).2.1[a]?=some ((a:Int),o,sg,())/\Nm (gy k).2.2.1 j (115,[dv ((2*a+0+1:Nat):Int)],())/\Nm (gy k).2.2.1 f (115,[dv ((2*a+1+1:Nat):Int)],())/\Nm (gy k).2.2.1 o (112,[j],())/\Nm (gy k).2.2.1 sg (118,[f],())
 |0,_=>⟨⟨Aw,⟨λt l=>(by cases l),(by show 0+(100-4*0)<=4294967296;omega)⟩⟩,rfl,rfl,λt l=>(by cases l),λa K=>by omega⟩
 |k+1,L=>by
  obtain⟨v,s,u,w,x⟩:=Hs k (by omega);generalize y:gy k=p at*
  have e:gy (k+1)=(let a:=dV (115,[dv ((2*k+1:Nat):Int)],()) p.2.2.1 p.2.2.2
   let b:=dV (115,[dv ((2*k+2:Nat):Int)],()) a.2.1 a.2.2
   let c:=dh (112,[a.1],()) b.2.1 b.2.2
   let d:=dh (118,[b.1],()) c.2.1 c.2.2
   (p.1++[[a.1,b.1]],p.2.1++[((k:Int),c.1,d.1,())],d.2)):=by subst y;rfl
  rw[e];dsimp only;have f:=yb (k:=100-4*(k+1)+3) (v.mono (by omega)) (fP ((2*k+1:Nat):Int));generalize dV (115,[dv ((2*k+1:Nat):Int)],()) p.2.2.1 p.2.2.2=a at*;have m:=yb (k:=100-4*(k+1)+2) f.1.su (fP ((2*k+2:Nat):Int));generalize dV (115,[dv ((2*k+2:Nat):Int)],()) a.2.1 a.2.2=b at*;have z:=f.2.t115;have A:=m.2.t115;have n:=Dv (k:=100-4*(k+1)+1) m.1.su (kD (k:=112) (by decide) (by decide) (show aB a.1 by unfold aB;omega));have B:=n.2 z;generalize dh (112,[a.1],()) b.2.1 b.2.2=c at*;have h:=Dv (k:=100-4*(k+1)) n.1.su (kD (k:=118) (by decide) (by decide) (show aB b.1 by unfold aB;omega));have C:=h.2 A;generalize dh (118,[b.1],()) c.2.1 c.2.2=d at*;have g:Gr (λt=>t.1≠103) p.2.2.1 d.2.1:=(f.1.gr.imp λt q=>by rw[q];exact R_ _).trans ((m.1.gr.imp λt q=>by rw[q];exact R_ _).trans ((n.1.gr.imp λt q=>by rw[q];exact a37 _).trans (h.1.gr.imp λt q=>by rw[q];exact a38 _)));refine⟨h.1.su,by simp[s],by simp[u],λt l=>?_,λi M=>?_⟩
  ·rcases g.old l with q|q
   ·exact w t q
   ·exact q
  ·rcases bI i k with q|q
   ·obtain⟨j,r,o,sg,D,E,F,G,H,J⟩:=x i q;exact⟨j,r,o,sg,dQ D,dQ E,g.nm F,g.nm G,g.nm H,g.nm J⟩
   ·have:i=k:=by omega
    subst this;refine⟨a.1,b.1,c.1,d.1,?_,?_,h.1.gr.nm (n.1.gr.nm (m.1.gr.nm f.2)),h.1.gr.nm (n.1.gr.nm m.2),h.1.gr.nm B,C⟩
    ·rw[aU (by omega),s];simp
    ·rw[aU (by omega),u];simp
theorem vE{a:Nat}{b c:BL}(h:(gy 5).1[a]?=some [b,c]):ng.se a 0=b/\ng.se a 1=c:=by
 unfold Wd.se
 have:ng.sec.getD a (ak 2 [])=[b,c]:=by
  rw[aw];show((gy 5).1[a]?).getD _=_;rw[h];rfl
 rw[this];exact⟨rfl,rfl⟩
theorem R':Au ng []:=by
 obtain⟨E,K,F,G,v⟩:=Hs 5 (aD _);have D:∀i:Nat,i<5->ng.cl i=Bv i:=λi f=>by rcases fo f with rfl|rfl|rfl|rfl|rfl<;>rfl
 refine⟨E.w,λa j m L=>?_,λp B=>?_,?_,λi e C=>?_,λi f=>?_,λi f=>?_,aq _,λd H=>(by cases H),rfl,λt J h=>absurd h (G t J)⟩
 ·obtain⟨n,o,x,g,b,r,y,z,A,s⟩:=v a m;obtain⟨l,c⟩:=vE b;rcases jZ j with q|q
  ·subst q;rw[l];exact y
  ·have:j=1:=by omega
   subst this;rw[c];exact z
 ·have B:p∈(gy 5).2.1:=B;obtain⟨a,m⟩:=List.getElem?_of_mem B;have u:a<5:=by rw[<-F];exact(cy.1 m).1
  obtain⟨n,o,x,g,b,r,y,z,A,s⟩:=v a u;obtain⟨l,c⟩:=vE b;rw[r]at m;exact⟨a,x,g,u,(Option.some.inj m).symm,by rw[l];exact A,by rw[c];exact s⟩
 ·obtain⟨n,o,x,g,b,r,y,z,A,s⟩:=v 0 (by omega);obtain⟨l,c⟩:=vE b;rw[c]
  have:ng.lg.1=g:=by
   show((gy 5).2.1.getD 0 yS).2.2.1=g;rw[aw,r];rfl
  rw[this];exact s
 ·have C:([]:List Et)[i]?=some e:=C;simp at C
 ·rw[D i f];exact⟨⟨0,rfl⟩,Bb _⟩
 ·rw[D i f];obtain⟨n,o,x,g,b,r,y,z,A,s⟩:=v i f;obtain⟨l,c⟩:=vE b;rw[l,c];have:(gy 5).1.getD i []=[n,o]:=by rw[aw,b];rfl
  constructor
  ·show((gy 5).1.getD i []).getD 1 []=o;rw[this];rfl
  ·show((gy 5).1.getD i []).getD 0 []=n;rw[this];rfl
theorem UL{x:Int}(h:1<=x/\x<=5):x≠6/\x≠7:=by omega
theorem vF{x a b:Int}(h:x=a)(c:a≠b):x≠b:=λq=>c (h.symm.trans q)
theorem UM(w:Wd)(s:jx):(hV w s).2.go=w.go:=by
 unfold hV;split
 ·rfl
 split
 ·rfl
 dsimp only;split<;>rfl
def oe(s:jx):Md:=if 1<=s.1/\s.1<=5 then(s.2.1,true,())else if s.1=6 then(0,true,())else if s.1=11 then(s.2.1,false,())else(-1,false,())
def rS(md:List Md)(s:jx)(y:t8):List Md:=if y.1.2.1=0 then md else md++[oe s]
structure sk(w:Wd)(md:List Md)(s:jx)(y:t8):Prop where
 au:Au y.2 (rS md s y)
 st1:y.1.2.1≠0->∃b,y.2.st=w.st++[b]
 st0:y.1.2.1=0->y.2.st=w.st
 lg1:y.1.2.1≠0->s.1=6->∃e,y.2.lg.2.1=w.lg.2.1++[e]
 lg0:¬(y.1.2.1≠0/\s.1=6)->y.2.lg=w.lg
 go:y.2.go=w.go\/s.1=6
 give:s.1=7->y.1.1=0->Lf w md (w.st.getD (s.2.2.2.1-1).toNat []) y.1.2.2/\1<=s.2.2.2.1/\s.2.2.2.1<=w.st.length
theorem sk.keep{w:Wd}{md:List Md}{s:jx}{y:t8}(h:Au y.2 md)(g:el w y.2)(h0:y.1.2.1=0)(c:s.1≠7\/y.1.1≠0):sk w md s y:=by
 refine⟨?_,λq=>absurd h0 q,λ_=>g.st,λq=>absurd h0 q,λ_=>g.lg, .inl g.go,λa b=>c.elim (λq=>absurd a q) (λq=>absurd b q)⟩;unfold rS;rw[am h0];exact h
theorem dw(w:Wd):el w w:=⟨rfl,rfl,rfl,rfl,rfl⟩
theorem sk.store{w w':Wd}{md:List Md}{s:jx}{b:BL}{a:Int}(h:Au (w'.keep b a) (md++[oe s]))(g:el w w')(e:s.1≠6)(f:s.1≠7):sk w md s (nf (zw w' b a)):=by
 have c:(nf (zw w' b a)).1.2.1≠0:=by
  show(w'.st.length:Int)+1≠0;omega
 refine⟨?_,λ_=>⟨b,by show w'.st++[b]=_;rw[g.st]⟩,λq=>absurd q c,λ_ q=>absurd q e,λ_=>g.lg, .inl g.go,λq=>absurd q f⟩;unfold rS;rw[af c];exact h
theorem Df(w:Wd){i:Nat}(hi:i<5)(r:BL×Int):w.told i (r,(w.cl i).la,w.ts,w.m)=w:=by
 rcases fo hi with rfl|rfl|rfl|rfl|rfl<;>rfl
theorem xH{w w':Wd}{md:List Md}{s:jx}{i:Nat}{r:BL×Int}(a:1<=s.1/\s.1<=5)(hi:s.2.1=(i:Int))(g:el w w')(h:r.2≠0/\Au w' md\/r.2=0/\∀e:Int,Au (w'.keep r.1 e) (md++[((i:Int),true,())])):sk w md s (nf (ku w' i r)):=by
 unfold ku;rcases h with⟨b,c⟩|⟨b,c⟩
 ·rw[am b];exact sk.keep c g rfl (.inl (UL a).2)
 ·rw[af (λq=>q b)];refine sk.store ?_ g (UL a).1 (UL a).2;have:oe s=((i:Int),true,()):=by unfold oe;rw[am a,hi]
  rw[this];exact c _
theorem S_{w:Wd}{md:List Md}(h:Au w md){n:Nat}(x:cR w (n+1)){s:jx}(b:1<=s.1/\s.1<=5){z:yc}(r:kv w s z):sk w md s (nf z):=by
 unfold kv at r;split at r
 ·rw[r];exact sk.keep h (dw w) rfl (.inl (UL b).2)
 rename_i no;rw[not_or,not_or]at no;split at r
 ·rw[r];exact sk.keep h (dw w) rfl (.inl (UL b).2)
 obtain⟨q,f,rfl⟩:=r;obtain⟨i,g⟩:=bR (Int.not_lt.1 no.1);have A:s.2.1.toNat=i:=by rw[g,aF]
 have j:i<5:=by
  have q:=Int.not_le.1 no.2.1;rw[g]at q;exact Int.ofNat_lt.1 q
 rw[A]at f⊢
 have told:∀{a:Int}{t:BL}{z:(BL×Int)×La×List Tm×KV},z=mA a t (w.cl i).c (w.cl i).sg (w.cl i).lg (w.cl i).la (w.cl i).km w.ts w.m->sk w md s (nf (ku (w.told i z) i z.1)):=by
  intro a t z o;rcases Bi h x j o with⟨u,v⟩|⟨u,v,_⟩
  ·have:w.told i z=w:=by
    rw[show z=(z.1,z.2)from rfl,v];exact Df w j z.1
   rw[this];exact xH b g (dw w) (.inl ⟨u,h⟩)
  ·exact xH b g (fE w i _).1 (.inr ⟨u,v⟩)
 unfold vQ at f;split at f
 ·obtain⟨t,z,o,rfl⟩:=f;exact told o
 split at f
 ·obtain⟨t,z,o,rfl⟩:=f;exact told o
 ·obtain⟨p,l,e,C,D,⟨y,rfl⟩|⟨y,E,z,F,o,rfl⟩⟩:=f
  ·exact xH b g (dw w) (.inl ⟨y,h⟩)
  ·rcases G4 h x j o with⟨u,v,B⟩|⟨u,v,_⟩
   ·exact xH b g B (.inl ⟨u,v⟩)
   ·exact xH b g (fE w i _).1 (.inr ⟨u,v⟩)
theorem PX:∀{a:List (Int×BL)}{w w':Wd}{md:List Md}{n:Nat},Au w md->cR w (n+a.length)->(∀p∈a,0<=p.1/\p.1<5)->xG a w w'->Au w' md/\el w w'
 |[],_,_,_,_,h,_,_,e=>by
  have e:_=_:=e;subst e;exact⟨h,dw _⟩
 |p::a,w,w',md,n,h,c,b,⟨y,f,g⟩=>by
  obtain⟨i,j,o,r⟩:=rQ h (n:=n+a.length) (c.mono (by simp;omega)) (b p (aG ..)) f;have l:=iA (n:=n+a.length) (c.mono (by simp;omega)) (b p (aG ..)) f;have:=PX i l (λq m=>b q (aA _ m)) g;exact⟨this.1,j.trans this.2⟩
theorem iC{w:Wd}{md:List Md}(h:Au w md):kh w:=by
 intro i c;unfold Wd.ids at c;obtain⟨x,f,rfl⟩:=dM.1 c;obtain⟨e,g,b⟩:=vl f;obtain⟨k,j⟩:=List.getElem?_of_mem g;obtain⟨a,p,q,m,l,_⟩:=h.al x ((h.es k e j).2 x b);rw[l];show 0<=(a:Int)/\(a:Int)<5;omega
theorem UN{w:Wd}{md:List Md}(h:Au w md){n:Nat}(i:cR w (n+5*w.st.length+3)){s:jx}{y:t8}(r:lx w s y):sk w md s y:=by
 have hB:s.1≠7->sk w md s (bad w):=λq=>sk.keep h (dw w) rfl (.inl q);have p:sk w md s (bad w):=sk.keep h (dw w) rfl (.inr (by show(26:Int)≠0;decide));unfold lx at r;split at r
 ·rename_i G;obtain⟨z,t,rfl⟩:=r;exact S_ h (n:=n+5*w.st.length+2) i G t
 rename_i e;split at r
 ·rename_i a;split at r
  ·rw[r];exact p
  rename_i g;rw[not_or]at g;obtain⟨z,t,rfl⟩:=r;rcases vy h (k:=n+5*w.st.length+1) i (by omega) t with⟨C,f,j,l,_⟩|⟨C,f,j,l,B,O,E,P,Q,H,R,J,S⟩
  ·exact sk.keep j l f (.inl (vF a (by decide)))
  ·have m:(nf z).1.2.1≠0:=by
    show z.1.2≠0;rw[f];omega
   refine⟨?_,λ_=>⟨fL E,H⟩,λq=>absurd q m,λ_ _=>⟨C4 E,J⟩,λq=>absurd ⟨m,a⟩ q, .inr a,λq=>absurd q (vF a (by decide))⟩;unfold rS;rw[af m];have:oe s=(0,true,()):=by unfold oe;rw[af e,am a]
   rw[this];exact j
 rename_i a;split at r
 ·rename_i c;split at r
  ·rw[r];exact p
  rename_i g;rw[not_or]at g;have K:=aC.1 g.1;have L:=aC.1 g.2;obtain⟨z,t,rfl⟩:=r;obtain⟨D,u,U,M⟩:=rQ h (n:=n+5*w.st.length+2) i K t;refine⟨?_,λq=>absurd rfl q,λ_=>u.st,λq=>absurd rfl q,λ_=>u.lg, .inl u.go,λ_ q=>⟨M q,L⟩⟩;unfold rS;rw[am rfl];exact D
 rename_i c;split at r
 ·rename_i v;rw[r];unfold sY;have o:oe s=(-1,false,()):=by unfold oe;rw[af e,af a,af (v.elim (λq=>vF q (by decide)) (λq=>vF q (by decide)))]
  split
  ·exact hB c
  split
  ·exact sk.store (by rw[o];exact G3 h _ _ _ _) (dw w) a c
  ·exact sk.store (by rw[o];exact G3 h _ _ _ _) (dw w) a c
 rename_i v;split at r
 ·rename_i x;have o:oe s=(-1,false,()):=by unfold oe;rw[af e,af a,af (vF x (by decide))]
  split at r
  ·rw[r];exact hB c
  ·rw[r];exact sk.store (by rw[o];exact G3 h _ _ _ _) (dw w) a c
 rename_i x;split at r
 ·rename_i A;rw[r];have o:oe s=(s.2.1,false,()):=by unfold oe;rw[af e,af a,am A]
  rcases Ur h (n:=n+5*w.st.length+2) i (s:=s)with⟨C,f,j,l,B⟩|⟨C,f,j,b,l,B⟩
  ·exact sk.keep l B f (.inl c)
  ·have m:(nf (hV w s)).1.2.1≠0:=by
    show(hV w s).1.2≠0;rw[f];omega
   refine⟨?_,λ_=>⟨b,l⟩,λq=>absurd q m,λ_ q=>absurd q a,λ_=>B, .inl ?_,λq=>absurd q c⟩
   ·unfold rS;rw[af m,o];exact j
   ·exact UM w s
 rename_i A;split at r
 ·obtain⟨W,N,rfl⟩:=r;have F:=iC h;obtain⟨D,u⟩:=PX h (n:=0) (i.mono (by rw[lT];have:=lS i;have:=Nat.mul_le_mul_left w.st.length this;omega)) (oT F) N;exact sk.keep D u rfl (.inl c)
 ·rw[r];exact hB c
theorem to5{x:Int}(h:¬x<0)(h':¬5<=x):x.toNat<5:=by omega
theorem toI{x:Int}{n:Nat}(h:¬x<1)(h':¬(n:Int)<x):(x-1).toNat<n:=by omega
theorem jy{w:Wd}{n:Nat}(h:cR w n)(f:w.st.length<1000){b:BL}(e:b.length<=2000000)(m:Int):cR (w.keep b m) n:=
 ⟨λi c=>by rw[hK w b m c];exact h.cl i c,h.ts,h.sec,h.al,h.lg,h.l5,h.go,⟨by show(w.st++[b]).length<=1000;rw[aa,bh];omega,by show(w.ln++[m]).length=(w.st++[b]).length;rw[aa,aa,h.st.2.1];rfl,λx a=>by
  have a:x∈w.st++[b]:=a;rcases bb.1 a with q|q
  ·exact h.st.2.2 x q
  ·rw[cf.1 q];exact e⟩,h.dr⟩
theorem Ht{w:Wd}{n:Nat}(h:cR w n){d:Int}{z:List Tm×KV}(b:0<=d/\d+2*n<=1000000)(c:bO (10000*n+10000) z.1):cR (w.su d z) n:=
 ⟨λi a=>by rw[xF w d z a];exact h.cl i a,c,h.sec,h.al,h.lg,h.l5,h.go,h.st,b⟩
theorem rT{w:Wd}{k:Nat}(h:cR w (k+2))(l:w.st.length<400){n:Int}{y:(Int×Int)×Wd}(r:eN w n y):cR y.2 k/\y.2.st.length<=w.st.length+1:=by
 obtain⟨c,m,r⟩:=r;have e:=rN h n c;split at r
 ·rw[r];exact⟨Ht (h.mono (by omega)) (by have:=h.dr;omega) (e.1.mono (by omega)),Nat.le_succ _⟩
 rename_i b;have b:=aC.1 b;split at r
 ·rw[r];exact⟨(rO h b h.go).mono (by omega),Nat.le_succ _⟩
 obtain⟨z,f,r⟩:=r;have i:=rO h b (g:=sW w.go c) (by rw[qj];exact h.go);have j:=iA i (by omega) f;have a:=(ij f).1;rw[r];have a:z.2.st=w.st:=a;refine⟨jy j (by rw[a];omega) (e.2 b).2.1 0,?_⟩;show(z.2.st++[_]).length<=_;rw[aa,a];exact aD _
theorem yP{w:Wd}{n:Nat}(h:cR w n)(a:w.st.length<1000){i:Nat}{r:BL×Int}(b:r.1.length<=100000):cR (ku w i r).2 n/\(ku w i r).2.st.length<=w.st.length+1:=by
 unfold ku;split
 ·exact⟨h,Nat.le_succ _⟩
 ·exact⟨jy h a (by omega) _,by show(w.st++[_]).length<=_;simp⟩
theorem lpL{l:Lt}(a:l.2.2.2.2.1.length<=32)(b:l.2.2.2.2.2.1.length<=4112)(c:l.2.2.2.2.2.2.1.length<=64):(gh l).length<=100000:=by
 have v:=bz;have e:=dS l.2.2.2.2.1;have f:=dS l.2.2.2.2.2.1;have g:=dS l.2.2.2.2.2.2.1;have:=v l.1;have:=v l.2.1;have:=v l.2.2.1;have:=v l.2.2.2.1;unfold gh ei;simp only[aa];omega
theorem rU{w:Wd}{n:Nat}(h:cR w (n+5*w.st.length+3))(e:kh w)(C:w.st.length<900){s:jx}{y:t8}(r:lx w s y):cR y.2 n/\y.2.st.length<=w.st.length+1:=by
 have a:cR w n/\w.st.length<=w.st.length+1:=⟨h.mono (by omega),Nat.le_succ _⟩;unfold lx at r;split at r
 ·obtain⟨z,b,rfl⟩:=r;unfold kv at b;split at b
  ·rw[b];exact a
  rename_i no;split at b
  ·rw[b];exact a
  rw[not_or,not_or]at no;obtain⟨q,j,rfl⟩:=b;have:=Hi (n:=n) (h.mono (by omega)) (to5 no.1 no.2.1) j;have:=yP (i:=s.2.1.toNat) this.1 (by rw[this.2.2.1];omega) this.2.1;rename_i t;rw[t.2.2.1]at this;exact this
 split at r
 ·split at r
  ·rw[r];exact a
  rename_i g;rw[not_or]at g;obtain⟨z,b,rfl⟩:=r;exact rT (h.mono (by omega)) (by omega) b
 split at r
 ·split at r
  ·rw[r];exact a
  rename_i g;rw[not_or]at g;obtain⟨z,b,rfl⟩:=r;refine⟨iA (h.mono (by omega)) (aC.1 g.1) b,?_⟩;show z.2.st.length<=_;rw[(ij b).1];exact Nat.le_succ _
 split at r
 ·rw[r];unfold sY;split
  ·exact a
  rename_i g;rw[not_or,not_or,not_or,not_or]at g;obtain⟨o,p,D,E,F⟩:=g;have u:=h.st.2.2 _ (aS (z:=([]:BL)) (toI o p));split
  ·exact⟨jy a.1 (by omega) (by rw[be];omega) _,by show(w.st++[_]).length<=_;simp⟩
  ·exact⟨jy a.1 (by omega) (by rw[cG];exact u) _,by show(w.st++[_]).length<=_;simp⟩
 split at r
 ·split at r
  ·rw[r];exact a
  rename_i g;rw[not_or]at g;rw[r];exact⟨jy a.1 (by omega) (by omega) _,by show(w.st++[_]).length<=_;simp⟩
 split at r
 ·rw[r];unfold hV;split
  ·exact a
  split
  ·exact a
  dsimp only;have c:=lmS (k:=10000*n+10000) (sec:=w.se s.2.1.toNat 1) (ep:=(aO .i64 s.2.2.2.1 (w.ky s.2.1.toNat)).getD []) (l:=s.2.2.2.2.2.2.2) (text:=s.2.2.2.2.2.2.1) w.m (h.ts.mono (by omega));have f:=Ht (d:=w.d) (z:=(sd (w.se s.2.1.toNat 1) ((aO .i64 s.2.2.2.1 (w.ky s.2.1.toNat)).getD []) s.2.2.2.2.2.2.2 s.2.2.2.2.2.2.1 w.ts w.m).2) a.1 a.1.dr c.1;split
  ·exact⟨f,Nat.le_succ _⟩
  ·refine⟨jy f (by show w.st.length<1000;omega) (bq (lpL c.2.1 c.2.2.1 c.2.2.2) (by omega)) _,?_⟩;show(w.st++[_]).length<=_;simp
 split at r
 ·obtain⟨v,x,rfl⟩:=r;obtain⟨A,B,_⟩:=vC (n:=n) (h.mono (by rw[lT];have:=lS h;have:=Nat.mul_le_mul_left w.st.length this;omega)) (oT e) x;exact⟨A,by show v.st.length<=_;rw[B];exact Nat.le_succ _⟩
 ·rw[r];exact a
theorem t9(a:BL)(i:Nat)(h:i<a.length):(bH a)[i]! =iE (a[i]):=by
 have b:i<(a.map iE).toArray.size:=by simpa using h
 have c:i<(bH a).size:=b;have e:(bH a)[i]=(a.map iE).toArray[i]'b:=rfl;rw[getElem!_pos (bH a) i c,e];simp
theorem rV(a:BL):(bH a).size=a.length:=by
 show((a.map iE).toArray).size=_;simp
theorem Hu(a b:BL):((kz (min (bH a).size (bH b).size)).find? λi=>(bH a)[i]! !=(bH b)[i]!)=((kz (min (bH b).size (bH a).size)).find? λi=>(bH b)[i]! !=(bH a)[i]!):=by
 rw[Nat.min_comm]
 congr 1
 funext i;exact bne_comm
theorem Lm(a b:BL):¬(0<jN a b/\0<jN b a)/\(¬0<jN a b->¬0<jN b a->a=b):=by
 unfold jN Extern.BytealgCompare.cmp;rw[Hu b a];have p:=λi(h:((kz (min (bH a).size (bH b).size)).find? λi=>(bH a)[i]! !=(bH b)[i]!)=some i)=>List.find?_some h;have l:=λ(h:((kz (min (bH a).size (bH b).size)).find? λi=>(bH a)[i]! !=(bH b)[i]!)=none)=>List.find?_eq_none.1 h;generalize((kz (min (bH a).size (bH b).size)).find? λi=>(bH a)[i]! !=(bH b)[i]!)=o at*;cases o with
 |some i=>
  have f:=p i rfl;dsimp only;have f:(bH a)[i]!≠(bH b)[i]!:=by simpa using f
  generalize(bH a)[i]! =x at*;generalize(bH b)[i]! =y at*;have r:x.toNat≠y.toNat:=λe=>f (UInt8.toNat.inj e);by_cases g:x<y
  ·have c:¬y<x:=by rw[UInt8.lt_iff_toNat_lt]at*;omega
   rw[am g,af c];exact⟨λq=>absurd q.1 (by decide),λ_ q=>absurd (by decide) q⟩
  ·have c:y<x:=by rw[UInt8.lt_iff_toNat_lt]at*;omega
   rw[af g,am c];exact⟨λq=>absurd q.2 (by decide),λq=>absurd (by decide) q⟩
 |none=>
  have l:=l rfl;dsimp only;rw[rV,rV]at*;refine⟨λq=>?_,λg c=>?_⟩
  ·obtain⟨j,m⟩:=q;split at j
   ·exact absurd j (by decide)
   ·split at m
    ·exact absurd m (by decide)
    ·split at j
     ·omega
     ·exact absurd j (by decide)
  ·have s:a.length=b.length:=by
    by_cases n:a.length<b.length
    ·rw[af (by omega),am n]at c;exact absurd (by decide) c
    ·by_cases t:b.length<a.length
     ·rw[af n,am t]at g;exact absurd (by decide) g
     ·omega
   refine List.ext_getElem s λi g c=>?_;have:=l i (List.mem_range.2 (by omega));have e:(bH a)[i]! =(bH b)[i]!:=by simpa using this
   rw[t9 a i g,t9 b i c]at e;exact aH UInt8.toBitVec e
theorem xI(a b:BL):Iv a b=Iv b a:=by
 obtain⟨f,h⟩:=Lm a b;unfold Iv;by_cases c:0<jN a b
 ·rw[am c,af (λg=>f ⟨c,g⟩)]
 ·by_cases e:0<jN b a
  ·rw[af c,am e]
  ·rw[h c e]
theorem Lo{a b c:BL}(h:Iv a b=Iv a c):b=c:=by
 have e:(if 0<jN a b then[b,a]else[a,b])=(if 0<jN a c then[c,a]else[a,c]):=aH (λt:Tm=>t.2.1) h;split at e<;>split at e<;>simp only[List.cons.injEq,and_true]at e
 ·exact e
 ·exact e.1.trans e.2
 ·exact e.2.trans e.1
 ·exact e.2
theorem PY{ts:List Tm}{m:KV}(h:xj ts m)(z:ts.length<4294967296)(j:∀x∈ts,eI x):∃a,dC ts=(ts,a)/\xj ts a:=by
 have key:∀k,k<=ts.length->∃a,dC (ts.take k)=(ts.take k,a)/\xj (ts.take k) a:=by
  intro k
  induction k with
  |zero=>intro _;exact⟨[],rfl,Aw⟩
  |succ k o=>
   intro l;obtain⟨a,b,c⟩:=o (by omega);have f:ts[k]?=some ts[k]:=ap l;have p:ts.getD k Dm=ts[k]:=by rw[aw,f];rfl
   have g:=xk (t:=ts[k]) c (by rw[be];omega) (λx r=>j x (List.mem_of_mem_take r)) (j _ (kB ..));have s:dC (ts.take (k+1))=(dV ts[k] (ts.take k) a).2:=by rw[uU l,b,p];rfl
   have n:ts.take (k+1)=ts.take k++[ts[k]]:=by rw[dW,f];rfl
   rcases g.ex with q|⟨q,_⟩
   ·exfalso;obtain⟨i,e,_⟩:=g.nm;rw[q]at e
    have u:i<k:=by
     have:=(cy.1 e).1;rw[be]at this;omega
    rw[List.getElem?_take,am u]at e;have v:=h.at_ i _ e;have y:=h.at_ k _ f;rw[v]at y;omega
   ·refine⟨(dV ts[k] (ts.take k) a).2.2,?_,?_⟩
    ·rw[s,n,<-q]
    ·rw[n,<-q];exact g.w
 obtain⟨a,b,c⟩:=key ts.length (aD _);rw[br]at b c;exact⟨a,b,c⟩
theorem rW:∀{l:List Mb}{id:Int}{k j:Nat},Dp l id k=some j->∃(i:Nat)(p:Mb),j=k+i/\l[i]?=some p/\p.1=id
 |[],_,_,_,h=>by simp[Dp]at h
 |m::r,id,k,j,h=>by
  simp only[Dp]at h;split at h
  ·rename_i e;exact⟨0,m,by have:=Option.some.inj h;omega,rfl,e⟩
  ·obtain⟨i,p,c,a,b⟩:=rW h;exact⟨i+1,p,by omega,by simpa using a,b⟩
theorem xJ:∀{l:List Mb}{id:Int}{k:Nat},Dp l id k=none->∀p∈l,p.1≠id
 |[],_,_,_,p,a=>by cases a
 |m::r,id,k,h,p,a=>by
  simp only[Dp]at h;split at h
  ·cases h
  ·rename_i e;rcases bt.1 a with q|q
   ·rw[q];exact e
   ·exact xJ h p q
theorem S'{n id:Int}{sec pub v:BL}{ts:List Tm}{m:KV}(a:sec.length=32)(b:ts.length<=4294967296)(c:Nm ts pub (112,[v],())):(gR n id sec pub ts m).1.2=0:=by
 have e:fK pub 112 ts=((112,[v],()),true):=rI b c
 have f:(my sec pub ts m).2=0:=by
  unfold my;rw[af (λq=>q a),e,af (λq=>by cases q)]
 unfold gR;rw[af (λq=>q f)]
theorem n98{l:List BL}:((107,l,()):Tm).1≠98/\((107,l,()):Tm).1≠103:=⟨by show(107:BitVec 8)≠98;decide,by show(107:BitVec 8)≠103;decide⟩
structure kw(w:Wd)(ts:List Tm)(ks:List BL)(E:Et):Prop where
 lg:w.lg.2.1[(E.1-1).toNat]?=some (C4 E)
 box:∃once key,ks[(E.1-1).toNat]?=some key/\key.length=32/\once.length=32/\Nm ts E.2.2.2.2.1 (112,[once],())/\∀(i:Nat)(p:Mb),E.2.2.1[i]?=some p->∃(a:Nat)(b:BL),a<5/\p.1=(a:Int)/\E.2.2.2.2.2.1[i]?=some b/\zx ts E.1 once key (fq E) p.1 (w.se a 0) b
theorem kw.gr{K:Tm->Prop}{w:Wd}{ts c:List Tm}{f:List BL}{E:Et}(h:kw w ts f E)(g:Gr K ts c):kw w c f E:=by
 obtain⟨j,e,key,l,m,n,o,q⟩:=h;refine⟨j,e,key,l,m,n,g.nm o,λi p r=>?_⟩;obtain⟨a,b,s,t,u,v⟩:=q i p r;exact⟨a,b,s,t,u,v.gr g⟩
theorem PZ{w:Wd}{md:List Md}{y:List BL}(h:Au w md){E:Et}{ts:List Tm}{m:KV}{k:Nat}(o:Su (k+2) ts m)(H:ig E=true)(J:kw w ts y E){c:Nat}(hc:c<5)(f:(w.se c 0).length=32){p:Mb}(K:p∈E.2.2.1)(r:p.1=(c:Int)):
 ∃key,y[(E.1-1).toNat]?=some key/\(lM E c (w.se c 0) ts m).1=(key,0):=by
 obtain⟨h1,z,key,L,M,h4,s,N⟩:=J;refine⟨key,L,?_⟩;have O:ts.length<=4294967296:=by have:=o.k.2;omega
 have g:aB (w.se c 0):=by unfold aB;omega
 obtain⟨j,A⟩:∃j,Dp E.2.2.1 c 0=some j:=by
  cases P:Dp E.2.2.1 c 0 with
  |none=>exact absurd r (xJ P p K)
  |some j=>exact⟨j,rfl⟩
 obtain⟨i,q,C,Q,R⟩:=rW A;have C:j=i:=by omega
 subst C;obtain⟨a,b,b1,b2,S,U⟩:=N j q Q;have W:a=c:=by omega
 subst W;have l:=S' (n:=E.1) (id:=(a:Int)) (m:=m) f O s;have t:=G1 (n:=E.1) (id:=(a:Int)) (m:=m) (k:=k) g o l s;have e:=s_ (pub:=E.2.2.2.2.1) (k:=k) (m:=m) E.1 (a:Int) g (show aB E.2.2.2.2.1 by have:=s.len32 (by show(112:BitVec 8)≠98;decide) (by show(112:BitVec 8)≠103;decide);unfold aB;omega) o;have X:E.2.2.2.2.2.1.getD j []=b:=by rw[aw,S];rfl
 unfold lM;rw[ck,af (by rw[H];decide),A];dsimp only;rw[af (λq=>q l),X];generalize gR E.1 (a:Int) (w.se a 0) E.2.2.2.2.1 ts m=B at*;obtain⟨Y,D,c1,u,c3⟩:=U.gr e.gr;obtain⟨v,F,d2⟩:=t;have G:=e.su.w;have x:B.2.1.length<=4294967296:=by have:=e.su.k.2;omega
 rw[xI]at F;have es:v=Y:=Nm.inj G F c1;subst es;rw[R]at u;have ek:B.1.1=D:=Nm.inj G d2 u;have hf:fK b 98 B.2.1=((98,[D,dv 1,fq E,key],()),true):=rI x c3
 have ho:sG B.1.1 1 (fq E) b B.2.1=(key,0):=by
  unfold sG
  rw[ek,af (by
   have:=u.len32 n98.1 n98.2;rw[not_or];exact⟨λq=>q this,by decide⟩),hf,am ⟨rfl,rfl,rfl,rfl⟩]
  rfl
 rw[ho,af (λq=>q rfl),af (λq=>q M)]
theorem T_{w:Wd}{md:List Md}{M:List BL}(h:Au w md)(v:w.ts.length<=4294967296){E:Et}{ts:List Tm}{m:KV}{k:Nat}(x:Su (k+2) ts m)(N:kw w ts M E){id:Nat}(y:id<5)(f:(w.se id 0).length=32){c:Int}(h0:(lM E c (w.se id 0) ts m).1.2=0):
 c=(id:Int)/\∃p∈E.2.2.1,p.1=(id:Int):=by
 obtain⟨h1,l,key,h2,h3,h4,z,O⟩:=N;have P:ts.length<=4294967296:=by have:=x.k.2;omega
 have o:aB (w.se id 0):=by unfold aB;omega
 unfold lM at h0;rw[ck]at h0;split at h0
 ·exact absurd h0 (by show¬((13:Int)=0);decide)
 split at h0
 ·exact absurd h0 (by show¬((13:Int)=0);decide)
 rename_i j Q;obtain⟨i,q,D,F,R⟩:=rW Q;have D:j=i:=by omega
 subst D;obtain⟨a,b,S,G,U,W⟩:=O j q F;have r:=S' (n:=E.1) (id:=c) (m:=m) f P z;have A:=G1 (n:=E.1) (id:=c) (m:=m) (k:=k) o x r z;have s:=s_ (pub:=E.2.2.2.2.1) (k:=k) (m:=m) E.1 c o (show aB E.2.2.2.2.1 by have:=z.len32 (by show(112:BitVec 8)≠98;decide) (by show(112:BitVec 8)≠103;decide);unfold aB;omega) x;have X:E.2.2.2.2.2.1.getD j []=b:=by rw[aw,U];rfl
 rw[af (λq=>q r),X]at h0;generalize gR E.1 c (w.se id 0) E.2.2.2.2.1 ts m=B at*;obtain⟨H,C,J,K,Y⟩:=W.gr s.gr;obtain⟨u,d1,d2⟩:=A;have e:B.2.1.length<=4294967296:=by have:=s.su.k.2;omega
 have hf:fK b 98 B.2.1=((98,[C,dv 1,fq E,key],()),true):=rI e Y
 have ek:C=B.1.1:=by
  by_cases g:C=B.1.1
  ·exact g
  ·exfalso
   have:(sG B.1.1 1 (fq E) b B.2.1).2≠0:=by
    unfold sG;split
    ·simp
    ·rw[hf,af (λq=>g q.2.1)];simp
   rw[am this]at h0;exact this h0
 rw[ek]at K;have eT:=Nm.uni e K d2;have e4:[H,vn E.1++vn q.1]=[u,vn E.1++vn c]:=aH (λt:Tm=>t.2.1) eT;have es:H=u:=(List.cons.inj e4).1;rw[es]at J;have L:=Nm.uni e J d1;rw[xI (w.se id 0) l]at L;have e6:=Lo L;have e7:=(GY h v S y (by omega) (by omega) e6).1;subst e7;exact⟨by rw[<-R,G],q,gN F,G⟩
def P0(w:Wd)(N:Int)(i:Nat):Prop:=∃e,w.lg.2.1[(N-1).toNat]?=some e/\∃p∈e.2.2.1,p.1=(i:Int)
def Bw(w:Wd)(a:List BL)(i:Nat)(km:KM):Prop:=∀q∈km,∃j:Nat,q.1=(j:Int)+1/\a[j]?=some q.2/\q.2.length=32/\P0 w ((j:Int)+1) i
def rX(ts:List Tm)(b:List BL)(l:Lt):Prop:=∃key a c,b[(l.2.2.1-1).toNat]?=some key/\key.length=32/\Nm ts a (107,[key,jg l],())/\Nm ts l.2.2.2.2.2.1 (98,[a,dv l.2.2.2.1,ei l,c],())
theorem rX.gr{K:Tm->Prop}{ts a:List Tm}{b:List BL}{l:Lt}(h:rX ts b l)(g:Gr K ts a):rX a b l:=let⟨key,c,e,f,i,j,m⟩:=h;⟨key,c,e,f,i,g.nm j,g.nm m⟩
theorem rX.ks{ts:List Tm}{a:List BL}{l:Lt}(h:rX ts a l)(x:List BL):rX ts (a++x) l:=let⟨key,b,c,e,f,g,i⟩:=h;⟨key,b,c,dQ e,f,g,i⟩
def Hon(w:Wd)(b:List BL)(n:Nat)(a:Int):Prop:=(∃E,w.st[n]?=some (fL E)/\ig E=true/\a=0/\kw w w.ts b E)\/∃l,w.st[n]?=some (gh l)/\jR l=true/\l.2.1=a/\rX w.ts b l
structure Ke(w:Wd)(md:List Md)(ks:List BL):Prop where
 len:ks.length=w.lg.2.1.length
 dr:∀(i:Nat)(k:BL),ks[i]?=some k->∃c:Nat,(c:Int)<=w.d/\c<=1099511627776/\Nm w.ts k (115,[dv (c:Int)],())
 dif:∀(i j:Nat)(k:BL),ks[i]?=some k->ks[j]?=some k->i=j
 hon:∀(n:Nat)(a:Int),md[n]?=some (a,true,())->Hon w ks n a
 km:∀i:Nat,i<5->Bw w ks i (w.cl i).km
 ky:∀i:Nat,i<5->Bw w ks i (w.ky i)
 eq:∀i:Nat,i<5->∀N:Int,aO .i64 N (w.ky i)=aO .i64 N (w.cl i).km
theorem T'{N:Int}{v:BL}{q:Int×BL}:∀{l:KM},q∈cD (kt:= .i64) N v l->q=(N,v)\/q∈l
 |[],h=> .inl (cf.1 h)
 |p::r,h=>by
  simp only[cD]at h;split at h
  ·rename_i e;have e:N=p.1:=dZ.1 e;rcases bt.1 h with g|g
   ·left;rw[g,e]
   ·exact .inr (aA _ g)
  ·rcases bt.1 h with g|g
   ·exact .inr (g▸aG ..)
   ·exact(T' g).imp id (aA _)
theorem U_{N:Int}{v:BL}:∀{l:KM},aO .i64 N l=some v->(N,v)∈l
 |[],h=>by simp[aO,cz]at h
 |p::r,h=>by
  simp only[aO,cz]at h;split at h
  ·rename_i e;have e:N=p.1:=dZ.1 e;have h:=Option.some.inj h;rw[e,<-h];exact aG ..
  ·exact aA _ (U_ h)
def pP(N:Int)(key:BL)(c:Int):List Mb->KM->KM
 |[],a=>a
 |p::r,a=>pP N key c r (if p.1=c then cD (kt:= .i64) N key a else a)
theorem Bx{N:Int}{key:BL}{c:Int}{q:Int×BL}:∀{l:List Mb}{km:KM},q∈pP N key c l km->q∈km\/q=(N,key)/\∃p∈l,p.1=c
 |[],_,h=> .inl h
 |p::r,km,h=>by
  simp only[pP]at h;rcases Bx h with g|⟨a,x,b,f⟩
  ·split at g
   ·rename_i e;rcases T' g with g|g
    ·exact .inr ⟨g,p,aG ..,e⟩
    ·exact .inl g
   ·exact .inl g
  ·exact .inr ⟨a,x,aA _ b,f⟩
theorem By{N:Int}{key:BL}{c:Int}:∀{l:List Mb}{km a:KM},(∀M:Int,aO .i64 M km=aO .i64 M a)->∀M:Int,aO .i64 M (pP N key c l km)=aO .i64 M (pP N key c l a)
 |[],_,_,h=>h
 |p::r,km,a,h=>by
  simp only[pP];refine By λM=>?_;split
  ·show cz (kt:= .i64) M (cD (kt:= .i64) N key km)=cz (kt:= .i64) M (cD (kt:= .i64) N key a);rw[fh,fh];split
   ·rfl
   ·exact h M
  ·exact h M
theorem zD{w:Wd}{md:List Md}{u:List BL}(h:Au w md){E:Et}(g:ig E=true){c:Nat}(i:c<5)(a:(w.se c 0).length=32){key:BL}(j:u[(E.1-1).toNat]?=some key){k:Nat}:∀(l:List Mb)(km:KM)(ts:List Tm)(m:KV),Su (k+2*l.length) ts m->kw w ts u E->(∀p∈l,p∈E.2.2.1)->
 (zn E c (w.se c 0) l km ts m).1=0/\(zn E c (w.se c 0) l km ts m).2.1=pP E.1 key c l km
 |[],_,_,_,_,_,_=>⟨rfl,rfl⟩
 |p::r,km,ts,m,n,b,o=>by
  have s:aB (w.se c 0):=by unfold aB;omega
  have A:E.2.2.2.2.1.length=32:=by obtain⟨_,v,key,_,_,_,q,_⟩:=b;exact q.len32 (by show(112:BitVec 8)≠98;decide) (by show(112:BitVec 8)≠103;decide)
  simp only[zn,pP];by_cases e:p.1=(c:Int)
  ·rw[af (λq=>q e),am e];obtain⟨x,f,z⟩:=PZ h (k:=k+2*r.length) (m:=m) (n.mono (by simp;omega)) g b i a (o p (aG ..)) e;have y:=keP (e:=E) (c:=(c:Int)) (m:=m) (k:=k+2*r.length) s (show aB E.2.2.2.2.1 by unfold aB;omega) (n.mono (by simp;omega));rw[j]at f;have f:=Option.some.inj f;subst f;rw[z,af (λq=>q rfl)];exact zD h g i a j (k:=k) r _ _ _ (y.su.mono (by omega)) (b.gr y.gr) (λq t=>o q (aA _ t))
  ·rw[am e,af e];exact zD h g i a j (k:=k) r _ _ _ (n.mono (by simp;omega)) b (λq t=>o q (aA _ t))
theorem UO{w:Wd}{md:List Md}{g:List BL}(h:Au w md){E:Et}(n:ig E=true){c:Nat}(o:c<5)(a:(w.se c 0).length=32){key:BL}(s:g[(E.1-1).toNat]?=some key){ts:List Tm}{m:KV}(b:Su 2 ts m)(t:kw w ts g E):∀(l:List Mb)(km:KM),(∀p∈l,p∈E.2.2.1)->GP E c (w.se c 0) ts l km=pP E.1 key c l km:=by
 obtain⟨u,v,x⟩:=PY b.w (by have:=b.k.2;omega) b.k.1;intro l
 induction l with
 |nil=>intro _ _;rfl
 |cons p r y=>
  intro km i;simp only[GP,pP];rw[y _ (λq z=>i q (aA _ z)),v];by_cases e:p.1=(c:Int)
  ·obtain⟨j,f,A⟩:=PZ h (k:=0) (m:=u) ⟨x,b.k⟩ n t o a (i p (aG ..)) e;rw[s]at f;have f:=Option.some.inj f;rw[am e,am e];dsimp only;rw[A,f]
  ·rw[af e,af e]
theorem UP{e c:Et}(h:ig e=true)(h':ig c=true)(q:fL e=fL c):e=c:=by
 obtain⟨a,f,_⟩:=Ba h;obtain⟨b,g,_⟩:=Ba h';rw[q,g]at f;exact(aH ga f).symm
theorem a39{l l':Lt}(h:jR l=true)(h':jR l'=true)(q:gh l=gh l'):l=l':=by
 obtain⟨a,c,_⟩:=A9 h;obtain⟨b,e,_⟩:=A9 h';rw[q,e]at c;exact(aH ga c).symm
theorem Bz{l:Lt}{e:Et}(h:jR l=true):gh l≠fL e:=by
 intro q;have a:=(ez h).1;unfold gh ei fL dL fq at q;simp only[ay]at q;have:=(eA (by have:=a.1;omega) (by have:=a.2.1;omega) (by omega) (by omega) q).1;have:=a.1;omega
theorem UQ{w:Wd}{md:List Md}{c:List BL}(h:Au w md)(K:Ke w md c){e:Et}(f:ig e=true)(i:xX w.lg.1 (dL e) e.2.2.2.2.2.2.1 w.ts=true):kw w w.ts c e:=by
 obtain⟨n,d,g,j,_⟩:=GZ h f i;rcases K.hon n 0 j with⟨E,a,b,_,m⟩|⟨l,a,b,_⟩
 ·rw[g]at a;have:=UP f b (Option.some.inj a);rw[this];exact m
 ·rw[g]at a;exact absurd (Option.some.inj a).symm (Bz b)
theorem Hw{w:Wd}{md:List Md}(h:Au w md){a j:Nat}(b:a<5)(c:j<2):(w.se a j).length=32:=(h.sc a j b c).t115
theorem U'{w:Wd}{md:List Md}{j:List BL}(h:Au w md)(K:Ke w md j){n i:Nat}(B:cR w (n+1))(hi:i<5){b:BL}{y:Ir}(r:nW (w.cl i) b w.ts w.m y):
 (y.2.1.km=(w.cl i).km/\¬(y.1.1=0/\y.1.2.1=1))\/
 ((y.1.1=0/\y.1.2.1=1)/\ig (eL b true (0,0)).1=true/\kw w w.ts j (eL b true (0,0)).1/\∃key,j[((eL b true (0,0)).1.1-1).toNat]?=some key/\key.length=32/\y.2.1.km=pP (eL b true (0,0)).1.1 key i (eL b true (0,0)).1.2.2.1 (w.cl i).km):=by
 have M:Su (10000+10000) w.ts w.m:=(nc h B).mono (by omega);obtain⟨⟨X,Y,p3,p4,p5,p6,p7,p8,p9⟩,a,_⟩:=B.cl i hi;have l:=(h.own i hi).2;obtain⟨⟨q,N⟩,_⟩:=h.cl i hi;unfold nW at r;dsimp only at r;split at r
 ·rw[r];exact .inl ⟨rfl,λe=>by cases e.1⟩
 rename_i hb;have C:bQ b 0:=⟨by omega,by omega,by omega⟩;split at r
 ·rename_i g;rw[r];exact .inl ⟨rfl,λe=>absurd e.1 g⟩
 split at r
 ·split at r
  ·rename_i g;rw[r];exact .inl ⟨rfl,λe=>absurd e.1 g⟩
  ·rename_i g;have g:=aC.1 g;have D:=((vm C).2 g).2;have O:=fy D;rw[r];dsimp only;generalize(eL b true (0,0)).1=E at*;have F:=Ub (lg:=(w.cl i).lg) (e:=E) (k:=19999) O.2.1 M;unfold qh;rw[ck];dsimp only;split
   ·rename_i o;exact .inl ⟨rfl,λe=>absurd e.1 o⟩
   ·rename_i o;obtain⟨s,t2,G,t4⟩:=Uj (aC.1 o);rw[N]at G;have t:=UQ h K s G;obtain⟨_,H,key,J,P,k3,k4,k5⟩:=id t
    have Q:E.2.2.1.length<=5:=by
     have L:=s;unfold ig at L;exact(fX (ag L).2.2.2.1).2.1
    have u:=zD h s hi (Hw h hi (by omega)) J (k:=100) E.2.2.1 (w.cl i).km (kg (w.cl i).lg E w.ts w.m).2.2.1 (kg (w.cl i).lg E w.ts w.m).2.2.2 (F.su.mono (by omega)) (t.gr F.gr) (λp R=>R);rw[<-l,<-a]at u;rw[af (λq=>q u.1)];exact .inr ⟨⟨rfl,rfl⟩,D,t,key,J,P,by dsimp only;rw[u.2,a]⟩
 ·split at r
  ·rename_i g;rw[r];exact .inl ⟨rfl,λe=>absurd e.1 g⟩
  ·rename_i g;obtain⟨e1,S⟩:=A8 C (aC.1 g);obtain⟨z,f,U,r1,r2,v,W⟩:=r;rw[W];refine .inl ⟨rfl,λe=>?_⟩;obtain⟨x,A⟩:=e;unfold xz at v;have x:z.1=0:=x;have A:U.1=1:=A;rw[am x]at v;have c:=(ez S).1.1;rw[<-v.1,A]at c;exact absurd c (by decide)
theorem kw.lgs{w w':Wd}{ts:List Tm}{g x:List BL}{E:Et}(h:kw w ts g E)(l:w'.sec=w.sec)(e:∃s,w'.lg.2.1=w.lg.2.1++s):kw w' ts (g++x) E:=by
 obtain⟨m,c,key,n,o,q,r,t⟩:=h;obtain⟨s,e⟩:=e;have f:∀a j,w'.se a j=w.se a j:=λa j=>by unfold Wd.se;rw[l]
 refine⟨by rw[e];exact dQ m,c,key,dQ n,o,q,r,λi p u=>?_⟩;obtain⟨a,b,v,y,z,A⟩:=t i p u;exact⟨a,b,v,y,z,by rw[f];exact A⟩
theorem P0.lgs{w w':Wd}{N:Int}{i:Nat}(h:P0 w N i)(a:∃s,w'.lg.2.1=w.lg.2.1++s):P0 w' N i:=let⟨e,b,c⟩:=h;let⟨_,a⟩:=a;⟨e,by rw[a];exact dQ b,c⟩
theorem Bw.lgs{w w':Wd}{a x:List BL}{i:Nat}{km:KM}(h:Bw w a i km)(b:∃s,w'.lg.2.1=w.lg.2.1++s):Bw w' (a++x) i km:=λq c=>let⟨j,e,f,g,l⟩:=h q c;⟨j,e,dQ f,g,l.lgs b⟩
theorem kw.mb{w:Wd}{ts:List Tm}{a:List BL}{E:Et}(h:kw w ts a E){i:Nat}(b:∃p∈E.2.2.1,p.1=(i:Int)):P0 w E.1 i:=⟨_,h.lg,b⟩
theorem Ke.ext{K:Tm->Prop}{w w':Wd}{md b:List Md}{e:List BL}(h:Ke w md e)(B:w'.sec=w.sec)(y:w'.lg.2.1=w.lg.2.1)(L:w.d<=w'.d)(j:∃s,w'.st=w.st++s)(m:∃s,b=md++s)(g:Gr K w.ts w'.ts)
 (C:∀i:Nat,i<5->Bw w e i (w'.cl i).km) (D:∀i:Nat,i<5->Bw w e i (w'.ky i)) (F:∀i:Nat,i<5->∀N:Int,aO .i64 N (w'.ky i)=aO .i64 N (w'.cl i).km)
 (new:∀(n:Nat)(a:Int),md.length<=n->b[n]?=some (a,true,())->Hon w' e n a):Ke w' b e:=by
 have f:∃s,w'.lg.2.1=w.lg.2.1++s:=⟨[],by rw[y,aW]⟩;have z:∀{i:Nat}{A:KM},Bw w e i A->Bw w' e i A:=λq=>by have:=q.lgs (x:=[]) f;rwa [aW]at this
 refine⟨by rw[y];exact h.len,λi k G=>?_,h.dif,λn a o=>?_,λi p=>z (C i p),λi p=>z (D i p),F⟩
 ·obtain⟨c,M,H,J⟩:=h.dr i k G;exact⟨c,by omega,H,g.nm J⟩
 ·rcases bI n md.length with q|q
  ·obtain⟨s,j⟩:=j;obtain⟨O,m⟩:=m;rw[m,bU q]at o;rcases h.hon n a o with⟨E,r,t,u,v⟩|⟨l,r,t,u,v⟩
   ·have:=(v.gr g).lgs (x:=[]) B f;rw[aW]at this;exact .inl ⟨E,by rw[j];exact dQ r,t,u,this⟩
   ·exact .inr ⟨l,by rw[j];exact dQ r,t,u,v.gr g⟩
  ·exact new n a q o
theorem zE{w:Wd}{md:List Md}{m:List BL}(h:Au w md)(K:Ke w md m){n:Nat}(u:cR w (n+1)){i:Int}(hi:0<=i/\i<5){b:BL}{y:(Int×Nw)×Wd}(r:jw w i b y):Ke y.2 md m:=by
 obtain⟨S,v,L,_⟩:=rQ h u hi r;have M:=(ij r).2.2;obtain⟨z,B,rfl⟩:=r;obtain⟨j,rfl⟩:=bR hi.1;have A:j<5:=by omega
 rw[aF]at B S v L M⊢;have U:=U' h K u A B;have O:=rcP (k:=10000*n+10000) (u.cl j A).1 ((nc h u).mono (by omega)) B
 have C:∀x,x<5->(fj b j z.1 (w.aft j z.2)).cl x=if x=j then z.2.1 else w.cl x:=by
  intro x c;rw[(lR b j z.1 (w.aft j z.2)).2.2.2,rP w A c]
 have f:∀x,(w.aft j z.2).ky x=w.ky x:=λx=>by
  have:=(eG w j z.2.1).2.2.2.2.2.2.2.2.2 x;rw[<-this];rcases bI x 4 with q|q
  ·rcases(show x=0\/x=1\/x=2\/x=3 by omega)with rfl|rfl|rfl|rfl<;>rfl
  ·obtain⟨x,rfl⟩:=Nat.exists_eq_add_of_le q;rw[eJ];rfl
 have D:∀x,x<5->(fj b j z.1 (w.aft j z.2)).ky x=if x=j/\(z.1.1=0/\z.1.2.1=1)then GP (eL b true (0,0)).1 j ((w.aft j z.2).se j 0) z.2.2.1 (eL b true (0,0)).1.2.2.1 (w.ky j)else w.ky x:=by
  intro x c;unfold fj;split
  ·rename_i g;rw[aF,GQ _ _ A c,f,f];by_cases e:x=j
   ·rw[am e,am ⟨e,g⟩];rfl
   ·rw[af e,af (λq=>e q.1)]
  ·rename_i g;rw[af (λq=>g q.2),f]
 have F:(w.aft j z.2).se j 0=w.se j 0:=(fE w j z.2).1.se j 0
 have o:∀{E:Et}{key:BL}{G:KM},ig E=true->kw w w.ts m E->m[(E.1-1).toNat]?=some key->key.length=32->Bw w m j G->Bw w m j (pP E.1 key j E.2.2.1 G):=by
  intro E key G P W X Y e5 q hq;rcases Bx hq with g|⟨H,g2⟩
  ·exact e5 q g
  ·have h1:1<=E.1:=by unfold ig at P;exact(ag P).1
   refine⟨(E.1-1).toNat,by rw[H];dsimp only;omega,by rw[H];exact X,by rw[H];exact Y,?_⟩;have:=W.mb g2
   rwa [show(((E.1-1).toNat:Nat):Int)+1=E.1 by omega]
 have l:∀x,x<5->Bw w m x ((fj b j z.1 (w.aft j z.2)).cl x).km/\Bw w m x ((fj b j z.1 (w.aft j z.2)).ky x)/\∀N:Int,aO .i64 N ((fj b j z.1 (w.aft j z.2)).ky x)=aO .i64 N ((fj b j z.1 (w.aft j z.2)).cl x).km:=by
  intro x c;rw[C x c,D x c,F];by_cases e:x=j
  ·subst e;rw[am rfl];rcases U with⟨s,t⟩|⟨g,s,t,key,J,Q,k5⟩
   ·rw[s,af (λq=>t q.2)];exact⟨K.km x c,K.ky x c,K.eq x c⟩
   ·rw[am ⟨rfl,g⟩,k5,UO h s c (Hw h c (by omega)) J (O.su.mono (by omega)) (t.gr O.gr) _ _ (λp hp=>hp)];exact⟨o s t J Q (K.km x c),o s t J Q (K.ky x c),By (K.eq x c)⟩
  ·rw[af e,af (λq=>e q.1)];exact⟨K.km x c,K.ky x c,K.eq x c⟩
 exact K.ext v.sec (by rw[v.lg]) (by rw[M];exact bY _) ⟨[],by rw[v.st,aW]⟩ ⟨[],by rw[aW]⟩ L (λi hi=>(l i hi).1) (λi hi=>(l i hi).2.1) (λi hi=>(l i hi).2.2)
  (λn a q R=>by rw[bD q]at R;cases R)
end Go.Tp
