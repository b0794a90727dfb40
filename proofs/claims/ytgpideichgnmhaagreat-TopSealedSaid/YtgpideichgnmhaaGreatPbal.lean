/- A part of the proof of TopSealedSaid: no conditions; packed by a program of our own. -/
import Derived.Test.YtgpideichgnmhaaGreatPbak
import Derived.Test.YtgpideichgnmhaaGreatPbah
open Bool renaming eq_iff_iff→mi,and_eq_true→aI,false_eq_true→cu,true_and→fp,not_eq_false→bW
open Decidable renaming not_not→aC
open Int renaming toNat_natCast→aF,toNat_of_nonneg→pz,le_refl→bY
open List renaming replicate→ak,length_append→aa,length_cons→ba,append_assoc→ay,mem_append→bb,drop_of_length_le→bC,nil_append→eS,take_of_length_le→bf,append_nil→aW,mem_cons→bt,getElem?_eq_getElem→ap,getElem?_append_left→bU,getElem?_append_right→aU,drop_drop→jz,take_append_drop→dI,length_take→be,length→ah,getD_eq_getElem?_getD→aw,getElem?_eq_none→bD,length_nil→de,map_append→dn,length_map→bT,mem_cons_self→aG,mem_cons_of_mem→aA,mem_map_of_mem→fB,mem_append_left→cL,length_drop→cI,length_singleton→bh,take_length→br,length_eq_zero_iff→r8,length_set→cG
open Nat renaming le_refl→aD,le_trans→bq,zero_le→aq,lt_or_ge→bI,eq_zero_or_pos→jZ
open Prod renaming ext→r6,fst→ga
namespace Go.Tp
open Go.Hv Go.Proofs Go.RowKit
set_option maxRecDepth 100000
set_option maxHeartbeats 0
structure Cl where
 c:Int
 se:BL
 sg:BL
 lg:Lg
 pg:Pg
 la:La
 fk:List Fk
 km:KM
 bk:Ln
def ls(w:Cl):Prop:=0<=w.c/\w.c<5/\aB w.se/\fD w.la/\cr w.pg/\ci w.bk/\cC w.lg.2.1 w.lg.2.2.1/\w.lg.2.1.length<=100000/\aB w.lg.1
def kr(w:Cl)(l:Lt)(ts:List Tm)(m:KV)(y:x9):Prop:=
 if w.lg.2.1.length<l.2.2.1 then y=(21,w.pg,w.bk,ts,m)
 else if(gk (cS w.lg.2.1 l.2.2.1) l.2.1).2=false then y=(19,w.pg,w.bk,ts,m)
 else
  let z:=tV (gk (cS w.lg.2.1 l.2.2.1) l.2.1).1.2.2.1 l ts m
  if z.1.2≠0 then y=(z.1.2,w.pg,w.bk,z.2)
  else
   let k:=zl l z.1.1 w.la w.bk z.2.1 z.2.2
   if k.1≠0 then y=(k.1,w.pg,w.bk,k.2)
   else if(vN w.lg.2.1.reverse l.2.1).2=true/\(l.1≠2\/(vN w.lg.2.1.reverse l.2.1).1<l.2.2.2.1)then y=(19,w.pg,w.bk,k.2)
   else if(aO .i64 l.2.2.1 w.km).isSome=false then y=(22,w.pg,w.bk,k.2)
   else
    let o:=mW ((aO .i64 l.2.2.1 w.km).getD []) l k.2.1 k.2.2
    if o.1.2≠0 then y=(o.1.2,w.pg,w.bk,o.2)else tZ l z.1.1 o.1.1 w.pg w.bk o.2.1 o.2.2 y
theorem A7(w:Cl)(l:Lt)(ts:List Tm)(m:KV)(h:cr w.pg):∃y,kr w l ts m y:=by
 unfold kr;dsimp only
 repeat' split
 all_goals first
  |exact⟨_,rfl⟩
  |exact Gn _ _ _ _ _ _ h
theorem ez{l:Lt}(h:jR l=true):xZ l/\l.2.2.2.2.2.1.length<=4112/\hC l/\l.2.2.2.2.2.2.1.length=64:=by
 unfold jR at h;have h:=ag h;have b:=tR ((l.2.2.2.2.2.1.length:Int)-17);obtain⟨a,c,f,e⟩:=h;have b:=b c;have g:=a.2.2.2.2.2.2.2.2;exact⟨a,by omega,⟨by omega,by omega,by omega⟩,e⟩
theorem lcS{sg:BL}{l:Lt}{k:Nat}{ts:List Tm}(m:KV)(a:hC l)(h:bO (k+1) ts):bO k (tV sg l ts m).2.1:=by
 have b:=oJ (k:=k) m h (kD (k:=104) (by decide) (by decide) (show aB l.2.2.2.2.2.1 by have:=a.2.1;unfold aB;omega));have c:=h.mono (j:=k) (by omega);unfold tV;rw[ck];dsimp only
 repeat' split
 all_goals first|exact c|exact b
theorem dgS{lk:Lk}{k:Nat}{ts:List Tm}(m:KV)(h:bO (k+1) ts):bO k (lZ lk ts m).2.1:=by
 unfold lZ;split
 ·rename_i g;exact oJ m h (kD (k:=104) (by decide) (by decide) (by have:=pZ g;unfold aB;omega))
 ·exact h.mono (by omega)
theorem chS{lk:Lk}{bk:Ln}{k:Nat}{ts:List Tm}(m:KV)(h:bO (k+1) ts):bO k (iV lk bk ts m).2.1:=by
 have a:=h.mono (j:=k) (by omega);unfold iV
 repeat' split
 all_goals first|exact a|exact dgS m h
theorem knS{l:Lt}{lk:Lk}{la:La}{bk:Ln}{k:Nat}{ts:List Tm}(m:KV)(h:bO (k+1) ts):bO k (zl l lk la bk ts m).2.1:=by
 unfold zl;split
 ·exact h.mono (by omega)
 ·exact chS m h
theorem upL(b:BL):(Co b).1.length<=4096:=by
 unfold Co;split
 ·simp
 ·rename_i c r _;split
  ·split
   ·rename_i g;have:=tR r.length g.1;rw[List.length_reverse];omega
   ·simp
  ·simp
theorem a_{ep:BL}{l:Lt}{k:Nat}{ts:List Tm}(m:KV)(h:bO (k+1) ts):bO k (mW ep l ts m).2.1/\(mW ep l ts m).1.1.length<=4096:=by
 have b:=h.mono (j:=k) (by omega);unfold mW;rw[ck];split
 ·exact⟨b,by simp⟩
 ·rename_i g;have a:=(loA (l:=l) m (show aB ep by unfold aB;omega) h).1
  repeat' split
  ·exact⟨a,by simp⟩
  ·exact⟨a,by simp⟩
  ·exact⟨a,upL _⟩
theorem TP(l:List Mb)(id:Int):(gk l id).1=yS\/(gk l id).1∈l:=by
 induction l with
 |nil=>exact .inl rfl
 |cons a r b=>
  unfold gk;split
  ·exact .inr (aG ..)
  ·rcases b with h|h
   ·exact .inl h
   ·exact .inr (aA _ h)
theorem vl{es:List Et}{n:Int}{x:Mb}(h:x∈cS es n):∃e∈es,x∈e.2.2.1:=by
 unfold cS at h;split at h
 ·simp at h
 ·exact⟨_,aS (by omega),h⟩
theorem sgN{es:List Et}{a:List BL}(h:cC es a)(n id:Int):aB (gk (cS es n) id).1.2.2.1:=by
 rcases TP (cS es n) id with g|g
 ·rw[g];exact aq _
 ·obtain⟨e,b,c⟩:=vl g;have:=(h.2.2.2 e b _ c).2;unfold aB;omega
def KU:Ct:=⟨3,⟨[sP 0,sS 1 4,yW 2],gG 0++iK 4⟩,[⟨[(0,true,[.d Gb]),sI 1],Z4 0 8++lj 4 7++[cT]++jr 8⟩],λ(l,c,b,e,f,i,g,a,h,bk,d,j,m,_)=>
 eD (jR l=true/\ls ⟨c,b,e,f,i,g,a,h,bk⟩/\a.length+2000<=10000000/\bO 10000 j)
  (λy:x9×List Fk×Nw=>kr ⟨c,b,e,f,i,g,a,h,bk⟩ l j m y.1/\y.2.1.length<=a.length+400/\xz l y.1.1 y.2.2) λy=>(y.2.2,y.1.1,c,b,e,f,y.1.2.1,ya l y.1.1 g,y.2.1,h,d,y.1.2.2.2.2,y.1.2.2.2.1,y.1.2.2.1,())⟩
abbrev TQ(v:Nw×Int×Int×BL×BL×Lg×Pg×La×List Fk×KM×Int×KV×List Tm×Ln×Unit):cw KU.out:=⟨0,v⟩
def Ph:bw:=(128,[KU])::Pf
theorem b_:KK Ph:=kA Z9 (cE KU 0) (∀(a:Lt)(j:Int)(k l:BL)(d:Lg)(i:Pg)(g:La)(o:List Fk)(f:KM)(h:Ln)(m:Int)(p:List Tm)(q:KV)Q,let s:=(j,k,l,d,i,g,o,f,m,q,p,h,());let t:=aO Ty.i64 a.2.2.1 f;let u:=vN (List.reverse d.2.1) a.2.1;bd KU (a,j,k,l,d,i,g,o,f,h,m,p,q,()) Q->True/\Bd (nI d.2.1<a.2.2.1) (Q ⟨0,(0,0,0,0,false,false,[],()),21,s⟩) (cC d.2.1 d.2.2.1/\∀b,b=gk (cS d.2.1 a.2.2.1) a.2.1->Br (!b.2) (Q ⟨0,(0,0,0,0,false,false,[],()),19,s⟩) ((aB b.1.2.2.1/\hC a/\bO 1 p)/\∀n,n=tV b.1.2.2.1 a p q->Br (!n.1.2==0) (Q ⟨0,(0,0,0,0,false,false,[],()),n.1.2,j,k,l,d,i,g,o,f,m,n.2.2,n.2.1,h,()⟩) ((2<=a.1/\a.1<=4/\0<=a.2.1/\a.2.1<5/\fD g/\ci h/\o.length+1<=10000000/\bO 1 n.2.1)/\∀(c:(Int×List Tm×KV)×List Fk),let r:=(j,k,l,d,i,g,c.2,f,m,c.1.2.2,c.1.2.1,h,());let v:=TQ ((0,0,0,0,false,false,[],()),19,r);let z:=Br (!t.isSome) (Q ⟨0,(0,0,0,0,false,false,[],()),22,r⟩) ((hC a/\bO 1 c.1.2.1)/\∀b,b=mW (t.getD []) a c.1.2.1 c.1.2.2->Br (!b.1.2==0) (Q ⟨0,(0,0,0,0,false,false,[],()),b.1.2,j,k,l,d,i,g,c.2,f,m,b.2.2,b.2.1,h,()⟩) ((2<=a.1/\a.1<=4/\0<=a.2.1/\a.2.1<5/\fD g/\ah b.1.1<=65536/\b.2.1.length+ah b.1.1<=4294967296/\bO 1 b.2.1/\cr i/\ci h/\cC d.2.1 d.2.2.1/\c.2.length+1000<=10000000)/\∀(e:(Int×Pg×Ln×List Tm×KV)×List Fk×Nw),tZ a n.1.1 b.1.1 i h b.2.1 b.2.2 e.1/\e.2.1.length<=c.2.length+300/\xz a e.1.1 e.2.2->Q ⟨0,e.2.2,e.1.1,j,k,l,d,e.1.2.1,ya a e.1.1 g,e.2.1,f,m,e.1.2.2.2.2,e.1.2.2.2.1,e.1.2.2.1,()⟩));c.2.length<=o.length+1/\c.1=zl a n.1.1 g h n.2.1 n.2.2->Br (!c.1.1==0) (Q ⟨0,(0,0,0,0,false,false,[],()),c.1.1,r⟩) (cC d.2.1 d.2.2.1/\Br (u.2) (Br (!a.1==2) (Q v) (Bd (u.1<a.2.2.2.1) (Q v) z)) z))))) (by
 conv=>zeta
 unfold Bd Br nI bd;intro l c q r g o j u i bk d B m Q ⟨⟨h1,h2,h3,Y⟩,hQ⟩;have p:∀(y:x9)(f:List Fk)(n:Nw),kr ⟨c,q,r,g,o,j,u,i,bk⟩ l B m y->f.length<=u.length+400->xz l y.1 n->Q ⟨0,(n,y.1,c,q,r,g,y.2.1,ya l y.1 j,f,i,d,y.2.2.2.2,y.2.2.2.1,y.2.2.1,())⟩:=λy f n a b e=>hQ (y,f,n) ⟨a,b,e⟩;clear hQ;obtain⟨p1,p2,p3,K,p5,L,w,p8,p9⟩:=h2;obtain⟨s,l2,M,l4⟩:=ez h1;dsimp only at p1 p2 p3 K p5 L w p8 p9
 have bad:∀(x:Int)(f:List Fk)(C:List Tm)(D:KV),x≠0->kr ⟨c,q,r,g,o,j,u,i,bk⟩ l B m (x,o,bk,C,D)->f.length<=u.length+400->Q ⟨0,(jB,x,c,q,r,g,o,j,f,i,d,D,C,bk,())⟩:=by
  intro x f C D he hr N;have:=p _ f jB hr N (by unfold xz;rw[af he]);rw[show ya l (x,o,bk,C,D).1 j=j from af (λh=>he h.1)]at this;exact this
 unfold kr at bad p;dsimp only at bad p;refine⟨trivial,λe=>bad 21 u B m (by decide) (by rw[am (ag e)]) (by omega),λE=>⟨w,λz F=>⟨λe=>?_,λO=>⟨⟨?_,M,Y.mono (by omega)⟩,λy A=>?_⟩⟩⟩⟩
 ·exact bad 19 u B m (by decide) (by rw[af (an E),am (by rw[<-F];simpa using e)]) (by omega)
 ·rw[F];exact sgN w _ _
 have E:=an E;have O:¬z.2=false:=by simpa using O
 have P:=lcS (sg:=z.1.2.2.1) (k:=9999) m M Y;rw[<-A]at P;simp only[af E,<-F,af O,<-A]at bad p;clear F A;refine⟨λe=>bad _ u _ _ (jU e) (by rw[am (jU e)]) (by omega),λe3=>⟨⟨s.1,s.2.1,s.2.2.1,s.2.2.2.1,K,L,by omega,P.mono (by omega)⟩,?_⟩⟩;simp only[af (jV e3)]at bad p;rintro⟨k,f⟩ ⟨N,G⟩;dsimp only at N G;have R:=knS (l:=l) (lk:=y.1.1) (la:=j) (bk:=bk) (k:=9998) y.2.2 P;rw[<-G]at R;simp only[<-G]at bad p;clear G;refine⟨λe=>bad _ f _ _ (jU e) (by rw[am (jU e)]) (by omega),λe4=>⟨w,?_⟩⟩;simp only[af (jV e4)]at bad p
 have tail:¬((vN g.2.1.reverse l.2.1).2=true/\(l.1≠2\/(vN g.2.1.reverse l.2.1).1<l.2.2.2.1))->((!(aO Ty.i64 l.2.2.1 i).isSome)=true->Q ⟨0,(jB,22,c,q,r,g,o,j,f,i,d,k.2.2,k.2.1,bk,())⟩)/\((!(aO Ty.i64 l.2.2.1 i).isSome)=false->(hC l/\bO 1 k.2.1)/\∀b,b=mW ((aO Ty.i64 l.2.2.1 i).getD []) l k.2.1 k.2.2->((!b.1.2==0)=true->Q ⟨0,(jB,b.1.2,c,q,r,g,o,j,f,i,d,b.2.2,b.2.1,bk,())⟩)/\((!b.1.2==0)=false->(2<=l.1/\l.1<=4/\0<=l.2.1/\l.2.1<5/\fD j/\b.1.1.length<=65536/\b.2.1.length+b.1.1.length<=4294967296/\bO 1 b.2.1/\cr o/\ci bk/\cC g.2.1 g.2.2.1/\f.length+1000<=10000000)/\∀v:x9×List Fk×Nw,tZ l y.1.1 b.1.1 o bk b.2.1 b.2.2 v.1/\v.2.1.length<=f.length+300/\xz l v.1.1 v.2.2->Q ⟨0,(v.2.2,v.1.1,c,q,r,g,v.1.2.1,ya l v.1.1 j,v.2.1,i,d,v.1.2.2.2.2,v.1.2.2.2.1,v.1.2.2.1,())⟩)):=by
  intro e5;simp only[af e5]at bad p;refine⟨λe=>bad 22 f _ _ (by decide) (by rw[am (by simpa using e)]) (by omega),λH=>⟨⟨M,R.mono (by omega)⟩,λb S=>?_⟩⟩;have H:¬(aO Ty.i64 l.2.2.1 i).isSome=false:=λh=>by rw[h]at H;cases H
  have U:=a_ (ep:=(aO Ty.i64 l.2.2.1 i).getD []) (l:=l) (k:=9997) k.2.2 R;rw[<-S]at U;simp only[af H,<-S]at bad p;clear S;refine⟨λe=>bad _ f _ _ (jU e) (by rw[am (jU e)]) (by omega),λe7=>⟨⟨s.1,s.2.1,s.2.2.1,s.2.2.2.1,K,by omega,by have:=U.1.2;omega,U.1.mono (by omega),p5,L,w,by omega⟩,λv hv=>p v.1 v.2.1 v.2.2 (by rw[af (jV e7)];exact hv.1) (by omega) hv.2.2⟩⟩
 have t:(vN g.2.1.reverse l.2.1).2=true/\(l.1≠2\/(vN g.2.1.reverse l.2.1).1<l.2.2.2.1)->Q ⟨0,(jB,19,c,q,r,g,o,j,f,i,d,k.2.2,k.2.1,bk,())⟩:=λe=>bad 19 f _ _ (by decide) (by rw[am e]) (by omega);refine⟨λJ=>⟨λW=>t ⟨J, .inl (jU W)⟩,λW=>⟨λX=>t ⟨J, .inr (ag X)⟩,λX=>tail λh=>?_⟩⟩,λJ=>tail λh=>by rw[J]at h;exact absurd h.1 (by decide)⟩;rcases h.2 with h|h
 ·exact jV W h
 ·exact an X h) (l:=λ_=>aM λh=>by obtain⟨y,A⟩:=A7 _ _ _ _ h.2.1.2.2.2.2.1;obtain⟨n,hn⟩:=zo _ y.1;exact⟨(y,[],n),A,aq _,hn⟩)
abbrev Ir:=(Int×Nw)×Cl×List Tm×KV
def nW(w:Cl)(b:BL)(ts:List Tm)(m:KV)(y:Ir):Prop:=
 if 65536<b.length then y=((2,jB),w,ts,m)
 else
  let k:=cW b 0 true 0 1 4
  if k.2.2≠0 then y=((k.2.2,jB),w,ts,m)
  else if k.1=1 then
   let x:=eL b true (0,0)
   if cK b x.2.1 true x.2.2≠0 then y=((cK b x.2.1 true x.2.2,jB),w,ts,m)
   else
    let r:=qh w.c w.se w.lg w.km x.1 ts m
    y=((r.1.2,r.1.1),{w with lg:=r.2.1,km:=r.2.2.1},r.2.2.2)
  else
   let x:=fR b true (0,0)
   if cK b x.2.1 true x.2.2≠0 then y=((cK b x.2.1 true x.2.2,jB),w,ts,m)
   else∃z f n,kr w x.1 ts m z/\f.length<=w.fk.length+400/\xz x.1 z.1 n/\y=((z.1,n),{w with pg:=z.2.1,la:=ya x.1 z.1 w.la,fk:=f,bk:=z.2.2.1},z.2.2.2)
theorem Gp(w:Cl)(b:BL)(ts:List Tm)(m:KV)(h:cr w.pg):∃y,nW w b ts m y:=by
 unfold nW;dsimp only
 repeat' split
 all_goals first
  |exact⟨_,rfl⟩
  |(obtain⟨z,a⟩:=A7 w (fR b true (0,0)).1 ts m h
    obtain⟨n,c⟩:=zo (fR b true (0,0)).1 z.1;exact⟨_,z,[],n,a,aq _,c,rfl⟩)
theorem a3n{b:BL}{a:Int}(m:Bool)(e:Int)(h:bQ b a):bQ b (MG b m (a,e)).2.1:=by
 exact(ni m _ 64 (JE (λa e=>EN m e) _ (ni m _ 64 (JE (λa e=>EL m e) _ (JE (λa e=>EK m e) _ (ni m _ 64 (eQ m _ 1 65536 (eQ m e 1 1 h).1).1).1).1).1).1).1).1
theorem a3o{b:BL}{a:Int}(m:Bool)(e:Int)(h:bQ b a):bQ b (Im b m (a,e)).2.1:=by
 exact(ni m _ 64 (ni m _ 4112 (ni m _ 64 (eQ m _ 1 1048576 (eQ m _ 1 65536 (eQ m _ 0 4 (eQ m e 2 4 h).1).1).1).1).1).1).1
theorem TS{b:BL}{a e:Int}(h:cK b a true e=0):e=0/\(b.length:Int)<=a:=by
 unfold cK at h;simp only[if_true]at h;split at h
 ·contradiction
 ·split at h
  ·cases h
  ·omega
theorem vm{b:BL}(h:bQ b 0):bQ b (eL b true (0,0)).2.1/\(cK b (eL b true (0,0)).2.1 true (eL b true (0,0)).2.2=0->eL b true (0,0)=MG b true (0,0)/\ig (eL b true (0,0)).1=true):=by
 have a:=a3n true 0 h;unfold eL;rw[ck];dsimp only;refine⟨a,λg=>?_⟩;have g:=(TS g).1;cases c:ig (MG b true (0,0)).1 with
 |true=>
  rw[c]at g;simp only[if_true]at g⊢;rw[am g];exact⟨rfl,c⟩
 |false=>
  rw[c]at g;exfalso;simp only[cu,if_false,fp]at g;split at g
  ·cases g
  ·rename_i h;exact h (by simpa using g)
theorem Dt{b:BL}(h:bQ b 0):bQ b (fR b true (0,0)).2.1/\(cK b (fR b true (0,0)).2.1 true (fR b true (0,0)).2.2=0->fR b true (0,0)=Im b true (0,0)/\jR (fR b true (0,0)).1=true):=by
 have a:=a3o true 0 h;unfold fR;rw[ck];dsimp only;refine⟨a,λg=>?_⟩;have g:=(TS g).1;cases c:jR (Im b true (0,0)).1 with
 |true=>
  rw[c]at g;simp only[if_true]at g⊢;rw[am g];exact⟨rfl,c⟩
 |false=>
  rw[c]at g;exfalso;simp only[cu,if_false,fp]at g;split at g
  ·cases g
  ·rename_i h;exact h (by simpa using g)
theorem fy{e:Et}(h:ig e=true):vk e:=by
 obtain⟨j,l,n,a,f,o,p,q⟩:=lm h;obtain⟨r,s,t,g,u⟩:=fX a;have v:=oL a;have w:=u7 a 48 (λb c=>by rw[f b c];omega);refine⟨⟨by omega,by omega,by omega⟩,by omega,by omega,by unfold aB;omega,λm i=>?_,λb c=>?_,by unfold aB;omega⟩
 ·have:=g m i;unfold uZ at this;omega
 ·have:=f b c;unfold aB;omega
def TT:Ct:=⟨3,⟨[sP 0,sS 1 4,sB 2],gG 0++iK 4⟩,[⟨[(0,true,[.d Gb]),sI 1],Z4 0 8++lj 4 7++[cT]++jr 8⟩],λ(b,c,e,f,g,h,i,a,j,bk,d,l,m,_)=>
 eD (b.length<=10000000/\ls ⟨c,e,f,g,h,i,a,j,bk⟩/\a.length+2000<=10000000/\bO 10000 l)
  (λy:Ir=>nW ⟨c,e,f,g,h,i,a,j,bk⟩ b l m y) λy=>(y.1.2,y.1.1,y.2.1.c,y.2.1.se,y.2.1.sg,y.2.1.lg,y.2.1.pg,y.2.1.la,y.2.1.fk,y.2.1.km,d,y.2.2.2,y.2.2.1,y.2.1.bk,())⟩
def Pj:bw:=(80,[TT])::Ph
theorem c_:KK Pj:=kA b_ (cE TT 0) (∀(c:BL)(f:Int)(e h:BL)(d:Lg)(l:Pg)(i:La)(g:List Fk)(j:KM)(m:Ln)(n:Int)(k:List Tm)(o:KV)Q,let p:=Cl.mk f e h d l i g j m;let z:=(f,e,h,d,l,i,g,j,n,o,k,m,());bd TT (c,f,e,h,d,l,i,g,j,m,n,k,o,()) Q->Bd (65536<nI c) (Q ⟨0,(0,0,0,0,false,false,[],()),2,z⟩) (c.length<=1099511627776/\bQ c 0/\∀b,let q:= !(if true=true then b.2.2 else 5)==0;b=cW c 0 true 0 1 4->True/\Br q (Q ⟨0,(0,0,0,0,false,false,[],()),if true=true then b.2.2 else 5,z⟩) (c.length<=1099511627776/\Br (b.1==1) (bQ c 0/\∀b,let r:= !cK c b.2.1 true b.2.2==0;b=eL c true (0,0)->bQ c b.2.1/\Br r (Q ⟨0,(0,0,0,0,false,false,[],()),cK c b.2.1 true b.2.2,z⟩) ((vk b.1/\aB e/\aB d.1/\cC d.2.1 d.2.2.1/\ah d.2.1<=100000/\bO 20 k)/\∀a,a=qh f e d j b.1 k o->Q ⟨0,a.1.1,a.1.2,f,e,h,a.2.1,l,i,g,a.2.2.1,n,a.2.2.2.2,a.2.2.2.1,m,()⟩)) (bQ c 0/\∀b,let s:= !cK c b.2.1 true b.2.2==0;b=fR c true (0,0)->bQ c b.2.1/\Br s (Q ⟨0,(0,0,0,0,false,false,[],()),cK c b.2.1 true b.2.2,z⟩) ((jR b.1=true/\ls p/\g.length+2000<=10000000/\bO 10000 k)/\∀(a:(Int×Pg×Ln×List Tm×KV)×List Fk×Nw),kr p b.1 k o a.1/\a.2.1.length<=g.length+400/\xz b.1 a.1.1 a.2.2->Q ⟨0,a.2.2,a.1.1,f,e,h,d,a.1.2.1,ya b.1 a.1.1 i,a.2.1,j,n,a.1.2.2.2.2,a.1.2.2.2.1,a.1.2.2.1,()⟩))))) (by
 conv=>zeta
 unfold Bd Br nI bd;intro b c g i p q j s u bk d v m Q ⟨⟨L,y,K,E⟩,F⟩;have a:∀(B:Int)(n:Nw)(w:Cl)(t:List Tm)(k:KV),nW ⟨c,g,i,p,q,j,s,u,bk⟩ b v m ((B,n),w,t,k)->Q ⟨0,(n,B,w.c,w.se,w.sg,w.lg,w.pg,w.la,w.fk,w.km,d,k,t,w.bk,())⟩:=λB n w t k h=>F _ h;clear F;have f:bQ b 0:=⟨by omega,by omega,by omega⟩;have G:b.length<=1099511627776:=by omega
 unfold nW at a;dsimp only at a;refine⟨λe=>a 2 jB ⟨c,g,i,p,q,j,s,u,bk⟩ v m (by rw[am (by have:=ag e;omega)]),λC=>⟨G,f,λk H=>⟨trivial,?_⟩⟩⟩;have C:¬65536<b.length:=by have:=an C;omega
 simp only[af C,<-H]at a;simp only[if_true];clear H;refine⟨λe=>a _ jB ⟨c,g,i,p,q,j,s,u,bk⟩ v m (by rw[am (jU e)]),λJ=>⟨G,λD=>⟨f,λx z=>?_⟩,λD=>⟨f,λx z=>?_⟩⟩⟩
 ·simp only[af (jV J),am (aZ D),<-z]at a;have o:=vm f;rw[<-z]at o;refine⟨o.1,λe=>a _ jB ⟨c,g,i,p,q,j,s,u,bk⟩ v m (by rw[am (jU e)]),λA=>⟨⟨fy (o.2 (aC.1 (jV A))).2,y.2.2.1,y.2.2.2.2.2.2.2.2,y.2.2.2.2.2.2.1,y.2.2.2.2.2.2.2.1,E.mono (by omega)⟩,λr f=>?_⟩⟩;exact a r.1.2 r.1.1 ⟨c,g,i,r.2.1,q,j,s,r.2.2.1,bk⟩ r.2.2.2.1 r.2.2.2.2 (by rw[af (jV A),<-f])
 ·simp only[af (jV J),af (aE D),<-z]at a;have o:=Dt f;rw[<-z]at o;refine⟨o.1,λe=>a _ jB ⟨c,g,i,p,q,j,s,u,bk⟩ v m (by rw[am (jU e)]),λA=>⟨⟨(o.2 (aC.1 (jV A))).2,y,K,E⟩,λr f=>?_⟩⟩;exact a r.1.1 r.2.2 ⟨c,g,i,p,r.1.2.1,ya x.1 r.1.1 j,r.2.1,u,r.1.2.2.1⟩ r.1.2.2.2.1 r.1.2.2.2.2 (by rw[af (jV A)];exact⟨r.1,r.2.1,r.2.2,f.1,f.2.1,f.2.2,rfl⟩)) (l:=λ_=>aM λh=>Gp _ _ _ _ h.2.1.2.2.2.2.1)
def Sd(b:BL)(a:Int)(x:BL)(c:Int):Prop:=b.drop a.toNat=x++b.drop c.toNat
theorem Sd.trans{b x y:BL}{a e c:Int}(h:Sd b a x e)(h':Sd b e y c):Sd b a (x++y) c:=by
 unfold Sd at*;rw[h,h',ay]
theorem lu{b:BL}{a e lo hi:Int}(i:bQ b a)(h:(cW b a true e lo hi).2.2=0):e=0/\bQ b (cW b a true e lo hi).2.1/\Sd b a (vn (cW b a true e lo hi).1) (cW b a true e lo hi).2.1/\lo<=(cW b a true e lo hi).1/\(cW b a true e lo hi).1<=hi:=by
 have c:=(eQ true e lo hi i).1;unfold cW at h c⊢;split at h
 ·rename_i g;rw[am g]at c⊢;have g:e=0:=by simpa using g
  split at h
  ·rename_i f;rw[am f]at c⊢;split at h
   ·cases h
   ·rename_i l;rw[af l]at c⊢;obtain⟨j,m,n,o⟩:=MZ f;dsimp only at c⊢;refine⟨g,c,?_,by omega,by omega⟩;unfold Sd;rw[jz]at j;have p:=i.2.1;have:(a+(fO 0 0 (b.drop a.toNat)).2.1).toNat=a.toNat+(fO 0 0 (b.drop a.toNat)).2.1.toNat:=by omega
    rw[this];exact j
  ·rename_i f;exact absurd h f
 ·rename_i g;have h:e=0:=h;exact absurd (by rw[h];rfl) g
theorem a49{b:BL}{a e lo hi:Int}(h:(cW b a true e lo hi).2.2=0):e=0:=by
 unfold cW at h;split at h
 ·rename_i g;simpa using g
 ·exact h
theorem mB{b:BL}{a e n:Int}(m:bQ b a)(h:(gC b a true e n).2.2=0):e=0/\bQ b (gC b a true e n).2.1/\Sd b a (tx (gC b a true e n).1) (gC b a true e n).2.1/\(gC b a true e n).1.length<=n.toNat:=by
 have j:=ni true e n m;have f:=j.1;have o:=j.2.2;refine⟨?_,f,?_,o⟩
 ·unfold gC at h;split at h
  ·rename_i g;simpa using g
  ·exact h
 clear j o;unfold gC at h f⊢;split at h
 ·rename_i g;rw[am g]at f⊢;have g:e=0:=by simpa using g
  split at h
  ·rename_i i;rw[am i]at f⊢;split at h
   ·cases h
   ·rename_i q;rw[af q]at f⊢;split at h
    ·cases h
    ·rename_i r;rw[af r]at f⊢;obtain⟨l,w,x,y⟩:=MZ i;have A:=m.2.1;rw[jz]at l;have p:(a+(fO 0 0 (b.drop a.toNat)).2.1).toNat=a.toNat+(fO 0 0 (b.drop a.toNat)).2.1.toNat:=by omega
     generalize B:fO 0 0 (b.drop a.toNat)=G at*;obtain⟨v,c,z⟩:=G;dsimp only at*;subst g;unfold xW;rw[am (show(true&&(0:Int)==0)=true from rfl)];unfold Sd tx;split
     ·rename_i s;have:v=0:=by omega
      subst this;show b.drop a.toNat=(vn (0:Nat)++[])++b.drop (a+c).toNat;rw[p,aW];exact l
     ·rename_i s;rw[af (by omega)];dsimp only
      have t:(((b.take (a+c+v).toNat).drop (a+c).toNat).length:Int)=v:=by
       rw[cI,be];omega
      have u:b.drop (a+c).toNat=(b.take (a+c+v).toNat).drop (a+c).toNat++b.drop (a+c+v).toNat:=by
       conv=>lhs;rw[<-dI (a+c+v).toNat b]
       rw[List.drop_append_of_le_length (by rw[be];omega)]
      rw[t,l,ay,<-p,<-u]
  ·rename_i i;exact absurd h i
 ·rename_i g;have h:e=0:=h;exact absurd (by rw[h];rfl) g
theorem Gq{b:BL}{a e:Int}(f:bQ b a)(h:cK b a true e=0):e=0/\b.drop a.toNat=[]:=by
 obtain⟨c,g⟩:=TS h;exact⟨c,bC (by omega)⟩
theorem A8{b:BL}(f:bQ b 0)(h:cK b (fR b true (0,0)).2.1 true (fR b true (0,0)).2.2=0):b=gh (fR b true (0,0)).1/\jR (fR b true (0,0)).1=true:=by
 obtain⟨u,v⟩:=(Dt f).2 h;refine⟨?_,v⟩;have w:=(Dt f).1;obtain⟨i,j⟩:=Gq w h;rw[u]at i j w⊢;clear h u v;unfold Im at i j⊢;dsimp only at i j⊢;have y:=(eQ true 0 2 4 f).1;generalize z:cW b 0 true 0 2 4=k at*;have A:=(eQ true k.2.2 0 4 y).1;generalize a:cW b k.2.1 true k.2.2 0 4=l at*;have B:=(eQ true l.2.2 1 65536 A).1;generalize c:cW b l.2.1 true l.2.2 1 65536=m at*;have C:=(eQ true m.2.2 1 1048576 B).1;generalize D:cW b m.2.1 true m.2.2 1 1048576=n at*;have E:=(ni true n.2.2 64 C).1;generalize F:gC b n.2.1 true n.2.2 64=p at*;have K:=(ni true p.2.2 4112 E).1;generalize G:gC b p.2.1 true p.2.2 4112=x at*;have H:=mB (n:=64) K i;generalize L:gC b x.2.1 true x.2.2 64=g at*;have o:=mB (n:=4112) (e:=p.2.2) E (by rw[G];exact H.1);rw[G]at o;have q:=mB (n:=64) (e:=n.2.2) C (by rw[F];exact o.1);rw[F]at q;have r:=lu (lo:=1) (hi:=1048576) (e:=m.2.2) B (by rw[D];exact q.1);rw[D]at r;have s:=lu (lo:=1) (hi:=65536) (e:=l.2.2) A (by rw[c];exact r.1);rw[c]at s;have t:=lu (lo:=0) (hi:=4) (e:=k.2.2) y (by rw[a];exact s.1);rw[a]at t;have J:=lu (lo:=2) (hi:=4) (e:=0) f (by rw[z];exact t.1);rw[z]at J;have:=(((((J.2.2.1.trans t.2.2.1).trans s.2.2.1).trans r.2.2.1).trans q.2.2.1).trans o.2.2.1).trans H.2.2.1;unfold Sd at this;rw[j,aW]at this;show b.drop (0:Int).toNat=_;rw[this];rfl
theorem Pk{α:Type}{b:BL}{f:α->BL}{one:Rs->α×Rs}(j:∀a e,bQ b a->bQ b (one (a,e)).2.1)(h:∀a e,bQ b a->(one (a,e)).2.2=0->e=0/\Sd b a (f (one (a,e)).1) (one (a,e)).2.1):∀(k:Nat)(s:Rs)(c:List α),bQ b s.1->(xi one k s c).2.2=0->
 s.2=0/\∃l,(xi one k s c).1=c++l/\l.length=k/\Sd b s.1 (fl f l) (xi one k s c).2.1
 |0,s,c,i,g=>⟨g,[],by simp[xi],rfl,by simp[Sd,fl,xi]⟩
 |k+1,s,c,i,g=>by
  obtain⟨a,e⟩:=s;simp only[xi]at g⊢;have m:=j a e i;obtain⟨n,l,o,p,q⟩:=Pk j h k (one (a,e)).2 (c++[(one (a,e)).1]) m g;obtain⟨r,t⟩:=h a e i n;exact⟨r,(one (a,e)).1::l,by rw[o];simp,by simp[p],by have:=t.trans q;simpa[fl]using this⟩
theorem Gs{α:Type}{b:BL}{f:α->BL}{one:BL->Bool->Rs->α×Rs}(i:∀a e,bQ b a->bQ b (one b true (a,e)).2.1)(h:∀a e,bQ b a->(one b true (a,e)).2.2=0->e=0/\Sd b a (f (one b true (a,e)).1) (one b true (a,e)).2.1){s:Rs}(c:bQ b s.1)(g:(ob one b true s).2.2=0):
 s.2=0/\Sd b s.1 (vn (ob one b true s).1.length++fl f (ob one b true s).1) (ob one b true s).2.1:=by
 obtain⟨a,e⟩:=s;unfold ob at g⊢;dsimp only at g c⊢;have j:=(eQ true e 0 5 c).1;obtain⟨m,l,n,o,p⟩:=Pk i h _ _ [] j g;have q:=lu c m;refine⟨q.1,?_⟩;rw[n,eS,o,pz q.2.2.2.1];exact q.2.2.1.trans p
theorem Pm{b:BL}(c:bQ b 0)(h:cK b (eL b true (0,0)).2.1 true (eL b true (0,0)).2.2=0):b=fL (eL b true (0,0)).1/\ig (eL b true (0,0)).1=true:=by
 obtain⟨D,E⟩:=(vm c).2 h;refine⟨?_,E⟩;have F:=(vm c).1;obtain⟨i,t⟩:=Gq F h;rw[D]at i t F⊢;clear h D E;unfold MG at i t⊢;dsimp only at i t⊢;have G:=(eQ true 0 1 1 c).1;generalize H:cW b 0 true 0 1 1=k at*;have J:=(eQ true k.2.2 1 65536 G).1;generalize K:cW b k.2.1 true k.2.2 1 65536=n at*;have L:=(ni true n.2.2 64 J).1;generalize M:gC b n.2.1 true n.2.2 64=p at*;have N:=(JE (λa e=>EK true e) p.2 L).1;generalize j:ob Cr b true p.2=v at*;have O:=(JE (λa e=>EL true e) v.2 N).1;generalize l:ob Cs b true v.2=u at*;have P:=(ni true u.2.2 64 O).1;generalize m:gC b u.2.1 true u.2.2 64=w at*;have W:=(JE (λa e=>EN true e) w.2 P).1;generalize o:ob Cu b true w.2=Q at*;have R:=mB (n:=64) W i;generalize Y:gC b Q.2.1 true Q.2.2 64=g at*;have x:=Gs (f:=tx) (one:=Cu) (s:=w.2) (λa e=>EN true e) (λa e c i=>⟨(mB c i).1,(mB c i).2.2.1⟩) P (by rw[o];exact R.1);rw[o]at x;have y:=mB (n:=64) (e:=u.2.2) O (by rw[m];exact x.1);rw[m]at y
 have z:=Gs (f:=rE) (one:=Cs) (s:=v.2) (λa e=>EL true e) (λa e c i=>by
  have q:=lu (eQ true e 0 4 c).1 i;have r:=lu c q.1;exact⟨r.1,r.2.2.1.trans q.2.2.1⟩) N (by rw[l];exact y.1)
 rw[l]at z
 have A:=Gs (f:=pH) (one:=Cr) (s:=p.2) (λa e=>EK true e) (λa e c i=>by
  have S:=mB (ni true _ 64 (eQ true e 0 4 c).1).1 i;have q:=mB (eQ true e 0 4 c).1 S.1;have r:=lu c q.1;exact⟨r.1,(r.2.2.1.trans q.2.2.1).trans S.2.2.1⟩) L (by rw[j];exact z.1)
 rw[j]at A;have B:=mB (n:=64) (e:=n.2.2) J (by rw[M];exact A.1);rw[M]at B;have C:=lu (lo:=1) (hi:=65536) (e:=k.2.2) G (by rw[K];exact B.1);rw[K]at C;have U:=lu (lo:=1) (hi:=1) (e:=0) c (by rw[H];exact C.1);rw[H]at U;have X:k.1=1:=by omega
 have:=(((((((U.2.2.1.trans C.2.2.1).trans B.2.2.1).trans A.2).trans z.2).trans y.2.2.1).trans x.2).trans R.2.2.1);unfold Sd at this;rw[t,aW,X]at this;show b.drop (0:Int).toNat=_;rw[this];simp only[fL,dL,fq,ay]
theorem eA{n a:Int}{r r':BL}(h0:0<=n)(c:n<=1099511627776)(e:0<=a)(f:a<=1099511627776)(h:vn n++r=vn a++r'):n=a/\r=r':=by
 have b:=Ay h0 c r;rw[h,Ay e f r']at b;have g:a=n:=aH ga b;subst g;exact⟨rfl,List.append_cancel_left h⟩
theorem jW{s s' r r':BL}(b:s.length<=1099511627776)(c:s'.length<=1099511627776)(h:tx s++r=tx s'++r'):s=s'/\r=r':=by
 unfold tx at h;rw[ay,ay]at h;obtain⟨e,a⟩:=eA (by omega) (by omega) (by omega) (by omega) h;exact List.append_inj a (by omega)
theorem vo{α:Type}(f:α->BL)(x:α)(l:List α):fl f (x::l)=f x++fl f l:=by simp[fl]
theorem vp{α:Type}{f:α->BL}{p:α->Prop}(b:∀x y r r',p x->p y->f x++r=f y++r'->x=y/\r=r'):∀{l l':List α}{r r':BL},l.length=l'.length->(∀x∈l,p x)->(∀x∈l',p x)->fl f l++r=fl f l'++r'->l=l'/\r=r'
 |[],[],_,_,_,_,_,h=>⟨rfl,h⟩
 |[],_::_,_,_,h,_,_,_=>by simp at h
 |_::_,[],_,_,h,_,_,_=>by simp at h
 |x::l,y::m,r,r',g,c,e,h=>by
  rw[vo,vo,ay,ay]at h;obtain⟨i,j⟩:=b x y _ _ (c x (aG ..)) (e y (aG ..)) h;obtain⟨n,o⟩:=vp b (by simpa using g) (λz a=>c z (aA _ a)) (λz a=>e z (aA _ a)) j;exact⟨by rw[i,n],o⟩
theorem Gt:∀{l:List Int}{last:Int},pG last l=true->∀n∈l,last<n/\n<5
 |[],_,_,_,h=>by simp at h
 |n::r,last,h,x,a=>by
  simp only[pG]at h;split at h
  ·cases h
  ·rename_i g;rcases bt.1 a with a|a
   ·subst a;omega
   ·have:=Gt h x a;omega
theorem Gu{l l':Lt}{h h':BL}(b:xZ l)(a:xZ l')(n:h.length<=1000000)(o:h'.length<=1000000)(e:ei l++tx h=ei l'++tx h'):
 l.1=l'.1/\l.2.1=l'.2.1/\l.2.2.1=l'.2.2.1/\l.2.2.2.1=l'.2.2.2.1/\l.2.2.2.2.1=l'.2.2.2.2.1/\h=h':=by
 obtain⟨p,q,r,s,t,u,v,w,x⟩:=b;obtain⟨y,z,A,B,C,D,E,F,G⟩:=a;unfold ei at e;simp only[ay]at e;obtain⟨c,e⟩:=eA (by omega) (by omega) (by omega) (by omega) e;obtain⟨f,e⟩:=eA (by omega) (by omega) (by omega) (by omega) e;obtain⟨g,e⟩:=eA (by omega) (by omega) (by omega) (by omega) e;obtain⟨i,e⟩:=eA (by omega) (by omega) (by omega) (by omega) e;obtain⟨j,e⟩:=jW (by omega) (by omega) e;have e:tx h++[]=tx h'++[]:=by rw[aW,aW];exact e
 obtain⟨m,_⟩:=jW (by omega) (by omega) e;exact⟨c,f,g,i,j,m⟩
theorem a3p{l l':Lt}(h:l.1=l'.1/\l.2.1=l'.2.1/\l.2.2.1=l'.2.2.1/\l.2.2.2.1=l'.2.2.2.1/\l.2.2.2.2.1=l'.2.2.2.2.1):ei l=ei l':=by
 obtain⟨a,b,c,e,f⟩:=h;unfold ei;rw[a,b,c,e,f]
theorem Gv{l:Lt}{e:Et}{x:BL}(a:2<=l.1/\l.1<=4):dL e≠ei l++x:=by
 intro h;unfold dL fq ei at h;simp only[ay]at h;obtain⟨b,_⟩:=eA (by omega) (by omega) (by omega) (by omega) h;omega
theorem a4x{l:Lt}{e:Et}(a:2<=l.1/\l.1<=4):fq e≠ei l:=by
 intro h;unfold fq ei at h;simp only[ay]at h;obtain⟨b,_⟩:=eA (by omega) (by omega) (by omega) (by omega) h;omega
structure etG(e:Et):Prop where
 n:1<=e.1/\e.1<=65536
 pv:e.2.1.length<=1000000
 pt:pw e.2.2.1 e.2.2.2.1=true
 oc:e.2.2.2.2.1.length<=1000
 bx:e.2.2.2.2.2.1.length<=5/\∀b∈e.2.2.2.2.2.1,b.length<=1000
theorem Gw{e:Et}(h:ig e=true):etG e:=by
 obtain⟨c,f,j,a,g,l,m,n⟩:=lm h;have:=(fX a).2.1;exact⟨⟨c,f⟩,by omega,a,by omega,by omega,λb i=>by rw[g b i];omega⟩
theorem TU{ms:List Mb}{ns:List Fk}(h:pw ms ns=true):(∀m∈ms,0<=m.1/\m.1<5/\m.2.1.length=32/\m.2.2.1.length=32)/\∀x∈ns,0<=x.1/\x.1<5/\0<=x.2.1/\x.2.1<=1048576:=by
 unfold pw at h;obtain⟨_,_,b,c,d,e⟩:=ag h;refine⟨λm f=>?_,λx g=>?_⟩
 ·have:=Gt b m.1 (fB f);have a:=d m f;exact⟨by omega,this.2,a.1,a.2⟩
 ·have:=Gt c x.1 (fB g);have a:=e x g;exact⟨by omega,this.2,a.1,a.2⟩
theorem TV{e a:Et}(g:etG e)(u:etG a){r r':BL}(h:dL e++r=dL a++r'):e.1=a.1/\e.2.1=a.2.1/\e.2.2.1=a.2.2.1/\e.2.2.2.1=a.2.2.2.1/\e.2.2.2.2.1=a.2.2.2.2.1/\e.2.2.2.2.2.1=a.2.2.2.2.2.1/\r=r':=by
 obtain⟨⟨G,H⟩,J,j,K,L,v⟩:=g;obtain⟨⟨M,N⟩,O,l,P,Q,w⟩:=u;have R:=fX j;have S:=fX l;have n:=TU j;have o:=TU l;unfold dL fq at h;simp only[ay]at h;obtain⟨_,h⟩:=eA (by omega) (by omega) (by omega) (by omega) h;obtain⟨z,h⟩:=eA (by omega) (by omega) (by omega) (by omega) h;obtain⟨A,h⟩:=jW (by omega) (by omega) h;obtain⟨U,h⟩:=eA (by omega) (by omega) (by omega) (by omega) h
 obtain⟨B,h⟩:=vp (f:=pH) (p:=λm=>0<=m.1/\m.1<5/\m.2.1.length=32/\m.2.2.1.length=32) (λx y r r' s t q=>by
  unfold pH at q;simp only[ay]at q;obtain⟨c,q⟩:=eA (by omega) (by omega) (by omega) (by omega) q;obtain⟨i,q⟩:=jW (by omega) (by omega) q;obtain⟨C,q⟩:=jW (by omega) (by omega) q;exact⟨r6 c (r6 i (r6 C rfl)),q⟩) (by omega) n.1 o.1 h
 obtain⟨W,h⟩:=eA (by omega) (by omega) (by omega) (by omega) h
 obtain⟨D,h⟩:=vp (f:=rE) (p:=λx=>0<=x.1/\x.1<5/\0<=x.2.1/\x.2.1<=1048576) (λx y r r' s t q=>by
  unfold rE at q;simp only[ay]at q;obtain⟨c,q⟩:=eA (by omega) (by omega) (by omega) (by omega) q;obtain⟨i,q⟩:=eA (by omega) (by omega) (by omega) (by omega) q;exact⟨r6 c (r6 i rfl),q⟩) (by omega) n.2 o.2 h
 obtain⟨E,h⟩:=jW (by omega) (by omega) h;obtain⟨X,h⟩:=eA (by omega) (by omega) (by omega) (by omega) h;obtain⟨F,h⟩:=vp (f:=tx) (p:=λb=>b.length<=1000) (λx y r r' s t q=>jW (by omega) (by omega) q) (by omega) v w h;exact⟨z,A,B,D,E,F,h⟩
def KW:Ct:=⟨1,⟨[sP 0],jr 0⟩,[⟨[(0,false,[.ptr 2 0])],jr 0++jr 2⟩],λ(bk,_)=>eD (∀p∈bk,p.2.length<=1048576) (λ_:Ln=>True) λy=>(bk,y,())⟩
def d_:cg:=⟨[sP 0,(3,false,[.ptr 2 0]),(13,false,[.ptr 4 0])],[some (.cells [.mp 1]),some (.lk .i64 (.sl Ih))]++jr 2++[some (.mit 1 .i64 (.sl Ih))]⟩
def KX(x:KW.inp.den)(y:d_.den):Prop:=match x,y with
 |(bk,_),(b,_,a,_,_)=>b=bk/\∀p∈a,p.2.length<=1048576
def a3q(x:KW.inp.den):dB:=⟨[(5,bK d_ (KX x) λ(_,_,a,_,_)=>a.length)],[],[],[],0⟩
def Pn:bw:=(92,[KW])::Pj
theorem e_:KK Pn:=kA c_ a3q (∀(a:Ln)Q,bd KW (a,()) Q->True/\Is (KX (a,()) (a,[],a,none,()))/\∀(d e c:Ln)(z:Option (Int×List Kn)),KX (a,()) (d,e,c,z,())->Br (!c.isEmpty) (∀(b:(Int×List Kn)×Ln),c.Perm (b.1::b.2)->(0+ah b.1.2)*72<=mM/\Is (KX (a,()) (d,dD Ty.i64 b.1.1 b.1.2 e,b.2,some b.1,())/\b.2.length<c.length)) (Q ⟨0,d,e,()⟩)) (by
 unfold Br mM bd;intro bk Q ⟨g,h⟩;refine⟨trivial,⟨rfl,g⟩,?_⟩;rintro i n c z ⟨rfl,j⟩;refine⟨λ_ b e=>?_,λ_=>h n trivial⟩;have f:∀p∈b.1::b.2,p.2.length<=1048576:=λp a=>j p (e.mem_iff.2 a);have m:=e.length_eq;refine⟨by have:=f b.1 (aG ..);omega,⟨rfl,λp a=>f p (aA _ a)⟩,by rw[m];exact Nat.lt_succ_self _⟩) (l:=λ_=>aM λ_=>⟨[],trivial⟩)
def KY:Ct:=⟨1,⟨[sP 0],gG 0⟩,[⟨[(0,false,[.ptr 4 0])],gG 0++gG 4⟩],λ(c,e,f,a,b,g,h,i,bk,_)=>eD ((∀p∈bk,p.2.length<=1048576)/\cr b/\cC a.2.1 a.2.2.1) (λy:Cl=>je b y.pg) λy=>(c,e,f,a,b,g,h,i,bk,y.c,y.se,y.sg,y.lg,y.pg,y.la,y.fk,y.km,y.bk,())⟩
def f_:cg:=⟨[sP 0,(3,false,[.ptr 4 0]),(35,false,[.ptr 8 0])],[some (.cells [.d .i64, .d tB, .d tB, .d (.pf Vh), .mp 1, .ptr 2 0, .d M6, .d tLa, .d (.sl iG)]),some (.lk .i64 tB)]++jr 2++gG 4++[some (.mit 1 .i64 tB)]⟩
def KZ(x:KY.inp.den)(y:f_.den):Prop:=match x,y with
 |(c,m,n,o,l,p,q,r,bk,_),(s,a,b,e,ft,f,g,h,i,_,_,_,_,j,_,_,_,_,_,_,_)=>(s,a,b,e,ft,f,g,h,i)=(c,m,n,o,l,p,q,r,bk)/\je l j
def a3r(x:KY.inp.den):dB:=⟨[(7,bK f_ (KZ x) λ(_,_,_,_,_,_,_,_,_,_,_,_,_,_,_,_,_,_,a,_,_)=>a.length)],[],[],[],0⟩
def Po:bw:=(49,[KY])::Pn
theorem g_:KK Po:=kA e_ a3r (∀(d:Int)(e f:BL)(a:Lg)(c:Pg)(g:La)(h:List Fk)(i:KM)(j:Ln)Q,let x:=(d,e,f,a,c,g,h,i,j,());bd KY x Q->cC a.2.1 a.2.2.1/\(∀(p:Int×List Kn),p∈j->ah p.2<=1048576)/\∀(b:Ln),True->cr c/\∀(G:Pg),je c G->Is (KZ x (d,e,f,a,c,g,h,i,j,d,e,f,a,G,g,h,[],b,i,none,()))/\∀(l:Int)(m n:BL)(o:Lg)(q:Pg)(r:La)(s:List Fk)(t:KM)(u:Ln)(v:Int)(w y:BL)(A:Lg)(B:Pg)(C:La)(D:List Fk)(E:KM)(F:Ln)(k:KM)(z:Option (Int×BL)),KZ x (l,m,n,o,q,r,s,t,u,v,w,y,A,B,C,D,E,F,k,z,())->Br (!k.isEmpty) (∀(b:(Int×BL)×KM),k.Perm (b.1::b.2)->Is (KZ x (l,m,n,o,q,r,s,t,u,v,w,y,A,B,C,D,dD Ty.i64 b.1.1 b.1.2 E,F,b.2,some b.1,())/\b.2.length<k.length)) (Q ⟨0,l,m,n,o,q,r,s,t,u,v,w,y,A,B,C,D,E,F,()⟩)) (by
 conv=>zeta
 unfold Br bd;intro c R S U W X Y km bk Q ⟨⟨r,s,t⟩,u⟩;refine⟨t,r,λb _=>⟨s,λp v=>⟨⟨rfl,v⟩,?_⟩⟩⟩;rintro c1 w x y ft A B C D E a e f g h i j m n z ⟨o,q⟩;simp only[Prod.mk.injEq]at o;obtain⟨F,G,H,J,K,L,M,N,O⟩:=o;subst F G H J K L M N O;exact⟨λ_ b P=>⟨⟨rfl,q⟩,by rw[P.length_eq];exact Nat.lt_succ_self _⟩,λ_=>u ⟨E,a,e,f,g,h,i,j,m⟩ q⟩) (l:=λ_=>aM λ_=>⟨⟨0,[],[],([],[],[],()),_,[],[],[],[]⟩,(iX _).choose_spec⟩)
abbrev Du:Ty:= .pr .i64 (.pr .i64 Gb)
abbrev CW:Ty:= .pr .i64 (.pr tB (.pr tB (.pr (.pf Vh) .un)))
abbrev CX:Ty:= .pr M6 (.pr tLa (.pr (.sl iG) .un))
def g'(j n i:Nat):List (Option CP):=[some (.cells [.d CW, .mp (j+5+2*i), .ptr (n+1+2*i) 0, .d CX]),some (.mp .i64 tB)]
def zp(j n:Nat):List (Option CP):=[some (.cells [.ifc 96 (j+1) 0, .fn 33 [] [(j+3,0)], .d (.ar 5 (.ar 2 tB)), .d (.ar 5 iL), .ptr (j+4) 0, .ptr (j+6) 0, .ptr (j+8) 0, .ptr (j+10) 0, .ptr (j+12) 0, .mp (j+14), .mp (j+15), .mp (j+16), .mp (j+17), .mp (j+18), .ptr (j+19) 0, .d (.ar 5 .bl), .own (n+11), .own (n+12)]),some (.cells [.own n, .mp (j+2), .d .i64]),some (.mp .st .i64),some (.cells [.ptr (j+1) 0])]++g' j n 0++g' j n 1++g' j n 2++g' j n 3++g' j n 4++[some (.mp .i64 tB),some (.mp .i64 tB),some (.mp .i64 tB),some (.mp .i64 tB),some (.mp .i64 tB),some (.cells [.d Vh])]
def pN(n:Nat):List (Option CP):=[some (.sl Cm),some (.cells [.mp (n+2)]),some (.mp .i64 (.sl Ih)),some (.cells [.mp (n+4)]),some (.mp .i64 (.sl Ih)),some (.cells [.mp (n+6)]),some (.mp .i64 (.sl Ih)),some (.cells [.mp (n+8)]),some (.mp .i64 (.sl Ih)),some (.cells [.mp (n+10)]),some (.mp .i64 (.sl Ih)),some (.sl tB),some (.sl .i64)]
def gb:List (Option CP):=zp 0 20++pN 20
def Gx(n:Nat):List (Option CP):=zp 0 n++ak 13 none
structure Wd where
 sec:List (List BL)
 al:List Mb
 go:List Bool
 d:Int
 m:KV
 c0:Cl
 c1:Cl
 c2:Cl
 c3:Cl
 c4:Cl
 k0:KM
 k1:KM
 k2:KM
 k3:KM
 k4:KM
 lg:Lg
 ts:List Tm
 st:List BL
 ln:List Int
abbrev WH:=(cg.mk [] gb).den
abbrev QA:=Int×BL×BL×Lg×Unit
abbrev QB:=Pg×La×List Fk×Unit
abbrev TA(R:Type):=(List (List BL))×(List Mb)×(List Bool)×Int×KV×QA×QB×KM×QA×QB×KM×QA×QB×KM×QA×QB×KM×QA×QB×KM×KM×KM×KM×KM×KM×Lg×(List Tm)×Ln×Ln×Ln×Ln×Ln×(List BL)×(List Int)×R
abbrev TZ(R:Type):=(List (List BL))×(List Mb)×(List Bool)×Int×KV×QA×QB×KM×QA×QB×KM×QA×QB×KM×QA×QB×KM×QA×QB×KM×KM×KM×KM×KM×KM×Lg×(List BL)×(List Int)×(List Tm)×Ln×Ln×Ln×Ln×Ln×R
def CY{R:Type}(w:Wd)(r:R):TA R:=(w.sec,w.al,w.go,w.d,w.m,(w.c0.c,w.c0.se,w.c0.sg,w.c0.lg,()),(w.c0.pg,w.c0.la,w.c0.fk,()),w.c0.km,(w.c1.c,w.c1.se,w.c1.sg,w.c1.lg,()),(w.c1.pg,w.c1.la,w.c1.fk,()),w.c1.km,(w.c2.c,w.c2.se,w.c2.sg,w.c2.lg,()),(w.c2.pg,w.c2.la,w.c2.fk,()),w.c2.km,(w.c3.c,w.c3.se,w.c3.sg,w.c3.lg,()),(w.c3.pg,w.c3.la,w.c3.fk,()),w.c3.km,(w.c4.c,w.c4.se,w.c4.sg,w.c4.lg,()),(w.c4.pg,w.c4.la,w.c4.fk,()),w.c4.km,w.k0,w.k1,w.k2,w.k3,w.k4,w.lg,w.ts,w.c0.bk,w.c1.bk,w.c2.bk,w.c3.bk,w.c4.bk,w.st,w.ln,r)
def h_{R:Type}(w:Wd)(r:R):TZ R:=(w.sec,w.al,w.go,w.d,w.m,(w.c0.c,w.c0.se,w.c0.sg,w.c0.lg,()),(w.c0.pg,w.c0.la,w.c0.fk,()),w.c0.km,(w.c1.c,w.c1.se,w.c1.sg,w.c1.lg,()),(w.c1.pg,w.c1.la,w.c1.fk,()),w.c1.km,(w.c2.c,w.c2.se,w.c2.sg,w.c2.lg,()),(w.c2.pg,w.c2.la,w.c2.fk,()),w.c2.km,(w.c3.c,w.c3.se,w.c3.sg,w.c3.lg,()),(w.c3.pg,w.c3.la,w.c3.fk,()),w.c3.km,(w.c4.c,w.c4.se,w.c4.sg,w.c4.lg,()),(w.c4.pg,w.c4.la,w.c4.fk,()),w.c4.km,w.k0,w.k1,w.k2,w.k3,w.k4,w.lg,w.st,w.ln,w.ts,w.c0.bk,w.c1.bk,w.c2.bk,w.c3.bk,w.c4.bk,r)
def bZ(w:Wd):TA Unit:=(w.sec,w.al,w.go,w.d,w.m,(w.c0.c,w.c0.se,w.c0.sg,w.c0.lg,()),(w.c0.pg,w.c0.la,w.c0.fk,()),w.c0.km,(w.c1.c,w.c1.se,w.c1.sg,w.c1.lg,()),(w.c1.pg,w.c1.la,w.c1.fk,()),w.c1.km,(w.c2.c,w.c2.se,w.c2.sg,w.c2.lg,()),(w.c2.pg,w.c2.la,w.c2.fk,()),w.c2.km,(w.c3.c,w.c3.se,w.c3.sg,w.c3.lg,()),(w.c3.pg,w.c3.la,w.c3.fk,()),w.c3.km,(w.c4.c,w.c4.se,w.c4.sg,w.c4.lg,()),(w.c4.pg,w.c4.la,w.c4.fk,()),w.c4.km,w.k0,w.k1,w.k2,w.k3,w.k4,w.lg,w.ts,w.c0.bk,w.c1.bk,w.c2.bk,w.c3.bk,w.c4.bk,w.st,w.ln,())
def TW(w:Wd):TZ Unit:=(w.sec,w.al,w.go,w.d,w.m,(w.c0.c,w.c0.se,w.c0.sg,w.c0.lg,()),(w.c0.pg,w.c0.la,w.c0.fk,()),w.c0.km,(w.c1.c,w.c1.se,w.c1.sg,w.c1.lg,()),(w.c1.pg,w.c1.la,w.c1.fk,()),w.c1.km,(w.c2.c,w.c2.se,w.c2.sg,w.c2.lg,()),(w.c2.pg,w.c2.la,w.c2.fk,()),w.c2.km,(w.c3.c,w.c3.se,w.c3.sg,w.c3.lg,()),(w.c3.pg,w.c3.la,w.c3.fk,()),w.c3.km,(w.c4.c,w.c4.se,w.c4.sg,w.c4.lg,()),(w.c4.pg,w.c4.la,w.c4.fk,()),w.c4.km,w.k0,w.k1,w.k2,w.k3,w.k4,w.lg,w.st,w.ln,w.ts,w.c0.bk,w.c1.bk,w.c2.bk,w.c3.bk,w.c4.bk,())
def WA(p:(List (List BL))->(List Mb)->(List Bool)->Int->KV->QA->QB->KM->QA->QB->KM->QA->QB->KM->QA->QB->KM->QA->QB->KM->KM->KM->KM->KM->KM->Lg->(List Tm)->Ln->Ln->Ln->Ln->Ln->(List BL)->(List Int)->Prop):Prop:=∀B C D E F G H J K L a b c e f g h i j l m n o q r s t u v w x y z A,p B C D E F G H J K L a b c e f g h i j l m n o q r s t u v w x y z A
def WB(p:(List (List BL))->(List Mb)->(List Bool)->Int->KV->QA->QB->KM->QA->QB->KM->QA->QB->KM->QA->QB->KM->QA->QB->KM->KM->KM->KM->KM->KM->Lg->(List BL)->(List Int)->(List Tm)->Ln->Ln->Ln->Ln->Ln->Prop):Prop:=∀B C D E F G H J K L a b c e f g h i j l m n o q r s t u v w x y z A,p B C D E F G H J K L a b c e f g h i j l m n o q r s t u v w x y z A
def i_(a:CW.den)(b:CX.den)(km:KM)(bk:Ln):Cl:=⟨a.1,a.2.1,a.2.2.1,a.2.2.2.1,b.1,b.2.1,b.2.2.1,km,bk⟩
def cA(c:Cl):CW.den:=(c.c,c.se,c.sg,c.lg,())
def nn(c:Cl):CX.den:=(c.pg,c.la,c.fk,())
def bV(x:WH):Wd:=match x with
 |(a,b,go,d,m,c,e,f,g,h,i,j,l,n,o,p,q,r,s,t,u,v,w,y,z,A,B,C,D,E,F,G,st,H,_)=>
  ⟨a,b,go,d,m,i_ c e f C,i_ g h i D,i_ j l n E,i_ o p q F,i_ r s t G,u,v,w,y,z,A,B,st,H⟩
def unW(w:Wd):WH:=(w.sec,w.al,w.go,w.d,w.m,cA w.c0,nn w.c0,w.c0.km,cA w.c1,nn w.c1,w.c1.km,cA w.c2,nn w.c2,w.c2.km,cA w.c3,nn w.c3,w.c3.km,cA w.c4,nn w.c4,w.c4.km,w.k0,w.k1,w.k2,w.k3,w.k4,w.lg,w.ts,w.c0.bk,w.c1.bk,w.c2.bk,w.c3.bk,w.c4.bk,w.st,w.ln,())
theorem a4y(w:Wd):bV (unW w)=w:=rfl
theorem a4z(x:WH):unW (bV x)=x:=rfl
def TX:Ct:=⟨1,⟨[sI 0],[]⟩,[⟨[sL 0],[]⟩],λ(n,_)=>one True (decide (1<=n/\n<=31/\n % 2=1),())⟩
def Pp:bw:=(29,[TX])::Po
theorem j_:KK Pp:=kA g_ (cE TX 0) (∀(a:Int)Q,bd TX (a,()) Q->Bd (1<=a) (Bd (a<=31) (Q ⟨0,a.tmod (2:Int)==1,()⟩) (Q ⟨0,false,()⟩)) (Q ⟨0,false,()⟩)) (by
 unfold Bd bd;intro n Q ⟨_,b⟩;have a:∀y,decide (1<=n/\n<=31/\n % 2=1)=y->Q ⟨0,(y,())⟩:=λy e=>by rw[e]at b;exact b
 refine⟨λh=>⟨λg=>a _ ?_,λg=>a _ ?_⟩,λh=>a _ ?_⟩
 ·have h:=ag h;have g:=ag g;rw[Int.tmod_eq_emod_of_nonneg (by omega),mi,decide_eq_true_iff,aR];exact⟨λq=>q.2.2,λq=>⟨h,g,q⟩⟩
 ·exact decide_eq_false λq=>an g q.2.1
 ·exact decide_eq_false λq=>an h q.1)
def Gy:Ct:=⟨1,⟨[sI 0],[]⟩,[⟨[sL 0],[]⟩],λ(n,_)=>one True (decide (0<=n/\n<5),())⟩
def Gz:bw:=(28,[Gy])::Pp
theorem TY:KK Gz:=kA j_ (cE Gy 0) (∀(a:Int)Q,bd Gy (a,()) Q->Bd (0<=a) (Q ⟨0,decide (a<5),()⟩) (Q ⟨0,false,()⟩)) (by
 unfold Bd bd;intro n Q ⟨_,a⟩;have b:∀y,decide (0<=n/\n<5)=y->Q ⟨0,(y,())⟩:=λy e=>by rw[e]at a;exact a
 refine⟨λh=>b _ ?_,λh=>b _ ?_⟩
 ·rw[decide_eq_decide];exact⟨λg=>g.2,λg=>⟨ag h,g⟩⟩
 ·exact decide_eq_false λg=>an h g.1)
theorem Wd.all{F:List (List BL)->List Mb->List Bool->Int->KV->CW.den->CX.den->KM->CW.den->CX.den->KM->CW.den->CX.den->KM->CW.den->CX.den->KM->CW.den->CX.den->KM->KM->KM->KM->KM->KM->Lg->List Tm->Ln->Ln->Ln->Ln->Ln->List BL->List Int->Prop}
 (h:∀w:Wd,F w.sec w.al w.go w.d w.m (cA w.c0) (nn w.c0) w.c0.km (cA w.c1) (nn w.c1) w.c1.km (cA w.c2) (nn w.c2) w.c2.km (cA w.c3) (nn w.c3) w.c3.km (cA w.c4) (nn w.c4) w.c4.km w.k0 w.k1 w.k2 w.k3 w.k4 w.lg w.ts w.c0.bk w.c1.bk w.c2.bk w.c3.bk w.c4.bk w.st w.ln):
 ∀E G H J K L M N O a b c e f g i j l n o p q r s t u v x y z A B C D,F E G H J K L M N O a b c e f g i j l n o p q r s t u v x y z A B C D:=λE G H J K L M N O a b c e f g i j l n o p q r s t u v x y z A B C D=>h (bV (E,G,H,J,K,L,M,N,O,a,b,c,e,f,g,i,j,l,n,o,p,q,r,s,t,u,v,x,y,z,A,B,C,D,()))
def T0:Ct:=⟨1,⟨[sP 0],gb⟩,[⟨[sL 0],gb⟩],λ(B,C,D,E,F,G,H,J,K,b,c,e,f,g,h,i,j,l,m,n,o,p,q,r,s,t,u,v,w,x,y,z,a,A,_)=>one True (decide (400<=a.length),B,C,D,E,F,G,H,J,K,b,c,e,f,g,h,i,j,l,m,n,o,p,q,r,s,t,u,v,w,x,y,z,a,A,())⟩
def Pq:bw:=(39,[T0])::Gz
theorem k_:KK Pq:=kA TY (cE T0 0) (WA λb c d e f g h i j k l m n o p q r s t u v w y z A B C D E F G H a J=>let x:=(c,d,e,f,g,h,i,j,k,l,m,n,o,p,q,r,s,t,u,v,w,y,z,A,B,C,D,E,F,G,H,a,J,());∀Q,bd T0 (b,x) Q->Q ⟨0,decide (400<=nI a),b,x⟩) (by
 conv=>zeta
 unfold WA nI bd;refine Wd.all λw=>?_;intro Q ⟨_,a⟩;have:decide (400<=w.st.length)=decide (400<=(w.st.length:Int)):=by rw[decide_eq_decide];omega
 rw[this]at a;exact a)
def T2:Ct:=⟨2,⟨[sP 0,sI 1],gb⟩,[⟨[sL 0],gb⟩],λ(n,C,D,E,F,G,H,J,K,L,b,c,e,f,g,h,i,j,l,m,o,p,q,r,s,t,u,v,w,x,y,z,A,a,B,_)=>one True (decide (1<=n/\n<=a.length),C,D,E,F,G,H,J,K,L,b,c,e,f,g,h,i,j,l,m,o,p,q,r,s,t,u,v,w,x,y,z,A,a,B,())⟩
def Pr:bw:=(40,[T2])::Pq
theorem l_:KK Pr:=kA k_ (cE T2 0) (∀(a:Int),WA λc d e f g h i j k l m n o p q r s t u v w y z A B C D E F G H J b K=>let x:=(c,d,e,f,g,h,i,j,k,l,m,n,o,p,q,r,s,t,u,v,w,y,z,A,B,C,D,E,F,G,H,J,b,K,());∀Q,bd T2 (a,x) Q->Bd (1<=a) (Q ⟨0,decide (a<=nI b),x⟩) (Q ⟨0,false,x⟩)) (by
 conv=>zeta
 unfold Bd WA nI bd;intro n;refine Wd.all λw=>?_;intro Q ⟨_,a⟩;have b:∀y,decide (1<=n/\n<=(w.st.length:Int))=y->Q ⟨0,(y,bZ w)⟩:=λy e=>by rw[e]at a;exact a
 refine⟨λh=>b _ ?_,λh=>b _ ?_⟩
 ·rw[decide_eq_decide];exact⟨λg=>g.2,λg=>⟨ag h,g⟩⟩
 ·exact decide_eq_false λg=>an h g.1)
def GA:Ct:=⟨3,⟨[sP 0,sB 1,sI 2],gb⟩,[⟨[(0,true,[.d Du])],Gx 33++pN 33⟩],λ(b,n,D,E,F,G,H,J,K,L,M,e,f,g,h,i,j,l,m,o,p,q,r,s,t,u,v,w,x,y,z,A,B,C,a,c,_)=>one (a.length<=1000000/\c.length<=1000000) ((0,a.length+1,0,0,0,0,false,false,[],()),D,E,F,G,H,J,K,L,M,e,f,g,h,i,j,l,m,o,p,q,r,s,t,u,v,w,x,y,z,A,B,C,a++[b],c++[n],())⟩
def GB:bw:=(43,[GA])::Pr
theorem T3:KK GB:=kA l_ (cE GA 0) (∀(b:BL)(d:Int),WA λe f g h i j k l m n o p q r s t u v w y z x A B C D E F G H J K a c=>∀Q,bd GA (b,d,e,f,g,h,i,j,k,l,m,n,o,p,q,r,s,t,u,v,w,y,z,x,A,B,C,D,E,F,G,H,J,K,a,c,()) Q->(a.length+1)*24<=mM/\(c.length+1)*8<=mM/\Q ⟨0,(0,nI (a++[b]),0,0,0,0,false,false,[],()),e,f,g,h,i,j,k,l,m,n,o,p,q,r,s,t,u,v,w,y,z,x,A,B,C,D,E,F,G,H,J,K,a++[b],c++[d],()⟩) (by
 unfold WA mM nI bd;intro b n;refine Wd.all λw=>?_;intro Q ⟨⟨c,e⟩,a⟩;refine⟨by omega,by omega,?_⟩;rw[show((w.st++[b]).length:Int)=w.st.length+1 by rw[aa,bh];omega];exact a)
def K0:Ct:=⟨1,⟨[sP 0],gb⟩,[⟨[(0,false,[.d (.sl .i64)])],gb⟩],λ(B,C,D,E,F,G,H,J,K,b,c,e,f,g,h,i,j,l,m,n,o,p,q,r,s,a,t,u,v,w,x,y,z,A,_)=>one (cC a.2.1 a.2.2.1) ((cS a.2.1 a.2.1.length).map (·.1),B,C,D,E,F,G,H,J,K,b,c,e,f,g,h,i,j,l,m,n,o,p,q,r,s,a,t,u,v,w,x,y,z,A,())⟩
def m_:cg:=⟨[sO 3 33,(17,false,[.d (.sl iL)]),sI 18,sI 19],gb++[some (.sl .i64)]⟩
def K2(x:K0.inp.den)(y:m_.den):Prop:=match x,y with
 |(a1,a2,a3,a4,a5,a6,a7,a8,a9,b,c,e,f,g,h,j,m,o,p,q,r,t,u,v,w,a,z,A,B,C,D,E,F,G,_),(l,n,i,b1,b2,b3,b4,b5,b6,b7,b8,b9,H,J,K,L,M,N,O,P,Q,R,S,U,W,X,Y,a0,b0,c0,c1,c2,c3,c4,c5,c6,c7,s,_)=>(bV (b1,b2,b3,b4,b5,b6,b7,b8,b9,H,J,K,L,M,N,O,P,Q,R,S,U,W,X,Y,a0,b0,c0,c1,c2,c3,c4,c5,c6,c7,()))=(bV (a1,a2,a3,a4,a5,a6,a7,a8,a9,b,c,e,f,g,h,j,m,o,p,q,r,t,u,v,w,a,z,A,B,C,D,E,F,G,()))/\l=cS a.2.1 a.2.1.length/\n=l.length/\∃k:Nat,i=k/\k<=l.length/\s=(l.take k).map (·.1)
def a3s(x:K0.inp.den):dB:=⟨[(5,bK m_ (K2 x) λ(_,n,i,_)=>(n-i).toNat)],[],[],[],0⟩
theorem K3{es:List Et}{a:List BL}(h:cC es a)(n:Int):(cS es n).length<=1000000:=by
 unfold cS;split
 ·simp
 ·exact(h.1.2 _ (aS (by omega))).1
def Ps:bw:=(20,[K0])::GB
theorem n_:KK Ps:=kA T3 a3s (WA λd e f g h i j k l m n o p q r s t u v w y z a0 a1 a2 a a3 a4 a5 a6 a7 a8 a9 b0=>let x:=(d,e,f,g,h,i,j,k,l,m,n,o,p,q,r,s,t,u,v,w,y,z,a0,a1,a2,a,a3,a4,a5,a6,a7,a8,a9,b0,());∀Q,bd K0 x Q->True/\cC a.2.1 a.2.2.1/\Is (K2 x (cS a.2.1 (nI a.2.1),nI (cS a.2.1 (↑(ah a.2.1):Int)),0,d,e,f,g,h,i,j,k,l,m,n,o,p,q,r,s,t,u,v,w,y,z,a0,a1,a2,a,a3,a4,a5,a6,a7,a8,a9,b0,[],()))/\∀(A:List Mb)(c b:Int),WA λC D E F G H J K L M N O P R S U W X Y d2 d3 d4 d5 d6 d7 d8 d9 e0 e1 e2 e3 e4 e5 e6=>∀(B:List Int),K2 x (A,c,b,C,D,E,F,G,H,J,K,L,M,N,O,P,R,S,U,W,X,Y,d2,d3,d4,d5,d6,d7,d8,d9,e0,e1,e2,e3,e4,e5,e6,B,())->Bd (b<c) (iN b A/\(B.length+1)*8<=mM/\ac (b+1)/\Is (K2 x (A,c,b+1,C,D,E,F,G,H,J,K,L,M,N,O,P,R,S,U,W,X,Y,d2,d3,d4,d5,d6,d7,d8,d9,e0,e1,e2,e3,e4,e5,e6,B++[(gD A b (0,[],[],())).1],())/\lN (c-(b+1)) (c-b))) (Q ⟨0,B,C,D,E,F,G,H,J,K,L,M,N,O,P,R,S,U,W,X,Y,d2,d3,d4,d5,d6,d7,d8,d9,e0,e1,e2,e3,e4,e5,e6,()⟩)) (by
 conv=>zeta
 unfold Bd WA gD iN lN mM nI bd;refine Wd.all λw=>?_;rintro Q ⟨h,c⟩;have j:=K3 h w.lg.2.1.length;refine⟨trivial,h,⟨rfl,rfl,rfl,0,rfl,aq _,rfl⟩,?_⟩;intro l n i;refine Wd.all λv=>?_;rintro s ⟨e,a,m,k,o,r,p⟩;have e:v=w:=e;have a:l=cS w.lg.2.1 w.lg.2.1.length:=a;subst e m o p;rw[<-a]at j;have c:Q ⟨0,((cS v.lg.2.1 v.lg.2.1.length).map (·.1),bZ v)⟩:=c;rw[<-a]at c;have q:((k:Int).toNat)=k:=by omega
 rw[q];refine⟨λf=>?_,λg=>?_⟩
 ·have b:k<l.length:=by simp only[ai]at f;omega
  refine⟨by omega,by rw[bT,be];omega,by unfold ac;omega,⟨rfl,a,rfl,k+1,rfl,b,?_⟩,by omega⟩;rw[cQ (z:=((0,[],[],()):Mb)) b,dn];rfl
 ·simp only[aj]at g;rw[bf (by omega)];exact c)
def GC:Ct:=⟨2,⟨[sP 0,sI 1],gb⟩,[⟨[sL 0],gb⟩],λ(n,D,E,a,F,G,H,J,K,L,b,c,e,f,g,h,i,j,l,m,o,p,q,r,s,t,u,v,w,x,y,z,A,B,C,_)=>one (a.length=5) (decide (0<=n)&&decide (n<5)&&a.getD n.toNat false,D,E,a,F,G,H,J,K,L,b,c,e,f,g,h,i,j,l,m,o,p,q,r,s,t,u,v,w,x,y,z,A,B,C,())⟩
def GD:bw:=(14,[GC])::Ps
theorem T4:KK GD:=kA n_ (cE GC 0) (∀(a:Int),WA λc d b e f g h i j k l m n o p q r s t u v w y z A B C D E F G H J K=>let x:=(c,d,b,e,f,g,h,i,j,k,l,m,n,o,p,q,r,s,t,u,v,w,y,z,A,B,C,D,E,F,G,H,J,K,());∀Q,bd GC (a,x) Q->True/\Bd (0<=a/\a<5) (Br (a==0) (Q ⟨0,b.getD ((36-10-15-1-1-1-1-1-1-1-1-1-1-1)/1) false,x⟩) (Br (a==1) (Q ⟨0,b.getD ((37-10-15-1-1-1-1-1-1-1-1-1-1-1)/1) false,x⟩) (Br (a==2) (Q ⟨0,b.getD ((38-10-15-1-1-1-1-1-1-1-1-1-1-1)/1) false,x⟩) (Br (a==3) (Q ⟨0,b.getD ((39-10-15-1-1-1-1-1-1-1-1-1-1-1)/1) false,x⟩) (Br (a==4) (Q ⟨0,b.getD ((40-10-15-1-1-1-1-1-1-1-1-1-1-1)/1) false,x⟩) (False/\True)))))) (Q ⟨0,false,x⟩)) (by
 conv=>zeta
 unfold Bd Br WA bd;intro n;refine Wd.all λw=>?_;intro Q ⟨h,f⟩;have c:∀y,(decide (0<=n)&&decide (n<5)&&w.go.getD n.toNat false)=y->Q ⟨0,(y,bZ w)⟩:=λy e=>by rw[e]at f;exact f
 refine⟨trivial,λa=>?_,λa=>c _ ?_⟩
 ·have a:=ag a;have e:(decide (0<=n)&&decide (n<5)&&w.go.getD n.toNat false)=w.go.getD n.toNat false:=by simp[a.1,a.2]
  rw[e]at c;refine⟨λb=>?_,λi=>⟨λb=>?_,λj=>⟨λb=>?_,λl=>⟨λb=>?_,λm=>⟨λb=>?_,λo=>?_⟩⟩⟩⟩⟩
  case refine_6=>exfalso;simp only[az,ne_eq]at i j l m o;omega
  all_goals
   have b:=aZ b;subst b;exact c _ rfl
 ·have a:=an a;rcases Decidable.em (0<=n)with g|g
  ·have:¬n<5:=λq=>a ⟨g,q⟩;simp[this]
  ·simp[g])
def K4:Ct:=⟨1,⟨[sP 0],gb⟩,[⟨[(0,false,[.d (.sl tB)])],gb⟩],λ(C,D,E,F,G,H,J,K,L,c,e,f,g,h,i,j,l,m,n,o,p,q,r,s,t,u,v,w,x,y,z,A,a,B,_)=>one (a.length<=1000000/\∀b∈a,b.length<=10000000) (a,C,D,E,F,G,H,J,K,L,c,e,f,g,h,i,j,l,m,n,o,p,q,r,s,t,u,v,w,x,y,z,A,a,B,())⟩
def o_:cg:=⟨[sO 3 33,sO 11 31,sI 12,sI 13],gb++[some (.sl tB)]⟩
def K5(x:K4.inp.den)(y:o_.den):Prop:=match x,y with
 |(a1,a2,a3,a4,a5,a6,a7,a8,a9,b,c,e,f,g,h,j,l,m,o,p,q,r,t,u,v,w,z,A,B,C,D,E,a,F,_),(n,i,b1,b2,b3,b4,b5,b6,b7,b8,b9,G,H,J,K,L,M,N,O,P,Q,R,S,U,W,X,Y,a0,b0,c0,c1,c2,c3,c4,c5,c6,s,_)=>(bV (b1,b2,b3,b4,b5,b6,b7,b8,b9,G,H,J,K,L,M,N,O,P,Q,R,S,U,W,X,Y,a0,b0,c0,c1,c2,c3,c4,c5,c6,()))=(bV (a1,a2,a3,a4,a5,a6,a7,a8,a9,b,c,e,f,g,h,j,l,m,o,p,q,r,t,u,v,w,z,A,B,C,D,E,a,F,()))/\n=a.length/\∃k:Nat,i=k/\k<=a.length/\s=a.take k
def a3t(x:K4.inp.den):dB:=⟨[(5,bK o_ (K5 x) λ(n,i,_)=>(n-i).toNat)],[],[],[],0⟩
def Pt:bw:=(10,[K4])::GD
theorem p_:KK Pt:=kA T4 a3t (WA λe f g h i j k l m n o p q r s t u v w y z a0 a1 a2 a3 a4 a5 a6 a7 a8 a9 b0 b b1=>let x:=(e,f,g,h,i,j,k,l,m,n,o,p,q,r,s,t,u,v,w,y,z,a0,a1,a2,a3,a4,a5,a6,a7,a8,a9,b0,b,b1,());∀Q,bd K4 x Q->Is (K5 x (nI b,0,e,f,g,h,i,j,k,l,m,n,o,p,q,r,s,t,u,v,w,y,z,a0,a1,a2,a3,a4,a5,a6,a7,a8,a9,b0,b,b1,[],()))/\∀(c a:Int),WA λB C D E F G H J K L M N O P R S U W X Y d3 d4 d5 d6 d7 d8 d9 e0 e1 e2 e3 e4 d e5=>∀(A:List BL),K5 x (c,a,B,C,D,E,F,G,H,J,K,L,M,N,O,P,R,S,U,W,X,Y,d3,d4,d5,d6,d7,d8,d9,e0,e1,e2,e3,e4,d,e5,A,())->Bd (a<c) (iN a d/\(0+(gD d a []).length)*1<=mM/\(A.length+1)*24<=mM/\ac (a+1)/\Is (K5 x (c,a+1,B,C,D,E,F,G,H,J,K,L,M,N,O,P,R,S,U,W,X,Y,d3,d4,d5,d6,d7,d8,d9,e0,e1,e2,e3,e4,d,e5,A++[gD d a []],())/\lN (c-(a+1)) (c-a))) (Q ⟨0,A,B,C,D,E,F,G,H,J,K,L,M,N,O,P,R,S,U,W,X,Y,d3,d4,d5,d6,d7,d8,d9,e0,e1,e2,e3,e4,d,e5,()⟩)) (by
 conv=>zeta
 unfold Bd WA gD iN lN mM nI bd;refine Wd.all λw=>?_;rintro Q ⟨⟨h,l⟩,m⟩;refine⟨⟨rfl,rfl,0,rfl,aq _,rfl⟩,?_⟩;intro n i;refine Wd.all λv=>?_;rintro s ⟨b,c,k,o,j,e⟩;have b:v=w:=b;have c:n=w.st.length:=c;have e:s=w.st.take k:=e;have j:k<=w.st.length:=j;subst b c o e;have p:((k:Int).toNat)=k:=by omega
 rw[p];refine⟨λf=>?_,λg=>?_⟩
 ·have a:k<v.st.length:=by simp only[ai]at f;omega
  have q:=l _ (aS (z:=([]:BL)) a);refine⟨by omega,by omega,by rw[be];omega,by unfold ac;omega,⟨rfl,rfl,k+1,rfl,a,?_⟩,by omega⟩;rw[cQ (z:=([]:BL)) a]
 ·simp only[aj]at g;rw[bf (by omega)];exact m)
def T5:Ct:=⟨1,⟨[sP 0],gb⟩,[⟨[(0,false,[.d (.sl .i64)])],gb⟩],λ(B,C,D,E,F,G,H,J,K,b,c,e,f,g,h,i,j,l,m,n,o,p,q,r,s,t,u,v,w,x,y,z,A,a,_)=>one (a.length<=1000000) (a,B,C,D,E,F,G,H,J,K,b,c,e,f,g,h,i,j,l,m,n,o,p,q,r,s,t,u,v,w,x,y,z,A,a,())⟩
def Pu:bw:=(17,[T5])::Pt
theorem p':KK Pu:=kA p_ (cE T5 0) (WA λb c d e f g h i j k l m n o p q r s t u v w y z A B C D E F G H J a=>let x:=(c,d,e,f,g,h,i,j,k,l,m,n,o,p,q,r,s,t,u,v,w,y,z,A,B,C,D,E,F,G,H,J,a,());∀Q,bd T5 (b,x) Q->(0+a.length)*8<=mM/\Q ⟨0,a,b,x⟩) (by
 conv=>zeta
 unfold WA mM bd;refine Wd.all λw=>?_;intro Q ⟨h,a⟩;exact⟨by omega,a⟩)
theorem GF{la:La}(h:fD la){k c n:Int}(i:0<=n/\n<=1048576):fD (Iq la k c n):=by
 obtain⟨j,e⟩:=h;unfold Iq;refine⟨by rw[cG];exact j,λr a=>?_⟩;rcases List.mem_or_eq_of_mem_set a with a|a
 ·exact e r a
 ·subst a;rcases bI (k-3).toNat la.length with g|g
  ·have f:=e _ (aS (z:=[]) g);refine⟨by rw[cG];exact f.1,λx b=>?_⟩;rcases List.mem_or_eq_of_mem_set b with b|b
   ·exact f.2 x b
   ·subst b;exact i
  ·rw[List.set_eq_of_length_le g]at a;exact e _ a
theorem tkB{lk:Lk}{bk:Ln}(ts:List Tm)(m:KV)(h:ci bk):ci (oa lk bk ts m).2.1:=by
 unfold oa;split
 ·rename_i g;dsimp only
  have c:pF lk=true/\¬lk.2.1<=(dx bk lk.1).length/\¬((dx bk lk.1).length:Int)+1<lk.2.1:=by
   unfold iV at g;split at g
   ·cases g
   ·rename_i f;split at g
    ·dsimp only at g;split at g<;>cases g
    ·rename_i i;split at g
     ·cases g
     ·rename_i j;exact⟨by simpa using f,i,j⟩
  have l:=oH c.1;intro a;unfold Cp;rw[uY];split
  ·rename_i e;subst e;refine⟨by rw[aa,bh];omega,λq b=>?_⟩;rcases bb.1 b with b|b
   ·exact(h lk.1).2 q b
   ·simp at b;subst b;exact⟨lL _,lL _⟩
  ·exact h a
 ·exact h
theorem T6{lk:Lk}{bk:Ln}{k:Nat}{ts:List Tm}(m:KV)(h:bO (k+2) ts):bO k (oa lk bk ts m).2.2.1:=by
 unfold oa;have a:=chS (lk:=lk) (bk:=bk) m h;split
 ·exact dgS _ a
 ·exact a.mono (by omega)
theorem q_{k:Nat}:∀(l:List Lk)(z:Ln×List Tm×KV),bO (k+l.length) z.2.1->bO k (l.foldl LU z).2.1
 |[],_,h=>h
 |x::r,z,h=>by
  rw[List.foldl_cons];refine q_ r _ ?_;unfold LU;exact dgS _ (h.mono (by simp;omega))
theorem T7{l:Lt}{lk:Lk}{t:BL}{j:Pg}{bk:Ln}{k:Nat}{ts:List Tm}{m:KV}{y:x9}(s:t.length<=5000)(n:cr j)(b:ci bk)(a:bO (k+5000) ts)(h:tZ l lk t j bk ts m y):cr y.2.1/\ci y.2.2.1/\bO k y.2.2.2.1:=by
 unfold tZ at h;split at h
 ·obtain⟨⟨c,p⟩,f,_⟩:=h;refine⟨f,?_⟩;rw[p];unfold Ds;dsimp only
  repeat' split
  ·exact⟨b,a.mono (by omega)⟩
  ·exact⟨tkB _ _ b,T6 m (a.mono (by omega))⟩
  ·exact⟨tkB _ _ b,T6 m (a.mono (by omega))⟩
 ·split at h
  ·rw[h];exact⟨n,b,a.mono (by omega)⟩
  ·obtain⟨w,o,q,f⟩:=h;have r:bQ t 0:=⟨by omega,by omega,by omega⟩;have u:=(Gk true 0 r).2
   have e:bO k y.2.2.2.1:=by
    rw[q];split
    ·rw[o];exact q_ _ _ (a.mono (by show k+(r9 t true (0,0)).2.2.length<=k+5000;omega))
    ·exact a.mono (by omega)
   rcases f with⟨_,g,i⟩|⟨_,_,g,i,_⟩
   ·exact⟨by rw[g];exact n,by rw[i];exact b,e⟩
   ·refine⟨g,?_,e⟩;rw[i,o];exact(bdO ts m (by omega)).1
theorem K6{w:Cl}{l:Lt}{k:Nat}{ts:List Tm}{m:KV}{y:x9}(e:jR l=true)(h:ls w)(g:bO (k+6000) ts)(r:kr w l ts m y):cr y.2.1/\ci y.2.2.1/\bO k y.2.2.2.1:=by
 obtain⟨p,q,s,t,a,b,u,v,x⟩:=h;have e:=(ez e).2.2.1;have i:bO k ts:=g.mono (by omega);unfold kr at r;dsimp only at r;split at r
 ·rw[r];exact⟨a,b,i⟩
 split at r
 ·rw[r];exact⟨a,b,i⟩
 have j:=lcS (sg:=(gk (cS w.lg.2.1 l.2.2.1) l.2.1).1.2.2.1) (k:=k+5999) m e g;split at r
 ·rw[r];exact⟨a,b,j.mono (by omega)⟩
 generalize tV (gk (cS w.lg.2.1 l.2.2.1) l.2.1).1.2.2.1 l ts m=z at*;have c:=knS (l:=l) (lk:=z.1.1) (la:=w.la) (bk:=w.bk) (k:=k+5998) z.2.2 j;generalize zl l z.1.1 w.la w.bk z.2.1 z.2.2=f at*;split at r
 ·rw[r];exact⟨a,b,c.mono (by omega)⟩
 split at r
 ·rw[r];exact⟨a,b,c.mono (by omega)⟩
 split at r
 ·rw[r];exact⟨a,b,c.mono (by omega)⟩
 have n:=a_ (ep:=(aO Ty.i64 l.2.2.1 w.km).getD []) (l:=l) (k:=k+5997) f.2.2 c;generalize mW ((aO Ty.i64 l.2.2.1 w.km).getD []) l f.2.1 f.2.2=o at*;split at r
 ·rw[r];exact⟨a,b,n.1.mono (by omega)⟩
 ·exact T7 (by omega) a b (n.1.mono (by omega)) r
theorem GG{lg:Lg}{e:Et}{ts:List Tm}{m:KV}(h:cC lg.2.1 lg.2.2.1)(i:lg.2.1.length<=100000)(f:aB lg.1):cC (kg lg e ts m).2.1.2.1 (kg lg e ts m).2.1.2.2.1/\(kg lg e ts m).2.1.2.1.length<=100000/\aB (kg lg e ts m).2.1.1:=by
 have j:cC lg.2.1 lg.2.2.1/\lg.2.1.length<=100000/\aB lg.1:=⟨h,i,f⟩;unfold kg;rw[ck]
 repeat' split
 all_goals try exact j
 rename_i c s l _ _ _;have c:ig e=true:=by simpa using c
 obtain⟨t,u,v,w,y,z,A,B⟩:=lm c;have l:e.1=lg.2.1.length+1:=by omega
 obtain⟨g,C,D,E,n,F,G⟩:=fy c;obtain⟨⟨H,o⟩,p,q,r⟩:=h;dsimp only;refine⟨⟨⟨by simp;omega,λx a=>?_⟩,by simp[p],λd b=>?_,λx a=>?_⟩,by simp;omega,f⟩
 ·rcases bb.1 a with a|a
  ·exact o x a
  ·simp at a;subst a;exact⟨g.1,g.2.1,by simp⟩
 ·rcases bb.1 b with b|b
  ·exact q d b
  ·simp at b;subst b;rw[tU];exact bq (Cv (by show(104:BitVec 8)≠98;decide)) (by omega)
 ·rcases bb.1 a with a|a
  ·exact r x a
  ·simp at a;subst a;exact n
theorem T8{e:Et}{c:Int}{se:BL}(a:aB se)(b:aB e.2.2.2.2.1){k:Nat}:∀(l:List Mb)(km:KM)(ts:List Tm)(m:KV),bO (k+2*l.length) ts->bO k (zn e c se l km ts m).2.2.1
 |[],_,_,_,h=>h.mono (by omega)
 |p::r,km,ts,m,h=>by
  have f:=keS (e:=e) (c:=c) (se:=se) (k:=k+2*r.length) m a b (h.mono (by simp;omega));simp only[zn];split
  ·exact T8 a b r km ts m (h.mono (by simp;omega))
  ·split
   ·exact f.mono (by omega)
   ·exact T8 a b r _ _ _ f
theorem T9{c:Int}{se:BL}{lg:Lg}{km:KM}{e:Et}{k:Nat}{ts:List Tm}{m:KV}(j:vk e)(a:aB se)(h:cC lg.2.1 lg.2.2.1)(b:lg.2.1.length<=100000)(f:aB lg.1)(p:bO (k+100) ts):cC (qh c se lg km e ts m).2.1.2.1 (qh c se lg km e ts m).2.1.2.2.1/\(qh c se lg km e ts m).2.1.2.1.length<=100000/\aB (qh c se lg km e ts m).2.1.1/\bO k (qh c se lg km e ts m).2.2.2.1:=by
 have i:=GG (e:=e) (ts:=ts) (m:=m) h b f;have l:=tkS (lg:=lg) (e:=e) (k:=k+99) m j.2.1 p;have n:=tk5 (e:=e) (lg:=lg) (ts:=ts) (m:=m);unfold qh;rw[ck];dsimp only;generalize kg lg e ts m=t at*;split
 ·exact⟨h,b,f,l.mono (by omega)⟩
 ·rename_i g;have n:=n (aC.1 g);have o:=T8 (c:=c) a j.2.2.2.2.2.2 (k:=k) e.2.2.1 km t.2.2.1 t.2.2.2 (l.mono (by omega));generalize zn e c se e.2.2.1 km t.2.2.1 t.2.2.2=r at*;split
  ·exact⟨h,b,f,o⟩
  ·exact⟨i.1,i.2.1,i.2.2,o⟩
theorem r_{w:Cl}{b:BL}{k:Nat}{ts:List Tm}{m:KV}{y:Ir}(h:ls w)(e:bO (k+10000) ts)(r:nW w b ts m y):ls y.2.1/\y.2.1.fk.length<=w.fk.length+400/\bO k y.2.2.1/\y.2.1.c=w.c/\y.2.1.se=w.se/\y.2.1.sg=w.sg:=by
 have a:ls w/\w.fk.length<=w.fk.length+400/\bO k ts/\w.c=w.c/\w.se=w.se/\w.sg=w.sg:=⟨h,by omega,e.mono (by omega),rfl,rfl,rfl⟩;unfold nW at r;dsimp only at r;split at r
 ·rw[r];exact a
 rename_i F;have l:bQ b 0:=⟨by omega,by omega,by omega⟩;split at r
 ·rw[r];exact a
 obtain⟨o,p,i,j,x,A,s,t,u⟩:=h;split at r
 ·split at r
  ·rw[r];exact a
  ·rename_i g;have B:=fy ((vm l).2 (aC.1 g)).2;have q:=T9 (c:=w.c) (km:=w.km) (m:=m) (k:=k) B i s t u (e.mono (by omega));rw[r];exact⟨⟨o,p,i,j,x,A,q.1,q.2.1,q.2.2.1⟩,by dsimp only;omega,q.2.2.2,rfl,rfl,rfl⟩
 ·split at r
  ·rw[r];exact a
  ·rename_i g;have v:=((Dt l).2 (aC.1 g)).2;obtain⟨z,f,n,C,D,G,E⟩:=r;have q:=K6 (k:=k) v a.1 (e.mono (by omega)) C;rw[E];refine⟨⟨o,p,i,?_,q.1,q.2.1,s,t,u⟩,D,q.2.2,rfl,rfl,rfl⟩;unfold ya;split
   ·have:=(ez v).1.2.2.2.2.2.2;exact GF j ⟨by omega,by omega⟩
   ·exact j
structure Su(k:Nat)(ts:List Tm)(m:KV):Prop where
 w:xj ts m
 k:bO k ts
theorem Su.mono{k j:Nat}{ts:List Tm}{m:KV}(h:Su k ts m)(a:j<=k):Su j ts m:=⟨h.w,h.k.mono a⟩
def Gr(K:Tm->Prop)(ts a:List Tm):Prop:=∃b,a=ts++b/\∀t∈b,K t
theorem Gr.refl(K:Tm->Prop)(ts:List Tm):Gr K ts ts:=⟨[],by simp,by simp⟩
theorem Gr.trans{K:Tm->Prop}{a b c:List Tm}(h:Gr K a b)(h':Gr K b c):Gr K a c:=by
 obtain⟨e,rfl,f⟩:=h;obtain⟨g,rfl,i⟩:=h';exact⟨e++g,by rw[ay],λt j=>(bb.1 j).elim (f t) (i t)⟩
theorem Gr.imp{K K':Tm->Prop}{a b:List Tm}(c:∀t,K t->K' t)(h:Gr K a b):Gr K' a b:=let⟨e,f,g⟩:=h;⟨e,f,λt i=>c t (g t i)⟩
theorem Gr.nm{K:Tm->Prop}{a b:List Tm}(h:Gr K a b){n:BL}{t:Tm}(c:Nm a n t):Nm b n t:=by obtain⟨e,rfl,_⟩:=h;exact c.mono
theorem Gr.mem{K:Tm->Prop}{a b:List Tm}(h:Gr K a b){t:Tm}(c:t∈a):t∈b:=by obtain⟨e,rfl,_⟩:=h;exact cL _ c
theorem Gr.old{K:Tm->Prop}{a b:List Tm}(h:Gr K a b){t:Tm}(c:t∈b):t∈a\/K t:=by
 obtain⟨f,rfl,e⟩:=h;exact(bb.1 c).imp id (e t)
structure Ok(K:Tm->Prop)(k:Nat)(ts:List Tm)(z:List Tm×KV):Prop where
 su:Su k z.1 z.2
 gr:Gr K ts z.1
theorem Ok.refl{K:Tm->Prop}{k j:Nat}{ts:List Tm}{m:KV}(h:Su j ts m)(a:k<=j):Ok K k ts (ts,m):=⟨h.mono a,Gr.refl K ts⟩
theorem Ok.trans{K:Tm->Prop}{k j:Nat}{ts:List Tm}{z y:List Tm×KV}(h:Ok K j ts z)(h':Ok K k z.1 y):Ok K k ts y:=⟨h'.su,h.gr.trans h'.gr⟩
theorem Ok.mono{K:Tm->Prop}{k j:Nat}{ts:List Tm}{z:List Tm×KV}(h:Ok K j ts z)(a:k<=j):Ok K k ts z:=⟨h.su.mono a,h.gr⟩
theorem Ok.imp{K K':Tm->Prop}{k:Nat}{ts:List Tm}{z:List Tm×KV}(a:∀t,K t->K' t)(h:Ok K k ts z):Ok K' k ts z:=⟨h.su,h.gr.imp a⟩
theorem yb{t:Tm}{k:Nat}{ts:List Tm}{m:KV}(h:Su (k+1) ts m)(a:eI t):Ok (·=t) k ts (dV t ts m).2/\Nm (dV t ts m).2.1 (dV t ts m).1 t:=by
 have q:=xk h.w (by have:=h.k.2;omega) h.k.1 a;refine⟨⟨⟨q.w,oJ m h.k a⟩,?_⟩,q.nm⟩;rcases q.ex with e|⟨e,_⟩
 ·rw[e];exact Gr.refl _ _
 ·rw[e];exact⟨[t],rfl,λx b=>by simpa using b⟩
theorem Dv{t:Tm}{k:Nat}{ts:List Tm}{m:KV}(h:Su (k+1) ts m)(a:eI t):Ok (·=t) k ts (dh t ts m).2/\((t.2.1.getD 0 []).length=32->Nm (dh t ts m).2.1 (dh t ts m).1 t):=by
 unfold dh;split
 ·exact⟨(yb h a).1,λ_=>(yb h a).2⟩
 ·rename_i g;exact⟨Ok.refl h (by omega),λq=>absurd q g⟩
def gP(t:Tm):Prop:=t.1≠103/\t.1≠115
theorem nmP{t:Tm}{k:Nat}{ts:List Tm}{m:KV}(h:Su (k+1) ts m)(a:eI t)(b:gP t):Ok gP k ts (dV t ts m).2:=(yb h a).1.imp λ_ e=>by rw[e];exact b
theorem naP{t:Tm}{k:Nat}{ts:List Tm}{m:KV}(h:Su (k+1) ts m)(a:eI t)(b:gP t):Ok gP k ts (dh t ts m).2:=(Dv h a).1.imp λ_ e=>by rw[e];exact b
theorem K7(b:List BL):gP (104,b,()):=⟨by show(104:BitVec 8)≠103;decide,by show(104:BitVec 8)≠115;decide⟩
theorem Ua(b:List BL):gP (107,b,()):=⟨by show(107:BitVec 8)≠103;decide,by show(107:BitVec 8)≠115;decide⟩
theorem a3u(b:List BL):gP (100,b,()):=⟨by show(100:BitVec 8)≠103;decide,by show(100:BitVec 8)≠115;decide⟩
theorem GH{sec pub:BL}{ts:List Tm}(a:aB sec)(h:eC ts)(e:(fK pub 112 ts).2=true):eI (100,(if 0<jN sec ((fK pub 112 ts).1.2.1.getD 0 [])then[(fK pub 112 ts).1.2.1.getD 0 [],sec]else[sec,(fK pub 112 ts).1.2.1.getD 0 []]),()):=by
 have c:=rB (b:=pub) (k:=112) h e;have f:=(c.1.2.2.2.2 c.2).2;have g:=gZ (fK pub 112 ts).1.2.1 0;split
 ·exact gU (.inr ⟨by decide,by rw[Jj];have:=a;omega⟩) (.inr ⟨by decide, .inl (aD _)⟩)
 ·exact gU (.inr ⟨by decide,by rw[Jj];have:=a;omega⟩) (.inr ⟨by decide, .inl (aD _)⟩)
theorem shP{sec pub:BL}{k:Nat}{ts:List Tm}{m:KV}(a:aB sec)(h:Su (k+1) ts m):Ok gP k ts (my sec pub ts m).1.2:=by
 unfold my;split
 ·exact Ok.refl h (by omega)
 split
 ·exact Ok.refl h (by omega)
 ·rename_i g;exact nmP h (GH a h.k.ok (by simpa using g)) (a3u _)
theorem s_{sec pub:BL}{k:Nat}{ts:List Tm}{m:KV}(n id:Int)(b:aB sec)(c:aB pub)(h:Su (k+2) ts m):Ok gP k ts (gR n id sec pub ts m).2:=by
 have a:=shP (pub:=pub) (k:=k+1) b h;have e:=(shS m b c h.k).1;unfold gR;split
 ·exact a.mono (by omega)
 ·have f:=bz n;have g:=bz id;exact a.trans (naP a.su (yV (by decide) (by decide) (show aB (my sec pub ts m).1.1 by unfold aB;omega) (show aB (vn n++vn id)by unfold aB;simp;omega)) (Ua _))
theorem keP{e:Et}{c:Int}{se:BL}{k:Nat}{ts:List Tm}{m:KV}(a:aB se)(b:aB e.2.2.2.2.1)(h:Su (k+2) ts m):Ok gP k ts (lM e c se ts m).2:=by
 have f:=s_ (k:=k) e.1 c a b h;have g:Ok gP k ts (ts,m):=Ok.refl h (by omega);unfold lM;rw[ck]
 repeat' split
 all_goals first|exact g|exact f
theorem Ub{e:Et}{lg:Lg}{k:Nat}{ts:List Tm}{m:KV}(c:(dL e).length<=100000000)(h:Su (k+1) ts m):Ok gP k ts (kg lg e ts m).2.2:=by
 have a:=nmP (k:=k) h (kD (k:=104) (by decide) (by decide) (show aB (dL e)by unfold aB;omega)) (K7 _);have b:Ok gP k ts (ts,m):=Ok.refl h (by omega);unfold kg;rw[ck]
 repeat' split
 all_goals first|exact b|exact a
theorem Uc{e:Et}{c:Int}{se:BL}(a:aB se)(b:aB e.2.2.2.2.1){k:Nat}:∀(l:List Mb)(km:KM)(ts:List Tm)(m:KV),Su (k+2*l.length) ts m->Ok gP k ts (zn e c se l km ts m).2.2
 |[],_,_,_,h=>Ok.refl h (by omega)
 |p::r,km,ts,m,h=>by
  have f:=keP (e:=e) (c:=c) (se:=se) (k:=k+2*r.length) a b (h.mono (by simp;omega));simp only[zn];split
  ·exact Uc a b r km ts m (h.mono (by simp;omega))
  ·split
   ·exact f.mono (by omega)
   ·exact f.trans (Uc a b r _ _ _ f.su)
theorem t_{c:Int}{se:BL}{lg:Lg}{km:KM}{e:Et}{k:Nat}{ts:List Tm}{m:KV}(f:vk e)(a:aB se)(j:Su (k+100) ts m):Ok gP k ts (qh c se lg km e ts m).2.2.2:=by
 have b:=Ub (lg:=lg) (e:=e) (k:=k+99) f.2.1 j;have h:=tk5 (e:=e) (lg:=lg) (ts:=ts) (m:=m);unfold qh;rw[ck];dsimp only;generalize kg lg e ts m=t at*;split
 ·exact b.mono (by omega)
 ·rename_i g;have h:=h (aC.1 g);have i:=b.trans (Uc (c:=c) a f.2.2.2.2.2.2 (k:=k) e.2.2.1 km t.2.2.1 t.2.2.2 (b.su.mono (by omega)));split
  ·exact i
  ·exact i
theorem lcP{sg:BL}{l:Lt}{k:Nat}{ts:List Tm}{m:KV}(a:hC l)(h:Su (k+1) ts m):Ok gP k ts (tV sg l ts m).2:=by
 have b:=nmP (k:=k) h (kD (k:=104) (by decide) (by decide) (show aB l.2.2.2.2.2.1 by have:=a.2.1;unfold aB;omega)) (K7 _);have c:Ok gP k ts (ts,m):=Ok.refl h (by omega);unfold tV;rw[ck];dsimp only
 repeat' split
 all_goals first|exact c|exact b
theorem u_{lk:Lk}{k:Nat}{ts:List Tm}{m:KV}(h:Su (k+1) ts m):Ok gP k ts (lZ lk ts m).2:=by
 unfold lZ;split
 ·rename_i g;exact nmP h (kD (k:=104) (by decide) (by decide) (by have:=pZ g;unfold aB;omega)) (K7 _)
 ·exact Ok.refl h (by omega)
theorem chP{lk:Lk}{bk:Ln}{k:Nat}{ts:List Tm}{m:KV}(h:Su (k+1) ts m):Ok gP k ts (iV lk bk ts m).2:=by
 have a:Ok gP k ts (ts,m):=Ok.refl h (by omega);unfold iV
 repeat' split
 all_goals first|exact a|exact u_ h
theorem knP{l:Lt}{lk:Lk}{la:La}{bk:Ln}{k:Nat}{ts:List Tm}{m:KV}(h:Su (k+1) ts m):Ok gP k ts (zl l lk la bk ts m).2:=by
 unfold zl;split
 ·exact Ok.refl h (by omega)
 ·exact chP h
theorem v_{lk:Lk}{bk:Ln}{k:Nat}{ts:List Tm}{m:KV}(h:Su (k+2) ts m):Ok gP k ts (oa lk bk ts m).2.2:=by
 unfold oa;have a:=chP (lk:=lk) (bk:=bk) h;split
 ·exact a.trans (u_ a.su)
 ·exact a.mono (by omega)
theorem loP{ep:BL}{l:Lt}{k:Nat}{ts:List Tm}{m:KV}(h:Su (k+1) ts m):Ok gP k ts (mW ep l ts m).2:=by
 have a:Ok gP k ts (ts,m):=Ok.refl h (by omega);unfold mW;rw[ck];split
 ·exact a
 ·rename_i g;have c:=bz l.1;have e:=bz l.2.1;have b:Ok gP k ts (Cx ep l ts m).2:=naP h (yV (k:=107) (by decide) (by decide) (show aB ep by unfold aB;omega) (show aB (jg l)by unfold aB jg;simp;omega)) (Ua _)
  repeat' split
  all_goals exact b
theorem bdP{k:Nat}:∀(l:List Lk)(z:Ln×List Tm×KV),Su (k+l.length) z.2.1 z.2.2->Ok gP k z.2.1 (l.foldl LU z).2
 |[],_,h=>Ok.refl h (by simp)
 |x::r,z,h=>by
  rw[List.foldl_cons];have a:Ok gP (k+r.length) z.2.1 (LU z x).2:=u_ (h.mono (by simp;omega));exact a.trans (bdP r _ a.su)
theorem txP{l:Lt}{lk:Lk}{t:BL}{e:Pg}{bk:Ln}{k:Nat}{ts:List Tm}{m:KV}{y:x9}(o:t.length<=5000)(a:Su (k+5000) ts m)(h:tZ l lk t e bk ts m y):Ok gP k ts y.2.2.2:=by
 have b:Ok gP k ts (ts,m):=Ok.refl a (by omega);unfold tZ at h;split at h
 ·obtain⟨⟨c,f⟩,g,_⟩:=h;rw[f];unfold Ds;dsimp only
  repeat' split
  ·exact b
  ·exact v_ (a.mono (by omega))
  ·exact v_ (a.mono (by omega))
 ·split at h
  ·rw[h];exact b
  ·obtain⟨w,i,j,g⟩:=h;have n:bQ t 0:=⟨by omega,by omega,by omega⟩;have p:=(Gk true 0 n).2;rw[j];split
   ·rw[i];exact bdP (r9 t true (0,0)).2.2 ([],ts,m) (a.mono (by omega))
   ·exact b
theorem a3v{w:Cl}{l:Lt}{k:Nat}{ts:List Tm}{m:KV}{y:x9}(b:jR l=true)(g:Su (k+6000) ts m)(r:kr w l ts m y):Ok gP k ts y.2.2.2:=by
 have b:=(ez b).2.2.1;have h:Ok gP k ts (ts,m):=Ok.refl g (by omega);unfold kr at r;dsimp only at r;split at r
 ·rw[r];exact h
 split at r
 ·rw[r];exact h
 have c:=lcP (sg:=(gk (cS w.lg.2.1 l.2.2.1) l.2.1).1.2.2.1) (k:=k+5999) b g;split at r
 ·rw[r];exact c.mono (by omega)
 generalize tV (gk (cS w.lg.2.1 l.2.2.1) l.2.1).1.2.2.1 l ts m=z at*;have a:=c.trans (knP (l:=l) (lk:=z.1.1) (la:=w.la) (bk:=w.bk) (k:=k+5998) c.su);generalize zl l z.1.1 w.la w.bk z.2.1 z.2.2=e at*;split at r
 ·rw[r];exact a.mono (by omega)
 split at r
 ·rw[r];exact a.mono (by omega)
 split at r
 ·rw[r];exact a.mono (by omega)
 have f:=a.trans (loP (ep:=(aO Ty.i64 l.2.2.1 w.km).getD []) (l:=l) (k:=k+5997) a.su);have i:=(a_ (ep:=(aO Ty.i64 l.2.2.1 w.km).getD []) (l:=l) (k:=k+5997) e.2.2 a.su.k).2;generalize mW ((aO Ty.i64 l.2.2.1 w.km).getD []) l e.2.1 e.2.2=o at*;split at r
 ·rw[r];exact f.mono (by omega)
 ·exact f.trans (txP (by omega) (f.su.mono (by omega)) r)
theorem rcP{w:Cl}{b:BL}{k:Nat}{ts:List Tm}{m:KV}{y:Ir}(h:ls w)(c:Su (k+10000) ts m)(r:nW w b ts m y):Ok gP k ts y.2.2:=by
 have a:Ok gP k ts (ts,m):=Ok.refl c (by omega);unfold nW at r;dsimp only at r;split at r
 ·rw[r];exact a
 rename_i q;have e:bQ b 0:=⟨by omega,by omega,by omega⟩;split at r
 ·rw[r];exact a
 obtain⟨s,t,i,u,v,x,A,B,C⟩:=h;split at r
 ·split at r
  ·rw[r];exact a
  ·rename_i g;have j:=fy ((vm e).2 (aC.1 g)).2;rw[r];exact t_ j i (c.mono (by omega))
 ·split at r
  ·rw[r];exact a
  ·rename_i g;have l:=((Dt e).2 (aC.1 g)).2;obtain⟨z,f,n,o,D,E,p⟩:=r;rw[p];exact a3v l (c.mono (by omega)) o
theorem Nm.inj{ts:List Tm}{m:KV}{b a:BL}{t:Tm}(c:xj ts m)(h:Nm ts b t)(h':Nm ts a t):b=a:=by
 obtain⟨i,e,f⟩:=h;obtain⟨j,g,l⟩:=h';have n:=c.at_ i t e;have o:=c.at_ j t g;have:i=j:=by omega
 subst this;rw[f,l]
theorem Nm.len{ts:List Tm}{b:BL}{t:Tm}(h:Nm ts b t):b.length=(nZ t).toNat:=by
 obtain⟨i,_,a⟩:=h;rw[a,u4]
theorem a3w{t:Tm}(h:t.1≠98)(h':t.1≠103):(nZ t).toNat=32:=by
 unfold nZ;rw[af h',af h];rfl
theorem Nm.len32{ts:List Tm}{b:BL}{t:Tm}(h:Nm ts b t)(a:t.1≠98)(c:t.1≠103):b.length=32:=by rw[h.len,a3w a c]
theorem Nm.len64{ts:List Tm}{b:BL}{l:List BL}(h:Nm ts b (103,l,())):b.length=64:=by
 rw[h.len];rfl
theorem Nm.len98{ts:List Tm}{b k n o x:BL}(h:Nm ts b (98,[k,n,o,x],())):b.length=x.length+16:=by
 rw[h.len];show((x.length:Int)+16).toNat=_;omega
theorem Pv{k b s:BL}{ts:List Tm}(h:xX k b s ts=true):∃t v,Nm ts s t/\t.1=103/\Nm ts k v/\v.1=118/\t.2.1.getD 0 []=v.2.1.getD 0 []/\t.2.1.getD 1 []=b:=by
 unfold xX at h;rw[aI,aI,aI,aR,aR]at h;obtain⟨⟨c,e⟩,f,g⟩:=h;have a:=MY c;have b:=MY e;exact⟨_,_,a.1,a.2,b.1,b.2,f,g⟩
theorem seG{q o x:BL}{n:Int}{k:Nat}{ts:List Tm}{m:KV}(h0:0<=n)(a:q.length=32)(b:aB o)(c:aB x)(h:Su (k+1) ts m):Ok (·=(98,[q,dv n,o,x],())) k ts (lY q n o x ts m).2/\Nm (lY q n o x ts m).2.1 (lY q n o x ts m).1 (98,[q,dv n,o,x],()):=by
 unfold lY;rw[af (by omega)];have:=Dv h (t:=(98,[q,dv n,o,x],())) (tm4 (by unfold aB;omega) (by unfold aB;rw[eo];omega) b c);exact⟨this.1,this.2 a⟩
theorem a3x{sec ep pd:BL}{l:Lt}{k:Nat}{ts:List Tm}{m:KV}(h:Su (k+4) ts m)(v:sec.length=32)(w:ep.length=32)(q:xZ l)(D:pd.length<=5000):
 ∃r b hh g z,XX sec ep l pd ts m=(((l.1,l.2.1,l.2.2.1,l.2.2.2.1,l.2.2.2.2.1,b,g,()),0),z)/\Ok (λt=>gP t\/t=(103,[sec,ei l++tx hh],())) k ts z/\
  Nm z.1 r (107,[ep,jg l],())/\Nm z.1 b (98,[r,dv l.2.2.2.1,ei l,pd],())/\Nm z.1 hh (104,[b],())/\Nm z.1 g (103,[sec,ei l++tx hh],()):=by
 have y:l.2.2.2.2.1.length<=32:=by have:=q.2.2.2.2.2.2.2.2;omega
 have hh:=mV l;have j:aB (ei l):=by unfold aB;omega
 have E:=bz l.1;have F:=bz l.2.1;have p:=Dv (k:=k+3) (t:=(107,[ep,jg l],())) h (yV (by decide) (by decide) (show aB ep by unfold aB;omega) (show aB (jg l)by unfold aB jg;simp;omega));have s:=p.2 w
 have u:XX sec ep l pd ts m=(let k:=dh (107,[ep,jg l],()) ts m
  let b:=lY k.1 l.2.2.2.1 (ei l) pd k.2.1 k.2.2
  let h:=dV (104,[b.1],()) b.2.1 b.2.2
  let g:=dh (103,[sec,ei l++tx h.1],()) h.2.1 h.2.2
  (((l.1,l.2.1,l.2.2.1,l.2.2.2.1,l.2.2.2.2.1,b.1,g.1,()),0),g.2)):=rfl
 rw[u];dsimp only;have c:=p.1;clear p u;generalize dh (107,[ep,jg l],()) ts m=K at*;have A:=s.len32 (by show(107:BitVec 8)≠98;decide) (by show(107:BitVec 8)≠103;decide);have f:=seG (k:=k+2) (n:=l.2.2.2.1) (o:=ei l) (x:=pd) (by have:=q.2.2.2.2.2.2.1;omega) A j (by unfold aB;omega) c.su;generalize lY K.1 l.2.2.2.1 (ei l) pd K.2.1 K.2.2=B at*;have bl:=f.2.len98;have a:=yb (k:=k+1) (t:=(104,[B.1],())) f.1.su (kD (by decide) (by decide) (by unfold aB;omega));generalize dV (104,[B.1],()) B.2.1 B.2.2=H at*;have J:=a.2.len32 (by show(104:BitVec 8)≠98;decide) (by show(104:BitVec 8)≠103;decide);have L:=dS H.1;have i:=Dv (k:=k) (t:=(103,[sec,ei l++tx H.1],())) a.1.su (yV (by decide) (by decide) (by unfold aB;omega) (by unfold aB;simp only[aa];omega));have C:=i.2 v;generalize dh (103,[sec,ei l++tx H.1],()) H.2.1 H.2.2=G at*;refine⟨K.1,B.1,H.1,G.1,G.2,rfl,?_,i.1.gr.nm (a.1.gr.nm (f.1.gr.nm s)),i.1.gr.nm (a.1.gr.nm f.2),i.1.gr.nm a.2,C⟩;exact(c.imp λt e=> .inl (by rw[e];exact Ua _)).trans ((f.1.imp λt e=> .inl (by rw[e];exact⟨by show(98:BitVec 8)≠103;decide,by show(98:BitVec 8)≠115;decide⟩)).trans ((a.1.imp λt e=> .inl (by rw[e];exact K7 _)).trans (i.1.imp λt e=> .inr e)))
theorem Pw{n:Int}(h0:0<=n)(h:(fe n).2=0):n<(fe n).1/\(fe n).1<=4096/\fe ((fe n).1-1)=((fe n).1,0):=by
 have z:¬n<0:=by omega
 by_cases a:n<64
 ·have e:fe n=(64,0):=by unfold fe;rw[af z,am a]
  rw[e];exact⟨a,by decide,rfl⟩
 by_cases b:n<128
 ·have e:fe n=(128,0):=by unfold fe;rw[af z,af a,am b]
  rw[e];exact⟨b,by decide,rfl⟩
 by_cases c:n<256
 ·have e:fe n=(256,0):=by unfold fe;rw[af z,af a,af b,am c]
  rw[e];exact⟨c,by decide,rfl⟩
 by_cases f:n<512
 ·have e:fe n=(512,0):=by unfold fe;rw[af z,af a,af b,af c,am f]
  rw[e];exact⟨f,by decide,rfl⟩
 by_cases g:n<1024
 ·have e:fe n=(1024,0):=by unfold fe;rw[af z,af a,af b,af c,af f,am g]
  rw[e];exact⟨g,by decide,rfl⟩
 by_cases i:n<2048
 ·have e:fe n=(2048,0):=by unfold fe;rw[af z,af a,af b,af c,af f,af g,am i]
  rw[e];exact⟨i,by decide,rfl⟩
 by_cases j:n<4096
 ·have e:fe n=(4096,0):=by unfold fe;rw[af z,af a,af b,af c,af f,af g,af i,am j]
  rw[e];exact⟨j,by decide,rfl⟩
 ·have e:fe n=(0,2):=by unfold fe;rw[af z,af a,af b,af c,af f,af g,af i,af j]
  rw[e]at h;cases h
theorem K8{b:BL}(h:(lK b).2=0):fe (((lK b).1.length:Int)-1)=(((lK b).1.length:Int),0)/\(lK b).1.length<=4096/\b.length<(lK b).1.length/\((lK b).1.length:Int)=(fe b.length).1:=by
 unfold lK at h⊢;split
 ·rename_i g;obtain⟨e,f,a⟩:=Pw (Int.natCast_nonneg _) g;dsimp only
  have c:((b++128::ak ((fe b.length).1.toNat-b.length-1) 0).length:Int)=(fe b.length).1:=by
   simp only[aa,ba,List.length_replicate];omega
  rw[c];exact⟨a,by omega,by omega,rfl⟩
 ·rename_i g;rw[af g]at h;exact absurd h g
theorem GI{sec ep text:BL}{l:Lt}{k:Nat}{ts:List Tm}{m:KV}(h:Su (k+4) ts m):
 ((sd sec ep l text ts m).1.2≠0/\(sd sec ep l text ts m).2=(ts,m))\/
 ∃f b hh g z,xZ l/\ep.length=32/\sec.length=32/\(lK text).2=0/\sd sec ep l text ts m=(((l.1,l.2.1,l.2.2.1,l.2.2.2.1,l.2.2.2.2.1,b,g,()),0),z)/\Ok (λt=>gP t\/t=(103,[sec,ei l++tx hh],())) k ts z/\
  Nm z.1 f (107,[ep,jg l],())/\Nm z.1 b (98,[f,dv l.2.2.2.1,ei l,(lK text).1],())/\Nm z.1 hh (104,[b],())/\Nm z.1 g (103,[sec,ei l++tx hh],())/\
  jR (l.1,l.2.1,l.2.2.1,l.2.2.2.1,l.2.2.2.2.1,b,g,())=true:=by
 unfold sd;rw[ck];split
 ·exact .inl ⟨by simp,rfl⟩
 rename_i a;split
 ·rename_i c;exact .inl ⟨c,rfl⟩
 rename_i c;rw[not_or,not_or]at a;have c:(lK text).2=0:=aC.1 c;have i:xZ l:=by have:=a.2.2;rw[bW]at this;exact ag this
 have j:=K8 c;obtain⟨f,b,hh,g,z,p,q,r,n,s,o⟩:=a3x (l:=l) (pd:=(lK text).1) h (aC.1 a.1) (aC.1 a.2.1) i (by omega);refine .inr ⟨f,b,hh,g,z,i,aC.1 a.2.1,aC.1 a.1,c,p,q,r,n,s,o,?_⟩;unfold jR;have u:=n.len98;have e:((b.length:Int)-17)=((lK text).1.length:Int)-1:=by omega
 refine decide_eq_true ⟨i,?_,?_,o.len64⟩
 ·show(fe ((b.length:Int)-17)).2=0;rw[e,j.1]
 ·show(fe ((b.length:Int)-17)).1+16=(b.length:Int);rw[e,j.1];dsimp only;omega
theorem w_{sg:BL}{l:Lt}{k:Nat}{ts:List Tm}{m:KV}(c:hC l)(h:Su (k+1) ts m)(h0:(tV sg l ts m).1.2=0):
 ∃hh t v,(tV sg l ts m).1.1=(l.2.1,l.2.2.2.1,l.2.2.1,l.2.2.2.2.1,hh,())/\Nm (tV sg l ts m).2.1 hh (104,[l.2.2.2.2.2.1],())/\Nm (tV sg l ts m).2.1 l.2.2.2.2.2.2.1 t/\t.1=103/\Nm (tV sg l ts m).2.1 sg v/\v.1=118/\t.2.1.getD 0 []=v.2.1.getD 0 []/\t.2.1.getD 1 []=ei l++tx hh/\jR l=true:=by
 unfold tV at h0⊢;rw[ck]at h0⊢;split at h0
 ·cases h0
 rename_i a;rw[af a];dsimp only at h0⊢;have q:=yb (k:=k) (t:=(104,[l.2.2.2.2.2.1],())) h (kD (by decide) (by decide) (by have:=c.2.1;unfold aB;omega));generalize dV (104,[l.2.2.2.2.2.1],()) ts m=H at*;split at h0
 ·cases h0
 rename_i b;rw[af b];dsimp only;obtain⟨t,v,e,f,g,i,j,n⟩:=Pv (bW _▸b:xX sg (ei l++tx H.1) l.2.2.2.2.2.2.1 H.2.1=true);exact⟨H.1,t,v,rfl,q.2,e,f,g,i,j,n,by simpa using a⟩
def Bh(b:BL)(a:Int)(r:BL):Prop:=bQ b a/\b.drop a.toNat=r
theorem Bh.step{b x r:BL}{a:Int}(h:Bh b a (x++r)):Bh b (a+x.length) r:=by
 obtain⟨⟨e,g,i⟩,c⟩:=h;have f:=aH ah c;rw[cI,aa]at f;refine⟨⟨e,by omega,by omega⟩,?_⟩;rw[show(a+(x.length:Int)).toNat=a.toNat+x.length by omega,<-jz,c,List.drop_left]
theorem mC{b r:BL}{a n lo hi:Int}(h:Bh b a (vn n++r))(h0:0<=n)(e:n<=1099511627776)(f:lo<=n)(hh:n<=hi):∃c,cW b a true 0 lo hi=(n,c,0)/\Bh b c r:=by
 refine⟨a+(vn n).length,?_,h.step⟩;unfold cW;rw[am (show(true&&(0:Int)==0)=true from rfl),h.2,Ay h0 e r,am rfl,af (by dsimp only;omega)]
theorem nX{b s r:BL}{a n:Int}(h:Bh b a (tx s++r))(m:(s.length:Int)<=n)(o:s.length<=1099511627776):∃g,gC b a true 0 n=(s,g,0)/\Bh b g r:=by
 unfold tx at h;rw[ay]at h;have c:=h.step;have f:=c.step;refine⟨_,?_,f⟩;have i:=aH ah c.2;rw[cI,aa]at i;obtain⟨⟨p,q,t⟩,j⟩:=h;obtain⟨⟨u,v,w⟩,l⟩:=c;unfold gC;rw[am (show(true&&(0:Int)==0)=true from rfl),j,Ay (by omega) (by omega) _,am rfl];dsimp only;rw[af (by omega),af (by omega)];unfold xW;rw[am (show(true&&(0:Int)==0)=true from rfl)];rcases jZ s.length with e|e
 ·have:s=[]:=r8.1 e;subst this;rw[am (by simp)];simp
 ·rw[af (by omega),af (by omega),List.drop_take];rw[l,show(a+((vn (s.length:Int)).length:Int)+(s.length:Int)).toNat-(a+((vn (s.length:Int)).length:Int)).toNat=s.length by omega,List.take_left]
theorem GJ{b:BL}{a:Int}(h:Bh b a []):cK b a true 0=0:=by
 obtain⟨⟨f,g,i⟩,c⟩:=h;have e:=aH ah c;rw[cI,de]at e;unfold cK;rw[af (by simp),af (by omega)]
theorem Bh.zero{b:BL}(h:b.length<=1000000000):Bh b 0 b:=⟨⟨by omega,by omega,by omega⟩,rfl⟩
theorem A9{l:Lt}(h:jR l=true):∃a,fR (gh l) true (0,0)=(l,a,0)/\cK (gh l) a true 0=0:=by
 have c:=h;obtain⟨f,B,C,D⟩:=ag h;obtain⟨E,F,G,H,J,K,L,M,N⟩:=f;have O:=tR ((l.2.2.2.2.2.1.length:Int)-17);have P:l.2.2.2.2.2.1.length<=4112:=by have:=(ez h).2.2.1.2.1;have:=(ez h);omega
 have g:Bh (gh l) 0 (vn l.1++(vn l.2.1++(vn l.2.2.1++(vn l.2.2.2.1++(tx l.2.2.2.2.1++(tx l.2.2.2.2.2.1++(tx l.2.2.2.2.2.2.1++[]))))))):=by
  have Q:=mV l;have R:=dS l.2.2.2.2.2.1;have S:=dS l.2.2.2.2.2.2.1
  have e:gh l=vn l.1++(vn l.2.1++(vn l.2.2.1++(vn l.2.2.2.1++(tx l.2.2.2.2.1++(tx l.2.2.2.2.2.1++(tx l.2.2.2.2.2.2.1++[])))))):=by
   simp only[gh,ei,ay,aW]
  have i:(gh l).length<=1000000000:=by unfold gh;simp only[aa];omega
  have:=Bh.zero i;rw[<-e];exact this
 obtain⟨U,j,m⟩:=mC (lo:=2) (hi:=4) g (by omega) (by omega) (by omega) (by omega);obtain⟨W,o,p⟩:=mC (lo:=0) (hi:=4) m (by omega) (by omega) (by omega) (by omega);obtain⟨X,q,r⟩:=mC (lo:=1) (hi:=65536) p (by omega) (by omega) (by omega) (by omega);obtain⟨Y,s,t⟩:=mC (lo:=1) (hi:=1048576) r (by omega) (by omega) (by omega) (by omega);obtain⟨a5,u,v⟩:=nX (n:=64) t (by omega) (by omega);obtain⟨a6,w,x⟩:=nX (n:=4112) v (by omega) (by omega);obtain⟨b,y,z⟩:=nX (n:=64) x (by omega) (by omega)
 have A:Im (gh l) true (0,0)=(l,b,0):=by
  unfold Im;dsimp only;rw[j];dsimp only;rw[o];dsimp only;rw[q];dsimp only;rw[s];dsimp only;rw[u];dsimp only;rw[w];dsimp only;rw[y]
 refine⟨b,?_,GJ z⟩;unfold fR;rw[ck,A];dsimp only;rw[am c];rfl
theorem Px{α:Type}{b:BL}{f:α->BL}{one:Rs->α×Rs}:∀(l:List α)(a:Int)(r:BL)(c:List α),(∀x∈l,∀a r,Bh b a (f x++r)->∃e,one (a,0)=(x,e,0)/\Bh b e r)->Bh b a (fl f l++r)->
 ∃e,xi one l.length (a,0) c=(c++l,e,0)/\Bh b e r
 |[],a,r,c,_,g=>⟨a,by simp[xi],by simpa[fl]using g⟩
 |x::l,a,r,c,h,g=>by
  rw[vo,ay]at g;obtain⟨i,j,m⟩:=h x (aG ..) a _ g;obtain⟨n,o,p⟩:=Px l i r (c++[x]) (λy q=>h y (aA _ q)) m;refine⟨n,?_,p⟩;show xi one l.length (one (a,0)).2 (c++[(one (a,0)).1])=_;rw[j];dsimp only;rw[o,ay];rfl
theorem GK{α:Type}{b r:BL}{f:α->BL}{one:BL->Bool->Rs->α×Rs}{l:List α}{a:Int}(p:l.length<=5)(h:∀x∈l,∀a r,Bh b a (f x++r)->∃c,one b true (a,0)=(x,c,0)/\Bh b c r)(e:Bh b a (vn l.length++(fl f l++r))):
 ∃c,ob one b true (a,0)=(l,c,0)/\Bh b c r:=by
 obtain⟨g,i,j⟩:=mC (lo:=0) (hi:=5) e (by omega) (by omega) (by omega) (by omega);obtain⟨m,n,o⟩:=Px (one:=one b true) l g r [] h j;refine⟨m,?_,o⟩;unfold ob;rw[i];dsimp only;rw[aF,n,eS]
theorem Ba{e:Et}(h:ig e=true):∃a,eL (fL e) true (0,0)=(e,a,0)/\cK (fL e) a true 0=0:=by
 have q:=h;have g:=Gw h;have s:=fy h;obtain⟨Y,q2,q3,m,t,q6,q7,q8⟩:=lm h;obtain⟨u,v⟩:=TU m;have pk:=fX m
 have w:Bh (fL e) 0 (vn 1++(vn e.1++(tx e.2.1++(vn e.2.2.1.length++(fl pH e.2.2.1++(vn e.2.2.2.1.length++(fl rE e.2.2.2.1++(tx e.2.2.2.2.1++(vn e.2.2.2.2.2.1.length++(fl tx e.2.2.2.2.2.1++(tx e.2.2.2.2.2.2.1++[]))))))))))):=by
  have y:(fL e).length<=1000000000:=by
   have:=s.2.1;have:=dS e.2.2.2.2.2.2.1;unfold fL;simp only[aa];omega
  have z:fL e=vn 1++(vn e.1++(tx e.2.1++(vn e.2.2.1.length++(fl pH e.2.2.1++(vn e.2.2.2.1.length++(fl rE e.2.2.2.1++(tx e.2.2.2.2.1++(vn e.2.2.2.2.2.1.length++(fl tx e.2.2.2.2.2.1++(tx e.2.2.2.2.2.2.1++[])))))))))):=by
   simp only[fL,dL,fq,ay,aW]
  have:=Bh.zero y;rw[<-z];exact this
 obtain⟨a1,A,B⟩:=mC (lo:=1) (hi:=1) w (by omega) (by omega) (by omega) (by omega);obtain⟨a2,C,D⟩:=mC (lo:=1) (hi:=65536) B (by omega) (by omega) (by omega) (by omega);obtain⟨a3,E,F⟩:=nX (n:=64) D (by omega) (by omega)
 obtain⟨a4,G,H⟩:=GK (one:=Cr) (by omega) (λx c a r b=>by
  have:=u x c;simp only[pH,ay]at b;obtain⟨J,f,i⟩:=mC (lo:=0) (hi:=4) b (by omega) (by omega) (by omega) (by omega);obtain⟨o,j,l⟩:=nX (n:=64) i (by omega) (by omega);obtain⟨K,L,M⟩:=nX (n:=64) l (by omega) (by omega);refine⟨K,?_,M⟩;unfold Cr;dsimp only;rw[f];dsimp only;rw[j];dsimp only;rw[L]) F
 obtain⟨a5,N,O⟩:=GK (one:=Cs) (by omega) (λx c a r b=>by
  have:=v x c;simp only[rE,ay]at b;obtain⟨J,f,i⟩:=mC (lo:=0) (hi:=4) b (by omega) (by omega) (by omega) (by omega);obtain⟨o,j,l⟩:=mC (lo:=0) (hi:=1048576) i (by omega) (by omega) (by omega) (by omega);refine⟨o,?_,l⟩;unfold Cs;dsimp only;rw[f];dsimp only;rw[j]) H
 obtain⟨a6,P,Q⟩:=nX (n:=64) O (by omega) (by omega)
 obtain⟨a7,R,S⟩:=GK (one:=Cu) (by omega) (λx c a r b=>by
  have:=t x c;exact nX (n:=64) b (by omega) (by omega)) Q
 obtain⟨p,U,W⟩:=nX (n:=64) S (by omega) (by omega)
 have X:MG (fL e) true (0,0)=(e,p,0):=by
  unfold MG;dsimp only;rw[A];dsimp only;rw[C];dsimp only;rw[E];dsimp only;rw[G];dsimp only;rw[N];dsimp only;rw[P];dsimp only;rw[R];dsimp only;rw[U]
 refine⟨p,?_,GJ W⟩;unfold eL;rw[ck,X];dsimp only;rw[am q];rfl
def knN(ts:List Tm)(a:Int)(q:Nat)(k:Kn):Prop:=∃lk:Lk,pF lk=true/\lk.1=a/\lk.2.1=(q:Int)+1/\lk.2.2.1=k.2.2.1/\Nm ts k.1 (104,[Dn lk],())
def zq(ts:List Tm)(bk:Ln):Prop:=∀(a:Int)(q:Nat)(k:Kn),(dx bk a)[q]?=some k->knN ts a q k
theorem Bb(ts:List Tm):zq ts []:=λa q k h=>by simp[dx,aO,cz]at h
theorem zq.gr{K:Tm->Prop}{ts b:List Tm}{bk:Ln}(h:zq ts bk)(g:Gr K ts b):zq b bk:=λa q k c=>let⟨lk,e,f,i,j,l⟩:=h a q k c;⟨lk,e,f,i,j,g.nm l⟩
theorem GL{d:BL}(h:d.length=32):dJ (ak 32 0) d=d:=by
 unfold dJ;simp[h];rw[<-h,br]
theorem x_{lk:Lk}{k:Nat}{ts:List Tm}{m:KV}(h:Su (k+1) ts m)(a:pF lk=true):Nm (lZ lk ts m).2.1 (lZ lk ts m).1 (104,[Dn lk],()):=by
 unfold lZ;rw[am a];exact(yb h (kD (k:=104) (by decide) (by decide) (by have:=pZ a;unfold aB;omega))).2
theorem Py{lk:Lk}{bk:Ln}{k:Nat}{ts:List Tm}{m:KV}(h:Su (k+1) ts m)(c:pF lk=true)(n:lk.2.1=((dx bk lk.1).length:Int)+1)(f:zq ts bk):zq (lZ lk ts m).2.1 (Cp lk bk ts m):=by
 intro a q x b;have i:=x_ h c;have j:=(u_ (lk:=lk) h).gr;unfold Cp at b;rw[uY]at b;split at b
 ·rename_i e;subst e;rcases bI q (dx bk lk.1).length with g|g
  ·rw[bU g]at b;exact(f.gr j) _ q x b
  ·rw[aU g]at b
   have l:q-(dx bk lk.1).length=0:=by
    rcases jZ (q-(dx bk lk.1).length)with e|e
    ·exact e
    ·rw[bD (by simp;omega)]at b;cases b
   rw[l]at b;have b:=Option.some.inj b;subst b;refine⟨lk,c,rfl,by omega,rfl,?_⟩;show Nm _ (dJ _ _) _;rw[GL (i.len32 (by show(104:BitVec 8)≠98;decide) (by show(104:BitVec 8)≠103;decide))];exact i
 ·exact(f.gr j) a q x b
theorem y_{lk:Lk}{bk:Ln}{ts:List Tm}{m:KV}(h:(iV lk bk ts m).1=0):pF lk=true/\lk.2.1=((dx bk lk.1).length:Int)+1/\(fx bk lk.1).2.2.1=lk.2.2.2.1/\¬(0<(dx bk lk.1).length/\lk.2.2.1<((dx bk lk.1).getD ((dx bk lk.1).length-1) pu).2.2.1)/\(iV lk bk ts m).2=(ts,m):=by
 unfold iV at h⊢;split at h
 ·cases h
 rename_i a;split at h
 ·dsimp only at h;split at h<;>cases h
 rename_i e;split at h
 ·cases h
 rename_i f;split at h
 ·cases h
 rename_i b;split at h
 ·cases h
 rename_i c;rw[af a,af e,af f,af b,af c];exact⟨by simpa using a,by omega,aC.1 b,c,rfl⟩
theorem GM{lk:Lk}{bk:Ln}{k:Nat}{ts:List Tm}{m:KV}(h:Su (k+2) ts m)(b:zq ts bk):zq (oa lk bk ts m).2.2.1 (oa lk bk ts m).2.1:=by
 have a:=(v_ (lk:=lk) (bk:=bk) h).gr;unfold oa at a⊢;split
 ·rename_i g;obtain⟨c,e,_,_,f⟩:=y_ g;dsimp only;rw[f];exact Py (k:=k+1) h c e b
 ·rename_i g;rw[af g]at a;exact b.gr a
inductive Gd:List Lk->Prop
 |nil:Gd []
 |snoc {l:List Lk} {x:Lk}:Gd l->0<=x.1->x.1<5->1<=x.2.2.1->x.2.2.1<=65536->x.2.2.2.2.1.length=32->x.2.1=(l.countP (λy=>y.1==x.1):Int)+1->x.2.1<=1048576->Gd (l++[x])
theorem GN{b:BL}{au:Int}(h0:0<=au)(x:au<5):∀(k:Nat)(i last:Int)(s:Rs)(c:List Lk),bQ b s.1->i+k<=1048576->Gd c->i=(c.countP (λy=>y.1==au):Int)->
 bQ b (xY b true au k i last s c).2.1.1/\Gd (xY b true au k i last s c).2.2/\∀a:Int,a≠au->(xY b true au k i last s c).2.2.countP (λy=>y.1==a)=c.countP (λy=>y.1==a)
 |0,_,_,s,c,n,_,h,_=>⟨n,h,λ_ _=>rfl⟩
 |k+1,i,last,s,c,n,J,h,K=>by
  obtain⟨a,e⟩:=s;rw[uX];have o:=ni true e 32 n;generalize gC b a true e 32=t at*;dsimp only at o⊢;generalize l:(if t.1.length=32 then t.2.2 else if(true&&t.2.2==0)=true then 5 else t.2.2)=m at*;have A:=eQ true m 1 65536 o.1;have p:(cW b t.2.1 true m 1 65536).2.2=0->m=0/\1<=(cW b t.2.1 true m 1 65536).1/\(cW b t.2.1 true m 1 65536).1<=65536:=λq=>let z:=lu o.1 q;⟨z.1,z.2.2.2⟩
  generalize cW b t.2.1 true m 1 65536=u at*;rw[am (show(true=true)from rfl)];generalize j:(if u.1<last then(if(true&&u.2.2==0)=true then 5 else u.2.2)else u.2.2)=B at*;by_cases g:B=0
  ·rw[am g];rw[g]at j
   have D:u.2.2=0:=by
    split at j
    ·split at j
     ·cases j
     ·exact j
    ·exact j
   obtain⟨E,F,G⟩:=p D
   have H:t.1.length=32:=by
    by_cases q:t.1.length=32
    ·exact q
    ·exfalso;rw[af q,E]at l;split at l
     ·cases l
     ·rename_i w;apply w;rw[l];rfl
   have r:Gd (c++[(au,i+1,u.1,[],t.1,())]):=Gd.snoc h h0 x F G H (by dsimp only;omega) (by dsimp only;omega)
   have f:∀a:Int,(c++[((au,i+1,u.1,[],t.1,()):Lk)]).countP (λy=>y.1==a)=c.countP (λy=>y.1==a)+(if au=a then 1 else 0):=by
    intro a;rw[List.countP_append,List.countP_cons,List.countP_nil];simp
   have v:=GN h0 x k (i+1) u.1 (u.2.1,B) (c++[(au,i+1,u.1,[],t.1,())]) A.1 (by omega) r (by rw[f,am rfl];omega);refine⟨v.1,v.2.1,λa C=>?_⟩;rw[v.2.2 a C,f,af (λq=>C q.symm)];rfl
  ·rw[af g];exact⟨A.1,h,λ_ _=>rfl⟩
theorem GO{b:BL}:∀(k:Nat)(au:Int)(s:Rs)(c:List Lk),0<=au->au+k<=5->bQ b s.1->Gd c->(∀a:Int,au<=a->c.countP (λy=>y.1==a)=0)->Gd (rD b true k au s c).2.2
 |0,_,_,c,_,_,_,h,_=>h
 |k+1,au,s,c,g,j,i,h,e=>by
  simp only[rD];have f:=eQ true s.2 0 1048576 i;generalize cW b s.1 true s.2 0 1048576=n at*;have:=GN (b:=b) (au:=au) g (by omega) n.1.toNat 0 1 n.2 c f.1 (by have:=f.2.2;omega) h (by rw[e au (bY _)];rfl);generalize xY b true au n.1.toNat 0 1 n.2 c=r at*;split
  ·exact GO k (au+1) r.2.1 r.2.2 (by omega) (by omega) this.1 this.2.1 (λa l=>by rw[this.2.2 a (by omega),e a (by omega)])
  ·exact this.2.1
theorem z_{b:BL}{s:Rs}(h:bQ b s.1):Gd (r9 b true s).2.2:=GO 5 0 s [] (by omega) (by omega) h Gd.nil (λ_ _=>rfl)
theorem K9(bk:Ln)(a:Int):(xa bk a (dx bk a).length).1=(if(dx bk a).length=0 then[]else((dx bk a).getD ((dx bk a).length-1) pu).1):=by
 unfold xa;split
 ·rename_i h;rw[am (by omega)]
 ·rename_i h;rw[af (by omega)];dsimp only;rw[show(((dx bk a).length:Int)-1).toNat=(dx bk a).length-1 by omega]
theorem zr{bk:Ln}{a:Int}(h:0<=a/\a<5):(fx bk a).2.2.1=(if(dx bk a).length=0 then[]else((dx bk a).getD ((dx bk a).length-1) pu).1):=by
 unfold fx;rw[af (by omega)];exact K9 bk a
theorem A_{k:Nat}{ts:List Tm}{m:KV}:∀{l:List Lk},Gd l->Su (k+l.length) ts m->
 Ok gP k ts (mU l ts m).2/\zq (mU l ts m).2.1 (mU l ts m).1/\∀a,(dx (mU l ts m).1 a).length=l.countP (λy=>y.1==a):=by
 intro l h
 induction h generalizing k with
 |nil=>intro f;exact⟨Ok.refl f (by omega),Bb _,λa=>rfl⟩
 |@snoc l x F j n r s t u v A=>
  intro f;obtain⟨g,o,c⟩:=A (k:=k+1) (f.mono (by simp;omega));have e:mU (l++[x]) ts m=LU (mU l ts m) x:=by unfold mU;rw[List.foldl_append];rfl
  rw[e];generalize mU l ts m=z at*;have B:=zr (bk:=z.1) (a:=x.1) ⟨j,n⟩
  have C:pF (x.1,x.2.1,x.2.2.1,(fx z.1 x.1).2.2.1,x.2.2.2.2.1,())=true:=by
   unfold pF;refine decide_eq_true ⟨j,n,by show 1<=x.2.1;omega,v,r,s,t,?_⟩;dsimp only;rw[B];by_cases q:(dx z.1 x.1).length=0
   ·rw[am q];refine .inl ⟨?_,rfl⟩;rw[c]at q;omega
   ·rw[af q];refine .inr ?_
    have D:(dx z.1 x.1)[(dx z.1 x.1).length-1]?=some ((dx z.1 x.1).getD ((dx z.1 x.1).length-1) pu):=by
     rw[aw,ap (by omega)];rfl
    obtain⟨lk,_,_,_,_,E⟩:=o _ _ _ D;exact E.len32 (by show(104:BitVec 8)≠98;decide) (by show(104:BitVec 8)≠103;decide)
  unfold LU;dsimp only;generalize b:(x.1,x.2.1,x.2.2.1,(fx z.1 x.1).2.2.1,x.2.2.2.2.1,())=lk at*;have p:lk.1=x.1:=by rw[<-b]
  have i:lk.2.1=x.2.1:=by rw[<-b]
  refine⟨g.trans (u_ g.su),Py (k:=k) g.su C (by rw[i,p,c,u]) o,λa=>?_⟩;unfold Cp;rw[uY,List.countP_append,List.countP_cons,List.countP_nil,p];by_cases q:a=x.1
  ·subst q;rw[am rfl,aa,c];simp
  ·rw[af q,c];have:(x.1==a)=false:=by simpa using λw=>q w.symm
   rw[this];rfl
theorem B_{l:Lt}{lk:Lk}{t:BL}{i:Pg}{bk:Ln}{k:Nat}{ts:List Tm}{m:KV}{y:x9}(j:t.length<=5000)(b:Su (k+5000) ts m)(a:zq ts bk)(h:tZ l lk t i bk ts m y):zq y.2.2.2.1 y.2.2.1:=by
 have e:=(txP (k:=k) j b h).gr;unfold tZ at h;split at h
 ·obtain⟨⟨c,n⟩,f,_⟩:=h;rw[n]at e⊢;unfold Ds at e⊢;dsimp only at e⊢
  repeat' split
  ·exact a
  ·exact GM (k:=k+4998) b a
  ·exact GM (k:=k+4998) b a
 ·split at h
  ·rw[h];exact a
  ·obtain⟨w,o,p,f⟩:=h;rcases f with⟨_,_,q⟩|⟨_,r,_,u,_⟩
   ·rw[q];exact a.gr e
   ·rw[p,am r,u,o];have g:bQ t 0:=⟨by omega,by omega,by omega⟩;have v:=(Gk true 0 g).2;exact(A_ (k:=k) (z_ (s:=(0,0)) g) (b.mono (by omega))).2.1
theorem Ud{w:Cl}{l:Lt}{k:Nat}{ts:List Tm}{m:KV}{y:x9}(c:jR l=true)(h:Su (k+6000) ts m)(a:zq ts w.bk)(r:kr w l ts m y):zq y.2.2.2.1 y.2.2.1:=by
 have c:=(ez c).2.2.1;unfold kr at r;dsimp only at r;split at r
 ·rw[r];exact a
 split at r
 ·rw[r];exact a
 have e:=lcP (sg:=(gk (cS w.lg.2.1 l.2.2.1) l.2.1).1.2.2.1) (k:=k+5999) c h;split at r
 ·rw[r];exact a.gr e.gr
 generalize tV (gk (cS w.lg.2.1 l.2.2.1) l.2.1).1.2.2.1 l ts m=z at*;have b:=e.trans (knP (l:=l) (lk:=z.1.1) (la:=w.la) (bk:=w.bk) (k:=k+5998) e.su);generalize zl l z.1.1 w.la w.bk z.2.1 z.2.2=f at*;split at r
 ·rw[r];exact a.gr b.gr
 split at r
 ·rw[r];exact a.gr b.gr
 split at r
 ·rw[r];exact a.gr b.gr
 have g:=b.trans (loP (ep:=(aO Ty.i64 l.2.2.1 w.km).getD []) (l:=l) (k:=k+5997) b.su);have i:=(a_ (ep:=(aO Ty.i64 l.2.2.1 w.km).getD []) (l:=l) (k:=k+5997) f.2.2 b.su.k).2;generalize mW ((aO Ty.i64 l.2.2.1 w.km).getD []) l f.2.1 f.2.2=o at*;split at r
 ·rw[r];exact a.gr g.gr
 ·exact B_ (k:=k+900) (by omega) (g.su.mono (by omega)) (a.gr g.gr) r
theorem Lb{l l':Lk}(h:pF l=true)(h':pF l'=true)(e:Dn l=Dn l'):l=l':=by
 have a:=oH h;have j:=oH h';unfold Dn at e;simp only[ay]at e;obtain⟨b,e⟩:=eA (by omega) (by omega) (by omega) (by omega) e;obtain⟨c,e⟩:=eA (by omega) (by omega) (by omega) (by omega) e;obtain⟨f,e⟩:=eA (by omega) (by omega) (by omega) (by omega) e;rw[<-ay,<-ay (vn (l'.2.2.2.1.length:Int))]at e;obtain⟨g,e⟩:=jW (s:=l.2.2.2.1) (s':=l'.2.2.2.1) (by omega) (by omega) e;obtain⟨i,_⟩:=jW (s:=l.2.2.2.2.1) (s':=l'.2.2.2.2.1) (r:=[]) (r':=[]) (by omega) (by omega) (by simpa[tx]using e);obtain⟨m,n,o,p,q,⟨⟩⟩:=l;obtain⟨t,u,v,w,x,⟨⟩⟩:=l';dsimp only at b c f g i;subst b c f g i;rfl
def Wd.cl(w:Wd):Nat->Cl
 |0=>w.c0
 |1=>w.c1
 |2=>w.c2
 |3=>w.c3
 |_=>w.c4
def Wd.setC(w:Wd):Nat->Cl->Wd
 |0,c=>{w with c0:=c}
 |1,c=>{w with c1:=c}
 |2,c=>{w with c2:=c}
 |3,c=>{w with c3:=c}
 |_,c=>{w with c4:=c}
def Wd.aft(w:Wd)(i:Nat)(z:Cl×List Tm×KV):Wd:={w.setC i z.1 with ts:=z.2.1,m:=z.2.2}
def Wd.ky(w:Wd):Nat->KM
 |0=>w.k0
 |1=>w.k1
 |2=>w.k2
 |3=>w.k3
 |_=>w.k4
def Wd.setK(w:Wd):Nat->KM->Wd
 |0,c=>{w with k0:=c}
 |1,c=>{w with k1:=c}
 |2,c=>{w with k2:=c}
 |3,c=>{w with k3:=c}
 |_,c=>{w with k4:=c}
structure cR(w:Wd)(n:Nat):Prop where
 cl:∀i,i<5->ls (w.cl i)/\(w.cl i).c=i/\(w.cl i).fk.length+400*n+2000<=10000000
 ts:bO (10000*n+10000) w.ts
 sec:w.sec.length=5/\∀r∈w.sec,r.length=2/\∀s∈r,s.length<=64
 al:w.al.length=5/\pI w.al
 lg:cC w.lg.2.1 w.lg.2.2.1/\w.lg.2.1.length<=100000/\aB w.lg.1
 l5:∀e∈w.lg.2.1,e.2.2.1.length<=5
 go:w.go.length=5
 st:w.st.length<=1000/\w.ln.length=w.st.length/\∀b∈w.st,b.length<=2000000
 dr:0<=w.d/\w.d+2*n<=1000000
def Wd.se(w:Wd)(i j:Nat):BL:=(w.sec.getD i (ak 2 [])).getD j []
def GP(x:Et)(i:Int)(sec:BL)(ts:List Tm):List Mb->KM->KM
 |[],a=>a
 |p::r,a=>GP x i sec ts r (if p.1=i then cD (kt:= .i64) x.1 (lM x i sec (dC ts).1 (dC ts).2).1.1 a else a)
def fj(b:BL)(i:Int)(r:Int×Nw)(w:Wd):Wd:=
 if r.1=0/\r.2.1=1 then w.setK i.toNat (GP (eL b true (0,0)).1 i (w.se i.toNat 0) w.ts (eL b true (0,0)).1.2.2.1 (w.ky i.toNat))else w
def jw(w:Wd)(i:Int)(b:BL)(y:(Int×Nw)×Wd):Prop:=
 ∃r:Ir,nW (w.cl i.toNat) b w.ts w.m r/\y=(r.1,fj b i r.1 (w.aft i.toNat r.2))
theorem fo{i:Nat}(h:i<5):i=0\/i=1\/i=2\/i=3\/i=4:=by omega
theorem zs(w:Wd)(c:Cl){i j:Nat}(hi:i<5)(a:j<5):(w.setC i c).cl j=if j=i then c else w.cl j:=by
 rcases fo hi with rfl|rfl|rfl|rfl|rfl<;>rcases fo a with rfl|rfl|rfl|rfl|rfl<;>rfl
theorem GQ(w:Wd)(c:KM){i j:Nat}(hi:i<5)(a:j<5):(w.setK i c).ky j=if j=i then c else w.ky j:=by
 rcases fo hi with rfl|rfl|rfl|rfl|rfl<;>rcases fo a with rfl|rfl|rfl|rfl|rfl<;>rfl
theorem eG(w:Wd)(i:Nat)(c:Cl):(w.setC i c).sec=w.sec/\(w.setC i c).al=w.al/\(w.setC i c).go=w.go/\(w.setC i c).d=w.d/\(w.setC i c).lg=w.lg/\(w.setC i c).st=w.st/\(w.setC i c).ln=w.ln/\(w.setC i c).ts=w.ts/\(w.setC i c).m=w.m/\∀j,(w.setC i c).ky j=w.ky j:=by
 unfold Wd.setC;split<;>exact⟨rfl,rfl,rfl,rfl,rfl,rfl,rfl,rfl,rfl,λ_=>rfl⟩
theorem oQ(w:Wd)(i:Nat)(c:KM):(w.setK i c).sec=w.sec/\(w.setK i c).al=w.al/\(w.setK i c).go=w.go/\(w.setK i c).d=w.d/\(w.setK i c).lg=w.lg/\(w.setK i c).st=w.st/\(w.setK i c).ln=w.ln/\(w.setK i c).ts=w.ts/\(w.setK i c).m=w.m/\∀j,(w.setK i c).cl j=w.cl j:=by
 unfold Wd.setK;split<;>exact⟨rfl,rfl,rfl,rfl,rfl,rfl,rfl,rfl,rfl,λ_=>rfl⟩
theorem cR.mono{w:Wd}{n k:Nat}(h:cR w n)(b:k<=n):cR w k:=
 ⟨λi a=>⟨(h.cl i a).1,(h.cl i a).2.1,by have:=(h.cl i a).2.2;omega⟩,h.ts.mono (by omega),h.sec,h.al,h.lg,h.l5,h.go,h.st,⟨h.dr.1,by have:=h.dr.2;omega⟩⟩
theorem GR{w:Wd}{n i:Nat}{c:KM}(h:cR w n):cR (w.setK i c) n:=by
 obtain⟨e,f,g,l,b,m,o,p,r,a⟩:=oQ w i c;exact⟨λj q=>by rw[a];exact h.cl j q,by rw[p];exact h.ts,by rw[e];exact h.sec,by rw[f];exact h.al,by rw[b];exact h.lg,by rw[b];exact h.l5,by rw[g];exact h.go,by rw[m,o];exact h.st,by rw[l];exact h.dr⟩
theorem vq{w:Wd}{n i:Nat}{b:BL}{r:Ir}(h:cR w (n+1))(hi:i<5)(f:nW (w.cl i) b w.ts w.m r):cR (w.aft i r.2) n:=by
 unfold Wd.aft;obtain⟨l,o,p,s,c,t,u,z,A,v⟩:=eG w i r.2.1;obtain⟨x,y,B⟩:=h.cl i hi;have q:=r_ (k:=10000*n+10000) x (h.ts.mono (by omega)) f;refine⟨λj a=>?_,q.2.2.1,by dsimp only;rw[l];exact h.sec,by dsimp only;rw[o];exact h.al,by dsimp only;rw[c];exact h.lg,by dsimp only;rw[c];exact h.l5,by dsimp only;rw[p];exact h.go,by dsimp only;rw[t,u];exact h.st,by dsimp only;rw[s];exact⟨h.dr.1,by have:=h.dr.2;omega⟩⟩
 have e:Wd.cl {w.setC i r.2.1 with ts:=r.2.2.1,m:=r.2.2.2} j=(w.setC i r.2.1).cl j:=by
  rcases fo a with rfl|rfl|rfl|rfl|rfl<;>rfl
 rw[e,zs w r.2.1 hi a];split
 ·rename_i g;subst g;exact⟨q.1,q.2.2.2.1.trans y,by omega⟩
 ·have:=h.cl j a;exact⟨this.1,this.2.1,by omega⟩
theorem Bc{ts:List Tm}(h:∀t∈ts,eI t):(∀t∈(dC ts).1,eI t)/\(dC ts).1.length<=ts.length:=by
 have key:∀(l:List Tm)(z:List Tm×KV),(∀t∈l,eI t)->(∀t∈z.1,eI t)->(∀t∈(l.foldl (λa t=>(jA t a.1 a.2).2) z).1,eI t):=by
  intro l
  induction l with
  |nil=>intro z _ c;exact c
  |cons a r f=>
   intro z e c;rw[List.foldl_cons];refine f _ (λt b=>e t (aA _ b)) ?_;unfold jA;split
   ·intro t b;rcases bb.1 b with b|b
    ·exact c t b
    ·simp at b;subst b;exact e a (aG ..)
   ·exact c
 refine⟨key ts _ h (λt b=>by simp at b),?_⟩;have:=yR ts ts.length (aD _);rw[br]at this;exact this
theorem Pz{w:Wd}{n:Nat}(h:cR w n)(i j:Nat):(w.se i j).length<=64:=by
 unfold Wd.se;rcases bI i w.sec.length with g|g
 ·have b:=h.sec.2 _ (aS (z:=ak 2 []) g);rcases bI j (w.sec.getD i (ak 2 [])).length with a|a
  ·exact b.2 _ (aS a)
  ·rw[aw (l:=w.sec.getD i _),bD a];simp
 ·rw[aw (l:=w.sec),bD g,Option.getD_none];rcases j with _|_|j<;>simp
theorem qi{w:Wd}{n:Nat}(h:cR w n){i:Int}(b:BL)(hi:0<=i/\i<5):∃y,jw w i b y:=by
 obtain⟨r,a⟩:=Gp (w.cl i.toNat) b w.ts w.m (h.cl i.toNat (by omega)).1.2.2.2.2.1;exact⟨_,r,a,rfl⟩
theorem iA{w:Wd}{n:Nat}{i:Int}{b:BL}{y:(Int×Nw)×Wd}(h:cR w (n+1))(hi:0<=i/\i<5)(a:jw w i b y):cR y.2 n:=by
 obtain⟨r,a,rfl⟩:=a;have:=vq h (show i.toNat<5 by omega) a;unfold fj;dsimp only;split
 ·exact GR this
 ·exact this
theorem xA{w:Cl}{b:BL}{ts:List Tm}{m:KV}{r:Ir}(h:nW w b ts m r)(h0:r.1.1=0)(a:r.1.2.1=1):ig (eL b true (0,0)).1=true/\cK b (eL b true (0,0)).2.1 true (eL b true (0,0)).2.2=0:=by
 unfold nW at h;dsimp only at h;split at h
 ·rw[h]at h0;exact absurd h0 (by show¬((2:Int)=0);decide)
 rename_i l;have e:bQ b 0:=⟨by omega,by omega,by omega⟩;split at h
 ·rename_i g;rw[h]at h0;exact absurd h0 g
 split at h
 ·split at h
  ·rename_i g;rw[h]at h0;exact absurd h0 g
  ·rename_i g;have g:=aC.1 g;exact⟨((vm e).2 g).2,g⟩
 ·split at h
  ·rename_i g;rw[h]at h0;exact absurd h0 g
  ·rename_i g;have i:=(ez ((Dt e).2 (aC.1 g)).2).1.1;obtain⟨z,f,n,o,p,c,j⟩:=h;rw[j]at h0 a;unfold xz at c;have h0:z.1=0:=h0;rw[am h0]at c;have a:n.1=1:=a;exact absurd (a.symm.trans c.1) (λq=>by rw[<-q]at i;exact absurd i (by decide))
def bxH(j:Nat):List (Option CP):=[some (.cells [.ptr j 0])]
def n2C:Ct:=⟨1,⟨[(0,false,[.ptr 0 0])],bxH 1++iK 1⟩,[⟨[sS 0 4],bxH 1++iK 1++iK 4⟩],λ(d,a,m,_)=>one (eC a) (d,a,m,d,(dC a).1,(dC a).2,())⟩
def C_:bw:=(33,[n2C])::Pu
theorem a3y:KK C_:=kA p' (cE n2C 0) (∀(b:Int)(a:List Tm)(c:KV)Q,bd n2C (b,a,c,()) Q->eC a/\Q ⟨0,b,a,c,b,(dC a).1,(dC a).2,()⟩) (by
 unfold bd;intro d b m Q ⟨h,a⟩;exact⟨h,a⟩)
def C':List (Option CP):=[some (.cells [.ifc 96 1 0, .fn 33 [] [(3,0)], .d (.ar 5 (.ar 2 tB)), .d (.ar 5 iL), .ptr 4 0, .ptr 6 0, .ptr 8 0, .ptr 10 0, .ptr 12 0, .mp 14, .mp 15, .mp 16, .mp 17, .mp 18, .ptr 19 0, .d (.ar 5 .bl), .own 31, .own 32])]++((Gx 33).drop 1).take 30++[some (.sl tB),some (.sl .i64)]++(pN 33).take 11
theorem Wd.all2{F:List (List BL)->List Mb->List Bool->Int->KV->CW.den->CX.den->KM->CW.den->CX.den->KM->CW.den->CX.den->KM->CW.den->CX.den->KM->CW.den->CX.den->KM->KM->KM->KM->KM->KM->Lg->List BL->List Int->List Tm->Ln->Ln->Ln->Ln->Ln->Prop}
 (h:∀w:Wd,F w.sec w.al w.go w.d w.m (cA w.c0) (nn w.c0) w.c0.km (cA w.c1) (nn w.c1) w.c1.km (cA w.c2) (nn w.c2) w.c2.km (cA w.c3) (nn w.c3) w.c3.km (cA w.c4) (nn w.c4) w.c4.km w.k0 w.k1 w.k2 w.k3 w.k4 w.lg w.st w.ln w.ts w.c0.bk w.c1.bk w.c2.bk w.c3.bk w.c4.bk):
 ∀E G H J K L M N O a b c e f g i j l n o p q r s t u v x y z A B C D,F E G H J K L M N O a b c e f g i j l n o p q r s t u v x y z A B C D:=λE G H J K L M N O a b c e f g i j l n o p q r s t u v x y z A B C D=>h (bV (E,G,H,J,K,L,M,N,O,a,b,c,e,f,g,i,j,l,n,o,p,q,r,s,t,u,y,z,A,B,C,D,v,x,()))
def CZ:Ct:=⟨3,⟨[sP 0,sI 1,sB 2],gb⟩,[⟨[(0,true,[.d Du])],C'⟩],λ(i,b,a)=>eD (0<=i/\i<5/\b.length<=10000000/\∃n,cR (bV a) (n+1)) (jw (bV a) i b) λy=>((y.1.1,0,y.1.2),TW y.2)⟩
def D_:cg:=⟨[sP 0,sI 1,sB 2,(6,false,[.ptr 44 0]),(7,false,[.ptr 45 0]),sI 8],C'++[some (.cells [.d Du]),some (.cells [.d Gb])]⟩
def zt(x:CZ.inp.den)(y:D_.den):Prop:=match x,y with
 |(i,b,a),(j,c,L,M,N,O,P,Q,R,S,U,W,e,f,g,h,l,n,o,p,q,s,t,u,v,w,z,A,B,C,D,E,F,G,H,J,K,Y,X,_)=>j=i/\c=b/\∃r,nW ((bV a).cl i.toNat) b (bV a).ts (bV a).m r/\(L,X)=r.1/\(bV (M,N,O,P,Q,R,S,U,W,e,f,g,h,l,n,o,p,q,s,t,u,v,w,z,A,B,E,F,G,H,J,K,C,D,()))=(bV a).aft i.toNat r.2
def D':cg:=⟨[sP 0,sI 1,(6,false,[.ptr 44 0]),(7,false,[.ptr 45 0]),sI 8,(9,false,[.ptr 46 0]),(38,false,[.d (.sl iL)]),sI 39,sI 40],C'++[some (.cells [.d Du]),some (.cells [.d Gb]),some (.cells [.d oI])]⟩
def vr(x:CZ.inp.den)(y:D'.den):Prop:=match x,y with
 |(i,b,c),(j,Q,a,n,k,R,S,U,W,X,Y,b7,b8,b9,f,g,h,l,o,p,s,t,u,v,z,A,B,C,D,E,F,G,H,J,K,L,M,N,O,sn,nw,e,_)=>j=i/\e=(eL b true (0,0)).1/\a=e.2.2.1/\n=a.length/\(∃r w,nW ((bV c).cl i.toNat) b (bV c).ts (bV c).m r/\(Q,nw)=r.1/\r.1.1=0/\r.1.2.1=1/\w=(bV c).aft i.toNat r.2/\
  ∃q:Nat,k=q/\q<=a.length/\∃P,(bV (R,S,U,W,X,Y,b7,b8,b9,f,g,h,l,o,p,s,t,u,v,z,A,B,C,D,E,F,J,K,L,M,N,O,G,H,()))=w.setK i.toNat P/\GP e i (w.se i.toNat 0) w.ts (a.drop q) P=GP e i (w.se i.toNat 0) w.ts a (w.ky i.toNat))
def a3z(x:CZ.inp.den):dB:=⟨[(5,bK D' (vr x) λ(_,_,_,n,k,_)=>(n-k).toNat)],[(2,bK D_ (zt x) λ_=>0)],[],[(1,1,5),(8,1,5)],0⟩
abbrev GS(v:(Int×Int×Nw)×TZ Unit):cw CZ.out:=⟨0,v⟩
def PA:bw:=(41,[CZ])::C_
theorem E_:KK PA:=kA a3y a3z (∀(p:Int)(c:BL),WA λF a4 a5 a6 a7 e k r f l s g m t h n u i o v a8 a9 b0 b1 b2 b3 q w z a0 a1 a2 b4 b5=>let j5:=Cl.mk f.1 f.2.1 f.2.2.1 f.2.2.2.1 l.1 l.2.1 l.2.2.1 s z;let j6:=Cl.mk e.1 e.2.1 e.2.2.1 e.2.2.2.1 k.1 k.2.1 k.2.2.1 r w;let z9:=Cl.mk i.1 i.2.1 i.2.2.1 i.2.2.2.1 o.1 o.2.1 o.2.2.1 v a2;let z8:=Cl.mk h.1 h.2.1 h.2.2.1 h.2.2.2.1 n.1 n.2.1 n.2.2.1 u a1;let z7:=Cl.mk g.1 g.2.1 g.2.2.1 g.2.2.2.1 m.1 m.2.1 m.2.2.1 t a0;let z1:=(a4,a5,a6,a7,e,k,r,f,l,s,g,m,t,h,n,u,i,o,v,a8,a9,b0,b1,b2,b3,q,w,z,a0,a1,a2,b4,b5,());let A:=(p,c,F,z1);∀(Q:cw CZ.out->Prop),(Tr.need (0<=p/\p<5/\c.length<=10000000/\∃p,cR (bV (F,z1)) (p+1)) (Tr.all ((Int×Nw)×Wd) (jw (bV (F,z1)) p c) λy=>Tr.leaf (GS ((y.1.1,0,y.1.2),TW y.2)))).sat Q->((0<=p/\p<5)/\((((True/\(p=0->(c.length<=10000000/\ls j6/\ah k.2.2.1+2000<=10000000/\bO 10000 q)/\∀(b:(Int×Nw)×Cl×List Tm×KV),nW j6 c q a7 b->Is (zt A (0,c,b.1.1,F,a4,a5,a6,b.2.2.2,(b.2.1.c,b.2.1.se,b.2.1.sg,b.2.1.lg,()),(b.2.1.pg,b.2.1.la,b.2.1.fk,()),b.2.1.km,f,l,s,g,m,t,h,n,u,i,o,v,a8,a9,b0,b1,b2,b3,b4,b5,b.2.2.1,b.2.1.bk,z,a0,a1,a2,(0,0,0,0,0,0,false,false,[],()),b.1.2,()))))/\(p=1->(c.length<=10000000/\ls j5/\ah l.2.2.1+2000<=10000000/\bO 10000 q)/\∀(b:(Int×Nw)×Cl×List Tm×KV),nW j5 c q a7 b->Is (zt A (1,c,b.1.1,F,a4,a5,a6,b.2.2.2,e,k,r,(b.2.1.c,b.2.1.se,b.2.1.sg,b.2.1.lg,()),(b.2.1.pg,b.2.1.la,b.2.1.fk,()),b.2.1.km,g,m,t,h,n,u,i,o,v,a8,a9,b0,b1,b2,b3,b4,b5,b.2.2.1,w,b.2.1.bk,a0,a1,a2,(0,0,0,0,0,0,false,false,[],()),b.1.2,()))))/\(p=2->(c.length<=10000000/\ls z7/\ah m.2.2.1+2000<=10000000/\bO 10000 q)/\∀(b:(Int×Nw)×Cl×List Tm×KV),nW z7 c q a7 b->Is (zt A (2,c,b.1.1,F,a4,a5,a6,b.2.2.2,e,k,r,f,l,s,(b.2.1.c,b.2.1.se,b.2.1.sg,b.2.1.lg,()),(b.2.1.pg,b.2.1.la,b.2.1.fk,()),b.2.1.km,h,n,u,i,o,v,a8,a9,b0,b1,b2,b3,b4,b5,b.2.2.1,w,z,b.2.1.bk,a1,a2,(0,0,0,0,0,0,false,false,[],()),b.1.2,()))))/\(p=3->(c.length<=10000000/\ls z8/\ah n.2.2.1+2000<=10000000/\bO 10000 q)/\∀(b:(Int×Nw)×Cl×List Tm×KV),nW z8 c q a7 b->Is (zt A (3,c,b.1.1,F,a4,a5,a6,b.2.2.2,e,k,r,f,l,s,g,m,t,(b.2.1.c,b.2.1.se,b.2.1.sg,b.2.1.lg,()),(b.2.1.pg,b.2.1.la,b.2.1.fk,()),b.2.1.km,i,o,v,a8,a9,b0,b1,b2,b3,b4,b5,b.2.2.1,w,z,a0,b.2.1.bk,a2,(0,0,0,0,0,0,false,false,[],()),b.1.2,()))))/\(p=4->(c.length<=10000000/\ls z9/\ah o.2.2.1+2000<=10000000/\bO 10000 q)/\∀(b:(Int×Nw)×Cl×List Tm×KV),nW z9 c q a7 b->Is (zt A (4,c,b.1.1,F,a4,a5,a6,b.2.2.2,e,k,r,f,l,s,g,m,t,h,n,u,(b.2.1.c,b.2.1.se,b.2.1.sg,b.2.1.lg,()),(b.2.1.pg,b.2.1.la,b.2.1.fk,()),b.2.1.km,a8,a9,b0,b1,b2,b3,b4,b5,b.2.2.1,w,z,a0,a1,b.2.1.bk,(0,0,0,0,0,0,false,false,[],()),b.1.2,()))))/\∀(j2:Int)(f7:BL)(f5:Int),WB λf8 f9 g0 g1 g2 g3 g4 g5 g6 g7 g8 g9 h0 h1 h2 h3 h4 h5 h6 h7 h8 h9 i0 i1 i2 i3 i4 i5 i6 i7 i8 i9 j0 j1=>∀(j3:Int×Int×Nw)(f6:Nw),let z4:=GS ((f5,0,f6),f8,f9,g0,g1,g2,g3,g4,g5,g6,g7,g8,g9,h0,h1,h2,h3,h4,h5,h6,h7,h8,h9,i0,i1,i2,i3,i4,i5,i6,i7,i8,i9,j0,j1,());zt A (j2,f7,f5,f8,f9,g0,g1,g2,g3,g4,g5,g6,g7,g8,g9,h0,h1,h2,h3,h4,h5,h6,h7,h8,h9,i0,i1,i2,i3,i4,i5,i6,i7,i8,i9,j0,j1,j3,f6,())->Br (f5==0) (Br (f6.1==1) (f7.length<=1099511627776/\bQ f7 0/\∀b,b=eL f7 true (0,0)->Is (vr A (j2,f5,b.1.2.2.1,nI b.1.2.2.1,0,f8,f9,g0,g1,g2,g3,g4,g5,g6,g7,g8,g9,h0,h1,h2,h3,h4,h5,h6,h7,h8,h9,i0,i1,i2,i3,i4,i5,i6,i7,i8,i9,j0,j1,j3,f6,b.1,()))/\∀(D G:Int)(E:List Mb)(x d:Int),let k2:=(gD E d (0,[],[],())).1==D;let B:=x-(d+1);WB λC H J K L M N O P R S U W X Y d5 d6 d7 d8 d9 e0 e1 e2 e3 e4 e5 e6 e7 j e8 e9 f0 f1 f2=>let j7:=(C.getD 4 (ak 2 [])).getD 0 [];let j8:=(C.getD 3 (ak 2 [])).getD 0 [];let j9:=(C.getD 2 (ak 2 [])).getD 0 [];let k0:=(C.getD 1 (ak 2 [])).getD 0 [];let k1:=(C.getD 0 (ak 2 [])).getD 0 [];∀(f4:Int×Int×Nw)(f3:Nw)(a:Et),let z3:=(e5,e6,e7,j,e8,e9,f0,f1,f2,f4,f3,a,());let j4:=(e2,e3,e4,z3);let z6:=(C,H,J,K,L,M,N,O,P,R,S,U,W,X,Y,d5,d6,d7,d8,d9,e0,e1,j4);let z2:=gg a/\ah (fq a)<=100000000/\(∀(b:BL),b∈a.2.2.2.2.2.1->aB b)/\aB a.2.2.2.2.1/\bO 2 (dC j).1;vr A (D,G,E,x,d,z6)->Bd (d<x) (iN d E/\Br k2 ((0<=D/\D<5)/\((((True/\(D=0->eC j/\(aB k1/\z2)/\∀b,b=lM a 0 k1 (dC j).1 (dC j).2->ac (d+1)/\Is (vr A (0,G,E,x,d+1,C,H,J,K,L,M,N,O,P,R,S,U,W,X,Y,d5,d6,d7,d8,d9,dD Ty.i64 a.1 b.1.1 e0,e1,j4)/\lN B (x-d))))/\(D=1->eC j/\(aB k0/\z2)/\∀b,b=lM a 1 k0 (dC j).1 (dC j).2->ac (d+1)/\Is (vr A (1,G,E,x,d+1,C,H,J,K,L,M,N,O,P,R,S,U,W,X,Y,d5,d6,d7,d8,d9,e0,dD Ty.i64 a.1 b.1.1 e1,j4)/\lN B (x-d))))/\(D=2->eC j/\(aB j9/\z2)/\∀b,b=lM a 2 j9 (dC j).1 (dC j).2->ac (d+1)/\Is (vr A (2,G,E,x,d+1,C,H,J,K,L,M,N,O,P,R,S,U,W,X,Y,d5,d6,d7,d8,d9,e0,e1,dD Ty.i64 a.1 b.1.1 e2,e3,e4,z3)/\lN B (x-d))))/\(D=3->eC j/\(aB j8/\z2)/\∀b,b=lM a 3 j8 (dC j).1 (dC j).2->ac (d+1)/\Is (vr A (3,G,E,x,d+1,C,H,J,K,L,M,N,O,P,R,S,U,W,X,Y,d5,d6,d7,d8,d9,e0,e1,e2,dD Ty.i64 a.1 b.1.1 e3,e4,z3)/\lN B (x-d))))/\(D=4->eC j/\(aB j7/\z2)/\∀b,b=lM a 4 j7 (dC j).1 (dC j).2->ac (d+1)/\Is (vr A (4,G,E,x,d+1,C,H,J,K,L,M,N,O,P,R,S,U,W,X,Y,d5,d6,d7,d8,d9,e0,e1,e2,e3,dD Ty.i64 a.1 b.1.1 e4,z3)/\lN B (x-d)))) (ac (d+1)/\Is (vr A (D,G,E,x,d+1,z6)/\lN B (x-d)))) (Q ⟨0,(G,0,f3),C,H,J,K,L,M,N,O,P,R,S,U,W,X,Y,d5,d6,d7,d8,d9,e0,e1,e2,e3,e4,e5,e6,e7,j,e8,e9,f0,f1,f2,()⟩)) (Q z4)) (Q z4)) (by
 conv=>zeta
 unfold Bd Br WA WB gD iN lN nI TW;intro i b;refine Wd.all λw=>?_;intro Q ⟨⟨W,X,h3,n,s⟩,hQ⟩;have s:cR w (n+1):=s;have M:∀y:(Int×Nw)×Wd,jw w i b y->Q ⟨0,((y.1.1,0,y.1.2),TW y.2)⟩:=λy h=>hQ y h;clear hQ;have Y:b.length<=1099511627776:=by omega
 have C:bQ b 0:=⟨Y,by omega,by omega⟩;have a:∀q<5,b.length<=10000000/\ls (w.cl q)/\(w.cl q).fk.length+2000<=10000000/\bO 10000 w.ts:=λq M=>⟨h3,(s.cl q M).1,by have:=(s.cl q M).2.2;omega,s.ts.mono (by omega)⟩;refine⟨⟨⟨W,X⟩,⟨⟨⟨⟨trivial,λe=>⟨a 0 (by omega),λr C=>?_⟩⟩,λe=>⟨a 1 (by omega),λr C=>?_⟩⟩,λe=>⟨a 2 (by omega),λr C=>?_⟩⟩,λe=>⟨a 3 (by omega),λr C=>?_⟩⟩,λe=>⟨a 4 (by omega),λr C=>?_⟩⟩,?_⟩
 all_goals try (subst e;exact⟨rfl,rfl,r,C,rfl,rfl⟩)
 intro j c N;refine Wd.all2 λv=>?_;rintro sn O ⟨rfl,rfl,r,t,e3,P⟩;have P:v=w.aft j.toNat r.2:=P;obtain⟨⟨D,E⟩,rc⟩:=r;have F:N=D:=aH ga e3;have G:O=E:=aH Prod.snd e3;subst F G;have J:cR v n:=by rw[P];exact vq s (by omega) t
 have fin:∀z,fj c j (N,O) v=z->Q ⟨0,((N,0,O),TW z)⟩:=λz hz=>M ((N,O),z) ⟨_,t,by rw[<-hz,P]⟩;have out:¬(N=0/\O.1=1)->Q ⟨0,((N,0,O),TW v)⟩:=λg=>fin v (af g);refine⟨λx=>⟨λA=>⟨Y,C,λe he=>⟨⟨rfl,by rw[he],rfl,rfl,_,v,t,rfl,aZ x,aZ A,P,0,rfl,aq _,v.ky j.toNat,?_,rfl⟩,?_⟩⟩,λA=>out λg=>aE A g.2⟩,λx=>out λg=>aE x g.1⟩
 ·rcases fo (show j.toNat<5 by omega)with q|q|q|q|q<;>rw[q]<;>rfl
 clear out fin P e3 t J x A;intro K m ms n2 k;refine Wd.all2 λu=>?_;rintro a4 o R ⟨rfl,f0,rfl,rfl,r2,f,p,f3,x,A,S,q,rfl,a5,km,U,B⟩;have U:u=f.setK K.toNat km:=U;have S:f=w.aft K.toNat r2.2:=S;have J:cR f n:=by rw[S];exact vq s (by omega) p
 obtain⟨⟨D,E⟩,a6⟩:=r2;have F:m=D:=aH ga f3;have G:o=E:=aH Prod.snd f3;subst F G;have hx:=fy (xA p x A).1
 have out:∀z,f.setK K.toNat (GP R K (f.se K.toNat 0) f.ts R.2.2.1 (f.ky K.toNat))=z->Q ⟨0,((m,0,o),TW z)⟩:=λz hz=>M ((m,o),z) ⟨_,p,by
  rw[<-S];show _=((m,o),fj c K (m,o) f);unfold fj;rw[am ⟨x,A⟩,<-f0,hz]⟩
 rw[<-f0]at hx;clear M f3 a;obtain⟨o1,o2,o3,o4,o5,o6,o7⟩:=hx;have ek:((q:Int).toNat)=q:=by omega
 rw[ek];refine⟨λa0=>?_,λa1=>?_⟩
 ·have L:q<R.2.2.1.length:=by simp only[ai]at a0;omega
  have a2:bO 2 (dC f.ts).1:=⟨(Bc J.ts.1).1,by have:=(Bc J.ts.1).2;have:=J.ts.2;omega⟩;have a3:∀i j,aB (f.se i j):=λi j=>bq (Pz J i j) (by decide);have ht:=J.ts.ok;have a7:R.2.2.1.length<=1000000:=o1.1;have hI:ac ((q:Int)+1):=by unfold ac;omega
  rw[cZ (z:=((0,[],[],()):Mb)) L]at B;simp only[GP]at B;generalize R.2.2.1.getD q (0,[],[],())=H at*;refine⟨by omega,λg=>⟨⟨W,X⟩,⟨⟨⟨⟨trivial,λe=>?_⟩,λe=>?_⟩,λe=>?_⟩,λe=>?_⟩,λe=>?_⟩,λg=>⟨hI,⟨rfl,f0,rfl,rfl,_,f,p,rfl,x,A,S,q+1,rfl,L,km,U,by rw[af (aE g)]at B;exact B⟩,by omega⟩⟩
  all_goals
   rw[am (aZ g)]at B;subst e;subst U;refine⟨ht,⟨a3 _ 0,o1,o3,o6,o7,a2⟩,λb Y=>⟨hI,⟨rfl,f0,rfl,rfl,_,f,p,rfl,x,A,S,q+1,rfl,L,_,rfl,by rw[Y];exact B⟩,by omega⟩⟩
 ·have hd:R.2.2.1.drop q=[]:=bC (by simp only[aj]at a1;omega);rw[hd]at B;exact out u (by rw[U,<-B];rfl)) (l:=λ_=>aM λh=>by obtain⟨W,X,_,n,s⟩:=h;exact qi s _ ⟨W,X⟩)
end Go.Tp
