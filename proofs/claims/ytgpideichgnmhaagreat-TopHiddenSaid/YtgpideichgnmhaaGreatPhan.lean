/- A part of the proof of TopHiddenSaid: no conditions; packed by a program of our own. -/
import Derived.Test.YtgpideichgnmhaaGreatPhaf
import Derived.Test.YtgpideichgnmhaaGreatPham
import Derived.Test.YtgpideichgnmhaaGreatPhal
import Derived.Test.YtgpideichgnmhaaGreatRows
set_option linter.defProp false
set_option linter.unusedVariables false
set_option linter.unusedSimpArgs false
open And renaming intro→ck
open BitVec renaming ofNat→ag
open Bool renaming and_eq_true→aK,not_eq_true'→aR,or_eq_true→jb,not_eq_false'→aN
open Decidable renaming not_not→aA
open HSub renaming hSub→bO
open Int renaming toNat_natCast→aG,eq_ofNat_of_zero_le→bo,le_refl→bp
open LE renaming le→aX
open List renaming map_cons→aY,replicate→ax,length_append→aa,length_cons→bc,append_assoc→ay,mem_append→ba,drop_of_length_le→bu,nil_append→eO,take_of_length_le→bb,append_nil→aH,mem_cons→bm,getElem?_eq_getElem→an,getElem?_append_left→bq,getElem?_append_right→aJ,length_take→bd,getElem?_take→pz,length→ah,range→fo,getD_eq_getElem?_getD→aw,getElem?_eq_none→be,map_append→dL,length_map→cG,mem_map→fI,foldl_cons→nu,range'→mG,mem_cons_self→aF,mem_cons_of_mem→aD,all_eq_true→cH,mem_of_getElem?→mH,getElem?_eq_some_iff→cq,getElem_mem→ls,mem_singleton→bV,length_singleton→bi,take_add_one→dR,take_length→bv,length_eq_zero_iff→ju,length_set→cI
open Nat renaming add_comm→fq,le_refl→aE,le_trans→bE,zero_le→aq,lt_or_ge→br,eq_zero_or_pos→dP
open Prod renaming ext→ga
open UInt8 renaming ofBitVec→iX
namespace Go.Tp
open Go.Hv Go.Proofs Go.Proofs.YtgpideichgnmhaaGreat Go.RowKit Go.ChangeShapes Go.WideShapes
set_option maxRecDepth 100000
set_option maxHeartbeats 0
variable{b n:Nat}{A:Nat->Prop}{P:Program}{T:Ty}{v:Value}{W:World}
section
theorem Np:ownKnob Tryz.prog.godebug=none:=dC
theorem Do:laidOutB Tryz.prog=true:=dC
theorem a0n:mapsRowed Tryz.prog=true:=dC
theorem SA:Tryz.prog.stopsHeard=true:=dC
theorem SB:Tryz.prog.mayEnter=true:=dC
section
variable{H:Type}{enc:TypeId×Value->H}{W:World}
theorem I4:yH enc Tryz.prog W 32 tB:=wr (e:=5) (ce:=1) dC dC bt (PY dC)
theorem mz:yH enc Tryz.prog W 3 .i64:=Ku dC
theorem Pd:yH enc Tryz.prog W 9 .st:=PZ dC
theorem SC:yH enc Tryz.prog W 34 TK:=
 ti (ps:=[(3,0),(3,1),(3,2),(3,3),(32,4),(32,5),(32,6)]) dC dC
  (.cons mz (.cons mz (.cons mz (.cons mz (.cons I4 (.cons I4 (.cons I4 .nil))))))) dC
theorem SD:yH enc Tryz.prog W 36 Bv:=
 ti (ps:=[(3,0),(3,1),(3,2),(3,3),(3,4),(3,5),(9,6),(34,7)]) dC dC
  (.cons mz (.cons mz (.cons mz (.cons mz (.cons mz (.cons mz (.cons Pd (.one SC)))))))) dC
theorem SE:yH enc Tryz.prog W 22 (.sl Bv):=wr (e:=36) (ce:=14) dC dC bt SD
theorem SF:yH enc Tryz.prog W 57 (.sl .st):=wr (e:=9) (ce:=1) dC dC bt Pd
theorem SG:yH enc Tryz.prog W 58 (.sl .i64):=wr (e:=3) (ce:=1) dC dC bt mz
end
theorem wY{H:Type}{enc:TypeId×Value->H}{t e:TypeId}{d:DataW H}{ps:List MemPlace}(g:P.underlying t=some (.slice e))(h:yH enc P W t T)(c:Value.okWide P W .any b t v)(i:DataW.Trod enc P W 0 (λ_=>true) true t v d ps):∃x:T.den,Rd W PX T x [v]:=by
 obtain⟨a,len,cap,rfl⟩:=okWide_slice g c;obtain⟨f,j⟩:=i;obtain⟨x,l⟩:=h f _ _ j;exact⟨x,l⟩
theorem wZ{ρ:Nat->Pl}{x:T.den}(h:Rd W A T x [v]):aT W A ρ (.val false [.d T x]) v:=⟨[v],⟨[v],[],rfl,h,rfl⟩,rfl⟩
theorem I5{f:FuncId}{g:cx}{c:g.den->Tr (cF [⟨[sL 0],[]⟩])}{vals:Array Value}(h:Calls P f vals W λe i=>Below W.heap.size W i/\∃(ρ':Nat->Pl)(y:cF (Ct.mk n g [⟨[sL 0],[]⟩] c).out)(vs:List Value)(A:Nat->Prop),y=⟨0,(true,())⟩/\e= .returned (lM vs)/\F2 (zU i A ρ') (SP.res iG (du (Ct.mk n g [⟨[sL 0],[]⟩] c).out y.1).sl ((du (Ct.mk n g [⟨[sL 0],[]⟩] c).out y.1).get y.2).1) vs):
 Calls P f vals W λe i=>e= .returned (.bool true)/\Below W.heap.size W i:=by
 refine h.mono λe i⟨hB,ρ',y,vs,A,p,q,r⟩=>⟨?_,hB⟩;subst p
 match vs,r with
 |[v],⟨⟨s,⟨a,b,j,l,m⟩,o⟩,_⟩=>
  have l:a=[.bool true]:=l;have m:b=[]:=m;have o:s=[v]:=o;subst l m;rw[aH]at j;rw[o]at j;rw[q,(List.cons.inj j).1];rfl
end
end Go.Tp
namespace Go.Tp
open Go.Hv Go.Proofs Go.RowKit
set_option maxRecDepth 100000
set_option maxHeartbeats 0
def Dp:Ct:=⟨4,⟨[sI 0,sB 1,sB 2,sB 3],[]⟩,[⟨[sP 0],hY 0⟩],λ(id,a,b,c,_)=>one (0<=id/\id<5/\a.length=32/\b.length=32/\c.length=32) (id,a,b,(c,[],[],()),ka,[[0,0,0,0,0],[0,0,0,0,0]],[],[],[],())⟩
abbrev SH(v:Int×BL×BL×Lg×Pg×La×List Fk×KM×Ln×Unit):cF Dp.out:=⟨0,v⟩
def Pe:=kA 35 Dp De (cQ Dp 0) (∀(a:Int)(b c d:BL)(Q:cF Dp.out->Prop),let z:=SH (a,b,c,(d,[],[],()),([],[],[],([((0,0,()),0,0,0,false,[[],[]],())],0,()),([],()),()),[[0,0,0,0,0],[0,0,0,0,0]],[],[],[],());(Tr.need (0<=a/\a<5/\b.length=32/\c.length=32/\d.length=32) (Tr.leaf z)).sat Q->Bd (a<0) False (Bd (5<=a) False (Br (!(nI b)==32) False (Br (!(nI c)==32) False (Br (!(nI d)==32) False (b.length<=1000000/\c.length<=1000000/\d.length<=1000000/\True/\True/\Q z)))))) (by
 conv=>zeta
 unfold Bd Br nI;intro id e f g Q ⟨⟨i,j,l,a,b⟩,c⟩;simp only[ai,aj,aS,aC,ne_eq,aR,aN];refine⟨λh=>ac,λa=>⟨λh=>ac,λb=>⟨λh=>ac,λm=>⟨λh=>ac,λn=>⟨λh=>ac,λo=>⟨ac,ac,ac,trivial,trivial,c⟩⟩⟩⟩⟩⟩)
def gY:Nat->List (List BL)×List Mb×List Tm×KV
 |0=>([],[],[],[])
 |k+1=>
  let p:=gY k
  let a:=dI (115,[dB ((2*k+1:Nat):Int)],()) p.2.2.1 p.2.2.2
  let b:=dI (115,[dB ((2*k+2:Nat):Int)],()) a.2.1 a.2.2
  let c:=cM (112,[a.1],()) b.2.1 b.2.2
  let d:=cM (118,[b.1],()) c.2.1 c.2.2
  (p.1++[[a.1,b.1]],p.2.1++[((k:Int),c.1,d.1,())],d.2)
def Dq(i:Nat):Cl:=⟨i,((gY 5).1.getD i []).getD 0 [],((gY 5).1.getD i []).getD 1 [],(((gY 5).2.1.getD 0 AI).2.2.1,[],[],()),ka,[[0,0,0,0,0],[0,0,0,0,0]],[],[],[]⟩
def lw:Wd:=⟨(gY 5).1,(gY 5).2.1,[false,false,false,false,false],10,(gY 5).2.2.2,Dq 0,Dq 1,Dq 2,Dq 3,Dq 4,[],[],[],[],[],(((gY 5).2.1.getD 0 AI).2.2.1,[],[],()),(gY 5).2.2.1,[],[]⟩
theorem xa(K:Nat)(u:K<=400000000):∀k:Nat,k<=5->cb (K+4*(5-k)) (gY k).2.2.1/\(gY k).1.length=k/\(gY k).2.1.length=k/\(∀r∈(gY k).1,r.length=2/\∀s∈r,s.length=32)/\∀p∈(gY k).2.1,p.2.1.length=32/\p.2.2.1.length=32
 |0,_=>⟨⟨λt v=>(by cases v),(by show 0+(K+4*(5-0))<=4294967296;omega)⟩,rfl,rfl,by simp[gY],by simp[gY]⟩
 |k+1,J=>by
  obtain⟨w,x,y,z,A⟩:=xa K u k ac;generalize B:gY k=p at*
  have e:gY (k+1)=(let a:=dI (115,[dB ((2*k+1:Nat):Int)],()) p.2.2.1 p.2.2.2
   let b:=dI (115,[dB ((2*k+2:Nat):Int)],()) a.2.1 a.2.2
   let c:=cM (112,[a.1],()) b.2.1 b.2.2
   let d:=cM (118,[b.1],()) c.2.1 c.2.2
   (p.1++[[a.1,b.1]],p.2.1++[((k:Int),c.1,d.1,())],d.2)):=by subst B;rfl
  rw[e];dsimp only;have f:∀l:List BL,(oY (115,l,())).toNat=32:=λl=>rfl;have i:∀l:List BL,(oY (112,l,())).toNat=32:=λl=>rfl;have j:∀l:List BL,(oY (118,l,())).toNat=32:=λl=>rfl;have C:=pZ (k:=K+4*(5-(k+1))+3) p.2.2.2 (w.mono ac) (fP ((2*k+1:Nat):Int));have m:=(vp (115,[dB ((2*k+1:Nat):Int)],()) p.2.2.1 p.2.2.2).trans (f _);generalize dI (115,[dB ((2*k+1:Nat):Int)],()) p.2.2.1 p.2.2.2=a at*;have D:=pZ (k:=K+4*(5-(k+1))+2) a.2.2 C (fP ((2*k+2:Nat):Int));have n:=(vp (115,[dB ((2*k+2:Nat):Int)],()) a.2.1 a.2.2).trans (f _);generalize dI (115,[dB ((2*k+2:Nat):Int)],()) a.2.1 a.2.2=b at*;have E:=rl (k:=K+4*(5-(k+1))+1) b.2.2 D (ja (k:=112) bt bt (show aB a.1 by unfold aB;omega))
  have F:(cM (112,[a.1],()) b.2.1 b.2.2).1.length=32:=by
   have e:cM (112,[a.1],()) b.2.1 b.2.2=dI (112,[a.1],()) b.2.1 b.2.2:=ak m;rw[e];exact(vp _ _ _).trans (i _)
  generalize cM (112,[a.1],()) b.2.1 b.2.2=c at*;have G:=rl (k:=K+4*(5-(k+1))) c.2.2 E (ja (k:=118) bt bt (show aB b.1 by unfold aB;omega))
  have H:(cM (118,[b.1],()) c.2.1 c.2.2).1.length=32:=by
   have e:cM (118,[b.1],()) c.2.1 c.2.2=dI (118,[b.1],()) c.2.1 c.2.2:=ak n;rw[e];exact(vp _ _ _).trans (j _)
  generalize cM (118,[b.1],()) c.2.1 c.2.2=d at*;refine⟨G,by simp[x],by simp[y],λr g=>?_,λq h=>?_⟩
  ·rcases ba.1 g with g|g
   ·exact z r g
   ·rw[bV.1 g];refine⟨rfl,λs o=>?_⟩;simp only[bm,List.not_mem_nil,or_false]at o;rcases o with rfl|rfl
    ·exact m
    ·exact n
  ·rcases ba.1 h with h|h
   ·exact A q h
   ·rw[bV.1 h];exact⟨F,H⟩
variable{a ts ts':List Tm}{c i j k n q:Nat}
theorem cb.le'(h:cb k ts):ts.length<=4294967296:=by have:=h.2;omega
theorem mA{p:List (List BL)×List Mb×List Tm×KV}(e:gY k=p){a b c d:BL×List Tm×KV}(f:a=dI (115,[dB ((2*k+1:Nat):Int)],()) p.2.2.1 p.2.2.2)(g:b=dI (115,[dB ((2*k+2:Nat):Int)],()) a.2.1 a.2.2)(h:c=cM (112,[a.1],()) b.2.1 b.2.2)(i:d=cM (118,[b.1],()) c.2.1 c.2.2):gY (k+1)=(p.1++[[a.1,b.1]],p.2.1++[((k:Int),c.1,d.1,())],d.2):=by subst e f g h i;rfl
theorem SI(hi:i<5)(a:j<2):(((gY 5).1.getD i (ax 2 [])).getD j []).length=32:=by
 obtain⟨_,b,_,c,_⟩:=xa 0 ac 5 (aE _);have:=c _ (aV (z:=ax 2 []) (by rw[b];exact hi));exact this.2 _ (aV (by rw[this.1];exact a))
theorem Pf(hi:i<5):((gY 5).2.1.getD i AI).2.1.length=32/\((gY 5).2.1.getD i AI).2.2.1.length=32:=by
 obtain⟨_,_,a,_,b⟩:=xa 0 ac 5 (aE _);exact b _ (aV (by rw[a];exact hi))
theorem mB:cU lw 10000:=by
 obtain⟨o,l,p,g,q⟩:=xa 100010000 ac 5 (aE _);have w:=(Pf (i:=0) ac).2
 have h:∀i j:Nat,i<5->j<2->(((gY 5).1.getD i []).getD j []).length=32:=by
  intro i j f t;have:=g _ (aV (z:=[]) (show i<(gY 5).1.length by rw[l];exact f));exact this.2 _ (aV (by rw[this.1];exact t))
 have u:∀i:Nat,i<5->mo (Dq i)/\(Dq i).c=i/\(Dq i).fk.length+400*10000+2000<=10000000:=by
  intro i f;have y:=h i 0 f ac;refine⟨⟨by show(0:Int)<=(i:Int);omega,by show(i:Int)<5;omega,by show aB (((gY 5).1.getD i []).getD 0 []);unfold aB;omega,⟨rfl,?_⟩,wG,?_,?_,by show 0<=100000;omega,by show aB ((gY 5).2.1.getD 0 AI).2.2.1;unfold aB;omega⟩,rfl,by show 0+400*10000+2000<=10000000;omega⟩
  ·intro r b;have b:r∈([[0,0,0,0,0],[0,0,0,0,0]]:List (List Int)):=b;simp only[bm,List.not_mem_nil,or_false,or_self]at b;subst b;refine⟨rfl,λn m=>?_⟩;simp only[bm,List.not_mem_nil,or_false,or_self]at m;subst m;decide
  ·intro a;have e:cJ (Dq i).bk a=[]:=rfl;rw[e];exact⟨aq _,bY⟩
  ·exact⟨⟨aq _,by simp[Dq]⟩,rfl,by simp[Dq],by simp[Dq]⟩
 refine⟨λi f=>?_,o.mono ac,⟨l,λr b=>⟨(g r b).1,λs h=>by have:=(g r b).2 s h;omega⟩⟩,⟨p,λx v=>by have:=q x v;omega⟩,⟨⟨⟨aq _,by simp[lw]⟩,rfl,by simp[lw],by simp[lw]⟩,aq _,by show aB ((gY 5).2.1.getD 0 AI).2.2.1;unfold aB;omega⟩,by simp[lw],rfl,⟨aq _,rfl,by simp[lw]⟩,⟨by show(0:Int)<=10;omega,by show(10:Int)+2*10000<=1000000;omega⟩⟩;have:lw.cl i=Dq i:=by rcases fZ f with rfl|rfl|rfl|rfl|rfl<;>rfl
 rw[this];exact u i f
def tL:Ct:=⟨3,⟨[sI 0,(1,false,[.k (.bool false)]),(2,false,[.nils])],[]⟩,[⟨[(0,false,[.nilp])],[]⟩,⟨[sP 0],nn⟩],λ(n,_)=> .ite (decide (1<=n/\n<=31/\n % 2=1)) (.all ((Int×Int)×Wd) (ff lw n) λy=> .leaf ⟨1,(cY y.2)⟩) (.leaf ⟨0,()⟩)⟩
def a0o:cx:=⟨[sI 0,(7,false,[.ptr 0 0])],[some (.cells [.ifc 96 1 0, .fn 33 [] [(3,0)], .d (.ar 5 (.ar 2 tB)), .d (.ar 5 jf), .nilp, .nilp, .nilp, .nilp, .nilp, .nilm, .nilm, .nilm, .nilm, .nilm, .nilp, .d (.ar 5 .bl), .nils, .nils]),some (.cells [.own 4, .mp 2, .d .i64]),some (.mp .st .i64),some (.cells [.ptr 1 0]),some (.sl D6)]⟩
def SJ(x:tL.inp.den)(y:a0o.den):Prop:=match x,y with
 |(n,_),(b,a,c,go,d,m,e,_)=>b=n/\(a,c,e,m)=gY 5/\go=[false,false,false,false,false]/\d=10/\1<=n/\n<=31
def a63(x:tL.inp.den):eH:=⟨[],[(15,bS a0o (SJ x) λ_=>0)],[],[],6⟩
theorem xb:bW Tryz.prog 15 tL:=kC Pe a63 (∀(d:Int)Q,let P:= !decide (1<=d/\d<=31/\d % (2:Int)=1);bg tL (d,()) Q->True/\Br P (Q ⟨0,()⟩) (True/\((0<=4294967296/\(0:Int)<=0/\(0:Int)<=4294967296)/\∀b,let A:=jV (ag 8 115,[dB 2],()) b.2.1 b.2.2;b=(jH (ag 8 115,[dB 1],()) 1,[(ag 8 115,[dB 1],())],P4 (vl (ag 8 115,[dB 1],())) 1 [])->(b.2.1.length<=4294967296/\(0:Int)<=1/\(1:Int)<=4294967296)/\∀i,i=(jH (ag 8 115,[dB 2],()) A.1,A.2)->(aB b.1/\i.2.1.length<=4294967296)/\∀r,r=cM (ag 8 112,[b.1],()) i.2.1 i.2.2->(aB i.1/\r.2.1.length<=4294967296)/\∀j,let B:=jV (ag 8 115,[dB 3],()) j.2.1 j.2.2;j=cM (ag 8 118,[i.1],()) r.2.1 r.2.2->(j.2.1.length<=4294967296/\(0:Int)<=2/\(2:Int)<=4294967296)/\∀e,let C:=jV (ag 8 115,[dB 4],()) e.2.1 e.2.2;e=(jH (ag 8 115,[dB 3],()) B.1,B.2)->(e.2.1.length<=4294967296/\(0:Int)<=3/\(3:Int)<=4294967296)/\∀k,k=(jH (ag 8 115,[dB 4],()) C.1,C.2)->(aB e.1/\k.2.1.length<=4294967296)/\∀s,s=cM (ag 8 112,[e.1],()) k.2.1 k.2.2->(aB k.1/\s.2.1.length<=4294967296)/\∀l,let D:=jV (ag 8 115,[dB 5],()) l.2.1 l.2.2;l=cM (ag 8 118,[k.1],()) s.2.1 s.2.2->(l.2.1.length<=4294967296/\(0:Int)<=4/\(4:Int)<=4294967296)/\∀f,let E:=jV (ag 8 115,[dB 6],()) f.2.1 f.2.2;f=(jH (ag 8 115,[dB 5],()) D.1,D.2)->(f.2.1.length<=4294967296/\(0:Int)<=5/\(5:Int)<=4294967296)/\∀m,m=(jH (ag 8 115,[dB 6],()) E.1,E.2)->(aB f.1/\m.2.1.length<=4294967296)/\∀t,t=cM (ag 8 112,[f.1],()) m.2.1 m.2.2->(aB m.1/\t.2.1.length<=4294967296)/\∀n,let F:=jV (ag 8 115,[dB 7],()) n.2.1 n.2.2;n=cM (ag 8 118,[m.1],()) t.2.1 t.2.2->(n.2.1.length<=4294967296/\(0:Int)<=6/\(6:Int)<=4294967296)/\∀g,let G:=jV (ag 8 115,[dB 8],()) g.2.1 g.2.2;g=(jH (ag 8 115,[dB 7],()) F.1,F.2)->(g.2.1.length<=4294967296/\(0:Int)<=7/\(7:Int)<=4294967296)/\∀o,o=(jH (ag 8 115,[dB 8],()) G.1,G.2)->(aB g.1/\o.2.1.length<=4294967296)/\∀u,u=cM (ag 8 112,[g.1],()) o.2.1 o.2.2->(aB o.1/\u.2.1.length<=4294967296)/\∀p,let H:=jV (ag 8 115,[dB 9],()) p.2.1 p.2.2;p=cM (ag 8 118,[o.1],()) u.2.1 u.2.2->(p.2.1.length<=4294967296/\(0:Int)<=8/\(8:Int)<=4294967296)/\∀h,let R:=jV (ag 8 115,[dB 10],()) h.2.1 h.2.2;h=(jH (ag 8 115,[dB 9],()) H.1,H.2)->(h.2.1.length<=4294967296/\(0:Int)<=9/\(9:Int)<=4294967296)/\∀q,q=(jH (ag 8 115,[dB 10],()) R.1,R.2)->(aB h.1/\q.2.1.length<=4294967296)/\∀v,v=cM (ag 8 112,[h.1],()) q.2.1 q.2.2->(aB q.1/\v.2.1.length<=4294967296)/\∀y,y=cM (ag 8 118,[q.1],()) v.2.1 v.2.2->Is (SJ (d,()) (d,[[b.1,i.1],[e.1,k.1],[f.1,m.1],[g.1,o.1],[h.1,q.1]],[(0,r.1,j.1,()),(1,s.1,l.1,()),(2,t.1,n.1,()),(3,u.1,p.1,()),(4,v.1,y.1,())],[false,false,false,false,false],10,y.2.2,y.2.1,())))/\∀(w:Int)(a:List (List BL))(c:List Mb)(z:List Bool)(S:Int)(U:KV)(W:List Tm),let K:=a.getD 4 (ax 2 []);let L:=a.getD 3 (ax 2 []);let M:=a.getD 2 (ax 2 []);let N:=a.getD 1 (ax 2 []);let O:=a.getD 0 (ax 2 []);let x:=c.getD ((12-10)/3) (0,[],[],());let J:=ah x.2.2.1=32;let X:=cS (a,c,z,S,U,(0,O.getD 0 [],O.getD 1 [],(x.2.2.1,[],[],()),()),(([],[],[],([((0,0,()),0,0,0,false,[[],[]],())],0,()),([],()),()),[[0,0,0,0,0],[0,0,0,0,0]],[],()),[],(1,N.getD 0 [],N.getD 1 [],(x.2.2.1,[],[],()),()),(([],[],[],([((0,0,()),0,0,0,false,[[],[]],())],0,()),([],()),()),[[0,0,0,0,0],[0,0,0,0,0]],[],()),[],(2,M.getD 0 [],M.getD 1 [],(x.2.2.1,[],[],()),()),(([],[],[],([((0,0,()),0,0,0,false,[[],[]],())],0,()),([],()),()),[[0,0,0,0,0],[0,0,0,0,0]],[],()),[],(3,L.getD 0 [],L.getD 1 [],(x.2.2.1,[],[],()),()),(([],[],[],([((0,0,()),0,0,0,false,[[],[]],())],0,()),([],()),()),[[0,0,0,0,0],[0,0,0,0,0]],[],()),[],(4,K.getD 0 [],K.getD 1 [],(x.2.2.1,[],[],()),()),(([],[],[],([((0,0,()),0,0,0,false,[[],[]],())],0,()),([],()),()),[[0,0,0,0,0],[0,0,0,0,0]],[],()),[],[],[],[],[],[],(x.2.2.1,[],[],()),W,[],[],[],[],[],[],[],());SJ (d,()) (w,a,c,z,S,U,W,())->((0:Int)<=0/\(0:Int)<5/\(O.getD 0 []).length=32/\(O.getD 1 []).length=32/\J)/\((0:Int)<=1/\(1:Int)<5/\(N.getD 0 []).length=32/\(N.getD 1 []).length=32/\J)/\((0:Int)<=2/\(2:Int)<5/\(M.getD 0 []).length=32/\(M.getD 1 []).length=32/\J)/\((0:Int)<=3/\(3:Int)<5/\(L.getD 0 []).length=32/\(L.getD 1 []).length=32/\J)/\((0:Int)<=4/\(4:Int)<5/\(K.getD 0 []).length=32/\(K.getD 1 []).length=32/\J)/\ah x.2.2.1<=1000000/\(1<=w/\w<=31/\∃d,cU X (d+2))/\∀(b:(Int×Int)×Wd),ff X w b->Q ⟨1,cY b.2⟩)) (by
 conv=>zeta
 unfold Br bg cY;intro n Q hQ;have c5:decide (1<=n/\n<=31/\n % 2=1)=false->Q ⟨0,()⟩:=hQ.2;have u:decide (1<=n/\n<=31/\n % 2=1)=true->∀y,ff lw n y->Q ⟨1,(cY y.2)⟩:=λc y hy=>hQ.1 c y hy;clear hQ;refine⟨trivial,λc=>c5 ?_,λc=>?_⟩
 ·cases h:decide (1<=n/\n<=31/\n % 2=1)with
  |false=>rfl
  |true=>rw[h]at c;cases c
 have c:decide (1<=n/\n<=31/\n % 2=1)=true:=by
  cases h:decide (1<=n/\n<=31/\n % 2=1)with
  |true=>rfl
  |false=>rw[h]at c;cases c
 have u:=u c;have cn:=af c;refine⟨trivial,?_,?_⟩
 ·have z0:cb 20 ([]:List Tm):=⟨λt ht=>(by cases ht),(by show 0+20<=4294967296;omega)⟩;have e0:gY 0=([],[],[],[]):=rfl;refine⟨⟨ac,ac,ac⟩,λv C=>?_⟩;have C:v=dI (115,[dB ((2*0+1:Nat):Int)],()) [] []:=C;have z1:cb 19 v.2.1:=by rw[C];exact pZ (k:=19) [] z0 (fP _)
  have l0:aB v.1:=by rw[C];unfold aB;rw[vp];decide
  refine⟨⟨z1.le',ac,ac⟩,λb1 D=>?_⟩;have D:b1=dI (115,[dB ((2*0+2:Nat):Int)],()) v.2.1 v.2.2:=D;have z2:cb 18 b1.2.1:=by rw[D];exact pZ (k:=18) v.2.2 z1 (fP _)
  have l1:aB b1.1:=by rw[D];unfold aB;rw[vp];decide
  refine⟨⟨l0,z2.le'⟩,λb2 q2=>?_⟩;have z3:cb 17 b2.2.1:=by rw[q2];exact rl (k:=17) b1.2.2 z2 (ja (k:=112) bt bt l0)
  refine⟨⟨l1,z3.le'⟩,λb3 q3=>?_⟩;have z4:cb 16 b3.2.1:=by rw[q3];exact rl (k:=16) b2.2.2 z3 (ja (k:=118) bt bt l1)
  have e1:=mA e0 C D q2 q3;refine⟨⟨z4.le',ac,ac⟩,λw E=>?_⟩;have E:w=dI (115,[dB ((2*1+1:Nat):Int)],()) b3.2.1 b3.2.2:=E;have z5:cb 15 w.2.1:=by rw[E];exact pZ (k:=15) b3.2.2 z4 (fP _)
  have l4:aB w.1:=by rw[E];unfold aB;rw[vp];decide
  refine⟨⟨z5.le',ac,ac⟩,λb5 F=>?_⟩;have F:b5=dI (115,[dB ((2*1+2:Nat):Int)],()) w.2.1 w.2.2:=F;have z6:cb 14 b5.2.1:=by rw[F];exact pZ (k:=14) w.2.2 z5 (fP _)
  have l5:aB b5.1:=by rw[F];unfold aB;rw[vp];decide
  refine⟨⟨l4,z6.le'⟩,λb6 q6=>?_⟩;have z7:cb 13 b6.2.1:=by rw[q6];exact rl (k:=13) b5.2.2 z6 (ja (k:=112) bt bt l4)
  refine⟨⟨l5,z7.le'⟩,λb7 q7=>?_⟩;have z8:cb 12 b7.2.1:=by rw[q7];exact rl (k:=12) b6.2.2 z7 (ja (k:=118) bt bt l5)
  have e2:=mA e1 E F q6 q7;refine⟨⟨z8.le',ac,ac⟩,λx G=>?_⟩;have G:x=dI (115,[dB ((2*2+1:Nat):Int)],()) b7.2.1 b7.2.2:=G;have z9:cb 11 x.2.1:=by rw[G];exact pZ (k:=11) b7.2.2 z8 (fP _)
  have l8:aB x.1:=by rw[G];unfold aB;rw[vp];decide
  refine⟨⟨z9.le',ac,ac⟩,λb9 H=>?_⟩;have H:b9=dI (115,[dB ((2*2+2:Nat):Int)],()) x.2.1 x.2.2:=H;have J:cb 10 b9.2.1:=by rw[H];exact pZ (k:=10) x.2.2 z9 (fP _)
  have l9:aB b9.1:=by rw[H];unfold aB;rw[vp];decide
  refine⟨⟨l8,J.le'⟩,λK L=>?_⟩;have M:cb 9 K.2.1:=by rw[L];exact rl (k:=9) b9.2.2 J (ja (k:=112) bt bt l8)
  refine⟨⟨l9,M.le'⟩,λo N=>?_⟩;have O:cb 8 o.2.1:=by rw[N];exact rl (k:=8) K.2.2 M (ja (k:=118) bt bt l9)
  have e3:=mA e2 G H L N;refine⟨⟨O.le',ac,ac⟩,λa e=>?_⟩;have e:a=dI (115,[dB ((2*3+1:Nat):Int)],()) o.2.1 o.2.2:=e;have P:cb 7 a.2.1:=by rw[e];exact pZ (k:=7) o.2.2 O (fP _)
  have R:aB a.1:=by rw[e];unfold aB;rw[vp];decide
  refine⟨⟨P.le',ac,ac⟩,λp f=>?_⟩;have f:p=dI (115,[dB ((2*3+2:Nat):Int)],()) a.2.1 a.2.2:=f;have S:cb 6 p.2.1:=by rw[f];exact pZ (k:=6) a.2.2 P (fP _)
  have U:aB p.1:=by rw[f];unfold aB;rw[vp];decide
  refine⟨⟨R,S.le'⟩,λW X=>?_⟩;have Y:cb 5 W.2.1:=by rw[X];exact rl (k:=5) p.2.2 S (ja (k:=112) bt bt R)
  refine⟨⟨U,Y.le'⟩,λq a0=>?_⟩;have a5:cb 4 q.2.1:=by rw[a0];exact rl (k:=4) W.2.2 Y (ja (k:=118) bt bt U)
  have e4:=mA e3 e f X a0;refine⟨⟨a5.le',ac,ac⟩,λb g=>?_⟩;have g:b=dI (115,[dB ((2*4+1:Nat):Int)],()) q.2.1 q.2.2:=g;have a6:cb 3 b.2.1:=by rw[g];exact pZ (k:=3) q.2.2 a5 (fP _)
  have a7:aB b.1:=by rw[g];unfold aB;rw[vp];decide
  refine⟨⟨a6.le',ac,ac⟩,λr l=>?_⟩;have l:r=dI (115,[dB ((2*4+2:Nat):Int)],()) b.2.1 b.2.2:=l;have a8:cb 2 r.2.1:=by rw[l];exact pZ (k:=2) b.2.2 a6 (fP _)
  have a9:aB r.1:=by rw[l];unfold aB;rw[vp];decide
  refine⟨⟨a7,a8.le'⟩,λc0 c1=>?_⟩;have c2:cb 1 c0.2.1:=by rw[c1];exact rl (k:=1) r.2.2 a8 (ja (k:=112) bt bt a7)
  refine⟨⟨a9,c2.le'⟩,λc6 c3=>?_⟩;have c7:cb 0 c6.2.1:=by rw[c3];exact rl (k:=0) c0.2.2 c2 (ja (k:=118) bt bt a9)
  have e5:=mA e4 g l c1 c3;exact⟨⟨rfl,e5.symm,rfl,rfl,cn.1,cn.2.1⟩⟩
 ·rintro n1 c4 al go d m ts ⟨r1,A,r2,r3,h2,h3⟩;have r1:n1=n:=r1;have A:(c4,al,ts,m)=gY 5:=A;have r2:go=[false,false,false,false,false]:=r2;have r3:d=10:=r3;have a1:c4=(gY 5).1:=aI Prod.fst A;have a2:al=(gY 5).2.1:=aI (λz=>z.2.1) A;have a3:ts=(gY 5).2.2.1:=aI (λz=>z.2.2.1) A;have a4:m=(gY 5).2.2.2:=aI (λz=>z.2.2.2) A;subst r1 r2 r3 a1 a2 a3 a4;have s:=λ{i j:Nat}(hi:i<5)(hj:j<2)=>SI hi hj;have B:=(Pf (i:=0) ac).2;refine⟨⟨ac,ac,s ac ac,s ac ac,B⟩,⟨ac,ac,s ac ac,s ac ac,B⟩,⟨ac,ac,s ac ac,s ac ac,B⟩,⟨ac,ac,s ac ac,s ac ac,B⟩,⟨ac,ac,s ac ac,s ac ac,B⟩,bE (Nat.le_of_eq B) ac,⟨h2,h3,9998,mB⟩,λy hy=>u y hy⟩)
def a7s:=kB 15 [tL] Pe (bL (xb)) (l:=bL (λ_=>Live.ite (λ_=>Live.all ⟨_,(mw (k:=9998) mB _).choose_spec,Live.leaf⟩) (λ_=>Live.leaf)))
def TU(s:jt):Prop:=s.2.2.2.2.2.2.1.length<=3000/\s.2.2.2.2.2.2.2.2.2.2.2.1.length<=3000/\s.2.2.2.2.2.2.2.2.2.2.2.2.1.length<=3000/\s.2.2.2.2.2.2.2.2.2.2.2.2.2.1.length<=3000
def zx:Ct:=⟨1,⟨[(0,false,[.d (.sl Bv)])],[]⟩,[⟨[sL 0],[]⟩],λ(l,_)=>fJ True (λy:Bool=>y=true->l.length<=40/\∀s∈l,TU s) λy=>(y,())⟩
def a0p:cx:=⟨[(0,false,[.d (.sl Bv)]),sI 3,sI 4],[]⟩
def Nq(x:zx.inp.den)(y:a0p.den):Prop:=match x,y with
 |(a,_),(l,n,i,_)=>l=a/\@aX Int _ 0 n/\@aX Int _ n 16000/\∃k:Nat,i=k/\k<=a.length/\k<=41/\(@aX Int _ n 3000->∀s∈a.take k,TU s)
def a64(x:zx.inp.den):eH:=⟨[(3,bS a0p (Nq x) λ(_,_,i,_)=>(@bO Int Int Int _ 50 i).toNat)],[],[],[],0⟩
theorem I6:bW Tryz.prog 7 zx:=kC De a64 (∀(d:List (Int×Int×Int×Int×Int×Int×BL×Lt))Q,bg zx (d,()) Q->Is (Nq (d,()) (d,0,0,()))/\∀(b:List (Int×Int×Int×Int×Int×Int×BL×Lt))(c a:Int),let h:=ah (gD b a zS).2.2.2.2.2.2.2.2.2.2.2.2.1;let e:=ah (gD b a zS).2.2.2.2.2.2.1;let f:=ah (gD b a zS).2.2.2.2.2.2.2.2.2.2.2.1;let g:=Bd (nI b<=40) (Q ⟨0,decide (c<=3000),()⟩) (Q ⟨0,false,()⟩);let z:=min (↑e:Int) 3001+min (↑f:Int) 3001+min (↑h:Int) 3001+min (↑(ah (gD b a zS).2.2.2.2.2.2.2.2.2.2.2.2.2.1):Int) 3001;Nq (d,()) (b,c,a,())->Bd (a<nI b) (Bd (a<=40) (Bd (c<=3000) (iN a b/\iN a b/\am (min (↑e:Int) 3001+min (↑f:Int) 3001)/\iN a b/\am (min (↑e:Int) 3001+min (↑f:Int) 3001+min (↑h:Int) 3001)/\iN a b/\am z/\am (c+z)/\am (a+1)/\Is (Nq (d,()) (b,c+z,a+1,())/\lN (50-(a+1)) (50-a))) g) g) g) (by
 conv=>zeta
 unfold Bd gD iN lN nI bg zS;rintro l Q ⟨_,A⟩;have B:∀y:Bool,(y=true->l.length<=40/\∀s∈l,TU s)->Q ⟨0,(y,())⟩:=A;clear A;refine⟨⟨⟨rfl,bp _,bt,0,rfl,aq _,ac,λ_ s e=>(by cases e)⟩⟩,?_⟩;rintro F n i ⟨q,C,D,k,r,M,N,E⟩;have q:l=F:=q.symm;have r:i=(k:Int):=r;subst q r;have C:@aX Int _ 0 n:=C;have D:@aX Int _ n 16000:=D
 have t:l.length<=40->n<=3000->k=l.length->∀s∈l,TU s:=by
  intro a b c;have:=E b;rw[c,bv]at this;exact this
 have fin:(¬((k:Int)<l.length)\/¬((k:Int)<=40)\/¬(n<=3000))->(decide ((l.length:Int)<=40)=true->Q ⟨0,(decide (n<=3000),())⟩)/\(decide ((l.length:Int)<=40)=false->Q ⟨0,(false,())⟩):=by
  intro h;refine⟨λc=>B _ λd=>?_,λc=>B _ λd=>by cases d⟩;have c:=af c;have d:=af d;have f:k=l.length:=ac
  exact⟨ac,t ac d f⟩
 refine⟨λg=>⟨λj=>⟨λm=>?_,λm=>fin (.inr (.inr (ap m)))⟩,λj=>fin (.inr (.inl (ap j)))⟩,λg=>fin (.inl (ap g))⟩;have g:=af g;have j:=af j;have m:=af m;have f:k<l.length:=ac
 rw[show((k:Int)).toNat=k by omega];have G:l.take (k+1)=l.take k++[l.getD k (0,0,0,0,0,0,[],0,0,0,0,[],[],[],())]:=di f;generalize l.getD k (0,0,0,0,0,0,[],0,0,0,0,[],[],[],())=o at*;have p:∀x:Nat,0<=min (x:Int) 3001/\min (x:Int) 3001<=3001/\(min (x:Int) 3001<=3000->x<=3000):=λx=>ac
 have H:=p o.2.2.2.2.2.2.1.length;have J:=p o.2.2.2.2.2.2.2.2.2.2.2.1.length;have K:=p o.2.2.2.2.2.2.2.2.2.2.2.2.1.length;have L:=p o.2.2.2.2.2.2.2.2.2.2.2.2.2.1.length;generalize min (o.2.2.2.2.2.2.1.length:Int) 3001=u at*;generalize min (o.2.2.2.2.2.2.2.2.2.2.2.1.length:Int) 3001=v at*;generalize min (o.2.2.2.2.2.2.2.2.2.2.2.2.1.length:Int) 3001=w at*;generalize min (o.2.2.2.2.2.2.2.2.2.2.2.2.2.1.length:Int) 3001=z at*;refine⟨ac,ac,cv,ac,cv,ac,cv,cv,cv,⟨⟨rfl,?_,?_,k+1,rfl,f,ac,λd s e=>?_⟩,ac⟩⟩
 ·show @aX Int _ 0 (n+(u+v+w+z));omega
 ·show @aX Int _ (n+(u+v+w+z)) 16000;omega
 ·have d:n+(u+v+w+z)<=3000:=d;rw[G]at e;rcases ba.1 e with e|e
  ·exact E (by show n<=3000;omega) s e
  ·rw[bV.1 e];exact⟨H.2.2 ac,J.2.2 ac,K.2.2 ac,L.2.2 ac⟩)
def Ph:bG:=(7,[zx])::OV
def I7:=kB 7 [zx] De (bL (I6)) (l:=bL (λ_=>aU λ_=>⟨false,λh=>by cases h⟩))
def zy:Ct:=⟨1,⟨[sI 0],[]⟩,[⟨[sI 0,sI 1],[]⟩],λ(n,_)=>one True ((eY n).1,(eY n).2,())⟩
abbrev ip(v:Fk):cF zy.out:=⟨0,v⟩
theorem SK:il Tryz.prog Ph 18 zy λ_=>⟨[],[],[],[],9⟩:=by
 have e:(il Tryz.prog Ph 18 zy λ_=>⟨[],[],[],[],9⟩)=
  (∀(x:Int)(Q:cF zy.out->Prop),(Tr.need True (Tr.leaf (ip ((eY x).fst,(eY x).snd,())))).sat Q->(decide (x<0)=true->Q (ip (0,1,())))/\(decide (x<0)=false->(decide (4095<x)=true->Q (ip (0,2,())))/\(decide (4095<x)=false->(decide (64<=x)=true->(decide (128<=x)=true->(decide (256<=x)=true->(decide (512<=x)=true->(decide (1024<=x)=true->(decide (2048<=x)=true->(decide (4096<=x)=true->(decide (8192<=x)=true->(decide (16384<=x)=true->False)/\(decide (16384<=x)=false->Q (ip (16384,0,()))))/\(decide (8192<=x)=false->Q (ip (8192,0,()))))/\(decide (4096<=x)=false->Q (ip (4096,0,()))))/\(decide (2048<=x)=false->Q (ip (2048,0,()))))/\(decide (1024<=x)=false->Q (ip (1024,0,()))))/\(decide (512<=x)=false->Q (ip (512,0,()))))/\(decide (256<=x)=false->Q (ip (256,0,()))))/\(decide (128<=x)=false->Q (ip (128,0,()))))/\(decide (64<=x)=false->Q (ip (64,0,())))))):=dC
 refine PW e ?_;clear e;rintro n Q ⟨_,a⟩;have b:∀p:Int×Int,eY n=p->Q ⟨0,(p.1,p.2,())⟩:=λp e=>by rw[<-e];exact a
 clear a;unfold eY at b
 (repeat' (first|apply ck|(intro h;have h:=af h)|(intro h;have h:=ap h)))<;>first
  |(exfalso;omega)
  |exact b (_,_) (by repeat (first|rfl|rw[ae ac]|rw[ak ac]))
theorem I8:bW Tryz.prog 18 zy:=dH I7.1 I7.2 tS dC SK
def a7t:=kB 18 [zy] I7 (bL (I8))
theorem a0q(l:List BL):((115,l,()):Tm).1≠103:=by show(115:BitVec 8)≠103;decide
theorem a65(l:List BL):((112,l,()):Tm).1≠103:=by show(112:BitVec 8)≠103;decide
theorem a66(l:List BL):((118,l,()):Tm).1≠103:=by show(118:BitVec 8)≠103;decide
theorem I9:∀k:Nat,k<=5->Su (100-4*k) (gY k).2.2.1 (gY k).2.2.2/\(gY k).1.length=k/\(gY k).2.1.length=k/\(∀t∈(gY k).2.2.1,t.1≠103)/\
 ∀a:Nat,a<k->∃j f o sg,(gY k).1[a]?=some [j,f]/\(gY k).2.1[a]?=some ((a:Int),o,sg,())/\Nm (gY k).2.2.1 j (115,[dB ((2*a+0+1:Nat):Int)],())/\Nm (gY k).2.2.1 f (115,[dB ((2*a+1+1:Nat):Int)],())/\Nm (gY k).2.2.1 o (112,[j],())/\Nm (gY k).2.2.1 sg (118,[f],())
 |0,_=>⟨⟨Cx,⟨λt l=>(by cases l),(by show 0+(100-4*0)<=4294967296;omega)⟩⟩,rfl,rfl,λt l=>(by cases l),λa K=>ac⟩
 |k+1,L=>by
  obtain⟨v,s,u,w,x⟩:=I9 k ac;generalize y:gY k=p at*
  have e:gY (k+1)=(let a:=dI (115,[dB ((2*k+1:Nat):Int)],()) p.2.2.1 p.2.2.2
   let b:=dI (115,[dB ((2*k+2:Nat):Int)],()) a.2.1 a.2.2
   let c:=cM (112,[a.1],()) b.2.1 b.2.2
   let d:=cM (118,[b.1],()) c.2.1 c.2.2
   (p.1++[[a.1,b.1]],p.2.1++[((k:Int),c.1,d.1,())],d.2)):=by subst y;rfl
  rw[e];dsimp only;have f:=ry (k:=100-4*(k+1)+3) (v.mono ac) (fP ((2*k+1:Nat):Int));generalize dI (115,[dB ((2*k+1:Nat):Int)],()) p.2.2.1 p.2.2.2=a at*;have m:=ry (k:=100-4*(k+1)+2) f.1.su (fP ((2*k+2:Nat):Int));generalize dI (115,[dB ((2*k+2:Nat):Int)],()) a.2.1 a.2.2=b at*;have z:=f.2.t115;have A:=m.2.t115;have n:=zl (k:=100-4*(k+1)+1) m.1.su (ja (k:=112) bt bt (show aB a.1 by unfold aB;omega));have B:=n.2 z;generalize cM (112,[a.1],()) b.2.1 b.2.2=c at*;have h:=zl (k:=100-4*(k+1)) n.1.su (ja (k:=118) bt bt (show aB b.1 by unfold aB;omega));have C:=h.2 A;generalize cM (118,[b.1],()) c.2.1 c.2.2=d at*;have g:Gr (λt=>t.1≠103) p.2.2.1 d.2.1:=(f.1.gr.imp λt q=>by rw[q];exact a0q _).trans ((m.1.gr.imp λt q=>by rw[q];exact a0q _).trans ((n.1.gr.imp λt q=>by rw[q];exact a65 _).trans (h.1.gr.imp λt q=>by rw[q];exact a66 _)));refine⟨h.1.su,by simp[s],by simp[u],λt l=>?_,λi M=>?_⟩
  ·rcases g.old l with q|q
   ·exact w t q
   ·exact q
  ·rcases br i k with q|q
   ·obtain⟨j,r,o,sg,D,E,F,G,H,J⟩:=x i q;exact⟨j,r,o,sg,dm D,dm E,g.nm F,g.nm G,g.nm H,g.nm J⟩
   ·have:i=k:=ac
    subst this;refine⟨a.1,b.1,c.1,d.1,?_,?_,h.1.gr.nm (n.1.gr.nm (m.1.gr.nm f.2)),h.1.gr.nm (n.1.gr.nm m.2),h.1.gr.nm B,C⟩
    ·rw[aJ ac,s];simp
    ·rw[aJ ac,u];simp
variable{b key o pub se sec sg text v:BL}
theorem xc(h:(gY 5).1[k]?=some [b,v]):lw.se k 0=b/\lw.se k 1=v:=by
 unfold Wd.se
 have:lw.sec.getD k (ax 2 [])=[b,v]:=by
  rw[aw];show((gY 5).1[k]?).getD _=_;rw[h];rfl
 rw[this];exact⟨rfl,rfl⟩
theorem SL:Au lw []:=by
 obtain⟨E,K,F,G,v⟩:=I9 5 (aE _);have D:∀i:Nat,i<5->lw.cl i=Dq i:=λi f=>by rcases fZ f with rfl|rfl|rfl|rfl|rfl<;>rfl
 refine⟨E.w,λa j m L=>?_,λp B=>?_,?_,λi e C=>?_,λi f=>?_,λi f=>?_,aq _,λd H=>(by cases H),rfl,λt J h=>absurd h (G t J)⟩
 ·obtain⟨n,o,x,g,b,r,y,z,A,s⟩:=v a m;obtain⟨l,c⟩:=xc b;rcases dP j with q|q
  ·subst q;rw[l];exact y
  ·have:j=1:=ac
   subst this;rw[c];exact z
 ·have B:p∈(gY 5).2.1:=B;obtain⟨a,m⟩:=List.getElem?_of_mem B;have u:a<5:=by rw[<-F];exact(cq.1 m).1
  obtain⟨n,o,x,g,b,r,y,z,A,s⟩:=v a u;obtain⟨l,c⟩:=xc b;rw[r]at m;exact⟨a,x,g,u,(Option.some.inj m).symm,by rw[l];exact A,by rw[c];exact s⟩
 ·obtain⟨n,o,x,g,b,r,y,z,A,s⟩:=v 0 ac;obtain⟨l,c⟩:=xc b;rw[c]
  have:lw.lg.1=g:=by
   show((gY 5).2.1.getD 0 AI).2.2.1=g;rw[aw,r];rfl
  rw[this];exact s
 ·have C:([]:List Et)[i]?=some e:=C;simp at C
 ·rw[D i f];exact⟨⟨0,rfl⟩,Dc _⟩
 ·rw[D i f];obtain⟨n,o,x,g,b,r,y,z,A,s⟩:=v i f;obtain⟨l,c⟩:=xc b;rw[l,c];have:(gY 5).1.getD i []=[n,o]:=by rw[aw,b];rfl
  constructor
  ·show((gY 5).1.getD i []).getD 1 []=o;rw[this];rfl
  ·show((gY 5).1.getD i []).getD 0 []=n;rw[this];rfl
variable{N d id x:Int}
theorem TV(h:1<=x/\x<=5):x≠6/\x≠7:=ac
theorem qU{b:Int}(h:x=N)(c:N≠b):x≠b:=λq=>c (h.symm.trans q)
theorem Ja(w:Wd)(s:jt):(io w s).2.go=w.go:=by
 unfold io;split
 ·rfl
 split
 ·rfl
 dsimp only;split<;>rfl
def np(s:jt):Md:=if 1<=s.1/\s.1<=5 then(s.2.1,true,())else if s.1=6 then(0,true,())else if s.1=11 then(s.2.1,false,())else(-1,false,())
def px(md:List Md)(s:jt)(y:xx):List Md:=if y.1.2.1=0 then md else md++[np s]
structure uc(w:Wd)(md:List Md)(s:jt)(y:xx):Prop where
 au:Au y.2 (px md s y)
 st1:y.1.2.1≠0->∃b,y.2.st=w.st++[b]
 st0:y.1.2.1=0->y.2.st=w.st
 lg1:y.1.2.1≠0->s.1=6->∃e,y.2.lg.2.1=w.lg.2.1++[e]
 lg0:¬(y.1.2.1≠0/\s.1=6)->y.2.lg=w.lg
 go:y.2.go=w.go\/s.1=6
 give:s.1=7->y.1.1=0->Sf w md (w.st.getD (s.2.2.2.1-1).toNat []) y.1.2.2/\1<=s.2.2.2.1/\s.2.2.2.1<=w.st.length
variable{md md':List Md}{s:jt}{y:xx}
theorem uc.keep{w:Wd}(h:Au y.2 md)(g:dQ w y.2)(h0:y.1.2.1=0)(c:s.1≠7\/y.1.1≠0):uc w md s y:=by
 refine⟨?_,λq=>absurd h0 q,λ_=>g.st,λq=>absurd h0 q,λ_=>g.lg, .inl g.go,λa b=>c.elim (λq=>absurd a q) (λq=>absurd b q)⟩;unfold px;rw[ak h0];exact h
theorem dz(w:Wd):dQ w w:=⟨rfl,rfl,rfl,rfl,rfl⟩
theorem uc.store{w w':Wd}(h:Au (w'.keep b x) (md++[np s]))(g:dQ w w')(e:s.1≠6)(f:s.1≠7):uc w md s (jh (ub w' b x)):=by
 have c:(jh (ub w' b x)).1.2.1≠0:=by
  show(w'.st.length:Int)+1≠0;omega
 refine⟨?_,λ_=>⟨b,by show w'.st++[b]=_;rw[g.st]⟩,λq=>absurd q c,λ_ q=>absurd q e,λ_=>g.lg, .inl g.go,λq=>absurd q f⟩;unfold px;rw[ae c];exact h
theorem vx(w:Wd)(hi:i<5)(r:BL×Int):w.told i (r,(w.cl i).la,w.ts,w.m)=w:=by
 rcases fZ hi with rfl|rfl|rfl|rfl|rfl<;>rfl
variable{r:BL×Int}
theorem zz{w w':Wd}(a:1<=s.1/\s.1<=5)(hi:s.2.1=(i:Int))(g:dQ w w')(h:r.2≠0/\Au w' md\/r.2=0/\∀e:Int,Au (w'.keep r.1 e) (md++[((i:Int),true,())])):uc w md s (jh (kj w' i r)):=by
 unfold kj;rcases h with⟨b,c⟩|⟨b,c⟩
 ·rw[ak b];exact uc.keep c g rfl (.inl (TV a).2)
 ·rw[ae (λq=>q b)];refine uc.store ?_ g (TV a).1 (TV a).2;have:np s=((i:Int),true,()):=by unfold np;rw[ak a,hi]
  rw[this];exact c _
theorem a0r{w:Wd}(h:Au w md)(x:cU w (n+1))(b:1<=s.1/\s.1<=5){z:zn}(r:jG w s z):uc w md s (jh z):=by
 unfold jG at r;split at r
 ·rw[r];exact uc.keep h (dz w) rfl (.inl (TV b).2)
 rename_i no;rw[not_or,not_or]at no;split at r
 ·rw[r];exact uc.keep h (dz w) rfl (.inl (TV b).2)
 obtain⟨q,f,rfl⟩:=r;obtain⟨i,g⟩:=bo (Int.not_lt.1 no.1);have A:s.2.1.toNat=i:=by rw[g,aG]
 have j:i<5:=by
  have q:=Int.not_le.1 no.2.1;rw[g]at q;exact Int.ofNat_lt.1 q
 rw[A]at f⊢
 have told:∀{a:Int}{t:BL}{z:(BL×Int)×La×List Tm×KV},z=lr a t (w.cl i).c (w.cl i).sg (w.cl i).lg (w.cl i).la (w.cl i).km w.ts w.m->uc w md s (jh (kj (w.told i z) i z.1)):=by
  intro a t z o;rcases wW h x j o with⟨u,v⟩|⟨u,v,_⟩
  ·have:w.told i z=w:=by
    rw[show z=(z.1,z.2)from rfl,v];exact vx w j z.1
   rw[this];exact zz b g (dz w) (.inl ⟨u,h⟩)
  ·exact zz b g (dl w i _).1 (.inr ⟨u,v⟩)
 unfold vw at f;split at f
 ·obtain⟨t,z,o,rfl⟩:=f;exact told o
 split at f
 ·obtain⟨t,z,o,rfl⟩:=f;exact told o
 ·obtain⟨p,l,e,C,D,⟨y,rfl⟩|⟨y,E,z,F,o,rfl⟩⟩:=f
  ·exact zz b g (dz w) (.inl ⟨y,h⟩)
  ·rcases IS h x j o with⟨u,v,B⟩|⟨u,v,_⟩
   ·exact zz b g B (.inl ⟨u,v⟩)
   ·exact zz b g (dl w i _).1 (.inr ⟨u,v⟩)
theorem Jb:∀{a:List (Int×BL)}{w w':Wd}{md:List Md}{n:Nat},Au w md->cU w (n+a.length)->(∀p∈a,0<=p.1/\p.1<5)->xv a w w'->Au w' md/\dQ w w'
 |[],_,_,_,_,h,_,_,e=>by
  have e:_=_:=e;subst e;exact⟨h,dz _⟩
 |p::a,w,w',md,n,h,c,b,⟨y,f,g⟩=>by
  obtain⟨i,j,o,r⟩:=kW h (n:=n+a.length) (c.mono eM) (b p (aF ..)) f;have l:=gB (n:=n+a.length) (c.mono eM) (b p (aF ..)) f;have:=Jb i l (λq m=>b q (aD _ m)) g;exact⟨this.1,j.trans this.2⟩
theorem gZ{w:Wd}(h:Au w md):lh w:=by
 intro i c;unfold Wd.ids at c;obtain⟨x,f,rfl⟩:=fI.1 c;obtain⟨e,g,b⟩:=rx f;obtain⟨k,j⟩:=List.getElem?_of_mem g;obtain⟨a,p,q,m,l,_⟩:=h.al x ((h.es k e j).2 x b);rw[l];show 0<=(a:Int)/\(a:Int)<5;omega
theorem SM{w:Wd}(h:Au w md)(i:cU w (n+5*w.st.length+3))(r:mY w s y):uc w md s y:=by
 have hB:s.1≠7->uc w md s (bad w):=λq=>uc.keep h (dz w) rfl (.inl q);have p:uc w md s (bad w):=uc.keep h (dz w) rfl (.inr (by show(26:Int)≠0;decide));unfold mY at r;split at r
 ·rename_i G;obtain⟨z,t,rfl⟩:=r;exact a0r h (n:=n+5*w.st.length+2) i G t
 rename_i e;split at r
 ·rename_i a;split at r
  ·rw[r];exact p
  rename_i g;rw[not_or]at g;obtain⟨z,t,rfl⟩:=r;rcases pw h (k:=n+5*w.st.length+1) i ac t with⟨C,f,j,l,_⟩|⟨C,f,j,l,B,O,E,P,Q,H,R,J,S⟩
  ·exact uc.keep j l f (.inl (qU a bt))
  ·have m:(jh z).1.2.1≠0:=by
    show z.1.2≠0;rw[f];omega
   refine⟨?_,λ_=>⟨gi E,H⟩,λq=>absurd q m,λ_ _=>⟨ER E,J⟩,λq=>absurd ⟨m,a⟩ q, .inr a,λq=>absurd q (qU a bt)⟩;unfold px;rw[ae m];have:np s=(0,true,()):=by unfold np;rw[ae e,ak a]
   rw[this];exact j
 rename_i a;split at r
 ·rename_i c;split at r
  ·rw[r];exact p
  rename_i g;rw[not_or]at g;have K:=aA.1 g.1;have L:=aA.1 g.2;obtain⟨z,t,rfl⟩:=r;obtain⟨D,u,U,M⟩:=kW h (n:=n+5*w.st.length+2) i K t;refine⟨?_,λq=>absurd rfl q,λ_=>u.st,λq=>absurd rfl q,λ_=>u.lg, .inl u.go,λ_ q=>⟨M q,L⟩⟩;unfold px;rw[ak rfl];exact D
 rename_i c;split at r
 ·rename_i v;rw[r];unfold tI;have o:np s=(-1,false,()):=by unfold np;rw[ae e,ae a,ae (v.elim (λq=>qU q bt) (λq=>qU q bt))]
  split
  ·exact hB c
  split
  ·exact uc.store (by rw[o];exact IQ h _ _ _ _) (dz w) a c
  ·exact uc.store (by rw[o];exact IQ h _ _ _ _) (dz w) a c
 rename_i v;split at r
 ·rename_i x;have o:np s=(-1,false,()):=by unfold np;rw[ae e,ae a,ae (qU x bt)]
  split at r
  ·rw[r];exact hB c
  ·rw[r];exact uc.store (by rw[o];exact IQ h _ _ _ _) (dz w) a c
 rename_i x;split at r
 ·rename_i A;rw[r];have o:np s=(s.2.1,false,()):=by unfold np;rw[ae e,ae a,ak A]
  rcases Sl h (n:=n+5*w.st.length+2) i (s:=s)with⟨C,f,j,l,B⟩|⟨C,f,j,b,l,B⟩
  ·exact uc.keep l B f (.inl c)
  ·have m:(jh (io w s)).1.2.1≠0:=by
    show(io w s).1.2≠0;rw[f];omega
   refine⟨?_,λ_=>⟨b,l⟩,λq=>absurd q m,λ_ q=>absurd q a,λ_=>B, .inl ?_,λq=>absurd q c⟩
   ·unfold px;rw[ae m,o];exact j
   ·exact Ja w s
 rename_i A;split at r
 ·obtain⟨W,N,rfl⟩:=r;have F:=gZ h;obtain⟨D,u⟩:=Jb h (n:=0) (i.mono (by rw[kY];have:=kX i;have:=Nat.mul_le_mul_left w.st.length this;omega)) (my F) N;exact uc.keep D u rfl (.inl c)
 ·rw[r];exact hB c
theorem to5(h:¬x<0)(h':¬5<=x):x.toNat<5:=ac
theorem toI(h:¬x<1)(h':¬(n:Int)<x):(x-1).toNat<n:=ac
theorem kl{w:Wd}(h:cU w n)(f:w.st.length<1000)(e:b.length<=2000000)(m:Int):cU (w.keep b m) n:=
 ⟨λi c=>by rw[eL w b m c];exact h.cl i c,h.ts,h.sec,h.al,h.lg,h.l5,h.go,⟨by show(w.st++[b]).length<=1000;rw[aa,bi];omega,by show(w.ln++[m]).length=(w.st++[b]).length;rw[aa,aa,h.st.2.1];rfl,λx a=>by
  have a:x∈w.st++[b]:=a;rcases ba.1 a with q|q
  ·exact h.st.2.2 x q
  ·rw[bV.1 q];exact e⟩,h.dr⟩
variable{z:List Tm×KV}
theorem Jc{w:Wd}(h:cU w n)(b:0<=d/\d+2*n<=1000000)(c:cb (10000*n+10000) z.1):cU (w.su d z) n:=
 ⟨λi a=>by rw[qI w d z a];exact h.cl i a,c,h.sec,h.al,h.lg,h.l5,h.go,h.st,b⟩
theorem zA{w:Wd}(h:cU w (k+2))(l:w.st.length<400){y:(Int×Int)×Wd}(r:ff w x y):cU y.2 k/\y.2.st.length<=w.st.length+1:=by
 obtain⟨c,m,r⟩:=r;have e:=tG h x c;split at r
 ·rw[r];exact⟨Jc (h.mono ac) (by have:=h.dr;omega) (e.1.mono ac),Nat.le_succ _⟩
 rename_i b;have b:=aA.1 b;split at r
 ·rw[r];exact⟨(tH h b h.go).mono ac,Nat.le_succ _⟩
 obtain⟨z,f,r⟩:=r;have i:=tH h b (g:=ua w.go c) (by rw[rB];exact h.go);have j:=gB i ac f;have a:=(gX f).1;rw[r];have a:z.2.st=w.st:=a;refine⟨kl j (by rw[a];omega) (e.2 b).2.1 0,?_⟩;show(z.2.st++[_]).length<=_;rw[aa,a];exact aE _
theorem AD{w:Wd}(h:cU w n)(a:w.st.length<1000)(b:r.1.length<=100000):cU (kj w i r).2 n/\(kj w i r).2.st.length<=w.st.length+1:=by
 unfold kj;split
 ·exact⟨h,Nat.le_succ _⟩
 ·exact⟨kl h a ac _,by show(w.st++[_]).length<=_;simp⟩
variable{l l':Lt}
theorem lpL(a:l.2.2.2.2.1.length<=32)(b:l.2.2.2.2.2.1.length<=4112)(c:l.2.2.2.2.2.2.1.length<=64):(eV l).length<=100000:=by
 have v:=bC;have e:=eC l.2.2.2.2.1;have f:=eC l.2.2.2.2.2.1;have g:=eC l.2.2.2.2.2.2.1;have:=v l.1;have:=v l.2.1;have:=v l.2.2.1;have:=v l.2.2.2.1;unfold eV dp;simp only[aa];omega
theorem xd{w:Wd}(h:cU w (n+5*w.st.length+3))(e:lh w)(C:w.st.length<900)(r:mY w s y):cU y.2 n/\y.2.st.length<=w.st.length+1:=by
 have a:cU w n/\w.st.length<=w.st.length+1:=⟨h.mono ac,Nat.le_succ _⟩;unfold mY at r;split at r
 ·obtain⟨z,b,rfl⟩:=r;unfold jG at b;split at b
  ·rw[b];exact a
  rename_i no;split at b
  ·rw[b];exact a
  rw[not_or,not_or]at no;obtain⟨q,j,rfl⟩:=b;have:=I0 (n:=n) (h.mono ac) (to5 no.1 no.2.1) j;have:=AD (i:=s.2.1.toNat) this.1 (by rw[this.2.2.1];omega) this.2.1;rename_i t;rw[t.2.2.1]at this;exact this
 split at r
 ·split at r
  ·rw[r];exact a
  rename_i g;rw[not_or]at g;obtain⟨z,b,rfl⟩:=r;exact zA (h.mono ac) ac b
 split at r
 ·split at r
  ·rw[r];exact a
  rename_i g;rw[not_or]at g;obtain⟨z,b,rfl⟩:=r;refine⟨gB (h.mono ac) (aA.1 g.1) b,?_⟩;show z.2.st.length<=_;rw[(gX b).1];exact Nat.le_succ _
 split at r
 ·rw[r];unfold tI;split
  ·exact a
  rename_i g;rw[not_or,not_or,not_or,not_or]at g;obtain⟨o,p,D,E,F⟩:=g;have u:=h.st.2.2 _ (aV (z:=([]:BL)) (toI o p));split
  ·exact⟨kl a.1 ac (by rw[bd];omega) _,by show(w.st++[_]).length<=_;simp⟩
  ·exact⟨kl a.1 ac (by rw[cI];exact u) _,by show(w.st++[_]).length<=_;simp⟩
 split at r
 ·split at r
  ·rw[r];exact a
  rename_i g;rw[not_or]at g;rw[r];exact⟨kl a.1 ac ac _,by show(w.st++[_]).length<=_;simp⟩
 split at r
 ·rw[r];unfold io;split
  ·exact a
  split
  ·exact a
  dsimp only;have c:=lmS (k:=10000*n+10000) (sec:=w.se s.2.1.toNat 1) (ep:=(aO .i64 s.2.2.2.1 (w.ky s.2.1.toNat)).getD []) (l:=s.2.2.2.2.2.2.2) (text:=s.2.2.2.2.2.2.1) w.m (h.ts.mono ac);have f:=Jc (d:=w.d) (z:=(mT (w.se s.2.1.toNat 1) ((aO .i64 s.2.2.2.1 (w.ky s.2.1.toNat)).getD []) s.2.2.2.2.2.2.2 s.2.2.2.2.2.2.1 w.ts w.m).2) a.1 a.1.dr c.1;split
  ·exact⟨f,Nat.le_succ _⟩
  ·refine⟨kl f (by show w.st.length<1000;omega) (bE (lpL c.2.1 c.2.2.1 c.2.2.2) ac) _,?_⟩;show(w.st++[_]).length<=_;simp
 split at r
 ·obtain⟨v,x,rfl⟩:=r;obtain⟨A,B,_⟩:=tK (n:=n) (h.mono (by rw[kY];have:=kX h;have:=Nat.mul_le_mul_left w.st.length this;omega)) (my e) x;exact⟨A,by show v.st.length<=_;rw[B];exact Nat.le_succ _⟩
 ·rw[r];exact a
def isE(b:BL):Bool:=decide (b.length<=65536)&&((dn b 0 true 0 1 4).2.2==0&&((dn b 0 true 0 1 4).1==1&&eZ b (jJ b true (0,0)).2.1 true (jJ b true (0,0)).2.2==0))
def reE(w:Wd)(i:Int)(b:BL):(Int×Nw)×Wd:=
 let r:=kT (w.cl i.toNat).c (w.cl i.toNat).se (w.cl i.toNat).lg (w.cl i.toNat).km (jJ b true (0,0)).1 w.ts w.m
 ((r.1.2,r.1.1),fH b i (r.1.2,r.1.1) (w.aft i.toNat ({w.cl i.toNat with lg:=r.2.1,km:=r.2.2.1},r.2.2.2)))
theorem Jd{w:Wd}{y:(Int×Nw)×Wd}(h:isE b=true)(r:iV w x b y):y=reE w x b:=by
 unfold isE at h;simp only[aK,ai,aS]at h;obtain⟨g,c,e,f⟩:=h;obtain⟨r,a,rfl⟩:=r;unfold ol at a;rw[ae ac]at a;dsimp only at a;rw[ae (λq=>q c),ak e,ae (λq=>q f)]at a;rw[a];rfl
def mbW(w:Wd)(n:Int):(Int×Int)×Wd:=
 let r:=reE (w.mb n [] (ua w.go [])) 0 (gi (dW w n []).1.1)
 ((0,(r.2.st.length:Int)+1),{r.2 with st:=r.2.st++[gi (dW w n []).1.1],ln:=r.2.ln++[0]})
def Nr(w:Wd)(n:Int):Bool:=decide (Bu n ((cZ w.lg.2.1 w.lg.2.1.length).map (·.1)) 0 w.al=[])&&((dW w n []).1.2==0&&((qH w n []).1==0&&isE (gi (dW w n []).1.1)))
theorem Dr{w:Wd}{y:(Int×Int)×Wd}(h:Nr w x=true)(r:ff w x y):y=mbW w x:=by
 unfold Nr at h;simp only[aK,ai,aS]at h;obtain⟨b,c,f,g⟩:=h;obtain⟨i,⟨a,_⟩,r⟩:=r;rw[b]at a;have e:i=[]:=List.map_eq_nil_iff.1 a;subst e;rw[ae (λq=>q c),ae (λq=>q f)]at r;obtain⟨z,j,rfl⟩:=r;rw[Jd g j];rfl
theorem Je:((fo 32).all λn=>n % 2==0||Nr lw (n:Int))=true:=dC
theorem zB(h:1<=x/\x<=31/\x % 2=1){y:(Int×Int)×Wd}(r:ff lw x y):y.1.1=0:=by
 have:=cH.1 Je x.toNat (List.mem_range.2 ac);have e:((x.toNat:Nat):Int)=x:=ac
 rw[jb,e]at this;rcases this with q|q
 ·exfalso;rw[aS]at q;omega
 ·rw[Dr q r];rfl
theorem Pj{n:Int}(h:1<=n/\n<=31/\n % 2=1){y:(Int×Int)×Wd}(r:ff lw n y):Au y.2 [(0,true,())]/\cU y.2 9998/\y.2.st.length=1/\y.2.lg.2.1.length=1:=by
 have a:=zB h r;have b:=zA (k:=9998) mB bt r;rcases pw SL (k:=9998) mB bt r with⟨c,_⟩|⟨_,_,e,_,_,i,E,_,_,f,_,g,_⟩
 ·exact absurd a c
 ·exact⟨e,b.1,by rw[f];rfl,by rw[g];rfl⟩
def s71:jt:=(7,1,0,1,0,0,[],Lc)
def s72:jt:=(7,1,0,2,0,0,[],Lc)
def hW1:Wd:=(mbW lw 3).2
def Ds:Wd:=(reE hW1 1 (hW1.st.getD 0 [])).2
def hZ:(BL×Int)×Pg×Ln×List Tm×KV:=xr (Ds.cl 0).c (Ds.cl 0).sg (Ds.cl 0).lg (Ds.cl 0).pg (Ds.cl 0).km (Ds.cl 0).bk [jr] (0,fO) Ds.ts Ds.m
def lj:Wd:=(ub (Ds.wrt 0 hZ) hZ.1.1 (Dd (Ds.wrt 0 hZ) 0 hZ.1.1)).2
theorem a67{y:(Int×Int)×Wd}(h:ff lw 3 y):y.2=hW1:=by rw[Dr dC h];rfl
theorem a68(h:mY hW1 s71 y):y.2=Ds:=by
 unfold mY at h;rw[ae bt,ae bt,ak bt,ae (ap dC)]at h;obtain⟨z,a,rfl⟩:=h;exact aI Prod.snd (Jd dC a)
theorem a69(h:mY Ds stA y):y.2=lj:=by
 unfold mY at h;rw[ak bt]at h;obtain⟨z,a,rfl⟩:=h;unfold jG at a;rw[ae (ap dC),ae (ap dC)]at a;obtain⟨r,b,rfl⟩:=a;unfold vw at b;rw[ae bt,ae bt]at b;obtain⟨p,l,e,n,o,b⟩:=b;have c:(Ds.cl (0:Int).toNat).pg=ka:=dC
 have s:p=ka:=n.2.1 c;have m:=o.2 s rfl;have t:l=[jr]:=aI Prod.fst m;have u:e=0:=aI Prod.snd m;subst t u;rcases b with⟨q,_⟩|⟨_,v,z,⟨w,f,g⟩,a,rfl⟩
 ·exact absurd rfl q
 have i:w=ka:=f.2.1 c;have j:v=(0,fO):=g.2.1 i rfl;subst j;have a:z=hZ:=a;subst a;show(kj (Ds.wrt 0 hZ) 0 hZ.1).2=lj;unfold kj;rw[ae (ap dC)];rfl
def hB:BL:=lj.st.getD 1 []
def hL:Lt×Rs:=pl hB true (0,0)
def Pk:(Lk×Int)×List Tm×KV:=nE (gn (cZ lj.c1.lg.2.1 hL.1.2.2.1) hL.1.2.1).1.2.2.1 hL.1 lj.ts lj.m
def SN:Int×List Tm×KV:=wJ hL.1 Pk.1.1 lj.c1.la lj.c1.bk Pk.2.1 Pk.2.2
def Pm:(BL×Int)×List Tm×KV:=tq ((aO .i64 hL.1.2.2.1 lj.c1.km).getD []) hL.1 SN.2.1 SN.2.2
theorem a7a{z:xt}(h:kg lj.c1 hL.1 lj.ts lj.m z):z.1=0/\z.2.1=fO/\∀p∈z.2.2.1,p.2.length<=1048576:=by
 unfold kg at h;rw[ae (ap dC),ae (ap dC)]at h;dsimp only at h;have h:(if Pk.1.2≠0 then z=(Pk.1.2,lj.c1.pg,lj.c1.bk,Pk.2)else if SN.1≠0 then z=(SN.1,lj.c1.pg,lj.c1.bk,SN.2)else if(xo lj.c1.lg.2.1.reverse hL.1.2.1).2=true/\(hL.1.1≠2\/(xo lj.c1.lg.2.1.reverse hL.1.2.1).1<hL.1.2.2.2.1)then z=(19,lj.c1.pg,lj.c1.bk,SN.2)else if(aO .i64 hL.1.2.2.1 lj.c1.km).isSome=false then z=(22,lj.c1.pg,lj.c1.bk,SN.2)else if Pm.1.2≠0 then z=(Pm.1.2,lj.c1.pg,lj.c1.bk,Pm.2)else tY hL.1 Pk.1.1 Pm.1.1 lj.c1.pg lj.c1.bk Pm.2.1 Pm.2.2 z):=h;rw[ae (ap dC),ae (ap dC),ae (ap dC),ae (ap dC),ae (ap dC)]at h;unfold tY at h;rw[ak (af dC)]at h;have e:=h.2.2 dC dC dC;have a:((EK Pk.1.1 lj.c1.pg lj.c1.bk (0,fO) Pm.2.1 Pm.2.2).2.2.1.all λp=>decide (p.2.length<=1048576))=true:=dC
 rw[e];exact⟨dC,dC,λp b=>af (cH.1 a p b)⟩
theorem a7b(h:mY lj s72 y):y.1.1=0/\y.2.c1.pg=fO/\y.2.st.length=2/\∀p∈y.2.c1.bk,p.2.length<=1048576:=by
 unfold mY at h;rw[ae bt,ae bt,ak bt,ae (ap dC)]at h;obtain⟨z,b,rfl⟩:=h;obtain⟨r,a,rfl⟩:=b;have a:ol lj.c1 hB lj.ts lj.m r:=a;unfold ol at a;rw[ae (ap dC)]at a;dsimp only at a;rw[ae (ap dC),ae (ap dC),ae (ap dC)]at a;obtain⟨x,f,n,b,-,l,rfl⟩:=a;obtain⟨e,g,i⟩:=a7a b;obtain⟨j,o,q,c⟩:=ki (lj.st.getD (s72.2.2.2.1-1).toNat []) s72.2.1 (x.1,n) (lj.aft s72.2.1.toNat ({lj.c1 with pg:=x.2.1,la:=xu hL.1 x.1 lj.c1.la,fk:=f,bk:=x.2.2.1},x.2.2.2));refine⟨e,?_,?_,λp s=>i p ?_⟩
 ·exact(aI Cl.pg (c 1)).trans g
 ·refine(aI ah j.st).trans ?_;show lj.st.length=2;kernel_rfl
 ·rwa [<-show _=x.2.2.1 from aI Cl.bk (c 1)]
def SO:bG:=(15,[tL])::a61
def SQ:=kB 15 [tL] a62 (bL xb) (l:=bL (λ_=>Live.ite (λ_=>Live.all ⟨_,(mw (k:=9998) mB _).choose_spec,Live.leaf⟩) (λ_=>Live.leaf)))
def SR:bG:=(7,[zx])::SO
def SS:=kB 7 [zx] SQ (bL I6) (l:=bL (λ_=>aU λ_=>⟨false,λh=>by cases h⟩))
def SU:bG:=(18,[zy])::SR
def SV:=kB 18 [zy] SS (bL I8)
def Ns:Ct:=⟨2,⟨[sP 0,(1,false,[.k (.i64 1)])],nn⟩,[⟨[(0,false,[.ptr 33 0])],nn++hY 33⟩],λ(F,G,H,J,K,L,M,N,O,b,e,f,g,h,i,j,l,m,o,q,r,s,t,u,v,w,x,z,a,A,B,C,D,E,_)=>fJ ((∃n,cU (cS (F,G,H,J,K,L,M,N,O,b,e,f,g,h,i,j,l,m,o,q,r,s,t,u,v,w,x,z,a,A,B,C,D,E,())) n)/\∀p∈a,p.2.length<=1048576) (λy:Cl=>jD (cS (F,G,H,J,K,L,M,N,O,b,e,f,g,h,i,j,l,m,o,q,r,s,t,u,v,w,x,z,a,A,B,C,D,E,())).c1.pg y.pg) λy=>(F,G,H,J,K,L,M,N,O,b,e,f,g,h,i,j,l,m,o,q,r,s,t,u,v,w,x,z,a,A,B,C,D,E,y.c,y.se,y.sg,y.lg,y.pg,y.la,y.fk,y.km,y.bk,())⟩
def a0s:bG:=(21,[Ns])::SU
def a0t:=kA 21 Ns SV (cQ Ns 0) (WA λe f g h i j k l a c m n o q r s t u v w y z x A B C D E d F G H J K=>∀Q,bg Ns (e,f,g,h,i,j,k,l,a,c,m,n,o,q,r,s,t,u,v,w,y,z,x,A,B,C,D,E,d,F,G,H,J,K,()) Q->True/\Br false False (((∀(p:Int×List Kn),p∈d->ah p.2<=1048576)/\cy c.1/\cK a.2.2.2.1.2.1 a.2.2.2.1.2.2.1)/\∀(b:Cl),jD c.1 b.pg->Q ⟨0,e,f,g,h,i,j,k,l,a,c,m,n,o,q,r,s,t,u,v,w,y,z,x,A,B,C,D,E,d,F,G,H,J,K,b.c,b.se,b.sg,b.lg,b.pg,b.la,b.fk,b.km,b.bk,()⟩)) (by
 unfold Br WA bg;refine Wd.all λw=>?_;intro Q ⟨⟨⟨n,h⟩,a⟩,f⟩;have e:=(h.cl 1 bt).1;exact⟨trivial,(λc=>by cases c),λ_=>⟨⟨a,e.2.2.2.2.1,e.2.2.2.2.2.2.1⟩,λb a=>f b a⟩⟩) (l:=λ_=>aU λ_=>⟨⟨0,[],[],([],[],[],()),_,[],[],[],[]⟩,(js _).choose_spec⟩)
def zC:Ct:=⟨0,⟨[],[]⟩,[⟨[sL 0],[]⟩],λ_=>one True (true,())⟩
def SW:bG:=(8,[zC])::a0s
def Jf:=kA 8 zC a0t (cQ zC 0) (∀(Q:cF zC.out->Prop),let z:=true=false->Q ⟨0,false,()⟩;bg zC () Q->(true=true->∀(b:(Int×Int)×Wd),let f:=cS (cY b.2);ff lw 3 b->((([]:BL)).length<=1000000/\lh f/\∃c,cU f (c+5*b.2.st.length+3))/\∀(d:(Int×Int×Nw)×Wd),let g:=cS (cY d.2);mY f (7,1,0,1,0,0,([]:BL),0,0,0,0,[],[],[],()) d->((([97]:BL)).length<=1000000/\lh g/\∃c,cU g (c+5*d.2.st.length+3))/\∀(b:(Int×Int×Nw)×Wd),let h:=cS (cY b.2);mY g (1,0,0,0,0,0,([97]:BL),0,0,0,0,[],[],[],()) b->((([]:BL)).length<=1000000/\lh h/\∃c,cU h (c+5*b.2.st.length+3))/\∀(a:(Int×Int×Nw)×Wd),mY h (7,1,0,2,0,0,([]:BL),0,0,0,0,[],[],[],()) a->Br (a.1.1==0) (((∃c,cU (cS (cY a.2)) c)/\∀(p:Int×List Kn),p∈a.2.c1.bk->ah p.2<=1048576)/\∀(b:Cl),jD a.2.c1.pg b.pg->cy b.pg/\∀(e:Pg),jD b.pg e->e=([((0,1,()),0,1,0,0,true,97,())],[],[],([((0,0,()),0,0,0,false,[[],[(0,1,())]],()),((0,1,()),0,1,97,false,[[],[]],())],0,()),([],()),())/\(true=true->(a.2.st.length<=1000000/\∀(b:BL),b∈a.2.st->b.length<=10000000)/\Q ⟨0,nI a.2.st==2,()⟩)/\z) (Q ⟨0,false,()⟩))/\z) (by
 conv=>zeta
 unfold Br nI bg cY;rintro Q ⟨_,v⟩;refine⟨λ_ g h=>?_,λc=>by cases c⟩;have h:ff lw 3 g:=h;obtain⟨l,w,L,_⟩:=Pj (n:=3) bt h;have m:cU g.2 (9980+5*g.2.st.length+3):=w.mono ac;refine⟨⟨aq _,gZ l,_,m⟩,λi a=>?_⟩;have a:mY g.2 s71 i:=a;have o:=(SM l m a).au;have y:=xd m (gZ l) ac a;have q:cU i.2 (9950+5*i.2.st.length+3):=y.1.mono ac;refine⟨⟨by show 1<=1000000;decide,gZ o,_,q⟩,λj e=>?_⟩;have e:mY i.2 stA j:=e;have r:=(SM o q e).au;have z:=xd q (gZ o) ac e;have s:cU j.2 (9900+5*j.2.st.length+3):=z.1.mono ac;refine⟨⟨aq _,gZ r,_,s⟩,λA f=>?_⟩;have f:mY j.2 s72 A:=f;have t:=xd s (gZ r) ac f;have B:=a67 h;rw[B]at a;have C:=a68 a;rw[C]at e;have D:=a69 e;rw[D]at f;obtain⟨E,F,G,H⟩:=a7b f;refine⟨λ_=>⟨⟨⟨_,t.1⟩,H⟩,λb u=>⟨u.1,λp J=>⟨J.2.2 (u.2.2 F),λ_=>⟨⟨ac,λx K=>by have:=t.1.st.2.2 x K;omega⟩,?_⟩,λc=>by cases c⟩⟩⟩,λc=>?_⟩
 ·rw[G];exact v
 ·rw[E]at c;exact by cases c)
theorem vy(a:BL)(i:Nat)(h:i<a.length):(bM a)[i]! =iX (a[i]):=by
 have b:i<(a.map iX).toArray.size:=cf h
 have c:i<(bM a).size:=b;have e:(bM a)[i]=(a.map iX).toArray[i]'b:=rfl;rw[getElem!_pos (bM a) i c,e];simp
theorem tM(a:BL):(bM a).size=a.length:=by
 show((a.map iX).toArray).size=_;simp
theorem Jg(a b:BL):((fo (min (bM a).size (bM b).size)).find? λi=>(bM a)[i]! !=(bM b)[i]!)=((fo (min (bM b).size (bM a).size)).find? λi=>(bM b)[i]! !=(bM a)[i]!):=by
 rw[Nat.min_comm]
 congr 1
 funext i;exact bne_comm
theorem Nt(a b:BL):¬(0<lS a b/\0<lS b a)/\(¬0<lS a b->¬0<lS b a->a=b):=by
 unfold lS Extern.BytealgCompare.cmp;rw[Jg b a];have p:=λi(h:((fo (min (bM a).size (bM b).size)).find? λi=>(bM a)[i]! !=(bM b)[i]!)=some i)=>List.find?_some h;have l:=λ(h:((fo (min (bM a).size (bM b).size)).find? λi=>(bM a)[i]! !=(bM b)[i]!)=none)=>List.find?_eq_none.1 h;generalize((fo (min (bM a).size (bM b).size)).find? λi=>(bM a)[i]! !=(bM b)[i]!)=o at*;cases o with
 |some i=>
  have f:=p i rfl;dsimp only;have f:(bM a)[i]!≠(bM b)[i]!:=cf f
  generalize(bM a)[i]! =x at*;generalize(bM b)[i]! =y at*;have r:x.toNat≠y.toNat:=λe=>f (UInt8.toNat.inj e);by_cases g:x<y
  ·have c:¬y<x:=by rw[UInt8.lt_iff_toNat_lt]at*;omega
   rw[ak g,ae c];exact⟨λq=>absurd q.1 bt,λ_ q=>absurd bt q⟩
  ·have c:y<x:=by rw[UInt8.lt_iff_toNat_lt]at*;omega
   rw[ae g,ak c];exact⟨λq=>absurd q.2 bt,λq=>absurd bt q⟩
 |none=>
  have l:=l rfl;dsimp only;rw[tM,tM]at*;refine⟨λq=>?_,λg c=>?_⟩
  ·obtain⟨j,m⟩:=q;split at j
   ·exact absurd j bt
   ·split at m
    ·exact absurd m bt
    ·split at j
     ·omega
     ·exact absurd j bt
  ·have s:a.length=b.length:=by
    by_cases n:a.length<b.length
    ·rw[ae ac,ak n]at c;exact absurd bt c
    ·by_cases t:b.length<a.length
     ·rw[ae n,ak t]at g;exact absurd bt g
     ·omega
   refine List.ext_getElem s λi g c=>?_;have:=l i (List.mem_range.2 ac);have e:(bM a)[i]! =(bM b)[i]!:=cf this
   rw[vy a i g,vy b i c]at e;exact aI UInt8.toBitVec e
theorem Jh(a b:BL):OX a b=OX b a:=by
 obtain⟨f,h⟩:=Nt a b;unfold OX;by_cases c:0<lS a b
 ·rw[ak c,ae (λg=>f ⟨c,g⟩)]
 ·by_cases e:0<lS b a
  ·rw[ae c,ak e]
  ·rw[h c e]
variable{m m':KV}
theorem Pn(h:Cu ts m)(z:ts.length<4294967296)(j:∀x∈ts,eB x):∃m',hV ts=(ts,m')/\Cu ts m':=by
 have e:∀k,k<=ts.length->∃m',hV (ts.take k)=(ts.take k,m')/\Cu (ts.take k) m':=by
  intro k
  induction k with
  |zero=>intro _;exact⟨[],rfl,Cx⟩
  |succ k o=>
   intro l;obtain⟨m',a,b⟩:=o ac;have f:ts[k]?=some ts[k]:=an l;have p:ts.getD k E5=ts[k]:=by rw[aw,f];rfl
   have g:=tr (t:=ts[k]) b (by rw[bd];omega) (λx r=>j x (List.mem_of_mem_take r)) (j _ (ls ..));have s:hV (ts.take (k+1))=(dI ts[k] (ts.take k) m').2:=by rw[wu l,a,p];rfl
   have n:ts.take (k+1)=ts.take k++[ts[k]]:=by rw[dR,f];rfl
   rcases g.ex with q|⟨q,_⟩
   ·exfalso;obtain⟨i,c,_⟩:=g.nm;rw[q]at c
    have u:i<k:=by
     have:=(cq.1 c).1;rw[bd]at this;omega
    rw[pz,ak u]at c;have v:=h.at_ i _ c;have y:=h.at_ k _ f;rw[v]at y;omega
   ·refine⟨(dI ts[k] (ts.take k) m').2.2,?_,?_⟩
    ·rw[s,n,<-q]
    ·rw[n,<-q];exact g.w
 obtain⟨m',a,b⟩:=e ts.length (aE _);rw[bv]at a b;exact⟨m',a,b⟩
theorem zD:∀{l:List Mb}{id:Int}{k j:Nat},E7 l id k=some j->∃(i:Nat)(p:Mb),j=k+i/\l[i]?=some p/\p.1=id
 |[],_,_,_,h=>by simp[E7]at h
 |m::r,id,k,j,h=>by
  simp only[E7]at h;split at h
  ·rename_i e;exact⟨0,m,by have:=Option.some.inj h;omega,rfl,e⟩
  ·obtain⟨i,p,c,a,b⟩:=zD h;exact⟨i+1,p,ac,cf a,b⟩
theorem zE:∀{l:List Mb}{id:Int}{k:Nat},E7 l id k=none->∀p∈l,p.1≠id
 |[],_,_,_,p,a=>by cases a
 |m::r,id,k,h,p,a=>by
  simp only[E7]at h;split at h
  ·cases h
  ·rename_i e;rcases bm.1 a with q|q
   ·rw[q];exact e
   ·exact zE h p q
theorem a0u{n:Int}(a:sec.length=32)(b:ts.length<=4294967296)(c:Nm ts pub (112,[v],())):(gp n id sec pub ts m).1.2=0:=by
 have e:fi pub 112 ts=((112,[v],()),true):=qE b c
 have f:(jq sec pub ts m).2=0:=by
  unfold jq;rw[ae (λq=>q a),e,ae (λq=>by cases q)]
 unfold gp;rw[ae (λq=>q f)]
variable{f:List BL}
theorem TW:((107,f,()):Tm).1≠98/\((107,f,()):Tm).1≠103:=⟨by show(107:BitVec 8)≠98;decide,by show(107:BitVec 8)≠103;decide⟩
structure nq(w:Wd)(ts:List Tm)(ks:List BL)(E:Et):Prop where
 lg:w.lg.2.1[(E.1-1).toNat]?=some (ER E)
 box:∃once key,ks[(E.1-1).toNat]?=some key/\key.length=32/\once.length=32/\Nm ts E.2.2.2.2.1 (112,[once],())/\∀(i:Nat)(p:Mb),E.2.2.1[i]?=some p->∃(a:Nat)(b:BL),a<5/\p.1=(a:Int)/\E.2.2.2.2.2.1[i]?=some b/\Bx ts E.1 once key (eo E) p.1 (w.se a 0) b
variable{E e:Et}{K K':Tm->Prop}
theorem nq.gr{w:Wd}{ks:List BL}(h:nq w ts ks E)(g:Gr K ts ts'):nq w ts' ks E:=by
 obtain⟨f,c,e,j,l,m,n,o⟩:=h;refine⟨f,c,e,j,l,m,g.nm n,λi p q=>?_⟩;obtain⟨a,b,r,s,t,u⟩:=o i p q;exact⟨a,b,r,s,t,u.gr g⟩
theorem Po{w:Wd}{ks:List BL}(h:Au w md)(o:Su (k+2) ts m)(G:iU E=true)(H:nq w ts ks E)(hc:c<5)(f:(w.se c 0).length=32){p:Mb}(J:p∈E.2.2.1)(r:p.1=(c:Int)):
 ∃key,ks[(E.1-1).toNat]?=some key/\(pj E c (w.se c 0) ts m).1=(key,0):=by
 obtain⟨h1,y,key,K,L,h4,s,M⟩:=H;refine⟨key,K,?_⟩;have N:ts.length<=4294967296:=by have:=o.k.2;omega
 have g:aB (w.se c 0):=hK
 obtain⟨j,z⟩:∃j,E7 E.2.2.1 c 0=some j:=by
  cases O:E7 E.2.2.1 c 0 with
  |none=>exact absurd r (zE O p J)
  |some j=>exact⟨j,rfl⟩
 obtain⟨i,q,A,P,Q⟩:=zD z;have A:j=i:=ac
 subst A;obtain⟨a,b,b1,b2,R,S⟩:=M j q P;have U:a=c:=ac
 subst U;have l:=a0u (n:=E.1) (id:=(a:Int)) (m:=m) f N s;have t:=OY (n:=E.1) (id:=(a:Int)) (m:=m) (k:=k) g o l s;have e:=M_ (pub:=E.2.2.2.2.1) (k:=k) (m:=m) E.1 (a:Int) g (show aB E.2.2.2.2.1 by have:=s.len32 (by show(112:BitVec 8)≠98;decide) (by show(112:BitVec 8)≠103;decide);unfold aB;omega) o;have W:E.2.2.2.2.2.1.getD j []=b:=by rw[aw,R];rfl
 unfold pj;rw[bN,ae (by rw[G];decide),z];dsimp only;rw[ae (λq=>q l),W];generalize gp E.1 (a:Int) (w.se a 0) E.2.2.2.2.1 ts m=B at*;obtain⟨X,C,Y,u,c3⟩:=S.gr e.gr;obtain⟨v,D,d2⟩:=t;have F:=e.su.w;have x:B.2.1.length<=4294967296:=by have:=e.su.k.2;omega
 rw[Jh]at D;have es:v=X:=Nm.inj F D Y;subst es;rw[Q]at u;have ek:B.1.1=C:=Nm.inj F d2 u;have hf:fi b 98 B.2.1=((98,[C,dB 1,eo E,key],()),true):=qE x c3
 have ho:ov B.1.1 1 (eo E) b B.2.1=(key,0):=by
  unfold ov
  rw[ek,ae (by
   have:=u.len32 TW.1 TW.2;rw[not_or];exact⟨λq=>q this,bt⟩),hf,ak ⟨rfl,rfl,rfl,rfl⟩]
  rfl
 rw[ho,ae (λq=>q rfl),ae (λq=>q L)]
def mbr(w:Wd)(N:Int)(i:Nat):Prop:=∃e,w.lg.2.1[(N-1).toNat]?=some e/\∃p∈e.2.2.1,p.1=(i:Int)
def BC(w:Wd)(ks:List BL)(i:Nat)(km:KM):Prop:=∀q∈km,∃j:Nat,q.1=(j:Int)+1/\ks[j]?=some q.2/\q.2.length=32/\mbr w ((j:Int)+1) i
def qV(ts:List Tm)(ks:List BL)(l:Lt):Prop:=∃a b c,ks[(l.2.2.1-1).toNat]?=some a/\a.length=32/\Nm ts b (107,[a,jB l],())/\Nm ts l.2.2.2.2.2.1 (98,[b,dB l.2.2.2.1,dp l,c],())
theorem qV.gr{ks:List BL}(h:qV ts ks l)(g:Gr K ts ts'):qV ts' ks l:=let⟨a,b,c,e,f,i,j⟩:=h;⟨a,b,c,e,f,g.nm i,g.nm j⟩
theorem qV.ks{ts:List Tm}{ks:List BL}{l:Lt}(h:qV ts ks l)(x:List BL):qV ts (ks++x) l:=let⟨a,b,c,e,f,g,i⟩:=h;⟨a,b,c,dm e,f,g,i⟩
def Hon(w:Wd)(ks:List BL)(n:Nat)(a:Int):Prop:=(∃E,w.st[n]?=some (gi E)/\iU E=true/\a=0/\nq w w.ts ks E)\/∃l,w.st[n]?=some (eV l)/\jY l=true/\l.2.1=a/\qV w.ts ks l
structure Ke(w:Wd)(md:List Md)(ks:List BL):Prop where
 len:ks.length=w.lg.2.1.length
 dr:∀(i:Nat)(k:BL),ks[i]?=some k->∃c:Nat,(c:Int)<=w.d/\c<=1099511627776/\Nm w.ts k (115,[dB (c:Int)],())
 dif:∀(i j:Nat)(k:BL),ks[i]?=some k->ks[j]?=some k->i=j
 hon:∀(n:Nat)(a:Int),md[n]?=some (a,true,())->Hon w ks n a
 km:∀i:Nat,i<5->BC w ks i (w.cl i).km
 ky:∀i:Nat,i<5->BC w ks i (w.ky i)
 eq:∀i:Nat,i<5->∀N:Int,aO .i64 N (w.ky i)=aO .i64 N (w.cl i).km
theorem a0v{N:Int}{v:BL}{q:Int×BL}:∀{l:KM},q∈cL (kt:= .i64) N v l->q=(N,v)\/q∈l
 |[],h=> .inl (bV.1 h)
 |p::r,h=>by
  simp only[cL]at h;split at h
  ·rename_i e;have e:N=p.1:=eR.1 e;rcases bm.1 h with g|g
   ·left;rw[g,e]
   ·exact .inr (aD _ g)
  ·rcases bm.1 h with g|g
   ·exact .inr (g▸aF ..)
   ·exact(a0v g).imp id (aD _)
theorem SX{N:Int}{v:BL}:∀{l:KM},aO .i64 N l=some v->(N,v)∈l
 |[],h=>by simp[aO,cD]at h
 |p::r,h=>by
  simp only[aO,cD]at h;split at h
  ·rename_i e;have e:N=p.1:=eR.1 e;have h:=Option.some.inj h;rw[e,<-h];exact aF ..
  ·exact aD _ (SX h)
def qW(N:Int)(key:BL)(c:Int):List Mb->KM->KM
 |[],a=>a
 |p::r,a=>qW N key c r (if p.1=c then cL (kt:= .i64) N key a else a)
theorem Dt{N:Int}{key:BL}{c:Int}{q:Int×BL}:∀{l:List Mb}{km:KM},q∈qW N key c l km->q∈km\/q=(N,key)/\∃p∈l,p.1=c
 |[],_,h=> .inl h
 |p::r,km,h=>by
  simp only[qW]at h;rcases Dt h with g|⟨a,x,b,f⟩
  ·split at g
   ·rename_i e;rcases a0v g with g|g
    ·exact .inr ⟨g,p,aF ..,e⟩
    ·exact .inl g
   ·exact .inl g
  ·exact .inr ⟨a,x,aD _ b,f⟩
theorem Du{N:Int}{key:BL}{c:Int}:∀{l:List Mb}{km a:KM},(∀M:Int,aO .i64 M km=aO .i64 M a)->∀M:Int,aO .i64 M (qW N key c l km)=aO .i64 M (qW N key c l a)
 |[],_,_,h=>h
 |p::r,km,a,h=>by
  simp only[qW];refine Du λM=>?_;split
  ·show cD (kt:= .i64) M (cL (kt:= .i64) N key km)=cD (kt:= .i64) M (cL (kt:= .i64) N key a);rw[fM,fM];split
   ·rfl
   ·exact h M
  ·exact h M
theorem BD{w:Wd}{md:List Md}{ks:List BL}(h:Au w md){E:Et}(g:iU E=true){c:Nat}(i:c<5)(a:(w.se c 0).length=32){key:BL}(j:ks[(E.1-1).toNat]?=some key){k:Nat}:∀(l:List Mb)(km:KM)(ts:List Tm)(m:KV),Su (k+2*l.length) ts m->nq w ts ks E->(∀p∈l,p∈E.2.2.1)->
 (rv E c (w.se c 0) l km ts m).1=0/\(rv E c (w.se c 0) l km ts m).2.1=qW E.1 key c l km
 |[],_,_,_,_,_,_=>⟨rfl,rfl⟩
 |p::r,km,ts,m,n,b,o=>by
  have s:aB (w.se c 0):=hK
  have z:E.2.2.2.2.1.length=32:=by obtain⟨_,u,key,_,_,_,q,_⟩:=b;exact q.len32 (by show(112:BitVec 8)≠98;decide) (by show(112:BitVec 8)≠103;decide)
  simp only[rv,qW];by_cases e:p.1=(c:Int)
  ·rw[ae (λq=>q e),ak e];obtain⟨v,f,y⟩:=Po h (k:=k+2*r.length) (m:=m) (n.mono eM) g b i a (o p (aF ..)) e;have x:=keP (e:=E) (c:=(c:Int)) (m:=m) (k:=k+2*r.length) s (show aB E.2.2.2.2.1 by unfold aB;omega) (n.mono eM);rw[j]at f;have f:=Option.some.inj f;subst f;rw[y,ae (λq=>q rfl)];exact BD h g i a j (k:=k) r _ _ _ (x.su.mono ac) (b.gr x.gr) (λq t=>o q (aD _ t))
  ·rw[ak e,ae e];exact BD h g i a j (k:=k) r _ _ _ (n.mono eM) b (λq t=>o q (aD _ t))
theorem SY{w:Wd}{ks:List BL}(h:Au w md)(j:iU E=true)(n:c<5)(a:(w.se c 0).length=32)(o:ks[(E.1-1).toNat]?=some key)(b:Su 2 ts m)(s:nq w ts ks E):∀(l:List Mb)(km:KM),(∀p∈l,p∈E.2.2.1)->Nk E c (w.se c 0) ts l km=qW E.1 key c l km:=by
 obtain⟨t,u,v⟩:=Pn b.w (by have:=b.k.2;omega) b.k.1;intro l
 induction l with
 |nil=>intro _ _;rfl
 |cons p r x=>
  intro km g;simp only[Nk,qW];rw[x _ (λq y=>g q (aD _ y)),u];by_cases e:p.1=(c:Int)
  ·obtain⟨i,f,z⟩:=Po h (k:=0) (m:=t) ⟨v,b.k⟩ j s n a (g p (aF ..)) e;rw[o]at f;have f:=Option.some.inj f;rw[ak e,ak e];dsimp only;rw[z,f]
  ·rw[ae e,ae e]
theorem SZ(h:iU e=true)(h':iU E=true)(q:gi e=gi E):e=E:=by
 obtain⟨a,f,_⟩:=OT h;obtain⟨b,g,_⟩:=OT h';rw[q,g]at f;exact(aI Prod.fst f).symm
theorem Ji(h:jY l=true)(h':jY l'=true)(q:eV l=eV l'):l=l':=by
 obtain⟨a,c,_⟩:=Ir h;obtain⟨b,e,_⟩:=Ir h';rw[q,e]at c;exact(aI Prod.fst c).symm
theorem Jj(h:jY l=true):eV l≠gi e:=by
 intro q;have a:=(dJ h).1;unfold eV dp gi dS eo at q;simp only[ay]at q;have:=(fg (by have:=a.1;omega) (by have:=a.2.1;omega) ac ac q).1;have:=a.1;omega
theorem S0{w:Wd}{ks:List BL}(h:Au w md)(K:Ke w md ks)(c:iU e=true)(g:ws w.lg.1 (dS e) e.2.2.2.2.2.2.1 w.ts=true):nq w w.ts ks e:=by
 obtain⟨n,d,f,i,_⟩:=IM h c g;rcases K.hon n 0 i with⟨E,a,b,_,j⟩|⟨l,a,b,_⟩
 ·rw[f]at a;have:=SZ c b (Option.some.inj a);rw[this];exact j
 ·rw[f]at a;exact absurd (Option.some.inj a).symm (Jj b)
theorem Dv{w:Wd}(h:Au w md){a:Nat}(b:a<5)(c:j<2):(w.se a j).length=32:=(h.sc a j b c).t115
theorem a0w{w:Wd}{ks:List BL}(h:Au w md)(K:Ke w md ks)(A:cU w (n+1))(hi:i<5){y:E9}(r:ol (w.cl i) b w.ts w.m y):
 (y.2.1.km=(w.cl i).km/\¬(y.1.1=0/\y.1.2.1=1))\/
 ((y.1.1=0/\y.1.2.1=1)/\iU (jJ b true (0,0)).1=true/\nq w w.ts ks (jJ b true (0,0)).1/\∃key,ks[((jJ b true (0,0)).1.1-1).toNat]?=some key/\key.length=32/\y.2.1.km=qW (jJ b true (0,0)).1.1 key i (jJ b true (0,0)).1.2.2.1 (w.cl i).km):=by
 have L:Su (10000+10000) w.ts w.m:=(jF h A).mono ac;obtain⟨⟨W,X,Y,p4,p5,p6,p7,p8,p9⟩,a,_⟩:=A.cl i hi;have j:=(h.own i hi).2;obtain⟨⟨q,M⟩,_⟩:=h.cl i hi;unfold ol at r;dsimp only at r;split at r
 ·rw[r];exact .inl ⟨rfl,λe=>by cases e.1⟩
 rename_i hb;have B:bZ b 0:=⟨ac,ac,ac⟩;split at r
 ·rename_i g;rw[r];exact .inl ⟨rfl,λe=>absurd e.1 g⟩
 split at r
 ·split at r
  ·rename_i g;rw[r];exact .inl ⟨rfl,λe=>absurd e.1 g⟩
  ·rename_i g;have g:=aA.1 g;have C:=((M4 B).2 g).2;have N:=im C;rw[r];dsimp only;generalize(jJ b true (0,0)).1=E at*;have D:=R2 (lg:=(w.cl i).lg) (e:=E) (k:=19999) N.2.1 L;unfold kT;rw[bN];dsimp only;split
   ·rename_i l;exact .inl ⟨rfl,λe=>absurd e.1 l⟩
   ·rename_i l;obtain⟨o,t2,F,t4⟩:=Nn (aA.1 l);rw[M]at F;have s:=S0 h K o F;obtain⟨_,G,key,H,O,k3,k4,k5⟩:=id s
    have P:E.2.2.1.length<=5:=by
     have J:=o;unfold iU at J;exact(fT (af J).2.2.2.1).2.1
    have t:=BD h o hi (Dv h hi ac) H (k:=100) E.2.2.1 (w.cl i).km (iu (w.cl i).lg E w.ts w.m).2.2.1 (iu (w.cl i).lg E w.ts w.m).2.2.2 (D.su.mono ac) (s.gr D.gr) (λp Q=>Q);rw[<-j,<-a]at t;rw[ae (λq=>q t.1)];exact .inr ⟨⟨rfl,rfl⟩,C,s,key,H,O,by dsimp only;rw[t.2,a]⟩
 ·split at r
  ·rename_i g;rw[r];exact .inl ⟨rfl,λe=>absurd e.1 g⟩
  ·rename_i g;obtain⟨e1,R⟩:=Ic B (aA.1 g);obtain⟨z,f,S,r1,r2,u,U⟩:=r;rw[U];refine .inl ⟨rfl,λe=>?_⟩;obtain⟨v,x⟩:=e;unfold zi at u;have v:z.1=0:=v;have x:S.1=1:=x;rw[ak v]at u;have c:=(dJ R).1.1;rw[<-u.1,x]at c;exact absurd c bt
theorem nq.lgs{w w':Wd}{ks x:List BL}(h:nq w ts ks E)(l:w'.sec=w.sec)(e:∃s,w'.lg.2.1=w.lg.2.1++s):nq w' ts (ks++x) E:=by
 obtain⟨m,c,f,n,o,q,r,t⟩:=h;obtain⟨s,e⟩:=e;have g:∀a j,w'.se a j=w.se a j:=λa j=>by unfold Wd.se;rw[l]
 refine⟨by rw[e];exact dm m,c,f,dm n,o,q,r,λi p u=>?_⟩;obtain⟨a,b,v,y,z,A⟩:=t i p u;exact⟨a,b,v,y,z,by rw[g];exact A⟩
theorem mbr.lgs{w w':Wd}(h:mbr w N i)(a:∃s,w'.lg.2.1=w.lg.2.1++s):mbr w' N i:=let⟨e,b,c⟩:=h;let⟨_,a⟩:=a;⟨e,by rw[a];exact dm b,c⟩
theorem BC.lgs{w w':Wd}{ks x:List BL}{km:KM}(h:BC w ks i km)(a:∃s,w'.lg.2.1=w.lg.2.1++s):BC w' (ks++x) i km:=λq b=>let⟨j,c,e,f,g⟩:=h q b;⟨j,c,dm e,f,g.lgs a⟩
theorem nq.mb{w:Wd}(h:nq w ts f E)(a:∃p∈E.2.2.1,p.1=(i:Int)):mbr w E.1 i:=⟨_,h.lg,a⟩
theorem Ke.ext{w w':Wd}{ks:List BL}(h:Ke w md ks)(z:w'.sec=w.sec)(u:w'.lg.2.1=w.lg.2.1)(H:w.d<=w'.d)(e:∃s,w'.st=w.st++s)(f:∃s,md'=md++s)(g:Gr K w.ts w'.ts)
 (A:∀i:Nat,i<5->BC w ks i (w'.cl i).km) (B:∀i:Nat,i<5->BC w ks i (w'.ky i)) (C:∀i:Nat,i<5->∀N:Int,aO .i64 N (w'.ky i)=aO .i64 N (w'.cl i).km)
 (new:∀(n:Nat)(a:Int),md.length<=n->md'[n]?=some (a,true,())->Hon w' ks n a):Ke w' md' ks:=by
 have b:∃s,w'.lg.2.1=w.lg.2.1++s:=⟨[],by rw[u,aH]⟩;have v:∀{i:Nat}{y:KM},BC w ks i y->BC w' ks i y:=λq=>by have:=q.lgs (x:=[]) b;rwa [aH]at this
 refine⟨by rw[u];exact h.len,λi k D=>?_,h.dif,λn a j=>?_,λi m=>v (A i m),λi m=>v (B i m),C⟩
 ·obtain⟨c,J,F,G⟩:=h.dr i k D;exact⟨c,ac,F,g.nm G⟩
 ·rcases br n md.length with q|q
  ·obtain⟨s,e⟩:=e;obtain⟨L,f⟩:=f;rw[f,bq q]at j;rcases h.hon n a j with⟨E,o,p,r,t⟩|⟨l,o,p,r,t⟩
   ·have:=(t.gr g).lgs (x:=[]) z b;rw[aH]at this;exact .inl ⟨E,by rw[e];exact dm o,p,r,this⟩
   ·exact .inr ⟨l,by rw[e];exact dm o,p,r,t.gr g⟩
  ·exact new n a q j
theorem tN{w:Wd}{ks:List BL}(h:Au w md)(K:Ke w md ks)(u:cU w (n+1))(hi:0<=d/\d<5){y:(Int×Nw)×Wd}(r:iV w d b y):Ke y.2 md ks:=by
 obtain⟨S,v,L,_⟩:=kW h u hi r;have M:=(gX r).2.2;obtain⟨z,B,rfl⟩:=r;obtain⟨j,rfl⟩:=bo hi.1;have A:j<5:=ac
 rw[aG]at B S v L M⊢;have U:=a0w h K u A B;have O:=rcP (k:=10000*n+10000) (u.cl j A).1 ((jF h u).mono ac) B
 have C:∀x,x<5->(fH b j z.1 (w.aft j z.2)).cl x=if x=j then z.2.1 else w.cl x:=by
  intro x c;rw[(ki b j z.1 (w.aft j z.2)).2.2.2,qg w A c]
 have f:∀x,(w.aft j z.2).ky x=w.ky x:=λx=>by
  have:=(dj w j z.2.1).2.2.2.2.2.2.2.2.2 x;rw[<-this];rcases br x 4 with q|q
  ·rcases(show x=0\/x=1\/x=2\/x=3 by omega)with rfl|rfl|rfl|rfl<;>rfl
  ·obtain⟨x,rfl⟩:=Nat.exists_eq_add_of_le q;rw[fq];rfl
 have D:∀x,x<5->(fH b j z.1 (w.aft j z.2)).ky x=if x=j/\(z.1.1=0/\z.1.2.1=1)then Nk (jJ b true (0,0)).1 j ((w.aft j z.2).se j 0) z.2.2.1 (jJ b true (0,0)).1.2.2.1 (w.ky j)else w.ky x:=by
  intro x c;unfold fH;split
  ·rename_i g;rw[aG,R5 _ _ A c,f,f];by_cases e:x=j
   ·rw[ak e,ak ⟨e,g⟩];rfl
   ·rw[ae e,ae (λq=>e q.1)]
  ·rename_i g;rw[ae (λq=>g q.2),f]
 have F:(w.aft j z.2).se j 0=w.se j 0:=(dl w j z.2).1.se j 0
 have o:∀{E:Et}{l:BL}{G:KM},iU E=true->nq w w.ts ks E->ks[(E.1-1).toNat]?=some l->l.length=32->BC w ks j G->BC w ks j (qW E.1 l j E.2.2.1 G):=by
  intro E l G P W X Y e5 q hq;rcases Dt hq with g|⟨H,g2⟩
  ·exact e5 q g
  ·have h1:1<=E.1:=by unfold iU at P;exact(af P).1
   refine⟨(E.1-1).toNat,by rw[H];dsimp only;omega,by rw[H];exact X,by rw[H];exact Y,?_⟩;have:=W.mb g2
   rwa [show(((E.1-1).toNat:Nat):Int)+1=E.1 by omega]
 have m:∀x,x<5->BC w ks x ((fH b j z.1 (w.aft j z.2)).cl x).km/\BC w ks x ((fH b j z.1 (w.aft j z.2)).ky x)/\∀N:Int,aO .i64 N ((fH b j z.1 (w.aft j z.2)).ky x)=aO .i64 N ((fH b j z.1 (w.aft j z.2)).cl x).km:=by
  intro x c;rw[C x c,D x c,F];by_cases e:x=j
  ·subst e;rw[ak rfl];rcases U with⟨s,t⟩|⟨g,s,t,l,J,Q,k5⟩
   ·rw[s,ae (λq=>t q.2)];exact⟨K.km x c,K.ky x c,K.eq x c⟩
   ·rw[ak ⟨rfl,g⟩,k5,SY h s c (Dv h c ac) J (O.su.mono ac) (t.gr O.gr) _ _ (λp hp=>hp)];exact⟨o s t J Q (K.km x c),o s t J Q (K.ky x c),Du (K.eq x c)⟩
  ·rw[ae e,ae (λq=>e q.1)];exact⟨K.km x c,K.ky x c,K.eq x c⟩
 exact K.ext v.sec (by rw[v.lg]) (by rw[M];exact bp _) ⟨[],by rw[v.st,aH]⟩ ⟨[],by rw[aH]⟩ L (λd hi=>(m d hi).1) (λd hi=>(m d hi).2.1) (λd hi=>(m d hi).2.2)
  (λn a q R=>by rw[be q]at R;cases R)
theorem tO(w:Wd)(i:Nat)(z:Cl×List Tm×KV)(a:k<5):(w.aft i z).ky k=w.ky k:=by
 rw[<-(dj w i z.1).2.2.2.2.2.2.2.2.2 k];rcases fZ a with rfl|rfl|rfl|rfl|rfl<;>rfl
theorem Dw(w:Wd)(b:BL)(n:Int)(a:k<5):(w.keep b n).ky k=w.ky k:=by rcases fZ a with rfl|rfl|rfl|rfl|rfl<;>rfl
theorem BE{w:Wd}{ks:List BL}{km:KM}(h:BC w ks i km)(f:O2 w ts k ((aO .i64 N km).getD []) text l)(m:l.2.2.1=N):qV ts ks l:=by
 have b:=f.key;cases c:aO Ty.i64 N km with
 |none=>rw[c]at b;cases b
 |some v=>
  obtain⟨j,e,n,o,r⟩:=h _ (SX c);obtain⟨p,g,q⟩:=f.box;rw[c]at g;have e:N=(j:Int)+1:=e;exact⟨v,p,_,by rw[m,e,show((j:Int)+1-1).toNat=j by omega];exact n,o,g,q⟩
theorem Ke.grow{w w':Wd}{ks:List BL}(h:Ke w md ks)(s:dQ w w')(j:w.d<=w'.d)(g:Gr K w.ts w'.ts)(c:∀i:Nat,i<5->(w'.cl i).km=(w.cl i).km)(e:∀i:Nat,i<5->w'.ky i=w.ky i):Ke w' md ks:=
 h.ext s.sec (by rw[s.lg]) j ⟨[],by rw[s.st,aH]⟩ ⟨[],by rw[aH]⟩ g (λi b=>by rw[c i b];exact h.km i b) (λi b=>by rw[e i b];exact h.ky i b) (λi b N=>by rw[c i b,e i b];exact h.eq i b N)
  (λn a q f=>by rw[be q]at f;cases f)
theorem Ke.store{w w':Wd}{ks:List BL}(h:Ke w md ks)(D:md.length=w.st.length)(s:dQ w w')(p:w.d<=w'.d)(g:Gr K w.ts w'.ts)(j:∀i:Nat,i<5->(w'.cl i).km=(w.cl i).km)(m:∀i:Nat,i<5->w'.ky i=w.ky i)(b:BL)(o a:Int)(f:Bool)
 (new:f=true->∃l,b=eV l/\jY l=true/\l.2.1=a/\qV w'.ts ks l):Ke (w'.keep b o) (md++[(a,f,())]) ks:=by
 refine h.ext (w':=w'.keep b o) s.sec (by show w'.lg.2.1=_;rw[s.lg]) p ⟨[b],by show w'.st++_=_;rw[s.st]⟩ ⟨_,rfl⟩ g (λi c=>by rw[eL _ _ _ c,j i c];exact h.km i c) (λi c=>by rw[Dw _ _ _ c,m i c];exact h.ky i c) (λi c N=>by rw[eL _ _ _ c,Dw _ _ _ c,j i c,m i c];exact h.eq i c N) ?_;intro n x q e;rw[aJ q]at e
 have r:n-md.length=0:=by
  rcases dP (n-md.length)with u|u
  ·exact u
  ·rw[be eM]at e;cases e
 rw[r]at e;have e:=Option.some.inj e;obtain⟨t,v,_⟩:=Prod.mk.inj e|>.imp id Prod.mk.inj;obtain⟨l,y,z,A,B⟩:=new v;refine .inr ⟨l,?_,z,by rw[A,t],B⟩;show(w'.st++[b])[n]?=_;have C:n=w'.st.length:=by rw[s.st];omega
 rw[C,aJ (aE _),y];simp
theorem S2{w:Wd}(h:Au w md)(j:cU w (n+1))(hi:i<5){ops:List Op}{l:Int×Pg}{z:(BL×Int)×Pg×Ln×List Tm×KV}
 (a:z=xr (w.cl i).c (w.cl i).sg (w.cl i).lg (w.cl i).pg (w.cl i).km (w.cl i).bk ops l w.ts w.m):Gr (λ_=>True) w.ts z.2.2.2.1:=by
 unfold xr at a;rw[bN]at a;split at a
 ·rw[a];exact Gr.refl _ _
 split at a
 ·rw[a];exact Gr.refl _ _
 split at a
 ·rw[a];exact Gr.refl _ _
 split at a
 ·rw[a];exact Gr.refl _ _
 dsimp only at a;have o:=iD (l0:=(2,0,0,(fe (w.cl i).bk (w.cl i).c).2.1+1,(fe (w.cl i).bk (w.cl i).c).2.2.1,[],[],())) (text:=cE ops) h j hi rfl;generalize kS (w.cl i).c (w.cl i).sg (w.cl i).lg (w.cl i).km (2,0,0,(fe (w.cl i).bk (w.cl i).c).2.1+1,(fe (w.cl i).bk (w.cl i).c).2.2.1,[],[],()) (cE ops) w.ts w.m=s at*;rcases o with⟨e,b⟩|⟨e,r,b,p,_⟩
 ·rw[ak e]at a;rw[a,b];exact Gr.refl _ _
 ·rw[ae (λq=>q e)]at a;have b:=b.imp (K':=λ_=>True) λ_ _=>trivial;have f:=(ry (k:=10000*(n+1)+8999) b.su (b.su.k.1 _ p.le)).1.imp (K':=λ_=>True) λ_ _=>trivial;have g:=λlk=>(N_ (lk:=lk) (bk:=(w.cl i).bk) (k:=10000*(n+1)+8000) (f.su.mono ac)).imp (K':=λ_=>True) λ_ _=>trivial;unfold RB at a;dsimp only at a;split at a
  ·rw[a];exact b.gr.trans (f.gr.trans (g _).gr)
  ·rw[a];exact b.gr.trans (f.gr.trans (g _).gr)
theorem eS(h:y.1.2.1=0):px md s y=md:=ak h
theorem oo{w:Wd}:px md s (jh (ub w b x))=md++[np s]:=by
 unfold px;rw[ae];show(w.st.length:Int)+1≠0;omega
theorem S3{w:Wd}{ks:List BL}(h:Au w md)(K:Ke w md ks)(C:cU w (n+1))(R:1<=s.1/\s.1<=5){z:zn}(r:jG w s z):Ke z.2 (px md s (jh z)) ks:=by
 unfold jG at r;split at r
 ·rw[r];exact K
 rename_i no;rw[not_or,not_or]at no;split at r
 ·rw[r];exact K
 obtain⟨q,x,rfl⟩:=r;obtain⟨i,D⟩:=bo (Int.not_lt.1 no.1);have S:s.2.1.toNat=i:=by rw[D,aG]
 have a:i<5:=by
  have q:=Int.not_le.1 no.2.1;rw[D]at q;exact Int.ofNat_lt.1 q
 rw[S]at x⊢;have E:np s=((i:Int),true,()):=by unfold np;rw[ak R,D]
 have fin:∀{b:Wd}{r:BL×Int},dQ w b->w.d<=b.d->Gr (λ_=>True) w.ts b.ts->(∀j:Nat,j<5->(b.cl j).km=(w.cl j).km)->(∀j:Nat,j<5->b.ky j=w.ky j)->(r.2=0->∃l,r.1=eV l/\jY l=true/\l.2.1=(i:Int)/\qV b.ts ks l)->Ke (kj b i r).2 (px md s (jh (kj b i r))) ks:=by
  intro b r J L M N O U;unfold kj;split
  ·rw[eS rfl];exact K.grow J L M N O
  ·rename_i g;rw[oo,E];exact K.store h.ml J L M N O _ _ _ _ λ_=>U (aA.1 g)
 have told:∀{u:Int}{t:BL}{z:(BL×Int)×La×List Tm×KV},z=lr u t (w.cl i).c (w.cl i).sg (w.cl i).lg (w.cl i).la (w.cl i).km w.ts w.m->Ke (kj (w.told i z) i z.1).2 (px md s (jh (kj (w.told i z) i z.1))) ks:=by
  intro u t z v
  have f:∀j:Nat,j<5->((w.told i z).cl j).km=(w.cl j).km:=λj o=>by
   rw[qh w a o];split
   ·rename_i e;rw[e]
   ·rfl
  have B:=dl w i ({w.cl i with la:=z.2.1},z.2.2.1,z.2.2.2);rcases wW h C a v with⟨A,F⟩|⟨A,F,X,l,W,G,P,y,H,_⟩
  ·refine fin B.1 (Int.le_of_eq ((dj w i _).2.2.2.1).symm) ?_ f (λj o=>tO w i _ o) λq=>absurd q A;show Gr _ _ z.2.2.1;rw[F];exact Gr.refl _ _
  ·exact fin B.1 (Int.le_of_eq ((dj w i _).2.2.2.1).symm) (P.gr.imp λ_ _=>trivial) f (λj o=>tO w i _ o) λ_=>⟨l,G,y.ok,y.au,BE (K.km i a) y H⟩
 unfold vw at x;split at x
 ·obtain⟨t,z,v,rfl⟩:=x;exact told v
 split at x
 ·obtain⟨t,z,v,rfl⟩:=x;exact told v
 ·obtain⟨p,l,e,Y,h2,⟨Q,rfl⟩|⟨Q,ch,z,h4,v,rfl⟩⟩:=x
  ·exact fin (dz w) (bp _) (Gr.refl _ _) (λ_ _=>rfl) (λ_ _=>rfl) λq=>absurd q Q
  ·have f:∀j:Nat,j<5->((w.wrt i z).cl j).km=(w.cl j).km:=λj o=>by
    rw[nH w a o];split
    ·rename_i e;rw[e]
    ·rfl
   have B:=dl w i ({w.cl i with pg:=z.2.1,bk:=z.2.2.1},z.2.2.2.1,z.2.2.2.2);refine fin B.1 (Int.le_of_eq ((dj w i _).2.2.2.1).symm) (S2 h C a v) f (λj o=>tO w i _ o) λq=>?_;rcases IS h C a v with⟨A,_⟩|⟨A,F,l,W,G,P,y,H,_⟩
   ·exact absurd q A
   ·exact⟨l,G,y.ok,y.au,BE (K.km i a) y H⟩
theorem EV{w:Wd}{ks:List BL}(K:Ke w md ks)(g:Gr K' w.ts ts)(e:ts.length<=4294967296)(n:w.d<(c:Int))(a:c<=1099511627776)(f:Nm ts key (115,[dB (c:Int)],()))(i:Nat):ks[i]?≠some key:=by
 intro q;obtain⟨h,o,j,l⟩:=K.dr i key q;have:=Nm.uni e f (g.nm l);have m:[dB (c:Int)]=[dB (h:Int)]:=aI (λt:Tm=>t.2.1) this;have:=AQ a j (List.cons.inj m).1;omega
theorem Dx{w:Wd}{ks:List BL}(h:Au w md)(K:Ke w md ks)(R:cU w (k+2))(h4:w.st.length<400){n:Int}{y:(Int×Int)×Wd}(r:ff w n y):
 (y.1.1≠0/\y.1.2=0/\Ke y.2 md ks)\/(y.1.1=0/\y.1.2≠0/\∃key,Ke y.2 (md++[(0,true,())]) (ks++[key])):=by
 rcases pw h R h4 r with⟨e1,e2,e3,e4,D,g1,g2,g3,g4⟩|⟨e1,e2,e3,e4,e5,D,E,f1,f2,f3,f4,f5,f6,f7,f8,f9,a0,o,r1,F,A1,H,hz,g,M,J,a8,gE⟩
 ·rw[g3];exact .inl ⟨g2,rfl,K.grow (w':=w.su (w.d+1+1) (dW w n D).2) ⟨rfl,rfl,rfl,rfl,rfl⟩ (by show w.d<=w.d+1+1;omega) g4 (λi f=>by rw[qI _ _ _ f]) (λi f=>by rcases fZ f with rfl|rfl|rfl|rfl|rfl<;>rfl)⟩
 ·refine .inr ⟨e1,ac,(gC w).1,?_⟩;obtain⟨d1,d2,d3,d4⟩:=Df h R;have a5:pi (oy n 0 w.al):=λx z=>R.al.2 x (jE z);have a9:=R.st.1;have b0:=R.dr;have hE:=O0 (lg:=w.lg) (sec:=w.se 0 1) (once:=(qG w).1) (key:=(gC w).1) (ms:=oy n 0 w.al) (ns:=D) (k:=10000*(k+1)+10100) R.lg.1 a5 d1 h.d32 (by have:=h.le;omega);have hE:((dW w n D).1.2≠0/\_)\/((dW w n D).1.2=0/\_):=hE;rcases hE with⟨q,_⟩|⟨_,A,oc,c1,c2,c3,c4,c5,c6,c7,c8,c9,b3,O,b4,P⟩
  ·exact absurd a0 q
  have c1:(dW w n D).1.1=A:=c1;have eE:A=E:=by rw[<-c1,f8]
  subst eE;have c9:Ok (λt=>gG t\/t=(103,[w.se 0 1,dS A],())) (10000*(k+1)+10100) (gC w).2.1 (dW w n D).2:=c9;have O:Nm (dW w n D).2.1 oc (112,[(qG w).1],()):=O;have P:∀(i:Nat)(p:Mb)(v:BL),(oy n 0 w.al)[i]?=some p->Nm (gC w).2.1 p.2.1 (112,[v],())->∃b,A.2.2.2.2.2.1[i]?=some b/\Bx (dW w n D).2.1 A.1 (qG w).1 (gC w).1 (eo A) p.1 v b:=P;have gK:Gr (λ_=>True) (gC w).2.1 o.ts:=(c9.gr.imp λ_ _=>trivial).trans gE;have a6:o.ts.length<=4294967296:=by have:=H.ts.2;omega
  have E1:A.1=(w.lg.2.1.length:Int)+1:=by rw[c2];rfl
  have En:(A.1-1).toNat=w.lg.2.1.length:=ac
  have a7:∀a j,o.se a j=w.se a j:=λa j=>by unfold Wd.se;rw[J]
  have S:Nm o.ts (gC w).1 (115,[dB ((w.d.toNat+2:Nat):Int)],()):=by
   have:=gK.nm d4
   rwa [show w.d+1+1=((w.d.toNat+2:Nat):Int)by omega]at this
  have L:=EV K g a6 (c:=w.d.toNat+2) ac ac S;have s2:∃s,o.lg.2.1=w.lg.2.1++s:=⟨_,M⟩
  have EM:nq o o.ts (ks++[(gC w).1]) A:=by
   refine⟨?_,(qG w).1,(gC w).1,?_,c6,c7,?_,λi p hp=>?_⟩
   ·rw[M,En,aJ (aE _)];simp
   ·rw[En,<-K.len,aJ (aE _)];simp
   ·have:A.2.2.2.2.1=oc:=by rw[c2];rfl
    rw[this];exact gE.nm O
   ·rw[f6]at hp;obtain⟨a,x,yy,a1,a2,a3,a4⟩:=h.al p (jE (mH hp));obtain⟨b,b1,b2⟩:=P i p (w.se a 0) hp (by rw[a2];exact d2.nm a3);exact⟨a,b,a1,by rw[a2],b1,by rw[a7];exact b2.gr gE⟩
  have U:∀i,i<5->o.cl i=w.cl i:=λi f=>by rw[F];exact zp w n D _ _ _ f
  have W:∀i,i<5->o.ky i=w.ky i:=λi f=>by rw[F];rcases fZ f with rfl|rfl|rfl|rfl|rfl<;>rfl
  have K1:Ke o (md++[(0,true,())]) (ks++[(gC w).1]):=by
   have B:∀{i:Nat}{x:BL},i<ks.length->(ks++[(gC w).1])[i]?=some x->ks[i]?=some x:=λq z=>by rwa [bq q]at z
   have C:∀{i:Nat}{x:BL},ks.length<=i->(ks++[(gC w).1])[i]?=some x->i=ks.length/\x=(gC w).1:=λ{i x}q z=>by
    rw[aJ q]at z
    have e0:i-ks.length=0:=by
     rcases dP (i-ks.length)with u|u
     ·exact u
     ·rw[be eM]at z;cases z
    rw[e0]at z;exact⟨ac,(Option.some.inj z).symm⟩
   refine⟨?_,λi x z=>?_,λi j x f Y=>?_,λm a G=>?_,λi f=>?_,λi f=>?_,λi f N=>?_⟩
   ·rw[M,aa,aa,K.len];rfl
   ·have ed:o.d=w.d+1+1:=by rw[F];rfl
    rcases br i ks.length with q|q
    ·obtain⟨c,h1,h2,h3⟩:=K.dr i x (B q z);exact⟨c,ac,h2,g.nm h3⟩
    ·obtain⟨_,rfl⟩:=C q z;exact⟨w.d.toNat+2,ac,ac,S⟩
   ·rcases br i ks.length with q|q<;>rcases br j ks.length with X|X
    ·exact K.dif i j x (B q f) (B X Y)
    ·exact absurd ((C X Y).2▸B q f) (L i)
    ·exact absurd ((C q f).2▸B X Y) (L j)
    ·rw[(C q f).1,(C X Y).1]
   ·have Q:o.st=w.st++[gi A]:=by rw[F];rfl
    rcases br m md.length with q|q
    ·rw[bq q]at G;rcases K.hon m a G with⟨e,q1,q2,q3,q4⟩|⟨l,q1,q2,q3,q4⟩
     ·exact .inl ⟨e,by rw[Q];exact dm q1,q2,q3,(q4.gr g).lgs J s2⟩
     ·exact .inr ⟨l,by rw[Q];exact dm q1,q2,q3,(q4.gr g).ks _⟩
    ·rw[aJ q]at G
     have e0:m-md.length=0:=by
      rcases dP (m-md.length)with u|u
      ·exact u
      ·rw[be eM]at G;cases G
     rw[e0]at G;have G:=Option.some.inj G;have ea:a=0:=(aI Prod.fst G).symm;refine .inl ⟨A,?_,c3,ea,EM⟩;have:=h.ml;rw[Q,show m=w.st.length by omega,aJ (aE _)];simp
   ·rw[U i f];exact(K.km i f).lgs s2
   ·rw[W i f];exact(K.ky i f).lgs s2
   ·rw[W i f,U i f];exact K.eq i f N
  exact tN A1 K1 H ac hz
theorem Pp:∀{a:List (Int×BL)}{w w':Wd}{md:List Md}{ks:List BL}{n:Nat},Au w md->Ke w md ks->cU w (n+a.length)->(∀p∈a,0<=p.1/\p.1<5)->xv a w w'->Ke w' md ks
 |[],_,_,_,_,_,_,K,_,_,e=>by
  have e:_=_:=e;subst e;exact K
 |p::a,w,w',md,ks,n,h,K,c,b,⟨y,f,g⟩=>by
  obtain⟨i,m,o,r⟩:=kW h (n:=n+a.length) (c.mono eM) (b p (aF ..)) f;have j:=gB (n:=n+a.length) (c.mono eM) (b p (aF ..)) f;exact Pp i (tN h K (n:=n+a.length) (c.mono eM) (b p (aF ..)) f) j (λq l=>b q (aD _ l)) g
theorem a0x{w:Wd}{ks:List BL}(h:Au w md)(K:Ke w md ks)(j:cU w (n+5*w.st.length+3))(r:mY w s y):∃ks',Ke y.2 (px md s y) ks':=by
 have hB:∃ks',Ke (bad w).2 (px md s (bad w)) ks':=⟨ks,by rw[eS rfl];exact K⟩
 have C:∀(b:BL)(D:Int),(np s).2.1=false->∃ks',Ke (jh (ub w b D)).2 (px md s (jh (ub w b D))) ks':=λb D a=>⟨ks,by
  rw[oo,show np s=((np s).1,(np s).2.1,())from rfl];exact K.store h.ml (dz w) (bp _) (Gr.refl (λ_=>True) _) (λ_ _=>rfl) (λ_ _=>rfl) _ _ _ _ λq=>by rw[a]at q;cases q⟩
 unfold mY at r;split at r
 ·rename_i H;obtain⟨z,p,rfl⟩:=r;exact⟨ks,S3 h K (n:=n+5*w.st.length+2) j H p⟩
 rename_i c;split at r
 ·rename_i t;split at r
  ·rw[r];exact hB
  rename_i g;rw[not_or]at g;obtain⟨z,p,rfl⟩:=r;have a:np s=(0,true,()):=by unfold np;rw[ae c,ak t]
  rcases Dx h K (k:=n+5*w.st.length+1) j ac p with⟨A,o,B⟩|⟨A,o,E,B⟩
  ·exact⟨ks,by rw[eS (show(jh z).1.2.1=0 from o)];exact B⟩
  ·refine⟨ks++[E],?_⟩;unfold px;rw[ae (show¬(jh z).1.2.1=0 from o),a];exact B
 rename_i t;split at r
 ·rename_i J;split at r
  ·rw[r];exact hB
  rename_i g;rw[not_or]at g;obtain⟨z,p,rfl⟩:=r;exact⟨ks,by rw[eS rfl];exact tN h K (n:=n+5*w.st.length+2) j (aA.1 g.1) p⟩
 rename_i J;split at r
 ·rename_i u;rw[r];unfold tI;have a:(np s).2.1=false:=by unfold np;rw[ae c,ae t,ae (u.elim (λq=>qU q bt) (λq=>qU q bt))]
  split
  ·exact hB
  split
  ·exact C _ _ a
  ·exact C _ _ a
 rename_i u;split at r
 ·rename_i v;have a:(np s).2.1=false:=by unfold np;rw[ae c,ae t,ae (qU v bt)]
  split at r
  ·rw[r];exact hB
  ·rw[r];exact C _ _ a
 rename_i v;split at r
 ·rename_i x;rw[r];have a:np s=(s.2.1,false,()):=by unfold np;rw[ae c,ae t,ak x]
  have f:∀e:Int,∃ks',Ke (jh ((e,0),w)).2 (px md s (jh ((e,0),w))) ks':=λe=>⟨ks,by rw[eS rfl];exact K⟩;unfold io;split
  ·exact f 26
  split
  ·exact f 22
  dsimp only;have L:Su (10000*(n+5*w.st.length+2+1)+9000+4) w.ts w.m:=(jF h j).mono ac;rcases Ip (sec:=w.se s.2.1.toNat 1) (ep:=(aO .i64 s.2.2.2.1 (w.ky s.2.1.toNat)).getD []) (text:=s.2.2.2.2.2.2.1) (l:=s.2.2.2.2.2.2.2) L with⟨A,o⟩|⟨P,b,Q,g,y,A,o,B,R,M,N,_⟩
  ·rw[ak A,o];exact f _
  ·rw[M];dsimp only;rw[ae (λq=>q rfl)];refine⟨ks,?_⟩;rw[oo,a];refine K.store (w':=w.su w.d y) h.ml ⟨rfl,rfl,rfl,rfl,rfl⟩ (bp _) N.gr (λi F=>by rw[qI _ _ _ F]) (λi F=>by rcases fZ F with rfl|rfl|rfl|rfl|rfl<;>rfl) _ _ _ _ λq=>by cases q
 rename_i x;split at r
 ·obtain⟨S,O,rfl⟩:=r;have G:=gZ h;exact⟨ks,by rw[eS rfl];exact Pp h K (n:=0) (j.mono (by rw[kY];have:=kX j;have:=Nat.mul_le_mul_left w.st.length this;omega)) (my G) O⟩
 ·rw[r];exact hB
theorem a0y:Ke lw [] []:=by
 have e:∀i:Nat,i<5->(lw.cl i).km=[]/\lw.ky i=[]:=λi b=>by rcases fZ b with rfl|rfl|rfl|rfl|rfl<;>exact⟨rfl,rfl⟩
 exact⟨rfl,λi k h=>by simp at h,λi j k h=>by simp at h,λn a h=>by simp at h,λi b q c=>by rw[(e i b).1]at c;exact(by cases c),λi b q c=>by rw[(e i b).2]at c;exact(by cases c),λi b N=>by rw[(e i b).1,(e i b).2]⟩
def Fa(t a:Tm):Prop:=t=a\/∃(k n:BL)(l:Lt)(x b:BL),pD l/\t=(98,[k,n,dp l,x],())/\a=(98,[k,n,dp l,b],())/\x.length=b.length
variable{t:Tm}
theorem Fa.symm{a:Tm}(h:Fa t a):Fa a t:=by
 rcases h with h|⟨k,n,l,x,b,c,e,f,g⟩
 ·exact .inl h.symm
 ·exact .inr ⟨k,n,l,b,x,c,f,e,g.symm⟩
theorem Fa.cd{a:Tm}(h:Fa t a)(n:Int):jH t n=jH a n:=by
 rcases h with h|⟨k,o,l,x,f,i,b,c,g⟩
 ·rw[h]
 ·have e:oY t=oY a:=by
   rw[b,c];show((x.length:Int)+16)=((f.length:Int)+16);rw[g]
  unfold jH;rw[e,b,c]
def Pu(t:Tm):Prop:=∀a,Fa t a->a=t
theorem mC(h:t.1≠98):Pu t:=by
 intro c a;rcases a with a|⟨k,n,l,x,e,f,b,g,i⟩
 ·exact a.symm
 ·rw[b]at h;exact absurd rfl h
theorem a0z:Pu (98,[v,se,eo e,sg],()):=by
 intro i a;rcases a with a|⟨f,g,l,y,j,b,h,m,o⟩
 ·exact a.symm
 ·exfalso;have c:[v,se,eo e,sg]=[f,g,dp l,y]:=aI (λt:Tm=>t.2.1) h;simp only[List.cons.injEq,and_true]at c;exact zk ⟨b.1,b.2.1⟩ c.2.2.1
structure py(a b:List Tm):Prop where
 len:a.length=b.length
 at_:∀(i:Nat)(t t':Tm),a[i]?=some t->b[i]?=some t'->Fa t t'
theorem py.symm(h:py a ts):py ts a:=⟨h.len.symm,λi t c e f=>(h.at_ i c t f e).symm⟩
theorem py.refl(a:List Tm):py a a:=⟨rfl,λi t e c b=>by rw[c]at b;exact .inl (Option.some.inj b)⟩
theorem py.get(h:py a ts)(c:a[i]?=some t):∃e,ts[i]?=some e/\Fa t e:=by
 have f:i<ts.length:=by rw[<-h.len];exact(cq.1 c).1
 exact⟨ts[i],an f,h.at_ i t _ c (an f)⟩
theorem py.nm(h:py a ts)(f:Nm a b t):∃c,Fa t c/\Nm ts b c:=by
 obtain⟨i,g,j⟩:=f;obtain⟨c,l,e⟩:=h.get g;exact⟨c,e,i,l,by rw[<-e.cd];exact j⟩
theorem py.nmP(h:py a ts)(c:Pu t)(e:Nm a b t):Nm ts b t:=by
 obtain⟨f,g,i⟩:=h.nm e
 rwa [c f g]at i
theorem py.mem(h:py a ts)(e:Pu t)(f:t∈a):t∈ts:=by
 obtain⟨i,g⟩:=List.getElem?_of_mem f;obtain⟨j,c,l⟩:=h.get g;rw[e j l]at c;exact mH c
theorem py.snoc{a b:List Tm}(h:py a b){t f:Tm}(g:Fa t f):py (a++[t]) (b++[f]):=by
 refine⟨by rw[aa,aa,h.len];rfl,λi x y c e=>?_⟩;rcases br i a.length with q|q
 ·rw[bq q]at c;rw[bq (by rw[<-h.len];exact q)]at e;exact h.at_ i x y c e
 ·rw[aJ q]at c;rw[aJ (by rw[<-h.len];exact q),<-h.len]at e
  have j:i-a.length=0:=by
   rcases dP (i-a.length)with u|u
   ·exact u
   ·rw[be eM]at c;cases c
  rw[j]at c e;rw[<-Option.some.inj c,<-Option.some.inj e];exact g
structure Al(k:Nat)(z z':List Tm×KV):Prop where
 su:Su k z.1 z.2
 su':Su k z'.1 z'.2
 al:py z.1 z'.1
theorem Al.mono{a:List Tm×KV}(h:Al k z a)(b:j<=k):Al j z a:=⟨h.su.mono b,h.su'.mono b,h.al⟩
theorem Al.le{a:List Tm×KV}(h:Al k z a):z.1.length<=4294967296:=by have:=h.su.k.2;omega
theorem Al.le'{a:List Tm×KV}(h:Al k z a):a.1.length<=4294967296:=by have:=h.su'.k.2;omega
theorem Al.symm{a:List Tm×KV}(h:Al k z a):Al k a z:=⟨h.su',h.su,h.al.symm⟩
theorem Dy(h:Su (k+1) ts m)(a:eB t):(t∈ts/\(dI t ts m).2=(ts,m))\/(t∉ts/\(dI t ts m).2.1=ts++[t]):=by
 by_cases g:t∈ts
 ·exact .inl ⟨g,qa h.w g⟩
 ·rcases(tr h.w (by have:=h.k.2;omega) h.k.1 a).ex with e|⟨e,b⟩
  ·exfalso;have:=(ry h a).2.le;rw[e]at this;exact g this
  ·exact .inr ⟨b,e⟩
theorem zF(h:Al (k+1) (ts,m) (ts',m'))(e:eB t)(f:Pu t):(dI t ts m).1=(dI t ts' m').1/\Al k (dI t ts m).2 (dI t ts' m').2:=by
 have g:=ry h.su e;have i:=ry h.su' e
 have j:py (dI t ts m).2.1 (dI t ts' m').2.1:=by
  rcases Dy h.su e with⟨a,b⟩|⟨a,b⟩<;>rcases Dy h.su' e with⟨c,d⟩|⟨c,d⟩
  ·rw[b,d];exact h.al
  ·exact absurd (h.al.mem f a) c
  ·exact absurd (h.al.symm.mem f c) a
  ·rw[b,d];exact h.al.snoc (.inl rfl)
 exact⟨Nm.inj i.1.su.w (j.nmP f g.2) i.2,g.1.su,i.1.su,j⟩
theorem a7c{e:Tm}(h:Al (k+1) (ts,m) (ts',m'))(j:eB t)(f:eB e)(l:Fa t e)(p:t∉ts)(q:e∉ts'):(dI t ts m).1=(dI e ts' m').1/\Al k (dI t ts m).2 (dI e ts' m').2:=by
 have g:=ry h.su j;have i:=ry h.su' f;rcases Dy h.su j with⟨a,b⟩|⟨a,b⟩
 ·exact absurd a p
 rcases Dy h.su' f with⟨c,d⟩|⟨c,d⟩
 ·exact absurd c q
 have r:py (dI t ts m).2.1 (dI e ts' m').2.1:=by rw[b,d];exact h.al.snoc l
 refine⟨?_,g.1.su,i.1.su,r⟩;have n:Nm (ts++[t]) (jH t ((ts.length+1:Nat):Int)) t:=⟨ts.length,bY,rfl⟩;have o:Nm (ts'++[e]) (jH e ((ts'.length+1:Nat):Int)) e:=⟨ts'.length,bY,rfl⟩;rw[<-b]at n;rw[<-d]at o;rw[Nm.inj g.1.su.w g.2 n,Nm.inj i.1.su.w i.2 o,l.cd,show ts.length=ts'.length from h.al.len]
theorem xe(h:Al (k+1) (ts,m) (ts',m'))(a:eB t)(b:Pu t):(cM t ts m).1=(cM t ts' m').1/\Al k (cM t ts m).2 (cM t ts' m').2:=by
 unfold cM;split
 ·exact zF h a b
 ·exact⟨rfl,h.mono ac⟩
theorem S4{k:BitVec 8}(h:py ts ts')(c:ts'.length<=4294967296)(f:k≠98)(e:(fi b k ts).2=true):fi b k ts'=fi b k ts:=by
 obtain⟨g,a⟩:=Cv e;have:=qE c (h.nmP (mC (by rw[a];exact f)) g);rw[a]at this;rw[this];exact ga rfl e.symm
theorem S5{k:BitVec 8}(h:py ts ts')(g:ts.length<=4294967296)(a:ts'.length<=4294967296)(c:k≠98):(fi b k ts).2=(fi b k ts').2/\((fi b k ts).2=true->fi b k ts'=fi b k ts):=by
 refine⟨?_,S4 h a c⟩;cases e:(fi b k ts).2 with
 |true=>rw[S4 h a c e,e]
 |false=>
  cases f:(fi b k ts').2 with
  |false=>rfl
  |true=>rw[S4 h.symm g c f,f]at e;cases e
theorem a00{k:BL}(h:py ts ts')(c:ts.length<=4294967296)(a:ts'.length<=4294967296):ws k b v ts=ws k b v ts':=by
 obtain⟨e,f⟩:=S5 (b:=v) (k:=103) h c a bt;obtain⟨g,i⟩:=S5 (b:=k) (k:=118) h c a bt;unfold ws;rw[<-e,<-g];cases j:(fi v 103 ts).2 with
 |false=>rfl
 |true=>
  cases l:(fi k 118 ts).2 with
  |false=>rfl
  |true=>rw[f j,i l]
theorem a01{k x:BL}{n:Int}(h:py ts ts')(c:ts'.length<=4294967296)(h0:(ov k n (eo e) x ts).2=0):ov k n (eo e) x ts'=ov k n (eo e) x ts:=by
 unfold ov at h0⊢;split at h0
 ·exact absurd h0 bt
 rename_i i;rw[ae i,ae i];split at h0
 ·rename_i f;obtain⟨p,r⟩:=Cv f.1
  have s:Pu (fi x 98 ts).1:=by
   intro v g;rcases g with q|⟨a,b,l,y,w,j,t,_⟩
   ·exact q.symm
   ·have m:=f.2.2.2;rw[t]at m;exact absurd (show dp l=eo e from m).symm (zk ⟨j.1,j.2.1⟩)
  have o:=qE c (h.nmP s p);rw[r]at o;have u:fi x 98 ts'=fi x 98 ts:=by rw[o];exact ga rfl f.1.symm
  rw[u]
 ·exact absurd h0 bt
theorem a02(h:(ov v x o se ts).2≠0):ov v x o se ts=([],if v.length≠32\/x<0 then 1 else 9):=by
 unfold ov at h⊢;split
 ·rfl
 ·split
  ·rename_i a b;rw[ae a,ak b]at h;exact absurd rfl h
  ·rfl
theorem a7d(h:py ts ts')(c:ts.length<=4294967296)(a:ts'.length<=4294967296):ov v x (eo e) o ts=ov v x (eo e) o ts':=by
 by_cases g:(ov v x (eo e) o ts).2=0
 ·exact(a01 h a g).symm
 ·by_cases b:(ov v x (eo e) o ts').2=0
  ·exact a01 h.symm c b
  ·rw[a02 g,a02 b]
theorem a7e(a:aB sec)(h:Al (k+1) (ts,m) (ts',m')):(jq sec pub ts m).1.1=(jq sec pub ts' m').1.1/\(jq sec pub ts m).2=(jq sec pub ts' m').2/\Al k (jq sec pub ts m).1.2 (jq sec pub ts' m').1.2:=by
 obtain⟨c,e⟩:=S5 (b:=pub) (k:=112) h.al h.le h.le' bt;unfold jq;split
 ·exact⟨rfl,rfl,h.mono ac⟩
 rw[<-c];split
 ·exact⟨rfl,rfl,h.mono ac⟩
 ·rename_i g;have g:(fi pub 112 ts).2=true:=cf g
  have f:=Db a h.su.k.ok g;rw[e g];have q:=zF h f (mC (by show(100:BitVec 8)≠98;decide));exact⟨q.1,rfl,q.2⟩
theorem a03{n:Int}(a:aB sec)(c:aB pub)(h:Al (k+2) (ts,m) (ts',m')):(gp n id sec pub ts m).1=(gp n id sec pub ts' m').1/\Al k (gp n id sec pub ts m).2 (gp n id sec pub ts' m').2:=by
 obtain⟨e,f,b⟩:=a7e (pub:=pub) (k:=k+1) a h;have g:(jq sec pub ts m).1.1.length<=64:=(shS m a c (k:=k+1) h.su.k).1;unfold gp;rw[<-f];split
 ·exact⟨rfl,b.mono ac⟩
 ·have i:=bC n;have j:=bC id;rw[<-e];have q:=xe (t:=(107,[(jq sec pub ts m).1.1,vn n++vn id],())) b (xp bt bt (show aB (jq sec pub ts m).1.1 by unfold aB;omega) (show aB (vn n++vn id)by unfold aB;simp;omega)) (mC (by show(107:BitVec 8)≠98;decide));exact⟨by rw[q.1],q.2⟩
theorem a7f{c:Int}(f:aB se)(g:aB e.2.2.2.2.1)(h:Al (k+2) (ts,m) (ts',m')):(pj e c se ts m).1=(pj e c se ts' m').1/\Al k (pj e c se ts m).2 (pj e c se ts' m').2:=by
 obtain⟨j,a⟩:=a03 (n:=e.1) (id:=c) (k:=k) f g h;have b:Al k (ts,m) (ts',m'):=h.mono ac;unfold pj;rw[bN,bN];split
 ·exact⟨rfl,b⟩
 split
 ·exact⟨rfl,b⟩
 rename_i i _;rw[<-j,<-a7d (e:=e) a.al a.le a.le']
 repeat' split
 all_goals exact⟨rfl,a⟩
theorem Pq{lg:Lg}(f:(dS e).length<=100000000)(h:Al (k+1) (ts,m) (ts',m')):(iu lg e ts m).1=(iu lg e ts' m').1/\(iu lg e ts m).2.1=(iu lg e ts' m').2.1/\Al k (iu lg e ts m).2.2 (iu lg e ts' m').2.2:=by
 obtain⟨a,b⟩:=zF (t:=(104,[dS e],())) h (ja (k:=104) bt bt (show aB (dS e)by unfold aB;omega)) (mC (by show(104:BitVec 8)≠98;decide));have c:Al k (ts,m) (ts',m'):=h.mono ac;unfold iu;rw[bN,bN,<-a,<-a00 h.al h.le h.le']
 repeat' split
 all_goals first|exact⟨rfl,rfl,c⟩|exact⟨rfl,rfl,b⟩
theorem Jk{e:Et}{c:Int}{se:BL}(a:aB se)(b:aB e.2.2.2.2.1){k:Nat}:∀(l:List Mb)(km:KM)(ts ts':List Tm)(m m':KV),Al (k+2*l.length) (ts,m) (ts',m')->(rv e c se l km ts m).1=(rv e c se l km ts' m').1/\(rv e c se l km ts m).2.1=(rv e c se l km ts' m').2.1/\Al k (rv e c se l km ts m).2.2 (rv e c se l km ts' m').2.2
 |[],km,ts,ts',m,m',h=>⟨rfl,rfl,h.mono ac⟩
 |p::r,km,ts,ts',m,m',h=>by
  obtain⟨g,f⟩:=a7f (e:=e) (c:=c) (k:=k+2*r.length) a b (h.mono eM);simp only[rv];split
  ·exact Jk a b r km _ _ _ _ (h.mono eM)
  ·rw[<-g];split
   ·exact⟨rfl,rfl,f.mono ac⟩
   ·exact Jk a b r _ _ _ _ _ f
theorem a04{c:Int}{lg:Lg}{km:KM}(f:wK e)(a:(iu lg e ts m).1=0->e.2.2.1.length<=5)(b:aB se)(h:Al (k+100) (ts,m) (ts',m')):
 (kT c se lg km e ts m).1=(kT c se lg km e ts' m').1/\(kT c se lg km e ts m).2.1=(kT c se lg km e ts' m').2.1/\(kT c se lg km e ts m).2.2.1=(kT c se lg km e ts' m').2.2.1/\Al k (kT c se lg km e ts m).2.2.2 (kT c se lg km e ts' m').2.2.2:=by
 obtain⟨n,o,i⟩:=Pq (lg:=lg) (e:=e) (k:=k+99) f.2.1 h;unfold kT;rw[bN,bN];dsimp only;rw[<-n,<-o];split
 ·exact⟨rfl,rfl,rfl,i.mono ac⟩
 ·rename_i g;have:=a (aA.1 g);obtain⟨p,j,l⟩:=Jk (e:=e) (c:=c) b f.2.2.2.2.2.2 (k:=k) e.2.2.1 km (iu lg e ts m).2.2.1 (iu lg e ts' m').2.2.1 (iu lg e ts m).2.2.2 (iu lg e ts' m').2.2.2 (i.mono ac);rw[<-p];split
  ·exact⟨rfl,rfl,j,l⟩
  ·exact⟨rfl,rfl,j,l⟩
theorem a7g(b:jZ l)(h:Al (k+1) (ts,m) (ts',m')):(nE sg l ts m).1=(nE sg l ts' m').1/\Al k (nE sg l ts m).2 (nE sg l ts' m').2:=by
 obtain⟨c,a⟩:=zF (t:=(104,[l.2.2.2.2.2.1],())) h (ja (k:=104) bt bt (show aB l.2.2.2.2.2.1 by have:=b.2.1;unfold aB;omega)) (mC (by show(104:BitVec 8)≠98;decide));have e:Al k (ts,m) (ts',m'):=h.mono ac;unfold nE;rw[bN,bN];dsimp only;rw[<-c,<-a00 a.al a.le a.le']
 repeat' split
 all_goals first|exact⟨rfl,e⟩|exact⟨rfl,a⟩
theorem Jl:∀(n:Nat)(b:BL),NU (b++128::ax n 0)=128::b.reverse:=by
 intro n b;have a:(b++(128:BitVec 8)::ax n 0).reverse=ax n 0++128::b.reverse:=bY
 unfold NU;rw[a]
 induction n with
 |zero=>simp[List.dropWhile]
 |succ n c=>rw[List.replicate_succ];simp[List.dropWhile]
theorem a05(h:(fY b).2=0):AH (fY b).1=(b,0):=by
 have a:=kV h;unfold fY at h a⊢;split at h
 ·rename_i g;rw[ak g]at a⊢;dsimp only at a⊢;unfold AH;rw[Jl];dsimp only;rw[ak rfl,List.length_reverse,ak ⟨g,by rw[a.2.2.2]⟩,List.reverse_reverse]
 ·rename_i g;exact absurd h g
def uE(ts:List Tm)(a:Int)(ks:List Kn):Prop:=∀(q:Nat)(k:Kn),ks[q]?=some k->∃lk:Lk,nf lk=true/\lk.1=a/\lk.2.1=(q:Int)+1/\lk.2.2.1=k.2.2.1/\lk.2.2.2.1=(if q=0 then[]else(ks.getD (q-1) kN).1)/\lk.2.2.2.2.1=k.2.1/\Nm ts k.1 (104,[vo lk],())/\(q≠0->(ks.getD (q-1) kN).2.2.1<=k.2.2.1)
def Jm(ts:List Tm)(bk:Ln):Prop:=∀a:Int,0<=a->a<5->uE ts a (cJ bk a)
theorem uE.gr{ks:List Kn}(h:uE ts x ks)(g:Gr K ts ts'):uE ts' x ks:=λq k b=>let⟨lk,c,e,f,i,j,l,m,n⟩:=h q k b;⟨lk,c,e,f,i,j,l,g.nm m,n⟩
variable{bk:Ln}
theorem Jm.gr(h:Jm ts bk)(g:Gr K ts ts'):Jm ts' bk:=λa b c=>(h a b c).gr g
theorem Nu(ts:List Tm)(a:Int):uE ts a []:=λq k h=>by simp at h
theorem uE.snoc{ts:List Tm}{a:Int}{ks:List Kn}(h:uE ts a ks){lk:Lk}{k:Kn}(j:nf lk=true)(l:lk.1=a)(m:lk.2.1=(ks.length:Int)+1)(n:lk.2.2.1=k.2.2.1)(o:lk.2.2.2.1=(if ks.length=0 then[]else(ks.getD (ks.length-1) kN).1))(p:lk.2.2.2.2.1=k.2.1)(r:Nm ts k.1 (104,[vo lk],()))(s:ks.length≠0->(ks.getD (ks.length-1) kN).2.2.1<=k.2.2.1):uE ts a (ks++[k]):=by
 have f:∀q:Nat,q<ks.length->(ks++[k]).getD q kN=ks.getD q kN:=λq c=>by rw[aw,aw,bq c]
 intro q x b;rcases br q ks.length with g|g
 ·rw[bq g]at b;obtain⟨i,t,u,v,w,y,z,A,B⟩:=h q x b;refine⟨i,t,u,v,w,?_,z,A,λc=>?_⟩
  ·rw[y];split
   ·rfl
   ·rw[f _ ac]
  ·rw[f _ ac];exact B c
 ·rw[aJ g]at b
  have C:q-ks.length=0:=by
   rcases dP (q-ks.length)with e|e
   ·exact e
   ·rw[be eM]at b;cases b
  rw[C]at b;have b:=Option.some.inj b;subst b;have eq:q=ks.length:=ac
  subst eq;refine⟨lk,j,l,m,n,?_,p,r,λc=>?_⟩
  ·rw[o];split
   ·rfl
   ·rw[f _ ac]
  ·rw[f _ ac];exact s c
theorem knE{k:Kn}(h:Nm ts k.1 (104,f,()))(a:k.2.1.length=32):((dU (ax 32 0) k.1,dU (ax 32 0) k.2.1,k.2.2.1,()):Kn)=k:=by
 have c:=h.len32 (by show(104:BitVec 8)≠98;decide) (by show(104:BitVec 8)≠103;decide);rw[mr c,mr a]
variable{lk:Lk}
theorem a06(h:Su (k+1) ts m)(i:Jm ts bk)(h0:(ij lk bk ts m).1=0):Jm (gy lk ts m).2.1 (pX lk bk ts m)/\∃b:Kn,b.2.1=lk.2.2.2.2.1/\b.2.2.1=lk.2.2.1/\Nm (gy lk ts m).2.1 b.1 (104,[vo lk],())/\∀a:Int,cJ (pX lk bk ts m) a=if a=lk.1 then cJ bk lk.1++[b]else cJ bk a:=by
 obtain⟨c,o,p,r,_⟩:=Bo h0;have f:=jz c;have g:=Iv h c;have j:=(OP (lk:=lk) h).gr
 have l:∀a:Int,cJ (pX lk bk ts m) a=if a=lk.1 then cJ bk lk.1++[((gy lk ts m).1,lk.2.2.2.2.1,lk.2.2.1,())]else cJ bk a:=by
  intro a;unfold pX;rw[kO,mr (g.len32 (by show(104:BitVec 8)≠98;decide) (by show(104:BitVec 8)≠103;decide)),mr f.2.2.2.2.2.2.1]
 refine⟨λa h0 n=>?_,((gy lk ts m).1,lk.2.2.2.2.1,lk.2.2.1,()),rfl,rfl,g,l⟩;rw[l];split
 ·rename_i e;subst e;refine((i lk.1 h0 n).gr j).snoc c rfl o rfl ?_ rfl g (λs=>?_)
  ·rw[<-p,tF ⟨f.1,f.2.1⟩]
  ·have:¬lk.2.2.1<((cJ bk lk.1).getD ((cJ bk lk.1).length-1) kN).2.2.1:=λq=>r ⟨ac,q⟩;exact Int.not_lt.1 this
 ·exact(i a h0 n).gr j
def knB(k:Kn):BL:=tx k.2.1++vn k.2.2.1
theorem S6(ks:List Kn)(p:BL):E6 ks p=p++ks.flatMap knB:=by
 unfold E6
 induction ks generalizing p with
 |nil=>simp
 |cons k r a=>rw[nu,a,List.flatMap_cons];simp[knB,tx]
def auB(ks:List Kn):BL:=vn ks.length++ks.flatMap knB
theorem Jn(l:Ln)(p:BL):∀k,jI l p k=p++((fo k).map λa:Nat=>cJ l (a:Int)).flatMap auB
 |0=>by simp[jI]
 |k+1=>by
  rw[pc,S6,Jn l p k,List.range_succ,dL,List.flatMap_append];simp[auB]
def Nv(au:Int):Int->List Kn->List Lk
 |_,[]=>[]
 |i,k::r=>(au,i+1,k.2.2.1,[],k.2.1,())::Nv au (i+1) r
def knR(last:Int):List Kn->Prop
 |[]=>True
 |k::r=>k.2.1.length=32/\1<=k.2.2.1/\k.2.2.1<=65536/\last<=k.2.2.1/\knR k.2.2.1 r
theorem Jo{b:BL}{au:Int}:∀(ks:List Kn)(i last a:Int)(c:List Lk)(r:BL),knR last ks->Bh b a (ks.flatMap knB++r)->∃e,xn b true au ks.length i last (a,0) c=(true,(e,0),c++Nv au i ks)/\Bh b e r
 |[],i,last,a,c,r,_,h=>⟨a,by simp[xn,Nv],cf h⟩
 |k::ks,i,last,a,c,r,f,h=>by
  obtain⟨g,j,l,m,o⟩:=f;rw[List.flatMap_cons]at h;simp only[knB,ay]at h;obtain⟨y,p,q⟩:=nG (n:=32) h ac ac;obtain⟨s,t,u⟩:=kh (lo:=1) (hi:=65536) q ac ac j l;obtain⟨v,w,x⟩:=Jo ks (i+1) k.2.2.1 s (c++[(au,i+1,k.2.2.1,[],k.2.1,())]) r o u;refine⟨v,?_,x⟩;rw[bc,tk];dsimp only;rw[p];dsimp only;rw[ak g,t];dsimp only;rw[ae (Int.not_lt.2 m),ak rfl,ak rfl,w,Nv,ay];rfl
def xf:Int->List (List Kn)->List Lk
 |_,[]=>[]
 |a,b::r=>Nv a 0 b++xf (a+1) r
theorem Jp{b:BL}:∀(L:List (List Kn))(au a:Int)(c:List Lk)(r:BL),(∀ks∈L,knR 1 ks/\ks.length<=1048576)->Bh b a (L.flatMap auB++r)->∃e,qD b true L.length au (a,0) c=(true,(e,0),c++xf au L)/\Bh b e r
 |[],au,a,c,r,_,h=>⟨a,by simp[qD,xf],cf h⟩
 |ks::L,au,a,c,r,hL,h=>by
  obtain⟨f,t⟩:=hL ks (aF ..);rw[List.flatMap_cons]at h;simp only[auB,ay]at h;obtain⟨g,i,j⟩:=kh (lo:=0) (hi:=1048576) h ac ac ac ac;obtain⟨l,m,n⟩:=Jo (au:=au) ks 0 1 g c _ f j;obtain⟨o,p,q⟩:=Jp L (au+1) l (c++Nv au 0 ks) r (λx s=>hL x (aD _ s)) n;refine⟨o,?_,q⟩;rw[bc];simp only[qD];rw[i];dsimp only;rw[aG,m];dsimp only;rw[ak rfl,p,xf,ay]
theorem uE.knR{ts:List Tm}{a:Int}:∀{ks:List Kn},uE ts a ks->∀i,i<=ks.length->knR (if i=0 then 1 else(ks.getD (i-1) kN).2.2.1) (ks.drop i):=by
 intro ks h i p;obtain⟨n,q⟩:∃n,n=ks.length-i:=⟨_,rfl⟩
 induction n generalizing i with
 |zero=>rw[bu ac];trivial
 |succ n j=>
  have b:i<ks.length:=ac
  have f:ks[i]?=some ks[i]:=an b;obtain⟨lk,l,r,s,e,t,m,u,o⟩:=h i _ f;have c:=jz l;rw[List.drop_eq_getElem_cons b];refine⟨by rw[<-m];exact c.2.2.2.2.2.2.1,by rw[<-e];exact c.2.2.2.2.1,by rw[<-e];exact c.2.2.2.2.2.1,?_,?_⟩
  ·split
   ·rw[<-e];exact c.2.2.2.2.1
   ·rename_i g;exact o g
  ·have:=j (i+1) ac ac;rw[ae ac,Nat.add_sub_cancel]at this
   rwa [show ks.getD i kN=ks[i]by rw[aw,f];rfl]at this
theorem uE.len{ks:List Kn}(h:uE ts x ks):ks.length<=1048576:=by
 rcases dP ks.length with e|e
 ·omega
 ·obtain⟨lk,b,c,f,_⟩:=h (ks.length-1) _ (an (show ks.length-1<ks.length by omega));have:=(jz b).2.2.2.1;omega
theorem a07(b:Jm ts bk){r:BL}(g:(jI bk [] 5++r).length<=1000000000):∃a,rj (jI bk [] 5++r) true (0,0)=(true,(a,0),xf 0 ((fo 5).map λa:Nat=>cJ bk (a:Int))):=by
 have h:=Bh.zero g
 have i:Bh (jI bk [] 5++r) 0 (((fo 5).map λa:Nat=>cJ bk (a:Int)).flatMap auB++r):=by
  have:=h;rw[Jn,eO]at this⊢;exact this
 obtain⟨a,f,_⟩:=Jp _ 0 0 [] r (λj c=>by
  obtain⟨a,e,rfl⟩:=fI.1 c;have e:=List.mem_range.1 e;have b:=b a ac ac;exact⟨b.knR 0 (aq _),b.len⟩) i
 refine⟨a,?_⟩;unfold rj;rw[cG,List.length_range]at f;rw[f];rfl
theorem BF(h:Su (k+1) ts m)(b:nf lk=true)(c:Nm ts v (104,[vo lk],())):gy lk ts m=(v,ts,m):=by
 have a:=Iv h b;unfold gy at a⊢;rw[ak b]at a⊢;have:=qa h.w c.le;rw[this]at a;exact ga (Nm.inj h.w a c) this
theorem Pr{ts:List Tm}{m:KV}(l:Su 1 ts m){au:Int}(h0:0<=au)(o:au<5){ks:List Kn}(h:uE ts au ks):∀(n i:Nat)(bk:Ln),n=ks.length-i->i<=ks.length->cJ bk au=ks.take i->∃b,(Nv au i (ks.drop i)).foldl D8 (bk,ts,m)=(b,ts,m)/\cJ b au=ks/\∀a,a≠au->cJ b a=cJ bk a
 |0,i,bk,v,w,c=>by
  rw[bu ac];exact⟨bk,rfl,by rw[c,bb ac],λ_ _=>rfl⟩
 |n+1,i,bk,v,w,c=>by
  have e:i<ks.length:=ac
  have p:ks[i]?=some ks[i]:=an e;obtain⟨lk,q,r,x,s,y,g,t,G⟩:=h i _ p;have z:(cJ bk au).length=i:=by rw[c,bd];omega
  have A:(fe bk au).2.2.1=lk.2.2.2.1:=by
   rw[tF ⟨h0,o⟩,z,y];split
   ·rfl
   ·rw[c,aw,pz,ak ac,aw]
  have j:((au,(i:Int)+1,ks[i].2.2.1,(fe bk au).2.2.1,ks[i].2.1,()):Lk)=lk:=by
   obtain⟨H,J,K,L,M,⟨⟩⟩:=lk;dsimp only at*;rw[r,x,s,A,g]
  have f:=BF (k:=0) (m:=m) l q t
  have B:D8 (bk,ts,m) (au,(i:Int)+1,ks[i].2.2.1,[],ks[i].2.1,())=(cL (kt:= .i64) au (ks.take i++[ks[i]]) bk,ts,m):=by
   unfold D8;dsimp only;rw[j,f];unfold pX;rw[f,r,c,g,s,knE t (by rw[<-g];exact(jz q).2.2.2.2.2.2.1)]
  rw[List.drop_eq_getElem_cons e,Nv,nu,B];have C:ks.take i++[ks[i]]=ks.take (i+1):=by rw[dR,p];rfl
  obtain⟨b,D,E,F⟩:=Pr l h0 o h n (i+1) (cL (kt:= .i64) au (ks.take i++[ks[i]]) bk) ac ac (by rw[kO,ak rfl,C]);refine⟨b,by rw[<-D];push_cast;rfl,E,λa u=>?_⟩;rw[F a u,kO,ae u]
theorem Jq{ts:List Tm}{m:KV}(j:Su 1 ts m)(f:Int->List Kn)(h:∀a:Int,0<=a->a<5->uE ts a (f a)):∀(n:Nat)(au:Nat)(bk:Ln),au+n=5->(∀a:Int,(au:Int)<=a->cJ bk a=[])->∃b,(xf au ((mG au n).map λa:Nat=>f (a:Int))).foldl D8 (bk,ts,m)=(b,ts,m)/\(∀a:Nat,au<=a->a<5->cJ b (a:Int)=f a)/\∀a:Int,a<(au:Int)->cJ b a=cJ bk a
 |0,au,bk,s,e=>⟨bk,rfl,λa l o=>ac,λ_ _=>rfl⟩
 |n+1,au,bk,s,e=>by
  rw[List.range'_succ,aY,xf,List.foldl_append];obtain⟨c,g,t,p⟩:=Pr j (au:=(au:Int)) ac ac (h au ac ac) (f au).length 0 bk ac (aq _) (by rw[e _ (bp _)];rfl);have g:(Nv (au:Int) 0 (f (au:Int))).foldl D8 (bk,ts,m)=(c,ts,m):=g;rw[g];obtain⟨i,u,v,r⟩:=Jq j f h n (au+1) c ac (λa w=>by rw[p a ac,e a ac]);refine⟨i,by rw[<-u];push_cast;rfl,λa l o=>?_,λa w=>?_⟩
  ·rcases Nat.eq_or_lt_of_le l with q|q
   ·subst q;rw[r _ ac,t]
   ·exact v a q o
  ·rw[r a ac,p a ac]
theorem a08(e:Su 1 ts m)(f:Jm ts bk):∃b,nC (xf 0 ((fo 5).map λa:Nat=>cJ bk (a:Int))) ts m=(b,ts,m)/\∀a:Nat,a<5->cJ b (a:Int)=cJ bk (a:Int):=by
 obtain⟨b,c,g,_⟩:=Jq (m:=m) e (λa=>cJ bk a) f 5 0 [] rfl (λa _=>by simp[cJ,aO,cD]);rw[<-List.range_eq_range']at c;exact⟨b,c,λa h=>g a (aq _) h⟩
def K8(t:Tm):Prop:=t.1≠98\/∃(k n x:BL)(e:Et),t=(98,[k,n,eo e,x],())
theorem k8{k:BitVec 8}(h:k≠98)(b:List BL):K8 (k,b,()):= .inl h
theorem Nx(h:K t)(ts:List Tm)(m:KV):Gr K ts (dI t ts m).2.1:=by
 unfold dI jV;split
 ·exact⟨[t],rfl,λx a=>by rw[bV.1 a];exact h⟩
 ·exact Gr.refl _ _
theorem Ps(h:K t)(ts:List Tm)(m:KV):Gr K ts (cM t ts m).2.1:=by
 unfold cM;split
 ·exact Nx h ts m
 ·exact Gr.refl _ _
theorem sh8(sec pub:BL)(ts:List Tm)(m:KV):Gr K8 ts (jq sec pub ts m).1.2.1:=by
 unfold jq;split
 ·exact Gr.refl _ _
 split
 ·exact Gr.refl _ _
 ·exact Nx (k8 bt _) _ _
theorem bx8(n id:Int)(sec pub:BL)(ts:List Tm)(m:KV):Gr K8 ts (gp n id sec pub ts m).2.1:=by
 unfold gp;split
 ·exact sh8 _ _ _ _
 ·exact(sh8 _ _ _ _).trans (Ps (k8 bt _) _ _)
theorem ke8(e:Et)(c:Int)(se:BL)(ts:List Tm)(m:KV):Gr K8 ts (pj e c se ts m).2.1:=by
 have h:=bx8 e.1 c se e.2.2.2.2.1 ts m;have a:=Gr.refl K8 ts;unfold pj;rw[bN]
 repeat' split
 all_goals first|exact a|exact h
theorem tk8(lg:Lg)(e:Et)(ts:List Tm)(m:KV):Gr K8 ts (iu lg e ts m).2.2.1:=by
 have h:Gr K8 ts (dI (104,[dS e],()) ts m).2.1:=Nx (k8 bt _) _ _;have a:=Gr.refl K8 ts;unfold iu;rw[bN]
 repeat' split
 all_goals first|exact a|exact h
theorem em8(e:Et)(c:Int)(se:BL):∀(l:List Mb)(km:KM)(ts:List Tm)(m:KV),Gr K8 ts (rv e c se l km ts m).2.2.1
 |[],_,_,_=>Gr.refl _ _
 |p::r,km,ts,m=>by
  simp only[rv];split
  ·exact em8 e c se r km ts m
  ·split
   ·exact ke8 _ _ _ _ _
   ·exact(ke8 _ _ _ _ _).trans (em8 e c se r _ _ _)
theorem en8(c:Int)(se:BL)(lg:Lg)(km:KM)(e:Et)(ts:List Tm)(m:KV):Gr K8 ts (kT c se lg km e ts m).2.2.2.1:=by
 have h:=tk8 lg e ts m;unfold kT;rw[bN];dsimp only;split
 ·exact h
 ·split<;>exact h.trans (em8 e c se _ _ _ _)
theorem ml8(n:Int)(once key:BL)(e:Et):∀(ms:List Mb)(a:List BL)(ts:List Tm)(m:KV),Gr K8 ts (ob n once key (eo e) ms a ts m).2.1
 |[],_,_,_=>Gr.refl _ _
 |p::r,a,ts,m=>by
  simp only[ob];split
  ·exact bx8 _ _ _ _ _ _
  ·refine((bx8 n p.1 once p.2.1 ts m).trans ?_).trans (ml8 n once key e r _ _ _);unfold jp;split
   ·exact Gr.refl _ _
   ·exact Ps (.inr ⟨_,_,_,e,rfl⟩) _ _
theorem mk8(lg:Lg)(sec once key:BL)(ms:List Mb)(ns:List Fk)(ts:List Tm)(m:KV):Gr K8 ts (lp lg sec once key ms ns ts m).2.1:=by
 have a:Gr K8 ts (cM (118,[sec],()) ts m).2.1:=Ps (k8 bt _) _ _;have b:=a.trans (Ps (k8 bt _) (cM (118,[sec],()) ts m).2.1 (cM (118,[sec],()) ts m).2.2:Gr K8 _ (cM (112,[once],()) (cM (118,[sec],()) ts m).2.1 (cM (118,[sec],()) ts m).2.2).2.1);unfold lp;rw[bN];dsimp only;split
 ·exact Gr.refl _ _
 split
 ·exact a
 split
 ·exact a
 split
 ·exact b
 ·unfold JJ;dsimp only;split
  ·exact b.trans (ml8 _ _ _ _ _ _ _ _)
  ·exact(b.trans (ml8 _ _ _ _ _ _ _ _)).trans (Ps (k8 bt _) _ _)
theorem Gr.both(h:Gr K a ts)(h':Gr K' a ts):Gr (λt=>K t/\K' t) a ts:=by
 obtain⟨e,rfl,f⟩:=h;obtain⟨j,g,i⟩:=h';have:=List.append_cancel_left g;subst this;exact⟨e,rfl,λt c=>⟨f t c,i t c⟩⟩
variable{α:Type}
theorem xg{a b:List α}(h:a<+:b){x:α}(c:a[q]?=some x):b[q]?=some x:=by
 obtain⟨s,rfl⟩:=h;exact dm c
theorem Jr{a b:List α}(h:a<+:b){x:α}(c:b[a.length]?=some x):a++[x]<+:b:=by
 obtain⟨s,rfl⟩:=h;rw[aJ (aE _),Nat.sub_self]at c
 match s,c with
 |y::r,c=>
  have c:=Option.some.inj c;exact⟨r,by rw[<-c,ay];rfl⟩
theorem S7{a b:List α}(h:a<+:b)(c:b.length<=a.length):a=b:=by
 obtain⟨s,rfl⟩:=h;rw[aa]at c;have:s=[]:=ju.1 ac;rw[this,aH]
theorem uE.pre{ks ks':List Kn}(h:uE ts x ks)(c:ks'<+:ks):uE ts x ks':=by
 intro q k e;obtain⟨lk,i,j,l,m,n,o,p,r⟩:=h q k (xg c e);have s:=(cq.1 e).1
 have f:q≠0->ks.getD (q-1) kN=ks'.getD (q-1) kN:=λb=>by
  have g:ks'[q-1]?=some ks'[q-1]:=an ac;rw[aw,aw,g,xg c g]
 refine⟨lk,i,j,l,m,?_,o,p,λb=>by rw[<-f b];exact r b⟩;rw[n];split
 ·rfl
 ·rename_i b;rw[f b]
def Wd.oc(w:Wd)(a:Nat):List Kn:=cJ (w.cl a).bk (a:Int)
def Wd.ct(w:Wd)(k:Int)(a:Nat):Int:=if k=2 then((w.oc a).length:Int)else gV (w.cl a).la k a
def gd(l:Lt)(hh:BL):Lk:=(l.2.1,l.2.2.2.1,l.2.2.1,l.2.2.2.2.1,hh,())
def zG(w:Wd)(l:Lt):Prop:=∃(a:Nat)(e x:BL),a<5/\l.2.1=(a:Int)/\Nm w.ts e (104,[l.2.2.2.2.2.1],())/\(fY x).2=0/\
 (∃g,Nm w.ts l.2.2.2.2.2.1 (98,[g,dB l.2.2.2.1,dp l,(fY x).1],()))/\l.2.2.2.1<=w.ct l.1 a/\
 (l.1=2->∃b:Kn,(w.oc a)[(l.2.2.2.1-1).toNat]?=some b/\b.2.1=e/\b.2.2.1=l.2.2.1/\Nm w.ts b.1 (104,[vo (gd l e)],()))/\
 (l.1=4->∃(bk:Ln)(f:List Op),x=jI bk [] 5++cE f/\Jm w.ts bk/\∀c:Nat,c<5->cJ bk (c:Int)<+:w.oc c)
structure Hi(w:Wd)(md:List Md):Prop where
 go:∀a:Nat,a<5->w.go.getD a false=false
 ch:∀a:Nat,a<5->uE w.ts (a:Int) (w.oc a)
 pf:∀i a:Nat,i<5->a<5->cJ (w.cl i).bk (a:Int)<+:w.oc a
 ep:∀i:Nat,i<5->∀k∈w.oc i,k.2.2.1<=((w.cl i).lg.2.1.length:Int)
 le:∀(n:Nat)(l:Lt),md[n]?=some (l.2.1,true,())->w.st[n]?=some (eV l)->jY l=true->zG w l
 nw:∀(k n x:BL)(l:Lt),(98,[k,n,dp l,x],())∈w.ts->pD l->l.2.2.2.1<=w.ct l.1 l.2.1.toNat
 sr:∀t∈w.ts,t.1=103->uB w md t\/uC w md t
theorem a7h.ext{w w':Wd}(h:eA w w' md md')(g:Gr K w.ts w'.ts)(s:uB w md t\/uC w md t):uB w' md' t\/uC w' md' t:=by
 have b:∀i j,w'.se i j=w.se i j:=λi j=>by unfold Wd.se;rw[h.sec]
 obtain⟨D,y⟩:=h.st;obtain⟨E,z⟩:=h.md;obtain⟨F,A⟩:=h.es;obtain⟨G,B⟩:=h.ds;refine s.imp ?_ ?_
 ·rintro⟨n,e,d,c,f,m,o,p,r,u,v⟩;exact⟨n,e,d,by rw[y];exact dm c,by rw[z];exact dm f,m,by rw[b];exact o,g.nm p,by rw[A];exact dm r,by rw[B];exact dm u,g.nm v⟩
 ·rintro⟨n,l,a,x,C,c,f,m,o,p,r,u,v⟩;exact⟨n,l,a,x,C,by rw[y];exact dm c,by rw[z];exact dm f,m,o,by rw[b];exact p,g.nm r,g.nm u,v.imp id (λq=>⟨q.1,h.go a q.2⟩)⟩
theorem zG.ext{w w':Wd}(h:zG w l)(g:Gr K w.ts w'.ts)(j:∀a:Nat,a<5->w.oc a<+:w'.oc a)(b:∀(k:Int)(a:Nat),a<5->w.ct k a<=w'.ct k a):zG w' l:=by
 obtain⟨a,m,x,f,n,o,p,⟨q,r⟩,s,t,u⟩:=h;refine⟨a,m,x,f,n,g.nm o,p,⟨q,g.nm r⟩,Int.le_trans s (b _ _ f),λe=>?_,λe=>?_⟩
 ·obtain⟨v,y,z,A,B⟩:=t e;exact⟨v,xg (j a f) y,z,A,g.nm B⟩
 ·obtain⟨bk,i,C,D,E⟩:=u e;exact⟨bk,i,C,D.gr g,λc b=>(E c b).trans (j c b)⟩
theorem Hi.ext{w w':Wd}(H:Hi w md)(x:eA w w' md md')(j:∀a:Nat,a<5->w'.go.getD a false=false)(g:Gr K w.ts w'.ts)(m:∀a:Nat,a<5->w.oc a<+:w'.oc a)(f:∀(k:Int)(a:Nat),a<5->w.ct k a<=w'.ct k a)
 (o:∀a:Nat,a<5->uE w'.ts (a:Int) (w'.oc a)) (p:∀i a:Nat,i<5->a<5->cJ (w'.cl i).bk (a:Int)<+:w'.oc a) (r:∀i:Nat,i<5->∀k∈w'.oc i,k.2.2.1<=((w'.cl i).lg.2.1.length:Int))
 (B:md.length=w.st.length)
 (u:∀(n:Nat)(l:Lt),md.length<=n->md'[n]?=some (l.2.1,true,())->w'.st[n]?=some (eV l)->jY l=true->zG w' l)
 (v:∀(k n x:BL)(l:Lt),K (98,[k,n,dp l,x],())->pD l->l.2.2.2.1<=w'.ct l.1 l.2.1.toNat)
 (z:∀t,K t->t.1=103->t∈w'.ts->uB w' md' t\/uC w' md' t):Hi w' md':=by
 refine⟨j,o,p,r,λn l c b h=>?_,λk n y l c b=>?_,λt c b=>?_⟩
 ·rcases br n md.length with q|q
  ·obtain⟨s,A⟩:=x.md;obtain⟨C,e⟩:=x.st;rw[A,bq q]at c;rw[e,bq ac]at b;exact(H.le n l c b h).ext g m f
  ·exact u n l q c b h
 ·rcases g.old c with q|q
  ·exact Int.le_trans (H.nw k n y l q b) (f _ _ (by have:=b.2.2.1;have:=b.2.2.2.1;omega))
  ·exact v k n y l q b
 ·rcases g.old c with q|q
  ·exact a7h.ext x g (H.sr t q b)
  ·exact z t q b c
end Go.Tp
