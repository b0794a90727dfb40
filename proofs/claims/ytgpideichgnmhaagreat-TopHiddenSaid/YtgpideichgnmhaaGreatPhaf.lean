/- A part of the proof of TopHiddenSaid: no conditions; packed by a program of our own. -/
import Derived.Test.YtgpideichgnmhaaGreatPhae
import Derived.Scope
import Derived.ScopeJumps
import Derived.ProofKit
import Derived.OpenShut
import Derived.SizedLaws
import Derived.Carry
import Derived.Test.YtgpideichgnmhaaGreatProg
import Derived.Laws.Bits128
import Derived.Laws.BitsLemmas
set_option linter.defProp false
set_option linter.unusedVariables false
set_option linter.unusedSimpArgs false
open And renaming intro→ck
open Array renaming getElem?_eq_some_iff→eX
open BitVec renaming ofInt→bf,ofNat→ag,setWidth→az
open Bool renaming and_eq_true→aK,true_and→lx,not_eq_true'→aR,not_eq_true→cm,not_eq_false'→aN
open Go.Instr renaming sureAddr→tQ
open Go.IntKind renaming wrap_i64→dK,i64→ii
open Go.Result renaming ok→pF,andThen_ok→aZ
open Go.Sem renaming run_pure→bD,run_bind→bJ
open Go.World renaming size_alloc→eP
open Int renaming toNat_natCast→aG,eq_ofNat_of_zero_le→bo
open List renaming map_cons→aY,replicate→ax,length_append→aa,length_cons→bc,drop_of_length_le→bu,take_of_length_le→bb,append_nil→aH,mem_cons→bm,getElem?_eq_getElem→an,getD→bF,getElem?_append_left→bq,getElem?_append_right→aJ,drop_drop→ko,take_append_drop→ej,length_take→bd,length→ah,range→fo,getD_eq_getElem?_getD→aw,length_nil→dx,foldl_cons→nu,range'→mG,mem_cons_self→aF,mem_cons_of_mem→aD,all_eq_true→cH,nodup_cons→nx,getElem?_eq_some_iff→cq,getElem_mem→ls,mem_append_left→dd,mem_singleton→bV,length_drop→cW,take→de,length_singleton→bi,sum_cons→dy,take_add_one→dR,take_length→bv
open Nat renaming lt_of_lt_of_le→bw,add_comm→fq,le_refl→aE,le_trans→bE,zero_add→bT,zero_le→aq,add_assoc→fv,lt_or_ge→br
open Option renaming map_eq_some_iff→nt,isSome_iff_exists→cX,getD_some→dA
open UInt8 renaming ofBitVec→iX
namespace Go.Hv
open Go.RowKit
variable{ops:Array Oper}{D R id l t:Nat}{h h':Nat->Option Ch}{ρ ρ':Nat->Pl}{w w':World}{B:fw}
section
theorem F2.last{α β:Type}{R:α->β->Prop}:∀{m:List β}{l:List α}{x:β},F2 R l (m++[x])->F2 R l.dropLast m/\∃v,l.getLast?=some v/\R v x
 |[],[],_,h=>h.elim
 |[],[v],_,h=>⟨trivial,v,rfl,h.1⟩
 |[],_::_::_,_,h=>h.2.elim
 |_::_,[],_,h=>h.elim
 |b::m,[v],_,h=>by
  have:=F2.length h;simp at this
 |b::m,a::c::l,x,h=>by
  obtain⟨e,v,f,g⟩:=F2.last (m:=m) (l:=c::l) (x:=x) h.2;exact⟨⟨h.1,e⟩,v,by rw[List.getLast?_cons_cons];exact f,g⟩
theorem yE{R:V->Value->Prop}:∀(ps:List Tmp)(vs:List V)(us:List Value){slots:List V}{t:Array Value},F2 R slots t.toList->F2 R vs us->
 F2 R (Ci slots (ps.zip vs)) ((ps.zip us).foldl (λt(p:Tmp×Value)=>t.setIfInBounds p.1 p.2) t).toList
 |[],_,_,_,_,h,_=>h
 |_::_,[],[],_,_,h,_=>h
 |_::_,[],_::_,_,_,_,a=>a.elim
 |_::_,_::_,[],_,_,_,a=>a.elim
 |p::ps,v::vs,u::us,slots,t,h,a=>by
  refine yE ps vs us (slots:=slots.set p v) (t:=t.setIfInBounds p u) ?_ a.2;rw[Array.toList_setIfInBounds];exact F2.set h p a.1
theorem sZ:∀(l:List (Tmp×Value))(t:Array Value),(l.foldl (λt(p:Tmp×Value)=>t.setIfInBounds p.1 p.2) t).size=t.size
 |[],_=>rfl
 |p::l,t=>by rw[nu,sZ l];simp
theorem yf.mvL{r:Loop}{f:List Deferred}(i:yf B ρ w h f)(a:EZ l ρ w h ρ' w' h')(j:w.heap[l]?=some (.loop r)):yf B ρ' w' h' f:=
 let⟨z,e,m,n⟩:=i
 ⟨z,e,m,λD o=>let⟨p,s,b,c,g⟩:=n D o;⟨p,s,bw b a.size,(a.block D b (λe=>by subst e;rw[j]at c;cases c) g).trans c,λq=>g (a.own D b q)⟩⟩
section
variable{P:Program}{Γ:bG}{R:Nat}{B:fw}{J:It}{Q:Kn}{σ:St}
theorem TI.yield(hΓ:bX P Γ){x r:List Oper}{o:Oper}{f:Operand}{args:Array Operand}(hs:pV ops.toList=some (x,o,f,args,r))
 (h:vcY P Γ J.n J.ps J.asg J.body ops x o f args r σ Q):TI P R B J (.region id ops false) σ Q:=by
 intro ρ a w m hr;obtain⟨⟨h1,h2,h3⟩,h⟩:=h;obtain⟨hl,ty,b5⟩:=vi hs;have a4:∀y∈ops.toList,pU y=true:=λy N=>cH.1 h1 y N;have O:∀i:Nat,ops[i]?=(x++o::r)[i]?:=λi=>by rw[<-hl];simp
 have b6:ops.size=x.length+(1+r.length):=by have:=aI ah hl;simp at this;omega
 rw[<-wpIn_wide (n:=0)];refine wpIn_region (F:=gW none) ?_
 have b7:fo ops.size=mG 0 x.length++(x.length::mG (x.length+1) r.length):=by
  rw[List.range_eq_range',b6,<-List.range'_append_1,bT,fq 1 r.length,List.range'_succ]
 rw[b7];refine rg hΓ (ro:=none) x 0 ⟨σ.slots.take J.n,σ.heap,σ.next⟩ ρ a w (λy N=>a4 y (by rw[hl];exact dd _ N)) (λi y hi=>by rw[bT,O,bq (cq.1 hi).1];exact hi) hr.sub (ca ?_ h);intro g hq ρ1 E w1 a6 G;have c:=hr.back a6 G;split at hq
 case h_2=>exact hq.elim
 rename_i l1 l2 b8 b9 c0;obtain⟨rfl,hv⟩:=hq;have tl:=F2.imp (λ_ _=>aT.evo G.mv.evo a6) hr.sl.2;generalize hT:σ.slots.drop J.n=T at*;obtain⟨t1,v,t2,t3⟩:=F2.last tl;obtain⟨t4,v5,t5,t6⟩:=F2.last t1;rw[c0]at t5;have t5:=Option.some.inj t5;subst t5
 have c1:l1=J.l:=by
  have:=aM.1 t6;simp[bh,Rd]at this;exact this.symm
 subst c1;rw[b9]at t2;have t2:=Option.some.inj t2;subst t2
 have c2:m=0:=by
  have:=aM.1 t3;simp[bh,Sc.val]at this;exact this
 subst c2
 have c3:E.eval f= .func (.yield J.l) #[] #[]:=by
  have:=fW G.slots f;rw[b8]at this;have:=aM.1 this;simp[bh,Rd]at this;exact this
 have s:ops[x.length]?=some o:=by rw[O,aJ (aE _),Nat.sub_self];rfl
 rw[wpOpsIn_cons];unfold wpOpIn;simp only[s];rw[ak (by simp[Region.wanted,h2])];refine⟨λ_ _=>trivial,?_⟩
 have a7:(o.semAt (gW none).round E.eval).run P w1= .ok (.round J.l J.fn ((J.ps.zip (args.map E.eval)).foldl (λA(t,a)=>A.setIfInBounds t a) J.tmps) J.asg J.body) w1:=by
  have N:=run_yield (P:=P) (args:= #[]++args.map E.eval) c.rc (by simp[It.rcd,h3]);rw[show(gW none).round=none from rfl,Oper.semAt_none];simp only[execOp,b5,resolve,c3,Deferred.ofValue,bJ,bD,aZ,invoke];rw[N];simp[It.rcd]
 rw[a7,Oper.uponIn_round];refine⟨sX,roundIn_of_wpIn trivial ?_⟩
 have S:(J.ps.zip (args.map E.eval)).foldl (λA(t,a)=>A.setIfInBounds t a) J.tmps=(J.ps.toList.zip (args.toList.map E.eval)).foldl (λt(p:Tmp×Value)=>t.setIfInBounds p.1 p.2) J.tmps:=by
  rw[<-Array.foldl_toList];simp
 rw[S]
 have rc:fR g.next ⟨B.F,ρ1,w1,aW g.heap,J.tmps.size,false⟩ ⟨Ci T.dropLast.dropLast (J.ps.toList.zip (args.toList.map (dO g.slots))),g.heap,g.next⟩ ρ1 {tmps:=(J.ps.toList.zip (args.toList.map E.eval)).foldl (λt(p:Tmp×Value)=>t.setIfInBounds p.1 p.2) J.tmps,defers:=[]} w1:=
  ⟨.nil rfl,yE _ _ _ t4 (kH (λy=>fW G.slots y) _),G.heap,Mv.refl _ _ _,G.fresh,λ_ _=> .inl rfl,aE _,sZ _ _⟩
 refine wpIn_mono (F:=gW (some J.l)) (FP (ro:=some J.l) hΓ J.asg _ _ hv _ ρ1 _ w1 rc) ?_;rintro e a2 w2 ⟨s2,ρ2,q2,c4,C⟩;cases e with
 |normal=>
  have U:w2.heap[J.l]?=some (.loop (J.rcd 0)):=(C.mv.block J.l c.lt c.no).trans c.rc;have W:¬qj ρ2 (aW s2.heap) J.l:=λq=>c.no (C.mv.own J.l c.lt q);have H:J.l<w2.heap.size:=bw c.lt C.mv.size;refine⟨_,run_beginRound U rfl,?_⟩;generalize X:({J.rcd 0 with state:= .busy}:Loop)=K;obtain⟨c5,a8⟩:=C.heap.put (.loop K) (λo s=>by rw[U]at s;cases s;rfl) W;have c6:a2.defers=[]:=C.defers.no rfl
  have rb:fR s2.next ⟨B.F,ρ2,w2.putObj J.l (.loop K),aW s2.heap,a2.tmps.size,false⟩ s2 ρ2 a2 (w2.putObj J.l (.loop K)):=
   ⟨.nil c6,F2.imp (λ_ _=>aT.evo (a8.evo (λo s=>by rw[U]at s;cases s;rfl)) (eA.refl _)) C.slots,c5,Mv.refl _ _ _,C.fresh,λ_ _=> .inl rfl,aE _,rfl⟩
  refine wpIn_mono (F:=gW (some J.l)) (FP (ro:=some J.l) hΓ J.body _ _ q2 _ ρ2 a2 _ rb) ?_;rintro e3 a3 w3 ⟨Y,ρ3,q3,c7,L⟩;have a9:(w2.putObj J.l (.loop K)).heap[J.l]?=some (.loop K):=World.putObj_heap_same H;have j:J.l<(w2.putObj J.l (.loop K)).heap.size:=by rw[World.putObj_size];exact H
  have b0:w3.heap[J.l]?=some (.loop K):=(L.mv.block J.l j W).trans a9;have b1:¬qj ρ3 (aW Y.heap) J.l:=λq=>W (L.mv.own J.l j q);have b2:J.l<w3.heap.size:=bw j L.mv.size
  have fin:∀(b:Option Code)(u:Nat),({K with state:=if b.isNone then .ready else .done,pending:=b}:Loop)=J.rcd u->
   (jx P Γ ops r ⟨fE g.slots o.dst (V.val false [.k (.bool b.isNone)]),Y.heap,Y.next⟩).sat (λs4=>Q .normal ⟨s4.slots++(T.dropLast++[V.val false [.k (.i64 (u:Int))]]),s4.heap,s4.next⟩)->
   ∃v z,(Instr.endRound J.l b).run P w3= .ok v z/\wpOpsIn (gW none) 0 P ops (λe a' z=>∃σ' ρ' m',Q e σ'/\jy R B J σ' ρ' a' z m') (mG (x.length+1) r.length) (E.put o.dst v) z:=by
   intro b u b3 hq;refine⟨_,_,run_endRound b b0,?_⟩;rw[b3];obtain⟨c8,c9⟩:=L.heap.put (.loop (J.rcd u)) (λo s=>by rw[b0]at s;cases s;rfl) b1;have ch:EZ J.l ρ1 w1 (aW g.heap) ρ3 (w3.putObj J.l (.loop (J.rcd u))) (aW Y.heap):=C.mv.toL.trans (a8.trans (L.mv.toL.trans c9));have ev:=ch.evo (F:=B.F) (λo s=>by have hc:=c.rc;rw[hc]at s;cases s;rfl);have hx:eA ρ1 ρ3:=c4.trans c7;have a0:g.slots.length=J.n:=by rw[F2.length G.slots];simpa using c.sz
   have D:(fE g.slots o.dst (V.val false [.k (.bool b.isNone)])).length=J.n:=by cases o.dst<;>simp[fE,a0]
   have d0:F2 (aT (w3.putObj J.l (.loop (J.rcd u))) (Av B.F ρ3 (aW Y.heap)) ρ3) (fE g.slots o.dst (V.val false [.k (.bool b.isNone)])) (E.put o.dst (.bool b.isNone)).tmps.toList:=
    oQ (F2.imp (λ_ _=>aT.evo ev hx) G.slots) o.dst (aM.2 rfl)
   have b4:jy R B J ⟨fE g.slots o.dst (V.val false [.k (.bool b.isNone)])++(T.dropLast++[V.val false [.k (.i64 (u:Int))]]),Y.heap,Y.next⟩ ρ3 (E.put o.dst (.bool b.isNone)) (w3.putObj J.l (.loop (J.rcd u))) u:=by
    refine⟨⟨c.rel.defers.mvL ch c.rc,?_,c8,c.rel.mv.transL ch c.ge,L.fresh,vh c.rel.root (n:=g.next) (λk hk=>?_) c.rel.rn,?_,?_⟩,?_,?_,World.putObj_heap_same b2,c.ge,b1⟩
    ·rw[It.act_list];exact F2.append d0 (F2.append (F2.imp (λ_ _=>aT.evo ev hx) t1) ⟨aM.2 rfl,trivial⟩)
    ·rcases L.root k (bw hk C.rn)with e|e
     ·rw[e];exact C.root k hk
     ·exact .inr e
    ·exact bE c.rel.rn (bE C.rn L.rn)
    ·have h1:=c.rel.len;rw[sY]at h1⊢;rw[jT];exact h1
    ·cases o.dst<;>exact c.df
    ·rw[jT];exact c.sz
   have d1:(fE g.slots o.dst (V.val false [.k (.bool b.isNone)])++(T.dropLast++[V.val false [.k (.i64 (u:Int))]])).take J.n=fE g.slots o.dst (V.val false [.k (.bool b.isNone)]):=by rw[<-D,List.take_left]
   have d2:(fE g.slots o.dst (V.val false [.k (.bool b.isNone)])++(T.dropLast++[V.val false [.k (.i64 (u:Int))]])).drop J.n=T.dropLast++[V.val false [.k (.i64 (u:Int))]]:=by rw[<-D,List.drop_left]
   have M:=b4.sub;simp only[d1]at M
   have:=rg hΓ (ro:=none) (n:=0) (rest:=[]) (ops:=ops) (Q:=λe a' z=>∃σ' ρ' m',Q e σ'/\jy R B J σ' ρ' a' z m') r (x.length+1) _ ρ3 _ _ (λy N=>a4 y (by rw[hl];exact List.mem_append_right _ (aD _ N))) (λi y hi=>by rw[O,aJ ac,show x.length+1+i-x.length=i+1 by omega,List.getElem?_cons_succ];exact hi) M
    (ca (λs4 q ρ5 a5 w5 d3 r5=>by
     have:=b4.back d3 r5;rw[d2]at this;exact⟨_,ρ5,u,q,this⟩) hq)
   rw[aH]at this;exact this
  cases e3 with
  |normal=>
   obtain⟨v,z,g1,g2⟩:=fin none 0 (by rw[<-X];rfl) q3;exact⟨v,z,g1,g2⟩
  |ret=>
   obtain⟨v,z,g1,g2⟩:=fin (some .ret) 1 (by rw[<-X];rfl) q3;exact⟨v,z,g1,g2⟩
  |exit i=>
   obtain⟨v,z,g1,g2⟩:=fin (some (.exit i)) (i+2) (by rw[<-X];simp[It.rcd,FQ]) q3;exact⟨v,z,g1,g2⟩
  |_=>exact q3.elim
 |_=>exact q2.elim
end
end
variable{asg body c rest x y:Code}{b:Kn}{ps:List cx}{cut:ve}
section
def cOk(n:Nat):Operand->Bool
 | .tmp t=>decide (t<n)
 |_=>true
section
variable(P:Program)(Γ:bG)(R N:Nat)(A:eH)(n:Nat)(ps:Array Tmp)(asg body:Code)
def nA:Code->Option Nat->St->Kn->Prop
 | .skip,none,s,Q=>Q .normal s
 | .region _ i h,none,s,Q=>match pV i.toList with
   |some (x,o,f,args,r)=>h=false/\vcY P Γ n ps asg body i x o f args r s Q
   |none=>(Ko P Γ i h ⟨s.slots.take n,s.heap,s.next⟩).sat λe=>Q .normal ⟨e.slots++s.slots.drop n,e.heap,e.next⟩
 | .seq x y,none,s,Q=>match vg A.joins ((ik y).map (·+1000))with
   |some c=>nA x none s (gb (λe=>fS R c e c.inv) Q)/\kL c.ps (λo=>c.inv o->nA y none (fF c.ps N o) Q) c.ps.length 0
   |none=>nA x none s (gb (λe=>nA y none e Q) Q)
 | .seq x y,some g,s,Q=>if(findLabel x g).isSome then nA x (some g) s (gb (λe=>nA y none e Q) Q)else nA y (some g) s Q
 | .cond c x y,none,s,Q=>cOk n c=true/\match dO s.slots c with
   | .val false [.k (.bool true)]=>nA x none s Q
   | .val false [.k (.bool false)]=>nA y none s Q
   | .val false [.d .bl b]=>(b=true->nA x none (lW s c true) Q)/\(b=false->nA y none (lW s c false) Q)
   |_=>False
 | .block id c,none,s,Q=>nA c none s (qC id Q)
 | .scope c,none,s,Q=>match vg A.jumps (ik c)with
   |some (g,cut)=>(findLabel c g).isSome=true/\nA c none s (ld g (λe=>fS R cut e cut.inv) Q)/\
    kL cut.ps (λo=>cut.inv o->nA c (some g) (fF cut.ps N o) (ld g (λe=>fS R cut e λj=>cut.inv j/\cut.mu j<cut.mu o) Q)) cut.ps.length 0
   |none=>nA c none s (Kp Q)
 | .label _,none,s,Q=>Q .normal s
 | .label l,some g,s,Q=>if l==g then Q .normal s else False
 | .goto g,none,s,Q=>Q (.goto g) s
 | .exit id,none,s,Q=>Q (.exit id) s
 | .ret,none,s,Q=>Q .ret s
 |_,_,_,_=>False
end
section
variable{P:Program}{Γ:bG}{R:Nat}{B:fw}{J:It}{A:eH}{Q:Kn}{σ:St}{ρ:Nat->Pl}{a:Act}{w:World}{m N:Nat}
theorem TI.seq(h:TI P R B J x σ (gb (λσ'=>TI P R B J y σ' Q) Q)):TI P R B J (.seq x y) σ Q:=by
 intro ρ a w m c;refine wp_seq (wp_mono (h ρ a w m c) ?_);rintro e f g ⟨σ',ρ',b,q,r⟩;cases e with
 |normal=>exact q ρ' f g b r
 |_=>exact⟨σ',ρ',b,q,r⟩
theorem TI.mono(h:TI P R B J c σ Q)(f:∀e σ,Q e σ->b e σ):TI P R B J c σ b:=
 λρ a w m g=>wp_mono (h ρ a w m g) λe _ _⟨σ',ρ',i,q,r⟩=>⟨σ',ρ',i,f e σ' q,r⟩
theorem jy.enter{y:cF ps}(b:jy R B J σ ρ a w m)(c:B.n=N)(h:sT R σ ps=some y):∃ρ',jy R B J (fF ps N y) ρ' a w m:=by
 obtain⟨ρ',e,f⟩:=sV b.rel c h;exact⟨ρ',e,b.df,b.sz,b.rc,b.ge,λq=>b.no (f J.l b.lt q)⟩
theorem TI.enter{y:cF cut.ps}(e:B.n=N)(f:sT R σ cut.ps=some y)(h:TI P R B J c (fF cut.ps N y) Q):TI P R B J c σ Q:=λρ a w m g=>
 let⟨ρ',b⟩:=g.enter e f
 h ρ' a w m b
theorem TI.block(h:TI P R B J c σ (qC id Q)):TI P R B J (.block id c) σ Q:=by
 intro ρ a w m f;refine wp_block (wp_mono (h ρ a w m f) ?_);rintro e i j ⟨σ',ρ',b,q,r⟩;cases e with
 |exit g=>
  simp only[Exit.inBlock];simp only[qC]at q;split
  ·rename_i e;rw[ak e]at q;exact⟨σ',ρ',b,q,r⟩
  ·rename_i e;rw[ae e]at q;exact⟨σ',ρ',b,q,r⟩
 |_=>exact⟨σ',ρ',b,q,r⟩
theorem TI.scope(h:TI P R B J c σ (Kp Q)):TI P R B J (.scope c) σ Q:=by
 intro ρ a w m b;refine wp_scope_straight (wp_mono (h ρ a w m b) ?_);rintro e g i ⟨σ',ρ',f,q,r⟩;cases e with
 |goto l=>exact q.elim
 |_=>exact⟨σ',ρ',f,q,r⟩
theorem TI.scopeJ(M:B.n=N)(W:findLabel c l=some rest)(first:TI P R B J c σ (ld l (λs'=>fS R cut s' cut.inv) Q))
 (v:∀o:cF cut.ps,o.1<cut.ps.length->cut.inv o->TI P R B J rest (fF cut.ps N o) (ld l (λs'=>fS R cut s' λo'=>cut.inv o'/\cut.mu o'<cut.mu o) Q)):TI P R B J (.scope c) σ Q:=by
 intro ρ a w m y b k x;have O:gotoIn l (.inScope c::k)=some (.code rest:: .inScope c::k):=by simp[gotoIn,W]
 have C:∀z(o:cF cut.ps)ρ a w m,cut.mu o=z->o.1<cut.ps.length->cut.inv o->jy R B J (fF cut.ps N o) ρ a w m->
  ∃e S U,(∃σ' ρ' X,Q e σ'/\jy R B J σ' ρ' S U X)/\Arrives P (lone (b.at a (.code rest:: .inScope c::k)) x w) b k x e S U:=by
  intro z
  induction z using Nat.strongRecOn with
  |_ z Y=>
   intro o ρ a w m hm D hI y;obtain⟨e,j,p,⟨σ1,ρ1,q,h,g⟩,f⟩:=v o D hI ρ a w m y b (.inScope c::k) x;cases e with
   |normal=>exact⟨.normal,j,p,⟨σ1,ρ1,q,h,g⟩,Steps.trans f (.one step_inScope)⟩
   |exit id=>exact⟨.exit id,j,p,⟨σ1,ρ1,q,h,g⟩,λE F=>f E (by simp[exitTo,F])⟩
   |goto l'=>
    simp only[ld]at h;split at h
    case isFalse=>exact h.elim
    rename_i G;subst G;obtain⟨o',r,s,a0⟩:=gl h;obtain⟨ρ2,t⟩:=g.enter M r;have:=dM r;obtain⟨H,K,L,u,i⟩:=Y _ ac o' ρ2 j p q rfl ac s t;exact⟨H,K,L,u, .of_steps (f _ O) i⟩
   |ret=>exact⟨_,j,p,⟨σ1,ρ1,q,h,g⟩,f⟩
   |panic ch=>exact⟨_,j,p,⟨σ1,ρ1,q,h,g⟩,f⟩
   |outgrown=>exact⟨_,j,p,⟨σ1,ρ1,q,h,g⟩,f⟩
 obtain⟨e,j,p,⟨σ1,ρ1,q,h,g⟩,f⟩:=first ρ a w m y b (.inScope c::k) x
 cases e with
 |normal=>exact⟨.normal,j,p,⟨σ1,ρ1,q,h,g⟩, .head step_scope (Steps.trans f (.one step_inScope))⟩
 |exit id=>exact⟨.exit id,j,p,⟨σ1,ρ1,q,h,g⟩,λE F=> .head step_scope (f E (by simp[exitTo,F]))⟩
 |goto l'=>
  simp only[ld]at h;split at h
  case isFalse=>exact h.elim
  rename_i G;subst G;obtain⟨o',r,s⟩:=gl h;obtain⟨ρ2,t⟩:=g.enter M r;have:=dM r;obtain⟨H,K,L,u,i⟩:=C _ o' ρ2 j p q rfl ac s t;exact⟨H,K,L,u, .of_steps (.head step_scope (f _ O)) i⟩
 |ret=>exact⟨_,j,p,⟨σ1,ρ1,q,h,g⟩, .of_steps (.one step_scope) f⟩
 |panic ch=>exact⟨_,j,p,⟨σ1,ρ1,q,h,g⟩, .of_steps (.one step_scope) f⟩
 |outgrown=>exact⟨_,j,p,⟨σ1,ρ1,q,h,g⟩, .of_steps (.one step_scope) f⟩
theorem FR{c:Operand}(b:cOk a.tmps.size c=true):(J.act a m).eval c=a.eval c:=by
 cases c with
 |tmp t=>
  have e:t<a.tmps.size:=af b;simp only[Act.eval,It.act,Array.getD_eq_getD_getElem?];rw[Array.getElem?_append_left e]
 |_=>rfl
def TIF(P:Program)(R:Nat)(B:fw)(J:It)(c:Code)(fr:Option Nat)(σ:St)(Q:Kn):Prop:=match fr with
 |none=>TI P R B J c σ Q
 |some l=>∀b,findLabel c l=some b->TI P R B J b σ Q
theorem PR(K:bX P Γ)(hL:cO Γ)(U:P.follows .mixedOrders=true)(L:B.n=N):∀(c:Code)(fr:Option Nat)(σ:St)(Q:Kn),nA P Γ R N A J.n J.ps J.asg J.body c fr σ Q->TIF P R B J c fr σ Q:=by
 intro c
 induction c with
 |skip=>
  intro fr σ Q h;cases fr with
  |none=>exact λρ _ _ m i=>wp_skip ⟨σ,ρ,m,h,i⟩
  |some l=>exact λ_ g=>by simp[findLabel]at g
 |region id W M=>
  intro fr σ Q h;cases fr with
  |some l=>exact λ_ g=>by simp[findLabel]at g
  |none=>
   simp only[nA]at h;split at h
   ·rename_i x o f args r t;obtain⟨rfl,h⟩:=h;exact TI.yield K t h
   ·exact TI.region K hL U h
 |seq x y p j=>
  intro fr σ Q h;cases fr with
  |none=>
   simp only[nA]at h;split at h
   ·rename_i cut v;obtain⟨C,D⟩:=h;refine TI.seq ((p none _ _ C).mono ?_);intro e σ' s;cases e with
    |normal=>
     obtain⟨o,O,E⟩:=gl s;have F:=dM O;exact TI.enter L O (j none _ _ (gR D o ac ac E))
    |_=>exact s
   ·refine TI.seq ((p none _ _ h).mono ?_);intro e σ' s;cases e with
    |normal=>exact j none _ _ s
    |_=>exact s
  |some l=>
   intro q g;simp only[nA]at h;simp only[findLabel]at g;split at h
   ·rename_i t;split at g
    ·rename_i r i;simp at g;subst g;refine TI.seq ((p (some l) _ _ h r i).mono ?_);intro e σ' s;cases e with
     |normal=>exact j none _ _ s
     |_=>exact s
    ·rename_i i;rw[i]at t;simp at t
   ·rename_i t;split at g
    ·rename_i r i;rw[i]at t;simp at t
    ·exact j (some l) _ _ h q g
 |cond c x y p j=>
  intro fr σ Q h;cases fr with
  |some l=>exact λ_ g=>by simp[findLabel]at g
  |none=>
   simp only[nA]at h;obtain⟨G,h⟩:=h;intro ρ a w m i;have H:(J.act a m).eval c=a.eval c:=FR (by rw[i.sz];exact G);have v:=yD (P:=P) i.rel (c:=c);rw[H]at v;split at h
   ·rename_i z;exact wp_cond_true (v.1 _ z) (p none _ _ h ρ a w m i)
   ·rename_i z;exact wp_cond_false (v.1 _ z) (j none _ _ h ρ a w m i)
   ·rename_i b z;obtain⟨X,Y⟩:=v.2 b z;have ek:aW (lW σ c b).heap=aW σ.heap:=by cases c<;>rfl
    have S:jy R B J (lW σ c b) ρ a w m:=⟨Y,i.df,i.sz,i.rc,i.ge,by rw[ek];exact i.no⟩;refine wp_cond_split X (λe=>?_) (λe=>?_)
    ·subst e;exact p none _ _ (h.1 rfl) ρ a w m S
    ·subst e;exact j none _ _ (h.2 rfl) ρ a w m S
   ·exact h.elim
 |block id c u=>
  intro fr σ Q h;cases fr with
  |some l=>exact λ_ g=>by simp[findLabel]at g
  |none=>exact TI.block (u none _ _ h)
 |scope c u=>
  intro fr σ Q h;cases fr with
  |some l=>exact λ_ g=>by simp[findLabel]at g
  |none=>
   simp only[nA]at h;split at h
   ·rename_i l cut _;obtain⟨C,D,h3⟩:=h;rw[cX]at C;obtain⟨q,g⟩:=C;exact TI.scopeJ L g (u none _ _ D) λo F E=>u (some l) _ _ (gR h3 o ac ac E) q g
   ·exact TI.scope (u none _ _ h)
 |label l'=>
  intro fr σ Q h;cases fr with
  |none=>exact λρ _ _ m i=>wp_label ⟨σ,ρ,m,h,i⟩
  |some l=>
   intro q g;simp only[nA]at h;split at h
   ·rename_i e;simp only[findLabel,e,if_true,Option.some.injEq]at g;subst g;exact λρ _ _ m i=>wp_skip ⟨σ,ρ,m,h,i⟩
   ·exact h.elim
 |exit id=>
  intro fr σ Q h;cases fr with
  |some l=>exact λ_ g=>by simp[findLabel]at g
  |none=>exact λρ _ _ m i=>wp_exit ⟨σ,ρ,m,h,i⟩
 |goto l=>
  intro fr σ Q h;cases fr with
  |some l=>exact λ_ g=>by simp[findLabel]at g
  |none=>exact λρ _ _ m i=>wp_goto ⟨σ,ρ,m,h,i⟩
 |ret=>
  intro fr σ Q h;cases fr with
  |some l=>exact λ_ g=>by simp[findLabel]at g
  |none=>exact λρ _ _ m i=>wp_ret ⟨σ,ρ,m,h,i⟩
 |loop c u=>intro fr σ Q h;cases fr<;>simp[nA]at h
 |rangeFunc f ps x y p j=>intro fr σ Q h;cases fr<;>simp[nA]at h
 |refuse a0=>intro fr σ Q h;cases fr<;>simp[nA]at h
end
end
variable{a:Act}{A F:Nat->Prop}
section
def AB(n:Nat)(Q:Kn):Kn:=λe s=>match e with
 | .normal=>fin s
 | .ret=>fin s
 |_=>False
where fin (s:St):Prop:=match(s.slots.drop n).getLast? with
 |some (.val false [.k (.i64 m)])=>if m=0 then Q .normal ⟨(s.slots.drop n).dropLast.dropLast,s.heap,s.next⟩else if m=1 then Q .ret ⟨(s.slots.drop n).dropLast.dropLast,s.heap,s.next⟩else Q (.exit (m-2).toNat) ⟨(s.slots.drop n).dropLast.dropLast,s.heap,s.next⟩
 |_=>False
def wn(P:Program)(f:FuncId):Func:=(P.funcs[f]?).getD default
def wo(P:Program)(Γ:bG)(R N:Nat)(A:eH)(g:Operand)(ps:Array Tmp)(b a:Code)(s:St)(Q:Kn):Prop:=
 match dO s.slots g with
 | .val false [.fn f [] cap]=>(fj P f=true/\1+cap.length<=(wn P f).ntmps/\(wn P f).results.toList.isEmpty=true)/\
   ∀l:Nat,nA P Γ R ((wn P f).ntmps+(N+2)) A (wn P f).ntmps ps b a ((wn P f).body.getD .skip) none
    ⟨(sc (.d .yl l)::cap.map λp=>sc (.ptr p.1 p.2))++ax ((wn P f).ntmps-(1+cap.length)) (.tup [])++((s.slots++[sc (.d .yl l)])++[sc (.k (.i64 0))]),s.heap,s.next⟩ (AB (wn P f).ntmps Q)
 |_=>False
theorem F2.repl:∀(m:Nat),F2 (aT w A ρ) (ax m (.tup [])) (ax m undef)
 |0=>trivial
 |m+1=>⟨fd,F2.repl m⟩
theorem F2.ptrs:∀{l:List (Nat×Nat)}{vs:List Value},F2 (lz ρ) l vs->F2 (aT w A ρ) (l.map λp=>sc (.ptr p.1 p.2)) vs
 |[],[],_=>trivial
 |[],_::_,h=>h.elim
 |_::_,[],h=>h.elim
 |_::_,v::_,⟨a,h⟩=>⟨aM.2 ⟨v,a,rfl⟩,F2.ptrs h⟩
section
variable{P:Program}{Γ:bG}{R N:Nat}{B:fw}{A:eH}{Q:Kn}{σ:St}
theorem FT(hΓ:bX P Γ)(hL:cO Γ)(hm:P.follows .mixedOrders=true){g:Operand}{ps:Array Tmp}(hN:B.n=N)(hk:B.dk=true)(hr:fR R B σ ρ a w)
 (h:wo P Γ R N A g ps asg body σ Q):(Code.rangeFunc g ps asg body).wp P (λe a' w'=>∃σ' ρ',Q e σ'/\fR R B σ' ρ' a' w') a w:=by
 unfold wo at h;split at h
 case h_2=>exact h.elim
 rename_i f cap hg;obtain⟨⟨hc,hn,hres⟩,h⟩:=h;have hgv:=fW hr.slots g;rw[hg]at hgv;obtain⟨fs,cs,e1,e2,e3⟩:=aM.1 hgv;have e1:a.eval g= .func (.func f) fs.toArray cs.toArray:=cf e1
 have hfs:fs=[]:=by cases fs with
  |nil=>rfl
  |cons _ _=>exact e2.elim
 subst hfs
 obtain⟨fn0,hf,hb0⟩:∃fn,P.funcs[f]?=some fn/\fn.body.isSome=true:=by
  unfold fj at hc;split at hc
  ·rename_i fn hf;rw[aK]at hc;exact⟨fn,hf,hc.2⟩
  ·cases hc
 have hfn:wn P f=fn0:=by unfold wn;rw[hf];rfl
 rw[hfn]at hn hres h;rw[cX]at hb0;obtain⟨c,hb⟩:=hb0;rw[hb,dA]at h;rw[<-wpIn_wide (n:=0)];refine wpIn_rangeFunc λfn _=>?_;have hrun:=run_enterLoop_outer (P:=P) (w:=w) fn a.tmps ps asg body;have hcl:cs.length=cap.length:=(F2.length e3).symm
 let w1:World:=(w.alloc (.deferred (some []))).alloc (.loop {state:= .ready,pending:=none,fn,tmps:=a.tmps,params:=ps,assign:=asg,body,defers:=w.heap.size})
 refine⟨w.heap.size+1,[mark w.heap.size],w1,⟨.fn (.func f) cs.toArray, #[.func (.yield (w.heap.size+1)) #[] #[]]⟩,w1,f, #[.func (.yield (w.heap.size+1)) #[] #[]]++cs.toArray,w1,hrun,?_,λ_ _=>trivial,?_,(λq=>by cases q),?_⟩
 ·simp only[resolve,e1,Deferred.ofValue,bD];simp[Act.eval]
 ·simp only[invoke];exact kI hc _ _
 have s1:=gf.alloc w (.deferred (some []));have s2:=gf.alloc (w.alloc (.deferred (some []))) (.loop {state:= .ready,pending:=none,fn,tmps:=a.tmps,params:=ps,assign:=asg,body,defers:=w.heap.size});obtain⟨p1,p2⟩:=hr.heap.same s1;obtain⟨p3,p4⟩:=p1.same s2;have hmv:Mv ρ w (aW σ.heap) ρ w1 (aW σ.heap):=p2.trans p4;have hsz1:w1.heap.size=w.heap.size+2:=by show((w.alloc _).alloc _).heap.size=_;rw[eP,eP]
 have hD:w1.heap[w.heap.size]?=some (.deferred (some [])):=by
  rw[s2.old _ (by rw[eP];omega)];exact World.alloc_heap_new w _
 have hl:w1.heap[w.heap.size+1]?=some (.loop {state:= .ready,pending:=none,fn,tmps:=a.tmps,params:=ps,assign:=asg,body,defers:=w.heap.size}):=by
  have:=World.alloc_heap_new (w.alloc (.deferred (some []))) (.loop {state:= .ready,pending:=none,fn,tmps:=a.tmps,params:=ps,assign:=asg,body,defers:=w.heap.size});rw[eP]at this;exact this
 have hown:∀b,qj ρ (aW σ.heap) b->b<w.heap.size:=λb⟨k,c,q1,q2,q3⟩=>(hr.heap.fr k c b q1 q2 q3).1
 let J:It:=⟨w.heap.size+1,w.heap.size,fn,a.tmps,ps,asg,body,fn0.ntmps,mark w.heap.size::a.defers⟩
 let B':fw:=⟨B.F,B.ρ,B.w,B.h,fn0.ntmps+(N+2),true⟩
 have hdf:yf B' ρ w1 (aW σ.heap) (mark w.heap.size::a.defers):=by
  obtain⟨z,z1,z2,z3⟩:=hr.defers;refine⟨w.heap.size::z,by rw[z1];rfl,nx.2 ⟨λq=>?_,z2⟩,λD hD'=>?_⟩
  ·have:=(z3 _ q).2.2.1;omega
  ·rcases bm.1 hD' with rfl|hD'
   ·exact⟨rfl,hr.mv.size,ac,hD,λq=>by have:=hown _ q;omega⟩
   ·obtain⟨y0,y1,y2,y3,y4⟩:=z3 D hD';exact⟨rfl,y1,ac,(hmv.block D y2 y4).trans y3,y4⟩
 have hvs:=h (w.heap.size+1);refine sW (ro:=none) (calls_of_wp hf hb ?_);have hI:=PR (J:=J) (B:=B') (N:=fn0.ntmps+(N+2)) hΓ hL hm rfl c none _ _ hvs
 have hrI:jy R B' J ⟨(sc (.d .yl (w.heap.size+1))::cap.map λp=>sc (.ptr p.1 p.2))++ax (fn0.ntmps-(1+cap.length)) (.tup [])++((σ.slots++[sc (.d .yl (w.heap.size+1))])++[sc (.k (.i64 0))]),σ.heap,σ.next⟩ ρ
  {tmps:=(#[.func (.yield (w.heap.size+1)) #[] #[]]++cs.toArray)++Array.replicate (fn0.ntmps-(#[.func (.yield (w.heap.size+1)) #[] #[]]++cs.toArray:Array Value).size) undef,defers:=[]} w1 0:=by
  refine⟨⟨hdf,?_,p3,hr.mv.trans hmv,hr.fresh,hr.root,hr.rn,?_⟩,rfl,?_,hl,by have:=hr.mv.size;show B.w.heap.size<=w.heap.size+1;omega,λq=>by have:=hown _ q;exact absurd this (by show¬(w.heap.size+1<w.heap.size);omega)⟩
  ·rw[It.act_list];have hsl:=F2.imp (λ_ _=>aT.evo hmv.evo (eA.refl ρ)) hr.slots;have hy:F2 (aT w1 (Av B'.F ρ (aW σ.heap)) ρ) [sc (.d .yl (w.heap.size+1))] [.func (.yield (w.heap.size+1)) #[] #[]]:=⟨aM.2 rfl,trivial⟩;have hz:F2 (aT w1 (Av B'.F ρ (aW σ.heap)) ρ) [sc (.k (.i64 0))] [.int .i64 ((0:Nat):Int)]:=⟨aM.2 rfl,trivial⟩;refine F2.append ?_ (F2.append (F2.append hsl hy) hz)
   have e:((#[.func (.yield (w.heap.size+1)) #[] #[]]++cs.toArray)++Array.replicate (fn0.ntmps-(#[.func (.yield (w.heap.size+1)) #[] #[]]++cs.toArray:Array Value).size) undef:Array Value).toList=(.func (.yield (w.heap.size+1)) #[] #[]::cs)++ax (fn0.ntmps-(1+cap.length)) undef:=by
    simp[hcl,fq]
   show F2 _ _ ((#[.func (.yield (w.heap.size+1)) #[] #[]]++cs.toArray)++Array.replicate (fn0.ntmps-(#[.func (.yield (w.heap.size+1)) #[] #[]]++cs.toArray:Array Value).size) undef:Array Value).toList;rw[e];have hh:F2 (aT w1 (Av B'.F ρ (aW σ.heap)) ρ) (sc (.d .yl (w.heap.size+1))::cap.map λp=>sc (.ptr p.1 p.2)) (.func (.yield (w.heap.size+1)) #[] #[]::cs):=⟨aM.2 rfl,F2.ptrs e3⟩;exact F2.append hh (F2.repl _)
  ·rw[sY];have:=hr.len;simp only[Array.size_append,Array.size_replicate,List.size_toArray,bc,dx,hcl,B',J];omega
  ·simp only[Array.size_append,Array.size_replicate,List.size_toArray,bc,dx,hcl,J];omega
 refine wp_mono (hI ρ _ w1 0 hrI) ?_;rintro e a' w' ⟨σ',ρ',m',hq,hr'⟩
 have hcd:AB.fin fn0.ntmps Q σ'->∃v,(results fn0 a'.tmps).run P w'= .ok v w'/\rangePost Fence.wide 0 P (w.heap.size+1) (λe a' w'=>∃σ' ρ',Q e σ'/\fR R B σ' ρ' a' w') {a with defers:=[mark w.heap.size]++a.defers} (.returned v) w':=by
  intro hq
  have hre:fn0.results= #[]:=by
   have:=List.isEmpty_iff.1 hres;exact Array.toList_eq_nil_iff.1 this
  refine⟨.tuple #[],by unfold results;rw[hre];simp[bD],?_⟩;have hrc:=hr'.rc;refine⟨_,_,run_endLoop hrc (by unfold It.rcd;dsimp only;split<;>simp),?_⟩;have hrl:∀o,w'.heap[w.heap.size+1]?=some o->PE o=false:=λo ho=>by rw[hrc]at ho;cases ho;rfl
  obtain⟨q1,q2⟩:=hr'.rel.heap.put (l:=w.heap.size+1) (.loop {J.rcd m' with state:= .exhausted}) hrl hr'.no;have hsl:=hr'.sl.2;obtain⟨t1,v,t2,t3⟩:=F2.last hsl;have t4:=(F2.last t1).1
  have hrel:fR R B ⟨(σ'.slots.drop fn0.ntmps).dropLast.dropLast,σ'.heap,σ'.next⟩ ρ' {a with defers:=[mark w.heap.size]++a.defers} (w'.putObj (w.heap.size+1) (.loop {J.rcd m' with state:= .exhausted})):=by
   refine⟨?_,F2.imp (λ_ _=>aT.evo (q2.evo hrl) (eA.refl _)) t4,q1,hr'.rel.mv.transL q2 hr'.ge,hr'.rel.fresh,hr'.rel.root,hr'.rel.rn,hr.len⟩;obtain⟨z,z1,z2,z3⟩:=hr'.rel.defers.mvL q2 hrc;exact⟨z,z1,z2,λD hD=>⟨hk,(z3 D hD).2⟩⟩
  unfold AB.fin at hq;rw[t2]at hq;split at hq
  case h_2=>exact hq.elim
  rename_i m hv;have hv:=Option.some.inj hv;subst hv
  have hmm:(m':Int)=m:=by
   have:=aM.1 t3;simp[bh,Sc.val]at this;exact this
  subst hmm;split at hq
  ·rename_i h0;have h0:m'=0:=ac
   subst h0;exact⟨_,ρ',hq,hrel⟩
  ·rename_i h0;split at hq
   ·rename_i h1;have h1:m'=1:=ac
    subst h1;exact wpIn_ret ⟨_,ρ',hq,hrel⟩
   ·rename_i h1;obtain⟨k,rfl⟩:∃k,m'=k+2:=⟨m'-2,ac⟩;have:((k+2:Nat):Int)-2=(k:Int):=ac
    rw[this,aG]at hq;exact wpIn_exit ⟨_,ρ',hq,hrel⟩
 cases e with
 |normal=>obtain⟨v,h1,h2⟩:=hcd hq;exact⟨hr'.df,v,h1,h2⟩
 |ret=>obtain⟨v,h1,h2⟩:=hcd hq;exact⟨hr'.df,v,h1,h2⟩
 |_=>exact hq.elim
end
end
variable{slots z:List V}
section
section
variable(P:Program)(Γ:bG)(R n:Nat)(A:eH)
def PT(s:St)(t:Nat):St:=match s.slots.getD t (.tup [])with
 | .val false [.ptr k _]=>match aW s.heap k with
   |some (.cells l)=>⟨s.slots,nX s.heap [(k,some (.fc l))],s.next⟩
   |_=>s
 |_=>s
def PU(J L:List (Nat×ve))(k:Option Nat):Option ve:=match vg J k with
 |some c=>some c
 |none=>vg L (k.map (·+5000))
def vc:Code->Option Nat->List (Nat×ve)->St->Kn->Prop
 | .skip,none,L,s,Q=>Q .normal s
 | .region id f a,none,L,s,Q=>match aW A.splits id with
   |some (t,0)=>(Ko P Γ f a (PT s t)).sat (Q .normal)
   |some (t,m)=>match s.slots.getD t (.tup [])with
    | .val false [.d .i64 x]=>(0<=x/\x<(m:Int))/\AA x (λq=>(Ko P Γ f a (T7 s t q)).sat (Q .normal)) m
    | .val false [.k (.i64 _)]=>(Ko P Γ f a s).sat (Q .normal)
    |_=>False
   |none=>(Ko P Γ f a s).sat (Q .normal)
 | .seq x y,none,L,s,Q=>match PU A.joins L (ik y)with
   |some c=>vc x none L s (gb (λe=>fS R c e c.inv) Q)/\kL c.ps (λo=>c.inv o->vc y none L (fF c.ps n o) Q) c.ps.length 0
   |none=>vc x none L s (gb (λe=>vc y none L e Q) Q)
 | .seq x y,some l,L,s,Q=>if(findLabel x l).isSome then vc x (some l) L s (gb (λe=>vc y none L e Q) Q)else vc y (some l) L s Q
 | .cond c x y,none,L,s,Q=>match dO s.slots c with
   | .val false [.k (.bool true)]=>vc x none L s Q
   | .val false [.k (.bool false)]=>vc y none L s Q
   | .val false [.d .bl b]=>(b=true->vc x none L (lW s c true) Q)/\(b=false->vc y none L (lW s c false) Q)
   |_=>False
 | .block id c,none,L,s,Q=>vc c none L s (qC id Q)
 | .loop c,none,L,s,Q=>match vg (L++A.loops) (ik c)with
   |some cut=>fS R cut s cut.inv/\kL cut.ps (λo=>cut.inv o->vc c none (cut.inn o++L) (fF cut.ps n o) (gb (λe=>fS R cut e λh=>cut.inv h/\cut.mu h<cut.mu o) Q)) cut.ps.length 0
   |none=>Cg A.unroll (vc c none L) s Q
 | .scope c,none,L,s,Q=>match vg A.jumps (ik c)with
   |some (l,cut)=>(findLabel c l).isSome=true/\vc c none L s (ld l (λe=>fS R cut e cut.inv) Q)/\
    kL cut.ps (λo=>cut.inv o->vc c (some l) (cut.inn o++L) (fF cut.ps n o) (ld l (λe=>fS R cut e λh=>cut.inv h/\cut.mu h<cut.mu o) Q)) cut.ps.length 0
   |none=>vc c none L s (Kp Q)
 | .label _,none,L,s,Q=>Q .normal s
 | .label i,some l,L,s,Q=>if i==l then Q .normal s else False
 | .goto l,none,L,s,Q=>Q (.goto l) s
 | .exit id,none,L,s,Q=>Q (.exit id) s
 | .ret,none,L,s,Q=>Q .ret s
 | .rangeFunc g j x y,none,L,s,Q=>wo P Γ R n A g j x y s Q
 |_,_,_,_,_=>False
end
def T(P:Program)(R n:Nat)(c:Code)(σ:St)(Q:Kn):Prop:=
 ∀(B:fw)(ρ:Nat->Pl)(a:Act)(w:World),B.n=n/\B.dk=true->fR R B σ ρ a w->c.wp P (λe b f=>∃σ' ρ',Q e σ'/\fR R B σ' ρ' b f) a w
def TF(P:Program)(R n:Nat)(c:Code)(fr:Option Nat)(σ:St)(Q:Kn):Prop:=match fr with
 |none=>T P R n c σ Q
 |some l=>∀a,findLabel c l=some a->T P R n a σ Q
section
variable{P:Program}{Γ:bG}{R n:Nat}{A:eH}{Q:Kn}{σ:St}
theorem T.seq(h:T P R n x σ (gb (λσ'=>T P R n y σ' Q) Q)):T P R n (.seq x y) σ Q:=by
 intro B ρ a w hB b;refine wp_seq (wp_mono (h B ρ a w hB b) ?_);rintro e c f ⟨σ',ρ',q,r⟩;cases e with
 |normal=>exact q B ρ' c f hB r
 |_=>exact⟨σ',ρ',q,r⟩
theorem T.mono(h:T P R n c σ Q)(f:∀e σ,Q e σ->b e σ):T P R n c σ b:=
 λB ρ a w hB g=>wp_mono (h B ρ a w hB g) λe _ _⟨σ',ρ',q,r⟩=>⟨σ',ρ',f e σ' q,r⟩
theorem T.enter{y:cF cut.ps}(e:sT R σ cut.ps=some y)(h:T P R n c (fF cut.ps n y) Q):T P R n c σ Q:=λB ρ a w hB f=>
 let⟨ρ',b⟩:=jU f hB.1 e
 h B ρ' a w hB b
theorem T.region(c:bX P Γ)(hL:cO Γ)(e:P.follows .mixedOrders=true){a:Bool}(h:(Ko P Γ ops a σ).sat (Q .normal)):T P R n (.region id ops a) σ Q:=
 λ_ ρ _ _ _ f=>va c hL e f (ca (λσ' q _ _ _ _ b=>⟨σ',_,q,b⟩) h)
theorem T.block(h:T P R n c σ (qC id Q)):T P R n (.block id c) σ Q:=by
 intro B ρ a w hB b;refine wp_block (wp_mono (h B ρ a w hB b) ?_);rintro e g i ⟨σ',ρ',q,r⟩;cases e with
 |exit f=>
  simp only[Exit.inBlock];simp only[qC]at q;split
  ·rename_i e;rw[ak e]at q;exact⟨σ',ρ',q,r⟩
  ·rename_i e;rw[ae e]at q;exact⟨σ',ρ',q,r⟩
 |_=>exact⟨σ',ρ',q,r⟩
theorem T.scope(h:T P R n c σ (Kp Q)):T P R n (.scope c) σ Q:=by
 intro B ρ a w hB b;refine wp_scope_straight (wp_mono (h B ρ a w hB b) ?_);rintro e f g ⟨σ',ρ',q,r⟩;cases e with
 |goto l=>exact q.elim
 |_=>exact⟨σ',ρ',q,r⟩
theorem T.loopC(h0:fS R cut σ cut.inv)
 (round:∀o:cF cut.ps,o.1<cut.ps.length->cut.inv o->T P R n c (fF cut.ps n o) (gb (λs'=>fS R cut s' λo'=>cut.inv o'/\cut.mu o'<cut.mu o) Q)):T P R n (.loop c) σ Q:=by
 intro B ρ a w hB t b k u
 have v:∀m(o:cF cut.ps)ρ a w,cut.mu o=m->o.1<cut.ps.length->cut.inv o->fR R B (fF cut.ps n o) ρ a w->
  ∃e r s,(∃σ' ρ',Q e σ'/\fR R B σ' ρ' r s)/\Arrives P (lone (b.at a (.code c:: .inLoop c::k)) u w) b k u e r s:=by
  intro m
  induction m using Nat.strongRecOn with
  |_ m H=>
   intro o ρ a w N y z t;obtain⟨e,j,p,⟨σ1,ρ1,h,g⟩,f⟩:=round o y z B ρ a w hB t b (.inLoop c::k) u;cases e with
   |normal=>
    obtain⟨o',q,C,J⟩:=gl h;obtain⟨ρ2,D⟩:=jU g hB.1 q;have:=dM q;obtain⟨K,L,M,E,i⟩:=H _ ac o' ρ2 j p rfl ac C D;exact⟨K,L,M,E, .of_steps (Steps.trans f (.one step_inLoop)) i⟩
   |exit id=>exact⟨_,j,p,⟨σ1,ρ1,h,g⟩, .pass (x:= .inLoop c) rfl (λ_ _=> .inl bY) f⟩
   |goto l=>exact⟨_,j,p,⟨σ1,ρ1,h,g⟩, .pass (x:= .inLoop c) rfl (λ_ _=> .inl bY) f⟩
   |ret=>exact⟨_,j,p,⟨σ1,ρ1,h,g⟩, .pass (x:= .inLoop c) rfl (λ_ _=> .inl bY) f⟩
   |panic O=>exact⟨_,j,p,⟨σ1,ρ1,h,g⟩, .pass (x:= .inLoop c) rfl (λ_ _=> .inl bY) f⟩
   |outgrown=>exact⟨_,j,p,⟨σ1,ρ1,h,g⟩, .pass (x:= .inLoop c) rfl (λ_ _=> .inl bY) f⟩
 obtain⟨o,G,z⟩:=gl h0;obtain⟨ρ',F⟩:=jU t hB.1 G;have:=dM G;obtain⟨e,r,s,h,f⟩:=v _ o ρ' a w rfl ac z F;exact⟨e,r,s,h, .of_steps (.one step_loop) f⟩
theorem T.loopUn{f:St->Kn->Prop}(z:∀σ Q,f σ Q->T P R n c σ Q):∀(m:Nat)(σ:St),Cg m f σ Q->T P R n (.loop c) σ Q:=by
 have u:∀(m:Nat)(σ:St),Cg m f σ Q->∀(B:fw)ρ a w,B.n=n/\B.dk=true->fR R B σ ρ a w->∀b k o,
  ∃e s t,(∃σ' ρ',Q e σ'/\fR R B σ' ρ' s t)/\Arrives P (lone (b.at a (.code c:: .inLoop c::k)) o w) b k o e s t:=by
  intro m
  induction m with
  |zero=>intro σ h;exact h.elim
  |succ m C=>
   intro σ h B ρ a w hB v b k o;obtain⟨e,q,r,⟨σ1,ρ1,j,i⟩,g⟩:=z _ _ h B ρ a w hB v b (.inLoop c::k) o;cases e with
   |normal=>
    obtain⟨D,E,F,y,p⟩:=C σ1 j B ρ1 q r hB i b k o;exact⟨D,E,F,y, .of_steps (Steps.trans g (.one step_inLoop)) p⟩
   |exit id=>exact⟨_,q,r,⟨σ1,ρ1,j,i⟩, .pass (x:= .inLoop c) rfl (λ_ _=> .inl bY) g⟩
   |goto l=>exact⟨_,q,r,⟨σ1,ρ1,j,i⟩, .pass (x:= .inLoop c) rfl (λ_ _=> .inl bY) g⟩
   |ret=>exact⟨_,q,r,⟨σ1,ρ1,j,i⟩, .pass (x:= .inLoop c) rfl (λ_ _=> .inl bY) g⟩
   |panic G=>exact⟨_,q,r,⟨σ1,ρ1,j,i⟩, .pass (x:= .inLoop c) rfl (λ_ _=> .inl bY) g⟩
   |outgrown=>exact⟨_,q,r,⟨σ1,ρ1,j,i⟩, .pass (x:= .inLoop c) rfl (λ_ _=> .inl bY) g⟩
 intro m σ h B ρ a w hB v b k o;obtain⟨e,s,t,j,g⟩:=u m σ h B ρ a w hB v b k o;exact⟨e,s,t,j, .of_steps (.one step_loop) g⟩
theorem T.scopeJ(M:findLabel c l=some rest)(first:T P R n c σ (ld l (λs'=>fS R cut s' cut.inv) Q))
 (u:∀o:cF cut.ps,o.1<cut.ps.length->cut.inv o->T P R n rest (fF cut.ps n o) (ld l (λs'=>fS R cut s' λo'=>cut.inv o'/\cut.mu o'<cut.mu o) Q)):T P R n (.scope c) σ Q:=by
 intro B ρ a w hB x b k v;have J:gotoIn l (.inScope c::k)=some (.code rest:: .inScope c::k):=by simp[gotoIn,M]
 have y:∀m(o:cF cut.ps)ρ a w,cut.mu o=m->o.1<cut.ps.length->cut.inv o->fR R B (fF cut.ps n o) ρ a w->
  ∃e K L,(∃σ' ρ',Q e σ'/\fR R B σ' ρ' K L)/\Arrives P (lone (b.at a (.code rest:: .inScope c::k)) v w) b k v e K L:=by
  intro m
  induction m using Nat.strongRecOn with
  |_ m N=>
   intro o ρ a w X z O x;obtain⟨e,j,p,⟨σ1,ρ1,h,g⟩,f⟩:=u o z O B ρ a w hB x b (.inScope c::k) v;cases e with
   |normal=>exact⟨.normal,j,p,⟨σ1,ρ1,h,g⟩,Steps.trans f (.one step_inScope)⟩
   |exit id=>exact⟨.exit id,j,p,⟨σ1,ρ1,h,g⟩,λC D=>f C (by simp[exitTo,D])⟩
   |goto S=>
    simp only[ld]at h;split at h
    case isFalse=>exact h.elim
    rename_i E;subst E;obtain⟨o',q,r,U⟩:=gl h;obtain⟨ρ2,s⟩:=jU g hB.1 q;have:=dM q;obtain⟨F,G,H,t,i⟩:=N _ ac o' ρ2 j p rfl ac r s;exact⟨F,G,H,t, .of_steps (f _ J) i⟩
   |ret=>exact⟨_,j,p,⟨σ1,ρ1,h,g⟩,f⟩
   |panic W=>exact⟨_,j,p,⟨σ1,ρ1,h,g⟩,f⟩
   |outgrown=>exact⟨_,j,p,⟨σ1,ρ1,h,g⟩,f⟩
 obtain⟨e,j,p,⟨σ1,ρ1,h,g⟩,f⟩:=first B ρ a w hB x b (.inScope c::k) v
 cases e with
 |normal=>exact⟨.normal,j,p,⟨σ1,ρ1,h,g⟩, .head step_scope (Steps.trans f (.one step_inScope))⟩
 |exit id=>exact⟨.exit id,j,p,⟨σ1,ρ1,h,g⟩,λC D=> .head step_scope (f C (by simp[exitTo,D]))⟩
 |goto S=>
  simp only[ld]at h;split at h
  case isFalse=>exact h.elim
  rename_i E;subst E;obtain⟨o',q,r⟩:=gl h;obtain⟨ρ2,s⟩:=jU g hB.1 q;have:=dM q;obtain⟨F,G,H,t,i⟩:=y _ o' ρ2 j p rfl ac r s;exact⟨F,G,H,t, .of_steps (.head step_scope (f _ J)) i⟩
 |ret=>exact⟨_,j,p,⟨σ1,ρ1,h,g⟩, .of_steps (.one step_scope) f⟩
 |panic W=>exact⟨_,j,p,⟨σ1,ρ1,h,g⟩, .of_steps (.one step_scope) f⟩
 |outgrown=>exact⟨_,j,p,⟨σ1,ρ1,h,g⟩, .of_steps (.one step_scope) f⟩
theorem vj{x:Int}{f:Nat->Prop}:∀{m:Nat},AA x f m->∀q:Nat,q<m->x=(q:Int)->f q
 |0,_,q,b,_=>ac
 |m+1,h,q,b,a=>by
  by_cases e:q=m
  ·subst e;exact h.2 a
  ·exact vj h.1 q ac a
theorem Kq{A:Nat->Prop}(h:F2 (aT w A ρ) slots a.tmps.toList){i:I}(b:slots.getD t (.tup [])= .val false [i]):∃v,a.tmps[t]?=some v/\bh w A ρ i [v]:=by
 have:slots[t]?=some (.val false [i]):=by
  simp only[bF]at b;cases c:slots[t]? with
  |none=>simp[c]at b
  |some z=>simp[c]at b;rw[b]
 obtain⟨v,e,f⟩:=h.get this;exact⟨v,cf e,aM.1 f⟩
theorem fR.frz(b:fR R B σ ρ a w):fR R B (PT σ t) ρ a w:=by
 unfold PT;split
 case h_2=>exact b
 split
 case h_2=>exact b
 rename_i _ k _ _ _ l f;obtain⟨g,c⟩:=oO b.heap f;have e:aW (nX σ.heap [(k,some (.fc l))])=dg (aW σ.heap) k (some (.fc l)):=by rw[eG];rfl
 refine⟨by show yf B ρ w (aW (nX σ.heap [(k,some (.fc l))])) a.defers;rw[e];exact b.defers.mv c,?_,?_,?_,b.fresh,b.root,b.rn,b.len⟩
 ·show F2 (aT w (Av B.F ρ (aW (nX σ.heap [(k,some (.fc l))]))) ρ) _ _;rw[e];exact F2.imp (λ_ _=>aT.evo c.evo (eA.refl ρ)) b.slots
 ·show dN B.F ρ w (aW (nX σ.heap [(k,some (.fc l))]));rw[e];exact g
 ·show Mv B.ρ B.w B.h ρ w (aW (nX σ.heap [(k,some (.fc l))]));rw[e];exact b.mv.trans c
theorem FU(K:bX P Γ)(hL:cO Γ)(M:P.follows .mixedOrders=true):∀(c:Code)(fr:Option Nat)(L:List (Nat×ve))(σ:St)(Q:Kn),vc P Γ R n A c fr L σ Q->TF P R n c fr σ Q:=by
 intro c
 induction c with
 |skip=>
  intro fr L σ Q h;cases fr with
  |none=>exact λ_ ρ _ _ _ g=>wp_skip ⟨σ,ρ,h,g⟩
  |some l=>exact λ_ i=>by simp[findLabel]at i
 |region id Y W=>
  intro fr L σ Q h;cases fr with
  |some l=>exact λ_ i=>by simp[findLabel]at i
  |none=>
   simp only[vc]at h;split at h
   ·rename_i t _;intro B ρ a w hB g;exact T.region (n:=n) K hL M h B ρ a w hB g.frz
   ·rename_i t m _ _;split at h
    ·rename_i x F;intro B ρ a w hB g;obtain⟨v,G,H⟩:=Kq g.slots F;obtain⟨⟨x0,x1⟩,U⟩:=h;obtain⟨q,rfl⟩:=bo x0;have x2:(q:Int)<(m:Int):=x1;have u:=vj U q ac rfl;simp[bh,Rd]at H;subst H;refine T.region (n:=n) K hL M u B ρ a w hB ⟨g.defers,g.slots.set_left t (λv C=>?_),g.heap,g.mv,g.fresh,g.root,g.rn,g.len⟩;have:a.tmps.toList[t]?=some (.int .i64 q):=cf G
     rw[this]at C;simp at C;subst C;exact aM.2 rfl
    ·exact T.region K hL M h
    ·exact h.elim
   ·exact T.region K hL M h
 |seq x y p j=>
  intro fr L σ Q h;cases fr with
  |none=>
   simp only[vc]at h;split at h
   ·rename_i cut hc;obtain⟨G,H⟩:=h;refine T.seq ((p none _ _ _ G).mono ?_);intro e σ' u;cases e with
    |normal=>
     obtain⟨o,X,N⟩:=gl u;have O:=dM X;exact T.enter X (j none _ _ _ (gR H o ac ac N))
    |_=>exact u
   ·refine T.seq ((p none _ _ _ h).mono ?_);intro e σ' u;cases e with
    |normal=>exact j none _ _ _ u
    |_=>exact u
  |some l=>
   intro s i;simp only[vc]at h;simp only[findLabel]at i;split at h
   ·rename_i F;split at i
    ·rename_i r g;simp at i;subst i;refine T.seq ((p (some l) _ _ _ h r g).mono ?_);intro e σ' u;cases e with
     |normal=>exact j none _ _ _ u
     |_=>exact u
    ·rename_i g;rw[g]at F;simp at F
   ·rename_i F;split at i
    ·rename_i r g;rw[g]at F;simp at F
    ·exact j (some l) _ _ _ h s i
 |cond c x y p j=>
  intro fr L σ Q h;cases fr with
  |some l=>exact λ_ i=>by simp[findLabel]at i
  |none=>
   simp only[vc]at h;intro B ρ a w hB g;have C:=fW g.slots c;split at h
   ·rename_i S;rw[S]at C;have:=aM.1 C;simp[bh,Sc.val]at this;exact wp_cond_true this (p none _ _ _ h B ρ a w hB g)
   ·rename_i S;rw[S]at C;have:=aM.1 C;simp[bh,Sc.val]at this;exact wp_cond_false this (j none _ _ _ h B ρ a w hB g)
   ·rename_i b S;rw[S]at C;have J:=aM.1 C;simp[bh,Rd]at J
    have D:fR R B (lW σ c b) ρ a w:=by
     cases c with
     |tmp t=>
      refine g.know ?_;simp only[Act.eval]at J;cases u:a.tmps[t]? with
      |none=>simp[u,undef]at J
      |some z=>simp[u]at J;rw[J]
     |_=>exact g
    refine wp_cond_split J (λe=>?_) (λe=>?_)
    ·subst e;exact p none _ _ _ (h.1 rfl) B ρ a w hB D
    ·subst e;exact j none _ _ _ (h.2 rfl) B ρ a w hB D
   ·exact h.elim
 |block id c E=>
  intro fr L σ Q h;cases fr with
  |some l=>exact λ_ i=>by simp[findLabel]at i
  |none=>exact T.block (E none _ _ _ h)
 |loop c E=>
  intro fr L σ Q h;cases fr with
  |some l=>exact λ_ i=>by simp[findLabel]at i
  |none=>
   simp only[vc]at h;split at h
   ·exact T.loopC h.1 λo O N=>E none _ _ _ (gR h.2 o ac ac N)
   ·exact T.loopUn (λσ Q h=>E none _ σ Q h) _ _ h
 |rangeFunc f ps x y p j=>
  intro fr L σ Q h;cases fr with
  |some l=>exact λ_ i=>by simp[findLabel]at i
  |none=>exact λB ρ a w hB g=>FT K hL M hB.1 hB.2 g h
 |exit id=>
  intro fr L σ Q h;cases fr with
  |some l=>exact λ_ i=>by simp[findLabel]at i
  |none=>exact λ_ ρ _ _ _ g=>wp_exit ⟨σ,ρ,h,g⟩
 |scope c E=>
  intro fr L σ Q h;cases fr with
  |some l=>exact λ_ i=>by simp[findLabel]at i
  |none=>
   simp only[vc]at h;split at h
   ·rename_i l cut _;obtain⟨G,H,h3⟩:=h;rw[cX]at G;obtain⟨s,i⟩:=G;exact T.scopeJ i (E none _ _ _ H) λo O N=>E (some l) _ _ _ (gR h3 o ac ac N) s i
   ·exact T.scope (E none _ _ _ h)
 |label l'=>
  intro fr L σ Q h;cases fr with
  |none=>exact λ_ ρ _ _ _ g=>wp_label ⟨σ,ρ,h,g⟩
  |some l=>
   intro s i;simp only[vc]at h;split at h
   ·rename_i e;simp only[findLabel,e,if_true,Option.some.injEq]at i;subst i;exact λ_ ρ _ _ _ g=>wp_skip ⟨σ,ρ,h,g⟩
   ·exact h.elim
 |goto l=>
  intro fr L σ Q h;cases fr with
  |some l=>exact λ_ i=>by simp[findLabel]at i
  |none=>exact λ_ ρ _ _ _ g=>wp_goto ⟨σ,ρ,h,g⟩
 |ret=>
  intro fr L σ Q h;cases fr with
  |some l=>exact λ_ i=>by simp[findLabel]at i
  |none=>exact λ_ ρ _ _ _ g=>wp_ret ⟨σ,ρ,h,g⟩
 |refuse a0=>intro fr L σ Q h;cases fr<;>simp[vc]at h
end
end
variable{fn:Func}{vals vs:List Value}{σ:St}
section
def AC(p:cx)(a n:Nat)(v:p.val):St:=⟨pR p a v++ax (n-a) (.tup []),HP.inst iG 0 p.hp v.2,p.hp.length⟩
def yF(P:Program)(σ:St):List ResultVar->Option (List V)
 |[]=>some []
 | .tmp t::r=>match yF P σ r with
   |some m=>some (σ.slots.getD t (.tup [])::m)
   |none=>none
 | .cell a t::r=>match(σ.slots.getD a (.tup [])).one? with
   |some (.ptr k b)=>match aW σ.heap k with
    |some (.cells l)=>match rK P t l b,yF P σ r with
     |some x,some m=>some (x::m)
     |_,_=>none
    |_=>none
   |_=>none
def kM(R:Nat)(h:fQ)(a:List V)(ps:List cx):Nat->Nat->Option (cF ps)
 |0,_=>none
 |n+1,i=>match fit (aW h) a (du ps i) (EY R (du ps i).hp 0)with
  |some (v,b,_)=>if mO R b&&qw (du ps i).hp&&lQ (du ps i).hp.length b&&decide (R<=(du ps i).hp.length)&&oN 0 (du ps i).sl&&decide (a.length=(du ps i).sl.length)then some ⟨i,(du ps i).put v⟩else kM R h a ps n (i+1)
  |none=>kM R h a ps n (i+1)
def lX(h:fQ):eD:=h.filterMap λp=>match p.2 with
 | .mit .. =>some (p.1,none)
 |_=>none
def PV(h:fQ):eD:=h.filterMap λp=>match aW h p.1 with
 |some (.lk a b l)=>some (p.1,some (.mp a b l))
 |_=>none
def vk(h:fQ):fQ:=let a:=nX h (lX h);nX a (PV a)
theorem lY:∀{u:eD}{h:Nat->Option Ch}{k:Nat},(∀p∈u,p.2=none)->(bj h u k=h k\/bj h u k=none)/\((k,none)∈u->bj h u k=none)
 |[],_,_,_=>⟨.inl rfl,bY⟩
 |(j,o)::r,h,k,b=>by
  have c:o=none:=b (j,o) (aF ..);subst c;obtain⟨a,f⟩:=lY (u:=r) (h:=dg h j none) (k:=k) (λp g=>b p (aD _ g));simp only[bj];refine⟨?_,λi=>?_⟩
  ·rcases a with a|a
   ·rw[a];by_cases e:k=j
    ·subst e;rw[bK];exact .inr rfl
    ·rw[bI _ _ _ e];exact .inl rfl
   ·exact .inr a
  ·rcases bm.1 i with e|e
   ·simp at e;subst e;rcases a with a|a
    ·rw[a,bK]
    ·exact a
   ·exact f e
theorem ta{h0:Nat->Option Ch}:∀{u:eD}{h:Nat->Option Ch},(∀p∈u,∃a b l,h0 p.1=some (.lk a b l)/\p.2=some (.mp a b l))->(∀k,h k=h0 k\/∃a b l,h0 k=some (.lk a b l)/\h k=some (.mp a b l))->
 ∀k,bj h u k=h0 k\/∃a b l,h0 k=some (.lk a b l)/\bj h u k=some (.mp a b l)
 |[],_,_,c,k=>c k
 |p::r,h,f,c,k=>by
  simp only[bj];refine ta (λq g=>f q (aD _ g)) (λj=>?_) k;by_cases e:j=p.1
  ·subst e;rw[bK];obtain⟨a,b,l,i,m⟩:=f p (aF ..);exact .inr ⟨a,b,l,i,m⟩
  ·rw[bI _ _ _ e];exact c j
theorem td(H:fQ):(∀k,aW (vk H) k=aW H k\/aW (vk H) k=none\/∃a b l,aW H k=some (.lk a b l)/\aW (vk H) k=some (.mp a b l))/\∀k m a b r q,aW (vk H) k≠some (.mit m a b r q):=by
 have x:∀p∈lX H,p.2=none:=by
  intro p n;obtain⟨q,_,g⟩:=List.mem_filterMap.1 n;split at g<;>simp at g;rw[<-g]
 have i:∀k m a b r q,aW H k=some (.mit m a b r q)->(k,none)∈lX H:=by
  intro k m a b r q c;exact List.mem_filterMap.2 ⟨(k, .mit m a b r q),iF c,rfl⟩
 have o:∀k,aW (nX H (lX H)) k=aW H k\/aW (nX H (lX H)) k=none:=λk=>by rw[eG];exact(lY x).1
 have g:∀k m a b r q,aW (nX H (lX H)) k≠some (.mit m a b r q):=by
  intro k m a b r q c;rcases o k with e|e
  ·rw[e]at c;have:=(lY (h:=aW H) (k:=k) x).2 (i k m a b r q c);rw[eG,this]at e;rw[<-e]at c;simp at c
  ·rw[e]at c;simp at c
 have s:=ta (h0:=aW (nX H (lX H))) (u:=PV (nX H (lX H))) (h:=aW (nX H (lX H))) (λp n=>by
  obtain⟨q,_,t⟩:=List.mem_filterMap.1 n;split at t<;>simp at t;rename_i a b l y;subst t;exact⟨a,b,l,y,rfl⟩) (λk=> .inl rfl)
 rw[<-eG]at s;refine⟨λk=>?_,λk m a b r q c=>?_⟩
 ·rcases s k with e|⟨a,b,l,v,w⟩
  ·rcases o k with f|f
   ·exact .inl (e.trans f)
   ·exact .inr (.inl (e.trans f))
  ·rcases o k with f|f
   ·exact .inr (.inr ⟨a,b,l,f▸v,w⟩)
   ·rw[v]at f;simp at f
 ·rcases s k with e|⟨z,A,l,v,w⟩
  ·exact g k m a b r q (e▸c)
  ·have j:aW (nX (nX H (lX H)) (PV (nX H (lX H)))) k=some (.mit m a b r q):=c;rw[w]at j;simp at j
theorem dN.tidy(hh:dN F ρ w h)(n:∀k,h' k=h k\/h' k=none\/∃a b l,h k=some (.lk a b l)/\h' k=some (.mp a b l))(v:∀k m a b r q,h' k≠some (.mit m a b r q)):dN F ρ w h'/\Mv ρ w h ρ w h':=by
 refine hh.step (λk=>h' k≠h k) (eA.refl ρ) (aE _) rfl rfl rfl (λk f=>Classical.not_not.1 f) (λ_ _ _=>rfl) (λk c b g f x o=>?_) (λk u c G b g p f j H y o s=>?_) (λk m a b r q f=>absurd f (v k m a b r q)) (λk c g f z=>?_)
 ·rcases n k with e|e|⟨a,J,l,i,t⟩
  ·exact absurd e g
  ·rw[e]at f;simp at f
  ·exact⟨(hh.fr k _ b i rfl o).1, .inr ⟨k,_,g,i,rfl,o⟩⟩
 ·rcases n k with e|e|⟨a,A,l,i,t⟩
  ·exact absurd e g
  ·rw[e]at f;simp at f
  ·rcases n u with e|e|⟨K,L,M,C,N⟩
   ·exact absurd e p
   ·rw[e]at j;simp at j
   ·exact hh.inj k u _ _ b i C rfl rfl o s
 ·rcases n k with e|e|⟨a,A,l,i,t⟩
  ·exact absurd e g
  ·rw[e]at f;simp at f
  ·rw[t]at f;simp at f;subst f;obtain⟨b,D,E⟩:=hh.ok k _ i;exact⟨b,D,E.evo z.evo rfl⟩
theorem fR.tidy(b:fR R B σ ρ a w):fR R B ⟨σ.slots,vk σ.heap,σ.next⟩ ρ a w:=by
 obtain⟨e,c⟩:=b.heap.tidy (td σ.heap).1 (td σ.heap).2;exact⟨b.defers.mv c,F2.imp (λ_ _=>aT.evo c.evo (eA.refl ρ)) b.slots,e,b.mv.trans c,b.fresh,b.root,b.rn,b.len⟩
def Kr(P:Program)(res:List ResultVar)(R:Nat)(ps:List cx)(Q:cF ps->Prop):Kn:=λe s=>
 match e with
 | .normal=>fin s
 | .ret=>fin s
 |_=>False
where fin (s0:St):Prop:=let s:St:=⟨s0.slots,vk s0.heap,s0.next⟩
 match yF P s res with
 |some rs=>match kM R s.heap rs ps ps.length 0 with
  |some y=>Q y
  |none=>False
 |none=>False
def fvc(P:Program)(Γ:bG)(fn:Func)(c:Code)(a:Ct)(A:a.inp.den->eH):Prop:=
 a.inp.All λx=>∀Q:cF a.out->Prop,(a.spec x).sat Q->
  vc P Γ a.inp.hp.length fn.ntmps (A x) c none [] (AC a.inp a.nargs fn.ntmps (a.inp.get x)) (Kr P fn.results.toList a.inp.hp.length a.out Q)
section
variable{P:Program}{R:Nat}{B:fw}
def te(a:Array Value)(x:ResultVar):Sem Value:=
 match x with
 | .tmp t=>pure (a.getD t undef)
 | .cell b t=>do loadVar t (<-asAddr (a.getD b undef))
theorem Ks(g:fR R B σ ρ a w):∀(l:List ResultVar)(m:List V),yF P σ l=some m->
 ∃vs:List Value,(l.mapM (te a.tmps)).run P w=pF vs w/\F2 (aT w (Av B.F ρ (aW σ.heap)) ρ) m vs:=by
 intro l
 induction l with
 |nil=>intro m h;simp[yF]at h;subst h;exact⟨[],rfl,trivial⟩
 |cons x l u=>
  intro m h
  have fin:∀(y:V)(c:List V)(v:Value),m=y::c->yF P σ l=some c->(te a.tmps x).run P w=pF v w->aT w (Av B.F ρ (aW σ.heap)) ρ y v->
   ∃vs:List Value,((x::l).mapM (te a.tmps)).run P w=pF vs w/\F2 (aT w (Av B.F ρ (aW σ.heap)) ρ) m vs:=by
   intro y c v e i z j;obtain⟨vs,f,A⟩:=u c i;subst e;refine⟨v::vs,?_,⟨j,A⟩⟩;simp only[List.mapM_cons,bJ,z,aZ,f,bD]
  cases x with
  |tmp t=>
   simp only[yF]at h;split at h
   case h_2=>simp at h
   rename_i c e;simp at h;exact fin _ c _ h.symm e rfl (fW g.slots (.tmp t))
  |cell b t=>
   simp only[yF]at h;split at h
   case h_2=>simp at h
   rename_i k n C;split at h
   case h_2=>simp at h
   rename_i K D;split at h
   case h_2=>simp at h
   rename_i y c E e;simp at h;obtain⟨_,⟨bl,q,rfl⟩,f⟩:=aQ C (fW g.slots (.tmp b));simp at f;simp only at q;obtain⟨L,M,N,o,G,H⟩:=g.heap.ok k _ D;rw[q]at o;simp at o;subst o;obtain⟨r,s,J⟩:=lC E H (oC G);rw[bT]at s;refine fin y c r h.symm e ?_ J;show(asAddr (a.tmps.getD b undef)>>=λx=>loadVar t x).run P w=_;have p:a.tmps.getD b undef=Value.pointer (some ⟨bl,n,none⟩):=f;rw[p];simpa[Instr.loadAt,tQ,asAddr,bJ]using s
theorem yG{a:Array Value}(h:(fn.results.toList.mapM (te a)).run P w= .ok vs w):
 (results fn a).run P w= .ok (lM vs) w:=by
 have e:fn.results=fn.results.toList.toArray:=bY
 have:(results fn a)=((Functor.map List.toArray (fn.results.toList.mapM (te a)))>>=λvs=>pure (if h:vs.size=1 then vs[0]else .tuple vs)):=by
  unfold results;rw[e,List.mapM_toArray];rfl
 rw[this,map_eq_pure_bind];simp only[bJ,h,aZ,bD]
 match vs with
 |[]=>rfl
 |[v]=>rfl
 |v::u::r=>rfl
theorem nZ{h:fQ}{b:List V}{ps:List cx}:∀{n i:Nat}{y:cF ps},kM R h b ps n i=some y->∃v a u,fit (aW h) b (du ps y.1) (EY R (du ps y.1).hp 0)=some (v,a,u)/\mO R a=true/\qw (du ps y.1).hp=true/\lQ (du ps y.1).hp.length a=true/\
 R<=(du ps y.1).hp.length/\oN 0 (du ps y.1).sl=true/\b.length=(du ps y.1).sl.length/\(du ps y.1).get y.2=v
 |0,_,_,h=>by simp[kM]at h
 |n+1,i,y,h=>by
  simp only[kM]at h;split at h
  case h_2=>exact nZ h
  rename_i v a u e;split at h
  case isFalse=>exact nZ h
  rename_i c;simp only[aK,ai]at c;obtain⟨⟨⟨⟨⟨f,g⟩,j⟩,l⟩,m⟩,o⟩:=c;simp at h;subst h;exact⟨v,a,u,e,f,g,j,l,m,o,cx.get_put⟩
theorem FV{l:List (Option CP)}(h:qw l=true):yb l=true:=by
 unfold yb;unfold qw at h;rw[cH]at h⊢;intro c a;have:=h c a;split at this
 ·rename_i b;cases b<;>simp[CP.plain]at this<;>rfl
 ·rfl
theorem AD{y:cF ps}(o:fR R B σ ρ a w)(G:F2 (aT w (Av B.F ρ (aW σ.heap)) ρ) z vals)
 (h:kM R σ.heap z ps ps.length 0=some y):Ka B.F B.ρ B.w B.h R (du ps y.1) ((du ps y.1).get y.2) (.returned (lM vals)) w:=by
 obtain⟨v,n,u,H,p,f,J,U,g,A,r⟩:=nZ h;obtain⟨l,rfl,s⟩:=Ap H;obtain⟨W,e,i⟩:=wg s;obtain⟨C,D,E⟩:=kJ (l:=l) o.heap (λ_ _ q=>q);have j:=F2.imp (λ_ _=>aT.evo D.evo (eA.refl ρ)) G;obtain⟨K,X,L,M,Y⟩:=sp (F':=B.F) C E j e i rfl (rf R _ 0) (FV f) (λb m=> .inl m);obtain⟨i1,N⟩:=SP.mt_sub e (rf R _ 0);obtain⟨O,_⟩:=HP.mt_sub i N;have c:=SP.res_ok C E (so ⟨n,[]⟩ ρ) rfl j e (rf R _ 0) O g ac;rw[List.drop_zero]at c;have evo:qK w (Av B.F ρ (bj (aW σ.heap) (lP l (aW σ.heap)))) w (Av B.F (gI ⟨n,[]⟩ ρ) (aW (HP.inst iG 0 (du ps y.1).hp v.2))):=⟨aE _,λ_ _ _ _ t _=>t,λb _ m=>L b m⟩;rw[r];refine⟨gI ⟨n,[]⟩ ρ,vals,rfl,λk x=>?_,F2.imp (λ_ _=>zU.evo evo (eA.refl _)) c,K,?_,λk Q=>?_⟩
 ·exact vf p o.root x
 ·have:=o.mv.trans D;exact⟨this.os,this.tape,this.output,this.size,this.block,λb m t=>this.own b m (M b t)⟩
 ·unfold gI;cases S:aW n k with
  |none=>rfl
  |some q=>exact absurd (jS J S) ac
theorem fR.putD{h:List Deferred}{a:Array Value}(b:fR R B σ ρ {tmps:=a,defers:=mark D::h} w):
 w.heap[D]?=some (.deferred (some []))/\fR R B σ ρ {tmps:=a,defers:=h} (w.putObj D (.deferred none)):=by
 obtain⟨z,f,g,i⟩:=b.defers;cases z with
 |nil=>cases f
 |cons q z=>
  simp only[aY,List.cons.injEq]at f;obtain⟨c,r⟩:=f;have c:D=q:=by unfold mark at c;simpa using c
  subst c;obtain⟨F,s,G,j,t⟩:=i D (aF ..);have l:∀o,w.heap[D]?=some o->PE o=false:=λo m=>by rw[j]at m;cases m;rfl
  obtain⟨u,n⟩:=b.heap.put (.deferred none) l t;refine⟨j,?_,F2.imp (λ_ _=>aT.evo (n.evo l) (eA.refl _)) b.slots,u,b.mv.transL n s,b.fresh,b.root,b.rn,b.len⟩;rw[nx]at g;refine⟨z,r,g.2,λE p=>?_⟩;obtain⟨v,x,y,A,C⟩:=i E (aD _ p);exact⟨v,x,by rw[World.putObj_size];exact y,by rw[World.putObj_heap_other (λe=>g.1 (by rw[<-e];exact p))];exact A,C⟩
theorem FW{fn:Func}{f:Ending->World->Prop}{σ:St}{ρ:Nat->Pl}{a:Array Value}:∀(b:List Deferred)(w:World),fR R B σ ρ {tmps:=a,defers:=b} w->
 (∀w,fR R B σ ρ {tmps:=a,defers:=[]} w->∃v,(results fn a).run P w= .ok v w/\f (.returned v) w)->LeavesInM Fence.wide 0 P fn a f b .returning w
 |[],w,c,h=>h w c
 |d::b,w,c,h=>by
  obtain⟨z,e,_,_⟩:=c.defers
  obtain⟨D,rfl⟩:∃D,d=mark D:=by
   cases z with
   |nil=>cases e
   |cons D z=>exact⟨D,by simp only[aY,List.cons.injEq]at e;exact e.1⟩
  obtain⟨g,i⟩:=c.putD;exact⟨bY, .inl ⟨D,_,rfl,run_takeDeferred g,FW b _ i h⟩⟩
theorem Kt{Γ:bG}(u:bX P Γ)(hL:cO Γ)(v:P.follows .mixedOrders=true){f:FuncId}{a:Ct}{A:a.inp.den->eH}(z:P.funcs[f]?=some fn)(C:fn.body=some c)(D:decide (a.nargs<=fn.ntmps)=true)
 (h:fvc P Γ fn c a A):bW P f a:=by
 intro x Q E F ρ w b j G H o
 have p:=cx.All_ok (k:=λx=>∀Q:cF a.out->Prop,(a.spec x).sat Q->
  vc P Γ a.inp.hp.length fn.ntmps (A x) c none [] (AC a.inp a.nargs fn.ntmps (a.inp.get x)) (Kr P fn.results.toList a.inp.hp.length a.out Q)) h x Q E
 have J:=FU u hL v c none _ _ _ p;refine(callsIn_wide (n:=0)).1 (callsIn_of_wp_marks (F:=Fence.wide) (n:=0) z C trivial ?_);rw[wpIn_wide];have q:b.toArray.size=b.length:=bY
 have K:a.nargs<=fn.ntmps:=cf D
 rw[q]
 have L:fR a.inp.hp.length ⟨F,ρ,w,eU a.inp (a.inp.get x),fn.ntmps,true⟩ (AC a.inp a.nargs fn.ntmps (a.inp.get x)) ρ {tmps:=b.toArray++Array.replicate (fn.ntmps-b.length) undef,defers:=[]} w:=by
  refine⟨.nil rfl,?_,G,Mv.refl _ _ _,o,λ_ _=> .inl rfl,aE _,eM⟩;have:(b.toArray++Array.replicate (fn.ntmps-b.length) undef).toList=b++ax (fn.ntmps-b.length) undef:=bY
  rw[this,j];refine F2.append H ?_;generalize fn.ntmps-a.nargs=m
  induction m with
  |zero=>trivial
  |succ m M=>exact⟨fd,M⟩
 refine wp_mono (J _ ρ _ w ⟨rfl,rfl⟩ L) ?_;rintro e r l ⟨σ',ρ',s,i⟩
 have fin:Kr.fin P fn.results.toList a.inp.hp.length a.out Q σ'->LeavesInM Fence.wide 0 P fn r.tmps (λe l=>∃y,Q y/\Ka F ρ w (eU a.inp (a.inp.get x)) a.inp.hp.length (du a.out y.1) ((du a.out y.1).get y.2) e l) r.defers .returning l:=by
  intro g;refine FW r.defers l i λl i=>?_;unfold Kr.fin at g;dsimp only at g;split at g
  case h_2=>exact g.elim
  rename_i W t;split at g
  case h_2=>exact g.elim
  rename_i y N;obtain⟨O,S,U⟩:=Ks i.tidy _ _ t;exact⟨lM O,yG S,y,g,AD i.tidy U N⟩
 cases e with
 |normal=>exact fin s
 |ret=>exact fin s
 |_=>exact s.elim
end
end
end Go.Hv
namespace Go.Hv
@[reducible]def aO(kt:Ty){β:Type}(k:kt.den)(l:List (kt.den×β)):Option β:=cD k l
@[reducible]def dY(kt:Ty){β:Type}(k:kt.den)(v:β)(l:List (kt.den×β)):List (kt.den×β):=cL k v l
@[reducible]def a7w(T:Type)(v:T):T:=v
def FX(P:Program)(f:FuncId):Func:=(P.funcs[f]?).getD default
def AE(fn:Func):Code:=fn.body.getD .skip
def D1(P:Program)(f:FuncId)(n:Nat):Bool:=fj P f&&decide (n<=(FX P f).ntmps)
def il(P:Program)(Γ:bG)(f:FuncId)(a:Ct)(A:a.inp.den->eH):Prop:=fvc P Γ (FX P f) (AE (FX P f)) a A
variable{f:FuncId}{P:Program}{Γ:bG}
theorem dH(l:bX P Γ)(hL:cO Γ)(m:P.follows .mixedOrders=true){b:Ct}{A:b.inp.den->eH}(a:D1 P f b.nargs=true)(h:il P Γ f b A):bW P f b:=by
 unfold D1 fj at a;unfold il at h;cases g:P.funcs[f]? with
 |none=>simp[g]at a
 |some fn=>
  have e:FX P f=fn:=by simp[FX,g]
  rw[e]at h a;simp only[g,aK]at a;obtain⟨⟨_,i⟩,n⟩:=a;rw[cX]at i;obtain⟨c,j⟩:=i;have o:AE fn=c:=by simp[AE,j]
  rw[o]at h;exact Kt l hL m g j n h
attribute [irreducible] il
def one{p:cx}(a:Prop)(y:p.den):Tr (cF [p]):= .need a (.leaf ⟨0,y⟩)
variable{A B a:Prop}{p:cx}
theorem eJ{y:p.den}:Live (one (p:=p) a y):=Live.need λ_=>Live.leaf
def dZ{p:cx}(a:Prop){β:Type}(v:β)(g:β->p.den):Tr (cF [p]):= .need a (.all β (λy=>y=v) λy=> .leaf ⟨0,g y⟩)
variable{β:Type}
theorem bA{v:β}{g:β->p.den}:Live (dZ (p:=p) a v g):=Live.need λ_=>Live.all ⟨v,rfl,Live.leaf⟩
variable{n:Nat}
theorem bW.mono{out:List cx}{s s':p.den->Tr (cF out)}(h:bW P f ⟨n,p,out,s⟩)(b:∀x Q,(s' x).sat Q->(s x).sat Q):bW P f ⟨n,p,out,s'⟩:=
 λx Q c=>h x Q (b _ Q c)
theorem eb{v:β}{g:β->p.den}{y:p.den}{Q:cF [p]->Prop}(h:(dZ (p:=p) a v g).sat Q)(e:g v=y):(one (p:=p) a y).sat Q:=⟨h.1,e▸h.2 v rfl⟩
variable{cs:List Ct}
theorem bX.add(h:bX P Γ)(b:fj P f=true)(e:∀c∈cs,bW P f c):bX P ((f,cs)::Γ):=λp a=>by
 rcases bm.1 a with rfl|a
 ·exact⟨b,e⟩
 ·exact h p a
theorem cO.add(h:cO Γ)(b:∀c∈cs,∀x,Live (c.spec x)):cO ((f,cs)::Γ):=λp a=>by
 rcases bm.1 a with rfl|a
 ·exact b
 ·exact h p a
variable{α:Type 1}
theorem bL{p:α->Prop}{a:α}(h:p a):∀c∈[a],p c:=λc b=>by
 rw[bV.1 b];exact h
theorem je{p:α->Prop}{a:α}{l:List α}(h:p a)(h':∀c∈l,p c):∀c∈a::l,p c:=λc b=>by
 rcases bm.1 b with rfl|b
 ·exact h
 ·exact h' c b
def a1w(n:Nat):eH:=⟨[],[],[],[],n⟩
def cQ(c:Ct)(n:Nat):c.inp.den->eH:=λ_=>a1w n
theorem PW(e:A=B)(b:B):A:=e▸b
def bS(p:cx)(a:p.den->Prop)(b:p.den->Nat):ve:=⟨[p],λy=>match y with
 |⟨0,x⟩=>a x
 |_=>False,λy=>match y with
 |⟨0,x⟩=>b x
 |_=>0,λ_=>[]⟩
def pW(p:cx)(a:p.den->Prop)(c:p.den->Nat)(b:p.den->List (Nat×ve)):ve:=⟨[p],λy=>match y with
 |⟨0,x⟩=>a x
 |_=>False,λy=>match y with
 |⟨0,x⟩=>c x
 |_=>0,λy=>match y with
 |⟨0,x⟩=>b x
 |_=>[]⟩
end Go.Hv
namespace Go.Hv
open Go.ChangeShapes Go.WideShapes Go.RowKit
variable{ps:List (TypeId×Nat)}{cs vals:List Value}{ce n o:Nat}{P:Program}{E T:Ty}{H:Type}{e t tb:TypeId}{u:Value}{W i l:World}
section
theorem uo{enc:TypeId×Value->H}(l:laidOutB P=true)(m:Below W.heap.size W i):
 ∀(ts:List TypeId)(vs:List Value)(c:List (DataW H))(ps:List MemPlace),(∀t∈ts,P.readableRec t=true/\t<P.types.size)->(∀x∈ps,x.block<W.heap.size)->
  DataW.TrodAll enc P W 0 (λ_=>true) true ts vs c ps->DataW.TrodAll enc P i 0 (λb=>decide (b<W.heap.size)) true ts vs c ps:=by
 intro ts
 induction ts with
 |nil=>
  intro vs c ps _ _ h;obtain⟨rfl,rfl,rfl⟩:=trodAll_nil h;exact rfl
 |cons t ts n=>
  intro vs c ps j a h;obtain⟨v,e,d,f,p,q,rfl,rfl,rfl,o,r⟩:=trodAll_cons h;obtain⟨s,u⟩:=j t (aF ..);exact⟨p,q,Below.trod l s u o m (λx g=>a x (dd _ g)),n e f q (λt w=>j t (aD _ w)) (λx g=>a x (List.mem_append_right _ g)) r,rfl⟩
theorem FY{enc:TypeId×Value->H}{f:Func}{s:ChangeSpec}{args:Array Value}{i m:List (DataW H)}{b:List MemPlace}
 (u:laidOutB P=true) (v:∀t∈f.params.toList,P.readableRec t=true/\t<P.types.size) (a:s.vars=[]) (g:f.resultTypes= #[tb]) (j:P.underlying tb=some .bool)
 (n:DataW.Whole enc P f.params.toList s.vars false W args.toList i m b)
 (c:s.fn H (i++m)={results:=[.lit (.bool true)],args:=i}) (o:Below W.heap.size W l):
 s.post enc P f false true false false W args (.bool true) l:=by
 have e:=n;obtain⟨p,q,w,r,rfl,_,_⟩:=n;rw[a]at r;obtain⟨rfl,rfl⟩:=trodVars_none r;rw[aH]at c e;refine⟨i,[],_,[],p,[],e,?_,?_,?_,o.frame _,λh=>by simp at h⟩
 ·rw[aH,c,g];exact⟨[],[],⟨1,by simp[DataW.trod,j,Value.cells]⟩,rfl,rfl⟩
 ·rw[aH,c];exact uo u o _ _ _ _ v (λx y=>by have:=e.lt x y;simpa using this) w
 ·rw[aH,c,a];exact rfl
theorem FZ(s:ByteArray):bM (s.data.toList.map UInt8.toBitVec)=s:=by
 unfold bM;rw[List.map_map];have:(iX∘UInt8.toBitVec)=id:=by funext x;rfl
 rw[this,List.map_id]
theorem D2{a:Addr}(h:W.cell? a=some u):a.block<W.heap.size/\a.spot=none:=by
 unfold World.cell? at h;split at h
 case h_2=>simp at h
 rename_i b;refine⟨(eX.1 b).1,?_⟩;cases c:a.spot with
 |none=>rfl
 |some x=>simp[c]at h
section
variable{H:Type}{enc:TypeId×Value->H}{P:Program}{W:World}
def PX(_:Nat):Prop:=False
def yH(enc:TypeId×Value->H)(P:Program)(W:World)(t:TypeId)(T:Ty):Prop:=
 ∀(a:Nat)(b:List Value)(x:DataW H×List MemPlace),DataW.trod enc P W 0 (λ_=>true) true a t b=some x->∃d:T.den,Rd W PX T d b
theorem Ku(b:P.underlying t=some (.int .i64)):yH enc P W t .i64:=by
 intro a f x c;obtain⟨z,e,_⟩:=DataW.trod_int b c;exact⟨z,e⟩
theorem PY(b:P.underlying t=some (.int .u8)):yH enc P W t .u8:=by
 intro a c x e;obtain⟨z,f,_,g⟩:=DataW.trod_int b e;simp[Lit.wf,IntKind.min,IntKind.max,IntKind.signed,IntKind.bits]at g;refine⟨ag 8 z.toNat,?_⟩;show c=[cu _];rw[f];unfold cu;simp;omega
theorem PZ(b:P.underlying t=some .string):yH enc P W t .st:=by
 intro a c x e;obtain⟨s,f,_⟩:=DataW.trod_string b e;refine⟨s.data.toList.map UInt8.toBitVec,?_⟩;show c=[.string (bM _)];rw[FZ,f]
theorem adp(b o i:Nat):Addr.add ⟨b,o,none⟩ i=⟨b,o+i,none⟩:=by
 unfold Addr.add;split<;>simp_all
theorem wr(U:P.underlying t=some (.slice e))(F:P.cellsOf e=ce)(h0:0<ce)(X:yH enc P W e E):yH enc P W t (.sl E):=by
 intro M cs x Y;rcases DataW.trod_slice U Y with⟨o,hx⟩|⟨a,len,cap,G,N,n,_,o,hx,_,hl,hm,O,r,J,_⟩
 ·exact⟨[],_,o, .inr ⟨rfl,none,rfl⟩⟩
 ·obtain⟨a0,Q⟩:=J rfl;rw[F]at r Q
  have one:∀i y,(W.cells? 0 (a.add (i*ce)) ce).bind (DataW.trod enc P W 0 (λ_=>true) true n e)=some y->∃(d:E.den)(b:List Value),Rd W PX E d b/\b.length=ce/\∀j u,b[j]?=some u->W.cell? ((a.add (i*ce)).add j)=some u:=by
   intro i y s;rw[Option.bind_eq_some_iff]at s;obtain⟨b,D,w⟩:=s;obtain⟨d,hd⟩:=X n b y w;obtain⟨_,v,c⟩:=World.cells?_some D;refine⟨d,b,hd,v,λj u f=>?_⟩;rw[c j (by rw[<-v];exact(cq.1 f).1),f]
  by_cases hc:cap=0
  ·have:len=0:=ac
   subst this hc;exact⟨[],_,o, .inr ⟨rfl,some a,rfl⟩⟩
  have p:∃u,W.cell? ((a.add (0*ce)).add 0)=some u:=by
   by_cases hz:0<len
   ·have c:=r 0 hz;rw[an ac]at c;obtain⟨d,z,_,K,A⟩:=one 0 _ c;exact⟨_,A 0 z[0] (an ac)⟩
   ·have c:=Q 0 ac;rw[an ac]at c;have L:len+0=0:=ac
    rw[L]at c;obtain⟨d,z,_,K,A⟩:=one 0 _ c;exact⟨_,A 0 z[0] (an ac)⟩
  obtain⟨u,f⟩:=p;rw[Nat.zero_mul]at f;obtain⟨R,S⟩:=D2 f;obtain⟨B,C,sub⟩:=a;simp[Addr.add]at R S;subst S;clear f
  have all:∀m,m<=len->∃(l:List E.den)(b:List Value),l.length=m/\b.length=m*ce/\dT (Rd W PX E) l b/\∀i u,b[i]?=some u->W.cell? ⟨B,C+i,none⟩=some u:=by
   intro m
   induction m with
   |zero=>intro _;exact⟨[],[],rfl,bY,rfl,λi u h=>by simp at h⟩
   |succ m ih=>
    intro a1;obtain⟨l,b,s,D,w,v⟩:=ih ac;have c:=r m ac;rw[an ac]at c;obtain⟨d,z,L,K,A⟩:=one m _ c;refine⟨l++[d],b++z,by simp[s],by rw[aa,D,K,Nat.succ_mul],dT.append w (dT.one L),λi u f=>?_⟩;rcases br i b.length with g|g
    ·rw[bq g]at f;exact v i u f
    ·rw[aJ g]at f;have:=A _ u f;rw[adp,adp,fv,show m*ce+(i-b.length)=i by omega]at this;exact this
  obtain⟨l,b,s,D,w,v⟩:=all len (aE _);exact⟨l,_,o, .inl ⟨B,C,cap,b,by rw[s],ac,R,λq=>q,w,v⟩⟩
inductive D3 (enc:TypeId×Value->H) (P:Program) (W:World):Nat->List (TypeId×Nat)->Ty->Prop
 |nil {o:Nat}:D3 enc P W o [] .un
 |one {o:Nat} {t:TypeId} {T:Ty}:yH enc P W t T->D3 enc P W o [(t,o)] T
 |cons {o:Nat} {t:TypeId} {r:List (TypeId×Nat)} {A B:Ty}:yH enc P W t A->D3 enc P W (o+P.cellsOf t) r B->D3 enc P W o ((t,o)::r) (.pr A B)
def eZ(P:Program):List (TypeId×Nat)->Nat->Nat
 |[],o=>o
 |f::r,o=>eZ P r (o+P.cellsOf f.1)
theorem Kv(h:D3 enc P W o ps T):∀{xs:List (DataW H×List MemPlace)},cs.length=eZ P ps o->
 (∀(i:Nat)(f:TypeId×Nat),ps[i]?=some f->DataW.trod enc P W 0 (λ_=>true) true n f.1 ((cs.drop f.2).take (P.cellsOf f.1))=xs[i]?)->xs.length=ps.length->∃d:T.den,Rd W PX T d (cs.drop o):=by
 induction h with
 |@nil o=>
  intro xs a _ _;have a:cs.length=o:=a;exact⟨(),by show cs.drop o=[];rw[<-a,List.drop_length]⟩
 |@one o t T l=>
  intro xs a c e;have a:cs.length=o+P.cellsOf t:=a;have p:=c 0 (t,o) rfl;rw[an (by rw[e];exact Nat.zero_lt_one)]at p;obtain⟨d,j⟩:=l n _ _ p;rw[bb (by rw[cW];show cs.length-o<=P.cellsOf t;omega)]at j;exact⟨d,j⟩
 |@cons o t r A B l v q=>
  intro xs a c e
  obtain⟨x,xs,rfl⟩:∃x b,xs=x::b:=by
   cases xs with
   |nil=>simp at e
   |cons x b=>exact⟨x,b,rfl⟩
  obtain⟨d,j⟩:=l n _ x (by have:=c 0 (t,o) rfl;simpa using this);obtain⟨s,m⟩:=q (xs:=xs) a (λi g u=>by have:=c (i+1) g (cf u);simpa using this) (cf e);refine⟨(d,s),(cs.drop o).take (P.cellsOf t),cs.drop (o+P.cellsOf t),?_,j,m⟩;rw[<-ko,ej]
def Ua(P:Program)(t:TypeId):Bool:=match P.underlying t with
 |some (.struct _)=>true
 |_=>false
def tf(P:Program)(t:TypeId):List (TypeId×Nat):=match P.underlying t with
 |some (.struct a)=>a.toList.map λf=>(f.type,f.offset)
 |_=>[]
theorem ti(b:Ua P t=true)(h:tf P t=ps)(m:D3 enc P W 0 ps T)(o:P.cellsOf t=eZ P ps 0):yH enc P W t T:=by
 intro j p x c;unfold Ua at b;split at b
 case h_2=>cases b
 rename_i q a;have e:tf P t=q.toList.map λf=>(f.type,f.offset):=by unfold tf;rw[a]
 rw[e]at h;subst h;obtain⟨r,n,_,rfl,s,u,c⟩:=DataW.trod_struct a c
 have:=Kv (cs:=p) m (xs:=r) (by rw[s,o]) (λi f l=>by
  rw[List.getElem?_map]at l;obtain⟨g,v,rfl⟩:=nt.1 l;exact c i g (cf v)) (cf u)
 simpa using this
end
theorem Kw{f:FuncId}{a:Ct}(h:bW P f a)(x:a.inp.den){Q:cF a.out->Prop}(p:(a.spec x).sat Q)(r:vals.length=a.nargs)(hh:a.inp.hp=[])(s:F2 (aT W PX (λ_=> .un)) (pR a.inp a.nargs (a.inp.get x)) vals):
 Calls P f vals.toArray W λe i=>Below W.heap.size W i/\∃(ρ':Nat->Pl)(y:cF a.out)(vs:List Value)(A:Nat->Prop),Q y/\e= .returned (lM vs)/\F2 (zU i A ρ') (SP.res iG (du a.out y.1).sl ((du a.out y.1).get y.2).1) vs:=by
 have j:eU a.inp (a.inp.get x)=λ_=>none:=by
  unfold eU;funext k;generalize(a.inp.get x).2=v;revert v;rw[hh];intro v;rfl
 have t:Av (λ_=>False) (λ_=>Pl.un) (eU a.inp (a.inp.get x))=PX:=by
  rw[j];funext b;refine propext ⟨λq=>?_,λq=>False.elim q⟩;rcases q with q|⟨k,c,l,_⟩
  ·exact q
  ·cases l
 refine(h x Q p (λ_=>False) (λ_=> .un) W vals r ?_ (by rw[t];exact s) (λ_ _=>rfl)).mono λe i⟨y,u,ρ',vs,l,B,w,C,g,D⟩=>?_
 ·rw[j];exact⟨λk c h=>(by cases h),λk E c F b h=>(by cases h),λk c b h=>(by cases h),λk m G J n o h=>(by cases h),λb h=>False.elim h⟩
 ·rw[j]at g;exact⟨⟨g.os,g.tape,g.output,g.size,λb z=>g.block b z λ⟨k,c,q,_⟩=>(by cases q)⟩,ρ',y,vs,_,u,l,w⟩
end
end Go.Hv
namespace Go.Tp
open Go.Hv Go.Proofs Go.RowKit
set_option maxRecDepth 100000
set_option maxHeartbeats 0
abbrev BL:=List (BitVec 8)
abbrev tB:Ty:= .sl .u8
theorem tS:Tryz.prog.follows .mixedOrders=true:=dC
theorem gs0:bX Tryz.prog []:=λ_ h=>by simp at h
theorem tl0:cO []:=λ_ h=>by simp at h
def KK(T:bG):Prop:=bX Tryz.prog T/\cO T
theorem oE{A:Prop}(B:Prop)(b:B)(e:A=B:=by kernel_rfl):A:=e▸b
def Br(c:Bool)(A B:Prop):Prop:=(c=true->A)/\(c=false->B)
def Bd(c:Prop)[Decidable c](A B:Prop):Prop:=(decide c=true->A)/\(decide c=false->B)
def nI{α:Type}(l:List α):Int:=(↑l.length:Int)
def iN{α:Type}(e:Int)(l:List α):Prop:=0<=e/\e<(↑l.length:Int)
def gD{α:Type}(l:List α)(i:Int)(z:α):α:=l.getD i.toNat z
def lN(a b:Int):Prop:=a.toNat<b.toNat
def bg(c:Ct)(x:c.inp.den)(Q:cF c.out->Prop):Prop:=(c.spec x).sat Q
def mM:Nat:=140737488355328
variable{j k:Nat}
theorem D4{P:Program}{f:FuncId}(h:D1 P f k=true):fj P f=true:=by
 unfold D1 at h;exact(aK _ _▸h).1
variable{T:bG}
theorem kC{n:FuncId}{c:Ct}(K:KK T)(A:c.inp.den->eH)(B:Prop)(b:B)(e:il Tryz.prog T n c A=B:=by kernel_rfl)(h:D1 Tryz.prog n c.nargs=true:=by kernel_rfl):bW Tryz.prog n c:=dH K.1 K.2 tS h (oE B b e)
theorem kA(n:FuncId)(c:Ct)(K:KK T)(A:c.inp.den->eH)(B:Prop)(b:B)(e:il Tryz.prog T n c A=B:=by kernel_rfl)(h:D1 Tryz.prog n c.nargs=true:=by kernel_rfl)(l:∀x,Live (c.spec x):=by exact λ_=>eJ):KK ((n,[c])::T):=⟨bX.add K.1 (D4 h) (bL (kC K A B b e h)),cO.add K.2 (bL l)⟩
def mP(c:Prop)[Decidable c](p:Prop):Prop:=decide c=true/\decide c=true/\p
def oa(c:Prop)[Decidable c](p:Prop):Prop:=decide c=true/\mP c p
def oX(c:Prop)[Decidable c](p:Prop):Prop:=mP c (mP c p)
def rTa(c:Prop)[Decidable c](p:Prop):Prop:=oX c (oX c p)
def zL(c:Prop)[Decidable c](p:Prop):Prop:=decide c=false/\decide c=false/\p
def P0(c:Prop)[Decidable c](p:Prop):Prop:=decide c=false/\zL c p
def tT(c:Prop)[Decidable c](p:Prop):Prop:=zL c (zL c p)
def rh(c:Prop)[Decidable c](p:Prop):Prop:=tT c (tT c p)
theorem kB(n:FuncId)(s:List Ct)(K:KK T)(a:∀c∈s,bW Tryz.prog n c)(h:fj Tryz.prog n=true:=by kernel_rfl)(l:∀c∈s,∀x,Live (c.spec x):=by exact bL (λ_=>eJ)):KK ((n,s)::T):=⟨bX.add K.1 h a,cO.add K.2 l⟩
def sB(i:Nat):Nat×Bool×List IP:=(i,false,[.d tB])
def sI(i:Nat):Nat×Bool×List IP:=(i,false,[.d .i64])
def sO(i j:Nat):Nat×Bool×List IP:=(i,false,[.own j])
def cB:Option CP:=some (.sl .u8)
def oB:cx:=⟨[sO 0 0],[cB]⟩
def mQ:Nat->Nat->BL
 |0,n=>[ag 8 n]
 |k+1,n=>if n<128 then[ag 8 n]else ag 8 (n % 128+128)::mQ k (n/128)
def vn(n:Int):BL:=mQ 6 (min (max n 0) 1099511627776).toNat
variable{a h m n s:Int}
theorem Ub(h:0<=n):bits .or .i64 (bits .and .i64 n 127) 128=n % 128+128:=by
 rw[i64_and127];have a:bits .or .i64 (n % 128) 128=bits .or .i64 128 (n % 128):=by simp only[bits,BitVec.or_comm]
 rw[a,bits_join .i64 63 bt (λm b c=>by rw[dK];omega) 7 128 (n % 128) bt bt bt ac ac ac];omega
theorem ofI(h:0<=n):bf 8 n=ag 8 n.toNat:=by
 obtain⟨m,rfl⟩:=bo h;rfl
theorem Kx(h0:0<=n)(h:n<=127)(k:Nat):mQ k n.toNat=[bf 8 n]:=by
 rw[ofI h0];cases k with
 |zero=>rfl
 |succ k=>simp only[mQ];rw[ak ac]
variable{b r:BL}
theorem Ky(h0:0<=n)(h:127<n)(f:n<128^(k+1))(g:b++mQ k n.toNat=r):∃a,k=a+1/\n.fdiv 128<128^(a+1)/\0<=n.fdiv 128/\
 b++[bf 8 (bits .or .i64 (bits .and .i64 n 127) 128)]++mQ a (n.fdiv 128).toNat=r/\(n.fdiv 128).toNat<n.toNat:=by
 obtain⟨m,rfl⟩:=bo h0;have e:((m:Int)).fdiv 128=((m/128:Nat):Int):=by rw[Int.fdiv_eq_ediv_of_nonneg _ bt];omega
 have c:m<128^(k+1):=by exact_mod_cast f
 cases k with
 |zero=>omega
 |succ k=>
  refine⟨k,rfl,?_,ac,?_,ac⟩
  ·rw[e];have:m/128<128^(k+1):=Nat.div_lt_of_lt_mul (by rw[Nat.mul_comm,<-Nat.pow_succ];exact c)
   exact_mod_cast this
  ·rw[Ub h0,<-g,e];simp only[aG,mQ];rw[ae ac,ofI ac];have:((m:Int) % 128+128).toNat=m % 128+128:=ac
   rw[this];simp
def Uc:Ct:=⟨2,⟨[sB 0,sI 1],[]⟩,[oB],λx=>one (x.1.length<=1099511627776) (x.1++vn x.2.1,())⟩
def nuP:cx:=⟨[sI 1,(5,false,[.own 0])],[some (.sl .u8)]⟩
def Kz(b:BL)(n m:Int)(c:BL):Prop:=∃k,m<128^(k+1)/\k<=6/\0<=m/\c++mQ k m.toNat=b++vn n/\c.length+k<=b.length+6
def nuA(x:Uc.inp.den):eH:=⟨[],[],[(1,0,bS nuP (λy=>Kz x.1 x.2.1 y.1 y.2.1) λy=>y.1.toNat)],[],0⟩
theorem yI{c:BL}(h:Kz b n m c)(a:127<m):Kz b n (m.fdiv 128) (c++[bf 8 (bits .or .i64 (bits .and .i64 m 127) 128)])/\(m.fdiv 128).toNat<m.toNat:=by
 obtain⟨k,e,q,f,g,r⟩:=h;obtain⟨i,rfl,j,l,o,p⟩:=Ky f a e g;exact⟨⟨i,j,ac,l,o,eM⟩,p⟩
theorem yJ(h:Kz b n m r)(a:m<=127):r++[bf 8 m]=b++vn n:=by
 obtain⟨k,g,i,e,f,j⟩:=h;rw[<-f,Kx e a]
theorem D5(b:BL)(n:Int):Kz b n (min (max n 0) 1099511627776) b:=⟨6,ac,ac,ac,rfl,ac⟩
abbrev Ud(v:BL×Unit):cF Uc.out:=⟨0,v⟩
def a1x:bG:=(123,[Uc])::[]
def a1y:=kA 123 Uc ⟨gs0,tl0⟩ nuA (∀(b:BL)(a:Int)(Q:cF Uc.out->Prop),let g:=127<min (max a 0) 1099511627776;let z:=min (max a 0) 1099511627776;let e:=bits BinOp.or ii (bits BinOp.and ii z 127) 128;(Tr.need (b.length<=1099511627776) (Tr.leaf (Ud (b++vn a,())))).sat Q->true=true/\((0+b.length)*1<=mM/\Br (decide g) ((b.length+[bf 8 e].length)*1<=mM/\Is (Kz b a (z.fdiv 128) (b++[bf 8 e]))) ((b.length+[bf 8 z].length)*1<=mM/\Q ⟨0,b++[bf 8 z],()⟩))/\∀(c:Int)(d:BL),let f:=bits BinOp.or ii (bits BinOp.and ii c 127) 128;Kz b a c d->Bd (127<c) ((d.length+[bf 8 f].length)*1<=mM/\Is (Kz b a (c.fdiv 128) (d++[bf 8 f])/\(c.fdiv 128).toNat<c.toNat)) ((d.length+[bf 8 c].length)*1<=mM/\Q ⟨0,d++[bf 8 c],()⟩)) (by
 conv=>zeta
 unfold Bd Br mM;intro b n Q ⟨l,f⟩;have g:=D5 b n;have i:∀{m c},Kz b n m c->c.length<=b.length+6:=λ⟨_,_,_,_,_,q⟩=>ac
 have j:∀y:BL,y=b++vn n->Q ⟨0,(y,())⟩:=λy e=>by rw[e];exact f
 clear f;refine⟨rfl,⟨ac,λh=>⟨eM,⟨(yI g (cf h)).1⟩⟩,λh=>⟨eM,j _ (yJ g (cf h))⟩⟩,λm c a=>⟨λh=>⟨?_,⟨yI a (cf h)⟩⟩,λh=>⟨?_,j _ (yJ a (cf h))⟩⟩⟩
 ·have:=i a;simp;omega
 ·have:=i a;simp;omega)
def rH:List (Option CP):=[some (.cells [.d tB, .d .i64, .d .bl, .d .i64])]
def sP(i:Nat):Nat×Bool×List IP:=(i,false,[.ptr 0 0])
def sL(i:Nat):Nat×Bool×List IP:=(i,false,[.d .bl])
abbrev bZ(b:BL)(a:Int):Prop:=b.length<=1099511627776/\0<=a/\a<=b.length
def Ue:Ct:=⟨2,⟨[sB 0,sB 1],[]⟩,[oB],λx=>one (x.1.length+x.2.1.length<=1099511627776) (x.1++(vn x.2.1.length++x.2.1),())⟩
theorem Cj:∀(k n:Nat),(mQ k n).length<=k+1
 |0,_=>by simp[mQ]
 |k+1,n=>by
  simp only[mQ];split
  ·simp
  ·have:=Cj k (n/128);simp;omega
theorem bC(n:Int):(vn n).length<=7:=Cj 6 _
abbrev Uf(v:BL×Unit):cF Ue.out:=⟨0,v⟩
def a1z:bG:=(110,[Ue])::a1x
def a10:=kA 110 Ue a1y (cQ Ue 0) (∀(b a:BL)(Q:cF Ue.out->Prop),(Tr.need (b.length+a.length<=1099511627776) (Tr.leaf (Uf (b++(vn (nI a)++a),())))).sat Q->b.length<=1099511627776/\((b++vn (nI a)).length+a.length)*1<=mM/\Q ⟨0,b++vn (nI a)++a,()⟩) (by
 unfold mM nI;intro b x Q ⟨f,a⟩;have:=bC x.length;have c:∀y:BL,y=b++(vn x.length++x)->Q ⟨0,(y,())⟩:=λy e=>by rw[e];exact a
 clear a;refine⟨ac,eM,c _ bY⟩)
def Ug:Ct:=⟨1,⟨[sB 0],[]⟩,[⟨[sP 0],rH⟩],λx=>one (x.1.length<=1099511627776) (x.1,0,true,0,())⟩
abbrev Uh(v:BL×Int×Bool×Int×Unit):cF Ug.out:=⟨0,v⟩
def a11:bG:=(24,[Ug])::a1z
def a12:=kA 24 Ug a10 (cQ Ug 0) (∀(a:BL)(Q:cF Ug.out->Prop),let z:=Uh (a,0,true,0,());(Tr.need (a.length<=1099511627776) (Tr.leaf z)).sat Q->(0+a.length)*1<=mM/\Q z) (by
 conv=>zeta
 unfold mM;intro b Q ⟨c,a⟩;exact⟨ac,a⟩)
def leC:Ct:=⟨1,⟨[sP 0],rH⟩,[⟨[sI 0],rH⟩],λ(b,a,m,e,_)=>one (bZ b a) (b.length-a,b,a,m,e,())⟩
def a13:bG:=(63,[leC])::a11
def a14:=kA 63 leC a12 (cQ leC 0) (∀(a:BL)(b:Int)(c:Bool)(d:Int)Q,bg leC (a,b,c,d,()) Q->am (nI a-b)/\Q ⟨0,nI a-b,a,b,c,d,()⟩) (by
 unfold nI bg;intro b a m e Q ⟨f,c⟩;exact⟨cv,c⟩)
def fiC:Ct:=⟨1,⟨[sP 0],rH⟩,[⟨[sL 0],rH⟩],λ(b,a,m,e,_)=>one True (m&&e==0,b,a,m,e,())⟩
def a15:bG:=(96,[fiC])::a13
def a16:=kA 96 fiC a14 (cQ fiC 0) (∀(c:BL)(d:Int)(a:Bool)(b:Int)Q,bg fiC (c,d,a,b,()) Q->Br a (Q ⟨0,b==0,c,d,a,b,()⟩) (Q ⟨0,false,c,d,a,b,()⟩)) (by
 unfold Br bg;intro b a m e Q ⟨_,c⟩;cases m<;>exact⟨λh=>by first|exact c|simp at h,λh=>by first|exact c|simp at h⟩)
def erC:Ct:=⟨1,⟨[sP 0],rH⟩,[⟨[sI 0],rH⟩],λ(b,a,m,e,_)=>one True (if m then e else 5,b,a,m,e,())⟩
def a17:bG:=(62,[erC])::a15
def a18:=kA 62 erC a16 (cQ erC 0) (∀(c:BL)(d:Int)(a:Bool)(b:Int)Q,bg erC (c,d,a,b,()) Q->Br (!a) (Q ⟨0,5,c,d,a,b,()⟩) (Q ⟨0,b,c,d,a,b,()⟩)) (by
 unfold Br bg;intro b a m e Q ⟨_,c⟩;cases m<;>exact⟨λh=>by first|exact c|simp at h,λh=>by first|exact c|simp at h⟩)
def eZ(b:BL)(a:Int)(m:Bool)(e:Int):Int:=if(if m then e else 5)≠0 then(if m then e else 5)else if 0<(b.length:Int)-a then 4 else 0
def edC:Ct:=⟨1,⟨[sP 0],rH⟩,[⟨[sI 0],rH⟩],λ(b,a,m,e,_)=>one (bZ b a) (eZ b a m e,b,a,m,e,())⟩
def a19:bG:=(26,[edC])::a17
def a2a:=kA 26 edC a18 (cQ edC 0) (∀(a:BL)(b:Int)(c:Bool)(d:Int)Q,let e:=(a,b,c,d,());let z:= !(if c=true then d else 5)==0;bg edC (a,b,c,d,()) Q->True/\Br z (Q ⟨0,if c=true then d else 5,e⟩) (bZ a b/\Bd (0<nI a-b) (Q ⟨0,4,e⟩) (Q ⟨0,0,e⟩))) (by
 clear T a b h j k m n r s
 conv=>zeta
 unfold Bd Br nI bg;intro b a m e Q ⟨g,f⟩;have c:∀y:Int,y=eZ b a m e->Q ⟨0,(y,b,a,m,e,())⟩:=λy e=>by rw[e];exact f
 clear f;refine⟨trivial,λh=>c _ ?_,λh=>⟨g,λi=>c _ ?_,λi=>c _ ?_⟩⟩<;>clear c<;>grind[eZ])
def flC:Ct:=⟨2,⟨[sP 0,sI 1],rH⟩,[⟨[],rH⟩],λ(x,b,a,m,e,_)=>one True (b,a,m,if m&&e==0 then x else e,())⟩
def a2b:bG:=(61,[flC])::a19
def a2c:=kA 61 flC a2a (cQ flC 0) (∀(e:Int)(c:BL)(d:Int)(a:Bool)(b:Int)Q,bg flC (e,c,d,a,b,()) Q->True/\Br (a&&b==0) (Q ⟨0,c,d,a,e,()⟩) (Q ⟨0,c,d,a,b,()⟩)) (by
 unfold Br bg;intro x b a m e Q ⟨_,f⟩;have c:∀y:Int,y=(if m&&e==0 then x else e)->Q ⟨0,(b,a,m,y,())⟩:=λy e=>by rw[e];exact f
 refine⟨trivial,λh=>c _ ?_,λh=>c _ ?_⟩<;>simp[h])
def gm:Nat->Nat->BL->Int×Int×Int
 |_,_,[]=>(0,0,3)
 |m,s,c::r=>
  if 127<c.toNat/\s+1<6 then gm (m+c.toNat % 128*128^s) (s+1) r
  else if 127<c.toNat\/(c.toNat=0/\0<s)then(0,0,5)
  else if 1099511627776<m+c.toNat % 128*128^s then(0,0,6)
  else((m+c.toNat % 128*128^s:Nat),(s+1:Nat),0)
theorem P1(n:Int)(h: -9223372036854775808<=n/\n<=9223372036854775807):IntKind.i64.wrap n=n:=by rw[dK];omega
theorem P2(c:BitVec 8):(c&&&ag 8 127).toNat=c.toNat % 128:=by
 rw[BitVec.toNat_and,show(ag 8 127).toNat=2^7-1 from rfl,Nat.and_two_pow_sub_one_eq_mod]
theorem KA{m:Nat}(c:BitVec 8)(l:k<6)(e:m<128^k):bits .or .i64 (m:Int) (IntKind.i64.wrap (((c&&&ag 8 127).toNat:Int)*2^(7*k)))=((m+c.toNat % 128*128^k:Nat):Int):=by
 rw[P2];have b:(2:Int)^(7*k)=((128^k:Nat):Int):=by rw[Int.pow_mul];norm_cast
 have f:128^k<=34359738368:=by
  have:k=0\/k=1\/k=2\/k=3\/k=4\/k=5:=ac
  rcases this with rfl|rfl|rfl|rfl|rfl|rfl<;>decide
 have g:c.toNat % 128<128:=Nat.mod_lt _ bt;generalize c.toNat % 128=d at g;generalize 128^k=p at b f e;have n:d*p<=127*34359738368:=Nat.mul_le_mul ac f;have h:((d:Int)*(2:Int)^(7*k))=((d*p:Nat):Int):=by rw[b];push_cast;rfl
 have i:((d*p:Nat):Int) % 2^(7*k)=0:=by rw[b];norm_cast;exact Nat.mul_mod_left _ _
 have j:(m:Int)<2^(7*k):=by rw[b];exact_mod_cast e
 rw[h,P1 _ ac];have a:∀x y:Int,bits .or .i64 x y=bits .or .i64 y x:=λx y=>by simp only[bits,BitVec.or_comm]
 rw[a,bits_join .i64 63 bt (λm o q=>P1 _ ac) (7*k) ((d*p:Nat):Int) m ac i ac ac j ac]
 push_cast
 exact Int.add_comm _ _
theorem P3{m:Nat}(a:j<b.length):gm m k (b.drop j)=
 (if 127<(b.getD j 0).toNat/\k+1<6 then gm (m+(b.getD j 0).toNat % 128*128^k) (k+1) (b.drop (j+1))
 else if 127<(b.getD j 0).toNat\/((b.getD j 0).toNat=0/\0<k)then(0,0,5)
 else if 1099511627776<m+(b.getD j 0).toNat % 128*128^k then(0,0,6)
 else((m+(b.getD j 0).toNat % 128*128^k:Nat),(k+1:Nat),0)):=by
 rw[List.drop_eq_getElem_cons a];simp only[gm,bF,an a,dA]
def nxP:cx:=⟨[sP 0,sI 5,sI 6,sI 7],rH⟩
def KB(b:BL)(a:Int)(n s h:Int):Prop:=∃m k:Nat,n=m/\s=k/\h=7*k/\k<6/\m<128^k/\a+k<=b.length/\gm m k (b.drop (a.toNat+k))=gm 0 0 (b.drop a.toNat)
def nxC:Ct:=⟨1,⟨[sP 0],rH⟩,[⟨[sI 0,sI 1,sI 2],rH⟩],λ(b,a,m,e,_)=>one (bZ b a) ((gm 0 0 (b.drop a.toNat)).1,(gm 0 0 (b.drop a.toNat)).2.1,(gm 0 0 (b.drop a.toNat)).2.2,b,a,m,e,())⟩
def nxA(x:nxC.inp.den):eH:=⟨[],[],[(1,0,bS nxP (λy=>(y.2.2.2.1,y.2.2.2.2.1,y.2.2.2.2.2.1,y.2.2.2.2.2.2.1)=(x.1,x.2.1,x.2.2.1,x.2.2.2.1)/\KB x.1 x.2.1 y.1 y.2.1 y.2.2.1) λy=>6-y.2.1.toNat)],[],0⟩
structure NxR(b:BL)(a:Int)(s h:Int)(c:Nat)(v:Int):Prop where
 lt:a+s<b.length
 s0:0<=s/\s<6/\h=7*s
 more:127<c->s+1<6->KB b a v (s+1) (h+7)
 bad:(127<c/\6<=s+1)\/(c=0/\0<s)->gm 0 0 (b.drop a.toNat)=(0,0,5)
 big:c<=127->(c=0->s<=0)->1099511627776<v->gm 0 0 (b.drop a.toNat)=(0,0,6)
 good:c<=127->(c=0->s<=0)->v<=1099511627776->gm 0 0 (b.drop a.toNat)=(v,s+1,0)
theorem yK(u:bZ b a)(w:KB b a n s h)(A:s≠b.length-a){c:BitVec 8}(j:b.getD (a+s).toNat 0=c):
 NxR b a s h c.toNat (bits .or .i64 n (IntKind.i64.wrap (((c&&&ag 8 127).toNat:Int)*2^h.toNat))):=by
 obtain⟨m,k,rfl,rfl,rfl,x,l,y,f⟩:=w;obtain⟨B,C,D⟩:=u;have q:(a+(k:Int)).toNat=a.toNat+k:=ac
 have r:(7*(k:Int)).toNat=7*k:=ac
 have o:a.toNat+k<b.length:=ac
 rw[q]at j;rw[r,KA _ x l];rw[P3 o,j]at f
 have e:m+c.toNat % 128*128^k<128^(k+1):=by
  have:c.toNat % 128<128:=Nat.mod_lt _ bt;rw[Nat.pow_succ];generalize 128^k=p at l;have:c.toNat % 128*p<=127*p:=Nat.mul_le_mul ac (aE _);omega
 have g:a+((k+1:Nat):Int)<=b.length:=ac
 generalize m+c.toNat % 128*128^k=v at f e;generalize c.toNat=c at f;clear l q r j;refine⟨ac,ac,λi t=>?_,λi=>?_,λi t z=>?_,λi t z=>?_⟩
 ·refine⟨v,k+1,rfl,ac,ac,ac,e,g,?_⟩;rw[ak ⟨i,ac⟩]at f;exact f
 ·clear e;rw[<-f,ae ac,ak ac]
 ·clear e;rw[<-f,ae ac,ae ac,ak ac]
 ·clear e;rw[<-f,ae ac,ae ac,ae ac]
  norm_cast
theorem KC(b:BL)(a:Int)(c:bZ b a):KB b a 0 0 0:=⟨0,0,rfl,rfl,rfl,ac,bt,by have:=c.2.2;omega,rfl⟩
theorem F0(c:bZ b a)(e:KB b a n s h)(i:s=b.length-a):gm 0 0 (b.drop a.toNat)=(0,0,3):=by
 obtain⟨m,k,rfl,rfl,rfl,j,l,f,g⟩:=e;obtain⟨o,p,q⟩:=c;rw[<-g,bu ac];rfl
def a2d:bG:=(97,[nxC])::a2b
def Ui:=kA 97 nxC a2c nxA (∀(e:BL)(d:Int)(j:Bool)(k:Int)Q,let l:=(e,d,j,k,());let v:=gD e (d+0) (ag 8 0)==ag 8 0;let r:=127<(gD e (d+0) (ag 8 0)).toNat;let n:=IntKind.i64.wrap ((↑(gD e (d+0) (ag 8 0)&&&ag 8 127).toNat:Int)*1);let o:=1099511627776<bits BinOp.or ii 0 n;let s:=Br (decide o) (Q ⟨0,0,0,6,l⟩) (Q ⟨0,bits BinOp.or ii 0 n,1,0,l⟩);bg nxC (e,d,j,k,()) Q->true=true/\(bZ e d/\Br (0==nI e-d) (Q ⟨0,0,0,3,l⟩) (am (d+0)/\iN (d+0) e/\Br (decide r) (Is ((e,d,j,k)=(e,d,j,k)/\KB e d (bits BinOp.or ii 0 n) 1 7)) (Br (decide r) (Q ⟨0,0,0,5,l⟩) (Br v s s))))/\∀(i b f:Int)(c:BL)(a:Int)(g:Bool)(h:Int),let m:=(c,a,g,h,());let w:=gD c (a+b) (ag 8 0)==ag 8 0;let t:=127<(gD c (a+b) (ag 8 0)).toNat;let p:=IntKind.i64.wrap ((↑(gD c (a+b) (ag 8 0)&&&ag 8 127).toNat:Int)*2^min f.toNat 64);let q:=1099511627776<bits BinOp.or ii i p;let z:=Br (decide q) (Q ⟨0,0,0,6,m⟩) (Q ⟨0,bits BinOp.or ii i p,b+1,0,m⟩);let u:=Br (decide t) (Q ⟨0,0,0,5,m⟩) (Br w (Bd (1<b+1) (Q ⟨0,0,0,5,m⟩) z) z);(c,a,g,h)=(e,d,j,k)/\KB e d i b f->bZ c a/\Br (b==nI c-a) (Q ⟨0,0,0,3,m⟩) (am (a+b)/\iN (a+b) c/\decide (0<=f)=true/\am (b+1)/\am (f+7)/\Br (decide t) (Bd (b+(1:Int)<6) (Is (((c,a,g,h)=(e,d,j,k)/\KB e d (bits BinOp.or ii i p) (b+1) (f+7))/\6-(b+1).toNat<6-b.toNat)) u) u)) (by
 conv=>zeta
 unfold Bd Br gD iN nI bg;intro b a w e Q ⟨m,o⟩;have f:∀y:Int×Int×Int,gm 0 0 (b.drop a.toNat)=y->Q ⟨0,(y.1,y.2.1,y.2.2,b,a,w,e,())⟩:=λy e=>by rw[<-e];exact o
 clear o
 have p:∀c:BitVec 8,(c==ag 8 0)=true↔c.toNat=0:=λc=>by
  rw[aS];exact⟨λh=>by rw[h];rfl,λh=>BitVec.eq_of_toNat_eq h⟩
 have z:KB b a 0 0 0:=KC b a m;have g:=m;obtain⟨A,B,C⟩:=m;refine⟨rfl,⟨g,λh=>f (0,0,3) (F0 g z (cf h)),λh=>?_⟩,?_⟩
 ·have r:=yK g z (cf h) (c:=b.getD (a+0).toNat (ag 8 0)) rfl;have l:(2:Int)^(0:Int).toNat=1:=rfl;rw[l]at r;have x:=r.lt;generalize b.getD (a+0).toNat (ag 8 0)=c at r;generalize bits .or .i64 0 (IntKind.i64.wrap (((c&&&ag 8 127).toNat:Int)*1))=v at r;refine⟨cv,ac,?_⟩;clear h z
  (repeat' (first|apply ck|intro _))<;>(try simp only[ai,<-cm,p]at*)<;>first
   |(exact⟨⟨trivial,r.more ac ac⟩⟩)
   |(exact f (0,0,5) (r.bad ac))
   |(exact f (0,0,6) (r.big ac ac ac))
   |(exact f (_,_,0) (r.good ac ac ac))
   |omega
 ·clear z;intro n s h q t D E i;obtain⟨j,i⟩:=i;simp only[Prod.mk.injEq]at j;obtain⟨rfl,rfl,rfl,rfl⟩:=j;refine⟨g,λh=>f (0,0,3) (F0 g i (cf h)),λu=>?_⟩;have r:=yK g i (cf u) (c:=q.getD (t+s).toNat (ag 8 0)) rfl;have x:=r.lt;obtain⟨F,G,H⟩:=r.s0;have l:min h.toNat 64=h.toNat:=ac
  rw[l];generalize q.getD (t+s).toNat (ag 8 0)=c at r;generalize bits .or .i64 n (IntKind.i64.wrap (((c&&&ag 8 127).toNat:Int)*2^h.toNat))=v at r;refine⟨cv,ac,eM,cv,cv,?_⟩;clear u i l
  (repeat' (first|apply ck|intro _))<;>(try simp only[ai,<-cm,p]at*)<;>first
   |(exact⟨⟨⟨trivial,r.more ac ac⟩,ac⟩⟩)
   |(exact f (0,0,5) (r.bad ac))
   |(exact f (0,0,6) (r.big ac ac ac))
   |(exact f (_,_,0) (r.good ac ac ac))
   |omega)
theorem yL:∀(l:BL)(m s:Nat),(gm m s l).2.2=0->((s:Int)<(gm m s l).2.1/\(gm m s l).2.1<=s+l.length)/\0<=(gm m s l).1/\(gm m s l).1<=1099511627776
 |[],m,s,h=>by simp[gm]at h
 |c::r,m,s,h=>by
  simp only[gm]at h⊢;split
  ·rename_i a;rw[ak a]at h;have:=yL r _ _ h;simp only[bc]
   push_cast at this⊢
   omega
  ·rename_i a;rw[ae a]at h;split
   ·rename_i b;rw[ak b]at h;simp at h
   ·rename_i b;rw[ae b]at h;split
    ·rename_i e;rw[ak e]at h;simp at h
    ·rename_i e;have f:((m+c.toNat % 128*128^s:Nat):Int)<=1099511627776:=ac
     have g:(0:Int)<=((m+c.toNat % 128*128^s:Nat):Int):=ac
     refine⟨⟨?_,?_⟩,g,f⟩
     ·show(s:Int)<((s+1:Nat):Int);omega
     ·show((s+1:Nat):Int)<=_;simp only[bc];omega
def dn(b:BL)(a:Int)(m:Bool)(e lo hi:Int):Int×Int×Int:=
 if(m&&e==0)=true then
  if(gm 0 0 (b.drop a.toNat)).2.2=0 then
   if(gm 0 0 (b.drop a.toNat)).1<lo\/hi<(gm 0 0 (b.drop a.toNat)).1 then(0,a,6)
   else((gm 0 0 (b.drop a.toNat)).1,a+(gm 0 0 (b.drop a.toNat)).2.1,e)
  else(0,a,(gm 0 0 (b.drop a.toNat)).2.2)
 else(0,a,e)
def Tu:Ct:=⟨3,⟨[sP 0,sI 1,sI 2],rH⟩,[⟨[sI 0],rH⟩],λ(c,f,b,a,m,e,_)=>one (bZ b a) ((dn b a m e c f).1,b,(dn b a m e c f).2.1,m,(dn b a m e c f).2.2,())⟩
abbrev Uj(v:Int×BL×Int×Bool×Int×Unit):cF Tu.out:=⟨0,v⟩
theorem NI:bW Tryz.prog 52 Tu:=kC Ui (cQ Tu 0) (∀(e f:Int)(b:BL)(a:Int)(c:Bool)(d:Int)Q,let g:=Uj (0,b,a,c,6,());let z:=gm 0 0 (List.drop a.toNat b);let h:=Br (!z.2.2==0) (Q ⟨0,0,b,a,c,z.2.2,()⟩) (am (a+z.2.1)/\Q ⟨0,z.1,b,a+z.2.1,c,d,()⟩);bg Tu (e,f,b,a,c,d,()) Q->True/\Br (!(c&&d==0)) (Q ⟨0,0,b,a,c,d,()⟩) (bZ b a/\Br (z.2.2==0) (Bd (z.1<e) (Q g) (Bd (f<z.1) (Q g) h)) h)) (by
 conv=>zeta
 unfold Bd Br bg;intro f i b a m e Q ⟨p,n⟩;have c:∀y:Int×Int×Int,dn b a m e f i=y->Q ⟨0,(y.1,b,y.2.1,m,y.2.2,())⟩:=λy e=>by rw[<-e];exact n
 clear n;have j:=yL (b.drop a.toNat) 0 0;obtain⟨q,r,s⟩:=p;rw[cW]at j;generalize l:gm 0 0 (b.drop a.toNat)=g at j;have o:dn b a m e f i=if(m&&e==0)=true then if g.2.2=0 then if g.1<f\/i<g.1 then(0,a,6)else(g.1,a+g.2.1,e)else(0,a,g.2.2)else(0,a,e):=by rw[dn,l]
 rw[o]at c;clear o;refine⟨trivial,λh=>c (0,a,e) (ae (by rw[aR]at h;rw[h];decide)),λh=>⟨⟨q,r,s⟩,?_⟩⟩;rw[aN]at h;rw[ak h]at c;clear h
 (repeat' (first|apply ck|intro _))<;>(try simp only[ai,aj,aS,aC,aR,aN]at*)<;>first
  |(exact c (0,a,6) (by grind))
  |(exact c (0,a,g.2.2) (by grind))
  |(exact c (g.1,a+g.2.1,e) (by grind))
  |(have:=j (by assumption);omega)
  |(exfalso;omega))
def a2e:bG:=(52,[Tu])::a2d
def a2f:=kB 52 [Tu] Ui (bL NI)
def zM(b:BL)(a:Int)(m:Bool)(e n:Int):BL×Int×Int:=
 if(m&&e==0)=true then
  if n<1 then([],a,e)else if(b.length:Int)-a<n then([],a,3)else((b.take (a+n).toNat).drop a.toNat,a+n,e)
 else([],a,e)
def Uk:Ct:=⟨2,⟨[sP 0,sI 1],rH⟩,[⟨[sO 0 1],rH++[cB]⟩],λ(n,b,a,m,e,_)=>one (bZ b a) (b,(zM b a m e n).2.1,m,(zM b a m e n).2.2,(zM b a m e n).1,())⟩
abbrev Ul(v:BL×Int×Bool×Int×BL×Unit):cF Uk.out:=⟨0,v⟩
def a2g:bG:=(98,[Uk])::a2e
def Um:=kA 98 Uk a2f (cQ Uk 0) (∀(b:Int)(c:BL)(a:Int)(d:Bool)(e:Int)Q,let f:=(a+b).toNat-a.toNat;let z:=Ul (c,a,d,e,[],());bg Uk (b,c,a,d,e,()) Q->True/\Br (!(d&&e==0)) (Q z) (Bd (b<1) (Q z) (bZ c a/\Bd (nI c-a<b) (Q ⟨0,c,a,d,3,[],()⟩) (am (a+b)/\(0<=a/\a<=a+b/\a+b<=nI c)/\(0+(de f (List.drop a.toNat c)).length)*1<=mM/\am (a+b)/\Q ⟨0,c,a+b,d,e,de f (List.drop a.toNat c),()⟩)))) (by
 conv=>zeta
 unfold Bd Br mM nI bg;intro n b a m e Q ⟨j,i⟩;have c:∀y:BL×Int×Int,zM b a m e n=y->Q ⟨0,(b,y.2.1,m,y.2.2,y.1,())⟩:=λy e=>by rw[<-e];exact i
 clear i;obtain⟨l,o,p⟩:=j;unfold zM at c;refine⟨trivial,λh=>c ([],a,e) (ae (by rw[aR]at h;rw[h];decide)),λh=>?_⟩;rw[aN]at h;rw[ak h]at c;clear h;refine⟨λf=>c _ (by rw[ak (cf f)]),λf=>⟨⟨l,o,p⟩,λg=>c ([],a,3) (by rw[ae (cf f),ak (cf g)]),λg=>?_⟩⟩;simp only[aj]at f g;refine⟨cv,ac,eM,cv,c (_,a+n,e) ?_⟩;rw[ae f,ae g,List.drop_take])
def hJ(b:BL)(a:Int)(m:Bool)(e n:Int):BL×Int×Int:=
 if(m&&e==0)=true then
  if(gm 0 0 (b.drop a.toNat)).2.2=0 then
   if max n 0<(gm 0 0 (b.drop a.toNat)).1 then([],a,2)
   else if(b.length:Int)-a-(gm 0 0 (b.drop a.toNat)).2.1<(gm 0 0 (b.drop a.toNat)).1 then([],a,3)
   else zM b (a+(gm 0 0 (b.drop a.toNat)).2.1) m e (gm 0 0 (b.drop a.toNat)).1
  else([],a,(gm 0 0 (b.drop a.toNat)).2.2)
 else([],a,e)
def Un:Ct:=⟨2,⟨[sP 0,sI 1],rH⟩,[⟨[sO 0 1],rH++[cB]⟩],λ(n,b,a,m,e,_)=>one (bZ b a) (b,(hJ b a m e n).2.1,m,(hJ b a m e n).2.2,(hJ b a m e n).1,())⟩
theorem NJ:bW Tryz.prog 53 Un:=kC Um (cQ Un 0) (∀(e:Int)(a:BL)(b:Int)(c:Bool)(d:Int)Q,let f:=gm 0 0 (List.drop b.toNat a);let g:=zM a (b+f.2.1) c d f.1;let z:=Br (!f.2.2==0) (Q ⟨0,a,b,c,f.2.2,[],()⟩) (am (b+f.2.1)/\bZ a (b+f.2.1)/\Q ⟨0,a,g.2.1,c,g.2.2,g.1,()⟩);let h:=Br (f.2.2==0) (bZ a b/\am (nI a-b-f.2.1)/\Bd (nI a-b-f.2.1<f.1) (Q ⟨0,a,b,c,3,[],()⟩) z) z;bg Un (e,a,b,c,d,()) Q->True/\Br (!(c&&d==0)) (Q ⟨0,a,b,c,d,[],()⟩) (bZ a b/\Br (f.2.2==0) (Bd (max e 0<f.1) (Q ⟨0,a,b,c,2,[],()⟩) h) h)) (by
 conv=>zeta
 unfold Bd Br nI bg;intro n b a m e Q ⟨j,l⟩;have c:∀y:BL×Int×Int,hJ b a m e n=y->Q ⟨0,(b,y.2.1,m,y.2.2,y.1,())⟩:=λy e=>by rw[<-e];exact l
 clear l;have f:=yL (b.drop a.toNat) 0 0;have o:=j;obtain⟨q,r,s⟩:=j;rw[cW]at f;generalize i:gm 0 0 (b.drop a.toNat)=g at f;have p:hJ b a m e n=if(m&&e==0)=true then if g.2.2=0 then if max n 0<g.1 then([],a,2)else if(b.length:Int)-a-g.2.1<g.1 then([],a,3)else zM b (a+g.2.1) m e g.1 else([],a,g.2.2)else([],a,e):=by rw[hJ,i]
 rw[p]at c;clear p;refine⟨trivial,λh=>c ([],a,e) (ae (by rw[aR]at h;rw[h];decide)),λh=>⟨o,?_⟩⟩;rw[aN]at h;rw[ak h]at c;clear h
 (repeat' (first|exact o|apply ck|intro _))<;>(try simp only[ai,aj,aS,aC,aR,aN]at*)<;>first
  |(exact c ([],a,2) (by grind))
  |(exact c ([],a,3) (by grind))
  |(exact c ([],a,g.2.2) (by grind))
  |(exact c (zM b (a+g.2.1) m e g.1) (by grind))
  |(unfold am;have:=f (by assumption);omega)
  |(have:=f (by assumption);omega)
  |(exfalso;omega))
def a2h:bG:=(53,[Un])::a2g
def a2i:=kB 53 [Un] Um (bL NJ)
def rgC:Ct:=⟨1,⟨[sP 0],rH⟩,[⟨[sL 0],rH⟩],λ(b,a,m,e,_)=>one (bZ b a) ((dn b a m e 0 1).1==1,b,(dn b a m e 0 1).2.1,m,(dn b a m e 0 1).2.2,())⟩
def a2j:bG:=(221,[rgC])::a2h
def a2k:=kA 221 rgC a2i (cQ rgC 0) (∀(a:BL)(b:Int)(c:Bool)(d:Int)Q,let z:=dn a b c d 0 1;bg rgC (a,b,c,d,()) Q->bZ a b/\Q ⟨0,z.1==1,a,z.2.1,c,z.2.2,()⟩) (by
 conv=>zeta
 unfold bg;intro b a m e Q ⟨c,f⟩;exact⟨c,f⟩)
def wfC:Ct:=⟨2,⟨[sB 0,sL 1],[]⟩,[oB],λ(b,f,_)=>one (b.length<=1099511627776) (b++vn (if f then 1 else 0),())⟩
def a2l:bG:=(158,[wfC])::a2j
def a2m:=kA 158 wfC a2k (cQ wfC 0) (∀(a:BL)(b:Bool)Q,bg wfC (a,b,()) Q->Br b (a.length<=1099511627776/\Q ⟨0,a++vn 1,()⟩) (a.length<=1099511627776/\Q ⟨0,a++vn 0,()⟩)) (by
 unfold Br bg;intro b f Q ⟨a,c⟩;cases f<;>exact⟨λh=>by first|exact⟨a,c⟩|simp at h,λh=>by first|exact⟨a,c⟩|simp at h⟩)
def dB(n:Int):BL:=(fo 8).map λi=>az 8 (bf 64 n>>>(8*i))
theorem eK(n:Int):(dB n).length=8:=by simp[dB]
def eiC:Ct:=⟨1,⟨[sI 0],[]⟩,[oB],λx=>one True (dB x.1,())⟩
def a2n:bG:=(144,[eiC])::a2l
def a2o:=kA 144 eiC a2m (cQ eiC 9) (∀(a:Int)Q,let i:=bf 64 a>>>56;let h:=bf 64 a>>>48;let g:=bf 64 a>>>40;let f:=bf 64 a>>>32;let e:=bf 64 a>>>24;let c:=bf 64 a>>>16;let b:=bf 64 a>>>8;let z:=bf 64 a>>>0;bg eiC (a,()) Q->(0+[az 8 z].length)*1<=mM/\([az 8 z].length+[az 8 b].length)*1<=mM/\(([az 8 z]++[az 8 b]).length+[az 8 c].length)*1<=mM/\(([az 8 z]++[az 8 b]++[az 8 c]).length+[az 8 e].length)*1<=mM/\(([az 8 z]++[az 8 b]++[az 8 c]++[az 8 e]).length+[az 8 f].length)*1<=mM/\(([az 8 z]++[az 8 b]++[az 8 c]++[az 8 e]++[az 8 f]).length+[az 8 g].length)*1<=mM/\(([az 8 z]++[az 8 b]++[az 8 c]++[az 8 e]++[az 8 f]++[az 8 g]).length+[az 8 h].length)*1<=mM/\(([az 8 z]++[az 8 b]++[az 8 c]++[az 8 e]++[az 8 f]++[az 8 g]++[az 8 h]).length+[az 8 i].length)*1<=mM/\Q ⟨0,[az 8 z]++[az 8 b]++[az 8 c]++[az 8 e]++[az 8 f]++[az 8 g]++[az 8 h]++[az 8 i],()⟩) (by
 conv=>zeta
 unfold mM bg;intro n Q ⟨_,a⟩;have b:∀y:BL,y=dB n->Q ⟨0,(y,())⟩:=λy e=>by rw[e];exact a
 clear a;simp only[aa,bi];refine⟨ac,ac,ac,ac,ac,ac,ac,ac,b _ rfl⟩)
abbrev D6:Ty:= .pr .u8 (.pr (.sl tB) .un)
abbrev Tm:=BitVec 8×List BL×Unit
def E0(l:List BL):BL:=(l.map λp=>dB p.length++p).flatten
def vl(t:Tm):BL:=t.1::E0 t.2.1
def mR(l:List BL):Nat:=(l.map λp=>p.length+8).sum
def Uo:Ct:=⟨1,⟨[(0,true,[.d D6])],[]⟩,[⟨[(0,false,[.d .st])],[]⟩],λx=>one (mR x.1.2.1<=1099511627776) (vl x.1,())⟩
def kyP:cx:=⟨[(3,false,[.own 0]),(10,false,[.d (.sl tB)]),sI 11,sI 12],[cB]⟩
def kyI(t:Tm)(l:List BL)(n i:Int)(b:BL):Prop:=l=t.2.1/\n=l.length/\∃k:Nat,i=k/\k<=l.length/\b=t.1::E0 (l.take k)
def kyA(x:Uo.inp.den):eH:=⟨[(3,bS kyP (λy=>kyI x.1 y.1 y.2.1 y.2.2.1 y.2.2.2.1) λy=>(y.2.1-y.2.2.1).toNat)],[],[],[],0⟩
theorem F1(l:List BL):∀k,mR (l.take k)<=mR l:=by
 induction l with
 |nil=>intro k;simp
 |cons a r b=>intro k;cases k with
  |zero=>simp[mR]
  |succ k=>have:=b k;simp only[mR,List.take_succ_cons,aY,dy]at this⊢;omega
theorem F3(l:List BL):l.length<=mR l:=by
 induction l with
 |nil=>simp
 |cons a r b=>simp only[mR,aY,dy,bc]at b⊢;omega
theorem Ck:∀l:List BL,(E0 l).length=mR l
 |[]=>rfl
 |a::r=>by have:=Ck r;simp only[E0,mR,aY,List.flatten_cons,aa,dy,eK]at this⊢;omega
theorem yM{l:List BL}(h:k<l.length):E0 (l.take (k+1))=E0 (l.take k)++dB (l.getD k []).length++l.getD k []:=by
 have:l.take (k+1)=l.take k++[l.getD k []]:=by
  rw[dR,an h];simp[bF,an h]
 rw[this];simp[E0]
abbrev Up(v:BL×Unit):cF Uo.out:=⟨0,v⟩
def a2p:bG:=(102,[Uo])::a2n
def a2q:=kA 102 Uo a2o kyA (∀(b:Tm)(Q:cF Uo.out->Prop),(Tr.need (mR b.2.1<=1099511627776) (Tr.leaf (Up (vl b,())))).sat Q->Is (kyI b b.2.1 (nI b.2.1) 0 [b.1])/\∀(c:List BL)(d a:Int)(e:BL),let z:=nI (gD c a []);kyI b c d a e->Bd (a<d) (iN a c/\True/\(e.length+ah (dB z))*1<=mM/\((e++dB z).length+(gD c a []).length)*1<=mM/\am (a+1)/\Is (kyI b c d (a+1) (e++dB z++gD c a [])/\lN (d-(a+1)) (d-a))) (Q ⟨0,e,()⟩)) (by
 conv=>zeta
 unfold Bd gD iN lN mM nI;intro t Q ⟨j,c⟩;have g:∀y:BL,y=vl t->Q ⟨0,(y,())⟩:=λy e=>by rw[e];exact c
 clear c;refine⟨⟨rfl,rfl,0,rfl,aq _,rfl⟩,?_⟩;rintro l n i b ⟨rfl,rfl,k,rfl,m,rfl⟩;refine⟨λh=>?_,λh=>g _ ?_⟩
 ·simp only[ai]at h;have a:k<t.2.1.length:=ac
  have o:=F1 t.2.1 (k+1);have f:=Ck (t.2.1.take (k+1));rw[yM a]at f;simp only[aa,eK]at f;simp only[aG,aa,bc,eK];refine⟨ac,trivial,ac,ac,by unfold am;have:=F3 t.2.1;omega,⟨⟨rfl,rfl,k+1,rfl,ac,?_⟩,ac⟩⟩;rw[yM a];simp
 ·simp only[aj]at h;have:k=t.2.1.length:=ac
  rw[this,bv];rfl)
def nB:List (Option CP):=[some (.cells [.own 1, .mp 2, .d .i64]),some (.sl D6),some (.mp .st .i64)]
def D7:List (Option CP):=[some (.cells [.own 3, .mp 2, .d .i64]),none,some (.mp .st .i64),some (.sl D6)]
abbrev KV:=List (BL×Int)
def Uq(k:BL)(m:KV):Int:=(cD (kt:= .st) k m).getD 0
def P4(k:BL)(n:Int)(m:KV):KV:=cL (kt:= .st) k n m
def jV(t:Tm)(ts:List Tm)(m:KV):Int×List Tm×KV:=
 if Uq (vl t) m=0 then(ts.length+1,ts++[(t.1,t.2.1,())],P4 (vl t) (ts.length+1) m)else(Uq (vl t) m,ts,m)
abbrev P5(t:Tm)(ts:List Tm):Prop:=mR t.2.1<=1099511627776/\ts.length<=4294967296
def tbC:Ct:=⟨2,⟨[sP 0,(1,true,[.d D6])],nB⟩,[⟨[sI 0],D7⟩],λ(t,d,a,m,_)=>one (P5 t a) ((jV t a m).1,d,(jV t a m).2.2,(jV t a m).2.1,())⟩
def tbP:cx:=⟨[sP 0,(3,false,[.ptr 3 0]),(5,false,[.d .st]),(7,false,[.own 4]),(21,false,[.d (.sl tB)]),sI 22,sI 23],nB++[some (.cells [.d .u8, .d (.sl tB)]),some (.sl tB)]⟩
def tbI(t:Tm)(d:Int)(ts:List Tm)(m:KV)(y:tbP.den):Prop:=match y with
 |(k,l,n,i,b,a,e,c,f,r,_)=>k=vl t/\l=t.2.1/\n=l.length/\b=d/\a=ts/\e=m/\c=t.1/\f=t.2.1/\∃j:Nat,i=j/\j<=l.length/\r=l.take j
def tbA(x:tbC.inp.den):eH:=⟨[(6,bS tbP (tbI x.1 x.2.1 x.2.2.1 x.2.2.2.1) λ(_,_,n,i,_)=>(n-i).toNat)],[],[],[],0⟩
theorem iA:∀(l:List BL)(j:Nat),(l.getD j []).length<=mR l
 |[],j=>bY
 |a::r,0=>by simp only[mR,aY,dy,List.getD_cons_zero];omega
 |a::r,j+1=>by have:=iA r j;simp only[mR,aY,dy,List.getD_cons_succ]at this⊢;omega
def a2r:bG:=(66,[tbC])::a2p
def a2s:=kA 66 tbC a2q tbA (∀(a:Tm)(e:Int)(f:List Tm)(c:KV)Q,let z:=aO Ty.st (vl (a.1,a.2.1,())) c;bg tbC (a,e,f,c,()) Q->mR a.2.1<=1099511627776/\Br (z.getD (0:Int)==0) (Is (tbI a e f c (vl (a.1,a.2.1,()),a.2.1,nI a.2.1,0,e,f,c,a.1,a.2.1,[],()))/\∀(k:BL)(g:List BL)(h b l:Int)(i:List Tm)(m:KV)(j:BitVec 8)(n d:List BL),tbI a e f c (k,g,h,b,l,i,m,j,n,d,())->Bd (b<h) (iN b g/\(0+(gD g b []).length)*1<=mM/\(d.length+[gD g b []].length)*24<=mM/\am (b+1)/\Is (tbI a e f c (k,g,h,b+1,l,i,m,j,n,d++[gD g b []],())/\lN (h-(b+1)) (h-b))) ((i.length+[(j,d,())].length)*32<=mM/\Q ⟨0,nI (i++[(j,d,())]),l,dY Ty.st k (nI (i++[(j,d,())])) m,i++[(j,d,())],()⟩)) (Q ⟨0,z.getD 0,e,c,f,()⟩)) (by
 conv=>zeta
 unfold Bd Br gD iN lN mM nI bg;intro t d s m Q ⟨u,b⟩;obtain⟨v,A⟩:=u;have q:∀f g o,jV t s m=(f,g,o)->Q ⟨0,(f,d,o,g,())⟩:=λf g o e=>by rw[e]at b;exact b
 clear b;have B:=F3 t.2.1
 have w:∀j,((t.2.1.getD j []).length+0)*1<=140737488355328:=λj=>by
  have:=iA t.2.1 j;omega
 refine⟨v,λh=>⟨⟨rfl,rfl,rfl,rfl,rfl,rfl,rfl,rfl,0,rfl,aq _,rfl⟩,?_⟩,λh=>q _ _ _ (ae (aC.1 h))⟩;rintro k l n i C x y c D r ⟨rfl,rfl,rfl,rfl,rfl,rfl,rfl,rfl,j,rfl,E,rfl⟩;refine⟨λp=>?_,λp=>⟨?_,q _ _ _ ?_⟩⟩
 ·simp only[ai]at p;have a:j<t.2.1.length:=ac
  have F:=w j;simp only[aG,bd,bi];refine⟨ac,ac,ac,cv,⟨⟨rfl,rfl,rfl,rfl,rfl,rfl,rfl,rfl,j+1,rfl,ac,?_⟩,ac⟩⟩;rw[dR,an a];simp[bF,an a]
 ·simp only[bi];omega
 ·simp only[aj]at p;have e:j=t.2.1.length:=ac
  subst e;have z:Uq (vl t) y=0:=aS.1 h;rw[jV,ak z,bv];simp[P4])
def eqC:Ct:=⟨2,⟨[sB 0,sB 1],[]⟩,[⟨[sL 0],[]⟩],λ(a,b,_)=>one True (a==b,())⟩
def a2t:bG:=(106,[eqC])::a2r
def a2u:=kA 106 eqC a2s (cQ eqC 0) (∀(a b:BL)Q,bg eqC (a,b,()) Q->Q ⟨0,a==b,()⟩) (by
 unfold bg;intro a b Q ⟨_,c⟩;exact c)
def oY(t:Tm):Int:=if t.1=103 then 64 else if t.1=98 then((t.2.1.getD 3 []).length:Int)+16 else 32
def eB(t:Tm):Prop:=mR t.2.1<=1099511627776/\(t.1=98->4<=t.2.1.length)/\(t.1=103->2<=t.2.1.length)/\(t.1=118->1<=t.2.1.length)/\(t.1=112->1<=t.2.1.length/\mR t.2.1<=8589934592)
def fX(ts:List Tm):Prop:=ts.length<=4294967296/\∀t∈ts,eB t
def jH(t:Tm)(n:Int):BL:=(t.1::dB n)++ax ((oY t).toNat-9) 0
def szC:Ct:=⟨1,⟨[(0,true,[.d D6])],[]⟩,[⟨[sI 0],[]⟩],λ(t,_)=>one (eB t) (oY t,())⟩
def a2v:bG:=(372,[szC])::a2t
def a2w:=kA 372 szC a2u (cQ szC 0) (∀(a:Tm)Q,let b:=a.1==ag 8 98;let z:=a.1==ag 8 103;bg szC (a,()) Q->Br z (Q ⟨0,64,()⟩) (Br b (((0:Int)<=3/\3<nI a.2.1)/\am (nI (bF a.2.1 3 [])+16)/\Q ⟨0,nI (bF a.2.1 3 [])+16,()⟩) (Q ⟨0,32,()⟩))) (by
 clear T a b h j k m n r s
 conv=>zeta
 unfold Br nI bg;intro t Q ⟨c,a⟩;have b:∀y,oY t=y->Q ⟨0,(y,())⟩:=λy e=>by rw[e]at a;exact a
 clear a;obtain⟨g,f,_⟩:=c;have:=iA t.2.1 3;unfold am
 (repeat' (first|apply ck|intro _))<;>(try simp only[aS,aC]at*)<;>first|exact b _ (by clear b;grind[oY])|(have:=f (by assumption);omega)|omega)
theorem AF(t:Tm):16<=oY t:=by unfold oY;grind
theorem P6{t:Tm}(h:eB t):oY t<=1099511627800:=by
 have:=iA t.2.1 3;have:=h.1;unfold oY;grind
def cdC:Ct:=⟨2,⟨[(0,true,[.d D6]),sI 1],[]⟩,[oB],λ(t,n,_)=>one (eB t) (jH t n,())⟩
def a2x:bG:=(370,[cdC])::a2v
def a2y:=kA 370 cdC a2w (cQ cdC 0) (∀(a:Tm)(b:Int)Q,let z:=(a.1,a.2.1,());bg cdC (a,b,()) Q->True/\([a.1].length+ah (dB b))*1<=mM/\eB z/\am (oY z-9)/\(0<=oY z-9/\(([a.1]++dB b).length+(oY z-9).toNat)*1<=mM)/\Q ⟨0,[a.1]++dB b++ax (oY z-9).toNat (ag 8 0),()⟩) (by
 conv=>zeta
 unfold mM bg;intro t n Q ⟨a,b⟩;have c:∀y,y=jH t n->Q ⟨0,(y,())⟩:=λy e=>by rw[e];exact b
 clear b;have g:=AF t;have h:=P6 a;have i:=eK n;have f:(oY t-9).toNat=(oY t).toNat-9:=ac
 have e:oY (t.1,t.2.1,())=oY t:=rfl;rw[e,f];refine⟨trivial,by simp only[bi];omega,a,cv,⟨ac,by simp only[aa,bi];omega⟩,c _ rfl⟩)
def sU(i:Nat):Nat×Bool×List IP:=(i,false,[.d .u8])
def E5:Tm:=(0,[],())
def yN(b:BL):BitVec 64:=ag 64 0|||az 64 (b.getD 1 (ag 8 0))<<<0|||az 64 (b.getD 2 (ag 8 0))<<<8|||az 64 (b.getD 3 (ag 8 0))<<<16|||az 64 (b.getD 4 (ag 8 0))<<<24|||az 64 (b.getD 5 (ag 8 0))<<<32|||az 64 (b.getD 6 (ag 8 0))<<<40|||az 64 (b.getD 7 (ag 8 0))<<<48|||az 64 (b.getD 8 (ag 8 0))<<<56
def fi(b:BL)(k:BitVec 8)(ts:List Tm):Tm×Bool:=
 if b.length<9\/b.getD 0 0≠k then(E5,false)
 else if(yN b).toNat<1\/ts.length<(yN b).toNat then(E5,false)
 else(ts.getD ((yN b).toNat-1) E5,(ts.getD ((yN b).toNat-1) E5).1==k&&b==jH (ts.getD ((yN b).toNat-1) E5) (yN b).toNat)
def Ur:Ct:=⟨3,⟨[sP 0,sB 1,sU 2],nB⟩,[⟨[(0,true,[.d D6]),sL 1],nB⟩],λ(b,k,d,a,m,_)=>one (b.length<=1099511627776/\fX a) ((fi b k a).1,(fi b k a).2,d,a,m,())⟩
theorem Cm(h:k<=4294967296):(bf 64 (k:Int)).toNat=k:=by
 rw[BitVec.ofInt_natCast,BitVec.toNat_ofNat];omega
theorem a2z{v:BitVec 64}(h:1<=v.toNat):(v-ag 64 1).toNat=v.toNat-1:=by
 rw[BitVec.toNat_sub];have:=v.isLt;have e:(ag 64 1).toNat=1:=rfl;omega
abbrev Us(v:Tm×Bool×Int×List Tm×KV×Unit):cF Ur.out:=⟨0,v⟩
def a20:bG:=(368,[Ur])::a2x
def a21:=kA 368 Ur a2y (cQ Ur 9) (∀(a:BL)(c:BitVec 8)(d:Int)(b:List Tm)(e:KV)Q,let j:= !a.getD 0 (ag 8 0)==c;let g:=Us ((ag 8 0,[],()),false,d,b,e,());let z:=ag 64 0|||az 64 (a.getD 1 (ag 8 0))<<<0|||az 64 (a.getD 2 (ag 8 0))<<<8|||az 64 (a.getD 3 (ag 8 0))<<<16|||az 64 (a.getD 4 (ag 8 0))<<<24|||az 64 (a.getD 5 (ag 8 0))<<<32|||az 64 (a.getD 6 (ag 8 0))<<<40|||az 64 (a.getD 7 (ag 8 0))<<<48|||az 64 (a.getD 8 (ag 8 0))<<<56;let i:=z-ag 64 1;let l:Prop:=(bf 64 (↑b.length:Int)).toNat<z.toNat;let f:=b.getD (↑i.toNat:Int).toNat (ag 8 0,[],());let h:=(f.1,f.2.1,());(Ct.spec Ur (a,c,d,b,e,())).sat Q->Br (decide ((↑a.length:Int)<9)) (Q g) (((0:Int)<=0/\0<(↑a.length:Int))/\Br j (Q g) (((0:Int)<=1/\1<(↑a.length:Int))/\((0:Int)<=2/\2<(↑a.length:Int))/\((0:Int)<=3/\3<(↑a.length:Int))/\((0:Int)<=4/\4<(↑a.length:Int))/\((0:Int)<=5/\5<(↑a.length:Int))/\((0:Int)<=6/\6<(↑a.length:Int))/\((0:Int)<=7/\7<(↑a.length:Int))/\((0:Int)<=8/\8<(↑a.length:Int))/\Br (decide (z.toNat<1)) (Q g) (Br (decide l) (Q g) ((0<=(↑i.toNat:Int)/\(↑i.toNat:Int)<(↑b.length:Int))/\Br (f.1==c) ((f.1==c)=true/\(f.1==c)=true/\(f.1==c)=true/\(f.1==c)=true/\eB h/\(f.1==c)=true/\True/\(f.1==c)=true/\Q ⟨0,h,a==jH h (IntKind.i64.wrap (↑z.toNat:Int)),d,b,e,()⟩) ((f.1==c)=false/\(f.1==c)=false/\(f.1==c)=false/\(f.1==c)=false/\(f.1==c)=false/\(f.1==c)=false/\Q ⟨0,h,false,d,b,e,()⟩)))))) (by
 conv=>zeta
 unfold Br;intro b k d f m Q ⟨⟨B,t⟩,j⟩;have c:∀l n,fi b k f=(l,n)->Q ⟨0,(l,n,d,f,m,())⟩:=λl n e=>by rw[e]at j;exact j
 clear j;have o:(ag 64 0|||az 64 (b.getD 1 (ag 8 0))<<<0|||az 64 (b.getD 2 (ag 8 0))<<<8|||az 64 (b.getD 3 (ag 8 0))<<<16|||az 64 (b.getD 4 (ag 8 0))<<<24|||az 64 (b.getD 5 (ag 8 0))<<<32|||az 64 (b.getD 6 (ag 8 0))<<<40|||az 64 (b.getD 7 (ag 8 0))<<<48|||az 64 (b.getD 8 (ag 8 0))<<<56)=yN b:=rfl;rw[o];clear o;obtain⟨u,w⟩:=t;have x:=Cm u;have p:=a2z (v:=yN b);unfold fi E5 at c;generalize yN b=v at c p;rw[x];simp only[ai,aj];refine⟨λh=>c _ _ (ak (.inl ac)),λh=>⟨ac,λi=>c _ _ (ak (.inr (cf i))),λi=>?_⟩⟩
 have g:¬(b.length<9\/b.getD 0 0≠k):=by
  rintro(g|g)
  ·omega
  ·exact g (cf i)
 rw[ae g]at c;clear i g;refine⟨ac,ac,ac,ac,ac,ac,ac,ac,λq=>c _ _ (ak (.inl q)),λq=>⟨λr=>c _ _ (ak (.inr r)),λr=>?_⟩⟩;have y:=p ac;rw[ae ac]at c;have z:IntKind.i64.wrap (v.toNat:Int)=v.toNat:=P1 _ ac;rw[y,z,aG];have s:eB (f.getD (v.toNat-1) (0,[],())):=w _ (by rw[aw,an ac];exact ls _);have A:v.toNat-1<f.length:=ac
 generalize C:f.getD (v.toNat-1) (0,[],())=T at c s;refine⟨ac,λa=>⟨a,a,a,a,s,a,trivial,a,c _ _ ?_⟩,λa=>⟨a,a,a,a,a,a,c _ _ ?_⟩⟩
 ·rw[a,lx]
 ·rw[a,Bool.false_and])
theorem tj{k:BitVec 8}{ts:List Tm}(a:fX ts)(h:(fi b k ts).2=true):eB (fi b k ts).1/\(fi b k ts).1.1=k:=by
 unfold fi at h⊢;split at h
 ·simp at h
 ·rename_i c;split at h
  ·simp at h
  ·rename_i e;rw[ae c,ae e];simp only[aK,aS]at h;refine⟨a.2 _ ?_,h.1⟩;have:(yN b).toNat-1<ts.length:=ac
   rw[aw,an this];exact ls _
end Go.Tp
