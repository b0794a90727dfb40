/- A part of the proof of TopSealedSaid: no conditions; packed by a program of our own. -/
import Derived.Test.YtgpideichgnmhaaGreatPbae
import Derived.Scope
import Derived.ScopeJumps
import Derived.ProofKit
import Derived.OpenShut
import Derived.SizedLaws
import Derived.Carry
import Derived.Test.YtgpideichgnmhaaGreatProg
import Derived.Laws.Bits128
import Derived.Laws.BitsLemmas
open And renaming intro→cc
open Array renaming getElem?_eq_some_iff→eg
open BitVec renaming ofInt→bi,ofNat→ae,setWidth→ax
open Bool renaming and_eq_true→aI,true_and→fp,not_eq_true'→aP,not_eq_true→cd,not_eq_false'→aK
open Go.Instr renaming sureAddr→rY
open Go.IntKind renaming wrap_i64→dm,i64→gO
open Go.Result renaming ok→og,andThen_ok→aX
open Go.Sem renaming run_pure→bA,run_bind→bF
open Go.World renaming size_alloc→dX
open Int renaming toNat_natCast→aF,eq_ofNat_of_zero_le→bR
open List renaming map_cons→aY,replicate→ak,length_append→aa,length_cons→ba,drop_of_length_le→bC,take_of_length_le→bf,append_nil→aW,mem_cons→bt,getElem?_eq_getElem→ap,getD→bB,getElem?_append_left→bU,getElem?_append_right→aU,drop_drop→jz,take_append_drop→dI,length_take→be,length→ah,range→kz,getD_eq_getElem?_getD→aw,length_nil→de,range'→pA,mem_cons_self→aG,mem_cons_of_mem→aA,all_eq_true→cU,nodup_cons→mn,getElem?_eq_some_iff→cy,getElem_mem→kB,mem_append_left→cL,mem_singleton→cf,length_drop→cI,take→cM,length_singleton→bh,sum_cons→dg,take_add_one→dW,take_length→br
open Nat renaming lt_of_lt_of_le→bu,add_comm→eJ,le_refl→aD,le_trans→bq,zero_add→bN,zero_le→aq,add_assoc→eO,lt_or_ge→bI
open Option renaming map_eq_some_iff→mj,isSome_iff_exists→cJ,getD_some→di
open UInt8 renaming ofBitVec→iE
namespace Go.Hv
open Go.RowKit
section
theorem F2.last{α β:Type}{R:α->β->Prop}:∀{m:List β}{l:List α}{x:β},F2 R l (m++[x])->F2 R l.dropLast m/\∃v,l.getLast?=some v/\R v x
 |[],[],_,h=>h.elim
 |[],[v],_,h=>⟨trivial,v,rfl,h.1⟩
 |[],_::_::_,_,h=>h.2.elim
 |_::_,[],_,h=>h.elim
 |b::m,[v],_,h=>by
  have:=F2.length h;simp at this
 |b::m,a::c::l,x,h=>by
  obtain⟨e,v,f,g⟩:=F2.last (m:=m) (l:=c::l) (x:=x) h.2;exact⟨⟨h.1,e⟩,v,by rw[List.getLast?_cons_cons];exact f,g⟩
theorem wU{R:V->Value->Prop}:∀(ps:List Tmp)(vs:List V)(us:List Value){slots:List V}{t:Array Value},F2 R slots t.toList->F2 R vs us->
 F2 R (Am slots (ps.zip vs)) ((ps.zip us).foldl (λt(p:Tmp×Value)=>t.setIfInBounds p.1 p.2) t).toList
 |[],_,_,_,_,h,_=>h
 |_::_,[],[],_,_,h,_=>h
 |_::_,[],_::_,_,_,_,a=>a.elim
 |_::_,_::_,[],_,_,_,a=>a.elim
 |p::ps,v::vs,u::us,slots,t,h,a=>by
  refine wU ps vs us (slots:=slots.set p v) (t:=t.setIfInBounds p u) ?_ a.2;rw[Array.toList_setIfInBounds];exact F2.set h p a.1
theorem rr:∀(l:List (Tmp×Value))(t:Array Value),(l.foldl (λt(p:Tmp×Value)=>t.setIfInBounds p.1 p.2) t).size=t.size
 |[],_=>rfl
 |p::l,t=>by rw[List.foldl_cons,rr l];simp
theorem wy.mvL{B:eP}{l:Nat}{r:Loop}{ρ ρ':Nat->Pl}{w w':World}{h h':Nat->Option Ch}{f:List Deferred}(i:wy B ρ w h f)(a:Dk l ρ w h ρ' w' h')(j:w.heap[l]?=some (.loop r)):wy B ρ' w' h' f:=
 let⟨z,e,m,n⟩:=i
 ⟨z,e,m,λD o=>let⟨p,s,b,c,g⟩:=n D o;⟨p,s,bu b a.size,(a.block D b (λe=>by subst e;rw[j]at c;cases c) g).trans c,λq=>g (a.own D b q)⟩⟩
section
variable{P:Program}{Γ:bw}{R:Nat}{B:eP}{J:It}{Q:Kn}{σ:St}
theorem TI.yield(hΓ:aQ P Γ){id:Nat}{ops:Array Oper}{x r:List Oper}{o:Oper}{f:Operand}{args:Array Operand}(hs:oF ops.toList=some (x,o,f,args,r))
 (h:vcY P Γ J.n J.ps J.asg J.body ops x o f args r σ Q):TI P R B J (.region id ops false) σ Q:=by
 intro ρ a w m hr;obtain⟨⟨h1,h2,h3⟩,h⟩:=h;obtain⟨hl,ty,b5⟩:=tN hs;have a4:∀y∈ops.toList,oD y=true:=λy N=>cU.1 h1 y N;have O:∀i:Nat,ops[i]?=(x++o::r)[i]?:=λi=>by rw[<-hl];simp
 have b6:ops.size=x.length+(1+r.length):=by have:=aH ah hl;simp at this;omega
 rw[<-wpIn_wide (n:=0)];refine wpIn_region (F:=gW none) ?_
 have b7:kz ops.size=pA 0 x.length++(x.length::pA (x.length+1) r.length):=by
  rw[List.range_eq_range',b6,<-List.range'_append_1,bN,eJ 1 r.length,List.range'_succ]
 rw[b7];refine pY hΓ (ro:=none) x 0 ⟨σ.slots.take J.n,σ.heap,σ.next⟩ ρ a w (λy N=>a4 y (by rw[hl];exact cL _ N)) (λi y hi=>by rw[bN,O,bU (cy.1 hi).1];exact hi) hr.sub (bX ?_ h);intro g hq ρ1 E w1 a6 G;have c:=hr.back a6 G;split at hq
 case h_2=>exact hq.elim
 rename_i l1 l2 b8 b9 c0;obtain⟨rfl,hv⟩:=hq;have tl:=F2.imp (λ_ _=>aT.evo G.mv.evo a6) hr.sl.2;generalize hT:σ.slots.drop J.n=T at*;obtain⟨t1,v,t2,t3⟩:=F2.last tl;obtain⟨t4,v5,t5,t6⟩:=F2.last t1;rw[c0]at t5;have t5:=Option.some.inj t5;subst t5
 have c1:l1=J.l:=by
  have:=aJ.1 t6;simp[bj,Rd]at this;exact this.symm
 subst c1;rw[b9]at t2;have t2:=Option.some.inj t2;subst t2
 have c2:m=0:=by
  have:=aJ.1 t3;simp[bj,Sc.val]at this;exact this
 subst c2
 have c3:E.eval f= .func (.yield J.l) #[] #[]:=by
  have:=fC G.slots f;rw[b8]at this;have:=aJ.1 this;simp[bj,Rd]at this;exact this
 have s:ops[x.length]?=some o:=by rw[O,aU (aD _),Nat.sub_self];rfl
 rw[wpOpsIn_cons];unfold wpOpIn;simp only[s];rw[am (by simp[Region.wanted,h2])];refine⟨λ_ _=>trivial,?_⟩
 have a7:(o.semAt (gW none).round E.eval).run P w1= .ok (.round J.l J.fn ((J.ps.zip (args.map E.eval)).foldl (λA(t,a)=>A.setIfInBounds t a) J.tmps) J.asg J.body) w1:=by
  have N:=run_yield (P:=P) (args:= #[]++args.map E.eval) c.rc (by simp[It.rcd,h3]);rw[show(gW none).round=none from rfl,Oper.semAt_none];simp only[execOp,b5,resolve,c3,Deferred.ofValue,bF,bA,aX,invoke];rw[N];simp[It.rcd]
 rw[a7,Oper.uponIn_round];refine⟨rp,roundIn_of_wpIn trivial ?_⟩
 have S:(J.ps.zip (args.map E.eval)).foldl (λA(t,a)=>A.setIfInBounds t a) J.tmps=(J.ps.toList.zip (args.toList.map E.eval)).foldl (λt(p:Tmp×Value)=>t.setIfInBounds p.1 p.2) J.tmps:=by
  rw[<-Array.foldl_toList];simp
 rw[S]
 have rc:fv g.next ⟨B.F,ρ1,w1,aV g.heap,J.tmps.size,false⟩ ⟨Am T.dropLast.dropLast (J.ps.toList.zip (args.toList.map (dt g.slots))),g.heap,g.next⟩ ρ1 {tmps:=(J.ps.toList.zip (args.toList.map E.eval)).foldl (λt(p:Tmp×Value)=>t.setIfInBounds p.1 p.2) J.tmps,defers:=[]} w1:=
  ⟨.nil rfl,wU _ _ _ t4 (jK (λy=>fC G.slots y) _),G.heap,Mv.refl _ _ _,G.fresh,λ_ _=> .inl rfl,aD _,rr _ _⟩
 refine wpIn_mono (F:=gW (some J.l)) (D8 (ro:=some J.l) hΓ J.asg _ _ hv _ ρ1 _ w1 rc) ?_;rintro e a2 w2 ⟨s2,ρ2,q2,c4,C⟩;cases e with
 |normal=>
  have U:w2.heap[J.l]?=some (.loop (J.rcd 0)):=(C.mv.block J.l c.lt c.no).trans c.rc;have W:¬oW ρ2 (aV s2.heap) J.l:=λq=>c.no (C.mv.own J.l c.lt q);have H:J.l<w2.heap.size:=bu c.lt C.mv.size;refine⟨_,run_beginRound U rfl,?_⟩;generalize X:({J.rcd 0 with state:= .busy}:Loop)=K;obtain⟨c5,a8⟩:=C.heap.put (.loop K) (λo s=>by rw[U]at s;cases s;rfl) W;have c6:a2.defers=[]:=C.defers.no rfl
  have rb:fv s2.next ⟨B.F,ρ2,w2.putObj J.l (.loop K),aV s2.heap,a2.tmps.size,false⟩ s2 ρ2 a2 (w2.putObj J.l (.loop K)):=
   ⟨.nil c6,F2.imp (λ_ _=>aT.evo (a8.evo (λo s=>by rw[U]at s;cases s;rfl)) (dR.refl _)) C.slots,c5,Mv.refl _ _ _,C.fresh,λ_ _=> .inl rfl,aD _,rfl⟩
  refine wpIn_mono (F:=gW (some J.l)) (D8 (ro:=some J.l) hΓ J.body _ _ q2 _ ρ2 a2 _ rb) ?_;rintro e3 a3 w3 ⟨Y,ρ3,q3,c7,L⟩;have a9:(w2.putObj J.l (.loop K)).heap[J.l]?=some (.loop K):=World.putObj_heap_same H;have j:J.l<(w2.putObj J.l (.loop K)).heap.size:=by rw[World.putObj_size];exact H
  have b0:w3.heap[J.l]?=some (.loop K):=(L.mv.block J.l j W).trans a9;have b1:¬oW ρ3 (aV Y.heap) J.l:=λq=>W (L.mv.own J.l j q);have b2:J.l<w3.heap.size:=bu j L.mv.size
  have fin:∀(b:Option Code)(u:Nat),({K with state:=if b.isNone then .ready else .done,pending:=b}:Loop)=J.rcd u->
   (jb P Γ ops r ⟨eZ g.slots o.dst (V.val false [.k (.bool b.isNone)]),Y.heap,Y.next⟩).sat (λs4=>Q .normal ⟨s4.slots++(T.dropLast++[V.val false [.k (.i64 (u:Int))]]),s4.heap,s4.next⟩)->
   ∃v z,(Instr.endRound J.l b).run P w3= .ok v z/\wpOpsIn (gW none) 0 P ops (λe a' z=>∃σ' ρ' m',Q e σ'/\iw R B J σ' ρ' a' z m') (pA (x.length+1) r.length) (E.put o.dst v) z:=by
   intro b u b3 hq;refine⟨_,_,run_endRound b b0,?_⟩;rw[b3];obtain⟨c8,c9⟩:=L.heap.put (.loop (J.rcd u)) (λo s=>by rw[b0]at s;cases s;rfl) b1;have ch:Dk J.l ρ1 w1 (aV g.heap) ρ3 (w3.putObj J.l (.loop (J.rcd u))) (aV Y.heap):=C.mv.toL.trans (a8.trans (L.mv.toL.trans c9));have ev:=ch.evo (F:=B.F) (λo s=>by have hc:=c.rc;rw[hc]at s;cases s;rfl);have hx:dR ρ1 ρ3:=c4.trans c7;have a0:g.slots.length=J.n:=by rw[F2.length G.slots];simpa using c.sz
   have D:(eZ g.slots o.dst (V.val false [.k (.bool b.isNone)])).length=J.n:=by cases o.dst<;>simp[eZ,a0]
   have d0:F2 (aT (w3.putObj J.l (.loop (J.rcd u))) (Av B.F ρ3 (aV Y.heap)) ρ3) (eZ g.slots o.dst (V.val false [.k (.bool b.isNone)])) (E.put o.dst (.bool b.isNone)).tmps.toList:=
    nJ (F2.imp (λ_ _=>aT.evo ev hx) G.slots) o.dst (aJ.2 rfl)
   have b4:iw R B J ⟨eZ g.slots o.dst (V.val false [.k (.bool b.isNone)])++(T.dropLast++[V.val false [.k (.i64 (u:Int))]]),Y.heap,Y.next⟩ ρ3 (E.put o.dst (.bool b.isNone)) (w3.putObj J.l (.loop (J.rcd u))) u:=by
    refine⟨⟨c.rel.defers.mvL ch c.rc,?_,c8,c.rel.mv.transL ch c.ge,L.fresh,tM c.rel.root (n:=g.next) (λk hk=>?_) c.rel.rn,?_,?_⟩,?_,?_,World.putObj_heap_same b2,c.ge,b1⟩
    ·rw[It.act_list];exact F2.append d0 (F2.append (F2.imp (λ_ _=>aT.evo ev hx) t1) ⟨aJ.2 rfl,trivial⟩)
    ·rcases L.root k (bu hk C.rn)with e|e
     ·rw[e];exact C.root k hk
     ·exact .inr e
    ·exact bq c.rel.rn (bq C.rn L.rn)
    ·have h1:=c.rel.len;rw[rq]at h1⊢;rw[jp];exact h1
    ·cases o.dst<;>exact c.df
    ·rw[jp];exact c.sz
   have d1:(eZ g.slots o.dst (V.val false [.k (.bool b.isNone)])++(T.dropLast++[V.val false [.k (.i64 (u:Int))]])).take J.n=eZ g.slots o.dst (V.val false [.k (.bool b.isNone)]):=by rw[<-D,List.take_left]
   have d2:(eZ g.slots o.dst (V.val false [.k (.bool b.isNone)])++(T.dropLast++[V.val false [.k (.i64 (u:Int))]])).drop J.n=T.dropLast++[V.val false [.k (.i64 (u:Int))]]:=by rw[<-D,List.drop_left]
   have M:=b4.sub;simp only[d1]at M
   have:=pY hΓ (ro:=none) (n:=0) (rest:=[]) (ops:=ops) (Q:=λe a' z=>∃σ' ρ' m',Q e σ'/\iw R B J σ' ρ' a' z m') r (x.length+1) _ ρ3 _ _ (λy N=>a4 y (by rw[hl];exact List.mem_append_right _ (aA _ N))) (λi y hi=>by rw[O,aU (by omega),show x.length+1+i-x.length=i+1 by omega,List.getElem?_cons_succ];exact hi) M
    (bX (λs4 q ρ5 a5 w5 d3 r5=>by
     have:=b4.back d3 r5;rw[d2]at this;exact⟨_,ρ5,u,q,this⟩) hq)
   rw[aW]at this;exact this
  cases e3 with
  |normal=>
   obtain⟨v,z,g1,g2⟩:=fin none 0 (by rw[<-X];rfl) q3;exact⟨v,z,g1,g2⟩
  |ret=>
   obtain⟨v,z,g1,g2⟩:=fin (some .ret) 1 (by rw[<-X];rfl) q3;exact⟨v,z,g1,g2⟩
  |exit i=>
   obtain⟨v,z,g1,g2⟩:=fin (some (.exit i)) (i+2) (by rw[<-X];simp[It.rcd,D9]) q3;exact⟨v,z,g1,g2⟩
  |_=>exact q3.elim
 |_=>exact q2.elim
end
end
section
def cOk(n:Nat):Operand->Bool
 | .tmp t=>decide (t<n)
 |_=>true
section
variable(P:Program)(Γ:bw)(R N:Nat)(A:dB)(n:Nat)(ps:Array Tmp)(asg body:Code)
def mr:Code->Option Nat->St->Kn->Prop
 | .skip,none,s,Q=>Q .normal s
 | .region _ i h,none,s,Q=>match oF i.toList with
   |some (x,o,f,args,r)=>h=false/\vcY P Γ n ps asg body i x o f args r s Q
   |none=>(I4 P Γ i h ⟨s.slots.take n,s.heap,s.next⟩).sat λe=>Q .normal ⟨e.slots++s.slots.drop n,e.heap,e.next⟩
 | .seq x y,none,s,Q=>match tL A.joins ((gQ y).map (·+1000))with
   |some c=>mr x none s (fF (λe=>fw R c e c.inv) Q)/\jP c.ps (λo=>c.inv o->mr y none (fd c.ps N o) Q) c.ps.length 0
   |none=>mr x none s (fF (λe=>mr y none e Q) Q)
 | .seq x y,some g,s,Q=>if(findLabel x g).isSome then mr x (some g) s (fF (λe=>mr y none e Q) Q)else mr y (some g) s Q
 | .cond c x y,none,s,Q=>cOk n c=true/\match dt s.slots c with
   | .val false [.k (.bool true)]=>mr x none s Q
   | .val false [.k (.bool false)]=>mr y none s Q
   | .val false [.d .bl b]=>(b=true->mr x none (ld s c true) Q)/\(b=false->mr y none (ld s c false) Q)
   |_=>False
 | .block id c,none,s,Q=>mr c none s (pq id Q)
 | .scope c,none,s,Q=>match tL A.jumps (gQ c)with
   |some (g,cut)=>(findLabel c g).isSome=true/\mr c none s (kf g (λe=>fw R cut e cut.inv) Q)/\
    jP cut.ps (λo=>cut.inv o->mr c (some g) (fd cut.ps N o) (kf g (λe=>fw R cut e λj=>cut.inv j/\cut.mu j<cut.mu o) Q)) cut.ps.length 0
   |none=>mr c none s (I5 Q)
 | .label _,none,s,Q=>Q .normal s
 | .label l,some g,s,Q=>if l==g then Q .normal s else False
 | .goto g,none,s,Q=>Q (.goto g) s
 | .exit id,none,s,Q=>Q (.exit id) s
 | .ret,none,s,Q=>Q .ret s
 |_,_,_,_=>False
end
section
variable{P:Program}{Γ:bw}{R:Nat}{B:eP}{J:It}{A:dB}{Q:Kn}{σ:St}{ρ:Nat->Pl}{a:Act}{w:World}{m N:Nat}
theorem TI.seq{x y:Code}(h:TI P R B J x σ (fF (λσ'=>TI P R B J y σ' Q) Q)):TI P R B J (.seq x y) σ Q:=by
 intro ρ a w m c;refine wp_seq (wp_mono (h ρ a w m c) ?_);rintro e f g ⟨σ',ρ',b,q,r⟩;cases e with
 |normal=>exact q ρ' f g b r
 |_=>exact⟨σ',ρ',b,q,r⟩
theorem TI.mono{c:Code}{b:Kn}(h:TI P R B J c σ Q)(f:∀e σ,Q e σ->b e σ):TI P R B J c σ b:=
 λρ a w m g=>wp_mono (h ρ a w m g) λe _ _⟨σ',ρ',i,q,r⟩=>⟨σ',ρ',i,f e σ' q,r⟩
theorem iw.enter{ps:List cg}{y:cw ps}(b:iw R B J σ ρ a w m)(c:B.n=N)(h:rk R σ ps=some y):∃ρ',iw R B J (fd ps N y) ρ' a w m:=by
 obtain⟨ρ',e,f⟩:=rl b.rel c h;exact⟨ρ',e,b.df,b.sz,b.rc,b.ge,λq=>b.no (f J.l b.lt q)⟩
theorem TI.enter{c:Code}{cut:tJ}{y:cw cut.ps}(e:B.n=N)(f:rk R σ cut.ps=some y)(h:TI P R B J c (fd cut.ps N y) Q):TI P R B J c σ Q:=λρ a w m g=>
 let⟨ρ',b⟩:=g.enter e f
 h ρ' a w m b
theorem TI.block{id:Nat}{c:Code}(h:TI P R B J c σ (pq id Q)):TI P R B J (.block id c) σ Q:=by
 intro ρ a w m f;refine wp_block (wp_mono (h ρ a w m f) ?_);rintro e i j ⟨σ',ρ',b,q,r⟩;cases e with
 |exit g=>
  simp only[Exit.inBlock];simp only[pq]at q;split
  ·rename_i e;rw[am e]at q;exact⟨σ',ρ',b,q,r⟩
  ·rename_i e;rw[af e]at q;exact⟨σ',ρ',b,q,r⟩
 |_=>exact⟨σ',ρ',b,q,r⟩
theorem TI.scope{c:Code}(h:TI P R B J c σ (I5 Q)):TI P R B J (.scope c) σ Q:=by
 intro ρ a w m b;refine wp_scope_straight (wp_mono (h ρ a w m b) ?_);rintro e g i ⟨σ',ρ',f,q,r⟩;cases e with
 |goto l=>exact q.elim
 |_=>exact⟨σ',ρ',f,q,r⟩
theorem TI.scopeJ{c rest:Code}{l:Nat}{cut:tJ}(L:B.n=N)(U:findLabel c l=some rest)(first:TI P R B J c σ (kf l (λs'=>fw R cut s' cut.inv) Q))
 (v:∀o:cw cut.ps,o.1<cut.ps.length->cut.inv o->TI P R B J rest (fd cut.ps N o) (kf l (λs'=>fw R cut s' λo'=>cut.inv o'/\cut.mu o'<cut.mu o) Q)):TI P R B J (.scope c) σ Q:=by
 intro ρ a w m y b k x;have M:gotoIn l (.inScope c::k)=some (.code rest:: .inScope c::k):=by simp[gotoIn,U]
 have key:∀z(o:cw cut.ps)ρ a w m,cut.mu o=z->o.1<cut.ps.length->cut.inv o->iw R B J (fd cut.ps N o) ρ a w m->
  ∃e O S,(∃σ' ρ' W,Q e σ'/\iw R B J σ' ρ' O S W)/\Arrives P (lone (b.at a (.code rest:: .inScope c::k)) x w) b k x e O S:=by
  intro z
  induction z using Nat.strongRecOn with
  |_ z X=>
   intro o ρ a w m hm C Y y;obtain⟨e,j,p,⟨σ1,ρ1,q,h,g⟩,f⟩:=v o C Y ρ a w m y b (.inScope c::k) x;cases e with
   |normal=>exact⟨.normal,j,p,⟨σ1,ρ1,q,h,g⟩,Steps.trans f (.one step_inScope)⟩
   |exit id=>exact⟨.exit id,j,p,⟨σ1,ρ1,q,h,g⟩,λD E=>f D (by simp[exitTo,E])⟩
   |goto l'=>
    simp only[kf]at h;split at h
    case isFalse=>exact h.elim
    rename_i F;subst F;obtain⟨o',r,s,a0⟩:=fN h;obtain⟨ρ2,t⟩:=g.enter L r;have:=dp r;obtain⟨G,H,K,u,i⟩:=X _ (by omega) o' ρ2 j p q rfl (by omega) s t;exact⟨G,H,K,u, .of_steps (f _ M) i⟩
   |ret=>exact⟨_,j,p,⟨σ1,ρ1,q,h,g⟩,f⟩
   |panic ch=>exact⟨_,j,p,⟨σ1,ρ1,q,h,g⟩,f⟩
   |outgrown=>exact⟨_,j,p,⟨σ1,ρ1,q,h,g⟩,f⟩
 obtain⟨e,j,p,⟨σ1,ρ1,q,h,g⟩,f⟩:=first ρ a w m y b (.inScope c::k) x
 cases e with
 |normal=>exact⟨.normal,j,p,⟨σ1,ρ1,q,h,g⟩, .head step_scope (Steps.trans f (.one step_inScope))⟩
 |exit id=>exact⟨.exit id,j,p,⟨σ1,ρ1,q,h,g⟩,λD E=> .head step_scope (f D (by simp[exitTo,E]))⟩
 |goto l'=>
  simp only[kf]at h;split at h
  case isFalse=>exact h.elim
  rename_i F;subst F;obtain⟨o',r,s⟩:=fN h;obtain⟨ρ2,t⟩:=g.enter L r;have:=dp r;obtain⟨G,H,K,u,i⟩:=key _ o' ρ2 j p q rfl (by omega) s t;exact⟨G,H,K,u, .of_steps (.head step_scope (f _ M)) i⟩
 |ret=>exact⟨_,j,p,⟨σ1,ρ1,q,h,g⟩, .of_steps (.one step_scope) f⟩
 |panic ch=>exact⟨_,j,p,⟨σ1,ρ1,q,h,g⟩, .of_steps (.one step_scope) f⟩
 |outgrown=>exact⟨_,j,p,⟨σ1,ρ1,q,h,g⟩, .of_steps (.one step_scope) f⟩
theorem Ea{c:Operand}(b:cOk a.tmps.size c=true):(J.act a m).eval c=a.eval c:=by
 cases c with
 |tmp t=>
  have e:t<a.tmps.size:=ag b;simp only[Act.eval,It.act,Array.getD_eq_getD_getElem?];rw[Array.getElem?_append_left e]
 |_=>rfl
def TIF(P:Program)(R:Nat)(B:eP)(J:It)(c:Code)(fr:Option Nat)(σ:St)(Q:Kn):Prop:=match fr with
 |none=>TI P R B J c σ Q
 |some l=>∀b,findLabel c l=some b->TI P R B J b σ Q
theorem Qz(K:aQ P Γ)(hL:bg Γ)(U:P.follows .mixedOrders=true)(L:B.n=N):∀(c:Code)(fr:Option Nat)(σ:St)(Q:Kn),mr P Γ R N A J.n J.ps J.asg J.body c fr σ Q->TIF P R B J c fr σ Q:=by
 intro c
 induction c with
 |skip=>
  intro fr σ Q h;cases fr with
  |none=>exact λρ _ _ m i=>wp_skip ⟨σ,ρ,m,h,i⟩
  |some l=>exact λ_ g=>by simp[findLabel]at g
 |region id W M=>
  intro fr σ Q h;cases fr with
  |some l=>exact λ_ g=>by simp[findLabel]at g
  |none=>
   simp only[mr]at h;split at h
   ·rename_i x o f args r t;obtain⟨rfl,h⟩:=h;exact TI.yield K t h
   ·exact TI.region K hL U h
 |seq x y p j=>
  intro fr σ Q h;cases fr with
  |none=>
   simp only[mr]at h;split at h
   ·rename_i cut v;obtain⟨C,D⟩:=h;refine TI.seq ((p none _ _ C).mono ?_);intro e σ' s;cases e with
    |normal=>
     obtain⟨o,O,E⟩:=fN s;have F:=dp O;exact TI.enter L O (j none _ _ (gu D o (by omega) (by omega) E))
    |_=>exact s
   ·refine TI.seq ((p none _ _ h).mono ?_);intro e σ' s;cases e with
    |normal=>exact j none _ _ s
    |_=>exact s
  |some l=>
   intro q g;simp only[mr]at h;simp only[findLabel]at g;split at h
   ·rename_i t;split at g
    ·rename_i r i;simp at g;subst g;refine TI.seq ((p (some l) _ _ h r i).mono ?_);intro e σ' s;cases e with
     |normal=>exact j none _ _ s
     |_=>exact s
    ·rename_i i;rw[i]at t;simp at t
   ·rename_i t;split at g
    ·rename_i r i;rw[i]at t;simp at t
    ·exact j (some l) _ _ h q g
 |cond c x y p j=>
  intro fr σ Q h;cases fr with
  |some l=>exact λ_ g=>by simp[findLabel]at g
  |none=>
   simp only[mr]at h;obtain⟨G,h⟩:=h;intro ρ a w m i;have H:(J.act a m).eval c=a.eval c:=Ea (by rw[i.sz];exact G);have v:=wT (P:=P) i.rel (c:=c);rw[H]at v;split at h
   ·rename_i z;exact wp_cond_true (v.1 _ z) (p none _ _ h ρ a w m i)
   ·rename_i z;exact wp_cond_false (v.1 _ z) (j none _ _ h ρ a w m i)
   ·rename_i b z;obtain⟨X,Y⟩:=v.2 b z;have ek:aV (ld σ c b).heap=aV σ.heap:=by cases c<;>rfl
    have S:iw R B J (ld σ c b) ρ a w m:=⟨Y,i.df,i.sz,i.rc,i.ge,by rw[ek];exact i.no⟩;refine wp_cond_split X (λe=>?_) (λe=>?_)
    ·subst e;exact p none _ _ (h.1 rfl) ρ a w m S
    ·subst e;exact j none _ _ (h.2 rfl) ρ a w m S
   ·exact h.elim
 |block id c u=>
  intro fr σ Q h;cases fr with
  |some l=>exact λ_ g=>by simp[findLabel]at g
  |none=>exact TI.block (u none _ _ h)
 |scope c u=>
  intro fr σ Q h;cases fr with
  |some l=>exact λ_ g=>by simp[findLabel]at g
  |none=>
   simp only[mr]at h;split at h
   ·rename_i l cut _;obtain⟨C,D,h3⟩:=h;rw[cJ]at C;obtain⟨q,g⟩:=C;exact TI.scopeJ L g (u none _ _ D) λo F E=>u (some l) _ _ (gu h3 o (by omega) (by omega) E) q g
   ·exact TI.scope (u none _ _ h)
 |label l'=>
  intro fr σ Q h;cases fr with
  |none=>exact λρ _ _ m i=>wp_label ⟨σ,ρ,m,h,i⟩
  |some l=>
   intro q g;simp only[mr]at h;split at h
   ·rename_i e;simp only[findLabel,e,if_true,Option.some.injEq]at g;subst g;exact λρ _ _ m i=>wp_skip ⟨σ,ρ,m,h,i⟩
   ·exact h.elim
 |exit id=>
  intro fr σ Q h;cases fr with
  |some l=>exact λ_ g=>by simp[findLabel]at g
  |none=>exact λρ _ _ m i=>wp_exit ⟨σ,ρ,m,h,i⟩
 |goto l=>
  intro fr σ Q h;cases fr with
  |some l=>exact λ_ g=>by simp[findLabel]at g
  |none=>exact λρ _ _ m i=>wp_goto ⟨σ,ρ,m,h,i⟩
 |ret=>
  intro fr σ Q h;cases fr with
  |some l=>exact λ_ g=>by simp[findLabel]at g
  |none=>exact λρ _ _ m i=>wp_ret ⟨σ,ρ,m,h,i⟩
 |loop c u=>intro fr σ Q h;cases fr<;>simp[mr]at h
 |rangeFunc f ps x y p j=>intro fr σ Q h;cases fr<;>simp[mr]at h
 |refuse a0=>intro fr σ Q h;cases fr<;>simp[mr]at h
end
end
section
def yN(n:Nat)(Q:Kn):Kn:=λe s=>match e with
 | .normal=>fin s
 | .ret=>fin s
 |_=>False
where fin (s:St):Prop:=match(s.slots.drop n).getLast? with
 |some (.val false [.k (.i64 m)])=>if m=0 then Q .normal ⟨(s.slots.drop n).dropLast.dropLast,s.heap,s.next⟩else if m=1 then Q .ret ⟨(s.slots.drop n).dropLast.dropLast,s.heap,s.next⟩else Q (.exit (m-2).toNat) ⟨(s.slots.drop n).dropLast.dropLast,s.heap,s.next⟩
 |_=>False
def uQ(P:Program)(f:FuncId):Func:=(P.funcs[f]?).getD default
def uR(P:Program)(Γ:bw)(R N:Nat)(A:dB)(g:Operand)(ps:Array Tmp)(b a:Code)(s:St)(Q:Kn):Prop:=
 match dt s.slots g with
 | .val false [.fn f [] cap]=>(eY P f=true/\1+cap.length<=(uQ P f).ntmps/\(uQ P f).results.toList.isEmpty=true)/\
   ∀l:Nat,mr P Γ R ((uQ P f).ntmps+(N+2)) A (uQ P f).ntmps ps b a ((uQ P f).body.getD .skip) none
    ⟨(sc (.d .yl l)::cap.map λp=>sc (.ptr p.1 p.2))++ak ((uQ P f).ntmps-(1+cap.length)) (.tup [])++((s.slots++[sc (.d .yl l)])++[sc (.k (.i64 0))]),s.heap,s.next⟩ (yN (uQ P f).ntmps Q)
 |_=>False
theorem F2.repl{w:World}{A:Nat->Prop}{ρ:Nat->Pl}:∀(m:Nat),F2 (aT w A ρ) (ak m (.tup [])) (ak m undef)
 |0=>trivial
 |m+1=>⟨ej,F2.repl m⟩
theorem F2.ptrs{w:World}{A:Nat->Prop}{ρ:Nat->Pl}:∀{l:List (Nat×Nat)}{vs:List Value},F2 (kH ρ) l vs->F2 (aT w A ρ) (l.map λp=>sc (.ptr p.1 p.2)) vs
 |[],[],_=>trivial
 |[],_::_,h=>h.elim
 |_::_,[],h=>h.elim
 |_::_,v::_,⟨a,h⟩=>⟨aJ.2 ⟨v,a,rfl⟩,F2.ptrs h⟩
section
variable{P:Program}{Γ:bw}{R N:Nat}{B:eP}{A:dB}{Q:Kn}{σ:St}
theorem Eb(hΓ:aQ P Γ)(hL:bg Γ)(hm:P.follows .mixedOrders=true){g:Operand}{ps:Array Tmp}{asg body:Code}{ρ:Nat->Pl}{a:Act}{w:World}(hN:B.n=N)(hk:B.dk=true)(hr:fv R B σ ρ a w)
 (h:uR P Γ R N A g ps asg body σ Q):(Code.rangeFunc g ps asg body).wp P (λe a' w'=>∃σ' ρ',Q e σ'/\fv R B σ' ρ' a' w') a w:=by
 unfold uR at h;split at h
 case h_2=>exact h.elim
 rename_i f cap hg;obtain⟨⟨hc,hn,hres⟩,h⟩:=h;have hgv:=fC hr.slots g;rw[hg]at hgv;obtain⟨fs,cs,e1,e2,e3⟩:=aJ.1 hgv;have e1:a.eval g= .func (.func f) fs.toArray cs.toArray:=by simpa using e1
 have hfs:fs=[]:=by cases fs with
  |nil=>rfl
  |cons _ _=>exact e2.elim
 subst hfs
 obtain⟨fn0,hf,hb0⟩:∃fn,P.funcs[f]?=some fn/\fn.body.isSome=true:=by
  unfold eY at hc;split at hc
  ·rename_i fn hf;rw[aI]at hc;exact⟨fn,hf,hc.2⟩
  ·cases hc
 have hfn:uQ P f=fn0:=by unfold uQ;rw[hf];rfl
 rw[hfn]at hn hres h;rw[cJ]at hb0;obtain⟨c,hb⟩:=hb0;rw[hb,di]at h;rw[<-wpIn_wide (n:=0)];refine wpIn_rangeFunc λfn _=>?_;have hrun:=run_enterLoop_outer (P:=P) (w:=w) fn a.tmps ps asg body;have hcl:cs.length=cap.length:=(F2.length e3).symm
 let w1:World:=(w.alloc (.deferred (some []))).alloc (.loop {state:= .ready,pending:=none,fn,tmps:=a.tmps,params:=ps,assign:=asg,body,defers:=w.heap.size})
 refine⟨w.heap.size+1,[mark w.heap.size],w1,⟨.fn (.func f) cs.toArray, #[.func (.yield (w.heap.size+1)) #[] #[]]⟩,w1,f, #[.func (.yield (w.heap.size+1)) #[] #[]]++cs.toArray,w1,hrun,?_,λ_ _=>trivial,?_,(λq=>by cases q),?_⟩
 ·simp only[resolve,e1,Deferred.ofValue,bA];simp[Act.eval]
 ·simp only[invoke];exact jL hc _ _
 have s1:=fH.alloc w (.deferred (some []));have s2:=fH.alloc (w.alloc (.deferred (some []))) (.loop {state:= .ready,pending:=none,fn,tmps:=a.tmps,params:=ps,assign:=asg,body,defers:=w.heap.size});obtain⟨p1,p2⟩:=hr.heap.same s1;obtain⟨p3,p4⟩:=p1.same s2;have hmv:Mv ρ w (aV σ.heap) ρ w1 (aV σ.heap):=p2.trans p4;have hsz1:w1.heap.size=w.heap.size+2:=by show((w.alloc _).alloc _).heap.size=_;rw[dX,dX]
 have hD:w1.heap[w.heap.size]?=some (.deferred (some [])):=by
  rw[s2.old _ (by rw[dX];omega)];exact World.alloc_heap_new w _
 have hl:w1.heap[w.heap.size+1]?=some (.loop {state:= .ready,pending:=none,fn,tmps:=a.tmps,params:=ps,assign:=asg,body,defers:=w.heap.size}):=by
  have:=World.alloc_heap_new (w.alloc (.deferred (some []))) (.loop {state:= .ready,pending:=none,fn,tmps:=a.tmps,params:=ps,assign:=asg,body,defers:=w.heap.size});rw[dX]at this;exact this
 have hown:∀b,oW ρ (aV σ.heap) b->b<w.heap.size:=λb⟨k,c,q1,q2,q3⟩=>(hr.heap.fr k c b q1 q2 q3).1
 let J:It:=⟨w.heap.size+1,w.heap.size,fn,a.tmps,ps,asg,body,fn0.ntmps,mark w.heap.size::a.defers⟩
 let B':eP:=⟨B.F,B.ρ,B.w,B.h,fn0.ntmps+(N+2),true⟩
 have hdf:wy B' ρ w1 (aV σ.heap) (mark w.heap.size::a.defers):=by
  obtain⟨z,z1,z2,z3⟩:=hr.defers;refine⟨w.heap.size::z,by rw[z1];rfl,mn.2 ⟨λq=>?_,z2⟩,λD hD'=>?_⟩
  ·have:=(z3 _ q).2.2.1;omega
  ·rcases bt.1 hD' with rfl|hD'
   ·exact⟨rfl,hr.mv.size,by omega,hD,λq=>by have:=hown _ q;omega⟩
   ·obtain⟨y0,y1,y2,y3,y4⟩:=z3 D hD';exact⟨rfl,y1,by omega,(hmv.block D y2 y4).trans y3,y4⟩
 have hvs:=h (w.heap.size+1);refine rm (ro:=none) (calls_of_wp hf hb ?_);have hI:=Qz (J:=J) (B:=B') (N:=fn0.ntmps+(N+2)) hΓ hL hm rfl c none _ _ hvs
 have hrI:iw R B' J ⟨(sc (.d .yl (w.heap.size+1))::cap.map λp=>sc (.ptr p.1 p.2))++ak (fn0.ntmps-(1+cap.length)) (.tup [])++((σ.slots++[sc (.d .yl (w.heap.size+1))])++[sc (.k (.i64 0))]),σ.heap,σ.next⟩ ρ
  {tmps:=(#[.func (.yield (w.heap.size+1)) #[] #[]]++cs.toArray)++Array.replicate (fn0.ntmps-(#[.func (.yield (w.heap.size+1)) #[] #[]]++cs.toArray:Array Value).size) undef,defers:=[]} w1 0:=by
  refine⟨⟨hdf,?_,p3,hr.mv.trans hmv,hr.fresh,hr.root,hr.rn,?_⟩,rfl,?_,hl,by have:=hr.mv.size;show B.w.heap.size<=w.heap.size+1;omega,λq=>by have:=hown _ q;exact absurd this (by show¬(w.heap.size+1<w.heap.size);omega)⟩
  ·rw[It.act_list];have hsl:=F2.imp (λ_ _=>aT.evo hmv.evo (dR.refl ρ)) hr.slots;have hy:F2 (aT w1 (Av B'.F ρ (aV σ.heap)) ρ) [sc (.d .yl (w.heap.size+1))] [.func (.yield (w.heap.size+1)) #[] #[]]:=⟨aJ.2 rfl,trivial⟩;have hz:F2 (aT w1 (Av B'.F ρ (aV σ.heap)) ρ) [sc (.k (.i64 0))] [.int .i64 ((0:Nat):Int)]:=⟨aJ.2 rfl,trivial⟩;refine F2.append ?_ (F2.append (F2.append hsl hy) hz)
   have e:((#[.func (.yield (w.heap.size+1)) #[] #[]]++cs.toArray)++Array.replicate (fn0.ntmps-(#[.func (.yield (w.heap.size+1)) #[] #[]]++cs.toArray:Array Value).size) undef:Array Value).toList=(.func (.yield (w.heap.size+1)) #[] #[]::cs)++ak (fn0.ntmps-(1+cap.length)) undef:=by
    simp[hcl,eJ]
   show F2 _ _ ((#[.func (.yield (w.heap.size+1)) #[] #[]]++cs.toArray)++Array.replicate (fn0.ntmps-(#[.func (.yield (w.heap.size+1)) #[] #[]]++cs.toArray:Array Value).size) undef:Array Value).toList;rw[e];have hh:F2 (aT w1 (Av B'.F ρ (aV σ.heap)) ρ) (sc (.d .yl (w.heap.size+1))::cap.map λp=>sc (.ptr p.1 p.2)) (.func (.yield (w.heap.size+1)) #[] #[]::cs):=⟨aJ.2 rfl,F2.ptrs e3⟩;exact F2.append hh (F2.repl _)
  ·rw[rq];have:=hr.len;simp only[Array.size_append,Array.size_replicate,List.size_toArray,ba,de,hcl,B',J];omega
  ·simp only[Array.size_append,Array.size_replicate,List.size_toArray,ba,de,hcl,J];omega
 refine wp_mono (hI ρ _ w1 0 hrI) ?_;rintro e a' w' ⟨σ',ρ',m',hq,hr'⟩
 have hcd:yN.fin fn0.ntmps Q σ'->∃v,(results fn0 a'.tmps).run P w'= .ok v w'/\rangePost Fence.wide 0 P (w.heap.size+1) (λe a' w'=>∃σ' ρ',Q e σ'/\fv R B σ' ρ' a' w') {a with defers:=[mark w.heap.size]++a.defers} (.returned v) w':=by
  intro hq
  have hre:fn0.results= #[]:=by
   have:=List.isEmpty_iff.1 hres;exact Array.toList_eq_nil_iff.1 this
  refine⟨.tuple #[],by unfold results;rw[hre];simp[bA],?_⟩;have hrc:=hr'.rc;refine⟨_,_,run_endLoop hrc (by unfold It.rcd;dsimp only;split<;>simp),?_⟩;have hrl:∀o,w'.heap[w.heap.size+1]?=some o->LA o=false:=λo ho=>by rw[hrc]at ho;cases ho;rfl
  obtain⟨q1,q2⟩:=hr'.rel.heap.put (l:=w.heap.size+1) (.loop {J.rcd m' with state:= .exhausted}) hrl hr'.no;have hsl:=hr'.sl.2;obtain⟨t1,v,t2,t3⟩:=F2.last hsl;have t4:=(F2.last t1).1
  have hrel:fv R B ⟨(σ'.slots.drop fn0.ntmps).dropLast.dropLast,σ'.heap,σ'.next⟩ ρ' {a with defers:=[mark w.heap.size]++a.defers} (w'.putObj (w.heap.size+1) (.loop {J.rcd m' with state:= .exhausted})):=by
   refine⟨?_,F2.imp (λ_ _=>aT.evo (q2.evo hrl) (dR.refl _)) t4,q1,hr'.rel.mv.transL q2 hr'.ge,hr'.rel.fresh,hr'.rel.root,hr'.rel.rn,hr.len⟩;obtain⟨z,z1,z2,z3⟩:=hr'.rel.defers.mvL q2 hrc;exact⟨z,z1,z2,λD hD=>⟨hk,(z3 D hD).2⟩⟩
  unfold yN.fin at hq;rw[t2]at hq;split at hq
  case h_2=>exact hq.elim
  rename_i m hv;have hv:=Option.some.inj hv;subst hv
  have hmm:(m':Int)=m:=by
   have:=aJ.1 t3;simp[bj,Sc.val]at this;exact this
  subst hmm;split at hq
  ·rename_i h0;have h0:m'=0:=by omega
   subst h0;exact⟨_,ρ',hq,hrel⟩
  ·rename_i h0;split at hq
   ·rename_i h1;have h1:m'=1:=by omega
    subst h1;exact wpIn_ret ⟨_,ρ',hq,hrel⟩
   ·rename_i h1;obtain⟨k,rfl⟩:∃k,m'=k+2:=⟨m'-2,by omega⟩;have:((k+2:Nat):Int)-2=(k:Int):=by omega
    rw[this,aF]at hq;exact wpIn_exit ⟨_,ρ',hq,hrel⟩
 cases e with
 |normal=>obtain⟨v,h1,h2⟩:=hcd hq;exact⟨hr'.df,v,h1,h2⟩
 |ret=>obtain⟨v,h1,h2⟩:=hcd hq;exact⟨hr'.df,v,h1,h2⟩
 |_=>exact hq.elim
end
end
section
section
variable(P:Program)(Γ:bw)(R n:Nat)(A:dB)
def QC(s:St)(t:Nat):St:=match s.slots.getD t (.tup [])with
 | .val false [.ptr k _]=>match aV s.heap k with
   |some (.cells l)=>⟨s.slots,mR s.heap [(k,some (.fc l))],s.next⟩
   |_=>s
 |_=>s
def QD(J L:List (Nat×tJ))(k:Option Nat):Option tJ:=match tL J k with
 |some c=>some c
 |none=>tL L (k.map (·+5000))
def vc:Code->Option Nat->List (Nat×tJ)->St->Kn->Prop
 | .skip,none,L,s,Q=>Q .normal s
 | .region id f a,none,L,s,Q=>match aV A.splits id with
   |some (t,0)=>(I4 P Γ f a (QC s t)).sat (Q .normal)
   |some (t,m)=>match s.slots.getD t (.tup [])with
    | .val false [.d .i64 x]=>(0<=x/\x<(m:Int))/\yM x (λq=>(I4 P Γ f a (VE s t q)).sat (Q .normal)) m
    | .val false [.k (.i64 _)]=>(I4 P Γ f a s).sat (Q .normal)
    |_=>False
   |none=>(I4 P Γ f a s).sat (Q .normal)
 | .seq x y,none,L,s,Q=>match QD A.joins L (gQ y)with
   |some c=>vc x none L s (fF (λe=>fw R c e c.inv) Q)/\jP c.ps (λo=>c.inv o->vc y none L (fd c.ps n o) Q) c.ps.length 0
   |none=>vc x none L s (fF (λe=>vc y none L e Q) Q)
 | .seq x y,some l,L,s,Q=>if(findLabel x l).isSome then vc x (some l) L s (fF (λe=>vc y none L e Q) Q)else vc y (some l) L s Q
 | .cond c x y,none,L,s,Q=>match dt s.slots c with
   | .val false [.k (.bool true)]=>vc x none L s Q
   | .val false [.k (.bool false)]=>vc y none L s Q
   | .val false [.d .bl b]=>(b=true->vc x none L (ld s c true) Q)/\(b=false->vc y none L (ld s c false) Q)
   |_=>False
 | .block id c,none,L,s,Q=>vc c none L s (pq id Q)
 | .loop c,none,L,s,Q=>match tL (L++A.loops) (gQ c)with
   |some cut=>fw R cut s cut.inv/\jP cut.ps (λo=>cut.inv o->vc c none (cut.inn o++L) (fd cut.ps n o) (fF (λe=>fw R cut e λh=>cut.inv h/\cut.mu h<cut.mu o) Q)) cut.ps.length 0
   |none=>Al A.unroll (vc c none L) s Q
 | .scope c,none,L,s,Q=>match tL A.jumps (gQ c)with
   |some (l,cut)=>(findLabel c l).isSome=true/\vc c none L s (kf l (λe=>fw R cut e cut.inv) Q)/\
    jP cut.ps (λo=>cut.inv o->vc c (some l) (cut.inn o++L) (fd cut.ps n o) (kf l (λe=>fw R cut e λh=>cut.inv h/\cut.mu h<cut.mu o) Q)) cut.ps.length 0
   |none=>vc c none L s (I5 Q)
 | .label _,none,L,s,Q=>Q .normal s
 | .label i,some l,L,s,Q=>if i==l then Q .normal s else False
 | .goto l,none,L,s,Q=>Q (.goto l) s
 | .exit id,none,L,s,Q=>Q (.exit id) s
 | .ret,none,L,s,Q=>Q .ret s
 | .rangeFunc g j x y,none,L,s,Q=>uR P Γ R n A g j x y s Q
 |_,_,_,_,_=>False
end
def T(P:Program)(R n:Nat)(c:Code)(σ:St)(Q:Kn):Prop:=
 ∀(B:eP)(ρ:Nat->Pl)(a:Act)(w:World),B.n=n/\B.dk=true->fv R B σ ρ a w->c.wp P (λe b f=>∃σ' ρ',Q e σ'/\fv R B σ' ρ' b f) a w
def TF(P:Program)(R n:Nat)(c:Code)(fr:Option Nat)(σ:St)(Q:Kn):Prop:=match fr with
 |none=>T P R n c σ Q
 |some l=>∀a,findLabel c l=some a->T P R n a σ Q
section
variable{P:Program}{Γ:bw}{R n:Nat}{A:dB}{Q:Kn}{σ:St}
theorem T.seq{x y:Code}(h:T P R n x σ (fF (λσ'=>T P R n y σ' Q) Q)):T P R n (.seq x y) σ Q:=by
 intro B ρ a w hB b;refine wp_seq (wp_mono (h B ρ a w hB b) ?_);rintro e c f ⟨σ',ρ',q,r⟩;cases e with
 |normal=>exact q B ρ' c f hB r
 |_=>exact⟨σ',ρ',q,r⟩
theorem T.mono{c:Code}{b:Kn}(h:T P R n c σ Q)(f:∀e σ,Q e σ->b e σ):T P R n c σ b:=
 λB ρ a w hB g=>wp_mono (h B ρ a w hB g) λe _ _⟨σ',ρ',q,r⟩=>⟨σ',ρ',f e σ' q,r⟩
theorem T.enter{c:Code}{cut:tJ}{y:cw cut.ps}(e:rk R σ cut.ps=some y)(h:T P R n c (fd cut.ps n y) Q):T P R n c σ Q:=λB ρ a w hB f=>
 let⟨ρ',b⟩:=jq f hB.1 e
 h B ρ' a w hB b
theorem T.region(c:aQ P Γ)(hL:bg Γ)(e:P.follows .mixedOrders=true){id:Nat}{ops:Array Oper}{a:Bool}(h:(I4 P Γ ops a σ).sat (Q .normal)):T P R n (.region id ops a) σ Q:=
 λ_ ρ _ _ _ f=>tI c hL e f (bX (λσ' q _ _ _ _ b=>⟨σ',_,q,b⟩) h)
theorem T.block{id:Nat}{c:Code}(h:T P R n c σ (pq id Q)):T P R n (.block id c) σ Q:=by
 intro B ρ a w hB b;refine wp_block (wp_mono (h B ρ a w hB b) ?_);rintro e g i ⟨σ',ρ',q,r⟩;cases e with
 |exit f=>
  simp only[Exit.inBlock];simp only[pq]at q;split
  ·rename_i e;rw[am e]at q;exact⟨σ',ρ',q,r⟩
  ·rename_i e;rw[af e]at q;exact⟨σ',ρ',q,r⟩
 |_=>exact⟨σ',ρ',q,r⟩
theorem T.scope{c:Code}(h:T P R n c σ (I5 Q)):T P R n (.scope c) σ Q:=by
 intro B ρ a w hB b;refine wp_scope_straight (wp_mono (h B ρ a w hB b) ?_);rintro e f g ⟨σ',ρ',q,r⟩;cases e with
 |goto l=>exact q.elim
 |_=>exact⟨σ',ρ',q,r⟩
theorem T.loopC{c:Code}{cut:tJ}(h0:fw R cut σ cut.inv)
 (round:∀o:cw cut.ps,o.1<cut.ps.length->cut.inv o->T P R n c (fd cut.ps n o) (fF (λs'=>fw R cut s' λo'=>cut.inv o'/\cut.mu o'<cut.mu o) Q)):T P R n (.loop c) σ Q:=by
 intro B ρ a w hB t b k u
 have key:∀m(o:cw cut.ps)ρ a w,cut.mu o=m->o.1<cut.ps.length->cut.inv o->fv R B (fd cut.ps n o) ρ a w->
  ∃e r s,(∃σ' ρ',Q e σ'/\fv R B σ' ρ' r s)/\Arrives P (lone (b.at a (.code c:: .inLoop c::k)) u w) b k u e r s:=by
  intro m
  induction m using Nat.strongRecOn with
  |_ m G=>
   intro o ρ a w M v y t;obtain⟨e,j,p,⟨σ1,ρ1,h,g⟩,f⟩:=round o v y B ρ a w hB t b (.inLoop c::k) u;cases e with
   |normal=>
    obtain⟨o',q,z,H⟩:=fN h;obtain⟨ρ2,C⟩:=jq g hB.1 q;have:=dp q;obtain⟨J,K,L,D,i⟩:=G _ (by omega) o' ρ2 j p rfl (by omega) z C;exact⟨J,K,L,D, .of_steps (Steps.trans f (.one step_inLoop)) i⟩
   |exit id=>exact⟨_,j,p,⟨σ1,ρ1,h,g⟩, .pass (x:= .inLoop c) rfl (λ_ _=> .inl (by simp)) f⟩
   |goto l=>exact⟨_,j,p,⟨σ1,ρ1,h,g⟩, .pass (x:= .inLoop c) rfl (λ_ _=> .inl (by simp)) f⟩
   |ret=>exact⟨_,j,p,⟨σ1,ρ1,h,g⟩, .pass (x:= .inLoop c) rfl (λ_ _=> .inl (by simp)) f⟩
   |panic N=>exact⟨_,j,p,⟨σ1,ρ1,h,g⟩, .pass (x:= .inLoop c) rfl (λ_ _=> .inl (by simp)) f⟩
   |outgrown=>exact⟨_,j,p,⟨σ1,ρ1,h,g⟩, .pass (x:= .inLoop c) rfl (λ_ _=> .inl (by simp)) f⟩
 obtain⟨o,F,y⟩:=fN h0;obtain⟨ρ',E⟩:=jq t hB.1 F;have:=dp F;obtain⟨e,r,s,h,f⟩:=key _ o ρ' a w rfl (by omega) y E;exact⟨e,r,s,h, .of_steps (.one step_loop) f⟩
theorem T.loopUn{c:Code}{f:St->Kn->Prop}(y:∀σ Q,f σ Q->T P R n c σ Q):∀(m:Nat)(σ:St),Al m f σ Q->T P R n (.loop c) σ Q:=by
 have key:∀(m:Nat)(σ:St),Al m f σ Q->∀(B:eP)ρ a w,B.n=n/\B.dk=true->fv R B σ ρ a w->∀b k o,
  ∃e s t,(∃σ' ρ',Q e σ'/\fv R B σ' ρ' s t)/\Arrives P (lone (b.at a (.code c:: .inLoop c::k)) o w) b k o e s t:=by
  intro m
  induction m with
  |zero=>intro σ h;exact h.elim
  |succ m z=>
   intro σ h B ρ a w hB u b k o;obtain⟨e,q,r,⟨σ1,ρ1,j,i⟩,g⟩:=y _ _ h B ρ a w hB u b (.inLoop c::k) o;cases e with
   |normal=>
    obtain⟨C,D,E,v,p⟩:=z σ1 j B ρ1 q r hB i b k o;exact⟨C,D,E,v, .of_steps (Steps.trans g (.one step_inLoop)) p⟩
   |exit id=>exact⟨_,q,r,⟨σ1,ρ1,j,i⟩, .pass (x:= .inLoop c) rfl (λ_ _=> .inl (by simp)) g⟩
   |goto l=>exact⟨_,q,r,⟨σ1,ρ1,j,i⟩, .pass (x:= .inLoop c) rfl (λ_ _=> .inl (by simp)) g⟩
   |ret=>exact⟨_,q,r,⟨σ1,ρ1,j,i⟩, .pass (x:= .inLoop c) rfl (λ_ _=> .inl (by simp)) g⟩
   |panic F=>exact⟨_,q,r,⟨σ1,ρ1,j,i⟩, .pass (x:= .inLoop c) rfl (λ_ _=> .inl (by simp)) g⟩
   |outgrown=>exact⟨_,q,r,⟨σ1,ρ1,j,i⟩, .pass (x:= .inLoop c) rfl (λ_ _=> .inl (by simp)) g⟩
 intro m σ h B ρ a w hB u b k o;obtain⟨e,s,t,j,g⟩:=key m σ h B ρ a w hB u b k o;exact⟨e,s,t,j, .of_steps (.one step_loop) g⟩
theorem T.scopeJ{c rest:Code}{l:Nat}{cut:tJ}(L:findLabel c l=some rest)(first:T P R n c σ (kf l (λs'=>fw R cut s' cut.inv) Q))
 (u:∀o:cw cut.ps,o.1<cut.ps.length->cut.inv o->T P R n rest (fd cut.ps n o) (kf l (λs'=>fw R cut s' λo'=>cut.inv o'/\cut.mu o'<cut.mu o) Q)):T P R n (.scope c) σ Q:=by
 intro B ρ a w hB x b k v;have H:gotoIn l (.inScope c::k)=some (.code rest:: .inScope c::k):=by simp[gotoIn,L]
 have key:∀m(o:cw cut.ps)ρ a w,cut.mu o=m->o.1<cut.ps.length->cut.inv o->fv R B (fd cut.ps n o) ρ a w->
  ∃e J K,(∃σ' ρ',Q e σ'/\fv R B σ' ρ' J K)/\Arrives P (lone (b.at a (.code rest:: .inScope c::k)) v w) b k v e J K:=by
  intro m
  induction m using Nat.strongRecOn with
  |_ m M=>
   intro o ρ a w W y N x;obtain⟨e,j,p,⟨σ1,ρ1,h,g⟩,f⟩:=u o y N B ρ a w hB x b (.inScope c::k) v;cases e with
   |normal=>exact⟨.normal,j,p,⟨σ1,ρ1,h,g⟩,Steps.trans f (.one step_inScope)⟩
   |exit id=>exact⟨.exit id,j,p,⟨σ1,ρ1,h,g⟩,λz C=>f z (by simp[exitTo,C])⟩
   |goto O=>
    simp only[kf]at h;split at h
    case isFalse=>exact h.elim
    rename_i D;subst D;obtain⟨o',q,r,S⟩:=fN h;obtain⟨ρ2,s⟩:=jq g hB.1 q;have:=dp q;obtain⟨E,F,G,t,i⟩:=M _ (by omega) o' ρ2 j p rfl (by omega) r s;exact⟨E,F,G,t, .of_steps (f _ H) i⟩
   |ret=>exact⟨_,j,p,⟨σ1,ρ1,h,g⟩,f⟩
   |panic U=>exact⟨_,j,p,⟨σ1,ρ1,h,g⟩,f⟩
   |outgrown=>exact⟨_,j,p,⟨σ1,ρ1,h,g⟩,f⟩
 obtain⟨e,j,p,⟨σ1,ρ1,h,g⟩,f⟩:=first B ρ a w hB x b (.inScope c::k) v
 cases e with
 |normal=>exact⟨.normal,j,p,⟨σ1,ρ1,h,g⟩, .head step_scope (Steps.trans f (.one step_inScope))⟩
 |exit id=>exact⟨.exit id,j,p,⟨σ1,ρ1,h,g⟩,λz C=> .head step_scope (f z (by simp[exitTo,C]))⟩
 |goto O=>
  simp only[kf]at h;split at h
  case isFalse=>exact h.elim
  rename_i D;subst D;obtain⟨o',q,r⟩:=fN h;obtain⟨ρ2,s⟩:=jq g hB.1 q;have:=dp q;obtain⟨E,F,G,t,i⟩:=key _ o' ρ2 j p rfl (by omega) r s;exact⟨E,F,G,t, .of_steps (.head step_scope (f _ H)) i⟩
 |ret=>exact⟨_,j,p,⟨σ1,ρ1,h,g⟩, .of_steps (.one step_scope) f⟩
 |panic U=>exact⟨_,j,p,⟨σ1,ρ1,h,g⟩, .of_steps (.one step_scope) f⟩
 |outgrown=>exact⟨_,j,p,⟨σ1,ρ1,h,g⟩, .of_steps (.one step_scope) f⟩
theorem tO{x:Int}{f:Nat->Prop}:∀{m:Nat},yM x f m->∀q:Nat,q<m->x=(q:Int)->f q
 |0,_,q,b,_=>by omega
 |m+1,h,q,b,a=>by
  by_cases e:q=m
  ·subst e;exact h.2 a
  ·exact tO h.1 q (by omega) a
theorem I6{A:Nat->Prop}{ρ:Nat->Pl}{w:World}{slots:List V}{a:Act}(h:F2 (aT w A ρ) slots a.tmps.toList){t:Nat}{i:I}(b:slots.getD t (.tup [])= .val false [i]):∃v,a.tmps[t]?=some v/\bj w A ρ i [v]:=by
 have:slots[t]?=some (.val false [i]):=by
  simp only[bB]at b;cases c:slots[t]? with
  |none=>simp[c]at b
  |some z=>simp[c]at b;rw[b]
 obtain⟨v,e,f⟩:=h.get this;exact⟨v,by simpa using e,aJ.1 f⟩
theorem fv.frz{B:eP}{ρ:Nat->Pl}{a:Act}{w:World}{t:Nat}(b:fv R B σ ρ a w):fv R B (QC σ t) ρ a w:=by
 unfold QC;split
 case h_2=>exact b
 split
 case h_2=>exact b
 rename_i _ k _ _ _ l f;obtain⟨g,c⟩:=nG b.heap f;have e:aV (mR σ.heap [(k,some (.fc l))])=cO (aV σ.heap) k (some (.fc l)):=by rw[dO];rfl
 refine⟨by show wy B ρ w (aV (mR σ.heap [(k,some (.fc l))])) a.defers;rw[e];exact b.defers.mv c,?_,?_,?_,b.fresh,b.root,b.rn,b.len⟩
 ·show F2 (aT w (Av B.F ρ (aV (mR σ.heap [(k,some (.fc l))]))) ρ) _ _;rw[e];exact F2.imp (λ_ _=>aT.evo c.evo (dR.refl ρ)) b.slots
 ·show dq B.F ρ w (aV (mR σ.heap [(k,some (.fc l))]));rw[e];exact g
 ·show Mv B.ρ B.w B.h ρ w (aV (mR σ.heap [(k,some (.fc l))]));rw[e];exact b.mv.trans c
theorem Ec(K:aQ P Γ)(hL:bg Γ)(M:P.follows .mixedOrders=true):∀(c:Code)(fr:Option Nat)(L:List (Nat×tJ))(σ:St)(Q:Kn),vc P Γ R n A c fr L σ Q->TF P R n c fr σ Q:=by
 intro c
 induction c with
 |skip=>
  intro fr L σ Q h;cases fr with
  |none=>exact λ_ ρ _ _ _ g=>wp_skip ⟨σ,ρ,h,g⟩
  |some l=>exact λ_ i=>by simp[findLabel]at i
 |region id Y W=>
  intro fr L σ Q h;cases fr with
  |some l=>exact λ_ i=>by simp[findLabel]at i
  |none=>
   simp only[vc]at h;split at h
   ·rename_i t _;intro B ρ a w hB g;exact T.region (n:=n) K hL M h B ρ a w hB g.frz
   ·rename_i t m _ _;split at h
    ·rename_i x F;intro B ρ a w hB g;obtain⟨v,G,H⟩:=I6 g.slots F;obtain⟨⟨x0,x1⟩,U⟩:=h;obtain⟨q,rfl⟩:=bR x0;have x2:(q:Int)<(m:Int):=x1;have u:=tO U q (by omega) rfl;simp[bj,Rd]at H;subst H;refine T.region (n:=n) K hL M u B ρ a w hB ⟨g.defers,g.slots.set_left t (λv C=>?_),g.heap,g.mv,g.fresh,g.root,g.rn,g.len⟩;have:a.tmps.toList[t]?=some (.int .i64 q):=by simpa using G
     rw[this]at C;simp at C;subst C;exact aJ.2 rfl
    ·exact T.region K hL M h
    ·exact h.elim
   ·exact T.region K hL M h
 |seq x y p j=>
  intro fr L σ Q h;cases fr with
  |none=>
   simp only[vc]at h;split at h
   ·rename_i cut hc;obtain⟨G,H⟩:=h;refine T.seq ((p none _ _ _ G).mono ?_);intro e σ' u;cases e with
    |normal=>
     obtain⟨o,X,N⟩:=fN u;have O:=dp X;exact T.enter X (j none _ _ _ (gu H o (by omega) (by omega) N))
    |_=>exact u
   ·refine T.seq ((p none _ _ _ h).mono ?_);intro e σ' u;cases e with
    |normal=>exact j none _ _ _ u
    |_=>exact u
  |some l=>
   intro s i;simp only[vc]at h;simp only[findLabel]at i;split at h
   ·rename_i F;split at i
    ·rename_i r g;simp at i;subst i;refine T.seq ((p (some l) _ _ _ h r g).mono ?_);intro e σ' u;cases e with
     |normal=>exact j none _ _ _ u
     |_=>exact u
    ·rename_i g;rw[g]at F;simp at F
   ·rename_i F;split at i
    ·rename_i r g;rw[g]at F;simp at F
    ·exact j (some l) _ _ _ h s i
 |cond c x y p j=>
  intro fr L σ Q h;cases fr with
  |some l=>exact λ_ i=>by simp[findLabel]at i
  |none=>
   simp only[vc]at h;intro B ρ a w hB g;have C:=fC g.slots c;split at h
   ·rename_i S;rw[S]at C;have:=aJ.1 C;simp[bj,Sc.val]at this;exact wp_cond_true this (p none _ _ _ h B ρ a w hB g)
   ·rename_i S;rw[S]at C;have:=aJ.1 C;simp[bj,Sc.val]at this;exact wp_cond_false this (j none _ _ _ h B ρ a w hB g)
   ·rename_i b S;rw[S]at C;have J:=aJ.1 C;simp[bj,Rd]at J
    have D:fv R B (ld σ c b) ρ a w:=by
     cases c with
     |tmp t=>
      refine g.know ?_;simp only[Act.eval]at J;cases u:a.tmps[t]? with
      |none=>simp[u,undef]at J
      |some z=>simp[u]at J;rw[J]
     |_=>exact g
    refine wp_cond_split J (λe=>?_) (λe=>?_)
    ·subst e;exact p none _ _ _ (h.1 rfl) B ρ a w hB D
    ·subst e;exact j none _ _ _ (h.2 rfl) B ρ a w hB D
   ·exact h.elim
 |block id c E=>
  intro fr L σ Q h;cases fr with
  |some l=>exact λ_ i=>by simp[findLabel]at i
  |none=>exact T.block (E none _ _ _ h)
 |loop c E=>
  intro fr L σ Q h;cases fr with
  |some l=>exact λ_ i=>by simp[findLabel]at i
  |none=>
   simp only[vc]at h;split at h
   ·exact T.loopC h.1 λo O N=>E none _ _ _ (gu h.2 o (by omega) (by omega) N)
   ·exact T.loopUn (λσ Q h=>E none _ σ Q h) _ _ h
 |rangeFunc f ps x y p j=>
  intro fr L σ Q h;cases fr with
  |some l=>exact λ_ i=>by simp[findLabel]at i
  |none=>exact λB ρ a w hB g=>Eb K hL M hB.1 hB.2 g h
 |exit id=>
  intro fr L σ Q h;cases fr with
  |some l=>exact λ_ i=>by simp[findLabel]at i
  |none=>exact λ_ ρ _ _ _ g=>wp_exit ⟨σ,ρ,h,g⟩
 |scope c E=>
  intro fr L σ Q h;cases fr with
  |some l=>exact λ_ i=>by simp[findLabel]at i
  |none=>
   simp only[vc]at h;split at h
   ·rename_i l cut _;obtain⟨G,H,h3⟩:=h;rw[cJ]at G;obtain⟨s,i⟩:=G;exact T.scopeJ i (E none _ _ _ H) λo O N=>E (some l) _ _ _ (gu h3 o (by omega) (by omega) N) s i
   ·exact T.scope (E none _ _ _ h)
 |label l'=>
  intro fr L σ Q h;cases fr with
  |none=>exact λ_ ρ _ _ _ g=>wp_label ⟨σ,ρ,h,g⟩
  |some l=>
   intro s i;simp only[vc]at h;split at h
   ·rename_i e;simp only[findLabel,e,if_true,Option.some.injEq]at i;subst i;exact λ_ ρ _ _ _ g=>wp_skip ⟨σ,ρ,h,g⟩
   ·exact h.elim
 |goto l=>
  intro fr L σ Q h;cases fr with
  |some l=>exact λ_ i=>by simp[findLabel]at i
  |none=>exact λ_ ρ _ _ _ g=>wp_goto ⟨σ,ρ,h,g⟩
 |ret=>
  intro fr L σ Q h;cases fr with
  |some l=>exact λ_ i=>by simp[findLabel]at i
  |none=>exact λ_ ρ _ _ _ g=>wp_ret ⟨σ,ρ,h,g⟩
 |refuse a0=>intro fr L σ Q h;cases fr<;>simp[vc]at h
end
end
section
def yO(p:cg)(a n:Nat)(v:p.val):St:=⟨oz p a v++ak (n-a) (.tup []),HP.inst ib 0 p.hp v.2,p.hp.length⟩
def wV(P:Program)(σ:St):List ResultVar->Option (List V)
 |[]=>some []
 | .tmp t::r=>match wV P σ r with
   |some m=>some (σ.slots.getD t (.tup [])::m)
   |none=>none
 | .cell a t::r=>match(σ.slots.getD a (.tup [])).one? with
   |some (.ptr k b)=>match aV σ.heap k with
    |some (.cells l)=>match qr P t l b,wV P σ r with
     |some x,some m=>some (x::m)
     |_,_=>none
    |_=>none
   |_=>none
def jQ(R:Nat)(h:fu)(a:List V)(ps:List cg):Nat->Nat->Option (cw ps)
 |0,_=>none
 |n+1,i=>match fit (aV h) a (cY ps i) (Dj R (cY ps i).hp 0)with
  |some (v,b,_)=>if lH R b&&pl (cY ps i).hp&&kX (cY ps i).hp.length b&&decide (R<=(cY ps i).hp.length)&&nF 0 (cY ps i).sl&&decide (a.length=(cY ps i).sl.length)then some ⟨i,(cY ps i).put v⟩else jQ R h a ps n (i+1)
  |none=>jQ R h a ps n (i+1)
def lf(h:fu):dN:=h.filterMap λp=>match p.2 with
 | .mit .. =>some (p.1,none)
 |_=>none
def QE(h:fu):dN:=h.filterMap λp=>match aV h p.1 with
 |some (.lk a b l)=>some (p.1,some (.mp a b l))
 |_=>none
def tP(h:fu):fu:=let a:=mR h (lf h);mR a (QE a)
theorem lh:∀{u:dN}{h:Nat->Option Ch}{k:Nat},(∀p∈u,p.2=none)->(bm h u k=h k\/bm h u k=none)/\((k,none)∈u->bm h u k=none)
 |[],_,_,_=>⟨.inl rfl,by simp⟩
 |(j,o)::r,h,k,b=>by
  have c:o=none:=b (j,o) (aG ..);subst c;obtain⟨a,f⟩:=lh (u:=r) (h:=cO h j none) (k:=k) (λp g=>b p (aA _ g));simp only[bm];refine⟨?_,λi=>?_⟩
  ·rcases a with a|a
   ·rw[a];by_cases e:k=j
    ·subst e;rw[bG];exact .inr rfl
    ·rw[bE _ _ _ e];exact .inl rfl
   ·exact .inr a
  ·rcases bt.1 i with e|e
   ·simp at e;subst e;rcases a with a|a
    ·rw[a,bG]
    ·exact a
   ·exact f e
theorem ru{h0:Nat->Option Ch}:∀{u:dN}{h:Nat->Option Ch},(∀p∈u,∃a b l,h0 p.1=some (.lk a b l)/\p.2=some (.mp a b l))->(∀k,h k=h0 k\/∃a b l,h0 k=some (.lk a b l)/\h k=some (.mp a b l))->
 ∀k,bm h u k=h0 k\/∃a b l,h0 k=some (.lk a b l)/\bm h u k=some (.mp a b l)
 |[],_,_,c,k=>c k
 |p::r,h,f,c,k=>by
  simp only[bm];refine ru (λq g=>f q (aA _ g)) (λj=>?_) k;by_cases e:j=p.1
  ·subst e;rw[bG];obtain⟨a,b,l,i,m⟩:=f p (aG ..);exact .inr ⟨a,b,l,i,m⟩
  ·rw[bE _ _ _ e];exact c j
theorem rv(H:fu):(∀k,aV (tP H) k=aV H k\/aV (tP H) k=none\/∃a b l,aV H k=some (.lk a b l)/\aV (tP H) k=some (.mp a b l))/\∀k m a b r q,aV (tP H) k≠some (.mit m a b r q):=by
 have x:∀p∈lf H,p.2=none:=by
  intro p n;obtain⟨q,_,g⟩:=List.mem_filterMap.1 n;split at g<;>simp at g;rw[<-g]
 have i:∀k m a b r q,aV H k=some (.mit m a b r q)->(k,none)∈lf H:=by
  intro k m a b r q c;exact List.mem_filterMap.2 ⟨(k, .mit m a b r q),ia c,rfl⟩
 have o:∀k,aV (mR H (lf H)) k=aV H k\/aV (mR H (lf H)) k=none:=λk=>by rw[dO];exact(lh x).1
 have g:∀k m a b r q,aV (mR H (lf H)) k≠some (.mit m a b r q):=by
  intro k m a b r q c;rcases o k with e|e
  ·rw[e]at c;have:=(lh (h:=aV H) (k:=k) x).2 (i k m a b r q c);rw[dO,this]at e;rw[<-e]at c;simp at c
  ·rw[e]at c;simp at c
 have s:=ru (h0:=aV (mR H (lf H))) (u:=QE (mR H (lf H))) (h:=aV (mR H (lf H))) (λp n=>by
  obtain⟨q,_,t⟩:=List.mem_filterMap.1 n;split at t<;>simp at t;rename_i a b l y;subst t;exact⟨a,b,l,y,rfl⟩) (λk=> .inl rfl)
 rw[<-dO]at s;refine⟨λk=>?_,λk m a b r q c=>?_⟩
 ·rcases s k with e|⟨a,b,l,v,w⟩
  ·rcases o k with f|f
   ·exact .inl (e.trans f)
   ·exact .inr (.inl (e.trans f))
  ·rcases o k with f|f
   ·exact .inr (.inr ⟨a,b,l,f▸v,w⟩)
   ·rw[v]at f;simp at f
 ·rcases s k with e|⟨z,A,l,v,w⟩
  ·exact g k m a b r q (e▸c)
  ·have j:aV (mR (mR H (lf H)) (QE (mR H (lf H)))) k=some (.mit m a b r q):=c;rw[w]at j;simp at j
theorem dq.tidy{F:Nat->Prop}{ρ:Nat->Pl}{w:World}{h h':Nat->Option Ch}(hh:dq F ρ w h)(n:∀k,h' k=h k\/h' k=none\/∃a b l,h k=some (.lk a b l)/\h' k=some (.mp a b l))(v:∀k m a b r q,h' k≠some (.mit m a b r q)):dq F ρ w h'/\Mv ρ w h ρ w h':=by
 refine hh.step (λk=>h' k≠h k) (dR.refl ρ) (aD _) rfl rfl rfl (λk f=>Classical.not_not.1 f) (λ_ _ _=>rfl) (λk c b g f x o=>?_) (λk u c G b g p f j H y o s=>?_) (λk m a b r q f=>absurd f (v k m a b r q)) (λk c g f z=>?_)
 ·rcases n k with e|e|⟨a,J,l,i,t⟩
  ·exact absurd e g
  ·rw[e]at f;simp at f
  ·exact⟨(hh.fr k _ b i rfl o).1, .inr ⟨k,_,g,i,rfl,o⟩⟩
 ·rcases n k with e|e|⟨a,A,l,i,t⟩
  ·exact absurd e g
  ·rw[e]at f;simp at f
  ·rcases n u with e|e|⟨K,L,M,C,N⟩
   ·exact absurd e p
   ·rw[e]at j;simp at j
   ·exact hh.inj k u _ _ b i C rfl rfl o s
 ·rcases n k with e|e|⟨a,A,l,i,t⟩
  ·exact absurd e g
  ·rw[e]at f;simp at f
  ·rw[t]at f;simp at f;subst f;obtain⟨b,D,E⟩:=hh.ok k _ i;exact⟨b,D,E.evo z.evo rfl⟩
theorem fv.tidy{R:Nat}{B:eP}{σ:St}{ρ:Nat->Pl}{a:Act}{w:World}(b:fv R B σ ρ a w):fv R B ⟨σ.slots,tP σ.heap,σ.next⟩ ρ a w:=by
 obtain⟨e,c⟩:=b.heap.tidy (rv σ.heap).1 (rv σ.heap).2;exact⟨b.defers.mv c,F2.imp (λ_ _=>aT.evo c.evo (dR.refl ρ)) b.slots,e,b.mv.trans c,b.fresh,b.root,b.rn,b.len⟩
def I7(P:Program)(res:List ResultVar)(R:Nat)(ps:List cg)(Q:cw ps->Prop):Kn:=λe s=>
 match e with
 | .normal=>fin s
 | .ret=>fin s
 |_=>False
where fin (s0:St):Prop:=let s:St:=⟨s0.slots,tP s0.heap,s0.next⟩
 match wV P s res with
 |some rs=>match jQ R s.heap rs ps ps.length 0 with
  |some y=>Q y
  |none=>False
 |none=>False
def fvc(P:Program)(Γ:bw)(fn:Func)(c:Code)(a:Ct)(A:a.inp.den->dB):Prop:=
 a.inp.All λx=>∀Q:cw a.out->Prop,(a.spec x).sat Q->
  vc P Γ a.inp.hp.length fn.ntmps (A x) c none [] (yO a.inp a.nargs fn.ntmps (a.inp.get x)) (I7 P fn.results.toList a.inp.hp.length a.out Q)
section
variable{P:Program}{R:Nat}{B:eP}
def rx(a:Array Value)(x:ResultVar):Sem Value:=
 match x with
 | .tmp t=>pure (a.getD t undef)
 | .cell b t=>do loadVar t (<-asAddr (a.getD b undef))
theorem I8{σ:St}{ρ:Nat->Pl}{a:Act}{w:World}(g:fv R B σ ρ a w):∀(l:List ResultVar)(m:List V),wV P σ l=some m->
 ∃vs:List Value,(l.mapM (rx a.tmps)).run P w=og vs w/\F2 (aT w (Av B.F ρ (aV σ.heap)) ρ) m vs:=by
 intro l
 induction l with
 |nil=>intro m h;simp[wV]at h;subst h;exact⟨[],rfl,trivial⟩
 |cons x l u=>
  intro m h
  have fin:∀(y:V)(c:List V)(v:Value),m=y::c->wV P σ l=some c->(rx a.tmps x).run P w=og v w->aT w (Av B.F ρ (aV σ.heap)) ρ y v->
   ∃vs:List Value,((x::l).mapM (rx a.tmps)).run P w=og vs w/\F2 (aT w (Av B.F ρ (aV σ.heap)) ρ) m vs:=by
   intro y c v e i z j;obtain⟨vs,f,A⟩:=u c i;subst e;refine⟨v::vs,?_,⟨j,A⟩⟩;simp only[List.mapM_cons,bF,z,aX,f,bA]
  cases x with
  |tmp t=>
   simp only[wV]at h;split at h
   case h_2=>simp at h
   rename_i c e;simp at h;exact fin _ c _ h.symm e rfl (fC g.slots (.tmp t))
  |cell b t=>
   simp only[wV]at h;split at h
   case h_2=>simp at h
   rename_i k n C;split at h
   case h_2=>simp at h
   rename_i K D;split at h
   case h_2=>simp at h
   rename_i y c E e;simp at h;obtain⟨_,⟨bl,q,rfl⟩,f⟩:=aN C (fC g.slots (.tmp b));simp at f;simp only at q;obtain⟨L,M,N,o,G,H⟩:=g.heap.ok k _ D;rw[q]at o;simp at o;subst o;obtain⟨r,s,J⟩:=kK E H (nr G);rw[bN]at s;refine fin y c r h.symm e ?_ J;show(asAddr (a.tmps.getD b undef)>>=λx=>loadVar t x).run P w=_;have p:a.tmps.getD b undef=Value.pointer (some ⟨bl,n,none⟩):=f;rw[p];simpa[Instr.loadAt,rY,asAddr,bF]using s
theorem wW{fn:Func}{a:Array Value}{w:World}{vs:List Value}(h:(fn.results.toList.mapM (rx a)).run P w= .ok vs w):
 (results fn a).run P w= .ok (kU vs) w:=by
 have e:fn.results=fn.results.toList.toArray:=by simp
 have:(results fn a)=((Functor.map List.toArray (fn.results.toList.mapM (rx a)))>>=λvs=>pure (if h:vs.size=1 then vs[0]else .tuple vs)):=by
  unfold results;rw[e,List.mapM_toArray];rfl
 rw[this,map_eq_pure_bind];simp only[bF,h,aX,bA]
 match vs with
 |[]=>rfl
 |[v]=>rfl
 |v::u::r=>rfl
theorem mT{h:fu}{b:List V}{ps:List cg}:∀{n i:Nat}{y:cw ps},jQ R h b ps n i=some y->∃v a u,fit (aV h) b (cY ps y.1) (Dj R (cY ps y.1).hp 0)=some (v,a,u)/\lH R a=true/\pl (cY ps y.1).hp=true/\kX (cY ps y.1).hp.length a=true/\
 R<=(cY ps y.1).hp.length/\nF 0 (cY ps y.1).sl=true/\b.length=(cY ps y.1).sl.length/\(cY ps y.1).get y.2=v
 |0,_,_,h=>by simp[jQ]at h
 |n+1,i,y,h=>by
  simp only[jQ]at h;split at h
  case h_2=>exact mT h
  rename_i v a u e;split at h
  case isFalse=>exact mT h
  rename_i c;simp only[aI,ai]at c;obtain⟨⟨⟨⟨⟨f,g⟩,j⟩,l⟩,m⟩,o⟩:=c;simp at h;subst h;exact⟨v,a,u,e,f,g,j,l,m,o,cg.get_put⟩
theorem Ed{l:List (Option CP)}(h:pl l=true):wu l=true:=by
 unfold wu;unfold pl at h;rw[cU]at h⊢;intro c a;have:=h c a;split at this
 ·rename_i b;cases b<;>simp[CP.plain]at this<;>rfl
 ·rfl
theorem yP{σ:St}{ps:List cg}{y:cw ps}{z:List V}{ρ:Nat->Pl}{a:Act}{w:World}{vals:List Value}(o:fv R B σ ρ a w)(G:F2 (aT w (Av B.F ρ (aV σ.heap)) ρ) z vals)
 (h:jQ R σ.heap z ps ps.length 0=some y):IS B.F B.ρ B.w B.h R (cY ps y.1) ((cY ps y.1).get y.2) (.returned (kU vals)) w:=by
 obtain⟨v,n,u,H,p,f,J,U,g,A,r⟩:=mT h;obtain⟨l,rfl,s⟩:=yD H;obtain⟨W,e,i⟩:=uJ s;obtain⟨C,D,E⟩:=jM (l:=l) o.heap (λ_ _ q=>q);have j:=F2.imp (λ_ _=>aT.evo D.evo (dR.refl ρ)) G;obtain⟨K,X,L,M,Y⟩:=qQ (F':=B.F) C E j e i rfl (pX R _ 0) (Ed f) (λb m=> .inl m);obtain⟨i1,N⟩:=SP.mt_sub e (pX R _ 0);obtain⟨O,_⟩:=HP.mt_sub i N;have c:=SP.res_ok C E (qP ⟨n,[]⟩ ρ) rfl j e (pX R _ 0) O g (by omega);rw[List.drop_zero]at c;have evo:pB w (Av B.F ρ (bm (aV σ.heap) (kW l (aV σ.heap)))) w (Av B.F (gf ⟨n,[]⟩ ρ) (aV (HP.inst ib 0 (cY ps y.1).hp v.2))):=⟨aD _,λ_ _ _ _ t _=>t,λb _ m=>L b m⟩;rw[r];refine⟨gf ⟨n,[]⟩ ρ,vals,rfl,λk x=>?_,F2.imp (λ_ _=>yg.evo evo (dR.refl _)) c,K,?_,λk Q=>?_⟩
 ·exact tK p o.root x
 ·have:=o.mv.trans D;exact⟨this.os,this.tape,this.output,this.size,this.block,λb m t=>this.own b m (M b t)⟩
 ·unfold gf;cases S:aV n k with
  |none=>rfl
  |some q=>exact absurd (jo J S) (by omega)
theorem fv.putD{D:Nat}{h:List Deferred}{σ:St}{ρ:Nat->Pl}{a:Array Value}{w:World}(b:fv R B σ ρ {tmps:=a,defers:=mark D::h} w):
 w.heap[D]?=some (.deferred (some []))/\fv R B σ ρ {tmps:=a,defers:=h} (w.putObj D (.deferred none)):=by
 obtain⟨z,f,g,i⟩:=b.defers;cases z with
 |nil=>cases f
 |cons q z=>
  simp only[aY,List.cons.injEq]at f;obtain⟨c,r⟩:=f;have c:D=q:=by unfold mark at c;simpa using c
  subst c;obtain⟨F,s,G,j,t⟩:=i D (aG ..);have l:∀o,w.heap[D]?=some o->LA o=false:=λo m=>by rw[j]at m;cases m;rfl
  obtain⟨u,n⟩:=b.heap.put (.deferred none) l t;refine⟨j,?_,F2.imp (λ_ _=>aT.evo (n.evo l) (dR.refl _)) b.slots,u,b.mv.transL n s,b.fresh,b.root,b.rn,b.len⟩;rw[mn]at g;refine⟨z,r,g.2,λE p=>?_⟩;obtain⟨v,x,y,A,C⟩:=i E (aA _ p);exact⟨v,x,by rw[World.putObj_size];exact y,by rw[World.putObj_heap_other (λe=>g.1 (by rw[<-e];exact p))];exact A,C⟩
theorem Ee{fn:Func}{f:Ending->World->Prop}{σ:St}{ρ:Nat->Pl}{a:Array Value}:∀(b:List Deferred)(w:World),fv R B σ ρ {tmps:=a,defers:=b} w->
 (∀w,fv R B σ ρ {tmps:=a,defers:=[]} w->∃v,(results fn a).run P w= .ok v w/\f (.returned v) w)->LeavesInM Fence.wide 0 P fn a f b .returning w
 |[],w,c,h=>h w c
 |d::b,w,c,h=>by
  obtain⟨z,e,_,_⟩:=c.defers
  obtain⟨D,rfl⟩:∃D,d=mark D:=by
   cases z with
   |nil=>cases e
   |cons D z=>exact⟨D,by simp only[aY,List.cons.injEq]at e;exact e.1⟩
  obtain⟨g,i⟩:=c.putD;exact⟨by simp, .inl ⟨D,_,rfl,run_takeDeferred g,Ee b _ i h⟩⟩
theorem I9{Γ:bw}(u:aQ P Γ)(hL:bg Γ)(v:P.follows .mixedOrders=true){f:FuncId}{fn:Func}{c:Code}{a:Ct}{A:a.inp.den->dB}(z:P.funcs[f]?=some fn)(C:fn.body=some c)(D:decide (a.nargs<=fn.ntmps)=true)
 (h:fvc P Γ fn c a A):bS P f a:=by
 intro x Q E F ρ w b j G H o
 have p:=cg.All_ok (k:=λx=>∀Q:cw a.out->Prop,(a.spec x).sat Q->
  vc P Γ a.inp.hp.length fn.ntmps (A x) c none [] (yO a.inp a.nargs fn.ntmps (a.inp.get x)) (I7 P fn.results.toList a.inp.hp.length a.out Q)) h x Q E
 have J:=Ec u hL v c none _ _ _ p;refine(callsIn_wide (n:=0)).1 (callsIn_of_wp_marks (F:=Fence.wide) (n:=0) z C trivial ?_);rw[wpIn_wide];have q:b.toArray.size=b.length:=by simp
 have K:a.nargs<=fn.ntmps:=by simpa using D
 rw[q]
 have L:fv a.inp.hp.length ⟨F,ρ,w,ee a.inp (a.inp.get x),fn.ntmps,true⟩ (yO a.inp a.nargs fn.ntmps (a.inp.get x)) ρ {tmps:=b.toArray++Array.replicate (fn.ntmps-b.length) undef,defers:=[]} w:=by
  refine⟨.nil rfl,?_,G,Mv.refl _ _ _,o,λ_ _=> .inl rfl,aD _,by simp;omega⟩;have:(b.toArray++Array.replicate (fn.ntmps-b.length) undef).toList=b++ak (fn.ntmps-b.length) undef:=by simp
  rw[this,j];refine F2.append H ?_;generalize fn.ntmps-a.nargs=m
  induction m with
  |zero=>trivial
  |succ m M=>exact⟨ej,M⟩
 refine wp_mono (J _ ρ _ w ⟨rfl,rfl⟩ L) ?_;rintro e r l ⟨σ',ρ',s,i⟩
 have fin:I7.fin P fn.results.toList a.inp.hp.length a.out Q σ'->LeavesInM Fence.wide 0 P fn r.tmps (λe l=>∃y,Q y/\IS F ρ w (ee a.inp (a.inp.get x)) a.inp.hp.length (cY a.out y.1) ((cY a.out y.1).get y.2) e l) r.defers .returning l:=by
  intro g;refine Ee r.defers l i λl i=>?_;unfold I7.fin at g;dsimp only at g;split at g
  case h_2=>exact g.elim
  rename_i W t;split at g
  case h_2=>exact g.elim
  rename_i y N;obtain⟨O,S,U⟩:=I8 i.tidy _ _ t;exact⟨kU O,wW S,y,g,yP i.tidy U N⟩
 cases e with
 |normal=>exact fin s
 |ret=>exact fin s
 |_=>exact s.elim
end
end
end Go.Hv
namespace Go.Hv
@[reducible]def aO(kt:Ty){β:Type}(k:kt.den)(l:List (kt.den×β)):Option β:=cz k l
@[reducible]def dD(kt:Ty){β:Type}(k:kt.den)(v:β)(l:List (kt.den×β)):List (kt.den×β):=cD k v l
@[reducible]def a45(T:Type)(v:T):T:=v
def Ef(P:Program)(f:FuncId):Func:=(P.funcs[f]?).getD default
def yQ(fn:Func):Code:=fn.body.getD .skip
def Cf(P:Program)(f:FuncId)(n:Nat):Bool:=eY P f&&decide (n<=(Ef P f).ntmps)
def ix(P:Program)(Γ:bw)(f:FuncId)(a:Ct)(A:a.inp.den->dB):Prop:=fvc P Γ (Ef P f) (yQ (Ef P f)) a A
theorem du{P:Program}{Γ:bw}(l:aQ P Γ)(hL:bg Γ)(m:P.follows .mixedOrders=true){f:FuncId}{b:Ct}{A:b.inp.den->dB}(a:Cf P f b.nargs=true)(h:ix P Γ f b A):bS P f b:=by
 unfold Cf eY at a;unfold ix at h;cases g:P.funcs[f]? with
 |none=>simp[g]at a
 |some fn=>
  have e:Ef P f=fn:=by simp[Ef,g]
  rw[e]at h a;simp only[g,aI]at a;obtain⟨⟨_,i⟩,n⟩:=a;rw[cJ]at i;obtain⟨c,j⟩:=i;have o:yQ fn=c:=by simp[yQ,j]
  rw[o]at h;exact I9 l hL m g j n h
attribute [irreducible] ix
def one{p:cg}(a:Prop)(y:p.den):Tr (cw [p]):= .need a (.leaf ⟨0,y⟩)
theorem bJ{p:cg}{a:Prop}{y:p.den}:Live (one (p:=p) a y):=Live.need λ_=>Live.leaf
def dy{p:cg}(a:Prop){β:Type}(v:β)(g:β->p.den):Tr (cw [p]):= .need a (.all β (λy=>y=v) λy=> .leaf ⟨0,g y⟩)
theorem bp{p:cg}{a:Prop}{β:Type}{v:β}{g:β->p.den}:Live (dy (p:=p) a v g):=Live.need λ_=>Live.all ⟨v,rfl,Live.leaf⟩
theorem bS.mono{P:Program}{f:FuncId}{n:Nat}{a:cg}{out:List cg}{s s':a.den->Tr (cw out)}(h:bS P f ⟨n,a,out,s⟩)(b:∀x Q,(s' x).sat Q->(s x).sat Q):bS P f ⟨n,a,out,s'⟩:=
 λx Q c=>h x Q (b _ Q c)
theorem dE{p:cg}{a:Prop}{β:Type}{v:β}{g:β->p.den}{y:p.den}{Q:cw [p]->Prop}(h:(dy (p:=p) a v g).sat Q)(e:g v=y):(one (p:=p) a y).sat Q:=⟨h.1,e▸h.2 v rfl⟩
theorem aQ.add{P:Program}{Γ:bw}{f:FuncId}{cs:List Ct}(h:aQ P Γ)(b:eY P f=true)(e:∀c∈cs,bS P f c):aQ P ((f,cs)::Γ):=λp a=>by
 rcases bt.1 a with rfl|a
 ·exact⟨b,e⟩
 ·exact h p a
theorem bg.add{Γ:bw}{f:FuncId}{cs:List Ct}(h:bg Γ)(b:∀c∈cs,∀x,Live (c.spec x)):bg ((f,cs)::Γ):=λp a=>by
 rcases bt.1 a with rfl|a
 ·exact b
 ·exact h p a
theorem bo{α:Type 1}{p:α->Prop}{a:α}(h:p a):∀c∈[a],p c:=λc b=>by
 rw[cf.1 b];exact h
theorem fQ{α:Type 1}{p:α->Prop}{a:α}{l:List α}(h:p a)(h':∀c∈l,p c):∀c∈a::l,p c:=λc b=>by
 rcases bt.1 b with rfl|b
 ·exact h
 ·exact h' c b
def a0s(n:Nat):dB:=⟨[],[],[],[],n⟩
def cE(c:Ct)(n:Nat):c.inp.den->dB:=λ_=>a0s n
theorem VH{A B:Prop}(e:A=B)(b:B):A:=e▸b
def bK(p:cg)(a:p.den->Prop)(b:p.den->Nat):tJ:=⟨[p],λy=>match y with
 |⟨0,x⟩=>a x
 |_=>False,λy=>match y with
 |⟨0,x⟩=>b x
 |_=>0,λ_=>[]⟩
def oG(p:cg)(a:p.den->Prop)(c:p.den->Nat)(b:p.den->List (Nat×tJ)):tJ:=⟨[p],λy=>match y with
 |⟨0,x⟩=>a x
 |_=>False,λy=>match y with
 |⟨0,x⟩=>c x
 |_=>0,λy=>match y with
 |⟨0,x⟩=>b x
 |_=>[]⟩
end Go.Hv
namespace Go.Hv
open Go.ChangeShapes Go.WideShapes Go.RowKit
section
theorem sE{H:Type}{enc:TypeId×Value->H}{P:Program}(l:laidOutB P=true){W i:World}(m:Below W.heap.size W i):
 ∀(ts:List TypeId)(vs:List Value)(c:List (DataW H))(ps:List MemPlace),(∀t∈ts,P.readableRec t=true/\t<P.types.size)->(∀x∈ps,x.block<W.heap.size)->
  DataW.TrodAll enc P W 0 (λ_=>true) true ts vs c ps->DataW.TrodAll enc P i 0 (λb=>decide (b<W.heap.size)) true ts vs c ps:=by
 intro ts
 induction ts with
 |nil=>
  intro vs c ps _ _ h;obtain⟨rfl,rfl,rfl⟩:=trodAll_nil h;exact rfl
 |cons t ts n=>
  intro vs c ps j a h;obtain⟨v,e,d,f,p,q,rfl,rfl,rfl,o,r⟩:=trodAll_cons h;obtain⟨s,u⟩:=j t (aG ..);exact⟨p,q,Below.trod l s u o m (λx g=>a x (cL _ g)),n e f q (λt w=>j t (aA _ w)) (λx g=>a x (List.mem_append_right _ g)) r,rfl⟩
theorem Eg{H:Type}{enc:TypeId×Value->H}{P:Program}{f:Func}{s:ChangeSpec}{W l:World}{args:Array Value}{i m:List (DataW H)}{b:List MemPlace}{tb:TypeId}
 (u:laidOutB P=true) (v:∀t∈f.params.toList,P.readableRec t=true/\t<P.types.size) (a:s.vars=[]) (g:f.resultTypes= #[tb]) (j:P.underlying tb=some .bool)
 (n:DataW.Whole enc P f.params.toList s.vars false W args.toList i m b)
 (c:s.fn H (i++m)={results:=[.lit (.bool true)],args:=i}) (o:Below W.heap.size W l):
 s.post enc P f false true false false W args (.bool true) l:=by
 have e:=n;obtain⟨p,q,w,r,rfl,_,_⟩:=n;rw[a]at r;obtain⟨rfl,rfl⟩:=trodVars_none r;rw[aW]at c e;refine⟨i,[],_,[],p,[],e,?_,?_,?_,o.frame _,λh=>by simp at h⟩
 ·rw[aW,c,g];exact⟨[],[],⟨1,by simp[DataW.trod,j,Value.cells]⟩,rfl,rfl⟩
 ·rw[aW,c];exact sE u o _ _ _ _ v (λx y=>by have:=e.lt x y;simpa using this) w
 ·rw[aW,c,a];exact rfl
theorem Eh(s:ByteArray):bH (s.data.toList.map UInt8.toBitVec)=s:=by
 unfold bH;rw[List.map_map];have:(iE∘UInt8.toBitVec)=id:=by funext x;rfl
 rw[this,List.map_id]
theorem Cg{W:World}{a:Addr}{u:Value}(h:W.cell? a=some u):a.block<W.heap.size/\a.spot=none:=by
 unfold World.cell? at h;split at h
 case h_2=>simp at h
 rename_i b;refine⟨(eg.1 b).1,?_⟩;cases c:a.spot with
 |none=>rfl
 |some x=>simp[c]at h
section
variable{H:Type}{enc:TypeId×Value->H}{P:Program}{W:World}
def QF(_:Nat):Prop:=False
def wX(enc:TypeId×Value->H)(P:Program)(W:World)(t:TypeId)(T:Ty):Prop:=
 ∀(a:Nat)(b:List Value)(x:DataW H×List MemPlace),DataW.trod enc P W 0 (λ_=>true) true a t b=some x->∃d:T.den,Rd W QF T d b
theorem Ja{t:TypeId}(b:P.underlying t=some (.int .i64)):wX enc P W t .i64:=by
 intro a f x c;obtain⟨z,e,_⟩:=DataW.trod_int b c;exact⟨z,e⟩
theorem QG{t:TypeId}(b:P.underlying t=some (.int .u8)):wX enc P W t .u8:=by
 intro a c x e;obtain⟨z,f,_,g⟩:=DataW.trod_int b e;simp[Lit.wf,IntKind.min,IntKind.max,IntKind.signed,IntKind.bits]at g;refine⟨ae 8 z.toNat,?_⟩;show c=[cm _];rw[f];unfold cm;simp;omega
theorem QH{t:TypeId}(b:P.underlying t=some .string):wX enc P W t .st:=by
 intro a c x e;obtain⟨s,f,_⟩:=DataW.trod_string b e;refine⟨s.data.toList.map UInt8.toBitVec,?_⟩;show c=[.string (bH _)];rw[Eh,f]
theorem adp(b o i:Nat):Addr.add ⟨b,o,none⟩ i=⟨b,o+i,none⟩:=by
 unfold Addr.add;split<;>simp_all
theorem uS{t e:TypeId}{E:Ty}{ce:Nat}(U:P.underlying t=some (.slice e))(F:P.cellsOf e=ce)(h0:0<ce)(X:wX enc P W e E):wX enc P W t (.sl E):=by
 intro M cs x Y;rcases DataW.trod_slice U Y with⟨o,hx⟩|⟨a,len,cap,G,N,n,_,o,hx,_,hl,hm,O,r,J,_⟩
 ·exact⟨[],_,o, .inr ⟨rfl,none,rfl⟩⟩
 ·obtain⟨a0,Q⟩:=J rfl;rw[F]at r Q
  have one:∀i y,(W.cells? 0 (a.add (i*ce)) ce).bind (DataW.trod enc P W 0 (λ_=>true) true n e)=some y->∃(d:E.den)(b:List Value),Rd W QF E d b/\b.length=ce/\∀j u,b[j]?=some u->W.cell? ((a.add (i*ce)).add j)=some u:=by
   intro i y s;rw[Option.bind_eq_some_iff]at s;obtain⟨b,D,w⟩:=s;obtain⟨d,hd⟩:=X n b y w;obtain⟨_,v,c⟩:=World.cells?_some D;refine⟨d,b,hd,v,λj u f=>?_⟩;rw[c j (by rw[<-v];exact(cy.1 f).1),f]
  by_cases hc:cap=0
  ·have:len=0:=by omega
   subst this hc;exact⟨[],_,o, .inr ⟨rfl,some a,rfl⟩⟩
  have p:∃u,W.cell? ((a.add (0*ce)).add 0)=some u:=by
   by_cases hz:0<len
   ·have c:=r 0 hz;rw[ap (by omega)]at c;obtain⟨d,z,_,K,A⟩:=one 0 _ c;exact⟨_,A 0 z[0] (ap (by omega))⟩
   ·have c:=Q 0 (by omega);rw[ap (by omega)]at c;have L:len+0=0:=by omega
    rw[L]at c;obtain⟨d,z,_,K,A⟩:=one 0 _ c;exact⟨_,A 0 z[0] (ap (by omega))⟩
  obtain⟨u,f⟩:=p;rw[Nat.zero_mul]at f;obtain⟨R,S⟩:=Cg f;obtain⟨B,C,sub⟩:=a;simp[Addr.add]at R S;subst S;clear f
  have all:∀m,m<=len->∃(l:List E.den)(b:List Value),l.length=m/\b.length=m*ce/\dz (Rd W QF E) l b/\∀i u,b[i]?=some u->W.cell? ⟨B,C+i,none⟩=some u:=by
   intro m
   induction m with
   |zero=>intro _;exact⟨[],[],rfl,by simp,rfl,λi u h=>by simp at h⟩
   |succ m ih=>
    intro a1;obtain⟨l,b,s,D,w,v⟩:=ih (by omega);have c:=r m (by omega);rw[ap (by omega)]at c;obtain⟨d,z,L,K,A⟩:=one m _ c;refine⟨l++[d],b++z,by simp[s],by rw[aa,D,K,Nat.succ_mul],dz.append w (dz.one L),λi u f=>?_⟩;rcases bI i b.length with g|g
    ·rw[bU g]at f;exact v i u f
    ·rw[aU g]at f;have:=A _ u f;rw[adp,adp,eO,show m*ce+(i-b.length)=i by omega]at this;exact this
  obtain⟨l,b,s,D,w,v⟩:=all len (aD _);exact⟨l,_,o, .inl ⟨B,C,cap,b,by rw[s],by omega,R,λq=>q,w,v⟩⟩
inductive Ci (enc:TypeId×Value->H) (P:Program) (W:World):Nat->List (TypeId×Nat)->Ty->Prop
 |nil {o:Nat}:Ci enc P W o [] .un
 |one {o:Nat} {t:TypeId} {T:Ty}:wX enc P W t T->Ci enc P W o [(t,o)] T
 |cons {o:Nat} {t:TypeId} {r:List (TypeId×Nat)} {A B:Ty}:wX enc P W t A->Ci enc P W (o+P.cellsOf t) r B->Ci enc P W o ((t,o)::r) (.pr A B)
def cK(P:Program):List (TypeId×Nat)->Nat->Nat
 |[],o=>o
 |f::r,o=>cK P r (o+P.cellsOf f.1)
theorem Jb{n:Nat}{cs:List Value}{o:Nat}{ps:List (TypeId×Nat)}{T:Ty}(h:Ci enc P W o ps T):∀{xs:List (DataW H×List MemPlace)},cs.length=cK P ps o->
 (∀(i:Nat)(f:TypeId×Nat),ps[i]?=some f->DataW.trod enc P W 0 (λ_=>true) true n f.1 ((cs.drop f.2).take (P.cellsOf f.1))=xs[i]?)->xs.length=ps.length->∃d:T.den,Rd W QF T d (cs.drop o):=by
 induction h with
 |@nil o=>
  intro xs a _ _;have a:cs.length=o:=a;exact⟨(),by show cs.drop o=[];rw[<-a,List.drop_length]⟩
 |@one o t T l=>
  intro xs a c e;have a:cs.length=o+P.cellsOf t:=a;have p:=c 0 (t,o) rfl;rw[ap (by rw[e];exact Nat.zero_lt_one)]at p;obtain⟨d,j⟩:=l n _ _ p;rw[bf (by rw[cI];show cs.length-o<=P.cellsOf t;omega)]at j;exact⟨d,j⟩
 |@cons o t r A B l v q=>
  intro xs a c e
  obtain⟨x,xs,rfl⟩:∃x b,xs=x::b:=by
   cases xs with
   |nil=>simp at e
   |cons x b=>exact⟨x,b,rfl⟩
  obtain⟨d,j⟩:=l n _ x (by have:=c 0 (t,o) rfl;simpa using this);obtain⟨s,m⟩:=q (xs:=xs) a (λi g u=>by have:=c (i+1) g (by simpa using u);simpa using this) (by simpa using e);refine⟨(d,s),(cs.drop o).take (P.cellsOf t),cs.drop (o+P.cellsOf t),?_,j,m⟩;rw[<-jz,dI]
def VI(P:Program)(t:TypeId):Bool:=match P.underlying t with
 |some (.struct _)=>true
 |_=>false
def ry(P:Program)(t:TypeId):List (TypeId×Nat):=match P.underlying t with
 |some (.struct a)=>a.toList.map λf=>(f.type,f.offset)
 |_=>[]
theorem rA{t:TypeId}{T:Ty}{ps:List (TypeId×Nat)}(b:VI P t=true)(h:ry P t=ps)(m:Ci enc P W 0 ps T)(o:P.cellsOf t=cK P ps 0):wX enc P W t T:=by
 intro j p x c;unfold VI at b;split at b
 case h_2=>cases b
 rename_i q a;have e:ry P t=q.toList.map λf=>(f.type,f.offset):=by unfold ry;rw[a]
 rw[e]at h;subst h;obtain⟨r,n,_,rfl,s,u,c⟩:=DataW.trod_struct a c
 have:=Jb (cs:=p) m (xs:=r) (by rw[s,o]) (λi f l=>by
  rw[List.getElem?_map]at l;obtain⟨g,v,rfl⟩:=mj.1 l;exact c i g (by simpa using v)) (by simpa using u)
 simpa using this
end
theorem Jc{P:Program}{f:FuncId}{a:Ct}(h:bS P f a)(x:a.inp.den){Q:cw a.out->Prop}(p:(a.spec x).sat Q){W:World}{vals:List Value}(r:vals.length=a.nargs)(hh:a.inp.hp=[])(s:F2 (aT W QF (λ_=> .un)) (oz a.inp a.nargs (a.inp.get x)) vals):
 Calls P f vals.toArray W λe i=>Below W.heap.size W i/\∃(ρ':Nat->Pl)(y:cw a.out)(vs:List Value)(A:Nat->Prop),Q y/\e= .returned (kU vs)/\F2 (yg i A ρ') (SP.res ib (cY a.out y.1).sl ((cY a.out y.1).get y.2).1) vs:=by
 have j:ee a.inp (a.inp.get x)=λ_=>none:=by
  unfold ee;funext k;generalize(a.inp.get x).2=v;revert v;rw[hh];intro v;rfl
 have t:Av (λ_=>False) (λ_=>Pl.un) (ee a.inp (a.inp.get x))=QF:=by
  rw[j];funext b;refine propext ⟨λq=>?_,λq=>False.elim q⟩;rcases q with q|⟨k,c,l,_⟩
  ·exact q
  ·cases l
 refine(h x Q p (λ_=>False) (λ_=> .un) W vals r ?_ (by rw[t];exact s) (λ_ _=>rfl)).mono λe i⟨y,u,ρ',vs,l,B,w,C,g,D⟩=>?_
 ·rw[j];exact⟨λk c h=>(by cases h),λk E c F b h=>(by cases h),λk c b h=>(by cases h),λk m G J n o h=>(by cases h),λb h=>False.elim h⟩
 ·rw[j]at g;exact⟨⟨g.os,g.tape,g.output,g.size,λb z=>g.block b z λ⟨k,c,q,_⟩=>(by cases q)⟩,ρ',y,vs,_,u,l,w⟩
end
end Go.Hv
namespace Go.Tp
open Go.Hv Go.Proofs Go.RowKit
set_option maxRecDepth 100000
set_option maxHeartbeats 0
abbrev BL:=List (BitVec 8)
abbrev tB:Ty:= .sl .u8
theorem sF:Tryz.prog.follows .mixedOrders=true:=by kernel_rfl
theorem gs0:aQ Tryz.prog []:=λ_ h=>by simp at h
theorem tl0:bg []:=λ_ h=>by simp at h
def KK(T:bw):Prop:=aQ Tryz.prog T/\bg T
theorem oE{A:Prop}(B:Prop)(b:B)(e:A=B:=by kernel_rfl):A:=e▸b
def Br(c:Bool)(A B:Prop):Prop:=(c=true->A)/\(c=false->B)
def Bd(c:Prop)[Decidable c](A B:Prop):Prop:=(decide c=true->A)/\(decide c=false->B)
def nI{α:Type}(l:List α):Int:=(↑l.length:Int)
def iN{α:Type}(e:Int)(l:List α):Prop:=0<=e/\e<(↑l.length:Int)
def gD{α:Type}(l:List α)(i:Int)(z:α):α:=l.getD i.toNat z
def lN(a b:Int):Prop:=a.toNat<b.toNat
def bd(c:Ct)(x:c.inp.den)(Q:cw c.out->Prop):Prop:=(c.spec x).sat Q
def mM:Nat:=140737488355328
theorem Cj{P:Program}{f:FuncId}{n:Nat}(h:Cf P f n=true):eY P f=true:=by
 unfold Cf at h;exact(aI _ _▸h).1
theorem kC{T:bw}{n:FuncId}{c:Ct}(K:KK T)(A:c.inp.den->dB)(B:Prop)(b:B)(e:ix Tryz.prog T n c A=B:=by kernel_rfl)(h:Cf Tryz.prog n c.nargs=true:=by kernel_rfl):bS Tryz.prog n c:=du K.1 K.2 sF h (oE B b e)
theorem kA{T:bw}{n:FuncId}{c:Ct}(K:KK T)(A:c.inp.den->dB)(B:Prop)(b:B)(e:ix Tryz.prog T n c A=B:=by kernel_rfl)(h:Cf Tryz.prog n c.nargs=true:=by kernel_rfl)(l:∀x,Live (c.spec x):=by exact λ_=>bJ):KK ((n,[c])::T):=⟨aQ.add K.1 (Cj h) (bo (kC K A B b e h)),bg.add K.2 (bo l)⟩
def sB(i:Nat):Nat×Bool×List IP:=(i,false,[.d tB])
def sI(i:Nat):Nat×Bool×List IP:=(i,false,[.d .i64])
def sO(i j:Nat):Nat×Bool×List IP:=(i,false,[.own j])
def cB:Option CP:=some (.sl .u8)
def oB:cg:=⟨[sO 0 0],[cB]⟩
def lI:Nat->Nat->BL
 |0,n=>[ae 8 n]
 |k+1,n=>if n<128 then[ae 8 n]else ae 8 (n % 128+128)::lI k (n/128)
def vn(n:Int):BL:=lI 6 (min (max n 0) 1099511627776).toNat
theorem VJ{n:Int}(h:0<=n):bits .or .i64 (bits .and .i64 n 127) 128=n % 128+128:=by
 rw[i64_and127];have a:bits .or .i64 (n % 128) 128=bits .or .i64 128 (n % 128):=by simp only[bits,BitVec.or_comm]
 rw[a,bits_join .i64 63 (by decide) (λm b c=>by rw[dm];omega) 7 128 (n % 128) (by decide) (by decide) (by decide) (by omega) (by omega) (by omega)];omega
theorem ofI{n:Int}(h:0<=n):bi 8 n=ae 8 n.toNat:=by
 obtain⟨m,rfl⟩:=bR h;rfl
theorem Jd{n:Int}(h0:0<=n)(h:n<=127)(k:Nat):lI k n.toNat=[bi 8 n]:=by
 rw[ofI h0];cases k with
 |zero=>rfl
 |succ k=>simp only[lI];rw[am (by omega)]
theorem Je{n:Int}{k:Nat}{b r:BL}(h0:0<=n)(h:127<n)(f:n<128^(k+1))(g:b++lI k n.toNat=r):∃a,k=a+1/\n.fdiv 128<128^(a+1)/\0<=n.fdiv 128/\
 b++[bi 8 (bits .or .i64 (bits .and .i64 n 127) 128)]++lI a (n.fdiv 128).toNat=r/\(n.fdiv 128).toNat<n.toNat:=by
 obtain⟨m,rfl⟩:=bR h0;have e:((m:Int)).fdiv 128=((m/128:Nat):Int):=by rw[Int.fdiv_eq_ediv_of_nonneg _ (by decide)];omega
 have c:m<128^(k+1):=by exact_mod_cast f
 cases k with
 |zero=>omega
 |succ k=>
  refine⟨k,rfl,?_,by omega,?_,by omega⟩
  ·rw[e];have:m/128<128^(k+1):=Nat.div_lt_of_lt_mul (by rw[Nat.mul_comm,<-Nat.pow_succ];exact c)
   exact_mod_cast this
  ·rw[VJ h0,<-g,e];simp only[aF,lI];rw[af (by omega),ofI (by omega)];have:((m:Int) % 128+128).toNat=m % 128+128:=by omega
   rw[this];simp
def nuC:Ct:=⟨2,⟨[sB 0,sI 1],[]⟩,[oB],λx=>one (x.1.length<=1099511627776) (x.1++vn x.2.1,())⟩
def nuP:cg:=⟨[sI 1,(5,false,[.own 0])],[some (.sl .u8)]⟩
def Jf(b:BL)(n m:Int)(c:BL):Prop:=∃k,m<128^(k+1)/\k<=6/\0<=m/\c++lI k m.toNat=b++vn n/\c.length+k<=b.length+6
def nuA(x:nuC.inp.den):dB:=⟨[],[],[(1,0,bK nuP (λy=>Jf x.1 x.2.1 y.1 y.2.1) λy=>y.1.toNat)],[],0⟩
theorem wY{b c:BL}{n m:Int}(h:Jf b n m c)(a:127<m):Jf b n (m.fdiv 128) (c++[bi 8 (bits .or .i64 (bits .and .i64 m 127) 128)])/\(m.fdiv 128).toNat<m.toNat:=by
 obtain⟨k,e,q,f,g,r⟩:=h;obtain⟨i,rfl,j,l,o,p⟩:=Je f a e g;exact⟨⟨i,j,by omega,l,o,by simp;omega⟩,p⟩
theorem wZ{b c:BL}{n m:Int}(h:Jf b n m c)(a:m<=127):c++[bi 8 m]=b++vn n:=by
 obtain⟨k,g,i,e,f,j⟩:=h;rw[<-f,Jd e a]
theorem Ck(b:BL)(n:Int):Jf b n (min (max n 0) 1099511627776) b:=⟨6,by omega,by omega,by omega,rfl,by omega⟩
abbrev VK(v:BL×Unit):cw nuC.out:=⟨0,v⟩
def VL:bw:=(123,[nuC])::[]
theorem a0t:KK VL:=kA ⟨gs0,tl0⟩ nuA (∀(b:BL)(a:Int)(Q:cw nuC.out->Prop),let g:=127<min (max a 0) 1099511627776;let z:=min (max a 0) 1099511627776;let e:=bits BinOp.or gO (bits BinOp.and gO z 127) 128;(Tr.need (b.length<=1099511627776) (Tr.leaf (VK (b++vn a,())))).sat Q->true=true/\((0+b.length)*1<=mM/\Br (decide g) ((b.length+[bi 8 e].length)*1<=mM/\Is (Jf b a (z.fdiv 128) (b++[bi 8 e]))) ((b.length+[bi 8 z].length)*1<=mM/\Q ⟨0,b++[bi 8 z],()⟩))/\∀(c:Int)(d:BL),let f:=bits BinOp.or gO (bits BinOp.and gO c 127) 128;Jf b a c d->Bd (127<c) ((d.length+[bi 8 f].length)*1<=mM/\Is (Jf b a (c.fdiv 128) (d++[bi 8 f])/\(c.fdiv 128).toNat<c.toNat)) ((d.length+[bi 8 c].length)*1<=mM/\Q ⟨0,d++[bi 8 c],()⟩)) (by
 conv=>zeta
 unfold Bd Br mM;intro b n Q ⟨l,f⟩;have g:=Ck b n;have i:∀{m c},Jf b n m c->c.length<=b.length+6:=λ⟨_,_,_,_,_,q⟩=>by omega
 have j:∀y:BL,y=b++vn n->Q ⟨0,(y,())⟩:=λy e=>by rw[e];exact f
 clear f;refine⟨rfl,⟨by omega,λh=>⟨by simp;omega,⟨(wY g (by simpa using h)).1⟩⟩,λh=>⟨by simp;omega,j _ (wZ g (by simpa using h))⟩⟩,λm c a=>⟨λh=>⟨?_,⟨wY a (by simpa using h)⟩⟩,λh=>⟨?_,j _ (wZ a (by simpa using h))⟩⟩⟩
 ·have:=i a;simp;omega
 ·have:=i a;simp;omega)
def rH:List (Option CP):=[some (.cells [.d tB, .d .i64, .d .bl, .d .i64])]
def sP(i:Nat):Nat×Bool×List IP:=(i,false,[.ptr 0 0])
def sL(i:Nat):Nat×Bool×List IP:=(i,false,[.d .bl])
abbrev bQ(b:BL)(a:Int):Prop:=b.length<=1099511627776/\0<=a/\a<=b.length
def txC:Ct:=⟨2,⟨[sB 0,sB 1],[]⟩,[oB],λx=>one (x.1.length+x.2.1.length<=1099511627776) (x.1++(vn x.2.1.length++x.2.1),())⟩
theorem An:∀(k n:Nat),(lI k n).length<=k+1
 |0,_=>by simp[lI]
 |k+1,n=>by
  simp only[lI];split
  ·simp
  ·have:=An k (n/128);simp;omega
theorem bz(n:Int):(vn n).length<=7:=An 6 _
abbrev VM(v:BL×Unit):cw txC.out:=⟨0,v⟩
def VN:bw:=(110,[txC])::VL
theorem a0u:KK VN:=kA a0t (cE txC 0) (∀(b a:BL)(Q:cw txC.out->Prop),(Tr.need (b.length+a.length<=1099511627776) (Tr.leaf (VM (b++(vn (nI a)++a),())))).sat Q->b.length<=1099511627776/\((b++vn (nI a)).length+a.length)*1<=mM/\Q ⟨0,b++vn (nI a)++a,()⟩) (by
 unfold mM nI;intro b x Q ⟨f,a⟩;have:=bz x.length;have c:∀y:BL,y=b++(vn x.length++x)->Q ⟨0,(y,())⟩:=λy e=>by rw[e];exact a
 clear a;refine⟨by omega,by simp;omega,c _ (by simp)⟩)
def wrC:Ct:=⟨1,⟨[sB 0],[]⟩,[⟨[sP 0],rH⟩],λx=>one (x.1.length<=1099511627776) (x.1,0,true,0,())⟩
abbrev VO(v:BL×Int×Bool×Int×Unit):cw wrC.out:=⟨0,v⟩
def VP:bw:=(24,[wrC])::VN
theorem a0v:KK VP:=kA a0u (cE wrC 0) (∀(a:BL)(Q:cw wrC.out->Prop),let z:=VO (a,0,true,0,());(Tr.need (a.length<=1099511627776) (Tr.leaf z)).sat Q->(0+a.length)*1<=mM/\Q z) (by
 conv=>zeta
 unfold mM;intro b Q ⟨c,a⟩;exact⟨by omega,a⟩)
def leC:Ct:=⟨1,⟨[sP 0],rH⟩,[⟨[sI 0],rH⟩],λ(b,a,m,e,_)=>one (bQ b a) (b.length-a,b,a,m,e,())⟩
def VQ:bw:=(63,[leC])::VP
theorem a0w:KK VQ:=kA a0v (cE leC 0) (∀(a:BL)(b:Int)(c:Bool)(d:Int)Q,bd leC (a,b,c,d,()) Q->ac (nI a-b)/\Q ⟨0,nI a-b,a,b,c,d,()⟩) (by
 unfold nI bd;intro b a m e Q ⟨f,c⟩;exact⟨by unfold ac;omega,c⟩)
def fiC:Ct:=⟨1,⟨[sP 0],rH⟩,[⟨[sL 0],rH⟩],λ(b,a,m,e,_)=>one True (m&&e==0,b,a,m,e,())⟩
def VR:bw:=(96,[fiC])::VQ
theorem a0x:KK VR:=kA a0w (cE fiC 0) (∀(c:BL)(d:Int)(a:Bool)(b:Int)Q,bd fiC (c,d,a,b,()) Q->Br a (Q ⟨0,b==0,c,d,a,b,()⟩) (Q ⟨0,false,c,d,a,b,()⟩)) (by
 unfold Br bd;intro b a m e Q ⟨_,c⟩;cases m<;>exact⟨λh=>by first|exact c|simp at h,λh=>by first|exact c|simp at h⟩)
def erC:Ct:=⟨1,⟨[sP 0],rH⟩,[⟨[sI 0],rH⟩],λ(b,a,m,e,_)=>one True (if m then e else 5,b,a,m,e,())⟩
def VS:bw:=(62,[erC])::VR
theorem a0y:KK VS:=kA a0x (cE erC 0) (∀(c:BL)(d:Int)(a:Bool)(b:Int)Q,bd erC (c,d,a,b,()) Q->Br (!a) (Q ⟨0,5,c,d,a,b,()⟩) (Q ⟨0,b,c,d,a,b,()⟩)) (by
 unfold Br bd;intro b a m e Q ⟨_,c⟩;cases m<;>exact⟨λh=>by first|exact c|simp at h,λh=>by first|exact c|simp at h⟩)
def cK(b:BL)(a:Int)(m:Bool)(e:Int):Int:=if(if m then e else 5)≠0 then(if m then e else 5)else if 0<(b.length:Int)-a then 4 else 0
def edC:Ct:=⟨1,⟨[sP 0],rH⟩,[⟨[sI 0],rH⟩],λ(b,a,m,e,_)=>one (bQ b a) (cK b a m e,b,a,m,e,())⟩
def VT:bw:=(26,[edC])::VS
theorem a0z:KK VT:=kA a0y (cE edC 0) (∀(a:BL)(b:Int)(c:Bool)(d:Int)Q,let e:=(a,b,c,d,());let z:= !(if c=true then d else 5)==0;bd edC (a,b,c,d,()) Q->True/\Br z (Q ⟨0,if c=true then d else 5,e⟩) (bQ a b/\Bd (0<nI a-b) (Q ⟨0,4,e⟩) (Q ⟨0,0,e⟩))) (by
 conv=>zeta
 unfold Bd Br nI bd;intro b a m e Q ⟨g,f⟩;have c:∀y:Int,y=cK b a m e->Q ⟨0,(y,b,a,m,e,())⟩:=λy e=>by rw[e];exact f
 clear f;refine⟨trivial,λh=>c _ ?_,λh=>⟨g,λi=>c _ ?_,λi=>c _ ?_⟩⟩<;>clear c<;>grind[cK])
def flC:Ct:=⟨2,⟨[sP 0,sI 1],rH⟩,[⟨[],rH⟩],λ(x,b,a,m,e,_)=>one True (b,a,m,if m&&e==0 then x else e,())⟩
def VU:bw:=(61,[flC])::VT
theorem a00:KK VU:=kA a0z (cE flC 0) (∀(e:Int)(c:BL)(d:Int)(a:Bool)(b:Int)Q,bd flC (e,c,d,a,b,()) Q->True/\Br (a&&b==0) (Q ⟨0,c,d,a,e,()⟩) (Q ⟨0,c,d,a,b,()⟩)) (by
 unfold Br bd;intro x b a m e Q ⟨_,f⟩;have c:∀y:Int,y=(if m&&e==0 then x else e)->Q ⟨0,(b,a,m,y,())⟩:=λy e=>by rw[e];exact f
 refine⟨trivial,λh=>c _ ?_,λh=>c _ ?_⟩<;>simp[h])
def fO:Nat->Nat->BL->Int×Int×Int
 |_,_,[]=>(0,0,3)
 |m,s,c::r=>
  if 127<c.toNat/\s+1<6 then fO (m+c.toNat % 128*128^s) (s+1) r
  else if 127<c.toNat\/(c.toNat=0/\0<s)then(0,0,5)
  else if 1099511627776<m+c.toNat % 128*128^s then(0,0,6)
  else((m+c.toNat % 128*128^s:Nat),(s+1:Nat),0)
theorem QI(n:Int)(h: -9223372036854775808<=n/\n<=9223372036854775807):IntKind.i64.wrap n=n:=by rw[dm];omega
theorem QJ(c:BitVec 8):(c&&&ae 8 127).toNat=c.toNat % 128:=by
 rw[BitVec.toNat_and,show(ae 8 127).toNat=2^7-1 from rfl,Nat.and_two_pow_sub_one_eq_mod]
theorem Jg{m k:Nat}(c:BitVec 8)(l:k<6)(e:m<128^k):bits .or .i64 (m:Int) (IntKind.i64.wrap (((c&&&ae 8 127).toNat:Int)*2^(7*k)))=((m+c.toNat % 128*128^k:Nat):Int):=by
 rw[QJ];have b:(2:Int)^(7*k)=((128^k:Nat):Int):=by rw[Int.pow_mul];norm_cast
 have f:128^k<=34359738368:=by
  have:k=0\/k=1\/k=2\/k=3\/k=4\/k=5:=by omega
  rcases this with rfl|rfl|rfl|rfl|rfl|rfl<;>decide
 have g:c.toNat % 128<128:=Nat.mod_lt _ (by decide);generalize c.toNat % 128=d at g;generalize 128^k=p at b f e;have n:d*p<=127*34359738368:=Nat.mul_le_mul (by omega) f;have h:((d:Int)*(2:Int)^(7*k))=((d*p:Nat):Int):=by rw[b];push_cast;rfl
 have i:((d*p:Nat):Int) % 2^(7*k)=0:=by rw[b];norm_cast;exact Nat.mul_mod_left _ _
 have j:(m:Int)<2^(7*k):=by rw[b];exact_mod_cast e
 rw[h,QI _ (by omega)];have a:∀x y:Int,bits .or .i64 x y=bits .or .i64 y x:=λx y=>by simp only[bits,BitVec.or_comm]
 rw[a,bits_join .i64 63 (by decide) (λm o q=>QI _ (by omega)) (7*k) ((d*p:Nat):Int) m (by omega) i (by omega) (by omega) j (by omega)]
 push_cast
 exact Int.add_comm _ _
theorem QK{m k:Nat}{b:BL}{j:Nat}(a:j<b.length):fO m k (b.drop j)=
 (if 127<(b.getD j 0).toNat/\k+1<6 then fO (m+(b.getD j 0).toNat % 128*128^k) (k+1) (b.drop (j+1))
 else if 127<(b.getD j 0).toNat\/((b.getD j 0).toNat=0/\0<k)then(0,0,5)
 else if 1099511627776<m+(b.getD j 0).toNat % 128*128^k then(0,0,6)
 else((m+(b.getD j 0).toNat % 128*128^k:Nat),(k+1:Nat),0)):=by
 rw[List.drop_eq_getElem_cons a];simp only[fO,bB,ap a,di]
def nxP:cg:=⟨[sP 0,sI 5,sI 6,sI 7],rH⟩
def Jh(b:BL)(a:Int)(n s h:Int):Prop:=∃m k:Nat,n=m/\s=k/\h=7*k/\k<6/\m<128^k/\a+k<=b.length/\fO m k (b.drop (a.toNat+k))=fO 0 0 (b.drop a.toNat)
def nxC:Ct:=⟨1,⟨[sP 0],rH⟩,[⟨[sI 0,sI 1,sI 2],rH⟩],λ(b,a,m,e,_)=>one (bQ b a) ((fO 0 0 (b.drop a.toNat)).1,(fO 0 0 (b.drop a.toNat)).2.1,(fO 0 0 (b.drop a.toNat)).2.2,b,a,m,e,())⟩
def nxA(x:nxC.inp.den):dB:=⟨[],[],[(1,0,bK nxP (λy=>(y.2.2.2.1,y.2.2.2.2.1,y.2.2.2.2.2.1,y.2.2.2.2.2.2.1)=(x.1,x.2.1,x.2.2.1,x.2.2.2.1)/\Jh x.1 x.2.1 y.1 y.2.1 y.2.2.1) λy=>6-y.2.1.toNat)],[],0⟩
structure NxR(b:BL)(a:Int)(s h:Int)(c:Nat)(v:Int):Prop where
 lt:a+s<b.length
 s0:0<=s/\s<6/\h=7*s
 more:127<c->s+1<6->Jh b a v (s+1) (h+7)
 bad:(127<c/\6<=s+1)\/(c=0/\0<s)->fO 0 0 (b.drop a.toNat)=(0,0,5)
 big:c<=127->(c=0->s<=0)->1099511627776<v->fO 0 0 (b.drop a.toNat)=(0,0,6)
 good:c<=127->(c=0->s<=0)->v<=1099511627776->fO 0 0 (b.drop a.toNat)=(v,s+1,0)
theorem w6{b:BL}{a n s h:Int}(u:bQ b a)(w:Jh b a n s h)(A:s≠b.length-a){c:BitVec 8}(j:b.getD (a+s).toNat 0=c):
 NxR b a s h c.toNat (bits .or .i64 n (IntKind.i64.wrap (((c&&&ae 8 127).toNat:Int)*2^h.toNat))):=by
 obtain⟨m,k,rfl,rfl,rfl,x,l,y,f⟩:=w;obtain⟨B,C,D⟩:=u;have q:(a+(k:Int)).toNat=a.toNat+k:=by omega
 have r:(7*(k:Int)).toNat=7*k:=by omega
 have o:a.toNat+k<b.length:=by omega
 rw[q]at j;rw[r,Jg _ x l];rw[QK o,j]at f
 have e:m+c.toNat % 128*128^k<128^(k+1):=by
  have:c.toNat % 128<128:=Nat.mod_lt _ (by decide);rw[Nat.pow_succ];generalize 128^k=p at l;have:c.toNat % 128*p<=127*p:=Nat.mul_le_mul (by omega) (aD _);omega
 have g:a+((k+1:Nat):Int)<=b.length:=by omega
 generalize m+c.toNat % 128*128^k=v at f e;generalize c.toNat=c at f;clear l q r j;refine⟨by omega,by omega,λi t=>?_,λi=>?_,λi t z=>?_,λi t z=>?_⟩
 ·refine⟨v,k+1,rfl,by omega,by omega,by omega,e,g,?_⟩;rw[am ⟨i,by omega⟩]at f;exact f
 ·clear e;rw[<-f,af (by omega),am (by omega)]
 ·clear e;rw[<-f,af (by omega),af (by omega),am (by omega)]
 ·clear e;rw[<-f,af (by omega),af (by omega),af (by omega)]
  norm_cast
theorem Ji(b:BL)(a:Int)(c:bQ b a):Jh b a 0 0 0:=⟨0,0,rfl,rfl,rfl,by omega,by decide,by have:=c.2.2;omega,rfl⟩
theorem Ei{b:BL}{a n s h:Int}(c:bQ b a)(e:Jh b a n s h)(i:s=b.length-a):fO 0 0 (b.drop a.toNat)=(0,0,3):=by
 obtain⟨m,k,rfl,rfl,rfl,j,l,f,g⟩:=e;obtain⟨o,p,q⟩:=c;rw[<-g,bC (by omega)];rfl
def VV:bw:=(97,[nxC])::VU
theorem QL:KK VV:=kA a00 nxA (∀(e:BL)(d:Int)(j:Bool)(k:Int)Q,let l:=(e,d,j,k,());let v:=gD e (d+0) (ae 8 0)==ae 8 0;let r:=127<(gD e (d+0) (ae 8 0)).toNat;let n:=IntKind.i64.wrap ((↑(gD e (d+0) (ae 8 0)&&&ae 8 127).toNat:Int)*1);let o:=1099511627776<bits BinOp.or gO 0 n;let s:=Br (decide o) (Q ⟨0,0,0,6,l⟩) (Q ⟨0,bits BinOp.or gO 0 n,1,0,l⟩);bd nxC (e,d,j,k,()) Q->true=true/\(bQ e d/\Br (0==nI e-d) (Q ⟨0,0,0,3,l⟩) (ac (d+0)/\iN (d+0) e/\Br (decide r) (Is ((e,d,j,k)=(e,d,j,k)/\Jh e d (bits BinOp.or gO 0 n) 1 7)) (Br (decide r) (Q ⟨0,0,0,5,l⟩) (Br v s s))))/\∀(i b f:Int)(c:BL)(a:Int)(g:Bool)(h:Int),let m:=(c,a,g,h,());let w:=gD c (a+b) (ae 8 0)==ae 8 0;let t:=127<(gD c (a+b) (ae 8 0)).toNat;let p:=IntKind.i64.wrap ((↑(gD c (a+b) (ae 8 0)&&&ae 8 127).toNat:Int)*2^min f.toNat 64);let q:=1099511627776<bits BinOp.or gO i p;let z:=Br (decide q) (Q ⟨0,0,0,6,m⟩) (Q ⟨0,bits BinOp.or gO i p,b+1,0,m⟩);let u:=Br (decide t) (Q ⟨0,0,0,5,m⟩) (Br w (Bd (1<b+1) (Q ⟨0,0,0,5,m⟩) z) z);(c,a,g,h)=(e,d,j,k)/\Jh e d i b f->bQ c a/\Br (b==nI c-a) (Q ⟨0,0,0,3,m⟩) (ac (a+b)/\iN (a+b) c/\decide (0<=f)=true/\ac (b+1)/\ac (f+7)/\Br (decide t) (Bd (b+(1:Int)<6) (Is (((c,a,g,h)=(e,d,j,k)/\Jh e d (bits BinOp.or gO i p) (b+1) (f+7))/\6-(b+1).toNat<6-b.toNat)) u) u)) (by
 conv=>zeta
 unfold Bd Br gD iN nI bd;intro b a w e Q ⟨m,o⟩;have f:∀y:Int×Int×Int,fO 0 0 (b.drop a.toNat)=y->Q ⟨0,(y.1,y.2.1,y.2.2,b,a,w,e,())⟩:=λy e=>by rw[<-e];exact o
 clear o
 have p:∀c:BitVec 8,(c==ae 8 0)=true↔c.toNat=0:=λc=>by
  rw[aR];exact⟨λh=>by rw[h];rfl,λh=>BitVec.eq_of_toNat_eq h⟩
 have z:Jh b a 0 0 0:=Ji b a m;have g:=m;obtain⟨A,B,C⟩:=m;refine⟨rfl,⟨g,λh=>f (0,0,3) (Ei g z (by simpa using h)),λh=>?_⟩,?_⟩
 ·have r:=w6 g z (by simpa using h) (c:=b.getD (a+0).toNat (ae 8 0)) rfl;have l:(2:Int)^(0:Int).toNat=1:=rfl;rw[l]at r;have x:=r.lt;generalize b.getD (a+0).toNat (ae 8 0)=c at r;generalize bits .or .i64 0 (IntKind.i64.wrap (((c&&&ae 8 127).toNat:Int)*1))=v at r;refine⟨by unfold ac;omega,by omega,?_⟩;clear h z
  (repeat' (first|apply cc|intro _))<;>(try simp only[ai,<-cd,p]at*)<;>first
   |(exact⟨⟨trivial,r.more (by omega) (by omega)⟩⟩)
   |(exact f (0,0,5) (r.bad (by omega)))
   |(exact f (0,0,6) (r.big (by omega) (by omega) (by omega)))
   |(exact f (_,_,0) (r.good (by omega) (by omega) (by omega)))
   |omega
 ·clear z;intro n s h q t D E i;obtain⟨j,i⟩:=i;simp only[Prod.mk.injEq]at j;obtain⟨rfl,rfl,rfl,rfl⟩:=j;refine⟨g,λh=>f (0,0,3) (Ei g i (by simpa using h)),λu=>?_⟩;have r:=w6 g i (by simpa using u) (c:=q.getD (t+s).toNat (ae 8 0)) rfl;have x:=r.lt;obtain⟨F,G,H⟩:=r.s0;have l:min h.toNat 64=h.toNat:=by omega
  rw[l];generalize q.getD (t+s).toNat (ae 8 0)=c at r;generalize bits .or .i64 n (IntKind.i64.wrap (((c&&&ae 8 127).toNat:Int)*2^h.toNat))=v at r;refine⟨by unfold ac;omega,by omega,by simp;omega,by unfold ac;omega,by unfold ac;omega,?_⟩;clear u i l
  (repeat' (first|apply cc|intro _))<;>(try simp only[ai,<-cd,p]at*)<;>first
   |(exact⟨⟨⟨trivial,r.more (by omega) (by omega)⟩,by omega⟩⟩)
   |(exact f (0,0,5) (r.bad (by omega)))
   |(exact f (0,0,6) (r.big (by omega) (by omega) (by omega)))
   |(exact f (_,_,0) (r.good (by omega) (by omega) (by omega)))
   |omega)
theorem w7:∀(l:BL)(m s:Nat),(fO m s l).2.2=0->((s:Int)<(fO m s l).2.1/\(fO m s l).2.1<=s+l.length)/\0<=(fO m s l).1/\(fO m s l).1<=1099511627776
 |[],m,s,h=>by simp[fO]at h
 |c::r,m,s,h=>by
  simp only[fO]at h⊢;split
  ·rename_i a;rw[am a]at h;have:=w7 r _ _ h;simp only[ba]
   push_cast at this⊢
   omega
  ·rename_i a;rw[af a]at h;split
   ·rename_i b;rw[am b]at h;simp at h
   ·rename_i b;rw[af b]at h;split
    ·rename_i e;rw[am e]at h;simp at h
    ·rename_i e;have f:((m+c.toNat % 128*128^s:Nat):Int)<=1099511627776:=by omega
     have g:(0:Int)<=((m+c.toNat % 128*128^s:Nat):Int):=by omega
     refine⟨⟨?_,?_⟩,g,f⟩
     ·show(s:Int)<((s+1:Nat):Int);omega
     ·show((s+1:Nat):Int)<=_;simp only[ba];omega
def cW(b:BL)(a:Int)(m:Bool)(e lo hi:Int):Int×Int×Int:=
 if(m&&e==0)=true then
  if(fO 0 0 (b.drop a.toNat)).2.2=0 then
   if(fO 0 0 (b.drop a.toNat)).1<lo\/hi<(fO 0 0 (b.drop a.toNat)).1 then(0,a,6)
   else((fO 0 0 (b.drop a.toNat)).1,a+(fO 0 0 (b.drop a.toNat)).2.1,e)
  else(0,a,(fO 0 0 (b.drop a.toNat)).2.2)
 else(0,a,e)
def VW:Ct:=⟨3,⟨[sP 0,sI 1,sI 2],rH⟩,[⟨[sI 0],rH⟩],λ(c,f,b,a,m,e,_)=>one (bQ b a) ((cW b a m e c f).1,b,(cW b a m e c f).2.1,m,(cW b a m e c f).2.2,())⟩
abbrev VX(v:Int×BL×Int×Bool×Int×Unit):cw VW.out:=⟨0,v⟩
theorem LC:bS Tryz.prog 52 VW:=kC QL (cE VW 0) (∀(e f:Int)(b:BL)(a:Int)(c:Bool)(d:Int)Q,let g:=VX (0,b,a,c,6,());let z:=fO 0 0 (List.drop a.toNat b);let h:=Br (!z.2.2==0) (Q ⟨0,0,b,a,c,z.2.2,()⟩) (ac (a+z.2.1)/\Q ⟨0,z.1,b,a+z.2.1,c,d,()⟩);bd VW (e,f,b,a,c,d,()) Q->True/\Br (!(c&&d==0)) (Q ⟨0,0,b,a,c,d,()⟩) (bQ b a/\Br (z.2.2==0) (Bd (z.1<e) (Q g) (Bd (f<z.1) (Q g) h)) h)) (by
 conv=>zeta
 unfold Bd Br bd;intro f i b a m e Q ⟨p,n⟩;have c:∀y:Int×Int×Int,cW b a m e f i=y->Q ⟨0,(y.1,b,y.2.1,m,y.2.2,())⟩:=λy e=>by rw[<-e];exact n
 clear n;have j:=w7 (b.drop a.toNat) 0 0;obtain⟨q,r,s⟩:=p;rw[cI]at j;generalize l:fO 0 0 (b.drop a.toNat)=g at j;have o:cW b a m e f i=if(m&&e==0)=true then if g.2.2=0 then if g.1<f\/i<g.1 then(0,a,6)else(g.1,a+g.2.1,e)else(0,a,g.2.2)else(0,a,e):=by rw[cW,l]
 rw[o]at c;clear o;refine⟨trivial,λh=>c (0,a,e) (af (by rw[aP]at h;rw[h];decide)),λh=>⟨⟨q,r,s⟩,?_⟩⟩;rw[aK]at h;rw[am h]at c;clear h
 (repeat' (first|apply cc|intro _))<;>(try simp only[ai,aj,aR,az,aP,aK]at*)<;>first
  |(exact c (0,a,6) (by grind))
  |(exact c (0,a,g.2.2) (by grind))
  |(exact c (g.1,a+g.2.1,e) (by grind))
  |(have:=j (by assumption);omega)
  |(exfalso;omega))
def VY:bw:=(52,[VW])::VV
theorem a01:KK VY:=⟨aQ.add QL.1 (by kernel_rfl) (bo LC),bg.add QL.2 (bo (λ_=>bJ))⟩
def xW(b:BL)(a:Int)(m:Bool)(e n:Int):BL×Int×Int:=
 if(m&&e==0)=true then
  if n<1 then([],a,e)else if(b.length:Int)-a<n then([],a,3)else((b.take (a+n).toNat).drop a.toNat,a+n,e)
 else([],a,e)
def rfC:Ct:=⟨2,⟨[sP 0,sI 1],rH⟩,[⟨[sO 0 1],rH++[cB]⟩],λ(n,b,a,m,e,_)=>one (bQ b a) (b,(xW b a m e n).2.1,m,(xW b a m e n).2.2,(xW b a m e n).1,())⟩
abbrev VZ(v:BL×Int×Bool×Int×BL×Unit):cw rfC.out:=⟨0,v⟩
def V0:bw:=(98,[rfC])::VY
theorem QM:KK V0:=kA a01 (cE rfC 0) (∀(b:Int)(c:BL)(a:Int)(d:Bool)(e:Int)Q,let f:=(a+b).toNat-a.toNat;let z:=VZ (c,a,d,e,[],());bd rfC (b,c,a,d,e,()) Q->True/\Br (!(d&&e==0)) (Q z) (Bd (b<1) (Q z) (bQ c a/\Bd (nI c-a<b) (Q ⟨0,c,a,d,3,[],()⟩) (ac (a+b)/\(0<=a/\a<=a+b/\a+b<=nI c)/\(0+(cM f (List.drop a.toNat c)).length)*1<=mM/\ac (a+b)/\Q ⟨0,c,a+b,d,e,cM f (List.drop a.toNat c),()⟩)))) (by
 conv=>zeta
 unfold Bd Br mM nI bd;intro n b a m e Q ⟨j,i⟩;have c:∀y:BL×Int×Int,xW b a m e n=y->Q ⟨0,(b,y.2.1,m,y.2.2,y.1,())⟩:=λy e=>by rw[<-e];exact i
 clear i;obtain⟨l,o,p⟩:=j;unfold xW at c;refine⟨trivial,λh=>c ([],a,e) (af (by rw[aP]at h;rw[h];decide)),λh=>?_⟩;rw[aK]at h;rw[am h]at c;clear h;refine⟨λf=>c _ (by rw[am (by simpa using f)]),λf=>⟨⟨l,o,p⟩,λg=>c ([],a,3) (by rw[af (by simpa using f),am (by simpa using g)]),λg=>?_⟩⟩;simp only[aj]at f g;refine⟨by unfold ac;omega,by omega,by simp;omega,by unfold ac;omega,c (_,a+n,e) ?_⟩;rw[af f,af g,List.drop_take])
def gC(b:BL)(a:Int)(m:Bool)(e n:Int):BL×Int×Int:=
 if(m&&e==0)=true then
  if(fO 0 0 (b.drop a.toNat)).2.2=0 then
   if max n 0<(fO 0 0 (b.drop a.toNat)).1 then([],a,2)
   else if(b.length:Int)-a-(fO 0 0 (b.drop a.toNat)).2.1<(fO 0 0 (b.drop a.toNat)).1 then([],a,3)
   else xW b (a+(fO 0 0 (b.drop a.toNat)).2.1) m e (fO 0 0 (b.drop a.toNat)).1
  else([],a,(fO 0 0 (b.drop a.toNat)).2.2)
 else([],a,e)
def rtC:Ct:=⟨2,⟨[sP 0,sI 1],rH⟩,[⟨[sO 0 1],rH++[cB]⟩],λ(n,b,a,m,e,_)=>one (bQ b a) (b,(gC b a m e n).2.1,m,(gC b a m e n).2.2,(gC b a m e n).1,())⟩
theorem LD:bS Tryz.prog 53 rtC:=kC QM (cE rtC 0) (∀(e:Int)(a:BL)(b:Int)(c:Bool)(d:Int)Q,let f:=fO 0 0 (List.drop b.toNat a);let g:=xW a (b+f.2.1) c d f.1;let z:=Br (!f.2.2==0) (Q ⟨0,a,b,c,f.2.2,[],()⟩) (ac (b+f.2.1)/\bQ a (b+f.2.1)/\Q ⟨0,a,g.2.1,c,g.2.2,g.1,()⟩);let h:=Br (f.2.2==0) (bQ a b/\ac (nI a-b-f.2.1)/\Bd (nI a-b-f.2.1<f.1) (Q ⟨0,a,b,c,3,[],()⟩) z) z;bd rtC (e,a,b,c,d,()) Q->True/\Br (!(c&&d==0)) (Q ⟨0,a,b,c,d,[],()⟩) (bQ a b/\Br (f.2.2==0) (Bd (max e 0<f.1) (Q ⟨0,a,b,c,2,[],()⟩) h) h)) (by
 conv=>zeta
 unfold Bd Br nI bd;intro n b a m e Q ⟨j,l⟩;have c:∀y:BL×Int×Int,gC b a m e n=y->Q ⟨0,(b,y.2.1,m,y.2.2,y.1,())⟩:=λy e=>by rw[<-e];exact l
 clear l;have f:=w7 (b.drop a.toNat) 0 0;have o:=j;obtain⟨q,r,s⟩:=j;rw[cI]at f;generalize i:fO 0 0 (b.drop a.toNat)=g at f;have p:gC b a m e n=if(m&&e==0)=true then if g.2.2=0 then if max n 0<g.1 then([],a,2)else if(b.length:Int)-a-g.2.1<g.1 then([],a,3)else xW b (a+g.2.1) m e g.1 else([],a,g.2.2)else([],a,e):=by rw[gC,i]
 rw[p]at c;clear p;refine⟨trivial,λh=>c ([],a,e) (af (by rw[aP]at h;rw[h];decide)),λh=>⟨o,?_⟩⟩;rw[aK]at h;rw[am h]at c;clear h
 (repeat' (first|exact o|apply cc|intro _))<;>(try simp only[ai,aj,aR,az,aP,aK]at*)<;>first
  |(exact c ([],a,2) (by grind))
  |(exact c ([],a,3) (by grind))
  |(exact c ([],a,g.2.2) (by grind))
  |(exact c (xW b (a+g.2.1) m e g.1) (by grind))
  |(unfold ac;have:=f (by assumption);omega)
  |(have:=f (by assumption);omega)
  |(exfalso;omega))
def V1:bw:=(53,[rtC])::V0
theorem a02:KK V1:=⟨aQ.add QM.1 (by kernel_rfl) (bo LD),bg.add QM.2 (bo (λ_=>bJ))⟩
def rgC:Ct:=⟨1,⟨[sP 0],rH⟩,[⟨[sL 0],rH⟩],λ(b,a,m,e,_)=>one (bQ b a) ((cW b a m e 0 1).1==1,b,(cW b a m e 0 1).2.1,m,(cW b a m e 0 1).2.2,())⟩
def V2:bw:=(221,[rgC])::V1
theorem a03:KK V2:=kA a02 (cE rgC 0) (∀(a:BL)(b:Int)(c:Bool)(d:Int)Q,let z:=cW a b c d 0 1;bd rgC (a,b,c,d,()) Q->bQ a b/\Q ⟨0,z.1==1,a,z.2.1,c,z.2.2,()⟩) (by
 conv=>zeta
 unfold bd;intro b a m e Q ⟨c,f⟩;exact⟨c,f⟩)
def wfC:Ct:=⟨2,⟨[sB 0,sL 1],[]⟩,[oB],λ(b,f,_)=>one (b.length<=1099511627776) (b++vn (if f then 1 else 0),())⟩
def V3:bw:=(158,[wfC])::V2
theorem a04:KK V3:=kA a03 (cE wfC 0) (∀(a:BL)(b:Bool)Q,bd wfC (a,b,()) Q->Br b (a.length<=1099511627776/\Q ⟨0,a++vn 1,()⟩) (a.length<=1099511627776/\Q ⟨0,a++vn 0,()⟩)) (by
 unfold Br bd;intro b f Q ⟨a,c⟩;cases f<;>exact⟨λh=>by first|exact⟨a,c⟩|simp at h,λh=>by first|exact⟨a,c⟩|simp at h⟩)
def dv(n:Int):BL:=(kz 8).map λi=>ax 8 (bi 64 n>>>(8*i))
theorem eo(n:Int):(dv n).length=8:=by simp[dv]
def eiC:Ct:=⟨1,⟨[sI 0],[]⟩,[oB],λx=>one True (dv x.1,())⟩
def V4:bw:=(144,[eiC])::V3
theorem a05:KK V4:=kA a04 (cE eiC 9) (∀(a:Int)Q,let i:=bi 64 a>>>56;let h:=bi 64 a>>>48;let g:=bi 64 a>>>40;let f:=bi 64 a>>>32;let e:=bi 64 a>>>24;let c:=bi 64 a>>>16;let b:=bi 64 a>>>8;let z:=bi 64 a>>>0;bd eiC (a,()) Q->(0+[ax 8 z].length)*1<=mM/\([ax 8 z].length+[ax 8 b].length)*1<=mM/\(([ax 8 z]++[ax 8 b]).length+[ax 8 c].length)*1<=mM/\(([ax 8 z]++[ax 8 b]++[ax 8 c]).length+[ax 8 e].length)*1<=mM/\(([ax 8 z]++[ax 8 b]++[ax 8 c]++[ax 8 e]).length+[ax 8 f].length)*1<=mM/\(([ax 8 z]++[ax 8 b]++[ax 8 c]++[ax 8 e]++[ax 8 f]).length+[ax 8 g].length)*1<=mM/\(([ax 8 z]++[ax 8 b]++[ax 8 c]++[ax 8 e]++[ax 8 f]++[ax 8 g]).length+[ax 8 h].length)*1<=mM/\(([ax 8 z]++[ax 8 b]++[ax 8 c]++[ax 8 e]++[ax 8 f]++[ax 8 g]++[ax 8 h]).length+[ax 8 i].length)*1<=mM/\Q ⟨0,[ax 8 z]++[ax 8 b]++[ax 8 c]++[ax 8 e]++[ax 8 f]++[ax 8 g]++[ax 8 h]++[ax 8 i],()⟩) (by
 conv=>zeta
 unfold mM bd;intro n Q ⟨_,a⟩;have b:∀y:BL,y=dv n->Q ⟨0,(y,())⟩:=λy e=>by rw[e];exact a
 clear a;simp only[aa,bh];refine⟨by omega,by omega,by omega,by omega,by omega,by omega,by omega,by omega,b _ rfl⟩)
abbrev Cm:Ty:= .pr .u8 (.pr (.sl tB) .un)
abbrev Tm:=BitVec 8×List BL×Unit
def Dl(l:List BL):BL:=(l.map λp=>dv p.length++p).flatten
def tQ(t:Tm):BL:=t.1::Dl t.2.1
def lJ(l:List BL):Nat:=(l.map λp=>p.length+8).sum
def kyC:Ct:=⟨1,⟨[(0,true,[.d Cm])],[]⟩,[⟨[(0,false,[.d .st])],[]⟩],λx=>one (lJ x.1.2.1<=1099511627776) (tQ x.1,())⟩
def kyP:cg:=⟨[(3,false,[.own 0]),(10,false,[.d (.sl tB)]),sI 11,sI 12],[cB]⟩
def kyI(t:Tm)(l:List BL)(n i:Int)(b:BL):Prop:=l=t.2.1/\n=l.length/\∃k:Nat,i=k/\k<=l.length/\b=t.1::Dl (l.take k)
def kyA(x:kyC.inp.den):dB:=⟨[(3,bK kyP (λy=>kyI x.1 y.1 y.2.1 y.2.2.1 y.2.2.2.1) λy=>(y.2.1-y.2.2.1).toNat)],[],[],[],0⟩
theorem Ej(l:List BL):∀k,lJ (l.take k)<=lJ l:=by
 induction l with
 |nil=>intro k;simp
 |cons a r b=>intro k;cases k with
  |zero=>simp[lJ]
  |succ k=>have:=b k;simp only[lJ,List.take_succ_cons,aY,dg]at this⊢;omega
theorem Ek(l:List BL):l.length<=lJ l:=by
 induction l with
 |nil=>simp
 |cons a r b=>simp only[lJ,aY,dg,ba]at b⊢;omega
theorem Ao:∀l:List BL,(Dl l).length=lJ l
 |[]=>rfl
 |a::r=>by have:=Ao r;simp only[Dl,lJ,aY,List.flatten_cons,aa,dg,eo]at this⊢;omega
theorem w8{l:List BL}{k:Nat}(h:k<l.length):Dl (l.take (k+1))=Dl (l.take k)++dv (l.getD k []).length++l.getD k []:=by
 have:l.take (k+1)=l.take k++[l.getD k []]:=by
  rw[dW,ap h];simp[bB,ap h]
 rw[this];simp[Dl]
abbrev V5(v:BL×Unit):cw kyC.out:=⟨0,v⟩
def V6:bw:=(102,[kyC])::V4
theorem a06:KK V6:=kA a05 kyA (∀(b:Tm)(Q:cw kyC.out->Prop),(Tr.need (lJ b.2.1<=1099511627776) (Tr.leaf (V5 (tQ b,())))).sat Q->Is (kyI b b.2.1 (nI b.2.1) 0 [b.1])/\∀(c:List BL)(d a:Int)(e:BL),let z:=nI (gD c a []);kyI b c d a e->Bd (a<d) (iN a c/\True/\(e.length+ah (dv z))*1<=mM/\((e++dv z).length+(gD c a []).length)*1<=mM/\ac (a+1)/\Is (kyI b c d (a+1) (e++dv z++gD c a [])/\lN (d-(a+1)) (d-a))) (Q ⟨0,e,()⟩)) (by
 conv=>zeta
 unfold Bd gD iN lN mM nI;intro t Q ⟨j,c⟩;have g:∀y:BL,y=tQ t->Q ⟨0,(y,())⟩:=λy e=>by rw[e];exact c
 clear c;refine⟨⟨rfl,rfl,0,rfl,aq _,rfl⟩,?_⟩;rintro l n i b ⟨rfl,rfl,k,rfl,m,rfl⟩;refine⟨λh=>?_,λh=>g _ ?_⟩
 ·simp only[ai]at h;have a:k<t.2.1.length:=by omega
  have o:=Ej t.2.1 (k+1);have f:=Ao (t.2.1.take (k+1));rw[w8 a]at f;simp only[aa,eo]at f;simp only[aF,aa,ba,eo];refine⟨by omega,trivial,by omega,by omega,by unfold ac;have:=Ek t.2.1;omega,⟨⟨rfl,rfl,k+1,rfl,by omega,?_⟩,by omega⟩⟩;rw[w8 a];simp
 ·simp only[aj]at h;have:k=t.2.1.length:=by omega
  rw[this,br];rfl)
def mw:List (Option CP):=[some (.cells [.own 1, .mp 2, .d .i64]),some (.sl Cm),some (.mp .st .i64)]
def Cn:List (Option CP):=[some (.cells [.own 3, .mp 2, .d .i64]),none,some (.mp .st .i64),some (.sl Cm)]
abbrev KV:=List (BL×Int)
def V7(k:BL)(m:KV):Int:=(cz (kt:= .st) k m).getD 0
def QN(k:BL)(n:Int)(m:KV):KV:=cD (kt:= .st) k n m
def jA(t:Tm)(ts:List Tm)(m:KV):Int×List Tm×KV:=
 if V7 (tQ t) m=0 then(ts.length+1,ts++[(t.1,t.2.1,())],QN (tQ t) (ts.length+1) m)else(V7 (tQ t) m,ts,m)
abbrev QO(t:Tm)(ts:List Tm):Prop:=lJ t.2.1<=1099511627776/\ts.length<=4294967296
def tbC:Ct:=⟨2,⟨[sP 0,(1,true,[.d Cm])],mw⟩,[⟨[sI 0],Cn⟩],λ(t,d,a,m,_)=>one (QO t a) ((jA t a m).1,d,(jA t a m).2.2,(jA t a m).2.1,())⟩
def tbP:cg:=⟨[sP 0,(3,false,[.ptr 3 0]),(5,false,[.d .st]),(7,false,[.own 4]),(21,false,[.d (.sl tB)]),sI 22,sI 23],mw++[some (.cells [.d .u8, .d (.sl tB)]),some (.sl tB)]⟩
def tbI(t:Tm)(d:Int)(ts:List Tm)(m:KV)(y:tbP.den):Prop:=match y with
 |(k,l,n,i,b,a,e,c,f,r,_)=>k=tQ t/\l=t.2.1/\n=l.length/\b=d/\a=ts/\e=m/\c=t.1/\f=t.2.1/\∃j:Nat,i=j/\j<=l.length/\r=l.take j
def tbA(x:tbC.inp.den):dB:=⟨[(6,bK tbP (tbI x.1 x.2.1 x.2.2.1 x.2.2.2.1) λ(_,_,n,i,_)=>(n-i).toNat)],[],[],[],0⟩
theorem gZ:∀(l:List BL)(j:Nat),(l.getD j []).length<=lJ l
 |[],j=>by simp
 |a::r,0=>by simp only[lJ,aY,dg,List.getD_cons_zero];omega
 |a::r,j+1=>by have:=gZ r j;simp only[lJ,aY,dg,List.getD_cons_succ]at this⊢;omega
def V8:bw:=(66,[tbC])::V6
theorem a07:KK V8:=kA a06 tbA (∀(a:Tm)(e:Int)(f:List Tm)(c:KV)Q,let z:=aO Ty.st (tQ (a.1,a.2.1,())) c;bd tbC (a,e,f,c,()) Q->lJ a.2.1<=1099511627776/\Br (z.getD (0:Int)==0) (Is (tbI a e f c (tQ (a.1,a.2.1,()),a.2.1,nI a.2.1,0,e,f,c,a.1,a.2.1,[],()))/\∀(k:BL)(g:List BL)(h b l:Int)(i:List Tm)(m:KV)(j:BitVec 8)(n d:List BL),tbI a e f c (k,g,h,b,l,i,m,j,n,d,())->Bd (b<h) (iN b g/\(0+(gD g b []).length)*1<=mM/\(d.length+[gD g b []].length)*24<=mM/\ac (b+1)/\Is (tbI a e f c (k,g,h,b+1,l,i,m,j,n,d++[gD g b []],())/\lN (h-(b+1)) (h-b))) ((i.length+[(j,d,())].length)*32<=mM/\Q ⟨0,nI (i++[(j,d,())]),l,dD Ty.st k (nI (i++[(j,d,())])) m,i++[(j,d,())],()⟩)) (Q ⟨0,z.getD 0,e,c,f,()⟩)) (by
 conv=>zeta
 unfold Bd Br gD iN lN mM nI bd;intro t d s m Q ⟨u,b⟩;obtain⟨v,A⟩:=u;have q:∀f g o,jA t s m=(f,g,o)->Q ⟨0,(f,d,o,g,())⟩:=λf g o e=>by rw[e]at b;exact b
 clear b;have B:=Ek t.2.1
 have w:∀j,((t.2.1.getD j []).length+0)*1<=140737488355328:=λj=>by
  have:=gZ t.2.1 j;omega
 refine⟨v,λh=>⟨⟨rfl,rfl,rfl,rfl,rfl,rfl,rfl,rfl,0,rfl,aq _,rfl⟩,?_⟩,λh=>q _ _ _ (af (az.1 h))⟩;rintro k l n i C x y c D r ⟨rfl,rfl,rfl,rfl,rfl,rfl,rfl,rfl,j,rfl,E,rfl⟩;refine⟨λp=>?_,λp=>⟨?_,q _ _ _ ?_⟩⟩
 ·simp only[ai]at p;have a:j<t.2.1.length:=by omega
  have F:=w j;simp only[aF,be,bh];refine⟨by omega,by omega,by omega,by unfold ac;omega,⟨⟨rfl,rfl,rfl,rfl,rfl,rfl,rfl,rfl,j+1,rfl,by omega,?_⟩,by omega⟩⟩;rw[dW,ap a];simp[bB,ap a]
 ·simp only[bh];omega
 ·simp only[aj]at p;have e:j=t.2.1.length:=by omega
  subst e;have z:V7 (tQ t) y=0:=aR.1 h;rw[jA,am z,br];simp[QN])
def eqC:Ct:=⟨2,⟨[sB 0,sB 1],[]⟩,[⟨[sL 0],[]⟩],λ(a,b,_)=>one True (a==b,())⟩
def V9:bw:=(106,[eqC])::V8
theorem a08:KK V9:=kA a07 (cE eqC 0) (∀(a b:BL)Q,bd eqC (a,b,()) Q->Q ⟨0,a==b,()⟩) (by
 unfold bd;intro a b Q ⟨_,c⟩;exact c)
def nZ(t:Tm):Int:=if t.1=103 then 64 else if t.1=98 then((t.2.1.getD 3 []).length:Int)+16 else 32
def eI(t:Tm):Prop:=lJ t.2.1<=1099511627776/\(t.1=98->4<=t.2.1.length)/\(t.1=103->2<=t.2.1.length)/\(t.1=118->1<=t.2.1.length)/\(t.1=112->1<=t.2.1.length/\lJ t.2.1<=8589934592)
def eC(ts:List Tm):Prop:=ts.length<=4294967296/\∀t∈ts,eI t
def ko(t:Tm)(n:Int):BL:=(t.1::dv n)++ak ((nZ t).toNat-9) 0
def szC:Ct:=⟨1,⟨[(0,true,[.d Cm])],[]⟩,[⟨[sI 0],[]⟩],λ(t,_)=>one (eI t) (nZ t,())⟩
def Wb:bw:=(372,[szC])::V9
theorem a09:KK Wb:=kA a08 (cE szC 0) (∀(a:Tm)Q,let b:=a.1==ae 8 98;let z:=a.1==ae 8 103;bd szC (a,()) Q->Br z (Q ⟨0,64,()⟩) (Br b (((0:Int)<=3/\3<nI a.2.1)/\ac (nI (bB a.2.1 3 [])+16)/\Q ⟨0,nI (bB a.2.1 3 [])+16,()⟩) (Q ⟨0,32,()⟩))) (by
 conv=>zeta
 unfold Br nI bd;intro t Q ⟨c,a⟩;have b:∀y,nZ t=y->Q ⟨0,(y,())⟩:=λy e=>by rw[e]at a;exact a
 clear a;obtain⟨g,f,_⟩:=c;have:=gZ t.2.1 3;unfold ac
 (repeat' (first|apply cc|intro _))<;>(try simp only[aR,az]at*)<;>first|exact b _ (by clear b;grind[nZ])|(have:=f (by assumption);omega)|omega)
theorem uT(t:Tm):16<=nZ t:=by unfold nZ;grind
theorem QP{t:Tm}(h:eI t):nZ t<=1099511627800:=by
 have:=gZ t.2.1 3;have:=h.1;unfold nZ;grind
def cdC:Ct:=⟨2,⟨[(0,true,[.d Cm]),sI 1],[]⟩,[oB],λ(t,n,_)=>one (eI t) (ko t n,())⟩
def Wc:bw:=(370,[cdC])::Wb
theorem a1a:KK Wc:=kA a09 (cE cdC 0) (∀(a:Tm)(b:Int)Q,let z:=(a.1,a.2.1,());bd cdC (a,b,()) Q->True/\([a.1].length+ah (dv b))*1<=mM/\eI z/\ac (nZ z-9)/\(0<=nZ z-9/\(([a.1]++dv b).length+(nZ z-9).toNat)*1<=mM)/\Q ⟨0,[a.1]++dv b++ak (nZ z-9).toNat (ae 8 0),()⟩) (by
 conv=>zeta
 unfold mM bd;intro t n Q ⟨a,b⟩;have c:∀y,y=ko t n->Q ⟨0,(y,())⟩:=λy e=>by rw[e];exact b
 clear b;have g:=uT t;have h:=QP a;have i:=eo n;have f:(nZ t-9).toNat=(nZ t).toNat-9:=by omega
 have e:nZ (t.1,t.2.1,())=nZ t:=rfl;rw[e,f];refine⟨trivial,by simp only[bh];omega,a,by unfold ac;omega,⟨by omega,by simp only[aa,bh];omega⟩,c _ rfl⟩)
def sU(i:Nat):Nat×Bool×List IP:=(i,false,[.d .u8])
def Dm:Tm:=(0,[],())
def w9(b:BL):BitVec 64:=ae 64 0|||ax 64 (b.getD 1 (ae 8 0))<<<0|||ax 64 (b.getD 2 (ae 8 0))<<<8|||ax 64 (b.getD 3 (ae 8 0))<<<16|||ax 64 (b.getD 4 (ae 8 0))<<<24|||ax 64 (b.getD 5 (ae 8 0))<<<32|||ax 64 (b.getD 6 (ae 8 0))<<<40|||ax 64 (b.getD 7 (ae 8 0))<<<48|||ax 64 (b.getD 8 (ae 8 0))<<<56
def fK(b:BL)(k:BitVec 8)(ts:List Tm):Tm×Bool:=
 if b.length<9\/b.getD 0 0≠k then(Dm,false)
 else if(w9 b).toNat<1\/ts.length<(w9 b).toNat then(Dm,false)
 else(ts.getD ((w9 b).toNat-1) Dm,(ts.getD ((w9 b).toNat-1) Dm).1==k&&b==ko (ts.getD ((w9 b).toNat-1) Dm) (w9 b).toNat)
def fdC:Ct:=⟨3,⟨[sP 0,sB 1,sU 2],mw⟩,[⟨[(0,true,[.d Cm]),sL 1],mw⟩],λ(b,k,d,a,m,_)=>one (b.length<=1099511627776/\eC a) ((fK b k a).1,(fK b k a).2,d,a,m,())⟩
theorem Ap{n:Nat}(h:n<=4294967296):(bi 64 (n:Int)).toNat=n:=by
 rw[BitVec.ofInt_natCast,BitVec.toNat_ofNat];omega
theorem a1b{v:BitVec 64}(h:1<=v.toNat):(v-ae 64 1).toNat=v.toNat-1:=by
 rw[BitVec.toNat_sub];have:=v.isLt;have e:(ae 64 1).toNat=1:=rfl;omega
abbrev We(v:Tm×Bool×Int×List Tm×KV×Unit):cw fdC.out:=⟨0,v⟩
def Wf:bw:=(368,[fdC])::Wc
theorem a1c:KK Wf:=kA a1a (cE fdC 9) (∀(a:BL)(c:BitVec 8)(d:Int)(b:List Tm)(e:KV)Q,let j:= !a.getD 0 (ae 8 0)==c;let g:=We ((ae 8 0,[],()),false,d,b,e,());let z:=ae 64 0|||ax 64 (a.getD 1 (ae 8 0))<<<0|||ax 64 (a.getD 2 (ae 8 0))<<<8|||ax 64 (a.getD 3 (ae 8 0))<<<16|||ax 64 (a.getD 4 (ae 8 0))<<<24|||ax 64 (a.getD 5 (ae 8 0))<<<32|||ax 64 (a.getD 6 (ae 8 0))<<<40|||ax 64 (a.getD 7 (ae 8 0))<<<48|||ax 64 (a.getD 8 (ae 8 0))<<<56;let i:=z-ae 64 1;let l:Prop:=(bi 64 (↑b.length:Int)).toNat<z.toNat;let f:=b.getD (↑i.toNat:Int).toNat (ae 8 0,[],());let h:=(f.1,f.2.1,());(Ct.spec fdC (a,c,d,b,e,())).sat Q->Br (decide ((↑a.length:Int)<9)) (Q g) (((0:Int)<=0/\0<(↑a.length:Int))/\Br j (Q g) (((0:Int)<=1/\1<(↑a.length:Int))/\((0:Int)<=2/\2<(↑a.length:Int))/\((0:Int)<=3/\3<(↑a.length:Int))/\((0:Int)<=4/\4<(↑a.length:Int))/\((0:Int)<=5/\5<(↑a.length:Int))/\((0:Int)<=6/\6<(↑a.length:Int))/\((0:Int)<=7/\7<(↑a.length:Int))/\((0:Int)<=8/\8<(↑a.length:Int))/\Br (decide (z.toNat<1)) (Q g) (Br (decide l) (Q g) ((0<=(↑i.toNat:Int)/\(↑i.toNat:Int)<(↑b.length:Int))/\Br (f.1==c) ((f.1==c)=true/\(f.1==c)=true/\(f.1==c)=true/\(f.1==c)=true/\eI h/\(f.1==c)=true/\True/\(f.1==c)=true/\Q ⟨0,h,a==ko h (IntKind.i64.wrap (↑z.toNat:Int)),d,b,e,()⟩) ((f.1==c)=false/\(f.1==c)=false/\(f.1==c)=false/\(f.1==c)=false/\(f.1==c)=false/\(f.1==c)=false/\Q ⟨0,h,false,d,b,e,()⟩)))))) (by
 conv=>zeta
 unfold Br;intro b k d f m Q ⟨⟨B,t⟩,j⟩;have c:∀l n,fK b k f=(l,n)->Q ⟨0,(l,n,d,f,m,())⟩:=λl n e=>by rw[e]at j;exact j
 clear j;have o:(ae 64 0|||ax 64 (b.getD 1 (ae 8 0))<<<0|||ax 64 (b.getD 2 (ae 8 0))<<<8|||ax 64 (b.getD 3 (ae 8 0))<<<16|||ax 64 (b.getD 4 (ae 8 0))<<<24|||ax 64 (b.getD 5 (ae 8 0))<<<32|||ax 64 (b.getD 6 (ae 8 0))<<<40|||ax 64 (b.getD 7 (ae 8 0))<<<48|||ax 64 (b.getD 8 (ae 8 0))<<<56)=w9 b:=rfl;rw[o];clear o;obtain⟨u,w⟩:=t;have x:=Ap u;have p:=a1b (v:=w9 b);unfold fK Dm at c;generalize w9 b=v at c p;rw[x];simp only[ai,aj];refine⟨λh=>c _ _ (am (.inl (by omega))),λh=>⟨by omega,λi=>c _ _ (am (.inr (by simpa using i))),λi=>?_⟩⟩
 have g:¬(b.length<9\/b.getD 0 0≠k):=by
  rintro(g|g)
  ·omega
  ·exact g (by simpa using i)
 rw[af g]at c;clear i g;refine⟨by omega,by omega,by omega,by omega,by omega,by omega,by omega,by omega,λq=>c _ _ (am (.inl q)),λq=>⟨λr=>c _ _ (am (.inr r)),λr=>?_⟩⟩;have y:=p (by omega);rw[af (by omega)]at c;have z:IntKind.i64.wrap (v.toNat:Int)=v.toNat:=QI _ (by omega);rw[y,z,aF];have s:eI (f.getD (v.toNat-1) (0,[],())):=w _ (by rw[aw,ap (by omega)];exact kB _);have A:v.toNat-1<f.length:=by omega
 generalize C:f.getD (v.toNat-1) (0,[],())=T at c s;refine⟨by omega,λa=>⟨a,a,a,a,s,a,trivial,a,c _ _ ?_⟩,λa=>⟨a,a,a,a,a,a,c _ _ ?_⟩⟩
 ·rw[a,fp]
 ·rw[a,Bool.false_and])
theorem rB{b:BL}{k:BitVec 8}{ts:List Tm}(a:eC ts)(h:(fK b k ts).2=true):eI (fK b k ts).1/\(fK b k ts).1.1=k:=by
 unfold fK at h⊢;split at h
 ·simp at h
 ·rename_i c;split at h
  ·simp at h
  ·rename_i e;rw[af c,af e];simp only[aI,aR]at h;refine⟨a.2 _ ?_,h.1⟩;have:(w9 b).toNat-1<ts.length:=by omega
   rw[aw,ap this];exact kB _
end Go.Tp
