/- A part of the proof of TopHiddenSaid: no conditions; packed by a program of our own. -/
import Derived.Test.YtgpideichgnmhaaGreatPhal
set_option linter.defProp false
set_option linter.unusedVariables false
set_option linter.unusedSimpArgs false
open BitVec renaming ofNat→ag
open Bool renaming not_eq_true'→aR
open Decidable renaming not_not→aA
open HSub renaming hSub→bO
open Int renaming toNat_natCast→aG,eq_ofNat_of_zero_le→bo,toNat→rC
open LE renaming le→aX
open List renaming replicate→ax,length_append→aa,length_cons→bc,append_assoc→ay,mem_append→ba,nil_append→eO,take_of_length_le→bb,append_nil→aH,mem_cons→bm,getElem?_eq_getElem→an,getElem?_append_left→bq,getElem?_append_right→aJ,length_take→bd,getElem?_take→pz,length→ah,getD_eq_getElem?_getD→aw,getElem?_eq_none→be,map_append→dL,length_map→cG,mem_map→fI,mem_cons_self→aF,mem_cons_of_mem→aD,getElem?_eq_some_iff→cq,mem_singleton→bV,length_singleton→bi,take_add_one→dR,take_length→bv
open Nat renaming min_eq_left→fh,le_refl→aE,le_trans→bE,zero_le→aq,lt_or_ge→br,eq_zero_or_pos→dP
open Prod renaming ext→ga
namespace Go.Tp
open Go.Hv Go.Proofs Go.RowKit
set_option maxRecDepth 100000
set_option maxHeartbeats 0
abbrev Md:=Int×Bool×Unit
def ER(e:Et):Et:=(e.1,[],e.2.2.1,e.2.2.2.1,[],[],[],())
def uB(w:Wd)(md:List Md)(t:Tm):Prop:=∃(n:Nat)(e:Et)(d:BL),w.st[n]?=some (gi e)/\md[n]?=some (0,true,())/\iU e=true/\t=(103,[w.se 0 1,dS e],())/\Nm w.ts e.2.2.2.2.2.2.1 t/\w.lg.2.1[(e.1-1).toNat]?=some (ER e)/\w.lg.2.2.1[(e.1-1).toNat]?=some d/\Nm w.ts d (104,[dS e],())
def uC(w:Wd)(md:List Md)(t:Tm):Prop:=∃(n:Nat)(l:Lt)(a:Nat)(b:Bool)(c:BL),w.st[n]?=some (eV l)/\md[n]?=some ((a:Int),b,())/\jY l=true/\a<5/\t=(103,[w.se a 1,dp l++tx c],())/\Nm w.ts c (104,[l.2.2.2.2.2.1],())/\Nm w.ts l.2.2.2.2.2.2.1 t/\(b=true/\l.2.1=a\/b=false/\w.go.getD a false=true)
def ES(w:Wd)(t:Tm):Prop:=∃(l:Lt)(a:Nat)(b:BL)(lk:Lk),a<5/\pD l/\l.1=2/\t=(103,[w.se a 1,dp l++tx b],())/\b.length=32/\nf lk=true/\Nm w.ts l.2.2.2.2.1 (104,[vo lk],())/\l.2.2.1<lk.2.2.1
def tJ(w:Wd)(ts:List Tm)(c:Cl):Prop:=(∃k,c.lg=(w.lg.1,w.lg.2.1.take k,w.lg.2.2.1.take k,()))/\Bn ts c.bk
structure Au(w:Wd)(md:List Md):Prop where
 su:Cu w.ts w.m
 sc:∀a j:Nat,a<5->j<2->Nm w.ts (w.se a j) (115,[dB ((2*a+j+1:Nat):Int)],())
 al:∀p∈w.al,∃(a:Nat)(x y:BL),a<5/\p=((a:Int),x,y,())/\Nm w.ts x (112,[w.se a 0],())/\Nm w.ts y (118,[w.se a 1],())
 adm:Nm w.ts w.lg.1 (118,[w.se 0 1],())
 es:∀(i:Nat)(e:Et),w.lg.2.1[i]?=some e->e.1=(i:Int)+1/\∀p∈e.2.2.1,p∈w.al
 cl:∀i:Nat,i<5->tJ w w.ts (w.cl i)
 own:∀i:Nat,i<5->(w.cl i).sg=w.se i 1/\(w.cl i).se=w.se i 0
 le:w.lg.2.1.length<=w.st.length
 d32:∀d∈w.lg.2.2.1,d.length=32
 ml:md.length=w.st.length
 sr:∀t∈w.ts,t.1=103->uB w md t\/uC w md t\/ES w t
def Sf(w:Wd)(md:List Md)(b:BL)(a:Nw):Prop:=
 (a.1=1/\∃(n:Nat)(e:Et),w.st[n]?=some b/\md[n]?=some (0,true,())/\b=gi e/\iU e=true/\e.1=a.2.2.1)\/
 (a.1≠1/\∃(n:Nat)(l:Lt)(c:Bool),w.st[n]?=some b/\md[n]?=some (l.2.1,c,())/\b=eV l/\jY l=true/\a.1=l.1/\a.2.1=l.2.1/\a.2.2.1=l.2.2.1/\a.2.2.2.1=l.2.2.2.1/\(gn (cZ w.lg.2.1 l.2.2.1) l.2.1).2=true/\(c=true\/w.go.getD l.2.1.toNat false=true))
variable{f md':List Md}{i j k n:Nat}
theorem IK{w:Wd}(h:Au w md')(f:w.ts.length<=4294967296){b:Nat}(g:k<5)(l:b<5)(hi:i<2)(m:j<2)(e:w.se k i=w.se b j):k=b/\i=j:=by
 have n:=h.sc k i g hi;have c:=h.sc b j l m;rw[<-e]at c;have:=Nm.uni f n c;have o:[dB ((2*k+i+1:Nat):Int)]=[dB ((2*b+j+1:Nat):Int)]:=aI (λt:Tm=>t.2.1) this;have p:=AQ ac ac (List.cons.inj o).1;omega
variable{e:Et}{m:KV}{ts ts':List Tm}
theorem Nn{lg:Lg}(h:(iu lg e ts m).1=0):iU e=true/\e.1=(lg.2.1.length:Int)+1/\ws lg.1 (dS e) e.2.2.2.2.2.2.1 ts=true/\(iu lg e ts m).2=((lg.1,lg.2.1++[ER e],lg.2.2.1++[(dI (104,[dS e],()) ts m).1],()),(dI (104,[dS e],()) ts m).2):=by
 unfold iu at h⊢;rw[bN]at h⊢;split at h
 ·cases h
 rename_i a;rw[ae a];split at h
 ·dsimp only at h;split at h<;>cases h
 rename_i f;rw[ae f];split at h
 ·cases h
 rename_i b;rw[ae b];split at h
 ·cases h
 rename_i g;rw[ae g];split at h
 ·cases h
 rename_i c;rw[ae c];split at h
 ·cases h
 rename_i i;rw[ae i];exact⟨cf a,aA.1 b,cf c,rfl⟩
theorem Sg{a:Et}(b:e.1=a.1)(c:e.2.1=a.2.1)(f:e.2.2.1=a.2.2.1)(g:e.2.2.2.1=a.2.2.2.1)(h:e.2.2.2.2.1=a.2.2.2.2.1)(i:e.2.2.2.2.2.1=a.2.2.2.2.2.1)(j:e.2.2.2.2.2.2.1=a.2.2.2.2.2.2.1):e=a:=by
 obtain⟨l,m,n,o,p,q,r,⟨⟩⟩:=e;obtain⟨s,t,u,v,w,x,y,⟨⟩⟩:=a;dsimp only at*;subst b c f g h i j;rfl
theorem IL{e a:Lt}(b:e.1=a.1)(c:e.2.1=a.2.1)(f:e.2.2.1=a.2.2.1)(g:e.2.2.2.1=a.2.2.2.1)(h:e.2.2.2.2.1=a.2.2.2.2.1)(i:e.2.2.2.2.2.1=a.2.2.2.2.2.1)(j:e.2.2.2.2.2.2.1=a.2.2.2.2.2.2.1):e=a:=by
 obtain⟨l,m,n,o,p,q,r,⟨⟩⟩:=e;obtain⟨s,t,u,v,w,x,y,⟨⟩⟩:=a;dsimp only at*;subst b c f g h i j;rfl
variable{b co hh once pub q sg text v x:BL}
theorem Nm.t115{l:List BL}(h:Nm ts b (115,l,())):b.length=32:=h.len32 (by show(115:BitVec 8)≠98;decide) (by show(115:BitVec 8)≠103;decide)
theorem IM{w:Wd}(h:Au w md')(x:iU e=true)(y:ws w.lg.1 (dS e) e.2.2.2.2.2.2.1 w.ts=true):
 ∃(n:Nat)(d:BL),w.st[n]?=some (gi e)/\md'[n]?=some (0,true,())/\w.lg.2.1[(e.1-1).toNat]?=some (ER e)/\w.lg.2.2.1[(e.1-1).toNat]?=some d/\Nm w.ts d (104,[dS e],()):=by
 obtain⟨t,v,s,z,L,M,N,b⟩:=OQ y;rcases h.sr t s.le z with⟨n,A,d,j,c,f,g,i,m,o,p⟩|⟨n,l,a,B,q,j,c,f,g,i,m,o,p⟩|⟨l,a,q,lk,j,c,f,g,i,m,o,p⟩
 ·have C:dS A=dS e:=by rw[g]at b;exact b
  obtain⟨D,E,F,G,H,J,_⟩:=RO (r:=[]) (r':=[]) (Ig f) (Ig x) (by rw[C]);have K:=Nm.inj h.su i s;have:=Sg D E F G H J K;subst this;exact⟨n,d,j,c,m,o,p⟩
 ·rw[i]at b;have b:dp l++tx q=dS e:=b;have u:=(dJ f).1;exact absurd b.symm (zj ⟨u.1,u.2.1⟩)
 ·rw[g]at b;have b:dp l++tx q=dS e:=b;exact absurd b.symm (zj ⟨c.1,c.2.1⟩)
variable{α:Type}
theorem vu{l:List α}{x:α}(h:l[(l.take k).length]?=some x):l.take k++[x]=l.take ((l.take k).length+1):=by
 have a:(l.take k).length<l.length:=(cq.1 h).1
 have e:(l.take k).length=k:=by
  rw[bd]at a⊢;omega
 rw[e]at h a⊢;rw[dR,h];rfl
variable{t:Tm}
theorem Nm.tm(h:Nm ts b t)(a:cb k ts):eB t:=a.1 t h.le
variable{c:Cl}
theorem Sh{w:Wd}(h:Au w md')(i:cb (k+100) w.ts)(A:tJ w w.ts c)(j:cK w.lg.2.1 w.lg.2.2.1)(u:wK e)(l:aB c.se):
 tJ w (kT c.c c.se c.lg c.km e w.ts w.m).2.2.2.1 {c with lg:=(kT c.c c.se c.lg c.km e w.ts w.m).2.1,km:=(kT c.c c.se c.lg c.km e w.ts w.m).2.2.1}/\
 ((kT c.c c.se c.lg c.km e w.ts w.m).1.2=0->(kT c.c c.se c.lg c.km e w.ts w.m).1.1=(1,0,e.1,e.1,false,false,[],())/\iU e=true/\∃n:Nat,w.st[n]?=some (gi e)/\md'[n]?=some (0,true,())):=by
 have o:Su (k+100) w.ts w.m:=⟨h.su,i⟩;have M:w.ts.length<=4294967296:=by have:=i.2;omega
 have B:=(M' (c:=c.c) (se:=c.se) (lg:=c.lg) (km:=c.km) (k:=k) u l o).gr;obtain⟨⟨q,b⟩,C⟩:=A;have N:=R2 (lg:=c.lg) (e:=e) (k:=k+99) u.2.1 o
 have a:(iu c.lg e w.ts w.m).1=0->iU e=true/\(∃n:Nat,w.st[n]?=some (gi e)/\md'[n]?=some (0,true,()))/\∃k:Nat,(iu c.lg e w.ts w.m).2.1=(w.lg.1,w.lg.2.1.take k,w.lg.2.2.1.take k,()):=by
  intro g;obtain⟨v,D,E,F⟩:=Nn g;have x:=E;rw[b]at x;obtain⟨n,d,G,H,y,p,z⟩:=IM h v x;have J:(e.1-1).toNat=(w.lg.2.1.take q).length:=by rw[D,b];dsimp only;omega
  have K:(w.lg.2.2.1.take q).length=(w.lg.2.1.take q).length:=by rw[bd,bd,j.2.1]
  have r:=ry (k:=k+99) (t:=(104,[dS e],())) o (z.tm i);have L:(dI (104,[dS e],()) w.ts w.m).1=d:=Nm.inj r.1.su.w r.2 (r.1.gr.nm z);refine⟨v,⟨n,G,H⟩,(w.lg.2.1.take q).length+1,?_⟩;rw[F];dsimp only;rw[L,b];dsimp only;rw[J]at y p;rw[vu y];rw[<-K]at p⊢;rw[vu p]
 refine⟨⟨?_,C.gr B⟩,λg=>?_⟩
 ·show∃k,(kT c.c c.se c.lg c.km e w.ts w.m).2.1=_;unfold kT;rw[bN];dsimp only;split
  ·exact⟨q,b⟩
  ·rename_i g;split
   ·exact⟨q,b⟩
   ·exact(a (aA.1 g)).2.2
 ·unfold kT at g⊢;rw[bN]at g⊢;dsimp only at g⊢;split at g
  ·rename_i f;exact absurd g f
  ·rename_i f;split at g
   ·rename_i s;exact absurd g s
   ·rename_i s;rw[ae f,ae s];exact⟨rfl,(a (aA.1 f)).1,(a (aA.1 f)).2.1⟩
variable{id:Int}
theorem zo{es:List Et}(h:(cZ (es.take k) id)≠[]):cZ (es.take k) id=cZ es id:=by
 unfold cZ at h⊢;split at h
 ·exact absurd rfl h
 rename_i g;rw[bd]at g;rw[ae (by rw[bd];exact g),ae ac]
 congr 3
 rw[aw,aw,pz,ak ac]
theorem wU:∀{l:List Mb}{id:Int},(gn l id).2=true->(gn l id).1∈l/\(gn l id).1.1=id
 |[],_,h=>by simp[gn]at h
 |m::r,id,h=>by
  simp only[gn]at h⊢;split
  ·rename_i e;exact⟨aF ..,e⟩
  ·rename_i e;rw[ae e]at h;have:=wU h;exact⟨aD _ this.1,this.2⟩
variable{l l0:Lt}
theorem Si{w:Wd}(h:Au w md')(Q:cb (k+6000) w.ts)(hc:tJ w w.ts c)(hf:jY l=true){y:xt}(r:kg c l w.ts w.m y)(h0:y.1=0):
 ∃(n:Nat)(i:Bool),w.st[n]?=some (eV l)/\md'[n]?=some (l.2.1,i,())/\(gn (cZ w.lg.2.1 l.2.2.1) l.2.1).2=true/\(i=true\/w.go.getD l.2.1.toNat false=true):=by
 have B:=(dJ hf).2.2.1;have b:=(dJ hf).1;have hl:w.ts.length<=4294967296:=by have:=Q.2;omega
 obtain⟨⟨q,hq⟩,hb⟩:=hc;unfold kg at r;dsimp only at r;split at r
 ·rw[r]at h0;cases h0
 split at r
 ·rw[r]at h0;cases h0
 rename_i u;have o:=lcP (sg:=(gn (cZ c.lg.2.1 l.2.2.1) l.2.1).1.2.2.1) (k:=k+5999) B ⟨h.su,Q⟩;split at r
 ·rename_i g;rw[r]at h0;exact absurd h0 g
 rename_i gz;have u:(gn (cZ c.lg.2.1 l.2.2.1) l.2.1).2=true:=cf u
 have C:cZ c.lg.2.1 l.2.2.1=cZ w.lg.2.1 l.2.2.1:=by
  rw[hq];refine zo λe=>?_;rw[hq,e]at u;cases u
 rw[C]at u o gz r;obtain⟨p1,p2⟩:=wU u;obtain⟨en,R,hp⟩:=rx p1;obtain⟨ie,S⟩:=List.getElem?_of_mem R;obtain⟨a,x,yy,ha,ea,n1,n2⟩:=h.al _ ((h.es ie en S).2 _ hp);have D:l.2.1=(a:Int):=by rw[<-p2,ea]
 have U:(gn (cZ w.lg.2.1 l.2.2.1) l.2.1).1.2.2.1=yy:=by rw[ea]
 obtain⟨E,t,v,c1,M,W,c4,c5,c6,p,f,c9⟩:=OR (k:=k+5999) B ⟨h.su,Q⟩ (aA.1 gz);rw[U]at c5 M W c1 o r;have F:(nE yy l w.ts w.m).2.1.length<=4294967296:=by have:=o.su.k.2;omega
 have ev:=Nm.uni F c5 (o.gr.nm n2);rw[ev]at p;have p:t.2.1.getD 0 []=w.se a 1:=p;have X:t∈w.ts:=(o.gr.old W.le).resolve_right λe=>e.1 c4;refine(h.sr t X c4).elim ?_ λhx=>hx.elim ?_ ?_
 ·rintro⟨n,e',d,Y,N,z3,G,z5,H⟩;rw[G]at f;exact absurd (show dS e'=dp l++tx E from f) (zj ⟨b.1,b.2.1⟩)
 ·rintro⟨n,J,a',i,j,Y,N,z3,G,z5,H,O,z⟩;rw[z5]at p f;have p:w.se a' 1=w.se a 1:=p;have f:dp J++tx j=dp l++tx E:=f;have a0:=(IK h hl G ha ac ac p).1;subst a0;have K:E.length=32:=M.len32 (by show(104:BitVec 8)≠98;decide) (by show(104:BitVec 8)≠103;decide);have a1:j.length=32:=H.len32 (by show(104:BitVec 8)≠98;decide) (by show(104:BitVec 8)≠103;decide);obtain⟨i1,i2,i3,i4,P,i6⟩:=wN (dJ z3).1 b ac ac f
  have i7:J.2.2.2.2.2.1=l.2.2.2.2.2.1:=by
   have:=Nm.uni F (o.gr.nm H) (by rw[i6];exact M);exact(List.cons.inj (aI (λt:Tm=>t.2.1) this)).1
  have i8:J.2.2.2.2.2.2.1=l.2.2.2.2.2.2.1:=Nm.inj o.su.w (o.gr.nm O) W;have:=IL i1 i2 i3 i4 P i7 i8;subst this;refine⟨n,i,Y,by rw[D];exact N,u,?_⟩;rcases z with z|z
  ·exact .inl z.1
  ·refine .inr ?_;rw[D,aG];exact z.2
 ·rintro⟨J,a',j,lk,Y,N,z3,G,z5,H,O,z⟩;exfalso;rw[G]at p f;have f:dp J++tx j=dp l++tx E:=f;have K:E.length=32:=M.len32 (by show(104:BitVec 8)≠98;decide) (by show(104:BitVec 8)≠103;decide);obtain⟨i1,i2,i3,i4,P,i6⟩:=wN N b ac ac f;split at r
  ·rename_i g;rw[r]at h0;exact absurd h0 g
  rename_i L;have L:=aA.1 L;unfold wJ at L;rw[ae ac]at L;obtain⟨k1,k2,A,k4,k5⟩:=Bo L;rw[c1]at k1 k2 A k4;dsimp only at k1 k2 A k4;rw[tF ⟨b.2.2.1,b.2.2.2.1⟩]at A;have s:l.2.2.2.2.1.length=32:=by rw[<-P];exact O.len32 (by show(104:BitVec 8)≠98;decide) (by show(104:BitVec 8)≠103;decide)
  split at A
  ·rw[<-A]at s;cases s
  rename_i g0
  have a2:(cJ c.bk l.2.1)[(cJ c.bk l.2.1).length-1]?=some ((cJ c.bk l.2.1).getD ((cJ c.bk l.2.1).length-1) kN):=by
   rw[aw,an ac];rfl
  obtain⟨a3,o1,o2,o3,o4,o5⟩:=hb _ _ _ a2;rw[A,<-P]at o5;have e1:[vo a3]=[vo lk]:=aI (λt:Tm=>t.2.1) (Nm.uni hl o5 O);have e2:=Nj o1 H (List.cons.inj e1).1;subst e2;apply k4;refine⟨ac,?_⟩;rw[<-o4];omega
variable{K:Tm->Prop}
theorem tJ.gr{w:Wd}(h:tJ w ts c)(g:Gr K ts ts'):tJ w ts' c:=⟨h.1,h.2.gr g⟩
theorem W_{w:Wd}(h:Au w md')(q:cU w (n+1))(hi:i<5){y:E9}(r:ol (w.cl i) b w.ts w.m y):
 tJ w y.2.2.1 y.2.1/\(y.1.1=0->Sf w md' b y.1.2):=by
 have s:cb (10000+10000) w.ts:=q.ts.mono ac;have a:=h.cl i hi;obtain⟨⟨L,M,G,N,O,P,Q,R,S⟩,_,_⟩:=q.cl i hi;have t:tJ w w.ts (w.cl i):=a;generalize w.cl i=c at*;unfold ol at r;dsimp only at r;split at r
 ·rw[r];exact⟨a,λe=>by cases e⟩
 rename_i U;have u:bZ b 0:=⟨ac,ac,ac⟩;split at r
 ·rename_i g;rw[r];exact⟨a,λe=>absurd e g⟩
 split at r
 ·split at r
  ·rename_i g;rw[r];exact⟨a,λe=>absurd e g⟩
  ·rename_i g;have g:=aA.1 g;have H:=im ((M4 u).2 g).2;obtain⟨o,l⟩:=t_ u g;have:=Sh h (k:=19900) (c:=c) (e:=(jJ b true (0,0)).1) s a q.lg.1 H G;rw[r];refine⟨this.1,λe=>?_⟩;obtain⟨p,D,n,v,x⟩:=this.2 e;refine .inl ?_;show(kT _ _ _ _ _ _ _).1.1.1=1/\_;rw[p];exact⟨rfl,n,_,by rw[o];exact v,x,o,l,rfl⟩
 ·split at r
  ·rename_i g;rw[r];exact⟨a,λe=>absurd e g⟩
  ·rename_i g;have g:=aA.1 g;obtain⟨o,l⟩:=Ic u g;obtain⟨z,f,J,E,W,j,K⟩:=r;have A:=R4 (k:=14000) l ⟨h.su,s⟩ a.2 E;rw[K];refine⟨⟨a.1,A⟩,λe=>?_⟩;have e:z.1=0:=e;obtain⟨n,B,p,D,v,x⟩:=Si h (k:=14000) s t l E e;unfold zi at j;rw[ak e]at j;have C:=(dJ l).1;refine .inr ⟨?_,n,_,B,by rw[<-o]at p;exact p,D,o,l,j.1,j.2.1,j.2.2.1,j.2.2.2,v,x⟩;show J.1≠1;rw[j.1];intro e;have F:=C.1;rw[e]at F;exact absurd F bt
theorem Sj{y:E9}(r:ol c b ts m y):y.2.1.sg=c.sg/\y.2.1.se=c.se:=by
 unfold ol at r;dsimp only at r;split at r
 ·rw[r];exact⟨rfl,rfl⟩
 split at r
 ·rw[r];exact⟨rfl,rfl⟩
 split at r
 ·split at r
  ·rw[r];exact⟨rfl,rfl⟩
  ·rw[r];exact⟨rfl,rfl⟩
 ·split at r
  ·rw[r];exact⟨rfl,rfl⟩
  ·obtain⟨z,f,e,g,h,i,a⟩:=r;rw[a];exact⟨rfl,rfl⟩
structure dQ(w w':Wd):Prop where
 sec:w'.sec=w.sec
 al:w'.al=w.al
 go:w'.go=w.go
 st:w'.st=w.st
 lg:w'.lg=w.lg
theorem dQ.se{w w':Wd}(h:dQ w w')(i j:Nat):w'.se i j=w.se i j:=by unfold Wd.se;rw[h.sec]
theorem Src.same{w w':Wd}(h:dQ w w')(g:Gr K w.ts w'.ts)(s:uB w md' t\/uC w md' t\/ES w t):uB w' md' t\/uC w' md' t\/ES w' t:=by
 refine s.imp ?_ (Or.imp ?_ ?_)
 ·rintro⟨n,e,d,b,c,f,i,j,m,o,p⟩;exact⟨n,e,d,by rw[h.st];exact b,c,f,by rw[h.se];exact i,g.nm j,by rw[h.lg];exact m,by rw[h.lg];exact o,g.nm p⟩
 ·rintro⟨n,l,a,q,r,b,c,f,i,j,m,o,p⟩;exact⟨n,l,a,q,r,by rw[h.st];exact b,c,f,i,by rw[h.se];exact j,g.nm m,g.nm o,by rw[h.go];exact p⟩
 ·rintro⟨l,a,r,lk,b,c,f,i,j,m,o,p⟩;exact⟨l,a,r,lk,b,c,f,by rw[h.se];exact i,j,m,g.nm o,p⟩
theorem Au.same{w w':Wd}(h:Au w f)(s:dQ w w')(g:Gr (λt=>t.1≠103) w.ts w'.ts)(hu:Cu w'.ts w'.m)(hc:∀i:Nat,i<5->tJ w w'.ts (w'.cl i))(ho:∀i:Nat,i<5->(w'.cl i).sg=(w.cl i).sg/\(w'.cl i).se=(w.cl i).se):Au w' f where
 su:=hu
 sc a j ha hj:=by rw[s.se];exact g.nm (h.sc a j ha hj)
 al p hp:=by
  rw[s.al]at hp;obtain⟨a,x,y,h1,h2,h3,h4⟩:=h.al p hp;exact⟨a,x,y,h1,h2,by rw[s.se];exact g.nm h3,by rw[s.se];exact g.nm h4⟩
 adm:=by rw[s.lg,s.se];exact g.nm h.adm
 es i e he:=by rw[s.lg]at he;rw[s.al];exact h.es i e he
 cl i hi:=by obtain⟨⟨k,hk⟩,hb⟩:=hc i hi;exact⟨⟨k,by rw[s.lg];exact hk⟩,hb⟩
 own i hi:=by rw[(ho i hi).1,(ho i hi).2,s.se,s.se];exact h.own i hi
 le:=by rw[s.st,s.lg];exact h.le
 d32:=by rw[s.lg];exact h.d32
 ml:=by rw[s.st];exact h.ml
 sr t ht h3:=by
  have ho:t∈w.ts:=(g.old ht).resolve_right λe=>e h3;exact Src.same s g (h.sr t ho h3)
theorem dl(w:Wd)(i:Nat)(r:Cl×List Tm×KV):dQ w (w.aft i r)/\(w.aft i r).ts=r.2.1/\(w.aft i r).m=r.2.2:=by
 obtain⟨a,b,c,h,e,f,j,l,n,g⟩:=dj w i r.1;exact⟨⟨a,b,c,f,e⟩,rfl,rfl⟩
theorem ET(w:Wd)(i:Nat)(c:KM):dQ w (w.setK i c)/\(w.setK i c).ts=w.ts/\(w.setK i c).m=w.m/\∀j,(w.setK i c).cl j=w.cl j:=by
 obtain⟨b,e,f,o,g,h,p,l,n,a⟩:=mX w i c;exact⟨⟨b,e,f,h,g⟩,l,n,a⟩
theorem ki(b:BL)(i:Int)(r:Int×Nw)(w:Wd):dQ w (fH b i r w)/\(fH b i r w).ts=w.ts/\(fH b i r w).m=w.m/\∀j,(fH b i r w).cl j=w.cl j:=by
 unfold fH;split
 ·exact ET w _ _
 ·exact⟨⟨rfl,rfl,rfl,rfl,rfl⟩,rfl,rfl,λ_=>rfl⟩
theorem qg(w:Wd)(hi:i<5)(a:j<5)(r:Cl×List Tm×KV):(w.aft i r).cl j=if j=i then r.1 else w.cl j:=by
 have e:(w.aft i r).cl j=(w.setC i r.1).cl j:=by
  unfold Wd.aft;rcases fZ a with rfl|rfl|rfl|rfl|rfl<;>rfl
 rw[e,Bp w r.1 hi a]
theorem dQ.trans{a b c:Wd}(h:dQ a b)(h':dQ b c):dQ a c:=⟨h'.sec.trans h.sec,h'.al.trans h.al,h'.go.trans h.go,h'.st.trans h.st,h'.lg.trans h.lg⟩
theorem jF{w:Wd}(h:Au w f)(a:cU w n):Su (10000*n+10000) w.ts w.m:=⟨h.su,a.ts⟩
theorem kW{w:Wd}(h:Au w md')(f:cU w (n+1)){i:Int}(hi:0<=i/\i<5){y:(Int×Nw)×Wd}(r:iV w i b y):
 Au y.2 md'/\dQ w y.2/\Gr gG w.ts y.2.ts/\(y.1.1=0->Sf w md' b y.1.2):=by
 obtain⟨z,l,rfl⟩:=r;have a:i.toNat<5:=ac
 have o:=rcP (k:=10000*n+10000) (f.cl i.toNat a).1 ((jF h f).mono ac) l;have s:=W_ h f a l;obtain⟨u,p,A⟩:=dl w i.toNat z.2;obtain⟨v,q,B,x⟩:=ki b i z.1 (w.aft i.toNat z.2);have g:Gr gG w.ts (fH b i z.1 (w.aft i.toNat z.2)).ts:=by rw[q,p];exact o.gr
 have C:=Sj l;refine⟨h.same (u.trans v) (g.imp λt e=>e.1) ?_ (λj c=>?_) λj c=>?_,u.trans v,g,s.2⟩
 ·show Cu (fH b i z.1 (w.aft i.toNat z.2)).ts (fH b i z.1 (w.aft i.toNat z.2)).m;rw[q,B,p,A];exact o.su.w
 ·show tJ w (fH b i z.1 (w.aft i.toNat z.2)).ts ((fH b i z.1 (w.aft i.toNat z.2)).cl j);rw[q,x,p,qg w a c];split
  ·exact s.1
  ·exact(h.cl j c).gr o.gr
 ·show((fH b i z.1 (w.aft i.toNat z.2)).cl j).sg=_/\((fH b i z.1 (w.aft i.toNat z.2)).cl j).se=_;rw[x,qg w a c];split
  ·rename_i e;subst e;exact C
  ·exact⟨rfl,rfl⟩
def OX(a b:BL):Tm:=(100,(if 0<lS a b then[b,a]else[a,b]),())
theorem OY{n:Int}{sec:BL}(f:aB sec)(h:Su (k+2) ts m)(h0:(gp n id sec pub ts m).1.2=0)(i:Nm ts pub (112,[v],())):
 ∃e,Nm (gp n id sec pub ts m).2.1 e (OX sec v)/\Nm (gp n id sec pub ts m).2.1 (gp n id sec pub ts m).1.1 (107,[e,vn n++vn id],()):=by
 have j:ts.length<=4294967296:=by have:=h.k.2;omega
 have a:=qE j i;have a:fi pub 112 ts=((112,[v],()),true):=a;unfold gp at h0⊢;split at h0
 ·rename_i g;exact absurd h0 g
 rename_i g;rw[ae g];have g:=aA.1 g
 have l:(jq sec pub ts m).1=dI (OX sec v) ts m:=by
  unfold jq at g⊢;split at g
  ·cases g
  rename_i o;rw[ae o];split at g
  ·cases g
  rename_i p;rw[ae p,a];rfl
 have b:eB (OX sec v):=by
  have:=Db (sec:=sec) (pub:=pub) f h.k.ok (by rw[a]);rw[a]at this;exact this
 have q:=ry (k:=k+1) h b;dsimp only;rw[l];generalize dI (OX sec v) ts m=S at*;have s:=bC n;have u:=bC id;have c:=q.2.len32 (by show(100:BitVec 8)≠98;decide) (by show(100:BitVec 8)≠103;decide);have r:=zl (k:=k) (t:=(107,[S.1,vn n++vn id],())) q.1.su (xp bt bt (show aB S.1 by unfold aB;omega) (show aB (vn n++vn id)by unfold aB;simp;omega));exact⟨S.1,r.1.gr.nm q.2,r.2 c⟩
theorem X_{n:Int}(a:aB v)(h:Su (k+2) ts m)(h0:(gp n id v pub ts m).1.2=0):(gp n id v pub ts m).1.1.length=32:=by
 unfold gp at h0⊢;split at h0
 ·rename_i g;exact absurd h0 g
 rename_i g;rw[ae g];have g:=aA.1 g
 have q:(jq v pub ts m).1.1.length=32/\Ok gG (k+1) ts (jq v pub ts m).1.2:=by
  refine⟨?_,shP a h⟩;unfold jq at g⊢;split at g
  ·cases g
  rename_i c;rw[ae c];split at g
  ·cases g
  rename_i b;rw[ae b];exact(ry (k:=k+1) h (Db a h.k.ok (cf b))).2.len32 (by show(100:BitVec 8)≠98;decide) (by show(100:BitVec 8)≠103;decide)
 dsimp only;generalize(jq v pub ts m).1=S at*;have e:=bC n;have f:=bC id;have r:=zl (k:=k) (t:=(107,[S.1,vn n++vn id],())) q.2.su (xp bt bt (show aB S.1 by unfold aB;omega) (show aB (vn n++vn id)by unfold aB;simp;omega));exact(r.2 q.1).len32 (by show(107:BitVec 8)≠98;decide) (by show(107:BitVec 8)≠103;decide)
theorem seP{o:BL}{n:Int}(a:aB q)(b:aB o)(c:aB x)(h:Su (k+1) ts m):Ok gG k ts (jp q n o x ts m).2:=by
 unfold jp;split
 ·exact Ok.refl h ac
 ·exact naP h (V8 a (by unfold aB;rw[eK];omega) b c) ⟨by show(98:BitVec 8)≠103;decide,by show(98:BitVec 8)≠115;decide⟩
theorem IN{n:Int}{once key co:BL}(c:aB once)(i:key.length<=64)(g:aB co){k:Nat}:∀(ms:List Mb)(a:List BL)(ts:List Tm)(m:KV),(∀p∈ms,aB p.2.1)->Su (k+3*ms.length) ts m->Ok gG k ts (ob n once key co ms a ts m).2
 |[],a,ts,m,_,b=>Ok.refl b ac
 |p::r,a,ts,m,e,b=>by
  have f:=M_ (k:=k+3*r.length+1) n p.1 c (e p (aF ..)) (b.mono eM);have j:=(N4 (k:=k+3*r.length+1) m n p.1 c (e p (aF ..)) (b.k.mono eM)).1;simp only[ob];split
  ·exact f.mono ac
  ·generalize gp n p.1 once p.2.1 ts m=z at*;have h:=seP (n:=1) (k:=k+3*r.length) (q:=z.1.1) (o:=co) (x:=key) hK g hK f.su;exact(f.trans h).trans (IN c i g r _ _ _ (λq l=>e q (aD _ l)) h.su)
def Bx(ts:List Tm)(n:Int)(once key co:BL)(id:Int)(v b:BL):Prop:=∃a c,Nm ts a (OX once v)/\Nm ts c (107,[a,vn n++vn id],())/\Nm ts b (98,[c,dB 1,co,key],())
theorem Bx.gr{n:Int}(h:Bx ts n once q co id v b)(g:Gr K ts ts'):Bx ts' n once q co id v b:=let⟨e,f,a,b,c⟩:=h;⟨e,f,g.nm a,g.nm b,g.nm c⟩
theorem OZ{n:Int}{once key co:BL}(j:aB once)(K:key.length<=64)(A:aB co){k:Nat}:∀(ms:List Mb)(a:List BL)(ts:List Tm)(m:KV),(∀p∈ms,aB p.2.1)->Su (k+3*ms.length) ts m->(ob n once key co ms a ts m).1.2=0->
 ∃l,(ob n once key co ms a ts m).1.1=a++l/\l.length=ms.length/\(∀b∈l,b.length=key.length+16)/\∀(i:Nat)(p:Mb)(v:BL),ms[i]?=some p->Nm ts p.2.1 (112,[v],())->∃b,l[i]?=some b/\Bx (ob n once key co ms a ts m).2.1 n once key co p.1 v b
 |[],a,ts,m,_,s,_=>⟨[],by simp[ob],rfl,bY,λi p v h=>by simp at h⟩
 |p::r,a,ts,m,B,s,C=>by
  have t:=M_ (k:=k+3*r.length+1) n p.1 j (B p (aF ..)) (s.mono eM);have M:=(N4 (k:=k+3*r.length+1) m n p.1 j (B p (aF ..)) (s.k.mono eM)).1;have c:=λv=>OY (v:=v) (n:=n) (id:=p.1) (pub:=p.2.1) (k:=k+3*r.length+1) j (s.mono eM);have f:=X_ (n:=n) (id:=p.1) (pub:=p.2.1) (k:=k+3*r.length+1) j (s.mono eM);simp only[ob]at C⊢;split at C
  ·rename_i g;exact absurd C g
  ·rename_i g;rw[ae g];have f:=f (aA.1 g);have c:=λv=>c v (aA.1 g);generalize gp n p.1 once p.2.1 ts m=z at*;have u:=seP (n:=1) (k:=k+3*r.length) (q:=z.1.1) (o:=co) (x:=key) hK A hK t.su;have w:=λy=>seG (q:=z.1.1) (n:=1) (o:=co) (x:=key) (k:=k+3*r.length) ac y A hK t.su;have E:=IN (n:=n) (co:=co) (key:=key) j K A (k:=k) r (a++[(jp z.1.1 1 co key z.2.1 z.2.2).1]) _ (jp z.1.1 1 co key z.2.1 z.2.2).2.2 (λq y=>B q (aD _ y)) u.su;obtain⟨l,N,O,P,Q⟩:=OZ j K A (k:=k) r (a++[(jp z.1.1 1 co key z.2.1 z.2.2).1]) _ (jp z.1.1 1 co key z.2.1 z.2.2).2.2 (λq y=>B q (aD _ y)) u.su C;refine⟨(jp z.1.1 1 co key z.2.1 z.2.2).1::l,by rw[N,ay];rfl,by simp[O],λb t=>?_,λi q v F L=>?_⟩
   ·rcases bm.1 t with e|e
    ·rw[e,(w f).2.len98]
    ·exact P b e
   rcases i with _|i
   ·simp at F;subst F;obtain⟨R,G,D⟩:=c v L;have H:=D.len32 (by show(107:BitVec 8)≠98;decide) (by show(107:BitVec 8)≠103;decide);have J:=w H;exact⟨_,bY,R,z.1.1,E.gr.nm (u.gr.nm G),E.gr.nm (u.gr.nm D),E.gr.nm J.2⟩
   ·obtain⟨b,G,D⟩:=Q i q v (cf F) (u.gr.nm (t.gr.nm L));exact⟨b,cf G,D⟩
theorem O0{lg:Lg}{sec key:BL}{ms:List Mb}{ns:List Fk}(M:cK lg.2.1 lg.2.2.1)(R:pi ms)(N:Su (k+40) ts m)
 (S:∀d∈lg.2.2.1,d.length=32) (U:lg.2.1.length<65536):
 ((lp lg sec once key ms ns ts m).1.2≠0/\Ok gG k ts (lp lg sec once key ms ns ts m).2)\/
 ((lp lg sec once key ms ns ts m).1.2=0/\∃(E:Et)(O:BL),(lp lg sec once key ms ns ts m).1.1=E/\E=jX lg ms ns O E.2.2.2.2.2.1 E.2.2.2.2.2.2.1/\iU E=true/\Gh lg.2.1 ms ns=true/\pB ms ns=true/\key.length=32/\once.length=32/\sec.length=32/\
   Ok (λt=>gG t\/t=(103,[sec,dS E],())) k ts (lp lg sec once key ms ns ts m).2/\Nm (lp lg sec once key ms ns ts m).2.1 E.2.2.2.2.2.2.1 (103,[sec,dS E],())/\Nm (lp lg sec once key ms ns ts m).2.1 O (112,[once],())/\
   Nm (lp lg sec once key ms ns ts m).2.1 lg.1 (118,[sec],())/\
   ∀(i:Nat)(p:Mb)(v:BL),ms[i]?=some p->Nm ts p.2.1 (112,[v],())->∃b,E.2.2.2.2.2.1[i]?=some b/\Bx (lp lg sec once key ms ns ts m).2.1 E.1 once key (eo E) p.1 v b):=by
 have W:Ok gG k ts (ts,m):=Ok.refl N ac;unfold lp;rw[bN];split
 ·exact .inl ⟨bY,W⟩
 rename_i A;rw[not_or,not_or]at A;have s:sec.length=32:=aA.1 A.1;have B:once.length=32:=aA.1 A.2.1;have G:key.length=32:=aA.1 A.2.2;have h:=zl (k:=k+39) N (ja (k:=118) bt bt (show aB sec by unfold aB;omega));have X:=h.2 s;have h:Ok gG (k+39) ts (cM (118,[sec],()) ts m).2:=h.1.imp λt e=>by rw[e];exact⟨by show(118:BitVec 8)≠103;decide,by show(118:BitVec 8)≠115;decide⟩
 dsimp only;generalize cM (118,[sec],()) ts m=v at*;split
 ·exact .inl ⟨bY,h.mono ac⟩
 rename_i H;have H:=aA.1 H;split
 ·exact .inl ⟨bY,h.mono ac⟩
 rename_i Y;have c:=zl (k:=k+38) h.su (ja (k:=112) bt bt (show aB once by unfold aB;omega));have P:=c.2 B;have c:Ok gG (k+38) v.2.1 (cM (112,[once],()) v.2.1 v.2.2).2:=c.1.imp λt e=>by rw[e];exact⟨by show(112:BitVec 8)≠103;decide,by show(112:BitVec 8)≠115;decide⟩
 generalize cM (112,[once],()) v.2.1 v.2.2=p at*;have j:=h.trans c;split
 ·exact .inl ⟨bY,j.mono ac⟩
 rename_i J;rw[not_or]at J;have u:pB ms ns=true:=cf J.1
 have hf:Gh lg.2.1 ms ns=true:=cf J.2
 obtain⟨q1,q2,q3,q4,q5⟩:=fT u;have w:=mh M lg.2.1.length;have l2:=P.len32 (by show(112:BitVec 8)≠98;decide) (by show(112:BitVec 8)≠103;decide)
 have hc:(eo (kq lg ms ns p.1)).length<=1002000:=by
  have:=mg (e:=kq lg ms ns p.1) u;have s:(kq lg ms ns p.1).2.1.length<=1000000:=w;have B:(kq lg ms ns p.1).2.2.2.2.1.length<=64:=by show p.1.length<=64;omega
  omega
 unfold JJ;dsimp only;have K:aB once:=hK
 have l:aB (eo (kq lg ms ns p.1)):=hK
 have o:∀x∈ms,aB x.2.1:=λx hx=>by have:=(R x hx).1;unfold aB;omega
 have C:=IN (n:=lg.2.1.length+1) (k:=k+1) K (show key.length<=64 by omega) l ms [] p.2.1 p.2.2 o (c.su.mono ac);have y:=wR (n:=lg.2.1.length+1) (k:=k+1) K (show key.length<=64 by omega) l ms [] p.2.1 p.2.2 o (c.su.k.mono ac) bY;have L:=OZ (n:=lg.2.1.length+1) (k:=k+1) K (show key.length<=64 by omega) l ms [] p.2.1 p.2.2 o (c.su.mono ac);generalize ob (lg.2.1.length+1) once key (eo (kq lg ms ns p.1)) ms [] p.2.1 p.2.2=z at*;have f:=j.trans C;split
 ·rename_i g;exact .inl ⟨g,f.mono ac⟩
 rename_i gz;obtain⟨bs,D,b2,b4,b3⟩:=L (aA.1 gz);rw[eO]at D
 have hw:∀a:BL,(dS (jX lg ms ns p.1 z.1.1 a)).length<=1003000:=by
  intro a;have:=tp (e:=jX lg ms ns p.1 z.1.1 a) u 80 y.2.1;have s:(jX lg ms ns p.1 z.1.1 a).2.1.length<=1000000:=w;have B:(jX lg ms ns p.1 z.1.1 a).2.2.2.2.1.length<=64:=by show p.1.length<=64;omega
  have G:(jX lg ms ns p.1 z.1.1 a).2.2.2.2.2.1.length<=5:=by have:=y.2.2;simp at this;exact bE this q2
  omega
 have ew:∀a,dS (jX lg ms ns p.1 z.1.1 a)=dS (jX lg ms ns p.1 z.1.1 []):=λa=>rfl;have ec:∀a,eo (jX lg ms ns p.1 z.1.1 a)=eo (kq lg ms ns p.1):=λa=>rfl;have r:=zl (k:=k) C.su (xp (k:=103) bt bt (show aB sec by unfold aB;omega) (show aB (dS (jX lg ms ns p.1 z.1.1 []))by have:=hw [];unfold aB;omega));have Q:=r.2 s;have r:=r.1;generalize cM (103,[sec,dS (jX lg ms ns p.1 z.1.1 [])],()) z.2.1 z.2.2=g at*;refine .inr ⟨rfl,jX lg ms ns p.1 z.1.1 g.1,p.1,rfl,rfl,?_,hf,u,G,B,s,?_,?_,?_,?_,?_⟩
 ·unfold iU;refine decide_eq_true ⟨?_,?_,?_,u,?_,l2,?_,Q.len64⟩
  ·show(1:Int)<=(lg.2.1.length:Int)+1;omega
  ·show(lg.2.1.length:Int)+1<=65536;omega
  ·show((lg.2.1.length:Int)+1=1/\(mc lg.2.1 lg.2.2.1 lg.2.1.length).length=0\/(mc lg.2.1 lg.2.2.1 lg.2.1.length).length=32);unfold mc;by_cases q:lg.2.1.length=0
   ·rw[ak (.inl ac)];exact .inl ⟨ac,rfl⟩
   ·rw[ae ac];exact .inr (S _ (aV (by have:=M.2.1;omega)))
  ·intro b F;have F:b∈z.1.1:=F;rw[D]at F;rw[b4 b F,G]
  ·show z.1.1.length=ms.length;rw[D,b2]
 ·exact(f.imp λt e=> .inl e).trans (r.imp λt e=> .inr e)
 ·exact Q
 ·exact r.gr.nm (C.gr.nm P)
 ·rw[<-H];exact r.gr.nm (C.gr.nm (c.gr.nm X))
 ·intro i x v hi hv;obtain⟨b,c1,c2⟩:=b3 i x v hi (j.gr.nm hv);exact⟨b,by show z.1.1[i]?=_;rw[D];exact c1,c2.gr r.gr⟩
structure eA(w w':Wd)(md md':List Md):Prop where
 sec:w'.sec=w.sec
 al:w'.al=w.al
 go:∀a,w.go.getD a false=true->w'.go.getD a false=true
 st:∃s,w'.st=w.st++s
 md:∃s,md'=md++s
 adm:w'.lg.1=w.lg.1
 es:∃s,w'.lg.2.1=w.lg.2.1++s
 ds:∃s,w'.lg.2.2.1=w.lg.2.2.1++s
theorem dm{l s:List α}{x:α}(h:l[n]?=some x):(l++s)[n]?=some x:=by
 rw[bq (cq.1 h).1];exact h
theorem Src.ext{w w':Wd}{md:List Md}(h:eA w w' md md')(g:Gr K w.ts w'.ts)(s:uB w md t\/uC w md t\/ES w t):uB w' md' t\/uC w' md' t\/ES w' t:=by
 have b:∀i j,w'.se i j=w.se i j:=λi j=>by unfold Wd.se;rw[h.sec]
 obtain⟨D,z⟩:=h.st;obtain⟨E,A⟩:=h.md;obtain⟨F,B⟩:=h.es;obtain⟨G,C⟩:=h.ds;refine s.imp ?_ (Or.imp ?_ ?_)
 ·rintro⟨n,e,d,c,f,m,o,p,r,u,v⟩;exact⟨n,e,d,by rw[z];exact dm c,by rw[A];exact dm f,m,by rw[b];exact o,g.nm p,by rw[B];exact dm r,by rw[C];exact dm u,g.nm v⟩
 ·rintro⟨n,l,a,x,y,c,f,m,o,p,r,u,v⟩;exact⟨n,l,a,x,y,by rw[z];exact dm c,by rw[A];exact dm f,m,o,by rw[b];exact p,g.nm r,g.nm u,v.imp id (λq=>⟨q.1,h.go a q.2⟩)⟩
 ·rintro⟨l,a,y,lk,c,f,m,o,p,r,u,v⟩;exact⟨l,a,y,lk,c,f,m,by rw[b];exact o,p,r,g.nm u,v⟩
theorem tJ.ext{w w':Wd}{md:List Md}(h:eA w w' md md')(a:w.lg.2.1.length=w.lg.2.2.1.length)(g:Gr K ts ts')(b:tJ w ts c):tJ w' ts' c:=by
 obtain⟨⟨k,e⟩,f⟩:=b;obtain⟨l,i⟩:=h.es;obtain⟨m,j⟩:=h.ds;refine⟨⟨min k w.lg.2.1.length,?_⟩,f.gr g⟩;rw[e,h.adm,i,j,List.take_append_of_le_length (Nat.min_le_right ..),List.take_append_of_le_length (by rw[<-a];exact Nat.min_le_right ..)];rcases Nat.le_total k w.lg.2.1.length with q|q
 ·rw[fh q]
 ·rw[Nat.min_eq_right q,bb q,bb (by rw[<-a];exact q),bv];rw[a,bv]
theorem Au.ext{w w':Wd}(h:Au w f)(x:eA w w' f md')(g:Gr K w.ts w'.ts)(hu:Cu w'.ts w'.m)(hc:∀i:Nat,i<5->tJ w' w'.ts (w'.cl i))(ho:∀i:Nat,i<5->(w'.cl i).sg=(w.cl i).sg/\(w'.cl i).se=(w.cl i).se)
 (hes:∀(i:Nat)(e:Et),w'.lg.2.1[i]?=some e->e.1=(i:Int)+1/\∀p∈e.2.2.1,p∈w'.al) (hle:w'.lg.2.1.length<=w'.st.length) (hd:∀d∈w'.lg.2.2.1,d.length=32) (hm:md'.length=w'.st.length)
 (new:∀t,K t->t.1=103->t∈w'.ts->uB w' md' t\/uC w' md' t\/ES w' t):Au w' md' where
 su:=hu
 sc a j ha hj:=by
  have:w'.se a j=w.se a j:=by unfold Wd.se;rw[x.sec]
  rw[this];exact g.nm (h.sc a j ha hj)
 al p hp:=by
  have hse:∀i j,w'.se i j=w.se i j:=λi j=>by unfold Wd.se;rw[x.sec]
  rw[x.al]at hp;obtain⟨a,b,y,h1,h2,h3,h4⟩:=h.al p hp;exact⟨a,b,y,h1,h2,by rw[hse];exact g.nm h3,by rw[hse];exact g.nm h4⟩
 adm:=by
  have:w'.se 0 1=w.se 0 1:=by unfold Wd.se;rw[x.sec]
  rw[x.adm,this];exact g.nm h.adm
 es:=hes
 cl:=hc
 own i hi:=by
  have hse:∀i j,w'.se i j=w.se i j:=λi j=>by unfold Wd.se;rw[x.sec]
  rw[(ho i hi).1,(ho i hi).2,hse,hse];exact h.own i hi
 le:=hle
 d32:=hd
 ml:=hm
 sr t ht h3:=by
  rcases g.old ht with q|q
  ·exact Src.ext x g (h.sr t q h3)
  ·exact new t q h3 ht
theorem X'{lg:Lg}(m:KV)(a:ts.length<=4294967296)(b:iU e=true)(c:e.1=(lg.2.1.length:Int)+1)(f:e.2.1=mc lg.2.1 lg.2.2.1 lg.2.1.length)(g:Nm ts e.2.2.2.2.2.2.1 (103,[v,dS e],()))(h:Nm ts lg.1 (118,[v],()))(i:Gh lg.2.1 e.2.2.1 e.2.2.2.1=true):(iu lg e ts m).1=0:=by
 have j:fi e.2.2.2.2.2.2.1 103 ts=((103,[v,dS e],()),true):=qE a g;have l:fi lg.1 118 ts=((118,[v],()),true):=qE a h
 have n:ws lg.1 (dS e) e.2.2.2.2.2.2.1 ts=true:=by
  unfold ws;rw[j,l];simp
 unfold iu;rw[bN,ae (by rw[b];decide),ae ac,ae (λq=>q c),ae (λq=>q f),ae (by rw[n];decide),ae (by rw[i];decide)]
theorem pu{a:Nat}:∀(l:List Fk)(g:List Bool),g.getD a false=true->(ua g l).getD a false=true
 |[],_,h=>h
 |x::r,g,h=>by
  rw[ua];refine pu r _ ?_;rw[aw]at h⊢;rw[List.getElem?_set];split
  ·split
   ·rfl
   ·rename_i q _;subst q;rename_i w;rw[be ac]at h;exact h
  ·exact h
def Wd.stl(w:Wd)(s:List BL)(l:List Int):Wd:={w with st:=s,ln:=l}
theorem No{w:Wd}{i:Int}{y:(Int×Nw)×Wd}(hi:0<=i/\i<5)(s:List BL)(l:List Int)(r:iV w i b y):iV (w.stl s l) i b (y.1,y.2.stl s l):=by
 obtain⟨z,c,rfl⟩:=r;obtain⟨j,rfl⟩:=bo hi.1;have a:j<5:=ac
 refine⟨z,?_,?_⟩
 ·have:(w.stl s l).cl (j:Int).toNat=w.cl (j:Int).toNat:=by
   rw[aG];rcases fZ a with rfl|rfl|rfl|rfl|rfl<;>rfl
  rw[this];exact c
 ·rw[aG];refine ga rfl ?_;show(fH b j z.1 (w.aft j z.2)).stl s l=fH b j z.1 ((w.stl s l).aft j z.2);unfold fH;split
  ·rw[aG];rcases fZ a with rfl|rfl|rfl|rfl|rfl<;>rfl
  ·rcases fZ a with rfl|rfl|rfl|rfl|rfl<;>rfl
theorem zp(w:Wd)(n:Int)(es:List Fk)(g:List Bool)(s:List BL)(l:List Int)(hi:i<5):((w.mb n es g).stl s l).cl i=w.cl i:=by
 rcases fZ hi with rfl|rfl|rfl|rfl|rfl<;>rfl
theorem O1(n:Int):∀t:Tm,t=(115,[dB n],())->t.1≠103:=λt e=>by rw[e];show(115:BitVec 8)≠103;decide
theorem gX{w:Wd}{i:Int}{y:(Int×Nw)×Wd}(r:iV w i b y):y.2.st=w.st/\y.2.ln=w.ln/\y.2.d=w.d:=by
 obtain⟨z,f,rfl⟩:=r;have a:=dj w i.toNat z.2.1;show(fH b i z.1 (w.aft i.toNat z.2)).st=_/\(fH b i z.1 (w.aft i.toNat z.2)).ln=_/\(fH b i z.1 (w.aft i.toNat z.2)).d=_;unfold fH;split
 ·have e:=λc=>mX (w.aft i.toNat z.2) i.toNat c;exact⟨(e _).2.2.2.2.2.1.trans a.2.2.2.2.2.1,(e _).2.2.2.2.2.2.1.trans a.2.2.2.2.2.2.1,(e _).2.2.2.1.trans a.2.2.2.1⟩
 ·exact⟨a.2.2.2.2.2.1,a.2.2.2.2.2.2.1,a.2.2.2.1⟩
theorem Df{w:Wd}(h:Au w f)(c:cU w (k+2)):Su (10000*(k+1)+10140) (gC w).2.1 (gC w).2.2/\Gr (λt=>t.1≠103) w.ts (gC w).2.1/\Nm (gC w).2.1 (qG w).1 (115,[dB (w.d+1)],())/\Nm (gC w).2.1 (gC w).1 (115,[dB (w.d+1+1)],()):=by
 have b:=ry (k:=10000*(k+1)+10141) ((jF h c).mono ac) (fP (w.d+1));have a:=ry (k:=10000*(k+1)+10140) b.1.su (fP (w.d+1+1));exact⟨a.1.su,(b.1.gr.imp (O1 _)).trans (a.1.gr.imp (O1 _)),a.1.gr.nm b.2,a.2⟩
theorem pw{w:Wd}(h:Au w md')(v:cU w (k+2))(h4:w.st.length<400){n:Int}{y:(Int×Int)×Wd}(r:ff w n y):
 (y.1.1≠0/\y.1.2=0/\Au y.2 md'/\dQ w y.2/\∃es,uz w n es/\(dW w n es).1.2≠0/\y=(((dW w n es).1.2,0),w.su (w.d+1+1) (dW w n es).2)/\Gr (λt=>t.1≠103) w.ts (dW w n es).2.1)\/
 (y.1.1=0/\y.1.2=(w.st.length:Int)+1/\Au y.2 (md'++[(0,true,())])/\y.2.sec=w.sec/\y.2.al=w.al/\∃(es:List Fk)(E:Et),uz w n es/\y.2.go=ua w.go es/\y.2.st=w.st++[gi E]/\y.2.ln=w.ln++[0]/\y.2.lg.2.1=w.lg.2.1++[ER E]/\E.2.2.1=oy n 0 w.al/\E.2.2.2.1=es/\(dW w n es).1.1=E/\iU E=true/\(dW w n es).1.2=0/\∃(c:Wd)(r1:Int×Nw),c=(w.mb n es (ua w.go es)).stl (w.st++[gi E]) (w.ln++[0])/\Au c (md'++[(0,true,())])/\cU c (k+1)/\iV c 0 (gi E) (r1,y.2)/\Gr (λt=>t.1≠103\/t=(103,[w.se 0 1,dS E],())) w.ts c.ts/\c.lg.2.1=w.lg.2.1++[ER E]/\c.sec=w.sec/\c.ts=(dI (104,[dS E],()) (dW w n es).2.1 (dW w n es).2.2).2.1/\Gr (λ_=>True) (dW w n es).2.1 c.ts):=by
 obtain⟨es,hg,r⟩:=r;obtain⟨d1,d2,d3,d4⟩:=Df h v;have a0:pi (oy n 0 w.al):=λx hx=>v.al.2 x (jE hx);have a4:=v.st.1;have hE:=O0 (lg:=w.lg) (sec:=w.se 0 1) (once:=(qG w).1) (key:=(gC w).1) (ms:=oy n 0 w.al) (ns:=es) (k:=10000*(k+1)+10100) v.lg.1 a0 d1 h.d32 (by have:=h.le;omega);have hE:((dW w n es).1.2≠0/\_)\/((dW w n es).1.2=0/\_):=hE;rcases hE with⟨C,o⟩|⟨C,E,oc,o,S,U,e4,e5,e6,e7,e8,Q,G,a5,L,a6⟩
 ·rw[ak C]at r;rw[r];have g:Gr (λt=>t.1≠103) w.ts (dW w n es).2.1:=d2.trans (o.gr.imp λt q=>q.1);have A:∀i,i<5->(w.su (w.d+1+1) (dW w n es).2).cl i=w.cl i:=λi j=>by rcases fZ j with rfl|rfl|rfl|rfl|rfl<;>rfl
  exact .inl ⟨C,rfl,h.same ⟨rfl,rfl,rfl,rfl,rfl⟩ g o.su.w (λi j=>by rw[A i j];exact(h.cl i j).gr g) (λi j=>by rw[A i j];exact⟨rfl,rfl⟩),⟨rfl,rfl,rfl,rfl,rfl⟩,es,hg,C,rfl,g⟩
 ·rw[ae (λq=>q C)]at r;have o:(dW w n es).1.1=E:=o;have Q:Ok (λt=>gG t\/t=(103,[w.se 0 1,dS E],())) (10000*(k+1)+10100) (gC w).2.1 (dW w n es).2:=Q;have G:Nm (dW w n es).2.1 E.2.2.2.2.2.2.1 (103,[w.se 0 1,dS E],()):=G;have L:Nm (dW w n es).2.1 w.lg.1 (118,[w.se 0 1],()):=L;have a1:(dW w n es).2.1.length<=4294967296:=by have:=Q.su.k.2;omega
  have E1:E.1=(w.lg.2.1.length:Int)+1:=by rw[S];rfl
  have E2:E.2.1=mc w.lg.2.1 w.lg.2.2.1 w.lg.2.1.length:=by rw[S];rfl
  have E3:E.2.2.1=oy n 0 w.al:=by rw[S];rfl
  have E4:E.2.2.2.1=es:=by rw[S];rfl
  have hT:(qH w n es).1=0:=by
   unfold qH;rw[o];exact X' _ a1 U E1 E2 G L (by rw[E3,E4];exact e4)
  rw[ae (λq=>q hT)]at r;obtain⟨z,hz,r⟩:=r;have f:=tH v C (g:=ua w.go es) (by rw[rB];exact v.go)
  have M:(qH w n es).2=((w.lg.1,w.lg.2.1++[ER E],w.lg.2.2.1++[(dI (104,[dS E],()) (dW w n es).2.1 (dW w n es).2.2).1],()),(dI (104,[dS E],()) (dW w n es).2.1 (dW w n es).2.2).2):=by
   have:=(Nn (lg:=w.lg) (e:=(dW w n es).1.1) (ts:=(dW w n es).2.1) (m:=(dW w n es).2.2) hT).2.2.2;rw[o]at this;unfold qH;rw[o];exact this
  have a7:=(im U).2.1;have P:=ry (k:=10000*(k+1)+10099) (t:=(104,[dS E],())) Q.su (ja bt bt hK);generalize hD:dI (104,[dS E],()) (dW w n es).2.1 (dW w n es).2.2=D at*;obtain⟨c,B⟩:∃c,c=(w.mb n es (ua w.go es)).stl (w.st++[gi E]) (w.ln++[0]):=⟨_,rfl⟩
  have H:c.ts=D.2.1/\c.m=D.2.2/\c.lg=(w.lg.1,w.lg.2.1++[ER E],w.lg.2.2.1++[D.1],())/\c.st=w.st++[gi E]/\c.ln=w.ln++[0]/\c.sec=w.sec/\c.al=w.al/\c.go=ua w.go es:=by
   rw[B];refine⟨?_,?_,?_,rfl,rfl,rfl,rfl,rfl⟩
   ·show(qH w n es).2.2.1=_;rw[M]
   ·show(qH w n es).2.2.2=_;rw[M]
   ·show(qH w n es).2.1=_;rw[M]
  obtain⟨H,m2,F,W,m5,X,m7,m8⟩:=H;have x:eA w c md' (md'++[(0,true,())]):=⟨X,m7,λa ha=>by rw[m8];exact pu _ _ ha,⟨_,W⟩,⟨_,rfl⟩,by rw[F],⟨[ER E],by rw[F]⟩,⟨[D.1],by rw[F]⟩⟩
  have g:Gr (λt=>t.1≠103\/t=(103,[w.se 0 1,dS E],())) w.ts c.ts:=by
   rw[H];exact(d2.imp λt q=> .inl q).trans ((Q.gr.imp λt q=>q.imp (λq=>q.1) id).trans (P.1.gr.imp λt q=> .inl (by rw[q];show(104:BitVec 8)≠103;decide)))
  have a2:c.se 0 1=w.se 0 1:=by unfold Wd.se;rw[X]
  have A:∀i,i<5->c.cl i=w.cl i:=λi j=>by rw[B];exact zp w n es _ _ _ j
  have A1:Au c (md'++[(0,true,())]):=by
   refine h.ext x g (by rw[H,m2];exact P.1.su.w) (λi j=>by rw[A i j];exact(h.cl i j).ext x v.lg.1.2.1 g) (λi j=>by rw[A i j];exact⟨rfl,rfl⟩) ?_ ?_ ?_ ?_ ?_
   ·intro i e s;rw[F]at s;have s:(w.lg.2.1++[ER E])[i]?=some e:=s;rw[m7];rcases br i w.lg.2.1.length with q|q
    ·rw[bq q]at s;exact h.es i e s
    ·rw[aJ q]at s
     have C:i-w.lg.2.1.length=0:=by
      rcases dP (i-w.lg.2.1.length)with u|u
      ·exact u
      ·rw[be eM]at s;cases s
     rw[C]at s;have s:=Option.some.inj s;subst s;refine⟨?_,λp N=>?_⟩
     ·show E.1=_;omega
     ·have N:p∈E.2.2.1:=N;rw[E3]at N;exact jE N
   ·rw[F,W];have:=h.le;show(w.lg.2.1++[ER E]).length<=_;simp;omega
   ·intro d Y;rw[F]at Y;have Y:d∈w.lg.2.2.1++[D.1]:=Y;rcases ba.1 Y with q|q
    ·exact h.d32 d q
    ·rw[bV.1 q];exact P.2.len32 (by show(104:BitVec 8)≠98;decide) (by show(104:BitVec 8)≠103;decide)
   ·rw[W,aa,aa,h.ml];rfl
   ·intro t ht h3 _;rcases ht with q|q
    ·exact absurd h3 q
    ·refine .inl ⟨w.st.length,E,D.1,?_,?_,U,by rw[a2];exact q,?_,?_,?_,?_⟩
     ·rw[W,aJ (aE _)];simp
     ·rw[aJ (by rw[h.ml];exact aE _),h.ml];simp
     ·rw[H,q];exact P.1.gr.nm G
     ·rw[F];show(w.lg.2.1++[ER E])[(E.1-1).toNat]?=_;rw[show(E.1-1).toNat=w.lg.2.1.length by omega,aJ (aE _)];simp
     ·rw[F];show(w.lg.2.2.1++[D.1])[(E.1-1).toNat]?=_;rw[show(E.1-1).toNat=w.lg.2.2.1.length by have:=v.lg.1.2.1;omega,aJ (aE _)];simp
     ·rw[H];exact P.2
  have O:=No (i:=0) ac (w.st++[gi E]) (w.ln++[0]) hz;rw[<-B,o]at O
  have J:cU c (k+1):=by
   rw[B];have N:=(tG v n es).2 C;rw[o]at N;refine⟨λi j=>?_,f.ts,f.sec,f.al,f.lg,f.l5,f.go,⟨?_,?_,λb hb=>?_⟩,f.dr⟩
   ·have:=f.cl i j
    rwa [show((w.mb n es (ua w.go es)).stl (w.st++[gi E]) (w.ln++[0])).cl i=(w.mb n es (ua w.go es)).cl i by rcases fZ j with rfl|rfl|rfl|rfl|rfl<;>rfl]
   ·show(w.st++[gi E]).length<=1000;rw[aa,bi];omega
   ·show(w.ln++[0]).length=(w.st++[gi E]).length;rw[aa,aa,v.st.2.1];rfl
   ·have hb:b∈w.st++[gi E]:=hb;rcases ba.1 hb with q|q
    ·exact v.st.2.2 b q
    ·rw[bV.1 q];exact N.2.1
  obtain⟨f1,f2,f3,f4⟩:=kW A1 J ac O
  have R:z.2.st=w.st:=by
   have:=(gX hz);exact this.1
  have a3:z.2.ln=w.ln:=(gX hz).2.1
  have K:y.2=z.2.stl (w.st++[gi E]) (w.ln++[0]):=by
   rw[r];show({z.2 with st:=z.2.st++[gi (dW w n es).1.1],ln:=z.2.ln++[0]}:Wd)=_;rw[R,a3,o];rfl
  refine .inr ⟨by rw[r],by rw[r];show(z.2.st.length:Int)+1=_;rw[R],by rw[K];exact f1,by rw[K];exact f2.sec.trans X,by rw[K];exact f2.al.trans m7,es,E,hg,?_,?_,?_,?_,E3,E4,o,U,C,c,z.1,B,A1,J,by rw[K];exact O,g,by rw[F],X,by rw[H,hD],by rw[H];exact P.1.gr.imp λ_ _=>trivial⟩
  ·rw[K];exact f2.go.trans m8
  ·rw[K];rfl
  ·rw[K];rfl
  ·rw[K];have:=f2.lg;rw[F]at this;exact aI (λl:Lg=>l.2.1) this
theorem tJ.lg{w w':Wd}(e:w'.lg=w.lg)(h:tJ w ts c):tJ w' ts c:=let⟨⟨k,a⟩,b⟩:=h;⟨⟨k,by rw[e];exact a⟩,b⟩
theorem IQ{w:Wd}(h:Au w md')(b:BL)(n a:Int)(f:Bool):Au (w.keep b n) (md'++[(a,f,())]):=
 h.ext (K:=λ_=>False) (w':=w.keep b n) ⟨rfl,rfl,λ_ q=>q,⟨[b],rfl⟩,⟨_,rfl⟩,rfl,⟨[],by simp[Wd.keep]⟩,⟨[],by simp[Wd.keep]⟩⟩ (Gr.refl _ _) h.su
  (λi c=>(show tJ w w.ts ((w.keep b n).cl i)by
   have e:(w.keep b n).cl i=w.cl i:=by rcases fZ c with rfl|rfl|rfl|rfl|rfl<;>rfl
   rw[e];exact h.cl i c))
  (λi c=>by rcases fZ c with rfl|rfl|rfl|rfl|rfl<;>exact⟨rfl,rfl⟩) h.es (by show w.lg.2.1.length<=(w.st++[b]).length;have:=h.le;simp;omega) h.d32 (by show _=(w.st++[b]).length;rw[aa,aa,h.ml];rfl) (λt q=>q.elim)
theorem wV{w w':Wd}{b:Bool}(h:Au w md')(s:k<5)(o:w'.sec=w.sec)(p:w'.al=w.al)(r:w'.go=w.go)(c:w'.lg=w.lg)(e:w'.st=w.st++[eV l])
 (g:Gr (λt=>gG t\/t=(103,[w.se k 1,dp l++tx hh],())) w.ts w'.ts) (u:Cu w'.ts w'.m) (v:∀i:Nat,i<5->tJ w w'.ts (w'.cl i)) (x:∀i:Nat,i<5->(w'.cl i).sg=(w.cl i).sg/\(w'.cl i).se=(w.cl i).se)
 (y:jY l=true) (z:Nm w'.ts hh (104,[l.2.2.2.2.2.1],())) (A:Nm w'.ts l.2.2.2.2.2.2.1 (103,[w.se k 1,dp l++tx hh],())) (f:b=true/\l.2.1=k\/b=false/\w.go.getD k false=true):Au w' (md'++[((k:Int),b,())]):=by
 have n:∀i j,w'.se i j=w.se i j:=λi j=>by unfold Wd.se;rw[o]
 refine h.ext ⟨o,p,λ_ q=>by rw[r];exact q,⟨_,e⟩,⟨_,rfl⟩,by rw[c],⟨[],by rw[c,aH]⟩,⟨[],by rw[c,aH]⟩⟩ g u (λi B=>(v i B).lg c) x (by rw[c,p];exact h.es) ?_ (by rw[c];exact h.d32) ?_ ?_
 ·rw[c,e,aa];have:=h.le;omega
 ·rw[e,aa,aa,h.ml];rfl
 ·intro t C D _;rcases C with q|q
  ·exact absurd D q.1
  ·refine .inr (.inl ⟨w.st.length,l,k,b,hh,?_,?_,y,s,by rw[n];exact q,z,by rw[q];exact A,by rw[r];exact f⟩)
   ·rw[e,aJ (aE _)];simp
   ·rw[aJ (by rw[h.ml];exact aE _),h.ml];simp
def Wd.told(w:Wd)(i:Nat)(z:(BL×Int)×La×List Tm×KV):Wd:=w.aft i ({w.cl i with la:=z.2.1},z.2.2.1,z.2.2.2)
def Wd.wrt(w:Wd)(i:Nat)(z:(BL×Int)×Pg×Ln×List Tm×KV):Wd:=w.aft i ({w.cl i with pg:=z.2.1,bk:=z.2.2.1},z.2.2.2.1,z.2.2.2.2)
theorem eL(w:Wd)(b:BL)(n:Int)(hi:i<5):(w.keep b n).cl i=w.cl i:=by rcases fZ hi with rfl|rfl|rfl|rfl|rfl<;>rfl
structure O2(w:Wd)(ts:List Tm)(a:Nat)(ep text:BL)(l:Lt):Prop where
 ok:jY l=true
 au:l.2.1=a
 key:ep.length=32
 pad:(fY text).2=0
 box:∃kk,Nm ts kk (107,[ep,jB l],())/\Nm ts l.2.2.2.2.2.1 (98,[kk,dB l.2.2.2.1,dp l,(fY text).1],())
theorem iD{w:Wd}(h:Au w md')(q:cU w (n+1))(hi:i<5){z:(Lt×Int)×List Tm×KV}(a:z=kS (w.cl i).c (w.cl i).sg (w.cl i).lg (w.cl i).km l0 text w.ts w.m):
 (z.1.2≠0/\z.2=(w.ts,w.m))\/
 (z.1.2=0/\∃hh,Ok (λt=>gG t\/t=(103,[w.se i 1,dp z.1.1++tx hh],())) (10000*(n+1)+9000) w.ts z.2/\Nm z.2.1 hh (104,[z.1.1.2.2.2.2.2.1],())/\Nm z.2.1 z.1.1.2.2.2.2.2.2.1 (103,[w.se i 1,dp z.1.1++tx hh],())/\
  O2 w z.2.1 i ((aO .i64 ((w.cl i).lg.2.1.length:Int) (w.cl i).km).getD []) text z.1.1/\z.1.1.2.2.1=(w.cl i).lg.2.1.length/\z.1.1.1=l0.1/\z.1.1.2.2.2.1=l0.2.2.2.1/\z.1.1.2.2.2.2.1=l0.2.2.2.2.1):=by
 have f:=(q.cl i hi).2.1;have r:Su (10000*(n+1)+9000+4) w.ts w.m:=(jF h q).mono ac;unfold kS at a;rw[bN,f,(h.own i hi).1]at a;rcases Ip (sec:=w.se i 1) (ep:=(aO .i64 ((w.cl i).lg.2.1.length:Int) (w.cl i).km).getD []) (text:=text) (l:=(l0.1,(i:Int),((w.cl i).lg.2.1.length:Int),l0.2.2.2)) r with⟨j,e⟩|⟨s,b,hh,g,y,j,e,D,u,v,x,A,B,C,o,p⟩
 ·rw[<-a]at j e;exact .inl ⟨j,e⟩
 ·rw[v]at a;subst a;refine .inr ⟨rfl,hh,x,C,o,⟨p,rfl,e,u,s,A,B⟩,rfl,rfl,rfl,rfl⟩
theorem qh(w:Wd)(hi:i<5)(a:j<5)(z:(BL×Int)×La×List Tm×KV):(w.told i z).cl j=if j=i then{w.cl i with la:=z.2.1}else w.cl j:=qg w hi a _
theorem wW{w:Wd}{md:List Md}(h:Au w md)(x:cU w (n+1))(hi:i<5){a:Int}{t:BL}{z:(BL×Int)×La×List Tm×KV}(b:z=lr a t (w.cl i).c (w.cl i).sg (w.cl i).lg (w.cl i).la (w.cl i).km w.ts w.m):
 (z.1.2≠0/\z.2=((w.cl i).la,w.ts,w.m))\/
 (z.1.2=0/\(∀o:Int,Au ((w.told i z).keep z.1.1 o) (md++[((i:Int),true,())]))/\z.2.1=tD (w.cl i).la a (w.cl i).c (gV (w.cl i).la a (w.cl i).c+1)/\
  ∃(l:Lt)(hh:BL),z.1.1=eV l/\Ok (λt=>gG t\/t=(103,[w.se i 1,dp l++tx hh],())) (10000*(n+1)+9000) w.ts z.2.2/\O2 w z.2.2.1 i ((aO .i64 ((w.cl i).lg.2.1.length:Int) (w.cl i).km).getD []) t l/\l.2.2.1=(w.cl i).lg.2.1.length/\l.1=a/\l.2.2.2.1=gV (w.cl i).la a (w.cl i).c+1/\l.2.2.2.2.1=[]):=by
 unfold lr at b;rw[bN]at b;split at b
 ·rename_i g;subst b;exact .inl ⟨g,rfl⟩
 split at b
 ·subst b;exact .inl ⟨bY,rfl⟩
 dsimp only at b;have y:=iD (l0:=(a,0,0,gV (w.cl i).la a (w.cl i).c+1,[],[],[],())) (text:=t) h x hi rfl;generalize kS (w.cl i).c (w.cl i).sg (w.cl i).lg (w.cl i).km (a,0,0,gV (w.cl i).la a (w.cl i).c+1,[],[],[],()) t w.ts w.m=s at*;rcases y with⟨u,f⟩|⟨u,hh,f,A,B,v,C,D,E,F⟩
 ·rw[ak u]at b;subst b;exact .inl ⟨u,by dsimp only;rw[f]⟩
 ·rw[ae (λq=>q u)]at b;subst b;refine .inr ⟨rfl,λo=>?_,rfl,s.1.1,hh,rfl,f,v,C,D,E,F⟩;have G:∀o,(((w.told i ((eV s.1.1,0),tD (w.cl i).la a (w.cl i).c (gV (w.cl i).la a (w.cl i).c+1),s.2)).keep (eV s.1.1) o).ts=s.2.1/\((w.told i ((eV s.1.1,0),tD (w.cl i).la a (w.cl i).c (gV (w.cl i).la a (w.cl i).c+1),s.2)).keep (eV s.1.1) o).m=s.2.2):=λ_=>⟨rfl,rfl⟩;obtain⟨r,H,J⟩:=dl w i ({w.cl i with la:=tD (w.cl i).la a (w.cl i).c (gV (w.cl i).la a (w.cl i).c+1)},s.2.1,s.2.2);refine wV (hh:=hh) (l:=s.1.1) (w':=(w.told i ((eV s.1.1,0),tD (w.cl i).la a (w.cl i).c (gV (w.cl i).la a (w.cl i).c+1),s.2)).keep (eV s.1.1) o) h hi r.sec r.al r.go r.lg (by show(w.aft i _).st++_=_;rw[r.st]) f.gr f.su.w (λj p=>?_) (λj p=>?_) v.ok A B (.inl ⟨rfl,v.au⟩)
  ·rw[eL _ _ _ p,qh w hi p];split
   ·exact⟨(h.cl i hi).1,(h.cl i hi).2.gr f.gr⟩
   ·exact(h.cl j p).gr f.gr
  ·rw[eL _ _ _ p,qh w hi p];split
   ·rename_i e;subst e;exact⟨rfl,rfl⟩
   ·exact⟨rfl,rfl⟩
variable{bk:Ln}
theorem IR{lk:Lk}(a:nf lk=true)(c:lk.2.1=((cJ bk lk.1).length:Int)+1)(b:(fe bk lk.1).2.2.1=lk.2.2.2.1)(h:(ij lk bk ts m).1≠0):
 0<(cJ bk lk.1).length/\lk.2.2.1<((cJ bk lk.1).getD ((cJ bk lk.1).length-1) kN).2.2.1/\(ij lk bk ts m).2=(ts,m):=by
 unfold ij at h⊢;rw[ae (by rw[a];decide),ae ac,ae ac,ae (λq=>q b)]at h⊢;by_cases g:0<(cJ bk lk.1).length/\lk.2.2.1<((cJ bk lk.1).getD ((cJ bk lk.1).length-1) kN).2.2.1
 ·rw[ak g];exact⟨g.1,g.2,rfl⟩
 ·rw[ae g]at h;exact absurd rfl h
theorem zq(h:pD l)(a:l.1=2)(b:hh.length=32):nf (l.2.1,l.2.2.2.1,l.2.2.1,l.2.2.2.2.1,hh,())=true:=by
 obtain⟨o,p,c,f,g,i,j,m,n⟩:=h;unfold nf;refine decide_eq_true ⟨c,f,j,m,g,i,b,?_⟩;rcases n with q|q
 ·exact .inr q.2
 ·exact .inl ⟨q.2.resolve_left λe=>e a,q.1⟩
theorem nH(w:Wd)(hi:i<5)(a:j<5)(z:(BL×Int)×Pg×Ln×List Tm×KV):(w.wrt i z).cl j=if j=i then{w.cl i with pg:=z.2.1,bk:=z.2.2.1}else w.cl j:=qg w hi a _
variable{z:(BL×Int)×Pg×Ln×List Tm×KV}{L o:Int×Pg}
theorem IS{w:Wd}(h:Au w md')(X:cU w (n+1))(hi:i<5){ops:List Op}
 (f:z=xr (w.cl i).c (w.cl i).sg (w.cl i).lg (w.cl i).pg (w.cl i).km (w.cl i).bk ops L w.ts w.m):
 (z.1.2≠0/\Au (w.wrt i z) md'/\dQ w (w.wrt i z))\/
 (z.1.2=0/\(∀M:Int,Au ((w.wrt i z).keep z.1.1 M) (md'++[((i:Int),true,())]))/\
  ∃(l:Lt)(hh:BL),z.1.1=eV l/\Ok (λt=>gG t\/t=(103,[w.se i 1,dp l++tx hh],())) (10000*(n+1)+8000) w.ts z.2.2.2/\O2 w z.2.2.2.1 i ((aO .i64 ((w.cl i).lg.2.1.length:Int) (w.cl i).km).getD []) (cE ops) l/\l.2.2.1=(w.cl i).lg.2.1.length/\l.1=2):=by
 have C:=(X.cl i hi).2.1;have p:∀z,dQ w (w.wrt i z):=λz=>(dl w i _).1
 have err:∀e:Int,e≠0->∀z:(BL×Int)×Pg×Ln×List Tm×KV,z=(([],e),(w.cl i).pg,(w.cl i).bk,w.ts,w.m)->(z.1.2≠0/\Au (w.wrt i z) md'/\dQ w (w.wrt i z)):=by
  intro e he z f;subst f;refine⟨he,h.same (p _) (Gr.refl _ _) h.su (λj r=>?_) (λj r=>?_),p _⟩
  ·rw[nH w hi r];split
   ·exact h.cl i hi
   ·exact h.cl j r
  ·rw[nH w hi r];split
   ·rename_i e;subst e;exact⟨rfl,rfl⟩
   ·exact⟨rfl,rfl⟩
 unfold xr at f;rw[bN]at f;split at f
 ·rename_i g;exact .inl (err _ g z f)
 split at f
 ·exact .inl (err 1 bt z f)
 split at f
 ·exact .inl (err 14 bt z f)
 split at f
 ·rename_i g;exact .inl (err _ g z f)
 dsimp only at f;have hs:=iD (l0:=(2,0,0,(fe (w.cl i).bk (w.cl i).c).2.1+1,(fe (w.cl i).bk (w.cl i).c).2.2.1,[],[],())) (text:=cE ops) h X hi rfl;generalize kS (w.cl i).c (w.cl i).sg (w.cl i).lg (w.cl i).km (2,0,0,(fe (w.cl i).bk (w.cl i).c).2.1+1,(fe (w.cl i).bk (w.cl i).c).2.2.1,[],[],()) (cE ops) w.ts w.m=s at*;rcases hs with⟨F,u⟩|⟨F,hh,u,G,e4,y,e6,N,e8,e9⟩
 ·rw[ak F]at f;exact .inl (err _ F z (by rw[f,u]))
 ·rw[ae (λq=>q F)]at f;obtain⟨⟨l,er⟩,b,o⟩:=s;dsimp only at*;subst F;have H:=(dJ y.ok).1;have B:hh.length=32:=G.len32 (by show(104:BitVec 8)≠98;decide) (by show(104:BitVec 8)≠103;decide)
  have eh:dI (104,[l.2.2.2.2.2.1],()) b o=(hh,b,o):=by
   have Y:=qa u.su.w G.le;have hb:eB (104,[l.2.2.2.2.2.1],()):=u.su.k.1 _ G.le;have q2:=(ry (k:=10000*(n+1)+8999) u.su hb).2;rw[Y]at q2;exact ga (Nm.inj u.su.w q2 G) Y
  unfold RB at f;dsimp only at f;rw[eh]at f;dsimp only at f;have O:=zq H N B;generalize v:(l.2.1,l.2.2.2.1,l.2.2.1,l.2.2.2.2.1,hh,())=lk at*;have P:lk.1=(i:Int):=by rw[<-v];exact y.au
  have a0:0<=(w.cl i).c/\(w.cl i).c<5:=by rw[C];omega
  have Q:(fe (w.cl i).bk (w.cl i).c).2.1=((cJ (w.cl i).bk (i:Int)).length:Int):=by
   unfold fe;rw[ae ac,C]
  have k2:lk.2.1=((cJ (w.cl i).bk lk.1).length:Int)+1:=by
   rw[P,<-Q,<-e8,<-v]
  have k3:(fe (w.cl i).bk lk.1).2.2.1=lk.2.2.2.1:=by
   rw[P,<-C,<-e9,<-v]
  have D:Bn b (w.cl i).bk:=(h.cl i hi).2.gr u.gr;have E:=N_ (lk:=lk) (bk:=(w.cl i).bk) (k:=10000*(n+1)+8000) (u.su.mono ac);have hB:=Iw (lk:=lk) (k:=10000*(n+1)+8000) (u.su.mono ac) D;by_cases g:(kp lk (w.cl i).bk b o).1=0
  ·rw[ae (λq=>q g)]at f;subst f;have A:=(u.mono (k:=10000*(n+1)+8000) ac).trans (show Ok _ _ _ _ from⟨E.su,E.gr.imp λt q=> .inl q⟩);refine .inr ⟨rfl,λM=>?_,l,hh,rfl,A,⟨y.ok,y.au,y.key,y.pad,?_⟩,e6,N⟩
   ·obtain⟨J,a2,a3⟩:=dl w i ({w.cl i with pg:=L.2,bk:=(kp lk (w.cl i).bk b o).2.1},(kp lk (w.cl i).bk b o).2.2.1,(kp lk (w.cl i).bk b o).2.2.2);refine wV (hh:=hh) (l:=l) (w':=(w.wrt i ((eV l,0),L.2,(kp lk (w.cl i).bk b o).2)).keep (eV l) M) h hi J.sec J.al J.go J.lg (by show(w.aft i _).st++_=_;rw[J.st]) A.gr A.su.w (λj r=>?_) (λj r=>?_) y.ok (E.gr.nm G) (E.gr.nm e4) (.inl ⟨rfl,y.au⟩)
    ·rw[eL _ _ _ r,nH w hi r];split
     ·exact⟨(h.cl i hi).1,hB⟩
     ·exact(h.cl j r).gr A.gr
    ·rw[eL _ _ _ r,nH w hi r];split
     ·rename_i e;subst e;exact⟨rfl,rfl⟩
     ·exact⟨rfl,rfl⟩
   ·obtain⟨kk,b1,b2⟩:=y.box;exact⟨kk,E.gr.nm b1,E.gr.nm b2⟩
  ·rw[ak g]at f
   have gc:(ij lk (w.cl i).bk b o).1≠0:=by
    intro q;apply g;unfold kp;rw[ak q]
   have et:kp lk (w.cl i).bk b o=((ij lk (w.cl i).bk b o).1,(w.cl i).bk,(ij lk (w.cl i).bk b o).2):=by
    unfold kp;rw[ae gc]
   obtain⟨o1,o2,o3⟩:=IR O k2 k3 gc;rw[et,o3]at f;have f:z=(([],(ij lk (w.cl i).bk b o).1),(w.cl i).pg,(w.cl i).bk,b,o):=f
   have R:(cJ (w.cl i).bk lk.1)[(cJ (w.cl i).bk lk.1).length-1]?=some ((cJ (w.cl i).bk lk.1).getD ((cJ (w.cl i).bk lk.1).length-1) kN):=by
    rw[aw,an ac];rfl
   obtain⟨S,p1,p2,p3,p4,p5⟩:=D _ _ _ R;have K:=tF (bk:=(w.cl i).bk) (a:=lk.1) (by rw[P];omega);rw[ae ac,k3]at K;rw[<-K]at p5;have U:lk.2.2.2.1=l.2.2.2.2.1:=by rw[<-v]
   have W:lk.2.2.1=l.2.2.1:=by rw[<-v]
   refine .inl ⟨by rw[f];exact gc,?_,p _⟩;subst f
   have x:eA w (w.wrt i (([],(ij lk (w.cl i).bk b o).1),(w.cl i).pg,(w.cl i).bk,b,o)) md' md':=by
    have s:=p (([],(ij lk (w.cl i).bk b o).1),(w.cl i).pg,(w.cl i).bk,b,o);exact⟨s.sec,s.al,λa q=>by rw[s.go];exact q,⟨[],by rw[s.st,aH]⟩,⟨[],by rw[aH]⟩,by rw[s.lg],⟨[],by rw[s.lg,aH]⟩,⟨[],by rw[s.lg,aH]⟩⟩
   have s:=p (([],(ij lk (w.cl i).bk b o).1),(w.cl i).pg,(w.cl i).bk,b,o);refine h.ext x u.gr u.su.w (λj r=>?_) (λj r=>?_) (by rw[s.lg,s.al];exact h.es) (by rw[s.lg,s.st];exact h.le) (by rw[s.lg];exact h.d32) (by rw[s.st];exact h.ml) ?_
   ·rw[nH w hi r];refine tJ.lg s.lg ?_;split
    ·exact⟨(h.cl i hi).1,D⟩
    ·exact(h.cl j r).gr u.gr
   ·rw[nH w hi r];split
    ·rename_i e;subst e;exact⟨rfl,rfl⟩
    ·exact⟨rfl,rfl⟩
   ·intro t ht h3 _;rcases ht with q|q
    ·exact absurd h3 q.1
    ·refine .inr (.inr ⟨l,i,hh,S,hi,H,N,by rw[s.se];exact q,B,p1,by rw[<-U];exact p5,?_⟩);rw[p4,<-W];exact o2
def io(w:Wd)(s:jt):zn:=
 if s.2.1<0\/5<=s.2.1\/400<=w.st.length\/w.go.getD s.2.1.toNat false=false then((26,0),w)
 else if(aO .i64 s.2.2.2.1 (w.ky s.2.1.toNat)).isSome=false then((22,0),w)
 else
  let z:=mT (w.se s.2.1.toNat 1) ((aO .i64 s.2.2.2.1 (w.ky s.2.1.toNat)).getD []) s.2.2.2.2.2.2.2 s.2.2.2.2.2.2.1 w.ts w.m
  if z.1.2≠0 then((z.1.2,0),w.su w.d z.2)else ub (w.su w.d z.2) (eV z.1.1) s.2.2.2.2.2.2.1.length
def zr:Ct:=⟨2,⟨[sP 0,V' 1],nn⟩,[⟨[(0,true,[.d Ij])],JP 33++om 33⟩],λ(s,a)=>dZ (s.2.2.2.2.2.2.1.length<=1000000/\∃n,cU (cS a) (n+1)) (io (cS a) s) λy=>((y.1.1,y.1.2,kr),cY y.2)⟩
def Y_:Option CP:=some (.cells [.d Bv])
def Y':cx:=⟨[sP 0,(3,false,[.ptr 33 0]),(4,false,[.ptr 34 0])],nn++[Y_,IE]⟩
def Sk(x:zr.inp.den)(y:Y'.den):Prop:=match x,y with
 |(s,a),(F,G,H,J,K,L,M,N,O,b,c,e,f,g,h,i,j,l,m,n,o,p,q,r,t,u,v,w,z,A,B,C,D,E,P,_)=>(cS (F,G,H,J,K,L,M,N,O,b,c,e,f,g,h,i,j,l,m,n,o,p,q,r,t,u,v,w,z,A,B,C,D,E,()))=(cS a)/\P=s/\¬(s.2.1<0\/5<=s.2.1\/400<=(cS a).st.length\/(cS a).go.getD s.2.1.toNat false=false)
def Z_:cx:=⟨[sP 0,(3,false,[.ptr 33 0]),(4,false,[.ptr 34 0]),sB 5,sL 6],nn++[Y_,IE]⟩
def By(x:zr.inp.den)(y:Z_.den):Prop:=match x,y with
 |(s,a),(k,b,G,H,J,K,L,M,N,O,P,c,e,f,g,h,i,j,l,m,n,o,p,q,r,t,u,v,w,z,A,B,C,D,E,F,Q,_)=>(cS (G,H,J,K,L,M,N,O,P,c,e,f,g,h,i,j,l,m,n,o,p,q,r,t,u,v,w,z,A,B,C,D,E,F,()))=(cS a)/\Q=s/\¬(s.2.1<0\/5<=s.2.1\/400<=(cS a).st.length\/(cS a).go.getD s.2.1.toNat false=false)/\k=(aO .i64 s.2.2.2.1 ((cS a).ky s.2.1.toNat)).getD []/\b=(aO .i64 s.2.2.2.1 ((cS a).ky s.2.1.toNat)).isSome
def Z':cx:=⟨[sP 0,(3,false,[.ptr 46 0]),(4,false,[.ptr 47 0]),(7,false,[.ptr 48 0]),sI 8],JP 33++om 33++[Y_,IE,some (.cells [.d TK])]⟩
def zs(w:Wd)(s:jt):(Lt×Int)×List Tm×KV:=mT (w.se s.2.1.toNat 1) ((aO .i64 s.2.2.2.1 (w.ky s.2.1.toNat)).getD []) s.2.2.2.2.2.2.2 s.2.2.2.2.2.2.1 w.ts w.m
def Bz(x:zr.inp.den)(y:Z'.den):Prop:=match x,y with
 |(s,a),(G,H,J,K,L,M,N,O,P,Q,b,c,e,f,g,h,i,j,m,n,o,p,q,r,t,u,v,w,z,A,B,C,D,E,F,R,_,l,_)=>R=s/\¬(s.2.1<0\/5<=s.2.1\/400<=(cS a).st.length\/(cS a).go.getD s.2.1.toNat false=false)/\(aO .i64 s.2.2.2.1 ((cS a).ky s.2.1.toNat)).isSome=true/\(l,G)=(zs (cS a) s).1/\(cS (H,J,K,L,M,N,O,P,Q,b,c,e,f,g,h,i,j,m,n,o,p,q,r,t,u,v,w,z,A,B,C,D,E,F,()))=(cS a).su (cS a).d (zs (cS a) s).2
def a6z(x:zr.inp.den):eH:=⟨[],[(3,bS Y' (Sk x) λ_=>0),(4,bS Z_ (By x) λ_=>0),(7,bS Z' (Bz x) λ_=>0)],[],[],0⟩
abbrev IT(v:(Int×Int×Nw)×TA Unit):cF zr.out:=⟨0,v⟩
def a0a:bG:=(44,[zr])::OV
def a0b:=kA 44 zr De a6z (∀(c:Int×Int×Int×Int×Int×Int×BL×Lt),let z6:= !decide (0<=c.2.1/\c.2.1<5);WA λe f d g h i j k l m n o p q r s t u v w z a0 a1 a2 a3 a4 a5 a6 a7 a8 a9 b0 a b1=>let m9:= !d.getD ((42-1-1-10-15-1-1-1-1-1-1-1-1-1-1-1)/1) false;let n0:= !d.getD ((41-1-1-10-15-1-1-1-1-1-1-1-1-1-1-1)/1) false;let z9:= !d.getD ((40-1-1-10-15-1-1-1-1-1-1-1-1-1-1-1)/1) false;let z8:= !d.getD ((39-1-1-10-15-1-1-1-1-1-1-1-1-1-1-1)/1) false;let z7:= !d.getD ((38-1-1-10-15-1-1-1-1-1-1-1-1-1-1-1)/1) false;let x:=400<=a.length;let B:=(f,d,g,h,i,j,k,l,m,n,o,p,q,r,s,t,u,v,w,z,a0,a1,a2,a3,a4,a5,a6,a7,a8,a9,b0,a,b1,());let F:=IT ((26,0,0,0,0,0,false,false,[],()),e,B);let z2:=Sk (c,e,B) (e,f,d,g,h,i,j,k,l,m,n,o,p,q,r,s,t,u,v,w,z,a0,a1,a2,a3,a4,a5,a6,a7,a8,a9,b0,a,b1,c,(0,0,0,0,0,0,false,false,[],()),());∀(Q:cF zr.out->Prop),(Tr.need (ah c.2.2.2.2.2.2.1<=1000000/\∃c,cU (cS (e,B)) (c+1)) (Tr.all zn (λy=>y=io (cS (e,B)) c) λy=>Tr.leaf (IT ((y.1.1,y.1.2,0,0,0,0,false,false,[],()),cY y.2)))).sat Q->(True/\Br z6 (z6=true/\z6=true/\Q F) (z6=false/\True/\z6=false/\Br (decide x) (decide x=true/\decide x=true/\decide x=true/\decide x=true/\decide x=true/\decide x=true/\decide x=true/\decide x=true/\Q F) (decide x=false/\decide x=false/\decide x=false/\decide x=false/\decide x=false/\Br (c.2.1==0) (decide x=false/\decide x=false/\decide x=false/\Br z7 (Q F) (Is z2)) (Br (c.2.1==1) (decide x=false/\decide x=false/\decide x=false/\Br z8 (Q F) (Is z2)) (Br (c.2.1==2) (decide x=false/\decide x=false/\decide x=false/\Br z9 (Q F) (Is z2)) (Br (c.2.1==3) (decide x=false/\decide x=false/\decide x=false/\Br n0 (Q F) (Is z2)) (Br (c.2.1==4) (decide x=false/\decide x=false/\decide x=false/\Br m9 (Q F) (Is z2)) (False/\True))))))))/\WA λf3 f4 f5 f6 f7 f8 f9 g0 g1 g2 g3 g4 g5 g6 g7 g8 g9 h0 h1 h2 b6 b7 b8 b9 c0 h3 h4 h5 h6 h7 h8 h9 i0 i1=>∀(E:Int×Int×Int×Int×Int×Int×BL×Lt)(i2:Int×Int×Nw),let m4:=aO Ty.i64 E.2.2.2.1 c0;let m5:=aO Ty.i64 E.2.2.2.1 b9;let m6:=aO Ty.i64 E.2.2.2.1 b8;let m7:=aO Ty.i64 E.2.2.2.1 b7;let m8:=aO Ty.i64 E.2.2.2.1 b6;let z3:=(f4,f5,f6,f7,f8,f9,g0,g1,g2,g3,g4,g5,g6,g7,g8,g9,h0,h1,h2,b6,b7,b8,b9,c0,h3,h4,h5,h6,h7,h8,h9,i0,i1,E,i2,());Sk (c,e,B) (f3,z3)->(Br (E.2.1==0) (Is (By (c,e,B) (m8.getD [],m8.isSome,f3,z3))) (Br (E.2.1==1) (Is (By (c,e,B) (m7.getD [],m7.isSome,f3,z3))) (Br (E.2.1==2) (Is (By (c,e,B) (m6.getD [],m6.isSome,f3,z3))) (Br (E.2.1==3) (Is (By (c,e,B) (m5.getD [],m5.isSome,f3,z3))) (Br (E.2.1==4) (Is (By (c,e,B) (m4.getD [],m4.isSome,f3,z3))) (False/\True))))))/\∀(i3:BL)(i9:Bool),WA λC G H J K L M N O P R S U W X Y d6 d7 d8 d9 e0 e1 e2 e3 e4 e5 D e6 e7 e8 e9 f0 f1 f2=>∀(A:Int×Int×Int×Int×Int×Int×BL×Lt)(i4:Int×Int×Nw),By (c,e,B) (i3,i9,C,G,H,J,K,L,M,N,O,P,R,S,U,W,X,Y,d6,d7,d8,d9,e0,e1,e2,e3,e4,e5,D,e6,e7,e8,e9,f0,f1,f2,A,i4,())->Br (!i9) (Q ⟨0,(22,0,0,0,0,0,false,false,[],()),C,G,H,J,K,L,M,N,O,P,R,S,U,W,X,Y,d6,d7,d8,d9,e0,e1,e2,e3,e4,e5,D,e6,e7,e8,e9,f0,f1,f2,()⟩) ((Br (A.2.1==0) (cb 4 D/\∀b,b=mT ((C.getD 0 (ax 2 [])).getD 1 []) i3 A.2.2.2.2.2.2.2 A.2.2.2.2.2.2.1 D K->Is (Bz (c,e,B) (b.1.2,C,G,H,J,b.2.2,L,M,N,O,P,R,S,U,W,X,Y,d6,d7,d8,d9,e0,e1,e2,e3,e4,e5,b.2.1,e6,e7,e8,e9,f0,f1,f2,A,i4,b.1.1,()))) (Br (A.2.1==1) (cb 4 D/\∀b,b=mT ((C.getD 1 (ax 2 [])).getD 1 []) i3 A.2.2.2.2.2.2.2 A.2.2.2.2.2.2.1 D K->Is (Bz (c,e,B) (b.1.2,C,G,H,J,b.2.2,L,M,N,O,P,R,S,U,W,X,Y,d6,d7,d8,d9,e0,e1,e2,e3,e4,e5,b.2.1,e6,e7,e8,e9,f0,f1,f2,A,i4,b.1.1,()))) (Br (A.2.1==2) (cb 4 D/\∀b,b=mT ((C.getD 2 (ax 2 [])).getD 1 []) i3 A.2.2.2.2.2.2.2 A.2.2.2.2.2.2.1 D K->Is (Bz (c,e,B) (b.1.2,C,G,H,J,b.2.2,L,M,N,O,P,R,S,U,W,X,Y,d6,d7,d8,d9,e0,e1,e2,e3,e4,e5,b.2.1,e6,e7,e8,e9,f0,f1,f2,A,i4,b.1.1,()))) (Br (A.2.1==3) (cb 4 D/\∀b,b=mT ((C.getD 3 (ax 2 [])).getD 1 []) i3 A.2.2.2.2.2.2.2 A.2.2.2.2.2.2.1 D K->Is (Bz (c,e,B) (b.1.2,C,G,H,J,b.2.2,L,M,N,O,P,R,S,U,W,X,Y,d6,d7,d8,d9,e0,e1,e2,e3,e4,e5,b.2.1,e6,e7,e8,e9,f0,f1,f2,A,i4,b.1.1,()))) (Br (A.2.1==4) (cb 4 D/\∀b,b=mT ((C.getD 4 (ax 2 [])).getD 1 []) i3 A.2.2.2.2.2.2.2 A.2.2.2.2.2.2.1 D K->Is (Bz (c,e,B) (b.1.2,C,G,H,J,b.2.2,L,M,N,O,P,R,S,U,W,X,Y,d6,d7,d8,d9,e0,e1,e2,e3,e4,e5,b.2.1,e6,e7,e8,e9,f0,f1,f2,A,i4,b.1.1,()))) (False/\True))))))/\∀(i7:Int),WA λj0 j1 j2 j3 j4 j5 j6 j7 j8 j9 k0 k1 k2 k3 k4 k5 k6 k7 k8 k9 l0 l1 l2 l3 l4 l5 l6 l7 l8 l9 m0 m1 i5 i8=>∀(m2:Int×Int×Int×Int×Int×Int×BL×Lt)(m3:Int×Int×Nw)(i6:Lt),Bz (c,e,B) (i7,j0,j1,j2,j3,j4,j5,j6,j7,j8,j9,k0,k1,k2,k3,k4,k5,k6,k7,k8,k9,l0,l1,l2,l3,l4,l5,l6,l7,l8,l9,m0,m1,i5,i8,m2,m3,i6,())->Br (!i7==0) (Q ⟨0,(i7,0,0,0,0,0,false,false,[],()),j0,j1,j2,j3,j4,j5,j6,j7,j8,j9,k0,k1,k2,k3,k4,k5,k6,k7,k8,k9,l0,l1,l2,l3,l4,l5,l6,l7,l8,l9,m0,m1,i5,i8,()⟩) (0+ah i6.2.2.2.2.1+ah i6.2.2.2.2.2.1+ah i6.2.2.2.2.2.2.1<=1000000000/\(i5.length<=1000000/\i8.length<=1000000)/\Q ⟨0,(0,nI i5+1,0,0,0,0,false,false,[],()),j0,j1,j2,j3,j4,j5,j6,j7,j8,j9,k0,k1,k2,k3,k4,k5,k6,k7,k8,k9,l0,l1,l2,l3,l4,l5,l6,l7,l8,l9,m0,m1,i5++[eV i6],i8++[nI m2.2.2.2.2.2.2.1],()⟩))) (by
 conv=>zeta
 unfold Br WA nI cY;intro s;refine Wd.all λw=>?_;intro Q ⟨⟨R,n,v⟩,J⟩;have v:cU w (n+1):=v;have p:∀y:zn,io w s=y->Q ⟨0,((y.1.1,y.1.2,kr),cY y.2)⟩:=λy e=>J y e.symm;clear J;unfold io at p;have bad:(s.2.1<0\/5<=s.2.1\/400<=w.st.length\/w.go.getD s.2.1.toNat false=false)->Q ⟨0,((26,0,kr),cY w)⟩:=λh=>p ((26,0),w) (ak h);refine⟨⟨trivial,λc=>⟨c,c,bad ?_⟩,λc=>⟨c,trivial,c,λd=>⟨d,d,d,d,d,d,d,d,bad (.inr (.inr (.inl (af d))))⟩,λd=>⟨d,d,d,d,d,?_⟩⟩⟩,?_⟩
 ·have c:¬(0<=s.2.1/\s.2.1<5):=λh=>by rw[decide_eq_true h]at c;cases c
  rcases Int.lt_or_le s.2.1 0 with q|q
  ·exact .inl q
  ·exact .inr (.inl ac)
 ·have c:0<=s.2.1/\s.2.1<5:=by
   cases h:decide (0<=s.2.1/\s.2.1<5)with
   |true=>exact af h
   |false=>rw[h]at c;cases c
  have M:=ap d;refine⟨λe=>?_,λB=>⟨λe=>?_,λi=>⟨λe=>?_,λo=>⟨λe=>?_,λC=>⟨λe=>?_,λj=>?_⟩⟩⟩⟩⟩
  case refine_6=>exfalso;simp only[aC,ne_eq]at B i o C j;omega
  all_goals
   have x:=bz e;have K:s.2.1.toNat=_:=aI rC x;refine⟨d,d,d,λg=>bad (.inr (.inr (.inr ?_))),λg=>?_⟩
   ·rw[K];have g:=aR _▸g;exact g
   ·have no:¬(s.2.1<0\/5<=s.2.1\/400<=w.st.length\/w.go.getD s.2.1.toNat false=false):=by
     rintro(q|q|q|q)
     ·omega
     ·omega
     ·exact M q
     ·have L:(!w.go.getD s.2.1.toNat false)=true:=by rw[q];rfl
      rw[K]at L;have:=L.symm.trans g;cases this
    exact⟨⟨rfl,rfl,no⟩⟩
 refine Wd.all λA=>?_;rintro t N ⟨i,o,no⟩;have i:A=w:=i;have o:t=s:=o;subst i o;have no:¬(t.2.1<0\/5<=t.2.1\/400<=A.st.length\/A.go.getD t.2.1.toNat false=false):=no
 have S:0<=t.2.1/\t.2.1<5:=by
  rw[not_or,not_or]at no;omega
 rw[ae no]at p;clear bad;refine⟨?_,?_⟩
 ·refine⟨λe=>?_,λB=>⟨λe=>?_,λi=>⟨λe=>?_,λo=>⟨λe=>?_,λC=>⟨λe=>?_,λj=>?_⟩⟩⟩⟩⟩
  case refine_6=>exfalso;simp only[aC,ne_eq]at B i o C j;omega
  all_goals
   have x:=bz e;exact⟨⟨rfl,rfl,no,by show _=(aO Ty.i64 _ (A.ky t.2.1.toNat)).getD [];rw[x];rfl,by show _=(aO Ty.i64 _ (A.ky t.2.1.toNat)).isSome;rw[x];rfl⟩⟩
 intro k b;refine Wd.all λa=>?_;rintro u O ⟨i,o,_,j,r⟩;have i:a=A:=i;have o:u=t:=o;subst i o;have j:k=(aO .i64 u.2.2.2.1 (a.ky u.2.1.toNat)).getD []:=j;have r:b=(aO .i64 u.2.2.2.1 (a.ky u.2.1.toNat)).isSome:=r;refine⟨λc=>p ((22,0),a) (ak ?_),λc=>?_⟩
 ·rw[<-r];simpa using c
 have c:b=true:=cf c
 rw[r]at c;rw[ae (by rw[c];decide)]at p;refine⟨?_,?_⟩
 ·refine⟨λe=>?_,λB=>⟨λe=>?_,λi=>⟨λe=>?_,λo=>⟨λe=>?_,λC=>⟨λe=>?_,λj=>?_⟩⟩⟩⟩⟩
  case refine_6=>exfalso;simp only[aC,ne_eq]at B i o C j;omega
  all_goals
   have x:=bz e;refine⟨v.ts.mono ac,λz E=>?_⟩;have E:z=zs a u:=by rw[E,j];unfold zs;rw[x];rfl
   subst E;exact⟨⟨rfl,no,c,rfl,rfl⟩⟩
 clear j r;intro H;refine Wd.all λF=>?_;rintro f P l ⟨i,_,_,j,r⟩;have i:f=u:=i;subst i;have r:F=a.su a.d (zs a f).2:=r;have j:(l,H)=(zs a f).1:=j;have E:zs a f=((l,H),(zs a f).2):=by rw[j]
 have G:=lmS (k:=0) (sec:=a.se f.2.1.toNat 1) (ep:=(aO .i64 f.2.2.2.1 (a.ky f.2.1.toNat)).getD []) (l:=f.2.2.2.2.2.2.2) (text:=f.2.2.2.2.2.2.1) a.m (v.ts.mono ac);have G:cb 0 (zs a f).2.1/\(zs a f).1.1.2.2.2.2.1.length<=32/\(zs a f).1.1.2.2.2.2.2.1.length<=4112/\(zs a f).1.1.2.2.2.2.2.2.1.length<=64:=G;have p:∀y:zn,(if(zs a f).1.2≠0 then(((zs a f).1.2,0),a.su a.d (zs a f).2)else ub (a.su a.d (zs a f).2) (eV (zs a f).1.1) f.2.2.2.2.2.2.1.length)=y->Q ⟨0,((y.1.1,y.1.2,kr),cY y.2)⟩:=p;rw[<-r,<-j]at p;rw[<-j]at G;dsimp only at p G;have D:F.st=a.st/\F.ln=a.ln:=by rw[r];exact⟨rfl,rfl⟩
 refine⟨λg=>p ((H,0),F) (ak (lf g)),λg=>⟨ac,⟨?_,?_⟩,p _ (ae (nl g))⟩⟩
 ·rw[D.1];have:=v.st.1;omega
 ·rw[D.2];have:=v.st;omega) (l:=λ_=>bA)
theorem qI(w:Wd)(d:Int)(z:List Tm×KV)(hi:i<5):(w.su d z).cl i=w.cl i:=by rcases fZ hi with rfl|rfl|rfl|rfl|rfl<;>rfl
variable{s:jt}
theorem Sl{w:Wd}(h:Au w md')(x:cU w (n+1)):
 ((io w s).1.1≠0/\(io w s).1.2=0/\(io w s).2.st=w.st/\Au (io w s).2 md'/\dQ w (io w s).2)\/
 ((io w s).1.1=0/\(io w s).1.2=(w.st.length:Int)+1/\Au (io w s).2 (md'++[(s.2.1,false,())])/\∃b,(io w s).2.st=w.st++[b]/\(io w s).2.lg=w.lg):=by
 have err:∀e:Int,e≠0->∀z:zn,z=((e,0),w)->(z.1.1≠0/\z.1.2=0/\z.2.st=w.st/\Au z.2 md'/\dQ w z.2):=by
  intro e A z B;subst B;exact⟨A,rfl,rfl,h,⟨rfl,rfl,rfl,rfl,rfl⟩⟩
 unfold io;split
 ·exact .inl (err 26 bt _ rfl)
 rename_i no;rw[not_or,not_or,not_or]at no;obtain⟨C,D,K,u⟩:=no;split
 ·exact .inl (err 22 bt _ rfl)
 dsimp only;obtain⟨a,f⟩:=bo (Int.not_lt.1 C);have E:s.2.1.toNat=a:=by rw[f,aG]
 have i:a<5:=by
  have q:=Int.not_le.1 D;rw[f]at q;exact Int.ofNat_lt.1 q
 rw[E]at u⊢;have F:Su (10000*(n+1)+9000+4) w.ts w.m:=(jF h x).mono ac;rcases Ip (sec:=w.se a 1) (ep:=(aO .i64 s.2.2.2.1 (w.ky a)).getD []) (text:=s.2.2.2.2.2.2.1) (l:=s.2.2.2.2.2.2.2) F with⟨o,v⟩|⟨L,b,G,g,y,o,v,M,N,H,p,O,P,J,r,t⟩
 ·rw[ak o,v];exact .inl (err _ o _ rfl)
 ·rw[H];dsimp only;rw[ae (λq=>q rfl)];refine .inr ⟨rfl,rfl,?_,_,rfl,rfl⟩;rw[f];refine wV (hh:=G) (w':=ub (w.su w.d y) _ _|>.2) h i rfl rfl rfl rfl rfl p.gr p.su.w (λj c=>?_) (λj c=>?_) t J r (.inr ⟨rfl,cf u⟩)
  ·show tJ w y.1 (((w.su w.d y).keep _ _).cl j);rw[eL _ _ _ c,qI _ _ _ c];exact(h.cl j c).gr p.gr
  ·show(((w.su w.d y).keep _ _).cl j).sg=_/\(((w.su w.d y).keep _ _).cl j).se=_;rw[eL _ _ _ c,qI _ _ _ c];exact⟨rfl,rfl⟩
def stA:jt:=(1,0,0,0,0,0,[97],Lc)
def wX(p:Pg)(s:jt)(y:List Op×Int):Prop:=y.1.length<=64/\(p=ka->s=stA->y=([jr],0))
theorem Dg(p:Pg)(s:jt):∃y,wX p s y:=⟨([jr],0),bt,λ_ _=>rfl⟩
def IU:Ct:=⟨2,⟨[(0,false,[.d N8]),V' 1],[]⟩,[⟨[(0,false,[.d (.sl lu)]),sI 1],[]⟩],λ(p,s,_)=>fJ (cy p) (wX p s) λy=>(y.1,y.2,())⟩
def a0c:bG:=(75,[IU])::a0a
def O3:=kA 75 IU a0b (cQ IU 0) (∀(c:Pg)(a:Int×Int×Int×Int×Int×Int×BL×Lt)(Q:cF IU.out->Prop),let z:=cy c/\∀(b:List Op×Int),b.1.length<=64->Q ⟨0,b.1,b.2,()⟩;bg IU (c,a,()) Q->Br (a.1==1) (cy c/\∀(b:List Op×Int),b.1.length<=64/\(c=([],[],[],([((0,0,()),0,0,0,false,[[],[]],())],0,()),([],()),())->a.2.2.1=0->a.2.2.2.2.2.2.1=[ag 8 97]->a.2.1=0->b=([(1,0,1,0,0,true,97,0,0,0,0,0,0,false,0,0,false,0,0,())],0))->Q ⟨0,b.1,b.2,()⟩) (Br (a.1==2) z z)) (by
 conv=>zeta
 unfold Br bg;intro p s Q ⟨h,g⟩;have b:∀y,wX p s y->Q ⟨0,(y.1,y.2,())⟩:=g;refine⟨λ_=>⟨h,λy a=>b y ⟨a.1,λi f=>a.2 i (by rw[f];rfl) (by rw[f];rfl) (by rw[f];rfl)⟩⟩,λc=>⟨λ_=>⟨h,λy a=>b y ⟨a,λ_ e=>?_⟩⟩,λ_=>⟨h,λy a=>b y ⟨a,λ_ e=>?_⟩⟩⟩⟩
 all_goals (subst e;exact absurd c bt)) (l:=λ_=>aU λ_=>Dg _ _)
def iW(w:Wd)(i:Nat)(s:jt)(y:(BL×Int)×Wd):Prop:=∃p l e,jD (w.cl i).pg p/\wX p s (l,e)/\
 (e≠0/\y=(([],e),w)\/e=0/\∃a z,JO (w.cl i).pg l a/\z=xr (w.cl i).c (w.cl i).sg (w.cl i).lg (w.cl i).pg (w.cl i).km (w.cl i).bk l a w.ts w.m/\y=(z.1,w.wrt i z))
theorem ia(w:Wd)(i:Nat)(s:jt):∃y,iW w i s y:=by
 obtain⟨p,a⟩:=js (w.cl i).pg;obtain⟨⟨l,e⟩,b⟩:=Dg p s;by_cases h:e=0
 ·exact⟨_,p,l,e,a,b, .inr ⟨h,_,_,⟨_,(js _).choose_spec,(rr _ _).choose_spec⟩,rfl,rfl⟩⟩
 ·exact⟨_,p,l,e,a,b, .inl ⟨h,rfl⟩⟩
def uD(i:Nat):List (Option CP):=[some (.cells [.ptr (7+2*i) 0]),some (.cells [.d Bv]),some (.cells [.ptr 3 0])]
def zt:Ct:=⟨4,⟨[sS 0 4,(1,false,[.ptr 0 0]),(2,false,[.ptr 1 0]),(3,false,[.ptr 2 0])],uD 0++tZ 3 23++om 23⟩,[⟨[(0,false,[.d tB]),sI 1],uD 0++tZ 3 36++ax 13 none++om 36⟩],λ(s,a)=>fJ (∃n,cU (cS a) (n+1)) (iW (cS a) 0 s) λy=>(y.1.1,y.1.2,s,cY y.2)⟩
def zu:Ct:=⟨4,⟨[sS 0 4,(1,false,[.ptr 0 0]),(2,false,[.ptr 1 0]),(3,false,[.ptr 2 0])],uD 1++tZ 3 23++om 23⟩,[⟨[(0,false,[.d tB]),sI 1],uD 1++tZ 3 36++ax 13 none++om 36⟩],λ(s,a)=>fJ (∃n,cU (cS a) (n+1)) (iW (cS a) 1 s) λy=>(y.1.1,y.1.2,s,cY y.2)⟩
def zv:Ct:=⟨4,⟨[sS 0 4,(1,false,[.ptr 0 0]),(2,false,[.ptr 1 0]),(3,false,[.ptr 2 0])],uD 2++tZ 3 23++om 23⟩,[⟨[(0,false,[.d tB]),sI 1],uD 2++tZ 3 36++ax 13 none++om 36⟩],λ(s,a)=>fJ (∃n,cU (cS a) (n+1)) (iW (cS a) 2 s) λy=>(y.1.1,y.1.2,s,cY y.2)⟩
def zw:Ct:=⟨4,⟨[sS 0 4,(1,false,[.ptr 0 0]),(2,false,[.ptr 1 0]),(3,false,[.ptr 2 0])],uD 3++tZ 3 23++om 23⟩,[⟨[(0,false,[.d tB]),sI 1],uD 3++tZ 3 36++ax 13 none++om 36⟩],λ(s,a)=>fJ (∃n,cU (cS a) (n+1)) (iW (cS a) 3 s) λy=>(y.1.1,y.1.2,s,cY y.2)⟩
def EU:Ct:=⟨4,⟨[sS 0 4,(1,false,[.ptr 0 0]),(2,false,[.ptr 1 0]),(3,false,[.ptr 2 0])],uD 4++tZ 3 23++om 23⟩,[⟨[(0,false,[.d tB]),sI 1],uD 4++tZ 3 36++ax 13 none++om 36⟩],λ(s,a)=>fJ (∃n,cU (cS a) (n+1)) (iW (cS a) 4 s) λy=>(y.1.1,y.1.2,s,cY y.2)⟩
abbrev Sm(v:BL×Int×(Int×Int×Int×Int×Int×Int×BL×Lt)×TA Unit):cF zt.out:=⟨0,v⟩
theorem IV:bW Tryz.prog 74 zt:=kC O3 (cQ zt 0) (∀(a:Int×Int×Int×Int×Int×Int×BL×Lt),WA λi j k l m c d f n o p q r s t u v w z A B C D E F G g h J K L M N O=>let H:=(J,K,L,M,N,O,());let x:=(j,k,l,m,c,d,f,n,o,p,q,r,s,t,u,v,w,z,A,B,C,D,E,F,G,g,h,H);∀(Q:cF zt.out->Prop),(Tr.need (∃a,cU (cS (i,x)) (a+1)) (Tr.all ((BL×Int)×Wd) (iW (cS (i,x)) 0 a) λy=>Tr.leaf (Sm (y.1.1,y.1.2,a,cY y.2)))).sat Q->cy d.1/\∀(b:Pg),jD d.1 b->cy b/\∀(e:List Op×Int),wX b a e->Br (!e.2==0) (Q ⟨0,[],e.2,a,i,x⟩) ((e.1.length<=1000000/\cK c.2.2.2.1.2.1 c.2.2.2.1.2.2.1/\cr h/\cy d.1/\cb 6 g)/\∀(b:(BL×Int)×Pg×Ln×List Tm×KV),(∃a,JO d.1 e.1 a/\b=xr c.1 c.2.2.1 c.2.2.2.1 d.1 f h e.1 a g m)->Q ⟨0,b.1.1,b.1.2,a,i,j,k,l,b.2.2.2.2,c,(b.2.1,d.2),f,n,o,p,q,r,s,t,u,v,w,z,A,B,C,D,E,F,G,b.2.2.2.1,b.2.2.1,H⟩)) (by
 conv=>zeta
 unfold Br WA cY;intro s;refine Wd.all λw=>?_;intro Q ⟨⟨n,h⟩,c⟩;have h:cU w (n+1):=h;have f:∀y,iW w 0 s y->Q ⟨0,(y.1.1,y.1.2,s,cY y.2)⟩:=λy i=>c y i;clear c;obtain⟨⟨x,A,B,C,g,j,m,D,E⟩,o,q⟩:=h.cl 0 bt;refine⟨g,λp a=>⟨a.1,λl b=>⟨λe=>?_,λe=>⟨⟨by have:=b.1;omega,m,j,g,h.ts.mono ac⟩,λz r=>?_⟩⟩⟩⟩
 ·exact f (([],l.2),w) ⟨p,l.1,l.2,a,b, .inl ⟨lf e,rfl⟩⟩
 ·obtain⟨t,u,v⟩:=r;exact f (z.1,w.wrt 0 z) ⟨p,l.1,l.2,a,b, .inr ⟨aA.1 (nl e),t,z,u,v,rfl⟩⟩)
def a0d:bG:=(74,[zt])::a0c
def O4:=kB 74 [zt] O3 (bL (IV)) (l:=bL (λ_=>aU λ_=>ia _ _ _))
abbrev Sn(v:BL×Int×(Int×Int×Int×Int×Int×Int×BL×Lt)×TA Unit):cF zu.out:=⟨0,v⟩
theorem IW:bW Tryz.prog 74 zu:=kC O4 (cQ zu 0) (∀(a:Int×Int×Int×Int×Int×Int×BL×Lt),WA λi j k l m n o p c d f q r s t u v w z A B C D E F G g H h J K L M N=>let x:=(j,k,l,m,n,o,p,c,d,f,q,r,s,t,u,v,w,z,A,B,C,D,E,F,G,g,H,h,J,K,L,M,N,());∀(Q:cF zu.out->Prop),(Tr.need (∃a,cU (cS (i,x)) (a+1)) (Tr.all ((BL×Int)×Wd) (iW (cS (i,x)) 1 a) λy=>Tr.leaf (Sn (y.1.1,y.1.2,a,cY y.2)))).sat Q->cy d.1/\∀(b:Pg),jD d.1 b->cy b/\∀(e:List Op×Int),wX b a e->Br (!e.2==0) (Q ⟨0,[],e.2,a,i,x⟩) ((e.1.length<=1000000/\cK c.2.2.2.1.2.1 c.2.2.2.1.2.2.1/\cr h/\cy d.1/\cb 6 g)/\∀(b:(BL×Int)×Pg×Ln×List Tm×KV),(∃a,JO d.1 e.1 a/\b=xr c.1 c.2.2.1 c.2.2.2.1 d.1 f h e.1 a g m)->Q ⟨0,b.1.1,b.1.2,a,i,j,k,l,b.2.2.2.2,n,o,p,c,(b.2.1,d.2),f,q,r,s,t,u,v,w,z,A,B,C,D,E,F,G,b.2.2.2.1,H,b.2.2.1,J,K,L,M,N,()⟩)) (by
 conv=>zeta
 unfold Br WA cY;intro s;refine Wd.all λw=>?_;intro Q ⟨⟨n,h⟩,c⟩;have h:cU w (n+1):=h;have f:∀y,iW w 1 s y->Q ⟨0,(y.1.1,y.1.2,s,cY y.2)⟩:=λy i=>c y i;clear c;obtain⟨⟨x,A,B,C,g,j,m,D,E⟩,o,q⟩:=h.cl 1 bt;refine⟨g,λp a=>⟨a.1,λl b=>⟨λe=>?_,λe=>⟨⟨by have:=b.1;omega,m,j,g,h.ts.mono ac⟩,λz r=>?_⟩⟩⟩⟩
 ·exact f (([],l.2),w) ⟨p,l.1,l.2,a,b, .inl ⟨lf e,rfl⟩⟩
 ·obtain⟨t,u,v⟩:=r;exact f (z.1,w.wrt 1 z) ⟨p,l.1,l.2,a,b, .inr ⟨aA.1 (nl e),t,z,u,v,rfl⟩⟩)
def a0e:bG:=(74,[zu])::a0d
def O5:=kB 74 [zu] O4 (bL (IW)) (l:=bL (λ_=>aU λ_=>ia _ _ _))
abbrev So(v:BL×Int×(Int×Int×Int×Int×Int×Int×BL×Lt)×TA Unit):cF zv.out:=⟨0,v⟩
theorem IX:bW Tryz.prog 74 zv:=kC O5 (cQ zv 0) (∀(a:Int×Int×Int×Int×Int×Int×BL×Lt),WA λi j k l m n o p q r s c d f t u v w z A B C D E F G g H J h K L M N=>let x:=(j,k,l,m,n,o,p,q,r,s,c,d,f,t,u,v,w,z,A,B,C,D,E,F,G,g,H,J,h,K,L,M,N,());∀(Q:cF zv.out->Prop),(Tr.need (∃a,cU (cS (i,x)) (a+1)) (Tr.all ((BL×Int)×Wd) (iW (cS (i,x)) 2 a) λy=>Tr.leaf (So (y.1.1,y.1.2,a,cY y.2)))).sat Q->cy d.1/\∀(b:Pg),jD d.1 b->cy b/\∀(e:List Op×Int),wX b a e->Br (!e.2==0) (Q ⟨0,[],e.2,a,i,x⟩) ((e.1.length<=1000000/\cK c.2.2.2.1.2.1 c.2.2.2.1.2.2.1/\cr h/\cy d.1/\cb 6 g)/\∀(b:(BL×Int)×Pg×Ln×List Tm×KV),(∃a,JO d.1 e.1 a/\b=xr c.1 c.2.2.1 c.2.2.2.1 d.1 f h e.1 a g m)->Q ⟨0,b.1.1,b.1.2,a,i,j,k,l,b.2.2.2.2,n,o,p,q,r,s,c,(b.2.1,d.2),f,t,u,v,w,z,A,B,C,D,E,F,G,b.2.2.2.1,H,J,b.2.2.1,K,L,M,N,()⟩)) (by
 conv=>zeta
 unfold Br WA cY;intro s;refine Wd.all λw=>?_;intro Q ⟨⟨n,h⟩,c⟩;have h:cU w (n+1):=h;have f:∀y,iW w 2 s y->Q ⟨0,(y.1.1,y.1.2,s,cY y.2)⟩:=λy i=>c y i;clear c;obtain⟨⟨x,A,B,C,g,j,m,D,E⟩,o,q⟩:=h.cl 2 bt;refine⟨g,λp a=>⟨a.1,λl b=>⟨λe=>?_,λe=>⟨⟨by have:=b.1;omega,m,j,g,h.ts.mono ac⟩,λz r=>?_⟩⟩⟩⟩
 ·exact f (([],l.2),w) ⟨p,l.1,l.2,a,b, .inl ⟨lf e,rfl⟩⟩
 ·obtain⟨t,u,v⟩:=r;exact f (z.1,w.wrt 2 z) ⟨p,l.1,l.2,a,b, .inr ⟨aA.1 (nl e),t,z,u,v,rfl⟩⟩)
def a0f:bG:=(74,[zv])::a0e
def O6:=kB 74 [zv] O5 (bL (IX)) (l:=bL (λ_=>aU λ_=>ia _ _ _))
abbrev Sq(v:BL×Int×(Int×Int×Int×Int×Int×Int×BL×Lt)×TA Unit):cF zw.out:=⟨0,v⟩
theorem IY:bW Tryz.prog 74 zw:=kC O6 (cQ zw 0) (∀(a:Int×Int×Int×Int×Int×Int×BL×Lt),WA λi j k l m n o p q r s t u v c d f w z A B C D E F G g H J K h L M N=>let x:=(j,k,l,m,n,o,p,q,r,s,t,u,v,c,d,f,w,z,A,B,C,D,E,F,G,g,H,J,K,h,L,M,N,());∀(Q:cF zw.out->Prop),(Tr.need (∃a,cU (cS (i,x)) (a+1)) (Tr.all ((BL×Int)×Wd) (iW (cS (i,x)) 3 a) λy=>Tr.leaf (Sq (y.1.1,y.1.2,a,cY y.2)))).sat Q->cy d.1/\∀(b:Pg),jD d.1 b->cy b/\∀(e:List Op×Int),wX b a e->Br (!e.2==0) (Q ⟨0,[],e.2,a,i,x⟩) ((e.1.length<=1000000/\cK c.2.2.2.1.2.1 c.2.2.2.1.2.2.1/\cr h/\cy d.1/\cb 6 g)/\∀(b:(BL×Int)×Pg×Ln×List Tm×KV),(∃a,JO d.1 e.1 a/\b=xr c.1 c.2.2.1 c.2.2.2.1 d.1 f h e.1 a g m)->Q ⟨0,b.1.1,b.1.2,a,i,j,k,l,b.2.2.2.2,n,o,p,q,r,s,t,u,v,c,(b.2.1,d.2),f,w,z,A,B,C,D,E,F,G,b.2.2.2.1,H,J,K,b.2.2.1,L,M,N,()⟩)) (by
 conv=>zeta
 unfold Br WA cY;intro s;refine Wd.all λw=>?_;intro Q ⟨⟨n,h⟩,c⟩;have h:cU w (n+1):=h;have f:∀y,iW w 3 s y->Q ⟨0,(y.1.1,y.1.2,s,cY y.2)⟩:=λy i=>c y i;clear c;obtain⟨⟨x,A,B,C,g,j,m,D,E⟩,o,q⟩:=h.cl 3 bt;refine⟨g,λp a=>⟨a.1,λl b=>⟨λe=>?_,λe=>⟨⟨by have:=b.1;omega,m,j,g,h.ts.mono ac⟩,λz r=>?_⟩⟩⟩⟩
 ·exact f (([],l.2),w) ⟨p,l.1,l.2,a,b, .inl ⟨lf e,rfl⟩⟩
 ·obtain⟨t,u,v⟩:=r;exact f (z.1,w.wrt 3 z) ⟨p,l.1,l.2,a,b, .inr ⟨aA.1 (nl e),t,z,u,v,rfl⟩⟩)
def a0g:bG:=(74,[zw])::a0f
def O7:=kB 74 [zw] O6 (bL (IY)) (l:=bL (λ_=>aU λ_=>ia _ _ _))
abbrev Sr(v:BL×Int×(Int×Int×Int×Int×Int×Int×BL×Lt)×TA Unit):cF EU.out:=⟨0,v⟩
theorem Ss:bW Tryz.prog 74 EU:=kC O7 (cQ EU 0) (∀(a:Int×Int×Int×Int×Int×Int×BL×Lt),WA λi j k l m n o p q r s t u v w z A c d f B C D E F G g H J K L h M N=>let x:=(j,k,l,m,n,o,p,q,r,s,t,u,v,w,z,A,c,d,f,B,C,D,E,F,G,g,H,J,K,L,h,M,N,());∀(Q:cF EU.out->Prop),(Tr.need (∃a,cU (cS (i,x)) (a+1)) (Tr.all ((BL×Int)×Wd) (iW (cS (i,x)) 4 a) λy=>Tr.leaf (Sr (y.1.1,y.1.2,a,cY y.2)))).sat Q->cy d.1/\∀(b:Pg),jD d.1 b->cy b/\∀(e:List Op×Int),wX b a e->Br (!e.2==0) (Q ⟨0,[],e.2,a,i,x⟩) ((e.1.length<=1000000/\cK c.2.2.2.1.2.1 c.2.2.2.1.2.2.1/\cr h/\cy d.1/\cb 6 g)/\∀(b:(BL×Int)×Pg×Ln×List Tm×KV),(∃a,JO d.1 e.1 a/\b=xr c.1 c.2.2.1 c.2.2.2.1 d.1 f h e.1 a g m)->Q ⟨0,b.1.1,b.1.2,a,i,j,k,l,b.2.2.2.2,n,o,p,q,r,s,t,u,v,w,z,A,c,(b.2.1,d.2),f,B,C,D,E,F,G,b.2.2.2.1,H,J,K,L,b.2.2.1,M,N,()⟩)) (by
 conv=>zeta
 unfold Br WA cY;intro s;refine Wd.all λw=>?_;intro Q ⟨⟨n,h⟩,c⟩;have h:cU w (n+1):=h;have f:∀y,iW w 4 s y->Q ⟨0,(y.1.1,y.1.2,s,cY y.2)⟩:=λy i=>c y i;clear c;obtain⟨⟨x,A,B,C,g,j,m,D,E⟩,o,q⟩:=h.cl 4 bt;refine⟨g,λp a=>⟨a.1,λl b=>⟨λe=>?_,λe=>⟨⟨by have:=b.1;omega,m,j,g,h.ts.mono ac⟩,λz r=>?_⟩⟩⟩⟩
 ·exact f (([],l.2),w) ⟨p,l.1,l.2,a,b, .inl ⟨lf e,rfl⟩⟩
 ·obtain⟨t,u,v⟩:=r;exact f (z.1,w.wrt 4 z) ⟨p,l.1,l.2,a,b, .inr ⟨aA.1 (nl e),t,z,u,v,rfl⟩⟩)
def a0h:bG:=(74,[EU,zt,zu,zv,zw])::a0g
def a0i:=kB 74 [EU,zt,zu,zv,zw] O7 (je (Ss) (je (IV) (je (IW) (je (IX) (bL (IY)))))) (l:=je (λ_=>aU λ_=>ia _ _ _) (je (λ_=>aU λ_=>ia _ _ _) (je (λ_=>aU λ_=>ia _ _ _) (je (λ_=>aU λ_=>ia _ _ _) (bL (λ_=>aU λ_=>ia _ _ _))))))
def vw(w:Wd)(i:Nat)(s:jt)(r:(BL×Int)×Wd):Prop:=
 if s.1=5 then∃(l:List Op)(z:_),z=lr 4 (jI (w.cl i).bk [] 5++cE l) (w.cl i).c (w.cl i).sg (w.cl i).lg (w.cl i).la (w.cl i).km w.ts w.m/\r=(z.1,w.told i z)
 else if s.1=4 then∃t z,z=lr 3 t (w.cl i).c (w.cl i).sg (w.cl i).lg (w.cl i).la (w.cl i).km w.ts w.m/\r=(z.1,w.told i z)
 else iW w i s r
def kj(w:Wd)(i:Nat)(r:BL×Int):zn:=if r.2≠0 then((r.2,0),w)else ub w r.1 (Dd w i r.1)
def jG(w:Wd)(s:jt)(y:zn):Prop:=
 if s.2.1<0\/5<=s.2.1\/400<=w.st.length then y=((26,0),w)
 else if w.go.getD s.2.1.toNat false=true then y=((19,0),w)
 else∃r,vw w s.2.1.toNat s r/\y=kj r.2 s.2.1.toNat r.1
theorem Sv(w:Wd)(i:Nat)(s:jt):∃y,vw w i s y:=by
 unfold vw;split
 ·exact⟨_,[],_,rfl,rfl⟩
 split
 ·exact⟨_,[],_,rfl,rfl⟩
 ·exact ia w i s
theorem Dh(w:Wd)(s:jt):∃y,jG w s y:=by
 unfold jG;split
 ·exact⟨_,rfl⟩
 split
 ·exact⟨_,rfl⟩
 ·obtain⟨r,a⟩:=Sv w s.2.1.toNat s;exact⟨_,r,a,rfl⟩
theorem Sw{la:La}(h:fU la)(k c:Int):0<=gV la k c/\gV la k c<=1048576:=by
 unfold gV;rcases br (k-3).toNat la.length with q|q
 ·have b:=h.2 _ (aV (z:=[]) q);rcases br c.toNat (la.getD (k-3).toNat []).length with a|a
  ·exact b.2 _ (aV a)
  ·rw[aw (l:=la.getD _ _),be a];simp
 ·rw[aw (l:=la),be q];simp
theorem IZ{c:Int}{lg:Lg}{km:KM}(h:cb 4 ts):(eV (kS c sg lg km l text ts m).1.1).length<=100000:=by
 have:=(Zt (k:=0) (sg:=sg) (text:=text) (c:=c) (lg:=lg) (km:=km) (l:=l) m h).2;generalize(kS c sg lg km l text ts m).1.1=x at*;have v:=bC;have a:=eC x.2.2.2.2.1;have b:=eC x.2.2.2.2.2.1;have e:=eC x.2.2.2.2.2.2.1;have:=v x.1;have:=v x.2.1;have:=v x.2.2.1;have:=v x.2.2.2.1;unfold eV dp;simp only[aa];omega
theorem Di{w:Wd}(h:cU w (n+1))(hi:i<5)(f:mo c)(l:c.c=(w.cl i).c)(o:c.fk=(w.cl i).fk)(p:cb (10000*n+10000) ts):cU (w.aft i (c,ts,m)) n:=by
 unfold Wd.aft;obtain⟨q,r,s,t,b,u,v,y,z,x⟩:=dj w i c;refine⟨λj a=>?_,p,by dsimp only;rw[q];exact h.sec,by dsimp only;rw[r];exact h.al,by dsimp only;rw[b];exact h.lg,by dsimp only;rw[b];exact h.l5,by dsimp only;rw[s];exact h.go,by dsimp only;rw[u,v];exact h.st,by dsimp only;rw[t];exact⟨h.dr.1,by have:=h.dr.2;omega⟩⟩;have e:Wd.cl {w.setC i c with ts:=ts,m:=m} j=(w.setC i c).cl j:=by rcases fZ a with rfl|rfl|rfl|rfl|rfl<;>rfl
 rw[e,Bp w c hi a];split
 ·rename_i g;subst g;have:=h.cl j a;exact⟨f,by rw[l];exact this.2.1,by rw[o];omega⟩
 ·have:=h.cl j a;exact⟨this.1,this.2.1,ac⟩
theorem Dj{w:Wd}(h:cU w (n+1))(hi:i<5){a:Int}{t:BL}{z:(BL×Int)×La×List Tm×KV}(b:z=lr a t (w.cl i).c (w.cl i).sg (w.cl i).lg (w.cl i).la (w.cl i).km w.ts w.m):cU (w.told i z) n/\z.1.1.length<=100000:=by
 obtain⟨⟨o,p,q,f,r,s,u,v,x⟩,_,_⟩:=h.cl i hi
 have e:fU z.2.1/\cb (10000*n+10000) z.2.2.1/\z.1.1.length<=100000:=by
  unfold lr at b;rw[bN]at b;have j:=(Zt (k:=10000*n+10000) (text:=t) (c:=(w.cl i).c) (sg:=(w.cl i).sg) (lg:=(w.cl i).lg) (km:=(w.cl i).km) (l:=(a,0,0,gV (w.cl i).la a (w.cl i).c+1,[],[],[],())) w.m (h.ts.mono ac)).1;have y:=IZ (text:=t) (c:=(w.cl i).c) (sg:=(w.cl i).sg) (lg:=(w.cl i).lg) (km:=(w.cl i).km) (l:=(a,0,0,gV (w.cl i).la a (w.cl i).c+1,[],[],[],())) (m:=w.m) (show cb 4 w.ts from h.ts.mono ac);have A:=Sw f a (w.cl i).c;split at b
  ·subst b;exact⟨f,h.ts.mono ac,aq _⟩
  split at b
  ·subst b;exact⟨f,h.ts.mono ac,aq _⟩
  rename_i g;dsimp only at b;split at b
  ·subst b;exact⟨f,j,aq _⟩
  ·subst b;exact⟨Im f ac,j,y⟩
 exact⟨Di h hi ⟨o,p,q,e.1,r,s,u,v,x⟩ rfl rfl e.2.1,e.2.2⟩
theorem Sx{w:Wd}(h:cU w (n+1))(hi:i<5){l:List Op}(s:cy o.2)(a:z=xr (w.cl i).c (w.cl i).sg (w.cl i).lg (w.cl i).pg (w.cl i).km (w.cl i).bk l o w.ts w.m):cU (w.wrt i z) n/\z.1.1.length<=100000:=by
 obtain⟨⟨u,v,x,y,e,f,A,B,C⟩,_,_⟩:=h.cl i hi
 have b:cy z.2.1/\cr z.2.2.1/\cb (10000*n+10000) z.2.2.2.1/\z.1.1.length<=100000:=by
  have g:cb (10000*n+10000) w.ts:=h.ts.mono ac;unfold xr at a;rw[bN]at a;have j:=(Zt (k:=10000*n+10004) (text:=cE l) (c:=(w.cl i).c) (sg:=(w.cl i).sg) (lg:=(w.cl i).lg) (km:=(w.cl i).km) (l:=(2,0,0,(fe (w.cl i).bk (w.cl i).c).2.1+1,(fe (w.cl i).bk (w.cl i).c).2.2.1,[],[],())) w.m (h.ts.mono ac));have D:=IZ (text:=cE l) (c:=(w.cl i).c) (sg:=(w.cl i).sg) (lg:=(w.cl i).lg) (km:=(w.cl i).km) (l:=(2,0,0,(fe (w.cl i).bk (w.cl i).c).2.1+1,(fe (w.cl i).bk (w.cl i).c).2.2.1,[],[],())) (m:=w.m) (show cb 4 w.ts from h.ts.mono ac)
  repeat' split at a
  ·subst a;exact⟨e,f,g,aq _⟩
  ·subst a;exact⟨e,f,g,aq _⟩
  ·subst a;exact⟨e,f,g,aq _⟩
  ·subst a;exact⟨e,f,g,aq _⟩
  ·dsimp only at a;generalize kS (w.cl i).c (w.cl i).sg (w.cl i).lg (w.cl i).km (2,0,0,(fe (w.cl i).bk (w.cl i).c).2.1+1,(fe (w.cl i).bk (w.cl i).c).2.2.1,[],[],()) (cE l) w.ts w.m=q at*;split at a
   ·subst a;exact⟨e,f,j.1.mono ac,aq _⟩
   ·have E:=pZ (k:=10000*n+10003) (t:=(104,[q.1.1.2.2.2.2.2.1],())) q.2.2 j.1 (ja bt bt (by have:=j.2.2.1;unfold aB;omega));have p:=RW (k:=10000*n+10000) (lk:=(q.1.1.2.1,q.1.1.2.2.2.1,q.1.1.2.2.1,q.1.1.2.2.2.2.1,(dI (104,[q.1.1.2.2.2.2.2.1],()) q.2.1 q.2.2).1,())) (bk:=(w.cl i).bk) (dI (104,[q.1.1.2.2.2.2.2.1],()) q.2.1 q.2.2).2.2 (E.mono ac);have r:=tkB (lk:=(q.1.1.2.1,q.1.1.2.2.2.1,q.1.1.2.2.1,q.1.1.2.2.2.2.1,(dI (104,[q.1.1.2.2.2.2.2.1],()) q.2.1 q.2.2).1,())) (dI (104,[q.1.1.2.2.2.2.2.1],()) q.2.1 q.2.2).2.1 (dI (104,[q.1.1.2.2.2.2.2.1],()) q.2.1 q.2.2).2.2 f;unfold RB at a;dsimp only at a;split at a
    ·subst a;exact⟨e,r,p,aq _⟩
    ·subst a;exact⟨s,r,p,D⟩
 exact⟨Di h hi ⟨u,v,x,y,b.1,b.2.1,A,B,C⟩ rfl rfl b.2.2.1,b.2.2.2⟩
theorem I0{w:Wd}(h:cU w (n+1))(hi:i<5){r:(BL×Int)×Wd}(b:vw w i s r):cU r.2 n/\r.1.1.length<=100000/\r.2.st=w.st/\r.2.ln=w.ln:=by
 have a:∀c,(w.aft i c).st=w.st/\(w.aft i c).ln=w.ln:=λc=>let q:=dj w i c.1;⟨q.2.2.2.2.2.1,q.2.2.2.2.2.2.1⟩
 unfold vw at b;split at b
 ·obtain⟨t,z,f,rfl⟩:=b;have:=Dj h hi f;exact⟨this.1,this.2,a _⟩
 split at b
 ·obtain⟨t,z,f,rfl⟩:=b;have:=Dj h hi f;exact⟨this.1,this.2,a _⟩
 ·obtain⟨p,l,e,m,o,⟨g,rfl⟩|⟨g,u,z,⟨v,x,j⟩,f,rfl⟩⟩:=b
  ·exact⟨h.mono ac,aq _,rfl,rfl⟩
  ·have:=Sx h hi j.1 f;exact⟨this.1,this.2,a _⟩
def BA:Ct:=⟨2,⟨[sP 0,V' 1],nn⟩,[⟨[(0,true,[.d Ij])],JP 33++om 33⟩],λ(s,a)=>fJ (∃n,cU (cS a) (n+1)) (jG (cS a) s) λy=>((y.1.1,y.1.2,kr),cY y.2)⟩
def cWp:Option CP:=some (.cells [.ptr 0 0])
def a0j:cx:=⟨[(2,false,[.ptr 33 0]),(3,false,[.ptr 34 0]),(4,false,[.ptr 35 0])],nn++[cWp,Y_,IE]⟩
def Sy(x:BA.inp.den)(y:a0j.den):Prop:=match x,y with
 |(s,a),(F,G,H,J,K,L,M,N,O,b,c,e,f,g,h,i,j,l,m,n,o,p,q,r,t,u,v,w,z,A,B,C,D,E,P,_)=>(cS (F,G,H,J,K,L,M,N,O,b,c,e,f,g,h,i,j,l,m,n,o,p,q,r,t,u,v,w,z,A,B,C,D,E,()))=(cS a)/\P=s/\¬(s.2.1<0\/5<=s.2.1\/400<=(cS a).st.length)/\¬((cS a).go.getD s.2.1.toNat false=true)
def O8:cx:=⟨[(2,false,[.ptr 46 0]),(3,false,[.ptr 47 0]),(4,false,[.ptr 48 0]),sB 7,sI 8],JP 33++om 33++[cWp,Y_,IE]⟩
def gN(x:BA.inp.den)(y:O8.den):Prop:=match x,y with
 |(s,a),(b,G,H,J,K,L,M,N,O,P,Q,c,e,f,g,h,i,j,l,m,n,o,p,q,r,t,u,v,w,z,A,B,C,D,E,F,R,_)=>R=s/\¬(s.2.1<0\/5<=s.2.1\/400<=(cS a).st.length)/\¬((cS a).go.getD s.2.1.toNat false=true)/\vw (cS a) s.2.1.toNat s ((b,G),(cS (H,J,K,L,M,N,O,P,Q,c,e,f,g,h,i,j,l,m,n,o,p,q,r,t,u,v,w,z,A,B,C,D,E,F,())))
def a60(x:BA.inp.den):eH:=⟨[],[(5,bS a0j (Sy x) λ_=>0),(12,bS O8 (gN x) λ_=>0)],[],[],0⟩
abbrev BB(v:(Int×Int×Nw)×TA Unit):cF BA.out:=⟨0,v⟩
def a0k:bG:=(38,[BA])::a0h
def a0l:=kA 38 BA a0i a60 (∀(e:Int×Int×Int×Int×Int×Int×BL×Lt),let j2:= !decide (0<=e.2.1/\e.2.1<5);WA λF b9 b5 c0 c1 c2 c3 c4 c5 c6 c7 c8 c9 d0 d1 d2 d3 d4 d5 d6 d7 d8 d9 e0 e1 e2 e3 e4 e5 e6 e7 e8 b7 e9=>let G:=(b9,b5,c0,c1,c2,c3,c4,c5,c6,c7,c8,c9,d0,d1,d2,d3,d4,d5,d6,d7,d8,d9,e0,e1,e2,e3,e4,e5,e6,e7,e8,b7,e9,());let i9:=BB ((26,0,0,0,0,0,false,false,[],()),F,G);let i6:=BB ((19,0,0,0,0,0,false,false,[],()),F,G);let z4:=Sy (e,F,G) (F,b9,b5,c0,c1,c2,c3,c4,c5,c6,c7,c8,c9,d0,d1,d2,d3,d4,d5,d6,d7,d8,d9,e0,e1,e2,e3,e4,e5,e6,e7,e8,b7,e9,e,(0,0,0,0,0,0,false,false,[],()),());∀(Q:cF BA.out->Prop),let O:=∀(f:BL)(g:Int),WA λh i j k l m n o p q r s t u v w z a0 a1 a2 a3 a4 a5 a6 a7 a8 c a9 b0 b1 b2 b3 a d=>let j0:=(i,j,k,l,m,n,o,p,q,r,s,t,u,v,w,z,a0,a1,a2,a3,a4,a5,a6,a7,a8,c,a9,b0,b1,b2,b3,a,d,());∀(b4:Int×Int×Int×Int×Int×Int×BL×Lt)(f6:Int×Int×Nw),gN (e,F,G) (f,g,h,i,j,k,l,m,n,o,p,q,r,s,t,u,v,w,z,a0,a1,a2,a3,a4,a5,a6,a7,a8,c,a9,b0,b1,b2,b3,a,d,b4,f6,())->Br (!g==0) (Q ⟨0,(g,0,0,0,0,0,false,false,[],()),h,j0⟩) ((0<=b4.2.1/\b4.2.1<5/\f.length<=1000000/\cb 10 c)/\∀b,b=Dd (cS (h,j0)) (rC b4.2.1) f->(a.length<=1000000/\d.length<=1000000)/\Q ⟨0,(0,nI a+1,0,0,0,0,false,false,[],()),h,i,j,k,l,m,n,o,p,q,r,s,t,u,v,w,z,a0,a1,a2,a3,a4,a5,a6,a7,a8,c,a9,b0,b1,b2,b3,a++[f],d++[b],()⟩);(Tr.need (∃e,cU (cS (F,G)) (e+1)) (Tr.all zn (jG (cS (F,G)) e) λy=>Tr.leaf (BB ((y.1.1,y.1.2,0,0,0,0,false,false,[],()),cY y.2)))).sat Q->True/\Br j2 (Q i9) (True/\Bd (400<=b7.length) (Q i9) ((Br (e.2.1==0) (Br (b5.getD ((38-1-1-10-15-1-1-1-1-1-1-1-1-1-1-1)/1) false) (Q i6) (Is z4)) (Br (e.2.1==1) (Br (b5.getD ((39-1-1-10-15-1-1-1-1-1-1-1-1-1-1-1)/1) false) (Q i6) (Is z4)) (Br (e.2.1==2) (Br (b5.getD ((40-1-1-10-15-1-1-1-1-1-1-1-1-1-1-1)/1) false) (Q i6) (Is z4)) (Br (e.2.1==3) (Br (b5.getD ((41-1-1-10-15-1-1-1-1-1-1-1-1-1-1-1)/1) false) (Q i6) (Is z4)) (Br (e.2.1==4) (Br (b5.getD ((42-1-1-10-15-1-1-1-1-1-1-1-1-1-1-1)/1) false) (Q i6) (Is z4)) (False/\True))))))/\WA λX Y h4 h5 h6 A J P B K R C L S D M U E N W h7 h8 h9 i0 i1 i2 H g2 g3 g4 g5 g6 i3 i4=>let z3:=cS (X,Y,h4,h5,h6,A,J,P,B,K,R,C,L,S,D,M,U,E,N,W,h7,h8,h9,i0,i1,i2,H,g2,g3,g4,g5,g6,i3,i4,());let i7:=(∃e,cU z3 (e+1));∀(x:Int×Int×Int×Int×Int×Int×BL×Lt)(i5:Int×Int×Nw),let z5:=(g2,g3,g4,g5,g6,i3,i4,x,i5,());let j1:=(x.1==5)=true->((0<=E.1/\E.1<5/\fU N.2.1/\cK E.2.2.2.1.2.1 E.2.2.2.1.2.2.1/\cr g6/\cy N.1/\cb 4 H)/\∀(b:(BL×Int)×La×List Tm×KV),(∃e,b=lr 4 (jI g6 [] 5++cE e) E.1 E.2.2.1 E.2.2.2.1 N.2.1 W H h6)->Is (gN (e,F,G) (b.1.1,b.1.2,X,Y,h4,h5,b.2.2.2,A,J,P,B,K,R,C,L,S,D,M,U,E,(N.1,b.2.1,N.2.2),W,h7,h8,h9,i0,i1,i2,b.2.2.1,z5)))/\O;let z9:=(x.1==5)=true->((0<=D.1/\D.1<5/\fU M.2.1/\cK D.2.2.2.1.2.1 D.2.2.2.1.2.2.1/\cr g5/\cy M.1/\cb 4 H)/\∀(b:(BL×Int)×La×List Tm×KV),(∃e,b=lr 4 (jI g5 [] 5++cE e) D.1 D.2.2.1 D.2.2.2.1 M.2.1 U H h6)->Is (gN (e,F,G) (b.1.1,b.1.2,X,Y,h4,h5,b.2.2.2,A,J,P,B,K,R,C,L,S,D,(M.1,b.2.1,M.2.2),U,E,N,W,h7,h8,h9,i0,i1,i2,b.2.2.1,z5)))/\O;let z8:=(x.1==5)=true->((0<=C.1/\C.1<5/\fU L.2.1/\cK C.2.2.2.1.2.1 C.2.2.2.1.2.2.1/\cr g4/\cy L.1/\cb 4 H)/\∀(b:(BL×Int)×La×List Tm×KV),(∃e,b=lr 4 (jI g4 [] 5++cE e) C.1 C.2.2.1 C.2.2.2.1 L.2.1 S H h6)->Is (gN (e,F,G) (b.1.1,b.1.2,X,Y,h4,h5,b.2.2.2,A,J,P,B,K,R,C,(L.1,b.2.1,L.2.2),S,D,M,U,E,N,W,h7,h8,h9,i0,i1,i2,b.2.2.1,z5)))/\O;let z7:=(x.1==5)=true->((0<=B.1/\B.1<5/\fU K.2.1/\cK B.2.2.2.1.2.1 B.2.2.2.1.2.2.1/\cr g3/\cy K.1/\cb 4 H)/\∀(b:(BL×Int)×La×List Tm×KV),(∃e,b=lr 4 (jI g3 [] 5++cE e) B.1 B.2.2.1 B.2.2.2.1 K.2.1 R H h6)->Is (gN (e,F,G) (b.1.1,b.1.2,X,Y,h4,h5,b.2.2.2,A,J,P,B,(K.1,b.2.1,K.2.2),R,C,L,S,D,M,U,E,N,W,h7,h8,h9,i0,i1,i2,b.2.2.1,z5)))/\O;let z6:=(x.1==5)=true->((0<=A.1/\A.1<5/\fU J.2.1/\cK A.2.2.2.1.2.1 A.2.2.2.1.2.2.1/\cr g2/\cy J.1/\cb 4 H)/\∀(b:(BL×Int)×La×List Tm×KV),(∃e,b=lr 4 (jI g2 [] 5++cE e) A.1 A.2.2.1 A.2.2.2.1 J.2.1 P H h6)->Is (gN (e,F,G) (b.1.1,b.1.2,X,Y,h4,h5,b.2.2.2,A,(J.1,b.2.1,J.2.2),P,B,K,R,C,L,S,D,M,U,E,N,W,h7,h8,h9,i0,i1,i2,b.2.2.1,z5)))/\O;Sy (e,F,G) (X,Y,h4,h5,h6,A,J,P,B,K,R,C,L,S,D,M,U,E,N,W,h7,h8,h9,i0,i1,i2,H,z5)->Br (x.2.1==0) (Br (x.1==4) (z6/\((x.1==5)=false->((0<=A.1/\A.1<5/\fU J.2.1/\cK A.2.2.2.1.2.1 A.2.2.2.1.2.2.1/\cr g2/\qS J.2.2.1/\cb 4 H)/\∀(b:(BL×Int)×La×List Tm×KV),(∃e,b=lr 3 e A.1 A.2.2.1 A.2.2.2.1 J.2.1 P H h6)->Is (gN (e,F,G) (b.1.1,b.1.2,X,Y,h4,h5,b.2.2.2,A,(J.1,b.2.1,J.2.2),P,B,K,R,C,L,S,D,M,U,E,N,W,h7,h8,h9,i0,i1,i2,b.2.2.1,z5)))/\O)) (z6/\((x.1==5)=false->(i7/\∀(b:(BL×Int)×Wd),iW z3 0 x b->Is (gN (e,F,G) (b.1.1,b.1.2,wO b.2 (x,i5,()))))/\O))) (Br (x.2.1==1) (Br (x.1==4) (z7/\((x.1==5)=false->((0<=B.1/\B.1<5/\fU K.2.1/\cK B.2.2.2.1.2.1 B.2.2.2.1.2.2.1/\cr g3/\qS K.2.2.1/\cb 4 H)/\∀(b:(BL×Int)×La×List Tm×KV),(∃e,b=lr 3 e B.1 B.2.2.1 B.2.2.2.1 K.2.1 R H h6)->Is (gN (e,F,G) (b.1.1,b.1.2,X,Y,h4,h5,b.2.2.2,A,J,P,B,(K.1,b.2.1,K.2.2),R,C,L,S,D,M,U,E,N,W,h7,h8,h9,i0,i1,i2,b.2.2.1,z5)))/\O)) (z7/\((x.1==5)=false->(i7/\∀(b:(BL×Int)×Wd),iW z3 1 x b->Is (gN (e,F,G) (b.1.1,b.1.2,wO b.2 (x,i5,()))))/\O))) (Br (x.2.1==2) (Br (x.1==4) (z8/\((x.1==5)=false->((0<=C.1/\C.1<5/\fU L.2.1/\cK C.2.2.2.1.2.1 C.2.2.2.1.2.2.1/\cr g4/\qS L.2.2.1/\cb 4 H)/\∀(b:(BL×Int)×La×List Tm×KV),(∃e,b=lr 3 e C.1 C.2.2.1 C.2.2.2.1 L.2.1 S H h6)->Is (gN (e,F,G) (b.1.1,b.1.2,X,Y,h4,h5,b.2.2.2,A,J,P,B,K,R,C,(L.1,b.2.1,L.2.2),S,D,M,U,E,N,W,h7,h8,h9,i0,i1,i2,b.2.2.1,z5)))/\O)) (z8/\((x.1==5)=false->(i7/\∀(b:(BL×Int)×Wd),iW z3 2 x b->Is (gN (e,F,G) (b.1.1,b.1.2,wO b.2 (x,i5,()))))/\O))) (Br (x.2.1==3) (Br (x.1==4) (z9/\((x.1==5)=false->((0<=D.1/\D.1<5/\fU M.2.1/\cK D.2.2.2.1.2.1 D.2.2.2.1.2.2.1/\cr g5/\qS M.2.2.1/\cb 4 H)/\∀(b:(BL×Int)×La×List Tm×KV),(∃e,b=lr 3 e D.1 D.2.2.1 D.2.2.2.1 M.2.1 U H h6)->Is (gN (e,F,G) (b.1.1,b.1.2,X,Y,h4,h5,b.2.2.2,A,J,P,B,K,R,C,L,S,D,(M.1,b.2.1,M.2.2),U,E,N,W,h7,h8,h9,i0,i1,i2,b.2.2.1,z5)))/\O)) (z9/\((x.1==5)=false->(i7/\∀(b:(BL×Int)×Wd),iW z3 3 x b->Is (gN (e,F,G) (b.1.1,b.1.2,wO b.2 (x,i5,()))))/\O))) (Br (x.2.1==4) (Br (x.1==4) (j1/\((x.1==5)=false->((0<=E.1/\E.1<5/\fU N.2.1/\cK E.2.2.2.1.2.1 E.2.2.2.1.2.2.1/\cr g6/\qS N.2.2.1/\cb 4 H)/\∀(b:(BL×Int)×La×List Tm×KV),(∃e,b=lr 3 e E.1 E.2.2.1 E.2.2.2.1 N.2.1 W H h6)->Is (gN (e,F,G) (b.1.1,b.1.2,X,Y,h4,h5,b.2.2.2,A,J,P,B,K,R,C,L,S,D,M,U,E,(N.1,b.2.1,N.2.2),W,h7,h8,h9,i0,i1,i2,b.2.2.1,z5)))/\O)) (j1/\((x.1==5)=false->(i7/\∀(b:(BL×Int)×Wd),iW z3 4 x b->Is (gN (e,F,G) (b.1.1,b.1.2,wO b.2 (x,i5,()))))/\O))) (False/\True)))))))) (by
 conv=>zeta
 unfold Bd Br WA nI cY wO;intro s;refine Wd.all λw=>?_;intro Q ⟨⟨n,h⟩,P⟩;have h:cU w (n+1):=h;have F:∀y,jG w s y->Q ⟨0,((y.1.1,y.1.2,kr),cY y.2)⟩:=λy hy=>P y hy;clear P;have bad:(s.2.1<0\/5<=s.2.1\/400<=w.st.length)->Q ⟨0,((26,0,kr),cY w)⟩:=λc=>F ((26,0),w) (by unfold jG;rw[ak c])
 have tail:∀(b:BL)(j:Int)(f:Wd),¬(s.2.1<0\/5<=s.2.1\/400<=w.st.length)->¬(w.go.getD s.2.1.toNat false=true)->vw w s.2.1.toNat s ((b,j),f)->((!j==0)=true->Q ⟨0,((j,0,kr),cY f)⟩)/\
  ((!j==0)=false->(0<=s.2.1/\s.2.1<5/\b.length<=1000000/\cb 10 f.ts)/\∀k:Int,k=Dd f s.2.1.toNat b->(f.st.length<=1000000/\f.ln.length<=1000000)/\∀B,B=f.keep b k->Q ⟨0,((0,(f.st.length:Int)+1,kr),cY B)⟩):=by
  intro b j f no p R;have G:=no;rw[not_or,not_or]at G;have ok:=I0 h (show s.2.1.toNat<5 by omega) R;dsimp only at ok;have S:∀z:zn,z=kj f s.2.1.toNat (b,j)->Q ⟨0,((z.1.1,z.1.2,kr),cY z.2)⟩:=λz i=>F z (by unfold jG;rw[ae no,ae p];exact⟨_,R,i⟩);refine⟨λc=>S ((j,0),f) ?_,λc=>⟨⟨ac,ac,ac,ok.1.ts.mono ac⟩,λk D=>⟨⟨by have:=ok.1.st.1;omega,by have:=ok.1.st;omega⟩,λB h3=>?_⟩⟩⟩
  ·unfold kj;rw[ak (lf c)]
  ·have:=S (ub f b (Dd f s.2.1.toNat b)) (by unfold kj;rw[ae (nl c)]);rw[<-D]at this;subst h3;exact this
 refine⟨trivial,λc=>bad ?_,λc=>⟨trivial,λd=>bad (.inr (.inr (af d))),λd=>⟨?_,?_⟩⟩⟩
 ·have c:¬(0<=s.2.1/\s.2.1<5):=λh=>by rw[decide_eq_true h]at c;cases c
  rcases Int.lt_or_le s.2.1 0 with q|q
  ·exact .inl q
  ·exact .inr (.inl ac)
 ·have c:0<=s.2.1/\s.2.1<5:=by
   cases h:decide (0<=s.2.1/\s.2.1<5)with
   |true=>exact af h
   |false=>rw[h]at c;cases c
  have d':=ap d
  have no:¬(s.2.1<0\/5<=s.2.1\/400<=w.st.length):=by
   rintro(q|q|q)
   ·omega
   ·omega
   ·exact d' q
  refine⟨λe=>?_,λH=>⟨λe=>?_,λu=>⟨λe=>?_,λv=>⟨λe=>?_,λJ=>⟨λe=>?_,λK=>?_⟩⟩⟩⟩⟩
  case refine_6=>exfalso;simp only[aC,ne_eq]at H u v J K;omega
  all_goals
   have o:s.2.1.toNat=_:=aI rC (bz e);refine⟨λg=>F ((19,0),w) ?_,λg=>⟨⟨rfl,rfl,no,?_⟩⟩⟩
   ·unfold jG;rw[ae no,o];exact ak g▸rfl
   ·show¬(w.go.getD s.2.1.toNat false=true);rw[o];intro q;have:=q.symm.trans g;cases this
 refine Wd.all λf=>?_;rintro C x ⟨u,v,no,p⟩;have u:w=f:=(show f=w from u).symm;have v:s=C:=(show C=s from v).symm;subst u v;have no:¬(s.2.1<0\/5<=s.2.1\/400<=w.st.length):=no;have p:¬(w.go.getD s.2.1.toNat false=true):=p
 have hw:0<=s.2.1/\s.2.1<5:=by
  rw[not_or,not_or]at no;omega
 clear bad;refine⟨λe=>?_,λH=>⟨λe=>?_,λu=>⟨λe=>?_,λv=>⟨λe=>?_,λJ=>⟨λe=>?_,λK=>?_⟩⟩⟩⟩⟩
 case refine_6=>exfalso;simp only[aC,ne_eq]at H u v J K;omega
 all_goals
  have o:s.2.1.toNat=_:=aI rC (bz e);have U:=h.cl s.2.1.toNat ac;have t4:∀(l:List Op)(z:_),z=lr 4 (jI (w.cl s.2.1.toNat).bk [] 5++cE l) (w.cl s.2.1.toNat).c (w.cl s.2.1.toNat).sg (w.cl s.2.1.toNat).lg (w.cl s.2.1.toNat).la (w.cl s.2.1.toNat).km w.ts w.m->s.1=5->vw w s.2.1.toNat s (z.1,w.told s.2.1.toNat z):=λt z i c=>by unfold vw;rw[ak c];exact⟨t,z,i,rfl⟩
  have t3:∀t z,z=lr 3 t (w.cl s.2.1.toNat).c (w.cl s.2.1.toNat).sg (w.cl s.2.1.toNat).lg (w.cl s.2.1.toNat).la (w.cl s.2.1.toNat).km w.ts w.m->s.1≠5->s.1=4->vw w s.2.1.toNat s (z.1,w.told s.2.1.toNat z):=λt z i c L=>by unfold vw;rw[ae c,ak L];exact⟨t,z,i,rfl⟩
  have t0:∀r,iW w s.2.1.toNat s r->s.1≠5->s.1≠4->vw w s.2.1.toNat s r:=λr hr c L=>by unfold vw;rw[ae c,ae L];exact hr
  have T:∀(b:BL)(j:Int),∀f:Wd,∀C(x:Ij.den),gN (s,cY w) (b,j,f.sec,f.al,f.go,f.d,f.m,(cA f.c0),(qT f.c0),f.c0.km,(cA f.c1),(qT f.c1),f.c1.km,(cA f.c2),(qT f.c2),f.c2.km,(cA f.c3),(qT f.c3),f.c3.km,(cA f.c4),(qT f.c4),f.c4.km,f.k0,f.k1,f.k2,f.k3,f.k4,f.lg,f.ts,f.c0.bk,f.c1.bk,f.c2.bk,f.c3.bk,f.c4.bk,f.st,f.ln,C,x,())->C=s/\vw w s.2.1.toNat s ((b,j),f):=λb j f C x g=>⟨g.1,g.2.2.2⟩;rw[o]at U;obtain⟨⟨W,X,p3,Y,p5,p6,p7,p8,p9⟩,a0,M⟩:=U;refine⟨λE=>⟨λA=>?_,λA=>⟨⟨⟨W,X,Y,p7,p6,bE (bE (Nat.le_add_right _ _) (Nat.le_add_right _ _)) M,h.ts.mono ac⟩,λz i=>⟨⟨rfl,no,p,?_⟩⟩⟩,?_⟩⟩,λE=>⟨λA=>⟨⟨⟨W,X,Y,p7,p6,p5,h.ts.mono ac⟩,λz i=>⟨⟨rfl,no,p,?_⟩⟩⟩,?_⟩,λA=>⟨⟨⟨n,h⟩,λz i=>⟨⟨rfl,no,p,?_⟩⟩⟩,?_⟩⟩⟩
  ·exfalso;have a:=bz E;have b:=bz A;rw[a]at b;exact absurd b bt
  ·obtain⟨t,i⟩:=i;have:=t3 t z (by rw[o];exact i) (aL A) (bz E);rw[o]at this⊢;exact this
  rotate_left
  ·obtain⟨t,i⟩:=i;have:=t4 _ z (by rw[o];exact i) (bz A);rw[o]at this⊢;exact this
  rotate_left
  ·have:=t0 z (by rw[o];exact i) (aL A) (aL E);exact this
  all_goals
   intro b j;refine Wd.all λB=>?_;intro s3 N g;obtain⟨g1,g2⟩:=T b j B s3 N g;subst g1;obtain⟨T1,O⟩:=tail b j B no p g2;exact⟨T1,λc=>⟨(O c).1,λk D=>⟨((O c).2 k D).1,((O c).2 k D).2 _ rfl⟩⟩⟩) (l:=λ_=>aU λ_=>Dh _ _)
def xv:List (Int×BL)->Wd->Wd->Prop
 |[],w,a=>a=w
 |p::r,w,a=>∃y,iV w p.1 p.2 y/\xv r y.2 a
def xw(a:List Int)(c:List BL):List (Int×BL):=c.flatMap λb=>a.map λi=>(i,b)
def Wd.ids(w:Wd):List Int:=(cZ w.lg.2.1 w.lg.2.1.length).map (·.1)
abbrev xx:=(Int×Int×Nw)×Wd
def bad(w:Wd):xx:=((26,0,kr),w)
def jh(z:zn):xx:=((z.1.1,z.1.2,kr),z.2)
def mY(w:Wd)(s:jt)(y:xx):Prop:=
 if 1<=s.1/\s.1<=5 then∃z,jG w s z/\y=jh z
 else if s.1=6 then(if 400<=w.st.length\/¬(1<=s.2.2.2.1/\s.2.2.2.1<=31/\s.2.2.2.1 % 2=1)then y=bad w else∃z,ff w s.2.2.2.1 z/\y=jh z)
 else if s.1=7 then(if¬(0<=s.2.1/\s.2.1<5)\/¬(1<=s.2.2.2.1/\s.2.2.2.1<=w.st.length)then y=bad w else∃z,iV w s.2.1 (w.st.getD (s.2.2.2.1-1).toNat []) z/\y=((z.1.1,0,z.1.2),z.2))
 else if s.1=8\/s.1=9 then y=jh (tI w s)
 else if s.1=10 then(if 400<=w.st.length\/65536<s.2.2.2.2.2.2.1.length then y=bad w else y=jh (ub w s.2.2.2.2.2.2.1 0))
 else if s.1=11 then y=jh (io w s)
 else if s.1=12 then∃a,xv (xw w.ids w.st) w a/\y=((0,0,kr),a)
 else y=bad w
theorem Dk:∀{a b:List (Int×BL)}{w e f:Wd},xv a w e->xv b e f->xv (a++b) w f
 |[],_,_,_,_,h,c=>by
  have h:_=_:=h;subst h;exact c
 |p::a,_,_,_,_,h,c=>by
  obtain⟨y,g,i⟩:=h;exact⟨y,g,Dk i c⟩
theorem tK:∀{a:List (Int×BL)}{w w':Wd}{n:Nat},cU w (n+a.length)->(∀p∈a,0<=p.1/\p.1<5)->xv a w w'->cU w' n/\w'.st=w.st/\w'.ln=w.ln/\w'.lg=w.lg
 |[],_,_,_,h,_,e=>by
  have e:_=_:=e;subst e;exact⟨h,rfl,rfl,rfl⟩
 |p::a,w,w',n,h,f,⟨y,c,i⟩=>by
  have j:=gB (n:=n+a.length) (h.mono eM) (f p (aF ..)) c;have:=tK j (λq l=>f q (aD _ l)) i;have g:=gX c;obtain⟨z,o,e⟩:=c
  have m:y.2.lg=w.lg:=by
   have a:=(dl w p.1.toNat z.2).1.lg;have b:=(ki p.2 p.1 z.1 (w.aft p.1.toNat z.2)).1.lg;rw[e];exact b.trans a
  exact⟨this.1,this.2.1.trans g.1,this.2.2.1.trans g.2.1,this.2.2.2.trans m⟩
theorem I1:∀(a:List (Int×BL)){w:Wd}{n:Nat},cU w (n+a.length)->(∀p∈a,0<=p.1/\p.1<5)->∃w',xv a w w'
 |[],w,_,_,_=>⟨w,rfl⟩
 |p::a,w,n,h,b=>by
  obtain⟨y,c⟩:=rA h (i:=p.1) p.2 (b p (aF ..));have e:=gB (n:=n+a.length) (h.mono eM) (b p (aF ..)) c;obtain⟨w',f⟩:=I1 a e (λq g=>b q (aD _ g));exact⟨w',y,c,f⟩
def lh(w:Wd):Prop:=∀i∈w.ids,0<=i/\i<5
theorem kX{w:Wd}(h:cU w n):w.ids.length<=5:=by
 unfold Wd.ids;rw[cG];unfold cZ;split
 ·exact aq _
 ·exact h.l5 _ (aV ac)
theorem kY(a:List Int)(c:List BL):(xw a c).length=c.length*a.length:=by
 unfold xw
 induction c with
 |nil=>simp
 |cons b c e=>simp only[List.flatMap_cons,aa,cG,bc,e,Nat.succ_mul];omega
variable{a:List Int}
theorem my{e:List BL}(h:∀i∈a,0<=i/\i<5):∀p∈xw a e,0<=p.1/\p.1<5:=by
 intro p c;unfold xw at c;obtain⟨b,_,f⟩:=List.mem_flatMap.1 c;obtain⟨i,g,rfl⟩:=fI.1 f;exact h i g
theorem Sz{w:Wd}(h:cU w (n+5*w.st.length+3))(hi:lh w)(s:jt):∃y,mY w s y:=by
 unfold mY;split
 ·obtain⟨z,a⟩:=Dh w s;exact⟨_,z,a,rfl⟩
 split
 ·split
  ·exact⟨_,rfl⟩
  ·obtain⟨z,a⟩:=mw (k:=n+5*w.st.length+1) h s.2.2.2.1;exact⟨_,z,a,rfl⟩
 split
 ·split
  ·exact⟨_,rfl⟩
  ·rename_i g;rw[not_or]at g;obtain⟨z,a⟩:=rA h (i:=s.2.1) (w.st.getD (s.2.2.2.1-1).toNat []) (aA.1 g.1);exact⟨_,z,a,rfl⟩
 split
 ·exact⟨_,rfl⟩
 split
 ·split
  ·exact⟨_,rfl⟩
  ·exact⟨_,rfl⟩
 split
 ·exact⟨_,rfl⟩
 split
 ·obtain⟨b,c⟩:=I1 (xw w.ids w.st) (n:=0) (h.mono (by rw[kY];have:=kX h;have:=Nat.mul_le_mul_left w.st.length this;omega)) (my hi);exact⟨_,b,c,rfl⟩
 ·exact⟨_,rfl⟩
def O9:Ct:=⟨2,⟨[sP 0,V' 1],nn⟩,[⟨[(0,true,[.d Ij])],JP 33++om 33⟩],λ(s,E,F,G,H,J,K,L,M,N,b,c,e,f,g,h,i,j,l,m,o,p,q,r,t,u,v,w,x,z,A,B,C,a,D,_)=>fJ (s.2.2.2.2.2.2.1.length<=1000000/\lh (cS (E,F,G,H,J,K,L,M,N,b,c,e,f,g,h,i,j,l,m,o,p,q,r,t,u,v,w,x,z,A,B,C,a,D,()))/\∃n,cU (cS (E,F,G,H,J,K,L,M,N,b,c,e,f,g,h,i,j,l,m,o,p,q,r,t,u,v,w,x,z,A,B,C,a,D,())) (n+5*a.length+3)) (mY (cS (E,F,G,H,J,K,L,M,N,b,c,e,f,g,h,i,j,l,m,o,p,q,r,t,u,v,w,x,z,A,B,C,a,D,())) s) λy=>(y.1,cY y.2)⟩
variable{p:Prop}
theorem nd1[Decidable p](h:(!decide p)=true):¬p:=λq=>by rw[decide_eq_true q]at h;cases h
theorem nd2[Decidable p](h:(!decide p)=false):p:=by
 by_cases q:p
 ·exact q
 ·rw[decide_eq_false q]at h;cases h
theorem I2(a:List Int)(l:List BL)(b:BL):xw a (l++[b])=xw a l++a.map λi=>(i,b):=by
 unfold xw;rw[List.flatMap_append];simp
theorem Dl{st:List BL}(c:a.length<=5)(j:k<st.length)(e:n<=a.length)(b:BL):(xw a (st.take k)++(a.take n).map λi=>(i,b)).length<=5*st.length:=by
 rw[aa,kY,cG,bd,bd];have f:min k st.length=k:=fh ac;have g:min n a.length=n:=fh e;rw[f,g];have h:(k+1)*a.length<=st.length*5:=Nat.mul_le_mul ac c;rw[Nat.succ_mul]at h;omega
theorem I3{l:List BL}(h:∀i∈a,0<=i/\i<5)(b:BL):∀p∈(xw a l++(a.take k).map λi=>(i,b)),0<=p.1/\p.1<5:=by
 intro p c;rcases ba.1 c with q|q
 ·exact my h p q
 ·obtain⟨i,e,rfl⟩:=fI.1 q;exact h i (List.mem_of_mem_take e)
def Pb:cx:=⟨[sP 0,(4,false,[.ptr 44 0]),(6,false,[.d (.sl .i64)]),sO 102 31,sI 103,sI 104],Q_++[IE]⟩
def Dm(x:O9.inp.den)(y:Pb.den):Prop:=match x,y with
 |(s,a1,a2,a3,a4,a5,a6,a7,a8,a9,b,c,e,f,g,h,i,l,m,n,o,p,q,r,t,u,v,w,z,A,B,C,D,a,E,_),(F,ln,j,b1,b2,b3,b4,b5,b6,b7,b8,b9,G,H,J,K,L,M,N,O,P,Q,R,S,U,W,X,Y,a0,b0,c0,c1,c2,c3,c4,c5,c6,_,_)=>s.1=12/\F=(cS (a1,a2,a3,a4,a5,a6,a7,a8,a9,b,c,e,f,g,h,i,l,m,n,o,p,q,r,t,u,v,w,z,A,B,C,D,a,E,())).ids/\ln=a.length/\∃k:Nat,j=k/\k<=a.length/\xv (xw F (a.take k)) (cS (a1,a2,a3,a4,a5,a6,a7,a8,a9,b,c,e,f,g,h,i,l,m,n,o,p,q,r,t,u,v,w,z,A,B,C,D,a,E,())) (cS (b1,b2,b3,b4,b5,b6,b7,b8,b9,G,H,J,K,L,M,N,O,P,Q,R,S,U,W,X,Y,a0,c1,c2,c3,c4,c5,c6,b0,c0,()))
def Pc:cx:=⟨[sP 0,(4,false,[.ptr 44 0]),(6,false,[.d (.sl .i64)]),sB 8,sO 102 31,sI 103,sI 104,(108,false,[.d (.sl .i64)]),sI 109,sI 110],Q_++[IE]⟩
def Dn(x:O9.inp.den)(i0:Int)(y:Pc.den):Prop:=match x,y with
 |(s,a1,a2,a3,a4,a5,a6,a7,a8,a9,e,f,g,h,l,m,n,o,p,q,t,u,v,w,z,A,B,C,D,E,F,G,H,a,J,_),(c,b,ln,j,K,L,j2,b1,b2,b3,b4,b5,b6,b7,b8,b9,M,N,O,P,Q,R,S,U,W,X,Y,a0,b0,c0,c1,c2,c3,c4,c5,c6,c7,c8,c9,d0,d1,_,_)=>s.1=12/\c=(cS (a1,a2,a3,a4,a5,a6,a7,a8,a9,e,f,g,h,l,m,n,o,p,q,t,u,v,w,z,A,B,C,D,E,F,G,H,a,J,())).ids/\ln=a.length/\j=i0/\K=c/\L=c.length/\∃k r:Nat,j=k/\k<a.length/\b=a.getD k []/\j2=r/\r<=c.length/\xv (xw c (a.take k)++(c.take r).map λi=>(i,b)) (cS (a1,a2,a3,a4,a5,a6,a7,a8,a9,e,f,g,h,l,m,n,o,p,q,t,u,v,w,z,A,B,C,D,E,F,G,H,a,J,())) (cS (b1,b2,b3,b4,b5,b6,b7,b8,b9,M,N,O,P,Q,R,S,U,W,X,Y,a0,b0,c0,c1,c2,c3,c6,c7,c8,c9,d0,d1,c4,c5,()))
def doA(x:O9.inp.den):eH:=⟨[(31,pW Pb (Dm x) (λ(_,b,j,_)=>(@bO Int Int Int _ b j).toNat) λ(_,_,c,_)=>[(34,bS Pc (Dn x c) λ(_,_,_,_,_,a,e,_)=>(@bO Int Int Int _ a e).toNat)])],[],[],[],0⟩
abbrev a0m(v:(Int×Int×Nw)×TA Unit):cF O9.out:=⟨0,v⟩
def a61:bG:=(16,[O9])::a0k
def a62:=kA 16 O9 a0l doA (∀(a:Int×Int×Int×Int×Int×Int×BL×Lt),let P:=65536<nI a.2.2.2.2.2.2.1;let R:= !decide (0<=a.2.1/\a.2.1<5);let B:=a.2.2.2.1-1;let z8:= !decide (1<=a.2.2.2.1/\a.2.2.2.1<=31/\a.2.2.2.1 % (2:Int)=1);WA λf g h i j k l m n o p q r s t u v w y z S U W X Y d a5 a6 a7 a8 a9 b0 c e=>let F:=400<=c.length;let z9:= !decide (1<=a.2.2.2.1/\a.2.2.2.1<=nI c);let x:=(g,h,i,j,k,l,m,n,o,p,q,r,s,t,u,v,w,y,z,S,U,W,X,Y,d,a5,a6,a7,a8,a9,b0,c,e,());let D:=a0m ((26,0,0,0,0,0,false,false,[],()),f,x);∀(Q:cF O9.out->Prop),let z4:=(c.length<=1000/\e.length<=1000/\∀(b:BL),b∈c->b.length<=2000000)/\∀b,b=tI (cS (f,x)) a->Q ⟨0,(b.1.1,b.1.2,0,0,0,0,false,false,[],()),cY b.2⟩;let G:=(∃a,cU (cS (f,x)) (a+1))/\∀(b:(Int×Int)×Wd),jG (cS (f,x)) a b->Q ⟨0,(b.1.1,b.1.2,0,0,0,0,false,false,[],()),cY b.2⟩;bg O9 (a,f,x) Q->Br (a.1==1) G (Br (a.1==2) G (Br (a.1==3) G (Br (a.1==4) G (Br (a.1==5) G (Br (a.1==6) (True/\Br (decide F) (Q D) (True/\Br z8 (Q D) ((1<=a.2.2.2.1/\a.2.2.2.1<=31/\∃a,cU (cS (f,x)) (a+2))/\∀(b:(Int×Int)×Wd),ff (cS (f,x)) a.2.2.2.1 b->Q ⟨0,(b.1.1,b.1.2,0,0,0,0,false,false,[],()),cY b.2⟩))) (Br (a.1==7) (True/\Br R (Q D) (True/\Br z9 (Q D) (am B/\iN B c/\(0<=a.2.1/\a.2.1<5/\(gD c B []).length<=10000000/\∃a,cU (cS (f,x)) (a+1))/\∀(b:(Int×Nw)×Wd),iV (cS (f,x)) a.2.1 (gD c B []) b->Q ⟨0,(b.1.1,0,b.1.2),cY b.2⟩))) (Br (a.1==8) z4 (Br (a.1==9) z4 (Br (a.1==10) (True/\Br (decide F) (Q D) (Br (decide P) (Q D) ((c.length<=1000000/\e.length<=1000000)/\Q ⟨0,(0,nI c+1,0,0,0,0,false,false,[],()),f,g,h,i,j,k,l,m,n,o,p,q,r,s,t,u,v,w,y,z,S,U,W,X,Y,d,a5,a6,a7,a8,a9,b0,c++[a.2.2.2.2.2.2.1],e++[0],()⟩))) (Br (a.1==11) ((ah a.2.2.2.2.2.2.1<=1000000/\∃a,cU (cS (f,x)) (a+1))/\∀b,b=io (cS (f,x)) a->Q ⟨0,(b.1.1,b.1.2,0,0,0,0,false,false,[],()),cY b.2⟩) (Br (a.1==12) (cK d.2.1 d.2.2.1/\Is (Dm (a,f,x) (List.map (λa=>a.1) (cZ d.2.1 (nI d.2.1)),nI c,0,f,g,h,i,j,k,l,m,n,o,p,q,r,s,t,u,v,w,y,z,S,U,W,X,Y,d,c,e,a5,a6,a7,a8,a9,b0,(0,0,0,0,0,0,false,false,[],()),()))/\∀(K:List Int)(L C:Int),WB λf5 f6 f7 f8 f9 g0 g1 g2 g3 g4 g5 g6 g7 g8 g9 h0 h1 h2 h3 h4 h5 h6 h7 h8 h9 i0 M i1 i2 i3 i4 i5 i6 i7=>∀(j0:Int×Int×Nw),let z6:=(f5,f6,f7,f8,f9,g0,g1,g2,g3,g4,g5,g6,g7,g8,g9,h0,h1,h2,h3,h4,h5,h6,h7,h8,h9,i0,M,i1,i2,i3,i4,i5,i6,i7,j0,());Dm (a,f,x) (K,L,C,z6)->Bd (C<L) (iN C M/\Is (Dn (a,f,x) C (K,gD M C [],L,C,K,nI K,0,z6))/\∀(i8:List Int)(N:BL)(O H:Int)(E:List Int)(J A:Int),WB λc1 c2 c3 c4 c5 c6 c7 c8 c9 d0 d1 d2 d3 d4 d5 d6 d7 d8 d9 e0 e1 e2 e3 e4 e5 e6 e7 e8 e9 f0 f1 f2 f3 f4=>let z5:=cS (c1,c2,c3,c4,c5,c6,c7,c8,c9,d0,d1,d2,d3,d4,d5,d6,d7,d8,d9,e0,e1,e2,e3,e4,e5,e6,e9,f0,f1,f2,f3,f4,e7,e8,());∀(i9:Int×Int×Nw),let z7:=(c1,c2,c3,c4,c5,c6,c7,c8,c9,d0,d1,d2,d3,d4,d5,d6,d7,d8,d9,e0,e1,e2,e3,e4,e5,e6,e7,e8,e9,f0,f1,f2,f3,f4,i9,());Dn (a,f,x) C (i8,N,O,H,E,J,A,z7)->Bd (A<J) (iN A E/\(0<=gD E A 0/\gD E A (0:Int)<5/\N.length<=10000000/\∃a,cU z5 (a+1))/\∀(b:(Int×Nw)×Wd),iV z5 (gD E A 0) N b->am (A+1)/\Is (Dn (a,f,x) C (i8,N,O,H,E,J,A+1,B_ b.2 (i9,()))/\lN (J-(A+1)) (J-A))) (am (H+1)/\Is (Dm (a,f,x) (i8,O,H+1,z7)/\lN (O-(H+1)) (L-C)))) (Q ⟨0,(0,0,0,0,0,0,false,false,[],()),f5,f6,f7,f8,f9,g0,g1,g2,g3,g4,g5,g6,g7,g8,g9,h0,h1,h2,h3,h4,h5,h6,h7,h8,h9,i0,i2,i3,i4,i5,i6,i7,M,i1,()⟩)) (Q D))))))))))))) (by
 conv=>zeta
 unfold Bd Br WA WB gD iN lN nI bg cY B_;intro s;refine Wd.all λw=>?_;intro Q ⟨⟨ht,A,n,C⟩,hQ⟩;have C:cU w (n+5*w.st.length+3):=C;have A:lh w:=A;have a:∀y:xx,mY w s y->Q ⟨0,(y.1,cY y.2)⟩:=λy hy=>hQ y hy;clear hQ;have m:=C.st;have U:∃k,cU w (k+1):=⟨n+5*w.st.length+2,C⟩;have w2:∃k,cU w (k+2):=⟨n+5*w.st.length+1,C⟩;have g:=a (bad w)
 have o:∀k:Int,(s.1==k)=true->1<=k/\k<=5->(∃x,cU w (x+1))/\∀(z:(Int×Int)×Wd),jG w s z->Q ⟨0,((z.1.1,z.1.2,kr),cY z.2)⟩:=λk h h1=>⟨U,λz p=>a (jh z) (by
  have e:s.1=k:=bz h;unfold mY;rw[ak (by rw[e];exact h1)];exact⟨z,p,rfl⟩)⟩
 refine⟨λc=>o 1 c bt,λW=>⟨λc=>o 2 c bt,λX=>⟨λc=>o 3 c bt,λY=>⟨λc=>o 4 c bt,λc4=>⟨λc=>o 5 c bt,λc5=>?_⟩⟩⟩⟩⟩;clear o
 have F:¬(1<=s.1/\s.1<=5):=by
  have W:¬@Eq Int s.1 1:=aL W;have X:¬@Eq Int s.1 2:=aL X;have Y:¬@Eq Int s.1 3:=aL Y;have c4:¬@Eq Int s.1 4:=aL c4;have c5:¬@Eq Int s.1 5:=aL c5;intro h;have h1:@aX Int _ 1 s.1:=h.1;have h2:@aX Int _ s.1 5:=h.2;omega
 unfold mY at g a;rw[ae F]at g;simp only[ae F]at a;clear W X Y c4 c5;refine⟨λc=>?_,λc6=>?_⟩
 ·have e:s.1=6:=bz c;rw[ak e]at g;simp only[ak e]at a;refine⟨trivial,λd=>g (by rw[ak (.inl (by have:=af d;omega))]),λd=>⟨trivial,λf=>g (by rw[ak (.inr (nd1 f))]),λf=>?_⟩⟩;have f:1<=s.2.2.2.1/\s.2.2.2.1<=31/\s.2.2.2.1 % 2=1:=nd2 f;refine⟨⟨f.1,f.2.1,w2⟩,λz p=>a (jh z) ?_⟩;rw[ae (λq=>q.elim (λq=>by have:=ap d;omega) (λq=>q f))];exact⟨z,p,rfl⟩
 rw[ae (aL c6)]at g;simp only[ae (aL c6)]at a;refine⟨λc=>?_,λc7=>?_⟩
 ·have e:s.1=7:=bz c;rw[ak e]at g;simp only[ak e]at a;refine⟨trivial,λd=>g (by rw[ak (.inl (nd1 d))]),λd=>⟨trivial,λf=>g (by rw[ak (.inr (nd1 f))]),λf=>?_⟩⟩;have d:0<=s.2.1/\s.2.1<5:=nd2 d;have f:1<=s.2.2.2.1/\s.2.2.2.1<=w.st.length:=nd2 f;have f1:@aX Int _ 1 s.2.2.2.1:=f.1;have f2:@aX Int _ s.2.2.2.1 w.st.length:=f.2;have hm:=m.2.2 _ (aV (z:=([]:BL)) (show(s.2.2.2.1-1).toNat<w.st.length by omega));refine⟨cv,ac,⟨d.1,d.2,ac,U⟩,λz p=>a ((z.1.1,0,z.1.2),z.2) ?_⟩;rw[ae (λq=>q.elim (λq=>q d) (λq=>q f))];exact⟨z,p,rfl⟩
 rw[ae (aL c7)]at g;simp only[ae (aL c7)]at a;have O:w.st.length<=1000/\w.ln.length<=1000/\∀b:BL,b∈w.st->b.length<=2000000:=⟨m.1,by rw[m.2.1];exact m.1,m.2.2⟩;refine⟨λc=>⟨O,λz p=>a (jh z) ?_⟩,λc8=>⟨λc=>⟨O,λz p=>a (jh z) ?_⟩,λc9=>?_⟩⟩
 ·rw[ak (.inl (bz c))];exact aI jh p
 ·rw[ak (.inr (bz c))];exact aI jh p
 have G:¬(s.1=8\/s.1=9):=λq=>q.elim (aL c8) (aL c9);rw[ae G]at g;simp only[ae G]at a;refine⟨λc=>?_,λH=>?_⟩
 ·have e:s.1=10:=bz c;rw[ak e]at g;simp only[ak e]at a;refine⟨trivial,λd=>g (by rw[ak (.inl (by have:=af d;omega))]),λd=>⟨λf=>g (by rw[ak (.inr (by have:=af f;omega))]),λf=>⟨⟨ac,by rw[m.2.1];omega⟩,a (jh (ub w s.2.2.2.2.2.2.1 0)) ?_⟩⟩⟩;have d:=ap d;have f:=ap f;rw[ae (λq=>q.elim (λq=>ac) (λq=>ac))]
 rw[ae (aL H)]at g;simp only[ae (aL H)]at a;refine⟨λc=>⟨⟨ht,U⟩,λz p=>a (jh z) ?_⟩,λJ=>?_⟩
 ·rw[ak (bz c)];exact aI jh p
 rw[ae (aL J)]at g;simp only[ae (aL J)]at a;refine⟨λc=>?_,λa0=>g (by rw[ae (aL a0)])⟩;have B:s.1=12:=bz c;clear g c c6 c7 c8 c9 H J G F;simp only[ak B]at a;have P:=kX C;refine⟨C.lg.1,⟨⟨B,rfl,rfl,0,rfl,aq _,rfl⟩⟩,?_⟩;intro a1 ln j;refine Wd.all2 λv=>?_;rintro sn ⟨-,K,L,k,M,hk,t⟩;have K:a1=w.ids:=K;have L:ln=(w.st.length:Int):=L;have M:j=(k:Int):=M;have hk:k<=w.st.length:=hk;subst K L M;have t:xv (xw w.ids (w.st.take k)) w v:=t;have ek:((k:Int).toNat)=k:=ac
 rw[ek];refine⟨λc=>?_,λc=>?_⟩
 ·have c:k<w.st.length:=by have:=af c;omega
  have f0:xv (xw w.ids (w.st.take k)++(w.ids.take 0).map λi=>(i,w.st.getD k [])) w v:=by
   rw[List.take_zero,List.map_nil,aH];exact t
  have D:=tK (n:=n+3) (C.mono (by have:=Dl P c (aq _) (w.st.getD k []);omega)) (I3 A (w.st.getD k [])) f0;have N:v.st=w.st:=D.2.1;refine⟨by rw[N];omega,⟨⟨B,rfl,rfl,rfl,rfl,rfl,k,0,rfl,c,by rw[N],rfl,aq _,f0⟩⟩,?_⟩;clear f0 D N t;intro R b2 a2 j3 S a3 j4;refine Wd.all2 λu=>?_;rintro a5 ⟨-,K,L,M,e4,e5,E,r,e6,-,e7,e8,hr,t⟩;have K:R=w.ids:=K;have L:a2=(w.st.length:Int):=L;have M:j3=(k:Int):=M;have e7:b2=w.st.getD E []:=e7;have a4:E=k:=by have e6:j3=(E:Int):=e6;omega
  subst a4;subst K;have e4:S=w.ids:=e4;have e5:a3=(w.ids.length:Int):=e5;have e8:j4=(r:Int):=e8;have hr:r<=w.ids.length:=hr;subst L M e4 e5 e7 e8;clear e6;have t:xv (xw w.ids (w.st.take E)++(w.ids.take r).map λi=>(i,w.st.getD E [])) w u:=t;have D:=tK (n:=n+3) (C.mono (by have:=Dl P c hr (w.st.getD E []);omega)) (I3 A (w.st.getD E [])) t;have er:((r:Int).toNat)=r:=ac
  rw[er];refine⟨λd=>?_,λd=>?_⟩
  ·have d:r<w.ids.length:=by have:=af d;omega
   have hm:=A _ (aV (z:=(0:Int)) d);have a6:=m.2.2 _ (aV (z:=([]:BL)) c);refine⟨ac,⟨hm.1,hm.2,ac,n+2,D.1⟩,λz p=>⟨cv,⟨⟨B,rfl,rfl,rfl,rfl,rfl,E,r+1,rfl,c,rfl,rfl,d,?_⟩,ac⟩⟩⟩;show xv _ w z.2;rw[di (z:=(0:Int)) d,dL,<-ay];exact Dk t ⟨z,p,rfl⟩
  ·have d:r=w.ids.length:=by have:=ap d;omega
   subst d;refine⟨cv,⟨⟨B,rfl,rfl,E+1,rfl,c,?_⟩,ac⟩⟩;show xv _ w u;rw[di (z:=([]:BL)) c,I2];rw[bv]at t;exact t
 ·have d:k=w.st.length:=by have:=ap c;omega
  subst d;rw[bv]at t;exact a ((0,0,kr),v) ⟨v,t,rfl⟩) (l:=λ_=>aU λh=>by obtain⟨_,h2,_,h3⟩:=h;exact Sz h3 h2 _)
end Go.Tp
