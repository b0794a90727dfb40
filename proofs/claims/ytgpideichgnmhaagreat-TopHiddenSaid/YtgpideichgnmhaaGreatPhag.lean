/- A part of the proof of TopHiddenSaid: no conditions; packed by a program of our own. -/
import Derived.Test.YtgpideichgnmhaaGreatPhaf
set_option linter.defProp false
set_option linter.unusedVariables false
set_option linter.unusedSimpArgs false
open And renaming intro→ck
open BitVec renaming ofNat→ag
open Bool renaming eq_iff_iff→nr,true_and→lx,not_eq_true'→aR,not_eq_true→cm,not_eq_false'→aN,not_eq_false→bR
open Int renaming toNat_natCast→aG,toNat_of_nonneg→qJ,toNat→rC
open List renaming map_cons→aY,replicate→ax,length_append→aa,append_assoc→ay,mem_append→ba,drop_of_length_le→bu,take_of_length_le→bb,append_nil→aH,getElem?_eq_getElem→an,getD→bF,take_append_drop→ej,length_take→bd,length→ah,range→fo,getD_eq_getElem?_getD→aw,map_append→dL,length_map→cG,getElem_mem→ls,length_drop→cW,take→de,length_singleton→bi,take_add_one→dR,take_length→bv,length_eq_zero_iff→ju
open Nat renaming min_eq_left→fh,add_comm→fq,le_refl→aE,le_trans→bE,zero_le→aq,eq_zero_or_pos→dP
namespace Go.Tp
open Go.Hv Go.Proofs Go.RowKit
set_option maxRecDepth 100000
set_option maxHeartbeats 0
def mdC:Ct:=⟨1,⟨[sP 0],nB⟩,[⟨[sL 0],nB⟩],λ(d,a,m,_)=>one True (true,d,a,m,())⟩
def a22:bG:=(65,[mdC])::a20
def a23:=kA 65 mdC a21 (cQ mdC 0) (∀(a:Int)(b:List Tm)(c:KV)Q,bg mdC (a,b,c,()) Q->Q ⟨0,true,a,b,c,()⟩) (by
 unfold bg;intro d b m Q ⟨_,a⟩;exact a)
abbrev qN(t:Tm)(ts:List Tm):Prop:=eB t/\ts.length<=4294967296
def dI(t:Tm)(ts:List Tm)(m:KV):BL×List Tm×KV:=(jH t (jV t ts m).1,(jV t ts m).2)
def nmC:Ct:=⟨3,⟨[sP 0,sU 1,(2,false,[.d (.sl tB)])],nB⟩,[⟨[sO 0 4],D7++[cB]⟩],λ(k,a,d,b,m,_)=>one (qN (k,a,()) b) (d,(dI (k,a,()) b m).2.2,(dI (k,a,()) b m).2.1,(dI (k,a,()) b m).1,())⟩
def a24:bG:=(367,[nmC])::a22
def a25:=kA 367 nmC a23 (cQ nmC 0) (∀(a:BitVec 8)(b:List BL)(e:Int)(c:List Tm)(d:KV)Q,let z:=jV (a,b,()) c d;bg nmC (a,b,e,c,d,()) Q->P5 (a,b,()) c/\eB (a,b,())/\Q ⟨0,e,z.2.2,z.2.1,jH (a,b,()) z.1,()⟩) (by
 conv=>zeta
 unfold bg;intro k c d e m Q ⟨a,b⟩;exact⟨⟨a.1.1,a.2⟩,a.1,b⟩)
def cM(t:Tm)(ts:List Tm)(m:KV):BL×List Tm×KV:=if(t.2.1.getD 0 []).length=32 then dI t ts m else([],ts,m)
def Ut:Ct:=⟨3,⟨[sP 0,sU 1,(2,false,[.d (.sl tB)])],nB⟩,[⟨[sO 0 4],D7++[cB]⟩],λ(k,a,d,b,m,_)=>one (qN (k,a,()) b/\1<=a.length) (d,(cM (k,a,()) b m).2.2,(cM (k,a,()) b m).2.1,(cM (k,a,()) b m).1,())⟩
abbrev Uu(v:Int×KV×List Tm×BL×Unit):cF Ut.out:=⟨0,v⟩
def a26:bG:=(366,[Ut])::a24
def Uv:=kA 366 Ut a25 (cQ Ut 0) (∀(c:BitVec 8)(a:List BL)(e:Int)(b:List Tm)(d:KV)Q,let f:=Uu (e,d,b,[],());let g:= !(nI (a.getD 0 []))==32;let z:=jV (c,a,()) b d;bg Ut (c,a,e,b,d,()) Q->True/\Br (!true) (Q f) (((0:Int)<=0/\0<nI a)/\Br g (Q f) (qN (c,a,()) b/\Q ⟨0,e,z.2.2,z.2.1,jH (c,a,()) z.1,()⟩))) (by
 conv=>zeta
 unfold Br nI bg;intro k i d j m Q ⟨⟨l,n⟩,a⟩;have b:∀c f g,cM (k,i,()) j m=(c,f,g)->Q ⟨0,(d,g,f,c,())⟩:=λc f g e=>by rw[e]at a;exact a
 clear a;unfold cM at b;refine⟨trivial,λh=>by simp at h,λ_=>⟨ac,λh=>b _ _ _ (ae ?_),λh=>⟨l,b _ _ _ (ak ?_)⟩⟩⟩
 ·intro e;simp at h;simp[aw]at e;omega
 ·simp at h;simp[aw];omega)
theorem ir{k:BitVec 8}{ps:List BL}(h:mR ps<=8589934592\/k≠112/\mR ps<=1099511627776)(a:4<=ps.length\/k≠98/\(2<=ps.length\/k≠103/\1<=ps.length)):eB (k,ps,()):=by
 refine⟨by simp only;omega,λe=>?_,λe=>?_,λe=>?_,λe=>?_⟩<;>(simp only at e⊢;rcases a with a|⟨b,a|⟨c,a⟩⟩<;>first|omega|exact absurd e b|exact absurd e c|(rcases h with h|⟨h,_⟩<;>first|omega|exact absurd e h))
theorem Uw(a:BL):mR [a]=a.length+8:=by simp[mR]
theorem KD(a b:BL):mR [a,b]=a.length+b.length+16:=by simp[mR];omega
theorem sz4(a b c d:BL):mR [a,b,c,d]=a.length+b.length+c.length+d.length+32:=by simp[mR];omega
def Tv:Ct:=⟨1,⟨[sP 0],nB⟩,[⟨[sO 0 4],D7++[cB]⟩],λ(d,a,m,_)=>one (a.length<=4294967296/\0<=d/\d<=4294967296) (d+1,(dI (115,[dB (d+1)],()) a m).2.2,(dI (115,[dB (d+1)],()) a m).2.1,(dI (115,[dB (d+1)],()) a m).1,())⟩
abbrev Ux(v:Int×KV×List Tm×BL×Unit):cF Tv.out:=⟨0,v⟩
theorem NK:bW Tryz.prog 356 Tv:=kC Uv (cQ Tv 0) (∀(a:Int)(b:List Tm)(c:KV)(Q:cF Tv.out->Prop),let z:=jV (ag 8 115,[dB (a+1)],()) b c;let e:=Ux (a+1,z.2.2,z.2.1,jH (ag 8 115,[dB (a+1)],()) z.1,());(Tr.need (b.length<=4294967296/\0<=a/\a<=4294967296) (Tr.leaf e)).sat Q->True/\Br (!true) (Q ⟨0,a,c,b,[],()⟩) (am (a+1)/\True/\qN (ag 8 115,[dB (a+1)],()) b/\Q e)) (by
 conv=>zeta
 unfold Br;intro d c m Q ⟨⟨a,e,f⟩,b⟩;refine⟨trivial,λh=>by simp at h,λ_=>⟨cv,trivial,⟨ir (.inl (by rw[Uw,eK];omega)) (.inr ⟨bt, .inr ⟨bt,aE _⟩⟩),a⟩,b⟩⟩)
def a27:bG:=(356,[Tv])::a26
def Uy:=kB 356 [Tv] Uv (bL NK)
abbrev aB(b:BL):Prop:=b.length<=4294967296
variable{b x:BL}
theorem hK(h:aB x:=by unfold aB;omega):aB x:=h
def Uz:Ct:=⟨2,⟨[sP 0,sB 1],nB⟩,[⟨[sO 0 4],D7++[cB]⟩],λ(b,d,a,m,_)=>one (aB b/\a.length<=4294967296) (d,(dI (104,[b],()) a m).2.2,(dI (104,[b],()) a m).2.1,(dI (104,[b],()) a m).1,())⟩
theorem NL:bW Tryz.prog 357 Uz:=kC Uy (cQ Uz 0) (∀(a:BL)(d:Int)(b:List Tm)(c:KV)Q,let z:=jV (ag 8 104,[a],()) b c;bg Uz (a,d,b,c,()) Q->True/\Br (!true) (Q ⟨0,d,c,b,[],()⟩) (qN (ag 8 104,[a],()) b/\Q ⟨0,d,z.2.2,z.2.1,jH (ag 8 104,[a],()) z.1,()⟩)) (by
 conv=>zeta
 unfold Br bg;intro b d e m Q ⟨⟨f,a⟩,c⟩;exact⟨trivial,λh=>by simp at h,λ_=>⟨⟨ir (.inl (by rw[Uw];omega)) (.inr ⟨bt, .inr ⟨bt,aE _⟩⟩),a⟩,c⟩⟩)
def a28:bG:=(357,[Uz])::a27
def UA:=kB 357 [Uz] Uy (bL NL)
def UB:Ct:=⟨2,⟨[sP 0,sB 1],nB⟩,[⟨[sO 0 4],D7++[cB]⟩],λ(b,d,a,m,_)=>one (aB b/\a.length<=4294967296) (d,(cM (112,[b],()) a m).2.2,(cM (112,[b],()) a m).2.1,(cM (112,[b],()) a m).1,())⟩
theorem NM:bW Tryz.prog 360 UB:=kC UA (cQ UB 0) (∀(a:BL)(d:Int)(b:List Tm)(c:KV)Q,let z:=cM (ag 8 112,[a],()) b c;bg UB (a,d,b,c,()) Q->(qN (ag 8 112,[a],()) b/\1<=[a].length)/\Q ⟨0,d,z.2.2,z.2.1,z.1,()⟩) (by
 conv=>zeta
 unfold bg;intro b d e m Q ⟨⟨f,a⟩,c⟩;exact⟨⟨⟨ir (.inl (by rw[Uw];omega)) (.inr ⟨bt, .inr ⟨bt,aE _⟩⟩),a⟩,aE _⟩,c⟩)
def a29:bG:=(360,[UB])::a28
def UC:=kB 360 [UB] UA (bL NM)
def UD:Ct:=⟨2,⟨[sP 0,sB 1],nB⟩,[⟨[sO 0 4],D7++[cB]⟩],λ(b,d,a,m,_)=>one (aB b/\a.length<=4294967296) (d,(cM (118,[b],()) a m).2.2,(cM (118,[b],()) a m).2.1,(cM (118,[b],()) a m).1,())⟩
theorem NN:bW Tryz.prog 364 UD:=kC UC (cQ UD 0) (∀(a:BL)(d:Int)(b:List Tm)(c:KV)Q,let z:=cM (ag 8 118,[a],()) b c;bg UD (a,d,b,c,()) Q->(qN (ag 8 118,[a],()) b/\1<=[a].length)/\Q ⟨0,d,z.2.2,z.2.1,z.1,()⟩) (by
 conv=>zeta
 unfold bg;intro b d e m Q ⟨⟨f,a⟩,c⟩;exact⟨⟨⟨ir (.inl (by rw[Uw];omega)) (.inr ⟨bt, .inr ⟨bt,aE _⟩⟩),a⟩,aE _⟩,c⟩)
def a3a:bG:=(364,[UD])::a29
def UE:=kB 364 [UD] UC (bL NN)
def UF:Ct:=⟨3,⟨[sP 0,sB 1,sB 2],nB⟩,[⟨[sO 0 4],D7++[cB]⟩],λ(b,c,d,a,m,_)=>one (aB b/\aB c/\a.length<=4294967296) (d,(cM (107,[b,c],()) a m).2.2,(cM (107,[b,c],()) a m).2.1,(cM (107,[b,c],()) a m).1,())⟩
theorem NO:bW Tryz.prog 355 UF:=kC UE (cQ UF 0) (∀(a b:BL)(e:Int)(c:List Tm)(d:KV)Q,let z:=cM (ag 8 107,[a,b],()) c d;bg UF (a,b,e,c,d,()) Q->(qN (ag 8 107,[a,b],()) c/\1<=[a,b].length)/\Q ⟨0,e,z.2.2,z.2.1,z.1,()⟩) (by
 conv=>zeta
 unfold bg;intro b c d f m Q ⟨⟨g,h,a⟩,e⟩;exact⟨⟨⟨ir (.inr ⟨bt,by rw[KD];omega⟩) (.inr ⟨bt, .inl (aE _)⟩),a⟩,bY⟩,e⟩)
def a3b:bG:=(355,[UF])::a3a
def UG:=kB 355 [UF] UE (bL NO)
def UH:Ct:=⟨3,⟨[sP 0,sB 1,sB 2],nB⟩,[⟨[sO 0 4],D7++[cB]⟩],λ(b,c,d,a,m,_)=>one (aB b/\aB c/\a.length<=4294967296) (d,(cM (103,[b,c],()) a m).2.2,(cM (103,[b,c],()) a m).2.1,(cM (103,[b,c],()) a m).1,())⟩
theorem NP:bW Tryz.prog 363 UH:=kC UG (cQ UH 0) (∀(a b:BL)(e:Int)(c:List Tm)(d:KV)Q,let z:=cM (ag 8 103,[a,b],()) c d;bg UH (a,b,e,c,d,()) Q->(qN (ag 8 103,[a,b],()) c/\1<=[a,b].length)/\Q ⟨0,e,z.2.2,z.2.1,z.1,()⟩) (by
 conv=>zeta
 unfold bg;intro b c d f m Q ⟨⟨g,h,a⟩,e⟩;exact⟨⟨⟨ir (.inr ⟨bt,by rw[KD];omega⟩) (.inr ⟨bt, .inl (aE _)⟩),a⟩,bY⟩,e⟩)
def a3c:bG:=(363,[UH])::a3b
def UI:=kB 363 [UH] UG (bL NP)
def jp(k:BL)(n:Int)(o x:BL)(ts:List Tm)(m:KV):BL×List Tm×KV:=if n<0 then([],ts,m)else cM (98,[k,dB n,o,x],()) ts m
def UJ:Ct:=⟨5,⟨[sP 0,sB 1,sI 2,sB 3,sB 4],nB⟩,[⟨[sO 0 4],D7++[cB]⟩],λ(k,n,o,x,d,a,m,_)=>one (aB k/\aB o/\aB x/\a.length<=4294967296) (d,(jp k n o x a m).2.2,(jp k n o x a m).2.1,(jp k n o x a m).1,())⟩
theorem NQ:bW Tryz.prog 361 UJ:=kC UI (cQ UJ 0) (∀(b:BL)(a:Int)(c d:BL)(g:Int)(e:List Tm)(f:KV)Q,let z:=cM (ag 8 98,[b,dB a,c,d],()) e f;bg UJ (b,a,c,d,g,e,f,()) Q->Bd (a<0) (Q ⟨0,g,f,e,[],()⟩) (True/\(qN (ag 8 98,[b,dB a,c,d],()) e/\1<=[b,dB a,c,d].length)/\Q ⟨0,g,z.2.2,z.2.1,z.1,()⟩)) (by
 conv=>zeta
 unfold Bd bg;intro k n o x d i m Q ⟨⟨l,p,q,j⟩,a⟩;have b:∀c f g,jp k n o x i m=(c,f,g)->Q ⟨0,(d,g,f,c,())⟩:=λc f g e=>by rw[e]at a;exact a
 clear a;unfold jp at b;refine⟨λh=>b _ _ _ (ak (cf h)),λh=>⟨trivial,⟨⟨ir (.inr ⟨bt,by rw[sz4,eK];omega⟩) (.inl (aE _)),j⟩,bY⟩,b _ _ _ (ae (cf h))⟩⟩)
def a3d:bG:=(361,[UJ])::a3c
def a3e:=kB 361 [UJ] UI (bL NQ)
def ws(k b s:BL)(ts:List Tm):Bool:=(fi s 103 ts).2&&(fi k 118 ts).2&&(((fi s 103 ts).1.2.1.getD 0 []==(fi k 118 ts).1.2.1.getD 0 [])&&((fi s 103 ts).1.2.1.getD 1 []==b))
def UK:Ct:=⟨4,⟨[sP 0,sB 1,sB 2,sB 3],nB⟩,[⟨[sL 0],nB⟩],λ(k,b,s,d,a,m,_)=>one (aB k/\aB b/\aB s/\fX a) (ws k b s a,d,a,m,())⟩
abbrev UL(v:Bool×Int×List Tm×KV×Unit):cF UK.out:=⟨0,v⟩
def a3f:bG:=(365,[UK])::a3d
def UM:=kA 365 UK a3e (cQ UK 0) (∀(b f c:BL)(d:Int)(a:List Tm)(e:KV)Q,let i:=UL (false,d,a,e,());let h:=fi c (ag 8 103) a;let g:=fi b (ag 8 118) a;let z:=bF h.1.2.1 0 []==bF g.1.2.1 0 [];bg UK (b,f,c,d,a,e,()) Q->True/\Br (!true) (Q i) ((c.length<=1099511627776/\fX a)/\(b.length<=1099511627776/\fX a)/\Br (h.2) (h.2=true/\Br (g.2) (g.2=true/\g.2=true/\((0:Int)<=0/\0<(↑(ah h.1.2.1):Int))/\g.2=true/\g.2=true/\g.2=true/\g.2=true/\((0:Int)<=0/\0<(↑(ah g.1.2.1):Int))/\g.2=true/\g.2=true/\True/\g.2=true/\Br z (z=true/\z=true/\((0:Int)<=1/\1<(↑(ah h.1.2.1):Int))/\z=true/\z=true/\z=true/\True/\z=true/\Q ⟨0,bF h.1.2.1 1 []==f,d,a,e,()⟩) (z=false/\z=false/\z=false/\z=false/\z=false/\z=false/\Q i)) (g.2=false/\g.2=false/\g.2=false/\g.2=false/\g.2=false/\g.2=false/\g.2=false/\g.2=false/\g.2=false/\Q i)) (h.2=false/\Q i))) (by
 clear b x
 conv=>zeta
 unfold Br bg;intro k b s d a m Q ⟨⟨o,p,q,c⟩,f⟩;have g:∀y,ws k b s a=y->Q ⟨0,(y,d,a,m,())⟩:=λy e=>by rw[e]at f;exact f
 clear f;have i:=tj (b:=s) (k:=103) c;have j:=tj (b:=k) (k:=118) c;unfold ws at g;have l:fi s (ag 8 103) a=fi s 103 a:=rfl;have n:fi k (ag 8 118) a=fi k 118 a:=rfl;rw[l,n];generalize fi s 103 a=X at*;generalize fi k 118 a=Y at*;have r:X.2=true->2<=X.1.2.1.length:=λh=>(i h).1.2.2.1 (i h).2;have t:Y.2=true->1<=Y.1.2.1.length:=λh=>(j h).1.2.2.2.1 (j h).2;clear i j;refine⟨trivial,λh=>by simp at h,λ_=>⟨⟨ac,c⟩,⟨ac,c⟩,?_⟩⟩;clear o p q c l n
 (repeat' (first|apply ck|intro _))<;>(try simp only[ai,aj,aS,aC,ne_eq,aR,aN,cm,bR]at*)<;>first
  |assumption
  |(exact g _ (by clear g;grind))
  |omega
  |(have:=r (by assumption);omega)
  |(have:=t (by assumption);omega))
def ov(k:BL)(n:Int)(o x:BL)(ts:List Tm):BL×Int:=
 if k.length≠32\/n<0 then([],1)
 else if(fi x 98 ts).2/\(fi x 98 ts).1.2.1.getD 0 []=k/\(fi x 98 ts).1.2.1.getD 1 []=dB n/\(fi x 98 ts).1.2.1.getD 2 []=o then((fi x 98 ts).1.2.1.getD 3 [],0)else([],9)
def Tw:Ct:=⟨5,⟨[sP 0,sB 1,sI 2,sB 3,sB 4],nB⟩,[⟨[sO 0 3,sI 1],nB++[cB]⟩],λ(k,n,o,x,d,a,m,_)=>one (aB k/\aB o/\aB x/\fX a) ((ov k n o x a).2,d,a,m,(ov k n o x a).1,())⟩
abbrev NR(v:Int×Int×List Tm×KV×BL×Unit):cF Tw.out:=⟨0,v⟩
theorem NS:bW Tryz.prog 359 Tw:=kC UM (cQ Tw 0) (∀(c:BL)(d:Int)(g b:BL)(e:Int)(a:List Tm)(f:KV)Q,let m:=NR (1,e,a,f,[],());let j:=NR (9,e,a,f,[],());let z:=fi b (ag 8 98) a;let n:= !bF z.1.2.1 2 []==g;let l:=ah z.1.2.1;let h:= !bF z.1.2.1 0 []==c;let i:= !bF z.1.2.1 1 []==dB d;bg Tw (c,d,g,b,e,a,f,()) Q->True/\Br (!true) (Q m) (Br (!(nI c)==32) (Q m) (Bd (d<0) (Q m) ((b.length<=1099511627776/\fX a)/\Br (!z.2) ((!z.2)=true/\(!z.2)=true/\(!z.2)=true/\(!z.2)=true/\(!z.2)=true/\(!z.2)=true/\(!z.2)=true/\Q j) ((!z.2)=false/\(!z.2)=false/\((0:Int)<=0/\0<(↑l:Int))/\(!z.2)=false/\(!z.2)=false/\(!z.2)=false/\True/\(!z.2)=false/\(!z.2)=false/\Br h (h=true/\h=true/\h=true/\h=true/\h=true/\h=true/\h=true/\h=true/\Q j) (h=false/\h=false/\((0:Int)<=1/\1<(↑l:Int))/\h=false/\h=false/\h=false/\True/\h=false/\True/\h=false/\h=false/\Br i (i=true/\i=true/\i=true/\i=true/\i=true/\i=true/\i=true/\Q j) (i=false/\i=false/\((0:Int)<=2/\2<(↑l:Int))/\i=false/\i=false/\i=false/\True/\i=false/\i=false/\Br n (Q j) (((0:Int)<=3/\3<(↑l:Int))/\(0+(bF z.1.2.1 3 []).length)*1<=mM/\Q ⟨0,0,e,a,f,bF z.1.2.1 3 [],()⟩)))))))) (by
 conv=>zeta
 unfold Bd Br mM nI bg;intro k n o x d g m Q ⟨⟨t,u,v,j⟩,l⟩;have f:∀p q,ov k n o x g=(p,q)->Q ⟨0,(q,d,g,m,p,())⟩:=λp q e=>by rw[e]at l;exact l
 clear l;have i:=tj (b:=x) (k:=98) j;unfold ov at f;have r:fi x (ag 8 98) g=fi x 98 g:=rfl;rw[r];generalize fi x 98 g=X at*;have w:X.2=true->4<=X.1.2.1.length:=λh=>(i h).1.2.1 (i h).2;have y:X.2=true->mR X.1.2.1<=1099511627776:=λh=>(i h).1.1;have z:=iA X.1.2.1 3;clear i;refine⟨trivial,λh=>by simp at h,λ_=>⟨λa=>f _ _ (ak ?_),λa=>⟨λc=>f _ _ (ak ?_),λc=>?_⟩⟩⟩
 ·left;intro e;simp[e]at a
 ·right;simpa using c
 ·have s:¬(k.length≠32\/n<0):=by
   simp at a c;omega
  rw[ae s]at f;refine⟨⟨ac,j⟩,?_⟩;clear t u v j r a c s
  (repeat' (first|apply ck|intro _))<;>(try simp only[ai,aj,aS,aC,ne_eq,aR,aN,cm,bR]at*)<;>first
   |assumption
   |(exact f _ _ (by clear f;grind))
   |omega
   |(have:=w (by assumption);omega)
   |(have:=y (by assumption);omega))
def a3g:bG:=(359,[Tw])::a3f
def a3h:=kB 359 [Tw] UM (bL NS)
def niC:Ct:=⟨0,⟨[],[]⟩,[⟨[sP 0],[some (.cells [.own 1, .mp 2, .d .i64]),some (.sl D6),some (.mp .st .i64)]⟩],λ_=>one True (0,[],[],())⟩
def a3i:bG:=(32,[niC])::a3g
def a3j:=kA 32 niC a3h (cQ niC 0) (∀Q,bg niC () Q->Q ⟨0,0,[],[],()⟩) (by
 unfold bg;intro Q ⟨_,a⟩;exact a)
def cmC:Ct:=⟨2,⟨[sB 0,sB 1],[]⟩,[⟨[sI 0],[]⟩],λ(a,b,_)=>one True (lS a b,())⟩
def a3k:bG:=(369,[cmC])::a3i
def UN:=kA 369 cmC a3j (cQ cmC 0) (∀(a b:BL)Q,bg cmC (a,b,()) Q->Q ⟨0,Extern.BytealgCompare.cmp (bM a) (bM b),()⟩) (by
 unfold bg;intro a b Q ⟨_,c⟩;exact c)
def jq(s p:BL)(ts:List Tm)(m:KV):(BL×List Tm×KV)×Int:=
 if s.length≠32 then(([],ts,m),1)else if(fi p 112 ts).2=false then(([],ts,m),8)
 else(dI (100,(if 0<lS s ((fi p 112 ts).1.2.1.getD 0 [])then[(fi p 112 ts).1.2.1.getD 0 [],s]else[s,(fi p 112 ts).1.2.1.getD 0 []]),()) ts m,0)
def Tx:Ct:=⟨3,⟨[sP 0,sB 1,sB 2],nB⟩,[⟨[sO 0 4,sI 1],D7++[cB]⟩],λ(s,p,d,a,m,_)=>one (aB s/\aB p/\fX a) ((jq s p a m).2,d,(jq s p a m).1.2.2,(jq s p a m).1.2.1,(jq s p a m).1.1,())⟩
abbrev UO(v:Int×Int×KV×List Tm×BL×Unit):cF Tx.out:=⟨0,v⟩
theorem NT:bW Tryz.prog 362 Tx:=kC UN (cQ Tx 0) (∀(c b:BL)(e:Int)(a:List Tm)(d:KV)Q,let h:=UO (1,e,d,a,[],());let z:=fi b (ag 8 112) a;let i:=0<Extern.BytealgCompare.cmp (bM c) (bM (bF z.1.2.1 0 []));let f:=jV (ag 8 100,[c,bF z.1.2.1 0 []],()) a d;let g:=jV (ag 8 100,[bF z.1.2.1 0 [],c],()) a d;bg Tx (c,b,e,a,d,()) Q->True/\Br (!true) (Q h) (Br (!(nI c)==32) (Q h) ((b.length<=1099511627776/\fX a)/\Br (!z.2) (Q ⟨0,8,e,d,a,[],()⟩) (((0:Int)<=0/\0<(↑(ah z.1.2.1):Int))/\True/\Br (decide i) (qN (ag 8 100,[bF z.1.2.1 0 [],c],()) a/\Q ⟨0,0,e,g.2.2,g.2.1,jH (ag 8 100,[bF z.1.2.1 0 [],c],()) g.1,()⟩) (qN (ag 8 100,[c,bF z.1.2.1 0 []],()) a/\Q ⟨0,0,e,f.2.2,f.2.1,jH (ag 8 100,[c,bF z.1.2.1 0 []],()) f.1,()⟩))))) (by
 conv=>zeta
 unfold Br nI bg;intro s p d i m Q ⟨⟨C,D,j⟩,l⟩;have f:∀n o q t,jq s p i m=((n,o,q),t)->Q ⟨0,(t,d,q,o,n,())⟩:=λn o q t e=>by rw[e]at l;exact l
 clear l;have g:=tj (b:=p) (k:=112) j;unfold jq at f;have w:fi p (ag 8 112) i=fi p 112 i:=rfl;rw[w];generalize fi p 112 i=X at*;have x:X.2=true->1<=X.1.2.1.length:=λh=>((g h).1.2.2.2.2 (g h).2).1;have y:X.2=true->mR X.1.2.1<=8589934592:=λh=>((g h).1.2.2.2.2 (g h).2).2;have E:=iA X.1.2.1 0;clear g;refine⟨trivial,λh=>by simp at h,λ_=>⟨λa=>f _ _ _ _ (ak ?_),λa=>?_⟩⟩
 ·intro e;simp[e]at a
 ·have z:¬(s.length≠32):=by simp at a;omega
  rw[ae z]at f;refine⟨⟨ac,j⟩,λb=>f _ _ _ _ (ak (cf b)),λb=>?_⟩;have u:X.2=true:=cf b
  have v:=x u;have A:=y u;rw[ae (by simp[u])]at f
  have F:(X.1.2.1.getD 0 []).length+8<=mR X.1.2.1:=by
   cases B:X.1.2.1 with
   |nil=>rw[B]at v;simp at v
   |cons a r=>simp[mR]
  refine⟨ac,trivial,λc=>⟨⟨ir (.inr ⟨bt,?_⟩) (.inr ⟨bt, .inl (aE _)⟩),j.1⟩,f _ _ _ _ ?_⟩,λc=>⟨⟨ir (.inr ⟨bt,?_⟩) (.inr ⟨bt, .inl (aE _)⟩),j.1⟩,f _ _ _ _ ?_⟩⟩
  ·rw[KD];omega
  ·rw[ak (show 0<lS s _ from af c)];rfl
  ·rw[KD];omega
  ·rw[ae (show¬0<lS s _ from ap c)];rfl)
def a3l:bG:=(362,[Tx])::a3k
def a3m:=kB 362 [Tx] UN (bL NT)
def hV(ts:List Tm):List Tm×KV:=ts.foldl (λa t=>(jV t a.1 a.2).2) ([],[])
variable{e j k n r:Nat}
theorem wu{ts:List Tm}(h:k<ts.length):hV (ts.take (k+1))=(jV (ts.getD k E5) (hV (ts.take k)).1 (hV (ts.take k)).2).2:=by
 have:ts.take (k+1)=ts.take k++[ts.getD k E5]:=by
  rw[dR,an h];simp[bF,an h]
 rw[hV,this,List.foldl_append];rfl
theorem F4(t:Tm)(ts:List Tm)(m:KV):(jV t ts m).2.1.length<=ts.length+1:=by
 unfold jV;split<;>simp
theorem AG(ts:List Tm):∀k,k<=ts.length->(hV (ts.take k)).1.length<=k
 |0,_=>by simp[hV]
 |k+1,h=>by rw[wu ac];have:=AG ts k ac;have:=F4 (ts.getD k E5) (hV (ts.take k)).1 (hV (ts.take k)).2;omega
def caH:List (Option CP):=nB++[some (.cells [.own 4, .mp 5, .d .i64]),some (.sl D6),some (.mp .st .i64)]
def caC:Ct:=⟨1,⟨[sP 0],nB⟩,[⟨[(0,false,[.ptr 3 0])],caH⟩],λ(d,a,m,_)=>one (fX a) (d,a,m,d,(hV a).1,(hV a).2,())⟩
def caP:cx:=⟨[sP 0,(3,false,[.ptr 3 0]),(21,false,[.own 1]),sI 22,sI 23],caH⟩
def caI(d:Int)(ts:List Tm)(m:KV)(y:caP.den):Prop:=match y with
 |(n,i,e,c,f,g,a,b,_)=>n=ts.length/\e=d/\c=ts/\f=m/\g=d/\∃k:Nat,i=k/\k<=ts.length/\a=(hV (ts.take k)).1/\b=(hV (ts.take k)).2
def caA(x:caC.inp.den):eH:=⟨[(6,bS caP (caI x.1 x.2.1 x.2.2.1) λ(n,i,_)=>(n-i).toNat)],[],[],[],0⟩
def a3n:bG:=(34,[caC])::a3l
def a3o:=kA 34 caC a3m caA (∀(c:Int)(d:List Tm)(f:KV)Q,bg caC (c,d,f,()) Q->True/\Br (!true) False (True/\Is (caI c d f (nI d,0,c,d,f,c,[],[],()))/\∀(e a i:Int)(b:List Tm)(j:KV)(k:Int)(g:List Tm)(h:KV),let z:=gD b a (ag 8 0,[],());let l:=(z.1,z.2.1,());caI c d f (e,a,i,b,j,k,g,h,())->Bd (a<e) (iN a b/\P5 l g/\am (a+1)/\Is (caI c d f (e,a+1,i,b,j,k,(jV l g h).2.1,(jV l g h).2.2,())/\lN (e-(a+1)) (e-a))) (Q ⟨0,i,b,j,k,g,h,()⟩))) (by
 conv=>zeta
 unfold Bd Br gD iN lN nI bg;intro d j m Q ⟨⟨r,l⟩,g⟩;have o:∀a b,(hV j)=(a,b)->Q ⟨0,(d,j,m,d,a,b,())⟩:=λa b e=>by rw[e]at g;exact g
 clear g;refine⟨trivial,λh=>by simp at h,λ_=>⟨trivial,⟨⟨rfl,rfl,rfl,rfl,rfl,0,rfl,aq _,rfl,rfl⟩⟩,?_⟩⟩;rintro n i s c t u a b ⟨rfl,rfl,rfl,rfl,rfl,k,rfl,p,rfl,rfl⟩;have v:=AG c k p;refine⟨λh=>?_,λh=>o _ _ ?_⟩
 ·simp only[ai]at h;have f:k<c.length:=ac
  have q:eB (c.getD k E5):=l _ (by rw[aw,an f];exact ls _);have e:=wu f;simp only[aG];refine⟨ac,⟨q.1,ac⟩,cv,⟨⟨rfl,rfl,rfl,rfl,rfl,k+1,rfl,ac,?_,?_⟩,ac⟩⟩
  ·rw[e];rfl
  ·rw[e];rfl
 ·simp only[aj]at h;have:k=c.length:=ac
  rw[this,bv])
def eY(n:Int):Int×Int:=if n<0 then(0,1)else if n<64 then(64,0)else if n<128 then(128,0)else if n<256 then(256,0)else if n<512 then(512,0)else if n<1024 then(1024,0)else if n<2048 then(2048,0)else if n<4096 then(4096,0)else(0,2)
def bkC:Ct:=⟨1,⟨[sI 0],[]⟩,[⟨[sI 0,sI 1],[]⟩],λ(n,_)=>one True ((eY n).1,(eY n).2,())⟩
def a3p:bG:=(100,[bkC])::a3n
def a3q:=kA 100 bkC a3o (cQ bkC 8) (∀(a:Int)Q,bg bkC (a,()) Q->Bd (a<0) (Q ⟨0,0,1,()⟩) (Bd (a<64) (Q ⟨0,64,0,()⟩) (Bd (a<128) (Q ⟨0,128,0,()⟩) (Bd (a<256) (Q ⟨0,256,0,()⟩) (Bd (a<512) (Q ⟨0,512,0,()⟩) (Bd (a<1024) (Q ⟨0,1024,0,()⟩) (Bd (a<2048) (Q ⟨0,2048,0,()⟩) (Bd (a<4096) (Q ⟨0,4096,0,()⟩) (Q ⟨0,0,2,()⟩))))))))) (by
 clear b e j k n r x
 unfold Bd bg;intro n Q ⟨_,a⟩;have f:∀b c,eY n=(b,c)->Q ⟨0,(b,c,())⟩:=λb c e=>by rw[e]at a;exact a
 clear a
 (repeat' (first|apply ck|intro _))<;>(try simp only[ai,aj,aS,aC,ne_eq,aR,aN,cm,bR]at*)<;>first
  |assumption
  |(exact f _ _ (by clear f;grind[eY]))
  |omega)
theorem vm(n:Int):(eY n).2=0->0<=n/\n<(eY n).1/\64<=(eY n).1/\(eY n).1<=4096:=by
 unfold eY
 (repeat' split)<;>simp<;>omega
def fY(b:BL):BL×Int:=if(eY b.length).2=0 then(b++128::ax ((eY b.length).1.toNat-b.length-1) 0,0)else([],(eY b.length).2)
def paC:Ct:=⟨1,⟨[sB 0],[]⟩,[⟨[sO 0 0,sI 1],[cB]⟩],λ(b,_)=>one True ((fY b).2,(fY b).1,())⟩
def a3r:bG:=(129,[paC])::a3p
def a3s:=kA 129 paC a3q (cQ paC 0) (∀(a:BL)Q,let z:=dU (ax (eY (nI a)).1.toNat (ag 8 0)) a;bg paC (a,()) Q->True/\Br (!(eY (nI a)).2==0) (Q ⟨0,(eY (nI a)).2,[],()⟩) ((0<=(eY (nI a)).1/\(eY (nI a)).1=(eY (nI a)).1/\(eY (nI a)).1*(1:Int)<=281474976710656)/\(0<=nI a/\nI a<(↑z.length:Int))/\Q ⟨0,0,z.set (nI a).toNat (ag 8 128),()⟩)) (by
 conv=>zeta
 unfold Br nI bg;intro b Q ⟨_,c⟩;have a:∀f g,fY b=(f,g)->Q ⟨0,(g,f,())⟩:=λf g e=>by rw[e]at c;exact c
 clear c;have j:=vm b.length;unfold fY at a;refine⟨trivial,λh=>a _ _ (ae (cf h)),λh=>?_⟩;have i:(eY b.length).2=0:=cf h
 obtain⟨n,o,p,q⟩:=j i;rw[ak i]at a
 have l:(dU (ax (eY b.length).1.toNat (ag 8 0)) b).length=(eY b.length).1.toNat:=by
  simp[dU];omega
 refine⟨⟨ac,rfl,ac⟩,⟨ac,by rw[l];omega⟩,a _ _ ?_⟩;have m:(eY b.length).1.toNat=b.length+(1+((eY b.length).1.toNat-b.length-1)):=ac
 generalize(eY b.length).1.toNat-b.length-1=k at*;rw[m,aG];simp only[dU,List.length_replicate,fh,Prod.mk.injEq,and_true];simp[bb,fq 1,List.replicate_succ])
def NU(b:BL):BL:=b.reverse.dropWhile (·==0)
def AH(b:BL):BL×Int:=match NU b with
 |[]=>([],11)
 |c::r=>if c=128 then(if(eY r.length).2=0/\(eY r.length).1=b.length then(r.reverse,0)else([],11))else([],11)
def upC:Ct:=⟨1,⟨[sB 0],[]⟩,[⟨[sO 0 0,sI 1],[cB]⟩],λ(b,_)=>one (b.length<=1099511627776) ((AH b).2,(AH b).1,())⟩
def upP:cx:=⟨[sB 0,sI 4],[]⟩
def upI(b a:BL)(i:Int):Prop:=a=b/\∃e:Nat,i=e-1/\e<=b.length/\NU (b.take e)=NU b
def upA(x:upC.inp.den):eH:=⟨[(2,bS upP (λy=>upI x.1 y.1 y.2.1) λy=>(y.2.1+1).toNat)],[],[],[],0⟩
theorem F5(h:e<b.length):NU (b.take (e+1))=if b.getD e 0=0 then NU (b.take e)else b.getD e 0::(b.take e).reverse:=by
 have:b.take (e+1)=b.take e++[b.getD e 0]:=by
  rw[dR,an h];simp[bF,an h]
 rw[NU,this,List.reverse_append];simp only[List.reverse_singleton,List.singleton_append,List.dropWhile_cons,aS];rfl
def a3t:bG:=(89,[upC])::a3r
def a3u:=kA 89 upC a3s upA (∀(c:BL)Q,bg upC (c,()) Q->am (nI c-1)/\Is (upI c c (nI c-1))/\∀(b:BL)(a:Int),let e:=gD b a (ag 8 0)==ag 8 0;let f:=gD b a (ag 8 0)==ag 8 128;let z:=True/\Br (!(eY a).2==0) (Q ⟨0,11,[],()⟩) (Br (!(eY a).1==nI b) (Q ⟨0,11,[],()⟩) (((0:Int)<=0/\0<=a/\a<=nI b)/\(0+(de a.toNat b).length)*1<=mM/\Q ⟨0,0,de a.toNat b,()⟩));upI c b a->Bd (0<=a) (iN a b/\Br e (am (a-1)/\Is (upI c b (a-1)/\lN (a-1+1) (a+1))) (Br f z (Q ⟨0,11,[],()⟩))) z) (by
 conv=>zeta
 unfold Bd Br gD iN lN mM nI bg;intro b Q ⟨s,g⟩;have a:∀j l,AH b=(j,l)->Q ⟨0,(l,j,())⟩:=λj l e=>by rw[e]at g;exact g
 clear g;refine⟨cv,⟨⟨rfl,b.length,rfl,aE _,by rw[bv]⟩⟩,?_⟩;rintro o i ⟨rfl,e,rfl,t,f⟩;unfold AH at a;rw[<-f]at a;have p:eY (-1)=(0,1):=rfl;cases e with
 |zero=>
  refine⟨λh=>absurd (af h) ac,λ_=>⟨trivial,λ_=>a _ _ rfl,λh=>?_⟩⟩;exact absurd h bt
 |succ e=>
  have q:((e+1:Nat):Int)-1=(e:Int):=ac
  rw[q,aG];rw[F5 ac]at a f;refine⟨λ_=>⟨ac,λh=>⟨cv,⟨⟨rfl,e,rfl,ac,?_⟩,ac⟩⟩,λh=>?_⟩,λh=>absurd (ap h) ac⟩
  ·rw[ak (cf h)]at f;exact f
  ·have r:¬(o.getD e 0=0):=cf h
   rw[ae r]at a;simp only[List.length_reverse,bd,List.reverse_reverse,fh (show e<=o.length by omega)]at a;refine⟨λc=>⟨trivial,?_,λm=>⟨?_,λn=>⟨ac,eM,?_⟩⟩⟩,λc=>a _ _ (ae (cf c))⟩
   ·intro m;refine a _ _ ?_;rw[ak (cf c),ae];intro e;simp[e.1]at m
   ·intro n;refine a _ _ ?_;rw[ak (cf c),ae];intro e;simp[e.2]at n
   ·refine a _ _ ?_;rw[ak (cf c),ak ⟨cf m,cf n⟩])
abbrev Cn:Ty:= .pr .i64 (.pr .i64 (.pr .i64 (.pr tB (.pr tB .un))))
abbrev Lk:=Int×Int×Int×BL×BL×Unit
def nf(l:Lk):Bool:=decide (0<=l.1/\l.1<5/\1<=l.2.1/\l.2.1<=1048576/\1<=l.2.2.1/\l.2.2.1<=65536/\l.2.2.2.2.1.length=32/\(l.2.1=1/\l.2.2.2.1.length=0\/l.2.2.2.1.length=32))
def Tz:Ct:=⟨1,⟨[(0,true,[.d Cn])],[]⟩,[⟨[sL 0],[]⟩],λ(l,_)=>one True (nf l,())⟩
abbrev UP(v:Bool×Unit):cF Tz.out:=⟨0,v⟩
def a3v:bG:=(176,[Tz])::a3t
def UQ:=kA 176 Tz a3u (cQ Tz 0) (∀(a:Lk)(Q:cF Tz.out->Prop),let b:=a.2.2.1<=65536;let e:=UP (nI a.2.2.2.1==32,());let f:=decide b=false->Q ⟨0,false,()⟩;let c:=nI a.2.2.2.2.1==32;let g:=c=false->Q ⟨0,false,()⟩;let z:=Br (a.2.1==1) (Q ⟨0,false,()⟩) (Q ⟨0,false,()⟩);bg Tz (a,()) Q->Bd (0<=a.1) (Bd (a.1<5) (Bd (1<=a.2.1) (Bd (a.2.1<=1048576) (Bd (1<=a.2.2.1) (Br (a.2.1==1) ((decide b=true->(c=true->Br (nI a.2.2.2.1==0) (Q ⟨0,true,()⟩) (Q e))/\g)/\f) ((decide b=true->(c=true->Q e)/\g)/\f)) z) z) z) z) z) (by
 clear b e j k n r x
 conv=>zeta
 unfold Bd Br nI bg;intro l Q ⟨_,a⟩;have b:∀y,nf l=y->Q ⟨0,(y,())⟩:=λy e=>by rw[e]at a;exact a
 clear a;unfold nf at b
 (repeat' (first|apply ck|intro _))<;>(try simp only[ai,aj,aS,aC,ne_eq,aR,aN,cm,bR]at*)<;>first
  |assumption
  |(exact b _ (by clear b;grind))
  |omega)
def sS(i j:Nat):Nat×Bool×List IP:=(i,false,[.ifc 96 j 0])
def lZ(j:Nat):List (Option CP):=[some (.cells [.own (j+1), .mp (j+2), .d .i64]),some (.sl D6),some (.mp .st .i64)]
def ma(j k:Nat):List (Option CP):=[some (.cells [.own k, .mp (j+2), .d .i64]),none,some (.mp .st .i64)]
def cT:Option CP:=some (.sl D6)
def vo(l:Lk):BL:=vn l.1++vn l.2.1++vn l.2.2.1++(vn l.2.2.2.1.length++l.2.2.2.1)++(vn l.2.2.2.2.1.length++l.2.2.2.2.1)
def gy(l:Lk)(ts:List Tm)(m:KV):BL×List Tm×KV:=if nf l then dI (104,[vo l],()) ts m else([],ts,m)
def UR:Ct:=⟨2,⟨[sS 0 0,(1,true,[.d Cn])],lZ 0⟩,[⟨[sO 0 4],ma 0 3++[cT,cB]⟩],λ(l,d,a,m,_)=>one (a.length<=4294967296) (d,(gy l a m).2.2,(gy l a m).2.1,(gy l a m).1,())⟩
variable{l lk z:Lk}
theorem jz(h:nf l=true):0<=l.1/\l.1<5/\1<=l.2.1/\l.2.1<=1048576/\1<=l.2.2.1/\l.2.2.1<=65536/\l.2.2.2.2.1.length=32/\l.2.2.2.1.length<=32:=by
 unfold nf at h;simp only[ai]at h;omega
theorem pa(h:nf l=true):(vo l).length<=99:=by
 have:=jz h;have:=bC l.1;have:=bC l.2.1;have:=bC l.2.2.1;have:=bC l.2.2.2.1.length;have:=bC l.2.2.2.2.1.length;simp only[vo,aa];omega
theorem NV:bW Tryz.prog 177 UR:=kC UQ (cQ UR 0) (∀(a:Lk)(d:Int)(b:List Tm)(c:KV)Q,let g:= !nf (a.1,a.2.1,a.2.2.1,a.2.2.2.1,a.2.2.2.2.1,());let f:=vn (nI a.2.2.2.2.1)++a.2.2.2.2.1;let e:=vn (nI a.2.2.2.1)++a.2.2.2.1;let z:=jV (ag 8 104,[vn a.1++vn a.2.1++vn a.2.2.1++e++f],()) b c;bg UR (a,d,b,c,()) Q->True/\Br g (Q ⟨0,d,c,b,[],()⟩) (0<=1099511627776/\ah (vn a.1)<=1099511627776/\(vn a.1++vn a.2.1).length<=1099511627776/\(vn a.1++vn a.2.1++vn a.2.2.1).length+ah a.2.2.2.1<=1099511627776/\(vn a.1++vn a.2.1++vn a.2.2.1++e).length+ah a.2.2.2.2.1<=1099511627776/\(aB (vn a.1++vn a.2.1++vn a.2.2.1++e++f)/\b.length<=4294967296)/\Q ⟨0,d,z.2.2,z.2.1,jH (ag 8 104,[vn a.1++vn a.2.1++vn a.2.2.1++e++f],()) z.1,()⟩)) (by
 conv=>zeta
 unfold Br nI bg;rintro⟨a,q,c,pv,f,⟨⟩⟩ d o m Q ⟨p,g⟩;have b:∀i j l,gy (a,q,c,pv,f,()) o m=(i,j,l)->Q ⟨0,(d,l,j,i,())⟩:=λi j l e=>by rw[e]at g;exact g
 clear g;unfold gy at b;refine⟨trivial,λh=>b _ _ _ (ae (cf h)),λh=>?_⟩;have n:nf (a,q,c,pv,f,())=true:=cf h
 have r:=pa n;have:=jz n;have:=bC a;have:=bC q;have:=bC c;have:=bC pv.length;have:=bC f.length;simp only[vo,aa]at r⊢;rw[ak n]at b;dsimp only at*;refine⟨ac,ac,ac,ac,ac,⟨?_,p⟩,b _ _ _ rfl⟩;show ah _<=_;simp only[aa];omega)
def a3w:bG:=(177,[UR])::a3v
def a3x:=kB 177 [UR] UQ (bL NV)
abbrev JE:Ty:= .pr (.ar 32 .u8) (.pr (.ar 32 .u8) (.pr .i64 .un))
abbrev Kn:=BL×BL×Int×Unit
abbrev Ln:=List (Int×List Kn)
def cJ(l:Ln)(a:Int):List Kn:=(aO .i64 a l).getD []
theorem wv(l:Ln)(a:Int):(aO .i64 a l).getD []=cJ l a:=rfl
def cr(l:Ln):Prop:=∀a,(cJ l a).length<=1048576/\∀k∈cJ l a,k.1.length=32/\k.2.1.length=32
def jW(j:Nat):List (Option CP):=[some (.cells [.mp (j+1)]),some (.mp .i64 (.sl JE))]
def cnC:Ct:=⟨0,⟨[],[]⟩,[⟨[sP 0],jW 0⟩],λ_=>one True ([],())⟩
def a3y:bG:=(68,[cnC])::a3w
def a3z:=kA 68 cnC a3x (cQ cnC 0) (∀Q,bg cnC () Q->Q ⟨0,[],()⟩) (by
 unfold bg;intro Q ⟨_,a⟩;exact a)
def kN:Kn:=(ax 32 0,ax 32 0,0,())
def xm(l:Ln)(a q:Int):BL×Int:=if q<1\/(cJ l a).length<q then([],0)else(((cJ l a).getD (q-1).toNat kN).1,((cJ l a).getD (q-1).toNat kN).2.2.1)
variable{α β:Type}
theorem aV{l:List α}{z:α}(h:j<l.length):l.getD j z∈l:=by
 rw[aw,an h];exact ls _
def baC:Ct:=⟨3,⟨[sP 0,sI 1,sI 2],jW 0⟩,[⟨[sO 0 2,sI 1],jW 0++[cB]⟩],λ(a,q,l,_)=>one (cr l) ((xm l a q).2,l,(xm l a q).1,())⟩
def a30:bG:=(157,[baC])::a3y
def a31:=kA 157 baC a3z (cQ baC 0) (∀(c a:Int)(b:Ln)Q,let e:=(aO Ty.i64 c b).getD [];let z:=gD e (a-1) (ax 32 (ag 8 0),ax 32 (ag 8 0),0,());bg baC (c,a,b,()) Q->Bd (a<1) (Q ⟨0,0,b,[],()⟩) (Bd (nI e<a) (Q ⟨0,0,b,[],()⟩) (am (a-1)/\iN (a-1) e/\(0+ah z.1)*1<=mM/\Q ⟨0,z.2.2.1,b,z.1,()⟩))) (by
 conv=>zeta
 unfold Bd gD iN mM nI bg;intro a q l Q ⟨j,c⟩;have b:∀f i,xm l a q=(f,i)->Q ⟨0,(i,l,f,())⟩:=λf i e=>by rw[e]at c;exact c
 clear c;unfold xm at b;rw[wv];obtain⟨p,m⟩:=j a;have n:(ax 32 (ag 8 0),ax 32 (ag 8 0),(0:Int),())=kN:=rfl;rw[n];generalize cJ l a=L at*;refine⟨λh=>b _ _ (ak (.inl (af h))),λh=>⟨λg=>b _ _ (ak (.inr (af g))),λg=>?_⟩⟩;have r:=ap h;have s:=ap g;have o:=(m _ (aV (z:=kN) (show(q-1).toNat<L.length by omega))).1;exact⟨cv,ac,by rw[o];omega,b _ _ (ae ac)⟩)
abbrev JF:Ty:= .pr .i64 (.pr .i64 (.pr tB .un))
abbrev Hd:=Int×Int×BL×Unit
def fe(l:Ln)(a:Int):Hd:=if a<0\/5<=a then(0,0,[],())else(a,(cJ l a).length,(xm l a (cJ l a).length).1,())
def US:Ct:=⟨2,⟨[sP 0,sI 1],jW 0⟩,[⟨[(0,true,[.d JF])],jW 0⟩],λ(a,l,_)=>one (cr l) (fe l a,l,())⟩
abbrev UT(v:(Int×Int×BL×Unit)×Ln×Unit):cF US.out:=⟨0,v⟩
def a32:bG:=(117,[US])::a30
def a33:=kA 117 US a31 (cQ US 0) (∀(a:Int)(b:Ln)Q,let c:=(aO Ty.i64 a b).getD [];let z:=UT ((0,0,[],()),b,());bg US (a,b,()) Q->Bd (a<0) (Q z) (Bd (5<=a) (Q z) (cr b/\Q ⟨0,(a,nI c,(xm b a (nI c)).1,()),b,()⟩))) (by
 conv=>zeta
 unfold Bd nI bg;intro a l Q ⟨f,c⟩;have b:∀y,fe l a=y->Q ⟨0,(y,l,())⟩:=λy e=>by rw[e]at c;exact c
 clear c;unfold fe at b;refine⟨λh=>b _ (ak (.inl (af h))),λh=>⟨λg=>b _ (ak (.inr (af g))),λg=>⟨f,b _ (ae ?_)⟩⟩⟩;have i:=ap h;have j:=ap g;omega)
def pX(lk:Lk)(l:Ln)(ts:List Tm)(m:KV):Ln:=cL (kt:= .i64) lk.1 (cJ l lk.1++[(dU (ax 32 0) (gy lk ts m).1,dU (ax 32 0) lk.2.2.2.2.1,lk.2.2.1,())]) l
def kpC:Ct:=⟨3,⟨[sP 0,sS 1 2,(2,true,[.d Cn])],jW 0++lZ 2⟩,[⟨[],jW 0++ma 2 5++[cT]⟩],λ(lk,l,d,a,m,_)=>one (a.length<=4294967296/\cr l) (pX lk l a m,d,(gy lk a m).2.2,(gy lk a m).2.1,())⟩
def a34:bG:=(162,[kpC])::a32
def UU:=kA 162 kpC a33 (cQ kpC 0) (∀(a:Lk)(b:Ln)(e:Int)(c:List Tm)(d:KV)Q,let f:=gy (a.1,a.2.1,a.2.2.1,a.2.2.2.1,a.2.2.2.2.1,()) c d;let z:=(aO Ty.i64 a.1 b).getD [];bg kpC (a,b,e,c,d,()) Q->c.length<=4294967296/\((0:Int)<=0/\0<=nI z/\nI z=nI z/\nI z<=nI z)/\0<[(dU (ax 32 (ag 8 0)) f.1,dU (ax 32 (ag 8 0)) a.2.2.2.2.1,a.2.2.1,())].length/\((de (nI z).toNat z).length+[(dU (ax 32 (ag 8 0)) f.1,dU (ax 32 (ag 8 0)) a.2.2.2.2.1,a.2.2.1,())].length)*72<=mM/\Q ⟨0,dY Ty.i64 a.1 (de (nI z).toNat z++[(dU (ax 32 (ag 8 0)) f.1,dU (ax 32 (ag 8 0)) a.2.2.2.2.1,a.2.2.1,())]) b,e,f.2.2,f.2.1,()⟩) (by
 conv=>zeta
 unfold mM nI bg;rintro⟨a,q,g,pv,h,⟨⟩⟩ l d i m Q ⟨⟨c,f⟩,b⟩;dsimp only at*;obtain⟨j,n⟩:=f a;rw[wv];unfold pX at b;dsimp only at b;have e:((cJ l a).length:Int).toNat=(cJ l a).length:=aG _;rw[e,bv];refine⟨c,⟨ac,ac,rfl,ac⟩,bY,?_,b⟩;simp only[aa,bi];omega)
def ij(lk:Lk)(l:Ln)(ts:List Tm)(m:KV):Int×List Tm×KV:=
 if nf lk=false then(1,ts,m)
 else if lk.2.1<=(cJ l lk.1).length then((if((cJ l lk.1).getD (lk.2.1-1).toNat kN).1=(gy lk ts m).1 then 16 else 18),(gy lk ts m).2)
 else if(cJ l lk.1).length+1<lk.2.1 then(15,ts,m)
 else if(fe l lk.1).2.2.1≠lk.2.2.2.1 then(17,ts,m)
 else if 0<(cJ l lk.1).length/\lk.2.2.1<((cJ l lk.1).getD ((cJ l lk.1).length-1) kN).2.2.1 then(20,ts,m)
 else(0,ts,m)
def UV:Ct:=⟨3,⟨[sP 0,sS 1 2,(2,true,[.d Cn])],jW 0++lZ 2⟩,[⟨[sI 0],jW 0++ma 2 5++[cT]⟩],λ(lk,l,d,a,m,_)=>one (a.length<=4294967296/\cr l) ((ij lk l a m).1,l,d,(ij lk l a m).2.2,(ij lk l a m).2.1,())⟩
theorem NW:bW Tryz.prog 161 UV:=kC UU (cQ UV 0) (∀(a:Lk)(b:Ln)(e:Int)(c:List Tm)(d:KV)Q,let h:= !(fe b a.1).2.2.1==a.2.2.2.1;let f:=(b,e,d,c,());let g:=(a.1,a.2.1,a.2.2.1,a.2.2.2.1,a.2.2.2.2.1,());let z:=(aO Ty.i64 a.1 b).getD [];let i:=a.2.2.1<(gD z (nI z-1) (ax 32 (ag 8 0),ax 32 (ag 8 0),0,())).2.2.1;let j:=(gD z (a.2.1-1) (ax 32 (ag 8 0),ax 32 (ag 8 0),0,())).1==(gy g c d).1;bg UV (a,b,e,c,d,()) Q->True/\Br (!nf g) (Q ⟨0,1,f⟩) (Bd (a.2.1<=nI z) (am (a.2.1-1)/\iN (a.2.1-1) z/\c.length<=4294967296/\True/\Br j (Q ⟨0,16,b,e,(gy g c d).2.2,(gy g c d).2.1,()⟩) (Q ⟨0,18,b,e,(gy g c d).2.2,(gy g c d).2.1,()⟩)) (am (nI z+1)/\Bd (nI z+1<a.2.1) (Q ⟨0,15,f⟩) (cr b/\True/\Br h (Q ⟨0,17,f⟩) (Bd (0<nI z) (oX (0<nI z) (decide (0<nI z)=true/\am (nI z-1)/\decide (0<nI z)=true/\(0<=nI z-1/\nI z-1<nI z)/\oX (0<nI z) (Br (decide i) (Q ⟨0,20,f⟩) (Q ⟨0,0,f⟩)))) (rh (0<nI z) (zL (0<nI z) (Q ⟨0,0,f⟩)))))))) (by
 conv=>zeta
 unfold Bd Br gD iN nI bg rh tT oX zL mP;rintro⟨a,q,c,pv,f,⟨⟩⟩ l d u m Q ⟨⟨z,v⟩,i⟩;have b:∀j o r,ij (a,q,c,pv,f,()) l u m=(j,o,r)->Q ⟨0,(j,l,d,r,o,())⟩:=λj o r e=>by rw[e]at i;exact i
 clear i;obtain⟨C,E⟩:=v a;unfold ij at b;rw[wv];have w:(ax 32 (ag 8 0),ax 32 (ag 8 0),(0:Int),())=kN:=rfl;rw[w];dsimp only at*;refine⟨trivial,λh=>b _ _ _ (ak (cf h)),λh=>?_⟩;have x:nf (a,q,c,pv,f,())=true:=cf h
 have s:=jz x;dsimp only at s;rw[ae (by simp[x])]at b;have y:((cJ l a).length-1:Int).toNat=(cJ l a).length-1:=ac
 rw[y];clear h y w;have F:fe l a=fe l a:=rfl;generalize fe l a=H at*;generalize gy (a,q,c,pv,f,()) u m=D at*;generalize cJ l a=L at*;refine⟨λh=>?_,λh=>?_⟩
 ·have t:=af h;rw[ak t]at b;refine⟨cv,ac,z,trivial,λg=>b _ _ _ ?_,λg=>b _ _ _ ?_⟩
  ·rw[ak (cf g)]
  ·rw[ae (cf g)]
 ·have t:=ap h;rw[ae t]at b;refine⟨cv,λg=>b _ _ _ (ak (af g)),λg=>?_⟩;rw[ae (ap g)]at b;refine⟨v,trivial,λk=>b _ _ _ (ak (cf k)),λk=>?_⟩;rw[ae (cf k)]at b;refine⟨λn=>?_,λn=>?_⟩
  ·have A:=af n
   repeat refine⟨n,?_⟩
   refine⟨cv,?_⟩
   repeat refine⟨n,?_⟩
   refine⟨ac,?_⟩
   repeat refine⟨n,?_⟩
   exact⟨λp=>b _ _ _ (ak ⟨ac,af p⟩),λp=>b _ _ _ (ae λB=>ap p B.2)⟩
  ·have A:=ap n
   repeat refine⟨n,?_⟩
   exact b _ _ _ (ae ac))
def a35:bG:=(161,[UV])::a34
def UW:=kB 161 [UV] UU (bL NW)
theorem P7(t:Tm)(ts:List Tm)(m:KV):(dI t ts m).2.1.length<=ts.length+1:=F4 t ts m
theorem F6(lk:Lk)(ts:List Tm)(m:KV):(gy lk ts m).2.1.length<=ts.length+1:=by
 unfold gy;split
 ·exact P7 _ _ _
 ·simp
theorem P8(lk:Lk)(l:Ln)(ts:List Tm)(m:KV):(ij lk l ts m).2.1.length<=ts.length+1:=by
 have:=F6 lk ts m;unfold ij;(repeat' split)<;>simp<;>omega
def kp(lk:Lk)(l:Ln)(ts:List Tm)(m:KV):Int×Ln×List Tm×KV:=
 if(ij lk l ts m).1=0 then(0,pX lk l (ij lk l ts m).2.1 (ij lk l ts m).2.2,(gy lk (ij lk l ts m).2.1 (ij lk l ts m).2.2).2)else((ij lk l ts m).1,l,(ij lk l ts m).2)
def UX:Ct:=⟨3,⟨[sP 0,sS 1 2,(2,true,[.d Cn])],jW 0++lZ 2⟩,[⟨[sI 0],jW 0++ma 2 5++[cT]⟩],λ(lk,l,d,a,m,_)=>one (a.length<=4294967295/\cr l) ((kp lk l a m).1,(kp lk l a m).2.1,d,(kp lk l a m).2.2.2,(kp lk l a m).2.2.1,())⟩
theorem NX:bW Tryz.prog 120 UX:=kC UW (cQ UX 0) (∀(a:Lk)(b:Ln)(e:Int)(c:List Tm)(d:KV)Q,let z:=(a.1,a.2.1,a.2.2.1,a.2.2.2.1,a.2.2.2.2.1,());let f:=gy z (ij z b c d).2.1 (ij z b c d).2.2;bg UX (a,b,e,c,d,()) Q->(c.length<=4294967296/\cr b)/\Br (!(ij z b c d).1==0) (Q ⟨0,(ij z b c d).1,b,e,(ij z b c d).2.2,(ij z b c d).2.1,()⟩) (((ij z b c d).2.1.length<=4294967296/\cr b)/\Q ⟨0,0,pX z b (ij z b c d).2.1 (ij z b c d).2.2,e,f.2.2,f.2.1,()⟩)) (by
 conv=>zeta
 unfold Br bg;rintro⟨a,q,n,pv,o,⟨⟩⟩ l d p m Q ⟨⟨s,r⟩,b⟩;have c:∀f g i j,kp (a,q,n,pv,o,()) l p m=(f,g,i,j)->Q ⟨0,(f,g,d,j,i,())⟩:=λf g i j e=>by rw[e]at b;exact b
 clear b;unfold kp at c;dsimp only at*;have t:=P8 (a,q,n,pv,o,()) l p m;refine⟨⟨ac,r⟩,λh=>c _ _ _ _ (ae (cf h)),λh=>⟨⟨ac,r⟩,c _ _ _ _ (ak (cf h))⟩⟩)
def a36:bG:=(120,[UX])::a35
def UY:=kB 120 [UX] UW (bL NX)
def uq(l:Ln)(k:Nat):List Hd:=(fo k).filterMap λ(a:Nat)=>if 0<(fe l (a:Int)).2.1 then some (fe l (a:Int))else none
theorem yO(l:Ln)(k:Nat):uq l (k+1)=uq l k++(if 0<(fe l (k:Int)).2.1 then[fe l (k:Int)]else[]):=by
 unfold uq;rw[List.range_succ,List.filterMap_append];congr 1;by_cases h:0<(fe l (k:Int)).2.1<;>simp[h]
theorem Co(l:Ln):∀k,(uq l k).length<=k
 |0=>by simp[uq]
 |k+1=>by rw[yO];have:=Co l k;split<;>simp<;>omega
def cHd:Option CP:=some (.sl JF)
def UZ:Ct:=⟨1,⟨[sP 0],jW 0⟩,[⟨[sO 0 2],jW 0++[cHd]⟩],λ(l,_)=>one (cr l) (l,uq l 5,())⟩
def vcP:cx:=⟨[sP 0,sO 3 2,sI 6],jW 0++[cHd]⟩
def nA(l:Ln)(y:vcP.den):Prop:=match y with
 |(i,a,v,_)=>a=l/\∃k:Nat,i=k/\k<=5/\v=uq l k
def vcA(x:UZ.inp.den):eH:=⟨[(3,bS vcP (nA x.1) λ(i,_)=>(5-i).toNat)],[],[],[],0⟩
theorem FU:bW Tryz.prog 105 UZ:=kC UY vcA (∀(c:Ln)Q,bg UZ (c,()) Q->Is (nA c (0,c,[],()))/\∀(a:Int)(b:Ln)(d:List (Int×Int×BL×Unit)),nA c (a,b,d,())->Bd (a<5) (cr b/\Bd (0<(fe b a).2.1) ((d.length+[((fe b a).1,(fe b a).2.1,(fe b a).2.2.1,())].length)*40<=mM/\am (a+1)/\Is (nA c (a+1,b,d++[((fe b a).1,(fe b a).2.1,(fe b a).2.2.1,())],())/\lN (5-(a+1)) (5-a))) (am (a+1)/\Is (nA c (a+1,b,d,())/\lN (5-(a+1)) (5-a)))) (Q ⟨0,b,d,()⟩)) (by
 unfold Bd lN mM bg;intro l Q ⟨c,e⟩;refine⟨⟨rfl,0,rfl,ac,rfl⟩,?_⟩;rintro i a v ⟨rfl,k,rfl,f,rfl⟩;have j:=Co a k;have b:=yO a k;simp only[ai,aj];refine⟨λh=>⟨c,λg=>⟨?_,cv,⟨⟨rfl,k+1,rfl,ac,?_⟩,ac⟩⟩,λg=>⟨cv,⟨⟨rfl,k+1,rfl,ac,?_⟩,ac⟩⟩⟩,λh=>?_⟩
 ·simp only[aa,bi];omega
 ·rw[b,ak g]
 ·rw[b,ae g,aH]
 ·have:k=5:=ac
  subst this;exact e)
def a37:bG:=(105,[UZ])::a36
def a38:=kB 105 [UZ] UY (bL FU)
def P9(last:Int):List Hd->Bool
 |[]=>true
 |h::r=>if h.1<=last\/5<=h.1\/h.2.1<1\/1048576<h.2.1\/h.2.2.1.length≠32 then false else P9 h.1 r
def voC:Ct:=⟨1,⟨[(0,false,[.d (.sl JF)])],[]⟩,[⟨[sL 0],[]⟩],λ(v,_)=>one (v.length<=1099511627776) (P9 (-1) v,())⟩
def voP:cx:=⟨[sI 3,(6,false,[.d (.sl JF)]),sI 7,sI 8],[]⟩
def voI(v:List Hd)(y:voP.den):Prop:=match y with
 |(a,b,n,i,_)=>b=v/\n=v.length/\∃k:Nat,i=k/\k<=v.length/\P9 a (v.drop k)=P9 (-1) v
def voA(x:voC.inp.den):eH:=⟨[(3,bS voP (voI x.1) λ(_,_,n,i,_)=>(n-i).toNat)],[],[],[],0⟩
theorem dv{l:List α}{z:α}(h:k<l.length):l.drop k=l.getD k z::l.drop (k+1):=by
 rw[List.drop_eq_getElem_cons h,aw,an h];rfl
def a39:bG:=(216,[voC])::a37
def a4a:=kA 216 voC a38 voA (∀(c:List (Int×Int×BL×Unit))Q,bg voC (c,()) Q->Is (voI c ((-1:Int),c,nI c,0,()))/\∀(e:Int)(b:List (Int×Int×BL×Unit))(d a:Int),let z:=gD b a (0,0,[],());let f:= !(↑(ah z.2.2.1):Int)==32;voI c (e,b,d,a,())->Bd (a<d) (iN a b/\Bd (z.1<=e) (Q ⟨0,false,()⟩) (Bd (5<=z.1) (Q ⟨0,false,()⟩) (Bd (z.2.1<1) (Q ⟨0,false,()⟩) (Bd (1048576<z.2.1) (Q ⟨0,false,()⟩) (Br f (Q ⟨0,false,()⟩) (am (a+1)/\Is (voI c (z.1,b,d,a+1,())/\lN (d-(a+1)) (d-a)))))))) (Q ⟨0,true,()⟩)) (by
 conv=>zeta
 unfold Bd Br gD iN lN nI bg;intro v Q ⟨r,c⟩;have b:∀y,P9 (-1) v=y->Q ⟨0,(y,())⟩:=λy e=>by rw[e]at c;exact c
 clear c;refine⟨⟨rfl,rfl,0,rfl,ac,rfl⟩,?_⟩;rintro j l n i ⟨rfl,rfl,k,rfl,s,a⟩;simp only[ai,aj,aG];refine⟨λh=>⟨ac,?_⟩,λh=>b _ ?_⟩
 ·have m:=dv (z:=((0,0,[],()):Hd)) (show k<l.length by omega);rw[m]at a;generalize l.getD k (0,0,[],())=H at*;simp only[P9]at a;refine⟨λg=>b _ ?_,λg=>⟨λo=>b _ ?_,λo=>⟨λp=>b _ ?_,λp=>⟨λq=>b _ ?_,λq=>⟨λf=>b _ ?_,λf=>⟨cv,⟨⟨rfl,rfl,k+1,rfl,ac,?_⟩,ac⟩⟩⟩⟩⟩⟩⟩
  ·rw[<-a,ak ac]
  ·rw[<-a,ak ac]
  ·rw[<-a,ak ac]
  ·rw[<-a,ak ac]
  ·rw[<-a,ak (.inr (.inr (.inr (.inr (λe=>by simp[e]at f)))))]
  ·rw[<-a,ae];have t:(H.2.2.1.length:Int)=32:=cf f
   omega
 ·rw[<-a,bu ac];rfl)
abbrev iZ:Ty:= .pr .i64 (.pr .i64 .un)
abbrev Fk:=Int×Int×Unit
abbrev tRl:Ty:= .pr .bl (.pr .bl .un)
abbrev Rl:=Bool×Bool×Unit
def JG:Option CP:=some (.sl iZ)
def cpC:Ct:=⟨2,⟨[sP 0,(1,false,[.d (.sl JF)])],jW 0⟩,[⟨[(0,true,[.d tRl]),sO 1 2,sI 2],jW 0++[JG]⟩],λ(v,l,_)=> .need (cr l/\v.length<=1000000) (.all (Rl×List Fk×Int) (λy=>y.2.1.length<=v.length/\(y.2.2=0\/y.2.2=1)) λy=> .leaf ⟨0,(y.1,y.2.2,l,y.2.1,())⟩)⟩
def cpH:List (Option CP):=jW 0++[some (.cells [.d .bl, .d .bl]),some (.cells [.d .bl, .d .bl]),JG,some (.mp .i64 .i64)]
def cpP:cx:=⟨[sP 0,(4,false,[.ptr 2 0]),(7,false,[.ptr 3 0]),sO 8 4,(9,false,[.mp 5]),(24,false,[.d (.sl JF)]),sI 25,sI 26],cpH⟩
def TB(v:List Hd)(l:Ln)(y:cpP.den):Prop:=match y with
 |(a,n,i,b,_,_,_,_,f,_)=>a=v/\b=l/\n=v.length/\∃k:Nat,i=k/\k<=v.length/\f.length<=k
def cqP:cx:=⟨[sP 0,(4,false,[.ptr 2 0]),(7,false,[.ptr 3 0]),sO 8 4,(9,false,[.mp 5]),sI 61],cpH⟩
def U0(v:List Hd)(l:Ln)(y:cqP.den):Prop:=match y with
 |(i,a,_,_,_,_,f,_)=>a=l/\∃k:Nat,i=k/\k<=5/\f.length<=v.length
def cpA(x:cpC.inp.den):eH:=⟨[(7,bS cpP (TB x.1 x.2.1) λ(_,n,i,_)=>(n-i).toNat),(17,bS cqP (U0 x.1 x.2.1) λ(i,_)=>(5-i).toNat)],[],[],[],0⟩
def a4b:bG:=(201,[cpC])::a39
def a4c:=kA 201 cpC a4a cpA (∀(c:List (Int×Int×BL×Unit))(e:Ln)Q,bg cpC (c,e,()) Q->c.length<=1099511627776/\Br (!P9 (-1:Int) c) (Q ⟨0,(false,false,()),1,e,[],()⟩) (Is (TB c e (c,nI c,0,e,false,false,false,false,[],[],()))/\∀(b:List (Int×Int×BL×Unit))(f a:Int)(g:Ln)(j k l o:Bool)(h:List Fk)(m:List (Int×Int)),let z:=gD b a (0,0,[],());let u:=xm g z.1 z.2.1;TB c e (b,f,a,g,j,k,l,o,h,m,())->Bd (a<f) (iN a b/\cr g/\Br (u.2==0) (am (a+1)/\Is (TB c e (b,f,a+1,g,j,k,l,true,h,dY Ty.i64 z.1 z.2.1 m,())/\lN (f-(a+1)) (f-a))) (True/\Br (!u.1==z.2.2.1) ((h.length+[(z.1,z.2.1,())].length)*16<=mM/\am (a+1)/\Is (TB c e (b,f,a+1,g,j,k,l,o,h++[(z.1,z.2.1,())],dY Ty.i64 z.1 z.2.1 m,())/\lN (f-(a+1)) (f-a))) (am (a+1)/\Is (TB c e (b,f,a+1,g,j,k,l,o,h,dY Ty.i64 z.1 z.2.1 m,())/\lN (f-(a+1)) (f-a))))) (Is (U0 c e (0,g,j,k,l,o,h,m,()))/\∀(d:Int)(i:Ln)(r s t p:Bool)(q:List Fk)(n:List (Int×Int)),let v:=(aO Ty.i64 d n).getD 0<nI ((aO Ty.i64 d i).getD []);U0 c e (d,i,r,s,t,p,q,n,())->Bd (d<5) (Br (decide v) (am (d+1)/\Is (U0 c e (d+1,i,r,s,true,p,q,n,())/\lN (5-(d+1)) (5-d))) (am (d+1)/\Is (U0 c e (d+1,i,r,s,t,p,q,n,())/\lN (5-(d+1)) (5-d)))) (Q ⟨0,(t,p,()),0,i,q,()⟩)))) (by
 conv=>zeta
 unfold Bd Br gD iN lN mM nI bg;intro v l Q ⟨⟨c,q⟩,b⟩;refine⟨ac,λ_=>b ((false,false,()),[],1) ⟨aq _, .inr rfl⟩,λ_=>⟨⟨rfl,rfl,rfl,0,rfl,ac,aq _⟩,?_⟩⟩;rintro r n i s _ _ t u f w ⟨rfl,rfl,rfl,k,rfl,x,y⟩;simp only[ai,aj,aa,bi];refine⟨λh=>⟨ac,c,λg=>⟨cv,⟨⟨rfl,rfl,rfl,k+1,rfl,ac,ac⟩,ac⟩⟩,λg=>⟨trivial,λe=>⟨ac,cv,⟨⟨rfl,rfl,rfl,k+1,rfl,ac,eM⟩,ac⟩⟩,λe=>⟨cv,⟨⟨rfl,rfl,rfl,k+1,rfl,ac,ac⟩,ac⟩⟩⟩⟩,λh=>⟨⟨rfl,0,rfl,ac,ac⟩,?_⟩⟩;rintro j z _ _ m o p A ⟨rfl,j,rfl,B,a⟩;refine⟨λh=>⟨λg=>⟨cv,⟨⟨rfl,j+1,rfl,ac,a⟩,ac⟩⟩,λg=>⟨cv,⟨⟨rfl,j+1,rfl,ac,a⟩,ac⟩⟩⟩,λh=>?_⟩;exact b ((m,o,()),p,0) ⟨a, .inl rfl⟩) (l:=λ_=>Live.need λ_=>Live.all ⟨((false,false,()),[],0),⟨aq _, .inl rfl⟩,Live.leaf⟩)
def E6(ks:List Kn)(p:BL):BL:=ks.foldl (λp k=>p++(vn k.2.1.length++k.2.1)++vn k.2.2.1) p
def jI(l:Ln)(p:BL)(k:Nat):BL:=(fo k).foldl (λp(a:Nat)=>E6 (cJ l (a:Int)) (p++vn (cJ l (a:Int)).length)) p
theorem di{l:List α}{z:α}(h:k<l.length):l.take (k+1)=l.take k++[l.getD k z]:=by
 rw[dR,an h];simp[bF,an h]
theorem yP{ks:List Kn}(h:r<ks.length)(q:BL):E6 (ks.take (r+1)) q=E6 (ks.take r) q++(vn (ks.getD r kN).2.1.length++(ks.getD r kN).2.1)++vn (ks.getD r kN).2.2.1:=by
 rw[di (z:=kN) h,E6,List.foldl_append];rfl
theorem pc(l:Ln)(p:BL)(k:Nat):jI l p (k+1)=E6 (cJ l (k:Int)) (jI l p k++vn (cJ l (k:Int)).length):=by
 rw[jI,List.range_succ,List.foldl_append];rfl
theorem ww{ks:List Kn}(h:∀k∈ks,k.1.length=32/\k.2.1.length=32)(q:BL):∀r,r<=ks.length->(E6 (ks.take r) q).length<=q.length+r*46
 |0,_=>by simp[E6]
 |r+1,a=>by
  have b:=ww h q r ac;have:=(h _ (aV (z:=kN) (show r<ks.length by omega))).2;have:=bC (ks.getD r kN).2.1.length;have:=bC (ks.getD r kN).2.2.1;rw[yP ac];simp only[aa];omega
theorem ri{l:Ln}(h:cr l)(p:BL):∀k,(jI l p k).length<=p.length+k*48234503
 |0=>by simp[jI]
 |k+1=>by
  have b:=ri h p k;obtain⟨c,a⟩:=h k;rw[pc];have:=ww a (jI l p k++vn (cJ l (k:Int)).length) _ (aE _);rw[bv]at this;have:=bC (cJ l (k:Int)).length;simp only[aa]at*;omega
def bpC:Ct:=⟨2,⟨[sP 0,sB 1],jW 0⟩,[⟨[(0,false,[.d tB])],jW 0⟩],λ(p,l,_)=>one (cr l/\p.length<=1073741824) (jI l p 5,l,())⟩
def bpP:cx:=⟨[sP 0,sB 1,sI 13],jW 0⟩
def bpI(p:BL)(l:Ln)(y:bpP.den):Prop:=match y with
 |(q,i,a,_)=>a=l/\∃k:Nat,i=k/\k<=5/\q=jI l p k
def bqP:cx:=⟨[sP 0,sB 1,sI 5,sI 13,(30,false,[.d (.sl JE)]),sI 31,sI 32],jW 0⟩
def bqI(p:BL)(l:Ln)(c:Int)(y:bqP.den):Prop:=match y with
 |(q,a,i,b,n,j,e,_)=>e=l/\a=i/\c=i/\∃k:Nat,i=k/\k<5/\b=cJ l k/\n=b.length/\∃r:Nat,j=r/\r<=b.length/\q=E6 (b.take r) (jI l p k++vn b.length)
def bpA(x:bpC.inp.den):eH:=⟨[(4,pW bpP (bpI x.1 x.2.1) (λ(_,i,_)=>(5-i).toNat) λy=>[(8,bS bqP (bqI x.1 x.2.1 y.2.1) λ(_,_,_,_,n,j,_)=>(n-j).toNat)])],[],[],[(10,7,0)],0⟩
def a4d:bG:=(126,[bpC])::a4b
def U1:=kA 126 bpC a4c bpA (∀(d:BL)(e:Ln)Q,bg bpC (d,e,()) Q->Is (bpI d e (d,0,e,()))/\∀(j:BL)(b:Int)(f:Ln),let m:=aO Ty.i64 b f;bpI d e (j,b,f,())->Bd (b<5) (j.length<=1099511627776/\Is (bqI d e b (j++vn (nI (m.getD [])),b,b,m.getD [],nI (m.getD []),0,f,()))/\∀(h:BL)(l i:Int)(c:List Kn)(g a:Int)(k:Ln),let z:=gD c a (ax 32 (ag 8 0),ax 32 (ag 8 0),0,());let n:=vn (↑(ah z.2.1):Int)++z.2.1;bqI d e b (h,l,i,c,g,a,k,())->Bd (a<g) (iN a c/\h.length+ah z.2.1<=1099511627776/\(h++n).length<=1099511627776/\am (a+1)/\Is (bqI d e b (h++n++vn z.2.2.1,l,i,c,g,a+1,k,())/\lN (g-(a+1)) (g-a))) (am (i+1)/\Is (bpI d e (h,i+1,k,())/\lN (5-(i+1)) (5-b)))) (Q ⟨0,j,f,()⟩)) (by
 conv=>zeta
 unfold Bd gD iN lN nI bg;intro p l Q ⟨⟨f,D⟩,u⟩;refine⟨⟨rfl,0,rfl,ac,rfl⟩,?_⟩;rintro q i v ⟨rfl,k,rfl,E,rfl⟩;simp only[wv,ai,aj];have w:=ri f p k;have s:=pc v p k;refine⟨λh=>⟨ac,⟨rfl,rfl,rfl,k,rfl,ac,rfl,rfl,0,rfl,aq _,rfl⟩,?_⟩,λh=>?_⟩
 ·rintro F G H J n j b ⟨rfl,rfl,m,a,rfl,o,rfl,rfl,r,rfl,x,rfl⟩;have w:=ri f p a;have s:=pc b p a;have K:=(f a).1;have t:=(f a).2;have y:(ax 32 (ag 8 0),ax 32 (ag 8 0),(0:Int),())=kN:=rfl;rw[y];have A:=ww t (jI b p a++vn (cJ b a).length) r x;have L:=bC (cJ b a).length;rw[aa]at A;have M:∀q,q=E6 ((cJ b a).take r) (jI b p a++vn (cJ b a).length)->q.length=(E6 ((cJ b a).take r) (jI b p a++vn (cJ b a).length)).length:=λq e=>by rw[e]
  refine⟨λg=>?_,λg=>?_⟩
  ·have c:r<(cJ b a).length:=ac
   have N:=(t _ (aV (z:=kN) c)).2;have B:=bC ((cJ b a).getD r kN).2.1.length;have C:=yP c (jI b p a++vn (cJ b a).length);simp only[aG,aa];refine⟨ac,ac,ac,cv,⟨⟨rfl,rfl,m,a,rfl,o,rfl,rfl,r+1,rfl,c,C.symm⟩,ac⟩⟩
  ·have:r=(cJ b a).length:=ac
   refine⟨cv,⟨⟨rfl,a+1,rfl,ac,?_⟩,ac⟩⟩;rw[s,this,bv]
 ·have:k=5:=ac
  subst this;exact u)
abbrev Rs:=Int×Int
def yQ(m:Bool)(s:Rs):Int:=if m then s.2 else 5
variable{a:Int}
theorem fx(m:Bool)(e lo hi:Int)(h:bZ b a):bZ b (dn b a m e lo hi).2.1/\a<=(dn b a m e lo hi).2.1/\0<=(dn b a m e lo hi).1/\(dn b a m e lo hi).1<=max hi 0:=by
 have c:=yL (b.drop a.toNat) 0 0;obtain⟨i,j,l⟩:=h;rw[cW]at c;unfold dn;generalize gm 0 0 (b.drop a.toNat)=g at*;split
 ·split
  ·rename_i f;have:=c f;split<;>simp only[]<;>omega
  ·simp only[];omega
 ·simp only[];omega
theorem rnE{m:Bool}{e:Int}(lo hi:Int)(h:(m&&e==0)=false):dn b a m e lo hi=(0,a,e):=by
 unfold dn;rw[ae (by rw[h];decide)]
theorem rfA(m:Bool)(e n:Int)(h:bZ b a):bZ b (zM b a m e n).2.1/\a+(zM b a m e n).1.length<=(zM b a m e n).2.1/\(zM b a m e n).1.length<=n.toNat:=by
 obtain⟨c,f,g⟩:=h;unfold zM;split
 ·split
  ·simp;omega
  ·split<;>simp<;>omega
 ·simp;omega
theorem ow(m:Bool)(e n:Int)(h:bZ b a):bZ b (hJ b a m e n).2.1/\a+(hJ b a m e n).1.length<=(hJ b a m e n).2.1/\(hJ b a m e n).1.length<=n.toNat:=by
 have c:=yL (b.drop a.toNat) 0 0;obtain⟨f,o,p⟩:=h;rw[cW]at c;unfold hJ;generalize gm 0 0 (b.drop a.toNat)=g at*;split
 ·split
  ·rename_i i;have:=c i;split
   ·simp;omega
   ·split
    ·simp;omega
    ·have j:bZ b (a+g.2.1):=⟨f,ac,ac⟩;obtain⟨l,q,r⟩:=rfA m e g.1 j;refine⟨l,ac,ac⟩
  ·simp;omega
 ·simp;omega
def xn(b:BL)(m:Bool)(au:Int):Nat->Int->Int->Rs->List Lk->Bool×Rs×List Lk
 |0,_,_,s,a=>(true,s,a)
 |k+1,i,c,s,a=>
  let t:=hJ b s.1 m s.2 32
  let f:=if t.1.length=32 then t.2.2 else if(m&&t.2.2==0)=true then 5 else t.2.2
  let u:=dn b t.2.1 m f 1 65536
  let e:=if u.1<c then(if(m&&u.2.2==0)=true then 5 else u.2.2)else u.2.2
  if(if m=true then e else 5)=0 then xn b m au k (i+1) u.1 (u.2.1,e) (a++[(au,i+1,u.1,[],t.1,())])else(false,(u.2.1,e),a)
theorem tk(b:BL)(m:Bool)(au:Int)(k:Nat)(i last a e:Int)(c:List Lk):xn b m au (k+1) i last (a,e) c=
 (let t:=hJ b a m e 32
 let g:=if t.1.length=32 then t.2.2 else if(m&&t.2.2==0)=true then 5 else t.2.2
 let u:=dn b t.2.1 m g 1 65536
 let f:=if u.1<last then(if(m&&u.2.2==0)=true then 5 else u.2.2)else u.2.2
 if(if m=true then f else 5)=0 then xn b m au k (i+1) u.1 (u.2.1,f) (c++[(au,i+1,u.1,[],t.1,())])else(false,(u.2.1,f),c)):=rfl
def qD(b:BL)(m:Bool):Nat->Int->Rs->List Lk->Bool×Rs×List Lk
 |0,_,s,a=>(true,s,a)
 |k+1,c,s,a=>
  let n:=dn b s.1 m s.2 0 1048576
  let r:=xn b m c n.1.toNat 0 1 n.2 a
  if r.1 then qD b m k (c+1) r.2.1 r.2.2 else r
def cgT(b:BL)(m:Bool)(k:Nat)(z:Bool×Rs×List Lk):Bool×Rs×List Lk:=if z.1 then qD b m (5-(k+1)) ((k:Int)+1) z.2.1 z.2.2 else z
theorem Qa(b:BL)(m:Bool)(k:Nat)(g:k<5)(a e:Int)(c:List Lk):qD b m (5-k) k (a,e) c=cgT b m k (xn b m k (dn b a m e 0 1048576).1.toNat 0 1 (dn b a m e 0 1048576).2 c):=by
 have f:5-k=(5-(k+1))+1:=ac
 rw[f];rfl
def rj(b:BL)(m:Bool)(s:Rs):Bool×Rs×List Lk:=let r:=qD b m 5 0 s [];(r.1&&yQ m r.2.1==0,r.2)
def D8(z:Ln×List Tm×KV)(x:Lk):Ln×List Tm×KV:=
 let lk:Lk:=(x.1,x.2.1,x.2.2.1,(fe z.1 x.1).2.2.1,x.2.2.2.2.1,())
 (pX lk z.1 z.2.1 z.2.2,(gy lk z.2.1 z.2.2).2)
def nC(l:List Lk)(ts:List Tm)(m:KV):Ln×List Tm×KV:=l.foldl D8 ([],ts,m)
def TC:List (Option CP):=lZ 0++rH
def bkP(j:Nat):List (Option CP):=[some (.cells [.mp j]),some (.mp .i64 (.sl JE))]
def cLk:Option CP:=some (.sl Cn)
def JH:Ct:=⟨2,⟨[sS 0 0,(1,false,[.ptr 3 0])],TC⟩,[⟨[(0,false,[.nilp])],TC⟩,⟨[(0,false,[.ptr 4 0])],ma 0 6++rH++bkP 5++[cT]⟩],λ(d,f,m,b,a,c,e,_)=> .need (bZ b a/\b.length<=65536/\f.length+b.length<=4294967296) (.ite (rj b c (a,e)).1
 (.leaf ⟨1,(d,(nC (rj b c (a,e)).2.2 f m).2.2,b,(rj b c (a,e)).2.1.1,c,(rj b c (a,e)).2.1.2,(nC (rj b c (a,e)).2.2 f m).1,(nC (rj b c (a,e)).2.2 f m).2.1,())⟩)
 (.leaf ⟨0,(d,f,m,b,(rj b c (a,e)).2.1.1,c,(rj b c (a,e)).2.1.2,())⟩))⟩
def U2:cx:=⟨[sS 0 0,(1,false,[.ptr 3 0]),sO 5 4,sI 13],TC++[cLk]⟩
def KE(x:JH.inp.den)(y:U2.den):Prop:=match x,y with
 |(j,h,l,g,n,c,o,_),(i,d,p,m,b,a,q,e,f,_)=>d=j/\p=h/\m=l/\b=g/\q=c/\bZ g a/\f.length<=rC a/\∃k:Nat,i=k/\k<=5/\qD g c (5-k) k (a,e) f=qD g c 5 0 (n,o) []
def U3:cx:=⟨[sS 0 0,(1,false,[.ptr 3 0]),sO 5 4,sI 6,sI 7,sI 13,sI 17,sI 18],TC++[cLk]⟩
def yR(x:JH.inp.den)(o:Int)(y:U3.den):Prop:=match x,y with
 |(p,l,s,f,t,c,u,_),(v,g,i,n,j,d,w,m,b,a,z,e,h,_)=>d=p/\w=l/\m=s/\b=f/\z=c/\bZ f a/\h.length<=rC a/\v=i/\o=i/\∃k q r:Nat,i=k/\k<5/\n=q/\q<=1048576/\j=r/\r<=q/\
  cgT f c k (xn f c k (q-r) r g (a,e) h)=qD f c 5 0 (t,u) []
def U4:cx:=⟨[sS 0 0,(10,false,[.ptr 4 0]),(57,false,[.d (.sl Cn)]),sI 58,sI 59],ma 0 6++rH++bkP 5++[cT]⟩
def KF(x:JH.inp.den)(y:U4.den):Prop:=match x,y with
 |(i,c,g,h,o,f,p,_),(l,n,j,d,m,b,a,q,e,bk,r,_)=>d=i/\b=h/\q=f/\(true,((a,e),l))=rj h f (o,p)/\n=l.length/\l.length<=h.length/\∃k:Nat,j=k/\k<=l.length/\bk=(nC (l.take k) c g).1/\r=(nC (l.take k) c g).2.1/\m=(nC (l.take k) c g).2.2
def cgA(x:JH.inp.den):eH:=⟨[(3,pW U2 (KE x) (λ(i,_)=>(5-i).toNat) λ(i,_)=>[(7,bS U3 (yR x i) λ(_,_,_,n,j,_)=>(n-j).toNat)]),(25,bS U4 (KF x) λ(_,n,j,_)=>(n-j).toNat)],[],[],[],0⟩
theorem rk{l:List Lk}(h:k<l.length)(ts:List Tm)(m:KV):nC (l.take (k+1)) ts m=D8 (nC (l.take k) ts m) (l.getD k z):=by
 rw[di (z:=z) h,nC,List.foldl_append];rfl
theorem fM{kt:Ty}{β:Type}(k j:kt.den)(v:β):∀l:List (kt.den×β),cD j (cL k v l)=if jd kt j k then some v else cD j l
 |[]=>by simp only[cL,cD]
 |p::r=>by
  have a:=fM k j v r;simp only[cL];split
  ·rename_i h;have e:=eR.1 h;simp only[cD,<-e];split<;>rfl
  ·rename_i h;simp only[cD,a];split
   ·rename_i b;have c:=eR.1 b;split
    ·rename_i f;have g:=eR.1 f;exact absurd (eR.2 (g.symm.trans c)) h
    ·rfl
   ·rfl
theorem kO(l:Ln)(a j:Int)(v:List Kn):cJ (cL (kt:= .i64) a v l) j=if j=a then v else cJ l j:=by
 unfold cJ aO;rw[fM];by_cases h:j=a
 ·subst h;simp[jd]
 ·simp[jd,h]
theorem mS(d:BL):(dU (ax 32 (ag 8 0)) d).length=32:=by simp[dU];omega
theorem kpB{l:Ln}(ts:List Tm)(m:KV)(h:∀a,(cJ l a).length<=n/\∀k∈cJ l a,k.1.length=32/\k.2.1.length=32):
 ∀a,(cJ (pX lk l ts m) a).length<=n+1/\∀k∈cJ (pX lk l ts m) a,k.1.length=32/\k.2.1.length=32:=by
 intro a;obtain⟨f,c⟩:=h a;unfold pX;rw[kO];split
 ·rename_i e;subst e;refine⟨eM,λk b=>?_⟩;rcases ba.1 b with b|b
  ·exact c k b
  ·simp at b;subst b;exact⟨mS _,mS _⟩
 ·exact⟨ac,c⟩
theorem F7(ts:List Tm)(m:KV)(l:List Lk):∀k,k<=l.length->(nC (l.take k) ts m).2.1.length<=ts.length+k/\∀a,(cJ (nC (l.take k) ts m).1 a).length<=k/\∀q∈cJ (nC (l.take k) ts m).1 a,q.1.length=32/\q.2.1.length=32
 |0,_=>by simp[nC,cJ,aO,cD]
 |k+1,h=>by
  obtain⟨c,b⟩:=F7 ts m l k ac;rw[rk (z:=(0,0,0,[],[],())) ac];refine⟨?_,kpB _ _ b⟩;have:=F6 ((l.getD k (0,0,0,[],[],())).1,(l.getD k (0,0,0,[],[],())).2.1,(l.getD k (0,0,0,[],[],())).2.2.1,(fe (nC (l.take k) ts m).1 (l.getD k (0,0,0,[],[],())).1).2.2.1,(l.getD k (0,0,0,[],[],())).2.2.2.2.1,()) (nC (l.take k) ts m).2.1 (nC (l.take k) ts m).2.2;show(gy _ _ _).2.1.length<=_;omega
abbrev U5(v:Int×List Tm×KV×BL×Int×Bool×Int×Unit):cF JH.out:=⟨0,v⟩
abbrev U6(v:Int×KV×BL×Int×Bool×Int×Ln×List Tm×Unit):cF JH.out:=⟨1,v⟩
theorem NY:bW Tryz.prog 202 JH:=kC U1 cgA (∀(o:Int)(m:List Tm)(n:KV)(h:BL)(j:Int)(i:Bool)(k:Int)(Q:cF JH.out->Prop),let F:=qD h i 5 0 (j,k) [];let G:=nC F.2.2 m n;let B:=(o,m,n,h,j,i,k,());(Tr.need (bZ h j/\h.length<=65536/\m.length+h.length<=4294967296) (Tr.ite (F.1&&yQ i F.2.1==0) (Tr.leaf (U6 (o,G.2.2,h,F.2.1.1,i,F.2.1.2,G.1,G.2.1,()))) (Tr.leaf (U5 (o,m,n,h,F.2.1.1,i,F.2.1.2,()))))).sat Q->Is (KE B (0,o,m,n,h,j,i,k,[],()))/\∀(s M:Int)(N:List Tm)(O:KV)(w:BL)(z:Int)(v:Bool)(y:Int)(P:List Lk),let R:= !(if v=true then y else 5)==0;let H:=dn w z v y 0 1048576;KE B (s,M,N,O,w,z,v,y,P,())->Bd (s<5) (bZ w z/\Is (yR B s (s,1,s,H.1,0,M,N,O,w,H.2.1,v,H.2.2,P,()))/\∀(g t e l f p:Int)(q:List Tm)(r:KV)(b:BL)(c:Int)(a:Bool)(d:Int)(u:List Lk),let L:=(p,q,r,b,c,a,d,u,());let E:=u.length+1;let C:=hJ b c a d 32;let S:= !(↑(ah C.1):Int)==32;let x:=dn b C.2.1 a C.2.2 1 65536;let J:=a&&x.2.2==0;let U:= !(if a=true then x.2.2 else 5)==0;let Y:= !(if a=true then if J=true then 5 else x.2.2 else 5)==0;let A:=dn b C.2.1 a (if(a&&C.2.2==0)=true then 5 else C.2.2) 1 65536;let K:=a&&A.2.2==0;let W:= !(if a=true then A.2.2 else 5)==0;let z7:= !(if a=true then if K=true then 5 else A.2.2 else 5)==0;yR B s (g,t,e,l,f,L)->Bd (f<l) (am (f+1)/\bZ b c/\Br S (True/\bZ b C.2.1/\Bd (A.1<t) (True/\True/\Br z7 (Q ⟨0,p,q,r,b,A.2.1,a,if K=true then 5 else A.2.2,()⟩) (E*72<=mM/\am (f+1)/\Is (yR B s (g,A.1,e,l,f+1,p,q,r,b,A.2.1,a,if K=true then 5 else A.2.2,u++[(g,f+1,A.1,[],C.1,())],())/\lN (l-(f+1)) (l-f)))) (True/\Br W (Q ⟨0,p,q,r,b,A.2.1,a,A.2.2,()⟩) (E*72<=mM/\am (f+1)/\Is (yR B s (g,A.1,e,l,f+1,p,q,r,b,A.2.1,a,A.2.2,u++[(g,f+1,A.1,[],C.1,())],())/\lN (l-(f+1)) (l-f))))) (bZ b C.2.1/\Bd (x.1<t) (True/\True/\Br Y (Q ⟨0,p,q,r,b,x.2.1,a,if J=true then 5 else x.2.2,()⟩) (E*72<=mM/\am (f+1)/\Is (yR B s (g,x.1,e,l,f+1,p,q,r,b,x.2.1,a,if J=true then 5 else x.2.2,u++[(g,f+1,x.1,[],C.1,())],())/\lN (l-(f+1)) (l-f)))) (True/\Br U (Q ⟨0,p,q,r,b,x.2.1,a,x.2.2,()⟩) (E*72<=mM/\am (f+1)/\Is (yR B s (g,x.1,e,l,f+1,p,q,r,b,x.2.1,a,x.2.2,u++[(g,f+1,x.1,[],C.1,())],())/\lN (l-(f+1)) (l-f)))))) (am (e+1)/\Is (KE B (e+1,L)/\lN (5-(e+1)) (5-s)))) (True/\Br R (Q ⟨0,M,N,O,w,z,v,y,()⟩) (True/\Is (KF B (P,nI P,0,M,O,w,z,v,y,[],N,()))/\∀(g:List Lk)(t e l:Int)(f:KV)(p:BL)(q:Int)(r:Bool)(b:Int)(c:Ln)(a:List Tm),let D:=gD g e (0,0,0,[],[],());let X:=gy (D.1,D.2.1,D.2.2.1,(fe c D.1).2.2.1,D.2.2.2.2.1,()) a f;KF B (g,t,e,l,f,p,q,r,b,c,a,())->Bd (e<t) (iN e g/\cr c/\(a.length<=4294967296/\cr c)/\am (e+1)/\Is (KF B (g,t,e+1,l,X.2.2,p,q,r,b,pX (D.1,D.2.1,D.2.2.1,(fe c D.1).2.2.1,D.2.2.2.2.1,()) c a f,X.2.1,())/\lN (t-(e+1)) (t-e))) (Q ⟨1,l,f,p,q,r,b,c,a,()⟩)))) (by
 conv=>zeta
 unfold Bd Br gD iN lN mM nI;intro d ts m b a mm e Q ⟨⟨h1,h2,h3⟩,hQ⟩;obtain⟨R,F⟩:∃R,qD b mm 5 0 (a,e) []=R:=⟨_,rfl⟩;rw[F]at hQ;refine⟨⟨rfl,rfl,rfl,rfl,rfl,h1,aq _,0,rfl,ac,rfl⟩,?_⟩
 have G:∀(c:Bool)(a' e':Int)H,(c,(a',e'),H)=R->(c&&yQ mm (a',e')==0)=false->Q ⟨0,(d,ts,m,b,a',mm,e',())⟩:=by
  rintro c a' e' H rfl h;exact hQ.2 h
 rintro i d1 Y m1 b1 a1 s e1 B ⟨rfl,rfl,rfl,rfl,rfl,ha,v,k,rfl,hk,o⟩;rw[F]at o;simp only[ai,aj];refine⟨λhi=>⟨ha,?_,?_⟩,λhi=>?_⟩
 ·have hn:=fx s e1 0 1048576 ha;rw[Qa _ _ _ ac]at o;have p:B.length<=a1.toNat:=v;refine⟨rfl,rfl,rfl,rfl,rfl,hn.1,bE p (Int.toNat_le_toNat hn.2.1),rfl,rfl,k,(dn b1 a1 s e1 0 1048576).1.toNat,0,rfl,ac,?_,?_,rfl,aq _,o.trans F.symm⟩
  ·exact(qJ hn.2.2.1).symm
  ·have:=hn.2.2.2;omega
 ·clear o v;rintro au J i2 n j d2 C m2 A W f e2 g ⟨rfl,rfl,rfl,rfl,rfl,D,w,rfl,a6,X,q,r,rfl,K,rfl,hq,rfl,hr,o⟩;obtain rfl:k=X:=Int.ofNat.inj a6;rw[F]at o;have p:g.length<=W.toNat:=w;have b6:W.toNat<=65536:=by have:=D.2.2;omega
  refine⟨λhj=>?_,λhj=>?_⟩
  ·have ht:=ow f e2 32 D;have er:q-r=(q-(r+1))+1:=ac
   have L:=tk A f k (q-(r+1)) r J W e2 g;rw[er]at o;dsimp only at L;generalize hJ A W f e2 32=t at*
   have go:∀M:Int,(if t.1.length=32 then t.2.2 else if(f&&t.2.2==0)=true then 5 else t.2.2)=M->
    let u:=dn A t.2.1 f M 1 65536
    (bZ A u.2.1)/\∀N:Int,(if u.1<J then(if(f&&u.2.2==0)=true then 5 else u.2.2)else u.2.2)=N->
     ((!(if f=true then N else 5)==0)=true->Q ⟨0,(d2,C,m2,A,u.2.1,f,N,())⟩)/\
     ((!(if f=true then N else 5)==0)=false->(g.length+1)*72<=140737488355328/\am ((r:Int)+1)/\
       Is (yR (d2,C,m2,A,a,f,e,()) (k:Int) ((k:Int),u.1,(k:Int),(q:Int),(r:Int)+1,d2,C,m2,A,u.2.1,f,N,g++[((k:Int),(r:Int)+1,u.1,[],t.1,())],())/\((q:Int)-((r:Int)+1)).toNat<((q:Int)-(r:Int)).toNat)):=by
    intro M O;have hu:=fx f M 1 65536 ht.1;rw[O]at L;generalize a7:dn A t.2.1 f M 1 65536=u at*;refine⟨hu.1,λN P=>?_⟩;rw[P]at L;refine⟨λx=>?_,λx=>⟨ac,cv,⟨⟨rfl,rfl,rfl,rfl,rfl,hu.1,?_,rfl,rfl,k,q,r+1,rfl,K,rfl,hq,rfl,ac,?_⟩,ac⟩⟩⟩
    ·rw[ae (by intro h;rw[h]at x;simp at x)]at L;rw[L]at o;exact G _ _ _ _ o rfl
    ·have g1:=ht.2.1;have g2:=hu.2.1;show(g++[((k:Int),(r:Int)+1,u.1,([]:BL),t.1,())]).length<=u.2.1.toNat;rw[aa,bi]
     have b5:t.1.length=32:=by
      rcases Nat.decEq t.1.length 32 with hx|hx
      ·exfalso;rw[ae hx]at O
       have a8:f=true:=by
        cases f
        ·simp at x
        ·rfl
       subst a8;have b7:N=0:=cf x
       have a0:¬(M=0):=by
        rw[<-O];simp only[lx];split
        ·omega
        ·rename_i hz;simpa using hz
       have a3:=rnE (b:=A) (a:=t.2.1) (m:=true) (e:=M) 1 65536 (cf a0);rw[a7]at a3;rw[a3]at P;simp[a0]at P;omega
      ·exact hx
     omega
    ·rw[ak (cf x)]at L;rw[L]at o;exact o.trans F.symm
   refine⟨cv,D,λhl=>?_,λhl=>?_⟩
   ·have S:¬(t.1.length=32):=by intro h;simp[h]at hl
    obtain⟨q1,E⟩:=go _ (ae S);exact⟨trivial,ht.1,λy=>⟨trivial,trivial,(E _ (ak y)).1,(E _ (ak y)).2⟩,λy=>⟨trivial,(E _ (ae y)).1,(E _ (ae y)).2⟩⟩
   ·have S:t.1.length=32:=by have:(t.1.length:Int)=32:=cf hl
                             omega
    obtain⟨q1,E⟩:=go _ (ak S);exact⟨ht.1,λy=>⟨trivial,trivial,(E _ (ak y)).1,(E _ (ak y)).2⟩,λy=>⟨trivial,(E _ (ae y)).1,(E _ (ae y)).2⟩⟩
  ·have e0:q-r=0:=ac
   rw[e0]at o;exact⟨cv,⟨⟨rfl,rfl,rfl,rfl,rfl,D,w,k+1,rfl,ac,o.trans F.symm⟩,ac⟩⟩
 ·have e0:5-k=0:=ac
  rw[e0]at o;have U:(true,(a1,e1),B)=R:=o;have p:B.length<=a1.toNat:=v;refine⟨trivial,λx=>G _ _ _ _ U ?_,λx=>⟨trivial,⟨rfl,rfl,rfl,?_,rfl,by have:=ha.2.2;omega,0,rfl,aq _,rfl,rfl,rfl⟩,?_⟩⟩
  ·simp only[yQ,lx];have a9:(if s=true then e1 else 5)≠0:=by intro h;rw[h]at x;simp at x
   simpa using a9
  ·have:(R.1&&yQ s R.2.1==0)=true:=by
    rw[<-U];simp only[yQ,lx];simpa using x
   show(true,((a1,e1),B))=rj b1 s (a,e);unfold rj;dsimp only;rw[F,this,<-U]
  ·rintro l n j d2 m2 A W f e2 bk C ⟨rfl,rfl,rfl,hF,rfl,b0,X,rfl,K,rfl,rfl,rfl⟩;have hb:=F7 Y m1 l X K;have a4:cr (nC (l.take X) Y m1).1:=λa=>⟨by have:=(hb.2 a).1;omega,(hb.2 a).2⟩;refine⟨λhj=>⟨ac,a4,⟨by have:=hb.1;omega,a4⟩,cv,⟨⟨rfl,rfl,rfl,hF,rfl,b0,X+1,rfl,ac,?_,?_,?_⟩,ac⟩⟩,λhj=>?_⟩
   ·rw[rk (z:=(0,0,0,[],[],())) ac];rfl
   ·rw[rk (z:=(0,0,0,[],[],())) ac];rfl
   ·rw[rk (z:=(0,0,0,[],[],())) ac];rfl
   ·have b3:X=l.length:=ac
    subst b3;rw[bv];have b4:(true,((W,e2),l))=(R.1&&yQ f R.2.1==0,R.2):=by rw[hF];unfold rj;dsimp only;rw[F]
    obtain⟨f1,f2⟩:=Prod.mk.inj b4;have a5:=hQ.1 f1.symm;rw[<-f2]at a5;exact a5)
def a4e:bG:=(202,[JH])::a4d
def a4f:=kB 202 [JH] U1 (bL NY) (l:=bL (λ_=>Live.need λ_=>Live.ite (λ_=>Live.leaf) (λ_=>Live.leaf)))
abbrev jf:Ty:= .pr .i64 (.pr tB (.pr tB .un))
abbrev Mb:=Int×BL×BL×Unit
abbrev tU:Ty:= .pr .i64 (.pr tB (.pr (.sl jf) (.pr (.sl iZ) (.pr tB (.pr (.sl tB) (.pr tB .un))))))
abbrev Et:=Int×BL×List Mb×List Fk×BL×List BL×BL×Unit
def qO(last:Int):List Int->Bool
 |[]=>true
 |n::r=>if n<=last\/5<=n then false else qO n r
theorem yS(last n:Int)(r:List Int):qO last (n::r)=if n<=last\/5<=n then false else qO n r:=rfl
theorem pe{l:List α}{p:α->Prop}(z:α)(h:∀m∈l.take k,p m)(b:k<l.length)(c:p (l.getD k z)):∀m∈l.take (k+1),p m:=by
 rw[di (z:=z) b];intro m a;rcases ba.1 a with a|a
 ·exact h m a
 ·simp at a;rw[a];exact c
def sFn(i:Nat)(f:FuncId):Nat×Bool×List IP:=(i,false,[.fn f [] []])
def p1C:Ct:=⟨1,⟨[(0,true,[.d jf])],[]⟩,[⟨[sI 0],[]⟩],λ(m,_)=>one True (m.1,())⟩
def a4g:bG:=(141,[p1C])::a4e
def a4h:=kA 141 p1C a4f (cQ p1C 0) (∀(a:Mb)Q,bg p1C (a,()) Q->Q ⟨0,a.1,()⟩) (by
 unfold bg;intro m Q ⟨_,a⟩;exact a)
def p2C:Ct:=⟨1,⟨[(0,true,[.d iZ])],[]⟩,[⟨[sI 0],[]⟩],λ(m,_)=>one True (m.1,())⟩
def a4i:bG:=(143,[p2C])::a4g
def a4j:=kA 143 p2C a4h (cQ p2C 0) (∀(a:Fk)Q,bg p2C (a,()) Q->Q ⟨0,a.1,()⟩) (by
 unfold bg;intro m Q ⟨_,a⟩;exact a)
def rmC:Ct:=⟨2,⟨[(0,false,[.d (.sl jf)]),sFn 1 141],[]⟩,[⟨[sL 0],[]⟩],λ(l,_)=>one (l.length<=1000000) (qO (-1) (l.map (·.1)),())⟩
def rmP:cx:=⟨[sFn 1 141,sI 5,(9,false,[.d (.sl jf)]),sI 10,sI 11],[]⟩
def rmI(l:List Mb)(y:rmP.den):Prop:=match y with
 |(a,b,n,i,_)=>b=l/\n=l.length/\∃k:Nat,i=k/\k<=l.length/\qO a ((l.drop k).map (·.1))=qO (-1) (l.map (·.1))
def rmA(x:rmC.inp.den):eH:=⟨[(3,bS rmP (rmI x.1) λ(_,_,n,i,_)=>(n-i).toNat)],[],[],[],0⟩
def a4k:bG:=(140,[rmC])::a4i
def a4l:=kA 140 rmC a4j rmA (∀(c:List Mb)Q,bg rmC (c,()) Q->Is (rmI c ((-1:Int),c,nI c,0,()))/\∀(e:Int)(b:List Mb)(d a:Int),let z:=gD b a (0,[],[],());rmI c (e,b,d,a,())->Bd (a<d) (iN a b/\True/\Bd (z.1<=e) (Q ⟨0,false,()⟩) (Bd (5<=z.1) (Q ⟨0,false,()⟩) (am (a+1)/\Is (rmI c (z.1,b,d,a+1,())/\lN (d-(a+1)) (d-a))))) (Q ⟨0,true,()⟩)) (by
 conv=>zeta
 unfold Bd gD iN lN nI bg;intro l Q ⟨p,b⟩;have c:∀y,qO (-1) (l.map (·.1))=y->Q ⟨0,(y,())⟩:=λy e=>by rw[e]at b;exact b
 clear b;refine⟨⟨rfl,rfl,0,rfl,aq _,rfl⟩,?_⟩;rintro f j n i ⟨rfl,rfl,k,rfl,q,a⟩;simp only[ai,aj,aG];refine⟨λh=>?_,λh=>c _ ?_⟩
 ·have o:k<j.length:=ac
  rw[dv (z:=((0,[],[],()):Mb)) o,aY,yS]at a;generalize j.getD k ((0,[],[],()):Mb)=H at*;refine⟨ac,trivial,λg=>c _ ?_,λg=>⟨λm=>c _ ?_,λm=>⟨cv,⟨⟨rfl,rfl,k+1,rfl,ac,?_⟩,ac⟩⟩⟩⟩
  ·rw[<-a,ak (.inl g)]
  ·rw[<-a,ak (.inr m)]
  ·rw[<-a,ae ac]
 ·rw[<-a,bu ac];rfl)
def reC:Ct:=⟨2,⟨[(0,false,[.d (.sl iZ)]),sFn 1 143],[]⟩,[⟨[sL 0],[]⟩],λ(l,_)=>one (l.length<=1000000) (qO (-1) (l.map (·.1)),())⟩
def reP:cx:=⟨[sFn 1 143,sI 5,(9,false,[.d (.sl iZ)]),sI 10,sI 11],[]⟩
def reI(l:List Fk)(y:reP.den):Prop:=match y with
 |(a,b,n,i,_)=>b=l/\n=l.length/\∃k:Nat,i=k/\k<=l.length/\qO a ((l.drop k).map (·.1))=qO (-1) (l.map (·.1))
def reA(x:reC.inp.den):eH:=⟨[(3,bS reP (reI x.1) λ(_,_,n,i,_)=>(n-i).toNat)],[],[],[],0⟩
def a4m:bG:=(142,[reC])::a4k
def a4n:=kA 142 reC a4l reA (∀(c:List Fk)Q,bg reC (c,()) Q->Is (reI c ((-1:Int),c,nI c,0,()))/\∀(e:Int)(b:List Fk)(d a:Int),let z:=gD b a (0,0,());reI c (e,b,d,a,())->Bd (a<d) (iN a b/\True/\Bd (z.1<=e) (Q ⟨0,false,()⟩) (Bd (5<=z.1) (Q ⟨0,false,()⟩) (am (a+1)/\Is (reI c (z.1,b,d,a+1,())/\lN (d-(a+1)) (d-a))))) (Q ⟨0,true,()⟩)) (by
 conv=>zeta
 unfold Bd gD iN lN nI bg;intro l Q ⟨p,b⟩;have c:∀y,qO (-1) (l.map (·.1))=y->Q ⟨0,(y,())⟩:=λy e=>by rw[e]at b;exact b
 clear b;refine⟨⟨rfl,rfl,0,rfl,aq _,rfl⟩,?_⟩;rintro f j n i ⟨rfl,rfl,k,rfl,q,a⟩;simp only[ai,aj,aG];refine⟨λh=>?_,λh=>c _ ?_⟩
 ·have o:k<j.length:=ac
  rw[dv (z:=((0,0,()):Fk)) o,aY,yS]at a;generalize j.getD k ((0,0,()):Fk)=H at*;refine⟨ac,trivial,λg=>c _ ?_,λg=>⟨λm=>c _ ?_,λm=>⟨cv,⟨⟨rfl,rfl,k+1,rfl,ac,?_⟩,ac⟩⟩⟩⟩
  ·rw[<-a,ak (.inl g)]
  ·rw[<-a,ak (.inr m)]
  ·rw[<-a,ae ac]
 ·rw[<-a,bu ac];rfl)
def AI:Mb:=(0,[],[],())
def wx(m:Mb):Prop:=m.2.1.length=32/\m.2.2.1.length=32
def AJ(x:Fk):Prop:=0<=x.2.1/\x.2.1<=1048576
instance (m:Mb):Decidable (wx m):=by unfold wx;infer_instance
instance (m:Fk):Decidable (AJ m):=by unfold AJ;infer_instance
def pB(ms:List Mb)(es:List Fk):Bool:=decide (1<=ms.length/\(ms.getD 0 AI).1=0/\qO (-1) (ms.map (·.1))=true/\qO (-1) (es.map (·.1))=true/\(∀m∈ms,wx m)/\∀e∈es,AJ e)
def TD:Ct:=⟨2,⟨[(0,false,[.d (.sl jf)]),(1,false,[.d (.sl iZ)])],[]⟩,[⟨[sL 0],[]⟩],λ(a,b,_)=>one (a.length<=1000000/\b.length<=1000000) (pB a b,())⟩
def ptP:cx:=⟨[(1,false,[.d (.sl iZ)]),(29,false,[.d (.sl jf)]),sI 30,sI 31],[]⟩
def ptI(x:TD.inp.den)(y:ptP.den):Prop:=match x,y with
 |(a,e,_),(b,c,n,i,_)=>b=e/\c=a/\n=a.length/\(1<=a.length/\(a.getD 0 AI).1=0/\qO (-1) (a.map (·.1))=true/\qO (-1) (e.map (·.1))=true)/\∃k:Nat,i=k/\k<=a.length/\∀m∈a.take k,wx m
def puP:cx:=⟨[(46,false,[.d (.sl iZ)]),sI 47,sI 48],[]⟩
def puI(x:TD.inp.den)(y:puP.den):Prop:=match x,y with
 |(b,a,_),(c,n,i,_)=>c=a/\n=a.length/\(1<=b.length/\(b.getD 0 AI).1=0/\qO (-1) (b.map (·.1))=true/\qO (-1) (a.map (·.1))=true/\∀m∈b,wx m)/\∃k:Nat,i=k/\k<=a.length/\∀m∈a.take k,AJ m
def ptA(x:TD.inp.den):eH:=⟨[(4,bS ptP (ptI x) λ(_,_,n,i,_)=>(n-i).toNat),(10,bS puP (puI x) λ(_,n,i,_)=>(n-i).toNat)],[],[],[],0⟩
def a4o:bG:=(99,[TD])::a4m
def a4p:=kA 99 TD a4n ptA (∀(a:List Mb)(d:List Fk)Q,let l:= !(a.getD 0 (0,[],[],())).1==0;let m:= !qO (-1:Int) (List.map (λa=>a.1) d);let n:= !qO (-1:Int) (List.map (λa=>a.1) a);bg TD (a,d,()) Q->Bd (nI a<1) (Q ⟨0,false,()⟩) (((0:Int)<=0/\0<nI a)/\Br l (Q ⟨0,false,()⟩) (a.length<=1000000/\Br n (Q ⟨0,false,()⟩) (d.length<=1000000/\Br m (Q ⟨0,false,()⟩) (Is (ptI (a,d,()) (d,a,nI a,0,()))/\∀(i:List Fk)(e:List Mb)(g b:Int),let z:=gD e b (0,[],[],());let o:= !(↑(ah z.2.1):Int)==32;let p:= !(↑(ah z.2.2.1):Int)==32;ptI (a,d,()) (i,e,g,b,())->Bd (b<g) (iN b e/\Br o (Q ⟨0,false,()⟩) (Br p (Q ⟨0,false,()⟩) (am (b+1)/\Is (ptI (a,d,()) (i,e,g,b+1,())/\lN (g-(b+1)) (g-b))))) (Is (puI (a,d,()) (i,nI i,0,()))/\∀(f:List Fk)(h c:Int),let j:=gD f c (0,0,());puI (a,d,()) (f,h,c,())->Bd (c<h) (iN c f/\Bd (j.2.1<0) (Q ⟨0,false,()⟩) (Bd (1048576<j.2.1) (Q ⟨0,false,()⟩) (am (c+1)/\Is (puI (a,d,()) (f,h,c+1,())/\lN (h-(c+1)) (h-c))))) (Q ⟨0,true,()⟩))))))) (by
 conv=>zeta
 unfold Bd Br gD iN lN nI bg;intro q y Q ⟨⟨D,E⟩,B⟩
 have hB:∀b:Bool,(b=true↔(1<=q.length/\(q.getD 0 AI).1=0/\qO (-1) (q.map (·.1))=true/\qO (-1) (y.map (·.1))=true/\(∀m∈q,wx m)/\∀e∈y,AJ e))->Q ⟨0,(b,())⟩:=by
  intro b F
  have:b=pB q y:=by
   unfold pB;rw[nr,F,ai]
  rw[this];exact B
 clear B;simp only[ai,aj];refine⟨λa=>hB _ (by constructor<;>intro h<;>simp at h;omega),λa=>⟨ac,λc=>hB _ ?_,λc=>⟨D,λe=>hB _ ?_,λe=>⟨E,λf=>hB _ ?_,λf=>⟨⟨rfl,rfl,rfl,⟨ac,show(q.getD 0 (0,[],[],())).1=(0:Int)by simpa using c,cf e,cf f⟩,0,rfl,aq _,bY⟩,?_⟩⟩⟩⟩⟩
 ·constructor
  ·intro h;simp at h
  ·rintro⟨_,h,_⟩;have G:(q.getD 0 (0,[],[],())).1=(0:Int):=h;rw[G]at c;simp at c
 ·constructor
  ·intro h;simp at h
  ·rintro⟨_,_,h,_⟩;simp[h]at e
 ·constructor
  ·intro h;simp at h
  ·rintro⟨_,_,_,h,_⟩;simp[h]at f
 ·rintro J r n i ⟨rfl,rfl,rfl,o,k,rfl,L,C⟩;simp only[aG];refine⟨λh=>?_,λh=>⟨⟨rfl,rfl,⟨o.1,o.2.1,o.2.2.1,o.2.2.2,?_⟩,0,rfl,aq _,bY⟩,?_⟩⟩
  ·have u:k<r.length:=ac
   have v:=aV (z:=((0,[],[],()):Mb)) u;have A:=λo=>pe ((0,[],[],()):Mb) (p:=wx) C u o;generalize r.getD k (0,[],[],())=H at*;refine⟨ac,λg=>hB _ ?_,λg=>⟨λw=>hB _ ?_,λw=>⟨cv,⟨⟨rfl,rfl,rfl,o,k+1,rfl,ac,A ⟨?_,?_⟩⟩,ac⟩⟩⟩⟩
   ·constructor
    ·intro h;simp at h
    ·rintro⟨_,_,_,_,h,_⟩;have:=(h H v).1;simp[this]at g
   ·constructor
    ·intro h;simp at h
    ·rintro⟨_,_,_,_,h,_⟩;have:=(h H v).2;simp[this]at w
   ·have:(H.2.1.length:Int)=32:=cf g
    omega
   ·have:(H.2.2.1.length:Int)=32:=cf w
    omega
  ·have:k=r.length:=ac
   rwa [this,bv]at C
  ·rintro s M j ⟨rfl,rfl,l,x,rfl,K,t⟩;refine⟨λh=>?_,λh=>hB _ ?_⟩
   ·have u:x<s.length:=ac
    have v:=aV (z:=((0,0,()):Fk)) u;have A:=λo=>pe ((0,0,()):Fk) (p:=AJ) t u o;simp only[aG];generalize s.getD x (0,0,())=H at*;refine⟨ac,λg=>hB _ ?_,λg=>⟨λw=>hB _ ?_,λw=>⟨cv,⟨⟨rfl,rfl,l,x+1,rfl,ac,A ⟨ac,ac⟩⟩,ac⟩⟩⟩⟩
    ·constructor
     ·intro h;simp at h
     ·rintro⟨_,_,_,_,_,h⟩;have:=(h H v).1;omega
    ·constructor
     ·intro h;simp at h
     ·rintro⟨_,_,_,_,_,h⟩;have:=(h H v).2;omega
   ·have:x=s.length:=ac
    rw[this,bv]at t;exact⟨λ_=>⟨l.1,l.2.1,l.2.2.1,l.2.2.2.1,l.2.2.2.2,t⟩,λ_=>rfl⟩)
def iT(e:Et):Prop:=e.2.2.1.length<=1000000/\e.2.2.2.1.length<=1000000/\e.2.2.2.2.2.1.length<=1000000
def iU(e:Et):Bool:=decide (1<=e.1/\e.1<=65536/\(e.1=1/\e.2.1.length=0\/e.2.1.length=32)/\pB e.2.2.1 e.2.2.2.1=true/\(∀b∈e.2.2.2.2.2.1,b.length=48)/\e.2.2.2.2.1.length=32/\e.2.2.2.2.2.1.length=e.2.2.1.length/\e.2.2.2.2.2.2.1.length=64)
def U7:Ct:=⟨1,⟨[(0,true,[.d tU])],[]⟩,[⟨[sL 0],[]⟩],λ(e,_)=>one (iT e) (iU e,())⟩
def etP:cx:=⟨[(1,false,[.ptr 0 0]),(42,false,[.d (.sl tB)]),sI 43,sI 44],[some (.cells [.d tU])]⟩
def etI(e:Et)(y:etP.den):Prop:=match y with
 |(a,n,i,c,_)=>c=e/\a=e.2.2.2.2.2.1/\n=a.length/\(1<=e.1/\e.1<=65536/\(e.1=1/\e.2.1.length=0\/e.2.1.length=32)/\pB e.2.2.1 e.2.2.2.1=true)/\∃k:Nat,i=k/\k<=a.length/\∀b∈a.take k,b.length=48
def etJ:cx:=⟨[(1,false,[.ptr 0 0])],[some (.cells [.d tU])]⟩
def etK(e:Et)(y:etJ.den):Prop:=match y with
 |(a,_)=>a=e/\(1<=e.1/\e.1<=65536/\(e.1=1/\e.2.1.length=0\/e.2.1.length=32)/\pB e.2.2.1 e.2.2.2.1=true)
def etA(x:U7.inp.den):eH:=⟨[(5,bS etP (etI x.1) λ(_,n,i,_)=>(n-i).toNat)],[(4,bS etJ (etK x.1) λ_=>0)],[],[],0⟩
def a4q:bG:=(60,[U7])::a4o
def U8:=kA 60 U7 a4p etA (∀(a:Et)(Q:cF U7.out->Prop),let l:= !pB a.2.2.1 a.2.2.2.1;let g:=decide (a.1<1)=true->Q ⟨0,false,()⟩;let h:=decide (65536<a.1)=true->Q ⟨0,false,()⟩;let i:=(ah a.2.2.1<=1000000/\ah a.2.2.2.1<=1000000)/\Br l (Q ⟨0,false,()⟩) (Is (etK a ((a.1,a.2.1,a.2.2.1,a.2.2.2.1,a.2.2.2.2.1,a.2.2.2.2.2.1,a.2.2.2.2.2.2.1,()),())));let j:=Br (!(nI a.2.1)==32) (Q ⟨0,false,()⟩) i;let z:=∀(d:Et),etK a (d,())->Is (etI a (d.2.2.2.2.2.1,nI d.2.2.2.2.2.1,0,(d.1,d.2.1,d.2.2.1,d.2.2.2.1,d.2.2.2.2.1,d.2.2.2.2.2.1,d.2.2.2.2.2.2.1,()),()))/\∀(f:List BL)(e c:Int)(b:Et),let m:= !(nI (gD f c []))==48;let n:=nI b.2.2.2.2.2.1==nI b.2.2.1;etI a (f,e,c,b,())->Bd (c<e) (iN c f/\Br m (Q ⟨0,false,()⟩) (am (c+1)/\Is (etI a (f,e,c+1,(b.1,b.2.1,b.2.2.1,b.2.2.2.1,b.2.2.2.2.1,b.2.2.2.2.2.1,b.2.2.2.2.2.2.1,()),())/\lN (e-(c+1)) (e-c)))) (Br (nI b.2.2.2.2.1==32) (Br n (Q ⟨0,nI b.2.2.2.2.2.2.1==64,()⟩) (Q ⟨0,false,()⟩)) (Q ⟨0,false,()⟩));bg U7 (a,()) Q->Br (a.1==1) ((g/\(decide (a.1<1)=false->h/\(decide (65536<a.1)=false->Br (!(nI a.2.1)==0) j i)))/\z) ((g/\(decide (a.1<1)=false->h/\(decide (65536<a.1)=false->j)))/\z)) (by
 conv=>zeta
 unfold Bd Br gD iN lN nI bg;rintro⟨n,pv,m,o,v,r,w,⟨⟩⟩ Q ⟨l,x⟩;dsimp only
 have hB:∀b:Bool,(b=true↔(1<=n/\n<=65536/\(n=1/\pv.length=0\/pv.length=32)/\pB m o=true/\(∀b∈r,b.length=48)/\v.length=32/\r.length=m.length/\w.length=64))->Q ⟨0,(b,())⟩:=by
  intro b A
  have:b=iU (n,pv,m,o,v,r,w,()):=by
   unfold iU;rw[nr,A,ai]
  rw[this];exact x
 clear x;have f:(¬(1<=n/\n<=65536/\(n=1/\pv.length=0\/pv.length=32)/\pB m o=true))->Q ⟨0,(false,())⟩:=λh=>hB _ ⟨λh=>by simp at h,λg=>absurd ⟨g.1,g.2.1,g.2.2.1,g.2.2.2.1⟩ h⟩;simp only[ai,aj,aR,aN,aS,aC,ne_eq];refine⟨λh=>⟨?h1,?t1⟩,λh=>⟨?h2,?t2⟩⟩
 case h1=>
  refine⟨λa=>f ac,λa=>⟨λb=>f ac,λb=>⟨λc=>⟨λd=>f ac,λd=>⟨⟨l.1,l.2.1⟩,λe=>f (by simp[e]),λe=>⟨rfl,ac,ac, .inr (Int.ofNat.inj d),e⟩⟩⟩,λc=>⟨⟨l.1,l.2.1⟩,λe=>f (by simp[e]),λe=>⟨rfl,ac,ac, .inl ⟨h,Int.ofNat.inj c⟩,e⟩⟩⟩⟩⟩
 case h2=>
  refine⟨λa=>f ac,λa=>⟨λb=>f ac,λb=>⟨λd=>f ac,λd=>⟨⟨l.1,l.2.1⟩,λe=>f (by simp[e]),λe=>⟨rfl,ac,ac, .inr (Int.ofNat.inj d),e⟩⟩⟩⟩⟩
 all_goals
  rintro D ⟨rfl,j⟩;refine⟨⟨rfl,rfl,rfl,j,0,rfl,aq _,bY⟩,?_⟩;rintro s E i F ⟨rfl,rfl,rfl,_,k,rfl,G,t⟩;dsimp only at*;simp only[aG];refine⟨λg=>?_,λg=>?_⟩
  ·have y:k<s.length:=ac
   have:=l.2.2;dsimp only at this;have B:=aV (z:=([]:BL)) y;have C:=λj=>pe ([]:BL) (p:=λb=>b.length=48) t y j;generalize s.getD k []=H at*;refine⟨ac,λc=>hB _ ⟨λq=>by simp at q,λq=>?_⟩,λc=>⟨cv,⟨⟨rfl,rfl,rfl,j,k+1,rfl,ac,C ac⟩,ac⟩⟩⟩;have:=q.2.2.2.2.1 H B;omega
  ·have u:k=s.length:=ac
   rw[u,bv]at t;refine⟨λc=>⟨λd=>hB _ ⟨λq=>?_,λq=>?_⟩,λd=>hB _ ⟨λq=>by simp at q,λq=>ac⟩⟩,λc=>hB _ ⟨λq=>by simp at q,λq=>ac⟩⟩
   ·simp only[aS]at q;exact⟨j.1,j.2.1,j.2.2.1,j.2.2.2,t,ac,ac,ac⟩
   ·simp only[aS];omega)
def tx(s:BL):BL:=vn s.length++s
def pY(m:Mb):BL:=vn m.1++tx m.2.1++tx m.2.2.1
def qP(x:Fk):BL:=vn x.1++vn x.2.1
def fl{α:Type}(f:α->BL)(l:List α):BL:=(l.map f).flatten
theorem ph(f:α->BL){l:List α}(z:α)(h:k<l.length):fl f (l.take (k+1))=fl f (l.take k)++f (l.getD k z):=by
 rw[di (z:=z) h];simp[fl]
theorem jA(f:α->BL)(l:List α):∀k,(fl f (l.take k)).length<=(fl f l).length:=by
 intro k;have:fl f l=fl f (l.take k)++fl f (l.drop k):=by unfold fl;rw[<-List.flatten_append,<-dL,ej]
 rw[this];simp
theorem eC(s:BL):(tx s).length<=s.length+7:=by have:=bC s.length;simp only[tx,aa];omega
theorem nD(s:BL):s.length<=(tx s).length:=by simp only[tx,aa];omega
def eo(e:Et):BL:=vn 1++vn e.1++tx e.2.1++vn e.2.2.1.length++fl pY e.2.2.1++vn e.2.2.2.1.length++fl qP e.2.2.2.1++tx e.2.2.2.2.1
def dS(e:Et):BL:=eo e++vn e.2.2.2.2.2.1.length++fl tx e.2.2.2.2.2.1
def AK:Ct:=⟨2,⟨[sB 0,(1,true,[.d tU])],[]⟩,[⟨[(0,false,[.d tB])],[]⟩],λ(b,e,_)=>one (b.length+(eo e).length<=1000000000/\iT e) (b++eo e,())⟩
def U9:cx:=⟨[sB 0,(3,false,[.ptr 0 0]),(23,false,[.d (.sl jf)]),sI 24,sI 25],[some (.cells [.d tU])]⟩
def KG(b:BL)(e:Et)(y:U9.den):Prop:=match y with
 |(q,a,n,i,c,_)=>c=e/\a=e.2.2.1/\n=a.length/\∃k:Nat,i=k/\k<=a.length/\q=b++(vn 1++vn e.1++tx e.2.1++vn e.2.2.1.length++fl pY (a.take k))
def Va:cx:=⟨[sB 0,(3,false,[.ptr 0 0]),(46,false,[.d (.sl iZ)]),sI 47,sI 48],[some (.cells [.d tU])]⟩
def KH(b:BL)(e:Et)(y:Va.den):Prop:=match y with
 |(q,a,n,i,c,_)=>c=e/\a=e.2.2.2.1/\n=a.length/\∃k:Nat,i=k/\k<=a.length/\q=b++(vn 1++vn e.1++tx e.2.1++vn e.2.2.1.length++fl pY e.2.2.1++vn e.2.2.2.1.length++fl qP (a.take k))
def a4r(x:AK.inp.den):eH:=⟨[(4,bS U9 (KG x.1 x.2.1) λ(_,_,n,i,_)=>(n-i).toNat),(10,bS Va (KH x.1 x.2.1) λ(_,_,n,i,_)=>(n-i).toNat)],[],[],[],0⟩
theorem F8:bW Tryz.prog 84 AK:=kC U8 a4r (∀(e:BL)(a:Et)Q,let n:=vn (nI a.2.1)++a.2.1;bg AK (e,a,()) Q->e.length<=1099511627776/\(e++vn 1).length<=1099511627776/\(e++vn 1++vn a.1).length+ah a.2.1<=1099511627776/\(e++vn 1++vn a.1++n).length<=1099511627776/\Is (KG e a (e++vn 1++vn a.1++n++vn (nI a.2.2.1),a.2.2.1,nI a.2.2.1,0,(a.1,a.2.1,a.2.2.1,a.2.2.2.1,a.2.2.2.2.1,a.2.2.2.2.2.1,a.2.2.2.2.2.2.1,()),()))/\∀(h:BL)(d:List Mb)(i b:Int)(c:Et),let o:=(c.1,c.2.1,c.2.2.1,c.2.2.2.1,c.2.2.2.2.1,c.2.2.2.2.2.1,c.2.2.2.2.2.2.1,());let z:=gD d b (0,[],[],());let p:=vn (↑(ah z.2.1):Int)++z.2.1;KG e a (h,d,i,b,c,())->Bd (b<i) (iN b d/\h.length<=1099511627776/\(h++vn z.1).length+ah z.2.1<=1099511627776/\(h++vn z.1++p).length+ah z.2.2.1<=1099511627776/\am (b+1)/\Is (KG e a (h++vn z.1++p++(vn (↑(ah z.2.2.1):Int)++z.2.2.1),d,i,b+1,o,())/\lN (i-(b+1)) (i-b))) (h.length<=1099511627776/\Is (KH e a (h++vn (nI c.2.2.2.1),c.2.2.2.1,nI c.2.2.2.1,0,o,()))/\∀(j:BL)(k:List Fk)(l f:Int)(g:Et),let m:=gD k f (0,0,());KH e a (j,k,l,f,g,())->Bd (f<l) (iN f k/\j.length<=1099511627776/\(j++vn m.1).length<=1099511627776/\am (f+1)/\Is (KH e a (j++vn m.1++vn m.2.1,k,l,f+1,(g.1,g.2.1,g.2.2.1,g.2.2.2.1,g.2.2.2.2.1,g.2.2.2.2.2.1,g.2.2.2.2.2.2.1,()),())/\lN (l-(f+1)) (l-f))) (j.length+ah g.2.2.2.2.1<=1099511627776/\Q ⟨0,j++(vn (nI g.2.2.2.2.1)++g.2.2.2.2.1),()⟩))) (by
 conv=>zeta
 unfold Bd gD iN lN nI bg;rintro b ⟨n,pv,a,c,l,p,r,⟨⟩⟩ Q ⟨⟨u,D,E,F⟩,v⟩;dsimp only at*;have w:∀s:BL,vn s.length++s=tx s:=λ_=>rfl;simp only[w];have t:eo (n,pv,a,c,l,p,r,())=vn 1++vn n++tx pv++vn a.length++fl pY a++vn c.length++fl qP c++tx l:=rfl;have m:b.length+(eo (n,pv,a,c,l,p,r,())).length<=1000000000:=u;rw[t]at m;simp only[aa]at m;have G:=nD pv;have J:=nD l;simp only[aa];refine⟨ac,ac,ac,ac,⟨rfl,rfl,rfl,0,rfl,aq _,by simp[fl]⟩,?_⟩;rintro q a x i z ⟨rfl,rfl,rfl,k,rfl,A,rfl⟩;dsimp only at*;simp only[aG,ai,aj];have B:=jA pY a k;simp only[aa];refine⟨λh=>?_,λh=>?_⟩
 ·have f:k<a.length:=ac
  have o:=ph pY (0,[],[],()) f;have g:=jA pY a (k+1);rw[o,aa]at g;generalize a.getD k (0,[],[],())=H at*;simp only[pY,aa]at g;have K:=nD H.2.1;have L:=nD H.2.2.1;refine⟨ac,ac,ac,ac,cv,⟨⟨rfl,rfl,rfl,k+1,rfl,f,?_⟩,ac⟩⟩;rw[o];simp only[pY,ay]
 ·have j:k=a.length:=ac
  subst j;rw[bv]at*;refine⟨ac,⟨rfl,rfl,rfl,0,rfl,aq _,by simp[fl]⟩,?_⟩;rintro q c x i z ⟨rfl,rfl,rfl,k,rfl,A,rfl⟩;dsimp only at*;simp only[aG];have B:=jA qP c k;simp only[aa];refine⟨λh=>?_,λh=>?_⟩
  ·have f:k<c.length:=ac
   have o:=ph qP (0,0,()) f;have g:=jA qP c (k+1);rw[o,aa]at g;generalize c.getD k (0,0,())=H at*;simp only[qP,aa]at g;refine⟨ac,ac,ac,cv,⟨⟨rfl,rfl,rfl,k+1,rfl,f,?_⟩,ac⟩⟩;rw[o];simp only[qP,ay]
  ·have j:k=c.length:=ac
   subst j;rw[bv]at*;refine⟨ac,?_⟩;have C:∀y,y=b++eo (n,pv,a,c,l,p,r,())->Q ⟨0,(y,())⟩:=λy e=>by rw[e];exact v
   refine C _ ?_;rw[t];simp only[ay])
def Vb:bG:=(84,[AK])::a4q
def Vc:=kB 84 [AK] U8 (bL (F8))
def KI:Ct:=⟨2,⟨[sB 0,(1,true,[.d tU])],[]⟩,[⟨[(0,false,[.d tB])],[]⟩],λ(b,e,_)=>one (b.length+(dS e).length<=1000000000/\iT e) (b++dS e,())⟩
def Vd:cx:=⟨[sB 0,(15,false,[.d (.sl tB)]),sI 16,sI 17],[]⟩
def KJ(b:BL)(e:Et)(y:Vd.den):Prop:=match y with
 |(q,a,n,i,_)=>a=e.2.2.2.2.2.1/\n=a.length/\∃k:Nat,i=k/\k<=a.length/\q=b++(eo e++vn a.length++fl tx (a.take k))
def a4s(x:KI.inp.den):eH:=⟨[(3,bS Vd (KJ x.1 x.2.1) λ(_,_,n,i,_)=>(n-i).toNat)],[],[],[],0⟩
def Ve:bG:=(109,[KI])::Vb
def Vf:=kA 109 KI Vc a4s (∀(c:BL)(a:Et)Q,let z:=(a.1,a.2.1,a.2.2.1,a.2.2.2.1,a.2.2.2.2.1,a.2.2.2.2.2.1,a.2.2.2.2.2.2.1,());bg KI (c,a,()) Q->(c.length+ah (eo z)<=1000000000/\iT z)/\(c++eo z).length<=1099511627776/\Is (KJ c a (c++eo z++vn (nI a.2.2.2.2.2.1),a.2.2.2.2.2.1,nI a.2.2.2.2.2.1,0,()))/\∀(f:BL)(d:List BL)(e b:Int),KJ c a (f,d,e,b,())->Bd (b<e) (iN b d/\f.length+(gD d b []).length<=1099511627776/\am (b+1)/\Is (KJ c a (f++(vn (nI (gD d b []))++gD d b []),d,e,b+1,())/\lN (e-(b+1)) (e-b))) (Q ⟨0,f,()⟩)) (by
 conv=>zeta
 unfold Bd gD iN lN nI bg;rintro b ⟨n,pv,c,f,g,a,j,⟨⟩⟩ Q ⟨⟨x,t⟩,z⟩;dsimp only at*;have A:∀s:BL,vn s.length++s=tx s:=λ_=>rfl;simp only[A];have u:dS (n,pv,c,f,g,a,j,())=eo (n,pv,c,f,g,a,j,())++vn a.length++fl tx a:=rfl;have o:b.length+(dS (n,pv,c,f,g,a,j,())).length<=1000000000:=x;rw[u]at o;have v:∀y,y=b++dS (n,pv,c,f,g,a,j,())->Q ⟨0,(y,())⟩:=λy e=>by rw[e];exact z
 rw[u]at v;generalize m:eo (n,pv,c,f,g,a,j,())=C at*;simp only[aa]at*;refine⟨⟨ac,t⟩,ac,⟨rfl,rfl,0,rfl,aq _,by rw[m];simp[fl]⟩,?_⟩;rintro q a D i ⟨rfl,rfl,k,rfl,E,rfl⟩;simp only[aG,ai,aj];have F:=jA tx a k;have B:=t.2.2;dsimp only at B;refine⟨λh=>?_,λh=>?_⟩
 ·have l:k<a.length:=ac
  have w:=ph tx [] l;have p:=jA tx a (k+1);rw[w,aa]at p;have G:=nD (a.getD k []);rw[m];simp only[aa];refine⟨ac,ac,cv,⟨⟨rfl,rfl,k+1,rfl,l,?_⟩,ac⟩⟩;rw[w,m];simp only[ay]
 ·have r:k=a.length:=ac
  subst r;refine v _ ?_;rw[bv,m])
def gi(e:Et):BL:=dS e++tx e.2.2.2.2.2.2.1
def KL:Ct:=⟨2,⟨[sB 0,(1,true,[.d tU])],[]⟩,[⟨[(0,false,[.d tB])],[]⟩],λ(b,e,_)=>one (b.length+(gi e).length<=1000000000/\iT e) (b++gi e,())⟩
def Vg:bG:=(73,[KL])::Ve
def Vh:=kA 73 KL Vf (cQ KL 0) (∀(b:BL)(a:Et)Q,let z:=(a.1,a.2.1,a.2.2.1,a.2.2.2.1,a.2.2.2.2.1,a.2.2.2.2.2.1,a.2.2.2.2.2.2.1,());bg KL (b,a,()) Q->(b.length+ah (dS z)<=1000000000/\iT z)/\(b++dS z).length+ah a.2.2.2.2.2.2.1<=1099511627776/\Q ⟨0,b++dS z++(vn (nI a.2.2.2.2.2.2.1)++a.2.2.2.2.2.2.1),()⟩) (by
 conv=>zeta
 unfold nI bg;rintro b ⟨n,pv,c,f,g,h,a,⟨⟩⟩ Q ⟨⟨l,m⟩,o⟩;dsimp only at*;have p:∀s:BL,vn s.length++s=tx s:=λ_=>rfl;simp only[p];have j:gi (n,pv,c,f,g,h,a,())=dS (n,pv,c,f,g,h,a,())++tx a:=rfl;have i:b.length+(gi (n,pv,c,f,g,h,a,())).length<=1000000000:=l;rw[j]at i;have r:=nD a;simp only[aa]at*;refine⟨⟨ac,m⟩,ac,?_⟩;have q:∀y,y=b++gi (n,pv,c,f,g,h,a,())->Q ⟨0,(y,())⟩:=λy e=>by rw[e];exact o
 exact q _ (by rw[j,ay]))
def TE:Option CP:=some (.sl jf)
def KN:Ct:=⟨1,⟨[(0,false,[.d (.sl jf)])],[]⟩,[⟨[sO 0 0],[TE]⟩],λ(l,_)=>one (l.length<=1000000/\∀m∈l,m.2.1.length<=1000000/\m.2.2.1.length<=1000000) (l,())⟩
def Vi:cx:=⟨[sO 3 0,(6,false,[.d (.sl jf)]),sI 7,sI 8],[TE]⟩
def KO(l:List Mb)(y:Vi.den):Prop:=match y with
 |(a,n,i,v,_)=>a=l/\n=l.length/\∃k:Nat,i=k/\k<=l.length/\v=l.take k
def a4t(x:KN.inp.den):eH:=⟨[(3,bS Vi (KO x.1) λ(_,n,i,_)=>(n-i).toNat)],[],[],[],0⟩
def Vj:bG:=(90,[KN])::Vg
def NZ:=kA 90 KN Vh a4t (∀(c:List Mb)Q,bg KN (c,()) Q->Is (KO c (c,nI c,0,[],()))/\∀(b:List Mb)(d a:Int)(e:List Mb),let z:=gD b a (0,[],[],());KO c (b,d,a,e,())->Bd (a<d) (iN a b/\(0+ah z.2.1)*1<=mM/\(0+ah z.2.2.1)*1<=mM/\(e.length+1)*56<=mM/\am (a+1)/\Is (KO c (b,d,a+1,e++[(z.1,z.2.1,z.2.2.1,())],())/\lN (d-(a+1)) (d-a))) (Q ⟨0,e,()⟩)) (by
 conv=>zeta
 unfold Bd gD iN lN mM nI bg;intro l Q ⟨⟨j,c⟩,b⟩;have f:∀y,l=y->Q ⟨0,(y,())⟩:=λy e=>by rw[e]at b;exact b
 clear b;refine⟨⟨rfl,rfl,0,rfl,aq _,rfl⟩,?_⟩;rintro l n i v ⟨rfl,rfl,k,rfl,m,rfl⟩;simp only[aG,ai,aj];refine⟨λh=>?_,λh=>f _ ?_⟩
 ·have a:k<l.length:=ac
  have o:=c _ (aV (z:=((0,[],[],()):Mb)) a);have g:=di (z:=((0,[],[],()):Mb)) a;refine⟨ac,ac,ac,eM,cv,⟨⟨rfl,rfl,k+1,rfl,a,g.symm⟩,ac⟩⟩
 ·rw[bb ac])
def gn:List Mb->Int->Mb×Bool
 |[],_=>(AI,false)
 |m::r,id=>if m.1=id then(m,true)else gn r id
def F9:Ct:=⟨2,⟨[(0,false,[.d (.sl jf)]),sI 1],[]⟩,[⟨[(0,true,[.d jf]),sL 1],[]⟩],λ(l,id,_)=>one (l.length<=1000000) ((gn l id).1,(gn l id).2,())⟩
def Vk:cx:=⟨[sI 1,(4,false,[.ptr 0 0]),(8,false,[.d (.sl jf)]),sI 9,sI 10],[some (.cells [.d jf])]⟩
def KP(l:List Mb)(id:Int)(y:Vk.den):Prop:=match y with
 |(a,b,n,i,z,_)=>a=id/\b=l/\n=l.length/\∃k:Nat,i=k/\k<=l.length/\gn (l.drop k) id=gn l id
def a4u(x:F9.inp.den):eH:=⟨[(2,bS Vk (KP x.1 x.2.1) λ(_,_,n,i,_)=>(n-i).toNat)],[],[],[],0⟩
theorem Ga:bW Tryz.prog 145 F9:=kC NZ a4u (∀(c:List Mb)(e:Int)Q,bg F9 (c,e,()) Q->Is (KP c e (e,c,nI c,0,(0,[],[],()),()))/\∀(f:Int)(b:List Mb)(d a:Int)(g:Mb),let z:=gD b a (0,[],[],());KP c e (f,b,d,a,g,())->Bd (a<d) (iN a b/\Br (z.1==f) (Q ⟨0,(z.1,z.2.1,z.2.2.1,()),true,()⟩) (am (a+1)/\Is (KP c e (f,b,d,a+1,(g.1,g.2.1,g.2.2.1,()),())/\lN (d-(a+1)) (d-a)))) (Q ⟨0,(0,[],[],()),false,()⟩)) (by
 conv=>zeta
 unfold Bd Br gD iN lN nI bg;intro l id Q ⟨j,c⟩;have f:∀y:Mb×Bool,gn l id=y->Q ⟨0,(y.1,y.2,())⟩:=λy e=>by rw[<-e];exact c
 clear c;refine⟨⟨rfl,rfl,rfl,0,rfl,aq _,rfl⟩,?_⟩;rintro id l n i z ⟨rfl,rfl,rfl,k,rfl,m,a⟩;simp only[aG,ai,aj,aS,aC,ne_eq];refine⟨λh=>?_,λh=>f (AI,false) ?_⟩
 ·have b:k<l.length:=ac
  rw[dv (z:=((0,[],[],()):Mb)) b]at a;generalize l.getD k (0,[],[],())=H at*;simp only[gn]at a;refine⟨ac,λg=>f (H,true) ?_,λg=>⟨cv,⟨⟨rfl,rfl,rfl,k+1,rfl,b,?_⟩,ac⟩⟩⟩
  ·rw[<-a,ak g]
  ·rw[<-a,ae g]
 ·rw[<-a,bu ac];rfl)
def Vl:bG:=(145,[F9])::Vj
def Vm:=kB 145 [F9] NZ (bL (Ga))
abbrev TG:Ty:= .pr tB (.pr (.sl tU) (.pr (.sl tB) .un))
abbrev Lg:=BL×List Et×List BL×Unit
def tV:List (Option CP):=[some (.cells [.d tB, .d (.sl tU), .d (.sl tB)])]
def AM(es:List Et):Prop:=es.length<=1000000/\∀e∈es,iT e
def N0:Bool->List Et->Int->Bool
 |_,[],_=>false
 |a,e::r,id=>if a&& !(gn e.2.2.1 id).2 then true else N0 (gn e.2.2.1 id).2 r id
def Gb:Ct:=⟨2,⟨[sP 0,sI 1],tV⟩,[⟨[sL 0],tV⟩],λ(id,a,b,c,_)=>one (AM b) (N0 false b id,a,b,c,())⟩
def Vn:cx:=⟨[sP 0,sI 1,sL 5,(13,false,[.d (.sl tU)]),sI 14,sI 15],tV⟩
def KQ(x:Gb.inp.den)(y:Vn.den):Prop:=match x,y with
 |(id,a,b,j,_),(c,e,f,n,i,l,g,h,_)=>c=id/\f=b/\n=b.length/\l=a/\g=b/\h=j/\∃k:Nat,i=k/\k<=b.length/\N0 e (b.drop k) id=N0 false b id
def a4v(x:Gb.inp.den):eH:=⟨[(3,bS Vn (KQ x) λ(_,_,_,n,i,_)=>(n-i).toNat)],[],[],[],0⟩
def Vo:bG:=(146,[Gb])::Vl
def Cp:=kA 146 Gb Vm a4v (∀(f:Int)(g:BL)(d:List Et)(h:List BL)Q,let m:=(f,g,d,h,());bg Gb m Q->Is (KQ m (f,false,d,nI d,0,g,d,h,()))/\∀(e:Int)(l:Bool)(b:List Et)(c a:Int)(i:BL)(j:List Et)(k:List BL),let n:=gD b a (0,[],[],[],[],[],[],());let z:=gn n.2.2.1 e;let o:=am (a+1)/\Is (KQ m (e,z.2,b,c,a+1,i,j,k,())/\lN (c-(a+1)) (c-a));KQ m (e,l,b,c,a,i,j,k,())->Bd (a<c) (iN a b/\ah n.2.2.1<=1000000/\Br l (Br (!z.2) (Q ⟨0,true,i,j,k,()⟩) o) o) (Q ⟨0,false,i,j,k,()⟩)) (by
 conv=>zeta
 unfold Bd Br gD iN lN nI bg;intro id a j m Q ⟨⟨t,p⟩,l⟩;have o:∀y,N0 false j id=y->Q ⟨0,(y,a,j,m,())⟩:=λy e=>by rw[e]at l;exact l
 clear l;refine⟨⟨rfl,rfl,rfl,rfl,rfl,rfl,0,rfl,aq _,rfl⟩,?_⟩;rintro id q r n i a j m ⟨rfl,rfl,rfl,rfl,rfl,rfl,k,rfl,u,f⟩;simp only[aG,ai,aj];refine⟨λh=>?_,λh=>o _ ?_⟩
 ·have b:k<j.length:=ac
  have s:=p _ (aV (z:=((0,[],[],[],[],[],[],()):Et)) b);rw[dv (z:=((0,[],[],[],[],[],[],()):Et)) b]at f;generalize j.getD k (0,[],[],[],[],[],[],())=H at*;simp only[N0]at f;refine⟨ac,s.1,λg=>⟨λc=>o _ ?_,λc=>⟨cv,⟨⟨rfl,rfl,rfl,rfl,rfl,rfl,k+1,rfl,b,?_⟩,ac⟩⟩⟩,λg=>⟨cv,⟨⟨rfl,rfl,rfl,rfl,rfl,rfl,k+1,rfl,b,?_⟩,ac⟩⟩⟩
  ·rw[<-f,g,c];rfl
  ·rw[<-f,g,c];rfl
  ·rw[<-f,g];rfl
 ·rw[<-f,bu ac];rfl)
def TH(i:Nat):Nat×Bool×List IP:=(i,false,[.d (.pf TG)])
def pi(ms:List Mb):Prop:=∀m∈ms,m.2.1.length<=1000000/\m.2.2.1.length<=1000000
def cK(es:List Et)(a:List BL):Prop:=AM es/\es.length=a.length/\(∀d∈a,d.length<=1000000)/\∀e∈es,pi e.2.2.1
def D9:Ct:=⟨1,⟨[TH 0],[]⟩,[⟨[sI 0],[]⟩],λ(a,_)=>one True (a.2.1.length,())⟩
theorem Gc:bW Tryz.prog 48 D9:=kC Cp (cQ D9 0) (∀(a:Lg)Q,bg D9 (a,()) Q->Q ⟨0,nI a.2.1,()⟩) (by
 unfold nI bg;intro b Q ⟨_,a⟩;exact a)
def a7q:=kB 48 [D9] Cp (bL (Gc))
def Ge:Ct:=⟨1,⟨[sP 0],tV⟩,[⟨[sI 0],tV⟩],λ(a,b,c,_)=>one True (b.length,a,b,c,())⟩
theorem Qb:bW Tryz.prog 48 Ge:=kC Cp (cQ Ge 0) (∀(b:BL)(a:List Et)(c:List BL)Q,bg Ge (b,a,c,()) Q->Q ⟨0,nI a,b,a,c,()⟩) (by
 unfold nI bg;intro a c e Q ⟨_,b⟩;exact b)
def Vp:bG:=(48,[Ge,D9])::Vo
def Vq:=kB 48 [Ge,D9] Cp (je (Qb) (bL (Gc))) (l:=je (λ_=>eJ) (bL (λ_=>eJ)))
def mc(es:List Et)(a:List BL)(n:Int):BL:=if n<1\/es.length<n then[]else a.getD (n-1).toNat []
def Gf:Ct:=⟨2,⟨[sP 0,sI 1],tV⟩,[⟨[(0,false,[.d tB])],tV⟩],λ(n,a,b,c,_)=>one (cK b c) (mc b c n,a,b,c,())⟩
abbrev Qc(v:BL×Lg):cF Gf.out:=⟨0,v⟩
def Vr:bG:=(107,[Gf])::Vp
def Cq:=kA 107 Gf Vq (cQ Gf 0) (∀(a:Int)(d:BL)(c:List Et)(b:List BL)Q,let z:=Qc ([],d,c,b,());bg Gf (a,d,c,b,()) Q->Bd (a<1) (Q z) (True/\Bd (nI c<a) (Q z) (am (a-1)/\iN (a-1) b/\(0+(gD b (a-1) []).length)*1<=mM/\Q ⟨0,gD b (a-1) [],d,c,b,()⟩))) (by
 conv=>zeta
 unfold Bd gD iN mM nI bg;intro n a i c Q ⟨⟨j,m,l,_⟩,f⟩;have b:∀y,mc i c n=y->Q ⟨0,(y,a,i,c,())⟩:=λy e=>by rw[e]at f;exact f
 clear f;unfold mc at b;simp only[ai,aj];refine⟨λh=>b _ (ak (.inl h)),λh=>⟨trivial,λg=>b _ (ak (.inr g)),λg=>?_⟩⟩;have o:=l _ (aV (z:=([]:BL)) (show(n-1).toNat<c.length by omega));have p:=j.1;exact⟨cv,ac,ac,b _ (ae ac)⟩)
def cZ(es:List Et)(n:Int):List Mb:=if n<1\/es.length<n then[]else(es.getD (n-1).toNat (0,[],[],[],[],[],[],())).2.2.1
def Ea:Ct:=⟨2,⟨[TH 0,sI 1],[]⟩,[⟨[sO 0 0],[TE]⟩],λ(a,n,_)=>one (cK a.2.1 a.2.2.1) (cZ a.2.1 n,())⟩
theorem Gg:bW Tryz.prog 47 Ea:=kC Cq (cQ Ea 0) (∀(b:Lg)(a:Int)Q,let z:=bF b.2.1 (a-1).toNat (0,[],[],[],[],[],[],());bg Ea (b,a,()) Q->Bd (a<1) (Q ⟨0,[],()⟩) (True/\Bd (nI b.2.1<a) (Q ⟨0,[],()⟩) (am (a-1)/\iN (a-1) b.2.1/\(ah z.2.2.1<=1000000/\∀(m:Mb),m∈z.2.2.1->ah m.2.1<=1000000/\ah m.2.2.1<=1000000)/\Q ⟨0,z.2.2.1,()⟩))) (by
 conv=>zeta
 unfold Bd iN nI bg;rintro⟨a,f,m,⟨⟩⟩ n Q ⟨⟨i,o,p,l⟩,c⟩;dsimp only at*;have b:∀y,cZ f n=y->Q ⟨0,(y,())⟩:=λy e=>by rw[e]at c;exact c
 clear c;unfold cZ at b;simp only[ai,aj];refine⟨λh=>b _ (ak (.inl h)),λh=>⟨trivial,λg=>b _ (ak (.inr g)),λg=>?_⟩⟩;have q:=i.1;have j:=aV (z:=((0,[],[],[],[],[],[],()):Et)) (show(n-1).toNat<f.length by omega);exact⟨cv,ac,⟨(i.2 _ j).1,l _ j⟩,b _ (ae ac)⟩)
def a7r:=kB 47 [Ea] Cq (bL (Gg))
def Eb:Ct:=⟨2,⟨[sP 0,sI 1],tV⟩,[⟨[sO 0 1],tV++[TE]⟩],λ(n,a,b,c,_)=>one (cK b c) (a,b,c,cZ b n,())⟩
abbrev Qd(v:BL×List Et×List BL×List Mb×Unit):cF Eb.out:=⟨0,v⟩
theorem Qe:bW Tryz.prog 47 Eb:=kC Cq (cQ Eb 0) (∀(a:Int)(c:BL)(b:List Et)(d:List BL)Q,let e:=Qd (c,b,d,[],());let z:=gD b (a-1) (0,[],[],[],[],[],[],());bg Eb (a,c,b,d,()) Q->Bd (a<1) (Q e) (True/\Bd (nI b<a) (Q e) (am (a-1)/\iN (a-1) b/\(ah z.2.2.1<=1000000/\∀(m:Mb),m∈z.2.2.1->ah m.2.1<=1000000/\ah m.2.2.1<=1000000)/\Q ⟨0,c,b,d,z.2.2.1,()⟩))) (by
 conv=>zeta
 unfold Bd gD iN nI bg;intro n a c l Q ⟨⟨i,o,p,m⟩,f⟩;have b:∀y,cZ c n=y->Q ⟨0,(a,c,l,y,())⟩:=λy e=>by rw[e]at f;exact f
 clear f;unfold cZ at b;simp only[ai,aj];refine⟨λh=>b _ (ak (.inl h)),λh=>⟨trivial,λg=>b _ (ak (.inr g)),λg=>?_⟩⟩;have q:=i.1;have j:=aV (z:=((0,[],[],[],[],[],[],()):Et)) (show(n-1).toNat<c.length by omega);exact⟨cv,ac,⟨(i.2 _ j).1,m _ j⟩,b _ (ae ac)⟩)
def Vs:bG:=(47,[Eb,Ea])::Vr
def Vt:=kB 47 [Eb,Ea] Cq (je (Qe) (bL (Gg))) (l:=je (λ_=>eJ) (bL (λ_=>eJ)))
def KR:List Fk->Int->Int×Bool
 |[],_=>(0,false)
 |x::r,a=>if x.1=a then(x.2.1,true)else KR r a
def xo:List Et->Int->Int×Bool
 |[],_=>(0,false)
 |e::r,a=>if(KR e.2.2.2.1 a).2 then KR e.2.2.2.1 a else xo r a
def KS:Ct:=⟨2,⟨[TH 0,sI 1],[]⟩,[⟨[sI 0,sL 1],[]⟩],λ(a,b,_)=>one (cK a.2.1 a.2.2.1) ((xo a.2.1.reverse b).1,(xo a.2.1.reverse b).2,())⟩
def Vu:cx:=⟨[TH 0,sI 1,sI 10,sI 11],[]⟩
def KT(lg:Lg)(au:Int)(y:Vu.den):Prop:=match y with
 |(a,b,n,i,_)=>a=lg/\b=au/\n=lg.2.1.length/\∃k:Nat,i=k/\k<=lg.2.1.length/\xo (lg.2.1.take (lg.2.1.length-k)).reverse au=xo lg.2.1.reverse au
def Vv:cx:=⟨[TH 0,sI 1,sI 10,sI 11,(25,false,[.d (.sl iZ)]),sI 26,sI 27],[]⟩
def KU(lg:Lg)(au e:Int)(y:Vv.den):Prop:=match y with
 |(b,c,n,i,a,f,j,_)=>b=lg/\c=au/\n=lg.2.1.length/\e=i/\f=a.length/\a.length<=1000000/\∃k:Nat,i=k/\k<lg.2.1.length/\(if(KR a au).2 then KR a au else xo (lg.2.1.take (lg.2.1.length-(k+1))).reverse au)=xo lg.2.1.reverse au/\∃r:Nat,j=r/\r<=a.length/\KR (a.drop r) au=KR a au
def a4w(x:KS.inp.den):eH:=⟨[(2,pW Vu (KT x.1 x.2.1) (λ(_,_,n,i,_)=>(n-i).toNat) λ(_,_,_,i,_)=>[(5,bS Vv (KU x.1 x.2.1 i) λ(_,_,_,_,_,n,j,_)=>(n-j).toNat)])],[],[],[],0⟩
def Vw:bG:=(165,[KS])::Vs
def Vx:=kA 165 KS Vt a4w (∀(d:Lg)(e:Int)Q,bg KS (d,e,()) Q->True/\Is (KT d e (d,e,nI d.2.1,0,()))/\∀(c:Lg)(m h a:Int),let n:=nI c.2.1-1-a;let z:=bF c.2.1 n.toNat (0,[],[],[],[],[],[],());KT d e (c,m,h,a,())->Bd (a<h) (True/\am (nI c.2.1-1)/\am n/\iN n c.2.1/\Is (KU d e a (c,m,h,a,z.2.2.2.1,(↑(ah z.2.2.2.1):Int),0,()))/\∀(l:Lg)(i k j:Int)(f:List Fk)(g b:Int),let o:=gD f b (0,0,());KU d e a (l,i,k,j,f,g,b,())->Bd (b<g) (iN b f/\Br (o.1==i) (Q ⟨0,o.2.1,true,()⟩) (am (b+1)/\Is (KU d e a (l,i,k,j,f,g,b+1,())/\lN (g-(b+1)) (g-b)))) (am (j+1)/\Is (KT d e (l,i,k,j+1,())/\lN (k-(j+1)) (h-a)))) (Q ⟨0,0,false,()⟩)) (by
 conv=>zeta
 unfold Bd Br gD iN lN nI bg;rintro⟨a,b,F,⟨⟩⟩ u Q ⟨⟨v,O,P,R⟩,w⟩;dsimp only at*;have x:∀y:Int×Bool,xo b.reverse u=y->Q ⟨0,(y.1,y.2,())⟩:=λy e=>by rw[<-e];exact w
 clear w;have S:=v.1;refine⟨trivial,⟨rfl,rfl,rfl,0,rfl,aq _,bY⟩,?_⟩;rintro G u n i ⟨rfl,rfl,rfl,k,rfl,U,f⟩;simp only[ai,aj]at*;have A:(((a,b,F,()):Lg).2.1).length=b.length:=rfl;have J:((b.length:Int)-1-(k:Int)).toNat=b.length-(k+1):=ac
 refine⟨λh=>?_,λh=>x (0,false) ?_⟩
 ·have m:k<b.length:=ac
  have K:b.length-k=(b.length-(k+1))+1:=ac
  have B:b.length-(k+1)<b.length:=ac
  rw[J];rw[K,di (z:=((0,[],[],[],[],[],[],()):Et)) B,List.reverse_append]at f;have C:=v.2 _ (aV (z:=((0,[],[],[],[],[],[],()):Et)) B);generalize b.getD (b.length-(k+1)) (0,[],[],[],[],[],[],())=H at*;refine⟨trivial,cv,cv,ac,⟨rfl,rfl,rfl,rfl,rfl,C.2.1,k,rfl,m,f,0,rfl,aq _,rfl⟩,?_⟩;clear f C;rintro L M W X D Y j ⟨rfl,rfl,rfl,E,rfl,q,p,rfl,s,f,r,rfl,hr,l⟩;have t:p=k:=by have:(k:Int)=p:=E;omega
  subst t;dsimp only at f;simp only[aG];refine⟨λg=>?_,λg=>⟨cv,⟨⟨rfl,rfl,rfl,p+1,rfl,m,?_⟩,ac⟩⟩⟩
  ·have o:r<D.length:=ac
   rw[dv (z:=((0,0,()):Fk)) o]at l;generalize D.getD r (0,0,())=H at*;simp only[KR]at l;refine⟨ac,λc=>x (H.2.1,true) ?_,λc=>⟨cv,⟨⟨rfl,rfl,rfl,E,rfl,q,p,rfl,s,f,r+1,rfl,o,?_⟩,ac⟩⟩⟩
   ·rw[ak (cf c)]at l;rw[<-l]at f;simpa using f.symm
   ·rw[ae (cf c)]at l;exact l
  ·rw[bu ac]at l;rw[<-l]at f;simpa[KR]using f
 ·have N:b.length-k=0:=ac
  rw[N]at f;rw[<-f];rfl)
def KW:Ct:=⟨1,⟨[TH 0],[]⟩,[⟨[sP 0],[some (.cells [.d tB, .cut tU, .cut tB])]⟩],λ(a,_)=>one (cK a.2.1 a.2.2.1) (a.1,a.2.1,a.2.2.1,())⟩
def Vy:bG:=(91,[KW])::Vw
def Vz:=kA 91 KW Vx (cQ KW 0) (∀(a:Lg)Q,bg KW (a,()) Q->((0:Int)<=0/\0<=nI a.2.1/\nI a.2.1=nI a.2.1/\nI a.2.1<=nI a.2.1)/\((0:Int)<=0/\0<=nI a.2.1/\nI a.2.1=nI a.2.1/\nI a.2.1<=nI a.2.2.1)/\Q ⟨0,a.1,de (nI a.2.1).toNat a.2.1,de (nI a.2.1).toNat a.2.2.1,()⟩) (by
 unfold nI bg;rintro⟨a,b,f,⟨⟩⟩ Q ⟨⟨g,h,i,j⟩,c⟩;dsimp only at*;have e:((b.length:Int)).toNat=b.length:=aG _;rw[e,bv,bb ac];exact⟨ac,ac,c⟩)
def gS(es:List Et):List Mb:=(es.getD (es.length-1) (0,[],[],[],[],[],[],())).2.2.1
def JI(es:List Et)(last:List Mb)(m:Mb):Prop:=N0 false es m.1=false/\((gn last m.1).2=true->(gn last m.1).1.2.1=m.2.1/\(gn last m.1).1.2.2.1=m.2.2.1)
instance (es:List Et) (last:List Mb) (m:Mb):Decidable (JI es last m):=by unfold JI;infer_instance
def to(ms:List Mb)(last:List Mb):List Int:=(last.filter λm=> !(gn ms m.1).2).map (·.1)
def Gh(es:List Et)(ms:List Mb)(ns:List Fk):Bool:=decide ((∀m∈ms,JI es (gS es) m)/\to ms (gS es)=ns.map (·.1))
def wy:Ct:=⟨3,⟨[sP 0,(1,false,[.d (.sl jf)]),(2,false,[.d (.sl iZ)])],tV⟩,[⟨[sL 0],tV⟩],λ(c,e,a,b,f,_)=>one (AM b/\c.length<=1000000/\e.length<=1000000) (Gh b c e,a,b,f,())⟩
def VA:cx:=⟨[sP 0,(1,false,[.d (.sl jf)]),(2,false,[.d (.sl iZ)]),(7,false,[.d (.sl jf)])],tV⟩
def KX(x:wy.inp.den)(y:VA.den):Prop:=match x,y with
 |(e,f,h,b,g,_),(i,j,c,a,l,m,_)=>i=e/\j=f/\c=gS b/\a=h/\l=b/\m=g
theorem Gi(f:α->β){l:List α}(z:α)(y:β)(h:k<l.length):(l.map f).getD k y=f (l.getD k z):=by
 simp[aw,an,h]
theorem Gj{es:List Et}(h:AM es):(gS es).length<=1000000:=by
 unfold gS;rcases dP es.length with e|e
 ·have:es=[]:=ju.1 e;subst this;simp
 ·exact(h.2 _ (aV (z:=((0,[],[],[],[],[],[],()):Et)) (show es.length-1<es.length by omega))).1
theorem Ec(ms:List Mb){last:List Mb}(h:k<last.length):to ms (last.take (k+1))=to ms (last.take k)++(if(gn ms (last.getD k (0,[],[],())).1).2 then[]else[(last.getD k (0,[],[],())).1]):=by
 rw[di (z:=((0,[],[],()):Mb)) h];unfold to;rw[List.filter_append,dL]
 congr 1
 by_cases c:(gn ms (last.getD k (0,[],[],())).1).2=true
 ·rw[ak c];simp only[List.filter_cons,c];rfl
 ·rw[ae c];simp only[cm]at c;simp only[List.filter_cons,c];rfl
theorem Gk(ms last:List Mb):∀k,(to ms (last.take k)).length<=last.length:=by
 intro k;unfold to;rw[cG];refine bE (List.length_filter_le _ _) ?_;simp;omega
def VB:cx:=⟨[sP 0,(1,false,[.d (.sl jf)]),(2,false,[.d (.sl iZ)]),(7,false,[.d (.sl jf)]),(38,false,[.d (.sl jf)]),sI 39,sI 40],tV⟩
def Gl(x:wy.inp.den)(y:VB.den):Prop:=match x,y with
 |(b,f,j,c,g,_),(l,o,e,h,n,i,a,p,q,_)=>l=b/\o=f/\e=gS c/\h=b/\n=b.length/\a=j/\p=c/\q=g/\∃k:Nat,i=k/\k<=b.length/\∀m∈b.take k,JI c (gS c) m
def VC:cx:=⟨[(1,false,[.d (.sl jf)]),(2,false,[.d (.sl iZ)]),sO 12 1,(75,false,[.d (.sl jf)]),sI 76,sI 77],tV++[some (.sl .i64)]⟩
def Gm(x:wy.inp.den)(y:VC.den):Prop:=match x,y with
 |(c,f,h,b,g,_),(j,l,e,n,i,a,o,p,q,_)=>j=c/\l=f/\e=gS b/\n=(gS b).length/\a=h/\o=b/\p=g/\(∀m∈c,JI b (gS b) m)/\∃k:Nat,i=k/\k<=(gS b).length/\q=to c ((gS b).take k)
def VD:cx:=⟨[(12,false,[.d (.sl .i64)]),(101,false,[.d (.sl iZ)]),sI 102,sI 103],tV⟩
def KY(x:wy.inp.den)(y:VD.den):Prop:=match x,y with
 |(e,b,h,c,f,_),(g,j,n,i,a,l,o,_)=>j=b/\n=b.length/\a=h/\l=c/\o=f/\(∀m∈e,JI c (gS c) m)/\g=to e (gS c)/\ah g=b.length/\∃k:Nat,i=k/\k<=b.length/\de k g=(b.take k).map (·.1)
def a4x(x:wy.inp.den):eH:=⟨[(5,bS VB (Gl x) λ(_,_,_,_,n,i,_)=>(n-i).toNat),(13,bS VC (Gm x) λ(_,_,_,n,i,_)=>(n-i).toNat),(22,bS VD (KY x) λ(_,_,n,i,_)=>(n-i).toNat)],[(4,bS VA (KX x) λ_=>0)],[],[],0⟩
abbrev Qf(v:Bool×Lg):cF wy.out:=⟨0,v⟩
def VE:bG:=(108,[wy])::Vy
def VF:=kA 108 wy Vz a4x (∀(c:List Mb)(d:List Fk)(e:BL)(a:List Et)(f:List BL)Q,let x:=(c,d,e,a,f,());bg wy x Q->(Bd (0<nI a) (am (nI a-1)/\iN (nI a-1) a/\Is (KX x (c,d,(gD a (nI a-1) (0,[],[],[],[],[],[],())).2.2.1,e,a,f,()))) (Is (KX x (c,d,[],e,a,f,()))))/\∀(B:List Mb)(G:List Fk)(H:List Mb)(J:BL)(K:List Et)(L:List BL),KX x (B,G,H,J,K,L,())->Is (Gl x (B,G,H,B,nI B,0,J,K,L,()))/\∀(D:List Mb)(E:List Fk)(j g:List Mb)(l b:Int)(n:BL)(k:List Et)(o:List BL),let F:=Qf (false,n,k,o,());let M:=am (b+1)/\Is (Gl x (D,E,j,g,l,b+1,n,k,o,())/\lN (l-(b+1)) (l-b));let A:=gD g b (0,[],[],());let O:= !(gn j A.1).1.2.1==A.2.1;let P:= !(gn j A.1).1.2.2.1==A.2.2.1;Gl x (D,E,j,g,l,b,n,k,o,())->Bd (b<l) (iN b g/\j.length<=1000000/\AM k/\Br (N0 false k A.1) (Q F) (Br ((gn j A.1).2) (True/\Br O (Q F) (True/\Br P (Q F) M)) M)) (Is (Gm x (D,E,j,nI j,0,n,k,o,[],()))/\∀(s:List Mb)(p:List Fk)(q:List Mb)(m h:Int)(u:BL)(v:List Et)(w:List BL)(r:List Int),let N:=gD q h (0,[],[],());Gm x (s,p,q,m,h,u,v,w,r,())->Bd (h<m) (iN h q/\s.length<=1000000/\Br (!(gn s N.1).2) ((r.length+1)*8<=mM/\am (h+1)/\Is (Gm x (s,p,q,m,h+1,u,v,w,r++[N.1],())/\lN (m-(h+1)) (m-h))) (am (h+1)/\Is (Gm x (s,p,q,m,h+1,u,v,w,r,())/\lN (m-(h+1)) (m-h)))) (Br (!(nI r)==nI p) (Q ⟨0,false,u,v,w,()⟩) (Is (KY x (r,p,nI p,0,u,v,w,()))/\∀(y:List Int)(z:List Fk)(t i:Int)(R:BL)(S:List Et)(U:List BL),let W:= !(gD z i (0,0,())).1==gD y i 0;let C:=(R,S,U,());KY x (y,z,t,i,C)->Bd (i<t) (iN i z/\iN i y/\Br W (Q ⟨0,false,C⟩) (am (i+1)/\Is (KY x (y,z,t,i+1,C)/\lN (t-(i+1)) (t-i)))) (Q ⟨0,true,C⟩))))) (by
 conv=>zeta
 unfold Bd Br gD iN lN mM nI bg;rintro j o a f s Q ⟨⟨B,N,X⟩,J⟩
 have hB:∀b:Bool,(b=true↔((∀m∈j,JI f (gS f) m)/\to j (gS f)=o.map (·.1)))->Q ⟨0,(b,a,f,s,())⟩:=by
  intro b O;have:b=Gh f j o:=by unfold Gh;rw[nr,O,ai]
  rw[this];exact J
 clear J;have Y:=B.1;have C:=Gj B;simp only[ai,aj];refine⟨⟨λh=>⟨cv,ac,⟨rfl,rfl,?_,rfl,rfl,rfl⟩⟩,λh=>⟨rfl,rfl,?_,rfl,rfl,rfl⟩⟩,?_⟩
 ·have:((f.length:Int)-1).toNat=f.length-1:=ac
  rw[this];rfl
 ·have:f=[]:=ju.1 ac;subst this;rfl
 ·rintro j o t a f s ⟨rfl,rfl,rfl,rfl,rfl,rfl⟩;refine⟨⟨rfl,rfl,rfl,rfl,rfl,rfl,rfl,rfl,0,rfl,aq _,bY⟩,?_⟩;rintro P o t j n i a f s ⟨rfl,rfl,rfl,rfl,rfl,rfl,rfl,rfl,k,rfl,R,K⟩;simp only[aG];refine⟨λh=>?_,λh=>⟨⟨rfl,rfl,rfl,rfl,rfl,rfl,rfl,?_,0,rfl,aq _,rfl⟩,?_⟩⟩
  ·have l:k<j.length:=ac
   have S:=aV (z:=((0,[],[],()):Mb)) l;have y:=λD=>pe ((0,[],[],()):Mb) (p:=JI f (gS f)) K l D;generalize j.getD k (0,[],[],())=H at*;have E:¬JI f (gS f) H->Q ⟨0,(false,a,f,s,())⟩:=λg=>hB _ ⟨λq=>by simp at q,λq=>absurd (q.1 H S) g⟩;have L:JI f (gS f) H->am ((k:Int)+1)/\Is (Gl (j,o,a,f,s,()) (j,o,gS f,j,(j.length:Int),(k:Int)+1,a,f,s,())/\((j.length:Int)-((k:Int)+1)).toNat<((j.length:Int)-(k:Int)).toNat):=λD=>⟨cv,⟨⟨rfl,rfl,rfl,rfl,rfl,rfl,rfl,rfl,k+1,rfl,l,y D⟩,ac⟩⟩;refine⟨ac,C,B,λg=>E λq=>by rw[q.1]at g;simp at g,λg=>⟨λc=>⟨trivial,λd=>E λq=>?_,λd=>⟨trivial,λe=>E λq=>?_,λe=>L ⟨g,λ_=>⟨?_,?_⟩⟩⟩⟩,λc=>L ⟨g,λM=>?_⟩⟩⟩
   ·rw[(q.2 c).1]at d;simp at d
   ·rw[(q.2 c).2]at e;simp at e
   ·simpa using d
   ·simpa using e
   ·rw[c]at M;simp at M
  ·have:k=j.length:=ac
   rwa [this,bv]at K
  ·rintro j o t n i a f s U ⟨rfl,rfl,rfl,rfl,rfl,rfl,rfl,v,k,rfl,R,rfl⟩;have F:=λh=>Ec j (last:=gS f) (k:=k) h;have W:=Gk j (gS f) k;simp only[aG];refine⟨λh=>?_,λh=>?_⟩
   ·have l:k<(gS f).length:=ac
    have y:=F l;generalize(gS f).getD k (0,[],[],())=H at*;refine⟨ac,N,λg=>⟨ac,cv,⟨⟨rfl,rfl,rfl,rfl,rfl,rfl,rfl,v,k+1,rfl,l,?_⟩,ac⟩⟩,λg=>⟨cv,⟨⟨rfl,rfl,rfl,rfl,rfl,rfl,rfl,v,k+1,rfl,l,?_⟩,ac⟩⟩⟩
    ·rw[y,ae (cf g)]
    ·rw[y,ak (cf g),aH]
   ·have:k=(gS f).length:=ac
    rw[this,bv];refine⟨λg=>hB _ ⟨λq=>by simp at q,λq=>?_⟩,λg=>⟨⟨rfl,rfl,rfl,rfl,rfl,v,rfl,?_,0,rfl,aq _,bY⟩,?_⟩⟩
    ·rw[q.2]at g;simp at g
    ·have:(((to j (gS f)).length:Nat):Int)=o.length:=cf g
     exact Int.ofNat.inj this
    ·rintro U o n i a f s ⟨rfl,rfl,rfl,rfl,rfl,v,rfl,w,r,rfl,hr,A⟩;simp only[aG];refine⟨λg=>?_,λg=>hB _ ⟨λ_=>⟨v,?_⟩,λ_=>rfl⟩⟩
     ·have u:r<o.length:=ac
      have G:=Gi (λx:Fk=>x.1) ((0,0,()):Fk) (0:Int) u;refine⟨ac,ac,λc=>hB _ ⟨λq=>by simp at q,λq=>?_⟩,λc=>⟨cv,⟨⟨rfl,rfl,rfl,rfl,rfl,v,rfl,w,r+1,rfl,u,?_⟩,ac⟩⟩⟩
      ·rw[q.2,G]at c;simp at c
      ·rw[di (z:=((0,0,()):Fk)) u,di (z:=(0:Int)) ac,A,dL];have:(o.getD r (0,0,())).1=(to j (gS f)).getD r 0:=cf c
       rw[<-this];rfl
     ·have G:r=o.length:=ac
      rw[G,bv]at A;rw[bb ac]at A;exact A)
def rnL:Ct:=⟨3,⟨[sP 0,sI 1,sI 2],rH⟩,[⟨[sI 0],rH⟩],λ(c,f,b,a,m,e,_)=>dZ (bZ b a) (dn b a m e c f) λy=>(y.1,b,y.2.1,m,y.2.2,())⟩
theorem Qg:bW Tryz.prog 52 rnL:=bW.mono NI λ_ _ h=>eb h rfl
def VG:bG:=(52,[rnL])::VE
def VH:=kB 52 [rnL] VF (bL Qg) (l:=bL (λ_=>bA))
def rtL:Ct:=⟨2,⟨[sP 0,sI 1],rH⟩,[⟨[sO 0 1],rH++[cB]⟩],λ(n,b,a,m,e,_)=>dZ (bZ b a) (hJ b a m e n) λy=>(b,y.2.1,m,y.2.2,y.1,())⟩
theorem Qh:bW Tryz.prog 53 rtL:=bW.mono NJ λ_ _ h=>eb h rfl
def VI:bG:=(53,[rtL])::VG
def VJ:=kB 53 [rtL] VH (bL Qh) (l:=bL (λ_=>bA))
def yT:cx:=⟨[sO 0 4],D7++[cB]⟩
abbrev Z:=BL×List Tm×KV
def Qi(d:Int)(y:Z):yT.den:=(d,y.2.2,y.2.1,y.1,())
def drL:Ct:=⟨1,⟨[sP 0],nB⟩,[yT],λ(d,a,m,_)=>dZ (a.length<=4294967296/\0<=d/\d<=4294967296) (dI (115,[dB (d+1)],()) a m) (Qi (d+1))⟩
theorem Qj:bW Tryz.prog 356 drL:=bW.mono NK λ_ _ h=>eb h rfl
def VK:bG:=(356,[drL])::VI
def VL:=kB 356 [drL] VJ (bL Qj) (l:=bL (λ_=>bA))
def haL:Ct:=⟨2,⟨[sP 0,sB 1],nB⟩,[yT],λ(b,d,a,m,_)=>dZ (aB b/\a.length<=4294967296) (dI (104,[b],()) a m) (Qi d)⟩
theorem Qk:bW Tryz.prog 357 haL:=bW.mono NL λ_ _ h=>eb h rfl
def VM:bG:=(357,[haL])::VK
def VN:=kB 357 [haL] VL (bL Qk) (l:=bL (λ_=>bA))
def puL:Ct:=⟨2,⟨[sP 0,sB 1],nB⟩,[yT],λ(b,d,a,m,_)=>dZ (aB b/\a.length<=4294967296) (cM (112,[b],()) a m) (Qi d)⟩
theorem Ql:bW Tryz.prog 360 puL:=bW.mono NM λ_ _ h=>eb h rfl
def VO:bG:=(360,[puL])::VM
def VP:=kB 360 [puL] VN (bL Ql) (l:=bL (λ_=>bA))
def snL:Ct:=⟨2,⟨[sP 0,sB 1],nB⟩,[yT],λ(b,d,a,m,_)=>dZ (aB b/\a.length<=4294967296) (cM (118,[b],()) a m) (Qi d)⟩
theorem Qm:bW Tryz.prog 364 snL:=bW.mono NN λ_ _ h=>eb h rfl
def VQ:bG:=(364,[snL])::VO
def VR:=kB 364 [snL] VP (bL Qm) (l:=bL (λ_=>bA))
def deL:Ct:=⟨3,⟨[sP 0,sB 1,sB 2],nB⟩,[yT],λ(b,c,d,a,m,_)=>dZ (aB b/\aB c/\a.length<=4294967296) (cM (107,[b,c],()) a m) (Qi d)⟩
theorem Qn:bW Tryz.prog 355 deL:=bW.mono NO λ_ _ h=>eb h rfl
def VS:bG:=(355,[deL])::VQ
def VT:=kB 355 [deL] VR (bL Qn) (l:=bL (λ_=>bA))
def sgL:Ct:=⟨3,⟨[sP 0,sB 1,sB 2],nB⟩,[yT],λ(b,c,d,a,m,_)=>dZ (aB b/\aB c/\a.length<=4294967296) (cM (103,[b,c],()) a m) (Qi d)⟩
theorem Qo:bW Tryz.prog 363 sgL:=bW.mono NP λ_ _ h=>eb h rfl
def VU:bG:=(363,[sgL])::VS
def VV:=kB 363 [sgL] VT (bL Qo) (l:=bL (λ_=>bA))
def seL:Ct:=⟨5,⟨[sP 0,sB 1,sI 2,sB 3,sB 4],nB⟩,[yT],λ(k,n,o,x,d,a,m,_)=>dZ (aB k/\aB o/\aB x/\a.length<=4294967296) (jp k n o x a m) (Qi d)⟩
theorem Qp:bW Tryz.prog 361 seL:=bW.mono NQ λ_ _ h=>eb h rfl
def VW:bG:=(361,[seL])::VU
def VX:=kB 361 [seL] VV (bL Qp) (l:=bL (λ_=>bA))
def opL:Ct:=⟨5,⟨[sP 0,sB 1,sI 2,sB 3,sB 4],nB⟩,[⟨[sO 0 3,sI 1],nB++[cB]⟩],λ(k,n,o,x,d,a,m,_)=>dZ (aB k/\aB o/\aB x/\fX a) (ov k n o x a) λy=>(y.2,d,a,m,y.1,())⟩
theorem Qq:bW Tryz.prog 359 opL:=bW.mono NS λ_ _ h=>eb h rfl
def VY:bG:=(359,[opL])::VW
def VZ:=kB 359 [opL] VX (bL Qq) (l:=bL (λ_=>bA))
def shL:Ct:=⟨3,⟨[sP 0,sB 1,sB 2],nB⟩,[⟨[sO 0 4,sI 1],D7++[cB]⟩],λ(s,p,d,a,m,_)=>dZ (aB s/\aB p/\fX a) (jq s p a m) λy=>(y.2,d,y.1.2.2,y.1.2.1,y.1.1,())⟩
theorem Qr:bW Tryz.prog 362 shL:=bW.mono NT λ_ _ h=>eb h rfl
def V0:bG:=(362,[shL])::VY
def V1:=kB 362 [shL] VZ (bL Qr) (l:=bL (λ_=>bA))
def dgL:Ct:=⟨2,⟨[sS 0 0,(1,true,[.d Cn])],lZ 0⟩,[⟨[sO 0 4],ma 0 3++[cT,cB]⟩],λ(l,d,a,m,_)=>dZ (a.length<=4294967296) (gy l a m) λy=>(d,y.2.2,y.2.1,y.1,())⟩
theorem Qs:bW Tryz.prog 177 dgL:=bW.mono NV λ_ _ h=>eb h rfl
def V2:bG:=(177,[dgL])::V0
def V3:=kB 177 [dgL] V1 (bL Qs) (l:=bL (λ_=>bA))
def chL:Ct:=⟨3,⟨[sP 0,sS 1 2,(2,true,[.d Cn])],jW 0++lZ 2⟩,[⟨[sI 0],jW 0++ma 2 5++[cT]⟩],λ(lk,l,d,a,m,_)=>dZ (a.length<=4294967296/\cr l) (ij lk l a m) λy=>(y.1,l,d,y.2.2,y.2.1,())⟩
theorem Qt:bW Tryz.prog 161 chL:=bW.mono NW λ_ _ h=>eb h rfl
def V4:bG:=(161,[chL])::V2
def V5:=kB 161 [chL] V3 (bL Qt) (l:=bL (λ_=>bA))
def tkL:Ct:=⟨3,⟨[sP 0,sS 1 2,(2,true,[.d Cn])],jW 0++lZ 2⟩,[⟨[sI 0],jW 0++ma 2 5++[cT]⟩],λ(lk,l,d,a,m,_)=>dZ (a.length<=4294967295/\cr l) (kp lk l a m) λy=>(y.1,y.2.1,d,y.2.2.2,y.2.2.1,())⟩
theorem Qu:bW Tryz.prog 120 tkL:=bW.mono NX λ_ _ h=>eb h rfl
def V6:bG:=(120,[tkL])::V4
def V7:=kB 120 [tkL] V5 (bL Qu) (l:=bL (λ_=>bA))
def Qv:Ct:=⟨2,⟨[(0,false,[.d (.sl jf)]),sI 1],[]⟩,[⟨[(0,true,[.d jf]),sL 1],[]⟩],λ(l,id,_)=>dZ (l.length<=1000000) (gn l id) λy=>(y.1,y.2,())⟩
theorem KZ:bW Tryz.prog 145 Qv:=bW.mono Ga λ_ _ h=>eb h rfl
def Qw:bG:=(145,[Qv])::V6
def Qx:=kB 145 [Qv] V7 (bL KZ) (l:=bL (λ_=>bA))
end Go.Tp
