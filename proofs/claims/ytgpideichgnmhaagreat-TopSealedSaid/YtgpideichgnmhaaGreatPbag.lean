/- A part of the proof of TopSealedSaid: no conditions; packed by a program of our own. -/
import Derived.Test.YtgpideichgnmhaaGreatPbaf
open And renaming intro→cc
open BitVec renaming ofNat→ae
open Bool renaming eq_iff_iff→mi,true_and→fp,not_eq_true'→aP,not_eq_true→cd,not_eq_false'→aK,not_eq_false→bW
open Int renaming toNat_natCast→aF,toNat_of_nonneg→pz
open List renaming map_cons→aY,replicate→ak,length_append→aa,append_assoc→ay,mem_append→bb,drop_of_length_le→bC,take_of_length_le→bf,append_nil→aW,getElem?_eq_getElem→ap,getD→bB,take_append_drop→dI,length_take→be,length→ah,range→kz,getD_eq_getElem?_getD→aw,map_append→dn,length_map→bT,map→rZ,getElem_mem→kB,length_drop→cI,take→cM,length_singleton→bh,take_add_one→dW,take_length→br,length_eq_zero_iff→r8
open Nat renaming min_eq_left→eB,add_comm→eJ,le_refl→aD,le_trans→bq,zero_le→aq,eq_zero_or_pos→jZ
namespace Go.Tp
open Go.Hv Go.Proofs Go.RowKit
set_option maxRecDepth 100000
set_option maxHeartbeats 0
def mdC:Ct:=⟨1,⟨[sP 0],mw⟩,[⟨[sL 0],mw⟩],λ(d,a,m,_)=>one True (true,d,a,m,())⟩
def Wg:bw:=(65,[mdC])::Wf
theorem a1d:KK Wg:=kA a1c (cE mdC 0) (∀(a:Int)(b:List Tm)(c:KV)Q,bd mdC (a,b,c,()) Q->Q ⟨0,true,a,b,c,()⟩) (by
 unfold bd;intro d b m Q ⟨_,a⟩;exact a)
abbrev pE(t:Tm)(ts:List Tm):Prop:=eI t/\ts.length<=4294967296
def dV(t:Tm)(ts:List Tm)(m:KV):BL×List Tm×KV:=(ko t (jA t ts m).1,(jA t ts m).2)
def nmC:Ct:=⟨3,⟨[sP 0,sU 1,(2,false,[.d (.sl tB)])],mw⟩,[⟨[sO 0 4],Cn++[cB]⟩],λ(k,a,d,b,m,_)=>one (pE (k,a,()) b) (d,(dV (k,a,()) b m).2.2,(dV (k,a,()) b m).2.1,(dV (k,a,()) b m).1,())⟩
def Wh:bw:=(367,[nmC])::Wg
theorem a1e:KK Wh:=kA a1d (cE nmC 0) (∀(a:BitVec 8)(b:List BL)(e:Int)(c:List Tm)(d:KV)Q,let z:=jA (a,b,()) c d;bd nmC (a,b,e,c,d,()) Q->QO (a,b,()) c/\eI (a,b,())/\Q ⟨0,e,z.2.2,z.2.1,ko (a,b,()) z.1,()⟩) (by
 conv=>zeta
 unfold bd;intro k c d e m Q ⟨a,b⟩;exact⟨⟨a.1.1,a.2⟩,a.1,b⟩)
def dh(t:Tm)(ts:List Tm)(m:KV):BL×List Tm×KV:=if(t.2.1.getD 0 []).length=32 then dV t ts m else([],ts,m)
def naC:Ct:=⟨3,⟨[sP 0,sU 1,(2,false,[.d (.sl tB)])],mw⟩,[⟨[sO 0 4],Cn++[cB]⟩],λ(k,a,d,b,m,_)=>one (pE (k,a,()) b/\1<=a.length) (d,(dh (k,a,()) b m).2.2,(dh (k,a,()) b m).2.1,(dh (k,a,()) b m).1,())⟩
abbrev Wi(v:Int×KV×List Tm×BL×Unit):cw naC.out:=⟨0,v⟩
def Wj:bw:=(366,[naC])::Wh
theorem QQ:KK Wj:=kA a1e (cE naC 0) (∀(c:BitVec 8)(a:List BL)(e:Int)(b:List Tm)(d:KV)Q,let f:=Wi (e,d,b,[],());let g:= !(nI (a.getD 0 []))==32;let z:=jA (c,a,()) b d;bd naC (c,a,e,b,d,()) Q->True/\Br (!true) (Q f) (((0:Int)<=0/\0<nI a)/\Br g (Q f) (pE (c,a,()) b/\Q ⟨0,e,z.2.2,z.2.1,ko (c,a,()) z.1,()⟩))) (by
 conv=>zeta
 unfold Br nI bd;intro k i d j m Q ⟨⟨l,n⟩,a⟩;have b:∀c f g,dh (k,i,()) j m=(c,f,g)->Q ⟨0,(d,g,f,c,())⟩:=λc f g e=>by rw[e]at a;exact a
 clear a;unfold dh at b;refine⟨trivial,λh=>by simp at h,λ_=>⟨by omega,λh=>b _ _ _ (af ?_),λh=>⟨l,b _ _ _ (am ?_)⟩⟩⟩
 ·intro e;simp at h;simp[aw]at e;omega
 ·simp at h;simp[aw];omega)
theorem gU{k:BitVec 8}{ps:List BL}(h:lJ ps<=8589934592\/k≠112/\lJ ps<=1099511627776)(a:4<=ps.length\/k≠98/\(2<=ps.length\/k≠103/\1<=ps.length)):eI (k,ps,()):=by
 refine⟨by simp only;omega,λe=>?_,λe=>?_,λe=>?_,λe=>?_⟩<;>(simp only at e⊢;rcases a with a|⟨b,a|⟨c,a⟩⟩<;>first|omega|exact absurd e b|exact absurd e c|(rcases h with h|⟨h,_⟩<;>first|omega|exact absurd e h))
theorem Wk(a:BL):lJ [a]=a.length+8:=by simp[lJ]
theorem Jj(a b:BL):lJ [a,b]=a.length+b.length+16:=by simp[lJ];omega
theorem sz4(a b c d:BL):lJ [a,b,c,d]=a.length+b.length+c.length+d.length+32:=by simp[lJ];omega
def Wl:Ct:=⟨1,⟨[sP 0],mw⟩,[⟨[sO 0 4],Cn++[cB]⟩],λ(d,a,m,_)=>one (a.length<=4294967296/\0<=d/\d<=4294967296) (d+1,(dV (115,[dv (d+1)],()) a m).2.2,(dV (115,[dv (d+1)],()) a m).2.1,(dV (115,[dv (d+1)],()) a m).1,())⟩
abbrev Wm(v:Int×KV×List Tm×BL×Unit):cw Wl.out:=⟨0,v⟩
theorem LF:bS Tryz.prog 356 Wl:=kC QQ (cE Wl 0) (∀(a:Int)(b:List Tm)(c:KV)(Q:cw Wl.out->Prop),let z:=jA (ae 8 115,[dv (a+1)],()) b c;let e:=Wm (a+1,z.2.2,z.2.1,ko (ae 8 115,[dv (a+1)],()) z.1,());(Tr.need (b.length<=4294967296/\0<=a/\a<=4294967296) (Tr.leaf e)).sat Q->True/\Br (!true) (Q ⟨0,a,c,b,[],()⟩) (ac (a+1)/\True/\pE (ae 8 115,[dv (a+1)],()) b/\Q e)) (by
 conv=>zeta
 unfold Br;intro d c m Q ⟨⟨a,e,f⟩,b⟩;refine⟨trivial,λh=>by simp at h,λ_=>⟨by unfold ac;omega,trivial,⟨gU (.inl (by rw[Wk,eo];omega)) (.inr ⟨by decide, .inr ⟨by decide,aD _⟩⟩),a⟩,b⟩⟩)
def Wn:bw:=(356,[Wl])::Wj
theorem QR:KK Wn:=⟨aQ.add QQ.1 (by kernel_rfl) (bo LF),bg.add QQ.2 (bo (λ_=>bJ))⟩
abbrev aB(b:BL):Prop:=b.length<=4294967296
def haC:Ct:=⟨2,⟨[sP 0,sB 1],mw⟩,[⟨[sO 0 4],Cn++[cB]⟩],λ(b,d,a,m,_)=>one (aB b/\a.length<=4294967296) (d,(dV (104,[b],()) a m).2.2,(dV (104,[b],()) a m).2.1,(dV (104,[b],()) a m).1,())⟩
theorem LG:bS Tryz.prog 357 haC:=kC QR (cE haC 0) (∀(a:BL)(d:Int)(b:List Tm)(c:KV)Q,let z:=jA (ae 8 104,[a],()) b c;bd haC (a,d,b,c,()) Q->True/\Br (!true) (Q ⟨0,d,c,b,[],()⟩) (pE (ae 8 104,[a],()) b/\Q ⟨0,d,z.2.2,z.2.1,ko (ae 8 104,[a],()) z.1,()⟩)) (by
 conv=>zeta
 unfold Br bd;intro b d e m Q ⟨⟨f,a⟩,c⟩;exact⟨trivial,λh=>by simp at h,λ_=>⟨⟨gU (.inl (by rw[Wk];omega)) (.inr ⟨by decide, .inr ⟨by decide,aD _⟩⟩),a⟩,c⟩⟩)
def Wo:bw:=(357,[haC])::Wn
theorem QS:KK Wo:=⟨aQ.add QR.1 (by kernel_rfl) (bo LG),bg.add QR.2 (bo (λ_=>bJ))⟩
def puC:Ct:=⟨2,⟨[sP 0,sB 1],mw⟩,[⟨[sO 0 4],Cn++[cB]⟩],λ(b,d,a,m,_)=>one (aB b/\a.length<=4294967296) (d,(dh (112,[b],()) a m).2.2,(dh (112,[b],()) a m).2.1,(dh (112,[b],()) a m).1,())⟩
theorem LH:bS Tryz.prog 360 puC:=kC QS (cE puC 0) (∀(a:BL)(d:Int)(b:List Tm)(c:KV)Q,let z:=dh (ae 8 112,[a],()) b c;bd puC (a,d,b,c,()) Q->(pE (ae 8 112,[a],()) b/\1<=[a].length)/\Q ⟨0,d,z.2.2,z.2.1,z.1,()⟩) (by
 conv=>zeta
 unfold bd;intro b d e m Q ⟨⟨f,a⟩,c⟩;exact⟨⟨⟨gU (.inl (by rw[Wk];omega)) (.inr ⟨by decide, .inr ⟨by decide,aD _⟩⟩),a⟩,aD _⟩,c⟩)
def Wp:bw:=(360,[puC])::Wo
theorem QT:KK Wp:=⟨aQ.add QS.1 (by kernel_rfl) (bo LH),bg.add QS.2 (bo (λ_=>bJ))⟩
def snC:Ct:=⟨2,⟨[sP 0,sB 1],mw⟩,[⟨[sO 0 4],Cn++[cB]⟩],λ(b,d,a,m,_)=>one (aB b/\a.length<=4294967296) (d,(dh (118,[b],()) a m).2.2,(dh (118,[b],()) a m).2.1,(dh (118,[b],()) a m).1,())⟩
theorem LI:bS Tryz.prog 364 snC:=kC QT (cE snC 0) (∀(a:BL)(d:Int)(b:List Tm)(c:KV)Q,let z:=dh (ae 8 118,[a],()) b c;bd snC (a,d,b,c,()) Q->(pE (ae 8 118,[a],()) b/\1<=[a].length)/\Q ⟨0,d,z.2.2,z.2.1,z.1,()⟩) (by
 conv=>zeta
 unfold bd;intro b d e m Q ⟨⟨f,a⟩,c⟩;exact⟨⟨⟨gU (.inl (by rw[Wk];omega)) (.inr ⟨by decide, .inr ⟨by decide,aD _⟩⟩),a⟩,aD _⟩,c⟩)
def Wq:bw:=(364,[snC])::Wp
theorem QU:KK Wq:=⟨aQ.add QT.1 (by kernel_rfl) (bo LI),bg.add QT.2 (bo (λ_=>bJ))⟩
def deC:Ct:=⟨3,⟨[sP 0,sB 1,sB 2],mw⟩,[⟨[sO 0 4],Cn++[cB]⟩],λ(b,c,d,a,m,_)=>one (aB b/\aB c/\a.length<=4294967296) (d,(dh (107,[b,c],()) a m).2.2,(dh (107,[b,c],()) a m).2.1,(dh (107,[b,c],()) a m).1,())⟩
theorem LJ:bS Tryz.prog 355 deC:=kC QU (cE deC 0) (∀(a b:BL)(e:Int)(c:List Tm)(d:KV)Q,let z:=dh (ae 8 107,[a,b],()) c d;bd deC (a,b,e,c,d,()) Q->(pE (ae 8 107,[a,b],()) c/\1<=[a,b].length)/\Q ⟨0,e,z.2.2,z.2.1,z.1,()⟩) (by
 conv=>zeta
 unfold bd;intro b c d f m Q ⟨⟨g,h,a⟩,e⟩;exact⟨⟨⟨gU (.inr ⟨by decide,by rw[Jj];omega⟩) (.inr ⟨by decide, .inl (aD _)⟩),a⟩,by simp⟩,e⟩)
def Wr:bw:=(355,[deC])::Wq
theorem QV:KK Wr:=⟨aQ.add QU.1 (by kernel_rfl) (bo LJ),bg.add QU.2 (bo (λ_=>bJ))⟩
def sgC:Ct:=⟨3,⟨[sP 0,sB 1,sB 2],mw⟩,[⟨[sO 0 4],Cn++[cB]⟩],λ(b,c,d,a,m,_)=>one (aB b/\aB c/\a.length<=4294967296) (d,(dh (103,[b,c],()) a m).2.2,(dh (103,[b,c],()) a m).2.1,(dh (103,[b,c],()) a m).1,())⟩
theorem LK:bS Tryz.prog 363 sgC:=kC QV (cE sgC 0) (∀(a b:BL)(e:Int)(c:List Tm)(d:KV)Q,let z:=dh (ae 8 103,[a,b],()) c d;bd sgC (a,b,e,c,d,()) Q->(pE (ae 8 103,[a,b],()) c/\1<=[a,b].length)/\Q ⟨0,e,z.2.2,z.2.1,z.1,()⟩) (by
 conv=>zeta
 unfold bd;intro b c d f m Q ⟨⟨g,h,a⟩,e⟩;exact⟨⟨⟨gU (.inr ⟨by decide,by rw[Jj];omega⟩) (.inr ⟨by decide, .inl (aD _)⟩),a⟩,by simp⟩,e⟩)
def Ws:bw:=(363,[sgC])::Wr
theorem QW:KK Ws:=⟨aQ.add QV.1 (by kernel_rfl) (bo LK),bg.add QV.2 (bo (λ_=>bJ))⟩
def lY(k:BL)(n:Int)(o x:BL)(ts:List Tm)(m:KV):BL×List Tm×KV:=if n<0 then([],ts,m)else dh (98,[k,dv n,o,x],()) ts m
def seC:Ct:=⟨5,⟨[sP 0,sB 1,sI 2,sB 3,sB 4],mw⟩,[⟨[sO 0 4],Cn++[cB]⟩],λ(k,n,o,x,d,a,m,_)=>one (aB k/\aB o/\aB x/\a.length<=4294967296) (d,(lY k n o x a m).2.2,(lY k n o x a m).2.1,(lY k n o x a m).1,())⟩
theorem LL:bS Tryz.prog 361 seC:=kC QW (cE seC 0) (∀(b:BL)(a:Int)(c d:BL)(g:Int)(e:List Tm)(f:KV)Q,let z:=dh (ae 8 98,[b,dv a,c,d],()) e f;bd seC (b,a,c,d,g,e,f,()) Q->Bd (a<0) (Q ⟨0,g,f,e,[],()⟩) (True/\(pE (ae 8 98,[b,dv a,c,d],()) e/\1<=[b,dv a,c,d].length)/\Q ⟨0,g,z.2.2,z.2.1,z.1,()⟩)) (by
 conv=>zeta
 unfold Bd bd;intro k n o x d i m Q ⟨⟨l,p,q,j⟩,a⟩;have b:∀c f g,lY k n o x i m=(c,f,g)->Q ⟨0,(d,g,f,c,())⟩:=λc f g e=>by rw[e]at a;exact a
 clear a;unfold lY at b;refine⟨λh=>b _ _ _ (am (by simpa using h)),λh=>⟨trivial,⟨⟨gU (.inr ⟨by decide,by rw[sz4,eo];omega⟩) (.inl (aD _)),j⟩,by simp⟩,b _ _ _ (af (by simpa using h))⟩⟩)
def Wt:bw:=(361,[seC])::Ws
theorem a1f:KK Wt:=⟨aQ.add QW.1 (by kernel_rfl) (bo LL),bg.add QW.2 (bo (λ_=>bJ))⟩
def xX(k b s:BL)(ts:List Tm):Bool:=(fK s 103 ts).2&&(fK k 118 ts).2&&(((fK s 103 ts).1.2.1.getD 0 []==(fK k 118 ts).1.2.1.getD 0 [])&&((fK s 103 ts).1.2.1.getD 1 []==b))
def veC:Ct:=⟨4,⟨[sP 0,sB 1,sB 2,sB 3],mw⟩,[⟨[sL 0],mw⟩],λ(k,b,s,d,a,m,_)=>one (aB k/\aB b/\aB s/\eC a) (xX k b s a,d,a,m,())⟩
abbrev Wu(v:Bool×Int×List Tm×KV×Unit):cw veC.out:=⟨0,v⟩
def Wv:bw:=(365,[veC])::Wt
theorem QX:KK Wv:=kA a1f (cE veC 0) (∀(b f c:BL)(d:Int)(a:List Tm)(e:KV)Q,let i:=Wu (false,d,a,e,());let h:=fK c (ae 8 103) a;let g:=fK b (ae 8 118) a;let z:=bB h.1.2.1 0 []==bB g.1.2.1 0 [];bd veC (b,f,c,d,a,e,()) Q->True/\Br (!true) (Q i) ((c.length<=1099511627776/\eC a)/\(b.length<=1099511627776/\eC a)/\Br (h.2) (h.2=true/\Br (g.2) (g.2=true/\g.2=true/\((0:Int)<=0/\0<(↑(ah h.1.2.1):Int))/\g.2=true/\g.2=true/\g.2=true/\g.2=true/\((0:Int)<=0/\0<(↑(ah g.1.2.1):Int))/\g.2=true/\g.2=true/\True/\g.2=true/\Br z (z=true/\z=true/\((0:Int)<=1/\1<(↑(ah h.1.2.1):Int))/\z=true/\z=true/\z=true/\True/\z=true/\Q ⟨0,bB h.1.2.1 1 []==f,d,a,e,()⟩) (z=false/\z=false/\z=false/\z=false/\z=false/\z=false/\Q i)) (g.2=false/\g.2=false/\g.2=false/\g.2=false/\g.2=false/\g.2=false/\g.2=false/\g.2=false/\g.2=false/\Q i)) (h.2=false/\Q i))) (by
 conv=>zeta
 unfold Br bd;intro k b s d a m Q ⟨⟨o,p,q,c⟩,f⟩;have g:∀y,xX k b s a=y->Q ⟨0,(y,d,a,m,())⟩:=λy e=>by rw[e]at f;exact f
 clear f;have i:=rB (b:=s) (k:=103) c;have j:=rB (b:=k) (k:=118) c;unfold xX at g;have l:fK s (ae 8 103) a=fK s 103 a:=rfl;have n:fK k (ae 8 118) a=fK k 118 a:=rfl;rw[l,n];generalize fK s 103 a=X at*;generalize fK k 118 a=Y at*;have r:X.2=true->2<=X.1.2.1.length:=λh=>(i h).1.2.2.1 (i h).2;have t:Y.2=true->1<=Y.1.2.1.length:=λh=>(j h).1.2.2.2.1 (j h).2;clear i j;refine⟨trivial,λh=>by simp at h,λ_=>⟨⟨by omega,c⟩,⟨by omega,c⟩,?_⟩⟩;clear o p q c l n
 (repeat' (first|apply cc|intro _))<;>(try simp only[ai,aj,aR,az,ne_eq,aP,aK,cd,bW]at*)<;>first
  |assumption
  |(exact g _ (by clear g;grind))
  |omega
  |(have:=r (by assumption);omega)
  |(have:=t (by assumption);omega))
def sG(k:BL)(n:Int)(o x:BL)(ts:List Tm):BL×Int:=
 if k.length≠32\/n<0 then([],1)
 else if(fK x 98 ts).2/\(fK x 98 ts).1.2.1.getD 0 []=k/\(fK x 98 ts).1.2.1.getD 1 []=dv n/\(fK x 98 ts).1.2.1.getD 2 []=o then((fK x 98 ts).1.2.1.getD 3 [],0)else([],9)
def Ww:Ct:=⟨5,⟨[sP 0,sB 1,sI 2,sB 3,sB 4],mw⟩,[⟨[sO 0 3,sI 1],mw++[cB]⟩],λ(k,n,o,x,d,a,m,_)=>one (aB k/\aB o/\aB x/\eC a) ((sG k n o x a).2,d,a,m,(sG k n o x a).1,())⟩
abbrev LM(v:Int×Int×List Tm×KV×BL×Unit):cw Ww.out:=⟨0,v⟩
theorem LN:bS Tryz.prog 359 Ww:=kC QX (cE Ww 0) (∀(c:BL)(d:Int)(g b:BL)(e:Int)(a:List Tm)(f:KV)Q,let m:=LM (1,e,a,f,[],());let j:=LM (9,e,a,f,[],());let z:=fK b (ae 8 98) a;let n:= !bB z.1.2.1 2 []==g;let l:=ah z.1.2.1;let h:= !bB z.1.2.1 0 []==c;let i:= !bB z.1.2.1 1 []==dv d;bd Ww (c,d,g,b,e,a,f,()) Q->True/\Br (!true) (Q m) (Br (!(nI c)==32) (Q m) (Bd (d<0) (Q m) ((b.length<=1099511627776/\eC a)/\Br (!z.2) ((!z.2)=true/\(!z.2)=true/\(!z.2)=true/\(!z.2)=true/\(!z.2)=true/\(!z.2)=true/\(!z.2)=true/\Q j) ((!z.2)=false/\(!z.2)=false/\((0:Int)<=0/\0<(↑l:Int))/\(!z.2)=false/\(!z.2)=false/\(!z.2)=false/\True/\(!z.2)=false/\(!z.2)=false/\Br h (h=true/\h=true/\h=true/\h=true/\h=true/\h=true/\h=true/\h=true/\Q j) (h=false/\h=false/\((0:Int)<=1/\1<(↑l:Int))/\h=false/\h=false/\h=false/\True/\h=false/\True/\h=false/\h=false/\Br i (i=true/\i=true/\i=true/\i=true/\i=true/\i=true/\i=true/\Q j) (i=false/\i=false/\((0:Int)<=2/\2<(↑l:Int))/\i=false/\i=false/\i=false/\True/\i=false/\i=false/\Br n (Q j) (((0:Int)<=3/\3<(↑l:Int))/\(0+(bB z.1.2.1 3 []).length)*1<=mM/\Q ⟨0,0,e,a,f,bB z.1.2.1 3 [],()⟩)))))))) (by
 conv=>zeta
 unfold Bd Br mM nI bd;intro k n o x d g m Q ⟨⟨t,u,v,j⟩,l⟩;have f:∀p q,sG k n o x g=(p,q)->Q ⟨0,(q,d,g,m,p,())⟩:=λp q e=>by rw[e]at l;exact l
 clear l;have i:=rB (b:=x) (k:=98) j;unfold sG at f;have r:fK x (ae 8 98) g=fK x 98 g:=rfl;rw[r];generalize fK x 98 g=X at*;have w:X.2=true->4<=X.1.2.1.length:=λh=>(i h).1.2.1 (i h).2;have y:X.2=true->lJ X.1.2.1<=1099511627776:=λh=>(i h).1.1;have z:=gZ X.1.2.1 3;clear i;refine⟨trivial,λh=>by simp at h,λ_=>⟨λa=>f _ _ (am ?_),λa=>⟨λc=>f _ _ (am ?_),λc=>?_⟩⟩⟩
 ·left;intro e;simp[e]at a
 ·right;simpa using c
 ·have s:¬(k.length≠32\/n<0):=by
   simp at a c;omega
  rw[af s]at f;refine⟨⟨by omega,j⟩,?_⟩;clear t u v j r a c s
  (repeat' (first|apply cc|intro _))<;>(try simp only[ai,aj,aR,az,ne_eq,aP,aK,cd,bW]at*)<;>first
   |assumption
   |(exact f _ _ (by clear f;grind))
   |omega
   |(have:=w (by assumption);omega)
   |(have:=y (by assumption);omega))
def Wx:bw:=(359,[Ww])::Wv
theorem a1g:KK Wx:=⟨aQ.add QX.1 (by kernel_rfl) (bo LN),bg.add QX.2 (bo (λ_=>bJ))⟩
def niC:Ct:=⟨0,⟨[],[]⟩,[⟨[sP 0],[some (.cells [.own 1, .mp 2, .d .i64]),some (.sl Cm),some (.mp .st .i64)]⟩],λ_=>one True (0,[],[],())⟩
def Wy:bw:=(32,[niC])::Wx
theorem a1h:KK Wy:=kA a1g (cE niC 0) (∀Q,bd niC () Q->Q ⟨0,0,[],[],()⟩) (by
 unfold bd;intro Q ⟨_,a⟩;exact a)
def cmC:Ct:=⟨2,⟨[sB 0,sB 1],[]⟩,[⟨[sI 0],[]⟩],λ(a,b,_)=>one True (jN a b,())⟩
def Wz:bw:=(369,[cmC])::Wy
theorem QY:KK Wz:=kA a1h (cE cmC 0) (∀(a b:BL)Q,bd cmC (a,b,()) Q->Q ⟨0,Extern.BytealgCompare.cmp (bH a) (bH b),()⟩) (by
 unfold bd;intro a b Q ⟨_,c⟩;exact c)
def my(s p:BL)(ts:List Tm)(m:KV):(BL×List Tm×KV)×Int:=
 if s.length≠32 then(([],ts,m),1)else if(fK p 112 ts).2=false then(([],ts,m),8)
 else(dV (100,(if 0<jN s ((fK p 112 ts).1.2.1.getD 0 [])then[(fK p 112 ts).1.2.1.getD 0 [],s]else[s,(fK p 112 ts).1.2.1.getD 0 []]),()) ts m,0)
def WC:Ct:=⟨3,⟨[sP 0,sB 1,sB 2],mw⟩,[⟨[sO 0 4,sI 1],Cn++[cB]⟩],λ(s,p,d,a,m,_)=>one (aB s/\aB p/\eC a) ((my s p a m).2,d,(my s p a m).1.2.2,(my s p a m).1.2.1,(my s p a m).1.1,())⟩
abbrev WD(v:Int×Int×KV×List Tm×BL×Unit):cw WC.out:=⟨0,v⟩
theorem LO:bS Tryz.prog 362 WC:=kC QY (cE WC 0) (∀(c b:BL)(e:Int)(a:List Tm)(d:KV)Q,let h:=WD (1,e,d,a,[],());let z:=fK b (ae 8 112) a;let i:=0<Extern.BytealgCompare.cmp (bH c) (bH (bB z.1.2.1 0 []));let f:=jA (ae 8 100,[c,bB z.1.2.1 0 []],()) a d;let g:=jA (ae 8 100,[bB z.1.2.1 0 [],c],()) a d;bd WC (c,b,e,a,d,()) Q->True/\Br (!true) (Q h) (Br (!(nI c)==32) (Q h) ((b.length<=1099511627776/\eC a)/\Br (!z.2) (Q ⟨0,8,e,d,a,[],()⟩) (((0:Int)<=0/\0<(↑(ah z.1.2.1):Int))/\True/\Br (decide i) (pE (ae 8 100,[bB z.1.2.1 0 [],c],()) a/\Q ⟨0,0,e,g.2.2,g.2.1,ko (ae 8 100,[bB z.1.2.1 0 [],c],()) g.1,()⟩) (pE (ae 8 100,[c,bB z.1.2.1 0 []],()) a/\Q ⟨0,0,e,f.2.2,f.2.1,ko (ae 8 100,[c,bB z.1.2.1 0 []],()) f.1,()⟩))))) (by
 conv=>zeta
 unfold Br nI bd;intro s p d i m Q ⟨⟨C,D,j⟩,l⟩;have f:∀n o q t,my s p i m=((n,o,q),t)->Q ⟨0,(t,d,q,o,n,())⟩:=λn o q t e=>by rw[e]at l;exact l
 clear l;have g:=rB (b:=p) (k:=112) j;unfold my at f;have w:fK p (ae 8 112) i=fK p 112 i:=rfl;rw[w];generalize fK p 112 i=X at*;have x:X.2=true->1<=X.1.2.1.length:=λh=>((g h).1.2.2.2.2 (g h).2).1;have y:X.2=true->lJ X.1.2.1<=8589934592:=λh=>((g h).1.2.2.2.2 (g h).2).2;have E:=gZ X.1.2.1 0;clear g;refine⟨trivial,λh=>by simp at h,λ_=>⟨λa=>f _ _ _ _ (am ?_),λa=>?_⟩⟩
 ·intro e;simp[e]at a
 ·have z:¬(s.length≠32):=by simp at a;omega
  rw[af z]at f;refine⟨⟨by omega,j⟩,λb=>f _ _ _ _ (am (by simpa using b)),λb=>?_⟩;have u:X.2=true:=by simpa using b
  have v:=x u;have A:=y u;rw[af (by simp[u])]at f
  have F:(X.1.2.1.getD 0 []).length+8<=lJ X.1.2.1:=by
   cases B:X.1.2.1 with
   |nil=>rw[B]at v;simp at v
   |cons a r=>simp[lJ]
  refine⟨by omega,trivial,λc=>⟨⟨gU (.inr ⟨by decide,?_⟩) (.inr ⟨by decide, .inl (aD _)⟩),j.1⟩,f _ _ _ _ ?_⟩,λc=>⟨⟨gU (.inr ⟨by decide,?_⟩) (.inr ⟨by decide, .inl (aD _)⟩),j.1⟩,f _ _ _ _ ?_⟩⟩
  ·rw[Jj];omega
  ·rw[am (show 0<jN s _ from ag c)];rfl
  ·rw[Jj];omega
  ·rw[af (show¬0<jN s _ from an c)];rfl)
def WE:bw:=(362,[WC])::Wz
theorem a1i:KK WE:=⟨aQ.add QY.1 (by kernel_rfl) (bo LO),bg.add QY.2 (bo (λ_=>bJ))⟩
def dC(ts:List Tm):List Tm×KV:=ts.foldl (λa t=>(jA t a.1 a.2).2) ([],[])
theorem uU{ts:List Tm}{k:Nat}(h:k<ts.length):dC (ts.take (k+1))=(jA (ts.getD k Dm) (dC (ts.take k)).1 (dC (ts.take k)).2).2:=by
 have:ts.take (k+1)=ts.take k++[ts.getD k Dm]:=by
  rw[dW,ap h];simp[bB,ap h]
 rw[dC,this,List.foldl_append];rfl
theorem El(t:Tm)(ts:List Tm)(m:KV):(jA t ts m).2.1.length<=ts.length+1:=by
 unfold jA;split<;>simp
theorem yR(ts:List Tm):∀k,k<=ts.length->(dC (ts.take k)).1.length<=k
 |0,_=>by simp[dC]
 |k+1,h=>by rw[uU (by omega)];have:=yR ts k (by omega);have:=El (ts.getD k Dm) (dC (ts.take k)).1 (dC (ts.take k)).2;omega
def caH:List (Option CP):=mw++[some (.cells [.own 4, .mp 5, .d .i64]),some (.sl Cm),some (.mp .st .i64)]
def caC:Ct:=⟨1,⟨[sP 0],mw⟩,[⟨[(0,false,[.ptr 3 0])],caH⟩],λ(d,a,m,_)=>one (eC a) (d,a,m,d,(dC a).1,(dC a).2,())⟩
def caP:cg:=⟨[sP 0,(3,false,[.ptr 3 0]),(21,false,[.own 1]),sI 22,sI 23],caH⟩
def caI(d:Int)(ts:List Tm)(m:KV)(y:caP.den):Prop:=match y with
 |(n,i,e,c,f,g,a,b,_)=>n=ts.length/\e=d/\c=ts/\f=m/\g=d/\∃k:Nat,i=k/\k<=ts.length/\a=(dC (ts.take k)).1/\b=(dC (ts.take k)).2
def caA(x:caC.inp.den):dB:=⟨[(6,bK caP (caI x.1 x.2.1 x.2.2.1) λ(n,i,_)=>(n-i).toNat)],[],[],[],0⟩
def WF:bw:=(34,[caC])::WE
theorem a1j:KK WF:=kA a1i caA (∀(c:Int)(d:List Tm)(f:KV)Q,bd caC (c,d,f,()) Q->True/\Br (!true) False (True/\Is (caI c d f (nI d,0,c,d,f,c,[],[],()))/\∀(e a i:Int)(b:List Tm)(j:KV)(k:Int)(g:List Tm)(h:KV),let z:=gD b a (ae 8 0,[],());let l:=(z.1,z.2.1,());caI c d f (e,a,i,b,j,k,g,h,())->Bd (a<e) (iN a b/\QO l g/\ac (a+1)/\Is (caI c d f (e,a+1,i,b,j,k,(jA l g h).2.1,(jA l g h).2.2,())/\lN (e-(a+1)) (e-a))) (Q ⟨0,i,b,j,k,g,h,()⟩))) (by
 conv=>zeta
 unfold Bd Br gD iN lN nI bd;intro d j m Q ⟨⟨r,l⟩,g⟩;have o:∀a b,(dC j)=(a,b)->Q ⟨0,(d,j,m,d,a,b,())⟩:=λa b e=>by rw[e]at g;exact g
 clear g;refine⟨trivial,λh=>by simp at h,λ_=>⟨trivial,⟨⟨rfl,rfl,rfl,rfl,rfl,0,rfl,aq _,rfl,rfl⟩⟩,?_⟩⟩;rintro n i s c t u a b ⟨rfl,rfl,rfl,rfl,rfl,k,rfl,p,rfl,rfl⟩;have v:=yR c k p;refine⟨λh=>?_,λh=>o _ _ ?_⟩
 ·simp only[ai]at h;have f:k<c.length:=by omega
  have q:eI (c.getD k Dm):=l _ (by rw[aw,ap f];exact kB _);have e:=uU f;simp only[aF];refine⟨by omega,⟨q.1,by omega⟩,by unfold ac;omega,⟨⟨rfl,rfl,rfl,rfl,rfl,k+1,rfl,by omega,?_,?_⟩,by omega⟩⟩
  ·rw[e];rfl
  ·rw[e];rfl
 ·simp only[aj]at h;have:k=c.length:=by omega
  rw[this,br])
def fe(n:Int):Int×Int:=if n<0 then(0,1)else if n<64 then(64,0)else if n<128 then(128,0)else if n<256 then(256,0)else if n<512 then(512,0)else if n<1024 then(1024,0)else if n<2048 then(2048,0)else if n<4096 then(4096,0)else(0,2)
def bkC:Ct:=⟨1,⟨[sI 0],[]⟩,[⟨[sI 0,sI 1],[]⟩],λ(n,_)=>one True ((fe n).1,(fe n).2,())⟩
def WG:bw:=(100,[bkC])::WF
theorem a1k:KK WG:=kA a1j (cE bkC 8) (∀(a:Int)Q,bd bkC (a,()) Q->Bd (a<0) (Q ⟨0,0,1,()⟩) (Bd (a<64) (Q ⟨0,64,0,()⟩) (Bd (a<128) (Q ⟨0,128,0,()⟩) (Bd (a<256) (Q ⟨0,256,0,()⟩) (Bd (a<512) (Q ⟨0,512,0,()⟩) (Bd (a<1024) (Q ⟨0,1024,0,()⟩) (Bd (a<2048) (Q ⟨0,2048,0,()⟩) (Bd (a<4096) (Q ⟨0,4096,0,()⟩) (Q ⟨0,0,2,()⟩))))))))) (by
 unfold Bd bd;intro n Q ⟨_,a⟩;have f:∀b c,fe n=(b,c)->Q ⟨0,(b,c,())⟩:=λb c e=>by rw[e]at a;exact a
 clear a
 (repeat' (first|apply cc|intro _))<;>(try simp only[ai,aj,aR,az,ne_eq,aP,aK,cd,bW]at*)<;>first
  |assumption
  |(exact f _ _ (by clear f;grind[fe]))
  |omega)
theorem tR(n:Int):(fe n).2=0->0<=n/\n<(fe n).1/\64<=(fe n).1/\(fe n).1<=4096:=by
 unfold fe
 (repeat' split)<;>simp<;>omega
def lK(b:BL):BL×Int:=if(fe b.length).2=0 then(b++128::ak ((fe b.length).1.toNat-b.length-1) 0,0)else([],(fe b.length).2)
def paC:Ct:=⟨1,⟨[sB 0],[]⟩,[⟨[sO 0 0,sI 1],[cB]⟩],λ(b,_)=>one True ((lK b).2,(lK b).1,())⟩
def WI:bw:=(129,[paC])::WG
theorem a1l:KK WI:=kA a1k (cE paC 0) (∀(a:BL)Q,let z:=dJ (ak (fe (nI a)).1.toNat (ae 8 0)) a;bd paC (a,()) Q->True/\Br (!(fe (nI a)).2==0) (Q ⟨0,(fe (nI a)).2,[],()⟩) ((0<=(fe (nI a)).1/\(fe (nI a)).1=(fe (nI a)).1/\(fe (nI a)).1*(1:Int)<=281474976710656)/\(0<=nI a/\nI a<(↑z.length:Int))/\Q ⟨0,0,z.set (nI a).toNat (ae 8 128),()⟩)) (by
 conv=>zeta
 unfold Br nI bd;intro b Q ⟨_,c⟩;have a:∀f g,lK b=(f,g)->Q ⟨0,(g,f,())⟩:=λf g e=>by rw[e]at c;exact c
 clear c;have j:=tR b.length;unfold lK at a;refine⟨trivial,λh=>a _ _ (af (by simpa using h)),λh=>?_⟩;have i:(fe b.length).2=0:=by simpa using h
 obtain⟨n,o,p,q⟩:=j i;rw[am i]at a
 have l:(dJ (ak (fe b.length).1.toNat (ae 8 0)) b).length=(fe b.length).1.toNat:=by
  simp[dJ];omega
 refine⟨⟨by omega,rfl,by omega⟩,⟨by omega,by rw[l];omega⟩,a _ _ ?_⟩;have m:(fe b.length).1.toNat=b.length+(1+((fe b.length).1.toNat-b.length-1)):=by omega
 generalize(fe b.length).1.toNat-b.length-1=k at*;rw[m,aF];simp only[dJ,List.length_replicate,eB,Prod.mk.injEq,and_true];simp[bf,eJ 1,List.replicate_succ])
def Vd(b:BL):BL:=b.reverse.dropWhile (·==0)
def Co(b:BL):BL×Int:=match Vd b with
 |[]=>([],11)
 |c::r=>if c=128 then(if(fe r.length).2=0/\(fe r.length).1=b.length then(r.reverse,0)else([],11))else([],11)
def upC:Ct:=⟨1,⟨[sB 0],[]⟩,[⟨[sO 0 0,sI 1],[cB]⟩],λ(b,_)=>one (b.length<=1099511627776) ((Co b).2,(Co b).1,())⟩
def upP:cg:=⟨[sB 0,sI 4],[]⟩
def upI(b a:BL)(i:Int):Prop:=a=b/\∃e:Nat,i=e-1/\e<=b.length/\Vd (b.take e)=Vd b
def upA(x:upC.inp.den):dB:=⟨[(2,bK upP (λy=>upI x.1 y.1 y.2.1) λy=>(y.2.1+1).toNat)],[],[],[],0⟩
theorem Em{b:BL}{e:Nat}(h:e<b.length):Vd (b.take (e+1))=if b.getD e 0=0 then Vd (b.take e)else b.getD e 0::(b.take e).reverse:=by
 have:b.take (e+1)=b.take e++[b.getD e 0]:=by
  rw[dW,ap h];simp[bB,ap h]
 rw[Vd,this,List.reverse_append];simp only[List.reverse_singleton,List.singleton_append,List.dropWhile_cons,aR];rfl
def WJ:bw:=(89,[upC])::WI
theorem a1m:KK WJ:=kA a1l upA (∀(c:BL)Q,bd upC (c,()) Q->ac (nI c-1)/\Is (upI c c (nI c-1))/\∀(b:BL)(a:Int),let e:=gD b a (ae 8 0)==ae 8 0;let f:=gD b a (ae 8 0)==ae 8 128;let z:=True/\Br (!(fe a).2==0) (Q ⟨0,11,[],()⟩) (Br (!(fe a).1==nI b) (Q ⟨0,11,[],()⟩) (((0:Int)<=0/\0<=a/\a<=nI b)/\(0+(cM a.toNat b).length)*1<=mM/\Q ⟨0,0,cM a.toNat b,()⟩));upI c b a->Bd (0<=a) (iN a b/\Br e (ac (a-1)/\Is (upI c b (a-1)/\lN (a-1+1) (a+1))) (Br f z (Q ⟨0,11,[],()⟩))) z) (by
 conv=>zeta
 unfold Bd Br gD iN lN mM nI bd;intro b Q ⟨s,g⟩;have a:∀j l,Co b=(j,l)->Q ⟨0,(l,j,())⟩:=λj l e=>by rw[e]at g;exact g
 clear g;refine⟨by unfold ac;omega,⟨⟨rfl,b.length,rfl,aD _,by rw[br]⟩⟩,?_⟩;rintro o i ⟨rfl,e,rfl,t,f⟩;unfold Co at a;rw[<-f]at a;have p:fe (-1)=(0,1):=rfl;cases e with
 |zero=>
  refine⟨λh=>absurd (ag h) (by omega),λ_=>⟨trivial,λ_=>a _ _ rfl,λh=>?_⟩⟩;exact absurd h (by decide)
 |succ e=>
  have q:((e+1:Nat):Int)-1=(e:Int):=by omega
  rw[q,aF];rw[Em (by omega)]at a f;refine⟨λ_=>⟨by omega,λh=>⟨by unfold ac;omega,⟨⟨rfl,e,rfl,by omega,?_⟩,by omega⟩⟩,λh=>?_⟩,λh=>absurd (an h) (by omega)⟩
  ·rw[am (by simpa using h)]at f;exact f
  ·have r:¬(o.getD e 0=0):=by simpa using h
   rw[af r]at a;simp only[List.length_reverse,be,List.reverse_reverse,eB (show e<=o.length by omega)]at a;refine⟨λc=>⟨trivial,?_,λm=>⟨?_,λn=>⟨by omega,by simp;omega,?_⟩⟩⟩,λc=>a _ _ (af (by simpa using c))⟩
   ·intro m;refine a _ _ ?_;rw[am (by simpa using c),af];intro e;simp[e.1]at m
   ·intro n;refine a _ _ ?_;rw[am (by simpa using c),af];intro e;simp[e.2]at n
   ·refine a _ _ ?_;rw[am (by simpa using c),am ⟨by simpa using m,by simpa using n⟩])
abbrev Aq:Ty:= .pr .i64 (.pr .i64 (.pr .i64 (.pr tB (.pr tB .un))))
abbrev Lk:=Int×Int×Int×BL×BL×Unit
def pF(l:Lk):Bool:=decide (0<=l.1/\l.1<5/\1<=l.2.1/\l.2.1<=1048576/\1<=l.2.2.1/\l.2.2.1<=65536/\l.2.2.2.2.1.length=32/\(l.2.1=1/\l.2.2.2.1.length=0\/l.2.2.2.1.length=32))
def WK:Ct:=⟨1,⟨[(0,true,[.d Aq])],[]⟩,[⟨[sL 0],[]⟩],λ(l,_)=>one True (pF l,())⟩
abbrev WL(v:Bool×Unit):cw WK.out:=⟨0,v⟩
def WM:bw:=(176,[WK])::WJ
theorem QZ:KK WM:=kA a1m (cE WK 0) (∀(a:Lk)(Q:cw WK.out->Prop),let b:=a.2.2.1<=65536;let e:=WL (nI a.2.2.2.1==32,());let f:=decide b=false->Q ⟨0,false,()⟩;let c:=nI a.2.2.2.2.1==32;let g:=c=false->Q ⟨0,false,()⟩;let z:=Br (a.2.1==1) (Q ⟨0,false,()⟩) (Q ⟨0,false,()⟩);bd WK (a,()) Q->Bd (0<=a.1) (Bd (a.1<5) (Bd (1<=a.2.1) (Bd (a.2.1<=1048576) (Bd (1<=a.2.2.1) (Br (a.2.1==1) ((decide b=true->(c=true->Br (nI a.2.2.2.1==0) (Q ⟨0,true,()⟩) (Q e))/\g)/\f) ((decide b=true->(c=true->Q e)/\g)/\f)) z) z) z) z) z) (by
 conv=>zeta
 unfold Bd Br nI bd;intro l Q ⟨_,a⟩;have b:∀y,pF l=y->Q ⟨0,(y,())⟩:=λy e=>by rw[e]at a;exact a
 clear a;unfold pF at b
 (repeat' (first|apply cc|intro _))<;>(try simp only[ai,aj,aR,az,ne_eq,aP,aK,cd,bW]at*)<;>first
  |assumption
  |(exact b _ (by clear b;grind))
  |omega)
def sS(i j:Nat):Nat×Bool×List IP:=(i,false,[.ifc 96 j 0])
def iK(j:Nat):List (Option CP):=[some (.cells [.own (j+1), .mp (j+2), .d .i64]),some (.sl Cm),some (.mp .st .i64)]
def lj(j k:Nat):List (Option CP):=[some (.cells [.own k, .mp (j+2), .d .i64]),none,some (.mp .st .i64)]
def cT:Option CP:=some (.sl Cm)
def Dn(l:Lk):BL:=vn l.1++vn l.2.1++vn l.2.2.1++(vn l.2.2.2.1.length++l.2.2.2.1)++(vn l.2.2.2.2.1.length++l.2.2.2.2.1)
def lZ(l:Lk)(ts:List Tm)(m:KV):BL×List Tm×KV:=if pF l then dV (104,[Dn l],()) ts m else([],ts,m)
def dgC:Ct:=⟨2,⟨[sS 0 0,(1,true,[.d Aq])],iK 0⟩,[⟨[sO 0 4],lj 0 3++[cT,cB]⟩],λ(l,d,a,m,_)=>one (a.length<=4294967296) (d,(lZ l a m).2.2,(lZ l a m).2.1,(lZ l a m).1,())⟩
theorem oH{l:Lk}(h:pF l=true):0<=l.1/\l.1<5/\1<=l.2.1/\l.2.1<=1048576/\1<=l.2.2.1/\l.2.2.1<=65536/\l.2.2.2.2.1.length=32/\l.2.2.2.1.length<=32:=by
 unfold pF at h;simp only[ai]at h;omega
theorem pZ{l:Lk}(h:pF l=true):(Dn l).length<=99:=by
 have:=oH h;have:=bz l.1;have:=bz l.2.1;have:=bz l.2.2.1;have:=bz l.2.2.2.1.length;have:=bz l.2.2.2.2.1.length;simp only[Dn,aa];omega
theorem LQ:bS Tryz.prog 177 dgC:=kC QZ (cE dgC 0) (∀(a:Lk)(d:Int)(b:List Tm)(c:KV)Q,let g:= !pF (a.1,a.2.1,a.2.2.1,a.2.2.2.1,a.2.2.2.2.1,());let f:=vn (nI a.2.2.2.2.1)++a.2.2.2.2.1;let e:=vn (nI a.2.2.2.1)++a.2.2.2.1;let z:=jA (ae 8 104,[vn a.1++vn a.2.1++vn a.2.2.1++e++f],()) b c;bd dgC (a,d,b,c,()) Q->True/\Br g (Q ⟨0,d,c,b,[],()⟩) (0<=1099511627776/\ah (vn a.1)<=1099511627776/\(vn a.1++vn a.2.1).length<=1099511627776/\(vn a.1++vn a.2.1++vn a.2.2.1).length+ah a.2.2.2.1<=1099511627776/\(vn a.1++vn a.2.1++vn a.2.2.1++e).length+ah a.2.2.2.2.1<=1099511627776/\(aB (vn a.1++vn a.2.1++vn a.2.2.1++e++f)/\b.length<=4294967296)/\Q ⟨0,d,z.2.2,z.2.1,ko (ae 8 104,[vn a.1++vn a.2.1++vn a.2.2.1++e++f],()) z.1,()⟩)) (by
 conv=>zeta
 unfold Br nI bd;rintro⟨a,q,c,pv,f,⟨⟩⟩ d o m Q ⟨p,g⟩;have b:∀i j l,lZ (a,q,c,pv,f,()) o m=(i,j,l)->Q ⟨0,(d,l,j,i,())⟩:=λi j l e=>by rw[e]at g;exact g
 clear g;unfold lZ at b;refine⟨trivial,λh=>b _ _ _ (af (by simpa using h)),λh=>?_⟩;have n:pF (a,q,c,pv,f,())=true:=by simpa using h
 have r:=pZ n;have:=oH n;have:=bz a;have:=bz q;have:=bz c;have:=bz pv.length;have:=bz f.length;simp only[Dn,aa]at r⊢;rw[am n]at b;dsimp only at*;refine⟨by omega,by omega,by omega,by omega,by omega,⟨?_,p⟩,b _ _ _ rfl⟩;show ah _<=_;simp only[aa];omega)
def WN:bw:=(177,[dgC])::WM
theorem a1n:KK WN:=⟨aQ.add QZ.1 (by kernel_rfl) (bo LQ),bg.add QZ.2 (bo (λ_=>bJ))⟩
abbrev Ih:Ty:= .pr (.ar 32 .u8) (.pr (.ar 32 .u8) (.pr .i64 .un))
abbrev Kn:=BL×BL×Int×Unit
abbrev Ln:=List (Int×List Kn)
def dx(l:Ln)(a:Int):List Kn:=(aO .i64 a l).getD []
theorem uV(l:Ln)(a:Int):(aO .i64 a l).getD []=dx l a:=rfl
def ci(l:Ln):Prop:=∀a,(dx l a).length<=1048576/\∀k∈dx l a,k.1.length=32/\k.2.1.length=32
def jr(j:Nat):List (Option CP):=[some (.cells [.mp (j+1)]),some (.mp .i64 (.sl Ih))]
def cnC:Ct:=⟨0,⟨[],[]⟩,[⟨[sP 0],jr 0⟩],λ_=>one True ([],())⟩
def WO:bw:=(68,[cnC])::WN
theorem a1o:KK WO:=kA a1n (cE cnC 0) (∀Q,bd cnC () Q->Q ⟨0,[],()⟩) (by
 unfold bd;intro Q ⟨_,a⟩;exact a)
def pu:Kn:=(ak 32 0,ak 32 0,0,())
def xa(l:Ln)(a q:Int):BL×Int:=if q<1\/(dx l a).length<q then([],0)else(((dx l a).getD (q-1).toNat pu).1,((dx l a).getD (q-1).toNat pu).2.2.1)
theorem aS{α:Type}{l:List α}{j:Nat}{z:α}(h:j<l.length):l.getD j z∈l:=by
 rw[aw,ap h];exact kB _
def baC:Ct:=⟨3,⟨[sP 0,sI 1,sI 2],jr 0⟩,[⟨[sO 0 2,sI 1],jr 0++[cB]⟩],λ(a,q,l,_)=>one (ci l) ((xa l a q).2,l,(xa l a q).1,())⟩
def WP:bw:=(157,[baC])::WO
theorem a1p:KK WP:=kA a1o (cE baC 0) (∀(c a:Int)(b:Ln)Q,let e:=(aO Ty.i64 c b).getD [];let z:=gD e (a-1) (ak 32 (ae 8 0),ak 32 (ae 8 0),0,());bd baC (c,a,b,()) Q->Bd (a<1) (Q ⟨0,0,b,[],()⟩) (Bd (nI e<a) (Q ⟨0,0,b,[],()⟩) (ac (a-1)/\iN (a-1) e/\(0+ah z.1)*1<=mM/\Q ⟨0,z.2.2.1,b,z.1,()⟩))) (by
 conv=>zeta
 unfold Bd gD iN mM nI bd;intro a q l Q ⟨j,c⟩;have b:∀f i,xa l a q=(f,i)->Q ⟨0,(i,l,f,())⟩:=λf i e=>by rw[e]at c;exact c
 clear c;unfold xa at b;rw[uV];obtain⟨p,m⟩:=j a;have n:(ak 32 (ae 8 0),ak 32 (ae 8 0),(0:Int),())=pu:=rfl;rw[n];generalize dx l a=L at*;refine⟨λh=>b _ _ (am (.inl (ag h))),λh=>⟨λg=>b _ _ (am (.inr (ag g))),λg=>?_⟩⟩;have r:=an h;have s:=an g;have o:=(m _ (aS (z:=pu) (show(q-1).toNat<L.length by omega))).1;exact⟨by unfold ac;omega,by omega,by rw[o];omega,b _ _ (af (by omega))⟩)
abbrev Ii:Ty:= .pr .i64 (.pr .i64 (.pr tB .un))
abbrev Hd:=Int×Int×BL×Unit
def fx(l:Ln)(a:Int):Hd:=if a<0\/5<=a then(0,0,[],())else(a,(dx l a).length,(xa l a (dx l a).length).1,())
def heC:Ct:=⟨2,⟨[sP 0,sI 1],jr 0⟩,[⟨[(0,true,[.d Ii])],jr 0⟩],λ(a,l,_)=>one (ci l) (fx l a,l,())⟩
abbrev WQ(v:(Int×Int×BL×Unit)×Ln×Unit):cw heC.out:=⟨0,v⟩
def WR:bw:=(117,[heC])::WP
theorem a1q:KK WR:=kA a1p (cE heC 0) (∀(a:Int)(b:Ln)Q,let c:=(aO Ty.i64 a b).getD [];let z:=WQ ((0,0,[],()),b,());bd heC (a,b,()) Q->Bd (a<0) (Q z) (Bd (5<=a) (Q z) (ci b/\Q ⟨0,(a,nI c,(xa b a (nI c)).1,()),b,()⟩))) (by
 conv=>zeta
 unfold Bd nI bd;intro a l Q ⟨f,c⟩;have b:∀y,fx l a=y->Q ⟨0,(y,l,())⟩:=λy e=>by rw[e]at c;exact c
 clear c;unfold fx at b;refine⟨λh=>b _ (am (.inl (ag h))),λh=>⟨λg=>b _ (am (.inr (ag g))),λg=>⟨f,b _ (af ?_)⟩⟩⟩;have i:=an h;have j:=an g;omega)
def Cp(lk:Lk)(l:Ln)(ts:List Tm)(m:KV):Ln:=cD (kt:= .i64) lk.1 (dx l lk.1++[(dJ (ak 32 0) (lZ lk ts m).1,dJ (ak 32 0) lk.2.2.2.2.1,lk.2.2.1,())]) l
def kpC:Ct:=⟨3,⟨[sP 0,sS 1 2,(2,true,[.d Aq])],jr 0++iK 2⟩,[⟨[],jr 0++lj 2 5++[cT]⟩],λ(lk,l,d,a,m,_)=>one (a.length<=4294967296/\ci l) (Cp lk l a m,d,(lZ lk a m).2.2,(lZ lk a m).2.1,())⟩
def WS:bw:=(162,[kpC])::WR
theorem Q0:KK WS:=kA a1q (cE kpC 0) (∀(a:Lk)(b:Ln)(e:Int)(c:List Tm)(d:KV)Q,let f:=lZ (a.1,a.2.1,a.2.2.1,a.2.2.2.1,a.2.2.2.2.1,()) c d;let z:=(aO Ty.i64 a.1 b).getD [];bd kpC (a,b,e,c,d,()) Q->c.length<=4294967296/\((0:Int)<=0/\0<=nI z/\nI z=nI z/\nI z<=nI z)/\0<[(dJ (ak 32 (ae 8 0)) f.1,dJ (ak 32 (ae 8 0)) a.2.2.2.2.1,a.2.2.1,())].length/\((cM (nI z).toNat z).length+[(dJ (ak 32 (ae 8 0)) f.1,dJ (ak 32 (ae 8 0)) a.2.2.2.2.1,a.2.2.1,())].length)*72<=mM/\Q ⟨0,dD Ty.i64 a.1 (cM (nI z).toNat z++[(dJ (ak 32 (ae 8 0)) f.1,dJ (ak 32 (ae 8 0)) a.2.2.2.2.1,a.2.2.1,())]) b,e,f.2.2,f.2.1,()⟩) (by
 conv=>zeta
 unfold mM nI bd;rintro⟨a,q,g,pv,h,⟨⟩⟩ l d i m Q ⟨⟨c,f⟩,b⟩;dsimp only at*;obtain⟨j,n⟩:=f a;rw[uV];unfold Cp at b;dsimp only at b;have e:((dx l a).length:Int).toNat=(dx l a).length:=aF _;rw[e,br];refine⟨c,⟨by omega,by omega,rfl,by omega⟩,by simp,?_,b⟩;simp only[aa,bh];omega)
def iV(lk:Lk)(l:Ln)(ts:List Tm)(m:KV):Int×List Tm×KV:=
 if pF lk=false then(1,ts,m)
 else if lk.2.1<=(dx l lk.1).length then((if((dx l lk.1).getD (lk.2.1-1).toNat pu).1=(lZ lk ts m).1 then 16 else 18),(lZ lk ts m).2)
 else if(dx l lk.1).length+1<lk.2.1 then(15,ts,m)
 else if(fx l lk.1).2.2.1≠lk.2.2.2.1 then(17,ts,m)
 else if 0<(dx l lk.1).length/\lk.2.2.1<((dx l lk.1).getD ((dx l lk.1).length-1) pu).2.2.1 then(20,ts,m)
 else(0,ts,m)
def chC:Ct:=⟨3,⟨[sP 0,sS 1 2,(2,true,[.d Aq])],jr 0++iK 2⟩,[⟨[sI 0],jr 0++lj 2 5++[cT]⟩],λ(lk,l,d,a,m,_)=>one (a.length<=4294967296/\ci l) ((iV lk l a m).1,l,d,(iV lk l a m).2.2,(iV lk l a m).2.1,())⟩
theorem LR:bS Tryz.prog 161 chC:=kC Q0 (cE chC 0) (∀(a:Lk)(b:Ln)(e:Int)(c:List Tm)(d:KV)Q,let h:= !(fx b a.1).2.2.1==a.2.2.2.1;let f:=(b,e,d,c,());let g:=(a.1,a.2.1,a.2.2.1,a.2.2.2.1,a.2.2.2.2.1,());let z:=(aO Ty.i64 a.1 b).getD [];let i:=a.2.2.1<(gD z (nI z-1) (ak 32 (ae 8 0),ak 32 (ae 8 0),0,())).2.2.1;let j:=(gD z (a.2.1-1) (ak 32 (ae 8 0),ak 32 (ae 8 0),0,())).1==(lZ g c d).1;bd chC (a,b,e,c,d,()) Q->True/\Br (!pF g) (Q ⟨0,1,f⟩) (Bd (a.2.1<=nI z) (ac (a.2.1-1)/\iN (a.2.1-1) z/\c.length<=4294967296/\True/\Br j (Q ⟨0,16,b,e,(lZ g c d).2.2,(lZ g c d).2.1,()⟩) (Q ⟨0,18,b,e,(lZ g c d).2.2,(lZ g c d).2.1,()⟩)) (ac (nI z+1)/\Bd (nI z+1<a.2.1) (Q ⟨0,15,f⟩) (ci b/\True/\Br h (Q ⟨0,17,f⟩) (Bd (0<nI z) (decide (0<nI z)=true/\decide (0<nI z)=true/\decide (0<nI z)=true/\decide (0<nI z)=true/\decide (0<nI z)=true/\ac (nI z-1)/\decide (0<nI z)=true/\(0<=nI z-1/\nI z-1<nI z)/\decide (0<nI z)=true/\decide (0<nI z)=true/\decide (0<nI z)=true/\decide (0<nI z)=true/\Br (decide i) (Q ⟨0,20,f⟩) (Q ⟨0,0,f⟩)) (decide (0<nI z)=false/\decide (0<nI z)=false/\decide (0<nI z)=false/\decide (0<nI z)=false/\decide (0<nI z)=false/\decide (0<nI z)=false/\decide (0<nI z)=false/\decide (0<nI z)=false/\decide (0<nI z)=false/\decide (0<nI z)=false/\Q ⟨0,0,f⟩)))))) (by
 conv=>zeta
 unfold Bd Br gD iN nI bd;rintro⟨a,q,c,pv,f,⟨⟩⟩ l d u m Q ⟨⟨z,v⟩,i⟩;have b:∀j o r,iV (a,q,c,pv,f,()) l u m=(j,o,r)->Q ⟨0,(j,l,d,r,o,())⟩:=λj o r e=>by rw[e]at i;exact i
 clear i;obtain⟨C,E⟩:=v a;unfold iV at b;rw[uV];have w:(ak 32 (ae 8 0),ak 32 (ae 8 0),(0:Int),())=pu:=rfl;rw[w];dsimp only at*;refine⟨trivial,λh=>b _ _ _ (am (by simpa using h)),λh=>?_⟩;have x:pF (a,q,c,pv,f,())=true:=by simpa using h
 have s:=oH x;dsimp only at s;rw[af (by simp[x])]at b;have y:((dx l a).length-1:Int).toNat=(dx l a).length-1:=by omega
 rw[y];clear h y w;have F:fx l a=fx l a:=rfl;generalize fx l a=H at*;generalize lZ (a,q,c,pv,f,()) u m=D at*;generalize dx l a=L at*;refine⟨λh=>?_,λh=>?_⟩
 ·have t:=ag h;rw[am t]at b;refine⟨by unfold ac;omega,by omega,z,trivial,λg=>b _ _ _ ?_,λg=>b _ _ _ ?_⟩
  ·rw[am (by simpa using g)]
  ·rw[af (by simpa using g)]
 ·have t:=an h;rw[af t]at b;refine⟨by unfold ac;omega,λg=>b _ _ _ (am (ag g)),λg=>?_⟩;rw[af (an g)]at b;refine⟨v,trivial,λk=>b _ _ _ (am (by simpa using k)),λk=>?_⟩;rw[af (by simpa using k)]at b;refine⟨λn=>?_,λn=>?_⟩
  ·have A:=ag n
   repeat refine⟨n,?_⟩
   refine⟨by unfold ac;omega,?_⟩
   repeat refine⟨n,?_⟩
   refine⟨by omega,?_⟩
   repeat refine⟨n,?_⟩
   exact⟨λp=>b _ _ _ (am ⟨by omega,ag p⟩),λp=>b _ _ _ (af λB=>an p B.2)⟩
  ·have A:=an n
   repeat refine⟨n,?_⟩
   exact b _ _ _ (af (by omega)))
def WT:bw:=(161,[chC])::WS
theorem Q1:KK WT:=⟨aQ.add Q0.1 (by kernel_rfl) (bo LR),bg.add Q0.2 (bo (λ_=>bJ))⟩
theorem Q2(t:Tm)(ts:List Tm)(m:KV):(dV t ts m).2.1.length<=ts.length+1:=El t ts m
theorem Eo(lk:Lk)(ts:List Tm)(m:KV):(lZ lk ts m).2.1.length<=ts.length+1:=by
 unfold lZ;split
 ·exact Q2 _ _ _
 ·simp
theorem Q3(lk:Lk)(l:Ln)(ts:List Tm)(m:KV):(iV lk l ts m).2.1.length<=ts.length+1:=by
 have:=Eo lk ts m;unfold iV;(repeat' split)<;>simp<;>omega
def oa(lk:Lk)(l:Ln)(ts:List Tm)(m:KV):Int×Ln×List Tm×KV:=
 if(iV lk l ts m).1=0 then(0,Cp lk l (iV lk l ts m).2.1 (iV lk l ts m).2.2,(lZ lk (iV lk l ts m).2.1 (iV lk l ts m).2.2).2)else((iV lk l ts m).1,l,(iV lk l ts m).2)
def tkC:Ct:=⟨3,⟨[sP 0,sS 1 2,(2,true,[.d Aq])],jr 0++iK 2⟩,[⟨[sI 0],jr 0++lj 2 5++[cT]⟩],λ(lk,l,d,a,m,_)=>one (a.length<=4294967295/\ci l) ((oa lk l a m).1,(oa lk l a m).2.1,d,(oa lk l a m).2.2.2,(oa lk l a m).2.2.1,())⟩
theorem LS:bS Tryz.prog 120 tkC:=kC Q1 (cE tkC 0) (∀(a:Lk)(b:Ln)(e:Int)(c:List Tm)(d:KV)Q,let z:=(a.1,a.2.1,a.2.2.1,a.2.2.2.1,a.2.2.2.2.1,());let f:=lZ z (iV z b c d).2.1 (iV z b c d).2.2;bd tkC (a,b,e,c,d,()) Q->(c.length<=4294967296/\ci b)/\Br (!(iV z b c d).1==0) (Q ⟨0,(iV z b c d).1,b,e,(iV z b c d).2.2,(iV z b c d).2.1,()⟩) (((iV z b c d).2.1.length<=4294967296/\ci b)/\Q ⟨0,0,Cp z b (iV z b c d).2.1 (iV z b c d).2.2,e,f.2.2,f.2.1,()⟩)) (by
 conv=>zeta
 unfold Br bd;rintro⟨a,q,n,pv,o,⟨⟩⟩ l d p m Q ⟨⟨s,r⟩,b⟩;have c:∀f g i j,oa (a,q,n,pv,o,()) l p m=(f,g,i,j)->Q ⟨0,(f,g,d,j,i,())⟩:=λf g i j e=>by rw[e]at b;exact b
 clear b;unfold oa at c;dsimp only at*;have t:=Q3 (a,q,n,pv,o,()) l p m;refine⟨⟨by omega,r⟩,λh=>c _ _ _ _ (af (by simpa using h)),λh=>⟨⟨by omega,r⟩,c _ _ _ _ (am (by simpa using h))⟩⟩)
def WU:bw:=(120,[tkC])::WT
theorem Q4:KK WU:=⟨aQ.add Q1.1 (by kernel_rfl) (bo LS),bg.add Q1.2 (bo (λ_=>bJ))⟩
def sH(l:Ln)(k:Nat):List Hd:=(kz k).filterMap λ(a:Nat)=>if 0<(fx l (a:Int)).2.1 then some (fx l (a:Int))else none
theorem xb(l:Ln)(k:Nat):sH l (k+1)=sH l k++(if 0<(fx l (k:Int)).2.1 then[fx l (k:Int)]else[]):=by
 unfold sH;rw[List.range_succ,List.filterMap_append];congr 1;by_cases h:0<(fx l (k:Int)).2.1<;>simp[h]
theorem Ar(l:Ln):∀k,(sH l k).length<=k
 |0=>by simp[sH]
 |k+1=>by rw[xb];have:=Ar l k;split<;>simp<;>omega
def cHd:Option CP:=some (.sl Ii)
def vcC:Ct:=⟨1,⟨[sP 0],jr 0⟩,[⟨[sO 0 2],jr 0++[cHd]⟩],λ(l,_)=>one (ci l) (l,sH l 5,())⟩
def vcP:cg:=⟨[sP 0,sO 3 2,sI 6],jr 0++[cHd]⟩
def mr(l:Ln)(y:vcP.den):Prop:=match y with
 |(i,a,v,_)=>a=l/\∃k:Nat,i=k/\k<=5/\v=sH l k
def vcA(x:vcC.inp.den):dB:=⟨[(3,bK vcP (mr x.1) λ(i,_)=>(5-i).toNat)],[],[],[],0⟩
theorem Ec:bS Tryz.prog 105 vcC:=kC Q4 vcA (∀(c:Ln)Q,bd vcC (c,()) Q->Is (mr c (0,c,[],()))/\∀(a:Int)(b:Ln)(d:List (Int×Int×BL×Unit)),mr c (a,b,d,())->Bd (a<5) (ci b/\Bd (0<(fx b a).2.1) ((d.length+[((fx b a).1,(fx b a).2.1,(fx b a).2.2.1,())].length)*40<=mM/\ac (a+1)/\Is (mr c (a+1,b,d++[((fx b a).1,(fx b a).2.1,(fx b a).2.2.1,())],())/\lN (5-(a+1)) (5-a))) (ac (a+1)/\Is (mr c (a+1,b,d,())/\lN (5-(a+1)) (5-a)))) (Q ⟨0,b,d,()⟩)) (by
 unfold Bd lN mM bd;intro l Q ⟨c,e⟩;refine⟨⟨rfl,0,rfl,by omega,rfl⟩,?_⟩;rintro i a v ⟨rfl,k,rfl,f,rfl⟩;have j:=Ar a k;have b:=xb a k;simp only[ai,aj];refine⟨λh=>⟨c,λg=>⟨?_,by unfold ac;omega,⟨⟨rfl,k+1,rfl,by omega,?_⟩,by omega⟩⟩,λg=>⟨by unfold ac;omega,⟨⟨rfl,k+1,rfl,by omega,?_⟩,by omega⟩⟩⟩,λh=>?_⟩
 ·simp only[aa,bh];omega
 ·rw[b,am g]
 ·rw[b,af g,aW]
 ·have:k=5:=by omega
  subst this;exact e)
def WV:bw:=(105,[vcC])::WU
theorem a1r:KK WV:=⟨aQ.add Q4.1 (by kernel_rfl) (bo Ec),bg.add Q4.2 (bo (λ_=>bJ))⟩
def Q5(last:Int):List Hd->Bool
 |[]=>true
 |h::r=>if h.1<=last\/5<=h.1\/h.2.1<1\/1048576<h.2.1\/h.2.2.1.length≠32 then false else Q5 h.1 r
def voC:Ct:=⟨1,⟨[(0,false,[.d (.sl Ii)])],[]⟩,[⟨[sL 0],[]⟩],λ(v,_)=>one (v.length<=1099511627776) (Q5 (-1) v,())⟩
def voP:cg:=⟨[sI 3,(6,false,[.d (.sl Ii)]),sI 7,sI 8],[]⟩
def voI(v:List Hd)(y:voP.den):Prop:=match y with
 |(a,b,n,i,_)=>b=v/\n=v.length/\∃k:Nat,i=k/\k<=v.length/\Q5 a (v.drop k)=Q5 (-1) v
def voA(x:voC.inp.den):dB:=⟨[(3,bK voP (voI x.1) λ(_,_,n,i,_)=>(n-i).toNat)],[],[],[],0⟩
theorem cZ{α:Type}{l:List α}{k:Nat}{z:α}(h:k<l.length):l.drop k=l.getD k z::l.drop (k+1):=by
 rw[List.drop_eq_getElem_cons h,aw,ap h];rfl
def WW:bw:=(216,[voC])::WV
theorem a1s:KK WW:=kA a1r voA (∀(c:List (Int×Int×BL×Unit))Q,bd voC (c,()) Q->Is (voI c ((-1:Int),c,nI c,0,()))/\∀(e:Int)(b:List (Int×Int×BL×Unit))(d a:Int),let z:=gD b a (0,0,[],());let f:= !(↑(ah z.2.2.1):Int)==32;voI c (e,b,d,a,())->Bd (a<d) (iN a b/\Bd (z.1<=e) (Q ⟨0,false,()⟩) (Bd (5<=z.1) (Q ⟨0,false,()⟩) (Bd (z.2.1<1) (Q ⟨0,false,()⟩) (Bd (1048576<z.2.1) (Q ⟨0,false,()⟩) (Br f (Q ⟨0,false,()⟩) (ac (a+1)/\Is (voI c (z.1,b,d,a+1,())/\lN (d-(a+1)) (d-a)))))))) (Q ⟨0,true,()⟩)) (by
 conv=>zeta
 unfold Bd Br gD iN lN nI bd;intro v Q ⟨r,c⟩;have b:∀y,Q5 (-1) v=y->Q ⟨0,(y,())⟩:=λy e=>by rw[e]at c;exact c
 clear c;refine⟨⟨rfl,rfl,0,rfl,by omega,rfl⟩,?_⟩;rintro j l n i ⟨rfl,rfl,k,rfl,s,a⟩;simp only[ai,aj,aF];refine⟨λh=>⟨by omega,?_⟩,λh=>b _ ?_⟩
 ·have m:=cZ (z:=((0,0,[],()):Hd)) (show k<l.length by omega);rw[m]at a;generalize l.getD k (0,0,[],())=H at*;simp only[Q5]at a;refine⟨λg=>b _ ?_,λg=>⟨λo=>b _ ?_,λo=>⟨λp=>b _ ?_,λp=>⟨λq=>b _ ?_,λq=>⟨λf=>b _ ?_,λf=>⟨by unfold ac;omega,⟨⟨rfl,rfl,k+1,rfl,by omega,?_⟩,by omega⟩⟩⟩⟩⟩⟩⟩
  ·rw[<-a,am (by omega)]
  ·rw[<-a,am (by omega)]
  ·rw[<-a,am (by omega)]
  ·rw[<-a,am (by omega)]
  ·rw[<-a,am (.inr (.inr (.inr (.inr (λe=>by simp[e]at f)))))]
  ·rw[<-a,af];have t:(H.2.2.1.length:Int)=32:=by simpa using f
   omega
 ·rw[<-a,bC (by omega)];rfl)
abbrev iG:Ty:= .pr .i64 (.pr .i64 .un)
abbrev Fk:=Int×Int×Unit
abbrev tRl:Ty:= .pr .bl (.pr .bl .un)
abbrev Rl:=Bool×Bool×Unit
def Ij:Option CP:=some (.sl iG)
def cpC:Ct:=⟨2,⟨[sP 0,(1,false,[.d (.sl Ii)])],jr 0⟩,[⟨[(0,true,[.d tRl]),sO 1 2,sI 2],jr 0++[Ij]⟩],λ(v,l,_)=> .need (ci l/\v.length<=1000000) (.all (Rl×List Fk×Int) (λy=>y.2.1.length<=v.length/\(y.2.2=0\/y.2.2=1)) λy=> .leaf ⟨0,(y.1,y.2.2,l,y.2.1,())⟩)⟩
def cpH:List (Option CP):=jr 0++[some (.cells [.d .bl, .d .bl]),some (.cells [.d .bl, .d .bl]),Ij,some (.mp .i64 .i64)]
def cpP:cg:=⟨[sP 0,(4,false,[.ptr 2 0]),(7,false,[.ptr 3 0]),sO 8 4,(9,false,[.mp 5]),(24,false,[.d (.sl Ii)]),sI 25,sI 26],cpH⟩
def Ve(v:List Hd)(l:Ln)(y:cpP.den):Prop:=match y with
 |(a,n,i,b,_,_,_,_,f,_)=>a=v/\b=l/\n=v.length/\∃k:Nat,i=k/\k<=v.length/\f.length<=k
def cqP:cg:=⟨[sP 0,(4,false,[.ptr 2 0]),(7,false,[.ptr 3 0]),sO 8 4,(9,false,[.mp 5]),sI 61],cpH⟩
def WX(v:List Hd)(l:Ln)(y:cqP.den):Prop:=match y with
 |(i,a,_,_,_,_,f,_)=>a=l/\∃k:Nat,i=k/\k<=5/\f.length<=v.length
def cpA(x:cpC.inp.den):dB:=⟨[(7,bK cpP (Ve x.1 x.2.1) λ(_,n,i,_)=>(n-i).toNat),(17,bK cqP (WX x.1 x.2.1) λ(i,_)=>(5-i).toNat)],[],[],[],0⟩
def WY:bw:=(201,[cpC])::WW
theorem a1t:KK WY:=kA a1s cpA (∀(c:List (Int×Int×BL×Unit))(e:Ln)Q,bd cpC (c,e,()) Q->c.length<=1099511627776/\Br (!Q5 (-1:Int) c) (Q ⟨0,(false,false,()),1,e,[],()⟩) (Is (Ve c e (c,nI c,0,e,false,false,false,false,[],[],()))/\∀(b:List (Int×Int×BL×Unit))(f a:Int)(g:Ln)(j k l o:Bool)(h:List Fk)(m:List (Int×Int)),let z:=gD b a (0,0,[],());let u:=xa g z.1 z.2.1;Ve c e (b,f,a,g,j,k,l,o,h,m,())->Bd (a<f) (iN a b/\ci g/\Br (u.2==0) (ac (a+1)/\Is (Ve c e (b,f,a+1,g,j,k,l,true,h,dD Ty.i64 z.1 z.2.1 m,())/\lN (f-(a+1)) (f-a))) (True/\Br (!u.1==z.2.2.1) ((h.length+[(z.1,z.2.1,())].length)*16<=mM/\ac (a+1)/\Is (Ve c e (b,f,a+1,g,j,k,l,o,h++[(z.1,z.2.1,())],dD Ty.i64 z.1 z.2.1 m,())/\lN (f-(a+1)) (f-a))) (ac (a+1)/\Is (Ve c e (b,f,a+1,g,j,k,l,o,h,dD Ty.i64 z.1 z.2.1 m,())/\lN (f-(a+1)) (f-a))))) (Is (WX c e (0,g,j,k,l,o,h,m,()))/\∀(d:Int)(i:Ln)(r s t p:Bool)(q:List Fk)(n:List (Int×Int)),let v:=(aO Ty.i64 d n).getD 0<nI ((aO Ty.i64 d i).getD []);WX c e (d,i,r,s,t,p,q,n,())->Bd (d<5) (Br (decide v) (ac (d+1)/\Is (WX c e (d+1,i,r,s,true,p,q,n,())/\lN (5-(d+1)) (5-d))) (ac (d+1)/\Is (WX c e (d+1,i,r,s,t,p,q,n,())/\lN (5-(d+1)) (5-d)))) (Q ⟨0,(t,p,()),0,i,q,()⟩)))) (by
 conv=>zeta
 unfold Bd Br gD iN lN mM nI bd;intro v l Q ⟨⟨c,q⟩,b⟩;refine⟨by omega,λ_=>b ((false,false,()),[],1) ⟨aq _, .inr rfl⟩,λ_=>⟨⟨rfl,rfl,rfl,0,rfl,by omega,aq _⟩,?_⟩⟩;rintro r n i s _ _ t u f w ⟨rfl,rfl,rfl,k,rfl,x,y⟩;simp only[ai,aj,aa,bh];refine⟨λh=>⟨by omega,c,λg=>⟨by unfold ac;omega,⟨⟨rfl,rfl,rfl,k+1,rfl,by omega,by omega⟩,by omega⟩⟩,λg=>⟨trivial,λe=>⟨by omega,by unfold ac;omega,⟨⟨rfl,rfl,rfl,k+1,rfl,by omega,by simp;omega⟩,by omega⟩⟩,λe=>⟨by unfold ac;omega,⟨⟨rfl,rfl,rfl,k+1,rfl,by omega,by omega⟩,by omega⟩⟩⟩⟩,λh=>⟨⟨rfl,0,rfl,by omega,by omega⟩,?_⟩⟩;rintro j z _ _ m o p A ⟨rfl,j,rfl,B,a⟩;refine⟨λh=>⟨λg=>⟨by unfold ac;omega,⟨⟨rfl,j+1,rfl,by omega,a⟩,by omega⟩⟩,λg=>⟨by unfold ac;omega,⟨⟨rfl,j+1,rfl,by omega,a⟩,by omega⟩⟩⟩,λh=>?_⟩;exact b ((m,o,()),p,0) ⟨a, .inl rfl⟩) (l:=λ_=>Live.need λ_=>Live.all ⟨((false,false,()),[],0),⟨aq _, .inl rfl⟩,Live.leaf⟩)
def Ik(a:List Kn)(p:BL):BL:=a.foldl (λp k=>p++(vn k.2.1.length++k.2.1)++vn k.2.2.1) p
def ma(l:Ln)(p:BL)(k:Nat):BL:=(kz k).foldl (λp(a:Nat)=>Ik (dx l (a:Int)) (p++vn (dx l (a:Int)).length)) p
theorem cQ{α:Type}{l:List α}{k:Nat}{z:α}(h:k<l.length):l.take (k+1)=l.take k++[l.getD k z]:=by
 rw[dW,ap h];simp[bB,ap h]
theorem xc{a:List Kn}{r:Nat}(h:r<a.length)(q:BL):Ik (a.take (r+1)) q=Ik (a.take r) q++(vn (a.getD r pu).2.1.length++(a.getD r pu).2.1)++vn (a.getD r pu).2.2.1:=by
 rw[cQ (z:=pu) h,Ik,List.foldl_append];rfl
theorem rC(l:Ln)(p:BL)(k:Nat):ma l p (k+1)=Ik (dx l (k:Int)) (ma l p k++vn (dx l (k:Int)).length):=by
 rw[ma,List.range_succ,List.foldl_append];rfl
theorem uW{a:List Kn}(h:∀k∈a,k.1.length=32/\k.2.1.length=32)(q:BL):∀r,r<=a.length->(Ik (a.take r) q).length<=q.length+r*46
 |0,_=>by simp[Ik]
 |r+1,b=>by
  have c:=uW h q r (by omega);have:=(h _ (aS (z:=pu) (show r<a.length by omega))).2;have:=bz (a.getD r pu).2.1.length;have:=bz (a.getD r pu).2.2.1;rw[xc (by omega)];simp only[aa];omega
theorem qa{l:Ln}(h:ci l)(p:BL):∀k,(ma l p k).length<=p.length+k*48234503
 |0=>by simp[ma]
 |k+1=>by
  have b:=qa h p k;obtain⟨c,a⟩:=h k;rw[rC];have:=uW a (ma l p k++vn (dx l (k:Int)).length) _ (aD _);rw[br]at this;have:=bz (dx l (k:Int)).length;simp only[aa]at*;omega
def bpC:Ct:=⟨2,⟨[sP 0,sB 1],jr 0⟩,[⟨[(0,false,[.d tB])],jr 0⟩],λ(p,l,_)=>one (ci l/\p.length<=1073741824) (ma l p 5,l,())⟩
def bpP:cg:=⟨[sP 0,sB 1,sI 13],jr 0⟩
def bpI(p:BL)(l:Ln)(y:bpP.den):Prop:=match y with
 |(q,i,a,_)=>a=l/\∃k:Nat,i=k/\k<=5/\q=ma l p k
def bqP:cg:=⟨[sP 0,sB 1,sI 5,sI 13,(30,false,[.d (.sl Ih)]),sI 31,sI 32],jr 0⟩
def bqI(p:BL)(l:Ln)(c:Int)(y:bqP.den):Prop:=match y with
 |(q,a,i,b,n,j,e,_)=>e=l/\a=i/\c=i/\∃k:Nat,i=k/\k<5/\b=dx l k/\n=b.length/\∃r:Nat,j=r/\r<=b.length/\q=Ik (b.take r) (ma l p k++vn b.length)
def bpA(x:bpC.inp.den):dB:=⟨[(4,oG bpP (bpI x.1 x.2.1) (λ(_,i,_)=>(5-i).toNat) λy=>[(8,bK bqP (bqI x.1 x.2.1 y.2.1) λ(_,_,_,_,n,j,_)=>(n-j).toNat)])],[],[],[(10,7,0)],0⟩
def WZ:bw:=(126,[bpC])::WY
theorem Q6:KK WZ:=kA a1t bpA (∀(d:BL)(e:Ln)Q,bd bpC (d,e,()) Q->Is (bpI d e (d,0,e,()))/\∀(j:BL)(b:Int)(f:Ln),let m:=aO Ty.i64 b f;bpI d e (j,b,f,())->Bd (b<5) (j.length<=1099511627776/\Is (bqI d e b (j++vn (nI (m.getD [])),b,b,m.getD [],nI (m.getD []),0,f,()))/\∀(h:BL)(l i:Int)(c:List Kn)(g a:Int)(k:Ln),let z:=gD c a (ak 32 (ae 8 0),ak 32 (ae 8 0),0,());let n:=vn (↑(ah z.2.1):Int)++z.2.1;bqI d e b (h,l,i,c,g,a,k,())->Bd (a<g) (iN a c/\h.length+ah z.2.1<=1099511627776/\(h++n).length<=1099511627776/\ac (a+1)/\Is (bqI d e b (h++n++vn z.2.2.1,l,i,c,g,a+1,k,())/\lN (g-(a+1)) (g-a))) (ac (i+1)/\Is (bpI d e (h,i+1,k,())/\lN (5-(i+1)) (5-b)))) (Q ⟨0,j,f,()⟩)) (by
 conv=>zeta
 unfold Bd gD iN lN nI bd;intro p l Q ⟨⟨f,D⟩,u⟩;refine⟨⟨rfl,0,rfl,by omega,rfl⟩,?_⟩;rintro q i v ⟨rfl,k,rfl,E,rfl⟩;simp only[uV,ai,aj];have w:=qa f p k;have s:=rC v p k;refine⟨λh=>⟨by omega,⟨rfl,rfl,rfl,k,rfl,by omega,rfl,rfl,0,rfl,aq _,rfl⟩,?_⟩,λh=>?_⟩
 ·rintro F G H J n j b ⟨rfl,rfl,m,a,rfl,o,rfl,rfl,r,rfl,x,rfl⟩;have w:=qa f p a;have s:=rC b p a;have K:=(f a).1;have t:=(f a).2;have y:(ak 32 (ae 8 0),ak 32 (ae 8 0),(0:Int),())=pu:=rfl;rw[y];have A:=uW t (ma b p a++vn (dx b a).length) r x;have L:=bz (dx b a).length;rw[aa]at A;have M:∀q,q=Ik ((dx b a).take r) (ma b p a++vn (dx b a).length)->q.length=(Ik ((dx b a).take r) (ma b p a++vn (dx b a).length)).length:=λq e=>by rw[e]
  refine⟨λg=>?_,λg=>?_⟩
  ·have c:r<(dx b a).length:=by omega
   have N:=(t _ (aS (z:=pu) c)).2;have B:=bz ((dx b a).getD r pu).2.1.length;have C:=xc c (ma b p a++vn (dx b a).length);simp only[aF,aa];refine⟨by omega,by omega,by omega,by unfold ac;omega,⟨⟨rfl,rfl,m,a,rfl,o,rfl,rfl,r+1,rfl,c,C.symm⟩,by omega⟩⟩
  ·have:r=(dx b a).length:=by omega
   refine⟨by unfold ac;omega,⟨⟨rfl,a+1,rfl,by omega,?_⟩,by omega⟩⟩;rw[s,this,br]
 ·have:k=5:=by omega
  subst this;exact u)
abbrev Rs:=Int×Int
def xd(m:Bool)(s:Rs):Int:=if m then s.2 else 5
def flS(m:Bool)(x:Int)(s:Rs):Rs:=(s.1,if m&&s.2==0 then x else s.2)
theorem eQ{b:BL}{a:Int}(m:Bool)(e lo hi:Int)(h:bQ b a):bQ b (cW b a m e lo hi).2.1/\a<=(cW b a m e lo hi).2.1/\0<=(cW b a m e lo hi).1/\(cW b a m e lo hi).1<=max hi 0:=by
 have c:=w7 (b.drop a.toNat) 0 0;obtain⟨i,j,l⟩:=h;rw[cI]at c;unfold cW;generalize fO 0 0 (b.drop a.toNat)=g at*;split
 ·split
  ·rename_i f;have:=c f;split<;>simp only[]<;>omega
  ·simp only[];omega
 ·simp only[];omega
theorem rnE{b:BL}{a:Int}{m:Bool}{e:Int}(lo hi:Int)(h:(m&&e==0)=false):cW b a m e lo hi=(0,a,e):=by
 unfold cW;rw[af (by rw[h];decide)]
theorem rfA{b:BL}{a:Int}(m:Bool)(e n:Int)(h:bQ b a):bQ b (xW b a m e n).2.1/\a+(xW b a m e n).1.length<=(xW b a m e n).2.1/\(xW b a m e n).1.length<=n.toNat:=by
 obtain⟨c,f,g⟩:=h;unfold xW;split
 ·split
  ·simp;omega
  ·split<;>simp<;>omega
 ·simp;omega
theorem ni{b:BL}{a:Int}(m:Bool)(e n:Int)(h:bQ b a):bQ b (gC b a m e n).2.1/\a+(gC b a m e n).1.length<=(gC b a m e n).2.1/\(gC b a m e n).1.length<=n.toNat:=by
 have c:=w7 (b.drop a.toNat) 0 0;obtain⟨f,o,p⟩:=h;rw[cI]at c;unfold gC;generalize fO 0 0 (b.drop a.toNat)=g at*;split
 ·split
  ·rename_i i;have:=c i;split
   ·simp;omega
   ·split
    ·simp;omega
    ·have j:bQ b (a+g.2.1):=⟨f,by omega,by omega⟩;obtain⟨l,q,r⟩:=rfA m e g.1 j;refine⟨l,by omega,by omega⟩
  ·simp;omega
 ·simp;omega
def xY(b:BL)(m:Bool)(au:Int):Nat->Int->Int->Rs->List Lk->Bool×Rs×List Lk
 |0,_,_,s,a=>(true,s,a)
 |k+1,i,c,s,a=>
  let t:=gC b s.1 m s.2 32
  let f:=if t.1.length=32 then t.2.2 else if(m&&t.2.2==0)=true then 5 else t.2.2
  let u:=cW b t.2.1 m f 1 65536
  let e:=if u.1<c then(if(m&&u.2.2==0)=true then 5 else u.2.2)else u.2.2
  if(if m=true then e else 5)=0 then xY b m au k (i+1) u.1 (u.2.1,e) (a++[(au,i+1,u.1,[],t.1,())])else(false,(u.2.1,e),a)
theorem uX(b:BL)(m:Bool)(au:Int)(k:Nat)(i last a e:Int)(c:List Lk):xY b m au (k+1) i last (a,e) c=
 (let t:=gC b a m e 32
 let g:=if t.1.length=32 then t.2.2 else if(m&&t.2.2==0)=true then 5 else t.2.2
 let u:=cW b t.2.1 m g 1 65536
 let f:=if u.1<last then(if(m&&u.2.2==0)=true then 5 else u.2.2)else u.2.2
 if(if m=true then f else 5)=0 then xY b m au k (i+1) u.1 (u.2.1,f) (c++[(au,i+1,u.1,[],t.1,())])else(false,(u.2.1,f),c)):=rfl
def rD(b:BL)(m:Bool):Nat->Int->Rs->List Lk->Bool×Rs×List Lk
 |0,_,s,a=>(true,s,a)
 |k+1,c,s,a=>
  let n:=cW b s.1 m s.2 0 1048576
  let r:=xY b m c n.1.toNat 0 1 n.2 a
  if r.1 then rD b m k (c+1) r.2.1 r.2.2 else r
def cgT(b:BL)(m:Bool)(k:Nat)(z:Bool×Rs×List Lk):Bool×Rs×List Lk:=if z.1 then rD b m (5-(k+1)) ((k:Int)+1) z.2.1 z.2.2 else z
theorem Q7(b:BL)(m:Bool)(k:Nat)(g:k<5)(a e:Int)(c:List Lk):rD b m (5-k) k (a,e) c=cgT b m k (xY b m k (cW b a m e 0 1048576).1.toNat 0 1 (cW b a m e 0 1048576).2 c):=by
 have f:5-k=(5-(k+1))+1:=by omega
 rw[f];rfl
def r9(b:BL)(m:Bool)(s:Rs):Bool×Rs×List Lk:=let r:=rD b m 5 0 s [];(r.1&&xd m r.2.1==0,r.2)
def LU(z:Ln×List Tm×KV)(x:Lk):Ln×List Tm×KV:=
 let lk:Lk:=(x.1,x.2.1,x.2.2.1,(fx z.1 x.1).2.2.1,x.2.2.2.2.1,())
 (Cp lk z.1 z.2.1 z.2.2,(lZ lk z.2.1 z.2.2).2)
def mU(l:List Lk)(ts:List Tm)(m:KV):Ln×List Tm×KV:=l.foldl LU ([],ts,m)
def Vf:List (Option CP):=iK 0++rH
def bkP(j:Nat):List (Option CP):=[some (.cells [.mp j]),some (.mp .i64 (.sl Ih))]
def cLk:Option CP:=some (.sl Aq)
def Jk:Ct:=⟨2,⟨[sS 0 0,(1,false,[.ptr 3 0])],Vf⟩,[⟨[(0,false,[.nilp])],Vf⟩,⟨[(0,false,[.ptr 4 0])],lj 0 6++rH++bkP 5++[cT]⟩],λ(d,f,m,b,a,c,e,_)=> .need (bQ b a/\b.length<=65536/\f.length+b.length<=4294967296) (.ite (r9 b c (a,e)).1
 (.leaf ⟨1,(d,(mU (r9 b c (a,e)).2.2 f m).2.2,b,(r9 b c (a,e)).2.1.1,c,(r9 b c (a,e)).2.1.2,(mU (r9 b c (a,e)).2.2 f m).1,(mU (r9 b c (a,e)).2.2 f m).2.1,())⟩)
 (.leaf ⟨0,(d,f,m,b,(r9 b c (a,e)).2.1.1,c,(r9 b c (a,e)).2.1.2,())⟩))⟩
def W2:cg:=⟨[sS 0 0,(1,false,[.ptr 3 0]),sO 5 4,sI 13],Vf++[cLk]⟩
def Jl(x:Jk.inp.den)(y:W2.den):Prop:=match x,y with
 |(j,h,l,g,n,c,o,_),(i,d,p,m,b,a,q,e,f,_)=>d=j/\p=h/\m=l/\b=g/\q=c/\bQ g a/\f.length<=Int.toNat a/\∃k:Nat,i=k/\k<=5/\rD g c (5-k) k (a,e) f=rD g c 5 0 (n,o) []
def W3:cg:=⟨[sS 0 0,(1,false,[.ptr 3 0]),sO 5 4,sI 6,sI 7,sI 13,sI 17,sI 18],Vf++[cLk]⟩
def xe(x:Jk.inp.den)(o:Int)(y:W3.den):Prop:=match x,y with
 |(p,l,s,f,t,c,u,_),(v,g,i,n,j,d,w,m,b,a,z,e,h,_)=>d=p/\w=l/\m=s/\b=f/\z=c/\bQ f a/\h.length<=Int.toNat a/\v=i/\o=i/\∃k q r:Nat,i=k/\k<5/\n=q/\q<=1048576/\j=r/\r<=q/\
  cgT f c k (xY f c k (q-r) r g (a,e) h)=rD f c 5 0 (t,u) []
def W4:cg:=⟨[sS 0 0,(10,false,[.ptr 4 0]),(57,false,[.d (.sl Aq)]),sI 58,sI 59],lj 0 6++rH++bkP 5++[cT]⟩
def Jm(x:Jk.inp.den)(y:W4.den):Prop:=match x,y with
 |(i,c,g,h,o,f,p,_),(l,n,j,d,m,b,a,q,e,bk,r,_)=>d=i/\b=h/\q=f/\(true,((a,e),l))=r9 h f (o,p)/\n=l.length/\l.length<=h.length/\∃k:Nat,j=k/\k<=l.length/\bk=(mU (l.take k) c g).1/\r=(mU (l.take k) c g).2.1/\m=(mU (l.take k) c g).2.2
def cgA(x:Jk.inp.den):dB:=⟨[(3,oG W2 (Jl x) (λ(i,_)=>(5-i).toNat) λ(i,_)=>[(7,bK W3 (xe x i) λ(_,_,_,n,j,_)=>(n-j).toNat)]),(25,bK W4 (Jm x) λ(_,n,j,_)=>(n-j).toNat)],[],[],[],0⟩
theorem qb{l:List Lk}{k:Nat}{z:Lk}(h:k<l.length)(ts:List Tm)(m:KV):mU (l.take (k+1)) ts m=LU (mU (l.take k) ts m) (l.getD k z):=by
 rw[cQ (z:=z) h,mU,List.foldl_append];rfl
theorem fh{kt:Ty}{β:Type}(k j:kt.den)(v:β):∀l:List (kt.den×β),cz j (cD k v l)=if iJ kt j k then some v else cz j l
 |[]=>by simp only[cD,cz]
 |p::r=>by
  have a:=fh k j v r;simp only[cD];split
  ·rename_i h;have e:=dZ.1 h;simp only[cz,<-e];split<;>rfl
  ·rename_i h;simp only[cz,a];split
   ·rename_i b;have c:=dZ.1 b;split
    ·rename_i f;have g:=dZ.1 f;exact absurd (dZ.2 (g.symm.trans c)) h
    ·rfl
   ·rfl
theorem uY(l:Ln)(a j:Int)(v:List Kn):dx (cD (kt:= .i64) a v l) j=if j=a then v else dx l j:=by
 unfold dx aO;rw[fh];by_cases h:j=a
 ·subst h;simp[iJ]
 ·simp[iJ,h]
theorem lL(d:BL):(dJ (ak 32 (ae 8 0)) d).length=32:=by simp[dJ];omega
theorem kpB{lk:Lk}{l:Ln}{n:Nat}(ts:List Tm)(m:KV)(h:∀a,(dx l a).length<=n/\∀k∈dx l a,k.1.length=32/\k.2.1.length=32):
 ∀a,(dx (Cp lk l ts m) a).length<=n+1/\∀k∈dx (Cp lk l ts m) a,k.1.length=32/\k.2.1.length=32:=by
 intro a;obtain⟨f,c⟩:=h a;unfold Cp;rw[uY];split
 ·rename_i e;subst e;refine⟨by simp;omega,λk b=>?_⟩;rcases bb.1 b with b|b
  ·exact c k b
  ·simp at b;subst b;exact⟨lL _,lL _⟩
 ·exact⟨by omega,c⟩
theorem Ep(ts:List Tm)(m:KV)(l:List Lk):∀k,k<=l.length->(mU (l.take k) ts m).2.1.length<=ts.length+k/\∀a,(dx (mU (l.take k) ts m).1 a).length<=k/\∀q∈dx (mU (l.take k) ts m).1 a,q.1.length=32/\q.2.1.length=32
 |0,_=>by simp[mU,dx,aO,cz]
 |k+1,h=>by
  obtain⟨c,b⟩:=Ep ts m l k (by omega);rw[qb (z:=(0,0,0,[],[],())) (by omega)];refine⟨?_,kpB _ _ b⟩;have:=Eo ((l.getD k (0,0,0,[],[],())).1,(l.getD k (0,0,0,[],[],())).2.1,(l.getD k (0,0,0,[],[],())).2.2.1,(fx (mU (l.take k) ts m).1 (l.getD k (0,0,0,[],[],())).1).2.2.1,(l.getD k (0,0,0,[],[],())).2.2.2.2.1,()) (mU (l.take k) ts m).2.1 (mU (l.take k) ts m).2.2;show(lZ _ _ _).2.1.length<=_;omega
abbrev W5(v:Int×List Tm×KV×BL×Int×Bool×Int×Unit):cw Jk.out:=⟨0,v⟩
abbrev W6(v:Int×KV×BL×Int×Bool×Int×Ln×List Tm×Unit):cw Jk.out:=⟨1,v⟩
theorem LV:bS Tryz.prog 202 Jk:=kC Q6 cgA (∀(o:Int)(m:List Tm)(n:KV)(h:BL)(j:Int)(i:Bool)(k:Int)(Q:cw Jk.out->Prop),let F:=rD h i 5 0 (j,k) [];let G:=mU F.2.2 m n;let B:=(o,m,n,h,j,i,k,());(Tr.need (bQ h j/\h.length<=65536/\m.length+h.length<=4294967296) (Tr.ite (F.1&&xd i F.2.1==0) (Tr.leaf (W6 (o,G.2.2,h,F.2.1.1,i,F.2.1.2,G.1,G.2.1,()))) (Tr.leaf (W5 (o,m,n,h,F.2.1.1,i,F.2.1.2,()))))).sat Q->Is (Jl B (0,o,m,n,h,j,i,k,[],()))/\∀(s M:Int)(N:List Tm)(O:KV)(w:BL)(z:Int)(v:Bool)(y:Int)(P:List Lk),let R:= !(if v=true then y else 5)==0;let H:=cW w z v y 0 1048576;Jl B (s,M,N,O,w,z,v,y,P,())->Bd (s<5) (bQ w z/\Is (xe B s (s,1,s,H.1,0,M,N,O,w,H.2.1,v,H.2.2,P,()))/\∀(g t e l f p:Int)(q:List Tm)(r:KV)(b:BL)(c:Int)(a:Bool)(d:Int)(u:List Lk),let L:=(p,q,r,b,c,a,d,u,());let E:=u.length+1;let C:=gC b c a d 32;let S:= !(↑(ah C.1):Int)==32;let x:=cW b C.2.1 a C.2.2 1 65536;let J:=a&&x.2.2==0;let U:= !(if a=true then x.2.2 else 5)==0;let Y:= !(if a=true then if J=true then 5 else x.2.2 else 5)==0;let A:=cW b C.2.1 a (if(a&&C.2.2==0)=true then 5 else C.2.2) 1 65536;let K:=a&&A.2.2==0;let W:= !(if a=true then A.2.2 else 5)==0;let z7:= !(if a=true then if K=true then 5 else A.2.2 else 5)==0;xe B s (g,t,e,l,f,L)->Bd (f<l) (ac (f+1)/\bQ b c/\Br S (True/\bQ b C.2.1/\Bd (A.1<t) (True/\True/\Br z7 (Q ⟨0,p,q,r,b,A.2.1,a,if K=true then 5 else A.2.2,()⟩) (E*72<=mM/\ac (f+1)/\Is (xe B s (g,A.1,e,l,f+1,p,q,r,b,A.2.1,a,if K=true then 5 else A.2.2,u++[(g,f+1,A.1,[],C.1,())],())/\lN (l-(f+1)) (l-f)))) (True/\Br W (Q ⟨0,p,q,r,b,A.2.1,a,A.2.2,()⟩) (E*72<=mM/\ac (f+1)/\Is (xe B s (g,A.1,e,l,f+1,p,q,r,b,A.2.1,a,A.2.2,u++[(g,f+1,A.1,[],C.1,())],())/\lN (l-(f+1)) (l-f))))) (bQ b C.2.1/\Bd (x.1<t) (True/\True/\Br Y (Q ⟨0,p,q,r,b,x.2.1,a,if J=true then 5 else x.2.2,()⟩) (E*72<=mM/\ac (f+1)/\Is (xe B s (g,x.1,e,l,f+1,p,q,r,b,x.2.1,a,if J=true then 5 else x.2.2,u++[(g,f+1,x.1,[],C.1,())],())/\lN (l-(f+1)) (l-f)))) (True/\Br U (Q ⟨0,p,q,r,b,x.2.1,a,x.2.2,()⟩) (E*72<=mM/\ac (f+1)/\Is (xe B s (g,x.1,e,l,f+1,p,q,r,b,x.2.1,a,x.2.2,u++[(g,f+1,x.1,[],C.1,())],())/\lN (l-(f+1)) (l-f)))))) (ac (e+1)/\Is (Jl B (e+1,L)/\lN (5-(e+1)) (5-s)))) (True/\Br R (Q ⟨0,M,N,O,w,z,v,y,()⟩) (True/\Is (Jm B (P,nI P,0,M,O,w,z,v,y,[],N,()))/\∀(g:List Lk)(t e l:Int)(f:KV)(p:BL)(q:Int)(r:Bool)(b:Int)(c:Ln)(a:List Tm),let D:=gD g e (0,0,0,[],[],());let X:=lZ (D.1,D.2.1,D.2.2.1,(fx c D.1).2.2.1,D.2.2.2.2.1,()) a f;Jm B (g,t,e,l,f,p,q,r,b,c,a,())->Bd (e<t) (iN e g/\ci c/\(a.length<=4294967296/\ci c)/\ac (e+1)/\Is (Jm B (g,t,e+1,l,X.2.2,p,q,r,b,Cp (D.1,D.2.1,D.2.2.1,(fx c D.1).2.2.1,D.2.2.2.2.1,()) c a f,X.2.1,())/\lN (t-(e+1)) (t-e))) (Q ⟨1,l,f,p,q,r,b,c,a,()⟩)))) (by
 conv=>zeta
 unfold Bd Br gD iN lN mM nI;intro d ts m b a mm e Q ⟨⟨h1,h2,h3⟩,hQ⟩;obtain⟨R,F⟩:∃R,rD b mm 5 0 (a,e) []=R:=⟨_,rfl⟩;rw[F]at hQ;refine⟨⟨rfl,rfl,rfl,rfl,rfl,h1,aq _,0,rfl,by omega,rfl⟩,?_⟩
 have G:∀(c:Bool)(a' e':Int)H,(c,(a',e'),H)=R->(c&&xd mm (a',e')==0)=false->Q ⟨0,(d,ts,m,b,a',mm,e',())⟩:=by
  rintro c a' e' H rfl h;exact hQ.2 h
 rintro i d1 Y m1 b1 a1 s e1 B ⟨rfl,rfl,rfl,rfl,rfl,ha,v,k,rfl,hk,o⟩;rw[F]at o;simp only[ai,aj];refine⟨λhi=>⟨ha,?_,?_⟩,λhi=>?_⟩
 ·have hn:=eQ s e1 0 1048576 ha;rw[Q7 _ _ _ (by omega)]at o;have p:B.length<=a1.toNat:=v;refine⟨rfl,rfl,rfl,rfl,rfl,hn.1,bq p (Int.toNat_le_toNat hn.2.1),rfl,rfl,k,(cW b1 a1 s e1 0 1048576).1.toNat,0,rfl,by omega,?_,?_,rfl,aq _,o.trans F.symm⟩
  ·exact(pz hn.2.2.1).symm
  ·have:=hn.2.2.2;omega
 ·clear o v;rintro au J i2 n j d2 C m2 A W f e2 g ⟨rfl,rfl,rfl,rfl,rfl,D,w,rfl,a6,X,q,r,rfl,K,rfl,hq,rfl,hr,o⟩;obtain rfl:k=X:=Int.ofNat.inj a6;rw[F]at o;have p:g.length<=W.toNat:=w;have b6:W.toNat<=65536:=by have:=D.2.2;omega
  refine⟨λhj=>?_,λhj=>?_⟩
  ·have ht:=ni f e2 32 D;have er:q-r=(q-(r+1))+1:=by omega
   have L:=uX A f k (q-(r+1)) r J W e2 g;rw[er]at o;dsimp only at L;generalize gC A W f e2 32=t at*
   have go:∀M:Int,(if t.1.length=32 then t.2.2 else if(f&&t.2.2==0)=true then 5 else t.2.2)=M->
    let u:=cW A t.2.1 f M 1 65536
    (bQ A u.2.1)/\∀N:Int,(if u.1<J then(if(f&&u.2.2==0)=true then 5 else u.2.2)else u.2.2)=N->
     ((!(if f=true then N else 5)==0)=true->Q ⟨0,(d2,C,m2,A,u.2.1,f,N,())⟩)/\
     ((!(if f=true then N else 5)==0)=false->(g.length+1)*72<=140737488355328/\ac ((r:Int)+1)/\
       Is (xe (d2,C,m2,A,a,f,e,()) (k:Int) ((k:Int),u.1,(k:Int),(q:Int),(r:Int)+1,d2,C,m2,A,u.2.1,f,N,g++[((k:Int),(r:Int)+1,u.1,[],t.1,())],())/\((q:Int)-((r:Int)+1)).toNat<((q:Int)-(r:Int)).toNat)):=by
    intro M O;have hu:=eQ f M 1 65536 ht.1;rw[O]at L;generalize a7:cW A t.2.1 f M 1 65536=u at*;refine⟨hu.1,λN P=>?_⟩;rw[P]at L;refine⟨λx=>?_,λx=>⟨by omega,by unfold ac;omega,⟨⟨rfl,rfl,rfl,rfl,rfl,hu.1,?_,rfl,rfl,k,q,r+1,rfl,K,rfl,hq,rfl,by omega,?_⟩,by omega⟩⟩⟩
    ·rw[af (by intro h;rw[h]at x;simp at x)]at L;rw[L]at o;exact G _ _ _ _ o rfl
    ·have g1:=ht.2.1;have g2:=hu.2.1;show(g++[((k:Int),(r:Int)+1,u.1,([]:BL),t.1,())]).length<=u.2.1.toNat;rw[aa,bh]
     have b5:t.1.length=32:=by
      rcases Nat.decEq t.1.length 32 with hx|hx
      ·exfalso;rw[af hx]at O
       have a8:f=true:=by
        cases f
        ·simp at x
        ·rfl
       subst a8;have b7:N=0:=by simpa using x
       have a0:¬(M=0):=by
        rw[<-O];simp only[fp];split
        ·omega
        ·rename_i hz;simpa using hz
       have a3:=rnE (b:=A) (a:=t.2.1) (m:=true) (e:=M) 1 65536 (by simpa using a0);rw[a7]at a3;rw[a3]at P;simp[a0]at P;omega
      ·exact hx
     omega
    ·rw[am (by simpa using x)]at L;rw[L]at o;exact o.trans F.symm
   refine⟨by unfold ac;omega,D,λhl=>?_,λhl=>?_⟩
   ·have S:¬(t.1.length=32):=by intro h;simp[h]at hl
    obtain⟨q1,E⟩:=go _ (af S);exact⟨trivial,ht.1,λy=>⟨trivial,trivial,(E _ (am y)).1,(E _ (am y)).2⟩,λy=>⟨trivial,(E _ (af y)).1,(E _ (af y)).2⟩⟩
   ·have S:t.1.length=32:=by have:(t.1.length:Int)=32:=by simpa using hl
                             omega
    obtain⟨q1,E⟩:=go _ (am S);exact⟨ht.1,λy=>⟨trivial,trivial,(E _ (am y)).1,(E _ (am y)).2⟩,λy=>⟨trivial,(E _ (af y)).1,(E _ (af y)).2⟩⟩
  ·have e0:q-r=0:=by omega
   rw[e0]at o;exact⟨by unfold ac;omega,⟨⟨rfl,rfl,rfl,rfl,rfl,D,w,k+1,rfl,by omega,o.trans F.symm⟩,by omega⟩⟩
 ·have e0:5-k=0:=by omega
  rw[e0]at o;have U:(true,(a1,e1),B)=R:=o;have p:B.length<=a1.toNat:=v;refine⟨trivial,λx=>G _ _ _ _ U ?_,λx=>⟨trivial,⟨rfl,rfl,rfl,?_,rfl,by have:=ha.2.2;omega,0,rfl,aq _,rfl,rfl,rfl⟩,?_⟩⟩
  ·simp only[xd,fp];have a9:(if s=true then e1 else 5)≠0:=by intro h;rw[h]at x;simp at x
   simpa using a9
  ·have:(R.1&&xd s R.2.1==0)=true:=by
    rw[<-U];simp only[xd,fp];simpa using x
   show(true,((a1,e1),B))=r9 b1 s (a,e);unfold r9;dsimp only;rw[F,this,<-U]
  ·rintro l n j d2 m2 A W f e2 bk C ⟨rfl,rfl,rfl,hF,rfl,b0,X,rfl,K,rfl,rfl,rfl⟩;have hb:=Ep Y m1 l X K;have a4:ci (mU (l.take X) Y m1).1:=λa=>⟨by have:=(hb.2 a).1;omega,(hb.2 a).2⟩;refine⟨λhj=>⟨by omega,a4,⟨by have:=hb.1;omega,a4⟩,by unfold ac;omega,⟨⟨rfl,rfl,rfl,hF,rfl,b0,X+1,rfl,by omega,?_,?_,?_⟩,by omega⟩⟩,λhj=>?_⟩
   ·rw[qb (z:=(0,0,0,[],[],())) (by omega)];rfl
   ·rw[qb (z:=(0,0,0,[],[],())) (by omega)];rfl
   ·rw[qb (z:=(0,0,0,[],[],())) (by omega)];rfl
   ·have b3:X=l.length:=by omega
    subst b3;rw[br];have b4:(true,((W,e2),l))=(R.1&&xd f R.2.1==0,R.2):=by rw[hF];unfold r9;dsimp only;rw[F]
    obtain⟨f1,f2⟩:=Prod.mk.inj b4;have a5:=hQ.1 f1.symm;rw[<-f2]at a5;exact a5)
def W7:bw:=(202,[Jk])::WZ
theorem a1u:KK W7:=⟨aQ.add Q6.1 (by kernel_rfl) (bo LV),bg.add Q6.2 (bo (λ_=>Live.need λ_=>Live.ite (λ_=>Live.leaf) (λ_=>Live.leaf)))⟩
abbrev iL:Ty:= .pr .i64 (.pr tB (.pr tB .un))
abbrev Mb:=Int×BL×BL×Unit
abbrev oI:Ty:= .pr .i64 (.pr tB (.pr (.sl iL) (.pr (.sl iG) (.pr tB (.pr (.sl tB) (.pr tB .un))))))
abbrev Et:=Int×BL×List Mb×List Fk×BL×List BL×BL×Unit
def pG(last:Int):List Int->Bool
 |[]=>true
 |n::r=>if n<=last\/5<=n then false else pG n r
theorem xf(last n:Int)(r:List Int):pG last (n::r)=if n<=last\/5<=n then false else pG n r:=rfl
theorem nQ{α:Type}{l:List α}{k:Nat}{p:α->Prop}(z:α)(h:∀m∈l.take k,p m)(b:k<l.length)(c:p (l.getD k z)):∀m∈l.take (k+1),p m:=by
 rw[cQ (z:=z) b];intro m a;rcases bb.1 a with a|a
 ·exact h m a
 ·simp at a;rw[a];exact c
def sFn(i:Nat)(f:FuncId):Nat×Bool×List IP:=(i,false,[.fn f [] []])
def p1C:Ct:=⟨1,⟨[(0,true,[.d iL])],[]⟩,[⟨[sI 0],[]⟩],λ(m,_)=>one True (m.1,())⟩
def W8:bw:=(141,[p1C])::W7
theorem a1v:KK W8:=kA a1u (cE p1C 0) (∀(a:Mb)Q,bd p1C (a,()) Q->Q ⟨0,a.1,()⟩) (by
 unfold bd;intro m Q ⟨_,a⟩;exact a)
def p2C:Ct:=⟨1,⟨[(0,true,[.d iG])],[]⟩,[⟨[sI 0],[]⟩],λ(m,_)=>one True (m.1,())⟩
def W9:bw:=(143,[p2C])::W8
theorem a1w:KK W9:=kA a1v (cE p2C 0) (∀(a:Fk)Q,bd p2C (a,()) Q->Q ⟨0,a.1,()⟩) (by
 unfold bd;intro m Q ⟨_,a⟩;exact a)
def rmC:Ct:=⟨2,⟨[(0,false,[.d (.sl iL)]),sFn 1 141],[]⟩,[⟨[sL 0],[]⟩],λ(l,_)=>one (l.length<=1000000) (pG (-1) (l.map (·.1)),())⟩
def rmP:cg:=⟨[sFn 1 141,sI 5,(9,false,[.d (.sl iL)]),sI 10,sI 11],[]⟩
def rmI(l:List Mb)(y:rmP.den):Prop:=match y with
 |(a,b,n,i,_)=>b=l/\n=l.length/\∃k:Nat,i=k/\k<=l.length/\pG a ((l.drop k).map (·.1))=pG (-1) (l.map (·.1))
def rmA(x:rmC.inp.den):dB:=⟨[(3,bK rmP (rmI x.1) λ(_,_,n,i,_)=>(n-i).toNat)],[],[],[],0⟩
def Xa:bw:=(140,[rmC])::W9
theorem a1x:KK Xa:=kA a1w rmA (∀(c:List Mb)Q,bd rmC (c,()) Q->Is (rmI c ((-1:Int),c,nI c,0,()))/\∀(e:Int)(b:List Mb)(d a:Int),let z:=gD b a (0,[],[],());rmI c (e,b,d,a,())->Bd (a<d) (iN a b/\True/\Bd (z.1<=e) (Q ⟨0,false,()⟩) (Bd (5<=z.1) (Q ⟨0,false,()⟩) (ac (a+1)/\Is (rmI c (z.1,b,d,a+1,())/\lN (d-(a+1)) (d-a))))) (Q ⟨0,true,()⟩)) (by
 conv=>zeta
 unfold Bd gD iN lN nI bd;intro l Q ⟨p,b⟩;have c:∀y,pG (-1) (l.map (·.1))=y->Q ⟨0,(y,())⟩:=λy e=>by rw[e]at b;exact b
 clear b;refine⟨⟨rfl,rfl,0,rfl,aq _,rfl⟩,?_⟩;rintro f j n i ⟨rfl,rfl,k,rfl,q,a⟩;simp only[ai,aj,aF];refine⟨λh=>?_,λh=>c _ ?_⟩
 ·have o:k<j.length:=by omega
  rw[cZ (z:=((0,[],[],()):Mb)) o,aY,xf]at a;generalize j.getD k ((0,[],[],()):Mb)=H at*;refine⟨by omega,trivial,λg=>c _ ?_,λg=>⟨λm=>c _ ?_,λm=>⟨by unfold ac;omega,⟨⟨rfl,rfl,k+1,rfl,by omega,?_⟩,by omega⟩⟩⟩⟩
  ·rw[<-a,am (.inl g)]
  ·rw[<-a,am (.inr m)]
  ·rw[<-a,af (by omega)]
 ·rw[<-a,bC (by omega)];rfl)
def reC:Ct:=⟨2,⟨[(0,false,[.d (.sl iG)]),sFn 1 143],[]⟩,[⟨[sL 0],[]⟩],λ(l,_)=>one (l.length<=1000000) (pG (-1) (l.map (·.1)),())⟩
def reP:cg:=⟨[sFn 1 143,sI 5,(9,false,[.d (.sl iG)]),sI 10,sI 11],[]⟩
def reI(l:List Fk)(y:reP.den):Prop:=match y with
 |(a,b,n,i,_)=>b=l/\n=l.length/\∃k:Nat,i=k/\k<=l.length/\pG a ((l.drop k).map (·.1))=pG (-1) (l.map (·.1))
def reA(x:reC.inp.den):dB:=⟨[(3,bK reP (reI x.1) λ(_,_,n,i,_)=>(n-i).toNat)],[],[],[],0⟩
def Xb:bw:=(142,[reC])::Xa
theorem a1y:KK Xb:=kA a1x reA (∀(c:List Fk)Q,bd reC (c,()) Q->Is (reI c ((-1:Int),c,nI c,0,()))/\∀(e:Int)(b:List Fk)(d a:Int),let z:=gD b a (0,0,());reI c (e,b,d,a,())->Bd (a<d) (iN a b/\True/\Bd (z.1<=e) (Q ⟨0,false,()⟩) (Bd (5<=z.1) (Q ⟨0,false,()⟩) (ac (a+1)/\Is (reI c (z.1,b,d,a+1,())/\lN (d-(a+1)) (d-a))))) (Q ⟨0,true,()⟩)) (by
 conv=>zeta
 unfold Bd gD iN lN nI bd;intro l Q ⟨p,b⟩;have c:∀y,pG (-1) (l.map (·.1))=y->Q ⟨0,(y,())⟩:=λy e=>by rw[e]at b;exact b
 clear b;refine⟨⟨rfl,rfl,0,rfl,aq _,rfl⟩,?_⟩;rintro f j n i ⟨rfl,rfl,k,rfl,q,a⟩;simp only[ai,aj,aF];refine⟨λh=>?_,λh=>c _ ?_⟩
 ·have o:k<j.length:=by omega
  rw[cZ (z:=((0,0,()):Fk)) o,aY,xf]at a;generalize j.getD k ((0,0,()):Fk)=H at*;refine⟨by omega,trivial,λg=>c _ ?_,λg=>⟨λm=>c _ ?_,λm=>⟨by unfold ac;omega,⟨⟨rfl,rfl,k+1,rfl,by omega,?_⟩,by omega⟩⟩⟩⟩
  ·rw[<-a,am (.inl g)]
  ·rw[<-a,am (.inr m)]
  ·rw[<-a,af (by omega)]
 ·rw[<-a,bC (by omega)];rfl)
def yS:Mb:=(0,[],[],())
def uZ(m:Mb):Prop:=m.2.1.length=32/\m.2.2.1.length=32
def yT(x:Fk):Prop:=0<=x.2.1/\x.2.1<=1048576
instance (m:Mb):Decidable (uZ m):=by unfold uZ;infer_instance
instance (m:Fk):Decidable (yT m):=by unfold yT;infer_instance
def pw(ms:List Mb)(es:List Fk):Bool:=decide (1<=ms.length/\(ms.getD 0 yS).1=0/\pG (-1) (ms.map (·.1))=true/\pG (-1) (es.map (·.1))=true/\(∀m∈ms,uZ m)/\∀e∈es,yT e)
def Xc:Ct:=⟨2,⟨[(0,false,[.d (.sl iL)]),(1,false,[.d (.sl iG)])],[]⟩,[⟨[sL 0],[]⟩],λ(a,b,_)=>one (a.length<=1000000/\b.length<=1000000) (pw a b,())⟩
def ptP:cg:=⟨[(1,false,[.d (.sl iG)]),(29,false,[.d (.sl iL)]),sI 30,sI 31],[]⟩
def ptI(x:Xc.inp.den)(y:ptP.den):Prop:=match x,y with
 |(a,e,_),(b,c,n,i,_)=>b=e/\c=a/\n=a.length/\(1<=a.length/\(a.getD 0 yS).1=0/\pG (-1) (a.map (·.1))=true/\pG (-1) (e.map (·.1))=true)/\∃k:Nat,i=k/\k<=a.length/\∀m∈a.take k,uZ m
def puP:cg:=⟨[(46,false,[.d (.sl iG)]),sI 47,sI 48],[]⟩
def puI(x:Xc.inp.den)(y:puP.den):Prop:=match x,y with
 |(b,a,_),(c,n,i,_)=>c=a/\n=a.length/\(1<=b.length/\(b.getD 0 yS).1=0/\pG (-1) (b.map (·.1))=true/\pG (-1) (a.map (·.1))=true/\∀m∈b,uZ m)/\∃k:Nat,i=k/\k<=a.length/\∀m∈a.take k,yT m
def ptA(x:Xc.inp.den):dB:=⟨[(4,bK ptP (ptI x) λ(_,_,n,i,_)=>(n-i).toNat),(10,bK puP (puI x) λ(_,n,i,_)=>(n-i).toNat)],[],[],[],0⟩
def Xd:bw:=(99,[Xc])::Xb
theorem a1z:KK Xd:=kA a1y ptA (∀(a:List Mb)(d:List Fk)Q,let l:= !(a.getD 0 (0,[],[],())).1==0;let m:= !pG (-1:Int) (rZ (λa=>a.1) d);let n:= !pG (-1:Int) (rZ (λa=>a.1) a);bd Xc (a,d,()) Q->Bd (nI a<1) (Q ⟨0,false,()⟩) (((0:Int)<=0/\0<nI a)/\Br l (Q ⟨0,false,()⟩) (a.length<=1000000/\Br n (Q ⟨0,false,()⟩) (d.length<=1000000/\Br m (Q ⟨0,false,()⟩) (Is (ptI (a,d,()) (d,a,nI a,0,()))/\∀(i:List Fk)(e:List Mb)(g b:Int),let z:=gD e b (0,[],[],());let o:= !(↑(ah z.2.1):Int)==32;let p:= !(↑(ah z.2.2.1):Int)==32;ptI (a,d,()) (i,e,g,b,())->Bd (b<g) (iN b e/\Br o (Q ⟨0,false,()⟩) (Br p (Q ⟨0,false,()⟩) (ac (b+1)/\Is (ptI (a,d,()) (i,e,g,b+1,())/\lN (g-(b+1)) (g-b))))) (Is (puI (a,d,()) (i,nI i,0,()))/\∀(f:List Fk)(h c:Int),let j:=gD f c (0,0,());puI (a,d,()) (f,h,c,())->Bd (c<h) (iN c f/\Bd (j.2.1<0) (Q ⟨0,false,()⟩) (Bd (1048576<j.2.1) (Q ⟨0,false,()⟩) (ac (c+1)/\Is (puI (a,d,()) (f,h,c+1,())/\lN (h-(c+1)) (h-c))))) (Q ⟨0,true,()⟩))))))) (by
 conv=>zeta
 unfold Bd Br gD iN lN nI bd;intro q y Q ⟨⟨D,E⟩,B⟩
 have hB:∀b:Bool,(b=true↔(1<=q.length/\(q.getD 0 yS).1=0/\pG (-1) (q.map (·.1))=true/\pG (-1) (y.map (·.1))=true/\(∀m∈q,uZ m)/\∀e∈y,yT e))->Q ⟨0,(b,())⟩:=by
  intro b F
  have:b=pw q y:=by
   unfold pw;rw[mi,F,ai]
  rw[this];exact B
 clear B;simp only[ai,aj];refine⟨λa=>hB _ (by constructor<;>intro h<;>simp at h;omega),λa=>⟨by omega,λc=>hB _ ?_,λc=>⟨D,λe=>hB _ ?_,λe=>⟨E,λf=>hB _ ?_,λf=>⟨⟨rfl,rfl,rfl,⟨by omega,show(q.getD 0 (0,[],[],())).1=(0:Int)by simpa using c,by simpa using e,by simpa using f⟩,0,rfl,aq _,by simp⟩,?_⟩⟩⟩⟩⟩
 ·constructor
  ·intro h;simp at h
  ·rintro⟨_,h,_⟩;have G:(q.getD 0 (0,[],[],())).1=(0:Int):=h;rw[G]at c;simp at c
 ·constructor
  ·intro h;simp at h
  ·rintro⟨_,_,h,_⟩;simp[h]at e
 ·constructor
  ·intro h;simp at h
  ·rintro⟨_,_,_,h,_⟩;simp[h]at f
 ·rintro J r n i ⟨rfl,rfl,rfl,o,k,rfl,L,C⟩;simp only[aF];refine⟨λh=>?_,λh=>⟨⟨rfl,rfl,⟨o.1,o.2.1,o.2.2.1,o.2.2.2,?_⟩,0,rfl,aq _,by simp⟩,?_⟩⟩
  ·have u:k<r.length:=by omega
   have v:=aS (z:=((0,[],[],()):Mb)) u;have A:=λo=>nQ ((0,[],[],()):Mb) (p:=uZ) C u o;generalize r.getD k (0,[],[],())=H at*;refine⟨by omega,λg=>hB _ ?_,λg=>⟨λw=>hB _ ?_,λw=>⟨by unfold ac;omega,⟨⟨rfl,rfl,rfl,o,k+1,rfl,by omega,A ⟨?_,?_⟩⟩,by omega⟩⟩⟩⟩
   ·constructor
    ·intro h;simp at h
    ·rintro⟨_,_,_,_,h,_⟩;have:=(h H v).1;simp[this]at g
   ·constructor
    ·intro h;simp at h
    ·rintro⟨_,_,_,_,h,_⟩;have:=(h H v).2;simp[this]at w
   ·have:(H.2.1.length:Int)=32:=by simpa using g
    omega
   ·have:(H.2.2.1.length:Int)=32:=by simpa using w
    omega
  ·have:k=r.length:=by omega
   rwa [this,br]at C
  ·rintro s M j ⟨rfl,rfl,l,x,rfl,K,t⟩;refine⟨λh=>?_,λh=>hB _ ?_⟩
   ·have u:x<s.length:=by omega
    have v:=aS (z:=((0,0,()):Fk)) u;have A:=λo=>nQ ((0,0,()):Fk) (p:=yT) t u o;simp only[aF];generalize s.getD x (0,0,())=H at*;refine⟨by omega,λg=>hB _ ?_,λg=>⟨λw=>hB _ ?_,λw=>⟨by unfold ac;omega,⟨⟨rfl,rfl,l,x+1,rfl,by omega,A ⟨by omega,by omega⟩⟩,by omega⟩⟩⟩⟩
    ·constructor
     ·intro h;simp at h
     ·rintro⟨_,_,_,_,_,h⟩;have:=(h H v).1;omega
    ·constructor
     ·intro h;simp at h
     ·rintro⟨_,_,_,_,_,h⟩;have:=(h H v).2;omega
   ·have:x=s.length:=by omega
    rw[this,br]at t;exact⟨λ_=>⟨l.1,l.2.1,l.2.2.1,l.2.2.2.1,l.2.2.2.2,t⟩,λ_=>rfl⟩)
def gg(e:Et):Prop:=e.2.2.1.length<=1000000/\e.2.2.2.1.length<=1000000/\e.2.2.2.2.2.1.length<=1000000
def ig(e:Et):Bool:=decide (1<=e.1/\e.1<=65536/\(e.1=1/\e.2.1.length=0\/e.2.1.length=32)/\pw e.2.2.1 e.2.2.2.1=true/\(∀b∈e.2.2.2.2.2.1,b.length=48)/\e.2.2.2.2.1.length=32/\e.2.2.2.2.2.1.length=e.2.2.1.length/\e.2.2.2.2.2.2.1.length=64)
def etC:Ct:=⟨1,⟨[(0,true,[.d oI])],[]⟩,[⟨[sL 0],[]⟩],λ(e,_)=>one (gg e) (ig e,())⟩
def etP:cg:=⟨[(1,false,[.ptr 0 0]),(42,false,[.d (.sl tB)]),sI 43,sI 44],[some (.cells [.d oI])]⟩
def etI(e:Et)(y:etP.den):Prop:=match y with
 |(a,n,i,c,_)=>c=e/\a=e.2.2.2.2.2.1/\n=a.length/\(1<=e.1/\e.1<=65536/\(e.1=1/\e.2.1.length=0\/e.2.1.length=32)/\pw e.2.2.1 e.2.2.2.1=true)/\∃k:Nat,i=k/\k<=a.length/\∀b∈a.take k,b.length=48
def etJ:cg:=⟨[(1,false,[.ptr 0 0])],[some (.cells [.d oI])]⟩
def etK(e:Et)(y:etJ.den):Prop:=match y with
 |(a,_)=>a=e/\(1<=e.1/\e.1<=65536/\(e.1=1/\e.2.1.length=0\/e.2.1.length=32)/\pw e.2.2.1 e.2.2.2.1=true)
def etA(x:etC.inp.den):dB:=⟨[(5,bK etP (etI x.1) λ(_,n,i,_)=>(n-i).toNat)],[(4,bK etJ (etK x.1) λ_=>0)],[],[],0⟩
def Xe:bw:=(60,[etC])::Xd
theorem Q8:KK Xe:=kA a1z etA (∀(a:Et)(Q:cw etC.out->Prop),let l:= !pw a.2.2.1 a.2.2.2.1;let g:=decide (a.1<1)=true->Q ⟨0,false,()⟩;let h:=decide (65536<a.1)=true->Q ⟨0,false,()⟩;let i:=(ah a.2.2.1<=1000000/\ah a.2.2.2.1<=1000000)/\Br l (Q ⟨0,false,()⟩) (Is (etK a ((a.1,a.2.1,a.2.2.1,a.2.2.2.1,a.2.2.2.2.1,a.2.2.2.2.2.1,a.2.2.2.2.2.2.1,()),())));let j:=Br (!(nI a.2.1)==32) (Q ⟨0,false,()⟩) i;let z:=∀(d:Et),etK a (d,())->Is (etI a (d.2.2.2.2.2.1,nI d.2.2.2.2.2.1,0,(d.1,d.2.1,d.2.2.1,d.2.2.2.1,d.2.2.2.2.1,d.2.2.2.2.2.1,d.2.2.2.2.2.2.1,()),()))/\∀(f:List BL)(e c:Int)(b:Et),let m:= !(nI (gD f c []))==48;let n:=nI b.2.2.2.2.2.1==nI b.2.2.1;etI a (f,e,c,b,())->Bd (c<e) (iN c f/\Br m (Q ⟨0,false,()⟩) (ac (c+1)/\Is (etI a (f,e,c+1,(b.1,b.2.1,b.2.2.1,b.2.2.2.1,b.2.2.2.2.1,b.2.2.2.2.2.1,b.2.2.2.2.2.2.1,()),())/\lN (e-(c+1)) (e-c)))) (Br (nI b.2.2.2.2.1==32) (Br n (Q ⟨0,nI b.2.2.2.2.2.2.1==64,()⟩) (Q ⟨0,false,()⟩)) (Q ⟨0,false,()⟩));bd etC (a,()) Q->Br (a.1==1) ((g/\(decide (a.1<1)=false->h/\(decide (65536<a.1)=false->Br (!(nI a.2.1)==0) j i)))/\z) ((g/\(decide (a.1<1)=false->h/\(decide (65536<a.1)=false->j)))/\z)) (by
 conv=>zeta
 unfold Bd Br gD iN lN nI bd;rintro⟨n,pv,m,o,v,r,w,⟨⟩⟩ Q ⟨l,x⟩;dsimp only
 have hB:∀b:Bool,(b=true↔(1<=n/\n<=65536/\(n=1/\pv.length=0\/pv.length=32)/\pw m o=true/\(∀b∈r,b.length=48)/\v.length=32/\r.length=m.length/\w.length=64))->Q ⟨0,(b,())⟩:=by
  intro b A
  have:b=ig (n,pv,m,o,v,r,w,()):=by
   unfold ig;rw[mi,A,ai]
  rw[this];exact x
 clear x;have f:(¬(1<=n/\n<=65536/\(n=1/\pv.length=0\/pv.length=32)/\pw m o=true))->Q ⟨0,(false,())⟩:=λh=>hB _ ⟨λh=>by simp at h,λg=>absurd ⟨g.1,g.2.1,g.2.2.1,g.2.2.2.1⟩ h⟩;simp only[ai,aj,aP,aK,aR,az,ne_eq];refine⟨λh=>⟨?h1,?t1⟩,λh=>⟨?h2,?t2⟩⟩
 case h1=>
  refine⟨λa=>f (by omega),λa=>⟨λb=>f (by omega),λb=>⟨λc=>⟨λd=>f (by omega),λd=>⟨⟨l.1,l.2.1⟩,λe=>f (by simp[e]),λe=>⟨rfl,by omega,by omega, .inr (Int.ofNat.inj d),e⟩⟩⟩,λc=>⟨⟨l.1,l.2.1⟩,λe=>f (by simp[e]),λe=>⟨rfl,by omega,by omega, .inl ⟨h,Int.ofNat.inj c⟩,e⟩⟩⟩⟩⟩
 case h2=>
  refine⟨λa=>f (by omega),λa=>⟨λb=>f (by omega),λb=>⟨λd=>f (by omega),λd=>⟨⟨l.1,l.2.1⟩,λe=>f (by simp[e]),λe=>⟨rfl,by omega,by omega, .inr (Int.ofNat.inj d),e⟩⟩⟩⟩⟩
 all_goals
  rintro D ⟨rfl,j⟩;refine⟨⟨rfl,rfl,rfl,j,0,rfl,aq _,by simp⟩,?_⟩;rintro s E i F ⟨rfl,rfl,rfl,_,k,rfl,G,t⟩;dsimp only at*;simp only[aF];refine⟨λg=>?_,λg=>?_⟩
  ·have y:k<s.length:=by omega
   have:=l.2.2;dsimp only at this;have B:=aS (z:=([]:BL)) y;have C:=λj=>nQ ([]:BL) (p:=λb=>b.length=48) t y j;generalize s.getD k []=H at*;refine⟨by omega,λc=>hB _ ⟨λq=>by simp at q,λq=>?_⟩,λc=>⟨by unfold ac;omega,⟨⟨rfl,rfl,rfl,j,k+1,rfl,by omega,C (by omega)⟩,by omega⟩⟩⟩;have:=q.2.2.2.2.1 H B;omega
  ·have u:k=s.length:=by omega
   rw[u,br]at t;refine⟨λc=>⟨λd=>hB _ ⟨λq=>?_,λq=>?_⟩,λd=>hB _ ⟨λq=>by simp at q,λq=>by omega⟩⟩,λc=>hB _ ⟨λq=>by simp at q,λq=>by omega⟩⟩
   ·simp only[aR]at q;exact⟨j.1,j.2.1,j.2.2.1,j.2.2.2,t,by omega,by omega,by omega⟩
   ·simp only[aR];omega)
def tx(s:BL):BL:=vn s.length++s
def pH(m:Mb):BL:=vn m.1++tx m.2.1++tx m.2.2.1
def rE(x:Fk):BL:=vn x.1++vn x.2.1
def fl{α:Type}(f:α->BL)(l:List α):BL:=(l.map f).flatten
theorem nR{α:Type}(f:α->BL){l:List α}{k:Nat}(z:α)(h:k<l.length):fl f (l.take (k+1))=fl f (l.take k)++f (l.getD k z):=by
 rw[cQ (z:=z) h];simp[fl]
theorem jc{α:Type}(f:α->BL)(l:List α):∀k,(fl f (l.take k)).length<=(fl f l).length:=by
 intro k;have:fl f l=fl f (l.take k)++fl f (l.drop k):=by unfold fl;rw[<-List.flatten_append,<-dn,dI]
 rw[this];simp
theorem dS(s:BL):(tx s).length<=s.length+7:=by have:=bz s.length;simp only[tx,aa];omega
theorem mz(s:BL):s.length<=(tx s).length:=by simp only[tx,aa];omega
def fq(e:Et):BL:=vn 1++vn e.1++tx e.2.1++vn e.2.2.1.length++fl pH e.2.2.1++vn e.2.2.2.1.length++fl rE e.2.2.2.1++tx e.2.2.2.2.1
def dL(e:Et):BL:=fq e++vn e.2.2.2.2.2.1.length++fl tx e.2.2.2.2.2.1
def Er:Ct:=⟨2,⟨[sB 0,(1,true,[.d oI])],[]⟩,[⟨[(0,false,[.d tB])],[]⟩],λ(b,e,_)=>one (b.length+(fq e).length<=1000000000/\gg e) (b++fq e,())⟩
def Xf:cg:=⟨[sB 0,(3,false,[.ptr 0 0]),(23,false,[.d (.sl iL)]),sI 24,sI 25],[some (.cells [.d oI])]⟩
def Jn(b:BL)(e:Et)(y:Xf.den):Prop:=match y with
 |(q,a,n,i,c,_)=>c=e/\a=e.2.2.1/\n=a.length/\∃k:Nat,i=k/\k<=a.length/\q=b++(vn 1++vn e.1++tx e.2.1++vn e.2.2.1.length++fl pH (a.take k))
def Xg:cg:=⟨[sB 0,(3,false,[.ptr 0 0]),(46,false,[.d (.sl iG)]),sI 47,sI 48],[some (.cells [.d oI])]⟩
def Jo(b:BL)(e:Et)(y:Xg.den):Prop:=match y with
 |(q,a,n,i,c,_)=>c=e/\a=e.2.2.2.1/\n=a.length/\∃k:Nat,i=k/\k<=a.length/\q=b++(vn 1++vn e.1++tx e.2.1++vn e.2.2.1.length++fl pH e.2.2.1++vn e.2.2.2.1.length++fl rE (a.take k))
def a10(x:Er.inp.den):dB:=⟨[(4,bK Xf (Jn x.1 x.2.1) λ(_,_,n,i,_)=>(n-i).toNat),(10,bK Xg (Jo x.1 x.2.1) λ(_,_,n,i,_)=>(n-i).toNat)],[],[],[],0⟩
theorem Es:bS Tryz.prog 84 Er:=kC Q8 a10 (∀(e:BL)(a:Et)Q,let n:=vn (nI a.2.1)++a.2.1;bd Er (e,a,()) Q->e.length<=1099511627776/\(e++vn 1).length<=1099511627776/\(e++vn 1++vn a.1).length+ah a.2.1<=1099511627776/\(e++vn 1++vn a.1++n).length<=1099511627776/\Is (Jn e a (e++vn 1++vn a.1++n++vn (nI a.2.2.1),a.2.2.1,nI a.2.2.1,0,(a.1,a.2.1,a.2.2.1,a.2.2.2.1,a.2.2.2.2.1,a.2.2.2.2.2.1,a.2.2.2.2.2.2.1,()),()))/\∀(h:BL)(d:List Mb)(i b:Int)(c:Et),let o:=(c.1,c.2.1,c.2.2.1,c.2.2.2.1,c.2.2.2.2.1,c.2.2.2.2.2.1,c.2.2.2.2.2.2.1,());let z:=gD d b (0,[],[],());let p:=vn (↑(ah z.2.1):Int)++z.2.1;Jn e a (h,d,i,b,c,())->Bd (b<i) (iN b d/\h.length<=1099511627776/\(h++vn z.1).length+ah z.2.1<=1099511627776/\(h++vn z.1++p).length+ah z.2.2.1<=1099511627776/\ac (b+1)/\Is (Jn e a (h++vn z.1++p++(vn (↑(ah z.2.2.1):Int)++z.2.2.1),d,i,b+1,o,())/\lN (i-(b+1)) (i-b))) (h.length<=1099511627776/\Is (Jo e a (h++vn (nI c.2.2.2.1),c.2.2.2.1,nI c.2.2.2.1,0,o,()))/\∀(j:BL)(k:List Fk)(l f:Int)(g:Et),let m:=gD k f (0,0,());Jo e a (j,k,l,f,g,())->Bd (f<l) (iN f k/\j.length<=1099511627776/\(j++vn m.1).length<=1099511627776/\ac (f+1)/\Is (Jo e a (j++vn m.1++vn m.2.1,k,l,f+1,(g.1,g.2.1,g.2.2.1,g.2.2.2.1,g.2.2.2.2.1,g.2.2.2.2.2.1,g.2.2.2.2.2.2.1,()),())/\lN (l-(f+1)) (l-f))) (j.length+ah g.2.2.2.2.1<=1099511627776/\Q ⟨0,j++(vn (nI g.2.2.2.2.1)++g.2.2.2.2.1),()⟩))) (by
 conv=>zeta
 unfold Bd gD iN lN nI bd;rintro b ⟨n,pv,a,c,l,p,r,⟨⟩⟩ Q ⟨⟨u,D,E,F⟩,v⟩;dsimp only at*;have w:∀s:BL,vn s.length++s=tx s:=λ_=>rfl;simp only[w];have t:fq (n,pv,a,c,l,p,r,())=vn 1++vn n++tx pv++vn a.length++fl pH a++vn c.length++fl rE c++tx l:=rfl;have m:b.length+(fq (n,pv,a,c,l,p,r,())).length<=1000000000:=u;rw[t]at m;simp only[aa]at m;have G:=mz pv;have J:=mz l;simp only[aa];refine⟨by omega,by omega,by omega,by omega,⟨rfl,rfl,rfl,0,rfl,aq _,by simp[fl]⟩,?_⟩;rintro q a x i z ⟨rfl,rfl,rfl,k,rfl,A,rfl⟩;dsimp only at*;simp only[aF,ai,aj];have B:=jc pH a k;simp only[aa];refine⟨λh=>?_,λh=>?_⟩
 ·have f:k<a.length:=by omega
  have o:=nR pH (0,[],[],()) f;have g:=jc pH a (k+1);rw[o,aa]at g;generalize a.getD k (0,[],[],())=H at*;simp only[pH,aa]at g;have K:=mz H.2.1;have L:=mz H.2.2.1;refine⟨by omega,by omega,by omega,by omega,by unfold ac;omega,⟨⟨rfl,rfl,rfl,k+1,rfl,f,?_⟩,by omega⟩⟩;rw[o];simp only[pH,ay]
 ·have j:k=a.length:=by omega
  subst j;rw[br]at*;refine⟨by omega,⟨rfl,rfl,rfl,0,rfl,aq _,by simp[fl]⟩,?_⟩;rintro q c x i z ⟨rfl,rfl,rfl,k,rfl,A,rfl⟩;dsimp only at*;simp only[aF];have B:=jc rE c k;simp only[aa];refine⟨λh=>?_,λh=>?_⟩
  ·have f:k<c.length:=by omega
   have o:=nR rE (0,0,()) f;have g:=jc rE c (k+1);rw[o,aa]at g;generalize c.getD k (0,0,())=H at*;simp only[rE,aa]at g;refine⟨by omega,by omega,by omega,by unfold ac;omega,⟨⟨rfl,rfl,rfl,k+1,rfl,f,?_⟩,by omega⟩⟩;rw[o];simp only[rE,ay]
  ·have j:k=c.length:=by omega
   subst j;rw[br]at*;refine⟨by omega,?_⟩;have C:∀y,y=b++fq (n,pv,a,c,l,p,r,())->Q ⟨0,(y,())⟩:=λy e=>by rw[e];exact v
   refine C _ ?_;rw[t];simp only[ay])
def LW:bw:=(84,[Er])::Xe
theorem Xh:KK LW:=⟨aQ.add Q8.1 (by kernel_rfl) (bo (Es)),bg.add Q8.2 (bo (λ_=>bJ))⟩
def Q9:Ct:=⟨2,⟨[sB 0,(1,true,[.d oI])],[]⟩,[⟨[(0,false,[.d tB])],[]⟩],λ(b,e,_)=>one (b.length+(dL e).length<=1000000000/\gg e) (b++dL e,())⟩
def Xi:cg:=⟨[sB 0,(15,false,[.d (.sl tB)]),sI 16,sI 17],[]⟩
def Jp(b:BL)(e:Et)(y:Xi.den):Prop:=match y with
 |(q,a,n,i,_)=>a=e.2.2.2.2.2.1/\n=a.length/\∃k:Nat,i=k/\k<=a.length/\q=b++(fq e++vn a.length++fl tx (a.take k))
def a11(x:Q9.inp.den):dB:=⟨[(3,bK Xi (Jp x.1 x.2.1) λ(_,_,n,i,_)=>(n-i).toNat)],[],[],[],0⟩
def LX:bw:=(109,[Q9])::LW
theorem Xj:KK LX:=kA Xh a11 (∀(c:BL)(a:Et)Q,let z:=(a.1,a.2.1,a.2.2.1,a.2.2.2.1,a.2.2.2.2.1,a.2.2.2.2.2.1,a.2.2.2.2.2.2.1,());bd Q9 (c,a,()) Q->(c.length+ah (fq z)<=1000000000/\gg z)/\(c++fq z).length<=1099511627776/\Is (Jp c a (c++fq z++vn (nI a.2.2.2.2.2.1),a.2.2.2.2.2.1,nI a.2.2.2.2.2.1,0,()))/\∀(f:BL)(d:List BL)(e b:Int),Jp c a (f,d,e,b,())->Bd (b<e) (iN b d/\f.length+(gD d b []).length<=1099511627776/\ac (b+1)/\Is (Jp c a (f++(vn (nI (gD d b []))++gD d b []),d,e,b+1,())/\lN (e-(b+1)) (e-b))) (Q ⟨0,f,()⟩)) (by
 conv=>zeta
 unfold Bd gD iN lN nI bd;rintro b ⟨n,pv,c,f,g,a,j,⟨⟩⟩ Q ⟨⟨x,t⟩,z⟩;dsimp only at*;have A:∀s:BL,vn s.length++s=tx s:=λ_=>rfl;simp only[A];have u:dL (n,pv,c,f,g,a,j,())=fq (n,pv,c,f,g,a,j,())++vn a.length++fl tx a:=rfl;have o:b.length+(dL (n,pv,c,f,g,a,j,())).length<=1000000000:=x;rw[u]at o;have v:∀y,y=b++dL (n,pv,c,f,g,a,j,())->Q ⟨0,(y,())⟩:=λy e=>by rw[e];exact z
 rw[u]at v;generalize m:fq (n,pv,c,f,g,a,j,())=C at*;simp only[aa]at*;refine⟨⟨by omega,t⟩,by omega,⟨rfl,rfl,0,rfl,aq _,by rw[m];simp[fl]⟩,?_⟩;rintro q a D i ⟨rfl,rfl,k,rfl,E,rfl⟩;simp only[aF,ai,aj];have F:=jc tx a k;have B:=t.2.2;dsimp only at B;refine⟨λh=>?_,λh=>?_⟩
 ·have l:k<a.length:=by omega
  have w:=nR tx [] l;have p:=jc tx a (k+1);rw[w,aa]at p;have G:=mz (a.getD k []);rw[m];simp only[aa];refine⟨by omega,by omega,by unfold ac;omega,⟨⟨rfl,rfl,k+1,rfl,l,?_⟩,by omega⟩⟩;rw[w,m];simp only[ay]
 ·have r:k=a.length:=by omega
  subst r;refine v _ ?_;rw[br,m])
def fL(e:Et):BL:=dL e++tx e.2.2.2.2.2.2.1
def Ra:Ct:=⟨2,⟨[sB 0,(1,true,[.d oI])],[]⟩,[⟨[(0,false,[.d tB])],[]⟩],λ(b,e,_)=>one (b.length+(fL e).length<=1000000000/\gg e) (b++fL e,())⟩
def LY:bw:=(73,[Ra])::LX
theorem Xk:KK LY:=kA Xj (cE Ra 0) (∀(b:BL)(a:Et)Q,let z:=(a.1,a.2.1,a.2.2.1,a.2.2.2.1,a.2.2.2.2.1,a.2.2.2.2.2.1,a.2.2.2.2.2.2.1,());bd Ra (b,a,()) Q->(b.length+ah (dL z)<=1000000000/\gg z)/\(b++dL z).length+ah a.2.2.2.2.2.2.1<=1099511627776/\Q ⟨0,b++dL z++(vn (nI a.2.2.2.2.2.2.1)++a.2.2.2.2.2.2.1),()⟩) (by
 conv=>zeta
 unfold nI bd;rintro b ⟨n,pv,c,f,g,h,a,⟨⟩⟩ Q ⟨⟨l,m⟩,o⟩;dsimp only at*;have p:∀s:BL,vn s.length++s=tx s:=λ_=>rfl;simp only[p];have j:fL (n,pv,c,f,g,h,a,())=dL (n,pv,c,f,g,h,a,())++tx a:=rfl;have i:b.length+(fL (n,pv,c,f,g,h,a,())).length<=1000000000:=l;rw[j]at i;have r:=mz a;simp only[aa]at*;refine⟨⟨by omega,m⟩,by omega,?_⟩;have q:∀y,y=b++fL (n,pv,c,f,g,h,a,())->Q ⟨0,(y,())⟩:=λy e=>by rw[e];exact o
 exact q _ (by rw[j,ay]))
def Vg:Option CP:=some (.sl iL)
def Rb:Ct:=⟨1,⟨[(0,false,[.d (.sl iL)])],[]⟩,[⟨[sO 0 0],[Vg]⟩],λ(l,_)=>one (l.length<=1000000/\∀m∈l,m.2.1.length<=1000000/\m.2.2.1.length<=1000000) (l,())⟩
def Xl:cg:=⟨[sO 3 0,(6,false,[.d (.sl iL)]),sI 7,sI 8],[Vg]⟩
def Jq(l:List Mb)(y:Xl.den):Prop:=match y with
 |(a,n,i,v,_)=>a=l/\n=l.length/\∃k:Nat,i=k/\k<=l.length/\v=l.take k
def a12(x:Rb.inp.den):dB:=⟨[(3,bK Xl (Jq x.1) λ(_,n,i,_)=>(n-i).toNat)],[],[],[],0⟩
def LZ:bw:=(90,[Rb])::LY
theorem Eu:KK LZ:=kA Xk a12 (∀(c:List Mb)Q,bd Rb (c,()) Q->Is (Jq c (c,nI c,0,[],()))/\∀(b:List Mb)(d a:Int)(e:List Mb),let z:=gD b a (0,[],[],());Jq c (b,d,a,e,())->Bd (a<d) (iN a b/\(0+ah z.2.1)*1<=mM/\(0+ah z.2.2.1)*1<=mM/\(e.length+1)*56<=mM/\ac (a+1)/\Is (Jq c (b,d,a+1,e++[(z.1,z.2.1,z.2.2.1,())],())/\lN (d-(a+1)) (d-a))) (Q ⟨0,e,()⟩)) (by
 conv=>zeta
 unfold Bd gD iN lN mM nI bd;intro l Q ⟨⟨j,c⟩,b⟩;have f:∀y,l=y->Q ⟨0,(y,())⟩:=λy e=>by rw[e]at b;exact b
 clear b;refine⟨⟨rfl,rfl,0,rfl,aq _,rfl⟩,?_⟩;rintro l n i v ⟨rfl,rfl,k,rfl,m,rfl⟩;simp only[aF,ai,aj];refine⟨λh=>?_,λh=>f _ ?_⟩
 ·have a:k<l.length:=by omega
  have o:=c _ (aS (z:=((0,[],[],()):Mb)) a);have g:=cQ (z:=((0,[],[],()):Mb)) a;refine⟨by omega,by omega,by omega,by simp;omega,by unfold ac;omega,⟨⟨rfl,rfl,k+1,rfl,a,g.symm⟩,by omega⟩⟩
 ·rw[bf (by omega)])
def gk:List Mb->Int->Mb×Bool
 |[],_=>(yS,false)
 |m::r,id=>if m.1=id then(m,true)else gk r id
def Jr:Ct:=⟨2,⟨[(0,false,[.d (.sl iL)]),sI 1],[]⟩,[⟨[(0,true,[.d iL]),sL 1],[]⟩],λ(l,id,_)=>one (l.length<=1000000) ((gk l id).1,(gk l id).2,())⟩
def Xm:cg:=⟨[sI 1,(4,false,[.ptr 0 0]),(8,false,[.d (.sl iL)]),sI 9,sI 10],[some (.cells [.d iL])]⟩
def Js(l:List Mb)(id:Int)(y:Xm.den):Prop:=match y with
 |(a,b,n,i,z,_)=>a=id/\b=l/\n=l.length/\∃k:Nat,i=k/\k<=l.length/\gk (l.drop k) id=gk l id
def a13(x:Jr.inp.den):dB:=⟨[(2,bK Xm (Js x.1 x.2.1) λ(_,_,n,i,_)=>(n-i).toNat)],[],[],[],0⟩
theorem Ev:bS Tryz.prog 145 Jr:=kC Eu a13 (∀(c:List Mb)(e:Int)Q,bd Jr (c,e,()) Q->Is (Js c e (e,c,nI c,0,(0,[],[],()),()))/\∀(f:Int)(b:List Mb)(d a:Int)(g:Mb),let z:=gD b a (0,[],[],());Js c e (f,b,d,a,g,())->Bd (a<d) (iN a b/\Br (z.1==f) (Q ⟨0,(z.1,z.2.1,z.2.2.1,()),true,()⟩) (ac (a+1)/\Is (Js c e (f,b,d,a+1,(g.1,g.2.1,g.2.2.1,()),())/\lN (d-(a+1)) (d-a)))) (Q ⟨0,(0,[],[],()),false,()⟩)) (by
 conv=>zeta
 unfold Bd Br gD iN lN nI bd;intro l id Q ⟨j,c⟩;have f:∀y:Mb×Bool,gk l id=y->Q ⟨0,(y.1,y.2,())⟩:=λy e=>by rw[<-e];exact c
 clear c;refine⟨⟨rfl,rfl,rfl,0,rfl,aq _,rfl⟩,?_⟩;rintro id l n i z ⟨rfl,rfl,rfl,k,rfl,m,a⟩;simp only[aF,ai,aj,aR,az,ne_eq];refine⟨λh=>?_,λh=>f (yS,false) ?_⟩
 ·have b:k<l.length:=by omega
  rw[cZ (z:=((0,[],[],()):Mb)) b]at a;generalize l.getD k (0,[],[],())=H at*;simp only[gk]at a;refine⟨by omega,λg=>f (H,true) ?_,λg=>⟨by unfold ac;omega,⟨⟨rfl,rfl,rfl,k+1,rfl,b,?_⟩,by omega⟩⟩⟩
  ·rw[<-a,am g]
  ·rw[<-a,af g]
 ·rw[<-a,bC (by omega)];rfl)
def L0:bw:=(145,[Jr])::LZ
theorem Xn:KK L0:=⟨aQ.add Eu.1 (by kernel_rfl) (bo (Ev)),bg.add Eu.2 (bo (λ_=>bJ))⟩
abbrev Vh:Ty:= .pr tB (.pr (.sl oI) (.pr (.sl tB) .un))
abbrev Lg:=BL×List Et×List BL×Unit
def sa:List (Option CP):=[some (.cells [.d tB, .d (.sl oI), .d (.sl tB)])]
def yU(es:List Et):Prop:=es.length<=1000000/\∀e∈es,gg e
def L1:Bool->List Et->Int->Bool
 |_,[],_=>false
 |a,e::r,id=>if a&& !(gk e.2.2.1 id).2 then true else L1 (gk e.2.2.1 id).2 r id
def Jt:Ct:=⟨2,⟨[sP 0,sI 1],sa⟩,[⟨[sL 0],sa⟩],λ(id,a,b,c,_)=>one (yU b) (L1 false b id,a,b,c,())⟩
def Xo:cg:=⟨[sP 0,sI 1,sL 5,(13,false,[.d (.sl oI)]),sI 14,sI 15],sa⟩
def Ju(x:Jt.inp.den)(y:Xo.den):Prop:=match x,y with
 |(id,a,b,j,_),(c,e,f,n,i,l,g,h,_)=>c=id/\f=b/\n=b.length/\l=a/\g=b/\h=j/\∃k:Nat,i=k/\k<=b.length/\L1 e (b.drop k) id=L1 false b id
def a14(x:Jt.inp.den):dB:=⟨[(3,bK Xo (Ju x) λ(_,_,_,n,i,_)=>(n-i).toNat)],[],[],[],0⟩
def Ew:bw:=(146,[Jt])::L0
theorem tS:KK Ew:=kA Xn a14 (∀(f:Int)(g:BL)(d:List Et)(h:List BL)Q,let m:=(f,g,d,h,());bd Jt m Q->Is (Ju m (f,false,d,nI d,0,g,d,h,()))/\∀(e:Int)(l:Bool)(b:List Et)(c a:Int)(i:BL)(j:List Et)(k:List BL),let n:=gD b a (0,[],[],[],[],[],[],());let z:=gk n.2.2.1 e;let o:=ac (a+1)/\Is (Ju m (e,z.2,b,c,a+1,i,j,k,())/\lN (c-(a+1)) (c-a));Ju m (e,l,b,c,a,i,j,k,())->Bd (a<c) (iN a b/\ah n.2.2.1<=1000000/\Br l (Br (!z.2) (Q ⟨0,true,i,j,k,()⟩) o) o) (Q ⟨0,false,i,j,k,()⟩)) (by
 conv=>zeta
 unfold Bd Br gD iN lN nI bd;intro id a j m Q ⟨⟨t,p⟩,l⟩;have o:∀y,L1 false j id=y->Q ⟨0,(y,a,j,m,())⟩:=λy e=>by rw[e]at l;exact l
 clear l;refine⟨⟨rfl,rfl,rfl,rfl,rfl,rfl,0,rfl,aq _,rfl⟩,?_⟩;rintro id q r n i a j m ⟨rfl,rfl,rfl,rfl,rfl,rfl,k,rfl,u,f⟩;simp only[aF,ai,aj];refine⟨λh=>?_,λh=>o _ ?_⟩
 ·have b:k<j.length:=by omega
  have s:=p _ (aS (z:=((0,[],[],[],[],[],[],()):Et)) b);rw[cZ (z:=((0,[],[],[],[],[],[],()):Et)) b]at f;generalize j.getD k (0,[],[],[],[],[],[],())=H at*;simp only[L1]at f;refine⟨by omega,s.1,λg=>⟨λc=>o _ ?_,λc=>⟨by unfold ac;omega,⟨⟨rfl,rfl,rfl,rfl,rfl,rfl,k+1,rfl,b,?_⟩,by omega⟩⟩⟩,λg=>⟨by unfold ac;omega,⟨⟨rfl,rfl,rfl,rfl,rfl,rfl,k+1,rfl,b,?_⟩,by omega⟩⟩⟩
  ·rw[<-f,g,c];rfl
  ·rw[<-f,g,c];rfl
  ·rw[<-f,g];rfl
 ·rw[<-f,bC (by omega)];rfl)
def Vi(i:Nat):Nat×Bool×List IP:=(i,false,[.d (.pf Vh)])
def pI(ms:List Mb):Prop:=∀m∈ms,m.2.1.length<=1000000/\m.2.2.1.length<=1000000
def cC(es:List Et)(a:List BL):Prop:=yU es/\es.length=a.length/\(∀d∈a,d.length<=1000000)/\∀e∈es,pI e.2.2.1
def Ex:Ct:=⟨1,⟨[Vi 0],[]⟩,[⟨[sI 0],[]⟩],λ(a,_)=>one True (a.2.1.length,())⟩
theorem Ey:bS Tryz.prog 48 Ex:=kC tS (cE Ex 0) (∀(a:Lg)Q,bd Ex (a,()) Q->Q ⟨0,nI a.2.1,()⟩) (by
 unfold nI bd;intro b Q ⟨_,a⟩;exact a)
def Xp:bw:=(48,[Ex])::Ew
theorem a4r:KK Xp:=⟨aQ.add tS.1 (by kernel_rfl) (bo (Ey)),bg.add tS.2 (bo (λ_=>bJ))⟩
def Jv:Ct:=⟨1,⟨[sP 0],sa⟩,[⟨[sI 0],sa⟩],λ(a,b,c,_)=>one True (b.length,a,b,c,())⟩
theorem Rc:bS Tryz.prog 48 Jv:=kC tS (cE Jv 0) (∀(b:BL)(a:List Et)(c:List BL)Q,bd Jv (b,a,c,()) Q->Q ⟨0,nI a,b,a,c,()⟩) (by
 unfold nI bd;intro a c e Q ⟨_,b⟩;exact b)
def L2:bw:=(48,[Jv,Ex])::Ew
theorem Xq:KK L2:=⟨aQ.add tS.1 (by kernel_rfl) (fQ (Rc) (bo (Ey))),bg.add tS.2 (fQ (λ_=>bJ) (bo (λ_=>bJ)))⟩
def ll(es:List Et)(a:List BL)(n:Int):BL:=if n<1\/es.length<n then[]else a.getD (n-1).toNat []
def Jw:Ct:=⟨2,⟨[sP 0,sI 1],sa⟩,[⟨[(0,false,[.d tB])],sa⟩],λ(n,a,b,c,_)=>one (cC b c) (ll b c n,a,b,c,())⟩
abbrev Re(v:BL×Lg):cw Jw.out:=⟨0,v⟩
def Ez:bw:=(107,[Jw])::L2
theorem tT:KK Ez:=kA Xq (cE Jw 0) (∀(a:Int)(d:BL)(c:List Et)(b:List BL)Q,let z:=Re ([],d,c,b,());bd Jw (a,d,c,b,()) Q->Bd (a<1) (Q z) (True/\Bd (nI c<a) (Q z) (ac (a-1)/\iN (a-1) b/\(0+(gD b (a-1) []).length)*1<=mM/\Q ⟨0,gD b (a-1) [],d,c,b,()⟩))) (by
 conv=>zeta
 unfold Bd gD iN mM nI bd;intro n a i c Q ⟨⟨j,m,l,_⟩,f⟩;have b:∀y,ll i c n=y->Q ⟨0,(y,a,i,c,())⟩:=λy e=>by rw[e]at f;exact f
 clear f;unfold ll at b;simp only[ai,aj];refine⟨λh=>b _ (am (.inl h)),λh=>⟨trivial,λg=>b _ (am (.inr g)),λg=>?_⟩⟩;have o:=l _ (aS (z:=([]:BL)) (show(n-1).toNat<c.length by omega));have p:=j.1;exact⟨by unfold ac;omega,by omega,by omega,b _ (af (by omega))⟩)
def cS(es:List Et)(n:Int):List Mb:=if n<1\/es.length<n then[]else(es.getD (n-1).toNat (0,[],[],[],[],[],[],())).2.2.1
def EA:Ct:=⟨2,⟨[Vi 0,sI 1],[]⟩,[⟨[sO 0 0],[Vg]⟩],λ(a,n,_)=>one (cC a.2.1 a.2.2.1) (cS a.2.1 n,())⟩
theorem EB:bS Tryz.prog 47 EA:=kC tT (cE EA 0) (∀(b:Lg)(a:Int)Q,let z:=bB b.2.1 (a-1).toNat (0,[],[],[],[],[],[],());bd EA (b,a,()) Q->Bd (a<1) (Q ⟨0,[],()⟩) (True/\Bd (nI b.2.1<a) (Q ⟨0,[],()⟩) (ac (a-1)/\iN (a-1) b.2.1/\(ah z.2.2.1<=1000000/\∀(m:Mb),m∈z.2.2.1->ah m.2.1<=1000000/\ah m.2.2.1<=1000000)/\Q ⟨0,z.2.2.1,()⟩))) (by
 conv=>zeta
 unfold Bd iN nI bd;rintro⟨a,f,m,⟨⟩⟩ n Q ⟨⟨i,o,p,l⟩,c⟩;dsimp only at*;have b:∀y,cS f n=y->Q ⟨0,(y,())⟩:=λy e=>by rw[e]at c;exact c
 clear c;unfold cS at b;simp only[ai,aj];refine⟨λh=>b _ (am (.inl h)),λh=>⟨trivial,λg=>b _ (am (.inr g)),λg=>?_⟩⟩;have q:=i.1;have j:=aS (z:=((0,[],[],[],[],[],[],()):Et)) (show(n-1).toNat<f.length by omega);exact⟨by unfold ac;omega,by omega,⟨(i.2 _ j).1,l _ j⟩,b _ (af (by omega))⟩)
def Xr:bw:=(47,[EA])::Ez
theorem a4s:KK Xr:=⟨aQ.add tT.1 (by kernel_rfl) (bo (EB)),bg.add tT.2 (bo (λ_=>bJ))⟩
def EC:Ct:=⟨2,⟨[sP 0,sI 1],sa⟩,[⟨[sO 0 1],sa++[Vg]⟩],λ(n,a,b,c,_)=>one (cC b c) (a,b,c,cS b n,())⟩
abbrev Rf(v:BL×List Et×List BL×List Mb×Unit):cw EC.out:=⟨0,v⟩
theorem Rg:bS Tryz.prog 47 EC:=kC tT (cE EC 0) (∀(a:Int)(c:BL)(b:List Et)(d:List BL)Q,let e:=Rf (c,b,d,[],());let z:=gD b (a-1) (0,[],[],[],[],[],[],());bd EC (a,c,b,d,()) Q->Bd (a<1) (Q e) (True/\Bd (nI b<a) (Q e) (ac (a-1)/\iN (a-1) b/\(ah z.2.2.1<=1000000/\∀(m:Mb),m∈z.2.2.1->ah m.2.1<=1000000/\ah m.2.2.1<=1000000)/\Q ⟨0,c,b,d,z.2.2.1,()⟩))) (by
 conv=>zeta
 unfold Bd gD iN nI bd;intro n a c l Q ⟨⟨i,o,p,m⟩,f⟩;have b:∀y,cS c n=y->Q ⟨0,(a,c,l,y,())⟩:=λy e=>by rw[e]at f;exact f
 clear f;unfold cS at b;simp only[ai,aj];refine⟨λh=>b _ (am (.inl h)),λh=>⟨trivial,λg=>b _ (am (.inr g)),λg=>?_⟩⟩;have q:=i.1;have j:=aS (z:=((0,[],[],[],[],[],[],()):Et)) (show(n-1).toNat<c.length by omega);exact⟨by unfold ac;omega,by omega,⟨(i.2 _ j).1,m _ j⟩,b _ (af (by omega))⟩)
def L3:bw:=(47,[EC,EA])::Ez
theorem Xs:KK L3:=⟨aQ.add tT.1 (by kernel_rfl) (fQ (Rg) (bo (EB))),bg.add tT.2 (fQ (λ_=>bJ) (bo (λ_=>bJ)))⟩
def Jx:List Fk->Int->Int×Bool
 |[],_=>(0,false)
 |x::r,a=>if x.1=a then(x.2.1,true)else Jx r a
def vN:List Et->Int->Int×Bool
 |[],_=>(0,false)
 |e::r,a=>if(Jx e.2.2.2.1 a).2 then Jx e.2.2.2.1 a else vN r a
def Rh:Ct:=⟨2,⟨[Vi 0,sI 1],[]⟩,[⟨[sI 0,sL 1],[]⟩],λ(a,b,_)=>one (cC a.2.1 a.2.2.1) ((vN a.2.1.reverse b).1,(vN a.2.1.reverse b).2,())⟩
def Xt:cg:=⟨[Vi 0,sI 1,sI 10,sI 11],[]⟩
def Jy(lg:Lg)(au:Int)(y:Xt.den):Prop:=match y with
 |(a,b,n,i,_)=>a=lg/\b=au/\n=lg.2.1.length/\∃k:Nat,i=k/\k<=lg.2.1.length/\vN (lg.2.1.take (lg.2.1.length-k)).reverse au=vN lg.2.1.reverse au
def Xu:cg:=⟨[Vi 0,sI 1,sI 10,sI 11,(25,false,[.d (.sl iG)]),sI 26,sI 27],[]⟩
def Jz(lg:Lg)(au e:Int)(y:Xu.den):Prop:=match y with
 |(b,c,n,i,a,f,j,_)=>b=lg/\c=au/\n=lg.2.1.length/\e=i/\f=a.length/\a.length<=1000000/\∃k:Nat,i=k/\k<lg.2.1.length/\(if(Jx a au).2 then Jx a au else vN (lg.2.1.take (lg.2.1.length-(k+1))).reverse au)=vN lg.2.1.reverse au/\∃r:Nat,j=r/\r<=a.length/\Jx (a.drop r) au=Jx a au
def a15(x:Rh.inp.den):dB:=⟨[(2,oG Xt (Jy x.1 x.2.1) (λ(_,_,n,i,_)=>(n-i).toNat) λ(_,_,_,i,_)=>[(5,bK Xu (Jz x.1 x.2.1 i) λ(_,_,_,_,_,n,j,_)=>(n-j).toNat)])],[],[],[],0⟩
def L4:bw:=(165,[Rh])::L3
theorem Xv:KK L4:=kA Xs a15 (∀(d:Lg)(e:Int)Q,bd Rh (d,e,()) Q->True/\Is (Jy d e (d,e,nI d.2.1,0,()))/\∀(c:Lg)(m h a:Int),let n:=nI c.2.1-1-a;let z:=bB c.2.1 n.toNat (0,[],[],[],[],[],[],());Jy d e (c,m,h,a,())->Bd (a<h) (True/\ac (nI c.2.1-1)/\ac n/\iN n c.2.1/\Is (Jz d e a (c,m,h,a,z.2.2.2.1,(↑(ah z.2.2.2.1):Int),0,()))/\∀(l:Lg)(i k j:Int)(f:List Fk)(g b:Int),let o:=gD f b (0,0,());Jz d e a (l,i,k,j,f,g,b,())->Bd (b<g) (iN b f/\Br (o.1==i) (Q ⟨0,o.2.1,true,()⟩) (ac (b+1)/\Is (Jz d e a (l,i,k,j,f,g,b+1,())/\lN (g-(b+1)) (g-b)))) (ac (j+1)/\Is (Jy d e (l,i,k,j+1,())/\lN (k-(j+1)) (h-a)))) (Q ⟨0,0,false,()⟩)) (by
 conv=>zeta
 unfold Bd Br gD iN lN nI bd;rintro⟨a,b,F,⟨⟩⟩ u Q ⟨⟨v,O,P,R⟩,w⟩;dsimp only at*;have x:∀y:Int×Bool,vN b.reverse u=y->Q ⟨0,(y.1,y.2,())⟩:=λy e=>by rw[<-e];exact w
 clear w;have S:=v.1;refine⟨trivial,⟨rfl,rfl,rfl,0,rfl,aq _,by simp⟩,?_⟩;rintro G u n i ⟨rfl,rfl,rfl,k,rfl,U,f⟩;simp only[ai,aj]at*;have A:(((a,b,F,()):Lg).2.1).length=b.length:=rfl;have J:((b.length:Int)-1-(k:Int)).toNat=b.length-(k+1):=by omega
 refine⟨λh=>?_,λh=>x (0,false) ?_⟩
 ·have m:k<b.length:=by omega
  have K:b.length-k=(b.length-(k+1))+1:=by omega
  have B:b.length-(k+1)<b.length:=by omega
  rw[J];rw[K,cQ (z:=((0,[],[],[],[],[],[],()):Et)) B,List.reverse_append]at f;have C:=v.2 _ (aS (z:=((0,[],[],[],[],[],[],()):Et)) B);generalize b.getD (b.length-(k+1)) (0,[],[],[],[],[],[],())=H at*;refine⟨trivial,by unfold ac;omega,by unfold ac;omega,by omega,⟨rfl,rfl,rfl,rfl,rfl,C.2.1,k,rfl,m,f,0,rfl,aq _,rfl⟩,?_⟩;clear f C;rintro L M W X D Y j ⟨rfl,rfl,rfl,E,rfl,q,p,rfl,s,f,r,rfl,hr,l⟩;have t:p=k:=by have:(k:Int)=p:=E;omega
  subst t;dsimp only at f;simp only[aF];refine⟨λg=>?_,λg=>⟨by unfold ac;omega,⟨⟨rfl,rfl,rfl,p+1,rfl,m,?_⟩,by omega⟩⟩⟩
  ·have o:r<D.length:=by omega
   rw[cZ (z:=((0,0,()):Fk)) o]at l;generalize D.getD r (0,0,())=H at*;simp only[Jx]at l;refine⟨by omega,λc=>x (H.2.1,true) ?_,λc=>⟨by unfold ac;omega,⟨⟨rfl,rfl,rfl,E,rfl,q,p,rfl,s,f,r+1,rfl,o,?_⟩,by omega⟩⟩⟩
   ·rw[am (by simpa using c)]at l;rw[<-l]at f;simpa using f.symm
   ·rw[af (by simpa using c)]at l;exact l
  ·rw[bC (by omega)]at l;rw[<-l]at f;simpa[Jx]using f
 ·have N:b.length-k=0:=by omega
  rw[N]at f;rw[<-f];rfl)
def Ri:Ct:=⟨1,⟨[Vi 0],[]⟩,[⟨[sP 0],[some (.cells [.d tB, .cut oI, .cut tB])]⟩],λ(a,_)=>one (cC a.2.1 a.2.2.1) (a.1,a.2.1,a.2.2.1,())⟩
def L5:bw:=(91,[Ri])::L4
theorem Xw:KK L5:=kA Xv (cE Ri 0) (∀(a:Lg)Q,bd Ri (a,()) Q->((0:Int)<=0/\0<=nI a.2.1/\nI a.2.1=nI a.2.1/\nI a.2.1<=nI a.2.1)/\((0:Int)<=0/\0<=nI a.2.1/\nI a.2.1=nI a.2.1/\nI a.2.1<=nI a.2.2.1)/\Q ⟨0,a.1,cM (nI a.2.1).toNat a.2.1,cM (nI a.2.1).toNat a.2.2.1,()⟩) (by
 unfold nI bd;rintro⟨a,b,f,⟨⟩⟩ Q ⟨⟨g,h,i,j⟩,c⟩;dsimp only at*;have e:((b.length:Int)).toNat=b.length:=aF _;rw[e,br,bf (by omega)];exact⟨by omega,by omega,c⟩)
def gv(es:List Et):List Mb:=(es.getD (es.length-1) (0,[],[],[],[],[],[],())).2.2.1
def Il(es:List Et)(last:List Mb)(m:Mb):Prop:=L1 false es m.1=false/\((gk last m.1).2=true->(gk last m.1).1.2.1=m.2.1/\(gk last m.1).1.2.2.1=m.2.2.1)
instance (es:List Et) (last:List Mb) (m:Mb):Decidable (Il es last m):=by unfold Il;infer_instance
def rF(ms:List Mb)(last:List Mb):List Int:=(last.filter λm=> !(gk ms m.1).2).map (·.1)
def ED(es:List Et)(ms:List Mb)(ns:List Fk):Bool:=decide ((∀m∈ms,Il es (gv es) m)/\rF ms (gv es)=ns.map (·.1))
def xg:Ct:=⟨3,⟨[sP 0,(1,false,[.d (.sl iL)]),(2,false,[.d (.sl iG)])],sa⟩,[⟨[sL 0],sa⟩],λ(c,e,a,b,f,_)=>one (yU b/\c.length<=1000000/\e.length<=1000000) (ED b c e,a,b,f,())⟩
def Xx:cg:=⟨[sP 0,(1,false,[.d (.sl iL)]),(2,false,[.d (.sl iG)]),(7,false,[.d (.sl iL)])],sa⟩
def JA(x:xg.inp.den)(y:Xx.den):Prop:=match x,y with
 |(e,f,h,b,g,_),(i,j,c,a,l,m,_)=>i=e/\j=f/\c=gv b/\a=h/\l=b/\m=g
theorem EE{α β:Type}(f:α->β){l:List α}{k:Nat}(z:α)(y:β)(h:k<l.length):(l.map f).getD k y=f (l.getD k z):=by
 simp[aw,ap,h]
theorem EF{es:List Et}(h:yU es):(gv es).length<=1000000:=by
 unfold gv;rcases jZ es.length with e|e
 ·have:es=[]:=r8.1 e;subst this;simp
 ·exact(h.2 _ (aS (z:=((0,[],[],[],[],[],[],()):Et)) (show es.length-1<es.length by omega))).1
theorem Cq(ms:List Mb){last:List Mb}{k:Nat}(h:k<last.length):rF ms (last.take (k+1))=rF ms (last.take k)++(if(gk ms (last.getD k (0,[],[],())).1).2 then[]else[(last.getD k (0,[],[],())).1]):=by
 rw[cQ (z:=((0,[],[],()):Mb)) h];unfold rF;rw[List.filter_append,dn]
 congr 1
 by_cases c:(gk ms (last.getD k (0,[],[],())).1).2=true
 ·rw[am c];simp only[List.filter_cons,c];rfl
 ·rw[af c];simp only[cd]at c;simp only[List.filter_cons,c];rfl
theorem EG(ms last:List Mb):∀k,(rF ms (last.take k)).length<=last.length:=by
 intro k;unfold rF;rw[bT];refine bq (List.length_filter_le _ _) ?_;simp;omega
def Xy:cg:=⟨[sP 0,(1,false,[.d (.sl iL)]),(2,false,[.d (.sl iG)]),(7,false,[.d (.sl iL)]),(38,false,[.d (.sl iL)]),sI 39,sI 40],sa⟩
def EH(x:xg.inp.den)(y:Xy.den):Prop:=match x,y with
 |(b,f,j,c,g,_),(l,o,e,h,n,i,a,p,q,_)=>l=b/\o=f/\e=gv c/\h=b/\n=b.length/\a=j/\p=c/\q=g/\∃k:Nat,i=k/\k<=b.length/\∀m∈b.take k,Il c (gv c) m
def Xz:cg:=⟨[(1,false,[.d (.sl iL)]),(2,false,[.d (.sl iG)]),sO 12 1,(75,false,[.d (.sl iL)]),sI 76,sI 77],sa++[some (.sl .i64)]⟩
def EI(x:xg.inp.den)(y:Xz.den):Prop:=match x,y with
 |(c,f,h,b,g,_),(j,l,e,n,i,a,o,p,q,_)=>j=c/\l=f/\e=gv b/\n=(gv b).length/\a=h/\o=b/\p=g/\(∀m∈c,Il b (gv b) m)/\∃k:Nat,i=k/\k<=(gv b).length/\q=rF c ((gv b).take k)
def XA:cg:=⟨[(12,false,[.d (.sl .i64)]),(101,false,[.d (.sl iG)]),sI 102,sI 103],sa⟩
def JB(x:xg.inp.den)(y:XA.den):Prop:=match x,y with
 |(e,b,h,c,f,_),(g,j,n,i,a,l,o,_)=>j=b/\n=b.length/\a=h/\l=c/\o=f/\(∀m∈e,Il c (gv c) m)/\g=rF e (gv c)/\ah g=b.length/\∃k:Nat,i=k/\k<=b.length/\cM k g=(b.take k).map (·.1)
def a16(x:xg.inp.den):dB:=⟨[(5,bK Xy (EH x) λ(_,_,_,_,n,i,_)=>(n-i).toNat),(13,bK Xz (EI x) λ(_,_,_,n,i,_)=>(n-i).toNat),(22,bK XA (JB x) λ(_,_,n,i,_)=>(n-i).toNat)],[(4,bK Xx (JA x) λ_=>0)],[],[],0⟩
abbrev Rj(v:Bool×Lg):cw xg.out:=⟨0,v⟩
def L6:bw:=(108,[xg])::L5
theorem L7:KK L6:=kA Xw a16 (∀(c:List Mb)(d:List Fk)(e:BL)(a:List Et)(f:List BL)Q,let x:=(c,d,e,a,f,());bd xg x Q->(Bd (0<nI a) (ac (nI a-1)/\iN (nI a-1) a/\Is (JA x (c,d,(gD a (nI a-1) (0,[],[],[],[],[],[],())).2.2.1,e,a,f,()))) (Is (JA x (c,d,[],e,a,f,()))))/\∀(B:List Mb)(G:List Fk)(H:List Mb)(J:BL)(K:List Et)(L:List BL),JA x (B,G,H,J,K,L,())->Is (EH x (B,G,H,B,nI B,0,J,K,L,()))/\∀(D:List Mb)(E:List Fk)(j g:List Mb)(l b:Int)(n:BL)(k:List Et)(o:List BL),let F:=Rj (false,n,k,o,());let M:=ac (b+1)/\Is (EH x (D,E,j,g,l,b+1,n,k,o,())/\lN (l-(b+1)) (l-b));let A:=gD g b (0,[],[],());let O:= !(gk j A.1).1.2.1==A.2.1;let P:= !(gk j A.1).1.2.2.1==A.2.2.1;EH x (D,E,j,g,l,b,n,k,o,())->Bd (b<l) (iN b g/\j.length<=1000000/\yU k/\Br (L1 false k A.1) (Q F) (Br ((gk j A.1).2) (True/\Br O (Q F) (True/\Br P (Q F) M)) M)) (Is (EI x (D,E,j,nI j,0,n,k,o,[],()))/\∀(s:List Mb)(p:List Fk)(q:List Mb)(m h:Int)(u:BL)(v:List Et)(w:List BL)(r:List Int),let N:=gD q h (0,[],[],());EI x (s,p,q,m,h,u,v,w,r,())->Bd (h<m) (iN h q/\s.length<=1000000/\Br (!(gk s N.1).2) ((r.length+1)*8<=mM/\ac (h+1)/\Is (EI x (s,p,q,m,h+1,u,v,w,r++[N.1],())/\lN (m-(h+1)) (m-h))) (ac (h+1)/\Is (EI x (s,p,q,m,h+1,u,v,w,r,())/\lN (m-(h+1)) (m-h)))) (Br (!(nI r)==nI p) (Q ⟨0,false,u,v,w,()⟩) (Is (JB x (r,p,nI p,0,u,v,w,()))/\∀(y:List Int)(z:List Fk)(t i:Int)(R:BL)(S:List Et)(U:List BL),let W:= !(gD z i (0,0,())).1==gD y i 0;let C:=(R,S,U,());JB x (y,z,t,i,C)->Bd (i<t) (iN i z/\iN i y/\Br W (Q ⟨0,false,C⟩) (ac (i+1)/\Is (JB x (y,z,t,i+1,C)/\lN (t-(i+1)) (t-i)))) (Q ⟨0,true,C⟩))))) (by
 conv=>zeta
 unfold Bd Br gD iN lN mM nI bd;rintro j o a f s Q ⟨⟨B,N,X⟩,J⟩
 have hB:∀b:Bool,(b=true↔((∀m∈j,Il f (gv f) m)/\rF j (gv f)=o.map (·.1)))->Q ⟨0,(b,a,f,s,())⟩:=by
  intro b O;have:b=ED f j o:=by unfold ED;rw[mi,O,ai]
  rw[this];exact J
 clear J;have Y:=B.1;have C:=EF B;simp only[ai,aj];refine⟨⟨λh=>⟨by unfold ac;omega,by omega,⟨rfl,rfl,?_,rfl,rfl,rfl⟩⟩,λh=>⟨rfl,rfl,?_,rfl,rfl,rfl⟩⟩,?_⟩
 ·have:((f.length:Int)-1).toNat=f.length-1:=by omega
  rw[this];rfl
 ·have:f=[]:=r8.1 (by omega);subst this;rfl
 ·rintro j o t a f s ⟨rfl,rfl,rfl,rfl,rfl,rfl⟩;refine⟨⟨rfl,rfl,rfl,rfl,rfl,rfl,rfl,rfl,0,rfl,aq _,by simp⟩,?_⟩;rintro P o t j n i a f s ⟨rfl,rfl,rfl,rfl,rfl,rfl,rfl,rfl,k,rfl,R,K⟩;simp only[aF];refine⟨λh=>?_,λh=>⟨⟨rfl,rfl,rfl,rfl,rfl,rfl,rfl,?_,0,rfl,aq _,rfl⟩,?_⟩⟩
  ·have l:k<j.length:=by omega
   have S:=aS (z:=((0,[],[],()):Mb)) l;have y:=λD=>nQ ((0,[],[],()):Mb) (p:=Il f (gv f)) K l D;generalize j.getD k (0,[],[],())=H at*;have E:¬Il f (gv f) H->Q ⟨0,(false,a,f,s,())⟩:=λg=>hB _ ⟨λq=>by simp at q,λq=>absurd (q.1 H S) g⟩;have L:Il f (gv f) H->ac ((k:Int)+1)/\Is (EH (j,o,a,f,s,()) (j,o,gv f,j,(j.length:Int),(k:Int)+1,a,f,s,())/\((j.length:Int)-((k:Int)+1)).toNat<((j.length:Int)-(k:Int)).toNat):=λD=>⟨by unfold ac;omega,⟨⟨rfl,rfl,rfl,rfl,rfl,rfl,rfl,rfl,k+1,rfl,l,y D⟩,by omega⟩⟩;refine⟨by omega,C,B,λg=>E λq=>by rw[q.1]at g;simp at g,λg=>⟨λc=>⟨trivial,λd=>E λq=>?_,λd=>⟨trivial,λe=>E λq=>?_,λe=>L ⟨g,λ_=>⟨?_,?_⟩⟩⟩⟩,λc=>L ⟨g,λM=>?_⟩⟩⟩
   ·rw[(q.2 c).1]at d;simp at d
   ·rw[(q.2 c).2]at e;simp at e
   ·simpa using d
   ·simpa using e
   ·rw[c]at M;simp at M
  ·have:k=j.length:=by omega
   rwa [this,br]at K
  ·rintro j o t n i a f s U ⟨rfl,rfl,rfl,rfl,rfl,rfl,rfl,v,k,rfl,R,rfl⟩;have F:=λh=>Cq j (last:=gv f) (k:=k) h;have W:=EG j (gv f) k;simp only[aF];refine⟨λh=>?_,λh=>?_⟩
   ·have l:k<(gv f).length:=by omega
    have y:=F l;generalize(gv f).getD k (0,[],[],())=H at*;refine⟨by omega,N,λg=>⟨by omega,by unfold ac;omega,⟨⟨rfl,rfl,rfl,rfl,rfl,rfl,rfl,v,k+1,rfl,l,?_⟩,by omega⟩⟩,λg=>⟨by unfold ac;omega,⟨⟨rfl,rfl,rfl,rfl,rfl,rfl,rfl,v,k+1,rfl,l,?_⟩,by omega⟩⟩⟩
    ·rw[y,af (by simpa using g)]
    ·rw[y,am (by simpa using g),aW]
   ·have:k=(gv f).length:=by omega
    rw[this,br];refine⟨λg=>hB _ ⟨λq=>by simp at q,λq=>?_⟩,λg=>⟨⟨rfl,rfl,rfl,rfl,rfl,v,rfl,?_,0,rfl,aq _,by simp⟩,?_⟩⟩
    ·rw[q.2]at g;simp at g
    ·have:(((rF j (gv f)).length:Nat):Int)=o.length:=by simpa using g
     exact Int.ofNat.inj this
    ·rintro U o n i a f s ⟨rfl,rfl,rfl,rfl,rfl,v,rfl,w,r,rfl,hr,A⟩;simp only[aF];refine⟨λg=>?_,λg=>hB _ ⟨λ_=>⟨v,?_⟩,λ_=>rfl⟩⟩
     ·have u:r<o.length:=by omega
      have G:=EE (λx:Fk=>x.1) ((0,0,()):Fk) (0:Int) u;refine⟨by omega,by omega,λc=>hB _ ⟨λq=>by simp at q,λq=>?_⟩,λc=>⟨by unfold ac;omega,⟨⟨rfl,rfl,rfl,rfl,rfl,v,rfl,w,r+1,rfl,u,?_⟩,by omega⟩⟩⟩
      ·rw[q.2,G]at c;simp at c
      ·rw[cQ (z:=((0,0,()):Fk)) u,cQ (z:=(0:Int)) (by omega),A,dn];have:(o.getD r (0,0,())).1=(rF j (gv f)).getD r 0:=by simpa using c
       rw[<-this];rfl
     ·have G:r=o.length:=by omega
      rw[G,br]at A;rw[bf (by omega)]at A;exact A)
end Go.Tp
