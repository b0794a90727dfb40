/- A part of the proof of TopAuthenticSaid: no conditions; packed by a program of our own. -/
import Derived.Test.YtgpideichgnmhaaGreatPaaf
import Derived.Test.YtgpideichgnmhaaGreatProg
import Derived.Laws.Bits128
import Derived.Laws.BitsLemmas
open And renaming intro→bQ
open BitVec renaming ofInt→bc,ofNat→af,setWidth→aw
open Bool renaming and_eq_true→aF,true_and→fL,not_eq_true'→aO,not_eq_true→bX,not_eq_false'→aJ,not_eq_false→bR
open Go.IntKind renaming wrap_i64→dj,i64→gq
open Int renaming toNat_natCast→aG,toNat_of_nonneg→pm,eq_ofNat_of_zero_le→cq
open List renaming map_cons→aX,replicate→ak,length_append→aa,length_cons→bd,mem_append→aY,drop_of_length_le→bw,take_of_length_le→ba,append_nil→bj,getElem?_eq_getElem→ap,getD→bv,length_take→bi,length→ac,getD_eq_getElem?_getD→az,getElem_mem→rW,length_drop→cD,take→cS,length_singleton→bb,sum_cons→cY,take_add_one→eQ,take_length→bp
open Nat renaming min_eq_left→ee,add_comm→fj,le_refl→aC,le_trans→bA,zero_le→aq
open Option renaming getD_some→cZ
namespace Go.Tp
open Go.Hv Go.Proofs Go.RowKit
set_option maxRecDepth 100000
set_option maxHeartbeats 0
abbrev BL:=List (BitVec 8)
abbrev tB:Ty:= .sl .u8
theorem sE:Tryz.prog.follows .mixedOrders=true:=by kernel_rfl
theorem gs0:aP Tryz.prog []:=λ_ h=>by simp at h
theorem tl0:bg []:=λ_ h=>by simp at h
def KK(T:bu):Prop:=aP Tryz.prog T∧bg T
theorem oE{A:Prop}(B:Prop)(e:A=B)(b:B):A:=e▸b
def Br(c:Bool)(A B:Prop):Prop:=(c=true→A)∧(c=false→B)
theorem CH{P:Program}{f:FuncId}{n:Nat}(h:CE P f n=true):eL P f=true:=by
 unfold CE at h;exact(aF _ _▸h).1
theorem kC{T:bu}{n:FuncId}{c:Ct}(K:KK T)(A:c.inp.den→dG)(B:Prop)(e:hJ Tryz.prog T n c A=B)(b:B)(h:CE Tryz.prog n c.nargs=true:=by kernel_rfl):bO Tryz.prog n c:=dq K.1 K.2 sE h (oE B e b)
theorem kA{T:bu}{n:FuncId}{c:Ct}(K:KK T)(A:c.inp.den→dG)(B:Prop)(e:hJ Tryz.prog T n c A=B)(b:B)(h:CE Tryz.prog n c.nargs=true:=by kernel_rfl)(l:∀x,Live (c.spec x):=by exact λ_=>bH):KK ((n,[c])::T):=⟨aP.add K.1 (CH h) (bo (kC K A B e b h)),bg.add K.2 (bo l)⟩
def sB(i:Nat):Nat×Bool×List IP:=(i,false,[.d tB])
def sI(i:Nat):Nat×Bool×List IP:=(i,false,[.d .i64])
def sO(i j:Nat):Nat×Bool×List IP:=(i,false,[.own j])
def cB:Option CP:=some (.sl .u8)
def oB:cc:=⟨[sO 0 0],[cB]⟩
def ll:Nat→Nat→BL
 |0,n=>[af 8 n]
 |k+1,n=>if n<128 then[af 8 n]else af 8 (n % 128+128)::ll k (n/128)
def vn(n:Int):BL:=ll 6 (min (max n 0) 1099511627776).toNat
theorem Wt{n:Int}(h:0≤n):bits .or .i64 (bits .and .i64 n 127) 128=n % 128+128:=by
 rw[i64_and127];have a:bits .or .i64 (n % 128) 128=bits .or .i64 128 (n % 128):=by simp only[bits,BitVec.or_comm]
 rw[a,bits_join .i64 63 (by decide) (λm b c=>by rw[dj];omega) 7 128 (n % 128) (by decide) (by decide) (by decide) (by omega) (by omega) (by omega)];omega
theorem ofI{n:Int}(h:0≤n):bc 8 n=af 8 n.toNat:=by
 obtain⟨m,rfl⟩:=cq h;rfl
theorem KT{n:Int}(h0:0≤n)(h:n≤127)(k:Nat):ll k n.toNat=[bc 8 n]:=by
 rw[ofI h0];cases k with
 |zero=>rfl
 |succ k=>simp only[ll];rw[an (by omega)]
theorem KU{n:Int}{k:Nat}{b r:BL}(h0:0≤n)(h:127<n)(f:n<128^(k+1))(g:b++ll k n.toNat=r):∃a,k=a+1∧n.fdiv 128<128^(a+1)∧0≤n.fdiv 128∧
 b++[bc 8 (bits .or .i64 (bits .and .i64 n 127) 128)]++ll a (n.fdiv 128).toNat=r∧(n.fdiv 128).toNat<n.toNat:=by
 obtain⟨m,rfl⟩:=cq h0;have e:((m:Int)).fdiv 128=((m/128:Nat):Int):=by rw[Int.fdiv_eq_ediv_of_nonneg _ (by decide)];omega
 have c:m<128^(k+1):=by exact_mod_cast f
 cases k with
 |zero=>omega
 |succ k=>
  refine⟨k,rfl,?_,by omega,?_,by omega⟩
  ·rw[e];have:m/128<128^(k+1):=Nat.div_lt_of_lt_mul (by rw[Nat.mul_comm,←Nat.pow_succ];exact c)
   exact_mod_cast this
  ·rw[Wt h0,←g,e];simp only[aG,ll];rw[ag (by omega),ofI (by omega)];have:((m:Int) % 128+128).toNat=m % 128+128:=by omega
   rw[this];simp
def nuC:Ct:=⟨2,⟨[sB 0,sI 1],[]⟩,[oB],λx=>one (x.1.length≤1099511627776) (x.1++vn x.2.1,())⟩
def nuP:cc:=⟨[sI 1,(5,false,[.own 0])],[some (.sl .u8)]⟩
def KW(b:BL)(n m:Int)(c:BL):Prop:=∃k,m<128^(k+1)∧k≤6∧0≤m∧c++ll k m.toNat=b++vn n∧c.length+k≤b.length+6
def nuA(x:nuC.inp.den):dG:=⟨[],[],[(1,0,bM nuP (λy=>KW x.1 x.2.1 y.1 y.2.1) λy=>y.1.toNat)],[],0⟩
theorem xe{b c:BL}{n m:Int}(h:KW b n m c)(a:127<m):KW b n (m.fdiv 128) (c++[bc 8 (bits .or .i64 (bits .and .i64 m 127) 128)])∧(m.fdiv 128).toNat<m.toNat:=by
 obtain⟨k,e,q,f,g,r⟩:=h;obtain⟨i,rfl,j,l,o,p⟩:=KU f a e g;exact⟨⟨i,j,by omega,l,o,by simp;omega⟩,p⟩
theorem xf{b c:BL}{n m:Int}(h:KW b n m c)(a:m≤127):c++[bc 8 m]=b++vn n:=by
 obtain⟨k,g,i,e,f,j⟩:=h;rw[←f,KT e a]
theorem CI(b:BL)(n:Int):KW b n (min (max n 0) 1099511627776) b:=⟨6,by omega,by omega,by omega,rfl,by omega⟩
abbrev E0(v:BL×Unit):aN nuC.out:=⟨0,v⟩
def Wu:bu:=(123,[nuC])::[]
theorem a24:KK Wu:=kA ⟨gs0,tl0⟩ nuA (∀(b:BL)(a:Int)(Q:aN nuC.out→Prop),let g:Prop:=127<min (max a 0) 1099511627776;let z:=min (max a 0) 1099511627776;let e:=bits BinOp.or gq (bits BinOp.and gq z 127) 128;(Tr.need (b.length≤1099511627776) (Tr.leaf (E0 (b++vn a,())))).sat Q→true=true∧((0+b.length)*1≤140737488355328∧Br (decide g) ((b.length+[bc 8 e].length)*1≤140737488355328∧Is (KW b a (z.fdiv 128) (b++[bc 8 e]))) ((b.length+[bc 8 z].length)*1≤140737488355328∧Q (E0 (b++[bc 8 z],()))))∧∀(c:Int)(d:BL),let f:=bits BinOp.or gq (bits BinOp.and gq c 127) 128;KW b a c d→Br (decide (127<c)) ((d.length+[bc 8 f].length)*1≤140737488355328∧Is (KW b a (c.fdiv 128) (d++[bc 8 f])∧(c.fdiv 128).toNat<c.toNat)) ((d.length+[bc 8 c].length)*1≤140737488355328∧Q (E0 (d++[bc 8 c],())))) (by kernel_rfl) (by
 conv=>zeta
 unfold Br;intro b n Q ⟨l,f⟩;have g:=CI b n;have i:∀{m c},KW b n m c→c.length≤b.length+6:=λ⟨_,_,_,_,_,q⟩=>by omega
 have j:∀y:BL,y=b++vn n→Q ⟨0,(y,())⟩:=λy e=>by rw[e];exact f
 clear f;refine⟨rfl,⟨by omega,λh=>⟨by simp;omega,⟨(xe g (by simpa using h)).1⟩⟩,λh=>⟨by simp;omega,j _ (xf g (by simpa using h))⟩⟩,λm c a=>⟨λh=>⟨?_,⟨xe a (by simpa using h)⟩⟩,λh=>⟨?_,j _ (xf a (by simpa using h))⟩⟩⟩
 ·have:=i a;simp;omega
 ·have:=i a;simp;omega)
def rH:List (Option CP):=[some (.cells [.d tB, .d .i64, .d .bl, .d .i64])]
def sP(i:Nat):Nat×Bool×List IP:=(i,false,[.ptr 0 0])
def sL(i:Nat):Nat×Bool×List IP:=(i,false,[.d .bl])
abbrev bP(b:BL)(a:Int):Prop:=b.length≤1099511627776∧0≤a∧a≤b.length
def txC:Ct:=⟨2,⟨[sB 0,sB 1],[]⟩,[oB],λx=>one (x.1.length+x.2.1.length≤1099511627776) (x.1++(vn x.2.1.length++x.2.1),())⟩
theorem AV:∀(k n:Nat),(ll k n).length≤k+1
 |0,_=>by simp[ll]
 |k+1,n=>by
  simp only[ll];split
  ·simp
  ·have:=AV k (n/128);simp;omega
theorem bz(n:Int):(vn n).length≤7:=AV 6 _
abbrev MQ(v:BL×Unit):aN txC.out:=⟨0,v⟩
def Wv:bu:=(110,[txC])::Wu
theorem a25:KK Wv:=kA a24 (cv txC 0) (∀(b a:BL)(Q:aN txC.out→Prop),(Tr.need (b.length+a.length≤1099511627776) (Tr.leaf (MQ (b++(vn (↑a.length:Int)++a),())))).sat Q→b.length≤1099511627776∧((b++vn (↑a.length:Int)).length+a.length)*1≤140737488355328∧Q (MQ (b++vn (↑a.length:Int)++a,()))) (by kernel_rfl) (by
 intro b x Q ⟨f,a⟩;have:=bz x.length;have c:∀y:BL,y=b++(vn x.length++x)→Q ⟨0,(y,())⟩:=λy e=>by rw[e];exact a
 clear a;refine⟨by omega,by simp;omega,c _ (by simp)⟩)
def wrC:Ct:=⟨1,⟨[sB 0],[]⟩,[⟨[sP 0],rH⟩],λx=>one (x.1.length≤1099511627776) (x.1,0,true,0,())⟩
abbrev Ww(v:BL×Int×Bool×Int×Unit):aN wrC.out:=⟨0,v⟩
def Wx:bu:=(24,[wrC])::Wv
theorem a26:KK Wx:=kA a25 (cv wrC 0) (∀(a:BL)(Q:aN wrC.out→Prop),let z:=Ww (a,0,true,0,());(Tr.need (a.length≤1099511627776) (Tr.leaf z)).sat Q→(0+a.length)*1≤140737488355328∧Q z) (by kernel_rfl) (by
 conv=>zeta
 intro b Q ⟨c,a⟩;exact⟨by omega,a⟩)
def Wy:Ct:=⟨1,⟨[sP 0],rH⟩,[⟨[sI 0],rH⟩],λ(b,a,m,e,_)=>one (bP b a) (b.length-a,b,a,m,e,())⟩
abbrev Wz(v:Int×BL×Int×Bool×Int×Unit):aN Wy.out:=⟨0,v⟩
def WC:bu:=(63,[Wy])::Wx
theorem a27:KK WC:=kA a26 (cv Wy 0) (∀(a:BL)(b:Int)(c:Bool)(d:Int)(Q:aN Wy.out→Prop),(Ct.spec Wy (a,b,c,d,())).sat Q→ae ((↑a.length:Int)-b)∧Q (Wz ((↑a.length:Int)-b,a,b,c,d,()))) (by kernel_rfl) (by
 intro b a m e Q ⟨f,c⟩;exact⟨by unfold ae;omega,c⟩)
def WD:Ct:=⟨1,⟨[sP 0],rH⟩,[⟨[sL 0],rH⟩],λ(b,a,m,e,_)=>one True (m&&e==0,b,a,m,e,())⟩
abbrev MR(v:Bool×BL×Int×Bool×Int×Unit):aN WD.out:=⟨0,v⟩
def WE:bu:=(96,[WD])::WC
theorem a28:KK WE:=kA a27 (cv WD 0) (∀(c:BL)(d:Int)(a:Bool)(b:Int)(Q:aN WD.out→Prop),(Ct.spec WD (c,d,a,b,())).sat Q→Br a (Q (MR (b==0,c,d,a,b,()))) (Q (MR (false,c,d,a,b,())))) (by kernel_rfl) (by
 unfold Br;intro b a m e Q ⟨_,c⟩;cases m<;>exact⟨λh=>by first|exact c|simp at h,λh=>by first|exact c|simp at h⟩)
def WF:Ct:=⟨1,⟨[sP 0],rH⟩,[⟨[sI 0],rH⟩],λ(b,a,m,e,_)=>one True (if m then e else 5,b,a,m,e,())⟩
abbrev MS(v:Int×BL×Int×Bool×Int×Unit):aN WF.out:=⟨0,v⟩
def WG:bu:=(62,[WF])::WE
theorem a29:KK WG:=kA a28 (cv WF 0) (∀(c:BL)(d:Int)(a:Bool)(b:Int)(Q:aN WF.out→Prop),(Ct.spec WF (c,d,a,b,())).sat Q→Br (!a) (Q (MS (5,c,d,a,b,()))) (Q (MS (b,c,d,a,b,())))) (by kernel_rfl) (by
 unfold Br;intro b a m e Q ⟨_,c⟩;cases m<;>exact⟨λh=>by first|exact c|simp at h,λh=>by first|exact c|simp at h⟩)
def dM(b:BL)(a:Int)(m:Bool)(e:Int):Int:=if(if m then e else 5)≠0 then(if m then e else 5)else if 0<(b.length:Int)-a then 4 else 0
def WI:Ct:=⟨1,⟨[sP 0],rH⟩,[⟨[sI 0],rH⟩],λ(b,a,m,e,_)=>one (bP b a) (dM b a m e,b,a,m,e,())⟩
abbrev E5(v:Int×BL×Int×Bool×Int×Unit):aN WI.out:=⟨0,v⟩
def WJ:bu:=(26,[WI])::WG
theorem a3a:KK WJ:=kA a29 (cv WI 0) (∀(a:BL)(b:Int)(c:Bool)(d:Int)(Q:aN WI.out→Prop),let e:=(a,b,c,d,());let z:= !(if c=true then d else 5)==0;(Ct.spec WI (a,b,c,d,())).sat Q→True∧Br z (Q (E5 (if c=true then d else 5,e))) (bP a b∧Br (decide (0<(↑a.length:Int)-b)) (Q (E5 (4,e))) (Q (E5 (0,e))))) (by kernel_rfl) (by
 conv=>zeta
 unfold Br;intro b a m e Q ⟨g,f⟩;have c:∀y:Int,y=dM b a m e→Q ⟨0,(y,b,a,m,e,())⟩:=λy e=>by rw[e];exact f
 clear f;refine⟨trivial,λh=>c _ ?_,λh=>⟨g,λi=>c _ ?_,λi=>c _ ?_⟩⟩<;>clear c<;>grind[dM])
def WK:Ct:=⟨2,⟨[sP 0,sI 1],rH⟩,[⟨[],rH⟩],λ(x,b,a,m,e,_)=>one True (b,a,m,if m&&e==0 then x else e,())⟩
abbrev MT(v:BL×Int×Bool×Int×Unit):aN WK.out:=⟨0,v⟩
def WL:bu:=(61,[WK])::WJ
theorem a3b:KK WL:=kA a3a (cv WK 0) (∀(e:Int)(c:BL)(d:Int)(a:Bool)(b:Int)(Q:aN WK.out→Prop),(Ct.spec WK (e,c,d,a,b,())).sat Q→True∧Br (a&&b==0) (Q (MT (c,d,a,e,()))) (Q (MT (c,d,a,b,())))) (by kernel_rfl) (by
 unfold Br;intro x b a m e Q ⟨_,f⟩;have c:∀y:Int,y=(if m&&e==0 then x else e)→Q ⟨0,(b,a,m,y,())⟩:=λy e=>by rw[e];exact f
 refine⟨trivial,λh=>c _ ?_,λh=>c _ ?_⟩<;>simp[h])
def fy:Nat→Nat→BL→Int×Int×Int
 |_,_,[]=>(0,0,3)
 |m,s,c::r=>
  if 127<c.toNat∧s+1<6 then fy (m+c.toNat % 128*128^s) (s+1) r
  else if 127<c.toNat∨(c.toNat=0∧0<s)then(0,0,5)
  else if 1099511627776<m+c.toNat % 128*128^s then(0,0,6)
  else((m+c.toNat % 128*128^s:Nat),(s+1:Nat),0)
theorem RR(n:Int)(h: -9223372036854775808≤n∧n≤9223372036854775807):IntKind.i64.wrap n=n:=by rw[dj];omega
theorem RS(c:BitVec 8):(c&&&af 8 127).toNat=c.toNat % 128:=by
 rw[BitVec.toNat_and,show(af 8 127).toNat=2^7-1 from rfl,Nat.and_two_pow_sub_one_eq_mod]
theorem KX{m k:Nat}(c:BitVec 8)(l:k<6)(e:m<128^k):bits .or .i64 (m:Int) (IntKind.i64.wrap (((c&&&af 8 127).toNat:Int)*2^(7*k)))=((m+c.toNat % 128*128^k:Nat):Int):=by
 rw[RS];have b:(2:Int)^(7*k)=((128^k:Nat):Int):=by rw[Int.pow_mul];norm_cast
 have f:128^k≤34359738368:=by
  have:k=0∨k=1∨k=2∨k=3∨k=4∨k=5:=by omega
  rcases this with rfl|rfl|rfl|rfl|rfl|rfl<;>decide
 have g:c.toNat % 128<128:=Nat.mod_lt _ (by decide);generalize c.toNat % 128=d at g;generalize 128^k=p at b f e;have n:d*p≤127*34359738368:=Nat.mul_le_mul (by omega) f;have h:((d:Int)*(2:Int)^(7*k))=((d*p:Nat):Int):=by rw[b];push_cast;rfl
 have i:((d*p:Nat):Int) % 2^(7*k)=0:=by rw[b];norm_cast;exact Nat.mul_mod_left _ _
 have j:(m:Int)<2^(7*k):=by rw[b];exact_mod_cast e
 rw[h,RR _ (by omega)];have a:∀x y:Int,bits .or .i64 x y=bits .or .i64 y x:=λx y=>by simp only[bits,BitVec.or_comm]
 rw[a,bits_join .i64 63 (by decide) (λm o q=>RR _ (by omega)) (7*k) ((d*p:Nat):Int) m (by omega) i (by omega) (by omega) j (by omega)]
 push_cast
 exact Int.add_comm _ _
theorem RT{m k:Nat}{b:BL}{j:Nat}(a:j<b.length):fy m k (b.drop j)=
 (if 127<(b.getD j 0).toNat∧k+1<6 then fy (m+(b.getD j 0).toNat % 128*128^k) (k+1) (b.drop (j+1))
 else if 127<(b.getD j 0).toNat∨((b.getD j 0).toNat=0∧0<k)then(0,0,5)
 else if 1099511627776<m+(b.getD j 0).toNat % 128*128^k then(0,0,6)
 else((m+(b.getD j 0).toNat % 128*128^k:Nat),(k+1:Nat),0)):=by
 rw[List.drop_eq_getElem_cons a];simp only[fy,bv,ap a,cZ]
def nxP:cc:=⟨[sP 0,sI 5,sI 6,sI 7],rH⟩
def KY(b:BL)(a:Int)(n s h:Int):Prop:=∃m k:Nat,n=m∧s=k∧h=7*k∧k<6∧m<128^k∧a+k≤b.length∧fy m k (b.drop (a.toNat+k))=fy 0 0 (b.drop a.toNat)
def WM:Ct:=⟨1,⟨[sP 0],rH⟩,[⟨[sI 0,sI 1,sI 2],rH⟩],λ(b,a,m,e,_)=>one (bP b a) ((fy 0 0 (b.drop a.toNat)).1,(fy 0 0 (b.drop a.toNat)).2.1,(fy 0 0 (b.drop a.toNat)).2.2,b,a,m,e,())⟩
def nxA(x:WM.inp.den):dG:=⟨[],[],[(1,0,bM nxP (λy=>(y.2.2.2.1,y.2.2.2.2.1,y.2.2.2.2.2.1,y.2.2.2.2.2.2.1)=(x.1,x.2.1,x.2.2.1,x.2.2.2.1)∧KY x.1 x.2.1 y.1 y.2.1 y.2.2.1) λy=>6-y.2.1.toNat)],[],0⟩
structure NxR(b:BL)(a:Int)(s h:Int)(c:Nat)(v:Int):Prop where
 lt:a+s<b.length
 s0:0≤s∧s<6∧h=7*s
 more:127<c→s+1<6→KY b a v (s+1) (h+7)
 bad:(127<c∧6≤s+1)∨(c=0∧0<s)→fy 0 0 (b.drop a.toNat)=(0,0,5)
 big:c≤127→(c=0→s≤0)→1099511627776<v→fy 0 0 (b.drop a.toNat)=(0,0,6)
 good:c≤127→(c=0→s≤0)→v≤1099511627776→fy 0 0 (b.drop a.toNat)=(v,s+1,0)
theorem xg{b:BL}{a n s h:Int}(u:bP b a)(w:KY b a n s h)(A:s≠b.length-a){c:BitVec 8}(j:b.getD (a+s).toNat 0=c):
 NxR b a s h c.toNat (bits .or .i64 n (IntKind.i64.wrap (((c&&&af 8 127).toNat:Int)*2^h.toNat))):=by
 obtain⟨m,k,rfl,rfl,rfl,x,l,y,f⟩:=w;obtain⟨B,C,D⟩:=u;have q:(a+(k:Int)).toNat=a.toNat+k:=by omega
 have r:(7*(k:Int)).toNat=7*k:=by omega
 have o:a.toNat+k<b.length:=by omega
 rw[q]at j;rw[r,KX _ x l];rw[RT o,j]at f
 have e:m+c.toNat % 128*128^k<128^(k+1):=by
  have:c.toNat % 128<128:=Nat.mod_lt _ (by decide);rw[Nat.pow_succ];generalize 128^k=p at l;have:c.toNat % 128*p≤127*p:=Nat.mul_le_mul (by omega) (aC _);omega
 have g:a+((k+1:Nat):Int)≤b.length:=by omega
 generalize m+c.toNat % 128*128^k=v at f e;generalize c.toNat=c at f;clear l q r j;refine⟨by omega,by omega,λi t=>?_,λi=>?_,λi t z=>?_,λi t z=>?_⟩
 ·refine⟨v,k+1,rfl,by omega,by omega,by omega,e,g,?_⟩;rw[an ⟨i,by omega⟩]at f;exact f
 ·clear e;rw[←f,ag (by omega),an (by omega)]
 ·clear e;rw[←f,ag (by omega),ag (by omega),an (by omega)]
 ·clear e;rw[←f,ag (by omega),ag (by omega),ag (by omega)]
  norm_cast
theorem KZ(b:BL)(a:Int)(c:bP b a):KY b a 0 0 0:=⟨0,0,rfl,rfl,rfl,by omega,by decide,by have:=c.2.2;omega,rfl⟩
theorem E6{b:BL}{a n s h:Int}(c:bP b a)(e:KY b a n s h)(i:s=b.length-a):fy 0 0 (b.drop a.toNat)=(0,0,3):=by
 obtain⟨m,k,rfl,rfl,rfl,j,l,f,g⟩:=e;obtain⟨o,p,q⟩:=c;rw[←g,bw (by omega)];rfl
abbrev nt(v:Int×Int×Int×BL×Int×Bool×Int×Unit):aN WM.out:=⟨0,v⟩
def WN:bu:=(97,[WM])::WL
theorem RU:KK WN:=kA a3b nxA (∀(e:BL)(d:Int)(j:Bool)(k:Int)(Q:aN WM.out→Prop),let l:=(e,d,j,k,());let w:=e.getD (d+0).toNat (af 8 0)==af 8 0;let s:Prop:=127<(e.getD (d+0).toNat (af 8 0)).toNat;let n:=IntKind.i64.wrap ((↑(e.getD (d+0).toNat (af 8 0)&&&af 8 127).toNat:Int)*1);let o:Prop:=1099511627776<bits BinOp.or gq 0 n;let t:Prop:=Br (decide o) (Q (nt (0,0,6,l))) (Q (nt (bits BinOp.or gq 0 n,1,0,l)));(Ct.spec WM (e,d,j,k,())).sat Q→true=true∧(bP e d∧Br (0==(↑e.length:Int)-d) (Q (nt (0,0,3,l))) (ae (d+0)∧(0≤d+0∧d+0<(↑e.length:Int))∧Br (decide s) (Is ((e,d,j,k)=(e,d,j,k)∧KY e d (bits BinOp.or gq 0 n) 1 7)) (Br (decide s) (Q (nt (0,0,5,l))) (Br w t t))))∧∀(i b f:Int)(c:BL)(a:Int)(g:Bool)(h:Int),let p:=b==(↑c.length:Int)-a;let m:=(c,a,g,h,());let x:=c.getD (a+b).toNat (af 8 0)==af 8 0;let u:Prop:=127<(c.getD (a+b).toNat (af 8 0)).toNat;let q:=IntKind.i64.wrap ((↑(c.getD (a+b).toNat (af 8 0)&&&af 8 127).toNat:Int)*2^min f.toNat 64);let r:Prop:=1099511627776<bits BinOp.or gq i q;let z:Prop:=Br (decide r) (Q (nt (0,0,6,m))) (Q (nt (bits BinOp.or gq i q,b+1,0,m)));let v:Prop:=Br (decide u) (Q (nt (0,0,5,m))) (Br x (Br (decide (1<b+1)) (Q (nt (0,0,5,m))) z) z);(c,a,g,h)=(e,d,j,k)∧KY e d i b f→bP c a∧Br p (Q (nt (0,0,3,m))) (ae (a+b)∧(0≤a+b∧a+b<(↑c.length:Int))∧decide (0≤f)=true∧ae (b+1)∧ae (f+7)∧Br (decide u) (Br (decide (b+(1:Int)<6)) (Is (((c,a,g,h)=(e,d,j,k)∧KY e d (bits BinOp.or gq i q) (b+1) (f+7))∧6-(b+1).toNat<6-b.toNat)) v) v)) (by kernel_rfl) (by
 conv=>zeta
 unfold Br;intro b a w e Q ⟨m,o⟩;have f:∀y:Int×Int×Int,fy 0 0 (b.drop a.toNat)=y→Q ⟨0,(y.1,y.2.1,y.2.2,b,a,w,e,())⟩:=λy e=>by rw[←e];exact o
 clear o
 have p:∀c:BitVec 8,(c==af 8 0)=true↔c.toNat=0:=λc=>by
  rw[aQ];exact⟨λh=>by rw[h];rfl,λh=>BitVec.eq_of_toNat_eq h⟩
 have z:KY b a 0 0 0:=KZ b a m;have g:=m;obtain⟨A,B,C⟩:=m;refine⟨rfl,⟨g,λh=>f (0,0,3) (E6 g z (by simpa using h)),λh=>?_⟩,?_⟩
 ·have r:=xg g z (by simpa using h) (c:=b.getD (a+0).toNat (af 8 0)) rfl;have l:(2:Int)^(0:Int).toNat=1:=rfl;rw[l]at r;have x:=r.lt;generalize b.getD (a+0).toNat (af 8 0)=c at r;generalize bits .or .i64 0 (IntKind.i64.wrap (((c&&&af 8 127).toNat:Int)*1))=v at r;refine⟨by unfold ae;omega,by omega,?_⟩;clear h z
  (repeat' (first|apply bQ|intro _))<;>(try simp only[ah,←bX,p]at*)<;>first
   |(exact⟨⟨trivial,r.more (by omega) (by omega)⟩⟩)
   |(exact f (0,0,5) (r.bad (by omega)))
   |(exact f (0,0,6) (r.big (by omega) (by omega) (by omega)))
   |(exact f (_,_,0) (r.good (by omega) (by omega) (by omega)))
   |omega
 ·clear z;intro n s h q t D E i;obtain⟨j,i⟩:=i;simp only[Prod.mk.injEq]at j;obtain⟨rfl,rfl,rfl,rfl⟩:=j;refine⟨g,λh=>f (0,0,3) (E6 g i (by simpa using h)),λu=>?_⟩;have r:=xg g i (by simpa using u) (c:=q.getD (t+s).toNat (af 8 0)) rfl;have x:=r.lt;obtain⟨F,G,H⟩:=r.s0;have l:min h.toNat 64=h.toNat:=by omega
  rw[l];generalize q.getD (t+s).toNat (af 8 0)=c at r;generalize bits .or .i64 n (IntKind.i64.wrap (((c&&&af 8 127).toNat:Int)*2^h.toNat))=v at r;refine⟨by unfold ae;omega,by omega,by simp;omega,by unfold ae;omega,by unfold ae;omega,?_⟩;clear u i l
  (repeat' (first|apply bQ|intro _))<;>(try simp only[ah,←bX,p]at*)<;>first
   |(exact⟨⟨⟨trivial,r.more (by omega) (by omega)⟩,by omega⟩⟩)
   |(exact f (0,0,5) (r.bad (by omega)))
   |(exact f (0,0,6) (r.big (by omega) (by omega) (by omega)))
   |(exact f (_,_,0) (r.good (by omega) (by omega) (by omega)))
   |omega)
theorem xh:∀(l:BL)(m s:Nat),(fy m s l).2.2=0→((s:Int)<(fy m s l).2.1∧(fy m s l).2.1≤s+l.length)∧0≤(fy m s l).1∧(fy m s l).1≤1099511627776
 |[],m,s,h=>by simp[fy]at h
 |c::r,m,s,h=>by
  simp only[fy]at h⊢;split
  ·rename_i a;rw[an a]at h;have:=xh r _ _ h;simp only[bd]
   push_cast at this⊢
   omega
  ·rename_i a;rw[ag a]at h;split
   ·rename_i b;rw[an b]at h;simp at h
   ·rename_i b;rw[ag b]at h;split
    ·rename_i e;rw[an e]at h;simp at h
    ·rename_i e;have f:((m+c.toNat % 128*128^s:Nat):Int)≤1099511627776:=by omega
     have g:(0:Int)≤((m+c.toNat % 128*128^s:Nat):Int):=by omega
     refine⟨⟨?_,?_⟩,g,f⟩
     ·show(s:Int)<((s+1:Nat):Int);omega
     ·show((s+1:Nat):Int)≤_;simp only[bd];omega
def cR(b:BL)(a:Int)(m:Bool)(e lo hi:Int):Int×Int×Int:=
 if(m&&e==0)=true then
  if(fy 0 0 (b.drop a.toNat)).2.2=0 then
   if(fy 0 0 (b.drop a.toNat)).1<lo∨hi<(fy 0 0 (b.drop a.toNat)).1 then(0,a,6)
   else((fy 0 0 (b.drop a.toNat)).1,a+(fy 0 0 (b.drop a.toNat)).2.1,e)
  else(0,a,(fy 0 0 (b.drop a.toNat)).2.2)
 else(0,a,e)
def VH:Ct:=⟨3,⟨[sP 0,sI 1,sI 2],rH⟩,[⟨[sI 0],rH⟩],λ(c,f,b,a,m,e,_)=>one (bP b a) ((cR b a m e c f).1,b,(cR b a m e c f).2.1,m,(cR b a m e c f).2.2,())⟩
abbrev AW(v:Int×BL×Int×Bool×Int×Unit):aN VH.out:=⟨0,v⟩
theorem MU:bO Tryz.prog 52 VH:=kC RU (cv VH 0) (∀(e f:Int)(b:BL)(a:Int)(c:Bool)(d:Int)(Q:aN VH.out→Prop),let g:=AW (0,b,a,c,6,());let z:=fy 0 0 (List.drop a.toNat b);let h:Prop:=Br (!z.2.2==0) (Q (AW (0,b,a,c,z.2.2,()))) (ae (a+z.2.1)∧Q (AW (z.1,b,a+z.2.1,c,d,())));(Ct.spec VH (e,f,b,a,c,d,())).sat Q→True∧Br (!(c&&d==0)) (Q (AW (0,b,a,c,d,()))) (bP b a∧Br (z.2.2==0) (Br (decide (z.1<e)) (Q g) (Br (decide (f<z.1)) (Q g) h)) h)) (by kernel_rfl) (by
 conv=>zeta
 unfold Br;intro f i b a m e Q ⟨p,n⟩;have c:∀y:Int×Int×Int,cR b a m e f i=y→Q ⟨0,(y.1,b,y.2.1,m,y.2.2,())⟩:=λy e=>by rw[←e];exact n
 clear n;have j:=xh (b.drop a.toNat) 0 0;obtain⟨q,r,s⟩:=p;rw[cD]at j;generalize l:fy 0 0 (b.drop a.toNat)=g at j;have o:cR b a m e f i=if(m&&e==0)=true then if g.2.2=0 then if g.1<f∨i<g.1 then(0,a,6)else(g.1,a+g.2.1,e)else(0,a,g.2.2)else(0,a,e):=by rw[cR,l]
 rw[o]at c;clear o;refine⟨trivial,λh=>c (0,a,e) (ag (by rw[aO]at h;rw[h];decide)),λh=>⟨⟨q,r,s⟩,?_⟩⟩;rw[aJ]at h;rw[an h]at c;clear h
 (repeat' (first|apply bQ|intro _))<;>(try simp only[ah,aj,aQ,ax,aO,aJ]at*)<;>first
  |(exact c (0,a,6) (by grind))
  |(exact c (0,a,g.2.2) (by grind))
  |(exact c (g.1,a+g.2.1,e) (by grind))
  |(have:=j (by assumption);omega)
  |(exfalso;omega))
def WO:bu:=(52,[VH])::WN
theorem a3c:KK WO:=⟨aP.add RU.1 (by kernel_rfl) (bo MU),bg.add RU.2 (bo (λ_=>bH))⟩
def ya(b:BL)(a:Int)(m:Bool)(e n:Int):BL×Int×Int:=
 if(m&&e==0)=true then
  if n<1 then([],a,e)else if(b.length:Int)-a<n then([],a,3)else((b.take (a+n).toNat).drop a.toNat,a+n,e)
 else([],a,e)
def WP:Ct:=⟨2,⟨[sP 0,sI 1],rH⟩,[⟨[sO 0 1],rH++[cB]⟩],λ(n,b,a,m,e,_)=>one (bP b a) (b,(ya b a m e n).2.1,m,(ya b a m e n).2.2,(ya b a m e n).1,())⟩
abbrev E7(v:BL×Int×Bool×Int×BL×Unit):aN WP.out:=⟨0,v⟩
def WQ:bu:=(98,[WP])::WO
theorem RV:KK WQ:=kA a3c (cv WP 0) (∀(b:Int)(c:BL)(a:Int)(d:Bool)(e:Int)(Q:aN WP.out→Prop),let f:=(a+b).toNat-a.toNat;let z:=E7 (c,a,d,e,[],());(Ct.spec WP (b,c,a,d,e,())).sat Q→True∧Br (!(d&&e==0)) (Q z) (Br (decide (b<1)) (Q z) (bP c a∧Br (decide ((↑c.length:Int)-a<b)) (Q (E7 (c,a,d,3,[],()))) (ae (a+b)∧(0≤a∧a≤a+b∧a+b≤(↑c.length:Int))∧(0+(cS f (List.drop a.toNat c)).length)*1≤140737488355328∧ae (a+b)∧Q (E7 (c,a+b,d,e,cS f (List.drop a.toNat c),())))))) (by kernel_rfl) (by
 conv=>zeta
 unfold Br;intro n b a m e Q ⟨j,i⟩;have c:∀y:BL×Int×Int,ya b a m e n=y→Q ⟨0,(b,y.2.1,m,y.2.2,y.1,())⟩:=λy e=>by rw[←e];exact i
 clear i;obtain⟨l,o,p⟩:=j;unfold ya at c;refine⟨trivial,λh=>c ([],a,e) (ag (by rw[aO]at h;rw[h];decide)),λh=>?_⟩;rw[aJ]at h;rw[an h]at c;clear h;refine⟨λf=>c _ (by rw[an (by simpa using f)]),λf=>⟨⟨l,o,p⟩,λg=>c ([],a,3) (by rw[ag (by simpa using f),an (by simpa using g)]),λg=>?_⟩⟩;simp only[aj]at f g;refine⟨by unfold ae;omega,by omega,by simp;omega,by unfold ae;omega,c (_,a+n,e) ?_⟩;rw[ag f,ag g,List.drop_take])
def gj(b:BL)(a:Int)(m:Bool)(e n:Int):BL×Int×Int:=
 if(m&&e==0)=true then
  if(fy 0 0 (b.drop a.toNat)).2.2=0 then
   if max n 0<(fy 0 0 (b.drop a.toNat)).1 then([],a,2)
   else if(b.length:Int)-a-(fy 0 0 (b.drop a.toNat)).2.1<(fy 0 0 (b.drop a.toNat)).1 then([],a,3)
   else ya b (a+(fy 0 0 (b.drop a.toNat)).2.1) m e (fy 0 0 (b.drop a.toNat)).1
  else([],a,(fy 0 0 (b.drop a.toNat)).2.2)
 else([],a,e)
def VI:Ct:=⟨2,⟨[sP 0,sI 1],rH⟩,[⟨[sO 0 1],rH++[cB]⟩],λ(n,b,a,m,e,_)=>one (bP b a) (b,(gj b a m e n).2.1,m,(gj b a m e n).2.2,(gj b a m e n).1,())⟩
abbrev xi(v:BL×Int×Bool×Int×BL×Unit):aN VI.out:=⟨0,v⟩
theorem MV:bO Tryz.prog 53 VI:=kC RV (cv VI 0) (∀(e:Int)(a:BL)(b:Int)(c:Bool)(d:Int)(Q:aN VI.out→Prop),let f:=fy 0 0 (List.drop b.toNat a);let i:Prop:=(↑a.length:Int)-b-f.2.1<f.1;let g:=ya a (b+f.2.1) c d f.1;let z:Prop:=Br (!f.2.2==0) (Q (xi (a,b,c,f.2.2,[],()))) (ae (b+f.2.1)∧bP a (b+f.2.1)∧Q (xi (a,g.2.1,c,g.2.2,g.1,())));let h:Prop:=Br (f.2.2==0) (bP a b∧ae ((↑a.length:Int)-b-f.2.1)∧Br (decide i) (Q (xi (a,b,c,3,[],()))) z) z;(Ct.spec VI (e,a,b,c,d,())).sat Q→True∧Br (!(c&&d==0)) (Q (xi (a,b,c,d,[],()))) (bP a b∧Br (f.2.2==0) (Br (decide (max e 0<f.1)) (Q (xi (a,b,c,2,[],()))) h) h)) (by kernel_rfl) (by
 conv=>zeta
 unfold Br;intro n b a m e Q ⟨j,l⟩;have c:∀y:BL×Int×Int,gj b a m e n=y→Q ⟨0,(b,y.2.1,m,y.2.2,y.1,())⟩:=λy e=>by rw[←e];exact l
 clear l;have f:=xh (b.drop a.toNat) 0 0;have o:=j;obtain⟨q,r,s⟩:=j;rw[cD]at f;generalize i:fy 0 0 (b.drop a.toNat)=g at f;have p:gj b a m e n=if(m&&e==0)=true then if g.2.2=0 then if max n 0<g.1 then([],a,2)else if(b.length:Int)-a-g.2.1<g.1 then([],a,3)else ya b (a+g.2.1) m e g.1 else([],a,g.2.2)else([],a,e):=by rw[gj,i]
 rw[p]at c;clear p;refine⟨trivial,λh=>c ([],a,e) (ag (by rw[aO]at h;rw[h];decide)),λh=>⟨o,?_⟩⟩;rw[aJ]at h;rw[an h]at c;clear h
 (repeat' (first|exact o|apply bQ|intro _))<;>(try simp only[ah,aj,aQ,ax,aO,aJ]at*)<;>first
  |(exact c ([],a,2) (by grind))
  |(exact c ([],a,3) (by grind))
  |(exact c ([],a,g.2.2) (by grind))
  |(exact c (ya b (a+g.2.1) m e g.1) (by grind))
  |(unfold ae;have:=f (by assumption);omega)
  |(have:=f (by assumption);omega)
  |(exfalso;omega))
def WR:bu:=(53,[VI])::WQ
theorem a3d:KK WR:=⟨aP.add RV.1 (by kernel_rfl) (bo MV),bg.add RV.2 (bo (λ_=>bH))⟩
def WS:Ct:=⟨1,⟨[sP 0],rH⟩,[⟨[sL 0],rH⟩],λ(b,a,m,e,_)=>one (bP b a) ((cR b a m e 0 1).1==1,b,(cR b a m e 0 1).2.1,m,(cR b a m e 0 1).2.2,())⟩
abbrev WT(v:Bool×BL×Int×Bool×Int×Unit):aN WS.out:=⟨0,v⟩
def WU:bu:=(221,[WS])::WR
theorem a3e:KK WU:=kA a3d (cv WS 0) (∀(a:BL)(b:Int)(c:Bool)(d:Int)(Q:aN WS.out→Prop),let z:=cR a b c d 0 1;(Ct.spec WS (a,b,c,d,())).sat Q→bP a b∧Q (WT (z.1==1,a,z.2.1,c,z.2.2,()))) (by kernel_rfl) (by
 conv=>zeta
 intro b a m e Q ⟨c,f⟩;exact⟨c,f⟩)
def WV:Ct:=⟨2,⟨[sB 0,sL 1],[]⟩,[oB],λ(b,f,_)=>one (b.length≤1099511627776) (b++vn (if f then 1 else 0),())⟩
abbrev MW(v:BL×Unit):aN WV.out:=⟨0,v⟩
def WW:bu:=(158,[WV])::WU
theorem a3f:KK WW:=kA a3e (cv WV 0) (∀(a:BL)(b:Bool)(Q:aN WV.out→Prop),(Ct.spec WV (a,b,())).sat Q→Br b (a.length≤1099511627776∧Q (MW (a++vn 1,()))) (a.length≤1099511627776∧Q (MW (a++vn 0,())))) (by kernel_rfl) (by
 unfold Br;intro b f Q ⟨a,c⟩;cases f<;>exact⟨λh=>by first|exact⟨a,c⟩|simp at h,λh=>by first|exact⟨a,c⟩|simp at h⟩)
def dx(n:Int):BL:=(List.range 8).map λi=>aw 8 (bc 64 n>>>(8*i))
theorem eb(n:Int):(dx n).length=8:=by simp[dx]
def WX:Ct:=⟨1,⟨[sI 0],[]⟩,[oB],λx=>one True (dx x.1,())⟩
abbrev WY(v:BL×Unit):aN WX.out:=⟨0,v⟩
def WZ:bu:=(144,[WX])::WW
theorem a3g:KK WZ:=kA a3f (cv WX 9) (∀(a:Int)(Q:aN WX.out→Prop),let i:=bc 64 a>>>56;let h:=bc 64 a>>>48;let g:=bc 64 a>>>40;let f:=bc 64 a>>>32;let e:=bc 64 a>>>24;let c:=bc 64 a>>>16;let b:=bc 64 a>>>8;let z:=bc 64 a>>>0;(Ct.spec WX (a,())).sat Q→(0+[aw 8 z].length)*1≤140737488355328∧([aw 8 z].length+[aw 8 b].length)*1≤140737488355328∧(([aw 8 z]++[aw 8 b]).length+[aw 8 c].length)*1≤140737488355328∧(([aw 8 z]++[aw 8 b]++[aw 8 c]).length+[aw 8 e].length)*1≤140737488355328∧(([aw 8 z]++[aw 8 b]++[aw 8 c]++[aw 8 e]).length+[aw 8 f].length)*1≤140737488355328∧(([aw 8 z]++[aw 8 b]++[aw 8 c]++[aw 8 e]++[aw 8 f]).length+[aw 8 g].length)*1≤140737488355328∧(([aw 8 z]++[aw 8 b]++[aw 8 c]++[aw 8 e]++[aw 8 f]++[aw 8 g]).length+[aw 8 h].length)*1≤140737488355328∧(([aw 8 z]++[aw 8 b]++[aw 8 c]++[aw 8 e]++[aw 8 f]++[aw 8 g]++[aw 8 h]).length+[aw 8 i].length)*1≤140737488355328∧Q (WY ([aw 8 z]++[aw 8 b]++[aw 8 c]++[aw 8 e]++[aw 8 f]++[aw 8 g]++[aw 8 h]++[aw 8 i],()))) (by kernel_rfl) (by
 conv=>zeta
 intro n Q ⟨_,a⟩;have b:∀y:BL,y=dx n→Q ⟨0,(y,())⟩:=λy e=>by rw[e];exact a
 clear a;simp only[aa,bb];refine⟨by omega,by omega,by omega,by omega,by omega,by omega,by omega,by omega,b _ rfl⟩)
abbrev CJ:Ty:= .pr .u8 (.pr (.sl tB) .un)
abbrev Tm:=BitVec 8×List BL×Unit
def D3(l:List BL):BL:=(l.map λp=>dx p.length++p).flatten
def tN(t:Tm):BL:=t.1::D3 t.2.1
def lp(l:List BL):Nat:=(l.map λp=>p.length+8).sum
def kyC:Ct:=⟨1,⟨[(0,true,[.d CJ])],[]⟩,[⟨[(0,false,[.d .st])],[]⟩],λx=>one (lp x.1.2.1≤1099511627776) (tN x.1,())⟩
def kyP:cc:=⟨[(3,false,[.own 0]),(10,false,[.d (.sl tB)]),sI 11,sI 12],[cB]⟩
def kyI(t:Tm)(l:List BL)(n i:Int)(b:BL):Prop:=l=t.2.1∧n=l.length∧∃k:Nat,i=k∧k≤l.length∧b=t.1::D3 (l.take k)
def kyA(x:kyC.inp.den):dG:=⟨[(3,bM kyP (λy=>kyI x.1 y.1 y.2.1 y.2.2.1 y.2.2.2.1) λy=>(y.2.1-y.2.2.1).toNat)],[],[],[],0⟩
theorem E8(l:List BL):∀k,lp (l.take k)≤lp l:=by
 induction l with
 |nil=>intro k;simp
 |cons a r b=>intro k;cases k with
  |zero=>simp[lp]
  |succ k=>have:=b k;simp only[lp,List.take_succ_cons,aX,cY]at this⊢;omega
theorem E9(l:List BL):l.length≤lp l:=by
 induction l with
 |nil=>simp
 |cons a r b=>simp only[lp,aX,cY,bd]at b⊢;omega
theorem AX:∀l:List BL,(D3 l).length=lp l
 |[]=>rfl
 |a::r=>by have:=AX r;simp only[D3,lp,aX,List.flatten_cons,aa,cY,eb]at this⊢;omega
theorem xj{l:List BL}{k:Nat}(h:k<l.length):D3 (l.take (k+1))=D3 (l.take k)++dx (l.getD k []).length++l.getD k []:=by
 have:l.take (k+1)=l.take k++[l.getD k []]:=by
  rw[eQ,ap h];simp[bv,ap h]
 rw[this];simp[D3]
abbrev MX(v:BL×Unit):aN kyC.out:=⟨0,v⟩
def W2:bu:=(102,[kyC])::WZ
theorem a3h:KK W2:=kA a3g kyA (∀(b:Tm)(Q:aN kyC.out→Prop),(Tr.need (lp b.2.1≤1099511627776) (Tr.leaf (MX (tN b,())))).sat Q→Is (kyI b b.2.1 (↑(ac b.2.1):Int) 0 [b.1])∧∀(c:List BL)(d a:Int)(e:BL),let z:=c.getD a.toNat [];kyI b c d a e→Br (decide (a<d)) ((0≤a∧a<(↑c.length:Int))∧True∧(e.length+ac (dx (↑z.length:Int)))*1≤140737488355328∧((e++dx (↑z.length:Int)).length+z.length)*1≤140737488355328∧ae (a+1)∧Is (kyI b c d (a+1) (e++dx (↑z.length:Int)++c.getD a.toNat [])∧(d-(a+1)).toNat<(d-a).toNat)) (Q (MX (e,())))) (by kernel_rfl) (by
 conv=>zeta
 unfold Br;intro t Q ⟨j,c⟩;have g:∀y:BL,y=tN t→Q ⟨0,(y,())⟩:=λy e=>by rw[e];exact c
 clear c;refine⟨⟨rfl,rfl,0,rfl,aq _,rfl⟩,?_⟩;rintro l n i b ⟨rfl,rfl,k,rfl,m,rfl⟩;refine⟨λh=>?_,λh=>g _ ?_⟩
 ·simp only[ah]at h;have a:k<t.2.1.length:=by omega
  have o:=E8 t.2.1 (k+1);have f:=AX (t.2.1.take (k+1));rw[xj a]at f;simp only[aa,eb]at f;simp only[aG,aa,bd,eb];refine⟨by omega,trivial,by omega,by omega,by unfold ae;have:=E9 t.2.1;omega,⟨⟨rfl,rfl,k+1,rfl,by omega,?_⟩,by omega⟩⟩;rw[xj a];simp
 ·simp only[aj]at h;have:k=t.2.1.length:=by omega
  rw[this,bp];rfl)
def lO:List (Option CP):=[some (.cells [.own 1, .mp 2, .d .i64]),some (.sl CJ),some (.mp .st .i64)]
def CK:List (Option CP):=[some (.cells [.own 3, .mp 2, .d .i64]),none,some (.mp .st .i64),some (.sl CJ)]
abbrev KV:=List (BL×Int)
def W3(k:BL)(m:KV):Int:=(cy (kt:= .st) k m).getD 0
def RW(k:BL)(n:Int)(m:KV):KV:=cF (kt:= .st) k n m
def jg(t:Tm)(ts:List Tm)(m:KV):Int×List Tm×KV:=
 if W3 (tN t) m=0 then(ts.length+1,ts++[(t.1,t.2.1,())],RW (tN t) (ts.length+1) m)else(W3 (tN t) m,ts,m)
abbrev RX(t:Tm)(ts:List Tm):Prop:=lp t.2.1≤1099511627776∧ts.length≤4294967296
def W4:Ct:=⟨2,⟨[sP 0,(1,true,[.d CJ])],lO⟩,[⟨[sI 0],CK⟩],λ(t,d,a,m,_)=>one (RX t a) ((jg t a m).1,d,(jg t a m).2.2,(jg t a m).2.1,())⟩
def tbP:cc:=⟨[sP 0,(3,false,[.ptr 3 0]),(5,false,[.d .st]),(7,false,[.own 4]),(21,false,[.d (.sl tB)]),sI 22,sI 23],lO++[some (.cells [.d .u8, .d (.sl tB)]),some (.sl tB)]⟩
def tbI(t:Tm)(d:Int)(ts:List Tm)(m:KV)(y:tbP.den):Prop:=match y with
 |(k,l,n,i,b,a,e,c,f,r,_)=>k=tN t∧l=t.2.1∧n=l.length∧b=d∧a=ts∧e=m∧c=t.1∧f=t.2.1∧∃j:Nat,i=j∧j≤l.length∧r=l.take j
def tbA(x:W4.inp.den):dG:=⟨[(6,bM tbP (tbI x.1 x.2.1 x.2.2.1 x.2.2.2.1) λ(_,_,n,i,_)=>(n-i).toNat)],[],[],[],0⟩
theorem gH:∀(l:List BL)(j:Nat),(l.getD j []).length≤lp l
 |[],j=>by simp
 |a::r,0=>by simp only[lp,aX,cY,List.getD_cons_zero];omega
 |a::r,j+1=>by have:=gH r j;simp only[lp,aX,cY,List.getD_cons_succ]at this⊢;omega
abbrev MY(v:Int×Int×KV×List Tm×Unit):aN W4.out:=⟨0,v⟩
def W5:bu:=(66,[W4])::W2
theorem a3i:KK W5:=kA a3h tbA (∀(a:Tm)(e:Int)(f:List Tm)(c:KV)(Q:aN W4.out→Prop),let z:=aU Ty.st (tN (a.1,a.2.1,())) c;(Ct.spec W4 (a,e,f,c,())).sat Q→lp a.2.1≤1099511627776∧Br (z.getD (0:Int)==0) (Is (tbI a e f c (tN (a.1,a.2.1,()),a.2.1,(↑(ac a.2.1):Int),0,e,f,c,a.1,a.2.1,[],()))∧∀(k:BL)(g:List BL)(h b l:Int)(i:List Tm)(m:KV)(j:BitVec 8)(n d:List BL),tbI a e f c (k,g,h,b,l,i,m,j,n,d,())→Br (decide (b<h)) ((0≤b∧b<(↑g.length:Int))∧(0+(g.getD b.toNat []).length)*1≤140737488355328∧(d.length+[g.getD b.toNat []].length)*24≤140737488355328∧ae (b+1)∧Is (tbI a e f c (k,g,h,b+1,l,i,m,j,n,d++[g.getD b.toNat []],())∧(h-(b+1)).toNat<(h-b).toNat)) ((i.length+[(j,d,())].length)*32≤140737488355328∧Q (MY ((↑(i++[(j,d,())]).length:Int),l,dy Ty.st k (↑(i++[(j,d,())]).length:Int) m,i++[(j,d,())],())))) (Q (MY (z.getD 0,e,c,f,())))) (by kernel_rfl) (by
 conv=>zeta
 unfold Br;intro t d s m Q ⟨u,b⟩;obtain⟨v,A⟩:=u;have q:∀f g o,jg t s m=(f,g,o)→Q ⟨0,(f,d,o,g,())⟩:=λf g o e=>by rw[e]at b;exact b
 clear b;have B:=E9 t.2.1
 have w:∀j,((t.2.1.getD j []).length+0)*1≤140737488355328:=λj=>by
  have:=gH t.2.1 j;omega
 refine⟨v,λh=>⟨⟨rfl,rfl,rfl,rfl,rfl,rfl,rfl,rfl,0,rfl,aq _,rfl⟩,?_⟩,λh=>q _ _ _ (ag (ax.1 h))⟩;rintro k l n i C x y c D r ⟨rfl,rfl,rfl,rfl,rfl,rfl,rfl,rfl,j,rfl,E,rfl⟩;refine⟨λp=>?_,λp=>⟨?_,q _ _ _ ?_⟩⟩
 ·simp only[ah]at p;have a:j<t.2.1.length:=by omega
  have F:=w j;simp only[aG,bi,bb];refine⟨by omega,by omega,by omega,by unfold ae;omega,⟨⟨rfl,rfl,rfl,rfl,rfl,rfl,rfl,rfl,j+1,rfl,by omega,?_⟩,by omega⟩⟩;rw[eQ,ap a];simp[bv,ap a]
 ·simp only[bb];omega
 ·simp only[aj]at p;have e:j=t.2.1.length:=by omega
  subst e;have z:W3 (tN t) y=0:=aQ.1 h;rw[jg,an z,bp];simp[RW])
def W6:Ct:=⟨2,⟨[sB 0,sB 1],[]⟩,[⟨[sL 0],[]⟩],λ(a,b,_)=>one True (a==b,())⟩
abbrev W7(v:Bool×Unit):aN W6.out:=⟨0,v⟩
def W8:bu:=(106,[W6])::W5
theorem a3j:KK W8:=kA a3i (cv W6 0) (∀(a b:BL)(Q:aN W6.out→Prop),(Ct.spec W6 (a,b,())).sat Q→Q (W7 (a==b,()))) (by kernel_rfl) (by
 intro a b Q ⟨_,c⟩;exact c)
def nJ(t:Tm):Int:=if t.1=103 then 64 else if t.1=98 then((t.2.1.getD 3 []).length:Int)+16 else 32
def eC(t:Tm):Prop:=lp t.2.1≤1099511627776∧(t.1=98→4≤t.2.1.length)∧(t.1=103→2≤t.2.1.length)∧(t.1=118→1≤t.2.1.length)∧(t.1=112→1≤t.2.1.length∧lp t.2.1≤8589934592)
def fg(ts:List Tm):Prop:=ts.length≤4294967296∧∀t∈ts,eC t
def jO(t:Tm)(n:Int):BL:=(t.1::dx n)++ak ((nJ t).toNat-9) 0
def W9:Ct:=⟨1,⟨[(0,true,[.d CJ])],[]⟩,[⟨[sI 0],[]⟩],λ(t,_)=>one (eC t) (nJ t,())⟩
abbrev Fa(v:Int×Unit):aN W9.out:=⟨0,v⟩
def Xa:bu:=(372,[W9])::W8
theorem a3k:KK Xa:=kA a3j (cv W9 0) (∀(a:Tm)(Q:aN W9.out→Prop),let b:=a.1==af 8 98;let z:=a.1==af 8 103;(Ct.spec W9 (a,())).sat Q→Br z (Q (Fa (64,()))) (Br b (((0:Int)≤3∧3<(↑(ac a.2.1):Int))∧ae ((↑(bv a.2.1 3 []).length:Int)+16)∧Q (Fa ((↑(bv a.2.1 3 []).length:Int)+16,()))) (Q (Fa (32,()))))) (by kernel_rfl) (by
 conv=>zeta
 unfold Br;intro t Q ⟨c,a⟩;have b:∀y,nJ t=y→Q ⟨0,(y,())⟩:=λy e=>by rw[e]at a;exact a
 clear a;obtain⟨g,f,_⟩:=c;have:=gH t.2.1 3;unfold ae
 (repeat' (first|apply bQ|intro _))<;>(try simp only[aQ,ax]at*)<;>first|exact b _ (by clear b;grind[nJ])|(have:=f (by assumption);omega)|omega)
theorem uU(t:Tm):16≤nJ t:=by unfold nJ;grind
theorem RY{t:Tm}(h:eC t):nJ t≤1099511627800:=by
 have:=gH t.2.1 3;have:=h.1;unfold nJ;grind
def Xb:Ct:=⟨2,⟨[(0,true,[.d CJ]),sI 1],[]⟩,[oB],λ(t,n,_)=>one (eC t) (jO t n,())⟩
abbrev Xc(v:BL×Unit):aN Xb.out:=⟨0,v⟩
def Xd:bu:=(370,[Xb])::Xa
theorem a3l:KK Xd:=kA a3k (cv Xb 0) (∀(a:Tm)(b:Int)(Q:aN Xb.out→Prop),let z:=(a.1,a.2.1,());(Ct.spec Xb (a,b,())).sat Q→True∧([a.1].length+ac (dx b))*1≤140737488355328∧eC z∧ae (nJ z-9)∧(0≤nJ z-9∧(([a.1]++dx b).length+(nJ z-9).toNat)*1≤140737488355328)∧Q (Xc ([a.1]++dx b++ak (nJ z-9).toNat (af 8 0),()))) (by kernel_rfl) (by
 conv=>zeta
 intro t n Q ⟨a,b⟩;have c:∀y,y=jO t n→Q ⟨0,(y,())⟩:=λy e=>by rw[e];exact b
 clear b;have g:=uU t;have h:=RY a;have i:=eb n;have f:(nJ t-9).toNat=(nJ t).toNat-9:=by omega
 have e:nJ (t.1,t.2.1,())=nJ t:=rfl;rw[e,f];refine⟨trivial,by simp only[bb];omega,a,by unfold ae;omega,⟨by omega,by simp only[aa,bb];omega⟩,c _ rfl⟩)
def sU(i:Nat):Nat×Bool×List IP:=(i,false,[.d .u8])
def Fb:Tm:=(0,[],())
def xk(b:BL):BitVec 64:=af 64 0|||aw 64 (b.getD 1 (af 8 0))<<<0|||aw 64 (b.getD 2 (af 8 0))<<<8|||aw 64 (b.getD 3 (af 8 0))<<<16|||aw 64 (b.getD 4 (af 8 0))<<<24|||aw 64 (b.getD 5 (af 8 0))<<<32|||aw 64 (b.getD 6 (af 8 0))<<<40|||aw 64 (b.getD 7 (af 8 0))<<<48|||aw 64 (b.getD 8 (af 8 0))<<<56
def fH(b:BL)(k:BitVec 8)(ts:List Tm):Tm×Bool:=
 if b.length<9∨b.getD 0 0≠k then(Fb,false)
 else if(xk b).toNat<1∨ts.length<(xk b).toNat then(Fb,false)
 else(ts.getD ((xk b).toNat-1) Fb,(ts.getD ((xk b).toNat-1) Fb).1==k&&b==jO (ts.getD ((xk b).toNat-1) Fb) (xk b).toNat)
def Xe:Ct:=⟨3,⟨[sP 0,sB 1,sU 2],lO⟩,[⟨[(0,true,[.d CJ]),sL 1],lO⟩],λ(b,k,d,a,m,_)=>one (b.length≤1099511627776∧fg a) ((fH b k a).1,(fH b k a).2,d,a,m,())⟩
theorem AY{n:Nat}(h:n≤4294967296):(bc 64 (n:Int)).toNat=n:=by
 rw[BitVec.ofInt_natCast,BitVec.toNat_ofNat];omega
theorem a3m{v:BitVec 64}(h:1≤v.toNat):(v-af 64 1).toNat=v.toNat-1:=by
 rw[BitVec.toNat_sub];have:=v.isLt;have e:(af 64 1).toNat=1:=rfl;omega
abbrev Fc(v:Tm×Bool×Int×List Tm×KV×Unit):aN Xe.out:=⟨0,v⟩
def Xf:bu:=(368,[Xe])::Xd
theorem a3n:KK Xf:=kA a3l (cv Xe 9) (∀(a:BL)(c:BitVec 8)(d:Int)(b:List Tm)(e:KV)(Q:aN Xe.out→Prop),let j:= !a.getD 0 (af 8 0)==c;let g:=Fc ((af 8 0,[],()),false,d,b,e,());let z:=af 64 0|||aw 64 (a.getD 1 (af 8 0))<<<0|||aw 64 (a.getD 2 (af 8 0))<<<8|||aw 64 (a.getD 3 (af 8 0))<<<16|||aw 64 (a.getD 4 (af 8 0))<<<24|||aw 64 (a.getD 5 (af 8 0))<<<32|||aw 64 (a.getD 6 (af 8 0))<<<40|||aw 64 (a.getD 7 (af 8 0))<<<48|||aw 64 (a.getD 8 (af 8 0))<<<56;let i:=z-af 64 1;let l:Prop:=(bc 64 (↑b.length:Int)).toNat<z.toNat;let f:=b.getD (↑i.toNat:Int).toNat (af 8 0,[],());let h:=(f.1,f.2.1,());(Ct.spec Xe (a,c,d,b,e,())).sat Q→Br (decide ((↑a.length:Int)<9)) (Q g) (((0:Int)≤0∧0<(↑a.length:Int))∧Br j (Q g) (((0:Int)≤1∧1<(↑a.length:Int))∧((0:Int)≤2∧2<(↑a.length:Int))∧((0:Int)≤3∧3<(↑a.length:Int))∧((0:Int)≤4∧4<(↑a.length:Int))∧((0:Int)≤5∧5<(↑a.length:Int))∧((0:Int)≤6∧6<(↑a.length:Int))∧((0:Int)≤7∧7<(↑a.length:Int))∧((0:Int)≤8∧8<(↑a.length:Int))∧Br (decide (z.toNat<1)) (Q g) (Br (decide l) (Q g) ((0≤(↑i.toNat:Int)∧(↑i.toNat:Int)<(↑b.length:Int))∧Br (f.1==c) ((f.1==c)=true∧(f.1==c)=true∧(f.1==c)=true∧(f.1==c)=true∧eC h∧(f.1==c)=true∧True∧(f.1==c)=true∧Q (Fc (h,a==jO h (IntKind.i64.wrap (↑z.toNat:Int)),d,b,e,()))) ((f.1==c)=false∧(f.1==c)=false∧(f.1==c)=false∧(f.1==c)=false∧(f.1==c)=false∧(f.1==c)=false∧Q (Fc (h,false,d,b,e,())))))))) (by kernel_rfl) (by
 conv=>zeta
 unfold Br;intro b k d f m Q ⟨⟨B,t⟩,j⟩;have c:∀l n,fH b k f=(l,n)→Q ⟨0,(l,n,d,f,m,())⟩:=λl n e=>by rw[e]at j;exact j
 clear j;have o:(af 64 0|||aw 64 (b.getD 1 (af 8 0))<<<0|||aw 64 (b.getD 2 (af 8 0))<<<8|||aw 64 (b.getD 3 (af 8 0))<<<16|||aw 64 (b.getD 4 (af 8 0))<<<24|||aw 64 (b.getD 5 (af 8 0))<<<32|||aw 64 (b.getD 6 (af 8 0))<<<40|||aw 64 (b.getD 7 (af 8 0))<<<48|||aw 64 (b.getD 8 (af 8 0))<<<56)=xk b:=rfl;rw[o];clear o;obtain⟨u,w⟩:=t;have x:=AY u;have p:=a3m (v:=xk b);unfold fH Fb at c;generalize xk b=v at c p;rw[x];simp only[ah,aj];refine⟨λh=>c _ _ (an (.inl (by omega))),λh=>⟨by omega,λi=>c _ _ (an (.inr (by simpa using i))),λi=>?_⟩⟩
 have g:¬(b.length<9∨b.getD 0 0≠k):=by
  rintro(g|g)
  ·omega
  ·exact g (by simpa using i)
 rw[ag g]at c;clear i g;refine⟨by omega,by omega,by omega,by omega,by omega,by omega,by omega,by omega,λq=>c _ _ (an (.inl q)),λq=>⟨λr=>c _ _ (an (.inr r)),λr=>?_⟩⟩;have y:=p (by omega);rw[ag (by omega)]at c;have z:IntKind.i64.wrap (v.toNat:Int)=v.toNat:=RR _ (by omega);rw[y,z,aG];have s:eC (f.getD (v.toNat-1) (0,[],())):=w _ (by rw[az,ap (by omega)];exact rW _);have A:v.toNat-1<f.length:=by omega
 generalize C:f.getD (v.toNat-1) (0,[],())=T at c s;refine⟨by omega,λa=>⟨a,a,a,a,s,a,trivial,a,c _ _ ?_⟩,λa=>⟨a,a,a,a,a,a,c _ _ ?_⟩⟩
 ·rw[a,fL]
 ·rw[a,Bool.false_and])
theorem rl{b:BL}{k:BitVec 8}{ts:List Tm}(a:fg ts)(h:(fH b k ts).2=true):eC (fH b k ts).1∧(fH b k ts).1.1=k:=by
 unfold fH at h⊢;split at h
 ·simp at h
 ·rename_i c;split at h
  ·simp at h
  ·rename_i e;rw[ag c,ag e];simp only[aF,aQ]at h;refine⟨a.2 _ ?_,h.1⟩;have:(xk b).toNat-1<ts.length:=by omega
   rw[az,ap this];exact rW _
def Xg:Ct:=⟨1,⟨[sP 0],lO⟩,[⟨[sL 0],lO⟩],λ(d,a,m,_)=>one True (true,d,a,m,())⟩
abbrev Xh(v:Bool×Int×List Tm×KV×Unit):aN Xg.out:=⟨0,v⟩
def Xi:bu:=(65,[Xg])::Xf
theorem a3o:KK Xi:=kA a3n (cv Xg 0) (∀(a:Int)(b:List Tm)(c:KV)(Q:aN Xg.out→Prop),(Ct.spec Xg (a,b,c,())).sat Q→Q (Xh (true,a,b,c,()))) (by kernel_rfl) (by
 intro d b m Q ⟨_,a⟩;exact a)
abbrev pu(t:Tm)(ts:List Tm):Prop:=eC t∧ts.length≤4294967296
def dT(t:Tm)(ts:List Tm)(m:KV):BL×List Tm×KV:=(jO t (jg t ts m).1,(jg t ts m).2)
def Xj:Ct:=⟨3,⟨[sP 0,sU 1,(2,false,[.d (.sl tB)])],lO⟩,[⟨[sO 0 4],CK++[cB]⟩],λ(k,a,d,b,m,_)=>one (pu (k,a,()) b) (d,(dT (k,a,()) b m).2.2,(dT (k,a,()) b m).2.1,(dT (k,a,()) b m).1,())⟩
abbrev Xk(v:Int×KV×List Tm×BL×Unit):aN Xj.out:=⟨0,v⟩
def Xl:bu:=(367,[Xj])::Xi
theorem a3p:KK Xl:=kA a3o (cv Xj 0) (∀(a:BitVec 8)(b:List BL)(e:Int)(c:List Tm)(d:KV)(Q:aN Xj.out→Prop),let z:=jg (a,b,()) c d;(Ct.spec Xj (a,b,e,c,d,())).sat Q→RX (a,b,()) c∧eC (a,b,())∧Q (Xk (e,z.2.2,z.2.1,jO (a,b,()) z.1,()))) (by kernel_rfl) (by
 conv=>zeta
 intro k c d e m Q ⟨a,b⟩;exact⟨⟨a.1.1,a.2⟩,a.1,b⟩)
def de(t:Tm)(ts:List Tm)(m:KV):BL×List Tm×KV:=if(t.2.1.getD 0 []).length=32 then dT t ts m else([],ts,m)
def Xm:Ct:=⟨3,⟨[sP 0,sU 1,(2,false,[.d (.sl tB)])],lO⟩,[⟨[sO 0 4],CK++[cB]⟩],λ(k,a,d,b,m,_)=>one (pu (k,a,()) b∧1≤a.length) (d,(de (k,a,()) b m).2.2,(de (k,a,()) b m).2.1,(de (k,a,()) b m).1,())⟩
abbrev MZ(v:Int×KV×List Tm×BL×Unit):aN Xm.out:=⟨0,v⟩
def Xn:bu:=(366,[Xm])::Xl
theorem RZ:KK Xn:=kA a3p (cv Xm 0) (∀(c:BitVec 8)(a:List BL)(e:Int)(b:List Tm)(d:KV)(Q:aN Xm.out→Prop),let g:=MZ (e,d,b,[],());let f:=jg (c,a,()) b d;let z:= !(↑(a.getD 0 []).length:Int)==32;(Ct.spec Xm (c,a,e,b,d,())).sat Q→True∧Br (!true) (Q g) (((0:Int)≤0∧0<(↑a.length:Int))∧Br z (Q g) (pu (c,a,()) b∧Q (MZ (e,f.2.2,f.2.1,jO (c,a,()) f.1,()))))) (by kernel_rfl) (by
 conv=>zeta
 unfold Br;intro k i d j m Q ⟨⟨l,n⟩,a⟩;have b:∀c f g,de (k,i,()) j m=(c,f,g)→Q ⟨0,(d,g,f,c,())⟩:=λc f g e=>by rw[e]at a;exact a
 clear a;unfold de at b;refine⟨trivial,λh=>by simp at h,λ_=>⟨by omega,λh=>b _ _ _ (ag ?_),λh=>⟨l,b _ _ _ (an ?_)⟩⟩⟩
 ·intro e;simp at h;simp[az]at e;omega
 ·simp at h;simp[az];omega)
theorem gD{k:BitVec 8}{ps:List BL}(h:lp ps≤8589934592∨k≠112∧lp ps≤1099511627776)(a:4≤ps.length∨k≠98∧(2≤ps.length∨k≠103∧1≤ps.length)):eC (k,ps,()):=by
 refine⟨by simp only;omega,λe=>?_,λe=>?_,λe=>?_,λe=>?_⟩<;>(simp only at e⊢;rcases a with a|⟨b,a|⟨c,a⟩⟩<;>first|omega|exact absurd e b|exact absurd e c|(rcases h with h|⟨h,_⟩<;>first|omega|exact absurd e h))
theorem Xo(a:BL):lp [a]=a.length+8:=by simp[lp]
theorem K0(a b:BL):lp [a,b]=a.length+b.length+16:=by simp[lp];omega
theorem sz4(a b c d:BL):lp [a,b,c,d]=a.length+b.length+c.length+d.length+32:=by simp[lp];omega
def Xp:Ct:=⟨1,⟨[sP 0],lO⟩,[⟨[sO 0 4],CK++[cB]⟩],λ(d,a,m,_)=>one (a.length≤4294967296∧0≤d∧d≤4294967296) (d+1,(dT (115,[dx (d+1)],()) a m).2.2,(dT (115,[dx (d+1)],()) a m).2.1,(dT (115,[dx (d+1)],()) a m).1,())⟩
abbrev M0(v:Int×KV×List Tm×BL×Unit):aN Xp.out:=⟨0,v⟩
theorem M1:bO Tryz.prog 356 Xp:=kC RZ (cv Xp 0) (∀(a:Int)(b:List Tm)(c:KV)(Q:aN Xp.out→Prop),let z:=jg (af 8 115,[dx (a+1)],()) b c;let e:=M0 (a+1,z.2.2,z.2.1,jO (af 8 115,[dx (a+1)],()) z.1,());(Tr.need (b.length≤4294967296∧0≤a∧a≤4294967296) (Tr.leaf e)).sat Q→True∧Br (!true) (Q (M0 (a,c,b,[],()))) (ae (a+1)∧True∧pu (af 8 115,[dx (a+1)],()) b∧Q e)) (by kernel_rfl) (by
 conv=>zeta
 unfold Br;intro d c m Q ⟨⟨a,e,f⟩,b⟩;refine⟨trivial,λh=>by simp at h,λ_=>⟨by unfold ae;omega,trivial,⟨gD (.inl (by rw[Xo,eb];omega)) (.inr ⟨by decide, .inr ⟨by decide,aC _⟩⟩),a⟩,b⟩⟩)
def Xq:bu:=(356,[Xp])::Xn
theorem R0:KK Xq:=⟨aP.add RZ.1 (by kernel_rfl) (bo M1),bg.add RZ.2 (bo (λ_=>bH))⟩
abbrev aB(b:BL):Prop:=b.length≤4294967296
def VJ:Ct:=⟨2,⟨[sP 0,sB 1],lO⟩,[⟨[sO 0 4],CK++[cB]⟩],λ(b,d,a,m,_)=>one (aB b∧a.length≤4294967296) (d,(dT (104,[b],()) a m).2.2,(dT (104,[b],()) a m).2.1,(dT (104,[b],()) a m).1,())⟩
abbrev M2(v:Int×KV×List Tm×BL×Unit):aN VJ.out:=⟨0,v⟩
theorem M3:bO Tryz.prog 357 VJ:=kC R0 (cv VJ 0) (∀(a:BL)(d:Int)(b:List Tm)(c:KV)(Q:aN VJ.out→Prop),let z:=jg (af 8 104,[a],()) b c;(Ct.spec VJ (a,d,b,c,())).sat Q→True∧Br (!true) (Q (M2 (d,c,b,[],()))) (pu (af 8 104,[a],()) b∧Q (M2 (d,z.2.2,z.2.1,jO (af 8 104,[a],()) z.1,())))) (by kernel_rfl) (by
 conv=>zeta
 unfold Br;intro b d e m Q ⟨⟨f,a⟩,c⟩;exact⟨trivial,λh=>by simp at h,λ_=>⟨⟨gD (.inl (by rw[Xo];omega)) (.inr ⟨by decide, .inr ⟨by decide,aC _⟩⟩),a⟩,c⟩⟩)
def Xr:bu:=(357,[VJ])::Xq
theorem R1:KK Xr:=⟨aP.add R0.1 (by kernel_rfl) (bo M3),bg.add R0.2 (bo (λ_=>bH))⟩
def VK:Ct:=⟨2,⟨[sP 0,sB 1],lO⟩,[⟨[sO 0 4],CK++[cB]⟩],λ(b,d,a,m,_)=>one (aB b∧a.length≤4294967296) (d,(de (112,[b],()) a m).2.2,(de (112,[b],()) a m).2.1,(de (112,[b],()) a m).1,())⟩
abbrev Xs(v:Int×KV×List Tm×BL×Unit):aN VK.out:=⟨0,v⟩
theorem M4:bO Tryz.prog 360 VK:=kC R1 (cv VK 0) (∀(a:BL)(d:Int)(b:List Tm)(c:KV)(Q:aN VK.out→Prop),let z:=de (af 8 112,[a],()) b c;(Ct.spec VK (a,d,b,c,())).sat Q→(pu (af 8 112,[a],()) b∧1≤[a].length)∧Q (Xs (d,z.2.2,z.2.1,z.1,()))) (by kernel_rfl) (by
 conv=>zeta
 intro b d e m Q ⟨⟨f,a⟩,c⟩;exact⟨⟨⟨gD (.inl (by rw[Xo];omega)) (.inr ⟨by decide, .inr ⟨by decide,aC _⟩⟩),a⟩,aC _⟩,c⟩)
def Xt:bu:=(360,[VK])::Xr
theorem R2:KK Xt:=⟨aP.add R1.1 (by kernel_rfl) (bo M4),bg.add R1.2 (bo (λ_=>bH))⟩
def VL:Ct:=⟨2,⟨[sP 0,sB 1],lO⟩,[⟨[sO 0 4],CK++[cB]⟩],λ(b,d,a,m,_)=>one (aB b∧a.length≤4294967296) (d,(de (118,[b],()) a m).2.2,(de (118,[b],()) a m).2.1,(de (118,[b],()) a m).1,())⟩
abbrev Xu(v:Int×KV×List Tm×BL×Unit):aN VL.out:=⟨0,v⟩
theorem M5:bO Tryz.prog 364 VL:=kC R2 (cv VL 0) (∀(a:BL)(d:Int)(b:List Tm)(c:KV)(Q:aN VL.out→Prop),let z:=de (af 8 118,[a],()) b c;(Ct.spec VL (a,d,b,c,())).sat Q→(pu (af 8 118,[a],()) b∧1≤[a].length)∧Q (Xu (d,z.2.2,z.2.1,z.1,()))) (by kernel_rfl) (by
 conv=>zeta
 intro b d e m Q ⟨⟨f,a⟩,c⟩;exact⟨⟨⟨gD (.inl (by rw[Xo];omega)) (.inr ⟨by decide, .inr ⟨by decide,aC _⟩⟩),a⟩,aC _⟩,c⟩)
def Xv:bu:=(364,[VL])::Xt
theorem R3:KK Xv:=⟨aP.add R2.1 (by kernel_rfl) (bo M5),bg.add R2.2 (bo (λ_=>bH))⟩
def VM:Ct:=⟨3,⟨[sP 0,sB 1,sB 2],lO⟩,[⟨[sO 0 4],CK++[cB]⟩],λ(b,c,d,a,m,_)=>one (aB b∧aB c∧a.length≤4294967296) (d,(de (107,[b,c],()) a m).2.2,(de (107,[b,c],()) a m).2.1,(de (107,[b,c],()) a m).1,())⟩
abbrev Xw(v:Int×KV×List Tm×BL×Unit):aN VM.out:=⟨0,v⟩
theorem M6:bO Tryz.prog 355 VM:=kC R3 (cv VM 0) (∀(a b:BL)(e:Int)(c:List Tm)(d:KV)(Q:aN VM.out→Prop),let z:=de (af 8 107,[a,b],()) c d;(Ct.spec VM (a,b,e,c,d,())).sat Q→(pu (af 8 107,[a,b],()) c∧1≤[a,b].length)∧Q (Xw (e,z.2.2,z.2.1,z.1,()))) (by kernel_rfl) (by
 conv=>zeta
 intro b c d f m Q ⟨⟨g,h,a⟩,e⟩;exact⟨⟨⟨gD (.inr ⟨by decide,by rw[K0];omega⟩) (.inr ⟨by decide, .inl (aC _)⟩),a⟩,by simp⟩,e⟩)
def Xx:bu:=(355,[VM])::Xv
theorem R4:KK Xx:=⟨aP.add R3.1 (by kernel_rfl) (bo M6),bg.add R3.2 (bo (λ_=>bH))⟩
def VN:Ct:=⟨3,⟨[sP 0,sB 1,sB 2],lO⟩,[⟨[sO 0 4],CK++[cB]⟩],λ(b,c,d,a,m,_)=>one (aB b∧aB c∧a.length≤4294967296) (d,(de (103,[b,c],()) a m).2.2,(de (103,[b,c],()) a m).2.1,(de (103,[b,c],()) a m).1,())⟩
abbrev Xy(v:Int×KV×List Tm×BL×Unit):aN VN.out:=⟨0,v⟩
theorem M7:bO Tryz.prog 363 VN:=kC R4 (cv VN 0) (∀(a b:BL)(e:Int)(c:List Tm)(d:KV)(Q:aN VN.out→Prop),let z:=de (af 8 103,[a,b],()) c d;(Ct.spec VN (a,b,e,c,d,())).sat Q→(pu (af 8 103,[a,b],()) c∧1≤[a,b].length)∧Q (Xy (e,z.2.2,z.2.1,z.1,()))) (by kernel_rfl) (by
 conv=>zeta
 intro b c d f m Q ⟨⟨g,h,a⟩,e⟩;exact⟨⟨⟨gD (.inr ⟨by decide,by rw[K0];omega⟩) (.inr ⟨by decide, .inl (aC _)⟩),a⟩,by simp⟩,e⟩)
def Xz:bu:=(363,[VN])::Xx
theorem R5:KK Xz:=⟨aP.add R4.1 (by kernel_rfl) (bo M7),bg.add R4.2 (bo (λ_=>bH))⟩
def lA(k:BL)(n:Int)(o x:BL)(ts:List Tm)(m:KV):BL×List Tm×KV:=if n<0 then([],ts,m)else de (98,[k,dx n,o,x],()) ts m
def VO:Ct:=⟨5,⟨[sP 0,sB 1,sI 2,sB 3,sB 4],lO⟩,[⟨[sO 0 4],CK++[cB]⟩],λ(k,n,o,x,d,a,m,_)=>one (aB k∧aB o∧aB x∧a.length≤4294967296) (d,(lA k n o x a m).2.2,(lA k n o x a m).2.1,(lA k n o x a m).1,())⟩
abbrev M8(v:Int×KV×List Tm×BL×Unit):aN VO.out:=⟨0,v⟩
theorem M9:bO Tryz.prog 361 VO:=kC R5 (cv VO 0) (∀(b:BL)(a:Int)(c d:BL)(g:Int)(e:List Tm)(f:KV)(Q:aN VO.out→Prop),let z:=de (af 8 98,[b,dx a,c,d],()) e f;(Ct.spec VO (b,a,c,d,g,e,f,())).sat Q→Br (decide (a<0)) (Q (M8 (g,f,e,[],()))) (True∧(pu (af 8 98,[b,dx a,c,d],()) e∧1≤[b,dx a,c,d].length)∧Q (M8 (g,z.2.2,z.2.1,z.1,())))) (by kernel_rfl) (by
 conv=>zeta
 unfold Br;intro k n o x d i m Q ⟨⟨l,p,q,j⟩,a⟩;have b:∀c f g,lA k n o x i m=(c,f,g)→Q ⟨0,(d,g,f,c,())⟩:=λc f g e=>by rw[e]at a;exact a
 clear a;unfold lA at b;refine⟨λh=>b _ _ _ (an (by simpa using h)),λh=>⟨trivial,⟨⟨gD (.inr ⟨by decide,by rw[sz4,eb];omega⟩) (.inl (aC _)),j⟩,by simp⟩,b _ _ _ (ag (by simpa using h))⟩⟩)
def XA:bu:=(361,[VO])::Xz
theorem a3q:KK XA:=⟨aP.add R5.1 (by kernel_rfl) (bo M9),bg.add R5.2 (bo (λ_=>bH))⟩
def yY(k b s:BL)(ts:List Tm):Bool:=(fH s 103 ts).2&&(fH k 118 ts).2&&(((fH s 103 ts).1.2.1.getD 0 []==(fH k 118 ts).1.2.1.getD 0 [])&&((fH s 103 ts).1.2.1.getD 1 []==b))
def XB:Ct:=⟨4,⟨[sP 0,sB 1,sB 2,sB 3],lO⟩,[⟨[sL 0],lO⟩],λ(k,b,s,d,a,m,_)=>one (aB k∧aB b∧aB s∧fg a) (yY k b s a,d,a,m,())⟩
abbrev Na(v:Bool×Int×List Tm×KV×Unit):aN XB.out:=⟨0,v⟩
def XC:bu:=(365,[XB])::XA
theorem R6:KK XC:=kA a3q (cv XB 0) (∀(b f c:BL)(d:Int)(a:List Tm)(e:KV)(Q:aN XB.out→Prop),let i:=Na (false,d,a,e,());let h:=fH c (af 8 103) a;let g:=fH b (af 8 118) a;let z:=bv h.1.2.1 0 []==bv g.1.2.1 0 [];(Ct.spec XB (b,f,c,d,a,e,())).sat Q→True∧Br (!true) (Q i) ((c.length≤1099511627776∧fg a)∧(b.length≤1099511627776∧fg a)∧Br (h.2) (h.2=true∧Br (g.2) (g.2=true∧g.2=true∧((0:Int)≤0∧0<(↑(ac h.1.2.1):Int))∧g.2=true∧g.2=true∧g.2=true∧g.2=true∧((0:Int)≤0∧0<(↑(ac g.1.2.1):Int))∧g.2=true∧g.2=true∧True∧g.2=true∧Br z (z=true∧z=true∧((0:Int)≤1∧1<(↑(ac h.1.2.1):Int))∧z=true∧z=true∧z=true∧True∧z=true∧Q (Na (bv h.1.2.1 1 []==f,d,a,e,()))) (z=false∧z=false∧z=false∧z=false∧z=false∧z=false∧Q i)) (g.2=false∧g.2=false∧g.2=false∧g.2=false∧g.2=false∧g.2=false∧g.2=false∧g.2=false∧g.2=false∧Q i)) (h.2=false∧Q i))) (by kernel_rfl) (by
 conv=>zeta
 unfold Br;intro k b s d a m Q ⟨⟨o,p,q,c⟩,f⟩;have g:∀y,yY k b s a=y→Q ⟨0,(y,d,a,m,())⟩:=λy e=>by rw[e]at f;exact f
 clear f;have i:=rl (b:=s) (k:=103) c;have j:=rl (b:=k) (k:=118) c;unfold yY at g;have l:fH s (af 8 103) a=fH s 103 a:=rfl;have n:fH k (af 8 118) a=fH k 118 a:=rfl;rw[l,n];generalize fH s 103 a=X at*;generalize fH k 118 a=Y at*;have r:X.2=true→2≤X.1.2.1.length:=λh=>(i h).1.2.2.1 (i h).2;have t:Y.2=true→1≤Y.1.2.1.length:=λh=>(j h).1.2.2.2.1 (j h).2;clear i j;refine⟨trivial,λh=>by simp at h,λ_=>⟨⟨by omega,c⟩,⟨by omega,c⟩,?_⟩⟩;clear o p q c l n
 (repeat' (first|apply bQ|intro _))<;>(try simp only[ah,aj,aQ,ax,ne_eq,aO,aJ,bX,bR]at*)<;>first
  |assumption
  |(exact g _ (by clear g;grind))
  |omega
  |(have:=r (by assumption);omega)
  |(have:=t (by assumption);omega))
def yZ(k:BL)(n:Int)(o x:BL)(ts:List Tm):BL×Int:=
 if k.length≠32∨n<0 then([],1)
 else if(fH x 98 ts).2∧(fH x 98 ts).1.2.1.getD 0 []=k∧(fH x 98 ts).1.2.1.getD 1 []=dx n∧(fH x 98 ts).1.2.1.getD 2 []=o then((fH x 98 ts).1.2.1.getD 3 [],0)else([],9)
def VP:Ct:=⟨5,⟨[sP 0,sB 1,sI 2,sB 3,sB 4],lO⟩,[⟨[sO 0 3,sI 1],lO++[cB]⟩],λ(k,n,o,x,d,a,m,_)=>one (aB k∧aB o∧aB x∧fg a) ((yZ k n o x a).2,d,a,m,(yZ k n o x a).1,())⟩
abbrev Fe(v:Int×Int×List Tm×KV×BL×Unit):aN VP.out:=⟨0,v⟩
theorem Nb:bO Tryz.prog 359 VP:=kC R6 (cv VP 0) (∀(c:BL)(d:Int)(g b:BL)(e:Int)(a:List Tm)(f:KV)(Q:aN VP.out→Prop),let n:= !(↑c.length:Int)==32;let m:=Fe (1,e,a,f,[],());let j:=Fe (9,e,a,f,[],());let z:=fH b (af 8 98) a;let o:= !bv z.1.2.1 2 []==g;let l:=ac z.1.2.1;let h:= !bv z.1.2.1 0 []==c;let i:= !bv z.1.2.1 1 []==dx d;(Ct.spec VP (c,d,g,b,e,a,f,())).sat Q→True∧Br (!true) (Q m) (Br n (Q m) (Br (decide (d<0)) (Q m) ((b.length≤1099511627776∧fg a)∧Br (!z.2) ((!z.2)=true∧(!z.2)=true∧(!z.2)=true∧(!z.2)=true∧(!z.2)=true∧(!z.2)=true∧(!z.2)=true∧Q j) ((!z.2)=false∧(!z.2)=false∧((0:Int)≤0∧0<(↑l:Int))∧(!z.2)=false∧(!z.2)=false∧(!z.2)=false∧True∧(!z.2)=false∧(!z.2)=false∧Br h (h=true∧h=true∧h=true∧h=true∧h=true∧h=true∧h=true∧h=true∧Q j) (h=false∧h=false∧((0:Int)≤1∧1<(↑l:Int))∧h=false∧h=false∧h=false∧True∧h=false∧True∧h=false∧h=false∧Br i (i=true∧i=true∧i=true∧i=true∧i=true∧i=true∧i=true∧Q j) (i=false∧i=false∧((0:Int)≤2∧2<(↑l:Int))∧i=false∧i=false∧i=false∧True∧i=false∧i=false∧Br o (Q j) (((0:Int)≤3∧3<(↑l:Int))∧(0+(bv z.1.2.1 3 []).length)*1≤140737488355328∧Q (Fe (0,e,a,f,bv z.1.2.1 3 [],())))))))))) (by kernel_rfl) (by
 conv=>zeta
 unfold Br;intro k n o x d g m Q ⟨⟨t,u,v,j⟩,l⟩;have f:∀p q,yZ k n o x g=(p,q)→Q ⟨0,(q,d,g,m,p,())⟩:=λp q e=>by rw[e]at l;exact l
 clear l;have i:=rl (b:=x) (k:=98) j;unfold yZ at f;have r:fH x (af 8 98) g=fH x 98 g:=rfl;rw[r];generalize fH x 98 g=X at*;have w:X.2=true→4≤X.1.2.1.length:=λh=>(i h).1.2.1 (i h).2;have y:X.2=true→lp X.1.2.1≤1099511627776:=λh=>(i h).1.1;have z:=gH X.1.2.1 3;clear i;refine⟨trivial,λh=>by simp at h,λ_=>⟨λa=>f _ _ (an ?_),λa=>⟨λc=>f _ _ (an ?_),λc=>?_⟩⟩⟩
 ·left;intro e;simp[e]at a
 ·right;simpa using c
 ·have s:¬(k.length≠32∨n<0):=by
   simp at a c;omega
  rw[ag s]at f;refine⟨⟨by omega,j⟩,?_⟩;clear t u v j r a c s
  (repeat' (first|apply bQ|intro _))<;>(try simp only[ah,aj,aQ,ax,ne_eq,aO,aJ,bX,bR]at*)<;>first
   |assumption
   |(exact f _ _ (by clear f;grind))
   |omega
   |(have:=w (by assumption);omega)
   |(have:=y (by assumption);omega))
def XD:bu:=(359,[VP])::XC
theorem a3r:KK XD:=⟨aP.add R6.1 (by kernel_rfl) (bo Nb),bg.add R6.2 (bo (λ_=>bH))⟩
def XE:Ct:=⟨0,⟨[],[]⟩,[⟨[sP 0],[some (.cells [.own 1, .mp 2, .d .i64]),some (.sl CJ),some (.mp .st .i64)]⟩],λ_=>one True (0,[],[],())⟩
abbrev XF(v:Int×List Tm×KV×Unit):aN XE.out:=⟨0,v⟩
def XG:bu:=(32,[XE])::XD
theorem a3s:KK XG:=kA a3r (cv XE 0) (∀(Q:aN XE.out→Prop),(Ct.spec XE ()).sat Q→Q (XF (0,[],[],()))) (by kernel_rfl) (by
 intro Q ⟨_,a⟩;exact a)
def XH:Ct:=⟨2,⟨[sB 0,sB 1],[]⟩,[⟨[sI 0],[]⟩],λ(a,b,_)=>one True (sw a b,())⟩
abbrev XI(v:Int×Unit):aN XH.out:=⟨0,v⟩
def XJ:bu:=(369,[XH])::XG
theorem R7:KK XJ:=kA a3s (cv XH 0) (∀(a b:BL)(Q:aN XH.out→Prop),(Ct.spec XH (a,b,())).sat Q→Q (XI (Extern.BytealgCompare.cmp (cd a) (cd b),()))) (by kernel_rfl) (by
 intro a b Q ⟨_,c⟩;exact c)
def mK(s p:BL)(ts:List Tm)(m:KV):(BL×List Tm×KV)×Int:=
 if s.length≠32 then(([],ts,m),1)else if(fH p 112 ts).2=false then(([],ts,m),8)
 else(dT (100,(if 0<sw s ((fH p 112 ts).1.2.1.getD 0 [])then[(fH p 112 ts).1.2.1.getD 0 [],s]else[s,(fH p 112 ts).1.2.1.getD 0 []]),()) ts m,0)
def VQ:Ct:=⟨3,⟨[sP 0,sB 1,sB 2],lO⟩,[⟨[sO 0 4,sI 1],CK++[cB]⟩],λ(s,p,d,a,m,_)=>one (aB s∧aB p∧fg a) ((mK s p a m).2,d,(mK s p a m).1.2.2,(mK s p a m).1.2.1,(mK s p a m).1.1,())⟩
abbrev AZ(v:Int×Int×KV×List Tm×BL×Unit):aN VQ.out:=⟨0,v⟩
theorem Nc:bO Tryz.prog 362 VQ:=kC R7 (cv VQ 0) (∀(c b:BL)(e:Int)(a:List Tm)(d:KV)(Q:aN VQ.out→Prop),let i:= !(↑c.length:Int)==32;let h:=AZ (1,e,d,a,[],());let z:=fH b (af 8 112) a;let j:Prop:=0<Extern.BytealgCompare.cmp (cd c) (cd (bv z.1.2.1 0 []));let f:=jg (af 8 100,[c,bv z.1.2.1 0 []],()) a d;let g:=jg (af 8 100,[bv z.1.2.1 0 [],c],()) a d;(Ct.spec VQ (c,b,e,a,d,())).sat Q→True∧Br (!true) (Q h) (Br i (Q h) ((b.length≤1099511627776∧fg a)∧Br (!z.2) (Q (AZ (8,e,d,a,[],()))) (((0:Int)≤0∧0<(↑(ac z.1.2.1):Int))∧True∧Br (decide j) (pu (af 8 100,[bv z.1.2.1 0 [],c],()) a∧Q (AZ (0,e,g.2.2,g.2.1,jO (af 8 100,[bv z.1.2.1 0 [],c],()) g.1,()))) (pu (af 8 100,[c,bv z.1.2.1 0 []],()) a∧Q (AZ (0,e,f.2.2,f.2.1,jO (af 8 100,[c,bv z.1.2.1 0 []],()) f.1,()))))))) (by kernel_rfl) (by
 conv=>zeta
 unfold Br;intro s p d i m Q ⟨⟨C,D,j⟩,l⟩;have f:∀n o q t,mK s p i m=((n,o,q),t)→Q ⟨0,(t,d,q,o,n,())⟩:=λn o q t e=>by rw[e]at l;exact l
 clear l;have g:=rl (b:=p) (k:=112) j;unfold mK at f;have w:fH p (af 8 112) i=fH p 112 i:=rfl;rw[w];generalize fH p 112 i=X at*;have x:X.2=true→1≤X.1.2.1.length:=λh=>((g h).1.2.2.2.2 (g h).2).1;have y:X.2=true→lp X.1.2.1≤8589934592:=λh=>((g h).1.2.2.2.2 (g h).2).2;have E:=gH X.1.2.1 0;clear g;refine⟨trivial,λh=>by simp at h,λ_=>⟨λa=>f _ _ _ _ (an ?_),λa=>?_⟩⟩
 ·intro e;simp[e]at a
 ·have z:¬(s.length≠32):=by simp at a;omega
  rw[ag z]at f;refine⟨⟨by omega,j⟩,λb=>f _ _ _ _ (an (by simpa using b)),λb=>?_⟩;have u:X.2=true:=by simpa using b
  have v:=x u;have A:=y u;rw[ag (by simp[u])]at f
  have F:(X.1.2.1.getD 0 []).length+8≤lp X.1.2.1:=by
   cases B:X.1.2.1 with
   |nil=>rw[B]at v;simp at v
   |cons a r=>simp[lp]
  refine⟨by omega,trivial,λc=>⟨⟨gD (.inr ⟨by decide,?_⟩) (.inr ⟨by decide, .inl (aC _)⟩),j.1⟩,f _ _ _ _ ?_⟩,λc=>⟨⟨gD (.inr ⟨by decide,?_⟩) (.inr ⟨by decide, .inl (aC _)⟩),j.1⟩,f _ _ _ _ ?_⟩⟩
  ·rw[K0];omega
  ·rw[an (show 0<sw s _ from ai c)];rfl
  ·rw[K0];omega
  ·rw[ag (show¬0<sw s _ from am c)];rfl)
def XK:bu:=(362,[VQ])::XJ
theorem a3t:KK XK:=⟨aP.add R7.1 (by kernel_rfl) (bo Nc),bg.add R7.2 (bo (λ_=>bH))⟩
def gv(ts:List Tm):List Tm×KV:=ts.foldl (λa t=>(jg t a.1 a.2).2) ([],[])
theorem A0{ts:List Tm}{k:Nat}(h:k<ts.length):gv (ts.take (k+1))=(jg (ts.getD k Fb) (gv (ts.take k)).1 (gv (ts.take k)).2).2:=by
 have:ts.take (k+1)=ts.take k++[ts.getD k Fb]:=by
  rw[eQ,ap h];simp[bv,ap h]
 rw[gv,this,List.foldl_append];rfl
theorem Ff(t:Tm)(ts:List Tm)(m:KV):(jg t ts m).2.1.length≤ts.length+1:=by
 unfold jg;split<;>simp
theorem y7(ts:List Tm):∀k,k≤ts.length→(gv (ts.take k)).1.length≤k
 |0,_=>by simp[gv]
 |k+1,h=>by rw[A0 (by omega)];have:=y7 ts k (by omega);have:=Ff (ts.getD k Fb) (gv (ts.take k)).1 (gv (ts.take k)).2;omega
def caH:List (Option CP):=lO++[some (.cells [.own 4, .mp 5, .d .i64]),some (.sl CJ),some (.mp .st .i64)]
def XL:Ct:=⟨1,⟨[sP 0],lO⟩,[⟨[(0,false,[.ptr 3 0])],caH⟩],λ(d,a,m,_)=>one (fg a) (d,a,m,d,(gv a).1,(gv a).2,())⟩
def caP:cc:=⟨[sP 0,(3,false,[.ptr 3 0]),(21,false,[.own 1]),sI 22,sI 23],caH⟩
def caI(d:Int)(ts:List Tm)(m:KV)(y:caP.den):Prop:=match y with
 |(n,i,e,c,f,g,a,b,_)=>n=ts.length∧e=d∧c=ts∧f=m∧g=d∧∃k:Nat,i=k∧k≤ts.length∧a=(gv (ts.take k)).1∧b=(gv (ts.take k)).2
def caA(x:XL.inp.den):dG:=⟨[(6,bM caP (caI x.1 x.2.1 x.2.2.1) λ(n,i,_)=>(n-i).toNat)],[],[],[],0⟩
abbrev XM(v:Int×List Tm×KV×Int×List Tm×KV×Unit):aN XL.out:=⟨0,v⟩
def XN:bu:=(34,[XL])::XK
theorem a3u:KK XN:=kA a3t caA (∀(c:Int)(d:List Tm)(f:KV)(Q:aN XL.out→Prop),(Ct.spec XL (c,d,f,())).sat Q→True∧Br (!true) False (True∧Is (caI c d f ((↑d.length:Int),0,c,d,f,c,[],[],()))∧∀(e a i:Int)(b:List Tm)(j:KV)(k:Int)(g:List Tm)(h:KV),let z:=b.getD a.toNat (af 8 0,[],());let l:=(z.1,z.2.1,());caI c d f (e,a,i,b,j,k,g,h,())→Br (decide (a<e)) ((0≤a∧a<(↑b.length:Int))∧RX l g∧ae (a+1)∧Is (caI c d f (e,a+1,i,b,j,k,(jg l g h).2.1,(jg l g h).2.2,())∧(e-(a+1)).toNat<(e-a).toNat)) (Q (XM (i,b,j,k,g,h,()))))) (by kernel_rfl) (by
 conv=>zeta
 unfold Br;intro d j m Q ⟨⟨r,l⟩,g⟩;have o:∀a b,(gv j)=(a,b)→Q ⟨0,(d,j,m,d,a,b,())⟩:=λa b e=>by rw[e]at g;exact g
 clear g;refine⟨trivial,λh=>by simp at h,λ_=>⟨trivial,⟨⟨rfl,rfl,rfl,rfl,rfl,0,rfl,aq _,rfl,rfl⟩⟩,?_⟩⟩;rintro n i s c t u a b ⟨rfl,rfl,rfl,rfl,rfl,k,rfl,p,rfl,rfl⟩;have v:=y7 c k p;refine⟨λh=>?_,λh=>o _ _ ?_⟩
 ·simp only[ah]at h;have f:k<c.length:=by omega
  have q:eC (c.getD k Fb):=l _ (by rw[az,ap f];exact rW _);have e:=A0 f;simp only[aG];refine⟨by omega,⟨q.1,by omega⟩,by unfold ae;omega,⟨⟨rfl,rfl,rfl,rfl,rfl,k+1,rfl,by omega,?_,?_⟩,by omega⟩⟩
  ·rw[e];rfl
  ·rw[e];rfl
 ·simp only[aj]at h;have:k=c.length:=by omega
  rw[this,bp])
def fd(n:Int):Int×Int:=if n<0 then(0,1)else if n<64 then(64,0)else if n<128 then(128,0)else if n<256 then(256,0)else if n<512 then(512,0)else if n<1024 then(1024,0)else if n<2048 then(2048,0)else if n<4096 then(4096,0)else(0,2)
def XO:Ct:=⟨1,⟨[sI 0],[]⟩,[⟨[sI 0,sI 1],[]⟩],λ(n,_)=>one True ((fd n).1,(fd n).2,())⟩
abbrev nu(v:Int×Int×Unit):aN XO.out:=⟨0,v⟩
def XP:bu:=(100,[XO])::XN
theorem a3v:KK XP:=kA a3u (cv XO 8) (∀(a:Int)(Q:aN XO.out→Prop),(Ct.spec XO (a,())).sat Q→Br (decide (a<0)) (Q (nu (0,1,()))) (Br (decide (a<64)) (Q (nu (64,0,()))) (Br (decide (a<128)) (Q (nu (128,0,()))) (Br (decide (a<256)) (Q (nu (256,0,()))) (Br (decide (a<512)) (Q (nu (512,0,()))) (Br (decide (a<1024)) (Q (nu (1024,0,()))) (Br (decide (a<2048)) (Q (nu (2048,0,()))) (Br (decide (a<4096)) (Q (nu (4096,0,()))) (Q (nu (0,2,()))))))))))) (by kernel_rfl) (by
 unfold Br;intro n Q ⟨_,a⟩;have f:∀b c,fd n=(b,c)→Q ⟨0,(b,c,())⟩:=λb c e=>by rw[e]at a;exact a
 clear a
 (repeat' (first|apply bQ|intro _))<;>(try simp only[ah,aj,aQ,ax,ne_eq,aO,aJ,bX,bR]at*)<;>first
  |assumption
  |(exact f _ _ (by clear f;grind[fd]))
  |omega)
theorem tO(n:Int):(fd n).2=0→0≤n∧n<(fd n).1∧64≤(fd n).1∧(fd n).1≤4096:=by
 unfold fd
 (repeat' split)<;>simp<;>omega
def lq(b:BL):BL×Int:=if(fd b.length).2=0 then(b++128::ak ((fd b.length).1.toNat-b.length-1) 0,0)else([],(fd b.length).2)
def XQ:Ct:=⟨1,⟨[sB 0],[]⟩,[⟨[sO 0 0,sI 1],[cB]⟩],λ(b,_)=>one True ((lq b).2,(lq b).1,())⟩
abbrev Nf(v:Int×BL×Unit):aN XQ.out:=⟨0,v⟩
def XR:bu:=(129,[XQ])::XP
theorem a3w:KK XR:=kA a3v (cv XQ 0) (∀(a:BL)(Q:aN XQ.out→Prop),let z:=fd (↑a.length:Int);let b:=dD (ak z.1.toNat (af 8 0)) a;(Ct.spec XQ (a,())).sat Q→True∧Br (!z.2==0) (Q (Nf (z.2,[],()))) ((0≤z.1∧z.1=z.1∧z.1*(1:Int)≤281474976710656)∧(0≤(↑a.length:Int)∧(↑a.length:Int)<(↑b.length:Int))∧Q (Nf (0,b.set (↑a.length:Int).toNat (af 8 128),())))) (by kernel_rfl) (by
 conv=>zeta
 unfold Br;intro b Q ⟨_,c⟩;have a:∀f g,lq b=(f,g)→Q ⟨0,(g,f,())⟩:=λf g e=>by rw[e]at c;exact c
 clear c;have j:=tO b.length;unfold lq at a;refine⟨trivial,λh=>a _ _ (ag (by simpa using h)),λh=>?_⟩;have i:(fd b.length).2=0:=by simpa using h
 obtain⟨n,o,p,q⟩:=j i;rw[an i]at a
 have l:(dD (ak (fd b.length).1.toNat (af 8 0)) b).length=(fd b.length).1.toNat:=by
  simp[dD];omega
 refine⟨⟨by omega,rfl,by omega⟩,⟨by omega,by rw[l];omega⟩,a _ _ ?_⟩;have m:(fd b.length).1.toNat=b.length+(1+((fd b.length).1.toNat-b.length-1)):=by omega
 generalize(fd b.length).1.toNat-b.length-1=k at*;rw[m,aG];simp only[dD,List.length_replicate,ee,Prod.mk.injEq,and_true];simp[ba,fj 1,List.replicate_succ])
def VR(b:BL):BL:=b.reverse.dropWhile (·==0)
def CL(b:BL):BL×Int:=match VR b with
 |[]=>([],11)
 |c::r=>if c=128 then(if(fd r.length).2=0∧(fd r.length).1=b.length then(r.reverse,0)else([],11))else([],11)
def XS:Ct:=⟨1,⟨[sB 0],[]⟩,[⟨[sO 0 0,sI 1],[cB]⟩],λ(b,_)=>one (b.length≤1099511627776) ((CL b).2,(CL b).1,())⟩
def upP:cc:=⟨[sB 0,sI 4],[]⟩
def upI(b a:BL)(i:Int):Prop:=a=b∧∃e:Nat,i=e-1∧e≤b.length∧VR (b.take e)=VR b
def upA(x:XS.inp.den):dG:=⟨[(2,bM upP (λy=>upI x.1 y.1 y.2.1) λy=>(y.2.1+1).toNat)],[],[],[],0⟩
theorem Fg{b:BL}{e:Nat}(h:e<b.length):VR (b.take (e+1))=if b.getD e 0=0 then VR (b.take e)else b.getD e 0::(b.take e).reverse:=by
 have:b.take (e+1)=b.take e++[b.getD e 0]:=by
  rw[eQ,ap h];simp[bv,ap h]
 rw[VR,this,List.reverse_append];simp only[List.reverse_singleton,List.singleton_append,List.dropWhile_cons,aQ];rfl
abbrev A2(v:Int×BL×Unit):aN XS.out:=⟨0,v⟩
def XT:bu:=(89,[XS])::XR
theorem a3x:KK XT:=kA a3w upA (∀(c:BL)(Q:aN XS.out→Prop),(Ct.spec XS (c,())).sat Q→ae ((↑c.length:Int)-1)∧Is (upI c c ((↑c.length:Int)-1))∧∀(b:BL)(a:Int),let e:= !(fd a).1==(↑b.length:Int);let f:=b.getD a.toNat (af 8 0)==af 8 0;let g:=b.getD a.toNat (af 8 0)==af 8 128;let z:Prop:=True∧Br (!(fd a).2==0) (Q (A2 (11,[],()))) (Br e (Q (A2 (11,[],()))) (((0:Int)≤0∧0≤a∧a≤(↑b.length:Int))∧(0+(cS a.toNat b).length)*1≤140737488355328∧Q (A2 (0,cS a.toNat b,()))));upI c b a→Br (decide (0≤a)) ((0≤a∧a<(↑b.length:Int))∧Br f (ae (a-1)∧Is (upI c b (a-1)∧(a-1+1).toNat<(a+1).toNat)) (Br g z (Q (A2 (11,[],()))))) z) (by kernel_rfl) (by
 conv=>zeta
 unfold Br;intro b Q ⟨s,g⟩;have a:∀j l,CL b=(j,l)→Q ⟨0,(l,j,())⟩:=λj l e=>by rw[e]at g;exact g
 clear g;refine⟨by unfold ae;omega,⟨⟨rfl,b.length,rfl,aC _,by rw[bp]⟩⟩,?_⟩;rintro o i ⟨rfl,e,rfl,t,f⟩;unfold CL at a;rw[←f]at a;have p:fd (-1)=(0,1):=rfl;cases e with
 |zero=>
  refine⟨λh=>absurd (ai h) (by omega),λ_=>⟨trivial,λ_=>a _ _ rfl,λh=>?_⟩⟩;exact absurd h (by decide)
 |succ e=>
  have q:((e+1:Nat):Int)-1=(e:Int):=by omega
  rw[q,aG];rw[Fg (by omega)]at a f;refine⟨λ_=>⟨by omega,λh=>⟨by unfold ae;omega,⟨⟨rfl,e,rfl,by omega,?_⟩,by omega⟩⟩,λh=>?_⟩,λh=>absurd (am h) (by omega)⟩
  ·rw[an (by simpa using h)]at f;exact f
  ·have r:¬(o.getD e 0=0):=by simpa using h
   rw[ag r]at a;simp only[List.length_reverse,bi,List.reverse_reverse,ee (show e≤o.length by omega)]at a;refine⟨λc=>⟨trivial,?_,λm=>⟨?_,λn=>⟨by omega,by simp;omega,?_⟩⟩⟩,λc=>a _ _ (ag (by simpa using c))⟩
   ·intro m;refine a _ _ ?_;rw[an (by simpa using c),ag];intro e;simp[e.1]at m
   ·intro n;refine a _ _ ?_;rw[an (by simpa using c),ag];intro e;simp[e.2]at n
   ·refine a _ _ ?_;rw[an (by simpa using c),an ⟨by simpa using m,by simpa using n⟩])
abbrev A3:Ty:= .pr .i64 (.pr .i64 (.pr .i64 (.pr tB (.pr tB .un))))
abbrev Lk:=Int×Int×Int×BL×BL×Unit
def pw(l:Lk):Bool:=decide (0≤l.1∧l.1<5∧1≤l.2.1∧l.2.1≤1048576∧1≤l.2.2.1∧l.2.2.1≤65536∧l.2.2.2.2.1.length=32∧(l.2.1=1∧l.2.2.2.1.length=0∨l.2.2.2.1.length=32))
def XU:Ct:=⟨1,⟨[(0,true,[.d A3])],[]⟩,[⟨[sL 0],[]⟩],λ(l,_)=>one True (pw l,())⟩
abbrev tP(v:Bool×Unit):aN XU.out:=⟨0,v⟩
def XV:bu:=(176,[XU])::XT
theorem R8:KK XV:=kA a3x (cv XU 0) (∀(a:Lk)(Q:aN XU.out→Prop),let b:Prop:=a.2.2.1≤65536;let e:Prop:=decide b=false→Q (tP (false,()));let f:=ac a.2.2.2.1;let g:=tP ((↑f:Int)==32,());let c:=(↑(ac a.2.2.2.2.1):Int)==32;let h:Prop:=c=false→Q (tP (false,()));let z:Prop:=Br (a.2.1==1) (Q (tP (false,()))) (Q (tP (false,())));(Ct.spec XU (a,())).sat Q→Br (decide (0≤a.1)) (Br (decide (a.1<5)) (Br (decide (1≤a.2.1)) (Br (decide (a.2.1≤1048576)) (Br (decide (1≤a.2.2.1)) (Br (a.2.1==1) ((decide b=true→(c=true→Br ((↑f:Int)==0) (Q (tP (true,()))) (Q g))∧h)∧e) ((decide b=true→(c=true→Q g)∧h)∧e)) z) z) z) z) z) (by kernel_rfl) (by
 conv=>zeta
 unfold Br;intro l Q ⟨_,a⟩;have b:∀y,pw l=y→Q ⟨0,(y,())⟩:=λy e=>by rw[e]at a;exact a
 clear a;unfold pw at b
 (repeat' (first|apply bQ|intro _))<;>(try simp only[ah,aj,aQ,ax,ne_eq,aO,aJ,bX,bR]at*)<;>first
  |assumption
  |(exact b _ (by clear b;grind))
  |omega)
def sS(i j:Nat):Nat×Bool×List IP:=(i,false,[.ifc 96 j 0])
def kH(j:Nat):List (Option CP):=[some (.cells [.own (j+1), .mp (j+2), .d .i64]),some (.sl CJ),some (.mp .st .i64)]
def kI(j k:Nat):List (Option CP):=[some (.cells [.own k, .mp (j+2), .d .i64]),none,some (.mp .st .i64)]
def cT:Option CP:=some (.sl CJ)
def D4(l:Lk):BL:=vn l.1++vn l.2.1++vn l.2.2.1++(vn l.2.2.2.1.length++l.2.2.2.1)++(vn l.2.2.2.2.1.length++l.2.2.2.2.1)
def lB(l:Lk)(ts:List Tm)(m:KV):BL×List Tm×KV:=if pw l then dT (104,[D4 l],()) ts m else([],ts,m)
def VS:Ct:=⟨2,⟨[sS 0 0,(1,true,[.d A3])],kH 0⟩,[⟨[sO 0 4],kI 0 3++[cT,cB]⟩],λ(l,d,a,m,_)=>one (a.length≤4294967296) (d,(lB l a m).2.2,(lB l a m).2.1,(lB l a m).1,())⟩
theorem oh{l:Lk}(h:pw l=true):0≤l.1∧l.1<5∧1≤l.2.1∧l.2.1≤1048576∧1≤l.2.2.1∧l.2.2.1≤65536∧l.2.2.2.2.1.length=32∧l.2.2.2.1.length≤32:=by
 unfold pw at h;simp only[ah]at h;omega
theorem pL{l:Lk}(h:pw l=true):(D4 l).length≤99:=by
 have:=oh h;have:=bz l.1;have:=bz l.2.1;have:=bz l.2.2.1;have:=bz l.2.2.2.1.length;have:=bz l.2.2.2.2.1.length;simp only[D4,aa];omega
abbrev Ng(v:Int×KV×List Tm×BL×Unit):aN VS.out:=⟨0,v⟩
theorem Nh:bO Tryz.prog 177 VS:=kC R8 (cv VS 0) (∀(a:Lk)(d:Int)(b:List Tm)(c:KV)(Q:aN VS.out→Prop),let g:= !pw (a.1,a.2.1,a.2.2.1,a.2.2.2.1,a.2.2.2.2.1,());let f:=vn (↑(ac a.2.2.2.2.1):Int)++a.2.2.2.2.1;let e:=vn (↑(ac a.2.2.2.1):Int)++a.2.2.2.1;let z:=jg (af 8 104,[vn a.1++vn a.2.1++vn a.2.2.1++e++f],()) b c;(Ct.spec VS (a,d,b,c,())).sat Q→True∧Br g (Q (Ng (d,c,b,[],()))) (0≤1099511627776∧ac (vn a.1)≤1099511627776∧(vn a.1++vn a.2.1).length≤1099511627776∧(vn a.1++vn a.2.1++vn a.2.2.1).length+ac a.2.2.2.1≤1099511627776∧(vn a.1++vn a.2.1++vn a.2.2.1++e).length+ac a.2.2.2.2.1≤1099511627776∧(aB (vn a.1++vn a.2.1++vn a.2.2.1++e++f)∧b.length≤4294967296)∧Q (Ng (d,z.2.2,z.2.1,jO (af 8 104,[vn a.1++vn a.2.1++vn a.2.2.1++e++f],()) z.1,())))) (by kernel_rfl) (by
 conv=>zeta
 unfold Br;rintro⟨a,q,c,pv,f,⟨⟩⟩ d o m Q ⟨p,g⟩;have b:∀i j l,lB (a,q,c,pv,f,()) o m=(i,j,l)→Q ⟨0,(d,l,j,i,())⟩:=λi j l e=>by rw[e]at g;exact g
 clear g;unfold lB at b;refine⟨trivial,λh=>b _ _ _ (ag (by simpa using h)),λh=>?_⟩;have n:pw (a,q,c,pv,f,())=true:=by simpa using h
 have r:=pL n;have:=oh n;have:=bz a;have:=bz q;have:=bz c;have:=bz pv.length;have:=bz f.length;simp only[D4,aa]at r⊢;rw[an n]at b;dsimp only at*;refine⟨by omega,by omega,by omega,by omega,by omega,⟨?_,p⟩,b _ _ _ rfl⟩;show ac _≤_;simp only[aa];omega)
def XW:bu:=(177,[VS])::XV
theorem a3y:KK XW:=⟨aP.add R8.1 (by kernel_rfl) (bo Nh),bg.add R8.2 (bo (λ_=>bH))⟩
abbrev J4:Ty:= .pr (.ar 32 .u8) (.pr (.ar 32 .u8) (.pr .i64 .un))
abbrev Kn:=BL×BL×Int×Unit
abbrev Ln:=List (Int×List Kn)
def dt(l:Ln)(a:Int):List Kn:=(aU .i64 a l).getD []
theorem uV(l:Ln)(a:Int):(aU .i64 a l).getD []=dt l a:=rfl
def bZ(l:Ln):Prop:=∀a,(dt l a).length≤1048576∧∀k∈dt l a,k.1.length=32∧k.2.1.length=32
def iW(j:Nat):List (Option CP):=[some (.cells [.mp (j+1)]),some (.mp .i64 (.sl J4))]
def XX:Ct:=⟨0,⟨[],[]⟩,[⟨[sP 0],iW 0⟩],λ_=>one True ([],())⟩
abbrev XY(v:Ln×Unit):aN XX.out:=⟨0,v⟩
def XZ:bu:=(68,[XX])::XW
theorem a3z:KK XZ:=kA a3y (cv XX 0) (∀(Q:aN XX.out→Prop),(Ct.spec XX ()).sat Q→Q (XY ([],()))) (by kernel_rfl) (by
 intro Q ⟨_,a⟩;exact a)
def pa:Kn:=(ak 32 0,ak 32 0,0,())
def xl(l:Ln)(a q:Int):BL×Int:=if q<1∨(dt l a).length<q then([],0)else(((dt l a).getD (q-1).toNat pa).1,((dt l a).getD (q-1).toNat pa).2.2.1)
theorem aT{α:Type}{l:List α}{j:Nat}{z:α}(h:j<l.length):l.getD j z∈l:=by
 rw[az,ap h];exact rW _
def X0:Ct:=⟨3,⟨[sP 0,sI 1,sI 2],iW 0⟩,[⟨[sO 0 2,sI 1],iW 0++[cB]⟩],λ(a,q,l,_)=>one (bZ l) ((xl l a q).2,l,(xl l a q).1,())⟩
abbrev Fh(v:Int×Ln×BL×Unit):aN X0.out:=⟨0,v⟩
def X1:bu:=(157,[X0])::XZ
theorem a30:KK X1:=kA a3z (cv X0 0) (∀(c a:Int)(b:Ln)(Q:aN X0.out→Prop),let e:=(aU Ty.i64 c b).getD [];let z:=e.getD (a-1).toNat (ak 32 (af 8 0),ak 32 (af 8 0),0,());(Ct.spec X0 (c,a,b,())).sat Q→Br (decide (a<1)) (Q (Fh (0,b,[],()))) (Br (decide ((↑e.length:Int)<a)) (Q (Fh (0,b,[],()))) (ae (a-1)∧(0≤a-1∧a-1<(↑e.length:Int))∧(0+ac z.1)*1≤140737488355328∧Q (Fh (z.2.2.1,b,z.1,()))))) (by kernel_rfl) (by
 conv=>zeta
 unfold Br;intro a q l Q ⟨j,c⟩;have b:∀f i,xl l a q=(f,i)→Q ⟨0,(i,l,f,())⟩:=λf i e=>by rw[e]at c;exact c
 clear c;unfold xl at b;rw[uV];obtain⟨p,m⟩:=j a;have n:(ak 32 (af 8 0),ak 32 (af 8 0),(0:Int),())=pa:=rfl;rw[n];generalize dt l a=L at*;refine⟨λh=>b _ _ (an (.inl (ai h))),λh=>⟨λg=>b _ _ (an (.inr (ai g))),λg=>?_⟩⟩;have r:=am h;have s:=am g;have o:=(m _ (aT (z:=pa) (show(q-1).toNat<L.length by omega))).1;exact⟨by unfold ae;omega,by omega,by rw[o];omega,b _ _ (ag (by omega))⟩)
abbrev J5:Ty:= .pr .i64 (.pr .i64 (.pr tB .un))
abbrev Hd:=Int×Int×BL×Unit
def fu(l:Ln)(a:Int):Hd:=if a<0∨5≤a then(0,0,[],())else(a,(dt l a).length,(xl l a (dt l a).length).1,())
def X2:Ct:=⟨2,⟨[sP 0,sI 1],iW 0⟩,[⟨[(0,true,[.d J5])],iW 0⟩],λ(a,l,_)=>one (bZ l) (fu l a,l,())⟩
abbrev Ni(v:(Int×Int×BL×Unit)×Ln×Unit):aN X2.out:=⟨0,v⟩
def X3:bu:=(117,[X2])::X1
theorem a31:KK X3:=kA a30 (cv X2 0) (∀(a:Int)(b:Ln)(Q:aN X2.out→Prop),let c:=(aU Ty.i64 a b).getD [];let z:=Ni ((0,0,[],()),b,());(Ct.spec X2 (a,b,())).sat Q→Br (decide (a<0)) (Q z) (Br (decide (5≤a)) (Q z) (bZ b∧Q (Ni ((a,(↑c.length:Int),(xl b a (↑c.length:Int)).1,()),b,()))))) (by kernel_rfl) (by
 conv=>zeta
 unfold Br;intro a l Q ⟨f,c⟩;have b:∀y,fu l a=y→Q ⟨0,(y,l,())⟩:=λy e=>by rw[e]at c;exact c
 clear c;unfold fu at b;refine⟨λh=>b _ (an (.inl (ai h))),λh=>⟨λg=>b _ (an (.inr (ai g))),λg=>⟨f,b _ (ag ?_)⟩⟩⟩;have i:=am h;have j:=am g;omega)
def CM(lk:Lk)(l:Ln)(ts:List Tm)(m:KV):Ln:=cF (kt:= .i64) lk.1 (dt l lk.1++[(dD (ak 32 0) (lB lk ts m).1,dD (ak 32 0) lk.2.2.2.2.1,lk.2.2.1,())]) l
def X4:Ct:=⟨3,⟨[sP 0,sS 1 2,(2,true,[.d A3])],iW 0++kH 2⟩,[⟨[],iW 0++kI 2 5++[cT]⟩],λ(lk,l,d,a,m,_)=>one (a.length≤4294967296∧bZ l) (CM lk l a m,d,(lB lk a m).2.2,(lB lk a m).2.1,())⟩
abbrev X5(v:Ln×Int×KV×List Tm×Unit):aN X4.out:=⟨0,v⟩
def X6:bu:=(162,[X4])::X3
theorem R9:KK X6:=kA a31 (cv X4 0) (∀(a:Lk)(b:Ln)(e:Int)(c:List Tm)(d:KV)(Q:aN X4.out→Prop),let f:=lB (a.1,a.2.1,a.2.2.1,a.2.2.2.1,a.2.2.2.2.1,()) c d;let z:=(aU Ty.i64 a.1 b).getD [];(Ct.spec X4 (a,b,e,c,d,())).sat Q→c.length≤4294967296∧((0:Int)≤0∧0≤(↑z.length:Int)∧(↑z.length:Int)=(↑z.length:Int)∧(↑z.length:Int)≤(↑z.length:Int))∧0<[(dD (ak 32 (af 8 0)) f.1,dD (ak 32 (af 8 0)) a.2.2.2.2.1,a.2.2.1,())].length∧((cS (↑z.length:Int).toNat z).length+[(dD (ak 32 (af 8 0)) f.1,dD (ak 32 (af 8 0)) a.2.2.2.2.1,a.2.2.1,())].length)*72≤140737488355328∧Q (X5 (dy Ty.i64 a.1 (cS (↑z.length:Int).toNat z++[(dD (ak 32 (af 8 0)) f.1,dD (ak 32 (af 8 0)) a.2.2.2.2.1,a.2.2.1,())]) b,e,f.2.2,f.2.1,()))) (by kernel_rfl) (by
 conv=>zeta
 rintro⟨a,q,g,pv,h,⟨⟩⟩ l d i m Q ⟨⟨c,f⟩,b⟩;dsimp only at*;obtain⟨j,n⟩:=f a;rw[uV];unfold CM at b;dsimp only at b;have e:((dt l a).length:Int).toNat=(dt l a).length:=aG _;rw[e,bp];refine⟨c,⟨by omega,by omega,rfl,by omega⟩,by simp,?_,b⟩;simp only[aa,bb];omega)
def iB(lk:Lk)(l:Ln)(ts:List Tm)(m:KV):Int×List Tm×KV:=
 if pw lk=false then(1,ts,m)
 else if lk.2.1≤(dt l lk.1).length then((if((dt l lk.1).getD (lk.2.1-1).toNat pa).1=(lB lk ts m).1 then 16 else 18),(lB lk ts m).2)
 else if(dt l lk.1).length+1<lk.2.1 then(15,ts,m)
 else if(fu l lk.1).2.2.1≠lk.2.2.2.1 then(17,ts,m)
 else if 0<(dt l lk.1).length∧lk.2.2.1<((dt l lk.1).getD ((dt l lk.1).length-1) pa).2.2.1 then(20,ts,m)
 else(0,ts,m)
def VT:Ct:=⟨3,⟨[sP 0,sS 1 2,(2,true,[.d A3])],iW 0++kH 2⟩,[⟨[sI 0],iW 0++kI 2 5++[cT]⟩],λ(lk,l,d,a,m,_)=>one (a.length≤4294967296∧bZ l) ((iB lk l a m).1,l,d,(iB lk l a m).2.2,(iB lk l a m).2.1,())⟩
abbrev pb(v:Int×Ln×Int×KV×List Tm×Unit):aN VT.out:=⟨0,v⟩
theorem Nj:bO Tryz.prog 161 VT:=kC R9 (cv VT 0) (∀(a:Lk)(b:Ln)(e:Int)(c:List Tm)(d:KV)(Q:aN VT.out→Prop),let j:= !(fu b a.1).2.2.1==a.2.2.2.1;let g:=(b,e,d,c,());let h:=(a.1,a.2.1,a.2.2.1,a.2.2.2.1,a.2.2.2.2.1,());let f:=(aU Ty.i64 a.1 b).getD [];let l:Prop:=a.2.1≤(↑f.length:Int);let i:=(↑f.length:Int)-1;let m:Prop:=(↑f.length:Int)+1<a.2.1;let n:=(f.getD (a.2.1-1).toNat (ak 32 (af 8 0),ak 32 (af 8 0),0,())).1==(lB h c d).1;let o:Prop:=a.2.2.1<(f.getD i.toNat (ak 32 (af 8 0),ak 32 (af 8 0),0,())).2.2.1;let z:Prop:=0<(↑f.length:Int);(Ct.spec VT (a,b,e,c,d,())).sat Q→True∧Br (!pw h) (Q (pb (1,g))) (Br (decide l) (ae (a.2.1-1)∧(0≤a.2.1-1∧a.2.1-1<(↑f.length:Int))∧c.length≤4294967296∧True∧Br n (Q (pb (16,b,e,(lB h c d).2.2,(lB h c d).2.1,()))) (Q (pb (18,b,e,(lB h c d).2.2,(lB h c d).2.1,())))) (ae ((↑f.length:Int)+1)∧Br (decide m) (Q (pb (15,g))) (bZ b∧True∧Br j (Q (pb (17,g))) (Br (decide z) (decide z=true∧decide z=true∧decide z=true∧decide z=true∧decide z=true∧ae i∧decide z=true∧(0≤(↑f.length:Int)-1∧(↑f.length:Int)-1<(↑f.length:Int))∧decide z=true∧decide z=true∧decide z=true∧decide z=true∧Br (decide o) (Q (pb (20,g))) (Q (pb (0,g)))) (decide z=false∧decide z=false∧decide z=false∧decide z=false∧decide z=false∧decide z=false∧decide z=false∧decide z=false∧decide z=false∧decide z=false∧Q (pb (0,g)))))))) (by kernel_rfl) (by
 conv=>zeta
 unfold Br;rintro⟨a,q,c,pv,f,⟨⟩⟩ l d u m Q ⟨⟨z,v⟩,i⟩;have b:∀j o r,iB (a,q,c,pv,f,()) l u m=(j,o,r)→Q ⟨0,(j,l,d,r,o,())⟩:=λj o r e=>by rw[e]at i;exact i
 clear i;obtain⟨C,E⟩:=v a;unfold iB at b;rw[uV];have w:(ak 32 (af 8 0),ak 32 (af 8 0),(0:Int),())=pa:=rfl;rw[w];dsimp only at*;refine⟨trivial,λh=>b _ _ _ (an (by simpa using h)),λh=>?_⟩;have x:pw (a,q,c,pv,f,())=true:=by simpa using h
 have s:=oh x;dsimp only at s;rw[ag (by simp[x])]at b;have y:((dt l a).length-1:Int).toNat=(dt l a).length-1:=by omega
 rw[y];clear h y w;have F:fu l a=fu l a:=rfl;generalize fu l a=H at*;generalize lB (a,q,c,pv,f,()) u m=D at*;generalize dt l a=L at*;refine⟨λh=>?_,λh=>?_⟩
 ·have t:=ai h;rw[an t]at b;refine⟨by unfold ae;omega,by omega,z,trivial,λg=>b _ _ _ ?_,λg=>b _ _ _ ?_⟩
  ·rw[an (by simpa using g)]
  ·rw[ag (by simpa using g)]
 ·have t:=am h;rw[ag t]at b;refine⟨by unfold ae;omega,λg=>b _ _ _ (an (ai g)),λg=>?_⟩;rw[ag (am g)]at b;refine⟨v,trivial,λk=>b _ _ _ (an (by simpa using k)),λk=>?_⟩;rw[ag (by simpa using k)]at b;refine⟨λn=>?_,λn=>?_⟩
  ·have A:=ai n
   repeat refine⟨n,?_⟩
   refine⟨by unfold ae;omega,?_⟩
   repeat refine⟨n,?_⟩
   refine⟨by omega,?_⟩
   repeat refine⟨n,?_⟩
   exact⟨λp=>b _ _ _ (an ⟨by omega,ai p⟩),λp=>b _ _ _ (ag λB=>am p B.2)⟩
  ·have A:=am n
   repeat refine⟨n,?_⟩
   exact b _ _ _ (ag (by omega)))
def X7:bu:=(161,[VT])::X6
theorem Sa:KK X7:=⟨aP.add R9.1 (by kernel_rfl) (bo Nj),bg.add R9.2 (bo (λ_=>bH))⟩
theorem Sb(t:Tm)(ts:List Tm)(m:KV):(dT t ts m).2.1.length≤ts.length+1:=Ff t ts m
theorem Fi(lk:Lk)(ts:List Tm)(m:KV):(lB lk ts m).2.1.length≤ts.length+1:=by
 unfold lB;split
 ·exact Sb _ _ _
 ·simp
theorem Se(lk:Lk)(l:Ln)(ts:List Tm)(m:KV):(iB lk l ts m).2.1.length≤ts.length+1:=by
 have:=Fi lk ts m;unfold iB;(repeat' split)<;>simp<;>omega
def nK(lk:Lk)(l:Ln)(ts:List Tm)(m:KV):Int×Ln×List Tm×KV:=
 if(iB lk l ts m).1=0 then(0,CM lk l (iB lk l ts m).2.1 (iB lk l ts m).2.2,(lB lk (iB lk l ts m).2.1 (iB lk l ts m).2.2).2)else((iB lk l ts m).1,l,(iB lk l ts m).2)
def VU:Ct:=⟨3,⟨[sP 0,sS 1 2,(2,true,[.d A3])],iW 0++kH 2⟩,[⟨[sI 0],iW 0++kI 2 5++[cT]⟩],λ(lk,l,d,a,m,_)=>one (a.length≤4294967295∧bZ l) ((nK lk l a m).1,(nK lk l a m).2.1,d,(nK lk l a m).2.2.2,(nK lk l a m).2.2.1,())⟩
abbrev Nk(v:Int×Ln×Int×KV×List Tm×Unit):aN VU.out:=⟨0,v⟩
theorem Nl:bO Tryz.prog 120 VU:=kC Sa (cv VU 0) (∀(a:Lk)(b:Ln)(e:Int)(c:List Tm)(d:KV)(Q:aN VU.out→Prop),let z:=(a.1,a.2.1,a.2.2.1,a.2.2.2.1,a.2.2.2.2.1,());let f:=lB z (iB z b c d).2.1 (iB z b c d).2.2;(Ct.spec VU (a,b,e,c,d,())).sat Q→(c.length≤4294967296∧bZ b)∧Br (!(iB z b c d).1==0) (Q (Nk ((iB z b c d).1,b,e,(iB z b c d).2.2,(iB z b c d).2.1,()))) (((iB z b c d).2.1.length≤4294967296∧bZ b)∧Q (Nk (0,CM z b (iB z b c d).2.1 (iB z b c d).2.2,e,f.2.2,f.2.1,())))) (by kernel_rfl) (by
 conv=>zeta
 unfold Br;rintro⟨a,q,n,pv,o,⟨⟩⟩ l d p m Q ⟨⟨s,r⟩,b⟩;have c:∀f g i j,nK (a,q,n,pv,o,()) l p m=(f,g,i,j)→Q ⟨0,(f,g,d,j,i,())⟩:=λf g i j e=>by rw[e]at b;exact b
 clear b;unfold nK at c;dsimp only at*;have t:=Se (a,q,n,pv,o,()) l p m;refine⟨⟨by omega,r⟩,λh=>c _ _ _ _ (ag (by simpa using h)),λh=>⟨⟨by omega,r⟩,c _ _ _ _ (an (by simpa using h))⟩⟩)
def X8:bu:=(120,[VU])::X7
theorem Sf:KK X8:=⟨aP.add Sa.1 (by kernel_rfl) (bo Nl),bg.add Sa.2 (bo (λ_=>bH))⟩
def sF(l:Ln)(k:Nat):List Hd:=(List.range k).filterMap λ(a:Nat)=>if 0<(fu l (a:Int)).2.1 then some (fu l (a:Int))else none
theorem xm(l:Ln)(k:Nat):sF l (k+1)=sF l k++(if 0<(fu l (k:Int)).2.1 then[fu l (k:Int)]else[]):=by
 unfold sF;rw[List.range_succ,List.filterMap_append];congr 1;by_cases h:0<(fu l (k:Int)).2.1<;>simp[h]
theorem A4(l:Ln):∀k,(sF l k).length≤k
 |0=>by simp[sF]
 |k+1=>by rw[xm];have:=A4 l k;split<;>simp<;>omega
def cHd:Option CP:=some (.sl J5)
def VV:Ct:=⟨1,⟨[sP 0],iW 0⟩,[⟨[sO 0 2],iW 0++[cHd]⟩],λ(l,_)=>one (bZ l) (l,sF l 5,())⟩
def vcP:cc:=⟨[sP 0,sO 3 2,sI 6],iW 0++[cHd]⟩
def lN(l:Ln)(y:vcP.den):Prop:=match y with
 |(i,a,v,_)=>a=l∧∃k:Nat,i=k∧k≤5∧v=sF l k
def vcA(x:VV.inp.den):dG:=⟨[(3,bM vcP (lN x.1) λ(i,_)=>(5-i).toNat)],[],[],[],0⟩
abbrev X9(v:Ln×List (Int×Int×BL×Unit)×Unit):aN VV.out:=⟨0,v⟩
theorem EU:bO Tryz.prog 105 VV:=kC Sf vcA (∀(c:Ln)(Q:aN VV.out→Prop),(Ct.spec VV (c,())).sat Q→Is (lN c (0,c,[],()))∧∀(a:Int)(b:Ln)(d:List (Int×Int×BL×Unit)),let z:Prop:=(5-(a+1)).toNat<(5-a).toNat;lN c (a,b,d,())→Br (decide (a<5)) (bZ b∧Br (decide (0<(fu b a).2.1)) ((d.length+[((fu b a).1,(fu b a).2.1,(fu b a).2.2.1,())].length)*40≤140737488355328∧ae (a+1)∧Is (lN c (a+1,b,d++[((fu b a).1,(fu b a).2.1,(fu b a).2.2.1,())],())∧z)) (ae (a+1)∧Is (lN c (a+1,b,d,())∧z))) (Q (X9 (b,d,())))) (by kernel_rfl) (by
 conv=>zeta
 unfold Br;intro l Q ⟨c,e⟩;refine⟨⟨rfl,0,rfl,by omega,rfl⟩,?_⟩;rintro i a v ⟨rfl,k,rfl,f,rfl⟩;have j:=A4 a k;have b:=xm a k;simp only[ah,aj];refine⟨λh=>⟨c,λg=>⟨?_,by unfold ae;omega,⟨⟨rfl,k+1,rfl,by omega,?_⟩,by omega⟩⟩,λg=>⟨by unfold ae;omega,⟨⟨rfl,k+1,rfl,by omega,?_⟩,by omega⟩⟩⟩,λh=>?_⟩
 ·simp only[aa,bb];omega
 ·rw[b,an g]
 ·rw[b,ag g,bj]
 ·have:k=5:=by omega
  subst this;exact e)
def Ya:bu:=(105,[VV])::X8
theorem a32:KK Ya:=⟨aP.add Sf.1 (by kernel_rfl) (bo EU),bg.add Sf.2 (bo (λ_=>bH))⟩
def Sg(last:Int):List Hd→Bool
 |[]=>true
 |h::r=>if h.1≤last∨5≤h.1∨h.2.1<1∨1048576<h.2.1∨h.2.2.1.length≠32 then false else Sg h.1 r
def Yb:Ct:=⟨1,⟨[(0,false,[.d (.sl J5)])],[]⟩,[⟨[sL 0],[]⟩],λ(v,_)=>one (v.length≤1099511627776) (Sg (-1) v,())⟩
def voP:cc:=⟨[sI 3,(6,false,[.d (.sl J5)]),sI 7,sI 8],[]⟩
def voI(v:List Hd)(y:voP.den):Prop:=match y with
 |(a,b,n,i,_)=>b=v∧n=v.length∧∃k:Nat,i=k∧k≤v.length∧Sg a (v.drop k)=Sg (-1) v
def voA(x:Yb.inp.den):dG:=⟨[(3,bM voP (voI x.1) λ(_,_,n,i,_)=>(n-i).toNat)],[],[],[],0⟩
theorem cW{α:Type}{l:List α}{k:Nat}{z:α}(h:k<l.length):l.drop k=l.getD k z::l.drop (k+1):=by
 rw[List.drop_eq_getElem_cons h,az,ap h];rfl
abbrev tQ(v:Bool×Unit):aN Yb.out:=⟨0,v⟩
def Yc:bu:=(216,[Yb])::Ya
theorem a33:KK Yc:=kA a32 voA (∀(c:List (Int×Int×BL×Unit))(Q:aN Yb.out→Prop),(Ct.spec Yb (c,())).sat Q→Is (voI c ((-1:Int),c,(↑c.length:Int),0,()))∧∀(e:Int)(b:List (Int×Int×BL×Unit))(d a:Int),let z:=b.getD a.toNat (0,0,[],());let f:= !(↑(ac z.2.2.1):Int)==32;voI c (e,b,d,a,())→Br (decide (a<d)) ((0≤a∧a<(↑b.length:Int))∧Br (decide (z.1≤e)) (Q (tQ (false,()))) (Br (decide (5≤z.1)) (Q (tQ (false,()))) (Br (decide (z.2.1<1)) (Q (tQ (false,()))) (Br (decide (1048576<z.2.1)) (Q (tQ (false,()))) (Br f (Q (tQ (false,()))) (ae (a+1)∧Is (voI c (z.1,b,d,a+1,())∧(d-(a+1)).toNat<(d-a).toNat))))))) (Q (tQ (true,())))) (by kernel_rfl) (by
 conv=>zeta
 unfold Br;intro v Q ⟨r,c⟩;have b:∀y,Sg (-1) v=y→Q ⟨0,(y,())⟩:=λy e=>by rw[e]at c;exact c
 clear c;refine⟨⟨rfl,rfl,0,rfl,by omega,rfl⟩,?_⟩;rintro j l n i ⟨rfl,rfl,k,rfl,s,a⟩;simp only[ah,aj,aG];refine⟨λh=>⟨by omega,?_⟩,λh=>b _ ?_⟩
 ·have m:=cW (z:=((0,0,[],()):Hd)) (show k<l.length by omega);rw[m]at a;generalize l.getD k (0,0,[],())=H at*;simp only[Sg]at a;refine⟨λg=>b _ ?_,λg=>⟨λo=>b _ ?_,λo=>⟨λp=>b _ ?_,λp=>⟨λq=>b _ ?_,λq=>⟨λf=>b _ ?_,λf=>⟨by unfold ae;omega,⟨⟨rfl,rfl,k+1,rfl,by omega,?_⟩,by omega⟩⟩⟩⟩⟩⟩⟩
  ·rw[←a,an (by omega)]
  ·rw[←a,an (by omega)]
  ·rw[←a,an (by omega)]
  ·rw[←a,an (by omega)]
  ·rw[←a,an (.inr (.inr (.inr (.inr (λe=>by simp[e]at f)))))]
  ·rw[←a,ag];have t:(H.2.2.1.length:Int)=32:=by simpa using f
   omega
 ·rw[←a,bw (by omega)];rfl)
abbrev ic:Ty:= .pr .i64 (.pr .i64 .un)
abbrev Fk:=Int×Int×Unit
abbrev tRl:Ty:= .pr .bl (.pr .bl .un)
abbrev Rl:=Bool×Bool×Unit
def J6:Option CP:=some (.sl ic)
def Yd:Ct:=⟨2,⟨[sP 0,(1,false,[.d (.sl J5)])],iW 0⟩,[⟨[(0,true,[.d tRl]),sO 1 2,sI 2],iW 0++[J6]⟩],λ(v,l,_)=> .need (bZ l∧v.length≤1000000) (.all (Rl×List Fk×Int) (λy=>y.2.1.length≤v.length∧(y.2.2=0∨y.2.2=1)) λy=> .leaf ⟨0,(y.1,y.2.2,l,y.2.1,())⟩)⟩
def cpH:List (Option CP):=iW 0++[some (.cells [.d .bl, .d .bl]),some (.cells [.d .bl, .d .bl]),J6,some (.mp .i64 .i64)]
def cpP:cc:=⟨[sP 0,(4,false,[.ptr 2 0]),(7,false,[.ptr 3 0]),sO 8 4,(9,false,[.mp 5]),(24,false,[.d (.sl J5)]),sI 25,sI 26],cpH⟩
def VW(v:List Hd)(l:Ln)(y:cpP.den):Prop:=match y with
 |(a,n,i,b,_,_,_,_,f,_)=>a=v∧b=l∧n=v.length∧∃k:Nat,i=k∧k≤v.length∧f.length≤k
def cqP:cc:=⟨[sP 0,(4,false,[.ptr 2 0]),(7,false,[.ptr 3 0]),sO 8 4,(9,false,[.mp 5]),sI 61],cpH⟩
def Ye(v:List Hd)(l:Ln)(y:cqP.den):Prop:=match y with
 |(i,a,_,_,_,_,f,_)=>a=l∧∃k:Nat,i=k∧k≤5∧f.length≤v.length
def cpA(x:Yd.inp.den):dG:=⟨[(7,bM cpP (VW x.1 x.2.1) λ(_,n,i,_)=>(n-i).toNat),(17,bM cqP (Ye x.1 x.2.1) λ(i,_)=>(5-i).toNat)],[],[],[],0⟩
abbrev Nn(v:(Bool×Bool×Unit)×Int×Ln×List Fk×Unit):aN Yd.out:=⟨0,v⟩
def Yf:bu:=(201,[Yd])::Yc
theorem a34:KK Yf:=kA a33 cpA (∀(c:List (Int×Int×BL×Unit))(e:Ln)(Q:aN Yd.out→Prop),(Ct.spec Yd (c,e,())).sat Q→c.length≤1099511627776∧Br (!Sg (-1:Int) c) (Q (Nn ((false,false,()),1,e,[],()))) (Is (VW c e (c,(↑c.length:Int),0,e,false,false,false,false,[],[],()))∧∀(b:List (Int×Int×BL×Unit))(f a:Int)(g:Ln)(j k l o:Bool)(h:List Fk)(m:List (Int×Int)),let u:Prop:=(f-(a+1)).toNat<(f-a).toNat;let z:=b.getD a.toNat (0,0,[],());let v:=xl g z.1 z.2.1;VW c e (b,f,a,g,j,k,l,o,h,m,())→Br (decide (a<f)) ((0≤a∧a<(↑b.length:Int))∧bZ g∧Br (v.2==0) (ae (a+1)∧Is (VW c e (b,f,a+1,g,j,k,l,true,h,dy Ty.i64 z.1 z.2.1 m,())∧u)) (True∧Br (!v.1==z.2.2.1) ((h.length+[(z.1,z.2.1,())].length)*16≤140737488355328∧ae (a+1)∧Is (VW c e (b,f,a+1,g,j,k,l,o,h++[(z.1,z.2.1,())],dy Ty.i64 z.1 z.2.1 m,())∧u)) (ae (a+1)∧Is (VW c e (b,f,a+1,g,j,k,l,o,h,dy Ty.i64 z.1 z.2.1 m,())∧u)))) (Is (Ye c e (0,g,j,k,l,o,h,m,()))∧∀(d:Int)(i:Ln)(r s t p:Bool)(q:List Fk)(n:List (Int×Int)),let w:Prop:=(5-(d+1)).toNat<(5-d).toNat;let x:Prop:=(aU Ty.i64 d n).getD 0<(↑((aU Ty.i64 d i).getD []).length:Int);Ye c e (d,i,r,s,t,p,q,n,())→Br (decide (d<5)) (Br (decide x) (ae (d+1)∧Is (Ye c e (d+1,i,r,s,true,p,q,n,())∧w)) (ae (d+1)∧Is (Ye c e (d+1,i,r,s,t,p,q,n,())∧w))) (Q (Nn ((t,p,()),0,i,q,())))))) (by kernel_rfl) (by
 conv=>zeta
 unfold Br;intro v l Q ⟨⟨c,q⟩,b⟩;refine⟨by omega,λ_=>b ((false,false,()),[],1) ⟨aq _, .inr rfl⟩,λ_=>⟨⟨rfl,rfl,rfl,0,rfl,by omega,aq _⟩,?_⟩⟩;rintro r n i s _ _ t u f w ⟨rfl,rfl,rfl,k,rfl,x,y⟩;simp only[ah,aj,aa,bb];refine⟨λh=>⟨by omega,c,λg=>⟨by unfold ae;omega,⟨⟨rfl,rfl,rfl,k+1,rfl,by omega,by omega⟩,by omega⟩⟩,λg=>⟨trivial,λe=>⟨by omega,by unfold ae;omega,⟨⟨rfl,rfl,rfl,k+1,rfl,by omega,by simp;omega⟩,by omega⟩⟩,λe=>⟨by unfold ae;omega,⟨⟨rfl,rfl,rfl,k+1,rfl,by omega,by omega⟩,by omega⟩⟩⟩⟩,λh=>⟨⟨rfl,0,rfl,by omega,by omega⟩,?_⟩⟩;rintro j z _ _ m o p A ⟨rfl,j,rfl,B,a⟩;refine⟨λh=>⟨λg=>⟨by unfold ae;omega,⟨⟨rfl,j+1,rfl,by omega,a⟩,by omega⟩⟩,λg=>⟨by unfold ae;omega,⟨⟨rfl,j+1,rfl,by omega,a⟩,by omega⟩⟩⟩,λh=>?_⟩;exact b ((m,o,()),p,0) ⟨a, .inl rfl⟩) (l:=λ_=>Live.need λ_=>Live.all ⟨((false,false,()),[],0),⟨aq _, .inl rfl⟩,Live.leaf⟩)
def J7(a:List Kn)(p:BL):BL:=a.foldl (λp k=>p++(vn k.2.1.length++k.2.1)++vn k.2.2.1) p
def lC(l:Ln)(p:BL)(k:Nat):BL:=(List.range k).foldl (λp(a:Nat)=>J7 (dt l (a:Int)) (p++vn (dt l (a:Int)).length)) p
theorem cK{α:Type}{l:List α}{k:Nat}{z:α}(h:k<l.length):l.take (k+1)=l.take k++[l.getD k z]:=by
 rw[eQ,ap h];simp[bv,ap h]
theorem xn{a:List Kn}{r:Nat}(h:r<a.length)(q:BL):J7 (a.take (r+1)) q=J7 (a.take r) q++(vn (a.getD r pa).2.1.length++(a.getD r pa).2.1)++vn (a.getD r pa).2.2.1:=by
 rw[cK (z:=pa) h,J7,List.foldl_append];rfl
theorem rm(l:Ln)(p:BL)(k:Nat):lC l p (k+1)=J7 (dt l (k:Int)) (lC l p k++vn (dt l (k:Int)).length):=by
 rw[lC,List.range_succ,List.foldl_append];rfl
theorem uW{a:List Kn}(h:∀k∈a,k.1.length=32∧k.2.1.length=32)(q:BL):∀r,r≤a.length→(J7 (a.take r) q).length≤q.length+r*46
 |0,_=>by simp[J7]
 |r+1,b=>by
  have c:=uW h q r (by omega);have:=(h _ (aT (z:=pa) (show r<a.length by omega))).2;have:=bz (a.getD r pa).2.1.length;have:=bz (a.getD r pa).2.2.1;rw[xn (by omega)];simp only[aa];omega
theorem pM{l:Ln}(h:bZ l)(p:BL):∀k,(lC l p k).length≤p.length+k*48234503
 |0=>by simp[lC]
 |k+1=>by
  have b:=pM h p k;obtain⟨c,a⟩:=h k;rw[rm];have:=uW a (lC l p k++vn (dt l (k:Int)).length) _ (aC _);rw[bp]at this;have:=bz (dt l (k:Int)).length;simp only[aa]at*;omega
def Yg:Ct:=⟨2,⟨[sP 0,sB 1],iW 0⟩,[⟨[(0,false,[.d tB])],iW 0⟩],λ(p,l,_)=>one (bZ l∧p.length≤1073741824) (lC l p 5,l,())⟩
def bpP:cc:=⟨[sP 0,sB 1,sI 13],iW 0⟩
def bpI(p:BL)(l:Ln)(y:bpP.den):Prop:=match y with
 |(q,i,a,_)=>a=l∧∃k:Nat,i=k∧k≤5∧q=lC l p k
def bqP:cc:=⟨[sP 0,sB 1,sI 5,sI 13,(30,false,[.d (.sl J4)]),sI 31,sI 32],iW 0⟩
def bqI(p:BL)(l:Ln)(c:Int)(y:bqP.den):Prop:=match y with
 |(q,a,i,b,n,j,e,_)=>e=l∧a=i∧c=i∧∃k:Nat,i=k∧k<5∧b=dt l k∧n=b.length∧∃r:Nat,j=r∧r≤b.length∧q=J7 (b.take r) (lC l p k++vn b.length)
def bpA(x:Yg.inp.den):dG:=⟨[(4,og bpP (bpI x.1 x.2.1) (λ(_,i,_)=>(5-i).toNat) λy=>[(8,bM bqP (bqI x.1 x.2.1 y.2.1) λ(_,_,_,_,n,j,_)=>(n-j).toNat)])],[],[],[(10,7,0)],0⟩
abbrev Yh(v:BL×Ln×Unit):aN Yg.out:=⟨0,v⟩
def Yi:bu:=(126,[Yg])::Yf
theorem Sh:KK Yi:=kA a34 bpA (∀(d:BL)(e:Ln)(Q:aN Yg.out→Prop),(Ct.spec Yg (d,e,())).sat Q→Is (bpI d e (d,0,e,()))∧∀(j:BL)(b:Int)(f:Ln),let m:=aU Ty.i64 b f;bpI d e (j,b,f,())→Br (decide (b<5)) (j.length≤1099511627776∧Is (bqI d e b (j++vn (↑(m.getD []).length:Int),b,b,m.getD [],(↑(m.getD []).length:Int),0,f,()))∧∀(h:BL)(l i:Int)(c:List Kn)(g a:Int)(k:Ln),let z:=c.getD a.toNat (ak 32 (af 8 0),ak 32 (af 8 0),0,());let n:=vn (↑(ac z.2.1):Int)++z.2.1;bqI d e b (h,l,i,c,g,a,k,())→Br (decide (a<g)) ((0≤a∧a<(↑c.length:Int))∧h.length+ac z.2.1≤1099511627776∧(h++n).length≤1099511627776∧ae (a+1)∧Is (bqI d e b (h++n++vn z.2.2.1,l,i,c,g,a+1,k,())∧(g-(a+1)).toNat<(g-a).toNat)) (ae (i+1)∧Is (bpI d e (h,i+1,k,())∧(5-(i+1)).toNat<(5-b).toNat))) (Q (Yh (j,f,())))) (by kernel_rfl) (by
 conv=>zeta
 unfold Br;intro p l Q ⟨⟨f,D⟩,u⟩;refine⟨⟨rfl,0,rfl,by omega,rfl⟩,?_⟩;rintro q i v ⟨rfl,k,rfl,E,rfl⟩;simp only[uV,ah,aj];have w:=pM f p k;have s:=rm v p k;refine⟨λh=>⟨by omega,⟨rfl,rfl,rfl,k,rfl,by omega,rfl,rfl,0,rfl,aq _,rfl⟩,?_⟩,λh=>?_⟩
 ·rintro F G H J n j b ⟨rfl,rfl,m,a,rfl,o,rfl,rfl,r,rfl,x,rfl⟩;have w:=pM f p a;have s:=rm b p a;have K:=(f a).1;have t:=(f a).2;have y:(ak 32 (af 8 0),ak 32 (af 8 0),(0:Int),())=pa:=rfl;rw[y];have A:=uW t (lC b p a++vn (dt b a).length) r x;have L:=bz (dt b a).length;rw[aa]at A;have M:∀q,q=J7 ((dt b a).take r) (lC b p a++vn (dt b a).length)→q.length=(J7 ((dt b a).take r) (lC b p a++vn (dt b a).length)).length:=λq e=>by rw[e]
  refine⟨λg=>?_,λg=>?_⟩
  ·have c:r<(dt b a).length:=by omega
   have N:=(t _ (aT (z:=pa) c)).2;have B:=bz ((dt b a).getD r pa).2.1.length;have C:=xn c (lC b p a++vn (dt b a).length);simp only[aG,aa];refine⟨by omega,by omega,by omega,by unfold ae;omega,⟨⟨rfl,rfl,m,a,rfl,o,rfl,rfl,r+1,rfl,c,C.symm⟩,by omega⟩⟩
  ·have:r=(dt b a).length:=by omega
   refine⟨by unfold ae;omega,⟨⟨rfl,a+1,rfl,by omega,?_⟩,by omega⟩⟩;rw[s,this,bp]
 ·have:k=5:=by omega
  subst this;exact u)
abbrev Rs:=Int×Int
def xo(m:Bool)(s:Rs):Int:=if m then s.2 else 5
def flS(m:Bool)(x:Int)(s:Rs):Rs:=(s.1,if m&&s.2==0 then x else s.2)
theorem eD{b:BL}{a:Int}(m:Bool)(e lo hi:Int)(h:bP b a):bP b (cR b a m e lo hi).2.1∧a≤(cR b a m e lo hi).2.1∧0≤(cR b a m e lo hi).1∧(cR b a m e lo hi).1≤max hi 0:=by
 have c:=xh (b.drop a.toNat) 0 0;obtain⟨i,j,l⟩:=h;rw[cD]at c;unfold cR;generalize fy 0 0 (b.drop a.toNat)=g at*;split
 ·split
  ·rename_i f;have:=c f;split<;>simp only[]<;>omega
  ·simp only[];omega
 ·simp only[];omega
theorem rnE{b:BL}{a:Int}{m:Bool}{e:Int}(lo hi:Int)(h:(m&&e==0)=false):cR b a m e lo hi=(0,a,e):=by
 unfold cR;rw[ag (by rw[h];decide)]
theorem rfA{b:BL}{a:Int}(m:Bool)(e n:Int)(h:bP b a):bP b (ya b a m e n).2.1∧a+(ya b a m e n).1.length≤(ya b a m e n).2.1∧(ya b a m e n).1.length≤n.toNat:=by
 obtain⟨c,f,g⟩:=h;unfold ya;split
 ·split
  ·simp;omega
  ·split<;>simp<;>omega
 ·simp;omega
theorem mL{b:BL}{a:Int}(m:Bool)(e n:Int)(h:bP b a):bP b (gj b a m e n).2.1∧a+(gj b a m e n).1.length≤(gj b a m e n).2.1∧(gj b a m e n).1.length≤n.toNat:=by
 have c:=xh (b.drop a.toNat) 0 0;obtain⟨f,o,p⟩:=h;rw[cD]at c;unfold gj;generalize fy 0 0 (b.drop a.toNat)=g at*;split
 ·split
  ·rename_i i;have:=c i;split
   ·simp;omega
   ·split
    ·simp;omega
    ·have j:bP b (a+g.2.1):=⟨f,by omega,by omega⟩;obtain⟨l,q,r⟩:=rfA m e g.1 j;refine⟨l,by omega,by omega⟩
  ·simp;omega
 ·simp;omega
def yb(b:BL)(m:Bool)(au:Int):Nat→Int→Int→Rs→List Lk→Bool×Rs×List Lk
 |0,_,_,s,a=>(true,s,a)
 |k+1,i,c,s,a=>
  let t:=gj b s.1 m s.2 32
  let f:=if t.1.length=32 then t.2.2 else if(m&&t.2.2==0)=true then 5 else t.2.2
  let u:=cR b t.2.1 m f 1 65536
  let e:=if u.1<c then(if(m&&u.2.2==0)=true then 5 else u.2.2)else u.2.2
  if(if m=true then e else 5)=0 then yb b m au k (i+1) u.1 (u.2.1,e) (a++[(au,i+1,u.1,[],t.1,())])else(false,(u.2.1,e),a)
theorem uX(b:BL)(m:Bool)(au:Int)(k:Nat)(i last a e:Int)(c:List Lk):yb b m au (k+1) i last (a,e) c=
 (let t:=gj b a m e 32
 let g:=if t.1.length=32 then t.2.2 else if(m&&t.2.2==0)=true then 5 else t.2.2
 let u:=cR b t.2.1 m g 1 65536
 let f:=if u.1<last then(if(m&&u.2.2==0)=true then 5 else u.2.2)else u.2.2
 if(if m=true then f else 5)=0 then yb b m au k (i+1) u.1 (u.2.1,f) (c++[(au,i+1,u.1,[],t.1,())])else(false,(u.2.1,f),c)):=rfl
def rp(b:BL)(m:Bool):Nat→Int→Rs→List Lk→Bool×Rs×List Lk
 |0,_,s,a=>(true,s,a)
 |k+1,c,s,a=>
  let n:=cR b s.1 m s.2 0 1048576
  let r:=yb b m c n.1.toNat 0 1 n.2 a
  if r.1 then rp b m k (c+1) r.2.1 r.2.2 else r
def cgT(b:BL)(m:Bool)(k:Nat)(z:Bool×Rs×List Lk):Bool×Rs×List Lk:=if z.1 then rp b m (5-(k+1)) ((k:Int)+1) z.2.1 z.2.2 else z
theorem Si(b:BL)(m:Bool)(k:Nat)(g:k<5)(a e:Int)(c:List Lk):rp b m (5-k) k (a,e) c=cgT b m k (yb b m k (cR b a m e 0 1048576).1.toNat 0 1 (cR b a m e 0 1048576).2 c):=by
 have f:5-k=(5-(k+1))+1:=by omega
 rw[f];rfl
def rZ(b:BL)(m:Bool)(s:Rs):Bool×Rs×List Lk:=let r:=rp b m 5 0 s [];(r.1&&xo m r.2.1==0,r.2)
def No(z:Ln×List Tm×KV)(x:Lk):Ln×List Tm×KV:=
 let lk:Lk:=(x.1,x.2.1,x.2.2.1,(fu z.1 x.1).2.2.1,x.2.2.2.2.1,())
 (CM lk z.1 z.2.1 z.2.2,(lB lk z.2.1 z.2.2).2)
def mw(l:List Lk)(ts:List Tm)(m:KV):Ln×List Tm×KV:=l.foldl No ([],ts,m)
def VX:List (Option CP):=kH 0++rH
def bkP(j:Nat):List (Option CP):=[some (.cells [.mp j]),some (.mp .i64 (.sl J4))]
def cLk:Option CP:=some (.sl A3)
def K1:Ct:=⟨2,⟨[sS 0 0,(1,false,[.ptr 3 0])],VX⟩,[⟨[(0,false,[.nilp])],VX⟩,⟨[(0,false,[.ptr 4 0])],kI 0 6++rH++bkP 5++[cT]⟩],λ(d,f,m,b,a,c,e,_)=> .need (bP b a∧b.length≤65536∧f.length+b.length≤4294967296) (.ite (rZ b c (a,e)).1
 (.leaf ⟨1,(d,(mw (rZ b c (a,e)).2.2 f m).2.2,b,(rZ b c (a,e)).2.1.1,c,(rZ b c (a,e)).2.1.2,(mw (rZ b c (a,e)).2.2 f m).1,(mw (rZ b c (a,e)).2.2 f m).2.1,())⟩)
 (.leaf ⟨0,(d,f,m,b,(rZ b c (a,e)).2.1.1,c,(rZ b c (a,e)).2.1.2,())⟩))⟩
def Yj:cc:=⟨[sS 0 0,(1,false,[.ptr 3 0]),sO 5 4,sI 13],VX++[cLk]⟩
def K2(x:K1.inp.den)(y:Yj.den):Prop:=match x,y with
 |(j,h,l,g,n,c,o,_),(i,d,p,m,b,a,q,e,f,_)=>d=j∧p=h∧m=l∧b=g∧q=c∧bP g a∧f.length≤Int.toNat a∧∃k:Nat,i=k∧k≤5∧rp g c (5-k) k (a,e) f=rp g c 5 0 (n,o) []
def Yk:cc:=⟨[sS 0 0,(1,false,[.ptr 3 0]),sO 5 4,sI 6,sI 7,sI 13,sI 17,sI 18],VX++[cLk]⟩
def xp(x:K1.inp.den)(o:Int)(y:Yk.den):Prop:=match x,y with
 |(p,l,s,f,t,c,u,_),(v,g,i,n,j,d,w,m,b,a,z,e,h,_)=>d=p∧w=l∧m=s∧b=f∧z=c∧bP f a∧h.length≤Int.toNat a∧v=i∧o=i∧∃k q r:Nat,i=k∧k<5∧n=q∧q≤1048576∧j=r∧r≤q∧
  cgT f c k (yb f c k (q-r) r g (a,e) h)=rp f c 5 0 (t,u) []
def Yl:cc:=⟨[sS 0 0,(10,false,[.ptr 4 0]),(57,false,[.d (.sl A3)]),sI 58,sI 59],kI 0 6++rH++bkP 5++[cT]⟩
def K3(x:K1.inp.den)(y:Yl.den):Prop:=match x,y with
 |(i,c,g,h,o,f,p,_),(l,n,j,d,m,b,a,q,e,bk,r,_)=>d=i∧b=h∧q=f∧(true,((a,e),l))=rZ h f (o,p)∧n=l.length∧l.length≤h.length∧∃k:Nat,j=k∧k≤l.length∧bk=(mw (l.take k) c g).1∧r=(mw (l.take k) c g).2.1∧m=(mw (l.take k) c g).2.2
def cgA(x:K1.inp.den):dG:=⟨[(3,og Yj (K2 x) (λ(i,_)=>(5-i).toNat) λ(i,_)=>[(7,bM Yk (xp x i) λ(_,_,_,n,j,_)=>(n-j).toNat)]),(25,bM Yl (K3 x) λ(_,n,j,_)=>(n-j).toNat)],[],[],[],0⟩
theorem pN{l:List Lk}{k:Nat}{z:Lk}(h:k<l.length)(ts:List Tm)(m:KV):mw (l.take (k+1)) ts m=No (mw (l.take k) ts m) (l.getD k z):=by
 rw[cK (z:=z) h,mw,List.foldl_append];rfl
theorem fX{kt:Ty}{β:Type}(k j:kt.den)(v:β):∀l:List (kt.den×β),cy j (cF k v l)=if ij kt j k then some v else cy j l
 |[]=>by simp only[cF,cy]
 |p::r=>by
  have a:=fX k j v r;simp only[cF];split
  ·rename_i h;have e:=eu.1 h;simp only[cy,←e];split<;>rfl
  ·rename_i h;simp only[cy,a];split
   ·rename_i b;have c:=eu.1 b;split
    ·rename_i f;have g:=eu.1 f;exact absurd (eu.2 (g.symm.trans c)) h
    ·rfl
   ·rfl
theorem uY(l:Ln)(a j:Int)(v:List Kn):dt (cF (kt:= .i64) a v l) j=if j=a then v else dt l j:=by
 unfold dt aU;rw[fX];by_cases h:j=a
 ·subst h;simp[ij]
 ·simp[ij,h]
theorem lr(d:BL):(dD (ak 32 (af 8 0)) d).length=32:=by simp[dD];omega
theorem kpB{lk:Lk}{l:Ln}{n:Nat}(ts:List Tm)(m:KV)(h:∀a,(dt l a).length≤n∧∀k∈dt l a,k.1.length=32∧k.2.1.length=32):
 ∀a,(dt (CM lk l ts m) a).length≤n+1∧∀k∈dt (CM lk l ts m) a,k.1.length=32∧k.2.1.length=32:=by
 intro a;obtain⟨f,c⟩:=h a;unfold CM;rw[uY];split
 ·rename_i e;subst e;refine⟨by simp;omega,λk b=>?_⟩;rcases aY.1 b with b|b
  ·exact c k b
  ·simp at b;subst b;exact⟨lr _,lr _⟩
 ·exact⟨by omega,c⟩
theorem Fj(ts:List Tm)(m:KV)(l:List Lk):∀k,k≤l.length→(mw (l.take k) ts m).2.1.length≤ts.length+k∧∀a,(dt (mw (l.take k) ts m).1 a).length≤k∧∀q∈dt (mw (l.take k) ts m).1 a,q.1.length=32∧q.2.1.length=32
 |0,_=>by simp[mw,dt,aU,cy]
 |k+1,h=>by
  obtain⟨c,b⟩:=Fj ts m l k (by omega);rw[pN (z:=(0,0,0,[],[],())) (by omega)];refine⟨?_,kpB _ _ b⟩;have:=Fi ((l.getD k (0,0,0,[],[],())).1,(l.getD k (0,0,0,[],[],())).2.1,(l.getD k (0,0,0,[],[],())).2.2.1,(fu (mw (l.take k) ts m).1 (l.getD k (0,0,0,[],[],())).1).2.2.1,(l.getD k (0,0,0,[],[],())).2.2.2.2.1,()) (mw (l.take k) ts m).2.1 (mw (l.take k) ts m).2.2;show(lB _ _ _).2.1.length≤_;omega
abbrev tR(v:Int×List Tm×KV×BL×Int×Bool×Int×Unit):aN K1.out:=⟨0,v⟩
abbrev Np(v:Int×KV×BL×Int×Bool×Int×Ln×List Tm×Unit):aN K1.out:=⟨1,v⟩
theorem Nq:bO Tryz.prog 202 K1:=kC Sh cgA (∀(o:Int)(m:List Tm)(n:KV)(h:BL)(j:Int)(i:Bool)(k:Int)(Q:aN K1.out→Prop),let F:=rp h i 5 0 (j,k) [];let G:=mw F.2.2 m n;let B:=(o,m,n,h,j,i,k,());(Tr.need (bP h j∧h.length≤65536∧m.length+h.length≤4294967296) (Tr.ite (F.1&&xo i F.2.1==0) (Tr.leaf (Np (o,G.2.2,h,F.2.1.1,i,F.2.1.2,G.1,G.2.1,()))) (Tr.leaf (tR (o,m,n,h,F.2.1.1,i,F.2.1.2,()))))).sat Q→Is (K2 B (0,o,m,n,h,j,i,k,[],()))∧∀(s N:Int)(O:List Tm)(P:KV)(w:BL)(z:Int)(v:Bool)(y:Int)(R:List Lk),let U:= !(if v=true then y else 5)==0;let H:=cR w z v y 0 1048576;K2 B (s,N,O,P,w,z,v,y,R,())→Br (decide (s<5)) (bP w z∧Is (xp B s (s,1,s,H.1,0,N,O,P,w,H.2.1,v,H.2.2,R,()))∧∀(g t e l f p:Int)(q:List Tm)(r:KV)(b:BL)(c:Int)(a:Bool)(d:Int)(u:List Lk),let L:=(p,q,r,b,c,a,d,u,());let E:=u.length+1;let S:Prop:=(l-(f+1)).toNat<(l-f).toNat;let C:=gj b c a d 32;let W:= !(↑(ac C.1):Int)==32;let x:=cR b C.2.1 a C.2.2 1 65536;let J:=a&&x.2.2==0;let X:= !(if a=true then x.2.2 else 5)==0;let z9:= !(if a=true then if J=true then 5 else x.2.2 else 5)==0;let A:=cR b C.2.1 a (if(a&&C.2.2==0)=true then 5 else C.2.2) 1 65536;let K:=a&&A.2.2==0;let Y:= !(if a=true then A.2.2 else 5)==0;let z8:= !(if a=true then if K=true then 5 else A.2.2 else 5)==0;xp B s (g,t,e,l,f,L)→Br (decide (f<l)) (ae (f+1)∧bP b c∧Br W (True∧bP b C.2.1∧Br (decide (A.1<t)) (True∧True∧Br z8 (Q (tR (p,q,r,b,A.2.1,a,if K=true then 5 else A.2.2,()))) (E*72≤140737488355328∧ae (f+1)∧Is (xp B s (g,A.1,e,l,f+1,p,q,r,b,A.2.1,a,if K=true then 5 else A.2.2,u++[(g,f+1,A.1,[],C.1,())],())∧S))) (True∧Br Y (Q (tR (p,q,r,b,A.2.1,a,A.2.2,()))) (E*72≤140737488355328∧ae (f+1)∧Is (xp B s (g,A.1,e,l,f+1,p,q,r,b,A.2.1,a,A.2.2,u++[(g,f+1,A.1,[],C.1,())],())∧S)))) (bP b C.2.1∧Br (decide (x.1<t)) (True∧True∧Br z9 (Q (tR (p,q,r,b,x.2.1,a,if J=true then 5 else x.2.2,()))) (E*72≤140737488355328∧ae (f+1)∧Is (xp B s (g,x.1,e,l,f+1,p,q,r,b,x.2.1,a,if J=true then 5 else x.2.2,u++[(g,f+1,x.1,[],C.1,())],())∧S))) (True∧Br X (Q (tR (p,q,r,b,x.2.1,a,x.2.2,()))) (E*72≤140737488355328∧ae (f+1)∧Is (xp B s (g,x.1,e,l,f+1,p,q,r,b,x.2.1,a,x.2.2,u++[(g,f+1,x.1,[],C.1,())],())∧S))))) (ae (e+1)∧Is (K2 B (e+1,L)∧(5-(e+1)).toNat<(5-s).toNat))) (True∧Br U (Q (tR (N,O,P,w,z,v,y,()))) (True∧Is (K3 B (R,(↑R.length:Int),0,N,P,w,z,v,y,[],O,()))∧∀(g:List Lk)(t e l:Int)(f:KV)(p:BL)(q:Int)(r:Bool)(b:Int)(c:Ln)(a:List Tm),let D:=g.getD e.toNat (0,0,0,[],[],());let M:=lB (D.1,D.2.1,D.2.2.1,(fu c D.1).2.2.1,D.2.2.2.2.1,()) a f;K3 B (g,t,e,l,f,p,q,r,b,c,a,())→Br (decide (e<t)) ((0≤e∧e<(↑g.length:Int))∧bZ c∧(a.length≤4294967296∧bZ c)∧ae (e+1)∧Is (K3 B (g,t,e+1,l,M.2.2,p,q,r,b,CM (D.1,D.2.1,D.2.2.1,(fu c D.1).2.2.1,D.2.2.2.2.1,()) c a f,M.2.1,())∧(t-(e+1)).toNat<(t-e).toNat)) (Q (Np (l,f,p,q,r,b,c,a,())))))) (by kernel_rfl) (by
 conv=>zeta
 unfold Br;intro d ts m b a mm e Q ⟨⟨h1,h2,h3⟩,hQ⟩;obtain⟨R,F⟩:∃R,rp b mm 5 0 (a,e) []=R:=⟨_,rfl⟩;rw[F]at hQ;refine⟨⟨rfl,rfl,rfl,rfl,rfl,h1,aq _,0,rfl,by omega,rfl⟩,?_⟩
 have G:∀(c:Bool)(a' e':Int)H,(c,(a',e'),H)=R→(c&&xo mm (a',e')==0)=false→Q ⟨0,(d,ts,m,b,a',mm,e',())⟩:=by
  rintro c a' e' H rfl h;exact hQ.2 h
 rintro i d1 Y m1 b1 a1 s e1 B ⟨rfl,rfl,rfl,rfl,rfl,ha,v,k,rfl,hk,o⟩;rw[F]at o;simp only[ah,aj];refine⟨λhi=>⟨ha,?_,?_⟩,λhi=>?_⟩
 ·have hn:=eD s e1 0 1048576 ha;rw[Si _ _ _ (by omega)]at o;have p:B.length≤a1.toNat:=v;refine⟨rfl,rfl,rfl,rfl,rfl,hn.1,bA p (Int.toNat_le_toNat hn.2.1),rfl,rfl,k,(cR b1 a1 s e1 0 1048576).1.toNat,0,rfl,by omega,?_,?_,rfl,aq _,o.trans F.symm⟩
  ·exact(pm hn.2.2.1).symm
  ·have:=hn.2.2.2;omega
 ·clear o v;rintro au J i2 n j d2 C m2 A W f e2 g ⟨rfl,rfl,rfl,rfl,rfl,D,w,rfl,a6,X,q,r,rfl,K,rfl,hq,rfl,hr,o⟩;obtain rfl:k=X:=Int.ofNat.inj a6;rw[F]at o;have p:g.length≤W.toNat:=w;have b6:W.toNat≤65536:=by have:=D.2.2;omega
  refine⟨λhj=>?_,λhj=>?_⟩
  ·have ht:=mL f e2 32 D;have er:q-r=(q-(r+1))+1:=by omega
   have L:=uX A f k (q-(r+1)) r J W e2 g;rw[er]at o;dsimp only at L;generalize gj A W f e2 32=t at*
   have go:∀M:Int,(if t.1.length=32 then t.2.2 else if(f&&t.2.2==0)=true then 5 else t.2.2)=M→
    let u:=cR A t.2.1 f M 1 65536
    (bP A u.2.1)∧∀N:Int,(if u.1<J then(if(f&&u.2.2==0)=true then 5 else u.2.2)else u.2.2)=N→
     ((!(if f=true then N else 5)==0)=true→Q ⟨0,(d2,C,m2,A,u.2.1,f,N,())⟩)∧
     ((!(if f=true then N else 5)==0)=false→(g.length+1)*72≤140737488355328∧ae ((r:Int)+1)∧
       Is (xp (d2,C,m2,A,a,f,e,()) (k:Int) ((k:Int),u.1,(k:Int),(q:Int),(r:Int)+1,d2,C,m2,A,u.2.1,f,N,g++[((k:Int),(r:Int)+1,u.1,[],t.1,())],())∧((q:Int)-((r:Int)+1)).toNat<((q:Int)-(r:Int)).toNat)):=by
    intro M O;have hu:=eD f M 1 65536 ht.1;rw[O]at L;generalize a7:cR A t.2.1 f M 1 65536=u at*;refine⟨hu.1,λN P=>?_⟩;rw[P]at L;refine⟨λx=>?_,λx=>⟨by omega,by unfold ae;omega,⟨⟨rfl,rfl,rfl,rfl,rfl,hu.1,?_,rfl,rfl,k,q,r+1,rfl,K,rfl,hq,rfl,by omega,?_⟩,by omega⟩⟩⟩
    ·rw[ag (by intro h;rw[h]at x;simp at x)]at L;rw[L]at o;exact G _ _ _ _ o rfl
    ·have g1:=ht.2.1;have g2:=hu.2.1;show(g++[((k:Int),(r:Int)+1,u.1,([]:BL),t.1,())]).length≤u.2.1.toNat;rw[aa,bb]
     have b5:t.1.length=32:=by
      rcases Nat.decEq t.1.length 32 with hx|hx
      ·exfalso;rw[ag hx]at O
       have a8:f=true:=by
        cases f
        ·simp at x
        ·rfl
       subst a8;have b7:N=0:=by simpa using x
       have a0:¬(M=0):=by
        rw[←O];simp only[fL];split
        ·omega
        ·rename_i hz;simpa using hz
       have a3:=rnE (b:=A) (a:=t.2.1) (m:=true) (e:=M) 1 65536 (by simpa using a0);rw[a7]at a3;rw[a3]at P;simp[a0]at P;omega
      ·exact hx
     omega
    ·rw[an (by simpa using x)]at L;rw[L]at o;exact o.trans F.symm
   refine⟨by unfold ae;omega,D,λhl=>?_,λhl=>?_⟩
   ·have S:¬(t.1.length=32):=by intro h;simp[h]at hl
    obtain⟨q1,E⟩:=go _ (ag S);exact⟨trivial,ht.1,λy=>⟨trivial,trivial,(E _ (an y)).1,(E _ (an y)).2⟩,λy=>⟨trivial,(E _ (ag y)).1,(E _ (ag y)).2⟩⟩
   ·have S:t.1.length=32:=by have:(t.1.length:Int)=32:=by simpa using hl
                             omega
    obtain⟨q1,E⟩:=go _ (an S);exact⟨ht.1,λy=>⟨trivial,trivial,(E _ (an y)).1,(E _ (an y)).2⟩,λy=>⟨trivial,(E _ (ag y)).1,(E _ (ag y)).2⟩⟩
  ·have e0:q-r=0:=by omega
   rw[e0]at o;exact⟨by unfold ae;omega,⟨⟨rfl,rfl,rfl,rfl,rfl,D,w,k+1,rfl,by omega,o.trans F.symm⟩,by omega⟩⟩
 ·have e0:5-k=0:=by omega
  rw[e0]at o;have U:(true,(a1,e1),B)=R:=o;have p:B.length≤a1.toNat:=v;refine⟨trivial,λx=>G _ _ _ _ U ?_,λx=>⟨trivial,⟨rfl,rfl,rfl,?_,rfl,by have:=ha.2.2;omega,0,rfl,aq _,rfl,rfl,rfl⟩,?_⟩⟩
  ·simp only[xo,fL];have a9:(if s=true then e1 else 5)≠0:=by intro h;rw[h]at x;simp at x
   simpa using a9
  ·have:(R.1&&xo s R.2.1==0)=true:=by
    rw[←U];simp only[xo,fL];simpa using x
   show(true,((a1,e1),B))=rZ b1 s (a,e);unfold rZ;dsimp only;rw[F,this,←U]
  ·rintro l n j d2 m2 A W f e2 bk C ⟨rfl,rfl,rfl,hF,rfl,b0,X,rfl,K,rfl,rfl,rfl⟩;have hb:=Fj Y m1 l X K;have a4:bZ (mw (l.take X) Y m1).1:=λa=>⟨by have:=(hb.2 a).1;omega,(hb.2 a).2⟩;refine⟨λhj=>⟨by omega,a4,⟨by have:=hb.1;omega,a4⟩,by unfold ae;omega,⟨⟨rfl,rfl,rfl,hF,rfl,b0,X+1,rfl,by omega,?_,?_,?_⟩,by omega⟩⟩,λhj=>?_⟩
   ·rw[pN (z:=(0,0,0,[],[],())) (by omega)];rfl
   ·rw[pN (z:=(0,0,0,[],[],())) (by omega)];rfl
   ·rw[pN (z:=(0,0,0,[],[],())) (by omega)];rfl
   ·have b3:X=l.length:=by omega
    subst b3;rw[bp];have b4:(true,((W,e2),l))=(R.1&&xo f R.2.1==0,R.2):=by rw[hF];unfold rZ;dsimp only;rw[F]
    obtain⟨f1,f2⟩:=Prod.mk.inj b4;have a5:=hQ.1 f1.symm;rw[←f2]at a5;exact a5)
def Ym:bu:=(202,[K1])::Yi
theorem a35:KK Ym:=⟨aP.add Sh.1 (by kernel_rfl) (bo Nq),bg.add Sh.2 (bo (λ_=>Live.need λ_=>Live.ite (λ_=>Live.leaf) (λ_=>Live.leaf)))⟩
end Go.Tp
