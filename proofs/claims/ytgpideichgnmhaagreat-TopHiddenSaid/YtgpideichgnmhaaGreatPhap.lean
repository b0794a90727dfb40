/- A part of the proof of TopHiddenSaid: no conditions; packed by a program of our own. -/
import Derived.Test.YtgpideichgnmhaaGreatPhan
import Derived.Test.YtgpideichgnmhaaGreatPhao
set_option linter.defProp false
set_option linter.unusedVariables false
set_option linter.unusedSimpArgs false
open Bool renaming and_eq_true→aK
namespace Go.Proofs.YtgpideichgnmhaaGreat
open Go.Hv Go.Tp Go.ChangeShapes Go.WideShapes Go.RowKit
set_option maxRecDepth 100000
set_option maxHeartbeats 0
variable{a:Nat}{w:World}
theorem xj{H:Type}{enc:TypeId×Value->H}{P:Program}{spare:Nat->Bool}{held:Bool}{t n f o:TypeId}{args:Array Value}{r:List (DataW H)}{ps:List MemPlace}(h:DataW.TrodAll enc P w a spare held [t,n,f,o] args.toList r ps):
 ∃v v' b g d i c j p l e m,args= #[v,v',b,g]/\r=[d,i,c,j]/\ps=p++(l++(e++m))/\DataW.Trod enc P w a spare held t v d p/\DataW.Trod enc P w a spare held n v' i l/\DataW.Trod enc P w a spare held f b c e/\DataW.Trod enc P w a spare held o g j m:=by
 obtain⟨v,N,d,u,p,q,O,rfl,rfl,x,y⟩:=trodAll_cons h;obtain⟨v',z,i,A,l,Q,rfl,rfl,rfl,B,C⟩:=trodAll_cons y;obtain⟨b,s,c,D,e,E,rfl,rfl,rfl,F,G⟩:=trodAll_cons C;obtain⟨g,J,j,K,m,R,rfl,rfl,rfl,L,M⟩:=trodAll_cons G;obtain⟨rfl,rfl,rfl⟩:=trodAll_nil M;exact⟨v,v',b,g,d,i,c,j,p,l,e,m,by cases args;simp_all,rfl,bY,x,B,F,L⟩
theorem qX(o:Os)(b:o.Started)(H:Type)(enc:TypeId×Value->H):
 ReturnsInHanded {} Tryz.checked o 4 .any (Rows.topHiddenSpec.pre6 enc Tryz.prog Tryz.f4 Rows.topHiddenRow.domain false) (Rows.topHiddenSpec.post enc Tryz.prog Tryz.f4 false true false false):=by
 refine returnsInHanded_of_change_sized (C:=Tryz.checked) Np b dC Tryz.func4
  (ChangeSpec.witness6 (enc:=enc) (C:=Tryz.checked) false ⟨#[], #[.int .i64 0, .slice none 0 0, .slice none 0 0, .slice none 0 0],[]⟩ 8 dC dC dC dC) ?_
 intro W g args B U h f r s D _;have a:∀(j:Nat)t v,Tryz.f4.params[j]?=some t->args[j]?=some v->Value.okWide Tryz.prog W .any g t v:=f;have i:=r;obtain⟨p,q,m,E,rfl,F,G⟩:=r;have u:DataW.TrodAll enc Tryz.prog W 0 (λ_=>true) true Tryz.f4.params.toList args.toList B p:=m;rw[Tryz.params4]at u a;obtain⟨J,w,z,A,X,Y,d2,d3,p0,p1,p2,p3,rfl,rfl,rfl,K,L,M,N⟩:=xj u;obtain⟨rfl,rfl⟩:=trodVars_none E;obtain⟨n,rfl,_⟩:=open_int (k:= .i64) dC (a 0 _ J rfl rfl) K;obtain⟨l,O⟩:=wY (e:=36) dC SE (a 1 _ w rfl rfl) L;obtain⟨t,P⟩:=wY (e:=9) dC SF (a 2 _ z rfl rfl) M;obtain⟨x,R⟩:=wY (e:=3) dC SG (a 3 _ A rfl rfl) N;refine(I5 (Kw To (n,l,t,x,()) (Q:=λy=>y=⟨0,(true,())⟩) ⟨trivial,rfl⟩ (W:=W) (vals:=[.int .i64 n,w,z,A]) rfl rfl ⟨wZ (T:= .i64) rfl,wZ O,wZ P,wZ R,trivial⟩)).mono λe W'⟨S,c⟩=>⟨_,S,?_⟩;exact FY Do (by rw[Tryz.params4];exact af dC) rfl rfl (tb:=4) dC i rfl c
theorem Tq:(Rows.topHiddenRow.lifted==Tryz.prog.liftsFinal)=true:=dC
theorem a1r:(Tryz.prog.make==some Rows.topHiddenRow.make)=true:=dC
theorem fIn:(Rows.topHiddenRow.inPlace==Tryz.prog.inPlace 4)=true:=dC
theorem fUn:(Rows.topHiddenRow.unfollowed==Tryz.prog.unfollowed 4)=true:=dC
theorem a7p:(Rows.topHiddenRow.recurses==Tryz.prog.recurses 4)=true:=dC
theorem a1s:(Rows.topHiddenRow.named==Tryz.prog.varsNamed 4)=true:=dC
theorem zI:joinedFacts Tryz.prog 4 Tryz.f4 Rows.topHiddenSpec Rows.topHiddenRow=true:=by
 unfold joinedFacts;simp only[aK];and_intros<;>first|with_reducible exact Do|with_reducible exact a0n|with_reducible exact SA|with_reducible exact SB|with_reducible exact Tq|with_reducible exact a1r|with_reducible exact fIn|with_reducible exact fUn|with_reducible exact a7p|with_reducible exact a1s|kernel_rfl
theorem topHidden_holds:Rows.TopHiddenSaid:=
 OpenClaim.holds_of_wide 4 Tryz.f4 rfl rfl rfl rfl rfl rfl rfl ⟨rfl,rfl,rfl,rfl,rfl⟩ rfl rfl rfl rfl rfl dC Tryz.func4 zI
  (af dC) (by unfold Func.isWrapper;first|(rw[ak (by decide+kernel)];kernel_rfl)|(rw[ae (by decide+kernel)];exact⟨rfl,rfl⟩))
  (λc a H b _=>qX c a H b)
end Go.Proofs.YtgpideichgnmhaaGreat
