/- A part of the proof of TopSealedSaid: no conditions; packed by a program of our own. -/
import Derived.Test.YtgpideichgnmhaaGreatPban
import Derived.Test.YtgpideichgnmhaaGreatPbao
open Bool renaming and_eq_true→aI
namespace Go.Proofs.YtgpideichgnmhaaGreat
open Go.Hv Go.Tp Go.ChangeShapes Go.WideShapes Go.RowKit
set_option maxRecDepth 100000
set_option maxHeartbeats 0
theorem pR(o:Os)(a:o.Started)(H:Type)(enc:TypeId×Value->H):
 ReturnsInHanded {} Tryz.checked o 5 .any (Rows.topSealedSpec.pre6 enc Tryz.prog Tryz.f5 Rows.topSealedRow.domain false) (Rows.topSealedSpec.post enc Tryz.prog Tryz.f5 false true false false):=by
 refine returnsInHanded_of_change_sized (C:=Tryz.checked) Lj a (by kernel_rfl) Tryz.func5
  (ChangeSpec.witness6 (enc:=enc) (C:=Tryz.checked) false ⟨#[], #[.int .i64 0, .slice none 0 0],[]⟩ 8 (by kernel_rfl) (by kernel_rfl) (by kernel_rfl) (by kernel_rfl)) ?_
 intro W g args x L h f r s z _;have b:∀(j:Nat)t v,Tryz.f5.params[j]?=some t->args[j]?=some v->Value.okWide Tryz.prog W .any g t v:=f;have i:=r;obtain⟨p,q,m,A,rfl,B,D⟩:=r;have u:DataW.TrodAll enc Tryz.prog W 0 (λ_=>true) true Tryz.f5.params.toList args.toList x p:=m;rw[Tryz.params5]at u b;obtain⟨E,w,M,N,O,P,rfl,rfl,rfl,F,G⟩:=trodAll_two u;obtain⟨rfl,rfl⟩:=trodVars_none A;obtain⟨n,rfl,_⟩:=open_int (k:= .i64) (by kernel_rfl) (b 0 _ E rfl rfl) F;obtain⟨l,J⟩:=Ll (e:=36) (by kernel_rfl) UH (b 1 _ w rfl rfl) G;refine(Hp (Jc If (n,l,()) (Q:=λy=>y=⟨0,(true,())⟩) ⟨trivial,rfl⟩ (W:=W) (vals:=[.int .i64 n,w]) rfl rfl ⟨Ho (T:= .i64) rfl,Ho J,trivial⟩)).mono λe R⟨K,c⟩=>⟨_,K,?_⟩;exact Eg Bt (by rw[Tryz.params5];exact ag (by kernel_rfl)) rfl rfl (tb:=4) (by kernel_rfl) i rfl c
theorem U9:(Rows.topSealedRow.lifted==Tryz.prog.liftsFinal)=true:=by kernel_rfl
theorem a0h:(Tryz.prog.make==some Rows.topSealedRow.make)=true:=by kernel_rfl
theorem fIn:(Rows.topSealedRow.inPlace==Tryz.prog.inPlace 5)=true:=by kernel_rfl
theorem fUn:(Rows.topSealedRow.unfollowed==Tryz.prog.unfollowed 5)=true:=by kernel_rfl
theorem a4p:(Rows.topSealedRow.recurses==Tryz.prog.recurses 5)=true:=by kernel_rfl
theorem a0i:(Rows.topSealedRow.named==Tryz.prog.varsNamed 5)=true:=by kernel_rfl
theorem xT:joinedFacts Tryz.prog 5 Tryz.f5 Rows.topSealedSpec Rows.topSealedRow=true:=by
 unfold joinedFacts;simp only[aI];and_intros<;>first|with_reducible exact Bt|with_reducible exact P'|with_reducible exact UD|with_reducible exact UE|with_reducible exact U9|with_reducible exact a0h|with_reducible exact fIn|with_reducible exact fUn|with_reducible exact a4p|with_reducible exact a0i|kernel_rfl
theorem topSealed_holds:Rows.TopSealedSaid:=
 OpenClaim.holds_of_wide 5 Tryz.f5 rfl rfl rfl rfl rfl rfl rfl ⟨rfl,rfl,rfl,rfl,rfl⟩ rfl rfl rfl rfl rfl (by kernel_rfl) Tryz.func5 xT
  (ag (by kernel_rfl)) (by unfold Func.isWrapper;first|(rw[am (by decide+kernel)];kernel_rfl)|(rw[af (by decide+kernel)];exact⟨rfl,rfl⟩))
  (λc a H b _=>pR c a H b)
end Go.Proofs.YtgpideichgnmhaaGreat
