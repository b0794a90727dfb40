/- A part of the proof of TopAuthenticSaid: no conditions; packed by a program of our own. -/
import Derived.Test.YtgpideichgnmhaaGreatPaao
import Derived.Test.YtgpideichgnmhaaGreatPaap
open Bool renaming and_eq_true→aF
namespace Go.Proofs.YtgpideichgnmhaaGreat
open Go.Hv Go.Tp Go.ChangeShapes Go.WideShapes Go.RowKit
set_option maxRecDepth 100000
set_option maxHeartbeats 0
theorem mI(o:Os)(a:o.Started)(H:Type)(enc:TypeId×Value→H):
 ReturnsInHanded {} Tryz.checked o 3 .any (Rows.topAuthenticSpec.pre6 enc Tryz.prog Tryz.f3 Rows.topAuthenticRow.domain false) (Rows.topAuthenticSpec.post enc Tryz.prog Tryz.f3 false true false false):=by
 refine returnsInHanded_of_change_sized (C:=Tryz.checked) MF a (by kernel_rfl) Tryz.func3
  (ChangeSpec.witness6 (enc:=enc) (C:=Tryz.checked) false ⟨#[], #[.int .i64 0, .slice none 0 0],[]⟩ 8 (by kernel_rfl) (by kernel_rfl) (by kernel_rfl) (by kernel_rfl)) ?_
 intro W g args x L h f r s z _;have b:∀(j:Nat)t v,Tryz.f3.params[j]?=some t→args[j]?=some v→Value.okWide Tryz.prog W .any g t v:=f;have i:=r;obtain⟨p,q,m,A,rfl,B,D⟩:=r;have u:DataW.TrodAll enc Tryz.prog W 0 (λ_=>true) true Tryz.f3.params.toList args.toList x p:=m;rw[Tryz.params3]at u b;obtain⟨E,w,M,N,O,P,rfl,rfl,rfl,F,G⟩:=trodAll_two u;obtain⟨rfl,rfl⟩:=trodVars_none A;obtain⟨n,rfl,_⟩:=open_int (k:= .i64) (by kernel_rfl) (b 0 _ E rfl rfl) F;obtain⟨l,J⟩:=MG (e:=36) (by kernel_rfl) Vj (b 1 _ w rfl rfl) G;refine(JA (KS J2 (n,l,()) (Q:=λy=>y=⟨0,(true,())⟩) ⟨trivial,rfl⟩ (W:=W) (vals:=[.int .i64 n,w]) rfl rfl ⟨Jz (T:= .i64) rfl,Jz J,trivial⟩)).mono λe R⟨K,c⟩=>⟨_,K,?_⟩;exact EY B4 (by rw[Tryz.params3];exact ai (by kernel_rfl)) rfl rfl (tb:=4) (by kernel_rfl) i rfl c
theorem fIn:(Rows.topAuthenticRow.inPlace==Tryz.prog.inPlace 3)=true:=by kernel_rfl
theorem fUn:(Rows.topAuthenticRow.unfollowed==Tryz.prog.unfollowed 3)=true:=by kernel_rfl
theorem a6x:(Rows.topAuthenticRow.recurses==Tryz.prog.recurses 3)=true:=by kernel_rfl
theorem a2u:(Rows.topAuthenticRow.named==Tryz.prog.varsNamed 3)=true:=by kernel_rfl
theorem x7:joinedFacts Tryz.prog 3 Tryz.f3 Rows.topAuthenticSpec Rows.topAuthenticRow=true:=by
 unfold joinedFacts;simp only[aF];and_intros<;>first|with_reducible exact B4|with_reducible exact a2e|with_reducible exact Ve|with_reducible exact Vf|with_reducible exact Vg|with_reducible exact a2f|with_reducible exact fIn|with_reducible exact fUn|with_reducible exact a6x|with_reducible exact a2u|kernel_rfl
theorem topAuthentic_holds:Rows.TopAuthenticSaid:=
 OpenClaim.holds_of_wide 3 Tryz.f3 rfl rfl rfl rfl rfl rfl rfl ⟨rfl,rfl,rfl,rfl,rfl⟩ rfl rfl rfl rfl rfl (by kernel_rfl) Tryz.func3 x7
  (ai (by kernel_rfl)) (by unfold Func.isWrapper;first|(rw[an (by decide+kernel)];kernel_rfl)|(rw[ag (by decide+kernel)];exact⟨rfl,rfl⟩))
  (λc a H b _=>mI c a H b)
end Go.Proofs.YtgpideichgnmhaaGreat
