/- PROVED: sealwaxlaw04.ScalarOrder answers true for every input, and each argument reads behind the call as it read before. Conditions: none. Own work. -/
import Derived.Test.YtmdfhomeokfgiaaRcKit
namespace Go.Proofs.Ytmdfhomeokfgiaa
open Go.Ev Go.Sp Go.ChangeShapes Go.WideShapes Go.RowKit
set_option maxRecDepth 100000
theorem runLaw (a b c : N4) : fnS Try.prog (lookG tblC) (orcA [(1, [(10, true), (18, true)]), (2, [(10, true), (18, true)]), (3, [(17, true), (25, true)])]) [] 10 6 [.val true [.n4 a], .val true [.n4 b], .val true [.n4 c]] =
    some (sc (IV.bool true), [((addS a (addS b c)).eq (addS (addS a b) c) && true) = true, ((addS a b).eq (addS b a) && true) = true, ((mulS a (mulS b c)).eq (mulS (mulS a b) c) && true) = true, ((mulS a b).eq (mulS b a) && true) = true, ((mulS a (addS b c)).eq (addS (mulS a b) (mulS a c)) && true) = true, ((addS a (negS a)).eq (N4.mk (BitVec.ofNat 64 0) (BitVec.ofNat 64 0) (BitVec.ofNat 64 0) (BitVec.ofNat 64 0)) && true) = true]) := by kernel_rfl
theorem law (a b c : N4) (w : World) (vals : List Value) (hv : F2 (DV w) [.val true [.n4 a], .val true [.n4 b], .val true [.n4 c]] vals) :
    Calls Try.prog 6 vals.toArray w fun e w' => ∃ v, e = .returned v ∧ Below w.heap.size w w' ∧ ResOk w.heap.size w' (sc (.bool true)) v := by
  exact calls_of_fnS gsC fol (runLaw a b c) ⟨eq4_same (addS_assoc a b c), eq4_same (addS_comm a b), eq4_same (mulS_assoc a b c), eq4_same (mulS_comm a b), eq4_same (mulS_add a b c), eq4_same (addS_neg a), trivial⟩ w vals hv
theorem scalarOrderLifted (os : Os) (started : os.Started) (H : Type) (enc : TypeId × Value → H) :
    ReturnsInHanded {} Try.checked os 6 .any (Rows.scalarOrderSpec.pre6 enc Try.prog Try.f6 Rows.scalarOrderRow.domain false) (Rows.scalarOrderSpec.post enc Try.prog Try.f6 false true false false) := by
  refine returnsInHanded_of_change_sized (C := Try.checked) own started (by kernel_rfl) Try.func6
    (ChangeSpec.witness6 (enc := enc) (C := Try.checked) false ⟨#[], #[.agg (Array.replicate 4 (.int .u64 0)), .agg (Array.replicate 4 (.int .u64 0)), .agg (Array.replicate 4 (.int .u64 0))], []⟩ 8 (by kernel_rfl) (by kernel_rfl) (by kernel_rfl) (by kernel_rfl)) ?_
  intro W base args ds gs before hval0 hW hcnd hsz _
  have hval : ∀ (j : Nat) t v, Try.f6.params[j]? = some t → args[j]? = some v → Value.okWide Try.prog W .any base t v := hval0
  have hW' := hW
  obtain ⟨p, q, hA0, hV, rfl, hfz, hnd⟩ := hW
  have hA : DataW.TrodAll enc Try.prog W 0 (fun _ => true) true Try.f6.params.toList args.toList ds p := hA0
  rw [Try.params6] at hA hval
  obtain ⟨v0, v1, v2, d0, d1, d2, p0, p1, p2, rfl, rfl, rfl, h0, h1, h2⟩ := trodAll_three hA
  obtain ⟨rfl, rfl⟩ := trodVars_none hV
  obtain ⟨a0, e0⟩ := openNum (hval 0 _ v0 rfl rfl) h0
  obtain ⟨a1, e1⟩ := openNum (hval 1 _ v1 rfl rfl) h1
  obtain ⟨a2, e2⟩ := openNum (hval 2 _ v2 rfl rfl) h2
  refine (law a0 a1 a2 W [v0, v1, v2] ⟨e0, e1, e2, trivial⟩).mono fun e W' ⟨v, he, hbelow, hres⟩ => ⟨v, he, ?_⟩
  rw [resBool hres]
  exact law_post laidOut (by rw [Try.params6]; exact of_decide_eq_true (by kernel_rfl)) rfl rfl (tb := 4) (by kernel_rfl) hW' rfl hbelow

theorem scalarOrder_holds : Rows.ScalarOrderSaid :=
  OpenClaim.holds_of_wide 6 Try.f6 rfl rfl rfl rfl rfl rfl rfl ⟨rfl, rfl, rfl, rfl, rfl⟩ rfl rfl rfl rfl rfl (by kernel_rfl) Try.func6 (by kernel_rfl)
    (of_decide_eq_true (by kernel_rfl)) (by unfold Func.isWrapper; first | (rw [if_pos (by decide +kernel)]; kernel_rfl) | (rw [if_neg (by decide +kernel)]; exact ⟨rfl, rfl⟩))
    (fun os started H enc _ => scalarOrderLifted os started H enc)

end Go.Proofs.Ytmdfhomeokfgiaa
