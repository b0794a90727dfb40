/- PROVED: sealwaxlaw04.ScalarLeft answers true for every input, and each argument reads behind the call as it read before. Conditions: none. Own work. -/
import Derived.Test.YtmdfhomeokfgiaaRcKit
namespace Go.Proofs.Ytmdfhomeokfgiaa
open Go.Ev Go.Sp Go.ChangeShapes Go.WideShapes Go.RowKit
set_option maxRecDepth 100000
theorem runLaw (a : N4) : fnS Try.prog (lookG tblC) (orcA [(3, [(3, true), (9, true), (18, true), (24, true)])]) [] 10 7 [.val true [.n4 a]] =
    some (sc (IV.bool true), [(dg (val a)).length = (dg (val a)).length, Sm (val a), (dg (val a % Lo)).length = (dg (val a % Lo)).length, ((redN a).eq (ofN (val a % Lo)) && true) = true, (dg (val a % Lo)).length = (dg (val a % Lo)).length, ((redN a).eq (ofN (val a % Lo)) && true) = true, (bl (val a % Lo) 32).length = (bl (val a % Lo) 32).length, (dg (val a % Lo)).length = (dg (val a % Lo)).length, (0 : Int) ≤ (32 : Int), (32 : Int) ≤ (4000000 : Int), (bl (val a % Lo) 32).length = (bl (val a % Lo) 32).length, (bl (val a % Lo) 32 == bl (val a % Lo) 32) = true, 32 = 32, true = true]) := by kernel_rfl
theorem law (a : N4) (w : World) (vals : List Value) (hv : F2 (DV w) [.val true [.n4 a]] vals) :
    Calls Try.prog 7 vals.toArray w fun e w' => ∃ v, e = .returned v ∧ Below w.heap.size w w' ∧ ResOk w.heap.size w' (sc (.bool true)) v := by
  refine calls_of_fnS gsC fol (runLaw a) ?_ w vals hv
  exact ⟨rfl, Sm_val a, rfl, eq4_same rfl, rfl, eq4_same rfl, rfl, rfl, by omega, by omega, rfl, beq_self_eq_true _, rfl, rfl, trivial⟩
theorem scalarLeftLifted (os : Os) (started : os.Started) (H : Type) (enc : TypeId × Value → H) :
    ReturnsInHanded {} Try.checked os 7 .any (Rows.scalarLeftSpec.pre6 enc Try.prog Try.f7 Rows.scalarLeftRow.domain false) (Rows.scalarLeftSpec.post enc Try.prog Try.f7 false true false false) := by
  refine returnsInHanded_of_change_sized (C := Try.checked) own started (by kernel_rfl) Try.func7
    (ChangeSpec.witness6 (enc := enc) (C := Try.checked) false ⟨#[], #[.agg (Array.replicate 4 (.int .u64 0))], []⟩ 8 (by kernel_rfl) (by kernel_rfl) (by kernel_rfl) (by kernel_rfl)) ?_
  intro W base args ds gs before hval0 hW hcnd hsz _
  have hval : ∀ (j : Nat) t v, Try.f7.params[j]? = some t → args[j]? = some v → Value.okWide Try.prog W .any base t v := hval0
  have hW' := hW
  obtain ⟨p, q, hA0, hV, rfl, hfz, hnd⟩ := hW
  have hA : DataW.TrodAll enc Try.prog W 0 (fun _ => true) true Try.f7.params.toList args.toList ds p := hA0
  rw [Try.params7] at hA hval
  obtain ⟨v0, d0, rfl, rfl, h0⟩ := trodAll_one hA
  obtain ⟨rfl, rfl⟩ := trodVars_none hV
  obtain ⟨a0, e0⟩ := openNumA (hval 0 _ v0 rfl rfl) h0
  refine (law a0 W [v0] ⟨e0, trivial⟩).mono fun e W' ⟨v, he, hbelow, hres⟩ => ⟨v, he, ?_⟩
  rw [resBool hres]
  exact law_post laidOut (by rw [Try.params7]; exact of_decide_eq_true (by kernel_rfl)) rfl rfl (tb := 4) (by kernel_rfl) hW' rfl hbelow

theorem scalarLeft_holds : Rows.ScalarLeftSaid :=
  OpenClaim.holds_of_wide 7 Try.f7 rfl rfl rfl rfl rfl rfl rfl ⟨rfl, rfl, rfl, rfl, rfl⟩ rfl rfl rfl rfl rfl (by kernel_rfl) Try.func7 (by kernel_rfl)
    (of_decide_eq_true (by kernel_rfl)) (by unfold Func.isWrapper; first | (rw [if_pos (by decide +kernel)]; kernel_rfl) | (rw [if_neg (by decide +kernel)]; exact ⟨rfl, rfl⟩))
    (fun os started H enc _ => scalarLeftLifted os started H enc)

end Go.Proofs.Ytmdfhomeokfgiaa
