/- PROVED: sealwaxlaw02.WideProducts answers true for every two numbers, and each argument reads behind the call as it read before. Conditions: none. Own work. -/
import Derived.Test.YtokbhlapbollbaaRwKit
import Derived.Test.YtokbhlapbollbaaCtP
namespace Go.Proofs.Ytokbhlapbollbaa
open Go.Ev Go.Sp Go.ChangeShapes Go.WideShapes Go.RowKit
set_option maxRecDepth 100000

def tblLaw : List (FuncId × CtS) := [(33, .fn spMul), (34, .fn spNTimes), (16, .fn spAwake)] ++ tblN
theorem gsLaw : GSound Try.prog (upG (lookG tblLaw)) := GSound_of_tbl ⟨⟨ctMul, by kernel_rfl⟩, ⟨nTimes, by kernel_rfl⟩, ⟨ctAwake, by kernel_rfl⟩, okN⟩
theorem runLaw (a b : N4) : fnS Try.prog (lookG tblLaw) (orcA [(1, [(9, true)])]) [] 10 9 [.val true [.n4 a], .val true [.n4 b]] =
    some (sc (IV.bool true), [(dg (val a)).length = (dg (val a)).length, (dg (val b)).length = (dg (val b)).length, Sm (val a), Sm (val b), (dg (val a * val b)).length = (dg (val a * val b)).length, ((ofN (val a * val b)).eq (ofN (val a * val b)) && ((ofN (val a * val b / 115792089237316195423570985008687907853269984665640564039457584007913129639936)).eq (ofN (val a * val b / 115792089237316195423570985008687907853269984665640564039457584007913129639936)) && true)) = true]) := by kernel_rfl

theorem law (a b : N4) (w : World) (vals : List Value) (hv : F2 (DV w) [.val true [.n4 a], .val true [.n4 b]] vals) :
    Calls Try.prog 9 vals.toArray w fun e w' => ∃ v, e = .returned v ∧ Below w.heap.size w w' ∧ ResOk w.heap.size w' (sc (.bool true)) v := by
  have h : (!((mulV a b).1.eq (ofN (val a * val b)) && ((mulV a b).2.eq (ofN (val a * val b / p256)) && true))) = false := by
    simp [mulV, N4.eq]
  have h2 : ((mulV a b).1.eq (ofN (val a * val b)) && ((mulV a b).2.eq (ofN (val a * val b / p256)) && true)) = true := by simpa using h
  exact calls_of_fnS gsLaw fol (runLaw a b) ⟨rfl, rfl, Sm_val a, Sm_val b, rfl, h2, trivial⟩ w vals hv
theorem wideProductsLifted (os : Os) (started : os.Started) (H : Type) (enc : TypeId × Value → H) :
    ReturnsInHanded {} Try.checked os 9 .any (Rows.wideProductsSpec.pre6 enc Try.prog Try.f9 Rows.wideProductsRow.domain false) (Rows.wideProductsSpec.post enc Try.prog Try.f9 false true false false) := by
  refine returnsInHanded_of_change_sized (C := Try.checked) own started (by kernel_rfl) Try.func9
    (ChangeSpec.witness6 (enc := enc) (C := Try.checked) false ⟨#[], #[.agg (Array.replicate 4 (.int .u64 0)), .agg (Array.replicate 4 (.int .u64 0))], []⟩ 8 (by kernel_rfl) (by kernel_rfl) (by kernel_rfl) (by kernel_rfl)) ?_
  intro W base args ds gs before hval0 hW hcnd hsz _
  have hval : ∀ (j : Nat) t v, Try.f9.params[j]? = some t → args[j]? = some v → Value.okWide Try.prog W .any base t v := hval0
  have hW' := hW
  obtain ⟨p, q, hA0, hV, rfl, hfz, hnd⟩ := hW
  have hA : DataW.TrodAll enc Try.prog W 0 (fun _ => true) true Try.f9.params.toList args.toList ds p := hA0
  rw [Try.params9] at hA hval
  obtain ⟨v0, v1, d0, d1, p0, p1, rfl, rfl, rfl, h0, h1⟩ := trodAll_two hA
  obtain ⟨rfl, rfl⟩ := trodVars_none hV
  obtain ⟨a0, e0⟩ := openNum (hval 0 _ v0 rfl rfl) h0
  obtain ⟨a1, e1⟩ := openNum (hval 1 _ v1 rfl rfl) h1
  refine (law a0 a1 W [v0, v1] ⟨e0, e1, trivial⟩).mono fun e W' ⟨v, he, hbelow, hres⟩ => ⟨v, he, ?_⟩
  rw [resBool hres]
  exact law_post laidOut (by rw [Try.params9]; exact of_decide_eq_true (by kernel_rfl)) rfl rfl (tb := 4) (by kernel_rfl) hW' rfl hbelow

theorem wideProducts_holds : Rows.WideProductsSaid :=
  OpenClaim.holds_of_wide 9 Try.f9 rfl rfl rfl rfl rfl rfl rfl ⟨rfl, rfl, rfl, rfl, rfl⟩ rfl rfl rfl rfl rfl (by kernel_rfl) Try.func9 (by kernel_rfl)
    (of_decide_eq_true (by kernel_rfl)) (by unfold Func.isWrapper; first | (rw [if_pos (by decide +kernel)]; kernel_rfl) | (rw [if_neg (by decide +kernel)]; exact ⟨rfl, rfl⟩))
    (fun os started H enc _ => wideProductsLifted os started H enc)

end Go.Proofs.Ytokbhlapbollbaa
