/- PROVED: sealwaxlaw05.LadderAgrees answers true for every argument, and each argument reads behind the call as it read before. Conditions: none. Own work. -/
import Derived.Test.YtpeplakhcgaajaaMgat
namespace Go.Proofs.Ytpeplakhcgaajaa
open Go.Ev Go.Sp Go.ChangeShapes Go.WideShapes Go.RowKit
set_option maxRecDepth 100000
theorem runLaw (f g : BL → BL → BL × Int) (j k : BL) : fnS Try.prog (lookG (tblXL f g)) (orcA [(3, [(1, false), (4, false)]), (7, [(4, true), (8, true)])]) [] 10 8 [sc (.d8 j), sc (.d8 k)] =
    some (sc (IV.bool true), [List.length j = List.length j, List.length j ≤ 140737488351232, List.length j = List.length j, List.length k = List.length k, List.length k ≤ 140737488351232, List.length k = List.length k, (!(f j nine32).snd == (0 : Int)) = false, (!(f k nine32).snd == (0 : Int)) = false, List.length j = List.length j, List.length j ≤ 140737488351232, List.length j = List.length j, List.length (f k nine32).fst = List.length (f k nine32).fst, List.length k = List.length k, List.length k ≤ 140737488351232, List.length k = List.length k, List.length (f j nine32).fst = List.length (f j nine32).fst, List.length (g j (f k nine32).fst).fst = List.length (g j (f k nine32).fst).fst, List.length (g k (f j nine32).fst).fst = List.length (g k (f j nine32).fst).fst, ((g j (f k nine32).fst).fst == (g k (f j nine32).fst).fst) = true, ((g j (f k nine32).fst).snd == (g k (f j nine32).fst).snd) = true]) := by kernel_rfl
theorem runLawJ (f g : BL → BL → BL × Int) (j k : BL) (x y : Bool) : fnS Try.prog (lookG (tblXL f g)) (orcA [(3, [(1, true)]), (4, [(2, x), (4, x), (5, true), (9, y), (11, y), (12, true)])]) [] 10 8 [sc (.d8 j), sc (.d8 k)] =
    some (sc (IV.bool true), [List.length j = List.length j, List.length j ≤ 140737488351232, List.length j = List.length j, List.length k = List.length k, List.length k ≤ 140737488351232, List.length k = List.length k, (!(f j nine32).snd == (0 : Int)) = true, (!(↑(List.length j) : Int) == (32 : Int)) = x, ((f j nine32).snd == (1 : Int)) = x, (x == x) = true, (!(↑(List.length k) : Int) == (32 : Int)) = y, ((f k nine32).snd == (1 : Int)) = y, (y == y) = true]) := by kernel_rfl
theorem runLawK (f g : BL → BL → BL × Int) (j k : BL) (x y : Bool) : fnS Try.prog (lookG (tblXL f g)) (orcA [(3, [(1, false), (4, true)]), (4, [(2, x), (4, x), (5, true), (9, y), (11, y), (12, true)])]) [] 10 8 [sc (.d8 j), sc (.d8 k)] =
    some (sc (IV.bool true), [List.length j = List.length j, List.length j ≤ 140737488351232, List.length j = List.length j, List.length k = List.length k, List.length k ≤ 140737488351232, List.length k = List.length k, (!(f j nine32).snd == (0 : Int)) = false, (!(f k nine32).snd == (0 : Int)) = true, (!(↑(List.length j) : Int) == (32 : Int)) = x, ((f j nine32).snd == (1 : Int)) = x, (x == x) = true, (!(↑(List.length k) : Int) == (32 : Int)) = y, ((f k nine32).snd == (1 : Int)) = y, (y == y) = true]) := by kernel_rfl
theorem shared_agrees (j k : BL) (hj : j.length = 32) (hk : k.length = 32) : sharedV j (multV k nine32).1 = sharedV k (multV j nine32).1 := by
  unfold sharedV
  rw [agrees j k hj hk]
theorem mult_err {k : BL} (h : k.length ≠ 32) : (multV k nine32).2 = 1 := by rw [multV, if_neg (fun q => h q.1)]
theorem mult_ok {k : BL} (h : k.length = 32) : (multV k nine32).2 = 0 := by rw [multV, if_pos ⟨h, rfl⟩]
theorem law (j : BL) (lj : j.length ≤ reachBytes) (k : BL) (lk : k.length ≤ reachBytes) (w : World) (vals : List Value) (hv : F2 (DV w) [sc (.d8 j), sc (.d8 k)] vals) :
    Calls Try.prog 8 vals.toArray w fun e w' => ∃ v, e = .returned v ∧ Below w.heap.size w w' ∧ ResOk w.heap.size w' (sc (.bool true)) v := by
  have hjB : j.length ≤ 140737488351232 := lj
  have hkB : k.length ≤ 140737488351232 := lk
  by_cases hj : j.length = 32
  · have ej := mult_ok hj
    by_cases hk : k.length = 32
    · have ek := mult_ok hk
      have r0 := runLaw multV sharedV j k
      rw [shared_agrees j k hj hk, ej, ek] at r0
      refine calls_of_fnS gsXL fol r0 ?_ w vals hv
      clear r0
      simp only [AllP]
      and_intros <;> first | exact True.intro | with_reducible rfl | exact beq_self_eq_true _ | omega | rfl
    · have ek := mult_err hk
      have r0 := runLawK multV sharedV j k false true
      rw [ej, ek] at r0
      refine calls_of_fnS gsXL fol r0 ?_ w vals hv
      clear r0
      simp only [AllP]
      and_intros <;> first | exact True.intro | with_reducible rfl | exact lcT hj | exact lcF hk | omega | rfl
  · have ej := mult_err hj
    by_cases hk : k.length = 32
    · have ek := mult_ok hk
      have r0 := runLawJ multV sharedV j k true false
      rw [ej, ek] at r0
      refine calls_of_fnS gsXL fol r0 ?_ w vals hv
      clear r0
      simp only [AllP]
      and_intros <;> first | exact True.intro | with_reducible rfl | exact lcF hj | exact lcT hk | omega | rfl
    · have ek := mult_err hk
      have r0 := runLawJ multV sharedV j k true true
      rw [ej, ek] at r0
      refine calls_of_fnS gsXL fol r0 ?_ w vals hv
      clear r0
      simp only [AllP]
      and_intros <;> first | exact True.intro | with_reducible rfl | exact lcF hj | exact lcF hk | omega | rfl
theorem ladderAgreesLifted (os : Os) (started : os.Started) (H : Type) (enc : TypeId × Value → H) :
    ReturnsInHanded {} Try.checked os 8 .any (Rows.ladderAgreesSpec.pre6 enc Try.prog Try.f8 Rows.ladderAgreesRow.domain false) (Rows.ladderAgreesSpec.post enc Try.prog Try.f8 false true false false) := by
  refine returnsInHanded_of_change_sized (C := Try.checked) own started (by kernel_rfl) Try.func8
    (ChangeSpec.witness6 (enc := enc) (C := Try.checked) false ⟨#[], #[.slice none 0 0, .slice none 0 0], []⟩ 8 (by kernel_rfl) (by kernel_rfl) (by kernel_rfl) (by kernel_rfl)) ?_
  intro W base args ds gs before hval0 hW hcnd hsz _
  have hval : ∀ (j : Nat) t v, Try.f8.params[j]? = some t → args[j]? = some v → Value.okWide Try.prog W .any base t v := hval0
  have hW' := hW
  obtain ⟨p, q, hA0, hV, rfl, hfz, hnd⟩ := hW
  have hA : DataW.TrodAll enc Try.prog W 0 (fun _ => true) true Try.f8.params.toList args.toList ds p := hA0
  rw [Try.params8] at hA hval
  obtain ⟨v0, v1, d0, d1, p0, p1, rfl, rfl, rfl, h0, h1⟩ := trodAll_two hA
  obtain ⟨rfl, rfl⟩ := trodVars_none hV
  obtain ⟨a0, e0, l0, s0⟩ := open_d8 (e := 5) (by kernel_rfl) (by kernel_rfl) (by kernel_rfl) (by kernel_rfl) (hval 0 _ v0 rfl rfl) h0
  replace l0 := l0 reachBytes fun x hx => of_decide_eq_true (List.all_eq_true.1 hsz x (DataW.weights_mem_each (j := 0) rfl rfl x hx))
  obtain ⟨a1, e1, l1, s1⟩ := open_d8 (e := 5) (by kernel_rfl) (by kernel_rfl) (by kernel_rfl) (by kernel_rfl) (hval 1 _ v1 rfl rfl) h1
  replace l1 := l1 reachBytes fun x hx => of_decide_eq_true (List.all_eq_true.1 hsz x (DataW.weights_mem_each (j := 1) rfl rfl x hx))
  refine (law a0 l0 a1 l1 W [v0, v1] ⟨e0, e1, trivial⟩).mono fun e W' ⟨v, he, hbelow, hres⟩ => ⟨v, he, ?_⟩
  rw [resBool hres]
  exact law_post laidOut (by rw [Try.params8]; exact of_decide_eq_true (by kernel_rfl)) rfl rfl (tb := 4) (by kernel_rfl) hW' rfl hbelow

theorem ladderAgrees_holds : Rows.LadderAgreesSaid :=
  OpenClaim.holds_of_wide 8 Try.f8 rfl rfl rfl rfl rfl rfl rfl ⟨rfl, rfl, rfl, rfl, rfl⟩ rfl rfl rfl rfl rfl (by kernel_rfl) Try.func8 (by kernel_rfl)
    (of_decide_eq_true (by kernel_rfl)) (by unfold Func.isWrapper; first | (rw [if_pos (by decide +kernel)]; kernel_rfl) | (rw [if_neg (by decide +kernel)]; exact ⟨rfl, rfl⟩))
    (fun os started H enc _ => ladderAgreesLifted os started H enc)

end Go.Proofs.Ytpeplakhcgaajaa
