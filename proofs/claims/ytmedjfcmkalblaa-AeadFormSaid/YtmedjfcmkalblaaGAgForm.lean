/- PROVED: sealwaxlaw12.AeadForm answers true for every argument, and the argument reads behind the call as it read before. Conditions: none. Own work. -/
import Derived.Test.YtmedjfcmkalblaaMgaq
namespace Go.Proofs.Ytmedjfcmkalblaa
open Go.Ev Go.Sp Go.ChangeShapes Go.WideShapes Go.RowKit
set_option maxRecDepth 100000
theorem runLaw (f g : BL → BL → BL → BL → BL × Int) (k n o b : BL) : fnS Try.prog (lookG (tblXA f g)) (orcA [(1, [(3, false), (8, false)]), (5, [(1, false)]), (8, [(1, true), (8, true)])]) [] 10 6 [.val true [.d8 k, .d8 n, .d8 o, .d8 b]] =
    some (sc (IV.bool true), [decide ((1000 : Int) < (↑(List.length o) : Int)) = false, decide ((2000 : Int) < (↑(List.length b) : Int)) = false, List.length k = List.length k, List.length n = List.length n, List.length o = List.length o, List.length b = List.length b, List.length k ≤ 140737488351232, List.length n ≤ 140737488351232, List.length o ≤ 140737488351232, List.length b ≤ 140737488351232, List.length k = List.length k, List.length n = List.length n, List.length o = List.length o, List.length b = List.length b, List.length o ≤ 1000, List.length b ≤ 2016, (!(g k n o b).snd == (0 : Int)) = false, List.length k = List.length k, List.length n = List.length n, List.length o = List.length o, List.length (g k n o b).fst = List.length (g k n o b).fst, List.length o ≤ 1000, List.length (g k n o b).fst ≤ 2000, ((f k n o (g k n o b).fst).snd == (0 : Int)) = true, List.length (f k n o (g k n o b).fst).fst = List.length (f k n o (g k n o b).fst).fst, List.length b = List.length b, ((f k n o (g k n o b).fst).fst == b) = true]) := by kernel_rfl
theorem runLawN (f g : BL → BL → BL → BL → BL × Int) (k n o b : BL) : fnS Try.prog (lookG (tblXA f g)) (orcA [(1, [(3, false), (8, false)]), (5, [(1, true)]), (6, [(2, true)])]) [] 10 6 [.val true [.d8 k, .d8 n, .d8 o, .d8 b]] =
    some (sc (IV.bool true), [decide ((1000 : Int) < (↑(List.length o) : Int)) = false, decide ((2000 : Int) < (↑(List.length b) : Int)) = false, List.length k = List.length k, List.length n = List.length n, List.length o = List.length o, List.length b = List.length b, List.length k ≤ 140737488351232, List.length n ≤ 140737488351232, List.length o ≤ 140737488351232, List.length b ≤ 140737488351232, List.length k = List.length k, List.length n = List.length n, List.length o = List.length o, List.length b = List.length b, List.length o ≤ 1000, List.length b ≤ 2016, (!(g k n o b).snd == (0 : Int)) = true, ((↑(List.length (g k n o b).fst) : Int) == (0 : Int)) = true]) := by kernel_rfl
theorem runLaw1 (f g : BL → BL → BL → BL → BL × Int) (k n o b : BL) : fnS Try.prog (lookG (tblXA f g)) (orcA [(1, [(3, true)])]) [] 10 6 [.val true [.d8 k, .d8 n, .d8 o, .d8 b]] =
    some (sc (IV.bool true), [decide ((1000 : Int) < (↑(List.length o) : Int)) = true]) := by kernel_rfl
theorem runLaw2 (f g : BL → BL → BL → BL → BL × Int) (k n o b : BL) : fnS Try.prog (lookG (tblXA f g)) (orcA [(1, [(3, false), (8, true)])]) [] 10 6 [.val true [.d8 k, .d8 n, .d8 o, .d8 b]] =
    some (sc (IV.bool true), [decide ((1000 : Int) < (↑(List.length o) : Int)) = false, decide ((2000 : Int) < (↑(List.length b) : Int)) = true]) := by kernel_rfl
theorem law (k n o b : BL) (lk : k.length ≤ reachBytes) (ln : n.length ≤ reachBytes) (_lo : o.length ≤ reachBytes) (_lb : b.length ≤ reachBytes) (w : World) (vals : List Value) (hv : F2 (DV w) [.val true [.d8 k, .d8 n, .d8 o, .d8 b]] vals) :
    Calls Try.prog 6 vals.toArray w fun e w' => ∃ v, e = .returned v ∧ Below w.heap.size w w' ∧ ResOk w.heap.size w' (sc (.bool true)) v := by
  have hkB : k.length ≤ 140737488351232 := lk
  have hnB : n.length ≤ 140737488351232 := ln
  by_cases ho : o.length ≤ 1000
  case neg =>
    refine calls_of_fnS gsXA fol (runLaw1 sealV openV k n o b) ?_ w vals hv
    simp only [AllP]
    and_intros <;> first | exact True.intro | exact decide_eq_true (by omega) | omega | rfl
  by_cases hb : b.length ≤ 2000
  case neg =>
    refine calls_of_fnS gsXA fol (runLaw2 sealV openV k n o b) ?_ w vals hv
    simp only [AllP]
    and_intros <;> first | exact True.intro | exact decide_eq_false (by omega) | exact decide_eq_true (by omega) | omega | rfl
  by_cases hr : (openV k n o b).2 = 0
  · obtain ⟨hk, hn, hl, e1⟩ := open_ok hr
    have r0 := runLaw sealV openV k n o b
    rw [e1, hr] at r0
    refine calls_of_fnS gsXA fol r0 ?_ w vals hv
    clear r0 e1
    simp only [AllP]
    and_intros <;> first | exact True.intro | with_reducible rfl | exact beq_self_eq_true _ | exact decide_eq_false (by omega) | omega | rfl
  · have e1 := open_no hr
    have r0 := runLawN sealV openV k n o b
    rw [e1] at r0
    refine calls_of_fnS gsXA fol r0 ?_ w vals hv
    clear r0 e1
    simp only [AllP]
    and_intros <;> first | exact True.intro | with_reducible rfl | exact decide_eq_false (by omega) | exact Ls.neqB hr | omega | rfl
theorem aeadFormLifted (os : Os) (started : os.Started) (H : Type) (enc : TypeId × Value → H) :
    ReturnsInHanded {} Try.checked os 6 .any (Rows.aeadFormSpec.pre6 enc Try.prog Try.f6 Rows.aeadFormRow.domain false) (Rows.aeadFormSpec.post enc Try.prog Try.f6 false true false false) := by
  refine returnsInHanded_of_change_sized (C := Try.checked) own started (by kernel_rfl) Try.func6
    (ChangeSpec.witness6 (enc := enc) (C := Try.checked) false ⟨#[], #[.agg #[.slice none 0 0, .slice none 0 0, .slice none 0 0, .slice none 0 0]], []⟩ 8 (by kernel_rfl) (by kernel_rfl) (by kernel_rfl) (by kernel_rfl)) ?_
  intro W base args ds gs before hval0 hW hcnd hsz _
  have hval : ∀ (j : Nat) t v, Try.f6.params[j]? = some t → args[j]? = some v → Value.okWide Try.prog W .any base t v := hval0
  have hW' := hW
  obtain ⟨p, q, hA0, hV, rfl, hfz, hnd⟩ := hW
  have hA : DataW.TrodAll enc Try.prog W 0 (fun _ => true) true Try.f6.params.toList args.toList ds p := hA0
  rw [Try.params6] at hA hval
  obtain ⟨v0, d0, rfl, rfl, h0⟩ := trodAll_one hA
  obtain ⟨rfl, rfl⟩ := trodVars_none hV
  obtain ⟨k0, n0, o0, b0, e0, lk0, ln0, lo0, lb0⟩ := openParts (N := reachBytes) (hval 0 _ v0 rfl rfl) h0 fun x hx => of_decide_eq_true (List.all_eq_true.1 hsz x (DataW.weights_mem_each (j := 0) rfl rfl x hx))
  refine (law k0 n0 o0 b0 lk0 ln0 lo0 lb0 W [v0] ⟨e0, trivial⟩).mono fun e W' ⟨v, he, hbelow, hres⟩ => ⟨v, he, ?_⟩
  rw [resBool hres]
  exact law_post laidOut (by rw [Try.params6]; exact of_decide_eq_true (by kernel_rfl)) rfl rfl (tb := 4) (by kernel_rfl) hW' rfl hbelow

theorem aeadForm_holds : Rows.AeadFormSaid :=
  OpenClaim.holds_of_wide 6 Try.f6 rfl rfl rfl rfl rfl rfl rfl ⟨rfl, rfl, rfl, rfl, rfl⟩ rfl rfl rfl rfl rfl (by kernel_rfl) Try.func6 (by kernel_rfl)
    (of_decide_eq_true (by kernel_rfl)) (by unfold Func.isWrapper; first | (rw [if_pos (by decide +kernel)]; kernel_rfl) | (rw [if_neg (by decide +kernel)]; exact ⟨rfl, rfl⟩))
    (fun os started H enc _ => aeadFormLifted os started H enc)

end Go.Proofs.Ytmedjfcmkalblaa
