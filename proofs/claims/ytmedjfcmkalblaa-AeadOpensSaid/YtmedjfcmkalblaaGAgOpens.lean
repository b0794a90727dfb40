/- PROVED: sealwaxlaw12.AeadOpens answers true for every argument, and the argument reads behind the call as it read before. Conditions: none. Own work. -/
import Derived.Test.YtmedjfcmkalblaaMgaq
namespace Go.Proofs.Ytmedjfcmkalblaa
open Go.Ev Go.Sp Go.ChangeShapes Go.WideShapes Go.RowKit
set_option maxRecDepth 100000
theorem runLaw (f g : BL → BL → BL → BL → BL × Int) (k n o b : BL) : fnS Try.prog (lookG (tblXA f g)) (orcA [(1, [(3, false), (8, false)]), (6, [(4, true), (8, true)])]) [] 10 4 [.val true [.d8 k, .d8 n, .d8 o, .d8 b]] =
    some (sc (IV.bool true), [decide ((1000 : Int) < (↑(List.length o) : Int)) = false, decide ((2000 : Int) < (↑(List.length b) : Int)) = false, List.length k = List.length k, List.length n = List.length n, List.length o = List.length o, List.length b = List.length b, List.length k ≤ 140737488351232, List.length n ≤ 140737488351232, List.length o ≤ 140737488351232, List.length b ≤ 140737488351232, List.length k = List.length k, List.length n = List.length n, List.length o = List.length o, List.length b = List.length b, List.length o ≤ 1000, List.length b ≤ 2016, List.length k = List.length k, List.length n = List.length n, List.length o = List.length o, List.length b = List.length b, List.length o ≤ 1000, List.length b ≤ 2016, List.length (g k n o b).fst = List.length (g k n o b).fst, List.length (g k n o b).fst = List.length (g k n o b).fst, ((g k n o b).fst == (g k n o b).fst) = true, ((g k n o b).snd == (g k n o b).snd) = true, List.length k = List.length k, List.length n = List.length n, List.length o = List.length o, List.length b = List.length b, List.length k = List.length k, List.length n = List.length n, List.length o = List.length o, List.length b = List.length b, k = k, n = n, o = o, b = b]) := by kernel_rfl
theorem runLaw1 (f g : BL → BL → BL → BL → BL × Int) (k n o b : BL) : fnS Try.prog (lookG (tblXA f g)) (orcA [(1, [(3, true)])]) [] 10 4 [.val true [.d8 k, .d8 n, .d8 o, .d8 b]] =
    some (sc (IV.bool true), [decide ((1000 : Int) < (↑(List.length o) : Int)) = true]) := by kernel_rfl
theorem runLaw2 (f g : BL → BL → BL → BL → BL × Int) (k n o b : BL) : fnS Try.prog (lookG (tblXA f g)) (orcA [(1, [(3, false), (8, true)])]) [] 10 4 [.val true [.d8 k, .d8 n, .d8 o, .d8 b]] =
    some (sc (IV.bool true), [decide ((1000 : Int) < (↑(List.length o) : Int)) = false, decide ((2000 : Int) < (↑(List.length b) : Int)) = true]) := by kernel_rfl
theorem law (k n o b : BL) (lk : k.length ≤ reachBytes) (ln : n.length ≤ reachBytes) (_lo : o.length ≤ reachBytes) (_lb : b.length ≤ reachBytes) (w : World) (vals : List Value) (hv : F2 (DV w) [.val true [.d8 k, .d8 n, .d8 o, .d8 b]] vals) :
    Calls Try.prog 4 vals.toArray w fun e w' => ∃ v, e = .returned v ∧ Below w.heap.size w w' ∧ ResOk w.heap.size w' (sc (.bool true)) v := by
  have hkB : k.length ≤ 140737488351232 := lk
  have hnB : n.length ≤ 140737488351232 := ln
  by_cases ho : o.length ≤ 1000
  case neg =>
    refine calls_of_fnS gsXA fol (runLaw1 sealV openV k n o b) ?_ w vals hv
    simp only [AllP]
    and_intros <;> first | exact True.intro | exact decide_eq_true (by omega) | omega | rfl
  by_cases hb : b.length ≤ 2000
  case neg =>
    refine calls_of_fnS gsXA fol (runLaw2 sealV openV k n o b) ?_ w vals hv
    simp only [AllP]
    and_intros <;> first | exact True.intro | exact decide_eq_false (by omega) | exact decide_eq_true (by omega) | omega | rfl
  have hl : (openV k n o b).1.length ≤ 100000 := Nat.le_trans (open_len k n o b) (by omega)
  refine calls_of_fnS gsXA fol (runLaw sealV openV k n o b) ?_ w vals hv
  simp only [AllP]
  and_intros <;> first | exact True.intro | with_reducible rfl | exact beq_self_eq_true _ | exact decide_eq_false (by omega) | omega | rfl
theorem aeadOpensLifted (os : Os) (started : os.Started) (H : Type) (enc : TypeId × Value → H) :
    ReturnsInHanded {} Try.checked os 4 .any (Rows.aeadOpensSpec.pre6 enc Try.prog Try.f4 Rows.aeadOpensRow.domain false) (Rows.aeadOpensSpec.post enc Try.prog Try.f4 false true false false) := by
  refine returnsInHanded_of_change_sized (C := Try.checked) own started (by kernel_rfl) Try.func4
    (ChangeSpec.witness6 (enc := enc) (C := Try.checked) false ⟨#[], #[.agg #[.slice none 0 0, .slice none 0 0, .slice none 0 0, .slice none 0 0]], []⟩ 8 (by kernel_rfl) (by kernel_rfl) (by kernel_rfl) (by kernel_rfl)) ?_
  intro W base args ds gs before hval0 hW hcnd hsz _
  have hval : ∀ (j : Nat) t v, Try.f4.params[j]? = some t → args[j]? = some v → Value.okWide Try.prog W .any base t v := hval0
  have hW' := hW
  obtain ⟨p, q, hA0, hV, rfl, hfz, hnd⟩ := hW
  have hA : DataW.TrodAll enc Try.prog W 0 (fun _ => true) true Try.f4.params.toList args.toList ds p := hA0
  rw [Try.params4] at hA hval
  obtain ⟨v0, d0, rfl, rfl, h0⟩ := trodAll_one hA
  obtain ⟨rfl, rfl⟩ := trodVars_none hV
  obtain ⟨k0, n0, o0, b0, e0, lk0, ln0, lo0, lb0⟩ := openParts (N := reachBytes) (hval 0 _ v0 rfl rfl) h0 fun x hx => of_decide_eq_true (List.all_eq_true.1 hsz x (DataW.weights_mem_each (j := 0) rfl rfl x hx))
  refine (law k0 n0 o0 b0 lk0 ln0 lo0 lb0 W [v0] ⟨e0, trivial⟩).mono fun e W' ⟨v, he, hbelow, hres⟩ => ⟨v, he, ?_⟩
  rw [resBool hres]
  exact law_post laidOut (by rw [Try.params4]; exact of_decide_eq_true (by kernel_rfl)) rfl rfl (tb := 4) (by kernel_rfl) hW' rfl hbelow

theorem aeadOpens_holds : Rows.AeadOpensSaid :=
  OpenClaim.holds_of_wide 4 Try.f4 rfl rfl rfl rfl rfl rfl rfl ⟨rfl, rfl, rfl, rfl, rfl⟩ rfl rfl rfl rfl rfl (by kernel_rfl) Try.func4 (by kernel_rfl)
    (of_decide_eq_true (by kernel_rfl)) (by unfold Func.isWrapper; first | (rw [if_pos (by decide +kernel)]; kernel_rfl) | (rw [if_neg (by decide +kernel)]; exact ⟨rfl, rfl⟩))
    (fun os started H enc _ => aeadOpensLifted os started H enc)

end Go.Proofs.Ytmedjfcmkalblaa
