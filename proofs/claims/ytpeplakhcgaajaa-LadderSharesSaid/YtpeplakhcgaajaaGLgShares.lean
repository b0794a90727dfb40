/- PROVED: sealwaxlaw05.LadderShares answers true for every argument, and each argument reads behind the call as it read before. Conditions: none. Own work. -/
import Derived.Test.YtpeplakhcgaajaaMgat
namespace Go.Proofs.Ytpeplakhcgaajaa
open Go.Ev Go.Sp Go.ChangeShapes Go.WideShapes Go.RowKit
set_option maxRecDepth 100000
theorem runLaw (f g : BL → BL → BL × Int) (k u : BL) : fnS Try.prog (lookG (tblXL f g)) (orcA [(3, [(4, true), (8, true)])]) [] 10 5 [sc (.d8 k), sc (.d8 u)] =
    some (sc (IV.bool true), [List.length k = List.length k, List.length k ≤ 140737488351232, List.length u = List.length u, List.length u ≤ 140737488351232, List.length k = List.length k, List.length u = List.length u, List.length k = List.length k, List.length u = List.length u, List.length (g k u).fst = List.length (g k u).fst, List.length (g k u).fst = List.length (g k u).fst, ((g k u).fst == (g k u).fst) = true, ((g k u).snd == (g k u).snd) = true]) := by kernel_rfl
theorem law (k : BL) (lk : k.length ≤ reachBytes) (u : BL) (lu : u.length ≤ reachBytes) (w : World) (vals : List Value) (hv : F2 (DV w) [sc (.d8 k), sc (.d8 u)] vals) :
    Calls Try.prog 5 vals.toArray w fun e w' => ∃ v, e = .returned v ∧ Below w.heap.size w w' ∧ ResOk w.heap.size w' (sc (.bool true)) v := by
  have hkB : k.length ≤ 140737488351232 := lk
  have huB : u.length ≤ 140737488351232 := lu
  refine calls_of_fnS gsXL fol (runLaw multV sharedV k u) ?_ w vals hv
  simp only [AllP]
  and_intros <;> first | exact True.intro | with_reducible rfl | exact beq_self_eq_true _ | omega
theorem ladderSharesLifted (os : Os) (started : os.Started) (H : Type) (enc : TypeId × Value → H) :
    ReturnsInHanded {} Try.checked os 5 .any (Rows.ladderSharesSpec.pre6 enc Try.prog Try.f5 Rows.ladderSharesRow.domain false) (Rows.ladderSharesSpec.post enc Try.prog Try.f5 false true false false) := by
  refine returnsInHanded_of_change_sized (C := Try.checked) own started (by kernel_rfl) Try.func5
    (ChangeSpec.witness6 (enc := enc) (C := Try.checked) false ⟨#[], #[.slice none 0 0, .slice none 0 0], []⟩ 8 (by kernel_rfl) (by kernel_rfl) (by kernel_rfl) (by kernel_rfl)) ?_
  intro W base args ds gs before hval0 hW hcnd hsz _
  have hval : ∀ (j : Nat) t v, Try.f5.params[j]? = some t → args[j]? = some v → Value.okWide Try.prog W .any base t v := hval0
  have hW' := hW
  obtain ⟨p, q, hA0, hV, rfl, hfz, hnd⟩ := hW
  have hA : DataW.TrodAll enc Try.prog W 0 (fun _ => true) true Try.f5.params.toList args.toList ds p := hA0
  rw [Try.params5] at hA hval
  obtain ⟨v0, v1, d0, d1, p0, p1, rfl, rfl, rfl, h0, h1⟩ := trodAll_two hA
  obtain ⟨rfl, rfl⟩ := trodVars_none hV
  obtain ⟨a0, e0, l0, s0⟩ := open_d8 (e := 5) (by kernel_rfl) (by kernel_rfl) (by kernel_rfl) (by kernel_rfl) (hval 0 _ v0 rfl rfl) h0
  replace l0 := l0 reachBytes fun x hx => of_decide_eq_true (List.all_eq_true.1 hsz x (DataW.weights_mem_each (j := 0) rfl rfl x hx))
  obtain ⟨a1, e1, l1, s1⟩ := open_d8 (e := 5) (by kernel_rfl) (by kernel_rfl) (by kernel_rfl) (by kernel_rfl) (hval 1 _ v1 rfl rfl) h1
  replace l1 := l1 reachBytes fun x hx => of_decide_eq_true (List.all_eq_true.1 hsz x (DataW.weights_mem_each (j := 1) rfl rfl x hx))
  refine (law a0 l0 a1 l1 W [v0, v1] ⟨e0, e1, trivial⟩).mono fun e W' ⟨v, he, hbelow, hres⟩ => ⟨v, he, ?_⟩
  rw [resBool hres]
  exact law_post laidOut (by rw [Try.params5]; exact of_decide_eq_true (by kernel_rfl)) rfl rfl (tb := 4) (by kernel_rfl) hW' rfl hbelow

theorem ladderShares_holds : Rows.LadderSharesSaid :=
  OpenClaim.holds_of_wide 5 Try.f5 rfl rfl rfl rfl rfl rfl rfl ⟨rfl, rfl, rfl, rfl, rfl⟩ rfl rfl rfl rfl rfl (by kernel_rfl) Try.func5 (by kernel_rfl)
    (of_decide_eq_true (by kernel_rfl)) (by unfold Func.isWrapper; first | (rw [if_pos (by decide +kernel)]; kernel_rfl) | (rw [if_neg (by decide +kernel)]; exact ⟨rfl, rfl⟩))
    (fun os started H enc _ => ladderSharesLifted os started H enc)

end Go.Proofs.Ytpeplakhcgaajaa
