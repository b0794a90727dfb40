/- PROVED: sealwaxlaw10.StreamTwice answers true for every key, nonce, counter and bytes, and the argument reads behind the call as it read before. Conditions: none. Own work. -/
import Derived.Test.YtclngijinhcdpaaRsKit
namespace Go.Proofs.Ytclngijinhcdpaa
open Go.Ev Go.Sp Go.ChangeShapes Go.WideShapes Go.RowKit
set_option maxRecDepth 100000
theorem runLaw (k n : List (BitVec 8)) (c : BitVec 32) (b : List (BitVec 8)) : fnS Try.prog (lookG tblX) (orcA [(1, [(3, false)]), (4, [(1, false)]), (7, [(1, true), (8, true), (16, true)])]) [] 10 6 [.val true [.d8 k, .d8 n, .u32 c, .d8 b]] =
    some (sc (IV.bool true), [decide ((4000 : Int) < (↑b.length : Int)) = false, k.length = k.length, k.length ≤ 140737488351232, n.length = n.length, n.length ≤ 140737488351232, b.length = b.length, b.length ≤ 140737488351232, k.length = k.length, n.length = n.length, b.length = b.length, b.length ≤ 4000, (!(xorV k n c b).snd == (0 : Int)) = false, k.length = k.length, k.length ≤ 140737488351232, n.length = n.length, n.length ≤ 140737488351232, k.length = k.length, n.length = n.length, (xorV k n c b).fst.length = (xorV k n c b).fst.length, (xorV k n c b).fst.length ≤ 4000, ((xorV k n c (xorV k n c b).fst).snd == (0 : Int)) = true, ((↑(xorV k n c b).fst.length : Int) == (↑b.length : Int)) = true, (xorV k n c (xorV k n c b).fst).fst.length = (xorV k n c (xorV k n c b).fst).fst.length, b.length = b.length, ((xorV k n c (xorV k n c b).fst).fst == b) = true]) := by kernel_rfl
theorem runLaw1 (k n : List (BitVec 8)) (c : BitVec 32) (b : List (BitVec 8)) : fnS Try.prog (lookG tblX) (orcA [(1, [(3, true)])]) [] 10 6 [.val true [.d8 k, .d8 n, .u32 c, .d8 b]] =
    some (sc (IV.bool true), [decide ((4000 : Int) < (↑b.length : Int)) = true]) := by kernel_rfl
theorem runLaw2 (k n : List (BitVec 8)) (c : BitVec 32) (b : List (BitVec 8)) : fnS Try.prog (lookG tblX) (orcA [(1, [(3, false)]), (4, [(1, true)]), (5, [(2, true)])]) [] 10 6 [.val true [.d8 k, .d8 n, .u32 c, .d8 b]] =
    some (sc (IV.bool true), [decide ((4000 : Int) < (↑b.length : Int)) = false, k.length = k.length, k.length ≤ 140737488351232, n.length = n.length, n.length ≤ 140737488351232, b.length = b.length, b.length ≤ 140737488351232, k.length = k.length, n.length = n.length, b.length = b.length, b.length ≤ 4000, (!(xorV k n c b).snd == (0 : Int)) = true, ((↑(xorV k n c b).fst.length : Int) == (0 : Int)) = true]) := by kernel_rfl
theorem law (k n : List (BitVec 8)) (c : BitVec 32) (b : List (BitVec 8)) (lk : k.length ≤ reachBytes) (ln : n.length ≤ reachBytes) (_lb : b.length ≤ reachBytes) (w : World) (vals : List Value) (hv : F2 (DV w) [.val true [.d8 k, .d8 n, .u32 c, .d8 b]] vals) :
    Calls Try.prog 6 vals.toArray w fun e w' => ∃ v, e = .returned v ∧ Below w.heap.size w w' ∧ ResOk w.heap.size w' (sc (.bool true)) v := by
  have hkB : k.length ≤ 140737488351232 := lk
  have hnB : n.length ≤ 140737488351232 := ln
  by_cases hb : b.length ≤ 4000
  · have bad : ∀ e, xorV k n c b = ([], e) → e ≠ 0 → Calls Try.prog 6 vals.toArray w fun e w' => ∃ v, e = .returned v ∧ Below w.heap.size w w' ∧ ResOk w.heap.size w' (sc (.bool true)) v := by
      intro e he hne
      refine calls_of_fnS gsX fol (runLaw2 k n c b) ?_ w vals hv
      simp only [AllP, he]
      and_intros <;> first | exact True.intro | rfl | exact beq_self_eq_true _ | exact decide_eq_false (by omega) | exact neqB hne | omega
    by_cases h : k.length = 32 ∧ n.length = 12
    · by_cases h2 : c.toNat + nBl b ≤ 4294967296
      · refine calls_of_fnS gsX fol (runLaw k n c b) ?_ w vals hv
        have e1 : xorV k n c b = (xorL k n c b, 0) := by rw [xorV, if_pos h, if_pos h2]
        have e2 : xorV k n c (xorL k n c b) = (b, 0) := by
          have : nBl (xorL k n c b) = nBl b := by unfold nBl; rw [xorL_len]
          rw [xorV, if_pos h, this, if_pos h2, xor_xor]
        have e3 := xorL_len k n c b
        simp only [AllP, e1, e2, e3]
        and_intros <;> first | exact True.intro | rfl | exact beq_self_eq_true _ | exact decide_eq_false (by omega) | omega
      · exact bad 2 (by rw [xorV, if_pos h, if_neg h2]) (by omega)
    · exact bad 1 (by rw [xorV, if_neg h]) (by omega)
  · refine calls_of_fnS gsX fol (runLaw1 k n c b) ?_ w vals hv
    simp only [AllP]
    and_intros <;> first | exact True.intro | rfl | exact decide_eq_true (by omega)
theorem streamTwiceLifted (os : Os) (started : os.Started) (H : Type) (enc : TypeId × Value → H) :
    ReturnsInHanded {} Try.checked os 6 .any (Rows.streamTwiceSpec.pre6 enc Try.prog Try.f6 Rows.streamTwiceRow.domain false) (Rows.streamTwiceSpec.post enc Try.prog Try.f6 false true false false) := by
  refine returnsInHanded_of_change_sized (C := Try.checked) own started (by kernel_rfl) Try.func6
    (ChangeSpec.witness6 (enc := enc) (C := Try.checked) false ⟨#[], #[.agg #[.slice none 0 0, .slice none 0 0, .int .u32 0, .slice none 0 0]], []⟩ 8 (by kernel_rfl) (by kernel_rfl) (by kernel_rfl) (by kernel_rfl)) ?_
  intro W base args ds gs before hval0 hW hcnd hsz _
  have hval : ∀ (j : Nat) t v, Try.f6.params[j]? = some t → args[j]? = some v → Value.okWide Try.prog W .any base t v := hval0
  have hW' := hW
  obtain ⟨p, q, hA0, hV, rfl, hfz, hnd⟩ := hW
  have hA : DataW.TrodAll enc Try.prog W 0 (fun _ => true) true Try.f6.params.toList args.toList ds p := hA0
  rw [Try.params6] at hA hval
  obtain ⟨v0, d0, rfl, rfl, h0⟩ := trodAll_one hA
  obtain ⟨rfl, rfl⟩ := trodVars_none hV
  obtain ⟨k0, n0, c0, b0, e0, lk0, ln0, lb0⟩ := openSealed (N := reachBytes) (hval 0 _ v0 rfl rfl) h0 fun x hx => of_decide_eq_true (List.all_eq_true.1 hsz x (DataW.weights_mem_each (j := 0) rfl rfl x hx))
  refine (law k0 n0 c0 b0 lk0 ln0 lb0 W [v0] ⟨e0, trivial⟩).mono fun e W' ⟨v, he, hbelow, hres⟩ => ⟨v, he, ?_⟩
  rw [resBool hres]
  exact law_post laidOut (by rw [Try.params6]; exact of_decide_eq_true (by kernel_rfl)) rfl rfl (tb := 4) (by kernel_rfl) hW' rfl hbelow

theorem streamTwice_holds : Rows.StreamTwiceSaid :=
  OpenClaim.holds_of_wide 6 Try.f6 rfl rfl rfl rfl rfl rfl rfl ⟨rfl, rfl, rfl, rfl, rfl⟩ rfl rfl rfl rfl rfl (by kernel_rfl) Try.func6 (by kernel_rfl)
    (of_decide_eq_true (by kernel_rfl)) (by unfold Func.isWrapper; first | (rw [if_pos (by decide +kernel)]; kernel_rfl) | (rw [if_neg (by decide +kernel)]; exact ⟨rfl, rfl⟩))
    (fun os started H enc _ => streamTwiceLifted os started H enc)

end Go.Proofs.Ytclngijinhcdpaa
