/- PROVED: sealwaxlaw10.StreamBlocks answers true for every key, nonce and counter, and each argument reads behind the call as it read before. Conditions: none. Own work. -/
import Derived.Test.YtclngijinhcdpaaRsKit
namespace Go.Proofs.Ytclngijinhcdpaa
open Go.Ev Go.Sp Go.ChangeShapes Go.WideShapes Go.RowKit
set_option maxRecDepth 100000
theorem runLaw (k n : List (BitVec 8)) (c : BitVec 32) : fnS Try.prog (lookG tblX) (orcA [(3, [(4, false), (10, false)]), (5, [(2, false), (6, false)]), (7, [(7, true), (10, true)])]) [] 10 4 [sc (.d8 k), sc (.d8 n), sc (.u32 c)] =
    some (sc (IV.bool true), [k.length = k.length, k.length ≤ 140737488351232, n.length = n.length, n.length ≤ 140737488351232, k.length = k.length, n.length = n.length, k.length = k.length, k.length = k.length, (!k == k) = false, n.length = n.length, n.length = n.length, (!n == n) = false, (!(↑k.length : Int) == (32 : Int)) = false, (!(↑n.length : Int) == (12 : Int)) = false, (blockV k n c).fst.length = (blockV k n c).fst.length, k.length = k.length, n.length = n.length, k.length = 32, n.length = 12, (blockL k n c).length = (blockL k n c).length, ((blockV k n c).fst == blockL k n c) = true, ((blockV k n c).snd == (0 : Int)) = true]) := by kernel_rfl
theorem runLaw1 (k n : List (BitVec 8)) (c : BitVec 32) : fnS Try.prog (lookG tblX) (orcA [(3, [(4, false), (10, false)]), (5, [(2, true)]), (6, [(2, true), (5, true)])]) [] 10 4 [sc (.d8 k), sc (.d8 n), sc (.u32 c)] =
    some (sc (IV.bool true), [k.length = k.length, k.length ≤ 140737488351232, n.length = n.length, n.length ≤ 140737488351232, k.length = k.length, n.length = n.length, k.length = k.length, k.length = k.length, (!k == k) = false, n.length = n.length, n.length = n.length, (!n == n) = false, (!(↑k.length : Int) == (32 : Int)) = true, ((↑(blockV k n c).fst.length : Int) == (0 : Int)) = true, ((blockV k n c).snd == (1 : Int)) = true]) := by kernel_rfl
theorem runLaw2 (k n : List (BitVec 8)) (c : BitVec 32) : fnS Try.prog (lookG tblX) (orcA [(3, [(4, false), (10, false)]), (5, [(2, false), (6, true)]), (6, [(2, true), (5, true)])]) [] 10 4 [sc (.d8 k), sc (.d8 n), sc (.u32 c)] =
    some (sc (IV.bool true), [k.length = k.length, k.length ≤ 140737488351232, n.length = n.length, n.length ≤ 140737488351232, k.length = k.length, n.length = n.length, k.length = k.length, k.length = k.length, (!k == k) = false, n.length = n.length, n.length = n.length, (!n == n) = false, (!(↑k.length : Int) == (32 : Int)) = false, (!(↑n.length : Int) == (12 : Int)) = true, ((↑(blockV k n c).fst.length : Int) == (0 : Int)) = true, ((blockV k n c).snd == (1 : Int)) = true]) := by kernel_rfl
theorem law (k : List (BitVec 8)) (hk0 : k.length ≤ reachBytes) (n : List (BitVec 8)) (hn0 : n.length ≤ reachBytes) (c : BitVec 32) (w : World) (vals : List Value) (hv : F2 (DV w) [sc (.d8 k), sc (.d8 n), sc (.u32 c)] vals) :
    Calls Try.prog 4 vals.toArray w fun e w' => ∃ v, e = .returned v ∧ Below w.heap.size w w' ∧ ResOk w.heap.size w' (sc (.bool true)) v := by
  have hkB : k.length ≤ 140737488351232 := hk0
  have hnB : n.length ≤ 140737488351232 := hn0
  have ee : ∀ l : List (BitVec 8), (!(l == l)) = false := fun l => by simp
  by_cases hk : k.length = 32
  · by_cases hn : n.length = 12
    · refine calls_of_fnS gsX fol (runLaw k n c) ?_ w vals hv
      have e1 : blockV k n c = (blockL k n c, 0) := by rw [blockV, if_pos ⟨hk, hn⟩]
      simp only [AllP, e1]
      and_intros <;> first | exact True.intro | with_reducible rfl | exact beq_self_eq_true _ | exact neqF (by omega) | exact ee _ | omega
    · refine calls_of_fnS gsX fol (runLaw2 k n c) ?_ w vals hv
      have e1 : blockV k n c = ([], 1) := by rw [blockV, if_neg (fun h => hn h.2)]
      simp only [AllP, e1]
      and_intros <;> first | exact True.intro | with_reducible rfl | exact beq_self_eq_true _ | exact neqF (by omega) | exact neqB (by omega) | exact ee _ | omega
  · refine calls_of_fnS gsX fol (runLaw1 k n c) ?_ w vals hv
    have e1 : blockV k n c = ([], 1) := by rw [blockV, if_neg (fun h => hk h.1)]
    simp only [AllP, e1]
    and_intros <;> first | exact True.intro | with_reducible rfl | exact beq_self_eq_true _ | exact neqF (by omega) | exact neqB (by omega) | exact ee _ | omega
theorem streamBlocksLifted (os : Os) (started : os.Started) (H : Type) (enc : TypeId × Value → H) :
    ReturnsInHanded {} Try.checked os 4 .any (Rows.streamBlocksSpec.pre6 enc Try.prog Try.f4 Rows.streamBlocksRow.domain false) (Rows.streamBlocksSpec.post enc Try.prog Try.f4 false true false false) := by
  refine returnsInHanded_of_change_sized (C := Try.checked) own started (by kernel_rfl) Try.func4
    (ChangeSpec.witness6 (enc := enc) (C := Try.checked) false ⟨#[], #[.slice none 0 0, .slice none 0 0, .int .u32 0], []⟩ 8 (by kernel_rfl) (by kernel_rfl) (by kernel_rfl) (by kernel_rfl)) ?_
  intro W base args ds gs before hval0 hW hcnd hsz _
  have hval : ∀ (j : Nat) t v, Try.f4.params[j]? = some t → args[j]? = some v → Value.okWide Try.prog W .any base t v := hval0
  have hW' := hW
  obtain ⟨p, q, hA0, hV, rfl, hfz, hnd⟩ := hW
  have hA : DataW.TrodAll enc Try.prog W 0 (fun _ => true) true Try.f4.params.toList args.toList ds p := hA0
  rw [Try.params4] at hA hval
  obtain ⟨v0, v1, v2, d0, d1, d2, p0, p1, p2, rfl, rfl, rfl, h0, h1, h2⟩ := trodAll_three hA
  obtain ⟨rfl, rfl⟩ := trodVars_none hV
  obtain ⟨a0, e0, l0, s0⟩ := open_d8 (e := 5) (by kernel_rfl) (by kernel_rfl) (by kernel_rfl) (by kernel_rfl) (hval 0 _ v0 rfl rfl) h0
  replace l0 := l0 reachBytes fun x hx => of_decide_eq_true (List.all_eq_true.1 hsz x (DataW.weights_mem_each (j := 0) rfl rfl x hx))
  obtain ⟨a1, e1, l1, s1⟩ := open_d8 (e := 5) (by kernel_rfl) (by kernel_rfl) (by kernel_rfl) (by kernel_rfl) (hval 1 _ v1 rfl rfl) h1
  replace l1 := l1 reachBytes fun x hx => of_decide_eq_true (List.all_eq_true.1 hsz x (DataW.weights_mem_each (j := 1) rfl rfl x hx))
  obtain ⟨a2, e2⟩ := open_u32 (by kernel_rfl) (hval 2 _ v2 rfl rfl) h2
  refine (law a0 l0 a1 l1 a2 W [v0, v1, v2] ⟨e0, e1, e2, trivial⟩).mono fun e W' ⟨v, he, hbelow, hres⟩ => ⟨v, he, ?_⟩
  rw [resBool hres]
  exact law_post laidOut (by rw [Try.params4]; exact of_decide_eq_true (by kernel_rfl)) rfl rfl (tb := 4) (by kernel_rfl) hW' rfl hbelow

theorem streamBlocks_holds : Rows.StreamBlocksSaid :=
  OpenClaim.holds_of_wide 4 Try.f4 rfl rfl rfl rfl rfl rfl rfl ⟨rfl, rfl, rfl, rfl, rfl⟩ rfl rfl rfl rfl rfl (by kernel_rfl) Try.func4 (by kernel_rfl)
    (of_decide_eq_true (by kernel_rfl)) (by unfold Func.isWrapper; first | (rw [if_pos (by decide +kernel)]; kernel_rfl) | (rw [if_neg (by decide +kernel)]; exact ⟨rfl, rfl⟩))
    (fun os started H enc _ => streamBlocksLifted os started H enc)

end Go.Proofs.Ytclngijinhcdpaa
