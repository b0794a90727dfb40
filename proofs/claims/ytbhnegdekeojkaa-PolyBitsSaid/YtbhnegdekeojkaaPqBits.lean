/- PROVED: sealwaxlaw11.PolyBits answers true for every key and every bytes, and each argument reads behind the call as it read before. Conditions: none. Own work. -/
import Derived.Test.YtbhnegdekeojkaaPqKit
namespace Go.Proofs.Ytbhnegdekeojkaa
open Go.Ev Go.Sp Go.ChangeShapes Go.WideShapes Go.RowKit
set_option maxRecDepth 100000
theorem runLaw (k b : List (BitVec 8)) : fnS Try.prog (lookG tblX) (orcP [(1, [(2, false)]), (4, [(2, false)]), (9, [(1, true), (4, true), (8, true), (12, true), (17, true), (24, true), (32, true)])] [(6, [2]), (7, [4]), (9, [31])]) [] 10 5 [sc (.d8 k), sc (.d8 b)] =
    some (sc (IV.bool true), [decide ((2000 : Int) < (↑b.length : Int)) = false, k.length = k.length, k.length ≤ 140737488351232, b.length = b.length, b.length ≤ 140737488351232, k.length = k.length, b.length = b.length, b.length ≤ 4000, (!(↑k.length : Int) == (32 : Int)) = false, (0 : Int) ≤ (16 : Int), 0 ≤ 16, 16 ≤ k.length, 16 ≤ k.length, (cutL k 0 16 k.length).length ≤ 140737488351232, (cutL k 0 16 k.length).length = (cutL k 0 16 k.length).length, (cutV (cutL k 0 16 k.length)).fst.length = (cutV (cutL k 0 16 k.length)).fst.length, (cutV (cutL k 0 16 k.length)).fst.length ≤ 140737488351232, (0 : Int) ≤ (16 : Int), 16 ≤ k.length, k.length ≤ k.length, 16 + (k.length - 16) ≤ k.length, 0 + (cutV (cutL k 0 16 k.length)).fst.length ≤ (cutV (cutL k 0 16 k.length)).fst.length, ((cutV (cutL k 0 16 k.length)).fst.length + (k.length - 16)) * 1 ≤ 140737488355328 ∧ (cutV (cutL k 0 16 k.length)).fst.length + (k.length - 16) ≤ 9223372036854775807, b.length = b.length, b.length ≤ 140737488351232, (cutV (cutL k 0 16 k.length)).fst.length + (k.length - 16) = (cutL (cutV (cutL k 0 16 k.length)).fst 0 (cutV (cutL k 0 16 k.length)).fst.length (cutV (cutL k 0 16 k.length)).fst.length ++ cutL k 16 (k.length - 16) k.length).length, b.length = b.length, b.length ≤ 4000, k.length = k.length, k.length ≤ 140737488351232, k.length = k.length, 0 ≤ 4000, ((tagV k b).snd == (0 : Int)) = true, ((cutV (cutL k 0 16 k.length)).snd == (0 : Int)) = true, ((tagV (cutL (cutV (cutL k 0 16 k.length)).fst 0 (cutV (cutL k 0 16 k.length)).fst.length (cutV (cutL k 0 16 k.length)).fst.length ++ cutL k 16 (k.length - 16) k.length) b).snd == (0 : Int)) = true, ((tagV k []).snd == (0 : Int)) = true, ((↑(tagV k b).fst.length : Int) == (16 : Int)) = true, (tagV k b).fst.length = (tagV k b).fst.length, (tagV (cutL (cutV (cutL k 0 16 k.length)).fst 0 (cutV (cutL k 0 16 k.length)).fst.length (cutV (cutL k 0 16 k.length)).fst.length ++ cutL k 16 (k.length - 16) k.length) b).fst.length = (tagV (cutL (cutV (cutL k 0 16 k.length)).fst 0 (cutV (cutL k 0 16 k.length)).fst.length (cutV (cutL k 0 16 k.length)).fst.length ++ cutL k 16 (k.length - 16) k.length) b).fst.length, ((tagV k b).fst == (tagV (cutL (cutV (cutL k 0 16 k.length)).fst 0 (cutV (cutL k 0 16 k.length)).fst.length (cutV (cutL k 0 16 k.length)).fst.length ++ cutL k 16 (k.length - 16) k.length) b).fst) = true, (tagV k []).fst.length = (tagV k []).fst.length, (0 : Int) ≤ (16 : Int), 16 ≤ k.length, k.length ≤ k.length, 16 + (k.length - 16) ≤ k.length, ((tagV k []).fst == cutL k 16 (k.length - 16) k.length) = true]) := by kernel_rfl
theorem runLaw1 (k b : List (BitVec 8)) : fnS Try.prog (lookG tblX) (orcA [(1, [(2, true)])]) [] 10 5 [sc (.d8 k), sc (.d8 b)] =
    some (sc (IV.bool true), [decide ((2000 : Int) < (↑b.length : Int)) = true]) := by kernel_rfl
theorem runLaw2 (k b : List (BitVec 8)) : fnS Try.prog (lookG tblX) (orcA [(1, [(2, false)]), (4, [(2, true)]), (5, [(1, true), (5, true)])]) [] 10 5 [sc (.d8 k), sc (.d8 b)] =
    some (sc (IV.bool true), [decide ((2000 : Int) < (↑b.length : Int)) = false, k.length = k.length, k.length ≤ 140737488351232, b.length = b.length, b.length ≤ 140737488351232, k.length = k.length, b.length = b.length, b.length ≤ 4000, (!(↑k.length : Int) == (32 : Int)) = true, ((tagV k b).snd == (1 : Int)) = true, ((↑(tagV k b).fst.length : Int) == (0 : Int)) = true]) := by kernel_rfl
theorem and_idem (x m : BitVec 8) : x &&& m &&& m = x &&& m := by rw [BitVec.and_assoc, BitVec.and_self]
theorem zip_idem : ∀ (a m : List (BitVec 8)), List.zipWith (fun x m => x &&& m) (List.zipWith (fun x m => x &&& m) a m) m = List.zipWith (fun x m => x &&& m) a m
  | [], _ => by simp
  | _ :: _, [] => by simp
  | x :: a, y :: m => by simp only [List.zipWith_cons_cons, zip_idem a m, and_idem]
theorem cut_idem (a : List (BitVec 8)) (h : a.length = 16) : (cutV (cutV a).1).1 = (cutV a).1 := by
  have h1 := cutV_len a h
  unfold cutV at *
  rw [if_pos h] at *
  rw [if_pos h1]
  exact zip_idem a cutM
theorem law (k : List (BitVec 8)) (hk : k.length ≤ reachBytes) (b : List (BitVec 8)) (_hb : b.length ≤ reachBytes) (w : World) (vals : List Value) (hv : F2 (DV w) [sc (.d8 k), sc (.d8 b)] vals) :
    Calls Try.prog 5 vals.toArray w fun e w' => ∃ v, e = .returned v ∧ Below w.heap.size w w' ∧ ResOk w.heap.size w' (sc (.bool true)) v := by
  have hB : k.length ≤ 140737488351232 := hk
  by_cases hl : b.length ≤ 2000
  · by_cases h32 : k.length = 32
    · have r0 := runLaw k b
      have c1 := cut16 k
      have c2 := cut32 k h32
      have t16 : (k.take 16).length = 16 := by simp [h32]
      have ct := cutV_len (k.take 16) t16
      have l2 : (k.drop 16).length = 16 := by simp [h32]
      have c3 : cutL (cutV (k.take 16)).1 0 (cutV (k.take 16)).1.length (cutV (k.take 16)).1.length = (cutV (k.take 16)).1 := cutAll _ _ rfl
      rw [c1, c2, c3] at r0
      have e0 : (cutV (k.take 16)).2 = 0 := by rw [cutV, if_pos t16]
      have hu : ((cutV (k.take 16)).1 ++ k.drop 16).length = 32 := by rw [List.length_append, ct, l2]
      have hR : tagR ((cutV (k.take 16)).1 ++ k.drop 16) = tagR k := by
        unfold tagR
        rw [List.take_append_of_le_length (by omega), List.take_of_length_le (by omega), cut_idem _ t16]
      have hS : tagS ((cutV (k.take 16)).1 ++ k.drop 16) = tagS k := by
        unfold tagS
        rw [List.drop_append_of_le_length (by omega), List.drop_of_length_le (by omega), List.nil_append]
      have hT : tagV ((cutV (k.take 16)).1 ++ k.drop 16) b = tagV k b := by
        unfold tagV
        rw [if_pos hu, if_pos h32, hR, hS]
      have hZ : (tagV k []).1 = k.drop 16 := by
        unfold tagV
        rw [if_pos h32]
        show bl (0 + tagS k) 16 = _
        rw [Nat.zero_add]
        have := bl_bv (k.drop 16)
        rw [l2] at this
        exact this
      have hT1 : (tagV k b).1.length = 16 := by rw [tagV, if_pos h32, bl_length]
      have hT2 : (tagV k b).2 = 0 := by rw [tagV, if_pos h32]
      have hT3 : (tagV k []).2 = 0 := by rw [tagV, if_pos h32]
      rw [hT] at r0
      refine calls_of_fnS gsX fol r0 ?_ w vals hv
      simp only [AllP, hT1, hT2, hT3, hZ, ct, e0, t16, hu, l2]
      simp only [h32]
      and_intros <;> first | exact True.intro | rfl | exact beq_self_eq_true _ | omega | exact decide_eq_false (by omega)
    · refine calls_of_fnS gsX fol (runLaw2 k b) ?_ w vals hv
      have hT1 : (tagV k b).1.length = 0 := by rw [tagV, if_neg h32]; rfl
      have hT2 : (tagV k b).2 = 1 := by rw [tagV, if_neg h32]
      simp only [AllP, hT1, hT2]
      have h3 : (!((k.length : Int) == (32 : Int))) = true := by
        simp only [Bool.not_eq_true', beq_eq_false_iff_ne, ne_eq]; omega
      and_intros <;> first | exact True.intro | rfl | exact beq_self_eq_true _ | omega | exact decide_eq_false (by omega) | exact h3
  · refine calls_of_fnS gsX fol (runLaw1 k b) ?_ w vals hv
    simp only [AllP]
    and_intros <;> first | exact True.intro | rfl | exact decide_eq_true (by omega)
theorem polyBitsLifted (os : Os) (started : os.Started) (H : Type) (enc : TypeId × Value → H) :
    ReturnsInHanded {} Try.checked os 5 .any (Rows.polyBitsSpec.pre6 enc Try.prog Try.f5 Rows.polyBitsRow.domain false) (Rows.polyBitsSpec.post enc Try.prog Try.f5 false true false false) := by
  refine returnsInHanded_of_change_sized (C := Try.checked) own started (by kernel_rfl) Try.func5
    (ChangeSpec.witness6 (enc := enc) (C := Try.checked) false ⟨#[], #[.slice none 0 0, .slice none 0 0], []⟩ 8 (by kernel_rfl) (by kernel_rfl) (by kernel_rfl) (by kernel_rfl)) ?_
  intro W base args ds gs before hval0 hW hcnd hsz _
  have hval : ∀ (j : Nat) t v, Try.f5.params[j]? = some t → args[j]? = some v → Value.okWide Try.prog W .any base t v := hval0
  have hW' := hW
  obtain ⟨p, q, hA0, hV, rfl, hfz, hnd⟩ := hW
  have hA : DataW.TrodAll enc Try.prog W 0 (fun _ => true) true Try.f5.params.toList args.toList ds p := hA0
  rw [Try.params5] at hA hval
  obtain ⟨v0, v1, d0, d1, p0, p1, rfl, rfl, rfl, h0, h1⟩ := trodAll_two hA
  obtain ⟨rfl, rfl⟩ := trodVars_none hV
  obtain ⟨a0, e0, l0, s0⟩ := open_d8 (e := 5) (by kernel_rfl) (by kernel_rfl) (by kernel_rfl) (by kernel_rfl) (hval 0 _ v0 rfl rfl) h0
  replace l0 := l0 reachBytes fun x hx => of_decide_eq_true (List.all_eq_true.1 hsz x (DataW.weights_mem_each (j := 0) rfl rfl x hx))
  obtain ⟨a1, e1, l1, s1⟩ := open_d8 (e := 5) (by kernel_rfl) (by kernel_rfl) (by kernel_rfl) (by kernel_rfl) (hval 1 _ v1 rfl rfl) h1
  replace l1 := l1 reachBytes fun x hx => of_decide_eq_true (List.all_eq_true.1 hsz x (DataW.weights_mem_each (j := 1) rfl rfl x hx))
  refine (law a0 l0 a1 l1 W [v0, v1] ⟨e0, e1, trivial⟩).mono fun e W' ⟨v, he, hbelow, hres⟩ => ⟨v, he, ?_⟩
  rw [resBool hres]
  exact law_post laidOut (by rw [Try.params5]; exact of_decide_eq_true (by kernel_rfl)) rfl rfl (tb := 4) (by kernel_rfl) hW' rfl hbelow

theorem polyBits_holds : Rows.PolyBitsSaid :=
  OpenClaim.holds_of_wide 5 Try.f5 rfl rfl rfl rfl rfl rfl rfl ⟨rfl, rfl, rfl, rfl, rfl⟩ rfl rfl rfl rfl rfl (by kernel_rfl) Try.func5 (by kernel_rfl)
    (of_decide_eq_true (by kernel_rfl)) (by unfold Func.isWrapper; first | (rw [if_pos (by decide +kernel)]; kernel_rfl) | (rw [if_neg (by decide +kernel)]; exact ⟨rfl, rfl⟩))
    (fun os started H enc _ => polyBitsLifted os started H enc)

end Go.Proofs.Ytbhnegdekeojkaa
