/- PROVED: sealwaxlaw04.ScalarForm answers true for every scalar and every bytes, and each argument reads behind the call as it read before. Conditions: none. Own work. -/
import Derived.Test.YtmdfhomeokfgiaaRcKit
namespace Go.Proofs.Ytmdfhomeokfgiaa
open Go.Ev Go.Sp Go.ChangeShapes Go.WideShapes Go.RowKit
set_option maxRecDepth 100000
theorem runLaw0 (a : N4) (b : List (BitVec 8)) : fnS Try.prog (lookG tblC) (orcA [(2, [(1, false), (6, false)]), (5, [(1, false), (9, true), (16, true)])]) [] 10 8 [.val true [.n4 a], sc (.d8 b)] =
    some (sc (IV.bool true), [(bl (val a % Lo) 32).length = (bl (val a % Lo) 32).length, (!(sdecV (bl (val a % Lo) 32)).snd == (0 : Int)) = false, (!((sdecV (bl (val a % Lo) 32)).fst.eq (redN a) && true)) = false, b.length = b.length, 0 = 0, (0 + b.length) * 1 ≤ 140737488355328 ∧ 0 + b.length ≤ 9223372036854775807, 0 + b.length = b.length, (!(sdecV b).snd == (0 : Int)) = false, ((sdecV b).snd == (0 : Int)) = true, (bl (val (sdecV b).fst % Lo) 32).length = (bl (val (sdecV b).fst % Lo) 32).length, b.length = b.length, (bl (val (sdecV b).fst % Lo) 32 == b) = true]) := by kernel_rfl
theorem runLaw1 (a : N4) (b : List (BitVec 8)) : fnS Try.prog (lookG tblC) (orcA [(2, [(1, false), (6, false)]), (5, [(1, true), (5, true)])]) [] 10 8 [.val true [.n4 a], sc (.d8 b)] =
    some (sc (IV.bool true), [(bl (val a % Lo) 32).length = (bl (val a % Lo) 32).length, (!(sdecV (bl (val a % Lo) 32)).snd == (0 : Int)) = false, (!((sdecV (bl (val a % Lo) 32)).fst.eq (redN a) && true)) = false, b.length = b.length, 0 = 0, (0 + b.length) * 1 ≤ 140737488355328 ∧ 0 + b.length ≤ 9223372036854775807, 0 + b.length = b.length, (!(sdecV b).snd == (0 : Int)) = true, ((sdecV b).fst.eq (N4.mk (BitVec.ofNat 64 0) (BitVec.ofNat 64 0) (BitVec.ofNat 64 0) (BitVec.ofNat 64 0)) && true) = true]) := by kernel_rfl
theorem law (a : N4) (b : List (BitVec 8)) (hb : b.length ≤ reachBytes) (w : World) (vals : List Value) (hv : F2 (DV w) [.val true [.n4 a], sc (.d8 b)] vals) :
    Calls Try.prog 8 vals.toArray w fun e w' => ∃ v, e = .returned v ∧ Below w.heap.size w w' ∧ ResOk w.heap.size w' (sc (.bool true)) v := by
  have hB : b.length ≤ 140737488351232 := hb
  have ha := mod_Lo (val a)
  have h1 : sdecV (bl (val a % Lo) 32) = (redN a, 0) := by
    have e : bv (bl (val a % Lo) 32) = val a % Lo := by rw [bv_bl]; exact Nat.mod_eq_of_lt (Nat.lt_trans ha Lo_lt)
    rw [sdecV, if_pos (bl_length _ _), e, if_pos ha]
    rfl
  have q1 : (!(sdecV (bl (val a % Lo) 32)).2 == (0 : Int)) = false := by rw [h1]; rfl
  have q2 : (!((sdecV (bl (val a % Lo) 32)).1.eq (redN a) && true)) = false := by rw [h1]; simp [N4.eq]
  have l0 : 0 + b.length = b.length := by omega
  have l1 : (0 + b.length) * 1 ≤ 140737488355328 ∧ 0 + b.length ≤ 9223372036854775807 := by omega
  have bad : ∀ e, sdecV b = (⟨0#64, 0#64, 0#64, 0#64⟩, e) → e ≠ 0 → Calls Try.prog 8 vals.toArray w fun e w' => ∃ v, e = .returned v ∧ Below w.heap.size w w' ∧ ResOk w.heap.size w' (sc (.bool true)) v := by
    intro e he hne
    refine calls_of_fnS gsC fol (runLaw1 a b) ⟨rfl, q1, q2, rfl, rfl, l1, l0, ?_, ?_, trivial⟩ w vals hv
    · rw [he]; simpa using hne
    · rw [he]; exact eq4_same rfl
  by_cases h32 : b.length = 32
  · by_cases hlt : bv b < Lo
    · have h2 : sdecV b = (ofN (bv b), 0) := by rw [sdecV, if_pos h32, if_pos hlt]
      have h3 : bl (val (sdecV b).1 % Lo) 32 = b := by
        rw [h2]
        show bl (val (ofN (bv b)) % Lo) 32 = b
        rw [bv32 b h32, Nat.mod_eq_of_lt hlt, ← h32, bl_bv]
      exact calls_of_fnS gsC fol (runLaw0 a b) ⟨rfl, q1, q2, rfl, rfl, l1, l0, by rw [h2]; rfl, by rw [h2]; rfl, rfl, rfl, by rw [h3]; exact beq_self_eq_true _, trivial⟩ w vals hv
    · exact bad 6 (by rw [sdecV, if_pos h32, if_neg hlt]) (by omega)
  · exact bad 1 (by rw [sdecV, if_neg h32]) (by omega)
theorem scalarFormLifted (os : Os) (started : os.Started) (H : Type) (enc : TypeId × Value → H) :
    ReturnsInHanded {} Try.checked os 8 .any (Rows.scalarFormSpec.pre6 enc Try.prog Try.f8 Rows.scalarFormRow.domain false) (Rows.scalarFormSpec.post enc Try.prog Try.f8 false true false false) := by
  refine returnsInHanded_of_change_sized (C := Try.checked) own started (by kernel_rfl) Try.func8
    (ChangeSpec.witness6 (enc := enc) (C := Try.checked) false ⟨#[], #[.agg (Array.replicate 4 (.int .u64 0)), .slice none 0 0], []⟩ 8 (by kernel_rfl) (by kernel_rfl) (by kernel_rfl) (by kernel_rfl)) ?_
  intro W base args ds gs before hval0 hW hcnd hsz _
  have hval : ∀ (j : Nat) t v, Try.f8.params[j]? = some t → args[j]? = some v → Value.okWide Try.prog W .any base t v := hval0
  have hW' := hW
  obtain ⟨p, q, hA0, hV, rfl, hfz, hnd⟩ := hW
  have hA : DataW.TrodAll enc Try.prog W 0 (fun _ => true) true Try.f8.params.toList args.toList ds p := hA0
  rw [Try.params8] at hA hval
  obtain ⟨v0, v1, d0, d1, p0, p1, rfl, rfl, rfl, h0, h1⟩ := trodAll_two hA
  obtain ⟨rfl, rfl⟩ := trodVars_none hV
  obtain ⟨a0, e0⟩ := openNum (hval 0 _ v0 rfl rfl) h0
  obtain ⟨a1, e1, l1, s1⟩ := open_d8 (e := 5) (by kernel_rfl) (by kernel_rfl) (by kernel_rfl) (by kernel_rfl) (hval 1 _ v1 rfl rfl) h1
  replace l1 := l1 reachBytes fun x hx => of_decide_eq_true (List.all_eq_true.1 hsz x (DataW.weights_mem_each (j := 1) rfl rfl x hx))
  refine (law a0 a1 l1 W [v0, v1] ⟨e0, e1, trivial⟩).mono fun e W' ⟨v, he, hbelow, hres⟩ => ⟨v, he, ?_⟩
  rw [resBool hres]
  exact law_post laidOut (by rw [Try.params8]; exact of_decide_eq_true (by kernel_rfl)) rfl rfl (tb := 4) (by kernel_rfl) hW' rfl hbelow

theorem scalarForm_holds : Rows.ScalarFormSaid :=
  OpenClaim.holds_of_wide 8 Try.f8 rfl rfl rfl rfl rfl rfl rfl ⟨rfl, rfl, rfl, rfl, rfl⟩ rfl rfl rfl rfl rfl (by kernel_rfl) Try.func8 (by kernel_rfl)
    (of_decide_eq_true (by kernel_rfl)) (by unfold Func.isWrapper; first | (rw [if_pos (by decide +kernel)]; kernel_rfl) | (rw [if_neg (by decide +kernel)]; exact ⟨rfl, rfl⟩))
    (fun os started H enc _ => scalarFormLifted os started H enc)

end Go.Proofs.Ytmdfhomeokfgiaa
