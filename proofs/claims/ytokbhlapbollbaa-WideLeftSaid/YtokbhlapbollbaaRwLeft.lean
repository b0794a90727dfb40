/- PROVED: sealwaxlaw02.WideLeft answers true for every double number and every number, and each argument reads behind the call as it read before. Conditions: none. Own work. -/
import Derived.Test.YtokbhlapbollbaaRwKit
import Derived.Test.YtokbhlapbollbaaCtP
namespace Go.Proofs.Ytokbhlapbollbaa
open Go.Ev Go.Sp Go.ChangeShapes Go.WideShapes Go.RowKit
set_option maxRecDepth 100000

def tblLaw : List (FuncId × CtS) := [(17, .fn spMod), (19, .fn spNLeft), (20, .fn spNWords), (16, .fn spAwake)] ++ tblN
theorem gsLaw : GSound Try.prog (upG (lookG tblLaw)) := GSound_of_tbl ⟨⟨ctMod, by kernel_rfl⟩, ⟨nLeft, by kernel_rfl⟩, ⟨nWords, by kernel_rfl⟩, ⟨ctAwake, by kernel_rfl⟩, okN⟩
theorem law1 (a b m : N4) : fnS Try.prog (lookG tblLaw) (orcA [(2, [(2, true)]), (3, [(2, true), (5, true)])]) [] 10 4 [.val true [.n4 a, .n4 b], .val true [.n4 m]] =
    some (sc (IV.bool true), [(m.eq (N4.mk (BitVec.ofNat 64 0) (BitVec.ofNat 64 0) (BitVec.ofNat 64 0) (BitVec.ofNat 64 0)) && true) = true, ((modN a b m).eq (N4.mk (BitVec.ofNat 64 0) (BitVec.ofNat 64 0) (BitVec.ofNat 64 0) (BitVec.ofNat 64 0)) && true) = true, (modE m == (8 : Int)) = true]) := by kernel_rfl
theorem law0 (a b m : N4) : fnS Try.prog (lookG tblLaw) (orcA [(2, [(2, false)]), (4, [(7, true), (10, true)])]) [] 10 4 [.val true [.n4 a, .n4 b], .val true [.n4 m]] =
    some (sc (IV.bool true), [(m.eq (N4.mk (BitVec.ofNat 64 0) (BitVec.ofNat 64 0) (BitVec.ofNat 64 0) (BitVec.ofNat 64 0)) && true) = false, (dg (val a + 115792089237316195423570985008687907853269984665640564039457584007913129639936 * val b)).length = (dg (val a + 115792089237316195423570985008687907853269984665640564039457584007913129639936 * val b)).length, (dg (val m)).length = (dg (val m)).length, 0 < val m, Sm (val a + 115792089237316195423570985008687907853269984665640564039457584007913129639936 * val b), Sm (val m), (dg (val m)).length ≤ 3999990, (dg ((val a + 115792089237316195423570985008687907853269984665640564039457584007913129639936 * val b) % val m)).length = (dg ((val a + 115792089237316195423570985008687907853269984665640564039457584007913129639936 * val b) % val m)).length, ((modN a b m).eq (ofN ((val a + 115792089237316195423570985008687907853269984665640564039457584007913129639936 * val b) % val m)) && true) = true, (modE m == (0 : Int)) = true]) := by kernel_rfl

theorem law (a b m : N4) (w : World) (vals : List Value) (hv : F2 (DV w) [.val true [.n4 a, .n4 b], .val true [.n4 m]] vals) :
    Calls Try.prog 4 vals.toArray w fun e w' => ∃ v, e = .returned v ∧ Below w.heap.size w w' ∧ ResOk w.heap.size w' (sc (.bool true)) v := by
  by_cases h : val m = 0
  · have e : m = ⟨0#64, 0#64, 0#64, 0#64⟩ := val_inj (h.trans rfl)
    have e1 : modN a b m = ⟨0#64, 0#64, 0#64, 0#64⟩ := by simp only [modN, h, if_true]; rfl
    have e2 : modE m = 8 := by simp only [modE, h, if_true]
    exact calls_of_fnS gsLaw fol (law1 a b m) ⟨by rw [e]; exact eq4_same rfl, by rw [e1]; exact eq4_same rfl, by rw [e2]; rfl, trivial⟩ w vals hv
  · have hne : m ≠ ⟨0#64, 0#64, 0#64, 0#64⟩ := fun e => h (by rw [e]; rfl)
    have e1 : modN a b m = ofN ((val a + p256 * val b) % val m) := by simp only [modN, h, if_false]; rfl
    have e2 : modE m = 0 := by simp only [modE, h, if_false]
    have s1 : Sm (val a + p256 * val b) := by
      refine Sm_lt (k := 64) ?_ (by omega)
      have ha := val_lt a
      have hb := val_lt b
      rw [show (256 : Nat) ^ 64 = p256 * p256 from rfl]
      have : p256 * val b ≤ p256 * (p256 - 1) := Nat.mul_le_mul_left _ (by omega)
      have : p256 * (p256 - 1) + p256 = p256 * p256 := rfl
      omega
    exact calls_of_fnS gsLaw fol (law0 a b m) ⟨eq4_not hne, rfl, rfl, Nat.pos_of_ne_zero h, s1, Sm_val m, Nat.le_trans (val_len m) (by omega), rfl, by rw [e1]; exact eq4_same rfl, by rw [e2]; rfl, trivial⟩ w vals hv
theorem wideLeftLifted (os : Os) (started : os.Started) (H : Type) (enc : TypeId × Value → H) :
    ReturnsInHanded {} Try.checked os 4 .any (Rows.wideLeftSpec.pre6 enc Try.prog Try.f4 Rows.wideLeftRow.domain false) (Rows.wideLeftSpec.post enc Try.prog Try.f4 false true false false) := by
  refine returnsInHanded_of_change_sized (C := Try.checked) own started (by kernel_rfl) Try.func4
    (ChangeSpec.witness6 (enc := enc) (C := Try.checked) false ⟨#[], #[.agg (Array.replicate 8 (.int .u64 0)), .agg (Array.replicate 4 (.int .u64 0))], []⟩ 8 (by kernel_rfl) (by kernel_rfl) (by kernel_rfl) (by kernel_rfl)) ?_
  intro W base args ds gs before hval0 hW hcnd hsz _
  have hval : ∀ (j : Nat) t v, Try.f4.params[j]? = some t → args[j]? = some v → Value.okWide Try.prog W .any base t v := hval0
  have hW' := hW
  obtain ⟨p, q, hA0, hV, rfl, hfz, hnd⟩ := hW
  have hA : DataW.TrodAll enc Try.prog W 0 (fun _ => true) true Try.f4.params.toList args.toList ds p := hA0
  rw [Try.params4] at hA hval
  obtain ⟨v0, v1, d0, d1, p0, p1, rfl, rfl, rfl, h0, h1⟩ := trodAll_two hA
  obtain ⟨rfl, rfl⟩ := trodVars_none hV
  obtain ⟨a0, b0, e0⟩ := openWide (hval 0 _ v0 rfl rfl) h0
  obtain ⟨a1, e1⟩ := openNum (hval 1 _ v1 rfl rfl) h1
  refine (law a0 b0 a1 W [v0, v1] ⟨e0, e1, trivial⟩).mono fun e W' ⟨v, he, hbelow, hres⟩ => ⟨v, he, ?_⟩
  rw [resBool hres]
  exact law_post laidOut (by rw [Try.params4]; exact of_decide_eq_true (by kernel_rfl)) rfl rfl (tb := 4) (by kernel_rfl) hW' rfl hbelow

theorem wideLeft_holds : Rows.WideLeftSaid :=
  OpenClaim.holds_of_wide 4 Try.f4 rfl rfl rfl rfl rfl rfl rfl ⟨rfl, rfl, rfl, rfl, rfl⟩ rfl rfl rfl rfl rfl (by kernel_rfl) Try.func4 (by kernel_rfl)
    (of_decide_eq_true (by kernel_rfl)) (by unfold Func.isWrapper; first | (rw [if_pos (by decide +kernel)]; kernel_rfl) | (rw [if_neg (by decide +kernel)]; exact ⟨rfl, rfl⟩))
    (fun os started H enc _ => wideLeftLifted os started H enc)

end Go.Proofs.Ytokbhlapbollbaa
