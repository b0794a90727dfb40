/- PROVED: sealwaxlaw02.WideBelow answers true for every double number and every two numbers, and each argument reads behind the call as it read before. Conditions: none. Own work. -/
import Derived.Test.YtokbhlapbollbaaRwKit
namespace Go.Proofs.Ytokbhlapbollbaa
open Go.Ev Go.Sp Go.ChangeShapes Go.WideShapes Go.RowKit
set_option maxRecDepth 100000

def tblBelow : List (FuncId × CtS) := [(17, .fn spMod), (33, .fn spMul), (24, .fn spCmp), (16, .fn spAwake)]
theorem gsBelow : GSound Try.prog (upG (lookG tblBelow)) := GSound_of_tbl ⟨⟨ctMod, by kernel_rfl⟩, ⟨ctMul, by kernel_rfl⟩, ⟨ctCmp, by kernel_rfl⟩, ⟨ctAwake, by kernel_rfl⟩, trivial⟩

theorem runBelow1 (a0 a1 b m : N4) : fnS Try.prog (lookG tblBelow) (orcOf [] [(2, [(1, true)]), (3, [(2, true), (6, true)])]) [] 10 11 [.val true [.n4 a0, .n4 a1], .val true [.n4 b], .val true [.n4 m]] =
    some (sc (.bool true), [(!(modE m == 0)) = true, eq4 m ⟨0, 0, 0, 0⟩ = true, eq4 (modN a0 a1 m) ⟨0, 0, 0, 0⟩ = true]) := by kernel_rfl
theorem runBelow0 (a0 a1 b m : N4) : fnS Try.prog (lookG tblBelow) (orcOf [] [(2, [(1, false)]), (6, [(3, true), (7, true), (12, true), (16, true), (20, true)])]) [] 10 11 [.val true [.n4 a0, .n4 a1], .val true [.n4 b], .val true [.n4 m]] =
    some (sc (.bool true), [(!(modE m == 0)) = false, (cmpN (modN a0 a1 m) m == -1) = true, eq4 (modN (modN a0 a1 m) ⟨0, 0, 0, 0⟩ m) (modN a0 a1 m) = true, eq4 (modN (mulV b m).1 (mulV b m).2 m) ⟨0, 0, 0, 0⟩ = true, (modE m == 0) = true, (modE m == 0) = true]) := by kernel_rfl

theorem lawBelow (a0 a1 b m : N4) (w : World) (vals : List Value) (hv : F2 (DV w) [.val true [.n4 a0, .n4 a1], .val true [.n4 b], .val true [.n4 m]] vals) :
    Calls Try.prog 11 vals.toArray w fun e w' => ∃ v, e = .returned v ∧ Below w.heap.size w w' ∧ ResOk w.heap.size w' (sc (.bool true)) v := by
  have hm := val_lt m
  by_cases h : val m = 0
  · have e : modE m = 8 := by simp only [modE, h, if_true]
    have e1 : modN a0 a1 m = ⟨0, 0, 0, 0⟩ := by simp only [modN, h, if_true]
    refine calls_of_fnS gsBelow fol (runBelow1 a0 a1 b m) ⟨?_, eq4_same (val_inj (h.trans rfl)), eq4_same e1, trivial⟩ w vals hv
    rw [e]; rfl
  · have e : modE m = 0 := by simp only [modE, h, if_false]
    have lt1 : wide a0 a1 % val m < val m := Nat.mod_lt _ (by omega)
    have e1 : val (modN a0 a1 m) = wide a0 a1 % val m := by
      simp only [modN, h, if_false, val_ofN]
      exact Nat.mod_eq_of_lt (by omega)
    have hz : val ⟨0, 0, 0, 0⟩ = 0 := rfl
    refine calls_of_fnS gsBelow fol (runBelow0 a0 a1 b m) ⟨?_, ?_, eq4_same (val_inj ?_), eq4_same (val_inj ?_), ?_, ?_, trivial⟩ w vals hv
    · rw [e]; rfl
    · simp only [cmpN, e1, if_pos lt1]; rfl
    · rw [e1]
      show val (modN (modN a0 a1 m) ⟨0, 0, 0, 0⟩ m) = _
      rw [modN, if_neg h, val_ofN]
      have : wide (modN a0 a1 m) ⟨0, 0, 0, 0⟩ = wide a0 a1 % val m := by simp only [wide, hz, e1]; omega
      rw [this, Nat.mod_mod]
      exact Nat.mod_eq_of_lt (by omega)
    · show val (modN (mulV b m).1 (mulV b m).2 m) = 0
      rw [modN, if_neg h, val_ofN]
      have hlt : val b * val m < p256 * p256 := Nat.mul_lt_mul'' (val_lt b) hm
      have : wide (mulV b m).1 (mulV b m).2 = val b * val m := by
        simp only [wide, mulV, val_ofN]
        generalize val b * val m = u at *
        simp only [p256] at *
        omega
      rw [this, Nat.mul_mod_left]
      rfl
    · rw [e]; rfl
    · rw [e]; rfl

theorem wideBelowLifted (os : Os) (started : os.Started) (H : Type) (enc : TypeId × Value → H) :
    ReturnsInHanded {} Try.checked os 11 .any (Rows.wideBelowSpec.pre6 enc Try.prog Try.f11 Rows.wideBelowRow.domain false) (Rows.wideBelowSpec.post enc Try.prog Try.f11 false true false false) := by
  refine returnsInHanded_of_change (C := Try.checked) own started (by kernel_rfl) Try.func11
    (ChangeSpec.witness6 (enc := enc) (C := Try.checked) false ⟨#[], #[.agg (Array.replicate 8 (.int .u64 0)), .agg (Array.replicate 4 (.int .u64 0)), .agg (Array.replicate 4 (.int .u64 0))], []⟩ 8 (by kernel_rfl) (by kernel_rfl) (by kernel_rfl) (by kernel_rfl)) ?_
  intro W base args ds gs before hval0 hW hcnd _
  have hval : ∀ (j : Nat) t v, Try.f11.params[j]? = some t → args[j]? = some v → Value.okWide Try.prog W .any base t v := hval0
  have hW' := hW
  obtain ⟨p, q, hA0, hV, rfl, hfz, hnd⟩ := hW
  have hA : DataW.TrodAll enc Try.prog W 0 (fun _ => true) true Try.f11.params.toList args.toList ds p := hA0
  rw [Try.params11] at hA hval
  obtain ⟨v0, v1, v2, d0, d1, d2, p0, p1, p2, rfl, rfl, rfl, h0, h1, h2⟩ := trodAll_three hA
  obtain ⟨rfl, rfl⟩ := trodVars_none hV
  obtain ⟨a0, b0, e0⟩ := openWide (hval 0 _ v0 rfl rfl) h0
  obtain ⟨a1, e1⟩ := openNum (hval 1 _ v1 rfl rfl) h1
  obtain ⟨a2, e2⟩ := openNum (hval 2 _ v2 rfl rfl) h2
  refine (lawBelow a0 b0 a1 a2 W [v0, v1, v2] ⟨e0, e1, e2, trivial⟩).mono fun e W' ⟨v, he, hbelow, hres⟩ => ⟨v, he, ?_⟩
  rw [resBool hres]
  exact law_post laidOut (by rw [Try.params11]; exact of_decide_eq_true (by kernel_rfl)) rfl rfl (tb := 4) (by kernel_rfl) hW' rfl hbelow

theorem wideBelow_holds : Rows.WideBelowSaid :=
  OpenClaim.holds_of_wide 11 Try.f11 rfl rfl rfl rfl rfl rfl rfl ⟨rfl, rfl, rfl, rfl, rfl⟩ rfl rfl rfl rfl rfl (by kernel_rfl) Try.func11 (by kernel_rfl)
    (of_decide_eq_true (by kernel_rfl)) (by unfold Func.isWrapper; first | (rw [if_pos (by decide +kernel)]; kernel_rfl) | (rw [if_neg (by decide +kernel)]; exact ⟨rfl, rfl⟩))
    (fun os started H enc _ => wideBelowLifted os started H enc)
end Go.Proofs.Ytokbhlapbollbaa
