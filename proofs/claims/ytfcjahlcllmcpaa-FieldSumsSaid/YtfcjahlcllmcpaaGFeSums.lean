/- PROVED: sealwaxlaw03.FieldSums answers true for every argument, and each argument reads behind the call as it read before. Conditions: none. Own work. -/
import Derived.Test.YtfcjahlcllmcpaaMgr
namespace Go.Proofs.Ytfcjahlcllmcpaa
open Go.Ev Go.Sp Go.ChangeShapes Go.WideShapes Go.RowKit
set_option maxRecDepth 100000
theorem runLaw (f : Nat → Nat → Nat) (g : Nat → Nat × Bool) (v : Nat → Nat) (a b : N4) : fnS Try.prog (lookG (tblY f g v)) (orcA [(2, [(2, true), (8, true), (17, true), (27, true), (37, true), (45, true)])]) [] 10 9 [.val true [.n4 a], .val true [.n4 b]] =
    some (sc (IV.bool true), [true = true, val a % Pp < p256, ((ofN (val a % Pp)).eq (ofN (val a % Pp)) && true) = true, val a % Pp < p256, (decide (val a < Pp) == ((ofN (val a % Pp)).eq a && true)) = true, val a % Pp < Pp, val b % Pp < Pp, fAdd (val a % Pp) (val b % Pp) < p256, ((ofN (fAdd (val a % Pp) (val b % Pp))).eq (ofN (fAdd (val a % Pp) (val b % Pp))) && true) = true, val a % Pp < Pp, val b % Pp < Pp, fSub (val a % Pp) (val b % Pp) < p256, ((ofN (fSub (val a % Pp) (val b % Pp))).eq (ofN (fSub (val a % Pp) (val b % Pp))) && true) = true, val a % Pp < Pp, fNeg (val a % Pp) < p256, ((ofN (fNeg (val a % Pp))).eq (ofN (fNeg (val a % Pp))) && true) = true]) := by kernel_rfl
theorem law (a b : N4) (w : World) (vals : List Value) (hv : F2 (DV w) [.val true [.n4 a], .val true [.n4 b]] vals) :
    Calls Try.prog 9 vals.toArray w fun e w' => ∃ v, e = .returned v ∧ Below w.heap.size w w' ∧ ResOk w.heap.size w' (sc (.bool true)) v := by
  have hx := Nat.mod_lt (val a) Pp_pos
  have hy := Nat.mod_lt (val b) Pp_pos
  refine calls_of_fnS gsY fol (runLaw pw prV fInv a b) ⟨rfl, lt256 hx, eqN rfl, lt256 hx, ?_, hx, hy, lt256 (fAdd_lt _ _), eqN rfl, hx, hy, lt256 (fAdd_lt _ _), eqN rfl, hx, lt256 (fNeg_lt _), eqN rfl, trivial⟩ w vals hv
  rw [eq_N4, val_lo hx]
  by_cases h : val a < Pp
  · rw [decide_eq_true h, Nat.mod_eq_of_lt h, beq_self_eq_true]; rfl
  · have hn : val a % Pp ≠ val a := by
      intro e
      rw [e] at hx
      exact h hx
    rw [decide_eq_false h, beq_eq_false_iff_ne.2 hn]; rfl
theorem fieldSumsLifted (os : Os) (started : os.Started) (H : Type) (enc : TypeId × Value → H) :
    ReturnsInHanded {} Try.checked os 9 .any (Rows.fieldSumsSpec.pre6 enc Try.prog Try.f9 Rows.fieldSumsRow.domain false) (Rows.fieldSumsSpec.post enc Try.prog Try.f9 false true false false) := by
  refine returnsInHanded_of_change_sized (C := Try.checked) own started (by kernel_rfl) Try.func9
    (ChangeSpec.witness6 (enc := enc) (C := Try.checked) false ⟨#[], #[.agg (Array.replicate 4 (.int .u64 0)), .agg (Array.replicate 4 (.int .u64 0))], []⟩ 8 (by kernel_rfl) (by kernel_rfl) (by kernel_rfl) (by kernel_rfl)) ?_
  intro W base args ds gs before hval0 hW hcnd hsz _
  have hval : ∀ (j : Nat) t v, Try.f9.params[j]? = some t → args[j]? = some v → Value.okWide Try.prog W .any base t v := hval0
  have hW' := hW
  obtain ⟨p, q, hA0, hV, rfl, hfz, hnd⟩ := hW
  have hA : DataW.TrodAll enc Try.prog W 0 (fun _ => true) true Try.f9.params.toList args.toList ds p := hA0
  rw [Try.params9] at hA hval
  obtain ⟨v0, v1, d0, d1, p0, p1, rfl, rfl, rfl, h0, h1⟩ := trodAll_two hA
  obtain ⟨rfl, rfl⟩ := trodVars_none hV
  obtain ⟨a0, e0⟩ := openNum (hval 0 _ v0 rfl rfl) h0
  obtain ⟨a1, e1⟩ := openNum (hval 1 _ v1 rfl rfl) h1
  refine (law a0 a1 W [v0, v1] ⟨e0, e1, trivial⟩).mono fun e W' ⟨v, he, hbelow, hres⟩ => ⟨v, he, ?_⟩
  rw [resBool hres]
  exact law_post laidOut (by rw [Try.params9]; exact of_decide_eq_true (by kernel_rfl)) rfl rfl (tb := 4) (by kernel_rfl) hW' rfl hbelow

theorem fieldSums_holds : Rows.FieldSumsSaid :=
  OpenClaim.holds_of_wide 9 Try.f9 rfl rfl rfl rfl rfl rfl rfl ⟨rfl, rfl, rfl, rfl, rfl⟩ rfl rfl rfl rfl rfl (by kernel_rfl) Try.func9 (by kernel_rfl)
    (of_decide_eq_true (by kernel_rfl)) (by unfold Func.isWrapper; first | (rw [if_pos (by decide +kernel)]; kernel_rfl) | (rw [if_neg (by decide +kernel)]; exact ⟨rfl, rfl⟩))
    (fun os started H enc _ => fieldSumsLifted os started H enc)

end Go.Proofs.Ytfcjahlcllmcpaa
