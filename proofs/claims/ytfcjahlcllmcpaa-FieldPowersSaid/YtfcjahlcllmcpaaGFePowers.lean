/- PROVED: sealwaxlaw03.FieldPowers answers true for every argument, and each argument reads behind the call as it read before. Conditions: none. Own work. -/
import Derived.Test.YtfcjahlcllmcpaaMgr
namespace Go.Proofs.Ytfcjahlcllmcpaa
open Go.Ev Go.Sp Go.ChangeShapes Go.WideShapes Go.RowKit
set_option maxRecDepth 100000
theorem runLaw (f : Nat → Nat → Nat) (g : Nat → Nat × Bool) (v : Nat → Nat) (a b : N4) : fnS Try.prog (lookG (tblY f g v)) (orcA [(1, [(9, true)])]) [] 10 4 [.val true [.n4 a], .val true [.n4 b]] =
    some (sc (IV.bool true), [(dg (val b)).length = (dg (val b)).length, val a % Pp < Pp, Sm (val b), f (val a % Pp) (val b) < p256, ((ofN (f (val a % Pp) (val b))).eq (ofN (f (val a % Pp) (val b))) && true) = true]) := by kernel_rfl
theorem law (a b : N4) (w : World) (vals : List Value) (hv : F2 (DV w) [.val true [.n4 a], .val true [.n4 b]] vals) :
    Calls Try.prog 4 vals.toArray w fun e w' => ∃ v, e = .returned v ∧ Below w.heap.size w w' ∧ ResOk w.heap.size w' (sc (.bool true)) v := by
  exact calls_of_fnS gsY fol (runLaw pw prV fInv a b) ⟨rfl, Nat.mod_lt _ Pp_pos, Sm_lt (k := 32) (val_lt' b) (by omega), lt256 (pw_lt _ _), eqN rfl, trivial⟩ w vals hv
theorem fieldPowersLifted (os : Os) (started : os.Started) (H : Type) (enc : TypeId × Value → H) :
    ReturnsInHanded {} Try.checked os 4 .any (Rows.fieldPowersSpec.pre6 enc Try.prog Try.f4 Rows.fieldPowersRow.domain false) (Rows.fieldPowersSpec.post enc Try.prog Try.f4 false true false false) := by
  refine returnsInHanded_of_change_sized (C := Try.checked) own started (by kernel_rfl) Try.func4
    (ChangeSpec.witness6 (enc := enc) (C := Try.checked) false ⟨#[], #[.agg (Array.replicate 4 (.int .u64 0)), .agg (Array.replicate 4 (.int .u64 0))], []⟩ 8 (by kernel_rfl) (by kernel_rfl) (by kernel_rfl) (by kernel_rfl)) ?_
  intro W base args ds gs before hval0 hW hcnd hsz _
  have hval : ∀ (j : Nat) t v, Try.f4.params[j]? = some t → args[j]? = some v → Value.okWide Try.prog W .any base t v := hval0
  have hW' := hW
  obtain ⟨p, q, hA0, hV, rfl, hfz, hnd⟩ := hW
  have hA : DataW.TrodAll enc Try.prog W 0 (fun _ => true) true Try.f4.params.toList args.toList ds p := hA0
  rw [Try.params4] at hA hval
  obtain ⟨v0, v1, d0, d1, p0, p1, rfl, rfl, rfl, h0, h1⟩ := trodAll_two hA
  obtain ⟨rfl, rfl⟩ := trodVars_none hV
  obtain ⟨a0, e0⟩ := openNum (hval 0 _ v0 rfl rfl) h0
  obtain ⟨a1, e1⟩ := openNum (hval 1 _ v1 rfl rfl) h1
  refine (law a0 a1 W [v0, v1] ⟨e0, e1, trivial⟩).mono fun e W' ⟨v, he, hbelow, hres⟩ => ⟨v, he, ?_⟩
  rw [resBool hres]
  exact law_post laidOut (by rw [Try.params4]; exact of_decide_eq_true (by kernel_rfl)) rfl rfl (tb := 4) (by kernel_rfl) hW' rfl hbelow

theorem fieldPowers_holds : Rows.FieldPowersSaid :=
  OpenClaim.holds_of_wide 4 Try.f4 rfl rfl rfl rfl rfl rfl rfl ⟨rfl, rfl, rfl, rfl, rfl⟩ rfl rfl rfl rfl rfl (by kernel_rfl) Try.func4 (by kernel_rfl)
    (of_decide_eq_true (by kernel_rfl)) (by unfold Func.isWrapper; first | (rw [if_pos (by decide +kernel)]; kernel_rfl) | (rw [if_neg (by decide +kernel)]; exact ⟨rfl, rfl⟩))
    (fun os started H enc _ => fieldPowersLifted os started H enc)

end Go.Proofs.Ytfcjahlcllmcpaa
