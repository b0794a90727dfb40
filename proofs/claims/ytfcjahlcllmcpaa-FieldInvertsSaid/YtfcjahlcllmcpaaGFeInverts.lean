/- PROVED: sealwaxlaw03.FieldInverts answers true for every argument, and each argument reads behind the call as it read before. Conditions: none. Own work. -/
import Derived.Test.YtfcjahlcllmcpaaMgr
namespace Go.Proofs.Ytfcjahlcllmcpaa
open Go.Ev Go.Sp Go.ChangeShapes Go.WideShapes Go.RowKit
set_option maxRecDepth 100000
theorem runLaw (f : Nat → Nat → Nat) (g : Nat → Nat × Bool) (v : Nat → Nat) (a : N4) : fnS Try.prog (lookG (tblY f g v)) (orcA [(1, [(6, true)])]) [] 10 7 [.val true [.n4 a]] =
    some (sc (IV.bool true), [val a % Pp < Pp, v (val a % Pp) < p256, ((ofN (v (val a % Pp))).eq (ofN (v (val a % Pp))) && true) = true]) := by kernel_rfl
theorem law (a : N4) (w : World) (vals : List Value) (hv : F2 (DV w) [.val true [.n4 a]] vals) :
    Calls Try.prog 7 vals.toArray w fun e w' => ∃ v, e = .returned v ∧ Below w.heap.size w w' ∧ ResOk w.heap.size w' (sc (.bool true)) v := by
  exact calls_of_fnS gsY fol (runLaw pw prV fInv a) ⟨Nat.mod_lt _ Pp_pos, lt256 (inv_lt _), eqN rfl, trivial⟩ w vals hv
theorem fieldInvertsLifted (os : Os) (started : os.Started) (H : Type) (enc : TypeId × Value → H) :
    ReturnsInHanded {} Try.checked os 7 .any (Rows.fieldInvertsSpec.pre6 enc Try.prog Try.f7 Rows.fieldInvertsRow.domain false) (Rows.fieldInvertsSpec.post enc Try.prog Try.f7 false true false false) := by
  refine returnsInHanded_of_change_sized (C := Try.checked) own started (by kernel_rfl) Try.func7
    (ChangeSpec.witness6 (enc := enc) (C := Try.checked) false ⟨#[], #[.agg (Array.replicate 4 (.int .u64 0))], []⟩ 8 (by kernel_rfl) (by kernel_rfl) (by kernel_rfl) (by kernel_rfl)) ?_
  intro W base args ds gs before hval0 hW hcnd hsz _
  have hval : ∀ (j : Nat) t v, Try.f7.params[j]? = some t → args[j]? = some v → Value.okWide Try.prog W .any base t v := hval0
  have hW' := hW
  obtain ⟨p, q, hA0, hV, rfl, hfz, hnd⟩ := hW
  have hA : DataW.TrodAll enc Try.prog W 0 (fun _ => true) true Try.f7.params.toList args.toList ds p := hA0
  rw [Try.params7] at hA hval
  obtain ⟨v0, d0, rfl, rfl, h0⟩ := trodAll_one hA
  obtain ⟨rfl, rfl⟩ := trodVars_none hV
  obtain ⟨a0, e0⟩ := openNum (hval 0 _ v0 rfl rfl) h0
  refine (law a0 W [v0] ⟨e0, trivial⟩).mono fun e W' ⟨v, he, hbelow, hres⟩ => ⟨v, he, ?_⟩
  rw [resBool hres]
  exact law_post laidOut (by rw [Try.params7]; exact of_decide_eq_true (by kernel_rfl)) rfl rfl (tb := 4) (by kernel_rfl) hW' rfl hbelow

theorem fieldInverts_holds : Rows.FieldInvertsSaid :=
  OpenClaim.holds_of_wide 7 Try.f7 rfl rfl rfl rfl rfl rfl rfl ⟨rfl, rfl, rfl, rfl, rfl⟩ rfl rfl rfl rfl rfl (by kernel_rfl) Try.func7 (by kernel_rfl)
    (of_decide_eq_true (by kernel_rfl)) (by unfold Func.isWrapper; first | (rw [if_pos (by decide +kernel)]; kernel_rfl) | (rw [if_neg (by decide +kernel)]; exact ⟨rfl, rfl⟩))
    (fun os started H enc _ => fieldInvertsLifted os started H enc)

end Go.Proofs.Ytfcjahlcllmcpaa
