/- PROVED: sealwaxlaw03.FieldOrder answers true for every argument, and each argument reads behind the call as it read before. Conditions: none. Own work. -/
import Derived.Test.YtfcjahlcllmcpaaMgr
namespace Go.Proofs.Ytfcjahlcllmcpaa
open Go.Ev Go.Sp Go.ChangeShapes Go.WideShapes Go.RowKit
set_option maxRecDepth 100000
theorem runLaw (f : Nat → Nat → Nat) (g : Nat → Nat × Bool) (v : Nat → Nat) (a b c : N4) : fnS Try.prog (lookG (tblY f g v)) (orcA [(1, [(10, true), (18, true)]), (2, [(10, true), (18, true)]), (3, [(17, true)])]) [] 10 8 [.val true [.n4 a], .val true [.n4 b], .val true [.n4 c]] =
    some (sc (IV.bool true), [((ofN (fAdd (val a % Pp) (val (ofN (fAdd (val b % Pp) (val c % Pp))) % Pp))).eq (ofN (fAdd (val (ofN (fAdd (val a % Pp) (val b % Pp))) % Pp) (val c % Pp))) && true) = true, ((ofN (fAdd (val a % Pp) (val b % Pp))).eq (ofN (fAdd (val b % Pp) (val a % Pp))) && true) = true, ((ofN (fMul (val a % Pp) (val (ofN (fMul (val b % Pp) (val c % Pp))) % Pp))).eq (ofN (fMul (val (ofN (fMul (val a % Pp) (val b % Pp))) % Pp) (val c % Pp))) && true) = true, ((ofN (fMul (val a % Pp) (val b % Pp))).eq (ofN (fMul (val b % Pp) (val a % Pp))) && true) = true, ((ofN (fMul (val a % Pp) (val (ofN (fAdd (val b % Pp) (val c % Pp))) % Pp))).eq (ofN (fAdd (val (ofN (fMul (val a % Pp) (val b % Pp))) % Pp) (val (ofN (fMul (val a % Pp) (val c % Pp))) % Pp))) && true) = true]) := by kernel_rfl
theorem law (a b c : N4) (w : World) (vals : List Value) (hv : F2 (DV w) [.val true [.n4 a], .val true [.n4 b], .val true [.n4 c]] vals) :
    Calls Try.prog 8 vals.toArray w fun e w' => ∃ v, e = .returned v ∧ Below w.heap.size w w' ∧ ResOk w.heap.size w' (sc (.bool true)) v := by
  have v1 : ∀ x y, val (ofN (fAdd x y)) = fAdd x y := fun x y => val_lo (fAdd_lt x y)
  have v2 : ∀ x y, val (ofN (fMul x y)) = fMul x y := fun x y => val_lo (fMul_lt x y)
  have m1 : ∀ x y, fAdd x y % Pp = fAdd x y := fun x y => Nat.mod_eq_of_lt (fAdd_lt x y)
  have m2 : ∀ x y, fMul x y % Pp = fMul x y := fun x y => Nat.mod_eq_of_lt (fMul_lt x y)
  have r0 := runLaw pw prV fInv a b c
  simp only [v1, v2, m1, m2] at r0
  exact calls_of_fnS gsY fol r0 ⟨eqN (by rw [fAdd_assoc]), eqN (by rw [fAdd_comm]), eqN (by rw [fMul_assoc]), eqN (by rw [fMul_comm]), eqN (by rw [fMul_add]), trivial⟩ w vals hv
theorem fieldOrderLifted (os : Os) (started : os.Started) (H : Type) (enc : TypeId × Value → H) :
    ReturnsInHanded {} Try.checked os 8 .any (Rows.fieldOrderSpec.pre6 enc Try.prog Try.f8 Rows.fieldOrderRow.domain false) (Rows.fieldOrderSpec.post enc Try.prog Try.f8 false true false false) := by
  refine returnsInHanded_of_change_sized (C := Try.checked) own started (by kernel_rfl) Try.func8
    (ChangeSpec.witness6 (enc := enc) (C := Try.checked) false ⟨#[], #[.agg (Array.replicate 4 (.int .u64 0)), .agg (Array.replicate 4 (.int .u64 0)), .agg (Array.replicate 4 (.int .u64 0))], []⟩ 8 (by kernel_rfl) (by kernel_rfl) (by kernel_rfl) (by kernel_rfl)) ?_
  intro W base args ds gs before hval0 hW hcnd hsz _
  have hval : ∀ (j : Nat) t v, Try.f8.params[j]? = some t → args[j]? = some v → Value.okWide Try.prog W .any base t v := hval0
  have hW' := hW
  obtain ⟨p, q, hA0, hV, rfl, hfz, hnd⟩ := hW
  have hA : DataW.TrodAll enc Try.prog W 0 (fun _ => true) true Try.f8.params.toList args.toList ds p := hA0
  rw [Try.params8] at hA hval
  obtain ⟨v0, v1, v2, d0, d1, d2, p0, p1, p2, rfl, rfl, rfl, h0, h1, h2⟩ := trodAll_three hA
  obtain ⟨rfl, rfl⟩ := trodVars_none hV
  obtain ⟨a0, e0⟩ := openNum (hval 0 _ v0 rfl rfl) h0
  obtain ⟨a1, e1⟩ := openNum (hval 1 _ v1 rfl rfl) h1
  obtain ⟨a2, e2⟩ := openNum (hval 2 _ v2 rfl rfl) h2
  refine (law a0 a1 a2 W [v0, v1, v2] ⟨e0, e1, e2, trivial⟩).mono fun e W' ⟨v, he, hbelow, hres⟩ => ⟨v, he, ?_⟩
  rw [resBool hres]
  exact law_post laidOut (by rw [Try.params8]; exact of_decide_eq_true (by kernel_rfl)) rfl rfl (tb := 4) (by kernel_rfl) hW' rfl hbelow

theorem fieldOrder_holds : Rows.FieldOrderSaid :=
  OpenClaim.holds_of_wide 8 Try.f8 rfl rfl rfl rfl rfl rfl rfl ⟨rfl, rfl, rfl, rfl, rfl⟩ rfl rfl rfl rfl rfl (by kernel_rfl) Try.func8 (by kernel_rfl)
    (of_decide_eq_true (by kernel_rfl)) (by unfold Func.isWrapper; first | (rw [if_pos (by decide +kernel)]; kernel_rfl) | (rw [if_neg (by decide +kernel)]; exact ⟨rfl, rfl⟩))
    (fun os started H enc _ => fieldOrderLifted os started H enc)

end Go.Proofs.Ytfcjahlcllmcpaa
