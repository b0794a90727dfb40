/- PROVED: sealwaxlaw03.FieldUndone answers true for every argument, and each argument reads behind the call as it read before. Conditions: none. Own work. -/
import Derived.Test.YtfcjahlcllmcpaaMgr
namespace Go.Proofs.Ytfcjahlcllmcpaa
open Go.Ev Go.Sp Go.ChangeShapes Go.WideShapes Go.RowKit
set_option maxRecDepth 100000
theorem eqF {x y : N4} (h : val x ≠ val y) : (x.eq y && true) = false := by rw [eq_N4, beq_eq_false_iff_ne.2 h]
theorem nE {x y : N4} (h : x = y) : (!(x.eq y && true)) = false := by rw [eqN h]; rfl
theorem nF {x y : N4} (h : val x ≠ val y) : (!(x.eq y && true)) = true := by rw [eqF h]; rfl
theorem runLaw0 (f : Nat → Nat → Nat) (g : Nat → Nat × Bool) (v : Nat → Nat) (a b : N4) : fnS Try.prog (lookG (tblY f g v)) (orcA [(3, [(6, false), (13, false), (19, false)]), (5, [(2, true)]), (6, [(2, true)])]) [] 10 10 [.val true [.n4 a], .val true [.n4 b]] =
    some (sc (IV.bool true), [(!((ofN (fSub (val (ofN (fAdd (val a % Pp) (val b % Pp))) % Pp) (val b % Pp))).eq (ofN (val a % Pp)) && true)) = false, (!((ofN (fAdd (val a % Pp) (val (ofN (fNeg (val a % Pp))) % Pp))).eq (N4.mk (BitVec.ofNat 64 0) (BitVec.ofNat 64 0) (BitVec.ofNat 64 0) (BitVec.ofNat 64 0)) && true)) = false, (!((ofN (v (val (ofN (v (val a % Pp))) % Pp))).eq (ofN (val a % Pp)) && true)) = false, ((ofN (val a % Pp)).eq (N4.mk (BitVec.ofNat 64 0) (BitVec.ofNat 64 0) (BitVec.ofNat 64 0) (BitVec.ofNat 64 0)) && true) = true, ((ofN (v (val a % Pp))).eq (N4.mk (BitVec.ofNat 64 0) (BitVec.ofNat 64 0) (BitVec.ofNat 64 0) (BitVec.ofNat 64 0)) && true) = true]) := by kernel_rfl
theorem runLaw1 (f : Nat → Nat → Nat) (g : Nat → Nat × Bool) (v : Nat → Nat) (a b : N4) : fnS Try.prog (lookG (tblY f g v)) (orcA [(3, [(6, false), (13, false), (19, false)]), (5, [(2, false)]), (7, [(4, true), (7, true)])]) [] 10 10 [.val true [.n4 a], .val true [.n4 b]] =
    some (sc (IV.bool true), [(!((ofN (fSub (val (ofN (fAdd (val a % Pp) (val b % Pp))) % Pp) (val b % Pp))).eq (ofN (val a % Pp)) && true)) = false, (!((ofN (fAdd (val a % Pp) (val (ofN (fNeg (val a % Pp))) % Pp))).eq (N4.mk (BitVec.ofNat 64 0) (BitVec.ofNat 64 0) (BitVec.ofNat 64 0) (BitVec.ofNat 64 0)) && true)) = false, (!((ofN (v (val (ofN (v (val a % Pp))) % Pp))).eq (ofN (val a % Pp)) && true)) = false, ((ofN (val a % Pp)).eq (N4.mk (BitVec.ofNat 64 0) (BitVec.ofNat 64 0) (BitVec.ofNat 64 0) (BitVec.ofNat 64 0)) && true) = false, ((ofN (fMul (val a % Pp) (val (ofN (v (val a % Pp))) % Pp))).eq (N4.mk (BitVec.ofNat 64 1) (BitVec.ofNat 64 0) (BitVec.ofNat 64 0) (BitVec.ofNat 64 0)) && true) = true, decide (val (ofN (v (val a % Pp))) < Pp) = true]) := by kernel_rfl
theorem law (a b : N4) (w : World) (vals : List Value) (hv : F2 (DV w) [.val true [.n4 a], .val true [.n4 b]] vals) :
    Calls Try.prog 10 vals.toArray w fun e w' => ∃ v, e = .returned v ∧ Below w.heap.size w w' ∧ ResOk w.heap.size w' (sc (.bool true)) v := by
  have hx := Nat.mod_lt (val a) Pp_pos
  have hy := Nat.mod_lt (val b) Pp_pos
  have v1 : ∀ x y, val (ofN (fAdd x y)) = fAdd x y := fun x y => val_lo (fAdd_lt x y)
  have v3 : ∀ x, val (ofN (fNeg x)) = fNeg x := fun x => val_lo (fNeg_lt x)
  have v4 : ∀ x, val (ofN (fInv x)) = fInv x := fun x => val_lo (inv_lt x)
  have m1 : ∀ x y, fAdd x y % Pp = fAdd x y := fun x y => Nat.mod_eq_of_lt (fAdd_lt x y)
  have m3 : ∀ x, fNeg x % Pp = fNeg x := fun x => Nat.mod_eq_of_lt (fNeg_lt x)
  have m4 : ∀ x, fInv x % Pp = fInv x := fun x => Nat.mod_eq_of_lt (inv_lt x)
  have r0 := runLaw0 pw prV fInv a b
  have r1 := runLaw1 pw prV fInv a b
  simp only [v1, v3, v4, m1, m3, m4] at r0 r1
  have q1 : fSub (fAdd (val a % Pp) (val b % Pp)) (val b % Pp) = val a % Pp := by
    show fAdd _ _ = _
    rw [fAdd_assoc, fAdd_neg hy, fAdd_zero hx]
  have q2 := fAdd_neg hx
  have q3 := inv_inv hx
  by_cases h : val a % Pp = 0
  · refine calls_of_fnS gsY fol r0 ⟨nE (by rw [q1]), nE (by rw [q2]; rfl), nE (by rw [q3]), eqN (by rw [h]; rfl), eqN (by rw [h, inv_zero]; rfl), trivial⟩ w vals hv
  · refine calls_of_fnS gsY fol r1 ⟨nE (by rw [q1]), nE (by rw [q2]; rfl), nE (by rw [q3]), eqF (by rw [val_lo hx]; exact h), eqN (by rw [inv_mul h hx]; rfl), decide_eq_true (inv_lt _), trivial⟩ w vals hv
theorem fieldUndoneLifted (os : Os) (started : os.Started) (H : Type) (enc : TypeId × Value → H) :
    ReturnsInHanded {} Try.checked os 10 .any (Rows.fieldUndoneSpec.pre6 enc Try.prog Try.f10 Rows.fieldUndoneRow.domain false) (Rows.fieldUndoneSpec.post enc Try.prog Try.f10 false true false false) := by
  refine returnsInHanded_of_change_sized (C := Try.checked) own started (by kernel_rfl) Try.func10
    (ChangeSpec.witness6 (enc := enc) (C := Try.checked) false ⟨#[], #[.agg (Array.replicate 4 (.int .u64 0)), .agg (Array.replicate 4 (.int .u64 0))], []⟩ 8 (by kernel_rfl) (by kernel_rfl) (by kernel_rfl) (by kernel_rfl)) ?_
  intro W base args ds gs before hval0 hW hcnd hsz _
  have hval : ∀ (j : Nat) t v, Try.f10.params[j]? = some t → args[j]? = some v → Value.okWide Try.prog W .any base t v := hval0
  have hW' := hW
  obtain ⟨p, q, hA0, hV, rfl, hfz, hnd⟩ := hW
  have hA : DataW.TrodAll enc Try.prog W 0 (fun _ => true) true Try.f10.params.toList args.toList ds p := hA0
  rw [Try.params10] at hA hval
  obtain ⟨v0, v1, d0, d1, p0, p1, rfl, rfl, rfl, h0, h1⟩ := trodAll_two hA
  obtain ⟨rfl, rfl⟩ := trodVars_none hV
  obtain ⟨a0, e0⟩ := openNum (hval 0 _ v0 rfl rfl) h0
  obtain ⟨a1, e1⟩ := openNum (hval 1 _ v1 rfl rfl) h1
  refine (law a0 a1 W [v0, v1] ⟨e0, e1, trivial⟩).mono fun e W' ⟨v, he, hbelow, hres⟩ => ⟨v, he, ?_⟩
  rw [resBool hres]
  exact law_post laidOut (by rw [Try.params10]; exact of_decide_eq_true (by kernel_rfl)) rfl rfl (tb := 4) (by kernel_rfl) hW' rfl hbelow

theorem fieldUndone_holds : Rows.FieldUndoneSaid :=
  OpenClaim.holds_of_wide 10 Try.f10 rfl rfl rfl rfl rfl rfl rfl ⟨rfl, rfl, rfl, rfl, rfl⟩ rfl rfl rfl rfl rfl (by kernel_rfl) Try.func10 (by kernel_rfl)
    (of_decide_eq_true (by kernel_rfl)) (by unfold Func.isWrapper; first | (rw [if_pos (by decide +kernel)]; kernel_rfl) | (rw [if_neg (by decide +kernel)]; exact ⟨rfl, rfl⟩))
    (fun os started H enc _ => fieldUndoneLifted os started H enc)

end Go.Proofs.Ytfcjahlcllmcpaa
