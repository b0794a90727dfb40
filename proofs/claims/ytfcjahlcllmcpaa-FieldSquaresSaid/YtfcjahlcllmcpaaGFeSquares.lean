/- PROVED: sealwaxlaw03.FieldSquares answers true for every argument, and each argument reads behind the call as it read before. Conditions: none. Own work. -/
import Derived.Test.YtfcjahlcllmcpaaMgr
namespace Go.Proofs.Ytfcjahlcllmcpaa
open Go.Ev Go.Sp Go.ChangeShapes Go.WideShapes Go.RowKit
set_option maxRecDepth 100000
theorem eqF {x y : N4} (h : val x ≠ val y) : (x.eq y && true) = false := by rw [eq_N4, beq_eq_false_iff_ne.2 h]
theorem nE {x y : N4} (h : x = y) : (!(x.eq y && true)) = false := by rw [eqN h]; rfl
theorem nF {x y : N4} (h : val x ≠ val y) : (!(x.eq y && true)) = true := by rw [eqF h]; rfl
theorem get_even {r : Nat} (h : r % 2 = 0) : (!((ofN r).get 0 % BitVec.ofNat 64 2 == BitVec.ofNat 64 0)) = false := by
  have : (ofN r).get 0 % BitVec.ofNat 64 2 = BitVec.ofNat 64 0 := by
    show BitVec.ofNat 64 r % BitVec.ofNat 64 2 = BitVec.ofNat 64 0
    apply BitVec.eq_of_toNat_eq
    simp only [BitVec.toNat_umod, BitVec.toNat_ofNat]
    rw [show (2 : Nat) % 2 ^ 64 = 2 by decide, show (0 : Nat) % 2 ^ 64 = 0 by decide, Nat.mod_mod_of_dvd r ⟨2 ^ 63, by decide⟩]
    exact h
  rw [this]; rfl
theorem runLawE0 (f : Nat → Nat → Nat) (g : Nat → Nat × Bool) (v : Nat → Nat) (a b : N4) : fnS Try.prog (lookG (tblY f g v)) (orcA [(3, [(1, false), (5, false), (17, false)]), (9, [(2, true), (5, true)])]) [] 10 6 [.val true [.n4 a], .val true [.n4 b]] =
    some (sc (IV.bool true), [(!(g (val (ofN (fMul (val a % Pp) (val a % Pp))) % Pp)).snd) = false, (!((ofN (g (val (ofN (fMul (val a % Pp) (val a % Pp))) % Pp)).fst).eq (ofN (val a % Pp)) && true)) = false, (0 : Int) ≤ (0 : Int), 0 < 4, 0 < 4, 2 ≠ 0, (!(ofN (g (val (ofN (fMul (val a % Pp) (val a % Pp))) % Pp)).fst).get 0 % BitVec.ofNat 64 2 == BitVec.ofNat 64 0) = false, ((g (val a % Pp)).snd == (g (val (ofN (fNeg (val a % Pp))) % Pp)).snd) = true, (!(g (val a % Pp)).snd) = true]) := by kernel_rfl
theorem runLawE1 (f : Nat → Nat → Nat) (g : Nat → Nat × Bool) (v : Nat → Nat) (a b : N4) : fnS Try.prog (lookG (tblY f g v)) (orcA [(3, [(1, false), (5, false), (17, false)]), (9, [(2, true), (5, false), (8, true)])]) [] 10 6 [.val true [.n4 a], .val true [.n4 b]] =
    some (sc (IV.bool true), [(!(g (val (ofN (fMul (val a % Pp) (val a % Pp))) % Pp)).snd) = false, (!((ofN (g (val (ofN (fMul (val a % Pp) (val a % Pp))) % Pp)).fst).eq (ofN (val a % Pp)) && true)) = false, (0 : Int) ≤ (0 : Int), 0 < 4, 0 < 4, 2 ≠ 0, (!(ofN (g (val (ofN (fMul (val a % Pp) (val a % Pp))) % Pp)).fst).get 0 % BitVec.ofNat 64 2 == BitVec.ofNat 64 0) = false, ((g (val a % Pp)).snd == (g (val (ofN (fNeg (val a % Pp))) % Pp)).snd) = true, (!(g (val a % Pp)).snd) = false, (!(g (val b % Pp)).snd) = true]) := by kernel_rfl
theorem runLawE2 (f : Nat → Nat → Nat) (g : Nat → Nat × Bool) (v : Nat → Nat) (a b : N4) : fnS Try.prog (lookG (tblY f g v)) (orcA [(3, [(1, false), (5, false), (17, false)]), (9, [(2, true), (5, false), (8, false), (11, true)])]) [] 10 6 [.val true [.n4 a], .val true [.n4 b]] =
    some (sc (IV.bool true), [(!(g (val (ofN (fMul (val a % Pp) (val a % Pp))) % Pp)).snd) = false, (!((ofN (g (val (ofN (fMul (val a % Pp) (val a % Pp))) % Pp)).fst).eq (ofN (val a % Pp)) && true)) = false, (0 : Int) ≤ (0 : Int), 0 < 4, 0 < 4, 2 ≠ 0, (!(ofN (g (val (ofN (fMul (val a % Pp) (val a % Pp))) % Pp)).fst).get 0 % BitVec.ofNat 64 2 == BitVec.ofNat 64 0) = false, ((g (val a % Pp)).snd == (g (val (ofN (fNeg (val a % Pp))) % Pp)).snd) = true, (!(g (val a % Pp)).snd) = false, (!(g (val b % Pp)).snd) = false, (g (val (ofN (fMul (val a % Pp) (val b % Pp))) % Pp)).snd = true]) := by kernel_rfl
theorem runLawN0 (f : Nat → Nat → Nat) (g : Nat → Nat × Bool) (v : Nat → Nat) (a b : N4) : fnS Try.prog (lookG (tblY f g v)) (orcA [(3, [(1, false), (5, true), (10, false), (17, false)]), (9, [(2, true), (5, true)])]) [] 10 6 [.val true [.n4 a], .val true [.n4 b]] =
    some (sc (IV.bool true), [(!(g (val (ofN (fMul (val a % Pp) (val a % Pp))) % Pp)).snd) = false, (!((ofN (g (val (ofN (fMul (val a % Pp) (val a % Pp))) % Pp)).fst).eq (ofN (val a % Pp)) && true)) = true, (!((ofN (g (val (ofN (fMul (val a % Pp) (val a % Pp))) % Pp)).fst).eq (ofN (fNeg (val a % Pp))) && true)) = false, (0 : Int) ≤ (0 : Int), 0 < 4, 0 < 4, 2 ≠ 0, (!(ofN (g (val (ofN (fMul (val a % Pp) (val a % Pp))) % Pp)).fst).get 0 % BitVec.ofNat 64 2 == BitVec.ofNat 64 0) = false, ((g (val a % Pp)).snd == (g (val (ofN (fNeg (val a % Pp))) % Pp)).snd) = true, (!(g (val a % Pp)).snd) = true]) := by kernel_rfl
theorem runLawN1 (f : Nat → Nat → Nat) (g : Nat → Nat × Bool) (v : Nat → Nat) (a b : N4) : fnS Try.prog (lookG (tblY f g v)) (orcA [(3, [(1, false), (5, true), (10, false), (17, false)]), (9, [(2, true), (5, false), (8, true)])]) [] 10 6 [.val true [.n4 a], .val true [.n4 b]] =
    some (sc (IV.bool true), [(!(g (val (ofN (fMul (val a % Pp) (val a % Pp))) % Pp)).snd) = false, (!((ofN (g (val (ofN (fMul (val a % Pp) (val a % Pp))) % Pp)).fst).eq (ofN (val a % Pp)) && true)) = true, (!((ofN (g (val (ofN (fMul (val a % Pp) (val a % Pp))) % Pp)).fst).eq (ofN (fNeg (val a % Pp))) && true)) = false, (0 : Int) ≤ (0 : Int), 0 < 4, 0 < 4, 2 ≠ 0, (!(ofN (g (val (ofN (fMul (val a % Pp) (val a % Pp))) % Pp)).fst).get 0 % BitVec.ofNat 64 2 == BitVec.ofNat 64 0) = false, ((g (val a % Pp)).snd == (g (val (ofN (fNeg (val a % Pp))) % Pp)).snd) = true, (!(g (val a % Pp)).snd) = false, (!(g (val b % Pp)).snd) = true]) := by kernel_rfl
theorem runLawN2 (f : Nat → Nat → Nat) (g : Nat → Nat × Bool) (v : Nat → Nat) (a b : N4) : fnS Try.prog (lookG (tblY f g v)) (orcA [(3, [(1, false), (5, true), (10, false), (17, false)]), (9, [(2, true), (5, false), (8, false), (11, true)])]) [] 10 6 [.val true [.n4 a], .val true [.n4 b]] =
    some (sc (IV.bool true), [(!(g (val (ofN (fMul (val a % Pp) (val a % Pp))) % Pp)).snd) = false, (!((ofN (g (val (ofN (fMul (val a % Pp) (val a % Pp))) % Pp)).fst).eq (ofN (val a % Pp)) && true)) = true, (!((ofN (g (val (ofN (fMul (val a % Pp) (val a % Pp))) % Pp)).fst).eq (ofN (fNeg (val a % Pp))) && true)) = false, (0 : Int) ≤ (0 : Int), 0 < 4, 0 < 4, 2 ≠ 0, (!(ofN (g (val (ofN (fMul (val a % Pp) (val a % Pp))) % Pp)).fst).get 0 % BitVec.ofNat 64 2 == BitVec.ofNat 64 0) = false, ((g (val a % Pp)).snd == (g (val (ofN (fNeg (val a % Pp))) % Pp)).snd) = true, (!(g (val a % Pp)).snd) = false, (!(g (val b % Pp)).snd) = false, (g (val (ofN (fMul (val a % Pp) (val b % Pp))) % Pp)).snd = true]) := by kernel_rfl
theorem law (a b : N4) (w : World) (vals : List Value) (hv : F2 (DV w) [.val true [.n4 a], .val true [.n4 b]] vals) :
    Calls Try.prog 6 vals.toArray w fun e w' => ∃ v, e = .returned v ∧ Below w.heap.size w w' ∧ ResOk w.heap.size w' (sc (.bool true)) v := by
  have hx := Nat.mod_lt (val a) Pp_pos
  have hy := Nat.mod_lt (val b) Pp_pos
  have v2 : ∀ x y, val (ofN (fMul x y)) = fMul x y := fun x y => val_lo (fMul_lt x y)
  have v3 : ∀ x, val (ofN (fNeg x)) = fNeg x := fun x => val_lo (fNeg_lt x)
  have m2 : ∀ x y, fMul x y % Pp = fMul x y := fun x y => Nat.mod_eq_of_lt (fMul_lt x y)
  have m3 : ∀ x, fNeg x % Pp = fNeg x := fun x => Nat.mod_eq_of_lt (fNeg_lt x)
  have rE0 := runLawE0 pw prV fInv a b
  have rE1 := runLawE1 pw prV fInv a b
  have rE2 := runLawE2 pw prV fInv a b
  have rN0 := runLawN0 pw prV fInv a b
  have rN1 := runLawN1 pw prV fInv a b
  have rN2 := runLawN2 pw prV fInv a b
  simp only [v2, v3, m2, m3, prV_sqV hx, prV_sqV hy, prV_sqV (fMul_lt _ _), prV_sqV (fNeg_lt _), sqV_neg hx] at rE0 rE1 rE2 rN0 rN1 rN2
  have hs : sqV (fMul (val a % Pp) (val a % Pp)) = true := sqV_of hx rfl
  obtain ⟨p1, p2, p3⟩ := prV_sq (prV_of (fMul_lt _ _) hs)
  rw [hs] at rE0 rE1 rE2 rN0 rN1 rN2
  have hor := sq_eq p2 hx p1
  have hm := sqV_mul hx hy
  generalize (prV (fMul (val a % Pp) (val a % Pp))).1 = r at *
  have ge := get_even p3
  by_cases hr : r = val a % Pp
  · have c := nE (show ofN r = ofN (val a % Pp) by rw [hr])
    cases h1 : sqV (val a % Pp) with
    | false =>
      rw [h1] at rE0
      exact calls_of_fnS gsY fol rE0 ⟨rfl, c, by omega, by omega, by omega, by decide, ge, rfl, rfl, trivial⟩ w vals hv
    | true =>
      cases h2 : sqV (val b % Pp) with
      | false =>
        rw [h1, h2] at rE1
        exact calls_of_fnS gsY fol rE1 ⟨rfl, c, by omega, by omega, by omega, by decide, ge, rfl, rfl, rfl, trivial⟩ w vals hv
      | true =>
        rw [h1, h2] at rE2
        exact calls_of_fnS gsY fol rE2 ⟨rfl, c, by omega, by omega, by omega, by decide, ge, rfl, rfl, rfl, hm h1 h2, trivial⟩ w vals hv
  · have c := nF (show val (ofN r) ≠ val (ofN (val a % Pp)) by rw [val_lo p2, val_lo hx]; exact hr)
    have c2 := nE (show ofN r = ofN (fNeg (val a % Pp)) by rw [hor.resolve_left hr])
    cases h1 : sqV (val a % Pp) with
    | false =>
      rw [h1] at rN0
      exact calls_of_fnS gsY fol rN0 ⟨rfl, c, c2, by omega, by omega, by omega, by decide, ge, rfl, rfl, trivial⟩ w vals hv
    | true =>
      cases h2 : sqV (val b % Pp) with
      | false =>
        rw [h1, h2] at rN1
        exact calls_of_fnS gsY fol rN1 ⟨rfl, c, c2, by omega, by omega, by omega, by decide, ge, rfl, rfl, rfl, trivial⟩ w vals hv
      | true =>
        rw [h1, h2] at rN2
        exact calls_of_fnS gsY fol rN2 ⟨rfl, c, c2, by omega, by omega, by omega, by decide, ge, rfl, rfl, rfl, hm h1 h2, trivial⟩ w vals hv
theorem fieldSquaresLifted (os : Os) (started : os.Started) (H : Type) (enc : TypeId × Value → H) :
    ReturnsInHanded {} Try.checked os 6 .any (Rows.fieldSquaresSpec.pre6 enc Try.prog Try.f6 Rows.fieldSquaresRow.domain false) (Rows.fieldSquaresSpec.post enc Try.prog Try.f6 false true false false) := by
  refine returnsInHanded_of_change_sized (C := Try.checked) own started (by kernel_rfl) Try.func6
    (ChangeSpec.witness6 (enc := enc) (C := Try.checked) false ⟨#[], #[.agg (Array.replicate 4 (.int .u64 0)), .agg (Array.replicate 4 (.int .u64 0))], []⟩ 8 (by kernel_rfl) (by kernel_rfl) (by kernel_rfl) (by kernel_rfl)) ?_
  intro W base args ds gs before hval0 hW hcnd hsz _
  have hval : ∀ (j : Nat) t v, Try.f6.params[j]? = some t → args[j]? = some v → Value.okWide Try.prog W .any base t v := hval0
  have hW' := hW
  obtain ⟨p, q, hA0, hV, rfl, hfz, hnd⟩ := hW
  have hA : DataW.TrodAll enc Try.prog W 0 (fun _ => true) true Try.f6.params.toList args.toList ds p := hA0
  rw [Try.params6] at hA hval
  obtain ⟨v0, v1, d0, d1, p0, p1, rfl, rfl, rfl, h0, h1⟩ := trodAll_two hA
  obtain ⟨rfl, rfl⟩ := trodVars_none hV
  obtain ⟨a0, e0⟩ := openNum (hval 0 _ v0 rfl rfl) h0
  obtain ⟨a1, e1⟩ := openNum (hval 1 _ v1 rfl rfl) h1
  refine (law a0 a1 W [v0, v1] ⟨e0, e1, trivial⟩).mono fun e W' ⟨v, he, hbelow, hres⟩ => ⟨v, he, ?_⟩
  rw [resBool hres]
  exact law_post laidOut (by rw [Try.params6]; exact of_decide_eq_true (by kernel_rfl)) rfl rfl (tb := 4) (by kernel_rfl) hW' rfl hbelow

theorem fieldSquares_holds : Rows.FieldSquaresSaid :=
  OpenClaim.holds_of_wide 6 Try.f6 rfl rfl rfl rfl rfl rfl rfl ⟨rfl, rfl, rfl, rfl, rfl⟩ rfl rfl rfl rfl rfl (by kernel_rfl) Try.func6 (by kernel_rfl)
    (of_decide_eq_true (by kernel_rfl)) (by unfold Func.isWrapper; first | (rw [if_pos (by decide +kernel)]; kernel_rfl) | (rw [if_neg (by decide +kernel)]; exact ⟨rfl, rfl⟩))
    (fun os started H enc _ => fieldSquaresLifted os started H enc)

end Go.Proofs.Ytfcjahlcllmcpaa
