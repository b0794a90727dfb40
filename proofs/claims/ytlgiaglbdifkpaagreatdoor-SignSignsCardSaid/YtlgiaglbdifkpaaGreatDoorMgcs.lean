/- Texts put together: CuB CuC CuD CuE CuF CuG CuH CuI CuJ CuL SgA. Own work. -/
import Derived.Test.YtlgiaglbdifkpaaGreatDoorMgcr
/- Contracts of layer 8: the program's curve: multiples, and what is told of points. Own work. -/
namespace Go.Proofs.YtlgiaglbdifkpaaGreatDoor
open Go.Ev Go.Sp Go.RowKit
set_option maxRecDepth 100000
theorem wtimes_lt (p : W4) (n : Nat) : ∀ j, (wtimes p n j).Lt
  | 0 => by unfold wtimes W4.Lt nought4; decide
  | j + 1 => by
    unfold wtimes
    split <;> exact wadd_lt _ _
theorem tmNext (p : QW) (n : N4) (z o : QW) (i : Int) : roundS Tryz.prog (lookG (tblCc waddQ)) (orcA [(3, [(0, true)])]) [] 10 tmTd (bodyAt Tryz.prog 66 3) (tmInv p n z o i) =
    some (Ex.normal, tmInv p n z (qW (if bitN n ((255 : Int) - i) = BitVec.ofNat 64 0 then waddQ o o else waddQ (qW (waddQ o o)) p)) (i + 1), [decide (i < (256 : Int)) = true, inI64 ((255 : Int) - i), inI64 (i + (1 : Int))]) := by
  refine (tmRound waddQ p n z o i).trans ?_
  by_cases h : bitN n ((255 : Int) - i) = BitVec.ofNat 64 0
  · simp only [h, if_true]
    rfl
  · simp only [h, if_false]
    rfl
theorem bitN_if (n : N4) (j : Nat) (hj : j < 256) : (bitN n ((255 : Int) - (j : Nat)) = BitVec.ofNat 64 0) = (val n / 2 ^ (255 - j) % 2 = 0) := by
  have hi : ((255 : Int) - (j : Nat)).toNat = 255 - j := by omega
  unfold bitN
  rw [if_neg (by omega), hi]
  have h2 : val n / 2 ^ (255 - j) % 2 < 2 := Nat.mod_lt _ (by omega)
  rcases (by omega : val n / 2 ^ (255 - j) % 2 = 0 ∨ val n / 2 ^ (255 - j) % 2 = 1) with e | e <;> rw [e] <;> decide
theorem tmLoop (p : QW) (n : N4) (z : QW) : LoopTo Tryz.prog (bodyAt Tryz.prog 66 3) (tmInv p n z (qW nought4) 0) (.exit 0) (tmInv p n z (qW (wtimes p.w (val n) 256)) ((256 : Nat) : Int)) := by
  refine LoopTo.intro (α := Nat) gsCc fol (fun j => tmInv p n z (qW (wtimes p.w (val n) j)) (j : Nat)) (fun j => j ≤ 256) (fun j => 256 - j) (by simp) ?_ 0 (by simp)
  intro j hj
  by_cases he : j = 256
  · subst he
    exact .inr ⟨_, _, _, _, _, tmExit waddQ p n z _ _, decide_eq_false (by omega), trivial⟩
  · left
    have r0 := tmNext p n z (qW (wtimes p.w (val n) j)) (j : Nat)
    have e1 : ((j : Nat) : Int) + 1 = ((j + 1 : Nat) : Int) := by omega
    have e2 : (if bitN n ((255 : Int) - (j : Nat)) = BitVec.ofNat 64 0 then waddQ (qW (wtimes p.w (val n) j)) (qW (wtimes p.w (val n) j)) else waddQ (qW (waddQ (qW (wtimes p.w (val n) j)) (qW (wtimes p.w (val n) j)))) p) = wtimes p.w (val n) (j + 1) := by
      simp only [bitN_if n j (by omega)]
      unfold waddQ
      rw [qW_w (wtimes_lt _ _ _), qW_w (wadd_lt _ _)]
      rfl
    rw [e1, e2] at r0
    exact ⟨_, _, _, _, _, j + 1, r0, ⟨decide_eq_true (by omega), by unfold inI64; omega, by unfold inI64; omega, trivial⟩, by omega, by omega⟩
def wtimesQ (p : QW) (n : N4) : W4 := wtimes p.w (val n) 256
theorem ctTimesC : CtSOk Tryz.prog 66 (.fn (spTimesG wtimesQ)) := FnS_of_fnS gsCc fol fun ds r cs h hc => by
  unfold spTimesG at h
  split at h
  case h_2 => simp at h
  rename_i a b c d n
  simp only [Option.some.injEq, Prod.mk.injEq] at h
  obtain ⟨rfl, rfl⟩ := h
  have lp := tmLoop ⟨a, b, c, d⟩ n ⟨ofN 0, ofN 0, ofN 0, ofN 0⟩
  have r0 := runTm waddQ a b c d n ⟨a, b, c, d⟩ ⟨ofN 0, ofN 0, ofN 0, ofN 0⟩ (qW (wtimesQ ⟨a, b, c, d⟩ n)) ((256 : Nat) : Int)
  exact use_run r0 rfl ⟨lp, trivial⟩
/-! ### Points -/
def tblCd0 : List (FuncId × CtS) := [(64, .fn spOnC), (65, .fn spWid), (63, .fn (sp1N fNeg))]
theorem okCd0 : TblOk Tryz.prog tblCd0 := ⟨⟨ctOnC, by kernel_rfl⟩, ⟨ctWid, by kernel_rfl⟩, ⟨ctPNeg, by kernel_rfl⟩, trivial⟩
theorem gsCd0 : GSound Tryz.prog (upG (lookG tblCd0)) := GSound_of_tbl okCd0
def tblCd (A : QW → QW → W4) (T : QW → N4 → W4) (v : Nat → Nat) : List (FuncId × CtS) :=
  (67, .fn (spWAddG A)) :: (66, .fn (spTimesG T)) :: (68, .fn (spWPtG v)) :: tblCd0
theorem gsCd : GSound Tryz.prog (upG (lookG (tblCd waddQ wtimesQ fInv))) := GSound_of_tbl ⟨⟨ctWAdd, by kernel_rfl⟩, ⟨ctTimesC, by kernel_rfl⟩, ⟨ctWPt, by kernel_rfl⟩, okCd0⟩
theorem runNegT (A : QW → QW → W4) (T : QW → N4 → W4) (v : Nat → Nat) (x y : N4) : fnS Tryz.prog (lookG (tblCd A T v)) (orcA [(1, [(2, false)])]) [] 10 21 [.val true [.n4 x, .n4 y]] =
    some (AV.tup [(true, [IV.n4 (ofN (fNeg (val x % Pp))), IV.n4 y]), (false, [IV.i64 (0 : Int)])], [(!onV (val x) (val y)) = false]) := by kernel_rfl
theorem runNegP (A : QW → QW → W4) (T : QW → N4 → W4) (v : Nat → Nat) (x y : N4) : fnS Tryz.prog (lookG (tblCd A T v)) (orcA [(1, [(2, true)])]) [] 10 21 [.val true [.n4 x, .n4 y]] =
    some (AV.tup [(true, [IV.n4 (N4.mk (BitVec.ofNat 64 0) (BitVec.ofNat 64 0) (BitVec.ofNat 64 0) (BitVec.ofNat 64 0)), IV.n4 (N4.mk (BitVec.ofNat 64 0) (BitVec.ofNat 64 0) (BitVec.ofNat 64 0) (BitVec.ofNat 64 0))]), (false, [IV.i64 (7 : Int)])], [(!onV (val x) (val y)) = true]) := by kernel_rfl
theorem runMulT (A : QW → QW → W4) (T : QW → N4 → W4) (v : Nat → Nat) (n x y : N4) : fnS Tryz.prog (lookG (tblCd A T v)) (orcA [(1, [(2, false)])]) [] 10 47 [.val true [.n4 n], .val true [.n4 x, .n4 y]] =
    some (AV.tup [(true, [IV.n4 (ofN (fMul (val (ofN (T (QW.mk (qW (w4 (val x) (val y))).x (qW (w4 (val x) (val y))).y (qW (w4 (val x) (val y))).z (qW (w4 (val x) (val y))).t) n).x) % Pp) (v (val (ofN (T (QW.mk (qW (w4 (val x) (val y))).x (qW (w4 (val x) (val y))).y (qW (w4 (val x) (val y))).z (qW (w4 (val x) (val y))).t) n).z) % Pp)))), IV.n4 (ofN (fMul (val (ofN (T (QW.mk (qW (w4 (val x) (val y))).x (qW (w4 (val x) (val y))).y (qW (w4 (val x) (val y))).z (qW (w4 (val x) (val y))).t) n).y) % Pp) (v (val (ofN (T (QW.mk (qW (w4 (val x) (val y))).x (qW (w4 (val x) (val y))).y (qW (w4 (val x) (val y))).z (qW (w4 (val x) (val y))).t) n).z) % Pp))))]), (false, [IV.i64 (0 : Int)])], [(!onV (val x) (val y)) = false, val x < Pp, val y < Pp]) := by kernel_rfl
theorem runMulP (A : QW → QW → W4) (T : QW → N4 → W4) (v : Nat → Nat) (n x y : N4) : fnS Tryz.prog (lookG (tblCd A T v)) (orcA [(1, [(2, true)])]) [] 10 47 [.val true [.n4 n], .val true [.n4 x, .n4 y]] =
    some (AV.tup [(true, [IV.n4 (N4.mk (BitVec.ofNat 64 0) (BitVec.ofNat 64 0) (BitVec.ofNat 64 0) (BitVec.ofNat 64 0)), IV.n4 (N4.mk (BitVec.ofNat 64 0) (BitVec.ofNat 64 0) (BitVec.ofNat 64 0) (BitVec.ofNat 64 0))]), (false, [IV.i64 (7 : Int)])], [(!onV (val x) (val y)) = true]) := by kernel_rfl
theorem runBothT (A : QW → QW → W4) (T : QW → N4 → W4) (v : Nat → Nat) (n x y m x' y' : N4) : fnS Tryz.prog (lookG (tblCd A T v)) (orcA [(1, [(2, false), (6, false)])]) [] 10 22 [.val true [.n4 n], .val true [.n4 x, .n4 y], .val true [.n4 m], .val true [.n4 x', .n4 y']] =
    some (AV.tup [(true, [IV.n4 (ofN (fMul (val (ofN (A (QW.mk (ofN (T (QW.mk (qW (w4 (val x) (val y))).x (qW (w4 (val x) (val y))).y (qW (w4 (val x) (val y))).z (qW (w4 (val x) (val y))).t) n).x) (ofN (T (QW.mk (qW (w4 (val x) (val y))).x (qW (w4 (val x) (val y))).y (qW (w4 (val x) (val y))).z (qW (w4 (val x) (val y))).t) n).y) (ofN (T (QW.mk (qW (w4 (val x) (val y))).x (qW (w4 (val x) (val y))).y (qW (w4 (val x) (val y))).z (qW (w4 (val x) (val y))).t) n).z) (ofN (T (QW.mk (qW (w4 (val x) (val y))).x (qW (w4 (val x) (val y))).y (qW (w4 (val x) (val y))).z (qW (w4 (val x) (val y))).t) n).t)) (QW.mk (ofN (T (QW.mk (qW (w4 (val x') (val y'))).x (qW (w4 (val x') (val y'))).y (qW (w4 (val x') (val y'))).z (qW (w4 (val x') (val y'))).t) m).x) (ofN (T (QW.mk (qW (w4 (val x') (val y'))).x (qW (w4 (val x') (val y'))).y (qW (w4 (val x') (val y'))).z (qW (w4 (val x') (val y'))).t) m).y) (ofN (T (QW.mk (qW (w4 (val x') (val y'))).x (qW (w4 (val x') (val y'))).y (qW (w4 (val x') (val y'))).z (qW (w4 (val x') (val y'))).t) m).z) (ofN (T (QW.mk (qW (w4 (val x') (val y'))).x (qW (w4 (val x') (val y'))).y (qW (w4 (val x') (val y'))).z (qW (w4 (val x') (val y'))).t) m).t))).x) % Pp) (v (val (ofN (A (QW.mk (ofN (T (QW.mk (qW (w4 (val x) (val y))).x (qW (w4 (val x) (val y))).y (qW (w4 (val x) (val y))).z (qW (w4 (val x) (val y))).t) n).x) (ofN (T (QW.mk (qW (w4 (val x) (val y))).x (qW (w4 (val x) (val y))).y (qW (w4 (val x) (val y))).z (qW (w4 (val x) (val y))).t) n).y) (ofN (T (QW.mk (qW (w4 (val x) (val y))).x (qW (w4 (val x) (val y))).y (qW (w4 (val x) (val y))).z (qW (w4 (val x) (val y))).t) n).z) (ofN (T (QW.mk (qW (w4 (val x) (val y))).x (qW (w4 (val x) (val y))).y (qW (w4 (val x) (val y))).z (qW (w4 (val x) (val y))).t) n).t)) (QW.mk (ofN (T (QW.mk (qW (w4 (val x') (val y'))).x (qW (w4 (val x') (val y'))).y (qW (w4 (val x') (val y'))).z (qW (w4 (val x') (val y'))).t) m).x) (ofN (T (QW.mk (qW (w4 (val x') (val y'))).x (qW (w4 (val x') (val y'))).y (qW (w4 (val x') (val y'))).z (qW (w4 (val x') (val y'))).t) m).y) (ofN (T (QW.mk (qW (w4 (val x') (val y'))).x (qW (w4 (val x') (val y'))).y (qW (w4 (val x') (val y'))).z (qW (w4 (val x') (val y'))).t) m).z) (ofN (T (QW.mk (qW (w4 (val x') (val y'))).x (qW (w4 (val x') (val y'))).y (qW (w4 (val x') (val y'))).z (qW (w4 (val x') (val y'))).t) m).t))).z) % Pp)))), IV.n4 (ofN (fMul (val (ofN (A (QW.mk (ofN (T (QW.mk (qW (w4 (val x) (val y))).x (qW (w4 (val x) (val y))).y (qW (w4 (val x) (val y))).z (qW (w4 (val x) (val y))).t) n).x) (ofN (T (QW.mk (qW (w4 (val x) (val y))).x (qW (w4 (val x) (val y))).y (qW (w4 (val x) (val y))).z (qW (w4 (val x) (val y))).t) n).y) (ofN (T (QW.mk (qW (w4 (val x) (val y))).x (qW (w4 (val x) (val y))).y (qW (w4 (val x) (val y))).z (qW (w4 (val x) (val y))).t) n).z) (ofN (T (QW.mk (qW (w4 (val x) (val y))).x (qW (w4 (val x) (val y))).y (qW (w4 (val x) (val y))).z (qW (w4 (val x) (val y))).t) n).t)) (QW.mk (ofN (T (QW.mk (qW (w4 (val x') (val y'))).x (qW (w4 (val x') (val y'))).y (qW (w4 (val x') (val y'))).z (qW (w4 (val x') (val y'))).t) m).x) (ofN (T (QW.mk (qW (w4 (val x') (val y'))).x (qW (w4 (val x') (val y'))).y (qW (w4 (val x') (val y'))).z (qW (w4 (val x') (val y'))).t) m).y) (ofN (T (QW.mk (qW (w4 (val x') (val y'))).x (qW (w4 (val x') (val y'))).y (qW (w4 (val x') (val y'))).z (qW (w4 (val x') (val y'))).t) m).z) (ofN (T (QW.mk (qW (w4 (val x') (val y'))).x (qW (w4 (val x') (val y'))).y (qW (w4 (val x') (val y'))).z (qW (w4 (val x') (val y'))).t) m).t))).y) % Pp) (v (val (ofN (A (QW.mk (ofN (T (QW.mk (qW (w4 (val x) (val y))).x (qW (w4 (val x) (val y))).y (qW (w4 (val x) (val y))).z (qW (w4 (val x) (val y))).t) n).x) (ofN (T (QW.mk (qW (w4 (val x) (val y))).x (qW (w4 (val x) (val y))).y (qW (w4 (val x) (val y))).z (qW (w4 (val x) (val y))).t) n).y) (ofN (T (QW.mk (qW (w4 (val x) (val y))).x (qW (w4 (val x) (val y))).y (qW (w4 (val x) (val y))).z (qW (w4 (val x) (val y))).t) n).z) (ofN (T (QW.mk (qW (w4 (val x) (val y))).x (qW (w4 (val x) (val y))).y (qW (w4 (val x) (val y))).z (qW (w4 (val x) (val y))).t) n).t)) (QW.mk (ofN (T (QW.mk (qW (w4 (val x') (val y'))).x (qW (w4 (val x') (val y'))).y (qW (w4 (val x') (val y'))).z (qW (w4 (val x') (val y'))).t) m).x) (ofN (T (QW.mk (qW (w4 (val x') (val y'))).x (qW (w4 (val x') (val y'))).y (qW (w4 (val x') (val y'))).z (qW (w4 (val x') (val y'))).t) m).y) (ofN (T (QW.mk (qW (w4 (val x') (val y'))).x (qW (w4 (val x') (val y'))).y (qW (w4 (val x') (val y'))).z (qW (w4 (val x') (val y'))).t) m).z) (ofN (T (QW.mk (qW (w4 (val x') (val y'))).x (qW (w4 (val x') (val y'))).y (qW (w4 (val x') (val y'))).z (qW (w4 (val x') (val y'))).t) m).t))).z) % Pp))))]), (false, [IV.i64 (0 : Int)])], [(!onV (val x) (val y)) = false, (!onV (val x') (val y')) = false, val x < Pp, val y < Pp, val x' < Pp, val y' < Pp]) := by kernel_rfl
theorem runBothP (A : QW → QW → W4) (T : QW → N4 → W4) (v : Nat → Nat) (n x y m x' y' : N4) : fnS Tryz.prog (lookG (tblCd A T v)) (orcA [(1, [(2, true)])]) [] 10 22 [.val true [.n4 n], .val true [.n4 x, .n4 y], .val true [.n4 m], .val true [.n4 x', .n4 y']] =
    some (AV.tup [(true, [IV.n4 (N4.mk (BitVec.ofNat 64 0) (BitVec.ofNat 64 0) (BitVec.ofNat 64 0) (BitVec.ofNat 64 0)), IV.n4 (N4.mk (BitVec.ofNat 64 0) (BitVec.ofNat 64 0) (BitVec.ofNat 64 0) (BitVec.ofNat 64 0))]), (false, [IV.i64 (7 : Int)])], [(!onV (val x) (val y)) = true]) := by kernel_rfl
theorem runBothQ (A : QW → QW → W4) (T : QW → N4 → W4) (v : Nat → Nat) (n x y m x' y' : N4) : fnS Tryz.prog (lookG (tblCd A T v)) (orcA [(1, [(2, false), (6, true)])]) [] 10 22 [.val true [.n4 n], .val true [.n4 x, .n4 y], .val true [.n4 m], .val true [.n4 x', .n4 y']] =
    some (AV.tup [(true, [IV.n4 (N4.mk (BitVec.ofNat 64 0) (BitVec.ofNat 64 0) (BitVec.ofNat 64 0) (BitVec.ofNat 64 0)), IV.n4 (N4.mk (BitVec.ofNat 64 0) (BitVec.ofNat 64 0) (BitVec.ofNat 64 0) (BitVec.ofNat 64 0))]), (false, [IV.i64 (7 : Int)])], [(!onV (val x) (val y)) = false, (!onV (val x') (val y')) = true]) := by kernel_rfl
/-- The point of two numbers. -/
def ptV (x y : N4) (h : onV (val x) (val y) = true) : Pt Ed := ptN (val x) (val y) (onV_iff.1 h).2.2
/-- A point's two numbers, and no error; or none. -/
structure PR where
  x : N4
  y : N4
  e : Int
def prP (P : Pt Ed) : PR := ⟨ofN P.x.val, ofN P.y.val, 0⟩
def prE (e : Int) : PR := ⟨ofN 0, ofN 0, e⟩
def negR (x y : N4) : PR := if h : onV (val x) (val y) = true then prP (ptV x y h).neg else prE 7
def multR (n x y : N4) : PR := if h : onV (val x) (val y) = true then prP (Pt.times (val n) (ptV x y h)) else prE 7
def bothR (n x y m x' y' : N4) : PR := if h : onV (val x) (val y) = true then if h' : onV (val x') (val y') = true then prP ((Pt.times (val n) (ptV x y h)).add (Pt.times (val m) (ptV x' y' h'))) else prE 7 else prE 7
theorem ptV_R4 {x y : N4} (h : onV (val x) (val y) = true) : R4 (ptV x y h) (w4 (val x) (val y)) := by
  obtain ⟨h1, h2, h3⟩ := onV_iff.1 h
  exact R4.of h1 h2 h3
theorem val256 (n : N4) : val n < 2 ^ 256 := by
  have := val_lt n
  exact this
/-- What four numbers tell of a point. -/
theorem out_R4 {P : Pt Ed} {w : W4} (h : R4 P w) : (⟨ofN (fMul (val (ofN w.x) % Pp) (fInv (val (ofN w.z) % Pp))), ofN (fMul (val (ofN w.y) % Pp) (fInv (val (ofN w.z) % Pp))), 0⟩ : PR) = prP P := by
  obtain ⟨l1, l2, l3, l4⟩ := h.1
  obtain ⟨p1, p2⟩ := h.point
  rw [val_lo l1, val_lo l2, val_lo l3, Nat.mod_eq_of_lt l1, Nat.mod_eq_of_lt l2, Nat.mod_eq_of_lt l3, p1, p2]
  rfl
theorem bnT {b : Bool} (h : b = true) : (!b) = false := by rw [h]; rfl
theorem bnF {b : Bool} (h : ¬ b = true) : (!b) = true := by cases b <;> simp_all
theorem waddQ_R4 {P Q : Pt Ed} {p q : QW} (hp : R4 P p.w) (hq : R4 Q q.w) : R4 (P.add Q) (waddQ p q) := hp.add hq
theorem wtimesQ_R4 {P : Pt Ed} {p : QW} (hp : R4 P p.w) (n : N4) : R4 (Pt.times (val n) P) (wtimesQ p n) := hp.mult (val n) (val256 n)
theorem qR4 {P : Pt Ed} {w : W4} (h : R4 P w) : R4 P (qW w).w := by rw [qW_w h.1]; exact h
def spNegCG (G : N4 → N4 → PR) : List AV → Option (AV × List Prop)
  | [.val true [.n4 x, .n4 y]] => some (.tup [(true, [.n4 (G x y).x, .n4 (G x y).y]), (false, [.i64 (G x y).e])], [])
  | _ => none
def spMulCG (G : N4 → N4 → N4 → PR) : List AV → Option (AV × List Prop)
  | [.val true [.n4 n], .val true [.n4 x, .n4 y]] => some (.tup [(true, [.n4 (G n x y).x, .n4 (G n x y).y]), (false, [.i64 (G n x y).e])], [])
  | _ => none
def spBothCG (G : N4 → N4 → N4 → N4 → N4 → N4 → PR) : List AV → Option (AV × List Prop)
  | [.val true [.n4 n], .val true [.n4 x, .n4 y], .val true [.n4 m], .val true [.n4 x', .n4 y']] => some (.tup [(true, [.n4 (G n x y m x' y').x, .n4 (G n x y m x' y').y]), (false, [.i64 (G n x y m x' y').e])], [])
  | _ => none
theorem ctNegC : CtSOk Tryz.prog 21 (.fn (spNegCG negR)) := FnS_of_fnS gsCd fol fun ds r cs h hc => by
  unfold spNegCG at h
  split at h
  case h_2 => simp at h
  rename_i x y
  simp only [Option.some.injEq, Prod.mk.injEq] at h
  obtain ⟨rfl, rfl⟩ := h
  by_cases h : onV (val x) (val y) = true
  · obtain ⟨a1, a2, _⟩ := onV_iff.1 h
    have e : negR x y = prP (ptV x y h).neg := by rw [negR, dif_pos h]
    refine use_run (runNegT waddQ wtimesQ fInv x y) ?_ ⟨bnT h, trivial⟩
    have e1 : (ptV x y h).neg.x.val = fNeg (val x % Pp) := by
      show (-(tF (val x))).val = _
      rw [← tF_neg a1, val_tF (fNeg_lt _), Nat.mod_eq_of_lt a1]
    have e2 : ofN (ptV x y h).neg.y.val = y := by
      show ofN (tF (val y)).val = y
      rw [val_tF a2, ofN_val]
    rw [e]
    unfold prP
    rw [e1, e2]
  · have e : negR x y = prE 7 := by rw [negR, dif_neg h]
    exact use_run (runNegP waddQ wtimesQ fInv x y) (by rw [e]; rfl) ⟨bnF h, trivial⟩
theorem ctMulC : CtSOk Tryz.prog 47 (.fn (spMulCG multR)) := FnS_of_fnS gsCd fol fun ds r cs h hc => by
  unfold spMulCG at h
  split at h
  case h_2 => simp at h
  rename_i n x y
  simp only [Option.some.injEq, Prod.mk.injEq] at h
  obtain ⟨rfl, rfl⟩ := h
  by_cases h : onV (val x) (val y) = true
  · obtain ⟨a1, a2, _⟩ := onV_iff.1 h
    have hR := wtimesQ_R4 (qR4 (ptV_R4 h)) n
    have e : multR n x y = prP (Pt.times (val n) (ptV x y h)) := by rw [multR, dif_pos h]
    refine use_run (runMulT waddQ wtimesQ fInv n x y) ?_ ⟨bnT h, a1, a2, trivial⟩
    rw [e, ← out_R4 hR] <;> rfl
  · have e : multR n x y = prE 7 := by rw [multR, dif_neg h]
    exact use_run (runMulP waddQ wtimesQ fInv n x y) (by rw [e]; rfl) ⟨bnF h, trivial⟩
theorem ctBothC : CtSOk Tryz.prog 22 (.fn (spBothCG bothR)) := FnS_of_fnS gsCd fol fun ds r cs h hc => by
  unfold spBothCG at h
  split at h
  case h_2 => simp at h
  rename_i n x y m x' y'
  simp only [Option.some.injEq, Prod.mk.injEq] at h
  obtain ⟨rfl, rfl⟩ := h
  by_cases h : onV (val x) (val y) = true
  · by_cases h' : onV (val x') (val y') = true
    · obtain ⟨a1, a2, _⟩ := onV_iff.1 h
      obtain ⟨b1, b2, _⟩ := onV_iff.1 h'
      have hR := waddQ_R4 (qR4 (wtimesQ_R4 (qR4 (ptV_R4 h)) n)) (qR4 (wtimesQ_R4 (qR4 (ptV_R4 h')) m))
      have e : bothR n x y m x' y' = prP ((Pt.times (val n) (ptV x y h)).add (Pt.times (val m) (ptV x' y' h'))) := by rw [bothR, dif_pos h, dif_pos h']
      refine use_run (runBothT waddQ wtimesQ fInv n x y m x' y') ?_ ⟨bnT h, bnT h', a1, a2, b1, b2, trivial⟩
      rw [e, ← out_R4 hR] <;> rfl
    · have e : bothR n x y m x' y' = prE 7 := by rw [bothR, dif_pos h, dif_neg h']
      exact use_run (runBothQ waddQ wtimesQ fInv n x y m x' y') (by rw [e]; rfl) ⟨bnT h, bnF h', trivial⟩
  · have e : bothR n x y m x' y' = prE 7 := by rw [bothR, dif_neg h]
    exact use_run (runBothP waddQ wtimesQ fInv n x y m x' y') (by rw [e]; rfl) ⟨bnF h, trivial⟩
/-! ### Small points -/
def tblCe (M : N4 → N4 → N4 → PR) : List (FuncId × CtS) :=
  (47, .fn (spMulCG M)) :: []
theorem gsCe : GSound Tryz.prog (upG (lookG (tblCe multR))) := GSound_of_tbl ⟨⟨ctMulC, by kernel_rfl⟩, trivial⟩
theorem runSmT (M : N4 → N4 → N4 → PR) (x y : N4) : fnS Tryz.prog (lookG (tblCe M)) (orcA [(2, [(1, true)])]) [] 10 20 [.val true [.n4 x, .n4 y]] =
    some (sc (IV.bool ((M ((N4.mk (BitVec.ofInt 64 (0 : Int)) (BitVec.ofInt 64 (0 : Int)) (BitVec.ofInt 64 (0 : Int)) (BitVec.ofInt 64 (0 : Int))).set ((0, Operand.const (Value.int IntKind.u64 (8 : Int))).fst * Tryz.prog.types[33].size) (BitVec.ofInt 64 (8 : Int))) x y).x.eq (N4.mk (BitVec.ofNat 64 0) (BitVec.ofNat 64 0) (BitVec.ofNat 64 0) (BitVec.ofNat 64 0)) && ((M ((N4.mk (BitVec.ofInt 64 (0 : Int)) (BitVec.ofInt 64 (0 : Int)) (BitVec.ofInt 64 (0 : Int)) (BitVec.ofInt 64 (0 : Int))).set ((0, Operand.const (Value.int IntKind.u64 (8 : Int))).fst * Tryz.prog.types[33].size) (BitVec.ofInt 64 (8 : Int))) x y).y.eq (N4.mk (BitVec.ofNat 64 1) (BitVec.ofNat 64 0) (BitVec.ofNat 64 0) (BitVec.ofNat 64 0)) && true))), [((M ((N4.mk (BitVec.ofInt 64 (0 : Int)) (BitVec.ofInt 64 (0 : Int)) (BitVec.ofInt 64 (0 : Int)) (BitVec.ofInt 64 (0 : Int))).set ((0, Operand.const (Value.int IntKind.u64 (8 : Int))).fst * Tryz.prog.types[33].size) (BitVec.ofInt 64 (8 : Int))) x y).e == (0 : Int)) = true]) := by kernel_rfl
theorem runSmF (M : N4 → N4 → N4 → PR) (x y : N4) : fnS Tryz.prog (lookG (tblCe M)) (orcA [(2, [(1, false)])]) [] 10 20 [.val true [.n4 x, .n4 y]] =
    some (sc (IV.bool false), [((M ((N4.mk (BitVec.ofInt 64 (0 : Int)) (BitVec.ofInt 64 (0 : Int)) (BitVec.ofInt 64 (0 : Int)) (BitVec.ofInt 64 (0 : Int))).set ((0, Operand.const (Value.int IntKind.u64 (8 : Int))).fst * Tryz.prog.types[33].size) (BitVec.ofInt 64 (8 : Int))) x y).e == (0 : Int)) = false]) := by kernel_rfl
def eightN : N4 := ⟨8#64, 0#64, 0#64, 0#64⟩
theorem eight_eq : (N4.mk (BitVec.ofInt 64 (0 : Int)) (BitVec.ofInt 64 (0 : Int)) (BitVec.ofInt 64 (0 : Int)) (BitVec.ofInt 64 (0 : Int))).set ((0, Operand.const (Value.int IntKind.u64 (8 : Int))).fst * Tryz.prog.types[33].size) (BitVec.ofInt 64 (8 : Int)) = eightN := by kernel_rfl
def smallM (M : N4 → N4 → N4 → PR) (x y : N4) : Bool := ((M eightN x y).e == 0) && ((M eightN x y).x.eq (ofN 0) && ((M eightN x y).y.eq (ofN 1) && true))
def smallR : N4 → N4 → Bool := smallM multR
def spSmG (s : N4 → N4 → Bool) : List AV → Option (AV × List Prop)
  | [.val true [.n4 x, .n4 y]] => some (sc (.bool (s x y)), [])
  | _ => none
theorem ctSmallC : CtSOk Tryz.prog 20 (.fn (spSmG smallR)) := FnS_of_fnS gsCe fol fun ds r cs h hc => by
  unfold spSmG at h
  split at h
  case h_2 => simp at h
  rename_i x y
  simp only [Option.some.injEq, Prod.mk.injEq] at h
  obtain ⟨rfl, rfl⟩ := h
  by_cases h : (multR eightN x y).e = 0
  · have r0 := runSmT multR x y
    rw [eight_eq] at r0
    refine use_run r0 ?_ ⟨by rw [h]; rfl, trivial⟩
    unfold smallR smallM
    rw [h]
    rfl
  · have r0 := runSmF multR x y
    rw [eight_eq] at r0
    refine use_run r0 ?_ ⟨beq_eq_false_iff_ne.2 h, trivial⟩
    unfold smallR smallM
    rw [beq_eq_false_iff_ne.2 h]
    rfl
end Go.Proofs.YtlgiaglbdifkpaaGreatDoor
/- Contracts of layer 8: the program's points as bytes. Own work. -/
namespace Go.Proofs.YtlgiaglbdifkpaaGreatDoor
open Go.Ev Go.Sp Go.RowKit
set_option maxRecDepth 100000
abbrev BL := List (BitVec 8)
def tblCf0 : List (FuncId × CtS) := [(64, .fn spOnC), (94, .fn spPEnc), (46, .fn spFrom), (62, .fn spPick), (61, .fn spCD), (60, .fn (sp2N fAdd)), (58, .fn (sp2N fSub)), (56, .fn (sp2N fMul)), (63, .fn (sp1N fNeg)), (55, .fn spRight)]
theorem okCf0 : TblOk Tryz.prog tblCf0 := ⟨⟨ctOnC, by kernel_rfl⟩, ⟨ctPEnc, by kernel_rfl⟩, ⟨ctFrom, by kernel_rfl⟩, ⟨ctPick, by kernel_rfl⟩, ⟨ctCD, by kernel_rfl⟩, ⟨ctPAdd, by kernel_rfl⟩, ⟨ctPSub, by kernel_rfl⟩, ⟨ctPMul, by kernel_rfl⟩, ⟨ctPNeg, by kernel_rfl⟩, ⟨ctRight, by kernel_rfl⟩, trivial⟩
theorem gsCf0 : GSound Tryz.prog (upG (lookG tblCf0)) := GSound_of_tbl okCf0
def spPRtG (g : Nat → Nat × Bool) : List AV → Option (AV × List Prop)
  | [.val true [.n4 a]] => some (.tup [(true, [.n4 (ofN (g (val a % Pp)).1)]), (false, [.bool (g (val a % Pp)).2])], [])
  | _ => none
def tblCf (g : Nat → Nat × Bool) (v : Nat → Nat) : List (FuncId × CtS) :=
  (57, .fn (spPRtG g)) :: (59, .fn (sp1N v)) :: tblCf0
theorem gsCf : GSound Tryz.prog (upG (lookG (tblCf prV fInv))) := GSound_of_tbl ⟨⟨ctPRt, by kernel_rfl⟩, ⟨ctPInv, by kernel_rfl⟩, okCf0⟩
theorem runEncT (g : Nat → Nat × Bool) (v : Nat → Nat) (x y : N4) : fnS Tryz.prog (lookG (tblCf g v)) (orcA [(1, [(2, false)])]) [] 10 48 [.val true [.n4 x, .n4 y]] =
    some (AV.tup [(false, [IV.d8 (cutL ((bl (val y % Pp) 32).set 31 ((bl (val y % Pp) 32).getD 31 (BitVec.ofNat 8 0) ||| BitVec.setWidth 8 (x.get 0 &&& BitVec.ofNat 64 1) <<< 7)) 0 (bl (val y % Pp) 32).length (bl (val y % Pp) 32).length)]), (false, [IV.i64 (0 : Int)])], [(!onV (val x) (val y)) = false, (0 : Int) ≤ (31 : Int), 31 < (bl (val y % Pp) 32).length, 31 < (bl (val y % Pp) 32).length, (0 : Int) ≤ (0 : Int), 0 < 4, 0 < 8, (0 : Int) ≤ (31 : Int), 31 < (bl (val y % Pp) 32).length, 31 < (bl (val y % Pp) 32).length, 0 + (bl (val y % Pp) 32).length ≤ (bl (val y % Pp) 32).length]) := by kernel_rfl
theorem runEncF (g : Nat → Nat × Bool) (v : Nat → Nat) (x y : N4) : fnS Tryz.prog (lookG (tblCf g v)) (orcA [(1, [(2, true)])]) [] 10 48 [.val true [.n4 x, .n4 y]] =
    some (AV.tup [(false, [IV.d8 (cutL [] 0 0 0)]), (false, [IV.i64 (7 : Int)])], [(!onV (val x) (val y)) = true, 0 ≤ 0]) := by kernel_rfl
theorem runDecL (g : Nat → Nat × Bool) (v : Nat → Nat) (b : BL) : fnS Tryz.prog (lookG (tblCf g v)) (orcA [(1, [(2, true)])]) [] 10 19 [sc (.d8 b)] =
    some (AV.tup [(true, [IV.n4 (N4.mk (BitVec.ofNat 64 0) (BitVec.ofNat 64 0) (BitVec.ofNat 64 0) (BitVec.ofNat 64 0)), IV.n4 (N4.mk (BitVec.ofNat 64 0) (BitVec.ofNat 64 0) (BitVec.ofNat 64 0) (BitVec.ofNat 64 0))]), (false, [IV.i64 (1 : Int)])], [(!(↑(List.length b) : Int) == (32 : Int)) = true]) := by kernel_rfl
theorem runDecR (g : Nat → Nat × Bool) (v : Nat → Nat) (b : BL) : fnS Tryz.prog (lookG (tblCf g v)) (orcA [(1, [(2, false)]), (6, [(2, true)])]) [] 10 19 [sc (.d8 b)] =
    some (AV.tup [(true, [IV.n4 (N4.mk (BitVec.ofNat 64 0) (BitVec.ofNat 64 0) (BitVec.ofNat 64 0) (BitVec.ofNat 64 0)), IV.n4 (N4.mk (BitVec.ofNat 64 0) (BitVec.ofNat 64 0) (BitVec.ofNat 64 0) (BitVec.ofNat 64 0))]), (false, [IV.i64 (6 : Int)])], [(!(↑(List.length b) : Int) == (32 : Int)) = false, List.length b = List.length b, (0 : Int) ≤ (3 : Int), 3 < 4, 3 < 4, (0 : Int) ≤ (3 : Int), 3 < 4, 3 < 4, (0 : Int) ≤ (3 : Int), 3 < 4, 3 < 4, (!decide (val ((fromV b).fst.set 3 ((fromV b).fst.get 3 &&& BitVec.ofNat 64 9223372036854775807)) < Pp)) = true]) := by kernel_rfl
theorem runDecN (g : Nat → Nat × Bool) (v : Nat → Nat) (b : BL) : fnS Tryz.prog (lookG (tblCf g v)) (orcA [(1, [(2, false)]), (6, [(2, false)]), (10, [(1, true)])]) [] 10 19 [sc (.d8 b)] =
    some (AV.tup [(true, [IV.n4 (N4.mk (BitVec.ofNat 64 0) (BitVec.ofNat 64 0) (BitVec.ofNat 64 0) (BitVec.ofNat 64 0)), IV.n4 (N4.mk (BitVec.ofNat 64 0) (BitVec.ofNat 64 0) (BitVec.ofNat 64 0) (BitVec.ofNat 64 0))]), (false, [IV.i64 (7 : Int)])], [(!(↑(List.length b) : Int) == (32 : Int)) = false, List.length b = List.length b, (0 : Int) ≤ (3 : Int), 3 < 4, 3 < 4, (0 : Int) ≤ (3 : Int), 3 < 4, 3 < 4, (0 : Int) ≤ (3 : Int), 3 < 4, 3 < 4, (!decide (val ((fromV b).fst.set 3 ((fromV b).fst.get 3 &&& BitVec.ofNat 64 9223372036854775807)) < Pp)) = false, (!(g (val (ofN (fMul (val (ofN (fSub (val (ofN (fMul (val ((fromV b).fst.set (0 + Int.toNat (3 : Int) * (fun x => x.size) Tryz.prog.types[33]) ((fromV b).fst.get (0 + Int.toNat (3 : Int) * (fun x => x.size) Tryz.prog.types[33]) &&& BitVec.ofInt 64 (9223372036854775807 : Int))) % Pp) (val ((fromV b).fst.set (0 + Int.toNat (3 : Int) * (fun x => x.size) Tryz.prog.types[33]) ((fromV b).fst.get (0 + Int.toNat (3 : Int) * (fun x => x.size) Tryz.prog.types[33]) &&& BitVec.ofInt 64 (9223372036854775807 : Int))) % Pp))) % Pp) (val ((N4.mk (BitVec.ofInt 64 (0 : Int)) (BitVec.ofInt 64 (0 : Int)) (BitVec.ofInt 64 (0 : Int)) (BitVec.ofInt 64 (0 : Int))).set ((0, Operand.const (Value.int IntKind.u64 (1 : Int))).fst * Tryz.prog.types[33].size) (BitVec.ofInt 64 (1 : Int))) % Pp))) % Pp) (val (ofN (v (val (ofN (fAdd (val ((N4.mk (BitVec.ofInt 64 (0 : Int)) (BitVec.ofInt 64 (0 : Int)) (BitVec.ofInt 64 (0 : Int)) (BitVec.ofInt 64 (0 : Int))).set ((0, Operand.const (Value.int IntKind.u64 (1 : Int))).fst * Tryz.prog.types[33].size) (BitVec.ofInt 64 (1 : Int))) % Pp) (val (ofN (fMul (val (ofN dN) % Pp) (val (ofN (fMul (val ((fromV b).fst.set (0 + Int.toNat (3 : Int) * (fun x => x.size) Tryz.prog.types[33]) ((fromV b).fst.get (0 + Int.toNat (3 : Int) * (fun x => x.size) Tryz.prog.types[33]) &&& BitVec.ofInt 64 (9223372036854775807 : Int))) % Pp) (val ((fromV b).fst.set (0 + Int.toNat (3 : Int) * (fun x => x.size) Tryz.prog.types[33]) ((fromV b).fst.get (0 + Int.toNat (3 : Int) * (fun x => x.size) Tryz.prog.types[33]) &&& BitVec.ofInt 64 (9223372036854775807 : Int))) % Pp))) % Pp))) % Pp))) % Pp))) % Pp))) % Pp)).snd) = true]) := by kernel_rfl
theorem runDecZ (g : Nat → Nat × Bool) (v : Nat → Nat) (b : BL) : fnS Tryz.prog (lookG (tblCf g v)) (orcA [(1, [(2, false)]), (6, [(2, false)]), (10, [(1, false), (5, true), (8, true)])]) [] 10 19 [sc (.d8 b)] =
    some (AV.tup [(true, [IV.n4 (N4.mk (BitVec.ofNat 64 0) (BitVec.ofNat 64 0) (BitVec.ofNat 64 0) (BitVec.ofNat 64 0)), IV.n4 (N4.mk (BitVec.ofNat 64 0) (BitVec.ofNat 64 0) (BitVec.ofNat 64 0) (BitVec.ofNat 64 0))]), (false, [IV.i64 (7 : Int)])], [(!(↑(List.length b) : Int) == (32 : Int)) = false, List.length b = List.length b, (0 : Int) ≤ (3 : Int), 3 < 4, 3 < 4, (0 : Int) ≤ (3 : Int), 3 < 4, 3 < 4, (0 : Int) ≤ (3 : Int), 3 < 4, 3 < 4, (!decide (val ((fromV b).fst.set 3 ((fromV b).fst.get 3 &&& BitVec.ofNat 64 9223372036854775807)) < Pp)) = false, (!(g (val (ofN (fMul (val (ofN (fSub (val (ofN (fMul (val ((fromV b).fst.set (0 + Int.toNat (3 : Int) * (fun x => x.size) Tryz.prog.types[33]) ((fromV b).fst.get (0 + Int.toNat (3 : Int) * (fun x => x.size) Tryz.prog.types[33]) &&& BitVec.ofInt 64 (9223372036854775807 : Int))) % Pp) (val ((fromV b).fst.set (0 + Int.toNat (3 : Int) * (fun x => x.size) Tryz.prog.types[33]) ((fromV b).fst.get (0 + Int.toNat (3 : Int) * (fun x => x.size) Tryz.prog.types[33]) &&& BitVec.ofInt 64 (9223372036854775807 : Int))) % Pp))) % Pp) (val ((N4.mk (BitVec.ofInt 64 (0 : Int)) (BitVec.ofInt 64 (0 : Int)) (BitVec.ofInt 64 (0 : Int)) (BitVec.ofInt 64 (0 : Int))).set ((0, Operand.const (Value.int IntKind.u64 (1 : Int))).fst * Tryz.prog.types[33].size) (BitVec.ofInt 64 (1 : Int))) % Pp))) % Pp) (val (ofN (v (val (ofN (fAdd (val ((N4.mk (BitVec.ofInt 64 (0 : Int)) (BitVec.ofInt 64 (0 : Int)) (BitVec.ofInt 64 (0 : Int)) (BitVec.ofInt 64 (0 : Int))).set ((0, Operand.const (Value.int IntKind.u64 (1 : Int))).fst * Tryz.prog.types[33].size) (BitVec.ofInt 64 (1 : Int))) % Pp) (val (ofN (fMul (val (ofN dN) % Pp) (val (ofN (fMul (val ((fromV b).fst.set (0 + Int.toNat (3 : Int) * (fun x => x.size) Tryz.prog.types[33]) ((fromV b).fst.get (0 + Int.toNat (3 : Int) * (fun x => x.size) Tryz.prog.types[33]) &&& BitVec.ofInt 64 (9223372036854775807 : Int))) % Pp) (val ((fromV b).fst.set (0 + Int.toNat (3 : Int) * (fun x => x.size) Tryz.prog.types[33]) ((fromV b).fst.get (0 + Int.toNat (3 : Int) * (fun x => x.size) Tryz.prog.types[33]) &&& BitVec.ofInt 64 (9223372036854775807 : Int))) % Pp))) % Pp))) % Pp))) % Pp))) % Pp))) % Pp)).snd) = false, ((ofN (g (val (ofN (fMul (val (ofN (fSub (val (ofN (fMul (val ((fromV b).fst.set (0 + Int.toNat (3 : Int) * (fun x => x.size) Tryz.prog.types[33]) ((fromV b).fst.get (0 + Int.toNat (3 : Int) * (fun x => x.size) Tryz.prog.types[33]) &&& BitVec.ofInt 64 (9223372036854775807 : Int))) % Pp) (val ((fromV b).fst.set (0 + Int.toNat (3 : Int) * (fun x => x.size) Tryz.prog.types[33]) ((fromV b).fst.get (0 + Int.toNat (3 : Int) * (fun x => x.size) Tryz.prog.types[33]) &&& BitVec.ofInt 64 (9223372036854775807 : Int))) % Pp))) % Pp) (val ((N4.mk (BitVec.ofInt 64 (0 : Int)) (BitVec.ofInt 64 (0 : Int)) (BitVec.ofInt 64 (0 : Int)) (BitVec.ofInt 64 (0 : Int))).set ((0, Operand.const (Value.int IntKind.u64 (1 : Int))).fst * Tryz.prog.types[33].size) (BitVec.ofInt 64 (1 : Int))) % Pp))) % Pp) (val (ofN (v (val (ofN (fAdd (val ((N4.mk (BitVec.ofInt 64 (0 : Int)) (BitVec.ofInt 64 (0 : Int)) (BitVec.ofInt 64 (0 : Int)) (BitVec.ofInt 64 (0 : Int))).set ((0, Operand.const (Value.int IntKind.u64 (1 : Int))).fst * Tryz.prog.types[33].size) (BitVec.ofInt 64 (1 : Int))) % Pp) (val (ofN (fMul (val (ofN dN) % Pp) (val (ofN (fMul (val ((fromV b).fst.set (0 + Int.toNat (3 : Int) * (fun x => x.size) Tryz.prog.types[33]) ((fromV b).fst.get (0 + Int.toNat (3 : Int) * (fun x => x.size) Tryz.prog.types[33]) &&& BitVec.ofInt 64 (9223372036854775807 : Int))) % Pp) (val ((fromV b).fst.set (0 + Int.toNat (3 : Int) * (fun x => x.size) Tryz.prog.types[33]) ((fromV b).fst.get (0 + Int.toNat (3 : Int) * (fun x => x.size) Tryz.prog.types[33]) &&& BitVec.ofInt 64 (9223372036854775807 : Int))) % Pp))) % Pp))) % Pp))) % Pp))) % Pp))) % Pp)).fst).eq (N4.mk (BitVec.ofNat 64 0) (BitVec.ofNat 64 0) (BitVec.ofNat 64 0) (BitVec.ofNat 64 0)) && true) = true, ((fromV b).fst.get 3 >>> 63 == BitVec.ofNat 64 1) = true]) := by kernel_rfl
theorem runDecY (g : Nat → Nat × Bool) (v : Nat → Nat) (b : BL) : fnS Tryz.prog (lookG (tblCf g v)) (orcA [(1, [(2, false)]), (6, [(2, false)]), (10, [(1, false), (5, true), (8, false)])]) [] 10 19 [sc (.d8 b)] =
    some (AV.tup [(true, [IV.n4 (if (fromV b).fst.get 3 >>> 63 = BitVec.ofNat 64 0 then ofN (g (val (ofN (fMul (val (ofN (fSub (val (ofN (fMul (val ((fromV b).fst.set (0 + Int.toNat (3 : Int) * (fun x => x.size) Tryz.prog.types[33]) ((fromV b).fst.get (0 + Int.toNat (3 : Int) * (fun x => x.size) Tryz.prog.types[33]) &&& BitVec.ofInt 64 (9223372036854775807 : Int))) % Pp) (val ((fromV b).fst.set (0 + Int.toNat (3 : Int) * (fun x => x.size) Tryz.prog.types[33]) ((fromV b).fst.get (0 + Int.toNat (3 : Int) * (fun x => x.size) Tryz.prog.types[33]) &&& BitVec.ofInt 64 (9223372036854775807 : Int))) % Pp))) % Pp) (val ((N4.mk (BitVec.ofInt 64 (0 : Int)) (BitVec.ofInt 64 (0 : Int)) (BitVec.ofInt 64 (0 : Int)) (BitVec.ofInt 64 (0 : Int))).set ((0, Operand.const (Value.int IntKind.u64 (1 : Int))).fst * Tryz.prog.types[33].size) (BitVec.ofInt 64 (1 : Int))) % Pp))) % Pp) (val (ofN (v (val (ofN (fAdd (val ((N4.mk (BitVec.ofInt 64 (0 : Int)) (BitVec.ofInt 64 (0 : Int)) (BitVec.ofInt 64 (0 : Int)) (BitVec.ofInt 64 (0 : Int))).set ((0, Operand.const (Value.int IntKind.u64 (1 : Int))).fst * Tryz.prog.types[33].size) (BitVec.ofInt 64 (1 : Int))) % Pp) (val (ofN (fMul (val (ofN dN) % Pp) (val (ofN (fMul (val ((fromV b).fst.set (0 + Int.toNat (3 : Int) * (fun x => x.size) Tryz.prog.types[33]) ((fromV b).fst.get (0 + Int.toNat (3 : Int) * (fun x => x.size) Tryz.prog.types[33]) &&& BitVec.ofInt 64 (9223372036854775807 : Int))) % Pp) (val ((fromV b).fst.set (0 + Int.toNat (3 : Int) * (fun x => x.size) Tryz.prog.types[33]) ((fromV b).fst.get (0 + Int.toNat (3 : Int) * (fun x => x.size) Tryz.prog.types[33]) &&& BitVec.ofInt 64 (9223372036854775807 : Int))) % Pp))) % Pp))) % Pp))) % Pp))) % Pp))) % Pp)).fst else ofN (fNeg (val (ofN (g (val (ofN (fMul (val (ofN (fSub (val (ofN (fMul (val ((fromV b).fst.set (0 + Int.toNat (3 : Int) * (fun x => x.size) Tryz.prog.types[33]) ((fromV b).fst.get (0 + Int.toNat (3 : Int) * (fun x => x.size) Tryz.prog.types[33]) &&& BitVec.ofInt 64 (9223372036854775807 : Int))) % Pp) (val ((fromV b).fst.set (0 + Int.toNat (3 : Int) * (fun x => x.size) Tryz.prog.types[33]) ((fromV b).fst.get (0 + Int.toNat (3 : Int) * (fun x => x.size) Tryz.prog.types[33]) &&& BitVec.ofInt 64 (9223372036854775807 : Int))) % Pp))) % Pp) (val ((N4.mk (BitVec.ofInt 64 (0 : Int)) (BitVec.ofInt 64 (0 : Int)) (BitVec.ofInt 64 (0 : Int)) (BitVec.ofInt 64 (0 : Int))).set ((0, Operand.const (Value.int IntKind.u64 (1 : Int))).fst * Tryz.prog.types[33].size) (BitVec.ofInt 64 (1 : Int))) % Pp))) % Pp) (val (ofN (v (val (ofN (fAdd (val ((N4.mk (BitVec.ofInt 64 (0 : Int)) (BitVec.ofInt 64 (0 : Int)) (BitVec.ofInt 64 (0 : Int)) (BitVec.ofInt 64 (0 : Int))).set ((0, Operand.const (Value.int IntKind.u64 (1 : Int))).fst * Tryz.prog.types[33].size) (BitVec.ofInt 64 (1 : Int))) % Pp) (val (ofN (fMul (val (ofN dN) % Pp) (val (ofN (fMul (val ((fromV b).fst.set (0 + Int.toNat (3 : Int) * (fun x => x.size) Tryz.prog.types[33]) ((fromV b).fst.get (0 + Int.toNat (3 : Int) * (fun x => x.size) Tryz.prog.types[33]) &&& BitVec.ofInt 64 (9223372036854775807 : Int))) % Pp) (val ((fromV b).fst.set (0 + Int.toNat (3 : Int) * (fun x => x.size) Tryz.prog.types[33]) ((fromV b).fst.get (0 + Int.toNat (3 : Int) * (fun x => x.size) Tryz.prog.types[33]) &&& BitVec.ofInt 64 (9223372036854775807 : Int))) % Pp))) % Pp))) % Pp))) % Pp))) % Pp))) % Pp)).fst) % Pp))), IV.n4 ((fromV b).fst.set 3 ((fromV b).fst.get 3 &&& BitVec.ofNat 64 9223372036854775807))]), (false, [IV.i64 (0 : Int)])], [(!(↑(List.length b) : Int) == (32 : Int)) = false, List.length b = List.length b, (0 : Int) ≤ (3 : Int), 3 < 4, 3 < 4, (0 : Int) ≤ (3 : Int), 3 < 4, 3 < 4, (0 : Int) ≤ (3 : Int), 3 < 4, 3 < 4, (!decide (val ((fromV b).fst.set 3 ((fromV b).fst.get 3 &&& BitVec.ofNat 64 9223372036854775807)) < Pp)) = false, (!(g (val (ofN (fMul (val (ofN (fSub (val (ofN (fMul (val ((fromV b).fst.set (0 + Int.toNat (3 : Int) * (fun x => x.size) Tryz.prog.types[33]) ((fromV b).fst.get (0 + Int.toNat (3 : Int) * (fun x => x.size) Tryz.prog.types[33]) &&& BitVec.ofInt 64 (9223372036854775807 : Int))) % Pp) (val ((fromV b).fst.set (0 + Int.toNat (3 : Int) * (fun x => x.size) Tryz.prog.types[33]) ((fromV b).fst.get (0 + Int.toNat (3 : Int) * (fun x => x.size) Tryz.prog.types[33]) &&& BitVec.ofInt 64 (9223372036854775807 : Int))) % Pp))) % Pp) (val ((N4.mk (BitVec.ofInt 64 (0 : Int)) (BitVec.ofInt 64 (0 : Int)) (BitVec.ofInt 64 (0 : Int)) (BitVec.ofInt 64 (0 : Int))).set ((0, Operand.const (Value.int IntKind.u64 (1 : Int))).fst * Tryz.prog.types[33].size) (BitVec.ofInt 64 (1 : Int))) % Pp))) % Pp) (val (ofN (v (val (ofN (fAdd (val ((N4.mk (BitVec.ofInt 64 (0 : Int)) (BitVec.ofInt 64 (0 : Int)) (BitVec.ofInt 64 (0 : Int)) (BitVec.ofInt 64 (0 : Int))).set ((0, Operand.const (Value.int IntKind.u64 (1 : Int))).fst * Tryz.prog.types[33].size) (BitVec.ofInt 64 (1 : Int))) % Pp) (val (ofN (fMul (val (ofN dN) % Pp) (val (ofN (fMul (val ((fromV b).fst.set (0 + Int.toNat (3 : Int) * (fun x => x.size) Tryz.prog.types[33]) ((fromV b).fst.get (0 + Int.toNat (3 : Int) * (fun x => x.size) Tryz.prog.types[33]) &&& BitVec.ofInt 64 (9223372036854775807 : Int))) % Pp) (val ((fromV b).fst.set (0 + Int.toNat (3 : Int) * (fun x => x.size) Tryz.prog.types[33]) ((fromV b).fst.get (0 + Int.toNat (3 : Int) * (fun x => x.size) Tryz.prog.types[33]) &&& BitVec.ofInt 64 (9223372036854775807 : Int))) % Pp))) % Pp))) % Pp))) % Pp))) % Pp))) % Pp)).snd) = false, ((ofN (g (val (ofN (fMul (val (ofN (fSub (val (ofN (fMul (val ((fromV b).fst.set (0 + Int.toNat (3 : Int) * (fun x => x.size) Tryz.prog.types[33]) ((fromV b).fst.get (0 + Int.toNat (3 : Int) * (fun x => x.size) Tryz.prog.types[33]) &&& BitVec.ofInt 64 (9223372036854775807 : Int))) % Pp) (val ((fromV b).fst.set (0 + Int.toNat (3 : Int) * (fun x => x.size) Tryz.prog.types[33]) ((fromV b).fst.get (0 + Int.toNat (3 : Int) * (fun x => x.size) Tryz.prog.types[33]) &&& BitVec.ofInt 64 (9223372036854775807 : Int))) % Pp))) % Pp) (val ((N4.mk (BitVec.ofInt 64 (0 : Int)) (BitVec.ofInt 64 (0 : Int)) (BitVec.ofInt 64 (0 : Int)) (BitVec.ofInt 64 (0 : Int))).set ((0, Operand.const (Value.int IntKind.u64 (1 : Int))).fst * Tryz.prog.types[33].size) (BitVec.ofInt 64 (1 : Int))) % Pp))) % Pp) (val (ofN (v (val (ofN (fAdd (val ((N4.mk (BitVec.ofInt 64 (0 : Int)) (BitVec.ofInt 64 (0 : Int)) (BitVec.ofInt 64 (0 : Int)) (BitVec.ofInt 64 (0 : Int))).set ((0, Operand.const (Value.int IntKind.u64 (1 : Int))).fst * Tryz.prog.types[33].size) (BitVec.ofInt 64 (1 : Int))) % Pp) (val (ofN (fMul (val (ofN dN) % Pp) (val (ofN (fMul (val ((fromV b).fst.set (0 + Int.toNat (3 : Int) * (fun x => x.size) Tryz.prog.types[33]) ((fromV b).fst.get (0 + Int.toNat (3 : Int) * (fun x => x.size) Tryz.prog.types[33]) &&& BitVec.ofInt 64 (9223372036854775807 : Int))) % Pp) (val ((fromV b).fst.set (0 + Int.toNat (3 : Int) * (fun x => x.size) Tryz.prog.types[33]) ((fromV b).fst.get (0 + Int.toNat (3 : Int) * (fun x => x.size) Tryz.prog.types[33]) &&& BitVec.ofInt 64 (9223372036854775807 : Int))) % Pp))) % Pp))) % Pp))) % Pp))) % Pp))) % Pp)).fst).eq (N4.mk (BitVec.ofNat 64 0) (BitVec.ofNat 64 0) (BitVec.ofNat 64 0) (BitVec.ofNat 64 0)) && true) = true, ((fromV b).fst.get 3 >>> 63 == BitVec.ofNat 64 1) = false]) := by kernel_rfl
theorem runDecT (g : Nat → Nat × Bool) (v : Nat → Nat) (b : BL) : fnS Tryz.prog (lookG (tblCf g v)) (orcA [(1, [(2, false)]), (6, [(2, false)]), (10, [(1, false), (5, false)])]) [] 10 19 [sc (.d8 b)] =
    some (AV.tup [(true, [IV.n4 (if (fromV b).fst.get 3 >>> 63 = BitVec.ofNat 64 0 then ofN (g (val (ofN (fMul (val (ofN (fSub (val (ofN (fMul (val ((fromV b).fst.set (0 + Int.toNat (3 : Int) * (fun x => x.size) Tryz.prog.types[33]) ((fromV b).fst.get (0 + Int.toNat (3 : Int) * (fun x => x.size) Tryz.prog.types[33]) &&& BitVec.ofInt 64 (9223372036854775807 : Int))) % Pp) (val ((fromV b).fst.set (0 + Int.toNat (3 : Int) * (fun x => x.size) Tryz.prog.types[33]) ((fromV b).fst.get (0 + Int.toNat (3 : Int) * (fun x => x.size) Tryz.prog.types[33]) &&& BitVec.ofInt 64 (9223372036854775807 : Int))) % Pp))) % Pp) (val ((N4.mk (BitVec.ofInt 64 (0 : Int)) (BitVec.ofInt 64 (0 : Int)) (BitVec.ofInt 64 (0 : Int)) (BitVec.ofInt 64 (0 : Int))).set ((0, Operand.const (Value.int IntKind.u64 (1 : Int))).fst * Tryz.prog.types[33].size) (BitVec.ofInt 64 (1 : Int))) % Pp))) % Pp) (val (ofN (v (val (ofN (fAdd (val ((N4.mk (BitVec.ofInt 64 (0 : Int)) (BitVec.ofInt 64 (0 : Int)) (BitVec.ofInt 64 (0 : Int)) (BitVec.ofInt 64 (0 : Int))).set ((0, Operand.const (Value.int IntKind.u64 (1 : Int))).fst * Tryz.prog.types[33].size) (BitVec.ofInt 64 (1 : Int))) % Pp) (val (ofN (fMul (val (ofN dN) % Pp) (val (ofN (fMul (val ((fromV b).fst.set (0 + Int.toNat (3 : Int) * (fun x => x.size) Tryz.prog.types[33]) ((fromV b).fst.get (0 + Int.toNat (3 : Int) * (fun x => x.size) Tryz.prog.types[33]) &&& BitVec.ofInt 64 (9223372036854775807 : Int))) % Pp) (val ((fromV b).fst.set (0 + Int.toNat (3 : Int) * (fun x => x.size) Tryz.prog.types[33]) ((fromV b).fst.get (0 + Int.toNat (3 : Int) * (fun x => x.size) Tryz.prog.types[33]) &&& BitVec.ofInt 64 (9223372036854775807 : Int))) % Pp))) % Pp))) % Pp))) % Pp))) % Pp))) % Pp)).fst else ofN (fNeg (val (ofN (g (val (ofN (fMul (val (ofN (fSub (val (ofN (fMul (val ((fromV b).fst.set (0 + Int.toNat (3 : Int) * (fun x => x.size) Tryz.prog.types[33]) ((fromV b).fst.get (0 + Int.toNat (3 : Int) * (fun x => x.size) Tryz.prog.types[33]) &&& BitVec.ofInt 64 (9223372036854775807 : Int))) % Pp) (val ((fromV b).fst.set (0 + Int.toNat (3 : Int) * (fun x => x.size) Tryz.prog.types[33]) ((fromV b).fst.get (0 + Int.toNat (3 : Int) * (fun x => x.size) Tryz.prog.types[33]) &&& BitVec.ofInt 64 (9223372036854775807 : Int))) % Pp))) % Pp) (val ((N4.mk (BitVec.ofInt 64 (0 : Int)) (BitVec.ofInt 64 (0 : Int)) (BitVec.ofInt 64 (0 : Int)) (BitVec.ofInt 64 (0 : Int))).set ((0, Operand.const (Value.int IntKind.u64 (1 : Int))).fst * Tryz.prog.types[33].size) (BitVec.ofInt 64 (1 : Int))) % Pp))) % Pp) (val (ofN (v (val (ofN (fAdd (val ((N4.mk (BitVec.ofInt 64 (0 : Int)) (BitVec.ofInt 64 (0 : Int)) (BitVec.ofInt 64 (0 : Int)) (BitVec.ofInt 64 (0 : Int))).set ((0, Operand.const (Value.int IntKind.u64 (1 : Int))).fst * Tryz.prog.types[33].size) (BitVec.ofInt 64 (1 : Int))) % Pp) (val (ofN (fMul (val (ofN dN) % Pp) (val (ofN (fMul (val ((fromV b).fst.set (0 + Int.toNat (3 : Int) * (fun x => x.size) Tryz.prog.types[33]) ((fromV b).fst.get (0 + Int.toNat (3 : Int) * (fun x => x.size) Tryz.prog.types[33]) &&& BitVec.ofInt 64 (9223372036854775807 : Int))) % Pp) (val ((fromV b).fst.set (0 + Int.toNat (3 : Int) * (fun x => x.size) Tryz.prog.types[33]) ((fromV b).fst.get (0 + Int.toNat (3 : Int) * (fun x => x.size) Tryz.prog.types[33]) &&& BitVec.ofInt 64 (9223372036854775807 : Int))) % Pp))) % Pp))) % Pp))) % Pp))) % Pp))) % Pp)).fst) % Pp))), IV.n4 ((fromV b).fst.set 3 ((fromV b).fst.get 3 &&& BitVec.ofNat 64 9223372036854775807))]), (false, [IV.i64 (0 : Int)])], [(!(↑(List.length b) : Int) == (32 : Int)) = false, List.length b = List.length b, (0 : Int) ≤ (3 : Int), 3 < 4, 3 < 4, (0 : Int) ≤ (3 : Int), 3 < 4, 3 < 4, (0 : Int) ≤ (3 : Int), 3 < 4, 3 < 4, (!decide (val ((fromV b).fst.set 3 ((fromV b).fst.get 3 &&& BitVec.ofNat 64 9223372036854775807)) < Pp)) = false, (!(g (val (ofN (fMul (val (ofN (fSub (val (ofN (fMul (val ((fromV b).fst.set (0 + Int.toNat (3 : Int) * (fun x => x.size) Tryz.prog.types[33]) ((fromV b).fst.get (0 + Int.toNat (3 : Int) * (fun x => x.size) Tryz.prog.types[33]) &&& BitVec.ofInt 64 (9223372036854775807 : Int))) % Pp) (val ((fromV b).fst.set (0 + Int.toNat (3 : Int) * (fun x => x.size) Tryz.prog.types[33]) ((fromV b).fst.get (0 + Int.toNat (3 : Int) * (fun x => x.size) Tryz.prog.types[33]) &&& BitVec.ofInt 64 (9223372036854775807 : Int))) % Pp))) % Pp) (val ((N4.mk (BitVec.ofInt 64 (0 : Int)) (BitVec.ofInt 64 (0 : Int)) (BitVec.ofInt 64 (0 : Int)) (BitVec.ofInt 64 (0 : Int))).set ((0, Operand.const (Value.int IntKind.u64 (1 : Int))).fst * Tryz.prog.types[33].size) (BitVec.ofInt 64 (1 : Int))) % Pp))) % Pp) (val (ofN (v (val (ofN (fAdd (val ((N4.mk (BitVec.ofInt 64 (0 : Int)) (BitVec.ofInt 64 (0 : Int)) (BitVec.ofInt 64 (0 : Int)) (BitVec.ofInt 64 (0 : Int))).set ((0, Operand.const (Value.int IntKind.u64 (1 : Int))).fst * Tryz.prog.types[33].size) (BitVec.ofInt 64 (1 : Int))) % Pp) (val (ofN (fMul (val (ofN dN) % Pp) (val (ofN (fMul (val ((fromV b).fst.set (0 + Int.toNat (3 : Int) * (fun x => x.size) Tryz.prog.types[33]) ((fromV b).fst.get (0 + Int.toNat (3 : Int) * (fun x => x.size) Tryz.prog.types[33]) &&& BitVec.ofInt 64 (9223372036854775807 : Int))) % Pp) (val ((fromV b).fst.set (0 + Int.toNat (3 : Int) * (fun x => x.size) Tryz.prog.types[33]) ((fromV b).fst.get (0 + Int.toNat (3 : Int) * (fun x => x.size) Tryz.prog.types[33]) &&& BitVec.ofInt 64 (9223372036854775807 : Int))) % Pp))) % Pp))) % Pp))) % Pp))) % Pp))) % Pp)).snd) = false, ((ofN (g (val (ofN (fMul (val (ofN (fSub (val (ofN (fMul (val ((fromV b).fst.set (0 + Int.toNat (3 : Int) * (fun x => x.size) Tryz.prog.types[33]) ((fromV b).fst.get (0 + Int.toNat (3 : Int) * (fun x => x.size) Tryz.prog.types[33]) &&& BitVec.ofInt 64 (9223372036854775807 : Int))) % Pp) (val ((fromV b).fst.set (0 + Int.toNat (3 : Int) * (fun x => x.size) Tryz.prog.types[33]) ((fromV b).fst.get (0 + Int.toNat (3 : Int) * (fun x => x.size) Tryz.prog.types[33]) &&& BitVec.ofInt 64 (9223372036854775807 : Int))) % Pp))) % Pp) (val ((N4.mk (BitVec.ofInt 64 (0 : Int)) (BitVec.ofInt 64 (0 : Int)) (BitVec.ofInt 64 (0 : Int)) (BitVec.ofInt 64 (0 : Int))).set ((0, Operand.const (Value.int IntKind.u64 (1 : Int))).fst * Tryz.prog.types[33].size) (BitVec.ofInt 64 (1 : Int))) % Pp))) % Pp) (val (ofN (v (val (ofN (fAdd (val ((N4.mk (BitVec.ofInt 64 (0 : Int)) (BitVec.ofInt 64 (0 : Int)) (BitVec.ofInt 64 (0 : Int)) (BitVec.ofInt 64 (0 : Int))).set ((0, Operand.const (Value.int IntKind.u64 (1 : Int))).fst * Tryz.prog.types[33].size) (BitVec.ofInt 64 (1 : Int))) % Pp) (val (ofN (fMul (val (ofN dN) % Pp) (val (ofN (fMul (val ((fromV b).fst.set (0 + Int.toNat (3 : Int) * (fun x => x.size) Tryz.prog.types[33]) ((fromV b).fst.get (0 + Int.toNat (3 : Int) * (fun x => x.size) Tryz.prog.types[33]) &&& BitVec.ofInt 64 (9223372036854775807 : Int))) % Pp) (val ((fromV b).fst.set (0 + Int.toNat (3 : Int) * (fun x => x.size) Tryz.prog.types[33]) ((fromV b).fst.get (0 + Int.toNat (3 : Int) * (fun x => x.size) Tryz.prog.types[33]) &&& BitVec.ofInt 64 (9223372036854775807 : Int))) % Pp))) % Pp))) % Pp))) % Pp))) % Pp))) % Pp)).fst).eq (N4.mk (BitVec.ofNat 64 0) (BitVec.ofNat 64 0) (BitVec.ofNat 64 0) (BitVec.ofNat 64 0)) && true) = false]) := by kernel_rfl
theorem lcT {n : Nat} (h : n = 32) : (!((n : Int) == (32 : Int))) = false := by rw [h]; rfl
theorem lcF {n : Nat} (h : n ≠ 32) : (!((n : Int) == (32 : Int))) = true := by
  rw [Bool.not_eq_true', beq_eq_false_iff_ne]; omega
def q255 : Nat := 57896044618658097711785492504343953926634992332820282019728792003956564819968
theorem set3 (x : N4) : val (x.set 3 (x.get 3 &&& BitVec.ofNat 64 9223372036854775807)) = val x % q255 := by
  have h : (x.w3 &&& BitVec.ofNat 64 9223372036854775807).toNat = x.w3.toNat % 9223372036854775808 := by
    rw [BitVec.toNat_and]
    exact Nat.and_two_pow_sub_one_eq_mod _ 63
  have h0 := x.w0.isLt
  have h1 := x.w1.isLt
  have h2 := x.w2.isLt
  have h3 := x.w3.isLt
  show val ⟨x.w0, x.w1, x.w2, x.w3 &&& BitVec.ofNat 64 9223372036854775807⟩ = _
  unfold val q255
  simp only [h]
  generalize x.w0.toNat = a at *
  generalize x.w1.toNat = b at *
  generalize x.w2.toNat = c at *
  generalize x.w3.toNat = d at *
  omega
theorem top3 (x : N4) : (x.get 3 >>> 63).toNat = val x / q255 := by
  have h0 := x.w0.isLt
  have h1 := x.w1.isLt
  have h2 := x.w2.isLt
  have h3 := x.w3.isLt
  show (x.w3 >>> 63).toNat = _
  rw [BitVec.toNat_ushiftRight, Nat.shiftRight_eq_div_pow]
  unfold val q255
  generalize x.w0.toNat = a at *
  generalize x.w1.toNat = b at *
  generalize x.w2.toNat = c at *
  generalize x.w3.toNat = d at *
  omega
/-- What the root is taken of. -/
def xxV (Y : Nat) : Nat := fMul (fSub (fMul Y Y) 1) (fInv (fAdd 1 (fMul dN (fMul Y Y))))
/-- The point whose bytes these are. -/
def decR (b : BL) : PR :=
  if b.length = 32 then
    if bv b % q255 < Pp then
      if (prV (xxV (bv b % q255))).2 = true ∧ ¬ ((prV (xxV (bv b % q255))).1 = 0 ∧ bv b / q255 = 1) then
        ⟨ofN (if bv b / q255 = 0 then (prV (xxV (bv b % q255))).1 else fNeg (prV (xxV (bv b % q255))).1), ofN (bv b % q255), 0⟩
      else prE 7
    else prE 6
  else prE 1
def spDecCG (G : BL → PR) : List AV → Option (AV × List Prop)
  | [.val false [.d8 b]] => some (.tup [(true, [.n4 (G b).x, .n4 (G b).y]), (false, [.i64 (G b).e])], [])
  | _ => none
theorem prV_lt (x : Nat) : (prV x).1 < Pp := by
  cases h : (prV x).2 with
  | true => exact (prV_sq h).2.1
  | false => rw [prV_no h]; exact Pp_pos
theorem vm_I (x : Nat) : val (ofN (fInv x)) % Pp = fInv x := by rw [val_lo (fInv_lt x), Nat.mod_eq_of_lt (fInv_lt x)]
theorem vm_d : val (ofN dN) % Pp = dN := by kernel_rfl
theorem vm_1 : val (ofN 1) % Pp = 1 := by kernel_rfl
theorem vm_R (x : Nat) : val (ofN (prV x).1) % Pp = (prV x).1 := by rw [val_lo (prV_lt x), Nat.mod_eq_of_lt (prV_lt x)]
theorem one_eqN : (N4.mk (BitVec.ofInt 64 (0 : Int)) (BitVec.ofInt 64 (0 : Int)) (BitVec.ofInt 64 (0 : Int)) (BitVec.ofInt 64 (0 : Int))).set (0 * Tryz.prog.types[33].size) (BitVec.ofInt 64 (1 : Int)) = ofN 1 := by kernel_rfl
theorem i3_eq : 0 + Int.toNat (3 : Int) * (fun x => x.size) Tryz.prog.types[33] = 3 := by kernel_rfl
theorem c63_eq : BitVec.ofInt 64 (9223372036854775807 : Int) = BitVec.ofNat 64 9223372036854775807 := by kernel_rfl
theorem bv_p256 {b : BL} (h : b.length = 32) : bv b < p256 := by
  have := bv_lt b
  rwa [h, show (256 : Nat) ^ 32 = p256 by decide] at this
theorem zeroN : (⟨BitVec.ofNat 64 0, BitVec.ofNat 64 0, BitVec.ofNat 64 0, BitVec.ofNat 64 0⟩ : N4) = ofN 0 := by kernel_rfl
theorem eqz {x : Nat} (h : x < Pp) : ((ofN x).eq ⟨BitVec.ofNat 64 0, BitVec.ofNat 64 0, BitVec.ofNat 64 0, BitVec.ofNat 64 0⟩ && true) = (x == 0) := by
  rw [zeroN, eq_N4, val_lo h, val_lo Pp_pos]
theorem sg_eq {b : BL} (h : b.length = 32) : ((ofN (bv b)).get 3 >>> 63 == BitVec.ofNat 64 1) = decide (bv b / q255 = 1) ∧ ((ofN (bv b)).get 3 >>> 63 = BitVec.ofNat 64 0 ↔ bv b / q255 = 0) := by
  have ht := top3 (ofN (bv b))
  rw [val_ofN, Nat.mod_eq_of_lt (bv_p256 h)] at ht
  generalize (ofN (bv b)).get 3 >>> 63 = s at *
  rw [← ht]
  constructor
  · by_cases e : s.toNat = 1
    · have : s = BitVec.ofNat 64 1 := BitVec.eq_of_toNat_eq e
      rw [this]; rfl
    · rw [decide_eq_false e, beq_eq_false_iff_ne]
      rintro rfl
      exact e rfl
  · constructor
    · rintro rfl; rfl
    · intro e; exact BitVec.eq_of_toNat_eq e
theorem ctDecC : CtSOk Tryz.prog 19 (.fn (spDecCG decR)) := FnS_of_fnS gsCf fol fun ds r cs h hc => by
  unfold spDecCG at h
  split at h
  case h_2 => simp at h
  rename_i b
  simp only [Option.some.injEq, Prod.mk.injEq] at h
  obtain ⟨rfl, rfl⟩ := h
  by_cases hl : b.length = 32
  · have fu : (fromV b).1 = ofN (bv b) := by rw [fromV, if_pos (by omega)]
    have hvu : val (ofN (bv b)) = bv b := by rw [val_ofN]; exact Nat.mod_eq_of_lt (bv_p256 hl)
    obtain ⟨s1, s2⟩ := sg_eq hl
    obtain ⟨x, hx⟩ : ∃ x, x = (ofN (bv b)).set 3 ((ofN (bv b)).get 3 &&& BitVec.ofNat 64 9223372036854775807) := ⟨_, rfl⟩
    have hxv : val x = bv b % q255 := by rw [hx, set3, hvu]
    by_cases hY : bv b % q255 < Pp
    · have hm : val x % Pp = bv b % q255 := by rw [hxv, Nat.mod_eq_of_lt hY]
      have h6 : (!decide (val x < Pp)) = false := by rw [hxv, decide_eq_true hY]; rfl
      have ex : ofN (bv b % q255) = x := by rw [← hxv, ofN_val]
      have hR := prV_lt (xxV (bv b % q255))
      by_cases hr : (prV (xxV (bv b % q255))).2 = true
      · by_cases hz : (prV (xxV (bv b % q255))).1 = 0
        · by_cases hs : bv b / q255 = 1
          · have e : decR b = prE 7 := by rw [decR, if_pos hl, if_pos hY, if_neg (fun q => q.2 ⟨hz, hs⟩)]
            have r0 := runDecZ prV fInv b
            simp only [fu, i3_eq, c63_eq, ← hx, one_eqN, hm, vm_M, vm_S, vm_A, vm_I, vm_d, vm_1] at r0
            rw [show fMul (fSub (fMul (bv b % q255) (bv b % q255)) 1) (fInv (fAdd 1 (fMul dN (fMul (bv b % q255) (bv b % q255))))) = xxV (bv b % q255) from rfl, eqz hR, s1, hr, hz, hs] at r0
            refine use_run r0 (by rw [e]; rfl) ?_
            clear r0
            simp only [AllP]
            and_intros <;> first | exact True.intro | exact lcT hl | exact h6 | with_reducible rfl | omega | rfl
          · have hs0 : bv b / q255 = 0 := by
              have := bv_p256 hl
              unfold p256 at this
              unfold q255 at *
              omega
            have e : decR b = ⟨ofN (prV (xxV (bv b % q255))).1, ofN (bv b % q255), 0⟩ := by rw [decR, if_pos hl, if_pos hY, if_pos ⟨hr, fun q => hs q.2⟩, if_pos hs0]
            have r0 := runDecY prV fInv b
            simp only [fu, i3_eq, c63_eq, ← hx, one_eqN, hm, vm_M, vm_S, vm_A, vm_I, vm_d, vm_1] at r0
            rw [show fMul (fSub (fMul (bv b % q255) (bv b % q255)) 1) (fInv (fAdd 1 (fMul dN (fMul (bv b % q255) (bv b % q255))))) = xxV (bv b % q255) from rfl, eqz hR, s1, hr] at r0
            simp only [if_pos (s2.2 hs0)] at r0
            refine use_run r0 (by rw [e, ex]) ?_
            clear r0
            simp only [AllP]
            and_intros <;> first | exact True.intro | exact lcT hl | exact h6 | exact beq_iff_eq.2 hz | exact decide_eq_false hs | with_reducible rfl | omega | rfl
        · have r0 := runDecT prV fInv b
          simp only [fu, i3_eq, c63_eq, ← hx, one_eqN, hm, vm_M, vm_S, vm_A, vm_I, vm_d, vm_1] at r0
          rw [show fMul (fSub (fMul (bv b % q255) (bv b % q255)) 1) (fInv (fAdd 1 (fMul dN (fMul (bv b % q255) (bv b % q255))))) = xxV (bv b % q255) from rfl, eqz hR, hr] at r0
          have e : decR b = ⟨ofN (if bv b / q255 = 0 then (prV (xxV (bv b % q255))).1 else fNeg (prV (xxV (bv b % q255))).1), ofN (bv b % q255), 0⟩ := by rw [decR, if_pos hl, if_pos hY, if_pos ⟨hr, fun q => hz q.1⟩]
          by_cases hs : bv b / q255 = 0
          · simp only [if_pos (s2.2 hs)] at r0
            refine use_run r0 (by rw [e, if_pos hs, ex]) ?_
            clear r0
            simp only [AllP]
            and_intros <;> first | exact True.intro | exact lcT hl | exact h6 | exact beq_eq_false_iff_ne.2 hz | with_reducible rfl | omega | rfl
          · simp only [if_neg (fun q => hs (s2.1 q)), vm_R] at r0
            refine use_run r0 (by rw [e, if_neg hs, ex]) ?_
            clear r0
            simp only [AllP]
            and_intros <;> first | exact True.intro | exact lcT hl | exact h6 | exact beq_eq_false_iff_ne.2 hz | with_reducible rfl | omega | rfl
      · have hr0 : (prV (xxV (bv b % q255))).2 = false := by
          cases h : (prV (xxV (bv b % q255))).2 with
          | true => exact absurd h hr
          | false => rfl
        have e : decR b = prE 7 := by rw [decR, if_pos hl, if_pos hY, if_neg (fun q => hr q.1)]
        have r0 := runDecN prV fInv b
        simp only [fu, i3_eq, c63_eq, ← hx, one_eqN, hm, vm_M, vm_S, vm_A, vm_I, vm_d, vm_1] at r0
        rw [show fMul (fSub (fMul (bv b % q255) (bv b % q255)) 1) (fInv (fAdd 1 (fMul dN (fMul (bv b % q255) (bv b % q255))))) = xxV (bv b % q255) from rfl, hr0] at r0
        refine use_run r0 (by rw [e]; rfl) ?_
        clear r0
        simp only [AllP]
        and_intros <;> first | exact True.intro | exact lcT hl | exact h6 | with_reducible rfl | omega | rfl
    · have e : decR b = prE 6 := by rw [decR, if_pos hl, if_neg hY]
      have h6 : (!decide (val x < Pp)) = true := by rw [hxv, decide_eq_false hY]; rfl
      have r0 := runDecR prV fInv b
      simp only [fu, ← hx] at r0
      refine use_run r0 (by rw [e]; rfl) ?_
      clear r0
      simp only [AllP]
      and_intros <;> first | exact True.intro | exact lcT hl | exact h6 | with_reducible rfl | omega
  · have e : decR b = prE 1 := by rw [decR, if_neg hl]
    exact use_run (runDecL prV fInv b) (by rw [e]; rfl) ⟨lcF hl, trivial⟩
end Go.Proofs.YtlgiaglbdifkpaaGreatDoor
/- Contracts of layer 8: points in bytes; the document's curve: its number, points, sums. Own work. -/
namespace Go.Proofs.YtlgiaglbdifkpaaGreatDoor
open Go.Ev Go.Sp Go.RowKit
set_option maxRecDepth 100000
/-- A point's bytes. -/
def encB (x y : Nat) : BL := bl (y + q255 * (x % 2)) 32
def encR (x y : N4) : BL × Int := if onV (val x) (val y) = true then (encB (val x) (val y), 0) else ([], 7)
theorem bl_snoc (x n : Nat) : bl x (n + 1) = bl x n ++ [BitVec.ofNat 8 (x / 256 ^ n)] := rfl
theorem enc_set (x y : Nat) (hy : y < q255) (w : BitVec 8) (hw : w = BitVec.ofNat 8 (128 * (x % 2))) : (bl y 32).set 31 (BitVec.ofNat 8 (y / 256 ^ 31) ||| w) = encB x y ∧ (bl y 32).set 31 (BitVec.ofNat 8 (y / 256 ^ 31) + w) = encB x y := by
  have hp : (256 : Nat) ^ 31 = 452312848583266388373324160190187140051835877600158453279131187530910662656 := by decide
  have h1 : bl (y + q255 * (x % 2)) 31 = bl y 31 := by
    rw [← bl_mod (y + q255 * (x % 2)) 31, ← bl_mod y 31, hp]
    congr 1
    unfold q255
    omega
  have h2 : (y + q255 * (x % 2)) / 256 ^ 31 = y / 256 ^ 31 + 128 * (x % 2) := by
    rw [hp]
    unfold q255
    omega
  have hs : y / 256 ^ 31 < 128 := by
    rw [hp]
    unfold q255 at hy
    omega
  have hx : x % 2 = 0 ∨ x % 2 = 1 := by omega
  have l31 : (bl y 31).length = 31 := bl_length _ _
  have hset : ∀ v : BitVec 8, (bl y 32).set 31 v = bl y 31 ++ [v] := fun v => by
    rw [bl_snoc, List.set_append_right _ _ (by omega), l31]
    rfl
  unfold encB
  rw [hset, hset, bl_snoc (y + q255 * (x % 2)), h1, h2, hw]
  have key : ∀ s, s < 128 → ∀ b, (b = 0 ∨ b = 1) → BitVec.ofNat 8 s ||| BitVec.ofNat 8 (128 * b) = BitVec.ofNat 8 (s + 128 * b) ∧ BitVec.ofNat 8 s + BitVec.ofNat 8 (128 * b) = BitVec.ofNat 8 (s + 128 * b) := by
    have k0 : ∀ s : Fin 128, BitVec.ofNat 8 s.val ||| BitVec.ofNat 8 (128 * 0) = BitVec.ofNat 8 (s.val + 128 * 0) ∧ BitVec.ofNat 8 s.val + BitVec.ofNat 8 (128 * 0) = BitVec.ofNat 8 (s.val + 128 * 0) := by decide
    have k1 : ∀ s : Fin 128, BitVec.ofNat 8 s.val ||| BitVec.ofNat 8 (128 * 1) = BitVec.ofNat 8 (s.val + 128 * 1) ∧ BitVec.ofNat 8 s.val + BitVec.ofNat 8 (128 * 1) = BitVec.ofNat 8 (s.val + 128 * 1) := by decide
    intro s hs b hb
    rcases hb with rfl | rfl
    · exact k0 ⟨s, hs⟩
    · exact k1 ⟨s, hs⟩
  obtain ⟨q1, q2⟩ := key _ hs _ hx
  rw [q1, q2]
  exact ⟨rfl, rfl⟩
theorem bl_get31 (y : Nat) : (bl y 32).getD 31 (BitVec.ofNat 8 0) = BitVec.ofNat 8 (y / 256 ^ 31) := by
  have l31 : (bl y 31).length = 31 := bl_length _ _
  rw [bl_snoc, List.getD_eq_getElem?_getD, List.getElem?_append_right (by omega), l31]
  rfl
theorem lowbit (x : N4) : BitVec.setWidth 8 (x.get 0 &&& BitVec.ofNat 64 1) <<< 7 = BitVec.ofNat 8 (128 * (val x % 2)) ∧ ((x.get 0 % BitVec.ofNat 64 2 == BitVec.ofNat 64 1) = decide (val x % 2 = 1)) := by
  have h0 : val x % 2 = x.w0.toNat % 2 := by unfold val; omega
  have ha : (x.w0 &&& BitVec.ofNat 64 1).toNat = x.w0.toNat % 2 := by
    rw [BitVec.toNat_and]
    exact Nat.and_two_pow_sub_one_eq_mod _ 1
  have hm : (x.w0 % BitVec.ofNat 64 2).toNat = x.w0.toNat % 2 := by rw [BitVec.toNat_umod]; rfl
  rw [h0]
  show BitVec.setWidth 8 (x.w0 &&& BitVec.ofNat 64 1) <<< 7 = _ ∧ (x.w0 % BitVec.ofNat 64 2 == BitVec.ofNat 64 1) = _
  rcases (by omega : x.w0.toNat % 2 = 0 ∨ x.w0.toNat % 2 = 1) with e | e
  · have e1 : x.w0 &&& BitVec.ofNat 64 1 = 0#64 := BitVec.eq_of_toNat_eq (by rw [ha, e]; rfl)
    have e2 : x.w0 % BitVec.ofNat 64 2 = 0#64 := BitVec.eq_of_toNat_eq (by rw [hm, e]; rfl)
    rw [e1, e2, e]
    exact ⟨by decide, by decide⟩
  · have e1 : x.w0 &&& BitVec.ofNat 64 1 = 1#64 := BitVec.eq_of_toNat_eq (by rw [ha, e]; rfl)
    have e2 : x.w0 % BitVec.ofNat 64 2 = 1#64 := BitVec.eq_of_toNat_eq (by rw [hm, e]; rfl)
    rw [e1, e2, e]
    exact ⟨by decide, by decide⟩
def spEncCG (G : N4 → N4 → BL × Int) : List AV → Option (AV × List Prop)
  | [.val true [.n4 x, .n4 y]] => some (.tup [(false, [.d8 (G x y).1]), (false, [.i64 (G x y).2])], [])
  | _ => none
theorem Pp_q255 : Pp < q255 := by decide
theorem ctEncC : CtSOk Tryz.prog 48 (.fn (spEncCG encR)) := FnS_of_fnS gsCf fol fun ds r cs h hc => by
  unfold spEncCG at h
  split at h
  case h_2 => simp at h
  rename_i x y
  simp only [Option.some.injEq, Prod.mk.injEq] at h
  obtain ⟨rfl, rfl⟩ := h
  by_cases h : onV (val x) (val y) = true
  · obtain ⟨a1, a2, _⟩ := onV_iff.1 h
    have e : encR x y = (encB (val x) (val y), 0) := by rw [encR, if_pos h]
    have r0 := runEncT prV fInv x y
    obtain ⟨s1, _⟩ := enc_set (val x) (val y) (Nat.lt_trans a2 Pp_q255) _ (lowbit x).1
    rw [Nat.mod_eq_of_lt a2, bl_get31, s1, bl_length] at r0
    have hl : (encB (val x) (val y)).length = 32 := bl_length _ _
    refine use_run r0 (by rw [e, ← hl, cutL_all]) ?_
    clear r0
    simp only [AllP]
    and_intros <;> first | exact True.intro | exact bnT h | with_reducible rfl | omega
  · exact use_run (runEncF prV fInv x y) (by rw [encR, if_neg h]; rfl) ⟨bnF h, by omega, trivial⟩
/-! ### The document's number -/
def tblDa0 (v : Nat → Nat) : List (FuncId × CtS) :=
  (79, .fn (sp1F v)) :: tblE3
theorem gsDa0 : GSound Tryz.prog (upG (lookG (tblDa0 fInv))) := GSound_of_tbl ⟨⟨ctFInv, by kernel_rfl⟩, ⟨ctFAdd, by kernel_rfl⟩, ⟨ctFNeg, by kernel_rfl⟩, ⟨ctFMul, by kernel_rfl⟩, ⟨ctInt, by kernel_rfl⟩, ⟨FnS_orD ctFB, by kernel_rfl⟩, okE⟩
theorem runRD (v : Nat → Nat) : fnS Tryz.prog (lookG (tblDa0 v)) (orcA []) [] 10 75 [] =
    some (AV.val true [IV.fe (fMul 57896044618658097711785492504343953926634992332820282019728792003956564698284 (v 121666))], [(0 : Int) ≤ (65535 : Int), (65535 : Int) < (65536 : Int), (0 : Int) ≤ (56130 : Int), (56130 : Int) < (65536 : Int), 65535 < Pp, 56130 < Pp, 121665 < Pp, (0 : Int) ≤ (1 : Int), (1 : Int) < (65536 : Int), 121665 < Pp, 1 < Pp, 121666 < Pp, 57896044618658097711785492504343953926634992332820282019728792003956564698284 < Pp, v 121666 < Pp]) := by kernel_rfl
def spRD : List AV → Option (AV × List Prop)
  | [] => some (.val true [.fe dN], [])
  | _ => none
theorem dN_def : fMul (fNeg 121665) (fInv 121666) = dN := by
  have h : fMul dN 121666 = fNeg 121665 := by kernel_rfl
  rw [← h, fMul_assoc, fInv_mul (by decide) (by decide), fMul_one dN_lt]
end Go.Proofs.YtlgiaglbdifkpaaGreatDoor
/- Contracts of layer 8: the document's points, sums and multiples. Own work. -/
namespace Go.Proofs.YtlgiaglbdifkpaaGreatDoor
open Go.Ev Go.Sp Go.RowKit
set_option maxRecDepth 100000
theorem ctRDn : CtSOk Tryz.prog 75 (.fn spRD) := FnS_of_fnS gsDa0 fol fun ds r cs h hc => by
  unfold spRD at h
  split at h
  case h_2 => simp at h
  simp only [Option.some.injEq, Prod.mk.injEq] at h
  obtain ⟨rfl, rfl⟩ := h
  have r0 := runRD fInv
  have e : (57896044618658097711785492504343953926634992332820282019728792003956564698284 : Nat) = fNeg 121665 := by kernel_rfl
  rw [e, dN_def] at r0
  exact use_run r0 rfl ⟨by omega, by omega, by omega, by omega, by decide, by decide, by decide, by omega, by omega, by decide, by decide, by decide, fNeg_lt _, fInv_lt _, trivial⟩
def tblDb0 : List (FuncId × CtS) :=
  (75, .fn spRD) :: (99, .fn spROf) :: (108, .fn (sp2F fSub)) :: (80, .fn spRNum) :: tblE3
theorem okDb0 : TblOk Tryz.prog tblDb0 := ⟨⟨ctRDn, by kernel_rfl⟩, ⟨ctROf, by kernel_rfl⟩, ⟨ctFSub, by kernel_rfl⟩, ⟨ctRNum, by kernel_rfl⟩, ⟨ctFAdd, by kernel_rfl⟩, ⟨ctFNeg, by kernel_rfl⟩, ⟨ctFMul, by kernel_rfl⟩, ⟨ctInt, by kernel_rfl⟩, ⟨FnS_orD ctFB, by kernel_rfl⟩, okE⟩
theorem gsDb0 : GSound Tryz.prog (upG (lookG tblDb0)) := GSound_of_tbl okDb0
def spRRight : List AV → Option (AV × List Prop)
  | [.val true [.n4 a]] => some (sc (.bool (decide (val a < Pp))), [])
  | _ => none
def tblDb : List (FuncId × CtS) :=
  tblDb0
theorem runRNo  : fnS Tryz.prog (lookG tblDb) (orcA []) [] 10 74 [] =
    some (AV.val true [IV.fe 0, IV.fe 1, IV.fe 1], [(0 : Int) ≤ (0 : Int), (0 : Int) < (65536 : Int), (0 : Int) ≤ (1 : Int), (1 : Int) < (65536 : Int), (0 : Int) ≤ (1 : Int), (1 : Int) < (65536 : Int)]) := by kernel_rfl
theorem runRPl (d : Nat) (p q : T3) : fnS Tryz.prog (lookG tblDb) (orcA []) [] 10 76 [.val true [.fe d], .val true [.fe p.x, .fe p.y, .fe p.z], .val true [.fe q.x, .fe q.y, .fe q.z]] =
    some (AV.val true [IV.fe (fMul (fMul p.z q.z) (fMul (fSub (fMul (fMul p.z q.z) (fMul p.z q.z)) (fMul d (fMul (fMul p.x q.x) (fMul p.y q.y)))) (fAdd (fMul p.x q.y) (fMul p.y q.x)))), IV.fe (fMul (fMul p.z q.z) (fMul (fAdd (fMul (fMul p.z q.z) (fMul p.z q.z)) (fMul d (fMul (fMul p.x q.x) (fMul p.y q.y)))) (fAdd (fMul p.y q.y) (fMul p.x q.x)))), IV.fe (fMul (fSub (fMul (fMul p.z q.z) (fMul p.z q.z)) (fMul d (fMul (fMul p.x q.x) (fMul p.y q.y)))) (fAdd (fMul (fMul p.z q.z) (fMul p.z q.z)) (fMul d (fMul (fMul p.x q.x) (fMul p.y q.y)))))], [p.z < Pp, q.z < Pp, fMul p.z q.z < Pp, fMul p.z q.z < Pp, p.x < Pp, q.x < Pp, p.y < Pp, q.y < Pp, p.x < Pp, q.y < Pp, p.y < Pp, q.x < Pp, fMul p.x q.y < Pp, fMul p.y q.x < Pp, fMul p.x q.x < Pp, fMul p.y q.y < Pp, d < Pp, fMul (fMul p.x q.x) (fMul p.y q.y) < Pp, fMul (fMul p.z q.z) (fMul p.z q.z) < Pp, fMul d (fMul (fMul p.x q.x) (fMul p.y q.y)) < Pp, fMul (fMul p.z q.z) (fMul p.z q.z) < Pp, fMul d (fMul (fMul p.x q.x) (fMul p.y q.y)) < Pp, fSub (fMul (fMul p.z q.z) (fMul p.z q.z)) (fMul d (fMul (fMul p.x q.x) (fMul p.y q.y))) < Pp, fAdd (fMul p.x q.y) (fMul p.y q.x) < Pp, fMul p.z q.z < Pp, fMul (fSub (fMul (fMul p.z q.z) (fMul p.z q.z)) (fMul d (fMul (fMul p.x q.x) (fMul p.y q.y)))) (fAdd (fMul p.x q.y) (fMul p.y q.x)) < Pp, fMul p.y q.y < Pp, fMul p.x q.x < Pp, fAdd (fMul (fMul p.z q.z) (fMul p.z q.z)) (fMul d (fMul (fMul p.x q.x) (fMul p.y q.y))) < Pp, fAdd (fMul p.y q.y) (fMul p.x q.x) < Pp, fMul p.z q.z < Pp, fMul (fAdd (fMul (fMul p.z q.z) (fMul p.z q.z)) (fMul d (fMul (fMul p.x q.x) (fMul p.y q.y)))) (fAdd (fMul p.y q.y) (fMul p.x q.x)) < Pp, fSub (fMul (fMul p.z q.z) (fMul p.z q.z)) (fMul d (fMul (fMul p.x q.x) (fMul p.y q.y))) < Pp, fAdd (fMul (fMul p.z q.z) (fMul p.z q.z)) (fMul d (fMul (fMul p.x q.x) (fMul p.y q.y))) < Pp]) := by kernel_rfl
theorem okDb : TblOk Tryz.prog tblDb := okDb0
theorem gsDb : GSound Tryz.prog (upG (lookG tblDb)) := GSound_of_tbl okDb
def spRNo8 : List AV → Option (AV × List Prop)
  | [] => some (.val true [.fe 0, .fe 1, .fe 1], [])
  | _ => none
theorem ctRNo8 : CtSOk Tryz.prog 74 (.fn spRNo8) := FnS_of_fnS gsDb fol fun ds r cs h hc => by
  unfold spRNo8 at h
  split at h
  case h_2 => simp at h
  simp only [Option.some.injEq, Prod.mk.injEq] at h
  obtain ⟨rfl, rfl⟩ := h
  exact use_run runRNo rfl ⟨by omega, by omega, by omega, by omega, by omega, by omega, trivial⟩
/-- The sum by whatever function. -/
def spRPlG (G : Nat → T3 → T3 → T3) : List AV → Option (AV × List Prop)
  | [.val true [.fe d], .val true [.fe a, .fe b, .fe c], .val true [.fe a', .fe b', .fe c']] => some (.val true [.fe (G d ⟨a, b, c⟩ ⟨a', b', c'⟩).x, .fe (G d ⟨a, b, c⟩ ⟨a', b', c'⟩).y, .fe (G d ⟨a, b, c⟩ ⟨a', b', c'⟩).z], [d < Pp, a < Pp, b < Pp, c < Pp, a' < Pp, b' < Pp, c' < Pp])
  | _ => none
theorem ctRPl : CtSOk Tryz.prog 76 (.fn (spRPlG plus3)) := FnS_of_fnS gsDb fol fun ds r cs h hc => by
  unfold spRPlG at h
  split at h
  case h_2 => simp at h
  rename_i d a b c a' b' c'
  simp only [Option.some.injEq, Prod.mk.injEq] at h
  obtain ⟨rfl, rfl⟩ := h
  obtain ⟨hd, h1, h2, h3, h4, h5, h6, _⟩ := hc
  refine use_run (runRPl d ⟨a, b, c⟩ ⟨a', b', c'⟩) rfl ?_
  simp only [AllP]
  and_intros <;> first | exact True.intro | with_reducible assumption | with_reducible exact fMul_lt _ _ | with_reducible exact fAdd_lt _ _ | with_reducible exact f_Sub_lt _ _
def tblDc (G : Nat → T3 → T3 → T3) : List (FuncId × CtS) :=
  (76, .fn (spRPlG G)) :: (75, .fn spRD) :: (74, .fn spRNo8) :: []
theorem gsDc : GSound Tryz.prog (upG (lookG (tblDc plus3))) := GSound_of_tbl ⟨⟨ctRPl, by kernel_rfl⟩, ⟨ctRDn, by kernel_rfl⟩, ⟨ctRNo8, by kernel_rfl⟩, trivial⟩
theorem runRPlus (G : Nat → T3 → T3 → T3) (p q : T3) : fnS Tryz.prog (lookG (tblDc G)) (orcA []) [] 10 33 [.val true [.fe p.x, .fe p.y, .fe p.z], .val true [.fe q.x, .fe q.y, .fe q.z]] =
    some (AV.val true [IV.fe (G dN (T3.mk p.x p.y p.z) (T3.mk q.x q.y q.z)).x, IV.fe (G dN (T3.mk p.x p.y p.z) (T3.mk q.x q.y q.z)).y, IV.fe (G dN (T3.mk p.x p.y p.z) (T3.mk q.x q.y q.z)).z], [dN < Pp, p.x < Pp, p.y < Pp, p.z < Pp, q.x < Pp, q.y < Pp, q.z < Pp]) := by kernel_rfl
def spRPlusG (G : T3 → T3 → T3) : List AV → Option (AV × List Prop)
  | [.val true [.fe a, .fe b, .fe c], .val true [.fe a', .fe b', .fe c']] => some (.val true [.fe (G ⟨a, b, c⟩ ⟨a', b', c'⟩).x, .fe (G ⟨a, b, c⟩ ⟨a', b', c'⟩).y, .fe (G ⟨a, b, c⟩ ⟨a', b', c'⟩).z], [a < Pp, b < Pp, c < Pp, a' < Pp, b' < Pp, c' < Pp])
  | _ => none
def plusD (p q : T3) : T3 := plus3 dN p q
theorem ctRPlus : CtSOk Tryz.prog 33 (.fn (spRPlusG plusD)) := FnS_of_fnS gsDc fol fun ds r cs h hc => by
  unfold spRPlusG at h
  split at h
  case h_2 => simp at h
  rename_i a b c a' b' c'
  simp only [Option.some.injEq, Prod.mk.injEq] at h
  obtain ⟨rfl, rfl⟩ := h
  obtain ⟨h1, h2, h3, h4, h5, h6, _⟩ := hc
  exact use_run (runRPlus plus3 ⟨a, b, c⟩ ⟨a', b', c'⟩) rfl ⟨dN_lt, h1, h2, h3, h4, h5, h6, trivial⟩
end Go.Proofs.YtlgiaglbdifkpaaGreatDoor
/- Contracts of layer 8: the document's multiples. Own work. -/
namespace Go.Proofs.YtlgiaglbdifkpaaGreatDoor
open Go.Ev Go.Sp Go.RowKit
set_option maxRecDepth 100000
def tsTd : List Nat := [0, 3, 4, 5, 6, 7]
def tsTdI : List Nat := [0, 3, 4, 5, 6, 7, 8, 9]
def z48 : List Int := [0, 0, 0, 0, 0, 0, 0, 0, 0, 0, 0, 0, 0, 0, 0, 0, 0, 0, 0, 0, 0, 0, 0, 0, 0, 0, 0, 0, 0, 0, 0, 0, 0, 0, 0, 0, 0, 0, 0, 0, 0, 0, 0, 0, 0, 0, 0, 0]
def tsInv (n d : Nat) (p o : T3) (i : Int) : St := ⟨slotsOf 40 [(0, sc (.sl 0 0 (dg n).length)), (3, sc (.ptr 1 0)), (4, sc (.ptr 2 0)), (5, sc (.ptr 3 0)), (6, sc (.ptr 4 0)), (7, sc (.i64 i))], [(0, ⟨false, [.vd n]⟩), (1, ⟨true, [.fe p.x, .fe p.y, .fe p.z]⟩), (2, ⟨true, [.vi 48 z48]⟩), (3, ⟨true, [.fe d]⟩), (4, ⟨true, [.fe o.x, .fe o.y, .fe o.z]⟩)], 16⟩
def tsInvI (n d : Nat) (p o : T3) (i D k : Int) : St := ⟨slotsOf 40 [(0, sc (.sl 0 0 (dg n).length)), (3, sc (.ptr 1 0)), (4, sc (.ptr 2 0)), (5, sc (.ptr 3 0)), (6, sc (.ptr 4 0)), (7, sc (.i64 i)), (8, sc (.i64 D)), (9, sc (.i64 k))], [(0, ⟨false, [.vd n]⟩), (1, ⟨true, [.fe p.x, .fe p.y, .fe p.z]⟩), (2, ⟨true, [.vi 48 z48]⟩), (3, ⟨true, [.fe d]⟩), (4, ⟨true, [.fe o.x, .fe o.y, .fe o.z]⟩)], 16⟩
theorem tsOne (G : Nat → T3 → T3 → T3) (n d : Nat) (p o : T3) (i D k : Int) : roundS Tryz.prog (lookG (tblDc G)) (orcA [(8, [(1, true)]), (10, [(2, true)])]) [] 10 tsTdI (bodyAt Tryz.prog 31 8) (tsInvI n d p o i D k) =
    some (Ex.normal, St.mk (slotsOf 40 [(0, sc (IV.sl 0 0 (dg n).length)), (3, sc (IV.ptr 1 0)), (4, sc (IV.ptr 2 0)), (5, sc (IV.ptr 3 0)), (6, sc (IV.ptr 4 0)), (7, sc (IV.i64 i)), (8, sc (IV.i64 (D.tdiv (2 : Int)))), (9, sc (IV.i64 (k + (1 : Int))))]) [(0, Blk.mk false [IV.vd n]), (1, Blk.mk true [IV.fe (G d (T3.mk p.x p.y p.z) (T3.mk p.x p.y p.z)).x, IV.fe (G d (T3.mk p.x p.y p.z) (T3.mk p.x p.y p.z)).y, IV.fe (G d (T3.mk p.x p.y p.z) (T3.mk p.x p.y p.z)).z]), (2, Blk.mk true [IV.vi 48 z48]), (3, Blk.mk true [IV.fe d]), (4, Blk.mk true [IV.fe (G d (T3.mk o.x o.y o.z) (T3.mk p.x p.y p.z)).x, IV.fe (G d (T3.mk o.x o.y o.z) (T3.mk p.x p.y p.z)).y, IV.fe (G d (T3.mk o.x o.y o.z) (T3.mk p.x p.y p.z)).z])] 16, [decide (k < (8 : Int)) = true, (2 : Int) ≠ (0 : Int), (D.tmod (2 : Int) == (1 : Int)) = true, d < Pp, o.x < Pp, o.y < Pp, o.z < Pp, p.x < Pp, p.y < Pp, p.z < Pp, d < Pp, p.x < Pp, p.y < Pp, p.z < Pp, p.x < Pp, p.y < Pp, p.z < Pp, (2 : Int) ≠ (0 : Int), inI64 (D.tdiv (2 : Int)), inI64 (k + (1 : Int))]) := by kernel_rfl
theorem tsNil (G : Nat → T3 → T3 → T3) (n d : Nat) (p o : T3) (i D k : Int) : roundS Tryz.prog (lookG (tblDc G)) (orcA [(8, [(1, true)]), (10, [(2, false)])]) [] 10 tsTdI (bodyAt Tryz.prog 31 8) (tsInvI n d p o i D k) =
    some (Ex.normal, St.mk (slotsOf 40 [(0, sc (IV.sl 0 0 (dg n).length)), (3, sc (IV.ptr 1 0)), (4, sc (IV.ptr 2 0)), (5, sc (IV.ptr 3 0)), (6, sc (IV.ptr 4 0)), (7, sc (IV.i64 i)), (8, sc (IV.i64 (D.tdiv (2 : Int)))), (9, sc (IV.i64 (k + (1 : Int))))]) [(0, Blk.mk false [IV.vd n]), (1, Blk.mk true [IV.fe (G d (T3.mk p.x p.y p.z) (T3.mk p.x p.y p.z)).x, IV.fe (G d (T3.mk p.x p.y p.z) (T3.mk p.x p.y p.z)).y, IV.fe (G d (T3.mk p.x p.y p.z) (T3.mk p.x p.y p.z)).z]), (2, Blk.mk true [IV.vi 48 z48]), (3, Blk.mk true [IV.fe d]), (4, Blk.mk true [IV.fe o.x, IV.fe o.y, IV.fe o.z])] 16, [decide (k < (8 : Int)) = true, (2 : Int) ≠ (0 : Int), (D.tmod (2 : Int) == (1 : Int)) = false, d < Pp, p.x < Pp, p.y < Pp, p.z < Pp, p.x < Pp, p.y < Pp, p.z < Pp, (2 : Int) ≠ (0 : Int), inI64 (D.tdiv (2 : Int)), inI64 (k + (1 : Int))]) := by kernel_rfl
theorem tsInEx (G : Nat → T3 → T3 → T3) (n d : Nat) (p o : T3) (i D k : Int) : roundS Tryz.prog (lookG (tblDc G)) (orcA [(8, [(1, false)])]) [] 10 tsTdI (bodyAt Tryz.prog 31 8) (tsInvI n d p o i D k) =
    some (Ex.exit 2, St.mk (slotsOf 40 [(0, sc (IV.sl 0 0 (dg n).length)), (3, sc (IV.ptr 1 0)), (4, sc (IV.ptr 2 0)), (5, sc (IV.ptr 3 0)), (6, sc (IV.ptr 4 0)), (7, sc (IV.i64 i)), (8, sc (IV.i64 D)), (9, sc (IV.i64 k))]) [(0, Blk.mk false [IV.vd n]), (1, Blk.mk true [IV.fe p.x, IV.fe p.y, IV.fe p.z]), (2, Blk.mk true [IV.vi 48 z48]), (3, Blk.mk true [IV.fe d]), (4, Blk.mk true [IV.fe o.x, IV.fe o.y, IV.fe o.z])] 16, [decide (k < (8 : Int)) = false]) := by kernel_rfl
theorem tsRound (G : Nat → T3 → T3 → T3) (n d : Nat) (p o p2 o2 : T3) (i D k : Int) : roundS Tryz.prog (lookG (tblDc G)) (orcA [(4, [(3, true)])]) [⟨8, tsTdI, .exit 2, tsInvI n d p2 o2 i D k⟩] 10 tsTd (bodyAt Tryz.prog 31 4) (tsInv n d p o i) =
    some (Ex.normal, St.mk (slotsOf 40 [(0, sc (IV.sl 0 0 (dg n).length)), (3, sc (IV.ptr 1 0)), (4, sc (IV.ptr 2 0)), (5, sc (IV.ptr 3 0)), (6, sc (IV.ptr 4 0)), (7, sc (IV.i64 (i + (1 : Int))))]) [(0, Blk.mk false [IV.vd n]), (1, Blk.mk true [IV.fe p2.x, IV.fe p2.y, IV.fe p2.z]), (2, Blk.mk true [IV.vi 48 z48]), (3, Blk.mk true [IV.fe d]), (4, Blk.mk true [IV.fe o2.x, IV.fe o2.y, IV.fe o2.z])] 16, [decide (i < (↑(dg n).length : Int)) = true, (0 : Int) ≤ i, i.toNat < (dg n).length, 0 + i.toNat * 1 < (dg n).length, LoopTo Tryz.prog (bodyAt Tryz.prog 31 8) (St.mk (slotsOf 40 [(0, sc (IV.sl 0 0 (dg n).length)), (3, sc (IV.ptr 1 0)), (4, sc (IV.ptr 2 0)), (5, sc (IV.ptr 3 0)), (6, sc (IV.ptr 4 0)), (7, sc (IV.i64 i)), (8, sc (IV.i64 ((dg n).getD (0 + i.toNat * 1) (0 : Int)))), (9, sc (IV.i64 (0 : Int)))]) [(0, Blk.mk false [IV.vd n]), (1, Blk.mk true [IV.fe p.x, IV.fe p.y, IV.fe p.z]), (2, Blk.mk true [IV.vi 48 z48]), (3, Blk.mk true [IV.fe d]), (4, Blk.mk true [IV.fe o.x, IV.fe o.y, IV.fe o.z])] 16) (Ex.exit 2) (St.mk (slotsOf 40 [(0, sc (IV.sl 0 0 (dg n).length)), (3, sc (IV.ptr 1 0)), (4, sc (IV.ptr 2 0)), (5, sc (IV.ptr 3 0)), (6, sc (IV.ptr 4 0)), (7, sc (IV.i64 i)), (8, sc (IV.i64 D)), (9, sc (IV.i64 k))]) [(0, Blk.mk false [IV.vd n]), (1, Blk.mk true [IV.fe p2.x, IV.fe p2.y, IV.fe p2.z]), (2, Blk.mk true [IV.vi 48 z48]), (3, Blk.mk true [IV.fe d]), (4, Blk.mk true [IV.fe o2.x, IV.fe o2.y, IV.fe o2.z])] 16), inI64 (i + (1 : Int))]) := by kernel_rfl
theorem tsEx (G : Nat → T3 → T3 → T3) (n d : Nat) (p o : T3) (i : Int) : roundS Tryz.prog (lookG (tblDc G)) (orcA [(4, [(3, false)])]) [] 10 tsTd (bodyAt Tryz.prog 31 4) (tsInv n d p o i) =
    some (Ex.exit 0, St.mk (slotsOf 40 [(0, sc (IV.sl 0 0 (dg n).length)), (3, sc (IV.ptr 1 0)), (4, sc (IV.ptr 2 0)), (5, sc (IV.ptr 3 0)), (6, sc (IV.ptr 4 0)), (7, sc (IV.i64 i))]) [(0, Blk.mk false [IV.vd n]), (1, Blk.mk true [IV.fe p.x, IV.fe p.y, IV.fe p.z]), (2, Blk.mk true [IV.vi 48 z48]), (3, Blk.mk true [IV.fe d]), (4, Blk.mk true [IV.fe o.x, IV.fe o.y, IV.fe o.z])] 16, [decide (i < (↑(dg n).length : Int)) = false]) := by kernel_rfl
theorem runTs (G : Nat → T3 → T3 → T3) (n d : Nat) (a b c : Nat) (p o : T3) (i : Int) : fnS Tryz.prog (lookG (tblDc G)) (orcA []) [⟨4, tsTd, .exit 0, tsInv n d p o i⟩] 10 31 [sc (.dN n), .val true [.fe a, .fe b, .fe c]] =
    some (AV.val true [IV.fe o.x, IV.fe o.y, IV.fe o.z], [LoopTo Tryz.prog (bodyAt Tryz.prog 31 4) (St.mk (slotsOf 40 [(0, sc (IV.sl 0 0 (dg n).length)), (3, sc (IV.ptr 1 0)), (4, sc (IV.ptr 2 0)), (5, sc (IV.ptr 3 0)), (6, sc (IV.ptr 4 0)), (7, sc (IV.i64 (0 : Int)))]) [(0, Blk.mk false [IV.vd n]), (1, Blk.mk true [IV.fe a, IV.fe b, IV.fe c]), (2, Blk.mk true [IV.vi 48 [(0 : Int), (0 : Int), (0 : Int), (0 : Int), (0 : Int), (0 : Int), (0 : Int), (0 : Int), (0 : Int), (0 : Int), (0 : Int), (0 : Int), (0 : Int), (0 : Int), (0 : Int), (0 : Int), (0 : Int), (0 : Int), (0 : Int), (0 : Int), (0 : Int), (0 : Int), (0 : Int), (0 : Int), (0 : Int), (0 : Int), (0 : Int), (0 : Int), (0 : Int), (0 : Int), (0 : Int), (0 : Int), (0 : Int), (0 : Int), (0 : Int), (0 : Int), (0 : Int), (0 : Int), (0 : Int), (0 : Int), (0 : Int), (0 : Int), (0 : Int), (0 : Int), (0 : Int), (0 : Int), (0 : Int), (0 : Int)]]), (3, Blk.mk true [IV.fe dN]), (4, Blk.mk true [IV.fe 0, IV.fe 1, IV.fe 1])] 16) (Ex.exit 0) (St.mk (slotsOf 40 [(0, sc (IV.sl 0 0 (dg n).length)), (3, sc (IV.ptr 1 0)), (4, sc (IV.ptr 2 0)), (5, sc (IV.ptr 3 0)), (6, sc (IV.ptr 4 0)), (7, sc (IV.i64 i))]) [(0, Blk.mk false [IV.vd n]), (1, Blk.mk true [IV.fe p.x, IV.fe p.y, IV.fe p.z]), (2, Blk.mk true [IV.vi 48 z48]), (3, Blk.mk true [IV.fe d]), (4, Blk.mk true [IV.fe o.x, IV.fe o.y, IV.fe o.z])] 16)]) := by kernel_rfl
theorem bit_dig (n i k : Nat) (hk : k < 8) : n / 2 ^ (8 * i + k) % 2 = dig n i / 2 ^ k % 2 := by
  have h : n / 2 ^ (8 * i + k) = n / 256 ^ i / 2 ^ k := by
    rw [Nat.pow_add, Nat.pow_mul, Nat.div_div_eq_div_mul]
  rw [h]
  unfold dig
  generalize n / 256 ^ i = m
  have hk' : k = 0 ∨ k = 1 ∨ k = 2 ∨ k = 3 ∨ k = 4 ∨ k = 5 ∨ k = 6 ∨ k = 7 := by omega
  rcases hk' with h | h | h | h | h | h | h | h <;> subst h <;> simp only [Nat.reducePow] <;> omega
theorem tsLoopI (n d : Nat) (p : T3) (hd : d < Pp) (hp : p.Lt) (i0 : Nat) (i : Int) :
    LoopTo Tryz.prog (bodyAt Tryz.prog 31 8) (tsInvI n d (tP d p (8 * i0)) (tO d p n (8 * i0)) i ((dig n i0 : Nat) : Int) 0) (.exit 2) (tsInvI n d (tP d p (8 * (i0 + 1))) (tO d p n (8 * (i0 + 1))) i ((0 : Nat) : Int) ((8 : Nat) : Int)) := by
  have hD : dig n i0 < 256 := dig_lt n i0
  have h0 : tsInvI n d (tP d p (8 * i0)) (tO d p n (8 * i0)) i ((dig n i0 : Nat) : Int) 0 = tsInvI n d (tP d p (8 * i0 + 0)) (tO d p n (8 * i0 + 0)) i ((dig n i0 / 2 ^ 0 : Nat) : Int) ((0 : Nat) : Int) := by
    simp
  have h8 : tsInvI n d (tP d p (8 * (i0 + 1))) (tO d p n (8 * (i0 + 1))) i ((0 : Nat) : Int) ((8 : Nat) : Int) = tsInvI n d (tP d p (8 * i0 + 8)) (tO d p n (8 * i0 + 8)) i ((dig n i0 / 2 ^ 8 : Nat) : Int) ((8 : Nat) : Int) := by
    rw [show (2 : Nat) ^ 8 = 256 from rfl, Nat.div_eq_of_lt hD, Nat.mul_succ]
  rw [h0, h8]
  refine LoopTo.intro (α := Nat) gsDc fol (fun k => tsInvI n d (tP d p (8 * i0 + k)) (tO d p n (8 * i0 + k)) i ((dig n i0 / 2 ^ k : Nat) : Int) (k : Nat)) (fun k => k ≤ 8) (fun k => 8 - k) (by simp) ?_ 0 (by simp)
  intro k hk
  have hle : dig n i0 / 2 ^ k ≤ dig n i0 := Nat.div_le_self _ _
  have hle1 : dig n i0 / 2 ^ (k + 1) ≤ dig n i0 := Nat.div_le_self _ _
  have hdv : ((dig n i0 / 2 ^ k : Nat) : Int).tdiv (2 : Int) = ((dig n i0 / 2 ^ (k + 1) : Nat) : Int) := by
    rw [tdiv2, Nat.pow_succ, Nat.div_div_eq_div_mul]
  have e4 : ((k : Nat) : Int) + 1 = ((k + 1 : Nat) : Int) := by omega
  have hle2 : inI64 ((dig n i0 / 2 ^ (k + 1) : Nat) : Int) := by
    generalize dig n i0 / 2 ^ (k + 1) = q at hle1
    unfold inI64
    omega
  have hk1 : inI64 ((k + 1 : Nat) : Int) := by unfold inI64; omega
  have hP := tP_lt (d := d) hp (8 * i0 + k)
  have hO := tO_lt (d := d) (p := p) n (8 * i0 + k)
  have sP : plus3 d (tP d p (8 * i0 + k)) (tP d p (8 * i0 + k)) = tP d p (8 * i0 + (k + 1)) := rfl
  by_cases he : k = 8
  · subst he
    exact .inr ⟨_, _, _, _, _, tsInEx plus3 _ _ _ _ _ _ _, rfl, trivial⟩
  · have hb' := bit_dig n i0 k (by omega)
    by_cases hb : dig n i0 / 2 ^ k % 2 = 1
    · have sO : plus3 d (tO d p n (8 * i0 + k)) (tP d p (8 * i0 + k)) = tO d p n (8 * i0 + (k + 1)) := by
        rw [← Nat.add_assoc]
        conv => rhs; unfold tO
        rw [if_pos (by rw [hb', hb])]
      have r0 := tsOne plus3 n d (tP d p (8 * i0 + k)) (tO d p n (8 * i0 + k)) i ((dig n i0 / 2 ^ k : Nat) : Int) (k : Nat)
      rw [sP, sO, hdv, e4] at r0
      refine .inl ⟨_, _, _, _, _, k + 1, r0, ?_, by omega, by omega⟩
      rw [tmod2, hb]
      clear r0 sO sP
      exact ⟨decide_eq_true (by omega), by decide, rfl, hd, hO.1, hO.2.1, hO.2.2, hP.1, hP.2.1, hP.2.2, hd, hP.1, hP.2.1, hP.2.2, hP.1, hP.2.1, hP.2.2, by decide, hle2, hk1, trivial⟩
    · have hb0 : dig n i0 / 2 ^ k % 2 = 0 := by omega
      have sO : tO d p n (8 * i0 + k) = tO d p n (8 * i0 + (k + 1)) := by
        rw [← Nat.add_assoc]
        conv => rhs; unfold tO
        rw [if_neg (by rw [hb', hb0]; decide)]
      have r0 := tsNil plus3 n d (tP d p (8 * i0 + k)) (tO d p n (8 * i0 + k)) i ((dig n i0 / 2 ^ k : Nat) : Int) (k : Nat)
      rw [sP, hdv, e4] at r0
      rw [sO] at r0 ⊢
      refine .inl ⟨_, _, _, _, _, k + 1, r0, ?_, by omega, by omega⟩
      rw [tmod2, hb0]
      clear r0 sO sP
      exact ⟨decide_eq_true (by omega), by decide, rfl, hd, hP.1, hP.2.1, hP.2.2, hP.1, hP.2.1, hP.2.2, by decide, hle2, hk1, trivial⟩
theorem tsLoop (n d : Nat) (p : T3) (hd : d < Pp) (hp : p.Lt) (hn : Sm n) : LoopTo Tryz.prog (bodyAt Tryz.prog 31 4) (tsInv n d p nought3 0) (.exit 0) (tsInv n d (tP d p (8 * (dg n).length)) (tO d p n (8 * (dg n).length)) ((dg n).length : Nat)) := by
  have h0 : tsInv n d p nought3 0 = tsInv n d (tP d p (8 * 0)) (tO d p n (8 * 0)) ((0 : Nat) : Int) := rfl
  rw [h0]
  refine LoopTo.intro (α := Nat) gsDc fol (fun i => tsInv n d (tP d p (8 * i)) (tO d p n (8 * i)) (i : Nat)) (fun i => i ≤ (dg n).length) (fun i => (dg n).length - i) (by simp) ?_ 0 (by simp)
  intro i hi
  have hs : (dg n).length ≤ 4000000 := hn
  by_cases hl : i = (dg n).length
  · rw [hl]
    exact .inr ⟨_, _, _, _, _, tsEx plus3 _ _ _ _ _, decide_eq_false (by omega), trivial⟩
  · have r0 := tsRound plus3 n d (tP d p (8 * i)) (tO d p n (8 * i)) (tP d p (8 * (i + 1))) (tO d p n (8 * (i + 1))) (i : Nat) ((0 : Nat) : Int) ((8 : Nat) : Int)
    have e2 : 0 + ((i : Nat) : Int).toNat * 1 = i := by omega
    have e4 : ((i : Nat) : Int) + 1 = ((i + 1 : Nat) : Int) := by omega
    have lp := tsLoopI n d p hd hp i (i : Nat)
    rw [e2, e4, dg_getD] at r0
    refine .inl ⟨_, _, _, _, _, i + 1, r0, ?_, by omega, by omega⟩
    exact ⟨decide_eq_true (by omega), by omega, by omega, by omega, lp, by unfold inI64; omega, trivial⟩
def tsD (n : Nat) (p : T3) : T3 := tO dN p n (8 * (dg n).length)
def spRTs (H : Nat → T3 → T3) : List AV → Option (AV × List Prop)
  | [.val false [.dN n], .val true [.fe a, .fe b, .fe c]] => some (.val true [.fe (H n ⟨a, b, c⟩).x, .fe (H n ⟨a, b, c⟩).y, .fe (H n ⟨a, b, c⟩).z], [Sm n, a < Pp, b < Pp, c < Pp])
  | _ => none
theorem ctRTs : CtSOk Tryz.prog 31 (.fn (spRTs tsD)) := FnS_of_fnS gsDc fol fun ds r cs h hc => by
  unfold spRTs at h
  split at h
  case h_2 => simp at h
  rename_i n a b c
  simp only [Option.some.injEq, Prod.mk.injEq] at h
  obtain ⟨rfl, rfl⟩ := h
  obtain ⟨hn, h1, h2, h3, _⟩ := hc
  exact use_run (runTs plus3 n dN a b c (tP dN ⟨a, b, c⟩ (8 * (dg n).length)) (tO dN ⟨a, b, c⟩ n (8 * (dg n).length)) ((dg n).length : Nat)) rfl ⟨tsLoop n dN ⟨a, b, c⟩ dN_lt ⟨h1, h2, h3⟩ hn, trivial⟩
end Go.Proofs.YtlgiaglbdifkpaaGreatDoor
/- Contracts of layer 8: the document's points: Point, with, Base, Small; bytes. Own work. -/
namespace Go.Proofs.YtlgiaglbdifkpaaGreatDoor
open Go.Ev Go.Sp Go.RowKit
set_option maxRecDepth 100000
def spRRtG (g : Nat → Nat × Bool) : List AV → Option (AV × List Prop)
  | [.val true [.fe a]] => some (.tup [(true, [.fe (g a).1]), (false, [.bool (g a).2])], [a < Pp])
  | _ => none
def tblDd (g : Nat → Nat × Bool) (v : Nat → Nat) : List (FuncId × CtS) :=
  (107, .fn (spRRtG g)) :: (79, .fn (sp1F v)) :: tblDb0
theorem gsDd : GSound Tryz.prog (upG (lookG (tblDd rtV fInv))) := GSound_of_tbl ⟨⟨ctRoot, by kernel_rfl⟩, ⟨ctFInv, by kernel_rfl⟩, okDb0⟩
theorem runRPt (g : Nat → Nat × Bool) (v : Nat → Nat) (a b c : Nat) : fnS Tryz.prog (lookG (tblDd g v)) (orcA []) [] 10 34 [.val true [.fe a, .fe b, .fe c]] =
    some (AV.val true [IV.n4 (ofN (fMul a (v c))), IV.n4 (ofN (fMul b (v c)))], [c < Pp, a < Pp, v c < Pp, fMul a (v c) < p256, b < Pp, v c < Pp, fMul b (v c) < p256]) := by kernel_rfl
theorem runWiN (g : Nat → Nat × Bool) (v : Nat → Nat) (y : Nat) (s : Int) : fnS Tryz.prog (lookG (tblDd g v)) (orcA [(3, [(2, true)])]) [] 10 73 [.val true [.fe y], sc (.i64 s)] =
    some (AV.tup [(true, [IV.vi 48 [(0 : Int), (0 : Int), (0 : Int), (0 : Int), (0 : Int), (0 : Int), (0 : Int), (0 : Int), (0 : Int), (0 : Int), (0 : Int), (0 : Int), (0 : Int), (0 : Int), (0 : Int), (0 : Int), (0 : Int), (0 : Int), (0 : Int), (0 : Int), (0 : Int), (0 : Int), (0 : Int), (0 : Int), (0 : Int), (0 : Int), (0 : Int), (0 : Int), (0 : Int), (0 : Int), (0 : Int), (0 : Int), (0 : Int), (0 : Int), (0 : Int), (0 : Int), (0 : Int), (0 : Int), (0 : Int), (0 : Int), (0 : Int), (0 : Int), (0 : Int), (0 : Int), (0 : Int), (0 : Int), (0 : Int), (0 : Int)]]), (false, [IV.bool false])], [y < Pp, y < Pp, (0 : Int) ≤ (1 : Int), (1 : Int) < (65536 : Int), fMul y y < Pp, 1 < Pp, (0 : Int) ≤ (1 : Int), (1 : Int) < (65536 : Int), dN < Pp, fMul y y < Pp, 1 < Pp, fMul dN (fMul y y) < Pp, fAdd 1 (fMul dN (fMul y y)) < Pp, fSub (fMul y y) 1 < Pp, v (fAdd 1 (fMul dN (fMul y y))) < Pp, fMul (fSub (fMul y y) 1) (v (fAdd 1 (fMul dN (fMul y y)))) < Pp, (!(g (fMul (fSub (fMul y y) (Int.toNat (1 : Int))) (v (fAdd (Int.toNat (1 : Int)) (fMul dN (fMul y y)))))).snd) = true]) := by kernel_rfl
theorem runWiZ (g : Nat → Nat × Bool) (v : Nat → Nat) (y : Nat) (s : Int) : fnS Tryz.prog (lookG (tblDd g v)) (orcA [(3, [(2, false), (6, true), (8, true), (10, true)])]) [] 10 73 [.val true [.fe y], sc (.i64 s)] =
    some (AV.tup [(true, [IV.vi 48 [(0 : Int), (0 : Int), (0 : Int), (0 : Int), (0 : Int), (0 : Int), (0 : Int), (0 : Int), (0 : Int), (0 : Int), (0 : Int), (0 : Int), (0 : Int), (0 : Int), (0 : Int), (0 : Int), (0 : Int), (0 : Int), (0 : Int), (0 : Int), (0 : Int), (0 : Int), (0 : Int), (0 : Int), (0 : Int), (0 : Int), (0 : Int), (0 : Int), (0 : Int), (0 : Int), (0 : Int), (0 : Int), (0 : Int), (0 : Int), (0 : Int), (0 : Int), (0 : Int), (0 : Int), (0 : Int), (0 : Int), (0 : Int), (0 : Int), (0 : Int), (0 : Int), (0 : Int), (0 : Int), (0 : Int), (0 : Int)]]), (false, [IV.bool false])], [y < Pp, y < Pp, (0 : Int) ≤ (1 : Int), (1 : Int) < (65536 : Int), fMul y y < Pp, 1 < Pp, (0 : Int) ≤ (1 : Int), (1 : Int) < (65536 : Int), dN < Pp, fMul y y < Pp, 1 < Pp, fMul dN (fMul y y) < Pp, fAdd 1 (fMul dN (fMul y y)) < Pp, fSub (fMul y y) 1 < Pp, v (fAdd 1 (fMul dN (fMul y y))) < Pp, fMul (fSub (fMul y y) 1) (v (fAdd 1 (fMul dN (fMul y y)))) < Pp, (!(g (fMul (fSub (fMul y y) (Int.toNat (1 : Int))) (v (fAdd (Int.toNat (1 : Int)) (fMul dN (fMul y y)))))).snd) = false, (0 : Int) ≤ (0 : Int), (0 : Int) < (65536 : Int), (digs16 (g (fMul (fSub (fMul y y) (Int.toNat (1 : Int))) (v (fAdd (Int.toNat (1 : Int)) (fMul dN (fMul y y)))))).fst == digs16 0 && true) = true, (s == (1 : Int)) = true, true = true]) := by kernel_rfl
theorem runWiZ0 (g : Nat → Nat × Bool) (v : Nat → Nat) (y : Nat) (s : Int) : fnS Tryz.prog (lookG (tblDd g v)) (orcA [(3, [(2, false), (6, true), (8, false), (10, false)]), (5, [(1, false)])]) [] 10 73 [.val true [.fe y], sc (.i64 s)] =
    some (AV.tup [(true, [IV.fe (g (fMul (fSub (fMul y y) (Int.toNat (1 : Int))) (v (fAdd (Int.toNat (1 : Int)) (fMul dN (fMul y y)))))).fst, IV.fe y, IV.fe 1]), (false, [IV.bool true])], [y < Pp, y < Pp, (0 : Int) ≤ (1 : Int), (1 : Int) < (65536 : Int), fMul y y < Pp, 1 < Pp, (0 : Int) ≤ (1 : Int), (1 : Int) < (65536 : Int), dN < Pp, fMul y y < Pp, 1 < Pp, fMul dN (fMul y y) < Pp, fAdd 1 (fMul dN (fMul y y)) < Pp, fSub (fMul y y) 1 < Pp, v (fAdd 1 (fMul dN (fMul y y))) < Pp, fMul (fSub (fMul y y) 1) (v (fAdd 1 (fMul dN (fMul y y)))) < Pp, (!(g (fMul (fSub (fMul y y) (Int.toNat (1 : Int))) (v (fAdd (Int.toNat (1 : Int)) (fMul dN (fMul y y)))))).snd) = false, (0 : Int) ≤ (0 : Int), (0 : Int) < (65536 : Int), (digs16 (g (fMul (fSub (fMul y y) (Int.toNat (1 : Int))) (v (fAdd (Int.toNat (1 : Int)) (fMul dN (fMul y y)))))).fst == digs16 0 && true) = true, (s == (1 : Int)) = false, false = false, (s == (1 : Int)) = false, (0 : Int) ≤ (1 : Int), (1 : Int) < (65536 : Int)]) := by kernel_rfl
theorem runWiT (g : Nat → Nat × Bool) (v : Nat → Nat) (y : Nat) (s : Int) : fnS Tryz.prog (lookG (tblDd g v)) (orcA [(3, [(2, false), (6, false), (10, false)]), (5, [(1, true)])]) [] 10 73 [.val true [.fe y], sc (.i64 s)] =
    some (AV.tup [(true, [IV.fe (fNeg (g (fMul (fSub (fMul y y) (Int.toNat (1 : Int))) (v (fAdd (Int.toNat (1 : Int)) (fMul dN (fMul y y)))))).fst), IV.fe y, IV.fe 1]), (false, [IV.bool true])], [y < Pp, y < Pp, (0 : Int) ≤ (1 : Int), (1 : Int) < (65536 : Int), fMul y y < Pp, 1 < Pp, (0 : Int) ≤ (1 : Int), (1 : Int) < (65536 : Int), dN < Pp, fMul y y < Pp, 1 < Pp, fMul dN (fMul y y) < Pp, fAdd 1 (fMul dN (fMul y y)) < Pp, fSub (fMul y y) 1 < Pp, v (fAdd 1 (fMul dN (fMul y y))) < Pp, fMul (fSub (fMul y y) 1) (v (fAdd 1 (fMul dN (fMul y y)))) < Pp, (!(g (fMul (fSub (fMul y y) (Int.toNat (1 : Int))) (v (fAdd (Int.toNat (1 : Int)) (fMul dN (fMul y y)))))).snd) = false, (0 : Int) ≤ (0 : Int), (0 : Int) < (65536 : Int), (digs16 (g (fMul (fSub (fMul y y) (Int.toNat (1 : Int))) (v (fAdd (Int.toNat (1 : Int)) (fMul dN (fMul y y)))))).fst == digs16 0 && true) = false, false = false, (s == (1 : Int)) = true, (g (fMul (fSub (fMul y y) (Int.toNat (1 : Int))) (v (fAdd (Int.toNat (1 : Int)) (fMul dN (fMul y y)))))).fst < Pp, (0 : Int) ≤ (1 : Int), (1 : Int) < (65536 : Int)]) := by kernel_rfl
theorem runWiF (g : Nat → Nat × Bool) (v : Nat → Nat) (y : Nat) (s : Int) : fnS Tryz.prog (lookG (tblDd g v)) (orcA [(3, [(2, false), (6, false), (10, false)]), (5, [(1, false)])]) [] 10 73 [.val true [.fe y], sc (.i64 s)] =
    some (AV.tup [(true, [IV.fe (g (fMul (fSub (fMul y y) (Int.toNat (1 : Int))) (v (fAdd (Int.toNat (1 : Int)) (fMul dN (fMul y y)))))).fst, IV.fe y, IV.fe 1]), (false, [IV.bool true])], [y < Pp, y < Pp, (0 : Int) ≤ (1 : Int), (1 : Int) < (65536 : Int), fMul y y < Pp, 1 < Pp, (0 : Int) ≤ (1 : Int), (1 : Int) < (65536 : Int), dN < Pp, fMul y y < Pp, 1 < Pp, fMul dN (fMul y y) < Pp, fAdd 1 (fMul dN (fMul y y)) < Pp, fSub (fMul y y) 1 < Pp, v (fAdd 1 (fMul dN (fMul y y))) < Pp, fMul (fSub (fMul y y) 1) (v (fAdd 1 (fMul dN (fMul y y)))) < Pp, (!(g (fMul (fSub (fMul y y) (Int.toNat (1 : Int))) (v (fAdd (Int.toNat (1 : Int)) (fMul dN (fMul y y)))))).snd) = false, (0 : Int) ≤ (0 : Int), (0 : Int) < (65536 : Int), (digs16 (g (fMul (fSub (fMul y y) (Int.toNat (1 : Int))) (v (fAdd (Int.toNat (1 : Int)) (fMul dN (fMul y y)))))).fst == digs16 0 && true) = false, false = false, (s == (1 : Int)) = false, (0 : Int) ≤ (1 : Int), (1 : Int) < (65536 : Int)]) := by kernel_rfl
def spRPt : List AV → Option (AV × List Prop)
  | [.val true [.fe a, .fe b, .fe c]] => some (.val true [.n4 (ofN (fMul a (fInv c))), .n4 (ofN (fMul b (fInv c)))], [a < Pp, b < Pp, c < Pp])
  | _ => none
theorem ctRPt : CtSOk Tryz.prog 34 (.fn spRPt) := FnS_of_fnS gsDd fol fun ds r cs h hc => by
  unfold spRPt at h
  split at h
  case h_2 => simp at h
  rename_i a b c
  simp only [Option.some.injEq, Prod.mk.injEq] at h
  obtain ⟨rfl, rfl⟩ := h
  obtain ⟨h1, h2, h3, _⟩ := hc
  exact use_run (runRPt rtV fInv a b c) rfl ⟨h3, h1, fInv_lt c, lt256 (fMul_lt _ _), h2, fInv_lt c, lt256 (fMul_lt _ _), trivial⟩
/-- The point of that y, and an x of that lowest bit. -/
def wOk (y : Nat) (s : Int) : Prop := (prV (xxV y)).2 = true ∧ ¬ ((prV (xxV y)).1 = 0 ∧ s = 1)
def wX (y : Nat) (s : Int) : Nat := if s = 1 then fNeg (prV (xxV y)).1 else (prV (xxV y)).1
def spWiT (G : Nat → Int → Nat) : List AV → Option (AV × List Prop)
  | [.val true [.fe y], .val false [.i64 s]] => some (.tup [(true, [.fe (G y s), .fe y, .fe 1]), (false, [.bool true])], [y < Pp, wOk y s])
  | _ => none
def spWiN : List AV → Option (AV × List Prop)
  | [.val true [.fe y], .val false [.i64 s]] => some (.tup [(true, [.vi 48 z48]), (false, [.bool false])], [y < Pp, ¬ wOk y s])
  | _ => none
theorem i1N : Int.toNat (1 : Int) = 1 := rfl
theorem xxV_lt (y : Nat) : xxV y < Pp := fMul_lt _ _
theorem xx_def (y : Nat) : fMul (fSub (fMul y y) 1) (fInv (fAdd 1 (fMul dN (fMul y y)))) = xxV y := rfl
theorem d0_beq (x : Nat) : (digs16 (prV x).1 == digs16 0 && true) = ((prV x).1 == 0) := digs16_beq (lt256 (prV_lt x)) (lt256 Pp_pos)
theorem ctWiT : CtSOk Tryz.prog 73 (.fn (spWiT wX)) := FnS_of_fnS gsDd fol fun ds r cs h hc => by
  unfold spWiT at h
  split at h
  case h_2 => simp at h
  rename_i y s
  simp only [Option.some.injEq, Prod.mk.injEq] at h
  obtain ⟨rfl, rfl⟩ := h
  obtain ⟨hy, ⟨h1, h2⟩, _⟩ := hc
  by_cases hz : (prV (xxV y)).1 = 0
  · have hs : s ≠ 1 := fun e => h2 ⟨hz, e⟩
    have r0 := runWiZ0 rtV fInv y s
    simp only [i1N, xx_def, rtV_eq (xxV_lt y), d0_beq] at r0
    have e : wX y s = (prV (xxV y)).1 := by rw [wX, if_neg hs]
    refine use_run r0 (by rw [e]) ?_
    clear r0
    rw [h1]
    simp only [AllP]
    and_intros <;> first | with_reducible exact True.intro | with_reducible assumption | with_reducible exact fMul_lt _ _ | with_reducible exact fAdd_lt _ _ | with_reducible exact f_Sub_lt _ _ | with_reducible exact fInv_lt _ | with_reducible exact one_lt | with_reducible exact dN_lt | with_reducible exact xxV_lt _ | with_reducible exact beq_iff_eq.2 hz | with_reducible exact beq_eq_false_iff_ne.2 hs | with_reducible rfl | with_reducible exact Bool.not_true | with_reducible exact Bool.not_false | omega
  · by_cases hs : s = 1
    · have r0 := runWiT rtV fInv y s
      simp only [i1N, xx_def, rtV_eq (xxV_lt y), d0_beq] at r0
      have e : wX y s = fNeg (prV (xxV y)).1 := by rw [wX, if_pos hs]
      refine use_run r0 (by rw [e]) ?_
      clear r0
      rw [h1]
      simp only [AllP]
      and_intros <;> first | with_reducible exact True.intro | with_reducible assumption | with_reducible exact fMul_lt _ _ | with_reducible exact fAdd_lt _ _ | with_reducible exact f_Sub_lt _ _ | with_reducible exact fInv_lt _ | with_reducible exact one_lt | with_reducible exact dN_lt | with_reducible exact xxV_lt _ | with_reducible exact prV_lt _ | with_reducible exact beq_eq_false_iff_ne.2 hz | with_reducible exact beq_iff_eq.2 hs | with_reducible rfl | with_reducible exact Bool.not_true | with_reducible exact Bool.not_false | omega
    · have r0 := runWiF rtV fInv y s
      simp only [i1N, xx_def, rtV_eq (xxV_lt y), d0_beq] at r0
      have e : wX y s = (prV (xxV y)).1 := by rw [wX, if_neg hs]
      refine use_run r0 (by rw [e]) ?_
      clear r0
      rw [h1]
      simp only [AllP]
      and_intros <;> first | with_reducible exact True.intro | with_reducible assumption | with_reducible exact fMul_lt _ _ | with_reducible exact fAdd_lt _ _ | with_reducible exact f_Sub_lt _ _ | with_reducible exact fInv_lt _ | with_reducible exact one_lt | with_reducible exact dN_lt | with_reducible exact xxV_lt _ | with_reducible exact prV_lt _ | with_reducible exact beq_eq_false_iff_ne.2 hz | with_reducible exact beq_eq_false_iff_ne.2 hs | with_reducible rfl | with_reducible exact Bool.not_true | with_reducible exact Bool.not_false | omega
theorem ctWiN : CtSOk Tryz.prog 73 (.fn spWiN) := FnS_of_fnS gsDd fol fun ds r cs h hc => by
  unfold spWiN at h
  split at h
  case h_2 => simp at h
  rename_i y s
  simp only [Option.some.injEq, Prod.mk.injEq] at h
  obtain ⟨rfl, rfl⟩ := h
  obtain ⟨hy, hn, _⟩ := hc
  cases h1 : (prV (xxV y)).2 with
  | false =>
    have r0 := runWiN rtV fInv y s
    simp only [i1N, xx_def, rtV_eq (xxV_lt y)] at r0
    refine use_run r0 rfl ?_
    clear r0
    rw [h1]
    simp only [AllP]
    and_intros <;> first | with_reducible exact True.intro | with_reducible assumption | with_reducible exact fMul_lt _ _ | with_reducible exact fAdd_lt _ _ | with_reducible exact f_Sub_lt _ _ | with_reducible exact fInv_lt _ | with_reducible exact one_lt | with_reducible exact dN_lt | with_reducible exact xxV_lt _ | with_reducible rfl | with_reducible exact Bool.not_true | with_reducible exact Bool.not_false | omega
  | true =>
    have hzs : (prV (xxV y)).1 = 0 ∧ s = 1 := Decidable.byContradiction fun q => hn ⟨h1, q⟩
    have r0 := runWiZ rtV fInv y s
    simp only [i1N, xx_def, rtV_eq (xxV_lt y), d0_beq] at r0
    refine use_run r0 rfl ?_
    clear r0
    rw [h1]
    simp only [AllP]
    and_intros <;> first | with_reducible exact True.intro | with_reducible assumption | with_reducible exact fMul_lt _ _ | with_reducible exact fAdd_lt _ _ | with_reducible exact f_Sub_lt _ _ | with_reducible exact fInv_lt _ | with_reducible exact one_lt | with_reducible exact dN_lt | with_reducible exact xxV_lt _ | with_reducible exact beq_iff_eq.2 hzs.1 | with_reducible exact beq_iff_eq.2 hzs.2 | with_reducible rfl | with_reducible exact Bool.not_true | with_reducible exact Bool.not_false | omega
end Go.Proofs.YtlgiaglbdifkpaaGreatDoor
/- Contracts of layer 8: the document's Base, Decode, Point of bytes, Encode, Small. Own work. -/
namespace Go.Proofs.YtlgiaglbdifkpaaGreatDoor
open Go.Ev Go.Sp Go.RowKit
set_option maxRecDepth 100000
def tblDe (G : Nat → Int → Nat) (v : Nat → Nat) : List (FuncId × CtS) :=
  (73, .fn (spWiT G)) :: (72, .fn spRDec) :: (98, .fn spREnc) :: (79, .fn (sp1F v)) :: tblDb0
def tblDeN : List (FuncId × CtS) :=
  (73, .fn spWiN) :: (72, .fn spRDec) :: tblDb0
theorem gsDe : GSound Tryz.prog (upG (lookG (tblDe wX fInv))) := GSound_of_tbl ⟨⟨ctWiT, by kernel_rfl⟩, ⟨ctRDec, by kernel_rfl⟩, ⟨ctREnc, by kernel_rfl⟩, ⟨ctFInv, by kernel_rfl⟩, okDb0⟩
theorem gsDeN : GSound Tryz.prog (upG (lookG tblDeN)) := GSound_of_tbl ⟨⟨ctWiN, by kernel_rfl⟩, ⟨ctRDec, by kernel_rfl⟩, okDb0⟩
theorem runRBase (G : Nat → Int → Nat) (v : Nat → Nat) : fnS Tryz.prog (lookG (tblDe G v)) (orcA []) [] 10 32 [] =
    some (AV.val true [IV.fe (G (fMul 4 (v 5)) (0 : Int)), IV.fe (fMul 4 (v 5)), IV.fe 1], [(0 : Int) ≤ (4 : Int), (4 : Int) < (65536 : Int), (0 : Int) ≤ (5 : Int), (5 : Int) < (65536 : Int), 5 < Pp, 4 < Pp, v 5 < Pp, fMul 4 (v 5) < Pp, wOk (fMul 4 (v 5)) (0 : Int)]) := by kernel_rfl
theorem runREncT (G : Nat → Int → Nat) (v : Nat → Nat) (x y : N4) : fnS Tryz.prog (lookG (tblDe G v)) (orcA [(2, [(4, true)])]) [] 10 52 [.val true [.n4 x, .n4 y]] =
    some (sc (IV.d8 (cutL ((bl (val y % Pp) 32).set 31 ((bl (val y % Pp) 32).getD 31 (BitVec.ofNat 8 0) + BitVec.ofNat 8 128)) 0 (bl (val y % Pp) 32).length (bl (val y % Pp) 32).length)), [val y % Pp < p256, (0 : Int) ≤ (0 : Int), 0 < 4, 0 < 8, 2 ≠ 0, (x.get 0 % BitVec.ofNat 64 2 == BitVec.ofNat 64 1) = true, (0 : Int) ≤ (31 : Int), 31 < (bl (val y % Pp) 32).length, 31 < (bl (val y % Pp) 32).length, (0 : Int) ≤ (31 : Int), 31 < (bl (val y % Pp) 32).length, 31 < (bl (val y % Pp) 32).length, 0 + (bl (val y % Pp) 32).length ≤ (bl (val y % Pp) 32).length]) := by kernel_rfl
theorem runREncF (G : Nat → Int → Nat) (v : Nat → Nat) (x y : N4) : fnS Tryz.prog (lookG (tblDe G v)) (orcA [(2, [(4, false)])]) [] 10 52 [.val true [.n4 x, .n4 y]] =
    some (sc (IV.d8 (cutL (bl (val y % Pp) 32) 0 (bl (val y % Pp) 32).length (bl (val y % Pp) 32).length)), [val y % Pp < p256, (0 : Int) ≤ (0 : Int), 0 < 4, 0 < 8, 2 ≠ 0, (x.get 0 % BitVec.ofNat 64 2 == BitVec.ofNat 64 1) = false, 0 + (bl (val y % Pp) 32).length ≤ (bl (val y % Pp) 32).length]) := by kernel_rfl
theorem runRDe1 (b : BL) : fnS Tryz.prog (lookG tblDeN) (orcA [(1, [(2, true)])]) [] 10 27 [sc (.d8 b)] =
    some (AV.tup [(true, [IV.vi 48 [(0 : Int), (0 : Int), (0 : Int), (0 : Int), (0 : Int), (0 : Int), (0 : Int), (0 : Int), (0 : Int), (0 : Int), (0 : Int), (0 : Int), (0 : Int), (0 : Int), (0 : Int), (0 : Int), (0 : Int), (0 : Int), (0 : Int), (0 : Int), (0 : Int), (0 : Int), (0 : Int), (0 : Int), (0 : Int), (0 : Int), (0 : Int), (0 : Int), (0 : Int), (0 : Int), (0 : Int), (0 : Int), (0 : Int), (0 : Int), (0 : Int), (0 : Int), (0 : Int), (0 : Int), (0 : Int), (0 : Int), (0 : Int), (0 : Int), (0 : Int), (0 : Int), (0 : Int), (0 : Int), (0 : Int), (0 : Int)]]), (false, [IV.i64 (1 : Int)])], [(!(↑(List.length b) : Int) == (32 : Int)) = true]) := by kernel_rfl
theorem runRDe6 (b : BL) : fnS Tryz.prog (lookG tblDeN) (orcA [(1, [(2, false)]), (6, [(1, true)])]) [] 10 27 [sc (.d8 b)] =
    some (AV.tup [(true, [IV.vi 48 [(0 : Int), (0 : Int), (0 : Int), (0 : Int), (0 : Int), (0 : Int), (0 : Int), (0 : Int), (0 : Int), (0 : Int), (0 : Int), (0 : Int), (0 : Int), (0 : Int), (0 : Int), (0 : Int), (0 : Int), (0 : Int), (0 : Int), (0 : Int), (0 : Int), (0 : Int), (0 : Int), (0 : Int), (0 : Int), (0 : Int), (0 : Int), (0 : Int), (0 : Int), (0 : Int), (0 : Int), (0 : Int), (0 : Int), (0 : Int), (0 : Int), (0 : Int), (0 : Int), (0 : Int), (0 : Int), (0 : Int), (0 : Int), (0 : Int), (0 : Int), (0 : Int), (0 : Int), (0 : Int), (0 : Int), (0 : Int)]]), (false, [IV.i64 (decV (List.set b 31 (List.getD b 31 (BitVec.ofNat 8 0) % BitVec.ofNat 8 128))).snd])], [(!(↑(List.length b) : Int) == (32 : Int)) = false, List.length b = List.length b, 0 = 0, (0 + List.length b) * 1 ≤ 140737488355328 ∧ 0 + List.length b ≤ 9223372036854775807, (0 : Int) ≤ (31 : Int), 31 < 0 + List.length b, 31 < List.length b, (0 : Int) ≤ (31 : Int), 31 < 0 + List.length b, 31 < List.length b, 0 + List.length b = List.length b, (!(decV (List.set b 31 (List.getD b 31 (BitVec.ofNat 8 0) % BitVec.ofNat 8 128))).snd == (0 : Int)) = true]) := by kernel_rfl
theorem runRDe7 (b : BL) : fnS Tryz.prog (lookG tblDeN) (orcA [(1, [(2, false)]), (6, [(1, false)]), (9, [(1, true)])]) [] 10 27 [sc (.d8 b)] =
    some (AV.tup [(true, [IV.vi 48 [(0 : Int), (0 : Int), (0 : Int), (0 : Int), (0 : Int), (0 : Int), (0 : Int), (0 : Int), (0 : Int), (0 : Int), (0 : Int), (0 : Int), (0 : Int), (0 : Int), (0 : Int), (0 : Int), (0 : Int), (0 : Int), (0 : Int), (0 : Int), (0 : Int), (0 : Int), (0 : Int), (0 : Int), (0 : Int), (0 : Int), (0 : Int), (0 : Int), (0 : Int), (0 : Int), (0 : Int), (0 : Int), (0 : Int), (0 : Int), (0 : Int), (0 : Int), (0 : Int), (0 : Int), (0 : Int), (0 : Int), (0 : Int), (0 : Int), (0 : Int), (0 : Int), (0 : Int), (0 : Int), (0 : Int), (0 : Int)]]), (false, [IV.i64 (7 : Int)])], [(!(↑(List.length b) : Int) == (32 : Int)) = false, List.length b = List.length b, 0 = 0, (0 + List.length b) * 1 ≤ 140737488355328 ∧ 0 + List.length b ≤ 9223372036854775807, (0 : Int) ≤ (31 : Int), 31 < 0 + List.length b, 31 < List.length b, (0 : Int) ≤ (31 : Int), 31 < 0 + List.length b, 31 < List.length b, 0 + List.length b = List.length b, (!(decV (List.set b 31 (List.getD b 31 (BitVec.ofNat 8 0) % BitVec.ofNat 8 128))).snd == (0 : Int)) = false, (0 : Int) ≤ (31 : Int), 31 < List.length b, 31 < List.length b, (decV (List.set b 31 (List.getD b 31 (BitVec.ofNat 8 0) % BitVec.ofNat 8 128))).fst < Pp, ¬wOk (decV (List.set b 31 (List.getD b 31 (BitVec.ofNat 8 0) % BitVec.ofNat 8 128))).fst (↑(List.getD b 31 (BitVec.ofNat 8 0) / BitVec.ofNat 8 128).toNat : Int), true = true]) := by kernel_rfl
theorem runRDeT (G : Nat → Int → Nat) (v : Nat → Nat) (b : BL) : fnS Tryz.prog (lookG (tblDe G v)) (orcA [(1, [(2, false)]), (6, [(1, false)]), (9, [(1, false)])]) [] 10 27 [sc (.d8 b)] =
    some (AV.tup [(true, [IV.fe (G (decV (List.set b 31 (List.getD b 31 (BitVec.ofNat 8 0) % BitVec.ofNat 8 128))).fst (↑(List.getD b 31 (BitVec.ofNat 8 0) / BitVec.ofNat 8 128).toNat : Int)), IV.fe (decV (List.set b 31 (List.getD b 31 (BitVec.ofNat 8 0) % BitVec.ofNat 8 128))).fst, IV.fe 1]), (false, [IV.i64 (0 : Int)])], [(!(↑(List.length b) : Int) == (32 : Int)) = false, List.length b = List.length b, 0 = 0, (0 + List.length b) * 1 ≤ 140737488355328 ∧ 0 + List.length b ≤ 9223372036854775807, (0 : Int) ≤ (31 : Int), 31 < 0 + List.length b, 31 < List.length b, (0 : Int) ≤ (31 : Int), 31 < 0 + List.length b, 31 < List.length b, 0 + List.length b = List.length b, (!(decV (List.set b 31 (List.getD b 31 (BitVec.ofNat 8 0) % BitVec.ofNat 8 128))).snd == (0 : Int)) = false, (0 : Int) ≤ (31 : Int), 31 < List.length b, 31 < List.length b, (decV (List.set b 31 (List.getD b 31 (BitVec.ofNat 8 0) % BitVec.ofNat 8 128))).fst < Pp, wOk (decV (List.set b 31 (List.getD b 31 (BitVec.ofNat 8 0) % BitVec.ofNat 8 128))).fst (↑(List.getD b 31 (BitVec.ofNat 8 0) / BitVec.ofNat 8 128).toNat : Int), false = false]) := by kernel_rfl
theorem fNeg0 : fNeg 0 = 0 := Nat.mod_self _
theorem prV_eta {x r : Nat} (a : (prV x).1 = r) (b : (prV x).2 = true) : prV x = (r, true) := Prod.ext a b
/-- The even root is told. -/
theorem prV_even {r x : Nat} (hr : r < Pp) (h2 : r % 2 = 0) (h : fMul r r = x) : prV x = (r, true) := by
  have hx : x < Pp := h ▸ fMul_lt _ _
  have h1 : (prV x).2 = true := prV_of hx (sqV_of hr h)
  obtain ⟨a, b, c⟩ := prV_sq h1
  have e : (prV x).1 = r := by
    rcases sq_eq b hr (a.trans h.symm) with e | e
    · exact e
    · by_cases h0 : r = 0
      · rw [e, h0]
        exact fNeg0
      · have hp : Pp % 2 = 1 := by decide
        rw [e, fNeg_pos h0 hr] at c
        generalize Pp = p at *
        omega
  exact prV_eta e h1
theorem xxV_of {y D r : Nat} (hD : D = fAdd 1 (fMul dN (fMul y y))) (h0 : D ≠ 0) (h : fMul (fMul r r) D = fSub (fMul y y) 1) : xxV y = fMul r r := by
  have hl : D < Pp := hD ▸ fAdd_lt _ _
  unfold xxV
  rw [← hD, ← h, fMul_assoc, inv_mul h0 hl, fMul_one (fMul_lt _ _)]
theorem y45 : fMul 4 (fInv 5) = byN := by
  have h : fMul byN 5 = 4 := by kernel_rfl
  rw [← h, fMul_assoc, inv_mul (by decide) (by decide), fMul_one (by decide)]
def baseDn : Nat := fAdd 1 (fMul dN (fMul byN byN))
theorem baseDn_ne : (baseDn == 0) = false := by kernel_rfl
theorem base_xx : xxV byN = fMul bxN bxN := by
  have h1 : fMul (fMul bxN bxN) baseDn = fSub (fMul byN byN) 1 := by kernel_rfl
  exact xxV_of rfl (beq_eq_false_iff_ne.1 baseDn_ne) h1
theorem base_pr : prV (xxV byN) = (bxN, true) := prV_even (by decide) (by decide) base_xx.symm
def spRBase : List AV → Option (AV × List Prop)
  | [] => some (.val true [.fe bxN, .fe byN, .fe 1], [])
  | _ => none
theorem ctRBase : CtSOk Tryz.prog 32 (.fn spRBase) := FnS_of_fnS gsDe fol fun ds r cs h hc => by
  unfold spRBase at h
  split at h
  case h_2 => simp at h
  simp only [Option.some.injEq, Prod.mk.injEq] at h
  obtain ⟨rfl, rfl⟩ := h
  have r0 := runRBase wX fInv
  have e : wX byN 0 = bxN := by
    rw [wX, if_neg (by decide), base_pr]
  have ok : wOk byN 0 := ⟨by rw [base_pr], fun q => absurd q.2 (by decide)⟩
  rw [y45, e] at r0
  exact use_run r0 rfl ⟨by omega, by omega, by omega, by omega, by decide, by decide, fInv_lt _, by decide, ok, trivial⟩
def spREnB : List AV → Option (AV × List Prop)
  | [.val true [.n4 x, .n4 y]] => some (sc (.d8 (encB (val x) (val y))), [val y < Pp])
  | _ => none
theorem ctREn8 : CtSOk Tryz.prog 52 (.fn spREnB) := FnS_of_fnS gsDe fol fun ds r cs h hc => by
  unfold spREnB at h
  split at h
  case h_2 => simp at h
  rename_i x y
  simp only [Option.some.injEq, Prod.mk.injEq] at h
  obtain ⟨rfl, rfl⟩ := h
  have hy := hc.1
  have hm : val y % Pp = val y := Nat.mod_eq_of_lt hy
  have hl : (bl (val y) 32).length = 32 := bl_length _ _
  have hq : val y < q255 := Nat.lt_trans hy (by decide)
  have l2 := (lowbit x).2
  by_cases h : val x % 2 = 1
  · have r0 := runREncT wX fInv x y
    have e := (enc_set (val x) (val y) hq (BitVec.ofNat 8 128) (by rw [h])).2
    rw [hm, bl_get31, e, hl] at r0
    have el : (encB (val x) (val y)).length = 32 := bl_length _ _
    refine use_run r0 (by rw [← el, cutL_all]) ?_
    rw [l2, decide_eq_true h]
    clear r0
    simp only [AllP]
    and_intros <;> first | exact True.intro | with_reducible rfl | with_reducible exact lt256 hy | omega
  · have r0 := runREncF wX fInv x y
    have e : bl (val y) 32 = encB (val x) (val y) := by
      have h0 : val x % 2 = 0 := by omega
      unfold encB
      rw [h0, Nat.mul_zero, Nat.add_zero]
    rw [hm] at r0
    refine use_run r0 (by rw [cutL_all, e]) ?_
    rw [l2, decide_eq_false h, hl]
    clear r0
    simp only [AllP]
    and_intros <;> first | exact True.intro | with_reducible rfl | with_reducible exact lt256 hy | omega
theorem bvS31 {u : BL} (hu : u.length = 32) : bv (u.set 31 (u.getD 31 (BitVec.ofNat 8 0) % BitVec.ofNat 8 128)) = bv u % q255 ∧ (u.getD 31 (BitVec.ofNat 8 0) / BitVec.ofNat 8 128).toNat = bv u / q255 := by
  have e : u = u.take 31 ++ [u.getD 31 (BitVec.ofNat 8 0)] := by
    have h : u.drop 31 = [u.getD 31 (BitVec.ofNat 8 0)] := by
      rw [List.drop_eq_getElem_cons (by omega), List.drop_of_length_le (by omega), List.getD_eq_getElem?_getD, List.getElem?_eq_getElem (by omega)]
      rfl
    rw [← h, List.take_append_drop]
  have l31 : (u.take 31).length = 31 := by rw [List.length_take]; omega
  generalize u.getD 31 (BitVec.ofNat 8 0) = y at *
  have hp : (256 : Nat) ^ 31 = 452312848583266388373324160190187140051835877600158453279131187530910662656 := by decide
  have hlt := bv_lt (u.take 31)
  rw [l31, hp] at hlt
  generalize u.take 31 = m at *
  subst e
  rw [List.set_append_right _ _ (by omega), l31]
  have hm : (y % BitVec.ofNat 8 128).toNat = y.toNat % 128 := by rw [BitVec.toNat_umod]; rfl
  have hd : (y / BitVec.ofNat 8 128).toNat = y.toNat / 128 := by rw [BitVec.toNat_udiv]; rfl
  have hy := y.isLt
  have g1 : bv (m ++ [y]) = bv m + 452312848583266388373324160190187140051835877600158453279131187530910662656 * y.toNat := by
    rw [bv_append, l31, hp]
    simp only [bv, Nat.mul_zero, Nat.add_zero]
  have g2 : bv (m ++ [y % BitVec.ofNat 8 128]) = bv m + 452312848583266388373324160190187140051835877600158453279131187530910662656 * (y.toNat % 128) := by
    rw [bv_append, l31, hp]
    simp only [bv, Nat.mul_zero, Nat.add_zero, hm]
  constructor
  · show bv (m ++ [y % BitVec.ofNat 8 128]) = _
    rw [g1, g2]
    unfold q255
    generalize bv m = z at *
    generalize y.toNat = s at *
    omega
  · rw [g1, hd]
    unfold q255
    generalize bv m = z at *
    generalize y.toNat = s at *
    omega
end Go.Proofs.YtlgiaglbdifkpaaGreatDoor
/- Contracts of layer 8: the document's Decode and Point of bytes. Own work. -/
namespace Go.Proofs.YtlgiaglbdifkpaaGreatDoor
open Go.Ev Go.Sp Go.RowKit
set_option maxRecDepth 100000
def dX (b : BL) : Nat := wX (bv b % q255) ((bv b / q255 : Nat) : Int)
def dOk (b : BL) : Prop := b.length = 32 ∧ bv b % q255 < Pp ∧ wOk (bv b % q255) ((bv b / q255 : Nat) : Int)
def spRDeT (X Y : BL → Nat) : List AV → Option (AV × List Prop)
  | [.val false [.d8 b]] => some (.tup [(true, [.fe (X b), .fe (Y b), .fe 1]), (false, [.i64 0])], [dOk b])
  | _ => none
def spRDeE (E : BL → Int) : List AV → Option (AV × List Prop)
  | [.val false [.d8 b]] => some (.tup [(true, [.vi 48 z48]), (false, [.i64 (E b)])], [¬ dOk b])
  | _ => none
def dY (b : BL) : Nat := bv b % q255
def dE (b : BL) : Int := if b.length = 32 then if bv b % q255 < Pp then 7 else 6 else 1
theorem dec31 {b : BL} (h : b.length = 32) : decV (b.set 31 (b.getD 31 (BitVec.ofNat 8 0) % BitVec.ofNat 8 128)) = if bv b % q255 < Pp then (bv b % q255, 0) else (0, 6) := by
  unfold decV
  rw [List.length_set, if_pos h, (bvS31 h).1]
theorem ctRDeT : CtSOk Tryz.prog 27 (.fn (spRDeT dX dY)) := FnS_of_fnS gsDe fol fun ds r cs h hc => by
  unfold spRDeT at h
  split at h
  case h_2 => simp at h
  rename_i b
  simp only [Option.some.injEq, Prod.mk.injEq] at h
  obtain ⟨rfl, rfl⟩ := h
  obtain ⟨⟨h1, h2, h3⟩, _⟩ := hc
  have r0 := runRDeT wX fInv b
  simp only [dec31 h1, if_pos h2, (bvS31 h1).2] at r0
  refine use_run r0 rfl ?_
  clear r0
  have h4 := h3.1
  have h5 := h3.2
  simp only [AllP]
  and_intros <;> first | exact True.intro | with_reducible assumption | exact lcT h1 | with_reducible rfl | omega | rfl
theorem ctRDeE : CtSOk Tryz.prog 27 (.fn (spRDeE dE)) := FnS_of_fnS gsDeN fol fun ds r cs h hc => by
  unfold spRDeE at h
  split at h
  case h_2 => simp at h
  rename_i b
  simp only [Option.some.injEq, Prod.mk.injEq] at h
  obtain ⟨rfl, rfl⟩ := h
  have hn := hc.1
  by_cases h1 : b.length = 32
  · by_cases h2 : bv b % q255 < Pp
    · have h3 : ¬ wOk (bv b % q255) ((bv b / q255 : Nat) : Int) := fun q => hn ⟨h1, h2, q⟩
      have r0 := runRDe7 b
      simp only [dec31 h1, if_pos h2, (bvS31 h1).2] at r0
      refine use_run r0 (by rw [dE, if_pos h1, if_pos h2]; rfl) ?_
      clear r0
      simp only [AllP]
      and_intros <;> first | exact True.intro | with_reducible assumption | exact lcT h1 | with_reducible rfl | omega | rfl
    · have r0 := runRDe6 b
      simp only [dec31 h1, if_neg h2] at r0
      refine use_run r0 (by rw [dE, if_pos h1, if_neg h2]; rfl) ?_
      clear r0
      simp only [AllP]
      and_intros <;> first | exact True.intro | with_reducible assumption | exact lcT h1 | with_reducible rfl | omega | rfl
  · exact use_run (runRDe1 b) (by rw [dE, if_neg h1]; rfl) ⟨lcF h1, trivial⟩
theorem inv1 : fInv 1 = 1 := by
  have h := inv_mul (x := 1) (by decide) (by decide)
  rwa [fMul_comm, fMul_one (fInv_lt 1)] at h
theorem wX_lt (y : Nat) (s : Int) : wX y s < Pp := by
  unfold wX
  split
  · exact fNeg_lt _
  · exact prV_lt _
theorem top01 {b : BL} (h : b.length = 32) : bv b / q255 = 0 ∨ bv b / q255 = 1 := by
  have := bv_p256 h
  unfold p256 at this
  unfold q255
  omega
theorem wOk_nat (y s : Nat) : wOk y (s : Int) ↔ (prV (xxV y)).2 = true ∧ ¬ ((prV (xxV y)).1 = 0 ∧ s = 1) := by
  have e : ((s : Int) = 1) ↔ s = 1 := by omega
  unfold wOk
  rw [e]
theorem decR_T {b : BL} (h : dOk b) : decR b = ⟨ofN (dX b), ofN (dY b), 0⟩ := by
  obtain ⟨h1, h2, h3⟩ := h
  rw [decR, if_pos h1, if_pos h2, if_pos ((wOk_nat _ _).1 h3), dX, dY, wX]
  congr 2
  rcases top01 h1 with e | e <;> rw [e]
  · rw [if_pos rfl, if_neg (by decide)]
  · rw [if_neg (by decide), if_pos (by decide)]
theorem decR_E {b : BL} (h : ¬ dOk b) : decR b = prE (dE b) ∧ dE b ≠ 0 := by
  unfold decR dE
  by_cases h1 : b.length = 32
  · rw [if_pos h1, if_pos h1]
    by_cases h2 : bv b % q255 < Pp
    · rw [if_pos h2, if_pos h2, if_neg (fun q => h ⟨h1, h2, (wOk_nat _ _).2 q⟩)]
      exact ⟨rfl, by decide⟩
    · rw [if_neg h2, if_neg h2]
      exact ⟨rfl, by decide⟩
  · rw [if_neg h1, if_neg h1]
    exact ⟨rfl, by decide⟩
end Go.Proofs.YtlgiaglbdifkpaaGreatDoor
/- Contracts of layer 8: the document's Small and Digits; the law's nought and awake. Own work. -/
namespace Go.Proofs.YtlgiaglbdifkpaaGreatDoor
open Go.Ev Go.Sp Go.RowKit
set_option maxRecDepth 100000
def tblDi (H : Nat → T3 → T3) : List (FuncId × CtS) :=
  (31, .fn (orD (spRTs H))) :: (34, .fn spRPt) :: (74, .fn spRNo8) :: []
theorem gsDi : GSound Tryz.prog (upG (lookG (tblDi tsD))) := GSound_of_tbl ⟨⟨FnS_orD ctRTs, by kernel_rfl⟩, ⟨ctRPt, by kernel_rfl⟩, ⟨ctRNo8, by kernel_rfl⟩, trivial⟩
theorem runRSm (H : Nat → T3 → T3) (a b c : Nat) : fnS Tryz.prog (lookG (tblDi H)) (orcA []) [] 10 28 [.val true [.fe a, .fe b, .fe c]] =
    some (sc (IV.bool ((ofN (fMul (H (nv ((List.replicate 1 (0 : Int)).set ((0, Operand.const (Value.int IntKind.i64 (8 : Int))).fst * (fun x => x.size) Tryz.prog.types[3]) (8 : Int))) (T3.mk a b c)).x (fInv (H (nv ((List.replicate 1 (0 : Int)).set ((0, Operand.const (Value.int IntKind.i64 (8 : Int))).fst * (fun x => x.size) Tryz.prog.types[3]) (8 : Int))) (T3.mk a b c)).z))).eq (ofN (fMul 0 (fInv 1))) && ((ofN (fMul (H (nv ((List.replicate 1 (0 : Int)).set ((0, Operand.const (Value.int IntKind.i64 (8 : Int))).fst * (fun x => x.size) Tryz.prog.types[3]) (8 : Int))) (T3.mk a b c)).y (fInv (H (nv ((List.replicate 1 (0 : Int)).set ((0, Operand.const (Value.int IntKind.i64 (8 : Int))).fst * (fun x => x.size) Tryz.prog.types[3]) (8 : Int))) (T3.mk a b c)).z))).eq (ofN (fMul 1 (fInv 1))) && true))), [1 = 1, Sm 8, a < Pp, b < Pp, c < Pp, (List.replicate 1 (0 : Int)).set 0 (8 : Int) = dg 8, (H (nv ((List.replicate 1 (0 : Int)).set ((0, Operand.const (Value.int IntKind.i64 (8 : Int))).fst * (fun x => x.size) Tryz.prog.types[3]) (8 : Int))) (T3.mk a b c)).x < Pp, (H (nv ((List.replicate 1 (0 : Int)).set ((0, Operand.const (Value.int IntKind.i64 (8 : Int))).fst * (fun x => x.size) Tryz.prog.types[3]) (8 : Int))) (T3.mk a b c)).y < Pp, (H (nv ((List.replicate 1 (0 : Int)).set ((0, Operand.const (Value.int IntKind.i64 (8 : Int))).fst * (fun x => x.size) Tryz.prog.types[3]) (8 : Int))) (T3.mk a b c)).z < Pp, 0 < Pp, 1 < Pp, 1 < Pp]) := by kernel_rfl
theorem base_onV : onV (val (ofN bxN)) (val (ofN byN)) = true := by
  have h1 : bxN < Pp := by decide
  have h2 : byN < Pp := by decide
  rw [val_lo h1, val_lo h2]
  exact onV_iff.2 ⟨h1, h2, bON⟩
theorem no_pr : prP (Pt.nought : Pt Ed) = ⟨ofN 0, ofN 1, 0⟩ := by
  have h1 : (Pt.nought : Pt Ed).x.val = 0 := rfl
  have h2 : (Pt.nought : Pt Ed).y.val = 1 := by
    show (1 : Fin Pp).val = 1
    rw [← tF_one]
    kernel_rfl
  rw [prP, h1, h2]
theorem eight_set : (List.replicate 1 (0 : Int)).set ((0, Operand.const (Value.int IntKind.i64 (8 : Int))).fst * (fun x => x.size) Tryz.prog.types[3]) (8 : Int) = [8] := by kernel_rfl
theorem eight_nv : nv [(8 : Int)] = 8 := by kernel_rfl
theorem eight_dg : (List.replicate 1 (0 : Int)).set 0 (8 : Int) = dg 8 := by kernel_rfl
def smD (H : Nat → T3 → T3) (p : T3) : Bool := (ofN (fMul (H 8 p).x (fInv (H 8 p).z))).eq (ofN (fMul 0 (fInv 1))) && ((ofN (fMul (H 8 p).y (fInv (H 8 p).z))).eq (ofN (fMul 1 (fInv 1))) && true)
def smallD (p : T3) : Bool := smD tsD p
def spRSmG (s : T3 → Bool) : List AV → Option (AV × List Prop)
  | [.val true [.fe a, .fe b, .fe c]] => some (sc (.bool (s ⟨a, b, c⟩)), [a < Pp, b < Pp, c < Pp])
  | _ => none
theorem ctRSm : CtSOk Tryz.prog 28 (.fn (spRSmG smallD)) := FnS_of_fnS gsDi fol fun ds r cs h hc => by
  unfold spRSmG at h
  split at h
  case h_2 => simp at h
  rename_i a b c
  simp only [Option.some.injEq, Prod.mk.injEq] at h
  obtain ⟨rfl, rfl⟩ := h
  obtain ⟨h1, h2, h3, _⟩ := hc
  have r0 := runRSm tsD a b c
  rw [eight_set, eight_nv] at r0
  have hl : (tsD 8 ⟨a, b, c⟩).Lt := tO_lt _ _
  obtain ⟨l1, l2, l3⟩ := hl
  have hs : Sm 8 := Sm_lt (k := 40) (by decide) (by omega)
  refine use_run r0 rfl ?_
  clear r0
  generalize tsD 8 ⟨a, b, c⟩ = q at *
  simp only [AllP]
  and_intros <;> first | exact True.intro | with_reducible assumption | with_reducible exact eight_dg | with_reducible rfl | with_reducible exact one_lt | with_reducible exact Pp_pos
end Go.Proofs.YtlgiaglbdifkpaaGreatDoor
/- Layer 8, plain: the document's multiples and points as the group's. Own work. -/
namespace Go.Proofs.YtlgiaglbdifkpaaGreatDoor
open Go.Ev Go.Sp Go.RowKit
theorem R3.ts {P : Pt Ed} {p : T3} (h : R3 P p) (n : Nat) : R3 (Pt.times n P) (tsD n p) := by
  have h1 := h.tO n (8 * (dg n).length)
  have h2 : n < 2 ^ (8 * (dg n).length) := by
    rw [Nat.pow_mul]
    exact lt_of_dg n
  rw [Nat.mod_eq_of_lt h2] at h1
  exact h1
theorem tsD_lt (n : Nat) (p : T3) : (tsD n p).Lt := tO_lt _ _
theorem R3.pr {P : Pt Ed} {p : T3} (h : R3 P p) (hz : p.z < Pp) : ofN (fMul p.x (fInv p.z)) = (prP P).x ∧ ofN (fMul p.y (fInv p.z)) = (prP P).y := by
  obtain ⟨h1, h2⟩ := h.point hz
  rw [h1, h2]
  exact ⟨rfl, rfl⟩
theorem ptV_R3 {x y : N4} (h : onV (val x) (val y) = true) : R3 (ptV x y h) ⟨val x % Pp, val y % Pp, 1⟩ := by
  obtain ⟨h1, h2, h3⟩ := onV_iff.1 h
  rw [Nat.mod_eq_of_lt h1, Nat.mod_eq_of_lt h2]
  exact R3.of h3
theorem law_mult {n x y : N4} (h : onV (val x) (val y) = true) : multR n x y = ⟨ofN (fMul (tsD (val n) ⟨val x % Pp, val y % Pp, 1⟩).x (fInv (tsD (val n) ⟨val x % Pp, val y % Pp, 1⟩).z)), ofN (fMul (tsD (val n) ⟨val x % Pp, val y % Pp, 1⟩).y (fInv (tsD (val n) ⟨val x % Pp, val y % Pp, 1⟩).z)), 0⟩ := by
  obtain ⟨e1, e2⟩ := ((ptV_R3 h).ts (val n)).pr (tsD_lt _ _).2.2
  rw [multR, dif_pos h, e1, e2]
  rfl
theorem law_small {x y : N4} (h : onV (val x) (val y) = true) : smallD ⟨val x % Pp, val y % Pp, 1⟩ = smallR x y := by
  have hm := law_mult (n := eightN) h
  rw [show val eightN = 8 by kernel_rfl] at hm
  unfold smallR smallM smallD smD
  rw [hm, inv1, fMul_one Pp_pos, fMul_one one_lt]
  generalize tsD 8 ⟨val x % Pp, val y % Pp, 1⟩ = q
  generalize fMul q.x (fInv q.z) = u
  generalize fMul q.y (fInv q.z) = v
  show _ = (((0 : Int) == 0) && ((ofN u).eq (ofN 0) && ((ofN v).eq (ofN 1) && true)))
  rw [beq_self_eq_true, Bool.true_and]
end Go.Proofs.YtlgiaglbdifkpaaGreatDoor
/- Secrets clamped (layer 5's contracts). Own work. -/
namespace Go.Proofs.YtlgiaglbdifkpaaGreatDoor
open Go.Ev Go.Sp Go.RowKit
set_option maxRecDepth 100000
theorem runClamp (k : BL) : fnS Tryz.prog (lookG []) (orcA [(1, [(2, false)])]) [] 10 45 [sc (.d8 k)] =
    some (AV.tup [(false, [IV.d8 (cutL ((List.set k 0 (List.getD k 0 (BitVec.ofNat 8 0) &&& BitVec.ofNat 8 248)).set 31 ((List.set k 0 (List.getD k 0 (BitVec.ofNat 8 0) &&& BitVec.ofNat 8 248)).getD 31 (BitVec.ofNat 8 0) &&& BitVec.ofNat 8 63 ||| BitVec.ofNat 8 64)) 0 (0 + List.length k) (List.length k))]), (false, [IV.i64 (0 : Int)])], [(!(↑(List.length k) : Int) == (32 : Int)) = false, List.length k = List.length k, 0 = 0, (0 + List.length k) * 1 ≤ 140737488355328 ∧ 0 + List.length k ≤ 9223372036854775807, (0 : Int) ≤ (0 : Int), 0 < 0 + List.length k, 0 < List.length k, (0 : Int) ≤ (0 : Int), 0 < 0 + List.length k, 0 < List.length k, (0 : Int) ≤ (31 : Int), 31 < 0 + List.length k, 31 < List.length k, (0 : Int) ≤ (31 : Int), 31 < 0 + List.length k, 31 < List.length k, 0 + (0 + List.length k) ≤ List.length k]) := by kernel_rfl
theorem runClamp1 (k : BL) : fnS Tryz.prog (lookG []) (orcA [(1, [(2, true)])]) [] 10 45 [sc (.d8 k)] =
    some (AV.tup [(false, [IV.d8 (cutL [] 0 0 0)]), (false, [IV.i64 (1 : Int)])], [(!(↑(List.length k) : Int) == (32 : Int)) = true, 0 ≤ 0]) := by kernel_rfl
theorem runRClamp (k : BL) : fnS Tryz.prog (lookG []) (orcA [(1, [(2, false)])]) [] 10 50 [sc (.d8 k)] =
    some (AV.tup [(false, [IV.d8 (cutL ((List.set k 0 (List.getD k 0 (BitVec.ofNat 8 0) - List.getD k 0 (BitVec.ofNat 8 0) % BitVec.ofNat 8 8)).set 31 ((List.set k 0 (List.getD k 0 (BitVec.ofNat 8 0) - List.getD k 0 (BitVec.ofNat 8 0) % BitVec.ofNat 8 8)).getD 31 (BitVec.ofNat 8 0) % BitVec.ofNat 8 64 + BitVec.ofNat 8 64)) 0 (0 + List.length k) (List.length k))]), (false, [IV.i64 (0 : Int)])], [(!(↑(List.length k) : Int) == (32 : Int)) = false, List.length k = List.length k, 0 = 0, (0 + List.length k) * 1 ≤ 140737488355328 ∧ 0 + List.length k ≤ 9223372036854775807, (0 : Int) ≤ (0 : Int), 0 < 0 + List.length k, 0 < List.length k, (0 : Int) ≤ (0 : Int), 0 < 0 + List.length k, 0 < List.length k, (0 : Int) ≤ (0 : Int), 0 < 0 + List.length k, 0 < List.length k, (0 : Int) ≤ (31 : Int), 31 < 0 + List.length k, 31 < List.length k, (0 : Int) ≤ (31 : Int), 31 < 0 + List.length k, 31 < List.length k, 0 + (0 + List.length k) ≤ List.length k]) := by kernel_rfl
theorem runRClamp1 (k : BL) : fnS Tryz.prog (lookG []) (orcA [(1, [(2, true)])]) [] 10 50 [sc (.d8 k)] =
    some (AV.tup [(false, [IV.d8 (cutL [] 0 0 0)]), (false, [IV.i64 (1 : Int)])], [(!(↑(List.length k) : Int) == (32 : Int)) = true, 0 ≤ 0]) := by kernel_rfl
def clampL (k : BL) : BL := (k.set 0 (k.getD 0 0#8 &&& 248#8)).set 31 ((k.set 0 (k.getD 0 0#8 &&& 248#8)).getD 31 0#8 &&& 63#8 ||| 64#8)
def clampV (k : BL) : BL × Int := if k.length = 32 then (clampL k, 0) else ([], 1)
theorem clampL_len (k : BL) : (clampL k).length = k.length := by simp [clampL]
theorem c248 : ∀ x : BitVec 8, x - x % 8#8 = x &&& 248#8 := by decide
theorem c63 : ∀ x : BitVec 8, x % 64#8 + 64#8 = x &&& 63#8 ||| 64#8 := by decide
theorem lcTk {n : Nat} (h : n = 32) : (!((n : Int) == (32 : Int))) = false := by rw [h]; rfl
theorem lcFk {n : Nat} (h : n ≠ 32) : (!((n : Int) == (32 : Int))) = true := by
  rw [Bool.not_eq_true', beq_eq_false_iff_ne]; omega
def spClamp : List AV → Option (AV × List Prop)
  | [.val false [.d8 k]] => some (.tup [(false, [.d8 (clampV k).1]), (false, [.i64 (clampV k).2])], [])
  | _ => none
theorem ctClamp : CtSOk Tryz.prog 45 (.fn spClamp) := FnS_of_fnS gs0 fol fun ds r cs h hc => by
  unfold spClamp at h
  split at h
  case h_2 => simp at h
  rename_i k
  simp only [Option.some.injEq, Prod.mk.injEq] at h
  obtain ⟨rfl, rfl⟩ := h
  by_cases h : k.length = 32
  · have r0 := runClamp k
    rw [Nat.zero_add] at r0
    refine use_run r0 (by rw [clampV, if_pos h, cutL_eq (by simp)]; simp only [List.drop_zero]; rw [List.take_of_length_le (by simp)]; rfl) ?_
    clear r0
    simp only [AllP]
    and_intros <;> first | exact True.intro | exact lcTk h | with_reducible rfl | omega
  · exact use_run (runClamp1 k) (by rw [clampV, if_neg h]; rfl) ⟨lcFk h, by omega, trivial⟩
theorem ctRClamp : CtSOk Tryz.prog 50 (.fn spClamp) := FnS_of_fnS gs0 fol fun ds r cs h hc => by
  unfold spClamp at h
  split at h
  case h_2 => simp at h
  rename_i k
  simp only [Option.some.injEq, Prod.mk.injEq] at h
  obtain ⟨rfl, rfl⟩ := h
  by_cases h : k.length = 32
  · have r0 := runRClamp k
    rw [Nat.zero_add, c248, c63] at r0
    refine use_run r0 (by rw [clampV, if_pos h, cutL_eq (by simp)]; simp only [List.drop_zero]; rw [List.take_of_length_le (by simp)]; rfl) ?_
    clear r0
    simp only [AllP]
    and_intros <;> first | exact True.intro | exact lcTk h | with_reducible rfl | omega
  · exact use_run (runRClamp1 k) (by rw [clampV, if_neg h]; rfl) ⟨lcFk h, by omega, trivial⟩
/-! ### A secret's bits -/
end Go.Proofs.YtlgiaglbdifkpaaGreatDoor
