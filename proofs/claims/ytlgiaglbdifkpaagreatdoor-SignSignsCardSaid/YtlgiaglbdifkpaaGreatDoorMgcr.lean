/- Texts put together: FdN FdO GlA GlB GlC GlP GlD CuA. Own work. -/
import Derived.Test.YtlgiaglbdifkpaaGreatDoorMgcq
import Derived.KernelRfl
/- Laws of the field, plainly. Own work; no program in sight. -/
namespace Go.Proofs.YtlgiaglbdifkpaaGreatDoor
open Go.Ev Go.Sp Go.RowKit
set_option maxRecDepth 100000
theorem fMul_comm (x y : Nat) : fMul x y = fMul y x := by unfold fMul; rw [Nat.mul_comm]
theorem fMul_assoc (x y z : Nat) : fMul (fMul x y) z = fMul x (fMul y z) := by unfold fMul; rw [Nat.mod_mul_mod, Nat.mul_mod_mod, Nat.mul_assoc]
theorem fAdd_comm (x y : Nat) : fAdd x y = fAdd y x := by unfold fAdd; rw [Nat.add_comm]
theorem fAdd_assoc (x y z : Nat) : fAdd (fAdd x y) z = fAdd x (fAdd y z) := by unfold fAdd; rw [Nat.mod_add_mod, Nat.add_mod_mod, Nat.add_assoc]
theorem fMul_add (x y z : Nat) : fMul x (fAdd y z) = fAdd (fMul x y) (fMul x z) := by unfold fMul fAdd; rw [Nat.mul_mod_mod, Nat.mul_add, ← Nat.add_mod]
theorem fMul_one {x : Nat} (h : x < Pp) : fMul x 1 = x := by unfold fMul; rw [Nat.mul_one, Nat.mod_eq_of_lt h]
theorem fNeg_zero : fNeg 0 = 0 := by unfold fNeg; rw [Nat.sub_zero, Nat.mod_self]
theorem fNeg_pos {x : Nat} (h0 : x ≠ 0) (h : x < Pp) : fNeg x = Pp - x := Nat.mod_eq_of_lt (by omega)
theorem fNeg_neg {x : Nat} (h : x < Pp) : fNeg (fNeg x) = x := by
  by_cases h0 : x = 0
  · subst h0; rw [fNeg_zero, fNeg_zero]
  · rw [fNeg_pos h0 h, fNeg_pos (by omega) (by omega)]; omega
theorem fAdd_neg {x : Nat} (h : x < Pp) : fAdd x (fNeg x) = 0 := by
  by_cases h0 : x = 0
  · subst h0; rw [fNeg_zero]; rfl
  · rw [fNeg_pos h0 h, fAdd, show x + (Pp - x) = Pp by omega, Nat.mod_self]
theorem fAdd_zero {x : Nat} (h : x < Pp) : fAdd x 0 = x := Nat.mod_eq_of_lt h
theorem fNeg_mul {x : Nat} (h : x < Pp) : fMul x (Pp - 1) = fNeg x := by
  by_cases h0 : x = 0
  · subst h0; rw [fNeg_zero, fMul, Nat.zero_mul, Nat.zero_mod]
  · rw [fNeg_pos h0 h, fMul]
    have e : x * (Pp - 1) = Pp - x + Pp * (x - 1) := by
      have hx : x * (Pp - 1) + x = x * Pp := by rw [← Nat.mul_succ, show (Pp - 1).succ = Pp by decide]
      have hy : Pp * (x - 1) + Pp = Pp * x := by rw [← Nat.mul_succ, show (x - 1).succ = x by omega]
      rw [Nat.mul_comm Pp x] at hy
      generalize x * (Pp - 1) = u at *
      generalize Pp * (x - 1) = v at *
      generalize x * Pp = w at *
      omega
    rw [e, Nat.add_mul_mod_self_left, Nat.mod_eq_of_lt (by omega)]
theorem fNeg_sq {x : Nat} (h : x < Pp) : fMul (fNeg x) (fNeg x) = fMul x x := by
  have h1 : fMul (Pp - 1) (Pp - 1) = 1 := by kernel_rfl
  rw [← fNeg_mul h, fMul_assoc, ← fMul_assoc (Pp - 1), fMul_comm (Pp - 1) x, fMul_assoc x, h1, ← fMul_assoc, fMul_one (fMul_lt _ _)]
theorem fNeg_mul2 {x y : Nat} (h : x < Pp) : fMul (fNeg x) y = fNeg (fMul x y) := by
  rw [← fNeg_mul h, fMul_assoc, fMul_comm (Pp - 1), ← fMul_assoc, fNeg_mul (fMul_lt _ _)]
theorem fMul_zero (x : Nat) : fMul x 0 = 0 := rfl
theorem dom {x y : Nat} (hx : x < Pp) (hy : y < Pp) (h : fMul x y = 0) : x = 0 ∨ y = 0 := by
  rcases euclid h with h | h
  · rw [Nat.mod_eq_of_lt hx] at h; exact .inl h
  · rw [Nat.mod_eq_of_lt hy] at h; exact .inr h
/-- Two numbers of one square. -/
theorem sq_eq {x y : Nat} (hx : x < Pp) (hy : y < Pp) (h : fMul x x = fMul y y) : x = y ∨ x = fNeg y := by
  have h1 : fMul (fAdd x (fNeg y)) (fAdd x y) = 0 := by
    rw [fMul_add, fMul_comm _ x, fMul_comm _ y, fMul_add, fMul_add, h, fMul_comm x (fNeg y), fMul_comm y (fNeg y), fNeg_mul2 hy, fNeg_mul2 hy, fMul_comm y x, fAdd_assoc]
    rw [← fAdd_assoc (fNeg _) (fMul x y), fAdd_comm (fNeg _) (fMul x y), fAdd_neg (fMul_lt _ _), fAdd_comm 0, fAdd_zero (fNeg_lt _), fAdd_neg (fMul_lt _ _)]
  have add0 : ∀ {a b : Nat}, a < Pp → b < Pp → fAdd a b = 0 → a = fNeg b := by
    intro a b ha hb h
    have : fAdd (fAdd a b) (fNeg b) = fNeg b := by rw [h, fAdd_comm, fAdd_zero (fNeg_lt _)]
    rw [fAdd_assoc, fAdd_neg hb, fAdd_zero ha] at this
    exact this
  rcases dom (fAdd_lt _ _) (fAdd_lt _ _) h1 with h | h
  · left; have := add0 hx (fNeg_lt _) h; rwa [fNeg_neg hy] at this
  · exact .inr (add0 hx hy h)
/-! ### Powers -/
theorem pw_one {x : Nat} (h : x < Pp) : pw x 1 = x := by unfold pw; rw [Nat.pow_one, Nat.mod_eq_of_lt h]
theorem pw_fmul (x y n : Nat) : pw (fMul x y) n = fMul (pw x n) (pw y n) := by unfold pw fMul; rw [← Nat.pow_mod, Nat.mul_pow, Nat.mul_mod]
theorem pw_fermat {x : Nat} (h0 : x ≠ 0) (h : x < Pp) : pw x (Pp - 1) = 1 := fermat h0 h
theorem pw_fast (a e : Nat) (he : e < p256) : pw a e = pm Pp 256 a e 1 % Pp := by
  rw [pm_ok Pp 256 a e 1 (by rw [show (2 : Nat) ^ 256 = p256 by decide]; exact he), Nat.one_mul]; rfl
theorem turn_sq : fMul turnQ turnQ = Pp - 1 := by
  unfold turnQ
  rw [pw_fast _ _ (by decide)]
  kernel_rfl
theorem pw_zero {n : Nat} (h : n ≠ 0) : pw 0 n = 0 := by unfold pw; rw [Nat.zero_pow (by omega)]; rfl
theorem one_lt : 1 < Pp := by decide
end Go.Proofs.YtlgiaglbdifkpaaGreatDoor
/- Roots, plainly. Own work; no program in sight. -/
namespace Go.Proofs.YtlgiaglbdifkpaaGreatDoor
open Go.Ev Go.Sp Go.RowKit
set_option maxRecDepth 100000
theorem turnN_Q : turnN = turnQ := by unfold turnN turnQ P14; with_reducible rfl
theorem rt0 {x : Nat} (hx : x < Pp) : rtX x 0 = pw x P38 := by
  rw [rtX]
  have := pw_mul x P58 1
  rw [pw_one hx] at this
  rw [this]
  rfl
theorem turn_mul {x : Nat} (hx : x < Pp) : fMul (fMul x turnQ) turnQ = fNeg x := by rw [fMul_assoc, turn_sq, fNeg_mul hx]
theorem rt1 {x : Nat} (hx : x < Pp) : rtX x 1 = fMul (pw x P38) turnQ := by rw [rtX, rt0 hx, turnN_Q]
theorem rt2 {x : Nat} (hx : x < Pp) : rtX x 2 = fNeg (pw x P38) := by rw [rtX, rt1 hx, turnN_Q, turn_mul (pw_lt _ _)]
theorem rt3 {x : Nat} (hx : x < Pp) : rtX x 3 = fNeg (fMul (pw x P38) turnQ) := by rw [rtX, rt2 hx, turnN_Q, fNeg_mul2 (pw_lt _ _)]
theorem turn_sq2 {r : Nat} : fMul (fMul r turnQ) (fMul r turnQ) = fNeg (fMul r r) := by
  rw [fMul_comm r turnQ, ← fMul_assoc, fMul_comm (fMul turnQ r) turnQ, ← fMul_assoc turnQ turnQ r, turn_sq, fMul_assoc, fMul_comm, fNeg_mul (fMul_lt _ _)]
theorem neg_even {r : Nat} (hr : r < Pp) (h : ¬ r % 2 = 0) : fNeg r % 2 = 0 := by
  have hp : Pp % 2 = 1 := by decide
  rw [fNeg_pos (by rintro rfl; exact h rfl) hr]
  generalize Pp = p at *
  omega
theorem neg_self {x : Nat} (hx : x < Pp) (h : fNeg x = x) : x = 0 := by
  by_cases h0 : x = 0
  · exact h0
  · have hp : Pp % 2 = 1 := by decide
    rw [fNeg_pos h0 hx] at h
    generalize Pp = p at *
    omega
theorem evT {r a : Nat} (h1 : r % 2 = 0) (h2 : fMul r r = a) : evV r a = true := by unfold evV; rw [h1, h2]; simp
theorem evF1 {r a : Nat} (h1 : ¬ r % 2 = 0) : evV r a = false := by unfold evV; rw [beq_eq_false_iff_ne.2 h1]; rfl
theorem evF2 {r a : Nat} (h1 : fMul r r ≠ a) : evV r a = false := by unfold evV; rw [beq_eq_false_iff_ne.2 h1, Bool.and_false]
theorem rtV_eq {x : Nat} (hx : x < Pp) : rtV x = prV x := by
  have hr : pw x P38 < Pp := pw_lt _ _
  have h0 := rt0 hx
  have h1 := rt1 hx
  have h2 := rt2 hx
  have h3 := rt3 hx
  have hsq : fMul (fMul (pw x P38) turnQ) (fMul (pw x P38) turnQ) = fNeg (fMul (pw x P38) (pw x P38)) := turn_sq2
  unfold prV rtV
  generalize pw x P38 = r at *
  have ho : fMul r turnQ < Pp := fMul_lt _ _
  have s2 := fNeg_sq hr
  have s3 := fNeg_sq ho
  by_cases e1 : fMul r r = x
  · rw [if_pos e1]
    by_cases p : r % 2 = 0
    · rw [rtS_at x 4 0 0 (by omega) (by omega) (by rw [h0]; exact evT p e1) (fun j h h' => by omega), h0, evenV, if_pos p]
    · have hx0 : x ≠ 0 := by
        rintro rfl
        rcases dom hr hr e1 with e | e <;> (subst e; exact p rfl)
      have n1 : evV (rtX x 1) x = false := by
        rw [h1]
        exact evF2 fun e => hx0 (neg_self hx (by rw [hsq, e1] at e; exact e))
      rw [rtS_at x 4 0 2 (by omega) (by omega) (by rw [h2]; exact evT (neg_even hr p) (s2.trans e1)) (fun j h h' => by
        have : j = 0 ∨ j = 1 := by omega
        rcases this with rfl | rfl
        · rw [h0]; exact evF1 p
        · exact n1), h2, evenV, if_neg p]
  · rw [if_neg e1]
    have n0 : evV (rtX x 0) x = false := by rw [h0]; exact evF2 e1
    have n2 : evV (rtX x 2) x = false := by rw [h2]; exact evF2 (by rw [s2]; exact e1)
    by_cases e2 : fMul (fMul r turnQ) (fMul r turnQ) = x
    · rw [if_pos e2]
      by_cases p : fMul r turnQ % 2 = 0
      · rw [rtS_at x 4 0 1 (by omega) (by omega) (by rw [h1]; exact evT p e2) (fun j h h' => by
          have : j = 0 := by omega
          rw [this]; exact n0), h1, evenV, if_pos p]
      · rw [rtS_at x 4 0 3 (by omega) (by omega) (by rw [h3]; exact evT (neg_even ho p) (s3.trans e2)) (fun j h h' => by
          have : j = 0 ∨ j = 1 ∨ j = 2 := by omega
          rcases this with rfl | rfl | rfl
          · exact n0
          · rw [h1]; exact evF1 p
          · exact n2), h3, evenV, if_neg p]
    · rw [if_neg e2, rtS_all x 4 0 fun j h h' => ?_]
      have : j = 0 ∨ j = 1 ∨ j = 2 ∨ j = 3 := by omega
      rcases this with rfl | rfl | rfl | rfl
      · exact n0
      · rw [h1]; exact evF2 e2
      · exact n2
      · rw [h3]; exact evF2 (by rw [s3]; exact e2)
/-! ### Which numbers have roots -/
def Pq : Nat := 14474011154664524427946373126085988481658748083205070504932198000989141204987
theorem sqV_iff {x : Nat} : sqV x = true ↔ pw x Ph = 1 ∨ x = 0 := by unfold sqV; simp
theorem sqV_of {x y : Nat} (hy : y < Pp) (h : fMul y y = x) : sqV x = true := by
  rw [sqV_iff]
  by_cases h0 : y = 0
  · subst h0; exact .inr h.symm
  · left
    rw [← h, pw_fmul, pw_mul, show Ph + Ph = Pp - 1 by decide]
    exact pw_fermat h0 hy
theorem rr {x : Nat} (hx : x < Pp) : fMul (pw x P38) (pw x P38) = fMul x (pw x Pq) := by
  have := pw_mul x 1 Pq
  rw [pw_one hx] at this
  rw [pw_mul, this, show P38 + P38 = 1 + Pq by decide]
theorem prV_of {x : Nat} (hx : x < Pp) (h : sqV x = true) : (prV x).2 = true := by
  have h1 := rr hx
  have h2 : fMul (fMul (pw x P38) turnQ) (fMul (pw x P38) turnQ) = fNeg (fMul (pw x P38) (pw x P38)) := turn_sq2
  unfold prV
  by_cases e1 : fMul (pw x P38) (pw x P38) = x
  · rw [if_pos e1]
  · rw [if_neg e1]
    rcases sqV_iff.1 h with h | h
    · have hs : fMul (pw x Pq) (pw x Pq) = fMul 1 1 := by rw [pw_mul, show Pq + Pq = Ph by decide, h]; rfl
      rcases sq_eq (pw_lt _ _) one_lt hs with e | e
      · rw [e, fMul_one hx] at h1
        exact absurd h1 e1
      · rw [e, show fNeg 1 = Pp - 1 by decide, fNeg_mul hx] at h1
        rw [h1, fNeg_neg hx] at h2
        rw [if_pos h2]
    · subst h
      refine absurd ?_ e1
      rw [pw_zero (n := P38) (by decide)]; exact fMul_zero 0
theorem evenV_sq {r : Nat} (hr : r < Pp) : fMul (evenV r) (evenV r) = fMul r r := by
  unfold evenV
  split
  · rfl
  · exact fNeg_sq hr
theorem evenV_lt {r : Nat} (hr : r < Pp) : evenV r < Pp := by
  unfold evenV
  split
  · exact hr
  · exact fNeg_lt _
theorem evenV_even {r : Nat} (hr : r < Pp) : evenV r % 2 = 0 := by
  unfold evenV
  split
  · assumption
  · exact neg_even hr ‹_›
theorem prV_sq {x : Nat} (h : (prV x).2 = true) : fMul (prV x).1 (prV x).1 = x ∧ (prV x).1 < Pp ∧ (prV x).1 % 2 = 0 := by
  unfold prV at *
  generalize turnQ = t at *
  by_cases e1 : fMul (pw x P38) (pw x P38) = x
  · rw [if_pos e1] at *
    exact ⟨(evenV_sq (pw_lt _ _)).trans e1, evenV_lt (pw_lt _ _), evenV_even (pw_lt _ _)⟩
  · rw [if_neg e1] at *
    by_cases e2 : fMul (fMul (pw x P38) t) (fMul (pw x P38) t) = x
    · rw [if_pos e2] at *
      exact ⟨(evenV_sq (fMul_lt _ _)).trans e2, evenV_lt (fMul_lt _ _), evenV_even (fMul_lt _ _)⟩
    · rw [if_neg e2] at h; simp at h
theorem prV_no {x : Nat} (h : (prV x).2 = false) : (prV x).1 = 0 := by
  unfold prV at *
  generalize turnQ = t at *
  by_cases e1 : fMul (pw x P38) (pw x P38) = x
  · rw [if_pos e1] at h; simp at h
  · rw [if_neg e1] at *
    by_cases e2 : fMul (fMul (pw x P38) t) (fMul (pw x P38) t) = x
    · rw [if_pos e2] at h; simp at h
    · rw [if_neg e2]
/-! ### Inverses -/
theorem inv_mul {x : Nat} (h0 : x ≠ 0) (hx : x < Pp) : fMul x (fInv x) = 1 := by
  have := pw_mul x 1 Pe
  rw [pw_one hx, show 1 + Pe = Pp - 1 by decide, pw_fermat h0 hx] at this
  exact this
end Go.Proofs.YtlgiaglbdifkpaaGreatDoor
/- The law of the curve -x^2 + y^2 = 1 + d x^2 y^2 over a field whose -1 is a square and whose d is none: sums are points, and hang on no order and no brackets. Own work; no program in sight. -/
namespace Go.Sp
/-- A field's numbers, and a curve's. -/
structure Cv (n : Nat) [NeZero n] where
  d : Fin n
  i : Fin n
  inv : Fin n → Fin n
  i2 : i * i = -1
  dom : ∀ a b : Fin n, a * b = 0 → a = 0 ∨ b = 0
  nsq : ∀ r : Fin n, r * r ≠ d
  inv_mul : ∀ a : Fin n, a ≠ 0 → a * inv a = 1
  one : (1 : Fin n) ≠ 0
  two : (2 : Fin n) ≠ 0
section
variable {n : Nat} [NeZero n]
theorem r_assoc_x (d x1 y1 x2 y2 x3 y3 : Fin n) (h1 : y1*y1 - x1*x1 = 1 + d*(x1*x1*(y1*y1))) (h2 : y2*y2 - x2*x2 = 1 + d*(x2*x2*(y2*y2))) (h3 : y3*y3 - x3*x3 = 1 + d*(x3*x3*(y3*y3))) :
    ((x1*y2+y1*x2)*(1 - d*(x1*x2*(y1*y2)))*y3 + (y1*y2+x1*x2)*(1 + d*(x1*x2*(y1*y2)))*x3) * ((1 - d*(x2*x3*(y2*y3)))*(1 + d*(x2*x3*(y2*y3))) + d * (x2*y3+y2*x3)*(y2*y3+x2*x3)*(x1*y1)) = (x1*(y2*y3+x2*x3)*(1 + d*(x2*x3*(y2*y3))) + y1*(x2*y3+y2*x3)*(1 - d*(x2*x3*(y2*y3)))) * ((1 - d*(x1*x2*(y1*y2)))*(1 + d*(x1*x2*(y1*y2))) + d * (x1*y2+y1*x2)*(y1*y2+x1*x2)*(x3*y3)) := by
  grind
theorem r_assoc_y (d x1 y1 x2 y2 x3 y3 : Fin n) (h1 : y1*y1 - x1*x1 = 1 + d*(x1*x1*(y1*y1))) (h2 : y2*y2 - x2*x2 = 1 + d*(x2*x2*(y2*y2))) (h3 : y3*y3 - x3*x3 = 1 + d*(x3*x3*(y3*y3))) :
    ((y1*y2+x1*x2)*(1 + d*(x1*x2*(y1*y2)))*y3 + (x1*y2+y1*x2)*(1 - d*(x1*x2*(y1*y2)))*x3) * ((1 - d*(x2*x3*(y2*y3)))*(1 + d*(x2*x3*(y2*y3))) - d * (x2*y3+y2*x3)*(y2*y3+x2*x3)*(x1*y1)) = (y1*(y2*y3+x2*x3)*(1 + d*(x2*x3*(y2*y3))) + x1*(x2*y3+y2*x3)*(1 - d*(x2*x3*(y2*y3)))) * ((1 - d*(x1*x2*(y1*y2)))*(1 + d*(x1*x2*(y1*y2))) - d * (x1*y2+y1*x2)*(y1*y2+x1*x2)*(x3*y3)) := by
  grind
theorem r_on (d x1 y1 x2 y2 : Fin n) (h1 : y1*y1 - x1*x1 = 1 + d*(x1*x1*(y1*y1))) (h2 : y2*y2 - x2*x2 = 1 + d*(x2*x2*(y2*y2))) :
    (y1*y2+x1*x2)*(y1*y2+x1*x2)*((1 + d*(x1*x2*(y1*y2)))*(1 + d*(x1*x2*(y1*y2)))) - (x1*y2+y1*x2)*(x1*y2+y1*x2)*((1 - d*(x1*x2*(y1*y2)))*(1 - d*(x1*x2*(y1*y2)))) = (1 + d*(x1*x2*(y1*y2)))*(1 + d*(x1*x2*(y1*y2)))*((1 - d*(x1*x2*(y1*y2)))*(1 - d*(x1*x2*(y1*y2)))) + d*((x1*y2+y1*x2)*(x1*y2+y1*x2)*((y1*y2+x1*x2)*(y1*y2+x1*x2))) := by
  grind
/-- What is behind the sum's being told everywhere. -/
theorem r_comp (d i e x1 y1 x2 y2 : Fin n) (hi : i * i = -1) (he : d*(x1*x2*(y1*y2)) = e) (h2e : e * e = 1) (h1 : y1*y1 - x1*x1 = 1 + d*(x1*x1*(y1*y1))) (h2 : y2*y2 - x2*x2 = 1 + d*(x2*x2*(y2*y2))) :
    (i*x1 + e*y1)*(i*x1 + e*y1) = d*((x1*y1*(i*x2 + y2))*(x1*y1*(i*x2 + y2))) := by
  grind
theorem r_comp' (d i e x1 y1 x2 y2 : Fin n) (hi : i * i = -1) (he : d*(x1*x2*(y1*y2)) = e) (h2e : e * e = 1) (h1 : y1*y1 - x1*x1 = 1 + d*(x1*x1*(y1*y1))) (h2 : y2*y2 - x2*x2 = 1 + d*(x2*x2*(y2*y2))) :
    (i*x1 - e*y1)*(i*x1 - e*y1) = d*((x1*y1*(i*x2 - y2))*(x1*y1*(i*x2 - y2))) := by
  grind
variable (C : Cv n)
def Cv.On (x y : Fin n) : Prop := y*y - x*x = 1 + C.d*(x*x*(y*y))
theorem Cv.mul_ne (C : Cv n) {a b : Fin n} (ha : a ≠ 0) (hb : b ≠ 0) : a * b ≠ 0 := fun h => (C.dom a b h).elim ha hb
theorem Cv.cancel (C : Cv n) {a b c : Fin n} (hc : c ≠ 0) (h : a * c = b * c) : a = b := by
  have h0 : (a - b) * c = 0 := by grind
  rcases C.dom _ _ h0 with h1 | h1
  · grind
  · exact absurd h1 hc
theorem Cv.notSq {w r : Fin n} (hw : w ≠ 0) : r * r ≠ C.d * (w * w) := fun h => by
  have h1 := C.inv_mul w hw
  exact C.nsq (r * C.inv w) (by grind)
theorem Cv.comp {x1 y1 x2 y2 : Fin n} (h1 : C.On x1 y1) (h2 : C.On x2 y2) : C.d*(x1*x2*(y1*y2)) * (C.d*(x1*x2*(y1*y2))) ≠ 1 := fun h => by
  obtain ⟨e, he⟩ : ∃ e, C.d*(x1*x2*(y1*y2)) = e := ⟨_, rfl⟩
  rw [he] at h
  have e0 : e ≠ 0 := fun h0 => C.one (by rw [h0] at h; grind)
  have xy : x1 * y1 ≠ 0 := fun h0 => e0 (by grind)
  have y20 : y2 ≠ 0 := fun h0 => e0 (by grind)
  have k1 := r_comp C.d C.i e x1 y1 x2 y2 C.i2 he h h1 h2
  have k2 := r_comp' C.d C.i e x1 y1 x2 y2 C.i2 he h h1 h2
  by_cases z1 : C.i*x2 + y2 = 0
  · by_cases z2 : C.i*x2 - y2 = 0
    · have : (2 : Fin n) * y2 = 0 := by grind
      exact (C.dom _ _ this).elim C.two y20
    · exact C.notSq (C.mul_ne xy z2) k2
  · exact C.notSq (C.mul_ne xy z1) k1
theorem Cv.nzA {x1 y1 x2 y2 : Fin n} (h1 : C.On x1 y1) (h2 : C.On x2 y2) : 1 + C.d*(x1*x2*(y1*y2)) ≠ 0 := fun h => C.comp h1 h2 (by grind)
theorem Cv.nzB {x1 y1 x2 y2 : Fin n} (h1 : C.On x1 y1) (h2 : C.On x2 y2) : 1 - C.d*(x1*x2*(y1*y2)) ≠ 0 := fun h => C.comp h1 h2 (by grind)
def Cv.ax (x1 y1 x2 y2 : Fin n) : Fin n := (x1*y2 + y1*x2) * C.inv (1 + C.d*(x1*x2*(y1*y2)))
def Cv.ay (x1 y1 x2 y2 : Fin n) : Fin n := (y1*y2 + x1*x2) * C.inv (1 - C.d*(x1*x2*(y1*y2)))
theorem Cv.ax_mul {x1 y1 x2 y2 : Fin n} (h1 : C.On x1 y1) (h2 : C.On x2 y2) : C.ax x1 y1 x2 y2 * (1 + C.d*(x1*x2*(y1*y2))) = x1*y2 + y1*x2 := by
  have := C.inv_mul _ (C.nzA h1 h2)
  unfold Cv.ax
  grind
theorem Cv.ay_mul {x1 y1 x2 y2 : Fin n} (h1 : C.On x1 y1) (h2 : C.On x2 y2) : C.ay x1 y1 x2 y2 * (1 - C.d*(x1*x2*(y1*y2))) = y1*y2 + x1*x2 := by
  have := C.inv_mul _ (C.nzB h1 h2)
  unfold Cv.ay
  grind
theorem r_on2 (d A B X Y u v : Fin n) (hu : u * A = X) (hv : v * B = Y) (h : Y*Y*(A*A) - X*X*(B*B) = A*A*(B*B) + d*(X*X*(Y*Y))) : (v*v - u*u) * (A*A*(B*B)) = (1 + d*(u*u*(v*v))) * (A*A*(B*B)) := by
  grind
theorem Cv.add_on {x1 y1 x2 y2 : Fin n} (h1 : C.On x1 y1) (h2 : C.On x2 y2) : C.On (C.ax x1 y1 x2 y2) (C.ay x1 y1 x2 y2) := by
  have a0 := C.nzA h1 h2
  have b0 := C.nzB h1 h2
  have hx := C.ax_mul h1 h2
  have hy := C.ay_mul h1 h2
  have hr := r_on C.d x1 y1 x2 y2 h1 h2
  generalize C.ax x1 y1 x2 y2 = u at *
  generalize C.ay x1 y1 x2 y2 = v at *
  exact C.cancel (C.mul_ne (C.mul_ne a0 a0) (C.mul_ne b0 b0)) (r_on2 C.d _ _ _ _ u v hx hy hr)
theorem r_cross_x (d A B X Y u v w x3 y3 : Fin n) (hu : u * A = X) (hv : v * B = Y) (hw : w * (1 + d*(u*x3*(v*y3))) = u*y3 + v*x3) : w * (B*A + d*X*Y*(x3*y3)) = X*B*y3 + Y*A*x3 ∧ B*A + d*X*Y*(x3*y3) = B*A*(1 + d*(u*x3*(v*y3))) := by
  grind
theorem r_cross_y (d A B X Y u v w x3 y3 : Fin n) (hu : u * A = X) (hv : v * B = Y) (hw : w * (1 - d*(u*x3*(v*y3))) = v*y3 + u*x3) : w * (B*A - d*X*Y*(x3*y3)) = Y*A*y3 + X*B*x3 ∧ B*A - d*X*Y*(x3*y3) = B*A*(1 - d*(u*x3*(v*y3))) := by
  grind
theorem r_cross_x' (d A B X Y u v w x3 y3 : Fin n) (hu : u * A = X) (hv : v * B = Y) (hw : w * (1 + d*(x3*u*(y3*v))) = x3*v + y3*u) : w * (B*A + d*X*Y*(x3*y3)) = x3*Y*A + y3*X*B ∧ B*A + d*X*Y*(x3*y3) = B*A*(1 + d*(x3*u*(y3*v))) := by
  grind
theorem r_cross_y' (d A B X Y u v w x3 y3 : Fin n) (hu : u * A = X) (hv : v * B = Y) (hw : w * (1 - d*(x3*u*(y3*v))) = y3*v + x3*u) : w * (B*A - d*X*Y*(x3*y3)) = y3*Y*A + x3*X*B ∧ B*A - d*X*Y*(x3*y3) = B*A*(1 - d*(x3*u*(y3*v))) := by
  grind
theorem Cv.eq_of_cross (C : Cv n) {u v N D N' D' : Fin n} (hD : D ≠ 0) (hD' : D' ≠ 0) (hu : u * D = N) (hv : v * D' = N') (h : N * D' = N' * D) : u = v := by
  refine C.cancel (C.mul_ne hD hD') ?_
  grind
theorem Cv.assoc_x {x1 y1 x2 y2 x3 y3 : Fin n} (h1 : C.On x1 y1) (h2 : C.On x2 y2) (h3 : C.On x3 y3) : C.ax (C.ax x1 y1 x2 y2) (C.ay x1 y1 x2 y2) x3 y3 = C.ax x1 y1 (C.ax x2 y2 x3 y3) (C.ay x2 y2 x3 y3) := by
  have k1 := C.ax_mul (C.add_on h1 h2) h3
  have k2 := C.ax_mul h1 (C.add_on h2 h3)
  have n1 := C.nzA (C.add_on h1 h2) h3
  have n2 := C.nzA h1 (C.add_on h2 h3)
  obtain ⟨p1, q1⟩ := r_cross_x C.d _ _ _ _ _ _ _ x3 y3 (C.ax_mul h1 h2) (C.ay_mul h1 h2) k1
  obtain ⟨p2, q2⟩ := r_cross_x' C.d _ _ _ _ _ _ _ x1 y1 (C.ax_mul h2 h3) (C.ay_mul h2 h3) k2
  refine C.eq_of_cross ?_ ?_ p1 p2 (r_assoc_x C.d x1 y1 x2 y2 x3 y3 h1 h2 h3)
  · rw [q1]; exact C.mul_ne (C.mul_ne (C.nzB h1 h2) (C.nzA h1 h2)) n1
  · rw [q2]; exact C.mul_ne (C.mul_ne (C.nzB h2 h3) (C.nzA h2 h3)) n2
theorem Cv.assoc_y {x1 y1 x2 y2 x3 y3 : Fin n} (h1 : C.On x1 y1) (h2 : C.On x2 y2) (h3 : C.On x3 y3) : C.ay (C.ax x1 y1 x2 y2) (C.ay x1 y1 x2 y2) x3 y3 = C.ay x1 y1 (C.ax x2 y2 x3 y3) (C.ay x2 y2 x3 y3) := by
  have k1 := C.ay_mul (C.add_on h1 h2) h3
  have k2 := C.ay_mul h1 (C.add_on h2 h3)
  have n1 := C.nzB (C.add_on h1 h2) h3
  have n2 := C.nzB h1 (C.add_on h2 h3)
  obtain ⟨p1, q1⟩ := r_cross_y C.d _ _ _ _ _ _ _ x3 y3 (C.ax_mul h1 h2) (C.ay_mul h1 h2) k1
  obtain ⟨p2, q2⟩ := r_cross_y' C.d _ _ _ _ _ _ _ x1 y1 (C.ax_mul h2 h3) (C.ay_mul h2 h3) k2
  refine C.eq_of_cross ?_ ?_ p1 p2 (r_assoc_y C.d x1 y1 x2 y2 x3 y3 h1 h2 h3)
  · rw [q1]; exact C.mul_ne (C.mul_ne (C.nzB h1 h2) (C.nzA h1 h2)) n1
  · rw [q2]; exact C.mul_ne (C.mul_ne (C.nzB h2 h3) (C.nzA h2 h3)) n2
end
/-- The curve's points. -/
structure Pt {n : Nat} [NeZero n] (C : Cv n) where
  x : Fin n
  y : Fin n
  on : C.On x y
section
variable {n : Nat} [NeZero n] {C : Cv n}
theorem Pt.ext {P Q : Pt C} (hx : P.x = Q.x) (hy : P.y = Q.y) : P = Q := by
  cases P; cases Q; cases hx; cases hy; rfl
def Pt.add (P Q : Pt C) : Pt C := ⟨C.ax P.x P.y Q.x Q.y, C.ay P.x P.y Q.x Q.y, C.add_on P.on Q.on⟩
def Pt.nought : Pt C := ⟨0, 1, by unfold Cv.On; grind⟩
def Pt.neg (P : Pt C) : Pt C := ⟨-P.x, P.y, by have := P.on; unfold Cv.On at *; grind⟩
theorem Pt.add_assoc (P Q R : Pt C) : (P.add Q).add R = P.add (Q.add R) := Pt.ext (C.assoc_x P.on Q.on R.on) (C.assoc_y P.on Q.on R.on)
theorem Pt.add_comm (P Q : Pt C) : P.add Q = Q.add P := by
  refine Pt.ext ?_ ?_
  · show C.ax _ _ _ _ = C.ax _ _ _ _
    unfold Cv.ax
    rw [show P.x * Q.x * (P.y * Q.y) = Q.x * P.x * (Q.y * P.y) by grind, show P.x * Q.y + P.y * Q.x = Q.x * P.y + Q.y * P.x by grind]
  · show C.ay _ _ _ _ = C.ay _ _ _ _
    unfold Cv.ay
    rw [show P.x * Q.x * (P.y * Q.y) = Q.x * P.x * (Q.y * P.y) by grind, show P.y * Q.y + P.x * Q.x = Q.y * P.y + Q.x * P.x by grind]
theorem Cv.inv_one (C : Cv n) : C.inv 1 = 1 := by
  have := C.inv_mul 1 C.one
  grind
theorem Pt.add_nought (P : Pt C) : P.add Pt.nought = P := by
  have h1 := C.inv_one
  refine Pt.ext ?_ ?_
  · show C.ax _ _ 0 1 = _
    unfold Cv.ax
    rw [show (1 : Fin n) + C.d*(P.x*0*(P.y*1)) = 1 by grind, h1]
    grind
  · show C.ay _ _ 0 1 = _
    unfold Cv.ay
    rw [show (1 : Fin n) - C.d*(P.x*0*(P.y*1)) = 1 by grind, h1]
    grind
theorem Pt.nought_add (P : Pt C) : Pt.nought.add P = P := by rw [Pt.add_comm, Pt.add_nought]
theorem Pt.add_neg (P : Pt C) : P.add P.neg = Pt.nought := by
  have hx := C.ax_mul P.on P.neg.on
  have hy := C.ay_mul P.on P.neg.on
  have a0 := C.nzA P.on P.neg.on
  have b0 := C.nzB P.on P.neg.on
  have hon : P.y*P.y - P.x*P.x = 1 + C.d*(P.x*P.x*(P.y*P.y)) := P.on
  refine Pt.ext (C.cancel a0 ?_) (C.cancel b0 ?_)
  · show C.ax _ _ _ _ * _ = 0 * _
    rw [hx]
    show P.x * P.y + P.y * -P.x = _
    grind
  · show C.ay _ _ _ _ * _ = 1 * _
    rw [hy]
    show P.y * P.y + P.x * -P.x = 1 * (1 - C.d*(P.x*(-P.x)*(P.y*P.y)))
    clear hx hy a0 b0
    generalize P.x = x at *
    generalize P.y = y at *
    have : y * y + x * -x = y * y - x * x := by grind
    rw [this, hon]
    grind
theorem Pt.neg_add (P : Pt C) : P.neg.add P = Pt.nought := by rw [Pt.add_comm, Pt.add_neg]
theorem Pt.cancel_right {P Q R : Pt C} (h : P.add R = Q.add R) : P = Q := by
  have := congrArg (·.add R.neg) h
  simpa only [Pt.add_assoc, Pt.add_neg, Pt.add_nought] using this
theorem Pt.add_left_comm (P Q R : Pt C) : P.add (Q.add R) = Q.add (P.add R) := by rw [← Pt.add_assoc, Pt.add_comm P Q, Pt.add_assoc]
/-- A point so many times. -/
def Pt.times : Nat → Pt C → Pt C
  | 0, _ => Pt.nought
  | k + 1, P => (Pt.times k P).add P
theorem Pt.times_zero (P : Pt C) : Pt.times 0 P = Pt.nought := rfl
theorem Pt.times_one (P : Pt C) : Pt.times 1 P = P := Pt.nought_add P
theorem Pt.times_add (a b : Nat) (P : Pt C) : Pt.times (a + b) P = (Pt.times a P).add (Pt.times b P) := by
  induction b with
  | zero => exact (Pt.add_nought _).symm
  | succ b ih => show (Pt.times (a + b) P).add P = _; rw [ih, Pt.add_assoc]; rfl
theorem Pt.times_nought (a : Nat) : Pt.times a (Pt.nought : Pt C) = Pt.nought := by
  induction a with
  | zero => rfl
  | succ a ih => show (Pt.times a Pt.nought).add Pt.nought = _; rw [ih, Pt.add_nought]
theorem Pt.times_sum (a : Nat) (P Q : Pt C) : Pt.times a (P.add Q) = (Pt.times a P).add (Pt.times a Q) := by
  induction a with
  | zero => exact (Pt.add_nought _).symm
  | succ a ih =>
    show (Pt.times a (P.add Q)).add (P.add Q) = ((Pt.times a P).add P).add ((Pt.times a Q).add Q)
    rw [ih, Pt.add_assoc, Pt.add_assoc, Pt.add_left_comm (Pt.times a Q)]
theorem Pt.times_neg (a : Nat) (P : Pt C) : Pt.times a P.neg = (Pt.times a P).neg := by
  refine Pt.cancel_right (R := Pt.times a P) ?_
  rw [← Pt.times_sum, Pt.neg_add, Pt.neg_add, Pt.times_nought]
end
end Go.Sp
/- The curve's points over numbers of their own: sums with four numbers and with three, multiples bit by bit; the ladder's steps. Own work; no program in sight. -/
namespace Go.Sp
section
variable {n : Nat} [NeZero n] {C : Cv n}
structure Rep4 (P : Pt C) (X Y Z T : Fin n) : Prop where
  z : Z ≠ 0
  hx : X = P.x * Z
  hy : Y = P.y * Z
  ht : T = P.x * P.y * Z
theorem r4_EG (x1 y1 z1 x2 y2 z2 d u A : Fin n) (hA : A = 1 + d*(x1*x2*(y1*y2))) (hu : u * A = x1*y2 + y1*x2) :
    (y1*z1 + x1*z1)*(y2*z2 + x2*z2) - (y1*z1 - x1*z1)*(y2*z2 - x2*z2) = u * (z1*(z2+z2) + x1*y1*z1*((d+d)*(x2*y2*z2))) := by
  subst hA
  grind
theorem r4_HF (x1 y1 z1 x2 y2 z2 d v B : Fin n) (hB : B = 1 - d*(x1*x2*(y1*y2))) (hv : v * B = y1*y2 + x1*x2) :
    (y1*z1 + x1*z1)*(y2*z2 + x2*z2) + (y1*z1 - x1*z1)*(y2*z2 - x2*z2) = v * (z1*(z2+z2) - x1*y1*z1*((d+d)*(x2*y2*z2))) := by
  subst hB
  grind
theorem r4_F (x1 y1 z1 x2 y2 z2 d : Fin n) : z1*(z2+z2) - x1*y1*z1*((d+d)*(x2*y2*z2)) = 2*(z1*z2)*(1 - d*(x1*x2*(y1*y2))) := by grind
theorem r4_G (x1 y1 z1 x2 y2 z2 d : Fin n) : z1*(z2+z2) + x1*y1*z1*((d+d)*(x2*y2*z2)) = 2*(z1*z2)*(1 + d*(x1*x2*(y1*y2))) := by grind
theorem r4_fin (u v F G : Fin n) : u*G*F = u*(F*G) ∧ G*(v*F) = v*(F*G) ∧ u*G*(v*F) = u*v*(F*G) := by grind
theorem Rep4.add {P Q : Pt C} {X1 Y1 Z1 T1 X2 Y2 Z2 T2 : Fin n} (h1 : Rep4 P X1 Y1 Z1 T1) (h2 : Rep4 Q X2 Y2 Z2 T2) :
    Rep4 (P.add Q) (((Y1 + X1)*(Y2 + X2) - (Y1 - X1)*(Y2 - X2)) * (Z1*(Z2+Z2) - T1*((C.d+C.d)*T2))) ((Z1*(Z2+Z2) + T1*((C.d+C.d)*T2)) * ((Y1 + X1)*(Y2 + X2) + (Y1 - X1)*(Y2 - X2)))
      ((Z1*(Z2+Z2) - T1*((C.d+C.d)*T2)) * (Z1*(Z2+Z2) + T1*((C.d+C.d)*T2))) (((Y1 + X1)*(Y2 + X2) - (Y1 - X1)*(Y2 - X2)) * ((Y1 + X1)*(Y2 + X2) + (Y1 - X1)*(Y2 - X2))) := by
  obtain ⟨z1, rfl, rfl, rfl⟩ := h1
  obtain ⟨z2, rfl, rfl, rfl⟩ := h2
  have hu := C.ax_mul P.on Q.on
  have hv := C.ay_mul P.on Q.on
  have e1 := r4_EG P.x P.y Z1 Q.x Q.y Z2 C.d _ _ rfl hu
  have e2 := r4_HF P.x P.y Z1 Q.x Q.y Z2 C.d _ _ rfl hv
  rw [e1, e2]
  have eF := r4_F P.x P.y Z1 Q.x Q.y Z2 C.d
  have eG := r4_G P.x P.y Z1 Q.x Q.y Z2 C.d
  have nz := C.mul_ne C.two (C.mul_ne z1 z2)
  have nF := C.mul_ne nz (C.nzB P.on Q.on)
  have nG := C.mul_ne nz (C.nzA P.on Q.on)
  rw [← eF] at nF
  rw [← eG] at nG
  obtain ⟨q1, q2, q3⟩ := r4_fin (C.ax P.x P.y Q.x Q.y) (C.ay P.x P.y Q.x Q.y) (Z1*(Z2+Z2) - P.x*P.y*Z1*((C.d+C.d)*(Q.x*Q.y*Z2))) (Z1*(Z2+Z2) + P.x*P.y*Z1*((C.d+C.d)*(Q.x*Q.y*Z2)))
  exact ⟨C.mul_ne nF nG, q1, q2, q3⟩
theorem Rep4.of (P : Pt C) : Rep4 P P.x P.y 1 (P.x * P.y) := ⟨C.one, by grind, by grind, by grind⟩
theorem Rep4.nought : Rep4 (Pt.nought : Pt C) 0 1 1 0 := ⟨C.one, by show (0 : Fin n) = 0 * 1; grind, by show (1 : Fin n) = 1 * 1; grind, by show (0 : Fin n) = 0 * 1 * 1; grind⟩
theorem r_point (x Z i : Fin n) (h : Z * i = 1) : x * Z * i = x := by grind
theorem Rep4.point {P : Pt C} {X Y Z T : Fin n} (h : Rep4 P X Y Z T) : X * C.inv Z = P.x ∧ Y * C.inv Z = P.y := by
  obtain ⟨z, rfl, rfl, rfl⟩ := h
  exact ⟨r_point _ _ _ (C.inv_mul _ z), r_point _ _ _ (C.inv_mul _ z)⟩
structure Rep3 (P : Pt C) (X Y Z : Fin n) : Prop where
  z : Z ≠ 0
  hx : X = P.x * Z
  hy : Y = P.y * Z
theorem r3_low (x1 y1 z1 x2 y2 z2 d : Fin n) : z1*z2*(z1*z2) - d*(x1*z1*(x2*z2)*(y1*z1*(y2*z2))) = z1*z2*(z1*z2)*(1 - d*(x1*x2*(y1*y2))) := by grind
theorem r3_high (x1 y1 z1 x2 y2 z2 d : Fin n) : z1*z2*(z1*z2) + d*(x1*z1*(x2*z2)*(y1*z1*(y2*z2))) = z1*z2*(z1*z2)*(1 + d*(x1*x2*(y1*y2))) := by grind
theorem r3_x (x1 y1 z1 x2 y2 z2 A u L : Fin n) (hu : u * A = x1*y2 + y1*x2) : z1*z2*(L*(x1*z1*(y2*z2) + y1*z1*(x2*z2))) = u*(L*(z1*z2*(z1*z2)*A)) := by grind
theorem r3_y (x1 y1 z1 x2 y2 z2 B v H : Fin n) (hv : v * B = y1*y2 + x1*x2) : z1*z2*(H*(y1*z1*(y2*z2) + x1*z1*(x2*z2))) = v*(z1*z2*(z1*z2)*B*H) := by grind
theorem Rep3.add {P Q : Pt C} {X1 Y1 Z1 X2 Y2 Z2 : Fin n} (h1 : Rep3 P X1 Y1 Z1) (h2 : Rep3 Q X2 Y2 Z2) :
    Rep3 (P.add Q) (Z1*Z2*((Z1*Z2*(Z1*Z2) - C.d*(X1*X2*(Y1*Y2)))*(X1*Y2 + Y1*X2))) (Z1*Z2*((Z1*Z2*(Z1*Z2) + C.d*(X1*X2*(Y1*Y2)))*(Y1*Y2 + X1*X2))) ((Z1*Z2*(Z1*Z2) - C.d*(X1*X2*(Y1*Y2)))*(Z1*Z2*(Z1*Z2) + C.d*(X1*X2*(Y1*Y2)))) := by
  obtain ⟨z1, rfl, rfl⟩ := h1
  obtain ⟨z2, rfl, rfl⟩ := h2
  have hu := C.ax_mul P.on Q.on
  have hv := C.ay_mul P.on Q.on
  rw [r3_low, r3_high]
  have nz := C.mul_ne (C.mul_ne z1 z2) (C.mul_ne z1 z2)
  exact ⟨C.mul_ne (C.mul_ne nz (C.nzB P.on Q.on)) (C.mul_ne nz (C.nzA P.on Q.on)), r3_x _ _ _ _ _ _ _ _ _ hu, r3_y _ _ _ _ _ _ _ _ _ hv⟩
theorem Rep3.of (P : Pt C) : Rep3 P P.x P.y 1 := ⟨C.one, by grind, by grind⟩
theorem Rep3.nought : Rep3 (Pt.nought : Pt C) 0 1 1 := ⟨C.one, by show (0 : Fin n) = 0 * 1; grind, by show (1 : Fin n) = 1 * 1; grind⟩
theorem Rep3.point {P : Pt C} {X Y Z : Fin n} (h : Rep3 P X Y Z) : X * C.inv Z = P.x ∧ Y * C.inv Z = P.y := by
  obtain ⟨z, rfl, rfl⟩ := h
  exact ⟨r_point _ _ _ (C.inv_mul _ z), r_point _ _ _ (C.inv_mul _ z)⟩
/-! ### The ladder: y told as 1 + y over 1 - y -/
structure RepL (P : Pt C) (X Z : Fin n) : Prop where
  ex : ∃ t : Fin n, t ≠ 0 ∧ X = t * (1 + P.y) ∧ Z = t * (1 - P.y)
theorem Cv.nzD (C : Cv n) (y : Fin n) : 1 + C.d*(y*y) ≠ 0 := fun h => by
  have y0 : y ≠ 0 := fun h0 => C.one (by rw [h0] at h; grind)
  have hi := C.i2
  exact C.notSq y0 (r := C.i) (by grind)
/-- The curve's number by the ladder's. -/
def Cv.Mont (C : Cv n) (a : Fin n) : Prop := a + 1 ≠ 0 ∧ C.d * (a + 1) = -a
theorem l_p1 (s B S : Fin n) (h : s * B = S) : (1 + s) * B = B + S := by grind
theorem l_m1 (s B S : Fin n) (h : s * B = S) : (1 - s) * B = B - S := by grind
theorem l_prod (s b A B S T W : Fin n) (hs : s * B = S) (hb : b * A = T) : s * b * (A * B * W) = S * T * W := by grind
theorem l_sumB (d xp yp xq yq : Fin n) (hp : yp*yp - xp*xp = 1 + d*(xp*xp*(yp*yp))) (hq : yq*yq - xq*xq = 1 + d*(xq*xq*(yq*yq))) :
    (1 - d*(xp*xq*(yp*yq)) + (yp*yq + xp*xq))*(1 + d*(xp*xq*(yp*yq)) + (yp*yq - xp*xq))*((1 + d*(yp*yp))*(1 + d*(yq*yq))) = (1+d)*((yp+yq)*(yp+yq))*(1 + d*(yp*yq*(yp*yq))) := by grind
theorem l_sumB' (d xp yp xq yq : Fin n) (hp : yp*yp - xp*xp = 1 + d*(xp*xp*(yp*yp))) (hq : yq*yq - xq*xq = 1 + d*(xq*xq*(yq*yq))) :
    (1 - d*(xp*xq*(yp*yq)) - (yp*yq + xp*xq))*(1 + d*(xp*xq*(yp*yq)) - (yp*yq - xp*xq))*((1 + d*(yp*yp))*(1 + d*(yq*yq))) = (1+d)*((yp-yq)*(yp-yq))*(1 + d*(yp*yq*(yp*yq))) := by grind
theorem l_sum (d xp yp xq yq s b : Fin n) (hp : yp*yp - xp*xp = 1 + d*(xp*xp*(yp*yp))) (hq : yq*yq - xq*xq = 1 + d*(xq*xq*(yq*yq)))
    (hs : s * (1 - d*(xp*xq*(yp*yq))) = yp*yq + xp*xq) (hb : b * (1 + d*(xp*xq*(yp*yq))) = yp*yq - xp*xq) :
    (1+s)*(1+b)*((1 + d*(xp*xq*(yp*yq)))*(1 - d*(xp*xq*(yp*yq)))*((1 + d*(yp*yp))*(1 + d*(yq*yq)))) = (1+d)*((yp+yq)*(yp+yq))*(1 + d*(yp*yq*(yp*yq))) :=
  (l_prod _ _ _ _ _ _ _ (l_p1 _ _ _ hs) (l_p1 _ _ _ hb)).trans (l_sumB d xp yp xq yq hp hq)
theorem l_sum' (d xp yp xq yq s b : Fin n) (hp : yp*yp - xp*xp = 1 + d*(xp*xp*(yp*yp))) (hq : yq*yq - xq*xq = 1 + d*(xq*xq*(yq*yq)))
    (hs : s * (1 - d*(xp*xq*(yp*yq))) = yp*yq + xp*xq) (hb : b * (1 + d*(xp*xq*(yp*yq))) = yp*yq - xp*xq) :
    (1-s)*(1-b)*((1 + d*(xp*xq*(yp*yq)))*(1 - d*(xp*xq*(yp*yq)))*((1 + d*(yp*yp))*(1 + d*(yq*yq)))) = (1+d)*((yp-yq)*(yp-yq))*(1 + d*(yp*yq*(yp*yq))) :=
  (l_prod _ _ _ _ _ _ _ (l_m1 _ _ _ hs) (l_m1 _ _ _ hb)).trans (l_sumB' d xp yp xq yq hp hq)
theorem l_dif (tp yp tq yq : Fin n) :
    ((tq*(1+yq) - tq*(1-yq))*(tp*(1+yp) + tp*(1-yp)) + (tq*(1+yq) + tq*(1-yq))*(tp*(1+yp) - tp*(1-yp)))*((tq*(1+yq) - tq*(1-yq))*(tp*(1+yp) + tp*(1-yp)) + (tq*(1+yq) + tq*(1-yq))*(tp*(1+yp) - tp*(1-yp))) = 16*(tp*tp*(tq*tq))*((yp+yq)*(yp+yq)) ∧
    ((tq*(1+yq) - tq*(1-yq))*(tp*(1+yp) + tp*(1-yp)) - (tq*(1+yq) + tq*(1-yq))*(tp*(1+yp) - tp*(1-yp)))*((tq*(1+yq) - tq*(1-yq))*(tp*(1+yp) + tp*(1-yp)) - (tq*(1+yq) + tq*(1-yq))*(tp*(1+yp) - tp*(1-yp))) = 16*(tp*tp*(tq*tq))*((yp-yq)*(yp-yq)) := by
  grind
theorem l_kk (S k ik D : Fin n) (hk : k * ik = 1) (h : D = k * S) : S = D * ik := by grind
theorem l_fin (T S W k ik s b : Fin n) (hk : k * ik = 1) (h : (1+s)*(1+b)*W = k*S) : 16*T*S = 16*T*(1+b)*W*ik*(1+s) := by
  have e := l_kk S k ik _ hk h
  rw [e]
  clear e h hk
  grind
theorem l_fin' (T S W k ik s b u : Fin n) (hk : k * ik = 1) (h : (1-s)*(1-b)*W = k*S) (hu : u * (1 - b) = 1 + b) : u*(16*T*S) = 16*T*(1+b)*W*ik*(1-s) := by
  have e := l_kk S k ik _ hk h
  rw [e, ← hu]
  clear e h hk hu
  grind
theorem l_mm (D S M : Fin n) : D * S * M = D * M * S := by grind
theorem l_neg (d a b c e : Fin n) : 1 - d*(a*(-b)*(c*e)) = 1 + d*(b*a*(e*c)) ∧ c*e + a*(-b) = e*c - b*a := by grind
theorem l_d1 (d a : Fin n) (h : d*(a+1) = -a) (h0 : 1 + d = 0) : (1 : Fin n) = 0 := by grind
theorem l_16 : (16 : Fin n) = 2*2*(2*2) := by grind
theorem l_z (k i : Fin n) (h : k * i = 1) (h0 : i = 0) : (1 : Fin n) = 0 := by grind
theorem RepL.sum {a : Fin n} (ha : C.Mont a) {P Q : Pt C} {X Z X' Z' u : Fin n} (h : RepL P X Z) (h' : RepL Q X' Z') (hu : u * (1 - (Q.add P.neg).y) = 1 + (Q.add P.neg).y) (hb : 1 + (Q.add P.neg).y ≠ 0) :
    RepL (P.add Q) (((X'-Z')*(X+Z) + (X'+Z')*(X-Z))*((X'-Z')*(X+Z) + (X'+Z')*(X-Z))) (u*(((X'-Z')*(X+Z) - (X'+Z')*(X-Z))*((X'-Z')*(X+Z) - (X'+Z')*(X-Z)))) := by
  obtain ⟨p, hp, rfl, rfl⟩ := h.ex
  obtain ⟨q, hq, rfl, rfl⟩ := h'.ex
  obtain ⟨d1, d2⟩ := l_dif p P.y q Q.y
  rw [d1, d2]
  have hs := C.ay_mul P.on Q.on
  have hn := C.ay_mul Q.on P.neg.on
  obtain ⟨hA, hN⟩ := l_neg C.d Q.x P.x Q.y P.y
  have hn' : C.ay Q.x Q.y P.neg.x P.neg.y * (1 + C.d*(P.x*Q.x*(P.y*Q.y))) = P.y*Q.y - P.x*Q.x := by
    rw [← hA, ← hN]; exact hn
  have e1 := l_sum C.d P.x P.y Q.x Q.y (C.ay P.x P.y Q.x Q.y) (C.ay Q.x Q.y P.neg.x P.neg.y) P.on Q.on hs hn'
  have e2 := l_sum' C.d P.x P.y Q.x Q.y (C.ay P.x P.y Q.x Q.y) (C.ay Q.x Q.y P.neg.x P.neg.y) P.on Q.on hs hn'
  replace e1 := e1.trans (l_mm (1 + C.d) _ _)
  replace e2 := e2.trans (l_mm (1 + C.d) _ _)
  have d1n : 1 + C.d ≠ 0 := fun h0 => C.one (l_d1 _ _ ha.2 h0)
  have kn : (1 + C.d)*(1 + C.d*(P.y*Q.y*(P.y*Q.y))) ≠ 0 := C.mul_ne d1n (C.nzD _)
  have ki := C.inv_mul _ kn
  have wn := C.mul_ne (C.mul_ne (C.nzA P.on Q.on) (C.nzB P.on Q.on)) (C.mul_ne (C.nzD P.y) (C.nzD Q.y))
  have h16 : (16 : Fin n) ≠ 0 := by rw [l_16]; exact C.mul_ne (C.mul_ne C.two C.two) (C.mul_ne C.two C.two)
  have in0 := fun h0 => C.one (l_z _ _ ki h0)
  exact ⟨⟨_, C.mul_ne (C.mul_ne (C.mul_ne (C.mul_ne h16 (C.mul_ne (C.mul_ne hp hp) (C.mul_ne hq hq))) hb) wn) in0, l_fin _ _ _ _ _ _ _ ki e1, l_fin' _ _ _ _ _ _ _ u ki e2 hu⟩⟩
theorem l_ji (t z i j : Fin n) (h1 : z * i = 1) (h2 : t * z * j = 1) : j * t * z = i * z := by grind
theorem l_tj (t a j : Fin n) : t * a * j = a * (j * t) := by grind
/-- What the ladder comes to: 1 + y over 1 - y, 0 if 1 - y is 0. -/
theorem RepL.out {P : Pt C} {X Z : Fin n} (h : RepL P X Z) (h0 : C.inv 0 = 0) : X * C.inv Z = (1 + P.y) * C.inv (1 - P.y) := by
  obtain ⟨t, ht, rfl, rfl⟩ := h.ex
  by_cases hz : 1 - P.y = 0
  · rw [hz, show t * (0 : Fin n) = 0 by grind, h0]; grind
  · have h1 := C.inv_mul _ hz
    have h2 := C.inv_mul _ (C.mul_ne ht hz)
    generalize C.inv (1 - P.y) = i at *
    generalize C.inv (t * (1 - P.y)) = j at *
    have : j * t = i := C.cancel hz (l_ji _ _ _ _ h1 h2)
    rw [← this]
    exact l_tj _ _ _
theorem RepL.nought : RepL (Pt.nought : Pt C) 1 0 := by
  have h2 := C.inv_mul _ C.two
  refine ⟨⟨C.inv 2, fun h0 => C.one (by rw [h0] at h2; grind), ?_, ?_⟩⟩
  · show (1 : Fin n) = C.inv 2 * (1 + 1); grind
  · show (0 : Fin n) = C.inv 2 * (1 - 1); grind
theorem RepL.base {P : Pt C} {u : Fin n} (hu : u * (1 - P.y) = 1 + P.y) (h1 : 1 - P.y ≠ 0) : RepL P u 1 := by
  have hi := C.inv_mul _ h1
  refine ⟨⟨C.inv (1 - P.y), fun h0 => C.one (by rw [h0] at hi; grind), ?_, ?_⟩⟩
  · rw [← hu]; grind
  · grind
end
end Go.Sp
/- The field's numbers as a field, and the curve's numbers: the points of edwards25519. Own work; no program in sight. -/
namespace Go.Proofs.YtlgiaglbdifkpaaGreatDoor
open Go.Ev Go.Sp Go.RowKit
set_option maxRecDepth 100000
instance instNeZeroPp : NeZero Pp := ⟨by decide⟩
def tF (x : Nat) : Fin Pp := ⟨x % Pp, Nat.mod_lt _ Pp_pos⟩
theorem fin_mul {n : Nat} (a b : Fin n) : (a * b).val = a.val * b.val % n := rfl
theorem fin_add {n : Nat} (a b : Fin n) : (a + b).val = (a.val + b.val) % n := rfl
theorem fin_neg {n : Nat} [NeZero n] (a : Fin n) : (-a).val = (n - a.val) % n := rfl
theorem fin_sub {n : Nat} [NeZero n] (a b : Fin n) : a - b = a + -b := by grind
theorem tF_mul (x y : Nat) : tF (fMul x y) = tF x * tF y := by
  apply Fin.ext
  rw [fin_mul]
  show x * y % Pp % Pp = x % Pp * (y % Pp) % Pp
  rw [Nat.mod_mod, ← Nat.mul_mod]
theorem tF_add (x y : Nat) : tF (fAdd x y) = tF x + tF y := by
  apply Fin.ext
  rw [fin_add]
  show (x + y) % Pp % Pp = (x % Pp + y % Pp) % Pp
  rw [Nat.mod_mod, ← Nat.add_mod]
theorem tF_neg {x : Nat} (h : x < Pp) : tF (fNeg x) = -tF x := by
  apply Fin.ext
  rw [fin_neg]
  show (Pp - x) % Pp % Pp = (Pp - x % Pp) % Pp
  rw [Nat.mod_mod, Nat.mod_eq_of_lt h]
theorem tF_sub (x : Nat) {y : Nat} (h : y < Pp) : tF (fSub x y) = tF x - tF y := by
  unfold fSub
  rw [tF_add, tF_neg h, fin_sub]
theorem tF_val (a : Fin Pp) : tF a.val = a := Fin.ext (Nat.mod_eq_of_lt a.isLt)
theorem val_tF {x : Nat} (h : x < Pp) : (tF x).val = x := Nat.mod_eq_of_lt h
theorem tF_inj {x y : Nat} (hx : x < Pp) (hy : y < Pp) (h : tF x = tF y) : x = y := by
  rw [← val_tF hx, ← val_tF hy, h]
theorem tF_zero : tF 0 = 0 := Fin.ext (by kernel_rfl)
theorem tF_one : tF 1 = 1 := Fin.ext (by kernel_rfl)
theorem tF_two : tF 2 = 2 := Fin.ext (by kernel_rfl)
theorem fInv_mul {x : Nat} (h0 : x ≠ 0) (h : x < Pp) : fMul x (fInv x) = 1 := by
  unfold fInv
  have h1 : pw x 1 = x := pw_one h
  have h2 := pw_mul x 1 Pe
  rw [h1, show 1 + Pe = Pp - 1 by decide, pw_fermat h0 h] at h2
  exact h2
theorem fInv_lt (x : Nat) : fInv x < Pp := pw_lt _ _
/-- The curve's number. -/
def dN : Nat := 37095705934669439343138083508754565189542113879843219016388785533085940283555
theorem dN_lt : dN < Pp := by decide
theorem dN_sq : sqV dN = false := by
  unfold sqV
  rw [pw_fast dN Ph (by decide)]
  kernel_rfl
def Ed : Cv Pp where
  d := tF dN
  i := tF turnQ
  inv a := tF (fInv a.val)
  i2 := by
    rw [← tF_mul, turn_sq]
    have h : Pp - 1 = fNeg 1 := (Nat.mod_eq_of_lt (by decide)).symm
    rw [h, tF_neg (by decide), tF_one]
  dom a b h := by
    rw [← tF_val a, ← tF_val b, ← tF_mul, ← tF_zero] at h
    have := tF_inj (fMul_lt _ _) Pp_pos h
    rcases Go.Proofs.YtlgiaglbdifkpaaGreatDoor.dom a.isLt b.isLt this with h0 | h0
    · left; rw [← tF_val a, h0, tF_zero]
    · right; rw [← tF_val b, h0, tF_zero]
  nsq r h := by
    rw [← tF_val r, ← tF_mul] at h
    have h1 := tF_inj (fMul_lt _ _) dN_lt h
    have h2 := sqV_of r.isLt h1
    rw [dN_sq] at h2
    exact Bool.noConfusion h2
  inv_mul a h := by
    have h0 : a.val ≠ 0 := fun e => h (by rw [← tF_val a, e, tF_zero])
    have := fInv_mul h0 a.isLt
    calc a * tF (fInv a.val) = tF a.val * tF (fInv a.val) := by rw [tF_val]
      _ = tF (fMul a.val (fInv a.val)) := (tF_mul _ _).symm
      _ = 1 := by rw [this, tF_one]
  one := by
    rw [← tF_one, ← tF_zero]
    exact fun h => absurd (tF_inj (by decide) Pp_pos h) (by decide)
  two := by
    rw [← tF_two, ← tF_zero]
    exact fun h => absurd (tF_inj (by decide) Pp_pos h) (by decide)
theorem tF_inv {x : Nat} (h : x < Pp) : tF (fInv x) = Ed.inv (tF x) := by
  show tF (fInv x) = tF (fInv (tF x).val)
  rw [val_tF h]
end Go.Proofs.YtlgiaglbdifkpaaGreatDoor
/- The order of the base point is prime. Own work; no program in sight. -/
namespace Go.Sp
open Go.Ev Go.RowKit
def Lp : Nat := 7237005577332262213973186563042994240857116359379907606001950938285454250989
end Go.Sp
/- The points of edwards25519 by the field's numbers: sums with three and four numbers, multiples, the base point and its order. Own work; no program in sight. -/
namespace Go.Proofs.YtlgiaglbdifkpaaGreatDoor
open Go.Ev Go.Sp Go.RowKit
set_option maxRecDepth 100000
/-! ### Three numbers a point -/
structure T3 where
  x : Nat
  y : Nat
  z : Nat
def T3.Lt (p : T3) : Prop := p.x < Pp ∧ p.y < Pp ∧ p.z < Pp
/-- The sum, by the curve's number. -/
def plus3 (d : Nat) (p q : T3) : T3 :=
  ⟨fMul (fMul p.z q.z) (fMul (fSub (fMul (fMul p.z q.z) (fMul p.z q.z)) (fMul d (fMul (fMul p.x q.x) (fMul p.y q.y)))) (fAdd (fMul p.x q.y) (fMul p.y q.x))),
   fMul (fMul p.z q.z) (fMul (fAdd (fMul (fMul p.z q.z) (fMul p.z q.z)) (fMul d (fMul (fMul p.x q.x) (fMul p.y q.y)))) (fAdd (fMul p.y q.y) (fMul p.x q.x))),
   fMul (fSub (fMul (fMul p.z q.z) (fMul p.z q.z)) (fMul d (fMul (fMul p.x q.x) (fMul p.y q.y)))) (fAdd (fMul (fMul p.z q.z) (fMul p.z q.z)) (fMul d (fMul (fMul p.x q.x) (fMul p.y q.y))))⟩
theorem plus3_lt (d : Nat) (p q : T3) : (plus3 d p q).Lt := ⟨fMul_lt _ _, fMul_lt _ _, fMul_lt _ _⟩
def R3 (P : Pt Ed) (p : T3) : Prop := Rep3 P (tF p.x) (tF p.y) (tF p.z)
theorem R3.add {P Q : Pt Ed} {p q : T3} (h1 : R3 P p) (h2 : R3 Q q) : R3 (P.add Q) (plus3 dN p q) := by
  have h := Rep3.add h1 h2
  unfold R3 plus3
  simp only [tF_mul, tF_add, tF_sub _ (fMul_lt _ _)]
  exact h
def nought3 : T3 := ⟨0, 1, 1⟩
theorem R3.nought : R3 (Pt.nought : Pt Ed) nought3 := by
  have h : Rep3 (Pt.nought : Pt Ed) 0 1 1 := Rep3.nought
  rw [← tF_zero, ← tF_one] at h
  exact h
/-- A point of numbers. -/
def OnN (x y : Nat) : Prop := fSub (fMul y y) (fMul x x) = fAdd 1 (fMul dN (fMul (fMul x x) (fMul y y)))
theorem OnN.on {x y : Nat} (h : OnN x y) : Ed.On (tF x) (tF y) := by
  unfold Cv.On
  have h1 := congrArg tF h
  simp only [tF_mul, tF_add, tF_sub _ (fMul_lt _ _), tF_one] at h1
  exact h1
theorem on_OnN {x y : Nat} (h : Ed.On (tF x) (tF y)) : OnN x y := by
  refine tF_inj (fAdd_lt _ _) (fAdd_lt _ _) ?_
  simp only [tF_mul, tF_add, tF_sub _ (fMul_lt _ _), tF_one]
  exact h
def ptN (x y : Nat) (h : OnN x y) : Pt Ed := ⟨tF x, tF y, h.on⟩
theorem R3.of {x y : Nat} (h : OnN x y) : R3 (ptN x y h) ⟨x, y, 1⟩ := by
  have h1 := Rep3.of (ptN x y h)
  rw [← tF_one] at h1
  exact h1
theorem R3.point {P : Pt Ed} {p : T3} (h : R3 P p) (hz : p.z < Pp) : fMul p.x (fInv p.z) = P.x.val ∧ fMul p.y (fInv p.z) = P.y.val := by
  obtain ⟨h1, h2⟩ := Rep3.point h
  rw [← tF_inv hz, ← tF_mul] at h1 h2
  exact ⟨by rw [← h1, val_tF (fMul_lt _ _)], by rw [← h2, val_tF (fMul_lt _ _)]⟩
/-! ### Four numbers a point -/
structure W4 where
  x : Nat
  y : Nat
  z : Nat
  t : Nat
def W4.Lt (p : W4) : Prop := p.x < Pp ∧ p.y < Pp ∧ p.z < Pp ∧ p.t < Pp
def wA (p q : W4) : Nat := fMul (fSub p.y p.x) (fSub q.y q.x)
def wB (p q : W4) : Nat := fMul (fAdd p.y p.x) (fAdd q.y q.x)
def wC (p q : W4) : Nat := fMul p.t (fMul (fAdd dN dN) q.t)
def wD (p q : W4) : Nat := fMul p.z (fAdd q.z q.z)
def wadd (p q : W4) : W4 :=
  ⟨fMul (fSub (wB p q) (wA p q)) (fSub (wD p q) (wC p q)), fMul (fAdd (wD p q) (wC p q)) (fAdd (wB p q) (wA p q)), fMul (fSub (wD p q) (wC p q)) (fAdd (wD p q) (wC p q)), fMul (fSub (wB p q) (wA p q)) (fAdd (wB p q) (wA p q))⟩
theorem wadd_lt (p q : W4) : (wadd p q).Lt := ⟨fMul_lt _ _, fMul_lt _ _, fMul_lt _ _, fMul_lt _ _⟩
def R4 (P : Pt Ed) (p : W4) : Prop := p.Lt ∧ Rep4 P (tF p.x) (tF p.y) (tF p.z) (tF p.t)
theorem R4.add {P Q : Pt Ed} {p q : W4} (h1 : R4 P p) (h2 : R4 Q q) : R4 (P.add Q) (wadd p q) := by
  have h := Rep4.add h1.2 h2.2
  obtain ⟨⟨l1, l2, l3, l4⟩, _⟩ := h1
  obtain ⟨⟨m1, m2, m3, m4⟩, _⟩ := h2
  refine ⟨wadd_lt _ _, ?_⟩
  unfold wadd wA wB wC wD
  simp only [tF_mul, tF_add, tF_sub _ (fMul_lt _ _), tF_sub _ l1, tF_sub _ m1]
  exact h
def nought4 : W4 := ⟨0, 1, 1, 0⟩
theorem R4.nought : R4 (Pt.nought : Pt Ed) nought4 := by
  have h : Rep4 (Pt.nought : Pt Ed) 0 1 1 0 := Rep4.nought
  rw [← tF_zero, ← tF_one] at h
  exact ⟨by unfold W4.Lt nought4; decide, h⟩
def w4 (x y : Nat) : W4 := ⟨x, y, 1, fMul x y⟩
theorem R4.of {x y : Nat} (hx : x < Pp) (hy : y < Pp) (h : OnN x y) : R4 (ptN x y h) (w4 x y) := by
  have h1 := Rep4.of (ptN x y h)
  have e : (ptN x y h).x * (ptN x y h).y = tF (fMul x y) := (tF_mul x y).symm
  rw [← tF_one, e] at h1
  exact ⟨⟨hx, hy, one_lt, fMul_lt _ _⟩, h1⟩
theorem R4.point {P : Pt Ed} {p : W4} (h : R4 P p) : fMul p.x (fInv p.z) = P.x.val ∧ fMul p.y (fInv p.z) = P.y.val := by
  obtain ⟨h1, h2⟩ := Rep4.point h.2
  rw [← tF_inv h.1.2.2.1, ← tF_mul] at h1 h2
  exact ⟨by rw [← h1, val_tF (fMul_lt _ _)], by rw [← h2, val_tF (fMul_lt _ _)]⟩
/-- So many times, bit by bit from the highest of 256. -/
def wtimes (p : W4) (n : Nat) : Nat → W4
  | 0 => nought4
  | j + 1 => if n / 2 ^ (255 - j) % 2 = 0 then wadd (wtimes p n j) (wtimes p n j) else wadd (wadd (wtimes p n j) (wtimes p n j)) p
theorem half_step (n j : Nat) (hj : j < 256) : n / 2 ^ (256 - (j + 1)) = n / 2 ^ (256 - j) + n / 2 ^ (256 - j) + n / 2 ^ (255 - j) % 2 := by
  have e1 : 256 - (j + 1) = 255 - j := by omega
  have e2 : 256 - j = (255 - j) + 1 := by omega
  rw [e1, e2, Nat.pow_succ, ← Nat.div_div_eq_div_mul]
  generalize n / 2 ^ (255 - j) = m
  omega
theorem R4.times {P : Pt Ed} {p : W4} (h : R4 P p) (n : Nat) (hn : n < 2 ^ 256) : ∀ j, j ≤ 256 → R4 (Pt.times (n / 2 ^ (256 - j)) P) (wtimes p n j)
  | 0, _ => by
    rw [Nat.sub_zero, Nat.div_eq_of_lt hn]
    exact R4.nought
  | j + 1, hj => by
    have ih := R4.times h n hn j (by omega)
    rw [half_step n j (by omega), Pt.times_add, Pt.times_add]
    unfold wtimes
    split
    · rename_i h0
      rw [h0, Pt.times_zero, Pt.add_nought]
      exact ih.add ih
    · rename_i h0
      have h1 : n / 2 ^ (255 - j) % 2 = 1 := by omega
      rw [h1, Pt.times_one]
      exact (ih.add ih).add h
theorem R4.mult {P : Pt Ed} {p : W4} (h : R4 P p) (n : Nat) (hn : n < 2 ^ 256) : R4 (Pt.times n P) (wtimes p n 256) := by
  have := h.times n hn 256 (by omega)
  rwa [Nat.sub_self, Nat.pow_zero, Nat.div_one] at this
/-! ### So many times, from the lowest bit -/
def tP (d : Nat) (p : T3) : Nat → T3
  | 0 => p
  | i + 1 => plus3 d (tP d p i) (tP d p i)
def tO (d : Nat) (p : T3) (n : Nat) : Nat → T3
  | 0 => nought3
  | i + 1 => if n / 2 ^ i % 2 = 1 then plus3 d (tO d p n i) (tP d p i) else tO d p n i
theorem R3.tP {P : Pt Ed} {p : T3} (h : R3 P p) : ∀ i, R3 (Pt.times (2 ^ i) P) (tP dN p i)
  | 0 => by rw [Nat.pow_zero, Pt.times_one]; exact h
  | i + 1 => by
    have ih := R3.tP h i
    rw [Nat.pow_succ, Nat.mul_two, Pt.times_add]
    exact ih.add ih
theorem low_step (n i : Nat) : n % 2 ^ (i + 1) = n % 2 ^ i + 2 ^ i * (n / 2 ^ i % 2) := Nat.mod_pow_succ
theorem R3.tO {P : Pt Ed} {p : T3} (h : R3 P p) (n : Nat) : ∀ i, R3 (Pt.times (n % 2 ^ i) P) (tO dN p n i)
  | 0 => by rw [Nat.pow_zero, Nat.mod_one]; exact R3.nought
  | i + 1 => by
    have ih := R3.tO h n i
    rw [low_step, Pt.times_add]
    unfold Go.Proofs.YtlgiaglbdifkpaaGreatDoor.tO
    split
    · rename_i h0
      rw [h0, Nat.mul_one]
      exact ih.add (R3.tP h i)
    · rename_i h0
      have h1 : n / 2 ^ i % 2 = 0 := by omega
      rw [h1, Nat.mul_zero, Pt.times_zero, Pt.add_nought]
      exact ih
theorem tP_lt {d : Nat} {p : T3} (h : p.Lt) : ∀ i, (tP d p i).Lt
  | 0 => h
  | _ + 1 => plus3_lt _ _ _
theorem nought3_lt : nought3.Lt := by unfold T3.Lt nought3; decide
theorem tO_lt {d : Nat} {p : T3} (n : Nat) : ∀ i, (tO d p n i).Lt
  | 0 => nought3_lt
  | i + 1 => by
    unfold Go.Proofs.YtlgiaglbdifkpaaGreatDoor.tO
    split
    · exact plus3_lt _ _ _
    · exact tO_lt n i
/-! ### The base point -/
def bxN : Nat := 15112221349535400772501151409588531511454012693041857206046113283949847762202
def byN : Nat := 46316835694926478169428394003475163141307993866256225615783033603165251855960
theorem bON : OnN bxN byN := by unfold OnN; kernel_rfl
def Bp : Pt Ed := ptN bxN byN bON
def numB : List Bool → Nat → Nat
  | [], k => k
  | b :: r, k => numB r (2 * k + if b then 1 else 0)
def bitsB (n : Nat) : Nat → List Bool
  | 0 => []
  | k + 1 => (n / 2 ^ k % 2 == 1) :: bitsB n k
end Go.Proofs.YtlgiaglbdifkpaaGreatDoor
/- Contracts of layer 8: the program's curve: constants, points, sums. Own work. -/
namespace Go.Proofs.YtlgiaglbdifkpaaGreatDoor
open Go.Ev Go.Sp Go.RowKit
set_option maxRecDepth 100000
theorem runCD  : fnS Tryz.prog (lookG []) (orcA []) [] 10 61 [] =
    some (AV.val true [IV.n4 (N4.mk (BitVec.ofNat 64 8496970652267935907) (BitVec.ofNat 64 31536524315187371) (BitVec.ofNat 64 10144147576115030168) (BitVec.ofNat 64 5909686906226998899))], []) := by kernel_rfl
theorem runCBase  : fnS Tryz.prog (lookG []) (orcA []) [] 10 24 [] =
    some (AV.val true [IV.n4 (N4.mk (BitVec.ofNat 64 14507833142362363162) (BitVec.ofNat 64 7578651490590762930) (BitVec.ofNat 64 13881468655802702940) (BitVec.ofNat 64 2407515759118799870)), IV.n4 (N4.mk (BitVec.ofNat 64 7378697629483820632) (BitVec.ofNat 64 7378697629483820646) (BitVec.ofNat 64 7378697629483820646) (BitVec.ofNat 64 7378697629483820646))], []) := by kernel_rfl
def spCD : List AV → Option (AV × List Prop)
  | [] => some (.val true [.n4 (ofN dN)], [])
  | _ => none
def spCBase : List AV → Option (AV × List Prop)
  | [] => some (.val true [.n4 (ofN bxN), .n4 (ofN byN)], [])
  | _ => none
theorem ctCD : CtSOk Tryz.prog 61 (.fn spCD) := FnS_of_fnS gs0 fol fun ds r cs h hc => by
  unfold spCD at h
  split at h
  case h_2 => simp at h
  simp only [Option.some.injEq, Prod.mk.injEq] at h
  obtain ⟨rfl, rfl⟩ := h
  exact use_run runCD (by kernel_rfl) trivial
theorem ctCBase : CtSOk Tryz.prog 24 (.fn spCBase) := FnS_of_fnS gs0 fol fun ds r cs h hc => by
  unfold spCBase at h
  split at h
  case h_2 => simp at h
  simp only [Option.some.injEq, Prod.mk.injEq] at h
  obtain ⟨rfl, rfl⟩ := h
  exact use_run runCBase (by kernel_rfl) trivial
def tblCa : List (FuncId × CtS) := [(61, .fn spCD), (60, .fn (sp2N fAdd)), (58, .fn (sp2N fSub)), (56, .fn (sp2N fMul)), (63, .fn (sp1N fNeg)), (55, .fn spRight)]
theorem okCa : TblOk Tryz.prog tblCa := ⟨⟨ctCD, by kernel_rfl⟩, ⟨ctPAdd, by kernel_rfl⟩, ⟨ctPSub, by kernel_rfl⟩, ⟨ctPMul, by kernel_rfl⟩, ⟨ctPNeg, by kernel_rfl⟩, ⟨ctRight, by kernel_rfl⟩, trivial⟩
theorem gsCa : GSound Tryz.prog (upG (lookG tblCa)) := GSound_of_tbl okCa
theorem runOnT (x y : N4) : fnS Tryz.prog (lookG tblCa) (orcA [(3, [(2, true), (6, true)])]) [] 10 64 [.val true [.n4 x, .n4 y]] =
    some (sc (IV.bool ((ofN (fSub (val (ofN (fMul (val y % Pp) (val y % Pp))) % Pp) (val (ofN (fMul (val x % Pp) (val x % Pp))) % Pp))).eq (ofN (fAdd 1 (val (ofN (fMul 37095705934669439343138083508754565189542113879843219016388785533085940283555 (val (ofN (fMul (val (ofN (fMul (val x % Pp) (val x % Pp))) % Pp) (val (ofN (fMul (val y % Pp) (val y % Pp))) % Pp))) % Pp))) % Pp))) && true)), [decide (val x < Pp) = true, decide (val y < Pp) = true]) := by kernel_rfl
theorem runOnX (x y : N4) : fnS Tryz.prog (lookG tblCa) (orcA [(3, [(2, false)])]) [] 10 64 [.val true [.n4 x, .n4 y]] =
    some (sc (IV.bool false), [decide (val x < Pp) = false]) := by kernel_rfl
theorem runOnY (x y : N4) : fnS Tryz.prog (lookG tblCa) (orcA [(3, [(2, true), (6, false)])]) [] 10 64 [.val true [.n4 x, .n4 y]] =
    some (sc (IV.bool false), [decide (val x < Pp) = true, decide (val y < Pp) = false]) := by kernel_rfl
theorem runWid (x y : N4) : fnS Tryz.prog (lookG tblCa) (orcA []) [] 10 65 [.val true [.n4 x, .n4 y]] =
    some (AV.val true [IV.n4 x, IV.n4 y, IV.n4 (N4.mk (BitVec.ofNat 64 1) (BitVec.ofNat 64 0) (BitVec.ofNat 64 0) (BitVec.ofNat 64 0)), IV.n4 (ofN (fMul (val x % Pp) (val y % Pp)))], []) := by kernel_rfl
theorem runWAdd (a b c d a' b' c' d' : N4) : fnS Tryz.prog (lookG tblCa) (orcA []) [] 10 67 [.val true [.n4 a, .n4 b, .n4 c, .n4 d], .val true [.n4 a', .n4 b', .n4 c', .n4 d']] =
    some (AV.val true [IV.n4 (ofN (fMul (val (ofN (fSub (val (ofN (fMul (val (ofN (fAdd (val b % Pp) (val a % Pp))) % Pp) (val (ofN (fAdd (val b' % Pp) (val a' % Pp))) % Pp))) % Pp) (val (ofN (fMul (val (ofN (fSub (val b % Pp) (val a % Pp))) % Pp) (val (ofN (fSub (val b' % Pp) (val a' % Pp))) % Pp))) % Pp))) % Pp) (val (ofN (fSub (val (ofN (fMul (val c % Pp) (val (ofN (fAdd (val c' % Pp) (val c' % Pp))) % Pp))) % Pp) (val (ofN (fMul (val d % Pp) (val (ofN (fMul 16295367250680780974490674513165176452449235426866156013048779062215315747161 (val d' % Pp))) % Pp))) % Pp))) % Pp))), IV.n4 (ofN (fMul (val (ofN (fAdd (val (ofN (fMul (val c % Pp) (val (ofN (fAdd (val c' % Pp) (val c' % Pp))) % Pp))) % Pp) (val (ofN (fMul (val d % Pp) (val (ofN (fMul 16295367250680780974490674513165176452449235426866156013048779062215315747161 (val d' % Pp))) % Pp))) % Pp))) % Pp) (val (ofN (fAdd (val (ofN (fMul (val (ofN (fAdd (val b % Pp) (val a % Pp))) % Pp) (val (ofN (fAdd (val b' % Pp) (val a' % Pp))) % Pp))) % Pp) (val (ofN (fMul (val (ofN (fSub (val b % Pp) (val a % Pp))) % Pp) (val (ofN (fSub (val b' % Pp) (val a' % Pp))) % Pp))) % Pp))) % Pp))), IV.n4 (ofN (fMul (val (ofN (fSub (val (ofN (fMul (val c % Pp) (val (ofN (fAdd (val c' % Pp) (val c' % Pp))) % Pp))) % Pp) (val (ofN (fMul (val d % Pp) (val (ofN (fMul 16295367250680780974490674513165176452449235426866156013048779062215315747161 (val d' % Pp))) % Pp))) % Pp))) % Pp) (val (ofN (fAdd (val (ofN (fMul (val c % Pp) (val (ofN (fAdd (val c' % Pp) (val c' % Pp))) % Pp))) % Pp) (val (ofN (fMul (val d % Pp) (val (ofN (fMul 16295367250680780974490674513165176452449235426866156013048779062215315747161 (val d' % Pp))) % Pp))) % Pp))) % Pp))), IV.n4 (ofN (fMul (val (ofN (fSub (val (ofN (fMul (val (ofN (fAdd (val b % Pp) (val a % Pp))) % Pp) (val (ofN (fAdd (val b' % Pp) (val a' % Pp))) % Pp))) % Pp) (val (ofN (fMul (val (ofN (fSub (val b % Pp) (val a % Pp))) % Pp) (val (ofN (fSub (val b' % Pp) (val a' % Pp))) % Pp))) % Pp))) % Pp) (val (ofN (fAdd (val (ofN (fMul (val (ofN (fAdd (val b % Pp) (val a % Pp))) % Pp) (val (ofN (fAdd (val b' % Pp) (val a' % Pp))) % Pp))) % Pp) (val (ofN (fMul (val (ofN (fSub (val b % Pp) (val a % Pp))) % Pp) (val (ofN (fSub (val b' % Pp) (val a' % Pp))) % Pp))) % Pp))) % Pp)))], []) := by kernel_rfl
theorem vm_M (x y : Nat) : val (ofN (fMul x y)) % Pp = fMul x y := by rw [val_lo (fMul_lt x y), Nat.mod_eq_of_lt (fMul_lt x y)]
theorem vm_A (x y : Nat) : val (ofN (fAdd x y)) % Pp = fAdd x y := by rw [val_lo (fAdd_lt x y), Nat.mod_eq_of_lt (fAdd_lt x y)]
theorem f_Sub_lt (x y : Nat) : fSub x y < Pp := fAdd_lt x _
theorem vm_S (x y : Nat) : val (ofN (fSub x y)) % Pp = fSub x y := by rw [val_lo (f_Sub_lt x y), Nat.mod_eq_of_lt (f_Sub_lt x y)]
theorem d2N : fAdd dN dN = 16295367250680780974490674513165176452449235426866156013048779062215315747161 := by kernel_rfl
/-- Are two numbers a point? -/
def onV (x y : Nat) : Bool := decide (x < Pp) && (decide (y < Pp) && (fSub (fMul y y) (fMul x x) == fAdd 1 (fMul dN (fMul (fMul x x) (fMul y y)))))
theorem onV_iff {x y : Nat} : onV x y = true ↔ x < Pp ∧ y < Pp ∧ OnN x y := by
  unfold onV OnN
  simp only [Bool.and_eq_true, decide_eq_true_eq, beq_iff_eq]
def spOnC : List AV → Option (AV × List Prop)
  | [.val true [.n4 x, .n4 y]] => some (sc (.bool (onV (val x) (val y))), [])
  | _ => none
theorem ctOnC : CtSOk Tryz.prog 64 (.fn spOnC) := FnS_of_fnS gsCa fol fun ds r cs h hc => by
  unfold spOnC at h
  split at h
  case h_2 => simp at h
  rename_i x y
  simp only [Option.some.injEq, Prod.mk.injEq] at h
  obtain ⟨rfl, rfl⟩ := h
  by_cases hx : val x < Pp
  · by_cases hy : val y < Pp
    · have r0 := runOnT x y
      rw [eq_N4] at r0
      simp only [vm_M, Nat.mod_eq_of_lt hx, Nat.mod_eq_of_lt hy] at r0
      rw [val_lo (f_Sub_lt _ _), val_lo (fAdd_lt _ _)] at r0
      refine use_run r0 ?_ ⟨decide_eq_true hx, decide_eq_true hy, trivial⟩
      unfold onV
      rw [decide_eq_true hx, decide_eq_true hy, Bool.true_and, Bool.true_and]
      rfl
    · exact use_run (runOnY x y) (by unfold onV; rw [decide_eq_false hy, Bool.false_and, Bool.and_false]) ⟨decide_eq_true hx, decide_eq_false hy, trivial⟩
  · exact use_run (runOnX x y) (by unfold onV; rw [decide_eq_false hx, Bool.false_and]) ⟨decide_eq_false hx, trivial⟩
/-- Four numbers of a point, as words. -/
structure QW where
  x : N4
  y : N4
  z : N4
  t : N4
def QW.w (q : QW) : W4 := ⟨val q.x % Pp, val q.y % Pp, val q.z % Pp, val q.t % Pp⟩
def qW (w : W4) : QW := ⟨ofN w.x, ofN w.y, ofN w.z, ofN w.t⟩
theorem qW_w {w : W4} (h : w.Lt) : (qW w).w = w := by
  unfold QW.w qW
  simp only [val_lo h.1, val_lo h.2.1, val_lo h.2.2.1, val_lo h.2.2.2, Nat.mod_eq_of_lt h.1, Nat.mod_eq_of_lt h.2.1, Nat.mod_eq_of_lt h.2.2.1, Nat.mod_eq_of_lt h.2.2.2]
def QW.l (q : QW) : List IV := [.n4 q.x, .n4 q.y, .n4 q.z, .n4 q.t]
def spWid : List AV → Option (AV × List Prop)
  | [.val true [.n4 x, .n4 y]] => some (.val true (qW (w4 (val x) (val y))).l, [val x < Pp, val y < Pp])
  | _ => none
theorem ctWid : CtSOk Tryz.prog 65 (.fn spWid) := FnS_of_fnS gsCa fol fun ds r cs h hc => by
  unfold spWid at h
  split at h
  case h_2 => simp at h
  rename_i x y
  simp only [Option.some.injEq, Prod.mk.injEq] at h
  obtain ⟨rfl, rfl⟩ := h
  obtain ⟨hx, hy, _⟩ := hc
  have r0 := runWid x y
  simp only [Nat.mod_eq_of_lt hx, Nat.mod_eq_of_lt hy] at r0
  refine use_run r0 ?_ trivial
  show AV.val true [.n4 x, .n4 y, .n4 (N4.mk (BitVec.ofNat 64 1) (BitVec.ofNat 64 0) (BitVec.ofNat 64 0) (BitVec.ofNat 64 0)), .n4 (ofN (fMul (val x) (val y)))] = AV.val true [.n4 (ofN (val x)), .n4 (ofN (val y)), .n4 (ofN 1), .n4 (ofN (fMul (val x) (val y)))]
  rw [ofN_val, ofN_val]
  rfl
def waddQ (p q : QW) : W4 := wadd p.w q.w
def spWAddG (G : QW → QW → W4) : List AV → Option (AV × List Prop)
  | [.val true [.n4 a, .n4 b, .n4 c, .n4 d], .val true [.n4 a', .n4 b', .n4 c', .n4 d']] => some (.val true [.n4 (ofN (G ⟨a, b, c, d⟩ ⟨a', b', c', d'⟩).x), .n4 (ofN (G ⟨a, b, c, d⟩ ⟨a', b', c', d'⟩).y), .n4 (ofN (G ⟨a, b, c, d⟩ ⟨a', b', c', d'⟩).z), .n4 (ofN (G ⟨a, b, c, d⟩ ⟨a', b', c', d'⟩).t)], [])
  | _ => none
theorem ctWAdd : CtSOk Tryz.prog 67 (.fn (spWAddG waddQ)) := FnS_of_fnS gsCa fol fun ds r cs h hc => by
  unfold spWAddG at h
  split at h
  case h_2 => simp at h
  rename_i a b c d a' b' c' d'
  simp only [Option.some.injEq, Prod.mk.injEq] at h
  obtain ⟨rfl, rfl⟩ := h
  have r0 := runWAdd a b c d a' b' c' d'
  rw [← d2N] at r0
  simp only [vm_M, vm_A, vm_S] at r0
  exact use_run r0 rfl trivial
/-- A point out of four numbers, by whatever inverse. -/
def spWPtG (v : Nat → Nat) : List AV → Option (AV × List Prop)
  | [.val true [.n4 a, .n4 b, .n4 c, .n4 _]] => some (.val true [.n4 (ofN (fMul (val a % Pp) (v (val c % Pp)))), .n4 (ofN (fMul (val b % Pp) (v (val c % Pp))))], [])
  | _ => none
def tblCb (v : Nat → Nat) : List (FuncId × CtS) :=
  (59, .fn (sp1N v)) :: tblCa
theorem gsCb : GSound Tryz.prog (upG (lookG (tblCb fInv))) := GSound_of_tbl ⟨⟨ctPInv, by kernel_rfl⟩, okCa⟩
theorem runWPt (v : Nat → Nat) (a b c d : N4) : fnS Tryz.prog (lookG (tblCb v)) (orcA []) [] 10 68 [.val true [.n4 a, .n4 b, .n4 c, .n4 d]] =
    some (AV.val true [IV.n4 (ofN (fMul (val a % Pp) (val (ofN (v (val c % Pp))) % Pp))), IV.n4 (ofN (fMul (val b % Pp) (val (ofN (v (val c % Pp))) % Pp)))], []) := by kernel_rfl
theorem ctWPt : CtSOk Tryz.prog 68 (.fn (spWPtG fInv)) := FnS_of_fnS gsCb fol fun ds r cs h hc => by
  unfold spWPtG at h
  split at h
  case h_2 => simp at h
  rename_i a b c d
  simp only [Option.some.injEq, Prod.mk.injEq] at h
  obtain ⟨rfl, rfl⟩ := h
  have r0 := runWPt fInv a b c d
  have e := fInv_lt (val c % Pp)
  rw [val_lo e, Nat.mod_eq_of_lt e] at r0
  exact use_run r0 rfl trivial
/-! ### So many times -/
def spTimesG (G : QW → N4 → W4) : List AV → Option (AV × List Prop)
  | [.val true [.n4 a, .n4 b, .n4 c, .n4 d], .val true [.n4 n]] => some (.val true [.n4 (ofN (G ⟨a, b, c, d⟩ n).x), .n4 (ofN (G ⟨a, b, c, d⟩ n).y), .n4 (ofN (G ⟨a, b, c, d⟩ n).z), .n4 (ofN (G ⟨a, b, c, d⟩ n).t)], [])
  | _ => none
def tblCc0 : List (FuncId × CtS) := [(62, .fn spPick), (103, .fn spBit)]
theorem okCc0 : TblOk Tryz.prog tblCc0 := ⟨⟨ctPick, by kernel_rfl⟩, ⟨ctBit, by kernel_rfl⟩, trivial⟩
theorem gsCc0 : GSound Tryz.prog (upG (lookG tblCc0)) := GSound_of_tbl okCc0
def tblCc (G : QW → QW → W4) : List (FuncId × CtS) :=
  (67, .fn (spWAddG G)) :: tblCc0
theorem gsCc : GSound Tryz.prog (upG (lookG (tblCc waddQ))) := GSound_of_tbl ⟨⟨ctWAdd, by kernel_rfl⟩, okCc0⟩
def tmTd : List Nat := [2, 3, 4, 5, 13]
def tmInv (p : QW) (n : N4) (z o : QW) (i : Int) : St := ⟨slotsOf 55 [(2, sc (.ptr 0 0)), (3, sc (.ptr 1 0)), (4, sc (.ptr 2 0)), (5, sc (.ptr 3 0)), (13, sc (.i64 i))], [(0, ⟨true, p.l⟩), (1, ⟨true, [.n4 n]⟩), (2, ⟨true, z.l⟩), (3, ⟨true, o.l⟩)], 16⟩
theorem tmRound (G : QW → QW → W4) (p : QW) (n : N4) (z o : QW) (i : Int) : roundS Tryz.prog (lookG (tblCc G)) (orcA [(3, [(0, true)])]) [] 10 tmTd (bodyAt Tryz.prog 66 3) (tmInv p n z o i) =
    some (Ex.normal, St.mk (slotsOf 55 [(2, sc (IV.ptr 0 0)), (3, sc (IV.ptr 1 0)), (4, sc (IV.ptr 2 0)), (5, sc (IV.ptr 3 0)), (13, sc (IV.i64 (i + (1 : Int))))]) [(0, Blk.mk true [IV.n4 p.x, IV.n4 p.y, IV.n4 p.z, IV.n4 p.t]), (1, Blk.mk true [IV.n4 n]), (2, Blk.mk true [IV.n4 z.x, IV.n4 z.y, IV.n4 z.z, IV.n4 z.t]), (3, Blk.mk true [IV.n4 (if bitN n ((255 : Int) - i) = BitVec.ofNat 64 0 then ofN (G (QW.mk o.x o.y o.z o.t) (QW.mk o.x o.y o.z o.t)).x else ofN (G (QW.mk (ofN (G (QW.mk o.x o.y o.z o.t) (QW.mk o.x o.y o.z o.t)).x) (ofN (G (QW.mk o.x o.y o.z o.t) (QW.mk o.x o.y o.z o.t)).y) (ofN (G (QW.mk o.x o.y o.z o.t) (QW.mk o.x o.y o.z o.t)).z) (ofN (G (QW.mk o.x o.y o.z o.t) (QW.mk o.x o.y o.z o.t)).t)) (QW.mk p.x p.y p.z p.t)).x), IV.n4 (if bitN n ((255 : Int) - i) = BitVec.ofNat 64 0 then ofN (G (QW.mk o.x o.y o.z o.t) (QW.mk o.x o.y o.z o.t)).y else ofN (G (QW.mk (ofN (G (QW.mk o.x o.y o.z o.t) (QW.mk o.x o.y o.z o.t)).x) (ofN (G (QW.mk o.x o.y o.z o.t) (QW.mk o.x o.y o.z o.t)).y) (ofN (G (QW.mk o.x o.y o.z o.t) (QW.mk o.x o.y o.z o.t)).z) (ofN (G (QW.mk o.x o.y o.z o.t) (QW.mk o.x o.y o.z o.t)).t)) (QW.mk p.x p.y p.z p.t)).y), IV.n4 (if bitN n ((255 : Int) - i) = BitVec.ofNat 64 0 then ofN (G (QW.mk o.x o.y o.z o.t) (QW.mk o.x o.y o.z o.t)).z else ofN (G (QW.mk (ofN (G (QW.mk o.x o.y o.z o.t) (QW.mk o.x o.y o.z o.t)).x) (ofN (G (QW.mk o.x o.y o.z o.t) (QW.mk o.x o.y o.z o.t)).y) (ofN (G (QW.mk o.x o.y o.z o.t) (QW.mk o.x o.y o.z o.t)).z) (ofN (G (QW.mk o.x o.y o.z o.t) (QW.mk o.x o.y o.z o.t)).t)) (QW.mk p.x p.y p.z p.t)).z), IV.n4 (if bitN n ((255 : Int) - i) = BitVec.ofNat 64 0 then ofN (G (QW.mk o.x o.y o.z o.t) (QW.mk o.x o.y o.z o.t)).t else ofN (G (QW.mk (ofN (G (QW.mk o.x o.y o.z o.t) (QW.mk o.x o.y o.z o.t)).x) (ofN (G (QW.mk o.x o.y o.z o.t) (QW.mk o.x o.y o.z o.t)).y) (ofN (G (QW.mk o.x o.y o.z o.t) (QW.mk o.x o.y o.z o.t)).z) (ofN (G (QW.mk o.x o.y o.z o.t) (QW.mk o.x o.y o.z o.t)).t)) (QW.mk p.x p.y p.z p.t)).t)])] 16, [decide (i < (256 : Int)) = true, inI64 ((255 : Int) - i), inI64 (i + (1 : Int))]) := by kernel_rfl
theorem tmExit (G : QW → QW → W4) (p : QW) (n : N4) (z o : QW) (i : Int) : roundS Tryz.prog (lookG (tblCc G)) (orcA [(3, [(0, false)])]) [] 10 tmTd (bodyAt Tryz.prog 66 3) (tmInv p n z o i) =
    some (Ex.exit 0, St.mk (slotsOf 55 [(2, sc (IV.ptr 0 0)), (3, sc (IV.ptr 1 0)), (4, sc (IV.ptr 2 0)), (5, sc (IV.ptr 3 0)), (13, sc (IV.i64 i))]) [(0, Blk.mk true [IV.n4 p.x, IV.n4 p.y, IV.n4 p.z, IV.n4 p.t]), (1, Blk.mk true [IV.n4 n]), (2, Blk.mk true [IV.n4 z.x, IV.n4 z.y, IV.n4 z.z, IV.n4 z.t]), (3, Blk.mk true [IV.n4 o.x, IV.n4 o.y, IV.n4 o.z, IV.n4 o.t])] 16, [decide (i < (256 : Int)) = false]) := by kernel_rfl
theorem runTm (G : QW → QW → W4) (a b c d n : N4) (p z o : QW) (i : Int) : fnS Tryz.prog (lookG (tblCc G)) (orcA []) [⟨3, tmTd, .exit 0, tmInv p n z o i⟩] 10 66 [.val true [.n4 a, .n4 b, .n4 c, .n4 d], .val true [.n4 n]] =
    some (AV.val true [IV.n4 o.x, IV.n4 o.y, IV.n4 o.z, IV.n4 o.t], [LoopTo Tryz.prog (bodyAt Tryz.prog 66 3) (St.mk (slotsOf 55 [(2, sc (IV.ptr 0 0)), (3, sc (IV.ptr 1 0)), (4, sc (IV.ptr 2 0)), (5, sc (IV.ptr 3 0)), (13, sc (IV.i64 (0 : Int)))]) [(0, Blk.mk true [IV.n4 a, IV.n4 b, IV.n4 c, IV.n4 d]), (1, Blk.mk true [IV.n4 n]), (2, Blk.mk true [IV.n4 (N4.mk (BitVec.ofNat 64 0) (BitVec.ofNat 64 0) (BitVec.ofNat 64 0) (BitVec.ofNat 64 0)), IV.n4 (N4.mk (BitVec.ofNat 64 0) (BitVec.ofNat 64 0) (BitVec.ofNat 64 0) (BitVec.ofNat 64 0)), IV.n4 (N4.mk (BitVec.ofNat 64 0) (BitVec.ofNat 64 0) (BitVec.ofNat 64 0) (BitVec.ofNat 64 0)), IV.n4 (N4.mk (BitVec.ofNat 64 0) (BitVec.ofNat 64 0) (BitVec.ofNat 64 0) (BitVec.ofNat 64 0))]), (3, Blk.mk true [IV.n4 (N4.mk (BitVec.ofNat 64 0) (BitVec.ofNat 64 0) (BitVec.ofNat 64 0) (BitVec.ofNat 64 0)), IV.n4 (N4.mk (BitVec.ofNat 64 1) (BitVec.ofNat 64 0) (BitVec.ofNat 64 0) (BitVec.ofNat 64 0)), IV.n4 (N4.mk (BitVec.ofNat 64 1) (BitVec.ofNat 64 0) (BitVec.ofNat 64 0) (BitVec.ofNat 64 0)), IV.n4 (N4.mk (BitVec.ofNat 64 0) (BitVec.ofNat 64 0) (BitVec.ofNat 64 0) (BitVec.ofNat 64 0))])] 16) (Ex.exit 0) (St.mk (slotsOf 55 [(2, sc (IV.ptr 0 0)), (3, sc (IV.ptr 1 0)), (4, sc (IV.ptr 2 0)), (5, sc (IV.ptr 3 0)), (13, sc (IV.i64 i))]) [(0, Blk.mk true [IV.n4 p.x, IV.n4 p.y, IV.n4 p.z, IV.n4 p.t]), (1, Blk.mk true [IV.n4 n]), (2, Blk.mk true [IV.n4 z.x, IV.n4 z.y, IV.n4 z.z, IV.n4 z.t]), (3, Blk.mk true [IV.n4 o.x, IV.n4 o.y, IV.n4 o.z, IV.n4 o.t])] 16)]) := by kernel_rfl
end Go.Proofs.YtlgiaglbdifkpaaGreatDoor
