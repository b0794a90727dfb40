/- Products: what the rows add up to. Own work; no program in sight. -/
import Derived.Test.YtbhnegdekeojkaaSpD
namespace Go.Sp
open Go.Ev (N4)

def halfW (a : N4) (i : Nat) : BitVec 64 := (a.get (i / 2) >>> (32 * (i % 2))) &&& 4294967295#64
def halvesN (a : N4) : N4 × N4 := (⟨halfW a 0, halfW a 1, halfW a 2, halfW a 3⟩, ⟨halfW a 4, halfW a 5, halfW a 6, halfW a 7⟩)
def rows (x y : N4) : Nat → Q
  | 0 => Q.zero
  | n + 1 => rowQ (halfW x n) (halfW y) n (rows x y n)
def outW (q : Q) (j : Nat) : BitVec 64 := g16 q (2 * j) ||| (g16 q (2 * j + 1) <<< 32)
def outQ (q : Q) : N4 × N4 := (⟨outW q 0, outW q 1, outW q 2, outW q 3⟩, ⟨outW q 4, outW q 5, outW q 6, outW q 7⟩)
def mulV (a b : N4) : N4 × N4 := (ofN (val a * val b), ofN (val a * val b / p256))

theorem low_ok (w : BitVec 64) : (w &&& 4294967295#64).toNat = w.toNat % 4294967296 := by
  rw [BitVec.toNat_and]
  exact Nat.and_two_pow_sub_one_eq_mod _ 32
theorem half_even (a : N4) (k : Nat) : (halfW a (2 * k)).toNat = (a.get k).toNat % 4294967296 := by
  have e1 : 2 * k / 2 = k := by omega
  have e2 : 2 * k % 2 = 0 := by omega
  simp only [halfW, e1, e2, low_ok, BitVec.toNat_ushiftRight, Nat.mul_zero, Nat.shiftRight_zero]
theorem half_odd (a : N4) (k : Nat) : (halfW a (2 * k + 1)).toNat = (a.get k).toNat / 4294967296 := by
  have e1 : (2 * k + 1) / 2 = k := by omega
  have e2 : (2 * k + 1) % 2 = 1 := by omega
  have h := (a.get k).isLt
  simp only [halfW, e1, e2, low_ok, BitVec.toNat_ushiftRight, Nat.mul_one, Nat.shiftRight_eq_div_pow]
  omega
theorem half_lt (a : N4) (j : Nat) : (halfW a j).toNat < 4294967296 := by
  simp only [halfW, low_ok]
  omega
theorem half_sum (a : N4) : sumD 4294967296 (fun j => (halfW a j).toNat) 8 = val a := by
  have h0 := half_even a 0
  have h1 := half_odd a 0
  have h2 := half_even a 1
  have h3 := half_odd a 1
  have h4 := half_even a 2
  have h5 := half_odd a 2
  have h6 := half_even a 3
  have h7 := half_odd a 3
  simp only [Nat.mul_zero, Nat.zero_add, Nat.mul_one, Nat.reduceMul, Nat.reduceAdd] at h0 h1 h2 h3 h4 h5 h6 h7
  simp only [sumD, h0, h1, h2, h3, h4, h5, h6, h7, val, N4.get, Nat.reducePow]
  omega

theorem g16_zero (j : Nat) : g16 Q.zero j = 0#64 := by
  have key : ∀ k, (⟨0#64, 0#64, 0#64, 0#64⟩ : N4).get k = 0#64 := by
    intro k
    match k with
    | 0 => rfl
    | 1 => rfl
    | 2 => rfl
    | k + 3 => rfl
  unfold g16
  split <;> exact key _

theorem rows_ok (x y : N4) : ∀ i, i ≤ 8 → valQ 4294967296 (rows x y i) = sumD 4294967296 (fun j => (halfW x j).toNat) i * val y ∧ Small (rows x y i) ∧ ∀ j, i + 8 ≤ j → j < 16 → g16 (rows x y i) j = 0#64 := by
  intro i
  generalize hB : 4294967296 = B
  induction i with
  | zero =>
    intro _
    refine ⟨?_, fun j _ => ?_, fun j _ _ => g16_zero j⟩
    · have gen : ∀ n, sumD B (fun j => (g16 Q.zero j).toNat) n = 0 := by
        intro n
        induction n with
        | zero => rfl
        | succ n ih =>
          show sumD B (fun j => (g16 Q.zero j).toNat) n + (g16 Q.zero n).toNat * B ^ n = 0
          rw [ih, g16_zero]; simp
      show sumD B (fun j => (g16 Q.zero j).toNat) 16 = 0 * val y
      rw [gen, Nat.zero_mul]
    · show (g16 Q.zero j).toNat < _
      rw [g16_zero]; simp
  | succ i ih =>
    intro hi
    obtain ⟨h1, h2, h3⟩ := ih (by omega)
    obtain ⟨r1, r2, r3⟩ := rowQ_ok hB.symm (half_lt x i) (fun k _ => half_lt y k) h2 (by omega) h3
    refine ⟨?_, r2, fun j hj hjn => r3 j (by omega) hjn⟩
    show valQ B (rowQ (halfW x i) (halfW y) i (rows x y i)) = (sumD B (fun j => (halfW x j).toNat) i + (halfW x i).toNat * B ^ i) * val y
    have hy : sumD B (fun j => (halfW y j).toNat) 8 = val y := by rw [← hB]; exact half_sum y
    rw [r1, h1, hy, Nat.add_mul, Nat.mul_assoc, Nat.mul_comm (val y), ← Nat.mul_assoc]

theorem outW_ok {q : Q} (hq : Small q) (j : Nat) (hj : j < 8) : (outW q j).toNat = (g16 q (2 * j)).toNat + 4294967296 * (g16 q (2 * j + 1)).toNat := by
  have h1 := hq (2 * j) (by omega)
  have h2 := hq (2 * j + 1) (by omega)
  simp only [outW, BitVec.toNat_or, BitVec.toNat_shiftLeft]
  have e : (g16 q (2 * j + 1)).toNat <<< 32 % 2 ^ 64 = (g16 q (2 * j + 1)).toNat <<< 32 := by
    rw [Nat.shiftLeft_eq]
    omega
  rw [e, Nat.or_comm, ← Nat.shiftLeft_add_eq_or_of_lt (by omega : (g16 q (2 * j)).toNat < 2 ^ 32), Nat.shiftLeft_eq]
  omega

theorem outQ_ok {q : Q} (hq : Small q) : wide (outQ q).1 (outQ q).2 = valQ 4294967296 q := by
  have h0 := outW_ok hq 0 (by omega)
  have h1 := outW_ok hq 1 (by omega)
  have h2 := outW_ok hq 2 (by omega)
  have h3 := outW_ok hq 3 (by omega)
  have h4 := outW_ok hq 4 (by omega)
  have h5 := outW_ok hq 5 (by omega)
  have h6 := outW_ok hq 6 (by omega)
  have h7 := outW_ok hq 7 (by omega)
  simp only [Nat.mul_zero, Nat.zero_add, Nat.mul_one, Nat.reduceMul, Nat.reduceAdd] at h0 h1 h2 h3 h4 h5 h6 h7
  simp only [wide, outQ, val, h0, h1, h2, h3, h4, h5, h6, h7, valQ, sumD, p256, Nat.reducePow]
  omega

theorem mul_ok (x y : N4) : outQ (rows x y 8) = mulV x y := by
  obtain ⟨h1, h2, _⟩ := rows_ok x y 8 (Nat.le_refl _)
  have h3 := outQ_ok h2
  rw [h1, half_sum] at h3
  have l1 := val_lt (outQ (rows x y 8)).1
  have l2 := val_lt (outQ (rows x y 8)).2
  generalize outQ (rows x y 8) = r at *
  unfold mulV
  rw [← h3]
  refine Prod.ext (val_inj ?_) (val_inj ?_)
  · rw [val_ofN]; simp only [wide, p256] at *; omega
  · rw [val_ofN]; simp only [wide, p256] at *; omega
end Go.Sp
