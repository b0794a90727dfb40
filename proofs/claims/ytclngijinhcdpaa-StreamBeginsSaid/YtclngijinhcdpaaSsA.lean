/- Words turned to the left, plainly. Own work; no program in sight. -/
import Derived.Test.YtclngijinhcdpaaEvR
namespace Go.Sp

/-- A word turned to the left. -/
def rot (x : BitVec 32) (n : Nat) : BitVec 32 := x <<< n ||| x >>> (32 - n)
theorem rot_toNat (x : BitVec 32) {n : Nat} (h : n ≤ 32) : (rot x n).toNat = x.toNat % 2 ^ (32 - n) * 2 ^ n + x.toNat / 2 ^ (32 - n) := by
  have hx := x.isLt
  unfold rot
  rw [BitVec.toNat_or, BitVec.toNat_shiftLeft, BitVec.toNat_ushiftRight, Nat.shiftRight_eq_div_pow, Nat.shiftLeft_eq]
  have e : x.toNat * 2 ^ n % 2 ^ 32 = (x.toNat % 2 ^ (32 - n)) <<< n := by
    rw [Nat.shiftLeft_eq]
    have : (2 : Nat) ^ 32 = 2 ^ (32 - n) * 2 ^ n := by rw [← Nat.pow_add]; congr 1; omega
    rw [this, Nat.mul_mod_mul_right]
  have hlt : x.toNat / 2 ^ (32 - n) < 2 ^ n := by
    rw [Nat.div_lt_iff_lt_mul (Nat.pow_pos (by omega)), ← Nat.pow_add]
    have : n + (32 - n) = 32 := by omega
    rw [this]
    exact hx
  rw [e, ← Nat.shiftLeft_add_eq_or_of_lt hlt, Nat.shiftLeft_eq]
theorem rot_zero (x : BitVec 32) : rot x 0 = x := by
  apply BitVec.eq_of_toNat_eq
  rw [rot_toNat x (by omega)]
  have := x.isLt
  simp
  omega
theorem rot_step (X P M : Nat) (hP : 0 < P) (hX : X < 2 * P * M) (y : Nat) (hy : y = X % (2 * P) * M + X / (2 * P)) :
    y * 2 % (2 * (P * M)) + y / (P * M) = X % P * (2 * M) + X / P := by
  obtain ⟨s, r, hr, e⟩ : ∃ s r, r < P ∧ X = P * s + r := ⟨X / P, X % P, Nat.mod_lt _ hP, (Nat.div_add_mod X P).symm⟩
  subst e
  have d1 : (P * s + r) / P = s := by rw [Nat.mul_add_div hP, Nat.div_eq_of_lt hr, Nat.add_zero]
  have d2 : (P * s + r) % P = r := by rw [Nat.mul_add_mod, Nat.mod_eq_of_lt hr]
  have d3 : (P * s + r) / (2 * P) = s / 2 := by rw [Nat.mul_comm 2 P, ← Nat.div_div_eq_div_mul, d1]
  have d4 : (P * s + r) % (2 * P) = P * (s % 2) + r := by
    have h := Nat.div_add_mod (P * s + r) (2 * P)
    rw [d3] at h
    have h2 : P * s = 2 * P * (s / 2) + P * (s % 2) := by
      have := Nat.div_add_mod s 2
      calc P * s = P * (2 * (s / 2) + s % 2) := by rw [this]
        _ = 2 * P * (s / 2) + P * (s % 2) := by rw [Nat.mul_add]; congr 1; ac_rfl
    omega
  rw [d1, d2]
  rw [d3, d4] at hy
  have hs : s < 2 * M := by
    have : P * s < P * (2 * M) := by
      have : 2 * P * M = P * (2 * M) := by ac_rfl
      omega
    exact Nat.lt_of_mul_lt_mul_left this
  have hsum : r * M + s / 2 < P * M := by
    have h1 : (r + 1) * M ≤ P * M := Nat.mul_le_mul_right _ hr
    rw [Nat.add_mul] at h1
    omega
  have hy2 : y = P * M * (s % 2) + (r * M + s / 2) := by
    rw [hy, Nat.add_mul]
    have : P * (s % 2) * M = P * M * (s % 2) := by ac_rfl
    omega
  have hpos : 0 < P * M := by omega
  have q1 : y / (P * M) = s % 2 := by rw [hy2, Nat.mul_add_div hpos, Nat.div_eq_of_lt hsum, Nat.add_zero]
  have q2 : y * 2 % (2 * (P * M)) = 2 * (r * M + s / 2) := by
    rw [Nat.mul_comm y 2, Nat.mul_mod_mul_left, hy2, Nat.mul_add_mod, Nat.mod_eq_of_lt hsum]
  rw [q1, q2]
  have : r * (2 * M) = 2 * (r * M) := by ac_rfl
  omega
theorem rot_next (x : BitVec 32) {n : Nat} (h : n < 32) : rot x n * 2#32 + rot x n / 2147483648#32 = rot x (n + 1) := by
  have hx := x.isLt
  apply BitVec.eq_of_toNat_eq
  have hs := rot_step x.toNat (2 ^ (31 - n)) (2 ^ n) (Nat.pow_pos (by omega)) (by
    have : 2 * 2 ^ (31 - n) * 2 ^ n = 2 ^ 32 := by
      rw [← Nat.pow_succ', ← Nat.pow_add]
      congr 1
      omega
    rw [this]; exact hx) (rot x n).toNat (by
      have : 2 * 2 ^ (31 - n) = 2 ^ (32 - n) := by rw [← Nat.pow_succ']; congr 1; omega
      rw [this]
      exact rot_toNat x (by omega))
  have e1 : 2 ^ (31 - n) * 2 ^ n = 2147483648 := by
    rw [← Nat.pow_add]
    have : 31 - n + n = 31 := by omega
    rw [this]
  rw [e1] at hs
  have e2 : 32 - (n + 1) = 31 - n := by omega
  have rt := rot_toNat x (show n + 1 ≤ 32 by omega)
  rw [e2, Nat.pow_succ' (n := n), ← hs] at rt
  have hlt := (rot x (n + 1)).isLt
  rw [BitVec.toNat_add, BitVec.toNat_mul, BitVec.toNat_udiv, show (2#32).toNat = 2 from rfl, show (2147483648#32).toNat = 2147483648 from rfl]
  omega

/-- The quarter of four words. -/
def qr (a b c d : BitVec 32) : BitVec 32 × BitVec 32 × BitVec 32 × BitVec 32 :=
  let a := a + b
  let d := rot (d ^^^ a) 16
  let c := c + d
  let b := rot (b ^^^ c) 12
  let a := a + b
  let d := rot (d ^^^ a) 8
  let c := c + d
  let b := rot (b ^^^ c) 7
  (a, b, c, d)
end Go.Sp
