/- The rest of a division, bit by bit, plainly. Own work; no program in sight. -/
import Derived.Test.YtbhnegdekeojkaaSpA
namespace Go.Sp
open Go.Ev (N4)

theorem shr_bit (w : BitVec 64) (s : Nat) : (w >>> s &&& 1#64).toNat = w.toNat / 2 ^ s % 2 := by
  simp [BitVec.toNat_and, BitVec.toNat_ushiftRight, Nat.shiftRight_eq_div_pow, Nat.and_one_is_mod]

theorem bit_split (n s : Nat) (h : s < 64) : n % 18446744073709551616 / 2 ^ s % 2 = n / 2 ^ s % 2 := by
  have h1 : (n % 2 ^ 64).testBit s = n.testBit s := by rw [Nat.testBit_mod_two_pow]; simp [h]
  have h2 : (18446744073709551616 : Nat) = 2 ^ 64 := rfl
  rw [h2]
  simp only [Nat.testBit_eq_decide_div_mod_eq] at h1
  have h3 : (n % 2 ^ 64 / 2 ^ s % 2 = 1) ↔ (n / 2 ^ s % 2 = 1) := by simpa using h1
  omega

def wide (lo hi : N4) : Nat := val lo + p256 * val hi
def wordAt (lo hi : N4) (j : Nat) : BitVec 64 := ([lo, hi].getD (j / 4) N4.zero).get (j % 4)

theorem wordAt_ok (lo hi : N4) : ∀ j, j < 8 → (wordAt lo hi j).toNat = wide lo hi / 2 ^ (64 * j) % 18446744073709551616 := by
  intro j hj
  have h0 := lo.w0.isLt
  have h1 := lo.w1.isLt
  have h2 := lo.w2.isLt
  have h3 := lo.w3.isLt
  have g0 := hi.w0.isLt
  have g1 := hi.w1.isLt
  have g2 := hi.w2.isLt
  have g3 := hi.w3.isLt
  match j, hj with
  | 0, _ => show lo.w0.toNat = _; simp only [wide, val, p256]; omega
  | 1, _ => show lo.w1.toNat = _; simp only [wide, val, p256]; omega
  | 2, _ => show lo.w2.toNat = _; simp only [wide, val, p256]; omega
  | 3, _ => show lo.w3.toNat = _; simp only [wide, val, p256]; omega
  | 4, _ => show hi.w0.toNat = _; simp only [wide, val, p256]; omega
  | 5, _ => show hi.w1.toNat = _; simp only [wide, val, p256]; omega
  | 6, _ => show hi.w2.toNat = _; simp only [wide, val, p256]; omega
  | 7, _ => show hi.w3.toNat = _; simp only [wide, val, p256]; omega

theorem wordAt_bit (lo hi : N4) (k : Nat) (hk : k < 512) : (wordAt lo hi (k / 64) >>> (k % 64) &&& 1#64).toNat = wide lo hi / 2 ^ k % 2 := by
  rw [shr_bit, wordAt_ok lo hi (k / 64) (by omega), bit_split _ _ (by omega), Nat.div_div_eq_div_mul, ← Nat.pow_add]
  congr 3
  omega

/-- One step, as the code computes it. -/
def twice (L : N4) (b : BitVec 64) : N4 := (ofN (val L + val L)).set 0 ((ofN (val L + val L)).get 0 ||| b)
def stepN (m L : N4) (b : BitVec 64) : N4 :=
  if (BitVec.ofNat 64 ((val L + val L) / p256) ||| 1#64 - (if val (twice L b) < val m then 1#64 else 0#64)) = 0#64 then twice L b
  else ofN (val (twice L b) + p256 - val m)

theorem or_bit (x b : BitVec 64) (hx : x.toNat % 2 = 0) (hb : b.toNat ≤ 1) : (x ||| b).toNat = x.toNat + b.toNat := by
  rw [BitVec.toNat_or]
  have h : b.toNat = 0 ∨ b.toNat = 1 := by omega
  rcases h with h | h
  · rw [h]; simp
  · rw [h]
    have h1 := Nat.or_div_two (a := x.toNat) (b := 1)
    have h2 : (x.toNat ||| 1) % 2 = 1 := Nat.or_mod_two_eq_one.2 (.inr rfl)
    simp at h1
    omega

theorem val_set0 (a : N4) (x : BitVec 64) : val (a.set 0 x) + a.w0.toNat = val a + x.toNat := by
  cases a
  simp only [N4.set, val]
  omega

theorem val_twice (L : N4) (b : BitVec 64) (hb : b.toNat ≤ 1) : val (twice L b) = (val L + val L) % p256 + b.toNat := by
  have hlt := val_lt L
  have e : val (ofN (val L + val L)) = (val L + val L) % p256 := val_ofN _
  have h0 : ((ofN (val L + val L)).get 0).toNat % 2 = 0 := by
    show (BitVec.ofNat 64 (val L + val L)).toNat % 2 = 0
    rw [BitVec.toNat_ofNat]
    omega
  have h1 : val (twice L b) = val (ofN (val L + val L)) + b.toNat := by
    unfold twice
    generalize ofN (val L + val L) = a at *
    have h2 := val_set0 a (a.get 0 ||| b)
    rw [or_bit _ _ h0 hb] at h2
    have h3 : (a.get 0).toNat = a.w0.toNat := rfl
    omega
  rw [h1, e]

theorem stepN_ok (m L : N4) (b : BitVec 64) (hb : b.toNat ≤ 1) (hm : val L < val m) : val (stepN m L b) = (2 * val L + b.toNat) % val m := by
  have hlt := val_lt L
  have hmlt := val_lt m
  have ht := val_twice L b hb
  generalize hT : twice L b = tw at *
  have htlt := val_lt tw
  have hc : (BitVec.ofNat 64 ((val L + val L) / p256)).toNat = (val L + val L) / p256 := by
    rw [BitVec.toNat_ofNat]
    simp only [p256] at *
    omega
  have hcond : ((BitVec.ofNat 64 ((val L + val L) / p256) ||| 1#64 - (if val tw < val m then 1#64 else 0#64)) = 0#64) ↔ ((val L + val L) / p256 = 0 ∧ val tw < val m) := by
    constructor
    · intro h
      have h' := congrArg BitVec.toNat h
      rw [BitVec.toNat_or, hc] at h'
      simp only [BitVec.toNat_zero, Nat.or_eq_zero_iff] at h'
      refine ⟨h'.1, ?_⟩
      have h2 := h'.2
      split at h2
      · assumption
      · simp at h2
    · rintro ⟨h1, h2⟩
      rw [if_pos h2, h1]
      rfl
  unfold stepN
  rw [hT]
  have hmod : (2 * val L + b.toNat) % val m = if 2 * val L + b.toNat < val m then 2 * val L + b.toNat else 2 * val L + b.toNat - val m := by
    split
    · exact Nat.mod_eq_of_lt ‹_›
    · rw [Nat.mod_eq_sub_mod (by omega)]
      exact Nat.mod_eq_of_lt (by omega)
  rw [hmod]
  by_cases h : (val L + val L) / p256 = 0 ∧ val tw < val m
  · rw [if_pos (hcond.2 h)]
    simp only [p256] at *
    rw [if_pos (by omega)]
    omega
  · rw [if_neg (fun q => h (hcond.1 q)), val_ofN]
    simp only [p256] at *
    rw [if_neg (by omega)]
    omega

theorem next_bit (A k M : Nat) : (2 * (A / 2 ^ (k + 1) % M) + A / 2 ^ k % 2) % M = A / 2 ^ k % M := by
  have h : A / 2 ^ k = 2 * (A / 2 ^ (k + 1)) + A / 2 ^ k % 2 := by
    rw [Nat.pow_succ, ← Nat.div_div_eq_div_mul]
    omega
  conv => rhs; rw [h]
  rw [Nat.add_mod, Nat.mul_mod, Nat.mod_mod, ← Nat.mul_mod, ← Nat.add_mod]
end Go.Sp
