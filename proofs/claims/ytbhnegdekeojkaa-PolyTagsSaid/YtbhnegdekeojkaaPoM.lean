/- Plain law of layer 11: the tag's number. Own work. -/
import Derived.Test.YtbhnegdekeojkaaPoB
namespace Go.Proofs.Ytbhnegdekeojkaa
open Go.Ev Go.Sp Go.RowKit
set_option maxRecDepth 100000
/-- The block of 16 bytes (or what is left) at 16 j, with a 1 behind it. -/
def blkL (b : List (BitVec 8)) (j : Nat) : List (BitVec 8) := (b.drop (16 * j)).take 16 ++ [1#8]
def blkN (b : List (BitVec 8)) (j : Nat) : Nat := bv (blkL b j)
def polyX (r : Nat) (b : List (BitVec 8)) : Nat → Nat
  | 0 => 0
  | j + 1 => (polyX r b j + blkN b j) * r % Pr
def polyA (r : Nat) (b : List (BitVec 8)) : Nat → Nat
  | 0 => 0
  | j + 1 => t1 (t1 ((polyA r b j + blkN b j) * r))
theorem blkN_lt (b : List (BitVec 8)) (j : Nat) : blkN b j < 680564733841876926926749214863536422912 := by
  have h := bv_append ((b.drop (16 * j)).take 16) [1#8]
  have h1 := bv_lt ((b.drop (16 * j)).take 16)
  have h2 : ((b.drop (16 * j)).take 16).length ≤ 16 := by simp; omega
  have h3 : (256 : Nat) ^ ((b.drop (16 * j)).take 16).length ≤ 256 ^ 16 := Nat.pow_le_pow_right (by omega) h2
  have h4 : (256 : Nat) ^ 16 = 340282366920938463463374607431768211456 := by decide
  have h5 : bv [1#8] = 1 := by decide
  unfold blkN blkL
  rw [h, h5]
  omega
theorem t1_mod (n : Nat) : t1 n % Pr = n % Pr := by
  have h : n = n % P130 + P130 * (n / P130) := (Nat.mod_add_div n P130).symm
  have hp : P130 = Pr + 5 := by decide
  have h2 : t1 n + Pr * (n / P130) = n := by
    unfold t1
    generalize n / P130 = q at *
    generalize n % P130 = m at *
    rw [hp, Nat.add_mul] at h
    omega
  have h3 : (t1 n + Pr * (n / P130)) % Pr = t1 n % Pr := Nat.add_mul_mod_self_left _ _ _
  rw [h2] at h3
  exact h3.symm
theorem t1_t1_lt {n : Nat} (h : n < p256) : t1 (t1 n) < 1361129467683753853853498429727072845829 := by
  have h1 : t1 n < 2722258935367507707706996859454145691648 := by unfold t1 P130; unfold p256 at h; omega
  generalize t1 n = m at *
  unfold t1 P130
  omega
theorem poly_inv {r : Nat} (hr : r < 21267647932558653966460912964485513216) (b : List (BitVec 8)) : ∀ j, polyA r b j < 1361129467683753853853498429727072845829 ∧ polyA r b j % Pr = polyX r b j := by
  intro j
  induction j with
  | zero => exact ⟨show 0 < 1361129467683753853853498429727072845829 by decide, rfl⟩
  | succ j ih =>
    have hb := blkN_lt b j
    have hs : polyA r b j + blkN b j < 2041694201525630780780247644590609268741 := by omega
    have hp : (polyA r b j + blkN b j) * r < p256 := Nat.lt_of_lt_of_le (Nat.mul_lt_mul'' hs hr) (by decide)
    refine ⟨t1_t1_lt hp, ?_⟩
    show t1 (t1 _) % Pr = (polyX r b j + blkN b j) * r % Pr
    rw [t1_mod, t1_mod, ← ih.2, Nat.mul_mod, Nat.mul_mod (polyA r b j % Pr + blkN b j), Nat.mod_add_mod]
theorem poly_prod {r : Nat} (hr : r < 21267647932558653966460912964485513216) (b : List (BitVec 8)) (j : Nat) : polyA r b j + blkN b j < p256 ∧ (polyA r b j + blkN b j) * r < p256 := by
  have hb := blkN_lt b j
  have h := (poly_inv hr b j).1
  have hs : polyA r b j + blkN b j < 2041694201525630780780247644590609268741 := by omega
  exact ⟨Nat.lt_trans hs (by decide), Nat.lt_of_lt_of_le (Nat.mul_lt_mul'' hs hr) (by decide)⟩
theorem polyX_lt (r : Nat) (b : List (BitVec 8)) (j : Nat) : polyX r b j < Pr := by
  cases j with
  | zero => exact Pr_pos
  | succ j => exact Nat.mod_lt _ Pr_pos
end Go.Proofs.Ytbhnegdekeojkaa
