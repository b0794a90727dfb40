/- Digits of words and bytes, plainly. Own work; no program in sight. -/
import Derived.Test.YtbhnegdekeojkaaSpH
import Derived.Test.YtbhnegdekeojkaaSpA
namespace Go.Sp
open Go.Ev (N4 dg nv)

/-- The lowest digits of a number. -/
def dl (x : Nat) : Nat → List Int
  | 0 => []
  | n + 1 => dl x n ++ [((dig x n : Nat) : Int)]
theorem dl_ok (x : Nat) : ∀ n, (dl x n).length = n ∧ IsD (dl x n) ∧ nv (dl x n) = x % 256 ^ n
  | 0 => ⟨rfl, IsD_nil, by simp [dl, nv, Nat.mod_one]⟩
  | n + 1 => by
    obtain ⟨h1, h2, h3⟩ := dl_ok x n
    refine ⟨by simp [dl, h1], IsD_snoc h2 (dig_lt x n), ?_⟩
    simp only [dl]
    rw [nv_snocN, h1, h3, mod_succ]

theorem get_val (a : N4) {i : Nat} (hi : i < 4) : (a.get i).toNat = val a / 256 ^ (8 * i) % 256 ^ 8 := by
  have e0 := a.w0.isLt
  have e1 := a.w1.isLt
  have e2 := a.w2.isLt
  have e3 := a.w3.isLt
  match i, hi with
  | 0, _ => simp only [Go.Ev.N4.get, val, show (256 : Nat) ^ (8 * 0) = 1 from rfl, show (256 : Nat) ^ 8 = 18446744073709551616 from rfl]; omega
  | 1, _ => simp only [Go.Ev.N4.get, val, show (256 : Nat) ^ (8 * 1) = 18446744073709551616 from rfl]; omega
  | 2, _ => simp only [Go.Ev.N4.get, val, show (256 : Nat) ^ (8 * 2) = 340282366920938463463374607431768211456 from rfl, show (256 : Nat) ^ 8 = 18446744073709551616 from rfl]; omega
  | 3, _ => simp only [Go.Ev.N4.get, val, show (256 : Nat) ^ (8 * 3) = 6277101735386680763835789423207666416102355444464034512896 from rfl, show (256 : Nat) ^ 8 = 18446744073709551616 from rfl]; omega

/-- A digit of a number's word. -/
theorem mod_dig (y : Nat) {k n : Nat} (hk : k < n) : y % 256 ^ n / 256 ^ k % 256 = y / 256 ^ k % 256 := by
  obtain ⟨d, rfl⟩ := Nat.exists_eq_add_of_lt hk
  have e : 256 ^ (k + d + 1) = 256 ^ k * 256 ^ (d + 1) := by rw [Nat.add_assoc, Nat.pow_add]
  rw [e, Nat.mod_mul_right_div_self, Nat.pow_succ, Nat.mul_comm (256 ^ d) 256, Nat.mod_mul_right_mod]
theorem get_dig (a : N4) {i k : Nat} (hi : i < 4) (hk : k < 8) : (a.get i).toNat / 256 ^ k % 256 = dig (val a) (8 * i + k) := by
  rw [get_val a hi, mod_dig _ hk, Nat.div_div_eq_div_mul, ← Nat.pow_add]
  rfl

/-- The lowest first: bytes as a number. -/
def bv : List (BitVec 8) → Nat
  | [] => 0
  | x :: r => x.toNat + 256 * bv r
theorem bv_append : ∀ (l m : List (BitVec 8)), bv (l ++ m) = bv l + 256 ^ l.length * bv m
  | [], m => by simp [bv]
  | d :: l, m => by
    simp only [List.cons_append, bv, bv_append l m, List.length_cons, Nat.pow_succ]
    rw [Nat.mul_add, Nat.mul_comm (256 ^ l.length) 256, Nat.mul_assoc]
    omega
theorem bv_lt : ∀ (l : List (BitVec 8)), bv l < 256 ^ l.length
  | [] => by simp [bv]
  | d :: l => by
    have h1 := d.isLt
    have h2 := bv_lt l
    simp only [bv, List.length_cons, Nat.pow_succ]
    omega
/-- Bytes as digits. -/
def bd (l : List (BitVec 8)) : List Int := l.map fun x => (x.toNat : Int)
theorem bd_D (l : List (BitVec 8)) : IsD (bd l) := fun d h => by
  obtain ⟨x, _, rfl⟩ := List.mem_map.1 h
  have := x.isLt
  omega
theorem nv_bd : ∀ l : List (BitVec 8), nv (bd l) = bv l
  | [] => rfl
  | x :: r => by
    have := nv_bd r
    simp only [bd] at this
    simp only [bd, List.map_cons, nv, bv, this]
    simp
/-- So many bytes of a number. -/
def bl (x : Nat) : Nat → List (BitVec 8)
  | 0 => []
  | n + 1 => bl x n ++ [BitVec.ofNat 8 (x / 256 ^ n)]
theorem bl_length (x : Nat) : ∀ n, (bl x n).length = n
  | 0 => rfl
  | n + 1 => by simp [bl, bl_length x n]
theorem bv_bl (x : Nat) : ∀ n, bv (bl x n) = x % 256 ^ n
  | 0 => by simp [bl, bv, Nat.mod_one]
  | n + 1 => by
    simp only [bl]
    rw [bv_append, bv_bl x n, bl_length, mod_succ]
    simp [bv, dig]
theorem bv_inj : ∀ {l m : List (BitVec 8)}, l.length = m.length → bv l = bv m → l = m
  | [], [], _, _ => rfl
  | [], _ :: _, h, _ => by simp at h
  | _ :: _, [], h, _ => by simp at h
  | a :: l, b :: m, h, e => by
    have h1 := a.isLt
    have h2 := b.isLt
    simp only [bv] at e
    have e1 : a.toNat = b.toNat := by omega
    have e2 := bv_inj (l := l) (m := m) (by simpa using h) (by omega)
    rw [BitVec.eq_of_toNat_eq e1, e2]
theorem bl_bv (l : List (BitVec 8)) : bl (bv l) l.length = l := bv_inj (bl_length _ _) (by rw [bv_bl, Nat.mod_eq_of_lt (bv_lt l)])
theorem bl_mod (x n : Nat) : bl (x % 256 ^ n) n = bl x n := bv_inj (by rw [bl_length, bl_length]) (by rw [bv_bl, bv_bl, Nat.mod_mod])

/-- The word that stands from a place on, read digit by digit from the highest. -/
def wAcc (y j : Nat) : Nat := y % 256 ^ 8 / 256 ^ (8 - j)
theorem wAcc_succ (y : Nat) {j : Nat} (hj : j < 8) : wAcc y (j + 1) = wAcc y j * 256 + y / 256 ^ (7 - j) % 256 := by
  unfold wAcc
  have e1 : 8 - (j + 1) = 7 - j := by omega
  have e2 : 8 - j = 7 - j + 1 := by omega
  rw [e1, e2, ← mod_dig y (show 7 - j < 8 by omega)]
  generalize y % 256 ^ 8 = Y
  rw [Nat.pow_succ, ← Nat.div_div_eq_div_mul]
  generalize Y / 256 ^ (7 - j) = z
  omega
theorem wAcc_zero (y : Nat) : wAcc y 0 = 0 := Nat.div_eq_of_lt (Nat.mod_lt _ (Nat.pow_pos (by omega)))
theorem wAcc_all (y : Nat) : wAcc y 8 = y % 256 ^ 8 := by simp [wAcc]
/-- A number's word. -/
def wordN (x i : Nat) : BitVec 64 := BitVec.ofNat 64 (x / 256 ^ (8 * i))
theorem wAcc_word (x i : Nat) : BitVec.ofNat 64 (wAcc (x / 256 ^ (8 * i)) 8) = wordN x i := by
  rw [wAcc_all, wordN]
  apply BitVec.eq_of_toNat_eq
  simp
theorem words_ofN (x : Nat) : (⟨wordN x 0, wordN x 1, wordN x 2, wordN x 3⟩ : N4) = ofN x := by
  have e0 : (256 : Nat) ^ (8 * 0) = 1 := rfl
  have e1 : (256 : Nat) ^ (8 * 1) = 18446744073709551616 := rfl
  have e2 : (256 : Nat) ^ (8 * 2) = 340282366920938463463374607431768211456 := rfl
  have e3 : (256 : Nat) ^ (8 * 3) = 6277101735386680763835789423207666416102355444464034512896 := rfl
  simp only [wordN, ofN, e0, e1, e2, e3, Nat.div_one]
theorem words_ofN' (x : Nat) : (⟨wordN x 4, wordN x 5, wordN x 6, wordN x 7⟩ : N4) = ofN (x / p256) := by
  have e : ∀ i, x / p256 / 256 ^ (8 * i) = x / 256 ^ (8 * (4 + i)) := fun i => by
    rw [show p256 = 256 ^ 32 from rfl, Nat.div_div_eq_div_mul, ← Nat.pow_add]
    congr 2
    omega
  rw [← words_ofN]
  simp only [wordN, e]
end Go.Sp
