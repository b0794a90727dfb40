/- Numbers out of bytes, word by word, plainly. Own work; no program in sight. -/
import Derived.Test.YtbhnegdekeojkaaSpI
import Derived.Test.YtbhnegdekeojkaaEvO
namespace Go.Sp
open Go.Ev (N4 dg nv)

theorem pow8 (k : Nat) : 2 ^ (8 * k) = 256 ^ k := by rw [Nat.pow_mul]
theorem shr_dig (w : BitVec 64) (k : Nat) : BitVec.setWidth 8 (w >>> (8 * k)) = BitVec.ofNat 8 (w.toNat / 256 ^ k) := by
  apply BitVec.eq_of_toNat_eq
  rw [BitVec.toNat_setWidth, BitVec.toNat_ushiftRight, Nat.shiftRight_eq_div_pow, pow8, BitVec.toNat_ofNat]
theorem byte_of (a : N4) {i : Nat} (hi : i < 32) : BitVec.setWidth 8 (a.get (i / 8) >>> (8 * (i % 8))) = BitVec.ofNat 8 (val a / 256 ^ i) := by
  rw [shr_dig]
  apply BitVec.eq_of_toNat_eq
  rw [BitVec.toNat_ofNat, BitVec.toNat_ofNat]
  have e := get_dig a (i := i / 8) (k := i % 8) (by omega) (by omega)
  have e2 : 8 * (i / 8) + i % 8 = i := Nat.div_add_mod i 8
  rw [e2] at e
  exact e
/-- Bytes so far, noughts behind them. -/
def fill (x n i : Nat) : List (BitVec 8) := bl x i ++ List.replicate (n - i) 0#8
theorem fill_zero (x n : Nat) : fill x n 0 = List.replicate n 0#8 := by simp [fill, bl]
theorem fill_all (x n : Nat) : fill x n n = bl x n := by simp [fill]
theorem fill_set (x : Nat) {n i : Nat} (h : i < n) : (fill x n i).set i (BitVec.ofNat 8 (x / 256 ^ i)) = fill x n (i + 1) := by
  unfold fill
  rw [List.set_append_right _ _ (by rw [bl_length]; exact Nat.le_refl _), bl_length, Nat.sub_self]
  obtain ⟨m, hm⟩ : ∃ m, n - i = m + 1 := ⟨n - i - 1, by omega⟩
  have hm2 : n - (i + 1) = m := by omega
  rw [hm, hm2, List.replicate_succ, List.set_cons_zero]
  simp [bl]
theorem fill_length (x n i : Nat) (h : i ≤ n) : (fill x n i).length = n := by simp [fill, bl_length]; omega

theorem val_set (n : N4) (j : Nat) (w : BitVec 64) (h : j < 4) : val (n.set j w) + 256 ^ (8 * j) * (n.get j).toNat = val n + 256 ^ (8 * j) * w.toNat := by
  match j, h with
  | 0, _ => simp only [N4.set, N4.get, val, show (256 : Nat) ^ (8 * 0) = 1 from rfl]; omega
  | 1, _ => simp only [N4.set, N4.get, val, show (256 : Nat) ^ (8 * 1) = 18446744073709551616 from rfl]; omega
  | 2, _ => simp only [N4.set, N4.get, val, show (256 : Nat) ^ (8 * 2) = 340282366920938463463374607431768211456 from rfl]; omega
  | 3, _ => simp only [N4.set, N4.get, val, show (256 : Nat) ^ (8 * 3) = 6277101735386680763835789423207666416102355444464034512896 from rfl]; omega

theorem or_byte (g : BitVec 64) (x : BitVec 8) {k : Nat} (hk : k < 8) (hg : g.toNat < 256 ^ k) : (g ||| BitVec.setWidth 64 x <<< (8 * k)).toNat = g.toNat + 256 ^ k * x.toNat := by
  have hx := x.isLt
  have h1 : x.toNat % 2 ^ 64 = x.toNat := Nat.mod_eq_of_lt (by omega)
  have hb : x.toNat * 256 ^ k < 2 ^ 64 := by
    have e : x.toNat * 256 ^ k ≤ 255 * 256 ^ 7 := Nat.mul_le_mul (by omega) (Nat.pow_le_pow_right (by omega) (by omega))
    exact Nat.lt_of_le_of_lt e (by decide)
  rw [BitVec.toNat_or, BitVec.toNat_shiftLeft, BitVec.toNat_setWidth, h1, Nat.or_comm]
  have h2 : x.toNat <<< (8 * k) % 2 ^ 64 = x.toNat <<< (8 * k) := by rw [Nat.shiftLeft_eq, pow8]; exact Nat.mod_eq_of_lt hb
  rw [h2, ← Nat.shiftLeft_add_eq_or_of_lt (by rw [pow8]; exact hg), Nat.shiftLeft_eq, pow8, Nat.mul_comm, Nat.add_comm]

/-- A byte more, put into its word. -/
theorem put_byte (n : N4) (x : BitVec 8) {i : Nat} (hi : i < 32) (hn : val n < 256 ^ i) :
    n.set (i / 8) (n.get (i / 8) ||| BitVec.setWidth 64 x <<< (8 * (i % 8))) = ofN (val n + 256 ^ i * x.toNat) := by
  have hx := x.isLt
  have e : i = 8 * (i / 8) + i % 8 := (Nat.div_add_mod i 8).symm
  have hp : (256 : Nat) ^ i = 256 ^ (8 * (i / 8)) * 256 ^ (i % 8) := by rw [← Nat.pow_add, ← e]
  have hg : (n.get (i / 8)).toNat < 256 ^ (i % 8) := by
    rw [get_val n (by omega)]
    refine Nat.lt_of_le_of_lt (Nat.mod_le _ _) ?_
    rw [Nat.div_lt_iff_lt_mul (Nat.pow_pos (by omega)), Nat.mul_comm, ← hp]
    exact hn
  have hs := val_set n (i / 8) (n.get (i / 8) ||| BitVec.setWidth 64 x <<< (8 * (i % 8))) (by omega)
  rw [or_byte _ _ (Nat.mod_lt _ (by omega)) hg, Nat.mul_add, ← Nat.mul_assoc, ← hp] at hs
  have hlt : val n + 256 ^ i * x.toNat < p256 := by
    have h1 : 256 ^ i * x.toNat ≤ 256 ^ i * 255 := Nat.mul_le_mul_left _ (by omega)
    have h2 : (256 : Nat) ^ (i + 1) ≤ 256 ^ 32 := Nat.pow_le_pow_right (by omega) (by omega)
    have h3 : (256 : Nat) ^ (i + 1) = 256 ^ i * 256 := Nat.pow_succ ..
    have h4 : p256 = 256 ^ 32 := rfl
    omega
  apply val_inj
  rw [val_ofN, Nat.mod_eq_of_lt hlt]
  omega

theorem bv_take_succ (b : List (BitVec 8)) {i : Nat} (h : i < b.length) : bv (b.take (i + 1)) = bv (b.take i) + 256 ^ i * (b.getD i 0#8).toNat := by
  rw [List.take_succ_eq_append_getElem h, bv_append]
  simp [bv, h, Nat.min_eq_left (Nat.le_of_lt h)]
theorem bv_take_lt (b : List (BitVec 8)) (i : Nat) : bv (b.take i) < 256 ^ i :=
  Nat.lt_of_lt_of_le (bv_lt _) (Nat.pow_le_pow_right (by omega) (by simp; omega))
theorem from_step (b : List (BitVec 8)) {i : Nat} (h : i < b.length) (hi : i < 32) :
    (ofN (bv (b.take i))).set (i / 8) ((ofN (bv (b.take i))).get (i / 8) ||| BitVec.setWidth 64 (b.getD i 0#8) <<< (8 * (i % 8))) = ofN (bv (b.take (i + 1))) := by
  have hlt := bv_take_lt b i
  have hp : (256 : Nat) ^ i ≤ 256 ^ 32 := Nat.pow_le_pow_right (by omega) (by omega)
  have hv : val (ofN (bv (b.take i))) = bv (b.take i) := by
    rw [val_ofN]
    exact Nat.mod_eq_of_lt (Nat.lt_of_lt_of_le hlt hp)
  rw [put_byte _ _ hi (by rw [hv]; exact hlt), hv, bv_take_succ b h]

theorem dbl_step (b : List (BitVec 8)) {i : Nat} (h : i < b.length) (hi : i < 64) (V : Nat) (hV : V = bv (b.take i)) :
    (ofN V).setLo (i / 8) (([ofN V, ofN (V / p256)].getD (i / 8 / 4) N4.zero).get (i / 8 % 4) ||| BitVec.setWidth 64 (b.getD i 0#8) <<< (8 * (i % 8))) = ofN (bv (b.take (i + 1))) ∧
    (ofN (V / p256)).setHi (i / 8) (([ofN V, ofN (V / p256)].getD (i / 8 / 4) N4.zero).get (i / 8 % 4) ||| BitVec.setWidth 64 (b.getD i 0#8) <<< (8 * (i % 8))) = ofN (bv (b.take (i + 1)) / p256) := by
  have hlt := bv_take_lt b i
  have hs := bv_take_succ b h
  by_cases h4 : i < 32
  · have e1 : i / 8 / 4 = 0 := by omega
    have e2 : i / 8 % 4 = i / 8 := by omega
    have h5 : i / 8 < 4 := by omega
    have hp : (256 : Nat) ^ (i + 1) ≤ 256 ^ 32 := Nat.pow_le_pow_right (by omega) (by omega)
    have hp0 : (256 : Nat) ^ i ≤ 256 ^ 32 := Nat.pow_le_pow_right (by omega) (by omega)
    have hl2 := bv_take_lt b (i + 1)
    rw [e1, e2]
    simp only [N4.setLo, N4.setHi, if_pos h5]
    refine ⟨by rw [hV]; exact from_step b h h4, ?_⟩
    have z1 : V / p256 = 0 := Nat.div_eq_of_lt (by rw [hV]; exact Nat.lt_of_lt_of_le hlt hp0)
    have z2 : bv (b.take (i + 1)) / p256 = 0 := Nat.div_eq_of_lt (Nat.lt_of_lt_of_le hl2 hp)
    rw [z1, z2]
  · have e1 : i / 8 / 4 = 1 := by omega
    have e2 : i / 8 % 4 = i / 8 - 4 := by omega
    have h5 : ¬ i / 8 < 4 := by omega
    have e3 : i / 8 - 4 = (i - 32) / 8 := by omega
    have e4 : i % 8 = (i - 32) % 8 := by omega
    have hp : (256 : Nat) ^ i = p256 * 256 ^ (i - 32) := by rw [show p256 = 256 ^ 32 from rfl, ← Nat.pow_add]; congr 1; omega
    have hpos : 0 < p256 := by decide
    have hdiv : V / p256 < 256 ^ (i - 32) := by
      rw [Nat.div_lt_iff_lt_mul hpos, Nat.mul_comm, ← hp, hV]
      exact hlt
    have hle : (256 : Nat) ^ (i - 32) ≤ 256 ^ 32 := Nat.pow_le_pow_right (by omega) (by omega)
    have hv : val (ofN (V / p256)) = V / p256 := by
      rw [val_ofN]
      exact Nat.mod_eq_of_lt (Nat.lt_of_lt_of_le hdiv hle)
    rw [e1, e2, hs, ← hV, hp, Nat.mul_assoc]
    simp only [N4.setLo, N4.setHi, if_neg h5]
    constructor
    · rw [← ofN_mod, ← ofN_mod (V + _), Nat.add_mul_mod_self_left]
    · rw [e3, e4]
      have := put_byte (ofN (V / p256)) (b.getD i 0#8) (i := i - 32) (by omega) (by rw [hv]; exact hdiv)
      rw [hv] at this
      rw [Nat.add_mul_div_left _ _ hpos, ← this]
      rfl
end Go.Sp
