/- Numbers of four words, plainly. Own work; no program in sight. -/
import Derived.Test.YtbhnegdekeojkaaEvA
namespace Go.Sp
open Go.Ev (N4)

def val (a : N4) : Nat := a.w0.toNat + 18446744073709551616 * (a.w1.toNat + 18446744073709551616 * (a.w2.toNat + 18446744073709551616 * a.w3.toNat))
def p256 : Nat := 115792089237316195423570985008687907853269984665640564039457584007913129639936
def ofN (n : Nat) : N4 := ⟨BitVec.ofNat 64 n, BitVec.ofNat 64 (n / 18446744073709551616), BitVec.ofNat 64 (n / 340282366920938463463374607431768211456), BitVec.ofNat 64 (n / 6277101735386680763835789423207666416102355444464034512896)⟩

theorem N4_ext {a b : N4} (h0 : a.w0 = b.w0) (h1 : a.w1 = b.w1) (h2 : a.w2 = b.w2) (h3 : a.w3 = b.w3) : a = b := by
  cases a; cases b; simp only at h0 h1 h2 h3; subst h0 h1 h2 h3; rfl

theorem val_lt (a : N4) : val a < p256 := by
  have h0 := a.w0.isLt
  have h1 := a.w1.isLt
  have h2 := a.w2.isLt
  have h3 := a.w3.isLt
  simp only [val, p256]
  omega

theorem val_mk (w0 w1 w2 w3 : BitVec 64) : val ⟨w0, w1, w2, w3⟩ = w0.toNat + 18446744073709551616 * (w1.toNat + 18446744073709551616 * (w2.toNat + 18446744073709551616 * w3.toNat)) := rfl

theorem val_ofN (n : Nat) : val (ofN n) = n % p256 := by
  simp only [val, ofN, p256, BitVec.toNat_ofNat]
  omega

theorem val_inj {a b : N4} (h : val a = val b) : a = b := by
  have h0 := a.w0.isLt
  have h1 := a.w1.isLt
  have h2 := a.w2.isLt
  have h3 := a.w3.isLt
  have g0 := b.w0.isLt
  have g1 := b.w1.isLt
  have g2 := b.w2.isLt
  have g3 := b.w3.isLt
  simp only [val] at h
  refine N4_ext ?_ ?_ ?_ ?_ <;> apply BitVec.eq_of_toNat_eq <;> omega

theorem ofN_val (a : N4) : ofN (val a) = a := val_inj (by rw [val_ofN]; exact Nat.mod_eq_of_lt (val_lt a))
theorem ofN_mod (n : Nat) : ofN (n % p256) = ofN n := val_inj (by rw [val_ofN, val_ofN, Nat.mod_mod])

/-! ### Sums and differences -/
def zipN (f : BitVec 64 → BitVec 64 → BitVec 64 → BitVec 64 × BitVec 64) (a b : N4) : N4 × BitVec 64 :=
  let r0 := f a.w0 b.w0 0; let r1 := f a.w1 b.w1 r0.2; let r2 := f a.w2 b.w2 r1.2; let r3 := f a.w3 b.w3 r2.2
  (⟨r0.1, r1.1, r2.1, r3.1⟩, r3.2)
def addW (x y c : BitVec 64) : BitVec 64 × BitVec 64 := (x + y + c, (x &&& y ||| (x ||| y) &&& ~~~(x + y + c)) >>> 63)
def subW (x y c : BitVec 64) : BitVec 64 × BitVec 64 := (x - y - c, (~~~x &&& y ||| ~~~(x ^^^ y) &&& (x - y - c)) >>> 63)
def addN : N4 → N4 → N4 × BitVec 64 := zipN addW
def subN : N4 → N4 → N4 × BitVec 64 := zipN subW

theorem shr63 (w : BitVec 64) : (w >>> 63).toNat = if w.msb then 1 else 0 := by
  rw [BitVec.msb_eq_decide]
  have := w.isLt
  simp only [BitVec.toNat_ushiftRight, Nat.shiftRight_eq_div_pow]
  by_cases h : 2 ^ 63 ≤ w.toNat
  · simp [h]; omega
  · simp [h]; omega

theorem addW_ok (x y c : BitVec 64) (hc : c.toNat ≤ 1) : (addW x y c).1.toNat + 18446744073709551616 * (addW x y c).2.toNat = x.toNat + y.toNat + c.toNat ∧ (addW x y c).2.toNat ≤ 1 := by
  have hx := x.isLt
  have hy := y.isLt
  simp only [addW, shr63]
  generalize hs : x + y + c = s
  have hs' : s.toNat = (x.toNat + y.toNat + c.toNat) % 18446744073709551616 := by
    rw [← hs]; simp
  have hsl := s.isLt
  simp only [BitVec.msb_or, BitVec.msb_and, BitVec.msb_not]
  rw [BitVec.msb_eq_decide x, BitVec.msb_eq_decide y, BitVec.msb_eq_decide s]
  by_cases h1 : 2 ^ 63 ≤ x.toNat <;> by_cases h2 : 2 ^ 63 ≤ y.toNat <;> by_cases h3 : 2 ^ 63 ≤ s.toNat <;> simp [h1, h2, h3] <;> omega

theorem subW_ok (x y c : BitVec 64) (hc : c.toNat ≤ 1) : (subW x y c).1.toNat + y.toNat + c.toNat = x.toNat + 18446744073709551616 * (subW x y c).2.toNat ∧ (subW x y c).2.toNat ≤ 1 := by
  have hx := x.isLt
  have hy := y.isLt
  simp only [subW, shr63]
  generalize hs : x - y - c = s
  have hs' : s.toNat = (18446744073709551616 - c.toNat + (18446744073709551616 - y.toNat + x.toNat) % 18446744073709551616) % 18446744073709551616 := by
    rw [← hs]; simp
  have hsl := s.isLt
  simp only [BitVec.msb_or, BitVec.msb_and, BitVec.msb_not, BitVec.msb_xor]
  rw [BitVec.msb_eq_decide x, BitVec.msb_eq_decide y, BitVec.msb_eq_decide s]
  by_cases h1 : 2 ^ 63 ≤ x.toNat <;> by_cases h2 : 2 ^ 63 ≤ y.toNat <;> by_cases h3 : 2 ^ 63 ≤ s.toNat <;> simp [h1, h2, h3] <;> omega

theorem addN_ok (a b : N4) : val (addN a b).1 + p256 * (addN a b).2.toNat = val a + val b ∧ (addN a b).2.toNat ≤ 1 := by
  obtain ⟨q0, l0⟩ := addW_ok a.w0 b.w0 0 (by simp)
  obtain ⟨q1, l1⟩ := addW_ok a.w1 b.w1 (addW a.w0 b.w0 0).2 l0
  obtain ⟨q2, l2⟩ := addW_ok a.w2 b.w2 (addW a.w1 b.w1 (addW a.w0 b.w0 0).2).2 l1
  obtain ⟨q3, l3⟩ := addW_ok a.w3 b.w3 (addW a.w2 b.w2 (addW a.w1 b.w1 (addW a.w0 b.w0 0).2).2).2 l2
  simp only [addN, zipN, val, p256]
  refine ⟨?_, l3⟩
  generalize addW a.w3 b.w3 _ = r3 at *
  generalize addW a.w2 b.w2 _ = r2 at *
  generalize addW a.w1 b.w1 _ = r1 at *
  generalize addW a.w0 b.w0 0 = r0 at *
  simp at q0
  omega

theorem subN_ok (a b : N4) : val (subN a b).1 + val b = val a + p256 * (subN a b).2.toNat ∧ (subN a b).2.toNat ≤ 1 := by
  obtain ⟨q0, l0⟩ := subW_ok a.w0 b.w0 0 (by simp)
  obtain ⟨q1, l1⟩ := subW_ok a.w1 b.w1 (subW a.w0 b.w0 0).2 l0
  obtain ⟨q2, l2⟩ := subW_ok a.w2 b.w2 (subW a.w1 b.w1 (subW a.w0 b.w0 0).2).2 l1
  obtain ⟨q3, l3⟩ := subW_ok a.w3 b.w3 (subW a.w2 b.w2 (subW a.w1 b.w1 (subW a.w0 b.w0 0).2).2).2 l2
  simp only [subN, zipN, val, p256]
  refine ⟨?_, l3⟩
  generalize subW a.w3 b.w3 _ = r3 at *
  generalize subW a.w2 b.w2 _ = r2 at *
  generalize subW a.w1 b.w1 _ = r1 at *
  generalize subW a.w0 b.w0 0 = r0 at *
  simp at q0
  omega

theorem bv64_eq {x : BitVec 64} {n : Nat} (h : x.toNat = n) : x = BitVec.ofNat 64 n := by rw [← h]; simp

theorem addN_eq (a b : N4) : addN a b = (ofN (val a + val b), BitVec.ofNat 64 ((val a + val b) / p256)) := by
  obtain ⟨h1, h2⟩ := addN_ok a b
  have h3 := val_lt (addN a b).1
  have e1 : val (addN a b).1 = (val a + val b) % p256 := by rw [← h1]; simp only [p256] at *; omega
  have e2 : (addN a b).2.toNat = (val a + val b) / p256 := by rw [← h1]; simp only [p256] at *; omega
  exact Prod.ext (val_inj (by rw [e1, val_ofN])) (bv64_eq e2)

theorem subN_eq (a b : N4) : subN a b = (ofN (val a + p256 - val b), if val a < val b then 1 else 0) := by
  obtain ⟨h1, h2⟩ := subN_ok a b
  have h3 := val_lt (subN a b).1
  have h4 := val_lt a
  have h5 := val_lt b
  have e1 : val (subN a b).1 = (val a + p256 - val b) % p256 := by simp only [p256] at *; omega
  refine Prod.ext (val_inj (by rw [e1, val_ofN])) ?_
  apply BitVec.eq_of_toNat_eq
  show (subN a b).2.toNat = (if val a < val b then (1 : BitVec 64) else 0).toNat
  split
  · simp only [p256] at *; simp; omega
  · simp only [p256] at *; simp; omega
end Go.Sp
