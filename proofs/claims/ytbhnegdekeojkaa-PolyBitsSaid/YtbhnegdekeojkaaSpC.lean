/- Picking and bits, plainly. Own work; no program in sight. -/
import Derived.Test.YtbhnegdekeojkaaSpB
namespace Go.Sp
open Go.Ev (N4)

def pickN (x : BitVec 64) (a b : N4) : N4 :=
  let m : BitVec 64 := -((x ||| -x) >>> 63)
  ⟨a.w0 ^^^ (m &&& (a.w0 ^^^ b.w0)), a.w1 ^^^ (m &&& (a.w1 ^^^ b.w1)), a.w2 ^^^ (m &&& (a.w2 ^^^ b.w2)), a.w3 ^^^ (m &&& (a.w3 ^^^ b.w3))⟩

theorem mask_eq (x : BitVec 64) : -((x ||| -x) >>> 63) = if x = 0#64 then 0#64 else BitVec.allOnes 64 := by
  have h : ((x ||| -x) >>> 63).toNat = if x = 0#64 then 0 else 1 := by
    rw [shr63, BitVec.msb_or, BitVec.msb_eq_decide x, BitVec.msb_eq_decide (-x)]
    have hx := x.isLt
    by_cases h0 : x = 0#64
    · subst h0; rfl
    · rw [if_neg h0]
      have hne : x.toNat ≠ 0 := fun e => h0 (BitVec.eq_of_toNat_eq (e.trans rfl))
      by_cases h1 : 2 ^ 63 ≤ x.toNat
      · simp [h1]
      · have h2 : 2 ^ 63 ≤ (-x).toNat := by rw [BitVec.toNat_neg]; omega
        simp only [h2, decide_true, Bool.or_true, if_true]
  split
  · rename_i h0; subst h0; rfl
  · rename_i h0
    rw [if_neg h0] at h
    have : (x ||| -x) >>> 63 = 1#64 := BitVec.eq_of_toNat_eq (by rw [h]; rfl)
    rw [this]; rfl

theorem pickN_eq (x : BitVec 64) (a b : N4) : pickN x a b = if x = 0#64 then a else b := by
  unfold pickN
  simp only [mask_eq]
  split
  · refine N4_ext ?_ ?_ ?_ ?_ <;> simp
  · have key : ∀ p q : BitVec 64, p ^^^ (BitVec.allOnes 64 &&& (p ^^^ q)) = q := by
      intro p q
      rw [BitVec.allOnes_and, ← BitVec.xor_assoc, BitVec.xor_self, BitVec.zero_xor]
    refine N4_ext ?_ ?_ ?_ ?_ <;> simp only [key]

/-- One bit. -/
def bitN (a : N4) (i : Int) : BitVec 64 := if i < 0 ∨ 255 < i then 0#64 else BitVec.ofNat 64 (val a / 2 ^ i.toNat % 2)

theorem get_ok (a : N4) (j : Nat) (hj : j < 4) : (a.get j).toNat = val a / 2 ^ (64 * j) % 18446744073709551616 := by
  have h0 := a.w0.isLt
  have h1 := a.w1.isLt
  have h2 := a.w2.isLt
  have h3 := a.w3.isLt
  match j, hj with
  | 0, _ => show a.w0.toNat = _; simp only [val]; omega
  | 1, _ => show a.w1.toNat = _; simp only [val]; omega
  | 2, _ => show a.w2.toNat = _; simp only [val]; omega
  | 3, _ => show a.w3.toNat = _; simp only [val]; omega

theorem bitN_in (a : N4) (k : Nat) (hk : k ≤ 255) : a.get (k / 64) >>> (k % 64) &&& 1#64 = BitVec.ofNat 64 (val a / 2 ^ k % 2) := by
  apply BitVec.eq_of_toNat_eq
  have h := shr_bit (a.get (k / 64)) (k % 64)
  rw [get_ok a (k / 64) (by omega), bit_split _ _ (by omega), Nat.div_div_eq_div_mul, ← Nat.pow_add] at h
  have e : 64 * (k / 64) + k % 64 = k := by omega
  rw [e] at h
  refine h.trans ?_
  rw [BitVec.toNat_ofNat]
  omega

theorem tdiv_nat (a b : Nat) : (((a : Int)).tdiv (b : Int)).toNat = a / b := by rw [← Int.ofNat_tdiv]; rfl
theorem tmod_nat (a b : Nat) : (((a : Int)).tmod (b : Int)).toNat = a % b := by rw [← Int.ofNat_tmod]; rfl

/-- The rest of a double number. -/
def modN (lo hi m : N4) : N4 := if val m = 0 then ⟨0, 0, 0, 0⟩ else ofN (wide lo hi % val m)
def modE (m : N4) : Int := if val m = 0 then 8 else 0
theorem val_zero : val ⟨0, 0, 0, 0⟩ = 0 := rfl
theorem wide_lt (lo hi : N4) {n k : Nat} (hn : n = k + k) (hk : k = 256) : wide lo hi < 2 ^ n := by
  have h1 := val_lt lo
  have h2 := val_lt hi
  have e : 2 ^ k = p256 := by subst hk; rfl
  rw [hn, Nat.pow_add, e]
  simp only [wide, p256] at *
  omega
theorem wide_top (lo hi : N4) (M : Nat) {n k : Nat} (hn : n = k + k) (hk : k = 256) : 0 = wide lo hi / 2 ^ n % M := by
  rw [Nat.div_eq_of_lt (wide_lt lo hi hn hk), Nat.zero_mod]
end Go.Sp
