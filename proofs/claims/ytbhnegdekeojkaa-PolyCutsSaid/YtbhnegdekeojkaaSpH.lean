/- Sums, differences, comparisons of digits, plainly. Own work; no program in sight. -/
import Derived.Test.YtbhnegdekeojkaaSpG
namespace Go.Sp
open Go.Proofs.Ytbhnegdekeojkaa (trimFrom trimFrom_le)
open Go.Ev (dg nv)

/-- The digit at a place, as a natural number. -/
def dig (a i : Nat) : Nat := a / 256 ^ i % 256
theorem dig_lt (a i : Nat) : dig a i < 256 := Nat.mod_lt _ (by omega)
theorem getD_dig {l : List Int} (h : IsD l) (i : Nat) : l.getD i 0 = ((dig (nv l) i : Nat) : Int) := nv_get h i
theorem mod_succ (a i : Nat) : a % 256 ^ (i + 1) = a % 256 ^ i + 256 ^ i * dig a i := by rw [Nat.mod_pow_succ]; rfl

theorem IsD_snoc {l : List Int} (h : IsD l) {d : Nat} (hd : d < 256) : IsD (l ++ [(d : Int)]) :=
  IsD_append h (IsD_cons ⟨by omega, by omega⟩ IsD_nil)
theorem nv_snocN (l : List Int) (d : Nat) : nv (l ++ [(d : Int)]) = nv l + 256 ^ l.length * d := by rw [nv_snoc]; simp

theorem dg_length_le {a k : Nat} (h : a < 256 ^ k) : (dg a).length ≤ k := by
  induction k generalizing a with
  | zero => have : a = 0 := by simpa using h
            subst this; rw [dg_zero]; simp
  | succ k ih =>
    by_cases h0 : a = 0
    · subst h0; rw [dg_zero]; simp
    · rw [dg_pos h0]
      rw [Nat.pow_succ] at h
      have := ih (a := a / 256) (by omega)
      simp only [List.length_cons]
      omega
theorem lt_of_dg (a : Nat) : a < 256 ^ (dg a).length := by
  have := nv_lt (dg_D a)
  rwa [nv_dg] at this

/-- One step of a sum. -/
theorem sum_step {a b i o c : Nat} (h : o + 256 ^ i * c = a % 256 ^ i + b % 256 ^ i) :
    o + 256 ^ i * ((dig a i + dig b i + c) % 256) + 256 ^ (i + 1) * ((dig a i + dig b i + c) / 256) = a % 256 ^ (i + 1) + b % 256 ^ (i + 1) := by
  rw [mod_succ, mod_succ]
  generalize dig a i = x at *
  generalize dig b i = y at *
  have e : 256 ^ (i + 1) * ((x + y + c) / 256) = 256 ^ i * (256 * ((x + y + c) / 256)) := by rw [Nat.pow_succ, Nat.mul_assoc]
  rw [e, Nat.add_assoc, ← Nat.mul_add, Nat.add_comm ((x + y + c) % 256), Nat.div_add_mod]
  generalize 256 ^ i = p at *
  have : p * (x + y + c) = p * x + p * y + p * c := by rw [Nat.mul_add, Nat.mul_add]
  omega

/-- One step of a difference. -/
theorem minus_step {a b i o c : Nat} (h : o + b % 256 ^ i = a % 256 ^ i + 256 ^ i * c) (hc : c ≤ 1) :
    o + 256 ^ i * ((256 + dig a i - dig b i - c) % 256) + b % 256 ^ (i + 1) = a % 256 ^ (i + 1) + 256 ^ (i + 1) * (1 - (256 + dig a i - dig b i - c) / 256) := by
  rw [mod_succ, mod_succ]
  have hx := dig_lt a i
  have hy := dig_lt b i
  generalize dig a i = x at *
  generalize dig b i = y at *
  have e : 256 ^ (i + 1) = 256 ^ i * 256 := Nat.pow_succ ..
  rw [e, Nat.mul_assoc]
  generalize 256 ^ i = p at *
  by_cases hlt : x < y + c
  · have e1 : (256 + x - y - c) % 256 = 256 + x - y - c := Nat.mod_eq_of_lt (by omega)
    have e2 : (256 + x - y - c) / 256 = 0 := Nat.div_eq_of_lt (by omega)
    rw [e1, e2]
    have e3 : 256 + x - y - c = 256 + x - (y + c) := by omega
    rw [e3, Nat.mul_sub]
    have : p * (256 + x) = p * 256 + p * x := Nat.mul_add ..
    have : p * (y + c) = p * y + p * c := Nat.mul_add ..
    have : p * (y + c) ≤ p * (256 + x) := Nat.mul_le_mul_left _ (by omega)
    omega
  · have e1 : (256 + x - y - c) % 256 = x - (y + c) := by omega
    have e2 : (256 + x - y - c) / 256 = 1 := by omega
    rw [e1, e2, Nat.mul_sub]
    have : p * (y + c) = p * y + p * c := Nat.mul_add ..
    have : p * (y + c) ≤ p * x := Nat.mul_le_mul_left _ (by omega)
    omega

/-- Which of two is less is told by the highest digit that differs. -/
theorem less_step {a b i : Nat} (h : a / 256 ^ (i + 1) = b / 256 ^ (i + 1)) : (dig a i = dig b i → a / 256 ^ i = b / 256 ^ i) ∧ (dig a i ≠ dig b i → (a < b ↔ dig a i < dig b i)) := by
  have hp : 0 < 256 ^ i := Nat.pow_pos (by omega)
  have ea : a / 256 ^ (i + 1) = a / 256 ^ i / 256 := by rw [Nat.pow_succ, Nat.div_div_eq_div_mul]
  have eb : b / 256 ^ (i + 1) = b / 256 ^ i / 256 := by rw [Nat.pow_succ, Nat.div_div_eq_div_mul]
  rw [ea, eb] at h
  unfold dig
  refine ⟨fun e => by omega, fun hne => ?_⟩
  constructor
  · intro hlt
    have : a / 256 ^ i ≤ b / 256 ^ i := Nat.div_le_div_right (by omega)
    omega
  · intro hlt
    rcases Nat.lt_or_ge a b with h1 | h1
    · exact h1
    · have : b / 256 ^ i ≤ a / 256 ^ i := Nat.div_le_div_right h1
      omega
end Go.Sp
