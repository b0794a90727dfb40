/- Products and rests of digits, plainly. Own work; no program in sight. -/
import Derived.Test.YtbhnegdekeojkaaSpI
namespace Go.Sp
open Go.Proofs.Ytbhnegdekeojkaa (trimFrom trimFrom_le)
open Go.Ev (dg nv)

theorem nv_set : ∀ {l : List Int} {j : Nat} (d : Int), j < l.length → nv (l.set j d) + 256 ^ j * (l.getD j 0).toNat = nv l + 256 ^ j * d.toNat := by
  intro l
  induction l with
  | nil => intro j d h; simp at h
  | cons a l ih =>
    intro j d h
    cases j with
    | zero => simp [nv]; omega
    | succ j =>
      have := ih (j := j) d (by simpa using h)
      simp only [List.set_cons_succ, nv, List.getD_cons_succ]
      rw [Nat.pow_succ, Nat.mul_comm (256 ^ j) 256, Nat.mul_assoc, Nat.mul_assoc]
      omega
theorem IsD_set {l : List Int} (h : IsD l) (j : Nat) {d : Nat} (hd : d < 256) : IsD (l.set j (d : Int)) := fun x hx => by
  rcases List.mem_or_eq_of_mem_set hx with hx | rfl
  · exact h x hx
  · omega
theorem eq_dl {l : List Int} (h : IsD l) : l = dl (nv l) l.length := by
  obtain ⟨h1, h2, h3⟩ := dl_ok (nv l) l.length
  rw [Nat.mod_eq_of_lt (nv_lt h)] at h3
  refine List.ext_getElem h1.symm fun i hi hi' => ?_
  have a := getD_dig h i
  have b := getD_dig h2 i
  rw [h3] at b
  simp only [List.getD_eq_getElem?_getD, List.getElem?_eq_getElem hi, List.getElem?_eq_getElem hi', Option.getD_some] at a b
  rw [a, b]

/-- One step of a row of a product. -/
structure MulOk (a b N i k : Nat) (out : List Int) (c : Nat) : Prop where
  len : out.length = N
  digs : IsD out
  carry : c ≤ 255
  val : nv out + 256 ^ (i + k) * c = a % 256 ^ i * b + 256 ^ i * (dig a i * (b % 256 ^ k))
theorem mul_step {a b N i k c : Nat} {out : List Int} (h : MulOk a b N i k out c) (hk : i + k < N) :
    MulOk a b N i (k + 1) (out.set (i + k) (((dig (nv out) (i + k) + dig a i * dig b k + c) % 256 : Nat) : Int)) ((dig (nv out) (i + k) + dig a i * dig b k + c) / 256) := by
  obtain ⟨h1, h2, h3, h4⟩ := h
  have hx := dig_lt (nv out) (i + k)
  have hy := dig_lt a i
  have hz := dig_lt b k
  have hm : dig a i * dig b k ≤ 255 * 255 := Nat.mul_le_mul (by omega) (by omega)
  refine ⟨by simp [h1], IsD_set h2 _ (Nat.mod_lt _ (by omega)), by omega, ?_⟩
  have hs := nv_set (l := out) (j := i + k) (((dig (nv out) (i + k) + dig a i * dig b k + c) % 256 : Nat) : Int) (by omega)
  rw [getD_dig h2, Int.toNat_natCast, Int.toNat_natCast] at hs
  have e1 : b % 256 ^ (k + 1) = b % 256 ^ k + 256 ^ k * dig b k := mod_succ b k
  have e2 : 256 ^ i * (dig a i * (b % 256 ^ (k + 1))) = 256 ^ i * (dig a i * (b % 256 ^ k)) + 256 ^ (i + k) * (dig a i * dig b k) := by
    rw [e1, Nat.mul_add, Nat.mul_add, Nat.pow_add]
    congr 1
    ac_rfl
  rw [e2]
  have e3 : 256 ^ (i + (k + 1)) = 256 ^ (i + k) * 256 := by rw [← Nat.add_assoc, Nat.pow_succ]
  rw [e3]
  generalize dig (nv out) (i + k) = x at *
  generalize dig a i * dig b k = y at *
  generalize 256 ^ (i + k) = p at *
  have e4 : p * 256 * ((x + y + c) / 256) + p * ((x + y + c) % 256) = p * (x + y + c) := by
    rw [Nat.mul_assoc, ← Nat.mul_add, Nat.div_add_mod]
  have e5 : p * (x + y + c) = p * x + p * y + p * c := by rw [Nat.mul_add, Nat.mul_add]
  omega
theorem mul_row {a b i k : Nat} (hk : b < 256 ^ k) : a % 256 ^ i * b + 256 ^ i * (dig a i * (b % 256 ^ k)) = a % 256 ^ (i + 1) * b := by
  rw [Nat.mod_eq_of_lt hk, mod_succ, Nat.add_mul, Nat.mul_assoc]
theorem mul_more {a b N i k c lb : Nat} {out : List Int} (h : MulOk a b N i k out c) (hb : b < 256 ^ lb) (hk : lb ≤ k) (hc : 0 < c) : k ≤ lb := by
  have hbk : b < 256 ^ k := Nat.lt_of_lt_of_le hb (Nat.pow_le_pow_right (by omega) hk)
  have h4 := h.val
  rw [mul_row hbk] at h4
  have h5 : a % 256 ^ (i + 1) * b < 256 ^ (i + 1) * 256 ^ lb := Nat.mul_lt_mul'' (Nat.mod_lt _ (Nat.pow_pos (by omega))) hb
  rw [← Nat.pow_add] at h5
  have h6 : 256 ^ (i + k) * 1 ≤ 256 ^ (i + k) * c := Nat.mul_le_mul_left _ hc
  rcases Nat.lt_or_ge lb k with h7 | h7
  · have : 256 ^ (i + 1 + lb) ≤ 256 ^ (i + k) := Nat.pow_le_pow_right (by omega) (by omega)
    omega
  · exact h7
theorem mul_done {a b N i k lb : Nat} {out : List Int} (h : MulOk a b N i k out 0) (hb : b < 256 ^ lb) (hk : lb ≤ k) : out = dl (a % 256 ^ (i + 1) * b) N := by
  have hbk : b < 256 ^ k := Nat.lt_of_lt_of_le hb (Nat.pow_le_pow_right (by omega) hk)
  have h4 := h.val
  rw [mul_row hbk, Nat.mul_zero, Nat.add_zero] at h4
  have := eq_dl h.digs
  rw [h4, h.len] at this
  exact this
theorem mul_start {a b N i : Nat} (hlt : a % 256 ^ i * b < 256 ^ N) : MulOk a b N i 0 (dl (a % 256 ^ i * b) N) 0 := by
  obtain ⟨h1, h2, h3⟩ := dl_ok (a % 256 ^ i * b) N
  refine ⟨h1, h2, by omega, ?_⟩
  rw [h3, Nat.mod_eq_of_lt hlt]
  simp [Nat.mod_one]
theorem dl_zero : ∀ n, dl 0 n = List.replicate n 0
  | 0 => rfl
  | n + 1 => by simp only [dl, dl_zero n, List.replicate_succ']; simp [dig]

/-- A digit more ahead of what is left. -/
theorem left_next (a m k : Nat) : (dig a k + 256 * (a / 256 ^ (k + 1) % m)) % m = a / 256 ^ k % m := by
  have e : a / 256 ^ k = dig a k + 256 * (a / 256 ^ (k + 1)) := by
    rw [Nat.pow_succ, ← Nat.div_div_eq_div_mul]
    unfold dig
    omega
  rw [e, Nat.add_mod, Nat.mul_mod, Nat.mod_mod, ← Nat.mul_mod, ← Nat.add_mod]
end Go.Sp
