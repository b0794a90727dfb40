/- Digits to the base 256, the lowest first, plainly. Own work; no program in sight. -/
import Derived.Test.YtbhnegdekeojkaaTrim
import Derived.Test.YtbhnegdekeojkaaEvS
namespace Go.Sp
open Go.Proofs.Ytbhnegdekeojkaa (trimFrom trimFrom_le)
open Go.Ev (dg nv)

def IsD (l : List Int) : Prop := ∀ d ∈ l, 0 ≤ d ∧ d < 256
def trim (l : List Int) : List Int := l.take (trimFrom l l.length)

theorem dg_zero : dg 0 = [] := by rw [dg]; simp
theorem dg_pos {n : Nat} (h : n ≠ 0) : dg n = ((n % 256 : Nat) : Int) :: dg (n / 256) := by rw [dg]; simp [h]

theorem IsD_nil : IsD [] := fun d h => by simp at h
theorem IsD_cons {d : Int} {l : List Int} (h : 0 ≤ d ∧ d < 256) (hl : IsD l) : IsD (d :: l) := fun x hx => by
  rcases List.mem_cons.1 hx with rfl | hx
  · exact h
  · exact hl x hx
theorem IsD_append {l m : List Int} (hl : IsD l) (hm : IsD m) : IsD (l ++ m) := fun x hx => by
  rcases List.mem_append.1 hx with hx | hx
  · exact hl x hx
  · exact hm x hx

theorem dg_D : ∀ n, IsD (dg n) := by
  intro n
  induction n using Nat.strongRecOn with
  | _ n ih =>
    by_cases h : n = 0
    · subst h; rw [dg_zero]; exact IsD_nil
    · rw [dg_pos h]; exact IsD_cons (by omega) (ih _ (by omega))
theorem nv_dg : ∀ n, nv (dg n) = n := by
  intro n
  induction n using Nat.strongRecOn with
  | _ n ih =>
    by_cases h : n = 0
    · subst h; rw [dg_zero]; rfl
    · rw [dg_pos h]
      simp only [nv]
      rw [ih _ (by omega)]
      simp
      omega

theorem nv_append : ∀ (l m : List Int), nv (l ++ m) = nv l + 256 ^ l.length * nv m
  | [], m => by simp [nv]
  | d :: l, m => by
    simp only [List.cons_append, nv, nv_append l m, List.length_cons, Nat.pow_succ]
    rw [Nat.mul_add, Nat.mul_comm (256 ^ l.length) 256, Nat.mul_assoc]
    omega
theorem nv_snoc (l : List Int) (d : Int) : nv (l ++ [d]) = nv l + 256 ^ l.length * d.toNat := by rw [nv_append]; simp [nv]

theorem nv_lt : ∀ {l : List Int}, IsD l → nv l < 256 ^ l.length := by
  intro l
  induction l with
  | nil => intro _; simp [nv]
  | cons d l ih =>
    intro h
    have h1 := h d (List.mem_cons_self ..)
    have h2 := ih fun x hx => h x (List.mem_cons_of_mem _ hx)
    simp only [nv, List.length_cons, Nat.pow_succ]
    omega

theorem nv_zero : ∀ {l : List Int}, nv l = 0 → IsD l → ∀ i, l.getD i 0 = 0 := by
  intro l
  induction l with
  | nil => intro _ _ i; simp
  | cons d l ih =>
    intro h hd i
    simp only [nv] at h
    have h1 := hd d (List.mem_cons_self ..)
    cases i with
    | zero => simp; omega
    | succ i => simpa using ih (by omega) (fun x hx => hd x (List.mem_cons_of_mem _ hx)) i

/-- The digit at a place. -/
theorem nv_get : ∀ {l : List Int}, IsD l → ∀ i, l.getD i 0 = ((nv l / 256 ^ i % 256 : Nat) : Int) := by
  intro l
  induction l with
  | nil => intro _ i; simp [nv]
  | cons d l ih =>
    intro hd i
    have h1 := hd d (List.mem_cons_self ..)
    have h2 := fun x hx => hd x (List.mem_cons_of_mem _ hx)
    cases i with
    | zero => simp [nv]; omega
    | succ i =>
      have := ih h2 i
      simp only [List.getD_cons_succ, this, nv]
      rw [Nat.pow_succ, Nat.mul_comm (256 ^ i) 256, ← Nat.div_div_eq_div_mul]
      have : (d.toNat + 256 * nv l) / 256 = nv l := by omega
      rw [this]

/-- A list of digits whose last one is not 0 is the list of its number's digits. -/
theorem eq_dg : ∀ {l : List Int}, IsD l → (l = [] ∨ l.getD (l.length - 1) 0 ≠ 0) → l = dg (nv l) := by
  intro l
  induction l with
  | nil => intro _ _; rw [nv, dg_zero]
  | cons d l ih =>
    intro hd hl
    have h1 := hd d (List.mem_cons_self ..)
    have h2 : IsD l := fun x hx => hd x (List.mem_cons_of_mem _ hx)
    have hl' : l = [] ∨ l.getD (l.length - 1) 0 ≠ 0 := by
      cases l with
      | nil => exact .inl rfl
      | cons e l => right; rcases hl with hl | hl; · simp at hl
                    simpa using hl
    have e := ih h2 hl'
    have hne : nv (d :: l) ≠ 0 := by
      intro h0
      rcases hl with hl | hl
      · simp at hl
      · exact hl (nv_zero h0 hd _)
    rw [dg_pos hne]
    simp only [nv]
    have e1 : (d.toNat + 256 * nv l) % 256 = d.toNat := by omega
    have e2 : (d.toNat + 256 * nv l) / 256 = nv l := by omega
    rw [e1, e2, ← e]
    congr 1
    omega

theorem trimFrom_last (l : List Int) : ∀ n, trimFrom l n = 0 ∨ l.getD (trimFrom l n - 1) 0 ≠ 0
  | 0 => .inl rfl
  | n + 1 => by
    unfold trimFrom
    split
    · exact trimFrom_last l n
    · right; simpa using ‹_›
theorem trimFrom_zeros (l : List Int) : ∀ n i, trimFrom l n ≤ i → i < n → l.getD i 0 = 0
  | 0, i, _, h => by omega
  | n + 1, i, h1, h2 => by
    unfold trimFrom at h1
    split at h1
    · rename_i h0
      by_cases e : i = n
      · subst e; exact h0
      · exact trimFrom_zeros l n i h1 (by omega)
    · omega

theorem nv_zeros : ∀ {l : List Int}, (∀ i, i < l.length → l.getD i 0 = 0) → nv l = 0 := by
  intro l
  induction l with
  | nil => intro _; rfl
  | cons d l ih =>
    intro h
    have h0 := h 0 (by simp)
    simp at h0
    simp only [nv, h0, ih (fun i hi => by have := h (i + 1) (by simpa using hi); simpa using this)]
    rfl

theorem trim_eq {l : List Int} (hd : IsD l) : trim l = dg (nv l) := by
  have hle := trimFrom_le l l.length
  have hnv : nv l = nv (trim l) := by
    have e : l = l.take (trimFrom l l.length) ++ l.drop (trimFrom l l.length) := (List.take_append_drop _ _).symm
    have hz : nv (l.drop (trimFrom l l.length)) = 0 := nv_zeros fun i hi => by
      have := trimFrom_zeros l l.length (trimFrom l l.length + i) (by omega) (by simp at hi; omega)
      rw [List.getD_eq_getElem?_getD] at this ⊢
      rw [List.getElem?_drop]
      exact this
    calc nv l = nv (l.take (trimFrom l l.length) ++ l.drop (trimFrom l l.length)) := by rw [← e]
      _ = nv (trim l) := by rw [nv_append, hz]; simp [trim]
  rw [hnv]
  refine eq_dg (fun x hx => hd x (List.mem_of_mem_take hx)) ?_
  rcases trimFrom_last l l.length with h | h
  · left; simp [trim, h]
  · by_cases h0 : trimFrom l l.length = 0
    · left; simp [trim, h0]
    · right
      have hl : (trim l).length = trimFrom l l.length := by simp [trim]; omega
      rw [hl]
      rw [List.getD_eq_getElem?_getD] at h ⊢
      unfold trim
      rw [List.getElem?_take, if_pos (by omega)]
      exact h
end Go.Sp
