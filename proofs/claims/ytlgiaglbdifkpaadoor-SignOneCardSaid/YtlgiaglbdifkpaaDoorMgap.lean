/- Texts put together: FdB FdL FdM EvV EvX EvU FdC. Own work. -/
import Derived.Test.YtlgiaglbdifkpaaDoorMgao
/- The prime 2^255 - 19: digits settled, plainly. Own work. -/
namespace Go.Sp
open Go.Ev
def Pp : Nat := 57896044618658097711785492504343953926634992332820282019728792003956564819949
def p255 : Nat := 57896044618658097711785492504343953926634992332820282019728792003956564819968
theorem p256_two : p256 = 2 * p255 := by decide
theorem p255_Pp : p255 = Pp + 19 := by decide
theorem Pp_pos : 0 < Pp := by decide
theorem Pp_lt : Pp < p256 := by decide
/-! ### 2^256 counts as 38 -/
def f38 (n : Nat) : Nat := n % p256 + 38 * (n / p256)
theorem f38_mod (n : Nat) : f38 n % Pp = n % Pp := by
  have h := Nat.mod_add_div n p256
  have e : n = f38 n + Pp * (2 * (n / p256)) := by
    unfold f38
    have hp : p256 = 2 * Pp + 38 := by decide
    rw [hp] at h ⊢
    generalize n % (2 * Pp + 38) = m at *
    generalize n / (2 * Pp + 38) = k at *
    rw [← h, Nat.add_mul, Nat.mul_assoc, Nat.mul_left_comm 2 Pp k]
    omega
  have := Nat.add_mul_mod_self_left (f38 n) Pp (2 * (n / p256))
  rw [← e] at this
  exact this.symm
theorem f38_two {n : Nat} (h : n < 35184372088832 * p256) : f38 (f38 n) < p256 := by
  have hk : n / p256 < 35184372088832 := (Nat.div_lt_iff_lt_mul (by decide)).2 h
  have hm : n % p256 < p256 := Nat.mod_lt _ (by decide)
  unfold f38
  generalize n / p256 = k at *
  generalize n % p256 = m at *
  have hp : 2000000000000000 < p256 := by decide
  generalize p256 = p at *
  have h1 : m + 38 * k < 2 * p := by omega
  by_cases hc : m + 38 * k < p
  · rw [Nat.mod_eq_of_lt hc, Nat.div_eq_of_lt hc]; omega
  · have e1 : (m + 38 * k) / p = 1 := by
      rw [Nat.div_eq_iff (by omega)]; omega
    have e2 : (m + 38 * k) % p = m + 38 * k - p := by
      rw [Nat.mod_eq_sub_mod (by omega), Nat.mod_eq_of_lt (by omega)]
    rw [e1, e2]; omega
theorem f38_small {n : Nat} (h : n < p256) : f38 n = n := by unfold f38; rw [Nat.mod_eq_of_lt h, Nat.div_eq_of_lt h]; omega
/-- Small enough digits. -/
def Sd (l : List Int) : Prop := l.length = 16 ∧ ∀ j, j < 16 → 0 ≤ l.getD j 0 ∧ l.getD j 0 < 35184372088832
theorem Sd.V {l : List Int} (h : Sd l) : ∃ n : Nat, Go.Sp.V l = (n : Int) ∧ n < 35184372088832 * p256 ∧ n / p256 ≤ 600000000 := by
  have h0 : ∀ d ∈ l, 0 ≤ d ∧ d ≤ ((35184372088832 : Nat) : Int) := mem_getD fun i hi => by have := h.2 i (by rw [← h.1]; exact hi); omega
  have h1 := V_lt h0
  have h2 := V_nonneg fun d hd => (h0 d hd).1
  obtain ⟨n, hn⟩ := Int.eq_ofNat_of_zero_le h2
  rw [h.1, ← p256_eq, hn] at h1
  have h3 : 65535 * n + 35184372088832 ≤ 35184372088832 * p256 := by omega
  refine ⟨n, hn, by omega, ?_⟩
  have : n < 600000001 * p256 := by
    have e : 35184372088832 * p256 ≤ 65535 * (536879137 * p256) := by
      rw [← Nat.mul_assoc]
      exact Nat.mul_le_mul_right _ (by decide)
    omega
  have := (Nat.div_lt_iff_lt_mul (x := n) (y := 600000001) (k := p256) (by decide)).2 this
  omega
def fp (l : List Int) : List Int := (cpF l 0 16).1.set 0 ((cpF l 0 16).1.getD 0 0 + 38 * (cpF l 0 16).2)
theorem fp_ok {l : List Int} {n : Nat} (h : Sd l) (hv : V l = (n : Int)) : Sd (fp l) ∧ V (fp l) = ((f38 n : Nat) : Int) := by
  obtain ⟨n', hn', _, hk⟩ := h.V
  have : n = n' := by rw [hv] at hn'; exact_mod_cast hn'
  subst this
  have e := cp_all (n := n) h.1 h.2 (c := 0) (by omega) (by rw [hv]; omega)
  unfold fp
  rw [e]
  have hd := digs16_D n
  have hl := digs16_len n
  refine ⟨⟨by rw [List.length_set, hl], fun j hj => ?_⟩, ?_⟩
  · rw [getD_setI _ _ _ _ (by rw [hl]; omega)]
    have d0 := getD_mem hd 0 (by rw [hl]; omega)
    have dj := getD_mem hd j (by rw [hl]; omega)
    simp only
    generalize n / p256 = k at *
    split
    · omega
    · omega
  · rw [V_set _ (by rw [hl]; omega), digs16_V]
    unfold f38
    simp only [Int.pow_zero, Int.one_mul]
    omega
theorem fp_last {l : List Int} {n : Nat} (h : Sd l) (hv : V l = (n : Int)) (hn : n < p256) : fp l = digs16 n := by
  have e := cp_all (n := n) h.1 h.2 (c := 0) (by omega) (by rw [hv]; omega)
  unfold fp
  rw [e, Nat.div_eq_of_lt hn]
  have hl := digs16_len n
  apply List.ext_getElem (by rw [List.length_set])
  intro i h1 h2
  rw [List.getElem_set]
  split
  · rename_i h0
    subst h0
    rw [List.getD_eq_getElem?_getD, List.getElem?_eq_getElem (by rw [hl]; omega)]
    simp
  · rfl
def fpN (l : List Int) : Nat → List Int
  | 0 => l
  | n + 1 => fp (fpN l n)
theorem fp5 {l : List Int} (h : Sd l) : ∃ x n : Nat, V l = (n : Int) ∧ x < p256 ∧ x % Pp = n % Pp ∧ fpN l 5 = digs16 x := by
  obtain ⟨n, hn, hlt, _⟩ := h.V
  obtain ⟨a1, b1⟩ := fp_ok h hn
  obtain ⟨a2, b2⟩ := fp_ok a1 b1
  have s2 := f38_two hlt
  obtain ⟨a3, b3⟩ := fp_ok a2 b2
  rw [f38_small s2] at b3
  obtain ⟨a4, b4⟩ := fp_ok a3 b3
  rw [f38_small s2] at b4
  exact ⟨f38 (f38 n), n, hn, s2, by rw [f38_mod, f38_mod], fp_last a4 b4 s2⟩
theorem fpN_Sd {l : List Int} (h : Sd l) : ∀ n, Sd (fpN l n)
  | 0 => h
  | n + 1 => by
    have ih := fpN_Sd h n
    obtain ⟨m, hm, _⟩ := ih.V
    exact (fp_ok ih hm).1
/-! ### 2^255 counts as 19 -/
def g19 (x : Nat) : Nat := x % p255 + 19 * (x / p255)
theorem g19_mod (n : Nat) : g19 n % Pp = n % Pp := by
  have h := Nat.mod_add_div n p255
  have e : n = g19 n + Pp * (n / p255) := by
    unfold g19
    have hp : p255 = Pp + 19 := by decide
    rw [hp] at h ⊢
    generalize n % (Pp + 19) = m at *
    generalize n / (Pp + 19) = k at *
    rw [← h, Nat.add_mul]
    omega
  have := Nat.add_mul_mod_self_left (g19 n) Pp (n / p255)
  rw [← e] at this
  exact this.symm
theorem g19_lt {x : Nat} (h : x < p256) : g19 x < p255 + 19 := by
  unfold g19
  have h1 : x % p255 < p255 := Nat.mod_lt _ (by decide)
  have h2 : x / p255 < 2 := (Nat.div_lt_iff_lt_mul (by decide)).2 (by rw [← p256_two]; exact h)
  omega
theorem g19_two {x : Nat} (h : x < p256) : g19 (g19 x) < p255 := by
  have h1 := g19_lt h
  have hp : 1000 < p255 := by decide
  by_cases hc : g19 x < p255
  · rw [g19, Nat.mod_eq_of_lt hc, Nat.div_eq_of_lt hc]; omega
  · generalize g19 x = y at *
    have e1 : y / p255 = 1 := by rw [Nat.div_eq_iff (by omega)]; omega
    have e2 : y % p255 = y - p255 := by rw [Nat.mod_eq_sub_mod (by omega), Nat.mod_eq_of_lt (by omega)]
    rw [g19, e1, e2]; omega
def tp1 (l : List Int) : List Int := l.set 15 ((l.getD 15 0).tmod 32768)
def tpC (l : List Int) : Int := 19 * (l.getD 15 0).tdiv 32768
def tp (l : List Int) : List Int := (cpF (tp1 l) (tpC l) 16).1
theorem dig15 {x : Nat} (h : x < p256) : dig16 x 15 = ((x / 65536 ^ 15 : Nat) : Int) := by
  unfold dig16
  rw [Nat.mod_eq_of_lt]
  rw [p256_eq, Nat.pow_succ, Nat.mul_comm] at h
  exact (Nat.div_lt_iff_lt_mul (Nat.pow_pos (by omega))).2 h
theorem top_q {x : Nat} : x / 65536 ^ 15 / 32768 = x / p255 := by
  rw [Nat.div_div_eq_div_mul, show 65536 ^ 15 * 32768 = p255 by decide]
theorem tp_pre {x : Nat} (h : x < p256) : Sd (tp1 (digs16 x)) ∧ tpC (digs16 x) = ((19 * (x / p255) : Nat) : Int) ∧ V (tp1 (digs16 x)) + tpC (digs16 x) = ((g19 x : Nat) : Int) := by
  have hl := digs16_len x
  have hd := digs16_D x
  have e15 : (digs16 x).getD 15 0 = ((x / 65536 ^ 15 : Nat) : Int) := by rw [digs16_getD _ _ (by omega), dig15 h]
  have hc : tpC (digs16 x) = ((19 * (x / p255) : Nat) : Int) := by
    unfold tpC
    rw [e15, ← top_q, Int.tdiv_eq_ediv_of_nonneg (by omega)]
    omega
  have h1 : (digs16 x).getD 15 0 < 65536 := (getD_mem hd 15 (by rw [hl]; omega)).2
  rw [e15] at h1
  refine ⟨⟨by rw [tp1, List.length_set, hl], fun j hj => ?_⟩, hc, ?_⟩
  · rw [tp1, getD_setI _ _ _ _ (by rw [hl]; omega), e15, Int.tmod_eq_emod_of_nonneg (by omega)]
    have dj := getD_mem hd j (by rw [hl]; omega)
    split <;> omega
  · rw [hc, tp1, V_set _ (by rw [hl]; omega), digs16_V, Nat.mod_eq_of_lt h, e15, Int.tmod_eq_emod_of_nonneg (by omega)]
    have hq := top_q (x := x)
    have hx := Nat.mod_add_div x p255
    unfold g19
    have hp : ((65536 : Int) ^ 15) = ((65536 ^ 15 : Nat) : Int) := by decide
    rw [hp]
    generalize x / 65536 ^ 15 = y at *
    have hz : ((y : Nat) : Int) % 32768 - (y : Int) = -(32768 * ((x / p255 : Nat) : Int)) := by omega
    rw [hz, Int.mul_neg, ← Int.mul_assoc]
    have hp2 : ((65536 ^ 15 : Nat) : Int) * 32768 = ((p255 : Nat) : Int) := by decide
    rw [hp2]
    have hx' : ((x % p255 : Nat) : Int) + ((p255 : Nat) : Int) * ((x / p255 : Nat) : Int) = (x : Int) := by exact_mod_cast hx
    generalize ((p255 : Nat) : Int) * ((x / p255 : Nat) : Int) = pq at *
    omega
theorem tp_ok {x : Nat} (h : x < p256) : tp (digs16 x) = digs16 (g19 x) := by
  obtain ⟨h1, h2, h3⟩ := tp_pre h
  have hq : x / p255 < 2 := (Nat.div_lt_iff_lt_mul (by decide)).2 (by rw [← p256_two]; exact h)
  have e := cp_all h1.1 h1.2 (c := tpC (digs16 x)) (by rw [h2]; omega) h3
  unfold tp
  rw [e]
theorem tp2 {x : Nat} (h : x < p256) : tp (tp (digs16 x)) = digs16 (g19 (g19 x)) := by
  rw [tp_ok h, tp_ok (Nat.lt_trans (g19_lt h) (by decide))]
/-! ### Below the prime -/
theorem near : ∀ t, t < 20 → t = 0 ∨ ((∀ j, j < 15 → j = 0 ∨ (p255 - t) / 65536 ^ j % 65536 = 65535) ∧ (p255 - t) / 65536 ^ 15 % 65536 = 32767 ∧ (p255 - t) % 65536 = 65536 - t) := by decide +kernel
theorem near_digs {x : Nat} (h1 : Pp ≤ x) (h2 : x < p255) : (∀ j, 1 ≤ j → j < 15 → dig16 x j = 65535) ∧ dig16 x 15 = 32767 ∧ dig16 x 0 = ((x - Pp : Nat) : Int) + 65517 := by
  have hp := p255_Pp
  obtain ⟨t, ht⟩ : ∃ t, t = p255 - x := ⟨_, rfl⟩
  have e : x = p255 - t := by omega
  rcases near t (by omega) with h0 | ⟨a, b, c⟩
  · omega
  · rw [← e] at a b c
    refine ⟨fun j hj hj2 => ?_, ?_, ?_⟩
    · rcases a j hj2 with h | h
      · omega
      · unfold dig16; rw [h]; rfl
    · unfold dig16; rw [b]; rfl
    · unfold dig16; rw [Nat.pow_zero, Nat.div_one, c]; omega
theorem least_c {x : Nat} (h : x < p255) (h1 : ∀ j, 1 ≤ j → j < 15 → dig16 x j = 65535) (h2 : dig16 x 15 = 32767) (h3 : 65517 ≤ dig16 x 0) :
    Pp ≤ x ∧ [dig16 x 0 - 65517, 0, 0, 0, 0, 0, 0, 0, 0, 0, 0, 0, 0, 0, 0, 0] = digs16 (x - Pp) := by
  have hl : digs16 x = [dig16 x 0, 65535, 65535, 65535, 65535, 65535, 65535, 65535, 65535, 65535, 65535, 65535, 65535, 65535, 65535, 32767] := by
    show [dig16 x 0, dig16 x 1, dig16 x 2, dig16 x 3, dig16 x 4, dig16 x 5, dig16 x 6, dig16 x 7, dig16 x 8, dig16 x 9, dig16 x 10, dig16 x 11, dig16 x 12, dig16 x 13, dig16 x 14, dig16 x 15] = _
    rw [h1 1, h1 2, h1 3, h1 4, h1 5, h1 6, h1 7, h1 8, h1 9, h1 10, h1 11, h1 12, h1 13, h1 14, h2] <;> omega
  have hv := digs16_V x
  have hlt : x < p256 := Nat.lt_trans h (by decide)
  have hd := dig16_D x 0
  have key : V (digs16 x) = dig16 x 0 + ((p255 - 65536 : Nat) : Int) := by
    rw [hl]
    generalize dig16 x 0 = d
    have : V [65535, 65535, 65535, 65535, 65535, 65535, 65535, 65535, 65535, 65535, 65535, 65535, 65535, 65535, 32767] * 65536 = ((p255 - 65536 : Nat) : Int) := by decide
    rw [V, ← this]
    omega
  rw [hv, Nat.mod_eq_of_lt hlt] at key
  have hp := p255_Pp
  have hp2 : 65536 < p255 := by decide
  generalize p255 = q at *
  generalize Pp = p at *
  refine ⟨by omega, ?_⟩
  have e : dig16 x 0 - 65517 = ((x - p : Nat) : Int) := by omega
  have hs : x - p < 65536 := by omega
  rw [e]
  generalize x - p = y at *
  refine eq_digs16 (fun d hd => ?_) rfl (Nat.lt_trans hs (by decide)) ?_
  · simp only [List.mem_cons, List.not_mem_nil, or_false] at hd
    omega
  · simp [V]
theorem mod_near {x : Nat} (h : x < p255) : x % Pp = if x < Pp then x else x - Pp := by
  split
  · exact Nat.mod_eq_of_lt (by assumption)
  · have hp := p255_Pp
    have hp2 : 1000 < Pp := by decide
    rw [Nat.mod_eq_sub_mod (by omega), Nat.mod_eq_of_lt (by omega)]
end Go.Sp
/- The prime is prime; Fermat's law; plainly. Own work; no program in sight. -/
namespace Go.Sp
open Go.Ev Go.RowKit

/-! ### Powers, fast -/
def pm (n : Nat) : Nat → Nat → Nat → Nat → Nat
  | 0, _, _, acc => acc
  | f + 1, a, e, acc => if e = 0 then acc else pm n f (a * a % n) (e / 2) (if e % 2 = 1 then acc * a % n else acc)
theorem pm_ok (n : Nat) : ∀ (f a e acc : Nat), e < 2 ^ f → pm n f a e acc % n = acc * a ^ e % n
  | 0, a, e, acc, h => by
    have : e = 0 := by simpa using h
    subst this
    simp [pm]
  | f + 1, a, e, acc, h => by
    rw [pm]
    by_cases h0 : e = 0
    · rw [if_pos h0, h0]; simp
    · rw [if_neg h0, pm_ok n f _ _ _ (by rw [Nat.pow_succ] at h; omega)]
      have hd := Nat.div_add_mod e 2
      have e1 : (a * a % n) ^ (e / 2) % n = a ^ (2 * (e / 2)) % n := by rw [← Nat.pow_mod, Nat.pow_mul, Nat.pow_two]
      rcases Nat.mod_two_eq_zero_or_one e with q | q
      · rw [if_neg (by omega), Nat.mul_mod, e1, ← Nat.mul_mod, show 2 * (e / 2) = e by omega]
      · rw [if_pos q, Nat.mul_mod, e1, Nat.mod_mod, ← Nat.mul_mod, Nat.mul_assoc, Nat.mul_comm a, ← Nat.pow_succ, show (2 * (e / 2)).succ = e by omega]

/-! ### Primes -/
def PrD (n : Nat) : Prop := 1 < n ∧ ∀ d, d ∣ n → d = 1 ∨ d = n
def noDiv (n : Nat) : Nat → Nat → Bool
  | 0, _ => true
  | f + 1, d => !(n % d == 0) && noDiv n f (d + 1)
theorem noDiv_ok (n : Nat) : ∀ (f d : Nat), noDiv n f d = true → ∀ k, d ≤ k → k < d + f → ¬ k ∣ n
  | 0, d, _, k, h1, h2 => by omega
  | f + 1, d, h, k, h1, h2 => by
    simp only [noDiv, Bool.and_eq_true, Bool.not_eq_true', beq_eq_false_iff_ne] at h
    by_cases e : k = d
    · subst e
      exact fun hd => h.1 (Nat.mod_eq_zero_of_dvd hd)
    · exact noDiv_ok n f (d + 1) h.2 k (by omega) (by omega)
def small (n f : Nat) : Bool := decide (1 < n) && (decide (n < (f + 2) * (f + 2)) && noDiv n f 2)
theorem small_ok {n f : Nat} (h : small n f = true) : PrD n := by
  simp only [small, Bool.and_eq_true, decide_eq_true_eq] at h
  obtain ⟨h1, h2, h3⟩ := h
  refine ⟨h1, fun d hd => ?_⟩
  obtain ⟨c, hc⟩ := hd
  have key := noDiv_ok n f 2 h3
  have hd0 : d ≠ 0 := by rintro rfl; omega
  have hc0 : c ≠ 0 := by rintro rfl; omega
  by_cases hd1 : d = 1
  · exact .inl hd1
  by_cases hc1 : c = 1
  · subst hc1; exact .inr (by omega)
  exfalso
  by_cases hl : d < f + 2
  · exact key d (by omega) (by omega) ⟨c, hc⟩
  · by_cases hm : c < f + 2
    · exact key c (by omega) (by omega) ⟨d, by rw [hc, Nat.mul_comm]⟩
    · have := Nat.mul_le_mul (show f + 2 ≤ d by omega) (show f + 2 ≤ c by omega)
      omega
theorem PrD.euclid {p a b : Nat} (hp : PrD p) (h : p ∣ a * b) : p ∣ a ∨ p ∣ b := by
  rcases hp.2 (Nat.gcd p a) (Nat.gcd_dvd_left p a) with e | e
  · exact .inr (Nat.Coprime.dvd_of_dvd_mul_left e h)
  · left
    have := Nat.gcd_dvd_right p a
    rwa [e] at this
def prod : List Nat → Nat
  | [] => 1
  | x :: l => x * prod l
theorem prod_dvd : ∀ (l : List Nat) (m : Nat), (∀ f ∈ l, PrD f) → 1 < m → m ∣ prod l → ∃ f ∈ l, f ∣ m
  | [], m, _, h1, h => by
    have := Nat.le_of_dvd (by decide) h
    simp only [prod] at this
    omega
  | x :: l, m, hp, h1, h => by
    have hx := hp x (List.mem_cons_self ..)
    rcases hx.2 (Nat.gcd x m) (Nat.gcd_dvd_left x m) with e | e
    · have hcop : Nat.Coprime m x := (Nat.gcd_comm m x).trans e
      obtain ⟨f, hf, hd⟩ := prod_dvd l m (fun f hf => hp f (List.mem_cons_of_mem _ hf)) h1 (Nat.Coprime.dvd_of_dvd_mul_left hcop h)
      exact ⟨f, List.mem_cons_of_mem _ hf, hd⟩
    · refine ⟨x, List.mem_cons_self .., ?_⟩
      have := Nat.gcd_dvd_right x m
      rwa [e] at this

/-! ### An injection of the numbers below N is onto -/
theorem onto : ∀ (N : Nat) (f : Nat → Nat), (∀ i, i < N → f i < N) → (∀ i j, i < N → j < N → f i = f j → i = j) → ∀ y, y < N → ∃ i, i < N ∧ f i = y
  | 0, _, _, _, y, h => by omega
  | N + 1, f, hr, hi, y, hy => by
    have hg : ∀ i, i < N → (if f i = N then f N else f i) < N := by
      intro i h
      have h1 := hr i (by omega)
      have h2 := hr N (by omega)
      split
      · rename_i e
        by_cases e2 : f N = N
        · have := hi i N (by omega) (by omega) (by omega); omega
        · omega
      · omega
    have hj : ∀ i j, i < N → j < N → (if f i = N then f N else f i) = (if f j = N then f N else f j) → i = j := by
      intro i j h1 h2 h
      split at h <;> split at h
      · exact hi i j (by omega) (by omega) (by omega)
      · have := hi N j (by omega) (by omega) h; omega
      · have := hi i N (by omega) (by omega) h; omega
      · exact hi i j (by omega) (by omega) h
    have ih := onto N (fun i => if f i = N then f N else f i) hg hj
    by_cases hN : f N = y
    · exact ⟨N, by omega, hN⟩
    · by_cases hyN : y = N
      · have hlt : f N < N := by have := hr N (by omega); omega
        obtain ⟨i, h1, h2⟩ := ih (f N) hlt
        split at h2
        · exact ⟨i, by omega, by omega⟩
        · have := hi i N (by omega) (by omega) h2; omega
      · obtain ⟨i, h1, h2⟩ := ih y (by omega)
        split at h2
        · omega
        · exact ⟨i, by omega, h2⟩

/-! ### Lucas -/
def Gen (n g : Nat) : Prop := g ^ (n - 1) % n = 1 ∧ ∀ x, 0 < x → x < n → ∃ i, i < n - 1 ∧ g ^ i % n = x
theorem pow_one_gcd {n g : Nat} (hn : 1 < n) (a b : Nat) : g ^ a % n = 1 → g ^ b % n = 1 → g ^ (Nat.gcd a b) % n = 1 := by
  refine Nat.gcd.induction a b (P := fun a b => g ^ a % n = 1 → g ^ b % n = 1 → g ^ (Nat.gcd a b) % n = 1) ?_ ?_
  · intro b _ h
    rw [Nat.gcd_zero_left]; exact h
  · intro a b _ ih ha hb
    rw [Nat.gcd_rec]
    refine ih ?_ ha
    have h1 : g ^ b % n = (g ^ a) ^ (b / a) * g ^ (b % a) % n := by rw [← Nat.pow_mul, ← Nat.pow_add, Nat.div_add_mod]
    rw [Nat.mul_mod, Nat.pow_mod (g ^ a), ha, Nat.one_pow, Nat.mod_eq_of_lt hn, Nat.one_mul, Nat.mod_mod] at h1
    rw [← h1]; exact hb
theorem lucas {n g : Nat} {fs : List Nat} (hn : 2 < n) (h1 : g ^ (n - 1) % n = 1) (hp : prod fs = n - 1) (hf : ∀ f ∈ fs, PrD f) (hq : ∀ f ∈ fs, g ^ ((n - 1) / f) % n ≠ 1) : Gen n g := by
  have hn1 : 1 < n := by omega
  have hord : ∀ k, 0 < k → k < n - 1 → g ^ k % n ≠ 1 := by
    intro k hk hkn he
    have hd := pow_one_gcd hn1 k (n - 1) he h1
    have hd1 := Nat.gcd_dvd_right k (n - 1)
    have hd2 : Nat.gcd k (n - 1) ≤ k := Nat.le_of_dvd hk (Nat.gcd_dvd_left _ _)
    generalize Nat.gcd k (n - 1) = d at *
    obtain ⟨m, hm⟩ := hd1
    have hm1 : 1 < m := by
      rcases Nat.lt_or_ge 1 m with h | h
      · exact h
      · have := Nat.mul_le_mul_left d h
        omega
    obtain ⟨f, hf1, c, hc⟩ := prod_dvd fs m hf hm1 ⟨d, by rw [hp, hm, Nat.mul_comm]⟩
    have hfp := (hf f hf1).1
    refine hq f hf1 ?_
    have e : (n - 1) / f = d * c := by
      rw [hm, hc, Nat.mul_left_comm, Nat.mul_div_cancel_left _ (by omega)]
    rw [e, Nat.pow_mul, Nat.pow_mod, hd, Nat.one_pow, Nat.mod_eq_of_lt hn1]
  refine ⟨h1, fun x hx hxn => ?_⟩
  have hne : ∀ i, i < n - 1 → g ^ i % n ≠ 0 := by
    intro i hi h0
    have : g ^ (n - 1) % n = g ^ i * g ^ (n - 1 - i) % n := by rw [← Nat.pow_add]; congr 2; omega
    rw [Nat.mul_mod, h0, Nat.zero_mul, Nat.zero_mod] at this
    omega
  have hlt : ∀ i, g ^ i % n < n := fun i => Nat.mod_lt _ (by omega)
  obtain ⟨i, hi, he⟩ := onto (n - 1) (fun i => g ^ i % n - 1) (fun i hi => by have := hlt i; have := hne i hi; omega) (fun i j hi hj h => by
    have hi0 := hne i hi
    have hj0 := hne j hj
    have h' : g ^ i % n = g ^ j % n := by omega
    have aux : ∀ i j, i < j → j < n - 1 → g ^ i % n = g ^ j % n → False := by
      intro i j hij hj he
      refine hord (j - i) (by omega) (by omega) ?_
      have e1 : g ^ (n - 1 - i) * g ^ j % n = g ^ (j - i) % n := by
        rw [← Nat.pow_add, show n - 1 - i + j = n - 1 + (j - i) by omega, Nat.pow_add, Nat.mul_mod, h1, Nat.one_mul, Nat.mod_mod]
      have e2 : g ^ (n - 1 - i) * g ^ i % n = 1 := by
        rw [← Nat.pow_add, show n - 1 - i + i = n - 1 by omega, h1]
      rw [← e1, Nat.mul_mod, ← he, ← Nat.mul_mod, e2]
    rcases Nat.lt_trichotomy i j with q | q | q
    · exact (aux i j q hj h').elim
    · exact q
    · exact (aux j i q hi h'.symm).elim) (x - 1) (by omega)
  exact ⟨i, hi, by have := hne i hi; omega⟩
theorem Gen.prime {n g : Nat} (hn : 1 < n) (h : Gen n g) : PrD n := by
  refine ⟨hn, fun d hd => ?_⟩
  by_cases e : d = n
  · exact .inr e
  · left
    have hle := Nat.le_of_dvd (by omega) hd
    have hd0 : 0 < d := by rcases Nat.eq_zero_or_pos d with h0 | h0; (subst h0; have := Nat.eq_zero_of_zero_dvd hd; omega); exact h0
    obtain ⟨i, hi, he⟩ := h.2 d hd0 (by omega)
    have h1 : d ∣ g ^ i := by
      have := Nat.div_add_mod (g ^ i) n
      rw [he] at this
      rw [← this]
      exact Nat.dvd_add (Nat.dvd_trans hd (Nat.dvd_mul_right ..)) (Nat.dvd_refl d)
    have h2 : d ∣ g ^ (n - 1) := Nat.dvd_trans h1 (Nat.pow_dvd_pow g (by omega))
    have h3 := Nat.div_add_mod (g ^ (n - 1)) n
    rw [h.1] at h3
    rw [← h3] at h2
    exact Nat.dvd_one.1 ((Nat.dvd_add_right (Nat.dvd_trans hd (Nat.dvd_mul_right ..))).1 h2)
theorem Gen.fermat {n g : Nat} (hn : 1 < n) (h : Gen n g) {x : Nat} (h0 : 0 < x) (hx : x < n) : x ^ (n - 1) % n = 1 := by
  obtain ⟨i, hi, he⟩ := h.2 x h0 hx
  rw [← he, ← Nat.pow_mod, ← Nat.pow_mul, Nat.mul_comm, Nat.pow_mul, Nat.pow_mod, h.1, Nat.one_pow, Nat.mod_eq_of_lt hn]
def luc (n g : Nat) (fs : List Nat) : Bool :=
  decide (2 < n) && (decide (n < p256) && ((pm n 256 g (n - 1) 1 % n == 1) && ((prod fs == n - 1) && fs.all fun f => !(pm n 256 g ((n - 1) / f) 1 % n == 1))))
theorem luc_ok {n g : Nat} {fs : List Nat} (h : luc n g fs = true) (hf : ∀ f ∈ fs, PrD f) : Gen n g := by
  simp only [luc, Bool.and_eq_true, decide_eq_true_eq, beq_iff_eq, List.all_eq_true, Bool.not_eq_true', beq_eq_false_iff_ne] at h
  obtain ⟨h1, h2, h3, h4, h5⟩ := h
  have hp : p256 = 2 ^ 256 := by decide
  refine lucas h1 ?_ h4 hf fun f hm => ?_
  · rw [pm_ok _ _ _ _ _ (by omega), Nat.one_mul] at h3; exact h3
  · have := h5 f hm
    have hd := Nat.div_le_self (n - 1) f
    rw [pm_ok _ _ _ _ _ (by omega), Nat.one_mul] at this
    exact this
end Go.Sp
/- The prime's chain: numbers whose generator is told. Own work; no program in sight. -/
namespace Go.Sp
open Go.Ev Go.RowKit
theorem PrD_nil : ∀ f ∈ ([] : List Nat), PrD f := fun _ h => by cases h
theorem PrD_cons {x : Nat} {l : List Nat} (h : PrD x) (hl : ∀ f ∈ l, PrD f) : ∀ f ∈ x :: l, PrD f := fun f hf => by
  rcases List.mem_cons.1 hf with e | e
  · exact e ▸ h
  · exact hl f e

theorem pr_2 : PrD 2 := small_ok (f := 0) (by kernel_rfl)
theorem pr_3 : PrD 3 := small_ok (f := 0) (by kernel_rfl)
theorem pr_65147 : PrD 65147 := small_ok (f := 254) (by kernel_rfl)
theorem pr_353 : PrD 353 := small_ok (f := 17) (by kernel_rfl)
theorem pr_57467 : PrD 57467 := small_ok (f := 238) (by kernel_rfl)
theorem pr_132049 : PrD 132049 := small_ok (f := 362) (by kernel_rfl)
theorem pr_1923133 : PrD 1923133 := small_ok (f := 1385) (by kernel_rfl)
theorem pr_31 : PrD 31 := small_ok (f := 4) (by kernel_rfl)
theorem pr_107 : PrD 107 := small_ok (f := 9) (by kernel_rfl)
theorem pr_223 : PrD 223 := small_ok (f := 13) (by kernel_rfl)
theorem pr_4153 : PrD 4153 := small_ok (f := 63) (by kernel_rfl)
theorem pr_430751 : PrD 430751 := small_ok (f := 655) (by kernel_rfl)
theorem gen_31757755568855353 : Gen 31757755568855353 10 := luc_ok (fs := [2, 2, 2, 3, 31, 107, 223, 4153, 430751]) (by kernel_rfl) (PrD_cons pr_2 (PrD_cons pr_2 (PrD_cons pr_2 (PrD_cons pr_3 (PrD_cons pr_31 (PrD_cons pr_107 (PrD_cons pr_223 (PrD_cons pr_4153 (PrD_cons pr_430751 (PrD_nil))))))))))
theorem pr_31757755568855353 : PrD 31757755568855353 := gen_31757755568855353.prime (by decide)
theorem pr_5 : PrD 5 := small_ok (f := 1) (by kernel_rfl)
theorem pr_75707 : PrD 75707 := small_ok (f := 274) (by kernel_rfl)
theorem pr_7 : PrD 7 := small_ok (f := 1) (by kernel_rfl)
theorem pr_19 : PrD 19 := small_ok (f := 3) (by kernel_rfl)
theorem pr_47 : PrD 47 := small_ok (f := 5) (by kernel_rfl)
theorem pr_127 : PrD 127 := small_ok (f := 10) (by kernel_rfl)
theorem pr_103 : PrD 103 := small_ok (f := 9) (by kernel_rfl)
theorem pr_991 : PrD 991 := small_ok (f := 30) (by kernel_rfl)
theorem gen_8574133 : Gen 8574133 2 := luc_ok (fs := [2, 2, 3, 7, 103, 991]) (by kernel_rfl) (PrD_cons pr_2 (PrD_cons pr_2 (PrD_cons pr_3 (PrD_cons pr_7 (PrD_cons pr_103 (PrD_cons pr_991 (PrD_nil)))))))
theorem pr_8574133 : PrD 8574133 := gen_8574133.prime (by decide)
theorem gen_1919519569386763 : Gen 1919519569386763 2 := luc_ok (fs := [2, 3, 7, 19, 47, 47, 127, 8574133]) (by kernel_rfl) (PrD_cons pr_2 (PrD_cons pr_3 (PrD_cons pr_7 (PrD_cons pr_19 (PrD_cons pr_47 (PrD_cons pr_47 (PrD_cons pr_127 (PrD_cons pr_8574133 (PrD_nil)))))))))
theorem pr_1919519569386763 : PrD 1919519569386763 := gen_1919519569386763.prime (by decide)
theorem pr_13 : PrD 13 := small_ok (f := 2) (by kernel_rfl)
theorem pr_2437 : PrD 2437 := small_ok (f := 48) (by kernel_rfl)
theorem pr_569003 : PrD 569003 := small_ok (f := 753) (by kernel_rfl)
theorem gen_2773320623 : Gen 2773320623 5 := luc_ok (fs := [2, 2437, 569003]) (by kernel_rfl) (PrD_cons pr_2 (PrD_cons pr_2437 (PrD_cons pr_569003 (PrD_nil))))
theorem pr_2773320623 : PrD 2773320623 := gen_2773320623.prime (by decide)
theorem gen_72106336199 : Gen 72106336199 7 := luc_ok (fs := [2, 13, 2773320623]) (by kernel_rfl) (PrD_cons pr_2 (PrD_cons pr_13 (PrD_cons pr_2773320623 (PrD_nil))))
theorem pr_72106336199 : PrD 72106336199 := gen_72106336199.prime (by decide)
theorem gen_75445702479781427272750846543864801 : Gen 75445702479781427272750846543864801 7 := luc_ok (fs := [2, 2, 2, 2, 2, 3, 3, 5, 5, 75707, 1919519569386763, 72106336199]) (by kernel_rfl) (PrD_cons pr_2 (PrD_cons pr_2 (PrD_cons pr_2 (PrD_cons pr_2 (PrD_cons pr_2 (PrD_cons pr_3 (PrD_cons pr_3 (PrD_cons pr_5 (PrD_cons pr_5 (PrD_cons pr_75707 (PrD_cons pr_1919519569386763 (PrD_cons pr_72106336199 (PrD_nil)))))))))))))
theorem pr_75445702479781427272750846543864801 : PrD 75445702479781427272750846543864801 := gen_75445702479781427272750846543864801.prime (by decide)
theorem gen_74058212732561358302231226437062788676166966415465897661863160754340907 : Gen 74058212732561358302231226437062788676166966415465897661863160754340907 2 := luc_ok (fs := [2, 3, 353, 57467, 132049, 1923133, 31757755568855353, 75445702479781427272750846543864801]) (by kernel_rfl) (PrD_cons pr_2 (PrD_cons pr_3 (PrD_cons pr_353 (PrD_cons pr_57467 (PrD_cons pr_132049 (PrD_cons pr_1923133 (PrD_cons pr_31757755568855353 (PrD_cons pr_75445702479781427272750846543864801 (PrD_nil)))))))))
theorem pr_74058212732561358302231226437062788676166966415465897661863160754340907 : PrD 74058212732561358302231226437062788676166966415465897661863160754340907 := gen_74058212732561358302231226437062788676166966415465897661863160754340907.prime (by decide)
theorem gen_Pp : Gen Pp 2 := luc_ok (fs := [2, 2, 3, 65147, 74058212732561358302231226437062788676166966415465897661863160754340907]) (by kernel_rfl) (PrD_cons pr_2 (PrD_cons pr_2 (PrD_cons pr_3 (PrD_cons pr_65147 (PrD_cons pr_74058212732561358302231226437062788676166966415465897661863160754340907 (PrD_nil))))))
theorem pr_Pp : PrD Pp := gen_Pp.prime (by decide)
theorem euclid {a b : Nat} (h : a * b % Pp = 0) : a % Pp = 0 ∨ b % Pp = 0 := by
  rcases pr_Pp.euclid (Nat.dvd_of_mod_eq_zero h) with h | h
  · exact .inl (Nat.mod_eq_zero_of_dvd h)
  · exact .inr (Nat.mod_eq_zero_of_dvd h)
theorem fermat {x : Nat} (h0 : x ≠ 0) (hx : x < Pp) : x ^ (Pp - 1) % Pp = 1 := gen_Pp.fermat (by decide) (by omega) hx
end Go.Sp
/- Contracts that take a nil slice for no bytes. Own work; no statement of the seat is proved here. -/
namespace Go.Ev
open Go.RowKit
/-- An answer's parts. -/
def resOf {α : Type} : Option (Ex × α × List Prop) → Option (Ex × α)
  | some (e, s, _) => some (e, s)
  | none => none
def csOf {α : Type} : Option (Ex × α × List Prop) → List Prop
  | some (_, _, cs) => cs
  | none => [False]
theorem parts_eq {α : Type} {r : Option (Ex × α × List Prop)} {e : Ex} {s : α} {cs : List Prop} (h1 : resOf r = some (e, s)) (h2 : csOf r = cs) : r = some (e, s, cs) := by
  cases r with
  | none => simp [resOf] at h1
  | some q => obtain ⟨a, b, c⟩ := q; simp [resOf] at h1; simp [csOf] at h2; rw [h1.1, h1.2, h2]
def ansOf : Option (AV × List Prop) → Option AV
  | some (a, _) => some a
  | none => none
def acsOf : Option (AV × List Prop) → List Prop
  | some (_, cs) => cs
  | none => [False]
theorem ans_eq {r : Option (AV × List Prop)} {a : AV} {cs : List Prop} (h1 : ansOf r = some a) (h2 : acsOf r = cs) : r = some (a, cs) := by
  cases r with
  | none => simp [ansOf] at h1
  | some q => obtain ⟨a, c⟩ := q; simp [ansOf] at h1; simp [acsOf] at h2; rw [h1, h2]
def nil8I : IV → IV
  | .nil => .d8 []
  | i => i
def nil8A : AV → AV
  | .val false [i] => .val false [nil8I i]
  | x => x
theorem DCells_nil8 {w : World} {i : IV} {vs : List Value} (h : DCells w i vs) : DCells w (nil8I i) vs := by
  cases i <;> first | exact h | skip
  simp only [DCells, PCells, Option.some.injEq] at h
  subst h
  exact ⟨_, rfl, .inr ⟨rfl, rfl, none, rfl⟩⟩
theorem DV_nil8 {w : World} {x : AV} {v : Value} (h : DV w x v) : DV w (nil8A x) v := by
  unfold nil8A
  split
  · obtain ⟨vs, ⟨a, b, e, h1, h2⟩, h3⟩ := h
    exact ⟨vs, ⟨a, b, e, DCells_nil8 h1, h2⟩, h3⟩
  · exact h
theorem F2_DV_nil8 {w : World} : ∀ {l : List AV} {vs : List Value}, F2 (DV w) l vs → F2 (DV w) (l.map nil8A) vs
  | [], [], h => h
  | _ :: _, _ :: _, ⟨a, b⟩ => ⟨DV_nil8 a, F2_DV_nil8 b⟩
/-- The same contract, of which a nil slice is no bytes. -/
def nil8 (spec : List AV → Option (AV × List Prop)) (ds : List AV) : Option (AV × List Prop) := spec (ds.map nil8A)
theorem FnS_nil8 {P : Program} {f : FuncId} {spec : List AV → Option (AV × List Prop)} (h : FnS P f spec) : FnS P f (nil8 spec) :=
  FnS_intro fun _ _ _ hd hc w vals hv => FnS_use h hd hc w vals (F2_DV_nil8 hv)
end Go.Ev
/- Contracts over numbers of sixteen digits, out of contracts over the digits. Own work; no statement of the seat is proved here. -/
namespace Go.Ev
open Go.RowKit
/-- Digits in place of numbers. -/
def feI : IV → IV
  | .fe x => .vi 16 (digs16 x)
  | i => i
def feA : AV → AV
  | .val g l => .val g (l.map feI)
  | .tup l => .tup (l.map fun p => (p.1, p.2.map feI))
  | x => x
theorem digs16_length (x : Nat) : (digs16 x).length = 16 := by simp [digs16]
theorem DCells_fe {w : World} {i : IV} {vs : List Value} (h : DCells w i vs) : DCells w (feI i) vs := by
  cases i <;> exact h
theorem DLs_fe {w : World} : ∀ {l : List IV} {vs : List Value}, DLs w l vs → DLs w (l.map feI) vs
  | [], _, h => h
  | _ :: _, _, ⟨a, b, e, h1, h2⟩ => ⟨a, b, e, DCells_fe h1, DLs_fe h2⟩
theorem DV_fe {w : World} {x : AV} {v : Value} (h : DV w x v) : DV w (feA x) v := by
  cases x <;> first | exact h | skip
  obtain ⟨vs, h1, h2⟩ := h
  exact ⟨vs, DLs_fe h1, h2⟩
theorem F2_DV_fe {w : World} : ∀ {l : List AV} {vs : List Value}, F2 (DV w) l vs → F2 (DV w) (l.map feA) vs
  | [], [], h => h
  | _ :: _, _ :: _, ⟨a, b⟩ => ⟨DV_fe a, F2_DV_fe b⟩
theorem ICells_fe {ρ : Nat → Pl} {i : IV} {vs : List Value} (h : ICells ρ (feI i) vs) : ICells ρ i vs := by
  cases i <;> exact h
theorem LCells_fe {ρ : Nat → Pl} : ∀ {l : List IV} {vs : List Value}, LCells ρ (l.map feI) vs → LCells ρ l vs
  | [], _, h => h
  | _ :: _, _, ⟨a, b, e, h1, h2⟩ => ⟨a, b, e, ICells_fe h1, LCells_fe h2⟩
theorem VR1_fe {ρ : Nat → Pl} {p : Bool × List IV} {v : Value} (h : VR1 ρ (p.1, p.2.map feI) v) : VR1 ρ p v := by
  obtain ⟨vs, h1, h2⟩ := h
  exact ⟨vs, LCells_fe h1, h2⟩
theorem F2_VR1_fe {ρ : Nat → Pl} : ∀ {l : List (Bool × List IV)} {vs : List Value}, F2 (VR1 ρ) (l.map fun p => (p.1, p.2.map feI)) vs → F2 (VR1 ρ) l vs
  | [], [], h => h
  | _ :: _, _ :: _, ⟨a, b⟩ => ⟨VR1_fe a, F2_VR1_fe b⟩
theorem VRepr_fe {ρ : Nat → Pl} {x : AV} {v : Value} (h : VRepr ρ (feA x) v) : VRepr ρ x v := by
  cases x <;> first | exact h | skip
  · exact VR1_fe (p := (_, _)) h
  · obtain ⟨vs, h1, h2⟩ := h
    exact ⟨vs, h1, F2_VR1_fe h2⟩
theorem ofIs_fe : ∀ (l : List IV) (F : Nat), ofIs F (l.map feI) = ((ofIs F l).1.map feI, (ofIs F l).2.1, (ofIs F l).2.2)
  | [], _ => rfl
  | i :: l, F => by
    have h := ofIs_fe l
    cases i <;> simp only [List.map_cons, feI, ofIs, h]
theorem ofTs_fe : ∀ (l : List (Bool × List IV)) (F : Nat), ofTs F (l.map fun p => (p.1, p.2.map feI)) = ((ofTs F l).1.map fun p => (p.1, p.2.map feI), (ofTs F l).2.1, (ofTs F l).2.2)
  | [], _ => rfl
  | p :: l, F => by
    have h := ofTs_fe l
    simp only [List.map_cons, ofTs, ofIs_fe, h]
theorem ofA_fe (x : AV) (F : Nat) : ofA F (feA x) = (feA (ofA F x).1, (ofA F x).2.1, (ofA F x).2.2) := by
  cases x <;> simp only [feA, ofA, ofIs_fe, ofTs_fe]
theorem ResOk_fe {B : Nat} {w : World} {r : AV} {v : Value} (h : ResOk B w (feA r) v) : ResOk B w r v := by
  intro F
  obtain ⟨ρ, h1, h2, h3, h4⟩ := h F
  rw [ofA_fe] at h1 h3 h4
  exact ⟨ρ, h1, h2, VRepr_fe h3, h4⟩
/-- A contract over numbers, from one over digits. -/
theorem FnS_fe {P : Program} {f : FuncId} {spec specN : List AV → Option (AV × List Prop)} (h : FnS P f spec)
    (hs : ∀ ds r cs, specN ds = some (r, cs) → AllP cs → ∃ cs', spec (ds.map feA) = some (feA r, cs') ∧ AllP cs') : FnS P f specN :=
  FnS_intro fun ds r cs hd hc w vals hv => by
    obtain ⟨cs', h1, h2⟩ := hs ds r cs hd hc
    refine (FnS_use h h1 h2 w vals (F2_DV_fe hv)).mono ?_
    rintro e w' ⟨v, a, b, c⟩
    exact ⟨v, a, b, ResOk_fe c⟩
end Go.Ev
/- What a closure's code comes to, where it has no loop. Own work; no statement of the seat is proved here. -/
namespace Go.Ev
open Go.RowKit
/-- As T, and all that was known stands where it stood. -/
def TX (P : Program) (c : Code) (σ : St) (Q : Exit → St → Prop) : Prop :=
  ∀ base ρ a w, Rel base σ ρ a w → c.wp P (fun e a' w' => ∃ σ' ρ', Q e σ' ∧ Ext ρ ρ' ∧ Rel base σ' ρ' a' w') a w
section
variable {P : Program} {Q : Exit → St → Prop} {σ : St}
theorem TX.region {Γ : FuncId → Option Ct} (hΓ : GSound P Γ) (hm : P.follows .mixedOrders = true) {id : Nat} {ops : Array Oper} {draw : Bool} {σ' : St} (h : evR P Γ ops draw σ = some σ') (hq : Q .normal σ') : TX P (.region id ops draw) σ Q := by
  intro base ρ a w hr
  unfold evR at h
  split at h
  · simp at h
  rename_i hd
  split at h
  case h_2 => simp at h
  rename_i q hrun
  simp at h
  subst h
  have hF := runL_runF ops.toList 0 σ.slots σ.heap q (fun i => by simp) hrun
  have fin : ∀ (ρ' : Nat → Pl) (a' : Act) (w' : World), Ext ρ ρ' → RelF σ.next base ρ' a' w' ⟨q.1, hget q.2⟩ (fun j => decide (j < ops.size)) → ∃ σ'' ρ'', Q .normal σ'' ∧ Ext ρ ρ'' ∧ Rel base σ'' ρ'' a' w' := by
    intro ρ' a' w' hx hr'
    refine ⟨_, ρ', hq, hx, hr'.defers, hr'.slots, hr'.heap, hr'.below, fun k hk hu => ?_⟩
    have hk' : σ.next ≤ k := by simp at hk; omega
    have := hr'.fresh k hk' hu
    simp at this hk
    omega
  have hlen : ops.toList.length = ops.size := by simp
  rw [hlen] at hF
  cases draw with
  | true =>
    simp only [Bool.true_and, Bool.not_eq_true', Bool.not_eq_false] at hd
    simp only [if_true] at hF
    exact region_draw hΓ (N := σ.next) hm hd hr hF fin
  | false =>
    simp only [Bool.false_eq_true, if_false] at hF
    exact region_seq hΓ fin hr hF
theorem TX.seq {x y : Code} (h : TX P x σ (andThen (fun σ' => TX P y σ' Q) Q)) : TX P (.seq x y) σ Q := by
  intro base ρ a w hr
  refine wp_seq (wp_mono (h base ρ a w hr) ?_)
  rintro e a' w' ⟨σ', ρ', q, hx, r⟩
  cases e with
  | normal => exact wp_mono (q base ρ' a' w' r) fun e a2 w2 ⟨σ2, ρ2, q2, hx2, r2⟩ => ⟨σ2, ρ2, q2, hx.trans hx2, r2⟩
  | _ => exact ⟨σ', ρ', q, hx, r⟩
theorem TX.cond {c : Operand} {x y : Code} {b : Bool} (hb : aeval σ.slots c = sc (.bool b)) (h : TX P (if b then x else y) σ Q) : TX P (.cond c x y) σ Q := by
  intro base ρ a w hr
  have hv := aeval_ok hr.slots c
  have hs : (toF σ).slots = σ.slots := rfl
  rw [hs, hb] at hv
  have := VRepr_sc.1 hv
  simp [ICells, PCells] at this
  exact wp_cond this.symm (h base ρ a w hr)
theorem TX.block {id : Nat} {c : Code} (h : TX P c σ (inBlk id Q)) : TX P (.block id c) σ Q := by
  intro base ρ a w hr
  refine wp_block (wp_mono (h base ρ a w hr) ?_)
  rintro e a' w' ⟨σ', ρ', q, hx, r⟩
  cases e with
  | exit id' =>
    simp only [Exit.inBlock]
    simp only [inBlk] at q
    split
    · rename_i e; rw [if_pos e] at q; exact ⟨σ', ρ', q, hx, r⟩
    · rename_i e; rw [if_neg e] at q; exact ⟨σ', ρ', q, hx, r⟩
  | _ => exact ⟨σ', ρ', q, hx, r⟩
theorem TX.scope {c : Code} (h : TX P c σ (noGo Q)) : TX P (.scope c) σ Q := by
  intro base ρ a w hr
  refine wp_scope_straight (wp_mono (h base ρ a w hr) ?_)
  rintro e a' w' ⟨σ', ρ', q, hx, r⟩
  cases e with
  | goto l => exact q.elim
  | _ => exact ⟨σ', ρ', q, hx, r⟩
end
def flat : Code → Bool
  | .skip => true
  | .region .. => true
  | .seq x y => flat x && flat y
  | .cond _ x y => flat x && flat y
  | .block _ c => flat c
  | .scope c => flat c
  | .exit _ => true
  | .label _ => true
  | .ret => true
  | _ => false
section
variable {P : Program} {Γ : FuncId → Option CtS} {orc : Nat → Orc} {fuel : Nat}
theorem TX.runS (hΓ : GSound P (upG Γ)) (hm : P.follows .mixedOrders = true) (ho : ∀ i, (orc i).inl = none) : ∀ (c : Code) {σ σ' : St} {e : Ex} {cs : List Prop} {Q : Exit → St → Prop}, flat c = true → evS P Γ orc [] fuel c σ = some (e, σ', cs) → AllP cs → Q e.up σ' → TX P c σ Q := by
  intro c
  induction c with
  | skip => intro σ σ' e cs Q _ h _ hq; simp [evS] at h; obtain ⟨rfl, rfl, rfl⟩ := h; exact fun _ ρ _ _ hr => wp_skip ⟨σ, ρ, hq, Ext.refl ρ, hr⟩
  | region id ops draw =>
    intro σ σ' e cs Q _ h hc hq
    simp only [evS, ho] at h
    cases hr : evRS P Γ (orc id) ops draw σ with
    | none => simp [hr] at h
    | some t => simp [hr] at h; obtain ⟨rfl, rfl, rfl⟩ := h; exact TX.region hΓ hm (evRS_ok hr hc) hq
  | seq x y ihx ihy =>
    intro σ σ' e cs Q hf h hc hq
    simp only [flat, Bool.and_eq_true] at hf
    simp only [evS] at h
    refine TX.seq ?_
    cases hx : evS P Γ orc [] fuel x σ with
    | none => simp [hx] at h
    | some r =>
      obtain ⟨e1, s1, c1⟩ := r
      rw [hx] at h
      cases e1 with
      | normal =>
        simp only at h
        cases hy : evS P Γ orc [] fuel y s1 with
        | none => simp [hy] at h
        | some r =>
          obtain ⟨e2, s2, c2⟩ := r
          rw [hy] at h
          simp at h
          obtain ⟨rfl, rfl, rfl⟩ := h
          obtain ⟨q1, q2⟩ := AllP_append hc
          exact ihx hf.1 hx q1 (show TX P y s1 Q from ihy hf.2 hy q2 hq)
      | exit id => simp at h; obtain ⟨rfl, rfl, rfl⟩ := h; exact ihx hf.1 hx hc hq
      | ret => simp at h; obtain ⟨rfl, rfl, rfl⟩ := h; exact ihx hf.1 hx hc hq
  | cond c x y ihx ihy =>
    intro σ σ' e cs Q hf h hc hq
    simp only [flat, Bool.and_eq_true] at hf
    simp only [evS] at h
    split at h
    · rename_i hb; exact TX.cond (b := true) hb (ihx hf.1 h hc hq)
    · rename_i hb; exact TX.cond (b := false) hb (ihy hf.2 h hc hq)
    · simp at h
  | block id c ih =>
    intro σ σ' e cs Q hf h hc hq
    simp only [evS] at h
    refine TX.block ?_
    cases hx : evS P Γ orc [] fuel c σ with
    | none => simp [hx] at h
    | some r =>
      obtain ⟨e1, s1, c1⟩ := r
      rw [hx] at h
      cases e1 with
      | normal => simp at h; obtain ⟨rfl, rfl, rfl⟩ := h; exact ih hf hx hc hq
      | exit id' =>
        simp only at h
        split at h
        · rename_i he
          simp at h
          obtain ⟨rfl, rfl, rfl⟩ := h
          refine ih hf hx hc ?_
          show (if id' = id then Q .normal s1 else Q (.exit id') s1)
          rw [if_pos he]; exact hq
        · rename_i he
          simp at h
          obtain ⟨rfl, rfl, rfl⟩ := h
          refine ih hf hx hc ?_
          show (if id' = id then Q .normal s1 else Q (.exit id') s1)
          rw [if_neg he]; exact hq
      | ret => simp at h; obtain ⟨rfl, rfl, rfl⟩ := h; exact ih hf hx hc hq
  | scope c ih =>
    intro σ σ' e cs Q hf h hc hq
    simp only [evS] at h
    refine TX.scope (ih hf h hc ?_)
    cases e <;> exact hq
  | exit id => intro σ σ' e cs Q _ h _ hq; simp [evS] at h; obtain ⟨rfl, rfl, rfl⟩ := h; exact fun _ ρ _ _ hr => wp_exit ⟨σ, ρ, hq, Ext.refl ρ, hr⟩
  | label l => intro σ σ' e cs Q _ h _ hq; simp [evS] at h; obtain ⟨rfl, rfl, rfl⟩ := h; exact fun _ ρ _ _ hr => wp_label ⟨σ, ρ, hq, Ext.refl ρ, hr⟩
  | ret => intro σ σ' e cs Q _ h _ hq; simp [evS] at h; obtain ⟨rfl, rfl, rfl⟩ := h; exact fun _ ρ _ _ hr => wp_ret ⟨σ, ρ, hq, Ext.refl ρ, hr⟩
  | loop c ih => intro σ σ' e cs Q hf; simp [flat] at hf
  | goto l => intro σ σ' e cs Q hf; simp [flat] at hf
  | rangeFunc f p a b => intro σ σ' e cs Q hf; simp [flat] at hf
  | refuse w => intro σ σ' e cs Q hf; simp [flat] at hf
/-- A closure's answer, from the caller's memory. -/
def cloS (P : Program) (Γ : FuncId → Option CtS) (orc : Nat → Orc) (fuel : Nat) (g : FuncId) (args : List AV) (heap : Heap) (next : Nat) : Option (AV × Heap × Nat × List Prop) :=
  match P.funcs[g]? with
  | none => none
  | some fn => match fn.body with
    | none => none
    | some c =>
      if flat c && callable P g then
        match evS P Γ orc [] fuel c ⟨args ++ List.replicate (fn.ntmps - args.length) (.tup []), heap, next⟩ with
        | some (.exit _, _, _) => none
        | some (_, σ, cs) => (ares P σ fn.results.toList).map fun m => (aresV m, σ.heap, σ.next, cs)
        | none => none
      else none
theorem CloTo_of_cloS (hΓ : GSound P (upG Γ)) (hm : P.follows .mixedOrders = true) (ho : ∀ i, (orc i).inl = none) {g : FuncId} {args : List AV} {heap heap' : Heap} {next next' : Nat} {r : AV} {cs : List Prop}
    (h : cloS P Γ orc fuel g args heap next = some (r, heap', next', cs)) (hc : AllP cs) : CloTo P g args heap next r heap' next' := by
  unfold cloS at h
  split at h
  · simp at h
  rename_i fn hfn
  split at h
  · simp at h
  rename_i c hb
  split at h
  case isFalse => simp at h
  rename_i hfl
  simp only [Bool.and_eq_true] at hfl
  refine ⟨hfl.2, fun base ρ w vals hv hh hbl hfree => ?_⟩
  have key : ∀ (e : Ex) (σ : St) (cs1 : List Prop), evS P Γ orc [] fuel c ⟨args ++ List.replicate (fn.ntmps - args.length) (.tup []), heap, next⟩ = some (e, σ, cs1) → (e = .normal ∨ e = .ret) → (ares P σ fn.results.toList).map (fun m => (aresV m, σ.heap, σ.next, cs1)) = some (r, heap', next', cs) →
      Calls P g vals.toArray w fun e w' => ∃ v ρ', e = .returned v ∧ Ext ρ ρ' ∧ VRepr ρ' r v ∧ HOk base.heap.size ρ' w' (hget heap') ∧ BelowG base w' ∧ ∀ k, next' ≤ k → ρ' k = .un := by
    intro e σ cs1 hev he hres
    cases hm' : ares P σ fn.results.toList with
    | none => simp [hm'] at hres
    | some m =>
      simp only [hm', Option.map_some, Option.some.injEq, Prod.mk.injEq] at hres
      obtain ⟨rfl, rfl, rfl, rfl⟩ := hres
      refine calls_of_wp hfn hb ?_
      have hrel : Rel base ⟨args ++ List.replicate (fn.ntmps - args.length) (.tup []), heap, next⟩ ρ { tmps := vals.toArray ++ Array.replicate (fn.ntmps - vals.toArray.size) undef, defers := [] } w := by
        refine ⟨rfl, ?_, hh, hbl, fun k hk hu => absurd (hfree k hk) hu⟩
        have hlen := hv.length
        have : (vals.toArray ++ Array.replicate (fn.ntmps - vals.toArray.size) undef).toList = vals ++ List.replicate (fn.ntmps - vals.length) undef := by simp
        rw [this, ← hlen]
        refine hv.append ?_
        generalize fn.ntmps - args.length = q
        induction q with
        | zero => trivial
        | succ q ih => exact ⟨VRepr_undef ρ, ih⟩
      refine wp_mono (TX.runS hΓ hm ho c (Q := fun e' σ' => (e' = .normal ∨ e' = .ret) ∧ σ' = σ) hfl.1 hev hc ⟨by rcases he with rfl | rfl <;> simp [Ex.up], rfl⟩ base ρ _ w hrel) ?_
      rintro e' a' w' ⟨σ', ρ', ⟨he', rfl⟩, hx, hr'⟩
      obtain ⟨vs, h1, h2⟩ := ares_ok hr' _ _ hm'
      have hv' : VRepr ρ' (aresV m) (if h : vs.length = 1 then vs[0] else .tuple vs.toArray) := by
        have hl := h2.length
        match m, vs, h2 with
        | [], [], _ => exact ⟨[], rfl, trivial⟩
        | [p], [v], h2 => exact h2.1
        | p :: p2 :: m, v :: v2 :: vs, h2 => exact ⟨v :: v2 :: vs, by simp, h2⟩
      have hfr : ∀ k, σ'.next ≤ k → ρ' k = .un := fun k hk => by
        by_cases hu : ρ' k = .un
        · exact hu
        · have := hr'.fresh k hk hu
          simp at this
      rcases he' with rfl | rfl
      · exact ⟨hr'.defers, _, results_run h1, _, ρ', rfl, hx, hv', hr'.heap, hr'.below, hfr⟩
      · exact ⟨hr'.defers, _, results_run h1, _, ρ', rfl, hx, hv', hr'.heap, hr'.below, hfr⟩
  split at h
  · simp at h
  · rename_i e σ cs1 hne hev
    cases e with
    | exit id => exact absurd rfl (hne id)
    | normal => exact key .normal σ cs1 hev (.inl rfl) h
    | ret => exact key .ret σ cs1 hev (.inr rfl) h
  · simp at h
end
end Go.Ev
/- Contracts of the document's field: digits settled. Own work. -/
namespace Go.Proofs.YtlgiaglbdifkpaaDoor
open Go.Ev Go.Sp Go.RowKit
set_option maxRecDepth 100000
def z16 : List Int := [(0 : Int), 0, 0, 0, 0, 0, 0, 0, 0, 0, 0, 0, 0, 0, 0, 0]
def lsTd : List Nat := [1, 2, 3]
def lsInv (l m : List Int) (i : Int) : St := ⟨slotsOf 28 [(1, sc (.ptr 0 0)), (2, sc (.ptr 1 0)), (3, sc (.i64 i))], [(0, ⟨true, [.vi 16 l]⟩), (1, ⟨true, [.vi 16 m]⟩)], 16⟩
theorem neqB {a b : Int} (h : a ≠ b) : (!(a == b)) = true := by simp [h]
theorem neqF {a b : Int} (h : a = b) : (!(a == b)) = false := by simp [h]
/-- The loop ends at the first digit that is not full, if there is one. -/
theorem first_not (x : Nat) : ∀ n, (∀ j, 1 ≤ j → j < n → dig16 x j = 65535) ∨ ∃ m, 1 ≤ m ∧ m < n ∧ dig16 x m ≠ 65535 ∧ ∀ j, 1 ≤ j → j < m → dig16 x j = 65535
  | 0 => .inl fun j _ h => by omega
  | n + 1 => by
    rcases first_not x n with h | ⟨m, h1, h2, h3, h4⟩
    · by_cases hn : 1 ≤ n ∧ dig16 x n ≠ 65535
      · exact .inr ⟨n, hn.1, by omega, hn.2, h⟩
      · refine .inl fun j h1 h2 => ?_
        by_cases e : j = n
        · subst e
          by_cases q : dig16 x j = 65535
          · exact q
          · exact absurd ⟨h1, q⟩ hn
        · exact h j h1 (by omega)
    · exact .inr ⟨m, h1, by omega, h3, h4⟩
def vl (l : List Int) : Nat := (V l).toNat
def spLeast : List AV → Option (AV × List Prop)
  | [.val true [.vi 16 l]] => some (.val true [.vi 16 (digs16 (vl l % Pp))], [l = digs16 (vl l), vl l < p255])
  | _ => none
def tblS : List (FuncId × CtS) := []
theorem okS : TblOk Tryd.prog tblS := trivial
theorem gsS : GSound Tryd.prog (upG (lookG tblS)) := GSound_of_tbl okS
def stTd : List Nat := [1, 2, 3]
def stTdI : List Nat := [1, 2, 3, 4, 5]
def stTd2 : List Nat := [1, 2, 6]
def stTd2I : List Nat := [1, 2, 6, 7, 8]
def stInv (l : List Int) (n : Int) : St := ⟨slotsOf 73 [(1, sc (.ptr 0 0)), (2, sc (.ptr 1 0)), (3, sc (.i64 n))], [(0, ⟨true, [.vi 16 l]⟩), (1, ⟨true, [.vi 16 z16]⟩)], 16⟩
def stInvI (l : List Int) (n c i : Int) : St := ⟨slotsOf 73 [(1, sc (.ptr 0 0)), (2, sc (.ptr 1 0)), (3, sc (.i64 n)), (4, sc (.i64 c)), (5, sc (.i64 i))], [(0, ⟨true, [.vi 16 l]⟩), (1, ⟨true, [.vi 16 z16]⟩)], 16⟩
def stInv2 (l : List Int) (n : Int) : St := ⟨slotsOf 73 [(1, sc (.ptr 0 0)), (2, sc (.ptr 1 0)), (6, sc (.i64 n))], [(0, ⟨true, [.vi 16 l]⟩), (1, ⟨true, [.vi 16 z16]⟩)], 16⟩
def stInv2I (l : List Int) (n c i : Int) : St := ⟨slotsOf 73 [(1, sc (.ptr 0 0)), (2, sc (.ptr 1 0)), (6, sc (.i64 n)), (7, sc (.i64 c)), (8, sc (.i64 i))], [(0, ⟨true, [.vi 16 l]⟩), (1, ⟨true, [.vi 16 z16]⟩)], 16⟩
theorem set_set (l : List Int) (i : Nat) (x y : Int) : (l.set i x).set i y = l.set i y := by simp
theorem getD_same (l : List Int) (i : Nat) (x : Int) (h : i < l.length) : (l.set i x).getD i 0 = x := by rw [getD_setI _ _ _ _ h, if_pos rfl]
def tpN (x : Nat) : Nat → List Int
  | 0 => digs16 x
  | n + 1 => tp (tpN x n)
def gN (x : Nat) : Nat → Nat
  | 0 => x
  | n + 1 => g19 (gN x n)
theorem gN_lt {x : Nat} (h : x < p256) : ∀ n, gN x n < p256
  | 0 => h
  | n + 1 => Nat.lt_trans (g19_lt (gN_lt h n)) (by decide)
theorem tpN_eq {x : Nat} (h : x < p256) : ∀ n, tpN x n = digs16 (gN x n)
  | 0 => rfl
  | n + 1 => by rw [tpN, tpN_eq h n, tp_ok (gN_lt h n)]; rfl
def spSettled : List AV → Option (AV × List Prop)
  | [.val true [.vi 16 l]] => some (.val true [.vi 16 (digs16 (vl l % Pp))], [Sd l])
  | _ => none
end Go.Proofs.YtlgiaglbdifkpaaDoor
