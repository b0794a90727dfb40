/- Texts put together: FdL FdM EvV EvX EvU FdC FdD. Own work. -/
import Derived.Test.YtlgiaglbdifkpaaGreatDoorMgco
/- The prime is prime; Fermat's law; plainly. Own work; no program in sight. -/
namespace Go.Sp
open Go.Ev Go.RowKit

/-! ### Powers, fast -/
def pm (n : Nat) : Nat → Nat → Nat → Nat → Nat
  | 0, _, _, acc => acc
  | f + 1, a, e, acc => if e = 0 then acc else pm n f (a * a % n) (e / 2) (if e % 2 = 1 then acc * a % n else acc)
theorem pm_ok (n : Nat) : ∀ (f a e acc : Nat), e < 2 ^ f → pm n f a e acc % n = acc * a ^ e % n
  | 0, a, e, acc, h => by
    have : e = 0 := by simpa using h
    subst this
    simp [pm]
  | f + 1, a, e, acc, h => by
    rw [pm]
    by_cases h0 : e = 0
    · rw [if_pos h0, h0]; simp
    · rw [if_neg h0, pm_ok n f _ _ _ (by rw [Nat.pow_succ] at h; omega)]
      have hd := Nat.div_add_mod e 2
      have e1 : (a * a % n) ^ (e / 2) % n = a ^ (2 * (e / 2)) % n := by rw [← Nat.pow_mod, Nat.pow_mul, Nat.pow_two]
      rcases Nat.mod_two_eq_zero_or_one e with q | q
      · rw [if_neg (by omega), Nat.mul_mod, e1, ← Nat.mul_mod, show 2 * (e / 2) = e by omega]
      · rw [if_pos q, Nat.mul_mod, e1, Nat.mod_mod, ← Nat.mul_mod, Nat.mul_assoc, Nat.mul_comm a, ← Nat.pow_succ, show (2 * (e / 2)).succ = e by omega]

/-! ### Primes -/
def PrD (n : Nat) : Prop := 1 < n ∧ ∀ d, d ∣ n → d = 1 ∨ d = n
def noDiv (n : Nat) : Nat → Nat → Bool
  | 0, _ => true
  | f + 1, d => !(n % d == 0) && noDiv n f (d + 1)
theorem noDiv_ok (n : Nat) : ∀ (f d : Nat), noDiv n f d = true → ∀ k, d ≤ k → k < d + f → ¬ k ∣ n
  | 0, d, _, k, h1, h2 => by omega
  | f + 1, d, h, k, h1, h2 => by
    simp only [noDiv, Bool.and_eq_true, Bool.not_eq_true', beq_eq_false_iff_ne] at h
    by_cases e : k = d
    · subst e
      exact fun hd => h.1 (Nat.mod_eq_zero_of_dvd hd)
    · exact noDiv_ok n f (d + 1) h.2 k (by omega) (by omega)
def small (n f : Nat) : Bool := decide (1 < n) && (decide (n < (f + 2) * (f + 2)) && noDiv n f 2)
theorem small_ok {n f : Nat} (h : small n f = true) : PrD n := by
  simp only [small, Bool.and_eq_true, decide_eq_true_eq] at h
  obtain ⟨h1, h2, h3⟩ := h
  refine ⟨h1, fun d hd => ?_⟩
  obtain ⟨c, hc⟩ := hd
  have key := noDiv_ok n f 2 h3
  have hd0 : d ≠ 0 := by rintro rfl; omega
  have hc0 : c ≠ 0 := by rintro rfl; omega
  by_cases hd1 : d = 1
  · exact .inl hd1
  by_cases hc1 : c = 1
  · subst hc1; exact .inr (by omega)
  exfalso
  by_cases hl : d < f + 2
  · exact key d (by omega) (by omega) ⟨c, hc⟩
  · by_cases hm : c < f + 2
    · exact key c (by omega) (by omega) ⟨d, by rw [hc, Nat.mul_comm]⟩
    · have := Nat.mul_le_mul (show f + 2 ≤ d by omega) (show f + 2 ≤ c by omega)
      omega
theorem PrD.euclid {p a b : Nat} (hp : PrD p) (h : p ∣ a * b) : p ∣ a ∨ p ∣ b := by
  rcases hp.2 (Nat.gcd p a) (Nat.gcd_dvd_left p a) with e | e
  · exact .inr (Nat.Coprime.dvd_of_dvd_mul_left e h)
  · left
    have := Nat.gcd_dvd_right p a
    rwa [e] at this
def prod : List Nat → Nat
  | [] => 1
  | x :: l => x * prod l
theorem prod_dvd : ∀ (l : List Nat) (m : Nat), (∀ f ∈ l, PrD f) → 1 < m → m ∣ prod l → ∃ f ∈ l, f ∣ m
  | [], m, _, h1, h => by
    have := Nat.le_of_dvd (by decide) h
    simp only [prod] at this
    omega
  | x :: l, m, hp, h1, h => by
    have hx := hp x (List.mem_cons_self ..)
    rcases hx.2 (Nat.gcd x m) (Nat.gcd_dvd_left x m) with e | e
    · have hcop : Nat.Coprime m x := (Nat.gcd_comm m x).trans e
      obtain ⟨f, hf, hd⟩ := prod_dvd l m (fun f hf => hp f (List.mem_cons_of_mem _ hf)) h1 (Nat.Coprime.dvd_of_dvd_mul_left hcop h)
      exact ⟨f, List.mem_cons_of_mem _ hf, hd⟩
    · refine ⟨x, List.mem_cons_self .., ?_⟩
      have := Nat.gcd_dvd_right x m
      rwa [e] at this

/-! ### An injection of the numbers below N is onto -/
theorem onto : ∀ (N : Nat) (f : Nat → Nat), (∀ i, i < N → f i < N) → (∀ i j, i < N → j < N → f i = f j → i = j) → ∀ y, y < N → ∃ i, i < N ∧ f i = y
  | 0, _, _, _, y, h => by omega
  | N + 1, f, hr, hi, y, hy => by
    have hg : ∀ i, i < N → (if f i = N then f N else f i) < N := by
      intro i h
      have h1 := hr i (by omega)
      have h2 := hr N (by omega)
      split
      · rename_i e
        by_cases e2 : f N = N
        · have := hi i N (by omega) (by omega) (by omega); omega
        · omega
      · omega
    have hj : ∀ i j, i < N → j < N → (if f i = N then f N else f i) = (if f j = N then f N else f j) → i = j := by
      intro i j h1 h2 h
      split at h <;> split at h
      · exact hi i j (by omega) (by omega) (by omega)
      · have := hi N j (by omega) (by omega) h; omega
      · have := hi i N (by omega) (by omega) h; omega
      · exact hi i j (by omega) (by omega) h
    have ih := onto N (fun i => if f i = N then f N else f i) hg hj
    by_cases hN : f N = y
    · exact ⟨N, by omega, hN⟩
    · by_cases hyN : y = N
      · have hlt : f N < N := by have := hr N (by omega); omega
        obtain ⟨i, h1, h2⟩ := ih (f N) hlt
        split at h2
        · exact ⟨i, by omega, by omega⟩
        · have := hi i N (by omega) (by omega) h2; omega
      · obtain ⟨i, h1, h2⟩ := ih y (by omega)
        split at h2
        · omega
        · exact ⟨i, by omega, h2⟩

/-! ### Lucas -/
def Gen (n g : Nat) : Prop := g ^ (n - 1) % n = 1 ∧ ∀ x, 0 < x → x < n → ∃ i, i < n - 1 ∧ g ^ i % n = x
theorem pow_one_gcd {n g : Nat} (hn : 1 < n) (a b : Nat) : g ^ a % n = 1 → g ^ b % n = 1 → g ^ (Nat.gcd a b) % n = 1 := by
  refine Nat.gcd.induction a b (P := fun a b => g ^ a % n = 1 → g ^ b % n = 1 → g ^ (Nat.gcd a b) % n = 1) ?_ ?_
  · intro b _ h
    rw [Nat.gcd_zero_left]; exact h
  · intro a b _ ih ha hb
    rw [Nat.gcd_rec]
    refine ih ?_ ha
    have h1 : g ^ b % n = (g ^ a) ^ (b / a) * g ^ (b % a) % n := by rw [← Nat.pow_mul, ← Nat.pow_add, Nat.div_add_mod]
    rw [Nat.mul_mod, Nat.pow_mod (g ^ a), ha, Nat.one_pow, Nat.mod_eq_of_lt hn, Nat.one_mul, Nat.mod_mod] at h1
    rw [← h1]; exact hb
theorem lucas {n g : Nat} {fs : List Nat} (hn : 2 < n) (h1 : g ^ (n - 1) % n = 1) (hp : prod fs = n - 1) (hf : ∀ f ∈ fs, PrD f) (hq : ∀ f ∈ fs, g ^ ((n - 1) / f) % n ≠ 1) : Gen n g := by
  have hn1 : 1 < n := by omega
  have hord : ∀ k, 0 < k → k < n - 1 → g ^ k % n ≠ 1 := by
    intro k hk hkn he
    have hd := pow_one_gcd hn1 k (n - 1) he h1
    have hd1 := Nat.gcd_dvd_right k (n - 1)
    have hd2 : Nat.gcd k (n - 1) ≤ k := Nat.le_of_dvd hk (Nat.gcd_dvd_left _ _)
    generalize Nat.gcd k (n - 1) = d at *
    obtain ⟨m, hm⟩ := hd1
    have hm1 : 1 < m := by
      rcases Nat.lt_or_ge 1 m with h | h
      · exact h
      · have := Nat.mul_le_mul_left d h
        omega
    obtain ⟨f, hf1, c, hc⟩ := prod_dvd fs m hf hm1 ⟨d, by rw [hp, hm, Nat.mul_comm]⟩
    have hfp := (hf f hf1).1
    refine hq f hf1 ?_
    have e : (n - 1) / f = d * c := by
      rw [hm, hc, Nat.mul_left_comm, Nat.mul_div_cancel_left _ (by omega)]
    rw [e, Nat.pow_mul, Nat.pow_mod, hd, Nat.one_pow, Nat.mod_eq_of_lt hn1]
  refine ⟨h1, fun x hx hxn => ?_⟩
  have hne : ∀ i, i < n - 1 → g ^ i % n ≠ 0 := by
    intro i hi h0
    have : g ^ (n - 1) % n = g ^ i * g ^ (n - 1 - i) % n := by rw [← Nat.pow_add]; congr 2; omega
    rw [Nat.mul_mod, h0, Nat.zero_mul, Nat.zero_mod] at this
    omega
  have hlt : ∀ i, g ^ i % n < n := fun i => Nat.mod_lt _ (by omega)
  obtain ⟨i, hi, he⟩ := onto (n - 1) (fun i => g ^ i % n - 1) (fun i hi => by have := hlt i; have := hne i hi; omega) (fun i j hi hj h => by
    have hi0 := hne i hi
    have hj0 := hne j hj
    have h' : g ^ i % n = g ^ j % n := by omega
    have aux : ∀ i j, i < j → j < n - 1 → g ^ i % n = g ^ j % n → False := by
      intro i j hij hj he
      refine hord (j - i) (by omega) (by omega) ?_
      have e1 : g ^ (n - 1 - i) * g ^ j % n = g ^ (j - i) % n := by
        rw [← Nat.pow_add, show n - 1 - i + j = n - 1 + (j - i) by omega, Nat.pow_add, Nat.mul_mod, h1, Nat.one_mul, Nat.mod_mod]
      have e2 : g ^ (n - 1 - i) * g ^ i % n = 1 := by
        rw [← Nat.pow_add, show n - 1 - i + i = n - 1 by omega, h1]
      rw [← e1, Nat.mul_mod, ← he, ← Nat.mul_mod, e2]
    rcases Nat.lt_trichotomy i j with q | q | q
    · exact (aux i j q hj h').elim
    · exact q
    · exact (aux j i q hi h'.symm).elim) (x - 1) (by omega)
  exact ⟨i, hi, by have := hne i hi; omega⟩
theorem Gen.prime {n g : Nat} (hn : 1 < n) (h : Gen n g) : PrD n := by
  refine ⟨hn, fun d hd => ?_⟩
  by_cases e : d = n
  · exact .inr e
  · left
    have hle := Nat.le_of_dvd (by omega) hd
    have hd0 : 0 < d := by rcases Nat.eq_zero_or_pos d with h0 | h0; (subst h0; have := Nat.eq_zero_of_zero_dvd hd; omega); exact h0
    obtain ⟨i, hi, he⟩ := h.2 d hd0 (by omega)
    have h1 : d ∣ g ^ i := by
      have := Nat.div_add_mod (g ^ i) n
      rw [he] at this
      rw [← this]
      exact Nat.dvd_add (Nat.dvd_trans hd (Nat.dvd_mul_right ..)) (Nat.dvd_refl d)
    have h2 : d ∣ g ^ (n - 1) := Nat.dvd_trans h1 (Nat.pow_dvd_pow g (by omega))
    have h3 := Nat.div_add_mod (g ^ (n - 1)) n
    rw [h.1] at h3
    rw [← h3] at h2
    exact Nat.dvd_one.1 ((Nat.dvd_add_right (Nat.dvd_trans hd (Nat.dvd_mul_right ..))).1 h2)
theorem Gen.fermat {n g : Nat} (hn : 1 < n) (h : Gen n g) {x : Nat} (h0 : 0 < x) (hx : x < n) : x ^ (n - 1) % n = 1 := by
  obtain ⟨i, hi, he⟩ := h.2 x h0 hx
  rw [← he, ← Nat.pow_mod, ← Nat.pow_mul, Nat.mul_comm, Nat.pow_mul, Nat.pow_mod, h.1, Nat.one_pow, Nat.mod_eq_of_lt hn]
def luc (n g : Nat) (fs : List Nat) : Bool :=
  decide (2 < n) && (decide (n < p256) && ((pm n 256 g (n - 1) 1 % n == 1) && ((prod fs == n - 1) && fs.all fun f => !(pm n 256 g ((n - 1) / f) 1 % n == 1))))
theorem luc_ok {n g : Nat} {fs : List Nat} (h : luc n g fs = true) (hf : ∀ f ∈ fs, PrD f) : Gen n g := by
  simp only [luc, Bool.and_eq_true, decide_eq_true_eq, beq_iff_eq, List.all_eq_true, Bool.not_eq_true', beq_eq_false_iff_ne] at h
  obtain ⟨h1, h2, h3, h4, h5⟩ := h
  have hp : p256 = 2 ^ 256 := by decide
  refine lucas h1 ?_ h4 hf fun f hm => ?_
  · rw [pm_ok _ _ _ _ _ (by omega), Nat.one_mul] at h3; exact h3
  · have := h5 f hm
    have hd := Nat.div_le_self (n - 1) f
    rw [pm_ok _ _ _ _ _ (by omega), Nat.one_mul] at this
    exact this
end Go.Sp
/- The prime's chain: numbers whose generator is told. Own work; no program in sight. -/
namespace Go.Sp
open Go.Ev Go.RowKit
theorem PrD_nil : ∀ f ∈ ([] : List Nat), PrD f := fun _ h => by cases h
theorem PrD_cons {x : Nat} {l : List Nat} (h : PrD x) (hl : ∀ f ∈ l, PrD f) : ∀ f ∈ x :: l, PrD f := fun f hf => by
  rcases List.mem_cons.1 hf with e | e
  · exact e ▸ h
  · exact hl f e

theorem pr_2 : PrD 2 := small_ok (f := 0) (by kernel_rfl)
theorem pr_3 : PrD 3 := small_ok (f := 0) (by kernel_rfl)
theorem pr_65147 : PrD 65147 := small_ok (f := 254) (by kernel_rfl)
theorem pr_353 : PrD 353 := small_ok (f := 17) (by kernel_rfl)
theorem pr_57467 : PrD 57467 := small_ok (f := 238) (by kernel_rfl)
theorem pr_132049 : PrD 132049 := small_ok (f := 362) (by kernel_rfl)
theorem pr_1923133 : PrD 1923133 := small_ok (f := 1385) (by kernel_rfl)
theorem pr_31 : PrD 31 := small_ok (f := 4) (by kernel_rfl)
theorem pr_107 : PrD 107 := small_ok (f := 9) (by kernel_rfl)
theorem pr_223 : PrD 223 := small_ok (f := 13) (by kernel_rfl)
theorem pr_4153 : PrD 4153 := small_ok (f := 63) (by kernel_rfl)
theorem pr_430751 : PrD 430751 := small_ok (f := 655) (by kernel_rfl)
theorem gen_31757755568855353 : Gen 31757755568855353 10 := luc_ok (fs := [2, 2, 2, 3, 31, 107, 223, 4153, 430751]) (by kernel_rfl) (PrD_cons pr_2 (PrD_cons pr_2 (PrD_cons pr_2 (PrD_cons pr_3 (PrD_cons pr_31 (PrD_cons pr_107 (PrD_cons pr_223 (PrD_cons pr_4153 (PrD_cons pr_430751 (PrD_nil))))))))))
theorem pr_31757755568855353 : PrD 31757755568855353 := gen_31757755568855353.prime (by decide)
theorem pr_5 : PrD 5 := small_ok (f := 1) (by kernel_rfl)
theorem pr_75707 : PrD 75707 := small_ok (f := 274) (by kernel_rfl)
theorem pr_7 : PrD 7 := small_ok (f := 1) (by kernel_rfl)
theorem pr_19 : PrD 19 := small_ok (f := 3) (by kernel_rfl)
theorem pr_47 : PrD 47 := small_ok (f := 5) (by kernel_rfl)
theorem pr_127 : PrD 127 := small_ok (f := 10) (by kernel_rfl)
theorem pr_103 : PrD 103 := small_ok (f := 9) (by kernel_rfl)
theorem pr_991 : PrD 991 := small_ok (f := 30) (by kernel_rfl)
theorem gen_8574133 : Gen 8574133 2 := luc_ok (fs := [2, 2, 3, 7, 103, 991]) (by kernel_rfl) (PrD_cons pr_2 (PrD_cons pr_2 (PrD_cons pr_3 (PrD_cons pr_7 (PrD_cons pr_103 (PrD_cons pr_991 (PrD_nil)))))))
theorem pr_8574133 : PrD 8574133 := gen_8574133.prime (by decide)
theorem gen_1919519569386763 : Gen 1919519569386763 2 := luc_ok (fs := [2, 3, 7, 19, 47, 47, 127, 8574133]) (by kernel_rfl) (PrD_cons pr_2 (PrD_cons pr_3 (PrD_cons pr_7 (PrD_cons pr_19 (PrD_cons pr_47 (PrD_cons pr_47 (PrD_cons pr_127 (PrD_cons pr_8574133 (PrD_nil)))))))))
theorem pr_1919519569386763 : PrD 1919519569386763 := gen_1919519569386763.prime (by decide)
theorem pr_13 : PrD 13 := small_ok (f := 2) (by kernel_rfl)
theorem pr_2437 : PrD 2437 := small_ok (f := 48) (by kernel_rfl)
theorem pr_569003 : PrD 569003 := small_ok (f := 753) (by kernel_rfl)
theorem gen_2773320623 : Gen 2773320623 5 := luc_ok (fs := [2, 2437, 569003]) (by kernel_rfl) (PrD_cons pr_2 (PrD_cons pr_2437 (PrD_cons pr_569003 (PrD_nil))))
theorem pr_2773320623 : PrD 2773320623 := gen_2773320623.prime (by decide)
theorem gen_72106336199 : Gen 72106336199 7 := luc_ok (fs := [2, 13, 2773320623]) (by kernel_rfl) (PrD_cons pr_2 (PrD_cons pr_13 (PrD_cons pr_2773320623 (PrD_nil))))
theorem pr_72106336199 : PrD 72106336199 := gen_72106336199.prime (by decide)
theorem gen_75445702479781427272750846543864801 : Gen 75445702479781427272750846543864801 7 := luc_ok (fs := [2, 2, 2, 2, 2, 3, 3, 5, 5, 75707, 1919519569386763, 72106336199]) (by kernel_rfl) (PrD_cons pr_2 (PrD_cons pr_2 (PrD_cons pr_2 (PrD_cons pr_2 (PrD_cons pr_2 (PrD_cons pr_3 (PrD_cons pr_3 (PrD_cons pr_5 (PrD_cons pr_5 (PrD_cons pr_75707 (PrD_cons pr_1919519569386763 (PrD_cons pr_72106336199 (PrD_nil)))))))))))))
theorem pr_75445702479781427272750846543864801 : PrD 75445702479781427272750846543864801 := gen_75445702479781427272750846543864801.prime (by decide)
theorem gen_74058212732561358302231226437062788676166966415465897661863160754340907 : Gen 74058212732561358302231226437062788676166966415465897661863160754340907 2 := luc_ok (fs := [2, 3, 353, 57467, 132049, 1923133, 31757755568855353, 75445702479781427272750846543864801]) (by kernel_rfl) (PrD_cons pr_2 (PrD_cons pr_3 (PrD_cons pr_353 (PrD_cons pr_57467 (PrD_cons pr_132049 (PrD_cons pr_1923133 (PrD_cons pr_31757755568855353 (PrD_cons pr_75445702479781427272750846543864801 (PrD_nil)))))))))
theorem pr_74058212732561358302231226437062788676166966415465897661863160754340907 : PrD 74058212732561358302231226437062788676166966415465897661863160754340907 := gen_74058212732561358302231226437062788676166966415465897661863160754340907.prime (by decide)
theorem gen_Pp : Gen Pp 2 := luc_ok (fs := [2, 2, 3, 65147, 74058212732561358302231226437062788676166966415465897661863160754340907]) (by kernel_rfl) (PrD_cons pr_2 (PrD_cons pr_2 (PrD_cons pr_3 (PrD_cons pr_65147 (PrD_cons pr_74058212732561358302231226437062788676166966415465897661863160754340907 (PrD_nil))))))
theorem pr_Pp : PrD Pp := gen_Pp.prime (by decide)
theorem euclid {a b : Nat} (h : a * b % Pp = 0) : a % Pp = 0 ∨ b % Pp = 0 := by
  rcases pr_Pp.euclid (Nat.dvd_of_mod_eq_zero h) with h | h
  · exact .inl (Nat.mod_eq_zero_of_dvd h)
  · exact .inr (Nat.mod_eq_zero_of_dvd h)
theorem fermat {x : Nat} (h0 : x ≠ 0) (hx : x < Pp) : x ^ (Pp - 1) % Pp = 1 := gen_Pp.fermat (by decide) (by omega) hx
end Go.Sp
/- Contracts that take a nil slice for no bytes. Own work; no statement of the seat is proved here. -/
namespace Go.Ev
open Go.RowKit
/-- An answer's parts. -/
def resOf {α : Type} : Option (Ex × α × List Prop) → Option (Ex × α)
  | some (e, s, _) => some (e, s)
  | none => none
def csOf {α : Type} : Option (Ex × α × List Prop) → List Prop
  | some (_, _, cs) => cs
  | none => [False]
theorem parts_eq {α : Type} {r : Option (Ex × α × List Prop)} {e : Ex} {s : α} {cs : List Prop} (h1 : resOf r = some (e, s)) (h2 : csOf r = cs) : r = some (e, s, cs) := by
  cases r with
  | none => simp [resOf] at h1
  | some q => obtain ⟨a, b, c⟩ := q; simp [resOf] at h1; simp [csOf] at h2; rw [h1.1, h1.2, h2]
def ansOf : Option (AV × List Prop) → Option AV
  | some (a, _) => some a
  | none => none
def acsOf : Option (AV × List Prop) → List Prop
  | some (_, cs) => cs
  | none => [False]
theorem ans_eq {r : Option (AV × List Prop)} {a : AV} {cs : List Prop} (h1 : ansOf r = some a) (h2 : acsOf r = cs) : r = some (a, cs) := by
  cases r with
  | none => simp [ansOf] at h1
  | some q => obtain ⟨a, c⟩ := q; simp [ansOf] at h1; simp [acsOf] at h2; rw [h1, h2]
def nil8I : IV → IV
  | .nil => .d8 []
  | i => i
def nil8A : AV → AV
  | .val false [i] => .val false [nil8I i]
  | x => x
theorem DCells_nil8 {w : World} {i : IV} {vs : List Value} (h : DCells w i vs) : DCells w (nil8I i) vs := by
  cases i <;> first | exact h | skip
  simp only [DCells, PCells, Option.some.injEq] at h
  subst h
  exact ⟨_, rfl, .inr ⟨rfl, rfl, none, rfl⟩⟩
theorem DV_nil8 {w : World} {x : AV} {v : Value} (h : DV w x v) : DV w (nil8A x) v := by
  unfold nil8A
  split
  · obtain ⟨vs, ⟨a, b, e, h1, h2⟩, h3⟩ := h
    exact ⟨vs, ⟨a, b, e, DCells_nil8 h1, h2⟩, h3⟩
  · exact h
theorem F2_DV_nil8 {w : World} : ∀ {l : List AV} {vs : List Value}, F2 (DV w) l vs → F2 (DV w) (l.map nil8A) vs
  | [], [], h => h
  | _ :: _, _ :: _, ⟨a, b⟩ => ⟨DV_nil8 a, F2_DV_nil8 b⟩
/-- The same contract, of which a nil slice is no bytes. -/
def nil8 (spec : List AV → Option (AV × List Prop)) (ds : List AV) : Option (AV × List Prop) := spec (ds.map nil8A)
theorem FnS_nil8 {P : Program} {f : FuncId} {spec : List AV → Option (AV × List Prop)} (h : FnS P f spec) : FnS P f (nil8 spec) :=
  FnS_intro fun _ _ _ hd hc w vals hv => FnS_use h hd hc w vals (F2_DV_nil8 hv)
end Go.Ev
/- Contracts over numbers of sixteen digits, out of contracts over the digits. Own work; no statement of the seat is proved here. -/
namespace Go.Ev
open Go.RowKit
/-- Digits in place of numbers. -/
def feI : IV → IV
  | .fe x => .vi 16 (digs16 x)
  | i => i
def feA : AV → AV
  | .val g l => .val g (l.map feI)
  | .tup l => .tup (l.map fun p => (p.1, p.2.map feI))
  | x => x
theorem DCells_fe {w : World} {i : IV} {vs : List Value} (h : DCells w i vs) : DCells w (feI i) vs := by
  cases i <;> exact h
theorem DLs_fe {w : World} : ∀ {l : List IV} {vs : List Value}, DLs w l vs → DLs w (l.map feI) vs
  | [], _, h => h
  | _ :: _, _, ⟨a, b, e, h1, h2⟩ => ⟨a, b, e, DCells_fe h1, DLs_fe h2⟩
theorem DV_fe {w : World} {x : AV} {v : Value} (h : DV w x v) : DV w (feA x) v := by
  cases x <;> first | exact h | skip
  obtain ⟨vs, h1, h2⟩ := h
  exact ⟨vs, DLs_fe h1, h2⟩
theorem F2_DV_fe {w : World} : ∀ {l : List AV} {vs : List Value}, F2 (DV w) l vs → F2 (DV w) (l.map feA) vs
  | [], [], h => h
  | _ :: _, _ :: _, ⟨a, b⟩ => ⟨DV_fe a, F2_DV_fe b⟩
theorem ICells_fe {ρ : Nat → Pl} {i : IV} {vs : List Value} (h : ICells ρ (feI i) vs) : ICells ρ i vs := by
  cases i <;> exact h
theorem LCells_fe {ρ : Nat → Pl} : ∀ {l : List IV} {vs : List Value}, LCells ρ (l.map feI) vs → LCells ρ l vs
  | [], _, h => h
  | _ :: _, _, ⟨a, b, e, h1, h2⟩ => ⟨a, b, e, ICells_fe h1, LCells_fe h2⟩
theorem VR1_fe {ρ : Nat → Pl} {p : Bool × List IV} {v : Value} (h : VR1 ρ (p.1, p.2.map feI) v) : VR1 ρ p v := by
  obtain ⟨vs, h1, h2⟩ := h
  exact ⟨vs, LCells_fe h1, h2⟩
theorem F2_VR1_fe {ρ : Nat → Pl} : ∀ {l : List (Bool × List IV)} {vs : List Value}, F2 (VR1 ρ) (l.map fun p => (p.1, p.2.map feI)) vs → F2 (VR1 ρ) l vs
  | [], [], h => h
  | _ :: _, _ :: _, ⟨a, b⟩ => ⟨VR1_fe a, F2_VR1_fe b⟩
theorem VRepr_fe {ρ : Nat → Pl} {x : AV} {v : Value} (h : VRepr ρ (feA x) v) : VRepr ρ x v := by
  cases x <;> first | exact h | skip
  · exact VR1_fe (p := (_, _)) h
  · obtain ⟨vs, h1, h2⟩ := h
    exact ⟨vs, h1, F2_VR1_fe h2⟩
theorem ofIs_fe : ∀ (l : List IV) (F : Nat), ofIs F (l.map feI) = ((ofIs F l).1.map feI, (ofIs F l).2.1, (ofIs F l).2.2)
  | [], _ => rfl
  | i :: l, F => by
    have h := ofIs_fe l
    cases i <;> simp only [List.map_cons, feI, ofIs, h]
theorem ofTs_fe : ∀ (l : List (Bool × List IV)) (F : Nat), ofTs F (l.map fun p => (p.1, p.2.map feI)) = ((ofTs F l).1.map fun p => (p.1, p.2.map feI), (ofTs F l).2.1, (ofTs F l).2.2)
  | [], _ => rfl
  | p :: l, F => by
    have h := ofTs_fe l
    simp only [List.map_cons, ofTs, ofIs_fe, h]
theorem ofA_fe (x : AV) (F : Nat) : ofA F (feA x) = (feA (ofA F x).1, (ofA F x).2.1, (ofA F x).2.2) := by
  cases x <;> simp only [feA, ofA, ofIs_fe, ofTs_fe]
theorem ResOk_fe {B : Nat} {w : World} {r : AV} {v : Value} (h : ResOk B w (feA r) v) : ResOk B w r v := by
  intro F
  obtain ⟨ρ, h1, h2, h3, h4⟩ := h F
  rw [ofA_fe] at h1 h3 h4
  exact ⟨ρ, h1, h2, VRepr_fe h3, h4⟩
/-- A contract over numbers, from one over digits. -/
theorem FnS_fe {P : Program} {f : FuncId} {spec specN : List AV → Option (AV × List Prop)} (h : FnS P f spec)
    (hs : ∀ ds r cs, specN ds = some (r, cs) → AllP cs → ∃ cs', spec (ds.map feA) = some (feA r, cs') ∧ AllP cs') : FnS P f specN :=
  FnS_intro fun ds r cs hd hc w vals hv => by
    obtain ⟨cs', h1, h2⟩ := hs ds r cs hd hc
    refine (FnS_use h h1 h2 w vals (F2_DV_fe hv)).mono ?_
    rintro e w' ⟨v, a, b, c⟩
    exact ⟨v, a, b, ResOk_fe c⟩
end Go.Ev
/- What a closure's code comes to, where it has no loop. Own work; no statement of the seat is proved here. -/
namespace Go.Ev
open Go.RowKit
/-- As T, and all that was known stands where it stood. -/
def TX (P : Program) (c : Code) (σ : St) (Q : Exit → St → Prop) : Prop :=
  ∀ base ρ a w, Rel base σ ρ a w → c.wp P (fun e a' w' => ∃ σ' ρ', Q e σ' ∧ Ext ρ ρ' ∧ Rel base σ' ρ' a' w') a w
section
variable {P : Program} {Q : Exit → St → Prop} {σ : St}
theorem TX.region {Γ : FuncId → Option Ct} (hΓ : GSound P Γ) (hm : P.follows .mixedOrders = true) {id : Nat} {ops : Array Oper} {draw : Bool} {σ' : St} (h : evR P Γ ops draw σ = some σ') (hq : Q .normal σ') : TX P (.region id ops draw) σ Q := by
  intro base ρ a w hr
  unfold evR at h
  split at h
  · simp at h
  rename_i hd
  split at h
  case h_2 => simp at h
  rename_i q hrun
  simp at h
  subst h
  have hF := runL_runF ops.toList 0 σ.slots σ.heap q (fun i => by simp) hrun
  have fin : ∀ (ρ' : Nat → Pl) (a' : Act) (w' : World), Ext ρ ρ' → RelF σ.next base ρ' a' w' ⟨q.1, hget q.2⟩ (fun j => decide (j < ops.size)) → ∃ σ'' ρ'', Q .normal σ'' ∧ Ext ρ ρ'' ∧ Rel base σ'' ρ'' a' w' := by
    intro ρ' a' w' hx hr'
    refine ⟨_, ρ', hq, hx, hr'.defers, hr'.slots, hr'.heap, hr'.below, fun k hk hu => ?_⟩
    have hk' : σ.next ≤ k := by simp at hk; omega
    have := hr'.fresh k hk' hu
    simp at this hk
    omega
  have hlen : ops.toList.length = ops.size := by simp
  rw [hlen] at hF
  cases draw with
  | true =>
    simp only [Bool.true_and, Bool.not_eq_true', Bool.not_eq_false] at hd
    simp only [if_true] at hF
    exact region_draw hΓ (N := σ.next) hm hd hr hF fin
  | false =>
    simp only [Bool.false_eq_true, if_false] at hF
    exact region_seq hΓ fin hr hF
theorem TX.seq {x y : Code} (h : TX P x σ (andThen (fun σ' => TX P y σ' Q) Q)) : TX P (.seq x y) σ Q := by
  intro base ρ a w hr
  refine wp_seq (wp_mono (h base ρ a w hr) ?_)
  rintro e a' w' ⟨σ', ρ', q, hx, r⟩
  cases e with
  | normal => exact wp_mono (q base ρ' a' w' r) fun e a2 w2 ⟨σ2, ρ2, q2, hx2, r2⟩ => ⟨σ2, ρ2, q2, hx.trans hx2, r2⟩
  | _ => exact ⟨σ', ρ', q, hx, r⟩
theorem TX.cond {c : Operand} {x y : Code} {b : Bool} (hb : aeval σ.slots c = sc (.bool b)) (h : TX P (if b then x else y) σ Q) : TX P (.cond c x y) σ Q := by
  intro base ρ a w hr
  have hv := aeval_ok hr.slots c
  have hs : (toF σ).slots = σ.slots := rfl
  rw [hs, hb] at hv
  have := VRepr_sc.1 hv
  simp [ICells, PCells] at this
  exact wp_cond this.symm (h base ρ a w hr)
theorem TX.block {id : Nat} {c : Code} (h : TX P c σ (inBlk id Q)) : TX P (.block id c) σ Q := by
  intro base ρ a w hr
  refine wp_block (wp_mono (h base ρ a w hr) ?_)
  rintro e a' w' ⟨σ', ρ', q, hx, r⟩
  cases e with
  | exit id' =>
    simp only [Exit.inBlock]
    simp only [inBlk] at q
    split
    · rename_i e; rw [if_pos e] at q; exact ⟨σ', ρ', q, hx, r⟩
    · rename_i e; rw [if_neg e] at q; exact ⟨σ', ρ', q, hx, r⟩
  | _ => exact ⟨σ', ρ', q, hx, r⟩
theorem TX.scope {c : Code} (h : TX P c σ (noGo Q)) : TX P (.scope c) σ Q := by
  intro base ρ a w hr
  refine wp_scope_straight (wp_mono (h base ρ a w hr) ?_)
  rintro e a' w' ⟨σ', ρ', q, hx, r⟩
  cases e with
  | goto l => exact q.elim
  | _ => exact ⟨σ', ρ', q, hx, r⟩
end
def flat : Code → Bool
  | .skip => true
  | .region .. => true
  | .seq x y => flat x && flat y
  | .cond _ x y => flat x && flat y
  | .block _ c => flat c
  | .scope c => flat c
  | .exit _ => true
  | .label _ => true
  | .ret => true
  | _ => false
section
variable {P : Program} {Γ : FuncId → Option CtS} {orc : Nat → Orc} {fuel : Nat}
theorem TX.runS (hΓ : GSound P (upG Γ)) (hm : P.follows .mixedOrders = true) (ho : ∀ i, (orc i).inl = none) : ∀ (c : Code) {σ σ' : St} {e : Ex} {cs : List Prop} {Q : Exit → St → Prop}, flat c = true → evS P Γ orc [] fuel c σ = some (e, σ', cs) → AllP cs → Q e.up σ' → TX P c σ Q := by
  intro c
  induction c with
  | skip => intro σ σ' e cs Q _ h _ hq; simp [evS] at h; obtain ⟨rfl, rfl, rfl⟩ := h; exact fun _ ρ _ _ hr => wp_skip ⟨σ, ρ, hq, Ext.refl ρ, hr⟩
  | region id ops draw =>
    intro σ σ' e cs Q _ h hc hq
    simp only [evS, ho] at h
    cases hr : evRS P Γ (orc id) ops draw σ with
    | none => simp [hr] at h
    | some t => simp [hr] at h; obtain ⟨rfl, rfl, rfl⟩ := h; exact TX.region hΓ hm (evRS_ok hr hc) hq
  | seq x y ihx ihy =>
    intro σ σ' e cs Q hf h hc hq
    simp only [flat, Bool.and_eq_true] at hf
    simp only [evS] at h
    refine TX.seq ?_
    cases hx : evS P Γ orc [] fuel x σ with
    | none => simp [hx] at h
    | some r =>
      obtain ⟨e1, s1, c1⟩ := r
      rw [hx] at h
      cases e1 with
      | normal =>
        simp only at h
        cases hy : evS P Γ orc [] fuel y s1 with
        | none => simp [hy] at h
        | some r =>
          obtain ⟨e2, s2, c2⟩ := r
          rw [hy] at h
          simp at h
          obtain ⟨rfl, rfl, rfl⟩ := h
          obtain ⟨q1, q2⟩ := AllP_append hc
          exact ihx hf.1 hx q1 (show TX P y s1 Q from ihy hf.2 hy q2 hq)
      | exit id => simp at h; obtain ⟨rfl, rfl, rfl⟩ := h; exact ihx hf.1 hx hc hq
      | ret => simp at h; obtain ⟨rfl, rfl, rfl⟩ := h; exact ihx hf.1 hx hc hq
  | cond c x y ihx ihy =>
    intro σ σ' e cs Q hf h hc hq
    simp only [flat, Bool.and_eq_true] at hf
    simp only [evS] at h
    split at h
    · rename_i hb; exact TX.cond (b := true) hb (ihx hf.1 h hc hq)
    · rename_i hb; exact TX.cond (b := false) hb (ihy hf.2 h hc hq)
    · simp at h
  | block id c ih =>
    intro σ σ' e cs Q hf h hc hq
    simp only [evS] at h
    refine TX.block ?_
    cases hx : evS P Γ orc [] fuel c σ with
    | none => simp [hx] at h
    | some r =>
      obtain ⟨e1, s1, c1⟩ := r
      rw [hx] at h
      cases e1 with
      | normal => simp at h; obtain ⟨rfl, rfl, rfl⟩ := h; exact ih hf hx hc hq
      | exit id' =>
        simp only at h
        split at h
        · rename_i he
          simp at h
          obtain ⟨rfl, rfl, rfl⟩ := h
          refine ih hf hx hc ?_
          show (if id' = id then Q .normal s1 else Q (.exit id') s1)
          rw [if_pos he]; exact hq
        · rename_i he
          simp at h
          obtain ⟨rfl, rfl, rfl⟩ := h
          refine ih hf hx hc ?_
          show (if id' = id then Q .normal s1 else Q (.exit id') s1)
          rw [if_neg he]; exact hq
      | ret => simp at h; obtain ⟨rfl, rfl, rfl⟩ := h; exact ih hf hx hc hq
  | scope c ih =>
    intro σ σ' e cs Q hf h hc hq
    simp only [evS] at h
    refine TX.scope (ih hf h hc ?_)
    cases e <;> exact hq
  | exit id => intro σ σ' e cs Q _ h _ hq; simp [evS] at h; obtain ⟨rfl, rfl, rfl⟩ := h; exact fun _ ρ _ _ hr => wp_exit ⟨σ, ρ, hq, Ext.refl ρ, hr⟩
  | label l => intro σ σ' e cs Q _ h _ hq; simp [evS] at h; obtain ⟨rfl, rfl, rfl⟩ := h; exact fun _ ρ _ _ hr => wp_label ⟨σ, ρ, hq, Ext.refl ρ, hr⟩
  | ret => intro σ σ' e cs Q _ h _ hq; simp [evS] at h; obtain ⟨rfl, rfl, rfl⟩ := h; exact fun _ ρ _ _ hr => wp_ret ⟨σ, ρ, hq, Ext.refl ρ, hr⟩
  | loop c ih => intro σ σ' e cs Q hf; simp [flat] at hf
  | goto l => intro σ σ' e cs Q hf; simp [flat] at hf
  | rangeFunc f p a b => intro σ σ' e cs Q hf; simp [flat] at hf
  | refuse w => intro σ σ' e cs Q hf; simp [flat] at hf
/-- A closure's answer, from the caller's memory. -/
def cloS (P : Program) (Γ : FuncId → Option CtS) (orc : Nat → Orc) (fuel : Nat) (g : FuncId) (args : List AV) (heap : Heap) (next : Nat) : Option (AV × Heap × Nat × List Prop) :=
  match P.funcs[g]? with
  | none => none
  | some fn => match fn.body with
    | none => none
    | some c =>
      if flat c && callable P g then
        match evS P Γ orc [] fuel c ⟨args ++ List.replicate (fn.ntmps - args.length) (.tup []), heap, next⟩ with
        | some (.exit _, _, _) => none
        | some (_, σ, cs) => (ares P σ fn.results.toList).map fun m => (aresV m, σ.heap, σ.next, cs)
        | none => none
      else none
theorem CloTo_of_cloS (hΓ : GSound P (upG Γ)) (hm : P.follows .mixedOrders = true) (ho : ∀ i, (orc i).inl = none) {g : FuncId} {args : List AV} {heap heap' : Heap} {next next' : Nat} {r : AV} {cs : List Prop}
    (h : cloS P Γ orc fuel g args heap next = some (r, heap', next', cs)) (hc : AllP cs) : CloTo P g args heap next r heap' next' := by
  unfold cloS at h
  split at h
  · simp at h
  rename_i fn hfn
  split at h
  · simp at h
  rename_i c hb
  split at h
  case isFalse => simp at h
  rename_i hfl
  simp only [Bool.and_eq_true] at hfl
  refine ⟨hfl.2, fun base ρ w vals hv hh hbl hfree => ?_⟩
  have key : ∀ (e : Ex) (σ : St) (cs1 : List Prop), evS P Γ orc [] fuel c ⟨args ++ List.replicate (fn.ntmps - args.length) (.tup []), heap, next⟩ = some (e, σ, cs1) → (e = .normal ∨ e = .ret) → (ares P σ fn.results.toList).map (fun m => (aresV m, σ.heap, σ.next, cs1)) = some (r, heap', next', cs) →
      Calls P g vals.toArray w fun e w' => ∃ v ρ', e = .returned v ∧ Ext ρ ρ' ∧ VRepr ρ' r v ∧ HOk base.heap.size ρ' w' (hget heap') ∧ BelowG base w' ∧ ∀ k, next' ≤ k → ρ' k = .un := by
    intro e σ cs1 hev he hres
    cases hm' : ares P σ fn.results.toList with
    | none => simp [hm'] at hres
    | some m =>
      simp only [hm', Option.map_some, Option.some.injEq, Prod.mk.injEq] at hres
      obtain ⟨rfl, rfl, rfl, rfl⟩ := hres
      refine calls_of_wp hfn hb ?_
      have hrel : Rel base ⟨args ++ List.replicate (fn.ntmps - args.length) (.tup []), heap, next⟩ ρ { tmps := vals.toArray ++ Array.replicate (fn.ntmps - vals.toArray.size) undef, defers := [] } w := by
        refine ⟨rfl, ?_, hh, hbl, fun k hk hu => absurd (hfree k hk) hu⟩
        have hlen := hv.length
        have : (vals.toArray ++ Array.replicate (fn.ntmps - vals.toArray.size) undef).toList = vals ++ List.replicate (fn.ntmps - vals.length) undef := by simp
        rw [this, ← hlen]
        refine hv.append ?_
        generalize fn.ntmps - args.length = q
        induction q with
        | zero => trivial
        | succ q ih => exact ⟨VRepr_undef ρ, ih⟩
      refine wp_mono (TX.runS hΓ hm ho c (Q := fun e' σ' => (e' = .normal ∨ e' = .ret) ∧ σ' = σ) hfl.1 hev hc ⟨by rcases he with rfl | rfl <;> simp [Ex.up], rfl⟩ base ρ _ w hrel) ?_
      rintro e' a' w' ⟨σ', ρ', ⟨he', rfl⟩, hx, hr'⟩
      obtain ⟨vs, h1, h2⟩ := ares_ok hr' _ _ hm'
      have hv' : VRepr ρ' (aresV m) (if h : vs.length = 1 then vs[0] else .tuple vs.toArray) := by
        have hl := h2.length
        match m, vs, h2 with
        | [], [], _ => exact ⟨[], rfl, trivial⟩
        | [p], [v], h2 => exact h2.1
        | p :: p2 :: m, v :: v2 :: vs, h2 => exact ⟨v :: v2 :: vs, by simp, h2⟩
      have hfr : ∀ k, σ'.next ≤ k → ρ' k = .un := fun k hk => by
        by_cases hu : ρ' k = .un
        · exact hu
        · have := hr'.fresh k hk hu
          simp at this
      rcases he' with rfl | rfl
      · exact ⟨hr'.defers, _, results_run h1, _, ρ', rfl, hx, hv', hr'.heap, hr'.below, hfr⟩
      · exact ⟨hr'.defers, _, results_run h1, _, ρ', rfl, hx, hv', hr'.heap, hr'.below, hfr⟩
  split at h
  · simp at h
  · rename_i e σ cs1 hne hev
    cases e with
    | exit id => exact absurd rfl (hne id)
    | normal => exact key .normal σ cs1 hev (.inl rfl) h
    | ret => exact key .ret σ cs1 hev (.inr rfl) h
  · simp at h
end
end Go.Ev
/- Contracts of the document's field: digits settled. Own work. -/
namespace Go.Proofs.YtlgiaglbdifkpaaGreatDoor
open Go.Ev Go.Sp Go.RowKit
set_option maxRecDepth 100000
def z16 : List Int := [(0 : Int), 0, 0, 0, 0, 0, 0, 0, 0, 0, 0, 0, 0, 0, 0, 0]
def lsTd : List Nat := [1, 2, 3]
def lsInv (l m : List Int) (i : Int) : St := ⟨slotsOf 28 [(1, sc (.ptr 0 0)), (2, sc (.ptr 1 0)), (3, sc (.i64 i))], [(0, ⟨true, [.vi 16 l]⟩), (1, ⟨true, [.vi 16 m]⟩)], 16⟩
theorem lsRound (l : List Int) (i : Int) : roundS Tryz.prog (lookG []) (orcA [(2, [(1, true)]), (4, [(3, false)])]) [] 10 lsTd (bodyAt Tryz.prog 128 2) (lsInv l z16 i) =
    some (Ex.normal, St.mk (slotsOf 28 [(1, sc (IV.ptr 0 0)), (2, sc (IV.ptr 1 0)), (3, sc (IV.i64 (i + (1 : Int))))]) [(0, Blk.mk true [IV.vi 16 l]), (1, Blk.mk true [IV.vi 16 z16])] 16, [decide (i < (15 : Int)) = true, (0 : Int) ≤ i, i.toNat < 16, 0 + i.toNat * 1 < 16, (!l.getD (0 + i.toNat * 1) (0 : Int) == (65535 : Int)) = false, inI64 (i + (1 : Int))]) := by kernel_rfl
theorem lsRet (l : List Int) (i : Int) : roundS Tryz.prog (lookG []) (orcA [(2, [(1, true)]), (4, [(3, true)])]) [] 10 lsTd (bodyAt Tryz.prog 128 2) (lsInv l z16 i) =
    some (Ex.ret, St.mk (slotsOf 28 [(1, sc (IV.ptr 0 0)), (2, sc (IV.ptr 1 0)), (3, sc (IV.i64 i))]) [(0, Blk.mk true [IV.vi 16 l]), (1, Blk.mk true [IV.vi 16 l])] 16, [decide (i < (15 : Int)) = true, (0 : Int) ≤ i, i.toNat < 16, 0 + i.toNat * 1 < 16, (!l.getD (0 + i.toNat * 1) (0 : Int) == (65535 : Int)) = true]) := by kernel_rfl
theorem lsExit (l : List Int) (i : Int) : roundS Tryz.prog (lookG []) (orcA [(2, [(1, false)])]) [] 10 lsTd (bodyAt Tryz.prog 128 2) (lsInv l z16 i) =
    some (Ex.exit 0, St.mk (slotsOf 28 [(1, sc (IV.ptr 0 0)), (2, sc (IV.ptr 1 0)), (3, sc (IV.i64 i))]) [(0, Blk.mk true [IV.vi 16 l]), (1, Blk.mk true [IV.vi 16 z16])] 16, [decide (i < (15 : Int)) = false]) := by kernel_rfl
theorem runLs0 (l : List Int) (i : Int) : fnS Tryz.prog (lookG []) (orcA []) [⟨2, lsTd, .ret, lsInv l l i⟩] 10 128 [.val true [.vi 16 l]] =
    some (AV.val true [IV.vi 16 l], [LoopTo Tryz.prog (bodyAt Tryz.prog 128 2) (St.mk (slotsOf 28 [(1, sc (IV.ptr 0 0)), (2, sc (IV.ptr 1 0)), (3, sc (IV.i64 (1 : Int)))]) [(0, Blk.mk true [IV.vi 16 l]), (1, Blk.mk true [IV.vi 16 [(0 : Int), (0 : Int), (0 : Int), (0 : Int), (0 : Int), (0 : Int), (0 : Int), (0 : Int), (0 : Int), (0 : Int), (0 : Int), (0 : Int), (0 : Int), (0 : Int), (0 : Int), (0 : Int)]])] 16) Ex.ret (St.mk (slotsOf 28 [(1, sc (IV.ptr 0 0)), (2, sc (IV.ptr 1 0)), (3, sc (IV.i64 i))]) [(0, Blk.mk true [IV.vi 16 l]), (1, Blk.mk true [IV.vi 16 l])] 16)]) := by kernel_rfl
theorem runLs1 (l : List Int) (i : Int) : fnS Tryz.prog (lookG []) (orcA [(6, [(2, true)])]) [⟨2, lsTd, .exit 0, lsInv l z16 i⟩] 10 128 [.val true [.vi 16 l]] =
    some (AV.val true [IV.vi 16 l], [LoopTo Tryz.prog (bodyAt Tryz.prog 128 2) (St.mk (slotsOf 28 [(1, sc (IV.ptr 0 0)), (2, sc (IV.ptr 1 0)), (3, sc (IV.i64 (1 : Int)))]) [(0, Blk.mk true [IV.vi 16 l]), (1, Blk.mk true [IV.vi 16 [(0 : Int), (0 : Int), (0 : Int), (0 : Int), (0 : Int), (0 : Int), (0 : Int), (0 : Int), (0 : Int), (0 : Int), (0 : Int), (0 : Int), (0 : Int), (0 : Int), (0 : Int), (0 : Int)]])] 16) (Ex.exit 0) (St.mk (slotsOf 28 [(1, sc (IV.ptr 0 0)), (2, sc (IV.ptr 1 0)), (3, sc (IV.i64 i))]) [(0, Blk.mk true [IV.vi 16 l]), (1, Blk.mk true [IV.vi 16 z16])] 16), (0 : Int) ≤ (15 : Int), 15 < 16, 15 < 16, (!l.getD 15 (0 : Int) == (32767 : Int)) = true]) := by kernel_rfl
theorem runLs2 (l : List Int) (i : Int) : fnS Tryz.prog (lookG []) (orcA [(6, [(2, false), (6, true)])]) [⟨2, lsTd, .exit 0, lsInv l z16 i⟩] 10 128 [.val true [.vi 16 l]] =
    some (AV.val true [IV.vi 16 l], [LoopTo Tryz.prog (bodyAt Tryz.prog 128 2) (St.mk (slotsOf 28 [(1, sc (IV.ptr 0 0)), (2, sc (IV.ptr 1 0)), (3, sc (IV.i64 (1 : Int)))]) [(0, Blk.mk true [IV.vi 16 l]), (1, Blk.mk true [IV.vi 16 [(0 : Int), (0 : Int), (0 : Int), (0 : Int), (0 : Int), (0 : Int), (0 : Int), (0 : Int), (0 : Int), (0 : Int), (0 : Int), (0 : Int), (0 : Int), (0 : Int), (0 : Int), (0 : Int)]])] 16) (Ex.exit 0) (St.mk (slotsOf 28 [(1, sc (IV.ptr 0 0)), (2, sc (IV.ptr 1 0)), (3, sc (IV.i64 i))]) [(0, Blk.mk true [IV.vi 16 l]), (1, Blk.mk true [IV.vi 16 z16])] 16), (0 : Int) ≤ (15 : Int), 15 < 16, 15 < 16, (!l.getD 15 (0 : Int) == (32767 : Int)) = false, (0 : Int) ≤ (0 : Int), 0 < 16, 0 < 16, decide (l.getD 0 (0 : Int) < (65517 : Int)) = true]) := by kernel_rfl
theorem runLs3 (l : List Int) (i : Int) : fnS Tryz.prog (lookG []) (orcA [(6, [(2, false), (6, false)])]) [⟨2, lsTd, .exit 0, lsInv l z16 i⟩] 10 128 [.val true [.vi 16 l]] =
    some (AV.val true [IV.vi 16 ([(0 : Int), (0 : Int), (0 : Int), (0 : Int), (0 : Int), (0 : Int), (0 : Int), (0 : Int), (0 : Int), (0 : Int), (0 : Int), (0 : Int), (0 : Int), (0 : Int), (0 : Int), (0 : Int)].set 0 (l.getD 0 (0 : Int) - (65517 : Int)))], [LoopTo Tryz.prog (bodyAt Tryz.prog 128 2) (St.mk (slotsOf 28 [(1, sc (IV.ptr 0 0)), (2, sc (IV.ptr 1 0)), (3, sc (IV.i64 (1 : Int)))]) [(0, Blk.mk true [IV.vi 16 l]), (1, Blk.mk true [IV.vi 16 [(0 : Int), (0 : Int), (0 : Int), (0 : Int), (0 : Int), (0 : Int), (0 : Int), (0 : Int), (0 : Int), (0 : Int), (0 : Int), (0 : Int), (0 : Int), (0 : Int), (0 : Int), (0 : Int)]])] 16) (Ex.exit 0) (St.mk (slotsOf 28 [(1, sc (IV.ptr 0 0)), (2, sc (IV.ptr 1 0)), (3, sc (IV.i64 i))]) [(0, Blk.mk true [IV.vi 16 l]), (1, Blk.mk true [IV.vi 16 z16])] 16), (0 : Int) ≤ (15 : Int), 15 < 16, 15 < 16, (!l.getD 15 (0 : Int) == (32767 : Int)) = false, (0 : Int) ≤ (0 : Int), 0 < 16, 0 < 16, decide (l.getD 0 (0 : Int) < (65517 : Int)) = false, (0 : Int) ≤ (0 : Int), 0 < 16, 0 < 16, inI64 (l.getD 0 (0 : Int) - (65517 : Int)), (0 : Int) ≤ (0 : Int), 0 < 16, 0 < 16]) := by kernel_rfl
theorem neqB {a b : Int} (h : a ≠ b) : (!(a == b)) = true := by simp [h]
theorem neqF {a b : Int} (h : a = b) : (!(a == b)) = false := by simp [h]
/-- The loop ends at the first digit that is not full, if there is one. -/
theorem lsLoopR (x n : Nat) (hn : 1 ≤ n) (h15 : n < 15) (hd : dig16 x n ≠ 65535) (hf : ∀ j, 1 ≤ j → j < n → dig16 x j = 65535) :
    LoopTo Tryz.prog (bodyAt Tryz.prog 128 2) (lsInv (digs16 x) z16 1) .ret (lsInv (digs16 x) (digs16 x) (n : Nat)) := by
  refine LoopTo.intro (α := Nat) gs0 fol (fun j => lsInv (digs16 x) z16 (j : Nat)) (fun j => 1 ≤ j ∧ j ≤ n) (fun j => n - j) (by simp) ?_ 1 (by simp; omega)
  rintro j ⟨h1, h2⟩
  have e : 0 + ((j : Nat) : Int).toNat * 1 = j := by omega
  have g := digs16_getD x j (by omega)
  by_cases he : j = n
  · subst he
    refine .inr ⟨_, _, _, _, _, lsRet _ _, ?_⟩
    rw [e, g]
    simp only [AllP]
    and_intros <;> first | exact True.intro | exact decide_eq_true (by omega) | exact neqB hd | omega
  · have r0 := lsRound (digs16 x) (j : Nat)
    rw [e, g, hf j h1 (by omega)] at r0
    refine .inl ⟨_, _, _, _, _, j + 1, r0, ?_, ⟨by omega, by omega⟩, by omega⟩
    simp only [AllP, inI64]
    and_intros <;> first | exact True.intro | exact decide_eq_true (by omega) | rfl | omega
theorem lsLoopE (x : Nat) (hf : ∀ j, 1 ≤ j → j < 15 → dig16 x j = 65535) :
    LoopTo Tryz.prog (bodyAt Tryz.prog 128 2) (lsInv (digs16 x) z16 1) (.exit 0) (lsInv (digs16 x) z16 ((15 : Nat) : Int)) := by
  refine LoopTo.intro (α := Nat) gs0 fol (fun j => lsInv (digs16 x) z16 (j : Nat)) (fun j => 1 ≤ j ∧ j ≤ 15) (fun j => 15 - j) (by simp) ?_ 1 (by simp)
  rintro j ⟨h1, h2⟩
  have e : 0 + ((j : Nat) : Int).toNat * 1 = j := by omega
  by_cases he : j = 15
  · subst he
    exact .inr ⟨_, _, _, _, _, lsExit _ _, rfl, trivial⟩
  · have g := digs16_getD x j (by omega)
    have r0 := lsRound (digs16 x) (j : Nat)
    rw [e, g, hf j h1 (by omega)] at r0
    refine .inl ⟨_, _, _, _, _, j + 1, r0, ?_, ⟨by omega, by omega⟩, by omega⟩
    simp only [AllP, inI64]
    and_intros <;> first | exact True.intro | exact decide_eq_true (by omega) | rfl | omega
theorem first_not (x : Nat) : ∀ n, (∀ j, 1 ≤ j → j < n → dig16 x j = 65535) ∨ ∃ m, 1 ≤ m ∧ m < n ∧ dig16 x m ≠ 65535 ∧ ∀ j, 1 ≤ j → j < m → dig16 x j = 65535
  | 0 => .inl fun j _ h => by omega
  | n + 1 => by
    rcases first_not x n with h | ⟨m, h1, h2, h3, h4⟩
    · by_cases hn : 1 ≤ n ∧ dig16 x n ≠ 65535
      · exact .inr ⟨n, hn.1, by omega, hn.2, h⟩
      · refine .inl fun j h1 h2 => ?_
        by_cases e : j = n
        · subst e
          by_cases q : dig16 x j = 65535
          · exact q
          · exact absurd ⟨h1, q⟩ hn
        · exact h j h1 (by omega)
    · exact .inr ⟨m, h1, by omega, h3, h4⟩
def vl (l : List Int) : Nat := (V l).toNat
def spLeast : List AV → Option (AV × List Prop)
  | [.val true [.vi 16 l]] => some (.val true [.vi 16 (digs16 (vl l % Pp))], [l = digs16 (vl l), vl l < p255])
  | _ => none
theorem ctLeast : CtSOk Tryz.prog 128 (.fn spLeast) := FnS_of_fnS gs0 fol fun ds r cs h hc => by
  unfold spLeast at h
  split at h
  case h_2 => simp at h
  rename_i l
  simp only [Option.some.injEq, Prod.mk.injEq] at h
  obtain ⟨rfl, rfl⟩ := h
  obtain ⟨hl, hx, _⟩ := hc
  generalize vl l = x at *
  subst hl
  have hm := mod_near hx
  have g15 := digs16_getD x 15 (by omega)
  have g0 := digs16_getD x 0 (by omega)
  have d0 := dig16_D x 0
  rcases first_not x 15 with hf | ⟨n, h1, h2, h3, h4⟩
  · have lp := lsLoopE x hf
    by_cases c15 : dig16 x 15 = 32767
    · by_cases c0 : dig16 x 0 < 65517
      · have : x < Pp := by
          rcases Nat.lt_or_ge x Pp with h | h
          · exact h
          · have := (near_digs h hx).2.2
            omega
        rw [if_pos this] at hm
        refine use_run (runLs2 (digs16 x) ((15 : Nat) : Int)) (by rw [hm]) ?_
        rw [g15, g0]
        simp only [AllP]
        and_intros <;> first | exact True.intro | with_reducible exact neqF c15 | with_reducible exact decide_eq_true c0 | omega | exact lp
      · obtain ⟨q1, q2⟩ := least_c hx hf c15 (by omega)
        rw [if_neg (by omega)] at hm
        refine use_run (runLs3 (digs16 x) ((15 : Nat) : Int)) (by rw [hm, g0, ← q2]; rfl) ?_
        rw [g15, g0]
        simp only [AllP, inI64]
        and_intros <;> first | exact True.intro | with_reducible exact neqF c15 | with_reducible exact decide_eq_false (by omega) | omega | exact lp
    · have : x < Pp := by
        rcases Nat.lt_or_ge x Pp with h | h
        · exact h
        · exact absurd (near_digs h hx).2.1 c15
      rw [if_pos this] at hm
      refine use_run (runLs1 (digs16 x) ((15 : Nat) : Int)) (by rw [hm]) ?_
      rw [g15]
      simp only [AllP]
      and_intros <;> first | exact True.intro | with_reducible exact neqB c15 | omega | exact lp
  · have lp := lsLoopR x n h1 h2 h3 h4
    have : x < Pp := by
      rcases Nat.lt_or_ge x Pp with h | h
      · exact h
      · exact absurd ((near_digs h hx).1 n h1 h2) h3
    rw [if_pos this] at hm
    exact use_run (runLs0 (digs16 x) (n : Nat)) (by rw [hm]) ⟨lp, trivial⟩
def tblS : List (FuncId × CtS) := [(128, .fn spLeast)]
theorem okS : TblOk Tryz.prog tblS := ⟨⟨ctLeast, by kernel_rfl⟩, trivial⟩
theorem gsS : GSound Tryz.prog (upG (lookG tblS)) := GSound_of_tbl okS
def stTd : List Nat := [1, 2, 3]
def stTdI : List Nat := [1, 2, 3, 4, 5]
def stTd2 : List Nat := [1, 2, 6]
def stTd2I : List Nat := [1, 2, 6, 7, 8]
def stInv (l : List Int) (n : Int) : St := ⟨slotsOf 73 [(1, sc (.ptr 0 0)), (2, sc (.ptr 1 0)), (3, sc (.i64 n))], [(0, ⟨true, [.vi 16 l]⟩), (1, ⟨true, [.vi 16 z16]⟩)], 16⟩
def stInvI (l : List Int) (n c i : Int) : St := ⟨slotsOf 73 [(1, sc (.ptr 0 0)), (2, sc (.ptr 1 0)), (3, sc (.i64 n)), (4, sc (.i64 c)), (5, sc (.i64 i))], [(0, ⟨true, [.vi 16 l]⟩), (1, ⟨true, [.vi 16 z16]⟩)], 16⟩
def stInv2 (l : List Int) (n : Int) : St := ⟨slotsOf 73 [(1, sc (.ptr 0 0)), (2, sc (.ptr 1 0)), (6, sc (.i64 n))], [(0, ⟨true, [.vi 16 l]⟩), (1, ⟨true, [.vi 16 z16]⟩)], 16⟩
def stInv2I (l : List Int) (n c i : Int) : St := ⟨slotsOf 73 [(1, sc (.ptr 0 0)), (2, sc (.ptr 1 0)), (6, sc (.i64 n)), (7, sc (.i64 c)), (8, sc (.i64 i))], [(0, ⟨true, [.vi 16 l]⟩), (1, ⟨true, [.vi 16 z16]⟩)], 16⟩
theorem stIn (l : List Int) (n c i : Int) : roundS Tryz.prog (lookG tblS) (orcA [(6, [(1, true)])]) [] 10 stTdI (bodyAt Tryz.prog 111 6) (stInvI l n c i) =
    some (Ex.normal, St.mk (slotsOf 73 [(1, sc (IV.ptr 0 0)), (2, sc (IV.ptr 1 0)), (3, sc (IV.i64 n)), (4, sc (IV.i64 (((l.set (0 + i.toNat * 1) (l.getD (0 + i.toNat * 1) (0 : Int) + c)).getD (0 + i.toNat * 1) (0 : Int)).tdiv (65536 : Int)))), (5, sc (IV.i64 (i + (1 : Int))))]) [(0, Blk.mk true [IV.vi 16 ((l.set (0 + i.toNat * 1) (l.getD (0 + i.toNat * 1) (0 : Int) + c)).set (0 + i.toNat * 1) (((l.set (0 + i.toNat * 1) (l.getD (0 + i.toNat * 1) (0 : Int) + c)).getD (0 + i.toNat * 1) (0 : Int)).tmod (65536 : Int)))]), (1, Blk.mk true [IV.vi 16 z16])] 16, [decide (i < (16 : Int)) = true, (0 : Int) ≤ i, i.toNat < 16, 0 + i.toNat * 1 < 16, inI64 (l.getD (0 + i.toNat * 1) (0 : Int) + c), (0 : Int) ≤ i, i.toNat < 16, 0 + i.toNat * 1 < 16, (0 : Int) ≤ i, i.toNat < 16, 0 + i.toNat * 1 < 16, (65536 : Int) ≠ (0 : Int), inI64 (((l.set (0 + i.toNat * 1) (l.getD (0 + i.toNat * 1) (0 : Int) + c)).getD (0 + i.toNat * 1) (0 : Int)).tdiv (65536 : Int)), (0 : Int) ≤ i, i.toNat < 16, 0 + i.toNat * 1 < 16, (65536 : Int) ≠ (0 : Int), (0 : Int) ≤ i, i.toNat < 16, 0 + i.toNat * 1 < 16, inI64 (i + (1 : Int))]) := by kernel_rfl
theorem stInEx (l : List Int) (n c i : Int) : roundS Tryz.prog (lookG tblS) (orcA [(6, [(1, false)])]) [] 10 stTdI (bodyAt Tryz.prog 111 6) (stInvI l n c i) =
    some (Ex.exit 2, St.mk (slotsOf 73 [(1, sc (IV.ptr 0 0)), (2, sc (IV.ptr 1 0)), (3, sc (IV.i64 n)), (4, sc (IV.i64 c)), (5, sc (IV.i64 i))]) [(0, Blk.mk true [IV.vi 16 l]), (1, Blk.mk true [IV.vi 16 z16])] 16, [decide (i < (16 : Int)) = false]) := by kernel_rfl
theorem stIn2 (l : List Int) (n c i : Int) : roundS Tryz.prog (lookG tblS) (orcA [(18, [(1, true)])]) [] 10 stTd2I (bodyAt Tryz.prog 111 18) (stInv2I l n c i) =
    some (Ex.normal, St.mk (slotsOf 73 [(1, sc (IV.ptr 0 0)), (2, sc (IV.ptr 1 0)), (6, sc (IV.i64 n)), (7, sc (IV.i64 (((l.set (0 + i.toNat * 1) (l.getD (0 + i.toNat * 1) (0 : Int) + c)).getD (0 + i.toNat * 1) (0 : Int)).tdiv (65536 : Int)))), (8, sc (IV.i64 (i + (1 : Int))))]) [(0, Blk.mk true [IV.vi 16 ((l.set (0 + i.toNat * 1) (l.getD (0 + i.toNat * 1) (0 : Int) + c)).set (0 + i.toNat * 1) (((l.set (0 + i.toNat * 1) (l.getD (0 + i.toNat * 1) (0 : Int) + c)).getD (0 + i.toNat * 1) (0 : Int)).tmod (65536 : Int)))]), (1, Blk.mk true [IV.vi 16 z16])] 16, [decide (i < (16 : Int)) = true, (0 : Int) ≤ i, i.toNat < 16, 0 + i.toNat * 1 < 16, inI64 (l.getD (0 + i.toNat * 1) (0 : Int) + c), (0 : Int) ≤ i, i.toNat < 16, 0 + i.toNat * 1 < 16, (0 : Int) ≤ i, i.toNat < 16, 0 + i.toNat * 1 < 16, (65536 : Int) ≠ (0 : Int), inI64 (((l.set (0 + i.toNat * 1) (l.getD (0 + i.toNat * 1) (0 : Int) + c)).getD (0 + i.toNat * 1) (0 : Int)).tdiv (65536 : Int)), (0 : Int) ≤ i, i.toNat < 16, 0 + i.toNat * 1 < 16, (65536 : Int) ≠ (0 : Int), (0 : Int) ≤ i, i.toNat < 16, 0 + i.toNat * 1 < 16, inI64 (i + (1 : Int))]) := by kernel_rfl
theorem stIn2Ex (l : List Int) (n c i : Int) : roundS Tryz.prog (lookG tblS) (orcA [(18, [(1, false)])]) [] 10 stTd2I (bodyAt Tryz.prog 111 18) (stInv2I l n c i) =
    some (Ex.exit 6, St.mk (slotsOf 73 [(1, sc (IV.ptr 0 0)), (2, sc (IV.ptr 1 0)), (6, sc (IV.i64 n)), (7, sc (IV.i64 c)), (8, sc (IV.i64 i))]) [(0, Blk.mk true [IV.vi 16 l]), (1, Blk.mk true [IV.vi 16 z16])] 16, [decide (i < (16 : Int)) = false]) := by kernel_rfl
theorem set_set (l : List Int) (i : Nat) (x y : Int) : (l.set i x).set i y = l.set i y := by simp
theorem getD_same (l : List Int) (i : Nat) (x : Int) (h : i < l.length) : (l.set i x).getD i 0 = x := by rw [getD_setI _ _ _ _ h, if_pos rfl]
theorem stLoopI (l : List Int) (c : Int) (h : Sd l) (hc : 0 ≤ c ∧ c < 35184372088832) (n : Int) :
    LoopTo Tryz.prog (bodyAt Tryz.prog 111 6) (stInvI l n c 0) (.exit 2) (stInvI (cpF l c 16).1 n (cpF l c 16).2 ((16 : Nat) : Int)) := by
  refine LoopTo.intro (α := Nat) gsS fol (fun j => stInvI (cpF l c j).1 n (cpF l c j).2 (j : Nat)) (fun j => j ≤ 16) (fun j => 16 - j) (by simp) ?_ 0 (by simp)
  intro j hj
  by_cases he : j = 16
  · subst he
    exact .inr ⟨_, _, _, _, _, stInEx _ _ _ _, rfl, trivial⟩
  · have ok := cp_ok h.1 h.2 hc j hj
    have hb := h.2 j (by omega)
    rw [← ok.high j (Nat.le_refl _)] at hb
    have r0 := stIn (cpF l c j).1 n (cpF l c j).2 (j : Nat)
    have e : 0 + ((j : Nat) : Int).toNat * 1 = j := by omega
    rw [e, set_set, getD_same _ _ _ (by rw [ok.len]; omega)] at r0
    have e4 : ((j : Nat) : Int) + 1 = ((j + 1 : Nat) : Int) := by omega
    simp only [e4] at r0
    have hk := ok.car
    refine .inl ⟨_, _, _, _, _, j + 1, r0, ?_, by omega, by omega⟩
    generalize (cpF l c j).1.getD j 0 = g at *
    generalize (cpF l c j).2 = k at *
    have ed : (g + k).tdiv 65536 = (g + k) / 65536 := Int.tdiv_eq_ediv_of_nonneg (by omega)
    clear r0 ok
    rw [ed]
    simp only [AllP, inI64]
    and_intros <;> first | exact True.intro | exact decide_eq_true (by omega) | omega
theorem stLoop2I (l : List Int) (c : Int) (h : Sd l) (hc : 0 ≤ c ∧ c < 35184372088832) (n : Int) :
    LoopTo Tryz.prog (bodyAt Tryz.prog 111 18) (stInv2I l n c 0) (.exit 6) (stInv2I (cpF l c 16).1 n (cpF l c 16).2 ((16 : Nat) : Int)) := by
  refine LoopTo.intro (α := Nat) gsS fol (fun j => stInv2I (cpF l c j).1 n (cpF l c j).2 (j : Nat)) (fun j => j ≤ 16) (fun j => 16 - j) (by simp) ?_ 0 (by simp)
  intro j hj
  by_cases he : j = 16
  · subst he
    exact .inr ⟨_, _, _, _, _, stIn2Ex _ _ _ _, rfl, trivial⟩
  · have ok := cp_ok h.1 h.2 hc j hj
    have hb := h.2 j (by omega)
    rw [← ok.high j (Nat.le_refl _)] at hb
    have r0 := stIn2 (cpF l c j).1 n (cpF l c j).2 (j : Nat)
    have e : 0 + ((j : Nat) : Int).toNat * 1 = j := by omega
    rw [e, set_set, getD_same _ _ _ (by rw [ok.len]; omega)] at r0
    have e4 : ((j : Nat) : Int) + 1 = ((j + 1 : Nat) : Int) := by omega
    simp only [e4] at r0
    have hk := ok.car
    refine .inl ⟨_, _, _, _, _, j + 1, r0, ?_, by omega, by omega⟩
    generalize (cpF l c j).1.getD j 0 = g at *
    generalize (cpF l c j).2 = k at *
    have ed : (g + k).tdiv 65536 = (g + k) / 65536 := Int.tdiv_eq_ediv_of_nonneg (by omega)
    clear r0 ok
    rw [ed]
    simp only [AllP, inI64]
    and_intros <;> first | exact True.intro | exact decide_eq_true (by omega) | omega
theorem stRound (l m : List Int) (n c i : Int) : roundS Tryz.prog (lookG tblS) (orcA [(2, [(1, true)])]) [⟨6, stTdI, .exit 2, stInvI m n c i⟩] 10 stTd (bodyAt Tryz.prog 111 2) (stInv l n) =
    some (Ex.normal, St.mk (slotsOf 73 [(1, sc (IV.ptr 0 0)), (2, sc (IV.ptr 1 0)), (3, sc (IV.i64 (n + (1 : Int))))]) [(0, Blk.mk true [IV.vi 16 (m.set 0 (m.getD 0 (0 : Int) + (38 : Int) * c))]), (1, Blk.mk true [IV.vi 16 z16])] 16, [decide (n < (5 : Int)) = true, LoopTo Tryz.prog (bodyAt Tryz.prog 111 6) (St.mk (slotsOf 73 [(1, sc (IV.ptr 0 0)), (2, sc (IV.ptr 1 0)), (3, sc (IV.i64 n)), (4, sc (IV.i64 (0 : Int))), (5, sc (IV.i64 (0 : Int)))]) [(0, Blk.mk true [IV.vi 16 l]), (1, Blk.mk true [IV.vi 16 z16])] 16) (Ex.exit 2) (St.mk (slotsOf 73 [(1, sc (IV.ptr 0 0)), (2, sc (IV.ptr 1 0)), (3, sc (IV.i64 n)), (4, sc (IV.i64 c)), (5, sc (IV.i64 i))]) [(0, Blk.mk true [IV.vi 16 m]), (1, Blk.mk true [IV.vi 16 z16])] 16), (0 : Int) ≤ (0 : Int), 0 < 16, 0 < 16, inI64 ((38 : Int) * c), inI64 (m.getD 0 (0 : Int) + (38 : Int) * c), (0 : Int) ≤ (0 : Int), 0 < 16, 0 < 16, inI64 (n + (1 : Int))]) := by kernel_rfl
theorem stEx (l : List Int) (n : Int) : roundS Tryz.prog (lookG tblS) (orcA [(2, [(1, false)])]) [] 10 stTd (bodyAt Tryz.prog 111 2) (stInv l n) =
    some (Ex.exit 0, St.mk (slotsOf 73 [(1, sc (IV.ptr 0 0)), (2, sc (IV.ptr 1 0)), (3, sc (IV.i64 n))]) [(0, Blk.mk true [IV.vi 16 l]), (1, Blk.mk true [IV.vi 16 z16])] 16, [decide (n < (5 : Int)) = false]) := by kernel_rfl
theorem stRound2 (l m : List Int) (n c i : Int) : roundS Tryz.prog (lookG tblS) (orcA [(13, [(1, true)])]) [⟨18, stTd2I, .exit 6, stInv2I m n c i⟩] 10 stTd2 (bodyAt Tryz.prog 111 13) (stInv2 l n) =
    some (Ex.normal, St.mk (slotsOf 73 [(1, sc (IV.ptr 0 0)), (2, sc (IV.ptr 1 0)), (6, sc (IV.i64 (n + (1 : Int))))]) [(0, Blk.mk true [IV.vi 16 m]), (1, Blk.mk true [IV.vi 16 z16])] 16, [decide (n < (2 : Int)) = true, (0 : Int) ≤ (15 : Int), 15 < 16, 15 < 16, (32768 : Int) ≠ (0 : Int), inI64 ((l.getD 15 (0 : Int)).tdiv (32768 : Int)), inI64 ((19 : Int) * (l.getD 15 (0 : Int)).tdiv (32768 : Int)), (0 : Int) ≤ (15 : Int), 15 < 16, 15 < 16, (32768 : Int) ≠ (0 : Int), (0 : Int) ≤ (15 : Int), 15 < 16, 15 < 16, LoopTo Tryz.prog (bodyAt Tryz.prog 111 18) (St.mk (slotsOf 73 [(1, sc (IV.ptr 0 0)), (2, sc (IV.ptr 1 0)), (6, sc (IV.i64 n)), (7, sc (IV.i64 ((19 : Int) * (l.getD 15 (0 : Int)).tdiv (32768 : Int)))), (8, sc (IV.i64 (0 : Int)))]) [(0, Blk.mk true [IV.vi 16 (l.set 15 ((l.getD 15 (0 : Int)).tmod (32768 : Int)))]), (1, Blk.mk true [IV.vi 16 z16])] 16) (Ex.exit 6) (St.mk (slotsOf 73 [(1, sc (IV.ptr 0 0)), (2, sc (IV.ptr 1 0)), (6, sc (IV.i64 n)), (7, sc (IV.i64 c)), (8, sc (IV.i64 i))]) [(0, Blk.mk true [IV.vi 16 m]), (1, Blk.mk true [IV.vi 16 z16])] 16), inI64 (n + (1 : Int))]) := by kernel_rfl
theorem stEx2 (l : List Int) (n : Int) : roundS Tryz.prog (lookG tblS) (orcA [(13, [(1, false)])]) [] 10 stTd2 (bodyAt Tryz.prog 111 13) (stInv2 l n) =
    some (Ex.exit 4, St.mk (slotsOf 73 [(1, sc (IV.ptr 0 0)), (2, sc (IV.ptr 1 0)), (6, sc (IV.i64 n))]) [(0, Blk.mk true [IV.vi 16 l]), (1, Blk.mk true [IV.vi 16 z16])] 16, [decide (n < (2 : Int)) = false]) := by kernel_rfl
theorem runSt (l m k : List Int) (n j : Int) : fnS Tryz.prog (lookG tblS) (orcA []) [⟨2, stTd, .exit 0, stInv m n⟩, ⟨13, stTd2, .exit 4, stInv2 k j⟩] 10 111 [.val true [.vi 16 l]] =
    some (AV.val true [IV.vi 16 (digs16 (vl k % Pp))], [LoopTo Tryz.prog (bodyAt Tryz.prog 111 2) (St.mk (slotsOf 73 [(1, sc (IV.ptr 0 0)), (2, sc (IV.ptr 1 0)), (3, sc (IV.i64 (0 : Int)))]) [(0, Blk.mk true [IV.vi 16 l]), (1, Blk.mk true [IV.vi 16 [(0 : Int), (0 : Int), (0 : Int), (0 : Int), (0 : Int), (0 : Int), (0 : Int), (0 : Int), (0 : Int), (0 : Int), (0 : Int), (0 : Int), (0 : Int), (0 : Int), (0 : Int), (0 : Int)]])] 16) (Ex.exit 0) (St.mk (slotsOf 73 [(1, sc (IV.ptr 0 0)), (2, sc (IV.ptr 1 0)), (3, sc (IV.i64 n))]) [(0, Blk.mk true [IV.vi 16 m]), (1, Blk.mk true [IV.vi 16 z16])] 16), LoopTo Tryz.prog (bodyAt Tryz.prog 111 13) (St.mk (slotsOf 73 [(1, sc (IV.ptr 0 0)), (2, sc (IV.ptr 1 0)), (6, sc (IV.i64 (0 : Int)))]) [(0, Blk.mk true [IV.vi 16 m]), (1, Blk.mk true [IV.vi 16 z16])] 16) (Ex.exit 4) (St.mk (slotsOf 73 [(1, sc (IV.ptr 0 0)), (2, sc (IV.ptr 1 0)), (6, sc (IV.i64 j))]) [(0, Blk.mk true [IV.vi 16 k]), (1, Blk.mk true [IV.vi 16 z16])] 16), k = digs16 (vl k), vl k < p255]) := by kernel_rfl
theorem stLoop (l : List Int) (h : Sd l) : LoopTo Tryz.prog (bodyAt Tryz.prog 111 2) (stInv l 0) (.exit 0) (stInv (fpN l 5) ((5 : Nat) : Int)) := by
  refine LoopTo.intro (α := Nat) gsS fol (fun j => stInv (fpN l j) (j : Nat)) (fun j => j ≤ 5) (fun j => 5 - j) (by simp) ?_ 0 (by simp)
  intro j hj
  by_cases he : j = 5
  · subst he
    exact .inr ⟨_, _, _, _, _, stEx _ _, rfl, trivial⟩
  · have hs := fpN_Sd h j
    have r0 := stRound (fpN l j) (cpF (fpN l j) 0 16).1 (j : Nat) (cpF (fpN l j) 0 16).2 ((16 : Nat) : Int)
    have e4 : ((j : Nat) : Int) + 1 = ((j + 1 : Nat) : Int) := by omega
    simp only [e4] at r0
    have lp := stLoopI (fpN l j) 0 hs (by omega) (j : Nat)
    have hs2 := (fpN_Sd h (j + 1)).2 0 (by omega)
    have ok := cp_ok hs.1 hs.2 (c := 0) (by omega) 16 (by omega)
    have hc := ok.car
    have h0 := ok.low 0 (by omega)
    have e5 : (fpN l (j + 1)) = (cpF (fpN l j) 0 16).1.set 0 ((cpF (fpN l j) 0 16).1.getD 0 0 + 38 * (cpF (fpN l j) 0 16).2) := rfl
    rw [← e5] at r0
    refine .inl ⟨_, _, _, _, _, j + 1, r0, ?_, by omega, by omega⟩
    clear r0 e5
    refine ⟨decide_eq_true (by omega), lp, ?_⟩
    clear lp ok
    generalize (cpF (fpN l j) 0 16).1.getD 0 0 = g at *
    generalize (cpF (fpN l j) 0 16).2 = k at *
    simp only [AllP, inI64]
    and_intros <;> first | exact True.intro | omega
def gN (x : Nat) : Nat → Nat
  | 0 => x
  | n + 1 => g19 (gN x n)
theorem gN_lt {x : Nat} (h : x < p256) : ∀ n, gN x n < p256
  | 0 => h
  | n + 1 => Nat.lt_trans (g19_lt (gN_lt h n)) (by decide)
theorem stLoop2 {x : Nat} (h : x < p256) : LoopTo Tryz.prog (bodyAt Tryz.prog 111 13) (stInv2 (digs16 x) 0) (.exit 4) (stInv2 (digs16 (g19 (g19 x))) ((2 : Nat) : Int)) := by
  refine LoopTo.intro (α := Nat) gsS fol (fun j => stInv2 (digs16 (gN x j)) (j : Nat)) (fun j => j ≤ 2) (fun j => 2 - j) (by simp) ?_ 0 (by simp)
  intro j hj
  by_cases he : j = 2
  · subst he
    exact .inr ⟨_, _, _, _, _, stEx2 _ _, rfl, trivial⟩
  · have hlt := gN_lt h j
    obtain ⟨h1, h2, h3⟩ := tp_pre hlt
    have hq : gN x j / p255 < 2 := (Nat.div_lt_iff_lt_mul (by decide)).2 (by rw [← p256_two]; exact hlt)
    have lp := stLoop2I (tp1 (digs16 (gN x j))) (tpC (digs16 (gN x j))) h1 (by rw [h2]; omega) (j : Nat)
    have et := tp_ok hlt
    unfold tp at et
    rw [et] at lp
    have r0 := stRound2 (digs16 (gN x j)) (digs16 (g19 (gN x j))) (j : Nat) (cpF (tp1 (digs16 (gN x j))) (tpC (digs16 (gN x j))) 16).2 ((16 : Nat) : Int)
    have e4 : ((j : Nat) : Int) + 1 = ((j + 1 : Nat) : Int) := by omega
    simp only [e4] at r0
    refine .inl ⟨_, _, _, _, _, j + 1, r0, ?_, by omega, by omega⟩
    clear r0
    have d15 := getD_mem (digs16_D (gN x j)) 15 (by rw [digs16_len]; omega)
    have ed : ((digs16 (gN x j)).getD 15 0).tdiv 32768 = (digs16 (gN x j)).getD 15 0 / 32768 := Int.tdiv_eq_ediv_of_nonneg d15.1
    refine ⟨decide_eq_true (by omega), by omega, by omega, by omega, by omega, ?_, ?_, by omega, by omega, by omega, by omega, by omega, by omega, by omega, lp, ?_, trivial⟩
    · rw [ed]; unfold inI64; omega
    · rw [ed]; unfold inI64; omega
    · unfold inI64; omega
def spSettled : List AV → Option (AV × List Prop)
  | [.val true [.vi 16 l]] => some (.val true [.vi 16 (digs16 (vl l % Pp))], [Sd l])
  | _ => none
theorem ctSettled : CtSOk Tryz.prog 111 (.fn spSettled) := FnS_of_fnS gsS fol fun ds r cs h hc => by
  unfold spSettled at h
  split at h
  case h_2 => simp at h
  rename_i l
  simp only [Option.some.injEq, Prod.mk.injEq] at h
  obtain ⟨rfl, rfl⟩ := h
  have hs := hc.1
  obtain ⟨x, n, hn, hx, hm, h5⟩ := fp5 hs
  have l1 := stLoop l hs
  rw [h5] at l1
  have l2 := stLoop2 hx
  have hlt := g19_two hx
  have hv : vl (digs16 (g19 (g19 x))) = g19 (g19 x) := by
    unfold vl
    rw [digs16_V, Nat.mod_eq_of_lt (Nat.lt_trans hlt (by decide))]
    omega
  have hv0 : vl l = n := by unfold vl; rw [hn]; omega
  refine use_run (runSt l (digs16 x) (digs16 (g19 (g19 x))) ((5 : Nat) : Int) ((2 : Nat) : Int)) ?_ ⟨l1, l2, ?_, ?_, trivial⟩
  · rw [hv, hv0, ← hm, g19_mod, g19_mod]
  · rw [hv]
  · rw [hv]; exact hlt
end Go.Proofs.YtlgiaglbdifkpaaGreatDoor
/- Contracts of the document's field: digits to the base 256 and to the base 65536. Own work. -/
namespace Go.Proofs.YtlgiaglbdifkpaaGreatDoor
open Go.Ev Go.Sp Go.RowKit
set_option maxRecDepth 100000
def prTd : List Nat := [0, 2, 3, 4]
def prInv (x : Nat) (l : List Int) (i : Int) : St := ⟨slotsOf 36 [(0, sc (.sl 0 0 (dg x).length)), (2, sc (.ptr 1 0)), (3, sc (.ptr 2 0)), (4, sc (.i64 i))], [(0, ⟨false, [.vd x]⟩), (1, ⟨true, [.vi 16 z16]⟩), (2, ⟨true, [.vi 16 l]⟩)], 16⟩
theorem prEven (x : Nat) (l : List Int) (i : Int) : roundS Tryz.prog (lookG []) (orcA [(3, [(3, true)]), (5, [(2, true)])]) [] 10 prTd (bodyAt Tryz.prog 106 3) (prInv x l i) =
    some (Ex.normal, St.mk (slotsOf 36 [(0, sc (IV.sl 0 0 (dg x).length)), (2, sc (IV.ptr 1 0)), (3, sc (IV.ptr 2 0)), (4, sc (IV.i64 (i + (1 : Int))))]) [(0, Blk.mk false [IV.vd x]), (1, Blk.mk true [IV.vi 16 z16]), (2, Blk.mk true [IV.vi 16 (l.set (0 + (i.tdiv (2 : Int)).toNat * 1) (l.getD (0 + (i.tdiv (2 : Int)).toNat * 1) (0 : Int) + (dg x).getD (0 + i.toNat * 1) (0 : Int)))])] 16, [decide (i < (↑(dg x).length : Int)) = true, (2 : Int) ≠ (0 : Int), (i.tmod (2 : Int) == (0 : Int)) = true, (2 : Int) ≠ (0 : Int), inI64 (i.tdiv (2 : Int)), (0 : Int) ≤ i.tdiv (2 : Int), (i.tdiv (2 : Int)).toNat < 16, 0 + (i.tdiv (2 : Int)).toNat * 1 < 16, (0 : Int) ≤ i, i.toNat < (dg x).length, 0 + i.toNat * 1 < (dg x).length, inI64 (l.getD (0 + (i.tdiv (2 : Int)).toNat * 1) (0 : Int) + (dg x).getD (0 + i.toNat * 1) (0 : Int)), (0 : Int) ≤ i.tdiv (2 : Int), (i.tdiv (2 : Int)).toNat < 16, 0 + (i.tdiv (2 : Int)).toNat * 1 < 16, inI64 (i + (1 : Int))]) := by kernel_rfl
theorem prOdd (x : Nat) (l : List Int) (i : Int) : roundS Tryz.prog (lookG []) (orcA [(3, [(3, true)]), (5, [(2, false)])]) [] 10 prTd (bodyAt Tryz.prog 106 3) (prInv x l i) =
    some (Ex.normal, St.mk (slotsOf 36 [(0, sc (IV.sl 0 0 (dg x).length)), (2, sc (IV.ptr 1 0)), (3, sc (IV.ptr 2 0)), (4, sc (IV.i64 (i + (1 : Int))))]) [(0, Blk.mk false [IV.vd x]), (1, Blk.mk true [IV.vi 16 z16]), (2, Blk.mk true [IV.vi 16 (l.set (0 + (i.tdiv (2 : Int)).toNat * 1) (l.getD (0 + (i.tdiv (2 : Int)).toNat * 1) (0 : Int) + (256 : Int) * (dg x).getD (0 + i.toNat * 1) (0 : Int)))])] 16, [decide (i < (↑(dg x).length : Int)) = true, (2 : Int) ≠ (0 : Int), (i.tmod (2 : Int) == (0 : Int)) = false, (2 : Int) ≠ (0 : Int), inI64 (i.tdiv (2 : Int)), (0 : Int) ≤ i.tdiv (2 : Int), (i.tdiv (2 : Int)).toNat < 16, 0 + (i.tdiv (2 : Int)).toNat * 1 < 16, (0 : Int) ≤ i, i.toNat < (dg x).length, 0 + i.toNat * 1 < (dg x).length, inI64 ((256 : Int) * (dg x).getD (0 + i.toNat * 1) (0 : Int)), inI64 (l.getD (0 + (i.tdiv (2 : Int)).toNat * 1) (0 : Int) + (256 : Int) * (dg x).getD (0 + i.toNat * 1) (0 : Int)), (0 : Int) ≤ i.tdiv (2 : Int), (i.tdiv (2 : Int)).toNat < 16, 0 + (i.tdiv (2 : Int)).toNat * 1 < 16, inI64 (i + (1 : Int))]) := by kernel_rfl
theorem prExit (x : Nat) (l : List Int) (i : Int) : roundS Tryz.prog (lookG []) (orcA [(3, [(3, false)])]) [] 10 prTd (bodyAt Tryz.prog 106 3) (prInv x l i) =
    some (Ex.exit 0, St.mk (slotsOf 36 [(0, sc (IV.sl 0 0 (dg x).length)), (2, sc (IV.ptr 1 0)), (3, sc (IV.ptr 2 0)), (4, sc (IV.i64 i))]) [(0, Blk.mk false [IV.vd x]), (1, Blk.mk true [IV.vi 16 z16]), (2, Blk.mk true [IV.vi 16 l])] 16, [decide (i < (↑(dg x).length : Int)) = false]) := by kernel_rfl
theorem runPairs (x : Nat) (l : List Int) (i : Int) : fnS Tryz.prog (lookG []) (orcA []) [⟨3, prTd, .exit 0, prInv x l i⟩] 10 106 [sc (.dN x)] =
    some (AV.val true [IV.vi 16 l], [LoopTo Tryz.prog (bodyAt Tryz.prog 106 3) (St.mk (slotsOf 36 [(0, sc (IV.sl 0 0 (dg x).length)), (2, sc (IV.ptr 1 0)), (3, sc (IV.ptr 2 0)), (4, sc (IV.i64 (0 : Int)))]) [(0, Blk.mk false [IV.vd x]), (1, Blk.mk true [IV.vi 16 [(0 : Int), (0 : Int), (0 : Int), (0 : Int), (0 : Int), (0 : Int), (0 : Int), (0 : Int), (0 : Int), (0 : Int), (0 : Int), (0 : Int), (0 : Int), (0 : Int), (0 : Int), (0 : Int)]]), (2, Blk.mk true [IV.vi 16 [(0 : Int), (0 : Int), (0 : Int), (0 : Int), (0 : Int), (0 : Int), (0 : Int), (0 : Int), (0 : Int), (0 : Int), (0 : Int), (0 : Int), (0 : Int), (0 : Int), (0 : Int), (0 : Int)]])] 16) (Ex.exit 0) (St.mk (slotsOf 36 [(0, sc (IV.sl 0 0 (dg x).length)), (2, sc (IV.ptr 1 0)), (3, sc (IV.ptr 2 0)), (4, sc (IV.i64 i))]) [(0, Blk.mk false [IV.vd x]), (1, Blk.mk true [IV.vi 16 z16]), (2, Blk.mk true [IV.vi 16 l])] 16)]) := by kernel_rfl
def byTd : List Nat := [1, 3, 4]
def byInv (x : Nat) (o : List Int) (i : Int) : St := ⟨slotsOf 22 [(1, sc (.ptr 0 0)), (3, sc (.sl 1 0 o.length)), (4, sc (.i64 i))], [(0, ⟨true, [.fe x]⟩), (1, ⟨true, [.vi o.length o]⟩)], 16⟩
theorem byRound (x : Nat) (o : List Int) (i : Int) : roundS Tryz.prog (lookG tblAt) (orcA [(3, [(1, true)])]) [] 10 byTd (bodyAt Tryz.prog 115 3) (byInv x o i) =
    some (Ex.normal, St.mk (slotsOf 22 [(1, sc (IV.ptr 0 0)), (3, sc (IV.sl 1 0 (o.length + 2))), (4, sc (IV.i64 (i + (1 : Int))))]) [(0, Blk.mk true [IV.fe x]), (1, Blk.mk true [IV.vi (o ++ ((List.replicate 2 (0 : Int)).set 0 ((dig16 x (0 + i.toNat * 1)).tmod (256 : Int))).set 1 ((dig16 x (0 + i.toNat * 1)).tdiv (256 : Int))).length (o ++ ((List.replicate 2 (0 : Int)).set 0 ((dig16 x (0 + i.toNat * 1)).tmod (256 : Int))).set 1 ((dig16 x (0 + i.toNat * 1)).tdiv (256 : Int)))])] 16, [decide (i < (16 : Int)) = true, (0 : Int) ≤ i, i.toNat < 16, 0 + i.toNat * 1 < 16, (256 : Int) ≠ (0 : Int), (0 : Int) ≤ i, i.toNat < 16, 0 + i.toNat * 1 < 16, (256 : Int) ≠ (0 : Int), inI64 ((dig16 x (0 + i.toNat * 1)).tdiv (256 : Int)), 2 = 2, o.length = o.length, (o.length + 2) * 8 ≤ 140737488355328 ∧ o.length + 2 ≤ 9223372036854775807, inI64 (i + (1 : Int))]) := by kernel_rfl
theorem byExit (x : Nat) (o : List Int) (i : Int) : roundS Tryz.prog (lookG tblAt) (orcA [(3, [(1, false)])]) [] 10 byTd (bodyAt Tryz.prog 115 3) (byInv x o i) =
    some (Ex.exit 0, St.mk (slotsOf 22 [(1, sc (IV.ptr 0 0)), (3, sc (IV.sl 1 0 o.length)), (4, sc (IV.i64 i))]) [(0, Blk.mk true [IV.fe x]), (1, Blk.mk true [IV.vi o.length o])] 16, [decide (i < (16 : Int)) = false]) := by kernel_rfl
theorem runBytesF (x : Nat) (o : List Int) (i : Int) : fnS Tryz.prog (lookG tblAt) (orcA []) [⟨3, byTd, .exit 0, byInv x o i⟩] 10 115 [.val true [.fe x]] =
    some (sc (IV.dI (cutL o 0 (trimFrom o o.length) o.length)), [LoopTo Tryz.prog (bodyAt Tryz.prog 115 3) (St.mk (slotsOf 22 [(1, sc (IV.ptr 0 0)), (3, sc (IV.sl 1 0 0)), (4, sc (IV.i64 (0 : Int)))]) [(0, Blk.mk true [IV.fe x]), (1, Blk.mk true [IV.vi 0 []])] 16) (Ex.exit 0) (St.mk (slotsOf 22 [(1, sc (IV.ptr 0 0)), (3, sc (IV.sl 1 0 o.length)), (4, sc (IV.i64 i))]) [(0, Blk.mk true [IV.fe x]), (1, Blk.mk true [IV.vi o.length o])] 16), o.length = o.length, o.length ≤ 1000000000, trimFrom o o.length ≤ o.length, 0 + trimFrom o o.length ≤ o.length]) := by kernel_rfl
def PpL : List Int := [237, 255, 255, 255, 255, 255, 255, 255, 255, 255, 255, 255, 255, 255, 255, 255, 255, 255, 255, 255, 255, 255, 255, 255, 255, 255, 255, 255, 255, 255, 255, 127]
theorem runPrime : ansOf (fnS Tryz.prog (lookG []) orc0 [] 40 105 []) = some (sc (.dI PpL)) := by kernel_rfl
theorem runPrimeC : acsOf (fnS Tryz.prog (lookG []) orc0 [] 40 105 []) = [32 ≤ 32] := by kernel_rfl
theorem tdiv2 (i : Nat) : ((i : Nat) : Int).tdiv (2 : Int) = ((i / 2 : Nat) : Int) := by
  rw [show (2 : Int) = ((2 : Nat) : Int) from rfl, ← Int.ofNat_tdiv]
theorem tmod2 (i : Nat) : ((i : Nat) : Int).tmod (2 : Int) = ((i % 2 : Nat) : Int) := by
  rw [show (2 : Int) = ((2 : Nat) : Int) from rfl, ← Int.ofNat_tmod]
theorem pow_even (k : Nat) : 256 ^ (2 * k) = 65536 ^ k := by rw [Nat.pow_mul]
theorem dg_getD (x i : Nat) : (dg x).getD i 0 = ((dig x i : Nat) : Int) := by
  have := getD_dig (dg_D x) i
  rw [nv_dg] at this
  exact this
theorem low_lt (x i : Nat) (hi : i ≤ 32) : x % 256 ^ i < p256 := by
  refine Nat.lt_of_lt_of_le (Nat.mod_lt _ (Nat.pow_pos (by omega))) ?_
  rw [show p256 = 256 ^ 32 by decide]
  exact Nat.pow_le_pow_right (by omega) hi
/-- One digit more. -/
theorem pr_step (x i k : Nat) (c : Nat) (hi : i < 32) (hk : k = i / 2) (hc : c = if i % 2 = 0 then 1 else 256) :
    (digs16 (x % 256 ^ i)).set k ((digs16 (x % 256 ^ i)).getD k 0 + (c : Int) * ((dig x i : Nat) : Int)) = digs16 (x % 256 ^ (i + 1)) := by
  have hk16 : k < 16 := by omega
  have hl := digs16_len (x % 256 ^ i)
  have hd := digs16_D (x % 256 ^ i)
  have hb := low_lt x i (by omega)
  have hdig := dig_lt x i
  have hg : (digs16 (x % 256 ^ i)).getD k 0 = if i % 2 = 0 then 0 else ((x % 256 ^ i / 65536 ^ k : Nat) : Int) := by
    rw [digs16_getD _ _ hk16]
    unfold dig16
    by_cases h2 : i % 2 = 0
    · have e : i = 2 * k := by omega
      rw [if_pos h2, e, pow_even, Nat.div_eq_of_lt (Nat.mod_lt _ (Nat.pow_pos (by omega)))]
      rfl
    · have e : i = 2 * k + 1 := by omega
      rw [if_neg h2, Nat.mod_eq_of_lt]
      have h3 : x % 256 ^ i < 65536 ^ k * 256 := by rw [← pow_even, e, ← Nat.pow_succ]; exact Nat.mod_lt _ (Nat.pow_pos (by omega))
      rw [Nat.mul_comm] at h3
      have := (Nat.div_lt_iff_lt_mul (Nat.pow_pos (n := k) (show 0 < 65536 by omega))).2 h3
      omega
  have hglt : 0 ≤ (digs16 (x % 256 ^ i)).getD k 0 ∧ (digs16 (x % 256 ^ i)).getD k 0 + (c : Int) * ((dig x i : Nat) : Int) < 65536 := by
    have h0 := (getD_mem hd k (by rw [hl]; exact hk16)).1
    refine ⟨h0, ?_⟩
    by_cases h2 : i % 2 = 0
    · rw [hg, if_pos h2, hc, if_pos h2]; omega
    · have e : i = 2 * k + 1 := by omega
      have h3 : x % 256 ^ i < 65536 ^ k * 256 := by rw [← pow_even, e, ← Nat.pow_succ]; exact Nat.mod_lt _ (Nat.pow_pos (by omega))
      rw [Nat.mul_comm] at h3
      have h4 := (Nat.div_lt_iff_lt_mul (Nat.pow_pos (n := k) (show 0 < 65536 by omega))).2 h3
      rw [hg, if_neg h2, hc, if_neg h2]
      generalize x % 256 ^ i / 65536 ^ k = q at *
      omega
  refine eq_digs16 (mem_getD fun j hj => ?_) (by rw [List.length_set, hl]) (low_lt x (i + 1) (by omega)) ?_
  · rw [List.length_set, hl] at hj
    rw [getD_setI _ _ _ _ (by rw [hl]; exact hk16)]
    split
    · have : 0 ≤ (c : Int) * ((dig x i : Nat) : Int) := Int.mul_nonneg (by omega) (by omega)
      omega
    · exact getD_mem hd j (by rw [hl]; exact hj)
  · rw [V_set _ (by rw [hl]; exact hk16), digs16_V, Nat.mod_eq_of_lt hb, mod_succ]
    have hp : 65536 ^ k * c = 256 ^ i := by
      rw [← pow_even, hc]
      by_cases h2 : i % 2 = 0
      · rw [if_pos h2, Nat.mul_one, show 2 * k = i by omega]
      · rw [if_neg h2, ← Nat.pow_succ]
        congr 1
        omega
    have e : (digs16 (x % 256 ^ i)).getD k 0 + (c : Int) * ((dig x i : Nat) : Int) - (digs16 (x % 256 ^ i)).getD k 0 = (c : Int) * ((dig x i : Nat) : Int) := by omega
    rw [e, ← hp, Int.natCast_add, Int.natCast_mul, Int.natCast_mul, Int.natCast_pow, Int.mul_assoc]
    rfl
theorem prLoop (x : Nat) (hx : x < p256) : LoopTo Tryz.prog (bodyAt Tryz.prog 106 3) (prInv x z16 0) (.exit 0) (prInv x (digs16 x) ((dg x).length : Nat)) := by
  have hlen : (dg x).length ≤ 32 := dg_length_le (by rw [← show p256 = 256 ^ 32 by decide]; exact hx)
  have hz : prInv x z16 0 = prInv x (digs16 (x % 256 ^ 0)) ((0 : Nat) : Int) := by
    rw [Nat.pow_zero, Nat.mod_one]; rfl
  have he0 : digs16 x = digs16 (x % 256 ^ (dg x).length) := by rw [Nat.mod_eq_of_lt (lt_of_dg x)]
  rw [hz, he0]
  refine LoopTo.intro (α := Nat) gs0 fol (fun i => prInv x (digs16 (x % 256 ^ i)) (i : Nat)) (fun i => i ≤ (dg x).length) (fun i => (dg x).length - i) (by simp) ?_ 0 (by simp)
  intro i hi
  by_cases he : i = (dg x).length
  · subst he
    exact .inr ⟨_, _, _, _, _, prExit _ _ _, ⟨decide_eq_false (by omega), trivial⟩⟩
  · have hb := getD_mem (digs16_D (x % 256 ^ i)) (i / 2) (by rw [digs16_len]; omega)
    have hdig := dig_lt x i
    have e1 : 0 + ((i / 2 : Nat) : Int).toNat * 1 = i / 2 := by omega
    have e2 : 0 + ((i : Nat) : Int).toNat * 1 = i := by omega
    have e4 : ((i : Nat) : Int) + 1 = ((i + 1 : Nat) : Int) := by omega
    by_cases h2 : i % 2 = 0
    · have r0 := prEven x (digs16 (x % 256 ^ i)) (i : Nat)
      have st := pr_step x i (i / 2) 1 (by omega) rfl (by rw [if_pos h2])
      rw [show ((1 : Nat) : Int) * ((dig x i : Nat) : Int) = ((dig x i : Nat) : Int) by omega] at st
      rw [tdiv2, tmod2, e1, e2, dg_getD, st] at r0
      simp only [e4] at r0
      refine .inl ⟨_, _, _, _, _, i + 1, r0, ?_, by omega, by omega⟩
      clear r0 st
      generalize (digs16 (x % 256 ^ i)).getD (i / 2) 0 = g at *
      simp only [AllP, inI64]
      and_intros <;> first | exact True.intro | exact decide_eq_true (by omega) | omega | (rw [beq_iff_eq]; omega)
    · have r0 := prOdd x (digs16 (x % 256 ^ i)) (i : Nat)
      have st := pr_step x i (i / 2) 256 (by omega) rfl (by rw [if_neg h2])
      rw [show ((256 : Nat) : Int) = 256 from rfl] at st
      rw [tdiv2, tmod2, e1, e2, dg_getD, st] at r0
      simp only [e4] at r0
      refine .inl ⟨_, _, _, _, _, i + 1, r0, ?_, by omega, by omega⟩
      clear r0 st
      generalize (digs16 (x % 256 ^ i)).getD (i / 2) 0 = g at *
      simp only [AllP, inI64]
      and_intros <;> first | exact True.intro | exact decide_eq_true (by omega) | omega | (rw [beq_eq_false_iff_ne]; omega)
def spPairsL : List AV → Option (AV × List Prop)
  | [.val false [.dN x]] => some (.val true [.vi 16 (digs16 x)], [x < p256])
  | _ => none
theorem ctPairsL : CtSOk Tryz.prog 106 (.fn spPairsL) := FnS_of_fnS gs0 fol fun ds r cs h hc => by
  unfold spPairsL at h
  split at h
  case h_2 => simp at h
  rename_i x
  simp only [Option.some.injEq, Prod.mk.injEq] at h
  obtain ⟨rfl, rfl⟩ := h
  exact use_run (runPairs x (digs16 x) ((dg x).length : Nat)) rfl ⟨prLoop x hc.1, trivial⟩
def spPairs : List AV → Option (AV × List Prop)
  | [.val false [.dN x]] => some (.val true [.fe x], [x < p256])
  | _ => none
theorem ctPairs : CtSOk Tryz.prog 106 (.fn spPairs) := FnS_fe ctPairsL fun ds r cs h hc => by
  unfold spPairs at h
  split at h
  case h_2 => simp at h
  simp only [Option.some.injEq, Prod.mk.injEq] at h
  obtain ⟨rfl, rfl⟩ := h
  exact ⟨_, rfl, hc⟩
theorem dl_two (x i : Nat) : dl x (2 * i) ++ ((List.replicate 2 (0 : Int)).set 0 ((dig16 x i).tmod (256 : Int))).set 1 ((dig16 x i).tdiv (256 : Int)) = dl x (2 * (i + 1)) := by
  have h := Nat.mod_lt (x / 65536 ^ i) (show 0 < 65536 by omega)
  have e1 : (dig16 x i).tmod 256 = ((dig x (2 * i) : Nat) : Int) := by
    unfold dig16
    rw [tmod_cast]
    unfold dig
    rw [pow_even]
    congr 1
    omega
  have e2 : (dig16 x i).tdiv 256 = ((dig x (2 * i + 1) : Nat) : Int) := by
    unfold dig16
    rw [tdiv_cast]
    unfold dig
    rw [Nat.pow_succ, pow_even, ← Nat.div_div_eq_div_mul]
    congr 1
    omega
  rw [e1, e2, show 2 * (i + 1) = 2 * i + 1 + 1 by omega]
  show _ = (dl x (2 * i) ++ [_]) ++ [_]
  rw [List.append_assoc]
  rfl
theorem byLoop (x : Nat) : LoopTo Tryz.prog (bodyAt Tryz.prog 115 3) (byInv x [] 0) (.exit 0) (byInv x (dl x 32) ((16 : Nat) : Int)) := by
  refine LoopTo.intro (α := Nat) gsAt fol (fun i => byInv x (dl x (2 * i)) (i : Nat)) (fun i => i ≤ 16) (fun i => 16 - i) (by simp) ?_ 0 (by simp)
  intro i hi
  by_cases he : i = 16
  · subst he
    exact .inr ⟨_, _, _, _, _, byExit _ _ _, rfl, trivial⟩
  · have r0 := byRound x (dl x (2 * i)) (i : Nat)
    have e2 : 0 + ((i : Nat) : Int).toNat * 1 = i := by omega
    have e4 : ((i : Nat) : Int) + 1 = ((i + 1 : Nat) : Int) := by omega
    have hl := (dl_ok x (2 * i)).1
    have hl2 := (dl_ok x (2 * (i + 1))).1
    rw [e2, dl_two, e4, show (dl x (2 * i)).length + 2 = (dl x (2 * (i + 1))).length by omega] at r0
    have hd := dig16_D x i
    have ed : (dig16 x i).tdiv 256 = dig16 x i / 256 := Int.tdiv_eq_ediv_of_nonneg hd.1
    refine .inl ⟨_, _, _, _, _, i + 1, r0, ?_, by omega, by omega⟩
    rw [ed]
    clear r0
    simp only [AllP, inI64]
    and_intros <;> first | exact True.intro | exact decide_eq_true (by omega) | omega
def spBytesL : List AV → Option (AV × List Prop)
  | [.val true [.fe x]] => some (sc (.dI (dg x)), [x < p256])
  | _ => none
theorem ctBytesL : CtSOk Tryz.prog 115 (.fn spBytesL) := FnS_of_fnS gsAt fol fun ds r cs h hc => by
  unfold spBytesL at h
  split at h
  case h_2 => simp at h
  rename_i x
  simp only [Option.some.injEq, Prod.mk.injEq] at h
  obtain ⟨rfl, rfl⟩ := h
  have hx := hc.1
  obtain ⟨l1, l2, l3⟩ := dl_ok x 32
  have tr : cutL (dl x 32) 0 (trimFrom (dl x 32) (dl x 32).length) (dl x 32).length = dg x := by
    rw [trim_dg l2, l3, ← show p256 = 256 ^ 32 by decide, Nat.mod_eq_of_lt hx]
  have tl : trimFrom (dl x 32) (dl x 32).length ≤ (dl x 32).length := trimFrom_le _ _
  refine use_run (runBytesF x (dl x 32) ((16 : Nat) : Int)) (by rw [tr]) ⟨byLoop x, rfl, by omega, tl, by omega, trivial⟩
def spBytesF : List AV → Option (AV × List Prop)
  | [.val true [.fe x]] => some (sc (.dN x), [x < p256])
  | _ => none
theorem ctBytesF : CtSOk Tryz.prog 115 (.fn spBytesF) := FnS_num ctBytesL fun ds r cs h hc => by
  unfold spBytesF at h
  split at h
  case h_2 => simp at h
  simp only [Option.some.injEq, Prod.mk.injEq] at h
  obtain ⟨rfl, rfl⟩ := h
  exact ⟨_, rfl, hc⟩
theorem PpL_dg : PpL = dg Pp := by
  have h1 : IsD PpL := by
    intro d hd
    have : PpL.all (fun d => decide (0 ≤ d) && decide (d < 256)) = true := by decide
    have := List.all_eq_true.1 this d hd
    simpa using this
  have h2 : nv PpL = Pp := by decide
  rw [← h2]
  exact eq_dg h1 (.inr (by decide))
def spPrL : List AV → Option (AV × List Prop)
  | [] => some (sc (.dI PpL), [])
  | _ => none
def spPr : List AV → Option (AV × List Prop)
  | [] => some (sc (.dN Pp), [])
  | _ => none
theorem ctPrL : CtSOk Tryz.prog 105 (.fn spPrL) := FnS_of_fnS gs0 fol fun ds r cs h hc => by
  unfold spPrL at h
  split at h
  case h_2 => simp at h
  simp only [Option.some.injEq, Prod.mk.injEq] at h
  obtain ⟨rfl, rfl⟩ := h
  exact use_run (ans_eq runPrime runPrimeC) rfl ⟨by omega, trivial⟩
theorem ctPr : CtSOk Tryz.prog 105 (.fn spPr) := FnS_num ctPrL fun ds r cs h hc => by
  unfold spPr at h
  split at h
  case h_2 => simp at h
  simp only [Option.some.injEq, Prod.mk.injEq] at h
  obtain ⟨rfl, rfl⟩ := h
  exact ⟨[], by rw [show ([] : List AV).map exA = [] from rfl, spPrL, PpL_dg]; rfl, trivial⟩
end Go.Proofs.YtlgiaglbdifkpaaGreatDoor
