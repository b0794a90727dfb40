/- Products, digit by digit to the base 2^32, plainly. Own work; no program in sight. -/
import Derived.Test.YtbhnegdekeojkaaSpC
namespace Go.Sp
open Go.Ev (N4)

/-- Sixteen words. -/
structure Q where
  a : N4
  b : N4
  c : N4
  d : N4
def Q.zero : Q := ⟨⟨0#64, 0#64, 0#64, 0#64⟩, ⟨0#64, 0#64, 0#64, 0#64⟩, ⟨0#64, 0#64, 0#64, 0#64⟩, ⟨0#64, 0#64, 0#64, 0#64⟩⟩
def g16 (q : Q) (j : Nat) : BitVec 64 :=
  match j / 4 with
  | 0 => q.a.get (j % 4)
  | 1 => q.b.get (j % 4)
  | 2 => q.c.get (j % 4)
  | _ => q.d.get (j % 4)
def s16 (q : Q) (j : Nat) (x : BitVec 64) : Q :=
  match j / 4 with
  | 0 => { q with a := q.a.set (j % 4) x }
  | 1 => { q with b := q.b.set (j % 4) x }
  | 2 => { q with c := q.c.set (j % 4) x }
  | _ => { q with d := q.d.set (j % 4) x }

def mulT (x y d c : BitVec 64) : BitVec 64 := x * y + d + c
/-- k steps of a row. -/
def inner (x : BitVec 64) (y : Nat → BitVec 64) (i : Nat) (q : Q) : Nat → Q × BitVec 64
  | 0 => (q, 0#64)
  | k + 1 => let r := inner x y i q k; let t := mulT x (y k) (g16 r.1 (i + k)) r.2; (s16 r.1 (i + k) (t &&& 4294967295#64), t >>> 32)
def rowQ (x : BitVec 64) (y : Nat → BitVec 64) (i : Nat) (q : Q) : Q := let r := inner x y i q 8; s16 r.1 (i + 8) r.2

theorem n4_get_set (a : N4) (i j : Nat) (x : BitVec 64) (hi : i < 4) (hj : j < 4) : (a.set i x).get j = if i = j then x else a.get j := by
  match i, j, hi, hj with
  | 0, 0, _, _ => rfl
  | 0, 1, _, _ => rfl
  | 0, 2, _, _ => rfl
  | 0, 3, _, _ => rfl
  | 1, 0, _, _ => rfl
  | 1, 1, _, _ => rfl
  | 1, 2, _, _ => rfl
  | 1, 3, _, _ => rfl
  | 2, 0, _, _ => rfl
  | 2, 1, _, _ => rfl
  | 2, 2, _, _ => rfl
  | 2, 3, _, _ => rfl
  | 3, 0, _, _ => rfl
  | 3, 1, _, _ => rfl
  | 3, 2, _, _ => rfl
  | 3, 3, _, _ => rfl

theorem g16_s16 (q : Q) (i j : Nat) (x : BitVec 64) (hi : i < 16) (hj : j < 16) : g16 (s16 q i x) j = if i = j then x else g16 q j := by
  have key : ∀ (m n p r : Nat), m < 4 → n < 4 → p < 4 → r < 4 → i = 4 * m + p → j = 4 * n + r → g16 (s16 q i x) j = if i = j then x else g16 q j := by
    intro m n p r hm hn hp hr e1 e2
    have d1 : i / 4 = m := by omega
    have d2 : j / 4 = n := by omega
    have m1 : i % 4 = p := by omega
    have m2 : j % 4 = r := by omega
    have hs : (i = j) ↔ (m = n ∧ p = r) := by omega
    simp only [g16, s16, d1, d2, m1, m2, hs]
    have hg := fun a : N4 => n4_get_set a p r x hp hr
    match m, n, hm, hn with
    | 0, 0, _, _ => simp [hg]
    | 0, 1, _, _ => simp
    | 0, 2, _, _ => simp
    | 0, 3, _, _ => simp
    | 1, 0, _, _ => simp
    | 1, 1, _, _ => simp [hg]
    | 1, 2, _, _ => simp
    | 1, 3, _, _ => simp
    | 2, 0, _, _ => simp
    | 2, 1, _, _ => simp
    | 2, 2, _, _ => simp [hg]
    | 2, 3, _, _ => simp
    | 3, 0, _, _ => simp
    | 3, 1, _, _ => simp
    | 3, 2, _, _ => simp
    | 3, 3, _, _ => simp [hg]
  exact key (i / 4) (j / 4) (i % 4) (j % 4) (by omega) (by omega) (by omega) (by omega) (by omega) (by omega)

/-- The number that digits to the base 2^32 write. -/
def sumD (B : Nat) (f : Nat → Nat) : Nat → Nat
  | 0 => 0
  | n + 1 => sumD B f n + f n * B ^ n
theorem sumD_congr {B : Nat} {f g : Nat → Nat} : ∀ n, (∀ j, j < n → f j = g j) → sumD B f n = sumD B g n
  | 0, _ => rfl
  | n + 1, h => by simp only [sumD]; rw [sumD_congr n (fun j hj => h j (by omega)), h n (by omega)]
theorem sumD_set {B : Nat} {f g : Nat → Nat} {i : Nat} : ∀ n, i < n → (∀ j, j ≠ i → j < n → g j = f j) → sumD B g n + f i * B ^ i = sumD B f n + g i * B ^ i
  | 0, h, _ => by omega
  | n + 1, h, hf => by
    simp only [sumD]
    by_cases e : i = n
    · subst e
      rw [sumD_congr i (B := B) (f := g) (g := f) (fun j hj => hf j (by omega) (by omega))]
      omega
    · have ih := sumD_set (B := B) (f := f) (g := g) n (by omega) (fun j hj hjn => hf j hj (by omega))
      rw [hf n (fun q => e q.symm) (by omega)]
      omega
def valQ (B : Nat) (q : Q) : Nat := sumD B (fun j => (g16 q j).toNat) 16
theorem valQ_set (B : Nat) (q : Q) (i : Nat) (x : BitVec 64) (hi : i < 16) : valQ B (s16 q i x) + (g16 q i).toNat * B ^ i = valQ B q + x.toNat * B ^ i := by
  have hne : ∀ j, j ≠ i → j < 16 → (g16 (s16 q i x) j).toNat = (g16 q j).toNat := fun j hj hjn => by rw [g16_s16 q i j x hi hjn, if_neg (Ne.symm hj)]
  have h := sumD_set (B := B) (f := fun j => (g16 q j).toNat) (g := fun j => (g16 (s16 q i x) j).toNat) 16 hi hne
  have he : (g16 (s16 q i x) i).toNat = x.toNat := by rw [g16_s16 q i i x hi hi, if_pos rfl]
  rw [← he]
  exact h

theorem row_arith {V V' c d lo h x y S Q0 P I K B : Nat} (h1 : V + c * P = Q0 + x * S * I) (hv : V' + d * P = V + lo * P) (t1 : lo + B * h = x * y + d + c) (hP : P = I * K) :
    V' + h * (B * P) = Q0 + x * (S + y * K) * I := by
  have e0 : (lo + B * h) * P = (x * y + d + c) * P := by rw [t1]
  have e1 : (lo + B * h) * P = lo * P + h * (B * P) := by rw [Nat.add_mul, Nat.mul_comm B h, Nat.mul_assoc]
  have e2 : (x * y + d + c) * P = x * y * P + d * P + c * P := by rw [Nat.add_mul, Nat.add_mul]
  have e3 : x * (S + y * K) * I = x * S * I + x * y * P := by
    rw [hP, Nat.mul_add, Nat.add_mul]
    congr 1
    rw [Nat.mul_comm I K, ← Nat.mul_assoc, ← Nat.mul_assoc]
  generalize h * (B * P) = u1 at *
  generalize x * (S + y * K) * I = u2 at *
  generalize x * S * I = u3 at *
  generalize x * y * P = u4 at *
  generalize d * P = u5 at *
  generalize c * P = u6 at *
  generalize lo * P = u7 at *
  omega

theorem mulT_ok {x y d c : BitVec 64} (hx : x.toNat < 4294967296) (hy : y.toNat < 4294967296) (hd : d.toNat < 4294967296) (hc : c.toNat < 4294967296) :
    (mulT x y d c &&& 4294967295#64).toNat + 4294967296 * (mulT x y d c >>> 32).toNat = x.toNat * y.toNat + d.toNat + c.toNat ∧ (mulT x y d c &&& 4294967295#64).toNat < 4294967296 ∧ (mulT x y d c >>> 32).toNat < 4294967296 := by
  have hm : x.toNat * y.toNat ≤ 4294967295 * 4294967295 := Nat.mul_le_mul (by omega) (by omega)
  have ht : (mulT x y d c).toNat = x.toNat * y.toNat + d.toNat + c.toNat := by
    simp only [mulT, BitVec.toNat_add, BitVec.toNat_mul]
    omega
  have h1 : (mulT x y d c &&& 4294967295#64).toNat = (mulT x y d c).toNat % 4294967296 := by
    rw [BitVec.toNat_and]
    exact Nat.and_two_pow_sub_one_eq_mod _ 32
  have h2 : (mulT x y d c >>> 32).toNat = (mulT x y d c).toNat / 4294967296 := by
    rw [BitVec.toNat_ushiftRight, Nat.shiftRight_eq_div_pow]
  rw [h1, h2, ht]
  omega

def Small (q : Q) : Prop := ∀ j, j < 16 → (g16 q j).toNat < 4294967296

theorem inner_ok {B : Nat} (hB : B = 4294967296) {x : BitVec 64} {y : Nat → BitVec 64} {i : Nat} {q : Q} (hx : x.toNat < 4294967296) (hy : ∀ k, k < 8 → (y k).toNat < 4294967296) (hq : Small q) (hi : i < 8) : ∀ k, k ≤ 8 →
    valQ B (inner x y i q k).1 + (inner x y i q k).2.toNat * B ^ (i + k) = valQ B q + x.toNat * sumD B (fun j => (y j).toNat) k * B ^ i ∧ Small (inner x y i q k).1 ∧ (inner x y i q k).2.toNat < 4294967296 ∧ ∀ j, i + k ≤ j → j < 16 → g16 (inner x y i q k).1 j = g16 q j := by
  intro k
  induction k with
  | zero => intro _; exact ⟨by simp [inner, sumD], hq, by simp [inner], fun j _ _ => rfl⟩
  | succ k ih =>
    intro hk
    obtain ⟨h1, h2, h3, h4⟩ := ih (by omega)
    simp only [inner]
    generalize hr : inner x y i q k = r at *
    obtain ⟨t1, t2, t3⟩ := mulT_ok hx (hy k (by omega)) (h2 (i + k) (by omega)) h3
    generalize hlo : mulT x (y k) (g16 r.1 (i + k)) r.2 &&& 4294967295#64 = lo at *
    generalize hhi : mulT x (y k) (g16 r.1 (i + k)) r.2 >>> 32 = hi' at *
    have hv := valQ_set B r.1 (i + k) lo (by omega)
    refine ⟨?_, fun j hj => ?_, t3, fun j hj hjn => ?_⟩
    · have e1 : B ^ (i + (k + 1)) = B * B ^ (i + k) := by rw [← Nat.add_assoc, Nat.pow_succ, Nat.mul_comm]
      rw [e1]
      exact row_arith h1 hv (hB ▸ t1) (Nat.pow_add ..)
    · rw [g16_s16 _ _ _ _ (by omega) hj]
      split
      · exact t2
      · exact h2 j hj
    · rw [g16_s16 _ _ _ _ (by omega) hjn, if_neg (by omega)]
      exact h4 j (by omega) hjn

theorem rowQ_ok {B : Nat} (hB : B = 4294967296) {x : BitVec 64} {y : Nat → BitVec 64} {i : Nat} {q : Q} (hx : x.toNat < 4294967296) (hy : ∀ k, k < 8 → (y k).toNat < 4294967296) (hq : Small q) (hi : i < 8) (hz : ∀ j, i + 8 ≤ j → j < 16 → g16 q j = 0#64) :
    valQ B (rowQ x y i q) = valQ B q + x.toNat * sumD B (fun j => (y j).toNat) 8 * B ^ i ∧ Small (rowQ x y i q) ∧ ∀ j, i + 9 ≤ j → j < 16 → g16 (rowQ x y i q) j = 0#64 := by
  obtain ⟨h1, h2, h3, h4⟩ := inner_ok hB hx hy hq hi 8 (Nat.le_refl _)
  unfold rowQ
  simp only
  generalize inner x y i q 8 = r at *
  have hv := valQ_set B r.1 (i + 8) r.2 (by omega)
  have h0 : g16 r.1 (i + 8) = 0#64 := by rw [h4 (i + 8) (by omega) (by omega), hz (i + 8) (by omega) (by omega)]
  refine ⟨?_, fun j hj => ?_, fun j hj hjn => ?_⟩
  · rw [h0] at hv
    simp at hv
    omega
  · rw [g16_s16 _ _ _ _ (by omega) hj]
    split
    · exact h3
    · exact h2 j hj
  · rw [g16_s16 _ _ _ _ (by omega) hjn, if_neg (by omega), h4 j (by omega) hjn]
    exact hz j (by omega) hjn
end Go.Sp
