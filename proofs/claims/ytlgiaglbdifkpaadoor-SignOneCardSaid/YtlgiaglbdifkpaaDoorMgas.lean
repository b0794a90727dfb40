/- Texts put together: GlP GlD CuA CuB CuC CuD CuE CuF. Own work. -/
import Derived.Test.YtlgiaglbdifkpaaDoorMgar
/- The order of the base point is prime. Own work; no program in sight. -/
namespace Go.Sp
open Go.Ev Go.RowKit
theorem prL_2 : PrD 2 := small_ok (f := 0) (by kernel_rfl)
theorem prL_3 : PrD 3 := small_ok (f := 0) (by kernel_rfl)
theorem prL_11 : PrD 11 := small_ok (f := 2) (by kernel_rfl)
theorem prL_23 : PrD 23 := small_ok (f := 3) (by kernel_rfl)
theorem prL_409477 : PrD 409477 := small_ok (f := 638) (by kernel_rfl)
theorem prL_14741173 : PrD 14741173 := (luc_ok (n := 14741173) (g := 2) (fs := [2, 2, 3, 3, 409477]) (by kernel_rfl) (PrD_cons prL_2 (PrD_cons prL_2 (PrD_cons prL_3 (PrD_cons prL_3 (PrD_cons prL_409477 PrD_nil)))))).prime (by decide)
theorem prL_58964693 : PrD 58964693 := (luc_ok (n := 58964693) (g := 2) (fs := [2, 2, 14741173]) (by kernel_rfl) (PrD_cons prL_2 (PrD_cons prL_2 (PrD_cons prL_14741173 PrD_nil)))).prime (by decide)
theorem prL_30703 : PrD 30703 := small_ok (f := 174) (by kernel_rfl)
theorem prL_82163 : PrD 82163 := small_ok (f := 285) (by kernel_rfl)
theorem prL_132667 : PrD 132667 := small_ok (f := 363) (by kernel_rfl)
theorem prL_137849 : PrD 137849 := small_ok (f := 370) (by kernel_rfl)
theorem prL_3044861653679985063343 : PrD 3044861653679985063343 := (luc_ok (n := 3044861653679985063343) (g := 5) (fs := [2, 3, 11, 30703, 82163, 137849, 132667]) (by kernel_rfl) (PrD_cons prL_2 (PrD_cons prL_3 (PrD_cons prL_11 (PrD_cons prL_30703 (PrD_cons prL_82163 (PrD_cons prL_137849 (PrD_cons prL_132667 PrD_nil)))))))).prime (by decide)
theorem prL_198211423230930754013084525763697 : PrD 198211423230930754013084525763697 := (luc_ok (n := 198211423230930754013084525763697) (g := 5) (fs := [2, 2, 2, 2, 3, 23, 58964693, 3044861653679985063343]) (by kernel_rfl) (PrD_cons prL_2 (PrD_cons prL_2 (PrD_cons prL_2 (PrD_cons prL_2 (PrD_cons prL_3 (PrD_cons prL_23 (PrD_cons prL_58964693 (PrD_cons prL_3044861653679985063343 PrD_nil))))))))).prime (by decide)
theorem prL_7 : PrD 7 := small_ok (f := 1) (by kernel_rfl)
theorem prL_269 : PrD 269 := small_ok (f := 15) (by kernel_rfl)
theorem prL_5 : PrD 5 := small_ok (f := 1) (by kernel_rfl)
theorem prL_73 : PrD 73 := small_ok (f := 7) (by kernel_rfl)
theorem prL_307 : PrD 307 := small_ok (f := 16) (by kernel_rfl)
theorem prL_5879 : PrD 5879 := small_ok (f := 75) (by kernel_rfl)
theorem prL_292386187 : PrD 292386187 := (luc_ok (n := 292386187) (g := 2) (fs := [2, 3, 3, 3, 3, 307, 5879]) (by kernel_rfl) (PrD_cons prL_2 (PrD_cons prL_3 (PrD_cons prL_3 (PrD_cons prL_3 (PrD_cons prL_3 (PrD_cons prL_307 (PrD_cons prL_5879 PrD_nil)))))))).prime (by decide)
theorem prL_213441916511 : PrD 213441916511 := (luc_ok (n := 213441916511) (g := 13) (fs := [2, 5, 73, 292386187]) (by kernel_rfl) (PrD_cons prL_2 (PrD_cons prL_5 (PrD_cons prL_73 (PrD_cons prL_292386187 PrD_nil))))).prime (by decide)
theorem prL_1361 : PrD 1361 := small_ok (f := 35) (by kernel_rfl)
theorem prL_2851 : PrD 2851 := small_ok (f := 52) (by kernel_rfl)
theorem prL_41 : PrD 41 := small_ok (f := 5) (by kernel_rfl)
theorem prL_43 : PrD 43 := small_ok (f := 5) (by kernel_rfl)
theorem prL_531581 : PrD 531581 := small_ok (f := 728) (by kernel_rfl)
theorem prL_1224481 : PrD 1224481 := small_ok (f := 1105) (by kernel_rfl)
theorem prL_1257559732178653 : PrD 1257559732178653 := (luc_ok (n := 1257559732178653) (g := 2) (fs := [2, 2, 3, 7, 23, 1224481, 531581]) (by kernel_rfl) (PrD_cons prL_2 (PrD_cons prL_2 (PrD_cons prL_3 (PrD_cons prL_7 (PrD_cons prL_23 (PrD_cons prL_1224481 (PrD_cons prL_531581 PrD_nil)))))))).prime (by decide)
theorem prL_4434155615661930479 : PrD 4434155615661930479 := (luc_ok (n := 4434155615661930479) (g := 17) (fs := [2, 41, 43, 1257559732178653]) (by kernel_rfl) (PrD_cons prL_2 (PrD_cons prL_41 (PrD_cons prL_43 (PrD_cons prL_1257559732178653 PrD_nil))))).prime (by decide)
theorem prL_172054593956031949258510691 : PrD 172054593956031949258510691 := (luc_ok (n := 172054593956031949258510691) (g := 2) (fs := [2, 5, 1361, 2851, 4434155615661930479]) (by kernel_rfl) (PrD_cons prL_2 (PrD_cons prL_5 (PrD_cons prL_1361 (PrD_cons prL_2851 (PrD_cons prL_4434155615661930479 PrD_nil)))))).prime (by decide)
theorem prL_19757330305831588566944191468367130476339 : PrD 19757330305831588566944191468367130476339 := (luc_ok (n := 19757330305831588566944191468367130476339) (g := 2) (fs := [2, 269, 213441916511, 172054593956031949258510691]) (by kernel_rfl) (PrD_cons prL_2 (PrD_cons prL_269 (PrD_cons prL_213441916511 (PrD_cons prL_172054593956031949258510691 PrD_nil))))).prime (by decide)
theorem prL_276602624281642239937218680557139826668747 : PrD 276602624281642239937218680557139826668747 := (luc_ok (n := 276602624281642239937218680557139826668747) (g := 2) (fs := [2, 7, 19757330305831588566944191468367130476339]) (by kernel_rfl) (PrD_cons prL_2 (PrD_cons prL_7 (PrD_cons prL_19757330305831588566944191468367130476339 PrD_nil)))).prime (by decide)
theorem prL_7237005577332262213973186563042994240857116359379907606001950938285454250989 : PrD 7237005577332262213973186563042994240857116359379907606001950938285454250989 := (luc_ok (n := 7237005577332262213973186563042994240857116359379907606001950938285454250989) (g := 2) (fs := [2, 2, 3, 11, 198211423230930754013084525763697, 276602624281642239937218680557139826668747]) (by kernel_rfl) (PrD_cons prL_2 (PrD_cons prL_2 (PrD_cons prL_3 (PrD_cons prL_11 (PrD_cons prL_198211423230930754013084525763697 (PrD_cons prL_276602624281642239937218680557139826668747 PrD_nil))))))).prime (by decide)
def Lp : Nat := 7237005577332262213973186563042994240857116359379907606001950938285454250989
theorem pr_Lp : PrD Lp := prL_7237005577332262213973186563042994240857116359379907606001950938285454250989
end Go.Sp
/- The points of edwards25519 by the field's numbers: sums with three and four numbers, multiples, the base point and its order. Own work; no program in sight. -/
namespace Go.Proofs.YtlgiaglbdifkpaaDoor
open Go.Ev Go.Sp Go.RowKit
set_option maxRecDepth 100000
/-! ### Three numbers a point -/
structure T3 where
  x : Nat
  y : Nat
  z : Nat
def T3.Lt (p : T3) : Prop := p.x < Pp ∧ p.y < Pp ∧ p.z < Pp
/-- The sum, by the curve's number. -/
def plus3 (d : Nat) (p q : T3) : T3 :=
  ⟨fMul (fMul p.z q.z) (fMul (fSub (fMul (fMul p.z q.z) (fMul p.z q.z)) (fMul d (fMul (fMul p.x q.x) (fMul p.y q.y)))) (fAdd (fMul p.x q.y) (fMul p.y q.x))),
   fMul (fMul p.z q.z) (fMul (fAdd (fMul (fMul p.z q.z) (fMul p.z q.z)) (fMul d (fMul (fMul p.x q.x) (fMul p.y q.y)))) (fAdd (fMul p.y q.y) (fMul p.x q.x))),
   fMul (fSub (fMul (fMul p.z q.z) (fMul p.z q.z)) (fMul d (fMul (fMul p.x q.x) (fMul p.y q.y)))) (fAdd (fMul (fMul p.z q.z) (fMul p.z q.z)) (fMul d (fMul (fMul p.x q.x) (fMul p.y q.y))))⟩
theorem plus3_lt (d : Nat) (p q : T3) : (plus3 d p q).Lt := ⟨fMul_lt _ _, fMul_lt _ _, fMul_lt _ _⟩
def R3 (P : Pt Ed) (p : T3) : Prop := Rep3 P (tF p.x) (tF p.y) (tF p.z)
theorem R3.add {P Q : Pt Ed} {p q : T3} (h1 : R3 P p) (h2 : R3 Q q) : R3 (P.add Q) (plus3 dN p q) := by
  have h := Rep3.add h1 h2
  unfold R3 plus3
  simp only [tF_mul, tF_add, tF_sub _ (fMul_lt _ _)]
  exact h
def nought3 : T3 := ⟨0, 1, 1⟩
theorem R3.nought : R3 (Pt.nought : Pt Ed) nought3 := by
  have h : Rep3 (Pt.nought : Pt Ed) 0 1 1 := Rep3.nought
  rw [← tF_zero, ← tF_one] at h
  exact h
/-- A point of numbers. -/
def OnN (x y : Nat) : Prop := fSub (fMul y y) (fMul x x) = fAdd 1 (fMul dN (fMul (fMul x x) (fMul y y)))
theorem OnN.on {x y : Nat} (h : OnN x y) : Ed.On (tF x) (tF y) := by
  unfold Cv.On
  have h1 := congrArg tF h
  simp only [tF_mul, tF_add, tF_sub _ (fMul_lt _ _), tF_one] at h1
  exact h1
theorem on_OnN {x y : Nat} (h : Ed.On (tF x) (tF y)) : OnN x y := by
  refine tF_inj (fAdd_lt _ _) (fAdd_lt _ _) ?_
  simp only [tF_mul, tF_add, tF_sub _ (fMul_lt _ _), tF_one]
  exact h
def ptN (x y : Nat) (h : OnN x y) : Pt Ed := ⟨tF x, tF y, h.on⟩
theorem R3.of {x y : Nat} (h : OnN x y) : R3 (ptN x y h) ⟨x, y, 1⟩ := by
  have h1 := Rep3.of (ptN x y h)
  rw [← tF_one] at h1
  exact h1
theorem R3.point {P : Pt Ed} {p : T3} (h : R3 P p) (hz : p.z < Pp) : fMul p.x (fInv p.z) = P.x.val ∧ fMul p.y (fInv p.z) = P.y.val := by
  obtain ⟨h1, h2⟩ := Rep3.point h
  rw [← tF_inv hz, ← tF_mul] at h1 h2
  exact ⟨by rw [← h1, val_tF (fMul_lt _ _)], by rw [← h2, val_tF (fMul_lt _ _)]⟩
/-! ### Four numbers a point -/
structure W4 where
  x : Nat
  y : Nat
  z : Nat
  t : Nat
def W4.Lt (p : W4) : Prop := p.x < Pp ∧ p.y < Pp ∧ p.z < Pp ∧ p.t < Pp
def wA (p q : W4) : Nat := fMul (fSub p.y p.x) (fSub q.y q.x)
def wB (p q : W4) : Nat := fMul (fAdd p.y p.x) (fAdd q.y q.x)
def wC (p q : W4) : Nat := fMul p.t (fMul (fAdd dN dN) q.t)
def wD (p q : W4) : Nat := fMul p.z (fAdd q.z q.z)
def wadd (p q : W4) : W4 :=
  ⟨fMul (fSub (wB p q) (wA p q)) (fSub (wD p q) (wC p q)), fMul (fAdd (wD p q) (wC p q)) (fAdd (wB p q) (wA p q)), fMul (fSub (wD p q) (wC p q)) (fAdd (wD p q) (wC p q)), fMul (fSub (wB p q) (wA p q)) (fAdd (wB p q) (wA p q))⟩
theorem wadd_lt (p q : W4) : (wadd p q).Lt := ⟨fMul_lt _ _, fMul_lt _ _, fMul_lt _ _, fMul_lt _ _⟩
def R4 (P : Pt Ed) (p : W4) : Prop := p.Lt ∧ Rep4 P (tF p.x) (tF p.y) (tF p.z) (tF p.t)
theorem R4.add {P Q : Pt Ed} {p q : W4} (h1 : R4 P p) (h2 : R4 Q q) : R4 (P.add Q) (wadd p q) := by
  have h := Rep4.add h1.2 h2.2
  obtain ⟨⟨l1, l2, l3, l4⟩, _⟩ := h1
  obtain ⟨⟨m1, m2, m3, m4⟩, _⟩ := h2
  refine ⟨wadd_lt _ _, ?_⟩
  unfold wadd wA wB wC wD
  simp only [tF_mul, tF_add, tF_sub _ (fMul_lt _ _), tF_sub _ l1, tF_sub _ m1]
  exact h
def nought4 : W4 := ⟨0, 1, 1, 0⟩
theorem R4.nought : R4 (Pt.nought : Pt Ed) nought4 := by
  have h : Rep4 (Pt.nought : Pt Ed) 0 1 1 0 := Rep4.nought
  rw [← tF_zero, ← tF_one] at h
  exact ⟨by unfold W4.Lt nought4; decide, h⟩
def w4 (x y : Nat) : W4 := ⟨x, y, 1, fMul x y⟩
theorem R4.of {x y : Nat} (hx : x < Pp) (hy : y < Pp) (h : OnN x y) : R4 (ptN x y h) (w4 x y) := by
  have h1 := Rep4.of (ptN x y h)
  have e : (ptN x y h).x * (ptN x y h).y = tF (fMul x y) := (tF_mul x y).symm
  rw [← tF_one, e] at h1
  exact ⟨⟨hx, hy, one_lt, fMul_lt _ _⟩, h1⟩
theorem R4.point {P : Pt Ed} {p : W4} (h : R4 P p) : fMul p.x (fInv p.z) = P.x.val ∧ fMul p.y (fInv p.z) = P.y.val := by
  obtain ⟨h1, h2⟩ := Rep4.point h.2
  rw [← tF_inv h.1.2.2.1, ← tF_mul] at h1 h2
  exact ⟨by rw [← h1, val_tF (fMul_lt _ _)], by rw [← h2, val_tF (fMul_lt _ _)]⟩
/-- So many times, bit by bit from the highest of 256. -/
def wtimes (p : W4) (n : Nat) : Nat → W4
  | 0 => nought4
  | j + 1 => if n / 2 ^ (255 - j) % 2 = 0 then wadd (wtimes p n j) (wtimes p n j) else wadd (wadd (wtimes p n j) (wtimes p n j)) p
theorem half_step (n j : Nat) (hj : j < 256) : n / 2 ^ (256 - (j + 1)) = n / 2 ^ (256 - j) + n / 2 ^ (256 - j) + n / 2 ^ (255 - j) % 2 := by
  have e1 : 256 - (j + 1) = 255 - j := by omega
  have e2 : 256 - j = (255 - j) + 1 := by omega
  rw [e1, e2, Nat.pow_succ, ← Nat.div_div_eq_div_mul]
  generalize n / 2 ^ (255 - j) = m
  omega
theorem R4.times {P : Pt Ed} {p : W4} (h : R4 P p) (n : Nat) (hn : n < 2 ^ 256) : ∀ j, j ≤ 256 → R4 (Pt.times (n / 2 ^ (256 - j)) P) (wtimes p n j)
  | 0, _ => by
    rw [Nat.sub_zero, Nat.div_eq_of_lt hn]
    exact R4.nought
  | j + 1, hj => by
    have ih := R4.times h n hn j (by omega)
    rw [half_step n j (by omega), Pt.times_add, Pt.times_add]
    unfold wtimes
    split
    · rename_i h0
      rw [h0, Pt.times_zero, Pt.add_nought]
      exact ih.add ih
    · rename_i h0
      have h1 : n / 2 ^ (255 - j) % 2 = 1 := by omega
      rw [h1, Pt.times_one]
      exact (ih.add ih).add h
theorem R4.mult {P : Pt Ed} {p : W4} (h : R4 P p) (n : Nat) (hn : n < 2 ^ 256) : R4 (Pt.times n P) (wtimes p n 256) := by
  have := h.times n hn 256 (by omega)
  rwa [Nat.sub_self, Nat.pow_zero, Nat.div_one] at this
/-! ### So many times, from the lowest bit -/
def tP (d : Nat) (p : T3) : Nat → T3
  | 0 => p
  | i + 1 => plus3 d (tP d p i) (tP d p i)
def tO (d : Nat) (p : T3) (n : Nat) : Nat → T3
  | 0 => nought3
  | i + 1 => if n / 2 ^ i % 2 = 1 then plus3 d (tO d p n i) (tP d p i) else tO d p n i
theorem R3.tP {P : Pt Ed} {p : T3} (h : R3 P p) : ∀ i, R3 (Pt.times (2 ^ i) P) (tP dN p i)
  | 0 => by rw [Nat.pow_zero, Pt.times_one]; exact h
  | i + 1 => by
    have ih := R3.tP h i
    rw [Nat.pow_succ, Nat.mul_two, Pt.times_add]
    exact ih.add ih
theorem low_step (n i : Nat) : n % 2 ^ (i + 1) = n % 2 ^ i + 2 ^ i * (n / 2 ^ i % 2) := Nat.mod_pow_succ
theorem R3.tO {P : Pt Ed} {p : T3} (h : R3 P p) (n : Nat) : ∀ i, R3 (Pt.times (n % 2 ^ i) P) (tO dN p n i)
  | 0 => by rw [Nat.pow_zero, Nat.mod_one]; exact R3.nought
  | i + 1 => by
    have ih := R3.tO h n i
    rw [low_step, Pt.times_add]
    unfold Go.Proofs.YtlgiaglbdifkpaaDoor.tO
    split
    · rename_i h0
      rw [h0, Nat.mul_one]
      exact ih.add (R3.tP h i)
    · rename_i h0
      have h1 : n / 2 ^ i % 2 = 0 := by omega
      rw [h1, Nat.mul_zero, Pt.times_zero, Pt.add_nought]
      exact ih
theorem tP_lt {d : Nat} {p : T3} (h : p.Lt) : ∀ i, (tP d p i).Lt
  | 0 => h
  | _ + 1 => plus3_lt _ _ _
theorem nought3_lt : nought3.Lt := by unfold T3.Lt nought3; decide
theorem tO_lt {d : Nat} {p : T3} (n : Nat) : ∀ i, (tO d p n i).Lt
  | 0 => nought3_lt
  | i + 1 => by
    unfold Go.Proofs.YtlgiaglbdifkpaaDoor.tO
    split
    · exact plus3_lt _ _ _
    · exact tO_lt n i
/-! ### The base point -/
def bxN : Nat := 15112221349535400772501151409588531511454012693041857206046113283949847762202
def byN : Nat := 46316835694926478169428394003475163141307993866256225615783033603165251855960
theorem bON : OnN bxN byN := by unfold OnN; kernel_rfl
def Bp : Pt Ed := ptN bxN byN bON
def goB : List Bool → T3 → Bool
  | [], p => p.x == 0 && p.y == p.z
  | b :: r, ⟨x, y, z⟩ => if x + y + z = 0 then false else goB r (if b then plus3 dN (plus3 dN ⟨x, y, z⟩ ⟨x, y, z⟩) ⟨bxN, byN, 1⟩ else plus3 dN ⟨x, y, z⟩ ⟨x, y, z⟩)
def numB : List Bool → Nat → Nat
  | [], k => k
  | b :: r, k => numB r (2 * k + if b then 1 else 0)
theorem goB_ok : ∀ (l : List Bool) (k : Nat) (p : T3), p.Lt → R3 (Pt.times k Bp) p → goB l p = true → Pt.times (numB l k) Bp = Pt.nought
  | [], k, p, hl, hp, h => by
    simp only [goB, Bool.and_eq_true, beq_iff_eq] at h
    show Pt.times k Bp = Pt.nought
    obtain ⟨z, hx, hy⟩ := hp
    rw [h.1, tF_zero] at hx
    rw [h.2] at hy
    refine Pt.ext ?_ ?_
    · rcases Ed.dom _ _ hx.symm with e | e
      · exact e
      · exact absurd e z
    · refine Ed.cancel z (b := 1) ?_
      rw [← hy]
      exact (Fin.one_mul _).symm
  | b :: r, k, ⟨x, y, z⟩, hl, hp, h => by
    unfold goB at h
    split at h
    · simp at h
    have hd := hp.add hp
    rw [← Pt.times_add] at hd
    show Pt.times (numB r (2 * k + if b then 1 else 0)) Bp = _
    cases b with
    | false =>
      exact goB_ok r _ _ (plus3_lt _ _ _) (by rw [Nat.two_mul]; exact hd) h
    | true =>
      refine goB_ok r _ _ (plus3_lt _ _ _) ?_ h
      rw [Nat.two_mul]
      exact hd.add (R3.of bON)
def bitsB (n : Nat) : Nat → List Bool
  | 0 => []
  | k + 1 => (n / 2 ^ k % 2 == 1) :: bitsB n k
theorem order_B : Pt.times Lp Bp = Pt.nought := by
  have h := goB_ok (bitsB Lp 253) 0 nought3 nought3_lt R3.nought (by kernel_rfl)
  rwa [show numB (bitsB Lp 253) 0 = Lp by kernel_rfl] at h
theorem times_gcd (a b : Nat) : Pt.times a Bp = Pt.nought → Pt.times b Bp = Pt.nought → Pt.times (Nat.gcd a b) Bp = Pt.nought := by
  induction a, b using Nat.gcd.induction with
  | H0 n => intro _ h; rwa [Nat.gcd_zero_left]
  | H1 m n hm ih =>
    intro h1 h2
    rw [Nat.gcd_rec]
    refine ih ?_ h1
    have e := Nat.mod_add_div n m
    rw [← e, Pt.times_add, Nat.mul_comm, Pt.times_mul, h1, Pt.times_nought, Pt.add_nought] at h2
    exact h2
theorem B_ne : Bp ≠ Pt.nought := fun h => by
  have h1 : (tF bxN : Fin Pp) = 0 := congrArg Pt.x h
  rw [← tF_zero] at h1
  exact absurd (tF_inj (by decide) Pp_pos h1) (by decide)
theorem times_B {k : Nat} : Pt.times k Bp = Pt.nought ↔ Lp ∣ k := by
  constructor
  · intro h
    have h1 := times_gcd k Lp h order_B
    rcases pr_Lp.2 _ (Nat.gcd_dvd_right k Lp) with e | e
    · rw [e, Pt.times_one] at h1
      exact absurd h1 B_ne
    · rw [← e]; exact Nat.gcd_dvd_left k Lp
  · rintro ⟨c, rfl⟩
    rw [Nat.mul_comm, Pt.times_mul, order_B, Pt.times_nought]
theorem times_mod (k : Nat) : Pt.times (k % Lp) Bp = Pt.times k Bp := by
  have h : Pt.times (k % Lp + k / Lp * Lp) Bp = Pt.times (k % Lp) Bp := by
    rw [Pt.times_add, Pt.times_mul, order_B, Pt.times_nought, Pt.add_nought]
  have e : k % Lp + k / Lp * Lp = k := by rw [Nat.mul_comm]; exact Nat.mod_add_div k Lp
  rw [← h, e]
end Go.Proofs.YtlgiaglbdifkpaaDoor
/- Contracts of layer 8: the program's curve: constants, points, sums. Own work. -/
namespace Go.Proofs.YtlgiaglbdifkpaaDoor
open Go.Ev Go.Sp Go.RowKit
set_option maxRecDepth 100000
theorem runCD  : fnS Tryd.prog (lookG []) (orcA []) [] 10 43 [] =
    some (AV.val true [IV.n4 (N4.mk (BitVec.ofNat 64 8496970652267935907) (BitVec.ofNat 64 31536524315187371) (BitVec.ofNat 64 10144147576115030168) (BitVec.ofNat 64 5909686906226998899))], []) := by kernel_rfl
theorem runCBase  : fnS Tryd.prog (lookG []) (orcA []) [] 10 24 [] =
    some (AV.val true [IV.n4 (N4.mk (BitVec.ofNat 64 14507833142362363162) (BitVec.ofNat 64 7578651490590762930) (BitVec.ofNat 64 13881468655802702940) (BitVec.ofNat 64 2407515759118799870)), IV.n4 (N4.mk (BitVec.ofNat 64 7378697629483820632) (BitVec.ofNat 64 7378697629483820646) (BitVec.ofNat 64 7378697629483820646) (BitVec.ofNat 64 7378697629483820646))], []) := by kernel_rfl
def spCD : List AV → Option (AV × List Prop)
  | [] => some (.val true [.n4 (ofN dN)], [])
  | _ => none
def spCBase : List AV → Option (AV × List Prop)
  | [] => some (.val true [.n4 (ofN bxN), .n4 (ofN byN)], [])
  | _ => none
theorem ctCD : CtSOk Tryd.prog 43 (.fn spCD) := FnS_of_fnS gs0 fol fun ds r cs h hc => by
  unfold spCD at h
  split at h
  case h_2 => simp at h
  simp only [Option.some.injEq, Prod.mk.injEq] at h
  obtain ⟨rfl, rfl⟩ := h
  exact use_run runCD (by kernel_rfl) trivial
theorem ctCBase : CtSOk Tryd.prog 24 (.fn spCBase) := FnS_of_fnS gs0 fol fun ds r cs h hc => by
  unfold spCBase at h
  split at h
  case h_2 => simp at h
  simp only [Option.some.injEq, Prod.mk.injEq] at h
  obtain ⟨rfl, rfl⟩ := h
  exact use_run runCBase (by kernel_rfl) trivial
def tblCa : List (FuncId × CtS) := [(43, .fn spCD), (42, .fn (sp2N fAdd)), (40, .fn (sp2N fSub)), (38, .fn (sp2N fMul)), (45, .fn (sp1N fNeg)), (37, .fn spRight)]
theorem okCa : TblOk Tryd.prog tblCa := ⟨⟨ctCD, by kernel_rfl⟩, ⟨ctPAdd, by kernel_rfl⟩, ⟨ctPSub, by kernel_rfl⟩, ⟨ctPMul, by kernel_rfl⟩, ⟨ctPNeg, by kernel_rfl⟩, ⟨ctRight, by kernel_rfl⟩, trivial⟩
theorem gsCa : GSound Tryd.prog (upG (lookG tblCa)) := GSound_of_tbl okCa
theorem runOnT (x y : N4) : fnS Tryd.prog (lookG tblCa) (orcA [(3, [(2, true), (6, true)])]) [] 10 46 [.val true [.n4 x, .n4 y]] =
    some (sc (IV.bool ((ofN (fSub (val (ofN (fMul (val y % Pp) (val y % Pp))) % Pp) (val (ofN (fMul (val x % Pp) (val x % Pp))) % Pp))).eq (ofN (fAdd 1 (val (ofN (fMul 37095705934669439343138083508754565189542113879843219016388785533085940283555 (val (ofN (fMul (val (ofN (fMul (val x % Pp) (val x % Pp))) % Pp) (val (ofN (fMul (val y % Pp) (val y % Pp))) % Pp))) % Pp))) % Pp))) && true)), [decide (val x < Pp) = true, decide (val y < Pp) = true]) := by kernel_rfl
theorem runOnX (x y : N4) : fnS Tryd.prog (lookG tblCa) (orcA [(3, [(2, false)])]) [] 10 46 [.val true [.n4 x, .n4 y]] =
    some (sc (IV.bool false), [decide (val x < Pp) = false]) := by kernel_rfl
theorem runOnY (x y : N4) : fnS Tryd.prog (lookG tblCa) (orcA [(3, [(2, true), (6, false)])]) [] 10 46 [.val true [.n4 x, .n4 y]] =
    some (sc (IV.bool false), [decide (val x < Pp) = true, decide (val y < Pp) = false]) := by kernel_rfl
theorem runWid (x y : N4) : fnS Tryd.prog (lookG tblCa) (orcA []) [] 10 47 [.val true [.n4 x, .n4 y]] =
    some (AV.val true [IV.n4 x, IV.n4 y, IV.n4 (N4.mk (BitVec.ofNat 64 1) (BitVec.ofNat 64 0) (BitVec.ofNat 64 0) (BitVec.ofNat 64 0)), IV.n4 (ofN (fMul (val x % Pp) (val y % Pp)))], []) := by kernel_rfl
theorem runWAdd (a b c d a' b' c' d' : N4) : fnS Tryd.prog (lookG tblCa) (orcA []) [] 10 49 [.val true [.n4 a, .n4 b, .n4 c, .n4 d], .val true [.n4 a', .n4 b', .n4 c', .n4 d']] =
    some (AV.val true [IV.n4 (ofN (fMul (val (ofN (fSub (val (ofN (fMul (val (ofN (fAdd (val b % Pp) (val a % Pp))) % Pp) (val (ofN (fAdd (val b' % Pp) (val a' % Pp))) % Pp))) % Pp) (val (ofN (fMul (val (ofN (fSub (val b % Pp) (val a % Pp))) % Pp) (val (ofN (fSub (val b' % Pp) (val a' % Pp))) % Pp))) % Pp))) % Pp) (val (ofN (fSub (val (ofN (fMul (val c % Pp) (val (ofN (fAdd (val c' % Pp) (val c' % Pp))) % Pp))) % Pp) (val (ofN (fMul (val d % Pp) (val (ofN (fMul 16295367250680780974490674513165176452449235426866156013048779062215315747161 (val d' % Pp))) % Pp))) % Pp))) % Pp))), IV.n4 (ofN (fMul (val (ofN (fAdd (val (ofN (fMul (val c % Pp) (val (ofN (fAdd (val c' % Pp) (val c' % Pp))) % Pp))) % Pp) (val (ofN (fMul (val d % Pp) (val (ofN (fMul 16295367250680780974490674513165176452449235426866156013048779062215315747161 (val d' % Pp))) % Pp))) % Pp))) % Pp) (val (ofN (fAdd (val (ofN (fMul (val (ofN (fAdd (val b % Pp) (val a % Pp))) % Pp) (val (ofN (fAdd (val b' % Pp) (val a' % Pp))) % Pp))) % Pp) (val (ofN (fMul (val (ofN (fSub (val b % Pp) (val a % Pp))) % Pp) (val (ofN (fSub (val b' % Pp) (val a' % Pp))) % Pp))) % Pp))) % Pp))), IV.n4 (ofN (fMul (val (ofN (fSub (val (ofN (fMul (val c % Pp) (val (ofN (fAdd (val c' % Pp) (val c' % Pp))) % Pp))) % Pp) (val (ofN (fMul (val d % Pp) (val (ofN (fMul 16295367250680780974490674513165176452449235426866156013048779062215315747161 (val d' % Pp))) % Pp))) % Pp))) % Pp) (val (ofN (fAdd (val (ofN (fMul (val c % Pp) (val (ofN (fAdd (val c' % Pp) (val c' % Pp))) % Pp))) % Pp) (val (ofN (fMul (val d % Pp) (val (ofN (fMul 16295367250680780974490674513165176452449235426866156013048779062215315747161 (val d' % Pp))) % Pp))) % Pp))) % Pp))), IV.n4 (ofN (fMul (val (ofN (fSub (val (ofN (fMul (val (ofN (fAdd (val b % Pp) (val a % Pp))) % Pp) (val (ofN (fAdd (val b' % Pp) (val a' % Pp))) % Pp))) % Pp) (val (ofN (fMul (val (ofN (fSub (val b % Pp) (val a % Pp))) % Pp) (val (ofN (fSub (val b' % Pp) (val a' % Pp))) % Pp))) % Pp))) % Pp) (val (ofN (fAdd (val (ofN (fMul (val (ofN (fAdd (val b % Pp) (val a % Pp))) % Pp) (val (ofN (fAdd (val b' % Pp) (val a' % Pp))) % Pp))) % Pp) (val (ofN (fMul (val (ofN (fSub (val b % Pp) (val a % Pp))) % Pp) (val (ofN (fSub (val b' % Pp) (val a' % Pp))) % Pp))) % Pp))) % Pp)))], []) := by kernel_rfl
theorem vm_M (x y : Nat) : val (ofN (fMul x y)) % Pp = fMul x y := by rw [val_lo (fMul_lt x y), Nat.mod_eq_of_lt (fMul_lt x y)]
theorem vm_A (x y : Nat) : val (ofN (fAdd x y)) % Pp = fAdd x y := by rw [val_lo (fAdd_lt x y), Nat.mod_eq_of_lt (fAdd_lt x y)]
theorem f_Sub_lt (x y : Nat) : fSub x y < Pp := fAdd_lt x _
theorem vm_S (x y : Nat) : val (ofN (fSub x y)) % Pp = fSub x y := by rw [val_lo (f_Sub_lt x y), Nat.mod_eq_of_lt (f_Sub_lt x y)]
theorem d2N : fAdd dN dN = 16295367250680780974490674513165176452449235426866156013048779062215315747161 := by kernel_rfl
/-- Are two numbers a point? -/
def onV (x y : Nat) : Bool := decide (x < Pp) && (decide (y < Pp) && (fSub (fMul y y) (fMul x x) == fAdd 1 (fMul dN (fMul (fMul x x) (fMul y y)))))
theorem onV_iff {x y : Nat} : onV x y = true ↔ x < Pp ∧ y < Pp ∧ OnN x y := by
  unfold onV OnN
  simp only [Bool.and_eq_true, decide_eq_true_eq, beq_iff_eq]
def spOnC : List AV → Option (AV × List Prop)
  | [.val true [.n4 x, .n4 y]] => some (sc (.bool (onV (val x) (val y))), [])
  | _ => none
theorem ctOnC : CtSOk Tryd.prog 46 (.fn spOnC) := FnS_of_fnS gsCa fol fun ds r cs h hc => by
  unfold spOnC at h
  split at h
  case h_2 => simp at h
  rename_i x y
  simp only [Option.some.injEq, Prod.mk.injEq] at h
  obtain ⟨rfl, rfl⟩ := h
  by_cases hx : val x < Pp
  · by_cases hy : val y < Pp
    · have r0 := runOnT x y
      rw [eq_N4] at r0
      simp only [vm_M, Nat.mod_eq_of_lt hx, Nat.mod_eq_of_lt hy] at r0
      rw [val_lo (f_Sub_lt _ _), val_lo (fAdd_lt _ _)] at r0
      refine use_run r0 ?_ ⟨decide_eq_true hx, decide_eq_true hy, trivial⟩
      unfold onV
      rw [decide_eq_true hx, decide_eq_true hy, Bool.true_and, Bool.true_and]
      rfl
    · exact use_run (runOnY x y) (by unfold onV; rw [decide_eq_false hy, Bool.false_and, Bool.and_false]) ⟨decide_eq_true hx, decide_eq_false hy, trivial⟩
  · exact use_run (runOnX x y) (by unfold onV; rw [decide_eq_false hx, Bool.false_and]) ⟨decide_eq_false hx, trivial⟩
/-- Four numbers of a point, as words. -/
structure QW where
  x : N4
  y : N4
  z : N4
  t : N4
def QW.w (q : QW) : W4 := ⟨val q.x % Pp, val q.y % Pp, val q.z % Pp, val q.t % Pp⟩
def qW (w : W4) : QW := ⟨ofN w.x, ofN w.y, ofN w.z, ofN w.t⟩
theorem qW_w {w : W4} (h : w.Lt) : (qW w).w = w := by
  unfold QW.w qW
  simp only [val_lo h.1, val_lo h.2.1, val_lo h.2.2.1, val_lo h.2.2.2, Nat.mod_eq_of_lt h.1, Nat.mod_eq_of_lt h.2.1, Nat.mod_eq_of_lt h.2.2.1, Nat.mod_eq_of_lt h.2.2.2]
def QW.l (q : QW) : List IV := [.n4 q.x, .n4 q.y, .n4 q.z, .n4 q.t]
def spWid : List AV → Option (AV × List Prop)
  | [.val true [.n4 x, .n4 y]] => some (.val true (qW (w4 (val x) (val y))).l, [val x < Pp, val y < Pp])
  | _ => none
theorem ctWid : CtSOk Tryd.prog 47 (.fn spWid) := FnS_of_fnS gsCa fol fun ds r cs h hc => by
  unfold spWid at h
  split at h
  case h_2 => simp at h
  rename_i x y
  simp only [Option.some.injEq, Prod.mk.injEq] at h
  obtain ⟨rfl, rfl⟩ := h
  obtain ⟨hx, hy, _⟩ := hc
  have r0 := runWid x y
  simp only [Nat.mod_eq_of_lt hx, Nat.mod_eq_of_lt hy] at r0
  refine use_run r0 ?_ trivial
  show AV.val true [.n4 x, .n4 y, .n4 (N4.mk (BitVec.ofNat 64 1) (BitVec.ofNat 64 0) (BitVec.ofNat 64 0) (BitVec.ofNat 64 0)), .n4 (ofN (fMul (val x) (val y)))] = AV.val true [.n4 (ofN (val x)), .n4 (ofN (val y)), .n4 (ofN 1), .n4 (ofN (fMul (val x) (val y)))]
  rw [ofN_val, ofN_val]
  rfl
def waddQ (p q : QW) : W4 := wadd p.w q.w
def spWAddG (G : QW → QW → W4) : List AV → Option (AV × List Prop)
  | [.val true [.n4 a, .n4 b, .n4 c, .n4 d], .val true [.n4 a', .n4 b', .n4 c', .n4 d']] => some (.val true [.n4 (ofN (G ⟨a, b, c, d⟩ ⟨a', b', c', d'⟩).x), .n4 (ofN (G ⟨a, b, c, d⟩ ⟨a', b', c', d'⟩).y), .n4 (ofN (G ⟨a, b, c, d⟩ ⟨a', b', c', d'⟩).z), .n4 (ofN (G ⟨a, b, c, d⟩ ⟨a', b', c', d'⟩).t)], [])
  | _ => none
theorem ctWAdd : CtSOk Tryd.prog 49 (.fn (spWAddG waddQ)) := FnS_of_fnS gsCa fol fun ds r cs h hc => by
  unfold spWAddG at h
  split at h
  case h_2 => simp at h
  rename_i a b c d a' b' c' d'
  simp only [Option.some.injEq, Prod.mk.injEq] at h
  obtain ⟨rfl, rfl⟩ := h
  have r0 := runWAdd a b c d a' b' c' d'
  rw [← d2N] at r0
  simp only [vm_M, vm_A, vm_S] at r0
  exact use_run r0 rfl trivial
/-- A point out of four numbers, by whatever inverse. -/
def spWPtG (v : Nat → Nat) : List AV → Option (AV × List Prop)
  | [.val true [.n4 a, .n4 b, .n4 c, .n4 _]] => some (.val true [.n4 (ofN (fMul (val a % Pp) (v (val c % Pp)))), .n4 (ofN (fMul (val b % Pp) (v (val c % Pp))))], [])
  | _ => none
def tblCb (v : Nat → Nat) : List (FuncId × CtS) :=
  (41, .fn (sp1N v)) :: tblCa
theorem gsCb : GSound Tryd.prog (upG (lookG (tblCb fInv))) := GSound_of_tbl ⟨⟨ctPInv, by kernel_rfl⟩, okCa⟩
theorem runWPt (v : Nat → Nat) (a b c d : N4) : fnS Tryd.prog (lookG (tblCb v)) (orcA []) [] 10 50 [.val true [.n4 a, .n4 b, .n4 c, .n4 d]] =
    some (AV.val true [IV.n4 (ofN (fMul (val a % Pp) (val (ofN (v (val c % Pp))) % Pp))), IV.n4 (ofN (fMul (val b % Pp) (val (ofN (v (val c % Pp))) % Pp)))], []) := by kernel_rfl
theorem ctWPt : CtSOk Tryd.prog 50 (.fn (spWPtG fInv)) := FnS_of_fnS gsCb fol fun ds r cs h hc => by
  unfold spWPtG at h
  split at h
  case h_2 => simp at h
  rename_i a b c d
  simp only [Option.some.injEq, Prod.mk.injEq] at h
  obtain ⟨rfl, rfl⟩ := h
  have r0 := runWPt fInv a b c d
  have e := fInv_lt (val c % Pp)
  rw [val_lo e, Nat.mod_eq_of_lt e] at r0
  exact use_run r0 rfl trivial
/-! ### So many times -/
def spTimesG (G : QW → N4 → W4) : List AV → Option (AV × List Prop)
  | [.val true [.n4 a, .n4 b, .n4 c, .n4 d], .val true [.n4 n]] => some (.val true [.n4 (ofN (G ⟨a, b, c, d⟩ n).x), .n4 (ofN (G ⟨a, b, c, d⟩ n).y), .n4 (ofN (G ⟨a, b, c, d⟩ n).z), .n4 (ofN (G ⟨a, b, c, d⟩ n).t)], [])
  | _ => none
def tblCc0 : List (FuncId × CtS) := [(44, .fn spPick), (63, .fn spBit)]
theorem okCc0 : TblOk Tryd.prog tblCc0 := ⟨⟨ctPick, by kernel_rfl⟩, ⟨ctBit, by kernel_rfl⟩, trivial⟩
theorem gsCc0 : GSound Tryd.prog (upG (lookG tblCc0)) := GSound_of_tbl okCc0
def tblCc (G : QW → QW → W4) : List (FuncId × CtS) :=
  (49, .fn (spWAddG G)) :: tblCc0
theorem gsCc : GSound Tryd.prog (upG (lookG (tblCc waddQ))) := GSound_of_tbl ⟨⟨ctWAdd, by kernel_rfl⟩, okCc0⟩
def tmTd : List Nat := [2, 3, 4, 5, 13]
def tmInv (p : QW) (n : N4) (z o : QW) (i : Int) : St := ⟨slotsOf 55 [(2, sc (.ptr 0 0)), (3, sc (.ptr 1 0)), (4, sc (.ptr 2 0)), (5, sc (.ptr 3 0)), (13, sc (.i64 i))], [(0, ⟨true, p.l⟩), (1, ⟨true, [.n4 n]⟩), (2, ⟨true, z.l⟩), (3, ⟨true, o.l⟩)], 16⟩
theorem tmRound (G : QW → QW → W4) (p : QW) (n : N4) (z o : QW) (i : Int) : roundS Tryd.prog (lookG (tblCc G)) (orcA [(3, [(0, true)])]) [] 10 tmTd (bodyAt Tryd.prog 48 3) (tmInv p n z o i) =
    some (Ex.normal, St.mk (slotsOf 55 [(2, sc (IV.ptr 0 0)), (3, sc (IV.ptr 1 0)), (4, sc (IV.ptr 2 0)), (5, sc (IV.ptr 3 0)), (13, sc (IV.i64 (i + (1 : Int))))]) [(0, Blk.mk true [IV.n4 p.x, IV.n4 p.y, IV.n4 p.z, IV.n4 p.t]), (1, Blk.mk true [IV.n4 n]), (2, Blk.mk true [IV.n4 z.x, IV.n4 z.y, IV.n4 z.z, IV.n4 z.t]), (3, Blk.mk true [IV.n4 (if bitN n ((255 : Int) - i) = BitVec.ofNat 64 0 then ofN (G (QW.mk o.x o.y o.z o.t) (QW.mk o.x o.y o.z o.t)).x else ofN (G (QW.mk (ofN (G (QW.mk o.x o.y o.z o.t) (QW.mk o.x o.y o.z o.t)).x) (ofN (G (QW.mk o.x o.y o.z o.t) (QW.mk o.x o.y o.z o.t)).y) (ofN (G (QW.mk o.x o.y o.z o.t) (QW.mk o.x o.y o.z o.t)).z) (ofN (G (QW.mk o.x o.y o.z o.t) (QW.mk o.x o.y o.z o.t)).t)) (QW.mk p.x p.y p.z p.t)).x), IV.n4 (if bitN n ((255 : Int) - i) = BitVec.ofNat 64 0 then ofN (G (QW.mk o.x o.y o.z o.t) (QW.mk o.x o.y o.z o.t)).y else ofN (G (QW.mk (ofN (G (QW.mk o.x o.y o.z o.t) (QW.mk o.x o.y o.z o.t)).x) (ofN (G (QW.mk o.x o.y o.z o.t) (QW.mk o.x o.y o.z o.t)).y) (ofN (G (QW.mk o.x o.y o.z o.t) (QW.mk o.x o.y o.z o.t)).z) (ofN (G (QW.mk o.x o.y o.z o.t) (QW.mk o.x o.y o.z o.t)).t)) (QW.mk p.x p.y p.z p.t)).y), IV.n4 (if bitN n ((255 : Int) - i) = BitVec.ofNat 64 0 then ofN (G (QW.mk o.x o.y o.z o.t) (QW.mk o.x o.y o.z o.t)).z else ofN (G (QW.mk (ofN (G (QW.mk o.x o.y o.z o.t) (QW.mk o.x o.y o.z o.t)).x) (ofN (G (QW.mk o.x o.y o.z o.t) (QW.mk o.x o.y o.z o.t)).y) (ofN (G (QW.mk o.x o.y o.z o.t) (QW.mk o.x o.y o.z o.t)).z) (ofN (G (QW.mk o.x o.y o.z o.t) (QW.mk o.x o.y o.z o.t)).t)) (QW.mk p.x p.y p.z p.t)).z), IV.n4 (if bitN n ((255 : Int) - i) = BitVec.ofNat 64 0 then ofN (G (QW.mk o.x o.y o.z o.t) (QW.mk o.x o.y o.z o.t)).t else ofN (G (QW.mk (ofN (G (QW.mk o.x o.y o.z o.t) (QW.mk o.x o.y o.z o.t)).x) (ofN (G (QW.mk o.x o.y o.z o.t) (QW.mk o.x o.y o.z o.t)).y) (ofN (G (QW.mk o.x o.y o.z o.t) (QW.mk o.x o.y o.z o.t)).z) (ofN (G (QW.mk o.x o.y o.z o.t) (QW.mk o.x o.y o.z o.t)).t)) (QW.mk p.x p.y p.z p.t)).t)])] 16, [decide (i < (256 : Int)) = true, inI64 ((255 : Int) - i), inI64 (i + (1 : Int))]) := by kernel_rfl
theorem tmExit (G : QW → QW → W4) (p : QW) (n : N4) (z o : QW) (i : Int) : roundS Tryd.prog (lookG (tblCc G)) (orcA [(3, [(0, false)])]) [] 10 tmTd (bodyAt Tryd.prog 48 3) (tmInv p n z o i) =
    some (Ex.exit 0, St.mk (slotsOf 55 [(2, sc (IV.ptr 0 0)), (3, sc (IV.ptr 1 0)), (4, sc (IV.ptr 2 0)), (5, sc (IV.ptr 3 0)), (13, sc (IV.i64 i))]) [(0, Blk.mk true [IV.n4 p.x, IV.n4 p.y, IV.n4 p.z, IV.n4 p.t]), (1, Blk.mk true [IV.n4 n]), (2, Blk.mk true [IV.n4 z.x, IV.n4 z.y, IV.n4 z.z, IV.n4 z.t]), (3, Blk.mk true [IV.n4 o.x, IV.n4 o.y, IV.n4 o.z, IV.n4 o.t])] 16, [decide (i < (256 : Int)) = false]) := by kernel_rfl
theorem runTm (G : QW → QW → W4) (a b c d n : N4) (p z o : QW) (i : Int) : fnS Tryd.prog (lookG (tblCc G)) (orcA []) [⟨3, tmTd, .exit 0, tmInv p n z o i⟩] 10 48 [.val true [.n4 a, .n4 b, .n4 c, .n4 d], .val true [.n4 n]] =
    some (AV.val true [IV.n4 o.x, IV.n4 o.y, IV.n4 o.z, IV.n4 o.t], [LoopTo Tryd.prog (bodyAt Tryd.prog 48 3) (St.mk (slotsOf 55 [(2, sc (IV.ptr 0 0)), (3, sc (IV.ptr 1 0)), (4, sc (IV.ptr 2 0)), (5, sc (IV.ptr 3 0)), (13, sc (IV.i64 (0 : Int)))]) [(0, Blk.mk true [IV.n4 a, IV.n4 b, IV.n4 c, IV.n4 d]), (1, Blk.mk true [IV.n4 n]), (2, Blk.mk true [IV.n4 (N4.mk (BitVec.ofNat 64 0) (BitVec.ofNat 64 0) (BitVec.ofNat 64 0) (BitVec.ofNat 64 0)), IV.n4 (N4.mk (BitVec.ofNat 64 0) (BitVec.ofNat 64 0) (BitVec.ofNat 64 0) (BitVec.ofNat 64 0)), IV.n4 (N4.mk (BitVec.ofNat 64 0) (BitVec.ofNat 64 0) (BitVec.ofNat 64 0) (BitVec.ofNat 64 0)), IV.n4 (N4.mk (BitVec.ofNat 64 0) (BitVec.ofNat 64 0) (BitVec.ofNat 64 0) (BitVec.ofNat 64 0))]), (3, Blk.mk true [IV.n4 (N4.mk (BitVec.ofNat 64 0) (BitVec.ofNat 64 0) (BitVec.ofNat 64 0) (BitVec.ofNat 64 0)), IV.n4 (N4.mk (BitVec.ofNat 64 1) (BitVec.ofNat 64 0) (BitVec.ofNat 64 0) (BitVec.ofNat 64 0)), IV.n4 (N4.mk (BitVec.ofNat 64 1) (BitVec.ofNat 64 0) (BitVec.ofNat 64 0) (BitVec.ofNat 64 0)), IV.n4 (N4.mk (BitVec.ofNat 64 0) (BitVec.ofNat 64 0) (BitVec.ofNat 64 0) (BitVec.ofNat 64 0))])] 16) (Ex.exit 0) (St.mk (slotsOf 55 [(2, sc (IV.ptr 0 0)), (3, sc (IV.ptr 1 0)), (4, sc (IV.ptr 2 0)), (5, sc (IV.ptr 3 0)), (13, sc (IV.i64 i))]) [(0, Blk.mk true [IV.n4 p.x, IV.n4 p.y, IV.n4 p.z, IV.n4 p.t]), (1, Blk.mk true [IV.n4 n]), (2, Blk.mk true [IV.n4 z.x, IV.n4 z.y, IV.n4 z.z, IV.n4 z.t]), (3, Blk.mk true [IV.n4 o.x, IV.n4 o.y, IV.n4 o.z, IV.n4 o.t])] 16)]) := by kernel_rfl
end Go.Proofs.YtlgiaglbdifkpaaDoor
/- Contracts of layer 8: the program's curve: multiples, and what is told of points. Own work. -/
namespace Go.Proofs.YtlgiaglbdifkpaaDoor
open Go.Ev Go.Sp Go.RowKit
set_option maxRecDepth 100000
theorem wtimes_lt (p : W4) (n : Nat) : ∀ j, (wtimes p n j).Lt
  | 0 => by unfold wtimes W4.Lt nought4; decide
  | j + 1 => by
    unfold wtimes
    split <;> exact wadd_lt _ _
theorem tmNext (p : QW) (n : N4) (z o : QW) (i : Int) : roundS Tryd.prog (lookG (tblCc waddQ)) (orcA [(3, [(0, true)])]) [] 10 tmTd (bodyAt Tryd.prog 48 3) (tmInv p n z o i) =
    some (Ex.normal, tmInv p n z (qW (if bitN n ((255 : Int) - i) = BitVec.ofNat 64 0 then waddQ o o else waddQ (qW (waddQ o o)) p)) (i + 1), [decide (i < (256 : Int)) = true, inI64 ((255 : Int) - i), inI64 (i + (1 : Int))]) := by
  refine (tmRound waddQ p n z o i).trans ?_
  by_cases h : bitN n ((255 : Int) - i) = BitVec.ofNat 64 0
  · simp only [h, if_true]
    rfl
  · simp only [h, if_false]
    rfl
theorem bitN_if (n : N4) (j : Nat) (hj : j < 256) : (bitN n ((255 : Int) - (j : Nat)) = BitVec.ofNat 64 0) = (val n / 2 ^ (255 - j) % 2 = 0) := by
  have hi : ((255 : Int) - (j : Nat)).toNat = 255 - j := by omega
  unfold bitN
  rw [if_neg (by omega), hi]
  have h2 : val n / 2 ^ (255 - j) % 2 < 2 := Nat.mod_lt _ (by omega)
  rcases (by omega : val n / 2 ^ (255 - j) % 2 = 0 ∨ val n / 2 ^ (255 - j) % 2 = 1) with e | e <;> rw [e] <;> decide
theorem tmLoop (p : QW) (n : N4) (z : QW) : LoopTo Tryd.prog (bodyAt Tryd.prog 48 3) (tmInv p n z (qW nought4) 0) (.exit 0) (tmInv p n z (qW (wtimes p.w (val n) 256)) ((256 : Nat) : Int)) := by
  refine LoopTo.intro (α := Nat) gsCc fol (fun j => tmInv p n z (qW (wtimes p.w (val n) j)) (j : Nat)) (fun j => j ≤ 256) (fun j => 256 - j) (by simp) ?_ 0 (by simp)
  intro j hj
  by_cases he : j = 256
  · subst he
    exact .inr ⟨_, _, _, _, _, tmExit waddQ p n z _ _, decide_eq_false (by omega), trivial⟩
  · left
    have r0 := tmNext p n z (qW (wtimes p.w (val n) j)) (j : Nat)
    have e1 : ((j : Nat) : Int) + 1 = ((j + 1 : Nat) : Int) := by omega
    have e2 : (if bitN n ((255 : Int) - (j : Nat)) = BitVec.ofNat 64 0 then waddQ (qW (wtimes p.w (val n) j)) (qW (wtimes p.w (val n) j)) else waddQ (qW (waddQ (qW (wtimes p.w (val n) j)) (qW (wtimes p.w (val n) j)))) p) = wtimes p.w (val n) (j + 1) := by
      simp only [bitN_if n j (by omega)]
      unfold waddQ
      rw [qW_w (wtimes_lt _ _ _), qW_w (wadd_lt _ _)]
      rfl
    rw [e1, e2] at r0
    exact ⟨_, _, _, _, _, j + 1, r0, ⟨decide_eq_true (by omega), by unfold inI64; omega, by unfold inI64; omega, trivial⟩, by omega, by omega⟩
def wtimesQ (p : QW) (n : N4) : W4 := wtimes p.w (val n) 256
theorem ctTimesC : CtSOk Tryd.prog 48 (.fn (spTimesG wtimesQ)) := FnS_of_fnS gsCc fol fun ds r cs h hc => by
  unfold spTimesG at h
  split at h
  case h_2 => simp at h
  rename_i a b c d n
  simp only [Option.some.injEq, Prod.mk.injEq] at h
  obtain ⟨rfl, rfl⟩ := h
  have lp := tmLoop ⟨a, b, c, d⟩ n ⟨ofN 0, ofN 0, ofN 0, ofN 0⟩
  have r0 := runTm waddQ a b c d n ⟨a, b, c, d⟩ ⟨ofN 0, ofN 0, ofN 0, ofN 0⟩ (qW (wtimesQ ⟨a, b, c, d⟩ n)) ((256 : Nat) : Int)
  exact use_run r0 rfl ⟨lp, trivial⟩
/-! ### Points -/
def tblCd0 : List (FuncId × CtS) := [(46, .fn spOnC), (47, .fn spWid), (45, .fn (sp1N fNeg))]
theorem okCd0 : TblOk Tryd.prog tblCd0 := ⟨⟨ctOnC, by kernel_rfl⟩, ⟨ctWid, by kernel_rfl⟩, ⟨ctPNeg, by kernel_rfl⟩, trivial⟩
theorem gsCd0 : GSound Tryd.prog (upG (lookG tblCd0)) := GSound_of_tbl okCd0
def tblCd (A : QW → QW → W4) (T : QW → N4 → W4) (v : Nat → Nat) : List (FuncId × CtS) :=
  (49, .fn (spWAddG A)) :: (48, .fn (spTimesG T)) :: (50, .fn (spWPtG v)) :: tblCd0
theorem gsCd : GSound Tryd.prog (upG (lookG (tblCd waddQ wtimesQ fInv))) := GSound_of_tbl ⟨⟨ctWAdd, by kernel_rfl⟩, ⟨ctTimesC, by kernel_rfl⟩, ⟨ctWPt, by kernel_rfl⟩, okCd0⟩
theorem runNegT (A : QW → QW → W4) (T : QW → N4 → W4) (v : Nat → Nat) (x y : N4) : fnS Tryd.prog (lookG (tblCd A T v)) (orcA [(1, [(2, false)])]) [] 10 22 [.val true [.n4 x, .n4 y]] =
    some (AV.tup [(true, [IV.n4 (ofN (fNeg (val x % Pp))), IV.n4 y]), (false, [IV.i64 (0 : Int)])], [(!onV (val x) (val y)) = false]) := by kernel_rfl
theorem runNegP (A : QW → QW → W4) (T : QW → N4 → W4) (v : Nat → Nat) (x y : N4) : fnS Tryd.prog (lookG (tblCd A T v)) (orcA [(1, [(2, true)])]) [] 10 22 [.val true [.n4 x, .n4 y]] =
    some (AV.tup [(true, [IV.n4 (N4.mk (BitVec.ofNat 64 0) (BitVec.ofNat 64 0) (BitVec.ofNat 64 0) (BitVec.ofNat 64 0)), IV.n4 (N4.mk (BitVec.ofNat 64 0) (BitVec.ofNat 64 0) (BitVec.ofNat 64 0) (BitVec.ofNat 64 0))]), (false, [IV.i64 (7 : Int)])], [(!onV (val x) (val y)) = true]) := by kernel_rfl
theorem runMulT (A : QW → QW → W4) (T : QW → N4 → W4) (v : Nat → Nat) (n x y : N4) : fnS Tryd.prog (lookG (tblCd A T v)) (orcA [(1, [(2, false)])]) [] 10 29 [.val true [.n4 n], .val true [.n4 x, .n4 y]] =
    some (AV.tup [(true, [IV.n4 (ofN (fMul (val (ofN (T (QW.mk (qW (w4 (val x) (val y))).x (qW (w4 (val x) (val y))).y (qW (w4 (val x) (val y))).z (qW (w4 (val x) (val y))).t) n).x) % Pp) (v (val (ofN (T (QW.mk (qW (w4 (val x) (val y))).x (qW (w4 (val x) (val y))).y (qW (w4 (val x) (val y))).z (qW (w4 (val x) (val y))).t) n).z) % Pp)))), IV.n4 (ofN (fMul (val (ofN (T (QW.mk (qW (w4 (val x) (val y))).x (qW (w4 (val x) (val y))).y (qW (w4 (val x) (val y))).z (qW (w4 (val x) (val y))).t) n).y) % Pp) (v (val (ofN (T (QW.mk (qW (w4 (val x) (val y))).x (qW (w4 (val x) (val y))).y (qW (w4 (val x) (val y))).z (qW (w4 (val x) (val y))).t) n).z) % Pp))))]), (false, [IV.i64 (0 : Int)])], [(!onV (val x) (val y)) = false, val x < Pp, val y < Pp]) := by kernel_rfl
theorem runMulP (A : QW → QW → W4) (T : QW → N4 → W4) (v : Nat → Nat) (n x y : N4) : fnS Tryd.prog (lookG (tblCd A T v)) (orcA [(1, [(2, true)])]) [] 10 29 [.val true [.n4 n], .val true [.n4 x, .n4 y]] =
    some (AV.tup [(true, [IV.n4 (N4.mk (BitVec.ofNat 64 0) (BitVec.ofNat 64 0) (BitVec.ofNat 64 0) (BitVec.ofNat 64 0)), IV.n4 (N4.mk (BitVec.ofNat 64 0) (BitVec.ofNat 64 0) (BitVec.ofNat 64 0) (BitVec.ofNat 64 0))]), (false, [IV.i64 (7 : Int)])], [(!onV (val x) (val y)) = true]) := by kernel_rfl
theorem runBothT (A : QW → QW → W4) (T : QW → N4 → W4) (v : Nat → Nat) (n x y m x' y' : N4) : fnS Tryd.prog (lookG (tblCd A T v)) (orcA [(1, [(2, false), (6, false)])]) [] 10 23 [.val true [.n4 n], .val true [.n4 x, .n4 y], .val true [.n4 m], .val true [.n4 x', .n4 y']] =
    some (AV.tup [(true, [IV.n4 (ofN (fMul (val (ofN (A (QW.mk (ofN (T (QW.mk (qW (w4 (val x) (val y))).x (qW (w4 (val x) (val y))).y (qW (w4 (val x) (val y))).z (qW (w4 (val x) (val y))).t) n).x) (ofN (T (QW.mk (qW (w4 (val x) (val y))).x (qW (w4 (val x) (val y))).y (qW (w4 (val x) (val y))).z (qW (w4 (val x) (val y))).t) n).y) (ofN (T (QW.mk (qW (w4 (val x) (val y))).x (qW (w4 (val x) (val y))).y (qW (w4 (val x) (val y))).z (qW (w4 (val x) (val y))).t) n).z) (ofN (T (QW.mk (qW (w4 (val x) (val y))).x (qW (w4 (val x) (val y))).y (qW (w4 (val x) (val y))).z (qW (w4 (val x) (val y))).t) n).t)) (QW.mk (ofN (T (QW.mk (qW (w4 (val x') (val y'))).x (qW (w4 (val x') (val y'))).y (qW (w4 (val x') (val y'))).z (qW (w4 (val x') (val y'))).t) m).x) (ofN (T (QW.mk (qW (w4 (val x') (val y'))).x (qW (w4 (val x') (val y'))).y (qW (w4 (val x') (val y'))).z (qW (w4 (val x') (val y'))).t) m).y) (ofN (T (QW.mk (qW (w4 (val x') (val y'))).x (qW (w4 (val x') (val y'))).y (qW (w4 (val x') (val y'))).z (qW (w4 (val x') (val y'))).t) m).z) (ofN (T (QW.mk (qW (w4 (val x') (val y'))).x (qW (w4 (val x') (val y'))).y (qW (w4 (val x') (val y'))).z (qW (w4 (val x') (val y'))).t) m).t))).x) % Pp) (v (val (ofN (A (QW.mk (ofN (T (QW.mk (qW (w4 (val x) (val y))).x (qW (w4 (val x) (val y))).y (qW (w4 (val x) (val y))).z (qW (w4 (val x) (val y))).t) n).x) (ofN (T (QW.mk (qW (w4 (val x) (val y))).x (qW (w4 (val x) (val y))).y (qW (w4 (val x) (val y))).z (qW (w4 (val x) (val y))).t) n).y) (ofN (T (QW.mk (qW (w4 (val x) (val y))).x (qW (w4 (val x) (val y))).y (qW (w4 (val x) (val y))).z (qW (w4 (val x) (val y))).t) n).z) (ofN (T (QW.mk (qW (w4 (val x) (val y))).x (qW (w4 (val x) (val y))).y (qW (w4 (val x) (val y))).z (qW (w4 (val x) (val y))).t) n).t)) (QW.mk (ofN (T (QW.mk (qW (w4 (val x') (val y'))).x (qW (w4 (val x') (val y'))).y (qW (w4 (val x') (val y'))).z (qW (w4 (val x') (val y'))).t) m).x) (ofN (T (QW.mk (qW (w4 (val x') (val y'))).x (qW (w4 (val x') (val y'))).y (qW (w4 (val x') (val y'))).z (qW (w4 (val x') (val y'))).t) m).y) (ofN (T (QW.mk (qW (w4 (val x') (val y'))).x (qW (w4 (val x') (val y'))).y (qW (w4 (val x') (val y'))).z (qW (w4 (val x') (val y'))).t) m).z) (ofN (T (QW.mk (qW (w4 (val x') (val y'))).x (qW (w4 (val x') (val y'))).y (qW (w4 (val x') (val y'))).z (qW (w4 (val x') (val y'))).t) m).t))).z) % Pp)))), IV.n4 (ofN (fMul (val (ofN (A (QW.mk (ofN (T (QW.mk (qW (w4 (val x) (val y))).x (qW (w4 (val x) (val y))).y (qW (w4 (val x) (val y))).z (qW (w4 (val x) (val y))).t) n).x) (ofN (T (QW.mk (qW (w4 (val x) (val y))).x (qW (w4 (val x) (val y))).y (qW (w4 (val x) (val y))).z (qW (w4 (val x) (val y))).t) n).y) (ofN (T (QW.mk (qW (w4 (val x) (val y))).x (qW (w4 (val x) (val y))).y (qW (w4 (val x) (val y))).z (qW (w4 (val x) (val y))).t) n).z) (ofN (T (QW.mk (qW (w4 (val x) (val y))).x (qW (w4 (val x) (val y))).y (qW (w4 (val x) (val y))).z (qW (w4 (val x) (val y))).t) n).t)) (QW.mk (ofN (T (QW.mk (qW (w4 (val x') (val y'))).x (qW (w4 (val x') (val y'))).y (qW (w4 (val x') (val y'))).z (qW (w4 (val x') (val y'))).t) m).x) (ofN (T (QW.mk (qW (w4 (val x') (val y'))).x (qW (w4 (val x') (val y'))).y (qW (w4 (val x') (val y'))).z (qW (w4 (val x') (val y'))).t) m).y) (ofN (T (QW.mk (qW (w4 (val x') (val y'))).x (qW (w4 (val x') (val y'))).y (qW (w4 (val x') (val y'))).z (qW (w4 (val x') (val y'))).t) m).z) (ofN (T (QW.mk (qW (w4 (val x') (val y'))).x (qW (w4 (val x') (val y'))).y (qW (w4 (val x') (val y'))).z (qW (w4 (val x') (val y'))).t) m).t))).y) % Pp) (v (val (ofN (A (QW.mk (ofN (T (QW.mk (qW (w4 (val x) (val y))).x (qW (w4 (val x) (val y))).y (qW (w4 (val x) (val y))).z (qW (w4 (val x) (val y))).t) n).x) (ofN (T (QW.mk (qW (w4 (val x) (val y))).x (qW (w4 (val x) (val y))).y (qW (w4 (val x) (val y))).z (qW (w4 (val x) (val y))).t) n).y) (ofN (T (QW.mk (qW (w4 (val x) (val y))).x (qW (w4 (val x) (val y))).y (qW (w4 (val x) (val y))).z (qW (w4 (val x) (val y))).t) n).z) (ofN (T (QW.mk (qW (w4 (val x) (val y))).x (qW (w4 (val x) (val y))).y (qW (w4 (val x) (val y))).z (qW (w4 (val x) (val y))).t) n).t)) (QW.mk (ofN (T (QW.mk (qW (w4 (val x') (val y'))).x (qW (w4 (val x') (val y'))).y (qW (w4 (val x') (val y'))).z (qW (w4 (val x') (val y'))).t) m).x) (ofN (T (QW.mk (qW (w4 (val x') (val y'))).x (qW (w4 (val x') (val y'))).y (qW (w4 (val x') (val y'))).z (qW (w4 (val x') (val y'))).t) m).y) (ofN (T (QW.mk (qW (w4 (val x') (val y'))).x (qW (w4 (val x') (val y'))).y (qW (w4 (val x') (val y'))).z (qW (w4 (val x') (val y'))).t) m).z) (ofN (T (QW.mk (qW (w4 (val x') (val y'))).x (qW (w4 (val x') (val y'))).y (qW (w4 (val x') (val y'))).z (qW (w4 (val x') (val y'))).t) m).t))).z) % Pp))))]), (false, [IV.i64 (0 : Int)])], [(!onV (val x) (val y)) = false, (!onV (val x') (val y')) = false, val x < Pp, val y < Pp, val x' < Pp, val y' < Pp]) := by kernel_rfl
theorem runBothP (A : QW → QW → W4) (T : QW → N4 → W4) (v : Nat → Nat) (n x y m x' y' : N4) : fnS Tryd.prog (lookG (tblCd A T v)) (orcA [(1, [(2, true)])]) [] 10 23 [.val true [.n4 n], .val true [.n4 x, .n4 y], .val true [.n4 m], .val true [.n4 x', .n4 y']] =
    some (AV.tup [(true, [IV.n4 (N4.mk (BitVec.ofNat 64 0) (BitVec.ofNat 64 0) (BitVec.ofNat 64 0) (BitVec.ofNat 64 0)), IV.n4 (N4.mk (BitVec.ofNat 64 0) (BitVec.ofNat 64 0) (BitVec.ofNat 64 0) (BitVec.ofNat 64 0))]), (false, [IV.i64 (7 : Int)])], [(!onV (val x) (val y)) = true]) := by kernel_rfl
theorem runBothQ (A : QW → QW → W4) (T : QW → N4 → W4) (v : Nat → Nat) (n x y m x' y' : N4) : fnS Tryd.prog (lookG (tblCd A T v)) (orcA [(1, [(2, false), (6, true)])]) [] 10 23 [.val true [.n4 n], .val true [.n4 x, .n4 y], .val true [.n4 m], .val true [.n4 x', .n4 y']] =
    some (AV.tup [(true, [IV.n4 (N4.mk (BitVec.ofNat 64 0) (BitVec.ofNat 64 0) (BitVec.ofNat 64 0) (BitVec.ofNat 64 0)), IV.n4 (N4.mk (BitVec.ofNat 64 0) (BitVec.ofNat 64 0) (BitVec.ofNat 64 0) (BitVec.ofNat 64 0))]), (false, [IV.i64 (7 : Int)])], [(!onV (val x) (val y)) = false, (!onV (val x') (val y')) = true]) := by kernel_rfl
/-- The point of two numbers. -/
def ptV (x y : N4) (h : onV (val x) (val y) = true) : Pt Ed := ptN (val x) (val y) (onV_iff.1 h).2.2
/-- A point's two numbers, and no error; or none. -/
structure PR where
  x : N4
  y : N4
  e : Int
def prP (P : Pt Ed) : PR := ⟨ofN P.x.val, ofN P.y.val, 0⟩
def prE (e : Int) : PR := ⟨ofN 0, ofN 0, e⟩
def addR (x y x' y' : N4) : PR := if h : onV (val x) (val y) = true then if h' : onV (val x') (val y') = true then prP ((ptV x y h).add (ptV x' y' h')) else prE 7 else prE 7
def negR (x y : N4) : PR := if h : onV (val x) (val y) = true then prP (ptV x y h).neg else prE 7
def multR (n x y : N4) : PR := if h : onV (val x) (val y) = true then prP (Pt.times (val n) (ptV x y h)) else prE 7
def bothR (n x y m x' y' : N4) : PR := if h : onV (val x) (val y) = true then if h' : onV (val x') (val y') = true then prP ((Pt.times (val n) (ptV x y h)).add (Pt.times (val m) (ptV x' y' h'))) else prE 7 else prE 7
def PR.av (r : PR) : AV := .tup [(true, [.n4 r.x, .n4 r.y]), (false, [.i64 r.e])]
theorem ptV_R4 {x y : N4} (h : onV (val x) (val y) = true) : R4 (ptV x y h) (w4 (val x) (val y)) := by
  obtain ⟨h1, h2, h3⟩ := onV_iff.1 h
  exact R4.of h1 h2 h3
theorem val256 (n : N4) : val n < 2 ^ 256 := by
  have := val_lt n
  exact this
/-- What four numbers tell of a point. -/
theorem out_R4 {P : Pt Ed} {w : W4} (h : R4 P w) : (⟨ofN (fMul (val (ofN w.x) % Pp) (fInv (val (ofN w.z) % Pp))), ofN (fMul (val (ofN w.y) % Pp) (fInv (val (ofN w.z) % Pp))), 0⟩ : PR) = prP P := by
  obtain ⟨l1, l2, l3, l4⟩ := h.1
  obtain ⟨p1, p2⟩ := h.point
  rw [val_lo l1, val_lo l2, val_lo l3, Nat.mod_eq_of_lt l1, Nat.mod_eq_of_lt l2, Nat.mod_eq_of_lt l3, p1, p2]
  rfl
theorem qw_w {x y : N4} (h : onV (val x) (val y) = true) : (qW (w4 (val x) (val y))).w = w4 (val x) (val y) := qW_w (ptV_R4 h).1
theorem bnT {b : Bool} (h : b = true) : (!b) = false := by rw [h]; rfl
theorem bnF {b : Bool} (h : ¬ b = true) : (!b) = true := by cases b <;> simp_all
theorem waddQ_R4 {P Q : Pt Ed} {p q : QW} (hp : R4 P p.w) (hq : R4 Q q.w) : R4 (P.add Q) (waddQ p q) := hp.add hq
theorem wtimesQ_R4 {P : Pt Ed} {p : QW} (hp : R4 P p.w) (n : N4) : R4 (Pt.times (val n) P) (wtimesQ p n) := hp.mult (val n) (val256 n)
theorem qR4 {P : Pt Ed} {w : W4} (h : R4 P w) : R4 P (qW w).w := by rw [qW_w h.1]; exact h
def spAddCG (G : N4 → N4 → N4 → N4 → PR) : List AV → Option (AV × List Prop)
  | [.val true [.n4 x, .n4 y], .val true [.n4 x', .n4 y']] => some (.tup [(true, [.n4 (G x y x' y').x, .n4 (G x y x' y').y]), (false, [.i64 (G x y x' y').e])], [])
  | _ => none
def spNegCG (G : N4 → N4 → PR) : List AV → Option (AV × List Prop)
  | [.val true [.n4 x, .n4 y]] => some (.tup [(true, [.n4 (G x y).x, .n4 (G x y).y]), (false, [.i64 (G x y).e])], [])
  | _ => none
def spMulCG (G : N4 → N4 → N4 → PR) : List AV → Option (AV × List Prop)
  | [.val true [.n4 n], .val true [.n4 x, .n4 y]] => some (.tup [(true, [.n4 (G n x y).x, .n4 (G n x y).y]), (false, [.i64 (G n x y).e])], [])
  | _ => none
def spBothCG (G : N4 → N4 → N4 → N4 → N4 → N4 → PR) : List AV → Option (AV × List Prop)
  | [.val true [.n4 n], .val true [.n4 x, .n4 y], .val true [.n4 m], .val true [.n4 x', .n4 y']] => some (.tup [(true, [.n4 (G n x y m x' y').x, .n4 (G n x y m x' y').y]), (false, [.i64 (G n x y m x' y').e])], [])
  | _ => none
theorem ctNegC : CtSOk Tryd.prog 22 (.fn (spNegCG negR)) := FnS_of_fnS gsCd fol fun ds r cs h hc => by
  unfold spNegCG at h
  split at h
  case h_2 => simp at h
  rename_i x y
  simp only [Option.some.injEq, Prod.mk.injEq] at h
  obtain ⟨rfl, rfl⟩ := h
  by_cases h : onV (val x) (val y) = true
  · obtain ⟨a1, a2, _⟩ := onV_iff.1 h
    have e : negR x y = prP (ptV x y h).neg := by rw [negR, dif_pos h]
    refine use_run (runNegT waddQ wtimesQ fInv x y) ?_ ⟨bnT h, trivial⟩
    have e1 : (ptV x y h).neg.x.val = fNeg (val x % Pp) := by
      show (-(tF (val x))).val = _
      rw [← tF_neg a1, val_tF (fNeg_lt _), Nat.mod_eq_of_lt a1]
    have e2 : ofN (ptV x y h).neg.y.val = y := by
      show ofN (tF (val y)).val = y
      rw [val_tF a2, ofN_val]
    rw [e]
    unfold prP
    rw [e1, e2]
  · have e : negR x y = prE 7 := by rw [negR, dif_neg h]
    exact use_run (runNegP waddQ wtimesQ fInv x y) (by rw [e]; rfl) ⟨bnF h, trivial⟩
theorem ctMulC : CtSOk Tryd.prog 29 (.fn (spMulCG multR)) := FnS_of_fnS gsCd fol fun ds r cs h hc => by
  unfold spMulCG at h
  split at h
  case h_2 => simp at h
  rename_i n x y
  simp only [Option.some.injEq, Prod.mk.injEq] at h
  obtain ⟨rfl, rfl⟩ := h
  by_cases h : onV (val x) (val y) = true
  · obtain ⟨a1, a2, _⟩ := onV_iff.1 h
    have hR := wtimesQ_R4 (qR4 (ptV_R4 h)) n
    have e : multR n x y = prP (Pt.times (val n) (ptV x y h)) := by rw [multR, dif_pos h]
    refine use_run (runMulT waddQ wtimesQ fInv n x y) ?_ ⟨bnT h, a1, a2, trivial⟩
    rw [e, ← out_R4 hR] <;> rfl
  · have e : multR n x y = prE 7 := by rw [multR, dif_neg h]
    exact use_run (runMulP waddQ wtimesQ fInv n x y) (by rw [e]; rfl) ⟨bnF h, trivial⟩
theorem ctBothC : CtSOk Tryd.prog 23 (.fn (spBothCG bothR)) := FnS_of_fnS gsCd fol fun ds r cs h hc => by
  unfold spBothCG at h
  split at h
  case h_2 => simp at h
  rename_i n x y m x' y'
  simp only [Option.some.injEq, Prod.mk.injEq] at h
  obtain ⟨rfl, rfl⟩ := h
  by_cases h : onV (val x) (val y) = true
  · by_cases h' : onV (val x') (val y') = true
    · obtain ⟨a1, a2, _⟩ := onV_iff.1 h
      obtain ⟨b1, b2, _⟩ := onV_iff.1 h'
      have hR := waddQ_R4 (qR4 (wtimesQ_R4 (qR4 (ptV_R4 h)) n)) (qR4 (wtimesQ_R4 (qR4 (ptV_R4 h')) m))
      have e : bothR n x y m x' y' = prP ((Pt.times (val n) (ptV x y h)).add (Pt.times (val m) (ptV x' y' h'))) := by rw [bothR, dif_pos h, dif_pos h']
      refine use_run (runBothT waddQ wtimesQ fInv n x y m x' y') ?_ ⟨bnT h, bnT h', a1, a2, b1, b2, trivial⟩
      rw [e, ← out_R4 hR] <;> rfl
    · have e : bothR n x y m x' y' = prE 7 := by rw [bothR, dif_pos h, dif_neg h']
      exact use_run (runBothQ waddQ wtimesQ fInv n x y m x' y') (by rw [e]; rfl) ⟨bnT h, bnF h', trivial⟩
  · have e : bothR n x y m x' y' = prE 7 := by rw [bothR, dif_neg h]
    exact use_run (runBothP waddQ wtimesQ fInv n x y m x' y') (by rw [e]; rfl) ⟨bnF h, trivial⟩
/-! ### Small points -/
def tblCe (M : N4 → N4 → N4 → PR) : List (FuncId × CtS) :=
  (29, .fn (spMulCG M)) :: []
theorem gsCe : GSound Tryd.prog (upG (lookG (tblCe multR))) := GSound_of_tbl ⟨⟨ctMulC, by kernel_rfl⟩, trivial⟩
theorem runSmT (M : N4 → N4 → N4 → PR) (x y : N4) : fnS Tryd.prog (lookG (tblCe M)) (orcA [(2, [(1, true)])]) [] 10 21 [.val true [.n4 x, .n4 y]] =
    some (sc (IV.bool ((M ((N4.mk (BitVec.ofInt 64 (0 : Int)) (BitVec.ofInt 64 (0 : Int)) (BitVec.ofInt 64 (0 : Int)) (BitVec.ofInt 64 (0 : Int))).set ((0, Operand.const (Value.int IntKind.u64 (8 : Int))).fst * Tryd.prog.types[32].size) (BitVec.ofInt 64 (8 : Int))) x y).x.eq (N4.mk (BitVec.ofNat 64 0) (BitVec.ofNat 64 0) (BitVec.ofNat 64 0) (BitVec.ofNat 64 0)) && ((M ((N4.mk (BitVec.ofInt 64 (0 : Int)) (BitVec.ofInt 64 (0 : Int)) (BitVec.ofInt 64 (0 : Int)) (BitVec.ofInt 64 (0 : Int))).set ((0, Operand.const (Value.int IntKind.u64 (8 : Int))).fst * Tryd.prog.types[32].size) (BitVec.ofInt 64 (8 : Int))) x y).y.eq (N4.mk (BitVec.ofNat 64 1) (BitVec.ofNat 64 0) (BitVec.ofNat 64 0) (BitVec.ofNat 64 0)) && true))), [((M ((N4.mk (BitVec.ofInt 64 (0 : Int)) (BitVec.ofInt 64 (0 : Int)) (BitVec.ofInt 64 (0 : Int)) (BitVec.ofInt 64 (0 : Int))).set ((0, Operand.const (Value.int IntKind.u64 (8 : Int))).fst * Tryd.prog.types[32].size) (BitVec.ofInt 64 (8 : Int))) x y).e == (0 : Int)) = true]) := by kernel_rfl
theorem runSmF (M : N4 → N4 → N4 → PR) (x y : N4) : fnS Tryd.prog (lookG (tblCe M)) (orcA [(2, [(1, false)])]) [] 10 21 [.val true [.n4 x, .n4 y]] =
    some (sc (IV.bool false), [((M ((N4.mk (BitVec.ofInt 64 (0 : Int)) (BitVec.ofInt 64 (0 : Int)) (BitVec.ofInt 64 (0 : Int)) (BitVec.ofInt 64 (0 : Int))).set ((0, Operand.const (Value.int IntKind.u64 (8 : Int))).fst * Tryd.prog.types[32].size) (BitVec.ofInt 64 (8 : Int))) x y).e == (0 : Int)) = false]) := by kernel_rfl
def eightN : N4 := ⟨8#64, 0#64, 0#64, 0#64⟩
theorem eight_eq : (N4.mk (BitVec.ofInt 64 (0 : Int)) (BitVec.ofInt 64 (0 : Int)) (BitVec.ofInt 64 (0 : Int)) (BitVec.ofInt 64 (0 : Int))).set ((0, Operand.const (Value.int IntKind.u64 (8 : Int))).fst * Tryd.prog.types[32].size) (BitVec.ofInt 64 (8 : Int)) = eightN := by kernel_rfl
def smallM (M : N4 → N4 → N4 → PR) (x y : N4) : Bool := ((M eightN x y).e == 0) && ((M eightN x y).x.eq (ofN 0) && ((M eightN x y).y.eq (ofN 1) && true))
def smallR : N4 → N4 → Bool := smallM multR
def spSmG (s : N4 → N4 → Bool) : List AV → Option (AV × List Prop)
  | [.val true [.n4 x, .n4 y]] => some (sc (.bool (s x y)), [])
  | _ => none
theorem ctSmallC : CtSOk Tryd.prog 21 (.fn (spSmG smallR)) := FnS_of_fnS gsCe fol fun ds r cs h hc => by
  unfold spSmG at h
  split at h
  case h_2 => simp at h
  rename_i x y
  simp only [Option.some.injEq, Prod.mk.injEq] at h
  obtain ⟨rfl, rfl⟩ := h
  by_cases h : (multR eightN x y).e = 0
  · have r0 := runSmT multR x y
    rw [eight_eq] at r0
    refine use_run r0 ?_ ⟨by rw [h]; rfl, trivial⟩
    unfold smallR smallM
    rw [h]
    rfl
  · have r0 := runSmF multR x y
    rw [eight_eq] at r0
    refine use_run r0 ?_ ⟨beq_eq_false_iff_ne.2 h, trivial⟩
    unfold smallR smallM
    rw [beq_eq_false_iff_ne.2 h]
    rfl
end Go.Proofs.YtlgiaglbdifkpaaDoor
/- Contracts of layer 8: the program's points as bytes. Own work. -/
namespace Go.Proofs.YtlgiaglbdifkpaaDoor
open Go.Ev Go.Sp Go.RowKit
set_option maxRecDepth 100000
abbrev BL := List (BitVec 8)
def tblCf0 : List (FuncId × CtS) := [(46, .fn spOnC), (57, .fn spPEnc), (27, .fn spFrom), (44, .fn spPick), (43, .fn spCD), (42, .fn (sp2N fAdd)), (40, .fn (sp2N fSub)), (38, .fn (sp2N fMul)), (45, .fn (sp1N fNeg)), (37, .fn spRight)]
theorem okCf0 : TblOk Tryd.prog tblCf0 := ⟨⟨ctOnC, by kernel_rfl⟩, ⟨ctPEnc, by kernel_rfl⟩, ⟨ctFrom, by kernel_rfl⟩, ⟨ctPick, by kernel_rfl⟩, ⟨ctCD, by kernel_rfl⟩, ⟨ctPAdd, by kernel_rfl⟩, ⟨ctPSub, by kernel_rfl⟩, ⟨ctPMul, by kernel_rfl⟩, ⟨ctPNeg, by kernel_rfl⟩, ⟨ctRight, by kernel_rfl⟩, trivial⟩
theorem gsCf0 : GSound Tryd.prog (upG (lookG tblCf0)) := GSound_of_tbl okCf0
def spPRtG (g : Nat → Nat × Bool) : List AV → Option (AV × List Prop)
  | [.val true [.n4 a]] => some (.tup [(true, [.n4 (ofN (g (val a % Pp)).1)]), (false, [.bool (g (val a % Pp)).2])], [])
  | _ => none
def tblCf (g : Nat → Nat × Bool) (v : Nat → Nat) : List (FuncId × CtS) :=
  (39, .fn (spPRtG g)) :: (41, .fn (sp1N v)) :: tblCf0
theorem gsCf : GSound Tryd.prog (upG (lookG (tblCf prV fInv))) := GSound_of_tbl ⟨⟨ctPRt, by kernel_rfl⟩, ⟨ctPInv, by kernel_rfl⟩, okCf0⟩
theorem runEncT (g : Nat → Nat × Bool) (v : Nat → Nat) (x y : N4) : fnS Tryd.prog (lookG (tblCf g v)) (orcA [(1, [(2, false)])]) [] 10 30 [.val true [.n4 x, .n4 y]] =
    some (AV.tup [(false, [IV.d8 (cutL ((bl (val y % Pp) 32).set 31 ((bl (val y % Pp) 32).getD 31 (BitVec.ofNat 8 0) ||| BitVec.setWidth 8 (x.get 0 &&& BitVec.ofNat 64 1) <<< 7)) 0 (bl (val y % Pp) 32).length (bl (val y % Pp) 32).length)]), (false, [IV.i64 (0 : Int)])], [(!onV (val x) (val y)) = false, (0 : Int) ≤ (31 : Int), 31 < (bl (val y % Pp) 32).length, 31 < (bl (val y % Pp) 32).length, (0 : Int) ≤ (0 : Int), 0 < 4, 0 < 8, (0 : Int) ≤ (31 : Int), 31 < (bl (val y % Pp) 32).length, 31 < (bl (val y % Pp) 32).length, 0 + (bl (val y % Pp) 32).length ≤ (bl (val y % Pp) 32).length]) := by kernel_rfl
theorem runEncF (g : Nat → Nat × Bool) (v : Nat → Nat) (x y : N4) : fnS Tryd.prog (lookG (tblCf g v)) (orcA [(1, [(2, true)])]) [] 10 30 [.val true [.n4 x, .n4 y]] =
    some (AV.tup [(false, [IV.d8 (cutL [] 0 0 0)]), (false, [IV.i64 (7 : Int)])], [(!onV (val x) (val y)) = true, 0 ≤ 0]) := by kernel_rfl
theorem runDecL (g : Nat → Nat × Bool) (v : Nat → Nat) (b : BL) : fnS Tryd.prog (lookG (tblCf g v)) (orcA [(1, [(2, true)])]) [] 10 20 [sc (.d8 b)] =
    some (AV.tup [(true, [IV.n4 (N4.mk (BitVec.ofNat 64 0) (BitVec.ofNat 64 0) (BitVec.ofNat 64 0) (BitVec.ofNat 64 0)), IV.n4 (N4.mk (BitVec.ofNat 64 0) (BitVec.ofNat 64 0) (BitVec.ofNat 64 0) (BitVec.ofNat 64 0))]), (false, [IV.i64 (1 : Int)])], [(!(↑(List.length b) : Int) == (32 : Int)) = true]) := by kernel_rfl
theorem runDecR (g : Nat → Nat × Bool) (v : Nat → Nat) (b : BL) : fnS Tryd.prog (lookG (tblCf g v)) (orcA [(1, [(2, false)]), (6, [(2, true)])]) [] 10 20 [sc (.d8 b)] =
    some (AV.tup [(true, [IV.n4 (N4.mk (BitVec.ofNat 64 0) (BitVec.ofNat 64 0) (BitVec.ofNat 64 0) (BitVec.ofNat 64 0)), IV.n4 (N4.mk (BitVec.ofNat 64 0) (BitVec.ofNat 64 0) (BitVec.ofNat 64 0) (BitVec.ofNat 64 0))]), (false, [IV.i64 (6 : Int)])], [(!(↑(List.length b) : Int) == (32 : Int)) = false, List.length b = List.length b, (0 : Int) ≤ (3 : Int), 3 < 4, 3 < 4, (0 : Int) ≤ (3 : Int), 3 < 4, 3 < 4, (0 : Int) ≤ (3 : Int), 3 < 4, 3 < 4, (!decide (val ((fromV b).fst.set 3 ((fromV b).fst.get 3 &&& BitVec.ofNat 64 9223372036854775807)) < Pp)) = true]) := by kernel_rfl
theorem runDecN (g : Nat → Nat × Bool) (v : Nat → Nat) (b : BL) : fnS Tryd.prog (lookG (tblCf g v)) (orcA [(1, [(2, false)]), (6, [(2, false)]), (10, [(1, true)])]) [] 10 20 [sc (.d8 b)] =
    some (AV.tup [(true, [IV.n4 (N4.mk (BitVec.ofNat 64 0) (BitVec.ofNat 64 0) (BitVec.ofNat 64 0) (BitVec.ofNat 64 0)), IV.n4 (N4.mk (BitVec.ofNat 64 0) (BitVec.ofNat 64 0) (BitVec.ofNat 64 0) (BitVec.ofNat 64 0))]), (false, [IV.i64 (7 : Int)])], [(!(↑(List.length b) : Int) == (32 : Int)) = false, List.length b = List.length b, (0 : Int) ≤ (3 : Int), 3 < 4, 3 < 4, (0 : Int) ≤ (3 : Int), 3 < 4, 3 < 4, (0 : Int) ≤ (3 : Int), 3 < 4, 3 < 4, (!decide (val ((fromV b).fst.set 3 ((fromV b).fst.get 3 &&& BitVec.ofNat 64 9223372036854775807)) < Pp)) = false, (!(g (val (ofN (fMul (val (ofN (fSub (val (ofN (fMul (val ((fromV b).fst.set (0 + Int.toNat (3 : Int) * (fun x => x.size) Tryd.prog.types[32]) ((fromV b).fst.get (0 + Int.toNat (3 : Int) * (fun x => x.size) Tryd.prog.types[32]) &&& BitVec.ofInt 64 (9223372036854775807 : Int))) % Pp) (val ((fromV b).fst.set (0 + Int.toNat (3 : Int) * (fun x => x.size) Tryd.prog.types[32]) ((fromV b).fst.get (0 + Int.toNat (3 : Int) * (fun x => x.size) Tryd.prog.types[32]) &&& BitVec.ofInt 64 (9223372036854775807 : Int))) % Pp))) % Pp) (val ((N4.mk (BitVec.ofInt 64 (0 : Int)) (BitVec.ofInt 64 (0 : Int)) (BitVec.ofInt 64 (0 : Int)) (BitVec.ofInt 64 (0 : Int))).set ((0, Operand.const (Value.int IntKind.u64 (1 : Int))).fst * Tryd.prog.types[32].size) (BitVec.ofInt 64 (1 : Int))) % Pp))) % Pp) (val (ofN (v (val (ofN (fAdd (val ((N4.mk (BitVec.ofInt 64 (0 : Int)) (BitVec.ofInt 64 (0 : Int)) (BitVec.ofInt 64 (0 : Int)) (BitVec.ofInt 64 (0 : Int))).set ((0, Operand.const (Value.int IntKind.u64 (1 : Int))).fst * Tryd.prog.types[32].size) (BitVec.ofInt 64 (1 : Int))) % Pp) (val (ofN (fMul (val (ofN dN) % Pp) (val (ofN (fMul (val ((fromV b).fst.set (0 + Int.toNat (3 : Int) * (fun x => x.size) Tryd.prog.types[32]) ((fromV b).fst.get (0 + Int.toNat (3 : Int) * (fun x => x.size) Tryd.prog.types[32]) &&& BitVec.ofInt 64 (9223372036854775807 : Int))) % Pp) (val ((fromV b).fst.set (0 + Int.toNat (3 : Int) * (fun x => x.size) Tryd.prog.types[32]) ((fromV b).fst.get (0 + Int.toNat (3 : Int) * (fun x => x.size) Tryd.prog.types[32]) &&& BitVec.ofInt 64 (9223372036854775807 : Int))) % Pp))) % Pp))) % Pp))) % Pp))) % Pp))) % Pp)).snd) = true]) := by kernel_rfl
theorem runDecZ (g : Nat → Nat × Bool) (v : Nat → Nat) (b : BL) : fnS Tryd.prog (lookG (tblCf g v)) (orcA [(1, [(2, false)]), (6, [(2, false)]), (10, [(1, false), (5, true), (8, true)])]) [] 10 20 [sc (.d8 b)] =
    some (AV.tup [(true, [IV.n4 (N4.mk (BitVec.ofNat 64 0) (BitVec.ofNat 64 0) (BitVec.ofNat 64 0) (BitVec.ofNat 64 0)), IV.n4 (N4.mk (BitVec.ofNat 64 0) (BitVec.ofNat 64 0) (BitVec.ofNat 64 0) (BitVec.ofNat 64 0))]), (false, [IV.i64 (7 : Int)])], [(!(↑(List.length b) : Int) == (32 : Int)) = false, List.length b = List.length b, (0 : Int) ≤ (3 : Int), 3 < 4, 3 < 4, (0 : Int) ≤ (3 : Int), 3 < 4, 3 < 4, (0 : Int) ≤ (3 : Int), 3 < 4, 3 < 4, (!decide (val ((fromV b).fst.set 3 ((fromV b).fst.get 3 &&& BitVec.ofNat 64 9223372036854775807)) < Pp)) = false, (!(g (val (ofN (fMul (val (ofN (fSub (val (ofN (fMul (val ((fromV b).fst.set (0 + Int.toNat (3 : Int) * (fun x => x.size) Tryd.prog.types[32]) ((fromV b).fst.get (0 + Int.toNat (3 : Int) * (fun x => x.size) Tryd.prog.types[32]) &&& BitVec.ofInt 64 (9223372036854775807 : Int))) % Pp) (val ((fromV b).fst.set (0 + Int.toNat (3 : Int) * (fun x => x.size) Tryd.prog.types[32]) ((fromV b).fst.get (0 + Int.toNat (3 : Int) * (fun x => x.size) Tryd.prog.types[32]) &&& BitVec.ofInt 64 (9223372036854775807 : Int))) % Pp))) % Pp) (val ((N4.mk (BitVec.ofInt 64 (0 : Int)) (BitVec.ofInt 64 (0 : Int)) (BitVec.ofInt 64 (0 : Int)) (BitVec.ofInt 64 (0 : Int))).set ((0, Operand.const (Value.int IntKind.u64 (1 : Int))).fst * Tryd.prog.types[32].size) (BitVec.ofInt 64 (1 : Int))) % Pp))) % Pp) (val (ofN (v (val (ofN (fAdd (val ((N4.mk (BitVec.ofInt 64 (0 : Int)) (BitVec.ofInt 64 (0 : Int)) (BitVec.ofInt 64 (0 : Int)) (BitVec.ofInt 64 (0 : Int))).set ((0, Operand.const (Value.int IntKind.u64 (1 : Int))).fst * Tryd.prog.types[32].size) (BitVec.ofInt 64 (1 : Int))) % Pp) (val (ofN (fMul (val (ofN dN) % Pp) (val (ofN (fMul (val ((fromV b).fst.set (0 + Int.toNat (3 : Int) * (fun x => x.size) Tryd.prog.types[32]) ((fromV b).fst.get (0 + Int.toNat (3 : Int) * (fun x => x.size) Tryd.prog.types[32]) &&& BitVec.ofInt 64 (9223372036854775807 : Int))) % Pp) (val ((fromV b).fst.set (0 + Int.toNat (3 : Int) * (fun x => x.size) Tryd.prog.types[32]) ((fromV b).fst.get (0 + Int.toNat (3 : Int) * (fun x => x.size) Tryd.prog.types[32]) &&& BitVec.ofInt 64 (9223372036854775807 : Int))) % Pp))) % Pp))) % Pp))) % Pp))) % Pp))) % Pp)).snd) = false, ((ofN (g (val (ofN (fMul (val (ofN (fSub (val (ofN (fMul (val ((fromV b).fst.set (0 + Int.toNat (3 : Int) * (fun x => x.size) Tryd.prog.types[32]) ((fromV b).fst.get (0 + Int.toNat (3 : Int) * (fun x => x.size) Tryd.prog.types[32]) &&& BitVec.ofInt 64 (9223372036854775807 : Int))) % Pp) (val ((fromV b).fst.set (0 + Int.toNat (3 : Int) * (fun x => x.size) Tryd.prog.types[32]) ((fromV b).fst.get (0 + Int.toNat (3 : Int) * (fun x => x.size) Tryd.prog.types[32]) &&& BitVec.ofInt 64 (9223372036854775807 : Int))) % Pp))) % Pp) (val ((N4.mk (BitVec.ofInt 64 (0 : Int)) (BitVec.ofInt 64 (0 : Int)) (BitVec.ofInt 64 (0 : Int)) (BitVec.ofInt 64 (0 : Int))).set ((0, Operand.const (Value.int IntKind.u64 (1 : Int))).fst * Tryd.prog.types[32].size) (BitVec.ofInt 64 (1 : Int))) % Pp))) % Pp) (val (ofN (v (val (ofN (fAdd (val ((N4.mk (BitVec.ofInt 64 (0 : Int)) (BitVec.ofInt 64 (0 : Int)) (BitVec.ofInt 64 (0 : Int)) (BitVec.ofInt 64 (0 : Int))).set ((0, Operand.const (Value.int IntKind.u64 (1 : Int))).fst * Tryd.prog.types[32].size) (BitVec.ofInt 64 (1 : Int))) % Pp) (val (ofN (fMul (val (ofN dN) % Pp) (val (ofN (fMul (val ((fromV b).fst.set (0 + Int.toNat (3 : Int) * (fun x => x.size) Tryd.prog.types[32]) ((fromV b).fst.get (0 + Int.toNat (3 : Int) * (fun x => x.size) Tryd.prog.types[32]) &&& BitVec.ofInt 64 (9223372036854775807 : Int))) % Pp) (val ((fromV b).fst.set (0 + Int.toNat (3 : Int) * (fun x => x.size) Tryd.prog.types[32]) ((fromV b).fst.get (0 + Int.toNat (3 : Int) * (fun x => x.size) Tryd.prog.types[32]) &&& BitVec.ofInt 64 (9223372036854775807 : Int))) % Pp))) % Pp))) % Pp))) % Pp))) % Pp))) % Pp)).fst).eq (N4.mk (BitVec.ofNat 64 0) (BitVec.ofNat 64 0) (BitVec.ofNat 64 0) (BitVec.ofNat 64 0)) && true) = true, ((fromV b).fst.get 3 >>> 63 == BitVec.ofNat 64 1) = true]) := by kernel_rfl
theorem runDecY (g : Nat → Nat × Bool) (v : Nat → Nat) (b : BL) : fnS Tryd.prog (lookG (tblCf g v)) (orcA [(1, [(2, false)]), (6, [(2, false)]), (10, [(1, false), (5, true), (8, false)])]) [] 10 20 [sc (.d8 b)] =
    some (AV.tup [(true, [IV.n4 (if (fromV b).fst.get 3 >>> 63 = BitVec.ofNat 64 0 then ofN (g (val (ofN (fMul (val (ofN (fSub (val (ofN (fMul (val ((fromV b).fst.set (0 + Int.toNat (3 : Int) * (fun x => x.size) Tryd.prog.types[32]) ((fromV b).fst.get (0 + Int.toNat (3 : Int) * (fun x => x.size) Tryd.prog.types[32]) &&& BitVec.ofInt 64 (9223372036854775807 : Int))) % Pp) (val ((fromV b).fst.set (0 + Int.toNat (3 : Int) * (fun x => x.size) Tryd.prog.types[32]) ((fromV b).fst.get (0 + Int.toNat (3 : Int) * (fun x => x.size) Tryd.prog.types[32]) &&& BitVec.ofInt 64 (9223372036854775807 : Int))) % Pp))) % Pp) (val ((N4.mk (BitVec.ofInt 64 (0 : Int)) (BitVec.ofInt 64 (0 : Int)) (BitVec.ofInt 64 (0 : Int)) (BitVec.ofInt 64 (0 : Int))).set ((0, Operand.const (Value.int IntKind.u64 (1 : Int))).fst * Tryd.prog.types[32].size) (BitVec.ofInt 64 (1 : Int))) % Pp))) % Pp) (val (ofN (v (val (ofN (fAdd (val ((N4.mk (BitVec.ofInt 64 (0 : Int)) (BitVec.ofInt 64 (0 : Int)) (BitVec.ofInt 64 (0 : Int)) (BitVec.ofInt 64 (0 : Int))).set ((0, Operand.const (Value.int IntKind.u64 (1 : Int))).fst * Tryd.prog.types[32].size) (BitVec.ofInt 64 (1 : Int))) % Pp) (val (ofN (fMul (val (ofN dN) % Pp) (val (ofN (fMul (val ((fromV b).fst.set (0 + Int.toNat (3 : Int) * (fun x => x.size) Tryd.prog.types[32]) ((fromV b).fst.get (0 + Int.toNat (3 : Int) * (fun x => x.size) Tryd.prog.types[32]) &&& BitVec.ofInt 64 (9223372036854775807 : Int))) % Pp) (val ((fromV b).fst.set (0 + Int.toNat (3 : Int) * (fun x => x.size) Tryd.prog.types[32]) ((fromV b).fst.get (0 + Int.toNat (3 : Int) * (fun x => x.size) Tryd.prog.types[32]) &&& BitVec.ofInt 64 (9223372036854775807 : Int))) % Pp))) % Pp))) % Pp))) % Pp))) % Pp))) % Pp)).fst else ofN (fNeg (val (ofN (g (val (ofN (fMul (val (ofN (fSub (val (ofN (fMul (val ((fromV b).fst.set (0 + Int.toNat (3 : Int) * (fun x => x.size) Tryd.prog.types[32]) ((fromV b).fst.get (0 + Int.toNat (3 : Int) * (fun x => x.size) Tryd.prog.types[32]) &&& BitVec.ofInt 64 (9223372036854775807 : Int))) % Pp) (val ((fromV b).fst.set (0 + Int.toNat (3 : Int) * (fun x => x.size) Tryd.prog.types[32]) ((fromV b).fst.get (0 + Int.toNat (3 : Int) * (fun x => x.size) Tryd.prog.types[32]) &&& BitVec.ofInt 64 (9223372036854775807 : Int))) % Pp))) % Pp) (val ((N4.mk (BitVec.ofInt 64 (0 : Int)) (BitVec.ofInt 64 (0 : Int)) (BitVec.ofInt 64 (0 : Int)) (BitVec.ofInt 64 (0 : Int))).set ((0, Operand.const (Value.int IntKind.u64 (1 : Int))).fst * Tryd.prog.types[32].size) (BitVec.ofInt 64 (1 : Int))) % Pp))) % Pp) (val (ofN (v (val (ofN (fAdd (val ((N4.mk (BitVec.ofInt 64 (0 : Int)) (BitVec.ofInt 64 (0 : Int)) (BitVec.ofInt 64 (0 : Int)) (BitVec.ofInt 64 (0 : Int))).set ((0, Operand.const (Value.int IntKind.u64 (1 : Int))).fst * Tryd.prog.types[32].size) (BitVec.ofInt 64 (1 : Int))) % Pp) (val (ofN (fMul (val (ofN dN) % Pp) (val (ofN (fMul (val ((fromV b).fst.set (0 + Int.toNat (3 : Int) * (fun x => x.size) Tryd.prog.types[32]) ((fromV b).fst.get (0 + Int.toNat (3 : Int) * (fun x => x.size) Tryd.prog.types[32]) &&& BitVec.ofInt 64 (9223372036854775807 : Int))) % Pp) (val ((fromV b).fst.set (0 + Int.toNat (3 : Int) * (fun x => x.size) Tryd.prog.types[32]) ((fromV b).fst.get (0 + Int.toNat (3 : Int) * (fun x => x.size) Tryd.prog.types[32]) &&& BitVec.ofInt 64 (9223372036854775807 : Int))) % Pp))) % Pp))) % Pp))) % Pp))) % Pp))) % Pp)).fst) % Pp))), IV.n4 ((fromV b).fst.set 3 ((fromV b).fst.get 3 &&& BitVec.ofNat 64 9223372036854775807))]), (false, [IV.i64 (0 : Int)])], [(!(↑(List.length b) : Int) == (32 : Int)) = false, List.length b = List.length b, (0 : Int) ≤ (3 : Int), 3 < 4, 3 < 4, (0 : Int) ≤ (3 : Int), 3 < 4, 3 < 4, (0 : Int) ≤ (3 : Int), 3 < 4, 3 < 4, (!decide (val ((fromV b).fst.set 3 ((fromV b).fst.get 3 &&& BitVec.ofNat 64 9223372036854775807)) < Pp)) = false, (!(g (val (ofN (fMul (val (ofN (fSub (val (ofN (fMul (val ((fromV b).fst.set (0 + Int.toNat (3 : Int) * (fun x => x.size) Tryd.prog.types[32]) ((fromV b).fst.get (0 + Int.toNat (3 : Int) * (fun x => x.size) Tryd.prog.types[32]) &&& BitVec.ofInt 64 (9223372036854775807 : Int))) % Pp) (val ((fromV b).fst.set (0 + Int.toNat (3 : Int) * (fun x => x.size) Tryd.prog.types[32]) ((fromV b).fst.get (0 + Int.toNat (3 : Int) * (fun x => x.size) Tryd.prog.types[32]) &&& BitVec.ofInt 64 (9223372036854775807 : Int))) % Pp))) % Pp) (val ((N4.mk (BitVec.ofInt 64 (0 : Int)) (BitVec.ofInt 64 (0 : Int)) (BitVec.ofInt 64 (0 : Int)) (BitVec.ofInt 64 (0 : Int))).set ((0, Operand.const (Value.int IntKind.u64 (1 : Int))).fst * Tryd.prog.types[32].size) (BitVec.ofInt 64 (1 : Int))) % Pp))) % Pp) (val (ofN (v (val (ofN (fAdd (val ((N4.mk (BitVec.ofInt 64 (0 : Int)) (BitVec.ofInt 64 (0 : Int)) (BitVec.ofInt 64 (0 : Int)) (BitVec.ofInt 64 (0 : Int))).set ((0, Operand.const (Value.int IntKind.u64 (1 : Int))).fst * Tryd.prog.types[32].size) (BitVec.ofInt 64 (1 : Int))) % Pp) (val (ofN (fMul (val (ofN dN) % Pp) (val (ofN (fMul (val ((fromV b).fst.set (0 + Int.toNat (3 : Int) * (fun x => x.size) Tryd.prog.types[32]) ((fromV b).fst.get (0 + Int.toNat (3 : Int) * (fun x => x.size) Tryd.prog.types[32]) &&& BitVec.ofInt 64 (9223372036854775807 : Int))) % Pp) (val ((fromV b).fst.set (0 + Int.toNat (3 : Int) * (fun x => x.size) Tryd.prog.types[32]) ((fromV b).fst.get (0 + Int.toNat (3 : Int) * (fun x => x.size) Tryd.prog.types[32]) &&& BitVec.ofInt 64 (9223372036854775807 : Int))) % Pp))) % Pp))) % Pp))) % Pp))) % Pp))) % Pp)).snd) = false, ((ofN (g (val (ofN (fMul (val (ofN (fSub (val (ofN (fMul (val ((fromV b).fst.set (0 + Int.toNat (3 : Int) * (fun x => x.size) Tryd.prog.types[32]) ((fromV b).fst.get (0 + Int.toNat (3 : Int) * (fun x => x.size) Tryd.prog.types[32]) &&& BitVec.ofInt 64 (9223372036854775807 : Int))) % Pp) (val ((fromV b).fst.set (0 + Int.toNat (3 : Int) * (fun x => x.size) Tryd.prog.types[32]) ((fromV b).fst.get (0 + Int.toNat (3 : Int) * (fun x => x.size) Tryd.prog.types[32]) &&& BitVec.ofInt 64 (9223372036854775807 : Int))) % Pp))) % Pp) (val ((N4.mk (BitVec.ofInt 64 (0 : Int)) (BitVec.ofInt 64 (0 : Int)) (BitVec.ofInt 64 (0 : Int)) (BitVec.ofInt 64 (0 : Int))).set ((0, Operand.const (Value.int IntKind.u64 (1 : Int))).fst * Tryd.prog.types[32].size) (BitVec.ofInt 64 (1 : Int))) % Pp))) % Pp) (val (ofN (v (val (ofN (fAdd (val ((N4.mk (BitVec.ofInt 64 (0 : Int)) (BitVec.ofInt 64 (0 : Int)) (BitVec.ofInt 64 (0 : Int)) (BitVec.ofInt 64 (0 : Int))).set ((0, Operand.const (Value.int IntKind.u64 (1 : Int))).fst * Tryd.prog.types[32].size) (BitVec.ofInt 64 (1 : Int))) % Pp) (val (ofN (fMul (val (ofN dN) % Pp) (val (ofN (fMul (val ((fromV b).fst.set (0 + Int.toNat (3 : Int) * (fun x => x.size) Tryd.prog.types[32]) ((fromV b).fst.get (0 + Int.toNat (3 : Int) * (fun x => x.size) Tryd.prog.types[32]) &&& BitVec.ofInt 64 (9223372036854775807 : Int))) % Pp) (val ((fromV b).fst.set (0 + Int.toNat (3 : Int) * (fun x => x.size) Tryd.prog.types[32]) ((fromV b).fst.get (0 + Int.toNat (3 : Int) * (fun x => x.size) Tryd.prog.types[32]) &&& BitVec.ofInt 64 (9223372036854775807 : Int))) % Pp))) % Pp))) % Pp))) % Pp))) % Pp))) % Pp)).fst).eq (N4.mk (BitVec.ofNat 64 0) (BitVec.ofNat 64 0) (BitVec.ofNat 64 0) (BitVec.ofNat 64 0)) && true) = true, ((fromV b).fst.get 3 >>> 63 == BitVec.ofNat 64 1) = false]) := by kernel_rfl
theorem runDecT (g : Nat → Nat × Bool) (v : Nat → Nat) (b : BL) : fnS Tryd.prog (lookG (tblCf g v)) (orcA [(1, [(2, false)]), (6, [(2, false)]), (10, [(1, false), (5, false)])]) [] 10 20 [sc (.d8 b)] =
    some (AV.tup [(true, [IV.n4 (if (fromV b).fst.get 3 >>> 63 = BitVec.ofNat 64 0 then ofN (g (val (ofN (fMul (val (ofN (fSub (val (ofN (fMul (val ((fromV b).fst.set (0 + Int.toNat (3 : Int) * (fun x => x.size) Tryd.prog.types[32]) ((fromV b).fst.get (0 + Int.toNat (3 : Int) * (fun x => x.size) Tryd.prog.types[32]) &&& BitVec.ofInt 64 (9223372036854775807 : Int))) % Pp) (val ((fromV b).fst.set (0 + Int.toNat (3 : Int) * (fun x => x.size) Tryd.prog.types[32]) ((fromV b).fst.get (0 + Int.toNat (3 : Int) * (fun x => x.size) Tryd.prog.types[32]) &&& BitVec.ofInt 64 (9223372036854775807 : Int))) % Pp))) % Pp) (val ((N4.mk (BitVec.ofInt 64 (0 : Int)) (BitVec.ofInt 64 (0 : Int)) (BitVec.ofInt 64 (0 : Int)) (BitVec.ofInt 64 (0 : Int))).set ((0, Operand.const (Value.int IntKind.u64 (1 : Int))).fst * Tryd.prog.types[32].size) (BitVec.ofInt 64 (1 : Int))) % Pp))) % Pp) (val (ofN (v (val (ofN (fAdd (val ((N4.mk (BitVec.ofInt 64 (0 : Int)) (BitVec.ofInt 64 (0 : Int)) (BitVec.ofInt 64 (0 : Int)) (BitVec.ofInt 64 (0 : Int))).set ((0, Operand.const (Value.int IntKind.u64 (1 : Int))).fst * Tryd.prog.types[32].size) (BitVec.ofInt 64 (1 : Int))) % Pp) (val (ofN (fMul (val (ofN dN) % Pp) (val (ofN (fMul (val ((fromV b).fst.set (0 + Int.toNat (3 : Int) * (fun x => x.size) Tryd.prog.types[32]) ((fromV b).fst.get (0 + Int.toNat (3 : Int) * (fun x => x.size) Tryd.prog.types[32]) &&& BitVec.ofInt 64 (9223372036854775807 : Int))) % Pp) (val ((fromV b).fst.set (0 + Int.toNat (3 : Int) * (fun x => x.size) Tryd.prog.types[32]) ((fromV b).fst.get (0 + Int.toNat (3 : Int) * (fun x => x.size) Tryd.prog.types[32]) &&& BitVec.ofInt 64 (9223372036854775807 : Int))) % Pp))) % Pp))) % Pp))) % Pp))) % Pp))) % Pp)).fst else ofN (fNeg (val (ofN (g (val (ofN (fMul (val (ofN (fSub (val (ofN (fMul (val ((fromV b).fst.set (0 + Int.toNat (3 : Int) * (fun x => x.size) Tryd.prog.types[32]) ((fromV b).fst.get (0 + Int.toNat (3 : Int) * (fun x => x.size) Tryd.prog.types[32]) &&& BitVec.ofInt 64 (9223372036854775807 : Int))) % Pp) (val ((fromV b).fst.set (0 + Int.toNat (3 : Int) * (fun x => x.size) Tryd.prog.types[32]) ((fromV b).fst.get (0 + Int.toNat (3 : Int) * (fun x => x.size) Tryd.prog.types[32]) &&& BitVec.ofInt 64 (9223372036854775807 : Int))) % Pp))) % Pp) (val ((N4.mk (BitVec.ofInt 64 (0 : Int)) (BitVec.ofInt 64 (0 : Int)) (BitVec.ofInt 64 (0 : Int)) (BitVec.ofInt 64 (0 : Int))).set ((0, Operand.const (Value.int IntKind.u64 (1 : Int))).fst * Tryd.prog.types[32].size) (BitVec.ofInt 64 (1 : Int))) % Pp))) % Pp) (val (ofN (v (val (ofN (fAdd (val ((N4.mk (BitVec.ofInt 64 (0 : Int)) (BitVec.ofInt 64 (0 : Int)) (BitVec.ofInt 64 (0 : Int)) (BitVec.ofInt 64 (0 : Int))).set ((0, Operand.const (Value.int IntKind.u64 (1 : Int))).fst * Tryd.prog.types[32].size) (BitVec.ofInt 64 (1 : Int))) % Pp) (val (ofN (fMul (val (ofN dN) % Pp) (val (ofN (fMul (val ((fromV b).fst.set (0 + Int.toNat (3 : Int) * (fun x => x.size) Tryd.prog.types[32]) ((fromV b).fst.get (0 + Int.toNat (3 : Int) * (fun x => x.size) Tryd.prog.types[32]) &&& BitVec.ofInt 64 (9223372036854775807 : Int))) % Pp) (val ((fromV b).fst.set (0 + Int.toNat (3 : Int) * (fun x => x.size) Tryd.prog.types[32]) ((fromV b).fst.get (0 + Int.toNat (3 : Int) * (fun x => x.size) Tryd.prog.types[32]) &&& BitVec.ofInt 64 (9223372036854775807 : Int))) % Pp))) % Pp))) % Pp))) % Pp))) % Pp))) % Pp)).fst) % Pp))), IV.n4 ((fromV b).fst.set 3 ((fromV b).fst.get 3 &&& BitVec.ofNat 64 9223372036854775807))]), (false, [IV.i64 (0 : Int)])], [(!(↑(List.length b) : Int) == (32 : Int)) = false, List.length b = List.length b, (0 : Int) ≤ (3 : Int), 3 < 4, 3 < 4, (0 : Int) ≤ (3 : Int), 3 < 4, 3 < 4, (0 : Int) ≤ (3 : Int), 3 < 4, 3 < 4, (!decide (val ((fromV b).fst.set 3 ((fromV b).fst.get 3 &&& BitVec.ofNat 64 9223372036854775807)) < Pp)) = false, (!(g (val (ofN (fMul (val (ofN (fSub (val (ofN (fMul (val ((fromV b).fst.set (0 + Int.toNat (3 : Int) * (fun x => x.size) Tryd.prog.types[32]) ((fromV b).fst.get (0 + Int.toNat (3 : Int) * (fun x => x.size) Tryd.prog.types[32]) &&& BitVec.ofInt 64 (9223372036854775807 : Int))) % Pp) (val ((fromV b).fst.set (0 + Int.toNat (3 : Int) * (fun x => x.size) Tryd.prog.types[32]) ((fromV b).fst.get (0 + Int.toNat (3 : Int) * (fun x => x.size) Tryd.prog.types[32]) &&& BitVec.ofInt 64 (9223372036854775807 : Int))) % Pp))) % Pp) (val ((N4.mk (BitVec.ofInt 64 (0 : Int)) (BitVec.ofInt 64 (0 : Int)) (BitVec.ofInt 64 (0 : Int)) (BitVec.ofInt 64 (0 : Int))).set ((0, Operand.const (Value.int IntKind.u64 (1 : Int))).fst * Tryd.prog.types[32].size) (BitVec.ofInt 64 (1 : Int))) % Pp))) % Pp) (val (ofN (v (val (ofN (fAdd (val ((N4.mk (BitVec.ofInt 64 (0 : Int)) (BitVec.ofInt 64 (0 : Int)) (BitVec.ofInt 64 (0 : Int)) (BitVec.ofInt 64 (0 : Int))).set ((0, Operand.const (Value.int IntKind.u64 (1 : Int))).fst * Tryd.prog.types[32].size) (BitVec.ofInt 64 (1 : Int))) % Pp) (val (ofN (fMul (val (ofN dN) % Pp) (val (ofN (fMul (val ((fromV b).fst.set (0 + Int.toNat (3 : Int) * (fun x => x.size) Tryd.prog.types[32]) ((fromV b).fst.get (0 + Int.toNat (3 : Int) * (fun x => x.size) Tryd.prog.types[32]) &&& BitVec.ofInt 64 (9223372036854775807 : Int))) % Pp) (val ((fromV b).fst.set (0 + Int.toNat (3 : Int) * (fun x => x.size) Tryd.prog.types[32]) ((fromV b).fst.get (0 + Int.toNat (3 : Int) * (fun x => x.size) Tryd.prog.types[32]) &&& BitVec.ofInt 64 (9223372036854775807 : Int))) % Pp))) % Pp))) % Pp))) % Pp))) % Pp))) % Pp)).snd) = false, ((ofN (g (val (ofN (fMul (val (ofN (fSub (val (ofN (fMul (val ((fromV b).fst.set (0 + Int.toNat (3 : Int) * (fun x => x.size) Tryd.prog.types[32]) ((fromV b).fst.get (0 + Int.toNat (3 : Int) * (fun x => x.size) Tryd.prog.types[32]) &&& BitVec.ofInt 64 (9223372036854775807 : Int))) % Pp) (val ((fromV b).fst.set (0 + Int.toNat (3 : Int) * (fun x => x.size) Tryd.prog.types[32]) ((fromV b).fst.get (0 + Int.toNat (3 : Int) * (fun x => x.size) Tryd.prog.types[32]) &&& BitVec.ofInt 64 (9223372036854775807 : Int))) % Pp))) % Pp) (val ((N4.mk (BitVec.ofInt 64 (0 : Int)) (BitVec.ofInt 64 (0 : Int)) (BitVec.ofInt 64 (0 : Int)) (BitVec.ofInt 64 (0 : Int))).set ((0, Operand.const (Value.int IntKind.u64 (1 : Int))).fst * Tryd.prog.types[32].size) (BitVec.ofInt 64 (1 : Int))) % Pp))) % Pp) (val (ofN (v (val (ofN (fAdd (val ((N4.mk (BitVec.ofInt 64 (0 : Int)) (BitVec.ofInt 64 (0 : Int)) (BitVec.ofInt 64 (0 : Int)) (BitVec.ofInt 64 (0 : Int))).set ((0, Operand.const (Value.int IntKind.u64 (1 : Int))).fst * Tryd.prog.types[32].size) (BitVec.ofInt 64 (1 : Int))) % Pp) (val (ofN (fMul (val (ofN dN) % Pp) (val (ofN (fMul (val ((fromV b).fst.set (0 + Int.toNat (3 : Int) * (fun x => x.size) Tryd.prog.types[32]) ((fromV b).fst.get (0 + Int.toNat (3 : Int) * (fun x => x.size) Tryd.prog.types[32]) &&& BitVec.ofInt 64 (9223372036854775807 : Int))) % Pp) (val ((fromV b).fst.set (0 + Int.toNat (3 : Int) * (fun x => x.size) Tryd.prog.types[32]) ((fromV b).fst.get (0 + Int.toNat (3 : Int) * (fun x => x.size) Tryd.prog.types[32]) &&& BitVec.ofInt 64 (9223372036854775807 : Int))) % Pp))) % Pp))) % Pp))) % Pp))) % Pp))) % Pp)).fst).eq (N4.mk (BitVec.ofNat 64 0) (BitVec.ofNat 64 0) (BitVec.ofNat 64 0) (BitVec.ofNat 64 0)) && true) = false]) := by kernel_rfl
theorem lcT {n : Nat} (h : n = 32) : (!((n : Int) == (32 : Int))) = false := by rw [h]; rfl
theorem lcF {n : Nat} (h : n ≠ 32) : (!((n : Int) == (32 : Int))) = true := by
  rw [Bool.not_eq_true', beq_eq_false_iff_ne]; omega
def q255 : Nat := 57896044618658097711785492504343953926634992332820282019728792003956564819968
theorem set3 (x : N4) : val (x.set 3 (x.get 3 &&& BitVec.ofNat 64 9223372036854775807)) = val x % q255 := by
  have h : (x.w3 &&& BitVec.ofNat 64 9223372036854775807).toNat = x.w3.toNat % 9223372036854775808 := by
    rw [BitVec.toNat_and]
    exact Nat.and_two_pow_sub_one_eq_mod _ 63
  have h0 := x.w0.isLt
  have h1 := x.w1.isLt
  have h2 := x.w2.isLt
  have h3 := x.w3.isLt
  show val ⟨x.w0, x.w1, x.w2, x.w3 &&& BitVec.ofNat 64 9223372036854775807⟩ = _
  unfold val q255
  simp only [h]
  generalize x.w0.toNat = a at *
  generalize x.w1.toNat = b at *
  generalize x.w2.toNat = c at *
  generalize x.w3.toNat = d at *
  omega
theorem top3 (x : N4) : (x.get 3 >>> 63).toNat = val x / q255 := by
  have h0 := x.w0.isLt
  have h1 := x.w1.isLt
  have h2 := x.w2.isLt
  have h3 := x.w3.isLt
  show (x.w3 >>> 63).toNat = _
  rw [BitVec.toNat_ushiftRight, Nat.shiftRight_eq_div_pow]
  unfold val q255
  generalize x.w0.toNat = a at *
  generalize x.w1.toNat = b at *
  generalize x.w2.toNat = c at *
  generalize x.w3.toNat = d at *
  omega
/-- What the root is taken of. -/
def xxV (Y : Nat) : Nat := fMul (fSub (fMul Y Y) 1) (fInv (fAdd 1 (fMul dN (fMul Y Y))))
/-- The point whose bytes these are. -/
def decR (b : BL) : PR :=
  if b.length = 32 then
    if bv b % q255 < Pp then
      if (prV (xxV (bv b % q255))).2 = true ∧ ¬ ((prV (xxV (bv b % q255))).1 = 0 ∧ bv b / q255 = 1) then
        ⟨ofN (if bv b / q255 = 0 then (prV (xxV (bv b % q255))).1 else fNeg (prV (xxV (bv b % q255))).1), ofN (bv b % q255), 0⟩
      else prE 7
    else prE 6
  else prE 1
def spDecCG (G : BL → PR) : List AV → Option (AV × List Prop)
  | [.val false [.d8 b]] => some (.tup [(true, [.n4 (G b).x, .n4 (G b).y]), (false, [.i64 (G b).e])], [])
  | _ => none
theorem prV_lt (x : Nat) : (prV x).1 < Pp := by
  cases h : (prV x).2 with
  | true => exact (prV_sq h).2.1
  | false => rw [prV_no h]; exact Pp_pos
theorem vm_I (x : Nat) : val (ofN (fInv x)) % Pp = fInv x := by rw [val_lo (fInv_lt x), Nat.mod_eq_of_lt (fInv_lt x)]
theorem vm_d : val (ofN dN) % Pp = dN := by kernel_rfl
theorem vm_1 : val (ofN 1) % Pp = 1 := by kernel_rfl
theorem vm_R (x : Nat) : val (ofN (prV x).1) % Pp = (prV x).1 := by rw [val_lo (prV_lt x), Nat.mod_eq_of_lt (prV_lt x)]
theorem one_eqN : (N4.mk (BitVec.ofInt 64 (0 : Int)) (BitVec.ofInt 64 (0 : Int)) (BitVec.ofInt 64 (0 : Int)) (BitVec.ofInt 64 (0 : Int))).set (0 * Tryd.prog.types[32].size) (BitVec.ofInt 64 (1 : Int)) = ofN 1 := by kernel_rfl
theorem i3_eq : 0 + Int.toNat (3 : Int) * (fun x => x.size) Tryd.prog.types[32] = 3 := by kernel_rfl
theorem c63_eq : BitVec.ofInt 64 (9223372036854775807 : Int) = BitVec.ofNat 64 9223372036854775807 := by kernel_rfl
theorem bv_p256 {b : BL} (h : b.length = 32) : bv b < p256 := by
  have := bv_lt b
  rwa [h, show (256 : Nat) ^ 32 = p256 by decide] at this
theorem zeroN : (⟨BitVec.ofNat 64 0, BitVec.ofNat 64 0, BitVec.ofNat 64 0, BitVec.ofNat 64 0⟩ : N4) = ofN 0 := by kernel_rfl
theorem eqz {x : Nat} (h : x < Pp) : ((ofN x).eq ⟨BitVec.ofNat 64 0, BitVec.ofNat 64 0, BitVec.ofNat 64 0, BitVec.ofNat 64 0⟩ && true) = (x == 0) := by
  rw [zeroN, eq_N4, val_lo h, val_lo Pp_pos]
theorem sg_eq {b : BL} (h : b.length = 32) : ((ofN (bv b)).get 3 >>> 63 == BitVec.ofNat 64 1) = decide (bv b / q255 = 1) ∧ ((ofN (bv b)).get 3 >>> 63 = BitVec.ofNat 64 0 ↔ bv b / q255 = 0) := by
  have ht := top3 (ofN (bv b))
  rw [val_ofN, Nat.mod_eq_of_lt (bv_p256 h)] at ht
  generalize (ofN (bv b)).get 3 >>> 63 = s at *
  rw [← ht]
  constructor
  · by_cases e : s.toNat = 1
    · have : s = BitVec.ofNat 64 1 := BitVec.eq_of_toNat_eq e
      rw [this]; rfl
    · rw [decide_eq_false e, beq_eq_false_iff_ne]
      rintro rfl
      exact e rfl
  · constructor
    · rintro rfl; rfl
    · intro e; exact BitVec.eq_of_toNat_eq e
theorem ctDecC : CtSOk Tryd.prog 20 (.fn (spDecCG decR)) := FnS_of_fnS gsCf fol fun ds r cs h hc => by
  unfold spDecCG at h
  split at h
  case h_2 => simp at h
  rename_i b
  simp only [Option.some.injEq, Prod.mk.injEq] at h
  obtain ⟨rfl, rfl⟩ := h
  by_cases hl : b.length = 32
  · have fu : (fromV b).1 = ofN (bv b) := by rw [fromV, if_pos (by omega)]
    have hvu : val (ofN (bv b)) = bv b := by rw [val_ofN]; exact Nat.mod_eq_of_lt (bv_p256 hl)
    obtain ⟨s1, s2⟩ := sg_eq hl
    obtain ⟨x, hx⟩ : ∃ x, x = (ofN (bv b)).set 3 ((ofN (bv b)).get 3 &&& BitVec.ofNat 64 9223372036854775807) := ⟨_, rfl⟩
    have hxv : val x = bv b % q255 := by rw [hx, set3, hvu]
    by_cases hY : bv b % q255 < Pp
    · have hm : val x % Pp = bv b % q255 := by rw [hxv, Nat.mod_eq_of_lt hY]
      have h6 : (!decide (val x < Pp)) = false := by rw [hxv, decide_eq_true hY]; rfl
      have ex : ofN (bv b % q255) = x := by rw [← hxv, ofN_val]
      have hR := prV_lt (xxV (bv b % q255))
      by_cases hr : (prV (xxV (bv b % q255))).2 = true
      · by_cases hz : (prV (xxV (bv b % q255))).1 = 0
        · by_cases hs : bv b / q255 = 1
          · have e : decR b = prE 7 := by rw [decR, if_pos hl, if_pos hY, if_neg (fun q => q.2 ⟨hz, hs⟩)]
            have r0 := runDecZ prV fInv b
            simp only [fu, i3_eq, c63_eq, ← hx, one_eqN, hm, vm_M, vm_S, vm_A, vm_I, vm_d, vm_1] at r0
            rw [show fMul (fSub (fMul (bv b % q255) (bv b % q255)) 1) (fInv (fAdd 1 (fMul dN (fMul (bv b % q255) (bv b % q255))))) = xxV (bv b % q255) from rfl, eqz hR, s1, hr, hz, hs] at r0
            refine use_run r0 (by rw [e]; rfl) ?_
            clear r0
            simp only [AllP]
            and_intros <;> first | exact True.intro | exact lcT hl | exact h6 | with_reducible rfl | omega | rfl
          · have hs0 : bv b / q255 = 0 := by
              have := bv_p256 hl
              unfold p256 at this
              unfold q255 at *
              omega
            have e : decR b = ⟨ofN (prV (xxV (bv b % q255))).1, ofN (bv b % q255), 0⟩ := by rw [decR, if_pos hl, if_pos hY, if_pos ⟨hr, fun q => hs q.2⟩, if_pos hs0]
            have r0 := runDecY prV fInv b
            simp only [fu, i3_eq, c63_eq, ← hx, one_eqN, hm, vm_M, vm_S, vm_A, vm_I, vm_d, vm_1] at r0
            rw [show fMul (fSub (fMul (bv b % q255) (bv b % q255)) 1) (fInv (fAdd 1 (fMul dN (fMul (bv b % q255) (bv b % q255))))) = xxV (bv b % q255) from rfl, eqz hR, s1, hr] at r0
            simp only [if_pos (s2.2 hs0)] at r0
            refine use_run r0 (by rw [e, ex]) ?_
            clear r0
            simp only [AllP]
            and_intros <;> first | exact True.intro | exact lcT hl | exact h6 | exact beq_iff_eq.2 hz | exact decide_eq_false hs | with_reducible rfl | omega | rfl
        · have r0 := runDecT prV fInv b
          simp only [fu, i3_eq, c63_eq, ← hx, one_eqN, hm, vm_M, vm_S, vm_A, vm_I, vm_d, vm_1] at r0
          rw [show fMul (fSub (fMul (bv b % q255) (bv b % q255)) 1) (fInv (fAdd 1 (fMul dN (fMul (bv b % q255) (bv b % q255))))) = xxV (bv b % q255) from rfl, eqz hR, hr] at r0
          have e : decR b = ⟨ofN (if bv b / q255 = 0 then (prV (xxV (bv b % q255))).1 else fNeg (prV (xxV (bv b % q255))).1), ofN (bv b % q255), 0⟩ := by rw [decR, if_pos hl, if_pos hY, if_pos ⟨hr, fun q => hz q.1⟩]
          by_cases hs : bv b / q255 = 0
          · simp only [if_pos (s2.2 hs)] at r0
            refine use_run r0 (by rw [e, if_pos hs, ex]) ?_
            clear r0
            simp only [AllP]
            and_intros <;> first | exact True.intro | exact lcT hl | exact h6 | exact beq_eq_false_iff_ne.2 hz | with_reducible rfl | omega | rfl
          · simp only [if_neg (fun q => hs (s2.1 q)), vm_R] at r0
            refine use_run r0 (by rw [e, if_neg hs, ex]) ?_
            clear r0
            simp only [AllP]
            and_intros <;> first | exact True.intro | exact lcT hl | exact h6 | exact beq_eq_false_iff_ne.2 hz | with_reducible rfl | omega | rfl
      · have hr0 : (prV (xxV (bv b % q255))).2 = false := by
          cases h : (prV (xxV (bv b % q255))).2 with
          | true => exact absurd h hr
          | false => rfl
        have e : decR b = prE 7 := by rw [decR, if_pos hl, if_pos hY, if_neg (fun q => hr q.1)]
        have r0 := runDecN prV fInv b
        simp only [fu, i3_eq, c63_eq, ← hx, one_eqN, hm, vm_M, vm_S, vm_A, vm_I, vm_d, vm_1] at r0
        rw [show fMul (fSub (fMul (bv b % q255) (bv b % q255)) 1) (fInv (fAdd 1 (fMul dN (fMul (bv b % q255) (bv b % q255))))) = xxV (bv b % q255) from rfl, hr0] at r0
        refine use_run r0 (by rw [e]; rfl) ?_
        clear r0
        simp only [AllP]
        and_intros <;> first | exact True.intro | exact lcT hl | exact h6 | with_reducible rfl | omega | rfl
    · have e : decR b = prE 6 := by rw [decR, if_pos hl, if_neg hY]
      have h6 : (!decide (val x < Pp)) = true := by rw [hxv, decide_eq_false hY]; rfl
      have r0 := runDecR prV fInv b
      simp only [fu, ← hx] at r0
      refine use_run r0 (by rw [e]; rfl) ?_
      clear r0
      simp only [AllP]
      and_intros <;> first | exact True.intro | exact lcT hl | exact h6 | with_reducible rfl | omega
  · have e : decR b = prE 1 := by rw [decR, if_neg hl]
    exact use_run (runDecL prV fInv b) (by rw [e]; rfl) ⟨lcF hl, trivial⟩
end Go.Proofs.YtlgiaglbdifkpaaDoor
/- Contracts of layer 8: points in bytes; the document's curve: its number, points, sums. Own work. -/
namespace Go.Proofs.YtlgiaglbdifkpaaDoor
open Go.Ev Go.Sp Go.RowKit
set_option maxRecDepth 100000
/-- A point's bytes. -/
def encB (x y : Nat) : BL := bl (y + q255 * (x % 2)) 32
def encR (x y : N4) : BL × Int := if onV (val x) (val y) = true then (encB (val x) (val y), 0) else ([], 7)
theorem bl_snoc (x n : Nat) : bl x (n + 1) = bl x n ++ [BitVec.ofNat 8 (x / 256 ^ n)] := rfl
theorem enc_set (x y : Nat) (hy : y < q255) (w : BitVec 8) (hw : w = BitVec.ofNat 8 (128 * (x % 2))) : (bl y 32).set 31 (BitVec.ofNat 8 (y / 256 ^ 31) ||| w) = encB x y ∧ (bl y 32).set 31 (BitVec.ofNat 8 (y / 256 ^ 31) + w) = encB x y := by
  have hp : (256 : Nat) ^ 31 = 452312848583266388373324160190187140051835877600158453279131187530910662656 := by decide
  have h1 : bl (y + q255 * (x % 2)) 31 = bl y 31 := by
    rw [← bl_mod (y + q255 * (x % 2)) 31, ← bl_mod y 31, hp]
    congr 1
    unfold q255
    omega
  have h2 : (y + q255 * (x % 2)) / 256 ^ 31 = y / 256 ^ 31 + 128 * (x % 2) := by
    rw [hp]
    unfold q255
    omega
  have hs : y / 256 ^ 31 < 128 := by
    rw [hp]
    unfold q255 at hy
    omega
  have hx : x % 2 = 0 ∨ x % 2 = 1 := by omega
  have l31 : (bl y 31).length = 31 := bl_length _ _
  have hset : ∀ v : BitVec 8, (bl y 32).set 31 v = bl y 31 ++ [v] := fun v => by
    rw [bl_snoc, List.set_append_right _ _ (by omega), l31]
    rfl
  unfold encB
  rw [hset, hset, bl_snoc (y + q255 * (x % 2)), h1, h2, hw]
  have key : ∀ s, s < 128 → ∀ b, (b = 0 ∨ b = 1) → BitVec.ofNat 8 s ||| BitVec.ofNat 8 (128 * b) = BitVec.ofNat 8 (s + 128 * b) ∧ BitVec.ofNat 8 s + BitVec.ofNat 8 (128 * b) = BitVec.ofNat 8 (s + 128 * b) := by
    have k0 : ∀ s : Fin 128, BitVec.ofNat 8 s.val ||| BitVec.ofNat 8 (128 * 0) = BitVec.ofNat 8 (s.val + 128 * 0) ∧ BitVec.ofNat 8 s.val + BitVec.ofNat 8 (128 * 0) = BitVec.ofNat 8 (s.val + 128 * 0) := by decide
    have k1 : ∀ s : Fin 128, BitVec.ofNat 8 s.val ||| BitVec.ofNat 8 (128 * 1) = BitVec.ofNat 8 (s.val + 128 * 1) ∧ BitVec.ofNat 8 s.val + BitVec.ofNat 8 (128 * 1) = BitVec.ofNat 8 (s.val + 128 * 1) := by decide
    intro s hs b hb
    rcases hb with rfl | rfl
    · exact k0 ⟨s, hs⟩
    · exact k1 ⟨s, hs⟩
  obtain ⟨q1, q2⟩ := key _ hs _ hx
  rw [q1, q2]
  exact ⟨rfl, rfl⟩
theorem bl_get31 (y : Nat) : (bl y 32).getD 31 (BitVec.ofNat 8 0) = BitVec.ofNat 8 (y / 256 ^ 31) := by
  have l31 : (bl y 31).length = 31 := bl_length _ _
  rw [bl_snoc, List.getD_eq_getElem?_getD, List.getElem?_append_right (by omega), l31]
  rfl
theorem lowbit (x : N4) : BitVec.setWidth 8 (x.get 0 &&& BitVec.ofNat 64 1) <<< 7 = BitVec.ofNat 8 (128 * (val x % 2)) ∧ ((x.get 0 % BitVec.ofNat 64 2 == BitVec.ofNat 64 1) = decide (val x % 2 = 1)) := by
  have h0 : val x % 2 = x.w0.toNat % 2 := by unfold val; omega
  have ha : (x.w0 &&& BitVec.ofNat 64 1).toNat = x.w0.toNat % 2 := by
    rw [BitVec.toNat_and]
    exact Nat.and_two_pow_sub_one_eq_mod _ 1
  have hm : (x.w0 % BitVec.ofNat 64 2).toNat = x.w0.toNat % 2 := by rw [BitVec.toNat_umod]; rfl
  rw [h0]
  show BitVec.setWidth 8 (x.w0 &&& BitVec.ofNat 64 1) <<< 7 = _ ∧ (x.w0 % BitVec.ofNat 64 2 == BitVec.ofNat 64 1) = _
  rcases (by omega : x.w0.toNat % 2 = 0 ∨ x.w0.toNat % 2 = 1) with e | e
  · have e1 : x.w0 &&& BitVec.ofNat 64 1 = 0#64 := BitVec.eq_of_toNat_eq (by rw [ha, e]; rfl)
    have e2 : x.w0 % BitVec.ofNat 64 2 = 0#64 := BitVec.eq_of_toNat_eq (by rw [hm, e]; rfl)
    rw [e1, e2, e]
    exact ⟨by decide, by decide⟩
  · have e1 : x.w0 &&& BitVec.ofNat 64 1 = 1#64 := BitVec.eq_of_toNat_eq (by rw [ha, e]; rfl)
    have e2 : x.w0 % BitVec.ofNat 64 2 = 1#64 := BitVec.eq_of_toNat_eq (by rw [hm, e]; rfl)
    rw [e1, e2, e]
    exact ⟨by decide, by decide⟩
def spEncCG (G : N4 → N4 → BL × Int) : List AV → Option (AV × List Prop)
  | [.val true [.n4 x, .n4 y]] => some (.tup [(false, [.d8 (G x y).1]), (false, [.i64 (G x y).2])], [])
  | _ => none
theorem Pp_q255 : Pp < q255 := by decide
theorem ctEncC : CtSOk Tryd.prog 30 (.fn (spEncCG encR)) := FnS_of_fnS gsCf fol fun ds r cs h hc => by
  unfold spEncCG at h
  split at h
  case h_2 => simp at h
  rename_i x y
  simp only [Option.some.injEq, Prod.mk.injEq] at h
  obtain ⟨rfl, rfl⟩ := h
  by_cases h : onV (val x) (val y) = true
  · obtain ⟨a1, a2, _⟩ := onV_iff.1 h
    have e : encR x y = (encB (val x) (val y), 0) := by rw [encR, if_pos h]
    have r0 := runEncT prV fInv x y
    obtain ⟨s1, _⟩ := enc_set (val x) (val y) (Nat.lt_trans a2 Pp_q255) _ (lowbit x).1
    rw [Nat.mod_eq_of_lt a2, bl_get31, s1, bl_length] at r0
    have hl : (encB (val x) (val y)).length = 32 := bl_length _ _
    refine use_run r0 (by rw [e, ← hl, cutL_all]) ?_
    clear r0
    simp only [AllP]
    and_intros <;> first | exact True.intro | exact bnT h | with_reducible rfl | omega
  · exact use_run (runEncF prV fInv x y) (by rw [encR, if_neg h]; rfl) ⟨bnF h, by omega, trivial⟩
/-! ### The document's number -/
def tblDa0 (v : Nat → Nat) : List (FuncId × CtS) :=
  tblE3
theorem gsDa0 : GSound Tryd.prog (upG (lookG (tblDa0 fInv))) := GSound_of_tbl okE
def spRD : List AV → Option (AV × List Prop)
  | [] => some (.val true [.fe dN], [])
  | _ => none
theorem dN_def : fMul (fNeg 121665) (fInv 121666) = dN := by
  have h : fMul dN 121666 = fNeg 121665 := by kernel_rfl
  rw [← h, fMul_assoc, fInv_mul (by decide) (by decide), fMul_one dN_lt]
end Go.Proofs.YtlgiaglbdifkpaaDoor
/- Contracts of layer 8: the document's points, sums and multiples. Own work. -/
namespace Go.Proofs.YtlgiaglbdifkpaaDoor
open Go.Ev Go.Sp Go.RowKit
set_option maxRecDepth 100000
def tblDb0 : List (FuncId × CtS) :=
  tblE3
theorem okDb0 : TblOk Tryd.prog tblDb0 := okE
theorem gsDb0 : GSound Tryd.prog (upG (lookG tblDb0)) := GSound_of_tbl okDb0
def spRRight : List AV → Option (AV × List Prop)
  | [.val true [.n4 a]] => some (sc (.bool (decide (val a < Pp))), [])
  | _ => none
def tblDb : List (FuncId × CtS) :=
  tblDb0
theorem okDb : TblOk Tryd.prog tblDb := okDb0
theorem gsDb : GSound Tryd.prog (upG (lookG tblDb)) := GSound_of_tbl okDb
def spROf8 : List AV → Option (AV × List Prop)
  | [.val true [.n4 x, .n4 y]] => some (.val true [.fe (val x % Pp), .fe (val y % Pp), .fe 1], [])
  | _ => none
def spRNo8 : List AV → Option (AV × List Prop)
  | [] => some (.val true [.fe 0, .fe 1, .fe 1], [])
  | _ => none
/-- The sum by whatever function. -/
def spRPlG (G : Nat → T3 → T3 → T3) : List AV → Option (AV × List Prop)
  | [.val true [.fe d], .val true [.fe a, .fe b, .fe c], .val true [.fe a', .fe b', .fe c']] => some (.val true [.fe (G d ⟨a, b, c⟩ ⟨a', b', c'⟩).x, .fe (G d ⟨a, b, c⟩ ⟨a', b', c'⟩).y, .fe (G d ⟨a, b, c⟩ ⟨a', b', c'⟩).z], [d < Pp, a < Pp, b < Pp, c < Pp, a' < Pp, b' < Pp, c' < Pp])
  | _ => none
def tblDc (G : Nat → T3 → T3 → T3) : List (FuncId × CtS) :=
  []
theorem gsDc : GSound Tryd.prog (upG (lookG (tblDc plus3))) := GSound_of_tbl trivial
def spRPlusG (G : T3 → T3 → T3) : List AV → Option (AV × List Prop)
  | [.val true [.fe a, .fe b, .fe c], .val true [.fe a', .fe b', .fe c']] => some (.val true [.fe (G ⟨a, b, c⟩ ⟨a', b', c'⟩).x, .fe (G ⟨a, b, c⟩ ⟨a', b', c'⟩).y, .fe (G ⟨a, b, c⟩ ⟨a', b', c'⟩).z], [a < Pp, b < Pp, c < Pp, a' < Pp, b' < Pp, c' < Pp])
  | _ => none
def plusD (p q : T3) : T3 := plus3 dN p q
end Go.Proofs.YtlgiaglbdifkpaaDoor
/- Contracts of layer 8: the document's multiples. Own work. -/
namespace Go.Proofs.YtlgiaglbdifkpaaDoor
open Go.Ev Go.Sp Go.RowKit
set_option maxRecDepth 100000
def tsTd : List Nat := [0, 3, 4, 5, 6, 7]
def tsTdI : List Nat := [0, 3, 4, 5, 6, 7, 8, 9]
def z48 : List Int := [0, 0, 0, 0, 0, 0, 0, 0, 0, 0, 0, 0, 0, 0, 0, 0, 0, 0, 0, 0, 0, 0, 0, 0, 0, 0, 0, 0, 0, 0, 0, 0, 0, 0, 0, 0, 0, 0, 0, 0, 0, 0, 0, 0, 0, 0, 0, 0]
def tsInv (n d : Nat) (p o : T3) (i : Int) : St := ⟨slotsOf 40 [(0, sc (.sl 0 0 (dg n).length)), (3, sc (.ptr 1 0)), (4, sc (.ptr 2 0)), (5, sc (.ptr 3 0)), (6, sc (.ptr 4 0)), (7, sc (.i64 i))], [(0, ⟨false, [.vd n]⟩), (1, ⟨true, [.fe p.x, .fe p.y, .fe p.z]⟩), (2, ⟨true, [.vi 48 z48]⟩), (3, ⟨true, [.fe d]⟩), (4, ⟨true, [.fe o.x, .fe o.y, .fe o.z]⟩)], 16⟩
def tsInvI (n d : Nat) (p o : T3) (i D k : Int) : St := ⟨slotsOf 40 [(0, sc (.sl 0 0 (dg n).length)), (3, sc (.ptr 1 0)), (4, sc (.ptr 2 0)), (5, sc (.ptr 3 0)), (6, sc (.ptr 4 0)), (7, sc (.i64 i)), (8, sc (.i64 D)), (9, sc (.i64 k))], [(0, ⟨false, [.vd n]⟩), (1, ⟨true, [.fe p.x, .fe p.y, .fe p.z]⟩), (2, ⟨true, [.vi 48 z48]⟩), (3, ⟨true, [.fe d]⟩), (4, ⟨true, [.fe o.x, .fe o.y, .fe o.z]⟩)], 16⟩
theorem bit_dig (n i k : Nat) (hk : k < 8) : n / 2 ^ (8 * i + k) % 2 = dig n i / 2 ^ k % 2 := by
  have h : n / 2 ^ (8 * i + k) = n / 256 ^ i / 2 ^ k := by
    rw [Nat.pow_add, Nat.pow_mul, Nat.div_div_eq_div_mul]
  rw [h]
  unfold dig
  generalize n / 256 ^ i = m
  have hk' : k = 0 ∨ k = 1 ∨ k = 2 ∨ k = 3 ∨ k = 4 ∨ k = 5 ∨ k = 6 ∨ k = 7 := by omega
  rcases hk' with h | h | h | h | h | h | h | h <;> subst h <;> simp only [Nat.reducePow] <;> omega
def tsD (n : Nat) (p : T3) : T3 := tO dN p n (8 * (dg n).length)
def spRTs (H : Nat → T3 → T3) : List AV → Option (AV × List Prop)
  | [.val false [.dN n], .val true [.fe a, .fe b, .fe c]] => some (.val true [.fe (H n ⟨a, b, c⟩).x, .fe (H n ⟨a, b, c⟩).y, .fe (H n ⟨a, b, c⟩).z], [Sm n, a < Pp, b < Pp, c < Pp])
  | _ => none
end Go.Proofs.YtlgiaglbdifkpaaDoor
