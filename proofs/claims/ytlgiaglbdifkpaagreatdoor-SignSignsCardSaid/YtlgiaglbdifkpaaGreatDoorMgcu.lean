/- Texts put together: CuT SgC SgE SgF ShK ShL ShF. Own work. -/
import Derived.Test.YtlgiaglbdifkpaaGreatDoorMgct
/- Layer 8, plain: a point's bytes are read as the point, and what is read is told as it stood. Own work. -/
namespace Go.Proofs.YtlgiaglbdifkpaaGreatDoor
open Go.Ev Go.Sp Go.RowKit
section
variable {n : Nat} [NeZero n]
theorem r_xx' {d x y : Fin n} (h : x*x*(1 + d*(y*y)) = y*y - 1) : y*y - x*x = 1 + d*(x*x*(y*y)) := by grind
/-- What is divided by is never nought. -/
theorem den_neG (C : Cv n) (y : Fin n) : 1 + C.d * (y * y) ≠ 0 := fun h => by
  by_cases h0 : y = 0
  · subst h0
    refine C.one ?_
    grind
  · have h1 := C.inv_mul y h0
    have h2 := C.i2
    refine C.nsq (C.i * C.inv y) ?_
    grind
end
def denN (y : Nat) : Nat := fAdd 1 (fMul dN (fMul y y))
theorem denN_ne (y : Nat) : denN y ≠ 0 := fun h => by
  refine den_neG Ed (tF y) ?_
  have h1 := congrArg tF h
  unfold denN at h1
  simp only [tF_add, tF_mul, tF_one, tF_zero] at h1
  exact h1
theorem xxV_den (y : Nat) : fMul (xxV y) (denN y) = fSub (fMul y y) 1 := by
  have hl : denN y < Pp := fAdd_lt _ _
  have e : xxV y = fMul (fSub (fMul y y) 1) (fInv (denN y)) := rfl
  rw [e, fMul_assoc, fMul_comm (fInv _), inv_mul (denN_ne y) hl, fMul_one (f_Sub_lt _ _)]
theorem xx_on {x y : Nat} (h : fMul x x = xxV y) : OnN x y := by
  refine on_OnN ?_
  have h1 := congrArg tF (xxV_den y)
  rw [← h, tF_sub _ one_lt] at h1
  simp only [denN, tF_add, tF_mul, tF_one] at h1
  exact r_xx' h1
theorem even_fNeg {r : Nat} (hr : r < Pp) (h0 : r ≠ 0) (h : r % 2 = 0) : fNeg r % 2 = 1 := by
  have hp : Pp % 2 = 1 := by decide
  rw [fNeg_pos h0 hr]
  generalize Pp = p at *
  omega
theorem enc_len (x y : Nat) : (encB x y).length = 32 := bl_length _ _
theorem wX_on {y s : Nat} (h : wOk y (s : Int)) : OnN (wX y (s : Int)) y := by
  obtain ⟨h1, _⟩ := (wOk_nat _ _).1 h
  obtain ⟨r1, r2, _⟩ := prV_sq h1
  refine xx_on ?_
  unfold wX
  split
  · rw [fNeg_sq r2, r1]
  · exact r1
theorem wX_bit {y s : Nat} (h : wOk y (s : Int)) (hs : s = 0 ∨ s = 1) : wX y (s : Int) % 2 = s := by
  obtain ⟨h1, h2⟩ := (wOk_nat _ _).1 h
  obtain ⟨_, r2, r3⟩ := prV_sq h1
  unfold wX
  rcases hs with rfl | rfl
  · rw [if_neg (by decide)]; exact r3
  · rw [if_pos (by decide)]
    exact even_fNeg r2 (fun q => h2 ⟨q, rfl⟩) r3
theorem dec_back {b : BL} (h : dOk b) : onV (val (ofN (dX b))) (val (ofN (dY b))) = true ∧ encB (val (ofN (dX b))) (val (ofN (dY b))) = b := by
  obtain ⟨h1, h2, h3⟩ := h
  have hX : dX b < Pp := wX_lt _ _
  have hY : dY b < Pp := h2
  rw [val_lo hX, val_lo hY]
  refine ⟨onV_iff.2 ⟨hX, hY, wX_on h3⟩, ?_⟩
  have hb := wX_bit h3 (top01 h1)
  have e : dY b + q255 * (dX b % 2) = bv b := by
    unfold dY dX
    rw [hb]
    exact Nat.mod_add_div _ _
  unfold encB
  rw [e, ← h1]
  exact bl_bv b
end Go.Proofs.YtlgiaglbdifkpaaGreatDoor
/- Signatures, plain: the group behind them. Own work. -/
namespace Go.Proofs.YtlgiaglbdifkpaaGreatDoor
open Go.Ev Go.Sp Go.RowKit
set_option maxRecDepth 100000
theorem eqq9 (a b : N4) : (a.eq a && (b.eq b && true)) = true := by rw [eq_selfN, eq_selfN]; rfl
theorem Lo_Lp : Lo = Lp := by decide
/-! ### Secrets -/
theorem b248 : ∀ x : BitVec 8, (x &&& 248#8).toNat % 8 = 0 := by decide
theorem b64 : ∀ x : BitVec 8, 64 ≤ (x &&& 63#8 ||| 64#8).toNat ∧ (x &&& 63#8 ||| 64#8).toNat < 128 := by decide
theorem clamp_bv (k : BL) (hk : k.length = 32) : bv (clampL k) % 8 = 0 ∧ 28948022309329048855892746252171976963317496166410141009864396001978282409984 ≤ bv (clampL k) ∧ bv (clampL k) < 57896044618658097711785492504343953926634992332820282019728792003956564819968 := by
  obtain ⟨a, m, b, e⟩ : ∃ (a : BitVec 8) (m : BL) (b : BitVec 8), clampL k = (a &&& 248#8) :: (m ++ [b &&& 63#8 ||| 64#8]) ∧ m.length = 30 := by
    match k, hk with
    | [k0, k1, k2, k3, k4, k5, k6, k7, k8, k9, k10, k11, k12, k13, k14, k15, k16, k17, k18, k19, k20, k21, k22, k23, k24, k25, k26, k27, k28, k29, k30, k31], _ =>
      exact ⟨k0, [k1, k2, k3, k4, k5, k6, k7, k8, k9, k10, k11, k12, k13, k14, k15, k16, k17, k18, k19, k20, k21, k22, k23, k24, k25, k26, k27, k28, k29, k30], k31, rfl, rfl⟩
  obtain ⟨e, hm⟩ := e
  have ha := b248 a
  have hb := b64 b
  have h30 := bv_lt m
  have hp : (256 : Nat) ^ 30 = 1766847064778384329583297500742918515827483896875618958121606201292619776 := by decide
  rw [hm, hp] at h30
  have hav := (a &&& 248#8).isLt
  rw [e]
  simp only [bv]
  rw [bv_append, hm, hp]
  simp only [bv]
  generalize (a &&& 248#8).toNat = x at *
  generalize (b &&& 63#8 ||| 64#8).toNat = y at *
  generalize bv m = z at *
  omega
/-- The secret number. -/
def secV (l : BL) : Nat := bv (clampL ((shaL l).take 32))
theorem take32_len (l : BL) : ((shaL l).take 32).length = 32 := by rw [List.length_take, shaL_len]; rfl
theorem secN_val (l : BL) : secN l = ofN (secV l) ∧ val (secN l) = secV l := by
  have ht := take32_len l
  have e : secN l = ofN (secV l) := by
    have hl : (clampL ((shaL l).take 32)).length ≤ 32 := by rw [clampL_len, ht]; exact Nat.le_refl _
    rw [secN, clampV, if_pos ht, fromV, if_pos hl, secV]
  refine ⟨e, ?_⟩
  have h := (clamp_bv _ ht).2.2
  rw [e, val_ofN, Nat.mod_eq_of_lt]
  exact Nat.lt_trans h (by decide)
/-! ### Points in bytes -/
def pB (P : Pt Ed) : BL := encB (val (prP P).x) (val (prP P).y)
theorem pB_len (P : Pt Ed) : (pB P).length = 32 := enc_len _ _
theorem ptB_eq (n : N4) : ptB n = pB (Pt.times (val n) Bp) := by
  have hm := multR_P (n := n) base_onV
  rw [ptV_B] at hm
  rw [ptB, hm, encR, if_pos (prP_on _), pB]
theorem eq_of_eqN {a b c d : N4} (h : (a.eq c && (b.eq d && true)) = true) : a = c ∧ b = d := by
  rw [Bool.and_eq_true] at h
  have h1 := eq_N4 a c
  have h2 := eq_N4 b d
  rw [h.1] at h1
  rw [h.2] at h2
  exact ⟨val_inj (beq_iff_eq.1 h1.symm), val_inj (beq_iff_eq.1 h2.symm)⟩
theorem prP_inj {P Q : Pt Ed} (hx : (prP P).x = (prP Q).x) (hy : (prP P).y = (prP Q).y) : P = Q := by
  have h1 := val_xP P
  have h2 := val_xP Q
  have h3 := val_yP P
  have h4 := val_yP Q
  rw [hx] at h1
  rw [hy] at h3
  exact Pt.ext (Fin.ext (h1.symm.trans h2)) (Fin.ext (h3.symm.trans h4))
theorem small_P (P : Pt Ed) : smallR (prP P).x (prP P).y = true ↔ Pt.times 8 P = Pt.nought := by
  have hm := multR_P (n := eightN) (prP_on P)
  rw [ptV_prP, show val eightN = 8 by kernel_rfl] at hm
  unfold smallR smallM
  rw [hm]
  constructor
  · intro h
    rw [Bool.and_eq_true] at h
    obtain ⟨h1, h2⟩ := eq_of_eqN h.2
    have hn := no_pr
    exact prP_inj (by rw [h1, hn]) (by rw [h2, hn])
  · intro h
    rw [h, no_pr]
    show ((0 : Int) == 0 && ((ofN 0).eq (ofN 0) && ((ofN 1).eq (ofN 1) && true))) = true
    rw [beq_self_eq_true, Bool.true_and]
    exact eqq9 _ _
/-! ### Numbers of points -/
theorem redN_val (a : N4) : val (redN a) = val a % Lp := by rw [redN, redV, Lo_Lp]
theorem Lp_pos : 0 < Lp := by decide
theorem digN_val (b : BL) : val (digN b) = bv (shaL b) % Lp := by
  rw [digN, sofV, if_pos (by rw [shaL_len]; exact Nat.le_refl _)]
  show val (ofN (bv (shaL b) % Lo)) = _
  rw [redV, Lo_Lp]
theorem dig_lt (b : BL) : val (digN b) < Lp := by rw [digN_val]; exact Nat.mod_lt _ Lp_pos
/-- The number that a signature bears. -/
theorem sgS_val (l b : BL) : val (sgS l b) = (val (sgR l b) + val (sgK l b) * secV l) % Lp := by
  have h1 : val (sgR l b) < Lp := dig_lt _
  have h2 : val (sgK l b) < Lp := dig_lt _
  have hm : val (mulS (sgK l b) (redN (secN l))) = (val (sgK l b) * secV l) % Lp := by
    rw [mulS, redV, Lo_Lp, redN_val, (secN_val l).2, Nat.mod_mod, ← Nat.mul_mod]
  rw [sgS, addS, redV, Lo_Lp, hm, Nat.mod_mod, ← Nat.add_mod]
/-! ### Verifying -/
theorem Lp_256 : Lp < 256 ^ 32 := by decide
theorem sdec_ok {b : BL} (hb : b.length = 32) (h : (sdecV b).2 = 0) : bv b < Lp ∧ (sdecV b).1 = ofN (bv b) := by
  unfold sdecV at h ⊢
  rw [if_pos hb] at h ⊢
  by_cases h1 : bv b < Lo
  · rw [if_pos h1]
    exact ⟨Lo_Lp ▸ h1, rfl⟩
  · rw [if_neg h1] at h
    exact absurd h (by decide)
theorem mod_val {n : Nat} (h : n < Lp) : val (ofN n) = n := by
  rw [val_ofN, Nat.mod_eq_of_lt]
  exact Nat.lt_trans h (by decide)
/-- Verifying, where key, point and number are read: an equation of points. -/
theorem ver_iff {k b s : BL} {A R : Pt Ed} {S : Nat} (hk : k.length = 32) (hs : s.length = 64) (hA : decR k = prP A) (hR : decR (s.take 32) = prP R)
    (hS : sdecV (s.drop 32) = (ofN S, 0)) (hl : S < Lp) (h8 : Pt.times 8 A ≠ Pt.nought) :
    verE k b s = 0 ↔ Pt.times S Bp = R.add (Pt.times (val (digN (s.take 32 ++ k ++ b))) A) := by
  have hv : verR s k b = prP ((Pt.times S Bp).add (Pt.times (val (digN (s.take 32 ++ k ++ b))) A.neg)) := by
    unfold verR
    have h1 : val (redN (sdecV (s.drop 32)).1) = S := by rw [redN_val, hS, mod_val hl, Nat.mod_eq_of_lt hl]
    have h2 : val (redN (digN (s.take 32 ++ k ++ b))) = val (digN (s.take 32 ++ k ++ b)) := by rw [redN_val, Nat.mod_eq_of_lt (dig_lt _)]
    have hneg : negR (decR k).x (decR k).y = prP A.neg := by rw [hA, negR_P (prP_on A), ptV_prP]
    rw [hneg, bothR, dif_pos base_onV, dif_pos (prP_on _), ptV_prP, ptV_B, h1, h2]
  have hgrp : ∀ X Y : Pt Ed, X.add Y.neg = R ↔ X = R.add Y := fun X Y => by
    constructor
    · intro h
      rw [← h, Pt.add_assoc, Pt.add_comm Y.neg, Pt.add_neg, Pt.add_nought]
    · intro h
      rw [h, Pt.add_assoc, Pt.add_neg, Pt.add_nought]
  rw [← hgrp, ← Pt.times_neg]
  have hn : ¬ smallR (decR k).x (decR k).y = true := by rw [hA, small_P]; exact h8
  have e1 : ¬ (decR k).e ≠ 0 := by rw [hA]; exact fun h => h rfl
  have e2 : ¬ (decR (s.take 32)).e ≠ 0 := by rw [hR]; exact fun h => h rfl
  have e3 : ¬ (sdecV (s.drop 32)).2 ≠ 0 := by rw [hS]; exact fun h => h rfl
  unfold verE
  rw [if_neg (by omega), if_neg (by omega), if_neg e3, if_neg e1, if_neg hn, if_neg e2, hv, hR]
  generalize (Pt.times S Bp).add (Pt.times (val (digN (s.take 32 ++ k ++ b))) A.neg) = Q
  constructor
  · intro h
    split at h
    · rename_i hq
      obtain ⟨h1, h2⟩ := eq_of_eqN hq
      exact prP_inj h1 h2
    · exact absurd h (by decide)
  · intro h
    rw [h, if_pos (eqq9 _ _)]
/-! ### Signing and verifying -/
theorem pubB_eq {l : BL} (h : l.length = 32) : pubB l = pB (Pt.times (secV l) Bp) := by rw [pubB, if_pos h, ptB_eq, (secN_val l).2]
theorem sgF_eq (l b : BL) : sgF l b = pB (Pt.times (val (sgR l b)) Bp) := by
  rw [sgF, ptB_eq, redN_val, Nat.mod_eq_of_lt (show val (sgR l b) < Lp from dig_lt _)]
theorem sgF_len (l b : BL) : (sgF l b).length = 32 := by rw [sgF_eq]; exact pB_len _
theorem key_sgK {l b : BL} (h : l.length = 32) : digN (sgF l b ++ pubB l ++ b) = sgK l b := by rw [sgK, pubB, if_pos h]
end Go.Proofs.YtlgiaglbdifkpaaGreatDoor
/- The public key of 32 noughts, computed by the kernel. Own work. -/
namespace Go.Proofs.YtlgiaglbdifkpaaGreatDoor
open Go.Ev Go.Sp Go.RowKit
set_option maxRecDepth 100000
/-! ### The rounds over the ring of words -/
def nextF (r : List W6) (t : Nat) : W6 := r.getD (t % 16) 0#64 + (sR3 (r.getD ((t + 1) % 16) 0#64) 1 8 7 + r.getD ((t + 9) % 16) 0#64 + sR3 (r.getD ((t + 14) % 16) 0#64) 19 61 6)
theorem nextF_ring (l : BL) (t : Nat) (h : 16 ≤ t) : nextF (ring l t) t = wd l t := by
  have e := b2X_ring l t h
  unfold b2X b2At at e
  rw [show ((t : Nat) : Int) + 1 = ((t + 1 : Nat) : Int) by omega, show ((t : Nat) : Int) + 9 = ((t + 9 : Nat) : Int) by omega, show ((t : Nat) : Int) + 14 = ((t + 14 : Nat) : Int) by omega, tm16, tm16, tm16, tm16] at e
  simp only [Int.toNat_natCast, Nat.zero_add, Nat.mul_one] at e
  exact e
def goS : Nat → Nat → List W6 → E8 → E8
  | 0, _, _, s => s
  | n + 1, t, r, s =>
    let w := if t < 16 then r.getD t 0#64 else nextF r t
    let s' := rnd s (kW t) w
    if s'.a.toNat + s'.e.toNat + w.toNat = 73786976294838206464 then s else goS n (t + 1) (if t < 16 then r else r.set (t % 16) w) s'
theorem goS_ok (l : BL) (v : E8) : ∀ n t, goS n t (ring l t) (rnds l v t) = rnds l v (t + n)
  | 0, t => rfl
  | n + 1, t => by
    have hw : (if t < 16 then (ring l t).getD t 0#64 else nextF (ring l t) t) = wd l t := by
      by_cases h : t < 16
      · rw [if_pos h]
        have := ring_get l t t h
        rw [show ri t t = t by unfold ri; omega] at this
        exact this
      · rw [if_neg h, nextF_ring l t (by omega)]
    have hr : (if t < 16 then ring l t else (ring l t).set (t % 16) (wd l t)) = ring l (t + 1) := by
      by_cases h : t < 16
      · rw [if_pos h, ring_low l t h]
      · rw [if_neg h, ring_next l t (by omega)]
    rw [goS]
    simp only [hw, hr]
    have h1 := (rnd (rnds l v t) (kW t) (wd l t)).a.isLt
    have h2 := (rnd (rnds l v t) (kW t) (wd l t)).e.isLt
    have h3 := (wd l t).isLt
    rw [if_neg (by omega), ← rnds_succ, goS_ok l v n (t + 1)]
    congr 1
    omega
theorem rnds80 (l : BL) (v : E8) : rnds l v 80 = goS 80 0 (words16 l) v := by
  have := goS_ok l v 80 0
  rw [ring_zero] at this
  rw [Nat.zero_add] at this
  exact this.symm
/-! ### The sum of 32 noughts -/
def z32 : BL := List.replicate 32 0#8
def zPad : BL := List.replicate 32 0#8 ++ [128#8] ++ List.replicate 93 0#8 ++ [1#8, 0#8]
theorem padP_z : padP z32 = zPad := by kernel_rfl
def zSum : E8 := ⟨0x5046adc1dba83886#64, 0x7b2bbbfdd0c3423e#64, 0x58b57970b5267a90#64, 0xf57960924a87f196#64, 0x0a6a85eaa642dac8#64, 0x35424b5d7c8d637c#64, 0x00408c7a73da672b#64, 0x7f498521420b6dd3#64⟩
theorem blk_z : fst8.add (goS 80 0 (words16 zPad) fst8) = zSum := by kernel_rfl
theorem sha_z : shaL z32 = toldP zSum := by
  rw [shaL, padP_z, show zPad.length / 128 = 1 from by kernel_rfl]
  rw [show sumH fst8 zPad 1 = blk8 fst8 ((zPad.drop (128 * 0)).take 128) from rfl, show (zPad.drop (128 * 0)).take 128 = zPad from by kernel_rfl, blk8, rnds80, blk_z]
def zSec : Nat := 39325648866980652792715009169219496062012184734522019333892538943312776480336
theorem sec_z : secV z32 = zSec := by
  rw [secV, sha_z]
  kernel_rfl
/-! ### Its point -/
def zY : Nat := 18930617471878267742194159801949745215346600387277955685031939302387136031291
def goY : List Bool → T3 → Bool
  | [], p => !(p.z == 0) && fMul zY p.z == p.y
  | b :: r, ⟨x, y, z⟩ => if x + y + z = 0 then false else goY r (if b then plus3 dN (plus3 dN ⟨x, y, z⟩ ⟨x, y, z⟩) ⟨bxN, byN, 1⟩ else plus3 dN ⟨x, y, z⟩ ⟨x, y, z⟩)
theorem goY_ok : ∀ (l : List Bool) (k : Nat) (p : T3), p.Lt → R3 (Pt.times k Bp) p → goY l p = true → (Pt.times (numB l k) Bp).y.val = zY
  | [], k, p, hl, hp, h => by
    simp only [goY, Bool.and_eq_true, Bool.not_eq_true', beq_eq_false_iff_ne, beq_iff_eq] at h
    show (Pt.times k Bp).y.val = zY
    obtain ⟨_, e⟩ := R3.point hp hl.2.2
    rw [← e, ← h.2, fMul_assoc, inv_mul h.1 hl.2.2, fMul_one (by decide)]
  | b :: r, k, ⟨x, y, z⟩, hl, hp, h => by
    unfold goY at h
    split at h
    · simp at h
    have hd := hp.add hp
    rw [← Pt.times_add] at hd
    rw [numB]
    cases b with
    | false =>
      exact goY_ok r _ _ (plus3_lt _ _ _) (by rw [Nat.two_mul]; exact hd) h
    | true =>
      refine goY_ok r _ _ (plus3_lt _ _ _) ?_ h
      rw [Nat.two_mul]
      exact hd.add (R3.of bON)
theorem pt_z : (Pt.times zSec Bp).y.val = zY := by
  have h := goY_ok (bitsB zSec 255) 0 nought3 nought3_lt R3.nought (by kernel_rfl)
  rwa [show numB (bitsB zSec 255) 0 = zSec by kernel_rfl] at h
theorem pub_z0 : (pubB z32).getD 0 0#8 = 59#8 ∧ (pubB z32).getD 1 0#8 = 106#8 ∧ (pubB z32).length = 32 := by
  have h32 : z32.length = 32 := by kernel_rfl
  rw [pubB_eq h32, sec_z]
  have hy : val (prP (Pt.times zSec Bp)).y = zY := by rw [val_yP, pt_z]
  have hb : ∀ x, encB x zY = bl (zY + q255 * (x % 2)) 32 := fun x => rfl
  have g0 : ∀ n, (bl n 32).getD 0 0#8 = BitVec.ofNat 8 n ∧ (bl n 32).getD 1 0#8 = BitVec.ofNat 8 (n / 256) := fun n => by
    have h : ∀ m, (bl n (m + 2)).getD 0 0#8 = BitVec.ofNat 8 n ∧ (bl n (m + 2)).getD 1 0#8 = BitVec.ofNat 8 (n / 256) := fun m => by
      induction m with
      | zero => exact ⟨by simp [bl], by simp [bl]⟩
      | succ m ih =>
        have hl := bl_length n (m + 2)
        rw [bl_snoc, List.getD_eq_getElem?_getD, List.getElem?_append_left (by omega), ← List.getD_eq_getElem?_getD, List.getD_eq_getElem?_getD (i := 1), List.getElem?_append_left (by omega), ← List.getD_eq_getElem?_getD]
        exact ih
    exact h 30
  have k0 : ∀ e, e < 2 → BitVec.ofNat 8 (zY + q255 * e) = 59#8 ∧ BitVec.ofNat 8 ((zY + q255 * e) / 256) = 106#8 := fun e he => by
    have : e = 0 ∨ e = 1 := by omega
    rcases this with rfl | rfl <;> exact ⟨by kernel_rfl, by kernel_rfl⟩
  have e2 := k0 (val (prP (Pt.times zSec Bp)).x % 2) (Nat.mod_lt _ (by omega))
  rw [pB, hy, hb]
  have e1 := g0 (zY + q255 * (val (prP (Pt.times zSec Bp)).x % 2))
  exact ⟨e1.1.trans e2.1, e1.2.trans e2.2, bl_length _ _⟩
theorem ver_z : verE (pubB z32) [] [] = 1 := by
  unfold verE
  rw [if_neg (by rw [pub_z0.2.2]; omega), if_pos (by decide)]
end Go.Proofs.YtlgiaglbdifkpaaGreatDoor
/- Layer 9's laws of the program alone, by contract: what they share. Own work. -/
namespace Go.Proofs.YtlgiaglbdifkpaaGreatDoor
open Go.Ev Go.Sp Go.RowKit
set_option maxRecDepth 100000
theorem runOwn9 (l : BL) : fnS Tryz.prog (lookG []) (orcA []) [] 20 6 [sc (.d8 l)] =
    some (sc (IV.d8 (cutL l 0 (0 + List.length l) (List.length l))), [List.length l = List.length l, 0 = 0, (0 + List.length l) * 1 ≤ 140737488355328 ∧ 0 + List.length l ≤ 9223372036854775807, 0 + (0 + List.length l) ≤ List.length l]) := by kernel_rfl
def spOwn9 : List AV → Option (AV × List Prop)
  | [.val false [.d8 l]] => some (sc (.d8 l), [l.length ≤ 140737488355328])
  | _ => none
theorem ctOwn9 : CtSOk Tryz.prog 6 (.fn spOwn9) := FnS_of_fnS gs0 fol fun ds r cs h hc => by
  unfold spOwn9 at h
  split at h
  case h_2 => simp at h
  rename_i l
  simp only [Option.some.injEq, Prod.mk.injEq] at h
  obtain ⟨rfl, rfl⟩ := h
  have hl := hc.1
  have r0 := runOwn9 l
  refine use_run r0 ?_ ?_
  · clear r0
    rw [Nat.zero_add, cutW]
  · clear r0
    simp only [AllP]
    and_intros <;> first | exact True.intro | with_reducible rfl | omega
def tblAw9 (p : BL → BL) (e : BL → Int) (v : BL → BL → BL → Int) : List (FuncId × CtS) :=
  (7, .fn (spPubG p e)) :: (10, .fn (nil8 (spVerG v))) :: []
theorem ctVer8 : CtSOk Tryz.prog 10 (.fn (nil8 (spVerG verE))) := FnS_nil8 ctVer
theorem gsAw9 : GSound Tryz.prog (upG (lookG (tblAw9 pubB eL verE))) := GSound_of_tbl ⟨⟨ctPub, by kernel_rfl⟩, ⟨ctVer8, by kernel_rfl⟩, trivial⟩
theorem runAw9 (p : BL → BL) (e : BL → Int) (v : BL → BL → BL → Int) : fnS Tryz.prog (lookG (tblAw9 p e v)) (orcA [(2, [(1, true), (5, true), (11, true), (17, true), (22, true)])]) [] 40 9 [] =
    some (sc (IV.bool true), [(0 : Int) ≤ (32 : Int), (0 : Int) ≤ (32 : Int), 32 = 32 ∧ 32 ≤ 281474976710656 ∧ 32 ≤ 9223372036854775807, 32 = 32, (e (List.replicate 32 (BitVec.ofNat 8 0)) == (0 : Int)) = true, ((↑(List.length (p (List.replicate 32 (BitVec.ofNat 8 0)))) : Int) == (32 : Int)) = true, (0 : Int) ≤ (0 : Int), 0 < List.length (p (List.replicate 32 (BitVec.ofNat 8 0))), 0 < List.length (p (List.replicate 32 (BitVec.ofNat 8 0))), (List.getD (p (List.replicate 32 (BitVec.ofNat 8 0))) 0 (BitVec.ofNat 8 0) == BitVec.ofNat 8 59) = true, (0 : Int) ≤ (1 : Int), 1 < List.length (p (List.replicate 32 (BitVec.ofNat 8 0))), 1 < List.length (p (List.replicate 32 (BitVec.ofNat 8 0))), (List.getD (p (List.replicate 32 (BitVec.ofNat 8 0))) 1 (BitVec.ofNat 8 0) == BitVec.ofNat 8 106) = true, List.length (p (List.replicate 32 (BitVec.ofNat 8 0))) = List.length (p (List.replicate 32 (BitVec.ofNat 8 0))), 0 ≤ 4000, (v (p (List.replicate 32 (BitVec.ofNat 8 0))) [] [] == (1 : Int)) = true]) := by kernel_rfl
def spTr : List AV → Option (AV × List Prop)
  | [] => some (sc (.bool true), [])
  | _ => none
theorem intT {n m : Int} (h : n = m) : (n == m) = true := by rw [h]; exact beq_self_eq_true m
theorem natT {n m : Nat} (h : n = m) : ((n : Int) == (m : Int)) = true := by rw [h]; exact beq_self_eq_true _
theorem bvT {n m : BitVec 8} (h : n = m) : (n == m) = true := by rw [h]; exact beq_self_eq_true m
theorem ctAw9 : CtSOk Tryz.prog 9 (.fn spTr) := FnS_of_fnS gsAw9 fol fun ds r cs h hc => by
  unfold spTr at h
  split at h
  case h_2 => simp at h
  simp only [Option.some.injEq, Prod.mk.injEq] at h
  obtain ⟨rfl, rfl⟩ := h
  obtain ⟨z0, z1, z2⟩ := pub_z0
  have zv := ver_z
  have r0 := runAw9 pubB eL verE
  refine use_run r0 rfl ?_
  clear r0
  have hz : List.replicate 32 (BitVec.ofNat 8 0) = z32 := rfl
  rw [hz]
  have he : eL z32 = 0 := by kernel_rfl
  generalize pubB z32 = k at *
  generalize eL z32 = e at *
  have h1 := intT he
  have h2 := natT (m := 32) z2
  have h3 := bvT z0
  have h4 := bvT z1
  have h5 := intT zv
  simp only [AllP]
  and_intros <;> first | exact True.intro | with_reducible assumption | with_reducible rfl | omega
end Go.Proofs.YtlgiaglbdifkpaaGreatDoor
/- The rounds' numbers of the document, plain: digits to the base 65536 in words, products, roots. Own work. -/
namespace Go.Proofs.YtlgiaglbdifkpaaGreatDoor
open Go.Ev Go.Sp Go.RowKit
set_option maxRecDepth 100000
/-- What digits in words stand for. -/
def vW : List W6 → Nat
  | [] => 0
  | d :: r => d.toNat + 65536 * vW r
def DW (l : List W6) : Prop := ∀ d ∈ l, d.toNat < 65536
def dgW (x : Nat) : Nat → List W6
  | 0 => []
  | n + 1 => BitVec.ofNat 64 (x % 65536) :: dgW (x / 65536) n
theorem vW_append : ∀ (l m : List W6), vW (l ++ m) = vW l + 65536 ^ l.length * vW m
  | [], m => by simp [vW]
  | d :: l, m => by
    rw [List.cons_append, vW, vW_append l m, vW, List.length_cons, Nat.pow_succ, Nat.mul_add, ← Nat.mul_assoc, Nat.add_assoc, Nat.mul_comm 65536 (65536 ^ l.length)]
theorem vW_lt : ∀ {l : List W6}, DW l → vW l < 65536 ^ l.length
  | [], _ => by simp [vW]
  | a :: l, h => by
    have h1 := h a (by simp)
    have h2 := vW_lt (l := l) fun d hd => h d (by simp [hd])
    rw [vW, List.length_cons, Nat.pow_succ]
    generalize 65536 ^ l.length = q at *
    omega
theorem vW_set : ∀ {l : List W6} {j : Nat} (d : W6), j < l.length → vW (l.set j d) + 65536 ^ j * (l.getD j 0).toNat = vW l + 65536 ^ j * d.toNat
  | a :: l, 0, d, _ => by simp [vW, List.set]; omega
  | a :: l, j + 1, d, h => by
    have ih := vW_set (l := l) (j := j) d (by simpa using h)
    rw [List.set_cons_succ, vW, vW, List.getD_cons_succ, Nat.pow_succ]
    generalize vW (l.set j d) = p at *
    generalize vW l = q at *
    generalize (l.getD j 0).toNat = r at *
    rw [Nat.mul_comm (65536 ^ j) 65536, Nat.mul_assoc, Nat.mul_assoc]
    generalize 65536 ^ j * r = s at *
    generalize 65536 ^ j * d.toNat = t at *
    omega
theorem DW_set {l : List W6} {j : Nat} {d : W6} (h : DW l) (hd : d.toNat < 65536) : DW (l.set j d) := fun x hx => by
  rcases List.mem_or_eq_of_mem_set hx with h1 | rfl
  · exact h x h1
  · exact hd
theorem DW_get {l : List W6} (h : DW l) (i : Nat) : (l.getD i 0).toNat < 65536 := by
  by_cases hi : i < l.length
  · rw [List.getD_eq_getElem?_getD, List.getElem?_eq_getElem hi]
    exact h _ (List.getElem_mem hi)
  · rw [List.getD_eq_getElem?_getD, List.getElem?_eq_none (by omega)]
    decide
theorem dgW_len : ∀ (n x : Nat), (dgW x n).length = n
  | 0, _ => rfl
  | n + 1, x => by rw [dgW, List.length_cons, dgW_len n]
theorem dgW_D : ∀ (n x : Nat), DW (dgW x n)
  | 0, _ => fun d h => by simp [dgW] at h
  | n + 1, x => fun d h => by
    rw [dgW] at h
    rcases List.mem_cons.1 h with rfl | h
    · rw [BitVec.toNat_ofNat]; omega
    · exact dgW_D n _ d h
theorem dgW_v : ∀ (n x : Nat), vW (dgW x n) = x % 65536 ^ n
  | 0, x => by simp [dgW, vW, Nat.mod_one]
  | n + 1, x => by
    rw [dgW, vW, dgW_v n, Nat.pow_succ, Nat.mul_comm (65536 ^ n) 65536, Nat.mod_mul, BitVec.toNat_ofNat]
    omega
theorem eq_dgW : ∀ {l : List W6}, DW l → l = dgW (vW l) l.length
  | [], _ => rfl
  | a :: l, h => by
    have h1 := h a (by simp)
    have ih := eq_dgW (l := l) fun d hd => h d (by simp [hd])
    rw [List.length_cons, dgW, vW, show (a.toNat + 65536 * vW l) % 65536 = a.toNat by omega, show (a.toNat + 65536 * vW l) / 65536 = vW l by omega, ← ih]
    congr 1
    exact (BitVec.ofNat_toNat 64 a ▸ BitVec.setWidth_eq a).symm
theorem dgW_get (n x i : Nat) (h : i < n) : ((dgW x n).getD i 0).toNat = x / 65536 ^ i % 65536 := by
  induction n generalizing x i with
  | zero => omega
  | succ n ih =>
    rw [dgW]
    cases i with
    | zero => rw [List.getD_cons_zero, BitVec.toNat_ofNat, Nat.pow_zero, Nat.div_one]; omega
    | succ i => rw [List.getD_cons_succ, ih _ _ (by omega), Nat.div_div_eq_div_mul, Nat.pow_succ, Nat.mul_comm 65536]
theorem getD_setW (l : List W6) (i j : Nat) (x : W6) (h : i < l.length) : (l.set i x).getD j 0 = if j = i then x else l.getD j 0 := by
  rw [List.getD_eq_getElem?_getD, List.getD_eq_getElem?_getD, List.getElem?_set]
  by_cases e : i = j
  · subst e; simp [h]
  · rw [if_neg e, if_neg (fun h => e h.symm)]
theorem vW_take_succ (l : List W6) (k : Nat) (h : k < l.length) : vW (l.take (k + 1)) = vW (l.take k) + 65536 ^ k * (l.getD k 0).toNat := by
  rw [List.take_succ_eq_append_getElem h, vW_append, List.length_take, Nat.min_eq_left (by omega), List.getD_eq_getElem?_getD, List.getElem?_eq_getElem h]
  simp [vW]
/-! ### Products -/
def mT (d x y c : W6) : W6 := d + x * y + c
def mI (x : W6) (b : List W6) (i : Nat) (o : List W6) : Nat → List W6 × W6
  | 0 => (o, 0)
  | k + 1 => ((mI x b i o k).1.set (i + k) (mT ((mI x b i o k).1.getD (i + k) 0) x (b.getD k 0) (mI x b i o k).2 % 65536#64), mT ((mI x b i o k).1.getD (i + k) 0) x (b.getD k 0) (mI x b i o k).2 / 65536#64)
theorem mT_ok {d x y c : W6} (hd : d.toNat < 65536) (hx : x.toNat < 65536) (hy : y.toNat < 65536) (hc : c.toNat < 65536) :
    (mT d x y c % 65536#64).toNat + 65536 * (mT d x y c / 65536#64).toNat = d.toNat + x.toNat * y.toNat + c.toNat ∧ (mT d x y c % 65536#64).toNat < 65536 ∧ (mT d x y c / 65536#64).toNat < 65536 := by
  have hm : x.toNat * y.toNat ≤ 65535 * 65535 := Nat.mul_le_mul (by omega) (by omega)
  have e : (mT d x y c).toNat = d.toNat + x.toNat * y.toNat + c.toNat := by
    unfold mT
    rw [BitVec.toNat_add, BitVec.toNat_add, BitVec.toNat_mul]
    generalize x.toNat * y.toNat = q at *
    omega
  rw [BitVec.toNat_umod, BitVec.toNat_udiv, e]
  generalize x.toNat * y.toNat = q at *
  simp only [BitVec.toNat_ofNat, Nat.reducePow, Nat.reduceMod]
  omega
structure MOk (x : W6) (b : List W6) (i : Nat) (o : List W6) (k : Nat) (s : List W6 × W6) : Prop where
  len : s.1.length = o.length
  dg : DW s.1
  car : s.2.toNat < 65536
  val : vW s.1 + 65536 ^ (i + k) * s.2.toNat = vW o + 65536 ^ i * (x.toNat * vW (b.take k))
  high : ∀ j, i + k ≤ j → s.1.getD j 0 = o.getD j 0
theorem mI_ok {x : W6} {b : List W6} {i : Nat} {o : List W6} (hx : x.toNat < 65536) (hb : DW b) (ho : DW o) (hl : i + b.length ≤ o.length) : ∀ k, k ≤ b.length → MOk x b i o k (mI x b i o k)
  | 0, _ => ⟨rfl, ho, by simp [mI], by simp [mI, vW], fun _ _ => rfl⟩
  | k + 1, h => by
    have ih := mI_ok hx hb ho hl k (by omega)
    rw [mI]
    generalize mI x b i o k = s at ih ⊢
    obtain ⟨h1, h2, h3, h4, h5⟩ := ih
    obtain ⟨m1, m2, m3⟩ := mT_ok (DW_get h2 (i + k)) hx (DW_get hb k) h3
    have hs := vW_set (l := s.1) (j := i + k) (mT (s.1.getD (i + k) 0) x (b.getD k 0) s.2 % 65536#64) (by omega)
    refine ⟨by rw [List.length_set, h1], DW_set h2 m2, m3, ?_, fun j hj => ?_⟩
    · rw [vW_take_succ b k (by omega)]
      generalize (mT (s.1.getD (i + k) 0) x (b.getD k 0) s.2 % 65536#64) = lo at *
      generalize (mT (s.1.getD (i + k) 0) x (b.getD k 0) s.2 / 65536#64) = hi at *
      generalize (s.1.getD (i + k) 0) = d at *
      generalize (b.getD k 0) = y at *
      show vW (s.1.set (i + k) lo) + _ * hi.toNat = _
      generalize vW (s.1.set (i + k) lo) = V' at *
      rw [show i + (k + 1) = (i + k) + 1 by omega, Nat.pow_succ]
      have e1 : 65536 ^ i * (x.toNat * (vW (b.take k) + 65536 ^ k * y.toNat)) = 65536 ^ i * (x.toNat * vW (b.take k)) + 65536 ^ (i + k) * (x.toNat * y.toNat) := by
        rw [Nat.mul_add, Nat.mul_add, Nat.pow_add]
        congr 1
        ac_rfl
      rw [e1]
      have e2 : 65536 ^ (i + k) * (lo.toNat + 65536 * hi.toNat) = 65536 ^ (i + k) * (d.toNat + x.toNat * y.toNat + s.2.toNat) := by rw [m1]
      rw [Nat.mul_add, Nat.mul_add, Nat.mul_add, ← Nat.mul_assoc] at e2
      omega
    · rw [getD_setW _ _ _ _ (by omega), if_neg (by omega), h5 j (by omega)]
def mRow (x : W6) (b : List W6) (i : Nat) (o : List W6) : List W6 := (mI x b i o b.length).1.set (i + b.length) (mI x b i o b.length).2
def mRows (a b : List W6) : Nat → List W6
  | 0 => List.replicate (a.length + b.length) 0
  | i + 1 => mRow (a.getD i 0) b i (mRows a b i)
theorem vW_zero : ∀ n, vW (List.replicate n 0) = 0
  | 0 => rfl
  | n + 1 => by rw [List.replicate_succ, vW, vW_zero n]; rfl
theorem mRows_ok {a b : List W6} (ha : DW a) (hb : DW b) : ∀ i, i ≤ a.length → (mRows a b i).length = a.length + b.length ∧ DW (mRows a b i) ∧ vW (mRows a b i) = vW (a.take i) * vW b ∧ ∀ j, i + b.length ≤ j → (mRows a b i).getD j 0 = 0
  | 0, _ => by
    refine ⟨by simp [mRows], fun d hd => ?_, ?_, fun j _ => ?_⟩
    · rw [mRows] at hd; rw [(List.mem_replicate.1 hd).2]; decide
    · rw [mRows, vW_zero]; simp [vW]
    · rw [mRows, List.getD_eq_getElem?_getD, List.getElem?_replicate]; split <;> rfl
  | i + 1, h => by
    obtain ⟨h1, h2, h3, h4⟩ := mRows_ok ha hb i (by omega)
    have hm := mI_ok (i := i) (DW_get ha i) hb h2 (by omega) b.length (Nat.le_refl _)
    rw [mRows, mRow]
    generalize mI (a.getD i 0) b i (mRows a b i) b.length = s at hm ⊢
    obtain ⟨m1, m2, m3, m4, m5⟩ := hm
    have hs := vW_set (l := s.1) (j := i + b.length) s.2 (by omega)
    have hz : s.1.getD (i + b.length) 0 = 0 := by rw [m5 _ (Nat.le_refl _), h4 _ (Nat.le_refl _)]
    rw [hz] at hs
    refine ⟨by rw [List.length_set, m1, h1], DW_set m2 m3, ?_, fun j hj => ?_⟩
    · rw [List.take_length] at m4
      have e0 : (0 : W6).toNat = 0 := rfl
      rw [e0, Nat.mul_zero, Nat.add_zero] at hs
      rw [hs, m4, h3, vW_take_succ a i (by omega), Nat.add_mul, Nat.mul_assoc]
    · rw [getD_setW _ _ _ _ (by omega), if_neg (by omega), m5 _ (by omega), h4 _ (by omega)]
def mulW (a b : List W6) : List W6 := dgW (vW a * vW b) (a.length + b.length)
theorem mRows_all {a b : List W6} (ha : DW a) (hb : DW b) : mRows a b a.length = mulW a b := by
  obtain ⟨h1, h2, h3, _⟩ := mRows_ok ha hb a.length (Nat.le_refl _)
  rw [List.take_length] at h3
  rw [mulW, ← h3, ← h1]
  exact eq_dgW h2
theorem mulW_D (a b : List W6) : DW (mulW a b) := dgW_D _ _
theorem mulW_len (a b : List W6) : (mulW a b).length = a.length + b.length := dgW_len _ _
theorem mulW_v {a b : List W6} (ha : DW a) (hb : DW b) : vW (mulW a b) = vW a * vW b := by
  rw [mulW, dgW_v, Nat.mod_eq_of_lt]
  rw [Nat.pow_add]
  exact Nat.mul_lt_mul'' (vW_lt ha) (vW_lt hb)
/-! ### Which is more -/
theorem vW_pos {l : List W6} : (∃ i, i < l.length ∧ l.getD i 0 ≠ 0) → 0 < vW l := by
  induction l with
  | nil => rintro ⟨i, h, _⟩; simp at h
  | cons a l ih =>
    rintro ⟨i, h, hi⟩
    rw [vW]
    cases i with
    | zero =>
      rw [List.getD_cons_zero] at hi
      have : a.toNat ≠ 0 := fun h => hi (BitVec.eq_of_toNat_eq (by rw [h]; rfl))
      omega
    | succ i =>
      rw [List.getD_cons_succ] at hi
      have := ih ⟨i, by simpa using h, hi⟩
      omega
theorem vW_none {l : List W6} (h : ∀ i, i < l.length → l.getD i 0 = 0) : vW l = 0 := by
  induction l with
  | nil => rfl
  | cons a l ih =>
    have h0 := h 0 (by simp)
    rw [List.getD_cons_zero] at h0
    rw [vW, h0, ih fun i hi => by have := h (i + 1) (by simpa using hi); rwa [List.getD_cons_succ] at this]
    rfl
theorem vW_at {d : List W6} {n : Nat} (h : n < d.length) : vW d = vW (d.take n) + 65536 ^ n * ((d.getD n 0).toNat + 65536 * vW (d.drop (n + 1))) := by
  have e := List.take_append_drop n d
  rw [← congrArg vW e, vW_append, List.length_take, Nat.min_eq_left (by omega), List.drop_eq_getElem_cons h, vW, List.getD_eq_getElem?_getD, List.getElem?_eq_getElem h]
  rfl
def moreW (d : List W6) (p n : Nat) : Bool := decide (p * 65536 ^ n < vW d)
theorem more_high {d : List W6} {p n i : Nat} (hp : p < 65536) (hi : n < i) (hl : i < d.length) (h : d.getD i 0 ≠ 0) : moreW d p n = true := by
  refine decide_eq_true ?_
  have h1 : 0 < vW (d.drop (n + 1)) := vW_pos ⟨i - (n + 1), by rw [List.length_drop]; omega, by
    rw [List.getD_eq_getElem?_getD, List.getElem?_drop, ← List.getD_eq_getElem?_getD, show n + 1 + (i - (n + 1)) = i by omega]; exact h⟩
  rw [vW_at (show n < d.length by omega), Nat.mul_comm]
  have := Nat.mul_lt_mul_of_pos_left (show p < (d.getD n 0).toNat + 65536 * vW (d.drop (n + 1)) by omega) (Nat.pow_pos (n := n) (show 0 < 65536 by omega))
  omega
theorem drop_none {d : List W6} {n : Nat} (h : ∀ i, n < i → i < d.length → d.getD i 0 = 0) : vW (d.drop (n + 1)) = 0 :=
  vW_none fun i hi => by
    rw [List.length_drop] at hi
    rw [List.getD_eq_getElem?_getD, List.getElem?_drop, ← List.getD_eq_getElem?_getD]
    exact h _ (by omega) (by omega)
theorem more_len {d : List W6} {p n : Nat} (hd : DW d) (hp : 0 < p) (hl : d.length ≤ n) : moreW d p n = false := by
  refine decide_eq_false ?_
  have h1 := vW_lt hd
  have h2 : 65536 ^ d.length ≤ 65536 ^ n := Nat.pow_le_pow_right (by omega) hl
  have h3 : 65536 ^ n ≤ p * 65536 ^ n := Nat.le_mul_of_pos_left _ hp
  omega
theorem more_mid {d : List W6} {p n : Nat} (hd : DW d) (hl : n < d.length) (h : ∀ i, n < i → i < d.length → d.getD i 0 = 0) :
    moreW d p n = decide (p < (d.getD n 0).toNat ∨ p = (d.getD n 0).toNat ∧ 0 < vW (d.take n)) := by
  have ht : vW (d.take n) < 65536 ^ n := by
    have := vW_lt (l := d.take n) fun x hx => hd x (List.mem_of_mem_take hx)
    rwa [List.length_take, Nat.min_eq_left (by omega)] at this
  unfold moreW
  rw [vW_at hl, drop_none h, Nat.mul_zero, Nat.add_zero, Nat.mul_comm p]
  generalize (d.getD n 0).toNat = x at *
  generalize vW (d.take n) = t at *
  generalize 65536 ^ n = q at *
  apply decide_eq_decide.2
  rcases Nat.lt_trichotomy p x with h1 | h1 | h1
  · have := Nat.mul_le_mul_left q (show p + 1 ≤ x by omega)
    rw [Nat.mul_add] at this
    constructor
    · intro _; exact .inl h1
    · intro _; omega
  · subst h1
    omega
  · have := Nat.mul_le_mul_left q (show x + 1 ≤ p by omega)
    rw [Nat.mul_add] at this
    constructor
    · intro h; omega
    · intro h; omega
/-! ### Roots, bit by bit -/
/-- The root's bits so far, after so many of the 80 steps. -/
def pw2 (c k : Nat) : Nat := if k = 3 then c * c * c else c * c
def rootS (p k : Nat) : Nat → Nat
  | 0 => 0
  | s + 1 => if p * 65536 ^ (4 * k) < pw2 (rootS p k s + 2 ^ (79 - s)) k then rootS p k s else rootS p k s + 2 ^ (79 - s)
theorem rootS_dvd (p k : Nat) : ∀ s, s ≤ 80 → ∃ q, rootS p k s = 2 ^ (80 - s) * q
  | 0, _ => ⟨0, rfl⟩
  | s + 1, h => by
    obtain ⟨q, hq⟩ := rootS_dvd p k s (by omega)
    rw [show 80 - s = 79 - s + 1 by omega, Nat.pow_succ] at hq
    rw [show 80 - (s + 1) = 79 - s by omega, rootS]
    split
    · exact ⟨2 * q, by rw [hq, Nat.mul_assoc]⟩
    · exact ⟨2 * q + 1, by rw [hq, Nat.mul_add, Nat.mul_one, Nat.mul_assoc]⟩
theorem rootS_lt (p k : Nat) : ∀ s, s ≤ 80 → rootS p k s + 2 ^ (80 - s) ≤ 2 ^ 80
  | 0, _ => by simp [rootS]
  | s + 1, h => by
    have ih := rootS_lt p k s (by omega)
    rw [show 80 - s = 79 - s + 1 by omega, Nat.pow_succ] at ih
    rw [show 80 - (s + 1) = 79 - s by omega, rootS]
    split <;> omega
/-- The digits with a bit more. -/
theorem dgW_bit {D i st : Nat} (hi : i < 5) (hD : D + st * 65536 ^ i < 2 ^ 80) (hs : D / 65536 ^ i % 65536 + st < 65536) :
    (dgW D 5).set i ((dgW D 5).getD i 0 + BitVec.ofNat 64 st) = dgW (D + st * 65536 ^ i) 5 ∧
    (dgW (D + st * 65536 ^ i) 5).set i ((dgW (D + st * 65536 ^ i) 5).getD i 0 - BitVec.ofNat 64 st) = dgW D 5 := by
  have e5 : (65536 : Nat) ^ 5 = 2 ^ 80 := by decide
  have g := dgW_get 5 D i hi
  have hx : ((dgW D 5).getD i 0 + BitVec.ofNat 64 st).toNat = D / 65536 ^ i % 65536 + st := by
    rw [BitVec.toNat_add, g, BitVec.toNat_ofNat]; omega
  have k1 : (dgW D 5).set i ((dgW D 5).getD i 0 + BitVec.ofNat 64 st) = dgW (D + st * 65536 ^ i) 5 := by
    have hv := vW_set (l := dgW D 5) (j := i) ((dgW D 5).getD i 0 + BitVec.ofNat 64 st) (by rw [dgW_len]; exact hi)
    have hD' : D % 2 ^ 80 = D := Nat.mod_eq_of_lt (by omega)
    have hM := Nat.mul_add (65536 ^ i) (D / 65536 ^ i % 65536) st
    rw [g, hx, dgW_v, e5, hD', hM] at hv
    have he := eq_dgW (l := (dgW D 5).set i ((dgW D 5).getD i 0 + BitVec.ofNat 64 st)) (DW_set (dgW_D 5 D) (by rw [hx]; exact hs))
    rw [List.length_set, dgW_len] at he
    rw [he]
    congr 1
    rw [Nat.mul_comm st]
    omega
  refine ⟨k1, ?_⟩
  rw [← k1]
  apply List.ext_getElem
  · simp
  · intro j h1 h2
    rw [List.getElem_set, List.getElem_set]
    split
    · rename_i e
      subst e
      rw [getD_setW _ _ _ _ (by rw [dgW_len]; exact hi), if_pos rfl, BitVec.add_sub_cancel, List.getD_eq_getElem?_getD, List.getElem?_eq_getElem h2]
      rfl
    · rfl
theorem dgW_64 (D : Nat) : (dgW D 5).getD 3 0 * 281474976710656#64 + (dgW D 5).getD 2 0 * 4294967296#64 + (dgW D 5).getD 1 0 * 65536#64 + (dgW D 5).getD 0 0 = BitVec.ofNat 64 D := by
  apply BitVec.eq_of_toNat_eq
  have g0 := dgW_get 5 D 0 (by omega)
  have g1 := dgW_get 5 D 1 (by omega)
  have g2 := dgW_get 5 D 2 (by omega)
  have g3 := dgW_get 5 D 3 (by omega)
  rw [BitVec.toNat_add, BitVec.toNat_add, BitVec.toNat_add, BitVec.toNat_mul, BitVec.toNat_mul, BitVec.toNat_mul, g0, g1, g2, g3, BitVec.toNat_ofNat]
  simp only [BitVec.toNat_ofNat, Nat.reducePow, Nat.reduceMod, Nat.pow_zero, Nat.div_one, Nat.pow_one]
  omega
def rootW (p k : Nat) : W6 := BitVec.ofNat 64 (rootS p k 80)
/-! ### Primes -/
/-- The primes below p, told by dividing. -/
def belowP : Nat → List Nat
  | 0 => []
  | p + 1 => if 2 ≤ p ∧ (belowP p).all (fun q => p % q != 0) = true then belowP p ++ [p] else belowP p
theorem belowP_mono (p : Nat) : (belowP p).length ≤ (belowP (p + 1)).length := by
  rw [belowP]
  split
  · rw [List.length_append]; omega
  · exact Nat.le_refl _
theorem belowP_le (p n : Nat) : (belowP p).length ≤ (belowP (p + n)).length := by
  induction n with
  | zero => exact Nat.le_refl _
  | succ n ih => exact Nat.le_trans ih (belowP_mono _)
theorem belowP_mem : ∀ (p q : Nat), q ∈ belowP p → 2 ≤ q ∧ q < p
  | 0, q, h => by simp [belowP] at h
  | p + 1, q, h => by
    rw [belowP] at h
    split at h
    · rename_i hp
      rcases List.mem_append.1 h with h | h
      · have := belowP_mem p q h; omega
      · rw [List.mem_singleton] at h; omega
    · have := belowP_mem p q h; omega
theorem belowP_len (p : Nat) : (belowP p).length ≤ p := by
  induction p with
  | zero => simp [belowP]
  | succ p ih =>
    rw [belowP]
    split
    · rw [List.length_append, List.length_cons, List.length_nil]; omega
    · omega
end Go.Proofs.YtlgiaglbdifkpaaGreatDoor
/- The rounds' numbers of the document: products, which is more, by contract. Own work. -/
namespace Go.Proofs.YtlgiaglbdifkpaaGreatDoor
open Go.Ev Go.Sp Go.RowKit
set_option maxRecDepth 100000
def muTd : List Nat := [0, 1, 5, 6]
def miTd : List Nat := [0, 1, 5, 6, 7, 8]
def muInv (a b o : List W6) (n : Nat) (i : Int) : St := ⟨slotsOf 63 [(0, sc (.sl 0 0 a.length)), (1, sc (.sl 1 0 b.length)), (5, sc (.sl 2 0 n)), (6, sc (.i64 i))],
  [(0, ⟨false, [.v64 a.length a]⟩), (1, ⟨false, [.v64 b.length b]⟩), (2, ⟨true, [.v64 n o]⟩)], 16⟩
def miInv (a b o : List W6) (n : Nat) (i : Int) (c : W6) (k : Int) : St := ⟨slotsOf 63 [(0, sc (.sl 0 0 a.length)), (1, sc (.sl 1 0 b.length)), (5, sc (.sl 2 0 n)), (6, sc (.i64 i)), (7, sc (.u64 c)), (8, sc (.i64 k))],
  [(0, ⟨false, [.v64 a.length a]⟩), (1, ⟨false, [.v64 b.length b]⟩), (2, ⟨true, [.v64 n o]⟩)], 16⟩
theorem miRound (a b o : List W6) (n : Nat) (i : Int) (c : W6) (k : Int) : roundS Tryz.prog (lookG []) (orcA [(7, [(3, true)])]) [] 10 miTd (bodyAt Tryz.prog 136 7) (miInv a b o n i c k) =
    some (Ex.normal, St.mk (slotsOf 63 [(0, sc (IV.sl 0 0 a.length)), (1, sc (IV.sl 1 0 b.length)), (5, sc (IV.sl 2 0 n)), (6, sc (IV.i64 i)), (7, sc (IV.u64 ((o.getD (0 + (i + k).toNat * 1) (BitVec.ofNat 64 0) + a.getD (0 + i.toNat * 1) (BitVec.ofNat 64 0) * b.getD (0 + k.toNat * 1) (BitVec.ofNat 64 0) + c) / BitVec.ofNat 64 65536))), (8, sc (IV.i64 (k + (1 : Int))))]) [(0, Blk.mk false [IV.v64 a.length a]), (1, Blk.mk false [IV.v64 b.length b]), (2, Blk.mk true [IV.v64 n (o.set (0 + (i + k).toNat * 1) ((o.getD (0 + (i + k).toNat * 1) (BitVec.ofNat 64 0) + a.getD (0 + i.toNat * 1) (BitVec.ofNat 64 0) * b.getD (0 + k.toNat * 1) (BitVec.ofNat 64 0) + c) % BitVec.ofNat 64 65536))])] 16, [decide (k < (↑b.length : Int)) = true, inI64 (i + k), (0 : Int) ≤ i + k, (i + k).toNat < n, 0 + (i + k).toNat * 1 < n, (0 : Int) ≤ i, i.toNat < a.length, 0 + i.toNat * 1 < a.length, (0 : Int) ≤ k, k.toNat < b.length, 0 + k.toNat * 1 < b.length, inI64 (i + k), 65536 ≠ 0, (0 : Int) ≤ i + k, (i + k).toNat < n, 0 + (i + k).toNat * 1 < n, 65536 ≠ 0, inI64 (k + (1 : Int))]) := by kernel_rfl
theorem miExit (a b o : List W6) (n : Nat) (i : Int) (c : W6) (k : Int) : roundS Tryz.prog (lookG []) (orcA [(7, [(3, false)])]) [] 10 miTd (bodyAt Tryz.prog 136 7) (miInv a b o n i c k) =
    some (Ex.exit 2, St.mk (slotsOf 63 [(0, sc (IV.sl 0 0 a.length)), (1, sc (IV.sl 1 0 b.length)), (5, sc (IV.sl 2 0 n)), (6, sc (IV.i64 i)), (7, sc (IV.u64 c)), (8, sc (IV.i64 k))]) [(0, Blk.mk false [IV.v64 a.length a]), (1, Blk.mk false [IV.v64 b.length b]), (2, Blk.mk true [IV.v64 n o])] 16, [decide (k < (↑b.length : Int)) = false]) := by kernel_rfl
theorem muRound (a b o o' : List W6) (n : Nat) (i : Int) (c : W6) (k : Int) : roundS Tryz.prog (lookG []) (orcA [(3, [(3, true)])]) [⟨7, miTd, .exit 2, miInv a b o' n i c k⟩] 10 muTd (bodyAt Tryz.prog 136 3) (muInv a b o n i) =
    some (Ex.normal, St.mk (slotsOf 63 [(0, sc (IV.sl 0 0 a.length)), (1, sc (IV.sl 1 0 b.length)), (5, sc (IV.sl 2 0 n)), (6, sc (IV.i64 (i + (1 : Int))))]) [(0, Blk.mk false [IV.v64 a.length a]), (1, Blk.mk false [IV.v64 b.length b]), (2, Blk.mk true [IV.v64 n (o'.set (0 + (i + (↑b.length : Int)).toNat * 1) c)])] 16, [decide (i < (↑a.length : Int)) = true, LoopTo Tryz.prog (bodyAt Tryz.prog 136 7) (St.mk (slotsOf 63 [(0, sc (IV.sl 0 0 a.length)), (1, sc (IV.sl 1 0 b.length)), (5, sc (IV.sl 2 0 n)), (6, sc (IV.i64 i)), (7, sc (IV.u64 (BitVec.ofNat 64 0))), (8, sc (IV.i64 (0 : Int)))]) [(0, Blk.mk false [IV.v64 a.length a]), (1, Blk.mk false [IV.v64 b.length b]), (2, Blk.mk true [IV.v64 n o])] 16) (Ex.exit 2) (St.mk (slotsOf 63 [(0, sc (IV.sl 0 0 a.length)), (1, sc (IV.sl 1 0 b.length)), (5, sc (IV.sl 2 0 n)), (6, sc (IV.i64 i)), (7, sc (IV.u64 c)), (8, sc (IV.i64 k))]) [(0, Blk.mk false [IV.v64 a.length a]), (1, Blk.mk false [IV.v64 b.length b]), (2, Blk.mk true [IV.v64 n o'])] 16), inI64 (i + (↑b.length : Int)), (0 : Int) ≤ i + (↑b.length : Int), (i + (↑b.length : Int)).toNat < n, 0 + (i + (↑b.length : Int)).toNat * 1 < n, inI64 (i + (1 : Int))]) := by kernel_rfl
theorem muExit (a b o : List W6) (n : Nat) (i : Int) : roundS Tryz.prog (lookG []) (orcA [(3, [(3, false)])]) [] 10 muTd (bodyAt Tryz.prog 136 3) (muInv a b o n i) =
    some (Ex.exit 0, St.mk (slotsOf 63 [(0, sc (IV.sl 0 0 a.length)), (1, sc (IV.sl 1 0 b.length)), (5, sc (IV.sl 2 0 n)), (6, sc (IV.i64 i))]) [(0, Blk.mk false [IV.v64 a.length a]), (1, Blk.mk false [IV.v64 b.length b]), (2, Blk.mk true [IV.v64 n o])] 16, [decide (i < (↑a.length : Int)) = false]) := by kernel_rfl
theorem runMul6 (a b o : List W6) (n : Nat) (i : Int) : fnS Tryz.prog (lookG []) (orcA []) [⟨3, muTd, .exit 0, muInv a b o n i⟩] 10 136 [sc (.d64 a), sc (.d64 b)] =
    some (sc (IV.d64 (cutL o 0 n n)), [inI64 ((↑a.length : Int) + (↑b.length : Int)), (0 : Int) ≤ (↑a.length : Int) + (↑b.length : Int), (0 : Int) ≤ (↑a.length : Int) + (↑b.length : Int), ((↑a.length : Int) + (↑b.length : Int)).toNat = ((↑a.length : Int) + (↑b.length : Int)).toNat ∧ 8 * ((↑a.length : Int) + (↑b.length : Int)).toNat ≤ 281474976710656 ∧ ((↑a.length : Int) + (↑b.length : Int)).toNat ≤ 9223372036854775807, LoopTo Tryz.prog (bodyAt Tryz.prog 136 3) (St.mk (slotsOf 63 [(0, sc (IV.sl 0 0 a.length)), (1, sc (IV.sl 1 0 b.length)), (5, sc (IV.sl 2 0 ((↑a.length : Int) + (↑b.length : Int)).toNat)), (6, sc (IV.i64 (0 : Int)))]) [(0, Blk.mk false [IV.v64 a.length a]), (1, Blk.mk false [IV.v64 b.length b]), (2, Blk.mk true [IV.v64 (List.replicate ((↑a.length : Int) + (↑b.length : Int)).toNat (BitVec.ofNat 64 0)).length (List.replicate ((↑a.length : Int) + (↑b.length : Int)).toNat (BitVec.ofNat 64 0))])] 16) (Ex.exit 0) (St.mk (slotsOf 63 [(0, sc (IV.sl 0 0 a.length)), (1, sc (IV.sl 1 0 b.length)), (5, sc (IV.sl 2 0 n)), (6, sc (IV.i64 i))]) [(0, Blk.mk false [IV.v64 a.length a]), (1, Blk.mk false [IV.v64 b.length b]), (2, Blk.mk true [IV.v64 n o])] 16), 0 + n ≤ n]) := by kernel_rfl
def moTd : List Nat := [0, 1, 2, 6, 7]
def moInv (d : List W6) (p n i : Int) (r : Bool) : St := ⟨slotsOf 52 [(0, sc (.sl 0 0 d.length)), (1, sc (.i64 p)), (2, sc (.i64 n)), (6, sc (.bool r)), (7, sc (.i64 i))], [(0, ⟨false, [.v64 d.length d]⟩)], 16⟩
theorem moRound (d : List W6) (p n i : Int) : roundS Tryz.prog (lookG []) (orcA [(2, [(2, true)]), (4, [(4, false)])]) [] 10 moTd (bodyAt Tryz.prog 137 2) (moInv d p n i false) =
    some (Ex.normal, St.mk (slotsOf 52 [(0, sc (IV.sl 0 0 d.length)), (1, sc (IV.i64 p)), (2, sc (IV.i64 n)), (6, sc (IV.bool false)), (7, sc (IV.i64 (i - (1 : Int))))]) [(0, Blk.mk false [IV.v64 d.length d])] 16, [decide (n < i) = true, (0 : Int) ≤ i, i.toNat < d.length, 0 + i.toNat * 1 < d.length, decide (0 < (d.getD (0 + i.toNat * 1) (BitVec.ofNat 64 0)).toNat) = false, inI64 (i - (1 : Int))]) := by kernel_rfl
theorem moExit (d : List W6) (p n i : Int) : roundS Tryz.prog (lookG []) (orcA [(2, [(2, false)])]) [] 10 moTd (bodyAt Tryz.prog 137 2) (moInv d p n i false) =
    some (Ex.exit 0, St.mk (slotsOf 52 [(0, sc (IV.sl 0 0 d.length)), (1, sc (IV.i64 p)), (2, sc (IV.i64 n)), (6, sc (IV.bool false)), (7, sc (IV.i64 i))]) [(0, Blk.mk false [IV.v64 d.length d])] 16, [decide (n < i) = false]) := by kernel_rfl
theorem moRet (d : List W6) (p n i : Int) : roundS Tryz.prog (lookG []) (orcA [(2, [(2, true)]), (4, [(4, true)])]) [] 10 moTd (bodyAt Tryz.prog 137 2) (moInv d p n i false) =
    some (Ex.ret, St.mk (slotsOf 52 [(0, sc (IV.sl 0 0 d.length)), (1, sc (IV.i64 p)), (2, sc (IV.i64 n)), (6, sc (IV.bool true)), (7, sc (IV.i64 i))]) [(0, Blk.mk false [IV.v64 d.length d])] 16, [decide (n < i) = true, (0 : Int) ≤ i, i.toNat < d.length, 0 + i.toNat * 1 < d.length, decide (0 < (d.getD (0 + i.toNat * 1) (BitVec.ofNat 64 0)).toNat) = true]) := by kernel_rfl
def m2Td : List Nat := [0, 2, 6, 8]
def m2Inv (d : List W6) (n i : Int) (r : Bool) : St := ⟨slotsOf 52 [(0, sc (.sl 0 0 d.length)), (2, sc (.i64 n)), (6, sc (.bool r)), (8, sc (.i64 i))], [(0, ⟨false, [.v64 d.length d]⟩)], 16⟩
theorem m2Round (d : List W6) (n i : Int) : roundS Tryz.prog (lookG []) (orcA [(11, [(2, true)]), (13, [(4, false)])]) [] 10 m2Td (bodyAt Tryz.prog 137 11) (m2Inv d n i false) =
    some (Ex.normal, St.mk (slotsOf 52 [(0, sc (IV.sl 0 0 d.length)), (2, sc (IV.i64 n)), (6, sc (IV.bool false)), (8, sc (IV.i64 (i + (1 : Int))))]) [(0, Blk.mk false [IV.v64 d.length d])] 16, [decide (i < n) = true, (0 : Int) ≤ i, i.toNat < d.length, 0 + i.toNat * 1 < d.length, decide (0 < (d.getD (0 + i.toNat * 1) (BitVec.ofNat 64 0)).toNat) = false, inI64 (i + (1 : Int))]) := by kernel_rfl
theorem m2Exit (d : List W6) (n i : Int) : roundS Tryz.prog (lookG []) (orcA [(11, [(2, false)])]) [] 10 m2Td (bodyAt Tryz.prog 137 11) (m2Inv d n i false) =
    some (Ex.exit 2, St.mk (slotsOf 52 [(0, sc (IV.sl 0 0 d.length)), (2, sc (IV.i64 n)), (6, sc (IV.bool false)), (8, sc (IV.i64 i))]) [(0, Blk.mk false [IV.v64 d.length d])] 16, [decide (i < n) = false]) := by kernel_rfl
theorem m2Ret (d : List W6) (n i : Int) : roundS Tryz.prog (lookG []) (orcA [(11, [(2, true)]), (13, [(4, true)])]) [] 10 m2Td (bodyAt Tryz.prog 137 11) (m2Inv d n i false) =
    some (Ex.ret, St.mk (slotsOf 52 [(0, sc (IV.sl 0 0 d.length)), (2, sc (IV.i64 n)), (6, sc (IV.bool true)), (8, sc (IV.i64 i))]) [(0, Blk.mk false [IV.v64 d.length d])] 16, [decide (i < n) = true, (0 : Int) ≤ i, i.toNat < d.length, 0 + i.toNat * 1 < d.length, decide (0 < (d.getD (0 + i.toNat * 1) (BitVec.ofNat 64 0)).toNat) = true]) := by kernel_rfl
theorem runMost1 (d : List W6) (p n i : Int) : fnS Tryz.prog (lookG []) (orcA []) [⟨2, moTd, .ret, moInv d p n i true⟩] 10 137 [sc (.d64 d), sc (.i64 p), sc (.i64 n)] =
    some (sc (IV.bool true), [inI64 ((↑d.length : Int) - (1 : Int)), LoopTo Tryz.prog (bodyAt Tryz.prog 137 2) (St.mk (slotsOf 52 [(0, sc (IV.sl 0 0 d.length)), (1, sc (IV.i64 p)), (2, sc (IV.i64 n)), (6, sc (IV.bool false)), (7, sc (IV.i64 ((↑d.length : Int) - (1 : Int))))]) [(0, Blk.mk false [IV.v64 d.length d])] 16) Ex.ret (St.mk (slotsOf 52 [(0, sc (IV.sl 0 0 d.length)), (1, sc (IV.i64 p)), (2, sc (IV.i64 n)), (6, sc (IV.bool true)), (7, sc (IV.i64 i))]) [(0, Blk.mk false [IV.v64 d.length d])] 16)]) := by kernel_rfl
theorem runMost2 (d : List W6) (p n i : Int) : fnS Tryz.prog (lookG []) (orcA [(6, [(3, true)])]) [⟨2, moTd, .exit 0, moInv d p n i false⟩] 10 137 [sc (.d64 d), sc (.i64 p), sc (.i64 n)] =
    some (sc (IV.bool false), [inI64 ((↑d.length : Int) - (1 : Int)), LoopTo Tryz.prog (bodyAt Tryz.prog 137 2) (St.mk (slotsOf 52 [(0, sc (IV.sl 0 0 d.length)), (1, sc (IV.i64 p)), (2, sc (IV.i64 n)), (6, sc (IV.bool false)), (7, sc (IV.i64 ((↑d.length : Int) - (1 : Int))))]) [(0, Blk.mk false [IV.v64 d.length d])] 16) (Ex.exit 0) (St.mk (slotsOf 52 [(0, sc (IV.sl 0 0 d.length)), (1, sc (IV.i64 p)), (2, sc (IV.i64 n)), (6, sc (IV.bool false)), (7, sc (IV.i64 i))]) [(0, Blk.mk false [IV.v64 d.length d])] 16), decide ((↑d.length : Int) ≤ n) = true]) := by kernel_rfl
theorem runMost3 (d : List W6) (p n i : Int) : fnS Tryz.prog (lookG []) (orcA [(6, [(3, false), (11, true)])]) [⟨2, moTd, .exit 0, moInv d p n i false⟩] 10 137 [sc (.d64 d), sc (.i64 p), sc (.i64 n)] =
    some (sc (IV.bool false), [inI64 ((↑d.length : Int) - (1 : Int)), LoopTo Tryz.prog (bodyAt Tryz.prog 137 2) (St.mk (slotsOf 52 [(0, sc (IV.sl 0 0 d.length)), (1, sc (IV.i64 p)), (2, sc (IV.i64 n)), (6, sc (IV.bool false)), (7, sc (IV.i64 ((↑d.length : Int) - (1 : Int))))]) [(0, Blk.mk false [IV.v64 d.length d])] 16) (Ex.exit 0) (St.mk (slotsOf 52 [(0, sc (IV.sl 0 0 d.length)), (1, sc (IV.i64 p)), (2, sc (IV.i64 n)), (6, sc (IV.bool false)), (7, sc (IV.i64 i))]) [(0, Blk.mk false [IV.v64 d.length d])] 16), decide ((↑d.length : Int) ≤ n) = false, (0 : Int) ≤ n, n.toNat < d.length, 0 + n.toNat * 1 < d.length, decide ((d.getD (0 + n.toNat * 1) (BitVec.ofNat 64 0)).toNat < (BitVec.ofInt 64 p).toNat) = true]) := by kernel_rfl
theorem runMost4 (d : List W6) (p n i : Int) : fnS Tryz.prog (lookG []) (orcA [(6, [(3, false), (11, false)]), (8, [(6, true)])]) [⟨2, moTd, .exit 0, moInv d p n i false⟩] 10 137 [sc (.d64 d), sc (.i64 p), sc (.i64 n)] =
    some (sc (IV.bool true), [inI64 ((↑d.length : Int) - (1 : Int)), LoopTo Tryz.prog (bodyAt Tryz.prog 137 2) (St.mk (slotsOf 52 [(0, sc (IV.sl 0 0 d.length)), (1, sc (IV.i64 p)), (2, sc (IV.i64 n)), (6, sc (IV.bool false)), (7, sc (IV.i64 ((↑d.length : Int) - (1 : Int))))]) [(0, Blk.mk false [IV.v64 d.length d])] 16) (Ex.exit 0) (St.mk (slotsOf 52 [(0, sc (IV.sl 0 0 d.length)), (1, sc (IV.i64 p)), (2, sc (IV.i64 n)), (6, sc (IV.bool false)), (7, sc (IV.i64 i))]) [(0, Blk.mk false [IV.v64 d.length d])] 16), decide ((↑d.length : Int) ≤ n) = false, (0 : Int) ≤ n, n.toNat < d.length, 0 + n.toNat * 1 < d.length, decide ((d.getD (0 + n.toNat * 1) (BitVec.ofNat 64 0)).toNat < (BitVec.ofInt 64 p).toNat) = false, (0 : Int) ≤ n, n.toNat < d.length, 0 + n.toNat * 1 < d.length, decide ((BitVec.ofInt 64 p).toNat < (d.getD (0 + n.toNat * 1) (BitVec.ofNat 64 0)).toNat) = true]) := by kernel_rfl
theorem runMost5 (d : List W6) (p n i j : Int) : fnS Tryz.prog (lookG []) (orcA [(6, [(3, false), (11, false)]), (8, [(6, false)])]) [⟨2, moTd, .exit 0, moInv d p n i false⟩, ⟨11, m2Td, .ret, m2Inv d n j true⟩] 10 137 [sc (.d64 d), sc (.i64 p), sc (.i64 n)] =
    some (sc (IV.bool true), [inI64 ((↑d.length : Int) - (1 : Int)), LoopTo Tryz.prog (bodyAt Tryz.prog 137 2) (St.mk (slotsOf 52 [(0, sc (IV.sl 0 0 d.length)), (1, sc (IV.i64 p)), (2, sc (IV.i64 n)), (6, sc (IV.bool false)), (7, sc (IV.i64 ((↑d.length : Int) - (1 : Int))))]) [(0, Blk.mk false [IV.v64 d.length d])] 16) (Ex.exit 0) (St.mk (slotsOf 52 [(0, sc (IV.sl 0 0 d.length)), (1, sc (IV.i64 p)), (2, sc (IV.i64 n)), (6, sc (IV.bool false)), (7, sc (IV.i64 i))]) [(0, Blk.mk false [IV.v64 d.length d])] 16), decide ((↑d.length : Int) ≤ n) = false, (0 : Int) ≤ n, n.toNat < d.length, 0 + n.toNat * 1 < d.length, decide ((d.getD (0 + n.toNat * 1) (BitVec.ofNat 64 0)).toNat < (BitVec.ofInt 64 p).toNat) = false, (0 : Int) ≤ n, n.toNat < d.length, 0 + n.toNat * 1 < d.length, decide ((BitVec.ofInt 64 p).toNat < (d.getD (0 + n.toNat * 1) (BitVec.ofNat 64 0)).toNat) = false, LoopTo Tryz.prog (bodyAt Tryz.prog 137 11) (St.mk (slotsOf 52 [(0, sc (IV.sl 0 0 d.length)), (2, sc (IV.i64 n)), (6, sc (IV.bool false)), (8, sc (IV.i64 (0 : Int)))]) [(0, Blk.mk false [IV.v64 d.length d])] 16) Ex.ret (St.mk (slotsOf 52 [(0, sc (IV.sl 0 0 d.length)), (2, sc (IV.i64 n)), (6, sc (IV.bool true)), (8, sc (IV.i64 j))]) [(0, Blk.mk false [IV.v64 d.length d])] 16)]) := by kernel_rfl
theorem runMost6 (d : List W6) (p n i j : Int) : fnS Tryz.prog (lookG []) (orcA [(6, [(3, false), (11, false)]), (8, [(6, false)])]) [⟨2, moTd, .exit 0, moInv d p n i false⟩, ⟨11, m2Td, .exit 2, m2Inv d n j false⟩] 10 137 [sc (.d64 d), sc (.i64 p), sc (.i64 n)] =
    some (sc (IV.bool false), [inI64 ((↑d.length : Int) - (1 : Int)), LoopTo Tryz.prog (bodyAt Tryz.prog 137 2) (St.mk (slotsOf 52 [(0, sc (IV.sl 0 0 d.length)), (1, sc (IV.i64 p)), (2, sc (IV.i64 n)), (6, sc (IV.bool false)), (7, sc (IV.i64 ((↑d.length : Int) - (1 : Int))))]) [(0, Blk.mk false [IV.v64 d.length d])] 16) (Ex.exit 0) (St.mk (slotsOf 52 [(0, sc (IV.sl 0 0 d.length)), (1, sc (IV.i64 p)), (2, sc (IV.i64 n)), (6, sc (IV.bool false)), (7, sc (IV.i64 i))]) [(0, Blk.mk false [IV.v64 d.length d])] 16), decide ((↑d.length : Int) ≤ n) = false, (0 : Int) ≤ n, n.toNat < d.length, 0 + n.toNat * 1 < d.length, decide ((d.getD (0 + n.toNat * 1) (BitVec.ofNat 64 0)).toNat < (BitVec.ofInt 64 p).toNat) = false, (0 : Int) ≤ n, n.toNat < d.length, 0 + n.toNat * 1 < d.length, decide ((BitVec.ofInt 64 p).toNat < (d.getD (0 + n.toNat * 1) (BitVec.ofNat 64 0)).toNat) = false, LoopTo Tryz.prog (bodyAt Tryz.prog 137 11) (St.mk (slotsOf 52 [(0, sc (IV.sl 0 0 d.length)), (2, sc (IV.i64 n)), (6, sc (IV.bool false)), (8, sc (IV.i64 (0 : Int)))]) [(0, Blk.mk false [IV.v64 d.length d])] 16) (Ex.exit 2) (St.mk (slotsOf 52 [(0, sc (IV.sl 0 0 d.length)), (2, sc (IV.i64 n)), (6, sc (IV.bool false)), (8, sc (IV.i64 j))]) [(0, Blk.mk false [IV.v64 d.length d])] 16)]) := by kernel_rfl
theorem miLoop (a b o : List W6) (n i : Nat) (hi : i < a.length) (hn : n = a.length + b.length) (hl : n ≤ 1000000) : LoopTo Tryz.prog (bodyAt Tryz.prog 136 7) (miInv a b o n (i : Nat) 0#64 0) (.exit 2) (miInv a b (mI (a.getD i 0) b i o b.length).1 n (i : Nat) (mI (a.getD i 0) b i o b.length).2 (b.length : Nat)) := by
  refine LoopTo.intro (P := Tryz.prog) (α := Nat) gs0 fol (c := bodyAt Tryz.prog 136 7) (e := .exit 2) (σ' := miInv a b (mI (a.getD i 0) b i o b.length).1 n (i : Nat) (mI (a.getD i 0) b i o b.length).2 (b.length : Nat)) (fun k => miInv a b (mI (a.getD i 0) b i o k).1 n (i : Nat) (mI (a.getD i 0) b i o k).2 (k : Nat)) (fun k => k ≤ b.length) (fun k => b.length - k) (by simp) ?_ 0 (by omega)
  intro k hk
  by_cases he : k = b.length
  · subst he
    exact .inr ⟨_, _, _, _, _, miExit a b _ n _ _ _, ⟨decide_eq_false (by omega), trivial⟩⟩
  · have r0 := miRound a b (mI (a.getD i 0) b i o k).1 n (i : Nat) (mI (a.getD i 0) b i o k).2 (k : Nat)
    have e1 : 0 + (((i : Nat) : Int) + ((k : Nat) : Int)).toNat * 1 = i + k := by omega
    have e2 : 0 + ((i : Nat) : Int).toNat * 1 = i := by omega
    have e3 : 0 + ((k : Nat) : Int).toNat * 1 = k := by omega
    rw [e1, e2, e3, ← castS] at r0
    refine .inl ⟨_, _, _, _, _, k + 1, r0, ?_, by omega, by omega⟩
    clear r0
    simp only [AllP, inI64]
    and_intros <;> first | exact True.intro | exact decide_eq_true (by omega) | decide | omega
theorem muLoop (a b : List W6) (hl : a.length + b.length ≤ 1000000) : LoopTo Tryz.prog (bodyAt Tryz.prog 136 3) (muInv a b (List.replicate (a.length + b.length) 0#64) (a.length + b.length) 0) (.exit 0) (muInv a b (mRows a b a.length) (a.length + b.length) (a.length : Nat)) := by
  refine LoopTo.intro (P := Tryz.prog) (α := Nat) gs0 fol (c := bodyAt Tryz.prog 136 3) (e := .exit 0) (σ' := muInv a b (mRows a b a.length) (a.length + b.length) (a.length : Nat)) (fun i => muInv a b (mRows a b i) (a.length + b.length) (i : Nat)) (fun i => i ≤ a.length) (fun i => a.length - i) (by simp) ?_ 0 (by omega)
  intro i hi
  by_cases he : i = a.length
  · subst he
    exact .inr ⟨_, _, _, _, _, muExit a b _ _ _, ⟨decide_eq_false (by omega), trivial⟩⟩
  · have r0 := muRound a b (mRows a b i) (mI (a.getD i 0) b i (mRows a b i) b.length).1 (a.length + b.length) (i : Nat) (mI (a.getD i 0) b i (mRows a b i) b.length).2 (b.length : Nat)
    have e1 : 0 + (((i : Nat) : Int) + ((b.length : Nat) : Int)).toNat * 1 = i + b.length := by omega
    rw [e1, ← castS] at r0
    refine .inl ⟨_, _, _, _, _, i + 1, r0, ?_, by omega, by omega⟩
    clear r0
    refine ⟨decide_eq_true (by omega), miLoop a b (mRows a b i) _ i (by omega) rfl hl, ?_⟩
    simp only [AllP, inI64]
    and_intros <;> first | exact True.intro | omega
/-- A product of digits, by whatever function. -/
def spMulG (M : List W6 → List W6 → List W6) : List AV → Option (AV × List Prop)
  | [.val false [.d64 a], .val false [.d64 b]] => some (sc (.d64 (M a b)), [DW a, DW b, a.length + b.length ≤ 1000000])
  | _ => none
theorem ctMul6 : CtSOk Tryz.prog 136 (.fn (spMulG mulW)) := FnS_of_fnS gs0 fol fun ds r cs h hc => by
  unfold spMulG at h
  split at h
  case h_2 => simp at h
  rename_i a b
  simp only [Option.some.injEq, Prod.mk.injEq] at h
  obtain ⟨rfl, rfl⟩ := h
  obtain ⟨ha, hb, hl, _⟩ := hc
  have L := muLoop a b hl
  rw [mRows_all ha hb] at L
  have hn := mulW_len a b
  have r0 := runMul6 a b (mulW a b) (a.length + b.length) (a.length : Nat)
  have e : ((a.length : Int) + (b.length : Int)).toNat = a.length + b.length := by omega
  rw [e, List.length_replicate] at r0
  refine use_run r0 (by rw [cutL_eq hn, List.drop_zero, List.take_of_length_le (by omega)]) ?_
  clear r0
  simp only [AllP, inI64]
  and_intros <;> first | exact True.intro | exact L | with_reducible rfl | omega
theorem w_ne {x : W6} (h : x ≠ 0#64) : 0 < x.toNat := by
  have : x.toNat ≠ 0 := fun h2 => h (BitVec.eq_of_toNat_eq (by rw [h2]; rfl))
  omega
theorem moLoop (d : List W6) (p n : Int) (hn : 0 ≤ n) (hl : d.length ≤ 1000000) (h : ∀ i : Nat, n < i → i < d.length → d.getD i 0#64 = 0#64) :
    ∃ i, LoopTo Tryz.prog (bodyAt Tryz.prog 137 2) (moInv d p n ((d.length : Int) - 1) false) (.exit 0) (moInv d p n i false) := by
  refine ⟨min ((d.length : Int) - 1) n, LoopTo.intro (P := Tryz.prog) (α := Int) gs0 fol (fun i => moInv d p n i false) (fun i => i ≤ (d.length : Int) - 1 ∧ min ((d.length : Int) - 1) n ≤ i) (fun i => (i + 1).toNat) (by simp) ?_ ((d.length : Int) - 1) ⟨by omega, by omega⟩⟩
  rintro i ⟨h1, h2⟩
  by_cases he : n < i
  · have r0 := moRound d p n i
    refine .inl ⟨_, _, _, _, _, i - 1, r0, ?_, ⟨by omega, by omega⟩, by omega⟩
    clear r0
    have e := h i.toNat (by omega) (by omega)
    have e2 : decide (0 < (d.getD (0 + i.toNat * 1) 0#64).toNat) = false := by rw [Nat.zero_add, Nat.mul_one, e]; rfl
    simp only [AllP, inI64]
    and_intros <;> first | exact True.intro | exact decide_eq_true (by omega) | exact e2 | omega
  · have e : min ((d.length : Int) - 1) n = i := by omega
    rw [e]
    exact .inr ⟨_, _, _, _, _, moExit d p n i, ⟨decide_eq_false he, trivial⟩⟩
theorem moLoopT (d : List W6) (p n : Int) (k : Nat) (hn : 0 ≤ n) (hl : d.length ≤ 1000000) (hk : n < k) (hk2 : k < d.length) (hd : d.getD k 0#64 ≠ 0#64) (h : ∀ i : Nat, k < i → i < d.length → d.getD i 0#64 = 0#64) :
    LoopTo Tryz.prog (bodyAt Tryz.prog 137 2) (moInv d p n ((d.length : Int) - 1) false) .ret (moInv d p n (k : Nat) true) := by
  refine LoopTo.intro (P := Tryz.prog) (α := Int) gs0 fol (fun i => moInv d p n i false) (fun i => i ≤ (d.length : Int) - 1 ∧ (k : Int) ≤ i) (fun i => (i + 1).toNat) (by simp) ?_ ((d.length : Int) - 1) ⟨by omega, by omega⟩
  rintro i ⟨h1, h2⟩
  by_cases he : (k : Int) = i
  · subst he
    refine .inr ⟨_, _, _, _, _, moRet d p n (k : Nat), ?_⟩
    have e2 : decide (0 < (d.getD (0 + ((k : Nat) : Int).toNat * 1) 0#64).toNat) = true := by
      rw [Int.toNat_natCast, Nat.zero_add, Nat.mul_one]
      exact decide_eq_true (w_ne hd)
    simp only [AllP]
    and_intros <;> first | exact True.intro | exact decide_eq_true (by omega) | exact e2 | omega
  · have r0 := moRound d p n i
    refine .inl ⟨_, _, _, _, _, i - 1, r0, ?_, ⟨by omega, by omega⟩, by omega⟩
    clear r0
    have e := h i.toNat (by omega) (by omega)
    have e2 : decide (0 < (d.getD (0 + i.toNat * 1) 0#64).toNat) = false := by rw [Nat.zero_add, Nat.mul_one, e]; rfl
    simp only [AllP, inI64]
    and_intros <;> first | exact True.intro | exact decide_eq_true (by omega) | exact e2 | omega
theorem m2Loop (d : List W6) (n : Nat) (hn : n < d.length) (hl : d.length ≤ 1000000) (h : ∀ i : Nat, i < n → d.getD i 0#64 = 0#64) :
    LoopTo Tryz.prog (bodyAt Tryz.prog 137 11) (m2Inv d (n : Nat) 0 false) (.exit 2) (m2Inv d (n : Nat) (n : Nat) false) := by
  refine LoopTo.intro (P := Tryz.prog) (α := Nat) gs0 fol (c := bodyAt Tryz.prog 137 11) (e := .exit 2) (σ' := m2Inv d (n : Nat) (n : Nat) false) (fun i => m2Inv d (n : Nat) (i : Nat) false) (fun i => i ≤ n) (fun i => n - i) (by simp) ?_ 0 (by omega)
  intro i hi
  by_cases he : i = n
  · subst he
    exact .inr ⟨_, _, _, _, _, m2Exit d _ _, ⟨decide_eq_false (by omega), trivial⟩⟩
  · have r0 := m2Round d (n : Nat) (i : Nat)
    rw [← castS] at r0
    refine .inl ⟨_, _, _, _, _, i + 1, r0, ?_, by omega, by omega⟩
    clear r0
    have e := h i (by omega)
    have e2 : decide (0 < (d.getD (0 + ((i : Nat) : Int).toNat * 1) 0#64).toNat) = false := by rw [Int.toNat_natCast, Nat.zero_add, Nat.mul_one, e]; rfl
    simp only [AllP, inI64]
    and_intros <;> first | exact True.intro | exact decide_eq_true (by omega) | exact e2 | omega
theorem m2LoopT (d : List W6) (n k : Nat) (hn : n < d.length) (hl : d.length ≤ 1000000) (hk : k < n) (hd : d.getD k 0#64 ≠ 0#64) (h : ∀ i : Nat, i < k → d.getD i 0#64 = 0#64) :
    LoopTo Tryz.prog (bodyAt Tryz.prog 137 11) (m2Inv d (n : Nat) 0 false) .ret (m2Inv d (n : Nat) (k : Nat) true) := by
  refine LoopTo.intro (P := Tryz.prog) (α := Nat) gs0 fol (c := bodyAt Tryz.prog 137 11) (e := .ret) (σ' := m2Inv d (n : Nat) (k : Nat) true) (fun i => m2Inv d (n : Nat) (i : Nat) false) (fun i => i ≤ k) (fun i => k - i) (by simp) ?_ 0 (by omega)
  intro i hi
  by_cases he : i = k
  · subst he
    refine .inr ⟨_, _, _, _, _, m2Ret d _ _, ?_⟩
    have e2 : decide (0 < (d.getD (0 + ((i : Nat) : Int).toNat * 1) 0#64).toNat) = true := by
      rw [Int.toNat_natCast, Nat.zero_add, Nat.mul_one]
      exact decide_eq_true (w_ne hd)
    simp only [AllP]
    and_intros <;> first | exact True.intro | exact decide_eq_true (by omega) | exact e2 | omega
  · have r0 := m2Round d (n : Nat) (i : Nat)
    rw [← castS] at r0
    refine .inl ⟨_, _, _, _, _, i + 1, r0, ?_, by omega, by omega⟩
    clear r0
    have e := h i (by omega)
    have e2 : decide (0 < (d.getD (0 + ((i : Nat) : Int).toNat * 1) 0#64).toNat) = false := by rw [Int.toNat_natCast, Nat.zero_add, Nat.mul_one, e]; rfl
    simp only [AllP, inI64]
    and_intros <;> first | exact True.intro | exact decide_eq_true (by omega) | exact e2 | omega
theorem exists_last {Q : Nat → Prop} [DecidablePred Q] : ∀ n, (∃ i, i < n ∧ Q i) → ∃ i, i < n ∧ Q i ∧ ∀ j, i < j → j < n → ¬ Q j
  | 0, ⟨_, h, _⟩ => by omega
  | n + 1, ⟨i, h, q⟩ => by
    by_cases hq : Q n
    · exact ⟨n, by omega, hq, fun j h1 h2 => by omega⟩
    · obtain ⟨k, h1, h2, h3⟩ := exists_last n ⟨i, by rcases Nat.lt_succ_iff_lt_or_eq.1 h with h | h; exact h; exact absurd (h ▸ q) hq, q⟩
      exact ⟨k, by omega, h2, fun j h4 h5 => by rcases Nat.lt_succ_iff_lt_or_eq.1 h5 with h6 | h6; exact h3 j h4 h6; exact h6 ▸ hq⟩
theorem exists_first {Q : Nat → Prop} [DecidablePred Q] (n : Nat) : (∃ i, i < n ∧ Q i) → ∃ i, i < n ∧ Q i ∧ ∀ j, j < i → ¬ Q j := by
  induction n using Nat.strongRecOn with
  | _ n ih =>
    rintro ⟨i, h, q⟩
    by_cases he : ∃ j, j < i ∧ Q j
    · obtain ⟨j, h1, h2, h3⟩ := ih i h he
      exact ⟨j, by omega, h2, h3⟩
    · exact ⟨i, h, q, fun j hj hq => he ⟨j, hj, hq⟩⟩
def spMostG (M : List W6 → Nat → Nat → Bool) : List AV → Option (AV × List Prop)
  | [.val false [.d64 d], .val false [.i64 p], .val false [.i64 n]] => some (sc (.bool (M d p.toNat n.toNat)), [DW d, d.length ≤ 1000000, 0 < p, p < 65536, 0 ≤ n])
  | _ => none
theorem ctMost6 : CtSOk Tryz.prog 137 (.fn (spMostG moreW)) := FnS_of_fnS gs0 fol fun ds r cs h hc => by
  unfold spMostG at h
  split at h
  case h_2 => simp at h
  rename_i d p n
  simp only [Option.some.injEq, Prod.mk.injEq] at h
  obtain ⟨rfl, rfl⟩ := h
  obtain ⟨hd, hl, hp, hp2, hn, _⟩ := hc
  have hi : inI64 ((d.length : Int) - 1) := by unfold inI64; omega
  by_cases h1 : ∃ i, i < d.length ∧ (n.toNat < i ∧ d.getD i 0#64 ≠ 0#64)
  · obtain ⟨k, k1, ⟨k2, k3⟩, k4⟩ := exists_last d.length h1
    have L := moLoopT d p n k hn hl (by omega) k1 k3 fun j j1 j2 => by
      have := k4 j j1 j2
      by_cases e : d.getD j 0#64 = 0#64
      · exact e
      · exact absurd ⟨by omega, e⟩ this
    refine use_run (runMost1 d p n (k : Nat)) (by rw [more_high (by omega) k2 k1 k3]) ⟨hi, L, trivial⟩
  · have h2 : ∀ i : Nat, n.toNat < i → i < d.length → d.getD i 0#64 = 0#64 := fun i i1 i2 => by
      by_cases e : d.getD i 0#64 = 0#64
      · exact e
      · exact absurd ⟨i, i2, i1, e⟩ h1
    obtain ⟨i, L⟩ := moLoop d p n hn hl fun i i1 i2 => h2 i (by omega) i2
    by_cases h3 : d.length ≤ n.toNat
    · exact use_run (runMost2 d p n i) (by rw [more_len hd (by omega) h3]) ⟨hi, L, decide_eq_true (by omega), trivial⟩
    · have hm : moreW d p.toNat n.toNat = decide (p.toNat < (d.getD n.toNat 0#64).toNat ∨ p.toNat = (d.getD n.toNat 0#64).toNat ∧ 0 < vW (d.take n.toNat)) := more_mid (p := p.toNat) hd (by omega) h2
      have hz : 0 + n.toNat * 1 = n.toNat := by omega
      have hpw : (BitVec.ofInt 64 p).toNat = p.toNat := by
        obtain ⟨m, rfl⟩ := Int.eq_ofNat_of_zero_le (show 0 ≤ p by omega)
        rw [BitVec.ofInt_natCast, BitVec.toNat_ofNat]
        omega
      have x1 : n.toNat < d.length := by omega
      have hle : decide ((d.length : Int) ≤ n) = false := decide_eq_false (by omega)
      by_cases h4 : (d.getD n.toNat 0#64).toNat < p.toNat
      · refine use_run (runMost3 d p n i) (by rw [hm, decide_eq_false (by omega)]) ?_
        refine ⟨hi, L, hle, by omega, by omega, by omega, ?_, trivial⟩
        rw [hz, hpw]
        exact decide_eq_true h4
      · by_cases h5 : p.toNat < (d.getD n.toNat 0#64).toNat
        · refine use_run (runMost4 d p n i) (by rw [hm, decide_eq_true (by omega)]) ?_
          refine ⟨hi, L, hle, by omega, by omega, by omega, ?_, by omega, by omega, by omega, ?_, trivial⟩
          · rw [hz, hpw]; exact decide_eq_false h4
          · rw [hz, hpw]; exact decide_eq_true h5
        · have h6 : p.toNat = (d.getD n.toNat 0#64).toNat := by omega
          obtain ⟨m, rfl⟩ := Int.eq_ofNat_of_zero_le hn
          rw [Int.toNat_natCast] at *
          by_cases h7 : ∃ j, j < m ∧ d.getD j 0#64 ≠ 0#64
          · obtain ⟨k, k1, k2, k3⟩ := exists_first m h7
            have L2 := m2LoopT d m k x1 hl k1 k2 fun j hj => by
              by_cases e : d.getD j 0#64 = 0#64
              · exact e
              · exact absurd e (k3 j hj)
            have ht : 0 < vW (d.take m) := vW_pos ⟨k, by rw [List.length_take]; omega, by
              rw [List.getD_eq_getElem?_getD, List.getElem?_take, if_pos k1, ← List.getD_eq_getElem?_getD]; exact k2⟩
            refine use_run (runMost5 d p (m : Nat) i (k : Nat)) (by rw [hm, decide_eq_true (.inr ⟨h6, ht⟩)]) ?_
            refine ⟨hi, L, hle, by omega, by omega, by omega, ?_, by omega, by omega, by omega, ?_, L2, trivial⟩
            · rw [Int.toNat_natCast, hz, hpw]; exact decide_eq_false h4
            · rw [Int.toNat_natCast, hz, hpw]; exact decide_eq_false h5
          · have h8 : ∀ j, j < m → d.getD j 0#64 = 0#64 := fun j hj => by
              by_cases e : d.getD j 0#64 = 0#64
              · exact e
              · exact absurd ⟨j, hj, e⟩ h7
            have L2 := m2Loop d m x1 hl h8
            have ht : vW (d.take m) = 0 := vW_none fun j hj => by
              rw [List.length_take] at hj
              rw [List.getD_eq_getElem?_getD, List.getElem?_take, if_pos (by omega), ← List.getD_eq_getElem?_getD]
              exact h8 j (by omega)
            refine use_run (runMost6 d p (m : Nat) i (m : Nat)) (by rw [hm, decide_eq_false (by omega)]) ?_
            refine ⟨hi, L, hle, by omega, by omega, by omega, ?_, by omega, by omega, by omega, ?_, L2, trivial⟩
            · rw [Int.toNat_natCast, hz, hpw]; exact decide_eq_false h4
            · rw [Int.toNat_natCast, hz, hpw]; exact decide_eq_false h5
end Go.Proofs.YtlgiaglbdifkpaaGreatDoor
/- SHA-512 of the document: words moved and turned. Own work. -/
namespace Go.Proofs.YtlgiaglbdifkpaaGreatDoor
open Go.Ev Go.Sp Go.RowKit
set_option maxRecDepth 100000
theorem tR_toNat (x : W6) {n : Nat} (h : n ≤ 64) : (tR x n).toNat = x.toNat / 2 ^ n + x.toNat % 2 ^ n * 2 ^ (64 - n) := by
  have hx := x.isLt
  unfold tR
  rw [BitVec.toNat_or, BitVec.toNat_shiftLeft, BitVec.toNat_ushiftRight, Nat.shiftRight_eq_div_pow, Nat.shiftLeft_eq]
  have e : x.toNat * 2 ^ (64 - n) % 2 ^ 64 = (x.toNat % 2 ^ n) <<< (64 - n) := by
    rw [Nat.shiftLeft_eq]
    have : (2 : Nat) ^ 64 = 2 ^ n * 2 ^ (64 - n) := by rw [← Nat.pow_add]; congr 1; omega
    rw [this, Nat.mul_mod_mul_right]
  have hlt : x.toNat / 2 ^ n < 2 ^ (64 - n) := by
    rw [Nat.div_lt_iff_lt_mul (Nat.pow_pos (by omega)), ← Nat.pow_add]
    have : 64 - n + n = 64 := by omega
    rw [this]
    exact hx
  rw [e, Nat.or_comm, ← Nat.shiftLeft_add_eq_or_of_lt hlt, Nat.shiftLeft_eq, Nat.add_comm]
theorem tR_zero (x : W6) : tR x 0 = x := by
  apply BitVec.eq_of_toNat_eq
  rw [tR_toNat x (by omega)]
  simp [Nat.mod_one]
theorem tR_step (X P M : Nat) (hP : 0 < P) : (X / P + X % P * (2 * M)) / 2 + (X / P + X % P * (2 * M)) % 2 * (P * M) = X / (P * 2) + X % (P * 2) * M := by
  obtain ⟨s, r, hr, e⟩ : ∃ s r, r < P ∧ X = P * s + r := ⟨X / P, X % P, Nat.mod_lt _ hP, (Nat.div_add_mod X P).symm⟩
  subst e
  have d1 : (P * s + r) / P = s := by rw [Nat.mul_add_div hP, Nat.div_eq_of_lt hr, Nat.add_zero]
  have d2 : (P * s + r) % P = r := by rw [Nat.mul_add_mod, Nat.mod_eq_of_lt hr]
  have d3 : (P * s + r) / (P * 2) = s / 2 := by rw [← Nat.div_div_eq_div_mul, d1]
  have d4 : (P * s + r) % (P * 2) = P * (s % 2) + r := by
    have h := Nat.div_add_mod (P * s + r) (P * 2)
    rw [d3] at h
    have h2 := Nat.div_add_mod s 2
    have h3 : P * s = P * 2 * (s / 2) + P * (s % 2) := by rw [Nat.mul_assoc, ← Nat.mul_add, h2]
    omega
  rw [d1, d2, d3, d4]
  have e1 : r * (2 * M) = 2 * (r * M) := by rw [Nat.mul_left_comm]
  have e2 : (P * (s % 2) + r) * M = s % 2 * (P * M) + r * M := by rw [Nat.add_mul, Nat.mul_comm P, Nat.mul_assoc]
  rw [e1, e2]
  have e3 : (s + 2 * (r * M)) % 2 = s % 2 := by omega
  rw [e3]
  omega
theorem tR_next (x : W6) {n : Nat} (h : n < 64) : tR x n / 2#64 + tR x n % 2#64 * 9223372036854775808#64 = tR x (n + 1) := by
  have hx := x.isLt
  have hs := tR_step x.toNat (2 ^ n) (2 ^ (63 - n)) (Nat.pow_pos (by omega))
  have e1 : 2 * 2 ^ (63 - n) = 2 ^ (64 - n) := by rw [← Nat.pow_succ']; congr 1; omega
  have e2 : 2 ^ n * 2 ^ (63 - n) = 9223372036854775808 := by
    rw [← Nat.pow_add]
    have : n + (63 - n) = 63 := by omega
    rw [this]
  have e3 : (2 : Nat) ^ n * 2 = 2 ^ (n + 1) := (Nat.pow_succ ..).symm
  have t0 := tR_toNat x (n := n) (by omega)
  have t1 := tR_toNat x (n := n + 1) (by omega)
  rw [e1, e2, e3, ← t0] at hs
  rw [show 64 - (n + 1) = 63 - n by omega, ← hs] at t1
  have hl := (tR x (n + 1)).isLt
  apply BitVec.eq_of_toNat_eq
  rw [BitVec.toNat_add, BitVec.toNat_mul, BitVec.toNat_udiv, BitVec.toNat_umod, t1]
  rw [t1] at hl
  simp only [BitVec.toNat_ofNat, Nat.reducePow, Nat.reduceMod] at hl ⊢
  omega
theorem shr_next (x : W6) (n : Nat) : (x >>> n) / 2#64 = x >>> (n + 1) := by
  apply BitVec.eq_of_toNat_eq
  rw [BitVec.toNat_udiv, BitVec.toNat_ushiftRight, BitVec.toNat_ushiftRight, Nat.shiftRight_eq_div_pow, Nat.shiftRight_eq_div_pow, Nat.pow_succ, ← Nat.div_div_eq_div_mul]
  rfl
def shTd : List Nat := [0, 1, 5]
def shInv (y : W6) (n i : Int) : St := ⟨slotsOf 14 [(0, sc (.u64 y)), (1, sc (.i64 n)), (5, sc (.i64 i))], [], 16⟩
theorem shRound (y : W6) (n i : Int) : roundS Tryz.prog (lookG []) (orcA [(2, [(2, true)])]) [] 10 shTd (bodyAt Tryz.prog 122 2) (shInv y n i) =
    some (Ex.normal, St.mk (slotsOf 14 [(0, sc (IV.u64 (y / BitVec.ofNat 64 2))), (1, sc (IV.i64 n)), (5, sc (IV.i64 (i + (1 : Int))))]) [] 16, [decide (i < n) = true, 2 ≠ 0, inI64 (i + (1 : Int))]) := by kernel_rfl
theorem shExit (y : W6) (n i : Int) : roundS Tryz.prog (lookG []) (orcA [(2, [(2, false)])]) [] 10 shTd (bodyAt Tryz.prog 122 2) (shInv y n i) =
    some (Ex.exit 0, St.mk (slotsOf 14 [(0, sc (IV.u64 y)), (1, sc (IV.i64 n)), (5, sc (IV.i64 i))]) [] 16, [decide (i < n) = false]) := by kernel_rfl
theorem runShift (x y : W6) (n i : Int) : fnS Tryz.prog (lookG []) (orcA []) [⟨2, shTd, .exit 0, shInv y n i⟩] 10 122 [sc (.u64 x), sc (.i64 n)] =
    some (sc (IV.u64 y), [LoopTo Tryz.prog (bodyAt Tryz.prog 122 2) (St.mk (slotsOf 14 [(0, sc (IV.u64 x)), (1, sc (IV.i64 n)), (5, sc (IV.i64 (0 : Int)))]) [] 16) (Ex.exit 0) (St.mk (slotsOf 14 [(0, sc (IV.u64 y)), (1, sc (IV.i64 n)), (5, sc (IV.i64 i))]) [] 16)]) := by kernel_rfl
theorem shLoop (x : W6) (n : Nat) (hn : n ≤ 1000) : LoopTo Tryz.prog (bodyAt Tryz.prog 122 2) (shInv x (n : Nat) 0) (.exit 0) (shInv (x >>> n) (n : Nat) (n : Nat)) := by
  have h0 := LoopTo.intro (P := Tryz.prog) (α := Nat) gs0 fol (c := bodyAt Tryz.prog 122 2) (e := .exit 0) (σ' := shInv (x >>> n) (n : Nat) (n : Nat)) (fun i => shInv (x >>> i) (n : Nat) (i : Nat)) (fun i => i ≤ n) (fun i => n - i) (by simp) ?_ 0 (by omega)
  · rw [show x >>> 0 = x from BitVec.ushiftRight_zero x] at h0
    exact h0
  intro i hi
  by_cases he : i = n
  · subst he
    exact .inr ⟨_, _, _, _, _, shExit _ _ _, ⟨decide_eq_false (by omega), trivial⟩⟩
  · have r0 := shRound (x >>> i) (n : Nat) (i : Nat)
    rw [shr_next, ← castS] at r0
    refine .inl ⟨_, _, _, _, _, i + 1, r0, ?_, by omega, by omega⟩
    clear r0
    simp only [AllP, inI64]
    and_intros <;> first | exact True.intro | exact decide_eq_true (by omega) | decide | omega
def spShift : List AV → Option (AV × List Prop)
  | [.val false [.u64 x], .val false [.i64 n]] => some (sc (.u64 (x >>> n.toNat)), [0 ≤ n, n ≤ 1000])
  | _ => none
theorem ctShift : CtSOk Tryz.prog 122 (.fn spShift) := FnS_of_fnS gs0 fol fun ds r cs h hc => by
  unfold spShift at h
  split at h
  case h_2 => simp at h
  rename_i x n
  simp only [Option.some.injEq, Prod.mk.injEq] at h
  obtain ⟨rfl, rfl⟩ := h
  obtain ⟨h0, h1, _⟩ := hc
  obtain ⟨k, rfl⟩ := Int.eq_ofNat_of_zero_le h0
  exact use_run (runShift x (x >>> k) k k) (by rw [Int.toNat_natCast]) ⟨shLoop x k (by omega), trivial⟩
def kindL (ks fs : List W6) : List IV := [.i64 64, .i64 80, .vi 3 [28, 34, 39], .vi 3 [14, 18, 41], .vi 3 [1, 8, 7], .vi 3 [19, 61, 6], .d64 ks, .d64 fs]
def tuTd : List Nat := [1, 2, 7, 9]
def tuInv (y : W6) (n i : Int) : St := ⟨slotsOf 31 [(1, sc (.u64 y)), (2, sc (.i64 n)), (7, sc (.u64 9223372036854775808#64)), (9, sc (.i64 i))], [], 16⟩
theorem tuRound (y : W6) (n i : Int) : roundS Tryz.prog (lookG []) (orcA [(7, [(2, true)])]) [] 10 tuTd (bodyAt Tryz.prog 139 7) (tuInv y n i) =
    some (Ex.normal, St.mk (slotsOf 31 [(1, sc (IV.u64 (y / BitVec.ofNat 64 2 + y % BitVec.ofNat 64 2 * BitVec.ofNat 64 9223372036854775808))), (2, sc (IV.i64 n)), (7, sc (IV.u64 (BitVec.ofNat 64 9223372036854775808))), (9, sc (IV.i64 (i + (1 : Int))))]) [] 16, [decide (i < n) = true, 2 ≠ 0, 2 ≠ 0, inI64 (i + (1 : Int))]) := by kernel_rfl
theorem tuExit (y : W6) (n i : Int) : roundS Tryz.prog (lookG []) (orcA [(7, [(2, false)])]) [] 10 tuTd (bodyAt Tryz.prog 139 7) (tuInv y n i) =
    some (Ex.exit 2, St.mk (slotsOf 31 [(1, sc (IV.u64 y)), (2, sc (IV.i64 n)), (7, sc (IV.u64 (BitVec.ofNat 64 9223372036854775808))), (9, sc (IV.i64 i))]) [] 16, [decide (i < n) = false]) := by kernel_rfl
theorem runTurnD (x y : W6) (n i r : Int) (u d e l : List Int) (ks fs : List W6) : fnS Tryz.prog (lookG []) orc0 [⟨7, tuTd, .exit 2, tuInv y n i⟩] 70 139 [.val true [.i64 64, .i64 r, .vi 3 u, .vi 3 d, .vi 3 e, .vi 3 l, .d64 ks, .d64 fs], sc (.u64 x), sc (.i64 n)] =
    some (sc (.u64 y), [LoopTo Tryz.prog (bodyAt Tryz.prog 139 7) (tuInv x n 0) (.exit 2) (tuInv y n i)]) := by kernel_rfl
theorem tuLoop (x : W6) (n : Nat) (hn : n ≤ 64) : LoopTo Tryz.prog (bodyAt Tryz.prog 139 7) (tuInv x (n : Nat) 0) (.exit 2) (tuInv (tR x n) (n : Nat) (n : Nat)) := by
  have h0 := LoopTo.intro (P := Tryz.prog) (α := Nat) gs0 fol (c := bodyAt Tryz.prog 139 7) (e := .exit 2) (σ' := tuInv (tR x n) (n : Nat) (n : Nat)) (fun i => tuInv (tR x i) (n : Nat) (i : Nat)) (fun i => i ≤ n) (fun i => n - i) (by simp) ?_ 0 (by omega)
  · rw [tR_zero] at h0
    exact h0
  intro i hi
  by_cases he : i = n
  · subst he
    exact .inr ⟨_, _, _, _, _, tuExit _ _ _, ⟨decide_eq_false (by omega), trivial⟩⟩
  · have r0 := tuRound (tR x i) (n : Nat) (i : Nat)
    rw [tR_next x (by omega), ← castS] at r0
    refine .inl ⟨_, _, _, _, _, i + 1, r0, ?_, by omega, by omega⟩
    clear r0
    simp only [AllP, inI64]
    and_intros <;> first | exact True.intro | exact decide_eq_true (by omega) | decide | omega
def spTurnD : List AV → Option (AV × List Prop)
  | [.val true [.i64 b, .i64 _, .vi 3 _, .vi 3 _, .vi 3 _, .vi 3 _, .d64 _, .d64 _], .val false [.u64 x], .val false [.i64 n]] => some (sc (.u64 (tR x n.toNat)), [0 ≤ n, n ≤ 64, b = 64])
  | _ => none
theorem ctTurnD : CtSOk Tryz.prog 139 (.fn spTurnD) := FnS_of_fnS gs0 fol fun ds r cs h hc => by
  unfold spTurnD at h
  split at h
  case h_2 => simp at h
  rename_i b r u d e l ks fs x n
  simp only [Option.some.injEq, Prod.mk.injEq] at h
  obtain ⟨rfl, rfl⟩ := h
  obtain ⟨h0, h1, rfl, _⟩ := hc
  obtain ⟨m, rfl⟩ := Int.eq_ofNat_of_zero_le h0
  exact use_run (runTurnD x (tR x m) m m r u d e l ks fs) (by rw [Int.toNat_natCast]) ⟨tuLoop x m (by omega), trivial⟩
def tblTd : List (FuncId × CtS) := [(139, .fn spTurnD), (122, .fn spShift)]
theorem okTd : TblOk Tryz.prog tblTd := ⟨⟨ctTurnD, by kernel_rfl⟩, ⟨ctShift, by kernel_rfl⟩, trivial⟩
theorem gsTd : GSound Tryz.prog (upG (lookG tblTd)) := GSound_of_tbl okTd
theorem runTurnedD (x : W6) (a b c r : Int) (u d e l : List Int) (ks fs : List W6) : fnS Tryz.prog (lookG tblTd) orc0 [] 10 134 [.val true [.i64 64, .i64 r, .vi 3 u, .vi 3 d, .vi 3 e, .vi 3 l, .d64 ks, .d64 fs], sc (.u64 x), .val true [.vi 3 [a, b, c]]] =
    some (sc (IV.u64 (tR x a.toNat ^^^ tR x b.toNat ^^^ tR x c.toNat)), [ks.length = ks.length, fs.length = fs.length, (0 : Int) ≤ a, a ≤ (64 : Int), (64 : Int) = (64 : Int), ks.length = ks.length, fs.length = fs.length, (0 : Int) ≤ b, b ≤ (64 : Int), (64 : Int) = (64 : Int), ks.length = ks.length, fs.length = fs.length, (0 : Int) ≤ c, c ≤ (64 : Int), (64 : Int) = (64 : Int)]) := by kernel_rfl
theorem runShiftedD (x : W6) (a b c r : Int) (u d e l : List Int) (ks fs : List W6) : fnS Tryz.prog (lookG tblTd) orc0 [] 10 138 [.val true [.i64 64, .i64 r, .vi 3 u, .vi 3 d, .vi 3 e, .vi 3 l, .d64 ks, .d64 fs], sc (.u64 x), .val true [.vi 3 [a, b, c]]] =
    some (sc (IV.u64 (tR x a.toNat ^^^ tR x b.toNat ^^^ x >>> c.toNat)), [ks.length = ks.length, fs.length = fs.length, (0 : Int) ≤ a, a ≤ (64 : Int), (64 : Int) = (64 : Int), ks.length = ks.length, fs.length = fs.length, (0 : Int) ≤ b, b ≤ (64 : Int), (64 : Int) = (64 : Int), (0 : Int) ≤ c, c ≤ (1000 : Int)]) := by kernel_rfl
def spTurnedD : List AV → Option (AV × List Prop)
  | [.val true [.i64 q, .i64 _, .vi 3 _, .vi 3 _, .vi 3 _, .vi 3 _, .d64 _, .d64 _], .val false [.u64 x], .val true [.vi 3 [a, b, c]]] => some (sc (.u64 (tR3 x a b c)), [0 ≤ a, a ≤ 64, 0 ≤ b, b ≤ 64, 0 ≤ c, c ≤ 64, q = 64])
  | _ => none
def spShiftedD : List AV → Option (AV × List Prop)
  | [.val true [.i64 q, .i64 _, .vi 3 _, .vi 3 _, .vi 3 _, .vi 3 _, .d64 _, .d64 _], .val false [.u64 x], .val true [.vi 3 [a, b, c]]] => some (sc (.u64 (sR3 x a b c)), [0 ≤ a, a ≤ 64, 0 ≤ b, b ≤ 64, 0 ≤ c, c ≤ 64, q = 64])
  | _ => none
def spCut : List AV → Option (AV × List Prop)
  | [.val true [.i64 q, .i64 _, .vi 3 _, .vi 3 _, .vi 3 _, .vi 3 _, .d64 _, .d64 _], .val false [.u64 x]] => some (sc (.u64 x), [q = 64])
  | _ => none
theorem ctTurnedD : CtSOk Tryz.prog 134 (.fn spTurnedD) := FnS_of_fnS gsTd fol fun ds r cs h hc => by
  unfold spTurnedD at h
  split at h
  case h_2 => simp at h
  rename_i q r u d e l ks fs x a b c
  simp only [Option.some.injEq, Prod.mk.injEq] at h
  obtain ⟨rfl, rfl⟩ := h
  obtain ⟨h0, h1, h2, h3, h4, h5, rfl, _⟩ := hc
  refine use_run (runTurnedD x a b c r u d e l ks fs) rfl ?_
  simp only [AllP]
  and_intros <;> first | with_reducible rfl | omega | trivial
theorem ctShiftedD : CtSOk Tryz.prog 138 (.fn spShiftedD) := FnS_of_fnS gsTd fol fun ds r cs h hc => by
  unfold spShiftedD at h
  split at h
  case h_2 => simp at h
  rename_i q r u d e l ks fs x a b c
  simp only [Option.some.injEq, Prod.mk.injEq] at h
  obtain ⟨rfl, rfl⟩ := h
  obtain ⟨h0, h1, h2, h3, h4, h5, rfl, _⟩ := hc
  refine use_run (runShiftedD x a b c r u d e l ks fs) rfl ?_
  simp only [AllP]
  and_intros <;> first | with_reducible rfl | omega | trivial
theorem runCut (x : W6) (r : Int) (u d e l : List Int) (ks fs : List W6) : fnS Tryz.prog (lookG []) orc0 [] 10 135 [.val true [.i64 64, .i64 r, .vi 3 u, .vi 3 d, .vi 3 e, .vi 3 l, .d64 ks, .d64 fs], sc (.u64 x)] =
    some (sc (IV.u64 x), []) := by kernel_rfl
theorem ctCut : CtSOk Tryz.prog 135 (.fn spCut) := FnS_of_fnS gs0 fol fun ds r cs h hc => by
  unfold spCut at h
  split at h
  case h_2 => simp at h
  rename_i q r u d e l ks fs x
  simp only [Option.some.injEq, Prod.mk.injEq] at h
  obtain ⟨rfl, rfl⟩ := h
  obtain ⟨rfl, _⟩ := hc
  exact use_run (runCut x r u d e l ks fs) rfl trivial
def tblHb : List (FuncId × CtS) := [(134, .fn spTurnedD), (138, .fn spShiftedD), (135, .fn spCut), (122, .fn spShift)]
theorem okHb : TblOk Tryz.prog tblHb := ⟨⟨ctTurnedD, by kernel_rfl⟩, ⟨ctShiftedD, by kernel_rfl⟩, ⟨ctCut, by kernel_rfl⟩, ⟨ctShift, by kernel_rfl⟩, trivial⟩
theorem gsHb : GSound Tryz.prog (upG (lookG tblHb)) := GSound_of_tbl okHb
end Go.Proofs.YtlgiaglbdifkpaaGreatDoor
