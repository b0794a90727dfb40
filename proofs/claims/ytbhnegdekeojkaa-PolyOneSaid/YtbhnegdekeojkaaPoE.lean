/- Contracts of layer 11: the program's tag. Own work. -/
import Derived.Test.YtbhnegdekeojkaaPoD
namespace Go.Proofs.Ytbhnegdekeojkaa
open Go.Ev Go.Sp Go.RowKit
set_option maxRecDepth 100000
def pk (a : N4) : N4 := if (if val a < Pr then BitVec.ofNat 64 1 else BitVec.ofNat 64 0) = BitVec.ofNat 64 0 then ofN (val a + p256 - Pr) else a
theorem pk_val (a : N4) : val (pk a) = if val a < Pr then val a else val a - Pr := by
  have h := val_lt a
  unfold pk
  by_cases ha : val a < Pr
  · rw [if_pos ha, if_pos ha, if_neg (by decide)]
  · rw [if_neg ha, if_neg ha, if_pos rfl, val_ofN]
    unfold p256 at *
    unfold Pr at *
    omega
theorem pk2 (a : N4) (h : val a < 1361129467683753853853498429727072845829) : val (pk (pk a)) = val a % Pr := by
  rw [pk_val, pk_val]
  unfold Pr
  split
  · omega
  · split <;> omega
theorem bl_take (x : Nat) : ∀ n m, m ≤ n → (bl x n).take m = bl x m := by
  intro n m h
  refine bv_inj ?_ ?_
  · rw [List.length_take, bl_length, bl_length]; omega
  · have e := bv_append ((bl x n).take m) ((bl x n).drop m)
    rw [List.take_append_drop, bv_bl, List.length_take, bl_length, Nat.min_eq_left h] at e
    have l := bv_lt ((bl x n).take m)
    rw [List.length_take, bl_length, Nat.min_eq_left h] at l
    have d : 256 ^ m ∣ 256 ^ n := Nat.pow_dvd_pow 256 h
    have e2 : x % 256 ^ n % 256 ^ m = x % 256 ^ m := Nat.mod_mod_of_dvd x d
    rw [bv_bl, ← e2, e, Nat.add_mul_mod_self_left, Nat.mod_eq_of_lt l]
theorem bl_take16 (x : Nat) : cutL (bl x 32) 0 16 (bl x 32).length = bl x 16 := by
  rw [cutL_eq rfl]
  exact bl_take x 32 16 (by omega)
theorem ctPTag : CtSOk Try.prog 11 (.fn spTag) := FnS_of_fnS gsG fol fun ds r cs h hc => by
  unfold spTag at h
  split at h
  case h_2 => simp at h
  rename_i k b
  simp only [Option.some.injEq, Prod.mk.injEq] at h
  obtain ⟨rfl, rfl⟩ := h
  have hb := hc.1
  by_cases hk : k.length = 32
  · have hR := tagR_lt k hk
    have hS := tagS_lt k hk
    have c1 := cut16 k
    have c2 := cut32 k hk
    have ct := cutV_len (k.take 16) (by simp [hk])
    have l2 : (k.drop 16).length = 16 := by simp [hk]
    have fR : (fromV (cutV (k.take 16)).1).1 = ofN (tagR k) := by rw [fromV, if_pos (by omega)]; rfl
    have fS : (fromV (k.drop 16)).1 = ofN (tagS k) := by rw [fromV, if_pos (by omega)]; rfl
    have vR : val (ofN (tagR k)) = tagR k := val_ofN_of (Nat.lt_trans hR (by decide))
    have vS : val (ofN (tagS k)) = tagS k := val_ofN_of (Nat.lt_trans hS (by decide))
    have lp := tgLoop b (ofN (tagR k)) (ofN (tagS k)) (by rw [vR]; exact hR) (by omega)
    have r0 := runTag k b (ofN (tagR k)) (ofN (tagS k)) (ofN (polyA (tagR k) b (nBlk b))) ((16 * nBlk b : Nat) : Int)
    obtain ⟨q1, q2⟩ := poly_inv hR b (nBlk b)
    have vA : val (ofN (polyA (tagR k) b (nBlk b))) = polyA (tagR k) b (nBlk b) := val_ofN_of (Nat.lt_trans q1 (by decide))
    have key : ofN (val (pk (pk (ofN (polyA (tagR k) b (nBlk b))))) + val (ofN (tagS k))) = ofN (polyX (tagR k) b (nBlk b) + tagS k) := by
      rw [pk2 _ (by rw [vA]; exact q1), vA, q2, vS]
    have px := polyX_lt (tagR k) b (nBlk b)
    have vk : val (ofN (polyX (tagR k) b (nBlk b) + tagS k)) = polyX (tagR k) b (nBlk b) + tagS k := val_ofN_of (by unfold Pr at px; unfold p256; omega)
    rw [c1, c2, fR, fS] at r0
    refine use_run r0 ?_ ?_
    · rw [tagV, if_pos hk]
      show AV.tup [(false, [IV.d8 (cutL (bl (val (ofN (val (pk (pk (ofN (polyA (tagR k) b (nBlk b))))) + val (ofN (tagS k))))) 32) 0 16 (bl (val (ofN (val (pk (pk (ofN (polyA (tagR k) b (nBlk b))))) + val (ofN (tagS k))))) 32).length)]), (false, [IV.i64 0])] = _
      rw [key, vk, bl_take16]
    · have e : tgInv b (ofN (tagR k)) (ofN (tagS k)) (ofN (polyA (tagR k) b (nBlk b))) ((16 * nBlk b : Nat) : Int) = tgSt b (ofN (tagR k)) (ofN (tagS k)) (nBlk b) := by unfold tgSt; rw [vR]
      have lp' : LoopTo Try.prog (bodyAt Try.prog 11 8) (tgInv b (ofN (tagR k)) (ofN (tagS k)) ⟨0#64, 0#64, 0#64, 0#64⟩ 0) (.exit 0) (tgInv b (ofN (tagR k)) (ofN (tagS k)) (ofN (polyA (tagR k) b (nBlk b))) ((16 * nBlk b : Nat) : Int)) := by rw [e]; exact lp
      simp only [AllP, inI64, bl_length, ct]
      simp only [hk]
      and_intros <;> first | exact True.intro | rfl | exact lp' | omega
  · refine use_run (runTag1 k b) (by rw [tagV, if_neg hk]; rfl) ⟨?_, by omega, trivial⟩
    simp only [Bool.not_eq_true', beq_eq_false_iff_ne, ne_eq]
    omega
end Go.Proofs.Ytbhnegdekeojkaa
