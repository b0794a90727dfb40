/- Contracts of the document's digit lists, over numbers. Own work. -/
import Derived.Test.YtokbhlapbollbaaCtF
namespace Go.Proofs.Ytokbhlapbollbaa
open Go.Ev Go.Sp Go.RowKit
set_option maxRecDepth 100000

/-- A number of few digits. -/
def Sm (a : Nat) : Prop := (dg a).length ≤ 4000000
theorem Sm_lt {a k : Nat} (h : a < 256 ^ k) (hk : k ≤ 4000000) : Sm a := Nat.le_trans (dg_length_le h) hk

def spNAt : List AV → Option (AV × List Prop)
  | [.val false [.dN a], .val false [.i64 i]] => some (sc (.i64 ((dig a i.toNat : Nat) : Int)), [0 ≤ i])
  | _ => none
theorem nAt : CtSOk Try.prog 40 (.fn spNAt) := FnS_num ctAt fun ds r cs h hc => by
  unfold spNAt at h
  split at h
  case h_2 => simp at h
  rename_i a i
  simp only [Option.some.injEq, Prod.mk.injEq] at h
  obtain ⟨rfl, rfl⟩ := h
  refine ⟨[0 ≤ i], ?_, hc⟩
  show some (sc (.i64 ((dg a).getD i.toNat 0)), _) = _
  rw [getD_dig (dg_D a), nv_dg]
  rfl
def spNSum : List AV → Option (AV × List Prop)
  | [.val false [.dN a], .val false [.dN b]] => some (sc (.dN (a + b)), [Sm a, Sm b])
  | _ => none
theorem nSum : CtSOk Try.prog 35 (.fn spNSum) := FnS_num ctSum fun ds r cs h hc => by
  unfold spNSum at h
  split at h
  case h_2 => simp at h
  rename_i a b
  simp only [Option.some.injEq, Prod.mk.injEq] at h
  obtain ⟨rfl, rfl⟩ := h
  refine ⟨[IsD (dg a), IsD (dg b), (dg a).length ≤ 4000000, (dg b).length ≤ 4000000], ?_, ⟨dg_D _, dg_D _, hc⟩⟩
  show some (sc (.dI (dg (nv (dg a) + nv (dg b)))), _) = _
  rw [nv_dg, nv_dg]
  rfl
def spNMinus : List AV → Option (AV × List Prop)
  | [.val false [.dN a], .val false [.dN b]] => some (sc (.dN (a - b)), [b ≤ a, Sm a])
  | _ => none
theorem nMinus : CtSOk Try.prog 37 (.fn spNMinus) := FnS_num ctMinus fun ds r cs h hc => by
  unfold spNMinus at h
  split at h
  case h_2 => simp at h
  rename_i a b
  simp only [Option.some.injEq, Prod.mk.injEq] at h
  obtain ⟨rfl, rfl⟩ := h
  refine ⟨[IsD (dg a), IsD (dg b), nv (dg b) ≤ nv (dg a), (dg a).length ≤ 4000000], ?_, ⟨dg_D _, dg_D _, by rw [nv_dg, nv_dg]; exact hc.1, hc.2⟩⟩
  show some (sc (.dI (dg (nv (dg a) - nv (dg b)))), _) = _
  rw [nv_dg, nv_dg]
  rfl
def spNLess : List AV → Option (AV × List Prop)
  | [.val false [.dN a], .val false [.dN b]] => some (sc (.bool (decide (a < b))), [Sm a, Sm b])
  | _ => none
theorem nLess : CtSOk Try.prog 22 (.fn spNLess) := FnS_num ctLess fun ds r cs h hc => by
  unfold spNLess at h
  split at h
  case h_2 => simp at h
  rename_i a b
  simp only [Option.some.injEq, Prod.mk.injEq] at h
  obtain ⟨rfl, rfl⟩ := h
  refine ⟨[IsD (dg a), IsD (dg b), (dg a).length ≤ 4000000, (dg b).length ≤ 4000000], ?_, ⟨dg_D _, dg_D _, hc⟩⟩
  show some (sc (.bool (decide (nv (dg a) < nv (dg b)))), _) = _
  rw [nv_dg, nv_dg]
  rfl
def spNRead : List AV → Option (AV × List Prop)
  | [.val false [.d8 b]] => some (sc (.dN (bv b)), [b.length ≤ 4000000])
  | _ => none
theorem nRead : CtSOk Try.prog 32 (.fn spNRead) := FnS_num ctRead fun ds r cs h hc => by
  unfold spNRead at h
  split at h
  case h_2 => simp at h
  rename_i b
  simp only [Option.some.injEq, Prod.mk.injEq] at h
  obtain ⟨rfl, rfl⟩ := h
  exact ⟨_, rfl, hc⟩
def spNTold : List AV → Option (AV × List Prop)
  | [.val false [.dN a], .val false [.i64 n]] => some (sc (.d8 (bl a n.toNat)), [0 ≤ n, n ≤ 4000000])
  | _ => none
theorem nTold : CtSOk Try.prog 29 (.fn spNTold) := FnS_num ctTold fun ds r cs h hc => by
  unfold spNTold at h
  split at h
  case h_2 => simp at h
  rename_i a n
  simp only [Option.some.injEq, Prod.mk.injEq] at h
  obtain ⟨rfl, rfl⟩ := h
  refine ⟨[IsD (dg a), 0 ≤ n, n ≤ 4000000], ?_, ⟨dg_D _, hc⟩⟩
  show some (sc (.d8 (bl (nv (dg a)) n.toNat)), _) = _
  rw [nv_dg]
  rfl
def spNDigits : List AV → Option (AV × List Prop)
  | [.val true [.n4 a]] => some (sc (.dN (val a)), [])
  | _ => none
theorem nDigits : CtSOk Try.prog 21 (.fn spNDigits) := FnS_num ctDigits fun ds r cs h hc => by
  unfold spNDigits at h
  split at h
  case h_2 => simp at h
  rename_i a
  simp only [Option.some.injEq, Prod.mk.injEq] at h
  obtain ⟨rfl, rfl⟩ := h
  exact ⟨_, rfl, hc⟩
def spNOf : List AV → Option (AV × List Prop)
  | [.val false [.dN a]] => some (.val true [.n4 (ofN a)], [])
  | _ => none
theorem nOf : CtSOk Try.prog 18 (.fn spNOf) := FnS_num ctOf fun ds r cs h hc => by
  unfold spNOf at h
  split at h
  case h_2 => simp at h
  rename_i a
  simp only [Option.some.injEq, Prod.mk.injEq] at h
  obtain ⟨rfl, rfl⟩ := h
  refine ⟨[IsD (dg a)], ?_, ⟨dg_D _, trivial⟩⟩
  show some (AV.val true [.n4 (ofN (nv (dg a)))], _) = _
  rw [nv_dg]
  rfl
def spNWide : List AV → Option (AV × List Prop)
  | [.val false [.dN a]] => some (.val true [.n4 (ofN a), .n4 (ofN (a / p256))], [])
  | _ => none
theorem nWide : CtSOk Try.prog 31 (.fn spNWide) := FnS_num ctWide fun ds r cs h hc => by
  unfold spNWide at h
  split at h
  case h_2 => simp at h
  rename_i a
  simp only [Option.some.injEq, Prod.mk.injEq] at h
  obtain ⟨rfl, rfl⟩ := h
  refine ⟨[IsD (dg a)], ?_, ⟨dg_D _, trivial⟩⟩
  show some (AV.val true [.n4 (ofN (nv (dg a))), .n4 (ofN (nv (dg a) / p256))], _) = _
  rw [nv_dg]
  rfl
def spNPower : List AV → Option (AV × List Prop)
  | [] => some (sc (.dN p256), [])
  | _ => none
theorem nPower : CtSOk Try.prog 36 (.fn spNPower) := FnS_num ctPower fun ds r cs h hc => by
  unfold spNPower at h
  split at h
  case h_2 => simp at h
  simp only [Option.some.injEq, Prod.mk.injEq] at h
  obtain ⟨rfl, rfl⟩ := h
  exact ⟨_, rfl, hc⟩

def tblN : List (FuncId × CtS) := [(40, .fn spNAt), (35, .fn (orD spNSum)), (37, .fn (orD spNMinus)), (22, .fn (orD spNLess)), (32, .fn spNRead),
  (29, .fn (orD spNTold)), (21, .fn spNDigits), (18, .fn (orD spNOf)), (31, .fn (orD spNWide)), (36, .fn spNPower), (39, .pre preTrim)]
theorem okN : TblOk Try.prog tblN := ⟨⟨nAt, by kernel_rfl⟩, ⟨FnS_orD nSum, by kernel_rfl⟩, ⟨FnS_orD nMinus, by kernel_rfl⟩, ⟨FnS_orD nLess, by kernel_rfl⟩, ⟨nRead, by kernel_rfl⟩, ⟨FnS_orD nTold, by kernel_rfl⟩, ⟨nDigits, by kernel_rfl⟩, ⟨FnS_orD nOf, by kernel_rfl⟩, ⟨FnS_orD nWide, by kernel_rfl⟩, ⟨nPower, by kernel_rfl⟩, ⟨ctTrim, by kernel_rfl⟩, trivial⟩
theorem gsN : GSound Try.prog (upG (lookG tblN)) := GSound_of_tbl okN
theorem runRAdd1 (a b : N4) : fnS Try.prog (lookG tblN) (orcA [(2, [(2, true)])]) [] 10 13 [.val true [.n4 a], .val true [.n4 b]] =
    some (AV.tup [(true, [IV.n4 (ofN (val a + val b))]), (false, [IV.u64 (BitVec.ofNat 64 0)])], [(dg (val a)).length = (dg (val a)).length, (dg (val b)).length = (dg (val b)).length, Sm (val a), Sm (val b), (dg (val a + val b)).length = (dg (val a + val b)).length, 33 = 33, Sm (val a + val b), Sm 115792089237316195423570985008687907853269984665640564039457584007913129639936, decide (val a + val b < 115792089237316195423570985008687907853269984665640564039457584007913129639936) = true, (dg (val a + val b)).length = (dg (val a + val b)).length]) := by kernel_rfl
theorem runRAdd0 (a b : N4) : fnS Try.prog (lookG tblN) (orcA [(2, [(2, false)])]) [] 10 13 [.val true [.n4 a], .val true [.n4 b]] =
    some (AV.tup [(true, [IV.n4 (ofN (val a + val b - 115792089237316195423570985008687907853269984665640564039457584007913129639936))]), (false, [IV.u64 (BitVec.ofNat 64 1)])], [(dg (val a)).length = (dg (val a)).length, (dg (val b)).length = (dg (val b)).length, Sm (val a), Sm (val b), (dg (val a + val b)).length = (dg (val a + val b)).length, 33 = 33, Sm (val a + val b), Sm 115792089237316195423570985008687907853269984665640564039457584007913129639936, decide (val a + val b < 115792089237316195423570985008687907853269984665640564039457584007913129639936) = false, (dg (val a + val b)).length = (dg (val a + val b)).length, 33 = 33, 115792089237316195423570985008687907853269984665640564039457584007913129639936 ≤ val a + val b, Sm (val a + val b), (dg (val a + val b - 115792089237316195423570985008687907853269984665640564039457584007913129639936)).length = (dg (val a + val b - 115792089237316195423570985008687907853269984665640564039457584007913129639936)).length]) := by kernel_rfl
theorem runRSub1 (a b : N4) : fnS Try.prog (lookG tblN) (orcA [(1, [(4, true)])]) [] 10 15 [.val true [.n4 a], .val true [.n4 b]] =
    some (AV.tup [(true, [IV.n4 (ofN (val a + 115792089237316195423570985008687907853269984665640564039457584007913129639936 - val b))]), (false, [IV.u64 (BitVec.ofNat 64 1)])], [(dg (val a)).length = (dg (val a)).length, (dg (val b)).length = (dg (val b)).length, Sm (val a), Sm (val b), decide (val a < val b) = true, (dg (val a)).length = (dg (val a)).length, 33 = 33, Sm (val a), Sm 115792089237316195423570985008687907853269984665640564039457584007913129639936, (dg (val a + 115792089237316195423570985008687907853269984665640564039457584007913129639936)).length = (dg (val a + 115792089237316195423570985008687907853269984665640564039457584007913129639936)).length, (dg (val b)).length = (dg (val b)).length, val b ≤ val a + 115792089237316195423570985008687907853269984665640564039457584007913129639936, Sm (val a + 115792089237316195423570985008687907853269984665640564039457584007913129639936), (dg (val a + 115792089237316195423570985008687907853269984665640564039457584007913129639936 - val b)).length = (dg (val a + 115792089237316195423570985008687907853269984665640564039457584007913129639936 - val b)).length]) := by kernel_rfl
theorem runRSub0 (a b : N4) : fnS Try.prog (lookG tblN) (orcA [(1, [(4, false)])]) [] 10 15 [.val true [.n4 a], .val true [.n4 b]] =
    some (AV.tup [(true, [IV.n4 (ofN (val a - val b))]), (false, [IV.u64 (BitVec.ofNat 64 0)])], [(dg (val a)).length = (dg (val a)).length, (dg (val b)).length = (dg (val b)).length, Sm (val a), Sm (val b), decide (val a < val b) = false, (dg (val a)).length = (dg (val a)).length, (dg (val b)).length = (dg (val b)).length, val b ≤ val a, Sm (val a), (dg (val a - val b)).length = (dg (val a - val b)).length]) := by kernel_rfl

theorem p256_pow : p256 = 256 ^ 32 := rfl
theorem Sm_of (a : Nat) (h : a < 256 ^ 33) : Sm a := Sm_lt h (by omega)
theorem p33 : (256 : Nat) ^ 33 = 256 * p256 := rfl
theorem Sm_val (a : N4) : Sm (val a) := Sm_of _ (by have := val_lt a; rw [p33]; omega)
theorem Sm_p256 : Sm p256 := Sm_of _ (by rw [p33]; decide)
theorem Sm_add (a b : N4) : Sm (val a + val b) := Sm_of _ (by have := val_lt a; have := val_lt b; rw [p33]; omega)
theorem Sm_addp (a : N4) : Sm (val a + p256) := Sm_of _ (by have := val_lt a; rw [p33]; omega)
theorem ctRAdd : CtSOk Try.prog 13 (.fn (sp2 addV)) := FnS_of_fnS gsN fol fun ds r cs h hc => by
  unfold sp2 at h
  split at h
  case h_2 => simp at h
  rename_i a b
  simp only [Option.some.injEq, Prod.mk.injEq] at h
  obtain ⟨rfl, rfl⟩ := h
  have ha := val_lt a
  have hb := val_lt b
  by_cases hlt : val a + val b < p256
  · refine use_run (runRAdd1 a b) ?_ ?_
    · simp only [addV]
      rw [Nat.div_eq_of_lt hlt]
    · exact ⟨rfl, rfl, Sm_val a, Sm_val b, rfl, rfl, Sm_add a b, Sm_p256, decide_eq_true hlt, rfl, trivial⟩
  · refine use_run (runRAdd0 a b) ?_ ?_
    · have e : (val a + val b) / p256 = 1 := by simp only [p256] at *; omega
      have e2 : ofN (val a + val b - p256) = ofN (val a + val b) := by
        have e3 : (val a + val b - p256) % p256 = (val a + val b) % p256 := by simp only [p256] at *; omega
        rw [← ofN_mod (val a + val b), ← e3, ofN_mod]
      simp only [addV]
      rw [e, ← e2]
      rfl
    · exact ⟨rfl, rfl, Sm_val a, Sm_val b, rfl, rfl, Sm_add a b, Sm_p256, decide_eq_false hlt, rfl, rfl, Nat.le_of_not_lt hlt, Sm_add a b, rfl, trivial⟩
theorem ctRSub : CtSOk Try.prog 15 (.fn (sp2 subV)) := FnS_of_fnS gsN fol fun ds r cs h hc => by
  unfold sp2 at h
  split at h
  case h_2 => simp at h
  rename_i a b
  simp only [Option.some.injEq, Prod.mk.injEq] at h
  obtain ⟨rfl, rfl⟩ := h
  have ha := val_lt a
  have hb := val_lt b
  by_cases hlt : val a < val b
  · refine use_run (runRSub1 a b) ?_ ?_
    · simp only [subV, if_pos hlt]
      rfl
    · exact ⟨rfl, rfl, Sm_val a, Sm_val b, decide_eq_true hlt, rfl, rfl, Sm_val a, Sm_p256, rfl, rfl, by simp only [p256] at *; omega, Sm_addp a, rfl, trivial⟩
  · refine use_run (runRSub0 a b) ?_ ?_
    · have e2 : ofN (val a - val b) = ofN (val a + p256 - val b) := by
        have e3 : (val a - val b) % p256 = (val a + p256 - val b) % p256 := by simp only [p256] at *; omega
        rw [← ofN_mod (val a + p256 - val b), ← e3, ofN_mod]
      simp only [subV, if_neg hlt]
      rw [e2]
    · exact ⟨rfl, rfl, Sm_val a, Sm_val b, decide_eq_false hlt, rfl, rfl, Nat.le_of_not_lt hlt, Sm_val a, rfl, trivial⟩
end Go.Proofs.Ytokbhlapbollbaa
