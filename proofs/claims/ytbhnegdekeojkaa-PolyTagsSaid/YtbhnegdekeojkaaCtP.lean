/- Contracts of the document's products and rests. Own work. -/
import Derived.Test.YtbhnegdekeojkaaCtO
import Derived.Test.YtbhnegdekeojkaaSpK
namespace Go.Proofs.Ytbhnegdekeojkaa
open Go.Ev Go.Sp Go.RowKit
set_option maxRecDepth 100000

/-! ### Products -/
def timesTd : List Nat := [0, 1, 5, 6]
def timesTd2 : List Nat := [0, 1, 5, 6, 7, 8]
def timesInv (a b N : Nat) (out : List Int) (i : Int) : St := ⟨slotsOf 61 [(0, sc (.sl 0 0 (dg a).length)), (1, sc (.sl 1 0 (dg b).length)), (5, sc (.sl 2 0 N)), (6, sc (.i64 i))],
  [(0, ⟨false, [.vd a]⟩), (1, ⟨false, [.vd b]⟩), (2, ⟨true, [.vi N out]⟩)], 16⟩
def timesInv2 (a b N : Nat) (out : List Int) (i c k : Int) : St := ⟨slotsOf 61 [(0, sc (.sl 0 0 (dg a).length)), (1, sc (.sl 1 0 (dg b).length)), (5, sc (.sl 2 0 N)), (6, sc (.i64 i)), (7, sc (.i64 c)), (8, sc (.i64 k))],
  [(0, ⟨false, [.vd a]⟩), (1, ⟨false, [.vd b]⟩), (2, ⟨true, [.vi N out]⟩)], 16⟩
theorem timesRoundA (a b N : Nat) (out : List Int) (i c k : Int) : roundS Try.prog (lookG tblN) (orcA [(7, [(3, true)])]) [] 10 timesTd2 (bodyAt Try.prog 22 7) (timesInv2 a b N out i c k) =
    some (Ex.normal, St.mk (slotsOf 61 [(0, sc (IV.sl 0 0 (dg a).length)), (1, sc (IV.sl 1 0 (dg b).length)), (5, sc (IV.sl 2 0 N)), (6, sc (IV.i64 i)), (7, sc (IV.i64 ((out.getD (0 + (i + k).toNat * 1) (0 : Int) + (dg a).getD (0 + i.toNat * 1) (0 : Int) * (↑(dig b k.toNat) : Int) + c).tdiv (256 : Int)))), (8, sc (IV.i64 (k + (1 : Int))))]) [(0, Blk.mk false [IV.vd a]), (1, Blk.mk false [IV.vd b]), (2, Blk.mk true [IV.vi N (out.set (0 + (i + k).toNat * 1) ((out.getD (0 + (i + k).toNat * 1) (0 : Int) + (dg a).getD (0 + i.toNat * 1) (0 : Int) * (↑(dig b k.toNat) : Int) + c).tmod (256 : Int)))])] 16, [decide (k < (↑(dg b).length : Int)) = true, inI64 (i + k), (0 : Int) ≤ i + k, (i + k).toNat < N, 0 + (i + k).toNat * 1 < N, (0 : Int) ≤ i, i.toNat < (dg a).length, 0 + i.toNat * 1 < (dg a).length, (dg b).length = (dg b).length, (0 : Int) ≤ k, inI64 ((dg a).getD (0 + i.toNat * 1) (0 : Int) * (↑(dig b k.toNat) : Int)), inI64 (out.getD (0 + (i + k).toNat * 1) (0 : Int) + (dg a).getD (0 + i.toNat * 1) (0 : Int) * (↑(dig b k.toNat) : Int)), inI64 (out.getD (0 + (i + k).toNat * 1) (0 : Int) + (dg a).getD (0 + i.toNat * 1) (0 : Int) * (↑(dig b k.toNat) : Int) + c), inI64 (i + k), (256 : Int) ≠ (0 : Int), (0 : Int) ≤ i + k, (i + k).toNat < N, 0 + (i + k).toNat * 1 < N, (256 : Int) ≠ (0 : Int), inI64 ((out.getD (0 + (i + k).toNat * 1) (0 : Int) + (dg a).getD (0 + i.toNat * 1) (0 : Int) * (↑(dig b k.toNat) : Int) + c).tdiv (256 : Int)), inI64 (k + (1 : Int))]) := by kernel_rfl
theorem timesRoundB (a b N : Nat) (out : List Int) (i c k : Int) : roundS Try.prog (lookG tblN) (orcA [(7, [(3, false), (6, true)])]) [] 10 timesTd2 (bodyAt Try.prog 22 7) (timesInv2 a b N out i c k) =
    some (Ex.normal, St.mk (slotsOf 61 [(0, sc (IV.sl 0 0 (dg a).length)), (1, sc (IV.sl 1 0 (dg b).length)), (5, sc (IV.sl 2 0 N)), (6, sc (IV.i64 i)), (7, sc (IV.i64 ((out.getD (0 + (i + k).toNat * 1) (0 : Int) + (dg a).getD (0 + i.toNat * 1) (0 : Int) * (↑(dig b k.toNat) : Int) + c).tdiv (256 : Int)))), (8, sc (IV.i64 (k + (1 : Int))))]) [(0, Blk.mk false [IV.vd a]), (1, Blk.mk false [IV.vd b]), (2, Blk.mk true [IV.vi N (out.set (0 + (i + k).toNat * 1) ((out.getD (0 + (i + k).toNat * 1) (0 : Int) + (dg a).getD (0 + i.toNat * 1) (0 : Int) * (↑(dig b k.toNat) : Int) + c).tmod (256 : Int)))])] 16, [decide (k < (↑(dg b).length : Int)) = false, decide ((0 : Int) < c) = true, inI64 (i + k), (0 : Int) ≤ i + k, (i + k).toNat < N, 0 + (i + k).toNat * 1 < N, (0 : Int) ≤ i, i.toNat < (dg a).length, 0 + i.toNat * 1 < (dg a).length, (dg b).length = (dg b).length, (0 : Int) ≤ k, inI64 ((dg a).getD (0 + i.toNat * 1) (0 : Int) * (↑(dig b k.toNat) : Int)), inI64 (out.getD (0 + (i + k).toNat * 1) (0 : Int) + (dg a).getD (0 + i.toNat * 1) (0 : Int) * (↑(dig b k.toNat) : Int)), inI64 (out.getD (0 + (i + k).toNat * 1) (0 : Int) + (dg a).getD (0 + i.toNat * 1) (0 : Int) * (↑(dig b k.toNat) : Int) + c), inI64 (i + k), (256 : Int) ≠ (0 : Int), (0 : Int) ≤ i + k, (i + k).toNat < N, 0 + (i + k).toNat * 1 < N, (256 : Int) ≠ (0 : Int), inI64 ((out.getD (0 + (i + k).toNat * 1) (0 : Int) + (dg a).getD (0 + i.toNat * 1) (0 : Int) * (↑(dig b k.toNat) : Int) + c).tdiv (256 : Int)), inI64 (k + (1 : Int))]) := by kernel_rfl
theorem timesExit2 (a b N : Nat) (out : List Int) (i c k : Int) : roundS Try.prog (lookG tblN) (orcA [(7, [(3, false), (6, false)])]) [] 10 timesTd (bodyAt Try.prog 22 7) (timesInv2 a b N out i c k) =
    some (Ex.exit 2, St.mk (slotsOf 61 [(0, sc (IV.sl 0 0 (dg a).length)), (1, sc (IV.sl 1 0 (dg b).length)), (5, sc (IV.sl 2 0 N)), (6, sc (IV.i64 i))]) [(0, Blk.mk false [IV.vd a]), (1, Blk.mk false [IV.vd b]), (2, Blk.mk true [IV.vi N out])] 16, [decide (k < (↑(dg b).length : Int)) = false, decide ((0 : Int) < c) = false]) := by kernel_rfl
theorem timesRound (a b N : Nat) (out out2 : List Int) (i : Int) : roundS Try.prog (lookG tblN) (orcA [(3, [(3, true)])]) [⟨7, timesTd2, .exit 2, timesInv a b N out2 i⟩] 10 timesTd (bodyAt Try.prog 22 3) (timesInv a b N out i) =
    some (Ex.normal, St.mk (slotsOf 61 [(0, sc (IV.sl 0 0 (dg a).length)), (1, sc (IV.sl 1 0 (dg b).length)), (5, sc (IV.sl 2 0 N)), (6, sc (IV.i64 (i + (1 : Int))))]) [(0, Blk.mk false [IV.vd a]), (1, Blk.mk false [IV.vd b]), (2, Blk.mk true [IV.vi N out2])] 16, [decide (i < (↑(dg a).length : Int)) = true, LoopTo Try.prog (bodyAt Try.prog 22 7) (St.mk (slotsOf 61 [(0, sc (IV.sl 0 0 (dg a).length)), (1, sc (IV.sl 1 0 (dg b).length)), (5, sc (IV.sl 2 0 N)), (6, sc (IV.i64 i)), (7, sc (IV.i64 (0 : Int))), (8, sc (IV.i64 (0 : Int)))]) [(0, Blk.mk false [IV.vd a]), (1, Blk.mk false [IV.vd b]), (2, Blk.mk true [IV.vi N out])] 16) (Ex.exit 2) (St.mk (slotsOf 61 [(0, sc (IV.sl 0 0 (dg a).length)), (1, sc (IV.sl 1 0 (dg b).length)), (5, sc (IV.sl 2 0 N)), (6, sc (IV.i64 i))]) [(0, Blk.mk false [IV.vd a]), (1, Blk.mk false [IV.vd b]), (2, Blk.mk true [IV.vi N out2])] 16), inI64 (i + (1 : Int))]) := by kernel_rfl
theorem timesExit (a b N : Nat) (out : List Int) (i : Int) : roundS Try.prog (lookG tblN) (orcA [(3, [(3, false)])]) [] 10 timesTd (bodyAt Try.prog 22 3) (timesInv a b N out i) =
    some (Ex.exit 0, St.mk (slotsOf 61 [(0, sc (IV.sl 0 0 (dg a).length)), (1, sc (IV.sl 1 0 (dg b).length)), (5, sc (IV.sl 2 0 N)), (6, sc (IV.i64 i))]) [(0, Blk.mk false [IV.vd a]), (1, Blk.mk false [IV.vd b]), (2, Blk.mk true [IV.vi N out])] 16, [decide (i < (↑(dg a).length : Int)) = false]) := by kernel_rfl
theorem runTimes (a b N : Nat) (out : List Int) (i : Int) : fnS Try.prog (lookG tblN) (orcA []) [⟨3, timesTd, .exit 0, timesInv a b N out i⟩] 10 22 [sc (.dN a), sc (.dN b)] =
    some (sc (IV.dI (cutL out 0 (trimFrom out out.length) N)), [inI64 ((↑(dg a).length : Int) + (↑(dg b).length : Int)), inI64 ((↑(dg a).length : Int) + (↑(dg b).length : Int) + (1 : Int)), (0 : Int) ≤ (↑(dg a).length : Int) + (↑(dg b).length : Int) + (1 : Int), (0 : Int) ≤ (↑(dg a).length : Int) + (↑(dg b).length : Int) + (1 : Int), ((↑(dg a).length : Int) + (↑(dg b).length : Int) + (1 : Int)).toNat = ((↑(dg a).length : Int) + (↑(dg b).length : Int) + (1 : Int)).toNat ∧ 8 * ((↑(dg a).length : Int) + (↑(dg b).length : Int) + (1 : Int)).toNat ≤ 281474976710656 ∧ ((↑(dg a).length : Int) + (↑(dg b).length : Int) + (1 : Int)).toNat ≤ 9223372036854775807, LoopTo Try.prog (bodyAt Try.prog 22 3) (St.mk (slotsOf 61 [(0, sc (IV.sl 0 0 (dg a).length)), (1, sc (IV.sl 1 0 (dg b).length)), (5, sc (IV.sl 2 0 ((↑(dg a).length : Int) + (↑(dg b).length : Int) + (1 : Int)).toNat)), (6, sc (IV.i64 (0 : Int)))]) [(0, Blk.mk false [IV.vd a]), (1, Blk.mk false [IV.vd b]), (2, Blk.mk true [IV.vi (List.replicate ((↑(dg a).length : Int) + (↑(dg b).length : Int) + (1 : Int)).toNat (0 : Int)).length (List.replicate ((↑(dg a).length : Int) + (↑(dg b).length : Int) + (1 : Int)).toNat (0 : Int))])] 16) (Ex.exit 0) (St.mk (slotsOf 61 [(0, sc (IV.sl 0 0 (dg a).length)), (1, sc (IV.sl 1 0 (dg b).length)), (5, sc (IV.sl 2 0 N)), (6, sc (IV.i64 i))]) [(0, Blk.mk false [IV.vd a]), (1, Blk.mk false [IV.vd b]), (2, Blk.mk true [IV.vi N out])] 16), N = N, out.length ≤ 1000000000, trimFrom out out.length ≤ N, 0 + trimFrom out out.length ≤ N]) := by kernel_rfl

theorem timesLoop2 (a b N i : Nat) (hi : i < (dg a).length) (hN : N = (dg a).length + (dg b).length + 1) (ha : (dg a).length ≤ 4000000) (hb : (dg b).length ≤ 4000000) (hlt : a % 256 ^ i * b < 256 ^ N) :
    LoopTo Try.prog (bodyAt Try.prog 22 7) (timesInv2 a b N (dl (a % 256 ^ i * b) N) (i : Nat) 0 0) (.exit 2) (timesInv a b N (dl (a % 256 ^ (i + 1) * b) N) (i : Nat)) := by
  have hbl := lt_of_dg b
  refine LoopTo.intro (α := Nat × List Int × Nat) gsN fol (fun s => timesInv2 a b N s.2.1 (i : Nat) (s.2.2 : Nat) (s.1 : Nat)) (fun s => MulOk a b N i s.1 s.2.1 s.2.2 ∧ s.1 ≤ (dg b).length + 1) (fun s => (dg b).length + 2 - s.1) (by simp) ?_ (0, _, 0) ⟨mul_start hlt, by simp⟩
  rintro ⟨k, out, c⟩ ⟨hm, hk⟩
  dsimp only at hm hk ⊢
  obtain ⟨h1, h2, h3, h4⟩ := id hm
  have hx := dig_lt (nv out) (i + k)
  have hy := dig_lt a i
  have hz := dig_lt b k
  have hmul : dig a i * dig b k ≤ 255 * 255 := Nat.mul_le_mul (by omega) (by omega)
  by_cases hlb : k < (dg b).length
  · have r := timesRoundA a b N out (i : Nat) (c : Nat) (k : Nat)
    simp only [← Int.natCast_add, Int.toNat_natCast, Nat.zero_add, Nat.mul_one, getD_dig h2, getD_dig (dg_D a), nv_dg, ← Int.natCast_mul, tmod_cast, tdiv_cast] at r
    refine .inl ⟨_, _, _, _, _, (k + 1, _, _), r, ?_, ⟨mul_step hm (by omega), by simp only; omega⟩, by simp only; omega⟩
    simp only [AllP, inI64, decide_eq_true_eq]
    generalize dig a i * dig b k = y at *
    and_intros <;> first | omega | trivial
  · by_cases hc : 0 < c
    · have hk2 := mul_more hm hbl (by omega) hc
      have r := timesRoundB a b N out (i : Nat) (c : Nat) (k : Nat)
      simp only [← Int.natCast_add, Int.toNat_natCast, Nat.zero_add, Nat.mul_one, getD_dig h2, getD_dig (dg_D a), nv_dg, ← Int.natCast_mul, tmod_cast, tdiv_cast] at r
      refine .inl ⟨_, _, _, _, _, (k + 1, _, _), r, ?_, ⟨mul_step hm (by omega), by simp only; omega⟩, by simp only; omega⟩
      simp only [AllP, inI64, decide_eq_true_eq, decide_eq_false_iff_not]
      generalize dig a i * dig b k = y at *
      and_intros <;> first | omega | trivial
    · have c0 : c = 0 := by omega
      subst c0
      have e := mul_done hm hbl (by omega)
      subst e
      exact .inr ⟨_, _, _, _, _, timesExit2 a b N _ (i : Nat) (0 : Nat) (k : Nat), decide_eq_false (by omega), decide_eq_false (by omega), trivial⟩
theorem times_lt (a b N i : Nat) (hN : N = (dg a).length + (dg b).length + 1) : a % 256 ^ i * b < 256 ^ N := by
  have h1 : a % 256 ^ i < 256 ^ (dg a).length := Nat.lt_of_le_of_lt (Nat.mod_le _ _) (lt_of_dg a)
  have h2 := Nat.mul_lt_mul'' h1 (lt_of_dg b)
  rw [← Nat.pow_add] at h2
  exact Nat.lt_of_lt_of_le h2 (Nat.pow_le_pow_right (by omega) (by omega))
theorem timesLoop (a b N : Nat) (hN : N = (dg a).length + (dg b).length + 1) (ha : (dg a).length ≤ 4000000) (hb : (dg b).length ≤ 4000000) :
    LoopTo Try.prog (bodyAt Try.prog 22 3) (timesInv a b N (List.replicate N 0) 0) (.exit 0) (timesInv a b N (dl (a * b) N) ((dg a).length : Nat)) := by
  have e0 : List.replicate N 0 = dl (a % 256 ^ 0 * b) N := by rw [Nat.pow_zero, Nat.mod_one, Nat.zero_mul, dl_zero]
  have e1 : a * b = a % 256 ^ (dg a).length * b := by rw [Nat.mod_eq_of_lt (lt_of_dg a)]
  rw [e1]
  refine LoopTo.intro (α := Nat × List Int) gsN fol (fun s => timesInv a b N s.2 (s.1 : Nat)) (fun s => s.1 ≤ (dg a).length ∧ s.2 = dl (a % 256 ^ s.1 * b) N) (fun s => (dg a).length - s.1) (by simp) ?_ (0, _) ⟨by simp, e0⟩
  rintro ⟨i, out⟩ ⟨hi, ho⟩
  dsimp only at hi ho ⊢
  subst ho
  by_cases he : i = (dg a).length
  · subst he
    exact .inr ⟨_, _, _, _, _, timesExit a b N _ _, by rw [decide_eq_false_iff_not]; omega, trivial⟩
  · refine .inl ⟨_, _, _, _, _, (i + 1, _), timesRound a b N _ (dl (a % 256 ^ (i + 1) * b) N) _, ⟨decide_eq_true (by omega), timesLoop2 a b N i (by omega) hN ha hb (times_lt a b N i hN), ⟨by omega, by omega⟩, trivial⟩, ⟨by simp only; omega, rfl⟩, by simp only; omega⟩
def spTimes : List AV → Option (AV × List Prop)
  | [.val false [.dN a], .val false [.dN b]] => some (sc (.dI (dg (a * b))), [Sm a, Sm b])
  | _ => none
theorem ctTimes : CtSOk Try.prog 22 (.fn spTimes) := FnS_of_fnS gsN fol fun ds r cs h hc => by
  unfold spTimes at h
  split at h
  case h_2 => simp at h
  rename_i a b
  simp only [Option.some.injEq, Prod.mk.injEq] at h
  obtain ⟨rfl, rfl⟩ := h
  obtain ⟨ha, hb, _⟩ := hc
  unfold Sm at ha hb
  obtain ⟨N, hN⟩ : ∃ N, N = (dg a).length + (dg b).length + 1 := ⟨_, rfl⟩
  have eN : ((dg a).length : Int) + ((dg b).length : Int) + 1 = (N : Int) := by omega
  obtain ⟨h1, h2, h3⟩ := dl_ok (a * b) N
  have hlt : a * b < 256 ^ N := by
    have := times_lt a b N (dg a).length hN
    rwa [Nat.mod_eq_of_lt (lt_of_dg a)] at this
  rw [Nat.mod_eq_of_lt hlt] at h3
  have t := trimFrom_le (dl (a * b) N) (dl (a * b) N).length
  have r := runTimes a b N (dl (a * b) N) ((dg a).length : Nat)
  simp only [eN, Int.toNat_natCast, List.length_replicate] at r
  refine use_run r ?_ ?_
  · have e := trim_dg h2
    rw [h3, h1] at e
    rw [h1, e]
  · simp only [AllP, inI64]
    and_intros <;> first | exact timesLoop a b N hN ha hb | omega | trivial
def spNTimes : List AV → Option (AV × List Prop)
  | [.val false [.dN a], .val false [.dN b]] => some (sc (.dN (a * b)), [Sm a, Sm b])
  | _ => none
theorem nTimes : CtSOk Try.prog 22 (.fn spNTimes) := FnS_intro fun ds r cs h hc w vals hv => by
  unfold spNTimes at h
  split at h
  case h_2 => simp at h
  rename_i a b
  simp only [Option.some.injEq, Prod.mk.injEq] at h
  obtain ⟨rfl, rfl⟩ := h
  refine (FnS_use ctTimes (ds := [sc (.dN a), sc (.dN b)]) rfl hc w vals hv).mono ?_
  rintro e w' ⟨v, q1, q2, q3⟩
  exact ⟨v, q1, q2, ResOk_ex q3⟩

/-! ### What is left -/
def tblL : List (FuncId × CtS) := [(28, .pre preTrim), (30, .fn (orD spNLess)), (31, .fn (fun ds => spMinus (ds.map exA)))]
theorem gsL : GSound Try.prog (upG (lookG tblL)) := GSound_of_tbl ⟨⟨ctTrim, by kernel_rfl⟩, ⟨FnS_orD nLess, by kernel_rfl⟩, ⟨FnS_exA ctMinus, by kernel_rfl⟩, trivial⟩
def leftTd : List Nat := [0, 1, 5, 6]
def leftInv (a m : Nat) (l : List Int) (n : Nat) (i : Int) : St := ⟨slotsOf 30 [(0, sc (.sl 0 0 (dg a).length)), (1, sc (.sl 1 0 (dg m).length)), (5, sc (.sl 2 0 n)), (6, sc (.i64 i))],
  [(0, ⟨false, [.vd a]⟩), (1, ⟨false, [.vd m]⟩), (2, ⟨true, [.vi l.length l]⟩)], 16⟩
theorem leftRound2 (a m : Nat) (l : List Int) (n : Nat) (i : Int) : roundS Try.prog (lookG tblL) (orcP [(6, [(2, false)])] [(6, [2]), (7, [2])]) [] 10 leftTd (bodyAt Try.prog 21 6) (leftInv a m l n i) =
    some (Ex.normal, St.mk (slotsOf 30 [(0, sc (IV.sl 0 0 (dg a).length)), (1, sc (IV.sl 1 0 (dg m).length)), (5, sc (IV.sl 2 0 (dg (nv (cutL l 0 n l.length) - nv (dg m))).length)), (6, sc (IV.i64 i))]) [(0, Blk.mk false [IV.vd a]), (1, Blk.mk false [IV.vd m]), (2, Blk.mk true [IV.vi (dg (nv (cutL l 0 n l.length) - nv (dg m))).length (dg (nv (cutL l 0 n l.length) - nv (dg m)))])] 16, [0 + n ≤ l.length, (dg m).length = (dg m).length, Sm (nv (cutL l 0 n l.length)), Sm m, cutL l 0 n l.length = dg (nv (cutL l 0 n l.length)), decide (nv (cutL l 0 n l.length) < m) = false, 0 + n ≤ l.length, (dg m).length = (dg m).length, IsD (cutL l 0 n l.length), IsD (dg m), nv (dg m) ≤ nv (cutL l 0 n l.length), (cutL l 0 n l.length).length ≤ 4000000]) := by kernel_rfl
theorem leftExit2 (a m : Nat) (l : List Int) (n : Nat) (i : Int) : roundS Try.prog (lookG tblL) (orcP [(6, [(2, true)])] [(6, [2])]) [] 10 leftTd (bodyAt Try.prog 21 6) (leftInv a m l n i) =
    some (Ex.exit 2, St.mk (slotsOf 30 [(0, sc (IV.sl 0 0 (dg a).length)), (1, sc (IV.sl 1 0 (dg m).length)), (5, sc (IV.sl 2 0 n)), (6, sc (IV.i64 i))]) [(0, Blk.mk false [IV.vd a]), (1, Blk.mk false [IV.vd m]), (2, Blk.mk true [IV.vi l.length l])] 16, [0 + n ≤ l.length, (dg m).length = (dg m).length, Sm (nv (cutL l 0 n l.length)), Sm m, cutL l 0 n l.length = dg (nv (cutL l 0 n l.length)), decide (nv (cutL l 0 n l.length) < m) = true]) := by kernel_rfl
theorem leftRound (a m : Nat) (l : List Int) (n : Nat) (i : Int) (l2 : List Int) (n2 : Nat) : roundS Try.prog (lookG tblL) (orcP [(3, [(1, true)])] [(5, [6])]) [⟨6, leftTd, .exit 2, leftInv a m l2 n2 i⟩] 10 leftTd (bodyAt Try.prog 21 3) (leftInv a m l n i) =
    some (Ex.normal, St.mk (slotsOf 30 [(0, sc (IV.sl 0 0 (dg a).length)), (1, sc (IV.sl 1 0 (dg m).length)), (5, sc (IV.sl 2 0 n2)), (6, sc (IV.i64 (i - (1 : Int))))]) [(0, Blk.mk false [IV.vd a]), (1, Blk.mk false [IV.vd m]), (2, Blk.mk true [IV.vi l2.length l2])] 16, [decide ((0 : Int) ≤ i) = true, (0 : Int) ≤ i, i.toNat < (dg a).length, 0 + i.toNat * 1 < (dg a).length, 0 + n ≤ l.length, 1 ≤ 1, (1 + n) * 8 ≤ 140737488355328 ∧ 1 + n ≤ 9223372036854775807, 1 + n = (cutL ((List.replicate 1 (0 : Int)).set 0 ((dg a).getD (0 + i.toNat * 1) (0 : Int))) 0 1 1 ++ cutL l 0 n l.length).length, (cutL ((List.replicate 1 (0 : Int)).set 0 ((dg a).getD (0 + i.toNat * 1) (0 : Int))) 0 1 1 ++ cutL l 0 n l.length).length ≤ 1000000000, trimFrom (cutL ((List.replicate 1 (0 : Int)).set 0 ((dg a).getD (0 + i.toNat * 1) (0 : Int))) 0 1 1 ++ cutL l 0 n l.length) (cutL ((List.replicate 1 (0 : Int)).set 0 ((dg a).getD (0 + i.toNat * 1) (0 : Int))) 0 1 1 ++ cutL l 0 n l.length).length ≤ 1 + n, LoopTo Try.prog (bodyAt Try.prog 21 6) (St.mk (slotsOf 30 [(0, sc (IV.sl 0 0 (dg a).length)), (1, sc (IV.sl 1 0 (dg m).length)), (5, sc (IV.sl 2 0 (trimFrom (cutL ((List.replicate 1 (0 : Int)).set 0 ((dg a).getD (0 + i.toNat * 1) (0 : Int))) 0 1 1 ++ cutL l 0 n l.length) (cutL ((List.replicate 1 (0 : Int)).set 0 ((dg a).getD (0 + i.toNat * 1) (0 : Int))) 0 1 1 ++ cutL l 0 n l.length).length))), (6, sc (IV.i64 i))]) [(0, Blk.mk false [IV.vd a]), (1, Blk.mk false [IV.vd m]), (2, Blk.mk true [IV.vi (cutL ((List.replicate 1 (0 : Int)).set 0 ((dg a).getD (0 + i.toNat * 1) (0 : Int))) 0 1 1 ++ cutL l 0 n l.length).length (cutL ((List.replicate 1 (0 : Int)).set 0 ((dg a).getD (0 + i.toNat * 1) (0 : Int))) 0 1 1 ++ cutL l 0 n l.length)])] 16) (Ex.exit 2) (St.mk (slotsOf 30 [(0, sc (IV.sl 0 0 (dg a).length)), (1, sc (IV.sl 1 0 (dg m).length)), (5, sc (IV.sl 2 0 n2)), (6, sc (IV.i64 i))]) [(0, Blk.mk false [IV.vd a]), (1, Blk.mk false [IV.vd m]), (2, Blk.mk true [IV.vi l2.length l2])] 16), inI64 (i - (1 : Int))]) := by kernel_rfl
theorem leftExit (a m : Nat) (l : List Int) (n : Nat) (i : Int) : roundS Try.prog (lookG tblL) (orcA [(3, [(1, false)])]) [] 10 leftTd (bodyAt Try.prog 21 3) (leftInv a m l n i) =
    some (Ex.exit 0, St.mk (slotsOf 30 [(0, sc (IV.sl 0 0 (dg a).length)), (1, sc (IV.sl 1 0 (dg m).length)), (5, sc (IV.sl 2 0 n)), (6, sc (IV.i64 i))]) [(0, Blk.mk false [IV.vd a]), (1, Blk.mk false [IV.vd m]), (2, Blk.mk true [IV.vi l.length l])] 16, [decide ((0 : Int) ≤ i) = false]) := by kernel_rfl
theorem runLeft (a m : Nat) (l : List Int) (n : Nat) (i : Int) : fnS Try.prog (lookG tblL) (orcA []) [⟨3, leftTd, .exit 0, leftInv a m l n i⟩] 10 21 [sc (.dN a), sc (.dN m)] =
    some (sc (IV.dI (cutL l 0 n l.length)), [inI64 ((↑(dg a).length : Int) - (1 : Int)), LoopTo Try.prog (bodyAt Try.prog 21 3) (St.mk (slotsOf 30 [(0, sc (IV.sl 0 0 (dg a).length)), (1, sc (IV.sl 1 0 (dg m).length)), (5, sc (IV.sl 2 0 0)), (6, sc (IV.i64 ((↑(dg a).length : Int) - (1 : Int))))]) [(0, Blk.mk false [IV.vd a]), (1, Blk.mk false [IV.vd m]), (2, Blk.mk true [IV.vi 0 []])] 16) (Ex.exit 0) (St.mk (slotsOf 30 [(0, sc (IV.sl 0 0 (dg a).length)), (1, sc (IV.sl 1 0 (dg m).length)), (5, sc (IV.sl 2 0 n)), (6, sc (IV.i64 i))]) [(0, Blk.mk false [IV.vd a]), (1, Blk.mk false [IV.vd m]), (2, Blk.mk true [IV.vi l.length l])] 16), 0 + n ≤ l.length]) := by kernel_rfl
/-- What the inner loop comes to. -/
def lTgt (m : Nat) (l : List Int) (n : Nat) : List Int × Nat := if nv (cutL l 0 n l.length) < m then (l, n) else (dg (nv (cutL l 0 n l.length) % m), (dg (nv (cutL l 0 n l.length) % m)).length)
theorem leftLoop2 (a m : Nat) (hm : 0 < m) (sm : Sm m) (i : Int) (l : List Int) (n w : Nat) (hn : n ≤ l.length) (hl : cutL l 0 n l.length = dg w) (sw : Sm w) :
    LoopTo Try.prog (bodyAt Try.prog 21 6) (leftInv a m l n i) (.exit 2) (leftInv a m (lTgt m l n).1 (lTgt m l n).2 i) := by
  have hw : nv (cutL l 0 n l.length) = w := by rw [hl, nv_dg]
  refine LoopTo.intro (α := Nat × List Int × Nat) gsL fol (fun s => leftInv a m s.2.1 s.2.2 i) (fun s => s.1 ≤ w ∧ s.2.2 ≤ s.2.1.length ∧ cutL s.2.1 0 s.2.2 s.2.1.length = dg s.1 ∧ s.1 % m = w % m ∧ (s.1 < m → (s.2.1, s.2.2) = lTgt m l n)) (fun s => s.1) (by simp) ?_ (w, l, n)
    ⟨Nat.le_refl _, hn, hl, rfl, fun h => by unfold lTgt; rw [hw, if_pos h]⟩
  rintro ⟨u, l', n'⟩ ⟨h0, h1, h2, h3, h4⟩
  dsimp only at h0 h1 h2 h3 h4 ⊢
  have hu : nv (cutL l' 0 n' l'.length) = u := by rw [h2, nv_dg]
  have su : Sm u := by
    by_cases hu0 : u = 0
    · subst hu0; unfold Sm; rw [dg_zero]; simp
    · exact Sm_lt (k := (dg w).length) (Nat.lt_of_le_of_lt h0 (lt_of_dg w)) sw
  by_cases hlt : u < m
  · right
    have e := h4 hlt
    rw [← e]
    refine ⟨_, _, _, _, _, leftExit2 a m l' n' i, ?_⟩
    rw [hu]
    exact ⟨by omega, rfl, su, sm, h2, decide_eq_true hlt, trivial⟩
  · left
    have hmod : (u - m) % m = w % m := by rw [← h3]; exact (Nat.mod_eq_sub_mod (Nat.le_of_not_lt hlt)).symm
    have r := leftRound2 a m l' n' i
    rw [hu, nv_dg] at r
    refine ⟨_, _, _, _, _, (u - m, dg (u - m), (dg (u - m)).length), r, ⟨by omega, rfl, su, sm, h2, decide_eq_false hlt, by omega, rfl, by rw [h2]; exact dg_D _, dg_D _, Nat.le_of_not_lt hlt, by rw [h2]; exact su, trivial⟩, ⟨by simp only; omega, Nat.le_refl _, cutL_all _, hmod, fun h => ?_⟩, by simp only; omega⟩
    have e : w % m = u - m := by rw [← hmod]; exact Nat.mod_eq_of_lt h
    have hwm : ¬ w < m := fun h' => by have : w % m = w := Nat.mod_eq_of_lt h'; omega
    unfold lTgt
    rw [hw, if_neg hwm, e]
theorem lTgt_ok {m : Nat} {l : List Int} {n w : Nat} (hn : n ≤ l.length) (hl : cutL l 0 n l.length = dg w) : (lTgt m l n).2 ≤ (lTgt m l n).1.length ∧ cutL (lTgt m l n).1 0 (lTgt m l n).2 (lTgt m l n).1.length = dg (w % m) := by
  have hw : nv (cutL l 0 n l.length) = w := by rw [hl, nv_dg]
  unfold lTgt
  rw [hw]
  by_cases h : w < m
  · rw [if_pos h, Nat.mod_eq_of_lt h]
    exact ⟨hn, hl⟩
  · rw [if_neg h]
    exact ⟨Nat.le_refl _, cutL_all _⟩
/-- The state behind so many digits, from the highest. -/
def lSt (a m : Nat) : Nat → List Int × Nat
  | 0 => ([], 0)
  | j + 1 =>
    let l := ((dig a ((dg a).length - 1 - j) : Nat) : Int) :: cutL (lSt a m j).1 0 (lSt a m j).2 (lSt a m j).1.length
    lTgt m l (trimFrom l l.length)
theorem cons_trim (x w : Nat) (hx : x < 256) : cutL (((x : Nat) : Int) :: dg w) 0 (trimFrom (((x : Nat) : Int) :: dg w) (((x : Nat) : Int) :: dg w).length) (((x : Nat) : Int) :: dg w).length = dg (x + 256 * w) := by
  rw [trim_dg (IsD_cons (by omega) (dg_D w))]
  simp [nv, nv_dg]
theorem lSt_ok (a m : Nat) : ∀ j, j ≤ (dg a).length → (lSt a m j).2 ≤ (lSt a m j).1.length ∧ cutL (lSt a m j).1 0 (lSt a m j).2 (lSt a m j).1.length = dg (a / 256 ^ ((dg a).length - j) % m) := by
  intro j
  induction j with
  | zero =>
    intro _
    have : a / 256 ^ (dg a).length = 0 := Nat.div_eq_of_lt (lt_of_dg a)
    simp only [lSt, Nat.sub_zero, this, Nat.zero_mod, dg_zero]
    exact ⟨Nat.le_refl _, rfl⟩
  | succ j ih =>
    intro hj
    obtain ⟨h1, h2⟩ := ih (by omega)
    have hx := dig_lt a ((dg a).length - 1 - j)
    obtain ⟨k, hk⟩ : ∃ k, (dg a).length - 1 - j = k := ⟨_, rfl⟩
    have hk1 : (dg a).length - j = k + 1 := by omega
    have hk2 : (dg a).length - (j + 1) = k := by omega
    rw [hk1] at h2
    simp only [lSt, hk] at hx ⊢
    rw [h2, hk2]
    have := lTgt_ok (m := m) (trimFrom_le _ _) (cons_trim (dig a k) (a / 256 ^ (k + 1) % m) hx)
    rw [left_next] at this
    exact this
theorem leftLoop (a m : Nat) (hm : 0 < m) (sa : Sm a) (sm : Sm m) (sm2 : (dg m).length ≤ 3999990) :
    LoopTo Try.prog (bodyAt Try.prog 21 3) (leftInv a m [] 0 (((dg a).length : Int) - 1)) (.exit 0) (leftInv a m (lSt a m (dg a).length).1 (lSt a m (dg a).length).2 (-1)) := by
  refine LoopTo.intro (α := Nat × Int × List Int × Nat) gsL fol (fun s => leftInv a m s.2.2.1 s.2.2.2 s.2.1) (fun s => s.1 ≤ (dg a).length ∧ s.2.1 = ((dg a).length : Int) - 1 - s.1 ∧ (s.2.2.1, s.2.2.2) = lSt a m s.1) (fun s => (dg a).length - s.1) (by simp) ?_ (0, _, [], 0) ⟨by simp, by simp, rfl⟩
  rintro ⟨j, i, l, n⟩ ⟨hj, hi, hs⟩
  dsimp only at hj hi hs ⊢
  obtain ⟨h1, h2⟩ := lSt_ok a m j hj
  rw [← hs] at h1 h2
  dsimp only at h1 h2
  have sa' : (dg a).length ≤ 4000000 := sa
  by_cases he : j = (dg a).length
  · subst he
    have hi' : i = -1 := by omega
    subst hi'
    rw [← hs]
    exact .inr ⟨_, _, _, _, _, leftExit a m _ _ _, by simp, trivial⟩
  · obtain ⟨k, hk⟩ : ∃ k : Nat, (dg a).length - 1 - j = k := ⟨_, rfl⟩
    have hik : i = (k : Int) := by omega
    subst hik
    have hx := dig_lt a k
    have hw : Sm (dig a k + 256 * (a / 256 ^ ((dg a).length - j) % m)) := by
      have q1 : a / 256 ^ ((dg a).length - j) % m < m := Nat.mod_lt _ hm
      have q2 := lt_of_dg m
      refine Sm_lt (k := (dg m).length + 1) ?_ (by omega)
      rw [Nat.pow_succ]
      omega
    have hlen : (dg (a / 256 ^ ((dg a).length - j) % m)).length ≤ 3999990 := by
      refine Nat.le_trans (dg_length_le ?_) sm2
      exact Nat.lt_of_lt_of_le (Nat.mod_lt _ hm) (Nat.le_of_lt (lt_of_dg m))
    have hn : n = (dg (a / 256 ^ ((dg a).length - j) % m)).length := by
      rw [← h2]
      unfold cutL
      split
      · rename_i q; exact q.2
      · simp; omega
    have r := leftRound a m l n (k : Nat) (lSt a m (j + 1)).1 (lSt a m (j + 1)).2
    have e1 : ∀ x : Int, cutL [x] 0 1 1 = [x] := fun x => rfl
    simp only [one_set, e1, Int.toNat_natCast, Nat.zero_add, Nat.mul_one, getD_dig (dg_D a), nv_dg, h2, List.cons_append, List.nil_append, List.length_cons] at r
    have hS : lSt a m (j + 1) = lTgt m (((dig a k : Nat) : Int) :: dg (a / 256 ^ ((dg a).length - j) % m)) (trimFrom (((dig a k : Nat) : Int) :: dg (a / 256 ^ ((dg a).length - j) % m)) ((dg (a / 256 ^ ((dg a).length - j) % m)).length + 1)) := by
      simp only [lSt, hk, ← hs, h2, List.length_cons]
    have hT := trimFrom_le (((dig a k : Nat) : Int) :: dg (a / 256 ^ ((dg a).length - j) % m)) ((dg (a / 256 ^ ((dg a).length - j) % m)).length + 1)
    have hL := leftLoop2 a m hm sm (k : Nat) (((dig a k : Nat) : Int) :: dg (a / 256 ^ ((dg a).length - j) % m)) (trimFrom (((dig a k : Nat) : Int) :: dg (a / 256 ^ ((dg a).length - j) % m)) ((dg (a / 256 ^ ((dg a).length - j) % m)).length + 1)) _ (by simpa using hT) (cons_trim _ _ hx) hw
    rw [← hS] at hL
    refine .inl ⟨_, _, _, _, _, (j + 1, _, (lSt a m (j + 1)).1, (lSt a m (j + 1)).2), r, ?_, ⟨by simp only; omega, by simp only; omega, rfl⟩, by simp only; omega⟩
    simp only [AllP, inI64, decide_eq_true_eq]
    and_intros <;> first | exact hL | omega | trivial
def spNLeft : List AV → Option (AV × List Prop)
  | [.val false [.dN a], .val false [.dN m]] => some (sc (.dN (a % m)), [0 < m, Sm a, Sm m, (dg m).length ≤ 3999990])
  | _ => none
theorem nLeft : CtSOk Try.prog 21 (.fn spNLeft) := FnS_intro fun ds r cs h hc w vals hv => by
  unfold spNLeft at h
  split at h
  case h_2 => simp at h
  rename_i a m
  simp only [Option.some.injEq, Prod.mk.injEq] at h
  obtain ⟨rfl, rfl⟩ := h
  obtain ⟨hm, sa, sm, sm2, _⟩ := hc
  obtain ⟨h1, h2⟩ := lSt_ok a m (dg a).length (Nat.le_refl _)
  rw [Nat.sub_self, Nat.pow_zero, Nat.div_one] at h2
  have sa' : (dg a).length ≤ 4000000 := sa
  have r := runLeft a m (lSt a m (dg a).length).1 (lSt a m (dg a).length).2 (-1)
  rw [h2] at r
  refine (calls_of_fnS gsL fol r ⟨⟨by omega, by omega⟩, leftLoop a m hm sa sm sm2, by omega, trivial⟩ w vals hv).mono ?_
  rintro e w' ⟨v, q1, q2, q3⟩
  exact ⟨v, q1, q2, ResOk_ex q3⟩
def tblM : List (FuncId × CtS) := [(29, .fn spNAt), (20, .fn (orD spNSum)), (31, .fn (orD spNMinus)), (30, .fn (orD spNLess)), (19, .fn spNRead), (24, .fn (orD spNTold)), (28, .pre preTrim), (22, .fn (orD spNTimes)), (21, .fn (orD spNLeft))]
theorem okM : TblOk Try.prog tblM := ⟨⟨nAt, by kernel_rfl⟩, ⟨FnS_orD nSum, by kernel_rfl⟩, ⟨FnS_orD nMinus, by kernel_rfl⟩, ⟨FnS_orD nLess, by kernel_rfl⟩, ⟨nRead, by kernel_rfl⟩, ⟨FnS_orD nTold, by kernel_rfl⟩, ⟨ctTrim, by kernel_rfl⟩, ⟨FnS_orD nTimes, by kernel_rfl⟩, ⟨FnS_orD nLeft, by kernel_rfl⟩, trivial⟩
theorem gsM : GSound Try.prog (upG (lookG tblM)) := GSound_of_tbl okM
end Go.Proofs.Ytbhnegdekeojkaa
