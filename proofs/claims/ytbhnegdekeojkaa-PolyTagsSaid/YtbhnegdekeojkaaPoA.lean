/- Contracts of layer 11: the program's numbers modulo 2^130 - 5. Own work. -/
import Derived.Test.YtbhnegdekeojkaaCtP
import Derived.Test.YtbhnegdekeojkaaCtB
namespace Go.Proofs.Ytbhnegdekeojkaa
open Go.Ev Go.Sp Go.RowKit
set_option maxRecDepth 100000
def tblT : List (FuncId × CtS) := [(14, .fn (sp2 addV)), (16, .fn (sp2 subV)), (25, .fn spMul), (17, .fn spPick), (13, .fn spFrom), (18, .fn spBytes)]
theorem okT : TblOk Try.prog tblT := ⟨⟨ctAdd, by kernel_rfl⟩, ⟨ctSub, by kernel_rfl⟩, ⟨ctMul, by kernel_rfl⟩, ⟨ctPick, by kernel_rfl⟩, ⟨ctFrom, by kernel_rfl⟩, ⟨ctBytes, by kernel_rfl⟩, trivial⟩
theorem gsT : GSound Try.prog (upG (lookG tblT)) := GSound_of_tbl okT
def P130 : Nat := 1361129467683753853853498429727072845824
def lowN (a : N4) : N4 := ⟨a.get 0, a.get 1, a.get 2 &&& 3#64, 0#64⟩
def highN (a b : N4) : N4 := ⟨a.get 2 >>> 2 ||| a.get 3 <<< 62, a.get 3 >>> 2 ||| b.get 0 <<< 62, b.get 0 >>> 2, 0#64⟩
theorem runLow (a b : N4) : fnS Try.prog (lookG tblT) orc0 [] 10 27 [.val true [.n4 a, .n4 b]] =
    some (AV.val true [IV.n4 (N4.mk (a.get 0) (a.get 1) (a.get 2 &&& BitVec.ofNat 64 3) (BitVec.ofNat 64 0))], []) := by kernel_rfl
theorem runHigh (a b : N4) : fnS Try.prog (lookG tblT) orc0 [] 10 26 [.val true [.n4 a, .n4 b]] =
    some (AV.val true [IV.n4 (N4.mk (a.get 2 >>> 2 ||| a.get 3 <<< 62) (a.get 3 >>> 2 ||| b.get (4 - 4) <<< 62) (b.get (4 - 4) >>> 2) (BitVec.ofNat 64 0))], []) := by kernel_rfl
def spLow : List AV → Option (AV × List Prop)
  | [.val true [.n4 a, .n4 _]] => some (.val true [.n4 (lowN a)], [])
  | _ => none
def spHigh : List AV → Option (AV × List Prop)
  | [.val true [.n4 a, .n4 b]] => some (.val true [.n4 (highN a b)], [])
  | _ => none
theorem ctLow : CtSOk Try.prog 27 (.fn spLow) := FnS_of_fnS gsT fol fun ds r cs h hc => by
  unfold spLow at h
  split at h
  case h_2 => simp at h
  rename_i a b
  simp only [Option.some.injEq, Prod.mk.injEq] at h
  obtain ⟨rfl, rfl⟩ := h
  exact use_run (runLow a b) rfl trivial
theorem ctHigh : CtSOk Try.prog 26 (.fn spHigh) := FnS_of_fnS gsT fol fun ds r cs h hc => by
  unfold spHigh at h
  split at h
  case h_2 => simp at h
  rename_i a b
  simp only [Option.some.injEq, Prod.mk.injEq] at h
  obtain ⟨rfl, rfl⟩ := h
  exact use_run (runHigh a b) rfl trivial
theorem list16 {α : Type} {l : List α} (h : l.length = 16) : ∃ x0 x1 x2 x3 x4 x5 x6 x7 x8 x9 x10 x11 x12 x13 x14 x15, l = [x0, x1, x2, x3, x4, x5, x6, x7, x8, x9, x10, x11, x12, x13, x14, x15] := by
  match l, h with
  | [x0, x1, x2, x3, x4, x5, x6, x7, x8, x9, x10, x11, x12, x13, x14, x15], _ => exact ⟨_, _, _, _, _, _, _, _, _, _, _, _, _, _, _, _, rfl⟩
theorem runCut (x0 x1 x2 x3 x4 x5 x6 x7 x8 x9 x10 x11 x12 x13 x14 x15 : BitVec 8) : fnS Try.prog (lookG tblT) (orcA [(1, [(2, false)])]) [] 30 8 [sc (.d8 [x0, x1, x2, x3, x4, x5, x6, x7, x8, x9, x10, x11, x12, x13, x14, x15])] =
    some (AV.tup [(false, [IV.d8 (cutL (((((((((((((((((List.replicate 16 (BitVec.ofNat 8 0)).set 0 (x0 &&& BitVec.ofNat 8 255)).set 1 (x1 &&& BitVec.ofNat 8 255)).set 2 (x2 &&& BitVec.ofNat 8 255)).set 3 (x3 &&& BitVec.ofNat 8 15)).set 4 (x4 &&& BitVec.ofNat 8 252)).set 5 (x5 &&& BitVec.ofNat 8 255)).set 6 (x6 &&& BitVec.ofNat 8 255)).set 7 (x7 &&& BitVec.ofNat 8 15)).set 8 (x8 &&& BitVec.ofNat 8 252)).set 9 (x9 &&& BitVec.ofNat 8 255)).set 10 (x10 &&& BitVec.ofNat 8 255)).set 11 (x11 &&& BitVec.ofNat 8 15)).set 12 (x12 &&& BitVec.ofNat 8 252)).set 13 (x13 &&& BitVec.ofNat 8 255)).set 14 (x14 &&& BitVec.ofNat 8 255)).set 15 (x15 &&& BitVec.ofNat 8 15)) 0 16 16)]), (false, [IV.i64 (0 : Int)])], [(!(↑[x0, x1, x2, x3, x4, x5, x6, x7, x8, x9, x10, x11, x12, x13, x14, x15].length : Int) == (16 : Int)) = false, (0 : Int) ≤ (16 : Int), (0 : Int) ≤ (16 : Int), 16 = 16 ∧ 16 ≤ 281474976710656 ∧ 16 ≤ 9223372036854775807, (0 : Int) ≤ (0 : Int), 0 < [x0, x1, x2, x3, x4, x5, x6, x7, x8, x9, x10, x11, x12, x13, x14, x15].length, 0 < [x0, x1, x2, x3, x4, x5, x6, x7, x8, x9, x10, x11, x12, x13, x14, x15].length, (0 : Int) ≤ (0 : Int), 0 < 16, 0 < 16, (0 : Int) ≤ (0 : Int), 0 < 16, 0 < 16, inI64 (1 : Int), (0 : Int) ≤ (1 : Int), 1 < [x0, x1, x2, x3, x4, x5, x6, x7, x8, x9, x10, x11, x12, x13, x14, x15].length, 1 < [x0, x1, x2, x3, x4, x5, x6, x7, x8, x9, x10, x11, x12, x13, x14, x15].length, (0 : Int) ≤ (1 : Int), 1 < 16, 1 < 16, (0 : Int) ≤ (1 : Int), 1 < 16, 1 < 16, inI64 (2 : Int), (0 : Int) ≤ (2 : Int), 2 < [x0, x1, x2, x3, x4, x5, x6, x7, x8, x9, x10, x11, x12, x13, x14, x15].length, 2 < [x0, x1, x2, x3, x4, x5, x6, x7, x8, x9, x10, x11, x12, x13, x14, x15].length, (0 : Int) ≤ (2 : Int), 2 < 16, 2 < 16, (0 : Int) ≤ (2 : Int), 2 < 16, 2 < 16, inI64 (3 : Int), (0 : Int) ≤ (3 : Int), 3 < [x0, x1, x2, x3, x4, x5, x6, x7, x8, x9, x10, x11, x12, x13, x14, x15].length, 3 < [x0, x1, x2, x3, x4, x5, x6, x7, x8, x9, x10, x11, x12, x13, x14, x15].length, (0 : Int) ≤ (3 : Int), 3 < 16, 3 < 16, (0 : Int) ≤ (3 : Int), 3 < 16, 3 < 16, inI64 (4 : Int), (0 : Int) ≤ (4 : Int), 4 < [x0, x1, x2, x3, x4, x5, x6, x7, x8, x9, x10, x11, x12, x13, x14, x15].length, 4 < [x0, x1, x2, x3, x4, x5, x6, x7, x8, x9, x10, x11, x12, x13, x14, x15].length, (0 : Int) ≤ (4 : Int), 4 < 16, 4 < 16, (0 : Int) ≤ (4 : Int), 4 < 16, 4 < 16, inI64 (5 : Int), (0 : Int) ≤ (5 : Int), 5 < [x0, x1, x2, x3, x4, x5, x6, x7, x8, x9, x10, x11, x12, x13, x14, x15].length, 5 < [x0, x1, x2, x3, x4, x5, x6, x7, x8, x9, x10, x11, x12, x13, x14, x15].length, (0 : Int) ≤ (5 : Int), 5 < 16, 5 < 16, (0 : Int) ≤ (5 : Int), 5 < 16, 5 < 16, inI64 (6 : Int), (0 : Int) ≤ (6 : Int), 6 < [x0, x1, x2, x3, x4, x5, x6, x7, x8, x9, x10, x11, x12, x13, x14, x15].length, 6 < [x0, x1, x2, x3, x4, x5, x6, x7, x8, x9, x10, x11, x12, x13, x14, x15].length, (0 : Int) ≤ (6 : Int), 6 < 16, 6 < 16, (0 : Int) ≤ (6 : Int), 6 < 16, 6 < 16, inI64 (7 : Int), (0 : Int) ≤ (7 : Int), 7 < [x0, x1, x2, x3, x4, x5, x6, x7, x8, x9, x10, x11, x12, x13, x14, x15].length, 7 < [x0, x1, x2, x3, x4, x5, x6, x7, x8, x9, x10, x11, x12, x13, x14, x15].length, (0 : Int) ≤ (7 : Int), 7 < 16, 7 < 16, (0 : Int) ≤ (7 : Int), 7 < 16, 7 < 16, inI64 (8 : Int), (0 : Int) ≤ (8 : Int), 8 < [x0, x1, x2, x3, x4, x5, x6, x7, x8, x9, x10, x11, x12, x13, x14, x15].length, 8 < [x0, x1, x2, x3, x4, x5, x6, x7, x8, x9, x10, x11, x12, x13, x14, x15].length, (0 : Int) ≤ (8 : Int), 8 < 16, 8 < 16, (0 : Int) ≤ (8 : Int), 8 < 16, 8 < 16, inI64 (9 : Int), (0 : Int) ≤ (9 : Int), 9 < [x0, x1, x2, x3, x4, x5, x6, x7, x8, x9, x10, x11, x12, x13, x14, x15].length, 9 < [x0, x1, x2, x3, x4, x5, x6, x7, x8, x9, x10, x11, x12, x13, x14, x15].length, (0 : Int) ≤ (9 : Int), 9 < 16, 9 < 16, (0 : Int) ≤ (9 : Int), 9 < 16, 9 < 16, inI64 (10 : Int), (0 : Int) ≤ (10 : Int), 10 < [x0, x1, x2, x3, x4, x5, x6, x7, x8, x9, x10, x11, x12, x13, x14, x15].length, 10 < [x0, x1, x2, x3, x4, x5, x6, x7, x8, x9, x10, x11, x12, x13, x14, x15].length, (0 : Int) ≤ (10 : Int), 10 < 16, 10 < 16, (0 : Int) ≤ (10 : Int), 10 < 16, 10 < 16, inI64 (11 : Int), (0 : Int) ≤ (11 : Int), 11 < [x0, x1, x2, x3, x4, x5, x6, x7, x8, x9, x10, x11, x12, x13, x14, x15].length, 11 < [x0, x1, x2, x3, x4, x5, x6, x7, x8, x9, x10, x11, x12, x13, x14, x15].length, (0 : Int) ≤ (11 : Int), 11 < 16, 11 < 16, (0 : Int) ≤ (11 : Int), 11 < 16, 11 < 16, inI64 (12 : Int), (0 : Int) ≤ (12 : Int), 12 < [x0, x1, x2, x3, x4, x5, x6, x7, x8, x9, x10, x11, x12, x13, x14, x15].length, 12 < [x0, x1, x2, x3, x4, x5, x6, x7, x8, x9, x10, x11, x12, x13, x14, x15].length, (0 : Int) ≤ (12 : Int), 12 < 16, 12 < 16, (0 : Int) ≤ (12 : Int), 12 < 16, 12 < 16, inI64 (13 : Int), (0 : Int) ≤ (13 : Int), 13 < [x0, x1, x2, x3, x4, x5, x6, x7, x8, x9, x10, x11, x12, x13, x14, x15].length, 13 < [x0, x1, x2, x3, x4, x5, x6, x7, x8, x9, x10, x11, x12, x13, x14, x15].length, (0 : Int) ≤ (13 : Int), 13 < 16, 13 < 16, (0 : Int) ≤ (13 : Int), 13 < 16, 13 < 16, inI64 (14 : Int), (0 : Int) ≤ (14 : Int), 14 < [x0, x1, x2, x3, x4, x5, x6, x7, x8, x9, x10, x11, x12, x13, x14, x15].length, 14 < [x0, x1, x2, x3, x4, x5, x6, x7, x8, x9, x10, x11, x12, x13, x14, x15].length, (0 : Int) ≤ (14 : Int), 14 < 16, 14 < 16, (0 : Int) ≤ (14 : Int), 14 < 16, 14 < 16, inI64 (15 : Int), (0 : Int) ≤ (15 : Int), 15 < [x0, x1, x2, x3, x4, x5, x6, x7, x8, x9, x10, x11, x12, x13, x14, x15].length, 15 < [x0, x1, x2, x3, x4, x5, x6, x7, x8, x9, x10, x11, x12, x13, x14, x15].length, (0 : Int) ≤ (15 : Int), 15 < 16, 15 < 16, (0 : Int) ≤ (15 : Int), 15 < 16, 15 < 16, inI64 (16 : Int), 16 ≤ 16]) := by kernel_rfl
theorem runCut1 (r : List (BitVec 8)) : fnS Try.prog (lookG tblT) (orcA [(1, [(2, true)])]) [] 30 8 [sc (.d8 r)] =
    some (AV.tup [(false, [IV.d8 (cutL [] 0 0 0)]), (false, [IV.i64 (1 : Int)])], [(!(↑r.length : Int) == (16 : Int)) = true, 0 ≤ 0]) := by kernel_rfl
def cutM : List (BitVec 8) := [255#8, 255#8, 255#8, 15#8, 252#8, 255#8, 255#8, 15#8, 252#8, 255#8, 255#8, 15#8, 252#8, 255#8, 255#8, 15#8]
def cutV (r : List (BitVec 8)) : List (BitVec 8) × Int := if r.length = 16 then (List.zipWith (fun x m => x &&& m) r cutM, 0) else ([], 1)
def spCut : List AV → Option (AV × List Prop)
  | [.val false [.d8 b]] => some (.tup [(false, [.d8 (cutV b).1]), (false, [.i64 (cutV b).2])], [])
  | _ => none
theorem ctCut : CtSOk Try.prog 8 (.fn spCut) := FnS_of_fnS gsT fol fun ds r cs h hc => by
  unfold spCut at h
  split at h
  case h_2 => simp at h
  rename_i b
  simp only [Option.some.injEq, Prod.mk.injEq] at h
  obtain ⟨rfl, rfl⟩ := h
  by_cases hb : b.length = 16
  · obtain ⟨x0, x1, x2, x3, x4, x5, x6, x7, x8, x9, x10, x11, x12, x13, x14, x15, rfl⟩ := list16 hb
    refine use_run (runCut x0 x1 x2 x3 x4 x5 x6 x7 x8 x9 x10 x11 x12 x13 x14 x15) rfl ?_
    simp only [AllP, inI64]
    and_intros <;> first | omega | trivial
  · refine use_run (runCut1 b) (by rw [cutV, if_neg hb]; rfl) ⟨?_, by omega, trivial⟩
    simp only [Bool.not_eq_true', beq_eq_false_iff_ne, ne_eq]
    omega
def tblT1 : List (FuncId × CtS) := (27, .fn spLow) :: (26, .fn spHigh) :: tblT
theorem gsT1 : GSound Try.prog (upG (lookG tblT1)) := GSound_of_tbl ⟨⟨ctLow, by kernel_rfl⟩, ⟨ctHigh, by kernel_rfl⟩, okT⟩
theorem runPTimes (a r : N4) : fnS Try.prog (lookG tblT1) orc0 [] 10 15 [.val true [.n4 a], .val true [.n4 r]] =
    some (AV.val true [IV.n4 (ofN (val (lowN (ofN (val (lowN (ofN (val a * val r))) + val (ofN (val (highN (ofN (val a * val r)) (ofN (val a * val r / p256))) * 5))))) + val (ofN (val (highN (ofN (val (lowN (ofN (val a * val r))) + val (ofN (val (highN (ofN (val a * val r)) (ofN (val a * val r / p256))) * 5)))) (N4.mk (BitVec.ofNat 64 0) (BitVec.ofNat 64 0) (BitVec.ofNat 64 0) (BitVec.ofNat 64 0))) * 5))))], []) := by kernel_rfl

theorem or62 (x y : BitVec 64) : (x >>> 2 ||| y <<< 62).toNat = x.toNat / 4 + y.toNat % 4 * 4611686018427387904 := by
  have hx := x.isLt
  have hy := y.isLt
  rw [BitVec.toNat_or, BitVec.toNat_ushiftRight, BitVec.toNat_shiftLeft, Nat.shiftRight_eq_div_pow]
  have e : y.toNat <<< 62 % 2 ^ 64 = (y.toNat % 4) <<< 62 := by rw [Nat.shiftLeft_eq, Nat.shiftLeft_eq]; omega
  rw [e, Nat.or_comm, ← Nat.shiftLeft_add_eq_or_of_lt (by omega), Nat.shiftLeft_eq]
  omega
theorem and3 (x : BitVec 64) : (x &&& 3#64).toNat = x.toNat % 4 := by
  rw [BitVec.toNat_and]
  exact Nat.and_two_pow_sub_one_eq_mod x.toNat 2
theorem low_val (a : N4) : val (lowN a) = val a % P130 := by
  obtain ⟨a0, a1, a2, a3⟩ := a
  have h0 := a0.isLt
  have h1 := a1.isLt
  have h2 := a2.isLt
  have h3 := a3.isLt
  show a0.toNat + 18446744073709551616 * (a1.toNat + 18446744073709551616 * ((a2 &&& 3#64).toNat + 18446744073709551616 * 0)) = (a0.toNat + 18446744073709551616 * (a1.toNat + 18446744073709551616 * (a2.toNat + 18446744073709551616 * a3.toNat))) % 1361129467683753853853498429727072845824
  rw [and3]
  omega
theorem high_val (a b : N4) (h : wide a b < p256 * 18446744073709551616) : val (highN a b) = wide a b / P130 := by
  obtain ⟨a0, a1, a2, a3⟩ := a
  obtain ⟨b0, b1, b2, b3⟩ := b
  have h0 := a0.isLt
  have h1 := a1.isLt
  have h2 := a2.isLt
  have h3 := a3.isLt
  have h4 := b0.isLt
  have h5 := b1.isLt
  have h6 := b2.isLt
  have h7 := b3.isLt
  have hb : wide ⟨a0, a1, a2, a3⟩ ⟨b0, b1, b2, b3⟩ = a0.toNat + 18446744073709551616 * (a1.toNat + 18446744073709551616 * (a2.toNat + 18446744073709551616 * (a3.toNat + 18446744073709551616 * (b0.toNat + 18446744073709551616 * (b1.toNat + 18446744073709551616 * (b2.toNat + 18446744073709551616 * b3.toNat)))))) := by
    simp only [wide, val, p256]; omega
  rw [hb] at h ⊢
  show (a2 >>> 2 ||| a3 <<< 62).toNat + 18446744073709551616 * ((a3 >>> 2 ||| b0 <<< 62).toNat + 18446744073709551616 * ((b0 >>> 2).toNat + 18446744073709551616 * 0)) = _
  rw [or62, or62, BitVec.toNat_ushiftRight, Nat.shiftRight_eq_div_pow]
  unfold p256 at h
  unfold P130
  omega
def t1 (n : Nat) : Nat := n % P130 + n / P130 * 5
def timesN (a r : N4) : N4 := ofN (t1 (t1 (val a * val r)))
theorem t1_lt {n : Nat} (h : n < p256) : t1 n < 1000000000000000000000000000000000000000000 := by
  unfold t1 P130; unfold p256 at h; omega
end Go.Proofs.Ytbhnegdekeojkaa
