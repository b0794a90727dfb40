/- Texts put together: ScA SgB CuM CuN CuO CuT SgC. Own work. -/
import Derived.Test.YtlgiaglbdifkpaaDoorMgat
/- Contracts of layer 4: numbers modulo the order. Own work. -/
namespace Go.Proofs.YtlgiaglbdifkpaaDoor
open Go.Ev Go.Sp Go.RowKit
set_option maxRecDepth 100000

/-- The base point's order. -/
def Lo : Nat := 7237005577332262213973186563042994240857116359379907606001950938285454250989
def LoN : N4 := ⟨6346243789798364141#64, 1503914060200516822#64, 0#64, 1152921504606846976#64⟩
theorem LoN_val : val LoN = Lo := by decide
theorem Lo_pos : 0 < Lo := by decide
theorem Lo_lt : Lo < p256 := by decide
theorem LoN_ne : val LoN ≠ 0 := by decide
def tblSZ : List (FuncId × CtS) := [(31, .fn (sp2 addV)), (35, .fn (sp2 subV)), (33, .fn spMul), (58, .fn spMod), (27, .fn spFrom), (56, .fn spDbl), (34, .fn spBytes)]
theorem okSZ : TblOk Tryd.prog tblSZ := ⟨⟨ctAdd, by kernel_rfl⟩, ⟨ctSub, by kernel_rfl⟩, ⟨ctMul, by kernel_rfl⟩, ⟨ctMod, by kernel_rfl⟩, ⟨ctFrom, by kernel_rfl⟩, ⟨ctDbl, by kernel_rfl⟩, ⟨ctBytes, by kernel_rfl⟩, trivial⟩
theorem gsSZ : GSound Tryd.prog (upG (lookG tblSZ)) := GSound_of_tbl okSZ
def spOrd : List AV → Option (AV × List Prop)
  | [] => some (.val true [.n4 LoN], [])
  | _ => none
theorem runOrd : fnS Tryd.prog (lookG []) orc0 [] 10 36 [] = some (.val true [.n4 LoN], []) := by kernel_rfl
theorem ctOrd : CtSOk Tryd.prog 36 (.fn spOrd) := FnS_of_fnS gs0 fol fun ds r cs h hc => by
  unfold spOrd at h
  split at h
  case h_2 => simp at h
  simp only [Option.some.injEq, Prod.mk.injEq] at h
  obtain ⟨rfl, rfl⟩ := h
  exact use_run runOrd rfl trivial
def tblS1 : List (FuncId × CtS) :=
  (36, .fn spOrd) :: tblSZ
theorem gsS1 : GSound Tryd.prog (upG (lookG tblS1)) := GSound_of_tbl ⟨⟨ctOrd, by kernel_rfl⟩, okSZ⟩
theorem runSLeft (a b : N4) : fnS Tryd.prog (lookG tblS1) orc0 [] 10 32 [.val true [.n4 a, .n4 b]] =
    some (AV.val true [IV.n4 (modN a b LoN)], []) := by kernel_rfl
def spSLeft : List AV → Option (AV × List Prop)
  | [.val true [.n4 a, .n4 b]] => some (.val true [.n4 (ofN (wide a b % Lo))], [])
  | _ => none
theorem ctSLeft : CtSOk Tryd.prog 32 (.fn spSLeft) := FnS_of_fnS gsS1 fol fun ds r cs h hc => by
  unfold spSLeft at h
  split at h
  case h_2 => simp at h
  rename_i a b
  simp only [Option.some.injEq, Prod.mk.injEq] at h
  obtain ⟨rfl, rfl⟩ := h
  refine use_run (runSLeft a b) ?_ trivial
  rw [modN, if_neg LoN_ne, LoN_val]
def tblS2 : List (FuncId × CtS) :=
  (32, .fn spSLeft) :: tblS1
theorem gsS2 : GSound Tryd.prog (upG (lookG tblS2)) := GSound_of_tbl ⟨⟨ctSLeft, by kernel_rfl⟩, ⟨ctOrd, by kernel_rfl⟩, okSZ⟩
theorem runSRed (a : N4) : fnS Tryd.prog (lookG tblS2) orc0 [] 10 17 [.val true [.n4 a]] =
    some (AV.val true [IV.n4 (ofN (wide a (N4.mk (BitVec.ofNat 64 0) (BitVec.ofNat 64 0) (BitVec.ofNat 64 0) (BitVec.ofNat 64 0)) % 7237005577332262213973186563042994240857116359379907606001950938285454250989))], []) := by kernel_rfl
def redN (a : N4) : N4 := ofN (val a % Lo)
def spRedZ : List AV → Option (AV × List Prop)
  | [.val true [.n4 a]] => some (.val true [.n4 (redN a)], [])
  | _ => none
theorem runSOf (b : List (BitVec 8)) : fnS Tryd.prog (lookG tblS2) (orcA [(2, [(1, false)])]) [] 10 28 [sc (.d8 b)] =
    some (AV.tup [(true, [IV.n4 (ofN (wide (dblV b).fst (dblV b).2.fst % 7237005577332262213973186563042994240857116359379907606001950938285454250989))]), (false, [IV.i64 (0 : Int)])], [b.length = b.length, (!(dblV b).2.snd == (0 : Int)) = false]) := by kernel_rfl
theorem runSOf1 (b : List (BitVec 8)) : fnS Tryd.prog (lookG tblS2) (orcA [(2, [(1, true)])]) [] 10 28 [sc (.d8 b)] =
    some (AV.tup [(true, [IV.n4 (N4.mk (BitVec.ofNat 64 0) (BitVec.ofNat 64 0) (BitVec.ofNat 64 0) (BitVec.ofNat 64 0))]), (false, [IV.i64 (dblV b).2.snd])], [b.length = b.length, (!(dblV b).2.snd == (0 : Int)) = true]) := by kernel_rfl
theorem runSDec (b : List (BitVec 8)) : fnS Tryd.prog (lookG tblS2) (orcA [(1, [(2, false)]), (5, [(1, false)])]) [] 10 19 [sc (.d8 b)] =
    some (AV.tup [(true, [IV.n4 (fromV b).fst]), (false, [IV.i64 (0 : Int)])], [(!(↑b.length : Int) == (32 : Int)) = false, b.length = b.length, ((if val (fromV b).fst < 7237005577332262213973186563042994240857116359379907606001950938285454250989 then BitVec.ofNat 64 1 else BitVec.ofNat 64 0) == BitVec.ofNat 64 0) = false]) := by kernel_rfl
theorem runSDec1 (b : List (BitVec 8)) : fnS Tryd.prog (lookG tblS2) (orcA [(1, [(2, true)])]) [] 10 19 [sc (.d8 b)] =
    some (AV.tup [(true, [IV.n4 (N4.mk (BitVec.ofNat 64 0) (BitVec.ofNat 64 0) (BitVec.ofNat 64 0) (BitVec.ofNat 64 0))]), (false, [IV.i64 (1 : Int)])], [(!(↑b.length : Int) == (32 : Int)) = true]) := by kernel_rfl
theorem runSDec6 (b : List (BitVec 8)) : fnS Tryd.prog (lookG tblS2) (orcA [(1, [(2, false)]), (5, [(1, true)])]) [] 10 19 [sc (.d8 b)] =
    some (AV.tup [(true, [IV.n4 (N4.mk (BitVec.ofNat 64 0) (BitVec.ofNat 64 0) (BitVec.ofNat 64 0) (BitVec.ofNat 64 0))]), (false, [IV.i64 (6 : Int)])], [(!(↑b.length : Int) == (32 : Int)) = false, b.length = b.length, ((if val (fromV b).fst < 7237005577332262213973186563042994240857116359379907606001950938285454250989 then BitVec.ofNat 64 1 else BitVec.ofNat 64 0) == BitVec.ofNat 64 0) = true]) := by kernel_rfl
theorem wide_zero (a : N4) : wide a ⟨0#64, 0#64, 0#64, 0#64⟩ = val a := by
  have : val ⟨0#64, 0#64, 0#64, 0#64⟩ = 0 := rfl
  simp [wide, this]
theorem redV (n : Nat) : val (ofN (n % Lo)) = n % Lo := by
  rw [val_ofN]
  exact Nat.mod_eq_of_lt (Nat.lt_trans (Nat.mod_lt _ Lo_pos) Lo_lt)
theorem ctRedZ : CtSOk Tryd.prog 17 (.fn spRedZ) := FnS_of_fnS gsS2 fol fun ds r cs h hc => by
  unfold spRedZ at h
  split at h
  case h_2 => simp at h
  rename_i a
  simp only [Option.some.injEq, Prod.mk.injEq] at h
  obtain ⟨rfl, rfl⟩ := h
  refine use_run (runSRed a) ?_ trivial
  rw [wide_zero]
  rfl
def sofV (b : List (BitVec 8)) : N4 × Int := if b.length ≤ 64 then (ofN (bv b % Lo), 0) else (⟨0#64, 0#64, 0#64, 0#64⟩, 2)
def spSOf : List AV → Option (AV × List Prop)
  | [.val false [.d8 b]] => some (.tup [(true, [.n4 (sofV b).1]), (false, [.i64 (sofV b).2])], [])
  | _ => none
theorem dbl_wide (b : List (BitVec 8)) (hb : b.length ≤ 64) : wide (ofN (bv b)) (ofN (bv b / p256)) = bv b := by
  have h1 := bv_lt b
  have h2 : (256 : Nat) ^ b.length ≤ 256 ^ 64 := Nat.pow_le_pow_right (by omega) hb
  have h3 : (256 : Nat) ^ 64 = p256 * p256 := rfl
  have hpos : 0 < p256 := by decide
  have h4 : bv b / p256 < p256 := by rw [Nat.div_lt_iff_lt_mul hpos]; omega
  rw [wide, val_ofN, val_ofN, Nat.mod_eq_of_lt h4]
  have := Nat.mod_add_div (bv b) p256
  exact this
theorem ctSOf : CtSOk Tryd.prog 28 (.fn spSOf) := FnS_of_fnS gsS2 fol fun ds r cs h hc => by
  unfold spSOf at h
  split at h
  case h_2 => simp at h
  rename_i b
  simp only [Option.some.injEq, Prod.mk.injEq] at h
  obtain ⟨rfl, rfl⟩ := h
  by_cases hb : b.length ≤ 64
  · have hd : dblV b = (ofN (bv b), ofN (bv b / p256), 0) := by rw [dblV, if_pos hb]
    refine use_run (runSOf b) ?_ ⟨rfl, by rw [hd]; rfl, trivial⟩
    rw [sofV, if_pos hb, hd, dbl_wide b hb]
    rfl
  · have hd : dblV b = (⟨0#64, 0#64, 0#64, 0#64⟩, ⟨0#64, 0#64, 0#64, 0#64⟩, 2) := by rw [dblV, if_neg hb]
    refine use_run (runSOf1 b) ?_ ⟨rfl, by rw [hd]; rfl, trivial⟩
    rw [sofV, if_neg hb, hd]
def sdecV (b : List (BitVec 8)) : N4 × Int := if b.length = 32 then (if bv b < Lo then (ofN (bv b), 0) else (⟨0#64, 0#64, 0#64, 0#64⟩, 6)) else (⟨0#64, 0#64, 0#64, 0#64⟩, 1)
def spSDec : List AV → Option (AV × List Prop)
  | [.val false [.d8 b]] => some (.tup [(true, [.n4 (sdecV b).1]), (false, [.i64 (sdecV b).2])], [])
  | _ => none
theorem bv32 (b : List (BitVec 8)) (h : b.length = 32) : val (ofN (bv b)) = bv b := by
  rw [val_ofN]
  have := bv_lt b
  rw [h] at this
  exact Nat.mod_eq_of_lt this
theorem ctSDec : CtSOk Tryd.prog 19 (.fn spSDec) := FnS_of_fnS gsS2 fol fun ds r cs h hc => by
  unfold spSDec at h
  split at h
  case h_2 => simp at h
  rename_i b
  simp only [Option.some.injEq, Prod.mk.injEq] at h
  obtain ⟨rfl, rfl⟩ := h
  by_cases hb : b.length = 32
  · have hf : fromV b = (ofN (bv b), 0) := by rw [fromV, if_pos (by omega)]
    have hl : (!((b.length : Int) == (32 : Int))) = false := by rw [hb]; rfl
    by_cases hlt : bv b < Lo
    · refine use_run (runSDec b) ?_ ⟨hl, rfl, ?_, trivial⟩
      · rw [sdecV, if_pos hb, if_pos hlt, hf]
      · rw [hf, bv32 b hb]
        show ((if bv b < Lo then BitVec.ofNat 64 1 else BitVec.ofNat 64 0) == BitVec.ofNat 64 0) = false
        rw [if_pos hlt]; rfl
    · refine use_run (runSDec6 b) ?_ ⟨hl, rfl, ?_, trivial⟩
      · rw [sdecV, if_pos hb, if_neg hlt]
      · rw [hf, bv32 b hb]
        show ((if bv b < Lo then BitVec.ofNat 64 1 else BitVec.ofNat 64 0) == BitVec.ofNat 64 0) = true
        rw [if_neg hlt]; rfl
  · refine use_run (runSDec1 b) ?_ ⟨by simp; omega, trivial⟩
    rw [sdecV, if_neg hb]
/-! ### Methods -/
def tblS3 : List (FuncId × CtS) := [(17, .fn spRedZ), (32, .fn spSLeft), (36, .fn spOrd), (31, .fn (sp2 addV)), (35, .fn (sp2 subV)), (33, .fn spMul), (34, .fn spBytes)]
theorem okS3 : TblOk Tryd.prog tblS3 := ⟨⟨ctRedZ, by kernel_rfl⟩, ⟨ctSLeft, by kernel_rfl⟩, ⟨ctOrd, by kernel_rfl⟩, ⟨ctAdd, by kernel_rfl⟩, ⟨ctSub, by kernel_rfl⟩, ⟨ctMul, by kernel_rfl⟩, ⟨ctBytes, by kernel_rfl⟩, trivial⟩
theorem gsS3 : GSound Tryd.prog (upG (lookG tblS3)) := GSound_of_tbl okS3
theorem runSNum (a : N4) : fnS Tryd.prog (lookG tblS3) orc0 [] 10 13 [.val true [.n4 a]] =
    some (AV.val true [IV.n4 (redN a)], []) := by kernel_rfl
theorem ctSNum : CtSOk Tryd.prog 13 (.fn spRedZ) := FnS_of_fnS gsS3 fol fun ds r cs h hc => by
  unfold spRedZ at h
  split at h
  case h_2 => simp at h
  rename_i a
  simp only [Option.some.injEq, Prod.mk.injEq] at h
  obtain ⟨rfl, rfl⟩ := h
  exact use_run (runSNum a) rfl trivial
def tblS4 : List (FuncId × CtS) :=
  (13, .fn spRedZ) :: tblS3
theorem gsS4 : GSound Tryd.prog (upG (lookG tblS4)) := GSound_of_tbl ⟨⟨ctSNum, by kernel_rfl⟩, okS3⟩
theorem runSBytes (a : N4) : fnS Tryd.prog (lookG tblS4) orc0 [] 10 18 [.val true [.n4 a]] =
    some (sc (IV.d8 (cutL (bl (val (redN a)) 32) 0 (bl (val (redN a)) 32).length (bl (val (redN a)) 32).length)), [0 + (bl (val (redN a)) 32).length ≤ (bl (val (redN a)) 32).length]) := by kernel_rfl
theorem runSAdd (a b : N4) : fnS Tryd.prog (lookG tblS4) orc0 [] 10 15 [.val true [.n4 a], .val true [.n4 b]] =
    some (AV.val true [IV.n4 (redN (ofN (val (redN a) + val (redN b))))], []) := by kernel_rfl
theorem runSMul (a b : N4) : fnS Tryd.prog (lookG tblS4) orc0 [] 10 16 [.val true [.n4 a], .val true [.n4 b]] =
    some (AV.val true [IV.n4 (ofN (wide (ofN (val (redN a) * val (redN b))) (ofN (val (redN a) * val (redN b) / 115792089237316195423570985008687907853269984665640564039457584007913129639936)) % 7237005577332262213973186563042994240857116359379907606001950938285454250989))], []) := by kernel_rfl
theorem redV2 (a : N4) : val (redN a) = val a % Lo := redV _
theorem redN_ofN {n : Nat} (h : n < p256) : redN (ofN n) = ofN (n % Lo) := by
  unfold redN
  rw [val_ofN, Nat.mod_eq_of_lt h]
def addS (a b : N4) : N4 := ofN ((val a % Lo + val b % Lo) % Lo)
def mulS (a b : N4) : N4 := ofN ((val a % Lo * (val b % Lo)) % Lo)
def negS (a : N4) : N4 := ofN ((Lo - val a % Lo) % Lo)
def spSBytes : List AV → Option (AV × List Prop)
  | [.val true [.n4 a]] => some (sc (.d8 (bl (val a % Lo) 32)), [])
  | _ => none
theorem ctSBytes : CtSOk Tryd.prog 18 (.fn spSBytes) := FnS_of_fnS gsS4 fol fun ds r cs h hc => by
  unfold spSBytes at h
  split at h
  case h_2 => simp at h
  rename_i a
  simp only [Option.some.injEq, Prod.mk.injEq] at h
  obtain ⟨rfl, rfl⟩ := h
  refine use_run (runSBytes a) ?_ ⟨by omega, trivial⟩
  rw [cutL_all, redV2]
def spSBin (f : N4 → N4 → N4) : List AV → Option (AV × List Prop)
  | [.val true [.n4 a], .val true [.n4 b]] => some (.val true [.n4 (f a b)], [])
  | _ => none
theorem mod_Lo (n : Nat) : n % Lo < Lo := Nat.mod_lt _ Lo_pos
theorem ctSAdd : CtSOk Tryd.prog 15 (.fn (spSBin addS)) := FnS_of_fnS gsS4 fol fun ds r cs h hc => by
  unfold spSBin at h
  split at h
  case h_2 => simp at h
  rename_i a b
  simp only [Option.some.injEq, Prod.mk.injEq] at h
  obtain ⟨rfl, rfl⟩ := h
  refine use_run (runSAdd a b) ?_ trivial
  have ha := mod_Lo (val a)
  have hb := mod_Lo (val b)
  have h2 : 2 * Lo < p256 := by decide
  rw [redN_ofN (by rw [redV2, redV2]; omega), redV2, redV2]
  rfl
theorem ctSMul : CtSOk Tryd.prog 16 (.fn (spSBin mulS)) := FnS_of_fnS gsS4 fol fun ds r cs h hc => by
  unfold spSBin at h
  split at h
  case h_2 => simp at h
  rename_i a b
  simp only [Option.some.injEq, Prod.mk.injEq] at h
  obtain ⟨rfl, rfl⟩ := h
  refine use_run (runSMul a b) ?_ trivial
  have ha := mod_Lo (val a)
  have hb := mod_Lo (val b)
  have hlt : val (redN a) * val (redN b) < p256 * p256 := Nat.mul_lt_mul'' (val_lt _) (val_lt _)
  have hpos : 0 < p256 := by decide
  have hw : wide (ofN (val (redN a) * val (redN b))) (ofN (val (redN a) * val (redN b) / p256)) = val (redN a) * val (redN b) := by
    have h4 : val (redN a) * val (redN b) / p256 < p256 := by rw [Nat.div_lt_iff_lt_mul hpos]; exact hlt
    rw [wide, val_ofN, val_ofN, Nat.mod_eq_of_lt h4]
    exact Nat.mod_add_div _ p256
  show AV.val true [IV.n4 (ofN (wide (ofN (val (redN a) * val (redN b))) (ofN (val (redN a) * val (redN b) / p256)) % Lo))] = _
  rw [hw, redV2, redV2]
  rfl
def spSUn (f : N4 → N4) : List AV → Option (AV × List Prop)
  | [.val true [.n4 a]] => some (.val true [.n4 (f a)], [])
  | _ => none
end Go.Proofs.YtlgiaglbdifkpaaDoor
/- Signatures of the program: its functions by contract. Own work. -/
namespace Go.Proofs.YtlgiaglbdifkpaaDoor
open Go.Ev Go.Sp Go.RowKit
set_option maxRecDepth 100000
theorem runJo2 (a b : BL) : fnS Tryd.prog (lookG []) (orcA []) [] 20 14 [sc (.ds8 [a, b])] =
    some (sc (IV.d8 (cutL (a ++ b) 0 (0 + List.length a + List.length b) (a ++ b).length)), [(0 : Int) ≤ (0 : Int), 0 < [a, b].length, List.length a = List.length a, 0 = 0, (0 + List.length a) * 1 ≤ 140737488355328 ∧ 0 + List.length a ≤ 9223372036854775807, inI64 (1 : Int), (0 : Int) ≤ (1 : Int), 1 < [a, b].length, List.length b = List.length b, 0 + List.length a = List.length a, (0 + List.length a + List.length b) * 1 ≤ 140737488355328 ∧ 0 + List.length a + List.length b ≤ 9223372036854775807, inI64 (2 : Int), 0 + (0 + List.length a + List.length b) ≤ (a ++ b).length]) := by kernel_rfl
theorem runJo3 (a b c : BL) : fnS Tryd.prog (lookG []) (orcA []) [] 20 14 [sc (.ds8 [a, b, c])] =
    some (sc (IV.d8 (cutL (a ++ b ++ c) 0 (0 + List.length a + List.length b + List.length c) (a ++ b ++ c).length)), [(0 : Int) ≤ (0 : Int), 0 < [a, b, c].length, List.length a = List.length a, 0 = 0, (0 + List.length a) * 1 ≤ 140737488355328 ∧ 0 + List.length a ≤ 9223372036854775807, inI64 (1 : Int), (0 : Int) ≤ (1 : Int), 1 < [a, b, c].length, List.length b = List.length b, 0 + List.length a = List.length a, (0 + List.length a + List.length b) * 1 ≤ 140737488355328 ∧ 0 + List.length a + List.length b ≤ 9223372036854775807, inI64 (2 : Int), (0 : Int) ≤ (2 : Int), 2 < [a, b, c].length, List.length c = List.length c, 0 + List.length a + List.length b = (a ++ b).length, (0 + List.length a + List.length b + List.length c) * 1 ≤ 140737488355328 ∧ 0 + List.length a + List.length b + List.length c ≤ 9223372036854775807, inI64 (3 : Int), 0 + (0 + List.length a + List.length b + List.length c) ≤ (a ++ b ++ c).length]) := by kernel_rfl
def spJo : List AV → Option (AV × List Prop)
  | [.val false [.ds8 [a, b]]] => some (sc (.d8 (a ++ b)), [a.length + b.length ≤ 100000])
  | [.val false [.ds8 [a, b, c]]] => some (sc (.d8 (a ++ b ++ c)), [a.length + b.length + c.length ≤ 100000])
  | _ => none
theorem ctJo : CtSOk Tryd.prog 14 (.fn spJo) := FnS_of_fnS gs0 fol fun ds r cs h hc => by
  unfold spJo at h
  split at h
  case h_3 => simp at h
  · rename_i a b
    simp only [Option.some.injEq, Prod.mk.injEq] at h
    obtain ⟨rfl, rfl⟩ := h
    have hl := hc.1
    refine use_run (runJo2 a b) (by rw [show 0 + a.length + b.length = (a ++ b).length by rw [List.length_append]; omega, cutL_all]) ?_
    simp only [AllP, inI64, List.length_append, List.length_cons, List.length_nil]
    and_intros <;> first | exact True.intro | with_reducible rfl | omega
  · rename_i a b c
    simp only [Option.some.injEq, Prod.mk.injEq] at h
    obtain ⟨rfl, rfl⟩ := h
    have hl := hc.1
    refine use_run (runJo3 a b c) (by rw [show 0 + a.length + b.length + c.length = (a ++ b ++ c).length by simp only [List.length_append]; omega, cutL_all]) ?_
    simp only [AllP, inI64, List.length_append, List.length_cons, List.length_nil]
    and_intros <;> first | exact True.intro | with_reducible rfl | omega
def spShaG (S : BL → BL) : List AV → Option (AV × List Prop)
  | [.val false [.d8 l]] => some (sc (.d8 (S l)), [l.length ≤ 100000])
  | _ => none
def tblSg0 : List (FuncId × CtS) := [(14, .fn spJo), (27, .fn spFrom), (28, .fn spSOf), (26, .fn spClamp)]
theorem okSg0 : TblOk Tryd.prog tblSg0 := ⟨⟨ctJo, by kernel_rfl⟩, ⟨ctFrom, by kernel_rfl⟩, ⟨ctSOf, by kernel_rfl⟩, ⟨ctClamp, by kernel_rfl⟩, trivial⟩
theorem gsSg0 : GSound Tryd.prog (upG (lookG tblSg0)) := GSound_of_tbl okSg0
def tblSg (S : BL → BL) : List (FuncId × CtS) :=
  (25, .fn (spShaG S)) :: tblSg0
theorem ctShaP : CtSOk Tryd.prog 25 (.fn (spShaG shaL)) := ctSha
theorem gsSg : GSound Tryd.prog (upG (lookG (tblSg shaL))) := GSound_of_tbl ⟨⟨ctShaP, by kernel_rfl⟩, okSg0⟩
theorem runSec (S : BL → BL) (l : BL) : fnS Tryd.prog (lookG (tblSg S)) (orcP [(1, [(2, false)])] [(4, [2])]) [] 20 10 [sc (.d8 l)] =
    some (AV.tup [(true, [IV.n4 (fromV (clampV (cutL (S l) 0 32 (List.length (S l)))).fst).fst]), (false, [IV.r8 (cutL (S l) 32 (List.length (S l) - 32) (List.length (S l)))]), (false, [IV.i64 (0 : Int)])], [(!(↑(List.length l) : Int) == (32 : Int)) = false, List.length l = List.length l, List.length l ≤ 100000, (0 : Int) ≤ (32 : Int), 0 ≤ 32, 32 ≤ List.length (S l), 32 ≤ List.length (S l), List.length (clampV (cutL (S l) 0 32 (List.length (S l)))).fst = List.length (clampV (cutL (S l) 0 32 (List.length (S l)))).fst, (0 : Int) ≤ (32 : Int), 32 ≤ List.length (S l), List.length (S l) ≤ List.length (S l), 32 + (List.length (S l) - 32) ≤ List.length (S l)]) := by kernel_rfl
theorem runSec1 (S : BL → BL) (l : BL) : fnS Tryd.prog (lookG (tblSg S)) (orcP [(1, [(2, true)])] [(4, [2])]) [] 20 10 [sc (.d8 l)] =
    some (AV.tup [(true, [IV.n4 (N4.mk (BitVec.ofNat 64 0) (BitVec.ofNat 64 0) (BitVec.ofNat 64 0) (BitVec.ofNat 64 0))]), (false, [IV.d8 (cutL [] 0 0 0)]), (false, [IV.i64 (1 : Int)])], [(!(↑(List.length l) : Int) == (32 : Int)) = true, 0 ≤ 0]) := by kernel_rfl
theorem runDig2 (S : BL → BL) (a b : BL) : fnS Tryd.prog (lookG (tblSg S)) (orcA []) [] 20 11 [sc (.ds8 [a, b])] =
    some (AV.val true [IV.n4 (sofV (S (a ++ b))).fst], [List.length a = List.length a, List.length b = List.length b, List.length a + List.length b ≤ 100000, (a ++ b).length = (a ++ b).length, (a ++ b).length ≤ 100000, List.length (S (a ++ b)) = List.length (S (a ++ b))]) := by kernel_rfl
theorem runDig3 (S : BL → BL) (a b c : BL) : fnS Tryd.prog (lookG (tblSg S)) (orcA []) [] 20 11 [sc (.ds8 [a, b, c])] =
    some (AV.val true [IV.n4 (sofV (S (a ++ b ++ c))).fst], [List.length a = List.length a, List.length b = List.length b, List.length c = List.length c, List.length a + List.length b + List.length c ≤ 100000, (a ++ b ++ c).length = (a ++ b ++ c).length, (a ++ b ++ c).length ≤ 100000, List.length (S (a ++ b ++ c)) = List.length (S (a ++ b ++ c))]) := by kernel_rfl
def tblSp0 : List (FuncId × CtS) := [(24, .fn spCBase)]
theorem okSp0 : TblOk Tryd.prog tblSp0 := ⟨⟨ctCBase, by kernel_rfl⟩, trivial⟩
theorem gsSp0 : GSound Tryd.prog (upG (lookG tblSp0)) := GSound_of_tbl okSp0
def tblSp (M : N4 → N4 → N4 → PR) (E : N4 → N4 → BL × Int) : List (FuncId × CtS) :=
  (29, .fn (spMulCG M)) :: (30, .fn (spEncCG E)) :: tblSp0
theorem gsSp : GSound Tryd.prog (upG (lookG (tblSp multR encR))) := GSound_of_tbl ⟨⟨ctMulC, by kernel_rfl⟩, ⟨ctEncC, by kernel_rfl⟩, okSp0⟩
theorem runPtS (M : N4 → N4 → N4 → PR) (E : N4 → N4 → BL × Int) (n : N4) : fnS Tryd.prog (lookG (tblSp M E)) (orcA []) [] 20 12 [.val true [.n4 n]] =
    some (sc (IV.d8 (cutL (E (M n (ofN bxN) (ofN byN)).x (M n (ofN bxN) (ofN byN)).y).fst 0 (List.length (E (M n (ofN bxN) (ofN byN)).x (M n (ofN bxN) (ofN byN)).y).fst) (List.length (E (M n (ofN bxN) (ofN byN)).x (M n (ofN bxN) (ofN byN)).y).fst))), [0 + List.length (E (M n (ofN bxN) (ofN byN)).x (M n (ofN bxN) (ofN byN)).y).fst ≤ List.length (E (M n (ofN bxN) (ofN byN)).x (M n (ofN bxN) (ofN byN)).y).fst]) := by kernel_rfl
def secN (l : BL) : N4 := (fromV (clampV ((shaL l).take 32)).1).1
def secX (l : BL) : BL := (shaL l).drop 32
def spSecT (N : BL → N4) (X : BL → BL) : List AV → Option (AV × List Prop)
  | [.val false [.d8 l]] => some (.tup [(true, [.n4 (N l)]), (false, [.r8 (X l)]), (false, [.i64 0])], [l.length = 32])
  | _ => none
def spSecF : List AV → Option (AV × List Prop)
  | [.val false [.d8 l]] => some (.tup [(true, [.n4 ⟨0#64, 0#64, 0#64, 0#64⟩]), (false, [.d8 []]), (false, [.i64 1])], [l.length ≠ 32])
  | _ => none
theorem shaL_len (l : BL) : (shaL l).length = 64 := by
  rw [shaL, toldP]
  simp [E8.list, lenB]
theorem toNat32 : Int.toNat (32 : Int) = 32 := rfl
theorem ctSecT : CtSOk Tryd.prog 10 (.fn (spSecT secN secX)) := FnS_of_fnS gsSg fol fun ds r cs h hc => by
  unfold spSecT at h
  split at h
  case h_2 => simp at h
  rename_i l
  simp only [Option.some.injEq, Prod.mk.injEq] at h
  obtain ⟨rfl, rfl⟩ := h
  have hs := shaL_len l
  have h : l.length = 32 := hc.1
  have r0 := runSec shaL l
  have e1 : cutL (shaL l) 0 32 (shaL l).length = (shaL l).take 32 := by rw [cutL_eq rfl, List.drop_zero]
  have e2 : cutL (shaL l) 32 ((shaL l).length - 32) (shaL l).length = (shaL l).drop 32 := by rw [cutL_eq rfl, List.take_of_length_le (by rw [List.length_drop]; omega)]
  rw [e1, e2] at r0
  refine use_run r0 ?_ ?_
  · clear r0
    unfold secN secX
    with_reducible rfl
  · clear r0
    simp only [AllP]
    and_intros <;> first | exact True.intro | exact lcTk h | with_reducible rfl | omega
theorem ctSecF : CtSOk Tryd.prog 10 (.fn spSecF) := FnS_of_fnS gsSg fol fun ds r cs h hc => by
  unfold spSecF at h
  split at h
  case h_2 => simp at h
  rename_i l
  simp only [Option.some.injEq, Prod.mk.injEq] at h
  obtain ⟨rfl, rfl⟩ := h
  have h : l.length ≠ 32 := hc.1
  exact use_run (runSec1 shaL l) rfl ⟨lcFk h, by omega, trivial⟩
def digN (b : BL) : N4 := (sofV (shaL b)).1
def spDigG (D : BL → N4) : List AV → Option (AV × List Prop)
  | [.val false [.ds8 [a, b]]] => some (.val true [.n4 (D (a ++ b))], [a.length + b.length ≤ 100000])
  | [.val false [.ds8 [a, b, c]]] => some (.val true [.n4 (D (a ++ b ++ c))], [a.length + b.length + c.length ≤ 100000])
  | _ => none
theorem ctDig : CtSOk Tryd.prog 11 (.fn (spDigG digN)) := FnS_of_fnS gsSg fol fun ds r cs h hc => by
  unfold spDigG at h
  split at h
  case h_3 => simp at h
  · rename_i a b
    simp only [Option.some.injEq, Prod.mk.injEq] at h
    obtain ⟨rfl, rfl⟩ := h
    have hl := hc.1
    refine use_run (runDig2 shaL a b) rfl ?_
    simp only [AllP, List.length_append]
    and_intros <;> first | exact True.intro | with_reducible rfl | omega
  · rename_i a b c
    simp only [Option.some.injEq, Prod.mk.injEq] at h
    obtain ⟨rfl, rfl⟩ := h
    have hl := hc.1
    refine use_run (runDig3 shaL a b c) rfl ?_
    simp only [AllP, List.length_append]
    and_intros <;> first | exact True.intro | with_reducible rfl | omega
def ptB (n : N4) : BL := (encR (multR n (ofN bxN) (ofN byN)).x (multR n (ofN bxN) (ofN byN)).y).1
def spPtG (p : N4 → BL) : List AV → Option (AV × List Prop)
  | [.val true [.n4 n]] => some (sc (.d8 (p n)), [])
  | _ => none
theorem ctPtS : CtSOk Tryd.prog 12 (.fn (spPtG ptB)) := FnS_of_fnS gsSp fol fun ds r cs h hc => by
  unfold spPtG at h
  split at h
  case h_2 => simp at h
  rename_i n
  simp only [Option.some.injEq, Prod.mk.injEq] at h
  obtain ⟨rfl, rfl⟩ := h
  exact use_run (runPtS multR encR n) (by rw [cutL_eq rfl, List.drop_zero, List.take_length, ptB]) ⟨by omega, trivial⟩
def spSB8 (B : N4 → BL) : List AV → Option (AV × List Prop)
  | [.val true [.n4 a]] => some (sc (.d8 (B a)), [])
  | _ => none
def spSDG (F : BL → N4 × Int) : List AV → Option (AV × List Prop)
  | [.val false [.d8 b]] => some (.tup [(true, [.n4 (F b).1]), (false, [.i64 (F b).2])], [])
  | _ => none
theorem ctRedU : CtSOk Tryd.prog 17 (.fn (spSUn redN)) := ctRedZ
theorem ctNumU : CtSOk Tryd.prog 13 (.fn (spSUn redN)) := ctSNum
theorem ctDecU : CtSOk Tryd.prog 19 (.fn (spSDG sdecV)) := ctSDec
def tblPb0 : List (FuncId × CtS) := [(14, .fn spJo), (24, .fn spCBase)]
theorem okPb0 : TblOk Tryd.prog tblPb0 := ⟨⟨ctJo, by kernel_rfl⟩, ⟨ctCBase, by kernel_rfl⟩, trivial⟩
theorem gsPb0 : GSound Tryd.prog (upG (lookG tblPb0)) := GSound_of_tbl okPb0
def tblPb (N : BL → N4) (X : BL → BL) (p : N4 → BL) (D : BL → N4) (A M : N4 → N4 → N4) (R : N4 → N4) (B : N4 → BL) (Nu : N4 → N4) : List (FuncId × CtS) :=
  (10, .fn (spSecT N X)) :: (12, .fn (spPtG p)) :: (11, .fn (spDigG D)) :: (15, .fn (spSBin A)) :: (16, .fn (spSBin M)) :: (17, .fn (spSUn R)) :: (13, .fn (spSUn Nu)) :: (18, .fn (spSB8 B)) :: tblPb0
def tblVf (D : BL → N4) (Nu : N4 → N4) (C : BL → PR) (F : BL → N4 × Int) (Sm : N4 → N4 → Bool) (Ng : N4 → N4 → PR) (Bo : N4 → N4 → N4 → N4 → N4 → N4 → PR) : List (FuncId × CtS) :=
  (11, .fn (spDigG D)) :: (13, .fn (spSUn Nu)) :: (20, .fn (spDecCG C)) :: (19, .fn (spSDG F)) :: (21, .fn (spSmG Sm)) :: (22, .fn (spNegCG Ng)) :: (23, .fn (spBothCG Bo)) :: tblPb0
theorem runPub (N : BL → N4) (X : BL → BL) (p : N4 → BL) (D : BL → N4) (A M : N4 → N4 → N4) (R : N4 → N4) (B : N4 → BL) (Nu : N4 → N4) (l : BL) : fnS Tryd.prog (lookG (tblPb N X p D A M R B Nu)) (orcA []) [] 20 8 [sc (.d8 l)] =
    some (AV.tup [(false, [IV.d8 (cutL (p (N l)) 0 (List.length (p (N l))) (List.length (p (N l))))]), (false, [IV.i64 (0 : Int)])], [List.length l = List.length l, List.length l = 32, 0 + List.length (p (N l)) ≤ List.length (p (N l))]) := by kernel_rfl
def tblPe : List (FuncId × CtS) := [(10, .fn spSecF)]
theorem okPe : TblOk Tryd.prog tblPe := ⟨⟨ctSecF, by kernel_rfl⟩, trivial⟩
theorem gsPe : GSound Tryd.prog (upG (lookG tblPe)) := GSound_of_tbl okPe
theorem runPub1 (l : BL) : fnS Tryd.prog (lookG tblPe) (orcA []) [] 20 8 [sc (.d8 l)] =
    some (AV.tup [(false, [IV.d8 (cutL [] 0 0 0)]), (false, [IV.i64 (1 : Int)])], [List.length l = List.length l, List.length l ≠ 32, 0 ≤ 0]) := by kernel_rfl
theorem runSig (N : BL → N4) (X : BL → BL) (p : N4 → BL) (D : BL → N4) (A M : N4 → N4 → N4) (R : N4 → N4) (B : N4 → BL) (Nu : N4 → N4) (l b : BL) : fnS Tryd.prog (lookG (tblPb N X p D A M R B Nu)) (orcA []) [] 20 6 [sc (.d8 l), sc (.d8 b)] =
    some (AV.tup [(false, [IV.d8 (cutL (p (Nu (D (X l ++ b))) ++ B (A (D (X l ++ b)) (M (D (p (Nu (D (X l ++ b))) ++ p (N l) ++ b)) (R (N l))))) 0 (p (Nu (D (X l ++ b))) ++ B (A (D (X l ++ b)) (M (D (p (Nu (D (X l ++ b))) ++ p (N l) ++ b)) (R (N l))))).length (p (Nu (D (X l ++ b))) ++ B (A (D (X l ++ b)) (M (D (p (Nu (D (X l ++ b))) ++ p (N l) ++ b)) (R (N l))))).length)]), (false, [IV.i64 (0 : Int)])], [List.length l = List.length l, List.length l = 32, List.length (X l) = List.length (X l), List.length b = List.length b, List.length (X l) + List.length b ≤ 100000, List.length (p (Nu (D (X l ++ b)))) = List.length (p (Nu (D (X l ++ b)))), List.length (p (N l)) = List.length (p (N l)), List.length b = List.length b, List.length (p (Nu (D (X l ++ b)))) + List.length (p (N l)) + List.length b ≤ 100000, List.length (p (Nu (D (X l ++ b)))) = List.length (p (Nu (D (X l ++ b)))), List.length (B (A (D (X l ++ b)) (M (D (p (Nu (D (X l ++ b))) ++ p (N l) ++ b)) (R (N l))))) = List.length (B (A (D (X l ++ b)) (M (D (p (Nu (D (X l ++ b))) ++ p (N l) ++ b)) (R (N l))))), List.length (p (Nu (D (X l ++ b)))) + List.length (B (A (D (X l ++ b)) (M (D (p (Nu (D (X l ++ b))) ++ p (N l) ++ b)) (R (N l))))) ≤ 100000, 0 + (p (Nu (D (X l ++ b))) ++ B (A (D (X l ++ b)) (M (D (p (Nu (D (X l ++ b))) ++ p (N l) ++ b)) (R (N l))))).length ≤ (p (Nu (D (X l ++ b))) ++ B (A (D (X l ++ b)) (M (D (p (Nu (D (X l ++ b))) ++ p (N l) ++ b)) (R (N l))))).length]) := by kernel_rfl
theorem runSig1 (l b : BL) : fnS Tryd.prog (lookG tblPe) (orcA []) [] 20 6 [sc (.d8 l), sc (.d8 b)] =
    some (AV.tup [(false, [IV.d8 (cutL [] 0 0 0)]), (false, [IV.i64 (1 : Int)])], [List.length l = List.length l, List.length l ≠ 32, 0 ≤ 0]) := by kernel_rfl
theorem runVfL (D : BL → N4) (Nu : N4 → N4) (C : BL → PR) (F : BL → N4 × Int) (Sm : N4 → N4 → Bool) (Ng : N4 → N4 → PR) (Bo : N4 → N4 → N4 → N4 → N4 → N4 → PR) (k b s : BL) : fnS Tryd.prog (lookG (tblVf D Nu C F Sm Ng Bo)) (orcP [(1, [(2, true)])] [(3, [2]), (13, [2]), (17, [8])]) [] 20 9 [sc (.d8 k), sc (.d8 b), sc (.d8 s)] =
    some (sc (IV.i64 (1 : Int)), [(!(↑(List.length k) : Int) == (32 : Int)) = true]) := by kernel_rfl
theorem runVfS (D : BL → N4) (Nu : N4 → N4) (C : BL → PR) (F : BL → N4 × Int) (Sm : N4 → N4 → Bool) (Ng : N4 → N4 → PR) (Bo : N4 → N4 → N4 → N4 → N4 → N4 → PR) (k b s : BL) : fnS Tryd.prog (lookG (tblVf D Nu C F Sm Ng Bo)) (orcP [(1, [(2, false), (6, true)])] [(3, [2]), (13, [2]), (17, [8])]) [] 20 9 [sc (.d8 k), sc (.d8 b), sc (.d8 s)] =
    some (sc (IV.i64 (1 : Int)), [(!(↑(List.length k) : Int) == (32 : Int)) = false, (!(↑(List.length s) : Int) == (64 : Int)) = true]) := by kernel_rfl
theorem runVfF (D : BL → N4) (Nu : N4 → N4) (C : BL → PR) (F : BL → N4 × Int) (Sm : N4 → N4 → Bool) (Ng : N4 → N4 → PR) (Bo : N4 → N4 → N4 → N4 → N4 → N4 → PR) (k b s : BL) : fnS Tryd.prog (lookG (tblVf D Nu C F Sm Ng Bo)) (orcP [(1, [(2, false), (6, false)]), (4, [(1, true)])] [(3, [2]), (13, [2]), (17, [8])]) [] 20 9 [sc (.d8 k), sc (.d8 b), sc (.d8 s)] =
    some (sc (IV.i64 (F (cutL s (0 + Int.toNat (32 : Int)) (List.length s - Int.toNat (32 : Int)) (List.length s))).snd), [(!(↑(List.length k) : Int) == (32 : Int)) = false, (!(↑(List.length s) : Int) == (64 : Int)) = false, (0 : Int) ≤ (32 : Int), 32 ≤ List.length s, List.length s ≤ List.length s, 32 + (List.length s - 32) ≤ List.length s, (!(F (cutL s (0 + Int.toNat (32 : Int)) (List.length s - Int.toNat (32 : Int)) (List.length s))).snd == (0 : Int)) = true]) := by kernel_rfl
theorem runVfK (D : BL → N4) (Nu : N4 → N4) (C : BL → PR) (F : BL → N4 × Int) (Sm : N4 → N4 → Bool) (Ng : N4 → N4 → PR) (Bo : N4 → N4 → N4 → N4 → N4 → N4 → PR) (k b s : BL) : fnS Tryd.prog (lookG (tblVf D Nu C F Sm Ng Bo)) (orcP [(1, [(2, false), (6, false)]), (4, [(1, false)]), (7, [(1, true)])] [(3, [2]), (13, [2]), (17, [8])]) [] 20 9 [sc (.d8 k), sc (.d8 b), sc (.d8 s)] =
    some (sc (IV.i64 (C k).e), [(!(↑(List.length k) : Int) == (32 : Int)) = false, (!(↑(List.length s) : Int) == (64 : Int)) = false, (0 : Int) ≤ (32 : Int), 32 ≤ List.length s, List.length s ≤ List.length s, 32 + (List.length s - 32) ≤ List.length s, (!(F (cutL s (0 + Int.toNat (32 : Int)) (List.length s - Int.toNat (32 : Int)) (List.length s))).snd == (0 : Int)) = false, List.length k = List.length k, (!(C k).e == (0 : Int)) = true]) := by kernel_rfl
theorem runVfM (D : BL → N4) (Nu : N4 → N4) (C : BL → PR) (F : BL → N4 × Int) (Sm : N4 → N4 → Bool) (Ng : N4 → N4 → PR) (Bo : N4 → N4 → N4 → N4 → N4 → N4 → PR) (k b s : BL) : fnS Tryd.prog (lookG (tblVf D Nu C F Sm Ng Bo)) (orcP [(1, [(2, false), (6, false)]), (4, [(1, false)]), (7, [(1, false)]), (8, [(1, true)])] [(3, [2]), (13, [2]), (17, [8])]) [] 20 9 [sc (.d8 k), sc (.d8 b), sc (.d8 s)] =
    some (sc (IV.i64 (7 : Int)), [(!(↑(List.length k) : Int) == (32 : Int)) = false, (!(↑(List.length s) : Int) == (64 : Int)) = false, (0 : Int) ≤ (32 : Int), 32 ≤ List.length s, List.length s ≤ List.length s, 32 + (List.length s - 32) ≤ List.length s, (!(F (cutL s (0 + Int.toNat (32 : Int)) (List.length s - Int.toNat (32 : Int)) (List.length s))).snd == (0 : Int)) = false, List.length k = List.length k, (!(C k).e == (0 : Int)) = false, Sm (C k).x (C k).y = true]) := by kernel_rfl
theorem runVfR (D : BL → N4) (Nu : N4 → N4) (C : BL → PR) (F : BL → N4 × Int) (Sm : N4 → N4 → Bool) (Ng : N4 → N4 → PR) (Bo : N4 → N4 → N4 → N4 → N4 → N4 → PR) (k b s : BL) : fnS Tryd.prog (lookG (tblVf D Nu C F Sm Ng Bo)) (orcP [(1, [(2, false), (6, false)]), (4, [(1, false)]), (7, [(1, false)]), (8, [(1, false)]), (11, [(1, false)]), (14, [(1, true)])] [(3, [2]), (13, [2]), (17, [8])]) [] 20 9 [sc (.d8 k), sc (.d8 b), sc (.d8 s)] =
    some (sc (IV.i64 (C (cutL s (0 + 0) (Int.toNat (32 : Int) - 0) (List.length s))).e), [(!(↑(List.length k) : Int) == (32 : Int)) = false, (!(↑(List.length s) : Int) == (64 : Int)) = false, (0 : Int) ≤ (32 : Int), 32 ≤ List.length s, List.length s ≤ List.length s, 32 + (List.length s - 32) ≤ List.length s, (!(F (cutL s (0 + Int.toNat (32 : Int)) (List.length s - Int.toNat (32 : Int)) (List.length s))).snd == (0 : Int)) = false, List.length k = List.length k, (!(C k).e == (0 : Int)) = false, Sm (C k).x (C k).y = false, (!(C k).e == (0 : Int)) = false, (0 : Int) ≤ (32 : Int), 0 ≤ 32, 32 ≤ List.length s, 32 ≤ List.length s, (!(C (cutL s (0 + 0) (Int.toNat (32 : Int) - 0) (List.length s))).e == (0 : Int)) = true]) := by kernel_rfl
theorem runVfN (D : BL → N4) (Nu : N4 → N4) (C : BL → PR) (F : BL → N4 × Int) (Sm : N4 → N4 → Bool) (Ng : N4 → N4 → PR) (Bo : N4 → N4 → N4 → N4 → N4 → N4 → PR) (k b s : BL) : fnS Tryd.prog (lookG (tblVf D Nu C F Sm Ng Bo)) (orcP [(1, [(2, false), (6, false)]), (4, [(1, false)]), (7, [(1, false)]), (8, [(1, false)]), (11, [(1, false)]), (14, [(1, false)]), (18, [(2, true)])] [(3, [2]), (13, [2]), (17, [8])]) [] 20 9 [sc (.d8 k), sc (.d8 b), sc (.d8 s)] =
    some (sc (IV.i64 (10 : Int)), [(!(↑(List.length k) : Int) == (32 : Int)) = false, (!(↑(List.length s) : Int) == (64 : Int)) = false, (0 : Int) ≤ (32 : Int), 32 ≤ List.length s, List.length s ≤ List.length s, 32 + (List.length s - 32) ≤ List.length s, (!(F (cutL s (0 + Int.toNat (32 : Int)) (List.length s - Int.toNat (32 : Int)) (List.length s))).snd == (0 : Int)) = false, List.length k = List.length k, (!(C k).e == (0 : Int)) = false, Sm (C k).x (C k).y = false, (!(C k).e == (0 : Int)) = false, (0 : Int) ≤ (32 : Int), 0 ≤ 32, 32 ≤ List.length s, 32 ≤ List.length s, (!(C (cutL s (0 + 0) (Int.toNat (32 : Int) - 0) (List.length s))).e == (0 : Int)) = false, (0 : Int) ≤ (32 : Int), 0 ≤ 32, 32 ≤ List.length s, 32 ≤ List.length s, 0 + List.length k ≤ List.length k, 0 + List.length b ≤ List.length b, (cutL s 0 32 (List.length s)).length + (cutL k 0 (List.length k) (List.length k)).length + (cutL b 0 (List.length b) (List.length b)).length ≤ 100000, (!((Bo (Nu (F (cutL s (0 + Int.toNat (32 : Int)) (List.length s - Int.toNat (32 : Int)) (List.length s))).fst) (ofN bxN) (ofN byN) (Nu (D (cutL s (0 + 0) (Int.toNat (32 : Int) - 0) (List.length s) ++ cutL k 0 (List.length k) (List.length k) ++ cutL b 0 (List.length b) (List.length b)))) (Ng (C k).x (C k).y).x (Ng (C k).x (C k).y).y).x.eq (C (cutL s (0 + 0) (Int.toNat (32 : Int) - 0) (List.length s))).x && ((Bo (Nu (F (cutL s (0 + Int.toNat (32 : Int)) (List.length s - Int.toNat (32 : Int)) (List.length s))).fst) (ofN bxN) (ofN byN) (Nu (D (cutL s (0 + 0) (Int.toNat (32 : Int) - 0) (List.length s) ++ cutL k 0 (List.length k) (List.length k) ++ cutL b 0 (List.length b) (List.length b)))) (Ng (C k).x (C k).y).x (Ng (C k).x (C k).y).y).y.eq (C (cutL s (0 + 0) (Int.toNat (32 : Int) - 0) (List.length s))).y && true))) = true]) := by kernel_rfl
theorem runVfY (D : BL → N4) (Nu : N4 → N4) (C : BL → PR) (F : BL → N4 × Int) (Sm : N4 → N4 → Bool) (Ng : N4 → N4 → PR) (Bo : N4 → N4 → N4 → N4 → N4 → N4 → PR) (k b s : BL) : fnS Tryd.prog (lookG (tblVf D Nu C F Sm Ng Bo)) (orcP [(1, [(2, false), (6, false)]), (4, [(1, false)]), (7, [(1, false)]), (8, [(1, false)]), (11, [(1, false)]), (14, [(1, false)]), (18, [(2, false)])] [(3, [2]), (13, [2]), (17, [8])]) [] 20 9 [sc (.d8 k), sc (.d8 b), sc (.d8 s)] =
    some (sc (IV.i64 (0 : Int)), [(!(↑(List.length k) : Int) == (32 : Int)) = false, (!(↑(List.length s) : Int) == (64 : Int)) = false, (0 : Int) ≤ (32 : Int), 32 ≤ List.length s, List.length s ≤ List.length s, 32 + (List.length s - 32) ≤ List.length s, (!(F (cutL s (0 + Int.toNat (32 : Int)) (List.length s - Int.toNat (32 : Int)) (List.length s))).snd == (0 : Int)) = false, List.length k = List.length k, (!(C k).e == (0 : Int)) = false, Sm (C k).x (C k).y = false, (!(C k).e == (0 : Int)) = false, (0 : Int) ≤ (32 : Int), 0 ≤ 32, 32 ≤ List.length s, 32 ≤ List.length s, (!(C (cutL s (0 + 0) (Int.toNat (32 : Int) - 0) (List.length s))).e == (0 : Int)) = false, (0 : Int) ≤ (32 : Int), 0 ≤ 32, 32 ≤ List.length s, 32 ≤ List.length s, 0 + List.length k ≤ List.length k, 0 + List.length b ≤ List.length b, (cutL s 0 32 (List.length s)).length + (cutL k 0 (List.length k) (List.length k)).length + (cutL b 0 (List.length b) (List.length b)).length ≤ 100000, (!((Bo (Nu (F (cutL s (0 + Int.toNat (32 : Int)) (List.length s - Int.toNat (32 : Int)) (List.length s))).fst) (ofN bxN) (ofN byN) (Nu (D (cutL s (0 + 0) (Int.toNat (32 : Int) - 0) (List.length s) ++ cutL k 0 (List.length k) (List.length k) ++ cutL b 0 (List.length b) (List.length b)))) (Ng (C k).x (C k).y).x (Ng (C k).x (C k).y).y).x.eq (C (cutL s (0 + 0) (Int.toNat (32 : Int) - 0) (List.length s))).x && ((Bo (Nu (F (cutL s (0 + Int.toNat (32 : Int)) (List.length s - Int.toNat (32 : Int)) (List.length s))).fst) (ofN bxN) (ofN byN) (Nu (D (cutL s (0 + 0) (Int.toNat (32 : Int) - 0) (List.length s) ++ cutL k 0 (List.length k) (List.length k) ++ cutL b 0 (List.length b) (List.length b)))) (Ng (C k).x (C k).y).x (Ng (C k).x (C k).y).y).y.eq (C (cutL s (0 + 0) (Int.toNat (32 : Int) - 0) (List.length s))).y && true))) = false]) := by kernel_rfl
def SBY (a : N4) : BL := bl (val a % Lo) 32
theorem ctSByU : CtSOk Tryd.prog 18 (.fn (spSB8 SBY)) := ctSBytes
theorem gsPb : GSound Tryd.prog (upG (lookG (tblPb secN secX ptB digN addS mulS redN SBY redN))) := GSound_of_tbl ⟨⟨ctSecT, by kernel_rfl⟩, ⟨ctPtS, by kernel_rfl⟩, ⟨ctDig, by kernel_rfl⟩, ⟨ctSAdd, by kernel_rfl⟩, ⟨ctSMul, by kernel_rfl⟩, ⟨ctRedU, by kernel_rfl⟩, ⟨ctNumU, by kernel_rfl⟩, ⟨ctSByU, by kernel_rfl⟩, okPb0⟩
theorem gsVf : GSound Tryd.prog (upG (lookG (tblVf digN redN decR sdecV smallR negR bothR))) := GSound_of_tbl ⟨⟨ctDig, by kernel_rfl⟩, ⟨ctNumU, by kernel_rfl⟩, ⟨ctDecC, by kernel_rfl⟩, ⟨ctDecU, by kernel_rfl⟩, ⟨ctSmallC, by kernel_rfl⟩, ⟨ctNegC, by kernel_rfl⟩, ⟨ctBothC, by kernel_rfl⟩, okPb0⟩
def pubB (l : BL) : BL := if l.length = 32 then ptB (secN l) else []
def eL (l : BL) : Int := if l.length = 32 then 0 else 1
def spPubG (p : BL → BL) (e : BL → Int) : List AV → Option (AV × List Prop)
  | [.val false [.d8 l]] => some (.tup [(false, [.d8 (p l)]), (false, [.i64 (e l)])], [])
  | _ => none
theorem cutNil {α : Type} : (cutL [] 0 0 0 : List α) = [] := rfl
theorem cutW {α : Type} (l : List α) : cutL l 0 l.length l.length = l := by rw [cutL_eq rfl, List.drop_zero, List.take_length]
theorem ctPub : CtSOk Tryd.prog 8 (.fn (spPubG pubB eL)) := FnS_intro fun ds r cs hd _ w vals hv => by
  unfold spPubG at hd
  split at hd
  case h_2 => simp at hd
  rename_i l
  simp only [Option.some.injEq, Prod.mk.injEq] at hd
  obtain ⟨rfl, rfl⟩ := hd
  by_cases h : l.length = 32
  · have r0 := runPub secN secX ptB digN addS mulS redN SBY redN l
    rw [cutW] at r0
    rw [pubB, eL, if_pos h, if_pos h]
    exact calls_of_fnS gsPb fol r0 ⟨rfl, h, by omega, trivial⟩ w vals hv
  · rw [pubB, eL, if_neg h, if_neg h]
    exact calls_of_fnS gsPe fol (runPub1 l) ⟨rfl, h, by omega, trivial⟩ w vals hv
/-- The two numbers that a signature hangs on, and its bytes. -/
def sgR (l b : BL) : N4 := digN (secX l ++ b)
def sgF (l b : BL) : BL := ptB (redN (sgR l b))
def sgK (l b : BL) : N4 := digN (sgF l b ++ ptB (secN l) ++ b)
def sgS (l b : BL) : N4 := addS (sgR l b) (mulS (sgK l b) (redN (secN l)))
def sgB (l b : BL) : BL := if l.length = 32 then sgF l b ++ SBY (sgS l b) else []
def spSigG (p : BL → BL → BL) (e : BL → Int) : List AV → Option (AV × List Prop)
  | [.val false [.d8 l], .val false [.d8 b]] => some (.tup [(false, [.d8 (p l b)]), (false, [.i64 (e l)])], [b.length ≤ 4000])
  | _ => none
theorem ptB_len (n : N4) : (ptB n).length ≤ 32 := by
  unfold ptB encR
  split
  · exact Nat.le_of_eq (bl_length _ _)
  · exact Nat.zero_le _
theorem SBY_len (a : N4) : (SBY a).length = 32 := bl_length _ _
theorem secX_len (l : BL) : (secX l).length = 32 := by rw [secX, List.length_drop, shaL_len]
theorem ctSig : CtSOk Tryd.prog 6 (.fn (spSigG sgB eL)) := FnS_intro fun ds r cs hd hc w vals hv => by
  unfold spSigG at hd
  split at hd
  case h_2 => simp at hd
  rename_i l b
  simp only [Option.some.injEq, Prod.mk.injEq] at hd
  obtain ⟨rfl, rfl⟩ := hd
  have hb : b.length ≤ 4000 := hc.1
  by_cases h : l.length = 32
  · have r0 := runSig secN secX ptB digN addS mulS redN SBY redN l b
    have e : sgB l b = sgF l b ++ SBY (sgS l b) := by rw [sgB, if_pos h]
    have l1 := ptB_len (redN (sgR l b))
    have l2 := ptB_len (secN l)
    have l3 := SBY_len (sgS l b)
    have l4 := secX_len l
    rw [cutW] at r0
    rw [e, eL, if_pos h]
    refine calls_of_fnS gsPb fol r0 ?_ w vals hv
    clear r0 e
    have l1' : (ptB (redN (digN (secX l ++ b)))).length ≤ 32 := l1
    have l3' : (SBY (addS (digN (secX l ++ b)) (mulS (digN (ptB (redN (digN (secX l ++ b))) ++ ptB (secN l) ++ b)) (redN (secN l))))).length = 32 := l3
    clear l1 l3
    simp only [AllP, List.length_append]
    and_intros <;> first | exact True.intro | with_reducible rfl | omega
  · rw [sgB, eL, if_neg h, if_neg h]
    exact calls_of_fnS gsPe fol (runSig1 l b) ⟨rfl, h, by omega, trivial⟩ w vals hv
/-- Whether a signature is one, and why not. -/
def verR (s key b : BL) : PR := bothR (redN (sdecV (s.drop 32)).1) (ofN bxN) (ofN byN) (redN (digN (s.take 32 ++ key ++ b))) (negR (decR key).x (decR key).y).x (negR (decR key).x (decR key).y).y
def verE (k b s : BL) : Int :=
  if k.length ≠ 32 then 1 else if s.length ≠ 64 then 1 else
  if (sdecV (s.drop 32)).2 ≠ 0 then (sdecV (s.drop 32)).2 else
  if (decR k).e ≠ 0 then (decR k).e else
  if smallR (decR k).x (decR k).y = true then 7 else
  if (decR (s.take 32)).e ≠ 0 then (decR (s.take 32)).e else
  if ((verR s k b).x.eq (decR (s.take 32)).x && ((verR s k b).y.eq (decR (s.take 32)).y && true)) = true then 0 else 10
def spVerG (v : BL → BL → BL → Int) : List AV → Option (AV × List Prop)
  | [.val false [.d8 k], .val false [.d8 b], .val false [.d8 s]] => some (sc (.i64 (v k b s)), [b.length ≤ 4000])
  | _ => none
theorem neT {n : Int} (h : n ≠ 0) : (!(n == (0 : Int))) = true := by rw [Bool.not_eq_true', beq_eq_false_iff_ne]; exact h
theorem neF {n : Int} (h : ¬ n ≠ 0) : (!(n == (0 : Int))) = false := by rw [Decidable.not_not.1 h]; rfl
theorem lnT {n m : Nat} (h : n ≠ m) : (!((n : Int) == (m : Int))) = true := by rw [Bool.not_eq_true', beq_eq_false_iff_ne]; omega
theorem lnF {n m : Nat} (h : ¬ n ≠ m) : (!((n : Int) == (m : Int))) = false := by rw [Decidable.not_not.1 h, beq_self_eq_true]; rfl
theorem eqF' {b : Bool} (h : ¬ b = true) : b = false := Bool.eq_false_iff.2 h
theorem ctVer : CtSOk Tryd.prog 9 (.fn (spVerG verE)) := FnS_of_fnS gsVf fol fun ds r cs h hc => by
  unfold spVerG at h
  split at h
  case h_2 => simp at h
  rename_i k b s
  simp only [Option.some.injEq, Prod.mk.injEq] at h
  obtain ⟨rfl, rfl⟩ := h
  have hb : b.length ≤ 4000 := hc.1
  unfold verE
  by_cases h1 : k.length ≠ 32
  · rw [if_pos h1]
    exact use_run (runVfL digN redN decR sdecV smallR negR bothR k b s) rfl ⟨lnT (m := 32) h1, trivial⟩
  rw [if_neg h1]
  by_cases h2 : s.length ≠ 64
  · rw [if_pos h2]
    exact use_run (runVfS digN redN decR sdecV smallR negR bothR k b s) rfl ⟨lnF (m := 32) h1, lnT (m := 64) h2, trivial⟩
  rw [if_neg h2]
  have a1 : (!((k.length : Int) == (32 : Int))) = false := lnF (m := 32) h1
  have a2 : (!((s.length : Int) == (64 : Int))) = false := lnF (m := 64) h2
  have hk : k.length = 32 := Decidable.not_not.1 h1
  have hs : s.length = 64 := Decidable.not_not.1 h2
  have c1 : cutL s (0 + Int.toNat (32 : Int)) (s.length - Int.toNat (32 : Int)) s.length = s.drop 32 := by
    rw [cutL_eq rfl, toNat32, Nat.zero_add, List.take_of_length_le (by rw [List.length_drop]; omega)]
  have c2 : cutL s (0 + 0) (Int.toNat (32 : Int) - 0) s.length = s.take 32 := by rw [cutL_eq rfl, toNat32]; rfl
  have c3 : cutL s 0 32 s.length = s.take 32 := by rw [cutL_eq rfl]; rfl
  by_cases h3 : (sdecV (s.drop 32)).2 ≠ 0
  · rw [if_pos h3]
    have r0 := runVfF digN redN decR sdecV smallR negR bothR k b s
    rw [c1] at r0
    refine use_run r0 rfl ?_
    clear r0
    have b3 := neT h3
    simp only [AllP]
    and_intros <;> first | exact True.intro | with_reducible assumption | with_reducible rfl | omega
  rw [if_neg h3]
  have b3 := neF h3
  by_cases h4 : (decR k).e ≠ 0
  · rw [if_pos h4]
    have r0 := runVfK digN redN decR sdecV smallR negR bothR k b s
    rw [c1] at r0
    refine use_run r0 rfl ?_
    clear r0
    have b4 := neT h4
    simp only [AllP]
    and_intros <;> first | exact True.intro | with_reducible assumption | with_reducible rfl | omega
  rw [if_neg h4]
  have b4 := neF h4
  by_cases h5 : smallR (decR k).x (decR k).y = true
  · rw [if_pos h5]
    have r0 := runVfM digN redN decR sdecV smallR negR bothR k b s
    rw [c1] at r0
    refine use_run r0 rfl ?_
    clear r0
    simp only [AllP]
    and_intros <;> first | exact True.intro | with_reducible assumption | with_reducible rfl | omega
  rw [if_neg h5]
  have b5 := eqF' h5
  by_cases h6 : (decR (s.take 32)).e ≠ 0
  · rw [if_pos h6]
    have r0 := runVfR digN redN decR sdecV smallR negR bothR k b s
    rw [c1, c2] at r0
    refine use_run r0 rfl ?_
    clear r0
    have b6 := neT h6
    simp only [AllP]
    and_intros <;> first | exact True.intro | with_reducible assumption | with_reducible rfl | omega
  rw [if_neg h6]
  have b6 := neF h6
  have hl : (s.take 32).length + k.length + b.length ≤ 100000 := by rw [List.length_take]; omega
  by_cases h7 : ((verR s k b).x.eq (decR (s.take 32)).x && ((verR s k b).y.eq (decR (s.take 32)).y && true)) = true
  · rw [if_pos h7]
    have r0 := runVfY digN redN decR sdecV smallR negR bothR k b s
    rw [c1, c2, c3, cutW, cutW] at r0
    refine use_run r0 rfl ?_
    clear r0
    have b7 : (!((verR s k b).x.eq (decR (s.take 32)).x && ((verR s k b).y.eq (decR (s.take 32)).y && true))) = false := by rw [h7]; rfl
    unfold verR at b7
    simp only [AllP]
    and_intros <;> first | exact True.intro | with_reducible assumption | with_reducible rfl | omega
  · rw [if_neg h7]
    have r0 := runVfN digN redN decR sdecV smallR negR bothR k b s
    rw [c1, c2, c3, cutW, cutW] at r0
    refine use_run r0 rfl ?_
    clear r0
    have b7 : (!((verR s k b).x.eq (decR (s.take 32)).x && ((verR s k b).y.eq (decR (s.take 32)).y && true))) = true := by rw [eqF' h7]; rfl
    unfold verR at b7
    simp only [AllP]
    and_intros <;> first | exact True.intro | with_reducible assumption | with_reducible rfl | omega
end Go.Proofs.YtlgiaglbdifkpaaDoor
/- Layer 8: the laws' runs over generic functions. Own work. -/
namespace Go.Proofs.YtlgiaglbdifkpaaDoor
open Go.Ev Go.Sp Go.RowKit
set_option maxRecDepth 100000
def tblMl (M : N4 → N4 → N4 → PR) (o : N4 → N4 → Bool) (H : Nat → T3 → T3) : List (FuncId × CtS) :=
  (29, .fn (spMulCG M)) :: []
theorem gsMl : GSound Tryd.prog (upG (lookG (tblMl multR onW tsD))) := GSound_of_tbl ⟨⟨ctMulC, by kernel_rfl⟩, trivial⟩
theorem eq_selfN (a : N4) : a.eq a = true := by
  have h := eq_N4 a a
  rwa [Bool.and_true, beq_self_eq_true] at h
def spLawM : List AV → Option (AV × List Prop)
  | [.val true [.n4 _], .val true [.n4 _, .n4 _]] => some (sc (.bool true), [])
  | _ => none
end Go.Proofs.YtlgiaglbdifkpaaDoor
/- Layer 8: the law CurveSmalls. Own work. -/
namespace Go.Proofs.YtlgiaglbdifkpaaDoor
open Go.Ev Go.Sp Go.RowKit
set_option maxRecDepth 100000
def tblSl (s o : N4 → N4 → Bool) (S : T3 → Bool) : List (FuncId × CtS) :=
  (21, .fn (spSmG s)) :: []
theorem gsSl : GSound Tryd.prog (upG (lookG (tblSl smallR onW smallD))) := GSound_of_tbl ⟨⟨ctSmallC, by kernel_rfl⟩, trivial⟩
theorem small_off {x y : N4} (h : ¬ onV (val x) (val y) = true) : smallR x y = false := by
  have e : multR eightN x y = prE 7 := by rw [multR, dif_neg h]
  unfold smallR smallM
  rw [e]
  rfl
def spLawS : List AV → Option (AV × List Prop)
  | [.val true [.n4 _, .n4 _]] => some (sc (.bool true), [])
  | _ => none
end Go.Proofs.YtlgiaglbdifkpaaDoor
/- Layer 8, plain: sums of points as the group's. Own work. -/
namespace Go.Proofs.YtlgiaglbdifkpaaDoor
open Go.Ev Go.Sp Go.RowKit
theorem val_xP (P : Pt Ed) : val (prP P).x = P.x.val := val_lo P.x.isLt
theorem val_yP (P : Pt Ed) : val (prP P).y = P.y.val := val_lo P.y.isLt
theorem prP_on (P : Pt Ed) : onV (val (prP P).x) (val (prP P).y) = true := by
  rw [val_xP, val_yP]
  refine onV_iff.2 ⟨P.x.isLt, P.y.isLt, on_OnN ?_⟩
  rw [tF_val, tF_val]
  exact P.on
theorem ptV_prP (P : Pt Ed) (h : onV (val (prP P).x) (val (prP P).y) = true) : ptV (prP P).x (prP P).y h = P := by
  refine Pt.ext ?_ ?_
  · show tF (val (prP P).x) = P.x
    rw [val_xP, tF_val]
  · show tF (val (prP P).y) = P.y
    rw [val_yP, tF_val]
theorem prP_ptV {x y : N4} (h : onV (val x) (val y) = true) : prP (ptV x y h) = ⟨x, y, 0⟩ := by
  obtain ⟨h1, h2, _⟩ := onV_iff.1 h
  have e1 : ofN (ptV x y h).x.val = x := by
    show ofN (tF (val x)).val = x
    rw [val_tF h1, ofN_val]
  have e2 : ofN (ptV x y h).y.val = y := by
    show ofN (tF (val y)).val = y
    rw [val_tF h2, ofN_val]
  rw [prP, e1, e2]
theorem addR_P {x y x' y' : N4} (h : onV (val x) (val y) = true) (h' : onV (val x') (val y') = true) : addR x y x' y' = prP ((ptV x y h).add (ptV x' y' h')) := by rw [addR, dif_pos h, dif_pos h']
theorem addR_PP (P Q : Pt Ed) : addR (prP P).x (prP P).y (prP Q).x (prP Q).y = prP (P.add Q) := by
  rw [addR_P (prP_on P) (prP_on Q), ptV_prP, ptV_prP]
theorem addR_PV (P : Pt Ed) {x y : N4} (h : onV (val x) (val y) = true) : addR (prP P).x (prP P).y x y = prP (P.add (ptV x y h)) := by
  rw [addR_P (prP_on P) h, ptV_prP]
theorem addR_VP (P : Pt Ed) {x y : N4} (h : onV (val x) (val y) = true) : addR x y (prP P).x (prP P).y = prP ((ptV x y h).add P) := by
  rw [addR_P h (prP_on P), ptV_prP]
theorem negR_P {x y : N4} (h : onV (val x) (val y) = true) : negR x y = prP (ptV x y h).neg := by rw [negR, dif_pos h]
theorem multR_P {n x y : N4} (h : onV (val x) (val y) = true) : multR n x y = prP (Pt.times (val n) (ptV x y h)) := by rw [multR, dif_pos h]
theorem addR_off {x y x' y' : N4} (h : ¬ onV (val x) (val y) = true) : addR x y x' y' = prE 7 := by rw [addR, dif_neg h]
theorem addR_off' {x y x' y' : N4} (h : ¬ onV (val x') (val y') = true) : addR x y x' y' = prE 7 := by
  unfold addR
  split
  · rfl
  · rfl
theorem negR_off {x y : N4} (h : ¬ onV (val x) (val y) = true) : negR x y = prE 7 := by rw [negR, dif_neg h]
theorem neg_y {x y : N4} (h : onV (val x) (val y) = true) : (negR x y).y = y := by
  obtain ⟨_, h2, _⟩ := onV_iff.1 h
  rw [negR_P h]
  show ofN (tF (val y)).val = y
  rw [val_tF h2, ofN_val]
theorem neg_on {x y : N4} (h : onV (val x) (val y) = true) : onV (val (negR x y).x) (val (negR x y).y) = true := by
  rw [negR_P h]
  exact prP_on _
theorem neg_sum {x y : N4} (h : onV (val x) (val y) = true) : addR x y (negR x y).x (negR x y).y = ⟨ofN 0, ofN 1, 0⟩ := by
  rw [negR_P h, addR_VP _ h, Pt.add_neg, no_pr]
theorem add_comm8 {x y x' y' : N4} (h : onV (val x) (val y) = true) (h' : onV (val x') (val y') = true) : addR x y x' y' = addR x' y' x y := by
  rw [addR_P h h', addR_P h' h, Pt.add_comm]
theorem add_on8 {x y x' y' : N4} (h : onV (val x) (val y) = true) (h' : onV (val x') (val y') = true) : onV (val (addR x y x' y').x) (val (addR x y x' y').y) = true ∧ (addR x y x' y').e = 0 := by
  rw [addR_P h h']
  exact ⟨prP_on _, rfl⟩
theorem add_assoc8 {x y x' y' x'' y'' : N4} (h : onV (val x) (val y) = true) (h' : onV (val x') (val y') = true) (h'' : onV (val x'') (val y'') = true) : addR (addR x y x' y').x (addR x y x' y').y x'' y'' = addR x y (addR x' y' x'' y'').x (addR x' y' x'' y'').y ∧ (addR x y (addR x' y' x'' y'').x (addR x' y' x'' y'').y).e = 0 := by
  rw [addR_P h h', addR_P h' h'', addR_PV _ h'', addR_VP _ h, Pt.add_assoc]
  exact ⟨rfl, rfl⟩
theorem add_no8 {x y : N4} (h : onV (val x) (val y) = true) : addR x y (ofN 0) (ofN 1) = ⟨x, y, 0⟩ := by
  rw [addR_P h no_onV, no_pt, Pt.add_nought, prP_ptV h]
theorem mult_add {n m k x y : N4} (h : onV (val x) (val y) = true) (e : val k = val n + val m) : addR (multR n x y).x (multR n x y).y (multR m x y).x (multR m x y).y = multR k x y ∧ (multR n x y).e = 0 ∧ (multR k x y).e = 0 := by
  rw [multR_P h, multR_P h, multR_P h, addR_PP, e, Pt.times_add]
  exact ⟨rfl, rfl, rfl⟩
theorem ptV_B : ptV (ofN bxN) (ofN byN) base_onV = Bp := by
  have h1 : bxN < Pp := by decide
  have h2 : byN < Pp := by decide
  refine Pt.ext ?_ ?_
  · show tF (val (ofN bxN)) = tF bxN
    rw [val_lo h1]
  · show tF (val (ofN byN)) = tF byN
    rw [val_lo h2]
theorem order_mult {l : N4} (h : val l = Lp) : multR l (ofN bxN) (ofN byN) = ⟨ofN 0, ofN 1, 0⟩ := by
  rw [multR_P base_onV, ptV_B, h, order_B, no_pr]
end Go.Proofs.YtlgiaglbdifkpaaDoor
/- Layer 8, plain: a point's bytes are read as the point, and what is read is told as it stood. Own work. -/
namespace Go.Proofs.YtlgiaglbdifkpaaDoor
open Go.Ev Go.Sp Go.RowKit
section
variable {n : Nat} [NeZero n]
theorem r_xx {d x y : Fin n} (h : y*y - x*x = 1 + d*(x*x*(y*y))) : x*x*(1 + d*(y*y)) = y*y - 1 := by grind
theorem r_xx' {d x y : Fin n} (h : x*x*(1 + d*(y*y)) = y*y - 1) : y*y - x*x = 1 + d*(x*x*(y*y)) := by grind
/-- What is divided by is never nought. -/
theorem den_neG (C : Cv n) (y : Fin n) : 1 + C.d * (y * y) ≠ 0 := fun h => by
  by_cases h0 : y = 0
  · subst h0
    refine C.one ?_
    grind
  · have h1 := C.inv_mul y h0
    have h2 := C.i2
    refine C.nsq (C.i * C.inv y) ?_
    grind
end
def denN (y : Nat) : Nat := fAdd 1 (fMul dN (fMul y y))
theorem denN_ne (y : Nat) : denN y ≠ 0 := fun h => by
  refine den_neG Ed (tF y) ?_
  have h1 := congrArg tF h
  unfold denN at h1
  simp only [tF_add, tF_mul, tF_one, tF_zero] at h1
  exact h1
theorem xxV_den (y : Nat) : fMul (xxV y) (denN y) = fSub (fMul y y) 1 := by
  have hl : denN y < Pp := fAdd_lt _ _
  have e : xxV y = fMul (fSub (fMul y y) 1) (fInv (denN y)) := rfl
  rw [e, fMul_assoc, fMul_comm (fInv _), inv_mul (denN_ne y) hl, fMul_one (f_Sub_lt _ _)]
theorem on_xx {x y : Nat} (h : OnN x y) : fMul x x = xxV y := by
  have h1 := h.on
  unfold Cv.On at h1
  refine (xxV_of rfl (denN_ne y) ?_).symm
  refine tF_inj (fMul_lt _ _) (f_Sub_lt _ _) ?_
  rw [tF_sub _ one_lt]
  simp only [tF_add, tF_mul, tF_one]
  exact r_xx h1
theorem xx_on {x y : Nat} (h : fMul x x = xxV y) : OnN x y := by
  refine on_OnN ?_
  have h1 := congrArg tF (xxV_den y)
  rw [← h, tF_sub _ one_lt] at h1
  simp only [denN, tF_add, tF_mul, tF_one] at h1
  exact r_xx' h1
theorem even_fNeg {r : Nat} (hr : r < Pp) (h0 : r ≠ 0) (h : r % 2 = 0) : fNeg r % 2 = 1 := by
  have hp : Pp % 2 = 1 := by decide
  rw [fNeg_pos h0 hr]
  generalize Pp = p at *
  omega
/-- The root of a point's x times itself. -/
theorem root_of {x y : Nat} (hx : x < Pp) (h : OnN x y) : prV (xxV y) = (if x % 2 = 0 then x else fNeg x, true) := by
  rw [← on_xx h]
  by_cases h2 : x % 2 = 0
  · rw [if_pos h2]
    exact prV_even hx h2 rfl
  · rw [if_neg h2]
    exact prV_even (fNeg_lt _) (neg_even hx h2) (fNeg_sq hx)
theorem encB_bv {x y : Nat} (hy : y < Pp) : bv (encB x y) % q255 = y ∧ bv (encB x y) / q255 = x % 2 := by
  have hq : y < q255 := Nat.lt_trans hy Pp_q255
  have h2 : x % 2 < 2 := Nat.mod_lt _ (by decide)
  have hp : (256 : Nat) ^ 32 = 115792089237316195423570985008687907853269984665640564039457584007913129639936 := by decide
  have e : bv (encB x y) = y + q255 * (x % 2) := by
    unfold encB
    rw [bv_bl, hp]
    refine Nat.mod_eq_of_lt ?_
    unfold q255 at *
    generalize x % 2 = s at *
    omega
  rw [e]
  unfold q255 at *
  generalize x % 2 = s at *
  omega
theorem enc_len (x y : Nat) : (encB x y).length = 32 := bl_length _ _
theorem wX_of {x y : Nat} (hx : x < Pp) (h : OnN x y) : wOk y ((x % 2 : Nat) : Int) ∧ wX y ((x % 2 : Nat) : Int) = x := by
  have hr := root_of hx h
  by_cases h2 : x % 2 = 0
  · rw [if_pos h2] at hr
    rw [wOk_nat, wX, hr, h2]
    exact ⟨⟨rfl, fun q => absurd q.2 (by decide)⟩, if_neg (by decide)⟩
  · rw [if_neg h2] at hr
    have h1 : x % 2 = 1 := by omega
    have h0 : x ≠ 0 := by rintro rfl; exact h2 rfl
    have hn : fNeg x ≠ 0 := fun q => h0 (by rw [← fNeg_neg hx, q, fNeg_zero])
    rw [wOk_nat, wX, hr, h1]
    refine ⟨⟨rfl, fun q => hn q.1⟩, ?_⟩
    rw [if_pos (by decide)]
    exact fNeg_neg hx
theorem dec_enc {x y : N4} (h : onV (val x) (val y) = true) : decR (encB (val x) (val y)) = ⟨x, y, 0⟩ := by
  obtain ⟨h1, h2, h3⟩ := onV_iff.1 h
  obtain ⟨e1, e2⟩ := encB_bv (x := val x) h2
  obtain ⟨w1, w2⟩ := wX_of h1 h3
  have hd : dOk (encB (val x) (val y)) := by
    unfold dOk
    rw [e1, e2]
    exact ⟨enc_len _ _, h2, w1⟩
  rw [decR_T hd]
  unfold dX dY
  rw [e1, e2, w2, ofN_val, ofN_val]
theorem wX_on {y s : Nat} (h : wOk y (s : Int)) : OnN (wX y (s : Int)) y := by
  obtain ⟨h1, _⟩ := (wOk_nat _ _).1 h
  obtain ⟨r1, r2, _⟩ := prV_sq h1
  refine xx_on ?_
  unfold wX
  split
  · rw [fNeg_sq r2, r1]
  · exact r1
theorem wX_bit {y s : Nat} (h : wOk y (s : Int)) (hs : s = 0 ∨ s = 1) : wX y (s : Int) % 2 = s := by
  obtain ⟨h1, h2⟩ := (wOk_nat _ _).1 h
  obtain ⟨_, r2, r3⟩ := prV_sq h1
  unfold wX
  rcases hs with rfl | rfl
  · rw [if_neg (by decide)]; exact r3
  · rw [if_pos (by decide)]
    exact even_fNeg r2 (fun q => h2 ⟨q, rfl⟩) r3
theorem dec_back {b : BL} (h : dOk b) : onV (val (ofN (dX b))) (val (ofN (dY b))) = true ∧ encB (val (ofN (dX b))) (val (ofN (dY b))) = b := by
  obtain ⟨h1, h2, h3⟩ := h
  have hX : dX b < Pp := wX_lt _ _
  have hY : dY b < Pp := h2
  rw [val_lo hX, val_lo hY]
  refine ⟨onV_iff.2 ⟨hX, hY, wX_on h3⟩, ?_⟩
  have hb := wX_bit h3 (top01 h1)
  have e : dY b + q255 * (dX b % 2) = bv b := by
    unfold dY dX
    rw [hb]
    exact Nat.mod_add_div _ _
  unfold encB
  rw [e, ← h1]
  exact bl_bv b
end Go.Proofs.YtlgiaglbdifkpaaDoor
/- Signatures, plain: the group behind them. Own work. -/
namespace Go.Proofs.YtlgiaglbdifkpaaDoor
open Go.Ev Go.Sp Go.RowKit
set_option maxRecDepth 100000
theorem eqq9 (a b : N4) : (a.eq a && (b.eq b && true)) = true := by rw [eq_selfN, eq_selfN]; rfl
theorem Lo_Lp : Lo = Lp := by decide
/-! ### Secrets -/
theorem b248 : ∀ x : BitVec 8, (x &&& 248#8).toNat % 8 = 0 := by decide
theorem b64 : ∀ x : BitVec 8, 64 ≤ (x &&& 63#8 ||| 64#8).toNat ∧ (x &&& 63#8 ||| 64#8).toNat < 128 := by decide
theorem clamp_bv (k : BL) (hk : k.length = 32) : bv (clampL k) % 8 = 0 ∧ 28948022309329048855892746252171976963317496166410141009864396001978282409984 ≤ bv (clampL k) ∧ bv (clampL k) < 57896044618658097711785492504343953926634992332820282019728792003956564819968 := by
  obtain ⟨a, m, b, e⟩ : ∃ (a : BitVec 8) (m : BL) (b : BitVec 8), clampL k = (a &&& 248#8) :: (m ++ [b &&& 63#8 ||| 64#8]) ∧ m.length = 30 := by
    match k, hk with
    | [k0, k1, k2, k3, k4, k5, k6, k7, k8, k9, k10, k11, k12, k13, k14, k15, k16, k17, k18, k19, k20, k21, k22, k23, k24, k25, k26, k27, k28, k29, k30, k31], _ =>
      exact ⟨k0, [k1, k2, k3, k4, k5, k6, k7, k8, k9, k10, k11, k12, k13, k14, k15, k16, k17, k18, k19, k20, k21, k22, k23, k24, k25, k26, k27, k28, k29, k30], k31, rfl, rfl⟩
  obtain ⟨e, hm⟩ := e
  have ha := b248 a
  have hb := b64 b
  have h30 := bv_lt m
  have hp : (256 : Nat) ^ 30 = 1766847064778384329583297500742918515827483896875618958121606201292619776 := by decide
  rw [hm, hp] at h30
  have hav := (a &&& 248#8).isLt
  rw [e]
  simp only [bv]
  rw [bv_append, hm, hp]
  simp only [bv]
  generalize (a &&& 248#8).toNat = x at *
  generalize (b &&& 63#8 ||| 64#8).toNat = y at *
  generalize bv m = z at *
  omega
theorem Lp_eight (s c : Nat) (h8 : s % 8 = 0) (h0 : 0 < s) (hc : 8 * s = Lp * c) (h64 : c < 64) : False := by
  have m : 8 * s % 64 = 0 := by omega
  have m2 : Lp * c % 64 = 45 * c % 64 := by
    rw [Nat.mul_mod, show Lp % 64 = 45 by decide, Nat.mul_mod_mod]
  rw [hc, m2] at m
  have c0 : c = 0 := by omega
  rw [c0, Nat.mul_zero] at hc
  omega
theorem Lp_clamp8 {s : Nat} (h8 : s % 8 = 0) (h1 : 28948022309329048855892746252171976963317496166410141009864396001978282409984 ≤ s) (h2 : s < 57896044618658097711785492504343953926634992332820282019728792003956564819968) : ¬ Lp ∣ 8 * s := by
  rintro ⟨c, hc⟩
  refine Lp_eight s c h8 (Nat.lt_of_lt_of_le (by decide) h1) hc (Nat.lt_of_not_le fun h => ?_)
  have h3 : Lp * 64 ≤ 8 * s := by rw [hc]; exact Nat.mul_le_mul_left Lp h
  have h4 : 8 * s < 8 * 57896044618658097711785492504343953926634992332820282019728792003956564819968 := by
    generalize 57896044618658097711785492504343953926634992332820282019728792003956564819968 = B at h2 ⊢
    omega
  exact absurd (Nat.lt_of_le_of_lt h3 h4) (by decide)
/-- The secret number. -/
def secV (l : BL) : Nat := bv (clampL ((shaL l).take 32))
theorem take32_len (l : BL) : ((shaL l).take 32).length = 32 := by rw [List.length_take, shaL_len]; rfl
theorem secN_val (l : BL) : secN l = ofN (secV l) ∧ val (secN l) = secV l := by
  have ht := take32_len l
  have e : secN l = ofN (secV l) := by
    have hl : (clampL ((shaL l).take 32)).length ≤ 32 := by rw [clampL_len, ht]; exact Nat.le_refl _
    rw [secN, clampV, if_pos ht, fromV, if_pos hl, secV]
  refine ⟨e, ?_⟩
  have h := (clamp_bv _ ht).2.2
  rw [e, val_ofN, Nat.mod_eq_of_lt]
  exact Nat.lt_trans h (by decide)
/-! ### Points in bytes -/
def pB (P : Pt Ed) : BL := encB (val (prP P).x) (val (prP P).y)
theorem pB_len (P : Pt Ed) : (pB P).length = 32 := enc_len _ _
theorem dec_pB (P : Pt Ed) : decR (pB P) = prP P := dec_enc (prP_on P)
theorem ptB_eq (n : N4) : ptB n = pB (Pt.times (val n) Bp) := by
  have hm := multR_P (n := n) base_onV
  rw [ptV_B] at hm
  rw [ptB, hm, encR, if_pos (prP_on _), pB]
theorem eq_of_eqN {a b c d : N4} (h : (a.eq c && (b.eq d && true)) = true) : a = c ∧ b = d := by
  rw [Bool.and_eq_true] at h
  have h1 := eq_N4 a c
  have h2 := eq_N4 b d
  rw [h.1] at h1
  rw [h.2] at h2
  exact ⟨val_inj (beq_iff_eq.1 h1.symm), val_inj (beq_iff_eq.1 h2.symm)⟩
theorem prP_inj {P Q : Pt Ed} (hx : (prP P).x = (prP Q).x) (hy : (prP P).y = (prP Q).y) : P = Q := by
  have h1 := val_xP P
  have h2 := val_xP Q
  have h3 := val_yP P
  have h4 := val_yP Q
  rw [hx] at h1
  rw [hy] at h3
  exact Pt.ext (Fin.ext (h1.symm.trans h2)) (Fin.ext (h3.symm.trans h4))
theorem small_P (P : Pt Ed) : smallR (prP P).x (prP P).y = true ↔ Pt.times 8 P = Pt.nought := by
  have hm := multR_P (n := eightN) (prP_on P)
  rw [ptV_prP, show val eightN = 8 by kernel_rfl] at hm
  unfold smallR smallM
  rw [hm]
  constructor
  · intro h
    rw [Bool.and_eq_true] at h
    obtain ⟨h1, h2⟩ := eq_of_eqN h.2
    have hn := no_pr
    exact prP_inj (by rw [h1, hn]) (by rw [h2, hn])
  · intro h
    rw [h, no_pr]
    show ((0 : Int) == 0 && ((ofN 0).eq (ofN 0) && ((ofN 1).eq (ofN 1) && true))) = true
    rw [beq_self_eq_true, Bool.true_and]
    exact eqq9 _ _
/-! ### Numbers of points -/
theorem times_inj {a b : Nat} (h : Pt.times a Bp = Pt.times b Bp) (ha : a < Lp) (hb : b < Lp) : a = b := by
  have main : ∀ a b : Nat, a ≤ b → b < Lp → Pt.times a Bp = Pt.times b Bp → a = b := fun a b hab hb h => by
    obtain ⟨c, rfl⟩ := Nat.exists_eq_add_of_le hab
    rw [Pt.times_add] at h
    have h2 : Pt.times c Bp = Pt.nought := by
      have h3 : (Pt.times a Bp).neg.add (Pt.times a Bp) = (Pt.times a Bp).neg.add ((Pt.times a Bp).add (Pt.times c Bp)) := congrArg (fun P => (Pt.times a Bp).neg.add P) h
      rw [← Pt.add_assoc, Pt.add_comm (Pt.times a Bp).neg, Pt.add_neg, Pt.nought_add] at h3
      exact h3.symm
    obtain ⟨d, hd⟩ := times_B.1 h2
    have : d = 0 := by
      rcases Nat.eq_zero_or_pos d with e | e
      · exact e
      · have := Nat.mul_le_mul_left Lp e
        rw [← hd] at this
        omega
    rw [this, Nat.mul_zero] at hd
    omega
  rcases Nat.le_total a b with h1 | h1
  · exact main a b h1 hb h
  · exact (main b a h1 ha h.symm).symm
theorem redN_val (a : N4) : val (redN a) = val a % Lp := by rw [redN, redV, Lo_Lp]
theorem Lp_pos : 0 < Lp := by decide
theorem digN_val (b : BL) : val (digN b) = bv (shaL b) % Lp := by
  rw [digN, sofV, if_pos (by rw [shaL_len]; exact Nat.le_refl _)]
  show val (ofN (bv (shaL b) % Lo)) = _
  rw [redV, Lo_Lp]
theorem dig_lt (b : BL) : val (digN b) < Lp := by rw [digN_val]; exact Nat.mod_lt _ Lp_pos
/-- The number that a signature bears. -/
theorem sgS_val (l b : BL) : val (sgS l b) = (val (sgR l b) + val (sgK l b) * secV l) % Lp := by
  have h1 : val (sgR l b) < Lp := dig_lt _
  have h2 : val (sgK l b) < Lp := dig_lt _
  have hm : val (mulS (sgK l b) (redN (secN l))) = (val (sgK l b) * secV l) % Lp := by
    rw [mulS, redV, Lo_Lp, redN_val, (secN_val l).2, Nat.mod_mod, ← Nat.mul_mod]
  rw [sgS, addS, redV, Lo_Lp, hm, Nat.mod_mod, ← Nat.add_mod]
theorem sgS_lt (l b : BL) : val (sgS l b) < Lp := by rw [sgS_val]; exact Nat.mod_lt _ Lp_pos
theorem sgS_pt (l b : BL) : Pt.times (val (sgS l b)) Bp = (Pt.times (val (sgR l b)) Bp).add (Pt.times (val (sgK l b)) (Pt.times (secV l) Bp)) := by
  rw [sgS_val, times_mod, Pt.times_add, Pt.times_mul]
/-! ### Verifying -/
theorem Lp_256 : Lp < 256 ^ 32 := by decide
theorem sdec_ok {b : BL} (hb : b.length = 32) (h : (sdecV b).2 = 0) : bv b < Lp ∧ (sdecV b).1 = ofN (bv b) := by
  unfold sdecV at h ⊢
  rw [if_pos hb] at h ⊢
  by_cases h1 : bv b < Lo
  · rw [if_pos h1]
    exact ⟨Lo_Lp ▸ h1, rfl⟩
  · rw [if_neg h1] at h
    exact absurd h (by decide)
theorem sdec_by (a : N4) : sdecV (SBY a) = (ofN (val a % Lp), 0) := by
  have h1 : bv (SBY a) = val a % Lp := by
    rw [SBY, bv_bl, Lo_Lp, Nat.mod_eq_of_lt]
    exact Nat.lt_trans (Nat.mod_lt _ Lp_pos) Lp_256
  rw [sdecV, if_pos (SBY_len a), h1, if_pos (by rw [Lo_Lp]; exact Nat.mod_lt _ Lp_pos)]
theorem mod_val {n : Nat} (h : n < Lp) : val (ofN n) = n := by
  rw [val_ofN, Nat.mod_eq_of_lt]
  exact Nat.lt_trans h (by decide)
/-- Verifying, where key, point and number are read: an equation of points. -/
theorem ver_iff {k b s : BL} {A R : Pt Ed} {S : Nat} (hk : k.length = 32) (hs : s.length = 64) (hA : decR k = prP A) (hR : decR (s.take 32) = prP R)
    (hS : sdecV (s.drop 32) = (ofN S, 0)) (hl : S < Lp) (h8 : Pt.times 8 A ≠ Pt.nought) :
    verE k b s = 0 ↔ Pt.times S Bp = R.add (Pt.times (val (digN (s.take 32 ++ k ++ b))) A) := by
  have hv : verR s k b = prP ((Pt.times S Bp).add (Pt.times (val (digN (s.take 32 ++ k ++ b))) A.neg)) := by
    unfold verR
    have h1 : val (redN (sdecV (s.drop 32)).1) = S := by rw [redN_val, hS, mod_val hl, Nat.mod_eq_of_lt hl]
    have h2 : val (redN (digN (s.take 32 ++ k ++ b))) = val (digN (s.take 32 ++ k ++ b)) := by rw [redN_val, Nat.mod_eq_of_lt (dig_lt _)]
    have hneg : negR (decR k).x (decR k).y = prP A.neg := by rw [hA, negR_P (prP_on A), ptV_prP]
    rw [hneg, bothR, dif_pos base_onV, dif_pos (prP_on _), ptV_prP, ptV_B, h1, h2]
  have hgrp : ∀ X Y : Pt Ed, X.add Y.neg = R ↔ X = R.add Y := fun X Y => by
    constructor
    · intro h
      rw [← h, Pt.add_assoc, Pt.add_comm Y.neg, Pt.add_neg, Pt.add_nought]
    · intro h
      rw [h, Pt.add_assoc, Pt.add_neg, Pt.add_nought]
  rw [← hgrp, ← Pt.times_neg]
  have hn : ¬ smallR (decR k).x (decR k).y = true := by rw [hA, small_P]; exact h8
  have e1 : ¬ (decR k).e ≠ 0 := by rw [hA]; exact fun h => h rfl
  have e2 : ¬ (decR (s.take 32)).e ≠ 0 := by rw [hR]; exact fun h => h rfl
  have e3 : ¬ (sdecV (s.drop 32)).2 ≠ 0 := by rw [hS]; exact fun h => h rfl
  unfold verE
  rw [if_neg (by omega), if_neg (by omega), if_neg e3, if_neg e1, if_neg hn, if_neg e2, hv, hR]
  generalize (Pt.times S Bp).add (Pt.times (val (digN (s.take 32 ++ k ++ b))) A.neg) = Q
  constructor
  · intro h
    split at h
    · rename_i hq
      obtain ⟨h1, h2⟩ := eq_of_eqN hq
      exact prP_inj h1 h2
    · exact absurd h (by decide)
  · intro h
    rw [h, if_pos (eqq9 _ _)]
/-! ### Signing and verifying -/
theorem pubB_eq {l : BL} (h : l.length = 32) : pubB l = pB (Pt.times (secV l) Bp) := by rw [pubB, if_pos h, ptB_eq, (secN_val l).2]
theorem sgF_eq (l b : BL) : sgF l b = pB (Pt.times (val (sgR l b)) Bp) := by
  rw [sgF, ptB_eq, redN_val, Nat.mod_eq_of_lt (show val (sgR l b) < Lp from dig_lt _)]
theorem sgF_len (l b : BL) : (sgF l b).length = 32 := by rw [sgF_eq]; exact pB_len _
theorem sgB_len {l : BL} (h : l.length = 32) (b : BL) : (sgB l b).length = 64 := by
  rw [sgB, if_pos h, List.length_append, sgF_len, SBY_len]
theorem sec_big (l : BL) : Pt.times 8 (Pt.times (secV l) Bp) ≠ Pt.nought := by
  rw [← Pt.times_mul]
  obtain ⟨h1, h2, h3⟩ := clamp_bv _ (take32_len l)
  exact fun h => Lp_clamp8 h1 h2 h3 (times_B.1 h)
theorem key_sgK {l b : BL} (h : l.length = 32) : digN (sgF l b ++ pubB l ++ b) = sgK l b := by rw [sgK, pubB, if_pos h]
theorem law_back {l b : BL} (h : l.length = 32) : verE (pubB l) b (sgB l b) = 0 := by
  have hF := sgF_len l b
  have ht : (sgB l b).take 32 = sgF l b := by rw [sgB, if_pos h, List.take_left' hF]
  have hd : (sgB l b).drop 32 = SBY (sgS l b) := by rw [sgB, if_pos h, List.drop_left' hF]
  have hp := pubB_eq h
  refine (ver_iff (A := Pt.times (secV l) Bp) (R := Pt.times (val (sgR l b)) Bp) (S := val (sgS l b)) (by rw [hp, pB_len]) (sgB_len h b) (by rw [hp, dec_pB]) (by rw [ht, sgF_eq, dec_pB]) (by rw [hd, sdec_by, Nat.mod_eq_of_lt (sgS_lt l b)]) (sgS_lt l b) (sec_big l)).2 ?_
  rw [ht, key_sgK h, sgS_pt]
theorem law_one {l b o : BL} (h : l.length = 32) (ho : o.length = 32) : verE (pubB l) b (sgF l b ++ o) = 0 ↔ o = SBY (sgS l b) := by
  have hF := sgF_len l b
  have hp := pubB_eq h
  have ht : (sgF l b ++ o).take 32 = sgF l b := by rw [List.take_left' hF]
  have hd : (sgF l b ++ o).drop 32 = o := by rw [List.drop_left' hF]
  have hlen : (sgF l b ++ o).length = 64 := by rw [List.length_append, hF, ho]
  constructor
  · intro hv
    have h0 : (sdecV o).2 = 0 := by
      by_cases e : (sdecV o).2 = 0
      · exact e
      · exfalso
        unfold verE at hv
        rw [if_neg (by rw [hp, pB_len]; omega), if_neg (by omega), hd, if_pos e] at hv
        exact e hv
    obtain ⟨hlt, hS⟩ := sdec_ok ho h0
    have hv2 := (ver_iff (A := Pt.times (secV l) Bp) (R := Pt.times (val (sgR l b)) Bp) (S := bv o) (by rw [hp, pB_len]) hlen (by rw [hp, dec_pB]) (by rw [ht, sgF_eq, dec_pB]) (by rw [hd]; exact Prod.ext hS h0) hlt (sec_big l)).1 hv
    rw [ht, key_sgK h, ← sgS_pt] at hv2
    have e := times_inj hv2 hlt (sgS_lt l b)
    have hb := bl_bv o
    rw [ho, e] at hb
    rw [SBY, Lo_Lp, Nat.mod_eq_of_lt (sgS_lt l b), hb]
  · intro e
    rw [e]
    have := law_back (b := b) h
    rw [sgB, if_pos h] at this
    exact this
end Go.Proofs.YtlgiaglbdifkpaaDoor
