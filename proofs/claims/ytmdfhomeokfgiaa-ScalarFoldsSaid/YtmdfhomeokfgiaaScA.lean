/- Contracts of layer 4: numbers modulo the order. Own work. -/
import Derived.Test.YtmdfhomeokfgiaaCtP
import Derived.Test.YtmdfhomeokfgiaaCtB
namespace Go.Proofs.Ytmdfhomeokfgiaa
open Go.Ev Go.Sp Go.RowKit
set_option maxRecDepth 100000

/-- The base point's order. -/
def Lo : Nat := 7237005577332262213973186563042994240857116359379907606001950938285454250989
def LoN : N4 := ⟨6346243789798364141#64, 1503914060200516822#64, 0#64, 1152921504606846976#64⟩
theorem LoN_val : val LoN = Lo := by decide
theorem Lo_pos : 0 < Lo := by decide
theorem Lo_lt : Lo < p256 := by decide
theorem LoN_ne : val LoN ≠ 0 := by decide
def tblS : List (FuncId × CtS) := [(37, .fn (sp2 addV)), (38, .fn (sp2 subV)), (34, .fn spMul), (49, .fn spMod), (45, .fn spFrom), (46, .fn spDbl), (43, .fn spBytes)]
theorem okS : TblOk Try.prog tblS := ⟨⟨ctAdd, by kernel_rfl⟩, ⟨ctSub, by kernel_rfl⟩, ⟨ctMul, by kernel_rfl⟩, ⟨ctMod, by kernel_rfl⟩, ⟨ctFrom, by kernel_rfl⟩, ⟨ctDbl, by kernel_rfl⟩, ⟨ctBytes, by kernel_rfl⟩, trivial⟩
theorem gsS : GSound Try.prog (upG (lookG tblS)) := GSound_of_tbl okS
def spOrd : List AV → Option (AV × List Prop)
  | [] => some (.val true [.n4 LoN], [])
  | _ => none
theorem runOrd : fnS Try.prog (lookG []) orc0 [] 10 27 [] = some (.val true [.n4 LoN], []) := by kernel_rfl
theorem ctOrd : CtSOk Try.prog 27 (.fn spOrd) := FnS_of_fnS gs0 fol fun ds r cs h hc => by
  unfold spOrd at h
  split at h
  case h_2 => simp at h
  simp only [Option.some.injEq, Prod.mk.injEq] at h
  obtain ⟨rfl, rfl⟩ := h
  exact use_run runOrd rfl trivial
def tblS1 : List (FuncId × CtS) := (27, .fn spOrd) :: tblS
theorem gsS1 : GSound Try.prog (upG (lookG tblS1)) := GSound_of_tbl ⟨⟨ctOrd, by kernel_rfl⟩, okS⟩
theorem runSLeft (a b : N4) : fnS Try.prog (lookG tblS1) orc0 [] 10 33 [.val true [.n4 a, .n4 b]] =
    some (AV.val true [IV.n4 (modN a b LoN)], []) := by kernel_rfl
def spSLeft : List AV → Option (AV × List Prop)
  | [.val true [.n4 a, .n4 b]] => some (.val true [.n4 (ofN (wide a b % Lo))], [])
  | _ => none
theorem ctSLeft : CtSOk Try.prog 33 (.fn spSLeft) := FnS_of_fnS gsS1 fol fun ds r cs h hc => by
  unfold spSLeft at h
  split at h
  case h_2 => simp at h
  rename_i a b
  simp only [Option.some.injEq, Prod.mk.injEq] at h
  obtain ⟨rfl, rfl⟩ := h
  refine use_run (runSLeft a b) ?_ trivial
  rw [modN, if_neg LoN_ne, LoN_val]
def tblS2 : List (FuncId × CtS) := (33, .fn spSLeft) :: tblS1
theorem gsS2 : GSound Try.prog (upG (lookG tblS2)) := GSound_of_tbl ⟨⟨ctSLeft, by kernel_rfl⟩, ⟨ctOrd, by kernel_rfl⟩, okS⟩
theorem runSRed (a : N4) : fnS Try.prog (lookG tblS2) orc0 [] 10 22 [.val true [.n4 a]] =
    some (AV.val true [IV.n4 (ofN (wide a (N4.mk (BitVec.ofNat 64 0) (BitVec.ofNat 64 0) (BitVec.ofNat 64 0) (BitVec.ofNat 64 0)) % 7237005577332262213973186563042994240857116359379907606001950938285454250989))], []) := by kernel_rfl
def redN (a : N4) : N4 := ofN (val a % Lo)
def spRed : List AV → Option (AV × List Prop)
  | [.val true [.n4 a]] => some (.val true [.n4 (redN a)], [])
  | _ => none
theorem runSOf (b : List (BitVec 8)) : fnS Try.prog (lookG tblS2) (orcA [(2, [(1, false)])]) [] 10 30 [sc (.d8 b)] =
    some (AV.tup [(true, [IV.n4 (ofN (wide (dblV b).fst (dblV b).2.fst % 7237005577332262213973186563042994240857116359379907606001950938285454250989))]), (false, [IV.i64 (0 : Int)])], [b.length = b.length, (!(dblV b).2.snd == (0 : Int)) = false]) := by kernel_rfl
theorem runSOf1 (b : List (BitVec 8)) : fnS Try.prog (lookG tblS2) (orcA [(2, [(1, true)])]) [] 10 30 [sc (.d8 b)] =
    some (AV.tup [(true, [IV.n4 (N4.mk (BitVec.ofNat 64 0) (BitVec.ofNat 64 0) (BitVec.ofNat 64 0) (BitVec.ofNat 64 0))]), (false, [IV.i64 (dblV b).2.snd])], [b.length = b.length, (!(dblV b).2.snd == (0 : Int)) = true]) := by kernel_rfl
theorem runSDec (b : List (BitVec 8)) : fnS Try.prog (lookG tblS2) (orcA [(1, [(2, false)]), (5, [(1, false)])]) [] 10 29 [sc (.d8 b)] =
    some (AV.tup [(true, [IV.n4 (fromV b).fst]), (false, [IV.i64 (0 : Int)])], [(!(↑b.length : Int) == (32 : Int)) = false, b.length = b.length, ((if val (fromV b).fst < 7237005577332262213973186563042994240857116359379907606001950938285454250989 then BitVec.ofNat 64 1 else BitVec.ofNat 64 0) == BitVec.ofNat 64 0) = false]) := by kernel_rfl
theorem runSDec1 (b : List (BitVec 8)) : fnS Try.prog (lookG tblS2) (orcA [(1, [(2, true)])]) [] 10 29 [sc (.d8 b)] =
    some (AV.tup [(true, [IV.n4 (N4.mk (BitVec.ofNat 64 0) (BitVec.ofNat 64 0) (BitVec.ofNat 64 0) (BitVec.ofNat 64 0))]), (false, [IV.i64 (1 : Int)])], [(!(↑b.length : Int) == (32 : Int)) = true]) := by kernel_rfl
theorem runSDec6 (b : List (BitVec 8)) : fnS Try.prog (lookG tblS2) (orcA [(1, [(2, false)]), (5, [(1, true)])]) [] 10 29 [sc (.d8 b)] =
    some (AV.tup [(true, [IV.n4 (N4.mk (BitVec.ofNat 64 0) (BitVec.ofNat 64 0) (BitVec.ofNat 64 0) (BitVec.ofNat 64 0))]), (false, [IV.i64 (6 : Int)])], [(!(↑b.length : Int) == (32 : Int)) = false, b.length = b.length, ((if val (fromV b).fst < 7237005577332262213973186563042994240857116359379907606001950938285454250989 then BitVec.ofNat 64 1 else BitVec.ofNat 64 0) == BitVec.ofNat 64 0) = true]) := by kernel_rfl
theorem wide_zero (a : N4) : wide a ⟨0#64, 0#64, 0#64, 0#64⟩ = val a := by
  have : val ⟨0#64, 0#64, 0#64, 0#64⟩ = 0 := rfl
  simp [wide, this]
theorem redV (n : Nat) : val (ofN (n % Lo)) = n % Lo := by
  rw [val_ofN]
  exact Nat.mod_eq_of_lt (Nat.lt_trans (Nat.mod_lt _ Lo_pos) Lo_lt)
theorem ctRed : CtSOk Try.prog 22 (.fn spRed) := FnS_of_fnS gsS2 fol fun ds r cs h hc => by
  unfold spRed at h
  split at h
  case h_2 => simp at h
  rename_i a
  simp only [Option.some.injEq, Prod.mk.injEq] at h
  obtain ⟨rfl, rfl⟩ := h
  refine use_run (runSRed a) ?_ trivial
  rw [wide_zero]
  rfl
def sofV (b : List (BitVec 8)) : N4 × Int := if b.length ≤ 64 then (ofN (bv b % Lo), 0) else (⟨0#64, 0#64, 0#64, 0#64⟩, 2)
def spSOf : List AV → Option (AV × List Prop)
  | [.val false [.d8 b]] => some (.tup [(true, [.n4 (sofV b).1]), (false, [.i64 (sofV b).2])], [])
  | _ => none
theorem dbl_wide (b : List (BitVec 8)) (hb : b.length ≤ 64) : wide (ofN (bv b)) (ofN (bv b / p256)) = bv b := by
  have h1 := bv_lt b
  have h2 : (256 : Nat) ^ b.length ≤ 256 ^ 64 := Nat.pow_le_pow_right (by omega) hb
  have h3 : (256 : Nat) ^ 64 = p256 * p256 := rfl
  have hpos : 0 < p256 := by decide
  have h4 : bv b / p256 < p256 := by rw [Nat.div_lt_iff_lt_mul hpos]; omega
  rw [wide, val_ofN, val_ofN, Nat.mod_eq_of_lt h4]
  have := Nat.mod_add_div (bv b) p256
  exact this
theorem ctSOf : CtSOk Try.prog 30 (.fn spSOf) := FnS_of_fnS gsS2 fol fun ds r cs h hc => by
  unfold spSOf at h
  split at h
  case h_2 => simp at h
  rename_i b
  simp only [Option.some.injEq, Prod.mk.injEq] at h
  obtain ⟨rfl, rfl⟩ := h
  by_cases hb : b.length ≤ 64
  · have hd : dblV b = (ofN (bv b), ofN (bv b / p256), 0) := by rw [dblV, if_pos hb]
    refine use_run (runSOf b) ?_ ⟨rfl, by rw [hd]; rfl, trivial⟩
    rw [sofV, if_pos hb, hd, dbl_wide b hb]
    rfl
  · have hd : dblV b = (⟨0#64, 0#64, 0#64, 0#64⟩, ⟨0#64, 0#64, 0#64, 0#64⟩, 2) := by rw [dblV, if_neg hb]
    refine use_run (runSOf1 b) ?_ ⟨rfl, by rw [hd]; rfl, trivial⟩
    rw [sofV, if_neg hb, hd]
def sdecV (b : List (BitVec 8)) : N4 × Int := if b.length = 32 then (if bv b < Lo then (ofN (bv b), 0) else (⟨0#64, 0#64, 0#64, 0#64⟩, 6)) else (⟨0#64, 0#64, 0#64, 0#64⟩, 1)
def spSDec : List AV → Option (AV × List Prop)
  | [.val false [.d8 b]] => some (.tup [(true, [.n4 (sdecV b).1]), (false, [.i64 (sdecV b).2])], [])
  | _ => none
theorem bv32 (b : List (BitVec 8)) (h : b.length = 32) : val (ofN (bv b)) = bv b := by
  rw [val_ofN]
  have := bv_lt b
  rw [h] at this
  exact Nat.mod_eq_of_lt this
theorem ctSDec : CtSOk Try.prog 29 (.fn spSDec) := FnS_of_fnS gsS2 fol fun ds r cs h hc => by
  unfold spSDec at h
  split at h
  case h_2 => simp at h
  rename_i b
  simp only [Option.some.injEq, Prod.mk.injEq] at h
  obtain ⟨rfl, rfl⟩ := h
  by_cases hb : b.length = 32
  · have hf : fromV b = (ofN (bv b), 0) := by rw [fromV, if_pos (by omega)]
    have hl : (!((b.length : Int) == (32 : Int))) = false := by rw [hb]; rfl
    by_cases hlt : bv b < Lo
    · refine use_run (runSDec b) ?_ ⟨hl, rfl, ?_, trivial⟩
      · rw [sdecV, if_pos hb, if_pos hlt, hf]
      · rw [hf, bv32 b hb]
        show ((if bv b < Lo then BitVec.ofNat 64 1 else BitVec.ofNat 64 0) == BitVec.ofNat 64 0) = false
        rw [if_pos hlt]; rfl
    · refine use_run (runSDec6 b) ?_ ⟨hl, rfl, ?_, trivial⟩
      · rw [sdecV, if_pos hb, if_neg hlt]
      · rw [hf, bv32 b hb]
        show ((if bv b < Lo then BitVec.ofNat 64 1 else BitVec.ofNat 64 0) == BitVec.ofNat 64 0) = true
        rw [if_neg hlt]; rfl
  · refine use_run (runSDec1 b) ?_ ⟨by simp; omega, trivial⟩
    rw [sdecV, if_neg hb]
/-! ### Methods -/
def tblS3 : List (FuncId × CtS) := [(22, .fn spRed), (33, .fn spSLeft), (27, .fn spOrd), (37, .fn (sp2 addV)), (38, .fn (sp2 subV)), (34, .fn spMul), (43, .fn spBytes)]
theorem okS3 : TblOk Try.prog tblS3 := ⟨⟨ctRed, by kernel_rfl⟩, ⟨ctSLeft, by kernel_rfl⟩, ⟨ctOrd, by kernel_rfl⟩, ⟨ctAdd, by kernel_rfl⟩, ⟨ctSub, by kernel_rfl⟩, ⟨ctMul, by kernel_rfl⟩, ⟨ctBytes, by kernel_rfl⟩, trivial⟩
theorem gsS3 : GSound Try.prog (upG (lookG tblS3)) := GSound_of_tbl okS3
theorem runSNum (a : N4) : fnS Try.prog (lookG tblS3) orc0 [] 10 23 [.val true [.n4 a]] =
    some (AV.val true [IV.n4 (redN a)], []) := by kernel_rfl
theorem ctSNum : CtSOk Try.prog 23 (.fn spRed) := FnS_of_fnS gsS3 fol fun ds r cs h hc => by
  unfold spRed at h
  split at h
  case h_2 => simp at h
  rename_i a
  simp only [Option.some.injEq, Prod.mk.injEq] at h
  obtain ⟨rfl, rfl⟩ := h
  exact use_run (runSNum a) rfl trivial
def tblS4 : List (FuncId × CtS) := (23, .fn spRed) :: tblS3
theorem gsS4 : GSound Try.prog (upG (lookG tblS4)) := GSound_of_tbl ⟨⟨ctSNum, by kernel_rfl⟩, okS3⟩
theorem runSBytes (a : N4) : fnS Try.prog (lookG tblS4) orc0 [] 10 25 [.val true [.n4 a]] =
    some (sc (IV.d8 (cutL (bl (val (redN a)) 32) 0 (bl (val (redN a)) 32).length (bl (val (redN a)) 32).length)), [0 + (bl (val (redN a)) 32).length ≤ (bl (val (redN a)) 32).length]) := by kernel_rfl
theorem runSAdd (a b : N4) : fnS Try.prog (lookG tblS4) orc0 [] 10 17 [.val true [.n4 a], .val true [.n4 b]] =
    some (AV.val true [IV.n4 (redN (ofN (val (redN a) + val (redN b))))], []) := by kernel_rfl
theorem runSMul (a b : N4) : fnS Try.prog (lookG tblS4) orc0 [] 10 11 [.val true [.n4 a], .val true [.n4 b]] =
    some (AV.val true [IV.n4 (ofN (wide (ofN (val (redN a) * val (redN b))) (ofN (val (redN a) * val (redN b) / 115792089237316195423570985008687907853269984665640564039457584007913129639936)) % 7237005577332262213973186563042994240857116359379907606001950938285454250989))], []) := by kernel_rfl
theorem runSNeg (a : N4) : fnS Try.prog (lookG tblS4) orc0 [] 10 18 [.val true [.n4 a]] =
    some (AV.val true [IV.n4 (redN (ofN (123029094814648457637544171571730902094127101025020471645459534946198583890925 - val (redN a))))], []) := by kernel_rfl
theorem redV2 (a : N4) : val (redN a) = val a % Lo := redV _
theorem redN_ofN {n : Nat} (h : n < p256) : redN (ofN n) = ofN (n % Lo) := by
  unfold redN
  rw [val_ofN, Nat.mod_eq_of_lt h]
def addS (a b : N4) : N4 := ofN ((val a % Lo + val b % Lo) % Lo)
def mulS (a b : N4) : N4 := ofN ((val a % Lo * (val b % Lo)) % Lo)
def negS (a : N4) : N4 := ofN ((Lo - val a % Lo) % Lo)
def spSBytes : List AV → Option (AV × List Prop)
  | [.val true [.n4 a]] => some (sc (.d8 (bl (val a % Lo) 32)), [])
  | _ => none
theorem ctSBytes : CtSOk Try.prog 25 (.fn spSBytes) := FnS_of_fnS gsS4 fol fun ds r cs h hc => by
  unfold spSBytes at h
  split at h
  case h_2 => simp at h
  rename_i a
  simp only [Option.some.injEq, Prod.mk.injEq] at h
  obtain ⟨rfl, rfl⟩ := h
  refine use_run (runSBytes a) ?_ ⟨by omega, trivial⟩
  rw [cutL_all, redV2]
def spSBin (f : N4 → N4 → N4) : List AV → Option (AV × List Prop)
  | [.val true [.n4 a], .val true [.n4 b]] => some (.val true [.n4 (f a b)], [])
  | _ => none
theorem mod_Lo (n : Nat) : n % Lo < Lo := Nat.mod_lt _ Lo_pos
theorem ctSAdd : CtSOk Try.prog 17 (.fn (spSBin addS)) := FnS_of_fnS gsS4 fol fun ds r cs h hc => by
  unfold spSBin at h
  split at h
  case h_2 => simp at h
  rename_i a b
  simp only [Option.some.injEq, Prod.mk.injEq] at h
  obtain ⟨rfl, rfl⟩ := h
  refine use_run (runSAdd a b) ?_ trivial
  have ha := mod_Lo (val a)
  have hb := mod_Lo (val b)
  have h2 : 2 * Lo < p256 := by decide
  rw [redN_ofN (by rw [redV2, redV2]; omega), redV2, redV2]
  rfl
theorem ctSMul : CtSOk Try.prog 11 (.fn (spSBin mulS)) := FnS_of_fnS gsS4 fol fun ds r cs h hc => by
  unfold spSBin at h
  split at h
  case h_2 => simp at h
  rename_i a b
  simp only [Option.some.injEq, Prod.mk.injEq] at h
  obtain ⟨rfl, rfl⟩ := h
  refine use_run (runSMul a b) ?_ trivial
  have ha := mod_Lo (val a)
  have hb := mod_Lo (val b)
  have hlt : val (redN a) * val (redN b) < p256 * p256 := Nat.mul_lt_mul'' (val_lt _) (val_lt _)
  have hpos : 0 < p256 := by decide
  have hw : wide (ofN (val (redN a) * val (redN b))) (ofN (val (redN a) * val (redN b) / p256)) = val (redN a) * val (redN b) := by
    have h4 : val (redN a) * val (redN b) / p256 < p256 := by rw [Nat.div_lt_iff_lt_mul hpos]; exact hlt
    rw [wide, val_ofN, val_ofN, Nat.mod_eq_of_lt h4]
    exact Nat.mod_add_div _ p256
  show AV.val true [IV.n4 (ofN (wide (ofN (val (redN a) * val (redN b))) (ofN (val (redN a) * val (redN b) / p256)) % Lo))] = _
  rw [hw, redV2, redV2]
  rfl
def spSUn (f : N4 → N4) : List AV → Option (AV × List Prop)
  | [.val true [.n4 a]] => some (.val true [.n4 (f a)], [])
  | _ => none
theorem ctSNeg : CtSOk Try.prog 18 (.fn (spSUn negS)) := FnS_of_fnS gsS4 fol fun ds r cs h hc => by
  unfold spSUn at h
  split at h
  case h_2 => simp at h
  rename_i a
  simp only [Option.some.injEq, Prod.mk.injEq] at h
  obtain ⟨rfl, rfl⟩ := h
  refine use_run (runSNeg a) ?_ trivial
  have ha := mod_Lo (val a)
  have e : redN (ofN (Lo + p256 - val (redN a))) = ofN ((Lo - val a % Lo) % Lo) := by
    have e1 : ofN (Lo + p256 - val (redN a)) = ofN (Lo - val a % Lo) := by
      rw [redV2, ← ofN_mod (Lo + p256 - val a % Lo)]
      have : (Lo + p256 - val a % Lo) % p256 = Lo - val a % Lo := by
        have h3 : Lo + p256 - val a % Lo = Lo - val a % Lo + p256 := by omega
        rw [h3, Nat.add_mod_right]
        exact Nat.mod_eq_of_lt (by have := Lo_lt; omega)
      rw [this]
    rw [e1, redN_ofN (by have := Lo_lt; omega)]
  exact congrArg (fun x => AV.val true [IV.n4 x]) e
end Go.Proofs.Ytmdfhomeokfgiaa
