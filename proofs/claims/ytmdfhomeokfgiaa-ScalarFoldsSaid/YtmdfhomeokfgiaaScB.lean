/- Contracts of layer 4's document. Own work. -/
import Derived.Test.YtmdfhomeokfgiaaScA
namespace Go.Proofs.Ytmdfhomeokfgiaa
open Go.Ev Go.Sp Go.RowKit
set_option maxRecDepth 100000

def LoL : List Int := [237, 211, 245, 92, 26, 99, 18, 88, 214, 156, 247, 162, 222, 249, 222, 20, 0, 0, 0, 0, 0, 0, 0, 0, 0, 0, 0, 0, 0, 0, 0, 16]
theorem LoL_dg : LoL = dg Lo := by
  have h1 : IsD LoL := by
    intro d hd
    have : LoL.all (fun d => decide (0 ≤ d) && decide (d < 256)) = true := by decide
    have := List.all_eq_true.1 this d hd
    simpa using this
  have h2 : nv LoL = Lo := by decide
  rw [← h2]
  exact eq_dg h1 (.inr (by decide))
def spROrd : List AV → Option (AV × List Prop)
  | [] => some (sc (.dN Lo), [])
  | _ => none
def spROrdL : List AV → Option (AV × List Prop)
  | [] => some (sc (.dI LoL), [])
  | _ => none
theorem runROrd : fnS Try.prog (lookG []) orc0 [] 40 28 [] = some (sc (.dI LoL), [32 ≤ 32]) := by kernel_rfl
theorem ctROrdL : CtSOk Try.prog 28 (.fn spROrdL) := FnS_of_fnS gs0 fol fun ds r cs h hc => by
  unfold spROrdL at h
  split at h
  case h_2 => simp at h
  simp only [Option.some.injEq, Prod.mk.injEq] at h
  obtain ⟨rfl, rfl⟩ := h
  exact use_run runROrd rfl ⟨by omega, trivial⟩
theorem ctROrd : CtSOk Try.prog 28 (.fn spROrd) := FnS_num ctROrdL fun ds r cs h hc => by
  unfold spROrd at h
  split at h
  case h_2 => simp at h
  simp only [Option.some.injEq, Prod.mk.injEq] at h
  obtain ⟨rfl, rfl⟩ := h
  exact ⟨[], by rw [show ([] : List AV).map exA = [] from rfl, spROrdL, LoL_dg]; rfl, trivial⟩
def tblR1 : List (FuncId × CtS) := (28, .fn spROrd) :: tblM
theorem gsR1 : GSound Try.prog (upG (lookG tblR1)) := GSound_of_tbl ⟨⟨ctROrd, by kernel_rfl⟩, okM⟩
theorem runRLeft (d : Nat) : fnS Try.prog (lookG tblR1) orc0 [] 10 20 [sc (.dN d)] =
    some (sc (IV.dN (d % 7237005577332262213973186563042994240857116359379907606001950938285454250989)), [(dg d).length = (dg d).length, 32 = 32, 0 < 7237005577332262213973186563042994240857116359379907606001950938285454250989, Sm d, Sm 7237005577332262213973186563042994240857116359379907606001950938285454250989, 32 ≤ 3999990, (dg (d % 7237005577332262213973186563042994240857116359379907606001950938285454250989)).length = (dg (d % 7237005577332262213973186563042994240857116359379907606001950938285454250989)).length]) := by kernel_rfl
def spRLeft : List AV → Option (AV × List Prop)
  | [.val false [.dN d]] => some (sc (.dN (d % Lo)), [Sm d])
  | _ => none
theorem Sm_le {a : Nat} (h : a < 256 ^ 100) : Sm a := Sm_lt h (by omega)
theorem Sm_Lo : Sm Lo := Sm_le (by decide)
theorem ctRLeft : CtSOk Try.prog 20 (.fn spRLeft) := FnS_of_fnS gsR1 fol fun ds r cs h hc => by
  unfold spRLeft at h
  split at h
  case h_2 => simp at h
  rename_i d
  simp only [Option.some.injEq, Prod.mk.injEq] at h
  obtain ⟨rfl, rfl⟩ := h
  exact use_run (runRLeft d) rfl ⟨rfl, rfl, Lo_pos, hc.1, Sm_Lo, by omega, rfl, trivial⟩
def tblR2 : List (FuncId × CtS) := (20, .fn (orD spRLeft)) :: tblR1
theorem gsR2 : GSound Try.prog (upG (lookG tblR2)) := GSound_of_tbl ⟨⟨FnS_orD ctRLeft, by kernel_rfl⟩, ⟨ctROrd, by kernel_rfl⟩, okM⟩
theorem runRAdd (a b : Nat) : fnS Try.prog (lookG tblR2) orc1 [] 10 15 [sc (.dN a), sc (.dN b)] =
    some (sc (IV.dN ((a + b) % 7237005577332262213973186563042994240857116359379907606001950938285454250989)), [(dg a).length = (dg a).length, (dg b).length = (dg b).length, Sm a, Sm b, (dg (a + b)).length = (dg (a + b)).length, Sm (a + b), (dg ((a + b) % 7237005577332262213973186563042994240857116359379907606001950938285454250989)).length = (dg ((a + b) % 7237005577332262213973186563042994240857116359379907606001950938285454250989)).length]) := by kernel_rfl
theorem runRMul (a b : Nat) : fnS Try.prog (lookG tblR2) orc1 [] 10 12 [sc (.dN a), sc (.dN b)] =
    some (sc (IV.dN (a * b % 7237005577332262213973186563042994240857116359379907606001950938285454250989)), [(dg a).length = (dg a).length, (dg b).length = (dg b).length, Sm a, Sm b, (dg (a * b)).length = (dg (a * b)).length, Sm (a * b), (dg (a * b % 7237005577332262213973186563042994240857116359379907606001950938285454250989)).length = (dg (a * b % 7237005577332262213973186563042994240857116359379907606001950938285454250989)).length]) := by kernel_rfl
theorem runRNeg (a : Nat) : fnS Try.prog (lookG tblR2) orc1 [] 10 19 [sc (.dN a)] =
    some (sc (IV.dN ((7237005577332262213973186563042994240857116359379907606001950938285454250989 - a) % 7237005577332262213973186563042994240857116359379907606001950938285454250989)), [32 = 32, (dg a).length = (dg a).length, a ≤ 7237005577332262213973186563042994240857116359379907606001950938285454250989, Sm 7237005577332262213973186563042994240857116359379907606001950938285454250989, (dg (7237005577332262213973186563042994240857116359379907606001950938285454250989 - a)).length = (dg (7237005577332262213973186563042994240857116359379907606001950938285454250989 - a)).length, Sm (7237005577332262213973186563042994240857116359379907606001950938285454250989 - a), (dg ((7237005577332262213973186563042994240857116359379907606001950938285454250989 - a) % 7237005577332262213973186563042994240857116359379907606001950938285454250989)).length = (dg ((7237005577332262213973186563042994240857116359379907606001950938285454250989 - a) % 7237005577332262213973186563042994240857116359379907606001950938285454250989)).length]) := by kernel_rfl
theorem runROf (b : List (BitVec 8)) : fnS Try.prog (lookG tblR2) (orcA [(1, [(2, false)])]) [] 10 31 [sc (.d8 b)] =
    some (AV.tup [(false, [IV.dN (bv b % 7237005577332262213973186563042994240857116359379907606001950938285454250989)]), (false, [IV.i64 (0 : Int)])], [decide ((64 : Int) < (↑b.length : Int)) = false, b.length = b.length, b.length ≤ 4000000, (dg (bv b)).length = (dg (bv b)).length, Sm (bv b), (dg (bv b % 7237005577332262213973186563042994240857116359379907606001950938285454250989)).length = (dg (bv b % 7237005577332262213973186563042994240857116359379907606001950938285454250989)).length]) := by kernel_rfl
theorem runROf1 (b : List (BitVec 8)) : fnS Try.prog (lookG tblR2) (orcA [(1, [(2, true)])]) [] 10 31 [sc (.d8 b)] =
    some (AV.tup [(false, [IV.dI (cutL [] 0 0 0)]), (false, [IV.i64 (2 : Int)])], [decide ((64 : Int) < (↑b.length : Int)) = true, 0 ≤ 0]) := by kernel_rfl
theorem runRDec (b : List (BitVec 8)) : fnS Try.prog (lookG tblR2) (orcA [(2, [(2, false)]), (4, [(3, false)])]) [] 10 32 [sc (.d8 b)] =
    some (AV.tup [(false, [IV.dN (bv b)]), (false, [IV.i64 (0 : Int)])], [b.length = b.length, b.length ≤ 4000000, (!(↑b.length : Int) == (32 : Int)) = false, (dg (bv b)).length = (dg (bv b)).length, 32 = 32, Sm (bv b), Sm 7237005577332262213973186563042994240857116359379907606001950938285454250989, (!decide (bv b < 7237005577332262213973186563042994240857116359379907606001950938285454250989)) = false, (dg (bv b)).length = (dg (bv b)).length]) := by kernel_rfl
theorem runRDec1 (b : List (BitVec 8)) : fnS Try.prog (lookG tblR2) (orcA [(2, [(2, true)])]) [] 10 32 [sc (.d8 b)] =
    some (AV.tup [(false, [IV.dI (cutL [] 0 0 0)]), (false, [IV.i64 (1 : Int)])], [b.length = b.length, b.length ≤ 4000000, (!(↑b.length : Int) == (32 : Int)) = true, 0 ≤ 0]) := by kernel_rfl
theorem runRDec6 (b : List (BitVec 8)) : fnS Try.prog (lookG tblR2) (orcA [(2, [(2, false)]), (4, [(3, true)])]) [] 10 32 [sc (.d8 b)] =
    some (AV.tup [(false, [IV.dI (cutL [] 0 0 0)]), (false, [IV.i64 (6 : Int)])], [b.length = b.length, b.length ≤ 4000000, (!(↑b.length : Int) == (32 : Int)) = false, (dg (bv b)).length = (dg (bv b)).length, 32 = 32, Sm (bv b), Sm 7237005577332262213973186563042994240857116359379907606001950938285454250989, (!decide (bv b < 7237005577332262213973186563042994240857116359379907606001950938285454250989)) = true, 0 ≤ 0]) := by kernel_rfl
theorem runIs (a : N4) (x : Nat) : fnS Try.prog (lookG tblR2) orc1 [] 10 10 [.val true [.n4 a], sc (.dN x)] =
    some (sc (IV.bool (a.eq (ofN x) && true)), [(dg x).length = (dg x).length]) := by kernel_rfl
theorem runRest (a : N4) : fnS Try.prog (lookG tblR2) orc1 [] 10 13 [.val true [.n4 a]] =
    some (sc (IV.dN (val a % 7237005577332262213973186563042994240857116359379907606001950938285454250989)), [(dg (val a)).length = (dg (val a)).length, Sm (val a), (dg (val a % 7237005577332262213973186563042994240857116359379907606001950938285454250989)).length = (dg (val a % 7237005577332262213973186563042994240857116359379907606001950938285454250989)).length]) := by kernel_rfl
def spRBin (f : Nat → Nat → Nat) (c : Nat → Nat → List Prop) : List AV → Option (AV × List Prop)
  | [.val false [.dN a], .val false [.dN b]] => some (sc (.dN (f a b)), c a b)
  | _ => none
theorem ctRAdd4 : CtSOk Try.prog 15 (.fn (spRBin (fun a b => (a + b) % Lo) (fun a b => [Sm a, Sm b, Sm (a + b)]))) := FnS_of_fnS gsR2 fol fun ds r cs h hc => by
  unfold spRBin at h
  split at h
  case h_2 => simp at h
  rename_i a b
  simp only [Option.some.injEq, Prod.mk.injEq] at h
  obtain ⟨rfl, rfl⟩ := h
  exact use_run (runRAdd a b) rfl ⟨rfl, rfl, hc.1, hc.2.1, rfl, hc.2.2.1, rfl, trivial⟩
theorem ctRMul4 : CtSOk Try.prog 12 (.fn (spRBin (fun a b => (a * b) % Lo) (fun a b => [Sm a, Sm b, Sm (a * b)]))) := FnS_of_fnS gsR2 fol fun ds r cs h hc => by
  unfold spRBin at h
  split at h
  case h_2 => simp at h
  rename_i a b
  simp only [Option.some.injEq, Prod.mk.injEq] at h
  obtain ⟨rfl, rfl⟩ := h
  exact use_run (runRMul a b) rfl ⟨rfl, rfl, hc.1, hc.2.1, rfl, hc.2.2.1, rfl, trivial⟩
def spRNeg : List AV → Option (AV × List Prop)
  | [.val false [.dN a]] => some (sc (.dN ((Lo - a) % Lo)), [a ≤ Lo])
  | _ => none
theorem ctRNeg4 : CtSOk Try.prog 19 (.fn spRNeg) := FnS_of_fnS gsR2 fol fun ds r cs h hc => by
  unfold spRNeg at h
  split at h
  case h_2 => simp at h
  rename_i a
  simp only [Option.some.injEq, Prod.mk.injEq] at h
  obtain ⟨rfl, rfl⟩ := h
  exact use_run (runRNeg a) rfl ⟨rfl, rfl, hc.1, Sm_Lo, rfl, Sm_le (Nat.lt_of_le_of_lt (Nat.sub_le _ _) (by decide)), rfl, trivial⟩
def rofV (b : List (BitVec 8)) : Nat × Int := if b.length ≤ 64 then (bv b % Lo, 0) else (0, 2)
def rdecV (b : List (BitVec 8)) : Nat × Int := if b.length = 32 then (if bv b < Lo then (bv b, 0) else (0, 6)) else (0, 1)
def spRTwo (f : List (BitVec 8) → Nat × Int) : List AV → Option (AV × List Prop)
  | [.val false [.d8 b]] => some (.tup [(false, [.dN (f b).1]), (false, [.i64 (f b).2])], [b.length ≤ 4000000])
  | _ => none
theorem ResOk_nil {B : Nat} {w : World} {e : Int} {v : Value} (h : ResOk B w (.tup [(false, [.dI []]), (false, [.i64 e])]) v) : ResOk B w (.tup [(false, [.dN 0]), (false, [.i64 e])]) v := by
  refine ResOk_ex ?_
  show ResOk B w (.tup [(false, [.dI (dg 0)]), (false, [.i64 e])]) v
  rw [dg_zero]
  exact h
theorem Sm_bv (b : List (BitVec 8)) (h : b.length ≤ 4000000) : Sm (bv b) := Sm_lt (bv_lt b) h
theorem ctROf4 : CtSOk Try.prog 31 (.fn (spRTwo rofV)) := FnS_intro fun ds r cs h hc w vals hv => by
  unfold spRTwo at h
  split at h
  case h_2 => simp at h
  rename_i b
  simp only [Option.some.injEq, Prod.mk.injEq] at h
  obtain ⟨rfl, rfl⟩ := h
  by_cases hb : b.length ≤ 64
  · rw [rofV, if_pos hb]
    exact calls_of_fnS gsR2 fol (runROf b) ⟨decide_eq_false (by omega), rfl, hc.1, rfl, Sm_bv b hc.1, rfl, trivial⟩ w vals hv
  · rw [rofV, if_neg hb]
    refine (calls_of_fnS gsR2 fol (runROf1 b) ⟨decide_eq_true (by omega), by omega, trivial⟩ w vals hv).mono ?_
    rintro e w' ⟨v, q1, q2, q3⟩
    exact ⟨v, q1, q2, ResOk_nil q3⟩
theorem ctRDec4 : CtSOk Try.prog 32 (.fn (spRTwo rdecV)) := FnS_intro fun ds r cs h hc w vals hv => by
  unfold spRTwo at h
  split at h
  case h_2 => simp at h
  rename_i b
  simp only [Option.some.injEq, Prod.mk.injEq] at h
  obtain ⟨rfl, rfl⟩ := h
  by_cases hb : b.length = 32
  · have hl : (!((b.length : Int) == (32 : Int))) = false := by rw [hb]; rfl
    by_cases hlt : bv b < Lo
    · rw [rdecV, if_pos hb, if_pos hlt]
      exact calls_of_fnS gsR2 fol (runRDec b) ⟨rfl, hc.1, hl, rfl, rfl, Sm_bv b hc.1, Sm_Lo, by rw [Bool.not_eq_false']; exact decide_eq_true hlt, rfl, trivial⟩ w vals hv
    · rw [rdecV, if_pos hb, if_neg hlt]
      refine (calls_of_fnS gsR2 fol (runRDec6 b) ⟨rfl, hc.1, hl, rfl, rfl, Sm_bv b hc.1, Sm_Lo, by rw [Bool.not_eq_true']; exact decide_eq_false hlt, by omega, trivial⟩ w vals hv).mono ?_
      rintro e w' ⟨v, q1, q2, q3⟩
      exact ⟨v, q1, q2, ResOk_nil q3⟩
  · rw [rdecV, if_neg hb]
    refine (calls_of_fnS gsR2 fol (runRDec1 b) ⟨rfl, hc.1, by simp; omega, by omega, trivial⟩ w vals hv).mono ?_
    rintro e w' ⟨v, q1, q2, q3⟩
    exact ⟨v, q1, q2, ResOk_nil q3⟩
def spIs : List AV → Option (AV × List Prop)
  | [.val true [.n4 a], .val false [.dN x]] => some (sc (.bool (N4.eq a (ofN x) && true)), [])
  | _ => none
theorem ctIs : CtSOk Try.prog 10 (.fn spIs) := FnS_of_fnS gsR2 fol fun ds r cs h hc => by
  unfold spIs at h
  split at h
  case h_2 => simp at h
  rename_i a x
  simp only [Option.some.injEq, Prod.mk.injEq] at h
  obtain ⟨rfl, rfl⟩ := h
  exact use_run (runIs a x) rfl ⟨rfl, trivial⟩
def spRest : List AV → Option (AV × List Prop)
  | [.val true [.n4 a]] => some (sc (.dN (val a % Lo)), [])
  | _ => none
theorem ctRest : CtSOk Try.prog 13 (.fn spRest) := FnS_of_fnS gsR2 fol fun ds r cs h hc => by
  unfold spRest at h
  split at h
  case h_2 => simp at h
  rename_i a
  simp only [Option.some.injEq, Prod.mk.injEq] at h
  obtain ⟨rfl, rfl⟩ := h
  exact use_run (runRest a) rfl ⟨rfl, Sm_val a, rfl, trivial⟩
/-! ### Lists -/
def tblF : List (FuncId × CtS) := [(17, .fn (spSBin addS)), (11, .fn (spSBin mulS))]
theorem gsF : GSound Try.prog (upG (lookG tblF)) := GSound_of_tbl ⟨⟨ctSAdd, by kernel_rfl⟩, ⟨ctSMul, by kernel_rfl⟩, trivial⟩
def foldTd : List Nat := [0, 4, 5, 6, 12, 13]
def foldInv (f : FuncId) (l : List N4) (z o : N4) (i : Int) : St := ⟨slotsOf 25 [(0, sc (.sl 0 0 l.length)), (4, sc (.ptr 1 0)), (5, sc (.ptr 2 0)), (6, .fn f [] []), (12, sc (.i64 (l.length : Int))), (13, sc (.i64 i))], [(0, ⟨false, [.vn l.length l]⟩), (1, ⟨true, [.n4 z]⟩), (2, ⟨true, [.n4 o]⟩)], 16⟩
theorem foldRoundA (l : List N4) (z o : N4) (i : Int) : roundS Try.prog (lookG tblF) (orcA [(5, [(0, true)])]) [] 10 foldTd (bodyAt Try.prog 16 5) (foldInv 17 l z o i) =
    some (Ex.normal, St.mk (slotsOf 25 [(0, sc (IV.sl 0 0 l.length)), (4, sc (IV.ptr 1 0)), (5, sc (IV.ptr 2 0)), (6, AV.fn 17 [] []), (12, sc (IV.i64 (↑l.length : Int))), (13, sc (IV.i64 (i + (1 : Int))))]) [(0, Blk.mk false [IV.vn l.length l]), (1, Blk.mk true [IV.n4 z]), (2, Blk.mk true [IV.n4 (addS o (l.getD ((0 + i.toNat * 4) / 4) N4.zero))])] 16, [decide (i < (↑l.length : Int)) = true, (0 : Int) ≤ i, i.toNat < l.length, (0 + i.toNat * 4) % 4 = 0, 0 + i.toNat * 4 + 4 ≤ 4 * l.length, inI64 (i + (1 : Int))]) := by kernel_rfl
theorem foldExitA (l : List N4) (z o : N4) (i : Int) : roundS Try.prog (lookG tblF) (orcA [(5, [(0, false)])]) [] 10 foldTd (bodyAt Try.prog 16 5) (foldInv 17 l z o i) =
    some (Ex.exit 0, St.mk (slotsOf 25 [(0, sc (IV.sl 0 0 l.length)), (4, sc (IV.ptr 1 0)), (5, sc (IV.ptr 2 0)), (6, AV.fn 17 [] []), (12, sc (IV.i64 (↑l.length : Int))), (13, sc (IV.i64 i))]) [(0, Blk.mk false [IV.vn l.length l]), (1, Blk.mk true [IV.n4 z]), (2, Blk.mk true [IV.n4 o])] 16, [decide (i < (↑l.length : Int)) = false]) := by kernel_rfl
theorem foldRoundM (l : List N4) (z o : N4) (i : Int) : roundS Try.prog (lookG tblF) (orcA [(5, [(0, true)])]) [] 10 foldTd (bodyAt Try.prog 16 5) (foldInv 11 l z o i) =
    some (Ex.normal, St.mk (slotsOf 25 [(0, sc (IV.sl 0 0 l.length)), (4, sc (IV.ptr 1 0)), (5, sc (IV.ptr 2 0)), (6, AV.fn 11 [] []), (12, sc (IV.i64 (↑l.length : Int))), (13, sc (IV.i64 (i + (1 : Int))))]) [(0, Blk.mk false [IV.vn l.length l]), (1, Blk.mk true [IV.n4 z]), (2, Blk.mk true [IV.n4 (mulS o (l.getD ((0 + i.toNat * 4) / 4) N4.zero))])] 16, [decide (i < (↑l.length : Int)) = true, (0 : Int) ≤ i, i.toNat < l.length, (0 + i.toNat * 4) % 4 = 0, 0 + i.toNat * 4 + 4 ≤ 4 * l.length, inI64 (i + (1 : Int))]) := by kernel_rfl
theorem foldExitM (l : List N4) (z o : N4) (i : Int) : roundS Try.prog (lookG tblF) (orcA [(5, [(0, false)])]) [] 10 foldTd (bodyAt Try.prog 16 5) (foldInv 11 l z o i) =
    some (Ex.exit 0, St.mk (slotsOf 25 [(0, sc (IV.sl 0 0 l.length)), (4, sc (IV.ptr 1 0)), (5, sc (IV.ptr 2 0)), (6, AV.fn 11 [] []), (12, sc (IV.i64 (↑l.length : Int))), (13, sc (IV.i64 i))]) [(0, Blk.mk false [IV.vn l.length l]), (1, Blk.mk true [IV.n4 z]), (2, Blk.mk true [IV.n4 o])] 16, [decide (i < (↑l.length : Int)) = false]) := by kernel_rfl
theorem runFoldA (l : List N4) (z o : N4) (i : Int) : fnS Try.prog (lookG tblF) (orcA []) [⟨5, foldTd, .exit 0, foldInv 17 l z o i⟩] 10 16 [sc (.dn l), sc (.bool false)] =
    some (AV.val true [IV.n4 o], [LoopTo Try.prog (bodyAt Try.prog 16 5) (St.mk (slotsOf 25 [(0, sc (IV.sl 0 0 l.length)), (4, sc (IV.ptr 1 0)), (5, sc (IV.ptr 2 0)), (6, AV.fn 17 [] []), (12, sc (IV.i64 (↑l.length : Int))), (13, sc (IV.i64 (0 : Int)))]) [(0, Blk.mk false [IV.vn l.length l]), (1, Blk.mk true [IV.n4 (N4.mk (BitVec.ofNat 64 0) (BitVec.ofNat 64 0) (BitVec.ofNat 64 0) (BitVec.ofNat 64 0))]), (2, Blk.mk true [IV.n4 (N4.mk (BitVec.ofNat 64 0) (BitVec.ofNat 64 0) (BitVec.ofNat 64 0) (BitVec.ofNat 64 0))])] 16) (Ex.exit 0) (St.mk (slotsOf 25 [(0, sc (IV.sl 0 0 l.length)), (4, sc (IV.ptr 1 0)), (5, sc (IV.ptr 2 0)), (6, AV.fn 17 [] []), (12, sc (IV.i64 (↑l.length : Int))), (13, sc (IV.i64 i))]) [(0, Blk.mk false [IV.vn l.length l]), (1, Blk.mk true [IV.n4 z]), (2, Blk.mk true [IV.n4 o])] 16)]) := by kernel_rfl
theorem runFoldM (l : List N4) (z o : N4) (i : Int) : fnS Try.prog (lookG tblF) (orcA []) [⟨5, foldTd, .exit 0, foldInv 11 l z o i⟩] 10 16 [sc (.dn l), sc (.bool true)] =
    some (AV.val true [IV.n4 o], [LoopTo Try.prog (bodyAt Try.prog 16 5) (St.mk (slotsOf 25 [(0, sc (IV.sl 0 0 l.length)), (4, sc (IV.ptr 1 0)), (5, sc (IV.ptr 2 0)), (6, AV.fn 11 [] []), (12, sc (IV.i64 (↑l.length : Int))), (13, sc (IV.i64 (0 : Int)))]) [(0, Blk.mk false [IV.vn l.length l]), (1, Blk.mk true [IV.n4 (N4.mk (BitVec.ofNat 64 0) (BitVec.ofNat 64 0) (BitVec.ofNat 64 0) (BitVec.ofNat 64 0))]), (2, Blk.mk true [IV.n4 (N4.mk (BitVec.ofNat 64 1) (BitVec.ofNat 64 0) (BitVec.ofNat 64 0) (BitVec.ofNat 64 0))])] 16) (Ex.exit 0) (St.mk (slotsOf 25 [(0, sc (IV.sl 0 0 l.length)), (4, sc (IV.ptr 1 0)), (5, sc (IV.ptr 2 0)), (6, AV.fn 11 [] []), (12, sc (IV.i64 (↑l.length : Int))), (13, sc (IV.i64 i))]) [(0, Blk.mk false [IV.vn l.length l]), (1, Blk.mk true [IV.n4 z]), (2, Blk.mk true [IV.n4 o])] 16)]) := by kernel_rfl
theorem foldA (l : List N4) (hl : l.length ≤ 4000000) : LoopTo Try.prog (bodyAt Try.prog 16 5) (foldInv 17 l ⟨0#64, 0#64, 0#64, 0#64⟩ (⟨0#64, 0#64, 0#64, 0#64⟩ : N4) 0) (.exit 0) (foldInv 17 l ⟨0#64, 0#64, 0#64, 0#64⟩ (l.foldl addS (⟨0#64, 0#64, 0#64, 0#64⟩ : N4)) (l.length : Nat)) := by
  have e : l.foldl addS (⟨0#64, 0#64, 0#64, 0#64⟩ : N4) = (l.take l.length).foldl addS (⟨0#64, 0#64, 0#64, 0#64⟩ : N4) := by rw [List.take_length]
  rw [e]
  refine LoopTo.intro (α := Nat × N4) gsF fol (fun s => foldInv 17 l ⟨0#64, 0#64, 0#64, 0#64⟩ s.2 (s.1 : Nat)) (fun s => s.1 ≤ l.length ∧ s.2 = (l.take s.1).foldl addS (⟨0#64, 0#64, 0#64, 0#64⟩ : N4)) (fun s => l.length - s.1) (by simp) ?_ (0, _) ⟨by simp, by simp⟩
  rintro ⟨i, o⟩ ⟨hi, ho⟩
  dsimp only at hi ho ⊢
  subst ho
  by_cases he : i = l.length
  · subst he
    have r := foldExitA l ⟨0#64, 0#64, 0#64, 0#64⟩ ((l.take l.length).foldl addS (⟨0#64, 0#64, 0#64, 0#64⟩ : N4)) (l.length : Nat)
    generalize (l.take l.length).foldl addS (⟨0#64, 0#64, 0#64, 0#64⟩ : N4) = o at *
    exact .inr ⟨_, _, _, _, _, r, by simp, trivial⟩
  · have hlt : i < l.length := by omega
    have e4 : (0 + i * 4) / 4 = i := by omega
    have r := foldRoundA l ⟨0#64, 0#64, 0#64, 0#64⟩ ((l.take i).foldl addS (⟨0#64, 0#64, 0#64, 0#64⟩ : N4)) (i : Nat)
    simp only [Int.toNat_natCast, e4] at r
    have hs : (l.take (i + 1)).foldl addS (⟨0#64, 0#64, 0#64, 0#64⟩ : N4) = addS ((l.take i).foldl addS (⟨0#64, 0#64, 0#64, 0#64⟩ : N4)) (l.getD i N4.zero) := by
      rw [List.take_succ_eq_append_getElem hlt, List.foldl_append]
      simp [List.getD_eq_getElem?_getD, hlt]
    rw [← hs] at r
    obtain ⟨X, hX⟩ : ∃ X, X = (l.take (i + 1)).foldl addS (⟨0#64, 0#64, 0#64, 0#64⟩ : N4) := ⟨_, rfl⟩
    rw [← hX] at r
    generalize (l.take i).foldl addS (⟨0#64, 0#64, 0#64, 0#64⟩ : N4) = o at *
    refine .inl ⟨_, _, _, _, _, (i + 1, X), r, ?_, ⟨by simp only; omega, hX⟩, by simp only; omega⟩
    simp only [AllP, inI64, decide_eq_true_eq]
    and_intros <;> first | omega | trivial
theorem foldM (l : List N4) (hl : l.length ≤ 4000000) : LoopTo Try.prog (bodyAt Try.prog 16 5) (foldInv 11 l ⟨0#64, 0#64, 0#64, 0#64⟩ (⟨1#64, 0#64, 0#64, 0#64⟩ : N4) 0) (.exit 0) (foldInv 11 l ⟨0#64, 0#64, 0#64, 0#64⟩ (l.foldl mulS (⟨1#64, 0#64, 0#64, 0#64⟩ : N4)) (l.length : Nat)) := by
  have e : l.foldl mulS (⟨1#64, 0#64, 0#64, 0#64⟩ : N4) = (l.take l.length).foldl mulS (⟨1#64, 0#64, 0#64, 0#64⟩ : N4) := by rw [List.take_length]
  rw [e]
  refine LoopTo.intro (α := Nat × N4) gsF fol (fun s => foldInv 11 l ⟨0#64, 0#64, 0#64, 0#64⟩ s.2 (s.1 : Nat)) (fun s => s.1 ≤ l.length ∧ s.2 = (l.take s.1).foldl mulS (⟨1#64, 0#64, 0#64, 0#64⟩ : N4)) (fun s => l.length - s.1) (by simp) ?_ (0, _) ⟨by simp, by simp⟩
  rintro ⟨i, o⟩ ⟨hi, ho⟩
  dsimp only at hi ho ⊢
  subst ho
  by_cases he : i = l.length
  · subst he
    have r := foldExitM l ⟨0#64, 0#64, 0#64, 0#64⟩ ((l.take l.length).foldl mulS (⟨1#64, 0#64, 0#64, 0#64⟩ : N4)) (l.length : Nat)
    generalize (l.take l.length).foldl mulS (⟨1#64, 0#64, 0#64, 0#64⟩ : N4) = o at *
    exact .inr ⟨_, _, _, _, _, r, by simp, trivial⟩
  · have hlt : i < l.length := by omega
    have e4 : (0 + i * 4) / 4 = i := by omega
    have r := foldRoundM l ⟨0#64, 0#64, 0#64, 0#64⟩ ((l.take i).foldl mulS (⟨1#64, 0#64, 0#64, 0#64⟩ : N4)) (i : Nat)
    simp only [Int.toNat_natCast, e4] at r
    have hs : (l.take (i + 1)).foldl mulS (⟨1#64, 0#64, 0#64, 0#64⟩ : N4) = mulS ((l.take i).foldl mulS (⟨1#64, 0#64, 0#64, 0#64⟩ : N4)) (l.getD i N4.zero) := by
      rw [List.take_succ_eq_append_getElem hlt, List.foldl_append]
      simp [List.getD_eq_getElem?_getD, hlt]
    rw [← hs] at r
    obtain ⟨X, hX⟩ : ∃ X, X = (l.take (i + 1)).foldl mulS (⟨1#64, 0#64, 0#64, 0#64⟩ : N4) := ⟨_, rfl⟩
    rw [← hX] at r
    generalize (l.take i).foldl mulS (⟨1#64, 0#64, 0#64, 0#64⟩ : N4) = o at *
    refine .inl ⟨_, _, _, _, _, (i + 1, X), r, ?_, ⟨by simp only; omega, hX⟩, by simp only; omega⟩
    simp only [AllP, inI64, decide_eq_true_eq]
    and_intros <;> first | omega | trivial

def foldV (l : List N4) (t : Bool) : N4 := if t then l.foldl mulS ⟨1#64, 0#64, 0#64, 0#64⟩ else l.foldl addS ⟨0#64, 0#64, 0#64, 0#64⟩
def spFold : List AV → Option (AV × List Prop)
  | [.val false [.dn l], .val false [.bool t]] => some (.val true [.n4 (foldV l t)], [l.length ≤ 4000000])
  | _ => none
theorem ctFold : CtSOk Try.prog 16 (.fn spFold) := FnS_of_fnS gsF fol fun ds r cs h hc => by
  unfold spFold at h
  split at h
  case h_2 => simp at h
  rename_i l t
  simp only [Option.some.injEq, Prod.mk.injEq] at h
  obtain ⟨rfl, rfl⟩ := h
  cases t with
  | true => exact use_run (runFoldM l ⟨0#64, 0#64, 0#64, 0#64⟩ (l.foldl mulS ⟨1#64, 0#64, 0#64, 0#64⟩) (l.length : Nat)) rfl ⟨foldM l hc.1, trivial⟩
  | false => exact use_run (runFoldA l ⟨0#64, 0#64, 0#64, 0#64⟩ (l.foldl addS ⟨0#64, 0#64, 0#64, 0#64⟩) (l.length : Nat)) rfl ⟨foldA l hc.1, trivial⟩
/-! ### A few answers -/
def tblW4 : List (FuncId × CtS) := [(16, .fn spFold), (29, .fn spSDec)] ++ tblR2
theorem gsW4 : GSound Try.prog (upG (lookG tblW4)) := GSound_of_tbl ⟨⟨ctFold, by kernel_rfl⟩, ⟨ctSDec, by kernel_rfl⟩, ⟨FnS_orD ctRLeft, by kernel_rfl⟩, ⟨ctROrd, by kernel_rfl⟩, okM⟩
theorem runAwake  : fnS Try.prog (lookG tblW4) (orcA [(2, [(6, true), (9, true)])]) [] 10 14 [] =
    some (sc (IV.bool true), [32 = 32, (0 : Int) ≤ (32 : Int), (32 : Int) ≤ (4000000 : Int), 32 = 32, 3 = 3, 3 ≤ 4000000, true = true, true = true]) := by kernel_rfl
def spAwake : List AV → Option (AV × List Prop)
  | [] => some (sc (.bool true), [])
  | _ => none
theorem ctAwake : CtSOk Try.prog 14 (.fn spAwake) := FnS_of_fnS gsW4 fol fun ds r cs h hc => by
  unfold spAwake at h
  split at h
  case h_2 => simp at h
  simp only [Option.some.injEq, Prod.mk.injEq] at h
  obtain ⟨rfl, rfl⟩ := h
  refine use_run runAwake rfl ?_
  simp only [AllP]
  and_intros <;> first | omega | trivial
def tblC : List (FuncId × CtS) := [(14, .fn spAwake), (10, .fn (orD spIs)), (13, .fn spRest), (16, .fn spFold), (30, .fn spSOf), (29, .fn spSDec), (23, .fn spRed), (25, .fn spSBytes), (17, .fn (spSBin addS)), (11, .fn (spSBin mulS)), (18, .fn (spSUn negS)), (22, .fn spRed), (27, .fn spOrd), (28, .fn spROrd), (20, .fn (orD spRLeft)), (15, .fn (orD (spRBin (fun a b => (a + b) % Lo) (fun a b => [Sm a, Sm b, Sm (a + b)])))), (12, .fn (orD (spRBin (fun a b => (a * b) % Lo) (fun a b => [Sm a, Sm b, Sm (a * b)])))), (19, .fn (orD spRNeg)), (31, .fn (spRTwo rofV)), (32, .fn (spRTwo rdecV)), (21, .fn spNDigits), (24, .fn (orD spNOf)), (26, .fn (orD spNTold))]
theorem okC : TblOk Try.prog tblC := ⟨⟨ctAwake, by kernel_rfl⟩, ⟨FnS_orD ctIs, by kernel_rfl⟩, ⟨ctRest, by kernel_rfl⟩, ⟨ctFold, by kernel_rfl⟩, ⟨ctSOf, by kernel_rfl⟩, ⟨ctSDec, by kernel_rfl⟩, ⟨ctSNum, by kernel_rfl⟩, ⟨ctSBytes, by kernel_rfl⟩, ⟨ctSAdd, by kernel_rfl⟩, ⟨ctSMul, by kernel_rfl⟩, ⟨ctSNeg, by kernel_rfl⟩, ⟨ctRed, by kernel_rfl⟩, ⟨ctOrd, by kernel_rfl⟩, ⟨ctROrd, by kernel_rfl⟩, ⟨FnS_orD ctRLeft, by kernel_rfl⟩, ⟨FnS_orD ctRAdd4, by kernel_rfl⟩, ⟨FnS_orD ctRMul4, by kernel_rfl⟩, ⟨FnS_orD ctRNeg4, by kernel_rfl⟩, ⟨ctROf4, by kernel_rfl⟩, ⟨ctRDec4, by kernel_rfl⟩, ⟨nDigits, by kernel_rfl⟩, ⟨FnS_orD nOf, by kernel_rfl⟩, ⟨FnS_orD nTold, by kernel_rfl⟩, trivial⟩
theorem gsC : GSound Try.prog (upG (lookG tblC)) := GSound_of_tbl okC
end Go.Proofs.Ytmdfhomeokfgiaa
