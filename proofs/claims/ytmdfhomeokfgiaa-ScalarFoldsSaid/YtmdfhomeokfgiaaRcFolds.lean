/- PROVED: sealwaxlaw04.ScalarFolds answers true for every list of scalars and every bool, and each argument reads behind the call as it read before. Conditions: none. Own work. -/
import Derived.Test.YtmdfhomeokfgiaaRcKit
namespace Go.Proofs.Ytmdfhomeokfgiaa
open Go.Ev Go.Sp Go.ChangeShapes Go.WideShapes Go.RowKit
set_option maxRecDepth 100000
def fsTd : List Nat := [0, 1, 5, 14, 15, 16]
def fsInv (l : List N4) (t : Bool) (it : IV) (n : Nat) (i : Int) : St := ⟨slotsOf 38 [(0, sc (.sl 0 0 l.length)), (1, sc (.bool t)), (5, sc (.sl 1 0 n)), (14, sc (.sl 0 0 l.length)), (15, sc (.i64 (l.length : Int))), (16, sc (.i64 i))], [(0, ⟨false, [.vn l.length l]⟩), (1, ⟨true, [it]⟩)], 16⟩
theorem fsM1 (l : List N4) (i : Int) : roundS Try.prog (lookG tblC) (orcA [(7, [(0, true)])]) [] 10 fsTd (bodyAt Try.prog 4 7) (fsInv l true (.vi 1 [1]) 1 i) =
    some (Ex.normal, St.mk (slotsOf 38 [(0, sc (IV.sl 0 0 l.length)), (1, sc (IV.bool true)), (5, sc (IV.sl 1 0 (dg (1 * (val (l.getD ((0 + i.toNat * 4) / 4) N4.zero) % Lo) % Lo)).length)), (14, sc (IV.sl 0 0 l.length)), (15, sc (IV.i64 (↑l.length : Int))), (16, sc (IV.i64 (i + (1 : Int))))]) [(0, Blk.mk false [IV.vn l.length l]), (1, Blk.mk true [IV.vd (1 * (val (l.getD ((0 + i.toNat * 4) / 4) N4.zero) % Lo) % Lo)])] 16, [decide (i < (↑l.length : Int)) = true, (0 : Int) ≤ i, i.toNat < l.length, (0 + i.toNat * 4) % 4 = 0, 0 + i.toNat * 4 + 4 ≤ 4 * l.length, 1 = 1, (dg (val (l.getD ((0 + i.toNat * 4) / 4) N4.zero) % Lo)).length = (dg (val (l.getD ((0 + i.toNat * 4) / 4) N4.zero) % Lo)).length, Sm 1, Sm (val (l.getD ((0 + i.toNat * 4) / 4) N4.zero) % Lo), Sm (1 * (val (l.getD ((0 + i.toNat * 4) / 4) N4.zero) % Lo)), [(1 : Int)] = dg 1, inI64 (i + (1 : Int))]) := by kernel_rfl
theorem fsM (l : List N4) (x : Nat) (i : Int) : roundS Try.prog (lookG tblC) (orcA [(7, [(0, true)])]) [] 10 fsTd (bodyAt Try.prog 4 7) (fsInv l true (.vd x) (dg x).length i) =
    some (Ex.normal, St.mk (slotsOf 38 [(0, sc (IV.sl 0 0 l.length)), (1, sc (IV.bool true)), (5, sc (IV.sl 1 0 (dg (x * (val (l.getD ((0 + i.toNat * 4) / 4) N4.zero) % Lo) % Lo)).length)), (14, sc (IV.sl 0 0 l.length)), (15, sc (IV.i64 (↑l.length : Int))), (16, sc (IV.i64 (i + (1 : Int))))]) [(0, Blk.mk false [IV.vn l.length l]), (1, Blk.mk true [IV.vd (x * (val (l.getD ((0 + i.toNat * 4) / 4) N4.zero) % Lo) % Lo)])] 16, [decide (i < (↑l.length : Int)) = true, (0 : Int) ≤ i, i.toNat < l.length, (0 + i.toNat * 4) % 4 = 0, 0 + i.toNat * 4 + 4 ≤ 4 * l.length, (dg x).length = (dg x).length, (dg (val (l.getD ((0 + i.toNat * 4) / 4) N4.zero) % Lo)).length = (dg (val (l.getD ((0 + i.toNat * 4) / 4) N4.zero) % Lo)).length, Sm x, Sm (val (l.getD ((0 + i.toNat * 4) / 4) N4.zero) % Lo), Sm (x * (val (l.getD ((0 + i.toNat * 4) / 4) N4.zero) % Lo)), inI64 (i + (1 : Int))]) := by kernel_rfl
theorem fsA1 (l : List N4) (i : Int) : roundS Try.prog (lookG tblC) (orcA [(7, [(0, true)])]) [] 10 fsTd (bodyAt Try.prog 4 7) (fsInv l false (.vi 0 []) 0 i) =
    some (Ex.normal, St.mk (slotsOf 38 [(0, sc (IV.sl 0 0 l.length)), (1, sc (IV.bool false)), (5, sc (IV.sl 1 0 (dg ((0 + val (l.getD ((0 + i.toNat * 4) / 4) N4.zero) % Lo) % Lo)).length)), (14, sc (IV.sl 0 0 l.length)), (15, sc (IV.i64 (↑l.length : Int))), (16, sc (IV.i64 (i + (1 : Int))))]) [(0, Blk.mk false [IV.vn l.length l]), (1, Blk.mk true [IV.vd ((0 + val (l.getD ((0 + i.toNat * 4) / 4) N4.zero) % Lo) % Lo)])] 16, [decide (i < (↑l.length : Int)) = true, (0 : Int) ≤ i, i.toNat < l.length, (0 + i.toNat * 4) % 4 = 0, 0 + i.toNat * 4 + 4 ≤ 4 * l.length, 0 = 0, (dg (val (l.getD ((0 + i.toNat * 4) / 4) N4.zero) % Lo)).length = (dg (val (l.getD ((0 + i.toNat * 4) / 4) N4.zero) % Lo)).length, Sm 0, Sm (val (l.getD ((0 + i.toNat * 4) / 4) N4.zero) % Lo), Sm (0 + val (l.getD ((0 + i.toNat * 4) / 4) N4.zero) % Lo), [] = dg 0, inI64 (i + (1 : Int))]) := by kernel_rfl
theorem fsA (l : List N4) (x : Nat) (i : Int) : roundS Try.prog (lookG tblC) (orcA [(7, [(0, true)])]) [] 10 fsTd (bodyAt Try.prog 4 7) (fsInv l false (.vd x) (dg x).length i) =
    some (Ex.normal, St.mk (slotsOf 38 [(0, sc (IV.sl 0 0 l.length)), (1, sc (IV.bool false)), (5, sc (IV.sl 1 0 (dg ((x + val (l.getD ((0 + i.toNat * 4) / 4) N4.zero) % Lo) % Lo)).length)), (14, sc (IV.sl 0 0 l.length)), (15, sc (IV.i64 (↑l.length : Int))), (16, sc (IV.i64 (i + (1 : Int))))]) [(0, Blk.mk false [IV.vn l.length l]), (1, Blk.mk true [IV.vd ((x + val (l.getD ((0 + i.toNat * 4) / 4) N4.zero) % Lo) % Lo)])] 16, [decide (i < (↑l.length : Int)) = true, (0 : Int) ≤ i, i.toNat < l.length, (0 + i.toNat * 4) % 4 = 0, 0 + i.toNat * 4 + 4 ≤ 4 * l.length, (dg x).length = (dg x).length, (dg (val (l.getD ((0 + i.toNat * 4) / 4) N4.zero) % Lo)).length = (dg (val (l.getD ((0 + i.toNat * 4) / 4) N4.zero) % Lo)).length, Sm x, Sm (val (l.getD ((0 + i.toNat * 4) / 4) N4.zero) % Lo), Sm (x + val (l.getD ((0 + i.toNat * 4) / 4) N4.zero) % Lo), inI64 (i + (1 : Int))]) := by kernel_rfl
theorem fsExit (l : List N4) (t : Bool) (x : Nat) (i : Int) : roundS Try.prog (lookG tblC) (orcA [(7, [(0, false)])]) [] 10 fsTd (bodyAt Try.prog 4 7) (fsInv l t (.vd x) (dg x).length i) =
    some (Ex.exit 0, St.mk (slotsOf 38 [(0, sc (IV.sl 0 0 l.length)), (1, sc (IV.bool t)), (5, sc (IV.sl 1 0 (dg x).length)), (14, sc (IV.sl 0 0 l.length)), (15, sc (IV.i64 (↑l.length : Int))), (16, sc (IV.i64 i))]) [(0, Blk.mk false [IV.vn l.length l]), (1, Blk.mk true [IV.vd x])] 16, [decide (i < (↑l.length : Int)) = false]) := by kernel_rfl
theorem fsExit1 (l : List N4) (t : Bool) (q : List Int) (i : Int) : roundS Try.prog (lookG tblC) (orcA [(7, [(0, false)])]) [] 10 fsTd (bodyAt Try.prog 4 7) (fsInv l t (.vi q.length q) q.length i) =
    some (Ex.exit 0, St.mk (slotsOf 38 [(0, sc (IV.sl 0 0 l.length)), (1, sc (IV.bool t)), (5, sc (IV.sl 1 0 q.length)), (14, sc (IV.sl 0 0 l.length)), (15, sc (IV.i64 (↑l.length : Int))), (16, sc (IV.i64 i))]) [(0, Blk.mk false [IV.vn l.length l]), (1, Blk.mk true [IV.vi q.length q])] 16, [decide (i < (↑l.length : Int)) = false]) := by kernel_rfl
theorem lawM (l : List N4) (x : Nat) (i : Int) : fnS Try.prog (lookG tblC) (orcA [(1, [(2, false)]), (13, [(4, true)])]) [⟨7, fsTd, .exit 0, fsInv l true (.vd x) (dg x).length i⟩] 10 4 [sc (.dn l), sc (.bool true)] =
    some (sc (IV.bool true), [decide ((40 : Int) < (↑l.length : Int)) = false, LoopTo Try.prog (bodyAt Try.prog 4 7) (St.mk (slotsOf 38 [(0, sc (IV.sl 0 0 l.length)), (1, sc (IV.bool true)), (5, sc (IV.sl 1 0 1)), (14, sc (IV.sl 0 0 l.length)), (15, sc (IV.i64 (↑l.length : Int))), (16, sc (IV.i64 (0 : Int)))]) [(0, Blk.mk false [IV.vn l.length l]), (1, Blk.mk true [IV.vi 1 ((List.replicate 1 (0 : Int)).set 0 (1 : Int))])] 16) (Ex.exit 0) (St.mk (slotsOf 38 [(0, sc (IV.sl 0 0 l.length)), (1, sc (IV.bool true)), (5, sc (IV.sl 1 0 (dg x).length)), (14, sc (IV.sl 0 0 l.length)), (15, sc (IV.i64 (↑l.length : Int))), (16, sc (IV.i64 i))]) [(0, Blk.mk false [IV.vn l.length l]), (1, Blk.mk true [IV.vd x])] 16), l.length = l.length, l.length ≤ 4000000, (dg x).length = (dg x).length, ((foldV l true).eq (ofN x) && true) = true]) := by kernel_rfl
theorem lawM0 (l : List N4) (i : Int) : fnS Try.prog (lookG tblC) (orcA [(1, [(2, false)]), (13, [(4, true)])]) [⟨7, fsTd, .exit 0, fsInv l true (.vi 1 [1]) 1 i⟩] 10 4 [sc (.dn l), sc (.bool true)] =
    some (sc (IV.bool true), [decide ((40 : Int) < (↑l.length : Int)) = false, LoopTo Try.prog (bodyAt Try.prog 4 7) (St.mk (slotsOf 38 [(0, sc (IV.sl 0 0 l.length)), (1, sc (IV.bool true)), (5, sc (IV.sl 1 0 1)), (14, sc (IV.sl 0 0 l.length)), (15, sc (IV.i64 (↑l.length : Int))), (16, sc (IV.i64 (0 : Int)))]) [(0, Blk.mk false [IV.vn l.length l]), (1, Blk.mk true [IV.vi 1 ((List.replicate 1 (0 : Int)).set 0 (1 : Int))])] 16) (Ex.exit 0) (St.mk (slotsOf 38 [(0, sc (IV.sl 0 0 l.length)), (1, sc (IV.bool true)), (5, sc (IV.sl 1 0 1)), (14, sc (IV.sl 0 0 l.length)), (15, sc (IV.i64 (↑l.length : Int))), (16, sc (IV.i64 i))]) [(0, Blk.mk false [IV.vn l.length l]), (1, Blk.mk true [IV.vi 1 [(1 : Int)]])] 16), l.length = l.length, l.length ≤ 4000000, 1 = 1, [(1 : Int)] = dg 1, ((foldV l true).eq (ofN 1) && true) = true]) := by kernel_rfl
theorem lawA (l : List N4) (x : Nat) (i : Int) : fnS Try.prog (lookG tblC) (orcA [(1, [(2, false)]), (13, [(4, true)])]) [⟨7, fsTd, .exit 0, fsInv l false (.vd x) (dg x).length i⟩] 10 4 [sc (.dn l), sc (.bool false)] =
    some (sc (IV.bool true), [decide ((40 : Int) < (↑l.length : Int)) = false, LoopTo Try.prog (bodyAt Try.prog 4 7) (St.mk (slotsOf 38 [(0, sc (IV.sl 0 0 l.length)), (1, sc (IV.bool false)), (5, sc (IV.sl 1 0 0)), (14, sc (IV.sl 0 0 l.length)), (15, sc (IV.i64 (↑l.length : Int))), (16, sc (IV.i64 (0 : Int)))]) [(0, Blk.mk false [IV.vn l.length l]), (1, Blk.mk true [IV.vi 0 []])] 16) (Ex.exit 0) (St.mk (slotsOf 38 [(0, sc (IV.sl 0 0 l.length)), (1, sc (IV.bool false)), (5, sc (IV.sl 1 0 (dg x).length)), (14, sc (IV.sl 0 0 l.length)), (15, sc (IV.i64 (↑l.length : Int))), (16, sc (IV.i64 i))]) [(0, Blk.mk false [IV.vn l.length l]), (1, Blk.mk true [IV.vd x])] 16), l.length = l.length, l.length ≤ 4000000, (dg x).length = (dg x).length, ((foldV l false).eq (ofN x) && true) = true]) := by kernel_rfl
theorem lawA0 (l : List N4) (i : Int) : fnS Try.prog (lookG tblC) (orcA [(1, [(2, false)]), (13, [(4, true)])]) [⟨7, fsTd, .exit 0, fsInv l false (.vi 0 []) 0 i⟩] 10 4 [sc (.dn l), sc (.bool false)] =
    some (sc (IV.bool true), [decide ((40 : Int) < (↑l.length : Int)) = false, LoopTo Try.prog (bodyAt Try.prog 4 7) (St.mk (slotsOf 38 [(0, sc (IV.sl 0 0 l.length)), (1, sc (IV.bool false)), (5, sc (IV.sl 1 0 0)), (14, sc (IV.sl 0 0 l.length)), (15, sc (IV.i64 (↑l.length : Int))), (16, sc (IV.i64 (0 : Int)))]) [(0, Blk.mk false [IV.vn l.length l]), (1, Blk.mk true [IV.vi 0 []])] 16) (Ex.exit 0) (St.mk (slotsOf 38 [(0, sc (IV.sl 0 0 l.length)), (1, sc (IV.bool false)), (5, sc (IV.sl 1 0 0)), (14, sc (IV.sl 0 0 l.length)), (15, sc (IV.i64 (↑l.length : Int))), (16, sc (IV.i64 i))]) [(0, Blk.mk false [IV.vn l.length l]), (1, Blk.mk true [IV.vi 0 []])] 16), l.length = l.length, l.length ≤ 4000000, 0 = 0, [] = dg 0, ((foldV l false).eq (ofN 0) && true) = true]) := by kernel_rfl
theorem lawL (l : List N4) (t : Bool) : fnS Try.prog (lookG tblC) (orcA [(1, [(2, true)])]) [] 10 4 [sc (.dn l), sc (.bool t)] =
    some (sc (IV.bool true), [decide ((40 : Int) < (↑l.length : Int)) = true]) := by kernel_rfl

def fM (x : Nat) (a : N4) : Nat := x * (val a % Lo) % Lo
def fA (x : Nat) (a : N4) : Nat := (x + val a % Lo) % Lo
theorem fsM_lt (l : List N4) : ∀ x, x < Lo → l.foldl fM x < Lo := by
  induction l with
  | nil => exact fun x h => h
  | cons a l ih => exact fun x _ => ih _ (mod_Lo _)
theorem fsA_lt (l : List N4) : ∀ x, x < Lo → l.foldl fA x < Lo := by
  induction l with
  | nil => exact fun x h => h
  | cons a l ih => exact fun x _ => ih _ (mod_Lo _)
theorem val_ofN_lt {x : Nat} (h : x < Lo) : val (ofN x) % Lo = x := by
  rw [val_ofN, Nat.mod_eq_of_lt (Nat.lt_trans h (by decide)), Nat.mod_eq_of_lt h]
theorem fsM_val (l : List N4) : ∀ x, x < Lo → l.foldl mulS (ofN x) = ofN (l.foldl fM x) := by
  induction l with
  | nil => exact fun x _ => rfl
  | cons a l ih =>
    intro x h
    show l.foldl mulS (mulS (ofN x) a) = _
    have e : mulS (ofN x) a = ofN (fM x a) := by unfold mulS fM; rw [val_ofN_lt h]
    rw [e]
    exact ih _ (mod_Lo _)
theorem fsA_val (l : List N4) : ∀ x, x < Lo → l.foldl addS (ofN x) = ofN (l.foldl fA x) := by
  induction l with
  | nil => exact fun x _ => rfl
  | cons a l ih =>
    intro x h
    show l.foldl addS (addS (ofN x) a) = _
    have e : addS (ofN x) a = ofN (fA x a) := by unfold addS fA; rw [val_ofN_lt h]
    rw [e]
    exact ih _ (mod_Lo _)
theorem Sm_fM (x : Nat) (a : N4) (h : x < Lo) : Sm (x * (val a % Lo)) := Sm_le (Nat.lt_trans (Nat.mul_lt_mul'' h (mod_Lo _)) (by decide))
theorem Sm_fA (x : Nat) (a : N4) (h : x < Lo) : Sm (x + val a % Lo) := Sm_le (Nat.lt_trans (Nat.add_lt_add h (mod_Lo _)) (by decide))
theorem dg_one : dg 1 = [1] := by rw [dg_pos (by decide), show 1 / 256 = 0 from rfl, dg_zero]; rfl
def fsStM (l : List N4) (s : Nat × Nat) : St := if s.1 = 0 then fsInv l true (.vi 1 [1]) 1 (s.1 : Nat) else fsInv l true (.vd s.2) (dg s.2).length (s.1 : Nat)
def fsStA (l : List N4) (s : Nat × Nat) : St := if s.1 = 0 then fsInv l false (.vi 0 []) 0 (s.1 : Nat) else fsInv l false (.vd s.2) (dg s.2).length (s.1 : Nat)

theorem fsM_loop (l : List N4) (hl : l.length ≤ 40) (h0 : l ≠ []) : LoopTo Try.prog (bodyAt Try.prog 4 7) (fsStM l (0, 1)) (.exit 0) (fsInv l true (.vd (l.foldl fM 1)) (dg (l.foldl fM 1)).length (l.length : Nat)) := by
  have e : l.foldl fM 1 = (l.take l.length).foldl fM 1 := by rw [List.take_length]
  rw [e]
  refine LoopTo.intro (α := Nat × Nat) gsC fol (fsStM l) (fun s => s.1 ≤ l.length ∧ s.2 = (l.take s.1).foldl fM 1) (fun s => l.length - s.1) (by simp) ?_ (0, _) ⟨by simp, by simp⟩
  rintro ⟨i, o⟩ ⟨hi, ho⟩
  dsimp only at hi ho ⊢
  by_cases he : i = l.length
  · subst he
    have hp : l.length ≠ 0 := fun h => h0 (List.length_eq_zero_iff.1 h)
    rw [← ho]
    have r := fsExit l true o (l.length : Nat)
    simp only [fsStM, if_neg hp]
    exact .inr ⟨_, _, _, _, _, r, by simp, trivial⟩
  · have hlt : i < l.length := by omega
    have e4 : (0 + i * 4) / 4 = i := by omega
    have hs : (l.take (i + 1)).foldl fM 1 = fM o (l.getD i N4.zero) := by
      rw [ho, List.take_succ_eq_append_getElem hlt, List.foldl_append]
      simp [List.getD_eq_getElem?_getD, hlt]
    have hx : o < Lo := by rw [ho]; exact fsM_lt _ _ (by decide)
    by_cases hz : i = 0
    · subst hz
      have ho' : o = 1 := by simpa using ho
      subst ho'
      have r := fsM1 l (0 : Nat)
      simp only [Int.toNat_natCast, e4] at r
      simp only [fsStM, if_pos]
      have m1 : Sm (val (l.getD 0 N4.zero) % Lo) := Sm_mod _
      have m2 := Sm_fM 1 (l.getD 0 N4.zero) (by decide)
      have m3 : Sm (fM 1 (l.getD 0 N4.zero)) := Sm_mod _
      refine .inl ⟨_, _, _, _, _, (1, fM 1 (l.getD 0 N4.zero)), r, ?_, ⟨by simp only; omega, hs.symm⟩, by simp only; omega⟩
      refine ⟨?_, ?_, ?_, ?_, ?_, trivial, trivial, Sm_le (by decide), m1, m2, dg_one.symm, ?_, trivial⟩ <;> (try simp only [inI64, decide_eq_true_eq]) <;> omega
    · have r := fsM l o (i : Nat)
      simp only [Int.toNat_natCast, e4] at r
      simp only [fsStM, if_neg hz]
      have m1 : Sm (val (l.getD i N4.zero) % Lo) := Sm_mod _
      have m2 := Sm_fM o (l.getD i N4.zero) hx
      refine .inl ⟨_, _, _, _, _, (i + 1, fM o (l.getD i N4.zero)), r, ?_, ⟨by simp only; omega, hs.symm⟩, by simp only; omega⟩
      refine ⟨?_, ?_, ?_, ?_, ?_, trivial, trivial, Sm_le (Nat.lt_trans hx (by decide)), m1, m2, ?_, trivial⟩ <;> (try simp only [inI64, decide_eq_true_eq]) <;> omega

theorem fsA_loop (l : List N4) (hl : l.length ≤ 40) (h0 : l ≠ []) : LoopTo Try.prog (bodyAt Try.prog 4 7) (fsStA l (0, 0)) (.exit 0) (fsInv l false (.vd (l.foldl fA 0)) (dg (l.foldl fA 0)).length (l.length : Nat)) := by
  have e : l.foldl fA 0 = (l.take l.length).foldl fA 0 := by rw [List.take_length]
  rw [e]
  refine LoopTo.intro (α := Nat × Nat) gsC fol (fsStA l) (fun s => s.1 ≤ l.length ∧ s.2 = (l.take s.1).foldl fA 0) (fun s => l.length - s.1) (by simp) ?_ (0, _) ⟨by simp, by simp⟩
  rintro ⟨i, o⟩ ⟨hi, ho⟩
  dsimp only at hi ho ⊢
  by_cases he : i = l.length
  · subst he
    have hp : l.length ≠ 0 := fun h => h0 (List.length_eq_zero_iff.1 h)
    rw [← ho]
    have r := fsExit l false o (l.length : Nat)
    simp only [fsStA, if_neg hp]
    exact .inr ⟨_, _, _, _, _, r, by simp, trivial⟩
  · have hlt : i < l.length := by omega
    have e4 : (0 + i * 4) / 4 = i := by omega
    have hs : (l.take (i + 1)).foldl fA 0 = fA o (l.getD i N4.zero) := by
      rw [ho, List.take_succ_eq_append_getElem hlt, List.foldl_append]
      simp [List.getD_eq_getElem?_getD, hlt]
    have hx : o < Lo := by rw [ho]; exact fsA_lt _ _ (by decide)
    by_cases hz : i = 0
    · subst hz
      have ho' : o = 0 := by simpa using ho
      subst ho'
      have r := fsA1 l (0 : Nat)
      simp only [Int.toNat_natCast, e4] at r
      simp only [fsStA, if_pos]
      have m1 : Sm (val (l.getD 0 N4.zero) % Lo) := Sm_mod _
      have m2 := Sm_fA 0 (l.getD 0 N4.zero) (by decide)
      have m3 : Sm (fA 0 (l.getD 0 N4.zero)) := Sm_mod _
      refine .inl ⟨_, _, _, _, _, (1, fA 0 (l.getD 0 N4.zero)), r, ?_, ⟨by simp only; omega, hs.symm⟩, by simp only; omega⟩
      refine ⟨?_, ?_, ?_, ?_, ?_, trivial, trivial, Sm_le (by decide), m1, m2, dg_zero.symm, ?_, trivial⟩ <;> (try simp only [inI64, decide_eq_true_eq]) <;> omega
    · have r := fsA l o (i : Nat)
      simp only [Int.toNat_natCast, e4] at r
      simp only [fsStA, if_neg hz]
      have m1 : Sm (val (l.getD i N4.zero) % Lo) := Sm_mod _
      have m2 := Sm_fA o (l.getD i N4.zero) hx
      refine .inl ⟨_, _, _, _, _, (i + 1, fA o (l.getD i N4.zero)), r, ?_, ⟨by simp only; omega, hs.symm⟩, by simp only; omega⟩
      refine ⟨?_, ?_, ?_, ?_, ?_, trivial, trivial, Sm_le (Nat.lt_trans hx (by decide)), m1, m2, ?_, trivial⟩ <;> (try simp only [inI64, decide_eq_true_eq]) <;> omega

theorem fsM_loop0 : LoopTo Try.prog (bodyAt Try.prog 4 7) (fsInv [] true (.vi 1 [1]) 1 0) (.exit 0) (fsInv [] true (.vi 1 [1]) 1 0) :=
  LoopTo.intro (α := Unit) gsC fol (fun _ => fsInv [] true (.vi 1 [1]) 1 0) (fun _ => True) (fun _ => 0) (by simp) (fun _ _ => .inr ⟨_, _, _, _, _, fsExit1 [] true [1] 0, rfl, trivial⟩) () trivial

theorem fsA_loop0 : LoopTo Try.prog (bodyAt Try.prog 4 7) (fsInv [] false (.vi 0 []) 0 0) (.exit 0) (fsInv [] false (.vi 0 []) 0 0) :=
  LoopTo.intro (α := Unit) gsC fol (fun _ => fsInv [] false (.vi 0 []) 0 0) (fun _ => True) (fun _ => 0) (by simp) (fun _ _ => .inr ⟨_, _, _, _, _, fsExit1 [] false [] 0, rfl, trivial⟩) () trivial

theorem law (l : List N4) (t : Bool) (w : World) (vals : List Value) (hv : F2 (DV w) [sc (.dn l), sc (.bool t)] vals) :
    Calls Try.prog 4 vals.toArray w fun e w' => ∃ v, e = .returned v ∧ Below w.heap.size w w' ∧ ResOk w.heap.size w' (sc (.bool true)) v := by
  by_cases hl : l.length ≤ 40
  · have h1 : decide ((40 : Int) < (l.length : Int)) = false := decide_eq_false (by omega)
    by_cases h0 : l = []
    · subst h0
      cases t with
      | true => exact calls_of_fnS gsC fol (lawM0 [] 0) ⟨h1, fsM_loop0, rfl, by simp, rfl, dg_one.symm, eq4_same rfl, trivial⟩ w vals hv
      | false => exact calls_of_fnS gsC fol (lawA0 [] 0) ⟨h1, fsA_loop0, rfl, by simp, rfl, dg_zero.symm, eq4_same rfl, trivial⟩ w vals hv
    · cases t with
      | true => exact calls_of_fnS gsC fol (lawM l _ (l.length : Nat)) ⟨h1, fsM_loop l hl h0, rfl, by omega, rfl, eq4_same (fsM_val l 1 (by decide)), trivial⟩ w vals hv
      | false => exact calls_of_fnS gsC fol (lawA l _ (l.length : Nat)) ⟨h1, fsA_loop l hl h0, rfl, by omega, rfl, eq4_same (fsA_val l 0 (by decide)), trivial⟩ w vals hv
  · exact calls_of_fnS gsC fol (lawL l t) ⟨decide_eq_true (by omega), trivial⟩ w vals hv
theorem scalarFoldsLifted (os : Os) (started : os.Started) (H : Type) (enc : TypeId × Value → H) :
    ReturnsInHanded {} Try.checked os 4 .any (Rows.scalarFoldsSpec.pre6 enc Try.prog Try.f4 Rows.scalarFoldsRow.domain false) (Rows.scalarFoldsSpec.post enc Try.prog Try.f4 false true false false) := by
  refine returnsInHanded_of_change_sized (C := Try.checked) own started (by kernel_rfl) Try.func4
    (ChangeSpec.witness6 (enc := enc) (C := Try.checked) false ⟨#[], #[.slice none 0 0, .bool false], []⟩ 8 (by kernel_rfl) (by kernel_rfl) (by kernel_rfl) (by kernel_rfl)) ?_
  intro W base args ds gs before hval0 hW hcnd hsz _
  have hval : ∀ (j : Nat) t v, Try.f4.params[j]? = some t → args[j]? = some v → Value.okWide Try.prog W .any base t v := hval0
  have hW' := hW
  obtain ⟨p, q, hA0, hV, rfl, hfz, hnd⟩ := hW
  have hA : DataW.TrodAll enc Try.prog W 0 (fun _ => true) true Try.f4.params.toList args.toList ds p := hA0
  rw [Try.params4] at hA hval
  obtain ⟨v0, v1, d0, d1, p0, p1, rfl, rfl, rfl, h0, h1⟩ := trodAll_two hA
  obtain ⟨rfl, rfl⟩ := trodVars_none hV
  obtain ⟨a0, e0, s0⟩ := openNums (hval 0 _ v0 rfl rfl) h0
  obtain ⟨a1, e1⟩ := open_boolV (by kernel_rfl) (hval 1 _ v1 rfl rfl) h1
  refine (law a0 a1 W [v0, v1] ⟨e0, e1, trivial⟩).mono fun e W' ⟨v, he, hbelow, hres⟩ => ⟨v, he, ?_⟩
  rw [resBool hres]
  exact law_post laidOut (by rw [Try.params4]; exact of_decide_eq_true (by kernel_rfl)) rfl rfl (tb := 4) (by kernel_rfl) hW' rfl hbelow

theorem scalarFolds_holds : Rows.ScalarFoldsSaid :=
  OpenClaim.holds_of_wide 4 Try.f4 rfl rfl rfl rfl rfl rfl rfl ⟨rfl, rfl, rfl, rfl, rfl⟩ rfl rfl rfl rfl rfl (by kernel_rfl) Try.func4 (by kernel_rfl)
    (of_decide_eq_true (by kernel_rfl)) (by unfold Func.isWrapper; first | (rw [if_pos (by decide +kernel)]; kernel_rfl) | (rw [if_neg (by decide +kernel)]; exact ⟨rfl, rfl⟩))
    (fun os started H enc _ => scalarFoldsLifted os started H enc)

end Go.Proofs.Ytmdfhomeokfgiaa
