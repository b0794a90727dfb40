/- Texts put together: ShG ShH ShI ShJ ShR ShM ShN ScB SgH. Own work. -/
import Derived.Test.YtlgiaglbdifkpaaGreatDoorMgcu
/- SHA-512 of the document: a block's words. Own work. -/
namespace Go.Proofs.YtlgiaglbdifkpaaGreatDoor
open Go.Ev Go.Sp Go.RowKit
set_option maxRecDepth 100000
theorem upB_eq (x : W6) (b : BitVec 8) : x * 256#64 + b.setWidth 64 = upB x b := by
  have hb := b.isLt
  have hx := x.isLt
  apply BitVec.eq_of_toNat_eq
  unfold upB
  rw [BitVec.toNat_or, BitVec.toNat_shiftLeft, BitVec.toNat_add, BitVec.toNat_mul, BitVec.toNat_setWidth, Nat.shiftLeft_eq, Nat.mod_eq_of_lt (show b.toNat < 2 ^ 64 by omega)]
  have e : x.toNat * 2 ^ 8 % 2 ^ 64 = (x.toNat % 2 ^ 56) <<< 8 := by
    rw [Nat.shiftLeft_eq]
    omega
  rw [e, ← Nat.shiftLeft_add_eq_or_of_lt (show b.toNat < 2 ^ 8 from hb), Nat.shiftLeft_eq]
  simp only [BitVec.toNat_ofNat]
  omega
def kB (i j : Nat) (ks fs : List W6) : List IV := [.i64 64, .i64 80, .vi 3 [28, 34, 39], .vi 3 [14, 18, 41], .vi 3 [1, 8, 7], .vi 3 [19, 61, 6], .sl i 0 ks.length, .sl j 0 fs.length]
def wiTd : List Nat := [1, 2, 5, 6, 7, 8, 9]
def woTd : List Nat := [1, 2, 5, 6, 7]
def wiInv (l : List (BitVec 8)) (ks fs w : List W6) (m : Nat) (t : Int) (x : W6) (i : Int) : St := ⟨slotsOf 82 [(1, sc (.sl 0 0 l.length)), (2, sc (.ptr 1 0)), (5, sc (.sl 2 0 m)), (6, sc (.i64 8)), (7, sc (.i64 t)), (8, sc (.u64 x)), (9, sc (.i64 i))],
  [(0, ⟨false, [.v8 l.length l]⟩), (1, ⟨true, kB 3 4 ks fs⟩), (2, ⟨true, [.v64 w.length w]⟩), (3, ⟨false, [.v64 ks.length ks]⟩), (4, ⟨false, [.v64 fs.length fs]⟩)], 16⟩
def woInv (l : List (BitVec 8)) (ks fs w : List W6) (m : Nat) (t : Int) : St := ⟨slotsOf 82 [(1, sc (.sl 0 0 l.length)), (2, sc (.ptr 1 0)), (5, sc (.sl 2 0 m)), (6, sc (.i64 8)), (7, sc (.i64 t))],
  [(0, ⟨false, [.v8 l.length l]⟩), (1, ⟨true, kB 3 4 ks fs⟩), (2, ⟨true, [.v64 w.length w]⟩), (3, ⟨false, [.v64 ks.length ks]⟩), (4, ⟨false, [.v64 fs.length fs]⟩)], 16⟩
theorem wiRound (l : List (BitVec 8)) (ks fs w : List W6) (m : Nat) (t : Int) (x : W6) (i : Int) : roundS Tryz.prog (lookG tblHb) (orcA [(8, [(2, true)])]) [] 10 wiTd (bodyAt Tryz.prog 133 8) (wiInv l ks fs w m t x i) =
    some (Ex.normal, St.mk (slotsOf 82 [(1, sc (IV.sl 0 0 l.length)), (2, sc (IV.ptr 1 0)), (5, sc (IV.sl 2 0 m)), (6, sc (IV.i64 (8 : Int))), (7, sc (IV.i64 t)), (8, sc (IV.u64 (x * BitVec.ofNat 64 256 + BitVec.setWidth 64 (l.getD (0 + (t * (8 : Int) + i).toNat * 1) (BitVec.ofNat 8 0))))), (9, sc (IV.i64 (i + (1 : Int))))]) [(0, Blk.mk false [IV.v8 l.length l]), (1, Blk.mk true [IV.i64 (64 : Int), IV.i64 (80 : Int), IV.vi 3 [(28 : Int), (34 : Int), (39 : Int)], IV.vi 3 [(14 : Int), (18 : Int), (41 : Int)], IV.vi 3 [(1 : Int), (8 : Int), (7 : Int)], IV.vi 3 [(19 : Int), (61 : Int), (6 : Int)], IV.sl 3 0 ks.length, IV.sl 4 0 fs.length]), (2, Blk.mk true [IV.v64 w.length w]), (3, Blk.mk false [IV.v64 ks.length ks]), (4, Blk.mk false [IV.v64 fs.length fs])] 16, [decide (i < (8 : Int)) = true, inI64 (t * (8 : Int)), inI64 (t * (8 : Int) + i), (0 : Int) ≤ t * (8 : Int) + i, (t * (8 : Int) + i).toNat < l.length, 0 + (t * (8 : Int) + i).toNat * 1 < l.length, inI64 (i + (1 : Int))]) := by kernel_rfl
theorem wiExit (l : List (BitVec 8)) (ks fs w : List W6) (m : Nat) (t : Int) (x : W6) (i : Int) : roundS Tryz.prog (lookG tblHb) (orcA [(8, [(2, false)])]) [] 10 wiTd (bodyAt Tryz.prog 133 8) (wiInv l ks fs w m t x i) =
    some (Ex.exit 2, St.mk (slotsOf 82 [(1, sc (IV.sl 0 0 l.length)), (2, sc (IV.ptr 1 0)), (5, sc (IV.sl 2 0 m)), (6, sc (IV.i64 (8 : Int))), (7, sc (IV.i64 t)), (8, sc (IV.u64 x)), (9, sc (IV.i64 i))]) [(0, Blk.mk false [IV.v8 l.length l]), (1, Blk.mk true [IV.i64 (64 : Int), IV.i64 (80 : Int), IV.vi 3 [(28 : Int), (34 : Int), (39 : Int)], IV.vi 3 [(14 : Int), (18 : Int), (41 : Int)], IV.vi 3 [(1 : Int), (8 : Int), (7 : Int)], IV.vi 3 [(19 : Int), (61 : Int), (6 : Int)], IV.sl 3 0 ks.length, IV.sl 4 0 fs.length]), (2, Blk.mk true [IV.v64 w.length w]), (3, Blk.mk false [IV.v64 ks.length ks]), (4, Blk.mk false [IV.v64 fs.length fs])] 16, [decide (i < (8 : Int)) = false]) := by kernel_rfl
theorem woRound (l : List (BitVec 8)) (ks fs w : List W6) (m : Nat) (t : Int) (x : W6) : roundS Tryz.prog (lookG tblHb) (orcA [(4, [(1, true)])]) [⟨8, wiTd, .exit 2, wiInv l ks fs w m t x 8⟩] 10 woTd (bodyAt Tryz.prog 133 4) (woInv l ks fs w m t) =
    some (Ex.normal, St.mk (slotsOf 82 [(1, sc (IV.sl 0 0 l.length)), (2, sc (IV.ptr 1 0)), (5, sc (IV.sl 2 0 (m + 1))), (6, sc (IV.i64 (8 : Int))), (7, sc (IV.i64 (t + (1 : Int))))]) [(0, Blk.mk false [IV.v8 l.length l]), (1, Blk.mk true [IV.i64 (64 : Int), IV.i64 (80 : Int), IV.vi 3 [(28 : Int), (34 : Int), (39 : Int)], IV.vi 3 [(14 : Int), (18 : Int), (41 : Int)], IV.vi 3 [(1 : Int), (8 : Int), (7 : Int)], IV.vi 3 [(19 : Int), (61 : Int), (6 : Int)], IV.sl 3 0 ks.length, IV.sl 4 0 fs.length]), (2, Blk.mk true [IV.v64 (w ++ (List.replicate 1 (BitVec.ofNat 64 0)).set 0 x).length (w ++ (List.replicate 1 (BitVec.ofNat 64 0)).set 0 x)]), (3, Blk.mk false [IV.v64 ks.length ks]), (4, Blk.mk false [IV.v64 fs.length fs])] 16, [decide (t < (16 : Int)) = true, LoopTo Tryz.prog (bodyAt Tryz.prog 133 8) (St.mk (slotsOf 82 [(1, sc (IV.sl 0 0 l.length)), (2, sc (IV.ptr 1 0)), (5, sc (IV.sl 2 0 m)), (6, sc (IV.i64 (8 : Int))), (7, sc (IV.i64 t)), (8, sc (IV.u64 (BitVec.ofNat 64 0))), (9, sc (IV.i64 (0 : Int)))]) [(0, Blk.mk false [IV.v8 l.length l]), (1, Blk.mk true [IV.i64 (64 : Int), IV.i64 (80 : Int), IV.vi 3 [(28 : Int), (34 : Int), (39 : Int)], IV.vi 3 [(14 : Int), (18 : Int), (41 : Int)], IV.vi 3 [(1 : Int), (8 : Int), (7 : Int)], IV.vi 3 [(19 : Int), (61 : Int), (6 : Int)], IV.sl 3 0 ks.length, IV.sl 4 0 fs.length]), (2, Blk.mk true [IV.v64 w.length w]), (3, Blk.mk false [IV.v64 ks.length ks]), (4, Blk.mk false [IV.v64 fs.length fs])] 16) (Ex.exit 2) (St.mk (slotsOf 82 [(1, sc (IV.sl 0 0 l.length)), (2, sc (IV.ptr 1 0)), (5, sc (IV.sl 2 0 m)), (6, sc (IV.i64 (8 : Int))), (7, sc (IV.i64 t)), (8, sc (IV.u64 x)), (9, sc (IV.i64 (8 : Int)))]) [(0, Blk.mk false [IV.v8 l.length l]), (1, Blk.mk true [IV.i64 (64 : Int), IV.i64 (80 : Int), IV.vi 3 [(28 : Int), (34 : Int), (39 : Int)], IV.vi 3 [(14 : Int), (18 : Int), (41 : Int)], IV.vi 3 [(1 : Int), (8 : Int), (7 : Int)], IV.vi 3 [(19 : Int), (61 : Int), (6 : Int)], IV.sl 3 0 ks.length, IV.sl 4 0 fs.length]), (2, Blk.mk true [IV.v64 w.length w]), (3, Blk.mk false [IV.v64 ks.length ks]), (4, Blk.mk false [IV.v64 fs.length fs])] 16), 1 = 1, m = w.length, (m + 1) * 8 ≤ 140737488355328 ∧ m + 1 ≤ 9223372036854775807, inI64 (t + (1 : Int))]) := by kernel_rfl
theorem woExit (l : List (BitVec 8)) (ks fs w : List W6) (m : Nat) (t : Int) : roundS Tryz.prog (lookG tblHb) (orcA [(4, [(1, false)])]) [] 10 woTd (bodyAt Tryz.prog 133 4) (woInv l ks fs w m t) =
    some (Ex.exit 0, St.mk (slotsOf 82 [(1, sc (IV.sl 0 0 l.length)), (2, sc (IV.ptr 1 0)), (5, sc (IV.sl 2 0 m)), (6, sc (IV.i64 (8 : Int))), (7, sc (IV.i64 t))]) [(0, Blk.mk false [IV.v8 l.length l]), (1, Blk.mk true [IV.i64 (64 : Int), IV.i64 (80 : Int), IV.vi 3 [(28 : Int), (34 : Int), (39 : Int)], IV.vi 3 [(14 : Int), (18 : Int), (41 : Int)], IV.vi 3 [(1 : Int), (8 : Int), (7 : Int)], IV.vi 3 [(19 : Int), (61 : Int), (6 : Int)], IV.sl 3 0 ks.length, IV.sl 4 0 fs.length]), (2, Blk.mk true [IV.v64 w.length w]), (3, Blk.mk false [IV.v64 ks.length ks]), (4, Blk.mk false [IV.v64 fs.length fs])] 16, [decide (t < (16 : Int)) = false]) := by kernel_rfl
def w3Td : List Nat := [2, 5, 10]
def w3Inv (ks fs w : List W6) (m : Nat) (t : Int) : St := ⟨slotsOf 82 [(2, sc (.ptr 0 0)), (5, sc (.sl 1 0 m)), (10, sc (.i64 t))],
  [(0, ⟨true, kB 2 3 ks fs⟩), (1, ⟨true, [.v64 w.length w]⟩), (2, ⟨false, [.v64 ks.length ks]⟩), (3, ⟨false, [.v64 fs.length fs]⟩)], 16⟩
theorem w3Round (ks fs w : List W6) (m : Nat) (t : Int) : roundS Tryz.prog (lookG tblHb) (orcA [(13, [(3, true)])]) [] 10 w3Td (bodyAt Tryz.prog 133 13) (w3Inv ks fs w m t) =
    some (Ex.normal, St.mk (slotsOf 82 [(2, sc (IV.ptr 0 0)), (5, sc (IV.sl 1 0 (m + 1))), (10, sc (IV.i64 (t + (1 : Int))))]) [(0, Blk.mk true [IV.i64 (64 : Int), IV.i64 (80 : Int), IV.vi 3 [(28 : Int), (34 : Int), (39 : Int)], IV.vi 3 [(14 : Int), (18 : Int), (41 : Int)], IV.vi 3 [(1 : Int), (8 : Int), (7 : Int)], IV.vi 3 [(19 : Int), (61 : Int), (6 : Int)], IV.sl 2 0 ks.length, IV.sl 3 0 fs.length]), (1, Blk.mk true [IV.v64 (w ++ (List.replicate 1 (BitVec.ofNat 64 0)).set 0 (sR3 (w.getD (0 + (t - (2 : Int)).toNat * 1) (BitVec.ofNat 64 0)) (19 : Int) (61 : Int) (6 : Int) + w.getD (0 + (t - (7 : Int)).toNat * 1) (BitVec.ofNat 64 0) + sR3 (w.getD (0 + (t - (15 : Int)).toNat * 1) (BitVec.ofNat 64 0)) (1 : Int) (8 : Int) (7 : Int) + w.getD (0 + (t - (16 : Int)).toNat * 1) (BitVec.ofNat 64 0))).length (w ++ (List.replicate 1 (BitVec.ofNat 64 0)).set 0 (sR3 (w.getD (0 + (t - (2 : Int)).toNat * 1) (BitVec.ofNat 64 0)) (19 : Int) (61 : Int) (6 : Int) + w.getD (0 + (t - (7 : Int)).toNat * 1) (BitVec.ofNat 64 0) + sR3 (w.getD (0 + (t - (15 : Int)).toNat * 1) (BitVec.ofNat 64 0)) (1 : Int) (8 : Int) (7 : Int) + w.getD (0 + (t - (16 : Int)).toNat * 1) (BitVec.ofNat 64 0)))]), (2, Blk.mk false [IV.v64 ks.length ks]), (3, Blk.mk false [IV.v64 fs.length fs])] 16, [decide (t < (80 : Int)) = true, inI64 (t - (2 : Int)), (0 : Int) ≤ t - (2 : Int), (t - (2 : Int)).toNat < m, 0 + (t - (2 : Int)).toNat * 1 < w.length, ks.length = ks.length, fs.length = fs.length, (0 : Int) ≤ (19 : Int), (19 : Int) ≤ (64 : Int), (0 : Int) ≤ (61 : Int), (61 : Int) ≤ (64 : Int), (0 : Int) ≤ (6 : Int), (6 : Int) ≤ (64 : Int), (64 : Int) = (64 : Int), inI64 (t - (7 : Int)), (0 : Int) ≤ t - (7 : Int), (t - (7 : Int)).toNat < m, 0 + (t - (7 : Int)).toNat * 1 < w.length, inI64 (t - (15 : Int)), (0 : Int) ≤ t - (15 : Int), (t - (15 : Int)).toNat < m, 0 + (t - (15 : Int)).toNat * 1 < w.length, ks.length = ks.length, fs.length = fs.length, (0 : Int) ≤ (1 : Int), (1 : Int) ≤ (64 : Int), (0 : Int) ≤ (8 : Int), (8 : Int) ≤ (64 : Int), (0 : Int) ≤ (7 : Int), (7 : Int) ≤ (64 : Int), (64 : Int) = (64 : Int), inI64 (t - (16 : Int)), (0 : Int) ≤ t - (16 : Int), (t - (16 : Int)).toNat < m, 0 + (t - (16 : Int)).toNat * 1 < w.length, ks.length = ks.length, fs.length = fs.length, (64 : Int) = (64 : Int), 1 = 1, m = w.length, (m + 1) * 8 ≤ 140737488355328 ∧ m + 1 ≤ 9223372036854775807, inI64 (t + (1 : Int))]) := by kernel_rfl
theorem w3Exit (ks fs w : List W6) (m : Nat) (t : Int) : roundS Tryz.prog (lookG tblHb) (orcA [(13, [(3, false)])]) [] 10 w3Td (bodyAt Tryz.prog 133 13) (w3Inv ks fs w m t) =
    some (Ex.exit 4, St.mk (slotsOf 82 [(2, sc (IV.ptr 0 0)), (5, sc (IV.sl 1 0 m)), (10, sc (IV.i64 t))]) [(0, Blk.mk true [IV.i64 (64 : Int), IV.i64 (80 : Int), IV.vi 3 [(28 : Int), (34 : Int), (39 : Int)], IV.vi 3 [(14 : Int), (18 : Int), (41 : Int)], IV.vi 3 [(1 : Int), (8 : Int), (7 : Int)], IV.vi 3 [(19 : Int), (61 : Int), (6 : Int)], IV.sl 2 0 ks.length, IV.sl 3 0 fs.length]), (1, Blk.mk true [IV.v64 w.length w]), (2, Blk.mk false [IV.v64 ks.length ks]), (3, Blk.mk false [IV.v64 fs.length fs])] 16, [decide (t < (80 : Int)) = false]) := by kernel_rfl
theorem runWordsD (l : List (BitVec 8)) (ks fs w w' : List W6) (m m' : Nat) : fnS Tryz.prog (lookG tblHb) orc0 [⟨4, woTd, .exit 0, woInv l ks fs w m 16⟩, ⟨13, w3Td, .exit 4, w3Inv ks fs w' m' 80⟩] 10 133 [.val true (kindL ks fs), sc (.d8 l)] =
    some (sc (IV.d64 (cutL w' 0 m' w'.length)), [LoopTo Tryz.prog (bodyAt Tryz.prog 133 4) (St.mk (slotsOf 82 [(1, sc (IV.sl 0 0 l.length)), (2, sc (IV.ptr 1 0)), (5, sc (IV.sl 2 0 0)), (6, sc (IV.i64 (8 : Int))), (7, sc (IV.i64 (0 : Int)))]) [(0, Blk.mk false [IV.v8 l.length l]), (1, Blk.mk true [IV.i64 (64 : Int), IV.i64 (80 : Int), IV.vi 3 [(28 : Int), (34 : Int), (39 : Int)], IV.vi 3 [(14 : Int), (18 : Int), (41 : Int)], IV.vi 3 [(1 : Int), (8 : Int), (7 : Int)], IV.vi 3 [(19 : Int), (61 : Int), (6 : Int)], IV.sl 3 0 ks.length, IV.sl 4 0 fs.length]), (2, Blk.mk true [IV.v64 0 []]), (3, Blk.mk false [IV.v64 ks.length ks]), (4, Blk.mk false [IV.v64 fs.length fs])] 16) (Ex.exit 0) (St.mk (slotsOf 82 [(1, sc (IV.sl 0 0 l.length)), (2, sc (IV.ptr 1 0)), (5, sc (IV.sl 2 0 m)), (6, sc (IV.i64 (8 : Int))), (7, sc (IV.i64 (16 : Int)))]) [(0, Blk.mk false [IV.v8 l.length l]), (1, Blk.mk true [IV.i64 (64 : Int), IV.i64 (80 : Int), IV.vi 3 [(28 : Int), (34 : Int), (39 : Int)], IV.vi 3 [(14 : Int), (18 : Int), (41 : Int)], IV.vi 3 [(1 : Int), (8 : Int), (7 : Int)], IV.vi 3 [(19 : Int), (61 : Int), (6 : Int)], IV.sl 3 0 ks.length, IV.sl 4 0 fs.length]), (2, Blk.mk true [IV.v64 w.length w]), (3, Blk.mk false [IV.v64 ks.length ks]), (4, Blk.mk false [IV.v64 fs.length fs])] 16), LoopTo Tryz.prog (bodyAt Tryz.prog 133 13) (St.mk (slotsOf 82 [(2, sc (IV.ptr 0 0)), (5, sc (IV.sl 1 0 m)), (10, sc (IV.i64 (16 : Int)))]) [(0, Blk.mk true [IV.i64 (64 : Int), IV.i64 (80 : Int), IV.vi 3 [(28 : Int), (34 : Int), (39 : Int)], IV.vi 3 [(14 : Int), (18 : Int), (41 : Int)], IV.vi 3 [(1 : Int), (8 : Int), (7 : Int)], IV.vi 3 [(19 : Int), (61 : Int), (6 : Int)], IV.sl 2 0 ks.length, IV.sl 3 0 fs.length]), (1, Blk.mk true [IV.v64 w.length w]), (2, Blk.mk false [IV.v64 ks.length ks]), (3, Blk.mk false [IV.v64 fs.length fs])] 16) (Ex.exit 4) (St.mk (slotsOf 82 [(2, sc (IV.ptr 0 0)), (5, sc (IV.sl 1 0 m')), (10, sc (IV.i64 (80 : Int)))]) [(0, Blk.mk true [IV.i64 (64 : Int), IV.i64 (80 : Int), IV.vi 3 [(28 : Int), (34 : Int), (39 : Int)], IV.vi 3 [(14 : Int), (18 : Int), (41 : Int)], IV.vi 3 [(1 : Int), (8 : Int), (7 : Int)], IV.vi 3 [(19 : Int), (61 : Int), (6 : Int)], IV.sl 2 0 ks.length, IV.sl 3 0 fs.length]), (1, Blk.mk true [IV.v64 w'.length w']), (2, Blk.mk false [IV.v64 ks.length ks]), (3, Blk.mk false [IV.v64 fs.length fs])] 16), 0 + m' ≤ w'.length]) := by kernel_rfl
end Go.Proofs.YtlgiaglbdifkpaaGreatDoor
/- SHA-512 of the document: a block's words, their contract. Own work. -/
namespace Go.Proofs.YtlgiaglbdifkpaaGreatDoor
open Go.Ev Go.Sp Go.RowKit
set_option maxRecDepth 100000
theorem partW_succ8 (l : List (BitVec 8)) (j n : Nat) : upB (partW l j n) (l.getD (8 * j + n) 0#8) = partW l j (n + 1) := (partW_succ l j n).symm
theorem wiLoop (l : List (BitVec 8)) (ks fs w : List W6) (m t : Nat) (hl : l.length = 128) (ht : t < 16) : LoopTo Tryz.prog (bodyAt Tryz.prog 133 8) (wiInv l ks fs w m (t : Nat) 0#64 0) (.exit 2) (wiInv l ks fs w m (t : Nat) (partW l t 8) 8) := by
  refine LoopTo.intro (P := Tryz.prog) (α := Nat) gsHb fol (c := bodyAt Tryz.prog 133 8) (e := .exit 2) (σ' := wiInv l ks fs w m (t : Nat) (partW l t 8) 8) (fun i => wiInv l ks fs w m (t : Nat) (partW l t i) (i : Nat)) (fun i => i ≤ 8) (fun i => 8 - i) (by simp) ?_ 0 (by omega)
  intro i hi
  by_cases he : i = 8
  · subst he
    exact .inr ⟨_, _, _, _, _, wiExit l ks fs w m _ _ _, ⟨rfl, trivial⟩⟩
  · have r0 := wiRound l ks fs w m (t : Nat) (partW l t i) (i : Nat)
    have e : 0 + (((t : Nat) : Int) * 8 + ((i : Nat) : Int)).toNat * 1 = 8 * t + i := by omega
    rw [e, upB_eq, partW_succ8, ← castS] at r0
    refine .inl ⟨_, _, _, _, _, i + 1, r0, ?_, by omega, by omega⟩
    clear r0
    simp only [AllP, inI64]
    and_intros <;> first | exact True.intro | exact decide_eq_true (by omega) | omega
def wsN (l : List (BitVec 8)) (t : Nat) : List W6 := (List.range t).map fun j => partW l j 8
theorem wsN_succ (l : List (BitVec 8)) (t : Nat) : wsN l (t + 1) = wsN l t ++ [partW l t 8] := by simp [wsN, List.range_succ]
theorem wsN_len (l : List (BitVec 8)) (t : Nat) : (wsN l t).length = t := by simp [wsN]
theorem woLoop (l : List (BitVec 8)) (ks fs : List W6) (hl : l.length = 128) : LoopTo Tryz.prog (bodyAt Tryz.prog 133 4) (woInv l ks fs [] 0 0) (.exit 0) (woInv l ks fs (words16 l) 16 16) := by
  refine LoopTo.intro (P := Tryz.prog) (α := Nat) gsHb fol (c := bodyAt Tryz.prog 133 4) (e := .exit 0) (σ' := woInv l ks fs (words16 l) 16 16) (fun t => woInv l ks fs (wsN l t) t (t : Nat)) (fun t => t ≤ 16) (fun t => 16 - t) (by simp) ?_ 0 (by omega)
  intro t ht
  by_cases he : t = 16
  · subst he
    exact .inr ⟨_, _, _, _, _, woExit l ks fs _ _ _, ⟨rfl, trivial⟩⟩
  · have r0 := woRound l ks fs (wsN l t) t (t : Nat) (partW l t 8)
    have q : woInv l ks fs (wsN l t ++ [partW l t 8]) (t + 1) ((t : Nat) + 1) = woInv l ks fs (wsN l (t + 1)) (t + 1) ((t + 1 : Nat) : Int) := by rw [wsN_succ, castS]
    have r1 := r0.trans (congrArg (fun x => some (Ex.normal, x, _)) q)
    refine .inl ⟨_, _, _, _, _, t + 1, r1, ?_, by omega, by omega⟩
    clear r0 r1 q
    refine ⟨decide_eq_true (by omega), wiLoop l ks fs (wsN l t) t t hl (by omega), rfl, (wsN_len l t).symm, by omega, by unfold inI64; omega, trivial⟩
theorem w3Loop (l : List (BitVec 8)) (ks fs : List W6) : LoopTo Tryz.prog (bodyAt Tryz.prog 133 13) (w3Inv ks fs (words16 l) 16 16) (.exit 4) (w3Inv ks fs (sched l 64) 80 80) := by
  refine LoopTo.intro (P := Tryz.prog) (α := Nat) gsHb fol (c := bodyAt Tryz.prog 133 13) (e := .exit 4) (σ' := w3Inv ks fs (sched l 64) 80 80) (fun n => w3Inv ks fs (sched l n) (16 + n) ((16 + n : Nat) : Int)) (fun n => n ≤ 64) (fun n => 64 - n) (by simp) ?_ 0 (by omega)
  intro n hn
  by_cases he : n = 64
  · subst he
    exact .inr ⟨_, _, _, _, _, w3Exit ks fs _ _ _, ⟨rfl, trivial⟩⟩
  · have r0 := w3Round ks fs (sched l n) (16 + n) ((16 + n : Nat) : Int)
    have hlen := sched_len l n
    have e1 : 0 + (((16 + n : Nat) : Int) - 2).toNat * 1 = 16 + n - 2 := by omega
    have e2 : 0 + (((16 + n : Nat) : Int) - 7).toNat * 1 = 16 + n - 7 := by omega
    have e3 : 0 + (((16 + n : Nat) : Int) - 15).toNat * 1 = 16 + n - 15 := by omega
    have e4 : 0 + (((16 + n : Nat) : Int) - 16).toNat * 1 = 16 + n - 16 := by omega
    rw [e1, e2, e3, e4] at r0
    have q : w3Inv ks fs (sched l n ++ [nextW (sched l n) (16 + n)]) (16 + n + 1) (((16 + n : Nat) : Int) + 1) = w3Inv ks fs (sched l (n + 1)) (16 + (n + 1)) ((16 + (n + 1) : Nat) : Int) := by rw [sched, ← Nat.add_assoc, castS]
    have r1 := r0.trans (congrArg (fun x => some (Ex.normal, x, _)) q)
    refine .inl ⟨_, _, _, _, _, n + 1, r1, ?_, by omega, by omega⟩
    clear r0 r1 q
    simp only [AllP, inI64]
    and_intros <;> first | exact True.intro | with_reducible rfl | exact decide_eq_true (by omega) | omega
def spWordsD : List AV → Option (AV × List Prop)
  | [.val true [.i64 b, .i64 r, .vi 3 u, .vi 3 d, .vi 3 e, .vi 3 x, .d64 _, .d64 _], .val false [.d8 l]] => some (sc (.d64 (sched l 64)), [l.length = 128, b = 64, r = 80, u = [28, 34, 39], d = [14, 18, 41], e = [1, 8, 7], x = [19, 61, 6]])
  | _ => none
theorem ctWordsD : CtSOk Tryz.prog 133 (.fn spWordsD) := FnS_of_fnS gsHb fol fun ds r cs h hc => by
  unfold spWordsD at h
  split at h
  case h_2 => simp at h
  rename_i b r u d e x ks fs l
  simp only [Option.some.injEq, Prod.mk.injEq] at h
  obtain ⟨rfl, rfl⟩ := h
  obtain ⟨hl, rfl, rfl, rfl, rfl, rfl, rfl, _⟩ := hc
  have hlen := sched_len l 64
  refine use_run (runWordsD l ks fs (words16 l) (sched l 64) 16 80) ?_ ⟨woLoop l ks fs hl, w3Loop l ks fs, by omega, trivial⟩
  rw [cutL_eq rfl, List.drop_zero, List.take_of_length_le (by omega)]
end Go.Proofs.YtlgiaglbdifkpaaGreatDoor
/- SHA-512 of the document: a block's rounds. Own work. -/
namespace Go.Proofs.YtlgiaglbdifkpaaGreatDoor
open Go.Ev Go.Sp Go.RowKit
set_option maxRecDepth 100000
def tblDk : List (FuncId × CtS) := [(134, .fn spTurnedD), (135, .fn spCut), (133, .fn spWordsD)]
theorem okDk : TblOk Tryz.prog tblDk := ⟨⟨ctTurnedD, by kernel_rfl⟩, ⟨ctCut, by kernel_rfl⟩, ⟨ctWordsD, by kernel_rfl⟩, trivial⟩
theorem gsDk : GSound Tryz.prog (upG (lookG tblDk)) := GSound_of_tbl okDk
def dbTd : List Nat := [1, 3, 7, 8, 9, 10, 11, 12, 13, 14, 15, 16]
def dbInv (v : E8) (ks fs w : List W6) (s : E8) (t : Int) : St := ⟨slotsOf 145 [(1, sc (.sl 0 0 8)), (3, sc (.ptr 1 0)), (7, sc (.sl 2 0 w.length)), (8, sc (.u64 s.a)), (9, sc (.u64 s.b)), (10, sc (.u64 s.c)), (11, sc (.u64 s.d)), (12, sc (.u64 s.e)), (13, sc (.u64 s.f)), (14, sc (.u64 s.g)), (15, sc (.u64 s.h)), (16, sc (.i64 t))],
  [(0, ⟨false, [.v64 8 v.list]⟩), (1, ⟨true, kB 3 4 ks fs⟩), (2, ⟨true, [.v64 w.length w]⟩), (3, ⟨false, [.v64 ks.length ks]⟩), (4, ⟨false, [.v64 fs.length fs]⟩)], 16⟩
theorem dbRoundC (v : E8) (ks fs w : List W6) (s : E8) (t : Int) : csOf (roundS Tryz.prog (lookG tblDk) (orcA [(4, [(3, true)])]) [] 10 dbTd (bodyAt Tryz.prog 123 4) (dbInv v ks fs w s t)) =
    [decide (t < (80 : Int)) = true, ks.length = ks.length, fs.length = fs.length, (0 : Int) ≤ (14 : Int), (14 : Int) ≤ (64 : Int), (0 : Int) ≤ (18 : Int), (18 : Int) ≤ (64 : Int), (0 : Int) ≤ (41 : Int), (41 : Int) ≤ (64 : Int), (64 : Int) = (64 : Int), ks.length = ks.length, fs.length = fs.length, (64 : Int) = (64 : Int), (0 : Int) ≤ t, t.toNat < ks.length, 0 + t.toNat * 1 < ks.length, (0 : Int) ≤ t, t.toNat < w.length, 0 + t.toNat * 1 < w.length, ks.length = ks.length, fs.length = fs.length, (0 : Int) ≤ (28 : Int), (28 : Int) ≤ (64 : Int), (0 : Int) ≤ (34 : Int), (34 : Int) ≤ (64 : Int), (0 : Int) ≤ (39 : Int), (39 : Int) ≤ (64 : Int), (64 : Int) = (64 : Int), ks.length = ks.length, fs.length = fs.length, (64 : Int) = (64 : Int), ks.length = ks.length, fs.length = fs.length, (64 : Int) = (64 : Int), inI64 (t + (1 : Int))] := by kernel_rfl
theorem dbRound (v : E8) (ks fs w : List W6) (s : E8) (t : Int) : resOf (roundS Tryz.prog (lookG tblDk) (orcA [(4, [(3, true)])]) [] 10 dbTd (bodyAt Tryz.prog 123 4) (dbInv v ks fs w s t)) =
    some (.normal, dbInv v ks fs w (rnd s (ks.getD (0 + t.toNat * 1) 0#64) (w.getD (0 + t.toNat * 1) 0#64)) (t + 1)) := by kernel_rfl
theorem dbExit (v : E8) (ks fs w : List W6) (s : E8) (t : Int) : roundS Tryz.prog (lookG tblDk) (orcA [(4, [(3, false)])]) [] 10 dbTd (bodyAt Tryz.prog 123 4) (dbInv v ks fs w s t) =
    some (.exit 0, dbInv v ks fs w s t, [decide (t < (80 : Int)) = false]) := by kernel_rfl
theorem blkDRes (v : E8) (ks fs w : List W6) (s : E8) (l : List (BitVec 8)) : ansOf (fnS Tryz.prog (lookG tblDk) (orcA []) [⟨4, dbTd, .exit 0, dbInv v ks fs w s 80⟩] 10 123 [.val true (kindL ks fs), sc (.d64 v.list), sc (.d8 l)]) =
    some (sc (.d64 (v.add s).list)) := by kernel_rfl
theorem blkDC (v : E8) (ks fs w : List W6) (s : E8) (l : List (BitVec 8)) : acsOf (fnS Tryz.prog (lookG tblDk) (orcA []) [⟨4, dbTd, .exit 0, dbInv v ks fs w s 80⟩] 10 123 [.val true (kindL ks fs), sc (.d64 v.list), sc (.d8 l)]) =
    [ks.length = ks.length, fs.length = fs.length, l.length = l.length, l.length = 128, (64 : Int) = (64 : Int), (80 : Int) = (80 : Int), [(28 : Int), (34 : Int), (39 : Int)] = [(28 : Int), (34 : Int), (39 : Int)], [(14 : Int), (18 : Int), (41 : Int)] = [(14 : Int), (18 : Int), (41 : Int)], [(1 : Int), (8 : Int), (7 : Int)] = [(1 : Int), (8 : Int), (7 : Int)], [(19 : Int), (61 : Int), (6 : Int)] = [(19 : Int), (61 : Int), (6 : Int)], (0 : Int) ≤ (0 : Int), 0 < v.list.length, 0 < v.list.length, (0 : Int) ≤ (1 : Int), 1 < v.list.length, 1 < v.list.length, (0 : Int) ≤ (2 : Int), 2 < v.list.length, 2 < v.list.length, (0 : Int) ≤ (3 : Int), 3 < v.list.length, 3 < v.list.length, (0 : Int) ≤ (4 : Int), 4 < v.list.length, 4 < v.list.length, (0 : Int) ≤ (5 : Int), 5 < v.list.length, 5 < v.list.length, (0 : Int) ≤ (6 : Int), 6 < v.list.length, 6 < v.list.length, (0 : Int) ≤ (7 : Int), 7 < v.list.length, 7 < v.list.length, LoopTo Tryz.prog (bodyAt Tryz.prog 123 4) (St.mk (slotsOf 145 [(1, sc (IV.sl 0 0 v.list.length)), (3, sc (IV.ptr 1 0)), (7, sc (IV.sl 2 0 (sched l 64).length)), (8, sc (IV.u64 (v.list.getD 0 (BitVec.ofNat 64 0)))), (9, sc (IV.u64 (v.list.getD 1 (BitVec.ofNat 64 0)))), (10, sc (IV.u64 (v.list.getD 2 (BitVec.ofNat 64 0)))), (11, sc (IV.u64 (v.list.getD 3 (BitVec.ofNat 64 0)))), (12, sc (IV.u64 (v.list.getD 4 (BitVec.ofNat 64 0)))), (13, sc (IV.u64 (v.list.getD 5 (BitVec.ofNat 64 0)))), (14, sc (IV.u64 (v.list.getD 6 (BitVec.ofNat 64 0)))), (15, sc (IV.u64 (v.list.getD 7 (BitVec.ofNat 64 0)))), (16, sc (IV.i64 (0 : Int)))]) [(0, Blk.mk false [IV.v64 v.list.length v.list]), (1, Blk.mk true [IV.i64 (64 : Int), IV.i64 (80 : Int), IV.vi 3 [(28 : Int), (34 : Int), (39 : Int)], IV.vi 3 [(14 : Int), (18 : Int), (41 : Int)], IV.vi 3 [(1 : Int), (8 : Int), (7 : Int)], IV.vi 3 [(19 : Int), (61 : Int), (6 : Int)], IV.sl 3 0 ks.length, IV.sl 4 0 fs.length]), (2, Blk.mk true [IV.v64 (sched l 64).length (sched l 64)]), (3, Blk.mk false [IV.v64 ks.length ks]), (4, Blk.mk false [IV.v64 fs.length fs])] 16) (Ex.exit 0) (St.mk (slotsOf 145 [(1, sc (IV.sl 0 0 8)), (3, sc (IV.ptr 1 0)), (7, sc (IV.sl 2 0 w.length)), (8, sc (IV.u64 s.a)), (9, sc (IV.u64 s.b)), (10, sc (IV.u64 s.c)), (11, sc (IV.u64 s.d)), (12, sc (IV.u64 s.e)), (13, sc (IV.u64 s.f)), (14, sc (IV.u64 s.g)), (15, sc (IV.u64 s.h)), (16, sc (IV.i64 (80 : Int)))]) [(0, Blk.mk false [IV.v64 8 v.list]), (1, Blk.mk true [IV.i64 (64 : Int), IV.i64 (80 : Int), IV.vi 3 [(28 : Int), (34 : Int), (39 : Int)], IV.vi 3 [(14 : Int), (18 : Int), (41 : Int)], IV.vi 3 [(1 : Int), (8 : Int), (7 : Int)], IV.vi 3 [(19 : Int), (61 : Int), (6 : Int)], IV.sl 3 0 ks.length, IV.sl 4 0 fs.length]), (2, Blk.mk true [IV.v64 w.length w]), (3, Blk.mk false [IV.v64 ks.length ks]), (4, Blk.mk false [IV.v64 fs.length fs])] 16), (0 : Int) ≤ (0 : Int), 0 < 8, 0 < 8, (0 : Int) ≤ (0 : Int), 0 < 8, 0 < 8, ks.length = ks.length, fs.length = fs.length, (64 : Int) = (64 : Int), 1 = 1, 0 = 0, 8 ≤ 140737488355328 ∧ 1 ≤ 9223372036854775807, inI64 (1 : Int), (0 : Int) ≤ (1 : Int), 1 < 8, 1 < 8, (0 : Int) ≤ (1 : Int), 1 < 8, 1 < 8, ks.length = ks.length, fs.length = fs.length, (64 : Int) = (64 : Int), 1 = 1, 1 = ((List.replicate 1 (BitVec.ofNat 64 0)).set 0 (v.list.getD 0 (BitVec.ofNat 64 0) + (((((((((List.replicate 8 (BitVec.ofNat 64 0)).set 0 s.a).set 1 s.b).set 2 s.c).set 3 s.d).set 4 s.e).set 5 s.f).set 6 s.g).set 7 s.h).getD 0 (BitVec.ofNat 64 0))).length, 16 ≤ 140737488355328 ∧ 2 ≤ 9223372036854775807, inI64 (2 : Int), (0 : Int) ≤ (2 : Int), 2 < 8, 2 < 8, (0 : Int) ≤ (2 : Int), 2 < 8, 2 < 8, ks.length = ks.length, fs.length = fs.length, (64 : Int) = (64 : Int), 1 = 1, 2 = ((List.replicate 1 (BitVec.ofNat 64 0)).set 0 (v.list.getD 0 (BitVec.ofNat 64 0) + (((((((((List.replicate 8 (BitVec.ofNat 64 0)).set 0 s.a).set 1 s.b).set 2 s.c).set 3 s.d).set 4 s.e).set 5 s.f).set 6 s.g).set 7 s.h).getD 0 (BitVec.ofNat 64 0)) ++ (List.replicate 1 (BitVec.ofNat 64 0)).set 0 (v.list.getD 1 (BitVec.ofNat 64 0) + (((((((((List.replicate 8 (BitVec.ofNat 64 0)).set 0 s.a).set 1 s.b).set 2 s.c).set 3 s.d).set 4 s.e).set 5 s.f).set 6 s.g).set 7 s.h).getD 1 (BitVec.ofNat 64 0))).length, 24 ≤ 140737488355328 ∧ 3 ≤ 9223372036854775807, inI64 (3 : Int), (0 : Int) ≤ (3 : Int), 3 < 8, 3 < 8, (0 : Int) ≤ (3 : Int), 3 < 8, 3 < 8, ks.length = ks.length, fs.length = fs.length, (64 : Int) = (64 : Int), 1 = 1, 3 = ((List.replicate 1 (BitVec.ofNat 64 0)).set 0 (v.list.getD 0 (BitVec.ofNat 64 0) + (((((((((List.replicate 8 (BitVec.ofNat 64 0)).set 0 s.a).set 1 s.b).set 2 s.c).set 3 s.d).set 4 s.e).set 5 s.f).set 6 s.g).set 7 s.h).getD 0 (BitVec.ofNat 64 0)) ++ (List.replicate 1 (BitVec.ofNat 64 0)).set 0 (v.list.getD 1 (BitVec.ofNat 64 0) + (((((((((List.replicate 8 (BitVec.ofNat 64 0)).set 0 s.a).set 1 s.b).set 2 s.c).set 3 s.d).set 4 s.e).set 5 s.f).set 6 s.g).set 7 s.h).getD 1 (BitVec.ofNat 64 0)) ++ (List.replicate 1 (BitVec.ofNat 64 0)).set 0 (v.list.getD 2 (BitVec.ofNat 64 0) + (((((((((List.replicate 8 (BitVec.ofNat 64 0)).set 0 s.a).set 1 s.b).set 2 s.c).set 3 s.d).set 4 s.e).set 5 s.f).set 6 s.g).set 7 s.h).getD 2 (BitVec.ofNat 64 0))).length, 32 ≤ 140737488355328 ∧ 4 ≤ 9223372036854775807, inI64 (4 : Int), (0 : Int) ≤ (4 : Int), 4 < 8, 4 < 8, (0 : Int) ≤ (4 : Int), 4 < 8, 4 < 8, ks.length = ks.length, fs.length = fs.length, (64 : Int) = (64 : Int), 1 = 1, 4 = ((List.replicate 1 (BitVec.ofNat 64 0)).set 0 (v.list.getD 0 (BitVec.ofNat 64 0) + (((((((((List.replicate 8 (BitVec.ofNat 64 0)).set 0 s.a).set 1 s.b).set 2 s.c).set 3 s.d).set 4 s.e).set 5 s.f).set 6 s.g).set 7 s.h).getD 0 (BitVec.ofNat 64 0)) ++ (List.replicate 1 (BitVec.ofNat 64 0)).set 0 (v.list.getD 1 (BitVec.ofNat 64 0) + (((((((((List.replicate 8 (BitVec.ofNat 64 0)).set 0 s.a).set 1 s.b).set 2 s.c).set 3 s.d).set 4 s.e).set 5 s.f).set 6 s.g).set 7 s.h).getD 1 (BitVec.ofNat 64 0)) ++ (List.replicate 1 (BitVec.ofNat 64 0)).set 0 (v.list.getD 2 (BitVec.ofNat 64 0) + (((((((((List.replicate 8 (BitVec.ofNat 64 0)).set 0 s.a).set 1 s.b).set 2 s.c).set 3 s.d).set 4 s.e).set 5 s.f).set 6 s.g).set 7 s.h).getD 2 (BitVec.ofNat 64 0)) ++ (List.replicate 1 (BitVec.ofNat 64 0)).set 0 (v.list.getD 3 (BitVec.ofNat 64 0) + (((((((((List.replicate 8 (BitVec.ofNat 64 0)).set 0 s.a).set 1 s.b).set 2 s.c).set 3 s.d).set 4 s.e).set 5 s.f).set 6 s.g).set 7 s.h).getD 3 (BitVec.ofNat 64 0))).length, 40 ≤ 140737488355328 ∧ 5 ≤ 9223372036854775807, inI64 (5 : Int), (0 : Int) ≤ (5 : Int), 5 < 8, 5 < 8, (0 : Int) ≤ (5 : Int), 5 < 8, 5 < 8, ks.length = ks.length, fs.length = fs.length, (64 : Int) = (64 : Int), 1 = 1, 5 = ((List.replicate 1 (BitVec.ofNat 64 0)).set 0 (v.list.getD 0 (BitVec.ofNat 64 0) + (((((((((List.replicate 8 (BitVec.ofNat 64 0)).set 0 s.a).set 1 s.b).set 2 s.c).set 3 s.d).set 4 s.e).set 5 s.f).set 6 s.g).set 7 s.h).getD 0 (BitVec.ofNat 64 0)) ++ (List.replicate 1 (BitVec.ofNat 64 0)).set 0 (v.list.getD 1 (BitVec.ofNat 64 0) + (((((((((List.replicate 8 (BitVec.ofNat 64 0)).set 0 s.a).set 1 s.b).set 2 s.c).set 3 s.d).set 4 s.e).set 5 s.f).set 6 s.g).set 7 s.h).getD 1 (BitVec.ofNat 64 0)) ++ (List.replicate 1 (BitVec.ofNat 64 0)).set 0 (v.list.getD 2 (BitVec.ofNat 64 0) + (((((((((List.replicate 8 (BitVec.ofNat 64 0)).set 0 s.a).set 1 s.b).set 2 s.c).set 3 s.d).set 4 s.e).set 5 s.f).set 6 s.g).set 7 s.h).getD 2 (BitVec.ofNat 64 0)) ++ (List.replicate 1 (BitVec.ofNat 64 0)).set 0 (v.list.getD 3 (BitVec.ofNat 64 0) + (((((((((List.replicate 8 (BitVec.ofNat 64 0)).set 0 s.a).set 1 s.b).set 2 s.c).set 3 s.d).set 4 s.e).set 5 s.f).set 6 s.g).set 7 s.h).getD 3 (BitVec.ofNat 64 0)) ++ (List.replicate 1 (BitVec.ofNat 64 0)).set 0 (v.list.getD 4 (BitVec.ofNat 64 0) + (((((((((List.replicate 8 (BitVec.ofNat 64 0)).set 0 s.a).set 1 s.b).set 2 s.c).set 3 s.d).set 4 s.e).set 5 s.f).set 6 s.g).set 7 s.h).getD 4 (BitVec.ofNat 64 0))).length, 48 ≤ 140737488355328 ∧ 6 ≤ 9223372036854775807, inI64 (6 : Int), (0 : Int) ≤ (6 : Int), 6 < 8, 6 < 8, (0 : Int) ≤ (6 : Int), 6 < 8, 6 < 8, ks.length = ks.length, fs.length = fs.length, (64 : Int) = (64 : Int), 1 = 1, 6 = ((List.replicate 1 (BitVec.ofNat 64 0)).set 0 (v.list.getD 0 (BitVec.ofNat 64 0) + (((((((((List.replicate 8 (BitVec.ofNat 64 0)).set 0 s.a).set 1 s.b).set 2 s.c).set 3 s.d).set 4 s.e).set 5 s.f).set 6 s.g).set 7 s.h).getD 0 (BitVec.ofNat 64 0)) ++ (List.replicate 1 (BitVec.ofNat 64 0)).set 0 (v.list.getD 1 (BitVec.ofNat 64 0) + (((((((((List.replicate 8 (BitVec.ofNat 64 0)).set 0 s.a).set 1 s.b).set 2 s.c).set 3 s.d).set 4 s.e).set 5 s.f).set 6 s.g).set 7 s.h).getD 1 (BitVec.ofNat 64 0)) ++ (List.replicate 1 (BitVec.ofNat 64 0)).set 0 (v.list.getD 2 (BitVec.ofNat 64 0) + (((((((((List.replicate 8 (BitVec.ofNat 64 0)).set 0 s.a).set 1 s.b).set 2 s.c).set 3 s.d).set 4 s.e).set 5 s.f).set 6 s.g).set 7 s.h).getD 2 (BitVec.ofNat 64 0)) ++ (List.replicate 1 (BitVec.ofNat 64 0)).set 0 (v.list.getD 3 (BitVec.ofNat 64 0) + (((((((((List.replicate 8 (BitVec.ofNat 64 0)).set 0 s.a).set 1 s.b).set 2 s.c).set 3 s.d).set 4 s.e).set 5 s.f).set 6 s.g).set 7 s.h).getD 3 (BitVec.ofNat 64 0)) ++ (List.replicate 1 (BitVec.ofNat 64 0)).set 0 (v.list.getD 4 (BitVec.ofNat 64 0) + (((((((((List.replicate 8 (BitVec.ofNat 64 0)).set 0 s.a).set 1 s.b).set 2 s.c).set 3 s.d).set 4 s.e).set 5 s.f).set 6 s.g).set 7 s.h).getD 4 (BitVec.ofNat 64 0)) ++ (List.replicate 1 (BitVec.ofNat 64 0)).set 0 (v.list.getD 5 (BitVec.ofNat 64 0) + (((((((((List.replicate 8 (BitVec.ofNat 64 0)).set 0 s.a).set 1 s.b).set 2 s.c).set 3 s.d).set 4 s.e).set 5 s.f).set 6 s.g).set 7 s.h).getD 5 (BitVec.ofNat 64 0))).length, 56 ≤ 140737488355328 ∧ 7 ≤ 9223372036854775807, inI64 (7 : Int), (0 : Int) ≤ (7 : Int), 7 < 8, 7 < 8, (0 : Int) ≤ (7 : Int), 7 < 8, 7 < 8, ks.length = ks.length, fs.length = fs.length, (64 : Int) = (64 : Int), 1 = 1, 7 = ((List.replicate 1 (BitVec.ofNat 64 0)).set 0 (v.list.getD 0 (BitVec.ofNat 64 0) + (((((((((List.replicate 8 (BitVec.ofNat 64 0)).set 0 s.a).set 1 s.b).set 2 s.c).set 3 s.d).set 4 s.e).set 5 s.f).set 6 s.g).set 7 s.h).getD 0 (BitVec.ofNat 64 0)) ++ (List.replicate 1 (BitVec.ofNat 64 0)).set 0 (v.list.getD 1 (BitVec.ofNat 64 0) + (((((((((List.replicate 8 (BitVec.ofNat 64 0)).set 0 s.a).set 1 s.b).set 2 s.c).set 3 s.d).set 4 s.e).set 5 s.f).set 6 s.g).set 7 s.h).getD 1 (BitVec.ofNat 64 0)) ++ (List.replicate 1 (BitVec.ofNat 64 0)).set 0 (v.list.getD 2 (BitVec.ofNat 64 0) + (((((((((List.replicate 8 (BitVec.ofNat 64 0)).set 0 s.a).set 1 s.b).set 2 s.c).set 3 s.d).set 4 s.e).set 5 s.f).set 6 s.g).set 7 s.h).getD 2 (BitVec.ofNat 64 0)) ++ (List.replicate 1 (BitVec.ofNat 64 0)).set 0 (v.list.getD 3 (BitVec.ofNat 64 0) + (((((((((List.replicate 8 (BitVec.ofNat 64 0)).set 0 s.a).set 1 s.b).set 2 s.c).set 3 s.d).set 4 s.e).set 5 s.f).set 6 s.g).set 7 s.h).getD 3 (BitVec.ofNat 64 0)) ++ (List.replicate 1 (BitVec.ofNat 64 0)).set 0 (v.list.getD 4 (BitVec.ofNat 64 0) + (((((((((List.replicate 8 (BitVec.ofNat 64 0)).set 0 s.a).set 1 s.b).set 2 s.c).set 3 s.d).set 4 s.e).set 5 s.f).set 6 s.g).set 7 s.h).getD 4 (BitVec.ofNat 64 0)) ++ (List.replicate 1 (BitVec.ofNat 64 0)).set 0 (v.list.getD 5 (BitVec.ofNat 64 0) + (((((((((List.replicate 8 (BitVec.ofNat 64 0)).set 0 s.a).set 1 s.b).set 2 s.c).set 3 s.d).set 4 s.e).set 5 s.f).set 6 s.g).set 7 s.h).getD 5 (BitVec.ofNat 64 0)) ++ (List.replicate 1 (BitVec.ofNat 64 0)).set 0 (v.list.getD 6 (BitVec.ofNat 64 0) + (((((((((List.replicate 8 (BitVec.ofNat 64 0)).set 0 s.a).set 1 s.b).set 2 s.c).set 3 s.d).set 4 s.e).set 5 s.f).set 6 s.g).set 7 s.h).getD 6 (BitVec.ofNat 64 0))).length, 64 ≤ 140737488355328 ∧ 8 ≤ 9223372036854775807, inI64 (8 : Int), 8 ≤ ((List.replicate 1 (BitVec.ofNat 64 0)).set 0 (v.list.getD 0 (BitVec.ofNat 64 0) + (((((((((List.replicate 8 (BitVec.ofNat 64 0)).set 0 s.a).set 1 s.b).set 2 s.c).set 3 s.d).set 4 s.e).set 5 s.f).set 6 s.g).set 7 s.h).getD 0 (BitVec.ofNat 64 0)) ++ (List.replicate 1 (BitVec.ofNat 64 0)).set 0 (v.list.getD 1 (BitVec.ofNat 64 0) + (((((((((List.replicate 8 (BitVec.ofNat 64 0)).set 0 s.a).set 1 s.b).set 2 s.c).set 3 s.d).set 4 s.e).set 5 s.f).set 6 s.g).set 7 s.h).getD 1 (BitVec.ofNat 64 0)) ++ (List.replicate 1 (BitVec.ofNat 64 0)).set 0 (v.list.getD 2 (BitVec.ofNat 64 0) + (((((((((List.replicate 8 (BitVec.ofNat 64 0)).set 0 s.a).set 1 s.b).set 2 s.c).set 3 s.d).set 4 s.e).set 5 s.f).set 6 s.g).set 7 s.h).getD 2 (BitVec.ofNat 64 0)) ++ (List.replicate 1 (BitVec.ofNat 64 0)).set 0 (v.list.getD 3 (BitVec.ofNat 64 0) + (((((((((List.replicate 8 (BitVec.ofNat 64 0)).set 0 s.a).set 1 s.b).set 2 s.c).set 3 s.d).set 4 s.e).set 5 s.f).set 6 s.g).set 7 s.h).getD 3 (BitVec.ofNat 64 0)) ++ (List.replicate 1 (BitVec.ofNat 64 0)).set 0 (v.list.getD 4 (BitVec.ofNat 64 0) + (((((((((List.replicate 8 (BitVec.ofNat 64 0)).set 0 s.a).set 1 s.b).set 2 s.c).set 3 s.d).set 4 s.e).set 5 s.f).set 6 s.g).set 7 s.h).getD 4 (BitVec.ofNat 64 0)) ++ (List.replicate 1 (BitVec.ofNat 64 0)).set 0 (v.list.getD 5 (BitVec.ofNat 64 0) + (((((((((List.replicate 8 (BitVec.ofNat 64 0)).set 0 s.a).set 1 s.b).set 2 s.c).set 3 s.d).set 4 s.e).set 5 s.f).set 6 s.g).set 7 s.h).getD 5 (BitVec.ofNat 64 0)) ++ (List.replicate 1 (BitVec.ofNat 64 0)).set 0 (v.list.getD 6 (BitVec.ofNat 64 0) + (((((((((List.replicate 8 (BitVec.ofNat 64 0)).set 0 s.a).set 1 s.b).set 2 s.c).set 3 s.d).set 4 s.e).set 5 s.f).set 6 s.g).set 7 s.h).getD 6 (BitVec.ofNat 64 0)) ++ (List.replicate 1 (BitVec.ofNat 64 0)).set 0 (v.list.getD 7 (BitVec.ofNat 64 0) + (((((((((List.replicate 8 (BitVec.ofNat 64 0)).set 0 s.a).set 1 s.b).set 2 s.c).set 3 s.d).set 4 s.e).set 5 s.f).set 6 s.g).set 7 s.h).getD 7 (BitVec.ofNat 64 0))).length] := by kernel_rfl
theorem dbLoop (v : E8) (ks fs : List W6) (l : List (BitVec 8)) (hk : ks.length = 80) (hg : ∀ t, ks.getD t 0#64 = kW t) : LoopTo Tryz.prog (bodyAt Tryz.prog 123 4) (dbInv v ks fs (sched l 64) v 0) (.exit 0) (dbInv v ks fs (sched l 64) (rnds l v 80) 80) := by
  refine LoopTo.intro (P := Tryz.prog) (α := Nat) gsDk fol (c := bodyAt Tryz.prog 123 4) (e := .exit 0) (σ' := dbInv v ks fs (sched l 64) (rnds l v 80) 80) (fun t => dbInv v ks fs (sched l 64) (rnds l v t) (t : Nat)) (fun t => t ≤ 80) (fun t => 80 - t) (by simp) ?_ 0 (by omega)
  intro t ht
  by_cases he : t = 80
  · subst he
    exact .inr ⟨_, _, _, _, _, dbExit v ks fs (sched l 64) (rnds l v 80) 80, ⟨rfl, trivial⟩⟩
  · have hlen := sched_len l 64
    have r1 := dbRound v ks fs (sched l 64) (rnds l v t) (t : Nat)
    have r2 := dbRoundC v ks fs (sched l 64) (rnds l v t) (t : Nat)
    have e := wd_get l t 64 (by omega)
    have q : dbInv v ks fs (sched l 64) (rnd (rnds l v t) (kW t) (wd l t)) ((t : Nat) + 1) = dbInv v ks fs (sched l 64) (rnds l v (t + 1)) ((t + 1 : Nat) : Int) := by
      rw [rnds_succ, castS]
    have e2 : (sched l 64).getD t 0#64 = wd l t := e
    rw [Int.toNat_natCast, Nat.zero_add, Nat.mul_one, hg, e2, q] at r1
    refine .inl ⟨_, _, _, _, _, t + 1, parts_eq r1 r2, ?_, by omega, by omega⟩
    clear r1 r2 e e2 q
    simp only [AllP, inI64]
    and_intros <;> first | exact True.intro | with_reducible rfl | exact decide_eq_true (by omega) | omega
def E8.ofL (v : List W6) : E8 := ⟨v.getD 0 0, v.getD 1 0, v.getD 2 0, v.getD 3 0, v.getD 4 0, v.getD 5 0, v.getD 6 0, v.getD 7 0⟩
theorem E8.ofL_list {v : List W6} (h : v.length = 8) : (E8.ofL v).list = v := by
  match v, h with
  | [_, _, _, _, _, _, _, _], _ => rfl
theorem k512_len : k512L.length = 80 := by kernel_rfl
def spBlkD : List AV → Option (AV × List Prop)
  | [.val true [.i64 b, .i64 r, .vi 3 u, .vi 3 d, .vi 3 e, .vi 3 x, .d64 ks, .d64 _], .val false [.d64 v], .val false [.d8 l]] => some (sc (.d64 (blk8 (E8.ofL v) l).list), [l.length = 128, v.length = 8, b = 64, r = 80, u = [28, 34, 39], d = [14, 18, 41], e = [1, 8, 7], x = [19, 61, 6], ks = k512L])
  | _ => none
theorem ctBlkD : CtSOk Tryz.prog 123 (.fn spBlkD) := FnS_of_fnS gsDk fol fun ds r cs h hc => by
  unfold spBlkD at h
  split at h
  case h_2 => simp at h
  rename_i b r u d e x ks fs v l
  simp only [Option.some.injEq, Prod.mk.injEq] at h
  obtain ⟨rfl, rfl⟩ := h
  obtain ⟨hl, hv, rfl, rfl, rfl, rfl, rfl, rfl, hks, _⟩ := hc
  have hk : ks.length = 80 := by rw [hks, k512_len]
  have hg : ∀ t, ks.getD t 0#64 = kW t := fun t => by rw [hks]; rfl
  clear hks
  obtain ⟨s, rfl⟩ : ∃ s : E8, v = s.list := ⟨E8.ofL v, (E8.ofL_list hv).symm⟩
  have hL := dbLoop s ks fs l hk hg
  refine use_run (ans_eq (blkDRes s ks fs (sched l 64) (rnds l s 80) l) (blkDC s ks fs (sched l 64) (rnds l s 80) l)) rfl ?_
  have h8 : s.list.length = 8 := rfl
  simp only [AllP]
  and_intros <;> first | exact True.intro | exact hL | with_reducible rfl | omega | (simp only [List.length_append, List.length_set, List.length_replicate]; done) | (simp only [List.length_append, List.length_set, List.length_replicate]; omega)
end Go.Proofs.YtlgiaglbdifkpaaGreatDoor
/- SHA-512 of the document: bytes with their end, all blocks, words told. Own work. -/
namespace Go.Proofs.YtlgiaglbdifkpaaGreatDoor
open Go.Ev Go.Sp Go.RowKit
set_option maxRecDepth 100000
def spBlkDG (B : E8 → List (BitVec 8) → E8) (kk : List W6) : List AV → Option (AV × List Prop)
  | [.val true [.i64 b, .i64 r, .vi 3 u, .vi 3 d, .vi 3 e, .vi 3 x, .d64 ks, .d64 _], .val false [.d64 v], .val false [.d8 l]] => some (sc (.d64 (B (E8.ofL v) l).list), [l.length = 128, v.length = 8, b = 64, r = 80, u = [28, 34, 39], d = [14, 18, 41], e = [1, 8, 7], x = [19, 61, 6], ks = kk])
  | _ => none
def tblDs0 : List (FuncId × CtS) := [(122, .fn spShift)]
theorem okDs0 : TblOk Tryz.prog tblDs0 := ⟨⟨ctShift, by kernel_rfl⟩, trivial⟩
theorem gsDs0 : GSound Tryz.prog (upG (lookG tblDs0)) := GSound_of_tbl okDs0
def tblDs (B : E8 → List (BitVec 8) → E8) (kk : List W6) : List (FuncId × CtS) :=
  (123, .fn (spBlkDG B kk)) :: tblDs0
theorem ctBlkD' : CtSOk Tryz.prog 123 (.fn (spBlkDG blk8 k512L)) := ctBlkD
theorem gsDs : GSound Tryz.prog (upG (lookG (tblDs blk8 k512L))) := GSound_of_tbl ⟨⟨ctBlkD', by kernel_rfl⟩, okDs0⟩
def dpTd : List Nat := [1, 2, 5, 6]
def dpInv (l m : List (BitVec 8)) (ks fs : List W6) (k : Nat) : St := ⟨slotsOf 101 [(1, sc (.sl 0 0 l.length)), (2, sc (.ptr 1 0)), (5, sc (.i64 128)), (6, sc (.sl 2 0 k))],
  [(0, ⟨false, [.v8 l.length l]⟩), (1, ⟨true, kB 3 4 ks fs⟩), (2, ⟨true, [.v8 m.length m]⟩), (3, ⟨false, [.v64 ks.length ks]⟩), (4, ⟨false, [.v64 fs.length fs]⟩)], 16⟩
theorem dpRound (B : E8 → List (BitVec 8) → E8) (kk : List W6) (l m : List (BitVec 8)) (ks fs : List W6) (k : Nat) : roundS Tryz.prog (lookG (tblDs B kk)) (orcA [(3, [(8, true)])]) [] 10 dpTd (bodyAt Tryz.prog 96 3) (dpInv l m ks fs k) =
    some (Ex.normal, St.mk (slotsOf 101 [(1, sc (IV.sl 0 0 l.length)), (2, sc (IV.ptr 1 0)), (5, sc (IV.i64 (128 : Int))), (6, sc (IV.sl 2 0 (k + 1)))]) [(0, Blk.mk false [IV.v8 l.length l]), (1, Blk.mk true [IV.i64 (64 : Int), IV.i64 (80 : Int), IV.vi 3 [(28 : Int), (34 : Int), (39 : Int)], IV.vi 3 [(14 : Int), (18 : Int), (41 : Int)], IV.vi 3 [(1 : Int), (8 : Int), (7 : Int)], IV.vi 3 [(19 : Int), (61 : Int), (6 : Int)], IV.sl 3 0 ks.length, IV.sl 4 0 fs.length]), (2, Blk.mk true [IV.v8 (m ++ (List.replicate 1 (BitVec.ofNat 8 0)).set 0 (BitVec.ofNat 8 0)).length (m ++ (List.replicate 1 (BitVec.ofNat 8 0)).set 0 (BitVec.ofNat 8 0))]), (3, Blk.mk false [IV.v64 ks.length ks]), (4, Blk.mk false [IV.v64 fs.length fs])] 16, [(4 : Int) ≠ (0 : Int), inI64 (16 : Int), inI64 ((↑k : Int) + (16 : Int)), (128 : Int) ≠ (0 : Int), (!((↑k : Int) + (16 : Int)).tmod (128 : Int) == (0 : Int)) = true, 1 = 1, k = m.length, (k + 1) * 1 ≤ 140737488355328 ∧ k + 1 ≤ 9223372036854775807]) := by kernel_rfl
theorem dpExit (B : E8 → List (BitVec 8) → E8) (kk : List W6) (l m : List (BitVec 8)) (ks fs : List W6) (k : Nat) : roundS Tryz.prog (lookG (tblDs B kk)) (orcA [(3, [(8, false)])]) [] 10 dpTd (bodyAt Tryz.prog 96 3) (dpInv l m ks fs k) =
    some (Ex.exit 0, St.mk (slotsOf 101 [(1, sc (IV.sl 0 0 l.length)), (2, sc (IV.ptr 1 0)), (5, sc (IV.i64 (128 : Int))), (6, sc (IV.sl 2 0 k))]) [(0, Blk.mk false [IV.v8 l.length l]), (1, Blk.mk true [IV.i64 (64 : Int), IV.i64 (80 : Int), IV.vi 3 [(28 : Int), (34 : Int), (39 : Int)], IV.vi 3 [(14 : Int), (18 : Int), (41 : Int)], IV.vi 3 [(1 : Int), (8 : Int), (7 : Int)], IV.vi 3 [(19 : Int), (61 : Int), (6 : Int)], IV.sl 3 0 ks.length, IV.sl 4 0 fs.length]), (2, Blk.mk true [IV.v8 m.length m]), (3, Blk.mk false [IV.v64 ks.length ks]), (4, Blk.mk false [IV.v64 fs.length fs])] 16, [(4 : Int) ≠ (0 : Int), inI64 (16 : Int), inI64 ((↑k : Int) + (16 : Int)), (128 : Int) ≠ (0 : Int), (!((↑k : Int) + (16 : Int)).tmod (128 : Int) == (0 : Int)) = false]) := by kernel_rfl
def dsTd : List Nat := [2, 5, 6, 9, 10]
def dsInvA (q : List (BitVec 8)) (m : Nat) (ks fs : List W6) (i : Int) : St := ⟨slotsOf 101 [(2, sc (.ptr 0 0)), (5, sc (.i64 128)), (6, sc (.sl 1 0 m)), (9, sc (.sl 2 0 fs.length)), (10, sc (.i64 i))],
  [(0, ⟨true, kB 3 2 ks fs⟩), (1, ⟨true, [.v8 q.length q]⟩), (2, ⟨false, [.v64 fs.length fs]⟩), (3, ⟨false, [.v64 ks.length ks]⟩)], 16⟩
def dsInv (q : List (BitVec 8)) (m : Nat) (ks fs : List W6) (v : E8) (i : Int) : St := ⟨slotsOf 101 [(2, sc (.ptr 0 0)), (5, sc (.i64 128)), (6, sc (.sl 1 0 m)), (9, sc (.sl 2 0 8)), (10, sc (.i64 i))],
  [(0, ⟨true, kB 3 4 ks fs⟩), (1, ⟨true, [.v8 q.length q]⟩), (2, ⟨true, [.v64 8 v.list]⟩), (3, ⟨false, [.v64 ks.length ks]⟩), (4, ⟨false, [.v64 fs.length fs]⟩)], 16⟩
theorem dsRoundAC (B : E8 → List (BitVec 8) → E8) (kk : List W6) (q : List (BitVec 8)) (m : Nat) (ks fs : List W6) (i : Int) : csOf (roundS Tryz.prog (lookG (tblDs B kk)) (orcP [(15, [(3, true)])] [(17, [8])]) [] 10 dsTd (bodyAt Tryz.prog 96 15) (dsInvA q m ks fs i)) =
    [decide (i < (↑m : Int)) = true, inI64 (i + (128 : Int)), (0 : Int) ≤ i, (0 : Int) ≤ i + (128 : Int), i.toNat ≤ (i + (128 : Int)).toNat, (i + (128 : Int)).toNat ≤ m, 0 + ks.length ≤ ks.length, 0 + fs.length ≤ fs.length, 0 + fs.length ≤ fs.length, 0 + i.toNat + ((i + (128 : Int)).toNat - i.toNat) ≤ q.length, (cutL q (0 + i.toNat) ((i + (128 : Int)).toNat - i.toNat) q.length).length = 128, (cutL fs 0 fs.length fs.length).length = 8, (64 : Int) = (64 : Int), (80 : Int) = (80 : Int), [(28 : Int), (34 : Int), (39 : Int)] = [(28 : Int), (34 : Int), (39 : Int)], [(14 : Int), (18 : Int), (41 : Int)] = [(14 : Int), (18 : Int), (41 : Int)], [(1 : Int), (8 : Int), (7 : Int)] = [(1 : Int), (8 : Int), (7 : Int)], [(19 : Int), (61 : Int), (6 : Int)] = [(19 : Int), (61 : Int), (6 : Int)], cutL ks 0 ks.length ks.length = kk, inI64 (i + (128 : Int))] := by kernel_rfl
theorem dsRoundC (B : E8 → List (BitVec 8) → E8) (kk : List W6) (q : List (BitVec 8)) (m : Nat) (ks fs : List W6) (v : E8) (i : Int) : csOf (roundS Tryz.prog (lookG (tblDs B kk)) (orcP [(15, [(3, true)])] [(17, [8])]) [] 10 dsTd (bodyAt Tryz.prog 96 15) (dsInv q m ks fs v i)) =
    [decide (i < (↑m : Int)) = true, inI64 (i + (128 : Int)), (0 : Int) ≤ i, (0 : Int) ≤ i + (128 : Int), i.toNat ≤ (i + (128 : Int)).toNat, (i + (128 : Int)).toNat ≤ m, 0 + ks.length ≤ ks.length, 0 + fs.length ≤ fs.length, 8 ≤ 8, 0 + i.toNat + ((i + (128 : Int)).toNat - i.toNat) ≤ q.length, (cutL q (0 + i.toNat) ((i + (128 : Int)).toNat - i.toNat) q.length).length = 128, (cutL v.list 0 8 8).length = 8, (64 : Int) = (64 : Int), (80 : Int) = (80 : Int), [(28 : Int), (34 : Int), (39 : Int)] = [(28 : Int), (34 : Int), (39 : Int)], [(14 : Int), (18 : Int), (41 : Int)] = [(14 : Int), (18 : Int), (41 : Int)], [(1 : Int), (8 : Int), (7 : Int)] = [(1 : Int), (8 : Int), (7 : Int)], [(19 : Int), (61 : Int), (6 : Int)] = [(19 : Int), (61 : Int), (6 : Int)], cutL ks 0 ks.length ks.length = kk, inI64 (i + (128 : Int))] := by kernel_rfl
theorem dsExit (B : E8 → List (BitVec 8) → E8) (kk : List W6) (q : List (BitVec 8)) (m : Nat) (ks fs : List W6) (v : E8) (i : Int) : roundS Tryz.prog (lookG (tblDs B kk)) (orcA [(15, [(3, false)])]) [] 10 dsTd (bodyAt Tryz.prog 96 15) (dsInv q m ks fs v i) =
    some (Ex.exit 6, St.mk (slotsOf 101 [(2, sc (IV.ptr 0 0)), (5, sc (IV.i64 (128 : Int))), (6, sc (IV.sl 1 0 m)), (9, sc (IV.sl 2 0 8)), (10, sc (IV.i64 i))]) [(0, Blk.mk true [IV.i64 (64 : Int), IV.i64 (80 : Int), IV.vi 3 [(28 : Int), (34 : Int), (39 : Int)], IV.vi 3 [(14 : Int), (18 : Int), (41 : Int)], IV.vi 3 [(1 : Int), (8 : Int), (7 : Int)], IV.vi 3 [(19 : Int), (61 : Int), (6 : Int)], IV.sl 3 0 ks.length, IV.sl 4 0 fs.length]), (1, Blk.mk true [IV.v8 q.length q]), (2, Blk.mk true [IV.v64 8 v.list]), (3, Blk.mk false [IV.v64 ks.length ks]), (4, Blk.mk false [IV.v64 fs.length fs])] 16, [decide (i < (↑m : Int)) = false]) := by kernel_rfl
/-- Eight bytes of a word behind others. -/
def tellF (o : List (BitVec 8)) (x : W6) : List (BitVec 8) := (List.range 8).foldl (fun o i => o ++ [((x >>> (56 - 8 * i)) % 256#64).setWidth 8]) o
def endQ (z : List (BitVec 8)) (x : W6) : List (BitVec 8) := tellF (z ++ [0#8] ++ [0#8] ++ [0#8] ++ [0#8] ++ [0#8] ++ [0#8] ++ [0#8] ++ [0#8]) x
theorem dsRoundAR (B : E8 → List (BitVec 8) → E8) (kk : List W6) (q : List (BitVec 8)) (m : Nat) (ks fs : List W6) (i : Int) : resOf (roundS Tryz.prog (lookG (tblDs B kk)) (orcP [(15, [(3, true)])] [(17, [8])]) [] 10 dsTd (bodyAt Tryz.prog 96 15) (dsInvA q m ks fs i)) =
    some (.normal, dsInv q m ks fs (B (E8.ofL (cutL fs 0 fs.length fs.length)) (cutL q (0 + i.toNat) ((i + 128).toNat - i.toNat) q.length)) (i + 128)) := by kernel_rfl
theorem dsRoundR (B : E8 → List (BitVec 8) → E8) (kk : List W6) (q : List (BitVec 8)) (m : Nat) (ks fs : List W6) (v : E8) (i : Int) : resOf (roundS Tryz.prog (lookG (tblDs B kk)) (orcP [(15, [(3, true)])] [(17, [8])]) [] 10 dsTd (bodyAt Tryz.prog 96 15) (dsInv q m ks fs v i)) =
    some (.normal, dsInv q m ks fs (B (E8.ofL (cutL v.list 0 8 8)) (cutL q (0 + i.toNat) ((i + 128).toNat - i.toNat) q.length)) (i + 128)) := by kernel_rfl
def doTd : List Nat := [2, 9, 11, 12]
def doInv (ks fs : List W6) (v : E8) (o : List (BitVec 8)) (n : Nat) (i : Int) : St := ⟨slotsOf 101 [(2, sc (.ptr 0 0)), (9, sc (.sl 1 0 8)), (11, sc (.sl 2 0 n)), (12, sc (.i64 i))],
  [(0, ⟨true, kB 3 4 ks fs⟩), (1, ⟨true, [.v64 8 v.list]⟩), (2, ⟨true, [.v8 o.length o]⟩), (3, ⟨false, [.v64 ks.length ks]⟩), (4, ⟨false, [.v64 fs.length fs]⟩)], 16⟩
theorem doRoundR (ks fs : List W6) (v : E8) (o : List (BitVec 8)) (n : Nat) (i : Int) : resOf (roundS Tryz.prog (lookG tblDs0) (orcA [(20, [(1, true)])]) [] 20 doTd (bodyAt Tryz.prog 96 20) (doInv ks fs v o n i)) =
    some (.normal, doInv ks fs v (tellF o (v.list.getD (0 + i.toNat * 1) 0#64)) (n + 8) (i + 1)) := by kernel_rfl
theorem doRoundC (ks fs : List W6) (v : E8) (o : List (BitVec 8)) (n : Nat) (i : Int) : csOf (roundS Tryz.prog (lookG tblDs0) (orcA [(20, [(1, true)])]) [] 20 doTd (bodyAt Tryz.prog 96 20) (doInv ks fs v o n i)) =
    [decide (i < (8 : Int)) = true, inI64 (56 : Int), (0 : Int) ≤ i, i.toNat < 8, 0 + i.toNat * 1 < 8, (0 : Int) ≤ (56 : Int), (56 : Int) ≤ (1000 : Int), 256 ≠ 0, 1 = 1, n = o.length, (n + 1) * 1 ≤ 140737488355328 ∧ n + 1 ≤ 9223372036854775807, inI64 (48 : Int), (0 : Int) ≤ i, i.toNat < 8, 0 + i.toNat * 1 < 8, (0 : Int) ≤ (48 : Int), (48 : Int) ≤ (1000 : Int), 256 ≠ 0, 1 = 1, n + 1 = (o ++ (List.replicate 1 (BitVec.ofNat 8 0)).set 0 (BitVec.setWidth 8 (v.list.getD (0 + i.toNat * 1) (BitVec.ofNat 64 0) >>> 56 % BitVec.ofNat 64 256))).length, (n + 1 + 1) * 1 ≤ 140737488355328 ∧ n + 1 + 1 ≤ 9223372036854775807, inI64 (40 : Int), (0 : Int) ≤ i, i.toNat < 8, 0 + i.toNat * 1 < 8, (0 : Int) ≤ (40 : Int), (40 : Int) ≤ (1000 : Int), 256 ≠ 0, 1 = 1, n + 1 + 1 = (o ++ (List.replicate 1 (BitVec.ofNat 8 0)).set 0 (BitVec.setWidth 8 (v.list.getD (0 + i.toNat * 1) (BitVec.ofNat 64 0) >>> 56 % BitVec.ofNat 64 256)) ++ (List.replicate 1 (BitVec.ofNat 8 0)).set 0 (BitVec.setWidth 8 (v.list.getD (0 + i.toNat * 1) (BitVec.ofNat 64 0) >>> 48 % BitVec.ofNat 64 256))).length, (n + 1 + 1 + 1) * 1 ≤ 140737488355328 ∧ n + 1 + 1 + 1 ≤ 9223372036854775807, inI64 (32 : Int), (0 : Int) ≤ i, i.toNat < 8, 0 + i.toNat * 1 < 8, (0 : Int) ≤ (32 : Int), (32 : Int) ≤ (1000 : Int), 256 ≠ 0, 1 = 1, n + 1 + 1 + 1 = (o ++ (List.replicate 1 (BitVec.ofNat 8 0)).set 0 (BitVec.setWidth 8 (v.list.getD (0 + i.toNat * 1) (BitVec.ofNat 64 0) >>> 56 % BitVec.ofNat 64 256)) ++ (List.replicate 1 (BitVec.ofNat 8 0)).set 0 (BitVec.setWidth 8 (v.list.getD (0 + i.toNat * 1) (BitVec.ofNat 64 0) >>> 48 % BitVec.ofNat 64 256)) ++ (List.replicate 1 (BitVec.ofNat 8 0)).set 0 (BitVec.setWidth 8 (v.list.getD (0 + i.toNat * 1) (BitVec.ofNat 64 0) >>> 40 % BitVec.ofNat 64 256))).length, (n + 1 + 1 + 1 + 1) * 1 ≤ 140737488355328 ∧ n + 1 + 1 + 1 + 1 ≤ 9223372036854775807, inI64 (24 : Int), (0 : Int) ≤ i, i.toNat < 8, 0 + i.toNat * 1 < 8, (0 : Int) ≤ (24 : Int), (24 : Int) ≤ (1000 : Int), 256 ≠ 0, 1 = 1, n + 1 + 1 + 1 + 1 = (o ++ (List.replicate 1 (BitVec.ofNat 8 0)).set 0 (BitVec.setWidth 8 (v.list.getD (0 + i.toNat * 1) (BitVec.ofNat 64 0) >>> 56 % BitVec.ofNat 64 256)) ++ (List.replicate 1 (BitVec.ofNat 8 0)).set 0 (BitVec.setWidth 8 (v.list.getD (0 + i.toNat * 1) (BitVec.ofNat 64 0) >>> 48 % BitVec.ofNat 64 256)) ++ (List.replicate 1 (BitVec.ofNat 8 0)).set 0 (BitVec.setWidth 8 (v.list.getD (0 + i.toNat * 1) (BitVec.ofNat 64 0) >>> 40 % BitVec.ofNat 64 256)) ++ (List.replicate 1 (BitVec.ofNat 8 0)).set 0 (BitVec.setWidth 8 (v.list.getD (0 + i.toNat * 1) (BitVec.ofNat 64 0) >>> 32 % BitVec.ofNat 64 256))).length, (n + 1 + 1 + 1 + 1 + 1) * 1 ≤ 140737488355328 ∧ n + 1 + 1 + 1 + 1 + 1 ≤ 9223372036854775807, inI64 (16 : Int), (0 : Int) ≤ i, i.toNat < 8, 0 + i.toNat * 1 < 8, (0 : Int) ≤ (16 : Int), (16 : Int) ≤ (1000 : Int), 256 ≠ 0, 1 = 1, n + 1 + 1 + 1 + 1 + 1 = (o ++ (List.replicate 1 (BitVec.ofNat 8 0)).set 0 (BitVec.setWidth 8 (v.list.getD (0 + i.toNat * 1) (BitVec.ofNat 64 0) >>> 56 % BitVec.ofNat 64 256)) ++ (List.replicate 1 (BitVec.ofNat 8 0)).set 0 (BitVec.setWidth 8 (v.list.getD (0 + i.toNat * 1) (BitVec.ofNat 64 0) >>> 48 % BitVec.ofNat 64 256)) ++ (List.replicate 1 (BitVec.ofNat 8 0)).set 0 (BitVec.setWidth 8 (v.list.getD (0 + i.toNat * 1) (BitVec.ofNat 64 0) >>> 40 % BitVec.ofNat 64 256)) ++ (List.replicate 1 (BitVec.ofNat 8 0)).set 0 (BitVec.setWidth 8 (v.list.getD (0 + i.toNat * 1) (BitVec.ofNat 64 0) >>> 32 % BitVec.ofNat 64 256)) ++ (List.replicate 1 (BitVec.ofNat 8 0)).set 0 (BitVec.setWidth 8 (v.list.getD (0 + i.toNat * 1) (BitVec.ofNat 64 0) >>> 24 % BitVec.ofNat 64 256))).length, (n + 1 + 1 + 1 + 1 + 1 + 1) * 1 ≤ 140737488355328 ∧ n + 1 + 1 + 1 + 1 + 1 + 1 ≤ 9223372036854775807, inI64 (8 : Int), (0 : Int) ≤ i, i.toNat < 8, 0 + i.toNat * 1 < 8, (0 : Int) ≤ (8 : Int), (8 : Int) ≤ (1000 : Int), 256 ≠ 0, 1 = 1, n + 1 + 1 + 1 + 1 + 1 + 1 = (o ++ (List.replicate 1 (BitVec.ofNat 8 0)).set 0 (BitVec.setWidth 8 (v.list.getD (0 + i.toNat * 1) (BitVec.ofNat 64 0) >>> 56 % BitVec.ofNat 64 256)) ++ (List.replicate 1 (BitVec.ofNat 8 0)).set 0 (BitVec.setWidth 8 (v.list.getD (0 + i.toNat * 1) (BitVec.ofNat 64 0) >>> 48 % BitVec.ofNat 64 256)) ++ (List.replicate 1 (BitVec.ofNat 8 0)).set 0 (BitVec.setWidth 8 (v.list.getD (0 + i.toNat * 1) (BitVec.ofNat 64 0) >>> 40 % BitVec.ofNat 64 256)) ++ (List.replicate 1 (BitVec.ofNat 8 0)).set 0 (BitVec.setWidth 8 (v.list.getD (0 + i.toNat * 1) (BitVec.ofNat 64 0) >>> 32 % BitVec.ofNat 64 256)) ++ (List.replicate 1 (BitVec.ofNat 8 0)).set 0 (BitVec.setWidth 8 (v.list.getD (0 + i.toNat * 1) (BitVec.ofNat 64 0) >>> 24 % BitVec.ofNat 64 256)) ++ (List.replicate 1 (BitVec.ofNat 8 0)).set 0 (BitVec.setWidth 8 (v.list.getD (0 + i.toNat * 1) (BitVec.ofNat 64 0) >>> 16 % BitVec.ofNat 64 256))).length, (n + 1 + 1 + 1 + 1 + 1 + 1 + 1) * 1 ≤ 140737488355328 ∧ n + 1 + 1 + 1 + 1 + 1 + 1 + 1 ≤ 9223372036854775807, inI64 (0 : Int), (0 : Int) ≤ i, i.toNat < 8, 0 + i.toNat * 1 < 8, (0 : Int) ≤ (0 : Int), (0 : Int) ≤ (1000 : Int), 256 ≠ 0, 1 = 1, n + 1 + 1 + 1 + 1 + 1 + 1 + 1 = (o ++ (List.replicate 1 (BitVec.ofNat 8 0)).set 0 (BitVec.setWidth 8 (v.list.getD (0 + i.toNat * 1) (BitVec.ofNat 64 0) >>> 56 % BitVec.ofNat 64 256)) ++ (List.replicate 1 (BitVec.ofNat 8 0)).set 0 (BitVec.setWidth 8 (v.list.getD (0 + i.toNat * 1) (BitVec.ofNat 64 0) >>> 48 % BitVec.ofNat 64 256)) ++ (List.replicate 1 (BitVec.ofNat 8 0)).set 0 (BitVec.setWidth 8 (v.list.getD (0 + i.toNat * 1) (BitVec.ofNat 64 0) >>> 40 % BitVec.ofNat 64 256)) ++ (List.replicate 1 (BitVec.ofNat 8 0)).set 0 (BitVec.setWidth 8 (v.list.getD (0 + i.toNat * 1) (BitVec.ofNat 64 0) >>> 32 % BitVec.ofNat 64 256)) ++ (List.replicate 1 (BitVec.ofNat 8 0)).set 0 (BitVec.setWidth 8 (v.list.getD (0 + i.toNat * 1) (BitVec.ofNat 64 0) >>> 24 % BitVec.ofNat 64 256)) ++ (List.replicate 1 (BitVec.ofNat 8 0)).set 0 (BitVec.setWidth 8 (v.list.getD (0 + i.toNat * 1) (BitVec.ofNat 64 0) >>> 16 % BitVec.ofNat 64 256)) ++ (List.replicate 1 (BitVec.ofNat 8 0)).set 0 (BitVec.setWidth 8 (v.list.getD (0 + i.toNat * 1) (BitVec.ofNat 64 0) >>> 8 % BitVec.ofNat 64 256))).length, (n + 1 + 1 + 1 + 1 + 1 + 1 + 1 + 1) * 1 ≤ 140737488355328 ∧ n + 1 + 1 + 1 + 1 + 1 + 1 + 1 + 1 ≤ 9223372036854775807, inI64 (-8 : Int), inI64 (i + (1 : Int))] := by kernel_rfl
theorem doExit (ks fs : List W6) (v : E8) (o : List (BitVec 8)) (n : Nat) (i : Int) : roundS Tryz.prog (lookG tblDs0) (orcA [(20, [(1, false)])]) [] 20 doTd (bodyAt Tryz.prog 96 20) (doInv ks fs v o n i) =
    some (Ex.exit 8, St.mk (slotsOf 101 [(2, sc (IV.ptr 0 0)), (9, sc (IV.sl 1 0 8)), (11, sc (IV.sl 2 0 n)), (12, sc (IV.i64 i))]) [(0, Blk.mk true [IV.i64 (64 : Int), IV.i64 (80 : Int), IV.vi 3 [(28 : Int), (34 : Int), (39 : Int)], IV.vi 3 [(14 : Int), (18 : Int), (41 : Int)], IV.vi 3 [(1 : Int), (8 : Int), (7 : Int)], IV.vi 3 [(19 : Int), (61 : Int), (6 : Int)], IV.sl 3 0 ks.length, IV.sl 4 0 fs.length]), (1, Blk.mk true [IV.v64 8 v.list]), (2, Blk.mk true [IV.v8 o.length o]), (3, Blk.mk false [IV.v64 ks.length ks]), (4, Blk.mk false [IV.v64 fs.length fs])] 16, [decide (i < (8 : Int)) = false]) := by kernel_rfl
theorem runSumDC (B : E8 → List (BitVec 8) → E8) (kk : List W6) (l z q o : List (BitVec 8)) (ks fs : List W6) (v : E8) (m k n : Nat) (i : Int) : acsOf (fnS Tryz.prog (lookG (tblDs B kk)) (orcA []) [⟨3, dpTd, .exit 0, dpInv l z ks fs k⟩, ⟨15, dsTd, .exit 6, dsInv q m ks fs v i⟩, ⟨20, doTd, .exit 8, doInv ks fs v o n 8⟩] 20 96 [.val true (kindL ks fs), sc (.d8 l)]) =
    [inI64 (128 : Int), l.length = l.length, 0 = 0, (0 + l.length) * 1 ≤ 140737488355328 ∧ 0 + l.length ≤ 9223372036854775807, 1 = 1, 0 + l.length = l.length, (0 + l.length + 1) * 1 ≤ 140737488355328 ∧ 0 + l.length + 1 ≤ 9223372036854775807, LoopTo Tryz.prog (bodyAt Tryz.prog 96 3) (St.mk (slotsOf 101 [(1, sc (IV.sl 0 0 l.length)), (2, sc (IV.ptr 1 0)), (5, sc (IV.i64 (128 : Int))), (6, sc (IV.sl 2 0 (0 + l.length + 1)))]) [(0, Blk.mk false [IV.v8 l.length l]), (1, Blk.mk true [IV.i64 (64 : Int), IV.i64 (80 : Int), IV.vi 3 [(28 : Int), (34 : Int), (39 : Int)], IV.vi 3 [(14 : Int), (18 : Int), (41 : Int)], IV.vi 3 [(1 : Int), (8 : Int), (7 : Int)], IV.vi 3 [(19 : Int), (61 : Int), (6 : Int)], IV.sl 3 0 ks.length, IV.sl 4 0 fs.length]), (2, Blk.mk true [IV.v8 (l ++ (List.replicate 1 (BitVec.ofNat 8 0)).set 0 (BitVec.ofNat 8 128)).length (l ++ (List.replicate 1 (BitVec.ofNat 8 0)).set 0 (BitVec.ofNat 8 128))]), (3, Blk.mk false [IV.v64 ks.length ks]), (4, Blk.mk false [IV.v64 fs.length fs])] 16) (Ex.exit 0) (St.mk (slotsOf 101 [(1, sc (IV.sl 0 0 l.length)), (2, sc (IV.ptr 1 0)), (5, sc (IV.i64 (128 : Int))), (6, sc (IV.sl 2 0 k))]) [(0, Blk.mk false [IV.v8 l.length l]), (1, Blk.mk true [IV.i64 (64 : Int), IV.i64 (80 : Int), IV.vi 3 [(28 : Int), (34 : Int), (39 : Int)], IV.vi 3 [(14 : Int), (18 : Int), (41 : Int)], IV.vi 3 [(1 : Int), (8 : Int), (7 : Int)], IV.vi 3 [(19 : Int), (61 : Int), (6 : Int)], IV.sl 3 0 ks.length, IV.sl 4 0 fs.length]), (2, Blk.mk true [IV.v8 z.length z]), (3, Blk.mk false [IV.v64 ks.length ks]), (4, Blk.mk false [IV.v64 fs.length fs])] 16), (4 : Int) ≠ (0 : Int), inI64 (16 : Int), 1 = 1, k = z.length, (k + 1) * 1 ≤ 140737488355328 ∧ k + 1 ≤ 9223372036854775807, inI64 (9 : Int), (4 : Int) ≠ (0 : Int), inI64 (16 : Int), 1 = 1, k + 1 = (z ++ (List.replicate 1 (BitVec.ofNat 8 0)).set 0 (BitVec.ofNat 8 0)).length, (k + 1 + 1) * 1 ≤ 140737488355328 ∧ k + 1 + 1 ≤ 9223372036854775807, inI64 (10 : Int), (4 : Int) ≠ (0 : Int), inI64 (16 : Int), 1 = 1, k + 1 + 1 = (z ++ (List.replicate 1 (BitVec.ofNat 8 0)).set 0 (BitVec.ofNat 8 0) ++ (List.replicate 1 (BitVec.ofNat 8 0)).set 0 (BitVec.ofNat 8 0)).length, (k + 1 + 1 + 1) * 1 ≤ 140737488355328 ∧ k + 1 + 1 + 1 ≤ 9223372036854775807, inI64 (11 : Int), (4 : Int) ≠ (0 : Int), inI64 (16 : Int), 1 = 1, k + 1 + 1 + 1 = (z ++ (List.replicate 1 (BitVec.ofNat 8 0)).set 0 (BitVec.ofNat 8 0) ++ (List.replicate 1 (BitVec.ofNat 8 0)).set 0 (BitVec.ofNat 8 0) ++ (List.replicate 1 (BitVec.ofNat 8 0)).set 0 (BitVec.ofNat 8 0)).length, (k + 1 + 1 + 1 + 1) * 1 ≤ 140737488355328 ∧ k + 1 + 1 + 1 + 1 ≤ 9223372036854775807, inI64 (12 : Int), (4 : Int) ≠ (0 : Int), inI64 (16 : Int), 1 = 1, k + 1 + 1 + 1 + 1 = (z ++ (List.replicate 1 (BitVec.ofNat 8 0)).set 0 (BitVec.ofNat 8 0) ++ (List.replicate 1 (BitVec.ofNat 8 0)).set 0 (BitVec.ofNat 8 0) ++ (List.replicate 1 (BitVec.ofNat 8 0)).set 0 (BitVec.ofNat 8 0) ++ (List.replicate 1 (BitVec.ofNat 8 0)).set 0 (BitVec.ofNat 8 0)).length, (k + 1 + 1 + 1 + 1 + 1) * 1 ≤ 140737488355328 ∧ k + 1 + 1 + 1 + 1 + 1 ≤ 9223372036854775807, inI64 (13 : Int), (4 : Int) ≠ (0 : Int), inI64 (16 : Int), 1 = 1, k + 1 + 1 + 1 + 1 + 1 = (z ++ (List.replicate 1 (BitVec.ofNat 8 0)).set 0 (BitVec.ofNat 8 0) ++ (List.replicate 1 (BitVec.ofNat 8 0)).set 0 (BitVec.ofNat 8 0) ++ (List.replicate 1 (BitVec.ofNat 8 0)).set 0 (BitVec.ofNat 8 0) ++ (List.replicate 1 (BitVec.ofNat 8 0)).set 0 (BitVec.ofNat 8 0) ++ (List.replicate 1 (BitVec.ofNat 8 0)).set 0 (BitVec.ofNat 8 0)).length, (k + 1 + 1 + 1 + 1 + 1 + 1) * 1 ≤ 140737488355328 ∧ k + 1 + 1 + 1 + 1 + 1 + 1 ≤ 9223372036854775807, inI64 (14 : Int), (4 : Int) ≠ (0 : Int), inI64 (16 : Int), 1 = 1, k + 1 + 1 + 1 + 1 + 1 + 1 = (z ++ (List.replicate 1 (BitVec.ofNat 8 0)).set 0 (BitVec.ofNat 8 0) ++ (List.replicate 1 (BitVec.ofNat 8 0)).set 0 (BitVec.ofNat 8 0) ++ (List.replicate 1 (BitVec.ofNat 8 0)).set 0 (BitVec.ofNat 8 0) ++ (List.replicate 1 (BitVec.ofNat 8 0)).set 0 (BitVec.ofNat 8 0) ++ (List.replicate 1 (BitVec.ofNat 8 0)).set 0 (BitVec.ofNat 8 0) ++ (List.replicate 1 (BitVec.ofNat 8 0)).set 0 (BitVec.ofNat 8 0)).length, (k + 1 + 1 + 1 + 1 + 1 + 1 + 1) * 1 ≤ 140737488355328 ∧ k + 1 + 1 + 1 + 1 + 1 + 1 + 1 ≤ 9223372036854775807, inI64 (15 : Int), (4 : Int) ≠ (0 : Int), inI64 (16 : Int), 1 = 1, k + 1 + 1 + 1 + 1 + 1 + 1 + 1 = (z ++ (List.replicate 1 (BitVec.ofNat 8 0)).set 0 (BitVec.ofNat 8 0) ++ (List.replicate 1 (BitVec.ofNat 8 0)).set 0 (BitVec.ofNat 8 0) ++ (List.replicate 1 (BitVec.ofNat 8 0)).set 0 (BitVec.ofNat 8 0) ++ (List.replicate 1 (BitVec.ofNat 8 0)).set 0 (BitVec.ofNat 8 0) ++ (List.replicate 1 (BitVec.ofNat 8 0)).set 0 (BitVec.ofNat 8 0) ++ (List.replicate 1 (BitVec.ofNat 8 0)).set 0 (BitVec.ofNat 8 0) ++ (List.replicate 1 (BitVec.ofNat 8 0)).set 0 (BitVec.ofNat 8 0)).length, (k + 1 + 1 + 1 + 1 + 1 + 1 + 1 + 1) * 1 ≤ 140737488355328 ∧ k + 1 + 1 + 1 + 1 + 1 + 1 + 1 + 1 ≤ 9223372036854775807, inI64 (16 : Int), (4 : Int) ≠ (0 : Int), inI64 (16 : Int), inI64 (56 : Int), (0 : Int) ≤ (56 : Int), (56 : Int) ≤ (1000 : Int), 256 ≠ 0, 1 = 1, k + 1 + 1 + 1 + 1 + 1 + 1 + 1 + 1 = (z ++ (List.replicate 1 (BitVec.ofNat 8 0)).set 0 (BitVec.ofNat 8 0) ++ (List.replicate 1 (BitVec.ofNat 8 0)).set 0 (BitVec.ofNat 8 0) ++ (List.replicate 1 (BitVec.ofNat 8 0)).set 0 (BitVec.ofNat 8 0) ++ (List.replicate 1 (BitVec.ofNat 8 0)).set 0 (BitVec.ofNat 8 0) ++ (List.replicate 1 (BitVec.ofNat 8 0)).set 0 (BitVec.ofNat 8 0) ++ (List.replicate 1 (BitVec.ofNat 8 0)).set 0 (BitVec.ofNat 8 0) ++ (List.replicate 1 (BitVec.ofNat 8 0)).set 0 (BitVec.ofNat 8 0) ++ (List.replicate 1 (BitVec.ofNat 8 0)).set 0 (BitVec.ofNat 8 0)).length, (k + 1 + 1 + 1 + 1 + 1 + 1 + 1 + 1 + 1) * 1 ≤ 140737488355328 ∧ k + 1 + 1 + 1 + 1 + 1 + 1 + 1 + 1 + 1 ≤ 9223372036854775807, inI64 (6 : Int), inI64 (48 : Int), (0 : Int) ≤ (48 : Int), (48 : Int) ≤ (1000 : Int), 256 ≠ 0, 1 = 1, k + 1 + 1 + 1 + 1 + 1 + 1 + 1 + 1 + 1 = (z ++ (List.replicate 1 (BitVec.ofNat 8 0)).set 0 (BitVec.ofNat 8 0) ++ (List.replicate 1 (BitVec.ofNat 8 0)).set 0 (BitVec.ofNat 8 0) ++ (List.replicate 1 (BitVec.ofNat 8 0)).set 0 (BitVec.ofNat 8 0) ++ (List.replicate 1 (BitVec.ofNat 8 0)).set 0 (BitVec.ofNat 8 0) ++ (List.replicate 1 (BitVec.ofNat 8 0)).set 0 (BitVec.ofNat 8 0) ++ (List.replicate 1 (BitVec.ofNat 8 0)).set 0 (BitVec.ofNat 8 0) ++ (List.replicate 1 (BitVec.ofNat 8 0)).set 0 (BitVec.ofNat 8 0) ++ (List.replicate 1 (BitVec.ofNat 8 0)).set 0 (BitVec.ofNat 8 0) ++ (List.replicate 1 (BitVec.ofNat 8 0)).set 0 (BitVec.setWidth 8 ((BitVec.ofInt 64 (↑l.length : Int) * BitVec.ofNat 64 8) >>> 56 % BitVec.ofNat 64 256))).length, (k + 1 + 1 + 1 + 1 + 1 + 1 + 1 + 1 + 1 + 1) * 1 ≤ 140737488355328 ∧ k + 1 + 1 + 1 + 1 + 1 + 1 + 1 + 1 + 1 + 1 ≤ 9223372036854775807, inI64 (5 : Int), inI64 (40 : Int), (0 : Int) ≤ (40 : Int), (40 : Int) ≤ (1000 : Int), 256 ≠ 0, 1 = 1, k + 1 + 1 + 1 + 1 + 1 + 1 + 1 + 1 + 1 + 1 = (z ++ (List.replicate 1 (BitVec.ofNat 8 0)).set 0 (BitVec.ofNat 8 0) ++ (List.replicate 1 (BitVec.ofNat 8 0)).set 0 (BitVec.ofNat 8 0) ++ (List.replicate 1 (BitVec.ofNat 8 0)).set 0 (BitVec.ofNat 8 0) ++ (List.replicate 1 (BitVec.ofNat 8 0)).set 0 (BitVec.ofNat 8 0) ++ (List.replicate 1 (BitVec.ofNat 8 0)).set 0 (BitVec.ofNat 8 0) ++ (List.replicate 1 (BitVec.ofNat 8 0)).set 0 (BitVec.ofNat 8 0) ++ (List.replicate 1 (BitVec.ofNat 8 0)).set 0 (BitVec.ofNat 8 0) ++ (List.replicate 1 (BitVec.ofNat 8 0)).set 0 (BitVec.ofNat 8 0) ++ (List.replicate 1 (BitVec.ofNat 8 0)).set 0 (BitVec.setWidth 8 ((BitVec.ofInt 64 (↑l.length : Int) * BitVec.ofNat 64 8) >>> 56 % BitVec.ofNat 64 256)) ++ (List.replicate 1 (BitVec.ofNat 8 0)).set 0 (BitVec.setWidth 8 ((BitVec.ofInt 64 (↑l.length : Int) * BitVec.ofNat 64 8) >>> 48 % BitVec.ofNat 64 256))).length, (k + 1 + 1 + 1 + 1 + 1 + 1 + 1 + 1 + 1 + 1 + 1) * 1 ≤ 140737488355328 ∧ k + 1 + 1 + 1 + 1 + 1 + 1 + 1 + 1 + 1 + 1 + 1 ≤ 9223372036854775807, inI64 (4 : Int), inI64 (32 : Int), (0 : Int) ≤ (32 : Int), (32 : Int) ≤ (1000 : Int), 256 ≠ 0, 1 = 1, k + 1 + 1 + 1 + 1 + 1 + 1 + 1 + 1 + 1 + 1 + 1 = (z ++ (List.replicate 1 (BitVec.ofNat 8 0)).set 0 (BitVec.ofNat 8 0) ++ (List.replicate 1 (BitVec.ofNat 8 0)).set 0 (BitVec.ofNat 8 0) ++ (List.replicate 1 (BitVec.ofNat 8 0)).set 0 (BitVec.ofNat 8 0) ++ (List.replicate 1 (BitVec.ofNat 8 0)).set 0 (BitVec.ofNat 8 0) ++ (List.replicate 1 (BitVec.ofNat 8 0)).set 0 (BitVec.ofNat 8 0) ++ (List.replicate 1 (BitVec.ofNat 8 0)).set 0 (BitVec.ofNat 8 0) ++ (List.replicate 1 (BitVec.ofNat 8 0)).set 0 (BitVec.ofNat 8 0) ++ (List.replicate 1 (BitVec.ofNat 8 0)).set 0 (BitVec.ofNat 8 0) ++ (List.replicate 1 (BitVec.ofNat 8 0)).set 0 (BitVec.setWidth 8 ((BitVec.ofInt 64 (↑l.length : Int) * BitVec.ofNat 64 8) >>> 56 % BitVec.ofNat 64 256)) ++ (List.replicate 1 (BitVec.ofNat 8 0)).set 0 (BitVec.setWidth 8 ((BitVec.ofInt 64 (↑l.length : Int) * BitVec.ofNat 64 8) >>> 48 % BitVec.ofNat 64 256)) ++ (List.replicate 1 (BitVec.ofNat 8 0)).set 0 (BitVec.setWidth 8 ((BitVec.ofInt 64 (↑l.length : Int) * BitVec.ofNat 64 8) >>> 40 % BitVec.ofNat 64 256))).length, (k + 1 + 1 + 1 + 1 + 1 + 1 + 1 + 1 + 1 + 1 + 1 + 1) * 1 ≤ 140737488355328 ∧ k + 1 + 1 + 1 + 1 + 1 + 1 + 1 + 1 + 1 + 1 + 1 + 1 ≤ 9223372036854775807, inI64 (3 : Int), inI64 (24 : Int), (0 : Int) ≤ (24 : Int), (24 : Int) ≤ (1000 : Int), 256 ≠ 0, 1 = 1, k + 1 + 1 + 1 + 1 + 1 + 1 + 1 + 1 + 1 + 1 + 1 + 1 = (z ++ (List.replicate 1 (BitVec.ofNat 8 0)).set 0 (BitVec.ofNat 8 0) ++ (List.replicate 1 (BitVec.ofNat 8 0)).set 0 (BitVec.ofNat 8 0) ++ (List.replicate 1 (BitVec.ofNat 8 0)).set 0 (BitVec.ofNat 8 0) ++ (List.replicate 1 (BitVec.ofNat 8 0)).set 0 (BitVec.ofNat 8 0) ++ (List.replicate 1 (BitVec.ofNat 8 0)).set 0 (BitVec.ofNat 8 0) ++ (List.replicate 1 (BitVec.ofNat 8 0)).set 0 (BitVec.ofNat 8 0) ++ (List.replicate 1 (BitVec.ofNat 8 0)).set 0 (BitVec.ofNat 8 0) ++ (List.replicate 1 (BitVec.ofNat 8 0)).set 0 (BitVec.ofNat 8 0) ++ (List.replicate 1 (BitVec.ofNat 8 0)).set 0 (BitVec.setWidth 8 ((BitVec.ofInt 64 (↑l.length : Int) * BitVec.ofNat 64 8) >>> 56 % BitVec.ofNat 64 256)) ++ (List.replicate 1 (BitVec.ofNat 8 0)).set 0 (BitVec.setWidth 8 ((BitVec.ofInt 64 (↑l.length : Int) * BitVec.ofNat 64 8) >>> 48 % BitVec.ofNat 64 256)) ++ (List.replicate 1 (BitVec.ofNat 8 0)).set 0 (BitVec.setWidth 8 ((BitVec.ofInt 64 (↑l.length : Int) * BitVec.ofNat 64 8) >>> 40 % BitVec.ofNat 64 256)) ++ (List.replicate 1 (BitVec.ofNat 8 0)).set 0 (BitVec.setWidth 8 ((BitVec.ofInt 64 (↑l.length : Int) * BitVec.ofNat 64 8) >>> 32 % BitVec.ofNat 64 256))).length, (k + 1 + 1 + 1 + 1 + 1 + 1 + 1 + 1 + 1 + 1 + 1 + 1 + 1) * 1 ≤ 140737488355328 ∧ k + 1 + 1 + 1 + 1 + 1 + 1 + 1 + 1 + 1 + 1 + 1 + 1 + 1 ≤ 9223372036854775807, inI64 (2 : Int), inI64 (16 : Int), (0 : Int) ≤ (16 : Int), (16 : Int) ≤ (1000 : Int), 256 ≠ 0, 1 = 1, k + 1 + 1 + 1 + 1 + 1 + 1 + 1 + 1 + 1 + 1 + 1 + 1 + 1 = (z ++ (List.replicate 1 (BitVec.ofNat 8 0)).set 0 (BitVec.ofNat 8 0) ++ (List.replicate 1 (BitVec.ofNat 8 0)).set 0 (BitVec.ofNat 8 0) ++ (List.replicate 1 (BitVec.ofNat 8 0)).set 0 (BitVec.ofNat 8 0) ++ (List.replicate 1 (BitVec.ofNat 8 0)).set 0 (BitVec.ofNat 8 0) ++ (List.replicate 1 (BitVec.ofNat 8 0)).set 0 (BitVec.ofNat 8 0) ++ (List.replicate 1 (BitVec.ofNat 8 0)).set 0 (BitVec.ofNat 8 0) ++ (List.replicate 1 (BitVec.ofNat 8 0)).set 0 (BitVec.ofNat 8 0) ++ (List.replicate 1 (BitVec.ofNat 8 0)).set 0 (BitVec.ofNat 8 0) ++ (List.replicate 1 (BitVec.ofNat 8 0)).set 0 (BitVec.setWidth 8 ((BitVec.ofInt 64 (↑l.length : Int) * BitVec.ofNat 64 8) >>> 56 % BitVec.ofNat 64 256)) ++ (List.replicate 1 (BitVec.ofNat 8 0)).set 0 (BitVec.setWidth 8 ((BitVec.ofInt 64 (↑l.length : Int) * BitVec.ofNat 64 8) >>> 48 % BitVec.ofNat 64 256)) ++ (List.replicate 1 (BitVec.ofNat 8 0)).set 0 (BitVec.setWidth 8 ((BitVec.ofInt 64 (↑l.length : Int) * BitVec.ofNat 64 8) >>> 40 % BitVec.ofNat 64 256)) ++ (List.replicate 1 (BitVec.ofNat 8 0)).set 0 (BitVec.setWidth 8 ((BitVec.ofInt 64 (↑l.length : Int) * BitVec.ofNat 64 8) >>> 32 % BitVec.ofNat 64 256)) ++ (List.replicate 1 (BitVec.ofNat 8 0)).set 0 (BitVec.setWidth 8 ((BitVec.ofInt 64 (↑l.length : Int) * BitVec.ofNat 64 8) >>> 24 % BitVec.ofNat 64 256))).length, (k + 1 + 1 + 1 + 1 + 1 + 1 + 1 + 1 + 1 + 1 + 1 + 1 + 1 + 1) * 1 ≤ 140737488355328 ∧ k + 1 + 1 + 1 + 1 + 1 + 1 + 1 + 1 + 1 + 1 + 1 + 1 + 1 + 1 ≤ 9223372036854775807, inI64 (1 : Int), inI64 (8 : Int), (0 : Int) ≤ (8 : Int), (8 : Int) ≤ (1000 : Int), 256 ≠ 0, 1 = 1, k + 1 + 1 + 1 + 1 + 1 + 1 + 1 + 1 + 1 + 1 + 1 + 1 + 1 + 1 = (z ++ (List.replicate 1 (BitVec.ofNat 8 0)).set 0 (BitVec.ofNat 8 0) ++ (List.replicate 1 (BitVec.ofNat 8 0)).set 0 (BitVec.ofNat 8 0) ++ (List.replicate 1 (BitVec.ofNat 8 0)).set 0 (BitVec.ofNat 8 0) ++ (List.replicate 1 (BitVec.ofNat 8 0)).set 0 (BitVec.ofNat 8 0) ++ (List.replicate 1 (BitVec.ofNat 8 0)).set 0 (BitVec.ofNat 8 0) ++ (List.replicate 1 (BitVec.ofNat 8 0)).set 0 (BitVec.ofNat 8 0) ++ (List.replicate 1 (BitVec.ofNat 8 0)).set 0 (BitVec.ofNat 8 0) ++ (List.replicate 1 (BitVec.ofNat 8 0)).set 0 (BitVec.ofNat 8 0) ++ (List.replicate 1 (BitVec.ofNat 8 0)).set 0 (BitVec.setWidth 8 ((BitVec.ofInt 64 (↑l.length : Int) * BitVec.ofNat 64 8) >>> 56 % BitVec.ofNat 64 256)) ++ (List.replicate 1 (BitVec.ofNat 8 0)).set 0 (BitVec.setWidth 8 ((BitVec.ofInt 64 (↑l.length : Int) * BitVec.ofNat 64 8) >>> 48 % BitVec.ofNat 64 256)) ++ (List.replicate 1 (BitVec.ofNat 8 0)).set 0 (BitVec.setWidth 8 ((BitVec.ofInt 64 (↑l.length : Int) * BitVec.ofNat 64 8) >>> 40 % BitVec.ofNat 64 256)) ++ (List.replicate 1 (BitVec.ofNat 8 0)).set 0 (BitVec.setWidth 8 ((BitVec.ofInt 64 (↑l.length : Int) * BitVec.ofNat 64 8) >>> 32 % BitVec.ofNat 64 256)) ++ (List.replicate 1 (BitVec.ofNat 8 0)).set 0 (BitVec.setWidth 8 ((BitVec.ofInt 64 (↑l.length : Int) * BitVec.ofNat 64 8) >>> 24 % BitVec.ofNat 64 256)) ++ (List.replicate 1 (BitVec.ofNat 8 0)).set 0 (BitVec.setWidth 8 ((BitVec.ofInt 64 (↑l.length : Int) * BitVec.ofNat 64 8) >>> 16 % BitVec.ofNat 64 256))).length, (k + 1 + 1 + 1 + 1 + 1 + 1 + 1 + 1 + 1 + 1 + 1 + 1 + 1 + 1 + 1) * 1 ≤ 140737488355328 ∧ k + 1 + 1 + 1 + 1 + 1 + 1 + 1 + 1 + 1 + 1 + 1 + 1 + 1 + 1 + 1 ≤ 9223372036854775807, inI64 (0 : Int), inI64 (0 : Int), (0 : Int) ≤ (0 : Int), (0 : Int) ≤ (1000 : Int), 256 ≠ 0, 1 = 1, k + 1 + 1 + 1 + 1 + 1 + 1 + 1 + 1 + 1 + 1 + 1 + 1 + 1 + 1 + 1 = (z ++ (List.replicate 1 (BitVec.ofNat 8 0)).set 0 (BitVec.ofNat 8 0) ++ (List.replicate 1 (BitVec.ofNat 8 0)).set 0 (BitVec.ofNat 8 0) ++ (List.replicate 1 (BitVec.ofNat 8 0)).set 0 (BitVec.ofNat 8 0) ++ (List.replicate 1 (BitVec.ofNat 8 0)).set 0 (BitVec.ofNat 8 0) ++ (List.replicate 1 (BitVec.ofNat 8 0)).set 0 (BitVec.ofNat 8 0) ++ (List.replicate 1 (BitVec.ofNat 8 0)).set 0 (BitVec.ofNat 8 0) ++ (List.replicate 1 (BitVec.ofNat 8 0)).set 0 (BitVec.ofNat 8 0) ++ (List.replicate 1 (BitVec.ofNat 8 0)).set 0 (BitVec.ofNat 8 0) ++ (List.replicate 1 (BitVec.ofNat 8 0)).set 0 (BitVec.setWidth 8 ((BitVec.ofInt 64 (↑l.length : Int) * BitVec.ofNat 64 8) >>> 56 % BitVec.ofNat 64 256)) ++ (List.replicate 1 (BitVec.ofNat 8 0)).set 0 (BitVec.setWidth 8 ((BitVec.ofInt 64 (↑l.length : Int) * BitVec.ofNat 64 8) >>> 48 % BitVec.ofNat 64 256)) ++ (List.replicate 1 (BitVec.ofNat 8 0)).set 0 (BitVec.setWidth 8 ((BitVec.ofInt 64 (↑l.length : Int) * BitVec.ofNat 64 8) >>> 40 % BitVec.ofNat 64 256)) ++ (List.replicate 1 (BitVec.ofNat 8 0)).set 0 (BitVec.setWidth 8 ((BitVec.ofInt 64 (↑l.length : Int) * BitVec.ofNat 64 8) >>> 32 % BitVec.ofNat 64 256)) ++ (List.replicate 1 (BitVec.ofNat 8 0)).set 0 (BitVec.setWidth 8 ((BitVec.ofInt 64 (↑l.length : Int) * BitVec.ofNat 64 8) >>> 24 % BitVec.ofNat 64 256)) ++ (List.replicate 1 (BitVec.ofNat 8 0)).set 0 (BitVec.setWidth 8 ((BitVec.ofInt 64 (↑l.length : Int) * BitVec.ofNat 64 8) >>> 16 % BitVec.ofNat 64 256)) ++ (List.replicate 1 (BitVec.ofNat 8 0)).set 0 (BitVec.setWidth 8 ((BitVec.ofInt 64 (↑l.length : Int) * BitVec.ofNat 64 8) >>> 8 % BitVec.ofNat 64 256))).length, (k + 1 + 1 + 1 + 1 + 1 + 1 + 1 + 1 + 1 + 1 + 1 + 1 + 1 + 1 + 1 + 1) * 1 ≤ 140737488355328 ∧ k + 1 + 1 + 1 + 1 + 1 + 1 + 1 + 1 + 1 + 1 + 1 + 1 + 1 + 1 + 1 + 1 ≤ 9223372036854775807, inI64 (-1 : Int), LoopTo Tryz.prog (bodyAt Tryz.prog 96 15) (St.mk (slotsOf 101 [(2, sc (IV.ptr 0 0)), (5, sc (IV.i64 (128 : Int))), (6, sc (IV.sl 1 0 (k + 1 + 1 + 1 + 1 + 1 + 1 + 1 + 1 + 1 + 1 + 1 + 1 + 1 + 1 + 1 + 1))), (9, sc (IV.sl 2 0 fs.length)), (10, sc (IV.i64 (0 : Int)))]) [(0, Blk.mk true [IV.i64 (64 : Int), IV.i64 (80 : Int), IV.vi 3 [(28 : Int), (34 : Int), (39 : Int)], IV.vi 3 [(14 : Int), (18 : Int), (41 : Int)], IV.vi 3 [(1 : Int), (8 : Int), (7 : Int)], IV.vi 3 [(19 : Int), (61 : Int), (6 : Int)], IV.sl 3 0 ks.length, IV.sl 2 0 fs.length]), (1, Blk.mk true [IV.v8 (z ++ (List.replicate 1 (BitVec.ofNat 8 0)).set 0 (BitVec.ofNat 8 0) ++ (List.replicate 1 (BitVec.ofNat 8 0)).set 0 (BitVec.ofNat 8 0) ++ (List.replicate 1 (BitVec.ofNat 8 0)).set 0 (BitVec.ofNat 8 0) ++ (List.replicate 1 (BitVec.ofNat 8 0)).set 0 (BitVec.ofNat 8 0) ++ (List.replicate 1 (BitVec.ofNat 8 0)).set 0 (BitVec.ofNat 8 0) ++ (List.replicate 1 (BitVec.ofNat 8 0)).set 0 (BitVec.ofNat 8 0) ++ (List.replicate 1 (BitVec.ofNat 8 0)).set 0 (BitVec.ofNat 8 0) ++ (List.replicate 1 (BitVec.ofNat 8 0)).set 0 (BitVec.ofNat 8 0) ++ (List.replicate 1 (BitVec.ofNat 8 0)).set 0 (BitVec.setWidth 8 ((BitVec.ofInt 64 (↑l.length : Int) * BitVec.ofNat 64 8) >>> 56 % BitVec.ofNat 64 256)) ++ (List.replicate 1 (BitVec.ofNat 8 0)).set 0 (BitVec.setWidth 8 ((BitVec.ofInt 64 (↑l.length : Int) * BitVec.ofNat 64 8) >>> 48 % BitVec.ofNat 64 256)) ++ (List.replicate 1 (BitVec.ofNat 8 0)).set 0 (BitVec.setWidth 8 ((BitVec.ofInt 64 (↑l.length : Int) * BitVec.ofNat 64 8) >>> 40 % BitVec.ofNat 64 256)) ++ (List.replicate 1 (BitVec.ofNat 8 0)).set 0 (BitVec.setWidth 8 ((BitVec.ofInt 64 (↑l.length : Int) * BitVec.ofNat 64 8) >>> 32 % BitVec.ofNat 64 256)) ++ (List.replicate 1 (BitVec.ofNat 8 0)).set 0 (BitVec.setWidth 8 ((BitVec.ofInt 64 (↑l.length : Int) * BitVec.ofNat 64 8) >>> 24 % BitVec.ofNat 64 256)) ++ (List.replicate 1 (BitVec.ofNat 8 0)).set 0 (BitVec.setWidth 8 ((BitVec.ofInt 64 (↑l.length : Int) * BitVec.ofNat 64 8) >>> 16 % BitVec.ofNat 64 256)) ++ (List.replicate 1 (BitVec.ofNat 8 0)).set 0 (BitVec.setWidth 8 ((BitVec.ofInt 64 (↑l.length : Int) * BitVec.ofNat 64 8) >>> 8 % BitVec.ofNat 64 256)) ++ (List.replicate 1 (BitVec.ofNat 8 0)).set 0 (BitVec.setWidth 8 ((BitVec.ofInt 64 (↑l.length : Int) * BitVec.ofNat 64 8) >>> 0 % BitVec.ofNat 64 256))).length (z ++ (List.replicate 1 (BitVec.ofNat 8 0)).set 0 (BitVec.ofNat 8 0) ++ (List.replicate 1 (BitVec.ofNat 8 0)).set 0 (BitVec.ofNat 8 0) ++ (List.replicate 1 (BitVec.ofNat 8 0)).set 0 (BitVec.ofNat 8 0) ++ (List.replicate 1 (BitVec.ofNat 8 0)).set 0 (BitVec.ofNat 8 0) ++ (List.replicate 1 (BitVec.ofNat 8 0)).set 0 (BitVec.ofNat 8 0) ++ (List.replicate 1 (BitVec.ofNat 8 0)).set 0 (BitVec.ofNat 8 0) ++ (List.replicate 1 (BitVec.ofNat 8 0)).set 0 (BitVec.ofNat 8 0) ++ (List.replicate 1 (BitVec.ofNat 8 0)).set 0 (BitVec.ofNat 8 0) ++ (List.replicate 1 (BitVec.ofNat 8 0)).set 0 (BitVec.setWidth 8 ((BitVec.ofInt 64 (↑l.length : Int) * BitVec.ofNat 64 8) >>> 56 % BitVec.ofNat 64 256)) ++ (List.replicate 1 (BitVec.ofNat 8 0)).set 0 (BitVec.setWidth 8 ((BitVec.ofInt 64 (↑l.length : Int) * BitVec.ofNat 64 8) >>> 48 % BitVec.ofNat 64 256)) ++ (List.replicate 1 (BitVec.ofNat 8 0)).set 0 (BitVec.setWidth 8 ((BitVec.ofInt 64 (↑l.length : Int) * BitVec.ofNat 64 8) >>> 40 % BitVec.ofNat 64 256)) ++ (List.replicate 1 (BitVec.ofNat 8 0)).set 0 (BitVec.setWidth 8 ((BitVec.ofInt 64 (↑l.length : Int) * BitVec.ofNat 64 8) >>> 32 % BitVec.ofNat 64 256)) ++ (List.replicate 1 (BitVec.ofNat 8 0)).set 0 (BitVec.setWidth 8 ((BitVec.ofInt 64 (↑l.length : Int) * BitVec.ofNat 64 8) >>> 24 % BitVec.ofNat 64 256)) ++ (List.replicate 1 (BitVec.ofNat 8 0)).set 0 (BitVec.setWidth 8 ((BitVec.ofInt 64 (↑l.length : Int) * BitVec.ofNat 64 8) >>> 16 % BitVec.ofNat 64 256)) ++ (List.replicate 1 (BitVec.ofNat 8 0)).set 0 (BitVec.setWidth 8 ((BitVec.ofInt 64 (↑l.length : Int) * BitVec.ofNat 64 8) >>> 8 % BitVec.ofNat 64 256)) ++ (List.replicate 1 (BitVec.ofNat 8 0)).set 0 (BitVec.setWidth 8 ((BitVec.ofInt 64 (↑l.length : Int) * BitVec.ofNat 64 8) >>> 0 % BitVec.ofNat 64 256)))]), (2, Blk.mk false [IV.v64 fs.length fs]), (3, Blk.mk false [IV.v64 ks.length ks])] 16) (Ex.exit 6) (St.mk (slotsOf 101 [(2, sc (IV.ptr 0 0)), (5, sc (IV.i64 (128 : Int))), (6, sc (IV.sl 1 0 m)), (9, sc (IV.sl 2 0 8)), (10, sc (IV.i64 i))]) [(0, Blk.mk true [IV.i64 (64 : Int), IV.i64 (80 : Int), IV.vi 3 [(28 : Int), (34 : Int), (39 : Int)], IV.vi 3 [(14 : Int), (18 : Int), (41 : Int)], IV.vi 3 [(1 : Int), (8 : Int), (7 : Int)], IV.vi 3 [(19 : Int), (61 : Int), (6 : Int)], IV.sl 3 0 ks.length, IV.sl 4 0 fs.length]), (1, Blk.mk true [IV.v8 q.length q]), (2, Blk.mk true [IV.v64 8 v.list]), (3, Blk.mk false [IV.v64 ks.length ks]), (4, Blk.mk false [IV.v64 fs.length fs])] 16), LoopTo Tryz.prog (bodyAt Tryz.prog 96 20) (St.mk (slotsOf 101 [(2, sc (IV.ptr 0 0)), (9, sc (IV.sl 1 0 8)), (11, sc (IV.sl 2 0 0)), (12, sc (IV.i64 (0 : Int)))]) [(0, Blk.mk true [IV.i64 (64 : Int), IV.i64 (80 : Int), IV.vi 3 [(28 : Int), (34 : Int), (39 : Int)], IV.vi 3 [(14 : Int), (18 : Int), (41 : Int)], IV.vi 3 [(1 : Int), (8 : Int), (7 : Int)], IV.vi 3 [(19 : Int), (61 : Int), (6 : Int)], IV.sl 3 0 ks.length, IV.sl 4 0 fs.length]), (1, Blk.mk true [IV.v64 8 v.list]), (2, Blk.mk true [IV.v8 0 []]), (3, Blk.mk false [IV.v64 ks.length ks]), (4, Blk.mk false [IV.v64 fs.length fs])] 16) (Ex.exit 8) (St.mk (slotsOf 101 [(2, sc (IV.ptr 0 0)), (9, sc (IV.sl 1 0 8)), (11, sc (IV.sl 2 0 n)), (12, sc (IV.i64 (8 : Int)))]) [(0, Blk.mk true [IV.i64 (64 : Int), IV.i64 (80 : Int), IV.vi 3 [(28 : Int), (34 : Int), (39 : Int)], IV.vi 3 [(14 : Int), (18 : Int), (41 : Int)], IV.vi 3 [(1 : Int), (8 : Int), (7 : Int)], IV.vi 3 [(19 : Int), (61 : Int), (6 : Int)], IV.sl 3 0 ks.length, IV.sl 4 0 fs.length]), (1, Blk.mk true [IV.v64 8 v.list]), (2, Blk.mk true [IV.v8 o.length o]), (3, Blk.mk false [IV.v64 ks.length ks]), (4, Blk.mk false [IV.v64 fs.length fs])] 16), 0 + n ≤ o.length] := by kernel_rfl
end Go.Proofs.YtlgiaglbdifkpaaGreatDoor
/- SHA-512 of the document: the sum's contract. Own work. -/
namespace Go.Proofs.YtlgiaglbdifkpaaGreatDoor
open Go.Ev Go.Sp Go.RowKit
set_option maxRecDepth 100000
theorem setW8 (x : W6) : (x % 256#64).setWidth 8 = x.setWidth 8 := by
  apply BitVec.eq_of_toNat_eq
  rw [BitVec.toNat_setWidth, BitVec.toNat_setWidth, BitVec.toNat_umod]
  simp only [BitVec.toNat_ofNat, Nat.reducePow, Nat.reduceMod]
  omega
theorem foldl_app {α : Type} (f : Nat → α) (o : List α) : ∀ n, (List.range n).foldl (fun o i => o ++ [f i]) o = o ++ (List.range n).map f
  | 0 => by simp
  | n + 1 => by rw [List.range_succ, List.foldl_append, foldl_app f o n]; simp
theorem tellF_eq (o : List (BitVec 8)) (x : W6) : tellF o x = o ++ lenB x := by
  unfold tellF lenB
  simp only [setW8]
  exact foldl_app (fun i => (x >>> (56 - 8 * i)).setWidth 8) o 8
theorem lenB_len (x : W6) : (lenB x).length = 8 := by simp [lenB]
theorem endQ_eq (z : List (BitVec 8)) (x : W6) : endQ z x = z ++ List.replicate 8 0#8 ++ lenB x := by
  rw [endQ, tellF_eq]
  simp only [List.append_assoc]
  rfl
theorem dpLoop (ks fs : List W6) (l m : List (BitVec 8)) (hl : m.length ≤ 1000000) : LoopTo Tryz.prog (bodyAt Tryz.prog 96 3) (dpInv l m ks fs m.length) (.exit 0) (dpInv l (padZ m) ks fs (padZ m).length) := by
  refine LoopTo.intro (P := Tryz.prog) (α := List (BitVec 8)) gsDs fol (fun y => dpInv l y ks fs y.length) (fun y => y.length + zN y.length ≤ 1000200 ∧ padZ y = padZ m) (fun y => zN y.length) (by simp) ?_ m ⟨by unfold zN; omega, rfl⟩
  rintro y ⟨hm, he⟩
  by_cases h : y.length % 128 = 112
  · have r0 := dpExit blk8 k512L l y ks fs y.length
    rw [← he, padZ_end y h]
    refine .inr ⟨_, _, _, _, _, r0, ?_⟩
    clear r0
    have h2 : (!((y.length : Int) + 16).tmod (128 : Int) == (0 : Int)) = false := by
      rw [show (y.length : Int) + 16 = ((y.length + 16 : Nat) : Int) by omega, tm128, show (y.length + 16) % 128 = 0 by omega]
      rfl
    simp only [AllP, inI64]
    and_intros <;> first | exact True.intro | exact h2 | omega
  · have r0 := dpRound blk8 k512L l y ks fs y.length
    have q : dpInv l (y ++ [0#8]) ks fs (y.length + 1) = dpInv l (y ++ [0#8]) ks fs (y ++ [0#8]).length := by rw [List.length_append]; rfl
    have r1 := r0.trans (congrArg (fun x => some (Ex.normal, x, _)) q)
    have hz : zN (y ++ [0#8]).length < zN y.length := by rw [List.length_append, List.length_cons, List.length_nil]; unfold zN; omega
    refine .inl ⟨_, _, _, _, _, y ++ [0#8], r1, ?_, ⟨?_, by rw [padZ_step y h, he]⟩, hz⟩
    · clear r0 r1 q
      have h2 : (!((y.length : Int) + 16).tmod (128 : Int) == (0 : Int)) = true := by
        rw [show (y.length : Int) + 16 = ((y.length + 16 : Nat) : Int) by omega, tm128, Bool.not_eq_true', beq_eq_false_iff_ne]
        omega
      simp only [AllP, inI64]
      and_intros <;> first | exact True.intro | exact h2 | rfl | omega
    · rw [List.length_append, List.length_cons, List.length_nil] at hz ⊢
      unfold zN at hm hz ⊢
      omega
def dsAt (q : List (BitVec 8)) : Nat → St
  | 0 => dsInvA q q.length k512L fst8.list 0
  | j + 1 => dsInv q q.length k512L fst8.list (sumH fst8 q (j + 1)) ((128 * (j + 1) : Nat) : Int)
theorem ofL_list (v : E8) : E8.ofL v.list = v := rfl
theorem dsLoop (q : List (BitVec 8)) (hq : q.length % 128 = 0) (h0 : 0 < q.length) (hl : q.length ≤ 10000000) : LoopTo Tryz.prog (bodyAt Tryz.prog 96 15) (dsInvA q q.length k512L fst8.list 0) (.exit 6) (dsInv q q.length k512L fst8.list (sumH fst8 q (q.length / 128)) (q.length : Nat)) := by
  refine LoopTo.intro (P := Tryz.prog) (α := Nat) gsDs fol (c := bodyAt Tryz.prog 96 15) (e := .exit 6) (σ' := dsInv q q.length k512L fst8.list (sumH fst8 q (q.length / 128)) (q.length : Nat)) (dsAt q) (fun j => j ≤ q.length / 128) (fun j => q.length / 128 - j) (by simp) ?_ 0 (by omega)
  intro j hj
  by_cases he : j = q.length / 128
  · obtain ⟨i, rfl⟩ : ∃ i, j = i + 1 := ⟨j - 1, by omega⟩
    have e1 : 128 * (i + 1) = q.length := by omega
    rw [dsAt, e1, ← he]
    exact .inr ⟨_, _, _, _, _, dsExit blk8 k512L q q.length k512L fst8.list _ _, ⟨decide_eq_false (by omega), trivial⟩⟩
  · have hk := k512_len
    have ek : cutL k512L 0 k512L.length k512L.length = k512L := by rw [cutL_eq rfl, List.drop_zero, List.take_length]
    have e1 : ((128 * j : Nat) : Int).toNat = 128 * j := by omega
    have e2 : (((128 * j : Nat) : Int) + 128).toNat = 128 * j + 128 := by omega
    have e3 : ((128 * j : Nat) : Int) + 128 = ((128 * (j + 1) : Nat) : Int) := by omega
    have e4 : 128 * j + 128 - 128 * j = 128 := by omega
    have ec : (cutL q (0 + 128 * j) 128 q.length).length = 128 := by rw [cutL_eq rfl, List.length_take, List.length_drop]; omega
    have es : blk8 (sumH fst8 q j) (cutL q (0 + 128 * j) 128 q.length) = sumH fst8 q (j + 1) := by rw [cutL_eq rfl, Nat.zero_add]; rfl
    cases j with
    | zero =>
      have r1 := dsRoundAR blk8 k512L q q.length k512L fst8.list ((128 * 0 : Nat) : Int)
      have r2 := dsRoundAC blk8 k512L q q.length k512L fst8.list ((128 * 0 : Nat) : Int)
      rw [e1, e2, e4] at r1 r2
      rw [e3] at r1
      have q1 : dsInv q q.length k512L fst8.list (blk8 (E8.ofL (cutL fst8.list 0 fst8.list.length fst8.list.length)) (cutL q (0 + 128 * 0) 128 q.length)) ((128 * (0 + 1) : Nat) : Int) = dsAt q (0 + 1) := by
        rw [dsAt, ← es]
        rfl
      refine .inl ⟨_, _, _, _, _, 0 + 1, parts_eq (r1.trans (congrArg (fun x => some (Ex.normal, x)) q1)) r2, ?_, by omega, by omega⟩
      clear r1 r2 q1 es
      simp only [AllP, inI64]
      and_intros <;> first | exact True.intro | exact ek | exact ec | exact decide_eq_true (by omega) | with_reducible rfl | omega | rfl
    | succ i =>
      have r1 := dsRoundR blk8 k512L q q.length k512L fst8.list (sumH fst8 q (i + 1)) ((128 * (i + 1) : Nat) : Int)
      have r2 := dsRoundC blk8 k512L q q.length k512L fst8.list (sumH fst8 q (i + 1)) ((128 * (i + 1) : Nat) : Int)
      rw [e1, e2, e4] at r1 r2
      rw [e3] at r1
      have q1 : dsInv q q.length k512L fst8.list (blk8 (E8.ofL (cutL (sumH fst8 q (i + 1)).list 0 8 8)) (cutL q (0 + 128 * (i + 1)) 128 q.length)) ((128 * (i + 1 + 1) : Nat) : Int) = dsAt q (i + 1 + 1) := by
        rw [dsAt, ← es]
        rfl
      refine .inl ⟨_, _, _, _, _, i + 1 + 1, parts_eq (r1.trans (congrArg (fun x => some (Ex.normal, x)) q1)) r2, ?_, by omega, by omega⟩
      clear r1 r2 q1 es
      simp only [AllP, inI64]
      and_intros <;> first | exact True.intro | exact ek | exact ec | exact decide_eq_true (by omega) | with_reducible rfl | omega | rfl
theorem flat_succ (v : List W6) (i : Nat) (h : i < v.length) : (v.take (i + 1)).flatMap lenB = (v.take i).flatMap lenB ++ lenB (v.getD i 0#64) := by
  rw [List.take_succ_eq_append_getElem h, List.flatMap_append, List.getD_eq_getElem?_getD, List.getElem?_eq_getElem h]
  simp
theorem flat_len : ∀ (v : List W6), (v.flatMap lenB).length = 8 * v.length
  | [] => rfl
  | x :: v => by rw [List.flatMap_cons, List.length_append, lenB_len, flat_len v, List.length_cons]; omega
theorem doLoop (ks fs : List W6) (v : E8) : LoopTo Tryz.prog (bodyAt Tryz.prog 96 20) (doInv ks fs v [] 0 0) (.exit 8) (doInv ks fs v (toldP v) 64 8) := by
  have h8 : v.list.length = 8 := rfl
  refine LoopTo.intro (P := Tryz.prog) (α := Nat) gsDs0 fol (c := bodyAt Tryz.prog 96 20) (e := .exit 8) (σ' := doInv ks fs v (toldP v) 64 8) (fun i => doInv ks fs v ((v.list.take i).flatMap lenB) (8 * i) (i : Nat)) (fun i => i ≤ 8) (fun i => 8 - i) (by simp) ?_ 0 (by omega)
  intro i hi
  by_cases he : i = 8
  · subst he
    exact .inr ⟨_, _, _, _, _, doExit ks fs v _ _ _, ⟨rfl, trivial⟩⟩
  · have r1 := doRoundR ks fs v ((v.list.take i).flatMap lenB) (8 * i) (i : Nat)
    have r2 := doRoundC ks fs v ((v.list.take i).flatMap lenB) (8 * i) (i : Nat)
    have hlen := flat_len (v.list.take i)
    rw [List.length_take, h8] at hlen
    have q : doInv ks fs v (tellF ((v.list.take i).flatMap lenB) (v.list.getD (0 + ((i : Nat) : Int).toNat * 1) 0#64)) (8 * i + 8) ((i : Nat) + 1) = doInv ks fs v ((v.list.take (i + 1)).flatMap lenB) (8 * (i + 1)) ((i + 1 : Nat) : Int) := by
      rw [tellF_eq, flat_succ _ _ (by omega), Int.toNat_natCast, Nat.zero_add, Nat.mul_one, Nat.mul_add, castS]
    refine .inl ⟨_, _, _, _, _, i + 1, parts_eq (r1.trans (congrArg (fun x => some (Ex.normal, x)) q)) r2, ?_, by omega, by omega⟩
    clear r1 r2 q
    generalize (v.list.take i).flatMap lenB = o at hlen ⊢
    simp only [AllP, inI64, List.length_append, List.length_set, List.length_replicate]
    and_intros <;> first | exact True.intro | exact decide_eq_true (by omega) | omega
theorem sumDRes (B : E8 → List (BitVec 8) → E8) (kk : List W6) (l z q o : List (BitVec 8)) (ks fs : List W6) (v : E8) (m k n : Nat) (i : Int) : ansOf (fnS Tryz.prog (lookG (tblDs B kk)) (orcA []) [⟨3, dpTd, .exit 0, dpInv l z ks fs k⟩, ⟨15, dsTd, .exit 6, dsInv q m ks fs v i⟩, ⟨20, doTd, .exit 8, doInv ks fs v o n 8⟩] 20 96 [.val true (kindL ks fs), sc (.d8 l)]) = some (sc (.d8 (cutL o 0 n o.length))) := by kernel_rfl
def spSumD : List AV → Option (AV × List Prop)
  | [.val true [.i64 b, .i64 r, .vi 3 u, .vi 3 d, .vi 3 e, .vi 3 x, .d64 ks, .d64 fs], .val false [.d8 l]] => some (sc (.d8 (shaL l)), [l.length ≤ 100000, b = 64, r = 80, u = [28, 34, 39], d = [14, 18, 41], e = [1, 8, 7], x = [19, 61, 6], ks = k512L, fs = fst8.list])
  | _ => none
theorem ctSumD : CtSOk Tryz.prog 96 (.fn spSumD) := FnS_of_fnS gsDs fol fun ds r cs h hc => by
  unfold spSumD at h
  split at h
  case h_2 => simp at h
  rename_i b r u d e x ks fs l
  simp only [Option.some.injEq, Prod.mk.injEq] at h
  obtain ⟨rfl, rfl⟩ := h
  obtain ⟨hl, rfl, rfl, rfl, rfl, rfl, rfl, hks, rfl, _⟩ := hc
  have L1 := dpLoop ks fst8.list l (l ++ [128#8]) (by simp; omega)
  have L2 := dsLoop (padP l) (padP_len l) (by simp [padP]; omega) (by have := padP_lt l; omega)
  have L3 := doLoop ks fst8.list (sumH fst8 (padP l) ((padP l).length / 128))
  have hz := padZ_len (l ++ [128#8])
  have hz2 : zN (l ++ [128#8]).length < 128 := by unfold zN; omega
  have hp : padP l = endQ (padZ (l ++ [128#8])) (BitVec.ofInt 64 (l.length : Int) * 8#64) := by rw [endQ_eq, padP, BitVec.ofInt_natCast]
  have hpl : (padP l).length = (padZ (l ++ [128#8])).length + 16 := by simp only [padP, List.length_append, List.length_replicate, lenB_len]
  rw [List.length_append, List.length_cons, List.length_nil] at hz hz2
  generalize hv : sumH fst8 (padP l) ((padP l).length / 128) = v at *
  rw [hpl] at L2
  have q1 := hp ▸ L2
  rw [← hks] at L2
  obtain ⟨z, hzz⟩ : ∃ z, padZ (l ++ [128#8]) = z := ⟨_, rfl⟩
  obtain ⟨p, hpp⟩ : ∃ p, padP l = p := ⟨_, rfl⟩
  clear q1
  rw [hzz] at L1 L2 hz hp hpl
  rw [hpp] at L2 hp hpl
  have a0 := sumDRes blk8 k512L l z p (toldP v) ks fst8.list v (z.length + 16) z.length 64 ((z.length + 16 : Nat) : Int)
  have c0 := runSumDC blk8 k512L l z p (toldP v) ks fst8.list v (z.length + 16) z.length 64 ((z.length + 16 : Nat) : Int)
  refine use_run (ans_eq a0 c0) ?_ ?_
  · rw [cutL_eq rfl, List.drop_zero, List.take_of_length_le (by rw [toldP, flat_len]; exact Nat.le_refl _), shaL, hpp]
    rw [hpp] at hv
    rw [hv]
  · clear a0 c0
    have e0 : 0 + l.length + 1 = (l ++ [128#8]).length := by simp
    have M1 : LoopTo Tryz.prog (bodyAt Tryz.prog 96 3) (dpInv l (l ++ [128#8]) ks fst8.list (0 + l.length + 1)) (.exit 0) (dpInv l z ks fst8.list z.length) := by rw [e0]; exact L1
    have M2 : LoopTo Tryz.prog (bodyAt Tryz.prog 96 15) (dsInvA (endQ z (BitVec.ofInt 64 (l.length : Int) * 8#64)) (z.length + 16) ks fst8.list 0) (.exit 6) (dsInv p (z.length + 16) ks fst8.list v ((z.length + 16 : Nat) : Int)) := by rw [← hp]; exact L2
    have hT : 0 + 64 ≤ (toldP v).length := by rw [toldP, flat_len]; exact Nat.le_refl _
    clear L1 L2
    simp only [AllP]
    and_intros <;> first | exact True.intro | with_reducible rfl | omega | (unfold inI64; omega) | (simp only [List.length_append, List.length_replicate, List.length_set]; done) | (simp only [List.length_append, List.length_replicate, List.length_set]; omega) | exact M1 | exact M2 | exact L3 | exact hT
end Go.Proofs.YtlgiaglbdifkpaaGreatDoor
/- The rounds' numbers of the document: roots and primes, by contract. Own work. -/
namespace Go.Proofs.YtlgiaglbdifkpaaGreatDoor
open Go.Ev Go.Sp Go.RowKit
set_option maxRecDepth 100000
def tblR0 : List (FuncId × CtS) := [(122, .fn spShift)]
theorem okR0 : TblOk Tryz.prog tblR0 := ⟨⟨ctShift, by kernel_rfl⟩, trivial⟩
theorem gsR0 : GSound Tryz.prog (upG (lookG tblR0)) := GSound_of_tbl okR0
def tblRt (M : List W6 → List W6 → List W6) (N : List W6 → Nat → Nat → Bool) : List (FuncId × CtS) :=
  (136, .fn (spMulG M)) :: (137, .fn (spMostG N)) :: tblR0
theorem gsRt : GSound Tryz.prog (upG (lookG (tblRt mulW moreW))) := GSound_of_tbl ⟨⟨ctMul6, by kernel_rfl⟩, ⟨ctMost6, by kernel_rfl⟩, okR0⟩
def rtTdH : List Nat := [0, 1, 5, 6]
def riTd : List Nat := [0, 1, 5, 6, 7]
def rtInvH (p k : Int) (d : List W6) (i : Int) : St := ⟨slotsOf 63 [(0, sc (.i64 p)), (1, sc (.i64 k)), (5, sc (.sl 0 0 5)), (6, sc (.i64 i))], [(0, ⟨true, [.v64 5 d]⟩)], 16⟩
def riInv (p k : Int) (d : List W6) (i : Int) (s : W6) : St := ⟨slotsOf 63 [(0, sc (.i64 p)), (1, sc (.i64 k)), (5, sc (.sl 0 0 5)), (6, sc (.i64 i)), (7, sc (.u64 s))], [(0, ⟨true, [.v64 5 d]⟩)], 16⟩
theorem riRound2T (M : List W6 → List W6 → List W6) (N : List W6 → Nat → Nat → Bool) (p k : Int) (d : List W6) (i : Int) (s : W6) : roundS Tryz.prog (lookG (tblRt M N)) (orcA [(6, [(1, true)]), (10, [(1, false)]), (12, [(4, true)])]) [] 10 riTd (bodyAt Tryz.prog 132 6) (riInv p k d i s) =
    some (Ex.normal, St.mk (slotsOf 63 [(0, sc (IV.i64 p)), (1, sc (IV.i64 k)), (5, sc (IV.sl 0 0 5)), (6, sc (IV.i64 i)), (7, sc (IV.u64 (s / BitVec.ofNat 64 2)))]) [(0, Blk.mk true [IV.v64 5 ((d.set (0 + i.toNat * 1) (d.getD (0 + i.toNat * 1) (BitVec.ofNat 64 0) + s)).set (0 + i.toNat * 1) ((d.set (0 + i.toNat * 1) (d.getD (0 + i.toNat * 1) (BitVec.ofNat 64 0) + s)).getD (0 + i.toNat * 1) (BitVec.ofNat 64 0) - s))])] 16, [decide (0 < BitVec.toNat s) = true, (0 : Int) ≤ i, i.toNat < 5, 0 + i.toNat * 1 < 5, (0 : Int) ≤ i, i.toNat < 5, 0 + i.toNat * 1 < 5, 5 = 5, 5 = 5, DW (d.set (0 + i.toNat * 1) (d.getD (0 + i.toNat * 1) (BitVec.ofNat 64 0) + s)), DW (d.set (0 + i.toNat * 1) (d.getD (0 + i.toNat * 1) (BitVec.ofNat 64 0) + s)), (d.set (0 + i.toNat * 1) (d.getD (0 + i.toNat * 1) (BitVec.ofNat 64 0) + s)).length + (d.set (0 + i.toNat * 1) (d.getD (0 + i.toNat * 1) (BitVec.ofNat 64 0) + s)).length ≤ 1000000, (k == (3 : Int)) = false, inI64 ((4 : Int) * k), (M (d.set (0 + i.toNat * 1) (d.getD (0 + i.toNat * 1) (BitVec.ofNat 64 0) + s)) (d.set (0 + i.toNat * 1) (d.getD (0 + i.toNat * 1) (BitVec.ofNat 64 0) + s))).length = (M (d.set (0 + i.toNat * 1) (d.getD (0 + i.toNat * 1) (BitVec.ofNat 64 0) + s)) (d.set (0 + i.toNat * 1) (d.getD (0 + i.toNat * 1) (BitVec.ofNat 64 0) + s))).length, DW (M (d.set (0 + i.toNat * 1) (d.getD (0 + i.toNat * 1) (BitVec.ofNat 64 0) + s)) (d.set (0 + i.toNat * 1) (d.getD (0 + i.toNat * 1) (BitVec.ofNat 64 0) + s))), (M (d.set (0 + i.toNat * 1) (d.getD (0 + i.toNat * 1) (BitVec.ofNat 64 0) + s)) (d.set (0 + i.toNat * 1) (d.getD (0 + i.toNat * 1) (BitVec.ofNat 64 0) + s))).length ≤ 1000000, (0 : Int) < p, p < (65536 : Int), (0 : Int) ≤ (4 : Int) * k, N (M (d.set (0 + i.toNat * 1) (d.getD (0 + i.toNat * 1) (BitVec.ofNat 64 0) + s)) (d.set (0 + i.toNat * 1) (d.getD (0 + i.toNat * 1) (BitVec.ofNat 64 0) + s))) p.toNat ((4 : Int) * k).toNat = true, (0 : Int) ≤ i, i.toNat < 5, 0 + i.toNat * 1 < 5, (0 : Int) ≤ i, i.toNat < 5, 0 + i.toNat * 1 < 5, 2 ≠ 0]) := by kernel_rfl
theorem riRound2F (M : List W6 → List W6 → List W6) (N : List W6 → Nat → Nat → Bool) (p k : Int) (d : List W6) (i : Int) (s : W6) : roundS Tryz.prog (lookG (tblRt M N)) (orcA [(6, [(1, true)]), (10, [(1, false)]), (12, [(4, false)])]) [] 10 riTd (bodyAt Tryz.prog 132 6) (riInv p k d i s) =
    some (Ex.normal, St.mk (slotsOf 63 [(0, sc (IV.i64 p)), (1, sc (IV.i64 k)), (5, sc (IV.sl 0 0 5)), (6, sc (IV.i64 i)), (7, sc (IV.u64 (s / BitVec.ofNat 64 2)))]) [(0, Blk.mk true [IV.v64 5 (d.set (0 + i.toNat * 1) (d.getD (0 + i.toNat * 1) (BitVec.ofNat 64 0) + s))])] 16, [decide (0 < BitVec.toNat s) = true, (0 : Int) ≤ i, i.toNat < 5, 0 + i.toNat * 1 < 5, (0 : Int) ≤ i, i.toNat < 5, 0 + i.toNat * 1 < 5, 5 = 5, 5 = 5, DW (d.set (0 + i.toNat * 1) (d.getD (0 + i.toNat * 1) (BitVec.ofNat 64 0) + s)), DW (d.set (0 + i.toNat * 1) (d.getD (0 + i.toNat * 1) (BitVec.ofNat 64 0) + s)), (d.set (0 + i.toNat * 1) (d.getD (0 + i.toNat * 1) (BitVec.ofNat 64 0) + s)).length + (d.set (0 + i.toNat * 1) (d.getD (0 + i.toNat * 1) (BitVec.ofNat 64 0) + s)).length ≤ 1000000, (k == (3 : Int)) = false, inI64 ((4 : Int) * k), (M (d.set (0 + i.toNat * 1) (d.getD (0 + i.toNat * 1) (BitVec.ofNat 64 0) + s)) (d.set (0 + i.toNat * 1) (d.getD (0 + i.toNat * 1) (BitVec.ofNat 64 0) + s))).length = (M (d.set (0 + i.toNat * 1) (d.getD (0 + i.toNat * 1) (BitVec.ofNat 64 0) + s)) (d.set (0 + i.toNat * 1) (d.getD (0 + i.toNat * 1) (BitVec.ofNat 64 0) + s))).length, DW (M (d.set (0 + i.toNat * 1) (d.getD (0 + i.toNat * 1) (BitVec.ofNat 64 0) + s)) (d.set (0 + i.toNat * 1) (d.getD (0 + i.toNat * 1) (BitVec.ofNat 64 0) + s))), (M (d.set (0 + i.toNat * 1) (d.getD (0 + i.toNat * 1) (BitVec.ofNat 64 0) + s)) (d.set (0 + i.toNat * 1) (d.getD (0 + i.toNat * 1) (BitVec.ofNat 64 0) + s))).length ≤ 1000000, (0 : Int) < p, p < (65536 : Int), (0 : Int) ≤ (4 : Int) * k, N (M (d.set (0 + i.toNat * 1) (d.getD (0 + i.toNat * 1) (BitVec.ofNat 64 0) + s)) (d.set (0 + i.toNat * 1) (d.getD (0 + i.toNat * 1) (BitVec.ofNat 64 0) + s))) p.toNat ((4 : Int) * k).toNat = false, 2 ≠ 0]) := by kernel_rfl
theorem riRound3T (M : List W6 → List W6 → List W6) (N : List W6 → Nat → Nat → Bool) (p k : Int) (d : List W6) (i : Int) (s : W6) : roundS Tryz.prog (lookG (tblRt M N)) (orcA [(6, [(1, true)]), (10, [(1, true)]), (12, [(4, true)])]) [] 10 riTd (bodyAt Tryz.prog 132 6) (riInv p k d i s) =
    some (Ex.normal, St.mk (slotsOf 63 [(0, sc (IV.i64 p)), (1, sc (IV.i64 k)), (5, sc (IV.sl 0 0 5)), (6, sc (IV.i64 i)), (7, sc (IV.u64 (s / BitVec.ofNat 64 2)))]) [(0, Blk.mk true [IV.v64 5 ((d.set (0 + i.toNat * 1) (d.getD (0 + i.toNat * 1) (BitVec.ofNat 64 0) + s)).set (0 + i.toNat * 1) ((d.set (0 + i.toNat * 1) (d.getD (0 + i.toNat * 1) (BitVec.ofNat 64 0) + s)).getD (0 + i.toNat * 1) (BitVec.ofNat 64 0) - s))])] 16, [decide (0 < BitVec.toNat s) = true, (0 : Int) ≤ i, i.toNat < 5, 0 + i.toNat * 1 < 5, (0 : Int) ≤ i, i.toNat < 5, 0 + i.toNat * 1 < 5, 5 = 5, 5 = 5, DW (d.set (0 + i.toNat * 1) (d.getD (0 + i.toNat * 1) (BitVec.ofNat 64 0) + s)), DW (d.set (0 + i.toNat * 1) (d.getD (0 + i.toNat * 1) (BitVec.ofNat 64 0) + s)), (d.set (0 + i.toNat * 1) (d.getD (0 + i.toNat * 1) (BitVec.ofNat 64 0) + s)).length + (d.set (0 + i.toNat * 1) (d.getD (0 + i.toNat * 1) (BitVec.ofNat 64 0) + s)).length ≤ 1000000, (k == (3 : Int)) = true, (M (d.set (0 + i.toNat * 1) (d.getD (0 + i.toNat * 1) (BitVec.ofNat 64 0) + s)) (d.set (0 + i.toNat * 1) (d.getD (0 + i.toNat * 1) (BitVec.ofNat 64 0) + s))).length = (M (d.set (0 + i.toNat * 1) (d.getD (0 + i.toNat * 1) (BitVec.ofNat 64 0) + s)) (d.set (0 + i.toNat * 1) (d.getD (0 + i.toNat * 1) (BitVec.ofNat 64 0) + s))).length, 5 = 5, DW (M (d.set (0 + i.toNat * 1) (d.getD (0 + i.toNat * 1) (BitVec.ofNat 64 0) + s)) (d.set (0 + i.toNat * 1) (d.getD (0 + i.toNat * 1) (BitVec.ofNat 64 0) + s))), DW (d.set (0 + i.toNat * 1) (d.getD (0 + i.toNat * 1) (BitVec.ofNat 64 0) + s)), (M (d.set (0 + i.toNat * 1) (d.getD (0 + i.toNat * 1) (BitVec.ofNat 64 0) + s)) (d.set (0 + i.toNat * 1) (d.getD (0 + i.toNat * 1) (BitVec.ofNat 64 0) + s))).length + (d.set (0 + i.toNat * 1) (d.getD (0 + i.toNat * 1) (BitVec.ofNat 64 0) + s)).length ≤ 1000000, inI64 ((4 : Int) * k), (M (M (d.set (0 + i.toNat * 1) (d.getD (0 + i.toNat * 1) (BitVec.ofNat 64 0) + s)) (d.set (0 + i.toNat * 1) (d.getD (0 + i.toNat * 1) (BitVec.ofNat 64 0) + s))) (d.set (0 + i.toNat * 1) (d.getD (0 + i.toNat * 1) (BitVec.ofNat 64 0) + s))).length = (M (M (d.set (0 + i.toNat * 1) (d.getD (0 + i.toNat * 1) (BitVec.ofNat 64 0) + s)) (d.set (0 + i.toNat * 1) (d.getD (0 + i.toNat * 1) (BitVec.ofNat 64 0) + s))) (d.set (0 + i.toNat * 1) (d.getD (0 + i.toNat * 1) (BitVec.ofNat 64 0) + s))).length, DW (M (M (d.set (0 + i.toNat * 1) (d.getD (0 + i.toNat * 1) (BitVec.ofNat 64 0) + s)) (d.set (0 + i.toNat * 1) (d.getD (0 + i.toNat * 1) (BitVec.ofNat 64 0) + s))) (d.set (0 + i.toNat * 1) (d.getD (0 + i.toNat * 1) (BitVec.ofNat 64 0) + s))), (M (M (d.set (0 + i.toNat * 1) (d.getD (0 + i.toNat * 1) (BitVec.ofNat 64 0) + s)) (d.set (0 + i.toNat * 1) (d.getD (0 + i.toNat * 1) (BitVec.ofNat 64 0) + s))) (d.set (0 + i.toNat * 1) (d.getD (0 + i.toNat * 1) (BitVec.ofNat 64 0) + s))).length ≤ 1000000, (0 : Int) < p, p < (65536 : Int), (0 : Int) ≤ (4 : Int) * k, N (M (M (d.set (0 + i.toNat * 1) (d.getD (0 + i.toNat * 1) (BitVec.ofNat 64 0) + s)) (d.set (0 + i.toNat * 1) (d.getD (0 + i.toNat * 1) (BitVec.ofNat 64 0) + s))) (d.set (0 + i.toNat * 1) (d.getD (0 + i.toNat * 1) (BitVec.ofNat 64 0) + s))) p.toNat ((4 : Int) * k).toNat = true, (0 : Int) ≤ i, i.toNat < 5, 0 + i.toNat * 1 < 5, (0 : Int) ≤ i, i.toNat < 5, 0 + i.toNat * 1 < 5, 2 ≠ 0]) := by kernel_rfl
theorem riRound3F (M : List W6 → List W6 → List W6) (N : List W6 → Nat → Nat → Bool) (p k : Int) (d : List W6) (i : Int) (s : W6) : roundS Tryz.prog (lookG (tblRt M N)) (orcA [(6, [(1, true)]), (10, [(1, true)]), (12, [(4, false)])]) [] 10 riTd (bodyAt Tryz.prog 132 6) (riInv p k d i s) =
    some (Ex.normal, St.mk (slotsOf 63 [(0, sc (IV.i64 p)), (1, sc (IV.i64 k)), (5, sc (IV.sl 0 0 5)), (6, sc (IV.i64 i)), (7, sc (IV.u64 (s / BitVec.ofNat 64 2)))]) [(0, Blk.mk true [IV.v64 5 (d.set (0 + i.toNat * 1) (d.getD (0 + i.toNat * 1) (BitVec.ofNat 64 0) + s))])] 16, [decide (0 < BitVec.toNat s) = true, (0 : Int) ≤ i, i.toNat < 5, 0 + i.toNat * 1 < 5, (0 : Int) ≤ i, i.toNat < 5, 0 + i.toNat * 1 < 5, 5 = 5, 5 = 5, DW (d.set (0 + i.toNat * 1) (d.getD (0 + i.toNat * 1) (BitVec.ofNat 64 0) + s)), DW (d.set (0 + i.toNat * 1) (d.getD (0 + i.toNat * 1) (BitVec.ofNat 64 0) + s)), (d.set (0 + i.toNat * 1) (d.getD (0 + i.toNat * 1) (BitVec.ofNat 64 0) + s)).length + (d.set (0 + i.toNat * 1) (d.getD (0 + i.toNat * 1) (BitVec.ofNat 64 0) + s)).length ≤ 1000000, (k == (3 : Int)) = true, (M (d.set (0 + i.toNat * 1) (d.getD (0 + i.toNat * 1) (BitVec.ofNat 64 0) + s)) (d.set (0 + i.toNat * 1) (d.getD (0 + i.toNat * 1) (BitVec.ofNat 64 0) + s))).length = (M (d.set (0 + i.toNat * 1) (d.getD (0 + i.toNat * 1) (BitVec.ofNat 64 0) + s)) (d.set (0 + i.toNat * 1) (d.getD (0 + i.toNat * 1) (BitVec.ofNat 64 0) + s))).length, 5 = 5, DW (M (d.set (0 + i.toNat * 1) (d.getD (0 + i.toNat * 1) (BitVec.ofNat 64 0) + s)) (d.set (0 + i.toNat * 1) (d.getD (0 + i.toNat * 1) (BitVec.ofNat 64 0) + s))), DW (d.set (0 + i.toNat * 1) (d.getD (0 + i.toNat * 1) (BitVec.ofNat 64 0) + s)), (M (d.set (0 + i.toNat * 1) (d.getD (0 + i.toNat * 1) (BitVec.ofNat 64 0) + s)) (d.set (0 + i.toNat * 1) (d.getD (0 + i.toNat * 1) (BitVec.ofNat 64 0) + s))).length + (d.set (0 + i.toNat * 1) (d.getD (0 + i.toNat * 1) (BitVec.ofNat 64 0) + s)).length ≤ 1000000, inI64 ((4 : Int) * k), (M (M (d.set (0 + i.toNat * 1) (d.getD (0 + i.toNat * 1) (BitVec.ofNat 64 0) + s)) (d.set (0 + i.toNat * 1) (d.getD (0 + i.toNat * 1) (BitVec.ofNat 64 0) + s))) (d.set (0 + i.toNat * 1) (d.getD (0 + i.toNat * 1) (BitVec.ofNat 64 0) + s))).length = (M (M (d.set (0 + i.toNat * 1) (d.getD (0 + i.toNat * 1) (BitVec.ofNat 64 0) + s)) (d.set (0 + i.toNat * 1) (d.getD (0 + i.toNat * 1) (BitVec.ofNat 64 0) + s))) (d.set (0 + i.toNat * 1) (d.getD (0 + i.toNat * 1) (BitVec.ofNat 64 0) + s))).length, DW (M (M (d.set (0 + i.toNat * 1) (d.getD (0 + i.toNat * 1) (BitVec.ofNat 64 0) + s)) (d.set (0 + i.toNat * 1) (d.getD (0 + i.toNat * 1) (BitVec.ofNat 64 0) + s))) (d.set (0 + i.toNat * 1) (d.getD (0 + i.toNat * 1) (BitVec.ofNat 64 0) + s))), (M (M (d.set (0 + i.toNat * 1) (d.getD (0 + i.toNat * 1) (BitVec.ofNat 64 0) + s)) (d.set (0 + i.toNat * 1) (d.getD (0 + i.toNat * 1) (BitVec.ofNat 64 0) + s))) (d.set (0 + i.toNat * 1) (d.getD (0 + i.toNat * 1) (BitVec.ofNat 64 0) + s))).length ≤ 1000000, (0 : Int) < p, p < (65536 : Int), (0 : Int) ≤ (4 : Int) * k, N (M (M (d.set (0 + i.toNat * 1) (d.getD (0 + i.toNat * 1) (BitVec.ofNat 64 0) + s)) (d.set (0 + i.toNat * 1) (d.getD (0 + i.toNat * 1) (BitVec.ofNat 64 0) + s))) (d.set (0 + i.toNat * 1) (d.getD (0 + i.toNat * 1) (BitVec.ofNat 64 0) + s))) p.toNat ((4 : Int) * k).toNat = false, 2 ≠ 0]) := by kernel_rfl
theorem riExit (M : List W6 → List W6 → List W6) (N : List W6 → Nat → Nat → Bool) (p k : Int) (d : List W6) (i : Int) (s : W6) : roundS Tryz.prog (lookG (tblRt M N)) (orcA [(6, [(1, false)])]) [] 10 riTd (bodyAt Tryz.prog 132 6) (riInv p k d i s) =
    some (Ex.exit 2, St.mk (slotsOf 63 [(0, sc (IV.i64 p)), (1, sc (IV.i64 k)), (5, sc (IV.sl 0 0 5)), (6, sc (IV.i64 i)), (7, sc (IV.u64 s))]) [(0, Blk.mk true [IV.v64 5 d])] 16, [decide (0 < BitVec.toNat s) = false]) := by kernel_rfl
theorem rtRound (p k : Int) (d d' : List W6) (i : Int) (s : W6) : roundS Tryz.prog (lookG []) (orcA [(3, [(1, true)])]) [⟨6, riTd, .exit 2, riInv p k d' i s⟩] 10 rtTdH (bodyAt Tryz.prog 132 3) (rtInvH p k d i) =
    some (Ex.normal, St.mk (slotsOf 63 [(0, sc (IV.i64 p)), (1, sc (IV.i64 k)), (5, sc (IV.sl 0 0 5)), (6, sc (IV.i64 (i - (1 : Int))))]) [(0, Blk.mk true [IV.v64 5 d'])] 16, [decide ((0 : Int) ≤ i) = true, LoopTo Tryz.prog (bodyAt Tryz.prog 132 6) (St.mk (slotsOf 63 [(0, sc (IV.i64 p)), (1, sc (IV.i64 k)), (5, sc (IV.sl 0 0 5)), (6, sc (IV.i64 i)), (7, sc (IV.u64 (BitVec.ofNat 64 32768)))]) [(0, Blk.mk true [IV.v64 5 d])] 16) (Ex.exit 2) (St.mk (slotsOf 63 [(0, sc (IV.i64 p)), (1, sc (IV.i64 k)), (5, sc (IV.sl 0 0 5)), (6, sc (IV.i64 i)), (7, sc (IV.u64 s))]) [(0, Blk.mk true [IV.v64 5 d'])] 16), inI64 (i - (1 : Int))]) := by kernel_rfl
theorem rtExitH (p k : Int) (d : List W6) (i : Int) : roundS Tryz.prog (lookG []) (orcA [(3, [(1, false)])]) [] 10 rtTdH (bodyAt Tryz.prog 132 3) (rtInvH p k d i) =
    some (Ex.exit 0, St.mk (slotsOf 63 [(0, sc (IV.i64 p)), (1, sc (IV.i64 k)), (5, sc (IV.sl 0 0 5)), (6, sc (IV.i64 i))]) [(0, Blk.mk true [IV.v64 5 d])] 16, [decide ((0 : Int) ≤ i) = false]) := by kernel_rfl
theorem runRoot (p k : Int) (d : List W6) (i : Int) : fnS Tryz.prog (lookG []) (orcA []) [⟨3, rtTdH, .exit 0, rtInvH p k d i⟩] 10 132 [sc (.i64 p), sc (.i64 k)] =
    some (sc (IV.u64 (d.getD 3 (BitVec.ofNat 64 0) * BitVec.ofNat 64 281474976710656 + d.getD 2 (BitVec.ofNat 64 0) * BitVec.ofNat 64 4294967296 + d.getD 1 (BitVec.ofNat 64 0) * BitVec.ofNat 64 65536 + d.getD 0 (BitVec.ofNat 64 0))), [(0 : Int) ≤ (5 : Int), (0 : Int) ≤ (5 : Int), 5 = 5 ∧ 40 ≤ 281474976710656 ∧ 5 ≤ 9223372036854775807, LoopTo Tryz.prog (bodyAt Tryz.prog 132 3) (St.mk (slotsOf 63 [(0, sc (IV.i64 p)), (1, sc (IV.i64 k)), (5, sc (IV.sl 0 0 5)), (6, sc (IV.i64 (4 : Int)))]) [(0, Blk.mk true [IV.v64 5 (List.replicate 5 (BitVec.ofNat 64 0))])] 16) (Ex.exit 0) (St.mk (slotsOf 63 [(0, sc (IV.i64 p)), (1, sc (IV.i64 k)), (5, sc (IV.sl 0 0 5)), (6, sc (IV.i64 i))]) [(0, Blk.mk true [IV.v64 5 d])] 16), (0 : Int) ≤ (3 : Int), 3 < 5, 3 < 5, (0 : Int) ≤ (2 : Int), 2 < 5, 2 < 5, (0 : Int) ≤ (1 : Int), 1 < 5, 1 < 5, (0 : Int) ≤ (0 : Int), 0 < 5, 0 < 5]) := by kernel_rfl
def prTdH : List Nat := [0, 3, 4]
def piTd : List Nat := [0, 3, 4, 5, 6]
def prInvH (n : Int) (l : List Int) (m : Nat) (p : Int) : St := ⟨slotsOf 44 [(0, sc (.i64 n)), (3, sc (.sl 0 0 m)), (4, sc (.i64 p))], [(0, ⟨true, [.vi l.length l]⟩)], 16⟩
def piInv (n : Int) (l : List Int) (m : Nat) (p q i : Int) : St := ⟨slotsOf 44 [(0, sc (.i64 n)), (3, sc (.sl 0 0 m)), (4, sc (.i64 p)), (5, sc (.i64 q)), (6, sc (.i64 i))], [(0, ⟨true, [.vi l.length l]⟩)], 16⟩
theorem piRoundN (n : Int) (l : List Int) (m : Nat) (p q i : Int) : roundS Tryz.prog (lookG []) (orcA [(7, [(3, true), (7, true)]), (9, [(6, false)])]) [] 10 piTd (bodyAt Tryz.prog 131 7) (piInv n l m p q i) =
    some (Ex.normal, St.mk (slotsOf 44 [(0, sc (IV.i64 n)), (3, sc (IV.sl 0 0 m)), (4, sc (IV.i64 p)), (5, sc (IV.i64 q)), (6, sc (IV.i64 (i + (1 : Int))))]) [(0, Blk.mk true [IV.vi l.length l])] 16, [decide (i < (↑m : Int)) = true, (q == p) = true, (0 : Int) ≤ i, i.toNat < m, 0 + i.toNat * 1 < l.length, l.getD (0 + i.toNat * 1) (0 : Int) ≠ (0 : Int), (p.tmod (l.getD (0 + i.toNat * 1) (0 : Int)) == (0 : Int)) = false, inI64 (i + (1 : Int))]) := by kernel_rfl
theorem piRoundY (n : Int) (l : List Int) (m : Nat) (p q i : Int) : roundS Tryz.prog (lookG []) (orcA [(7, [(3, true), (7, true)]), (9, [(6, true)])]) [] 10 piTd (bodyAt Tryz.prog 131 7) (piInv n l m p q i) =
    some (Ex.normal, St.mk (slotsOf 44 [(0, sc (IV.i64 n)), (3, sc (IV.sl 0 0 m)), (4, sc (IV.i64 p)), (5, sc (IV.i64 (l.getD (0 + i.toNat * 1) (0 : Int)))), (6, sc (IV.i64 (i + (1 : Int))))]) [(0, Blk.mk true [IV.vi l.length l])] 16, [decide (i < (↑m : Int)) = true, (q == p) = true, (0 : Int) ≤ i, i.toNat < m, 0 + i.toNat * 1 < l.length, l.getD (0 + i.toNat * 1) (0 : Int) ≠ (0 : Int), (p.tmod (l.getD (0 + i.toNat * 1) (0 : Int)) == (0 : Int)) = true, (0 : Int) ≤ i, i.toNat < m, 0 + i.toNat * 1 < l.length, inI64 (i + (1 : Int))]) := by kernel_rfl
theorem piExitL (n : Int) (l : List Int) (m : Nat) (p q i : Int) : roundS Tryz.prog (lookG []) (orcA [(7, [(3, false)])]) [] 10 piTd (bodyAt Tryz.prog 131 7) (piInv n l m p q i) =
    some (Ex.exit 2, St.mk (slotsOf 44 [(0, sc (IV.i64 n)), (3, sc (IV.sl 0 0 m)), (4, sc (IV.i64 p)), (5, sc (IV.i64 q)), (6, sc (IV.i64 i))]) [(0, Blk.mk true [IV.vi l.length l])] 16, [decide (i < (↑m : Int)) = false]) := by kernel_rfl
theorem piExitQ (n : Int) (l : List Int) (m : Nat) (p q i : Int) : roundS Tryz.prog (lookG []) (orcA [(7, [(3, true), (7, false)])]) [] 10 piTd (bodyAt Tryz.prog 131 7) (piInv n l m p q i) =
    some (Ex.exit 2, St.mk (slotsOf 44 [(0, sc (IV.i64 n)), (3, sc (IV.sl 0 0 m)), (4, sc (IV.i64 p)), (5, sc (IV.i64 q)), (6, sc (IV.i64 i))]) [(0, Blk.mk true [IV.vi l.length l])] 16, [decide (i < (↑m : Int)) = true, (q == p) = false]) := by kernel_rfl
theorem prRoundY (n : Int) (l : List Int) (m : Nat) (p q i : Int) : roundS Tryz.prog (lookG []) (orcA [(3, [(3, true)]), (11, [(2, true)])]) [⟨7, piTd, .exit 2, piInv n l m p q i⟩] 10 prTdH (bodyAt Tryz.prog 131 3) (prInvH n l m p) =
    some (Ex.normal, St.mk (slotsOf 44 [(0, sc (IV.i64 n)), (3, sc (IV.sl 0 0 (m + 1))), (4, sc (IV.i64 (p + (1 : Int))))]) [(0, Blk.mk true [IV.vi (l ++ (List.replicate 1 (0 : Int)).set 0 p).length (l ++ (List.replicate 1 (0 : Int)).set 0 p)])] 16, [decide ((↑m : Int) < n) = true, LoopTo Tryz.prog (bodyAt Tryz.prog 131 7) (St.mk (slotsOf 44 [(0, sc (IV.i64 n)), (3, sc (IV.sl 0 0 m)), (4, sc (IV.i64 p)), (5, sc (IV.i64 p)), (6, sc (IV.i64 (0 : Int)))]) [(0, Blk.mk true [IV.vi l.length l])] 16) (Ex.exit 2) (St.mk (slotsOf 44 [(0, sc (IV.i64 n)), (3, sc (IV.sl 0 0 m)), (4, sc (IV.i64 p)), (5, sc (IV.i64 q)), (6, sc (IV.i64 i))]) [(0, Blk.mk true [IV.vi l.length l])] 16), (q == p) = true, 1 = 1, m = l.length, (m + 1) * 8 ≤ 140737488355328 ∧ m + 1 ≤ 9223372036854775807, inI64 (p + (1 : Int))]) := by kernel_rfl
theorem prRoundN (n : Int) (l : List Int) (m : Nat) (p q i : Int) : roundS Tryz.prog (lookG []) (orcA [(3, [(3, true)]), (11, [(2, false)])]) [⟨7, piTd, .exit 2, piInv n l m p q i⟩] 10 prTdH (bodyAt Tryz.prog 131 3) (prInvH n l m p) =
    some (Ex.normal, St.mk (slotsOf 44 [(0, sc (IV.i64 n)), (3, sc (IV.sl 0 0 m)), (4, sc (IV.i64 (p + (1 : Int))))]) [(0, Blk.mk true [IV.vi l.length l])] 16, [decide ((↑m : Int) < n) = true, LoopTo Tryz.prog (bodyAt Tryz.prog 131 7) (St.mk (slotsOf 44 [(0, sc (IV.i64 n)), (3, sc (IV.sl 0 0 m)), (4, sc (IV.i64 p)), (5, sc (IV.i64 p)), (6, sc (IV.i64 (0 : Int)))]) [(0, Blk.mk true [IV.vi l.length l])] 16) (Ex.exit 2) (St.mk (slotsOf 44 [(0, sc (IV.i64 n)), (3, sc (IV.sl 0 0 m)), (4, sc (IV.i64 p)), (5, sc (IV.i64 q)), (6, sc (IV.i64 i))]) [(0, Blk.mk true [IV.vi l.length l])] 16), (q == p) = false, inI64 (p + (1 : Int))]) := by kernel_rfl
theorem prExitH (n : Int) (l : List Int) (m : Nat) (p : Int) : roundS Tryz.prog (lookG []) (orcA [(3, [(3, false)])]) [] 10 prTdH (bodyAt Tryz.prog 131 3) (prInvH n l m p) =
    some (Ex.exit 0, St.mk (slotsOf 44 [(0, sc (IV.i64 n)), (3, sc (IV.sl 0 0 m)), (4, sc (IV.i64 p))]) [(0, Blk.mk true [IV.vi l.length l])] 16, [decide ((↑m : Int) < n) = false]) := by kernel_rfl
theorem runPrimes (n : Int) (l : List Int) (m : Nat) (p : Int) : fnS Tryz.prog (lookG []) (orcA []) [⟨3, prTdH, .exit 0, prInvH n l m p⟩] 10 131 [sc (.i64 n)] =
    some (sc (IV.dI (cutL l 0 m l.length)), [LoopTo Tryz.prog (bodyAt Tryz.prog 131 3) (St.mk (slotsOf 44 [(0, sc (IV.i64 n)), (3, sc (IV.sl 0 0 0)), (4, sc (IV.i64 (2 : Int)))]) [(0, Blk.mk true [IV.vi 0 []])] 16) (Ex.exit 0) (St.mk (slotsOf 44 [(0, sc (IV.i64 n)), (3, sc (IV.sl 0 0 m)), (4, sc (IV.i64 p))]) [(0, Blk.mk true [IV.vi l.length l])] 16), 0 + m ≤ l.length]) := by kernel_rfl
def stW (j : Nat) : W6 := BitVec.ofNat 64 (32768 / 2 ^ j)
theorem stW_nat (j : Nat) : (stW j).toNat = 32768 / 2 ^ j := by
  have := Nat.div_le_self 32768 (2 ^ j)
  rw [stW, BitVec.toNat_ofNat]
  generalize 32768 / 2 ^ j = x at *
  omega
theorem stW_half (j : Nat) : stW j / 2#64 = stW (j + 1) := by
  apply BitVec.eq_of_toNat_eq
  rw [BitVec.toNat_udiv, stW_nat, stW_nat, Nat.pow_succ, ← Nat.div_div_eq_div_mul]
  rfl
theorem bit_ok (p k a j : Nat) (ha : a < 5) (hj : j < 16) : 32768 / 2 ^ j * 65536 ^ (4 - a) = 2 ^ (79 - (16 * a + j)) ∧
    rootS p k (16 * a + j) / 65536 ^ (4 - a) % 65536 + 32768 / 2 ^ j < 65536 ∧ rootS p k (16 * a + j) + 2 ^ (79 - (16 * a + j)) < 2 ^ 80 := by
  have e1 : 32768 / 2 ^ j = 2 ^ (15 - j) := by
    rw [show 32768 = 2 ^ 15 from rfl, Nat.pow_div (by omega) (by omega)]
  have e2 : (65536 : Nat) ^ (4 - a) = 2 ^ (16 * (4 - a)) := by rw [show 65536 = 2 ^ 16 from rfl, ← Nat.pow_mul]
  have hlt := rootS_lt p k (16 * a + j) (by omega)
  obtain ⟨q, hq⟩ := rootS_dvd p k (16 * a + j) (by omega)
  have e3 : (2 : Nat) ^ (80 - (16 * a + j)) = 2 ^ (16 * (4 - a)) * 2 ^ (16 - j) := by rw [← Nat.pow_add]; congr 1; omega
  have e4 : (65536 : Nat) = 2 ^ (16 - j) * 2 ^ j := by rw [← Nat.pow_add, show 16 - j + j = 16 by omega]
  have e5 : (2 : Nat) ^ (16 - j) = 2 * 2 ^ (15 - j) := by rw [← Nat.pow_succ']; congr 1; omega
  have e6 : (2 : Nat) ^ (80 - (16 * a + j)) = 2 * 2 ^ (79 - (16 * a + j)) := by rw [← Nat.pow_succ']; congr 1; omega
  have hp : 0 < (2 : Nat) ^ (79 - (16 * a + j)) := Nat.pow_pos (by omega)
  have hp2 : 0 < (2 : Nat) ^ (15 - j) := Nat.pow_pos (by omega)
  refine ⟨by rw [e1, e2, ← Nat.pow_add]; congr 1; omega, ?_, by omega⟩
  rw [hq, e1, e2, e3, Nat.mul_assoc, Nat.mul_div_cancel_left _ (Nat.pow_pos (by omega))]
  have hm : 2 ^ (16 - j) * q % 65536 = 2 ^ (16 - j) * (q % 2 ^ j) := by
    conv => lhs; rw [e4]
    rw [Nat.mul_mod_mul_left]
  rw [hm]
  have hr := Nat.mul_le_mul_left (2 ^ (16 - j)) (Nat.mod_lt q (show 2 ^ j > 0 from Nat.pow_pos (by omega)))
  rw [← e4, Nat.mul_succ] at hr
  omega
theorem more_pw {p k C : Nat} (hC : C < 2 ^ 80) : moreW (mulW (mulW (dgW C 5) (dgW C 5)) (dgW C 5)) p k = decide (p * 65536 ^ k < C * C * C) ∧ moreW (mulW (dgW C 5) (dgW C 5)) p k = decide (p * 65536 ^ k < C * C) := by
  have e5 : (65536 : Nat) ^ 5 = 2 ^ 80 := by decide
  have hv : vW (dgW C 5) = C := by rw [dgW_v, e5, Nat.mod_eq_of_lt hC]
  have hd := dgW_D 5 C
  unfold moreW
  rw [mulW_v (mulW_D _ _) hd, mulW_v hd hd, hv]
  exact ⟨rfl, rfl⟩
theorem rootS_next (p k s : Nat) : rootS p k (s + 1) = if p * 65536 ^ (4 * k) < pw2 (rootS p k s + 2 ^ (79 - s)) k then rootS p k s else rootS p k s + 2 ^ (79 - s) := rfl
theorem fourk (k : Nat) : ((4 : Int) * (k : Int)).toNat = 4 * k := by omega
theorem riLoop (p k a : Nat) (ha : a < 5) (hp : 0 < p) (hp2 : p < 65536) (hk : k = 2 ∨ k = 3) : LoopTo Tryz.prog (bodyAt Tryz.prog 132 6) (riInv (p : Nat) (k : Nat) (dgW (rootS p k (16 * a)) 5) ((4 - a : Nat) : Int) 32768#64) (.exit 2) (riInv (p : Nat) (k : Nat) (dgW (rootS p k (16 * (a + 1))) 5) ((4 - a : Nat) : Int) 0#64) := by
  refine LoopTo.intro (P := Tryz.prog) (α := Nat) gsRt fol (c := bodyAt Tryz.prog 132 6) (e := .exit 2) (σ' := riInv (p : Nat) (k : Nat) (dgW (rootS p k (16 * (a + 1))) 5) ((4 - a : Nat) : Int) 0#64) (fun j => riInv (p : Nat) (k : Nat) (dgW (rootS p k (16 * a + j)) 5) ((4 - a : Nat) : Int) (stW j)) (fun j => j ≤ 16) (fun j => 16 - j) (by simp) ?_ 0 (by omega)
  intro j hj
  by_cases he : j = 16
  · subst he
    exact .inr ⟨_, _, _, _, _, riExit mulW moreW _ _ _ _ _, ⟨rfl, trivial⟩⟩
  · obtain ⟨b1, b2, b3⟩ := bit_ok p k a j ha (by omega)
    have hb := dgW_bit (D := rootS p k (16 * a + j)) (i := 4 - a) (st := 32768 / 2 ^ j) (by omega) (by rw [b1]; exact b3) b2
    rw [b1] at hb
    have hnx := rootS_next p k (16 * a + j)
    rw [Nat.add_assoc (16 * a) j 1] at hnx
    have hst := stW_nat j
    have hst0 : 0 < 32768 / 2 ^ j := Nat.div_pos (by
      have := Nat.pow_le_pow_right (show 0 < 2 by omega) (show j ≤ 15 by omega)
      omega) (Nat.pow_pos (by omega))
    have hst1 : decide (0 < (stW j).toNat) = true := decide_eq_true (by omega)
    generalize hD : rootS p k (16 * a + j) = D at *
    generalize hC : D + 2 ^ (79 - (16 * a + j)) = C at *
    have hm := more_pw (p := p) (k := 4 * k) b3
    have hz : 0 + (((4 - a : Nat) : Int)).toNat * 1 = 4 - a := by omega
    have hlen := dgW_len 5 C
    have hdC := dgW_D 5 C
    have hl1 := mulW_len (dgW C 5) (dgW C 5)
    have hl2 := mulW_len (mulW (dgW C 5) (dgW C 5)) (dgW C 5)
    have hd1 := mulW_D (dgW C 5) (dgW C 5)
    have hd2 := mulW_D (mulW (dgW C 5) (dgW C 5)) (dgW C 5)
    have hf := fourk k
    have hb1 : (dgW D 5).set (4 - a) ((dgW D 5).getD (4 - a) 0#64 + stW j) = dgW C 5 := hb.1
    have hb2 : (dgW C 5).set (4 - a) ((dgW C 5).getD (4 - a) 0#64 - stW j) = dgW D 5 := hb.2
    clear hb b1 b2
    by_cases hmore : p * 65536 ^ (4 * k) < pw2 C k
    · rw [if_pos hmore] at hnx
      rcases hk with rfl | rfl
      · have r0 := riRound2T mulW moreW (p : Nat) ((2 : Nat) : Int) (dgW D 5) ((4 - a : Nat) : Int) (stW j)
        rw [hz, hb1, hb2, stW_half, Int.toNat_natCast, hf] at r0
        have hq : moreW (mulW (dgW C 5) (dgW C 5)) ((p : Nat) : Int).toNat (4 * 2) = true := by rw [Int.toNat_natCast, hm.2]; exact decide_eq_true hmore
        have q : riInv (p : Nat) ((2 : Nat) : Int) (dgW D 5) ((4 - a : Nat) : Int) (stW (j + 1)) = riInv (p : Nat) ((2 : Nat) : Int) (dgW (rootS p 2 (16 * a + (j + 1))) 5) ((4 - a : Nat) : Int) (stW (j + 1)) := by rw [hnx]
        have r1 := r0.trans (congrArg (fun x => some (Ex.normal, x, _)) q)
        refine .inl ⟨_, _, _, _, _, j + 1, r1, ?_, by omega, by omega⟩
        clear r0 r1 q hm hnx hmore hD hC
        simp only [AllP, inI64]
        and_intros <;> first | exact True.intro | with_reducible rfl | with_reducible assumption | omega | decide
      · have r0 := riRound3T mulW moreW (p : Nat) ((3 : Nat) : Int) (dgW D 5) ((4 - a : Nat) : Int) (stW j)
        rw [hz, hb1, hb2, stW_half, Int.toNat_natCast, hf] at r0
        have hq : moreW (mulW (mulW (dgW C 5) (dgW C 5)) (dgW C 5)) ((p : Nat) : Int).toNat (4 * 3) = true := by rw [Int.toNat_natCast, hm.1]; exact decide_eq_true hmore
        have q : riInv (p : Nat) ((3 : Nat) : Int) (dgW D 5) ((4 - a : Nat) : Int) (stW (j + 1)) = riInv (p : Nat) ((3 : Nat) : Int) (dgW (rootS p 3 (16 * a + (j + 1))) 5) ((4 - a : Nat) : Int) (stW (j + 1)) := by rw [hnx]
        have r1 := r0.trans (congrArg (fun x => some (Ex.normal, x, _)) q)
        refine .inl ⟨_, _, _, _, _, j + 1, r1, ?_, by omega, by omega⟩
        clear r0 r1 q hm hnx hmore hD hC
        simp only [AllP, inI64]
        and_intros <;> first | exact True.intro | with_reducible rfl | with_reducible assumption | omega | decide
    · rw [if_neg hmore] at hnx
      rcases hk with rfl | rfl
      · have r0 := riRound2F mulW moreW (p : Nat) ((2 : Nat) : Int) (dgW D 5) ((4 - a : Nat) : Int) (stW j)
        rw [hz, hb1, stW_half, Int.toNat_natCast, hf] at r0
        have hq : moreW (mulW (dgW C 5) (dgW C 5)) ((p : Nat) : Int).toNat (4 * 2) = false := by rw [Int.toNat_natCast, hm.2]; exact decide_eq_false hmore
        have q : riInv (p : Nat) ((2 : Nat) : Int) (dgW C 5) ((4 - a : Nat) : Int) (stW (j + 1)) = riInv (p : Nat) ((2 : Nat) : Int) (dgW (rootS p 2 (16 * a + (j + 1))) 5) ((4 - a : Nat) : Int) (stW (j + 1)) := by rw [hnx]
        have r1 := r0.trans (congrArg (fun x => some (Ex.normal, x, _)) q)
        refine .inl ⟨_, _, _, _, _, j + 1, r1, ?_, by omega, by omega⟩
        clear r0 r1 q hm hnx hmore hD hC
        simp only [AllP, inI64]
        and_intros <;> first | exact True.intro | with_reducible rfl | with_reducible assumption | omega | decide
      · have r0 := riRound3F mulW moreW (p : Nat) ((3 : Nat) : Int) (dgW D 5) ((4 - a : Nat) : Int) (stW j)
        rw [hz, hb1, stW_half, Int.toNat_natCast, hf] at r0
        have hq : moreW (mulW (mulW (dgW C 5) (dgW C 5)) (dgW C 5)) ((p : Nat) : Int).toNat (4 * 3) = false := by rw [Int.toNat_natCast, hm.1]; exact decide_eq_false hmore
        have q : riInv (p : Nat) ((3 : Nat) : Int) (dgW C 5) ((4 - a : Nat) : Int) (stW (j + 1)) = riInv (p : Nat) ((3 : Nat) : Int) (dgW (rootS p 3 (16 * a + (j + 1))) 5) ((4 - a : Nat) : Int) (stW (j + 1)) := by rw [hnx]
        have r1 := r0.trans (congrArg (fun x => some (Ex.normal, x, _)) q)
        refine .inl ⟨_, _, _, _, _, j + 1, r1, ?_, by omega, by omega⟩
        clear r0 r1 q hm hnx hmore hD hC
        simp only [AllP, inI64]
        and_intros <;> first | exact True.intro | with_reducible rfl | with_reducible assumption | omega | decide
theorem rtLoopH (p k : Nat) (hp : 0 < p) (hp2 : p < 65536) (hk : k = 2 ∨ k = 3) : LoopTo Tryz.prog (bodyAt Tryz.prog 132 3) (rtInvH (p : Nat) (k : Nat) (List.replicate 5 0#64) 4) (.exit 0) (rtInvH (p : Nat) (k : Nat) (dgW (rootS p k 80) 5) (-1)) := by
  have h0 := LoopTo.intro (P := Tryz.prog) (α := Nat) gs0 fol (c := bodyAt Tryz.prog 132 3) (e := .exit 0) (σ' := rtInvH (p : Nat) (k : Nat) (dgW (rootS p k 80) 5) (-1)) (fun a => rtInvH (p : Nat) (k : Nat) (dgW (rootS p k (16 * a)) 5) (4 - (a : Int))) (fun a => a ≤ 5) (fun a => 5 - a) (by simp) ?_ 0 (by omega)
  · have e : dgW (rootS p k (16 * 0)) 5 = List.replicate 5 0#64 := by rw [Nat.mul_zero, rootS]; decide
    rw [e] at h0
    exact h0
  intro a ha
  by_cases he : a = 5
  · subst he
    exact .inr ⟨_, _, _, _, _, rtExitH _ _ _ _, ⟨rfl, trivial⟩⟩
  · have r0 := rtRound (p : Nat) (k : Nat) (dgW (rootS p k (16 * a)) 5) (dgW (rootS p k (16 * (a + 1))) 5) (4 - (a : Int)) 0#64
    have L := riLoop p k a (by omega) hp hp2 hk
    rw [show ((4 - a : Nat) : Int) = 4 - (a : Int) by omega] at L
    rw [show 4 - (a : Int) - 1 = 4 - ((a + 1 : Nat) : Int) by omega] at r0
    exact .inl ⟨_, _, _, _, _, a + 1, r0, ⟨decide_eq_true (by omega), L, by unfold inI64; omega, trivial⟩, by omega, by omega⟩
def spRootG (R : Nat → Nat → W6) : List AV → Option (AV × List Prop)
  | [.val false [.i64 p], .val false [.i64 k]] => some (sc (.u64 (R p.toNat k.toNat)), [0 < p, p < 65536, k = 2 ∨ k = 3])
  | _ => none
theorem ctRoot6 : CtSOk Tryz.prog 132 (.fn (spRootG rootW)) := FnS_of_fnS gs0 fol fun ds r cs h hc => by
  unfold spRootG at h
  split at h
  case h_2 => simp at h
  rename_i p k
  simp only [Option.some.injEq, Prod.mk.injEq] at h
  obtain ⟨rfl, rfl⟩ := h
  obtain ⟨h1, h2, h3, _⟩ := hc
  obtain ⟨p, rfl⟩ := Int.eq_ofNat_of_zero_le (show 0 ≤ p by omega)
  obtain ⟨k, rfl⟩ := Int.eq_ofNat_of_zero_le (show 0 ≤ k by omega)
  have L := rtLoopH p k (by omega) (by omega) (by omega)
  refine use_run (runRoot (p : Nat) (k : Nat) (dgW (rootS p k 80) 5) (-1)) (congrArg (fun x => sc (IV.u64 x)) (dgW_64 _)) ?_
  simp only [AllP]
  and_intros <;> first | exact True.intro | exact L | omega
/-! ### Primes -/
def asI (l : List Nat) : List Int := l.map fun q => ((q : Nat) : Int)
theorem asI_len (l : List Nat) : (asI l).length = l.length := by simp [asI]
theorem asI_get (l : List Nat) (i : Nat) : (asI l).getD i 0 = ((l.getD i 0 : Nat) : Int) := by
  unfold asI
  rw [List.getD_eq_getElem?_getD, List.getD_eq_getElem?_getD, List.getElem?_map]
  cases l[i]? <;> rfl
theorem get_mem {l : List Nat} {i : Nat} (h : i < l.length) : l.getD i 0 ∈ l := by
  rw [List.getD_eq_getElem?_getD, List.getElem?_eq_getElem h]
  exact List.getElem_mem h
theorem all_get {l : List Nat} {f : Nat → Bool} (h : ∀ i, i < l.length → f (l.getD i 0) = true) : l.all f = true := by
  rw [List.all_eq_true]
  intro x hx
  obtain ⟨i, hi, e⟩ := List.getElem_of_mem hx
  have := h i hi
  rw [List.getD_eq_getElem?_getD, List.getElem?_eq_getElem hi, e] at this
  exact this
theorem tm_nat (p q : Nat) : ((p : Nat) : Int).tmod ((q : Nat) : Int) = ((p % q : Nat) : Int) := (Int.ofNat_tmod p q).symm
theorem piLoopN (n : Int) (p : Nat) (l : List Nat) (_hp : p ≤ 100000) (hl : ∀ q ∈ l, 2 ≤ q ∧ q < p) (hm : l.length ≤ 100000) (h : ∀ i, i < l.length → p % l.getD i 0 ≠ 0) :
    LoopTo Tryz.prog (bodyAt Tryz.prog 131 7) (piInv n (asI l) l.length (p : Nat) (p : Nat) 0) (.exit 2) (piInv n (asI l) l.length (p : Nat) (p : Nat) (l.length : Nat)) := by
  have hlen := asI_len l
  refine LoopTo.intro (P := Tryz.prog) (α := Nat) gs0 fol (c := bodyAt Tryz.prog 131 7) (e := .exit 2) (σ' := piInv n (asI l) l.length (p : Nat) (p : Nat) (l.length : Nat)) (fun i => piInv n (asI l) l.length (p : Nat) (p : Nat) (i : Nat)) (fun i => i ≤ l.length) (fun i => l.length - i) (by simp) ?_ 0 (by omega)
  intro i hi
  by_cases he : i = l.length
  · subst he
    exact .inr ⟨_, _, _, _, _, piExitL _ _ _ _ _ _, ⟨decide_eq_false (by omega), trivial⟩⟩
  · have r0 := piRoundN n (asI l) l.length (p : Nat) (p : Nat) (i : Nat)
    have hq := hl _ (get_mem (show i < l.length by omega))
    have hx := h i (by omega)
    rw [Int.toNat_natCast, Nat.zero_add, Nat.mul_one, asI_get, tm_nat, ← castS] at r0
    refine .inl ⟨_, _, _, _, _, i + 1, r0, ?_, by omega, by omega⟩
    clear r0
    generalize l.getD i 0 = q at hq hx ⊢
    have e1 : ((((p % q : Nat) : Int)) == (0 : Int)) = false := by rw [beq_eq_false_iff_ne]; omega
    have e2 : (((p : Nat) : Int) == ((p : Nat) : Int)) = true := by rw [beq_iff_eq]
    simp only [AllP, inI64]
    and_intros <;> first | exact True.intro | exact decide_eq_true (by omega) | with_reducible assumption | omega
theorem piLoopY (n : Int) (p : Nat) (l : List Nat) (j : Nat) (_hp : p ≤ 100000) (hl : ∀ q ∈ l, 2 ≤ q ∧ q < p) (hm : l.length ≤ 100000) (hj : j < l.length) (hd : p % l.getD j 0 = 0) (h : ∀ i, i < j → p % l.getD i 0 ≠ 0) :
    LoopTo Tryz.prog (bodyAt Tryz.prog 131 7) (piInv n (asI l) l.length (p : Nat) (p : Nat) 0) (.exit 2) (piInv n (asI l) l.length (p : Nat) ((l.getD j 0 : Nat) : Int) ((j + 1 : Nat) : Int)) := by
  have hlen := asI_len l
  have hqj := hl _ (get_mem hj)
  refine LoopTo.intro (P := Tryz.prog) (α := Nat) gs0 fol (c := bodyAt Tryz.prog 131 7) (e := .exit 2) (σ' := piInv n (asI l) l.length (p : Nat) ((l.getD j 0 : Nat) : Int) ((j + 1 : Nat) : Int)) (fun i => if i ≤ j then piInv n (asI l) l.length (p : Nat) (p : Nat) (i : Nat) else piInv n (asI l) l.length (p : Nat) ((l.getD j 0 : Nat) : Int) ((j + 1 : Nat) : Int)) (fun i => i ≤ j + 1) (fun i => j + 1 - i) (by simp) ?_ 0 (by omega)
  intro i hi
  by_cases he : i = j + 1
  · subst he
    rw [if_neg (by omega)]
    by_cases hend : j + 1 = l.length
    · exact .inr ⟨_, _, _, _, _, piExitL _ _ _ _ _ _, ⟨decide_eq_false (by omega), trivial⟩⟩
    · refine .inr ⟨_, _, _, _, _, piExitQ _ _ _ _ _ _, ⟨decide_eq_true (by omega), ?_, trivial⟩⟩
      rw [beq_eq_false_iff_ne]
      omega
  · rw [if_pos (by omega)]
    have hq := hl _ (get_mem (show i < l.length by omega))
    have e2 : (((p : Nat) : Int) == ((p : Nat) : Int)) = true := by rw [beq_iff_eq]
    by_cases hij : i = j
    · subst hij
      have r0 := piRoundY n (asI l) l.length (p : Nat) (p : Nat) (i : Nat)
      rw [Int.toNat_natCast, Nat.zero_add, Nat.mul_one, asI_get, tm_nat, ← castS] at r0
      refine .inl ⟨_, _, _, _, _, i + 1, by rw [if_neg (by omega)]; exact r0, ?_, by omega, by omega⟩
      clear r0
      generalize l.getD i 0 = q at hq hd ⊢
      have e1 : ((((p % q : Nat) : Int)) == (0 : Int)) = true := by rw [hd]; rfl
      simp only [AllP, inI64]
      and_intros <;> first | exact True.intro | exact decide_eq_true (by omega) | with_reducible assumption | omega
    · have r0 := piRoundN n (asI l) l.length (p : Nat) (p : Nat) (i : Nat)
      have hx := h i (by omega)
      rw [Int.toNat_natCast, Nat.zero_add, Nat.mul_one, asI_get, tm_nat, ← castS] at r0
      refine .inl ⟨_, _, _, _, _, i + 1, by rw [if_pos (by omega)]; exact r0, ?_, by omega, by omega⟩
      clear r0
      generalize l.getD i 0 = q at hq hx ⊢
      have e1 : ((((p % q : Nat) : Int)) == (0 : Int)) = false := by rw [beq_eq_false_iff_ne]; omega
      simp only [AllP, inI64]
      and_intros <;> first | exact True.intro | exact decide_eq_true (by omega) | with_reducible assumption | omega
theorem belowP_succ (p : Nat) : belowP (p + 1) = if 2 ≤ p ∧ (belowP p).all (fun q => p % q != 0) = true then belowP p ++ [p] else belowP p := rfl
theorem prLoopH (n e : Nat) (he : 2 ≤ e) (he2 : e ≤ 100000) (hn : (belowP e).length = n) (hm : (belowP (e - 1)).length < n) :
    LoopTo Tryz.prog (bodyAt Tryz.prog 131 3) (prInvH (n : Nat) [] 0 2) (.exit 0) (prInvH (n : Nat) (asI (belowP e)) (belowP e).length (e : Nat)) := by
  refine LoopTo.intro (P := Tryz.prog) (α := Nat) gs0 fol (c := bodyAt Tryz.prog 131 3) (e := .exit 0) (σ' := prInvH (n : Nat) (asI (belowP e)) (belowP e).length (e : Nat)) (fun p => prInvH (n : Nat) (asI (belowP p)) (belowP p).length (p : Nat)) (fun p => 2 ≤ p ∧ p ≤ e) (fun p => e - p) (by simp) ?_ 2 ⟨by omega, he⟩
  rintro p ⟨hp, hpe⟩
  by_cases h : p = e
  · subst h
    exact .inr ⟨_, _, _, _, _, prExitH _ _ _ _, ⟨decide_eq_false (by omega), trivial⟩⟩
  · have hlt : (belowP p).length < n := by
      have := belowP_le p (e - 1 - p)
      rw [show p + (e - 1 - p) = e - 1 by omega] at this
      omega
    have hlen := belowP_len p
    have hmem := belowP_mem p
    have hs := belowP_succ p
    have hal := asI_len (belowP p)
    by_cases hx : ∃ i, i < (belowP p).length ∧ p % (belowP p).getD i 0 = 0
    · obtain ⟨j, j1, j2, j3⟩ := exists_first _ hx
      have L := piLoopY (n : Nat) p (belowP p) j (by omega) hmem (by omega) j1 j2 j3
      have hqj := hmem _ (get_mem j1)
      have hno : ¬ (2 ≤ p ∧ (belowP p).all (fun q => p % q != 0) = true) := by
        rintro ⟨_, h2⟩
        rw [List.all_eq_true] at h2
        have := h2 _ (get_mem j1)
        rw [j2] at this
        exact absurd this (by decide)
      rw [if_neg hno] at hs
      have r0 := prRoundN (n : Nat) (asI (belowP p)) (belowP p).length (p : Nat) (((belowP p).getD j 0 : Nat) : Int) ((j + 1 : Nat) : Int)
      have q : prInvH (n : Nat) (asI (belowP p)) (belowP p).length ((p : Nat) + 1) = prInvH (n : Nat) (asI (belowP (p + 1))) (belowP (p + 1)).length ((p + 1 : Nat) : Int) := by rw [hs, castS]
      refine .inl ⟨_, _, _, _, _, p + 1, r0.trans (congrArg (fun x => some (Ex.normal, x, _)) q), ⟨decide_eq_true (by omega), L, ?_, by unfold inI64; omega, trivial⟩, ⟨by omega, by omega⟩, by omega⟩
      rw [beq_eq_false_iff_ne]
      omega
    · have hn0 : ∀ i, i < (belowP p).length → p % (belowP p).getD i 0 ≠ 0 := fun i hi h0 => hx ⟨i, hi, h0⟩
      have L := piLoopN (n : Nat) p (belowP p) (by omega) hmem (by omega) hn0
      have hyes : (belowP p).all (fun q => p % q != 0) = true := all_get fun i hi => by
        rw [bne_iff_ne]
        exact hn0 i hi
      rw [if_pos ⟨hp, hyes⟩] at hs
      have r0 := prRoundY (n : Nat) (asI (belowP p)) (belowP p).length (p : Nat) (p : Nat) (((belowP p).length : Nat) : Int)
      have q : prInvH (n : Nat) (asI (belowP p) ++ [((p : Nat) : Int)]) ((belowP p).length + 1) ((p : Nat) + 1) = prInvH (n : Nat) (asI (belowP (p + 1))) (belowP (p + 1)).length ((p + 1 : Nat) : Int) := by
        rw [hs, castS, List.length_append]
        unfold asI
        rw [List.map_append]
        rfl
      refine .inl ⟨_, _, _, _, _, p + 1, r0.trans (congrArg (fun x => some (Ex.normal, x, _)) q), ⟨decide_eq_true (by omega), L, by rw [beq_iff_eq], rfl, hal.symm, by omega, by unfold inI64; omega, trivial⟩, ⟨by omega, by omega⟩, by omega⟩
/-- The first 80 primes, and the first 8. -/
def firstP (n : Nat) : List Nat := if n = 80 then belowP 410 else belowP 20
def spPrimesG (F : Nat → List Nat) : List AV → Option (AV × List Prop)
  | [.val false [.i64 n]] => some (sc (.dI (asI (F n.toNat))), [n = 80 ∨ n = 8])
  | _ => none
theorem b410 : (belowP 410).length = 80 := by kernel_rfl
theorem b409 : (belowP 409).length = 79 := by kernel_rfl
theorem b20 : (belowP 20).length = 8 := by kernel_rfl
theorem b19 : (belowP 19).length = 7 := by kernel_rfl
theorem ctPrimes : CtSOk Tryz.prog 131 (.fn (spPrimesG firstP)) := FnS_of_fnS gs0 fol fun ds r cs h hc => by
  unfold spPrimesG at h
  split at h
  case h_2 => simp at h
  rename_i n
  simp only [Option.some.injEq, Prod.mk.injEq] at h
  obtain ⟨rfl, rfl⟩ := h
  obtain ⟨hn, _⟩ := hc
  rcases hn with rfl | rfl
  · have L := prLoopH 80 410 (by omega) (by omega) b410 (by rw [show 410 - 1 = 409 from rfl, b409]; omega)
    have e : firstP ((80 : Int).toNat) = belowP 410 := rfl
    have hl := asI_len (belowP 410)
    rw [e]
    generalize belowP 410 = l at L hl ⊢
    refine use_run (runPrimes 80 (asI l) l.length (410 : Nat)) (by rw [cutL_eq rfl, List.drop_zero, List.take_of_length_le (by omega)]) ⟨L, by omega, trivial⟩
  · have L := prLoopH 8 20 (by omega) (by omega) b20 (by rw [show 20 - 1 = 19 from rfl, b19]; omega)
    have e : firstP ((8 : Int).toNat) = belowP 20 := rfl
    have hl := asI_len (belowP 20)
    rw [e]
    generalize belowP 20 = l at L hl ⊢
    refine use_run (runPrimes 8 (asI l) l.length (20 : Nat)) (by rw [cutL_eq rfl, List.drop_zero, List.take_of_length_le (by omega)]) ⟨L, by omega, trivial⟩
end Go.Proofs.YtlgiaglbdifkpaaGreatDoor
/- SHA-512 of the document: its contract. Own work. -/
namespace Go.Proofs.YtlgiaglbdifkpaaGreatDoor
open Go.Ev Go.Sp Go.RowKit
set_option maxRecDepth 100000
def tblN0 : List (FuncId × CtS) := [(122, .fn spShift)]
theorem okN0 : TblOk Tryz.prog tblN0 := ⟨⟨ctShift, by kernel_rfl⟩, trivial⟩
theorem gsN0 : GSound Tryz.prog (upG (lookG tblN0)) := GSound_of_tbl okN0
def tblNb (F : Nat → List Nat) (R : Nat → Nat → W6) : List (FuncId × CtS) :=
  (131, .fn (spPrimesG F)) :: (132, .fn (spRootG R)) :: tblN0
theorem gsNb : GSound Tryz.prog (upG (lookG (tblNb firstP rootW))) := GSound_of_tbl ⟨⟨ctPrimes, by kernel_rfl⟩, ⟨ctRoot6, by kernel_rfl⟩, okN0⟩
def nbTd : List Nat := [1, 2, 7, 8, 9]
def nbInv (l : List Int) (k : Int) (o : List W6) (m : Nat) (i : Int) : St := ⟨slotsOf 34 [(1, sc (.i64 k)), (2, sc (.i64 64)), (7, sc (.sl 0 0 m)), (8, sc (.sl 1 0 l.length)), (9, sc (.i64 i))], [(0, ⟨true, [.v64 o.length o]⟩), (1, ⟨true, [.vi l.length l]⟩)], 16⟩
theorem nbRound (F : Nat → List Nat) (R : Nat → Nat → W6) (l : List Int) (k : Int) (o : List W6) (m : Nat) (i : Int) : roundS Tryz.prog (lookG (tblNb F R)) (orcA [(4, [(3, true)])]) [] 10 nbTd (bodyAt Tryz.prog 121 4) (nbInv l k o m i) =
    some (Ex.normal, St.mk (slotsOf 34 [(1, sc (IV.i64 k)), (2, sc (IV.i64 (64 : Int))), (7, sc (IV.sl 0 0 (m + 1))), (8, sc (IV.sl 1 0 l.length)), (9, sc (IV.i64 (i + (1 : Int))))]) [(0, Blk.mk true [IV.v64 (o ++ (List.replicate 1 (BitVec.ofNat 64 0)).set 0 (R (l.getD (0 + i.toNat * 1) (0 : Int)).toNat k.toNat)).length (o ++ (List.replicate 1 (BitVec.ofNat 64 0)).set 0 (R (l.getD (0 + i.toNat * 1) (0 : Int)).toNat k.toNat))]), (1, Blk.mk true [IV.vi l.length l])] 16, [decide (i < (↑l.length : Int)) = true, (0 : Int) ≤ i, i.toNat < l.length, 0 + i.toNat * 1 < l.length, (0 : Int) < l.getD (0 + i.toNat * 1) (0 : Int), l.getD (0 + i.toNat * 1) (0 : Int) < (65536 : Int), k = (2 : Int) ∨ k = (3 : Int), 1 = 1, m = o.length, (m + 1) * 8 ≤ 140737488355328 ∧ m + 1 ≤ 9223372036854775807, inI64 (i + (1 : Int))]) := by kernel_rfl
theorem nbExit (F : Nat → List Nat) (R : Nat → Nat → W6) (l : List Int) (k : Int) (o : List W6) (m : Nat) (i : Int) : roundS Tryz.prog (lookG (tblNb F R)) (orcA [(4, [(3, false)])]) [] 10 nbTd (bodyAt Tryz.prog 121 4) (nbInv l k o m i) =
    some (Ex.exit 0, St.mk (slotsOf 34 [(1, sc (IV.i64 k)), (2, sc (IV.i64 (64 : Int))), (7, sc (IV.sl 0 0 m)), (8, sc (IV.sl 1 0 l.length)), (9, sc (IV.i64 i))]) [(0, Blk.mk true [IV.v64 o.length o]), (1, Blk.mk true [IV.vi l.length l])] 16, [decide (i < (↑l.length : Int)) = false]) := by kernel_rfl
theorem runNb (F : Nat → List Nat) (R : Nat → Nat → W6) (l : List Int) (n k : Int) (o : List W6) (m : Nat) (i : Int) : fnS Tryz.prog (lookG (tblNb F R)) (orcA []) [⟨4, nbTd, .exit 0, nbInv l k o m i⟩] 10 121 [sc (.i64 n), sc (.i64 k), sc (.i64 64)] =
    some (sc (IV.d64 (cutL o 0 m o.length)), [n = (80 : Int) ∨ n = (8 : Int), LoopTo Tryz.prog (bodyAt Tryz.prog 121 4) (St.mk (slotsOf 34 [(1, sc (IV.i64 k)), (2, sc (IV.i64 (64 : Int))), (7, sc (IV.sl 0 0 0)), (8, sc (IV.sl 1 0 (asI (F n.toNat)).length)), (9, sc (IV.i64 (0 : Int)))]) [(0, Blk.mk true [IV.v64 0 []]), (1, Blk.mk true [IV.vi (asI (F n.toNat)).length (asI (F n.toNat))])] 16) (Ex.exit 0) (St.mk (slotsOf 34 [(1, sc (IV.i64 k)), (2, sc (IV.i64 (64 : Int))), (7, sc (IV.sl 0 0 m)), (8, sc (IV.sl 1 0 l.length)), (9, sc (IV.i64 i))]) [(0, Blk.mk true [IV.v64 o.length o]), (1, Blk.mk true [IV.vi l.length l])] 16), 0 + m ≤ o.length]) := by kernel_rfl
def spNbG (B : Nat → Nat → List W6) : List AV → Option (AV × List Prop)
  | [.val false [.i64 n], .val false [.i64 k], .val false [.i64 b]] => some (sc (.d64 (B n.toNat k.toNat)), [n = 80 ∨ n = 8, k = 2 ∨ k = 3, b = 64])
  | _ => none
def tblGr (B : Nat → Nat → List W6) : List (FuncId × CtS) :=
  (121, .fn (spNbG B)) :: tblN0
theorem runGreat (B : Nat → Nat → List W6) : fnS Tryz.prog (lookG (tblGr B)) (orcA []) [] 10 95 [] =
    some (AV.val true [IV.i64 (64 : Int), IV.i64 (80 : Int), IV.vi 3 ((([(0 : Int), (0 : Int), (0 : Int)].set 0 (28 : Int)).set 1 (34 : Int)).set 2 (39 : Int)), IV.vi 3 ((([(0 : Int), (0 : Int), (0 : Int)].set 0 (14 : Int)).set 1 (18 : Int)).set 2 (41 : Int)), IV.vi 3 ((([(0 : Int), (0 : Int), (0 : Int)].set 0 (1 : Int)).set 1 (8 : Int)).set 2 (7 : Int)), IV.vi 3 ((([(0 : Int), (0 : Int), (0 : Int)].set 0 (19 : Int)).set 1 (61 : Int)).set 2 (6 : Int)), IV.d64 (cutL (B 80 3) 0 (B 80 3).length (B 80 3).length), IV.d64 (cutL (B 8 2) 0 (B 8 2).length (B 8 2).length)], [(80 : Int) = (80 : Int) ∨ (80 : Int) = (8 : Int), (3 : Int) = (2 : Int) ∨ (3 : Int) = (3 : Int), (64 : Int) = (64 : Int), (8 : Int) = (80 : Int) ∨ (8 : Int) = (8 : Int), (2 : Int) = (2 : Int) ∨ (2 : Int) = (3 : Int), (64 : Int) = (64 : Int), 0 + (B 80 3).length ≤ (B 80 3).length, 0 + (B 8 2).length ≤ (B 8 2).length]) := by kernel_rfl
def spGreatG (ks fs : List W6) : List AV → Option (AV × List Prop)
  | [] => some (.val true (kindL ks fs), [])
  | _ => none
def spSumDG (S : List (BitVec 8) → List (BitVec 8)) (kk ff : List W6) : List AV → Option (AV × List Prop)
  | [.val true [.i64 b, .i64 r, .vi 3 u, .vi 3 d, .vi 3 e, .vi 3 x, .d64 ks, .d64 fs], .val false [.d8 l]] => some (sc (.d8 (S l)), [l.length ≤ 100000, b = 64, r = 80, u = [28, 34, 39], d = [14, 18, 41], e = [1, 8, 7], x = [19, 61, 6], ks = kk, fs = ff])
  | _ => none
def tblS5 (S : List (BitVec 8) → List (BitVec 8)) (kk ff : List W6) : List (FuncId × CtS) :=
  (95, .fn (spGreatG kk ff)) :: (96, .fn (spSumDG S kk ff)) :: tblN0
theorem runS512 (S : List (BitVec 8) → List (BitVec 8)) (kk ff : List W6) (l : List (BitVec 8)) : fnS Tryz.prog (lookG (tblS5 S kk ff)) (orcA []) [] 10 49 [sc (.d8 l)] =
    some (sc (IV.d8 (cutL (S l) 0 (S l).length (S l).length)), [kk.length = kk.length, ff.length = ff.length, l.length = l.length, l.length ≤ 100000, (64 : Int) = (64 : Int), (80 : Int) = (80 : Int), [(28 : Int), (34 : Int), (39 : Int)] = [(28 : Int), (34 : Int), (39 : Int)], [(14 : Int), (18 : Int), (41 : Int)] = [(14 : Int), (18 : Int), (41 : Int)], [(1 : Int), (8 : Int), (7 : Int)] = [(1 : Int), (8 : Int), (7 : Int)], [(19 : Int), (61 : Int), (6 : Int)] = [(19 : Int), (61 : Int), (6 : Int)], kk = kk, ff = ff, 0 + (S l).length ≤ (S l).length]) := by kernel_rfl
theorem nbLoop (L : List Nat) (k : Nat) (hk : k = 2 ∨ k = 3) (hL : ∀ q ∈ L, 0 < q ∧ q < 65536) (hn : L.length ≤ 100000) : LoopTo Tryz.prog (bodyAt Tryz.prog 121 4) (nbInv (asI L) (k : Nat) [] 0 0) (.exit 0) (nbInv (asI L) (k : Nat) (L.map fun p => rootW p k) L.length (L.length : Nat)) := by
  have hlen := asI_len L
  have h0 := LoopTo.intro (P := Tryz.prog) (α := Nat) gsNb fol (c := bodyAt Tryz.prog 121 4) (e := .exit 0) (σ' := nbInv (asI L) (k : Nat) (L.map fun p => rootW p k) L.length (L.length : Nat)) (fun i => nbInv (asI L) (k : Nat) ((L.take i).map fun p => rootW p k) i (i : Nat)) (fun i => i ≤ L.length) (fun i => L.length - i) (by simp) ?_ 0 (by omega)
  · exact h0
  intro i hi
  by_cases he : i = L.length
  · subst he
    rw [List.take_length]
    exact .inr ⟨_, _, _, _, _, nbExit firstP rootW _ _ _ _ _, ⟨decide_eq_false (by omega), trivial⟩⟩
  · have r0 := nbRound firstP rootW (asI L) (k : Nat) ((L.take i).map fun p => rootW p k) i (i : Nat)
    have hq := hL _ (get_mem (show i < L.length by omega))
    rw [Int.toNat_natCast, Nat.zero_add, Nat.mul_one, asI_get, Int.toNat_natCast, Int.toNat_natCast] at r0
    have hx : (L.take (i + 1)).map (fun p => rootW p k) = (L.take i).map (fun p => rootW p k) ++ [rootW (L.getD i 0) k] := by
      rw [List.take_succ_eq_append_getElem (show i < L.length by omega), List.map_append, List.getD_eq_getElem?_getD, List.getElem?_eq_getElem (show i < L.length by omega)]
      rfl
    have q : nbInv (asI L) (k : Nat) ((L.take i).map (fun p => rootW p k) ++ [rootW (L.getD i 0) k]) (i + 1) ((i : Nat) + 1) = nbInv (asI L) (k : Nat) ((L.take (i + 1)).map fun p => rootW p k) (i + 1) ((i + 1 : Nat) : Int) := by rw [hx, castS]
    refine .inl ⟨_, _, _, _, _, i + 1, r0.trans (congrArg (fun x => some (Ex.normal, x, _)) q), ?_, by omega, by omega⟩
    clear r0 q hx
    have hm : i = ((L.take i).map fun p => rootW p k).length := by rw [List.length_map, List.length_take]; omega
    refine ⟨decide_eq_true (by omega), by omega, by omega, by omega, by omega, by omega, by omega, rfl, hm, by omega, by unfold inI64; omega, trivial⟩
def numW (n k : Nat) : List W6 := (firstP n).map fun p => rootW p k
theorem firstP_mem (n q : Nat) (h : q ∈ firstP n) : 0 < q ∧ q < 65536 := by
  unfold firstP at h
  split at h
  · have := belowP_mem _ _ h; omega
  · have := belowP_mem _ _ h; omega
theorem firstP_len (n : Nat) : (firstP n).length ≤ 100000 := by
  unfold firstP
  split
  · rw [b410]; omega
  · rw [b20]; omega
theorem ctNb : CtSOk Tryz.prog 121 (.fn (spNbG numW)) := FnS_of_fnS gsNb fol fun ds r cs h hc => by
  unfold spNbG at h
  split at h
  case h_2 => simp at h
  rename_i n k b
  simp only [Option.some.injEq, Prod.mk.injEq] at h
  obtain ⟨rfl, rfl⟩ := h
  obtain ⟨hn, hk, rfl, _⟩ := hc
  obtain ⟨m, rfl⟩ := Int.eq_ofNat_of_zero_le (show 0 ≤ k by omega)
  have L := nbLoop (firstP n.toNat) m (by omega) (firstP_mem _) (firstP_len _)
  refine use_run (runNb firstP rootW (asI (firstP n.toNat)) n (m : Nat) (numW n.toNat m) (firstP n.toNat).length ((firstP n.toNat).length : Nat)) ?_ ⟨hn, L, by simp [numW], trivial⟩
  rw [cutL_eq rfl, List.drop_zero, List.take_of_length_le (by simp [numW])]
  rfl
theorem num512 : numW 80 3 = k512L := by kernel_rfl
theorem numFst : numW 8 2 = fst8.list := by kernel_rfl
theorem gsGr : GSound Tryz.prog (upG (lookG (tblGr numW))) := GSound_of_tbl ⟨⟨ctNb, by kernel_rfl⟩, okN0⟩
theorem ctGreat : CtSOk Tryz.prog 95 (.fn (spGreatG k512L fst8.list)) := FnS_of_fnS gsGr fol fun ds r cs h hc => by
  unfold spGreatG at h
  split at h
  case h_2 => simp at h
  simp only [Option.some.injEq, Prod.mk.injEq] at h
  obtain ⟨rfl, rfl⟩ := h
  refine use_run (runGreat numW) ?_ ?_
  · rw [cutL_eq rfl, List.drop_zero, List.take_length, cutL_eq rfl, List.drop_zero, List.take_length, num512, numFst]
    rfl
  · simp only [AllP]
    and_intros <;> first | exact True.intro | exact .inl rfl | exact .inr rfl | rfl | simp
theorem gsS5 : GSound Tryz.prog (upG (lookG (tblS5 shaL k512L fst8.list))) := GSound_of_tbl ⟨⟨ctGreat, by kernel_rfl⟩, ⟨ctSumD, by kernel_rfl⟩, okN0⟩
theorem ctShaD : CtSOk Tryz.prog 49 (.fn spSha) := FnS_of_fnS gsS5 fol fun ds r cs h hc => by
  unfold spSha at h
  split at h
  case h_2 => simp at h
  rename_i l
  simp only [Option.some.injEq, Prod.mk.injEq] at h
  obtain ⟨rfl, rfl⟩ := h
  obtain ⟨hl, _⟩ := hc
  refine use_run (runS512 shaL k512L fst8.list l) (by rw [cutL_eq rfl, List.drop_zero, List.take_length]) ?_
  simp only [AllP]
  and_intros <;> first | exact True.intro | with_reducible rfl | omega
end Go.Proofs.YtlgiaglbdifkpaaGreatDoor
/- Contracts of layer 4's document. Own work. -/
namespace Go.Proofs.YtlgiaglbdifkpaaGreatDoor
open Go.Ev Go.Sp Go.RowKit
set_option maxRecDepth 100000

def LoL : List Int := [237, 211, 245, 92, 26, 99, 18, 88, 214, 156, 247, 162, 222, 249, 222, 20, 0, 0, 0, 0, 0, 0, 0, 0, 0, 0, 0, 0, 0, 0, 0, 16]
theorem LoL_dg : LoL = dg Lo := by
  have h1 : IsD LoL := by
    intro d hd
    have : LoL.all (fun d => decide (0 ≤ d) && decide (d < 256)) = true := by decide
    have := List.all_eq_true.1 this d hd
    simpa using this
  have h2 : nv LoL = Lo := by decide
  rw [← h2]
  exact eq_dg h1 (.inr (by decide))
def spROrd : List AV → Option (AV × List Prop)
  | [] => some (sc (.dN Lo), [])
  | _ => none
def spROrdL : List AV → Option (AV × List Prop)
  | [] => some (sc (.dI LoL), [])
  | _ => none
theorem runROrd : fnS Tryz.prog (lookG []) orc0 [] 40 71 [] = some (sc (.dI LoL), [32 ≤ 32]) := by kernel_rfl
theorem ctROrdL : CtSOk Tryz.prog 71 (.fn spROrdL) := FnS_of_fnS gs0 fol fun ds r cs h hc => by
  unfold spROrdL at h
  split at h
  case h_2 => simp at h
  simp only [Option.some.injEq, Prod.mk.injEq] at h
  obtain ⟨rfl, rfl⟩ := h
  exact use_run runROrd rfl ⟨by omega, trivial⟩
theorem ctROrd : CtSOk Tryz.prog 71 (.fn spROrd) := FnS_num ctROrdL fun ds r cs h hc => by
  unfold spROrd at h
  split at h
  case h_2 => simp at h
  simp only [Option.some.injEq, Prod.mk.injEq] at h
  obtain ⟨rfl, rfl⟩ := h
  exact ⟨[], by rw [show ([] : List AV).map exA = [] from rfl, spROrdL, LoL_dg]; rfl, trivial⟩
def tblR1 : List (FuncId × CtS) :=
  (71, .fn spROrd) :: tblM
theorem gsR1 : GSound Tryz.prog (upG (lookG tblR1)) := GSound_of_tbl ⟨⟨ctROrd, by kernel_rfl⟩, okM⟩
theorem runRLeft (d : Nat) : fnS Tryz.prog (lookG tblR1) orc0 [] 10 42 [sc (.dN d)] =
    some (sc (IV.dN (d % 7237005577332262213973186563042994240857116359379907606001950938285454250989)), [(dg d).length = (dg d).length, 32 = 32, 0 < 7237005577332262213973186563042994240857116359379907606001950938285454250989, Sm d, Sm 7237005577332262213973186563042994240857116359379907606001950938285454250989, 32 ≤ 3999990, (dg (d % 7237005577332262213973186563042994240857116359379907606001950938285454250989)).length = (dg (d % 7237005577332262213973186563042994240857116359379907606001950938285454250989)).length]) := by kernel_rfl
def spRLeft : List AV → Option (AV × List Prop)
  | [.val false [.dN d]] => some (sc (.dN (d % Lo)), [Sm d])
  | _ => none
theorem Sm_le {a : Nat} (h : a < 256 ^ 100) : Sm a := Sm_lt h (by omega)
theorem Sm_Lo : Sm Lo := Sm_le (by decide)
theorem ctRLeft : CtSOk Tryz.prog 42 (.fn spRLeft) := FnS_of_fnS gsR1 fol fun ds r cs h hc => by
  unfold spRLeft at h
  split at h
  case h_2 => simp at h
  rename_i d
  simp only [Option.some.injEq, Prod.mk.injEq] at h
  obtain ⟨rfl, rfl⟩ := h
  exact use_run (runRLeft d) rfl ⟨rfl, rfl, Lo_pos, hc.1, Sm_Lo, by omega, rfl, trivial⟩
def tblR2 : List (FuncId × CtS) :=
  (42, .fn (orD spRLeft)) :: tblR1
theorem gsR2 : GSound Tryz.prog (upG (lookG tblR2)) := GSound_of_tbl ⟨⟨FnS_orD ctRLeft, by kernel_rfl⟩, ⟨ctROrd, by kernel_rfl⟩, okM⟩
theorem runRAddZ (a b : Nat) : fnS Tryz.prog (lookG tblR2) orc1 [] 10 40 [sc (.dN a), sc (.dN b)] =
    some (sc (IV.dN ((a + b) % 7237005577332262213973186563042994240857116359379907606001950938285454250989)), [(dg a).length = (dg a).length, (dg b).length = (dg b).length, Sm a, Sm b, (dg (a + b)).length = (dg (a + b)).length, Sm (a + b), (dg ((a + b) % 7237005577332262213973186563042994240857116359379907606001950938285454250989)).length = (dg ((a + b) % 7237005577332262213973186563042994240857116359379907606001950938285454250989)).length]) := by kernel_rfl
theorem runRMulZ (a b : Nat) : fnS Tryz.prog (lookG tblR2) orc1 [] 10 41 [sc (.dN a), sc (.dN b)] =
    some (sc (IV.dN (a * b % 7237005577332262213973186563042994240857116359379907606001950938285454250989)), [(dg a).length = (dg a).length, (dg b).length = (dg b).length, Sm a, Sm b, (dg (a * b)).length = (dg (a * b)).length, Sm (a * b), (dg (a * b % 7237005577332262213973186563042994240857116359379907606001950938285454250989)).length = (dg (a * b % 7237005577332262213973186563042994240857116359379907606001950938285454250989)).length]) := by kernel_rfl
theorem runRDecZ (b : List (BitVec 8)) : fnS Tryz.prog (lookG tblR2) (orcA [(2, [(2, false)]), (4, [(3, false)])]) [] 10 26 [sc (.d8 b)] =
    some (AV.tup [(false, [IV.dN (bv b)]), (false, [IV.i64 (0 : Int)])], [b.length = b.length, b.length ≤ 4000000, (!(↑b.length : Int) == (32 : Int)) = false, (dg (bv b)).length = (dg (bv b)).length, 32 = 32, Sm (bv b), Sm 7237005577332262213973186563042994240857116359379907606001950938285454250989, (!decide (bv b < 7237005577332262213973186563042994240857116359379907606001950938285454250989)) = false, (dg (bv b)).length = (dg (bv b)).length]) := by kernel_rfl
theorem runRDec1Z (b : List (BitVec 8)) : fnS Tryz.prog (lookG tblR2) (orcA [(2, [(2, true)])]) [] 10 26 [sc (.d8 b)] =
    some (AV.tup [(false, [IV.dI (cutL [] 0 0 0)]), (false, [IV.i64 (1 : Int)])], [b.length = b.length, b.length ≤ 4000000, (!(↑b.length : Int) == (32 : Int)) = true, 0 ≤ 0]) := by kernel_rfl
theorem runRDec6Z (b : List (BitVec 8)) : fnS Tryz.prog (lookG tblR2) (orcA [(2, [(2, false)]), (4, [(3, true)])]) [] 10 26 [sc (.d8 b)] =
    some (AV.tup [(false, [IV.dI (cutL [] 0 0 0)]), (false, [IV.i64 (6 : Int)])], [b.length = b.length, b.length ≤ 4000000, (!(↑b.length : Int) == (32 : Int)) = false, (dg (bv b)).length = (dg (bv b)).length, 32 = 32, Sm (bv b), Sm 7237005577332262213973186563042994240857116359379907606001950938285454250989, (!decide (bv b < 7237005577332262213973186563042994240857116359379907606001950938285454250989)) = true, 0 ≤ 0]) := by kernel_rfl
def spRBin (f : Nat → Nat → Nat) (c : Nat → Nat → List Prop) : List AV → Option (AV × List Prop)
  | [.val false [.dN a], .val false [.dN b]] => some (sc (.dN (f a b)), c a b)
  | _ => none
theorem ctRAdd4 : CtSOk Tryz.prog 40 (.fn (spRBin (fun a b => (a + b) % Lo) (fun a b => [Sm a, Sm b, Sm (a + b)]))) := FnS_of_fnS gsR2 fol fun ds r cs h hc => by
  unfold spRBin at h
  split at h
  case h_2 => simp at h
  rename_i a b
  simp only [Option.some.injEq, Prod.mk.injEq] at h
  obtain ⟨rfl, rfl⟩ := h
  exact use_run (runRAddZ a b) rfl ⟨rfl, rfl, hc.1, hc.2.1, rfl, hc.2.2.1, rfl, trivial⟩
theorem ctRMul4 : CtSOk Tryz.prog 41 (.fn (spRBin (fun a b => (a * b) % Lo) (fun a b => [Sm a, Sm b, Sm (a * b)]))) := FnS_of_fnS gsR2 fol fun ds r cs h hc => by
  unfold spRBin at h
  split at h
  case h_2 => simp at h
  rename_i a b
  simp only [Option.some.injEq, Prod.mk.injEq] at h
  obtain ⟨rfl, rfl⟩ := h
  exact use_run (runRMulZ a b) rfl ⟨rfl, rfl, hc.1, hc.2.1, rfl, hc.2.2.1, rfl, trivial⟩
def rdecV (b : List (BitVec 8)) : Nat × Int := if b.length = 32 then (if bv b < Lo then (bv b, 0) else (0, 6)) else (0, 1)
def spRTwo (f : List (BitVec 8) → Nat × Int) : List AV → Option (AV × List Prop)
  | [.val false [.d8 b]] => some (.tup [(false, [.dN (f b).1]), (false, [.i64 (f b).2])], [b.length ≤ 4000000])
  | _ => none
theorem ResOk_nil {B : Nat} {w : World} {e : Int} {v : Value} (h : ResOk B w (.tup [(false, [.dI []]), (false, [.i64 e])]) v) : ResOk B w (.tup [(false, [.dN 0]), (false, [.i64 e])]) v := by
  refine ResOk_ex ?_
  show ResOk B w (.tup [(false, [.dI (dg 0)]), (false, [.i64 e])]) v
  rw [dg_zero]
  exact h
theorem Sm_bv (b : List (BitVec 8)) (h : b.length ≤ 4000000) : Sm (bv b) := Sm_lt (bv_lt b) h
theorem ctRDec4 : CtSOk Tryz.prog 26 (.fn (spRTwo rdecV)) := FnS_intro fun ds r cs h hc w vals hv => by
  unfold spRTwo at h
  split at h
  case h_2 => simp at h
  rename_i b
  simp only [Option.some.injEq, Prod.mk.injEq] at h
  obtain ⟨rfl, rfl⟩ := h
  by_cases hb : b.length = 32
  · have hl : (!((b.length : Int) == (32 : Int))) = false := by rw [hb]; rfl
    by_cases hlt : bv b < Lo
    · rw [rdecV, if_pos hb, if_pos hlt]
      exact calls_of_fnS gsR2 fol (runRDecZ b) ⟨rfl, hc.1, hl, rfl, rfl, Sm_bv b hc.1, Sm_Lo, by rw [Bool.not_eq_false']; exact decide_eq_true hlt, rfl, trivial⟩ w vals hv
    · rw [rdecV, if_pos hb, if_neg hlt]
      refine (calls_of_fnS gsR2 fol (runRDec6Z b) ⟨rfl, hc.1, hl, rfl, rfl, Sm_bv b hc.1, Sm_Lo, by rw [Bool.not_eq_true']; exact decide_eq_false hlt, by omega, trivial⟩ w vals hv).mono ?_
      rintro e w' ⟨v, q1, q2, q3⟩
      exact ⟨v, q1, q2, ResOk_nil q3⟩
  · rw [rdecV, if_neg hb]
    refine (calls_of_fnS gsR2 fol (runRDec1Z b) ⟨rfl, hc.1, by simp; omega, by omega, trivial⟩ w vals hv).mono ?_
    rintro e w' ⟨v, q1, q2, q3⟩
    exact ⟨v, q1, q2, ResOk_nil q3⟩
/-! ### Lists -/
/-! ### A few answers -/
end Go.Proofs.YtlgiaglbdifkpaaGreatDoor
/- Signatures of the document: its functions by contract. Own work. -/
namespace Go.Proofs.YtlgiaglbdifkpaaGreatDoor
open Go.Ev Go.Sp Go.RowKit
set_option maxRecDepth 100000
theorem runJn (a b c : BL) : fnS Tryz.prog (lookG []) (orcA []) [] 20 30 [sc (.d8 a), sc (.d8 b), sc (.d8 c)] =
    some (sc (IV.d8 (cutL (a ++ b ++ c) 0 (0 + List.length a + List.length b + List.length c) (a ++ b ++ c).length)), [List.length a = List.length a, 0 = 0, (0 + List.length a) * 1 ≤ 140737488355328 ∧ 0 + List.length a ≤ 9223372036854775807, List.length b = List.length b, 0 + List.length a = List.length a, (0 + List.length a + List.length b) * 1 ≤ 140737488355328 ∧ 0 + List.length a + List.length b ≤ 9223372036854775807, List.length c = List.length c, 0 + List.length a + List.length b = (a ++ b).length, (0 + List.length a + List.length b + List.length c) * 1 ≤ 140737488355328 ∧ 0 + List.length a + List.length b + List.length c ≤ 9223372036854775807, 0 + (0 + List.length a + List.length b + List.length c) ≤ (a ++ b ++ c).length]) := by kernel_rfl
def spJn : List AV → Option (AV × List Prop)
  | [.val false [.d8 a], .val false [.d8 b], .val false [.d8 c]] => some (sc (.d8 (a ++ b ++ c)), [a.length + b.length + c.length ≤ 100000])
  | _ => none
theorem ctJn : CtSOk Tryz.prog 30 (.fn spJn) := FnS_of_fnS gs0 fol fun ds r cs h hc => by
  unfold spJn at h
  split at h
  case h_2 => simp at h
  rename_i a b c
  simp only [Option.some.injEq, Prod.mk.injEq] at h
  obtain ⟨rfl, rfl⟩ := h
  have hl := hc.1
  refine use_run (runJn a b c) (by rw [show 0 + a.length + b.length + c.length = (a ++ b ++ c).length by simp only [List.length_append]; omega, cutL_all]) ?_
  simp only [AllP, List.length_append]
  and_intros <;> first | exact True.intro | with_reducible rfl | omega
theorem ctJn8 : CtSOk Tryz.prog 30 (.fn (nil8 spJn)) := FnS_nil8 ctJn
def tblLf0 : List (FuncId × CtS) := [(51, .fn spNRead), (42, .fn spRLeft), (50, .fn spClamp)]
theorem okLf0 : TblOk Tryz.prog tblLf0 := ⟨⟨nRead, by kernel_rfl⟩, ⟨ctRLeft, by kernel_rfl⟩, ⟨ctRClamp, by kernel_rfl⟩, trivial⟩
theorem gsLf0 : GSound Tryz.prog (upG (lookG tblLf0)) := GSound_of_tbl okLf0
def tblLf (S : BL → BL) : List (FuncId × CtS) :=
  (49, .fn (spShaG S)) :: tblLf0
theorem ctShaDG : CtSOk Tryz.prog 49 (.fn (spShaG shaL)) := ctShaD
theorem gsLf : GSound Tryz.prog (upG (lookG (tblLf shaL))) := GSound_of_tbl ⟨⟨ctShaDG, by kernel_rfl⟩, okLf0⟩
theorem runLeft9 (S : BL → BL) (b : BL) : fnS Tryz.prog (lookG (tblLf S)) (orcA []) [] 20 29 [sc (.d8 b)] =
    some (sc (IV.dN (bv (S b) % Lo)), [List.length b = List.length b, List.length b ≤ 100000, List.length (S b) = List.length (S b), List.length (S b) ≤ 4000000, (dg (bv (S b))).length = (dg (bv (S b))).length, Sm (bv (S b)), (dg (bv (S b) % Lo)).length = (dg (bv (S b) % Lo)).length]) := by kernel_rfl
theorem runParts (S : BL → BL) (b : BL) : fnS Tryz.prog (lookG (tblLf S)) (orcP [] [(2, [2])]) [] 20 16 [sc (.d8 b)] =
    some (AV.tup [(false, [IV.dN (bv (clampV (cutL (S b) 0 32 (List.length (S b)))).fst)]), (false, [IV.r8 (cutL (S b) 32 (List.length (S b) - 32) (List.length (S b)))])], [List.length b = List.length b, List.length b ≤ 100000, (0 : Int) ≤ (32 : Int), 0 ≤ 32, 32 ≤ List.length (S b), 32 ≤ List.length (S b), List.length (clampV (cutL (S b) 0 32 (List.length (S b)))).fst = List.length (clampV (cutL (S b) 0 32 (List.length (S b)))).fst, List.length (clampV (cutL (S b) 0 32 (List.length (S b)))).fst ≤ 4000000, (0 : Int) ≤ (32 : Int), 32 ≤ List.length (S b), List.length (S b) ≤ List.length (S b), (dg (bv (clampV (cutL (S b) 0 32 (List.length (S b)))).fst)).length = (dg (bv (clampV (cutL (S b) 0 32 (List.length (S b)))).fst)).length, 32 + (List.length (S b) - 32) ≤ List.length (S b)]) := by kernel_rfl
def spLeftG (f : BL → Nat) : List AV → Option (AV × List Prop)
  | [.val false [.d8 b]] => some (sc (.dN (f b)), [b.length ≤ 100000])
  | _ => none
def spPartsG (N : BL → Nat) (X : BL → BL) : List AV → Option (AV × List Prop)
  | [.val false [.d8 b]] => some (.tup [(false, [.dN (N b)]), (false, [.r8 (X b)])], [b.length = 32])
  | _ => none
def spPoG (p : Nat → BL) : List AV → Option (AV × List Prop)
  | [.val false [.dN n]] => some (sc (.d8 (p n)), [Sm n])
  | _ => none
def tblPo0 : List (FuncId × CtS) := [(32, .fn spRBase), (34, .fn spRPt), (52, .fn spREnB)]
theorem okPo0 : TblOk Tryz.prog tblPo0 := ⟨⟨ctRBase, by kernel_rfl⟩, ⟨ctRPt, by kernel_rfl⟩, ⟨ctREn8, by kernel_rfl⟩, trivial⟩
theorem gsPo0 : GSound Tryz.prog (upG (lookG tblPo0)) := GSound_of_tbl okPo0
def tblPo (H : Nat → T3 → T3) : List (FuncId × CtS) :=
  (31, .fn (orD (spRTs H))) :: tblPo0
theorem gsPo : GSound Tryz.prog (upG (lookG (tblPo tsD))) := GSound_of_tbl ⟨⟨FnS_orD ctRTs, by kernel_rfl⟩, okPo0⟩
theorem runPoD (H : Nat → T3 → T3) (n : Nat) : fnS Tryz.prog (lookG (tblPo H)) (orcA []) [] 20 17 [sc (.dN n)] =
    some (sc (IV.d8 (cutL (encB (val (ofN (fMul (H n (T3.mk bxN byN 1)).x (fInv (H n (T3.mk bxN byN 1)).z)))) (val (ofN (fMul (H n (T3.mk bxN byN 1)).y (fInv (H n (T3.mk bxN byN 1)).z))))) 0 (List.length (encB (val (ofN (fMul (H n (T3.mk bxN byN 1)).x (fInv (H n (T3.mk bxN byN 1)).z)))) (val (ofN (fMul (H n (T3.mk bxN byN 1)).y (fInv (H n (T3.mk bxN byN 1)).z)))))) (List.length (encB (val (ofN (fMul (H n (T3.mk bxN byN 1)).x (fInv (H n (T3.mk bxN byN 1)).z)))) (val (ofN (fMul (H n (T3.mk bxN byN 1)).y (fInv (H n (T3.mk bxN byN 1)).z)))))))), [(dg n).length = (dg n).length, Sm n, bxN < Pp, byN < Pp, 1 < Pp, (H n (T3.mk bxN byN 1)).x < Pp, (H n (T3.mk bxN byN 1)).y < Pp, (H n (T3.mk bxN byN 1)).z < Pp, val (ofN (fMul (H n (T3.mk bxN byN 1)).y (fInv (H n (T3.mk bxN byN 1)).z))) < Pp, 0 + List.length (encB (val (ofN (fMul (H n (T3.mk bxN byN 1)).x (fInv (H n (T3.mk bxN byN 1)).z)))) (val (ofN (fMul (H n (T3.mk bxN byN 1)).y (fInv (H n (T3.mk bxN byN 1)).z))))) ≤ List.length (encB (val (ofN (fMul (H n (T3.mk bxN byN 1)).x (fInv (H n (T3.mk bxN byN 1)).z)))) (val (ofN (fMul (H n (T3.mk bxN byN 1)).y (fInv (H n (T3.mk bxN byN 1)).z)))))]) := by kernel_rfl
def tblSD0 : List (FuncId × CtS) := [(30, .fn (nil8 spJn)), (43, .fn spNTold), (32, .fn spRBase), (34, .fn spRPt)]
theorem okSD0 : TblOk Tryz.prog tblSD0 := ⟨⟨ctJn8, by kernel_rfl⟩, ⟨nTold, by kernel_rfl⟩, ⟨ctRBase, by kernel_rfl⟩, ⟨ctRPt, by kernel_rfl⟩, trivial⟩
theorem gsSD0 : GSound Tryz.prog (upG (lookG tblSD0)) := GSound_of_tbl okSD0
def spRAddG (A : Nat → Nat → Nat) : List AV → Option (AV × List Prop)
  | [.val false [.dN a], .val false [.dN b]] => some (sc (.dN (A a b)), [Sm a, Sm b, Sm (a + b)])
  | _ => none
def spRMulG (A : Nat → Nat → Nat) : List AV → Option (AV × List Prop)
  | [.val false [.dN a], .val false [.dN b]] => some (sc (.dN (A a b)), [Sm a, Sm b, Sm (a * b)])
  | _ => none
def spRUn (R : Nat → Nat) : List AV → Option (AV × List Prop)
  | [.val false [.dN d]] => some (sc (.dN (R d)), [Sm d])
  | _ => none
def tblSD (N : BL → Nat) (X : BL → BL) (p : Nat → BL) (f : BL → Nat) (A M : Nat → Nat → Nat) (R : Nat → Nat) : List (FuncId × CtS) :=
  (16, .fn (spPartsG N X)) :: (17, .fn (spPoG p)) :: (29, .fn (spLeftG f)) :: (40, .fn (spRAddG A)) :: (41, .fn (spRMulG M)) :: (42, .fn (spRUn R)) :: tblSD0
theorem runPuD (N : BL → Nat) (X : BL → BL) (p : Nat → BL) (f : BL → Nat) (A M : Nat → Nat → Nat) (R : Nat → Nat) (l : BL) : fnS Tryz.prog (lookG (tblSD N X p f A M R)) (orcA [(1, [(2, false)])]) [] 20 8 [sc (.d8 l)] =
    some (AV.tup [(false, [IV.d8 (cutL (p (N l)) 0 (List.length (p (N l))) (List.length (p (N l))))]), (false, [IV.i64 (0 : Int)])], [(!(↑(List.length l) : Int) == (32 : Int)) = false, List.length l = List.length l, List.length l = 32, (dg (N l)).length = (dg (N l)).length, Sm (N l), 0 + List.length (p (N l)) ≤ List.length (p (N l))]) := by kernel_rfl
theorem runPuD1 (N : BL → Nat) (X : BL → BL) (p : Nat → BL) (f : BL → Nat) (A M : Nat → Nat → Nat) (R : Nat → Nat) (l : BL) : fnS Tryz.prog (lookG (tblSD N X p f A M R)) (orcA [(1, [(2, true)])]) [] 20 8 [sc (.d8 l)] =
    some (AV.tup [(false, [IV.d8 (cutL [] 0 0 0)]), (false, [IV.i64 (1 : Int)])], [(!(↑(List.length l) : Int) == (32 : Int)) = true, 0 ≤ 0]) := by kernel_rfl
theorem runSgD (N : BL → Nat) (X : BL → BL) (p : Nat → BL) (f : BL → Nat) (A M : Nat → Nat → Nat) (R : Nat → Nat) (l b : BL) : fnS Tryz.prog (lookG (tblSD N X p f A M R)) (orcA [(1, [(2, false)])]) [] 20 13 [sc (.d8 l), sc (.d8 b)] =
    some (AV.tup [(false, [IV.d8 (cutL (p (f (X l ++ b ++ [])) ++ bl (A (f (X l ++ b ++ [])) (M (f (p (f (X l ++ b ++ [])) ++ p (N l) ++ b)) (R (N l)))) 32 ++ []) 0 (p (f (X l ++ b ++ [])) ++ bl (A (f (X l ++ b ++ [])) (M (f (p (f (X l ++ b ++ [])) ++ p (N l) ++ b)) (R (N l)))) 32 ++ []).length (p (f (X l ++ b ++ [])) ++ bl (A (f (X l ++ b ++ [])) (M (f (p (f (X l ++ b ++ [])) ++ p (N l) ++ b)) (R (N l)))) 32 ++ []).length)]), (false, [IV.i64 (0 : Int)])], [(!(↑(List.length l) : Int) == (32 : Int)) = false, List.length l = List.length l, List.length l = 32, List.length (X l) = List.length (X l), List.length b = List.length b, List.length (X l) + List.length b + 0 ≤ 100000, (X l ++ b ++ []).length = (X l ++ b ++ []).length, (X l ++ b ++ []).length ≤ 100000, (dg (f (X l ++ b ++ []))).length = (dg (f (X l ++ b ++ []))).length, Sm (f (X l ++ b ++ [])), (dg (N l)).length = (dg (N l)).length, Sm (N l), List.length (p (f (X l ++ b ++ []))) = List.length (p (f (X l ++ b ++ []))), List.length (p (N l)) = List.length (p (N l)), List.length b = List.length b, List.length (p (f (X l ++ b ++ []))) + List.length (p (N l)) + List.length b ≤ 100000, (p (f (X l ++ b ++ [])) ++ p (N l) ++ b).length = (p (f (X l ++ b ++ [])) ++ p (N l) ++ b).length, (p (f (X l ++ b ++ [])) ++ p (N l) ++ b).length ≤ 100000, (dg (N l)).length = (dg (N l)).length, Sm (N l), (dg (f (p (f (X l ++ b ++ [])) ++ p (N l) ++ b))).length = (dg (f (p (f (X l ++ b ++ [])) ++ p (N l) ++ b))).length, (dg (R (N l))).length = (dg (R (N l))).length, Sm (f (p (f (X l ++ b ++ [])) ++ p (N l) ++ b)), Sm (R (N l)), Sm (f (p (f (X l ++ b ++ [])) ++ p (N l) ++ b) * R (N l)), (dg (f (X l ++ b ++ []))).length = (dg (f (X l ++ b ++ []))).length, (dg (M (f (p (f (X l ++ b ++ [])) ++ p (N l) ++ b)) (R (N l)))).length = (dg (M (f (p (f (X l ++ b ++ [])) ++ p (N l) ++ b)) (R (N l)))).length, Sm (f (X l ++ b ++ [])), Sm (M (f (p (f (X l ++ b ++ [])) ++ p (N l) ++ b)) (R (N l))), Sm (f (X l ++ b ++ []) + M (f (p (f (X l ++ b ++ [])) ++ p (N l) ++ b)) (R (N l))), (dg (A (f (X l ++ b ++ [])) (M (f (p (f (X l ++ b ++ [])) ++ p (N l) ++ b)) (R (N l))))).length = (dg (A (f (X l ++ b ++ [])) (M (f (p (f (X l ++ b ++ [])) ++ p (N l) ++ b)) (R (N l))))).length, (0 : Int) ≤ (32 : Int), (32 : Int) ≤ (4000000 : Int), List.length (p (f (X l ++ b ++ []))) = List.length (p (f (X l ++ b ++ []))), (bl (A (f (X l ++ b ++ [])) (M (f (p (f (X l ++ b ++ [])) ++ p (N l) ++ b)) (R (N l)))) 32).length = (bl (A (f (X l ++ b ++ [])) (M (f (p (f (X l ++ b ++ [])) ++ p (N l) ++ b)) (R (N l)))) 32).length, List.length (p (f (X l ++ b ++ []))) + (bl (A (f (X l ++ b ++ [])) (M (f (p (f (X l ++ b ++ [])) ++ p (N l) ++ b)) (R (N l)))) 32).length + 0 ≤ 100000, 0 + (p (f (X l ++ b ++ [])) ++ bl (A (f (X l ++ b ++ [])) (M (f (p (f (X l ++ b ++ [])) ++ p (N l) ++ b)) (R (N l)))) 32 ++ []).length ≤ (p (f (X l ++ b ++ [])) ++ bl (A (f (X l ++ b ++ [])) (M (f (p (f (X l ++ b ++ [])) ++ p (N l) ++ b)) (R (N l)))) 32 ++ []).length]) := by kernel_rfl
theorem runSgD1 (N : BL → Nat) (X : BL → BL) (p : Nat → BL) (f : BL → Nat) (A M : Nat → Nat → Nat) (R : Nat → Nat) (l b : BL) : fnS Tryz.prog (lookG (tblSD N X p f A M R)) (orcA [(1, [(2, true)])]) [] 20 13 [sc (.d8 l), sc (.d8 b)] =
    some (AV.tup [(false, [IV.d8 (cutL [] 0 0 0)]), (false, [IV.i64 (1 : Int)])], [(!(↑(List.length l) : Int) == (32 : Int)) = true, 0 ≤ 0]) := by kernel_rfl
def leftN (b : BL) : Nat := bv (shaL b) % Lo
theorem Sm_sha (b : BL) : Sm (bv (shaL b)) := by
  have h := bv_lt (shaL b)
  rw [shaL_len] at h
  exact Sm_lt h (by omega)
theorem Sm_Lo' (n : Nat) : Sm (n % Lo) := Sm_lt (k := 32) (Nat.lt_trans (Nat.mod_lt _ Lo_pos) (by rw [Lo_Lp]; exact Lp_256)) (by omega)
theorem ctLeft9 : CtSOk Tryz.prog 29 (.fn (spLeftG leftN)) := FnS_of_fnS gsLf fol fun ds r cs h hc => by
  unfold spLeftG at h
  split at h
  case h_2 => simp at h
  rename_i b
  simp only [Option.some.injEq, Prod.mk.injEq] at h
  obtain ⟨rfl, rfl⟩ := h
  have hl := hc.1
  have h1 := shaL_len b
  have h2 := Sm_sha b
  refine use_run (runLeft9 shaL b) rfl ?_
  simp only [AllP]
  and_intros <;> first | exact True.intro | with_reducible assumption | with_reducible rfl | omega
theorem ctParts : CtSOk Tryz.prog 16 (.fn (spPartsG secV secX)) := FnS_of_fnS gsLf fol fun ds r cs h hc => by
  unfold spPartsG at h
  split at h
  case h_2 => simp at h
  rename_i b
  simp only [Option.some.injEq, Prod.mk.injEq] at h
  obtain ⟨rfl, rfl⟩ := h
  have hl := hc.1
  have hs := shaL_len b
  have r0 := runParts shaL b
  have e1 : cutL (shaL b) 0 32 (shaL b).length = (shaL b).take 32 := by rw [cutL_eq rfl, List.drop_zero]
  have e2 : cutL (shaL b) 32 ((shaL b).length - 32) (shaL b).length = (shaL b).drop 32 := by rw [cutL_eq rfl, List.take_of_length_le (by rw [List.length_drop]; omega)]
  have e3 : (clampV ((shaL b).take 32)).1 = clampL ((shaL b).take 32) := by rw [clampV, if_pos (take32_len b)]
  have e4 : (clampL ((shaL b).take 32)).length = 32 := by rw [clampL_len, take32_len]
  rw [e1, e2, e3] at r0
  refine use_run r0 ?_ ?_
  · clear r0
    unfold secV secX
    with_reducible rfl
  · clear r0 e1 e2 e3
    simp only [AllP]
    and_intros <;> first | exact True.intro | with_reducible rfl | omega
def dP (n : Nat) : BL := pB (Pt.times n Bp)
theorem ts_B (n : Nat) : R3 (Pt.times n Bp) (tsD n ⟨bxN, byN, 1⟩) := (R3.of bON).ts n
theorem bx_lt : bxN < Pp := by decide
theorem by_lt : byN < Pp := by decide
theorem ctPoD : CtSOk Tryz.prog 17 (.fn (spPoG dP)) := FnS_of_fnS gsPo fol fun ds r cs h hc => by
  unfold spPoG at h
  split at h
  case h_2 => simp at h
  rename_i n
  simp only [Option.some.injEq, Prod.mk.injEq] at h
  obtain ⟨rfl, rfl⟩ := h
  have hn := hc.1
  have r0 := runPoD tsD n
  have hq : (tsD n ⟨bxN, byN, 1⟩).Lt := tsD_lt _ _
  have hr := ts_B n
  generalize tsD n ⟨bxN, byN, 1⟩ = q at *
  obtain ⟨q1, q2, q3⟩ := hq
  obtain ⟨x1, x2⟩ := hr.pr q3
  rw [x1, x2, cutW] at r0
  have hy : val (prP (Pt.times n Bp)).y < Pp := by rw [val_yP]; exact (Pt.times n Bp).y.isLt
  refine use_run r0 ?_ ?_
  · clear r0
    unfold dP pB
    with_reducible rfl
  · clear r0
    have h1 := bx_lt
    have h2 := by_lt
    have h3 := one_lt
    simp only [AllP]
    and_intros <;> first | exact True.intro | with_reducible assumption | with_reducible rfl | omega
theorem gsSD : GSound Tryz.prog (upG (lookG (tblSD secV secX dP leftN (fun a b => (a + b) % Lo) (fun a b => (a * b) % Lo) (fun d => d % Lo)))) := GSound_of_tbl ⟨⟨ctParts, by kernel_rfl⟩, ⟨ctPoD, by kernel_rfl⟩, ⟨ctLeft9, by kernel_rfl⟩, ⟨ctRAdd4, by kernel_rfl⟩, ⟨ctRMul4, by kernel_rfl⟩, ⟨ctRLeft, by kernel_rfl⟩, okSD0⟩
theorem Sm_sec (l : BL) : Sm (secV l) := by
  have h := (clamp_bv _ (take32_len l)).2.2
  have h2 : secV l < 256 ^ 32 := Nat.lt_trans h (by decide)
  exact Sm_lt h2 (by omega)
theorem dP_pub {l : BL} (h : l.length = 32) : dP (secV l) = pubB l := by rw [pubB_eq h]; rfl
theorem ctPuD : CtSOk Tryz.prog 8 (.fn (spPubG pubB eL)) := FnS_of_fnS gsSD fol fun ds r cs h hc => by
  unfold spPubG at h
  split at h
  case h_2 => simp at h
  rename_i l
  simp only [Option.some.injEq, Prod.mk.injEq] at h
  obtain ⟨rfl, rfl⟩ := h
  by_cases h : l.length = 32
  · have r0 := runPuD secV secX dP leftN (fun a b => (a + b) % Lo) (fun a b => (a * b) % Lo) (fun d => d % Lo) l
    rw [cutW, dP_pub h] at r0
    rw [eL, if_pos h]
    refine use_run r0 rfl ?_
    clear r0
    have h1 := Sm_sec l
    have h2 := lcTk h
    simp only [AllP]
    and_intros <;> first | exact True.intro | with_reducible assumption | with_reducible rfl | omega
  · rw [pubB, eL, if_neg h, if_neg h]
    exact use_run (runPuD1 secV secX dP leftN (fun a b => (a + b) % Lo) (fun a b => (a * b) % Lo) (fun d => d % Lo) l) rfl ⟨lcFk h, by omega, trivial⟩
theorem leftN_val (b : BL) : leftN b = val (digN b) := by rw [digN_val, leftN, Lo_Lp]
theorem sgF_dP (l b : BL) : sgF l b = dP (leftN (secX l ++ b)) := by rw [sgF_eq, leftN_val]; rfl
theorem mod_law (r k s L : Nat) : (r + k * s) % L = (r + k * (s % L) % L) % L := by rw [Nat.mul_mod_mod, Nat.add_mod_mod]
theorem sgS_bl {l : BL} (h : l.length = 32) (b : BL) : SBY (sgS l b) = bl ((leftN (secX l ++ b) + (leftN (sgF l b ++ pubB l ++ b) * (secV l % Lo)) % Lo) % Lo) 32 := by
  have e1 : leftN (secX l ++ b) = val (sgR l b) := leftN_val _
  have e2 : leftN (sgF l b ++ pubB l ++ b) = val (sgK l b) := by rw [leftN_val, key_sgK h]
  have e3 : val (sgS l b) % Lo = (val (sgR l b) + val (sgK l b) * (secV l % Lo) % Lo) % Lo := by
    rw [sgS_val, Lo_Lp, Nat.mod_mod]
    exact mod_law _ _ _ _
  rw [SBY, e3, e1, e2]
theorem ctSgD : CtSOk Tryz.prog 13 (.fn (spSigG sgB eL)) := FnS_of_fnS gsSD fol fun ds r cs h hc => by
  unfold spSigG at h
  split at h
  case h_2 => simp at h
  rename_i l b
  simp only [Option.some.injEq, Prod.mk.injEq] at h
  obtain ⟨rfl, rfl⟩ := h
  have hb : b.length ≤ 4000 := hc.1
  by_cases h : l.length = 32
  · have r0 := runSgD secV secX dP leftN (fun a b => (a + b) % Lo) (fun a b => (a * b) % Lo) (fun d => d % Lo) l b
    have e1 : sgB l b = sgF l b ++ SBY (sgS l b) := by rw [sgB, if_pos h]
    have l1 := sgF_len l b
    have l2 : (pubB l).length = 32 := by rw [pubB_eq h, pB_len]
    have l4 := secX_len l
    have l5 := SBY_len (sgS l b)
    rw [List.append_nil, List.append_nil, cutW, dP_pub h, ← sgF_dP l b, ← sgS_bl h b, ← e1] at r0
    rw [eL, if_pos h]
    refine use_run r0 rfl ?_
    clear r0
    have s1 := Sm_sec l
    have s2 := Sm_Lo' (bv (shaL (secX l ++ b)))
    have s3 := Sm_Lo' (bv (shaL (sgF l b ++ pubB l ++ b)))
    have s4 := Sm_Lo' (secV l)
    have s5 := Sm_Lo' (leftN (sgF l b ++ pubB l ++ b) * (secV l % Lo))
    have lo1 : ∀ n, n % Lo < 256 ^ 32 := fun n => Nat.lt_trans (Nat.mod_lt _ Lo_pos) (by rw [Lo_Lp]; exact Lp_256)
    have s6 : Sm (leftN (sgF l b ++ pubB l ++ b) * (secV l % Lo)) := by
      refine Sm_lt (k := 64) ?_ (by omega)
      rw [show (256 : Nat) ^ 64 = 256 ^ 32 * 256 ^ 32 by decide]
      exact Nat.mul_lt_mul'' (lo1 _) (lo1 _)
    have s7 : Sm (leftN (secX l ++ b) + leftN (sgF l b ++ pubB l ++ b) * (secV l % Lo) % Lo) := by
      refine Sm_lt (k := 33) ?_ (by omega)
      have a1 := lo1 (bv (shaL (secX l ++ b)))
      have a2 := lo1 (leftN (sgF l b ++ pubB l ++ b) * (secV l % Lo))
      have a3 : (256 : Nat) ^ 33 = 256 * 256 ^ 32 := by decide
      unfold leftN at a2 ⊢
      generalize (256 : Nat) ^ 32 = q at *
      omega
    unfold leftN at s5 s6 s7 ⊢
    simp only [AllP, List.length_append]
    and_intros <;> first | exact True.intro | with_reducible assumption | with_reducible rfl | exact lcTk h | omega
  · rw [sgB, eL, if_neg h, if_neg h]
    exact use_run (runSgD1 secV secX dP leftN (fun a b => (a + b) % Lo) (fun a b => (a * b) % Lo) (fun d => d % Lo) l b) rfl ⟨lcFk h, by omega, trivial⟩
end Go.Proofs.YtlgiaglbdifkpaaGreatDoor
