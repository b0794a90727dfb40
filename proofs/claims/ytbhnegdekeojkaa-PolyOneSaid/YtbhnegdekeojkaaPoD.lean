/- Contracts of layer 11: the document's tag. Own work. -/
import Derived.Test.YtbhnegdekeojkaaPoC
namespace Go.Proofs.Ytbhnegdekeojkaa
open Go.Ev Go.Sp Go.RowKit
set_option maxRecDepth 100000
def tblR0 : List (FuncId × CtS) := [(20, .fn (orD spNSum)), (19, .fn spNRead), (24, .fn (orD spNTold)), (22, .fn (orD spNTimes)), (21, .fn (orD spNLeft)), (23, .fn spPrime), (9, .fn spCut)]
theorem okR0 : TblOk Try.prog tblR0 := ⟨⟨FnS_orD nSum, by kernel_rfl⟩, ⟨nRead, by kernel_rfl⟩, ⟨FnS_orD nTold, by kernel_rfl⟩, ⟨FnS_orD nTimes, by kernel_rfl⟩, ⟨FnS_orD nLeft, by kernel_rfl⟩, ⟨ctPrime, by kernel_rfl⟩, ⟨ctRCut, by kernel_rfl⟩, trivial⟩
theorem gsR0 : GSound Try.prog (upG (lookG tblR0)) := GSound_of_tbl okR0
def rgTd : List Nat := [1, 8, 9, 10, 11]
def rgInv (b : List (BitVec 8)) (r s x : Nat) (i : Int) : St := ⟨slotsOf 58 [(1, sc (.sl 0 0 b.length)), (8, sc (.sl 1 0 (dg r).length)), (9, sc (.sl 2 0 (dg s).length)), (10, sc (.sl 3 0 (dg x).length)), (11, sc (.i64 i))], [(0, ⟨false, [.v8 b.length b]⟩), (1, ⟨true, [.vd r]⟩), (2, ⟨true, [.vd s]⟩), (3, ⟨true, [.vd x]⟩)], 16⟩
def rgInv0 (b : List (BitVec 8)) (r s : Nat) : St := ⟨slotsOf 58 [(1, sc (.sl 0 0 b.length)), (8, sc (.sl 1 0 (dg r).length)), (9, sc (.sl 2 0 (dg s).length)), (10, sc (.sl 3 0 0)), (11, sc (.i64 0))], [(0, ⟨false, [.v8 b.length b]⟩), (1, ⟨true, [.vd r]⟩), (2, ⟨true, [.vd s]⟩), (3, ⟨true, [.vi 0 []]⟩)], 16⟩
theorem rgRound (b : List (BitVec 8)) (r s x : Nat) (i : Int) : roundS Try.prog (lookG tblR0) (orcP [(8, [(3, true)])] [(10, [9])]) [] 10 rgTd (bodyAt Try.prog 12 8) (rgInv b r s x i) =
    some (Ex.normal, St.mk (slotsOf 58 [(1, sc (IV.sl 0 0 b.length)), (8, sc (IV.sl 1 0 (dg r).length)), (9, sc (IV.sl 2 0 (dg s).length)), (10, sc (IV.sl 3 0 (dg ((x + bv (cutL [] 0 0 0 ++ cutL b (0 + i.toNat) ((if (↑b.length : Int) < i + (16 : Int) then (↑b.length : Int) else i + (16 : Int)).toNat - i.toNat) b.length ++ (List.replicate 1 (BitVec.ofNat 8 0)).set 0 (BitVec.ofNat 8 1))) * r % Pr)).length)), (11, sc (IV.i64 (i + (16 : Int))))]) [(0, Blk.mk false [IV.v8 b.length b]), (1, Blk.mk true [IV.vd r]), (2, Blk.mk true [IV.vd s]), (3, Blk.mk true [IV.vd ((x + bv (cutL [] 0 0 0 ++ cutL b (0 + i.toNat) ((if (↑b.length : Int) < i + (16 : Int) then (↑b.length : Int) else i + (16 : Int)).toNat - i.toNat) b.length ++ (List.replicate 1 (BitVec.ofNat 8 0)).set 0 (BitVec.ofNat 8 1))) * r % Pr)])] 16, [decide (i < (↑b.length : Int)) = true, inI64 (i + (16 : Int)), (0 : Int) ≤ i, (0 : Int) ≤ if (↑b.length : Int) < i + (16 : Int) then (↑b.length : Int) else i + (16 : Int), i.toNat ≤ (if (↑b.length : Int) < i + (16 : Int) then (↑b.length : Int) else i + (16 : Int)).toNat, (if (↑b.length : Int) < i + (16 : Int) then (↑b.length : Int) else i + (16 : Int)).toNat ≤ b.length, 0 + i.toNat + ((if (↑b.length : Int) < i + (16 : Int) then (↑b.length : Int) else i + (16 : Int)).toNat - i.toNat) ≤ b.length, 0 ≤ 0, (0 + ((if (↑b.length : Int) < i + (16 : Int) then (↑b.length : Int) else i + (16 : Int)).toNat - i.toNat)) * 1 ≤ 140737488355328 ∧ 0 + ((if (↑b.length : Int) < i + (16 : Int) then (↑b.length : Int) else i + (16 : Int)).toNat - i.toNat) ≤ 9223372036854775807, 1 = 1, 0 + ((if (↑b.length : Int) < i + (16 : Int) then (↑b.length : Int) else i + (16 : Int)).toNat - i.toNat) = (cutL [] 0 0 0 ++ cutL b (0 + i.toNat) ((if (↑b.length : Int) < i + (16 : Int) then (↑b.length : Int) else i + (16 : Int)).toNat - i.toNat) b.length).length, (0 + ((if (↑b.length : Int) < i + (16 : Int) then (↑b.length : Int) else i + (16 : Int)).toNat - i.toNat) + 1) * 1 ≤ 140737488355328 ∧ 0 + ((if (↑b.length : Int) < i + (16 : Int) then (↑b.length : Int) else i + (16 : Int)).toNat - i.toNat) + 1 ≤ 9223372036854775807, 0 + ((if (↑b.length : Int) < i + (16 : Int) then (↑b.length : Int) else i + (16 : Int)).toNat - i.toNat) + 1 = (cutL [] 0 0 0 ++ cutL b (0 + i.toNat) ((if (↑b.length : Int) < i + (16 : Int) then (↑b.length : Int) else i + (16 : Int)).toNat - i.toNat) b.length ++ (List.replicate 1 (BitVec.ofNat 8 0)).set 0 (BitVec.ofNat 8 1)).length, (cutL [] 0 0 0 ++ cutL b (0 + i.toNat) ((if (↑b.length : Int) < i + (16 : Int) then (↑b.length : Int) else i + (16 : Int)).toNat - i.toNat) b.length ++ (List.replicate 1 (BitVec.ofNat 8 0)).set 0 (BitVec.ofNat 8 1)).length ≤ 4000000, (dg x).length = (dg x).length, (dg (bv (cutL [] 0 0 0 ++ cutL b (0 + i.toNat) ((if (↑b.length : Int) < i + (16 : Int) then (↑b.length : Int) else i + (16 : Int)).toNat - i.toNat) b.length ++ (List.replicate 1 (BitVec.ofNat 8 0)).set 0 (BitVec.ofNat 8 1)))).length = (dg (bv (cutL [] 0 0 0 ++ cutL b (0 + i.toNat) ((if (↑b.length : Int) < i + (16 : Int) then (↑b.length : Int) else i + (16 : Int)).toNat - i.toNat) b.length ++ (List.replicate 1 (BitVec.ofNat 8 0)).set 0 (BitVec.ofNat 8 1)))).length, Sm x, Sm (bv (cutL [] 0 0 0 ++ cutL b (0 + i.toNat) ((if (↑b.length : Int) < i + (16 : Int) then (↑b.length : Int) else i + (16 : Int)).toNat - i.toNat) b.length ++ (List.replicate 1 (BitVec.ofNat 8 0)).set 0 (BitVec.ofNat 8 1))), (dg (x + bv (cutL [] 0 0 0 ++ cutL b (0 + i.toNat) ((if (↑b.length : Int) < i + (16 : Int) then (↑b.length : Int) else i + (16 : Int)).toNat - i.toNat) b.length ++ (List.replicate 1 (BitVec.ofNat 8 0)).set 0 (BitVec.ofNat 8 1)))).length = (dg (x + bv (cutL [] 0 0 0 ++ cutL b (0 + i.toNat) ((if (↑b.length : Int) < i + (16 : Int) then (↑b.length : Int) else i + (16 : Int)).toNat - i.toNat) b.length ++ (List.replicate 1 (BitVec.ofNat 8 0)).set 0 (BitVec.ofNat 8 1)))).length, (dg r).length = (dg r).length, Sm (x + bv (cutL [] 0 0 0 ++ cutL b (0 + i.toNat) ((if (↑b.length : Int) < i + (16 : Int) then (↑b.length : Int) else i + (16 : Int)).toNat - i.toNat) b.length ++ (List.replicate 1 (BitVec.ofNat 8 0)).set 0 (BitVec.ofNat 8 1))), Sm r, (dg ((x + bv (cutL [] 0 0 0 ++ cutL b (0 + i.toNat) ((if (↑b.length : Int) < i + (16 : Int) then (↑b.length : Int) else i + (16 : Int)).toNat - i.toNat) b.length ++ (List.replicate 1 (BitVec.ofNat 8 0)).set 0 (BitVec.ofNat 8 1))) * r)).length = (dg ((x + bv (cutL [] 0 0 0 ++ cutL b (0 + i.toNat) ((if (↑b.length : Int) < i + (16 : Int) then (↑b.length : Int) else i + (16 : Int)).toNat - i.toNat) b.length ++ (List.replicate 1 (BitVec.ofNat 8 0)).set 0 (BitVec.ofNat 8 1))) * r)).length, 17 = 17, 0 < Pr, Sm ((x + bv (cutL [] 0 0 0 ++ cutL b (0 + i.toNat) ((if (↑b.length : Int) < i + (16 : Int) then (↑b.length : Int) else i + (16 : Int)).toNat - i.toNat) b.length ++ (List.replicate 1 (BitVec.ofNat 8 0)).set 0 (BitVec.ofNat 8 1))) * r), Sm Pr, 17 ≤ 3999990, inI64 (i + (16 : Int))]) := by kernel_rfl
theorem rgRound0 (b : List (BitVec 8)) (r s : Nat) : roundS Try.prog (lookG tblR0) (orcP [(8, [(3, true)])] [(10, [9])]) [] 10 rgTd (bodyAt Try.prog 12 8) (rgInv0 b r s) =
    some (Ex.normal, St.mk (slotsOf 58 [(1, sc (IV.sl 0 0 b.length)), (8, sc (IV.sl 1 0 (dg r).length)), (9, sc (IV.sl 2 0 (dg s).length)), (10, sc (IV.sl 3 0 (dg ((0 + bv (cutL [] 0 0 0 ++ cutL b 0 ((if (↑b.length : Int) < (16 : Int) then (↑b.length : Int) else (16 : Int)).toNat - 0) b.length ++ (List.replicate 1 (BitVec.ofNat 8 0)).set 0 (BitVec.ofNat 8 1))) * r % Pr)).length)), (11, sc (IV.i64 (16 : Int)))]) [(0, Blk.mk false [IV.v8 b.length b]), (1, Blk.mk true [IV.vd r]), (2, Blk.mk true [IV.vd s]), (3, Blk.mk true [IV.vd ((0 + bv (cutL [] 0 0 0 ++ cutL b 0 ((if (↑b.length : Int) < (16 : Int) then (↑b.length : Int) else (16 : Int)).toNat - 0) b.length ++ (List.replicate 1 (BitVec.ofNat 8 0)).set 0 (BitVec.ofNat 8 1))) * r % Pr)])] 16, [decide ((0 : Int) < (↑b.length : Int)) = true, inI64 (16 : Int), (0 : Int) ≤ (0 : Int), (0 : Int) ≤ if (↑b.length : Int) < (16 : Int) then (↑b.length : Int) else (16 : Int), 0 ≤ (if (↑b.length : Int) < (16 : Int) then (↑b.length : Int) else (16 : Int)).toNat, (if (↑b.length : Int) < (16 : Int) then (↑b.length : Int) else (16 : Int)).toNat ≤ b.length, 0 + ((if (↑b.length : Int) < (16 : Int) then (↑b.length : Int) else (16 : Int)).toNat - 0) ≤ b.length, 0 ≤ 0, (0 + ((if (↑b.length : Int) < (16 : Int) then (↑b.length : Int) else (16 : Int)).toNat - 0)) * 1 ≤ 140737488355328 ∧ 0 + ((if (↑b.length : Int) < (16 : Int) then (↑b.length : Int) else (16 : Int)).toNat - 0) ≤ 9223372036854775807, 1 = 1, 0 + ((if (↑b.length : Int) < (16 : Int) then (↑b.length : Int) else (16 : Int)).toNat - 0) = (cutL [] 0 0 0 ++ cutL b 0 ((if (↑b.length : Int) < (16 : Int) then (↑b.length : Int) else (16 : Int)).toNat - 0) b.length).length, (0 + ((if (↑b.length : Int) < (16 : Int) then (↑b.length : Int) else (16 : Int)).toNat - 0) + 1) * 1 ≤ 140737488355328 ∧ 0 + ((if (↑b.length : Int) < (16 : Int) then (↑b.length : Int) else (16 : Int)).toNat - 0) + 1 ≤ 9223372036854775807, 0 + ((if (↑b.length : Int) < (16 : Int) then (↑b.length : Int) else (16 : Int)).toNat - 0) + 1 = (cutL [] 0 0 0 ++ cutL b 0 ((if (↑b.length : Int) < (16 : Int) then (↑b.length : Int) else (16 : Int)).toNat - 0) b.length ++ (List.replicate 1 (BitVec.ofNat 8 0)).set 0 (BitVec.ofNat 8 1)).length, (cutL [] 0 0 0 ++ cutL b 0 ((if (↑b.length : Int) < (16 : Int) then (↑b.length : Int) else (16 : Int)).toNat - 0) b.length ++ (List.replicate 1 (BitVec.ofNat 8 0)).set 0 (BitVec.ofNat 8 1)).length ≤ 4000000, 0 = 0, (dg (bv (cutL [] 0 0 0 ++ cutL b 0 ((if (↑b.length : Int) < (16 : Int) then (↑b.length : Int) else (16 : Int)).toNat - 0) b.length ++ (List.replicate 1 (BitVec.ofNat 8 0)).set 0 (BitVec.ofNat 8 1)))).length = (dg (bv (cutL [] 0 0 0 ++ cutL b 0 ((if (↑b.length : Int) < (16 : Int) then (↑b.length : Int) else (16 : Int)).toNat - 0) b.length ++ (List.replicate 1 (BitVec.ofNat 8 0)).set 0 (BitVec.ofNat 8 1)))).length, Sm 0, Sm (bv (cutL [] 0 0 0 ++ cutL b 0 ((if (↑b.length : Int) < (16 : Int) then (↑b.length : Int) else (16 : Int)).toNat - 0) b.length ++ (List.replicate 1 (BitVec.ofNat 8 0)).set 0 (BitVec.ofNat 8 1))), [] = dg 0, (dg (0 + bv (cutL [] 0 0 0 ++ cutL b 0 ((if (↑b.length : Int) < (16 : Int) then (↑b.length : Int) else (16 : Int)).toNat - 0) b.length ++ (List.replicate 1 (BitVec.ofNat 8 0)).set 0 (BitVec.ofNat 8 1)))).length = (dg (0 + bv (cutL [] 0 0 0 ++ cutL b 0 ((if (↑b.length : Int) < (16 : Int) then (↑b.length : Int) else (16 : Int)).toNat - 0) b.length ++ (List.replicate 1 (BitVec.ofNat 8 0)).set 0 (BitVec.ofNat 8 1)))).length, (dg r).length = (dg r).length, Sm (0 + bv (cutL [] 0 0 0 ++ cutL b 0 ((if (↑b.length : Int) < (16 : Int) then (↑b.length : Int) else (16 : Int)).toNat - 0) b.length ++ (List.replicate 1 (BitVec.ofNat 8 0)).set 0 (BitVec.ofNat 8 1))), Sm r, (dg ((0 + bv (cutL [] 0 0 0 ++ cutL b 0 ((if (↑b.length : Int) < (16 : Int) then (↑b.length : Int) else (16 : Int)).toNat - 0) b.length ++ (List.replicate 1 (BitVec.ofNat 8 0)).set 0 (BitVec.ofNat 8 1))) * r)).length = (dg ((0 + bv (cutL [] 0 0 0 ++ cutL b 0 ((if (↑b.length : Int) < (16 : Int) then (↑b.length : Int) else (16 : Int)).toNat - 0) b.length ++ (List.replicate 1 (BitVec.ofNat 8 0)).set 0 (BitVec.ofNat 8 1))) * r)).length, 17 = 17, 0 < Pr, Sm ((0 + bv (cutL [] 0 0 0 ++ cutL b 0 ((if (↑b.length : Int) < (16 : Int) then (↑b.length : Int) else (16 : Int)).toNat - 0) b.length ++ (List.replicate 1 (BitVec.ofNat 8 0)).set 0 (BitVec.ofNat 8 1))) * r), Sm Pr, 17 ≤ 3999990, inI64 (16 : Int)]) := by kernel_rfl
theorem rgExit (b : List (BitVec 8)) (r s x : Nat) (i : Int) : roundS Try.prog (lookG tblR0) (orcP [(8, [(3, false)])] [(10, [9])]) [] 10 rgTd (bodyAt Try.prog 12 8) (rgInv b r s x i) =
    some (Ex.exit 0, St.mk (slotsOf 58 [(1, sc (IV.sl 0 0 b.length)), (8, sc (IV.sl 1 0 (dg r).length)), (9, sc (IV.sl 2 0 (dg s).length)), (10, sc (IV.sl 3 0 (dg x).length)), (11, sc (IV.i64 i))]) [(0, Blk.mk false [IV.v8 b.length b]), (1, Blk.mk true [IV.vd r]), (2, Blk.mk true [IV.vd s]), (3, Blk.mk true [IV.vd x])] 16, [decide (i < (↑b.length : Int)) = false]) := by kernel_rfl
theorem runRTag (k b : List (BitVec 8)) (r s x : Nat) (i : Int) : fnS Try.prog (lookG tblR0) (orcP [(1, [(2, false)])] [(3, [2]), (5, [2])]) [⟨8, rgTd, .exit 0, rgInv b r s x i⟩] 10 12 [sc (.d8 k), sc (.d8 b)] =
    some (AV.tup [(false, [IV.d8 (cutL (bl (x + s) 16) 0 (bl (x + s) 16).length (bl (x + s) 16).length)]), (false, [IV.i64 (0 : Int)])], [(!(↑k.length : Int) == (32 : Int)) = false, (0 : Int) ≤ (16 : Int), 0 ≤ 16, 16 ≤ k.length, 16 ≤ k.length, (cutV (cutL k 0 16 k.length)).fst.length = (cutV (cutL k 0 16 k.length)).fst.length, (cutV (cutL k 0 16 k.length)).fst.length ≤ 4000000, (0 : Int) ≤ (16 : Int), 16 ≤ k.length, k.length ≤ k.length, 16 + (k.length - 16) ≤ k.length, (cutL k 16 (k.length - 16) k.length).length ≤ 4000000, LoopTo Try.prog (bodyAt Try.prog 12 8) (St.mk (slotsOf 58 [(1, sc (IV.sl 0 0 b.length)), (8, sc (IV.sl 1 0 (dg (bv (cutV (cutL k 0 16 k.length)).fst)).length)), (9, sc (IV.sl 2 0 (dg (bv (cutL k 16 (k.length - 16) k.length))).length)), (10, sc (IV.sl 3 0 0)), (11, sc (IV.i64 (0 : Int)))]) [(0, Blk.mk false [IV.v8 b.length b]), (1, Blk.mk true [IV.vd (bv (cutV (cutL k 0 16 k.length)).fst)]), (2, Blk.mk true [IV.vd (bv (cutL k 16 (k.length - 16) k.length))]), (3, Blk.mk true [IV.vi 0 []])] 16) (Ex.exit 0) (St.mk (slotsOf 58 [(1, sc (IV.sl 0 0 b.length)), (8, sc (IV.sl 1 0 (dg r).length)), (9, sc (IV.sl 2 0 (dg s).length)), (10, sc (IV.sl 3 0 (dg x).length)), (11, sc (IV.i64 i))]) [(0, Blk.mk false [IV.v8 b.length b]), (1, Blk.mk true [IV.vd r]), (2, Blk.mk true [IV.vd s]), (3, Blk.mk true [IV.vd x])] 16), (dg x).length = (dg x).length, (dg s).length = (dg s).length, Sm x, Sm s, (dg (x + s)).length = (dg (x + s)).length, (0 : Int) ≤ (16 : Int), (16 : Int) ≤ (4000000 : Int), 0 + (bl (x + s) 16).length ≤ (bl (x + s) 16).length]) := by kernel_rfl
theorem runRTag0 (k b : List (BitVec 8)) : fnS Try.prog (lookG tblR0) (orcP [(1, [(2, false)]), (8, [(3, false)])] [(3, [2]), (5, [2])]) [] 10 12 [sc (.d8 k), sc (.d8 b)] =
    some (AV.tup [(false, [IV.d8 (cutL (bl (0 + bv (cutL k 16 (k.length - 16) k.length)) 16) 0 (bl (0 + bv (cutL k 16 (k.length - 16) k.length)) 16).length (bl (0 + bv (cutL k 16 (k.length - 16) k.length)) 16).length)]), (false, [IV.i64 (0 : Int)])], [(!(↑k.length : Int) == (32 : Int)) = false, (0 : Int) ≤ (16 : Int), 0 ≤ 16, 16 ≤ k.length, 16 ≤ k.length, (cutV (cutL k 0 16 k.length)).fst.length = (cutV (cutL k 0 16 k.length)).fst.length, (cutV (cutL k 0 16 k.length)).fst.length ≤ 4000000, (0 : Int) ≤ (16 : Int), 16 ≤ k.length, k.length ≤ k.length, 16 + (k.length - 16) ≤ k.length, (cutL k 16 (k.length - 16) k.length).length ≤ 4000000, decide ((0 : Int) < (↑b.length : Int)) = false, 0 = 0, (dg (bv (cutL k 16 (k.length - 16) k.length))).length = (dg (bv (cutL k 16 (k.length - 16) k.length))).length, Sm 0, Sm (bv (cutL k 16 (k.length - 16) k.length)), [] = dg 0, (dg (0 + bv (cutL k 16 (k.length - 16) k.length))).length = (dg (0 + bv (cutL k 16 (k.length - 16) k.length))).length, (0 : Int) ≤ (16 : Int), (16 : Int) ≤ (4000000 : Int), 0 + (bl (0 + bv (cutL k 16 (k.length - 16) k.length)) 16).length ≤ (bl (0 + bv (cutL k 16 (k.length - 16) k.length)) 16).length]) := by kernel_rfl
theorem runRTag1 (k b : List (BitVec 8)) : fnS Try.prog (lookG tblR0) (orcA [(1, [(2, true)])]) [] 10 12 [sc (.d8 k), sc (.d8 b)] =
    some (AV.tup [(false, [IV.d8 (cutL [] 0 0 0)]), (false, [IV.i64 (1 : Int)])], [(!(↑k.length : Int) == (32 : Int)) = true, 0 ≤ 0]) := by kernel_rfl
theorem blk_cut0 (b : List (BitVec 8)) : cutL [] 0 0 0 ++ cutL b 0 ((if (b.length : Int) < (16 : Int) then (b.length : Int) else (16 : Int)).toNat - 0) b.length ++ (List.replicate 1 (BitVec.ofNat 8 0)).set 0 (BitVec.ofNat 8 1) = blkL b 0 := by
  unfold blkL
  have e : (cutL [] 0 0 0 : List (BitVec 8)) = [] := rfl
  have e1 : (List.replicate 1 (BitVec.ofNat 8 0)).set 0 (BitVec.ofNat 8 1) = [1#8] := rfl
  rw [e, e1, List.nil_append]
  congr 1
  rw [cutL_eq rfl, Nat.mul_zero, List.take_eq_take_iff, List.length_drop]
  split <;> omega
theorem p100 : (256 : Nat) ^ 100 = 6668014432879854274079851790721257797144758322315908160396257811764037237817632071521432200871554290742929910593433240445888801654119365080363356052330830046095157579514014558463078285911814024728965016135886601981690748037476461291163877376 := by decide
theorem Sm_big {a : Nat} (h : a < 115792089237316195423570985008687907853269984665640564039457584007913129639936) : Sm a := Sm_lt (k := 32) (by rw [show (256 : Nat) ^ 32 = 115792089237316195423570985008687907853269984665640564039457584007913129639936 by decide]; exact h) (by omega)
theorem blk_len (b : List (BitVec 8)) (j : Nat) : (blkL b j).length = ((b.drop (16 * j)).take 16).length + 1 := by unfold blkL; simp
theorem blk_len0 (b : List (BitVec 8)) (j : Nat) (h : 16 * j < b.length) : (blkL b j).length = (if b.length < 16 * j + 16 then b.length else 16 * j + 16) - 16 * j + 1 := by rw [blk_len, List.length_take, List.length_drop]; split <;> omega
theorem cut_len (b : List (BitVec 8)) (j : Nat) (h : 16 * j < b.length) : (cutL [] 0 0 0 ++ cutL b (0 + ((16 * j : Nat) : Int).toNat) ((if (b.length : Int) < ((16 * j : Nat) : Int) + (16 : Int) then (b.length : Int) else ((16 * j : Nat) : Int) + (16 : Int)).toNat - ((16 * j : Nat) : Int).toNat) b.length).length = (if b.length < 16 * j + 16 then b.length else 16 * j + 16) - 16 * j := by
  rw [show (cutL [] 0 0 0 : List (BitVec 8)) = [] from rfl, List.nil_append, cutL_eq rfl, List.length_take, List.length_drop]
  split <;> split <;> omega
theorem cut_len0 (b : List (BitVec 8)) : (cutL [] 0 0 0 ++ cutL b 0 ((if (b.length : Int) < (16 : Int) then (b.length : Int) else (16 : Int)).toNat - 0) b.length).length = (if b.length < 16 then b.length else 16) := by
  rw [show (cutL [] 0 0 0 : List (BitVec 8)) = [] from rfl, List.nil_append, cutL_eq rfl, List.length_take, List.length_drop]
  split <;> split <;> omega
def rgSt (b : List (BitVec 8)) (r s j : Nat) : St := rgInv b r s (polyX r b j) ((16 * j : Nat) : Int)
theorem poly_sm {x r : Nat} (hx : x < Pr) (hr : r < 340282366920938463463374607431768211456) (b : List (BitVec 8)) (j : Nat) : Sm x ∧ Sm (blkN b j) ∧ Sm (x + blkN b j) ∧ Sm r ∧ Sm ((x + blkN b j) * r) := by
  have hb := blkN_lt b j
  unfold Pr at hx
  have hs : x + blkN b j < 2041694201525630780780247644590609268731 := by omega
  refine ⟨Sm_big (by omega), Sm_big (by omega), Sm_big (by omega), Sm_big (by omega), Sm_lt (k := 40) (Nat.lt_of_lt_of_le (Nat.mul_lt_mul'' hs hr) (by decide)) (by omega)⟩
theorem Sm_Pr : Sm Pr := Sm_big (by decide)
theorem len_Pr : (dg Pr).length ≤ 3999990 := Nat.le_trans (dg_length_le (k := 40) (by decide)) (by omega)
def rgF (b : List (BitVec 8)) (r s : Nat) : Option Nat → St
  | none => rgInv0 b r s
  | some j => rgSt b r s j
theorem rgLoop (b : List (BitVec 8)) (r s : Nat) (hr : r < 340282366920938463463374607431768211456) (hb : b.length ≤ 4000000) (h0 : 0 < b.length) : LoopTo Try.prog (bodyAt Try.prog 12 8) (rgInv0 b r s) (.exit 0) (rgSt b r s (nBlk b)) := by
  have p0 := Pr_pos
  have sp := Sm_Pr
  have lp := len_Pr
  refine LoopTo.intro (α := Option Nat) gsR0 fol (rgF b r s) (fun a => a.getD 0 ≤ nBlk b) (fun | none => nBlk b + 1 | some j => nBlk b - j) (by simp) ?_ none (by simp)
  intro a ha
  cases a with
  | none =>
    obtain ⟨s1, s2, s3, s4, s5⟩ := poly_sm (show 0 < Pr from p0) hr b 0
    have r0 := rgRound0 b r s
    have cl := cut_len0 b
    generalize hcc : cutL [] 0 0 0 ++ cutL b 0 ((if (b.length : Int) < (16 : Int) then (b.length : Int) else (16 : Int)).toNat - 0) b.length = cc at r0 cl
    have hblk : cc ++ (List.replicate 1 (BitVec.ofNat 8 0)).set 0 (BitVec.ofNat 8 1) = blkL b 0 := by rw [← hcc]; exact blk_cut0 b
    rw [hblk] at r0
    have bln := blk_len0 b 0 h0
    have ln : (bv (blkL b 0)) = blkN b 0 := rfl
    rw [ln] at r0
    have hp : (0 + blkN b 0) * r % Pr = polyX r b 1 := rfl
    refine .inl ⟨_, _, _, _, _, some 1, r0, ?_, by simp [nBlk]; omega, by simp; omega⟩
    clear r0 hp
    generalize blkN b 0 = y at *
    have li : (if (b.length : Int) < (16 : Int) then (b.length : Int) else (16 : Int)) = (((if b.length < 16 then b.length else 16) : Nat) : Int) := by split <;> split <;> omega
    simp only [Nat.mul_zero, Nat.zero_add, Nat.sub_zero] at bln cl s3 s5
    simp only [li, Int.toNat_natCast, cl, bln, Nat.zero_add, Nat.sub_zero]
    have l2 : (if b.length < 16 then b.length else 16) ≤ b.length := by split <;> omega
    have l3 : (if b.length < 16 then b.length else 16) ≤ 16 := by split <;> omega
    generalize (if b.length < 16 then b.length else 16) = e at *
    have d0 : ([] : List Int) = dg 0 := by rw [dg]; simp
    simp only [AllP, inI64, decide_eq_true_eq]
    and_intros <;> first | with_reducible assumption | exact True.intro | rfl | omega
  | some j =>
    have hj : j ≤ nBlk b := ha
    unfold nBlk at *
    by_cases he : j = (b.length + 15) / 16
    · subst he
      exact .inr ⟨_, _, _, _, _, rgExit b r s _ _, ⟨decide_eq_false (by omega), trivial⟩⟩
    · have hlt : 16 * j < b.length := by omega
      obtain ⟨s1, s2, s3, s4, s5⟩ := poly_sm (polyX_lt r b j) hr b j
      have r0 := rgRound b r s (polyX r b j) ((16 * j : Nat) : Int)
      have cl := cut_len b j hlt
      generalize hcc : cutL [] 0 0 0 ++ cutL b (0 + ((16 * j : Nat) : Int).toNat) ((if (b.length : Int) < ((16 * j : Nat) : Int) + (16 : Int) then (b.length : Int) else ((16 * j : Nat) : Int) + (16 : Int)).toNat - ((16 * j : Nat) : Int).toNat) b.length = cc at r0 cl
      have hblk : cc ++ (List.replicate 1 (BitVec.ofNat 8 0)).set 0 (BitVec.ofNat 8 1) = blkL b j := by rw [← hcc]; exact blk_cut b j hlt
      rw [hblk] at r0
      have bln := blk_len0 b j hlt
      have ei : ((16 * j : Nat) : Int) + 16 = ((16 * (j + 1) : Nat) : Int) := by omega
      simp only [ei] at r0
      have ln : (bv (blkL b j)) = blkN b j := rfl
      rw [ln] at r0
      refine .inl ⟨_, _, _, _, _, some (j + 1), r0, ?_, by simp; omega, by simp; omega⟩
      clear r0
      generalize blkN b j = y at *
      generalize polyX r b j = x at *
      have li : (if (b.length : Int) < ((16 * (j + 1) : Nat) : Int) then (b.length : Int) else ((16 * (j + 1) : Nat) : Int)) = (((if b.length < 16 * j + 16 then b.length else 16 * j + 16) : Nat) : Int) := by split <;> split <;> omega
      simp only [li, Int.toNat_natCast, cl, bln]
      have l2 : (if b.length < 16 * j + 16 then b.length else 16 * j + 16) ≤ b.length := by split <;> omega
      have l3 : (if b.length < 16 * j + 16 then b.length else 16 * j + 16) ≤ 16 * j + 16 := by split <;> omega
      have l4 : 16 * j ≤ (if b.length < 16 * j + 16 then b.length else 16 * j + 16) := by split <;> omega
      generalize (if b.length < 16 * j + 16 then b.length else 16 * j + 16) = e at *
      simp only [AllP, inI64, decide_eq_true_eq]
      and_intros <;> first | with_reducible assumption | exact True.intro | rfl | omega
theorem cut_lt (k : List (BitVec 8)) (h : k.length = 16) : bv (cutV k).1 < 21267647932558653966460912964485513216 := by
  obtain ⟨x0, x1, x2, x3, x4, x5, x6, x7, x8, x9, x10, x11, x12, x13, x14, x15, rfl⟩ := list16 h
  have e : (cutV [x0, x1, x2, x3, x4, x5, x6, x7, x8, x9, x10, x11, x12, x13, x14, x15]).1 = List.zipWith (fun x m => x &&& m) [x0, x1, x2, x3, x4, x5, x6, x7, x8, x9, x10, x11, x12, x13, x14] [255#8, 255#8, 255#8, 15#8, 252#8, 255#8, 255#8, 15#8, 252#8, 255#8, 255#8, 15#8, 252#8, 255#8, 255#8] ++ [x15 &&& 15#8] := by
    unfold cutV; rw [if_pos (by rfl)]; rfl
  have h15 : (x15 &&& 15#8).toNat < 16 := (by decide +kernel : ∀ x : BitVec 8, (x &&& 15#8).toNat < 16) x15
  have hl : (List.zipWith (fun x m => x &&& m) [x0, x1, x2, x3, x4, x5, x6, x7, x8, x9, x10, x11, x12, x13, x14] [255#8, 255#8, 255#8, 15#8, 252#8, 255#8, 255#8, 15#8, 252#8, 255#8, 255#8, 15#8, 252#8, 255#8, 255#8]).length = 15 := rfl
  rw [e, bv_append]
  have hb := bv_lt (List.zipWith (fun x m => x &&& m) [x0, x1, x2, x3, x4, x5, x6, x7, x8, x9, x10, x11, x12, x13, x14] [255#8, 255#8, 255#8, 15#8, 252#8, 255#8, 255#8, 15#8, 252#8, 255#8, 255#8, 15#8, 252#8, 255#8, 255#8])
  rw [hl] at hb ⊢
  have e2 : bv [x15 &&& 15#8] = (x15 &&& 15#8).toNat := by show (x15 &&& 15#8).toNat + 256 * 0 = _; omega
  rw [e2]
  have e3 : (256 : Nat) ^ 15 = 1329227995784915872903807060280344576 := by decide
  rw [e3] at hb ⊢
  omega
theorem cutV_len (k : List (BitVec 8)) (h : k.length = 16) : (cutV k).1.length = 16 := by
  unfold cutV; rw [if_pos h]; simp [h, cutM]
/-- The tag. -/
def tagR (k : List (BitVec 8)) : Nat := bv (cutV (k.take 16)).1
def tagS (k : List (BitVec 8)) : Nat := bv (k.drop 16)
def tagV (k b : List (BitVec 8)) : List (BitVec 8) × Int := if k.length = 32 then (bl (polyX (tagR k) b (nBlk b) + tagS k) 16, 0) else ([], 1)
def spTag : List AV → Option (AV × List Prop)
  | [.val false [.d8 k], .val false [.d8 b]] => some (.tup [(false, [.d8 (tagV k b).1]), (false, [.i64 (tagV k b).2])], [b.length ≤ 4000])
  | _ => none
theorem tagR_lt (k : List (BitVec 8)) (h : k.length = 32) : tagR k < 21267647932558653966460912964485513216 := cut_lt _ (by simp [h])
theorem tagS_lt (k : List (BitVec 8)) (h : k.length = 32) : tagS k < 340282366920938463463374607431768211456 := by
  have := bv_lt (k.drop 16)
  rw [List.length_drop, h] at this
  exact this
theorem cut16 (k : List (BitVec 8)) : cutL k 0 16 k.length = k.take 16 := by rw [cutL_eq rfl]; rfl
theorem cut32 (k : List (BitVec 8)) (h : k.length = 32) : cutL k 16 (k.length - 16) k.length = k.drop 16 := by rw [cutL_eq rfl, h, List.take_of_length_le]; simp [h]
theorem cutAll {α : Type} (l : List α) (n : Nat) (h : n = l.length) : cutL l 0 n l.length = l := by rw [cutL_eq rfl, h]; simp
theorem ctRTag : CtSOk Try.prog 12 (.fn spTag) := FnS_of_fnS gsR0 fol fun ds r cs h hc => by
  unfold spTag at h
  split at h
  case h_2 => simp at h
  rename_i k b
  simp only [Option.some.injEq, Prod.mk.injEq] at h
  obtain ⟨rfl, rfl⟩ := h
  have hb := hc.1
  by_cases hk : k.length = 32
  · have hR := tagR_lt k hk
    have hS := tagS_lt k hk
    have c1 := cut16 k
    have c2 := cut32 k hk
    have ct := cutV_len (k.take 16) (by simp [hk])
    have l2 : (k.drop 16).length = 16 := by simp [hk]
    have sS : Sm (tagS k) := Sm_big (by omega)
    have s0 : Sm 0 := Sm_big (by omega)
    have d0 : ([] : List Int) = dg 0 := by rw [dg]; simp
    have eR : bv (cutV (k.take 16)).1 = tagR k := rfl
    have eS : bv (k.drop 16) = tagS k := rfl
    by_cases h0 : b.length = 0
    · have n0 : nBlk b = 0 := by unfold nBlk; omega
      have r0 := runRTag0 k b
      rw [c1, c2, eS] at r0
      refine use_run r0 ?_ ?_
      · rw [cutAll _ _ rfl, tagV, if_pos hk, n0]; rfl
      · simp only [AllP, bl_length, ct, l2]
        simp only [hk]
        and_intros <;> first | with_reducible assumption | exact True.intro | rfl | omega | exact decide_eq_false (by omega)
    · have r0 := runRTag k b (tagR k) (tagS k) (polyX (tagR k) b (nBlk b)) ((16 * nBlk b : Nat) : Int)
      rw [c1, c2, eR, eS] at r0
      have lp := rgLoop b (tagR k) (tagS k) (by omega) (by omega) (by omega)
      have sx : Sm (polyX (tagR k) b (nBlk b)) := Sm_big (by have := polyX_lt (tagR k) b (nBlk b); unfold Pr at this; omega)
      refine use_run r0 ?_ ?_
      · rw [cutAll _ _ rfl, tagV, if_pos hk]
      · simp only [AllP, bl_length, ct, l2]
        simp only [hk]
        and_intros <;> first | with_reducible assumption | exact True.intro | rfl | exact lp | omega
  · refine use_run (runRTag1 k b) (by rw [tagV, if_neg hk]; rfl) ⟨?_, by omega, trivial⟩
    simp only [Bool.not_eq_true', beq_eq_false_iff_ne, ne_eq]
    omega
end Go.Proofs.Ytbhnegdekeojkaa
