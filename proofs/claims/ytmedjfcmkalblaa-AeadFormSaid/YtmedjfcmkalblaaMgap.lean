/- Texts put together: PoD PoE EvV AeA AeB AeC TsA TsB EvU TsC. Own work. -/
import Derived.Test.YtmedjfcmkalblaaMgao
import Derived.Test.YtmedjfcmkalblaaChecked
/- Contracts of layer 11: the document's tag. Own work. -/
namespace Go.Proofs.Ytmedjfcmkalblaa
open Go.Ev Go.Sp Go.RowKit
set_option maxRecDepth 100000
def tblR0 : List (FuncId × CtS) := [(37, .fn (orD spNSum)), (36, .fn spNRead), (41, .fn (orD spNTold)), (39, .fn (orD spNTimes)), (38, .fn (orD spNLeft)), (40, .fn spPrime), (35, .fn spCut)]
theorem okR0 : TblOk Try.prog tblR0 := ⟨⟨FnS_orD nSum, by kernel_rfl⟩, ⟨nRead, by kernel_rfl⟩, ⟨FnS_orD nTold, by kernel_rfl⟩, ⟨FnS_orD nTimes, by kernel_rfl⟩, ⟨FnS_orD nLeft, by kernel_rfl⟩, ⟨ctPrime, by kernel_rfl⟩, ⟨ctRCut, by kernel_rfl⟩, trivial⟩
theorem gsR0 : GSound Try.prog (upG (lookG tblR0)) := GSound_of_tbl okR0
def rgTd : List Nat := [1, 8, 9, 10, 11]
def rgInv (b : List (BitVec 8)) (r s x : Nat) (i : Int) : St := ⟨slotsOf 58 [(1, sc (.sl 0 0 b.length)), (8, sc (.sl 1 0 (dg r).length)), (9, sc (.sl 2 0 (dg s).length)), (10, sc (.sl 3 0 (dg x).length)), (11, sc (.i64 i))], [(0, ⟨false, [.v8 b.length b]⟩), (1, ⟨true, [.vd r]⟩), (2, ⟨true, [.vd s]⟩), (3, ⟨true, [.vd x]⟩)], 16⟩
def rgInv0 (b : List (BitVec 8)) (r s : Nat) : St := ⟨slotsOf 58 [(1, sc (.sl 0 0 b.length)), (8, sc (.sl 1 0 (dg r).length)), (9, sc (.sl 2 0 (dg s).length)), (10, sc (.sl 3 0 0)), (11, sc (.i64 0))], [(0, ⟨false, [.v8 b.length b]⟩), (1, ⟨true, [.vd r]⟩), (2, ⟨true, [.vd s]⟩), (3, ⟨true, [.vi 0 []]⟩)], 16⟩
theorem rgRound (b : List (BitVec 8)) (r s x : Nat) (i : Int) : roundS Try.prog (lookG tblR0) (orcP [(8, [(3, true)])] [(10, [9])]) [] 10 rgTd (bodyAt Try.prog 23 8) (rgInv b r s x i) =
    some (Ex.normal, St.mk (slotsOf 58 [(1, sc (IV.sl 0 0 b.length)), (8, sc (IV.sl 1 0 (dg r).length)), (9, sc (IV.sl 2 0 (dg s).length)), (10, sc (IV.sl 3 0 (dg ((x + bv (cutL [] 0 0 0 ++ cutL b (0 + i.toNat) ((if (↑b.length : Int) < i + (16 : Int) then (↑b.length : Int) else i + (16 : Int)).toNat - i.toNat) b.length ++ (List.replicate 1 (BitVec.ofNat 8 0)).set 0 (BitVec.ofNat 8 1))) * r % Pr)).length)), (11, sc (IV.i64 (i + (16 : Int))))]) [(0, Blk.mk false [IV.v8 b.length b]), (1, Blk.mk true [IV.vd r]), (2, Blk.mk true [IV.vd s]), (3, Blk.mk true [IV.vd ((x + bv (cutL [] 0 0 0 ++ cutL b (0 + i.toNat) ((if (↑b.length : Int) < i + (16 : Int) then (↑b.length : Int) else i + (16 : Int)).toNat - i.toNat) b.length ++ (List.replicate 1 (BitVec.ofNat 8 0)).set 0 (BitVec.ofNat 8 1))) * r % Pr)])] 16, [decide (i < (↑b.length : Int)) = true, inI64 (i + (16 : Int)), (0 : Int) ≤ i, (0 : Int) ≤ if (↑b.length : Int) < i + (16 : Int) then (↑b.length : Int) else i + (16 : Int), i.toNat ≤ (if (↑b.length : Int) < i + (16 : Int) then (↑b.length : Int) else i + (16 : Int)).toNat, (if (↑b.length : Int) < i + (16 : Int) then (↑b.length : Int) else i + (16 : Int)).toNat ≤ b.length, 0 + i.toNat + ((if (↑b.length : Int) < i + (16 : Int) then (↑b.length : Int) else i + (16 : Int)).toNat - i.toNat) ≤ b.length, 0 ≤ 0, (0 + ((if (↑b.length : Int) < i + (16 : Int) then (↑b.length : Int) else i + (16 : Int)).toNat - i.toNat)) * 1 ≤ 140737488355328 ∧ 0 + ((if (↑b.length : Int) < i + (16 : Int) then (↑b.length : Int) else i + (16 : Int)).toNat - i.toNat) ≤ 9223372036854775807, 1 = 1, 0 + ((if (↑b.length : Int) < i + (16 : Int) then (↑b.length : Int) else i + (16 : Int)).toNat - i.toNat) = (cutL [] 0 0 0 ++ cutL b (0 + i.toNat) ((if (↑b.length : Int) < i + (16 : Int) then (↑b.length : Int) else i + (16 : Int)).toNat - i.toNat) b.length).length, (0 + ((if (↑b.length : Int) < i + (16 : Int) then (↑b.length : Int) else i + (16 : Int)).toNat - i.toNat) + 1) * 1 ≤ 140737488355328 ∧ 0 + ((if (↑b.length : Int) < i + (16 : Int) then (↑b.length : Int) else i + (16 : Int)).toNat - i.toNat) + 1 ≤ 9223372036854775807, 0 + ((if (↑b.length : Int) < i + (16 : Int) then (↑b.length : Int) else i + (16 : Int)).toNat - i.toNat) + 1 = (cutL [] 0 0 0 ++ cutL b (0 + i.toNat) ((if (↑b.length : Int) < i + (16 : Int) then (↑b.length : Int) else i + (16 : Int)).toNat - i.toNat) b.length ++ (List.replicate 1 (BitVec.ofNat 8 0)).set 0 (BitVec.ofNat 8 1)).length, (cutL [] 0 0 0 ++ cutL b (0 + i.toNat) ((if (↑b.length : Int) < i + (16 : Int) then (↑b.length : Int) else i + (16 : Int)).toNat - i.toNat) b.length ++ (List.replicate 1 (BitVec.ofNat 8 0)).set 0 (BitVec.ofNat 8 1)).length ≤ 4000000, (dg x).length = (dg x).length, (dg (bv (cutL [] 0 0 0 ++ cutL b (0 + i.toNat) ((if (↑b.length : Int) < i + (16 : Int) then (↑b.length : Int) else i + (16 : Int)).toNat - i.toNat) b.length ++ (List.replicate 1 (BitVec.ofNat 8 0)).set 0 (BitVec.ofNat 8 1)))).length = (dg (bv (cutL [] 0 0 0 ++ cutL b (0 + i.toNat) ((if (↑b.length : Int) < i + (16 : Int) then (↑b.length : Int) else i + (16 : Int)).toNat - i.toNat) b.length ++ (List.replicate 1 (BitVec.ofNat 8 0)).set 0 (BitVec.ofNat 8 1)))).length, Sm x, Sm (bv (cutL [] 0 0 0 ++ cutL b (0 + i.toNat) ((if (↑b.length : Int) < i + (16 : Int) then (↑b.length : Int) else i + (16 : Int)).toNat - i.toNat) b.length ++ (List.replicate 1 (BitVec.ofNat 8 0)).set 0 (BitVec.ofNat 8 1))), (dg (x + bv (cutL [] 0 0 0 ++ cutL b (0 + i.toNat) ((if (↑b.length : Int) < i + (16 : Int) then (↑b.length : Int) else i + (16 : Int)).toNat - i.toNat) b.length ++ (List.replicate 1 (BitVec.ofNat 8 0)).set 0 (BitVec.ofNat 8 1)))).length = (dg (x + bv (cutL [] 0 0 0 ++ cutL b (0 + i.toNat) ((if (↑b.length : Int) < i + (16 : Int) then (↑b.length : Int) else i + (16 : Int)).toNat - i.toNat) b.length ++ (List.replicate 1 (BitVec.ofNat 8 0)).set 0 (BitVec.ofNat 8 1)))).length, (dg r).length = (dg r).length, Sm (x + bv (cutL [] 0 0 0 ++ cutL b (0 + i.toNat) ((if (↑b.length : Int) < i + (16 : Int) then (↑b.length : Int) else i + (16 : Int)).toNat - i.toNat) b.length ++ (List.replicate 1 (BitVec.ofNat 8 0)).set 0 (BitVec.ofNat 8 1))), Sm r, (dg ((x + bv (cutL [] 0 0 0 ++ cutL b (0 + i.toNat) ((if (↑b.length : Int) < i + (16 : Int) then (↑b.length : Int) else i + (16 : Int)).toNat - i.toNat) b.length ++ (List.replicate 1 (BitVec.ofNat 8 0)).set 0 (BitVec.ofNat 8 1))) * r)).length = (dg ((x + bv (cutL [] 0 0 0 ++ cutL b (0 + i.toNat) ((if (↑b.length : Int) < i + (16 : Int) then (↑b.length : Int) else i + (16 : Int)).toNat - i.toNat) b.length ++ (List.replicate 1 (BitVec.ofNat 8 0)).set 0 (BitVec.ofNat 8 1))) * r)).length, 17 = 17, 0 < Pr, Sm ((x + bv (cutL [] 0 0 0 ++ cutL b (0 + i.toNat) ((if (↑b.length : Int) < i + (16 : Int) then (↑b.length : Int) else i + (16 : Int)).toNat - i.toNat) b.length ++ (List.replicate 1 (BitVec.ofNat 8 0)).set 0 (BitVec.ofNat 8 1))) * r), Sm Pr, 17 ≤ 3999990, inI64 (i + (16 : Int))]) := by kernel_rfl
theorem rgRound0 (b : List (BitVec 8)) (r s : Nat) : roundS Try.prog (lookG tblR0) (orcP [(8, [(3, true)])] [(10, [9])]) [] 10 rgTd (bodyAt Try.prog 23 8) (rgInv0 b r s) =
    some (Ex.normal, St.mk (slotsOf 58 [(1, sc (IV.sl 0 0 b.length)), (8, sc (IV.sl 1 0 (dg r).length)), (9, sc (IV.sl 2 0 (dg s).length)), (10, sc (IV.sl 3 0 (dg ((0 + bv (cutL [] 0 0 0 ++ cutL b 0 ((if (↑b.length : Int) < (16 : Int) then (↑b.length : Int) else (16 : Int)).toNat - 0) b.length ++ (List.replicate 1 (BitVec.ofNat 8 0)).set 0 (BitVec.ofNat 8 1))) * r % Pr)).length)), (11, sc (IV.i64 (16 : Int)))]) [(0, Blk.mk false [IV.v8 b.length b]), (1, Blk.mk true [IV.vd r]), (2, Blk.mk true [IV.vd s]), (3, Blk.mk true [IV.vd ((0 + bv (cutL [] 0 0 0 ++ cutL b 0 ((if (↑b.length : Int) < (16 : Int) then (↑b.length : Int) else (16 : Int)).toNat - 0) b.length ++ (List.replicate 1 (BitVec.ofNat 8 0)).set 0 (BitVec.ofNat 8 1))) * r % Pr)])] 16, [decide ((0 : Int) < (↑b.length : Int)) = true, inI64 (16 : Int), (0 : Int) ≤ (0 : Int), (0 : Int) ≤ if (↑b.length : Int) < (16 : Int) then (↑b.length : Int) else (16 : Int), 0 ≤ (if (↑b.length : Int) < (16 : Int) then (↑b.length : Int) else (16 : Int)).toNat, (if (↑b.length : Int) < (16 : Int) then (↑b.length : Int) else (16 : Int)).toNat ≤ b.length, 0 + ((if (↑b.length : Int) < (16 : Int) then (↑b.length : Int) else (16 : Int)).toNat - 0) ≤ b.length, 0 ≤ 0, (0 + ((if (↑b.length : Int) < (16 : Int) then (↑b.length : Int) else (16 : Int)).toNat - 0)) * 1 ≤ 140737488355328 ∧ 0 + ((if (↑b.length : Int) < (16 : Int) then (↑b.length : Int) else (16 : Int)).toNat - 0) ≤ 9223372036854775807, 1 = 1, 0 + ((if (↑b.length : Int) < (16 : Int) then (↑b.length : Int) else (16 : Int)).toNat - 0) = (cutL [] 0 0 0 ++ cutL b 0 ((if (↑b.length : Int) < (16 : Int) then (↑b.length : Int) else (16 : Int)).toNat - 0) b.length).length, (0 + ((if (↑b.length : Int) < (16 : Int) then (↑b.length : Int) else (16 : Int)).toNat - 0) + 1) * 1 ≤ 140737488355328 ∧ 0 + ((if (↑b.length : Int) < (16 : Int) then (↑b.length : Int) else (16 : Int)).toNat - 0) + 1 ≤ 9223372036854775807, 0 + ((if (↑b.length : Int) < (16 : Int) then (↑b.length : Int) else (16 : Int)).toNat - 0) + 1 = (cutL [] 0 0 0 ++ cutL b 0 ((if (↑b.length : Int) < (16 : Int) then (↑b.length : Int) else (16 : Int)).toNat - 0) b.length ++ (List.replicate 1 (BitVec.ofNat 8 0)).set 0 (BitVec.ofNat 8 1)).length, (cutL [] 0 0 0 ++ cutL b 0 ((if (↑b.length : Int) < (16 : Int) then (↑b.length : Int) else (16 : Int)).toNat - 0) b.length ++ (List.replicate 1 (BitVec.ofNat 8 0)).set 0 (BitVec.ofNat 8 1)).length ≤ 4000000, 0 = 0, (dg (bv (cutL [] 0 0 0 ++ cutL b 0 ((if (↑b.length : Int) < (16 : Int) then (↑b.length : Int) else (16 : Int)).toNat - 0) b.length ++ (List.replicate 1 (BitVec.ofNat 8 0)).set 0 (BitVec.ofNat 8 1)))).length = (dg (bv (cutL [] 0 0 0 ++ cutL b 0 ((if (↑b.length : Int) < (16 : Int) then (↑b.length : Int) else (16 : Int)).toNat - 0) b.length ++ (List.replicate 1 (BitVec.ofNat 8 0)).set 0 (BitVec.ofNat 8 1)))).length, Sm 0, Sm (bv (cutL [] 0 0 0 ++ cutL b 0 ((if (↑b.length : Int) < (16 : Int) then (↑b.length : Int) else (16 : Int)).toNat - 0) b.length ++ (List.replicate 1 (BitVec.ofNat 8 0)).set 0 (BitVec.ofNat 8 1))), [] = dg 0, (dg (0 + bv (cutL [] 0 0 0 ++ cutL b 0 ((if (↑b.length : Int) < (16 : Int) then (↑b.length : Int) else (16 : Int)).toNat - 0) b.length ++ (List.replicate 1 (BitVec.ofNat 8 0)).set 0 (BitVec.ofNat 8 1)))).length = (dg (0 + bv (cutL [] 0 0 0 ++ cutL b 0 ((if (↑b.length : Int) < (16 : Int) then (↑b.length : Int) else (16 : Int)).toNat - 0) b.length ++ (List.replicate 1 (BitVec.ofNat 8 0)).set 0 (BitVec.ofNat 8 1)))).length, (dg r).length = (dg r).length, Sm (0 + bv (cutL [] 0 0 0 ++ cutL b 0 ((if (↑b.length : Int) < (16 : Int) then (↑b.length : Int) else (16 : Int)).toNat - 0) b.length ++ (List.replicate 1 (BitVec.ofNat 8 0)).set 0 (BitVec.ofNat 8 1))), Sm r, (dg ((0 + bv (cutL [] 0 0 0 ++ cutL b 0 ((if (↑b.length : Int) < (16 : Int) then (↑b.length : Int) else (16 : Int)).toNat - 0) b.length ++ (List.replicate 1 (BitVec.ofNat 8 0)).set 0 (BitVec.ofNat 8 1))) * r)).length = (dg ((0 + bv (cutL [] 0 0 0 ++ cutL b 0 ((if (↑b.length : Int) < (16 : Int) then (↑b.length : Int) else (16 : Int)).toNat - 0) b.length ++ (List.replicate 1 (BitVec.ofNat 8 0)).set 0 (BitVec.ofNat 8 1))) * r)).length, 17 = 17, 0 < Pr, Sm ((0 + bv (cutL [] 0 0 0 ++ cutL b 0 ((if (↑b.length : Int) < (16 : Int) then (↑b.length : Int) else (16 : Int)).toNat - 0) b.length ++ (List.replicate 1 (BitVec.ofNat 8 0)).set 0 (BitVec.ofNat 8 1))) * r), Sm Pr, 17 ≤ 3999990, inI64 (16 : Int)]) := by kernel_rfl
theorem rgExit (b : List (BitVec 8)) (r s x : Nat) (i : Int) : roundS Try.prog (lookG tblR0) (orcP [(8, [(3, false)])] [(10, [9])]) [] 10 rgTd (bodyAt Try.prog 23 8) (rgInv b r s x i) =
    some (Ex.exit 0, St.mk (slotsOf 58 [(1, sc (IV.sl 0 0 b.length)), (8, sc (IV.sl 1 0 (dg r).length)), (9, sc (IV.sl 2 0 (dg s).length)), (10, sc (IV.sl 3 0 (dg x).length)), (11, sc (IV.i64 i))]) [(0, Blk.mk false [IV.v8 b.length b]), (1, Blk.mk true [IV.vd r]), (2, Blk.mk true [IV.vd s]), (3, Blk.mk true [IV.vd x])] 16, [decide (i < (↑b.length : Int)) = false]) := by kernel_rfl
theorem runRTag (k b : List (BitVec 8)) (r s x : Nat) (i : Int) : fnS Try.prog (lookG tblR0) (orcP [(1, [(2, false)])] [(3, [2]), (5, [2])]) [⟨8, rgTd, .exit 0, rgInv b r s x i⟩] 10 23 [sc (.d8 k), sc (.d8 b)] =
    some (AV.tup [(false, [IV.d8 (cutL (bl (x + s) 16) 0 (bl (x + s) 16).length (bl (x + s) 16).length)]), (false, [IV.i64 (0 : Int)])], [(!(↑k.length : Int) == (32 : Int)) = false, (0 : Int) ≤ (16 : Int), 0 ≤ 16, 16 ≤ k.length, 16 ≤ k.length, (cutV (cutL k 0 16 k.length)).fst.length = (cutV (cutL k 0 16 k.length)).fst.length, (cutV (cutL k 0 16 k.length)).fst.length ≤ 4000000, (0 : Int) ≤ (16 : Int), 16 ≤ k.length, k.length ≤ k.length, 16 + (k.length - 16) ≤ k.length, (cutL k 16 (k.length - 16) k.length).length ≤ 4000000, LoopTo Try.prog (bodyAt Try.prog 23 8) (St.mk (slotsOf 58 [(1, sc (IV.sl 0 0 b.length)), (8, sc (IV.sl 1 0 (dg (bv (cutV (cutL k 0 16 k.length)).fst)).length)), (9, sc (IV.sl 2 0 (dg (bv (cutL k 16 (k.length - 16) k.length))).length)), (10, sc (IV.sl 3 0 0)), (11, sc (IV.i64 (0 : Int)))]) [(0, Blk.mk false [IV.v8 b.length b]), (1, Blk.mk true [IV.vd (bv (cutV (cutL k 0 16 k.length)).fst)]), (2, Blk.mk true [IV.vd (bv (cutL k 16 (k.length - 16) k.length))]), (3, Blk.mk true [IV.vi 0 []])] 16) (Ex.exit 0) (St.mk (slotsOf 58 [(1, sc (IV.sl 0 0 b.length)), (8, sc (IV.sl 1 0 (dg r).length)), (9, sc (IV.sl 2 0 (dg s).length)), (10, sc (IV.sl 3 0 (dg x).length)), (11, sc (IV.i64 i))]) [(0, Blk.mk false [IV.v8 b.length b]), (1, Blk.mk true [IV.vd r]), (2, Blk.mk true [IV.vd s]), (3, Blk.mk true [IV.vd x])] 16), (dg x).length = (dg x).length, (dg s).length = (dg s).length, Sm x, Sm s, (dg (x + s)).length = (dg (x + s)).length, (0 : Int) ≤ (16 : Int), (16 : Int) ≤ (4000000 : Int), 0 + (bl (x + s) 16).length ≤ (bl (x + s) 16).length]) := by kernel_rfl
theorem runRTag0 (k b : List (BitVec 8)) : fnS Try.prog (lookG tblR0) (orcP [(1, [(2, false)]), (8, [(3, false)])] [(3, [2]), (5, [2])]) [] 10 23 [sc (.d8 k), sc (.d8 b)] =
    some (AV.tup [(false, [IV.d8 (cutL (bl (0 + bv (cutL k 16 (k.length - 16) k.length)) 16) 0 (bl (0 + bv (cutL k 16 (k.length - 16) k.length)) 16).length (bl (0 + bv (cutL k 16 (k.length - 16) k.length)) 16).length)]), (false, [IV.i64 (0 : Int)])], [(!(↑k.length : Int) == (32 : Int)) = false, (0 : Int) ≤ (16 : Int), 0 ≤ 16, 16 ≤ k.length, 16 ≤ k.length, (cutV (cutL k 0 16 k.length)).fst.length = (cutV (cutL k 0 16 k.length)).fst.length, (cutV (cutL k 0 16 k.length)).fst.length ≤ 4000000, (0 : Int) ≤ (16 : Int), 16 ≤ k.length, k.length ≤ k.length, 16 + (k.length - 16) ≤ k.length, (cutL k 16 (k.length - 16) k.length).length ≤ 4000000, decide ((0 : Int) < (↑b.length : Int)) = false, 0 = 0, (dg (bv (cutL k 16 (k.length - 16) k.length))).length = (dg (bv (cutL k 16 (k.length - 16) k.length))).length, Sm 0, Sm (bv (cutL k 16 (k.length - 16) k.length)), [] = dg 0, (dg (0 + bv (cutL k 16 (k.length - 16) k.length))).length = (dg (0 + bv (cutL k 16 (k.length - 16) k.length))).length, (0 : Int) ≤ (16 : Int), (16 : Int) ≤ (4000000 : Int), 0 + (bl (0 + bv (cutL k 16 (k.length - 16) k.length)) 16).length ≤ (bl (0 + bv (cutL k 16 (k.length - 16) k.length)) 16).length]) := by kernel_rfl
theorem runRTag1 (k b : List (BitVec 8)) : fnS Try.prog (lookG tblR0) (orcA [(1, [(2, true)])]) [] 10 23 [sc (.d8 k), sc (.d8 b)] =
    some (AV.tup [(false, [IV.d8 (cutL [] 0 0 0)]), (false, [IV.i64 (1 : Int)])], [(!(↑k.length : Int) == (32 : Int)) = true, 0 ≤ 0]) := by kernel_rfl
theorem blk_cut0 (b : List (BitVec 8)) : cutL [] 0 0 0 ++ cutL b 0 ((if (b.length : Int) < (16 : Int) then (b.length : Int) else (16 : Int)).toNat - 0) b.length ++ (List.replicate 1 (BitVec.ofNat 8 0)).set 0 (BitVec.ofNat 8 1) = blkL b 0 := by
  unfold blkL
  have e : (cutL [] 0 0 0 : List (BitVec 8)) = [] := rfl
  have e1 : (List.replicate 1 (BitVec.ofNat 8 0)).set 0 (BitVec.ofNat 8 1) = [1#8] := rfl
  rw [e, e1, List.nil_append]
  congr 1
  rw [cutL_eq rfl, Nat.mul_zero, List.take_eq_take_iff, List.length_drop]
  split <;> omega
theorem p100 : (256 : Nat) ^ 100 = 6668014432879854274079851790721257797144758322315908160396257811764037237817632071521432200871554290742929910593433240445888801654119365080363356052330830046095157579514014558463078285911814024728965016135886601981690748037476461291163877376 := by decide
theorem Sm_big {a : Nat} (h : a < 115792089237316195423570985008687907853269984665640564039457584007913129639936) : Sm a := Sm_lt (k := 32) (by rw [show (256 : Nat) ^ 32 = 115792089237316195423570985008687907853269984665640564039457584007913129639936 by decide]; exact h) (by omega)
theorem blk_len (b : List (BitVec 8)) (j : Nat) : (blkL b j).length = ((b.drop (16 * j)).take 16).length + 1 := by unfold blkL; simp
theorem blk_len0 (b : List (BitVec 8)) (j : Nat) (h : 16 * j < b.length) : (blkL b j).length = (if b.length < 16 * j + 16 then b.length else 16 * j + 16) - 16 * j + 1 := by rw [blk_len, List.length_take, List.length_drop]; split <;> omega
theorem cut_len (b : List (BitVec 8)) (j : Nat) (h : 16 * j < b.length) : (cutL [] 0 0 0 ++ cutL b (0 + ((16 * j : Nat) : Int).toNat) ((if (b.length : Int) < ((16 * j : Nat) : Int) + (16 : Int) then (b.length : Int) else ((16 * j : Nat) : Int) + (16 : Int)).toNat - ((16 * j : Nat) : Int).toNat) b.length).length = (if b.length < 16 * j + 16 then b.length else 16 * j + 16) - 16 * j := by
  rw [show (cutL [] 0 0 0 : List (BitVec 8)) = [] from rfl, List.nil_append, cutL_eq rfl, List.length_take, List.length_drop]
  split <;> split <;> omega
theorem cut_len0 (b : List (BitVec 8)) : (cutL [] 0 0 0 ++ cutL b 0 ((if (b.length : Int) < (16 : Int) then (b.length : Int) else (16 : Int)).toNat - 0) b.length).length = (if b.length < 16 then b.length else 16) := by
  rw [show (cutL [] 0 0 0 : List (BitVec 8)) = [] from rfl, List.nil_append, cutL_eq rfl, List.length_take, List.length_drop]
  split <;> split <;> omega
def rgSt (b : List (BitVec 8)) (r s j : Nat) : St := rgInv b r s (polyX r b j) ((16 * j : Nat) : Int)
theorem poly_sm {x r : Nat} (hx : x < Pr) (hr : r < 340282366920938463463374607431768211456) (b : List (BitVec 8)) (j : Nat) : Sm x ∧ Sm (blkN b j) ∧ Sm (x + blkN b j) ∧ Sm r ∧ Sm ((x + blkN b j) * r) := by
  have hb := blkN_lt b j
  unfold Pr at hx
  have hs : x + blkN b j < 2041694201525630780780247644590609268731 := by omega
  refine ⟨Sm_big (by omega), Sm_big (by omega), Sm_big (by omega), Sm_big (by omega), Sm_lt (k := 40) (Nat.lt_of_lt_of_le (Nat.mul_lt_mul'' hs hr) (by decide)) (by omega)⟩
theorem Sm_Pr : Sm Pr := Sm_big (by decide)
theorem len_Pr : (dg Pr).length ≤ 3999990 := Nat.le_trans (dg_length_le (k := 40) (by decide)) (by omega)
def rgF (b : List (BitVec 8)) (r s : Nat) : Option Nat → St
  | none => rgInv0 b r s
  | some j => rgSt b r s j
theorem rgLoop (b : List (BitVec 8)) (r s : Nat) (hr : r < 340282366920938463463374607431768211456) (hb : b.length ≤ 4000000) (h0 : 0 < b.length) : LoopTo Try.prog (bodyAt Try.prog 23 8) (rgInv0 b r s) (.exit 0) (rgSt b r s (nBlk b)) := by
  have p0 := Pr_pos
  have sp := Sm_Pr
  have lp := len_Pr
  refine LoopTo.intro (α := Option Nat) gsR0 fol (rgF b r s) (fun a => a.getD 0 ≤ nBlk b) (fun | none => nBlk b + 1 | some j => nBlk b - j) (by simp) ?_ none (by simp)
  intro a ha
  cases a with
  | none =>
    obtain ⟨s1, s2, s3, s4, s5⟩ := poly_sm (show 0 < Pr from p0) hr b 0
    have r0 := rgRound0 b r s
    have cl := cut_len0 b
    generalize hcc : cutL [] 0 0 0 ++ cutL b 0 ((if (b.length : Int) < (16 : Int) then (b.length : Int) else (16 : Int)).toNat - 0) b.length = cc at r0 cl
    have hblk : cc ++ (List.replicate 1 (BitVec.ofNat 8 0)).set 0 (BitVec.ofNat 8 1) = blkL b 0 := by rw [← hcc]; exact blk_cut0 b
    rw [hblk] at r0
    have bln := blk_len0 b 0 h0
    have ln : (bv (blkL b 0)) = blkN b 0 := rfl
    rw [ln] at r0
    have hp : (0 + blkN b 0) * r % Pr = polyX r b 1 := rfl
    refine .inl ⟨_, _, _, _, _, some 1, r0, ?_, by simp [nBlk]; omega, by simp; omega⟩
    clear r0 hp
    generalize blkN b 0 = y at *
    have li : (if (b.length : Int) < (16 : Int) then (b.length : Int) else (16 : Int)) = (((if b.length < 16 then b.length else 16) : Nat) : Int) := by split <;> split <;> omega
    simp only [Nat.mul_zero, Nat.zero_add, Nat.sub_zero] at bln cl s3 s5
    simp only [li, Int.toNat_natCast, cl, bln, Nat.zero_add, Nat.sub_zero]
    have l2 : (if b.length < 16 then b.length else 16) ≤ b.length := by split <;> omega
    have l3 : (if b.length < 16 then b.length else 16) ≤ 16 := by split <;> omega
    generalize (if b.length < 16 then b.length else 16) = e at *
    have d0 : ([] : List Int) = dg 0 := by rw [dg]; simp
    simp only [AllP, inI64, decide_eq_true_eq]
    and_intros <;> first | with_reducible assumption | exact True.intro | rfl | omega
  | some j =>
    have hj : j ≤ nBlk b := ha
    unfold nBlk at *
    by_cases he : j = (b.length + 15) / 16
    · subst he
      exact .inr ⟨_, _, _, _, _, rgExit b r s _ _, ⟨decide_eq_false (by omega), trivial⟩⟩
    · have hlt : 16 * j < b.length := by omega
      obtain ⟨s1, s2, s3, s4, s5⟩ := poly_sm (polyX_lt r b j) hr b j
      have r0 := rgRound b r s (polyX r b j) ((16 * j : Nat) : Int)
      have cl := cut_len b j hlt
      generalize hcc : cutL [] 0 0 0 ++ cutL b (0 + ((16 * j : Nat) : Int).toNat) ((if (b.length : Int) < ((16 * j : Nat) : Int) + (16 : Int) then (b.length : Int) else ((16 * j : Nat) : Int) + (16 : Int)).toNat - ((16 * j : Nat) : Int).toNat) b.length = cc at r0 cl
      have hblk : cc ++ (List.replicate 1 (BitVec.ofNat 8 0)).set 0 (BitVec.ofNat 8 1) = blkL b j := by rw [← hcc]; exact blk_cut b j hlt
      rw [hblk] at r0
      have bln := blk_len0 b j hlt
      have ei : ((16 * j : Nat) : Int) + 16 = ((16 * (j + 1) : Nat) : Int) := by omega
      simp only [ei] at r0
      have ln : (bv (blkL b j)) = blkN b j := rfl
      rw [ln] at r0
      refine .inl ⟨_, _, _, _, _, some (j + 1), r0, ?_, by simp; omega, by simp; omega⟩
      clear r0
      generalize blkN b j = y at *
      generalize polyX r b j = x at *
      have li : (if (b.length : Int) < ((16 * (j + 1) : Nat) : Int) then (b.length : Int) else ((16 * (j + 1) : Nat) : Int)) = (((if b.length < 16 * j + 16 then b.length else 16 * j + 16) : Nat) : Int) := by split <;> split <;> omega
      simp only [li, Int.toNat_natCast, cl, bln]
      have l2 : (if b.length < 16 * j + 16 then b.length else 16 * j + 16) ≤ b.length := by split <;> omega
      have l3 : (if b.length < 16 * j + 16 then b.length else 16 * j + 16) ≤ 16 * j + 16 := by split <;> omega
      have l4 : 16 * j ≤ (if b.length < 16 * j + 16 then b.length else 16 * j + 16) := by split <;> omega
      generalize (if b.length < 16 * j + 16 then b.length else 16 * j + 16) = e at *
      simp only [AllP, inI64, decide_eq_true_eq]
      and_intros <;> first | with_reducible assumption | exact True.intro | rfl | omega
theorem cut_lt (k : List (BitVec 8)) (h : k.length = 16) : bv (cutV k).1 < 21267647932558653966460912964485513216 := by
  obtain ⟨x0, x1, x2, x3, x4, x5, x6, x7, x8, x9, x10, x11, x12, x13, x14, x15, rfl⟩ := list16 h
  have e : (cutV [x0, x1, x2, x3, x4, x5, x6, x7, x8, x9, x10, x11, x12, x13, x14, x15]).1 = List.zipWith (fun x m => x &&& m) [x0, x1, x2, x3, x4, x5, x6, x7, x8, x9, x10, x11, x12, x13, x14] [255#8, 255#8, 255#8, 15#8, 252#8, 255#8, 255#8, 15#8, 252#8, 255#8, 255#8, 15#8, 252#8, 255#8, 255#8] ++ [x15 &&& 15#8] := by
    unfold cutV; rw [if_pos (by rfl)]; rfl
  have h15 : (x15 &&& 15#8).toNat < 16 := (by decide +kernel : ∀ x : BitVec 8, (x &&& 15#8).toNat < 16) x15
  have hl : (List.zipWith (fun x m => x &&& m) [x0, x1, x2, x3, x4, x5, x6, x7, x8, x9, x10, x11, x12, x13, x14] [255#8, 255#8, 255#8, 15#8, 252#8, 255#8, 255#8, 15#8, 252#8, 255#8, 255#8, 15#8, 252#8, 255#8, 255#8]).length = 15 := rfl
  rw [e, bv_append]
  have hb := bv_lt (List.zipWith (fun x m => x &&& m) [x0, x1, x2, x3, x4, x5, x6, x7, x8, x9, x10, x11, x12, x13, x14] [255#8, 255#8, 255#8, 15#8, 252#8, 255#8, 255#8, 15#8, 252#8, 255#8, 255#8, 15#8, 252#8, 255#8, 255#8])
  rw [hl] at hb ⊢
  have e2 : bv [x15 &&& 15#8] = (x15 &&& 15#8).toNat := by show (x15 &&& 15#8).toNat + 256 * 0 = _; omega
  rw [e2]
  have e3 : (256 : Nat) ^ 15 = 1329227995784915872903807060280344576 := by decide
  rw [e3] at hb ⊢
  omega
theorem cutV_len (k : List (BitVec 8)) (h : k.length = 16) : (cutV k).1.length = 16 := by
  unfold cutV; rw [if_pos h]; simp [h, cutM]
/-- The tag. -/
def tagR (k : List (BitVec 8)) : Nat := bv (cutV (k.take 16)).1
def tagS (k : List (BitVec 8)) : Nat := bv (k.drop 16)
def tagV (k b : List (BitVec 8)) : List (BitVec 8) × Int := if k.length = 32 then (bl (polyX (tagR k) b (nBlk b) + tagS k) 16, 0) else ([], 1)
def spTag : List AV → Option (AV × List Prop)
  | [.val false [.d8 k], .val false [.d8 b]] => some (.tup [(false, [.d8 (tagV k b).1]), (false, [.i64 (tagV k b).2])], [b.length ≤ 4000])
  | _ => none
theorem tagR_lt (k : List (BitVec 8)) (h : k.length = 32) : tagR k < 21267647932558653966460912964485513216 := cut_lt _ (by simp [h])
theorem tagS_lt (k : List (BitVec 8)) (h : k.length = 32) : tagS k < 340282366920938463463374607431768211456 := by
  have := bv_lt (k.drop 16)
  rw [List.length_drop, h] at this
  exact this
theorem cut16 (k : List (BitVec 8)) : cutL k 0 16 k.length = k.take 16 := by rw [cutL_eq rfl]; rfl
theorem cut32 (k : List (BitVec 8)) (h : k.length = 32) : cutL k 16 (k.length - 16) k.length = k.drop 16 := by rw [cutL_eq rfl, h, List.take_of_length_le]; simp [h]
theorem cutAll {α : Type} (l : List α) (n : Nat) (h : n = l.length) : cutL l 0 n l.length = l := by rw [cutL_eq rfl, h]; simp
theorem ctRTag : CtSOk Try.prog 23 (.fn spTag) := FnS_of_fnS gsR0 fol fun ds r cs h hc => by
  unfold spTag at h
  split at h
  case h_2 => simp at h
  rename_i k b
  simp only [Option.some.injEq, Prod.mk.injEq] at h
  obtain ⟨rfl, rfl⟩ := h
  have hb := hc.1
  by_cases hk : k.length = 32
  · have hR := tagR_lt k hk
    have hS := tagS_lt k hk
    have c1 := cut16 k
    have c2 := cut32 k hk
    have ct := cutV_len (k.take 16) (by simp [hk])
    have l2 : (k.drop 16).length = 16 := by simp [hk]
    have sS : Sm (tagS k) := Sm_big (by omega)
    have s0 : Sm 0 := Sm_big (by omega)
    have d0 : ([] : List Int) = dg 0 := by rw [dg]; simp
    have eR : bv (cutV (k.take 16)).1 = tagR k := rfl
    have eS : bv (k.drop 16) = tagS k := rfl
    by_cases h0 : b.length = 0
    · have n0 : nBlk b = 0 := by unfold nBlk; omega
      have r0 := runRTag0 k b
      rw [c1, c2, eS] at r0
      refine use_run r0 ?_ ?_
      · rw [cutAll _ _ rfl, tagV, if_pos hk, n0]; rfl
      · simp only [AllP, bl_length, ct, l2]
        simp only [hk]
        and_intros <;> first | with_reducible assumption | exact True.intro | rfl | omega | exact decide_eq_false (by omega)
    · have r0 := runRTag k b (tagR k) (tagS k) (polyX (tagR k) b (nBlk b)) ((16 * nBlk b : Nat) : Int)
      rw [c1, c2, eR, eS] at r0
      have lp := rgLoop b (tagR k) (tagS k) (by omega) (by omega) (by omega)
      have sx : Sm (polyX (tagR k) b (nBlk b)) := Sm_big (by have := polyX_lt (tagR k) b (nBlk b); unfold Pr at this; omega)
      refine use_run r0 ?_ ?_
      · rw [cutAll _ _ rfl, tagV, if_pos hk]
      · simp only [AllP, bl_length, ct, l2]
        simp only [hk]
        and_intros <;> first | with_reducible assumption | exact True.intro | rfl | exact lp | omega
  · refine use_run (runRTag1 k b) (by rw [tagV, if_neg hk]; rfl) ⟨?_, by omega, trivial⟩
    simp only [Bool.not_eq_true', beq_eq_false_iff_ne, ne_eq]
    omega
end Go.Proofs.Ytmedjfcmkalblaa
/- Contracts of layer 11: the program's tag. Own work. -/
namespace Go.Proofs.Ytmedjfcmkalblaa
open Go.Ev Go.Sp Go.RowKit
set_option maxRecDepth 100000
def pk (a : N4) : N4 := if (if val a < Pr then BitVec.ofNat 64 1 else BitVec.ofNat 64 0) = BitVec.ofNat 64 0 then ofN (val a + p256 - Pr) else a
theorem pk_val (a : N4) : val (pk a) = if val a < Pr then val a else val a - Pr := by
  have h := val_lt a
  unfold pk
  by_cases ha : val a < Pr
  · rw [if_pos ha, if_pos ha, if_neg (by decide)]
  · rw [if_neg ha, if_neg ha, if_pos rfl, val_ofN]
    unfold p256 at *
    unfold Pr at *
    omega
theorem pk2 (a : N4) (h : val a < 1361129467683753853853498429727072845829) : val (pk (pk a)) = val a % Pr := by
  rw [pk_val, pk_val]
  unfold Pr
  split
  · omega
  · split <;> omega
theorem bl_take (x : Nat) : ∀ n m, m ≤ n → (bl x n).take m = bl x m := by
  intro n m h
  refine bv_inj ?_ ?_
  · rw [List.length_take, bl_length, bl_length]; omega
  · have e := bv_append ((bl x n).take m) ((bl x n).drop m)
    rw [List.take_append_drop, bv_bl, List.length_take, bl_length, Nat.min_eq_left h] at e
    have l := bv_lt ((bl x n).take m)
    rw [List.length_take, bl_length, Nat.min_eq_left h] at l
    have d : 256 ^ m ∣ 256 ^ n := Nat.pow_dvd_pow 256 h
    have e2 : x % 256 ^ n % 256 ^ m = x % 256 ^ m := Nat.mod_mod_of_dvd x d
    rw [bv_bl, ← e2, e, Nat.add_mul_mod_self_left, Nat.mod_eq_of_lt l]
theorem bl_take16 (x : Nat) : cutL (bl x 32) 0 16 (bl x 32).length = bl x 16 := by
  rw [cutL_eq rfl]
  exact bl_take x 32 16 (by omega)
theorem ctPTag : CtSOk Try.prog 30 (.fn spTag) := FnS_of_fnS gsG fol fun ds r cs h hc => by
  unfold spTag at h
  split at h
  case h_2 => simp at h
  rename_i k b
  simp only [Option.some.injEq, Prod.mk.injEq] at h
  obtain ⟨rfl, rfl⟩ := h
  have hb := hc.1
  by_cases hk : k.length = 32
  · have hR := tagR_lt k hk
    have hS := tagS_lt k hk
    have c1 := cut16 k
    have c2 := cut32 k hk
    have ct := cutV_len (k.take 16) (by simp [hk])
    have l2 : (k.drop 16).length = 16 := by simp [hk]
    have fR : (fromV (cutV (k.take 16)).1).1 = ofN (tagR k) := by rw [fromV, if_pos (by omega)]; rfl
    have fS : (fromV (k.drop 16)).1 = ofN (tagS k) := by rw [fromV, if_pos (by omega)]; rfl
    have vR : val (ofN (tagR k)) = tagR k := val_ofN_of (Nat.lt_trans hR (by decide))
    have vS : val (ofN (tagS k)) = tagS k := val_ofN_of (Nat.lt_trans hS (by decide))
    have lp := tgLoop b (ofN (tagR k)) (ofN (tagS k)) (by rw [vR]; exact hR) (by omega)
    have r0 := runTag k b (ofN (tagR k)) (ofN (tagS k)) (ofN (polyA (tagR k) b (nBlk b))) ((16 * nBlk b : Nat) : Int)
    obtain ⟨q1, q2⟩ := poly_inv hR b (nBlk b)
    have vA : val (ofN (polyA (tagR k) b (nBlk b))) = polyA (tagR k) b (nBlk b) := val_ofN_of (Nat.lt_trans q1 (by decide))
    have key : ofN (val (pk (pk (ofN (polyA (tagR k) b (nBlk b))))) + val (ofN (tagS k))) = ofN (polyX (tagR k) b (nBlk b) + tagS k) := by
      rw [pk2 _ (by rw [vA]; exact q1), vA, q2, vS]
    have px := polyX_lt (tagR k) b (nBlk b)
    have vk : val (ofN (polyX (tagR k) b (nBlk b) + tagS k)) = polyX (tagR k) b (nBlk b) + tagS k := val_ofN_of (by unfold Pr at px; unfold p256; omega)
    rw [c1, c2, fR, fS] at r0
    refine use_run r0 ?_ ?_
    · rw [tagV, if_pos hk]
      show AV.tup [(false, [IV.d8 (cutL (bl (val (ofN (val (pk (pk (ofN (polyA (tagR k) b (nBlk b))))) + val (ofN (tagS k))))) 32) 0 16 (bl (val (ofN (val (pk (pk (ofN (polyA (tagR k) b (nBlk b))))) + val (ofN (tagS k))))) 32).length)]), (false, [IV.i64 0])] = _
      rw [key, vk, bl_take16]
    · have e : tgInv b (ofN (tagR k)) (ofN (tagS k)) (ofN (polyA (tagR k) b (nBlk b))) ((16 * nBlk b : Nat) : Int) = tgSt b (ofN (tagR k)) (ofN (tagS k)) (nBlk b) := by unfold tgSt; rw [vR]
      have lp' : LoopTo Try.prog (bodyAt Try.prog 30 8) (tgInv b (ofN (tagR k)) (ofN (tagS k)) ⟨0#64, 0#64, 0#64, 0#64⟩ 0) (.exit 0) (tgInv b (ofN (tagR k)) (ofN (tagS k)) (ofN (polyA (tagR k) b (nBlk b))) ((16 * nBlk b : Nat) : Int)) := by rw [e]; exact lp
      simp only [AllP, inI64, bl_length, ct]
      simp only [hk]
      and_intros <;> first | exact True.intro | rfl | exact lp' | omega
  · refine use_run (runTag1 k b) (by rw [tagV, if_neg hk]; rfl) ⟨?_, by omega, trivial⟩
    simp only [Bool.not_eq_true', beq_eq_false_iff_ne, ne_eq]
    omega
end Go.Proofs.Ytmedjfcmkalblaa
/- Contracts that take a nil slice for no bytes. Own work; no statement of the seat is proved here. -/
namespace Go.Ev
open Go.RowKit
/-- An answer's parts. -/
def resOf {α : Type} : Option (Ex × α × List Prop) → Option (Ex × α)
  | some (e, s, _) => some (e, s)
  | none => none
def csOf {α : Type} : Option (Ex × α × List Prop) → List Prop
  | some (_, _, cs) => cs
  | none => [False]
theorem parts_eq {α : Type} {r : Option (Ex × α × List Prop)} {e : Ex} {s : α} {cs : List Prop} (h1 : resOf r = some (e, s)) (h2 : csOf r = cs) : r = some (e, s, cs) := by
  cases r with
  | none => simp [resOf] at h1
  | some q => obtain ⟨a, b, c⟩ := q; simp [resOf] at h1; simp [csOf] at h2; rw [h1.1, h1.2, h2]
def ansOf : Option (AV × List Prop) → Option AV
  | some (a, _) => some a
  | none => none
def acsOf : Option (AV × List Prop) → List Prop
  | some (_, cs) => cs
  | none => [False]
theorem ans_eq {r : Option (AV × List Prop)} {a : AV} {cs : List Prop} (h1 : ansOf r = some a) (h2 : acsOf r = cs) : r = some (a, cs) := by
  cases r with
  | none => simp [ansOf] at h1
  | some q => obtain ⟨a, c⟩ := q; simp [ansOf] at h1; simp [acsOf] at h2; rw [h1, h2]
def nil8I : IV → IV
  | .nil => .d8 []
  | i => i
def nil8A : AV → AV
  | .val false [i] => .val false [nil8I i]
  | x => x
theorem DCells_nil8 {w : World} {i : IV} {vs : List Value} (h : DCells w i vs) : DCells w (nil8I i) vs := by
  cases i <;> first | exact h | skip
  simp only [DCells, PCells, Option.some.injEq] at h
  subst h
  exact ⟨_, rfl, .inr ⟨rfl, rfl, none, rfl⟩⟩
theorem DV_nil8 {w : World} {x : AV} {v : Value} (h : DV w x v) : DV w (nil8A x) v := by
  unfold nil8A
  split
  · obtain ⟨vs, ⟨a, b, e, h1, h2⟩, h3⟩ := h
    exact ⟨vs, ⟨a, b, e, DCells_nil8 h1, h2⟩, h3⟩
  · exact h
theorem F2_DV_nil8 {w : World} : ∀ {l : List AV} {vs : List Value}, F2 (DV w) l vs → F2 (DV w) (l.map nil8A) vs
  | [], [], h => h
  | _ :: _, _ :: _, ⟨a, b⟩ => ⟨DV_nil8 a, F2_DV_nil8 b⟩
/-- The same contract, of which a nil slice is no bytes. -/
def nil8 (spec : List AV → Option (AV × List Prop)) (ds : List AV) : Option (AV × List Prop) := spec (ds.map nil8A)
theorem FnS_nil8 {P : Program} {f : FuncId} {spec : List AV → Option (AV × List Prop)} (h : FnS P f spec) : FnS P f (nil8 spec) :=
  FnS_intro fun _ _ _ hd hc w vals hv => FnS_use h hd hc w vals (F2_DV_nil8 hv)
end Go.Ev
/- Contracts of layer 12's small functions. Own work. -/
namespace Go.Proofs.Ytmedjfcmkalblaa
open Go.Ev Go.Sp Go.RowKit
set_option maxRecDepth 100000
theorem runJoin2 (a b : List (BitVec 8)) : fnS Try.prog (lookG []) (orcA []) [] 20 17 [sc (.ds8 [a, b])] =
    some (sc (IV.d8 (cutL (a ++ b) 0 (0 + a.length + b.length) (a ++ b).length)), [(0 : Int) ≤ (0 : Int), 0 < [a, b].length, a.length = a.length, 0 = 0, (0 + a.length) * 1 ≤ 140737488355328 ∧ 0 + a.length ≤ 9223372036854775807, inI64 (1 : Int), (0 : Int) ≤ (1 : Int), 1 < [a, b].length, b.length = b.length, 0 + a.length = a.length, (0 + a.length + b.length) * 1 ≤ 140737488355328 ∧ 0 + a.length + b.length ≤ 9223372036854775807, inI64 (2 : Int), 0 + (0 + a.length + b.length) ≤ (a ++ b).length]) := by kernel_rfl
theorem runJoin6 (a b c d e f : List (BitVec 8)) : fnS Try.prog (lookG []) (orcA []) [] 20 17 [sc (.ds8 [a, b, c, d, e, f])] =
    some (sc (IV.d8 (cutL (a ++ b ++ c ++ d ++ e ++ f) 0 (0 + a.length + b.length + c.length + d.length + e.length + f.length) (a ++ b ++ c ++ d ++ e ++ f).length)), [(0 : Int) ≤ (0 : Int), 0 < [a, b, c, d, e, f].length, a.length = a.length, 0 = 0, (0 + a.length) * 1 ≤ 140737488355328 ∧ 0 + a.length ≤ 9223372036854775807, inI64 (1 : Int), (0 : Int) ≤ (1 : Int), 1 < [a, b, c, d, e, f].length, b.length = b.length, 0 + a.length = a.length, (0 + a.length + b.length) * 1 ≤ 140737488355328 ∧ 0 + a.length + b.length ≤ 9223372036854775807, inI64 (2 : Int), (0 : Int) ≤ (2 : Int), 2 < [a, b, c, d, e, f].length, c.length = c.length, 0 + a.length + b.length = (a ++ b).length, (0 + a.length + b.length + c.length) * 1 ≤ 140737488355328 ∧ 0 + a.length + b.length + c.length ≤ 9223372036854775807, inI64 (3 : Int), (0 : Int) ≤ (3 : Int), 3 < [a, b, c, d, e, f].length, d.length = d.length, 0 + a.length + b.length + c.length = (a ++ b ++ c).length, (0 + a.length + b.length + c.length + d.length) * 1 ≤ 140737488355328 ∧ 0 + a.length + b.length + c.length + d.length ≤ 9223372036854775807, inI64 (4 : Int), (0 : Int) ≤ (4 : Int), 4 < [a, b, c, d, e, f].length, e.length = e.length, 0 + a.length + b.length + c.length + d.length = (a ++ b ++ c ++ d).length, (0 + a.length + b.length + c.length + d.length + e.length) * 1 ≤ 140737488355328 ∧ 0 + a.length + b.length + c.length + d.length + e.length ≤ 9223372036854775807, inI64 (5 : Int), (0 : Int) ≤ (5 : Int), 5 < [a, b, c, d, e, f].length, f.length = f.length, 0 + a.length + b.length + c.length + d.length + e.length = (a ++ b ++ c ++ d ++ e).length, (0 + a.length + b.length + c.length + d.length + e.length + f.length) * 1 ≤ 140737488355328 ∧ 0 + a.length + b.length + c.length + d.length + e.length + f.length ≤ 9223372036854775807, inI64 (6 : Int), 0 + (0 + a.length + b.length + c.length + d.length + e.length + f.length) ≤ (a ++ b ++ c ++ d ++ e ++ f).length]) := by kernel_rfl
def spJoin : List AV → Option (AV × List Prop)
  | [.val false [.ds8 [a, b]]] => some (sc (.d8 (a ++ b)), [a.length + b.length ≤ 100000])
  | [.val false [.ds8 [a, b, c, d, e, f]]] => some (sc (.d8 (a ++ b ++ c ++ d ++ e ++ f)), [a.length + b.length + c.length + d.length + e.length + f.length ≤ 100000])
  | _ => none
theorem ctJoin : CtSOk Try.prog 17 (.fn spJoin) := FnS_of_fnS gs0 fol fun ds r cs h hc => by
  unfold spJoin at h
  split at h
  case h_3 => simp at h
  · rename_i a b
    simp only [Option.some.injEq, Prod.mk.injEq] at h
    obtain ⟨rfl, rfl⟩ := h
    have hl := hc.1
    refine use_run (runJoin2 a b) (by rw [show 0 + a.length + b.length = (a ++ b).length by rw [List.length_append]; omega, cutL_all]) ?_
    simp only [AllP, inI64, List.length_append, List.length_cons, List.length_nil]
    and_intros <;> first | exact True.intro | with_reducible rfl | omega
  · rename_i a b c d e f
    simp only [Option.some.injEq, Prod.mk.injEq] at h
    obtain ⟨rfl, rfl⟩ := h
    have hl := hc.1
    refine use_run (runJoin6 a b c d e f) (by rw [show 0 + a.length + b.length + c.length + d.length + e.length + f.length = (a ++ b ++ c ++ d ++ e ++ f).length by simp only [List.length_append]; omega, cutL_all]) ?_
    simp only [AllP, inI64, List.length_append, List.length_cons, List.length_nil]
    and_intros <;> first | exact True.intro | with_reducible rfl | omega
end Go.Proofs.Ytmedjfcmkalblaa
/- Contracts of layer 12's small functions: paddings, lengths. Own work. -/
namespace Go.Proofs.Ytmedjfcmkalblaa
open Go.Ev Go.Sp Go.RowKit
set_option maxRecDepth 100000
def padN (n : Nat) : Nat := (16 - n % 16) % 16
theorem runFilled (n : Int) : fnS Try.prog (lookG []) (orcA []) [] 20 31 [sc (.i64 n)] =
    some (sc (IV.d8 (cutL (List.replicate (((16 : Int) - n.tmod (16 : Int)).tmod (16 : Int)).toNat (BitVec.ofNat 8 0)) 0 (((16 : Int) - n.tmod (16 : Int)).tmod (16 : Int)).toNat (List.replicate (((16 : Int) - n.tmod (16 : Int)).tmod (16 : Int)).toNat (BitVec.ofNat 8 0)).length)), [(16 : Int) ≠ (0 : Int), inI64 ((16 : Int) - n.tmod (16 : Int)), (16 : Int) ≠ (0 : Int), (0 : Int) ≤ ((16 : Int) - n.tmod (16 : Int)).tmod (16 : Int), (0 : Int) ≤ ((16 : Int) - n.tmod (16 : Int)).tmod (16 : Int), (((16 : Int) - n.tmod (16 : Int)).tmod (16 : Int)).toNat = (((16 : Int) - n.tmod (16 : Int)).tmod (16 : Int)).toNat ∧ 1 * (((16 : Int) - n.tmod (16 : Int)).tmod (16 : Int)).toNat ≤ 281474976710656 ∧ (((16 : Int) - n.tmod (16 : Int)).tmod (16 : Int)).toNat ≤ 9223372036854775807, 0 + (((16 : Int) - n.tmod (16 : Int)).tmod (16 : Int)).toNat ≤ (List.replicate (((16 : Int) - n.tmod (16 : Int)).tmod (16 : Int)).toNat (BitVec.ofNat 8 0)).length]) := by kernel_rfl
def spFilled : List AV → Option (AV × List Prop)
  | [.val false [.i64 n]] => some (sc (.d8 (List.replicate (padN n.toNat) (BitVec.ofNat 8 0))), [0 ≤ n, n ≤ 100000])
  | _ => none
theorem ctFilled : CtSOk Try.prog 31 (.fn spFilled) := FnS_of_fnS gs0 fol fun ds r cs h hc => by
  unfold spFilled at h
  split at h
  case h_2 => simp at h
  rename_i n
  simp only [Option.some.injEq, Prod.mk.injEq] at h
  obtain ⟨rfl, rfl⟩ := h
  obtain ⟨h0, h1, _⟩ := hc
  obtain ⟨m, rfl⟩ := Int.eq_ofNat_of_zero_le h0
  have e1 : ((16 : Int) - ((m : Nat) : Int).tmod (16 : Int)) = ((16 - m % 16 : Nat) : Int) := by
    rw [show (16 : Int) = ((16 : Nat) : Int) from rfl, ← Int.ofNat_tmod]
    omega
  have e2 : ((16 - m % 16 : Nat) : Int).tmod (16 : Int) = ((padN m : Nat) : Int) := by
    rw [show (16 : Int) = ((16 : Nat) : Int) from rfl, ← Int.ofNat_tmod]
    rfl
  have hp : padN m < 16 := Nat.mod_lt _ (by decide)
  have r0 := runFilled ((m : Nat) : Int)
  rw [e1, e2] at r0
  have e3 : ((padN m : Nat) : Int).toNat = padN m := by omega
  rw [e3] at r0
  have e4 : ((m : Nat) : Int).toNat = m := by omega
  rw [e4]
  refine use_run r0 (by rw [cutL_eq rfl]; simp) ?_
  simp only [AllP, inI64, List.length_replicate]
  and_intros <;> first | exact True.intro | with_reducible rfl | omega
theorem runRightT (a b : List (BitVec 8)) : fnS Try.prog (lookG []) (orcA [(1, [(2, true)])]) [] 20 15 [sc (.d8 a), sc (.d8 b)] =
    some (sc (IV.bool ((↑b.length : Int) == (12 : Int))), [((↑a.length : Int) == (32 : Int)) = true]) := by kernel_rfl
theorem runRightF (a b : List (BitVec 8)) : fnS Try.prog (lookG []) (orcA [(1, [(2, false)])]) [] 20 15 [sc (.d8 a), sc (.d8 b)] =
    some (sc (IV.bool false), [((↑a.length : Int) == (32 : Int)) = false]) := by kernel_rfl
def rightV (k n : List (BitVec 8)) : Bool := decide (k.length = 32 ∧ n.length = 12)
def spRightA : List AV → Option (AV × List Prop)
  | [.val false [.d8 k], .val false [.d8 n]] => some (sc (.bool (rightV k n)), [])
  | _ => none
theorem ctRightA : CtSOk Try.prog 15 (.fn spRightA) := FnS_of_fnS gs0 fol fun ds r cs h hc => by
  unfold spRightA at h
  split at h
  case h_2 => simp at h
  rename_i a b
  simp only [Option.some.injEq, Prod.mk.injEq] at h
  obtain ⟨rfl, rfl⟩ := h
  by_cases h : a.length = 32
  · refine use_run (runRightT a b) ?_ ⟨by rw [h]; rfl, trivial⟩
    have : ((b.length : Int) == (12 : Int)) = rightV a b := by
      unfold rightV
      by_cases h2 : b.length = 12
      · rw [h2, decide_eq_true ⟨h, rfl⟩]; rfl
      · rw [decide_eq_false fun e => h2 e.2, beq_eq_false_iff_ne]; omega
    rw [this]
  · refine use_run (runRightF a b) (by rw [rightV, decide_eq_false fun e => h e.1]) ⟨by rw [beq_eq_false_iff_ne]; omega, trivial⟩
end Go.Proofs.Ytmedjfcmkalblaa
/- Contracts of layer 12's small functions: a number in eight bytes. Own work. -/
namespace Go.Proofs.Ytmedjfcmkalblaa
open Go.Ev Go.Sp Go.RowKit
set_option maxRecDepth 100000
theorem runBytes8 (x : BitVec 64) : fnS Try.prog (lookG []) (orcA [(9, [(1, false)])]) [] 20 29 [sc (.u64 x), sc (.i64 8)] =
    some (AV.tup [(false, [IV.d8 (cutL ((List.replicate 1 (BitVec.ofNat 8 0)).set 0 (BitVec.setWidth 8 x) ++ (List.replicate 1 (BitVec.ofNat 8 0)).set 0 (BitVec.setWidth 8 (x >>> 8)) ++ (List.replicate 1 (BitVec.ofNat 8 0)).set 0 (BitVec.setWidth 8 (x >>> 8 >>> 8)) ++ (List.replicate 1 (BitVec.ofNat 8 0)).set 0 (BitVec.setWidth 8 (x >>> 8 >>> 8 >>> 8)) ++ (List.replicate 1 (BitVec.ofNat 8 0)).set 0 (BitVec.setWidth 8 (x >>> 8 >>> 8 >>> 8 >>> 8)) ++ (List.replicate 1 (BitVec.ofNat 8 0)).set 0 (BitVec.setWidth 8 (x >>> 8 >>> 8 >>> 8 >>> 8 >>> 8)) ++ (List.replicate 1 (BitVec.ofNat 8 0)).set 0 (BitVec.setWidth 8 (x >>> 8 >>> 8 >>> 8 >>> 8 >>> 8 >>> 8)) ++ (List.replicate 1 (BitVec.ofNat 8 0)).set 0 (BitVec.setWidth 8 (x >>> 8 >>> 8 >>> 8 >>> 8 >>> 8 >>> 8 >>> 8))) 0 8 ((List.replicate 1 (BitVec.ofNat 8 0)).set 0 (BitVec.setWidth 8 x) ++ (List.replicate 1 (BitVec.ofNat 8 0)).set 0 (BitVec.setWidth 8 (x >>> 8)) ++ (List.replicate 1 (BitVec.ofNat 8 0)).set 0 (BitVec.setWidth 8 (x >>> 8 >>> 8)) ++ (List.replicate 1 (BitVec.ofNat 8 0)).set 0 (BitVec.setWidth 8 (x >>> 8 >>> 8 >>> 8)) ++ (List.replicate 1 (BitVec.ofNat 8 0)).set 0 (BitVec.setWidth 8 (x >>> 8 >>> 8 >>> 8 >>> 8)) ++ (List.replicate 1 (BitVec.ofNat 8 0)).set 0 (BitVec.setWidth 8 (x >>> 8 >>> 8 >>> 8 >>> 8 >>> 8)) ++ (List.replicate 1 (BitVec.ofNat 8 0)).set 0 (BitVec.setWidth 8 (x >>> 8 >>> 8 >>> 8 >>> 8 >>> 8 >>> 8)) ++ (List.replicate 1 (BitVec.ofNat 8 0)).set 0 (BitVec.setWidth 8 (x >>> 8 >>> 8 >>> 8 >>> 8 >>> 8 >>> 8 >>> 8))).length)]), (false, [IV.i64 (0 : Int)])], [1 = 1, 0 = 0, 1 ≤ 140737488355328 ∧ 1 ≤ 9223372036854775807, inI64 (1 : Int), 1 = 1, 1 = ((List.replicate 1 (BitVec.ofNat 8 0)).set 0 (BitVec.setWidth 8 x)).length, 2 ≤ 140737488355328 ∧ 2 ≤ 9223372036854775807, inI64 (2 : Int), 1 = 1, 2 = ((List.replicate 1 (BitVec.ofNat 8 0)).set 0 (BitVec.setWidth 8 x) ++ (List.replicate 1 (BitVec.ofNat 8 0)).set 0 (BitVec.setWidth 8 (x >>> 8))).length, 3 ≤ 140737488355328 ∧ 3 ≤ 9223372036854775807, inI64 (3 : Int), 1 = 1, 3 = ((List.replicate 1 (BitVec.ofNat 8 0)).set 0 (BitVec.setWidth 8 x) ++ (List.replicate 1 (BitVec.ofNat 8 0)).set 0 (BitVec.setWidth 8 (x >>> 8)) ++ (List.replicate 1 (BitVec.ofNat 8 0)).set 0 (BitVec.setWidth 8 (x >>> 8 >>> 8))).length, 4 ≤ 140737488355328 ∧ 4 ≤ 9223372036854775807, inI64 (4 : Int), 1 = 1, 4 = ((List.replicate 1 (BitVec.ofNat 8 0)).set 0 (BitVec.setWidth 8 x) ++ (List.replicate 1 (BitVec.ofNat 8 0)).set 0 (BitVec.setWidth 8 (x >>> 8)) ++ (List.replicate 1 (BitVec.ofNat 8 0)).set 0 (BitVec.setWidth 8 (x >>> 8 >>> 8)) ++ (List.replicate 1 (BitVec.ofNat 8 0)).set 0 (BitVec.setWidth 8 (x >>> 8 >>> 8 >>> 8))).length, 5 ≤ 140737488355328 ∧ 5 ≤ 9223372036854775807, inI64 (5 : Int), 1 = 1, 5 = ((List.replicate 1 (BitVec.ofNat 8 0)).set 0 (BitVec.setWidth 8 x) ++ (List.replicate 1 (BitVec.ofNat 8 0)).set 0 (BitVec.setWidth 8 (x >>> 8)) ++ (List.replicate 1 (BitVec.ofNat 8 0)).set 0 (BitVec.setWidth 8 (x >>> 8 >>> 8)) ++ (List.replicate 1 (BitVec.ofNat 8 0)).set 0 (BitVec.setWidth 8 (x >>> 8 >>> 8 >>> 8)) ++ (List.replicate 1 (BitVec.ofNat 8 0)).set 0 (BitVec.setWidth 8 (x >>> 8 >>> 8 >>> 8 >>> 8))).length, 6 ≤ 140737488355328 ∧ 6 ≤ 9223372036854775807, inI64 (6 : Int), 1 = 1, 6 = ((List.replicate 1 (BitVec.ofNat 8 0)).set 0 (BitVec.setWidth 8 x) ++ (List.replicate 1 (BitVec.ofNat 8 0)).set 0 (BitVec.setWidth 8 (x >>> 8)) ++ (List.replicate 1 (BitVec.ofNat 8 0)).set 0 (BitVec.setWidth 8 (x >>> 8 >>> 8)) ++ (List.replicate 1 (BitVec.ofNat 8 0)).set 0 (BitVec.setWidth 8 (x >>> 8 >>> 8 >>> 8)) ++ (List.replicate 1 (BitVec.ofNat 8 0)).set 0 (BitVec.setWidth 8 (x >>> 8 >>> 8 >>> 8 >>> 8)) ++ (List.replicate 1 (BitVec.ofNat 8 0)).set 0 (BitVec.setWidth 8 (x >>> 8 >>> 8 >>> 8 >>> 8 >>> 8))).length, 7 ≤ 140737488355328 ∧ 7 ≤ 9223372036854775807, inI64 (7 : Int), 1 = 1, 7 = ((List.replicate 1 (BitVec.ofNat 8 0)).set 0 (BitVec.setWidth 8 x) ++ (List.replicate 1 (BitVec.ofNat 8 0)).set 0 (BitVec.setWidth 8 (x >>> 8)) ++ (List.replicate 1 (BitVec.ofNat 8 0)).set 0 (BitVec.setWidth 8 (x >>> 8 >>> 8)) ++ (List.replicate 1 (BitVec.ofNat 8 0)).set 0 (BitVec.setWidth 8 (x >>> 8 >>> 8 >>> 8)) ++ (List.replicate 1 (BitVec.ofNat 8 0)).set 0 (BitVec.setWidth 8 (x >>> 8 >>> 8 >>> 8 >>> 8)) ++ (List.replicate 1 (BitVec.ofNat 8 0)).set 0 (BitVec.setWidth 8 (x >>> 8 >>> 8 >>> 8 >>> 8 >>> 8)) ++ (List.replicate 1 (BitVec.ofNat 8 0)).set 0 (BitVec.setWidth 8 (x >>> 8 >>> 8 >>> 8 >>> 8 >>> 8 >>> 8))).length, 8 ≤ 140737488355328 ∧ 8 ≤ 9223372036854775807, inI64 (8 : Int), (!x >>> 8 >>> 8 >>> 8 >>> 8 >>> 8 >>> 8 >>> 8 >>> 8 == BitVec.ofNat 64 0) = false, 8 ≤ ((List.replicate 1 (BitVec.ofNat 8 0)).set 0 (BitVec.setWidth 8 x) ++ (List.replicate 1 (BitVec.ofNat 8 0)).set 0 (BitVec.setWidth 8 (x >>> 8)) ++ (List.replicate 1 (BitVec.ofNat 8 0)).set 0 (BitVec.setWidth 8 (x >>> 8 >>> 8)) ++ (List.replicate 1 (BitVec.ofNat 8 0)).set 0 (BitVec.setWidth 8 (x >>> 8 >>> 8 >>> 8)) ++ (List.replicate 1 (BitVec.ofNat 8 0)).set 0 (BitVec.setWidth 8 (x >>> 8 >>> 8 >>> 8 >>> 8)) ++ (List.replicate 1 (BitVec.ofNat 8 0)).set 0 (BitVec.setWidth 8 (x >>> 8 >>> 8 >>> 8 >>> 8 >>> 8)) ++ (List.replicate 1 (BitVec.ofNat 8 0)).set 0 (BitVec.setWidth 8 (x >>> 8 >>> 8 >>> 8 >>> 8 >>> 8 >>> 8)) ++ (List.replicate 1 (BitVec.ofNat 8 0)).set 0 (BitVec.setWidth 8 (x >>> 8 >>> 8 >>> 8 >>> 8 >>> 8 >>> 8 >>> 8))).length]) := by kernel_rfl
theorem runLow8 (x : BitVec 64) : fnS Try.prog (lookG []) (orcA []) [] 20 21 [sc (.u64 x), sc (.i64 8)] =
    some (sc (IV.d8 (cutL ((List.replicate 1 (BitVec.ofNat 8 0)).set 0 (BitVec.setWidth 8 (x % BitVec.ofNat 64 256)) ++ (List.replicate 1 (BitVec.ofNat 8 0)).set 0 (BitVec.setWidth 8 (x / BitVec.ofNat 64 256 % BitVec.ofNat 64 256)) ++ (List.replicate 1 (BitVec.ofNat 8 0)).set 0 (BitVec.setWidth 8 (x / BitVec.ofNat 64 256 / BitVec.ofNat 64 256 % BitVec.ofNat 64 256)) ++ (List.replicate 1 (BitVec.ofNat 8 0)).set 0 (BitVec.setWidth 8 (x / BitVec.ofNat 64 256 / BitVec.ofNat 64 256 / BitVec.ofNat 64 256 % BitVec.ofNat 64 256)) ++ (List.replicate 1 (BitVec.ofNat 8 0)).set 0 (BitVec.setWidth 8 (x / BitVec.ofNat 64 256 / BitVec.ofNat 64 256 / BitVec.ofNat 64 256 / BitVec.ofNat 64 256 % BitVec.ofNat 64 256)) ++ (List.replicate 1 (BitVec.ofNat 8 0)).set 0 (BitVec.setWidth 8 (x / BitVec.ofNat 64 256 / BitVec.ofNat 64 256 / BitVec.ofNat 64 256 / BitVec.ofNat 64 256 / BitVec.ofNat 64 256 % BitVec.ofNat 64 256)) ++ (List.replicate 1 (BitVec.ofNat 8 0)).set 0 (BitVec.setWidth 8 (x / BitVec.ofNat 64 256 / BitVec.ofNat 64 256 / BitVec.ofNat 64 256 / BitVec.ofNat 64 256 / BitVec.ofNat 64 256 / BitVec.ofNat 64 256 % BitVec.ofNat 64 256)) ++ (List.replicate 1 (BitVec.ofNat 8 0)).set 0 (BitVec.setWidth 8 (x / BitVec.ofNat 64 256 / BitVec.ofNat 64 256 / BitVec.ofNat 64 256 / BitVec.ofNat 64 256 / BitVec.ofNat 64 256 / BitVec.ofNat 64 256 / BitVec.ofNat 64 256 % BitVec.ofNat 64 256))) 0 8 ((List.replicate 1 (BitVec.ofNat 8 0)).set 0 (BitVec.setWidth 8 (x % BitVec.ofNat 64 256)) ++ (List.replicate 1 (BitVec.ofNat 8 0)).set 0 (BitVec.setWidth 8 (x / BitVec.ofNat 64 256 % BitVec.ofNat 64 256)) ++ (List.replicate 1 (BitVec.ofNat 8 0)).set 0 (BitVec.setWidth 8 (x / BitVec.ofNat 64 256 / BitVec.ofNat 64 256 % BitVec.ofNat 64 256)) ++ (List.replicate 1 (BitVec.ofNat 8 0)).set 0 (BitVec.setWidth 8 (x / BitVec.ofNat 64 256 / BitVec.ofNat 64 256 / BitVec.ofNat 64 256 % BitVec.ofNat 64 256)) ++ (List.replicate 1 (BitVec.ofNat 8 0)).set 0 (BitVec.setWidth 8 (x / BitVec.ofNat 64 256 / BitVec.ofNat 64 256 / BitVec.ofNat 64 256 / BitVec.ofNat 64 256 % BitVec.ofNat 64 256)) ++ (List.replicate 1 (BitVec.ofNat 8 0)).set 0 (BitVec.setWidth 8 (x / BitVec.ofNat 64 256 / BitVec.ofNat 64 256 / BitVec.ofNat 64 256 / BitVec.ofNat 64 256 / BitVec.ofNat 64 256 % BitVec.ofNat 64 256)) ++ (List.replicate 1 (BitVec.ofNat 8 0)).set 0 (BitVec.setWidth 8 (x / BitVec.ofNat 64 256 / BitVec.ofNat 64 256 / BitVec.ofNat 64 256 / BitVec.ofNat 64 256 / BitVec.ofNat 64 256 / BitVec.ofNat 64 256 % BitVec.ofNat 64 256)) ++ (List.replicate 1 (BitVec.ofNat 8 0)).set 0 (BitVec.setWidth 8 (x / BitVec.ofNat 64 256 / BitVec.ofNat 64 256 / BitVec.ofNat 64 256 / BitVec.ofNat 64 256 / BitVec.ofNat 64 256 / BitVec.ofNat 64 256 / BitVec.ofNat 64 256 % BitVec.ofNat 64 256))).length)), [256 ≠ 0, 1 = 1, 0 = 0, 1 ≤ 140737488355328 ∧ 1 ≤ 9223372036854775807, 256 ≠ 0, inI64 (1 : Int), 256 ≠ 0, 1 = 1, 1 = ((List.replicate 1 (BitVec.ofNat 8 0)).set 0 (BitVec.setWidth 8 (x % BitVec.ofNat 64 256))).length, 2 ≤ 140737488355328 ∧ 2 ≤ 9223372036854775807, 256 ≠ 0, inI64 (2 : Int), 256 ≠ 0, 1 = 1, 2 = ((List.replicate 1 (BitVec.ofNat 8 0)).set 0 (BitVec.setWidth 8 (x % BitVec.ofNat 64 256)) ++ (List.replicate 1 (BitVec.ofNat 8 0)).set 0 (BitVec.setWidth 8 (x / BitVec.ofNat 64 256 % BitVec.ofNat 64 256))).length, 3 ≤ 140737488355328 ∧ 3 ≤ 9223372036854775807, 256 ≠ 0, inI64 (3 : Int), 256 ≠ 0, 1 = 1, 3 = ((List.replicate 1 (BitVec.ofNat 8 0)).set 0 (BitVec.setWidth 8 (x % BitVec.ofNat 64 256)) ++ (List.replicate 1 (BitVec.ofNat 8 0)).set 0 (BitVec.setWidth 8 (x / BitVec.ofNat 64 256 % BitVec.ofNat 64 256)) ++ (List.replicate 1 (BitVec.ofNat 8 0)).set 0 (BitVec.setWidth 8 (x / BitVec.ofNat 64 256 / BitVec.ofNat 64 256 % BitVec.ofNat 64 256))).length, 4 ≤ 140737488355328 ∧ 4 ≤ 9223372036854775807, 256 ≠ 0, inI64 (4 : Int), 256 ≠ 0, 1 = 1, 4 = ((List.replicate 1 (BitVec.ofNat 8 0)).set 0 (BitVec.setWidth 8 (x % BitVec.ofNat 64 256)) ++ (List.replicate 1 (BitVec.ofNat 8 0)).set 0 (BitVec.setWidth 8 (x / BitVec.ofNat 64 256 % BitVec.ofNat 64 256)) ++ (List.replicate 1 (BitVec.ofNat 8 0)).set 0 (BitVec.setWidth 8 (x / BitVec.ofNat 64 256 / BitVec.ofNat 64 256 % BitVec.ofNat 64 256)) ++ (List.replicate 1 (BitVec.ofNat 8 0)).set 0 (BitVec.setWidth 8 (x / BitVec.ofNat 64 256 / BitVec.ofNat 64 256 / BitVec.ofNat 64 256 % BitVec.ofNat 64 256))).length, 5 ≤ 140737488355328 ∧ 5 ≤ 9223372036854775807, 256 ≠ 0, inI64 (5 : Int), 256 ≠ 0, 1 = 1, 5 = ((List.replicate 1 (BitVec.ofNat 8 0)).set 0 (BitVec.setWidth 8 (x % BitVec.ofNat 64 256)) ++ (List.replicate 1 (BitVec.ofNat 8 0)).set 0 (BitVec.setWidth 8 (x / BitVec.ofNat 64 256 % BitVec.ofNat 64 256)) ++ (List.replicate 1 (BitVec.ofNat 8 0)).set 0 (BitVec.setWidth 8 (x / BitVec.ofNat 64 256 / BitVec.ofNat 64 256 % BitVec.ofNat 64 256)) ++ (List.replicate 1 (BitVec.ofNat 8 0)).set 0 (BitVec.setWidth 8 (x / BitVec.ofNat 64 256 / BitVec.ofNat 64 256 / BitVec.ofNat 64 256 % BitVec.ofNat 64 256)) ++ (List.replicate 1 (BitVec.ofNat 8 0)).set 0 (BitVec.setWidth 8 (x / BitVec.ofNat 64 256 / BitVec.ofNat 64 256 / BitVec.ofNat 64 256 / BitVec.ofNat 64 256 % BitVec.ofNat 64 256))).length, 6 ≤ 140737488355328 ∧ 6 ≤ 9223372036854775807, 256 ≠ 0, inI64 (6 : Int), 256 ≠ 0, 1 = 1, 6 = ((List.replicate 1 (BitVec.ofNat 8 0)).set 0 (BitVec.setWidth 8 (x % BitVec.ofNat 64 256)) ++ (List.replicate 1 (BitVec.ofNat 8 0)).set 0 (BitVec.setWidth 8 (x / BitVec.ofNat 64 256 % BitVec.ofNat 64 256)) ++ (List.replicate 1 (BitVec.ofNat 8 0)).set 0 (BitVec.setWidth 8 (x / BitVec.ofNat 64 256 / BitVec.ofNat 64 256 % BitVec.ofNat 64 256)) ++ (List.replicate 1 (BitVec.ofNat 8 0)).set 0 (BitVec.setWidth 8 (x / BitVec.ofNat 64 256 / BitVec.ofNat 64 256 / BitVec.ofNat 64 256 % BitVec.ofNat 64 256)) ++ (List.replicate 1 (BitVec.ofNat 8 0)).set 0 (BitVec.setWidth 8 (x / BitVec.ofNat 64 256 / BitVec.ofNat 64 256 / BitVec.ofNat 64 256 / BitVec.ofNat 64 256 % BitVec.ofNat 64 256)) ++ (List.replicate 1 (BitVec.ofNat 8 0)).set 0 (BitVec.setWidth 8 (x / BitVec.ofNat 64 256 / BitVec.ofNat 64 256 / BitVec.ofNat 64 256 / BitVec.ofNat 64 256 / BitVec.ofNat 64 256 % BitVec.ofNat 64 256))).length, 7 ≤ 140737488355328 ∧ 7 ≤ 9223372036854775807, 256 ≠ 0, inI64 (7 : Int), 256 ≠ 0, 1 = 1, 7 = ((List.replicate 1 (BitVec.ofNat 8 0)).set 0 (BitVec.setWidth 8 (x % BitVec.ofNat 64 256)) ++ (List.replicate 1 (BitVec.ofNat 8 0)).set 0 (BitVec.setWidth 8 (x / BitVec.ofNat 64 256 % BitVec.ofNat 64 256)) ++ (List.replicate 1 (BitVec.ofNat 8 0)).set 0 (BitVec.setWidth 8 (x / BitVec.ofNat 64 256 / BitVec.ofNat 64 256 % BitVec.ofNat 64 256)) ++ (List.replicate 1 (BitVec.ofNat 8 0)).set 0 (BitVec.setWidth 8 (x / BitVec.ofNat 64 256 / BitVec.ofNat 64 256 / BitVec.ofNat 64 256 % BitVec.ofNat 64 256)) ++ (List.replicate 1 (BitVec.ofNat 8 0)).set 0 (BitVec.setWidth 8 (x / BitVec.ofNat 64 256 / BitVec.ofNat 64 256 / BitVec.ofNat 64 256 / BitVec.ofNat 64 256 % BitVec.ofNat 64 256)) ++ (List.replicate 1 (BitVec.ofNat 8 0)).set 0 (BitVec.setWidth 8 (x / BitVec.ofNat 64 256 / BitVec.ofNat 64 256 / BitVec.ofNat 64 256 / BitVec.ofNat 64 256 / BitVec.ofNat 64 256 % BitVec.ofNat 64 256)) ++ (List.replicate 1 (BitVec.ofNat 8 0)).set 0 (BitVec.setWidth 8 (x / BitVec.ofNat 64 256 / BitVec.ofNat 64 256 / BitVec.ofNat 64 256 / BitVec.ofNat 64 256 / BitVec.ofNat 64 256 / BitVec.ofNat 64 256 % BitVec.ofNat 64 256))).length, 8 ≤ 140737488355328 ∧ 8 ≤ 9223372036854775807, 256 ≠ 0, inI64 (8 : Int), 8 ≤ ((List.replicate 1 (BitVec.ofNat 8 0)).set 0 (BitVec.setWidth 8 (x % BitVec.ofNat 64 256)) ++ (List.replicate 1 (BitVec.ofNat 8 0)).set 0 (BitVec.setWidth 8 (x / BitVec.ofNat 64 256 % BitVec.ofNat 64 256)) ++ (List.replicate 1 (BitVec.ofNat 8 0)).set 0 (BitVec.setWidth 8 (x / BitVec.ofNat 64 256 / BitVec.ofNat 64 256 % BitVec.ofNat 64 256)) ++ (List.replicate 1 (BitVec.ofNat 8 0)).set 0 (BitVec.setWidth 8 (x / BitVec.ofNat 64 256 / BitVec.ofNat 64 256 / BitVec.ofNat 64 256 % BitVec.ofNat 64 256)) ++ (List.replicate 1 (BitVec.ofNat 8 0)).set 0 (BitVec.setWidth 8 (x / BitVec.ofNat 64 256 / BitVec.ofNat 64 256 / BitVec.ofNat 64 256 / BitVec.ofNat 64 256 % BitVec.ofNat 64 256)) ++ (List.replicate 1 (BitVec.ofNat 8 0)).set 0 (BitVec.setWidth 8 (x / BitVec.ofNat 64 256 / BitVec.ofNat 64 256 / BitVec.ofNat 64 256 / BitVec.ofNat 64 256 / BitVec.ofNat 64 256 % BitVec.ofNat 64 256)) ++ (List.replicate 1 (BitVec.ofNat 8 0)).set 0 (BitVec.setWidth 8 (x / BitVec.ofNat 64 256 / BitVec.ofNat 64 256 / BitVec.ofNat 64 256 / BitVec.ofNat 64 256 / BitVec.ofNat 64 256 / BitVec.ofNat 64 256 % BitVec.ofNat 64 256)) ++ (List.replicate 1 (BitVec.ofNat 8 0)).set 0 (BitVec.setWidth 8 (x / BitVec.ofNat 64 256 / BitVec.ofNat 64 256 / BitVec.ofNat 64 256 / BitVec.ofNat 64 256 / BitVec.ofNat 64 256 / BitVec.ofNat 64 256 / BitVec.ofNat 64 256 % BitVec.ofNat 64 256))).length]) := by kernel_rfl
def spBytes8 : List AV → Option (AV × List Prop)
  | [.val false [.u64 x], .val false [.i64 n]] => some (.tup [(false, [.d8 (bl x.toNat 8)]), (false, [.i64 0])], [n = 8])
  | _ => none
def spLow8 : List AV → Option (AV × List Prop)
  | [.val false [.u64 x], .val false [.i64 n]] => some (sc (.d8 (bl x.toNat 8)), [n = 8])
  | _ => none
theorem bl8 (n : Nat) : bl n 8 = [BitVec.ofNat 8 n, BitVec.ofNat 8 (n / 256), BitVec.ofNat 8 (n / 65536), BitVec.ofNat 8 (n / 16777216), BitVec.ofNat 8 (n / 4294967296), BitVec.ofNat 8 (n / 1099511627776), BitVec.ofNat 8 (n / 281474976710656), BitVec.ofNat 8 (n / 72057594037927936)] := by
  show [BitVec.ofNat 8 (n / 1), _, _, _, _, _, _, _] = _
  rw [Nat.div_one]
theorem sw {x : BitVec 64} {n : Nat} (h : x.toNat = n) : BitVec.setWidth 8 x = BitVec.ofNat 8 n := by
  apply BitVec.eq_of_toNat_eq
  rw [BitVec.toNat_setWidth, BitVec.toNat_ofNat, h]
theorem sw2 {x : BitVec 64} {n : Nat} (h : x.toNat = n) : BitVec.setWidth 8 (x % BitVec.ofNat 64 256) = BitVec.ofNat 8 n := by
  apply BitVec.eq_of_toNat_eq
  rw [BitVec.toNat_setWidth, BitVec.toNat_ofNat, BitVec.toNat_umod, h, BitVec.toNat_ofNat, show (256 : Nat) % 2 ^ 64 = 256 by decide, show (2 : Nat) ^ 8 = 256 by decide, Nat.mod_mod]
theorem sh8 {x : BitVec 64} {n : Nat} (h : x.toNat = n) : (x >>> 8).toNat = n / 256 := by
  rw [BitVec.toNat_ushiftRight, h, Nat.shiftRight_eq_div_pow]
theorem dv8 {x : BitVec 64} {n : Nat} (h : x.toNat = n) : (x / BitVec.ofNat 64 256).toNat = n / 256 := by
  rw [BitVec.toNat_udiv, h, BitVec.toNat_ofNat, show (256 : Nat) % 2 ^ 64 = 256 by decide]
theorem d2 (n : Nat) : n / 256 / 256 = n / 65536 := by rw [Nat.div_div_eq_div_mul]
theorem d3 (n : Nat) : n / 65536 / 256 = n / 16777216 := by rw [Nat.div_div_eq_div_mul]
theorem d4 (n : Nat) : n / 16777216 / 256 = n / 4294967296 := by rw [Nat.div_div_eq_div_mul]
theorem d5 (n : Nat) : n / 4294967296 / 256 = n / 1099511627776 := by rw [Nat.div_div_eq_div_mul]
theorem d6 (n : Nat) : n / 1099511627776 / 256 = n / 281474976710656 := by rw [Nat.div_div_eq_div_mul]
theorem d7 (n : Nat) : n / 281474976710656 / 256 = n / 72057594037927936 := by rw [Nat.div_div_eq_div_mul]
theorem ctBytes8 : CtSOk Try.prog 29 (.fn spBytes8) := FnS_of_fnS gs0 fol fun ds r cs h hc => by
  unfold spBytes8 at h
  split at h
  case h_2 => simp at h
  rename_i x n
  simp only [Option.some.injEq, Prod.mk.injEq] at h
  obtain ⟨rfl, rfl⟩ := h
  obtain ⟨rfl, _⟩ := hc
  have h0 : x.toNat = x.toNat := rfl
  have h1 := sh8 h0
  have h2 := (sh8 h1).trans (d2 _)
  have h3 := (sh8 h2).trans (d3 _)
  have h4 := (sh8 h3).trans (d4 _)
  have h5 := (sh8 h4).trans (d5 _)
  have h6 := (sh8 h5).trans (d6 _)
  have h7 := (sh8 h6).trans (d7 _)
  have h8 := sh8 h7
  have r0 := runBytes8 x
  have hz : x >>> 8 >>> 8 >>> 8 >>> 8 >>> 8 >>> 8 >>> 8 >>> 8 = BitVec.ofNat 64 0 := by
    apply BitVec.eq_of_toNat_eq
    rw [h8]
    have := x.isLt
    show _ = 0
    omega
  rw [sw h0, sw h1, sw h2, sw h3, sw h4, sw h5, sw h6, sw h7] at r0
  refine use_run r0 (by rw [bl8]; rfl) ?_
  rw [hz]
  simp only [AllP, inI64, List.length_append, List.length_set, List.length_replicate]
  and_intros <;> first | exact True.intro | with_reducible rfl | omega | rfl
theorem ctLow8 : CtSOk Try.prog 21 (.fn spLow8) := FnS_of_fnS gs0 fol fun ds r cs h hc => by
  unfold spLow8 at h
  split at h
  case h_2 => simp at h
  rename_i x n
  simp only [Option.some.injEq, Prod.mk.injEq] at h
  obtain ⟨rfl, rfl⟩ := h
  obtain ⟨rfl, _⟩ := hc
  have h0 : x.toNat = x.toNat := rfl
  have h1 := dv8 h0
  have h2 := (dv8 h1).trans (d2 _)
  have h3 := (dv8 h2).trans (d3 _)
  have h4 := (dv8 h3).trans (d4 _)
  have h5 := (dv8 h4).trans (d5 _)
  have h6 := (dv8 h5).trans (d6 _)
  have h7 := (dv8 h6).trans (d7 _)
  have r0 := runLow8 x
  rw [sw2 h0, sw2 h1, sw2 h2, sw2 h3, sw2 h4, sw2 h5, sw2 h6, sw2 h7] at r0
  refine use_run r0 (by rw [bl8]; rfl) ?_
  simp only [AllP, inI64, List.length_append, List.length_set, List.length_replicate]
  and_intros <;> first | exact True.intro | with_reducible rfl | omega | rfl
end Go.Proofs.Ytmedjfcmkalblaa
/- Words turned to the left, plainly. Own work; no program in sight. -/
namespace Go.Sp

/-- A word turned to the left. -/
def rot (x : BitVec 32) (n : Nat) : BitVec 32 := x <<< n ||| x >>> (32 - n)
theorem rot_toNat (x : BitVec 32) {n : Nat} (h : n ≤ 32) : (rot x n).toNat = x.toNat % 2 ^ (32 - n) * 2 ^ n + x.toNat / 2 ^ (32 - n) := by
  have hx := x.isLt
  unfold rot
  rw [BitVec.toNat_or, BitVec.toNat_shiftLeft, BitVec.toNat_ushiftRight, Nat.shiftRight_eq_div_pow, Nat.shiftLeft_eq]
  have e : x.toNat * 2 ^ n % 2 ^ 32 = (x.toNat % 2 ^ (32 - n)) <<< n := by
    rw [Nat.shiftLeft_eq]
    have : (2 : Nat) ^ 32 = 2 ^ (32 - n) * 2 ^ n := by rw [← Nat.pow_add]; congr 1; omega
    rw [this, Nat.mul_mod_mul_right]
  have hlt : x.toNat / 2 ^ (32 - n) < 2 ^ n := by
    rw [Nat.div_lt_iff_lt_mul (Nat.pow_pos (by omega)), ← Nat.pow_add]
    have : n + (32 - n) = 32 := by omega
    rw [this]
    exact hx
  rw [e, ← Nat.shiftLeft_add_eq_or_of_lt hlt, Nat.shiftLeft_eq]
theorem rot_zero (x : BitVec 32) : rot x 0 = x := by
  apply BitVec.eq_of_toNat_eq
  rw [rot_toNat x (by omega)]
  have := x.isLt
  simp
  omega
theorem rot_step (X P M : Nat) (hP : 0 < P) (hX : X < 2 * P * M) (y : Nat) (hy : y = X % (2 * P) * M + X / (2 * P)) :
    y * 2 % (2 * (P * M)) + y / (P * M) = X % P * (2 * M) + X / P := by
  obtain ⟨s, r, hr, e⟩ : ∃ s r, r < P ∧ X = P * s + r := ⟨X / P, X % P, Nat.mod_lt _ hP, (Nat.div_add_mod X P).symm⟩
  subst e
  have d1 : (P * s + r) / P = s := by rw [Nat.mul_add_div hP, Nat.div_eq_of_lt hr, Nat.add_zero]
  have d2 : (P * s + r) % P = r := by rw [Nat.mul_add_mod, Nat.mod_eq_of_lt hr]
  have d3 : (P * s + r) / (2 * P) = s / 2 := by rw [Nat.mul_comm 2 P, ← Nat.div_div_eq_div_mul, d1]
  have d4 : (P * s + r) % (2 * P) = P * (s % 2) + r := by
    have h := Nat.div_add_mod (P * s + r) (2 * P)
    rw [d3] at h
    have h2 : P * s = 2 * P * (s / 2) + P * (s % 2) := by
      have := Nat.div_add_mod s 2
      calc P * s = P * (2 * (s / 2) + s % 2) := by rw [this]
        _ = 2 * P * (s / 2) + P * (s % 2) := by rw [Nat.mul_add]; congr 1; ac_rfl
    omega
  rw [d1, d2]
  rw [d3, d4] at hy
  have hs : s < 2 * M := by
    have : P * s < P * (2 * M) := by
      have : 2 * P * M = P * (2 * M) := by ac_rfl
      omega
    exact Nat.lt_of_mul_lt_mul_left this
  have hsum : r * M + s / 2 < P * M := by
    have h1 : (r + 1) * M ≤ P * M := Nat.mul_le_mul_right _ hr
    rw [Nat.add_mul] at h1
    omega
  have hy2 : y = P * M * (s % 2) + (r * M + s / 2) := by
    rw [hy, Nat.add_mul]
    have : P * (s % 2) * M = P * M * (s % 2) := by ac_rfl
    omega
  have hpos : 0 < P * M := by omega
  have q1 : y / (P * M) = s % 2 := by rw [hy2, Nat.mul_add_div hpos, Nat.div_eq_of_lt hsum, Nat.add_zero]
  have q2 : y * 2 % (2 * (P * M)) = 2 * (r * M + s / 2) := by
    rw [Nat.mul_comm y 2, Nat.mul_mod_mul_left, hy2, Nat.mul_add_mod, Nat.mod_eq_of_lt hsum]
  rw [q1, q2]
  have : r * (2 * M) = 2 * (r * M) := by ac_rfl
  omega
theorem rot_next (x : BitVec 32) {n : Nat} (h : n < 32) : rot x n * 2#32 + rot x n / 2147483648#32 = rot x (n + 1) := by
  have hx := x.isLt
  apply BitVec.eq_of_toNat_eq
  have hs := rot_step x.toNat (2 ^ (31 - n)) (2 ^ n) (Nat.pow_pos (by omega)) (by
    have : 2 * 2 ^ (31 - n) * 2 ^ n = 2 ^ 32 := by
      rw [← Nat.pow_succ', ← Nat.pow_add]
      congr 1
      omega
    rw [this]; exact hx) (rot x n).toNat (by
      have : 2 * 2 ^ (31 - n) = 2 ^ (32 - n) := by rw [← Nat.pow_succ']; congr 1; omega
      rw [this]
      exact rot_toNat x (by omega))
  have e1 : 2 ^ (31 - n) * 2 ^ n = 2147483648 := by
    rw [← Nat.pow_add]
    have : 31 - n + n = 31 := by omega
    rw [this]
  rw [e1] at hs
  have e2 : 32 - (n + 1) = 31 - n := by omega
  have rt := rot_toNat x (show n + 1 ≤ 32 by omega)
  rw [e2, Nat.pow_succ' (n := n), ← hs] at rt
  have hlt := (rot x (n + 1)).isLt
  rw [BitVec.toNat_add, BitVec.toNat_mul, BitVec.toNat_udiv, show (2#32).toNat = 2 from rfl, show (2147483648#32).toNat = 2147483648 from rfl]
  omega

/-- The quarter of four words. -/
def qr (a b c d : BitVec 32) : BitVec 32 × BitVec 32 × BitVec 32 × BitVec 32 :=
  let a := a + b
  let d := rot (d ^^^ a) 16
  let c := c + d
  let b := rot (b ^^^ c) 12
  let a := a + b
  let d := rot (d ^^^ a) 8
  let c := c + d
  let b := rot (b ^^^ c) 7
  (a, b, c, d)
end Go.Sp
/- Contracts of layer 10's quarters. Own work. -/
namespace Go.Proofs.Ytmedjfcmkalblaa.Ls
open Go.Ev Go.Sp Go.RowKit
set_option maxRecDepth 100000

theorem fol : Try.prog.follows .mixedOrders = true := by kernel_rfl
theorem gs0 : GSound Try.prog (upG (lookG [])) := GSound_of_tbl (l := []) trivial
theorem runTurn (w : BitVec 32) (n : Int) : fnS Try.prog (lookG []) (orcA []) [] 10 56 [sc (.u32 w), sc (.i64 n)] =
    some (sc (IV.u32 (w <<< n.toNat ||| w >>> ((32 : Int) - n).toNat)), [(0 : Int) ≤ n, inI64 ((32 : Int) - n), (0 : Int) ≤ (32 : Int) - n]) := by kernel_rfl
def leftTdLs : List Nat := [0, 1, 5]
def leftInvLs (w : BitVec 32) (n i : Int) : St := ⟨slotsOf 17 [(0, sc (.u32 w)), (1, sc (.i64 n)), (5, sc (.i64 i))], [], 16⟩
theorem leftRoundLs (w : BitVec 32) (n i : Int) : roundS Try.prog (lookG []) (orcA [(2, [(2, true)])]) [] 10 leftTdLs (bodyAt Try.prog 51 2) (leftInvLs w n i) =
    some (Ex.normal, St.mk (slotsOf 17 [(0, sc (IV.u32 (w * BitVec.ofNat 32 2 + w / BitVec.ofNat 32 2147483648))), (1, sc (IV.i64 n)), (5, sc (IV.i64 (i + (1 : Int))))]) [] 16, [decide (i < n) = true, inI64 (i + (1 : Int))]) := by kernel_rfl
theorem leftExitLs (w : BitVec 32) (n i : Int) : roundS Try.prog (lookG []) (orcA [(2, [(2, false)])]) [] 10 leftTdLs (bodyAt Try.prog 51 2) (leftInvLs w n i) =
    some (Ex.exit 0, St.mk (slotsOf 17 [(0, sc (IV.u32 w)), (1, sc (IV.i64 n)), (5, sc (IV.i64 i))]) [] 16, [decide (i < n) = false]) := by kernel_rfl
theorem runLeftLs (w w2 : BitVec 32) (n i : Int) : fnS Try.prog (lookG []) (orcA []) [⟨2, leftTdLs, .exit 0, leftInvLs w2 n i⟩] 10 51 [sc (.u32 w), sc (.i64 n)] =
    some (sc (IV.u32 w2), [LoopTo Try.prog (bodyAt Try.prog 51 2) (St.mk (slotsOf 17 [(0, sc (IV.u32 w)), (1, sc (IV.i64 n)), (5, sc (IV.i64 (0 : Int)))]) [] 16) (Ex.exit 0) (St.mk (slotsOf 17 [(0, sc (IV.u32 w2)), (1, sc (IV.i64 n)), (5, sc (IV.i64 i))]) [] 16)]) := by kernel_rfl
def spRot : List AV → Option (AV × List Prop)
  | [.val false [.u32 w], .val false [.i64 n]] => some (sc (.u32 (rot w n.toNat)), [0 ≤ n, n ≤ 32])
  | _ => none
theorem ctTurn : CtSOk Try.prog 56 (.fn spRot) := FnS_of_fnS gs0 fol fun ds r cs h hc => by
  unfold spRot at h
  split at h
  case h_2 => simp at h
  rename_i w n
  simp only [Option.some.injEq, Prod.mk.injEq] at h
  obtain ⟨rfl, rfl⟩ := h
  obtain ⟨h0, h1, _⟩ := hc
  refine use_run (runTurn w n) ?_ ?_
  · have e : ((32 : Int) - n).toNat = 32 - n.toNat := by omega
    rw [e]
    rfl
  · simp only [AllP, inI64]
    and_intros <;> first | omega | trivial
theorem leftLoopLs (w : BitVec 32) (n : Nat) (hn : n ≤ 32) : LoopTo Try.prog (bodyAt Try.prog 51 2) (leftInvLs w (n : Nat) 0) (.exit 0) (leftInvLs (rot w n) (n : Nat) (n : Nat)) := by
  refine LoopTo.intro (α := Nat × BitVec 32) gs0 fol (fun s => leftInvLs s.2 (n : Nat) (s.1 : Nat)) (fun s => s.1 ≤ n ∧ s.2 = rot w s.1) (fun s => n - s.1) (by simp) ?_ (0, w) ⟨by simp, (rot_zero w).symm⟩
  rintro ⟨i, x⟩ ⟨hi, hx⟩
  dsimp only at hi hx ⊢
  subst hx
  by_cases he : i = n
  · subst he
    exact .inr ⟨_, _, _, _, _, leftExitLs _ _ _, by simp, trivial⟩
  · refine .inl ⟨_, _, _, _, _, (i + 1, _), leftRoundLs _ _ _, ?_, ⟨by simp only; omega, rot_next w (by omega)⟩, by simp only; omega⟩
    simp only [AllP, inI64, decide_eq_true_eq]
    and_intros <;> first | omega | decide | trivial
theorem ctLeft : CtSOk Try.prog 51 (.fn spRot) := FnS_of_fnS gs0 fol fun ds r cs h hc => by
  unfold spRot at h
  split at h
  case h_2 => simp at h
  rename_i w n
  simp only [Option.some.injEq, Prod.mk.injEq] at h
  obtain ⟨rfl, rfl⟩ := h
  obtain ⟨h0, h1, _⟩ := hc
  obtain ⟨k, rfl⟩ := Int.eq_ofNat_of_zero_le h0
  exact use_run (runLeftLs w (rot w k) k k) (by rw [Int.toNat_natCast]) ⟨leftLoopLs w k (by omega), trivial⟩
def tblQ : List (FuncId × CtS) := [(56, .fn spRot), (51, .fn spRot)]
theorem gsQ : GSound Try.prog (upG (lookG tblQ)) := GSound_of_tbl ⟨⟨ctTurn, by kernel_rfl⟩, ⟨ctLeft, by kernel_rfl⟩, trivial⟩
def qL (a b c d : BitVec 32) : List (BitVec 32) := [(qr a b c d).1, (qr a b c d).2.1, (qr a b c d).2.2.1, (qr a b c d).2.2.2]
def qC : List Prop := [(0 : Int) ≤ (16 : Int), (16 : Int) ≤ (32 : Int), (0 : Int) ≤ (12 : Int), (12 : Int) ≤ (32 : Int), (0 : Int) ≤ (8 : Int), (8 : Int) ≤ (32 : Int), (0 : Int) ≤ (7 : Int), (7 : Int) ≤ (32 : Int)]
theorem qC_ok : AllP qC := by
  simp only [qC, AllP]
  and_intros <;> first | omega | trivial
theorem runQ (a b c d : BitVec 32) : fnS Try.prog (lookG tblQ) orc0 [] 10 43 [.val true [.v32 4 [a, b, c, d]]] = some (.val true [.v32 4 (qL a b c d)], qC) := by kernel_rfl
theorem runRQ (a b c d : BitVec 32) : fnS Try.prog (lookG tblQ) orc0 [] 10 34 [sc (.u32 a), sc (.u32 b), sc (.u32 c), sc (.u32 d)] = some (sc (.d32 (qL a b c d)), [(0 : Int) ≤ (16 : Int), (16 : Int) ≤ (32 : Int), (0 : Int) ≤ (12 : Int), (12 : Int) ≤ (32 : Int), (0 : Int) ≤ (8 : Int), (8 : Int) ≤ (32 : Int), (0 : Int) ≤ (7 : Int), (7 : Int) ≤ (32 : Int), 4 ≤ 4]) := by kernel_rfl
def spQ : List AV → Option (AV × List Prop)
  | [.val true [.v32 4 [a, b, c, d]]] => some (.val true [.v32 4 (qL a b c d)], [])
  | _ => none
theorem ctQ : CtSOk Try.prog 43 (.fn spQ) := FnS_of_fnS gsQ fol fun ds r cs h hc => by
  unfold spQ at h
  split at h
  case h_2 => simp at h
  rename_i a b c d
  simp only [Option.some.injEq, Prod.mk.injEq] at h
  obtain ⟨rfl, rfl⟩ := h
  exact use_run (runQ a b c d) rfl qC_ok
def spRQ : List AV → Option (AV × List Prop)
  | [.val false [.u32 a], .val false [.u32 b], .val false [.u32 c], .val false [.u32 d]] => some (sc (.d32 (qL a b c d)), [])
  | _ => none
theorem ctRQ : CtSOk Try.prog 34 (.fn spRQ) := FnS_of_fnS gsQ fol fun ds r cs h hc => by
  unfold spRQ at h
  split at h
  case h_2 => simp at h
  rename_i a b c d
  simp only [Option.some.injEq, Prod.mk.injEq] at h
  obtain ⟨rfl, rfl⟩ := h
  refine use_run (runRQ a b c d) rfl ?_
  simp only [AllP]
  and_intros <;> first | omega | trivial
def tblAwake : List (FuncId × CtS) := [(43, .fn spQ)]
theorem gsAwake : GSound Try.prog (upG (lookG tblAwake)) := GSound_of_tbl ⟨⟨ctQ, by kernel_rfl⟩, trivial⟩
def spAwake : List AV → Option (AV × List Prop)
  | [] => some (sc (.bool true), [])
  | _ => none
end Go.Proofs.Ytmedjfcmkalblaa.Ls
/- What a closure's code comes to, where it has no loop. Own work; no statement of the seat is proved here. -/
namespace Go.Ev
open Go.RowKit
/-- As T, and all that was known stands where it stood. -/
def TX (P : Program) (c : Code) (σ : St) (Q : Exit → St → Prop) : Prop :=
  ∀ base ρ a w, Rel base σ ρ a w → c.wp P (fun e a' w' => ∃ σ' ρ', Q e σ' ∧ Ext ρ ρ' ∧ Rel base σ' ρ' a' w') a w
section
variable {P : Program} {Q : Exit → St → Prop} {σ : St}
theorem TX.region {Γ : FuncId → Option Ct} (hΓ : GSound P Γ) (hm : P.follows .mixedOrders = true) {id : Nat} {ops : Array Oper} {draw : Bool} {σ' : St} (h : evR P Γ ops draw σ = some σ') (hq : Q .normal σ') : TX P (.region id ops draw) σ Q := by
  intro base ρ a w hr
  unfold evR at h
  split at h
  · simp at h
  rename_i hd
  split at h
  case h_2 => simp at h
  rename_i q hrun
  simp at h
  subst h
  have hF := runL_runF ops.toList 0 σ.slots σ.heap q (fun i => by simp) hrun
  have fin : ∀ (ρ' : Nat → Pl) (a' : Act) (w' : World), Ext ρ ρ' → RelF σ.next base ρ' a' w' ⟨q.1, hget q.2⟩ (fun j => decide (j < ops.size)) → ∃ σ'' ρ'', Q .normal σ'' ∧ Ext ρ ρ'' ∧ Rel base σ'' ρ'' a' w' := by
    intro ρ' a' w' hx hr'
    refine ⟨_, ρ', hq, hx, hr'.defers, hr'.slots, hr'.heap, hr'.below, fun k hk hu => ?_⟩
    have hk' : σ.next ≤ k := by simp at hk; omega
    have := hr'.fresh k hk' hu
    simp at this hk
    omega
  have hlen : ops.toList.length = ops.size := by simp
  rw [hlen] at hF
  cases draw with
  | true =>
    simp only [Bool.true_and, Bool.not_eq_true', Bool.not_eq_false] at hd
    simp only [if_true] at hF
    exact region_draw hΓ (N := σ.next) hm hd hr hF fin
  | false =>
    simp only [Bool.false_eq_true, if_false] at hF
    exact region_seq hΓ fin hr hF
theorem TX.seq {x y : Code} (h : TX P x σ (andThen (fun σ' => TX P y σ' Q) Q)) : TX P (.seq x y) σ Q := by
  intro base ρ a w hr
  refine wp_seq (wp_mono (h base ρ a w hr) ?_)
  rintro e a' w' ⟨σ', ρ', q, hx, r⟩
  cases e with
  | normal => exact wp_mono (q base ρ' a' w' r) fun e a2 w2 ⟨σ2, ρ2, q2, hx2, r2⟩ => ⟨σ2, ρ2, q2, hx.trans hx2, r2⟩
  | _ => exact ⟨σ', ρ', q, hx, r⟩
theorem TX.cond {c : Operand} {x y : Code} {b : Bool} (hb : aeval σ.slots c = sc (.bool b)) (h : TX P (if b then x else y) σ Q) : TX P (.cond c x y) σ Q := by
  intro base ρ a w hr
  have hv := aeval_ok hr.slots c
  have hs : (toF σ).slots = σ.slots := rfl
  rw [hs, hb] at hv
  have := VRepr_sc.1 hv
  simp [ICells, PCells] at this
  exact wp_cond this.symm (h base ρ a w hr)
theorem TX.block {id : Nat} {c : Code} (h : TX P c σ (inBlk id Q)) : TX P (.block id c) σ Q := by
  intro base ρ a w hr
  refine wp_block (wp_mono (h base ρ a w hr) ?_)
  rintro e a' w' ⟨σ', ρ', q, hx, r⟩
  cases e with
  | exit id' =>
    simp only [Exit.inBlock]
    simp only [inBlk] at q
    split
    · rename_i e; rw [if_pos e] at q; exact ⟨σ', ρ', q, hx, r⟩
    · rename_i e; rw [if_neg e] at q; exact ⟨σ', ρ', q, hx, r⟩
  | _ => exact ⟨σ', ρ', q, hx, r⟩
theorem TX.scope {c : Code} (h : TX P c σ (noGo Q)) : TX P (.scope c) σ Q := by
  intro base ρ a w hr
  refine wp_scope_straight (wp_mono (h base ρ a w hr) ?_)
  rintro e a' w' ⟨σ', ρ', q, hx, r⟩
  cases e with
  | goto l => exact q.elim
  | _ => exact ⟨σ', ρ', q, hx, r⟩
end
def flat : Code → Bool
  | .skip => true
  | .region .. => true
  | .seq x y => flat x && flat y
  | .cond _ x y => flat x && flat y
  | .block _ c => flat c
  | .scope c => flat c
  | .exit _ => true
  | .label _ => true
  | .ret => true
  | _ => false
section
variable {P : Program} {Γ : FuncId → Option CtS} {orc : Nat → Orc} {fuel : Nat}
theorem TX.runS (hΓ : GSound P (upG Γ)) (hm : P.follows .mixedOrders = true) (ho : ∀ i, (orc i).inl = none) : ∀ (c : Code) {σ σ' : St} {e : Ex} {cs : List Prop} {Q : Exit → St → Prop}, flat c = true → evS P Γ orc [] fuel c σ = some (e, σ', cs) → AllP cs → Q e.up σ' → TX P c σ Q := by
  intro c
  induction c with
  | skip => intro σ σ' e cs Q _ h _ hq; simp [evS] at h; obtain ⟨rfl, rfl, rfl⟩ := h; exact fun _ ρ _ _ hr => wp_skip ⟨σ, ρ, hq, Ext.refl ρ, hr⟩
  | region id ops draw =>
    intro σ σ' e cs Q _ h hc hq
    simp only [evS, ho] at h
    cases hr : evRS P Γ (orc id) ops draw σ with
    | none => simp [hr] at h
    | some t => simp [hr] at h; obtain ⟨rfl, rfl, rfl⟩ := h; exact TX.region hΓ hm (evRS_ok hr hc) hq
  | seq x y ihx ihy =>
    intro σ σ' e cs Q hf h hc hq
    simp only [flat, Bool.and_eq_true] at hf
    simp only [evS] at h
    refine TX.seq ?_
    cases hx : evS P Γ orc [] fuel x σ with
    | none => simp [hx] at h
    | some r =>
      obtain ⟨e1, s1, c1⟩ := r
      rw [hx] at h
      cases e1 with
      | normal =>
        simp only at h
        cases hy : evS P Γ orc [] fuel y s1 with
        | none => simp [hy] at h
        | some r =>
          obtain ⟨e2, s2, c2⟩ := r
          rw [hy] at h
          simp at h
          obtain ⟨rfl, rfl, rfl⟩ := h
          obtain ⟨q1, q2⟩ := AllP_append hc
          exact ihx hf.1 hx q1 (show TX P y s1 Q from ihy hf.2 hy q2 hq)
      | exit id => simp at h; obtain ⟨rfl, rfl, rfl⟩ := h; exact ihx hf.1 hx hc hq
      | ret => simp at h; obtain ⟨rfl, rfl, rfl⟩ := h; exact ihx hf.1 hx hc hq
  | cond c x y ihx ihy =>
    intro σ σ' e cs Q hf h hc hq
    simp only [flat, Bool.and_eq_true] at hf
    simp only [evS] at h
    split at h
    · rename_i hb; exact TX.cond (b := true) hb (ihx hf.1 h hc hq)
    · rename_i hb; exact TX.cond (b := false) hb (ihy hf.2 h hc hq)
    · simp at h
  | block id c ih =>
    intro σ σ' e cs Q hf h hc hq
    simp only [evS] at h
    refine TX.block ?_
    cases hx : evS P Γ orc [] fuel c σ with
    | none => simp [hx] at h
    | some r =>
      obtain ⟨e1, s1, c1⟩ := r
      rw [hx] at h
      cases e1 with
      | normal => simp at h; obtain ⟨rfl, rfl, rfl⟩ := h; exact ih hf hx hc hq
      | exit id' =>
        simp only at h
        split at h
        · rename_i he
          simp at h
          obtain ⟨rfl, rfl, rfl⟩ := h
          refine ih hf hx hc ?_
          show (if id' = id then Q .normal s1 else Q (.exit id') s1)
          rw [if_pos he]; exact hq
        · rename_i he
          simp at h
          obtain ⟨rfl, rfl, rfl⟩ := h
          refine ih hf hx hc ?_
          show (if id' = id then Q .normal s1 else Q (.exit id') s1)
          rw [if_neg he]; exact hq
      | ret => simp at h; obtain ⟨rfl, rfl, rfl⟩ := h; exact ih hf hx hc hq
  | scope c ih =>
    intro σ σ' e cs Q hf h hc hq
    simp only [evS] at h
    refine TX.scope (ih hf h hc ?_)
    cases e <;> exact hq
  | exit id => intro σ σ' e cs Q _ h _ hq; simp [evS] at h; obtain ⟨rfl, rfl, rfl⟩ := h; exact fun _ ρ _ _ hr => wp_exit ⟨σ, ρ, hq, Ext.refl ρ, hr⟩
  | label l => intro σ σ' e cs Q _ h _ hq; simp [evS] at h; obtain ⟨rfl, rfl, rfl⟩ := h; exact fun _ ρ _ _ hr => wp_label ⟨σ, ρ, hq, Ext.refl ρ, hr⟩
  | ret => intro σ σ' e cs Q _ h _ hq; simp [evS] at h; obtain ⟨rfl, rfl, rfl⟩ := h; exact fun _ ρ _ _ hr => wp_ret ⟨σ, ρ, hq, Ext.refl ρ, hr⟩
  | loop c ih => intro σ σ' e cs Q hf; simp [flat] at hf
  | goto l => intro σ σ' e cs Q hf; simp [flat] at hf
  | rangeFunc f p a b => intro σ σ' e cs Q hf; simp [flat] at hf
  | refuse w => intro σ σ' e cs Q hf; simp [flat] at hf
/-- A closure's answer, from the caller's memory. -/
def cloS (P : Program) (Γ : FuncId → Option CtS) (orc : Nat → Orc) (fuel : Nat) (g : FuncId) (args : List AV) (heap : Heap) (next : Nat) : Option (AV × Heap × Nat × List Prop) :=
  match P.funcs[g]? with
  | none => none
  | some fn => match fn.body with
    | none => none
    | some c =>
      if flat c && callable P g then
        match evS P Γ orc [] fuel c ⟨args ++ List.replicate (fn.ntmps - args.length) (.tup []), heap, next⟩ with
        | some (.exit _, _, _) => none
        | some (_, σ, cs) => (ares P σ fn.results.toList).map fun m => (aresV m, σ.heap, σ.next, cs)
        | none => none
      else none
theorem CloTo_of_cloS (hΓ : GSound P (upG Γ)) (hm : P.follows .mixedOrders = true) (ho : ∀ i, (orc i).inl = none) {g : FuncId} {args : List AV} {heap heap' : Heap} {next next' : Nat} {r : AV} {cs : List Prop}
    (h : cloS P Γ orc fuel g args heap next = some (r, heap', next', cs)) (hc : AllP cs) : CloTo P g args heap next r heap' next' := by
  unfold cloS at h
  split at h
  · simp at h
  rename_i fn hfn
  split at h
  · simp at h
  rename_i c hb
  split at h
  case isFalse => simp at h
  rename_i hfl
  simp only [Bool.and_eq_true] at hfl
  refine ⟨hfl.2, fun base ρ w vals hv hh hbl hfree => ?_⟩
  have key : ∀ (e : Ex) (σ : St) (cs1 : List Prop), evS P Γ orc [] fuel c ⟨args ++ List.replicate (fn.ntmps - args.length) (.tup []), heap, next⟩ = some (e, σ, cs1) → (e = .normal ∨ e = .ret) → (ares P σ fn.results.toList).map (fun m => (aresV m, σ.heap, σ.next, cs1)) = some (r, heap', next', cs) →
      Calls P g vals.toArray w fun e w' => ∃ v ρ', e = .returned v ∧ Ext ρ ρ' ∧ VRepr ρ' r v ∧ HOk base.heap.size ρ' w' (hget heap') ∧ Below base.heap.size base w' ∧ ∀ k, next' ≤ k → ρ' k = .un := by
    intro e σ cs1 hev he hres
    cases hm' : ares P σ fn.results.toList with
    | none => simp [hm'] at hres
    | some m =>
      simp only [hm', Option.map_some, Option.some.injEq, Prod.mk.injEq] at hres
      obtain ⟨rfl, rfl, rfl, rfl⟩ := hres
      refine calls_of_wp hfn hb ?_
      have hrel : Rel base ⟨args ++ List.replicate (fn.ntmps - args.length) (.tup []), heap, next⟩ ρ { tmps := vals.toArray ++ Array.replicate (fn.ntmps - vals.toArray.size) undef, defers := [] } w := by
        refine ⟨rfl, ?_, hh, hbl, fun k hk hu => absurd (hfree k hk) hu⟩
        have hlen := hv.length
        have : (vals.toArray ++ Array.replicate (fn.ntmps - vals.toArray.size) undef).toList = vals ++ List.replicate (fn.ntmps - vals.length) undef := by simp
        rw [this, ← hlen]
        refine hv.append ?_
        generalize fn.ntmps - args.length = q
        induction q with
        | zero => trivial
        | succ q ih => exact ⟨VRepr_undef ρ, ih⟩
      refine wp_mono (TX.runS hΓ hm ho c (Q := fun e' σ' => (e' = .normal ∨ e' = .ret) ∧ σ' = σ) hfl.1 hev hc ⟨by rcases he with rfl | rfl <;> simp [Ex.up], rfl⟩ base ρ _ w hrel) ?_
      rintro e' a' w' ⟨σ', ρ', ⟨he', rfl⟩, hx, hr'⟩
      obtain ⟨vs, h1, h2⟩ := ares_ok hr' _ _ hm'
      have hv' : VRepr ρ' (aresV m) (if h : vs.length = 1 then vs[0] else .tuple vs.toArray) := by
        have hl := h2.length
        match m, vs, h2 with
        | [], [], _ => exact ⟨[], rfl, trivial⟩
        | [p], [v], h2 => exact h2.1
        | p :: p2 :: m, v :: v2 :: vs, h2 => exact ⟨v :: v2 :: vs, by simp, h2⟩
      have hfr : ∀ k, σ'.next ≤ k → ρ' k = .un := fun k hk => by
        by_cases hu : ρ' k = .un
        · exact hu
        · have := hr'.fresh k hk hu
          simp at this
      rcases he' with rfl | rfl
      · exact ⟨hr'.defers, _, results_run h1, _, ρ', rfl, hx, hv', hr'.heap, hr'.below, hfr⟩
      · exact ⟨hr'.defers, _, results_run h1, _, ρ', rfl, hx, hv', hr'.heap, hr'.below, hfr⟩
  split at h
  · simp at h
  · rename_i e σ cs1 hne hev
    cases e with
    | exit id => exact absurd rfl (hne id)
    | normal => exact key .normal σ cs1 hev (.inl rfl) h
    | ret => exact key .ret σ cs1 hev (.inr rfl) h
  · simp at h
end
end Go.Ev
/- Contracts of layer 10's blocks: the program's words. Own work. -/
namespace Go.Proofs.Ytmedjfcmkalblaa.Ls
open Go.Ev Go.Sp Go.RowKit
set_option maxRecDepth 100000
/-- A quarter at four places. -/
def qAt (w : List (BitVec 32)) (i j k n : Nat) : List (BitVec 32) :=
  let q := qL (w.getD i 0) (w.getD j 0) (w.getD k 0) (w.getD n 0)
  (((w.set i (q.getD 0 0)).set j (q.getD 1 0)).set k (q.getD 2 0)).set n (q.getD 3 0)
def dblR (w : List (BitVec 32)) : List (BitVec 32) :=
  qAt (qAt (qAt (qAt (qAt (qAt (qAt (qAt w 0 4 8 12) 1 5 9 13) 2 6 10 14) 3 7 11 15) 0 5 10 15) 1 6 11 12) 2 7 8 13) 3 4 9 14
def dblN (w : List (BitVec 32)) : Nat → List (BitVec 32)
  | 0 => w
  | n + 1 => dblR (dblN w n)
def bkTd : List Nat := [1, 2, 3, 12]
def bkZ : List (BitVec 32) := [BitVec.ofNat 32 0, BitVec.ofNat 32 0, BitVec.ofNat 32 0, BitVec.ofNat 32 0, BitVec.ofNat 32 0, BitVec.ofNat 32 0, BitVec.ofNat 32 0, BitVec.ofNat 32 0, BitVec.ofNat 32 0, BitVec.ofNat 32 0, BitVec.ofNat 32 0, BitVec.ofNat 32 0, BitVec.ofNat 32 0, BitVec.ofNat 32 0, BitVec.ofNat 32 0, BitVec.ofNat 32 0]
def bkInv (s w : List (BitVec 32)) (i : Int) : St := ⟨slotsOf 84 [(1, sc (.ptr 0 0)), (2, sc (.ptr 1 0)), (3, sc (.ptr 2 0)), (12, sc (.i64 i))], [(0, ⟨true, [.v32 16 s]⟩), (1, ⟨true, [.v32 16 bkZ]⟩), (2, ⟨true, [.v32 16 w]⟩)], 16⟩
theorem bkRes (s w : List (BitVec 32)) (i : Int) : roundS Try.prog (lookG tblAwake) (orcOf [3, 19] [(3, [(0, true)])]) [] 10 bkTd (bodyAt Try.prog 27 3) (bkInv s w i) = some (.normal, bkInv s (dblR w) (i + 1), [decide (i < (10 : Int)) = true, inI64 (i + 1)]) := by kernel_rfl
theorem bkExit (s w : List (BitVec 32)) (i : Int) : roundS Try.prog (lookG tblAwake) (orcOf [3, 19] [(3, [(0, false)])]) [] 10 bkTd (bodyAt Try.prog 27 3) (bkInv s w i) =
    some (Ex.exit 0, St.mk (slotsOf 84 [(1, sc (IV.ptr 0 0)), (2, sc (IV.ptr 1 0)), (3, sc (IV.ptr 2 0)), (12, sc (IV.i64 i))]) [(0, Blk.mk true [IV.v32 16 s]), (1, Blk.mk true [IV.v32 16 bkZ]), (2, Blk.mk true [IV.v32 16 w])] 16, [decide (i < (10 : Int)) = false]) := by kernel_rfl
def sumL (w s : List (BitVec 32)) : List (BitVec 32) := (List.range 16).map fun i => w.getD i 0 + s.getD i 0
theorem runBlk (w0 w1 w2 w3 w4 w5 w6 w7 w8 w9 w10 w11 w12 w13 w14 w15 : BitVec 32) (l : List (BitVec 32)) (i : Int) : fnS Try.prog (lookG tblAwake) orc0 [⟨3, bkTd, .exit 0, bkInv l [w0, w1, w2, w3, w4, w5, w6, w7, w8, w9, w10, w11, w12, w13, w14, w15] i⟩] 30 27 [.val true [.v32 16 l]] =
    some (.val true [.v32 16 [w0 + l.getD 0 0#32, w1 + l.getD 1 0#32, w2 + l.getD 2 0#32, w3 + l.getD 3 0#32, w4 + l.getD 4 0#32, w5 + l.getD 5 0#32, w6 + l.getD 6 0#32, w7 + l.getD 7 0#32, w8 + l.getD 8 0#32, w9 + l.getD 9 0#32, w10 + l.getD 10 0#32, w11 + l.getD 11 0#32, w12 + l.getD 12 0#32, w13 + l.getD 13 0#32, w14 + l.getD 14 0#32, w15 + l.getD 15 0#32]], [LoopTo Try.prog (bodyAt Try.prog 27 3) (bkInv l l 0) (.exit 0) (bkInv l [w0, w1, w2, w3, w4, w5, w6, w7, w8, w9, w10, w11, w12, w13, w14, w15] i)]) := by kernel_rfl
theorem qAt_len (w : List (BitVec 32)) (i j k n : Nat) : (qAt w i j k n).length = w.length := by simp [qAt]
theorem dblR_len (w : List (BitVec 32)) : (dblR w).length = w.length := by simp only [dblR, qAt_len]
theorem dblN_len (w : List (BitVec 32)) : ∀ n, (dblN w n).length = w.length
  | 0 => rfl
  | n + 1 => by rw [dblN, dblR_len, dblN_len w n]
theorem list16w {l : List (BitVec 32)} (h : l.length = 16) : ∃ w0 w1 w2 w3 w4 w5 w6 w7 w8 w9 w10 w11 w12 w13 w14 w15, l = [w0, w1, w2, w3, w4, w5, w6, w7, w8, w9, w10, w11, w12, w13, w14, w15] := by
  match l, h with
  | [w0, w1, w2, w3, w4, w5, w6, w7, w8, w9, w10, w11, w12, w13, w14, w15], _ => exact ⟨_, _, _, _, _, _, _, _, _, _, _, _, _, _, _, _, rfl⟩
def blkW (l : List (BitVec 32)) : List (BitVec 32) := sumL (dblN l 10) l
theorem blkW_len (l : List (BitVec 32)) : (blkW l).length = 16 := by simp [blkW, sumL]
theorem bkLoop (l : List (BitVec 32)) : LoopTo Try.prog (bodyAt Try.prog 27 3) (bkInv l l 0) (.exit 0) (bkInv l (dblN l 10) 10) := by
  refine LoopTo.intro (α := Nat) gsAwake fol (fun j => bkInv l (dblN l j) (j : Nat)) (fun j => j ≤ 10) (fun j => 10 - j) (by simp) ?_ 0 (by simp)
  intro j hj
  by_cases he : j = 10
  · subst he
    exact .inr ⟨_, _, _, _, _, bkExit _ _ _, rfl, trivial⟩
  · exact .inl ⟨_, _, _, _, _, j + 1, bkRes l (dblN l j) (j : Nat), ⟨decide_eq_true (by omega), by unfold inI64; omega, trivial⟩, by omega, by omega⟩
def spBlk : List AV → Option (AV × List Prop)
  | [.val true [.v32 16 l]] => some (.val true [.v32 16 (blkW l)], [l.length = 16])
  | _ => none
theorem ctBlk : CtSOk Try.prog 27 (.fn spBlk) := FnS_of_fnS gsAwake fol fun ds r cs h hc => by
  unfold spBlk at h
  split at h
  case h_2 => simp at h
  rename_i l
  simp only [Option.some.injEq, Prod.mk.injEq] at h
  obtain ⟨rfl, rfl⟩ := h
  have hl := bkLoop l
  have h16 : (dblN l 10).length = 16 := by rw [dblN_len]; exact hc.1
  obtain ⟨w0, w1, w2, w3, w4, w5, w6, w7, w8, w9, w10, w11, w12, w13, w14, w15, h⟩ := list16w h16
  rw [h] at hl
  refine use_run (runBlk w0 w1 w2 w3 w4 w5 w6 w7 w8 w9 w10 w11 w12 w13 w14 w15 l 10) ?_ ⟨hl, trivial⟩
  rw [blkW, h]; rfl
def wdP (b : List (BitVec 8)) (i : Nat) : BitVec 32 := (b.getD (4 * i) 0).setWidth 32 ||| (b.getD (4 * i + 1) 0).setWidth 32 <<< 8 ||| (b.getD (4 * i + 2) 0).setWidth 32 <<< 16 ||| (b.getD (4 * i + 3) 0).setWidth 32 <<< 24
def stateL (k n : List (BitVec 8)) (c : BitVec 32) : List (BitVec 32) :=
  [0x61707865#32, 0x3320646e#32, 0x79622d32#32, 0x6b206574#32, wdP k 0, wdP k 1, wdP k 2, wdP k 3, wdP k 4, wdP k 5, wdP k 6, wdP k 7, c, wdP n 0, wdP n 1, wdP n 2]
theorem runWordLs (b : List (BitVec 8)) : fnS Try.prog (lookG []) (orcA []) [] 10 42 [sc (.d8 b)] =
    some (sc (IV.u32 (BitVec.setWidth 32 (b.getD 0 (BitVec.ofNat 8 0)) ||| BitVec.setWidth 32 (b.getD 1 (BitVec.ofNat 8 0)) <<< 8 ||| BitVec.setWidth 32 (b.getD 2 (BitVec.ofNat 8 0)) <<< 16 ||| BitVec.setWidth 32 (b.getD 3 (BitVec.ofNat 8 0)) <<< 24)), [(0 : Int) ≤ (0 : Int), 0 < b.length, 0 < b.length, (0 : Int) ≤ (1 : Int), 1 < b.length, 1 < b.length, (0 : Int) ≤ (2 : Int), 2 < b.length, 2 < b.length, (0 : Int) ≤ (3 : Int), 3 < b.length, 3 < b.length]) := by kernel_rfl
def spWordLs : List AV → Option (AV × List Prop)
  | [.val false [.d8 b]] => some (sc (.u32 (wdP b 0)), [4 ≤ b.length])
  | _ => none
theorem ctWordLs : CtSOk Try.prog 42 (.fn spWordLs) := FnS_of_fnS gs0 fol fun ds r cs h hc => by
  unfold spWordLs at h
  split at h
  case h_2 => simp at h
  rename_i b
  simp only [Option.some.injEq, Prod.mk.injEq] at h
  obtain ⟨rfl, rfl⟩ := h
  have hb := hc.1
  refine use_run (runWordLs b) rfl ?_
  simp only [AllP]
  and_intros <;> first | exact True.intro | rfl | omega
def tblS : List (FuncId × CtS) := [(42, .fn spWordLs)]
theorem okS : TblOk Try.prog tblS := ⟨⟨ctWordLs, by kernel_rfl⟩, trivial⟩
theorem gsS : GSound Try.prog (upG (lookG tblS)) := GSound_of_tbl okS
theorem runState (k n : List (BitVec 8)) (c : BitVec 32) : fnS Try.prog (lookG tblS) (orcP [] [(5, [6]), (10, [6])]) [] 20 25 [sc (.d8 k), sc (.d8 n), sc (.u32 c)] =
    some (AV.val true [IV.v32 16 (((((((((((((((([BitVec.ofNat 32 0, BitVec.ofNat 32 0, BitVec.ofNat 32 0, BitVec.ofNat 32 0, BitVec.ofNat 32 0, BitVec.ofNat 32 0, BitVec.ofNat 32 0, BitVec.ofNat 32 0, BitVec.ofNat 32 0, BitVec.ofNat 32 0, BitVec.ofNat 32 0, BitVec.ofNat 32 0, BitVec.ofNat 32 0, BitVec.ofNat 32 0, BitVec.ofNat 32 0, BitVec.ofNat 32 0].set 0 (BitVec.ofNat 32 1634760805)).set 1 (BitVec.ofNat 32 857760878)).set 2 (BitVec.ofNat 32 2036477234)).set 3 (BitVec.ofNat 32 1797285236)).set 12 c).set 4 (wdP (cutL k 0 (k.length - 0) k.length) 0)).set 5 (wdP (cutL k 4 (k.length - 4) k.length) 0)).set 6 (wdP (cutL k 8 (k.length - 8) k.length) 0)).set 7 (wdP (cutL k 12 (k.length - 12) k.length) 0)).set 8 (wdP (cutL k 16 (k.length - 16) k.length) 0)).set 9 (wdP (cutL k 20 (k.length - 20) k.length) 0)).set 10 (wdP (cutL k 24 (k.length - 24) k.length) 0)).set 11 (wdP (cutL k 28 (k.length - 28) k.length) 0)).set 13 (wdP (cutL n 0 (n.length - 0) n.length) 0)).set 14 (wdP (cutL n 4 (n.length - 4) n.length) 0)).set 15 (wdP (cutL n 8 (n.length - 8) n.length) 0))], [inI64 (4 : Int), inI64 (0 : Int), (0 : Int) ≤ (0 : Int), 0 ≤ k.length, k.length ≤ k.length, 0 + (k.length - 0) ≤ k.length, 4 ≤ (cutL k 0 (k.length - 0) k.length).length, (0 : Int) ≤ (4 : Int), 4 < 16, 4 < 16, inI64 (1 : Int), inI64 (5 : Int), inI64 (4 : Int), (0 : Int) ≤ (4 : Int), 4 ≤ k.length, k.length ≤ k.length, 4 + (k.length - 4) ≤ k.length, 4 ≤ (cutL k 4 (k.length - 4) k.length).length, (0 : Int) ≤ (5 : Int), 5 < 16, 5 < 16, inI64 (2 : Int), inI64 (6 : Int), inI64 (8 : Int), (0 : Int) ≤ (8 : Int), 8 ≤ k.length, k.length ≤ k.length, 8 + (k.length - 8) ≤ k.length, 4 ≤ (cutL k 8 (k.length - 8) k.length).length, (0 : Int) ≤ (6 : Int), 6 < 16, 6 < 16, inI64 (3 : Int), inI64 (7 : Int), inI64 (12 : Int), (0 : Int) ≤ (12 : Int), 12 ≤ k.length, k.length ≤ k.length, 12 + (k.length - 12) ≤ k.length, 4 ≤ (cutL k 12 (k.length - 12) k.length).length, (0 : Int) ≤ (7 : Int), 7 < 16, 7 < 16, inI64 (4 : Int), inI64 (8 : Int), inI64 (16 : Int), (0 : Int) ≤ (16 : Int), 16 ≤ k.length, k.length ≤ k.length, 16 + (k.length - 16) ≤ k.length, 4 ≤ (cutL k 16 (k.length - 16) k.length).length, (0 : Int) ≤ (8 : Int), 8 < 16, 8 < 16, inI64 (5 : Int), inI64 (9 : Int), inI64 (20 : Int), (0 : Int) ≤ (20 : Int), 20 ≤ k.length, k.length ≤ k.length, 20 + (k.length - 20) ≤ k.length, 4 ≤ (cutL k 20 (k.length - 20) k.length).length, (0 : Int) ≤ (9 : Int), 9 < 16, 9 < 16, inI64 (6 : Int), inI64 (10 : Int), inI64 (24 : Int), (0 : Int) ≤ (24 : Int), 24 ≤ k.length, k.length ≤ k.length, 24 + (k.length - 24) ≤ k.length, 4 ≤ (cutL k 24 (k.length - 24) k.length).length, (0 : Int) ≤ (10 : Int), 10 < 16, 10 < 16, inI64 (7 : Int), inI64 (11 : Int), inI64 (28 : Int), (0 : Int) ≤ (28 : Int), 28 ≤ k.length, k.length ≤ k.length, 28 + (k.length - 28) ≤ k.length, 4 ≤ (cutL k 28 (k.length - 28) k.length).length, (0 : Int) ≤ (11 : Int), 11 < 16, 11 < 16, inI64 (8 : Int), inI64 (13 : Int), inI64 (0 : Int), (0 : Int) ≤ (0 : Int), 0 ≤ n.length, n.length ≤ n.length, 0 + (n.length - 0) ≤ n.length, 4 ≤ (cutL n 0 (n.length - 0) n.length).length, (0 : Int) ≤ (13 : Int), 13 < 16, 13 < 16, inI64 (1 : Int), inI64 (14 : Int), inI64 (4 : Int), (0 : Int) ≤ (4 : Int), 4 ≤ n.length, n.length ≤ n.length, 4 + (n.length - 4) ≤ n.length, 4 ≤ (cutL n 4 (n.length - 4) n.length).length, (0 : Int) ≤ (14 : Int), 14 < 16, 14 < 16, inI64 (2 : Int), inI64 (15 : Int), inI64 (8 : Int), (0 : Int) ≤ (8 : Int), 8 ≤ n.length, n.length ≤ n.length, 8 + (n.length - 8) ≤ n.length, 4 ≤ (cutL n 8 (n.length - 8) n.length).length, (0 : Int) ≤ (15 : Int), 15 < 16, 15 < 16, inI64 (3 : Int)]) := by kernel_rfl
end Go.Proofs.Ytmedjfcmkalblaa.Ls
