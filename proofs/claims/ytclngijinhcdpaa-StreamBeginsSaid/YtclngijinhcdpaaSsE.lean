/- Contracts of layer 10's blocks: the document's. Own work. -/
import Derived.Test.YtclngijinhcdpaaSsD
namespace Go.Proofs.Ytclngijinhcdpaa
open Go.Ev Go.Sp Go.RowKit
set_option maxRecDepth 100000
def woTd : List Nat := [0, 3, 4]
def woInv (b : List (BitVec 8)) (o : List (BitVec 32)) (i : Int) : St := ⟨slotsOf 45 [(0, sc (.sl 0 0 b.length)), (3, sc (.sl 1 0 o.length)), (4, sc (.i64 i))], [(0, ⟨false, [.v8 b.length b]⟩), (1, ⟨true, [.v32 o.length o]⟩)], 16⟩
theorem woRound (b : List (BitVec 8)) (o : List (BitVec 32)) (i : Int) : roundS Try.prog (lookG []) (orcA [(3, [(4, true)])]) [] 10 woTd (bodyAt Try.prog 21 3) (woInv b o i) =
    some (Ex.normal, St.mk (slotsOf 45 [(0, sc (IV.sl 0 0 b.length)), (3, sc (IV.sl 1 0 (o.length + 1))), (4, sc (IV.i64 (i + (4 : Int))))]) [(0, Blk.mk false [IV.v8 b.length b]), (1, Blk.mk true [IV.v32 (o ++ (List.replicate 1 (BitVec.ofNat 32 0)).set 0 (BitVec.setWidth 32 (b.getD (0 + i.toNat * 1) (BitVec.ofNat 8 0)) + BitVec.ofNat 32 256 * BitVec.setWidth 32 (b.getD (0 + (i + (1 : Int)).toNat * 1) (BitVec.ofNat 8 0)) + BitVec.ofNat 32 65536 * BitVec.setWidth 32 (b.getD (0 + (i + (2 : Int)).toNat * 1) (BitVec.ofNat 8 0)) + BitVec.ofNat 32 16777216 * BitVec.setWidth 32 (b.getD (0 + (i + (3 : Int)).toNat * 1) (BitVec.ofNat 8 0)))).length (o ++ (List.replicate 1 (BitVec.ofNat 32 0)).set 0 (BitVec.setWidth 32 (b.getD (0 + i.toNat * 1) (BitVec.ofNat 8 0)) + BitVec.ofNat 32 256 * BitVec.setWidth 32 (b.getD (0 + (i + (1 : Int)).toNat * 1) (BitVec.ofNat 8 0)) + BitVec.ofNat 32 65536 * BitVec.setWidth 32 (b.getD (0 + (i + (2 : Int)).toNat * 1) (BitVec.ofNat 8 0)) + BitVec.ofNat 32 16777216 * BitVec.setWidth 32 (b.getD (0 + (i + (3 : Int)).toNat * 1) (BitVec.ofNat 8 0))))])] 16, [inI64 (i + (3 : Int)), decide (i + (3 : Int) < (↑b.length : Int)) = true, (0 : Int) ≤ i, i.toNat < b.length, 0 + i.toNat * 1 < b.length, inI64 (i + (1 : Int)), (0 : Int) ≤ i + (1 : Int), (i + (1 : Int)).toNat < b.length, 0 + (i + (1 : Int)).toNat * 1 < b.length, inI64 (i + (2 : Int)), (0 : Int) ≤ i + (2 : Int), (i + (2 : Int)).toNat < b.length, 0 + (i + (2 : Int)).toNat * 1 < b.length, inI64 (i + (3 : Int)), (0 : Int) ≤ i + (3 : Int), (i + (3 : Int)).toNat < b.length, 0 + (i + (3 : Int)).toNat * 1 < b.length, 1 = 1, o.length = o.length, (o.length + 1) * 4 ≤ 140737488355328 ∧ o.length + 1 ≤ 9223372036854775807, inI64 (i + (4 : Int))]) := by kernel_rfl
theorem woExit (b : List (BitVec 8)) (o : List (BitVec 32)) (i : Int) : roundS Try.prog (lookG []) (orcA [(3, [(4, false)])]) [] 10 woTd (bodyAt Try.prog 21 3) (woInv b o i) =
    some (Ex.exit 0, St.mk (slotsOf 45 [(0, sc (IV.sl 0 0 b.length)), (3, sc (IV.sl 1 0 o.length)), (4, sc (IV.i64 i))]) [(0, Blk.mk false [IV.v8 b.length b]), (1, Blk.mk true [IV.v32 o.length o])] 16, [inI64 (i + (3 : Int)), decide (i + (3 : Int) < (↑b.length : Int)) = false]) := by kernel_rfl
theorem runWords (b : List (BitVec 8)) (o : List (BitVec 32)) (i : Int) : fnS Try.prog (lookG []) (orcA []) [⟨3, woTd, .exit 0, woInv b o i⟩] 10 21 [sc (.d8 b)] =
    some (sc (IV.d32 (cutL o 0 o.length o.length)), [LoopTo Try.prog (bodyAt Try.prog 21 3) (St.mk (slotsOf 45 [(0, sc (IV.sl 0 0 b.length)), (3, sc (IV.sl 1 0 0)), (4, sc (IV.i64 (0 : Int)))]) [(0, Blk.mk false [IV.v8 b.length b]), (1, Blk.mk true [IV.v32 0 []])] 16) (Ex.exit 0) (St.mk (slotsOf 45 [(0, sc (IV.sl 0 0 b.length)), (3, sc (IV.sl 1 0 o.length)), (4, sc (IV.i64 i))]) [(0, Blk.mk false [IV.v8 b.length b]), (1, Blk.mk true [IV.v32 o.length o])] 16), 0 + o.length ≤ o.length]) := by kernel_rfl
def wdR (b : List (BitVec 8)) (i : Nat) : BitVec 32 := (b.getD (4 * i) 0).setWidth 32 + 256#32 * (b.getD (4 * i + 1) 0).setWidth 32 + 65536#32 * (b.getD (4 * i + 2) 0).setWidth 32 + 16777216#32 * (b.getD (4 * i + 3) 0).setWidth 32
def wordsL (b : List (BitVec 8)) : List (BitVec 32) := (List.range (b.length / 4)).map (wdR b)
theorem woLoop (b : List (BitVec 8)) (hb : b.length ≤ 4000) : LoopTo Try.prog (bodyAt Try.prog 21 3) (woInv b [] 0) (.exit 0) (woInv b (wordsL b) ((4 * (b.length / 4) : Nat) : Int)) := by
  refine LoopTo.intro (α := Nat) gs0 fol (fun j => woInv b ((List.range j).map (wdR b)) ((4 * j : Nat) : Int)) (fun j => j ≤ b.length / 4) (fun j => b.length / 4 - j) (by simp) ?_ 0 (by simp)
  intro j hj
  by_cases he : j = b.length / 4
  · subst he
    refine .inr ⟨_, _, _, _, _, woExit _ _ _, ⟨?_, decide_eq_false (by omega), trivial⟩⟩
    unfold inI64; omega
  · have r0 := woRound b ((List.range j).map (wdR b)) ((4 * j : Nat) : Int)
    have e1 : 0 + ((4 * j : Nat) : Int).toNat * 1 = 4 * j := by omega
    have e2 : 0 + (((4 * j : Nat) : Int) + 1).toNat * 1 = 4 * j + 1 := by omega
    have e3 : 0 + (((4 * j : Nat) : Int) + 2).toNat * 1 = 4 * j + 2 := by omega
    have e4 : 0 + (((4 * j : Nat) : Int) + 3).toNat * 1 = 4 * j + 3 := by omega
    have e5 : ((4 * j : Nat) : Int) + 4 = ((4 * (j + 1) : Nat) : Int) := by omega
    rw [e1, e2, e3, e4] at r0
    simp only [e5] at r0
    have e6 : (List.range j).map (wdR b) ++ (List.replicate 1 (BitVec.ofNat 32 0)).set 0 (BitVec.setWidth 32 (b.getD (4 * j) (BitVec.ofNat 8 0)) + BitVec.ofNat 32 256 * BitVec.setWidth 32 (b.getD (4 * j + 1) (BitVec.ofNat 8 0)) + BitVec.ofNat 32 65536 * BitVec.setWidth 32 (b.getD (4 * j + 2) (BitVec.ofNat 8 0)) + BitVec.ofNat 32 16777216 * BitVec.setWidth 32 (b.getD (4 * j + 3) (BitVec.ofNat 8 0))) = (List.range (j + 1)).map (wdR b) := by
      rw [List.range_succ, List.map_append]; rfl
    rw [e6] at r0
    have e7 : ((List.range j).map (wdR b)).length + 1 = ((List.range (j + 1)).map (wdR b)).length := by simp
    rw [e7] at r0
    refine .inl ⟨_, _, _, _, _, j + 1, r0, ?_, by omega, by omega⟩
    simp only [AllP, inI64, decide_eq_true_eq, List.length_map, List.length_range]
    and_intros <;> first | exact True.intro | rfl | omega
def spWords32 : List AV → Option (AV × List Prop)
  | [.val false [.d8 b]] => some (sc (.d32 (wordsL b)), [b.length ≤ 4000])
  | _ => none
theorem ctWords : CtSOk Try.prog 21 (.fn spWords32) := FnS_of_fnS gs0 fol fun ds r cs h hc => by
  unfold spWords32 at h
  split at h
  case h_2 => simp at h
  rename_i b
  simp only [Option.some.injEq, Prod.mk.injEq] at h
  obtain ⟨rfl, rfl⟩ := h
  refine use_run (runWords b (wordsL b) ((4 * (b.length / 4) : Nat) : Int)) ?_ ⟨woLoop b hc.1, by omega, trivial⟩
  rw [cutAll _ _ rfl]
def tblE : List (FuncId × CtS) := [(21, .fn spWords32), (8, .fn spRQ)]
theorem okE : TblOk Try.prog tblE := ⟨⟨ctWords, by kernel_rfl⟩, ⟨ctRQ, by kernel_rfl⟩, trivial⟩
theorem gsE : GSound Try.prog (upG (lookG tblE)) := GSound_of_tbl okE
def sR (k n : List (BitVec 8)) (c : BitVec 32) : List (BitVec 32) := (((((List.replicate 4 (BitVec.ofNat 32 0)).set 0 (BitVec.ofNat 32 1634760805)).set 1 (BitVec.ofNat 32 857760878)).set 2 (BitVec.ofNat 32 2036477234)).set 3 (BitVec.ofNat 32 1797285236) ++ wordsL k ++ (List.replicate 1 (BitVec.ofNat 32 0)).set 0 c ++ wordsL n)
def rbH (k n : List (BitVec 8)) (c : BitVec 32) : Heap := [(0, ⟨false, [.v8 k.length k]⟩), (1, ⟨false, [.v8 n.length n]⟩), (2, ⟨true, [.v8 0 []]⟩), (82, ⟨true, [.v32 (wordsL k).length (wordsL k)]⟩), (162, ⟨true, [.v32 1 ((List.replicate 1 (BitVec.ofNat 32 0)).set 0 c)]⟩), (242, ⟨true, [.v32 (wordsL n).length (wordsL n)]⟩), (258, ⟨true, [.v32 (sR k n c).length (sR k n c)]⟩), (322, ⟨true, [.v32 (sR k n c).length (sR k n c)]⟩)]
def rbP : Heap := [(402, ⟨true, [.vi 4 [0, 4, 8, 12]]⟩), (418, ⟨true, [.vi 4 [1, 5, 9, 13]]⟩), (434, ⟨true, [.vi 4 [2, 6, 10, 14]]⟩), (450, ⟨true, [.vi 4 [3, 7, 11, 15]]⟩), (466, ⟨true, [.vi 4 [0, 5, 10, 15]]⟩), (482, ⟨true, [.vi 4 [1, 6, 11, 12]]⟩), (498, ⟨true, [.vi 4 [2, 7, 8, 13]]⟩), (514, ⟨true, [.vi 4 [3, 4, 9, 14]]⟩), (530, ⟨true, [.sl 402 0 4, .sl 418 0 4, .sl 434 0 4, .sl 450 0 4, .sl 466 0 4, .sl 482 0 4, .sl 498 0 4, .sl 514 0 4]⟩)]
def rbI (k n : List (BitVec 8)) (c : BitVec 32) : Inl := ⟨0, sc (.sl 530 0 8), rbH k n c ++ rbP, 562⟩
theorem runPlaces (k n : List (BitVec 8)) (c : BitVec 32) : cloS Try.prog (lookG []) orc0 10 22 [] (rbH k n c) 386 = some (sc (.sl 530 0 8), rbH k n c ++ rbP, 562, []) := by kernel_rfl
theorem ctPlaces (k n : List (BitVec 8)) (c : BitVec 32) : CloTo Try.prog 22 [] (rbH k n c) 386 (sc (.sl 530 0 8)) (rbH k n c ++ rbP) 562 :=
  CloTo_of_cloS gs0 fol (fun _ => rfl) (runPlaces k n c) trivial
def rbTd : List Nat := [7, 8, 9, 10]
def rbInv (s w : List (BitVec 32)) (i : Int) : St := ⟨slotsOf 113 [(7, sc (.sl 0 0 s.length)), (8, sc (.sl 1 0 w.length)), (9, sc (.sl 2 0 8)), (10, sc (.i64 i))], [(0, ⟨true, [.v32 s.length s]⟩), (1, ⟨true, [.v32 w.length w]⟩), (2, ⟨true, [.sl 3 0 4, .sl 4 0 4, .sl 5 0 4, .sl 6 0 4, .sl 7 0 4, .sl 8 0 4, .sl 9 0 4, .sl 10 0 4]⟩), (3, ⟨true, [.vi 4 [0, 4, 8, 12]]⟩), (4, ⟨true, [.vi 4 [1, 5, 9, 13]]⟩), (5, ⟨true, [.vi 4 [2, 6, 10, 14]]⟩), (6, ⟨true, [.vi 4 [3, 7, 11, 15]]⟩), (7, ⟨true, [.vi 4 [0, 5, 10, 15]]⟩), (8, ⟨true, [.vi 4 [1, 6, 11, 12]]⟩), (9, ⟨true, [.vi 4 [2, 7, 8, 13]]⟩), (10, ⟨true, [.vi 4 [3, 4, 9, 14]]⟩)], 16⟩
theorem rbRound (s : List (BitVec 32)) (w0 w1 w2 w3 w4 w5 w6 w7 w8 w9 w10 w11 w12 w13 w14 w15 : BitVec 32) (i : Int) : roundS Try.prog (lookG tblE) (orcOf [8, 9] [(8, [(1, true)])]) [] 10 rbTd (bodyAt Try.prog 13 8) (rbInv s [w0, w1, w2, w3, w4, w5, w6, w7, w8, w9, w10, w11, w12, w13, w14, w15] i) =
    some (.normal, rbInv s (dblR [w0, w1, w2, w3, w4, w5, w6, w7, w8, w9, w10, w11, w12, w13, w14, w15]) (i + 1), [decide (i < (10 : Int)) = true, inI64 (i + 1)]) := by kernel_rfl
theorem rbExit (s w : List (BitVec 32)) (i : Int) : roundS Try.prog (lookG tblE) (orcOf [8, 9] [(8, [(1, false)])]) [] 10 rbTd (bodyAt Try.prog 13 8) (rbInv s w i) =
    some (Ex.exit 0, St.mk (slotsOf 113 [(7, sc (IV.sl 0 0 s.length)), (8, sc (IV.sl 1 0 w.length)), (9, sc (IV.sl 2 0 8)), (10, sc (IV.i64 i))]) [(0, Blk.mk true [IV.v32 s.length s]), (1, Blk.mk true [IV.v32 w.length w]), (2, Blk.mk true [IV.sl 3 0 4, IV.sl 4 0 4, IV.sl 5 0 4, IV.sl 6 0 4, IV.sl 7 0 4, IV.sl 8 0 4, IV.sl 9 0 4, IV.sl 10 0 4]), (3, Blk.mk true [IV.vi 4 [(0 : Int), (4 : Int), (8 : Int), (12 : Int)]]), (4, Blk.mk true [IV.vi 4 [(1 : Int), (5 : Int), (9 : Int), (13 : Int)]]), (5, Blk.mk true [IV.vi 4 [(2 : Int), (6 : Int), (10 : Int), (14 : Int)]]), (6, Blk.mk true [IV.vi 4 [(3 : Int), (7 : Int), (11 : Int), (15 : Int)]]), (7, Blk.mk true [IV.vi 4 [(0 : Int), (5 : Int), (10 : Int), (15 : Int)]]), (8, Blk.mk true [IV.vi 4 [(1 : Int), (6 : Int), (11 : Int), (12 : Int)]]), (9, Blk.mk true [IV.vi 4 [(2 : Int), (7 : Int), (8 : Int), (13 : Int)]]), (10, Blk.mk true [IV.vi 4 [(3 : Int), (4 : Int), (9 : Int), (14 : Int)]])] 16, [decide (i < (10 : Int)) = false]) := by kernel_rfl
def fiTd : List Nat := [7, 8, 15, 16]
def fiInv (s w : List (BitVec 32)) (o : List (BitVec 8)) (i : Int) : St := ⟨slotsOf 113 [(7, sc (.sl 0 0 s.length)), (8, sc (.sl 1 0 w.length)), (15, sc (.sl 2 0 o.length)), (16, sc (.i64 i))], [(0, ⟨true, [.v32 s.length s]⟩), (1, ⟨true, [.v32 w.length w]⟩), (2, ⟨true, [.v8 o.length o]⟩)], 16⟩
theorem fiRound (s w : List (BitVec 32)) (o : List (BitVec 8)) (i : Int) : roundS Try.prog (lookG tblE) (orcOf [21, 22, 23, 27] [(21, [(1, true)])]) [] 10 fiTd (bodyAt Try.prog 13 21) (fiInv s w o i) =
    some (Ex.normal, St.mk (slotsOf 113 [(7, sc (IV.sl 0 0 s.length)), (8, sc (IV.sl 1 0 w.length)), (15, sc (IV.sl 2 0 (o.length + 1 + 1 + 1 + 1))), (16, sc (IV.i64 (i + (1 : Int))))]) [(0, Blk.mk true [IV.v32 s.length s]), (1, Blk.mk true [IV.v32 w.length w]), (2, Blk.mk true [IV.v8 (o ++ (List.replicate 1 (BitVec.ofNat 8 0)).set 0 (BitVec.setWidth 8 ((w.getD (0 + i.toNat * 1) (BitVec.ofNat 32 0) + s.getD (0 + i.toNat * 1) (BitVec.ofNat 32 0)) % BitVec.ofNat 32 256)) ++ (List.replicate 1 (BitVec.ofNat 8 0)).set 0 (BitVec.setWidth 8 ((w.getD (0 + i.toNat * 1) (BitVec.ofNat 32 0) + s.getD (0 + i.toNat * 1) (BitVec.ofNat 32 0)) / BitVec.ofNat 32 256 % BitVec.ofNat 32 256)) ++ (List.replicate 1 (BitVec.ofNat 8 0)).set 0 (BitVec.setWidth 8 ((w.getD (0 + i.toNat * 1) (BitVec.ofNat 32 0) + s.getD (0 + i.toNat * 1) (BitVec.ofNat 32 0)) / BitVec.ofNat 32 256 / BitVec.ofNat 32 256 % BitVec.ofNat 32 256)) ++ (List.replicate 1 (BitVec.ofNat 8 0)).set 0 (BitVec.setWidth 8 ((w.getD (0 + i.toNat * 1) (BitVec.ofNat 32 0) + s.getD (0 + i.toNat * 1) (BitVec.ofNat 32 0)) / BitVec.ofNat 32 256 / BitVec.ofNat 32 256 / BitVec.ofNat 32 256 % BitVec.ofNat 32 256))).length (o ++ (List.replicate 1 (BitVec.ofNat 8 0)).set 0 (BitVec.setWidth 8 ((w.getD (0 + i.toNat * 1) (BitVec.ofNat 32 0) + s.getD (0 + i.toNat * 1) (BitVec.ofNat 32 0)) % BitVec.ofNat 32 256)) ++ (List.replicate 1 (BitVec.ofNat 8 0)).set 0 (BitVec.setWidth 8 ((w.getD (0 + i.toNat * 1) (BitVec.ofNat 32 0) + s.getD (0 + i.toNat * 1) (BitVec.ofNat 32 0)) / BitVec.ofNat 32 256 % BitVec.ofNat 32 256)) ++ (List.replicate 1 (BitVec.ofNat 8 0)).set 0 (BitVec.setWidth 8 ((w.getD (0 + i.toNat * 1) (BitVec.ofNat 32 0) + s.getD (0 + i.toNat * 1) (BitVec.ofNat 32 0)) / BitVec.ofNat 32 256 / BitVec.ofNat 32 256 % BitVec.ofNat 32 256)) ++ (List.replicate 1 (BitVec.ofNat 8 0)).set 0 (BitVec.setWidth 8 ((w.getD (0 + i.toNat * 1) (BitVec.ofNat 32 0) + s.getD (0 + i.toNat * 1) (BitVec.ofNat 32 0)) / BitVec.ofNat 32 256 / BitVec.ofNat 32 256 / BitVec.ofNat 32 256 % BitVec.ofNat 32 256)))])] 16, [decide (i < (16 : Int)) = true, (0 : Int) ≤ i, i.toNat < w.length, 0 + i.toNat * 1 < w.length, (0 : Int) ≤ i, i.toNat < s.length, 0 + i.toNat * 1 < s.length, 1 = 1, o.length = o.length, (o.length + 1) * 1 ≤ 140737488355328 ∧ o.length + 1 ≤ 9223372036854775807, 1 = 1, o.length + 1 = (o ++ (List.replicate 1 (BitVec.ofNat 8 0)).set 0 (BitVec.setWidth 8 ((w.getD (0 + i.toNat * 1) (BitVec.ofNat 32 0) + s.getD (0 + i.toNat * 1) (BitVec.ofNat 32 0)) % BitVec.ofNat 32 256))).length, (o.length + 1 + 1) * 1 ≤ 140737488355328 ∧ o.length + 1 + 1 ≤ 9223372036854775807, 1 = 1, o.length + 1 + 1 = (o ++ (List.replicate 1 (BitVec.ofNat 8 0)).set 0 (BitVec.setWidth 8 ((w.getD (0 + i.toNat * 1) (BitVec.ofNat 32 0) + s.getD (0 + i.toNat * 1) (BitVec.ofNat 32 0)) % BitVec.ofNat 32 256)) ++ (List.replicate 1 (BitVec.ofNat 8 0)).set 0 (BitVec.setWidth 8 ((w.getD (0 + i.toNat * 1) (BitVec.ofNat 32 0) + s.getD (0 + i.toNat * 1) (BitVec.ofNat 32 0)) / BitVec.ofNat 32 256 % BitVec.ofNat 32 256))).length, (o.length + 1 + 1 + 1) * 1 ≤ 140737488355328 ∧ o.length + 1 + 1 + 1 ≤ 9223372036854775807, 1 = 1, o.length + 1 + 1 + 1 = (o ++ (List.replicate 1 (BitVec.ofNat 8 0)).set 0 (BitVec.setWidth 8 ((w.getD (0 + i.toNat * 1) (BitVec.ofNat 32 0) + s.getD (0 + i.toNat * 1) (BitVec.ofNat 32 0)) % BitVec.ofNat 32 256)) ++ (List.replicate 1 (BitVec.ofNat 8 0)).set 0 (BitVec.setWidth 8 ((w.getD (0 + i.toNat * 1) (BitVec.ofNat 32 0) + s.getD (0 + i.toNat * 1) (BitVec.ofNat 32 0)) / BitVec.ofNat 32 256 % BitVec.ofNat 32 256)) ++ (List.replicate 1 (BitVec.ofNat 8 0)).set 0 (BitVec.setWidth 8 ((w.getD (0 + i.toNat * 1) (BitVec.ofNat 32 0) + s.getD (0 + i.toNat * 1) (BitVec.ofNat 32 0)) / BitVec.ofNat 32 256 / BitVec.ofNat 32 256 % BitVec.ofNat 32 256))).length, (o.length + 1 + 1 + 1 + 1) * 1 ≤ 140737488355328 ∧ o.length + 1 + 1 + 1 + 1 ≤ 9223372036854775807, inI64 (i + (1 : Int))]) := by kernel_rfl
theorem fiExit (s w : List (BitVec 32)) (o : List (BitVec 8)) (i : Int) : roundS Try.prog (lookG tblE) (orcOf [21, 22, 23, 27] [(21, [(1, false)])]) [] 10 fiTd (bodyAt Try.prog 13 21) (fiInv s w o i) =
    some (Ex.exit 6, St.mk (slotsOf 113 [(7, sc (IV.sl 0 0 s.length)), (8, sc (IV.sl 1 0 w.length)), (15, sc (IV.sl 2 0 o.length)), (16, sc (IV.i64 i))]) [(0, Blk.mk true [IV.v32 s.length s]), (1, Blk.mk true [IV.v32 w.length w]), (2, Blk.mk true [IV.v8 o.length o])] 16, [decide (i < (16 : Int)) = false]) := by kernel_rfl
def rbOrc (k n : List (BitVec 8)) (c : BitVec 32) (j : Nat) : Orc := if j = 6 then ⟨true, [], [], some (rbI k n c)⟩ else orcOf [2, 3, 4, 5, 29] [] j
theorem runRBlock (k n : List (BitVec 8)) (c : BitVec 32) (s w : List (BitVec 32)) (i j : Int) (o : List (BitVec 8)) : fnS Try.prog (lookG tblE) (rbOrc k n c) [⟨8, rbTd, .exit 0, rbInv s w i⟩, ⟨21, fiTd, .exit 6, fiInv s w o j⟩] 20 13 [sc (.d8 k), sc (.d8 n), sc (.u32 c)] =
    some (sc (IV.d8 (cutL o 0 o.length o.length)), [k.length = k.length, k.length ≤ 4000, (wordsL k).length = (wordsL k).length, 4 = 4, (4 + (wordsL k).length) * 4 ≤ 140737488355328 ∧ 4 + (wordsL k).length ≤ 9223372036854775807, 1 = 1, 4 + (wordsL k).length = (((((List.replicate 4 (BitVec.ofNat 32 0)).set 0 (BitVec.ofNat 32 1634760805)).set 1 (BitVec.ofNat 32 857760878)).set 2 (BitVec.ofNat 32 2036477234)).set 3 (BitVec.ofNat 32 1797285236) ++ wordsL k).length, (4 + (wordsL k).length + 1) * 4 ≤ 140737488355328 ∧ 4 + (wordsL k).length + 1 ≤ 9223372036854775807, n.length = n.length, n.length ≤ 4000, (wordsL n).length = (wordsL n).length, 4 + (wordsL k).length + 1 = (((((List.replicate 4 (BitVec.ofNat 32 0)).set 0 (BitVec.ofNat 32 1634760805)).set 1 (BitVec.ofNat 32 857760878)).set 2 (BitVec.ofNat 32 2036477234)).set 3 (BitVec.ofNat 32 1797285236) ++ wordsL k ++ (List.replicate 1 (BitVec.ofNat 32 0)).set 0 c).length, (4 + (wordsL k).length + 1 + (wordsL n).length) * 4 ≤ 140737488355328 ∧ 4 + (wordsL k).length + 1 + (wordsL n).length ≤ 9223372036854775807, 4 + (wordsL k).length + 1 + (wordsL n).length = (((((List.replicate 4 (BitVec.ofNat 32 0)).set 0 (BitVec.ofNat 32 1634760805)).set 1 (BitVec.ofNat 32 857760878)).set 2 (BitVec.ofNat 32 2036477234)).set 3 (BitVec.ofNat 32 1797285236) ++ wordsL k ++ (List.replicate 1 (BitVec.ofNat 32 0)).set 0 c ++ wordsL n).length, 0 = 0, (0 + (4 + (wordsL k).length + 1 + (wordsL n).length)) * 4 ≤ 140737488355328 ∧ 0 + (4 + (wordsL k).length + 1 + (wordsL n).length) ≤ 9223372036854775807, CloTo Try.prog 22 [] [(0, Blk.mk false [IV.v8 k.length k]), (1, Blk.mk false [IV.v8 n.length n]), (2, Blk.mk true [IV.v8 0 []]), (82, Blk.mk true [IV.v32 (wordsL k).length (wordsL k)]), (162, Blk.mk true [IV.v32 1 ((List.replicate 1 (BitVec.ofNat 32 0)).set 0 c)]), (242, Blk.mk true [IV.v32 (wordsL n).length (wordsL n)]), (258, Blk.mk true [IV.v32 (((((List.replicate 4 (BitVec.ofNat 32 0)).set 0 (BitVec.ofNat 32 1634760805)).set 1 (BitVec.ofNat 32 857760878)).set 2 (BitVec.ofNat 32 2036477234)).set 3 (BitVec.ofNat 32 1797285236) ++ wordsL k ++ (List.replicate 1 (BitVec.ofNat 32 0)).set 0 c ++ wordsL n).length (((((List.replicate 4 (BitVec.ofNat 32 0)).set 0 (BitVec.ofNat 32 1634760805)).set 1 (BitVec.ofNat 32 857760878)).set 2 (BitVec.ofNat 32 2036477234)).set 3 (BitVec.ofNat 32 1797285236) ++ wordsL k ++ (List.replicate 1 (BitVec.ofNat 32 0)).set 0 c ++ wordsL n)]), (322, Blk.mk true [IV.v32 (((((List.replicate 4 (BitVec.ofNat 32 0)).set 0 (BitVec.ofNat 32 1634760805)).set 1 (BitVec.ofNat 32 857760878)).set 2 (BitVec.ofNat 32 2036477234)).set 3 (BitVec.ofNat 32 1797285236) ++ wordsL k ++ (List.replicate 1 (BitVec.ofNat 32 0)).set 0 c ++ wordsL n).length (((((List.replicate 4 (BitVec.ofNat 32 0)).set 0 (BitVec.ofNat 32 1634760805)).set 1 (BitVec.ofNat 32 857760878)).set 2 (BitVec.ofNat 32 2036477234)).set 3 (BitVec.ofNat 32 1797285236) ++ wordsL k ++ (List.replicate 1 (BitVec.ofNat 32 0)).set 0 c ++ wordsL n)])] 386 (sc (IV.sl 530 0 8)) [(0, Blk.mk false [IV.v8 k.length k]), (1, Blk.mk false [IV.v8 n.length n]), (2, Blk.mk true [IV.v8 0 []]), (82, Blk.mk true [IV.v32 (wordsL k).length (wordsL k)]), (162, Blk.mk true [IV.v32 1 ((List.replicate 1 (BitVec.ofNat 32 0)).set 0 c)]), (242, Blk.mk true [IV.v32 (wordsL n).length (wordsL n)]), (258, Blk.mk true [IV.v32 (sR k n c).length (sR k n c)]), (322, Blk.mk true [IV.v32 (sR k n c).length (sR k n c)]), (402, Blk.mk true [IV.vi 4 [(0 : Int), (4 : Int), (8 : Int), (12 : Int)]]), (418, Blk.mk true [IV.vi 4 [(1 : Int), (5 : Int), (9 : Int), (13 : Int)]]), (434, Blk.mk true [IV.vi 4 [(2 : Int), (6 : Int), (10 : Int), (14 : Int)]]), (450, Blk.mk true [IV.vi 4 [(3 : Int), (7 : Int), (11 : Int), (15 : Int)]]), (466, Blk.mk true [IV.vi 4 [(0 : Int), (5 : Int), (10 : Int), (15 : Int)]]), (482, Blk.mk true [IV.vi 4 [(1 : Int), (6 : Int), (11 : Int), (12 : Int)]]), (498, Blk.mk true [IV.vi 4 [(2 : Int), (7 : Int), (8 : Int), (13 : Int)]]), (514, Blk.mk true [IV.vi 4 [(3 : Int), (4 : Int), (9 : Int), (14 : Int)]]), (530, Blk.mk true [IV.sl 402 0 4, IV.sl 418 0 4, IV.sl 434 0 4, IV.sl 450 0 4, IV.sl 466 0 4, IV.sl 482 0 4, IV.sl 498 0 4, IV.sl 514 0 4])] 562, LoopTo Try.prog (bodyAt Try.prog 13 8) (St.mk (slotsOf 113 [(7, sc (IV.sl 0 0 (4 + (wordsL k).length + 1 + (wordsL n).length))), (8, sc (IV.sl 1 0 (0 + (4 + (wordsL k).length + 1 + (wordsL n).length)))), (9, sc (IV.sl 2 0 8)), (10, sc (IV.i64 (0 : Int)))]) [(0, Blk.mk true [IV.v32 (sR k n c).length (sR k n c)]), (1, Blk.mk true [IV.v32 (sR k n c).length (sR k n c)]), (2, Blk.mk true [IV.sl 3 0 4, IV.sl 4 0 4, IV.sl 5 0 4, IV.sl 6 0 4, IV.sl 7 0 4, IV.sl 8 0 4, IV.sl 9 0 4, IV.sl 10 0 4]), (3, Blk.mk true [IV.vi 4 [(0 : Int), (4 : Int), (8 : Int), (12 : Int)]]), (4, Blk.mk true [IV.vi 4 [(1 : Int), (5 : Int), (9 : Int), (13 : Int)]]), (5, Blk.mk true [IV.vi 4 [(2 : Int), (6 : Int), (10 : Int), (14 : Int)]]), (6, Blk.mk true [IV.vi 4 [(3 : Int), (7 : Int), (11 : Int), (15 : Int)]]), (7, Blk.mk true [IV.vi 4 [(0 : Int), (5 : Int), (10 : Int), (15 : Int)]]), (8, Blk.mk true [IV.vi 4 [(1 : Int), (6 : Int), (11 : Int), (12 : Int)]]), (9, Blk.mk true [IV.vi 4 [(2 : Int), (7 : Int), (8 : Int), (13 : Int)]]), (10, Blk.mk true [IV.vi 4 [(3 : Int), (4 : Int), (9 : Int), (14 : Int)]])] 16) (Ex.exit 0) (St.mk (slotsOf 113 [(7, sc (IV.sl 0 0 s.length)), (8, sc (IV.sl 1 0 w.length)), (9, sc (IV.sl 2 0 8)), (10, sc (IV.i64 i))]) [(0, Blk.mk true [IV.v32 s.length s]), (1, Blk.mk true [IV.v32 w.length w]), (2, Blk.mk true [IV.sl 3 0 4, IV.sl 4 0 4, IV.sl 5 0 4, IV.sl 6 0 4, IV.sl 7 0 4, IV.sl 8 0 4, IV.sl 9 0 4, IV.sl 10 0 4]), (3, Blk.mk true [IV.vi 4 [(0 : Int), (4 : Int), (8 : Int), (12 : Int)]]), (4, Blk.mk true [IV.vi 4 [(1 : Int), (5 : Int), (9 : Int), (13 : Int)]]), (5, Blk.mk true [IV.vi 4 [(2 : Int), (6 : Int), (10 : Int), (14 : Int)]]), (6, Blk.mk true [IV.vi 4 [(3 : Int), (7 : Int), (11 : Int), (15 : Int)]]), (7, Blk.mk true [IV.vi 4 [(0 : Int), (5 : Int), (10 : Int), (15 : Int)]]), (8, Blk.mk true [IV.vi 4 [(1 : Int), (6 : Int), (11 : Int), (12 : Int)]]), (9, Blk.mk true [IV.vi 4 [(2 : Int), (7 : Int), (8 : Int), (13 : Int)]]), (10, Blk.mk true [IV.vi 4 [(3 : Int), (4 : Int), (9 : Int), (14 : Int)]])] 16), LoopTo Try.prog (bodyAt Try.prog 13 21) (St.mk (slotsOf 113 [(7, sc (IV.sl 0 0 s.length)), (8, sc (IV.sl 1 0 w.length)), (15, sc (IV.sl 2 0 0)), (16, sc (IV.i64 (0 : Int)))]) [(0, Blk.mk true [IV.v32 s.length s]), (1, Blk.mk true [IV.v32 w.length w]), (2, Blk.mk true [IV.v8 0 []])] 16) (Ex.exit 6) (St.mk (slotsOf 113 [(7, sc (IV.sl 0 0 s.length)), (8, sc (IV.sl 1 0 w.length)), (15, sc (IV.sl 2 0 o.length)), (16, sc (IV.i64 j))]) [(0, Blk.mk true [IV.v32 s.length s]), (1, Blk.mk true [IV.v32 w.length w]), (2, Blk.mk true [IV.v8 o.length o])] 16), 0 + o.length ≤ o.length]) := by kernel_rfl
theorem or4 (x y z t : Nat) (hx : x < 256) (hy : y < 256) (hz : z < 256) : x ||| y <<< 8 ||| z <<< 16 ||| t <<< 24 = x + 256 * y + 65536 * z + 16777216 * t := by
  rw [Nat.or_comm (x ||| y <<< 8 ||| z <<< 16), Nat.or_comm (x ||| y <<< 8), Nat.or_comm x, ← Nat.shiftLeft_add_eq_or_of_lt (show x < 2 ^ 8 by omega)]
  have h1 : y <<< 8 + x < 2 ^ 16 := by rw [Nat.shiftLeft_eq]; omega
  rw [← Nat.shiftLeft_add_eq_or_of_lt h1]
  have h2 : z <<< 16 + (y <<< 8 + x) < 2 ^ 24 := by rw [Nat.shiftLeft_eq] at *; omega
  rw [← Nat.shiftLeft_add_eq_or_of_lt h2, Nat.shiftLeft_eq, Nat.shiftLeft_eq, Nat.shiftLeft_eq]
  omega
theorem word_eq (x y z t : BitVec 8) : x.setWidth 32 ||| y.setWidth 32 <<< 8 ||| z.setWidth 32 <<< 16 ||| t.setWidth 32 <<< 24 = x.setWidth 32 + 256#32 * y.setWidth 32 + 65536#32 * z.setWidth 32 + 16777216#32 * t.setWidth 32 := by
  have hx := x.isLt
  have hy := y.isLt
  have hz := z.isLt
  have ht := t.isLt
  apply BitVec.eq_of_toNat_eq
  have f : ∀ (a : BitVec 8) (k : Nat), k ≤ 24 → (a.setWidth 32 <<< k).toNat = a.toNat <<< k := by
    intro a k hk
    have ha := a.isLt
    have h32 : a.toNat % 2 ^ 32 = a.toNat := Nat.mod_eq_of_lt (by omega)
    rw [BitVec.toNat_shiftLeft, BitVec.toNat_setWidth, h32, Nat.mod_eq_of_lt]
    rw [Nat.shiftLeft_eq]
    have := Nat.pow_le_pow_right (n := 2) (by omega) hk
    calc a.toNat * 2 ^ k < 256 * 2 ^ k := Nat.mul_lt_mul_of_pos_right ha (Nat.two_pow_pos k)
      _ ≤ 256 * 2 ^ 24 := Nat.mul_le_mul_left _ this
  rw [BitVec.toNat_or, BitVec.toNat_or, BitVec.toNat_or, f y 8 (by omega), f z 16 (by omega), f t 24 (by omega), BitVec.toNat_setWidth, Nat.mod_eq_of_lt (show x.toNat < 2 ^ 32 by omega), or4 _ _ _ _ hx hy hz]
  simp only [BitVec.toNat_add, BitVec.toNat_mul, BitVec.toNat_setWidth, BitVec.toNat_ofNat]
  omega
theorem wdR_eq (b : List (BitVec 8)) (i : Nat) : wdR b i = wdP b i := (word_eq _ _ _ _).symm
theorem sR_eq (k n : List (BitVec 8)) (c : BitVec 32) (hk : k.length = 32) (hn : n.length = 12) : sR k n c = stateL k n c := by
  have h1 : wordsL k = [wdP k 0, wdP k 1, wdP k 2, wdP k 3, wdP k 4, wdP k 5, wdP k 6, wdP k 7] := by
    unfold wordsL
    rw [hk]
    simp only [← wdR_eq]
    rfl
  have h2 : wordsL n = [wdP n 0, wdP n 1, wdP n 2] := by
    unfold wordsL
    rw [hn]
    simp only [← wdR_eq]
    rfl
  unfold sR
  rw [h1, h2]
  rfl
theorem rbLoop (s : List (BitVec 32)) (hs : s.length = 16) : LoopTo Try.prog (bodyAt Try.prog 13 8) (rbInv s s 0) (.exit 0) (rbInv s (dblN s 10) ((10 : Nat) : Int)) := by
  refine LoopTo.intro (α := Nat) gsE fol (fun j => rbInv s (dblN s j) (j : Nat)) (fun j => j ≤ 10) (fun j => 10 - j) (by simp) ?_ 0 (by simp)
  intro j hj
  by_cases he : j = 10
  · subst he
    exact .inr ⟨_, _, _, _, _, rbExit _ _ _, rfl, trivial⟩
  · obtain ⟨w0, w1, w2, w3, w4, w5, w6, w7, w8, w9, w10, w11, w12, w13, w14, w15, h⟩ := list16w (l := dblN s j) (by rw [dblN_len]; exact hs)
    have r0 := rbRound s w0 w1 w2 w3 w4 w5 w6 w7 w8 w9 w10 w11 w12 w13 w14 w15 (j : Nat)
    rw [← h] at r0
    exact .inl ⟨_, _, _, _, _, j + 1, r0, ⟨decide_eq_true (by omega), by unfold inI64; omega, trivial⟩, by omega, by omega⟩
def fiO (s w : List (BitVec 32)) (j : Nat) : List (BitVec 8) := (List.range (4 * j)).map fun i => ((sumL w s).getD (i / 4) 0 >>> (8 * (i % 4))).setWidth 8
theorem byte0 (x : BitVec 32) : BitVec.setWidth 8 (x % BitVec.ofNat 32 256) = (x >>> (8 * 0)).setWidth 8 := by
  apply BitVec.eq_of_toNat_eq
  have hx := x.isLt
  simp only [BitVec.toNat_setWidth, BitVec.toNat_umod, BitVec.toNat_ofNat, BitVec.toNat_ushiftRight, Nat.shiftRight_eq_div_pow, Nat.reduceMul, Nat.reducePow, Nat.reduceMod]
  omega
theorem byte1 (x : BitVec 32) : BitVec.setWidth 8 (x / BitVec.ofNat 32 256 % BitVec.ofNat 32 256) = (x >>> (8 * 1)).setWidth 8 := by
  apply BitVec.eq_of_toNat_eq
  have hx := x.isLt
  simp only [BitVec.toNat_setWidth, BitVec.toNat_umod, BitVec.toNat_udiv, BitVec.toNat_ofNat, BitVec.toNat_ushiftRight, Nat.shiftRight_eq_div_pow, Nat.reduceMul, Nat.reducePow, Nat.reduceMod]
  omega
theorem byte2 (x : BitVec 32) : BitVec.setWidth 8 (x / BitVec.ofNat 32 256 / BitVec.ofNat 32 256 % BitVec.ofNat 32 256) = (x >>> (8 * 2)).setWidth 8 := by
  apply BitVec.eq_of_toNat_eq
  have hx := x.isLt
  simp only [BitVec.toNat_setWidth, BitVec.toNat_umod, BitVec.toNat_udiv, BitVec.toNat_ofNat, BitVec.toNat_ushiftRight, Nat.shiftRight_eq_div_pow, Nat.reduceMul, Nat.reducePow, Nat.reduceMod]
  omega
theorem byte3 (x : BitVec 32) : BitVec.setWidth 8 (x / BitVec.ofNat 32 256 / BitVec.ofNat 32 256 / BitVec.ofNat 32 256 % BitVec.ofNat 32 256) = (x >>> (8 * 3)).setWidth 8 := by
  apply BitVec.eq_of_toNat_eq
  have hx := x.isLt
  simp only [BitVec.toNat_setWidth, BitVec.toNat_umod, BitVec.toNat_udiv, BitVec.toNat_ofNat, BitVec.toNat_ushiftRight, Nat.shiftRight_eq_div_pow, Nat.reduceMul, Nat.reducePow, Nat.reduceMod]
  omega
theorem fiO_step (s w : List (BitVec 32)) (j : Nat) (hj : j < 16) (x : BitVec 32) (hx : x = w.getD j 0#32 + s.getD j 0#32) :
    fiO s w j ++ (List.replicate 1 (BitVec.ofNat 8 0)).set 0 (BitVec.setWidth 8 (x % BitVec.ofNat 32 256)) ++ (List.replicate 1 (BitVec.ofNat 8 0)).set 0 (BitVec.setWidth 8 (x / BitVec.ofNat 32 256 % BitVec.ofNat 32 256)) ++ (List.replicate 1 (BitVec.ofNat 8 0)).set 0 (BitVec.setWidth 8 (x / BitVec.ofNat 32 256 / BitVec.ofNat 32 256 % BitVec.ofNat 32 256)) ++ (List.replicate 1 (BitVec.ofNat 8 0)).set 0 (BitVec.setWidth 8 (x / BitVec.ofNat 32 256 / BitVec.ofNat 32 256 / BitVec.ofNat 32 256 % BitVec.ofNat 32 256)) = fiO s w (j + 1) := by
  have hg : (sumL w s).getD j 0 = x := by
    rw [hx, sumL, List.getD_eq_getElem?_getD, List.getElem?_map, List.getElem?_range hj]; rfl
  have st : ∀ y : BitVec 8, (List.replicate 1 (BitVec.ofNat 8 0)).set 0 y = [y] := fun _ => rfl
  have e : ∀ r, r < 4 → (4 * j + r) / 4 = j ∧ (4 * j + r) % 4 = r := fun r hr => by omega
  unfold fiO
  rw [show 4 * (j + 1) = 4 * j + 1 + 1 + 1 + 1 by omega, List.range_succ, List.range_succ, List.range_succ, List.range_succ, byte0, byte1, byte2, byte3, st, st, st, st]
  simp only [List.map_append, List.map_cons, List.map_nil]
  have f0 := e 0 (by omega)
  have f1 := e 1 (by omega)
  have f2 := e 2 (by omega)
  have f3 := e 3 (by omega)
  rw [Nat.add_zero] at f0
  rw [show 4 * j + 1 + 1 = 4 * j + 2 from rfl, show 4 * j + 2 + 1 = 4 * j + 3 from rfl, f0.1, f0.2, f1.1, f1.2, f2.1, f2.2, f3.1, f3.2, hg]
theorem fiO_len (s w : List (BitVec 32)) (j : Nat) : (fiO s w j).length = 4 * j := by simp [fiO]
theorem fiLoop (s w : List (BitVec 32)) (hs : s.length = 16) (hw : w.length = 16) : LoopTo Try.prog (bodyAt Try.prog 13 21) (fiInv s w [] 0) (.exit 6) (fiInv s w (toldL (sumL w s)) ((16 : Nat) : Int)) := by
  refine LoopTo.intro (α := Nat) gsE fol (fun j => fiInv s w (fiO s w j) (j : Nat)) (fun j => j ≤ 16) (fun j => 16 - j) (by simp) ?_ 0 (by simp)
  intro j hj
  by_cases he : j = 16
  · subst he
    exact .inr ⟨_, _, _, _, _, fiExit _ _ _ _, rfl, trivial⟩
  · have r0 := fiRound s w (fiO s w j) (j : Nat)
    have ei : 0 + ((j : Nat) : Int).toNat * 1 = j := by omega
    rw [ei] at r0
    obtain ⟨x, hx⟩ : ∃ x, x = w.getD j (BitVec.ofNat 32 0) + s.getD j (BitVec.ofNat 32 0) := ⟨_, rfl⟩
    rw [← hx, fiO_step s w j (by omega) x hx] at r0
    have e7 : (fiO s w j).length + 1 + 1 + 1 + 1 = (fiO s w (j + 1)).length := by rw [fiO_len, fiO_len]; omega
    rw [e7] at r0
    refine .inl ⟨_, _, _, _, _, j + 1, r0, ?_, by omega, by omega⟩
    simp only [AllP, inI64, decide_eq_true_eq, List.length_append, List.length_set, List.length_replicate, fiO_len, hs, hw]
    and_intros <;> first | exact True.intro | rfl | omega
def spRBlock : List AV → Option (AV × List Prop)
  | [.val false [.d8 k], .val false [.d8 n], .val false [.u32 c]] => some (sc (.d8 (blockL k n c)), [k.length = 32, n.length = 12])
  | _ => none
theorem ctRBlock : CtSOk Try.prog 13 (.fn spRBlock) := FnS_of_fnS gsE fol fun ds r cs h hc => by
  unfold spRBlock at h
  split at h
  case h_2 => simp at h
  rename_i k n c
  simp only [Option.some.injEq, Prod.mk.injEq] at h
  obtain ⟨rfl, rfl⟩ := h
  obtain ⟨hk, hn, _⟩ := hc
  have hS := sR_eq k n c hk hn
  have hw1 : (wordsL k).length = 8 := by simp [wordsL, hk]
  have hw2 : (wordsL n).length = 3 := by simp [wordsL, hn]
  have hSl : (sR k n c).length = 16 := by rw [hS]; rfl
  have hl : 4 + (wordsL k).length + 1 + (wordsL n).length = (sR k n c).length := by omega
  have r0 := runRBlock k n c (sR k n c) (dblN (sR k n c) 10) ((10 : Nat) : Int) ((16 : Nat) : Int) (toldL (sumL (dblN (sR k n c) 10) (sR k n c)))
  have l1 := rbLoop (sR k n c) hSl
  have l2 := fiLoop (sR k n c) (dblN (sR k n c) 10) hSl (by rw [dblN_len]; exact hSl)
  have cl := ctPlaces k n c
  rw [hl, Nat.zero_add] at r0
  refine use_run r0 ?_ ?_
  · rw [cutAll _ _ rfl, hS]; rfl
  · clear r0
    simp only [AllP]
    and_intros
    all_goals first | exact True.intro | with_reducible rfl | exact l1 | exact l2 | exact cl | omega | (simp [hw1, hw2, hSl]; done)
end Go.Proofs.Ytclngijinhcdpaa
