/- Contracts of layer 10's blocks: bytes, the program's block, and its bytes exclusive-ored. Own work. -/
import Derived.Test.YtclngijinhcdpaaSsC
namespace Go.Proofs.Ytclngijinhcdpaa
open Go.Ev Go.Sp Go.RowKit
set_option maxRecDepth 100000
theorem wdP_cut (k : List (BitVec 8)) (i : Nat) (_h : 4 * i + 4 ≤ k.length) : wdP (cutL k (4 * i) (k.length - 4 * i) k.length) 0 = wdP k i := by
  rw [cutL_eq rfl, List.take_of_length_le (by simp)]
  have g : ∀ j, j < 4 → (k.drop (4 * i)).getD j 0 = k.getD (4 * i + j) 0 := by
    intro j hj
    rw [List.getD_eq_getElem?_getD, List.getD_eq_getElem?_getD, List.getElem?_drop]
  unfold wdP
  rw [show 4 * 0 = 0 from rfl, g 0 (by omega), g (0 + 1) (by omega), g (0 + 2) (by omega), g (0 + 3) (by omega)]
  simp only [Nat.zero_add, Nat.add_zero]
theorem cut_len4 (k : List (BitVec 8)) (i : Nat) : (cutL k i (k.length - i) k.length).length = k.length - i := by
  rw [cutL_eq rfl]; simp
def spState : List AV → Option (AV × List Prop)
  | [.val false [.d8 k], .val false [.d8 n], .val false [.u32 c]] => some (.val true [.v32 16 (stateL k n c)], [k.length = 32, n.length = 12])
  | _ => none
theorem ctState : CtSOk Try.prog 20 (.fn spState) := FnS_of_fnS gsS fol fun ds r cs h hc => by
  unfold spState at h
  split at h
  case h_2 => simp at h
  rename_i k n c
  simp only [Option.some.injEq, Prod.mk.injEq] at h
  obtain ⟨rfl, rfl⟩ := h
  obtain ⟨hk, hn, _⟩ := hc
  refine use_run (runState k n c) ?_ ?_
  · rw [wdP_cut k 0 (by omega), wdP_cut k 1 (by omega), wdP_cut k 2 (by omega), wdP_cut k 3 (by omega), wdP_cut k 4 (by omega), wdP_cut k 5 (by omega), wdP_cut k 6 (by omega), wdP_cut k 7 (by omega), wdP_cut n 0 (by omega), wdP_cut n 1 (by omega), wdP_cut n 2 (by omega)]
    rfl
  · simp only [AllP, inI64, cut_len4]
    and_intros <;> first | exact True.intro | omega
def toldL (l : List (BitVec 32)) : List (BitVec 8) := (List.range 64).map fun i => (l.getD (i / 4) 0 >>> (8 * (i % 4))).setWidth 8
theorem toldL_len (l : List (BitVec 32)) : (toldL l).length = 64 := by simp [toldL]
theorem runTold (l : List (BitVec 32)) : fnS Try.prog (lookG []) orc0 [] 70 18 [.val true [.v32 16 l]] = some (sc (.d8 (toldL l)), [64 ≤ 64]) := by kernel_rfl
def spTold32 : List AV → Option (AV × List Prop)
  | [.val true [.v32 16 l]] => some (sc (.d8 (toldL l)), [])
  | _ => none
theorem ctTold : CtSOk Try.prog 18 (.fn spTold32) := FnS_of_fnS gs0 fol fun ds r cs h hc => by
  unfold spTold32 at h
  split at h
  case h_2 => simp at h
  rename_i l
  simp only [Option.some.injEq, Prod.mk.injEq] at h
  obtain ⟨rfl, rfl⟩ := h
  exact use_run (runTold l) rfl ⟨by omega, trivial⟩
def tblB : List (FuncId × CtS) := [(20, .fn spState), (19, .fn spBlk), (18, .fn spTold32)]
theorem okB : TblOk Try.prog tblB := ⟨⟨ctState, by kernel_rfl⟩, ⟨ctBlk, by kernel_rfl⟩, ⟨ctTold, by kernel_rfl⟩, trivial⟩
theorem gsB : GSound Try.prog (upG (lookG tblB)) := GSound_of_tbl okB
/-- The block. -/
def blockL (k n : List (BitVec 8)) (c : BitVec 32) : List (BitVec 8) := toldL (blkW (stateL k n c))
theorem blockL_len (k n : List (BitVec 8)) (c : BitVec 32) : (blockL k n c).length = 64 := toldL_len _
def blockV (k n : List (BitVec 8)) (c : BitVec 32) : List (BitVec 8) × Int := if k.length = 32 ∧ n.length = 12 then (blockL k n c, 0) else ([], 1)
theorem runBlock (k n : List (BitVec 8)) (c : BitVec 32) : fnS Try.prog (lookG tblB) (orcA [(1, [(2, false), (6, false)])]) [] 20 12 [sc (.d8 k), sc (.d8 n), sc (.u32 c)] =
    some (AV.tup [(false, [IV.d8 (cutL (toldL (blkW (stateL k n c))) 0 (toldL (blkW (stateL k n c))).length (toldL (blkW (stateL k n c))).length)]), (false, [IV.i64 (0 : Int)])], [(!(↑k.length : Int) == (32 : Int)) = false, (!(↑n.length : Int) == (12 : Int)) = false, k.length = k.length, n.length = n.length, k.length = 32, n.length = 12, (stateL k n c).length = 16, 0 + (toldL (blkW (stateL k n c))).length ≤ (toldL (blkW (stateL k n c))).length]) := by kernel_rfl
theorem runBlock1 (k n : List (BitVec 8)) (c : BitVec 32) : fnS Try.prog (lookG tblB) (orcA [(1, [(2, true)])]) [] 20 12 [sc (.d8 k), sc (.d8 n), sc (.u32 c)] =
    some (AV.tup [(false, [IV.d8 (cutL [] 0 0 0)]), (false, [IV.i64 (1 : Int)])], [(!(↑k.length : Int) == (32 : Int)) = true, 0 ≤ 0]) := by kernel_rfl
theorem runBlock2 (k n : List (BitVec 8)) (c : BitVec 32) : fnS Try.prog (lookG tblB) (orcA [(1, [(2, false), (6, true)])]) [] 20 12 [sc (.d8 k), sc (.d8 n), sc (.u32 c)] =
    some (AV.tup [(false, [IV.d8 (cutL [] 0 0 0)]), (false, [IV.i64 (1 : Int)])], [(!(↑k.length : Int) == (32 : Int)) = false, (!(↑n.length : Int) == (12 : Int)) = true, 0 ≤ 0]) := by kernel_rfl
def spBlock : List AV → Option (AV × List Prop)
  | [.val false [.d8 k], .val false [.d8 n], .val false [.u32 c]] => some (.tup [(false, [.d8 (blockV k n c).1]), (false, [.i64 (blockV k n c).2])], [])
  | _ => none
theorem cutAll {α : Type} (l : List α) (n : Nat) (h : n = l.length) : cutL l 0 n l.length = l := by rw [cutL_eq rfl, h]; simp
theorem neqB {a b : Int} (h : a ≠ b) : (!(a == b)) = true := by simp [h]
theorem neqF {a b : Int} (h : a = b) : (!(a == b)) = false := by simp [h]
theorem ctBlock : CtSOk Try.prog 12 (.fn spBlock) := FnS_of_fnS gsB fol fun ds r cs h hc => by
  unfold spBlock at h
  split at h
  case h_2 => simp at h
  rename_i k n c
  simp only [Option.some.injEq, Prod.mk.injEq] at h
  obtain ⟨rfl, rfl⟩ := h
  by_cases hk : k.length = 32
  · by_cases hn : n.length = 12
    · refine use_run (runBlock k n c) ?_ ?_
      · rw [cutAll _ _ rfl, blockV, if_pos ⟨hk, hn⟩]; rfl
      · simp only [AllP]
        and_intros <;> first | exact True.intro | with_reducible assumption | rfl | exact neqF (by omega) | omega
    · refine use_run (runBlock2 k n c) ?_ ?_
      · rw [blockV, if_neg (fun h => hn h.2)]; rfl
      · exact ⟨neqF (by omega), neqB (by omega), by omega, trivial⟩
  · refine use_run (runBlock1 k n c) ?_ ?_
    · rw [blockV, if_neg (fun h => hk h.1)]; rfl
    · exact ⟨neqB (by omega), by omega, trivial⟩
def xoTd : List Nat := [10, 11, 12]
def xoTd2 : List Nat := [10, 11, 12, 50, 51, 52]
def xoInv (out : List (BitVec 8)) (s : List (BitVec 32)) (i : Int) : St := ⟨slotsOf 78 [(10, sc (.sl 0 0 out.length)), (11, sc (.ptr 1 0)), (12, sc (.i64 i))], [(0, ⟨true, [.v8 out.length out]⟩), (1, ⟨true, [.v32 16 s]⟩)], 16⟩
def xoInv2 (out x : List (BitVec 8)) (s : List (BitVec 32)) (i k : Int) : St := ⟨slotsOf 78 [(10, sc (.sl 0 0 out.length)), (11, sc (.ptr 1 0)), (12, sc (.i64 i)), (50, sc (.sl 2 0 x.length)), (51, sc (.i64 (x.length : Int))), (52, sc (.i64 k))], [(0, ⟨true, [.v8 out.length out]⟩), (1, ⟨true, [.v32 16 s]⟩), (2, ⟨true, [.v8 x.length x]⟩)], 16⟩
theorem xoIn (out x : List (BitVec 8)) (s : List (BitVec 32)) (i k : Int) : roundS Try.prog (lookG tblB) (orcA [(12, [(0, true)]), (14, [(5, true)])]) [] 10 xoTd2 (bodyAt Try.prog 14 12) (xoInv2 out x s i k) =
    some (Ex.normal, St.mk (slotsOf 78 [(10, sc (IV.sl 0 0 out.length)), (11, sc (IV.ptr 1 0)), (12, sc (IV.i64 i)), (50, sc (IV.sl 2 0 x.length)), (51, sc (IV.i64 (↑x.length : Int))), (52, sc (IV.i64 (k + (1 : Int))))]) [(0, Blk.mk true [IV.v8 out.length (out.set (0 + (i + k).toNat * 1) (out.getD (0 + (i + k).toNat * 1) (BitVec.ofNat 8 0) ^^^ x.getD (0 + k.toNat * 1) (BitVec.ofNat 8 0)))]), (1, Blk.mk true [IV.v32 16 s]), (2, Blk.mk true [IV.v8 x.length x])] 16, [decide (k < (↑x.length : Int)) = true, (0 : Int) ≤ k, k.toNat < x.length, 0 + k.toNat * 1 < x.length, inI64 (i + k), decide (i + k < (↑out.length : Int)) = true, inI64 (i + k), (0 : Int) ≤ i + k, (i + k).toNat < out.length, 0 + (i + k).toNat * 1 < out.length, (0 : Int) ≤ i + k, (i + k).toNat < out.length, 0 + (i + k).toNat * 1 < out.length, inI64 (k + (1 : Int))]) := by kernel_rfl
theorem xoOut (out x : List (BitVec 8)) (s : List (BitVec 32)) (i k : Int) : roundS Try.prog (lookG tblB) (orcA [(12, [(0, true)]), (14, [(5, false)])]) [] 10 xoTd2 (bodyAt Try.prog 14 12) (xoInv2 out x s i k) =
    some (Ex.normal, St.mk (slotsOf 78 [(10, sc (IV.sl 0 0 out.length)), (11, sc (IV.ptr 1 0)), (12, sc (IV.i64 i)), (50, sc (IV.sl 2 0 x.length)), (51, sc (IV.i64 (↑x.length : Int))), (52, sc (IV.i64 (k + (1 : Int))))]) [(0, Blk.mk true [IV.v8 out.length out]), (1, Blk.mk true [IV.v32 16 s]), (2, Blk.mk true [IV.v8 x.length x])] 16, [decide (k < (↑x.length : Int)) = true, (0 : Int) ≤ k, k.toNat < x.length, 0 + k.toNat * 1 < x.length, inI64 (i + k), decide (i + k < (↑out.length : Int)) = false, inI64 (k + (1 : Int))]) := by kernel_rfl
theorem xoInEx (out x : List (BitVec 8)) (s : List (BitVec 32)) (i k : Int) : roundS Try.prog (lookG tblB) (orcA [(12, [(0, false)])]) [] 10 xoTd2 (bodyAt Try.prog 14 12) (xoInv2 out x s i k) =
    some (Ex.exit 2, St.mk (slotsOf 78 [(10, sc (IV.sl 0 0 out.length)), (11, sc (IV.ptr 1 0)), (12, sc (IV.i64 i)), (50, sc (IV.sl 2 0 x.length)), (51, sc (IV.i64 (↑x.length : Int))), (52, sc (IV.i64 k))]) [(0, Blk.mk true [IV.v8 out.length out]), (1, Blk.mk true [IV.v32 16 s]), (2, Blk.mk true [IV.v8 x.length x])] 16, [decide (k < (↑x.length : Int)) = false]) := by kernel_rfl
theorem xoRound (out out2 x : List (BitVec 8)) (s : List (BitVec 32)) (i k : Int) : roundS Try.prog (lookG tblB) (orcA [(9, [(3, true)])]) [⟨12, xoTd2, .exit 2, xoInv2 out2 x s i k⟩] 10 xoTd (bodyAt Try.prog 14 9) (xoInv out s i) =
    some (Ex.normal, St.mk (slotsOf 78 [(10, sc (IV.sl 0 0 out2.length)), (11, sc (IV.ptr 1 0)), (12, sc (IV.i64 (i + (64 : Int))))]) [(0, Blk.mk true [IV.v8 out2.length out2]), (1, Blk.mk true [IV.v32 16 (s.set 12 (s.getD 12 (BitVec.ofNat 32 0) + BitVec.ofNat 32 1))])] 16, [decide (i < (↑out.length : Int)) = true, s.length = 16, LoopTo Try.prog (bodyAt Try.prog 14 12) (St.mk (slotsOf 78 [(10, sc (IV.sl 0 0 out.length)), (11, sc (IV.ptr 1 0)), (12, sc (IV.i64 i)), (50, sc (IV.sl 2 0 (toldL (blkW s)).length)), (51, sc (IV.i64 (↑(toldL (blkW s)).length : Int))), (52, sc (IV.i64 (0 : Int)))]) [(0, Blk.mk true [IV.v8 out.length out]), (1, Blk.mk true [IV.v32 16 s]), (2, Blk.mk true [IV.v8 (toldL (blkW s)).length (toldL (blkW s))])] 16) (Ex.exit 2) (St.mk (slotsOf 78 [(10, sc (IV.sl 0 0 out2.length)), (11, sc (IV.ptr 1 0)), (12, sc (IV.i64 i)), (50, sc (IV.sl 2 0 x.length)), (51, sc (IV.i64 (↑x.length : Int))), (52, sc (IV.i64 k))]) [(0, Blk.mk true [IV.v8 out2.length out2]), (1, Blk.mk true [IV.v32 16 s]), (2, Blk.mk true [IV.v8 x.length x])] 16), (0 : Int) ≤ (12 : Int), 12 < 16, 12 < 16, (0 : Int) ≤ (12 : Int), 12 < 16, 12 < 16, inI64 (i + (64 : Int))]) := by kernel_rfl
theorem xoEx (out : List (BitVec 8)) (s : List (BitVec 32)) (i : Int) : roundS Try.prog (lookG tblB) (orcA [(9, [(3, false)])]) [] 10 xoTd (bodyAt Try.prog 14 9) (xoInv out s i) =
    some (Ex.exit 0, St.mk (slotsOf 78 [(10, sc (IV.sl 0 0 out.length)), (11, sc (IV.ptr 1 0)), (12, sc (IV.i64 i))]) [(0, Blk.mk true [IV.v8 out.length out]), (1, Blk.mk true [IV.v32 16 s])] 16, [decide (i < (↑out.length : Int)) = false]) := by kernel_rfl
theorem runXor (k n b out : List (BitVec 8)) (c : BitVec 32) (s : List (BitVec 32)) (i : Int) : fnS Try.prog (lookG tblB) (orcA [(1, [(2, false), (6, false)]), (3, [(8, false)])]) [⟨9, xoTd, .exit 0, xoInv out s i⟩] 10 14 [sc (.d8 k), sc (.d8 n), sc (.u32 c), sc (.d8 b)] =
    some (AV.tup [(false, [IV.d8 (cutL out 0 out.length out.length)]), (false, [IV.i64 (0 : Int)])], [(!(↑k.length : Int) == (32 : Int)) = false, (!(↑n.length : Int) == (12 : Int)) = false, inI64 ((↑b.length : Int) + (63 : Int)), 64 ≠ 0, decide (4294967296 < (BitVec.setWidth 64 c + BitVec.ofInt 64 ((↑b.length : Int) + (63 : Int)) / BitVec.ofNat 64 64).toNat) = false, (0 : Int) ≤ (↑b.length : Int), (0 : Int) ≤ (↑b.length : Int), (↑b.length : Int).toNat = (↑b.length : Int).toNat ∧ 1 * (↑b.length : Int).toNat ≤ 281474976710656 ∧ (↑b.length : Int).toNat ≤ 9223372036854775807, b.length = b.length, b.length ≤ (↑b.length : Int).toNat, (List.replicate (↑b.length : Int).toNat (BitVec.ofNat 8 0)).length + 0 = b.length + 0, k.length = k.length, n.length = n.length, k.length = 32, n.length = 12, LoopTo Try.prog (bodyAt Try.prog 14 9) (St.mk (slotsOf 78 [(10, sc (IV.sl 0 0 (↑b.length : Int).toNat)), (11, sc (IV.ptr 1 0)), (12, sc (IV.i64 (0 : Int)))]) [(0, Blk.mk true [IV.v8 b.length b]), (1, Blk.mk true [IV.v32 16 (stateL k n c)])] 16) (Ex.exit 0) (St.mk (slotsOf 78 [(10, sc (IV.sl 0 0 out.length)), (11, sc (IV.ptr 1 0)), (12, sc (IV.i64 i))]) [(0, Blk.mk true [IV.v8 out.length out]), (1, Blk.mk true [IV.v32 16 s])] 16), 0 + out.length ≤ out.length]) := by kernel_rfl
theorem runXor1 (k n b : List (BitVec 8)) (c : BitVec 32) : fnS Try.prog (lookG tblB) (orcA [(1, [(2, true)])]) [] 10 14 [sc (.d8 k), sc (.d8 n), sc (.u32 c), sc (.d8 b)] =
    some (AV.tup [(false, [IV.d8 (cutL [] 0 0 0)]), (false, [IV.i64 (1 : Int)])], [(!(↑k.length : Int) == (32 : Int)) = true, 0 ≤ 0]) := by kernel_rfl
theorem runXor2 (k n b : List (BitVec 8)) (c : BitVec 32) : fnS Try.prog (lookG tblB) (orcA [(1, [(2, false), (6, true)])]) [] 10 14 [sc (.d8 k), sc (.d8 n), sc (.u32 c), sc (.d8 b)] =
    some (AV.tup [(false, [IV.d8 (cutL [] 0 0 0)]), (false, [IV.i64 (1 : Int)])], [(!(↑k.length : Int) == (32 : Int)) = false, (!(↑n.length : Int) == (12 : Int)) = true, 0 ≤ 0]) := by kernel_rfl
theorem runXor3 (k n b : List (BitVec 8)) (c : BitVec 32) : fnS Try.prog (lookG tblB) (orcA [(1, [(2, false), (6, false)]), (3, [(8, true)])]) [] 10 14 [sc (.d8 k), sc (.d8 n), sc (.u32 c), sc (.d8 b)] =
    some (AV.tup [(false, [IV.d8 (cutL [] 0 0 0)]), (false, [IV.i64 (2 : Int)])], [(!(↑k.length : Int) == (32 : Int)) = false, (!(↑n.length : Int) == (12 : Int)) = false, inI64 ((↑b.length : Int) + (63 : Int)), 64 ≠ 0, decide (4294967296 < (BitVec.setWidth 64 c + BitVec.ofInt 64 ((↑b.length : Int) + (63 : Int)) / BitVec.ofNat 64 64).toNat) = true, 0 ≤ 0]) := by kernel_rfl
theorem ext_getD {α : Type} (z : α) {l m : List α} (h : l.length = m.length) (he : ∀ i, i < l.length → l.getD i z = m.getD i z) : l = m := by
  apply List.ext_getElem h
  intro i h1 h2
  have := he i h1
  rw [List.getD_eq_getElem?_getD, List.getD_eq_getElem?_getD, List.getElem?_eq_getElem h1, List.getElem?_eq_getElem h2] at this
  exact this
theorem getD_set {α : Type} (z x : α) (l : List α) (i j : Nat) (h : i < l.length) : (l.set i x).getD j z = if j = i then x else l.getD j z := by
  rw [List.getD_eq_getElem?_getD, List.getD_eq_getElem?_getD, List.getElem?_set]
  by_cases e : i = j
  · subst e; simp [h]
  · rw [if_neg e, if_neg (fun h => e h.symm)]
theorem getD_map_range (f : Nat → BitVec 8) (n i : Nat) (h : i < n) : ((List.range n).map f).getD i 0#8 = f i := by
  rw [List.getD_eq_getElem?_getD, List.getElem?_map, List.getElem?_range h]; rfl
/-- Bytes from i on exclusive-ored with a block's first k bytes. -/
def xoF (out x : List (BitVec 8)) (i : Nat) : Nat → List (BitVec 8)
  | 0 => out
  | k + 1 => if i + k < out.length then (xoF out x i k).set (i + k) ((xoF out x i k).getD (i + k) 0#8 ^^^ x.getD k 0#8) else xoF out x i k
theorem xoF_len (out x : List (BitVec 8)) (i : Nat) : ∀ k, (xoF out x i k).length = out.length
  | 0 => rfl
  | k + 1 => by
    unfold xoF
    split
    · rw [List.length_set, xoF_len out x i k]
    · exact xoF_len out x i k
theorem xoF_get (out x : List (BitVec 8)) (i : Nat) : ∀ k m, m < out.length → (xoF out x i k).getD m 0#8 = if i ≤ m ∧ m < i + k then out.getD m 0#8 ^^^ x.getD (m - i) 0#8 else out.getD m 0#8
  | 0, m, hm => by rw [if_neg (by omega)]; rfl
  | k + 1, m, hm => by
    have ih := xoF_get out x i k
    unfold xoF
    split
    · rename_i h
      rw [getD_set _ _ _ _ _ (by rw [xoF_len]; exact h)]
      by_cases e : m = i + k
      · subst e
        rw [if_pos rfl, ih _ h, if_neg (by omega), if_pos (by omega)]
        congr 2
        omega
      · rw [if_neg e, ih m hm]
        by_cases c : i ≤ m ∧ m < i + k
        · rw [if_pos c, if_pos (by omega)]
        · rw [if_neg c, if_neg (by omega)]
    · rw [ih m hm]
      by_cases c : i ≤ m ∧ m < i + k
      · rw [if_pos c, if_pos (by omega)]
      · rw [if_neg c, if_neg (by omega)]
theorem xoLoop (out x : List (BitVec 8)) (s : List (BitVec 32)) (i : Nat) (hx : x.length = 64) (hi : i ≤ 4000000) (ho : out.length ≤ 4000000) :
    LoopTo Try.prog (bodyAt Try.prog 14 12) (xoInv2 out x s (i : Nat) 0) (.exit 2) (xoInv2 (xoF out x i 64) x s (i : Nat) ((64 : Nat) : Int)) := by
  refine LoopTo.intro (α := Nat) gsB fol (fun k => xoInv2 (xoF out x i k) x s (i : Nat) (k : Nat)) (fun k => k ≤ 64) (fun k => 64 - k) (by simp) ?_ 0 (by simp)
  intro k hk
  have hl := xoF_len out x i k
  by_cases he : k = 64
  · subst he
    exact .inr ⟨_, _, _, _, _, xoInEx _ _ _ _ _, ⟨decide_eq_false (by omega), trivial⟩⟩
  · by_cases hc : i + k < out.length
    · have r0 := xoIn (xoF out x i k) x s (i : Nat) (k : Nat)
      have e1 : 0 + (((i : Nat) : Int) + ((k : Nat) : Int)).toNat * 1 = i + k := by omega
      have e2 : 0 + ((k : Nat) : Int).toNat * 1 = k := by omega
      have e3 : (xoF out x i k).set (i + k) ((xoF out x i k).getD (i + k) (BitVec.ofNat 8 0) ^^^ x.getD k (BitVec.ofNat 8 0)) = xoF out x i (k + 1) := by
        rw [xoF, if_pos hc]
      have e4 : ((k : Nat) : Int) + 1 = ((k + 1 : Nat) : Int) := by omega
      rw [e1, e2, e3, e4] at r0
      have e5 : (xoF out x i k).length = (xoF out x i (k + 1)).length := by rw [xoF_len, xoF_len]
      rw [e5] at r0
      refine .inl ⟨_, _, _, _, _, k + 1, r0, ?_, by omega, by omega⟩
      have e6 := xoF_len out x i (k + 1)
      simp only [AllP, inI64, decide_eq_true_eq]
      and_intros <;> first | exact True.intro | omega
    · have r0 := xoOut (xoF out x i k) x s (i : Nat) (k : Nat)
      have e3 : xoF out x i (k + 1) = xoF out x i k := by rw [xoF, if_neg hc]
      have e4 : ((k : Nat) : Int) + 1 = ((k + 1 : Nat) : Int) := by omega
      rw [e4, ← e3] at r0
      rw [← e3]
      refine .inl ⟨_, _, _, _, _, k + 1, r0, ?_, by omega, by omega⟩
      have e6 := xoF_len out x i (k + 1)
      simp only [AllP, inI64, decide_eq_true_eq, decide_eq_false_iff_not]
      and_intros <;> first | exact True.intro | omega
def ksB (k n : List (BitVec 8)) (c : BitVec 32) (i : Nat) : BitVec 8 := (blockL k n (c + BitVec.ofNat 32 (i / 64))).getD (i % 64) 0#8
def xorL (k n : List (BitVec 8)) (c : BitVec 32) (b : List (BitVec 8)) : List (BitVec 8) := (List.range b.length).map fun i => b.getD i 0#8 ^^^ ksB k n c i
theorem xorL_len (k n : List (BitVec 8)) (c : BitVec 32) (b : List (BitVec 8)) : (xorL k n c b).length = b.length := by simp [xorL]
def xorJ (k n : List (BitVec 8)) (c : BitVec 32) (b : List (BitVec 8)) (j : Nat) : List (BitVec 8) := (List.range b.length).map fun i => if i < 64 * j then b.getD i 0#8 ^^^ ksB k n c i else b.getD i 0#8
theorem xorJ_len (k n : List (BitVec 8)) (c : BitVec 32) (b : List (BitVec 8)) (j : Nat) : (xorJ k n c b j).length = b.length := by simp [xorJ]
theorem xorJ_zero (k n : List (BitVec 8)) (c : BitVec 32) (b : List (BitVec 8)) : xorJ k n c b 0 = b := by
  refine ext_getD 0#8 (xorJ_len ..) fun i hi => ?_
  rw [xorJ_len] at hi
  rw [xorJ, getD_map_range _ _ _ hi, if_neg (by omega)]
theorem xorJ_all (k n : List (BitVec 8)) (c : BitVec 32) (b : List (BitVec 8)) (j : Nat) (h : b.length ≤ 64 * j) : xorJ k n c b j = xorL k n c b := by
  refine ext_getD 0#8 (by rw [xorJ_len, xorL_len]) fun i hi => ?_
  rw [xorJ_len] at hi
  rw [xorJ, xorL, getD_map_range _ _ _ hi, getD_map_range _ _ _ hi, if_pos (by omega)]
theorem xorJ_step (k n : List (BitVec 8)) (c : BitVec 32) (b : List (BitVec 8)) (j : Nat) : xoF (xorJ k n c b j) (blockL k n (c + BitVec.ofNat 32 j)) (64 * j) 64 = xorJ k n c b (j + 1) := by
  refine ext_getD 0#8 (by rw [xoF_len, xorJ_len, xorJ_len]) fun i hi => ?_
  rw [xoF_len, xorJ_len] at hi
  rw [xoF_get _ _ _ _ _ (by rw [xorJ_len]; exact hi), xorJ, xorJ, getD_map_range _ _ _ hi, getD_map_range _ _ _ hi]
  by_cases h1 : i < 64 * j
  · rw [if_neg (by omega), if_pos h1, if_pos (by omega)]
  · by_cases h2 : i < 64 * j + 64
    · rw [if_pos (by omega), if_neg h1, if_pos (by omega)]
      have e1 : i / 64 = j := by omega
      have e2 : i % 64 = i - 64 * j := by omega
      rw [ksB, e1, e2]
    · rw [if_neg (by omega), if_neg h1, if_neg (by omega)]
theorem state_next (k n : List (BitVec 8)) (c : BitVec 32) (j : Nat) : (stateL k n (c + BitVec.ofNat 32 j)).set 12 ((stateL k n (c + BitVec.ofNat 32 j)).getD 12 (BitVec.ofNat 32 0) + BitVec.ofNat 32 1) = stateL k n (c + BitVec.ofNat 32 (j + 1)) := by
  have e : c + BitVec.ofNat 32 j + BitVec.ofNat 32 1 = c + BitVec.ofNat 32 (j + 1) := by
    rw [BitVec.add_assoc, BitVec.ofNat_add]
  rw [← e]
  rfl
def nBl (b : List (BitVec 8)) : Nat := (b.length + 63) / 64
theorem xoLoop2 (k n : List (BitVec 8)) (c : BitVec 32) (b : List (BitVec 8)) (hb : b.length ≤ 4000) :
    LoopTo Try.prog (bodyAt Try.prog 14 9) (xoInv b (stateL k n c) 0) (.exit 0) (xoInv (xorL k n c b) (stateL k n (c + BitVec.ofNat 32 (nBl b))) ((64 * nBl b : Nat) : Int)) := by
  have h0 : xoInv b (stateL k n c) 0 = xoInv (xorJ k n c b 0) (stateL k n (c + BitVec.ofNat 32 0)) ((64 * 0 : Nat) : Int) := by
    rw [xorJ_zero, show c + BitVec.ofNat 32 0 = c by simp]; rfl
  rw [h0, ← xorJ_all k n c b (nBl b) (by unfold nBl; omega)]
  refine LoopTo.intro (α := Nat) gsB fol (fun j => xoInv (xorJ k n c b j) (stateL k n (c + BitVec.ofNat 32 j)) ((64 * j : Nat) : Int)) (fun j => j ≤ nBl b) (fun j => nBl b - j) (by simp) ?_ 0 (by simp)
  intro j hj
  have hl := xorJ_len k n c b j
  by_cases he : j = nBl b
  · subst he
    exact .inr ⟨_, _, _, _, _, xoEx _ _ _, ⟨decide_eq_false (by rw [xorJ_len]; unfold nBl; omega), trivial⟩⟩
  · have hlt : 64 * j < b.length := by unfold nBl at *; omega
    have r0 := xoRound (xorJ k n c b j) (xorJ k n c b (j + 1)) (blockL k n (c + BitVec.ofNat 32 j)) (stateL k n (c + BitVec.ofNat 32 j)) ((64 * j : Nat) : Int) ((64 : Nat) : Int)
    rw [state_next] at r0
    have e4 : ((64 * j : Nat) : Int) + 64 = ((64 * (j + 1) : Nat) : Int) := by omega
    simp only [e4] at r0
    refine .inl ⟨_, _, _, _, _, j + 1, r0, ?_, by omega, by omega⟩
    have lp := xoLoop (xorJ k n c b j) (blockL k n (c + BitVec.ofNat 32 j)) (stateL k n (c + BitVec.ofNat 32 j)) (64 * j) (blockL_len ..) (by omega) (by omega)
    rw [xorJ_step] at lp
    refine ⟨decide_eq_true (by omega), rfl, lp, ?_⟩
    simp only [AllP, inI64]
    and_intros <;> first | exact True.intro | omega
def xorV (k n : List (BitVec 8)) (c : BitVec 32) (b : List (BitVec 8)) : List (BitVec 8) × Int :=
  if k.length = 32 ∧ n.length = 12 then if c.toNat + nBl b ≤ 4294967296 then (xorL k n c b, 0) else ([], 2) else ([], 1)
def spXor : List AV → Option (AV × List Prop)
  | [.val false [.d8 k], .val false [.d8 n], .val false [.u32 c], .val false [.d8 b]] => some (.tup [(false, [.d8 (xorV k n c b).1]), (false, [.i64 (xorV k n c b).2])], [b.length ≤ 4000])
  | _ => none
theorem long_eq (c : BitVec 32) (n : Nat) (h : n ≤ 4000) : (BitVec.setWidth 64 c + BitVec.ofInt 64 ((n : Int) + (63 : Int)) / BitVec.ofNat 64 64).toNat = c.toNat + (n + 63) / 64 := by
  have hc := c.isLt
  have e : BitVec.ofInt 64 ((n : Int) + (63 : Int)) = BitVec.ofNat 64 (n + 63) := by
    apply BitVec.eq_of_toNat_eq
    rw [BitVec.toNat_ofInt, BitVec.toNat_ofNat]
    omega
  have e1 : (BitVec.ofNat 64 (n + 63)).toNat = n + 63 := by rw [BitVec.toNat_ofNat]; omega
  have e2 : (BitVec.ofNat 64 64).toNat = 64 := rfl
  rw [e, BitVec.toNat_add, BitVec.toNat_udiv, e1, e2, BitVec.toNat_setWidth]
  omega
theorem ctXor : CtSOk Try.prog 14 (.fn spXor) := FnS_of_fnS gsB fol fun ds r cs h hc => by
  unfold spXor at h
  split at h
  case h_2 => simp at h
  rename_i k n c b
  simp only [Option.some.injEq, Prod.mk.injEq] at h
  obtain ⟨rfl, rfl⟩ := h
  have hb := hc.1
  by_cases hk : k.length = 32
  · by_cases hn : n.length = 12
    · have hL := long_eq c b.length hb
      by_cases hl : c.toNat + nBl b ≤ 4294967296
      · have r0 := runXor k n b (xorL k n c b) c (stateL k n (c + BitVec.ofNat 32 (nBl b))) ((64 * nBl b : Nat) : Int)
        rw [Int.toNat_natCast] at r0
        refine use_run r0 ?_ ?_
        · rw [cutAll _ _ rfl, xorV, if_pos ⟨hk, hn⟩, if_pos hl]
        · rw [hL]
          have lp := xoLoop2 k n c b hb
          simp only [AllP, inI64, List.length_replicate]
          and_intros <;> first | exact True.intro | exact lp | exact neqF (by omega) | omega | exact decide_eq_false (by unfold nBl at hl; omega)
      · refine use_run (runXor3 k n b c) ?_ ?_
        · rw [xorV, if_pos ⟨hk, hn⟩, if_neg hl]; rfl
        · rw [hL]
          simp only [AllP, inI64]
          and_intros <;> first | exact True.intro | exact neqF (by omega) | omega | exact decide_eq_true (by unfold nBl at hl; omega)
    · refine use_run (runXor2 k n b c) ?_ ?_
      · rw [xorV, if_neg (fun h => hn h.2)]; rfl
      · exact ⟨neqF (by omega), neqB (by omega), by omega, trivial⟩
  · refine use_run (runXor1 k n b c) ?_ ?_
    · rw [xorV, if_neg (fun h => hk h.1)]; rfl
    · exact ⟨neqB (by omega), by omega, trivial⟩
end Go.Proofs.Ytclngijinhcdpaa
