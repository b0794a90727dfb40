/- Contracts of layer 10's blocks: the program's words. Own work. -/
import Derived.Test.YtclngijinhcdpaaSsB
import Derived.Test.YtclngijinhcdpaaEvV
import Derived.Test.YtclngijinhcdpaaEvU
namespace Go.Proofs.Ytclngijinhcdpaa
open Go.Ev Go.Sp Go.RowKit
set_option maxRecDepth 100000
/-- A quarter at four places. -/
def qAt (w : List (BitVec 32)) (i j k n : Nat) : List (BitVec 32) :=
  let q := qL (w.getD i 0) (w.getD j 0) (w.getD k 0) (w.getD n 0)
  (((w.set i (q.getD 0 0)).set j (q.getD 1 0)).set k (q.getD 2 0)).set n (q.getD 3 0)
def dblR (w : List (BitVec 32)) : List (BitVec 32) :=
  qAt (qAt (qAt (qAt (qAt (qAt (qAt (qAt w 0 4 8 12) 1 5 9 13) 2 6 10 14) 3 7 11 15) 0 5 10 15) 1 6 11 12) 2 7 8 13) 3 4 9 14
def dblN (w : List (BitVec 32)) : Nat → List (BitVec 32)
  | 0 => w
  | n + 1 => dblR (dblN w n)
def bkTd : List Nat := [1, 2, 3, 12]
def bkZ : List (BitVec 32) := [BitVec.ofNat 32 0, BitVec.ofNat 32 0, BitVec.ofNat 32 0, BitVec.ofNat 32 0, BitVec.ofNat 32 0, BitVec.ofNat 32 0, BitVec.ofNat 32 0, BitVec.ofNat 32 0, BitVec.ofNat 32 0, BitVec.ofNat 32 0, BitVec.ofNat 32 0, BitVec.ofNat 32 0, BitVec.ofNat 32 0, BitVec.ofNat 32 0, BitVec.ofNat 32 0, BitVec.ofNat 32 0]
def bkInv (s w : List (BitVec 32)) (i : Int) : St := ⟨slotsOf 84 [(1, sc (.ptr 0 0)), (2, sc (.ptr 1 0)), (3, sc (.ptr 2 0)), (12, sc (.i64 i))], [(0, ⟨true, [.v32 16 s]⟩), (1, ⟨true, [.v32 16 bkZ]⟩), (2, ⟨true, [.v32 16 w]⟩)], 16⟩
theorem bkRes (s w : List (BitVec 32)) (i : Int) : roundS Try.prog (lookG tblAwake) (orcOf [3, 19] [(3, [(0, true)])]) [] 10 bkTd (bodyAt Try.prog 19 3) (bkInv s w i) = some (.normal, bkInv s (dblR w) (i + 1), [decide (i < (10 : Int)) = true, inI64 (i + 1)]) := by kernel_rfl
theorem bkExit (s w : List (BitVec 32)) (i : Int) : roundS Try.prog (lookG tblAwake) (orcOf [3, 19] [(3, [(0, false)])]) [] 10 bkTd (bodyAt Try.prog 19 3) (bkInv s w i) =
    some (Ex.exit 0, St.mk (slotsOf 84 [(1, sc (IV.ptr 0 0)), (2, sc (IV.ptr 1 0)), (3, sc (IV.ptr 2 0)), (12, sc (IV.i64 i))]) [(0, Blk.mk true [IV.v32 16 s]), (1, Blk.mk true [IV.v32 16 bkZ]), (2, Blk.mk true [IV.v32 16 w])] 16, [decide (i < (10 : Int)) = false]) := by kernel_rfl
def sumL (w s : List (BitVec 32)) : List (BitVec 32) := (List.range 16).map fun i => w.getD i 0 + s.getD i 0
theorem runBlk (w0 w1 w2 w3 w4 w5 w6 w7 w8 w9 w10 w11 w12 w13 w14 w15 : BitVec 32) (l : List (BitVec 32)) (i : Int) : fnS Try.prog (lookG tblAwake) orc0 [⟨3, bkTd, .exit 0, bkInv l [w0, w1, w2, w3, w4, w5, w6, w7, w8, w9, w10, w11, w12, w13, w14, w15] i⟩] 30 19 [.val true [.v32 16 l]] =
    some (.val true [.v32 16 [w0 + l.getD 0 0#32, w1 + l.getD 1 0#32, w2 + l.getD 2 0#32, w3 + l.getD 3 0#32, w4 + l.getD 4 0#32, w5 + l.getD 5 0#32, w6 + l.getD 6 0#32, w7 + l.getD 7 0#32, w8 + l.getD 8 0#32, w9 + l.getD 9 0#32, w10 + l.getD 10 0#32, w11 + l.getD 11 0#32, w12 + l.getD 12 0#32, w13 + l.getD 13 0#32, w14 + l.getD 14 0#32, w15 + l.getD 15 0#32]], [LoopTo Try.prog (bodyAt Try.prog 19 3) (bkInv l l 0) (.exit 0) (bkInv l [w0, w1, w2, w3, w4, w5, w6, w7, w8, w9, w10, w11, w12, w13, w14, w15] i)]) := by kernel_rfl
theorem qAt_len (w : List (BitVec 32)) (i j k n : Nat) : (qAt w i j k n).length = w.length := by simp [qAt]
theorem dblR_len (w : List (BitVec 32)) : (dblR w).length = w.length := by simp only [dblR, qAt_len]
theorem dblN_len (w : List (BitVec 32)) : ∀ n, (dblN w n).length = w.length
  | 0 => rfl
  | n + 1 => by rw [dblN, dblR_len, dblN_len w n]
theorem list16w {l : List (BitVec 32)} (h : l.length = 16) : ∃ w0 w1 w2 w3 w4 w5 w6 w7 w8 w9 w10 w11 w12 w13 w14 w15, l = [w0, w1, w2, w3, w4, w5, w6, w7, w8, w9, w10, w11, w12, w13, w14, w15] := by
  match l, h with
  | [w0, w1, w2, w3, w4, w5, w6, w7, w8, w9, w10, w11, w12, w13, w14, w15], _ => exact ⟨_, _, _, _, _, _, _, _, _, _, _, _, _, _, _, _, rfl⟩
def blkW (l : List (BitVec 32)) : List (BitVec 32) := sumL (dblN l 10) l
theorem blkW_len (l : List (BitVec 32)) : (blkW l).length = 16 := by simp [blkW, sumL]
theorem bkLoop (l : List (BitVec 32)) : LoopTo Try.prog (bodyAt Try.prog 19 3) (bkInv l l 0) (.exit 0) (bkInv l (dblN l 10) 10) := by
  refine LoopTo.intro (α := Nat) gsAwake fol (fun j => bkInv l (dblN l j) (j : Nat)) (fun j => j ≤ 10) (fun j => 10 - j) (by simp) ?_ 0 (by simp)
  intro j hj
  by_cases he : j = 10
  · subst he
    exact .inr ⟨_, _, _, _, _, bkExit _ _ _, rfl, trivial⟩
  · exact .inl ⟨_, _, _, _, _, j + 1, bkRes l (dblN l j) (j : Nat), ⟨decide_eq_true (by omega), by unfold inI64; omega, trivial⟩, by omega, by omega⟩
def spBlk : List AV → Option (AV × List Prop)
  | [.val true [.v32 16 l]] => some (.val true [.v32 16 (blkW l)], [l.length = 16])
  | _ => none
theorem ctBlk : CtSOk Try.prog 19 (.fn spBlk) := FnS_of_fnS gsAwake fol fun ds r cs h hc => by
  unfold spBlk at h
  split at h
  case h_2 => simp at h
  rename_i l
  simp only [Option.some.injEq, Prod.mk.injEq] at h
  obtain ⟨rfl, rfl⟩ := h
  have hl := bkLoop l
  have h16 : (dblN l 10).length = 16 := by rw [dblN_len]; exact hc.1
  obtain ⟨w0, w1, w2, w3, w4, w5, w6, w7, w8, w9, w10, w11, w12, w13, w14, w15, h⟩ := list16w h16
  rw [h] at hl
  refine use_run (runBlk w0 w1 w2 w3 w4 w5 w6 w7 w8 w9 w10 w11 w12 w13 w14 w15 l 10) ?_ ⟨hl, trivial⟩
  rw [blkW, h]; rfl
def wdP (b : List (BitVec 8)) (i : Nat) : BitVec 32 := (b.getD (4 * i) 0).setWidth 32 ||| (b.getD (4 * i + 1) 0).setWidth 32 <<< 8 ||| (b.getD (4 * i + 2) 0).setWidth 32 <<< 16 ||| (b.getD (4 * i + 3) 0).setWidth 32 <<< 24
def stateL (k n : List (BitVec 8)) (c : BitVec 32) : List (BitVec 32) :=
  [0x61707865#32, 0x3320646e#32, 0x79622d32#32, 0x6b206574#32, wdP k 0, wdP k 1, wdP k 2, wdP k 3, wdP k 4, wdP k 5, wdP k 6, wdP k 7, c, wdP n 0, wdP n 1, wdP n 2]
theorem runWord (b : List (BitVec 8)) : fnS Try.prog (lookG []) (orcA []) [] 10 23 [sc (.d8 b)] =
    some (sc (IV.u32 (BitVec.setWidth 32 (b.getD 0 (BitVec.ofNat 8 0)) ||| BitVec.setWidth 32 (b.getD 1 (BitVec.ofNat 8 0)) <<< 8 ||| BitVec.setWidth 32 (b.getD 2 (BitVec.ofNat 8 0)) <<< 16 ||| BitVec.setWidth 32 (b.getD 3 (BitVec.ofNat 8 0)) <<< 24)), [(0 : Int) ≤ (0 : Int), 0 < b.length, 0 < b.length, (0 : Int) ≤ (1 : Int), 1 < b.length, 1 < b.length, (0 : Int) ≤ (2 : Int), 2 < b.length, 2 < b.length, (0 : Int) ≤ (3 : Int), 3 < b.length, 3 < b.length]) := by kernel_rfl
def spWord : List AV → Option (AV × List Prop)
  | [.val false [.d8 b]] => some (sc (.u32 (wdP b 0)), [4 ≤ b.length])
  | _ => none
theorem ctWord : CtSOk Try.prog 23 (.fn spWord) := FnS_of_fnS gs0 fol fun ds r cs h hc => by
  unfold spWord at h
  split at h
  case h_2 => simp at h
  rename_i b
  simp only [Option.some.injEq, Prod.mk.injEq] at h
  obtain ⟨rfl, rfl⟩ := h
  have hb := hc.1
  refine use_run (runWord b) rfl ?_
  simp only [AllP]
  and_intros <;> first | exact True.intro | rfl | omega
def tblS : List (FuncId × CtS) := [(23, .fn spWord)]
theorem okS : TblOk Try.prog tblS := ⟨⟨ctWord, by kernel_rfl⟩, trivial⟩
theorem gsS : GSound Try.prog (upG (lookG tblS)) := GSound_of_tbl okS
theorem runState (k n : List (BitVec 8)) (c : BitVec 32) : fnS Try.prog (lookG tblS) (orcP [] [(5, [6]), (10, [6])]) [] 20 20 [sc (.d8 k), sc (.d8 n), sc (.u32 c)] =
    some (AV.val true [IV.v32 16 (((((((((((((((([BitVec.ofNat 32 0, BitVec.ofNat 32 0, BitVec.ofNat 32 0, BitVec.ofNat 32 0, BitVec.ofNat 32 0, BitVec.ofNat 32 0, BitVec.ofNat 32 0, BitVec.ofNat 32 0, BitVec.ofNat 32 0, BitVec.ofNat 32 0, BitVec.ofNat 32 0, BitVec.ofNat 32 0, BitVec.ofNat 32 0, BitVec.ofNat 32 0, BitVec.ofNat 32 0, BitVec.ofNat 32 0].set 0 (BitVec.ofNat 32 1634760805)).set 1 (BitVec.ofNat 32 857760878)).set 2 (BitVec.ofNat 32 2036477234)).set 3 (BitVec.ofNat 32 1797285236)).set 12 c).set 4 (wdP (cutL k 0 (k.length - 0) k.length) 0)).set 5 (wdP (cutL k 4 (k.length - 4) k.length) 0)).set 6 (wdP (cutL k 8 (k.length - 8) k.length) 0)).set 7 (wdP (cutL k 12 (k.length - 12) k.length) 0)).set 8 (wdP (cutL k 16 (k.length - 16) k.length) 0)).set 9 (wdP (cutL k 20 (k.length - 20) k.length) 0)).set 10 (wdP (cutL k 24 (k.length - 24) k.length) 0)).set 11 (wdP (cutL k 28 (k.length - 28) k.length) 0)).set 13 (wdP (cutL n 0 (n.length - 0) n.length) 0)).set 14 (wdP (cutL n 4 (n.length - 4) n.length) 0)).set 15 (wdP (cutL n 8 (n.length - 8) n.length) 0))], [inI64 (4 : Int), inI64 (0 : Int), (0 : Int) ≤ (0 : Int), 0 ≤ k.length, k.length ≤ k.length, 0 + (k.length - 0) ≤ k.length, 4 ≤ (cutL k 0 (k.length - 0) k.length).length, (0 : Int) ≤ (4 : Int), 4 < 16, 4 < 16, inI64 (1 : Int), inI64 (5 : Int), inI64 (4 : Int), (0 : Int) ≤ (4 : Int), 4 ≤ k.length, k.length ≤ k.length, 4 + (k.length - 4) ≤ k.length, 4 ≤ (cutL k 4 (k.length - 4) k.length).length, (0 : Int) ≤ (5 : Int), 5 < 16, 5 < 16, inI64 (2 : Int), inI64 (6 : Int), inI64 (8 : Int), (0 : Int) ≤ (8 : Int), 8 ≤ k.length, k.length ≤ k.length, 8 + (k.length - 8) ≤ k.length, 4 ≤ (cutL k 8 (k.length - 8) k.length).length, (0 : Int) ≤ (6 : Int), 6 < 16, 6 < 16, inI64 (3 : Int), inI64 (7 : Int), inI64 (12 : Int), (0 : Int) ≤ (12 : Int), 12 ≤ k.length, k.length ≤ k.length, 12 + (k.length - 12) ≤ k.length, 4 ≤ (cutL k 12 (k.length - 12) k.length).length, (0 : Int) ≤ (7 : Int), 7 < 16, 7 < 16, inI64 (4 : Int), inI64 (8 : Int), inI64 (16 : Int), (0 : Int) ≤ (16 : Int), 16 ≤ k.length, k.length ≤ k.length, 16 + (k.length - 16) ≤ k.length, 4 ≤ (cutL k 16 (k.length - 16) k.length).length, (0 : Int) ≤ (8 : Int), 8 < 16, 8 < 16, inI64 (5 : Int), inI64 (9 : Int), inI64 (20 : Int), (0 : Int) ≤ (20 : Int), 20 ≤ k.length, k.length ≤ k.length, 20 + (k.length - 20) ≤ k.length, 4 ≤ (cutL k 20 (k.length - 20) k.length).length, (0 : Int) ≤ (9 : Int), 9 < 16, 9 < 16, inI64 (6 : Int), inI64 (10 : Int), inI64 (24 : Int), (0 : Int) ≤ (24 : Int), 24 ≤ k.length, k.length ≤ k.length, 24 + (k.length - 24) ≤ k.length, 4 ≤ (cutL k 24 (k.length - 24) k.length).length, (0 : Int) ≤ (10 : Int), 10 < 16, 10 < 16, inI64 (7 : Int), inI64 (11 : Int), inI64 (28 : Int), (0 : Int) ≤ (28 : Int), 28 ≤ k.length, k.length ≤ k.length, 28 + (k.length - 28) ≤ k.length, 4 ≤ (cutL k 28 (k.length - 28) k.length).length, (0 : Int) ≤ (11 : Int), 11 < 16, 11 < 16, inI64 (8 : Int), inI64 (13 : Int), inI64 (0 : Int), (0 : Int) ≤ (0 : Int), 0 ≤ n.length, n.length ≤ n.length, 0 + (n.length - 0) ≤ n.length, 4 ≤ (cutL n 0 (n.length - 0) n.length).length, (0 : Int) ≤ (13 : Int), 13 < 16, 13 < 16, inI64 (1 : Int), inI64 (14 : Int), inI64 (4 : Int), (0 : Int) ≤ (4 : Int), 4 ≤ n.length, n.length ≤ n.length, 4 + (n.length - 4) ≤ n.length, 4 ≤ (cutL n 4 (n.length - 4) n.length).length, (0 : Int) ≤ (14 : Int), 14 < 16, 14 < 16, inI64 (2 : Int), inI64 (15 : Int), inI64 (8 : Int), (0 : Int) ≤ (8 : Int), 8 ≤ n.length, n.length ≤ n.length, 8 + (n.length - 8) ≤ n.length, 4 ≤ (cutL n 8 (n.length - 8) n.length).length, (0 : Int) ≤ (15 : Int), 15 < 16, 15 < 16, inI64 (3 : Int)]) := by kernel_rfl
end Go.Proofs.Ytclngijinhcdpaa
