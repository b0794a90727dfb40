/- Contracts of layer 10: the document's exclusive-or. Own work. -/
import Derived.Test.YtclngijinhcdpaaSsE
namespace Go.Proofs.Ytclngijinhcdpaa
open Go.Ev Go.Sp Go.RowKit
set_option maxRecDepth 100000
def tblF : List (FuncId × CtS) := [(13, .fn spRBlock)]
theorem okF : TblOk Try.prog tblF := ⟨⟨ctRBlock, by kernel_rfl⟩, trivial⟩
theorem gsF : GSound Try.prog (upG (lookG tblF)) := GSound_of_tbl okF
def rxTd : List Nat := [0, 1, 2, 3, 11, 12, 13]
def rxInv (k n : List (BitVec 8)) (c : BitVec 32) (b o x : List (BitVec 8)) (i : Int) : St := ⟨slotsOf 67 [(0, sc (.sl 0 0 k.length)), (1, sc (.sl 1 0 n.length)), (2, sc (.u32 c)), (3, sc (.sl 2 0 b.length)), (11, sc (.sl 3 0 o.length)), (12, sc (.sl 4 0 x.length)), (13, sc (.i64 i))], [(0, ⟨false, [.v8 k.length k]⟩), (1, ⟨false, [.v8 n.length n]⟩), (2, ⟨false, [.v8 b.length b]⟩), (3, ⟨true, [.v8 o.length o]⟩), (4, ⟨true, [.v8 x.length x]⟩)], 16⟩
theorem rxNew (k n : List (BitVec 8)) (c : BitVec 32) (b o x : List (BitVec 8)) (i : Int) : roundS Try.prog (lookG tblF) (orcA [(10, [(3, true)]), (12, [(2, true)])]) [] 10 rxTd (bodyAt Try.prog 15 10) (rxInv k n c b o x i) =
    some (Ex.normal, St.mk (slotsOf 67 [(0, sc (IV.sl 0 0 k.length)), (1, sc (IV.sl 1 0 n.length)), (2, sc (IV.u32 c)), (3, sc (IV.sl 2 0 b.length)), (11, sc (IV.sl 3 0 (o.length + 1))), (12, sc (IV.sl 4 0 (blockL k n (c + BitVec.ofInt 32 (i.tdiv (64 : Int)))).length)), (13, sc (IV.i64 (i + (1 : Int))))]) [(0, Blk.mk false [IV.v8 k.length k]), (1, Blk.mk false [IV.v8 n.length n]), (2, Blk.mk false [IV.v8 b.length b]), (3, Blk.mk true [IV.v8 (o ++ (List.replicate 1 (BitVec.ofNat 8 0)).set 0 (b.getD (0 + i.toNat * 1) (BitVec.ofNat 8 0) ^^^ (blockL k n (c + BitVec.ofInt 32 (i.tdiv (64 : Int)))).getD (0 + (i.tmod (64 : Int)).toNat * 1) (BitVec.ofNat 8 0))).length (o ++ (List.replicate 1 (BitVec.ofNat 8 0)).set 0 (b.getD (0 + i.toNat * 1) (BitVec.ofNat 8 0) ^^^ (blockL k n (c + BitVec.ofInt 32 (i.tdiv (64 : Int)))).getD (0 + (i.tmod (64 : Int)).toNat * 1) (BitVec.ofNat 8 0)))]), (4, Blk.mk true [IV.v8 (blockL k n (c + BitVec.ofInt 32 (i.tdiv (64 : Int)))).length (blockL k n (c + BitVec.ofInt 32 (i.tdiv (64 : Int))))])] 16, [decide (i < (↑b.length : Int)) = true, (64 : Int) ≠ (0 : Int), (i.tmod (64 : Int) == (0 : Int)) = true, (64 : Int) ≠ (0 : Int), inI64 (i.tdiv (64 : Int)), k.length = k.length, n.length = n.length, k.length = 32, n.length = 12, (0 : Int) ≤ i, i.toNat < b.length, 0 + i.toNat * 1 < b.length, (64 : Int) ≠ (0 : Int), (0 : Int) ≤ i.tmod (64 : Int), (i.tmod (64 : Int)).toNat < (blockL k n (c + BitVec.ofInt 32 (i.tdiv (64 : Int)))).length, 0 + (i.tmod (64 : Int)).toNat * 1 < (blockL k n (c + BitVec.ofInt 32 (i.tdiv (64 : Int)))).length, 1 = 1, o.length = o.length, (o.length + 1) * 1 ≤ 140737488355328 ∧ o.length + 1 ≤ 9223372036854775807, inI64 (i + (1 : Int))]) := by kernel_rfl
theorem rxOld (k n : List (BitVec 8)) (c : BitVec 32) (b o x : List (BitVec 8)) (i : Int) : roundS Try.prog (lookG tblF) (orcA [(10, [(3, true)]), (12, [(2, false)])]) [] 10 rxTd (bodyAt Try.prog 15 10) (rxInv k n c b o x i) =
    some (Ex.normal, St.mk (slotsOf 67 [(0, sc (IV.sl 0 0 k.length)), (1, sc (IV.sl 1 0 n.length)), (2, sc (IV.u32 c)), (3, sc (IV.sl 2 0 b.length)), (11, sc (IV.sl 3 0 (o.length + 1))), (12, sc (IV.sl 4 0 x.length)), (13, sc (IV.i64 (i + (1 : Int))))]) [(0, Blk.mk false [IV.v8 k.length k]), (1, Blk.mk false [IV.v8 n.length n]), (2, Blk.mk false [IV.v8 b.length b]), (3, Blk.mk true [IV.v8 (o ++ (List.replicate 1 (BitVec.ofNat 8 0)).set 0 (b.getD (0 + i.toNat * 1) (BitVec.ofNat 8 0) ^^^ x.getD (0 + (i.tmod (64 : Int)).toNat * 1) (BitVec.ofNat 8 0))).length (o ++ (List.replicate 1 (BitVec.ofNat 8 0)).set 0 (b.getD (0 + i.toNat * 1) (BitVec.ofNat 8 0) ^^^ x.getD (0 + (i.tmod (64 : Int)).toNat * 1) (BitVec.ofNat 8 0)))]), (4, Blk.mk true [IV.v8 x.length x])] 16, [decide (i < (↑b.length : Int)) = true, (64 : Int) ≠ (0 : Int), (i.tmod (64 : Int) == (0 : Int)) = false, (0 : Int) ≤ i, i.toNat < b.length, 0 + i.toNat * 1 < b.length, (64 : Int) ≠ (0 : Int), (0 : Int) ≤ i.tmod (64 : Int), (i.tmod (64 : Int)).toNat < x.length, 0 + (i.tmod (64 : Int)).toNat * 1 < x.length, 1 = 1, o.length = o.length, (o.length + 1) * 1 ≤ 140737488355328 ∧ o.length + 1 ≤ 9223372036854775807, inI64 (i + (1 : Int))]) := by kernel_rfl
theorem rxEx (k n : List (BitVec 8)) (c : BitVec 32) (b o x : List (BitVec 8)) (i : Int) : roundS Try.prog (lookG tblF) (orcA [(10, [(3, false)])]) [] 10 rxTd (bodyAt Try.prog 15 10) (rxInv k n c b o x i) =
    some (Ex.exit 0, St.mk (slotsOf 67 [(0, sc (IV.sl 0 0 k.length)), (1, sc (IV.sl 1 0 n.length)), (2, sc (IV.u32 c)), (3, sc (IV.sl 2 0 b.length)), (11, sc (IV.sl 3 0 o.length)), (12, sc (IV.sl 4 0 x.length)), (13, sc (IV.i64 i))]) [(0, Blk.mk false [IV.v8 k.length k]), (1, Blk.mk false [IV.v8 n.length n]), (2, Blk.mk false [IV.v8 b.length b]), (3, Blk.mk true [IV.v8 o.length o]), (4, Blk.mk true [IV.v8 x.length x])] 16, [decide (i < (↑b.length : Int)) = false]) := by kernel_rfl
theorem runRXorA (k n : List (BitVec 8)) (c : BitVec 32) (b o x : List (BitVec 8)) (i : Int) : fnS Try.prog (lookG tblF) (orcA [(1, [(2, false), (6, false)]), (4, [(3, true)]), (6, [(4, false)])]) [⟨10, rxTd, .exit 0, rxInv k n c b o x i⟩] 10 15 [sc (.d8 k), sc (.d8 n), sc (.u32 c), sc (.d8 b)] =
    some (AV.tup [(false, [IV.d8 (cutL o 0 o.length o.length)]), (false, [IV.i64 (0 : Int)])], [(!(↑k.length : Int) == (32 : Int)) = false, (!(↑n.length : Int) == (12 : Int)) = false, (64 : Int) ≠ (0 : Int), inI64 ((↑b.length : Int).tdiv (64 : Int)), (64 : Int) ≠ (0 : Int), decide ((0 : Int) < (↑b.length : Int).tmod (64 : Int)) = true, inI64 ((↑b.length : Int).tdiv (64 : Int) + (1 : Int)), inI64 ((4294967296 : Int) - (↑c.toNat : Int)), decide ((4294967296 : Int) - (↑c.toNat : Int) < (↑b.length : Int).tdiv (64 : Int) + (1 : Int)) = false, LoopTo Try.prog (bodyAt Try.prog 15 10) (St.mk (slotsOf 67 [(0, sc (IV.sl 0 0 k.length)), (1, sc (IV.sl 1 0 n.length)), (2, sc (IV.u32 c)), (3, sc (IV.sl 2 0 b.length)), (11, sc (IV.sl 3 0 0)), (12, sc (IV.sl 4 0 0)), (13, sc (IV.i64 (0 : Int)))]) [(0, Blk.mk false [IV.v8 k.length k]), (1, Blk.mk false [IV.v8 n.length n]), (2, Blk.mk false [IV.v8 b.length b]), (3, Blk.mk true [IV.v8 0 []]), (4, Blk.mk true [IV.v8 0 []])] 16) (Ex.exit 0) (St.mk (slotsOf 67 [(0, sc (IV.sl 0 0 k.length)), (1, sc (IV.sl 1 0 n.length)), (2, sc (IV.u32 c)), (3, sc (IV.sl 2 0 b.length)), (11, sc (IV.sl 3 0 o.length)), (12, sc (IV.sl 4 0 x.length)), (13, sc (IV.i64 i))]) [(0, Blk.mk false [IV.v8 k.length k]), (1, Blk.mk false [IV.v8 n.length n]), (2, Blk.mk false [IV.v8 b.length b]), (3, Blk.mk true [IV.v8 o.length o]), (4, Blk.mk true [IV.v8 x.length x])] 16), 0 + o.length ≤ o.length]) := by kernel_rfl
theorem runRXorB (k n : List (BitVec 8)) (c : BitVec 32) (b o x : List (BitVec 8)) (i : Int) : fnS Try.prog (lookG tblF) (orcA [(1, [(2, false), (6, false)]), (4, [(3, false)]), (6, [(4, false)])]) [⟨10, rxTd, .exit 0, rxInv k n c b o x i⟩] 10 15 [sc (.d8 k), sc (.d8 n), sc (.u32 c), sc (.d8 b)] =
    some (AV.tup [(false, [IV.d8 (cutL o 0 o.length o.length)]), (false, [IV.i64 (0 : Int)])], [(!(↑k.length : Int) == (32 : Int)) = false, (!(↑n.length : Int) == (12 : Int)) = false, (64 : Int) ≠ (0 : Int), inI64 ((↑b.length : Int).tdiv (64 : Int)), (64 : Int) ≠ (0 : Int), decide ((0 : Int) < (↑b.length : Int).tmod (64 : Int)) = false, inI64 ((4294967296 : Int) - (↑c.toNat : Int)), decide ((4294967296 : Int) - (↑c.toNat : Int) < (↑b.length : Int).tdiv (64 : Int)) = false, LoopTo Try.prog (bodyAt Try.prog 15 10) (St.mk (slotsOf 67 [(0, sc (IV.sl 0 0 k.length)), (1, sc (IV.sl 1 0 n.length)), (2, sc (IV.u32 c)), (3, sc (IV.sl 2 0 b.length)), (11, sc (IV.sl 3 0 0)), (12, sc (IV.sl 4 0 0)), (13, sc (IV.i64 (0 : Int)))]) [(0, Blk.mk false [IV.v8 k.length k]), (1, Blk.mk false [IV.v8 n.length n]), (2, Blk.mk false [IV.v8 b.length b]), (3, Blk.mk true [IV.v8 0 []]), (4, Blk.mk true [IV.v8 0 []])] 16) (Ex.exit 0) (St.mk (slotsOf 67 [(0, sc (IV.sl 0 0 k.length)), (1, sc (IV.sl 1 0 n.length)), (2, sc (IV.u32 c)), (3, sc (IV.sl 2 0 b.length)), (11, sc (IV.sl 3 0 o.length)), (12, sc (IV.sl 4 0 x.length)), (13, sc (IV.i64 i))]) [(0, Blk.mk false [IV.v8 k.length k]), (1, Blk.mk false [IV.v8 n.length n]), (2, Blk.mk false [IV.v8 b.length b]), (3, Blk.mk true [IV.v8 o.length o]), (4, Blk.mk true [IV.v8 x.length x])] 16), 0 + o.length ≤ o.length]) := by kernel_rfl
theorem runRXor1 (k n b : List (BitVec 8)) (c : BitVec 32) : fnS Try.prog (lookG tblF) (orcA [(1, [(2, true)])]) [] 10 15 [sc (.d8 k), sc (.d8 n), sc (.u32 c), sc (.d8 b)] =
    some (AV.tup [(false, [IV.d8 (cutL [] 0 0 0)]), (false, [IV.i64 (1 : Int)])], [(!(↑k.length : Int) == (32 : Int)) = true, 0 ≤ 0]) := by kernel_rfl
theorem runRXor2 (k n b : List (BitVec 8)) (c : BitVec 32) : fnS Try.prog (lookG tblF) (orcA [(1, [(2, false), (6, true)])]) [] 10 15 [sc (.d8 k), sc (.d8 n), sc (.u32 c), sc (.d8 b)] =
    some (AV.tup [(false, [IV.d8 (cutL [] 0 0 0)]), (false, [IV.i64 (1 : Int)])], [(!(↑k.length : Int) == (32 : Int)) = false, (!(↑n.length : Int) == (12 : Int)) = true, 0 ≤ 0]) := by kernel_rfl
theorem runRXor3A (k n b : List (BitVec 8)) (c : BitVec 32) : fnS Try.prog (lookG tblF) (orcA [(1, [(2, false), (6, false)]), (4, [(3, true)]), (6, [(4, true)])]) [] 10 15 [sc (.d8 k), sc (.d8 n), sc (.u32 c), sc (.d8 b)] =
    some (AV.tup [(false, [IV.d8 (cutL [] 0 0 0)]), (false, [IV.i64 (2 : Int)])], [(!(↑k.length : Int) == (32 : Int)) = false, (!(↑n.length : Int) == (12 : Int)) = false, (64 : Int) ≠ (0 : Int), inI64 ((↑b.length : Int).tdiv (64 : Int)), (64 : Int) ≠ (0 : Int), decide ((0 : Int) < (↑b.length : Int).tmod (64 : Int)) = true, inI64 ((↑b.length : Int).tdiv (64 : Int) + (1 : Int)), inI64 ((4294967296 : Int) - (↑c.toNat : Int)), decide ((4294967296 : Int) - (↑c.toNat : Int) < (↑b.length : Int).tdiv (64 : Int) + (1 : Int)) = true, 0 ≤ 0]) := by kernel_rfl
theorem runRXor3B (k n b : List (BitVec 8)) (c : BitVec 32) : fnS Try.prog (lookG tblF) (orcA [(1, [(2, false), (6, false)]), (4, [(3, false)]), (6, [(4, true)])]) [] 10 15 [sc (.d8 k), sc (.d8 n), sc (.u32 c), sc (.d8 b)] =
    some (AV.tup [(false, [IV.d8 (cutL [] 0 0 0)]), (false, [IV.i64 (2 : Int)])], [(!(↑k.length : Int) == (32 : Int)) = false, (!(↑n.length : Int) == (12 : Int)) = false, (64 : Int) ≠ (0 : Int), inI64 ((↑b.length : Int).tdiv (64 : Int)), (64 : Int) ≠ (0 : Int), decide ((0 : Int) < (↑b.length : Int).tmod (64 : Int)) = false, inI64 ((4294967296 : Int) - (↑c.toNat : Int)), decide ((4294967296 : Int) - (↑c.toNat : Int) < (↑b.length : Int).tdiv (64 : Int)) = true, 0 ≤ 0]) := by kernel_rfl
theorem tdiv64 (i : Nat) : ((i : Nat) : Int).tdiv (64 : Int) = ((i / 64 : Nat) : Int) := by
  rw [show (64 : Int) = ((64 : Nat) : Int) from rfl, ← Int.ofNat_tdiv]
theorem tmod64 (i : Nat) : ((i : Nat) : Int).tmod (64 : Int) = ((i % 64 : Nat) : Int) := by
  rw [show (64 : Int) = ((64 : Nat) : Int) from rfl, ← Int.ofNat_tmod]
theorem ofInt32 (i : Nat) : BitVec.ofInt 32 ((i : Nat) : Int) = BitVec.ofNat 32 i := by simp
def xoT (k n : List (BitVec 8)) (c : BitVec 32) (b : List (BitVec 8)) (i : Nat) : List (BitVec 8) := (List.range i).map fun j => b.getD j 0#8 ^^^ ksB k n c j
theorem xoT_len (k n : List (BitVec 8)) (c : BitVec 32) (b : List (BitVec 8)) (i : Nat) : (xoT k n c b i).length = i := by simp [xoT]
theorem xoT_step (k n : List (BitVec 8)) (c : BitVec 32) (b : List (BitVec 8)) (i : Nat) (z : BitVec 8) (hz : z = b.getD i 0#8 ^^^ ksB k n c i) : xoT k n c b i ++ (List.replicate 1 (BitVec.ofNat 8 0)).set 0 z = xoT k n c b (i + 1) := by
  rw [hz]
  unfold xoT
  rw [List.range_succ, List.map_append]
  rfl
def xoX (k n : List (BitVec 8)) (c : BitVec 32) : Nat → List (BitVec 8)
  | 0 => []
  | i + 1 => blockL k n (c + BitVec.ofNat 32 (i / 64))
theorem rxLoop (k n : List (BitVec 8)) (c : BitVec 32) (b : List (BitVec 8)) (hk : k.length = 32) (hn : n.length = 12) (hb : b.length ≤ 4000) :
    LoopTo Try.prog (bodyAt Try.prog 15 10) (rxInv k n c b [] [] 0) (.exit 0) (rxInv k n c b (xorL k n c b) (xoX k n c b.length) (b.length : Nat)) := by
  refine LoopTo.intro (α := Nat) gsF fol (fun i => rxInv k n c b (xoT k n c b i) (xoX k n c i) (i : Nat)) (fun i => i ≤ b.length) (fun i => b.length - i) (by simp) ?_ 0 (by simp)
  intro i hi
  have hl := xoT_len k n c b i
  have e2 : 0 + ((i : Nat) : Int).toNat * 1 = i := by omega
  have e3 : 0 + ((i % 64 : Nat) : Int).toNat * 1 = i % 64 := by omega
  have e4 : ((i : Nat) : Int) + 1 = ((i + 1 : Nat) : Int) := by omega
  have e5 : (xoT k n c b i).length + 1 = (xoT k n c b (i + 1)).length := by rw [xoT_len, xoT_len]
  by_cases he : i = b.length
  · subst he
    exact .inr ⟨_, _, _, _, _, rxEx _ _ _ _ _ _ _, ⟨decide_eq_false (by omega), trivial⟩⟩
  · by_cases hm : i % 64 = 0
    · have r0 := rxNew k n c b (xoT k n c b i) (xoX k n c i) (i : Nat)
      have hz : b.getD i (BitVec.ofNat 8 0) ^^^ (blockL k n (c + BitVec.ofNat 32 (i / 64))).getD (i % 64) (BitVec.ofNat 8 0) = b.getD i 0#8 ^^^ ksB k n c i := rfl
      rw [tdiv64, tmod64, e2, e3, ofInt32, xoT_step k n c b i _ hz, e4, e5] at r0
      refine .inl ⟨_, _, _, _, _, i + 1, r0, ?_, by omega, by omega⟩
      have hB := blockL_len k n (c + BitVec.ofNat 32 (i / 64))
      simp only [AllP, inI64, decide_eq_true_eq, beq_iff_eq, hB, hl, hk, hn]
      and_intros <;> first | exact True.intro | omega
    · have hx : xoX k n c i = blockL k n (c + BitVec.ofNat 32 (i / 64)) := by
        cases i with
        | zero => omega
        | succ i => show blockL k n (c + BitVec.ofNat 32 (i / 64)) = _; rw [show (i + 1) / 64 = i / 64 by omega]
      have r0 := rxOld k n c b (xoT k n c b i) (xoX k n c i) (i : Nat)
      have hz : b.getD i (BitVec.ofNat 8 0) ^^^ (xoX k n c i).getD (i % 64) (BitVec.ofNat 8 0) = b.getD i 0#8 ^^^ ksB k n c i := by rw [hx]; rfl
      rw [tmod64, e2, e3, xoT_step k n c b i _ hz, e4, e5] at r0
      have hx2 : xoX k n c i = xoX k n c (i + 1) := by rw [hx]; rfl
      have hB := blockL_len k n (c + BitVec.ofNat 32 (i / 64))
      rw [← hx, hx2] at hB
      rw [hx2] at r0 ⊢
      refine .inl ⟨_, _, _, _, _, i + 1, r0, ?_, by omega, by omega⟩
      simp only [AllP, inI64, decide_eq_true_eq, beq_eq_false_iff_ne, hB, hl]
      and_intros <;> first | exact True.intro | omega
theorem ctRXor : CtSOk Try.prog 15 (.fn spXor) := FnS_of_fnS gsF fol fun ds r cs h hc => by
  unfold spXor at h
  split at h
  case h_2 => simp at h
  rename_i k n c b
  simp only [Option.some.injEq, Prod.mk.injEq] at h
  obtain ⟨rfl, rfl⟩ := h
  have hb := hc.1
  have hcl := c.isLt
  by_cases hk : k.length = 32
  · by_cases hn : n.length = 12
    · have lp := rxLoop k n c b hk hn hb
      by_cases hl : c.toNat + nBl b ≤ 4294967296
      · by_cases hm : b.length % 64 = 0
        · refine use_run (runRXorB k n c b (xorL k n c b) (xoX k n c b.length) (b.length : Nat)) ?_ ?_
          · rw [cutAll _ _ rfl, xorV, if_pos ⟨hk, hn⟩, if_pos hl]
          · rw [tdiv64, tmod64]
            unfold nBl at hl
            simp only [AllP, inI64]
            and_intros <;> first | exact True.intro | exact lp | exact neqF (by omega) | omega | exact decide_eq_false (by omega)
        · refine use_run (runRXorA k n c b (xorL k n c b) (xoX k n c b.length) (b.length : Nat)) ?_ ?_
          · rw [cutAll _ _ rfl, xorV, if_pos ⟨hk, hn⟩, if_pos hl]
          · rw [tdiv64, tmod64]
            unfold nBl at hl
            simp only [AllP, inI64]
            and_intros <;> first | exact True.intro | exact lp | exact neqF (by omega) | omega | exact decide_eq_false (by omega) | exact decide_eq_true (by omega)
      · by_cases hm : b.length % 64 = 0
        · refine use_run (runRXor3B k n b c) ?_ ?_
          · rw [xorV, if_pos ⟨hk, hn⟩, if_neg hl]; rfl
          · rw [tdiv64, tmod64]
            unfold nBl at hl
            simp only [AllP, inI64]
            and_intros <;> first | exact True.intro | exact neqF (by omega) | omega | exact decide_eq_false (by omega) | exact decide_eq_true (by omega)
        · refine use_run (runRXor3A k n b c) ?_ ?_
          · rw [xorV, if_pos ⟨hk, hn⟩, if_neg hl]; rfl
          · rw [tdiv64, tmod64]
            unfold nBl at hl
            simp only [AllP, inI64]
            and_intros <;> first | exact True.intro | exact neqF (by omega) | omega | exact decide_eq_false (by omega) | exact decide_eq_true (by omega)
    · refine use_run (runRXor2 k n b c) ?_ ?_
      · rw [xorV, if_neg (fun h => hn h.2)]; rfl
      · exact ⟨neqF (by omega), neqB (by omega), by omega, trivial⟩
  · refine use_run (runRXor1 k n b c) ?_ ?_
    · rw [xorV, if_neg (fun h => hk h.1)]; rfl
    · exact ⟨neqB (by omega), by omega, trivial⟩
def tblG : List (FuncId × CtS) := [(12, .fn spBlock), (13, .fn spRBlock), (14, .fn spXor), (15, .fn spXor), (10, .fn spAwake)]
theorem okG : TblOk Try.prog tblG := ⟨⟨ctBlock, by kernel_rfl⟩, ⟨ctRBlock, by kernel_rfl⟩, ⟨ctXor, by kernel_rfl⟩, ⟨ctRXor, by kernel_rfl⟩, ⟨ctAwake, by kernel_rfl⟩, trivial⟩
theorem gsG : GSound Try.prog (upG (lookG tblG)) := GSound_of_tbl okG
theorem runOwn (b : List (BitVec 8)) : fnS Try.prog (lookG []) (orcA []) [] 10 11 [sc (.d8 b)] =
    some (sc (IV.d8 (cutL b 0 (0 + b.length) b.length)), [b.length = b.length, 0 = 0, (0 + b.length) * 1 ≤ 140737488355328 ∧ 0 + b.length ≤ 9223372036854775807, 0 + (0 + b.length) ≤ b.length]) := by kernel_rfl
def spOwn : List AV → Option (AV × List Prop)
  | [.val false [.d8 b]] => some (sc (.d8 b), [b.length ≤ 140737488351232])
  | _ => none
theorem ctOwn : CtSOk Try.prog 11 (.fn spOwn) := FnS_of_fnS gs0 fol fun ds r cs h hc => by
  unfold spOwn at h
  split at h
  case h_2 => simp at h
  rename_i b
  simp only [Option.some.injEq, Prod.mk.injEq] at h
  obtain ⟨rfl, rfl⟩ := h
  have hb := hc.1
  refine use_run (runOwn b) ?_ ?_
  · rw [cutAll _ _ (by omega)]
  · simp only [AllP]
    and_intros <;> first | exact True.intro | rfl | omega
def tblX : List (FuncId × CtS) := (11, .fn spOwn) :: tblG
theorem gsX : GSound Try.prog (upG (lookG tblX)) := GSound_of_tbl ⟨⟨ctOwn, by kernel_rfl⟩, okG⟩
end Go.Proofs.Ytclngijinhcdpaa
