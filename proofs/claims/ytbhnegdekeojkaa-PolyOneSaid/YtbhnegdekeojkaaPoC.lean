/- Contracts of layer 11: the tag. Own work. -/
import Derived.Test.YtbhnegdekeojkaaPoM
namespace Go.Proofs.Ytbhnegdekeojkaa
open Go.Ev Go.Sp Go.RowKit
set_option maxRecDepth 100000
def tblG : List (FuncId × CtS) := [(8, .fn spCut), (15, .fn spPTimes), (14, .fn (sp2 addV)), (16, .fn (sp2 subV)), (17, .fn spPick), (13, .fn spFrom), (18, .fn spBytes)]
theorem okG : TblOk Try.prog tblG := ⟨⟨ctCut, by kernel_rfl⟩, ⟨ctPTimes, by kernel_rfl⟩, ⟨ctAdd, by kernel_rfl⟩, ⟨ctSub, by kernel_rfl⟩, ⟨ctPick, by kernel_rfl⟩, ⟨ctFrom, by kernel_rfl⟩, ⟨ctBytes, by kernel_rfl⟩, trivial⟩
theorem gsG : GSound Try.prog (upG (lookG tblG)) := GSound_of_tbl okG
def tgTd : List Nat := [1, 8, 10, 12, 13]
def tgInv (b : List (BitVec 8)) (r s a : N4) (i : Int) : St := ⟨slotsOf 91 [(1, sc (.sl 0 0 b.length)), (8, sc (.ptr 1 0)), (10, sc (.ptr 2 0)), (12, sc (.ptr 3 0)), (13, sc (.i64 i))], [(0, ⟨false, [.v8 b.length b]⟩), (1, ⟨true, [.n4 r]⟩), (2, ⟨true, [.n4 s]⟩), (3, ⟨true, [.n4 a]⟩)], 16⟩
theorem tgRound (b : List (BitVec 8)) (r s a : N4) (i : Int) : roundS Try.prog (lookG tblG) (orcP [(8, [(3, true)])] [(10, [9])]) [] 10 tgTd (bodyAt Try.prog 11 8) (tgInv b r s a i) =
    some (Ex.normal, St.mk (slotsOf 91 [(1, sc (IV.sl 0 0 b.length)), (8, sc (IV.ptr 1 0)), (10, sc (IV.ptr 2 0)), (12, sc (IV.ptr 3 0)), (13, sc (IV.i64 (i + (16 : Int))))]) [(0, Blk.mk false [IV.v8 b.length b]), (1, Blk.mk true [IV.n4 r]), (2, Blk.mk true [IV.n4 s]), (3, Blk.mk true [IV.n4 (timesN (ofN (val a + val (fromV (cutL [] 0 0 0 ++ cutL b (0 + i.toNat) ((if (↑b.length : Int) < i + (16 : Int) then (↑b.length : Int) else i + (16 : Int)).toNat - i.toNat) b.length ++ (List.replicate 1 (BitVec.ofNat 8 0)).set 0 (BitVec.ofNat 8 1))).fst)) r)])] 16, [decide (i < (↑b.length : Int)) = true, inI64 (i + (16 : Int)), (0 : Int) ≤ i, (0 : Int) ≤ if (↑b.length : Int) < i + (16 : Int) then (↑b.length : Int) else i + (16 : Int), i.toNat ≤ (if (↑b.length : Int) < i + (16 : Int) then (↑b.length : Int) else i + (16 : Int)).toNat, (if (↑b.length : Int) < i + (16 : Int) then (↑b.length : Int) else i + (16 : Int)).toNat ≤ b.length, 0 + i.toNat + ((if (↑b.length : Int) < i + (16 : Int) then (↑b.length : Int) else i + (16 : Int)).toNat - i.toNat) ≤ b.length, 0 ≤ 0, (0 + ((if (↑b.length : Int) < i + (16 : Int) then (↑b.length : Int) else i + (16 : Int)).toNat - i.toNat)) * 1 ≤ 140737488355328 ∧ 0 + ((if (↑b.length : Int) < i + (16 : Int) then (↑b.length : Int) else i + (16 : Int)).toNat - i.toNat) ≤ 9223372036854775807, 1 = 1, 0 + ((if (↑b.length : Int) < i + (16 : Int) then (↑b.length : Int) else i + (16 : Int)).toNat - i.toNat) = (cutL [] 0 0 0 ++ cutL b (0 + i.toNat) ((if (↑b.length : Int) < i + (16 : Int) then (↑b.length : Int) else i + (16 : Int)).toNat - i.toNat) b.length).length, (0 + ((if (↑b.length : Int) < i + (16 : Int) then (↑b.length : Int) else i + (16 : Int)).toNat - i.toNat) + 1) * 1 ≤ 140737488355328 ∧ 0 + ((if (↑b.length : Int) < i + (16 : Int) then (↑b.length : Int) else i + (16 : Int)).toNat - i.toNat) + 1 ≤ 9223372036854775807, 0 + ((if (↑b.length : Int) < i + (16 : Int) then (↑b.length : Int) else i + (16 : Int)).toNat - i.toNat) + 1 = (cutL [] 0 0 0 ++ cutL b (0 + i.toNat) ((if (↑b.length : Int) < i + (16 : Int) then (↑b.length : Int) else i + (16 : Int)).toNat - i.toNat) b.length ++ (List.replicate 1 (BitVec.ofNat 8 0)).set 0 (BitVec.ofNat 8 1)).length, val (ofN (val a + val (fromV (cutL [] 0 0 0 ++ cutL b (0 + i.toNat) ((if (↑b.length : Int) < i + (16 : Int) then (↑b.length : Int) else i + (16 : Int)).toNat - i.toNat) b.length ++ (List.replicate 1 (BitVec.ofNat 8 0)).set 0 (BitVec.ofNat 8 1))).fst)) * val r < p256, inI64 (i + (16 : Int))]) := by kernel_rfl
theorem tgExit (b : List (BitVec 8)) (r s a : N4) (i : Int) : roundS Try.prog (lookG tblG) (orcP [(8, [(3, false)])] [(10, [9])]) [] 10 tgTd (bodyAt Try.prog 11 8) (tgInv b r s a i) =
    some (Ex.exit 0, St.mk (slotsOf 91 [(1, sc (IV.sl 0 0 b.length)), (8, sc (IV.ptr 1 0)), (10, sc (IV.ptr 2 0)), (12, sc (IV.ptr 3 0)), (13, sc (IV.i64 i))]) [(0, Blk.mk false [IV.v8 b.length b]), (1, Blk.mk true [IV.n4 r]), (2, Blk.mk true [IV.n4 s]), (3, Blk.mk true [IV.n4 a])] 16, [decide (i < (↑b.length : Int)) = false]) := by kernel_rfl
theorem runTag (k b : List (BitVec 8)) (r s a : N4) (i : Int) : fnS Try.prog (lookG tblG) (orcP [(1, [(2, false)])] [(3, [2]), (5, [2])]) [⟨8, tgTd, .exit 0, tgInv b r s a i⟩] 10 11 [sc (.d8 k), sc (.d8 b)] =
    some (AV.tup [(false, [IV.d8 (cutL (bl (val (ofN (val (if (if val (if (if val a < 1361129467683753853853498429727072845819 then BitVec.ofNat 64 1 else BitVec.ofNat 64 0) = BitVec.ofNat 64 0 then ofN (val a + p256 - 1361129467683753853853498429727072845819) else a) < 1361129467683753853853498429727072845819 then BitVec.ofNat 64 1 else BitVec.ofNat 64 0) = BitVec.ofNat 64 0 then ofN (val (if (if val a < 1361129467683753853853498429727072845819 then BitVec.ofNat 64 1 else BitVec.ofNat 64 0) = BitVec.ofNat 64 0 then ofN (val a + p256 - 1361129467683753853853498429727072845819) else a) + p256 - 1361129467683753853853498429727072845819) else if (if val a < 1361129467683753853853498429727072845819 then BitVec.ofNat 64 1 else BitVec.ofNat 64 0) = BitVec.ofNat 64 0 then ofN (val a + p256 - 1361129467683753853853498429727072845819) else a) + val s))) 32) 0 16 (bl (val (ofN (val (if (if val (if (if val a < 1361129467683753853853498429727072845819 then BitVec.ofNat 64 1 else BitVec.ofNat 64 0) = BitVec.ofNat 64 0 then ofN (val a + p256 - 1361129467683753853853498429727072845819) else a) < 1361129467683753853853498429727072845819 then BitVec.ofNat 64 1 else BitVec.ofNat 64 0) = BitVec.ofNat 64 0 then ofN (val (if (if val a < 1361129467683753853853498429727072845819 then BitVec.ofNat 64 1 else BitVec.ofNat 64 0) = BitVec.ofNat 64 0 then ofN (val a + p256 - 1361129467683753853853498429727072845819) else a) + p256 - 1361129467683753853853498429727072845819) else if (if val a < 1361129467683753853853498429727072845819 then BitVec.ofNat 64 1 else BitVec.ofNat 64 0) = BitVec.ofNat 64 0 then ofN (val a + p256 - 1361129467683753853853498429727072845819) else a) + val s))) 32).length)]), (false, [IV.i64 (0 : Int)])], [(!(↑k.length : Int) == (32 : Int)) = false, (0 : Int) ≤ (16 : Int), 0 ≤ 16, 16 ≤ k.length, 16 ≤ k.length, (cutV (cutL k 0 16 k.length)).fst.length = (cutV (cutL k 0 16 k.length)).fst.length, (0 : Int) ≤ (16 : Int), 16 ≤ k.length, k.length ≤ k.length, 16 + (k.length - 16) ≤ k.length, LoopTo Try.prog (bodyAt Try.prog 11 8) (St.mk (slotsOf 91 [(1, sc (IV.sl 0 0 b.length)), (8, sc (IV.ptr 1 0)), (10, sc (IV.ptr 2 0)), (12, sc (IV.ptr 3 0)), (13, sc (IV.i64 (0 : Int)))]) [(0, Blk.mk false [IV.v8 b.length b]), (1, Blk.mk true [IV.n4 (fromV (cutV (cutL k 0 16 k.length)).fst).fst]), (2, Blk.mk true [IV.n4 (fromV (cutL k 16 (k.length - 16) k.length)).fst]), (3, Blk.mk true [IV.n4 (N4.mk (BitVec.ofNat 64 0) (BitVec.ofNat 64 0) (BitVec.ofNat 64 0) (BitVec.ofNat 64 0))])] 16) (Ex.exit 0) (St.mk (slotsOf 91 [(1, sc (IV.sl 0 0 b.length)), (8, sc (IV.ptr 1 0)), (10, sc (IV.ptr 2 0)), (12, sc (IV.ptr 3 0)), (13, sc (IV.i64 i))]) [(0, Blk.mk false [IV.v8 b.length b]), (1, Blk.mk true [IV.n4 r]), (2, Blk.mk true [IV.n4 s]), (3, Blk.mk true [IV.n4 a])] 16), inI64 (1 : Int), inI64 (2 : Int), (0 : Int) ≤ (16 : Int), (0 : Int) ≤ (16 : Int), 0 ≤ 16, 16 ≤ 16, 16 ≤ (bl (val (ofN (val (if (if val (if (if val a < 1361129467683753853853498429727072845819 then BitVec.ofNat 64 1 else BitVec.ofNat 64 0) = BitVec.ofNat 64 0 then ofN (val a + p256 - 1361129467683753853853498429727072845819) else a) < 1361129467683753853853498429727072845819 then BitVec.ofNat 64 1 else BitVec.ofNat 64 0) = BitVec.ofNat 64 0 then ofN (val (if (if val a < 1361129467683753853853498429727072845819 then BitVec.ofNat 64 1 else BitVec.ofNat 64 0) = BitVec.ofNat 64 0 then ofN (val a + p256 - 1361129467683753853853498429727072845819) else a) + p256 - 1361129467683753853853498429727072845819) else if (if val a < 1361129467683753853853498429727072845819 then BitVec.ofNat 64 1 else BitVec.ofNat 64 0) = BitVec.ofNat 64 0 then ofN (val a + p256 - 1361129467683753853853498429727072845819) else a) + val s))) 32).length, 16 ≤ (bl (val (ofN (val (if (if val (if (if val a < 1361129467683753853853498429727072845819 then BitVec.ofNat 64 1 else BitVec.ofNat 64 0) = BitVec.ofNat 64 0 then ofN (val a + p256 - 1361129467683753853853498429727072845819) else a) < 1361129467683753853853498429727072845819 then BitVec.ofNat 64 1 else BitVec.ofNat 64 0) = BitVec.ofNat 64 0 then ofN (val (if (if val a < 1361129467683753853853498429727072845819 then BitVec.ofNat 64 1 else BitVec.ofNat 64 0) = BitVec.ofNat 64 0 then ofN (val a + p256 - 1361129467683753853853498429727072845819) else a) + p256 - 1361129467683753853853498429727072845819) else if (if val a < 1361129467683753853853498429727072845819 then BitVec.ofNat 64 1 else BitVec.ofNat 64 0) = BitVec.ofNat 64 0 then ofN (val a + p256 - 1361129467683753853853498429727072845819) else a) + val s))) 32).length]) := by kernel_rfl
theorem runTag1 (k b : List (BitVec 8)) : fnS Try.prog (lookG tblG) (orcA [(1, [(2, true)])]) [] 10 11 [sc (.d8 k), sc (.d8 b)] =
    some (AV.tup [(false, [IV.d8 (cutL [] 0 0 0)]), (false, [IV.i64 (1 : Int)])], [(!(↑k.length : Int) == (32 : Int)) = true, 0 ≤ 0]) := by kernel_rfl
def nBlk (b : List (BitVec 8)) : Nat := (b.length + 15) / 16
theorem blk_cut (b : List (BitVec 8)) (j : Nat) (h : 16 * j < b.length) : cutL [] 0 0 0 ++ cutL b (0 + ((16 * j : Nat) : Int).toNat) ((if (b.length : Int) < ((16 * j : Nat) : Int) + (16 : Int) then (b.length : Int) else ((16 * j : Nat) : Int) + (16 : Int)).toNat - ((16 * j : Nat) : Int).toNat) b.length ++ (List.replicate 1 (BitVec.ofNat 8 0)).set 0 (BitVec.ofNat 8 1) = blkL b j := by
  unfold blkL
  have e : (cutL [] 0 0 0 : List (BitVec 8)) = [] := rfl
  have e1 : (List.replicate 1 (BitVec.ofNat 8 0)).set 0 (BitVec.ofNat 8 1) = [1#8] := rfl
  rw [e, e1, List.nil_append]
  congr 1
  rw [cutL_eq rfl, Int.toNat_natCast, Nat.zero_add, List.take_eq_take_iff, List.length_drop]
  split <;> omega
def tgSt (b : List (BitVec 8)) (r s : N4) (j : Nat) : St := tgInv b r s (ofN (polyA (val r) b j)) ((16 * j : Nat) : Int)
theorem tgLoop (b : List (BitVec 8)) (r s : N4) (hr : val r < 21267647932558653966460912964485513216) (hb : b.length ≤ 4000) : LoopTo Try.prog (bodyAt Try.prog 11 8) (tgInv b r s ⟨0#64, 0#64, 0#64, 0#64⟩ 0) (.exit 0) (tgSt b r s (nBlk b)) := by
  have h0 : tgInv b r s ⟨0#64, 0#64, 0#64, 0#64⟩ 0 = tgSt b r s 0 := by
    unfold tgSt
    rw [show polyA (val r) b 0 = 0 from rfl, show ofN 0 = ⟨0#64, 0#64, 0#64, 0#64⟩ from rfl]
    rfl
  rw [h0]
  refine LoopTo.intro (α := Nat) gsG fol (tgSt b r s) (fun j => j ≤ nBlk b) (fun j => nBlk b - j) (by simp) ?_ 0 (by simp)
  intro j hj
  unfold nBlk at *
  by_cases he : j = (b.length + 15) / 16
  · subst he
    exact .inr ⟨_, _, _, _, _, tgExit b r s _ _, ⟨decide_eq_false (by omega), trivial⟩⟩
  · have hlt : 16 * j < b.length := by omega
    have hq := poly_prod hr b j
    have ha := (poly_inv hr b j).1
    have hl : (blkL b j).length ≤ 17 := by unfold blkL; simp; omega
    have hf : (fromV (blkL b j)).1 = ofN (blkN b j) := by rw [fromV, if_pos (by omega)]; rfl
    have vn : val (ofN (blkN b j)) = blkN b j := val_ofN_of (Nat.lt_trans (blkN_lt b j) (by decide))
    have va : val (ofN (polyA (val r) b j)) = polyA (val r) b j := val_ofN_of (Nat.lt_trans ha (by decide))
    have r0 := tgRound b r s (ofN (polyA (val r) b j)) ((16 * j : Nat) : Int)
    rw [blk_cut b j hlt, hf, vn, va] at r0
    have e : timesN (ofN (polyA (val r) b j + blkN b j)) r = ofN (polyA (val r) b (j + 1)) := by
      rw [timesN, val_ofN_of hq.1]; rfl
    rw [e] at r0
    have ei : ((16 * j : Nat) : Int) + 16 = ((16 * (j + 1) : Nat) : Int) := by omega
    simp only [ei] at r0
    refine .inl ⟨_, _, _, _, _, j + 1, r0, ?_, by omega, by omega⟩
    have l1 : (if (b.length : Int) < ((16 * (j + 1) : Nat) : Int) then (b.length : Int) else ((16 * (j + 1) : Nat) : Int)).toNat ≤ b.length := by split <;> omega
    have pl : (blkL b j).length = ((b.drop (16 * j)).take 16).length + 1 := by unfold blkL; simp
    simp only [AllP, inI64, decide_eq_true_eq]
    and_intros <;> first | omega | exact True.intro | (rw [val_ofN_of hq.1]; exact hq.2) | skip
    · rw [show (cutL [] 0 0 0 : List (BitVec 8)) = [] from rfl, List.nil_append, cutL_eq rfl, List.length_take, List.length_drop]
      split <;> omega
    · rw [pl, List.length_take, List.length_drop]
      split <;> omega
end Go.Proofs.Ytbhnegdekeojkaa
