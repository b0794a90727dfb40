/- Contracts of the document's digit lists: bytes and words. Own work. -/
import Derived.Test.YtmdfhomeokfgiaaCtE
import Derived.Test.YtmdfhomeokfgiaaSpI
namespace Go.Proofs.Ytmdfhomeokfgiaa
open Go.Ev Go.Sp Go.RowKit
set_option maxRecDepth 100000

/-! ### Bytes read -/
def readTd : List Nat := [0, 3, 4]
def readInv (b : List (BitVec 8)) (n : Nat) (out : List Int) (i : Int) : St := ⟨slotsOf 21 [(0, sc (.sl 0 0 b.length)), (3, sc (.sl 1 0 n)), (4, sc (.i64 i))], [(0, ⟨false, [.v8 b.length b]⟩), (1, ⟨true, [.vi out.length out]⟩)], 16⟩
theorem readRound (b : List (BitVec 8)) (n : Nat) (out : List Int) (i : Int) : roundS Try.prog (lookG tblAt) (orcA [(3, [(3, true)])]) [] 10 readTd (bodyAt Try.prog 47 3) (readInv b n out i) =
    some (Ex.normal, St.mk (slotsOf 21 [(0, sc (IV.sl 0 0 b.length)), (3, sc (IV.sl 1 0 (n + 1))), (4, sc (IV.i64 (i + (1 : Int))))]) [(0, Blk.mk false [IV.v8 b.length b]), (1, Blk.mk true [IV.vi (out ++ (List.replicate 1 (0 : Int)).set 0 (↑(b.getD (0 + i.toNat * 1) (BitVec.ofNat 8 0)).toNat : Int)).length (out ++ (List.replicate 1 (0 : Int)).set 0 (↑(b.getD (0 + i.toNat * 1) (BitVec.ofNat 8 0)).toNat : Int))])] 16, [decide (i < (↑b.length : Int)) = true, (0 : Int) ≤ i, i.toNat < b.length, 0 + i.toNat * 1 < b.length, 1 = 1, n = out.length, (n + 1) * 8 ≤ 140737488355328 ∧ n + 1 ≤ 9223372036854775807, inI64 (i + (1 : Int))]) := by kernel_rfl
theorem readExit (b : List (BitVec 8)) (n : Nat) (out : List Int) (i : Int) : roundS Try.prog (lookG tblAt) (orcA [(3, [(3, false)])]) [] 10 readTd (bodyAt Try.prog 47 3) (readInv b n out i) =
    some (Ex.exit 0, St.mk (slotsOf 21 [(0, sc (IV.sl 0 0 b.length)), (3, sc (IV.sl 1 0 n)), (4, sc (IV.i64 i))]) [(0, Blk.mk false [IV.v8 b.length b]), (1, Blk.mk true [IV.vi out.length out])] 16, [decide (i < (↑b.length : Int)) = false]) := by kernel_rfl
theorem runRead (b : List (BitVec 8)) (n : Nat) (out : List Int) (i : Int) : fnS Try.prog (lookG tblAt) (orcA []) [⟨3, readTd, .exit 0, readInv b n out i⟩] 10 47 [sc (.d8 b)] =
    some (sc (IV.dI (cutL out 0 (trimFrom out out.length) out.length)), [LoopTo Try.prog (bodyAt Try.prog 47 3) (St.mk (slotsOf 21 [(0, sc (IV.sl 0 0 b.length)), (3, sc (IV.sl 1 0 0)), (4, sc (IV.i64 (0 : Int)))]) [(0, Blk.mk false [IV.v8 b.length b]), (1, Blk.mk true [IV.vi 0 []])] 16) (Ex.exit 0) (St.mk (slotsOf 21 [(0, sc (IV.sl 0 0 b.length)), (3, sc (IV.sl 1 0 n)), (4, sc (IV.i64 i))]) [(0, Blk.mk false [IV.v8 b.length b]), (1, Blk.mk true [IV.vi out.length out])] 16), n = out.length, out.length ≤ 1000000000, trimFrom out out.length ≤ n, 0 + trimFrom out out.length ≤ out.length]) := by kernel_rfl

theorem readLoop (b : List (BitVec 8)) (hb : b.length ≤ 4000000) :
    LoopTo Try.prog (bodyAt Try.prog 47 3) (readInv b 0 [] 0) (.exit 0) (readInv b b.length (bd b) (b.length : Nat)) := by
  refine LoopTo.intro (α := Nat × List Int) gsAt fol (fun a => readInv b a.1 a.2 (a.1 : Nat)) (fun a => a.1 ≤ b.length ∧ a.2 = bd (b.take a.1)) (fun a => b.length - a.1) (by simp) ?_ (0, []) ⟨Nat.zero_le _, by simp [bd]⟩
  rintro ⟨n, out⟩ ⟨hn, ho⟩
  dsimp only at hn ho ⊢
  subst ho
  have hl : (bd (b.take n)).length = n := by simp [bd]; omega
  by_cases he : n = b.length
  · subst he
    have e : bd (b.take b.length) = bd b := by rw [List.take_length]
    rw [e]
    exact .inr ⟨_, _, _, _, _, readExit b _ _ _, by rw [decide_eq_false_iff_not]; omega, trivial⟩
  · refine .inl ⟨_, _, _, _, _, (n + 1, _), readRound b n _ _, ?_, ⟨by simp only; omega, ?_⟩, by simp only; omega⟩
    · simp only [AllP, Int.toNat_natCast, inI64, decide_eq_true_eq]
      and_intros <;> first | omega | trivial
    · simp only [one_set, Int.toNat_natCast, Nat.zero_add, Nat.mul_one]
      have hlt : n < b.length := by omega
      rw [bd, bd, List.take_succ_eq_append_getElem hlt, List.map_append]
      simp [hlt]
def spRead : List AV → Option (AV × List Prop)
  | [.val false [.d8 b]] => some (sc (.dI (dg (bv b))), [b.length ≤ 4000000])
  | _ => none
theorem ctRead : CtSOk Try.prog 47 (.fn spRead) := FnS_of_fnS gsAt fol fun ds r cs h hc => by
  unfold spRead at h
  split at h
  case h_2 => simp at h
  rename_i b
  simp only [Option.some.injEq, Prod.mk.injEq] at h
  obtain ⟨rfl, rfl⟩ := h
  have hb := hc.1
  have hl : (bd b).length = b.length := by simp [bd]
  have t := trimFrom_le (bd b) (bd b).length
  refine use_run (runRead b b.length (bd b) (b.length : Nat)) ?_ ⟨readLoop b hb, ?_⟩
  · rw [trim_dg (bd_D b), nv_bd]
  · simp only [AllP]
    and_intros <;> first | omega | trivial

/-! ### Bytes told -/
def toldTd : List Nat := [0, 1, 5, 6]
def toldInv (l : List Int) (sz : Int) (n : Nat) (out : List (BitVec 8)) (i : Int) : St := ⟨slotsOf 20 [(0, sc (.sl 0 0 l.length)), (1, sc (.i64 sz)), (5, sc (.sl 1 0 n)), (6, sc (.i64 i))], [(0, ⟨false, [.vi l.length l]⟩), (1, ⟨true, [.v8 out.length out]⟩)], 16⟩
theorem toldRound (l : List Int) (sz : Int) (n : Nat) (out : List (BitVec 8)) (i : Int) : roundS Try.prog (lookG tblAt) (orcA [(3, [(2, true)])]) [] 10 toldTd (bodyAt Try.prog 26 3) (toldInv l sz n out i) =
    some (Ex.normal, St.mk (slotsOf 20 [(0, sc (IV.sl 0 0 l.length)), (1, sc (IV.i64 sz)), (5, sc (IV.sl 1 0 (n + 1))), (6, sc (IV.i64 (i + (1 : Int))))]) [(0, Blk.mk false [IV.vi l.length l]), (1, Blk.mk true [IV.v8 (out ++ (List.replicate 1 (BitVec.ofNat 8 0)).set 0 (BitVec.ofInt 8 (l.getD i.toNat (0 : Int)))).length (out ++ (List.replicate 1 (BitVec.ofNat 8 0)).set 0 (BitVec.ofInt 8 (l.getD i.toNat (0 : Int))))])] 16, [decide (i < sz) = true, l.length = l.length, (0 : Int) ≤ i, 1 = 1, n = out.length, (n + 1) * 1 ≤ 140737488355328 ∧ n + 1 ≤ 9223372036854775807, inI64 (i + (1 : Int))]) := by kernel_rfl
theorem toldExit (l : List Int) (sz : Int) (n : Nat) (out : List (BitVec 8)) (i : Int) : roundS Try.prog (lookG tblAt) (orcA [(3, [(2, false)])]) [] 10 toldTd (bodyAt Try.prog 26 3) (toldInv l sz n out i) =
    some (Ex.exit 0, St.mk (slotsOf 20 [(0, sc (IV.sl 0 0 l.length)), (1, sc (IV.i64 sz)), (5, sc (IV.sl 1 0 n)), (6, sc (IV.i64 i))]) [(0, Blk.mk false [IV.vi l.length l]), (1, Blk.mk true [IV.v8 out.length out])] 16, [decide (i < sz) = false]) := by kernel_rfl
theorem runTold (l : List Int) (sz : Int) (n : Nat) (out : List (BitVec 8)) (i : Int) : fnS Try.prog (lookG tblAt) (orcA []) [⟨3, toldTd, .exit 0, toldInv l sz n out i⟩] 10 26 [sc (.dI l), sc (.i64 sz)] =
    some (sc (IV.d8 (cutL out 0 n out.length)), [LoopTo Try.prog (bodyAt Try.prog 26 3) (St.mk (slotsOf 20 [(0, sc (IV.sl 0 0 l.length)), (1, sc (IV.i64 sz)), (5, sc (IV.sl 1 0 0)), (6, sc (IV.i64 (0 : Int)))]) [(0, Blk.mk false [IV.vi l.length l]), (1, Blk.mk true [IV.v8 0 []])] 16) (Ex.exit 0) (St.mk (slotsOf 20 [(0, sc (IV.sl 0 0 l.length)), (1, sc (IV.i64 sz)), (5, sc (IV.sl 1 0 n)), (6, sc (IV.i64 i))]) [(0, Blk.mk false [IV.vi l.length l]), (1, Blk.mk true [IV.v8 out.length out])] 16), 0 + n ≤ out.length]) := by kernel_rfl

theorem toldLoop (l : List Int) (hl : IsD l) (N : Nat) (hN : N ≤ 4000000) :
    LoopTo Try.prog (bodyAt Try.prog 26 3) (toldInv l (N : Nat) 0 [] 0) (.exit 0) (toldInv l (N : Nat) N (bl (nv l) N) (N : Nat)) := by
  refine LoopTo.intro (α := Nat × List (BitVec 8)) gsAt fol (fun a => toldInv l (N : Nat) a.1 a.2 (a.1 : Nat)) (fun a => a.1 ≤ N ∧ a.2 = bl (nv l) a.1) (fun a => N - a.1) (by simp) ?_ (0, []) ⟨Nat.zero_le _, rfl⟩
  rintro ⟨n, out⟩ ⟨hn, ho⟩
  dsimp only at hn ho ⊢
  subst ho
  have hlen := bl_length (nv l) n
  by_cases he : n = N
  · subst he
    exact .inr ⟨_, _, _, _, _, toldExit l _ _ _ _, by rw [decide_eq_false_iff_not]; omega, trivial⟩
  · refine .inl ⟨_, _, _, _, _, (n + 1, _), toldRound l _ n _ _, ?_, ⟨by simp only; omega, ?_⟩, by simp only; omega⟩
    · simp only [AllP, inI64, decide_eq_true_eq]
      and_intros <;> first | omega | trivial
    · have hx := dig_lt (nv l) n
      have e : BitVec.ofInt 8 ((dig (nv l) n : Nat) : Int) = BitVec.ofNat 8 (nv l / 256 ^ n) := by
        apply BitVec.eq_of_toNat_eq
        rw [BitVec.toNat_ofInt, BitVec.toNat_ofNat, Int.toNat_emod (by omega) (by decide), Int.toNat_natCast]
        exact Nat.mod_mod _ _
      simp only [Int.toNat_natCast, getD_dig hl, e, bl]
      rfl
def spTold : List AV → Option (AV × List Prop)
  | [.val false [.dI l], .val false [.i64 n]] => some (sc (.d8 (bl (nv l) n.toNat)), [IsD l, 0 ≤ n, n ≤ 4000000])
  | _ => none
theorem ctTold : CtSOk Try.prog 26 (.fn spTold) := FnS_of_fnS gsAt fol fun ds r cs h hc => by
  unfold spTold at h
  split at h
  case h_2 => simp at h
  rename_i l n
  simp only [Option.some.injEq, Prod.mk.injEq] at h
  obtain ⟨rfl, rfl⟩ := h
  obtain ⟨hl, h0, h1, _⟩ := hc
  obtain ⟨N, rfl⟩ := Int.eq_ofNat_of_zero_le h0
  have hlen := bl_length (nv l) N
  refine use_run (runTold l (N : Nat) N (bl (nv l) N) (N : Nat)) ?_ ⟨toldLoop l hl N (by omega), by omega, trivial⟩
  rw [cutL_eqn hlen.symm, Int.toNat_natCast]

/-! ### A number's digits -/
def digTd : List Nat := [1, 3, 4]
def digTd2 : List Nat := [1, 3, 4, 5, 6]
def digInv (a : N4) (n : Nat) (out : List Int) (i : Int) : St := ⟨slotsOf 28 [(1, sc (.ptr 0 0)), (3, sc (.sl 1 0 n)), (4, sc (.i64 i))], [(0, ⟨true, [.n4 a]⟩), (1, ⟨true, [.vi out.length out]⟩)], 16⟩
def digInv2 (a : N4) (n : Nat) (out : List Int) (i : Int) (w : BitVec 64) (k : Int) : St := ⟨slotsOf 28 [(1, sc (.ptr 0 0)), (3, sc (.sl 1 0 n)), (4, sc (.i64 i)), (5, sc (.u64 w)), (6, sc (.i64 k))], [(0, ⟨true, [.n4 a]⟩), (1, ⟨true, [.vi out.length out]⟩)], 16⟩
theorem digRound2 (a : N4) (n : Nat) (out : List Int) (i : Int) (w : BitVec 64) (k : Int) : roundS Try.prog (lookG tblAt) (orcA [(7, [(1, true)])]) [] 10 digTd2 (bodyAt Try.prog 21 7) (digInv2 a n out i w k) =
    some (Ex.normal, St.mk (slotsOf 28 [(1, sc (IV.ptr 0 0)), (3, sc (IV.sl 1 0 (n + 1))), (4, sc (IV.i64 i)), (5, sc (IV.u64 (w / BitVec.ofNat 64 256))), (6, sc (IV.i64 (k + (1 : Int))))]) [(0, Blk.mk true [IV.n4 a]), (1, Blk.mk true [IV.vi (out ++ (List.replicate 1 (0 : Int)).set 0 (IntKind.i64.wrap (↑(w % BitVec.ofNat 64 256).toNat : Int))).length (out ++ (List.replicate 1 (0 : Int)).set 0 (IntKind.i64.wrap (↑(w % BitVec.ofNat 64 256).toNat : Int)))])] 16, [decide (k < (8 : Int)) = true, 256 ≠ 0, 1 = 1, n = out.length, (n + 1) * 8 ≤ 140737488355328 ∧ n + 1 ≤ 9223372036854775807, 256 ≠ 0, inI64 (k + (1 : Int))]) := by kernel_rfl
theorem digExit2 (a : N4) (n : Nat) (out : List Int) (i : Int) (w : BitVec 64) (k : Int) : roundS Try.prog (lookG tblAt) (orcA [(7, [(1, false)])]) [] 10 digTd2 (bodyAt Try.prog 21 7) (digInv2 a n out i w k) =
    some (Ex.exit 2, St.mk (slotsOf 28 [(1, sc (IV.ptr 0 0)), (3, sc (IV.sl 1 0 n)), (4, sc (IV.i64 i)), (5, sc (IV.u64 w)), (6, sc (IV.i64 k))]) [(0, Blk.mk true [IV.n4 a]), (1, Blk.mk true [IV.vi out.length out])] 16, [decide (k < (8 : Int)) = false]) := by kernel_rfl
theorem digRound (a : N4) (n : Nat) (out : List Int) (i : Int) (n2 : Nat) (out2 : List Int) (w : BitVec 64) (k : Int) : roundS Try.prog (lookG tblAt) (orcA [(3, [(1, true)])]) [⟨7, digTd2, .exit 2, digInv2 a n2 out2 i w k⟩] 10 digTd (bodyAt Try.prog 21 3) (digInv a n out i) =
    some (Ex.normal, St.mk (slotsOf 28 [(1, sc (IV.ptr 0 0)), (3, sc (IV.sl 1 0 n2)), (4, sc (IV.i64 (i + (1 : Int))))]) [(0, Blk.mk true [IV.n4 a]), (1, Blk.mk true [IV.vi out2.length out2])] 16, [decide (i < (4 : Int)) = true, (0 : Int) ≤ i, i.toNat < 4, 0 + i.toNat * 1 < 4, LoopTo Try.prog (bodyAt Try.prog 21 7) (St.mk (slotsOf 28 [(1, sc (IV.ptr 0 0)), (3, sc (IV.sl 1 0 n)), (4, sc (IV.i64 i)), (5, sc (IV.u64 (a.get (0 + i.toNat * 1)))), (6, sc (IV.i64 (0 : Int)))]) [(0, Blk.mk true [IV.n4 a]), (1, Blk.mk true [IV.vi out.length out])] 16) (Ex.exit 2) (St.mk (slotsOf 28 [(1, sc (IV.ptr 0 0)), (3, sc (IV.sl 1 0 n2)), (4, sc (IV.i64 i)), (5, sc (IV.u64 w)), (6, sc (IV.i64 k))]) [(0, Blk.mk true [IV.n4 a]), (1, Blk.mk true [IV.vi out2.length out2])] 16), inI64 (i + (1 : Int))]) := by kernel_rfl
theorem digExit (a : N4) (n : Nat) (out : List Int) (i : Int) : roundS Try.prog (lookG tblAt) (orcA [(3, [(1, false)])]) [] 10 digTd (bodyAt Try.prog 21 3) (digInv a n out i) =
    some (Ex.exit 0, St.mk (slotsOf 28 [(1, sc (IV.ptr 0 0)), (3, sc (IV.sl 1 0 n)), (4, sc (IV.i64 i))]) [(0, Blk.mk true [IV.n4 a]), (1, Blk.mk true [IV.vi out.length out])] 16, [decide (i < (4 : Int)) = false]) := by kernel_rfl
theorem runDigits (a : N4) (n : Nat) (out : List Int) (i : Int) : fnS Try.prog (lookG tblAt) (orcA []) [⟨3, digTd, .exit 0, digInv a n out i⟩] 10 21 [.val true [.n4 a]] =
    some (sc (IV.dI (cutL out 0 (trimFrom out out.length) out.length)), [LoopTo Try.prog (bodyAt Try.prog 21 3) (St.mk (slotsOf 28 [(1, sc (IV.ptr 0 0)), (3, sc (IV.sl 1 0 0)), (4, sc (IV.i64 (0 : Int)))]) [(0, Blk.mk true [IV.n4 a]), (1, Blk.mk true [IV.vi 0 []])] 16) (Ex.exit 0) (St.mk (slotsOf 28 [(1, sc (IV.ptr 0 0)), (3, sc (IV.sl 1 0 n)), (4, sc (IV.i64 i))]) [(0, Blk.mk true [IV.n4 a]), (1, Blk.mk true [IV.vi out.length out])] 16), n = out.length, out.length ≤ 1000000000, trimFrom out out.length ≤ n, 0 + trimFrom out out.length ≤ out.length]) := by kernel_rfl

theorem wrap_byte (w : BitVec 64) : IntKind.i64.wrap (((w % BitVec.ofNat 64 256).toNat : Nat) : Int) = ((w.toNat % 256 : Nat) : Int) := by
  have e : (w % BitVec.ofNat 64 256).toNat = w.toNat % 256 := by rw [BitVec.toNat_umod]; rfl
  rw [e]
  exact wrap_in ⟨by omega, by omega⟩
theorem digLoop2 (a : N4) (i : Nat) (hi : i < 4) :
    LoopTo Try.prog (bodyAt Try.prog 21 7) (digInv2 a (8 * i) (dl (val a) (8 * i)) (i : Nat) (a.get i) 0) (.exit 2) (digInv2 a (8 * i + 8) (dl (val a) (8 * i + 8)) (i : Nat) (BitVec.ofNat 64 ((a.get i).toNat / 256 ^ 8)) 8) := by
  refine LoopTo.intro (α := Nat × Nat × List Int × BitVec 64) gsAt fol (fun s => digInv2 a s.2.1 s.2.2.1 (i : Nat) s.2.2.2 (s.1 : Nat)) (fun s => s.1 ≤ 8 ∧ s.2.1 = 8 * i + s.1 ∧ s.2.2.1 = dl (val a) (8 * i + s.1) ∧ s.2.2.2 = BitVec.ofNat 64 ((a.get i).toNat / 256 ^ s.1)) (fun s => 8 - s.1) (by simp) ?_ (0, 8 * i, dl (val a) (8 * i), a.get i) ⟨by simp, by simp, by simp, by simp⟩
  rintro ⟨k, n, out, w⟩ ⟨hk, hn, ho, hw⟩
  dsimp only at hk hn ho hw ⊢
  subst hn ho hw
  have hl := (dl_ok (val a) (8 * i + k)).1
  by_cases he : k = 8
  · subst he
    exact .inr ⟨_, _, _, _, _, digExit2 a _ _ _ _ _, by simp, trivial⟩
  · have hlt : (a.get i).toNat / 256 ^ k < 2 ^ 64 := Nat.lt_of_le_of_lt (Nat.div_le_self _ _) (a.get i).isLt
    refine .inl ⟨_, _, _, _, _, (k + 1, 8 * i + k + 1, _, _), digRound2 a _ _ _ _ _, ?_, ⟨by simp only; omega, rfl, ?_, ?_⟩, by simp only; omega⟩
    · simp only [AllP, inI64, decide_eq_true_eq]
      and_intros <;> first | omega | trivial
    · simp only [one_set, wrap_byte]
      rw [BitVec.toNat_ofNat, Nat.mod_eq_of_lt hlt, get_dig a hi (by omega)]
      rfl
    · apply BitVec.eq_of_toNat_eq
      rw [BitVec.toNat_udiv, BitVec.toNat_ofNat, BitVec.toNat_ofNat, BitVec.toNat_ofNat, Nat.mod_eq_of_lt hlt]
      have e : (a.get i).toNat / 256 ^ (k + 1) = (a.get i).toNat / 256 ^ k / 256 := by rw [Nat.pow_succ, Nat.div_div_eq_div_mul]
      rw [e, show 256 % 2 ^ 64 = 256 from rfl]
      generalize (a.get i).toNat / 256 ^ k = z at *
      omega
theorem digLoop (a : N4) : LoopTo Try.prog (bodyAt Try.prog 21 3) (digInv a 0 [] 0) (.exit 0) (digInv a 32 (dl (val a) 32) 4) := by
  refine LoopTo.intro (α := Nat × Nat × List Int) gsAt fol (fun s => digInv a s.2.1 s.2.2 (s.1 : Nat)) (fun s => s.1 ≤ 4 ∧ s.2.1 = 8 * s.1 ∧ s.2.2 = dl (val a) (8 * s.1)) (fun s => 4 - s.1) (by simp) ?_ (0, 0, []) ⟨by simp, rfl, rfl⟩
  rintro ⟨i, n, out⟩ ⟨hi, hn, ho⟩
  dsimp only at hi hn ho ⊢
  subst hn ho
  by_cases he : i = 4
  · subst he
    exact .inr ⟨_, _, _, _, _, digExit a _ _ _, by simp, trivial⟩
  · have hl := digLoop2 a i (by omega)
    have e : a.get (0 + ((i : Nat) : Int).toNat * 1) = a.get i := by rw [Int.toNat_natCast, Nat.zero_add, Nat.mul_one]
    refine .inl ⟨_, _, _, _, _, (i + 1, 8 * i + 8, _), digRound a _ _ _ _ (dl (val a) (8 * i + 8)) (BitVec.ofNat 64 ((a.get i).toNat / 256 ^ 8)) 8, ?_, ⟨by simp only; omega, by simp only; omega, rfl⟩, by simp only; omega⟩
    simp only [AllP, inI64, decide_eq_true_eq, e]
    refine ⟨by omega, by omega, by omega, by omega, hl, by omega, trivial⟩
theorem val_lt' (a : N4) : val a < 256 ^ 32 := val_lt a
def spDigits : List AV → Option (AV × List Prop)
  | [.val true [.n4 a]] => some (sc (.dI (dg (val a))), [])
  | _ => none
theorem ctDigits : CtSOk Try.prog 21 (.fn spDigits) := FnS_of_fnS gsAt fol fun ds r cs h hc => by
  unfold spDigits at h
  split at h
  case h_2 => simp at h
  rename_i a
  simp only [Option.some.injEq, Prod.mk.injEq] at h
  obtain ⟨rfl, rfl⟩ := h
  obtain ⟨h1, h2, h3⟩ := dl_ok (val a) 32
  rw [Nat.mod_eq_of_lt (val_lt' a)] at h3
  have t := trimFrom_le (dl (val a) 32) (dl (val a) 32).length
  refine use_run (runDigits a 32 (dl (val a) 32) 4) ?_ ⟨digLoop a, ?_⟩
  · rw [trim_dg h2, h3]
  · simp only [AllP]
    and_intros <;> first | omega | trivial

/-! ### A word of digits -/
def wordTd : List Nat := [0, 1, 5, 6]
def wordInv (l : List Int) (i : Int) (w : BitVec 64) (k : Int) : St := ⟨slotsOf 22 [(0, sc (.sl 0 0 l.length)), (1, sc (.i64 i)), (5, sc (.u64 w)), (6, sc (.i64 k))], [(0, ⟨false, [.vi l.length l]⟩)], 16⟩
theorem wordRound (l : List Int) (i : Int) (w : BitVec 64) (k : Int) : roundS Try.prog (lookG tblAt) (orcA [(3, [(1, true)])]) [] 10 wordTd (bodyAt Try.prog 42 3) (wordInv l i w k) =
    some (Ex.normal, St.mk (slotsOf 22 [(0, sc (IV.sl 0 0 l.length)), (1, sc (IV.i64 i)), (5, sc (IV.u64 (w * BitVec.ofNat 64 256 + BitVec.ofInt 64 (l.getD ((8 : Int) * i + k).toNat (0 : Int))))), (6, sc (IV.i64 (k - (1 : Int))))]) [(0, Blk.mk false [IV.vi l.length l])] 16, [decide ((0 : Int) ≤ k) = true, inI64 ((8 : Int) * i), inI64 ((8 : Int) * i + k), l.length = l.length, (0 : Int) ≤ (8 : Int) * i + k, inI64 (k - (1 : Int))]) := by kernel_rfl
theorem wordExit (l : List Int) (i : Int) (w : BitVec 64) (k : Int) : roundS Try.prog (lookG tblAt) (orcA [(3, [(1, false)])]) [] 10 wordTd (bodyAt Try.prog 42 3) (wordInv l i w k) =
    some (Ex.exit 0, St.mk (slotsOf 22 [(0, sc (IV.sl 0 0 l.length)), (1, sc (IV.i64 i)), (5, sc (IV.u64 w)), (6, sc (IV.i64 k))]) [(0, Blk.mk false [IV.vi l.length l])] 16, [decide ((0 : Int) ≤ k) = false]) := by kernel_rfl
theorem runWord (l : List Int) (i : Int) (w : BitVec 64) (k : Int) : fnS Try.prog (lookG tblAt) (orcA []) [⟨3, wordTd, .exit 0, wordInv l i w k⟩] 10 42 [sc (.dI l), sc (.i64 i)] =
    some (sc (IV.u64 w), [LoopTo Try.prog (bodyAt Try.prog 42 3) (St.mk (slotsOf 22 [(0, sc (IV.sl 0 0 l.length)), (1, sc (IV.i64 i)), (5, sc (IV.u64 (BitVec.ofNat 64 0))), (6, sc (IV.i64 (7 : Int)))]) [(0, Blk.mk false [IV.vi l.length l])] 16) (Ex.exit 0) (St.mk (slotsOf 22 [(0, sc (IV.sl 0 0 l.length)), (1, sc (IV.i64 i)), (5, sc (IV.u64 w)), (6, sc (IV.i64 k))]) [(0, Blk.mk false [IV.vi l.length l])] 16)]) := by kernel_rfl
theorem wordLoop (l : List Int) (hl : IsD l) (i : Nat) (hi : i ≤ 4000000) :
    LoopTo Try.prog (bodyAt Try.prog 42 3) (wordInv l (i : Nat) 0#64 7) (.exit 0) (wordInv l (i : Nat) (wordN (nv l) i) (-1)) := by
  rw [← wAcc_word]
  refine LoopTo.intro (α := Nat × Int × BitVec 64) gsAt fol (fun s => wordInv l (i : Nat) s.2.2 s.2.1) (fun s => s.1 ≤ 8 ∧ s.2.1 = 7 - s.1 ∧ s.2.2 = BitVec.ofNat 64 (wAcc (nv l / 256 ^ (8 * i)) s.1)) (fun s => 8 - s.1) (by simp) ?_ (0, 7, 0#64) ⟨by simp, rfl, by rw [wAcc_zero]⟩
  rintro ⟨j, k, w⟩ ⟨hj, hk, hw⟩
  dsimp only at hj hk hw ⊢
  subst hk hw
  by_cases he : j = 8
  · subst he
    exact .inr ⟨_, _, _, _, _, wordExit l _ _ _, by simp, trivial⟩
  · have e : ((8 : Int) * (i : Nat) + (7 - (j : Nat))).toNat = 8 * i + (7 - j) := by omega
    have e2 : nv l / 256 ^ (8 * i) / 256 ^ (7 - j) % 256 = dig (nv l) (8 * i + (7 - j)) := by rw [Nat.div_div_eq_div_mul, ← Nat.pow_add]; rfl
    refine .inl ⟨_, _, _, _, _, (j + 1, _, _), wordRound l _ _ _, ?_, ⟨by simp only; omega, by simp only; omega, ?_⟩, by simp only; omega⟩
    · simp only [AllP, inI64, decide_eq_true_eq]
      and_intros <;> first | omega | trivial
    · simp only [e, getD_dig hl]
      rw [wAcc_succ _ (by omega), e2]
      apply BitVec.eq_of_toNat_eq
      rw [BitVec.toNat_add, BitVec.toNat_mul, BitVec.toNat_ofInt]
      simp only [BitVec.toNat_ofNat]
      have := dig_lt (nv l) (8 * i + (7 - j))
      generalize dig (nv l) (8 * i + (7 - j)) = x at *
      generalize wAcc (nv l / 256 ^ (8 * i)) j = y at *
      omega
def spWord : List AV → Option (AV × List Prop)
  | [.val false [.dI l], .val false [.i64 i]] => some (sc (.u64 (wordN (nv l) i.toNat)), [IsD l, 0 ≤ i, i ≤ 4000000])
  | _ => none
theorem ctWord : CtSOk Try.prog 42 (.fn spWord) := FnS_of_fnS gsAt fol fun ds r cs h hc => by
  unfold spWord at h
  split at h
  case h_2 => simp at h
  rename_i l i
  simp only [Option.some.injEq, Prod.mk.injEq] at h
  obtain ⟨rfl, rfl⟩ := h
  obtain ⟨hl, h0, h1, _⟩ := hc
  obtain ⟨N, rfl⟩ := Int.eq_ofNat_of_zero_le h0
  refine use_run (runWord l (N : Nat) (wordN (nv l) N) (-1)) (by rw [Int.toNat_natCast]) ⟨wordLoop l hl N (by omega), trivial⟩

/-! ### Numbers of digits -/
def tblOf : List (FuncId × CtS) := [(42, .fn spWord)]
theorem gsOf : GSound Try.prog (upG (lookG tblOf)) := GSound_of_tbl ⟨⟨ctWord, by kernel_rfl⟩, trivial⟩
theorem runOf (l : List Int) : fnS Try.prog (lookG tblOf) (orcOf [5] []) [] 10 24 [sc (.dI l)] =
    some (AV.val true [IV.n4 (((((N4.mk (BitVec.ofNat 64 0) (BitVec.ofNat 64 0) (BitVec.ofNat 64 0) (BitVec.ofNat 64 0)).set 0 (wordN (nv l) 0)).set 1 (wordN (nv l) 1)).set 2 (wordN (nv l) 2)).set 3 (wordN (nv l) 3))], [l.length = l.length, IsD l, (0 : Int) ≤ (0 : Int), (0 : Int) ≤ (4000000 : Int), (0 : Int) ≤ (0 : Int), 0 < 4, 0 < 4, l.length = l.length, IsD l, (0 : Int) ≤ (1 : Int), (1 : Int) ≤ (4000000 : Int), (0 : Int) ≤ (1 : Int), 1 < 4, 1 < 4, l.length = l.length, IsD l, (0 : Int) ≤ (2 : Int), (2 : Int) ≤ (4000000 : Int), (0 : Int) ≤ (2 : Int), 2 < 4, 2 < 4, l.length = l.length, IsD l, (0 : Int) ≤ (3 : Int), (3 : Int) ≤ (4000000 : Int), (0 : Int) ≤ (3 : Int), 3 < 4, 3 < 4]) := by kernel_rfl
def spOf : List AV → Option (AV × List Prop)
  | [.val false [.dI l]] => some (.val true [.n4 (ofN (nv l))], [IsD l])
  | _ => none
theorem ctOf : CtSOk Try.prog 24 (.fn spOf) := FnS_of_fnS gsOf fol fun ds r cs h hc => by
  unfold spOf at h
  split at h
  case h_2 => simp at h
  rename_i l
  simp only [Option.some.injEq, Prod.mk.injEq] at h
  obtain ⟨rfl, rfl⟩ := h
  have hl := hc.1
  refine use_run (runOf l) ?_ ?_
  · rw [← words_ofN]; rfl
  · simp only [AllP]
    and_intros <;> first | exact hl | omega | trivial
def spWide : List AV → Option (AV × List Prop)
  | [.val false [.dI l]] => some (.val true [.n4 (ofN (nv l)), .n4 (ofN (nv l / p256))], [IsD l])
  | _ => none
/-! ### 2 to the power of 256 -/
theorem zeros_D (n : Nat) : IsD (List.replicate n 0) := fun d h => by
  have := List.eq_of_mem_replicate h
  omega
theorem nv_replicate : ∀ n, nv (List.replicate n 0) = 0
  | 0 => rfl
  | n + 1 => by simp only [List.replicate_succ, nv, nv_replicate n]; rfl
theorem dg_top (n : Nat) {l : List Int} (hl : IsD l) (h0 : l.getD (l.length - 1) 0 ≠ 0) (hne : l ≠ []) : List.replicate n 0 ++ l = dg (256 ^ n * nv l) := by
  have e : nv (List.replicate n 0 ++ l) = 256 ^ n * nv l := by rw [nv_append, nv_replicate, List.length_replicate]; omega
  rw [← e]
  refine eq_dg (IsD_append (zeros_D n) hl) (.inr ?_)
  have h1 : 0 < l.length := by cases l with
    | nil => exact absurd rfl hne
    | cons a l => simp
  rw [List.getD_eq_getElem?_getD] at h0 ⊢
  rw [List.length_append, List.length_replicate, List.getElem?_append_right (by simp; omega), List.length_replicate]
  have : n + l.length - 1 - n = l.length - 1 := by omega
  rw [this]
  exact h0
theorem power_dg : List.replicate 32 (0 : Int) ++ [1] = dg p256 := by
  have := dg_top 32 (l := [1]) (IsD_cons (by omega) IsD_nil) (by simp) (by simp)
  rw [this]
  rfl
def spPower : List AV → Option (AV × List Prop)
  | [] => some (sc (.dI (dg p256)), [])
  | _ => none
end Go.Proofs.Ytmdfhomeokfgiaa
