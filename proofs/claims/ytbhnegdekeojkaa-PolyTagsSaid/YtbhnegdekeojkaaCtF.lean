/- Contracts of the document's digit lists: bytes and words. Own work. -/
import Derived.Test.YtbhnegdekeojkaaCtE
import Derived.Test.YtbhnegdekeojkaaSpI
namespace Go.Proofs.Ytbhnegdekeojkaa
open Go.Ev Go.Sp Go.RowKit
set_option maxRecDepth 100000

/-! ### Bytes read -/
def readTd : List Nat := [0, 3, 4]
def readInv (b : List (BitVec 8)) (n : Nat) (out : List Int) (i : Int) : St := ⟨slotsOf 21 [(0, sc (.sl 0 0 b.length)), (3, sc (.sl 1 0 n)), (4, sc (.i64 i))], [(0, ⟨false, [.v8 b.length b]⟩), (1, ⟨true, [.vi out.length out]⟩)], 16⟩
theorem readRound (b : List (BitVec 8)) (n : Nat) (out : List Int) (i : Int) : roundS Try.prog (lookG tblAt) (orcA [(3, [(3, true)])]) [] 10 readTd (bodyAt Try.prog 19 3) (readInv b n out i) =
    some (Ex.normal, St.mk (slotsOf 21 [(0, sc (IV.sl 0 0 b.length)), (3, sc (IV.sl 1 0 (n + 1))), (4, sc (IV.i64 (i + (1 : Int))))]) [(0, Blk.mk false [IV.v8 b.length b]), (1, Blk.mk true [IV.vi (out ++ (List.replicate 1 (0 : Int)).set 0 (↑(b.getD (0 + i.toNat * 1) (BitVec.ofNat 8 0)).toNat : Int)).length (out ++ (List.replicate 1 (0 : Int)).set 0 (↑(b.getD (0 + i.toNat * 1) (BitVec.ofNat 8 0)).toNat : Int))])] 16, [decide (i < (↑b.length : Int)) = true, (0 : Int) ≤ i, i.toNat < b.length, 0 + i.toNat * 1 < b.length, 1 = 1, n = out.length, (n + 1) * 8 ≤ 140737488355328 ∧ n + 1 ≤ 9223372036854775807, inI64 (i + (1 : Int))]) := by kernel_rfl
theorem readExit (b : List (BitVec 8)) (n : Nat) (out : List Int) (i : Int) : roundS Try.prog (lookG tblAt) (orcA [(3, [(3, false)])]) [] 10 readTd (bodyAt Try.prog 19 3) (readInv b n out i) =
    some (Ex.exit 0, St.mk (slotsOf 21 [(0, sc (IV.sl 0 0 b.length)), (3, sc (IV.sl 1 0 n)), (4, sc (IV.i64 i))]) [(0, Blk.mk false [IV.v8 b.length b]), (1, Blk.mk true [IV.vi out.length out])] 16, [decide (i < (↑b.length : Int)) = false]) := by kernel_rfl
theorem runRead (b : List (BitVec 8)) (n : Nat) (out : List Int) (i : Int) : fnS Try.prog (lookG tblAt) (orcA []) [⟨3, readTd, .exit 0, readInv b n out i⟩] 10 19 [sc (.d8 b)] =
    some (sc (IV.dI (cutL out 0 (trimFrom out out.length) out.length)), [LoopTo Try.prog (bodyAt Try.prog 19 3) (St.mk (slotsOf 21 [(0, sc (IV.sl 0 0 b.length)), (3, sc (IV.sl 1 0 0)), (4, sc (IV.i64 (0 : Int)))]) [(0, Blk.mk false [IV.v8 b.length b]), (1, Blk.mk true [IV.vi 0 []])] 16) (Ex.exit 0) (St.mk (slotsOf 21 [(0, sc (IV.sl 0 0 b.length)), (3, sc (IV.sl 1 0 n)), (4, sc (IV.i64 i))]) [(0, Blk.mk false [IV.v8 b.length b]), (1, Blk.mk true [IV.vi out.length out])] 16), n = out.length, out.length ≤ 1000000000, trimFrom out out.length ≤ n, 0 + trimFrom out out.length ≤ out.length]) := by kernel_rfl

theorem readLoop (b : List (BitVec 8)) (hb : b.length ≤ 4000000) :
    LoopTo Try.prog (bodyAt Try.prog 19 3) (readInv b 0 [] 0) (.exit 0) (readInv b b.length (bd b) (b.length : Nat)) := by
  refine LoopTo.intro (α := Nat × List Int) gsAt fol (fun a => readInv b a.1 a.2 (a.1 : Nat)) (fun a => a.1 ≤ b.length ∧ a.2 = bd (b.take a.1)) (fun a => b.length - a.1) (by simp) ?_ (0, []) ⟨Nat.zero_le _, by simp [bd]⟩
  rintro ⟨n, out⟩ ⟨hn, ho⟩
  dsimp only at hn ho ⊢
  subst ho
  have hl : (bd (b.take n)).length = n := by simp [bd]; omega
  by_cases he : n = b.length
  · subst he
    have e : bd (b.take b.length) = bd b := by rw [List.take_length]
    rw [e]
    exact .inr ⟨_, _, _, _, _, readExit b _ _ _, by rw [decide_eq_false_iff_not]; omega, trivial⟩
  · refine .inl ⟨_, _, _, _, _, (n + 1, _), readRound b n _ _, ?_, ⟨by simp only; omega, ?_⟩, by simp only; omega⟩
    · simp only [AllP, Int.toNat_natCast, inI64, decide_eq_true_eq]
      and_intros <;> first | omega | trivial
    · simp only [one_set, Int.toNat_natCast, Nat.zero_add, Nat.mul_one]
      have hlt : n < b.length := by omega
      rw [bd, bd, List.take_succ_eq_append_getElem hlt, List.map_append]
      simp [hlt]
def spRead : List AV → Option (AV × List Prop)
  | [.val false [.d8 b]] => some (sc (.dI (dg (bv b))), [b.length ≤ 4000000])
  | _ => none
theorem ctRead : CtSOk Try.prog 19 (.fn spRead) := FnS_of_fnS gsAt fol fun ds r cs h hc => by
  unfold spRead at h
  split at h
  case h_2 => simp at h
  rename_i b
  simp only [Option.some.injEq, Prod.mk.injEq] at h
  obtain ⟨rfl, rfl⟩ := h
  have hb := hc.1
  have hl : (bd b).length = b.length := by simp [bd]
  have t := trimFrom_le (bd b) (bd b).length
  refine use_run (runRead b b.length (bd b) (b.length : Nat)) ?_ ⟨readLoop b hb, ?_⟩
  · rw [trim_dg (bd_D b), nv_bd]
  · simp only [AllP]
    and_intros <;> first | omega | trivial

/-! ### Bytes told -/
def toldTd : List Nat := [0, 1, 5, 6]
def toldInv (l : List Int) (sz : Int) (n : Nat) (out : List (BitVec 8)) (i : Int) : St := ⟨slotsOf 20 [(0, sc (.sl 0 0 l.length)), (1, sc (.i64 sz)), (5, sc (.sl 1 0 n)), (6, sc (.i64 i))], [(0, ⟨false, [.vi l.length l]⟩), (1, ⟨true, [.v8 out.length out]⟩)], 16⟩
theorem toldRound (l : List Int) (sz : Int) (n : Nat) (out : List (BitVec 8)) (i : Int) : roundS Try.prog (lookG tblAt) (orcA [(3, [(2, true)])]) [] 10 toldTd (bodyAt Try.prog 24 3) (toldInv l sz n out i) =
    some (Ex.normal, St.mk (slotsOf 20 [(0, sc (IV.sl 0 0 l.length)), (1, sc (IV.i64 sz)), (5, sc (IV.sl 1 0 (n + 1))), (6, sc (IV.i64 (i + (1 : Int))))]) [(0, Blk.mk false [IV.vi l.length l]), (1, Blk.mk true [IV.v8 (out ++ (List.replicate 1 (BitVec.ofNat 8 0)).set 0 (BitVec.ofInt 8 (l.getD i.toNat (0 : Int)))).length (out ++ (List.replicate 1 (BitVec.ofNat 8 0)).set 0 (BitVec.ofInt 8 (l.getD i.toNat (0 : Int))))])] 16, [decide (i < sz) = true, l.length = l.length, (0 : Int) ≤ i, 1 = 1, n = out.length, (n + 1) * 1 ≤ 140737488355328 ∧ n + 1 ≤ 9223372036854775807, inI64 (i + (1 : Int))]) := by kernel_rfl
theorem toldExit (l : List Int) (sz : Int) (n : Nat) (out : List (BitVec 8)) (i : Int) : roundS Try.prog (lookG tblAt) (orcA [(3, [(2, false)])]) [] 10 toldTd (bodyAt Try.prog 24 3) (toldInv l sz n out i) =
    some (Ex.exit 0, St.mk (slotsOf 20 [(0, sc (IV.sl 0 0 l.length)), (1, sc (IV.i64 sz)), (5, sc (IV.sl 1 0 n)), (6, sc (IV.i64 i))]) [(0, Blk.mk false [IV.vi l.length l]), (1, Blk.mk true [IV.v8 out.length out])] 16, [decide (i < sz) = false]) := by kernel_rfl
theorem runTold (l : List Int) (sz : Int) (n : Nat) (out : List (BitVec 8)) (i : Int) : fnS Try.prog (lookG tblAt) (orcA []) [⟨3, toldTd, .exit 0, toldInv l sz n out i⟩] 10 24 [sc (.dI l), sc (.i64 sz)] =
    some (sc (IV.d8 (cutL out 0 n out.length)), [LoopTo Try.prog (bodyAt Try.prog 24 3) (St.mk (slotsOf 20 [(0, sc (IV.sl 0 0 l.length)), (1, sc (IV.i64 sz)), (5, sc (IV.sl 1 0 0)), (6, sc (IV.i64 (0 : Int)))]) [(0, Blk.mk false [IV.vi l.length l]), (1, Blk.mk true [IV.v8 0 []])] 16) (Ex.exit 0) (St.mk (slotsOf 20 [(0, sc (IV.sl 0 0 l.length)), (1, sc (IV.i64 sz)), (5, sc (IV.sl 1 0 n)), (6, sc (IV.i64 i))]) [(0, Blk.mk false [IV.vi l.length l]), (1, Blk.mk true [IV.v8 out.length out])] 16), 0 + n ≤ out.length]) := by kernel_rfl

theorem toldLoop (l : List Int) (hl : IsD l) (N : Nat) (hN : N ≤ 4000000) :
    LoopTo Try.prog (bodyAt Try.prog 24 3) (toldInv l (N : Nat) 0 [] 0) (.exit 0) (toldInv l (N : Nat) N (bl (nv l) N) (N : Nat)) := by
  refine LoopTo.intro (α := Nat × List (BitVec 8)) gsAt fol (fun a => toldInv l (N : Nat) a.1 a.2 (a.1 : Nat)) (fun a => a.1 ≤ N ∧ a.2 = bl (nv l) a.1) (fun a => N - a.1) (by simp) ?_ (0, []) ⟨Nat.zero_le _, rfl⟩
  rintro ⟨n, out⟩ ⟨hn, ho⟩
  dsimp only at hn ho ⊢
  subst ho
  have hlen := bl_length (nv l) n
  by_cases he : n = N
  · subst he
    exact .inr ⟨_, _, _, _, _, toldExit l _ _ _ _, by rw [decide_eq_false_iff_not]; omega, trivial⟩
  · refine .inl ⟨_, _, _, _, _, (n + 1, _), toldRound l _ n _ _, ?_, ⟨by simp only; omega, ?_⟩, by simp only; omega⟩
    · simp only [AllP, inI64, decide_eq_true_eq]
      and_intros <;> first | omega | trivial
    · have hx := dig_lt (nv l) n
      have e : BitVec.ofInt 8 ((dig (nv l) n : Nat) : Int) = BitVec.ofNat 8 (nv l / 256 ^ n) := by
        apply BitVec.eq_of_toNat_eq
        rw [BitVec.toNat_ofInt, BitVec.toNat_ofNat, Int.toNat_emod (by omega) (by decide), Int.toNat_natCast]
        exact Nat.mod_mod _ _
      simp only [Int.toNat_natCast, getD_dig hl, e, bl]
      rfl
def spTold : List AV → Option (AV × List Prop)
  | [.val false [.dI l], .val false [.i64 n]] => some (sc (.d8 (bl (nv l) n.toNat)), [IsD l, 0 ≤ n, n ≤ 4000000])
  | _ => none
theorem ctTold : CtSOk Try.prog 24 (.fn spTold) := FnS_of_fnS gsAt fol fun ds r cs h hc => by
  unfold spTold at h
  split at h
  case h_2 => simp at h
  rename_i l n
  simp only [Option.some.injEq, Prod.mk.injEq] at h
  obtain ⟨rfl, rfl⟩ := h
  obtain ⟨hl, h0, h1, _⟩ := hc
  obtain ⟨N, rfl⟩ := Int.eq_ofNat_of_zero_le h0
  have hlen := bl_length (nv l) N
  refine use_run (runTold l (N : Nat) N (bl (nv l) N) (N : Nat)) ?_ ⟨toldLoop l hl N (by omega), by omega, trivial⟩
  rw [cutL_eqn hlen.symm, Int.toNat_natCast]

/-! ### A number's digits -/
def digTd : List Nat := [1, 3, 4]
def digTd2 : List Nat := [1, 3, 4, 5, 6]
def digInv (a : N4) (n : Nat) (out : List Int) (i : Int) : St := ⟨slotsOf 28 [(1, sc (.ptr 0 0)), (3, sc (.sl 1 0 n)), (4, sc (.i64 i))], [(0, ⟨true, [.n4 a]⟩), (1, ⟨true, [.vi out.length out]⟩)], 16⟩
def digInv2 (a : N4) (n : Nat) (out : List Int) (i : Int) (w : BitVec 64) (k : Int) : St := ⟨slotsOf 28 [(1, sc (.ptr 0 0)), (3, sc (.sl 1 0 n)), (4, sc (.i64 i)), (5, sc (.u64 w)), (6, sc (.i64 k))], [(0, ⟨true, [.n4 a]⟩), (1, ⟨true, [.vi out.length out]⟩)], 16⟩
theorem wrap_byte (w : BitVec 64) : IntKind.i64.wrap (((w % BitVec.ofNat 64 256).toNat : Nat) : Int) = ((w.toNat % 256 : Nat) : Int) := by
  have e : (w % BitVec.ofNat 64 256).toNat = w.toNat % 256 := by rw [BitVec.toNat_umod]; rfl
  rw [e]
  exact wrap_in ⟨by omega, by omega⟩
theorem val_lt' (a : N4) : val a < 256 ^ 32 := val_lt a
def spDigits : List AV → Option (AV × List Prop)
  | [.val true [.n4 a]] => some (sc (.dI (dg (val a))), [])
  | _ => none
/-! ### A word of digits -/
def wordTd : List Nat := [0, 1, 5, 6]
def wordInv (l : List Int) (i : Int) (w : BitVec 64) (k : Int) : St := ⟨slotsOf 22 [(0, sc (.sl 0 0 l.length)), (1, sc (.i64 i)), (5, sc (.u64 w)), (6, sc (.i64 k))], [(0, ⟨false, [.vi l.length l]⟩)], 16⟩
def spWord : List AV → Option (AV × List Prop)
  | [.val false [.dI l], .val false [.i64 i]] => some (sc (.u64 (wordN (nv l) i.toNat)), [IsD l, 0 ≤ i, i ≤ 4000000])
  | _ => none
/-! ### Numbers of digits -/
def spOf : List AV → Option (AV × List Prop)
  | [.val false [.dI l]] => some (.val true [.n4 (ofN (nv l))], [IsD l])
  | _ => none
def spWide : List AV → Option (AV × List Prop)
  | [.val false [.dI l]] => some (.val true [.n4 (ofN (nv l)), .n4 (ofN (nv l / p256))], [IsD l])
  | _ => none
/-! ### 2 to the power of 256 -/
theorem zeros_D (n : Nat) : IsD (List.replicate n 0) := fun d h => by
  have := List.eq_of_mem_replicate h
  omega
theorem nv_replicate : ∀ n, nv (List.replicate n 0) = 0
  | 0 => rfl
  | n + 1 => by simp only [List.replicate_succ, nv, nv_replicate n]; rfl
theorem dg_top (n : Nat) {l : List Int} (hl : IsD l) (h0 : l.getD (l.length - 1) 0 ≠ 0) (hne : l ≠ []) : List.replicate n 0 ++ l = dg (256 ^ n * nv l) := by
  have e : nv (List.replicate n 0 ++ l) = 256 ^ n * nv l := by rw [nv_append, nv_replicate, List.length_replicate]; omega
  rw [← e]
  refine eq_dg (IsD_append (zeros_D n) hl) (.inr ?_)
  have h1 : 0 < l.length := by cases l with
    | nil => exact absurd rfl hne
    | cons a l => simp
  rw [List.getD_eq_getElem?_getD] at h0 ⊢
  rw [List.length_append, List.length_replicate, List.getElem?_append_right (by simp; omega), List.length_replicate]
  have : n + l.length - 1 - n = l.length - 1 := by omega
  rw [this]
  exact h0
theorem power_dg : List.replicate 32 (0 : Int) ++ [1] = dg p256 := by
  have := dg_top 32 (l := [1]) (IsD_cons (by omega) IsD_nil) (by simp) (by simp)
  rw [this]
  rfl
def spPower : List AV → Option (AV × List Prop)
  | [] => some (sc (.dI (dg p256)), [])
  | _ => none
end Go.Proofs.Ytbhnegdekeojkaa
