/- Contracts: numbers out of bytes, bytes out of numbers. Own work. -/
import Derived.Test.YtbhnegdekeojkaaCtN
import Derived.Test.YtbhnegdekeojkaaSpJ
namespace Go.Proofs.Ytbhnegdekeojkaa
open Go.Ev Go.Sp Go.RowKit
set_option maxRecDepth 100000

/-! ### A number's bytes -/
def bytesTd : List Nat := [1, 3, 7, 8]
def bytesInv (a : N4) (l : List (BitVec 8)) (i : Int) : St := ⟨slotsOf 25 [(1, sc (.ptr 0 0)), (3, sc (.sl 1 0 32)), (7, sc (.i64 32)), (8, sc (.i64 i))], [(0, ⟨true, [.n4 a]⟩), (1, ⟨true, [.v8 32 l]⟩)], 16⟩
theorem bytesRound (a : N4) (l : List (BitVec 8)) (i : Int) : roundS Try.prog (lookG []) (orcA [(3, [(0, true)])]) [] 10 bytesTd (bodyAt Try.prog 18 3) (bytesInv a l i) =
    some (Ex.normal, St.mk (slotsOf 25 [(1, sc (IV.ptr 0 0)), (3, sc (IV.sl 1 0 32)), (7, sc (IV.i64 (32 : Int))), (8, sc (IV.i64 (i + (1 : Int))))]) [(0, Blk.mk true [IV.n4 a]), (1, Blk.mk true [IV.v8 32 (l.set (0 + i.toNat * 1) (BitVec.setWidth 8 (a.get (0 + (i.tdiv (8 : Int)).toNat * 1) >>> ((8 : Int) * i.tmod (8 : Int)).toNat)))])] 16, [decide (i < (32 : Int)) = true, (8 : Int) ≠ (0 : Int), inI64 (i.tdiv (8 : Int)), (0 : Int) ≤ i.tdiv (8 : Int), (i.tdiv (8 : Int)).toNat < 4, 0 + (i.tdiv (8 : Int)).toNat * 1 < 4, (8 : Int) ≠ (0 : Int), inI64 ((8 : Int) * i.tmod (8 : Int)), (0 : Int) ≤ (8 : Int) * i.tmod (8 : Int), (0 : Int) ≤ i, i.toNat < 32, 0 + i.toNat * 1 < 32, inI64 (i + (1 : Int))]) := by kernel_rfl
theorem bytesExit (a : N4) (l : List (BitVec 8)) (i : Int) : roundS Try.prog (lookG []) (orcA [(3, [(0, false)])]) [] 10 bytesTd (bodyAt Try.prog 18 3) (bytesInv a l i) =
    some (Ex.exit 0, St.mk (slotsOf 25 [(1, sc (IV.ptr 0 0)), (3, sc (IV.sl 1 0 32)), (7, sc (IV.i64 (32 : Int))), (8, sc (IV.i64 i))]) [(0, Blk.mk true [IV.n4 a]), (1, Blk.mk true [IV.v8 32 l])] 16, [decide (i < (32 : Int)) = false]) := by kernel_rfl
theorem runBytes (a : N4) (l : List (BitVec 8)) (i : Int) : fnS Try.prog (lookG []) (orcA []) [⟨3, bytesTd, .exit 0, bytesInv a l i⟩] 10 18 [.val true [.n4 a]] =
    some (sc (IV.d8 (cutL l 0 32 32)), [(0 : Int) ≤ (32 : Int), (0 : Int) ≤ (32 : Int), 32 = 32 ∧ 32 ≤ 281474976710656 ∧ 32 ≤ 9223372036854775807, LoopTo Try.prog (bodyAt Try.prog 18 3) (St.mk (slotsOf 25 [(1, sc (IV.ptr 0 0)), (3, sc (IV.sl 1 0 32)), (7, sc (IV.i64 (32 : Int))), (8, sc (IV.i64 (0 : Int)))]) [(0, Blk.mk true [IV.n4 a]), (1, Blk.mk true [IV.v8 32 (List.replicate 32 (BitVec.ofNat 8 0))])] 16) (Ex.exit 0) (St.mk (slotsOf 25 [(1, sc (IV.ptr 0 0)), (3, sc (IV.sl 1 0 32)), (7, sc (IV.i64 (32 : Int))), (8, sc (IV.i64 i))]) [(0, Blk.mk true [IV.n4 a]), (1, Blk.mk true [IV.v8 32 l])] 16), 32 ≤ 32]) := by kernel_rfl

theorem tdiv8 (n : Nat) : ((n : Int)).tdiv 8 = ((n / 8 : Nat) : Int) := (Int.ofNat_tdiv n 8).symm
theorem tmod8 (n : Nat) : ((n : Int)).tmod 8 = ((n % 8 : Nat) : Int) := (Int.ofNat_tmod n 8).symm
theorem mul8 (n : Nat) : ((8 : Int) * (n : Nat)).toNat = 8 * n := by omega
theorem bytesLoop (a : N4) : LoopTo Try.prog (bodyAt Try.prog 18 3) (bytesInv a (List.replicate 32 0#8) 0) (.exit 0) (bytesInv a (bl (val a) 32) 32) := by
  rw [← fill_zero (val a), ← fill_all]
  refine LoopTo.intro (α := Nat × List (BitVec 8)) gs0 fol (fun s => bytesInv a s.2 (s.1 : Nat)) (fun s => s.1 ≤ 32 ∧ s.2 = fill (val a) 32 s.1) (fun s => 32 - s.1) (by simp) ?_ (0, _) ⟨by simp, rfl⟩
  rintro ⟨i, l⟩ ⟨hi, hl⟩
  dsimp only at hi hl ⊢
  subst hl
  by_cases he : i = 32
  · subst he
    exact .inr ⟨_, _, _, _, _, bytesExit a _ _, by simp, trivial⟩
  · refine .inl ⟨_, _, _, _, _, (i + 1, _), bytesRound a _ _, ?_, ⟨by simp only; omega, ?_⟩, by simp only; omega⟩
    · simp only [AllP, inI64, decide_eq_true_eq, tdiv8, tmod8]
      and_intros <;> first | omega | trivial
    · simp only [tdiv8, tmod8, mul8, Int.toNat_natCast, Nat.zero_add, Nat.mul_one]
      rw [byte_of a (by omega), fill_set _ (by omega)]
def spBytes : List AV → Option (AV × List Prop)
  | [.val true [.n4 a]] => some (sc (.d8 (bl (val a) 32)), [])
  | _ => none
theorem ctBytes : CtSOk Try.prog 18 (.fn spBytes) := FnS_of_fnS gs0 fol fun ds r cs h hc => by
  unfold spBytes at h
  split at h
  case h_2 => simp at h
  rename_i a
  simp only [Option.some.injEq, Prod.mk.injEq] at h
  obtain ⟨rfl, rfl⟩ := h
  refine use_run (runBytes a (bl (val a) 32) 32) ?_ ⟨by omega, by omega, by omega, bytesLoop a, by omega, trivial⟩
  have := cutL_eqn (bl_length (val a) 32).symm
  rw [bl_length] at this
  rw [this]

/-! ### A number out of bytes -/
def fromTd : List Nat := [2, 4, 11, 12, 13]
def fromInv (b : List (BitVec 8)) (z n : N4) (i : Int) : St := ⟨slotsOf 32 [(2, sc (.ptr 0 0)), (4, sc (.ptr 1 0)), (11, sc (.sl 2 0 b.length)), (12, sc (.i64 (b.length : Int))), (13, sc (.i64 i))], [(0, ⟨true, [.n4 z]⟩), (1, ⟨true, [.n4 n]⟩), (2, ⟨false, [.v8 b.length b]⟩)], 16⟩
theorem fromRound (b : List (BitVec 8)) (z n : N4) (i : Int) : roundS Try.prog (lookG []) (orcA [(5, [(0, true)])]) [] 10 fromTd (bodyAt Try.prog 13 5) (fromInv b z n i) =
    some (Ex.normal, St.mk (slotsOf 32 [(2, sc (IV.ptr 0 0)), (4, sc (IV.ptr 1 0)), (11, sc (IV.sl 2 0 b.length)), (12, sc (IV.i64 (↑b.length : Int))), (13, sc (IV.i64 (i + (1 : Int))))]) [(0, Blk.mk true [IV.n4 z]), (1, Blk.mk true [IV.n4 (n.set (0 + (i.tdiv (8 : Int)).toNat * 1) (n.get (0 + (i.tdiv (8 : Int)).toNat * 1) ||| BitVec.setWidth 64 (b.getD (0 + i.toNat * 1) (BitVec.ofNat 8 0)) <<< ((8 : Int) * i.tmod (8 : Int)).toNat))]), (2, Blk.mk false [IV.v8 b.length b])] 16, [decide (i < (↑b.length : Int)) = true, (0 : Int) ≤ i, i.toNat < b.length, 0 + i.toNat * 1 < b.length, (8 : Int) ≠ (0 : Int), inI64 (i.tdiv (8 : Int)), (0 : Int) ≤ i.tdiv (8 : Int), (i.tdiv (8 : Int)).toNat < 4, 0 + (i.tdiv (8 : Int)).toNat * 1 < 4, (8 : Int) ≠ (0 : Int), inI64 ((8 : Int) * i.tmod (8 : Int)), (0 : Int) ≤ (8 : Int) * i.tmod (8 : Int), (0 : Int) ≤ i.tdiv (8 : Int), (i.tdiv (8 : Int)).toNat < 4, 0 + (i.tdiv (8 : Int)).toNat * 1 < 4, inI64 (i + (1 : Int))]) := by kernel_rfl
theorem fromExit (b : List (BitVec 8)) (z n : N4) (i : Int) : roundS Try.prog (lookG []) (orcA [(5, [(0, false)])]) [] 10 fromTd (bodyAt Try.prog 13 5) (fromInv b z n i) =
    some (Ex.exit 0, St.mk (slotsOf 32 [(2, sc (IV.ptr 0 0)), (4, sc (IV.ptr 1 0)), (11, sc (IV.sl 2 0 b.length)), (12, sc (IV.i64 (↑b.length : Int))), (13, sc (IV.i64 i))]) [(0, Blk.mk true [IV.n4 z]), (1, Blk.mk true [IV.n4 n]), (2, Blk.mk false [IV.v8 b.length b])] 16, [decide (i < (↑b.length : Int)) = false]) := by kernel_rfl
theorem runFrom (b : List (BitVec 8)) (z n : N4) (i : Int) : fnS Try.prog (lookG []) (orcA [(1, [(2, false)])]) [⟨5, fromTd, .exit 0, fromInv b z n i⟩] 10 13 [sc (.d8 b)] =
    some (AV.tup [(true, [IV.n4 n]), (false, [IV.i64 (0 : Int)])], [decide ((32 : Int) < (↑b.length : Int)) = false, LoopTo Try.prog (bodyAt Try.prog 13 5) (St.mk (slotsOf 32 [(2, sc (IV.ptr 0 0)), (4, sc (IV.ptr 1 0)), (11, sc (IV.sl 2 0 b.length)), (12, sc (IV.i64 (↑b.length : Int))), (13, sc (IV.i64 (0 : Int)))]) [(0, Blk.mk true [IV.n4 (N4.mk (BitVec.ofNat 64 0) (BitVec.ofNat 64 0) (BitVec.ofNat 64 0) (BitVec.ofNat 64 0))]), (1, Blk.mk true [IV.n4 (N4.mk (BitVec.ofNat 64 0) (BitVec.ofNat 64 0) (BitVec.ofNat 64 0) (BitVec.ofNat 64 0))]), (2, Blk.mk false [IV.v8 b.length b])] 16) (Ex.exit 0) (St.mk (slotsOf 32 [(2, sc (IV.ptr 0 0)), (4, sc (IV.ptr 1 0)), (11, sc (IV.sl 2 0 b.length)), (12, sc (IV.i64 (↑b.length : Int))), (13, sc (IV.i64 i))]) [(0, Blk.mk true [IV.n4 z]), (1, Blk.mk true [IV.n4 n]), (2, Blk.mk false [IV.v8 b.length b])] 16)]) := by kernel_rfl
theorem runFrom1 (b : List (BitVec 8)) : fnS Try.prog (lookG []) (orcA [(1, [(2, true)])]) [] 10 13 [sc (.d8 b)] =
    some (AV.tup [(true, [IV.n4 (N4.mk (BitVec.ofNat 64 0) (BitVec.ofNat 64 0) (BitVec.ofNat 64 0) (BitVec.ofNat 64 0))]), (false, [IV.i64 (2 : Int)])], [decide ((32 : Int) < (↑b.length : Int)) = true]) := by kernel_rfl
def dblInv (b : List (BitVec 8)) (z y n m : N4) (i : Int) : St := ⟨slotsOf 32 [(2, sc (.ptr 0 0)), (4, sc (.ptr 1 0)), (11, sc (.sl 2 0 b.length)), (12, sc (.i64 (b.length : Int))), (13, sc (.i64 i))], [(0, ⟨true, [.n4 z, .n4 y]⟩), (1, ⟨true, [.n4 n, .n4 m]⟩), (2, ⟨false, [.v8 b.length b]⟩)], 16⟩
theorem ofN_take0 (b : List (BitVec 8)) : ofN (bv (b.take 0)) = ⟨0#64, 0#64, 0#64, 0#64⟩ := by
  rw [List.take_zero]
  rfl
theorem ofN_take0' (b : List (BitVec 8)) : ofN (bv (b.take 0) / p256) = ⟨0#64, 0#64, 0#64, 0#64⟩ := by
  rw [List.take_zero]
  rfl
theorem fromLoop (b : List (BitVec 8)) (hb : b.length ≤ 32) : LoopTo Try.prog (bodyAt Try.prog 13 5) (fromInv b ⟨0#64, 0#64, 0#64, 0#64⟩ ⟨0#64, 0#64, 0#64, 0#64⟩ 0) (.exit 0) (fromInv b ⟨0#64, 0#64, 0#64, 0#64⟩ (ofN (bv b)) (b.length : Nat)) := by
  have e : ofN (bv b) = ofN (bv (b.take b.length)) := by rw [List.take_length]
  rw [e]
  refine LoopTo.intro (α := Nat × N4) gs0 fol (fun s => fromInv b ⟨0#64, 0#64, 0#64, 0#64⟩ s.2 (s.1 : Nat)) (fun s => s.1 ≤ b.length ∧ s.2 = ofN (bv (b.take s.1))) (fun s => b.length - s.1) (by simp) ?_ (0, _) ⟨by simp, (ofN_take0 b).symm⟩
  rintro ⟨i, n⟩ ⟨hi, hn⟩
  dsimp only at hi hn ⊢
  subst hn
  by_cases he : i = b.length
  · subst he
    exact .inr ⟨_, _, _, _, _, fromExit b _ _ _, by simp, trivial⟩
  · refine .inl ⟨_, _, _, _, _, (i + 1, _), fromRound b _ _ _, ?_, ⟨by simp only; omega, ?_⟩, by simp only; omega⟩
    · simp only [AllP, inI64, decide_eq_true_eq, tdiv8, tmod8]
      and_intros <;> first | omega | trivial
    · simp only [tdiv8, tmod8, mul8, Int.toNat_natCast, Nat.zero_add, Nat.mul_one]
      exact from_step b (by omega) (by omega)
def fromV (b : List (BitVec 8)) : N4 × Int := if b.length ≤ 32 then (ofN (bv b), 0) else (⟨0#64, 0#64, 0#64, 0#64⟩, 2)
def spFrom : List AV → Option (AV × List Prop)
  | [.val false [.d8 b]] => some (.tup [(true, [.n4 (fromV b).1]), (false, [.i64 (fromV b).2])], [])
  | _ => none
theorem ctFrom : CtSOk Try.prog 13 (.fn spFrom) := FnS_of_fnS gs0 fol fun ds r cs h hc => by
  unfold spFrom at h
  split at h
  case h_2 => simp at h
  rename_i b
  simp only [Option.some.injEq, Prod.mk.injEq] at h
  obtain ⟨rfl, rfl⟩ := h
  by_cases hb : b.length ≤ 32
  · refine use_run (runFrom b ⟨0#64, 0#64, 0#64, 0#64⟩ (ofN (bv b)) (b.length : Nat)) ?_ ⟨by simp; omega, fromLoop b hb, trivial⟩
    simp only [fromV, if_pos hb]
  · refine use_run (runFrom1 b) ?_ ⟨by simp; omega, trivial⟩
    simp only [fromV, if_neg hb]
def dblV (b : List (BitVec 8)) : N4 × N4 × Int := if b.length ≤ 64 then (ofN (bv b), ofN (bv b / p256), 0) else (⟨0#64, 0#64, 0#64, 0#64⟩, ⟨0#64, 0#64, 0#64, 0#64⟩, 2)
def spDbl : List AV → Option (AV × List Prop)
  | [.val false [.d8 b]] => some (.tup [(true, [.n4 (dblV b).1, .n4 (dblV b).2.1]), (false, [.i64 (dblV b).2.2])], [])
  | _ => none
/-! ### The document's bit -/
def rbitTd : List Nat := [1, 5, 6]
def rbitInv (i d k : Int) : St := ⟨slotsOf 29 [(1, sc (.i64 i)), (5, sc (.i64 d)), (6, sc (.i64 k))], [], 16⟩
def spRBit : List AV → Option (AV × List Prop)
  | [.val true [.n4 a], .val false [.i64 i]] => some (sc (.u64 (bitN a i)), [])
  | _ => none
theorem dig_bit (a : N4) (k : Nat) : dig (val a) (k / 8) / 2 ^ (k % 8) % 2 = val a / 2 ^ k % 2 := by
  have e : k = 8 * (k / 8) + k % 8 := (Nat.div_add_mod k 8).symm
  unfold dig
  have e2 : val a / 2 ^ k = val a / 256 ^ (k / 8) / 2 ^ (k % 8) := by
    rw [Nat.div_div_eq_div_mul, ← pow8, ← Nat.pow_add, ← e]
  rw [e2]
  generalize val a / 256 ^ (k / 8) = y
  have h8 : k % 8 < 8 := Nat.mod_lt _ (by omega)
  generalize k % 8 = n at *
  match n, h8 with
  | 0, _ => simp only [show 2 ^ 0 = 1 from rfl]; omega
  | 1, _ => simp only [show 2 ^ 1 = 2 from rfl]; omega
  | 2, _ => simp only [show 2 ^ 2 = 4 from rfl]; omega
  | 3, _ => simp only [show 2 ^ 3 = 8 from rfl]; omega
  | 4, _ => simp only [show 2 ^ 4 = 16 from rfl]; omega
  | 5, _ => simp only [show 2 ^ 5 = 32 from rfl]; omega
  | 6, _ => simp only [show 2 ^ 6 = 64 from rfl]; omega
  | 7, _ => simp only [show 2 ^ 7 = 128 from rfl]; omega
/-! ### A double number's digits -/
def wordsTd : List Nat := [4, 5]
def wordsInv (b : N4) (n : Nat) (l : List Int) : St := ⟨slotsOf 41 [(4, sc (.ptr 0 0)), (5, sc (.sl 1 0 n))], [(0, ⟨true, [.n4 b]⟩), (1, ⟨true, [.vi l.length l]⟩)], 16⟩
theorem dg_ne {n : Nat} (h : n ≠ 0) : dg n ≠ [] := by rw [dg_pos h]; simp
theorem dg_last : ∀ n, n ≠ 0 → (dg n).getD ((dg n).length - 1) 0 ≠ 0 := by
  intro n
  induction n using Nat.strongRecOn with
  | _ n ih =>
    intro h
    rw [dg_pos h]
    by_cases h2 : n / 256 = 0
    · rw [h2, dg_zero]
      simp
      omega
    · have := ih (n / 256) (by omega) h2
      have hne : 0 < (dg (n / 256)).length := List.length_pos_iff.2 (dg_ne h2)
      obtain ⟨m, hm⟩ : ∃ m, (dg (n / 256)).length = m + 1 := ⟨(dg (n / 256)).length - 1, by omega⟩
      rw [hm] at this
      simp only [List.length_cons, hm, Nat.add_sub_cancel, List.getD_cons_succ]
      exact this
theorem append_dg {l : List Int} (hl : IsD l) {n : Nat} (h : n ≠ 0) : l ++ dg n = dg (nv l + 256 ^ l.length * n) := by
  have e : nv (l ++ dg n) = nv l + 256 ^ l.length * n := by rw [nv_append, nv_dg]
  rw [← e]
  refine eq_dg (IsD_append hl (dg_D n)) (.inr ?_)
  have h1 := dg_last n h
  have h0 : 0 < (dg n).length := List.length_pos_iff.2 (dg_ne h)
  rw [List.getD_eq_getElem?_getD] at h1 ⊢
  rw [List.length_append, List.getElem?_append_right (by omega)]
  have : l.length + (dg n).length - 1 - l.length = (dg n).length - 1 := by omega
  rw [this]
  exact h1
theorem nv_pad (l : List Int) (n : Nat) : nv (l ++ List.replicate n 0) = nv l := by rw [nv_append, nv_replicate]; omega
theorem val_len (a : N4) : (dg (val a)).length ≤ 32 := dg_length_le (val_lt' a)
def wpad (a : N4) (n : Nat) : List Int := dg (val a) ++ List.replicate (n - (dg (val a)).length) 0
def spWords : List AV → Option (AV × List Prop)
  | [.val true [.n4 a, .n4 b]] => some (sc (.dI (dg (val a + p256 * val b))), [])
  | _ => none
def spNWords : List AV → Option (AV × List Prop)
  | [.val true [.n4 a, .n4 b]] => some (sc (.dN (val a + p256 * val b)), [])
  | _ => none
end Go.Proofs.Ytbhnegdekeojkaa
