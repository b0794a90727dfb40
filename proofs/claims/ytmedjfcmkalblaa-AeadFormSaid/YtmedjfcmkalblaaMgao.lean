/- Texts put together: CtO SpK CtP PoA PoB PoM PoC. Own work. -/
import Derived.Test.YtmedjfcmkalblaaMgan
/- Contracts: numbers out of bytes, bytes out of numbers. Own work. -/
namespace Go.Proofs.Ytmedjfcmkalblaa
open Go.Ev Go.Sp Go.RowKit
set_option maxRecDepth 100000

/-! ### A number's bytes -/
def bytesTd : List Nat := [1, 3, 7, 8]
def bytesInv (a : N4) (l : List (BitVec 8)) (i : Int) : St := ⟨slotsOf 25 [(1, sc (.ptr 0 0)), (3, sc (.sl 1 0 32)), (7, sc (.i64 32)), (8, sc (.i64 i))], [(0, ⟨true, [.n4 a]⟩), (1, ⟨true, [.v8 32 l]⟩)], 16⟩
theorem bytesRound (a : N4) (l : List (BitVec 8)) (i : Int) : roundS Try.prog (lookG []) (orcA [(3, [(0, true)])]) [] 10 bytesTd (bodyAt Try.prog 50 3) (bytesInv a l i) =
    some (Ex.normal, St.mk (slotsOf 25 [(1, sc (IV.ptr 0 0)), (3, sc (IV.sl 1 0 32)), (7, sc (IV.i64 (32 : Int))), (8, sc (IV.i64 (i + (1 : Int))))]) [(0, Blk.mk true [IV.n4 a]), (1, Blk.mk true [IV.v8 32 (l.set (0 + i.toNat * 1) (BitVec.setWidth 8 (a.get (0 + (i.tdiv (8 : Int)).toNat * 1) >>> ((8 : Int) * i.tmod (8 : Int)).toNat)))])] 16, [decide (i < (32 : Int)) = true, (8 : Int) ≠ (0 : Int), inI64 (i.tdiv (8 : Int)), (0 : Int) ≤ i.tdiv (8 : Int), (i.tdiv (8 : Int)).toNat < 4, 0 + (i.tdiv (8 : Int)).toNat * 1 < 4, (8 : Int) ≠ (0 : Int), inI64 ((8 : Int) * i.tmod (8 : Int)), (0 : Int) ≤ (8 : Int) * i.tmod (8 : Int), (0 : Int) ≤ i, i.toNat < 32, 0 + i.toNat * 1 < 32, inI64 (i + (1 : Int))]) := by kernel_rfl
theorem bytesExit (a : N4) (l : List (BitVec 8)) (i : Int) : roundS Try.prog (lookG []) (orcA [(3, [(0, false)])]) [] 10 bytesTd (bodyAt Try.prog 50 3) (bytesInv a l i) =
    some (Ex.exit 0, St.mk (slotsOf 25 [(1, sc (IV.ptr 0 0)), (3, sc (IV.sl 1 0 32)), (7, sc (IV.i64 (32 : Int))), (8, sc (IV.i64 i))]) [(0, Blk.mk true [IV.n4 a]), (1, Blk.mk true [IV.v8 32 l])] 16, [decide (i < (32 : Int)) = false]) := by kernel_rfl
theorem runBytes (a : N4) (l : List (BitVec 8)) (i : Int) : fnS Try.prog (lookG []) (orcA []) [⟨3, bytesTd, .exit 0, bytesInv a l i⟩] 10 50 [.val true [.n4 a]] =
    some (sc (IV.d8 (cutL l 0 32 32)), [(0 : Int) ≤ (32 : Int), (0 : Int) ≤ (32 : Int), 32 = 32 ∧ 32 ≤ 281474976710656 ∧ 32 ≤ 9223372036854775807, LoopTo Try.prog (bodyAt Try.prog 50 3) (St.mk (slotsOf 25 [(1, sc (IV.ptr 0 0)), (3, sc (IV.sl 1 0 32)), (7, sc (IV.i64 (32 : Int))), (8, sc (IV.i64 (0 : Int)))]) [(0, Blk.mk true [IV.n4 a]), (1, Blk.mk true [IV.v8 32 (List.replicate 32 (BitVec.ofNat 8 0))])] 16) (Ex.exit 0) (St.mk (slotsOf 25 [(1, sc (IV.ptr 0 0)), (3, sc (IV.sl 1 0 32)), (7, sc (IV.i64 (32 : Int))), (8, sc (IV.i64 i))]) [(0, Blk.mk true [IV.n4 a]), (1, Blk.mk true [IV.v8 32 l])] 16), 32 ≤ 32]) := by kernel_rfl

theorem tdiv8 (n : Nat) : ((n : Int)).tdiv 8 = ((n / 8 : Nat) : Int) := (Int.ofNat_tdiv n 8).symm
theorem tmod8 (n : Nat) : ((n : Int)).tmod 8 = ((n % 8 : Nat) : Int) := (Int.ofNat_tmod n 8).symm
theorem mul8 (n : Nat) : ((8 : Int) * (n : Nat)).toNat = 8 * n := by omega
theorem bytesLoop (a : N4) : LoopTo Try.prog (bodyAt Try.prog 50 3) (bytesInv a (List.replicate 32 0#8) 0) (.exit 0) (bytesInv a (bl (val a) 32) 32) := by
  rw [← fill_zero (val a), ← fill_all]
  refine LoopTo.intro (α := Nat × List (BitVec 8)) gs0 fol (fun s => bytesInv a s.2 (s.1 : Nat)) (fun s => s.1 ≤ 32 ∧ s.2 = fill (val a) 32 s.1) (fun s => 32 - s.1) (by simp) ?_ (0, _) ⟨by simp, rfl⟩
  rintro ⟨i, l⟩ ⟨hi, hl⟩
  dsimp only at hi hl ⊢
  subst hl
  by_cases he : i = 32
  · subst he
    exact .inr ⟨_, _, _, _, _, bytesExit a _ _, by simp, trivial⟩
  · refine .inl ⟨_, _, _, _, _, (i + 1, _), bytesRound a _ _, ?_, ⟨by simp only; omega, ?_⟩, by simp only; omega⟩
    · simp only [AllP, inI64, decide_eq_true_eq, tdiv8, tmod8]
      and_intros <;> first | omega | trivial
    · simp only [tdiv8, tmod8, mul8, Int.toNat_natCast, Nat.zero_add, Nat.mul_one]
      rw [byte_of a (by omega), fill_set _ (by omega)]
def spBytes : List AV → Option (AV × List Prop)
  | [.val true [.n4 a]] => some (sc (.d8 (bl (val a) 32)), [])
  | _ => none
theorem ctBytes : CtSOk Try.prog 50 (.fn spBytes) := FnS_of_fnS gs0 fol fun ds r cs h hc => by
  unfold spBytes at h
  split at h
  case h_2 => simp at h
  rename_i a
  simp only [Option.some.injEq, Prod.mk.injEq] at h
  obtain ⟨rfl, rfl⟩ := h
  refine use_run (runBytes a (bl (val a) 32) 32) ?_ ⟨by omega, by omega, by omega, bytesLoop a, by omega, trivial⟩
  have := cutL_eqn (bl_length (val a) 32).symm
  rw [bl_length] at this
  rw [this]

/-! ### A number out of bytes -/
def fromTd : List Nat := [2, 4, 11, 12, 13]
def fromInv (b : List (BitVec 8)) (z n : N4) (i : Int) : St := ⟨slotsOf 32 [(2, sc (.ptr 0 0)), (4, sc (.ptr 1 0)), (11, sc (.sl 2 0 b.length)), (12, sc (.i64 (b.length : Int))), (13, sc (.i64 i))], [(0, ⟨true, [.n4 z]⟩), (1, ⟨true, [.n4 n]⟩), (2, ⟨false, [.v8 b.length b]⟩)], 16⟩
theorem fromRound (b : List (BitVec 8)) (z n : N4) (i : Int) : roundS Try.prog (lookG []) (orcA [(5, [(0, true)])]) [] 10 fromTd (bodyAt Try.prog 45 5) (fromInv b z n i) =
    some (Ex.normal, St.mk (slotsOf 32 [(2, sc (IV.ptr 0 0)), (4, sc (IV.ptr 1 0)), (11, sc (IV.sl 2 0 b.length)), (12, sc (IV.i64 (↑b.length : Int))), (13, sc (IV.i64 (i + (1 : Int))))]) [(0, Blk.mk true [IV.n4 z]), (1, Blk.mk true [IV.n4 (n.set (0 + (i.tdiv (8 : Int)).toNat * 1) (n.get (0 + (i.tdiv (8 : Int)).toNat * 1) ||| BitVec.setWidth 64 (b.getD (0 + i.toNat * 1) (BitVec.ofNat 8 0)) <<< ((8 : Int) * i.tmod (8 : Int)).toNat))]), (2, Blk.mk false [IV.v8 b.length b])] 16, [decide (i < (↑b.length : Int)) = true, (0 : Int) ≤ i, i.toNat < b.length, 0 + i.toNat * 1 < b.length, (8 : Int) ≠ (0 : Int), inI64 (i.tdiv (8 : Int)), (0 : Int) ≤ i.tdiv (8 : Int), (i.tdiv (8 : Int)).toNat < 4, 0 + (i.tdiv (8 : Int)).toNat * 1 < 4, (8 : Int) ≠ (0 : Int), inI64 ((8 : Int) * i.tmod (8 : Int)), (0 : Int) ≤ (8 : Int) * i.tmod (8 : Int), (0 : Int) ≤ i.tdiv (8 : Int), (i.tdiv (8 : Int)).toNat < 4, 0 + (i.tdiv (8 : Int)).toNat * 1 < 4, inI64 (i + (1 : Int))]) := by kernel_rfl
theorem fromExit (b : List (BitVec 8)) (z n : N4) (i : Int) : roundS Try.prog (lookG []) (orcA [(5, [(0, false)])]) [] 10 fromTd (bodyAt Try.prog 45 5) (fromInv b z n i) =
    some (Ex.exit 0, St.mk (slotsOf 32 [(2, sc (IV.ptr 0 0)), (4, sc (IV.ptr 1 0)), (11, sc (IV.sl 2 0 b.length)), (12, sc (IV.i64 (↑b.length : Int))), (13, sc (IV.i64 i))]) [(0, Blk.mk true [IV.n4 z]), (1, Blk.mk true [IV.n4 n]), (2, Blk.mk false [IV.v8 b.length b])] 16, [decide (i < (↑b.length : Int)) = false]) := by kernel_rfl
theorem runFrom (b : List (BitVec 8)) (z n : N4) (i : Int) : fnS Try.prog (lookG []) (orcA [(1, [(2, false)])]) [⟨5, fromTd, .exit 0, fromInv b z n i⟩] 10 45 [sc (.d8 b)] =
    some (AV.tup [(true, [IV.n4 n]), (false, [IV.i64 (0 : Int)])], [decide ((32 : Int) < (↑b.length : Int)) = false, LoopTo Try.prog (bodyAt Try.prog 45 5) (St.mk (slotsOf 32 [(2, sc (IV.ptr 0 0)), (4, sc (IV.ptr 1 0)), (11, sc (IV.sl 2 0 b.length)), (12, sc (IV.i64 (↑b.length : Int))), (13, sc (IV.i64 (0 : Int)))]) [(0, Blk.mk true [IV.n4 (N4.mk (BitVec.ofNat 64 0) (BitVec.ofNat 64 0) (BitVec.ofNat 64 0) (BitVec.ofNat 64 0))]), (1, Blk.mk true [IV.n4 (N4.mk (BitVec.ofNat 64 0) (BitVec.ofNat 64 0) (BitVec.ofNat 64 0) (BitVec.ofNat 64 0))]), (2, Blk.mk false [IV.v8 b.length b])] 16) (Ex.exit 0) (St.mk (slotsOf 32 [(2, sc (IV.ptr 0 0)), (4, sc (IV.ptr 1 0)), (11, sc (IV.sl 2 0 b.length)), (12, sc (IV.i64 (↑b.length : Int))), (13, sc (IV.i64 i))]) [(0, Blk.mk true [IV.n4 z]), (1, Blk.mk true [IV.n4 n]), (2, Blk.mk false [IV.v8 b.length b])] 16)]) := by kernel_rfl
theorem runFrom1 (b : List (BitVec 8)) : fnS Try.prog (lookG []) (orcA [(1, [(2, true)])]) [] 10 45 [sc (.d8 b)] =
    some (AV.tup [(true, [IV.n4 (N4.mk (BitVec.ofNat 64 0) (BitVec.ofNat 64 0) (BitVec.ofNat 64 0) (BitVec.ofNat 64 0))]), (false, [IV.i64 (2 : Int)])], [decide ((32 : Int) < (↑b.length : Int)) = true]) := by kernel_rfl
def dblInv (b : List (BitVec 8)) (z y n m : N4) (i : Int) : St := ⟨slotsOf 32 [(2, sc (.ptr 0 0)), (4, sc (.ptr 1 0)), (11, sc (.sl 2 0 b.length)), (12, sc (.i64 (b.length : Int))), (13, sc (.i64 i))], [(0, ⟨true, [.n4 z, .n4 y]⟩), (1, ⟨true, [.n4 n, .n4 m]⟩), (2, ⟨false, [.v8 b.length b]⟩)], 16⟩
theorem ofN_take0 (b : List (BitVec 8)) : ofN (bv (b.take 0)) = ⟨0#64, 0#64, 0#64, 0#64⟩ := by
  rw [List.take_zero]
  rfl
theorem ofN_take0' (b : List (BitVec 8)) : ofN (bv (b.take 0) / p256) = ⟨0#64, 0#64, 0#64, 0#64⟩ := by
  rw [List.take_zero]
  rfl
theorem fromLoop (b : List (BitVec 8)) (hb : b.length ≤ 32) : LoopTo Try.prog (bodyAt Try.prog 45 5) (fromInv b ⟨0#64, 0#64, 0#64, 0#64⟩ ⟨0#64, 0#64, 0#64, 0#64⟩ 0) (.exit 0) (fromInv b ⟨0#64, 0#64, 0#64, 0#64⟩ (ofN (bv b)) (b.length : Nat)) := by
  have e : ofN (bv b) = ofN (bv (b.take b.length)) := by rw [List.take_length]
  rw [e]
  refine LoopTo.intro (α := Nat × N4) gs0 fol (fun s => fromInv b ⟨0#64, 0#64, 0#64, 0#64⟩ s.2 (s.1 : Nat)) (fun s => s.1 ≤ b.length ∧ s.2 = ofN (bv (b.take s.1))) (fun s => b.length - s.1) (by simp) ?_ (0, _) ⟨by simp, (ofN_take0 b).symm⟩
  rintro ⟨i, n⟩ ⟨hi, hn⟩
  dsimp only at hi hn ⊢
  subst hn
  by_cases he : i = b.length
  · subst he
    exact .inr ⟨_, _, _, _, _, fromExit b _ _ _, by simp, trivial⟩
  · refine .inl ⟨_, _, _, _, _, (i + 1, _), fromRound b _ _ _, ?_, ⟨by simp only; omega, ?_⟩, by simp only; omega⟩
    · simp only [AllP, inI64, decide_eq_true_eq, tdiv8, tmod8]
      and_intros <;> first | omega | trivial
    · simp only [tdiv8, tmod8, mul8, Int.toNat_natCast, Nat.zero_add, Nat.mul_one]
      exact from_step b (by omega) (by omega)
def fromV (b : List (BitVec 8)) : N4 × Int := if b.length ≤ 32 then (ofN (bv b), 0) else (⟨0#64, 0#64, 0#64, 0#64⟩, 2)
def spFrom : List AV → Option (AV × List Prop)
  | [.val false [.d8 b]] => some (.tup [(true, [.n4 (fromV b).1]), (false, [.i64 (fromV b).2])], [])
  | _ => none
theorem ctFrom : CtSOk Try.prog 45 (.fn spFrom) := FnS_of_fnS gs0 fol fun ds r cs h hc => by
  unfold spFrom at h
  split at h
  case h_2 => simp at h
  rename_i b
  simp only [Option.some.injEq, Prod.mk.injEq] at h
  obtain ⟨rfl, rfl⟩ := h
  by_cases hb : b.length ≤ 32
  · refine use_run (runFrom b ⟨0#64, 0#64, 0#64, 0#64⟩ (ofN (bv b)) (b.length : Nat)) ?_ ⟨by simp; omega, fromLoop b hb, trivial⟩
    simp only [fromV, if_pos hb]
  · refine use_run (runFrom1 b) ?_ ⟨by simp; omega, trivial⟩
    simp only [fromV, if_neg hb]
def dblV (b : List (BitVec 8)) : N4 × N4 × Int := if b.length ≤ 64 then (ofN (bv b), ofN (bv b / p256), 0) else (⟨0#64, 0#64, 0#64, 0#64⟩, ⟨0#64, 0#64, 0#64, 0#64⟩, 2)
def spDbl : List AV → Option (AV × List Prop)
  | [.val false [.d8 b]] => some (.tup [(true, [.n4 (dblV b).1, .n4 (dblV b).2.1]), (false, [.i64 (dblV b).2.2])], [])
  | _ => none
/-! ### The document's bit -/
def rbitTd : List Nat := [1, 5, 6]
def rbitInv (i d k : Int) : St := ⟨slotsOf 29 [(1, sc (.i64 i)), (5, sc (.i64 d)), (6, sc (.i64 k))], [], 16⟩
def spRBit : List AV → Option (AV × List Prop)
  | [.val true [.n4 a], .val false [.i64 i]] => some (sc (.u64 (bitN a i)), [])
  | _ => none
theorem dig_bit (a : N4) (k : Nat) : dig (val a) (k / 8) / 2 ^ (k % 8) % 2 = val a / 2 ^ k % 2 := by
  have e : k = 8 * (k / 8) + k % 8 := (Nat.div_add_mod k 8).symm
  unfold dig
  have e2 : val a / 2 ^ k = val a / 256 ^ (k / 8) / 2 ^ (k % 8) := by
    rw [Nat.div_div_eq_div_mul, ← pow8, ← Nat.pow_add, ← e]
  rw [e2]
  generalize val a / 256 ^ (k / 8) = y
  have h8 : k % 8 < 8 := Nat.mod_lt _ (by omega)
  generalize k % 8 = n at *
  match n, h8 with
  | 0, _ => simp only [show 2 ^ 0 = 1 from rfl]; omega
  | 1, _ => simp only [show 2 ^ 1 = 2 from rfl]; omega
  | 2, _ => simp only [show 2 ^ 2 = 4 from rfl]; omega
  | 3, _ => simp only [show 2 ^ 3 = 8 from rfl]; omega
  | 4, _ => simp only [show 2 ^ 4 = 16 from rfl]; omega
  | 5, _ => simp only [show 2 ^ 5 = 32 from rfl]; omega
  | 6, _ => simp only [show 2 ^ 6 = 64 from rfl]; omega
  | 7, _ => simp only [show 2 ^ 7 = 128 from rfl]; omega
/-! ### A double number's digits -/
def wordsTd : List Nat := [4, 5]
def wordsInv (b : N4) (n : Nat) (l : List Int) : St := ⟨slotsOf 41 [(4, sc (.ptr 0 0)), (5, sc (.sl 1 0 n))], [(0, ⟨true, [.n4 b]⟩), (1, ⟨true, [.vi l.length l]⟩)], 16⟩
theorem dg_ne {n : Nat} (h : n ≠ 0) : dg n ≠ [] := by rw [dg_pos h]; simp
theorem dg_last : ∀ n, n ≠ 0 → (dg n).getD ((dg n).length - 1) 0 ≠ 0 := by
  intro n
  induction n using Nat.strongRecOn with
  | _ n ih =>
    intro h
    rw [dg_pos h]
    by_cases h2 : n / 256 = 0
    · rw [h2, dg_zero]
      simp
      omega
    · have := ih (n / 256) (by omega) h2
      have hne : 0 < (dg (n / 256)).length := List.length_pos_iff.2 (dg_ne h2)
      obtain ⟨m, hm⟩ : ∃ m, (dg (n / 256)).length = m + 1 := ⟨(dg (n / 256)).length - 1, by omega⟩
      rw [hm] at this
      simp only [List.length_cons, hm, Nat.add_sub_cancel, List.getD_cons_succ]
      exact this
theorem append_dg {l : List Int} (hl : IsD l) {n : Nat} (h : n ≠ 0) : l ++ dg n = dg (nv l + 256 ^ l.length * n) := by
  have e : nv (l ++ dg n) = nv l + 256 ^ l.length * n := by rw [nv_append, nv_dg]
  rw [← e]
  refine eq_dg (IsD_append hl (dg_D n)) (.inr ?_)
  have h1 := dg_last n h
  have h0 : 0 < (dg n).length := List.length_pos_iff.2 (dg_ne h)
  rw [List.getD_eq_getElem?_getD] at h1 ⊢
  rw [List.length_append, List.getElem?_append_right (by omega)]
  have : l.length + (dg n).length - 1 - l.length = (dg n).length - 1 := by omega
  rw [this]
  exact h1
theorem nv_pad (l : List Int) (n : Nat) : nv (l ++ List.replicate n 0) = nv l := by rw [nv_append, nv_replicate]; omega
theorem val_len (a : N4) : (dg (val a)).length ≤ 32 := dg_length_le (val_lt' a)
def wpad (a : N4) (n : Nat) : List Int := dg (val a) ++ List.replicate (n - (dg (val a)).length) 0
def spWords : List AV → Option (AV × List Prop)
  | [.val true [.n4 a, .n4 b]] => some (sc (.dI (dg (val a + p256 * val b))), [])
  | _ => none
def spNWords : List AV → Option (AV × List Prop)
  | [.val true [.n4 a, .n4 b]] => some (sc (.dN (val a + p256 * val b)), [])
  | _ => none
end Go.Proofs.Ytmedjfcmkalblaa
/- Products and rests of digits, plainly. Own work; no program in sight. -/
namespace Go.Sp
open Go.Proofs.Ytmedjfcmkalblaa (trimFrom trimFrom_le)
open Go.Ev (dg nv)

theorem nv_set : ∀ {l : List Int} {j : Nat} (d : Int), j < l.length → nv (l.set j d) + 256 ^ j * (l.getD j 0).toNat = nv l + 256 ^ j * d.toNat := by
  intro l
  induction l with
  | nil => intro j d h; simp at h
  | cons a l ih =>
    intro j d h
    cases j with
    | zero => simp [nv]; omega
    | succ j =>
      have := ih (j := j) d (by simpa using h)
      simp only [List.set_cons_succ, nv, List.getD_cons_succ]
      rw [Nat.pow_succ, Nat.mul_comm (256 ^ j) 256, Nat.mul_assoc, Nat.mul_assoc]
      omega
theorem IsD_set {l : List Int} (h : IsD l) (j : Nat) {d : Nat} (hd : d < 256) : IsD (l.set j (d : Int)) := fun x hx => by
  rcases List.mem_or_eq_of_mem_set hx with hx | rfl
  · exact h x hx
  · omega
theorem eq_dl {l : List Int} (h : IsD l) : l = dl (nv l) l.length := by
  obtain ⟨h1, h2, h3⟩ := dl_ok (nv l) l.length
  rw [Nat.mod_eq_of_lt (nv_lt h)] at h3
  refine List.ext_getElem h1.symm fun i hi hi' => ?_
  have a := getD_dig h i
  have b := getD_dig h2 i
  rw [h3] at b
  simp only [List.getD_eq_getElem?_getD, List.getElem?_eq_getElem hi, List.getElem?_eq_getElem hi', Option.getD_some] at a b
  rw [a, b]

/-- One step of a row of a product. -/
structure MulOk (a b N i k : Nat) (out : List Int) (c : Nat) : Prop where
  len : out.length = N
  digs : IsD out
  carry : c ≤ 255
  val : nv out + 256 ^ (i + k) * c = a % 256 ^ i * b + 256 ^ i * (dig a i * (b % 256 ^ k))
theorem mul_step {a b N i k c : Nat} {out : List Int} (h : MulOk a b N i k out c) (hk : i + k < N) :
    MulOk a b N i (k + 1) (out.set (i + k) (((dig (nv out) (i + k) + dig a i * dig b k + c) % 256 : Nat) : Int)) ((dig (nv out) (i + k) + dig a i * dig b k + c) / 256) := by
  obtain ⟨h1, h2, h3, h4⟩ := h
  have hx := dig_lt (nv out) (i + k)
  have hy := dig_lt a i
  have hz := dig_lt b k
  have hm : dig a i * dig b k ≤ 255 * 255 := Nat.mul_le_mul (by omega) (by omega)
  refine ⟨by simp [h1], IsD_set h2 _ (Nat.mod_lt _ (by omega)), by omega, ?_⟩
  have hs := nv_set (l := out) (j := i + k) (((dig (nv out) (i + k) + dig a i * dig b k + c) % 256 : Nat) : Int) (by omega)
  rw [getD_dig h2, Int.toNat_natCast, Int.toNat_natCast] at hs
  have e1 : b % 256 ^ (k + 1) = b % 256 ^ k + 256 ^ k * dig b k := mod_succ b k
  have e2 : 256 ^ i * (dig a i * (b % 256 ^ (k + 1))) = 256 ^ i * (dig a i * (b % 256 ^ k)) + 256 ^ (i + k) * (dig a i * dig b k) := by
    rw [e1, Nat.mul_add, Nat.mul_add, Nat.pow_add]
    congr 1
    ac_rfl
  rw [e2]
  have e3 : 256 ^ (i + (k + 1)) = 256 ^ (i + k) * 256 := by rw [← Nat.add_assoc, Nat.pow_succ]
  rw [e3]
  generalize dig (nv out) (i + k) = x at *
  generalize dig a i * dig b k = y at *
  generalize 256 ^ (i + k) = p at *
  have e4 : p * 256 * ((x + y + c) / 256) + p * ((x + y + c) % 256) = p * (x + y + c) := by
    rw [Nat.mul_assoc, ← Nat.mul_add, Nat.div_add_mod]
  have e5 : p * (x + y + c) = p * x + p * y + p * c := by rw [Nat.mul_add, Nat.mul_add]
  omega
theorem mul_row {a b i k : Nat} (hk : b < 256 ^ k) : a % 256 ^ i * b + 256 ^ i * (dig a i * (b % 256 ^ k)) = a % 256 ^ (i + 1) * b := by
  rw [Nat.mod_eq_of_lt hk, mod_succ, Nat.add_mul, Nat.mul_assoc]
theorem mul_more {a b N i k c lb : Nat} {out : List Int} (h : MulOk a b N i k out c) (hb : b < 256 ^ lb) (hk : lb ≤ k) (hc : 0 < c) : k ≤ lb := by
  have hbk : b < 256 ^ k := Nat.lt_of_lt_of_le hb (Nat.pow_le_pow_right (by omega) hk)
  have h4 := h.val
  rw [mul_row hbk] at h4
  have h5 : a % 256 ^ (i + 1) * b < 256 ^ (i + 1) * 256 ^ lb := Nat.mul_lt_mul'' (Nat.mod_lt _ (Nat.pow_pos (by omega))) hb
  rw [← Nat.pow_add] at h5
  have h6 : 256 ^ (i + k) * 1 ≤ 256 ^ (i + k) * c := Nat.mul_le_mul_left _ hc
  rcases Nat.lt_or_ge lb k with h7 | h7
  · have : 256 ^ (i + 1 + lb) ≤ 256 ^ (i + k) := Nat.pow_le_pow_right (by omega) (by omega)
    omega
  · exact h7
theorem mul_done {a b N i k lb : Nat} {out : List Int} (h : MulOk a b N i k out 0) (hb : b < 256 ^ lb) (hk : lb ≤ k) : out = dl (a % 256 ^ (i + 1) * b) N := by
  have hbk : b < 256 ^ k := Nat.lt_of_lt_of_le hb (Nat.pow_le_pow_right (by omega) hk)
  have h4 := h.val
  rw [mul_row hbk, Nat.mul_zero, Nat.add_zero] at h4
  have := eq_dl h.digs
  rw [h4, h.len] at this
  exact this
theorem mul_start {a b N i : Nat} (hlt : a % 256 ^ i * b < 256 ^ N) : MulOk a b N i 0 (dl (a % 256 ^ i * b) N) 0 := by
  obtain ⟨h1, h2, h3⟩ := dl_ok (a % 256 ^ i * b) N
  refine ⟨h1, h2, by omega, ?_⟩
  rw [h3, Nat.mod_eq_of_lt hlt]
  simp [Nat.mod_one]
theorem dl_zero : ∀ n, dl 0 n = List.replicate n 0
  | 0 => rfl
  | n + 1 => by simp only [dl, dl_zero n, List.replicate_succ']; simp [dig]

/-- A digit more ahead of what is left. -/
theorem left_next (a m k : Nat) : (dig a k + 256 * (a / 256 ^ (k + 1) % m)) % m = a / 256 ^ k % m := by
  have e : a / 256 ^ k = dig a k + 256 * (a / 256 ^ (k + 1)) := by
    rw [Nat.pow_succ, ← Nat.div_div_eq_div_mul]
    unfold dig
    omega
  rw [e, Nat.add_mod, Nat.mul_mod, Nat.mod_mod, ← Nat.mul_mod, ← Nat.add_mod]
end Go.Sp
/- Contracts of the document's products and rests. Own work. -/
namespace Go.Proofs.Ytmedjfcmkalblaa
open Go.Ev Go.Sp Go.RowKit
set_option maxRecDepth 100000

/-! ### Products -/
def timesTd : List Nat := [0, 1, 5, 6]
def timesTd2 : List Nat := [0, 1, 5, 6, 7, 8]
def timesInv (a b N : Nat) (out : List Int) (i : Int) : St := ⟨slotsOf 61 [(0, sc (.sl 0 0 (dg a).length)), (1, sc (.sl 1 0 (dg b).length)), (5, sc (.sl 2 0 N)), (6, sc (.i64 i))],
  [(0, ⟨false, [.vd a]⟩), (1, ⟨false, [.vd b]⟩), (2, ⟨true, [.vi N out]⟩)], 16⟩
def timesInv2 (a b N : Nat) (out : List Int) (i c k : Int) : St := ⟨slotsOf 61 [(0, sc (.sl 0 0 (dg a).length)), (1, sc (.sl 1 0 (dg b).length)), (5, sc (.sl 2 0 N)), (6, sc (.i64 i)), (7, sc (.i64 c)), (8, sc (.i64 k))],
  [(0, ⟨false, [.vd a]⟩), (1, ⟨false, [.vd b]⟩), (2, ⟨true, [.vi N out]⟩)], 16⟩
theorem timesRoundA (a b N : Nat) (out : List Int) (i c k : Int) : roundS Try.prog (lookG tblN) (orcA [(7, [(3, true)])]) [] 10 timesTd2 (bodyAt Try.prog 39 7) (timesInv2 a b N out i c k) =
    some (Ex.normal, St.mk (slotsOf 61 [(0, sc (IV.sl 0 0 (dg a).length)), (1, sc (IV.sl 1 0 (dg b).length)), (5, sc (IV.sl 2 0 N)), (6, sc (IV.i64 i)), (7, sc (IV.i64 ((out.getD (0 + (i + k).toNat * 1) (0 : Int) + (dg a).getD (0 + i.toNat * 1) (0 : Int) * (↑(dig b k.toNat) : Int) + c).tdiv (256 : Int)))), (8, sc (IV.i64 (k + (1 : Int))))]) [(0, Blk.mk false [IV.vd a]), (1, Blk.mk false [IV.vd b]), (2, Blk.mk true [IV.vi N (out.set (0 + (i + k).toNat * 1) ((out.getD (0 + (i + k).toNat * 1) (0 : Int) + (dg a).getD (0 + i.toNat * 1) (0 : Int) * (↑(dig b k.toNat) : Int) + c).tmod (256 : Int)))])] 16, [decide (k < (↑(dg b).length : Int)) = true, inI64 (i + k), (0 : Int) ≤ i + k, (i + k).toNat < N, 0 + (i + k).toNat * 1 < N, (0 : Int) ≤ i, i.toNat < (dg a).length, 0 + i.toNat * 1 < (dg a).length, (dg b).length = (dg b).length, (0 : Int) ≤ k, inI64 ((dg a).getD (0 + i.toNat * 1) (0 : Int) * (↑(dig b k.toNat) : Int)), inI64 (out.getD (0 + (i + k).toNat * 1) (0 : Int) + (dg a).getD (0 + i.toNat * 1) (0 : Int) * (↑(dig b k.toNat) : Int)), inI64 (out.getD (0 + (i + k).toNat * 1) (0 : Int) + (dg a).getD (0 + i.toNat * 1) (0 : Int) * (↑(dig b k.toNat) : Int) + c), inI64 (i + k), (256 : Int) ≠ (0 : Int), (0 : Int) ≤ i + k, (i + k).toNat < N, 0 + (i + k).toNat * 1 < N, (256 : Int) ≠ (0 : Int), inI64 ((out.getD (0 + (i + k).toNat * 1) (0 : Int) + (dg a).getD (0 + i.toNat * 1) (0 : Int) * (↑(dig b k.toNat) : Int) + c).tdiv (256 : Int)), inI64 (k + (1 : Int))]) := by kernel_rfl
theorem timesRoundB (a b N : Nat) (out : List Int) (i c k : Int) : roundS Try.prog (lookG tblN) (orcA [(7, [(3, false), (6, true)])]) [] 10 timesTd2 (bodyAt Try.prog 39 7) (timesInv2 a b N out i c k) =
    some (Ex.normal, St.mk (slotsOf 61 [(0, sc (IV.sl 0 0 (dg a).length)), (1, sc (IV.sl 1 0 (dg b).length)), (5, sc (IV.sl 2 0 N)), (6, sc (IV.i64 i)), (7, sc (IV.i64 ((out.getD (0 + (i + k).toNat * 1) (0 : Int) + (dg a).getD (0 + i.toNat * 1) (0 : Int) * (↑(dig b k.toNat) : Int) + c).tdiv (256 : Int)))), (8, sc (IV.i64 (k + (1 : Int))))]) [(0, Blk.mk false [IV.vd a]), (1, Blk.mk false [IV.vd b]), (2, Blk.mk true [IV.vi N (out.set (0 + (i + k).toNat * 1) ((out.getD (0 + (i + k).toNat * 1) (0 : Int) + (dg a).getD (0 + i.toNat * 1) (0 : Int) * (↑(dig b k.toNat) : Int) + c).tmod (256 : Int)))])] 16, [decide (k < (↑(dg b).length : Int)) = false, decide ((0 : Int) < c) = true, inI64 (i + k), (0 : Int) ≤ i + k, (i + k).toNat < N, 0 + (i + k).toNat * 1 < N, (0 : Int) ≤ i, i.toNat < (dg a).length, 0 + i.toNat * 1 < (dg a).length, (dg b).length = (dg b).length, (0 : Int) ≤ k, inI64 ((dg a).getD (0 + i.toNat * 1) (0 : Int) * (↑(dig b k.toNat) : Int)), inI64 (out.getD (0 + (i + k).toNat * 1) (0 : Int) + (dg a).getD (0 + i.toNat * 1) (0 : Int) * (↑(dig b k.toNat) : Int)), inI64 (out.getD (0 + (i + k).toNat * 1) (0 : Int) + (dg a).getD (0 + i.toNat * 1) (0 : Int) * (↑(dig b k.toNat) : Int) + c), inI64 (i + k), (256 : Int) ≠ (0 : Int), (0 : Int) ≤ i + k, (i + k).toNat < N, 0 + (i + k).toNat * 1 < N, (256 : Int) ≠ (0 : Int), inI64 ((out.getD (0 + (i + k).toNat * 1) (0 : Int) + (dg a).getD (0 + i.toNat * 1) (0 : Int) * (↑(dig b k.toNat) : Int) + c).tdiv (256 : Int)), inI64 (k + (1 : Int))]) := by kernel_rfl
theorem timesExit2 (a b N : Nat) (out : List Int) (i c k : Int) : roundS Try.prog (lookG tblN) (orcA [(7, [(3, false), (6, false)])]) [] 10 timesTd (bodyAt Try.prog 39 7) (timesInv2 a b N out i c k) =
    some (Ex.exit 2, St.mk (slotsOf 61 [(0, sc (IV.sl 0 0 (dg a).length)), (1, sc (IV.sl 1 0 (dg b).length)), (5, sc (IV.sl 2 0 N)), (6, sc (IV.i64 i))]) [(0, Blk.mk false [IV.vd a]), (1, Blk.mk false [IV.vd b]), (2, Blk.mk true [IV.vi N out])] 16, [decide (k < (↑(dg b).length : Int)) = false, decide ((0 : Int) < c) = false]) := by kernel_rfl
theorem timesRound (a b N : Nat) (out out2 : List Int) (i : Int) : roundS Try.prog (lookG tblN) (orcA [(3, [(3, true)])]) [⟨7, timesTd2, .exit 2, timesInv a b N out2 i⟩] 10 timesTd (bodyAt Try.prog 39 3) (timesInv a b N out i) =
    some (Ex.normal, St.mk (slotsOf 61 [(0, sc (IV.sl 0 0 (dg a).length)), (1, sc (IV.sl 1 0 (dg b).length)), (5, sc (IV.sl 2 0 N)), (6, sc (IV.i64 (i + (1 : Int))))]) [(0, Blk.mk false [IV.vd a]), (1, Blk.mk false [IV.vd b]), (2, Blk.mk true [IV.vi N out2])] 16, [decide (i < (↑(dg a).length : Int)) = true, LoopTo Try.prog (bodyAt Try.prog 39 7) (St.mk (slotsOf 61 [(0, sc (IV.sl 0 0 (dg a).length)), (1, sc (IV.sl 1 0 (dg b).length)), (5, sc (IV.sl 2 0 N)), (6, sc (IV.i64 i)), (7, sc (IV.i64 (0 : Int))), (8, sc (IV.i64 (0 : Int)))]) [(0, Blk.mk false [IV.vd a]), (1, Blk.mk false [IV.vd b]), (2, Blk.mk true [IV.vi N out])] 16) (Ex.exit 2) (St.mk (slotsOf 61 [(0, sc (IV.sl 0 0 (dg a).length)), (1, sc (IV.sl 1 0 (dg b).length)), (5, sc (IV.sl 2 0 N)), (6, sc (IV.i64 i))]) [(0, Blk.mk false [IV.vd a]), (1, Blk.mk false [IV.vd b]), (2, Blk.mk true [IV.vi N out2])] 16), inI64 (i + (1 : Int))]) := by kernel_rfl
theorem timesExit (a b N : Nat) (out : List Int) (i : Int) : roundS Try.prog (lookG tblN) (orcA [(3, [(3, false)])]) [] 10 timesTd (bodyAt Try.prog 39 3) (timesInv a b N out i) =
    some (Ex.exit 0, St.mk (slotsOf 61 [(0, sc (IV.sl 0 0 (dg a).length)), (1, sc (IV.sl 1 0 (dg b).length)), (5, sc (IV.sl 2 0 N)), (6, sc (IV.i64 i))]) [(0, Blk.mk false [IV.vd a]), (1, Blk.mk false [IV.vd b]), (2, Blk.mk true [IV.vi N out])] 16, [decide (i < (↑(dg a).length : Int)) = false]) := by kernel_rfl
theorem runTimes (a b N : Nat) (out : List Int) (i : Int) : fnS Try.prog (lookG tblN) (orcA []) [⟨3, timesTd, .exit 0, timesInv a b N out i⟩] 10 39 [sc (.dN a), sc (.dN b)] =
    some (sc (IV.dI (cutL out 0 (trimFrom out out.length) N)), [inI64 ((↑(dg a).length : Int) + (↑(dg b).length : Int)), inI64 ((↑(dg a).length : Int) + (↑(dg b).length : Int) + (1 : Int)), (0 : Int) ≤ (↑(dg a).length : Int) + (↑(dg b).length : Int) + (1 : Int), (0 : Int) ≤ (↑(dg a).length : Int) + (↑(dg b).length : Int) + (1 : Int), ((↑(dg a).length : Int) + (↑(dg b).length : Int) + (1 : Int)).toNat = ((↑(dg a).length : Int) + (↑(dg b).length : Int) + (1 : Int)).toNat ∧ 8 * ((↑(dg a).length : Int) + (↑(dg b).length : Int) + (1 : Int)).toNat ≤ 281474976710656 ∧ ((↑(dg a).length : Int) + (↑(dg b).length : Int) + (1 : Int)).toNat ≤ 9223372036854775807, LoopTo Try.prog (bodyAt Try.prog 39 3) (St.mk (slotsOf 61 [(0, sc (IV.sl 0 0 (dg a).length)), (1, sc (IV.sl 1 0 (dg b).length)), (5, sc (IV.sl 2 0 ((↑(dg a).length : Int) + (↑(dg b).length : Int) + (1 : Int)).toNat)), (6, sc (IV.i64 (0 : Int)))]) [(0, Blk.mk false [IV.vd a]), (1, Blk.mk false [IV.vd b]), (2, Blk.mk true [IV.vi (List.replicate ((↑(dg a).length : Int) + (↑(dg b).length : Int) + (1 : Int)).toNat (0 : Int)).length (List.replicate ((↑(dg a).length : Int) + (↑(dg b).length : Int) + (1 : Int)).toNat (0 : Int))])] 16) (Ex.exit 0) (St.mk (slotsOf 61 [(0, sc (IV.sl 0 0 (dg a).length)), (1, sc (IV.sl 1 0 (dg b).length)), (5, sc (IV.sl 2 0 N)), (6, sc (IV.i64 i))]) [(0, Blk.mk false [IV.vd a]), (1, Blk.mk false [IV.vd b]), (2, Blk.mk true [IV.vi N out])] 16), N = N, out.length ≤ 1000000000, trimFrom out out.length ≤ N, 0 + trimFrom out out.length ≤ N]) := by kernel_rfl

theorem timesLoop2 (a b N i : Nat) (hi : i < (dg a).length) (hN : N = (dg a).length + (dg b).length + 1) (ha : (dg a).length ≤ 4000000) (hb : (dg b).length ≤ 4000000) (hlt : a % 256 ^ i * b < 256 ^ N) :
    LoopTo Try.prog (bodyAt Try.prog 39 7) (timesInv2 a b N (dl (a % 256 ^ i * b) N) (i : Nat) 0 0) (.exit 2) (timesInv a b N (dl (a % 256 ^ (i + 1) * b) N) (i : Nat)) := by
  have hbl := lt_of_dg b
  refine LoopTo.intro (α := Nat × List Int × Nat) gsN fol (fun s => timesInv2 a b N s.2.1 (i : Nat) (s.2.2 : Nat) (s.1 : Nat)) (fun s => MulOk a b N i s.1 s.2.1 s.2.2 ∧ s.1 ≤ (dg b).length + 1) (fun s => (dg b).length + 2 - s.1) (by simp) ?_ (0, _, 0) ⟨mul_start hlt, by simp⟩
  rintro ⟨k, out, c⟩ ⟨hm, hk⟩
  dsimp only at hm hk ⊢
  obtain ⟨h1, h2, h3, h4⟩ := id hm
  have hx := dig_lt (nv out) (i + k)
  have hy := dig_lt a i
  have hz := dig_lt b k
  have hmul : dig a i * dig b k ≤ 255 * 255 := Nat.mul_le_mul (by omega) (by omega)
  by_cases hlb : k < (dg b).length
  · have r := timesRoundA a b N out (i : Nat) (c : Nat) (k : Nat)
    simp only [← Int.natCast_add, Int.toNat_natCast, Nat.zero_add, Nat.mul_one, getD_dig h2, getD_dig (dg_D a), nv_dg, ← Int.natCast_mul, tmod_cast, tdiv_cast] at r
    refine .inl ⟨_, _, _, _, _, (k + 1, _, _), r, ?_, ⟨mul_step hm (by omega), by simp only; omega⟩, by simp only; omega⟩
    simp only [AllP, inI64, decide_eq_true_eq]
    generalize dig a i * dig b k = y at *
    and_intros <;> first | omega | trivial
  · by_cases hc : 0 < c
    · have hk2 := mul_more hm hbl (by omega) hc
      have r := timesRoundB a b N out (i : Nat) (c : Nat) (k : Nat)
      simp only [← Int.natCast_add, Int.toNat_natCast, Nat.zero_add, Nat.mul_one, getD_dig h2, getD_dig (dg_D a), nv_dg, ← Int.natCast_mul, tmod_cast, tdiv_cast] at r
      refine .inl ⟨_, _, _, _, _, (k + 1, _, _), r, ?_, ⟨mul_step hm (by omega), by simp only; omega⟩, by simp only; omega⟩
      simp only [AllP, inI64, decide_eq_true_eq, decide_eq_false_iff_not]
      generalize dig a i * dig b k = y at *
      and_intros <;> first | omega | trivial
    · have c0 : c = 0 := by omega
      subst c0
      have e := mul_done hm hbl (by omega)
      subst e
      exact .inr ⟨_, _, _, _, _, timesExit2 a b N _ (i : Nat) (0 : Nat) (k : Nat), decide_eq_false (by omega), decide_eq_false (by omega), trivial⟩
theorem times_lt (a b N i : Nat) (hN : N = (dg a).length + (dg b).length + 1) : a % 256 ^ i * b < 256 ^ N := by
  have h1 : a % 256 ^ i < 256 ^ (dg a).length := Nat.lt_of_le_of_lt (Nat.mod_le _ _) (lt_of_dg a)
  have h2 := Nat.mul_lt_mul'' h1 (lt_of_dg b)
  rw [← Nat.pow_add] at h2
  exact Nat.lt_of_lt_of_le h2 (Nat.pow_le_pow_right (by omega) (by omega))
theorem timesLoop (a b N : Nat) (hN : N = (dg a).length + (dg b).length + 1) (ha : (dg a).length ≤ 4000000) (hb : (dg b).length ≤ 4000000) :
    LoopTo Try.prog (bodyAt Try.prog 39 3) (timesInv a b N (List.replicate N 0) 0) (.exit 0) (timesInv a b N (dl (a * b) N) ((dg a).length : Nat)) := by
  have e0 : List.replicate N 0 = dl (a % 256 ^ 0 * b) N := by rw [Nat.pow_zero, Nat.mod_one, Nat.zero_mul, dl_zero]
  have e1 : a * b = a % 256 ^ (dg a).length * b := by rw [Nat.mod_eq_of_lt (lt_of_dg a)]
  rw [e1]
  refine LoopTo.intro (α := Nat × List Int) gsN fol (fun s => timesInv a b N s.2 (s.1 : Nat)) (fun s => s.1 ≤ (dg a).length ∧ s.2 = dl (a % 256 ^ s.1 * b) N) (fun s => (dg a).length - s.1) (by simp) ?_ (0, _) ⟨by simp, e0⟩
  rintro ⟨i, out⟩ ⟨hi, ho⟩
  dsimp only at hi ho ⊢
  subst ho
  by_cases he : i = (dg a).length
  · subst he
    exact .inr ⟨_, _, _, _, _, timesExit a b N _ _, by rw [decide_eq_false_iff_not]; omega, trivial⟩
  · refine .inl ⟨_, _, _, _, _, (i + 1, _), timesRound a b N _ (dl (a % 256 ^ (i + 1) * b) N) _, ⟨decide_eq_true (by omega), timesLoop2 a b N i (by omega) hN ha hb (times_lt a b N i hN), ⟨by omega, by omega⟩, trivial⟩, ⟨by simp only; omega, rfl⟩, by simp only; omega⟩
def spTimes : List AV → Option (AV × List Prop)
  | [.val false [.dN a], .val false [.dN b]] => some (sc (.dI (dg (a * b))), [Sm a, Sm b])
  | _ => none
theorem ctTimes : CtSOk Try.prog 39 (.fn spTimes) := FnS_of_fnS gsN fol fun ds r cs h hc => by
  unfold spTimes at h
  split at h
  case h_2 => simp at h
  rename_i a b
  simp only [Option.some.injEq, Prod.mk.injEq] at h
  obtain ⟨rfl, rfl⟩ := h
  obtain ⟨ha, hb, _⟩ := hc
  unfold Sm at ha hb
  obtain ⟨N, hN⟩ : ∃ N, N = (dg a).length + (dg b).length + 1 := ⟨_, rfl⟩
  have eN : ((dg a).length : Int) + ((dg b).length : Int) + 1 = (N : Int) := by omega
  obtain ⟨h1, h2, h3⟩ := dl_ok (a * b) N
  have hlt : a * b < 256 ^ N := by
    have := times_lt a b N (dg a).length hN
    rwa [Nat.mod_eq_of_lt (lt_of_dg a)] at this
  rw [Nat.mod_eq_of_lt hlt] at h3
  have t := trimFrom_le (dl (a * b) N) (dl (a * b) N).length
  have r := runTimes a b N (dl (a * b) N) ((dg a).length : Nat)
  simp only [eN, Int.toNat_natCast, List.length_replicate] at r
  refine use_run r ?_ ?_
  · have e := trim_dg h2
    rw [h3, h1] at e
    rw [h1, e]
  · simp only [AllP, inI64]
    and_intros <;> first | exact timesLoop a b N hN ha hb | omega | trivial
def spNTimes : List AV → Option (AV × List Prop)
  | [.val false [.dN a], .val false [.dN b]] => some (sc (.dN (a * b)), [Sm a, Sm b])
  | _ => none
theorem nTimes : CtSOk Try.prog 39 (.fn spNTimes) := FnS_intro fun ds r cs h hc w vals hv => by
  unfold spNTimes at h
  split at h
  case h_2 => simp at h
  rename_i a b
  simp only [Option.some.injEq, Prod.mk.injEq] at h
  obtain ⟨rfl, rfl⟩ := h
  refine (FnS_use ctTimes (ds := [sc (.dN a), sc (.dN b)]) rfl hc w vals hv).mono ?_
  rintro e w' ⟨v, q1, q2, q3⟩
  exact ⟨v, q1, q2, ResOk_ex q3⟩

/-! ### What is left -/
def tblL : List (FuncId × CtS) := [(52, .pre preTrim), (54, .fn (orD spNLess)), (55, .fn (fun ds => spMinus (ds.map exA)))]
theorem gsL : GSound Try.prog (upG (lookG tblL)) := GSound_of_tbl ⟨⟨ctTrim, by kernel_rfl⟩, ⟨FnS_orD nLess, by kernel_rfl⟩, ⟨FnS_exA ctMinus, by kernel_rfl⟩, trivial⟩
def leftTd : List Nat := [0, 1, 5, 6]
def leftInv (a m : Nat) (l : List Int) (n : Nat) (i : Int) : St := ⟨slotsOf 30 [(0, sc (.sl 0 0 (dg a).length)), (1, sc (.sl 1 0 (dg m).length)), (5, sc (.sl 2 0 n)), (6, sc (.i64 i))],
  [(0, ⟨false, [.vd a]⟩), (1, ⟨false, [.vd m]⟩), (2, ⟨true, [.vi l.length l]⟩)], 16⟩
theorem leftRound2 (a m : Nat) (l : List Int) (n : Nat) (i : Int) : roundS Try.prog (lookG tblL) (orcP [(6, [(2, false)])] [(6, [2]), (7, [2])]) [] 10 leftTd (bodyAt Try.prog 38 6) (leftInv a m l n i) =
    some (Ex.normal, St.mk (slotsOf 30 [(0, sc (IV.sl 0 0 (dg a).length)), (1, sc (IV.sl 1 0 (dg m).length)), (5, sc (IV.sl 2 0 (dg (nv (cutL l 0 n l.length) - nv (dg m))).length)), (6, sc (IV.i64 i))]) [(0, Blk.mk false [IV.vd a]), (1, Blk.mk false [IV.vd m]), (2, Blk.mk true [IV.vi (dg (nv (cutL l 0 n l.length) - nv (dg m))).length (dg (nv (cutL l 0 n l.length) - nv (dg m)))])] 16, [0 + n ≤ l.length, (dg m).length = (dg m).length, Sm (nv (cutL l 0 n l.length)), Sm m, cutL l 0 n l.length = dg (nv (cutL l 0 n l.length)), decide (nv (cutL l 0 n l.length) < m) = false, 0 + n ≤ l.length, (dg m).length = (dg m).length, IsD (cutL l 0 n l.length), IsD (dg m), nv (dg m) ≤ nv (cutL l 0 n l.length), (cutL l 0 n l.length).length ≤ 4000000]) := by kernel_rfl
theorem leftExit2 (a m : Nat) (l : List Int) (n : Nat) (i : Int) : roundS Try.prog (lookG tblL) (orcP [(6, [(2, true)])] [(6, [2])]) [] 10 leftTd (bodyAt Try.prog 38 6) (leftInv a m l n i) =
    some (Ex.exit 2, St.mk (slotsOf 30 [(0, sc (IV.sl 0 0 (dg a).length)), (1, sc (IV.sl 1 0 (dg m).length)), (5, sc (IV.sl 2 0 n)), (6, sc (IV.i64 i))]) [(0, Blk.mk false [IV.vd a]), (1, Blk.mk false [IV.vd m]), (2, Blk.mk true [IV.vi l.length l])] 16, [0 + n ≤ l.length, (dg m).length = (dg m).length, Sm (nv (cutL l 0 n l.length)), Sm m, cutL l 0 n l.length = dg (nv (cutL l 0 n l.length)), decide (nv (cutL l 0 n l.length) < m) = true]) := by kernel_rfl
theorem leftRound (a m : Nat) (l : List Int) (n : Nat) (i : Int) (l2 : List Int) (n2 : Nat) : roundS Try.prog (lookG tblL) (orcP [(3, [(1, true)])] [(5, [6])]) [⟨6, leftTd, .exit 2, leftInv a m l2 n2 i⟩] 10 leftTd (bodyAt Try.prog 38 3) (leftInv a m l n i) =
    some (Ex.normal, St.mk (slotsOf 30 [(0, sc (IV.sl 0 0 (dg a).length)), (1, sc (IV.sl 1 0 (dg m).length)), (5, sc (IV.sl 2 0 n2)), (6, sc (IV.i64 (i - (1 : Int))))]) [(0, Blk.mk false [IV.vd a]), (1, Blk.mk false [IV.vd m]), (2, Blk.mk true [IV.vi l2.length l2])] 16, [decide ((0 : Int) ≤ i) = true, (0 : Int) ≤ i, i.toNat < (dg a).length, 0 + i.toNat * 1 < (dg a).length, 0 + n ≤ l.length, 1 ≤ 1, (1 + n) * 8 ≤ 140737488355328 ∧ 1 + n ≤ 9223372036854775807, 1 + n = (cutL ((List.replicate 1 (0 : Int)).set 0 ((dg a).getD (0 + i.toNat * 1) (0 : Int))) 0 1 1 ++ cutL l 0 n l.length).length, (cutL ((List.replicate 1 (0 : Int)).set 0 ((dg a).getD (0 + i.toNat * 1) (0 : Int))) 0 1 1 ++ cutL l 0 n l.length).length ≤ 1000000000, trimFrom (cutL ((List.replicate 1 (0 : Int)).set 0 ((dg a).getD (0 + i.toNat * 1) (0 : Int))) 0 1 1 ++ cutL l 0 n l.length) (cutL ((List.replicate 1 (0 : Int)).set 0 ((dg a).getD (0 + i.toNat * 1) (0 : Int))) 0 1 1 ++ cutL l 0 n l.length).length ≤ 1 + n, LoopTo Try.prog (bodyAt Try.prog 38 6) (St.mk (slotsOf 30 [(0, sc (IV.sl 0 0 (dg a).length)), (1, sc (IV.sl 1 0 (dg m).length)), (5, sc (IV.sl 2 0 (trimFrom (cutL ((List.replicate 1 (0 : Int)).set 0 ((dg a).getD (0 + i.toNat * 1) (0 : Int))) 0 1 1 ++ cutL l 0 n l.length) (cutL ((List.replicate 1 (0 : Int)).set 0 ((dg a).getD (0 + i.toNat * 1) (0 : Int))) 0 1 1 ++ cutL l 0 n l.length).length))), (6, sc (IV.i64 i))]) [(0, Blk.mk false [IV.vd a]), (1, Blk.mk false [IV.vd m]), (2, Blk.mk true [IV.vi (cutL ((List.replicate 1 (0 : Int)).set 0 ((dg a).getD (0 + i.toNat * 1) (0 : Int))) 0 1 1 ++ cutL l 0 n l.length).length (cutL ((List.replicate 1 (0 : Int)).set 0 ((dg a).getD (0 + i.toNat * 1) (0 : Int))) 0 1 1 ++ cutL l 0 n l.length)])] 16) (Ex.exit 2) (St.mk (slotsOf 30 [(0, sc (IV.sl 0 0 (dg a).length)), (1, sc (IV.sl 1 0 (dg m).length)), (5, sc (IV.sl 2 0 n2)), (6, sc (IV.i64 i))]) [(0, Blk.mk false [IV.vd a]), (1, Blk.mk false [IV.vd m]), (2, Blk.mk true [IV.vi l2.length l2])] 16), inI64 (i - (1 : Int))]) := by kernel_rfl
theorem leftExit (a m : Nat) (l : List Int) (n : Nat) (i : Int) : roundS Try.prog (lookG tblL) (orcA [(3, [(1, false)])]) [] 10 leftTd (bodyAt Try.prog 38 3) (leftInv a m l n i) =
    some (Ex.exit 0, St.mk (slotsOf 30 [(0, sc (IV.sl 0 0 (dg a).length)), (1, sc (IV.sl 1 0 (dg m).length)), (5, sc (IV.sl 2 0 n)), (6, sc (IV.i64 i))]) [(0, Blk.mk false [IV.vd a]), (1, Blk.mk false [IV.vd m]), (2, Blk.mk true [IV.vi l.length l])] 16, [decide ((0 : Int) ≤ i) = false]) := by kernel_rfl
theorem runLeft (a m : Nat) (l : List Int) (n : Nat) (i : Int) : fnS Try.prog (lookG tblL) (orcA []) [⟨3, leftTd, .exit 0, leftInv a m l n i⟩] 10 38 [sc (.dN a), sc (.dN m)] =
    some (sc (IV.dI (cutL l 0 n l.length)), [inI64 ((↑(dg a).length : Int) - (1 : Int)), LoopTo Try.prog (bodyAt Try.prog 38 3) (St.mk (slotsOf 30 [(0, sc (IV.sl 0 0 (dg a).length)), (1, sc (IV.sl 1 0 (dg m).length)), (5, sc (IV.sl 2 0 0)), (6, sc (IV.i64 ((↑(dg a).length : Int) - (1 : Int))))]) [(0, Blk.mk false [IV.vd a]), (1, Blk.mk false [IV.vd m]), (2, Blk.mk true [IV.vi 0 []])] 16) (Ex.exit 0) (St.mk (slotsOf 30 [(0, sc (IV.sl 0 0 (dg a).length)), (1, sc (IV.sl 1 0 (dg m).length)), (5, sc (IV.sl 2 0 n)), (6, sc (IV.i64 i))]) [(0, Blk.mk false [IV.vd a]), (1, Blk.mk false [IV.vd m]), (2, Blk.mk true [IV.vi l.length l])] 16), 0 + n ≤ l.length]) := by kernel_rfl
/-- What the inner loop comes to. -/
def lTgt (m : Nat) (l : List Int) (n : Nat) : List Int × Nat := if nv (cutL l 0 n l.length) < m then (l, n) else (dg (nv (cutL l 0 n l.length) % m), (dg (nv (cutL l 0 n l.length) % m)).length)
theorem leftLoop2 (a m : Nat) (hm : 0 < m) (sm : Sm m) (i : Int) (l : List Int) (n w : Nat) (hn : n ≤ l.length) (hl : cutL l 0 n l.length = dg w) (sw : Sm w) :
    LoopTo Try.prog (bodyAt Try.prog 38 6) (leftInv a m l n i) (.exit 2) (leftInv a m (lTgt m l n).1 (lTgt m l n).2 i) := by
  have hw : nv (cutL l 0 n l.length) = w := by rw [hl, nv_dg]
  refine LoopTo.intro (α := Nat × List Int × Nat) gsL fol (fun s => leftInv a m s.2.1 s.2.2 i) (fun s => s.1 ≤ w ∧ s.2.2 ≤ s.2.1.length ∧ cutL s.2.1 0 s.2.2 s.2.1.length = dg s.1 ∧ s.1 % m = w % m ∧ (s.1 < m → (s.2.1, s.2.2) = lTgt m l n)) (fun s => s.1) (by simp) ?_ (w, l, n)
    ⟨Nat.le_refl _, hn, hl, rfl, fun h => by unfold lTgt; rw [hw, if_pos h]⟩
  rintro ⟨u, l', n'⟩ ⟨h0, h1, h2, h3, h4⟩
  dsimp only at h0 h1 h2 h3 h4 ⊢
  have hu : nv (cutL l' 0 n' l'.length) = u := by rw [h2, nv_dg]
  have su : Sm u := by
    by_cases hu0 : u = 0
    · subst hu0; unfold Sm; rw [dg_zero]; simp
    · exact Sm_lt (k := (dg w).length) (Nat.lt_of_le_of_lt h0 (lt_of_dg w)) sw
  by_cases hlt : u < m
  · right
    have e := h4 hlt
    rw [← e]
    refine ⟨_, _, _, _, _, leftExit2 a m l' n' i, ?_⟩
    rw [hu]
    exact ⟨by omega, rfl, su, sm, h2, decide_eq_true hlt, trivial⟩
  · left
    have hmod : (u - m) % m = w % m := by rw [← h3]; exact (Nat.mod_eq_sub_mod (Nat.le_of_not_lt hlt)).symm
    have r := leftRound2 a m l' n' i
    rw [hu, nv_dg] at r
    refine ⟨_, _, _, _, _, (u - m, dg (u - m), (dg (u - m)).length), r, ⟨by omega, rfl, su, sm, h2, decide_eq_false hlt, by omega, rfl, by rw [h2]; exact dg_D _, dg_D _, Nat.le_of_not_lt hlt, by rw [h2]; exact su, trivial⟩, ⟨by simp only; omega, Nat.le_refl _, cutL_all _, hmod, fun h => ?_⟩, by simp only; omega⟩
    have e : w % m = u - m := by rw [← hmod]; exact Nat.mod_eq_of_lt h
    have hwm : ¬ w < m := fun h' => by have : w % m = w := Nat.mod_eq_of_lt h'; omega
    unfold lTgt
    rw [hw, if_neg hwm, e]
theorem lTgt_ok {m : Nat} {l : List Int} {n w : Nat} (hn : n ≤ l.length) (hl : cutL l 0 n l.length = dg w) : (lTgt m l n).2 ≤ (lTgt m l n).1.length ∧ cutL (lTgt m l n).1 0 (lTgt m l n).2 (lTgt m l n).1.length = dg (w % m) := by
  have hw : nv (cutL l 0 n l.length) = w := by rw [hl, nv_dg]
  unfold lTgt
  rw [hw]
  by_cases h : w < m
  · rw [if_pos h, Nat.mod_eq_of_lt h]
    exact ⟨hn, hl⟩
  · rw [if_neg h]
    exact ⟨Nat.le_refl _, cutL_all _⟩
/-- The state behind so many digits, from the highest. -/
def lSt (a m : Nat) : Nat → List Int × Nat
  | 0 => ([], 0)
  | j + 1 =>
    let l := ((dig a ((dg a).length - 1 - j) : Nat) : Int) :: cutL (lSt a m j).1 0 (lSt a m j).2 (lSt a m j).1.length
    lTgt m l (trimFrom l l.length)
theorem cons_trim (x w : Nat) (hx : x < 256) : cutL (((x : Nat) : Int) :: dg w) 0 (trimFrom (((x : Nat) : Int) :: dg w) (((x : Nat) : Int) :: dg w).length) (((x : Nat) : Int) :: dg w).length = dg (x + 256 * w) := by
  rw [trim_dg (IsD_cons (by omega) (dg_D w))]
  simp [nv, nv_dg]
theorem lSt_ok (a m : Nat) : ∀ j, j ≤ (dg a).length → (lSt a m j).2 ≤ (lSt a m j).1.length ∧ cutL (lSt a m j).1 0 (lSt a m j).2 (lSt a m j).1.length = dg (a / 256 ^ ((dg a).length - j) % m) := by
  intro j
  induction j with
  | zero =>
    intro _
    have : a / 256 ^ (dg a).length = 0 := Nat.div_eq_of_lt (lt_of_dg a)
    simp only [lSt, Nat.sub_zero, this, Nat.zero_mod, dg_zero]
    exact ⟨Nat.le_refl _, rfl⟩
  | succ j ih =>
    intro hj
    obtain ⟨h1, h2⟩ := ih (by omega)
    have hx := dig_lt a ((dg a).length - 1 - j)
    obtain ⟨k, hk⟩ : ∃ k, (dg a).length - 1 - j = k := ⟨_, rfl⟩
    have hk1 : (dg a).length - j = k + 1 := by omega
    have hk2 : (dg a).length - (j + 1) = k := by omega
    rw [hk1] at h2
    simp only [lSt, hk] at hx ⊢
    rw [h2, hk2]
    have := lTgt_ok (m := m) (trimFrom_le _ _) (cons_trim (dig a k) (a / 256 ^ (k + 1) % m) hx)
    rw [left_next] at this
    exact this
theorem leftLoop (a m : Nat) (hm : 0 < m) (sa : Sm a) (sm : Sm m) (sm2 : (dg m).length ≤ 3999990) :
    LoopTo Try.prog (bodyAt Try.prog 38 3) (leftInv a m [] 0 (((dg a).length : Int) - 1)) (.exit 0) (leftInv a m (lSt a m (dg a).length).1 (lSt a m (dg a).length).2 (-1)) := by
  refine LoopTo.intro (α := Nat × Int × List Int × Nat) gsL fol (fun s => leftInv a m s.2.2.1 s.2.2.2 s.2.1) (fun s => s.1 ≤ (dg a).length ∧ s.2.1 = ((dg a).length : Int) - 1 - s.1 ∧ (s.2.2.1, s.2.2.2) = lSt a m s.1) (fun s => (dg a).length - s.1) (by simp) ?_ (0, _, [], 0) ⟨by simp, by simp, rfl⟩
  rintro ⟨j, i, l, n⟩ ⟨hj, hi, hs⟩
  dsimp only at hj hi hs ⊢
  obtain ⟨h1, h2⟩ := lSt_ok a m j hj
  rw [← hs] at h1 h2
  dsimp only at h1 h2
  have sa' : (dg a).length ≤ 4000000 := sa
  by_cases he : j = (dg a).length
  · subst he
    have hi' : i = -1 := by omega
    subst hi'
    rw [← hs]
    exact .inr ⟨_, _, _, _, _, leftExit a m _ _ _, by simp, trivial⟩
  · obtain ⟨k, hk⟩ : ∃ k : Nat, (dg a).length - 1 - j = k := ⟨_, rfl⟩
    have hik : i = (k : Int) := by omega
    subst hik
    have hx := dig_lt a k
    have hw : Sm (dig a k + 256 * (a / 256 ^ ((dg a).length - j) % m)) := by
      have q1 : a / 256 ^ ((dg a).length - j) % m < m := Nat.mod_lt _ hm
      have q2 := lt_of_dg m
      refine Sm_lt (k := (dg m).length + 1) ?_ (by omega)
      rw [Nat.pow_succ]
      omega
    have hlen : (dg (a / 256 ^ ((dg a).length - j) % m)).length ≤ 3999990 := by
      refine Nat.le_trans (dg_length_le ?_) sm2
      exact Nat.lt_of_lt_of_le (Nat.mod_lt _ hm) (Nat.le_of_lt (lt_of_dg m))
    have hn : n = (dg (a / 256 ^ ((dg a).length - j) % m)).length := by
      rw [← h2]
      unfold cutL
      split
      · rename_i q; exact q.2
      · simp; omega
    have r := leftRound a m l n (k : Nat) (lSt a m (j + 1)).1 (lSt a m (j + 1)).2
    have e1 : ∀ x : Int, cutL [x] 0 1 1 = [x] := fun x => rfl
    simp only [one_set, e1, Int.toNat_natCast, Nat.zero_add, Nat.mul_one, getD_dig (dg_D a), nv_dg, h2, List.cons_append, List.nil_append, List.length_cons] at r
    have hS : lSt a m (j + 1) = lTgt m (((dig a k : Nat) : Int) :: dg (a / 256 ^ ((dg a).length - j) % m)) (trimFrom (((dig a k : Nat) : Int) :: dg (a / 256 ^ ((dg a).length - j) % m)) ((dg (a / 256 ^ ((dg a).length - j) % m)).length + 1)) := by
      simp only [lSt, hk, ← hs, h2, List.length_cons]
    have hT := trimFrom_le (((dig a k : Nat) : Int) :: dg (a / 256 ^ ((dg a).length - j) % m)) ((dg (a / 256 ^ ((dg a).length - j) % m)).length + 1)
    have hL := leftLoop2 a m hm sm (k : Nat) (((dig a k : Nat) : Int) :: dg (a / 256 ^ ((dg a).length - j) % m)) (trimFrom (((dig a k : Nat) : Int) :: dg (a / 256 ^ ((dg a).length - j) % m)) ((dg (a / 256 ^ ((dg a).length - j) % m)).length + 1)) _ (by simpa using hT) (cons_trim _ _ hx) hw
    rw [← hS] at hL
    refine .inl ⟨_, _, _, _, _, (j + 1, _, (lSt a m (j + 1)).1, (lSt a m (j + 1)).2), r, ?_, ⟨by simp only; omega, by simp only; omega, rfl⟩, by simp only; omega⟩
    simp only [AllP, inI64, decide_eq_true_eq]
    and_intros <;> first | exact hL | omega | trivial
def spNLeft : List AV → Option (AV × List Prop)
  | [.val false [.dN a], .val false [.dN m]] => some (sc (.dN (a % m)), [0 < m, Sm a, Sm m, (dg m).length ≤ 3999990])
  | _ => none
theorem nLeft : CtSOk Try.prog 38 (.fn spNLeft) := FnS_intro fun ds r cs h hc w vals hv => by
  unfold spNLeft at h
  split at h
  case h_2 => simp at h
  rename_i a m
  simp only [Option.some.injEq, Prod.mk.injEq] at h
  obtain ⟨rfl, rfl⟩ := h
  obtain ⟨hm, sa, sm, sm2, _⟩ := hc
  obtain ⟨h1, h2⟩ := lSt_ok a m (dg a).length (Nat.le_refl _)
  rw [Nat.sub_self, Nat.pow_zero, Nat.div_one] at h2
  have sa' : (dg a).length ≤ 4000000 := sa
  have r := runLeft a m (lSt a m (dg a).length).1 (lSt a m (dg a).length).2 (-1)
  rw [h2] at r
  refine (calls_of_fnS gsL fol r ⟨⟨by omega, by omega⟩, leftLoop a m hm sa sm sm2, by omega, trivial⟩ w vals hv).mono ?_
  rintro e w' ⟨v, q1, q2, q3⟩
  exact ⟨v, q1, q2, ResOk_ex q3⟩
def tblM : List (FuncId × CtS) := [(53, .fn spNAt), (37, .fn (orD spNSum)), (55, .fn (orD spNMinus)), (54, .fn (orD spNLess)), (36, .fn spNRead), (41, .fn (orD spNTold)), (52, .pre preTrim), (39, .fn (orD spNTimes)), (38, .fn (orD spNLeft))]
theorem okM : TblOk Try.prog tblM := ⟨⟨nAt, by kernel_rfl⟩, ⟨FnS_orD nSum, by kernel_rfl⟩, ⟨FnS_orD nMinus, by kernel_rfl⟩, ⟨FnS_orD nLess, by kernel_rfl⟩, ⟨nRead, by kernel_rfl⟩, ⟨FnS_orD nTold, by kernel_rfl⟩, ⟨ctTrim, by kernel_rfl⟩, ⟨FnS_orD nTimes, by kernel_rfl⟩, ⟨FnS_orD nLeft, by kernel_rfl⟩, trivial⟩
theorem gsM : GSound Try.prog (upG (lookG tblM)) := GSound_of_tbl okM
end Go.Proofs.Ytmedjfcmkalblaa
/- Contracts of layer 11: the program's numbers modulo 2^130 - 5. Own work. -/
namespace Go.Proofs.Ytmedjfcmkalblaa
open Go.Ev Go.Sp Go.RowKit
set_option maxRecDepth 100000
def tblT : List (FuncId × CtS) := [(46, .fn (sp2 addV)), (48, .fn (sp2 subV)), (57, .fn spMul), (49, .fn spPick), (45, .fn spFrom), (50, .fn spBytes)]
theorem okT : TblOk Try.prog tblT := ⟨⟨ctAdd, by kernel_rfl⟩, ⟨ctSub, by kernel_rfl⟩, ⟨ctMul, by kernel_rfl⟩, ⟨ctPick, by kernel_rfl⟩, ⟨ctFrom, by kernel_rfl⟩, ⟨ctBytes, by kernel_rfl⟩, trivial⟩
theorem gsT : GSound Try.prog (upG (lookG tblT)) := GSound_of_tbl okT
def P130 : Nat := 1361129467683753853853498429727072845824
def lowN (a : N4) : N4 := ⟨a.get 0, a.get 1, a.get 2 &&& 3#64, 0#64⟩
def highN (a b : N4) : N4 := ⟨a.get 2 >>> 2 ||| a.get 3 <<< 62, a.get 3 >>> 2 ||| b.get 0 <<< 62, b.get 0 >>> 2, 0#64⟩
theorem runLow (a b : N4) : fnS Try.prog (lookG tblT) orc0 [] 10 59 [.val true [.n4 a, .n4 b]] =
    some (AV.val true [IV.n4 (N4.mk (a.get 0) (a.get 1) (a.get 2 &&& BitVec.ofNat 64 3) (BitVec.ofNat 64 0))], []) := by kernel_rfl
theorem runHigh (a b : N4) : fnS Try.prog (lookG tblT) orc0 [] 10 58 [.val true [.n4 a, .n4 b]] =
    some (AV.val true [IV.n4 (N4.mk (a.get 2 >>> 2 ||| a.get 3 <<< 62) (a.get 3 >>> 2 ||| b.get (4 - 4) <<< 62) (b.get (4 - 4) >>> 2) (BitVec.ofNat 64 0))], []) := by kernel_rfl
def spLow : List AV → Option (AV × List Prop)
  | [.val true [.n4 a, .n4 _]] => some (.val true [.n4 (lowN a)], [])
  | _ => none
def spHigh : List AV → Option (AV × List Prop)
  | [.val true [.n4 a, .n4 b]] => some (.val true [.n4 (highN a b)], [])
  | _ => none
theorem ctLow : CtSOk Try.prog 59 (.fn spLow) := FnS_of_fnS gsT fol fun ds r cs h hc => by
  unfold spLow at h
  split at h
  case h_2 => simp at h
  rename_i a b
  simp only [Option.some.injEq, Prod.mk.injEq] at h
  obtain ⟨rfl, rfl⟩ := h
  exact use_run (runLow a b) rfl trivial
theorem ctHigh : CtSOk Try.prog 58 (.fn spHigh) := FnS_of_fnS gsT fol fun ds r cs h hc => by
  unfold spHigh at h
  split at h
  case h_2 => simp at h
  rename_i a b
  simp only [Option.some.injEq, Prod.mk.injEq] at h
  obtain ⟨rfl, rfl⟩ := h
  exact use_run (runHigh a b) rfl trivial
theorem list16 {α : Type} {l : List α} (h : l.length = 16) : ∃ x0 x1 x2 x3 x4 x5 x6 x7 x8 x9 x10 x11 x12 x13 x14 x15, l = [x0, x1, x2, x3, x4, x5, x6, x7, x8, x9, x10, x11, x12, x13, x14, x15] := by
  match l, h with
  | [x0, x1, x2, x3, x4, x5, x6, x7, x8, x9, x10, x11, x12, x13, x14, x15], _ => exact ⟨_, _, _, _, _, _, _, _, _, _, _, _, _, _, _, _, rfl⟩
theorem runCut (x0 x1 x2 x3 x4 x5 x6 x7 x8 x9 x10 x11 x12 x13 x14 x15 : BitVec 8) : fnS Try.prog (lookG tblT) (orcA [(1, [(2, false)])]) [] 30 44 [sc (.d8 [x0, x1, x2, x3, x4, x5, x6, x7, x8, x9, x10, x11, x12, x13, x14, x15])] =
    some (AV.tup [(false, [IV.d8 (cutL (((((((((((((((((List.replicate 16 (BitVec.ofNat 8 0)).set 0 (x0 &&& BitVec.ofNat 8 255)).set 1 (x1 &&& BitVec.ofNat 8 255)).set 2 (x2 &&& BitVec.ofNat 8 255)).set 3 (x3 &&& BitVec.ofNat 8 15)).set 4 (x4 &&& BitVec.ofNat 8 252)).set 5 (x5 &&& BitVec.ofNat 8 255)).set 6 (x6 &&& BitVec.ofNat 8 255)).set 7 (x7 &&& BitVec.ofNat 8 15)).set 8 (x8 &&& BitVec.ofNat 8 252)).set 9 (x9 &&& BitVec.ofNat 8 255)).set 10 (x10 &&& BitVec.ofNat 8 255)).set 11 (x11 &&& BitVec.ofNat 8 15)).set 12 (x12 &&& BitVec.ofNat 8 252)).set 13 (x13 &&& BitVec.ofNat 8 255)).set 14 (x14 &&& BitVec.ofNat 8 255)).set 15 (x15 &&& BitVec.ofNat 8 15)) 0 16 16)]), (false, [IV.i64 (0 : Int)])], [(!(↑[x0, x1, x2, x3, x4, x5, x6, x7, x8, x9, x10, x11, x12, x13, x14, x15].length : Int) == (16 : Int)) = false, (0 : Int) ≤ (16 : Int), (0 : Int) ≤ (16 : Int), 16 = 16 ∧ 16 ≤ 281474976710656 ∧ 16 ≤ 9223372036854775807, (0 : Int) ≤ (0 : Int), 0 < [x0, x1, x2, x3, x4, x5, x6, x7, x8, x9, x10, x11, x12, x13, x14, x15].length, 0 < [x0, x1, x2, x3, x4, x5, x6, x7, x8, x9, x10, x11, x12, x13, x14, x15].length, (0 : Int) ≤ (0 : Int), 0 < 16, 0 < 16, (0 : Int) ≤ (0 : Int), 0 < 16, 0 < 16, inI64 (1 : Int), (0 : Int) ≤ (1 : Int), 1 < [x0, x1, x2, x3, x4, x5, x6, x7, x8, x9, x10, x11, x12, x13, x14, x15].length, 1 < [x0, x1, x2, x3, x4, x5, x6, x7, x8, x9, x10, x11, x12, x13, x14, x15].length, (0 : Int) ≤ (1 : Int), 1 < 16, 1 < 16, (0 : Int) ≤ (1 : Int), 1 < 16, 1 < 16, inI64 (2 : Int), (0 : Int) ≤ (2 : Int), 2 < [x0, x1, x2, x3, x4, x5, x6, x7, x8, x9, x10, x11, x12, x13, x14, x15].length, 2 < [x0, x1, x2, x3, x4, x5, x6, x7, x8, x9, x10, x11, x12, x13, x14, x15].length, (0 : Int) ≤ (2 : Int), 2 < 16, 2 < 16, (0 : Int) ≤ (2 : Int), 2 < 16, 2 < 16, inI64 (3 : Int), (0 : Int) ≤ (3 : Int), 3 < [x0, x1, x2, x3, x4, x5, x6, x7, x8, x9, x10, x11, x12, x13, x14, x15].length, 3 < [x0, x1, x2, x3, x4, x5, x6, x7, x8, x9, x10, x11, x12, x13, x14, x15].length, (0 : Int) ≤ (3 : Int), 3 < 16, 3 < 16, (0 : Int) ≤ (3 : Int), 3 < 16, 3 < 16, inI64 (4 : Int), (0 : Int) ≤ (4 : Int), 4 < [x0, x1, x2, x3, x4, x5, x6, x7, x8, x9, x10, x11, x12, x13, x14, x15].length, 4 < [x0, x1, x2, x3, x4, x5, x6, x7, x8, x9, x10, x11, x12, x13, x14, x15].length, (0 : Int) ≤ (4 : Int), 4 < 16, 4 < 16, (0 : Int) ≤ (4 : Int), 4 < 16, 4 < 16, inI64 (5 : Int), (0 : Int) ≤ (5 : Int), 5 < [x0, x1, x2, x3, x4, x5, x6, x7, x8, x9, x10, x11, x12, x13, x14, x15].length, 5 < [x0, x1, x2, x3, x4, x5, x6, x7, x8, x9, x10, x11, x12, x13, x14, x15].length, (0 : Int) ≤ (5 : Int), 5 < 16, 5 < 16, (0 : Int) ≤ (5 : Int), 5 < 16, 5 < 16, inI64 (6 : Int), (0 : Int) ≤ (6 : Int), 6 < [x0, x1, x2, x3, x4, x5, x6, x7, x8, x9, x10, x11, x12, x13, x14, x15].length, 6 < [x0, x1, x2, x3, x4, x5, x6, x7, x8, x9, x10, x11, x12, x13, x14, x15].length, (0 : Int) ≤ (6 : Int), 6 < 16, 6 < 16, (0 : Int) ≤ (6 : Int), 6 < 16, 6 < 16, inI64 (7 : Int), (0 : Int) ≤ (7 : Int), 7 < [x0, x1, x2, x3, x4, x5, x6, x7, x8, x9, x10, x11, x12, x13, x14, x15].length, 7 < [x0, x1, x2, x3, x4, x5, x6, x7, x8, x9, x10, x11, x12, x13, x14, x15].length, (0 : Int) ≤ (7 : Int), 7 < 16, 7 < 16, (0 : Int) ≤ (7 : Int), 7 < 16, 7 < 16, inI64 (8 : Int), (0 : Int) ≤ (8 : Int), 8 < [x0, x1, x2, x3, x4, x5, x6, x7, x8, x9, x10, x11, x12, x13, x14, x15].length, 8 < [x0, x1, x2, x3, x4, x5, x6, x7, x8, x9, x10, x11, x12, x13, x14, x15].length, (0 : Int) ≤ (8 : Int), 8 < 16, 8 < 16, (0 : Int) ≤ (8 : Int), 8 < 16, 8 < 16, inI64 (9 : Int), (0 : Int) ≤ (9 : Int), 9 < [x0, x1, x2, x3, x4, x5, x6, x7, x8, x9, x10, x11, x12, x13, x14, x15].length, 9 < [x0, x1, x2, x3, x4, x5, x6, x7, x8, x9, x10, x11, x12, x13, x14, x15].length, (0 : Int) ≤ (9 : Int), 9 < 16, 9 < 16, (0 : Int) ≤ (9 : Int), 9 < 16, 9 < 16, inI64 (10 : Int), (0 : Int) ≤ (10 : Int), 10 < [x0, x1, x2, x3, x4, x5, x6, x7, x8, x9, x10, x11, x12, x13, x14, x15].length, 10 < [x0, x1, x2, x3, x4, x5, x6, x7, x8, x9, x10, x11, x12, x13, x14, x15].length, (0 : Int) ≤ (10 : Int), 10 < 16, 10 < 16, (0 : Int) ≤ (10 : Int), 10 < 16, 10 < 16, inI64 (11 : Int), (0 : Int) ≤ (11 : Int), 11 < [x0, x1, x2, x3, x4, x5, x6, x7, x8, x9, x10, x11, x12, x13, x14, x15].length, 11 < [x0, x1, x2, x3, x4, x5, x6, x7, x8, x9, x10, x11, x12, x13, x14, x15].length, (0 : Int) ≤ (11 : Int), 11 < 16, 11 < 16, (0 : Int) ≤ (11 : Int), 11 < 16, 11 < 16, inI64 (12 : Int), (0 : Int) ≤ (12 : Int), 12 < [x0, x1, x2, x3, x4, x5, x6, x7, x8, x9, x10, x11, x12, x13, x14, x15].length, 12 < [x0, x1, x2, x3, x4, x5, x6, x7, x8, x9, x10, x11, x12, x13, x14, x15].length, (0 : Int) ≤ (12 : Int), 12 < 16, 12 < 16, (0 : Int) ≤ (12 : Int), 12 < 16, 12 < 16, inI64 (13 : Int), (0 : Int) ≤ (13 : Int), 13 < [x0, x1, x2, x3, x4, x5, x6, x7, x8, x9, x10, x11, x12, x13, x14, x15].length, 13 < [x0, x1, x2, x3, x4, x5, x6, x7, x8, x9, x10, x11, x12, x13, x14, x15].length, (0 : Int) ≤ (13 : Int), 13 < 16, 13 < 16, (0 : Int) ≤ (13 : Int), 13 < 16, 13 < 16, inI64 (14 : Int), (0 : Int) ≤ (14 : Int), 14 < [x0, x1, x2, x3, x4, x5, x6, x7, x8, x9, x10, x11, x12, x13, x14, x15].length, 14 < [x0, x1, x2, x3, x4, x5, x6, x7, x8, x9, x10, x11, x12, x13, x14, x15].length, (0 : Int) ≤ (14 : Int), 14 < 16, 14 < 16, (0 : Int) ≤ (14 : Int), 14 < 16, 14 < 16, inI64 (15 : Int), (0 : Int) ≤ (15 : Int), 15 < [x0, x1, x2, x3, x4, x5, x6, x7, x8, x9, x10, x11, x12, x13, x14, x15].length, 15 < [x0, x1, x2, x3, x4, x5, x6, x7, x8, x9, x10, x11, x12, x13, x14, x15].length, (0 : Int) ≤ (15 : Int), 15 < 16, 15 < 16, (0 : Int) ≤ (15 : Int), 15 < 16, 15 < 16, inI64 (16 : Int), 16 ≤ 16]) := by kernel_rfl
theorem runCut1 (r : List (BitVec 8)) : fnS Try.prog (lookG tblT) (orcA [(1, [(2, true)])]) [] 30 44 [sc (.d8 r)] =
    some (AV.tup [(false, [IV.d8 (cutL [] 0 0 0)]), (false, [IV.i64 (1 : Int)])], [(!(↑r.length : Int) == (16 : Int)) = true, 0 ≤ 0]) := by kernel_rfl
def cutM : List (BitVec 8) := [255#8, 255#8, 255#8, 15#8, 252#8, 255#8, 255#8, 15#8, 252#8, 255#8, 255#8, 15#8, 252#8, 255#8, 255#8, 15#8]
def cutV (r : List (BitVec 8)) : List (BitVec 8) × Int := if r.length = 16 then (List.zipWith (fun x m => x &&& m) r cutM, 0) else ([], 1)
def spCut : List AV → Option (AV × List Prop)
  | [.val false [.d8 b]] => some (.tup [(false, [.d8 (cutV b).1]), (false, [.i64 (cutV b).2])], [])
  | _ => none
theorem ctCut : CtSOk Try.prog 44 (.fn spCut) := FnS_of_fnS gsT fol fun ds r cs h hc => by
  unfold spCut at h
  split at h
  case h_2 => simp at h
  rename_i b
  simp only [Option.some.injEq, Prod.mk.injEq] at h
  obtain ⟨rfl, rfl⟩ := h
  by_cases hb : b.length = 16
  · obtain ⟨x0, x1, x2, x3, x4, x5, x6, x7, x8, x9, x10, x11, x12, x13, x14, x15, rfl⟩ := list16 hb
    refine use_run (runCut x0 x1 x2 x3 x4 x5 x6 x7 x8 x9 x10 x11 x12 x13 x14 x15) rfl ?_
    simp only [AllP, inI64]
    and_intros <;> first | omega | trivial
  · refine use_run (runCut1 b) (by rw [cutV, if_neg hb]; rfl) ⟨?_, by omega, trivial⟩
    simp only [Bool.not_eq_true', beq_eq_false_iff_ne, ne_eq]
    omega
def tblT1 : List (FuncId × CtS) :=
  (59, .fn spLow) :: (58, .fn spHigh) :: tblT
theorem gsT1 : GSound Try.prog (upG (lookG tblT1)) := GSound_of_tbl ⟨⟨ctLow, by kernel_rfl⟩, ⟨ctHigh, by kernel_rfl⟩, okT⟩
theorem runPTimes (a r : N4) : fnS Try.prog (lookG tblT1) orc0 [] 10 47 [.val true [.n4 a], .val true [.n4 r]] =
    some (AV.val true [IV.n4 (ofN (val (lowN (ofN (val (lowN (ofN (val a * val r))) + val (ofN (val (highN (ofN (val a * val r)) (ofN (val a * val r / p256))) * 5))))) + val (ofN (val (highN (ofN (val (lowN (ofN (val a * val r))) + val (ofN (val (highN (ofN (val a * val r)) (ofN (val a * val r / p256))) * 5)))) (N4.mk (BitVec.ofNat 64 0) (BitVec.ofNat 64 0) (BitVec.ofNat 64 0) (BitVec.ofNat 64 0))) * 5))))], []) := by kernel_rfl

theorem or62 (x y : BitVec 64) : (x >>> 2 ||| y <<< 62).toNat = x.toNat / 4 + y.toNat % 4 * 4611686018427387904 := by
  have hx := x.isLt
  have hy := y.isLt
  rw [BitVec.toNat_or, BitVec.toNat_ushiftRight, BitVec.toNat_shiftLeft, Nat.shiftRight_eq_div_pow]
  have e : y.toNat <<< 62 % 2 ^ 64 = (y.toNat % 4) <<< 62 := by rw [Nat.shiftLeft_eq, Nat.shiftLeft_eq]; omega
  rw [e, Nat.or_comm, ← Nat.shiftLeft_add_eq_or_of_lt (by omega), Nat.shiftLeft_eq]
  omega
theorem and3 (x : BitVec 64) : (x &&& 3#64).toNat = x.toNat % 4 := by
  rw [BitVec.toNat_and]
  exact Nat.and_two_pow_sub_one_eq_mod x.toNat 2
theorem low_val (a : N4) : val (lowN a) = val a % P130 := by
  obtain ⟨a0, a1, a2, a3⟩ := a
  have h0 := a0.isLt
  have h1 := a1.isLt
  have h2 := a2.isLt
  have h3 := a3.isLt
  show a0.toNat + 18446744073709551616 * (a1.toNat + 18446744073709551616 * ((a2 &&& 3#64).toNat + 18446744073709551616 * 0)) = (a0.toNat + 18446744073709551616 * (a1.toNat + 18446744073709551616 * (a2.toNat + 18446744073709551616 * a3.toNat))) % 1361129467683753853853498429727072845824
  rw [and3]
  omega
theorem high_val (a b : N4) (h : wide a b < p256 * 18446744073709551616) : val (highN a b) = wide a b / P130 := by
  obtain ⟨a0, a1, a2, a3⟩ := a
  obtain ⟨b0, b1, b2, b3⟩ := b
  have h0 := a0.isLt
  have h1 := a1.isLt
  have h2 := a2.isLt
  have h3 := a3.isLt
  have h4 := b0.isLt
  have h5 := b1.isLt
  have h6 := b2.isLt
  have h7 := b3.isLt
  have hb : wide ⟨a0, a1, a2, a3⟩ ⟨b0, b1, b2, b3⟩ = a0.toNat + 18446744073709551616 * (a1.toNat + 18446744073709551616 * (a2.toNat + 18446744073709551616 * (a3.toNat + 18446744073709551616 * (b0.toNat + 18446744073709551616 * (b1.toNat + 18446744073709551616 * (b2.toNat + 18446744073709551616 * b3.toNat)))))) := by
    simp only [wide, val, p256]; omega
  rw [hb] at h ⊢
  show (a2 >>> 2 ||| a3 <<< 62).toNat + 18446744073709551616 * ((a3 >>> 2 ||| b0 <<< 62).toNat + 18446744073709551616 * ((b0 >>> 2).toNat + 18446744073709551616 * 0)) = _
  rw [or62, or62, BitVec.toNat_ushiftRight, Nat.shiftRight_eq_div_pow]
  unfold p256 at h
  unfold P130
  omega
def t1 (n : Nat) : Nat := n % P130 + n / P130 * 5
def timesN (a r : N4) : N4 := ofN (t1 (t1 (val a * val r)))
theorem t1_lt {n : Nat} (h : n < p256) : t1 n < 1000000000000000000000000000000000000000000 := by
  unfold t1 P130; unfold p256 at h; omega
end Go.Proofs.Ytmedjfcmkalblaa
/- Contracts of layer 11: products modulo 2^130 - 5, the document's cut. Own work. -/
namespace Go.Proofs.Ytmedjfcmkalblaa
open Go.Ev Go.Sp Go.RowKit
set_option maxRecDepth 100000
theorem val_ofN_of {n : Nat} (h : n < p256) : val (ofN n) = n := by rw [val_ofN, Nat.mod_eq_of_lt h]
theorem timesN_eq (a r : N4) (h : val a * val r < p256) : ofN (val (lowN (ofN (val (lowN (ofN (val a * val r))) + val (ofN (val (highN (ofN (val a * val r)) (ofN (val a * val r / p256))) * 5))))) + val (ofN (val (highN (ofN (val (lowN (ofN (val a * val r))) + val (ofN (val (highN (ofN (val a * val r)) (ofN (val a * val r / p256))) * 5)))) (N4.mk (BitVec.ofNat 64 0) (BitVec.ofNat 64 0) (BitVec.ofNat 64 0) (BitVec.ofNat 64 0))) * 5))) = timesN a r := by
  unfold timesN
  generalize val a * val r = w at *
  have z : val (N4.mk (BitVec.ofNat 64 0) (BitVec.ofNat 64 0) (BitVec.ofNat 64 0) (BitVec.ofNat 64 0)) = 0 := rfl
  have p1 : (p256 : Nat) < p256 * 18446744073709551616 := by decide
  have w1 : wide (ofN w) (ofN (w / p256)) = w := by rw [wide, Nat.div_eq_of_lt h, val_ofN_of h, show ofN 0 = ⟨0#64, 0#64, 0#64, 0#64⟩ from rfl, z]; omega
  have f : ∀ {x : Nat}, x < p256 → x / P130 * 5 < p256 := by intro x hx; unfold P130; unfold p256 at *; omega
  have hx : t1 w < p256 := Nat.lt_trans (t1_lt h) (by decide)
  have e1 : val (lowN (ofN w)) + val (ofN (val (highN (ofN w) (ofN (w / p256))) * 5)) = t1 w := by
    rw [low_val, high_val _ _ (by rw [w1]; exact Nat.lt_trans h p1), w1, val_ofN_of h, val_ofN_of (f h)]; rfl
  rw [e1]
  have w2 : wide (ofN (t1 w)) (N4.mk (BitVec.ofNat 64 0) (BitVec.ofNat 64 0) (BitVec.ofNat 64 0) (BitVec.ofNat 64 0)) = t1 w := by rw [wide, val_ofN_of hx, z]; omega
  rw [low_val, high_val _ _ (by rw [w2]; exact Nat.lt_trans hx p1), w2, val_ofN_of hx, val_ofN_of (f hx)]; rfl
def spPTimes : List AV → Option (AV × List Prop)
  | [.val true [.n4 a], .val true [.n4 r]] => some (.val true [.n4 (timesN a r)], [val a * val r < p256])
  | _ => none
theorem ctPTimes : CtSOk Try.prog 47 (.fn spPTimes) := FnS_of_fnS gsT1 fol fun ds r cs h hc => by
  unfold spPTimes at h
  split at h
  case h_2 => simp at h
  rename_i a r
  simp only [Option.some.injEq, Prod.mk.injEq] at h
  obtain ⟨rfl, rfl⟩ := h
  exact use_run (runPTimes a r) (by rw [timesN_eq a r hc.1]) trivial
theorem runRCut (x0 x1 x2 x3 x4 x5 x6 x7 x8 x9 x10 x11 x12 x13 x14 x15 : BitVec 8) : fnS Try.prog (lookG tblT) (orcA [(1, [(2, false)])]) [] 30 35 [sc (.d8 [x0, x1, x2, x3, x4, x5, x6, x7, x8, x9, x10, x11, x12, x13, x14, x15])] =
    some (AV.tup [(false, [IV.d8 (cutL ((((((([x0, x1, x2, x3, x4, x5, x6, x7, x8, x9, x10, x11, x12, x13, x14, x15].set 3 (x3 % BitVec.ofNat 8 16)).set 7 (([x0, x1, x2, x3, x4, x5, x6, x7, x8, x9, x10, x11, x12, x13, x14, x15].set 3 (x3 % BitVec.ofNat 8 16)).getD 7 (BitVec.ofNat 8 0) % BitVec.ofNat 8 16)).set 11 ((([x0, x1, x2, x3, x4, x5, x6, x7, x8, x9, x10, x11, x12, x13, x14, x15].set 3 (x3 % BitVec.ofNat 8 16)).set 7 (([x0, x1, x2, x3, x4, x5, x6, x7, x8, x9, x10, x11, x12, x13, x14, x15].set 3 (x3 % BitVec.ofNat 8 16)).getD 7 (BitVec.ofNat 8 0) % BitVec.ofNat 8 16)).getD 11 (BitVec.ofNat 8 0) % BitVec.ofNat 8 16)).set 15 (((([x0, x1, x2, x3, x4, x5, x6, x7, x8, x9, x10, x11, x12, x13, x14, x15].set 3 (x3 % BitVec.ofNat 8 16)).set 7 (([x0, x1, x2, x3, x4, x5, x6, x7, x8, x9, x10, x11, x12, x13, x14, x15].set 3 (x3 % BitVec.ofNat 8 16)).getD 7 (BitVec.ofNat 8 0) % BitVec.ofNat 8 16)).set 11 ((([x0, x1, x2, x3, x4, x5, x6, x7, x8, x9, x10, x11, x12, x13, x14, x15].set 3 (x3 % BitVec.ofNat 8 16)).set 7 (([x0, x1, x2, x3, x4, x5, x6, x7, x8, x9, x10, x11, x12, x13, x14, x15].set 3 (x3 % BitVec.ofNat 8 16)).getD 7 (BitVec.ofNat 8 0) % BitVec.ofNat 8 16)).getD 11 (BitVec.ofNat 8 0) % BitVec.ofNat 8 16)).getD 15 (BitVec.ofNat 8 0) % BitVec.ofNat 8 16)).set 4 ((((([x0, x1, x2, x3, x4, x5, x6, x7, x8, x9, x10, x11, x12, x13, x14, x15].set 3 (x3 % BitVec.ofNat 8 16)).set 7 (([x0, x1, x2, x3, x4, x5, x6, x7, x8, x9, x10, x11, x12, x13, x14, x15].set 3 (x3 % BitVec.ofNat 8 16)).getD 7 (BitVec.ofNat 8 0) % BitVec.ofNat 8 16)).set 11 ((([x0, x1, x2, x3, x4, x5, x6, x7, x8, x9, x10, x11, x12, x13, x14, x15].set 3 (x3 % BitVec.ofNat 8 16)).set 7 (([x0, x1, x2, x3, x4, x5, x6, x7, x8, x9, x10, x11, x12, x13, x14, x15].set 3 (x3 % BitVec.ofNat 8 16)).getD 7 (BitVec.ofNat 8 0) % BitVec.ofNat 8 16)).getD 11 (BitVec.ofNat 8 0) % BitVec.ofNat 8 16)).set 15 (((([x0, x1, x2, x3, x4, x5, x6, x7, x8, x9, x10, x11, x12, x13, x14, x15].set 3 (x3 % BitVec.ofNat 8 16)).set 7 (([x0, x1, x2, x3, x4, x5, x6, x7, x8, x9, x10, x11, x12, x13, x14, x15].set 3 (x3 % BitVec.ofNat 8 16)).getD 7 (BitVec.ofNat 8 0) % BitVec.ofNat 8 16)).set 11 ((([x0, x1, x2, x3, x4, x5, x6, x7, x8, x9, x10, x11, x12, x13, x14, x15].set 3 (x3 % BitVec.ofNat 8 16)).set 7 (([x0, x1, x2, x3, x4, x5, x6, x7, x8, x9, x10, x11, x12, x13, x14, x15].set 3 (x3 % BitVec.ofNat 8 16)).getD 7 (BitVec.ofNat 8 0) % BitVec.ofNat 8 16)).getD 11 (BitVec.ofNat 8 0) % BitVec.ofNat 8 16)).getD 15 (BitVec.ofNat 8 0) % BitVec.ofNat 8 16)).getD 4 (BitVec.ofNat 8 0) - (((([x0, x1, x2, x3, x4, x5, x6, x7, x8, x9, x10, x11, x12, x13, x14, x15].set 3 (x3 % BitVec.ofNat 8 16)).set 7 (([x0, x1, x2, x3, x4, x5, x6, x7, x8, x9, x10, x11, x12, x13, x14, x15].set 3 (x3 % BitVec.ofNat 8 16)).getD 7 (BitVec.ofNat 8 0) % BitVec.ofNat 8 16)).set 11 ((([x0, x1, x2, x3, x4, x5, x6, x7, x8, x9, x10, x11, x12, x13, x14, x15].set 3 (x3 % BitVec.ofNat 8 16)).set 7 (([x0, x1, x2, x3, x4, x5, x6, x7, x8, x9, x10, x11, x12, x13, x14, x15].set 3 (x3 % BitVec.ofNat 8 16)).getD 7 (BitVec.ofNat 8 0) % BitVec.ofNat 8 16)).getD 11 (BitVec.ofNat 8 0) % BitVec.ofNat 8 16)).set 15 (((([x0, x1, x2, x3, x4, x5, x6, x7, x8, x9, x10, x11, x12, x13, x14, x15].set 3 (x3 % BitVec.ofNat 8 16)).set 7 (([x0, x1, x2, x3, x4, x5, x6, x7, x8, x9, x10, x11, x12, x13, x14, x15].set 3 (x3 % BitVec.ofNat 8 16)).getD 7 (BitVec.ofNat 8 0) % BitVec.ofNat 8 16)).set 11 ((([x0, x1, x2, x3, x4, x5, x6, x7, x8, x9, x10, x11, x12, x13, x14, x15].set 3 (x3 % BitVec.ofNat 8 16)).set 7 (([x0, x1, x2, x3, x4, x5, x6, x7, x8, x9, x10, x11, x12, x13, x14, x15].set 3 (x3 % BitVec.ofNat 8 16)).getD 7 (BitVec.ofNat 8 0) % BitVec.ofNat 8 16)).getD 11 (BitVec.ofNat 8 0) % BitVec.ofNat 8 16)).getD 15 (BitVec.ofNat 8 0) % BitVec.ofNat 8 16)).getD 4 (BitVec.ofNat 8 0) % BitVec.ofNat 8 4)).set 8 (((((([x0, x1, x2, x3, x4, x5, x6, x7, x8, x9, x10, x11, x12, x13, x14, x15].set 3 (x3 % BitVec.ofNat 8 16)).set 7 (([x0, x1, x2, x3, x4, x5, x6, x7, x8, x9, x10, x11, x12, x13, x14, x15].set 3 (x3 % BitVec.ofNat 8 16)).getD 7 (BitVec.ofNat 8 0) % BitVec.ofNat 8 16)).set 11 ((([x0, x1, x2, x3, x4, x5, x6, x7, x8, x9, x10, x11, x12, x13, x14, x15].set 3 (x3 % BitVec.ofNat 8 16)).set 7 (([x0, x1, x2, x3, x4, x5, x6, x7, x8, x9, x10, x11, x12, x13, x14, x15].set 3 (x3 % BitVec.ofNat 8 16)).getD 7 (BitVec.ofNat 8 0) % BitVec.ofNat 8 16)).getD 11 (BitVec.ofNat 8 0) % BitVec.ofNat 8 16)).set 15 (((([x0, x1, x2, x3, x4, x5, x6, x7, x8, x9, x10, x11, x12, x13, x14, x15].set 3 (x3 % BitVec.ofNat 8 16)).set 7 (([x0, x1, x2, x3, x4, x5, x6, x7, x8, x9, x10, x11, x12, x13, x14, x15].set 3 (x3 % BitVec.ofNat 8 16)).getD 7 (BitVec.ofNat 8 0) % BitVec.ofNat 8 16)).set 11 ((([x0, x1, x2, x3, x4, x5, x6, x7, x8, x9, x10, x11, x12, x13, x14, x15].set 3 (x3 % BitVec.ofNat 8 16)).set 7 (([x0, x1, x2, x3, x4, x5, x6, x7, x8, x9, x10, x11, x12, x13, x14, x15].set 3 (x3 % BitVec.ofNat 8 16)).getD 7 (BitVec.ofNat 8 0) % BitVec.ofNat 8 16)).getD 11 (BitVec.ofNat 8 0) % BitVec.ofNat 8 16)).getD 15 (BitVec.ofNat 8 0) % BitVec.ofNat 8 16)).set 4 ((((([x0, x1, x2, x3, x4, x5, x6, x7, x8, x9, x10, x11, x12, x13, x14, x15].set 3 (x3 % BitVec.ofNat 8 16)).set 7 (([x0, x1, x2, x3, x4, x5, x6, x7, x8, x9, x10, x11, x12, x13, x14, x15].set 3 (x3 % BitVec.ofNat 8 16)).getD 7 (BitVec.ofNat 8 0) % BitVec.ofNat 8 16)).set 11 ((([x0, x1, x2, x3, x4, x5, x6, x7, x8, x9, x10, x11, x12, x13, x14, x15].set 3 (x3 % BitVec.ofNat 8 16)).set 7 (([x0, x1, x2, x3, x4, x5, x6, x7, x8, x9, x10, x11, x12, x13, x14, x15].set 3 (x3 % BitVec.ofNat 8 16)).getD 7 (BitVec.ofNat 8 0) % BitVec.ofNat 8 16)).getD 11 (BitVec.ofNat 8 0) % BitVec.ofNat 8 16)).set 15 (((([x0, x1, x2, x3, x4, x5, x6, x7, x8, x9, x10, x11, x12, x13, x14, x15].set 3 (x3 % BitVec.ofNat 8 16)).set 7 (([x0, x1, x2, x3, x4, x5, x6, x7, x8, x9, x10, x11, x12, x13, x14, x15].set 3 (x3 % BitVec.ofNat 8 16)).getD 7 (BitVec.ofNat 8 0) % BitVec.ofNat 8 16)).set 11 ((([x0, x1, x2, x3, x4, x5, x6, x7, x8, x9, x10, x11, x12, x13, x14, x15].set 3 (x3 % BitVec.ofNat 8 16)).set 7 (([x0, x1, x2, x3, x4, x5, x6, x7, x8, x9, x10, x11, x12, x13, x14, x15].set 3 (x3 % BitVec.ofNat 8 16)).getD 7 (BitVec.ofNat 8 0) % BitVec.ofNat 8 16)).getD 11 (BitVec.ofNat 8 0) % BitVec.ofNat 8 16)).getD 15 (BitVec.ofNat 8 0) % BitVec.ofNat 8 16)).getD 4 (BitVec.ofNat 8 0) - (((([x0, x1, x2, x3, x4, x5, x6, x7, x8, x9, x10, x11, x12, x13, x14, x15].set 3 (x3 % BitVec.ofNat 8 16)).set 7 (([x0, x1, x2, x3, x4, x5, x6, x7, x8, x9, x10, x11, x12, x13, x14, x15].set 3 (x3 % BitVec.ofNat 8 16)).getD 7 (BitVec.ofNat 8 0) % BitVec.ofNat 8 16)).set 11 ((([x0, x1, x2, x3, x4, x5, x6, x7, x8, x9, x10, x11, x12, x13, x14, x15].set 3 (x3 % BitVec.ofNat 8 16)).set 7 (([x0, x1, x2, x3, x4, x5, x6, x7, x8, x9, x10, x11, x12, x13, x14, x15].set 3 (x3 % BitVec.ofNat 8 16)).getD 7 (BitVec.ofNat 8 0) % BitVec.ofNat 8 16)).getD 11 (BitVec.ofNat 8 0) % BitVec.ofNat 8 16)).set 15 (((([x0, x1, x2, x3, x4, x5, x6, x7, x8, x9, x10, x11, x12, x13, x14, x15].set 3 (x3 % BitVec.ofNat 8 16)).set 7 (([x0, x1, x2, x3, x4, x5, x6, x7, x8, x9, x10, x11, x12, x13, x14, x15].set 3 (x3 % BitVec.ofNat 8 16)).getD 7 (BitVec.ofNat 8 0) % BitVec.ofNat 8 16)).set 11 ((([x0, x1, x2, x3, x4, x5, x6, x7, x8, x9, x10, x11, x12, x13, x14, x15].set 3 (x3 % BitVec.ofNat 8 16)).set 7 (([x0, x1, x2, x3, x4, x5, x6, x7, x8, x9, x10, x11, x12, x13, x14, x15].set 3 (x3 % BitVec.ofNat 8 16)).getD 7 (BitVec.ofNat 8 0) % BitVec.ofNat 8 16)).getD 11 (BitVec.ofNat 8 0) % BitVec.ofNat 8 16)).getD 15 (BitVec.ofNat 8 0) % BitVec.ofNat 8 16)).getD 4 (BitVec.ofNat 8 0) % BitVec.ofNat 8 4)).getD 8 (BitVec.ofNat 8 0) - ((((([x0, x1, x2, x3, x4, x5, x6, x7, x8, x9, x10, x11, x12, x13, x14, x15].set 3 (x3 % BitVec.ofNat 8 16)).set 7 (([x0, x1, x2, x3, x4, x5, x6, x7, x8, x9, x10, x11, x12, x13, x14, x15].set 3 (x3 % BitVec.ofNat 8 16)).getD 7 (BitVec.ofNat 8 0) % BitVec.ofNat 8 16)).set 11 ((([x0, x1, x2, x3, x4, x5, x6, x7, x8, x9, x10, x11, x12, x13, x14, x15].set 3 (x3 % BitVec.ofNat 8 16)).set 7 (([x0, x1, x2, x3, x4, x5, x6, x7, x8, x9, x10, x11, x12, x13, x14, x15].set 3 (x3 % BitVec.ofNat 8 16)).getD 7 (BitVec.ofNat 8 0) % BitVec.ofNat 8 16)).getD 11 (BitVec.ofNat 8 0) % BitVec.ofNat 8 16)).set 15 (((([x0, x1, x2, x3, x4, x5, x6, x7, x8, x9, x10, x11, x12, x13, x14, x15].set 3 (x3 % BitVec.ofNat 8 16)).set 7 (([x0, x1, x2, x3, x4, x5, x6, x7, x8, x9, x10, x11, x12, x13, x14, x15].set 3 (x3 % BitVec.ofNat 8 16)).getD 7 (BitVec.ofNat 8 0) % BitVec.ofNat 8 16)).set 11 ((([x0, x1, x2, x3, x4, x5, x6, x7, x8, x9, x10, x11, x12, x13, x14, x15].set 3 (x3 % BitVec.ofNat 8 16)).set 7 (([x0, x1, x2, x3, x4, x5, x6, x7, x8, x9, x10, x11, x12, x13, x14, x15].set 3 (x3 % BitVec.ofNat 8 16)).getD 7 (BitVec.ofNat 8 0) % BitVec.ofNat 8 16)).getD 11 (BitVec.ofNat 8 0) % BitVec.ofNat 8 16)).getD 15 (BitVec.ofNat 8 0) % BitVec.ofNat 8 16)).set 4 ((((([x0, x1, x2, x3, x4, x5, x6, x7, x8, x9, x10, x11, x12, x13, x14, x15].set 3 (x3 % BitVec.ofNat 8 16)).set 7 (([x0, x1, x2, x3, x4, x5, x6, x7, x8, x9, x10, x11, x12, x13, x14, x15].set 3 (x3 % BitVec.ofNat 8 16)).getD 7 (BitVec.ofNat 8 0) % BitVec.ofNat 8 16)).set 11 ((([x0, x1, x2, x3, x4, x5, x6, x7, x8, x9, x10, x11, x12, x13, x14, x15].set 3 (x3 % BitVec.ofNat 8 16)).set 7 (([x0, x1, x2, x3, x4, x5, x6, x7, x8, x9, x10, x11, x12, x13, x14, x15].set 3 (x3 % BitVec.ofNat 8 16)).getD 7 (BitVec.ofNat 8 0) % BitVec.ofNat 8 16)).getD 11 (BitVec.ofNat 8 0) % BitVec.ofNat 8 16)).set 15 (((([x0, x1, x2, x3, x4, x5, x6, x7, x8, x9, x10, x11, x12, x13, x14, x15].set 3 (x3 % BitVec.ofNat 8 16)).set 7 (([x0, x1, x2, x3, x4, x5, x6, x7, x8, x9, x10, x11, x12, x13, x14, x15].set 3 (x3 % BitVec.ofNat 8 16)).getD 7 (BitVec.ofNat 8 0) % BitVec.ofNat 8 16)).set 11 ((([x0, x1, x2, x3, x4, x5, x6, x7, x8, x9, x10, x11, x12, x13, x14, x15].set 3 (x3 % BitVec.ofNat 8 16)).set 7 (([x0, x1, x2, x3, x4, x5, x6, x7, x8, x9, x10, x11, x12, x13, x14, x15].set 3 (x3 % BitVec.ofNat 8 16)).getD 7 (BitVec.ofNat 8 0) % BitVec.ofNat 8 16)).getD 11 (BitVec.ofNat 8 0) % BitVec.ofNat 8 16)).getD 15 (BitVec.ofNat 8 0) % BitVec.ofNat 8 16)).getD 4 (BitVec.ofNat 8 0) - (((([x0, x1, x2, x3, x4, x5, x6, x7, x8, x9, x10, x11, x12, x13, x14, x15].set 3 (x3 % BitVec.ofNat 8 16)).set 7 (([x0, x1, x2, x3, x4, x5, x6, x7, x8, x9, x10, x11, x12, x13, x14, x15].set 3 (x3 % BitVec.ofNat 8 16)).getD 7 (BitVec.ofNat 8 0) % BitVec.ofNat 8 16)).set 11 ((([x0, x1, x2, x3, x4, x5, x6, x7, x8, x9, x10, x11, x12, x13, x14, x15].set 3 (x3 % BitVec.ofNat 8 16)).set 7 (([x0, x1, x2, x3, x4, x5, x6, x7, x8, x9, x10, x11, x12, x13, x14, x15].set 3 (x3 % BitVec.ofNat 8 16)).getD 7 (BitVec.ofNat 8 0) % BitVec.ofNat 8 16)).getD 11 (BitVec.ofNat 8 0) % BitVec.ofNat 8 16)).set 15 (((([x0, x1, x2, x3, x4, x5, x6, x7, x8, x9, x10, x11, x12, x13, x14, x15].set 3 (x3 % BitVec.ofNat 8 16)).set 7 (([x0, x1, x2, x3, x4, x5, x6, x7, x8, x9, x10, x11, x12, x13, x14, x15].set 3 (x3 % BitVec.ofNat 8 16)).getD 7 (BitVec.ofNat 8 0) % BitVec.ofNat 8 16)).set 11 ((([x0, x1, x2, x3, x4, x5, x6, x7, x8, x9, x10, x11, x12, x13, x14, x15].set 3 (x3 % BitVec.ofNat 8 16)).set 7 (([x0, x1, x2, x3, x4, x5, x6, x7, x8, x9, x10, x11, x12, x13, x14, x15].set 3 (x3 % BitVec.ofNat 8 16)).getD 7 (BitVec.ofNat 8 0) % BitVec.ofNat 8 16)).getD 11 (BitVec.ofNat 8 0) % BitVec.ofNat 8 16)).getD 15 (BitVec.ofNat 8 0) % BitVec.ofNat 8 16)).getD 4 (BitVec.ofNat 8 0) % BitVec.ofNat 8 4)).getD 8 (BitVec.ofNat 8 0) % BitVec.ofNat 8 4)).set 12 ((((((([x0, x1, x2, x3, x4, x5, x6, x7, x8, x9, x10, x11, x12, x13, x14, x15].set 3 (x3 % BitVec.ofNat 8 16)).set 7 (([x0, x1, x2, x3, x4, x5, x6, x7, x8, x9, x10, x11, x12, x13, x14, x15].set 3 (x3 % BitVec.ofNat 8 16)).getD 7 (BitVec.ofNat 8 0) % BitVec.ofNat 8 16)).set 11 ((([x0, x1, x2, x3, x4, x5, x6, x7, x8, x9, x10, x11, x12, x13, x14, x15].set 3 (x3 % BitVec.ofNat 8 16)).set 7 (([x0, x1, x2, x3, x4, x5, x6, x7, x8, x9, x10, x11, x12, x13, x14, x15].set 3 (x3 % BitVec.ofNat 8 16)).getD 7 (BitVec.ofNat 8 0) % BitVec.ofNat 8 16)).getD 11 (BitVec.ofNat 8 0) % BitVec.ofNat 8 16)).set 15 (((([x0, x1, x2, x3, x4, x5, x6, x7, x8, x9, x10, x11, x12, x13, x14, x15].set 3 (x3 % BitVec.ofNat 8 16)).set 7 (([x0, x1, x2, x3, x4, x5, x6, x7, x8, x9, x10, x11, x12, x13, x14, x15].set 3 (x3 % BitVec.ofNat 8 16)).getD 7 (BitVec.ofNat 8 0) % BitVec.ofNat 8 16)).set 11 ((([x0, x1, x2, x3, x4, x5, x6, x7, x8, x9, x10, x11, x12, x13, x14, x15].set 3 (x3 % BitVec.ofNat 8 16)).set 7 (([x0, x1, x2, x3, x4, x5, x6, x7, x8, x9, x10, x11, x12, x13, x14, x15].set 3 (x3 % BitVec.ofNat 8 16)).getD 7 (BitVec.ofNat 8 0) % BitVec.ofNat 8 16)).getD 11 (BitVec.ofNat 8 0) % BitVec.ofNat 8 16)).getD 15 (BitVec.ofNat 8 0) % BitVec.ofNat 8 16)).set 4 ((((([x0, x1, x2, x3, x4, x5, x6, x7, x8, x9, x10, x11, x12, x13, x14, x15].set 3 (x3 % BitVec.ofNat 8 16)).set 7 (([x0, x1, x2, x3, x4, x5, x6, x7, x8, x9, x10, x11, x12, x13, x14, x15].set 3 (x3 % BitVec.ofNat 8 16)).getD 7 (BitVec.ofNat 8 0) % BitVec.ofNat 8 16)).set 11 ((([x0, x1, x2, x3, x4, x5, x6, x7, x8, x9, x10, x11, x12, x13, x14, x15].set 3 (x3 % BitVec.ofNat 8 16)).set 7 (([x0, x1, x2, x3, x4, x5, x6, x7, x8, x9, x10, x11, x12, x13, x14, x15].set 3 (x3 % BitVec.ofNat 8 16)).getD 7 (BitVec.ofNat 8 0) % BitVec.ofNat 8 16)).getD 11 (BitVec.ofNat 8 0) % BitVec.ofNat 8 16)).set 15 (((([x0, x1, x2, x3, x4, x5, x6, x7, x8, x9, x10, x11, x12, x13, x14, x15].set 3 (x3 % BitVec.ofNat 8 16)).set 7 (([x0, x1, x2, x3, x4, x5, x6, x7, x8, x9, x10, x11, x12, x13, x14, x15].set 3 (x3 % BitVec.ofNat 8 16)).getD 7 (BitVec.ofNat 8 0) % BitVec.ofNat 8 16)).set 11 ((([x0, x1, x2, x3, x4, x5, x6, x7, x8, x9, x10, x11, x12, x13, x14, x15].set 3 (x3 % BitVec.ofNat 8 16)).set 7 (([x0, x1, x2, x3, x4, x5, x6, x7, x8, x9, x10, x11, x12, x13, x14, x15].set 3 (x3 % BitVec.ofNat 8 16)).getD 7 (BitVec.ofNat 8 0) % BitVec.ofNat 8 16)).getD 11 (BitVec.ofNat 8 0) % BitVec.ofNat 8 16)).getD 15 (BitVec.ofNat 8 0) % BitVec.ofNat 8 16)).getD 4 (BitVec.ofNat 8 0) - (((([x0, x1, x2, x3, x4, x5, x6, x7, x8, x9, x10, x11, x12, x13, x14, x15].set 3 (x3 % BitVec.ofNat 8 16)).set 7 (([x0, x1, x2, x3, x4, x5, x6, x7, x8, x9, x10, x11, x12, x13, x14, x15].set 3 (x3 % BitVec.ofNat 8 16)).getD 7 (BitVec.ofNat 8 0) % BitVec.ofNat 8 16)).set 11 ((([x0, x1, x2, x3, x4, x5, x6, x7, x8, x9, x10, x11, x12, x13, x14, x15].set 3 (x3 % BitVec.ofNat 8 16)).set 7 (([x0, x1, x2, x3, x4, x5, x6, x7, x8, x9, x10, x11, x12, x13, x14, x15].set 3 (x3 % BitVec.ofNat 8 16)).getD 7 (BitVec.ofNat 8 0) % BitVec.ofNat 8 16)).getD 11 (BitVec.ofNat 8 0) % BitVec.ofNat 8 16)).set 15 (((([x0, x1, x2, x3, x4, x5, x6, x7, x8, x9, x10, x11, x12, x13, x14, x15].set 3 (x3 % BitVec.ofNat 8 16)).set 7 (([x0, x1, x2, x3, x4, x5, x6, x7, x8, x9, x10, x11, x12, x13, x14, x15].set 3 (x3 % BitVec.ofNat 8 16)).getD 7 (BitVec.ofNat 8 0) % BitVec.ofNat 8 16)).set 11 ((([x0, x1, x2, x3, x4, x5, x6, x7, x8, x9, x10, x11, x12, x13, x14, x15].set 3 (x3 % BitVec.ofNat 8 16)).set 7 (([x0, x1, x2, x3, x4, x5, x6, x7, x8, x9, x10, x11, x12, x13, x14, x15].set 3 (x3 % BitVec.ofNat 8 16)).getD 7 (BitVec.ofNat 8 0) % BitVec.ofNat 8 16)).getD 11 (BitVec.ofNat 8 0) % BitVec.ofNat 8 16)).getD 15 (BitVec.ofNat 8 0) % BitVec.ofNat 8 16)).getD 4 (BitVec.ofNat 8 0) % BitVec.ofNat 8 4)).set 8 (((((([x0, x1, x2, x3, x4, x5, x6, x7, x8, x9, x10, x11, x12, x13, x14, x15].set 3 (x3 % BitVec.ofNat 8 16)).set 7 (([x0, x1, x2, x3, x4, x5, x6, x7, x8, x9, x10, x11, x12, x13, x14, x15].set 3 (x3 % BitVec.ofNat 8 16)).getD 7 (BitVec.ofNat 8 0) % BitVec.ofNat 8 16)).set 11 ((([x0, x1, x2, x3, x4, x5, x6, x7, x8, x9, x10, x11, x12, x13, x14, x15].set 3 (x3 % BitVec.ofNat 8 16)).set 7 (([x0, x1, x2, x3, x4, x5, x6, x7, x8, x9, x10, x11, x12, x13, x14, x15].set 3 (x3 % BitVec.ofNat 8 16)).getD 7 (BitVec.ofNat 8 0) % BitVec.ofNat 8 16)).getD 11 (BitVec.ofNat 8 0) % BitVec.ofNat 8 16)).set 15 (((([x0, x1, x2, x3, x4, x5, x6, x7, x8, x9, x10, x11, x12, x13, x14, x15].set 3 (x3 % BitVec.ofNat 8 16)).set 7 (([x0, x1, x2, x3, x4, x5, x6, x7, x8, x9, x10, x11, x12, x13, x14, x15].set 3 (x3 % BitVec.ofNat 8 16)).getD 7 (BitVec.ofNat 8 0) % BitVec.ofNat 8 16)).set 11 ((([x0, x1, x2, x3, x4, x5, x6, x7, x8, x9, x10, x11, x12, x13, x14, x15].set 3 (x3 % BitVec.ofNat 8 16)).set 7 (([x0, x1, x2, x3, x4, x5, x6, x7, x8, x9, x10, x11, x12, x13, x14, x15].set 3 (x3 % BitVec.ofNat 8 16)).getD 7 (BitVec.ofNat 8 0) % BitVec.ofNat 8 16)).getD 11 (BitVec.ofNat 8 0) % BitVec.ofNat 8 16)).getD 15 (BitVec.ofNat 8 0) % BitVec.ofNat 8 16)).set 4 ((((([x0, x1, x2, x3, x4, x5, x6, x7, x8, x9, x10, x11, x12, x13, x14, x15].set 3 (x3 % BitVec.ofNat 8 16)).set 7 (([x0, x1, x2, x3, x4, x5, x6, x7, x8, x9, x10, x11, x12, x13, x14, x15].set 3 (x3 % BitVec.ofNat 8 16)).getD 7 (BitVec.ofNat 8 0) % BitVec.ofNat 8 16)).set 11 ((([x0, x1, x2, x3, x4, x5, x6, x7, x8, x9, x10, x11, x12, x13, x14, x15].set 3 (x3 % BitVec.ofNat 8 16)).set 7 (([x0, x1, x2, x3, x4, x5, x6, x7, x8, x9, x10, x11, x12, x13, x14, x15].set 3 (x3 % BitVec.ofNat 8 16)).getD 7 (BitVec.ofNat 8 0) % BitVec.ofNat 8 16)).getD 11 (BitVec.ofNat 8 0) % BitVec.ofNat 8 16)).set 15 (((([x0, x1, x2, x3, x4, x5, x6, x7, x8, x9, x10, x11, x12, x13, x14, x15].set 3 (x3 % BitVec.ofNat 8 16)).set 7 (([x0, x1, x2, x3, x4, x5, x6, x7, x8, x9, x10, x11, x12, x13, x14, x15].set 3 (x3 % BitVec.ofNat 8 16)).getD 7 (BitVec.ofNat 8 0) % BitVec.ofNat 8 16)).set 11 ((([x0, x1, x2, x3, x4, x5, x6, x7, x8, x9, x10, x11, x12, x13, x14, x15].set 3 (x3 % BitVec.ofNat 8 16)).set 7 (([x0, x1, x2, x3, x4, x5, x6, x7, x8, x9, x10, x11, x12, x13, x14, x15].set 3 (x3 % BitVec.ofNat 8 16)).getD 7 (BitVec.ofNat 8 0) % BitVec.ofNat 8 16)).getD 11 (BitVec.ofNat 8 0) % BitVec.ofNat 8 16)).getD 15 (BitVec.ofNat 8 0) % BitVec.ofNat 8 16)).getD 4 (BitVec.ofNat 8 0) - (((([x0, x1, x2, x3, x4, x5, x6, x7, x8, x9, x10, x11, x12, x13, x14, x15].set 3 (x3 % BitVec.ofNat 8 16)).set 7 (([x0, x1, x2, x3, x4, x5, x6, x7, x8, x9, x10, x11, x12, x13, x14, x15].set 3 (x3 % BitVec.ofNat 8 16)).getD 7 (BitVec.ofNat 8 0) % BitVec.ofNat 8 16)).set 11 ((([x0, x1, x2, x3, x4, x5, x6, x7, x8, x9, x10, x11, x12, x13, x14, x15].set 3 (x3 % BitVec.ofNat 8 16)).set 7 (([x0, x1, x2, x3, x4, x5, x6, x7, x8, x9, x10, x11, x12, x13, x14, x15].set 3 (x3 % BitVec.ofNat 8 16)).getD 7 (BitVec.ofNat 8 0) % BitVec.ofNat 8 16)).getD 11 (BitVec.ofNat 8 0) % BitVec.ofNat 8 16)).set 15 (((([x0, x1, x2, x3, x4, x5, x6, x7, x8, x9, x10, x11, x12, x13, x14, x15].set 3 (x3 % BitVec.ofNat 8 16)).set 7 (([x0, x1, x2, x3, x4, x5, x6, x7, x8, x9, x10, x11, x12, x13, x14, x15].set 3 (x3 % BitVec.ofNat 8 16)).getD 7 (BitVec.ofNat 8 0) % BitVec.ofNat 8 16)).set 11 ((([x0, x1, x2, x3, x4, x5, x6, x7, x8, x9, x10, x11, x12, x13, x14, x15].set 3 (x3 % BitVec.ofNat 8 16)).set 7 (([x0, x1, x2, x3, x4, x5, x6, x7, x8, x9, x10, x11, x12, x13, x14, x15].set 3 (x3 % BitVec.ofNat 8 16)).getD 7 (BitVec.ofNat 8 0) % BitVec.ofNat 8 16)).getD 11 (BitVec.ofNat 8 0) % BitVec.ofNat 8 16)).getD 15 (BitVec.ofNat 8 0) % BitVec.ofNat 8 16)).getD 4 (BitVec.ofNat 8 0) % BitVec.ofNat 8 4)).getD 8 (BitVec.ofNat 8 0) - ((((([x0, x1, x2, x3, x4, x5, x6, x7, x8, x9, x10, x11, x12, x13, x14, x15].set 3 (x3 % BitVec.ofNat 8 16)).set 7 (([x0, x1, x2, x3, x4, x5, x6, x7, x8, x9, x10, x11, x12, x13, x14, x15].set 3 (x3 % BitVec.ofNat 8 16)).getD 7 (BitVec.ofNat 8 0) % BitVec.ofNat 8 16)).set 11 ((([x0, x1, x2, x3, x4, x5, x6, x7, x8, x9, x10, x11, x12, x13, x14, x15].set 3 (x3 % BitVec.ofNat 8 16)).set 7 (([x0, x1, x2, x3, x4, x5, x6, x7, x8, x9, x10, x11, x12, x13, x14, x15].set 3 (x3 % BitVec.ofNat 8 16)).getD 7 (BitVec.ofNat 8 0) % BitVec.ofNat 8 16)).getD 11 (BitVec.ofNat 8 0) % BitVec.ofNat 8 16)).set 15 (((([x0, x1, x2, x3, x4, x5, x6, x7, x8, x9, x10, x11, x12, x13, x14, x15].set 3 (x3 % BitVec.ofNat 8 16)).set 7 (([x0, x1, x2, x3, x4, x5, x6, x7, x8, x9, x10, x11, x12, x13, x14, x15].set 3 (x3 % BitVec.ofNat 8 16)).getD 7 (BitVec.ofNat 8 0) % BitVec.ofNat 8 16)).set 11 ((([x0, x1, x2, x3, x4, x5, x6, x7, x8, x9, x10, x11, x12, x13, x14, x15].set 3 (x3 % BitVec.ofNat 8 16)).set 7 (([x0, x1, x2, x3, x4, x5, x6, x7, x8, x9, x10, x11, x12, x13, x14, x15].set 3 (x3 % BitVec.ofNat 8 16)).getD 7 (BitVec.ofNat 8 0) % BitVec.ofNat 8 16)).getD 11 (BitVec.ofNat 8 0) % BitVec.ofNat 8 16)).getD 15 (BitVec.ofNat 8 0) % BitVec.ofNat 8 16)).set 4 ((((([x0, x1, x2, x3, x4, x5, x6, x7, x8, x9, x10, x11, x12, x13, x14, x15].set 3 (x3 % BitVec.ofNat 8 16)).set 7 (([x0, x1, x2, x3, x4, x5, x6, x7, x8, x9, x10, x11, x12, x13, x14, x15].set 3 (x3 % BitVec.ofNat 8 16)).getD 7 (BitVec.ofNat 8 0) % BitVec.ofNat 8 16)).set 11 ((([x0, x1, x2, x3, x4, x5, x6, x7, x8, x9, x10, x11, x12, x13, x14, x15].set 3 (x3 % BitVec.ofNat 8 16)).set 7 (([x0, x1, x2, x3, x4, x5, x6, x7, x8, x9, x10, x11, x12, x13, x14, x15].set 3 (x3 % BitVec.ofNat 8 16)).getD 7 (BitVec.ofNat 8 0) % BitVec.ofNat 8 16)).getD 11 (BitVec.ofNat 8 0) % BitVec.ofNat 8 16)).set 15 (((([x0, x1, x2, x3, x4, x5, x6, x7, x8, x9, x10, x11, x12, x13, x14, x15].set 3 (x3 % BitVec.ofNat 8 16)).set 7 (([x0, x1, x2, x3, x4, x5, x6, x7, x8, x9, x10, x11, x12, x13, x14, x15].set 3 (x3 % BitVec.ofNat 8 16)).getD 7 (BitVec.ofNat 8 0) % BitVec.ofNat 8 16)).set 11 ((([x0, x1, x2, x3, x4, x5, x6, x7, x8, x9, x10, x11, x12, x13, x14, x15].set 3 (x3 % BitVec.ofNat 8 16)).set 7 (([x0, x1, x2, x3, x4, x5, x6, x7, x8, x9, x10, x11, x12, x13, x14, x15].set 3 (x3 % BitVec.ofNat 8 16)).getD 7 (BitVec.ofNat 8 0) % BitVec.ofNat 8 16)).getD 11 (BitVec.ofNat 8 0) % BitVec.ofNat 8 16)).getD 15 (BitVec.ofNat 8 0) % BitVec.ofNat 8 16)).getD 4 (BitVec.ofNat 8 0) - (((([x0, x1, x2, x3, x4, x5, x6, x7, x8, x9, x10, x11, x12, x13, x14, x15].set 3 (x3 % BitVec.ofNat 8 16)).set 7 (([x0, x1, x2, x3, x4, x5, x6, x7, x8, x9, x10, x11, x12, x13, x14, x15].set 3 (x3 % BitVec.ofNat 8 16)).getD 7 (BitVec.ofNat 8 0) % BitVec.ofNat 8 16)).set 11 ((([x0, x1, x2, x3, x4, x5, x6, x7, x8, x9, x10, x11, x12, x13, x14, x15].set 3 (x3 % BitVec.ofNat 8 16)).set 7 (([x0, x1, x2, x3, x4, x5, x6, x7, x8, x9, x10, x11, x12, x13, x14, x15].set 3 (x3 % BitVec.ofNat 8 16)).getD 7 (BitVec.ofNat 8 0) % BitVec.ofNat 8 16)).getD 11 (BitVec.ofNat 8 0) % BitVec.ofNat 8 16)).set 15 (((([x0, x1, x2, x3, x4, x5, x6, x7, x8, x9, x10, x11, x12, x13, x14, x15].set 3 (x3 % BitVec.ofNat 8 16)).set 7 (([x0, x1, x2, x3, x4, x5, x6, x7, x8, x9, x10, x11, x12, x13, x14, x15].set 3 (x3 % BitVec.ofNat 8 16)).getD 7 (BitVec.ofNat 8 0) % BitVec.ofNat 8 16)).set 11 ((([x0, x1, x2, x3, x4, x5, x6, x7, x8, x9, x10, x11, x12, x13, x14, x15].set 3 (x3 % BitVec.ofNat 8 16)).set 7 (([x0, x1, x2, x3, x4, x5, x6, x7, x8, x9, x10, x11, x12, x13, x14, x15].set 3 (x3 % BitVec.ofNat 8 16)).getD 7 (BitVec.ofNat 8 0) % BitVec.ofNat 8 16)).getD 11 (BitVec.ofNat 8 0) % BitVec.ofNat 8 16)).getD 15 (BitVec.ofNat 8 0) % BitVec.ofNat 8 16)).getD 4 (BitVec.ofNat 8 0) % BitVec.ofNat 8 4)).getD 8 (BitVec.ofNat 8 0) % BitVec.ofNat 8 4)).getD 12 (BitVec.ofNat 8 0) - (((((([x0, x1, x2, x3, x4, x5, x6, x7, x8, x9, x10, x11, x12, x13, x14, x15].set 3 (x3 % BitVec.ofNat 8 16)).set 7 (([x0, x1, x2, x3, x4, x5, x6, x7, x8, x9, x10, x11, x12, x13, x14, x15].set 3 (x3 % BitVec.ofNat 8 16)).getD 7 (BitVec.ofNat 8 0) % BitVec.ofNat 8 16)).set 11 ((([x0, x1, x2, x3, x4, x5, x6, x7, x8, x9, x10, x11, x12, x13, x14, x15].set 3 (x3 % BitVec.ofNat 8 16)).set 7 (([x0, x1, x2, x3, x4, x5, x6, x7, x8, x9, x10, x11, x12, x13, x14, x15].set 3 (x3 % BitVec.ofNat 8 16)).getD 7 (BitVec.ofNat 8 0) % BitVec.ofNat 8 16)).getD 11 (BitVec.ofNat 8 0) % BitVec.ofNat 8 16)).set 15 (((([x0, x1, x2, x3, x4, x5, x6, x7, x8, x9, x10, x11, x12, x13, x14, x15].set 3 (x3 % BitVec.ofNat 8 16)).set 7 (([x0, x1, x2, x3, x4, x5, x6, x7, x8, x9, x10, x11, x12, x13, x14, x15].set 3 (x3 % BitVec.ofNat 8 16)).getD 7 (BitVec.ofNat 8 0) % BitVec.ofNat 8 16)).set 11 ((([x0, x1, x2, x3, x4, x5, x6, x7, x8, x9, x10, x11, x12, x13, x14, x15].set 3 (x3 % BitVec.ofNat 8 16)).set 7 (([x0, x1, x2, x3, x4, x5, x6, x7, x8, x9, x10, x11, x12, x13, x14, x15].set 3 (x3 % BitVec.ofNat 8 16)).getD 7 (BitVec.ofNat 8 0) % BitVec.ofNat 8 16)).getD 11 (BitVec.ofNat 8 0) % BitVec.ofNat 8 16)).getD 15 (BitVec.ofNat 8 0) % BitVec.ofNat 8 16)).set 4 ((((([x0, x1, x2, x3, x4, x5, x6, x7, x8, x9, x10, x11, x12, x13, x14, x15].set 3 (x3 % BitVec.ofNat 8 16)).set 7 (([x0, x1, x2, x3, x4, x5, x6, x7, x8, x9, x10, x11, x12, x13, x14, x15].set 3 (x3 % BitVec.ofNat 8 16)).getD 7 (BitVec.ofNat 8 0) % BitVec.ofNat 8 16)).set 11 ((([x0, x1, x2, x3, x4, x5, x6, x7, x8, x9, x10, x11, x12, x13, x14, x15].set 3 (x3 % BitVec.ofNat 8 16)).set 7 (([x0, x1, x2, x3, x4, x5, x6, x7, x8, x9, x10, x11, x12, x13, x14, x15].set 3 (x3 % BitVec.ofNat 8 16)).getD 7 (BitVec.ofNat 8 0) % BitVec.ofNat 8 16)).getD 11 (BitVec.ofNat 8 0) % BitVec.ofNat 8 16)).set 15 (((([x0, x1, x2, x3, x4, x5, x6, x7, x8, x9, x10, x11, x12, x13, x14, x15].set 3 (x3 % BitVec.ofNat 8 16)).set 7 (([x0, x1, x2, x3, x4, x5, x6, x7, x8, x9, x10, x11, x12, x13, x14, x15].set 3 (x3 % BitVec.ofNat 8 16)).getD 7 (BitVec.ofNat 8 0) % BitVec.ofNat 8 16)).set 11 ((([x0, x1, x2, x3, x4, x5, x6, x7, x8, x9, x10, x11, x12, x13, x14, x15].set 3 (x3 % BitVec.ofNat 8 16)).set 7 (([x0, x1, x2, x3, x4, x5, x6, x7, x8, x9, x10, x11, x12, x13, x14, x15].set 3 (x3 % BitVec.ofNat 8 16)).getD 7 (BitVec.ofNat 8 0) % BitVec.ofNat 8 16)).getD 11 (BitVec.ofNat 8 0) % BitVec.ofNat 8 16)).getD 15 (BitVec.ofNat 8 0) % BitVec.ofNat 8 16)).getD 4 (BitVec.ofNat 8 0) - (((([x0, x1, x2, x3, x4, x5, x6, x7, x8, x9, x10, x11, x12, x13, x14, x15].set 3 (x3 % BitVec.ofNat 8 16)).set 7 (([x0, x1, x2, x3, x4, x5, x6, x7, x8, x9, x10, x11, x12, x13, x14, x15].set 3 (x3 % BitVec.ofNat 8 16)).getD 7 (BitVec.ofNat 8 0) % BitVec.ofNat 8 16)).set 11 ((([x0, x1, x2, x3, x4, x5, x6, x7, x8, x9, x10, x11, x12, x13, x14, x15].set 3 (x3 % BitVec.ofNat 8 16)).set 7 (([x0, x1, x2, x3, x4, x5, x6, x7, x8, x9, x10, x11, x12, x13, x14, x15].set 3 (x3 % BitVec.ofNat 8 16)).getD 7 (BitVec.ofNat 8 0) % BitVec.ofNat 8 16)).getD 11 (BitVec.ofNat 8 0) % BitVec.ofNat 8 16)).set 15 (((([x0, x1, x2, x3, x4, x5, x6, x7, x8, x9, x10, x11, x12, x13, x14, x15].set 3 (x3 % BitVec.ofNat 8 16)).set 7 (([x0, x1, x2, x3, x4, x5, x6, x7, x8, x9, x10, x11, x12, x13, x14, x15].set 3 (x3 % BitVec.ofNat 8 16)).getD 7 (BitVec.ofNat 8 0) % BitVec.ofNat 8 16)).set 11 ((([x0, x1, x2, x3, x4, x5, x6, x7, x8, x9, x10, x11, x12, x13, x14, x15].set 3 (x3 % BitVec.ofNat 8 16)).set 7 (([x0, x1, x2, x3, x4, x5, x6, x7, x8, x9, x10, x11, x12, x13, x14, x15].set 3 (x3 % BitVec.ofNat 8 16)).getD 7 (BitVec.ofNat 8 0) % BitVec.ofNat 8 16)).getD 11 (BitVec.ofNat 8 0) % BitVec.ofNat 8 16)).getD 15 (BitVec.ofNat 8 0) % BitVec.ofNat 8 16)).getD 4 (BitVec.ofNat 8 0) % BitVec.ofNat 8 4)).set 8 (((((([x0, x1, x2, x3, x4, x5, x6, x7, x8, x9, x10, x11, x12, x13, x14, x15].set 3 (x3 % BitVec.ofNat 8 16)).set 7 (([x0, x1, x2, x3, x4, x5, x6, x7, x8, x9, x10, x11, x12, x13, x14, x15].set 3 (x3 % BitVec.ofNat 8 16)).getD 7 (BitVec.ofNat 8 0) % BitVec.ofNat 8 16)).set 11 ((([x0, x1, x2, x3, x4, x5, x6, x7, x8, x9, x10, x11, x12, x13, x14, x15].set 3 (x3 % BitVec.ofNat 8 16)).set 7 (([x0, x1, x2, x3, x4, x5, x6, x7, x8, x9, x10, x11, x12, x13, x14, x15].set 3 (x3 % BitVec.ofNat 8 16)).getD 7 (BitVec.ofNat 8 0) % BitVec.ofNat 8 16)).getD 11 (BitVec.ofNat 8 0) % BitVec.ofNat 8 16)).set 15 (((([x0, x1, x2, x3, x4, x5, x6, x7, x8, x9, x10, x11, x12, x13, x14, x15].set 3 (x3 % BitVec.ofNat 8 16)).set 7 (([x0, x1, x2, x3, x4, x5, x6, x7, x8, x9, x10, x11, x12, x13, x14, x15].set 3 (x3 % BitVec.ofNat 8 16)).getD 7 (BitVec.ofNat 8 0) % BitVec.ofNat 8 16)).set 11 ((([x0, x1, x2, x3, x4, x5, x6, x7, x8, x9, x10, x11, x12, x13, x14, x15].set 3 (x3 % BitVec.ofNat 8 16)).set 7 (([x0, x1, x2, x3, x4, x5, x6, x7, x8, x9, x10, x11, x12, x13, x14, x15].set 3 (x3 % BitVec.ofNat 8 16)).getD 7 (BitVec.ofNat 8 0) % BitVec.ofNat 8 16)).getD 11 (BitVec.ofNat 8 0) % BitVec.ofNat 8 16)).getD 15 (BitVec.ofNat 8 0) % BitVec.ofNat 8 16)).set 4 ((((([x0, x1, x2, x3, x4, x5, x6, x7, x8, x9, x10, x11, x12, x13, x14, x15].set 3 (x3 % BitVec.ofNat 8 16)).set 7 (([x0, x1, x2, x3, x4, x5, x6, x7, x8, x9, x10, x11, x12, x13, x14, x15].set 3 (x3 % BitVec.ofNat 8 16)).getD 7 (BitVec.ofNat 8 0) % BitVec.ofNat 8 16)).set 11 ((([x0, x1, x2, x3, x4, x5, x6, x7, x8, x9, x10, x11, x12, x13, x14, x15].set 3 (x3 % BitVec.ofNat 8 16)).set 7 (([x0, x1, x2, x3, x4, x5, x6, x7, x8, x9, x10, x11, x12, x13, x14, x15].set 3 (x3 % BitVec.ofNat 8 16)).getD 7 (BitVec.ofNat 8 0) % BitVec.ofNat 8 16)).getD 11 (BitVec.ofNat 8 0) % BitVec.ofNat 8 16)).set 15 (((([x0, x1, x2, x3, x4, x5, x6, x7, x8, x9, x10, x11, x12, x13, x14, x15].set 3 (x3 % BitVec.ofNat 8 16)).set 7 (([x0, x1, x2, x3, x4, x5, x6, x7, x8, x9, x10, x11, x12, x13, x14, x15].set 3 (x3 % BitVec.ofNat 8 16)).getD 7 (BitVec.ofNat 8 0) % BitVec.ofNat 8 16)).set 11 ((([x0, x1, x2, x3, x4, x5, x6, x7, x8, x9, x10, x11, x12, x13, x14, x15].set 3 (x3 % BitVec.ofNat 8 16)).set 7 (([x0, x1, x2, x3, x4, x5, x6, x7, x8, x9, x10, x11, x12, x13, x14, x15].set 3 (x3 % BitVec.ofNat 8 16)).getD 7 (BitVec.ofNat 8 0) % BitVec.ofNat 8 16)).getD 11 (BitVec.ofNat 8 0) % BitVec.ofNat 8 16)).getD 15 (BitVec.ofNat 8 0) % BitVec.ofNat 8 16)).getD 4 (BitVec.ofNat 8 0) - (((([x0, x1, x2, x3, x4, x5, x6, x7, x8, x9, x10, x11, x12, x13, x14, x15].set 3 (x3 % BitVec.ofNat 8 16)).set 7 (([x0, x1, x2, x3, x4, x5, x6, x7, x8, x9, x10, x11, x12, x13, x14, x15].set 3 (x3 % BitVec.ofNat 8 16)).getD 7 (BitVec.ofNat 8 0) % BitVec.ofNat 8 16)).set 11 ((([x0, x1, x2, x3, x4, x5, x6, x7, x8, x9, x10, x11, x12, x13, x14, x15].set 3 (x3 % BitVec.ofNat 8 16)).set 7 (([x0, x1, x2, x3, x4, x5, x6, x7, x8, x9, x10, x11, x12, x13, x14, x15].set 3 (x3 % BitVec.ofNat 8 16)).getD 7 (BitVec.ofNat 8 0) % BitVec.ofNat 8 16)).getD 11 (BitVec.ofNat 8 0) % BitVec.ofNat 8 16)).set 15 (((([x0, x1, x2, x3, x4, x5, x6, x7, x8, x9, x10, x11, x12, x13, x14, x15].set 3 (x3 % BitVec.ofNat 8 16)).set 7 (([x0, x1, x2, x3, x4, x5, x6, x7, x8, x9, x10, x11, x12, x13, x14, x15].set 3 (x3 % BitVec.ofNat 8 16)).getD 7 (BitVec.ofNat 8 0) % BitVec.ofNat 8 16)).set 11 ((([x0, x1, x2, x3, x4, x5, x6, x7, x8, x9, x10, x11, x12, x13, x14, x15].set 3 (x3 % BitVec.ofNat 8 16)).set 7 (([x0, x1, x2, x3, x4, x5, x6, x7, x8, x9, x10, x11, x12, x13, x14, x15].set 3 (x3 % BitVec.ofNat 8 16)).getD 7 (BitVec.ofNat 8 0) % BitVec.ofNat 8 16)).getD 11 (BitVec.ofNat 8 0) % BitVec.ofNat 8 16)).getD 15 (BitVec.ofNat 8 0) % BitVec.ofNat 8 16)).getD 4 (BitVec.ofNat 8 0) % BitVec.ofNat 8 4)).getD 8 (BitVec.ofNat 8 0) - ((((([x0, x1, x2, x3, x4, x5, x6, x7, x8, x9, x10, x11, x12, x13, x14, x15].set 3 (x3 % BitVec.ofNat 8 16)).set 7 (([x0, x1, x2, x3, x4, x5, x6, x7, x8, x9, x10, x11, x12, x13, x14, x15].set 3 (x3 % BitVec.ofNat 8 16)).getD 7 (BitVec.ofNat 8 0) % BitVec.ofNat 8 16)).set 11 ((([x0, x1, x2, x3, x4, x5, x6, x7, x8, x9, x10, x11, x12, x13, x14, x15].set 3 (x3 % BitVec.ofNat 8 16)).set 7 (([x0, x1, x2, x3, x4, x5, x6, x7, x8, x9, x10, x11, x12, x13, x14, x15].set 3 (x3 % BitVec.ofNat 8 16)).getD 7 (BitVec.ofNat 8 0) % BitVec.ofNat 8 16)).getD 11 (BitVec.ofNat 8 0) % BitVec.ofNat 8 16)).set 15 (((([x0, x1, x2, x3, x4, x5, x6, x7, x8, x9, x10, x11, x12, x13, x14, x15].set 3 (x3 % BitVec.ofNat 8 16)).set 7 (([x0, x1, x2, x3, x4, x5, x6, x7, x8, x9, x10, x11, x12, x13, x14, x15].set 3 (x3 % BitVec.ofNat 8 16)).getD 7 (BitVec.ofNat 8 0) % BitVec.ofNat 8 16)).set 11 ((([x0, x1, x2, x3, x4, x5, x6, x7, x8, x9, x10, x11, x12, x13, x14, x15].set 3 (x3 % BitVec.ofNat 8 16)).set 7 (([x0, x1, x2, x3, x4, x5, x6, x7, x8, x9, x10, x11, x12, x13, x14, x15].set 3 (x3 % BitVec.ofNat 8 16)).getD 7 (BitVec.ofNat 8 0) % BitVec.ofNat 8 16)).getD 11 (BitVec.ofNat 8 0) % BitVec.ofNat 8 16)).getD 15 (BitVec.ofNat 8 0) % BitVec.ofNat 8 16)).set 4 ((((([x0, x1, x2, x3, x4, x5, x6, x7, x8, x9, x10, x11, x12, x13, x14, x15].set 3 (x3 % BitVec.ofNat 8 16)).set 7 (([x0, x1, x2, x3, x4, x5, x6, x7, x8, x9, x10, x11, x12, x13, x14, x15].set 3 (x3 % BitVec.ofNat 8 16)).getD 7 (BitVec.ofNat 8 0) % BitVec.ofNat 8 16)).set 11 ((([x0, x1, x2, x3, x4, x5, x6, x7, x8, x9, x10, x11, x12, x13, x14, x15].set 3 (x3 % BitVec.ofNat 8 16)).set 7 (([x0, x1, x2, x3, x4, x5, x6, x7, x8, x9, x10, x11, x12, x13, x14, x15].set 3 (x3 % BitVec.ofNat 8 16)).getD 7 (BitVec.ofNat 8 0) % BitVec.ofNat 8 16)).getD 11 (BitVec.ofNat 8 0) % BitVec.ofNat 8 16)).set 15 (((([x0, x1, x2, x3, x4, x5, x6, x7, x8, x9, x10, x11, x12, x13, x14, x15].set 3 (x3 % BitVec.ofNat 8 16)).set 7 (([x0, x1, x2, x3, x4, x5, x6, x7, x8, x9, x10, x11, x12, x13, x14, x15].set 3 (x3 % BitVec.ofNat 8 16)).getD 7 (BitVec.ofNat 8 0) % BitVec.ofNat 8 16)).set 11 ((([x0, x1, x2, x3, x4, x5, x6, x7, x8, x9, x10, x11, x12, x13, x14, x15].set 3 (x3 % BitVec.ofNat 8 16)).set 7 (([x0, x1, x2, x3, x4, x5, x6, x7, x8, x9, x10, x11, x12, x13, x14, x15].set 3 (x3 % BitVec.ofNat 8 16)).getD 7 (BitVec.ofNat 8 0) % BitVec.ofNat 8 16)).getD 11 (BitVec.ofNat 8 0) % BitVec.ofNat 8 16)).getD 15 (BitVec.ofNat 8 0) % BitVec.ofNat 8 16)).getD 4 (BitVec.ofNat 8 0) - (((([x0, x1, x2, x3, x4, x5, x6, x7, x8, x9, x10, x11, x12, x13, x14, x15].set 3 (x3 % BitVec.ofNat 8 16)).set 7 (([x0, x1, x2, x3, x4, x5, x6, x7, x8, x9, x10, x11, x12, x13, x14, x15].set 3 (x3 % BitVec.ofNat 8 16)).getD 7 (BitVec.ofNat 8 0) % BitVec.ofNat 8 16)).set 11 ((([x0, x1, x2, x3, x4, x5, x6, x7, x8, x9, x10, x11, x12, x13, x14, x15].set 3 (x3 % BitVec.ofNat 8 16)).set 7 (([x0, x1, x2, x3, x4, x5, x6, x7, x8, x9, x10, x11, x12, x13, x14, x15].set 3 (x3 % BitVec.ofNat 8 16)).getD 7 (BitVec.ofNat 8 0) % BitVec.ofNat 8 16)).getD 11 (BitVec.ofNat 8 0) % BitVec.ofNat 8 16)).set 15 (((([x0, x1, x2, x3, x4, x5, x6, x7, x8, x9, x10, x11, x12, x13, x14, x15].set 3 (x3 % BitVec.ofNat 8 16)).set 7 (([x0, x1, x2, x3, x4, x5, x6, x7, x8, x9, x10, x11, x12, x13, x14, x15].set 3 (x3 % BitVec.ofNat 8 16)).getD 7 (BitVec.ofNat 8 0) % BitVec.ofNat 8 16)).set 11 ((([x0, x1, x2, x3, x4, x5, x6, x7, x8, x9, x10, x11, x12, x13, x14, x15].set 3 (x3 % BitVec.ofNat 8 16)).set 7 (([x0, x1, x2, x3, x4, x5, x6, x7, x8, x9, x10, x11, x12, x13, x14, x15].set 3 (x3 % BitVec.ofNat 8 16)).getD 7 (BitVec.ofNat 8 0) % BitVec.ofNat 8 16)).getD 11 (BitVec.ofNat 8 0) % BitVec.ofNat 8 16)).getD 15 (BitVec.ofNat 8 0) % BitVec.ofNat 8 16)).getD 4 (BitVec.ofNat 8 0) % BitVec.ofNat 8 4)).getD 8 (BitVec.ofNat 8 0) % BitVec.ofNat 8 4)).getD 12 (BitVec.ofNat 8 0) % BitVec.ofNat 8 4)) 0 (0 + [x0, x1, x2, x3, x4, x5, x6, x7, x8, x9, x10, x11, x12, x13, x14, x15].length) [x0, x1, x2, x3, x4, x5, x6, x7, x8, x9, x10, x11, x12, x13, x14, x15].length)]), (false, [IV.i64 (0 : Int)])], [(!(↑[x0, x1, x2, x3, x4, x5, x6, x7, x8, x9, x10, x11, x12, x13, x14, x15].length : Int) == (16 : Int)) = false, [x0, x1, x2, x3, x4, x5, x6, x7, x8, x9, x10, x11, x12, x13, x14, x15].length = [x0, x1, x2, x3, x4, x5, x6, x7, x8, x9, x10, x11, x12, x13, x14, x15].length, 0 = 0, (0 + [x0, x1, x2, x3, x4, x5, x6, x7, x8, x9, x10, x11, x12, x13, x14, x15].length) * 1 ≤ 140737488355328 ∧ 0 + [x0, x1, x2, x3, x4, x5, x6, x7, x8, x9, x10, x11, x12, x13, x14, x15].length ≤ 9223372036854775807, (0 : Int) ≤ (3 : Int), 3 < 0 + [x0, x1, x2, x3, x4, x5, x6, x7, x8, x9, x10, x11, x12, x13, x14, x15].length, 3 < [x0, x1, x2, x3, x4, x5, x6, x7, x8, x9, x10, x11, x12, x13, x14, x15].length, (0 : Int) ≤ (3 : Int), 3 < 0 + [x0, x1, x2, x3, x4, x5, x6, x7, x8, x9, x10, x11, x12, x13, x14, x15].length, 3 < [x0, x1, x2, x3, x4, x5, x6, x7, x8, x9, x10, x11, x12, x13, x14, x15].length, inI64 (7 : Int), (0 : Int) ≤ (7 : Int), 7 < 0 + [x0, x1, x2, x3, x4, x5, x6, x7, x8, x9, x10, x11, x12, x13, x14, x15].length, 7 < [x0, x1, x2, x3, x4, x5, x6, x7, x8, x9, x10, x11, x12, x13, x14, x15].length, (0 : Int) ≤ (7 : Int), 7 < 0 + [x0, x1, x2, x3, x4, x5, x6, x7, x8, x9, x10, x11, x12, x13, x14, x15].length, 7 < [x0, x1, x2, x3, x4, x5, x6, x7, x8, x9, x10, x11, x12, x13, x14, x15].length, inI64 (11 : Int), (0 : Int) ≤ (11 : Int), 11 < 0 + [x0, x1, x2, x3, x4, x5, x6, x7, x8, x9, x10, x11, x12, x13, x14, x15].length, 11 < [x0, x1, x2, x3, x4, x5, x6, x7, x8, x9, x10, x11, x12, x13, x14, x15].length, (0 : Int) ≤ (11 : Int), 11 < 0 + [x0, x1, x2, x3, x4, x5, x6, x7, x8, x9, x10, x11, x12, x13, x14, x15].length, 11 < [x0, x1, x2, x3, x4, x5, x6, x7, x8, x9, x10, x11, x12, x13, x14, x15].length, inI64 (15 : Int), (0 : Int) ≤ (15 : Int), 15 < 0 + [x0, x1, x2, x3, x4, x5, x6, x7, x8, x9, x10, x11, x12, x13, x14, x15].length, 15 < [x0, x1, x2, x3, x4, x5, x6, x7, x8, x9, x10, x11, x12, x13, x14, x15].length, (0 : Int) ≤ (15 : Int), 15 < 0 + [x0, x1, x2, x3, x4, x5, x6, x7, x8, x9, x10, x11, x12, x13, x14, x15].length, 15 < [x0, x1, x2, x3, x4, x5, x6, x7, x8, x9, x10, x11, x12, x13, x14, x15].length, inI64 (19 : Int), (0 : Int) ≤ (4 : Int), 4 < 0 + [x0, x1, x2, x3, x4, x5, x6, x7, x8, x9, x10, x11, x12, x13, x14, x15].length, 4 < [x0, x1, x2, x3, x4, x5, x6, x7, x8, x9, x10, x11, x12, x13, x14, x15].length, (0 : Int) ≤ (4 : Int), 4 < 0 + [x0, x1, x2, x3, x4, x5, x6, x7, x8, x9, x10, x11, x12, x13, x14, x15].length, 4 < [x0, x1, x2, x3, x4, x5, x6, x7, x8, x9, x10, x11, x12, x13, x14, x15].length, (0 : Int) ≤ (4 : Int), 4 < 0 + [x0, x1, x2, x3, x4, x5, x6, x7, x8, x9, x10, x11, x12, x13, x14, x15].length, 4 < [x0, x1, x2, x3, x4, x5, x6, x7, x8, x9, x10, x11, x12, x13, x14, x15].length, inI64 (8 : Int), (0 : Int) ≤ (8 : Int), 8 < 0 + [x0, x1, x2, x3, x4, x5, x6, x7, x8, x9, x10, x11, x12, x13, x14, x15].length, 8 < [x0, x1, x2, x3, x4, x5, x6, x7, x8, x9, x10, x11, x12, x13, x14, x15].length, (0 : Int) ≤ (8 : Int), 8 < 0 + [x0, x1, x2, x3, x4, x5, x6, x7, x8, x9, x10, x11, x12, x13, x14, x15].length, 8 < [x0, x1, x2, x3, x4, x5, x6, x7, x8, x9, x10, x11, x12, x13, x14, x15].length, (0 : Int) ≤ (8 : Int), 8 < 0 + [x0, x1, x2, x3, x4, x5, x6, x7, x8, x9, x10, x11, x12, x13, x14, x15].length, 8 < [x0, x1, x2, x3, x4, x5, x6, x7, x8, x9, x10, x11, x12, x13, x14, x15].length, inI64 (12 : Int), (0 : Int) ≤ (12 : Int), 12 < 0 + [x0, x1, x2, x3, x4, x5, x6, x7, x8, x9, x10, x11, x12, x13, x14, x15].length, 12 < [x0, x1, x2, x3, x4, x5, x6, x7, x8, x9, x10, x11, x12, x13, x14, x15].length, (0 : Int) ≤ (12 : Int), 12 < 0 + [x0, x1, x2, x3, x4, x5, x6, x7, x8, x9, x10, x11, x12, x13, x14, x15].length, 12 < [x0, x1, x2, x3, x4, x5, x6, x7, x8, x9, x10, x11, x12, x13, x14, x15].length, (0 : Int) ≤ (12 : Int), 12 < 0 + [x0, x1, x2, x3, x4, x5, x6, x7, x8, x9, x10, x11, x12, x13, x14, x15].length, 12 < [x0, x1, x2, x3, x4, x5, x6, x7, x8, x9, x10, x11, x12, x13, x14, x15].length, inI64 (16 : Int), 0 + (0 + [x0, x1, x2, x3, x4, x5, x6, x7, x8, x9, x10, x11, x12, x13, x14, x15].length) ≤ [x0, x1, x2, x3, x4, x5, x6, x7, x8, x9, x10, x11, x12, x13, x14, x15].length]) := by kernel_rfl
theorem runRCut1 (r : List (BitVec 8)) : fnS Try.prog (lookG tblT) (orcA [(1, [(2, true)])]) [] 30 35 [sc (.d8 r)] =
    some (AV.tup [(false, [IV.d8 (cutL [] 0 0 0)]), (false, [IV.i64 (1 : Int)])], [(!(↑r.length : Int) == (16 : Int)) = true, 0 ≤ 0]) := by kernel_rfl
theorem runPrime  : fnS Try.prog (lookG []) orc0 [] 40 40 [] =
    some (sc (IV.dI (cutL (cutL (cutL (cutL (cutL (cutL (cutL (cutL (cutL (cutL (cutL (cutL (cutL (cutL (cutL (cutL (cutL ((List.replicate 1 (0 : Int)).set 0 (251 : Int)) 0 1 1 ++ cutL ((List.replicate 1 (0 : Int)).set 0 (255 : Int)) 0 1 1) 0 2 2 ++ cutL ((List.replicate 1 (0 : Int)).set 0 (255 : Int)) 0 1 1) 0 3 3 ++ cutL ((List.replicate 1 (0 : Int)).set 0 (255 : Int)) 0 1 1) 0 4 4 ++ cutL ((List.replicate 1 (0 : Int)).set 0 (255 : Int)) 0 1 1) 0 5 5 ++ cutL ((List.replicate 1 (0 : Int)).set 0 (255 : Int)) 0 1 1) 0 6 6 ++ cutL ((List.replicate 1 (0 : Int)).set 0 (255 : Int)) 0 1 1) 0 7 7 ++ cutL ((List.replicate 1 (0 : Int)).set 0 (255 : Int)) 0 1 1) 0 8 8 ++ cutL ((List.replicate 1 (0 : Int)).set 0 (255 : Int)) 0 1 1) 0 9 9 ++ cutL ((List.replicate 1 (0 : Int)).set 0 (255 : Int)) 0 1 1) 0 10 10 ++ cutL ((List.replicate 1 (0 : Int)).set 0 (255 : Int)) 0 1 1) 0 11 11 ++ cutL ((List.replicate 1 (0 : Int)).set 0 (255 : Int)) 0 1 1) 0 12 12 ++ cutL ((List.replicate 1 (0 : Int)).set 0 (255 : Int)) 0 1 1) 0 13 13 ++ cutL ((List.replicate 1 (0 : Int)).set 0 (255 : Int)) 0 1 1) 0 14 14 ++ cutL ((List.replicate 1 (0 : Int)).set 0 (255 : Int)) 0 1 1) 0 15 15 ++ cutL ((List.replicate 1 (0 : Int)).set 0 (255 : Int)) 0 1 1) 0 16 16 ++ cutL ((List.replicate 1 (0 : Int)).set 0 (3 : Int)) 0 1 1) 0 17 17)), [17 ≤ 17]) := by kernel_rfl

theorem rem16 : ∀ x : BitVec 8, x % 16#8 = x &&& 15#8 := by decide +kernel
theorem rem4 : ∀ x : BitVec 8, x - x % 4#8 = x &&& 252#8 := by decide +kernel
theorem and255 : ∀ x : BitVec 8, x &&& 255#8 = x := by decide +kernel
theorem cut_rem (x0 x1 x2 x3 x4 x5 x6 x7 x8 x9 x10 x11 x12 x13 x14 x15 : BitVec 8) : cutV [x0, x1, x2, x3, x4, x5, x6, x7, x8, x9, x10, x11, x12, x13, x14, x15] = ([x0, x1, x2, x3 % 16#8, x4 - x4 % 4#8, x5, x6, x7 % 16#8, x8 - x8 % 4#8, x9, x10, x11 % 16#8, x12 - x12 % 4#8, x13, x14, x15 % 16#8], 0) := by
  unfold cutV; rw [if_pos (by rfl)]
  simp only [cutM, List.zipWith_cons_cons, List.zipWith_nil_left, rem16, rem4, and255]
theorem ctRCut : CtSOk Try.prog 35 (.fn spCut) := FnS_of_fnS gsT fol fun ds r cs h hc => by
  unfold spCut at h
  split at h
  case h_2 => simp at h
  rename_i b
  simp only [Option.some.injEq, Prod.mk.injEq] at h
  obtain ⟨rfl, rfl⟩ := h
  by_cases hb : b.length = 16
  · obtain ⟨x0, x1, x2, x3, x4, x5, x6, x7, x8, x9, x10, x11, x12, x13, x14, x15, rfl⟩ := list16 hb
    refine use_run (runRCut x0 x1 x2 x3 x4 x5 x6 x7 x8 x9 x10 x11 x12 x13 x14 x15) (by rw [cut_rem]; rfl) ?_
    simp only [AllP, inI64]
    and_intros <;> first | omega | trivial
  · refine use_run (runRCut1 b) (by rw [cutV, if_neg hb]; rfl) ⟨?_, by omega, trivial⟩
    simp only [Bool.not_eq_true', beq_eq_false_iff_ne, ne_eq]
    omega
def Pr : Nat := 1361129467683753853853498429727072845819
theorem Pr_pos : 0 < Pr := by decide
def PrL : List Int := [251, 255, 255, 255, 255, 255, 255, 255, 255, 255, 255, 255, 255, 255, 255, 255, 3]
theorem PrL_dg : PrL = dg Pr := by
  have h1 : IsD PrL := by
    intro d hd
    have : PrL.all (fun d => decide (0 ≤ d) && decide (d < 256)) = true := by decide
    have := List.all_eq_true.1 this d hd
    simpa using this
  have h2 : nv PrL = Pr := by decide
  rw [← h2]
  exact eq_dg h1 (.inr (by decide))
def spPrimeL : List AV → Option (AV × List Prop)
  | [] => some (sc (.dI PrL), [])
  | _ => none
def spPrime : List AV → Option (AV × List Prop)
  | [] => some (sc (.dN Pr), [])
  | _ => none
theorem ctPrimeL : CtSOk Try.prog 40 (.fn spPrimeL) := FnS_of_fnS gs0 fol fun ds r cs h hc => by
  unfold spPrimeL at h
  split at h
  case h_2 => simp at h
  simp only [Option.some.injEq, Prod.mk.injEq] at h
  obtain ⟨rfl, rfl⟩ := h
  exact use_run runPrime rfl ⟨by omega, trivial⟩
theorem ctPrime : CtSOk Try.prog 40 (.fn spPrime) := FnS_num ctPrimeL fun ds r cs h hc => by
  unfold spPrime at h
  split at h
  case h_2 => simp at h
  simp only [Option.some.injEq, Prod.mk.injEq] at h
  obtain ⟨rfl, rfl⟩ := h
  exact ⟨[], by rw [show ([] : List AV).map exA = [] from rfl, spPrimeL, PrL_dg]; rfl, trivial⟩
end Go.Proofs.Ytmedjfcmkalblaa
/- Plain law of layer 11: the tag's number. Own work. -/
namespace Go.Proofs.Ytmedjfcmkalblaa
open Go.Ev Go.Sp Go.RowKit
set_option maxRecDepth 100000
/-- The block of 16 bytes (or what is left) at 16 j, with a 1 behind it. -/
def blkL (b : List (BitVec 8)) (j : Nat) : List (BitVec 8) := (b.drop (16 * j)).take 16 ++ [1#8]
def blkN (b : List (BitVec 8)) (j : Nat) : Nat := bv (blkL b j)
def polyX (r : Nat) (b : List (BitVec 8)) : Nat → Nat
  | 0 => 0
  | j + 1 => (polyX r b j + blkN b j) * r % Pr
def polyA (r : Nat) (b : List (BitVec 8)) : Nat → Nat
  | 0 => 0
  | j + 1 => t1 (t1 ((polyA r b j + blkN b j) * r))
theorem blkN_lt (b : List (BitVec 8)) (j : Nat) : blkN b j < 680564733841876926926749214863536422912 := by
  have h := bv_append ((b.drop (16 * j)).take 16) [1#8]
  have h1 := bv_lt ((b.drop (16 * j)).take 16)
  have h2 : ((b.drop (16 * j)).take 16).length ≤ 16 := by simp; omega
  have h3 : (256 : Nat) ^ ((b.drop (16 * j)).take 16).length ≤ 256 ^ 16 := Nat.pow_le_pow_right (by omega) h2
  have h4 : (256 : Nat) ^ 16 = 340282366920938463463374607431768211456 := by decide
  have h5 : bv [1#8] = 1 := by decide
  unfold blkN blkL
  rw [h, h5]
  omega
theorem t1_mod (n : Nat) : t1 n % Pr = n % Pr := by
  have h : n = n % P130 + P130 * (n / P130) := (Nat.mod_add_div n P130).symm
  have hp : P130 = Pr + 5 := by decide
  have h2 : t1 n + Pr * (n / P130) = n := by
    unfold t1
    generalize n / P130 = q at *
    generalize n % P130 = m at *
    rw [hp, Nat.add_mul] at h
    omega
  have h3 : (t1 n + Pr * (n / P130)) % Pr = t1 n % Pr := Nat.add_mul_mod_self_left _ _ _
  rw [h2] at h3
  exact h3.symm
theorem t1_t1_lt {n : Nat} (h : n < p256) : t1 (t1 n) < 1361129467683753853853498429727072845829 := by
  have h1 : t1 n < 2722258935367507707706996859454145691648 := by unfold t1 P130; unfold p256 at h; omega
  generalize t1 n = m at *
  unfold t1 P130
  omega
theorem poly_inv {r : Nat} (hr : r < 21267647932558653966460912964485513216) (b : List (BitVec 8)) : ∀ j, polyA r b j < 1361129467683753853853498429727072845829 ∧ polyA r b j % Pr = polyX r b j := by
  intro j
  induction j with
  | zero => exact ⟨show 0 < 1361129467683753853853498429727072845829 by decide, rfl⟩
  | succ j ih =>
    have hb := blkN_lt b j
    have hs : polyA r b j + blkN b j < 2041694201525630780780247644590609268741 := by omega
    have hp : (polyA r b j + blkN b j) * r < p256 := Nat.lt_of_lt_of_le (Nat.mul_lt_mul'' hs hr) (by decide)
    refine ⟨t1_t1_lt hp, ?_⟩
    show t1 (t1 _) % Pr = (polyX r b j + blkN b j) * r % Pr
    rw [t1_mod, t1_mod, ← ih.2, Nat.mul_mod, Nat.mul_mod (polyA r b j % Pr + blkN b j), Nat.mod_add_mod]
theorem poly_prod {r : Nat} (hr : r < 21267647932558653966460912964485513216) (b : List (BitVec 8)) (j : Nat) : polyA r b j + blkN b j < p256 ∧ (polyA r b j + blkN b j) * r < p256 := by
  have hb := blkN_lt b j
  have h := (poly_inv hr b j).1
  have hs : polyA r b j + blkN b j < 2041694201525630780780247644590609268741 := by omega
  exact ⟨Nat.lt_trans hs (by decide), Nat.lt_of_lt_of_le (Nat.mul_lt_mul'' hs hr) (by decide)⟩
theorem polyX_lt (r : Nat) (b : List (BitVec 8)) (j : Nat) : polyX r b j < Pr := by
  cases j with
  | zero => exact Pr_pos
  | succ j => exact Nat.mod_lt _ Pr_pos
end Go.Proofs.Ytmedjfcmkalblaa
/- Contracts of layer 11: the tag. Own work. -/
namespace Go.Proofs.Ytmedjfcmkalblaa
open Go.Ev Go.Sp Go.RowKit
set_option maxRecDepth 100000
def tblG : List (FuncId × CtS) := [(44, .fn spCut), (47, .fn spPTimes), (46, .fn (sp2 addV)), (48, .fn (sp2 subV)), (49, .fn spPick), (45, .fn spFrom), (50, .fn spBytes)]
theorem okG : TblOk Try.prog tblG := ⟨⟨ctCut, by kernel_rfl⟩, ⟨ctPTimes, by kernel_rfl⟩, ⟨ctAdd, by kernel_rfl⟩, ⟨ctSub, by kernel_rfl⟩, ⟨ctPick, by kernel_rfl⟩, ⟨ctFrom, by kernel_rfl⟩, ⟨ctBytes, by kernel_rfl⟩, trivial⟩
theorem gsG : GSound Try.prog (upG (lookG tblG)) := GSound_of_tbl okG
def tgTd : List Nat := [1, 8, 10, 12, 13]
def tgInv (b : List (BitVec 8)) (r s a : N4) (i : Int) : St := ⟨slotsOf 91 [(1, sc (.sl 0 0 b.length)), (8, sc (.ptr 1 0)), (10, sc (.ptr 2 0)), (12, sc (.ptr 3 0)), (13, sc (.i64 i))], [(0, ⟨false, [.v8 b.length b]⟩), (1, ⟨true, [.n4 r]⟩), (2, ⟨true, [.n4 s]⟩), (3, ⟨true, [.n4 a]⟩)], 16⟩
theorem tgRound (b : List (BitVec 8)) (r s a : N4) (i : Int) : roundS Try.prog (lookG tblG) (orcP [(8, [(3, true)])] [(10, [9])]) [] 10 tgTd (bodyAt Try.prog 30 8) (tgInv b r s a i) =
    some (Ex.normal, St.mk (slotsOf 91 [(1, sc (IV.sl 0 0 b.length)), (8, sc (IV.ptr 1 0)), (10, sc (IV.ptr 2 0)), (12, sc (IV.ptr 3 0)), (13, sc (IV.i64 (i + (16 : Int))))]) [(0, Blk.mk false [IV.v8 b.length b]), (1, Blk.mk true [IV.n4 r]), (2, Blk.mk true [IV.n4 s]), (3, Blk.mk true [IV.n4 (timesN (ofN (val a + val (fromV (cutL [] 0 0 0 ++ cutL b (0 + i.toNat) ((if (↑b.length : Int) < i + (16 : Int) then (↑b.length : Int) else i + (16 : Int)).toNat - i.toNat) b.length ++ (List.replicate 1 (BitVec.ofNat 8 0)).set 0 (BitVec.ofNat 8 1))).fst)) r)])] 16, [decide (i < (↑b.length : Int)) = true, inI64 (i + (16 : Int)), (0 : Int) ≤ i, (0 : Int) ≤ if (↑b.length : Int) < i + (16 : Int) then (↑b.length : Int) else i + (16 : Int), i.toNat ≤ (if (↑b.length : Int) < i + (16 : Int) then (↑b.length : Int) else i + (16 : Int)).toNat, (if (↑b.length : Int) < i + (16 : Int) then (↑b.length : Int) else i + (16 : Int)).toNat ≤ b.length, 0 + i.toNat + ((if (↑b.length : Int) < i + (16 : Int) then (↑b.length : Int) else i + (16 : Int)).toNat - i.toNat) ≤ b.length, 0 ≤ 0, (0 + ((if (↑b.length : Int) < i + (16 : Int) then (↑b.length : Int) else i + (16 : Int)).toNat - i.toNat)) * 1 ≤ 140737488355328 ∧ 0 + ((if (↑b.length : Int) < i + (16 : Int) then (↑b.length : Int) else i + (16 : Int)).toNat - i.toNat) ≤ 9223372036854775807, 1 = 1, 0 + ((if (↑b.length : Int) < i + (16 : Int) then (↑b.length : Int) else i + (16 : Int)).toNat - i.toNat) = (cutL [] 0 0 0 ++ cutL b (0 + i.toNat) ((if (↑b.length : Int) < i + (16 : Int) then (↑b.length : Int) else i + (16 : Int)).toNat - i.toNat) b.length).length, (0 + ((if (↑b.length : Int) < i + (16 : Int) then (↑b.length : Int) else i + (16 : Int)).toNat - i.toNat) + 1) * 1 ≤ 140737488355328 ∧ 0 + ((if (↑b.length : Int) < i + (16 : Int) then (↑b.length : Int) else i + (16 : Int)).toNat - i.toNat) + 1 ≤ 9223372036854775807, 0 + ((if (↑b.length : Int) < i + (16 : Int) then (↑b.length : Int) else i + (16 : Int)).toNat - i.toNat) + 1 = (cutL [] 0 0 0 ++ cutL b (0 + i.toNat) ((if (↑b.length : Int) < i + (16 : Int) then (↑b.length : Int) else i + (16 : Int)).toNat - i.toNat) b.length ++ (List.replicate 1 (BitVec.ofNat 8 0)).set 0 (BitVec.ofNat 8 1)).length, val (ofN (val a + val (fromV (cutL [] 0 0 0 ++ cutL b (0 + i.toNat) ((if (↑b.length : Int) < i + (16 : Int) then (↑b.length : Int) else i + (16 : Int)).toNat - i.toNat) b.length ++ (List.replicate 1 (BitVec.ofNat 8 0)).set 0 (BitVec.ofNat 8 1))).fst)) * val r < p256, inI64 (i + (16 : Int))]) := by kernel_rfl
theorem tgExit (b : List (BitVec 8)) (r s a : N4) (i : Int) : roundS Try.prog (lookG tblG) (orcP [(8, [(3, false)])] [(10, [9])]) [] 10 tgTd (bodyAt Try.prog 30 8) (tgInv b r s a i) =
    some (Ex.exit 0, St.mk (slotsOf 91 [(1, sc (IV.sl 0 0 b.length)), (8, sc (IV.ptr 1 0)), (10, sc (IV.ptr 2 0)), (12, sc (IV.ptr 3 0)), (13, sc (IV.i64 i))]) [(0, Blk.mk false [IV.v8 b.length b]), (1, Blk.mk true [IV.n4 r]), (2, Blk.mk true [IV.n4 s]), (3, Blk.mk true [IV.n4 a])] 16, [decide (i < (↑b.length : Int)) = false]) := by kernel_rfl
theorem runTag (k b : List (BitVec 8)) (r s a : N4) (i : Int) : fnS Try.prog (lookG tblG) (orcP [(1, [(2, false)])] [(3, [2]), (5, [2])]) [⟨8, tgTd, .exit 0, tgInv b r s a i⟩] 10 30 [sc (.d8 k), sc (.d8 b)] =
    some (AV.tup [(false, [IV.d8 (cutL (bl (val (ofN (val (if (if val (if (if val a < 1361129467683753853853498429727072845819 then BitVec.ofNat 64 1 else BitVec.ofNat 64 0) = BitVec.ofNat 64 0 then ofN (val a + p256 - 1361129467683753853853498429727072845819) else a) < 1361129467683753853853498429727072845819 then BitVec.ofNat 64 1 else BitVec.ofNat 64 0) = BitVec.ofNat 64 0 then ofN (val (if (if val a < 1361129467683753853853498429727072845819 then BitVec.ofNat 64 1 else BitVec.ofNat 64 0) = BitVec.ofNat 64 0 then ofN (val a + p256 - 1361129467683753853853498429727072845819) else a) + p256 - 1361129467683753853853498429727072845819) else if (if val a < 1361129467683753853853498429727072845819 then BitVec.ofNat 64 1 else BitVec.ofNat 64 0) = BitVec.ofNat 64 0 then ofN (val a + p256 - 1361129467683753853853498429727072845819) else a) + val s))) 32) 0 16 (bl (val (ofN (val (if (if val (if (if val a < 1361129467683753853853498429727072845819 then BitVec.ofNat 64 1 else BitVec.ofNat 64 0) = BitVec.ofNat 64 0 then ofN (val a + p256 - 1361129467683753853853498429727072845819) else a) < 1361129467683753853853498429727072845819 then BitVec.ofNat 64 1 else BitVec.ofNat 64 0) = BitVec.ofNat 64 0 then ofN (val (if (if val a < 1361129467683753853853498429727072845819 then BitVec.ofNat 64 1 else BitVec.ofNat 64 0) = BitVec.ofNat 64 0 then ofN (val a + p256 - 1361129467683753853853498429727072845819) else a) + p256 - 1361129467683753853853498429727072845819) else if (if val a < 1361129467683753853853498429727072845819 then BitVec.ofNat 64 1 else BitVec.ofNat 64 0) = BitVec.ofNat 64 0 then ofN (val a + p256 - 1361129467683753853853498429727072845819) else a) + val s))) 32).length)]), (false, [IV.i64 (0 : Int)])], [(!(↑k.length : Int) == (32 : Int)) = false, (0 : Int) ≤ (16 : Int), 0 ≤ 16, 16 ≤ k.length, 16 ≤ k.length, (cutV (cutL k 0 16 k.length)).fst.length = (cutV (cutL k 0 16 k.length)).fst.length, (0 : Int) ≤ (16 : Int), 16 ≤ k.length, k.length ≤ k.length, 16 + (k.length - 16) ≤ k.length, LoopTo Try.prog (bodyAt Try.prog 30 8) (St.mk (slotsOf 91 [(1, sc (IV.sl 0 0 b.length)), (8, sc (IV.ptr 1 0)), (10, sc (IV.ptr 2 0)), (12, sc (IV.ptr 3 0)), (13, sc (IV.i64 (0 : Int)))]) [(0, Blk.mk false [IV.v8 b.length b]), (1, Blk.mk true [IV.n4 (fromV (cutV (cutL k 0 16 k.length)).fst).fst]), (2, Blk.mk true [IV.n4 (fromV (cutL k 16 (k.length - 16) k.length)).fst]), (3, Blk.mk true [IV.n4 (N4.mk (BitVec.ofNat 64 0) (BitVec.ofNat 64 0) (BitVec.ofNat 64 0) (BitVec.ofNat 64 0))])] 16) (Ex.exit 0) (St.mk (slotsOf 91 [(1, sc (IV.sl 0 0 b.length)), (8, sc (IV.ptr 1 0)), (10, sc (IV.ptr 2 0)), (12, sc (IV.ptr 3 0)), (13, sc (IV.i64 i))]) [(0, Blk.mk false [IV.v8 b.length b]), (1, Blk.mk true [IV.n4 r]), (2, Blk.mk true [IV.n4 s]), (3, Blk.mk true [IV.n4 a])] 16), inI64 (1 : Int), inI64 (2 : Int), (0 : Int) ≤ (16 : Int), (0 : Int) ≤ (16 : Int), 0 ≤ 16, 16 ≤ 16, 16 ≤ (bl (val (ofN (val (if (if val (if (if val a < 1361129467683753853853498429727072845819 then BitVec.ofNat 64 1 else BitVec.ofNat 64 0) = BitVec.ofNat 64 0 then ofN (val a + p256 - 1361129467683753853853498429727072845819) else a) < 1361129467683753853853498429727072845819 then BitVec.ofNat 64 1 else BitVec.ofNat 64 0) = BitVec.ofNat 64 0 then ofN (val (if (if val a < 1361129467683753853853498429727072845819 then BitVec.ofNat 64 1 else BitVec.ofNat 64 0) = BitVec.ofNat 64 0 then ofN (val a + p256 - 1361129467683753853853498429727072845819) else a) + p256 - 1361129467683753853853498429727072845819) else if (if val a < 1361129467683753853853498429727072845819 then BitVec.ofNat 64 1 else BitVec.ofNat 64 0) = BitVec.ofNat 64 0 then ofN (val a + p256 - 1361129467683753853853498429727072845819) else a) + val s))) 32).length, 16 ≤ (bl (val (ofN (val (if (if val (if (if val a < 1361129467683753853853498429727072845819 then BitVec.ofNat 64 1 else BitVec.ofNat 64 0) = BitVec.ofNat 64 0 then ofN (val a + p256 - 1361129467683753853853498429727072845819) else a) < 1361129467683753853853498429727072845819 then BitVec.ofNat 64 1 else BitVec.ofNat 64 0) = BitVec.ofNat 64 0 then ofN (val (if (if val a < 1361129467683753853853498429727072845819 then BitVec.ofNat 64 1 else BitVec.ofNat 64 0) = BitVec.ofNat 64 0 then ofN (val a + p256 - 1361129467683753853853498429727072845819) else a) + p256 - 1361129467683753853853498429727072845819) else if (if val a < 1361129467683753853853498429727072845819 then BitVec.ofNat 64 1 else BitVec.ofNat 64 0) = BitVec.ofNat 64 0 then ofN (val a + p256 - 1361129467683753853853498429727072845819) else a) + val s))) 32).length]) := by kernel_rfl
theorem runTag1 (k b : List (BitVec 8)) : fnS Try.prog (lookG tblG) (orcA [(1, [(2, true)])]) [] 10 30 [sc (.d8 k), sc (.d8 b)] =
    some (AV.tup [(false, [IV.d8 (cutL [] 0 0 0)]), (false, [IV.i64 (1 : Int)])], [(!(↑k.length : Int) == (32 : Int)) = true, 0 ≤ 0]) := by kernel_rfl
def nBlk (b : List (BitVec 8)) : Nat := (b.length + 15) / 16
theorem blk_cut (b : List (BitVec 8)) (j : Nat) (h : 16 * j < b.length) : cutL [] 0 0 0 ++ cutL b (0 + ((16 * j : Nat) : Int).toNat) ((if (b.length : Int) < ((16 * j : Nat) : Int) + (16 : Int) then (b.length : Int) else ((16 * j : Nat) : Int) + (16 : Int)).toNat - ((16 * j : Nat) : Int).toNat) b.length ++ (List.replicate 1 (BitVec.ofNat 8 0)).set 0 (BitVec.ofNat 8 1) = blkL b j := by
  unfold blkL
  have e : (cutL [] 0 0 0 : List (BitVec 8)) = [] := rfl
  have e1 : (List.replicate 1 (BitVec.ofNat 8 0)).set 0 (BitVec.ofNat 8 1) = [1#8] := rfl
  rw [e, e1, List.nil_append]
  congr 1
  rw [cutL_eq rfl, Int.toNat_natCast, Nat.zero_add, List.take_eq_take_iff, List.length_drop]
  split <;> omega
def tgSt (b : List (BitVec 8)) (r s : N4) (j : Nat) : St := tgInv b r s (ofN (polyA (val r) b j)) ((16 * j : Nat) : Int)
theorem tgLoop (b : List (BitVec 8)) (r s : N4) (hr : val r < 21267647932558653966460912964485513216) (hb : b.length ≤ 4000) : LoopTo Try.prog (bodyAt Try.prog 30 8) (tgInv b r s ⟨0#64, 0#64, 0#64, 0#64⟩ 0) (.exit 0) (tgSt b r s (nBlk b)) := by
  have h0 : tgInv b r s ⟨0#64, 0#64, 0#64, 0#64⟩ 0 = tgSt b r s 0 := by
    unfold tgSt
    rw [show polyA (val r) b 0 = 0 from rfl, show ofN 0 = ⟨0#64, 0#64, 0#64, 0#64⟩ from rfl]
    rfl
  rw [h0]
  refine LoopTo.intro (α := Nat) gsG fol (tgSt b r s) (fun j => j ≤ nBlk b) (fun j => nBlk b - j) (by simp) ?_ 0 (by simp)
  intro j hj
  unfold nBlk at *
  by_cases he : j = (b.length + 15) / 16
  · subst he
    exact .inr ⟨_, _, _, _, _, tgExit b r s _ _, ⟨decide_eq_false (by omega), trivial⟩⟩
  · have hlt : 16 * j < b.length := by omega
    have hq := poly_prod hr b j
    have ha := (poly_inv hr b j).1
    have hl : (blkL b j).length ≤ 17 := by unfold blkL; simp; omega
    have hf : (fromV (blkL b j)).1 = ofN (blkN b j) := by rw [fromV, if_pos (by omega)]; rfl
    have vn : val (ofN (blkN b j)) = blkN b j := val_ofN_of (Nat.lt_trans (blkN_lt b j) (by decide))
    have va : val (ofN (polyA (val r) b j)) = polyA (val r) b j := val_ofN_of (Nat.lt_trans ha (by decide))
    have r0 := tgRound b r s (ofN (polyA (val r) b j)) ((16 * j : Nat) : Int)
    rw [blk_cut b j hlt, hf, vn, va] at r0
    have e : timesN (ofN (polyA (val r) b j + blkN b j)) r = ofN (polyA (val r) b (j + 1)) := by
      rw [timesN, val_ofN_of hq.1]; rfl
    rw [e] at r0
    have ei : ((16 * j : Nat) : Int) + 16 = ((16 * (j + 1) : Nat) : Int) := by omega
    simp only [ei] at r0
    refine .inl ⟨_, _, _, _, _, j + 1, r0, ?_, by omega, by omega⟩
    have l1 : (if (b.length : Int) < ((16 * (j + 1) : Nat) : Int) then (b.length : Int) else ((16 * (j + 1) : Nat) : Int)).toNat ≤ b.length := by split <;> omega
    have pl : (blkL b j).length = ((b.drop (16 * j)).take 16).length + 1 := by unfold blkL; simp
    simp only [AllP, inI64, decide_eq_true_eq]
    and_intros <;> first | omega | exact True.intro | (rw [val_ofN_of hq.1]; exact hq.2) | skip
    · rw [show (cutL [] 0 0 0 : List (BitVec 8)) = [] from rfl, List.nil_append, cutL_eq rfl, List.length_take, List.length_drop]
      split <;> omega
    · rw [pl, List.length_take, List.length_drop]
      split <;> omega
end Go.Proofs.Ytmedjfcmkalblaa
