/- Texts put together: SpJ CtO SpK CtP FdA FdB. Own work. -/
import Derived.Test.YtlgiaglbdifkpaaGreatDoorMgcn
/- Numbers out of bytes, word by word, plainly. Own work; no program in sight. -/
namespace Go.Sp
open Go.Ev (N4 dg nv)

theorem pow8 (k : Nat) : 2 ^ (8 * k) = 256 ^ k := by rw [Nat.pow_mul]
theorem shr_dig (w : BitVec 64) (k : Nat) : BitVec.setWidth 8 (w >>> (8 * k)) = BitVec.ofNat 8 (w.toNat / 256 ^ k) := by
  apply BitVec.eq_of_toNat_eq
  rw [BitVec.toNat_setWidth, BitVec.toNat_ushiftRight, Nat.shiftRight_eq_div_pow, pow8, BitVec.toNat_ofNat]
theorem byte_of (a : N4) {i : Nat} (hi : i < 32) : BitVec.setWidth 8 (a.get (i / 8) >>> (8 * (i % 8))) = BitVec.ofNat 8 (val a / 256 ^ i) := by
  rw [shr_dig]
  apply BitVec.eq_of_toNat_eq
  rw [BitVec.toNat_ofNat, BitVec.toNat_ofNat]
  have e := get_dig a (i := i / 8) (k := i % 8) (by omega) (by omega)
  have e2 : 8 * (i / 8) + i % 8 = i := Nat.div_add_mod i 8
  rw [e2] at e
  exact e
/-- Bytes so far, noughts behind them. -/
def fill (x n i : Nat) : List (BitVec 8) := bl x i ++ List.replicate (n - i) 0#8
theorem fill_zero (x n : Nat) : fill x n 0 = List.replicate n 0#8 := by simp [fill, bl]
theorem fill_all (x n : Nat) : fill x n n = bl x n := by simp [fill]
theorem fill_set (x : Nat) {n i : Nat} (h : i < n) : (fill x n i).set i (BitVec.ofNat 8 (x / 256 ^ i)) = fill x n (i + 1) := by
  unfold fill
  rw [List.set_append_right _ _ (by rw [bl_length]; exact Nat.le_refl _), bl_length, Nat.sub_self]
  obtain ⟨m, hm⟩ : ∃ m, n - i = m + 1 := ⟨n - i - 1, by omega⟩
  have hm2 : n - (i + 1) = m := by omega
  rw [hm, hm2, List.replicate_succ, List.set_cons_zero]
  simp [bl]
theorem val_set (n : N4) (j : Nat) (w : BitVec 64) (h : j < 4) : val (n.set j w) + 256 ^ (8 * j) * (n.get j).toNat = val n + 256 ^ (8 * j) * w.toNat := by
  match j, h with
  | 0, _ => simp only [N4.set, N4.get, val, show (256 : Nat) ^ (8 * 0) = 1 from rfl]; omega
  | 1, _ => simp only [N4.set, N4.get, val, show (256 : Nat) ^ (8 * 1) = 18446744073709551616 from rfl]; omega
  | 2, _ => simp only [N4.set, N4.get, val, show (256 : Nat) ^ (8 * 2) = 340282366920938463463374607431768211456 from rfl]; omega
  | 3, _ => simp only [N4.set, N4.get, val, show (256 : Nat) ^ (8 * 3) = 6277101735386680763835789423207666416102355444464034512896 from rfl]; omega

theorem or_byte (g : BitVec 64) (x : BitVec 8) {k : Nat} (hk : k < 8) (hg : g.toNat < 256 ^ k) : (g ||| BitVec.setWidth 64 x <<< (8 * k)).toNat = g.toNat + 256 ^ k * x.toNat := by
  have hx := x.isLt
  have h1 : x.toNat % 2 ^ 64 = x.toNat := Nat.mod_eq_of_lt (by omega)
  have hb : x.toNat * 256 ^ k < 2 ^ 64 := by
    have e : x.toNat * 256 ^ k ≤ 255 * 256 ^ 7 := Nat.mul_le_mul (by omega) (Nat.pow_le_pow_right (by omega) (by omega))
    exact Nat.lt_of_le_of_lt e (by decide)
  rw [BitVec.toNat_or, BitVec.toNat_shiftLeft, BitVec.toNat_setWidth, h1, Nat.or_comm]
  have h2 : x.toNat <<< (8 * k) % 2 ^ 64 = x.toNat <<< (8 * k) := by rw [Nat.shiftLeft_eq, pow8]; exact Nat.mod_eq_of_lt hb
  rw [h2, ← Nat.shiftLeft_add_eq_or_of_lt (by rw [pow8]; exact hg), Nat.shiftLeft_eq, pow8, Nat.mul_comm, Nat.add_comm]

/-- A byte more, put into its word. -/
theorem put_byte (n : N4) (x : BitVec 8) {i : Nat} (hi : i < 32) (hn : val n < 256 ^ i) :
    n.set (i / 8) (n.get (i / 8) ||| BitVec.setWidth 64 x <<< (8 * (i % 8))) = ofN (val n + 256 ^ i * x.toNat) := by
  have hx := x.isLt
  have e : i = 8 * (i / 8) + i % 8 := (Nat.div_add_mod i 8).symm
  have hp : (256 : Nat) ^ i = 256 ^ (8 * (i / 8)) * 256 ^ (i % 8) := by rw [← Nat.pow_add, ← e]
  have hg : (n.get (i / 8)).toNat < 256 ^ (i % 8) := by
    rw [get_val n (by omega)]
    refine Nat.lt_of_le_of_lt (Nat.mod_le _ _) ?_
    rw [Nat.div_lt_iff_lt_mul (Nat.pow_pos (by omega)), Nat.mul_comm, ← hp]
    exact hn
  have hs := val_set n (i / 8) (n.get (i / 8) ||| BitVec.setWidth 64 x <<< (8 * (i % 8))) (by omega)
  rw [or_byte _ _ (Nat.mod_lt _ (by omega)) hg, Nat.mul_add, ← Nat.mul_assoc, ← hp] at hs
  have hlt : val n + 256 ^ i * x.toNat < p256 := by
    have h1 : 256 ^ i * x.toNat ≤ 256 ^ i * 255 := Nat.mul_le_mul_left _ (by omega)
    have h2 : (256 : Nat) ^ (i + 1) ≤ 256 ^ 32 := Nat.pow_le_pow_right (by omega) (by omega)
    have h3 : (256 : Nat) ^ (i + 1) = 256 ^ i * 256 := Nat.pow_succ ..
    have h4 : p256 = 256 ^ 32 := rfl
    omega
  apply val_inj
  rw [val_ofN, Nat.mod_eq_of_lt hlt]
  omega

theorem bv_take_succ (b : List (BitVec 8)) {i : Nat} (h : i < b.length) : bv (b.take (i + 1)) = bv (b.take i) + 256 ^ i * (b.getD i 0#8).toNat := by
  rw [List.take_succ_eq_append_getElem h, bv_append]
  simp [bv, h, Nat.min_eq_left (Nat.le_of_lt h)]
theorem bv_take_lt (b : List (BitVec 8)) (i : Nat) : bv (b.take i) < 256 ^ i :=
  Nat.lt_of_lt_of_le (bv_lt _) (Nat.pow_le_pow_right (by omega) (by simp; omega))
theorem from_step (b : List (BitVec 8)) {i : Nat} (h : i < b.length) (hi : i < 32) :
    (ofN (bv (b.take i))).set (i / 8) ((ofN (bv (b.take i))).get (i / 8) ||| BitVec.setWidth 64 (b.getD i 0#8) <<< (8 * (i % 8))) = ofN (bv (b.take (i + 1))) := by
  have hlt := bv_take_lt b i
  have hp : (256 : Nat) ^ i ≤ 256 ^ 32 := Nat.pow_le_pow_right (by omega) (by omega)
  have hv : val (ofN (bv (b.take i))) = bv (b.take i) := by
    rw [val_ofN]
    exact Nat.mod_eq_of_lt (Nat.lt_of_lt_of_le hlt hp)
  rw [put_byte _ _ hi (by rw [hv]; exact hlt), hv, bv_take_succ b h]

theorem dbl_step (b : List (BitVec 8)) {i : Nat} (h : i < b.length) (hi : i < 64) (V : Nat) (hV : V = bv (b.take i)) :
    (ofN V).setLo (i / 8) (([ofN V, ofN (V / p256)].getD (i / 8 / 4) N4.zero).get (i / 8 % 4) ||| BitVec.setWidth 64 (b.getD i 0#8) <<< (8 * (i % 8))) = ofN (bv (b.take (i + 1))) ∧
    (ofN (V / p256)).setHi (i / 8) (([ofN V, ofN (V / p256)].getD (i / 8 / 4) N4.zero).get (i / 8 % 4) ||| BitVec.setWidth 64 (b.getD i 0#8) <<< (8 * (i % 8))) = ofN (bv (b.take (i + 1)) / p256) := by
  have hlt := bv_take_lt b i
  have hs := bv_take_succ b h
  by_cases h4 : i < 32
  · have e1 : i / 8 / 4 = 0 := by omega
    have e2 : i / 8 % 4 = i / 8 := by omega
    have h5 : i / 8 < 4 := by omega
    have hp : (256 : Nat) ^ (i + 1) ≤ 256 ^ 32 := Nat.pow_le_pow_right (by omega) (by omega)
    have hp0 : (256 : Nat) ^ i ≤ 256 ^ 32 := Nat.pow_le_pow_right (by omega) (by omega)
    have hl2 := bv_take_lt b (i + 1)
    rw [e1, e2]
    simp only [N4.setLo, N4.setHi, if_pos h5]
    refine ⟨by rw [hV]; exact from_step b h h4, ?_⟩
    have z1 : V / p256 = 0 := Nat.div_eq_of_lt (by rw [hV]; exact Nat.lt_of_lt_of_le hlt hp0)
    have z2 : bv (b.take (i + 1)) / p256 = 0 := Nat.div_eq_of_lt (Nat.lt_of_lt_of_le hl2 hp)
    rw [z1, z2]
  · have e1 : i / 8 / 4 = 1 := by omega
    have e2 : i / 8 % 4 = i / 8 - 4 := by omega
    have h5 : ¬ i / 8 < 4 := by omega
    have e3 : i / 8 - 4 = (i - 32) / 8 := by omega
    have e4 : i % 8 = (i - 32) % 8 := by omega
    have hp : (256 : Nat) ^ i = p256 * 256 ^ (i - 32) := by rw [show p256 = 256 ^ 32 from rfl, ← Nat.pow_add]; congr 1; omega
    have hpos : 0 < p256 := by decide
    have hdiv : V / p256 < 256 ^ (i - 32) := by
      rw [Nat.div_lt_iff_lt_mul hpos, Nat.mul_comm, ← hp, hV]
      exact hlt
    have hle : (256 : Nat) ^ (i - 32) ≤ 256 ^ 32 := Nat.pow_le_pow_right (by omega) (by omega)
    have hv : val (ofN (V / p256)) = V / p256 := by
      rw [val_ofN]
      exact Nat.mod_eq_of_lt (Nat.lt_of_lt_of_le hdiv hle)
    rw [e1, e2, hs, ← hV, hp, Nat.mul_assoc]
    simp only [N4.setLo, N4.setHi, if_neg h5]
    constructor
    · rw [← ofN_mod, ← ofN_mod (V + _), Nat.add_mul_mod_self_left]
    · rw [e3, e4]
      have := put_byte (ofN (V / p256)) (b.getD i 0#8) (i := i - 32) (by omega) (by rw [hv]; exact hdiv)
      rw [hv] at this
      rw [Nat.add_mul_div_left _ _ hpos, ← this]
      rfl
end Go.Sp
/- Contracts: numbers out of bytes, bytes out of numbers. Own work. -/
namespace Go.Proofs.YtlgiaglbdifkpaaGreatDoor
open Go.Ev Go.Sp Go.RowKit
set_option maxRecDepth 100000

/-! ### A number's bytes -/
def bytesTd : List Nat := [1, 3, 7, 8]
def bytesInv (a : N4) (l : List (BitVec 8)) (i : Int) : St := ⟨slotsOf 25 [(1, sc (.ptr 0 0)), (3, sc (.sl 1 0 32)), (7, sc (.i64 32)), (8, sc (.i64 i))], [(0, ⟨true, [.n4 a]⟩), (1, ⟨true, [.v8 32 l]⟩)], 16⟩
theorem bytesRound (a : N4) (l : List (BitVec 8)) (i : Int) : roundS Tryz.prog (lookG []) (orcA [(3, [(0, true)])]) [] 10 bytesTd (bodyAt Tryz.prog 84 3) (bytesInv a l i) =
    some (Ex.normal, St.mk (slotsOf 25 [(1, sc (IV.ptr 0 0)), (3, sc (IV.sl 1 0 32)), (7, sc (IV.i64 (32 : Int))), (8, sc (IV.i64 (i + (1 : Int))))]) [(0, Blk.mk true [IV.n4 a]), (1, Blk.mk true [IV.v8 32 (l.set (0 + i.toNat * 1) (BitVec.setWidth 8 (a.get (0 + (i.tdiv (8 : Int)).toNat * 1) >>> ((8 : Int) * i.tmod (8 : Int)).toNat)))])] 16, [decide (i < (32 : Int)) = true, (8 : Int) ≠ (0 : Int), inI64 (i.tdiv (8 : Int)), (0 : Int) ≤ i.tdiv (8 : Int), (i.tdiv (8 : Int)).toNat < 4, 0 + (i.tdiv (8 : Int)).toNat * 1 < 4, (8 : Int) ≠ (0 : Int), inI64 ((8 : Int) * i.tmod (8 : Int)), (0 : Int) ≤ (8 : Int) * i.tmod (8 : Int), (0 : Int) ≤ i, i.toNat < 32, 0 + i.toNat * 1 < 32, inI64 (i + (1 : Int))]) := by kernel_rfl
theorem bytesExit (a : N4) (l : List (BitVec 8)) (i : Int) : roundS Tryz.prog (lookG []) (orcA [(3, [(0, false)])]) [] 10 bytesTd (bodyAt Tryz.prog 84 3) (bytesInv a l i) =
    some (Ex.exit 0, St.mk (slotsOf 25 [(1, sc (IV.ptr 0 0)), (3, sc (IV.sl 1 0 32)), (7, sc (IV.i64 (32 : Int))), (8, sc (IV.i64 i))]) [(0, Blk.mk true [IV.n4 a]), (1, Blk.mk true [IV.v8 32 l])] 16, [decide (i < (32 : Int)) = false]) := by kernel_rfl
theorem runBytes (a : N4) (l : List (BitVec 8)) (i : Int) : fnS Tryz.prog (lookG []) (orcA []) [⟨3, bytesTd, .exit 0, bytesInv a l i⟩] 10 84 [.val true [.n4 a]] =
    some (sc (IV.d8 (cutL l 0 32 32)), [(0 : Int) ≤ (32 : Int), (0 : Int) ≤ (32 : Int), 32 = 32 ∧ 32 ≤ 281474976710656 ∧ 32 ≤ 9223372036854775807, LoopTo Tryz.prog (bodyAt Tryz.prog 84 3) (St.mk (slotsOf 25 [(1, sc (IV.ptr 0 0)), (3, sc (IV.sl 1 0 32)), (7, sc (IV.i64 (32 : Int))), (8, sc (IV.i64 (0 : Int)))]) [(0, Blk.mk true [IV.n4 a]), (1, Blk.mk true [IV.v8 32 (List.replicate 32 (BitVec.ofNat 8 0))])] 16) (Ex.exit 0) (St.mk (slotsOf 25 [(1, sc (IV.ptr 0 0)), (3, sc (IV.sl 1 0 32)), (7, sc (IV.i64 (32 : Int))), (8, sc (IV.i64 i))]) [(0, Blk.mk true [IV.n4 a]), (1, Blk.mk true [IV.v8 32 l])] 16), 32 ≤ 32]) := by kernel_rfl

theorem tdiv8 (n : Nat) : ((n : Int)).tdiv 8 = ((n / 8 : Nat) : Int) := (Int.ofNat_tdiv n 8).symm
theorem tmod8 (n : Nat) : ((n : Int)).tmod 8 = ((n % 8 : Nat) : Int) := (Int.ofNat_tmod n 8).symm
theorem mul8 (n : Nat) : ((8 : Int) * (n : Nat)).toNat = 8 * n := by omega
theorem bytesLoop (a : N4) : LoopTo Tryz.prog (bodyAt Tryz.prog 84 3) (bytesInv a (List.replicate 32 0#8) 0) (.exit 0) (bytesInv a (bl (val a) 32) 32) := by
  rw [← fill_zero (val a), ← fill_all]
  refine LoopTo.intro (α := Nat × List (BitVec 8)) gs0 fol (fun s => bytesInv a s.2 (s.1 : Nat)) (fun s => s.1 ≤ 32 ∧ s.2 = fill (val a) 32 s.1) (fun s => 32 - s.1) (by simp) ?_ (0, _) ⟨by simp, rfl⟩
  rintro ⟨i, l⟩ ⟨hi, hl⟩
  dsimp only at hi hl ⊢
  subst hl
  by_cases he : i = 32
  · subst he
    exact .inr ⟨_, _, _, _, _, bytesExit a _ _, by simp, trivial⟩
  · refine .inl ⟨_, _, _, _, _, (i + 1, _), bytesRound a _ _, ?_, ⟨by simp only; omega, ?_⟩, by simp only; omega⟩
    · simp only [AllP, inI64, decide_eq_true_eq, tdiv8, tmod8]
      and_intros <;> first | omega | trivial
    · simp only [tdiv8, tmod8, mul8, Int.toNat_natCast, Nat.zero_add, Nat.mul_one]
      rw [byte_of a (by omega), fill_set _ (by omega)]
def spBytes : List AV → Option (AV × List Prop)
  | [.val true [.n4 a]] => some (sc (.d8 (bl (val a) 32)), [])
  | _ => none
theorem ctBytes : CtSOk Tryz.prog 84 (.fn spBytes) := FnS_of_fnS gs0 fol fun ds r cs h hc => by
  unfold spBytes at h
  split at h
  case h_2 => simp at h
  rename_i a
  simp only [Option.some.injEq, Prod.mk.injEq] at h
  obtain ⟨rfl, rfl⟩ := h
  refine use_run (runBytes a (bl (val a) 32) 32) ?_ ⟨by omega, by omega, by omega, bytesLoop a, by omega, trivial⟩
  have := cutL_eqn (bl_length (val a) 32).symm
  rw [bl_length] at this
  rw [this]

/-! ### A number out of bytes -/
def fromTd : List Nat := [2, 4, 11, 12, 13]
def fromInv (b : List (BitVec 8)) (z n : N4) (i : Int) : St := ⟨slotsOf 32 [(2, sc (.ptr 0 0)), (4, sc (.ptr 1 0)), (11, sc (.sl 2 0 b.length)), (12, sc (.i64 (b.length : Int))), (13, sc (.i64 i))], [(0, ⟨true, [.n4 z]⟩), (1, ⟨true, [.n4 n]⟩), (2, ⟨false, [.v8 b.length b]⟩)], 16⟩
theorem fromRound (b : List (BitVec 8)) (z n : N4) (i : Int) : roundS Tryz.prog (lookG []) (orcA [(5, [(0, true)])]) [] 10 fromTd (bodyAt Tryz.prog 46 5) (fromInv b z n i) =
    some (Ex.normal, St.mk (slotsOf 32 [(2, sc (IV.ptr 0 0)), (4, sc (IV.ptr 1 0)), (11, sc (IV.sl 2 0 b.length)), (12, sc (IV.i64 (↑b.length : Int))), (13, sc (IV.i64 (i + (1 : Int))))]) [(0, Blk.mk true [IV.n4 z]), (1, Blk.mk true [IV.n4 (n.set (0 + (i.tdiv (8 : Int)).toNat * 1) (n.get (0 + (i.tdiv (8 : Int)).toNat * 1) ||| BitVec.setWidth 64 (b.getD (0 + i.toNat * 1) (BitVec.ofNat 8 0)) <<< ((8 : Int) * i.tmod (8 : Int)).toNat))]), (2, Blk.mk false [IV.v8 b.length b])] 16, [decide (i < (↑b.length : Int)) = true, (0 : Int) ≤ i, i.toNat < b.length, 0 + i.toNat * 1 < b.length, (8 : Int) ≠ (0 : Int), inI64 (i.tdiv (8 : Int)), (0 : Int) ≤ i.tdiv (8 : Int), (i.tdiv (8 : Int)).toNat < 4, 0 + (i.tdiv (8 : Int)).toNat * 1 < 4, (8 : Int) ≠ (0 : Int), inI64 ((8 : Int) * i.tmod (8 : Int)), (0 : Int) ≤ (8 : Int) * i.tmod (8 : Int), (0 : Int) ≤ i.tdiv (8 : Int), (i.tdiv (8 : Int)).toNat < 4, 0 + (i.tdiv (8 : Int)).toNat * 1 < 4, inI64 (i + (1 : Int))]) := by kernel_rfl
theorem fromExit (b : List (BitVec 8)) (z n : N4) (i : Int) : roundS Tryz.prog (lookG []) (orcA [(5, [(0, false)])]) [] 10 fromTd (bodyAt Tryz.prog 46 5) (fromInv b z n i) =
    some (Ex.exit 0, St.mk (slotsOf 32 [(2, sc (IV.ptr 0 0)), (4, sc (IV.ptr 1 0)), (11, sc (IV.sl 2 0 b.length)), (12, sc (IV.i64 (↑b.length : Int))), (13, sc (IV.i64 i))]) [(0, Blk.mk true [IV.n4 z]), (1, Blk.mk true [IV.n4 n]), (2, Blk.mk false [IV.v8 b.length b])] 16, [decide (i < (↑b.length : Int)) = false]) := by kernel_rfl
theorem runFrom (b : List (BitVec 8)) (z n : N4) (i : Int) : fnS Tryz.prog (lookG []) (orcA [(1, [(2, false)])]) [⟨5, fromTd, .exit 0, fromInv b z n i⟩] 10 46 [sc (.d8 b)] =
    some (AV.tup [(true, [IV.n4 n]), (false, [IV.i64 (0 : Int)])], [decide ((32 : Int) < (↑b.length : Int)) = false, LoopTo Tryz.prog (bodyAt Tryz.prog 46 5) (St.mk (slotsOf 32 [(2, sc (IV.ptr 0 0)), (4, sc (IV.ptr 1 0)), (11, sc (IV.sl 2 0 b.length)), (12, sc (IV.i64 (↑b.length : Int))), (13, sc (IV.i64 (0 : Int)))]) [(0, Blk.mk true [IV.n4 (N4.mk (BitVec.ofNat 64 0) (BitVec.ofNat 64 0) (BitVec.ofNat 64 0) (BitVec.ofNat 64 0))]), (1, Blk.mk true [IV.n4 (N4.mk (BitVec.ofNat 64 0) (BitVec.ofNat 64 0) (BitVec.ofNat 64 0) (BitVec.ofNat 64 0))]), (2, Blk.mk false [IV.v8 b.length b])] 16) (Ex.exit 0) (St.mk (slotsOf 32 [(2, sc (IV.ptr 0 0)), (4, sc (IV.ptr 1 0)), (11, sc (IV.sl 2 0 b.length)), (12, sc (IV.i64 (↑b.length : Int))), (13, sc (IV.i64 i))]) [(0, Blk.mk true [IV.n4 z]), (1, Blk.mk true [IV.n4 n]), (2, Blk.mk false [IV.v8 b.length b])] 16)]) := by kernel_rfl
theorem runFrom1 (b : List (BitVec 8)) : fnS Tryz.prog (lookG []) (orcA [(1, [(2, true)])]) [] 10 46 [sc (.d8 b)] =
    some (AV.tup [(true, [IV.n4 (N4.mk (BitVec.ofNat 64 0) (BitVec.ofNat 64 0) (BitVec.ofNat 64 0) (BitVec.ofNat 64 0))]), (false, [IV.i64 (2 : Int)])], [decide ((32 : Int) < (↑b.length : Int)) = true]) := by kernel_rfl
def dblInv (b : List (BitVec 8)) (z y n m : N4) (i : Int) : St := ⟨slotsOf 32 [(2, sc (.ptr 0 0)), (4, sc (.ptr 1 0)), (11, sc (.sl 2 0 b.length)), (12, sc (.i64 (b.length : Int))), (13, sc (.i64 i))], [(0, ⟨true, [.n4 z, .n4 y]⟩), (1, ⟨true, [.n4 n, .n4 m]⟩), (2, ⟨false, [.v8 b.length b]⟩)], 16⟩
theorem dblRound (b : List (BitVec 8)) (z y n m : N4) (i : Int) : roundS Tryz.prog (lookG []) (orcA [(5, [(0, true)])]) [] 10 fromTd (bodyAt Tryz.prog 104 5) (dblInv b z y n m i) =
    some (Ex.normal, St.mk (slotsOf 32 [(2, sc (IV.ptr 0 0)), (4, sc (IV.ptr 1 0)), (11, sc (IV.sl 2 0 b.length)), (12, sc (IV.i64 (↑b.length : Int))), (13, sc (IV.i64 (i + (1 : Int))))]) [(0, Blk.mk true [IV.n4 z, IV.n4 y]), (1, Blk.mk true [IV.n4 (n.setLo (0 + (i.tdiv (8 : Int)).toNat * 1) (([n, m].getD ((0 + (i.tdiv (8 : Int)).toNat * 1) / 4) N4.zero).get ((0 + (i.tdiv (8 : Int)).toNat * 1) % 4) ||| BitVec.setWidth 64 (b.getD (0 + i.toNat * 1) (BitVec.ofNat 8 0)) <<< ((8 : Int) * i.tmod (8 : Int)).toNat)), IV.n4 (m.setHi (0 + (i.tdiv (8 : Int)).toNat * 1) (([n, m].getD ((0 + (i.tdiv (8 : Int)).toNat * 1) / 4) N4.zero).get ((0 + (i.tdiv (8 : Int)).toNat * 1) % 4) ||| BitVec.setWidth 64 (b.getD (0 + i.toNat * 1) (BitVec.ofNat 8 0)) <<< ((8 : Int) * i.tmod (8 : Int)).toNat))]), (2, Blk.mk false [IV.v8 b.length b])] 16, [decide (i < (↑b.length : Int)) = true, (0 : Int) ≤ i, i.toNat < b.length, 0 + i.toNat * 1 < b.length, (8 : Int) ≠ (0 : Int), inI64 (i.tdiv (8 : Int)), (0 : Int) ≤ i.tdiv (8 : Int), (i.tdiv (8 : Int)).toNat < 8, 0 + (i.tdiv (8 : Int)).toNat * 1 < 8, (8 : Int) ≠ (0 : Int), inI64 ((8 : Int) * i.tmod (8 : Int)), (0 : Int) ≤ (8 : Int) * i.tmod (8 : Int), (0 : Int) ≤ i.tdiv (8 : Int), (i.tdiv (8 : Int)).toNat < 8, 0 + (i.tdiv (8 : Int)).toNat * 1 < 8, inI64 (i + (1 : Int))]) := by kernel_rfl
theorem dblExit (b : List (BitVec 8)) (z y n m : N4) (i : Int) : roundS Tryz.prog (lookG []) (orcA [(5, [(0, false)])]) [] 10 fromTd (bodyAt Tryz.prog 104 5) (dblInv b z y n m i) =
    some (Ex.exit 0, St.mk (slotsOf 32 [(2, sc (IV.ptr 0 0)), (4, sc (IV.ptr 1 0)), (11, sc (IV.sl 2 0 b.length)), (12, sc (IV.i64 (↑b.length : Int))), (13, sc (IV.i64 i))]) [(0, Blk.mk true [IV.n4 z, IV.n4 y]), (1, Blk.mk true [IV.n4 n, IV.n4 m]), (2, Blk.mk false [IV.v8 b.length b])] 16, [decide (i < (↑b.length : Int)) = false]) := by kernel_rfl
theorem runDbl (b : List (BitVec 8)) (z y n m : N4) (i : Int) : fnS Tryz.prog (lookG []) (orcA [(2, [(2, false)])]) [⟨5, fromTd, .exit 0, dblInv b z y n m i⟩] 10 104 [sc (.d8 b)] =
    some (AV.tup [(true, [IV.n4 n, IV.n4 m]), (false, [IV.i64 (0 : Int)])], [decide ((64 : Int) < (↑b.length : Int)) = false, LoopTo Tryz.prog (bodyAt Tryz.prog 104 5) (St.mk (slotsOf 32 [(2, sc (IV.ptr 0 0)), (4, sc (IV.ptr 1 0)), (11, sc (IV.sl 2 0 b.length)), (12, sc (IV.i64 (↑b.length : Int))), (13, sc (IV.i64 (0 : Int)))]) [(0, Blk.mk true [IV.n4 (N4.mk (BitVec.ofNat 64 0) (BitVec.ofNat 64 0) (BitVec.ofNat 64 0) (BitVec.ofNat 64 0)), IV.n4 (N4.mk (BitVec.ofNat 64 0) (BitVec.ofNat 64 0) (BitVec.ofNat 64 0) (BitVec.ofNat 64 0))]), (1, Blk.mk true [IV.n4 (N4.mk (BitVec.ofNat 64 0) (BitVec.ofNat 64 0) (BitVec.ofNat 64 0) (BitVec.ofNat 64 0)), IV.n4 (N4.mk (BitVec.ofNat 64 0) (BitVec.ofNat 64 0) (BitVec.ofNat 64 0) (BitVec.ofNat 64 0))]), (2, Blk.mk false [IV.v8 b.length b])] 16) (Ex.exit 0) (St.mk (slotsOf 32 [(2, sc (IV.ptr 0 0)), (4, sc (IV.ptr 1 0)), (11, sc (IV.sl 2 0 b.length)), (12, sc (IV.i64 (↑b.length : Int))), (13, sc (IV.i64 i))]) [(0, Blk.mk true [IV.n4 z, IV.n4 y]), (1, Blk.mk true [IV.n4 n, IV.n4 m]), (2, Blk.mk false [IV.v8 b.length b])] 16)]) := by kernel_rfl
theorem runDbl1 (b : List (BitVec 8)) : fnS Tryz.prog (lookG []) (orcA [(2, [(2, true)])]) [] 10 104 [sc (.d8 b)] =
    some (AV.tup [(true, [IV.n4 (N4.mk (BitVec.ofNat 64 0) (BitVec.ofNat 64 0) (BitVec.ofNat 64 0) (BitVec.ofNat 64 0)), IV.n4 (N4.mk (BitVec.ofNat 64 0) (BitVec.ofNat 64 0) (BitVec.ofNat 64 0) (BitVec.ofNat 64 0))]), (false, [IV.i64 (2 : Int)])], [decide ((64 : Int) < (↑b.length : Int)) = true]) := by kernel_rfl

theorem ofN_take0 (b : List (BitVec 8)) : ofN (bv (b.take 0)) = ⟨0#64, 0#64, 0#64, 0#64⟩ := by
  rw [List.take_zero]
  rfl
theorem ofN_take0' (b : List (BitVec 8)) : ofN (bv (b.take 0) / p256) = ⟨0#64, 0#64, 0#64, 0#64⟩ := by
  rw [List.take_zero]
  rfl
theorem fromLoop (b : List (BitVec 8)) (hb : b.length ≤ 32) : LoopTo Tryz.prog (bodyAt Tryz.prog 46 5) (fromInv b ⟨0#64, 0#64, 0#64, 0#64⟩ ⟨0#64, 0#64, 0#64, 0#64⟩ 0) (.exit 0) (fromInv b ⟨0#64, 0#64, 0#64, 0#64⟩ (ofN (bv b)) (b.length : Nat)) := by
  have e : ofN (bv b) = ofN (bv (b.take b.length)) := by rw [List.take_length]
  rw [e]
  refine LoopTo.intro (α := Nat × N4) gs0 fol (fun s => fromInv b ⟨0#64, 0#64, 0#64, 0#64⟩ s.2 (s.1 : Nat)) (fun s => s.1 ≤ b.length ∧ s.2 = ofN (bv (b.take s.1))) (fun s => b.length - s.1) (by simp) ?_ (0, _) ⟨by simp, (ofN_take0 b).symm⟩
  rintro ⟨i, n⟩ ⟨hi, hn⟩
  dsimp only at hi hn ⊢
  subst hn
  by_cases he : i = b.length
  · subst he
    exact .inr ⟨_, _, _, _, _, fromExit b _ _ _, by simp, trivial⟩
  · refine .inl ⟨_, _, _, _, _, (i + 1, _), fromRound b _ _ _, ?_, ⟨by simp only; omega, ?_⟩, by simp only; omega⟩
    · simp only [AllP, inI64, decide_eq_true_eq, tdiv8, tmod8]
      and_intros <;> first | omega | trivial
    · simp only [tdiv8, tmod8, mul8, Int.toNat_natCast, Nat.zero_add, Nat.mul_one]
      exact from_step b (by omega) (by omega)
def fromV (b : List (BitVec 8)) : N4 × Int := if b.length ≤ 32 then (ofN (bv b), 0) else (⟨0#64, 0#64, 0#64, 0#64⟩, 2)
def spFrom : List AV → Option (AV × List Prop)
  | [.val false [.d8 b]] => some (.tup [(true, [.n4 (fromV b).1]), (false, [.i64 (fromV b).2])], [])
  | _ => none
theorem ctFrom : CtSOk Tryz.prog 46 (.fn spFrom) := FnS_of_fnS gs0 fol fun ds r cs h hc => by
  unfold spFrom at h
  split at h
  case h_2 => simp at h
  rename_i b
  simp only [Option.some.injEq, Prod.mk.injEq] at h
  obtain ⟨rfl, rfl⟩ := h
  by_cases hb : b.length ≤ 32
  · refine use_run (runFrom b ⟨0#64, 0#64, 0#64, 0#64⟩ (ofN (bv b)) (b.length : Nat)) ?_ ⟨by simp; omega, fromLoop b hb, trivial⟩
    simp only [fromV, if_pos hb]
  · refine use_run (runFrom1 b) ?_ ⟨by simp; omega, trivial⟩
    simp only [fromV, if_neg hb]
theorem dblLoop (b : List (BitVec 8)) (hb : b.length ≤ 64) : LoopTo Tryz.prog (bodyAt Tryz.prog 104 5) (dblInv b ⟨0#64, 0#64, 0#64, 0#64⟩ ⟨0#64, 0#64, 0#64, 0#64⟩ ⟨0#64, 0#64, 0#64, 0#64⟩ ⟨0#64, 0#64, 0#64, 0#64⟩ 0) (.exit 0) (dblInv b ⟨0#64, 0#64, 0#64, 0#64⟩ ⟨0#64, 0#64, 0#64, 0#64⟩ (ofN (bv b)) (ofN (bv b / p256)) (b.length : Nat)) := by
  have e : bv b = bv (b.take b.length) := by rw [List.take_length]
  rw [e]
  refine LoopTo.intro (α := Nat × N4 × N4) gs0 fol (fun s => dblInv b ⟨0#64, 0#64, 0#64, 0#64⟩ ⟨0#64, 0#64, 0#64, 0#64⟩ s.2.1 s.2.2 (s.1 : Nat)) (fun s => s.1 ≤ b.length ∧ s.2.1 = ofN (bv (b.take s.1)) ∧ s.2.2 = ofN (bv (b.take s.1) / p256)) (fun s => b.length - s.1) (by simp) ?_ (0, _, _) ⟨by simp, (ofN_take0 b).symm, (ofN_take0' b).symm⟩
  rintro ⟨i, n, m⟩ ⟨hi, hn, hm⟩
  dsimp only at hi hn hm ⊢
  subst hn hm
  by_cases he : i = b.length
  · subst he
    exact .inr ⟨_, _, _, _, _, dblExit b _ _ _ _ _, by simp, trivial⟩
  · obtain ⟨s1, s2⟩ := dbl_step b (i := i) (by omega) (by omega) _ rfl
    have r := dblRound b ⟨0#64, 0#64, 0#64, 0#64⟩ ⟨0#64, 0#64, 0#64, 0#64⟩ (ofN (bv (b.take i))) (ofN (bv (b.take i) / p256)) (i : Nat)
    simp only [tdiv8, tmod8, mul8, Int.toNat_natCast, Nat.zero_add, Nat.mul_one] at r
    rw [s1, s2] at r
    refine .inl ⟨_, _, _, _, _, (i + 1, ofN (bv (b.take (i + 1))), ofN (bv (b.take (i + 1)) / p256)), r, ?_, ⟨by simp only; omega, rfl, rfl⟩, by simp only; omega⟩
    simp only [AllP, inI64, decide_eq_true_eq]
    and_intros <;> first | omega | trivial
def dblV (b : List (BitVec 8)) : N4 × N4 × Int := if b.length ≤ 64 then (ofN (bv b), ofN (bv b / p256), 0) else (⟨0#64, 0#64, 0#64, 0#64⟩, ⟨0#64, 0#64, 0#64, 0#64⟩, 2)
def spDbl : List AV → Option (AV × List Prop)
  | [.val false [.d8 b]] => some (.tup [(true, [.n4 (dblV b).1, .n4 (dblV b).2.1]), (false, [.i64 (dblV b).2.2])], [])
  | _ => none
theorem ctDbl : CtSOk Tryz.prog 104 (.fn spDbl) := FnS_of_fnS gs0 fol fun ds r cs h hc => by
  unfold spDbl at h
  split at h
  case h_2 => simp at h
  rename_i b
  simp only [Option.some.injEq, Prod.mk.injEq] at h
  obtain ⟨rfl, rfl⟩ := h
  by_cases hb : b.length ≤ 64
  · refine use_run (runDbl b ⟨0#64, 0#64, 0#64, 0#64⟩ ⟨0#64, 0#64, 0#64, 0#64⟩ (ofN (bv b)) (ofN (bv b / p256)) (b.length : Nat)) ?_ ⟨by simp; omega, dblLoop b hb, trivial⟩
    simp only [dblV, if_pos hb]
  · refine use_run (runDbl1 b) ?_ ⟨by simp; omega, trivial⟩
    simp only [dblV, if_neg hb]

/-! ### The document's bit -/
/-! ### A double number's digits -/
def tblW : List (FuncId × CtS) := [(124, .fn spDigits)]
theorem gsW : GSound Tryz.prog (upG (lookG tblW)) := GSound_of_tbl ⟨⟨ctDigits, by kernel_rfl⟩, trivial⟩
def wordsTd : List Nat := [4, 5]
def wordsInv (b : N4) (n : Nat) (l : List Int) : St := ⟨slotsOf 41 [(4, sc (.ptr 0 0)), (5, sc (.sl 1 0 n))], [(0, ⟨true, [.n4 b]⟩), (1, ⟨true, [.vi l.length l]⟩)], 16⟩
theorem dg_ne {n : Nat} (h : n ≠ 0) : dg n ≠ [] := by rw [dg_pos h]; simp
theorem dg_last : ∀ n, n ≠ 0 → (dg n).getD ((dg n).length - 1) 0 ≠ 0 := by
  intro n
  induction n using Nat.strongRecOn with
  | _ n ih =>
    intro h
    rw [dg_pos h]
    by_cases h2 : n / 256 = 0
    · rw [h2, dg_zero]
      simp
      omega
    · have := ih (n / 256) (by omega) h2
      have hne : 0 < (dg (n / 256)).length := List.length_pos_iff.2 (dg_ne h2)
      obtain ⟨m, hm⟩ : ∃ m, (dg (n / 256)).length = m + 1 := ⟨(dg (n / 256)).length - 1, by omega⟩
      rw [hm] at this
      simp only [List.length_cons, hm, Nat.add_sub_cancel, List.getD_cons_succ]
      exact this
theorem append_dg {l : List Int} (hl : IsD l) {n : Nat} (h : n ≠ 0) : l ++ dg n = dg (nv l + 256 ^ l.length * n) := by
  have e : nv (l ++ dg n) = nv l + 256 ^ l.length * n := by rw [nv_append, nv_dg]
  rw [← e]
  refine eq_dg (IsD_append hl (dg_D n)) (.inr ?_)
  have h1 := dg_last n h
  have h0 : 0 < (dg n).length := List.length_pos_iff.2 (dg_ne h)
  rw [List.getD_eq_getElem?_getD] at h1 ⊢
  rw [List.length_append, List.getElem?_append_right (by omega)]
  have : l.length + (dg n).length - 1 - l.length = (dg n).length - 1 := by omega
  rw [this]
  exact h1
theorem nv_pad (l : List Int) (n : Nat) : nv (l ++ List.replicate n 0) = nv l := by rw [nv_append, nv_replicate]; omega
theorem val_len (a : N4) : (dg (val a)).length ≤ 32 := dg_length_le (val_lt' a)
def wpad (a : N4) (n : Nat) : List Int := dg (val a) ++ List.replicate (n - (dg (val a)).length) 0
def spWords : List AV → Option (AV × List Prop)
  | [.val true [.n4 a, .n4 b]] => some (sc (.dI (dg (val a + p256 * val b))), [])
  | _ => none
def spNWords : List AV → Option (AV × List Prop)
  | [.val true [.n4 a, .n4 b]] => some (sc (.dN (val a + p256 * val b)), [])
  | _ => none
end Go.Proofs.YtlgiaglbdifkpaaGreatDoor
/- Products and rests of digits, plainly. Own work; no program in sight. -/
namespace Go.Sp
open Go.Proofs.YtlgiaglbdifkpaaGreatDoor (trimFrom trimFrom_le)
open Go.Ev (dg nv)

theorem nv_set : ∀ {l : List Int} {j : Nat} (d : Int), j < l.length → nv (l.set j d) + 256 ^ j * (l.getD j 0).toNat = nv l + 256 ^ j * d.toNat := by
  intro l
  induction l with
  | nil => intro j d h; simp at h
  | cons a l ih =>
    intro j d h
    cases j with
    | zero => simp [nv]; omega
    | succ j =>
      have := ih (j := j) d (by simpa using h)
      simp only [List.set_cons_succ, nv, List.getD_cons_succ]
      rw [Nat.pow_succ, Nat.mul_comm (256 ^ j) 256, Nat.mul_assoc, Nat.mul_assoc]
      omega
theorem IsD_set {l : List Int} (h : IsD l) (j : Nat) {d : Nat} (hd : d < 256) : IsD (l.set j (d : Int)) := fun x hx => by
  rcases List.mem_or_eq_of_mem_set hx with hx | rfl
  · exact h x hx
  · omega
theorem eq_dl {l : List Int} (h : IsD l) : l = dl (nv l) l.length := by
  obtain ⟨h1, h2, h3⟩ := dl_ok (nv l) l.length
  rw [Nat.mod_eq_of_lt (nv_lt h)] at h3
  refine List.ext_getElem h1.symm fun i hi hi' => ?_
  have a := getD_dig h i
  have b := getD_dig h2 i
  rw [h3] at b
  simp only [List.getD_eq_getElem?_getD, List.getElem?_eq_getElem hi, List.getElem?_eq_getElem hi', Option.getD_some] at a b
  rw [a, b]

/-- One step of a row of a product. -/
structure MulOk (a b N i k : Nat) (out : List Int) (c : Nat) : Prop where
  len : out.length = N
  digs : IsD out
  carry : c ≤ 255
  val : nv out + 256 ^ (i + k) * c = a % 256 ^ i * b + 256 ^ i * (dig a i * (b % 256 ^ k))
theorem mul_step {a b N i k c : Nat} {out : List Int} (h : MulOk a b N i k out c) (hk : i + k < N) :
    MulOk a b N i (k + 1) (out.set (i + k) (((dig (nv out) (i + k) + dig a i * dig b k + c) % 256 : Nat) : Int)) ((dig (nv out) (i + k) + dig a i * dig b k + c) / 256) := by
  obtain ⟨h1, h2, h3, h4⟩ := h
  have hx := dig_lt (nv out) (i + k)
  have hy := dig_lt a i
  have hz := dig_lt b k
  have hm : dig a i * dig b k ≤ 255 * 255 := Nat.mul_le_mul (by omega) (by omega)
  refine ⟨by simp [h1], IsD_set h2 _ (Nat.mod_lt _ (by omega)), by omega, ?_⟩
  have hs := nv_set (l := out) (j := i + k) (((dig (nv out) (i + k) + dig a i * dig b k + c) % 256 : Nat) : Int) (by omega)
  rw [getD_dig h2, Int.toNat_natCast, Int.toNat_natCast] at hs
  have e1 : b % 256 ^ (k + 1) = b % 256 ^ k + 256 ^ k * dig b k := mod_succ b k
  have e2 : 256 ^ i * (dig a i * (b % 256 ^ (k + 1))) = 256 ^ i * (dig a i * (b % 256 ^ k)) + 256 ^ (i + k) * (dig a i * dig b k) := by
    rw [e1, Nat.mul_add, Nat.mul_add, Nat.pow_add]
    congr 1
    ac_rfl
  rw [e2]
  have e3 : 256 ^ (i + (k + 1)) = 256 ^ (i + k) * 256 := by rw [← Nat.add_assoc, Nat.pow_succ]
  rw [e3]
  generalize dig (nv out) (i + k) = x at *
  generalize dig a i * dig b k = y at *
  generalize 256 ^ (i + k) = p at *
  have e4 : p * 256 * ((x + y + c) / 256) + p * ((x + y + c) % 256) = p * (x + y + c) := by
    rw [Nat.mul_assoc, ← Nat.mul_add, Nat.div_add_mod]
  have e5 : p * (x + y + c) = p * x + p * y + p * c := by rw [Nat.mul_add, Nat.mul_add]
  omega
theorem mul_row {a b i k : Nat} (hk : b < 256 ^ k) : a % 256 ^ i * b + 256 ^ i * (dig a i * (b % 256 ^ k)) = a % 256 ^ (i + 1) * b := by
  rw [Nat.mod_eq_of_lt hk, mod_succ, Nat.add_mul, Nat.mul_assoc]
theorem mul_more {a b N i k c lb : Nat} {out : List Int} (h : MulOk a b N i k out c) (hb : b < 256 ^ lb) (hk : lb ≤ k) (hc : 0 < c) : k ≤ lb := by
  have hbk : b < 256 ^ k := Nat.lt_of_lt_of_le hb (Nat.pow_le_pow_right (by omega) hk)
  have h4 := h.val
  rw [mul_row hbk] at h4
  have h5 : a % 256 ^ (i + 1) * b < 256 ^ (i + 1) * 256 ^ lb := Nat.mul_lt_mul'' (Nat.mod_lt _ (Nat.pow_pos (by omega))) hb
  rw [← Nat.pow_add] at h5
  have h6 : 256 ^ (i + k) * 1 ≤ 256 ^ (i + k) * c := Nat.mul_le_mul_left _ hc
  rcases Nat.lt_or_ge lb k with h7 | h7
  · have : 256 ^ (i + 1 + lb) ≤ 256 ^ (i + k) := Nat.pow_le_pow_right (by omega) (by omega)
    omega
  · exact h7
theorem mul_done {a b N i k lb : Nat} {out : List Int} (h : MulOk a b N i k out 0) (hb : b < 256 ^ lb) (hk : lb ≤ k) : out = dl (a % 256 ^ (i + 1) * b) N := by
  have hbk : b < 256 ^ k := Nat.lt_of_lt_of_le hb (Nat.pow_le_pow_right (by omega) hk)
  have h4 := h.val
  rw [mul_row hbk, Nat.mul_zero, Nat.add_zero] at h4
  have := eq_dl h.digs
  rw [h4, h.len] at this
  exact this
theorem mul_start {a b N i : Nat} (hlt : a % 256 ^ i * b < 256 ^ N) : MulOk a b N i 0 (dl (a % 256 ^ i * b) N) 0 := by
  obtain ⟨h1, h2, h3⟩ := dl_ok (a % 256 ^ i * b) N
  refine ⟨h1, h2, by omega, ?_⟩
  rw [h3, Nat.mod_eq_of_lt hlt]
  simp [Nat.mod_one]
theorem dl_zero : ∀ n, dl 0 n = List.replicate n 0
  | 0 => rfl
  | n + 1 => by simp only [dl, dl_zero n, List.replicate_succ']; simp [dig]

/-- A digit more ahead of what is left. -/
theorem left_next (a m k : Nat) : (dig a k + 256 * (a / 256 ^ (k + 1) % m)) % m = a / 256 ^ k % m := by
  have e : a / 256 ^ k = dig a k + 256 * (a / 256 ^ (k + 1)) := by
    rw [Nat.pow_succ, ← Nat.div_div_eq_div_mul]
    unfold dig
    omega
  rw [e, Nat.add_mod, Nat.mul_mod, Nat.mod_mod, ← Nat.mul_mod, ← Nat.add_mod]
end Go.Sp
/- Contracts of the document's products and rests. Own work. -/
namespace Go.Proofs.YtlgiaglbdifkpaaGreatDoor
open Go.Ev Go.Sp Go.RowKit
set_option maxRecDepth 100000

/-! ### Products -/
def timesTd : List Nat := [0, 1, 5, 6]
def timesTd2 : List Nat := [0, 1, 5, 6, 7, 8]
def timesInv (a b N : Nat) (out : List Int) (i : Int) : St := ⟨slotsOf 61 [(0, sc (.sl 0 0 (dg a).length)), (1, sc (.sl 1 0 (dg b).length)), (5, sc (.sl 2 0 N)), (6, sc (.i64 i))],
  [(0, ⟨false, [.vd a]⟩), (1, ⟨false, [.vd b]⟩), (2, ⟨true, [.vi N out]⟩)], 16⟩
def timesInv2 (a b N : Nat) (out : List Int) (i c k : Int) : St := ⟨slotsOf 61 [(0, sc (.sl 0 0 (dg a).length)), (1, sc (.sl 1 0 (dg b).length)), (5, sc (.sl 2 0 N)), (6, sc (.i64 i)), (7, sc (.i64 c)), (8, sc (.i64 k))],
  [(0, ⟨false, [.vd a]⟩), (1, ⟨false, [.vd b]⟩), (2, ⟨true, [.vi N out]⟩)], 16⟩
theorem timesRoundA (a b N : Nat) (out : List Int) (i c k : Int) : roundS Tryz.prog (lookG tblN) (orcA [(7, [(3, true)])]) [] 10 timesTd2 (bodyAt Tryz.prog 86 7) (timesInv2 a b N out i c k) =
    some (Ex.normal, St.mk (slotsOf 61 [(0, sc (IV.sl 0 0 (dg a).length)), (1, sc (IV.sl 1 0 (dg b).length)), (5, sc (IV.sl 2 0 N)), (6, sc (IV.i64 i)), (7, sc (IV.i64 ((out.getD (0 + (i + k).toNat * 1) (0 : Int) + (dg a).getD (0 + i.toNat * 1) (0 : Int) * (↑(dig b k.toNat) : Int) + c).tdiv (256 : Int)))), (8, sc (IV.i64 (k + (1 : Int))))]) [(0, Blk.mk false [IV.vd a]), (1, Blk.mk false [IV.vd b]), (2, Blk.mk true [IV.vi N (out.set (0 + (i + k).toNat * 1) ((out.getD (0 + (i + k).toNat * 1) (0 : Int) + (dg a).getD (0 + i.toNat * 1) (0 : Int) * (↑(dig b k.toNat) : Int) + c).tmod (256 : Int)))])] 16, [decide (k < (↑(dg b).length : Int)) = true, inI64 (i + k), (0 : Int) ≤ i + k, (i + k).toNat < N, 0 + (i + k).toNat * 1 < N, (0 : Int) ≤ i, i.toNat < (dg a).length, 0 + i.toNat * 1 < (dg a).length, (dg b).length = (dg b).length, (0 : Int) ≤ k, inI64 ((dg a).getD (0 + i.toNat * 1) (0 : Int) * (↑(dig b k.toNat) : Int)), inI64 (out.getD (0 + (i + k).toNat * 1) (0 : Int) + (dg a).getD (0 + i.toNat * 1) (0 : Int) * (↑(dig b k.toNat) : Int)), inI64 (out.getD (0 + (i + k).toNat * 1) (0 : Int) + (dg a).getD (0 + i.toNat * 1) (0 : Int) * (↑(dig b k.toNat) : Int) + c), inI64 (i + k), (256 : Int) ≠ (0 : Int), (0 : Int) ≤ i + k, (i + k).toNat < N, 0 + (i + k).toNat * 1 < N, (256 : Int) ≠ (0 : Int), inI64 ((out.getD (0 + (i + k).toNat * 1) (0 : Int) + (dg a).getD (0 + i.toNat * 1) (0 : Int) * (↑(dig b k.toNat) : Int) + c).tdiv (256 : Int)), inI64 (k + (1 : Int))]) := by kernel_rfl
theorem timesRoundB (a b N : Nat) (out : List Int) (i c k : Int) : roundS Tryz.prog (lookG tblN) (orcA [(7, [(3, false), (6, true)])]) [] 10 timesTd2 (bodyAt Tryz.prog 86 7) (timesInv2 a b N out i c k) =
    some (Ex.normal, St.mk (slotsOf 61 [(0, sc (IV.sl 0 0 (dg a).length)), (1, sc (IV.sl 1 0 (dg b).length)), (5, sc (IV.sl 2 0 N)), (6, sc (IV.i64 i)), (7, sc (IV.i64 ((out.getD (0 + (i + k).toNat * 1) (0 : Int) + (dg a).getD (0 + i.toNat * 1) (0 : Int) * (↑(dig b k.toNat) : Int) + c).tdiv (256 : Int)))), (8, sc (IV.i64 (k + (1 : Int))))]) [(0, Blk.mk false [IV.vd a]), (1, Blk.mk false [IV.vd b]), (2, Blk.mk true [IV.vi N (out.set (0 + (i + k).toNat * 1) ((out.getD (0 + (i + k).toNat * 1) (0 : Int) + (dg a).getD (0 + i.toNat * 1) (0 : Int) * (↑(dig b k.toNat) : Int) + c).tmod (256 : Int)))])] 16, [decide (k < (↑(dg b).length : Int)) = false, decide ((0 : Int) < c) = true, inI64 (i + k), (0 : Int) ≤ i + k, (i + k).toNat < N, 0 + (i + k).toNat * 1 < N, (0 : Int) ≤ i, i.toNat < (dg a).length, 0 + i.toNat * 1 < (dg a).length, (dg b).length = (dg b).length, (0 : Int) ≤ k, inI64 ((dg a).getD (0 + i.toNat * 1) (0 : Int) * (↑(dig b k.toNat) : Int)), inI64 (out.getD (0 + (i + k).toNat * 1) (0 : Int) + (dg a).getD (0 + i.toNat * 1) (0 : Int) * (↑(dig b k.toNat) : Int)), inI64 (out.getD (0 + (i + k).toNat * 1) (0 : Int) + (dg a).getD (0 + i.toNat * 1) (0 : Int) * (↑(dig b k.toNat) : Int) + c), inI64 (i + k), (256 : Int) ≠ (0 : Int), (0 : Int) ≤ i + k, (i + k).toNat < N, 0 + (i + k).toNat * 1 < N, (256 : Int) ≠ (0 : Int), inI64 ((out.getD (0 + (i + k).toNat * 1) (0 : Int) + (dg a).getD (0 + i.toNat * 1) (0 : Int) * (↑(dig b k.toNat) : Int) + c).tdiv (256 : Int)), inI64 (k + (1 : Int))]) := by kernel_rfl
theorem timesExit2 (a b N : Nat) (out : List Int) (i c k : Int) : roundS Tryz.prog (lookG tblN) (orcA [(7, [(3, false), (6, false)])]) [] 10 timesTd (bodyAt Tryz.prog 86 7) (timesInv2 a b N out i c k) =
    some (Ex.exit 2, St.mk (slotsOf 61 [(0, sc (IV.sl 0 0 (dg a).length)), (1, sc (IV.sl 1 0 (dg b).length)), (5, sc (IV.sl 2 0 N)), (6, sc (IV.i64 i))]) [(0, Blk.mk false [IV.vd a]), (1, Blk.mk false [IV.vd b]), (2, Blk.mk true [IV.vi N out])] 16, [decide (k < (↑(dg b).length : Int)) = false, decide ((0 : Int) < c) = false]) := by kernel_rfl
theorem timesRound (a b N : Nat) (out out2 : List Int) (i : Int) : roundS Tryz.prog (lookG tblN) (orcA [(3, [(3, true)])]) [⟨7, timesTd2, .exit 2, timesInv a b N out2 i⟩] 10 timesTd (bodyAt Tryz.prog 86 3) (timesInv a b N out i) =
    some (Ex.normal, St.mk (slotsOf 61 [(0, sc (IV.sl 0 0 (dg a).length)), (1, sc (IV.sl 1 0 (dg b).length)), (5, sc (IV.sl 2 0 N)), (6, sc (IV.i64 (i + (1 : Int))))]) [(0, Blk.mk false [IV.vd a]), (1, Blk.mk false [IV.vd b]), (2, Blk.mk true [IV.vi N out2])] 16, [decide (i < (↑(dg a).length : Int)) = true, LoopTo Tryz.prog (bodyAt Tryz.prog 86 7) (St.mk (slotsOf 61 [(0, sc (IV.sl 0 0 (dg a).length)), (1, sc (IV.sl 1 0 (dg b).length)), (5, sc (IV.sl 2 0 N)), (6, sc (IV.i64 i)), (7, sc (IV.i64 (0 : Int))), (8, sc (IV.i64 (0 : Int)))]) [(0, Blk.mk false [IV.vd a]), (1, Blk.mk false [IV.vd b]), (2, Blk.mk true [IV.vi N out])] 16) (Ex.exit 2) (St.mk (slotsOf 61 [(0, sc (IV.sl 0 0 (dg a).length)), (1, sc (IV.sl 1 0 (dg b).length)), (5, sc (IV.sl 2 0 N)), (6, sc (IV.i64 i))]) [(0, Blk.mk false [IV.vd a]), (1, Blk.mk false [IV.vd b]), (2, Blk.mk true [IV.vi N out2])] 16), inI64 (i + (1 : Int))]) := by kernel_rfl
theorem timesExit (a b N : Nat) (out : List Int) (i : Int) : roundS Tryz.prog (lookG tblN) (orcA [(3, [(3, false)])]) [] 10 timesTd (bodyAt Tryz.prog 86 3) (timesInv a b N out i) =
    some (Ex.exit 0, St.mk (slotsOf 61 [(0, sc (IV.sl 0 0 (dg a).length)), (1, sc (IV.sl 1 0 (dg b).length)), (5, sc (IV.sl 2 0 N)), (6, sc (IV.i64 i))]) [(0, Blk.mk false [IV.vd a]), (1, Blk.mk false [IV.vd b]), (2, Blk.mk true [IV.vi N out])] 16, [decide (i < (↑(dg a).length : Int)) = false]) := by kernel_rfl
theorem runTimes (a b N : Nat) (out : List Int) (i : Int) : fnS Tryz.prog (lookG tblN) (orcA []) [⟨3, timesTd, .exit 0, timesInv a b N out i⟩] 10 86 [sc (.dN a), sc (.dN b)] =
    some (sc (IV.dI (cutL out 0 (trimFrom out out.length) N)), [inI64 ((↑(dg a).length : Int) + (↑(dg b).length : Int)), inI64 ((↑(dg a).length : Int) + (↑(dg b).length : Int) + (1 : Int)), (0 : Int) ≤ (↑(dg a).length : Int) + (↑(dg b).length : Int) + (1 : Int), (0 : Int) ≤ (↑(dg a).length : Int) + (↑(dg b).length : Int) + (1 : Int), ((↑(dg a).length : Int) + (↑(dg b).length : Int) + (1 : Int)).toNat = ((↑(dg a).length : Int) + (↑(dg b).length : Int) + (1 : Int)).toNat ∧ 8 * ((↑(dg a).length : Int) + (↑(dg b).length : Int) + (1 : Int)).toNat ≤ 281474976710656 ∧ ((↑(dg a).length : Int) + (↑(dg b).length : Int) + (1 : Int)).toNat ≤ 9223372036854775807, LoopTo Tryz.prog (bodyAt Tryz.prog 86 3) (St.mk (slotsOf 61 [(0, sc (IV.sl 0 0 (dg a).length)), (1, sc (IV.sl 1 0 (dg b).length)), (5, sc (IV.sl 2 0 ((↑(dg a).length : Int) + (↑(dg b).length : Int) + (1 : Int)).toNat)), (6, sc (IV.i64 (0 : Int)))]) [(0, Blk.mk false [IV.vd a]), (1, Blk.mk false [IV.vd b]), (2, Blk.mk true [IV.vi (List.replicate ((↑(dg a).length : Int) + (↑(dg b).length : Int) + (1 : Int)).toNat (0 : Int)).length (List.replicate ((↑(dg a).length : Int) + (↑(dg b).length : Int) + (1 : Int)).toNat (0 : Int))])] 16) (Ex.exit 0) (St.mk (slotsOf 61 [(0, sc (IV.sl 0 0 (dg a).length)), (1, sc (IV.sl 1 0 (dg b).length)), (5, sc (IV.sl 2 0 N)), (6, sc (IV.i64 i))]) [(0, Blk.mk false [IV.vd a]), (1, Blk.mk false [IV.vd b]), (2, Blk.mk true [IV.vi N out])] 16), N = N, out.length ≤ 1000000000, trimFrom out out.length ≤ N, 0 + trimFrom out out.length ≤ N]) := by kernel_rfl

theorem timesLoop2 (a b N i : Nat) (hi : i < (dg a).length) (hN : N = (dg a).length + (dg b).length + 1) (ha : (dg a).length ≤ 4000000) (hb : (dg b).length ≤ 4000000) (hlt : a % 256 ^ i * b < 256 ^ N) :
    LoopTo Tryz.prog (bodyAt Tryz.prog 86 7) (timesInv2 a b N (dl (a % 256 ^ i * b) N) (i : Nat) 0 0) (.exit 2) (timesInv a b N (dl (a % 256 ^ (i + 1) * b) N) (i : Nat)) := by
  have hbl := lt_of_dg b
  refine LoopTo.intro (α := Nat × List Int × Nat) gsN fol (fun s => timesInv2 a b N s.2.1 (i : Nat) (s.2.2 : Nat) (s.1 : Nat)) (fun s => MulOk a b N i s.1 s.2.1 s.2.2 ∧ s.1 ≤ (dg b).length + 1) (fun s => (dg b).length + 2 - s.1) (by simp) ?_ (0, _, 0) ⟨mul_start hlt, by simp⟩
  rintro ⟨k, out, c⟩ ⟨hm, hk⟩
  dsimp only at hm hk ⊢
  obtain ⟨h1, h2, h3, h4⟩ := id hm
  have hx := dig_lt (nv out) (i + k)
  have hy := dig_lt a i
  have hz := dig_lt b k
  have hmul : dig a i * dig b k ≤ 255 * 255 := Nat.mul_le_mul (by omega) (by omega)
  by_cases hlb : k < (dg b).length
  · have r := timesRoundA a b N out (i : Nat) (c : Nat) (k : Nat)
    simp only [← Int.natCast_add, Int.toNat_natCast, Nat.zero_add, Nat.mul_one, getD_dig h2, getD_dig (dg_D a), nv_dg, ← Int.natCast_mul, tmod_cast, tdiv_cast] at r
    refine .inl ⟨_, _, _, _, _, (k + 1, _, _), r, ?_, ⟨mul_step hm (by omega), by simp only; omega⟩, by simp only; omega⟩
    simp only [AllP, inI64, decide_eq_true_eq]
    generalize dig a i * dig b k = y at *
    and_intros <;> first | omega | trivial
  · by_cases hc : 0 < c
    · have hk2 := mul_more hm hbl (by omega) hc
      have r := timesRoundB a b N out (i : Nat) (c : Nat) (k : Nat)
      simp only [← Int.natCast_add, Int.toNat_natCast, Nat.zero_add, Nat.mul_one, getD_dig h2, getD_dig (dg_D a), nv_dg, ← Int.natCast_mul, tmod_cast, tdiv_cast] at r
      refine .inl ⟨_, _, _, _, _, (k + 1, _, _), r, ?_, ⟨mul_step hm (by omega), by simp only; omega⟩, by simp only; omega⟩
      simp only [AllP, inI64, decide_eq_true_eq, decide_eq_false_iff_not]
      generalize dig a i * dig b k = y at *
      and_intros <;> first | omega | trivial
    · have c0 : c = 0 := by omega
      subst c0
      have e := mul_done hm hbl (by omega)
      subst e
      exact .inr ⟨_, _, _, _, _, timesExit2 a b N _ (i : Nat) (0 : Nat) (k : Nat), decide_eq_false (by omega), decide_eq_false (by omega), trivial⟩
theorem times_lt (a b N i : Nat) (hN : N = (dg a).length + (dg b).length + 1) : a % 256 ^ i * b < 256 ^ N := by
  have h1 : a % 256 ^ i < 256 ^ (dg a).length := Nat.lt_of_le_of_lt (Nat.mod_le _ _) (lt_of_dg a)
  have h2 := Nat.mul_lt_mul'' h1 (lt_of_dg b)
  rw [← Nat.pow_add] at h2
  exact Nat.lt_of_lt_of_le h2 (Nat.pow_le_pow_right (by omega) (by omega))
theorem timesLoop (a b N : Nat) (hN : N = (dg a).length + (dg b).length + 1) (ha : (dg a).length ≤ 4000000) (hb : (dg b).length ≤ 4000000) :
    LoopTo Tryz.prog (bodyAt Tryz.prog 86 3) (timesInv a b N (List.replicate N 0) 0) (.exit 0) (timesInv a b N (dl (a * b) N) ((dg a).length : Nat)) := by
  have e0 : List.replicate N 0 = dl (a % 256 ^ 0 * b) N := by rw [Nat.pow_zero, Nat.mod_one, Nat.zero_mul, dl_zero]
  have e1 : a * b = a % 256 ^ (dg a).length * b := by rw [Nat.mod_eq_of_lt (lt_of_dg a)]
  rw [e1]
  refine LoopTo.intro (α := Nat × List Int) gsN fol (fun s => timesInv a b N s.2 (s.1 : Nat)) (fun s => s.1 ≤ (dg a).length ∧ s.2 = dl (a % 256 ^ s.1 * b) N) (fun s => (dg a).length - s.1) (by simp) ?_ (0, _) ⟨by simp, e0⟩
  rintro ⟨i, out⟩ ⟨hi, ho⟩
  dsimp only at hi ho ⊢
  subst ho
  by_cases he : i = (dg a).length
  · subst he
    exact .inr ⟨_, _, _, _, _, timesExit a b N _ _, by rw [decide_eq_false_iff_not]; omega, trivial⟩
  · refine .inl ⟨_, _, _, _, _, (i + 1, _), timesRound a b N _ (dl (a % 256 ^ (i + 1) * b) N) _, ⟨decide_eq_true (by omega), timesLoop2 a b N i (by omega) hN ha hb (times_lt a b N i hN), ⟨by omega, by omega⟩, trivial⟩, ⟨by simp only; omega, rfl⟩, by simp only; omega⟩
def spTimes : List AV → Option (AV × List Prop)
  | [.val false [.dN a], .val false [.dN b]] => some (sc (.dI (dg (a * b))), [Sm a, Sm b])
  | _ => none
theorem ctTimes : CtSOk Tryz.prog 86 (.fn spTimes) := FnS_of_fnS gsN fol fun ds r cs h hc => by
  unfold spTimes at h
  split at h
  case h_2 => simp at h
  rename_i a b
  simp only [Option.some.injEq, Prod.mk.injEq] at h
  obtain ⟨rfl, rfl⟩ := h
  obtain ⟨ha, hb, _⟩ := hc
  unfold Sm at ha hb
  obtain ⟨N, hN⟩ : ∃ N, N = (dg a).length + (dg b).length + 1 := ⟨_, rfl⟩
  have eN : ((dg a).length : Int) + ((dg b).length : Int) + 1 = (N : Int) := by omega
  obtain ⟨h1, h2, h3⟩ := dl_ok (a * b) N
  have hlt : a * b < 256 ^ N := by
    have := times_lt a b N (dg a).length hN
    rwa [Nat.mod_eq_of_lt (lt_of_dg a)] at this
  rw [Nat.mod_eq_of_lt hlt] at h3
  have t := trimFrom_le (dl (a * b) N) (dl (a * b) N).length
  have r := runTimes a b N (dl (a * b) N) ((dg a).length : Nat)
  simp only [eN, Int.toNat_natCast, List.length_replicate] at r
  refine use_run r ?_ ?_
  · have e := trim_dg h2
    rw [h3, h1] at e
    rw [h1, e]
  · simp only [AllP, inI64]
    and_intros <;> first | exact timesLoop a b N hN ha hb | omega | trivial
def spNTimes : List AV → Option (AV × List Prop)
  | [.val false [.dN a], .val false [.dN b]] => some (sc (.dN (a * b)), [Sm a, Sm b])
  | _ => none
theorem nTimes : CtSOk Tryz.prog 86 (.fn spNTimes) := FnS_intro fun ds r cs h hc w vals hv => by
  unfold spNTimes at h
  split at h
  case h_2 => simp at h
  rename_i a b
  simp only [Option.some.injEq, Prod.mk.injEq] at h
  obtain ⟨rfl, rfl⟩ := h
  refine (FnS_use ctTimes (ds := [sc (.dN a), sc (.dN b)]) rfl hc w vals hv).mono ?_
  rintro e w' ⟨v, q1, q2, q3⟩
  exact ⟨v, q1, q2, ResOk_ex q3⟩

/-! ### What is left -/
def tblL : List (FuncId × CtS) := [(97, .pre preTrim), (70, .fn (orD spNLess)), (118, .fn (fun ds => spMinus (ds.map exA)))]
theorem gsL : GSound Tryz.prog (upG (lookG tblL)) := GSound_of_tbl ⟨⟨ctTrim, by kernel_rfl⟩, ⟨FnS_orD nLess, by kernel_rfl⟩, ⟨FnS_exA ctMinus, by kernel_rfl⟩, trivial⟩
def leftTd : List Nat := [0, 1, 5, 6]
def leftInv (a m : Nat) (l : List Int) (n : Nat) (i : Int) : St := ⟨slotsOf 30 [(0, sc (.sl 0 0 (dg a).length)), (1, sc (.sl 1 0 (dg m).length)), (5, sc (.sl 2 0 n)), (6, sc (.i64 i))],
  [(0, ⟨false, [.vd a]⟩), (1, ⟨false, [.vd m]⟩), (2, ⟨true, [.vi l.length l]⟩)], 16⟩
theorem leftRound2 (a m : Nat) (l : List Int) (n : Nat) (i : Int) : roundS Tryz.prog (lookG tblL) (orcP [(6, [(2, false)])] [(6, [2]), (7, [2])]) [] 10 leftTd (bodyAt Tryz.prog 87 6) (leftInv a m l n i) =
    some (Ex.normal, St.mk (slotsOf 30 [(0, sc (IV.sl 0 0 (dg a).length)), (1, sc (IV.sl 1 0 (dg m).length)), (5, sc (IV.sl 2 0 (dg (nv (cutL l 0 n l.length) - nv (dg m))).length)), (6, sc (IV.i64 i))]) [(0, Blk.mk false [IV.vd a]), (1, Blk.mk false [IV.vd m]), (2, Blk.mk true [IV.vi (dg (nv (cutL l 0 n l.length) - nv (dg m))).length (dg (nv (cutL l 0 n l.length) - nv (dg m)))])] 16, [0 + n ≤ l.length, (dg m).length = (dg m).length, Sm (nv (cutL l 0 n l.length)), Sm m, cutL l 0 n l.length = dg (nv (cutL l 0 n l.length)), decide (nv (cutL l 0 n l.length) < m) = false, 0 + n ≤ l.length, (dg m).length = (dg m).length, IsD (cutL l 0 n l.length), IsD (dg m), nv (dg m) ≤ nv (cutL l 0 n l.length), (cutL l 0 n l.length).length ≤ 4000000]) := by kernel_rfl
theorem leftExit2 (a m : Nat) (l : List Int) (n : Nat) (i : Int) : roundS Tryz.prog (lookG tblL) (orcP [(6, [(2, true)])] [(6, [2])]) [] 10 leftTd (bodyAt Tryz.prog 87 6) (leftInv a m l n i) =
    some (Ex.exit 2, St.mk (slotsOf 30 [(0, sc (IV.sl 0 0 (dg a).length)), (1, sc (IV.sl 1 0 (dg m).length)), (5, sc (IV.sl 2 0 n)), (6, sc (IV.i64 i))]) [(0, Blk.mk false [IV.vd a]), (1, Blk.mk false [IV.vd m]), (2, Blk.mk true [IV.vi l.length l])] 16, [0 + n ≤ l.length, (dg m).length = (dg m).length, Sm (nv (cutL l 0 n l.length)), Sm m, cutL l 0 n l.length = dg (nv (cutL l 0 n l.length)), decide (nv (cutL l 0 n l.length) < m) = true]) := by kernel_rfl
theorem leftRound (a m : Nat) (l : List Int) (n : Nat) (i : Int) (l2 : List Int) (n2 : Nat) : roundS Tryz.prog (lookG tblL) (orcP [(3, [(1, true)])] [(5, [6])]) [⟨6, leftTd, .exit 2, leftInv a m l2 n2 i⟩] 10 leftTd (bodyAt Tryz.prog 87 3) (leftInv a m l n i) =
    some (Ex.normal, St.mk (slotsOf 30 [(0, sc (IV.sl 0 0 (dg a).length)), (1, sc (IV.sl 1 0 (dg m).length)), (5, sc (IV.sl 2 0 n2)), (6, sc (IV.i64 (i - (1 : Int))))]) [(0, Blk.mk false [IV.vd a]), (1, Blk.mk false [IV.vd m]), (2, Blk.mk true [IV.vi l2.length l2])] 16, [decide ((0 : Int) ≤ i) = true, (0 : Int) ≤ i, i.toNat < (dg a).length, 0 + i.toNat * 1 < (dg a).length, 0 + n ≤ l.length, 1 ≤ 1, (1 + n) * 8 ≤ 140737488355328 ∧ 1 + n ≤ 9223372036854775807, 1 + n = (cutL ((List.replicate 1 (0 : Int)).set 0 ((dg a).getD (0 + i.toNat * 1) (0 : Int))) 0 1 1 ++ cutL l 0 n l.length).length, (cutL ((List.replicate 1 (0 : Int)).set 0 ((dg a).getD (0 + i.toNat * 1) (0 : Int))) 0 1 1 ++ cutL l 0 n l.length).length ≤ 1000000000, trimFrom (cutL ((List.replicate 1 (0 : Int)).set 0 ((dg a).getD (0 + i.toNat * 1) (0 : Int))) 0 1 1 ++ cutL l 0 n l.length) (cutL ((List.replicate 1 (0 : Int)).set 0 ((dg a).getD (0 + i.toNat * 1) (0 : Int))) 0 1 1 ++ cutL l 0 n l.length).length ≤ 1 + n, LoopTo Tryz.prog (bodyAt Tryz.prog 87 6) (St.mk (slotsOf 30 [(0, sc (IV.sl 0 0 (dg a).length)), (1, sc (IV.sl 1 0 (dg m).length)), (5, sc (IV.sl 2 0 (trimFrom (cutL ((List.replicate 1 (0 : Int)).set 0 ((dg a).getD (0 + i.toNat * 1) (0 : Int))) 0 1 1 ++ cutL l 0 n l.length) (cutL ((List.replicate 1 (0 : Int)).set 0 ((dg a).getD (0 + i.toNat * 1) (0 : Int))) 0 1 1 ++ cutL l 0 n l.length).length))), (6, sc (IV.i64 i))]) [(0, Blk.mk false [IV.vd a]), (1, Blk.mk false [IV.vd m]), (2, Blk.mk true [IV.vi (cutL ((List.replicate 1 (0 : Int)).set 0 ((dg a).getD (0 + i.toNat * 1) (0 : Int))) 0 1 1 ++ cutL l 0 n l.length).length (cutL ((List.replicate 1 (0 : Int)).set 0 ((dg a).getD (0 + i.toNat * 1) (0 : Int))) 0 1 1 ++ cutL l 0 n l.length)])] 16) (Ex.exit 2) (St.mk (slotsOf 30 [(0, sc (IV.sl 0 0 (dg a).length)), (1, sc (IV.sl 1 0 (dg m).length)), (5, sc (IV.sl 2 0 n2)), (6, sc (IV.i64 i))]) [(0, Blk.mk false [IV.vd a]), (1, Blk.mk false [IV.vd m]), (2, Blk.mk true [IV.vi l2.length l2])] 16), inI64 (i - (1 : Int))]) := by kernel_rfl
theorem leftExit (a m : Nat) (l : List Int) (n : Nat) (i : Int) : roundS Tryz.prog (lookG tblL) (orcA [(3, [(1, false)])]) [] 10 leftTd (bodyAt Tryz.prog 87 3) (leftInv a m l n i) =
    some (Ex.exit 0, St.mk (slotsOf 30 [(0, sc (IV.sl 0 0 (dg a).length)), (1, sc (IV.sl 1 0 (dg m).length)), (5, sc (IV.sl 2 0 n)), (6, sc (IV.i64 i))]) [(0, Blk.mk false [IV.vd a]), (1, Blk.mk false [IV.vd m]), (2, Blk.mk true [IV.vi l.length l])] 16, [decide ((0 : Int) ≤ i) = false]) := by kernel_rfl
theorem runLeft (a m : Nat) (l : List Int) (n : Nat) (i : Int) : fnS Tryz.prog (lookG tblL) (orcA []) [⟨3, leftTd, .exit 0, leftInv a m l n i⟩] 10 87 [sc (.dN a), sc (.dN m)] =
    some (sc (IV.dI (cutL l 0 n l.length)), [inI64 ((↑(dg a).length : Int) - (1 : Int)), LoopTo Tryz.prog (bodyAt Tryz.prog 87 3) (St.mk (slotsOf 30 [(0, sc (IV.sl 0 0 (dg a).length)), (1, sc (IV.sl 1 0 (dg m).length)), (5, sc (IV.sl 2 0 0)), (6, sc (IV.i64 ((↑(dg a).length : Int) - (1 : Int))))]) [(0, Blk.mk false [IV.vd a]), (1, Blk.mk false [IV.vd m]), (2, Blk.mk true [IV.vi 0 []])] 16) (Ex.exit 0) (St.mk (slotsOf 30 [(0, sc (IV.sl 0 0 (dg a).length)), (1, sc (IV.sl 1 0 (dg m).length)), (5, sc (IV.sl 2 0 n)), (6, sc (IV.i64 i))]) [(0, Blk.mk false [IV.vd a]), (1, Blk.mk false [IV.vd m]), (2, Blk.mk true [IV.vi l.length l])] 16), 0 + n ≤ l.length]) := by kernel_rfl
/-- What the inner loop comes to. -/
def lTgt (m : Nat) (l : List Int) (n : Nat) : List Int × Nat := if nv (cutL l 0 n l.length) < m then (l, n) else (dg (nv (cutL l 0 n l.length) % m), (dg (nv (cutL l 0 n l.length) % m)).length)
theorem leftLoop2 (a m : Nat) (hm : 0 < m) (sm : Sm m) (i : Int) (l : List Int) (n w : Nat) (hn : n ≤ l.length) (hl : cutL l 0 n l.length = dg w) (sw : Sm w) :
    LoopTo Tryz.prog (bodyAt Tryz.prog 87 6) (leftInv a m l n i) (.exit 2) (leftInv a m (lTgt m l n).1 (lTgt m l n).2 i) := by
  have hw : nv (cutL l 0 n l.length) = w := by rw [hl, nv_dg]
  refine LoopTo.intro (α := Nat × List Int × Nat) gsL fol (fun s => leftInv a m s.2.1 s.2.2 i) (fun s => s.1 ≤ w ∧ s.2.2 ≤ s.2.1.length ∧ cutL s.2.1 0 s.2.2 s.2.1.length = dg s.1 ∧ s.1 % m = w % m ∧ (s.1 < m → (s.2.1, s.2.2) = lTgt m l n)) (fun s => s.1) (by simp) ?_ (w, l, n)
    ⟨Nat.le_refl _, hn, hl, rfl, fun h => by unfold lTgt; rw [hw, if_pos h]⟩
  rintro ⟨u, l', n'⟩ ⟨h0, h1, h2, h3, h4⟩
  dsimp only at h0 h1 h2 h3 h4 ⊢
  have hu : nv (cutL l' 0 n' l'.length) = u := by rw [h2, nv_dg]
  have su : Sm u := by
    by_cases hu0 : u = 0
    · subst hu0; unfold Sm; rw [dg_zero]; simp
    · exact Sm_lt (k := (dg w).length) (Nat.lt_of_le_of_lt h0 (lt_of_dg w)) sw
  by_cases hlt : u < m
  · right
    have e := h4 hlt
    rw [← e]
    refine ⟨_, _, _, _, _, leftExit2 a m l' n' i, ?_⟩
    rw [hu]
    exact ⟨by omega, rfl, su, sm, h2, decide_eq_true hlt, trivial⟩
  · left
    have hmod : (u - m) % m = w % m := by rw [← h3]; exact (Nat.mod_eq_sub_mod (Nat.le_of_not_lt hlt)).symm
    have r := leftRound2 a m l' n' i
    rw [hu, nv_dg] at r
    refine ⟨_, _, _, _, _, (u - m, dg (u - m), (dg (u - m)).length), r, ⟨by omega, rfl, su, sm, h2, decide_eq_false hlt, by omega, rfl, by rw [h2]; exact dg_D _, dg_D _, Nat.le_of_not_lt hlt, by rw [h2]; exact su, trivial⟩, ⟨by simp only; omega, Nat.le_refl _, cutL_all _, hmod, fun h => ?_⟩, by simp only; omega⟩
    have e : w % m = u - m := by rw [← hmod]; exact Nat.mod_eq_of_lt h
    have hwm : ¬ w < m := fun h' => by have : w % m = w := Nat.mod_eq_of_lt h'; omega
    unfold lTgt
    rw [hw, if_neg hwm, e]
theorem lTgt_ok {m : Nat} {l : List Int} {n w : Nat} (hn : n ≤ l.length) (hl : cutL l 0 n l.length = dg w) : (lTgt m l n).2 ≤ (lTgt m l n).1.length ∧ cutL (lTgt m l n).1 0 (lTgt m l n).2 (lTgt m l n).1.length = dg (w % m) := by
  have hw : nv (cutL l 0 n l.length) = w := by rw [hl, nv_dg]
  unfold lTgt
  rw [hw]
  by_cases h : w < m
  · rw [if_pos h, Nat.mod_eq_of_lt h]
    exact ⟨hn, hl⟩
  · rw [if_neg h]
    exact ⟨Nat.le_refl _, cutL_all _⟩
/-- The state behind so many digits, from the highest. -/
def lSt (a m : Nat) : Nat → List Int × Nat
  | 0 => ([], 0)
  | j + 1 =>
    let l := ((dig a ((dg a).length - 1 - j) : Nat) : Int) :: cutL (lSt a m j).1 0 (lSt a m j).2 (lSt a m j).1.length
    lTgt m l (trimFrom l l.length)
theorem cons_trim (x w : Nat) (hx : x < 256) : cutL (((x : Nat) : Int) :: dg w) 0 (trimFrom (((x : Nat) : Int) :: dg w) (((x : Nat) : Int) :: dg w).length) (((x : Nat) : Int) :: dg w).length = dg (x + 256 * w) := by
  rw [trim_dg (IsD_cons (by omega) (dg_D w))]
  simp [nv, nv_dg]
theorem lSt_ok (a m : Nat) : ∀ j, j ≤ (dg a).length → (lSt a m j).2 ≤ (lSt a m j).1.length ∧ cutL (lSt a m j).1 0 (lSt a m j).2 (lSt a m j).1.length = dg (a / 256 ^ ((dg a).length - j) % m) := by
  intro j
  induction j with
  | zero =>
    intro _
    have : a / 256 ^ (dg a).length = 0 := Nat.div_eq_of_lt (lt_of_dg a)
    simp only [lSt, Nat.sub_zero, this, Nat.zero_mod, dg_zero]
    exact ⟨Nat.le_refl _, rfl⟩
  | succ j ih =>
    intro hj
    obtain ⟨h1, h2⟩ := ih (by omega)
    have hx := dig_lt a ((dg a).length - 1 - j)
    obtain ⟨k, hk⟩ : ∃ k, (dg a).length - 1 - j = k := ⟨_, rfl⟩
    have hk1 : (dg a).length - j = k + 1 := by omega
    have hk2 : (dg a).length - (j + 1) = k := by omega
    rw [hk1] at h2
    simp only [lSt, hk] at hx ⊢
    rw [h2, hk2]
    have := lTgt_ok (m := m) (trimFrom_le _ _) (cons_trim (dig a k) (a / 256 ^ (k + 1) % m) hx)
    rw [left_next] at this
    exact this
theorem leftLoop (a m : Nat) (hm : 0 < m) (sa : Sm a) (sm : Sm m) (sm2 : (dg m).length ≤ 3999990) :
    LoopTo Tryz.prog (bodyAt Tryz.prog 87 3) (leftInv a m [] 0 (((dg a).length : Int) - 1)) (.exit 0) (leftInv a m (lSt a m (dg a).length).1 (lSt a m (dg a).length).2 (-1)) := by
  refine LoopTo.intro (α := Nat × Int × List Int × Nat) gsL fol (fun s => leftInv a m s.2.2.1 s.2.2.2 s.2.1) (fun s => s.1 ≤ (dg a).length ∧ s.2.1 = ((dg a).length : Int) - 1 - s.1 ∧ (s.2.2.1, s.2.2.2) = lSt a m s.1) (fun s => (dg a).length - s.1) (by simp) ?_ (0, _, [], 0) ⟨by simp, by simp, rfl⟩
  rintro ⟨j, i, l, n⟩ ⟨hj, hi, hs⟩
  dsimp only at hj hi hs ⊢
  obtain ⟨h1, h2⟩ := lSt_ok a m j hj
  rw [← hs] at h1 h2
  dsimp only at h1 h2
  have sa' : (dg a).length ≤ 4000000 := sa
  by_cases he : j = (dg a).length
  · subst he
    have hi' : i = -1 := by omega
    subst hi'
    rw [← hs]
    exact .inr ⟨_, _, _, _, _, leftExit a m _ _ _, by simp, trivial⟩
  · obtain ⟨k, hk⟩ : ∃ k : Nat, (dg a).length - 1 - j = k := ⟨_, rfl⟩
    have hik : i = (k : Int) := by omega
    subst hik
    have hx := dig_lt a k
    have hw : Sm (dig a k + 256 * (a / 256 ^ ((dg a).length - j) % m)) := by
      have q1 : a / 256 ^ ((dg a).length - j) % m < m := Nat.mod_lt _ hm
      have q2 := lt_of_dg m
      refine Sm_lt (k := (dg m).length + 1) ?_ (by omega)
      rw [Nat.pow_succ]
      omega
    have hlen : (dg (a / 256 ^ ((dg a).length - j) % m)).length ≤ 3999990 := by
      refine Nat.le_trans (dg_length_le ?_) sm2
      exact Nat.lt_of_lt_of_le (Nat.mod_lt _ hm) (Nat.le_of_lt (lt_of_dg m))
    have hn : n = (dg (a / 256 ^ ((dg a).length - j) % m)).length := by
      rw [← h2]
      unfold cutL
      split
      · rename_i q; exact q.2
      · simp; omega
    have r := leftRound a m l n (k : Nat) (lSt a m (j + 1)).1 (lSt a m (j + 1)).2
    have e1 : ∀ x : Int, cutL [x] 0 1 1 = [x] := fun x => rfl
    simp only [one_set, e1, Int.toNat_natCast, Nat.zero_add, Nat.mul_one, getD_dig (dg_D a), nv_dg, h2, List.cons_append, List.nil_append, List.length_cons] at r
    have hS : lSt a m (j + 1) = lTgt m (((dig a k : Nat) : Int) :: dg (a / 256 ^ ((dg a).length - j) % m)) (trimFrom (((dig a k : Nat) : Int) :: dg (a / 256 ^ ((dg a).length - j) % m)) ((dg (a / 256 ^ ((dg a).length - j) % m)).length + 1)) := by
      simp only [lSt, hk, ← hs, h2, List.length_cons]
    have hT := trimFrom_le (((dig a k : Nat) : Int) :: dg (a / 256 ^ ((dg a).length - j) % m)) ((dg (a / 256 ^ ((dg a).length - j) % m)).length + 1)
    have hL := leftLoop2 a m hm sm (k : Nat) (((dig a k : Nat) : Int) :: dg (a / 256 ^ ((dg a).length - j) % m)) (trimFrom (((dig a k : Nat) : Int) :: dg (a / 256 ^ ((dg a).length - j) % m)) ((dg (a / 256 ^ ((dg a).length - j) % m)).length + 1)) _ (by simpa using hT) (cons_trim _ _ hx) hw
    rw [← hS] at hL
    refine .inl ⟨_, _, _, _, _, (j + 1, _, (lSt a m (j + 1)).1, (lSt a m (j + 1)).2), r, ?_, ⟨by simp only; omega, by simp only; omega, rfl⟩, by simp only; omega⟩
    simp only [AllP, inI64, decide_eq_true_eq]
    and_intros <;> first | exact hL | omega | trivial
def spNLeft : List AV → Option (AV × List Prop)
  | [.val false [.dN a], .val false [.dN m]] => some (sc (.dN (a % m)), [0 < m, Sm a, Sm m, (dg m).length ≤ 3999990])
  | _ => none
theorem nLeft : CtSOk Tryz.prog 87 (.fn spNLeft) := FnS_intro fun ds r cs h hc w vals hv => by
  unfold spNLeft at h
  split at h
  case h_2 => simp at h
  rename_i a m
  simp only [Option.some.injEq, Prod.mk.injEq] at h
  obtain ⟨rfl, rfl⟩ := h
  obtain ⟨hm, sa, sm, sm2, _⟩ := hc
  obtain ⟨h1, h2⟩ := lSt_ok a m (dg a).length (Nat.le_refl _)
  rw [Nat.sub_self, Nat.pow_zero, Nat.div_one] at h2
  have sa' : (dg a).length ≤ 4000000 := sa
  have r := runLeft a m (lSt a m (dg a).length).1 (lSt a m (dg a).length).2 (-1)
  rw [h2] at r
  refine (calls_of_fnS gsL fol r ⟨⟨by omega, by omega⟩, leftLoop a m hm sa sm sm2, by omega, trivial⟩ w vals hv).mono ?_
  rintro e w' ⟨v, q1, q2, q3⟩
  exact ⟨v, q1, q2, ResOk_ex q3⟩
def tblM : List (FuncId × CtS) := [(88, .fn spNAt), (85, .fn (orD spNSum)), (118, .fn (orD spNMinus)), (70, .fn (orD spNLess)), (51, .fn spNRead), (43, .fn (orD spNTold)), (124, .fn spNDigits), (114, .fn (orD spNOf)), (97, .pre preTrim), (86, .fn (orD spNTimes)), (87, .fn (orD spNLeft))]
theorem okM : TblOk Tryz.prog tblM := ⟨⟨nAt, by kernel_rfl⟩, ⟨FnS_orD nSum, by kernel_rfl⟩, ⟨FnS_orD nMinus, by kernel_rfl⟩, ⟨FnS_orD nLess, by kernel_rfl⟩, ⟨nRead, by kernel_rfl⟩, ⟨FnS_orD nTold, by kernel_rfl⟩, ⟨nDigits, by kernel_rfl⟩, ⟨FnS_orD nOf, by kernel_rfl⟩, ⟨ctTrim, by kernel_rfl⟩, ⟨FnS_orD nTimes, by kernel_rfl⟩, ⟨FnS_orD nLeft, by kernel_rfl⟩, trivial⟩
theorem gsM : GSound Tryz.prog (upG (lookG tblM)) := GSound_of_tbl okM
end Go.Proofs.YtlgiaglbdifkpaaGreatDoor
/- Sixteen digits to the base 65536, plainly. Own work. -/
namespace Go.Sp
open Go.Ev
/-- What digits stand for. -/
def V : List Int → Int
  | [] => 0
  | d :: r => d + 65536 * V r
theorem V_append : ∀ (l m : List Int), V (l ++ m) = V l + 65536 ^ l.length * V m
  | [], m => by simp [V]
  | d :: l, m => by
    rw [List.cons_append, V, V_append l m, V, List.length_cons, Int.pow_succ]
    rw [Int.mul_add, ← Int.mul_assoc, Int.add_assoc, Int.mul_comm 65536 (65536 ^ l.length)]
theorem V_set : ∀ {l : List Int} {j : Nat} (d : Int), j < l.length → V (l.set j d) = V l + 65536 ^ j * (d - l.getD j 0)
  | a :: l, 0, d, _ => by simp [V, List.set]; omega
  | a :: l, j + 1, d, h => by
    rw [List.set_cons_succ, V, V_set d (by simpa using h), V, List.getD_cons_succ, Int.pow_succ, Int.mul_add, Int.add_assoc, ← Int.mul_assoc, Int.mul_comm 65536 (65536 ^ j)]
/-- Digits below 65536, not below 0. -/
def Dg (l : List Int) : Prop := ∀ d ∈ l, 0 ≤ d ∧ d < 65536
theorem V_nonneg : ∀ {l : List Int}, (∀ d ∈ l, 0 ≤ d) → 0 ≤ V l
  | [], _ => by simp [V]
  | a :: l, h => by
    have h1 := h a (by simp)
    have h2 := V_nonneg (l := l) fun d hd => h d (by simp [hd])
    rw [V]; omega
theorem V_lt {M : Nat} : ∀ {l : List Int}, (∀ d ∈ l, 0 ≤ d ∧ d ≤ (M : Int)) → 65535 * V l + (M : Int) ≤ ((M * 65536 ^ l.length : Nat) : Int)
  | [], _ => by simp [V]
  | a :: l, h => by
    have h1 := (h a (by simp)).2
    have h2 := V_lt (l := l) fun d hd => h d (by simp [hd])
    rw [V, List.length_cons, Nat.pow_succ, ← Nat.mul_assoc]
    generalize M * 65536 ^ l.length = q at *
    omega
theorem V_dg_lt : ∀ {l : List Int}, Dg l → V l < ((65536 ^ l.length : Nat) : Int)
  | [], _ => by simp [V]
  | a :: l, h => by
    have h1 := (h a (by simp)).2
    have h2 := V_dg_lt (l := l) fun d hd => h d (by simp [hd])
    rw [V, List.length_cons, Nat.pow_succ]
    generalize 65536 ^ l.length = q at *
    omega
theorem V_inj : ∀ {l m : List Int}, Dg l → Dg m → l.length = m.length → V l = V m → l = m
  | [], [], _, _, _, _ => rfl
  | a :: l, b :: m, hl, hm, hn, hv => by
    have h1 := hl a (by simp)
    have h2 := hm b (by simp)
    simp only [V] at hv
    have e : a = b := by omega
    subst e
    have := V_inj (l := l) (m := m) (fun d hd => hl d (by simp [hd])) (fun d hd => hm d (by simp [hd])) (by simpa using hn) (by omega)
    rw [this]
theorem dig16_D (x i : Nat) : 0 ≤ dig16 x i ∧ dig16 x i < 65536 := by unfold dig16; omega
/-- So many digits. -/
def digsN (x : Nat) : Nat → List Int
  | 0 => []
  | n + 1 => ((x % 65536 : Nat) : Int) :: digsN (x / 65536) n
theorem digsN_eq (n : Nat) : ∀ x, digsN x n = (List.range n).map (dig16 x) := by
  induction n with
  | zero => intro x; rfl
  | succ n ih =>
    intro x
    rw [digsN, ih, List.range_succ_eq_map, List.map_cons, List.map_map]
    have h0 : ((x % 65536 : Nat) : Int) = dig16 x 0 := by simp [dig16]
    rw [h0]
    congr 1
    apply List.map_congr_left
    intro i _
    show dig16 (x / 65536) i = dig16 x (i + 1)
    unfold dig16
    rw [Nat.pow_succ, Nat.mul_comm, ← Nat.div_div_eq_div_mul]
theorem digs16_eq (x : Nat) : digs16 x = digsN x 16 := (digsN_eq 16 x).symm
theorem digsN_ok (n : Nat) : ∀ x, (digsN x n).length = n ∧ Dg (digsN x n) ∧ V (digsN x n) = ((x % 65536 ^ n : Nat) : Int) := by
  induction n with
  | zero => intro x; exact ⟨rfl, fun d h => by simp [digsN] at h, by simp [digsN, V, Nat.mod_one]⟩
  | succ n ih =>
    intro x
    obtain ⟨h1, h2, h3⟩ := ih (x / 65536)
    refine ⟨by simp [digsN, h1], fun d h => ?_, ?_⟩
    · rcases List.mem_cons.1 h with rfl | h
      · omega
      · exact h2 d h
    · rw [digsN, V, h3, Nat.pow_succ, Nat.mul_comm (65536 ^ n) 65536, Nat.mod_mul]
      omega
theorem p256_eq : p256 = 65536 ^ 16 := by decide
theorem digs16_len (x : Nat) : (digs16 x).length = 16 := by rw [digs16_eq]; exact (digsN_ok 16 x).1
theorem digs16_D (x : Nat) : Dg (digs16 x) := by rw [digs16_eq]; exact (digsN_ok 16 x).2.1
theorem digs16_V (x : Nat) : V (digs16 x) = ((x % p256 : Nat) : Int) := by rw [digs16_eq, p256_eq]; exact (digsN_ok 16 x).2.2
theorem digs16_getD (x i : Nat) (h : i < 16) : (digs16 x).getD i 0 = dig16 x i := by
  rw [digs16, List.getD_eq_getElem?_getD, List.getElem?_map, List.getElem?_range h]; rfl
/-- Digits that stand for x are x's. -/
theorem eq_digs16 {l : List Int} {x : Nat} (hd : Dg l) (hl : l.length = 16) (hx : x < p256) (hv : V l = (x : Int)) : l = digs16 x :=
  V_inj hd (digs16_D x) (by rw [hl, digs16_len]) (by rw [hv, digs16_V, Nat.mod_eq_of_lt hx])
theorem digs16_mod (x : Nat) : digs16 (x % p256) = digs16 x :=
  V_inj (digs16_D _) (digs16_D _) (by rw [digs16_len, digs16_len]) (by rw [digs16_V, digs16_V, Nat.mod_mod])
theorem getD_setI (l : List Int) (i j : Nat) (x : Int) (h : i < l.length) : (l.set i x).getD j 0 = if j = i then x else l.getD j 0 := by
  rw [List.getD_eq_getElem?_getD, List.getD_eq_getElem?_getD, List.getElem?_set]
  by_cases e : i = j
  · subst e; simp [h]
  · rw [if_neg e, if_neg (fun h => e h.symm)]
theorem mem_getD {l : List Int} {Q : Int → Prop} (h : ∀ i, i < l.length → Q (l.getD i 0)) : ∀ d ∈ l, Q d := by
  intro d hd
  obtain ⟨i, hi, e⟩ := List.getElem_of_mem hd
  have := h i hi
  rw [List.getD_eq_getElem?_getD, List.getElem?_eq_getElem hi, e] at this
  exact this
theorem getD_mem {l : List Int} {Q : Int → Prop} (h : ∀ d ∈ l, Q d) (i : Nat) (hi : i < l.length) : Q (l.getD i 0) := by
  rw [List.getD_eq_getElem?_getD, List.getElem?_eq_getElem hi]
  exact h _ (List.getElem_mem hi)
/-! ### One pass with a carry -/
def cpF (l : List Int) (c : Int) : Nat → List Int × Int
  | 0 => (l, c)
  | i + 1 => let s := cpF l c i; (s.1.set i ((s.1.getD i 0 + s.2).tmod 65536), (s.1.getD i 0 + s.2).tdiv 65536)
structure CpOk (l : List Int) (c : Int) (i : Nat) (m : List Int) (k : Int) : Prop where
  len : m.length = 16
  val : V m + 65536 ^ i * k = V l + c
  low : ∀ j, j < i → 0 ≤ m.getD j 0 ∧ m.getD j 0 < 65536
  high : ∀ j, i ≤ j → m.getD j 0 = l.getD j 0
  car : 0 ≤ k ∧ k < 35184372088832
theorem cp_step {l m : List Int} {c k : Int} {i : Nat} (hl : ∀ j, j < 16 → 0 ≤ l.getD j 0 ∧ l.getD j 0 < 35184372088832) (hi : i < 16) (h : CpOk l c i m k) :
    CpOk l c (i + 1) (m.set i ((m.getD i 0 + k).tmod 65536)) ((m.getD i 0 + k).tdiv 65536) := by
  obtain ⟨h1, h2, h3, h4, h5⟩ := h
  have e := h4 i (Nat.le_refl _)
  have hb := hl i hi
  rw [← e] at hb
  obtain ⟨t, ht⟩ : ∃ t, t = m.getD i 0 + k := ⟨_, rfl⟩
  have t0 : 0 ≤ t := by omega
  have t1 : t < 70368744177664 := by omega
  rw [← ht, Int.tmod_eq_emod_of_nonneg t0, Int.tdiv_eq_ediv_of_nonneg t0]
  refine ⟨by rw [List.length_set]; exact h1, ?_, fun j hj => ?_, fun j hj => ?_, by omega⟩
  · have e5 : (t % 65536 - m.getD i 0) + 65536 * (t / 65536) = k := by omega
    rw [V_set _ (by rw [h1]; exact hi), Int.pow_succ, ← h2]
    generalize (65536 : Int) ^ i = P
    rw [Int.add_assoc, Int.mul_assoc, ← Int.mul_add, e5]
  · rw [getD_setI _ _ _ _ (by rw [h1]; exact hi)]
    by_cases ej : j = i
    · rw [if_pos ej]; omega
    · rw [if_neg ej]; exact h3 j (by omega)
  · rw [getD_setI _ _ _ _ (by rw [h1]; exact hi), if_neg (by omega)]
    exact h4 j (by omega)
theorem cp_ok {l : List Int} {c : Int} (hn : l.length = 16) (hl : ∀ j, j < 16 → 0 ≤ l.getD j 0 ∧ l.getD j 0 < 35184372088832) (hc : 0 ≤ c ∧ c < 35184372088832) : ∀ i, i ≤ 16 → CpOk l c i (cpF l c i).1 (cpF l c i).2
  | 0, _ => ⟨hn, by show V l + 65536 ^ 0 * c = _; simp, fun j hj => by omega, fun j _ => rfl, hc⟩
  | i + 1, hi => cp_step hl (by omega) (cp_ok hn hl hc i (by omega))
/-- What a pass comes to. -/
theorem cp_all {l : List Int} {c : Int} {n : Nat} (hn : l.length = 16) (hl : ∀ j, j < 16 → 0 ≤ l.getD j 0 ∧ l.getD j 0 < 35184372088832) (hc : 0 ≤ c ∧ c < 35184372088832) (hv : V l + c = (n : Int)) :
    cpF l c 16 = (digs16 n, ((n / p256 : Nat) : Int)) := by
  have hok := cp_ok hn hl hc 16 (Nat.le_refl _)
  generalize cpF l c 16 = s at hok ⊢
  obtain ⟨m, k⟩ := s
  obtain ⟨h1, h2, h3, _, h5⟩ := hok
  have hD : Dg m := mem_getD fun i hi => h3 i (by rw [h1] at hi; exact hi)
  have hlt := V_dg_lt hD
  have h0 := V_nonneg fun d hd => (hD d hd).1
  simp only at *
  rw [h1] at hlt
  have hp : ((65536 : Int) ^ 16) = ((p256 : Nat) : Int) := by decide
  have hp2 : ((65536 ^ 16 : Nat) : Int) = ((p256 : Nat) : Int) := by decide
  rw [hv, hp] at h2
  rw [hp2] at hlt
  obtain ⟨k', hk'⟩ := Int.eq_ofNat_of_zero_le h5.1
  obtain ⟨v, hv'⟩ := Int.eq_ofNat_of_zero_le h0
  subst hk'
  rw [hv'] at h2 hlt
  have h2' : v + p256 * k' = n := by exact_mod_cast h2
  have hlt' : v < p256 := by exact_mod_cast hlt
  have hp0 : 0 < p256 := by decide
  have q1 : n / p256 = k' := by rw [← h2', Nat.add_mul_div_left _ _ hp0, Nat.div_eq_of_lt hlt', Nat.zero_add]
  have q2 : n % p256 = v := by rw [← h2', Nat.add_mul_mod_self_left, Nat.mod_eq_of_lt hlt']
  rw [q1, ← digs16_mod, q2]
  congr 1
  exact eq_digs16 hD h1 hlt' hv'
end Go.Sp
/- The prime 2^255 - 19: digits settled, plainly. Own work. -/
namespace Go.Sp
open Go.Ev
def Pp : Nat := 57896044618658097711785492504343953926634992332820282019728792003956564819949
def p255 : Nat := 57896044618658097711785492504343953926634992332820282019728792003956564819968
theorem p256_two : p256 = 2 * p255 := by decide
theorem p255_Pp : p255 = Pp + 19 := by decide
theorem Pp_pos : 0 < Pp := by decide
theorem Pp_lt : Pp < p256 := by decide
/-! ### 2^256 counts as 38 -/
def f38 (n : Nat) : Nat := n % p256 + 38 * (n / p256)
theorem f38_mod (n : Nat) : f38 n % Pp = n % Pp := by
  have h := Nat.mod_add_div n p256
  have e : n = f38 n + Pp * (2 * (n / p256)) := by
    unfold f38
    have hp : p256 = 2 * Pp + 38 := by decide
    rw [hp] at h ⊢
    generalize n % (2 * Pp + 38) = m at *
    generalize n / (2 * Pp + 38) = k at *
    rw [← h, Nat.add_mul, Nat.mul_assoc, Nat.mul_left_comm 2 Pp k]
    omega
  have := Nat.add_mul_mod_self_left (f38 n) Pp (2 * (n / p256))
  rw [← e] at this
  exact this.symm
theorem f38_two {n : Nat} (h : n < 35184372088832 * p256) : f38 (f38 n) < p256 := by
  have hk : n / p256 < 35184372088832 := (Nat.div_lt_iff_lt_mul (by decide)).2 h
  have hm : n % p256 < p256 := Nat.mod_lt _ (by decide)
  unfold f38
  generalize n / p256 = k at *
  generalize n % p256 = m at *
  have hp : 2000000000000000 < p256 := by decide
  generalize p256 = p at *
  have h1 : m + 38 * k < 2 * p := by omega
  by_cases hc : m + 38 * k < p
  · rw [Nat.mod_eq_of_lt hc, Nat.div_eq_of_lt hc]; omega
  · have e1 : (m + 38 * k) / p = 1 := by
      rw [Nat.div_eq_iff (by omega)]; omega
    have e2 : (m + 38 * k) % p = m + 38 * k - p := by
      rw [Nat.mod_eq_sub_mod (by omega), Nat.mod_eq_of_lt (by omega)]
    rw [e1, e2]; omega
theorem f38_small {n : Nat} (h : n < p256) : f38 n = n := by unfold f38; rw [Nat.mod_eq_of_lt h, Nat.div_eq_of_lt h]; omega
/-- Small enough digits. -/
def Sd (l : List Int) : Prop := l.length = 16 ∧ ∀ j, j < 16 → 0 ≤ l.getD j 0 ∧ l.getD j 0 < 35184372088832
theorem Sd.V {l : List Int} (h : Sd l) : ∃ n : Nat, Go.Sp.V l = (n : Int) ∧ n < 35184372088832 * p256 ∧ n / p256 ≤ 600000000 := by
  have h0 : ∀ d ∈ l, 0 ≤ d ∧ d ≤ ((35184372088832 : Nat) : Int) := mem_getD fun i hi => by have := h.2 i (by rw [← h.1]; exact hi); omega
  have h1 := V_lt h0
  have h2 := V_nonneg fun d hd => (h0 d hd).1
  obtain ⟨n, hn⟩ := Int.eq_ofNat_of_zero_le h2
  rw [h.1, ← p256_eq, hn] at h1
  have h3 : 65535 * n + 35184372088832 ≤ 35184372088832 * p256 := by omega
  refine ⟨n, hn, by omega, ?_⟩
  have : n < 600000001 * p256 := by
    have e : 35184372088832 * p256 ≤ 65535 * (536879137 * p256) := by
      rw [← Nat.mul_assoc]
      exact Nat.mul_le_mul_right _ (by decide)
    omega
  have := (Nat.div_lt_iff_lt_mul (x := n) (y := 600000001) (k := p256) (by decide)).2 this
  omega
def fp (l : List Int) : List Int := (cpF l 0 16).1.set 0 ((cpF l 0 16).1.getD 0 0 + 38 * (cpF l 0 16).2)
theorem fp_ok {l : List Int} {n : Nat} (h : Sd l) (hv : V l = (n : Int)) : Sd (fp l) ∧ V (fp l) = ((f38 n : Nat) : Int) := by
  obtain ⟨n', hn', _, hk⟩ := h.V
  have : n = n' := by rw [hv] at hn'; exact_mod_cast hn'
  subst this
  have e := cp_all (n := n) h.1 h.2 (c := 0) (by omega) (by rw [hv]; omega)
  unfold fp
  rw [e]
  have hd := digs16_D n
  have hl := digs16_len n
  refine ⟨⟨by rw [List.length_set, hl], fun j hj => ?_⟩, ?_⟩
  · rw [getD_setI _ _ _ _ (by rw [hl]; omega)]
    have d0 := getD_mem hd 0 (by rw [hl]; omega)
    have dj := getD_mem hd j (by rw [hl]; omega)
    simp only
    generalize n / p256 = k at *
    split
    · omega
    · omega
  · rw [V_set _ (by rw [hl]; omega), digs16_V]
    unfold f38
    simp only [Int.pow_zero, Int.one_mul]
    omega
theorem fp_last {l : List Int} {n : Nat} (h : Sd l) (hv : V l = (n : Int)) (hn : n < p256) : fp l = digs16 n := by
  have e := cp_all (n := n) h.1 h.2 (c := 0) (by omega) (by rw [hv]; omega)
  unfold fp
  rw [e, Nat.div_eq_of_lt hn]
  have hl := digs16_len n
  apply List.ext_getElem (by rw [List.length_set])
  intro i h1 h2
  rw [List.getElem_set]
  split
  · rename_i h0
    subst h0
    rw [List.getD_eq_getElem?_getD, List.getElem?_eq_getElem (by rw [hl]; omega)]
    simp
  · rfl
def fpN (l : List Int) : Nat → List Int
  | 0 => l
  | n + 1 => fp (fpN l n)
theorem fp5 {l : List Int} (h : Sd l) : ∃ x n : Nat, V l = (n : Int) ∧ x < p256 ∧ x % Pp = n % Pp ∧ fpN l 5 = digs16 x := by
  obtain ⟨n, hn, hlt, _⟩ := h.V
  obtain ⟨a1, b1⟩ := fp_ok h hn
  obtain ⟨a2, b2⟩ := fp_ok a1 b1
  have s2 := f38_two hlt
  obtain ⟨a3, b3⟩ := fp_ok a2 b2
  rw [f38_small s2] at b3
  obtain ⟨a4, b4⟩ := fp_ok a3 b3
  rw [f38_small s2] at b4
  exact ⟨f38 (f38 n), n, hn, s2, by rw [f38_mod, f38_mod], fp_last a4 b4 s2⟩
theorem fpN_Sd {l : List Int} (h : Sd l) : ∀ n, Sd (fpN l n)
  | 0 => h
  | n + 1 => by
    have ih := fpN_Sd h n
    obtain ⟨m, hm, _⟩ := ih.V
    exact (fp_ok ih hm).1
/-! ### 2^255 counts as 19 -/
def g19 (x : Nat) : Nat := x % p255 + 19 * (x / p255)
theorem g19_mod (n : Nat) : g19 n % Pp = n % Pp := by
  have h := Nat.mod_add_div n p255
  have e : n = g19 n + Pp * (n / p255) := by
    unfold g19
    have hp : p255 = Pp + 19 := by decide
    rw [hp] at h ⊢
    generalize n % (Pp + 19) = m at *
    generalize n / (Pp + 19) = k at *
    rw [← h, Nat.add_mul]
    omega
  have := Nat.add_mul_mod_self_left (g19 n) Pp (n / p255)
  rw [← e] at this
  exact this.symm
theorem g19_lt {x : Nat} (h : x < p256) : g19 x < p255 + 19 := by
  unfold g19
  have h1 : x % p255 < p255 := Nat.mod_lt _ (by decide)
  have h2 : x / p255 < 2 := (Nat.div_lt_iff_lt_mul (by decide)).2 (by rw [← p256_two]; exact h)
  omega
theorem g19_two {x : Nat} (h : x < p256) : g19 (g19 x) < p255 := by
  have h1 := g19_lt h
  have hp : 1000 < p255 := by decide
  by_cases hc : g19 x < p255
  · rw [g19, Nat.mod_eq_of_lt hc, Nat.div_eq_of_lt hc]; omega
  · generalize g19 x = y at *
    have e1 : y / p255 = 1 := by rw [Nat.div_eq_iff (by omega)]; omega
    have e2 : y % p255 = y - p255 := by rw [Nat.mod_eq_sub_mod (by omega), Nat.mod_eq_of_lt (by omega)]
    rw [g19, e1, e2]; omega
def tp1 (l : List Int) : List Int := l.set 15 ((l.getD 15 0).tmod 32768)
def tpC (l : List Int) : Int := 19 * (l.getD 15 0).tdiv 32768
def tp (l : List Int) : List Int := (cpF (tp1 l) (tpC l) 16).1
theorem dig15 {x : Nat} (h : x < p256) : dig16 x 15 = ((x / 65536 ^ 15 : Nat) : Int) := by
  unfold dig16
  rw [Nat.mod_eq_of_lt]
  rw [p256_eq, Nat.pow_succ, Nat.mul_comm] at h
  exact (Nat.div_lt_iff_lt_mul (Nat.pow_pos (by omega))).2 h
theorem top_q {x : Nat} : x / 65536 ^ 15 / 32768 = x / p255 := by
  rw [Nat.div_div_eq_div_mul, show 65536 ^ 15 * 32768 = p255 by decide]
theorem tp_pre {x : Nat} (h : x < p256) : Sd (tp1 (digs16 x)) ∧ tpC (digs16 x) = ((19 * (x / p255) : Nat) : Int) ∧ V (tp1 (digs16 x)) + tpC (digs16 x) = ((g19 x : Nat) : Int) := by
  have hl := digs16_len x
  have hd := digs16_D x
  have e15 : (digs16 x).getD 15 0 = ((x / 65536 ^ 15 : Nat) : Int) := by rw [digs16_getD _ _ (by omega), dig15 h]
  have hc : tpC (digs16 x) = ((19 * (x / p255) : Nat) : Int) := by
    unfold tpC
    rw [e15, ← top_q, Int.tdiv_eq_ediv_of_nonneg (by omega)]
    omega
  have h1 : (digs16 x).getD 15 0 < 65536 := (getD_mem hd 15 (by rw [hl]; omega)).2
  rw [e15] at h1
  refine ⟨⟨by rw [tp1, List.length_set, hl], fun j hj => ?_⟩, hc, ?_⟩
  · rw [tp1, getD_setI _ _ _ _ (by rw [hl]; omega), e15, Int.tmod_eq_emod_of_nonneg (by omega)]
    have dj := getD_mem hd j (by rw [hl]; omega)
    split <;> omega
  · rw [hc, tp1, V_set _ (by rw [hl]; omega), digs16_V, Nat.mod_eq_of_lt h, e15, Int.tmod_eq_emod_of_nonneg (by omega)]
    have hq := top_q (x := x)
    have hx := Nat.mod_add_div x p255
    unfold g19
    have hp : ((65536 : Int) ^ 15) = ((65536 ^ 15 : Nat) : Int) := by decide
    rw [hp]
    generalize x / 65536 ^ 15 = y at *
    have hz : ((y : Nat) : Int) % 32768 - (y : Int) = -(32768 * ((x / p255 : Nat) : Int)) := by omega
    rw [hz, Int.mul_neg, ← Int.mul_assoc]
    have hp2 : ((65536 ^ 15 : Nat) : Int) * 32768 = ((p255 : Nat) : Int) := by decide
    rw [hp2]
    have hx' : ((x % p255 : Nat) : Int) + ((p255 : Nat) : Int) * ((x / p255 : Nat) : Int) = (x : Int) := by exact_mod_cast hx
    generalize ((p255 : Nat) : Int) * ((x / p255 : Nat) : Int) = pq at *
    omega
theorem tp_ok {x : Nat} (h : x < p256) : tp (digs16 x) = digs16 (g19 x) := by
  obtain ⟨h1, h2, h3⟩ := tp_pre h
  have hq : x / p255 < 2 := (Nat.div_lt_iff_lt_mul (by decide)).2 (by rw [← p256_two]; exact h)
  have e := cp_all h1.1 h1.2 (c := tpC (digs16 x)) (by rw [h2]; omega) h3
  unfold tp
  rw [e]
/-! ### Below the prime -/
theorem near : ∀ t, t < 20 → t = 0 ∨ ((∀ j, j < 15 → j = 0 ∨ (p255 - t) / 65536 ^ j % 65536 = 65535) ∧ (p255 - t) / 65536 ^ 15 % 65536 = 32767 ∧ (p255 - t) % 65536 = 65536 - t) := by decide +kernel
theorem near_digs {x : Nat} (h1 : Pp ≤ x) (h2 : x < p255) : (∀ j, 1 ≤ j → j < 15 → dig16 x j = 65535) ∧ dig16 x 15 = 32767 ∧ dig16 x 0 = ((x - Pp : Nat) : Int) + 65517 := by
  have hp := p255_Pp
  obtain ⟨t, ht⟩ : ∃ t, t = p255 - x := ⟨_, rfl⟩
  have e : x = p255 - t := by omega
  rcases near t (by omega) with h0 | ⟨a, b, c⟩
  · omega
  · rw [← e] at a b c
    refine ⟨fun j hj hj2 => ?_, ?_, ?_⟩
    · rcases a j hj2 with h | h
      · omega
      · unfold dig16; rw [h]; rfl
    · unfold dig16; rw [b]; rfl
    · unfold dig16; rw [Nat.pow_zero, Nat.div_one, c]; omega
theorem least_c {x : Nat} (h : x < p255) (h1 : ∀ j, 1 ≤ j → j < 15 → dig16 x j = 65535) (h2 : dig16 x 15 = 32767) (h3 : 65517 ≤ dig16 x 0) :
    Pp ≤ x ∧ [dig16 x 0 - 65517, 0, 0, 0, 0, 0, 0, 0, 0, 0, 0, 0, 0, 0, 0, 0] = digs16 (x - Pp) := by
  have hl : digs16 x = [dig16 x 0, 65535, 65535, 65535, 65535, 65535, 65535, 65535, 65535, 65535, 65535, 65535, 65535, 65535, 65535, 32767] := by
    show [dig16 x 0, dig16 x 1, dig16 x 2, dig16 x 3, dig16 x 4, dig16 x 5, dig16 x 6, dig16 x 7, dig16 x 8, dig16 x 9, dig16 x 10, dig16 x 11, dig16 x 12, dig16 x 13, dig16 x 14, dig16 x 15] = _
    rw [h1 1, h1 2, h1 3, h1 4, h1 5, h1 6, h1 7, h1 8, h1 9, h1 10, h1 11, h1 12, h1 13, h1 14, h2] <;> omega
  have hv := digs16_V x
  have hlt : x < p256 := Nat.lt_trans h (by decide)
  have hd := dig16_D x 0
  have key : V (digs16 x) = dig16 x 0 + ((p255 - 65536 : Nat) : Int) := by
    rw [hl]
    generalize dig16 x 0 = d
    have : V [65535, 65535, 65535, 65535, 65535, 65535, 65535, 65535, 65535, 65535, 65535, 65535, 65535, 65535, 32767] * 65536 = ((p255 - 65536 : Nat) : Int) := by decide
    rw [V, ← this]
    omega
  rw [hv, Nat.mod_eq_of_lt hlt] at key
  have hp := p255_Pp
  have hp2 : 65536 < p255 := by decide
  generalize p255 = q at *
  generalize Pp = p at *
  refine ⟨by omega, ?_⟩
  have e : dig16 x 0 - 65517 = ((x - p : Nat) : Int) := by omega
  have hs : x - p < 65536 := by omega
  rw [e]
  generalize x - p = y at *
  refine eq_digs16 (fun d hd => ?_) rfl (Nat.lt_trans hs (by decide)) ?_
  · simp only [List.mem_cons, List.not_mem_nil, or_false] at hd
    omega
  · simp [V]
theorem mod_near {x : Nat} (h : x < p255) : x % Pp = if x < Pp then x else x - Pp := by
  split
  · exact Nat.mod_eq_of_lt (by assumption)
  · have hp := p255_Pp
    have hp2 : 1000 < Pp := by decide
    rw [Nat.mod_eq_sub_mod (by omega), Nat.mod_eq_of_lt (by omega)]
end Go.Sp
