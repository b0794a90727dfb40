/- Contracts of the document's digit lists. Own work. -/
import Derived.Test.YtbhnegdekeojkaaSpH
import Derived.Test.YtbhnegdekeojkaaCtB
namespace Go.Proofs.Ytbhnegdekeojkaa
open Go.Ev Go.Sp Go.RowKit
set_option maxRecDepth 100000

theorem cutL_all {α : Type} (l : List α) : cutL l 0 l.length l.length = l := by simp [cutL]
theorem cutL_eqn {α : Type} {l : List α} {n : Nat} (h : n = l.length) : cutL l 0 n l.length = l := by subst h; exact cutL_all l

def spAt : List AV → Option (AV × List Prop)
  | [.val false [.dI l], .val false [.i64 i]] => some (sc (.i64 (l.getD i.toNat 0)), [0 ≤ i])
  | _ => none
theorem runAt1 (l : List Int) (i : Int) : fnS Try.prog (lookG []) (orcOf [1, 2] [(1, [(3, true)])]) [] 10 29 [.val false [.dI l], .val false [.i64 i]] =
    some (sc (.i64 (l.getD (0 + i.toNat * 1) 0)), [decide (i < (l.length : Int)) = true, 0 ≤ i, i.toNat < l.length, 0 + i.toNat * 1 < l.length]) := by kernel_rfl
theorem runAt0 (l : List Int) (i : Int) : fnS Try.prog (lookG []) (orcOf [1, 2] [(1, [(3, false)])]) [] 10 29 [.val false [.dI l], .val false [.i64 i]] =
    some (sc (.i64 0), [decide (i < (l.length : Int)) = false]) := by kernel_rfl
theorem ctAt : CtSOk Try.prog 29 (.fn spAt) := FnS_of_fnS gs0 fol fun ds r cs h hc => by
  unfold spAt at h
  split at h
  case h_2 => simp at h
  rename_i l i
  simp only [Option.some.injEq, Prod.mk.injEq] at h
  obtain ⟨rfl, rfl⟩ := h
  have hi : 0 ≤ i := hc.1
  by_cases hlt : i < (l.length : Int)
  · refine use_run (runAt1 l i) (by simp) ⟨by simpa using hlt, hi, by omega, by omega, trivial⟩
  · refine use_run (runAt0 l i) ?_ ⟨by simpa using hlt, trivial⟩
    have : l.length ≤ i.toNat := by omega
    simp [List.getD_eq_getElem?_getD, List.getElem?_eq_none this]

/-! ### Sum -/
def tblAt : List (FuncId × CtS) := [(29, .fn spAt), (28, .pre preTrim)]
theorem gsAt : GSound Try.prog (upG (lookG tblAt)) := GSound_of_tbl ⟨⟨ctAt, by kernel_rfl⟩, ⟨ctTrim, by kernel_rfl⟩, trivial⟩
def sumInv (l m : List Int) (n : Nat) (out : List Int) (i c : Int) : St := ⟨slotsOf 36 [(0, sc (.sl 0 0 l.length)), (1, sc (.sl 1 0 m.length)), (5, sc (.sl 2 0 n)), (6, sc (.i64 c)), (7, sc (.i64 i))],
  [(0, ⟨false, [.vi l.length l]⟩), (1, ⟨false, [.vi m.length m]⟩), (2, ⟨true, [.vi out.length out]⟩)], 16⟩
def sumTd : List Nat := [0, 1, 5, 6, 7]
def sumT (l m : List Int) (i c : Int) : Int := (cutL l 0 l.length l.length).getD i.toNat 0 + (cutL m 0 m.length m.length).getD i.toNat 0 + c
def maxL (l m : List Int) : Int := if (m.length : Int) > (l.length : Int) then (m.length : Int) else (l.length : Int)
theorem sumRound (l m : List Int) (n : Nat) (out : List Int) (i c : Int) : roundS Try.prog (lookG tblAt) (orcOf [4, 5, 6, 7, 8] [(4, [(6, true)])]) [] 10 sumTd (bodyAt Try.prog 20 4) (sumInv l m n out i c) =
    some (Ex.normal, St.mk (slotsOf 36 [(0, sc (IV.sl 0 0 l.length)), (1, sc (IV.sl 1 0 m.length)), (5, sc (IV.sl 2 0 (n + 1))), (6, sc (IV.i64 ((l.getD i.toNat (0 : Int) + m.getD i.toNat (0 : Int) + c).tdiv (256 : Int)))), (7, sc (IV.i64 (i + (1 : Int))))]) [(0, Blk.mk false [IV.vi l.length l]), (1, Blk.mk false [IV.vi m.length m]), (2, Blk.mk true [IV.vi (out ++ (List.replicate 1 (0 : Int)).set 0 ((l.getD i.toNat (0 : Int) + m.getD i.toNat (0 : Int) + c).tmod (256 : Int))).length (out ++ (List.replicate 1 (0 : Int)).set 0 ((l.getD i.toNat (0 : Int) + m.getD i.toNat (0 : Int) + c).tmod (256 : Int)))])] 16, [decide (i ≤ if (↑m.length : Int) > (↑l.length : Int) then (↑m.length : Int) else (↑l.length : Int)) = true, l.length = l.length, (0 : Int) ≤ i, m.length = m.length, (0 : Int) ≤ i, inI64 (l.getD i.toNat (0 : Int) + m.getD i.toNat (0 : Int)), inI64 (l.getD i.toNat (0 : Int) + m.getD i.toNat (0 : Int) + c), (256 : Int) ≠ (0 : Int), 1 = 1, n = out.length, (n + 1) * 8 ≤ 140737488355328 ∧ n + 1 ≤ 9223372036854775807, (256 : Int) ≠ (0 : Int), inI64 ((l.getD i.toNat (0 : Int) + m.getD i.toNat (0 : Int) + c).tdiv (256 : Int)), inI64 (i + (1 : Int))]) := by kernel_rfl
theorem sumExit (l m : List Int) (n : Nat) (out : List Int) (i c : Int) : roundS Try.prog (lookG tblAt) (orcOf [4, 5, 6, 7, 8] [(4, [(6, false)])]) [] 10 sumTd (bodyAt Try.prog 20 4) (sumInv l m n out i c) =
    some (Ex.exit 0, St.mk (slotsOf 36 [(0, sc (IV.sl 0 0 l.length)), (1, sc (IV.sl 1 0 m.length)), (5, sc (IV.sl 2 0 n)), (6, sc (IV.i64 c)), (7, sc (IV.i64 i))]) [(0, Blk.mk false [IV.vi l.length l]), (1, Blk.mk false [IV.vi m.length m]), (2, Blk.mk true [IV.vi out.length out])] 16, [decide (i ≤ if (↑m.length : Int) > (↑l.length : Int) then (↑m.length : Int) else (↑l.length : Int)) = false]) := by kernel_rfl
theorem runSum (l m out : List Int) (n : Nat) (i c : Int) : fnS Try.prog (lookG tblAt) (orcOf [9] []) [⟨4, sumTd, .exit 0, sumInv l m n out i c⟩] 10 20 [sc (.dI l), sc (.dI m)] =
    some (sc (IV.dI (cutL out 0 (trimFrom out out.length) out.length)), [LoopTo Try.prog (bodyAt Try.prog 20 4) (St.mk (slotsOf 36 [(0, sc (IV.sl 0 0 l.length)), (1, sc (IV.sl 1 0 m.length)), (5, sc (IV.sl 2 0 0)), (6, sc (IV.i64 (0 : Int))), (7, sc (IV.i64 (0 : Int)))]) [(0, Blk.mk false [IV.vi l.length l]), (1, Blk.mk false [IV.vi m.length m]), (2, Blk.mk true [IV.vi 0 []])] 16) (Ex.exit 0) (St.mk (slotsOf 36 [(0, sc (IV.sl 0 0 l.length)), (1, sc (IV.sl 1 0 m.length)), (5, sc (IV.sl 2 0 n)), (6, sc (IV.i64 c)), (7, sc (IV.i64 i))]) [(0, Blk.mk false [IV.vi l.length l]), (1, Blk.mk false [IV.vi m.length m]), (2, Blk.mk true [IV.vi out.length out])] 16), n = out.length, out.length ≤ 1000000000, trimFrom out out.length ≤ n, 0 + trimFrom out out.length ≤ out.length]) := by kernel_rfl

theorem maxL_eq (l m : List Int) : (if (m.length : Int) > (l.length : Int) then (m.length : Int) else (l.length : Int)) = ((max l.length m.length : Nat) : Int) := by
  split <;> omega
theorem one_set (x : Int) : (List.replicate 1 (0 : Int)).set 0 x = [x] := rfl
theorem tmod_cast (n : Nat) : ((n : Int)).tmod 256 = ((n % 256 : Nat) : Int) := (Int.ofNat_tmod n 256).symm
theorem tdiv_cast (n : Nat) : ((n : Int)).tdiv 256 = ((n / 256 : Nat) : Int) := (Int.ofNat_tdiv n 256).symm
theorem trim_dg {l : List Int} (h : IsD l) : cutL l 0 (trimFrom l l.length) l.length = dg (nv l) := by
  rw [← trim_eq h]
  unfold trim cutL
  split
  · rename_i e; rw [e.2, List.take_length]
  · simp

/-- The digits of a sum, and what is carried. -/
def sumD (a b : Nat) : Nat → List Int × Nat
  | 0 => ([], 0)
  | n + 1 => ((sumD a b n).1 ++ [(((dig a n + dig b n + (sumD a b n).2) % 256 : Nat) : Int)], (dig a n + dig b n + (sumD a b n).2) / 256)
theorem sumD_ok (a b : Nat) : ∀ n, (sumD a b n).1.length = n ∧ IsD (sumD a b n).1 ∧ (sumD a b n).2 ≤ 1 ∧ nv (sumD a b n).1 + 256 ^ n * (sumD a b n).2 = a % 256 ^ n + b % 256 ^ n
  | 0 => ⟨rfl, IsD_nil, Nat.zero_le _, by simp [sumD, nv, Nat.mod_one]⟩
  | n + 1 => by
    obtain ⟨h1, h2, h3, h4⟩ := sumD_ok a b n
    have hx := dig_lt a n
    have hy := dig_lt b n
    refine ⟨by simp [sumD, h1], IsD_snoc h2 (Nat.mod_lt _ (by omega)), ?_, ?_⟩
    · simp only [sumD]; omega
    · simp only [sumD]
      rw [nv_snocN, h1]
      exact sum_step h4
def sumN (l m : List Int) : Nat := max l.length m.length + 1
theorem sumD_all {l m : List Int} (hl : IsD l) (hm : IsD m) : nv (sumD (nv l) (nv m) (sumN l m)).1 = nv l + nv m := by
  obtain ⟨h1, h2, h3, h4⟩ := sumD_ok (nv l) (nv m) (sumN l m)
  have a1 := nv_lt hl
  have a2 := nv_lt hm
  have b1 : 256 ^ l.length ≤ 256 ^ max l.length m.length := Nat.pow_le_pow_right (by omega) (by omega)
  have b2 : 256 ^ m.length ≤ 256 ^ max l.length m.length := Nat.pow_le_pow_right (by omega) (by omega)
  have e : 256 ^ sumN l m = 256 ^ max l.length m.length * 256 := Nat.pow_succ ..
  rw [e] at h4
  generalize 256 ^ max l.length m.length = p at *
  rw [Nat.mod_eq_of_lt (by omega), Nat.mod_eq_of_lt (by omega)] at h4
  generalize (sumD (nv l) (nv m) (sumN l m)).2 = c at *
  have : c = 0 := by
    rcases Nat.eq_zero_or_pos c with h | h
    · exact h
    · have : p * 256 * 1 ≤ p * 256 * c := Nat.mul_le_mul_left _ h
      omega
  subst this
  simpa using h4

theorem sumLoop (l m : List Int) (hl : IsD l) (hm : IsD m) (bl : l.length ≤ 4000000) (bm : m.length ≤ 4000000) :
    LoopTo Try.prog (bodyAt Try.prog 20 4) (sumInv l m 0 [] 0 0) (.exit 0) (sumInv l m (sumN l m) (sumD (nv l) (nv m) (sumN l m)).1 (sumN l m : Nat) (sumD (nv l) (nv m) (sumN l m)).2) := by
  refine LoopTo.intro (α := Nat × List Int × Int) gsAt fol (fun a => sumInv l m a.1 a.2.1 (a.1 : Nat) a.2.2) (fun a => a.1 ≤ sumN l m ∧ a.2.1 = (sumD (nv l) (nv m) a.1).1 ∧ a.2.2 = (sumD (nv l) (nv m) a.1).2) (fun a => sumN l m - a.1) (by simp) ?_ (0, [], 0) ⟨Nat.zero_le _, rfl, rfl⟩
  rintro ⟨n, out, c⟩ ⟨hn, ho, hc⟩
  dsimp only at hn ho hc ⊢
  subst ho hc
  obtain ⟨h1, h2, h3, h4⟩ := sumD_ok (nv l) (nv m) n
  have hx := dig_lt (nv l) n
  have hy := dig_lt (nv m) n
  have hN : sumN l m = max l.length m.length + 1 := rfl
  by_cases he : n = sumN l m
  · subst he
    exact .inr ⟨_, _, _, _, _, sumExit l m _ _ _ _, by rw [maxL_eq, decide_eq_false_iff_not]; omega, trivial⟩
  · refine .inl ⟨_, _, _, _, _, (n + 1, _, _), sumRound l m n _ _ _, ?_, ⟨by simp only; omega, ?_, ?_⟩, by simp only; omega⟩
    · simp only [AllP, maxL_eq, Int.toNat_natCast, getD_dig hl, getD_dig hm, inI64, tdiv_cast, ← Int.natCast_add, decide_eq_true_eq]
      and_intros <;> first | omega | trivial
    · simp only [one_set, Int.toNat_natCast, getD_dig hl, getD_dig hm, ← Int.natCast_add, tmod_cast, sumD]
    · simp only [Int.toNat_natCast, getD_dig hl, getD_dig hm, ← Int.natCast_add, sumD]
      rfl
def spSum : List AV → Option (AV × List Prop)
  | [.val false [.dI l], .val false [.dI m]] => some (sc (.dI (dg (nv l + nv m))), [IsD l, IsD m, l.length ≤ 4000000, m.length ≤ 4000000])
  | _ => none
theorem ctSum : CtSOk Try.prog 20 (.fn spSum) := FnS_of_fnS gsAt fol fun ds r cs h hc => by
  unfold spSum at h
  split at h
  case h_2 => simp at h
  rename_i l m
  simp only [Option.some.injEq, Prod.mk.injEq] at h
  obtain ⟨rfl, rfl⟩ := h
  obtain ⟨hl, hm, bl, bm, _⟩ := hc
  obtain ⟨h1, h2, h3, h4⟩ := sumD_ok (nv l) (nv m) (sumN l m)
  have e := sumD_all hl hm
  have hN : sumN l m = max l.length m.length + 1 := rfl
  have t := trimFrom_le (sumD (nv l) (nv m) (sumN l m)).1 (sumD (nv l) (nv m) (sumN l m)).1.length
  refine use_run (runSum l m (sumD (nv l) (nv m) (sumN l m)).1 (sumN l m) (sumN l m : Nat) (sumD (nv l) (nv m) (sumN l m)).2) ?_ ⟨sumLoop l m hl hm bl bm, ?_⟩
  · rw [trim_dg h2, e]
  · simp only [AllP]
    refine ⟨by omega, by omega, by omega, by omega, trivial⟩
end Go.Proofs.Ytbhnegdekeojkaa
