/- Contracts of the document's digit lists: differences, comparisons, bytes, words. Own work. -/
import Derived.Test.YtbhnegdekeojkaaCtD
namespace Go.Proofs.Ytbhnegdekeojkaa
open Go.Ev Go.Sp Go.RowKit
set_option maxRecDepth 100000

/-! ### Differences -/
theorem minusRound (l m : List Int) (n : Nat) (out : List Int) (i c : Int) : roundS Try.prog (lookG tblAt) (orcA [(4, [(3, true)])]) [] 10 sumTd (bodyAt Try.prog 31 4) (sumInv l m n out i c) =
    some (Ex.normal, St.mk (slotsOf 36 [(0, sc (IV.sl 0 0 l.length)), (1, sc (IV.sl 1 0 m.length)), (5, sc (IV.sl 2 0 (n + 1))), (6, sc (IV.i64 ((1 : Int) - ((256 : Int) + l.getD (0 + i.toNat * 1) (0 : Int) - m.getD i.toNat (0 : Int) - c).tdiv (256 : Int)))), (7, sc (IV.i64 (i + (1 : Int))))]) [(0, Blk.mk false [IV.vi l.length l]), (1, Blk.mk false [IV.vi m.length m]), (2, Blk.mk true [IV.vi (out ++ (List.replicate 1 (0 : Int)).set 0 (((256 : Int) + l.getD (0 + i.toNat * 1) (0 : Int) - m.getD i.toNat (0 : Int) - c).tmod (256 : Int))).length (out ++ (List.replicate 1 (0 : Int)).set 0 (((256 : Int) + l.getD (0 + i.toNat * 1) (0 : Int) - m.getD i.toNat (0 : Int) - c).tmod (256 : Int)))])] 16, [decide (i < (↑l.length : Int)) = true, (0 : Int) ≤ i, i.toNat < l.length, 0 + i.toNat * 1 < l.length, inI64 ((256 : Int) + l.getD (0 + i.toNat * 1) (0 : Int)), m.length = m.length, (0 : Int) ≤ i, inI64 ((256 : Int) + l.getD (0 + i.toNat * 1) (0 : Int) - m.getD i.toNat (0 : Int)), inI64 ((256 : Int) + l.getD (0 + i.toNat * 1) (0 : Int) - m.getD i.toNat (0 : Int) - c), (256 : Int) ≠ (0 : Int), 1 = 1, n = out.length, (n + 1) * 8 ≤ 140737488355328 ∧ n + 1 ≤ 9223372036854775807, (256 : Int) ≠ (0 : Int), inI64 (((256 : Int) + l.getD (0 + i.toNat * 1) (0 : Int) - m.getD i.toNat (0 : Int) - c).tdiv (256 : Int)), inI64 ((1 : Int) - ((256 : Int) + l.getD (0 + i.toNat * 1) (0 : Int) - m.getD i.toNat (0 : Int) - c).tdiv (256 : Int)), inI64 (i + (1 : Int))]) := by kernel_rfl
theorem minusExit (l m : List Int) (n : Nat) (out : List Int) (i c : Int) : roundS Try.prog (lookG tblAt) (orcA [(4, [(3, false)])]) [] 10 sumTd (bodyAt Try.prog 31 4) (sumInv l m n out i c) =
    some (Ex.exit 0, St.mk (slotsOf 36 [(0, sc (IV.sl 0 0 l.length)), (1, sc (IV.sl 1 0 m.length)), (5, sc (IV.sl 2 0 n)), (6, sc (IV.i64 c)), (7, sc (IV.i64 i))]) [(0, Blk.mk false [IV.vi l.length l]), (1, Blk.mk false [IV.vi m.length m]), (2, Blk.mk true [IV.vi out.length out])] 16, [decide (i < (↑l.length : Int)) = false]) := by kernel_rfl
theorem runMinus (l m out : List Int) (n : Nat) (i c : Int) : fnS Try.prog (lookG tblAt) (orcOf [9] []) [⟨4, sumTd, .exit 0, sumInv l m n out i c⟩] 10 31 [sc (.dI l), sc (.dI m)] =
    some (sc (IV.dI (cutL out 0 (trimFrom out out.length) out.length)), [LoopTo Try.prog (bodyAt Try.prog 31 4) (St.mk (slotsOf 36 [(0, sc (IV.sl 0 0 l.length)), (1, sc (IV.sl 1 0 m.length)), (5, sc (IV.sl 2 0 0)), (6, sc (IV.i64 (0 : Int))), (7, sc (IV.i64 (0 : Int)))]) [(0, Blk.mk false [IV.vi l.length l]), (1, Blk.mk false [IV.vi m.length m]), (2, Blk.mk true [IV.vi 0 []])] 16) (Ex.exit 0) (St.mk (slotsOf 36 [(0, sc (IV.sl 0 0 l.length)), (1, sc (IV.sl 1 0 m.length)), (5, sc (IV.sl 2 0 n)), (6, sc (IV.i64 c)), (7, sc (IV.i64 i))]) [(0, Blk.mk false [IV.vi l.length l]), (1, Blk.mk false [IV.vi m.length m]), (2, Blk.mk true [IV.vi out.length out])] 16), n = out.length, out.length ≤ 1000000000, trimFrom out out.length ≤ n, 0 + trimFrom out out.length ≤ out.length]) := by kernel_rfl

/-- The digits of a difference, and what is borrowed. -/
def minD (a b : Nat) : Nat → List Int × Nat
  | 0 => ([], 0)
  | n + 1 => ((minD a b n).1 ++ [(((256 + dig a n - dig b n - (minD a b n).2) % 256 : Nat) : Int)], 1 - (256 + dig a n - dig b n - (minD a b n).2) / 256)
theorem minD_ok (a b : Nat) : ∀ n, (minD a b n).1.length = n ∧ IsD (minD a b n).1 ∧ (minD a b n).2 ≤ 1 ∧ nv (minD a b n).1 + b % 256 ^ n = a % 256 ^ n + 256 ^ n * (minD a b n).2
  | 0 => ⟨rfl, IsD_nil, Nat.zero_le _, by simp [minD, nv, Nat.mod_one]⟩
  | n + 1 => by
    obtain ⟨h1, h2, h3, h4⟩ := minD_ok a b n
    refine ⟨by simp [minD, h1], IsD_snoc h2 (Nat.mod_lt _ (by omega)), ?_, ?_⟩
    · simp only [minD]; omega
    · simp only [minD]
      rw [nv_snocN, h1]
      exact minus_step h4 h3
theorem minD_all {l m : List Int} (hl : IsD l) (h : nv m ≤ nv l) : nv (minD (nv l) (nv m) l.length).1 = nv l - nv m := by
  obtain ⟨h1, h2, h3, h4⟩ := minD_ok (nv l) (nv m) l.length
  have a1 := nv_lt hl
  rw [Nat.mod_eq_of_lt (by omega), Nat.mod_eq_of_lt (by omega)] at h4
  have a2 := nv_lt h2
  rw [h1] at a2
  generalize (minD (nv l) (nv m) l.length).2 = c at *
  have : c = 0 := by
    rcases Nat.eq_zero_or_pos c with h | h
    · exact h
    · have : 256 ^ l.length * 1 ≤ 256 ^ l.length * c := Nat.mul_le_mul_left _ h
      omega
  subst this
  omega

theorem minusLoop (l m : List Int) (hl : IsD l) (hm : IsD m) (bl : l.length ≤ 4000000) :
    LoopTo Try.prog (bodyAt Try.prog 31 4) (sumInv l m 0 [] 0 0) (.exit 0) (sumInv l m l.length (minD (nv l) (nv m) l.length).1 (l.length : Nat) (minD (nv l) (nv m) l.length).2) := by
  refine LoopTo.intro (α := Nat × List Int × Int) gsAt fol (fun a => sumInv l m a.1 a.2.1 (a.1 : Nat) a.2.2) (fun a => a.1 ≤ l.length ∧ a.2.1 = (minD (nv l) (nv m) a.1).1 ∧ a.2.2 = (minD (nv l) (nv m) a.1).2) (fun a => l.length - a.1) (by simp) ?_ (0, [], 0) ⟨Nat.zero_le _, rfl, rfl⟩
  rintro ⟨n, out, c⟩ ⟨hn, ho, hc⟩
  dsimp only at hn ho hc ⊢
  subst ho hc
  obtain ⟨h1, h2, h3, h4⟩ := minD_ok (nv l) (nv m) n
  have hx := dig_lt (nv l) n
  have hy := dig_lt (nv m) n
  by_cases he : n = l.length
  · subst he
    exact .inr ⟨_, _, _, _, _, minusExit l m _ _ _ _, by rw [decide_eq_false_iff_not]; omega, trivial⟩
  · have e : (256 : Int) + ((dig (nv l) n : Nat) : Int) - ((dig (nv m) n : Nat) : Int) - (((minD (nv l) (nv m) n).2 : Nat) : Int) = ((256 + dig (nv l) n - dig (nv m) n - (minD (nv l) (nv m) n).2 : Nat) : Int) := by omega
    have e2 : (1 : Int) - (((256 + dig (nv l) n - dig (nv m) n - (minD (nv l) (nv m) n).2) / 256 : Nat) : Int) = ((1 - (256 + dig (nv l) n - dig (nv m) n - (minD (nv l) (nv m) n).2) / 256 : Nat) : Int) := by omega
    refine .inl ⟨_, _, _, _, _, (n + 1, _, _), minusRound l m n _ _ _, ?_, ⟨by simp only; omega, ?_, ?_⟩, by simp only; omega⟩
    · simp only [AllP, Int.toNat_natCast, Nat.zero_add, Nat.mul_one, getD_dig hl, getD_dig hm, inI64, e, tdiv_cast, e2, decide_eq_true_eq]
      and_intros <;> first | omega | trivial
    · simp only [one_set, Int.toNat_natCast, Nat.zero_add, Nat.mul_one, getD_dig hl, getD_dig hm, e, tmod_cast, minD]
    · simp only [Int.toNat_natCast, Nat.zero_add, Nat.mul_one, getD_dig hl, getD_dig hm, e, tdiv_cast, e2, minD]
def spMinus : List AV → Option (AV × List Prop)
  | [.val false [.dI l], .val false [.dI m]] => some (sc (.dI (dg (nv l - nv m))), [IsD l, IsD m, nv m ≤ nv l, l.length ≤ 4000000])
  | _ => none
theorem ctMinus : CtSOk Try.prog 31 (.fn spMinus) := FnS_of_fnS gsAt fol fun ds r cs h hc => by
  unfold spMinus at h
  split at h
  case h_2 => simp at h
  rename_i l m
  simp only [Option.some.injEq, Prod.mk.injEq] at h
  obtain ⟨rfl, rfl⟩ := h
  obtain ⟨hl, hm, hle, bl, _⟩ := hc
  obtain ⟨h1, h2, h3, h4⟩ := minD_ok (nv l) (nv m) l.length
  have e := minD_all hl hle
  have t := trimFrom_le (minD (nv l) (nv m) l.length).1 (minD (nv l) (nv m) l.length).1.length
  refine use_run (runMinus l m (minD (nv l) (nv m) l.length).1 l.length (l.length : Nat) (minD (nv l) (nv m) l.length).2) ?_ ⟨minusLoop l m hl hm bl, ?_⟩
  · rw [trim_dg h2, e]
  · simp only [AllP]
    and_intros <;> first | omega | trivial

/-! ### Which is less -/
def lessTd : List Nat := [0, 1, 5]
def lessInv (l m : List Int) (i : Int) : St := ⟨slotsOf 29 [(0, sc (.sl 0 0 l.length)), (1, sc (.sl 1 0 m.length)), (5, sc (.i64 i))], [(0, ⟨false, [.vi l.length l]⟩), (1, ⟨false, [.vi m.length m]⟩)], 16⟩
def lessOut (b : Bool) : St := ⟨slotsOf 29 [(4, sc (.bool b))], [], 16⟩
theorem lessRound (l m : List Int) (i : Int) : roundS Try.prog (lookG tblAt) (orcA [(2, [(1, true)]), (4, [(6, false)])]) [] 10 lessTd (bodyAt Try.prog 30 2) (lessInv l m i) =
    some (Ex.normal, St.mk (slotsOf 29 [(0, sc (IV.sl 0 0 l.length)), (1, sc (IV.sl 1 0 m.length)), (5, sc (IV.i64 (i - (1 : Int))))]) [(0, Blk.mk false [IV.vi l.length l]), (1, Blk.mk false [IV.vi m.length m])] 16, [decide ((0 : Int) ≤ i) = true, l.length = l.length, (0 : Int) ≤ i, m.length = m.length, (0 : Int) ≤ i, (!l.getD i.toNat (0 : Int) == m.getD i.toNat (0 : Int)) = false, inI64 (i - (1 : Int))]) := by kernel_rfl
theorem lessExit (l m : List Int) (i : Int) : roundS Try.prog (lookG tblAt) (orcA [(2, [(1, false)])]) [] 10 lessTd (bodyAt Try.prog 30 2) (lessInv l m i) =
    some (Ex.exit 0, St.mk (slotsOf 29 [(0, sc (IV.sl 0 0 l.length)), (1, sc (IV.sl 1 0 m.length)), (5, sc (IV.i64 i))]) [(0, Blk.mk false [IV.vi l.length l]), (1, Blk.mk false [IV.vi m.length m])] 16, [decide ((0 : Int) ≤ i) = false]) := by kernel_rfl
theorem lessRet (l m : List Int) (i : Int) : roundS Try.prog (lookG tblAt) (orcA [(2, [(1, true)]), (4, [(6, true)])]) [] 10 [4] (bodyAt Try.prog 30 2) (lessInv l m i) =
    some (Ex.ret, St.mk (slotsOf 29 [(4, sc (IV.bool (decide (l.getD i.toNat (0 : Int) < m.getD i.toNat (0 : Int)))))]) [] 16, [decide ((0 : Int) ≤ i) = true, l.length = l.length, (0 : Int) ≤ i, m.length = m.length, (0 : Int) ≤ i, (!l.getD i.toNat (0 : Int) == m.getD i.toNat (0 : Int)) = true, l.length = l.length, (0 : Int) ≤ i, m.length = m.length, (0 : Int) ≤ i]) := by kernel_rfl
theorem runLess0 (l m : List Int) (i : Int) : fnS Try.prog (lookG tblAt) orc0 [⟨2, lessTd, .exit 0, lessInv l m i⟩] 10 30 [sc (.dI l), sc (.dI m)] =
    some (sc (IV.bool false), [LoopTo Try.prog (bodyAt Try.prog 30 2) (St.mk (slotsOf 29 [(0, sc (IV.sl 0 0 l.length)), (1, sc (IV.sl 1 0 m.length)), (5, sc (IV.i64 (if (↑m.length : Int) > (↑l.length : Int) then (↑m.length : Int) else (↑l.length : Int))))]) [(0, Blk.mk false [IV.vi l.length l]), (1, Blk.mk false [IV.vi m.length m])] 16) (Ex.exit 0) (St.mk (slotsOf 29 [(0, sc (IV.sl 0 0 l.length)), (1, sc (IV.sl 1 0 m.length)), (5, sc (IV.i64 i))]) [(0, Blk.mk false [IV.vi l.length l]), (1, Blk.mk false [IV.vi m.length m])] 16)]) := by kernel_rfl
theorem runLess1 (l m : List Int) (b : Bool) : fnS Try.prog (lookG tblAt) orc0 [⟨2, lessTd, .ret, lessOut b⟩] 10 30 [sc (.dI l), sc (.dI m)] =
    some (sc (IV.bool b), [LoopTo Try.prog (bodyAt Try.prog 30 2) (St.mk (slotsOf 29 [(0, sc (IV.sl 0 0 l.length)), (1, sc (IV.sl 1 0 m.length)), (5, sc (IV.i64 (if (↑m.length : Int) > (↑l.length : Int) then (↑m.length : Int) else (↑l.length : Int))))]) [(0, Blk.mk false [IV.vi l.length l]), (1, Blk.mk false [IV.vi m.length m])] 16) Ex.ret (St.mk (slotsOf 29 [(4, sc (IV.bool b))]) [] 16)]) := by kernel_rfl

theorem lessLoop (l m : List Int) (hl : IsD l) (hm : IsD m) (bl : l.length ≤ 4000000) (bm : m.length ≤ 4000000) :
    (nv l = nv m → LoopTo Try.prog (bodyAt Try.prog 30 2) (lessInv l m (max l.length m.length : Nat)) (.exit 0) (lessInv l m (-1))) ∧
    (nv l ≠ nv m → LoopTo Try.prog (bodyAt Try.prog 30 2) (lessInv l m (max l.length m.length : Nat)) .ret (lessOut (decide (nv l < nv m)))) := by
  have top : nv l / 256 ^ (max l.length m.length + 1) = nv m / 256 ^ (max l.length m.length + 1) := by
    have a1 := nv_lt hl
    have a2 := nv_lt hm
    have b1 : 256 ^ l.length ≤ 256 ^ (max l.length m.length + 1) := Nat.pow_le_pow_right (by omega) (by omega)
    have b2 : 256 ^ m.length ≤ 256 ^ (max l.length m.length + 1) := Nat.pow_le_pow_right (by omega) (by omega)
    rw [Nat.div_eq_of_lt (by omega), Nat.div_eq_of_lt (by omega)]
  have hmax : max l.length m.length ≤ 4000000 := by omega
  generalize max l.length m.length = N at *
  constructor
  · intro e
    refine LoopTo.intro (α := Int) gsAt fol (fun i => lessInv l m i) (fun i => -1 ≤ i ∧ i ≤ N) (fun i => (i + 1).toNat) (by simp) ?_ (N : Nat) ⟨by omega, by omega⟩
    rintro i ⟨h1, h2⟩
    by_cases hi : i = -1
    · subst hi
      exact .inr ⟨_, _, _, _, _, lessExit l m _, by simp, trivial⟩
    · refine .inl ⟨_, _, _, _, _, i - 1, lessRound l m i, ?_, ⟨by omega, by omega⟩, by omega⟩
      simp only [AllP, getD_dig hl, getD_dig hm, e, inI64, decide_eq_true_eq]
      and_intros <;> first | omega | simp
  · intro e
    refine LoopTo.intro (α := Nat) gsAt fol (fun i => lessInv l m (i : Nat)) (fun i => i ≤ N ∧ nv l / 256 ^ (i + 1) = nv m / 256 ^ (i + 1)) (fun i => i) (by simp) ?_ N ⟨by omega, top⟩
    rintro i ⟨h1, h2⟩
    obtain ⟨s1, s2⟩ := less_step h2
    have hx := dig_lt (nv l) i
    by_cases hd : dig (nv l) i = dig (nv m) i
    · have h3 := s1 hd
      cases i with
      | zero => simp at h3; exact absurd h3 e
      | succ j =>
        have e1 : ((j + 1 : Nat) : Int) - 1 = (j : Int) := by omega
        have r := lessRound l m ((j + 1 : Nat) : Int)
        rw [e1] at r
        refine .inl ⟨_, _, _, _, _, j, r, ?_, ⟨by omega, h3⟩, by omega⟩
        simp only [AllP, Int.toNat_natCast, getD_dig hl, getD_dig hm, hd, inI64, decide_eq_true_eq]
        and_intros <;> first | omega | simp
    · have h3 := s2 hd
      have hb : decide (nv l < nv m) = decide (l.getD ((i : Nat) : Int).toNat (0 : Int) < m.getD ((i : Nat) : Int).toNat (0 : Int)) := by
        simp only [Int.toNat_natCast, getD_dig hl, getD_dig hm, h3, Int.ofNat_lt]
      rw [hb]
      refine .inr ⟨_, _, _, _, _, lessRet l m _, ?_⟩
      simp only [AllP, Int.toNat_natCast, getD_dig hl, getD_dig hm, decide_eq_true_eq]
      and_intros <;> first | omega | (simp; done) | (simp; omega)
def spLess : List AV → Option (AV × List Prop)
  | [.val false [.dI l], .val false [.dI m]] => some (sc (.bool (decide (nv l < nv m))), [IsD l, IsD m, l.length ≤ 4000000, m.length ≤ 4000000])
  | _ => none
theorem ctLess : CtSOk Try.prog 30 (.fn spLess) := FnS_of_fnS gsAt fol fun ds r cs h hc => by
  unfold spLess at h
  split at h
  case h_2 => simp at h
  rename_i l m
  simp only [Option.some.injEq, Prod.mk.injEq] at h
  obtain ⟨rfl, rfl⟩ := h
  obtain ⟨hl, hm, bl, bm, _⟩ := hc
  obtain ⟨h1, h2⟩ := lessLoop l m hl hm bl bm
  by_cases e : nv l = nv m
  · refine use_run (runLess0 l m (-1)) (by simp [e]) ⟨?_, trivial⟩
    rw [maxL_eq]
    exact h1 e
  · refine use_run (runLess1 l m (decide (nv l < nv m))) rfl ⟨?_, trivial⟩
    rw [maxL_eq]
    exact h2 e
end Go.Proofs.Ytbhnegdekeojkaa
