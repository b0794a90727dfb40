/- Contracts of products and comparisons. Own work. -/
import Derived.Test.YtbhnegdekeojkaaSpE
import Derived.Test.YtbhnegdekeojkaaCtA
namespace Go.Proofs.Ytbhnegdekeojkaa
open Go.Ev Go.Sp Go.RowKit
set_option maxRecDepth 100000

def spHalves : List AV → Option (AV × List Prop)
  | [.val true [.n4 a]] => some (.val true [.n4 (halvesN a).1, .n4 (halvesN a).2], [])
  | _ => none
theorem runHalves (a : N4) : fnS Try.prog (lookG []) orc0 [] 10 32 [.val true [.n4 a]] = some (.val true [.n4 (halvesN a).1, .n4 (halvesN a).2], []) := by kernel_rfl
theorem ctHalves : CtSOk Try.prog 32 (.fn spHalves) := FnS_of_fnS gs0 fol fun ds r cs h _ => by
  unfold spHalves at h
  split at h
  case h_2 => simp at h
  rename_i a
  simp only [Option.some.injEq, Prod.mk.injEq] at h
  obtain ⟨rfl, rfl⟩ := h
  exact use_run (runHalves a) rfl trivial

def tblMul : List (FuncId × CtS) := [(32, .fn spHalves)]
theorem gsMul : GSound Try.prog (upG (lookG tblMul)) := GSound_of_tbl ⟨⟨ctHalves, by kernel_rfl⟩, trivial⟩
def mulInv (x y : N4) (i : Int) (q : Q) : St := ⟨slotsOf 71 [(4, sc (.ptr 0 0)), (5, sc (.ptr 1 0)), (6, sc (.ptr 2 0)), (7, sc (.ptr 3 0)), (18, sc (.i64 i))],
  [(0, ⟨true, [.n4 ⟨0, 0, 0, 0⟩, .n4 ⟨0, 0, 0, 0⟩]⟩), (1, ⟨true, [.n4 (halvesN x).1, .n4 (halvesN x).2]⟩), (2, ⟨true, [.n4 (halvesN y).1, .n4 (halvesN y).2]⟩), (3, ⟨true, [.n4 q.a, .n4 q.b, .n4 q.c, .n4 q.d]⟩)], 16⟩
def mulTd : List Nat := [4, 5, 6, 7, 18]
noncomputable def mulR (x y : N4) (i : Int) (q : Q) : Option (Ex × St × List Prop) := roundS Try.prog (lookG tblMul) orc0 [] 10 mulTd (bodyAt Try.prog 25 4) (mulInv x y i q)
theorem mulRound0 (x y : N4) (q : Q) : mulR x y 0 q = some (.normal, mulInv x y 1 (rowQ (halfW x 0) (halfW y) 0 q), []) := by kernel_rfl
theorem mulRound1 (x y : N4) (q : Q) : mulR x y 1 q = some (.normal, mulInv x y 2 (rowQ (halfW x 1) (halfW y) 1 q), []) := by kernel_rfl
theorem mulRound2 (x y : N4) (q : Q) : mulR x y 2 q = some (.normal, mulInv x y 3 (rowQ (halfW x 2) (halfW y) 2 q), []) := by kernel_rfl
theorem mulRound3 (x y : N4) (q : Q) : mulR x y 3 q = some (.normal, mulInv x y 4 (rowQ (halfW x 3) (halfW y) 3 q), []) := by kernel_rfl
theorem mulRound4 (x y : N4) (q : Q) : mulR x y 4 q = some (.normal, mulInv x y 5 (rowQ (halfW x 4) (halfW y) 4 q), []) := by kernel_rfl
theorem mulRound5 (x y : N4) (q : Q) : mulR x y 5 q = some (.normal, mulInv x y 6 (rowQ (halfW x 5) (halfW y) 5 q), []) := by kernel_rfl
theorem mulRound6 (x y : N4) (q : Q) : mulR x y 6 q = some (.normal, mulInv x y 7 (rowQ (halfW x 6) (halfW y) 6 q), []) := by kernel_rfl
theorem mulRound7 (x y : N4) (q : Q) : mulR x y 7 q = some (.normal, mulInv x y 8 (rowQ (halfW x 7) (halfW y) 7 q), []) := by kernel_rfl
theorem mulExit (x y : N4) (q : Q) : mulR x y 8 q = some (.exit 0, mulInv x y 8 q, []) := by kernel_rfl
theorem runMul (x y : N4) (q : Q) : fnS Try.prog (lookG tblMul) orc0 [⟨4, mulTd, .exit 0, mulInv x y 8 q⟩] 10 25 [.val true [.n4 x], .val true [.n4 y]] =
    some (.val true [.n4 (outQ q).1, .n4 (outQ q).2], [LoopTo Try.prog (bodyAt Try.prog 25 4) (mulInv x y 0 Q.zero) (.exit 0) (mulInv x y 8 q)]) := by kernel_rfl

theorem mulLoop (x y : N4) : LoopTo Try.prog (bodyAt Try.prog 25 4) (mulInv x y 0 Q.zero) (.exit 0) (mulInv x y 8 (rows x y 8)) := by
  refine LoopTo.intro (α := Nat) gsMul fol (fun i => mulInv x y (i : Nat) (rows x y i)) (fun i => i ≤ 8) (fun i => 8 - i) (by simp) ?_ 0 (by omega)
  intro i hi
  have step : ∀ n : Nat, n < 8 → mulR x y n (rows x y n) = some (.normal, mulInv x y ((n + 1 : Nat) : Int) (rows x y (n + 1)), []) → (∃ orc sums fuel td cs a', roundS Try.prog (lookG tblMul) orc sums fuel td (bodyAt Try.prog 25 4) (mulInv x y (n : Nat) (rows x y n)) = some (.normal, mulInv x y ((a' : Nat) : Int) (rows x y a'), cs) ∧ AllP cs ∧ a' ≤ 8 ∧ 8 - a' < 8 - n) :=
    fun n hn h => ⟨_, _, _, _, _, n + 1, h, trivial, by omega, by omega⟩
  match i, hi with
  | 0, _ => exact .inl (step 0 (by omega) (mulRound0 x y _))
  | 1, _ => exact .inl (step 1 (by omega) (mulRound1 x y _))
  | 2, _ => exact .inl (step 2 (by omega) (mulRound2 x y _))
  | 3, _ => exact .inl (step 3 (by omega) (mulRound3 x y _))
  | 4, _ => exact .inl (step 4 (by omega) (mulRound4 x y _))
  | 5, _ => exact .inl (step 5 (by omega) (mulRound5 x y _))
  | 6, _ => exact .inl (step 6 (by omega) (mulRound6 x y _))
  | 7, _ => exact .inl (step 7 (by omega) (mulRound7 x y _))
  | 8, _ => exact .inr ⟨_, _, _, _, _, mulExit x y _, trivial⟩

def spMul : List AV → Option (AV × List Prop)
  | [.val true [.n4 a], .val true [.n4 b]] => some (.val true [.n4 (mulV a b).1, .n4 (mulV a b).2], [])
  | _ => none
theorem ctMul : CtSOk Try.prog 25 (.fn spMul) := FnS_of_fnS gsMul fol fun ds r cs h _ => by
  unfold spMul at h
  split at h
  case h_2 => simp at h
  rename_i a b
  simp only [Option.some.injEq, Prod.mk.injEq] at h
  obtain ⟨rfl, rfl⟩ := h
  refine use_run (runMul a b (rows a b 8)) ?_ ⟨mulLoop a b, trivial⟩
  rw [mul_ok]

/-! ### Which of two is more -/
def eq4 (a b : N4) : Bool := N4.eq a b && true
theorem eq4_iff (a b : N4) : eq4 a b = true ↔ a = b := by
  unfold eq4 N4.eq
  simp only [Bool.and_eq_true, beq_iff_eq, and_true]
  constructor
  · rintro ⟨h0, h1, h2, h3⟩; exact N4_ext h0 h1 h2 h3
  · rintro rfl; exact ⟨rfl, rfl, rfl, rfl⟩
theorem eq4_same {a b : N4} (h : a = b) : eq4 a b = true := (eq4_iff a b).2 h
theorem eq4_not {a b : N4} (h : a ≠ b) : eq4 a b = false := by
  cases e : eq4 a b with
  | false => rfl
  | true => exact absurd ((eq4_iff a b).1 e) h
def cmpN (a b : N4) : Int := if val a < val b then -1 else if val b < val a then 1 else 0
def spCmp : List AV → Option (AV × List Prop)
  | [.val true [.n4 a], .val true [.n4 b]] => some (sc (.i64 (cmpN a b)), [])
  | _ => none
def tblCmp : List (FuncId × CtS) := [(16, .fn (sp2 subV))]
theorem gsCmp : GSound Try.prog (upG (lookG tblCmp)) := GSound_of_tbl ⟨⟨ctSub, by kernel_rfl⟩, trivial⟩
end Go.Proofs.Ytbhnegdekeojkaa
