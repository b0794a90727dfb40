/- PROVED: sealwaxlaw02.WideOrders answers true for every two numbers and every int, and each argument reads behind the call as it read before. Conditions: none. Own work. -/
import Derived.Test.YtokbhlapbollbaaRwKit
import Derived.Test.YtokbhlapbollbaaCtO
namespace Go.Proofs.Ytokbhlapbollbaa
open Go.Ev Go.Sp Go.ChangeShapes Go.WideShapes Go.RowKit
set_option maxRecDepth 100000

def tblLaw : List (FuncId × CtS) := [(23, .fn spPick), (25, .fn spBit), (24, .fn spCmp), (26, .fn spRBit), (16, .fn spAwake)] ++ tblN
theorem gsLaw : GSound Try.prog (upG (lookG tblLaw)) := GSound_of_tbl ⟨⟨ctPick, by kernel_rfl⟩, ⟨ctBit, by kernel_rfl⟩, ⟨ctCmp, by kernel_rfl⟩, ⟨ctRBit, by kernel_rfl⟩, ⟨ctAwake, by kernel_rfl⟩, okN⟩

theorem lawL0 (a b : N4) (i : Int) : fnS Try.prog (lookG tblLaw) (orcOf [] [(2, [(4, true)]), (4, [(4, false)]), (7, [(4, true), (12, true), (16, true), (20, true)])]) [] 10 6 [.val true [.n4 a], .val true [.n4 b], sc (.i64 i)] =
    some (sc (IV.bool true), [(dg (val a)).length = (dg (val a)).length, (dg (val b)).length = (dg (val b)).length, Sm (val a), Sm (val b), decide (val a < val b) = true, (dg (val b)).length = (dg (val b)).length, (dg (val a)).length = (dg (val a)).length, Sm (val b), Sm (val a), decide (val b < val a) = false, (cmpN a b == (-1 : Int)) = true, (bitN a i == bitN a i) = true, (i == (0 : Int)) = true, ((if BitVec.ofInt 64 i = BitVec.ofNat 64 0 then a else b).eq a && true) = true]) := by kernel_rfl
theorem lawL1 (a b : N4) (i : Int) : fnS Try.prog (lookG tblLaw) (orcOf [] [(2, [(4, true)]), (4, [(4, false)]), (7, [(4, true), (12, true), (16, false), (24, true), (28, true)])]) [] 10 6 [.val true [.n4 a], .val true [.n4 b], sc (.i64 i)] =
    some (sc (IV.bool true), [(dg (val a)).length = (dg (val a)).length, (dg (val b)).length = (dg (val b)).length, Sm (val a), Sm (val b), decide (val a < val b) = true, (dg (val b)).length = (dg (val b)).length, (dg (val a)).length = (dg (val a)).length, Sm (val b), Sm (val a), decide (val b < val a) = false, (cmpN a b == (-1 : Int)) = true, (bitN a i == bitN a i) = true, (i == (0 : Int)) = false, (!i == (0 : Int)) = true, ((if BitVec.ofInt 64 i = BitVec.ofNat 64 0 then a else b).eq b && true) = true]) := by kernel_rfl
theorem lawG0 (a b : N4) (i : Int) : fnS Try.prog (lookG tblLaw) (orcOf [] [(2, [(4, false)]), (4, [(4, true)]), (7, [(4, true), (12, true), (16, true), (20, true)])]) [] 10 6 [.val true [.n4 a], .val true [.n4 b], sc (.i64 i)] =
    some (sc (IV.bool true), [(dg (val a)).length = (dg (val a)).length, (dg (val b)).length = (dg (val b)).length, Sm (val a), Sm (val b), decide (val a < val b) = false, (dg (val b)).length = (dg (val b)).length, (dg (val a)).length = (dg (val a)).length, Sm (val b), Sm (val a), decide (val b < val a) = true, (cmpN a b == (1 : Int)) = true, (bitN a i == bitN a i) = true, (i == (0 : Int)) = true, ((if BitVec.ofInt 64 i = BitVec.ofNat 64 0 then a else b).eq a && true) = true]) := by kernel_rfl
theorem lawG1 (a b : N4) (i : Int) : fnS Try.prog (lookG tblLaw) (orcOf [] [(2, [(4, false)]), (4, [(4, true)]), (7, [(4, true), (12, true), (16, false), (24, true), (28, true)])]) [] 10 6 [.val true [.n4 a], .val true [.n4 b], sc (.i64 i)] =
    some (sc (IV.bool true), [(dg (val a)).length = (dg (val a)).length, (dg (val b)).length = (dg (val b)).length, Sm (val a), Sm (val b), decide (val a < val b) = false, (dg (val b)).length = (dg (val b)).length, (dg (val a)).length = (dg (val a)).length, Sm (val b), Sm (val a), decide (val b < val a) = true, (cmpN a b == (1 : Int)) = true, (bitN a i == bitN a i) = true, (i == (0 : Int)) = false, (!i == (0 : Int)) = true, ((if BitVec.ofInt 64 i = BitVec.ofNat 64 0 then a else b).eq b && true) = true]) := by kernel_rfl
theorem lawE0 (a b : N4) (i : Int) : fnS Try.prog (lookG tblLaw) (orcOf [] [(2, [(4, false)]), (4, [(4, false)]), (7, [(4, true), (12, true), (16, true), (20, true)])]) [] 10 6 [.val true [.n4 a], .val true [.n4 b], sc (.i64 i)] =
    some (sc (IV.bool true), [(dg (val a)).length = (dg (val a)).length, (dg (val b)).length = (dg (val b)).length, Sm (val a), Sm (val b), decide (val a < val b) = false, (dg (val b)).length = (dg (val b)).length, (dg (val a)).length = (dg (val a)).length, Sm (val b), Sm (val a), decide (val b < val a) = false, (cmpN a b == (0 : Int)) = true, (bitN a i == bitN a i) = true, (i == (0 : Int)) = true, ((if BitVec.ofInt 64 i = BitVec.ofNat 64 0 then a else b).eq a && true) = true]) := by kernel_rfl
theorem lawE1 (a b : N4) (i : Int) : fnS Try.prog (lookG tblLaw) (orcOf [] [(2, [(4, false)]), (4, [(4, false)]), (7, [(4, true), (12, true), (16, false), (24, true), (28, true)])]) [] 10 6 [.val true [.n4 a], .val true [.n4 b], sc (.i64 i)] =
    some (sc (IV.bool true), [(dg (val a)).length = (dg (val a)).length, (dg (val b)).length = (dg (val b)).length, Sm (val a), Sm (val b), decide (val a < val b) = false, (dg (val b)).length = (dg (val b)).length, (dg (val a)).length = (dg (val a)).length, Sm (val b), Sm (val a), decide (val b < val a) = false, (cmpN a b == (0 : Int)) = true, (bitN a i == bitN a i) = true, (i == (0 : Int)) = false, (!i == (0 : Int)) = true, ((if BitVec.ofInt 64 i = BitVec.ofNat 64 0 then a else b).eq b && true) = true]) := by kernel_rfl

theorem law (a b : N4) (i : Int) (h1 : -9223372036854775808 ≤ i) (h2 : i ≤ 9223372036854775807) (w : World) (vals : List Value) (hv : F2 (DV w) [.val true [.n4 a], .val true [.n4 b], sc (.i64 i)] vals) :
    Calls Try.prog 6 vals.toArray w fun e w' => ∃ v, e = .returned v ∧ Below w.heap.size w w' ∧ ResOk w.heap.size w' (sc (.bool true)) v := by
  have sa := Sm_val a
  have sb := Sm_val b
  have bb : (bitN a i == bitN a i) = true := beq_self_eq_true _
  have hi : i ≠ 0 → ¬ BitVec.ofInt 64 i = BitVec.ofNat 64 0 := by
    intro h e
    have := congrArg BitVec.toInt e
    rw [BitVec.toInt_ofInt] at this
    simp [Int.bmod] at this
    omega
  by_cases hlt : val a < val b
  · have c0 : decide (val a < val b) = true := decide_eq_true hlt
    have c1 : decide (val b < val a) = false := decide_eq_false (by omega)
    have c2 : (cmpN a b == (-1 : Int)) = true := by simp [cmpN, hlt]
    by_cases h0 : i = 0
    · subst h0
      exact calls_of_fnS gsLaw fol (lawL0 a b 0) (by simp only [AllP]; and_intros <;> first | assumption | trivial | exact eq4_same rfl) w vals hv
    · have c3 : (i == (0 : Int)) = false := by simpa using h0
      have c4 : (!i == (0 : Int)) = true := by simpa using h0
      exact calls_of_fnS gsLaw fol (lawL1 a b i) (by simp only [AllP]; and_intros <;> first | assumption | trivial | exact eq4_same (if_neg (hi h0))) w vals hv
  · have c0 : decide (val a < val b) = false := decide_eq_false hlt
    by_cases hgt : val b < val a
    · have c1 : decide (val b < val a) = true := decide_eq_true hgt
      have c2 : (cmpN a b == (1 : Int)) = true := by simp [cmpN, hlt, hgt]
      by_cases h0 : i = 0
      · subst h0
        exact calls_of_fnS gsLaw fol (lawG0 a b 0) (by simp only [AllP]; and_intros <;> first | assumption | trivial | exact eq4_same rfl) w vals hv
      · have c3 : (i == (0 : Int)) = false := by simpa using h0
        have c4 : (!i == (0 : Int)) = true := by simpa using h0
        exact calls_of_fnS gsLaw fol (lawG1 a b i) (by simp only [AllP]; and_intros <;> first | assumption | trivial | exact eq4_same (if_neg (hi h0))) w vals hv
    · have c1 : decide (val b < val a) = false := decide_eq_false hgt
      have c2 : (cmpN a b == (0 : Int)) = true := by simp [cmpN, hlt, hgt]
      by_cases h0 : i = 0
      · subst h0
        exact calls_of_fnS gsLaw fol (lawE0 a b 0) (by simp only [AllP]; and_intros <;> first | assumption | trivial | exact eq4_same rfl) w vals hv
      · have c3 : (i == (0 : Int)) = false := by simpa using h0
        have c4 : (!i == (0 : Int)) = true := by simpa using h0
        exact calls_of_fnS gsLaw fol (lawE1 a b i) (by simp only [AllP]; and_intros <;> first | assumption | trivial | exact eq4_same (if_neg (hi h0))) w vals hv
theorem wideOrdersLifted (os : Os) (started : os.Started) (H : Type) (enc : TypeId × Value → H) :
    ReturnsInHanded {} Try.checked os 6 .any (Rows.wideOrdersSpec.pre6 enc Try.prog Try.f6 Rows.wideOrdersRow.domain false) (Rows.wideOrdersSpec.post enc Try.prog Try.f6 false true false false) := by
  refine returnsInHanded_of_change_sized (C := Try.checked) own started (by kernel_rfl) Try.func6
    (ChangeSpec.witness6 (enc := enc) (C := Try.checked) false ⟨#[], #[.agg (Array.replicate 4 (.int .u64 0)), .agg (Array.replicate 4 (.int .u64 0)), .int .i64 0], []⟩ 8 (by kernel_rfl) (by kernel_rfl) (by kernel_rfl) (by kernel_rfl)) ?_
  intro W base args ds gs before hval0 hW hcnd hsz _
  have hval : ∀ (j : Nat) t v, Try.f6.params[j]? = some t → args[j]? = some v → Value.okWide Try.prog W .any base t v := hval0
  have hW' := hW
  obtain ⟨p, q, hA0, hV, rfl, hfz, hnd⟩ := hW
  have hA : DataW.TrodAll enc Try.prog W 0 (fun _ => true) true Try.f6.params.toList args.toList ds p := hA0
  rw [Try.params6] at hA hval
  obtain ⟨v0, v1, v2, d0, d1, d2, p0, p1, p2, rfl, rfl, rfl, h0, h1, h2⟩ := trodAll_three hA
  obtain ⟨rfl, rfl⟩ := trodVars_none hV
  obtain ⟨a0, e0⟩ := openNum (hval 0 _ v0 rfl rfl) h0
  obtain ⟨a1, e1⟩ := openNum (hval 1 _ v1 rfl rfl) h1
  obtain ⟨a2, e2, l2, u2⟩ := open_i64 (by kernel_rfl) (hval 2 _ v2 rfl rfl) h2
  refine (law a0 a1 a2 l2 u2 W [v0, v1, v2] ⟨e0, e1, e2, trivial⟩).mono fun e W' ⟨v, he, hbelow, hres⟩ => ⟨v, he, ?_⟩
  rw [resBool hres]
  exact law_post laidOut (by rw [Try.params6]; exact of_decide_eq_true (by kernel_rfl)) rfl rfl (tb := 4) (by kernel_rfl) hW' rfl hbelow

theorem wideOrders_holds : Rows.WideOrdersSaid :=
  OpenClaim.holds_of_wide 6 Try.f6 rfl rfl rfl rfl rfl rfl rfl ⟨rfl, rfl, rfl, rfl, rfl⟩ rfl rfl rfl rfl rfl (by kernel_rfl) Try.func6 (by kernel_rfl)
    (of_decide_eq_true (by kernel_rfl)) (by unfold Func.isWrapper; first | (rw [if_pos (by decide +kernel)]; kernel_rfl) | (rw [if_neg (by decide +kernel)]; exact ⟨rfl, rfl⟩))
    (fun os started H enc _ => wideOrdersLifted os started H enc)

end Go.Proofs.Ytokbhlapbollbaa
