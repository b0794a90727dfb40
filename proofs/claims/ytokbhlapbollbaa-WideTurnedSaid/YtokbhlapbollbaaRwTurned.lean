/- PROVED: sealwaxlaw02.WideTurned answers true for every three numbers, and each argument reads behind the call as it read before. Conditions: none. Own work. -/
import Derived.Test.YtokbhlapbollbaaRwKit
namespace Go.Proofs.Ytokbhlapbollbaa
open Go.Ev Go.Sp Go.ChangeShapes Go.WideShapes Go.RowKit
set_option maxRecDepth 100000

def tblTurned : List (FuncId × CtS) := [(12, .fn (sp2 addV)), (33, .fn spMul), (16, .fn spAwake)]
theorem gsTurned : GSound Try.prog (upG (lookG tblTurned)) := GSound_of_tbl ⟨⟨ctAdd, by kernel_rfl⟩, ⟨ctMul, by kernel_rfl⟩, ⟨ctAwake, by kernel_rfl⟩, trivial⟩

theorem runTurned1 (a b c : N4) : fnS Try.prog (lookG tblTurned) (orcOf [] [(1, [(6, false)]), (4, [(1, true)]), (5, [(1, true)])]) [] 10 10 [.val true [.n4 a], .val true [.n4 b], .val true [.n4 c]] =
    some (sc (.bool true), [(!(eq8 (mulV a b) (mulV b a))) = false, (!((addV b c).2 == 0#64)) = true, ((addV b c).2 == 1#64) = true]) := by kernel_rfl
def loT (a b c : N4) : N4 × BitVec 64 := addV (mulV a b).1 (mulV a c).1
def hiT (a b c : N4) : N4 × BitVec 64 := addV (mulV a b).2 (mulV a c).2
def moreT (a b c : N4) : N4 × BitVec 64 := addV (hiT a b c).1 ⟨(loT a b c).2, 0#64, 0#64, 0#64⟩
theorem runTurned0 (a b c : N4) : fnS Try.prog (lookG tblTurned) (orcOf [] [(1, [(6, false)]), (4, [(1, false)]), (11, [(1, true), (4, true), (25, true)])]) [] 10 10 [.val true [.n4 a], .val true [.n4 b], .val true [.n4 c]] =
    some (sc (.bool true), [(!(eq8 (mulV a b) (mulV b a))) = false, (!((addV b c).2 == 0#64)) = false, ((hiT a b c).2 == 0#64) = true, ((moreT a b c).2 == 0#64) = true, eq8 (mulV a (addV b c).1) ((loT a b c).1, (moreT a b c).1) = true]) := by kernel_rfl

theorem bv0 {n : Nat} (h : n = 0) : (BitVec.ofNat 64 n == 0#64) = true := by subst h; rfl

theorem lawTurned (a b c : N4) (w : World) (vals : List Value) (hv : F2 (DV w) [.val true [.n4 a], .val true [.n4 b], .val true [.n4 c]] vals) :
    Calls Try.prog 10 vals.toArray w fun e w' => ∃ v, e = .returned v ∧ Below w.heap.size w w' ∧ ResOk w.heap.size w' (sc (.bool true)) v := by
  have ha := val_lt a
  have hb := val_lt b
  have hc := val_lt c
  have h0 : (!(eq8 (mulV a b) (mulV b a))) = false := by
    rw [eq8_same (by simp only [mulV, Nat.mul_comm])]
    rfl
  by_cases h : val b + val c < p256
  · have hcar : (val b + val c) / p256 = 0 := by simp only [p256] at *; omega
    have hs : val (addV b c).1 = val b + val c := by simp only [addV, val_ofN]; simp only [p256] at *; omega
    have hu : val a * val b + val a * val c < p256 * p256 := by
      rw [← Nat.mul_add]
      exact Nat.mul_lt_mul'' ha h
    have ht : val a * val (addV b c).1 = val a * val b + val a * val c := by rw [hs, Nat.mul_add]
    generalize hx : val a * val b = u at *
    generalize hy : val a * val c = v at *
    have elo : val (loT a b c).1 = (u % p256 + v % p256) % p256 := by simp only [loT, addV, mulV, val_ofN, hx, hy]
    have ehi : (val (mulV a b).2 + val (mulV a c).2) = u / p256 + v / p256 := by
      simp only [mulV, val_ofN, hx, hy]; simp only [p256] at *; omega
    have eup : (loT a b c).2.toNat = (u % p256 + v % p256) / p256 := by
      simp only [loT, addV, mulV, val_ofN, hx, hy, BitVec.toNat_ofNat]; simp only [p256] at *; omega
    have evu : val ⟨(loT a b c).2, 0#64, 0#64, 0#64⟩ = (u % p256 + v % p256) / p256 := by
      rw [val_mk, eup]; simp
    have ehi1 : val (hiT a b c).1 = u / p256 + v / p256 := by
      simp only [hiT, addV, val_ofN, ehi]; simp only [p256] at *; omega
    have emore : val (hiT a b c).1 + val ⟨(loT a b c).2, 0#64, 0#64, 0#64⟩ = (u + v) / p256 := by
      rw [ehi1, evu]; simp only [p256] at *; omega
    refine calls_of_fnS gsTurned fol (runTurned0 a b c) ⟨h0, ?_, ?_, ?_, eq8_same ?_, trivial⟩ w vals hv
    · have := bv0 hcar
      simp only [addV, this]; rfl
    · refine bv0 ?_
      rw [ehi]; simp only [p256] at *; omega
    · refine bv0 ?_
      rw [emore]; simp only [p256] at *; omega
    · refine Prod.ext (val_inj ?_) (val_inj ?_)
      · simp only [mulV, val_ofN, ht]
        show _ = val (loT a b c).1
        rw [elo]; simp only [p256] at *; omega
      · simp only [mulV, val_ofN, ht]
        show _ = val (moreT a b c).1
        simp only [moreT]
        show _ = val (ofN _)
        rw [emore, val_ofN]
  · have hcar : (val b + val c) / p256 = 1 := by simp only [p256] at *; omega
    refine calls_of_fnS gsTurned fol (runTurned1 a b c) ⟨h0, ?_, ?_, trivial⟩ w vals hv
    · simp only [addV, hcar]; rfl
    · simp only [addV, hcar]; rfl

theorem wideTurnedLifted (os : Os) (started : os.Started) (H : Type) (enc : TypeId × Value → H) :
    ReturnsInHanded {} Try.checked os 10 .any (Rows.wideTurnedSpec.pre6 enc Try.prog Try.f10 Rows.wideTurnedRow.domain false) (Rows.wideTurnedSpec.post enc Try.prog Try.f10 false true false false) := by
  refine returnsInHanded_of_change (C := Try.checked) own started (by kernel_rfl) Try.func10
    (ChangeSpec.witness6 (enc := enc) (C := Try.checked) false ⟨#[], #[.agg (Array.replicate 4 (.int .u64 0)), .agg (Array.replicate 4 (.int .u64 0)), .agg (Array.replicate 4 (.int .u64 0))], []⟩ 8 (by kernel_rfl) (by kernel_rfl) (by kernel_rfl) (by kernel_rfl)) ?_
  intro W base args ds gs before hval0 hW hcnd _
  have hval : ∀ (j : Nat) t v, Try.f10.params[j]? = some t → args[j]? = some v → Value.okWide Try.prog W .any base t v := hval0
  have hW' := hW
  obtain ⟨p, q, hA0, hV, rfl, hfz, hnd⟩ := hW
  have hA : DataW.TrodAll enc Try.prog W 0 (fun _ => true) true Try.f10.params.toList args.toList ds p := hA0
  rw [Try.params10] at hA hval
  obtain ⟨v0, v1, v2, d0, d1, d2, p0, p1, p2, rfl, rfl, rfl, h0, h1, h2⟩ := trodAll_three hA
  obtain ⟨rfl, rfl⟩ := trodVars_none hV
  obtain ⟨a0, e0⟩ := openNum (hval 0 _ v0 rfl rfl) h0
  obtain ⟨a1, e1⟩ := openNum (hval 1 _ v1 rfl rfl) h1
  obtain ⟨a2, e2⟩ := openNum (hval 2 _ v2 rfl rfl) h2
  refine (lawTurned a0 a1 a2 W [v0, v1, v2] ⟨e0, e1, e2, trivial⟩).mono fun e W' ⟨v, he, hbelow, hres⟩ => ⟨v, he, ?_⟩
  rw [resBool hres]
  exact law_post laidOut (by rw [Try.params10]; exact of_decide_eq_true (by kernel_rfl)) rfl rfl (tb := 4) (by kernel_rfl) hW' rfl hbelow

theorem wideTurned_holds : Rows.WideTurnedSaid :=
  OpenClaim.holds_of_wide 10 Try.f10 rfl rfl rfl rfl rfl rfl rfl ⟨rfl, rfl, rfl, rfl, rfl⟩ rfl rfl rfl rfl rfl (by kernel_rfl) Try.func10 (by kernel_rfl)
    (of_decide_eq_true (by kernel_rfl)) (by unfold Func.isWrapper; first | (rw [if_pos (by decide +kernel)]; kernel_rfl) | (rw [if_neg (by decide +kernel)]; exact ⟨rfl, rfl⟩))
    (fun os started H enc _ => wideTurnedLifted os started H enc)
end Go.Proofs.Ytokbhlapbollbaa
