/- PROVED: sealwaxlaw02.WideBack answers true for every two numbers, and each argument reads behind the call as it read before. Conditions: none. Own work. -/
import Derived.Test.YtokbhlapbollbaaEvN
import Derived.Test.YtokbhlapbollbaaCtA
import Derived.Test.YtokbhlapbollbaaRows
namespace Go.Proofs.Ytokbhlapbollbaa
open Go.Ev Go.Sp Go.ChangeShapes Go.WideShapes Go.RowKit
set_option maxRecDepth 100000

theorem own : ownKnob Try.prog.godebug = none := by kernel_rfl
theorem laidOut : laidOutB Try.prog = true := by kernel_rfl

def tblBack : List (FuncId × CtS) := [(12, .fn (sp2 addV)), (14, .fn (sp2 subV)), (16, .fn spAwake)]
theorem gsBack : GSound Try.prog (upG (lookG tblBack)) := GSound_of_tbl ⟨⟨ctAdd, by kernel_rfl⟩, ⟨ctSub, by kernel_rfl⟩, ⟨ctAwake, by kernel_rfl⟩, trivial⟩

def eq4 (a b : N4) : Bool := (a.w0 == b.w0 && (a.w1 == b.w1 && (a.w2 == b.w2 && a.w3 == b.w3))) && true
theorem eq4_same {a b : N4} (h : a = b) : eq4 a b = true := by
  subst h
  simp [eq4]

theorem runBack (a b : N4) : fnS Try.prog (lookG tblBack) (orcOf [] [(4, [(2, true), (6, true), (11, true), (15, true)])]) [] 10 5 [.val true [.n4 a], .val true [.n4 b]] =
    some (sc (.bool true), [eq4 (subV (addV a b).1 b).1 a = true, ((addV a b).2 == (subV (addV a b).1 b).2) = true, eq4 (subV a a).1 ⟨0#64, 0#64, 0#64, 0#64⟩ = true, ((subV a a).2 == 0#64) = true]) := by kernel_rfl

theorem lawBack (a b : N4) (w : World) (vals : List Value) (hv : F2 (DV w) [.val true [.n4 a], .val true [.n4 b]] vals) :
    Calls Try.prog 5 vals.toArray w fun e w' => ∃ v, e = .returned v ∧ Below w.heap.size w w' ∧ ResOk w.heap.size w' (sc (.bool true)) v := by
  have ha := val_lt a
  have hb := val_lt b
  refine calls_of_fnS gsBack fol (runBack a b) ⟨eq4_same ?_, ?_, eq4_same ?_, ?_, trivial⟩ w vals hv
  · apply val_inj
    simp only [subV, addV, val_ofN]
    simp only [p256] at *
    omega
  · rw [beq_iff_eq]
    apply BitVec.eq_of_toNat_eq
    simp only [subV, addV, val_ofN, BitVec.toNat_ofNat]
    by_cases h : val a + val b < p256
    · rw [if_neg (by simp only [p256] at *; omega)]
      simp only [p256] at *
      simp
      omega
    · rw [if_pos (by simp only [p256] at *; omega)]
      simp only [p256] at *
      simp
      omega
  · apply val_inj
    simp only [subV, val_ofN]
    simp only [p256] at *
    show _ = 0
    omega
  · simp [subV]

theorem resBool {B : Nat} {w : World} {v : Value} {b : Bool} (h : ResOk B w (sc (.bool b)) v) : v = .bool b := by
  obtain ⟨ρ, _, _, h1, _⟩ := h 0
  have := VRepr_sc.1 h1
  simp [ICells, PCells] at this
  exact this.symm

theorem openNum {H : Type} {enc : TypeId × Value → H} {W : World} {v : Value} {d : DataW H} {ps : List MemPlace} {base : Nat} (hval : Value.okWide Try.prog W .any base 24 v) (hd : DataW.Trod enc Try.prog W 0 (fun _ => true) true 24 v d ps) :
    ∃ a : N4, DV W (.val true [.n4 a]) v := open_num (e := 22) (by kernel_rfl) (by kernel_rfl) (by kernel_rfl) (by kernel_rfl) hval hd

theorem backLifted (os : Os) (started : os.Started) (H : Type) (enc : TypeId × Value → H) :
    ReturnsInHanded {} Try.checked os 5 .any (Rows.wideBackSpec.pre6 enc Try.prog Try.f5 Rows.wideBackRow.domain false) (Rows.wideBackSpec.post enc Try.prog Try.f5 false true false false) := by
  refine returnsInHanded_of_change (C := Try.checked) own started (by kernel_rfl) Try.func5
    (ChangeSpec.witness6 (enc := enc) (C := Try.checked) false ⟨#[], #[.agg (Array.replicate 4 (.int .u64 0)), .agg (Array.replicate 4 (.int .u64 0))], []⟩ 8 (by kernel_rfl) (by kernel_rfl) (by kernel_rfl) (by kernel_rfl)) ?_
  intro W base args ds gs before hval0 hW hcnd _
  have hval : ∀ (j : Nat) t v, Try.f5.params[j]? = some t → args[j]? = some v → Value.okWide Try.prog W .any base t v := hval0
  have hW' := hW
  obtain ⟨p, q, hA0, hV, rfl, hfz, hnd⟩ := hW
  have hA : DataW.TrodAll enc Try.prog W 0 (fun _ => true) true Try.f5.params.toList args.toList ds p := hA0
  rw [Try.params5] at hA hval
  obtain ⟨v0, v1, d0, d1, p0, p1, rfl, rfl, rfl, h0, h1⟩ := trodAll_two hA
  obtain ⟨rfl, rfl⟩ := trodVars_none hV
  obtain ⟨a, ha⟩ := openNum (hval 0 _ v0 rfl rfl) h0
  obtain ⟨b, hb⟩ := openNum (hval 1 _ v1 rfl rfl) h1
  refine (lawBack a b W [v0, v1] ⟨ha, hb, trivial⟩).mono fun e W' ⟨v, he, hbelow, hres⟩ => ⟨v, he, ?_⟩
  rw [resBool hres]
  exact law_post laidOut (by rw [Try.params5]; exact of_decide_eq_true (by kernel_rfl)) rfl rfl (tb := 4) (by kernel_rfl) hW' rfl hbelow

theorem back_holds : Rows.WideBackSaid :=
  OpenClaim.holds_of_wide 5 Try.f5 rfl rfl rfl rfl rfl rfl rfl ⟨rfl, rfl, rfl, rfl, rfl⟩ rfl rfl rfl rfl rfl (by kernel_rfl) Try.func5 (by kernel_rfl)
    (of_decide_eq_true (by kernel_rfl)) (by unfold Func.isWrapper; first | (rw [if_pos (by decide +kernel)]; kernel_rfl) | (rw [if_neg (by decide +kernel)]; exact ⟨rfl, rfl⟩))
    (fun os started H enc _ => backLifted os started H enc)
end Go.Proofs.Ytokbhlapbollbaa
