/- PROVED: sealwaxlaw02.WideReads answers true for every bytes, and each argument reads behind the call as it read before. Conditions: none. Own work. -/
import Derived.Test.YtokbhlapbollbaaRwKit
import Derived.Test.YtokbhlapbollbaaCtO
namespace Go.Proofs.Ytokbhlapbollbaa
open Go.Ev Go.Sp Go.ChangeShapes Go.WideShapes Go.RowKit
set_option maxRecDepth 100000

def tblLaw : List (FuncId × CtS) := [(28, .fn spFrom), (30, .fn spDbl), (16, .fn spAwake)] ++ tblN
theorem gsLaw : GSound Try.prog (upG (lookG tblLaw)) := GSound_of_tbl ⟨⟨ctFrom, by kernel_rfl⟩, ⟨ctDbl, by kernel_rfl⟩, ⟨ctAwake, by kernel_rfl⟩, okN⟩
theorem law64 (b : List (BitVec 8)) : fnS Try.prog (lookG tblLaw) (orcA [(4, [(4, false)]), (6, [(2, true)]), (7, [(2, true), (5, true), (10, true), (14, true)])]) [] 10 8 [sc (.d8 b)] =
    some (sc (IV.bool true), [b.length = b.length, 0 = 0, (0 + b.length) * 1 ≤ 140737488355328 ∧ 0 + b.length ≤ 9223372036854775807, 0 + b.length = b.length, 0 + b.length = b.length, 0 + b.length = b.length, b.length = b.length, (!b == b) = false, decide ((64 : Int) < (↑b.length : Int)) = true, ((fromV b).fst.eq (N4.mk (BitVec.ofNat 64 0) (BitVec.ofNat 64 0) (BitVec.ofNat 64 0) (BitVec.ofNat 64 0)) && true) = true, ((fromV b).snd == (2 : Int)) = true, ((dblV b).fst.eq (N4.mk (BitVec.ofNat 64 0) (BitVec.ofNat 64 0) (BitVec.ofNat 64 0) (BitVec.ofNat 64 0)) && ((dblV (List.replicate 0 (BitVec.ofInt 8 (0 : Int)) ++ b)).2.fst.eq (N4.mk (BitVec.ofNat 64 0) (BitVec.ofNat 64 0) (BitVec.ofNat 64 0) (BitVec.ofNat 64 0)) && true)) = true, ((dblV (List.replicate 0 (BitVec.ofInt 8 (0 : Int)) ++ b)).2.snd == (2 : Int)) = true]) := by kernel_rfl
theorem law32 (b : List (BitVec 8)) : fnS Try.prog (lookG tblLaw) (orcA [(4, [(4, false)]), (6, [(2, false)]), (8, [(4, false), (7, false)]), (10, [(2, true)]), (11, [(2, true), (5, true)])]) [] 10 8 [sc (.d8 b)] =
    some (sc (IV.bool true), [b.length = b.length, 0 = 0, (0 + b.length) * 1 ≤ 140737488355328 ∧ 0 + b.length ≤ 9223372036854775807, 0 + b.length = b.length, 0 + b.length = b.length, 0 + b.length = b.length, b.length = b.length, (!b == b) = false, decide ((64 : Int) < (↑b.length : Int)) = false, b.length = b.length, b.length ≤ 4000000, (dg (bv b)).length = (dg (bv b)).length, (!((dblV b).fst.eq (ofN (bv b)) && ((dblV (List.replicate 0 (BitVec.ofInt 8 (0 : Int)) ++ b)).2.fst.eq (ofN (bv b / 115792089237316195423570985008687907853269984665640564039457584007913129639936)) && true))) = false, (!(dblV (List.replicate 0 (BitVec.ofInt 8 (0 : Int)) ++ b)).2.snd == (0 : Int)) = false, decide ((32 : Int) < (↑b.length : Int)) = true, ((fromV b).fst.eq (N4.mk (BitVec.ofNat 64 0) (BitVec.ofNat 64 0) (BitVec.ofNat 64 0) (BitVec.ofNat 64 0)) && true) = true, ((fromV b).snd == (2 : Int)) = true]) := by kernel_rfl
theorem law00 (b : List (BitVec 8)) : fnS Try.prog (lookG tblLaw) (orcA [(4, [(4, false)]), (6, [(2, false)]), (8, [(4, false), (7, false)]), (10, [(2, false)]), (12, [(4, true), (7, true)])]) [] 10 8 [sc (.d8 b)] =
    some (sc (IV.bool true), [b.length = b.length, 0 = 0, (0 + b.length) * 1 ≤ 140737488355328 ∧ 0 + b.length ≤ 9223372036854775807, 0 + b.length = b.length, 0 + b.length = b.length, 0 + b.length = b.length, b.length = b.length, (!b == b) = false, decide ((64 : Int) < (↑b.length : Int)) = false, b.length = b.length, b.length ≤ 4000000, (dg (bv b)).length = (dg (bv b)).length, (!((dblV b).fst.eq (ofN (bv b)) && ((dblV (List.replicate 0 (BitVec.ofInt 8 (0 : Int)) ++ b)).2.fst.eq (ofN (bv b / 115792089237316195423570985008687907853269984665640564039457584007913129639936)) && true))) = false, (!(dblV (List.replicate 0 (BitVec.ofInt 8 (0 : Int)) ++ b)).2.snd == (0 : Int)) = false, decide ((32 : Int) < (↑b.length : Int)) = false, b.length = b.length, b.length ≤ 4000000, (dg (bv b)).length = (dg (bv b)).length, ((fromV b).fst.eq (ofN (bv b)) && true) = true, ((fromV b).snd == (0 : Int)) = true]) := by kernel_rfl

theorem law (b : List (BitVec 8)) (hb : b.length ≤ reachBytes) (w : World) (vals : List Value) (hv : F2 (DV w) [sc (.d8 b)] vals) :
    Calls Try.prog 8 vals.toArray w fun e w' => ∃ v, e = .returned v ∧ Below w.heap.size w w' ∧ ResOk w.heap.size w' (sc (.bool true)) v := by
  have hB : b.length ≤ 140737488351232 := hb
  have hbb : (!b == b) = false := by simp
  by_cases h64 : b.length ≤ 64
  · have hd : dblV b = (ofN (bv b), ofN (bv b / p256), 0) := by rw [dblV, if_pos h64]
    have q1 : (!((dblV b).1.eq (ofN (bv b)) && ((dblV b).2.1.eq (ofN (bv b / p256)) && true))) = false := by
      rw [hd]; simp [N4.eq]
    have q2 : (!(dblV b).2.2 == (0 : Int)) = false := by rw [hd]; rfl
    have q0 : decide ((64 : Int) < (b.length : Int)) = false := decide_eq_false (by omega)
    by_cases h32 : b.length ≤ 32
    · have hf : fromV b = (ofN (bv b), 0) := by rw [fromV, if_pos h32]
      refine calls_of_fnS gsLaw fol (law00 b) ⟨rfl, rfl, by omega, by omega, by omega, by omega, rfl, hbb, q0, rfl, by omega, rfl, q1, q2, decide_eq_false (by omega), rfl, by omega, rfl, ?_, ?_, trivial⟩ w vals hv
      · rw [hf]; exact eq4_same rfl
      · rw [hf]; rfl
    · have hf : fromV b = (⟨0#64, 0#64, 0#64, 0#64⟩, 2) := by rw [fromV, if_neg h32]
      refine calls_of_fnS gsLaw fol (law32 b) ⟨rfl, rfl, by omega, by omega, by omega, by omega, rfl, hbb, q0, rfl, by omega, rfl, q1, q2, decide_eq_true (by omega), ?_, ?_, trivial⟩ w vals hv
      · rw [hf]; exact eq4_same rfl
      · rw [hf]; rfl
  · have hd : dblV b = (⟨0#64, 0#64, 0#64, 0#64⟩, ⟨0#64, 0#64, 0#64, 0#64⟩, 2) := by rw [dblV, if_neg h64]
    have hf : fromV b = (⟨0#64, 0#64, 0#64, 0#64⟩, 2) := by rw [fromV, if_neg (by omega)]
    refine calls_of_fnS gsLaw fol (law64 b) ⟨rfl, rfl, by omega, by omega, by omega, by omega, rfl, hbb, decide_eq_true (by omega), ?_, ?_, ?_, ?_, trivial⟩ w vals hv
    · rw [hf]; exact eq4_same rfl
    · rw [hf]; rfl
    · show ((dblV b).1.eq _ && ((dblV b).2.1.eq _ && true)) = true
      rw [hd]; rfl
    · show ((dblV b).2.2 == (2 : Int)) = true
      rw [hd]; rfl
theorem wideReadsLifted (os : Os) (started : os.Started) (H : Type) (enc : TypeId × Value → H) :
    ReturnsInHanded {} Try.checked os 8 .any (Rows.wideReadsSpec.pre6 enc Try.prog Try.f8 Rows.wideReadsRow.domain false) (Rows.wideReadsSpec.post enc Try.prog Try.f8 false true false false) := by
  refine returnsInHanded_of_change_sized (C := Try.checked) own started (by kernel_rfl) Try.func8
    (ChangeSpec.witness6 (enc := enc) (C := Try.checked) false ⟨#[], #[.slice none 0 0], []⟩ 8 (by kernel_rfl) (by kernel_rfl) (by kernel_rfl) (by kernel_rfl)) ?_
  intro W base args ds gs before hval0 hW hcnd hsz _
  have hval : ∀ (j : Nat) t v, Try.f8.params[j]? = some t → args[j]? = some v → Value.okWide Try.prog W .any base t v := hval0
  have hW' := hW
  obtain ⟨p, q, hA0, hV, rfl, hfz, hnd⟩ := hW
  have hA : DataW.TrodAll enc Try.prog W 0 (fun _ => true) true Try.f8.params.toList args.toList ds p := hA0
  rw [Try.params8] at hA hval
  obtain ⟨v0, d0, rfl, rfl, h0⟩ := trodAll_one hA
  obtain ⟨rfl, rfl⟩ := trodVars_none hV
  obtain ⟨a0, e0, l0⟩ := open_d8 (e := 5) (by kernel_rfl) (by kernel_rfl) (by kernel_rfl) (by kernel_rfl) (hval 0 _ v0 rfl rfl) h0
  replace l0 := l0 reachBytes fun x hx => of_decide_eq_true (List.all_eq_true.1 hsz x (DataW.weights_mem_each (j := 0) rfl rfl x hx))
  refine (law a0 l0 W [v0] ⟨e0, trivial⟩).mono fun e W' ⟨v, he, hbelow, hres⟩ => ⟨v, he, ?_⟩
  rw [resBool hres]
  exact law_post laidOut (by rw [Try.params8]; exact of_decide_eq_true (by kernel_rfl)) rfl rfl (tb := 4) (by kernel_rfl) hW' rfl hbelow

theorem wideReads_holds : Rows.WideReadsSaid :=
  OpenClaim.holds_of_wide 8 Try.f8 rfl rfl rfl rfl rfl rfl rfl ⟨rfl, rfl, rfl, rfl, rfl⟩ rfl rfl rfl rfl rfl (by kernel_rfl) Try.func8 (by kernel_rfl)
    (of_decide_eq_true (by kernel_rfl)) (by unfold Func.isWrapper; first | (rw [if_pos (by decide +kernel)]; kernel_rfl) | (rw [if_neg (by decide +kernel)]; exact ⟨rfl, rfl⟩))
    (fun os started H enc _ => wideReadsLifted os started H enc)

end Go.Proofs.Ytokbhlapbollbaa
