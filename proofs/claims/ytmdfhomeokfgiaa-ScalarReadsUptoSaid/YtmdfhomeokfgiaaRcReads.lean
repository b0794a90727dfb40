/- PROVED: sealwaxlaw04.ScalarReads answers true for every bytes of bulk at most 1048576, and each argument reads behind the call as it read before. Conditions: the bound of the second form. Own work. -/
import Derived.Test.YtmdfhomeokfgiaaRcKit
import Derived.JoinedCond
namespace Go.Proofs.Ytmdfhomeokfgiaa
open Go.Ev Go.Sp Go.ChangeShapes Go.WideShapes Go.RowKit
set_option maxRecDepth 100000
theorem runLaw (b : List (BitVec 8)) : fnS Try.prog (lookG tblC) (orcA [(6, [(2, true), (6, true), (11, true), (16, true), (23, true)])]) [] 10 9 [sc (.d8 b)] =
    some (sc (IV.bool true), [b.length = b.length, 0 = 0, (0 + b.length) * 1 ≤ 140737488355328 ∧ 0 + b.length ≤ 9223372036854775807, 0 + b.length = b.length, b.length = b.length, b.length ≤ 4000000, 0 + b.length = b.length, b.length = b.length, b.length ≤ 4000000, (dg (rofV b).fst).length = (dg (rofV b).fst).length, ((sofV b).fst.eq (ofN (rofV b).fst) && true) = true, ((sofV b).snd == (rofV b).snd) = true, (dg (rdecV b).fst).length = (dg (rdecV b).fst).length, ((sdecV b).fst.eq (ofN (rdecV b).fst) && true) = true, ((sdecV b).snd == (rdecV b).snd) = true, 0 + b.length = b.length, b.length = b.length, (b == b) = true]) := by kernel_rfl
theorem upto_one {H : Type} (d : DataW H) : 1 ≤ Rows.uptoBulk d := by
  cases d with
  | lit l => cases l <;> simp [Rows.uptoBulk]
  | _ => simp [Rows.uptoBulk]
theorem upto_part {H : Type} {d : DataW H} : ∀ {l : List (DataW H)}, d ∈ l → Rows.uptoBulk d ≤ Rows.uptoBulkAll l
  | [], h => by simp at h
  | x :: r, h => by
    simp only [Rows.uptoBulkAll]
    rcases List.mem_cons.1 h with rfl | h
    · omega
    · have := upto_part h
      omega
theorem upto_len {H : Type} : ∀ (l : List (DataW H)), l.length ≤ Rows.uptoBulkAll l
  | [] => by simp
  | x :: r => by
    have h1 := upto_one x
    have h2 := upto_len r
    simp only [Rows.uptoBulkAll, List.length_cons]
    omega
theorem upto_slice {H : Type} (el sp : List (DataW H)) : el.length ≤ Rows.uptoBulk (.slice el sp) := by
  have h1 := upto_len el
  simp only [Rows.uptoBulk]
  omega
theorem law (b : List (BitVec 8)) (hb : b.length ≤ 1048576) (w : World) (vals : List Value) (hv : F2 (DV w) [sc (.d8 b)] vals) :
    Calls Try.prog 9 vals.toArray w fun e w' => ∃ v, e = .returned v ∧ Below w.heap.size w w' ∧ ResOk w.heap.size w' (sc (.bool true)) v := by
  have z0 : ofN 0 = ⟨0#64, 0#64, 0#64, 0#64⟩ := rfl
  have h1 : sofV b = (ofN (rofV b).1, (rofV b).2) := by
    by_cases h : b.length ≤ 64
    · rw [sofV, rofV, if_pos h, if_pos h]
    · rw [sofV, rofV, if_neg h, if_neg h, z0]
  have h2 : sdecV b = (ofN (rdecV b).1, (rdecV b).2) := by
    by_cases h : b.length = 32
    · by_cases hlt : bv b < Lo
      · rw [sdecV, rdecV, if_pos h, if_pos h, if_pos hlt, if_pos hlt]
      · rw [sdecV, rdecV, if_pos h, if_pos h, if_neg hlt, if_neg hlt, z0]
    · rw [sdecV, rdecV, if_neg h, if_neg h, z0]
  have l0 : 0 + b.length = b.length := by omega
  have l1 : (0 + b.length) * 1 ≤ 140737488355328 ∧ 0 + b.length ≤ 9223372036854775807 := by omega
  have l2 : b.length ≤ 4000000 := by omega
  exact calls_of_fnS gsC fol (runLaw b) ⟨rfl, rfl, l1, l0, rfl, l2, l0, rfl, l2, rfl, by rw [h1]; exact eq4_same rfl, by rw [h1]; exact beq_self_eq_true _, rfl, by rw [h2]; exact eq4_same rfl, by rw [h2]; exact beq_self_eq_true _, l0, rfl, beq_self_eq_true _, trivial⟩ w vals hv
theorem scalarReadsLifted (os : Os) (started : os.Started) (H : Type) (enc : TypeId × Value → H) (F : Stop.Interp) :
    ReturnsInHanded {} Try.checked os 9 .any ((Rows.OpenSpec.upto Rows.scalarReadsSpec).pre6 enc Try.prog Try.f9 Rows.scalarReadsUptoRow.domain false) (((Rows.OpenSpec.upto Rows.scalarReadsSpec).at F).post enc Try.prog Try.f9 false true false false) := by
  refine returnsInHanded_of_cond (C := Try.checked) (s := Rows.OpenSpec.upto Rows.scalarReadsSpec) (k := Rows.uptoSmall) rfl own started (by kernel_rfl) Try.func9
    (OpenSpec.witness (enc := enc) (C := Try.checked) (s := Rows.OpenSpec.upto Rows.scalarReadsSpec) (k := Rows.uptoSmall) rfl false ⟨#[], #[.slice none 0 0], []⟩ 8 (by kernel_rfl) (by kernel_rfl) (by kernel_rfl)
      (x := ([.nil], [], [])) (by kernel_rfl) rfl (by kernel_rfl)) ?_
  intro W base args ds gs before hval0 hW hcnd hk _
  have hval : ∀ (j : Nat) t v, Try.f9.params[j]? = some t → args[j]? = some v → Value.okWide Try.prog W .any base t v := hval0
  have hW' := hW
  obtain ⟨p, q, hA0, hV, rfl, hfz, hnd⟩ := hW
  have hA : DataW.TrodAll enc Try.prog W 0 (fun _ => true) true Try.f9.params.toList args.toList ds p := hA0
  rw [Try.params9] at hA hval
  obtain ⟨v0, d0, rfl, rfl, h0⟩ := trodAll_one hA
  obtain ⟨rfl, rfl⟩ := trodVars_none hV
  obtain ⟨a0, e0, l0, s0⟩ := open_d8 (e := 5) (by kernel_rfl) (by kernel_rfl) (by kernel_rfl) (by kernel_rfl) (hval 0 _ v0 rfl rfl) h0
  replace l0 : a0.length ≤ 1048576 := by
    have hk' : Rows.uptoBulkAll ([d0] ++ []) ≤ 1048576 := of_decide_eq_true hk
    rcases s0 with rfl | ⟨el, sp, rfl, hl⟩
    · simp
    · have h1 := upto_slice el sp
      have h2 : Rows.uptoBulk (.slice el sp) ≤ Rows.uptoBulkAll ([.slice el sp] ++ []) := upto_part (by simp)
      omega
  refine (law a0 l0 W [v0] ⟨e0, trivial⟩).mono fun e W' ⟨v, he, hbelow, hres⟩ => ⟨v, he, ?_⟩
  rw [resBool hres]
  exact law_post laidOut (by rw [Try.params9]; exact of_decide_eq_true (by kernel_rfl)) rfl rfl (tb := 4) (by kernel_rfl) hW' rfl hbelow

theorem scalarReadsUpto_over : Rows.scalarReadsUptoRow.holds Try.pinned (Rows.OpenSpec.upto Rows.scalarReadsSpec) :=
  OpenClaim.holds_of_cond 9 Try.f9 rfl rfl rfl rfl rfl rfl rfl ⟨rfl, rfl, rfl, rfl, rfl⟩ rfl rfl rfl rfl rfl (by kernel_rfl) Try.func9 (by kernel_rfl)
    (of_decide_eq_true (by kernel_rfl)) (by unfold Func.isWrapper; first | (rw [if_pos (by decide +kernel)]; kernel_rfl) | (rw [if_neg (by decide +kernel)]; exact ⟨rfl, rfl⟩))
    (fun os started H enc _ F => scalarReadsLifted os started H enc F)
theorem scalarReadsUpto_holds : Rows.ScalarReadsUptoSaid := scalarReadsUpto_over

end Go.Proofs.Ytmdfhomeokfgiaa
