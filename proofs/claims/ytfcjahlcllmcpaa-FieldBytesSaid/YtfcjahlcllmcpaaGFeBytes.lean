/- PROVED: sealwaxlaw03.FieldBytes answers true for every argument, and each argument reads behind the call as it read before. Conditions: none. Own work. -/
import Derived.Test.YtfcjahlcllmcpaaMgr
namespace Go.Proofs.Ytfcjahlcllmcpaa
open Go.Ev Go.Sp Go.ChangeShapes Go.WideShapes Go.RowKit
set_option maxRecDepth 100000
theorem decV_lt (b : List (BitVec 8)) : (decV b).1 < Pp := by
  unfold decV
  split
  · split
    · assumption
    · exact Pp_pos
  · exact Pp_pos
theorem runLaw (f : Nat → Nat → Nat) (g : Nat → Nat × Bool) (v : Nat → Nat) (b : List (BitVec 8)) (a : N4) : fnS Try.prog (lookG (tblY f g v)) (orcA [(4, [(3, true), (7, true), (14, true), (24, true)])]) [] 10 11 [sc (.d8 b), .val true [.n4 a]] =
    some (sc (IV.bool true), [b.length = b.length, 0 = 0, (0 + b.length) * 1 ≤ 140737488355328 ∧ 0 + b.length ≤ 9223372036854775807, 0 + b.length = b.length, b.length = b.length, (decV b).fst < p256, ((ofN (decV b).fst).eq (ofN (decV b).fst) && true) = true, ((decV b).snd == (decV b).snd) = true, 0 + b.length = b.length, b.length = b.length, (b == b) = true, (bl (val a % Pp) 32).length = (bl (val a % Pp) 32).length, val a % Pp < p256, (bl (val a % Pp) 32).length = (bl (val a % Pp) 32).length, (bl (val a % Pp) 32 == bl (val a % Pp) 32) = true]) := by kernel_rfl
theorem law (b : List (BitVec 8)) (lb : b.length ≤ reachBytes) (a : N4) (w : World) (vals : List Value) (hv : F2 (DV w) [sc (.d8 b), .val true [.n4 a]] vals) :
    Calls Try.prog 11 vals.toArray w fun e w' => ∃ v, e = .returned v ∧ Below w.heap.size w w' ∧ ResOk w.heap.size w' (sc (.bool true)) v := by
  have hx := Nat.mod_lt (val a) Pp_pos
  have hb : b.length ≤ 140737488351232 := lb
  exact calls_of_fnS gsY fol (runLaw pw prV fInv b a) ⟨rfl, rfl, ⟨by omega, by omega⟩, by omega, rfl, lt256 (decV_lt b), eqN rfl, beq_self_eq_true _, by omega, rfl, beq_self_eq_true _, rfl, lt256 hx, rfl, beq_self_eq_true _, trivial⟩ w vals hv
theorem fieldBytesLifted (os : Os) (started : os.Started) (H : Type) (enc : TypeId × Value → H) :
    ReturnsInHanded {} Try.checked os 11 .any (Rows.fieldBytesSpec.pre6 enc Try.prog Try.f11 Rows.fieldBytesRow.domain false) (Rows.fieldBytesSpec.post enc Try.prog Try.f11 false true false false) := by
  refine returnsInHanded_of_change_sized (C := Try.checked) own started (by kernel_rfl) Try.func11
    (ChangeSpec.witness6 (enc := enc) (C := Try.checked) false ⟨#[], #[.slice none 0 0, .agg (Array.replicate 4 (.int .u64 0))], []⟩ 8 (by kernel_rfl) (by kernel_rfl) (by kernel_rfl) (by kernel_rfl)) ?_
  intro W base args ds gs before hval0 hW hcnd hsz _
  have hval : ∀ (j : Nat) t v, Try.f11.params[j]? = some t → args[j]? = some v → Value.okWide Try.prog W .any base t v := hval0
  have hW' := hW
  obtain ⟨p, q, hA0, hV, rfl, hfz, hnd⟩ := hW
  have hA : DataW.TrodAll enc Try.prog W 0 (fun _ => true) true Try.f11.params.toList args.toList ds p := hA0
  rw [Try.params11] at hA hval
  obtain ⟨v0, v1, d0, d1, p0, p1, rfl, rfl, rfl, h0, h1⟩ := trodAll_two hA
  obtain ⟨rfl, rfl⟩ := trodVars_none hV
  obtain ⟨a0, e0, l0, s0⟩ := open_d8 (e := 5) (by kernel_rfl) (by kernel_rfl) (by kernel_rfl) (by kernel_rfl) (hval 0 _ v0 rfl rfl) h0
  replace l0 := l0 reachBytes fun x hx => of_decide_eq_true (List.all_eq_true.1 hsz x (DataW.weights_mem_each (j := 0) rfl rfl x hx))
  obtain ⟨a1, e1⟩ := openNum (hval 1 _ v1 rfl rfl) h1
  refine (law a0 l0 a1 W [v0, v1] ⟨e0, e1, trivial⟩).mono fun e W' ⟨v, he, hbelow, hres⟩ => ⟨v, he, ?_⟩
  rw [resBool hres]
  exact law_post laidOut (by rw [Try.params11]; exact of_decide_eq_true (by kernel_rfl)) rfl rfl (tb := 4) (by kernel_rfl) hW' rfl hbelow

theorem fieldBytes_holds : Rows.FieldBytesSaid :=
  OpenClaim.holds_of_wide 11 Try.f11 rfl rfl rfl rfl rfl rfl rfl ⟨rfl, rfl, rfl, rfl, rfl⟩ rfl rfl rfl rfl rfl (by kernel_rfl) Try.func11 (by kernel_rfl)
    (of_decide_eq_true (by kernel_rfl)) (by unfold Func.isWrapper; first | (rw [if_pos (by decide +kernel)]; kernel_rfl) | (rw [if_neg (by decide +kernel)]; exact ⟨rfl, rfl⟩))
    (fun os started H enc _ => fieldBytesLifted os started H enc)

end Go.Proofs.Ytfcjahlcllmcpaa
