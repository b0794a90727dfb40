/- PROVED: sealwaxlaw03.FieldRoots answers true for every argument, and each argument reads behind the call as it read before. Conditions: none. Own work. -/
import Derived.Test.YtfcjahlcllmcpaaMgr
namespace Go.Proofs.Ytfcjahlcllmcpaa
open Go.Ev Go.Sp Go.ChangeShapes Go.WideShapes Go.RowKit
set_option maxRecDepth 100000
def spRootG (h : Nat → Nat × Bool) : List AV → Option (AV × List Prop)
  | [.val true [.fe a]] => some (.tup [(true, [.fe (h a).1]), (false, [.bool (h a).2])], [a < Pp])
  | _ => none
def spSqG (s : Nat → Bool) : List AV → Option (AV × List Prop)
  | [.val true [.fe x]] => some (sc (.bool (s x)), [x < Pp])
  | _ => none
def tblR (f : Nat → Nat → Nat) (g : Nat → Nat × Bool) (v : Nat → Nat) (h : Nat → Nat × Bool) (s : Nat → Bool) : List (FuncId × CtS) := (22, .fn (spRootG h)) :: (23, .fn (spSqG s)) :: tblY f g v
theorem gsR : GSound Try.prog (upG (lookG (tblR pw prV fInv rtV sqV))) := GSound_of_tbl ⟨⟨ctRoot, by kernel_rfl⟩, ⟨ctSq, by kernel_rfl⟩, okY⟩
theorem runLaw (f : Nat → Nat → Nat) (g : Nat → Nat × Bool) (v : Nat → Nat) (h : Nat → Nat × Bool) (s : Nat → Bool) (a : N4) : fnS Try.prog (lookG (tblR f g v h s)) (orcA [(4, [(3, true), (7, true), (13, true)])]) [] 10 5 [.val true [.n4 a]] =
    some (sc (IV.bool true), [val a % Pp < Pp, (h (val a % Pp)).fst < p256, ((ofN (g (val a % Pp)).fst).eq (ofN (h (val a % Pp)).fst) && true) = true, ((g (val a % Pp)).snd == (h (val a % Pp)).snd) = true, val a % Pp < Pp, ((g (val a % Pp)).snd == s (val a % Pp)) = true]) := by kernel_rfl
theorem law (a : N4) (w : World) (vals : List Value) (hv : F2 (DV w) [.val true [.n4 a]] vals) :
    Calls Try.prog 5 vals.toArray w fun e w' => ∃ v, e = .returned v ∧ Below w.heap.size w w' ∧ ResOk w.heap.size w' (sc (.bool true)) v := by
  have hx := Nat.mod_lt (val a) Pp_pos
  have r0 := runLaw pw prV fInv rtV sqV a
  rw [rtV_eq hx, prV_sqV hx] at r0
  have hl : (prV (val a % Pp)).1 < p256 := by
    cases h : (prV (val a % Pp)).2 with
    | true => exact lt256 (prV_sq h).2.1
    | false =>
      have : (prV (val a % Pp)).1 = 0 := prV_no h
      rw [this]; decide
  exact calls_of_fnS gsR fol r0 ⟨hx, hl, eqN rfl, beq_self_eq_true _, hx, beq_self_eq_true _, trivial⟩ w vals hv
theorem fieldRootsLifted (os : Os) (started : os.Started) (H : Type) (enc : TypeId × Value → H) :
    ReturnsInHanded {} Try.checked os 5 .any (Rows.fieldRootsSpec.pre6 enc Try.prog Try.f5 Rows.fieldRootsRow.domain false) (Rows.fieldRootsSpec.post enc Try.prog Try.f5 false true false false) := by
  refine returnsInHanded_of_change_sized (C := Try.checked) own started (by kernel_rfl) Try.func5
    (ChangeSpec.witness6 (enc := enc) (C := Try.checked) false ⟨#[], #[.agg (Array.replicate 4 (.int .u64 0))], []⟩ 8 (by kernel_rfl) (by kernel_rfl) (by kernel_rfl) (by kernel_rfl)) ?_
  intro W base args ds gs before hval0 hW hcnd hsz _
  have hval : ∀ (j : Nat) t v, Try.f5.params[j]? = some t → args[j]? = some v → Value.okWide Try.prog W .any base t v := hval0
  have hW' := hW
  obtain ⟨p, q, hA0, hV, rfl, hfz, hnd⟩ := hW
  have hA : DataW.TrodAll enc Try.prog W 0 (fun _ => true) true Try.f5.params.toList args.toList ds p := hA0
  rw [Try.params5] at hA hval
  obtain ⟨v0, d0, rfl, rfl, h0⟩ := trodAll_one hA
  obtain ⟨rfl, rfl⟩ := trodVars_none hV
  obtain ⟨a0, e0⟩ := openNum (hval 0 _ v0 rfl rfl) h0
  refine (law a0 W [v0] ⟨e0, trivial⟩).mono fun e W' ⟨v, he, hbelow, hres⟩ => ⟨v, he, ?_⟩
  rw [resBool hres]
  exact law_post laidOut (by rw [Try.params5]; exact of_decide_eq_true (by kernel_rfl)) rfl rfl (tb := 4) (by kernel_rfl) hW' rfl hbelow

theorem fieldRoots_holds : Rows.FieldRootsSaid :=
  OpenClaim.holds_of_wide 5 Try.f5 rfl rfl rfl rfl rfl rfl rfl ⟨rfl, rfl, rfl, rfl, rfl⟩ rfl rfl rfl rfl rfl (by kernel_rfl) Try.func5 (by kernel_rfl)
    (of_decide_eq_true (by kernel_rfl)) (by unfold Func.isWrapper; first | (rw [if_pos (by decide +kernel)]; kernel_rfl) | (rw [if_neg (by decide +kernel)]; exact ⟨rfl, rfl⟩))
    (fun os started H enc _ => fieldRootsLifted os started H enc)

end Go.Proofs.Ytfcjahlcllmcpaa
