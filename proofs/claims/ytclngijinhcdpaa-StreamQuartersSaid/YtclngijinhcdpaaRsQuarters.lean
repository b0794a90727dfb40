/- PROVED: sealwaxlaw10.StreamQuarters answers true for every four words, and the argument reads behind the call as it read before. Conditions: none. Own work. -/
import Derived.Test.YtclngijinhcdpaaRsKit
namespace Go.Proofs.Ytclngijinhcdpaa
open Go.Ev Go.Sp Go.ChangeShapes Go.WideShapes Go.RowKit
set_option maxRecDepth 100000
def tblLaw : List (FuncId × CtS) := [(9, .fn spQ), (8, .fn spRQ), (10, .fn spAwake)]
theorem gsLaw : GSound Try.prog (upG (lookG tblLaw)) := GSound_of_tbl ⟨⟨ctQ, by kernel_rfl⟩, ⟨ctRQ, by kernel_rfl⟩, ⟨ctAwake, by kernel_rfl⟩, trivial⟩
theorem runLaw (a b c d : BitVec 32) : fnS Try.prog (lookG tblLaw) (orcOf [] [(2, [(15, true)])]) [] 10 3 [.val true [.v32 4 [a, b, c, d]]] = some (sc (.bool true), [(qL a b c d == qL a b c d && true) = true]) := by kernel_rfl
theorem law (l : List (BitVec 32)) (hl : l.length = 4) (w : World) (vals : List Value) (hv : F2 (DV w) [.val true [.v32 4 l]] vals) :
    Calls Try.prog 3 vals.toArray w fun e w' => ∃ v, e = .returned v ∧ Below w.heap.size w w' ∧ ResOk w.heap.size w' (sc (.bool true)) v := by
  match l, hl with
  | [a, b, c, d], _ => exact calls_of_fnS gsLaw fol (runLaw a b c d) ⟨by simp, trivial⟩ w vals hv
theorem streamQuartersLifted (os : Os) (started : os.Started) (H : Type) (enc : TypeId × Value → H) :
    ReturnsInHanded {} Try.checked os 3 .any (Rows.streamQuartersSpec.pre6 enc Try.prog Try.f3 Rows.streamQuartersRow.domain false) (Rows.streamQuartersSpec.post enc Try.prog Try.f3 false true false false) := by
  refine returnsInHanded_of_change_sized (C := Try.checked) own started (by kernel_rfl) Try.func3
    (ChangeSpec.witness6 (enc := enc) (C := Try.checked) false ⟨#[], #[.agg (Array.replicate 4 (.int .u32 0))], []⟩ 8 (by kernel_rfl) (by kernel_rfl) (by kernel_rfl) (by kernel_rfl)) ?_
  intro W base args ds gs before hval0 hW hcnd hsz _
  have hval : ∀ (j : Nat) t v, Try.f3.params[j]? = some t → args[j]? = some v → Value.okWide Try.prog W .any base t v := hval0
  have hW' := hW
  obtain ⟨p, q, hA0, hV, rfl, hfz, hnd⟩ := hW
  have hA : DataW.TrodAll enc Try.prog W 0 (fun _ => true) true Try.f3.params.toList args.toList ds p := hA0
  rw [Try.params3] at hA hval
  obtain ⟨v0, d0, rfl, rfl, h0⟩ := trodAll_one hA
  obtain ⟨rfl, rfl⟩ := trodVars_none hV
  obtain ⟨a0, l0, e0⟩ := open_u32s (n := 4) (e := 22) (by kernel_rfl) (by kernel_rfl) (by kernel_rfl) (by kernel_rfl) (hval 0 _ v0 rfl rfl) h0
  refine (law a0 l0 W [v0] ⟨e0, trivial⟩).mono fun e W' ⟨v, he, hbelow, hres⟩ => ⟨v, he, ?_⟩
  rw [resBool hres]
  exact law_post laidOut (by rw [Try.params3]; exact of_decide_eq_true (by kernel_rfl)) rfl rfl (tb := 4) (by kernel_rfl) hW' rfl hbelow

theorem streamQuarters_holds : Rows.StreamQuartersSaid :=
  OpenClaim.holds_of_wide 3 Try.f3 rfl rfl rfl rfl rfl rfl rfl ⟨rfl, rfl, rfl, rfl, rfl⟩ rfl rfl rfl rfl rfl (by kernel_rfl) Try.func3 (by kernel_rfl)
    (of_decide_eq_true (by kernel_rfl)) (by unfold Func.isWrapper; first | (rw [if_pos (by decide +kernel)]; kernel_rfl) | (rw [if_neg (by decide +kernel)]; exact ⟨rfl, rfl⟩))
    (fun os started H enc _ => streamQuartersLifted os started H enc)

end Go.Proofs.Ytclngijinhcdpaa
