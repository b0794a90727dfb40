/- Contracts of the statements' own functions, layer 11. Own work. -/
import Derived.Test.YtbhnegdekeojkaaEvV
import Derived.Test.YtbhnegdekeojkaaPoE
namespace Go.Proofs.Ytbhnegdekeojkaa
open Go.Ev Go.Sp Go.RowKit
set_option maxRecDepth 100000
theorem runOwn (b : List (BitVec 8)) : fnS Try.prog (lookG []) (orcA []) [] 10 7 [sc (.d8 b)] =
    some (sc (IV.d8 (cutL b 0 (0 + b.length) b.length)), [b.length = b.length, 0 = 0, (0 + b.length) * 1 ≤ 140737488355328 ∧ 0 + b.length ≤ 9223372036854775807, 0 + (0 + b.length) ≤ b.length]) := by kernel_rfl
def spOwn : List AV → Option (AV × List Prop)
  | [.val false [.d8 b]] => some (sc (.d8 b), [b.length ≤ 140737488351232])
  | _ => none
theorem ctOwn : CtSOk Try.prog 7 (.fn spOwn) := FnS_of_fnS gs0 fol fun ds r cs h hc => by
  unfold spOwn at h
  split at h
  case h_2 => simp at h
  rename_i b
  simp only [Option.some.injEq, Prod.mk.injEq] at h
  obtain ⟨rfl, rfl⟩ := h
  have hb := hc.1
  refine use_run (runOwn b) ?_ ?_
  · rw [cutAll _ _ (by omega)]
  · simp only [AllP]
    and_intros <;> first | exact True.intro | rfl | omega
def tblK : List (FuncId × CtS) := [(11, .fn (nil8 spTag))]
theorem okK : TblOk Try.prog tblK := ⟨⟨FnS_nil8 ctPTag, by kernel_rfl⟩, trivial⟩
theorem gsK : GSound Try.prog (upG (lookG tblK)) := GSound_of_tbl okK
theorem runAwake  : fnS Try.prog (lookG tblK) (orcA []) [] 10 10 [] =
    some (sc (IV.bool true), [(0 : Int) ≤ (32 : Int), (0 : Int) ≤ (32 : Int), 32 = 32 ∧ 32 ≤ 281474976710656 ∧ 32 ≤ 9223372036854775807, (0 : Int) ≤ (16 : Int), 16 < 32, 16 < 32, 32 = 32, 0 ≤ 4000, (0 : Int) ≤ (0 : Int), 0 < 16, 0 < 16]) := by kernel_rfl
def spAwake : List AV → Option (AV × List Prop)
  | [] => some (sc (.bool true), [])
  | _ => none
theorem ctAwake : CtSOk Try.prog 10 (.fn spAwake) := FnS_of_fnS gsK fol fun ds r cs h hc => by
  unfold spAwake at h
  split at h
  case h_2 => simp at h
  simp only [Option.some.injEq, Prod.mk.injEq] at h
  obtain ⟨rfl, rfl⟩ := h
  refine use_run runAwake rfl ?_
  simp only [AllP]
  and_intros <;> first | exact True.intro | rfl | omega
def tblX : List (FuncId × CtS) := [(7, .fn (nil8 spOwn)), (10, .fn spAwake), (8, .fn spCut), (9, .fn spCut), (11, .fn (nil8 spTag)), (12, .fn (nil8 spTag))]
theorem okX : TblOk Try.prog tblX := ⟨⟨FnS_nil8 ctOwn, by kernel_rfl⟩, ⟨ctAwake, by kernel_rfl⟩, ⟨ctCut, by kernel_rfl⟩, ⟨ctRCut, by kernel_rfl⟩, ⟨FnS_nil8 ctPTag, by kernel_rfl⟩, ⟨FnS_nil8 ctRTag, by kernel_rfl⟩, trivial⟩
theorem gsX : GSound Try.prog (upG (lookG tblX)) := GSound_of_tbl okX
end Go.Proofs.Ytbhnegdekeojkaa
