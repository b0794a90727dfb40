/- Texts put together: LaK. Own work. -/
import Derived.Test.YtpeplakhcgaajaaMgas
import Derived.Test.YtpeplakhcgaajaaRows
/- What the rows of this layer share. Own work; no statement of the seat is proved here. -/
namespace Go.Proofs.Ytpeplakhcgaajaa
open Go.Ev Go.Sp Go.ChangeShapes Go.WideShapes Go.RowKit
set_option maxRecDepth 100000
theorem own : ownKnob Try.prog.godebug = none := by kernel_rfl
theorem laidOut : laidOutB Try.prog = true := by kernel_rfl
theorem resBool {B : Nat} {w : World} {v : Value} {b : Bool} (h : ResOk B w (sc (.bool b)) v) : v = .bool b := by
  obtain ⟨ρ, _, _, h1, _⟩ := h 0
  have := VRepr_sc.1 h1
  simp [ICells, PCells] at this
  exact this.symm
def spAwakeL : List AV → Option (AV × List Prop)
  | [] => some (sc (.bool true), [])
  | _ => none
theorem ctAwakeL : CtSOk Try.prog 12 (.fn spAwakeL) := FnS_of_fnS gsLk fol fun ds r cs h hc => by
  unfold spAwakeL at h
  split at h
  case h_2 => simp at h
  simp only [Option.some.injEq, Prod.mk.injEq] at h
  obtain ⟨rfl, rfl⟩ := h
  have r0 := runAwakeL multV sharedV
  rw [show List.replicate (Int.toNat (32 : Int)) (BitVec.ofInt 8 (0 : Int)) = zero32 by kernel_rfl, shared_zero] at r0
  refine use_run r0 rfl ?_
  clear r0
  simp only [AllP]
  and_intros <;> first | exact True.intro | with_reducible rfl | omega | rfl
def tblXL (f g : BL → BL → BL × Int) : List (FuncId × CtS) :=
  (12, .fn spAwakeL) :: tblLk f g
theorem gsXL : GSound Try.prog (upG (lookG (tblXL multV sharedV))) := GSound_of_tbl ⟨⟨ctAwakeL, by kernel_rfl⟩, okLk⟩
theorem multV_or (k u : BL) : (multV k u).1.length ≤ 32 := by
  unfold multV
  split
  · exact Nat.le_of_eq (bl_length _ _)
  · simp
end Go.Proofs.Ytpeplakhcgaajaa
