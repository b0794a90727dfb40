/- What the rows of this layer share. Own work; no statement of the seat is proved here. -/
import Derived.Test.YtbhnegdekeojkaaEvN
import Derived.Test.YtbhnegdekeojkaaPqA
import Derived.Test.YtbhnegdekeojkaaRows
namespace Go.Proofs.Ytbhnegdekeojkaa
open Go.Ev Go.Sp Go.ChangeShapes Go.WideShapes Go.RowKit
set_option maxRecDepth 100000

theorem own : ownKnob Try.prog.godebug = none := by kernel_rfl
theorem laidOut : laidOutB Try.prog = true := by kernel_rfl
theorem resBool {B : Nat} {w : World} {v : Value} {b : Bool} (h : ResOk B w (sc (.bool b)) v) : v = .bool b := by
  obtain ⟨ρ, _, _, h1, _⟩ := h 0
  have := VRepr_sc.1 h1
  simp [ICells, PCells] at this
  exact this.symm
end Go.Proofs.Ytbhnegdekeojkaa
