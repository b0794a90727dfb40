/- What the rows of this layer share. Own work; no statement of the seat is proved here. -/
import Derived.Test.YtokbhlapbollbaaEvN
import Derived.Test.YtokbhlapbollbaaCtB
import Derived.Test.YtokbhlapbollbaaRows
namespace Go.Proofs.Ytokbhlapbollbaa
open Go.Ev Go.Sp Go.ChangeShapes Go.WideShapes Go.RowKit
set_option maxRecDepth 100000

theorem own : ownKnob Try.prog.godebug = none := by kernel_rfl
theorem laidOut : laidOutB Try.prog = true := by kernel_rfl

theorem resBool {B : Nat} {w : World} {v : Value} {b : Bool} (h : ResOk B w (sc (.bool b)) v) : v = .bool b := by
  obtain ⟨ρ, _, _, h1, _⟩ := h 0
  have := VRepr_sc.1 h1
  simp [ICells, PCells] at this
  exact this.symm

theorem openNum {H : Type} {enc : TypeId × Value → H} {W : World} {v : Value} {d : DataW H} {ps : List MemPlace} {base : Nat} (hval : Value.okWide Try.prog W .any base 24 v) (hd : DataW.Trod enc Try.prog W 0 (fun _ => true) true 24 v d ps) :
    ∃ a : N4, DV W (.val true [.n4 a]) v := open_num (e := 22) (by kernel_rfl) (by kernel_rfl) (by kernel_rfl) (by kernel_rfl) hval hd


theorem openWide {H : Type} {enc : TypeId × Value → H} {W : World} {v : Value} {d : DataW H} {ps : List MemPlace} {base : Nat} (hval : Value.okWide Try.prog W .any base 29 v) (hd : DataW.Trod enc Try.prog W 0 (fun _ => true) true 29 v d ps) :
    ∃ a b : N4, DV W (.val true [.n4 a, .n4 b]) v := by
  obtain ⟨l, hl, hv⟩ := open_u64s (n := 8) (e := 22) (by kernel_rfl) (by kernel_rfl) (by kernel_rfl) (by kernel_rfl) hval hd
  match l, hl with
  | [a0, a1, a2, a3, a4, a5, a6, a7], _ =>
    refine ⟨⟨a0, a1, a2, a3⟩, ⟨a4, a5, a6, a7⟩, DV_same (fun vs h => ?_) hv⟩
    simp only [List.map_cons, List.map_nil, DLs, DCells, PCells, Option.some.injEq] at h
    obtain ⟨_, _, rfl, rfl, _, _, rfl, rfl, _, _, rfl, rfl, _, _, rfl, rfl, _, _, rfl, rfl, _, _, rfl, rfl, _, _, rfl, rfl, _, _, rfl, rfl, rfl⟩ := h
    exact ⟨[wordVal a0, wordVal a1, wordVal a2, wordVal a3], [wordVal a4, wordVal a5, wordVal a6, wordVal a7], rfl, rfl, [wordVal a4, wordVal a5, wordVal a6, wordVal a7], [], rfl, rfl, rfl⟩

/-- Double numbers. -/
def e4 (a b : N4) : Bool := N4.eq a b
def eq8 (x y : N4 × N4) : Bool := e4 x.1 y.1 && (e4 x.2 y.2 && true)
theorem eq8_same {x y : N4 × N4} (h : x = y) : eq8 x y = true := by
  subst h
  simp [eq8, e4, N4.eq]
end Go.Proofs.Ytokbhlapbollbaa
