/- Contracts that take a nil slice for no bytes. Own work; no statement of the seat is proved here. -/
import Derived.Test.YtbhnegdekeojkaaEvS
namespace Go.Ev
open Go.RowKit
def nil8I : IV → IV
  | .nil => .d8 []
  | i => i
def nil8A : AV → AV
  | .val false [i] => .val false [nil8I i]
  | x => x
theorem DCells_nil8 {w : World} {i : IV} {vs : List Value} (h : DCells w i vs) : DCells w (nil8I i) vs := by
  cases i <;> first | exact h | skip
  simp only [DCells, PCells, Option.some.injEq] at h
  subst h
  exact ⟨_, rfl, .inr ⟨rfl, rfl, none, rfl⟩⟩
theorem DV_nil8 {w : World} {x : AV} {v : Value} (h : DV w x v) : DV w (nil8A x) v := by
  unfold nil8A
  split
  · obtain ⟨vs, ⟨a, b, e, h1, h2⟩, h3⟩ := h
    exact ⟨vs, ⟨a, b, e, DCells_nil8 h1, h2⟩, h3⟩
  · exact h
theorem F2_DV_nil8 {w : World} : ∀ {l : List AV} {vs : List Value}, F2 (DV w) l vs → F2 (DV w) (l.map nil8A) vs
  | [], [], h => h
  | _ :: _, _ :: _, ⟨a, b⟩ => ⟨DV_nil8 a, F2_DV_nil8 b⟩
/-- The same contract, of which a nil slice is no bytes. -/
def nil8 (spec : List AV → Option (AV × List Prop)) (ds : List AV) : Option (AV × List Prop) := spec (ds.map nil8A)
theorem FnS_nil8 {P : Program} {f : FuncId} {spec : List AV → Option (AV × List Prop)} (h : FnS P f spec) : FnS P f (nil8 spec) :=
  FnS_intro fun _ _ _ hd hc w vals hv => FnS_use h hd hc w vals (F2_DV_nil8 hv)
end Go.Ev
