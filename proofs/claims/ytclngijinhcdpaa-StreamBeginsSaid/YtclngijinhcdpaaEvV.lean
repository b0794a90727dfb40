/- Contracts that take a nil slice for no bytes. Own work; no statement of the seat is proved here. -/
import Derived.Test.YtclngijinhcdpaaEvS
namespace Go.Ev
open Go.RowKit
/-- An answer's parts. -/
def resOf {α : Type} : Option (Ex × α × List Prop) → Option (Ex × α)
  | some (e, s, _) => some (e, s)
  | none => none
def csOf {α : Type} : Option (Ex × α × List Prop) → List Prop
  | some (_, _, cs) => cs
  | none => [False]
theorem parts_eq {α : Type} {r : Option (Ex × α × List Prop)} {e : Ex} {s : α} {cs : List Prop} (h1 : resOf r = some (e, s)) (h2 : csOf r = cs) : r = some (e, s, cs) := by
  cases r with
  | none => simp [resOf] at h1
  | some q => obtain ⟨a, b, c⟩ := q; simp [resOf] at h1; simp [csOf] at h2; rw [h1.1, h1.2, h2]
def ansOf : Option (AV × List Prop) → Option AV
  | some (a, _) => some a
  | none => none
def acsOf : Option (AV × List Prop) → List Prop
  | some (_, cs) => cs
  | none => [False]
theorem ans_eq {r : Option (AV × List Prop)} {a : AV} {cs : List Prop} (h1 : ansOf r = some a) (h2 : acsOf r = cs) : r = some (a, cs) := by
  cases r with
  | none => simp [ansOf] at h1
  | some q => obtain ⟨a, c⟩ := q; simp [ansOf] at h1; simp [acsOf] at h2; rw [h1, h2]
def nil8I : IV → IV
  | .nil => .d8 []
  | i => i
def nil8A : AV → AV
  | .val false [i] => .val false [nil8I i]
  | x => x
theorem DCells_nil8 {w : World} {i : IV} {vs : List Value} (h : DCells w i vs) : DCells w (nil8I i) vs := by
  cases i <;> first | exact h | skip
  simp only [DCells, PCells, Option.some.injEq] at h
  subst h
  exact ⟨_, rfl, .inr ⟨rfl, rfl, none, rfl⟩⟩
theorem DV_nil8 {w : World} {x : AV} {v : Value} (h : DV w x v) : DV w (nil8A x) v := by
  unfold nil8A
  split
  · obtain ⟨vs, ⟨a, b, e, h1, h2⟩, h3⟩ := h
    exact ⟨vs, ⟨a, b, e, DCells_nil8 h1, h2⟩, h3⟩
  · exact h
theorem F2_DV_nil8 {w : World} : ∀ {l : List AV} {vs : List Value}, F2 (DV w) l vs → F2 (DV w) (l.map nil8A) vs
  | [], [], h => h
  | _ :: _, _ :: _, ⟨a, b⟩ => ⟨DV_nil8 a, F2_DV_nil8 b⟩
/-- The same contract, of which a nil slice is no bytes. -/
def nil8 (spec : List AV → Option (AV × List Prop)) (ds : List AV) : Option (AV × List Prop) := spec (ds.map nil8A)
theorem FnS_nil8 {P : Program} {f : FuncId} {spec : List AV → Option (AV × List Prop)} (h : FnS P f spec) : FnS P f (nil8 spec) :=
  FnS_intro fun _ _ _ hd hc w vals hv => FnS_use h hd hc w vals (F2_DV_nil8 hv)
end Go.Ev
