/- Small words for states and answers. Own work; no statement of the seat is proved here. -/
import Derived.Test.YtclngijinhcdpaaEvQ
namespace Go.Ev
open Go.RowKit

def lookA : List (Nat × AV) → Nat → AV
  | [], _ => .any
  | p :: r, i => if p.1 = i then p.2 else lookA r i
def slotsFrom (l : List (Nat × AV)) : Nat → Nat → List AV
  | 0, _ => []
  | n + 1, i => lookA l i :: slotsFrom l n (i + 1)
/-- So many slots, of which these are told. -/
def slotsOf (n : Nat) (l : List (Nat × AV)) : List AV := slotsFrom l n 0

def bitsAt : List (Nat × List (Nat × Bool)) → Nat → List (Nat × Bool)
  | [], _ => []
  | p :: r, i => if p.1 = i then p.2 else bitsAt r i
/-- Regions that are taken as symbols, and bools that are told. -/
def orcOf (syms : List Nat) (bits : List (Nat × List (Nat × Bool))) (n : Nat) : Orc := ⟨keepN syms n, bitsAt bits n, [], none⟩
/-- All regions are taken as symbols. -/
def orcA (bits : List (Nat × List (Nat × Bool))) (n : Nat) : Orc := ⟨true, bitsAt bits n, [], none⟩
def partsAt : List (Nat × List Nat) → Nat → List Nat
  | [], _ => []
  | p :: r, i => if p.1 = i then p.2 else partsAt r i
/-- As orcA; at these places slices are parts of their blocks. -/
def orcP (bits : List (Nat × List (Nat × Bool))) (parts : List (Nat × List Nat)) (n : Nat) : Orc := ⟨true, bitsAt bits n, partsAt parts n, none⟩
def inlAt : List (Nat × Inl) → Nat → Option Inl
  | [], _ => none
  | p :: r, i => if p.1 = i then some p.2 else inlAt r i
/-- As orcP; in these regions a closure is called. -/
def orcI (bits : List (Nat × List (Nat × Bool))) (parts : List (Nat × List Nat)) (inls : List (Nat × Inl)) (n : Nat) : Orc := ⟨true, bitsAt bits n, partsAt parts n, inlAt inls n⟩
def orc0 (_ : Nat) : Orc := ⟨false, [], [], none⟩
def orc1 (_ : Nat) : Orc := ⟨true, [], [], none⟩

theorem use_run {P : Program} {Γ : FuncId → Option CtS} {orc : Nat → Orc} {sums : List Sum} {fuel : Nat} {f : FuncId} {ds : List AV} {r r' : AV} {cs : List Prop} (h : fnS P Γ orc sums fuel f ds = some (r', cs)) (hr : r' = r) (hc : AllP cs) :
    ∃ orc sums fuel cs', fnS P Γ orc sums fuel f ds = some (r, cs') ∧ AllP cs' := ⟨_, _, _, _, hr ▸ h, hc⟩
end Go.Ev
