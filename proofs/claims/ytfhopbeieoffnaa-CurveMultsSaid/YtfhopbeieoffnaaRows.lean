/-
  No cell of these rows narrows 'for every input' (looked for: loops, veiled, ifaces, maps, wideKeys, modest, calm, conditions, laid).
  DERIVED. THE GIVEN ROWS OF THIS SEAT. 9 by the template 'for every input the law returns true; each argument reads behind the call as it read before'; 0 by the template 'total and deterministic' (their statements: YtfhopbeieoffnaaTotals.lean).
  GIVEN WITH THE SEED: the statements are not yours to turn. If you find one false, say at which input.
  Laid BY PROGRAM, IN A SANDBOX (cutbox-rows.mjs): the forced cells as the released guide's own fill.sh prints them over the translation 562bbd04bf12c460… (all of the seat's roots in one cut). By AI agents, Wed Nov 11 2026. No macro, syntax, notation, axiom, sorry.
-/
import Derived.Test.YtfhopbeieoffnaaChecked
import GoSem.Claim
import GoSem.ClaimJoined
import GoSem.ClaimMapViews
import Derived.JoinedTies
import Derived.KernelRfl
namespace Go.Proofs.Ytfhopbeieoffnaa
/- THE CELL 'sum', in the pinned program and in every row, IS THE sha256 OF THE DUMP (.gsa) THAT YtfhopbeieoffnaaProg.lean LOADS. Nothing in Lean hashes anything: it is a label: what it is worth is what the hold of that sum in a sandbox is worth. -/
noncomputable def Try.pinned : Pinned := { name := "ytfhopbeieoffnaa", sum := "562bbd04bf12c4608f36a203810596367c8049cb8f07e76f63b1f6ec633aa590", checked := Try.checked }
namespace Rows
def none {H : Type} : Left H := { results := [], args := [] }

/-- 'sealwaxlaw08.CurveIs': WHATEVER THE INPUT: true; the input reads as it did. -/
def curveIsSpec : ChangeSpec := { name := "curveIs", fn := fun _ => fun
  | [d] => { results := [.lit (.bool true)], args := [d] }
  | _ => none }
def curveIsRow : OpenClaim := { program := "ytfhopbeieoffnaa", sum := "562bbd04bf12c4608f36a203810596367c8049cb8f07e76f63b1f6ec633aa590", func := "sealwax/sealwaxlaw08.CurveIs", spec := "curveIs", unfollowed := true, recurses := true, apart := false }
def CurveIsSaid : Prop := curveIsRow.holds Try.pinned (OpenSpec.ofChange curveIsSpec)

/-- ITS FALSE NEIGHBOUR: 'it returns false'. Refute it at one input. -/
def curveIsWrong : ChangeSpec := { name := "curveIs", fn := fun _ => fun
  | [d] => { results := [.lit (.bool false)], args := [d] }
  | _ => none }
def CurveIsWrongFalsely : Prop := curveIsRow.holds Try.pinned (OpenSpec.ofChange curveIsWrong)

/-- 'sealwaxlaw08.CurveSmalls': WHATEVER THE INPUT: true; the input reads as it did. -/
def curveSmallsSpec : ChangeSpec := { name := "curveSmalls", fn := fun _ => fun
  | [d] => { results := [.lit (.bool true)], args := [d] }
  | _ => none }
def curveSmallsRow : OpenClaim := { program := "ytfhopbeieoffnaa", sum := "562bbd04bf12c4608f36a203810596367c8049cb8f07e76f63b1f6ec633aa590", func := "sealwax/sealwaxlaw08.CurveSmalls", spec := "curveSmalls", unfollowed := true, recurses := true, apart := false }
def CurveSmallsSaid : Prop := curveSmallsRow.holds Try.pinned (OpenSpec.ofChange curveSmallsSpec)

/-- ITS FALSE NEIGHBOUR: 'it returns false'. Refute it at one input. -/
def curveSmallsWrong : ChangeSpec := { name := "curveSmalls", fn := fun _ => fun
  | [d] => { results := [.lit (.bool false)], args := [d] }
  | _ => none }
def CurveSmallsWrongFalsely : Prop := curveSmallsRow.holds Try.pinned (OpenSpec.ofChange curveSmallsWrong)

/-- 'sealwaxlaw08.CurveMults': WHATEVER THE INPUT: true; the input reads as it did. -/
def curveMultsSpec : ChangeSpec := { name := "curveMults", fn := fun _ => fun
  | [d1, d2] => { results := [.lit (.bool true)], args := [d1, d2] }
  | _ => none }
def curveMultsRow : OpenClaim := { program := "ytfhopbeieoffnaa", sum := "562bbd04bf12c4608f36a203810596367c8049cb8f07e76f63b1f6ec633aa590", func := "sealwax/sealwaxlaw08.CurveMults", spec := "curveMults", unfollowed := true, recurses := true, apart := false }
def CurveMultsSaid : Prop := curveMultsRow.holds Try.pinned (OpenSpec.ofChange curveMultsSpec)

/-- ITS FALSE NEIGHBOUR: 'it returns false'. Refute it at one input. -/
def curveMultsWrong : ChangeSpec := { name := "curveMults", fn := fun _ => fun
  | [d1, d2] => { results := [.lit (.bool false)], args := [d1, d2] }
  | _ => none }
def CurveMultsWrongFalsely : Prop := curveMultsRow.holds Try.pinned (OpenSpec.ofChange curveMultsWrong)

/-- 'sealwaxlaw08.CurveBoths': WHATEVER THE INPUT: true; the input reads as it did. -/
def curveBothsSpec : ChangeSpec := { name := "curveBoths", fn := fun _ => fun
  | [d] => { results := [.lit (.bool true)], args := [d] }
  | _ => none }
def curveBothsRow : OpenClaim := { program := "ytfhopbeieoffnaa", sum := "562bbd04bf12c4608f36a203810596367c8049cb8f07e76f63b1f6ec633aa590", func := "sealwax/sealwaxlaw08.CurveBoths", spec := "curveBoths", unfollowed := true, recurses := true, apart := false }
def CurveBothsSaid : Prop := curveBothsRow.holds Try.pinned (OpenSpec.ofChange curveBothsSpec)

/-- ITS FALSE NEIGHBOUR: 'it returns false'. Refute it at one input. -/
def curveBothsWrong : ChangeSpec := { name := "curveBoths", fn := fun _ => fun
  | [d] => { results := [.lit (.bool false)], args := [d] }
  | _ => none }
def CurveBothsWrongFalsely : Prop := curveBothsRow.holds Try.pinned (OpenSpec.ofChange curveBothsWrong)

/-- 'sealwaxlaw08.CurveOrder': WHATEVER THE INPUT: true; the input reads as it did. -/
def curveOrderSpec : ChangeSpec := { name := "curveOrder", fn := fun _ => fun
  | [d1, d2, d3] => { results := [.lit (.bool true)], args := [d1, d2, d3] }
  | _ => none }
def curveOrderRow : OpenClaim := { program := "ytfhopbeieoffnaa", sum := "562bbd04bf12c4608f36a203810596367c8049cb8f07e76f63b1f6ec633aa590", func := "sealwax/sealwaxlaw08.CurveOrder", spec := "curveOrder", unfollowed := true, recurses := true, apart := false }
def CurveOrderSaid : Prop := curveOrderRow.holds Try.pinned (OpenSpec.ofChange curveOrderSpec)

/-- ITS FALSE NEIGHBOUR: 'it returns false'. Refute it at one input. -/
def curveOrderWrong : ChangeSpec := { name := "curveOrder", fn := fun _ => fun
  | [d1, d2, d3] => { results := [.lit (.bool false)], args := [d1, d2, d3] }
  | _ => none }
def CurveOrderWrongFalsely : Prop := curveOrderRow.holds Try.pinned (OpenSpec.ofChange curveOrderWrong)

/-- 'sealwaxlaw08.CurveMultiples': WHATEVER THE INPUT: true; the input reads as it did. -/
def curveMultiplesSpec : ChangeSpec := { name := "curveMultiples", fn := fun _ => fun
  | [d1, d2, d3] => { results := [.lit (.bool true)], args := [d1, d2, d3] }
  | _ => none }
def curveMultiplesRow : OpenClaim := { program := "ytfhopbeieoffnaa", sum := "562bbd04bf12c4608f36a203810596367c8049cb8f07e76f63b1f6ec633aa590", func := "sealwax/sealwaxlaw08.CurveMultiples", spec := "curveMultiples", unfollowed := true, recurses := true, apart := false }
def CurveMultiplesSaid : Prop := curveMultiplesRow.holds Try.pinned (OpenSpec.ofChange curveMultiplesSpec)

/-- ITS FALSE NEIGHBOUR: 'it returns false'. Refute it at one input. -/
def curveMultiplesWrong : ChangeSpec := { name := "curveMultiples", fn := fun _ => fun
  | [d1, d2, d3] => { results := [.lit (.bool false)], args := [d1, d2, d3] }
  | _ => none }
def CurveMultiplesWrongFalsely : Prop := curveMultiplesRow.holds Try.pinned (OpenSpec.ofChange curveMultiplesWrong)

/-- 'sealwaxlaw08.CurveAdds': WHATEVER THE INPUT: true; the input reads as it did. -/
def curveAddsSpec : ChangeSpec := { name := "curveAdds", fn := fun _ => fun
  | [d1, d2] => { results := [.lit (.bool true)], args := [d1, d2] }
  | _ => none }
def curveAddsRow : OpenClaim := { program := "ytfhopbeieoffnaa", sum := "562bbd04bf12c4608f36a203810596367c8049cb8f07e76f63b1f6ec633aa590", func := "sealwax/sealwaxlaw08.CurveAdds", spec := "curveAdds", unfollowed := true, recurses := true, apart := false }
def CurveAddsSaid : Prop := curveAddsRow.holds Try.pinned (OpenSpec.ofChange curveAddsSpec)

/-- ITS FALSE NEIGHBOUR: 'it returns false'. Refute it at one input. -/
def curveAddsWrong : ChangeSpec := { name := "curveAdds", fn := fun _ => fun
  | [d1, d2] => { results := [.lit (.bool false)], args := [d1, d2] }
  | _ => none }
def CurveAddsWrongFalsely : Prop := curveAddsRow.holds Try.pinned (OpenSpec.ofChange curveAddsWrong)

/-- 'sealwaxlaw08.CurveBytes': WHATEVER THE INPUT: true; the input reads as it did. -/
def curveBytesSpec : ChangeSpec := { name := "curveBytes", fn := fun _ => fun
  | [d1, d2] => { results := [.lit (.bool true)], args := [d1, d2] }
  | _ => none }
def curveBytesRow : OpenClaim := { program := "ytfhopbeieoffnaa", sum := "562bbd04bf12c4608f36a203810596367c8049cb8f07e76f63b1f6ec633aa590", func := "sealwax/sealwaxlaw08.CurveBytes", spec := "curveBytes", unfollowed := true, recurses := true, apart := false }
def CurveBytesSaid : Prop := curveBytesRow.holds Try.pinned (OpenSpec.ofChange curveBytesSpec)

/-- ITS FALSE NEIGHBOUR: 'it returns false'. Refute it at one input. -/
def curveBytesWrong : ChangeSpec := { name := "curveBytes", fn := fun _ => fun
  | [d1, d2] => { results := [.lit (.bool false)], args := [d1, d2] }
  | _ => none }
def CurveBytesWrongFalsely : Prop := curveBytesRow.holds Try.pinned (OpenSpec.ofChange curveBytesWrong)

/-- 'sealwaxlaw08.CurveForm': WHATEVER THE INPUT: true; the input reads as it did. -/
def curveFormSpec : ChangeSpec := { name := "curveForm", fn := fun _ => fun
  | [d1, d2] => { results := [.lit (.bool true)], args := [d1, d2] }
  | _ => none }
def curveFormRow : OpenClaim := { program := "ytfhopbeieoffnaa", sum := "562bbd04bf12c4608f36a203810596367c8049cb8f07e76f63b1f6ec633aa590", func := "sealwax/sealwaxlaw08.CurveForm", spec := "curveForm", unfollowed := true, recurses := true, apart := false }
def CurveFormSaid : Prop := curveFormRow.holds Try.pinned (OpenSpec.ofChange curveFormSpec)

/-- ITS FALSE NEIGHBOUR: 'it returns false'. Refute it at one input. -/
def curveFormWrong : ChangeSpec := { name := "curveForm", fn := fun _ => fun
  | [d1, d2] => { results := [.lit (.bool false)], args := [d1, d2] }
  | _ => none }
def CurveFormWrongFalsely : Prop := curveFormRow.holds Try.pinned (OpenSpec.ofChange curveFormWrong)

/- THE SECOND FORM. 'bulk': how many values and letters a reading holds, each counted each time it is reached (what is shared counts as often as it is met; a slice's spare places count too). A statement '..UptoSaid' is the law's where the arguments, and the package variables that the reading takes, are together of bulk at most 1048576: NARROWER than '..Said'. Prove '..Said' where nothing that the law and all that it calls make is longer than what came in: it says more and counts as full. Else prove '..UptoSaid'. A law counts once. -/
mutual
def uptoBulk {H : Type} : DataW H → Nat
  | .lit (.string bytes) => bytes.length + 1
  | .lit _ => 1
  | .nil => 1
  | .ptr d => uptoBulk d + 1
  | .slice elems spare => uptoBulkAll elems + uptoBulkAll spare + 1
  | .agg parts => uptoBulkAll parts + 1
  | .iface _ d => uptoBulk d + 1
  | .map entries => uptoBulkEntries entries + 1
  | .held _ => 1
def uptoBulkAll {H : Type} : List (DataW H) → Nat
  | [] => 0
  | d :: r => uptoBulk d + uptoBulkAll r
def uptoBulkEntries {H : Type} : List (Lit × DataW H) → Nat
  | [] => 0
  | x :: r => uptoBulkEntry x + uptoBulkEntries r
def uptoBulkEntry {H : Type} : Lit × DataW H → Nat
  | (.string bytes, d) => bytes.length + uptoBulk d + 1
  | (_, d) => uptoBulk d + 1
 end
def uptoSmall : (H : Type) → List (DataW H) → Bool := fun _ ds => decide (uptoBulkAll ds ≤ 1048576)
def OpenSpec.upto (s : _root_.Go.ChangeSpec) : _root_.Go.OpenSpec := { _root_.Go.OpenSpec.ofChange s with cond := some uptoSmall }

/-- 'sealwaxlaw08.CurveIs', WHERE WHAT IT READS IS OF BULK AT MOST 1048576: true; the input reads as it did. -/
def curveIsUptoRow : OpenClaim := { program := "ytfhopbeieoffnaa", sum := "562bbd04bf12c4608f36a203810596367c8049cb8f07e76f63b1f6ec633aa590", func := "sealwax/sealwaxlaw08.CurveIs", spec := "curveIs", unfollowed := true, recurses := true, apart := false, narrowed := true }
def CurveIsUptoSaid : Prop := curveIsUptoRow.holds Try.pinned (OpenSpec.upto curveIsSpec)

/-- 'sealwaxlaw08.CurveSmalls', WHERE WHAT IT READS IS OF BULK AT MOST 1048576: true; the input reads as it did. -/
def curveSmallsUptoRow : OpenClaim := { program := "ytfhopbeieoffnaa", sum := "562bbd04bf12c4608f36a203810596367c8049cb8f07e76f63b1f6ec633aa590", func := "sealwax/sealwaxlaw08.CurveSmalls", spec := "curveSmalls", unfollowed := true, recurses := true, apart := false, narrowed := true }
def CurveSmallsUptoSaid : Prop := curveSmallsUptoRow.holds Try.pinned (OpenSpec.upto curveSmallsSpec)

/-- 'sealwaxlaw08.CurveMults', WHERE WHAT IT READS IS OF BULK AT MOST 1048576: true; the input reads as it did. -/
def curveMultsUptoRow : OpenClaim := { program := "ytfhopbeieoffnaa", sum := "562bbd04bf12c4608f36a203810596367c8049cb8f07e76f63b1f6ec633aa590", func := "sealwax/sealwaxlaw08.CurveMults", spec := "curveMults", unfollowed := true, recurses := true, apart := false, narrowed := true }
def CurveMultsUptoSaid : Prop := curveMultsUptoRow.holds Try.pinned (OpenSpec.upto curveMultsSpec)

/-- 'sealwaxlaw08.CurveBoths', WHERE WHAT IT READS IS OF BULK AT MOST 1048576: true; the input reads as it did. -/
def curveBothsUptoRow : OpenClaim := { program := "ytfhopbeieoffnaa", sum := "562bbd04bf12c4608f36a203810596367c8049cb8f07e76f63b1f6ec633aa590", func := "sealwax/sealwaxlaw08.CurveBoths", spec := "curveBoths", unfollowed := true, recurses := true, apart := false, narrowed := true }
def CurveBothsUptoSaid : Prop := curveBothsUptoRow.holds Try.pinned (OpenSpec.upto curveBothsSpec)

/-- 'sealwaxlaw08.CurveOrder', WHERE WHAT IT READS IS OF BULK AT MOST 1048576: true; the input reads as it did. -/
def curveOrderUptoRow : OpenClaim := { program := "ytfhopbeieoffnaa", sum := "562bbd04bf12c4608f36a203810596367c8049cb8f07e76f63b1f6ec633aa590", func := "sealwax/sealwaxlaw08.CurveOrder", spec := "curveOrder", unfollowed := true, recurses := true, apart := false, narrowed := true }
def CurveOrderUptoSaid : Prop := curveOrderUptoRow.holds Try.pinned (OpenSpec.upto curveOrderSpec)

/-- 'sealwaxlaw08.CurveMultiples', WHERE WHAT IT READS IS OF BULK AT MOST 1048576: true; the input reads as it did. -/
def curveMultiplesUptoRow : OpenClaim := { program := "ytfhopbeieoffnaa", sum := "562bbd04bf12c4608f36a203810596367c8049cb8f07e76f63b1f6ec633aa590", func := "sealwax/sealwaxlaw08.CurveMultiples", spec := "curveMultiples", unfollowed := true, recurses := true, apart := false, narrowed := true }
def CurveMultiplesUptoSaid : Prop := curveMultiplesUptoRow.holds Try.pinned (OpenSpec.upto curveMultiplesSpec)

/-- 'sealwaxlaw08.CurveAdds', WHERE WHAT IT READS IS OF BULK AT MOST 1048576: true; the input reads as it did. -/
def curveAddsUptoRow : OpenClaim := { program := "ytfhopbeieoffnaa", sum := "562bbd04bf12c4608f36a203810596367c8049cb8f07e76f63b1f6ec633aa590", func := "sealwax/sealwaxlaw08.CurveAdds", spec := "curveAdds", unfollowed := true, recurses := true, apart := false, narrowed := true }
def CurveAddsUptoSaid : Prop := curveAddsUptoRow.holds Try.pinned (OpenSpec.upto curveAddsSpec)

/-- 'sealwaxlaw08.CurveBytes', WHERE WHAT IT READS IS OF BULK AT MOST 1048576: true; the input reads as it did. -/
def curveBytesUptoRow : OpenClaim := { program := "ytfhopbeieoffnaa", sum := "562bbd04bf12c4608f36a203810596367c8049cb8f07e76f63b1f6ec633aa590", func := "sealwax/sealwaxlaw08.CurveBytes", spec := "curveBytes", unfollowed := true, recurses := true, apart := false, narrowed := true }
def CurveBytesUptoSaid : Prop := curveBytesUptoRow.holds Try.pinned (OpenSpec.upto curveBytesSpec)

/-- 'sealwaxlaw08.CurveForm', WHERE WHAT IT READS IS OF BULK AT MOST 1048576: true; the input reads as it did. -/
def curveFormUptoRow : OpenClaim := { program := "ytfhopbeieoffnaa", sum := "562bbd04bf12c4608f36a203810596367c8049cb8f07e76f63b1f6ec633aa590", func := "sealwax/sealwaxlaw08.CurveForm", spec := "curveForm", unfollowed := true, recurses := true, apart := false, narrowed := true }
def CurveFormUptoSaid : Prop := curveFormUptoRow.holds Try.pinned (OpenSpec.upto curveFormSpec)

end Rows
end Go.Proofs.Ytfhopbeieoffnaa
