/-
  No cell of these rows narrows 'for every input' (looked for: loops, veiled, ifaces, maps, wideKeys, modest, calm, conditions, laid).
  DERIVED. THE GIVEN ROWS OF THIS SEAT. 10 by the template 'for every input the law returns true; each argument reads behind the call as it read before'; 0 by the template 'total and deterministic' (their statements: YtfcjahlcllmcpaaTotals.lean).
  GIVEN WITH THE SEED: the statements are not yours to turn. If you find one false, say at which input.
  Laid BY PROGRAM, IN A SANDBOX (cutbox-rows.mjs): the forced cells as the released guide's own fill.sh prints them over the translation 5507dda1cee82ce8… (all of the seat's roots in one cut). By AI agents, Wed Nov 11 2026. No macro, syntax, notation, axiom, sorry.
-/
import Derived.Test.YtfcjahlcllmcpaaChecked
import GoSem.Claim
import GoSem.ClaimJoined
import GoSem.ClaimMapViews
import Derived.JoinedTies
import Derived.KernelRfl
namespace Go.Proofs.Ytfcjahlcllmcpaa
/- THE CELL 'sum', in the pinned program and in every row, IS THE sha256 OF THE DUMP (.gsa) THAT YtfcjahlcllmcpaaProg.lean LOADS. Nothing in Lean hashes anything: it is a label: what it is worth is what the hold of that sum in a sandbox is worth. -/
noncomputable def Try.pinned : Pinned := { name := "ytfcjahlcllmcpaa", sum := "5507dda1cee82ce8bd13b46970c08686d52bd5e565a1b468fb6d81d8b43032ef", checked := Try.checked }
namespace Rows
def none {H : Type} : Left H := { results := [], args := [] }

/-- 'sealwaxlaw03.FieldProducts': WHATEVER THE INPUT: true; the input reads as it did. -/
def fieldProductsSpec : ChangeSpec := { name := "fieldProducts", fn := fun _ => fun
  | [d1, d2] => { results := [.lit (.bool true)], args := [d1, d2] }
  | _ => none }
def fieldProductsRow : OpenClaim := { program := "ytfcjahlcllmcpaa", sum := "5507dda1cee82ce8bd13b46970c08686d52bd5e565a1b468fb6d81d8b43032ef", func := "sealwax/sealwaxlaw03.FieldProducts", spec := "fieldProducts", unfollowed := true, recurses := true, apart := false }
def FieldProductsSaid : Prop := fieldProductsRow.holds Try.pinned (OpenSpec.ofChange fieldProductsSpec)

/-- ITS FALSE NEIGHBOUR: 'it returns false'. Refute it at one input. -/
def fieldProductsWrong : ChangeSpec := { name := "fieldProducts", fn := fun _ => fun
  | [d1, d2] => { results := [.lit (.bool false)], args := [d1, d2] }
  | _ => none }
def FieldProductsWrongFalsely : Prop := fieldProductsRow.holds Try.pinned (OpenSpec.ofChange fieldProductsWrong)

/-- 'sealwaxlaw03.FieldPowers': WHATEVER THE INPUT: true; the input reads as it did. -/
def fieldPowersSpec : ChangeSpec := { name := "fieldPowers", fn := fun _ => fun
  | [d1, d2] => { results := [.lit (.bool true)], args := [d1, d2] }
  | _ => none }
def fieldPowersRow : OpenClaim := { program := "ytfcjahlcllmcpaa", sum := "5507dda1cee82ce8bd13b46970c08686d52bd5e565a1b468fb6d81d8b43032ef", func := "sealwax/sealwaxlaw03.FieldPowers", spec := "fieldPowers", unfollowed := true, recurses := true, apart := false }
def FieldPowersSaid : Prop := fieldPowersRow.holds Try.pinned (OpenSpec.ofChange fieldPowersSpec)

/-- ITS FALSE NEIGHBOUR: 'it returns false'. Refute it at one input. -/
def fieldPowersWrong : ChangeSpec := { name := "fieldPowers", fn := fun _ => fun
  | [d1, d2] => { results := [.lit (.bool false)], args := [d1, d2] }
  | _ => none }
def FieldPowersWrongFalsely : Prop := fieldPowersRow.holds Try.pinned (OpenSpec.ofChange fieldPowersWrong)

/-- 'sealwaxlaw03.FieldRoots': WHATEVER THE INPUT: true; the input reads as it did. -/
def fieldRootsSpec : ChangeSpec := { name := "fieldRoots", fn := fun _ => fun
  | [d] => { results := [.lit (.bool true)], args := [d] }
  | _ => none }
def fieldRootsRow : OpenClaim := { program := "ytfcjahlcllmcpaa", sum := "5507dda1cee82ce8bd13b46970c08686d52bd5e565a1b468fb6d81d8b43032ef", func := "sealwax/sealwaxlaw03.FieldRoots", spec := "fieldRoots", unfollowed := true, recurses := true, apart := false }
def FieldRootsSaid : Prop := fieldRootsRow.holds Try.pinned (OpenSpec.ofChange fieldRootsSpec)

/-- ITS FALSE NEIGHBOUR: 'it returns false'. Refute it at one input. -/
def fieldRootsWrong : ChangeSpec := { name := "fieldRoots", fn := fun _ => fun
  | [d] => { results := [.lit (.bool false)], args := [d] }
  | _ => none }
def FieldRootsWrongFalsely : Prop := fieldRootsRow.holds Try.pinned (OpenSpec.ofChange fieldRootsWrong)

/-- 'sealwaxlaw03.FieldSquares': WHATEVER THE INPUT: true; the input reads as it did. -/
def fieldSquaresSpec : ChangeSpec := { name := "fieldSquares", fn := fun _ => fun
  | [d1, d2] => { results := [.lit (.bool true)], args := [d1, d2] }
  | _ => none }
def fieldSquaresRow : OpenClaim := { program := "ytfcjahlcllmcpaa", sum := "5507dda1cee82ce8bd13b46970c08686d52bd5e565a1b468fb6d81d8b43032ef", func := "sealwax/sealwaxlaw03.FieldSquares", spec := "fieldSquares", unfollowed := true, recurses := true, apart := false }
def FieldSquaresSaid : Prop := fieldSquaresRow.holds Try.pinned (OpenSpec.ofChange fieldSquaresSpec)

/-- ITS FALSE NEIGHBOUR: 'it returns false'. Refute it at one input. -/
def fieldSquaresWrong : ChangeSpec := { name := "fieldSquares", fn := fun _ => fun
  | [d1, d2] => { results := [.lit (.bool false)], args := [d1, d2] }
  | _ => none }
def FieldSquaresWrongFalsely : Prop := fieldSquaresRow.holds Try.pinned (OpenSpec.ofChange fieldSquaresWrong)

/-- 'sealwaxlaw03.FieldInverts': WHATEVER THE INPUT: true; the input reads as it did. -/
def fieldInvertsSpec : ChangeSpec := { name := "fieldInverts", fn := fun _ => fun
  | [d] => { results := [.lit (.bool true)], args := [d] }
  | _ => none }
def fieldInvertsRow : OpenClaim := { program := "ytfcjahlcllmcpaa", sum := "5507dda1cee82ce8bd13b46970c08686d52bd5e565a1b468fb6d81d8b43032ef", func := "sealwax/sealwaxlaw03.FieldInverts", spec := "fieldInverts", unfollowed := true, recurses := true, apart := false }
def FieldInvertsSaid : Prop := fieldInvertsRow.holds Try.pinned (OpenSpec.ofChange fieldInvertsSpec)

/-- ITS FALSE NEIGHBOUR: 'it returns false'. Refute it at one input. -/
def fieldInvertsWrong : ChangeSpec := { name := "fieldInverts", fn := fun _ => fun
  | [d] => { results := [.lit (.bool false)], args := [d] }
  | _ => none }
def FieldInvertsWrongFalsely : Prop := fieldInvertsRow.holds Try.pinned (OpenSpec.ofChange fieldInvertsWrong)

/-- 'sealwaxlaw03.FieldOrder': WHATEVER THE INPUT: true; the input reads as it did. -/
def fieldOrderSpec : ChangeSpec := { name := "fieldOrder", fn := fun _ => fun
  | [d1, d2, d3] => { results := [.lit (.bool true)], args := [d1, d2, d3] }
  | _ => none }
def fieldOrderRow : OpenClaim := { program := "ytfcjahlcllmcpaa", sum := "5507dda1cee82ce8bd13b46970c08686d52bd5e565a1b468fb6d81d8b43032ef", func := "sealwax/sealwaxlaw03.FieldOrder", spec := "fieldOrder", unfollowed := true, recurses := true, apart := false }
def FieldOrderSaid : Prop := fieldOrderRow.holds Try.pinned (OpenSpec.ofChange fieldOrderSpec)

/-- ITS FALSE NEIGHBOUR: 'it returns false'. Refute it at one input. -/
def fieldOrderWrong : ChangeSpec := { name := "fieldOrder", fn := fun _ => fun
  | [d1, d2, d3] => { results := [.lit (.bool false)], args := [d1, d2, d3] }
  | _ => none }
def FieldOrderWrongFalsely : Prop := fieldOrderRow.holds Try.pinned (OpenSpec.ofChange fieldOrderWrong)

/-- 'sealwaxlaw03.FieldSums': WHATEVER THE INPUT: true; the input reads as it did. -/
def fieldSumsSpec : ChangeSpec := { name := "fieldSums", fn := fun _ => fun
  | [d1, d2] => { results := [.lit (.bool true)], args := [d1, d2] }
  | _ => none }
def fieldSumsRow : OpenClaim := { program := "ytfcjahlcllmcpaa", sum := "5507dda1cee82ce8bd13b46970c08686d52bd5e565a1b468fb6d81d8b43032ef", func := "sealwax/sealwaxlaw03.FieldSums", spec := "fieldSums", unfollowed := true, recurses := true, apart := false }
def FieldSumsSaid : Prop := fieldSumsRow.holds Try.pinned (OpenSpec.ofChange fieldSumsSpec)

/-- ITS FALSE NEIGHBOUR: 'it returns false'. Refute it at one input. -/
def fieldSumsWrong : ChangeSpec := { name := "fieldSums", fn := fun _ => fun
  | [d1, d2] => { results := [.lit (.bool false)], args := [d1, d2] }
  | _ => none }
def FieldSumsWrongFalsely : Prop := fieldSumsRow.holds Try.pinned (OpenSpec.ofChange fieldSumsWrong)

/-- 'sealwaxlaw03.FieldUndone': WHATEVER THE INPUT: true; the input reads as it did. -/
def fieldUndoneSpec : ChangeSpec := { name := "fieldUndone", fn := fun _ => fun
  | [d1, d2] => { results := [.lit (.bool true)], args := [d1, d2] }
  | _ => none }
def fieldUndoneRow : OpenClaim := { program := "ytfcjahlcllmcpaa", sum := "5507dda1cee82ce8bd13b46970c08686d52bd5e565a1b468fb6d81d8b43032ef", func := "sealwax/sealwaxlaw03.FieldUndone", spec := "fieldUndone", unfollowed := true, recurses := true, apart := false }
def FieldUndoneSaid : Prop := fieldUndoneRow.holds Try.pinned (OpenSpec.ofChange fieldUndoneSpec)

/-- ITS FALSE NEIGHBOUR: 'it returns false'. Refute it at one input. -/
def fieldUndoneWrong : ChangeSpec := { name := "fieldUndone", fn := fun _ => fun
  | [d1, d2] => { results := [.lit (.bool false)], args := [d1, d2] }
  | _ => none }
def FieldUndoneWrongFalsely : Prop := fieldUndoneRow.holds Try.pinned (OpenSpec.ofChange fieldUndoneWrong)

/-- 'sealwaxlaw03.FieldBytes': WHATEVER THE INPUT: true; the input reads as it did. -/
def fieldBytesSpec : ChangeSpec := { name := "fieldBytes", fn := fun _ => fun
  | [d1, d2] => { results := [.lit (.bool true)], args := [d1, d2] }
  | _ => none }
def fieldBytesRow : OpenClaim := { program := "ytfcjahlcllmcpaa", sum := "5507dda1cee82ce8bd13b46970c08686d52bd5e565a1b468fb6d81d8b43032ef", func := "sealwax/sealwaxlaw03.FieldBytes", spec := "fieldBytes", unfollowed := true, recurses := true, apart := false }
def FieldBytesSaid : Prop := fieldBytesRow.holds Try.pinned (OpenSpec.ofChange fieldBytesSpec)

/-- ITS FALSE NEIGHBOUR: 'it returns false'. Refute it at one input. -/
def fieldBytesWrong : ChangeSpec := { name := "fieldBytes", fn := fun _ => fun
  | [d1, d2] => { results := [.lit (.bool false)], args := [d1, d2] }
  | _ => none }
def FieldBytesWrongFalsely : Prop := fieldBytesRow.holds Try.pinned (OpenSpec.ofChange fieldBytesWrong)

/-- 'sealwaxlaw03.FieldForm': WHATEVER THE INPUT: true; the input reads as it did. -/
def fieldFormSpec : ChangeSpec := { name := "fieldForm", fn := fun _ => fun
  | [d1, d2] => { results := [.lit (.bool true)], args := [d1, d2] }
  | _ => none }
def fieldFormRow : OpenClaim := { program := "ytfcjahlcllmcpaa", sum := "5507dda1cee82ce8bd13b46970c08686d52bd5e565a1b468fb6d81d8b43032ef", func := "sealwax/sealwaxlaw03.FieldForm", spec := "fieldForm", unfollowed := true, recurses := true, apart := false }
def FieldFormSaid : Prop := fieldFormRow.holds Try.pinned (OpenSpec.ofChange fieldFormSpec)

/-- ITS FALSE NEIGHBOUR: 'it returns false'. Refute it at one input. -/
def fieldFormWrong : ChangeSpec := { name := "fieldForm", fn := fun _ => fun
  | [d1, d2] => { results := [.lit (.bool false)], args := [d1, d2] }
  | _ => none }
def FieldFormWrongFalsely : Prop := fieldFormRow.holds Try.pinned (OpenSpec.ofChange fieldFormWrong)

/- THE SECOND FORM. 'bulk': how many values and letters a reading holds, each counted each time it is reached (what is shared counts as often as it is met; a slice's spare places count too). A statement '..UptoSaid' is the law's where the arguments, and the package variables that the reading takes, are together of bulk at most 1048576: NARROWER than '..Said'. Prove '..Said' where nothing that the law and all that it calls make is longer than what came in: it says more and counts as full. Else prove '..UptoSaid'. A law counts once. -/
mutual
def uptoBulk {H : Type} : DataW H → Nat
  | .lit (.string bytes) => bytes.length + 1
  | .lit _ => 1
  | .nil => 1
  | .ptr d => uptoBulk d + 1
  | .slice elems spare => uptoBulkAll elems + uptoBulkAll spare + 1
  | .agg parts => uptoBulkAll parts + 1
  | .iface _ d => uptoBulk d + 1
  | .map entries => uptoBulkEntries entries + 1
  | .held _ => 1
def uptoBulkAll {H : Type} : List (DataW H) → Nat
  | [] => 0
  | d :: r => uptoBulk d + uptoBulkAll r
def uptoBulkEntries {H : Type} : List (Lit × DataW H) → Nat
  | [] => 0
  | x :: r => uptoBulkEntry x + uptoBulkEntries r
def uptoBulkEntry {H : Type} : Lit × DataW H → Nat
  | (.string bytes, d) => bytes.length + uptoBulk d + 1
  | (_, d) => uptoBulk d + 1
 end
def uptoSmall : (H : Type) → List (DataW H) → Bool := fun _ ds => decide (uptoBulkAll ds ≤ 1048576)
def OpenSpec.upto (s : _root_.Go.ChangeSpec) : _root_.Go.OpenSpec := { _root_.Go.OpenSpec.ofChange s with cond := some uptoSmall }

/-- 'sealwaxlaw03.FieldProducts', WHERE WHAT IT READS IS OF BULK AT MOST 1048576: true; the input reads as it did. -/
def fieldProductsUptoRow : OpenClaim := { program := "ytfcjahlcllmcpaa", sum := "5507dda1cee82ce8bd13b46970c08686d52bd5e565a1b468fb6d81d8b43032ef", func := "sealwax/sealwaxlaw03.FieldProducts", spec := "fieldProducts", unfollowed := true, recurses := true, apart := false, narrowed := true }
def FieldProductsUptoSaid : Prop := fieldProductsUptoRow.holds Try.pinned (OpenSpec.upto fieldProductsSpec)

/-- 'sealwaxlaw03.FieldPowers', WHERE WHAT IT READS IS OF BULK AT MOST 1048576: true; the input reads as it did. -/
def fieldPowersUptoRow : OpenClaim := { program := "ytfcjahlcllmcpaa", sum := "5507dda1cee82ce8bd13b46970c08686d52bd5e565a1b468fb6d81d8b43032ef", func := "sealwax/sealwaxlaw03.FieldPowers", spec := "fieldPowers", unfollowed := true, recurses := true, apart := false, narrowed := true }
def FieldPowersUptoSaid : Prop := fieldPowersUptoRow.holds Try.pinned (OpenSpec.upto fieldPowersSpec)

/-- 'sealwaxlaw03.FieldRoots', WHERE WHAT IT READS IS OF BULK AT MOST 1048576: true; the input reads as it did. -/
def fieldRootsUptoRow : OpenClaim := { program := "ytfcjahlcllmcpaa", sum := "5507dda1cee82ce8bd13b46970c08686d52bd5e565a1b468fb6d81d8b43032ef", func := "sealwax/sealwaxlaw03.FieldRoots", spec := "fieldRoots", unfollowed := true, recurses := true, apart := false, narrowed := true }
def FieldRootsUptoSaid : Prop := fieldRootsUptoRow.holds Try.pinned (OpenSpec.upto fieldRootsSpec)

/-- 'sealwaxlaw03.FieldSquares', WHERE WHAT IT READS IS OF BULK AT MOST 1048576: true; the input reads as it did. -/
def fieldSquaresUptoRow : OpenClaim := { program := "ytfcjahlcllmcpaa", sum := "5507dda1cee82ce8bd13b46970c08686d52bd5e565a1b468fb6d81d8b43032ef", func := "sealwax/sealwaxlaw03.FieldSquares", spec := "fieldSquares", unfollowed := true, recurses := true, apart := false, narrowed := true }
def FieldSquaresUptoSaid : Prop := fieldSquaresUptoRow.holds Try.pinned (OpenSpec.upto fieldSquaresSpec)

/-- 'sealwaxlaw03.FieldInverts', WHERE WHAT IT READS IS OF BULK AT MOST 1048576: true; the input reads as it did. -/
def fieldInvertsUptoRow : OpenClaim := { program := "ytfcjahlcllmcpaa", sum := "5507dda1cee82ce8bd13b46970c08686d52bd5e565a1b468fb6d81d8b43032ef", func := "sealwax/sealwaxlaw03.FieldInverts", spec := "fieldInverts", unfollowed := true, recurses := true, apart := false, narrowed := true }
def FieldInvertsUptoSaid : Prop := fieldInvertsUptoRow.holds Try.pinned (OpenSpec.upto fieldInvertsSpec)

/-- 'sealwaxlaw03.FieldOrder', WHERE WHAT IT READS IS OF BULK AT MOST 1048576: true; the input reads as it did. -/
def fieldOrderUptoRow : OpenClaim := { program := "ytfcjahlcllmcpaa", sum := "5507dda1cee82ce8bd13b46970c08686d52bd5e565a1b468fb6d81d8b43032ef", func := "sealwax/sealwaxlaw03.FieldOrder", spec := "fieldOrder", unfollowed := true, recurses := true, apart := false, narrowed := true }
def FieldOrderUptoSaid : Prop := fieldOrderUptoRow.holds Try.pinned (OpenSpec.upto fieldOrderSpec)

/-- 'sealwaxlaw03.FieldSums', WHERE WHAT IT READS IS OF BULK AT MOST 1048576: true; the input reads as it did. -/
def fieldSumsUptoRow : OpenClaim := { program := "ytfcjahlcllmcpaa", sum := "5507dda1cee82ce8bd13b46970c08686d52bd5e565a1b468fb6d81d8b43032ef", func := "sealwax/sealwaxlaw03.FieldSums", spec := "fieldSums", unfollowed := true, recurses := true, apart := false, narrowed := true }
def FieldSumsUptoSaid : Prop := fieldSumsUptoRow.holds Try.pinned (OpenSpec.upto fieldSumsSpec)

/-- 'sealwaxlaw03.FieldUndone', WHERE WHAT IT READS IS OF BULK AT MOST 1048576: true; the input reads as it did. -/
def fieldUndoneUptoRow : OpenClaim := { program := "ytfcjahlcllmcpaa", sum := "5507dda1cee82ce8bd13b46970c08686d52bd5e565a1b468fb6d81d8b43032ef", func := "sealwax/sealwaxlaw03.FieldUndone", spec := "fieldUndone", unfollowed := true, recurses := true, apart := false, narrowed := true }
def FieldUndoneUptoSaid : Prop := fieldUndoneUptoRow.holds Try.pinned (OpenSpec.upto fieldUndoneSpec)

/-- 'sealwaxlaw03.FieldBytes', WHERE WHAT IT READS IS OF BULK AT MOST 1048576: true; the input reads as it did. -/
def fieldBytesUptoRow : OpenClaim := { program := "ytfcjahlcllmcpaa", sum := "5507dda1cee82ce8bd13b46970c08686d52bd5e565a1b468fb6d81d8b43032ef", func := "sealwax/sealwaxlaw03.FieldBytes", spec := "fieldBytes", unfollowed := true, recurses := true, apart := false, narrowed := true }
def FieldBytesUptoSaid : Prop := fieldBytesUptoRow.holds Try.pinned (OpenSpec.upto fieldBytesSpec)

/-- 'sealwaxlaw03.FieldForm', WHERE WHAT IT READS IS OF BULK AT MOST 1048576: true; the input reads as it did. -/
def fieldFormUptoRow : OpenClaim := { program := "ytfcjahlcllmcpaa", sum := "5507dda1cee82ce8bd13b46970c08686d52bd5e565a1b468fb6d81d8b43032ef", func := "sealwax/sealwaxlaw03.FieldForm", spec := "fieldForm", unfollowed := true, recurses := true, apart := false, narrowed := true }
def FieldFormUptoSaid : Prop := fieldFormUptoRow.holds Try.pinned (OpenSpec.upto fieldFormSpec)

end Rows
end Go.Proofs.Ytfcjahlcllmcpaa
