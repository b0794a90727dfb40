/-
  No cell of these rows narrows 'for every input' (looked for: loops, veiled, ifaces, maps, wideKeys, modest, calm, conditions, laid).
  DERIVED. THE GIVEN ROWS OF THIS SEAT. 9 by the template 'for every input the law returns true; each argument reads behind the call as it read before'; 0 by the template 'total and deterministic' (their statements: YtokbhlapbollbaaTotals.lean).
  GIVEN WITH THE SEED: the statements are not yours to turn. If you find one false, say at which input.
  Laid BY PROGRAM, IN A SANDBOX (cutbox-rows.mjs): the forced cells as the released guide's own fill.sh prints them over the translation 4374e5a045053daf… (all of the seat's roots in one cut). By AI agents, Wed Nov 11 2026. No macro, syntax, notation, axiom, sorry.
-/
import Derived.Test.YtokbhlapbollbaaChecked
import GoSem.Claim
import GoSem.ClaimJoined
import GoSem.ClaimMapViews
import Derived.JoinedTies
import Derived.KernelRfl
namespace Go.Proofs.Ytokbhlapbollbaa
/- THE CELL 'sum', in the pinned program and in every row, IS THE sha256 OF THE DUMP (.gsa) THAT YtokbhlapbollbaaProg.lean LOADS. Nothing in Lean hashes anything: it is a label: what it is worth is what the hold of that sum in a sandbox is worth. -/
noncomputable def Try.pinned : Pinned := { name := "ytokbhlapbollbaa", sum := "4374e5a045053daf490259d8dccf7d0e4b4779d29ab6753cd486b8ea626e68e8", checked := Try.checked }
namespace Rows
def none {H : Type} : Left H := { results := [], args := [] }

/-- 'sealwaxlaw02.WideSums': WHATEVER THE INPUT: true; the input reads as it did. -/
def wideSumsSpec : ChangeSpec := { name := "wideSums", fn := fun _ => fun
  | [d1, d2] => { results := [.lit (.bool true)], args := [d1, d2] }
  | _ => none }
def wideSumsRow : OpenClaim := { program := "ytokbhlapbollbaa", sum := "4374e5a045053daf490259d8dccf7d0e4b4779d29ab6753cd486b8ea626e68e8", func := "sealwax/sealwaxlaw02.WideSums", spec := "wideSums", apart := false }
def WideSumsSaid : Prop := wideSumsRow.holds Try.pinned (OpenSpec.ofChange wideSumsSpec)

/-- ITS FALSE NEIGHBOUR: 'it returns false'. Refute it at one input. -/
def wideSumsWrong : ChangeSpec := { name := "wideSums", fn := fun _ => fun
  | [d1, d2] => { results := [.lit (.bool false)], args := [d1, d2] }
  | _ => none }
def WideSumsWrongFalsely : Prop := wideSumsRow.holds Try.pinned (OpenSpec.ofChange wideSumsWrong)

/-- 'sealwaxlaw02.WideLeft': WHATEVER THE INPUT: true; the input reads as it did. -/
def wideLeftSpec : ChangeSpec := { name := "wideLeft", fn := fun _ => fun
  | [d1, d2] => { results := [.lit (.bool true)], args := [d1, d2] }
  | _ => none }
def wideLeftRow : OpenClaim := { program := "ytokbhlapbollbaa", sum := "4374e5a045053daf490259d8dccf7d0e4b4779d29ab6753cd486b8ea626e68e8", func := "sealwax/sealwaxlaw02.WideLeft", spec := "wideLeft", apart := false }
def WideLeftSaid : Prop := wideLeftRow.holds Try.pinned (OpenSpec.ofChange wideLeftSpec)

/-- ITS FALSE NEIGHBOUR: 'it returns false'. Refute it at one input. -/
def wideLeftWrong : ChangeSpec := { name := "wideLeft", fn := fun _ => fun
  | [d1, d2] => { results := [.lit (.bool false)], args := [d1, d2] }
  | _ => none }
def WideLeftWrongFalsely : Prop := wideLeftRow.holds Try.pinned (OpenSpec.ofChange wideLeftWrong)

/-- 'sealwaxlaw02.WideBack': WHATEVER THE INPUT: true; the input reads as it did. -/
def wideBackSpec : ChangeSpec := { name := "wideBack", fn := fun _ => fun
  | [d1, d2] => { results := [.lit (.bool true)], args := [d1, d2] }
  | _ => none }
def wideBackRow : OpenClaim := { program := "ytokbhlapbollbaa", sum := "4374e5a045053daf490259d8dccf7d0e4b4779d29ab6753cd486b8ea626e68e8", func := "sealwax/sealwaxlaw02.WideBack", spec := "wideBack", apart := false }
def WideBackSaid : Prop := wideBackRow.holds Try.pinned (OpenSpec.ofChange wideBackSpec)

/-- ITS FALSE NEIGHBOUR: 'it returns false'. Refute it at one input. -/
def wideBackWrong : ChangeSpec := { name := "wideBack", fn := fun _ => fun
  | [d1, d2] => { results := [.lit (.bool false)], args := [d1, d2] }
  | _ => none }
def WideBackWrongFalsely : Prop := wideBackRow.holds Try.pinned (OpenSpec.ofChange wideBackWrong)

/-- 'sealwaxlaw02.WideOrders': WHATEVER THE INPUT: true; the input reads as it did. -/
def wideOrdersSpec : ChangeSpec := { name := "wideOrders", fn := fun _ => fun
  | [d1, d2, d3] => { results := [.lit (.bool true)], args := [d1, d2, d3] }
  | _ => none }
def wideOrdersRow : OpenClaim := { program := "ytokbhlapbollbaa", sum := "4374e5a045053daf490259d8dccf7d0e4b4779d29ab6753cd486b8ea626e68e8", func := "sealwax/sealwaxlaw02.WideOrders", spec := "wideOrders", apart := false }
def WideOrdersSaid : Prop := wideOrdersRow.holds Try.pinned (OpenSpec.ofChange wideOrdersSpec)

/-- ITS FALSE NEIGHBOUR: 'it returns false'. Refute it at one input. -/
def wideOrdersWrong : ChangeSpec := { name := "wideOrders", fn := fun _ => fun
  | [d1, d2, d3] => { results := [.lit (.bool false)], args := [d1, d2, d3] }
  | _ => none }
def WideOrdersWrongFalsely : Prop := wideOrdersRow.holds Try.pinned (OpenSpec.ofChange wideOrdersWrong)

/-- 'sealwaxlaw02.WideTells': WHATEVER THE INPUT: true; the input reads as it did. -/
def wideTellsSpec : ChangeSpec := { name := "wideTells", fn := fun _ => fun
  | [d] => { results := [.lit (.bool true)], args := [d] }
  | _ => none }
def wideTellsRow : OpenClaim := { program := "ytokbhlapbollbaa", sum := "4374e5a045053daf490259d8dccf7d0e4b4779d29ab6753cd486b8ea626e68e8", func := "sealwax/sealwaxlaw02.WideTells", spec := "wideTells", apart := false }
def WideTellsSaid : Prop := wideTellsRow.holds Try.pinned (OpenSpec.ofChange wideTellsSpec)

/-- ITS FALSE NEIGHBOUR: 'it returns false'. Refute it at one input. -/
def wideTellsWrong : ChangeSpec := { name := "wideTells", fn := fun _ => fun
  | [d] => { results := [.lit (.bool false)], args := [d] }
  | _ => none }
def WideTellsWrongFalsely : Prop := wideTellsRow.holds Try.pinned (OpenSpec.ofChange wideTellsWrong)

/-- 'sealwaxlaw02.WideReads': WHATEVER THE INPUT: true; the input reads as it did. -/
def wideReadsSpec : ChangeSpec := { name := "wideReads", fn := fun _ => fun
  | [d] => { results := [.lit (.bool true)], args := [d] }
  | _ => none }
def wideReadsRow : OpenClaim := { program := "ytokbhlapbollbaa", sum := "4374e5a045053daf490259d8dccf7d0e4b4779d29ab6753cd486b8ea626e68e8", func := "sealwax/sealwaxlaw02.WideReads", spec := "wideReads", apart := false }
def WideReadsSaid : Prop := wideReadsRow.holds Try.pinned (OpenSpec.ofChange wideReadsSpec)

/-- ITS FALSE NEIGHBOUR: 'it returns false'. Refute it at one input. -/
def wideReadsWrong : ChangeSpec := { name := "wideReads", fn := fun _ => fun
  | [d] => { results := [.lit (.bool false)], args := [d] }
  | _ => none }
def WideReadsWrongFalsely : Prop := wideReadsRow.holds Try.pinned (OpenSpec.ofChange wideReadsWrong)

/-- 'sealwaxlaw02.WideProducts': WHATEVER THE INPUT: true; the input reads as it did. -/
def wideProductsSpec : ChangeSpec := { name := "wideProducts", fn := fun _ => fun
  | [d1, d2] => { results := [.lit (.bool true)], args := [d1, d2] }
  | _ => none }
def wideProductsRow : OpenClaim := { program := "ytokbhlapbollbaa", sum := "4374e5a045053daf490259d8dccf7d0e4b4779d29ab6753cd486b8ea626e68e8", func := "sealwax/sealwaxlaw02.WideProducts", spec := "wideProducts", apart := false }
def WideProductsSaid : Prop := wideProductsRow.holds Try.pinned (OpenSpec.ofChange wideProductsSpec)

/-- ITS FALSE NEIGHBOUR: 'it returns false'. Refute it at one input. -/
def wideProductsWrong : ChangeSpec := { name := "wideProducts", fn := fun _ => fun
  | [d1, d2] => { results := [.lit (.bool false)], args := [d1, d2] }
  | _ => none }
def WideProductsWrongFalsely : Prop := wideProductsRow.holds Try.pinned (OpenSpec.ofChange wideProductsWrong)

/-- 'sealwaxlaw02.WideTurned': WHATEVER THE INPUT: true; the input reads as it did. -/
def wideTurnedSpec : ChangeSpec := { name := "wideTurned", fn := fun _ => fun
  | [d1, d2, d3] => { results := [.lit (.bool true)], args := [d1, d2, d3] }
  | _ => none }
def wideTurnedRow : OpenClaim := { program := "ytokbhlapbollbaa", sum := "4374e5a045053daf490259d8dccf7d0e4b4779d29ab6753cd486b8ea626e68e8", func := "sealwax/sealwaxlaw02.WideTurned", spec := "wideTurned", apart := false }
def WideTurnedSaid : Prop := wideTurnedRow.holds Try.pinned (OpenSpec.ofChange wideTurnedSpec)

/-- ITS FALSE NEIGHBOUR: 'it returns false'. Refute it at one input. -/
def wideTurnedWrong : ChangeSpec := { name := "wideTurned", fn := fun _ => fun
  | [d1, d2, d3] => { results := [.lit (.bool false)], args := [d1, d2, d3] }
  | _ => none }
def WideTurnedWrongFalsely : Prop := wideTurnedRow.holds Try.pinned (OpenSpec.ofChange wideTurnedWrong)

/-- 'sealwaxlaw02.WideBelow': WHATEVER THE INPUT: true; the input reads as it did. -/
def wideBelowSpec : ChangeSpec := { name := "wideBelow", fn := fun _ => fun
  | [d1, d2, d3] => { results := [.lit (.bool true)], args := [d1, d2, d3] }
  | _ => none }
def wideBelowRow : OpenClaim := { program := "ytokbhlapbollbaa", sum := "4374e5a045053daf490259d8dccf7d0e4b4779d29ab6753cd486b8ea626e68e8", func := "sealwax/sealwaxlaw02.WideBelow", spec := "wideBelow", apart := false }
def WideBelowSaid : Prop := wideBelowRow.holds Try.pinned (OpenSpec.ofChange wideBelowSpec)

/-- ITS FALSE NEIGHBOUR: 'it returns false'. Refute it at one input. -/
def wideBelowWrong : ChangeSpec := { name := "wideBelow", fn := fun _ => fun
  | [d1, d2, d3] => { results := [.lit (.bool false)], args := [d1, d2, d3] }
  | _ => none }
def WideBelowWrongFalsely : Prop := wideBelowRow.holds Try.pinned (OpenSpec.ofChange wideBelowWrong)

/- THE SECOND FORM. 'bulk': how many values and letters a reading holds, each counted each time it is reached (what is shared counts as often as it is met; a slice's spare places count too). A statement '..UptoSaid' is the law's where the arguments, and the package variables that the reading takes, are together of bulk at most 1048576: NARROWER than '..Said'. Prove '..Said' where nothing that the law and all that it calls make is longer than what came in: it says more and counts as full. Else prove '..UptoSaid'. A law counts once. -/
mutual
def uptoBulk {H : Type} : DataW H → Nat
  | .lit (.string bytes) => bytes.length + 1
  | .lit _ => 1
  | .nil => 1
  | .ptr d => uptoBulk d + 1
  | .slice elems spare => uptoBulkAll elems + uptoBulkAll spare + 1
  | .agg parts => uptoBulkAll parts + 1
  | .iface _ d => uptoBulk d + 1
  | .map entries => uptoBulkEntries entries + 1
  | .held _ => 1
def uptoBulkAll {H : Type} : List (DataW H) → Nat
  | [] => 0
  | d :: r => uptoBulk d + uptoBulkAll r
def uptoBulkEntries {H : Type} : List (Lit × DataW H) → Nat
  | [] => 0
  | x :: r => uptoBulkEntry x + uptoBulkEntries r
def uptoBulkEntry {H : Type} : Lit × DataW H → Nat
  | (.string bytes, d) => bytes.length + uptoBulk d + 1
  | (_, d) => uptoBulk d + 1
 end
def uptoSmall : (H : Type) → List (DataW H) → Bool := fun _ ds => decide (uptoBulkAll ds ≤ 1048576)
def OpenSpec.upto (s : _root_.Go.ChangeSpec) : _root_.Go.OpenSpec := { _root_.Go.OpenSpec.ofChange s with cond := some uptoSmall }

/-- 'sealwaxlaw02.WideSums', WHERE WHAT IT READS IS OF BULK AT MOST 1048576: true; the input reads as it did. -/
def wideSumsUptoRow : OpenClaim := { program := "ytokbhlapbollbaa", sum := "4374e5a045053daf490259d8dccf7d0e4b4779d29ab6753cd486b8ea626e68e8", func := "sealwax/sealwaxlaw02.WideSums", spec := "wideSums", apart := false, narrowed := true }
def WideSumsUptoSaid : Prop := wideSumsUptoRow.holds Try.pinned (OpenSpec.upto wideSumsSpec)

/-- 'sealwaxlaw02.WideLeft', WHERE WHAT IT READS IS OF BULK AT MOST 1048576: true; the input reads as it did. -/
def wideLeftUptoRow : OpenClaim := { program := "ytokbhlapbollbaa", sum := "4374e5a045053daf490259d8dccf7d0e4b4779d29ab6753cd486b8ea626e68e8", func := "sealwax/sealwaxlaw02.WideLeft", spec := "wideLeft", apart := false, narrowed := true }
def WideLeftUptoSaid : Prop := wideLeftUptoRow.holds Try.pinned (OpenSpec.upto wideLeftSpec)

/-- 'sealwaxlaw02.WideBack', WHERE WHAT IT READS IS OF BULK AT MOST 1048576: true; the input reads as it did. -/
def wideBackUptoRow : OpenClaim := { program := "ytokbhlapbollbaa", sum := "4374e5a045053daf490259d8dccf7d0e4b4779d29ab6753cd486b8ea626e68e8", func := "sealwax/sealwaxlaw02.WideBack", spec := "wideBack", apart := false, narrowed := true }
def WideBackUptoSaid : Prop := wideBackUptoRow.holds Try.pinned (OpenSpec.upto wideBackSpec)

/-- 'sealwaxlaw02.WideOrders', WHERE WHAT IT READS IS OF BULK AT MOST 1048576: true; the input reads as it did. -/
def wideOrdersUptoRow : OpenClaim := { program := "ytokbhlapbollbaa", sum := "4374e5a045053daf490259d8dccf7d0e4b4779d29ab6753cd486b8ea626e68e8", func := "sealwax/sealwaxlaw02.WideOrders", spec := "wideOrders", apart := false, narrowed := true }
def WideOrdersUptoSaid : Prop := wideOrdersUptoRow.holds Try.pinned (OpenSpec.upto wideOrdersSpec)

/-- 'sealwaxlaw02.WideTells', WHERE WHAT IT READS IS OF BULK AT MOST 1048576: true; the input reads as it did. -/
def wideTellsUptoRow : OpenClaim := { program := "ytokbhlapbollbaa", sum := "4374e5a045053daf490259d8dccf7d0e4b4779d29ab6753cd486b8ea626e68e8", func := "sealwax/sealwaxlaw02.WideTells", spec := "wideTells", apart := false, narrowed := true }
def WideTellsUptoSaid : Prop := wideTellsUptoRow.holds Try.pinned (OpenSpec.upto wideTellsSpec)

/-- 'sealwaxlaw02.WideReads', WHERE WHAT IT READS IS OF BULK AT MOST 1048576: true; the input reads as it did. -/
def wideReadsUptoRow : OpenClaim := { program := "ytokbhlapbollbaa", sum := "4374e5a045053daf490259d8dccf7d0e4b4779d29ab6753cd486b8ea626e68e8", func := "sealwax/sealwaxlaw02.WideReads", spec := "wideReads", apart := false, narrowed := true }
def WideReadsUptoSaid : Prop := wideReadsUptoRow.holds Try.pinned (OpenSpec.upto wideReadsSpec)

/-- 'sealwaxlaw02.WideProducts', WHERE WHAT IT READS IS OF BULK AT MOST 1048576: true; the input reads as it did. -/
def wideProductsUptoRow : OpenClaim := { program := "ytokbhlapbollbaa", sum := "4374e5a045053daf490259d8dccf7d0e4b4779d29ab6753cd486b8ea626e68e8", func := "sealwax/sealwaxlaw02.WideProducts", spec := "wideProducts", apart := false, narrowed := true }
def WideProductsUptoSaid : Prop := wideProductsUptoRow.holds Try.pinned (OpenSpec.upto wideProductsSpec)

/-- 'sealwaxlaw02.WideTurned', WHERE WHAT IT READS IS OF BULK AT MOST 1048576: true; the input reads as it did. -/
def wideTurnedUptoRow : OpenClaim := { program := "ytokbhlapbollbaa", sum := "4374e5a045053daf490259d8dccf7d0e4b4779d29ab6753cd486b8ea626e68e8", func := "sealwax/sealwaxlaw02.WideTurned", spec := "wideTurned", apart := false, narrowed := true }
def WideTurnedUptoSaid : Prop := wideTurnedUptoRow.holds Try.pinned (OpenSpec.upto wideTurnedSpec)

/-- 'sealwaxlaw02.WideBelow', WHERE WHAT IT READS IS OF BULK AT MOST 1048576: true; the input reads as it did. -/
def wideBelowUptoRow : OpenClaim := { program := "ytokbhlapbollbaa", sum := "4374e5a045053daf490259d8dccf7d0e4b4779d29ab6753cd486b8ea626e68e8", func := "sealwax/sealwaxlaw02.WideBelow", spec := "wideBelow", apart := false, narrowed := true }
def WideBelowUptoSaid : Prop := wideBelowUptoRow.holds Try.pinned (OpenSpec.upto wideBelowSpec)

end Rows
end Go.Proofs.Ytokbhlapbollbaa
