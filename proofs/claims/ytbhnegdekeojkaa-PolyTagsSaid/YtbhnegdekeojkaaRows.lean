/-
  No cell of these rows narrows 'for every input' (looked for: loops, veiled, ifaces, maps, wideKeys, modest, calm, conditions, laid).
  DERIVED. THE GIVEN ROWS OF THIS SEAT. 4 by the template 'for every input the law returns true; each argument reads behind the call as it read before'; 0 by the template 'total and deterministic' (their statements: YtbhnegdekeojkaaTotals.lean).
  GIVEN WITH THE SEED: the statements are not yours to turn. If you find one false, say at which input.
  Laid BY PROGRAM, IN A SANDBOX (cutbox-rows.mjs): the forced cells as the released guide's own fill.sh prints them over the translation bf19c5e17996e8e7… (all of the seat's roots in one cut). By AI agents, Wed Nov 11 2026. No macro, syntax, notation, axiom, sorry.
-/
import Derived.Test.YtbhnegdekeojkaaChecked
import GoSem.Claim
import GoSem.ClaimJoined
import GoSem.ClaimMapViews
import Derived.JoinedTies
import Derived.KernelRfl
namespace Go.Proofs.Ytbhnegdekeojkaa
/- THE CELL 'sum', in the pinned program and in every row, IS THE sha256 OF THE DUMP (.gsa) THAT YtbhnegdekeojkaaProg.lean LOADS. Nothing in Lean hashes anything: it is a label: what it is worth is what the hold of that sum in a sandbox is worth. -/
noncomputable def Try.pinned : Pinned := { name := "ytbhnegdekeojkaa", sum := "bf19c5e17996e8e7239e9c45fda0eec013b4c8c71c822c220da71f161fc21e65", checked := Try.checked }
namespace Rows
def none {H : Type} : Left H := { results := [], args := [] }

/-- 'sealwaxlaw11.PolyCuts': WHATEVER THE INPUT: true; the input reads as it did. -/
def polyCutsSpec : ChangeSpec := { name := "polyCuts", fn := fun _ => fun
  | [d] => { results := [.lit (.bool true)], args := [d] }
  | _ => none }
def polyCutsRow : OpenClaim := { program := "ytbhnegdekeojkaa", sum := "bf19c5e17996e8e7239e9c45fda0eec013b4c8c71c822c220da71f161fc21e65", func := "sealwax/sealwaxlaw11.PolyCuts", spec := "polyCuts", apart := false }
def PolyCutsSaid : Prop := polyCutsRow.holds Try.pinned (OpenSpec.ofChange polyCutsSpec)

/-- ITS FALSE NEIGHBOUR: 'it returns false'. Refute it at one input. -/
def polyCutsWrong : ChangeSpec := { name := "polyCuts", fn := fun _ => fun
  | [d] => { results := [.lit (.bool false)], args := [d] }
  | _ => none }
def PolyCutsWrongFalsely : Prop := polyCutsRow.holds Try.pinned (OpenSpec.ofChange polyCutsWrong)

/-- 'sealwaxlaw11.PolyTags': WHATEVER THE INPUT: true; the input reads as it did. -/
def polyTagsSpec : ChangeSpec := { name := "polyTags", fn := fun _ => fun
  | [d1, d2] => { results := [.lit (.bool true)], args := [d1, d2] }
  | _ => none }
def polyTagsRow : OpenClaim := { program := "ytbhnegdekeojkaa", sum := "bf19c5e17996e8e7239e9c45fda0eec013b4c8c71c822c220da71f161fc21e65", func := "sealwax/sealwaxlaw11.PolyTags", spec := "polyTags", apart := false }
def PolyTagsSaid : Prop := polyTagsRow.holds Try.pinned (OpenSpec.ofChange polyTagsSpec)

/-- ITS FALSE NEIGHBOUR: 'it returns false'. Refute it at one input. -/
def polyTagsWrong : ChangeSpec := { name := "polyTags", fn := fun _ => fun
  | [d1, d2] => { results := [.lit (.bool false)], args := [d1, d2] }
  | _ => none }
def PolyTagsWrongFalsely : Prop := polyTagsRow.holds Try.pinned (OpenSpec.ofChange polyTagsWrong)

/-- 'sealwaxlaw11.PolyBits': WHATEVER THE INPUT: true; the input reads as it did. -/
def polyBitsSpec : ChangeSpec := { name := "polyBits", fn := fun _ => fun
  | [d1, d2] => { results := [.lit (.bool true)], args := [d1, d2] }
  | _ => none }
def polyBitsRow : OpenClaim := { program := "ytbhnegdekeojkaa", sum := "bf19c5e17996e8e7239e9c45fda0eec013b4c8c71c822c220da71f161fc21e65", func := "sealwax/sealwaxlaw11.PolyBits", spec := "polyBits", apart := false }
def PolyBitsSaid : Prop := polyBitsRow.holds Try.pinned (OpenSpec.ofChange polyBitsSpec)

/-- ITS FALSE NEIGHBOUR: 'it returns false'. Refute it at one input. -/
def polyBitsWrong : ChangeSpec := { name := "polyBits", fn := fun _ => fun
  | [d1, d2] => { results := [.lit (.bool false)], args := [d1, d2] }
  | _ => none }
def PolyBitsWrongFalsely : Prop := polyBitsRow.holds Try.pinned (OpenSpec.ofChange polyBitsWrong)

/-- 'sealwaxlaw11.PolyOne': WHATEVER THE INPUT: true; the input reads as it did. -/
def polyOneSpec : ChangeSpec := { name := "polyOne", fn := fun _ => fun
  | [d1, d2] => { results := [.lit (.bool true)], args := [d1, d2] }
  | _ => none }
def polyOneRow : OpenClaim := { program := "ytbhnegdekeojkaa", sum := "bf19c5e17996e8e7239e9c45fda0eec013b4c8c71c822c220da71f161fc21e65", func := "sealwax/sealwaxlaw11.PolyOne", spec := "polyOne", apart := false }
def PolyOneSaid : Prop := polyOneRow.holds Try.pinned (OpenSpec.ofChange polyOneSpec)

/-- ITS FALSE NEIGHBOUR: 'it returns false'. Refute it at one input. -/
def polyOneWrong : ChangeSpec := { name := "polyOne", fn := fun _ => fun
  | [d1, d2] => { results := [.lit (.bool false)], args := [d1, d2] }
  | _ => none }
def PolyOneWrongFalsely : Prop := polyOneRow.holds Try.pinned (OpenSpec.ofChange polyOneWrong)

/- THE SECOND FORM. 'bulk': how many values and letters a reading holds, each counted each time it is reached (what is shared counts as often as it is met; a slice's spare places count too). A statement '..UptoSaid' is the law's where the arguments, and the package variables that the reading takes, are together of bulk at most 1048576: NARROWER than '..Said'. Prove '..Said' where nothing that the law and all that it calls make is longer than what came in: it says more and counts as full. Else prove '..UptoSaid'. A law counts once. -/
mutual
def uptoBulk {H : Type} : DataW H → Nat
  | .lit (.string bytes) => bytes.length + 1
  | .lit _ => 1
  | .nil => 1
  | .ptr d => uptoBulk d + 1
  | .slice elems spare => uptoBulkAll elems + uptoBulkAll spare + 1
  | .agg parts => uptoBulkAll parts + 1
  | .iface _ d => uptoBulk d + 1
  | .map entries => uptoBulkEntries entries + 1
  | .held _ => 1
def uptoBulkAll {H : Type} : List (DataW H) → Nat
  | [] => 0
  | d :: r => uptoBulk d + uptoBulkAll r
def uptoBulkEntries {H : Type} : List (Lit × DataW H) → Nat
  | [] => 0
  | x :: r => uptoBulkEntry x + uptoBulkEntries r
def uptoBulkEntry {H : Type} : Lit × DataW H → Nat
  | (.string bytes, d) => bytes.length + uptoBulk d + 1
  | (_, d) => uptoBulk d + 1
 end
def uptoSmall : (H : Type) → List (DataW H) → Bool := fun _ ds => decide (uptoBulkAll ds ≤ 1048576)
def OpenSpec.upto (s : _root_.Go.ChangeSpec) : _root_.Go.OpenSpec := { _root_.Go.OpenSpec.ofChange s with cond := some uptoSmall }

/-- 'sealwaxlaw11.PolyCuts', WHERE WHAT IT READS IS OF BULK AT MOST 1048576: true; the input reads as it did. -/
def polyCutsUptoRow : OpenClaim := { program := "ytbhnegdekeojkaa", sum := "bf19c5e17996e8e7239e9c45fda0eec013b4c8c71c822c220da71f161fc21e65", func := "sealwax/sealwaxlaw11.PolyCuts", spec := "polyCuts", apart := false, narrowed := true }
def PolyCutsUptoSaid : Prop := polyCutsUptoRow.holds Try.pinned (OpenSpec.upto polyCutsSpec)

/-- 'sealwaxlaw11.PolyTags', WHERE WHAT IT READS IS OF BULK AT MOST 1048576: true; the input reads as it did. -/
def polyTagsUptoRow : OpenClaim := { program := "ytbhnegdekeojkaa", sum := "bf19c5e17996e8e7239e9c45fda0eec013b4c8c71c822c220da71f161fc21e65", func := "sealwax/sealwaxlaw11.PolyTags", spec := "polyTags", apart := false, narrowed := true }
def PolyTagsUptoSaid : Prop := polyTagsUptoRow.holds Try.pinned (OpenSpec.upto polyTagsSpec)

/-- 'sealwaxlaw11.PolyBits', WHERE WHAT IT READS IS OF BULK AT MOST 1048576: true; the input reads as it did. -/
def polyBitsUptoRow : OpenClaim := { program := "ytbhnegdekeojkaa", sum := "bf19c5e17996e8e7239e9c45fda0eec013b4c8c71c822c220da71f161fc21e65", func := "sealwax/sealwaxlaw11.PolyBits", spec := "polyBits", apart := false, narrowed := true }
def PolyBitsUptoSaid : Prop := polyBitsUptoRow.holds Try.pinned (OpenSpec.upto polyBitsSpec)

/-- 'sealwaxlaw11.PolyOne', WHERE WHAT IT READS IS OF BULK AT MOST 1048576: true; the input reads as it did. -/
def polyOneUptoRow : OpenClaim := { program := "ytbhnegdekeojkaa", sum := "bf19c5e17996e8e7239e9c45fda0eec013b4c8c71c822c220da71f161fc21e65", func := "sealwax/sealwaxlaw11.PolyOne", spec := "polyOne", apart := false, narrowed := true }
def PolyOneUptoSaid : Prop := polyOneUptoRow.holds Try.pinned (OpenSpec.upto polyOneSpec)

end Rows
end Go.Proofs.Ytbhnegdekeojkaa
