/-
  No cell of these rows narrows 'for every input' (looked for: loops, veiled, ifaces, maps, wideKeys, modest, calm, conditions, laid).
  DERIVED. THE GIVEN ROWS OF THIS SEAT. 6 by the template 'for every input the law returns true; each argument reads behind the call as it read before'; 0 by the template 'total and deterministic' (their statements: YtpeplakhcgaajaaTotals.lean).
  GIVEN WITH THE SEED: the statements are not yours to turn. If you find one false, say at which input.
  Laid BY PROGRAM, IN A SANDBOX (cutbox-rows.mjs): the forced cells as the released guide's own fill.sh prints them over the translation 8ad96d41503433d0… (all of the seat's roots in one cut). By AI agents, Wed Nov 11 2026. No macro, syntax, notation, axiom, sorry.
-/
import Derived.Test.YtpeplakhcgaajaaChecked
import GoSem.Claim
import GoSem.ClaimJoined
import GoSem.ClaimMapViews
import Derived.JoinedTies
import Derived.KernelRfl
namespace Go.Proofs.Ytpeplakhcgaajaa
/- THE CELL 'sum', in the pinned program and in every row, IS THE sha256 OF THE DUMP (.gsa) THAT YtpeplakhcgaajaaProg.lean LOADS. Nothing in Lean hashes anything: it is a label: what it is worth is what the hold of that sum in a sandbox is worth. -/
noncomputable def Try.pinned : Pinned := { name := "ytpeplakhcgaajaa", sum := "8ad96d41503433d084db650ddde8597b0c952814232b01fb19faa2756a72904b", checked := Try.checked }
namespace Rows
def none {H : Type} : Left H := { results := [], args := [] }

/-- 'sealwaxlaw05.LadderClamps': WHATEVER THE INPUT: true; the input reads as it did. -/
def ladderClampsSpec : ChangeSpec := { name := "ladderClamps", fn := fun _ => fun
  | [d] => { results := [.lit (.bool true)], args := [d] }
  | _ => none }
def ladderClampsRow : OpenClaim := { program := "ytpeplakhcgaajaa", sum := "8ad96d41503433d084db650ddde8597b0c952814232b01fb19faa2756a72904b", func := "sealwax/sealwaxlaw05.LadderClamps", spec := "ladderClamps", unfollowed := true, recurses := true, apart := false }
def LadderClampsSaid : Prop := ladderClampsRow.holds Try.pinned (OpenSpec.ofChange ladderClampsSpec)

/-- ITS FALSE NEIGHBOUR: 'it returns false'. Refute it at one input. -/
def ladderClampsWrong : ChangeSpec := { name := "ladderClamps", fn := fun _ => fun
  | [d] => { results := [.lit (.bool false)], args := [d] }
  | _ => none }
def LadderClampsWrongFalsely : Prop := ladderClampsRow.holds Try.pinned (OpenSpec.ofChange ladderClampsWrong)

/-- 'sealwaxlaw05.LadderMults': WHATEVER THE INPUT: true; the input reads as it did. -/
def ladderMultsSpec : ChangeSpec := { name := "ladderMults", fn := fun _ => fun
  | [d1, d2] => { results := [.lit (.bool true)], args := [d1, d2] }
  | _ => none }
def ladderMultsRow : OpenClaim := { program := "ytpeplakhcgaajaa", sum := "8ad96d41503433d084db650ddde8597b0c952814232b01fb19faa2756a72904b", func := "sealwax/sealwaxlaw05.LadderMults", spec := "ladderMults", unfollowed := true, recurses := true, apart := false }
def LadderMultsSaid : Prop := ladderMultsRow.holds Try.pinned (OpenSpec.ofChange ladderMultsSpec)

/-- ITS FALSE NEIGHBOUR: 'it returns false'. Refute it at one input. -/
def ladderMultsWrong : ChangeSpec := { name := "ladderMults", fn := fun _ => fun
  | [d1, d2] => { results := [.lit (.bool false)], args := [d1, d2] }
  | _ => none }
def LadderMultsWrongFalsely : Prop := ladderMultsRow.holds Try.pinned (OpenSpec.ofChange ladderMultsWrong)

/-- 'sealwaxlaw05.LadderShares': WHATEVER THE INPUT: true; the input reads as it did. -/
def ladderSharesSpec : ChangeSpec := { name := "ladderShares", fn := fun _ => fun
  | [d1, d2] => { results := [.lit (.bool true)], args := [d1, d2] }
  | _ => none }
def ladderSharesRow : OpenClaim := { program := "ytpeplakhcgaajaa", sum := "8ad96d41503433d084db650ddde8597b0c952814232b01fb19faa2756a72904b", func := "sealwax/sealwaxlaw05.LadderShares", spec := "ladderShares", unfollowed := true, recurses := true, apart := false }
def LadderSharesSaid : Prop := ladderSharesRow.holds Try.pinned (OpenSpec.ofChange ladderSharesSpec)

/-- ITS FALSE NEIGHBOUR: 'it returns false'. Refute it at one input. -/
def ladderSharesWrong : ChangeSpec := { name := "ladderShares", fn := fun _ => fun
  | [d1, d2] => { results := [.lit (.bool false)], args := [d1, d2] }
  | _ => none }
def LadderSharesWrongFalsely : Prop := ladderSharesRow.holds Try.pinned (OpenSpec.ofChange ladderSharesWrong)

/-- 'sealwaxlaw05.LadderBits': WHATEVER THE INPUT: true; the input reads as it did. -/
def ladderBitsSpec : ChangeSpec := { name := "ladderBits", fn := fun _ => fun
  | [d1, d2, d3, d4] => { results := [.lit (.bool true)], args := [d1, d2, d3, d4] }
  | _ => none }
def ladderBitsRow : OpenClaim := { program := "ytpeplakhcgaajaa", sum := "8ad96d41503433d084db650ddde8597b0c952814232b01fb19faa2756a72904b", func := "sealwax/sealwaxlaw05.LadderBits", spec := "ladderBits", unfollowed := true, recurses := true, apart := false }
def LadderBitsSaid : Prop := ladderBitsRow.holds Try.pinned (OpenSpec.ofChange ladderBitsSpec)

/-- ITS FALSE NEIGHBOUR: 'it returns false'. Refute it at one input. -/
def ladderBitsWrong : ChangeSpec := { name := "ladderBits", fn := fun _ => fun
  | [d1, d2, d3, d4] => { results := [.lit (.bool false)], args := [d1, d2, d3, d4] }
  | _ => none }
def LadderBitsWrongFalsely : Prop := ladderBitsRow.holds Try.pinned (OpenSpec.ofChange ladderBitsWrong)

/-- 'sealwaxlaw05.LadderPublics': WHATEVER THE INPUT: true; the input reads as it did. -/
def ladderPublicsSpec : ChangeSpec := { name := "ladderPublics", fn := fun _ => fun
  | [d] => { results := [.lit (.bool true)], args := [d] }
  | _ => none }
def ladderPublicsRow : OpenClaim := { program := "ytpeplakhcgaajaa", sum := "8ad96d41503433d084db650ddde8597b0c952814232b01fb19faa2756a72904b", func := "sealwax/sealwaxlaw05.LadderPublics", spec := "ladderPublics", unfollowed := true, recurses := true, apart := false }
def LadderPublicsSaid : Prop := ladderPublicsRow.holds Try.pinned (OpenSpec.ofChange ladderPublicsSpec)

/-- ITS FALSE NEIGHBOUR: 'it returns false'. Refute it at one input. -/
def ladderPublicsWrong : ChangeSpec := { name := "ladderPublics", fn := fun _ => fun
  | [d] => { results := [.lit (.bool false)], args := [d] }
  | _ => none }
def LadderPublicsWrongFalsely : Prop := ladderPublicsRow.holds Try.pinned (OpenSpec.ofChange ladderPublicsWrong)

/-- 'sealwaxlaw05.LadderAgrees': WHATEVER THE INPUT: true; the input reads as it did. -/
def ladderAgreesSpec : ChangeSpec := { name := "ladderAgrees", fn := fun _ => fun
  | [d1, d2] => { results := [.lit (.bool true)], args := [d1, d2] }
  | _ => none }
def ladderAgreesRow : OpenClaim := { program := "ytpeplakhcgaajaa", sum := "8ad96d41503433d084db650ddde8597b0c952814232b01fb19faa2756a72904b", func := "sealwax/sealwaxlaw05.LadderAgrees", spec := "ladderAgrees", unfollowed := true, recurses := true, apart := false }
def LadderAgreesSaid : Prop := ladderAgreesRow.holds Try.pinned (OpenSpec.ofChange ladderAgreesSpec)

/-- ITS FALSE NEIGHBOUR: 'it returns false'. Refute it at one input. -/
def ladderAgreesWrong : ChangeSpec := { name := "ladderAgrees", fn := fun _ => fun
  | [d1, d2] => { results := [.lit (.bool false)], args := [d1, d2] }
  | _ => none }
def LadderAgreesWrongFalsely : Prop := ladderAgreesRow.holds Try.pinned (OpenSpec.ofChange ladderAgreesWrong)

/- THE SECOND FORM. 'bulk': how many values and letters a reading holds, each counted each time it is reached (what is shared counts as often as it is met; a slice's spare places count too). A statement '..UptoSaid' is the law's where the arguments, and the package variables that the reading takes, are together of bulk at most 1048576: NARROWER than '..Said'. Prove '..Said' where nothing that the law and all that it calls make is longer than what came in: it says more and counts as full. Else prove '..UptoSaid'. A law counts once. -/
mutual
def uptoBulk {H : Type} : DataW H → Nat
  | .lit (.string bytes) => bytes.length + 1
  | .lit _ => 1
  | .nil => 1
  | .ptr d => uptoBulk d + 1
  | .slice elems spare => uptoBulkAll elems + uptoBulkAll spare + 1
  | .agg parts => uptoBulkAll parts + 1
  | .iface _ d => uptoBulk d + 1
  | .map entries => uptoBulkEntries entries + 1
  | .held _ => 1
def uptoBulkAll {H : Type} : List (DataW H) → Nat
  | [] => 0
  | d :: r => uptoBulk d + uptoBulkAll r
def uptoBulkEntries {H : Type} : List (Lit × DataW H) → Nat
  | [] => 0
  | x :: r => uptoBulkEntry x + uptoBulkEntries r
def uptoBulkEntry {H : Type} : Lit × DataW H → Nat
  | (.string bytes, d) => bytes.length + uptoBulk d + 1
  | (_, d) => uptoBulk d + 1
 end
def uptoSmall : (H : Type) → List (DataW H) → Bool := fun _ ds => decide (uptoBulkAll ds ≤ 1048576)
def OpenSpec.upto (s : _root_.Go.ChangeSpec) : _root_.Go.OpenSpec := { _root_.Go.OpenSpec.ofChange s with cond := some uptoSmall }

/-- 'sealwaxlaw05.LadderClamps', WHERE WHAT IT READS IS OF BULK AT MOST 1048576: true; the input reads as it did. -/
def ladderClampsUptoRow : OpenClaim := { program := "ytpeplakhcgaajaa", sum := "8ad96d41503433d084db650ddde8597b0c952814232b01fb19faa2756a72904b", func := "sealwax/sealwaxlaw05.LadderClamps", spec := "ladderClamps", unfollowed := true, recurses := true, apart := false, narrowed := true }
def LadderClampsUptoSaid : Prop := ladderClampsUptoRow.holds Try.pinned (OpenSpec.upto ladderClampsSpec)

/-- 'sealwaxlaw05.LadderMults', WHERE WHAT IT READS IS OF BULK AT MOST 1048576: true; the input reads as it did. -/
def ladderMultsUptoRow : OpenClaim := { program := "ytpeplakhcgaajaa", sum := "8ad96d41503433d084db650ddde8597b0c952814232b01fb19faa2756a72904b", func := "sealwax/sealwaxlaw05.LadderMults", spec := "ladderMults", unfollowed := true, recurses := true, apart := false, narrowed := true }
def LadderMultsUptoSaid : Prop := ladderMultsUptoRow.holds Try.pinned (OpenSpec.upto ladderMultsSpec)

/-- 'sealwaxlaw05.LadderShares', WHERE WHAT IT READS IS OF BULK AT MOST 1048576: true; the input reads as it did. -/
def ladderSharesUptoRow : OpenClaim := { program := "ytpeplakhcgaajaa", sum := "8ad96d41503433d084db650ddde8597b0c952814232b01fb19faa2756a72904b", func := "sealwax/sealwaxlaw05.LadderShares", spec := "ladderShares", unfollowed := true, recurses := true, apart := false, narrowed := true }
def LadderSharesUptoSaid : Prop := ladderSharesUptoRow.holds Try.pinned (OpenSpec.upto ladderSharesSpec)

/-- 'sealwaxlaw05.LadderBits', WHERE WHAT IT READS IS OF BULK AT MOST 1048576: true; the input reads as it did. -/
def ladderBitsUptoRow : OpenClaim := { program := "ytpeplakhcgaajaa", sum := "8ad96d41503433d084db650ddde8597b0c952814232b01fb19faa2756a72904b", func := "sealwax/sealwaxlaw05.LadderBits", spec := "ladderBits", unfollowed := true, recurses := true, apart := false, narrowed := true }
def LadderBitsUptoSaid : Prop := ladderBitsUptoRow.holds Try.pinned (OpenSpec.upto ladderBitsSpec)

/-- 'sealwaxlaw05.LadderPublics', WHERE WHAT IT READS IS OF BULK AT MOST 1048576: true; the input reads as it did. -/
def ladderPublicsUptoRow : OpenClaim := { program := "ytpeplakhcgaajaa", sum := "8ad96d41503433d084db650ddde8597b0c952814232b01fb19faa2756a72904b", func := "sealwax/sealwaxlaw05.LadderPublics", spec := "ladderPublics", unfollowed := true, recurses := true, apart := false, narrowed := true }
def LadderPublicsUptoSaid : Prop := ladderPublicsUptoRow.holds Try.pinned (OpenSpec.upto ladderPublicsSpec)

/-- 'sealwaxlaw05.LadderAgrees', WHERE WHAT IT READS IS OF BULK AT MOST 1048576: true; the input reads as it did. -/
def ladderAgreesUptoRow : OpenClaim := { program := "ytpeplakhcgaajaa", sum := "8ad96d41503433d084db650ddde8597b0c952814232b01fb19faa2756a72904b", func := "sealwax/sealwaxlaw05.LadderAgrees", spec := "ladderAgrees", unfollowed := true, recurses := true, apart := false, narrowed := true }
def LadderAgreesUptoSaid : Prop := ladderAgreesUptoRow.holds Try.pinned (OpenSpec.upto ladderAgreesSpec)

end Rows
end Go.Proofs.Ytpeplakhcgaajaa
