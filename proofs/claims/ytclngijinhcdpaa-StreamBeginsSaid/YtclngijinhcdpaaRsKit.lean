/- What the rows of this layer share. Own work; no statement of the seat is proved here. -/
import Derived.Test.YtclngijinhcdpaaEvW
import Derived.Test.YtclngijinhcdpaaSsF
import Derived.Test.YtclngijinhcdpaaRows
namespace Go.Proofs.Ytclngijinhcdpaa
open Go.Ev Go.Sp Go.ChangeShapes Go.WideShapes Go.RowKit
set_option maxRecDepth 100000

theorem own : ownKnob Try.prog.godebug = none := by kernel_rfl
theorem laidOut : laidOutB Try.prog = true := by kernel_rfl
theorem resBool {B : Nat} {w : World} {v : Value} {b : Bool} (h : ResOk B w (sc (.bool b)) v) : v = .bool b := by
  obtain ⟨ρ, _, _, h1, _⟩ := h 0
  have := VRepr_sc.1 h1
  simp [ICells, PCells] at this
  exact this.symm

theorem openSealed {H : Type} {enc : TypeId × Value → H} {W : World} {v : Value} {d : DataW H} {ps : List MemPlace} {base N : Nat} (hval : Value.okWide Try.prog W .any base 37 v) (hd : DataW.Trod enc Try.prog W 0 (fun _ => true) true 37 v d ps) (hN : ∀ y ∈ d.weights Try.prog 37, y ≤ N) :
    ∃ (k n : List (BitVec 8)) (c : BitVec 32) (b : List (BitVec 8)), DV W (.val true [.d8 k, .d8 n, .u32 c, .d8 b]) v ∧ k.length ≤ N ∧ n.length ≤ N ∧ b.length ≤ N := by
  have h8 : Opens enc Try.prog W N 29 (fun its => ∃ l : List (BitVec 8), its = [.d8 l] ∧ l.length ≤ N) := opens_d8 (e := 5) (by kernel_rfl) (by kernel_rfl) (by kernel_rfl) (by kernel_rfl)
  have h32 : Opens enc Try.prog W N 22 (fun its => ∃ x : BitVec 32, its = [.u32 x]) := opens_u32 (by kernel_rfl)
  obtain ⟨itss, h1, h2⟩ := open_st (ts := [29, 29, 22, 29]) (e := 4) (Rs := [_, _, _, _]) (by kernel_rfl) (by kernel_rfl) (by kernel_rfl) (by kernel_rfl) ⟨h8, h8, h32, h8, trivial⟩ hval hd hN
  match itss, h1 with
  | [_, _, _, _], ⟨⟨k, e1, l1⟩, ⟨n, e2, l2⟩, ⟨c, e3⟩, ⟨b, e4, l4⟩, _⟩ =>
    subst e1 e2 e3 e4
    exact ⟨k, n, c, b, h2, l1, l2, l4⟩
theorem xor_xor (k n : List (BitVec 8)) (c : BitVec 32) (b : List (BitVec 8)) : xorL k n c (xorL k n c b) = b := by
  refine ext_getD 0#8 (by rw [xorL_len, xorL_len]) fun i hi => ?_
  rw [xorL_len, xorL_len] at hi
  rw [xorL, getD_map_range _ _ _ (by rw [xorL_len]; exact hi), xorL, getD_map_range _ _ _ hi, BitVec.xor_assoc, BitVec.xor_self, BitVec.xor_zero]
end Go.Proofs.Ytclngijinhcdpaa
