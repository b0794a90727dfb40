/- Contracts of layer 10's quarters. Own work. -/
import Derived.Test.YtclngijinhcdpaaSsA
import Derived.Test.YtclngijinhcdpaaEvS
import Derived.Test.YtclngijinhcdpaaChecked
namespace Go.Proofs.Ytclngijinhcdpaa
open Go.Ev Go.Sp Go.RowKit
set_option maxRecDepth 100000

theorem fol : Try.prog.follows .mixedOrders = true := by kernel_rfl
theorem gs0 : GSound Try.prog (upG (lookG [])) := GSound_of_tbl (l := []) trivial
theorem runTurn (w : BitVec 32) (n : Int) : fnS Try.prog (lookG []) (orcA []) [] 10 17 [sc (.u32 w), sc (.i64 n)] =
    some (sc (IV.u32 (w <<< n.toNat ||| w >>> ((32 : Int) - n).toNat)), [(0 : Int) ≤ n, inI64 ((32 : Int) - n), (0 : Int) ≤ (32 : Int) - n]) := by kernel_rfl
def leftTd : List Nat := [0, 1, 5]
def leftInv (w : BitVec 32) (n i : Int) : St := ⟨slotsOf 17 [(0, sc (.u32 w)), (1, sc (.i64 n)), (5, sc (.i64 i))], [], 16⟩
theorem leftRound (w : BitVec 32) (n i : Int) : roundS Try.prog (lookG []) (orcA [(2, [(2, true)])]) [] 10 leftTd (bodyAt Try.prog 16 2) (leftInv w n i) =
    some (Ex.normal, St.mk (slotsOf 17 [(0, sc (IV.u32 (w * BitVec.ofNat 32 2 + w / BitVec.ofNat 32 2147483648))), (1, sc (IV.i64 n)), (5, sc (IV.i64 (i + (1 : Int))))]) [] 16, [decide (i < n) = true, inI64 (i + (1 : Int))]) := by kernel_rfl
theorem leftExit (w : BitVec 32) (n i : Int) : roundS Try.prog (lookG []) (orcA [(2, [(2, false)])]) [] 10 leftTd (bodyAt Try.prog 16 2) (leftInv w n i) =
    some (Ex.exit 0, St.mk (slotsOf 17 [(0, sc (IV.u32 w)), (1, sc (IV.i64 n)), (5, sc (IV.i64 i))]) [] 16, [decide (i < n) = false]) := by kernel_rfl
theorem runLeft (w w2 : BitVec 32) (n i : Int) : fnS Try.prog (lookG []) (orcA []) [⟨2, leftTd, .exit 0, leftInv w2 n i⟩] 10 16 [sc (.u32 w), sc (.i64 n)] =
    some (sc (IV.u32 w2), [LoopTo Try.prog (bodyAt Try.prog 16 2) (St.mk (slotsOf 17 [(0, sc (IV.u32 w)), (1, sc (IV.i64 n)), (5, sc (IV.i64 (0 : Int)))]) [] 16) (Ex.exit 0) (St.mk (slotsOf 17 [(0, sc (IV.u32 w2)), (1, sc (IV.i64 n)), (5, sc (IV.i64 i))]) [] 16)]) := by kernel_rfl
def spRot : List AV → Option (AV × List Prop)
  | [.val false [.u32 w], .val false [.i64 n]] => some (sc (.u32 (rot w n.toNat)), [0 ≤ n, n ≤ 32])
  | _ => none
theorem ctTurn : CtSOk Try.prog 17 (.fn spRot) := FnS_of_fnS gs0 fol fun ds r cs h hc => by
  unfold spRot at h
  split at h
  case h_2 => simp at h
  rename_i w n
  simp only [Option.some.injEq, Prod.mk.injEq] at h
  obtain ⟨rfl, rfl⟩ := h
  obtain ⟨h0, h1, _⟩ := hc
  refine use_run (runTurn w n) ?_ ?_
  · have e : ((32 : Int) - n).toNat = 32 - n.toNat := by omega
    rw [e]
    rfl
  · simp only [AllP, inI64]
    and_intros <;> first | omega | trivial
theorem leftLoop (w : BitVec 32) (n : Nat) (hn : n ≤ 32) : LoopTo Try.prog (bodyAt Try.prog 16 2) (leftInv w (n : Nat) 0) (.exit 0) (leftInv (rot w n) (n : Nat) (n : Nat)) := by
  refine LoopTo.intro (α := Nat × BitVec 32) gs0 fol (fun s => leftInv s.2 (n : Nat) (s.1 : Nat)) (fun s => s.1 ≤ n ∧ s.2 = rot w s.1) (fun s => n - s.1) (by simp) ?_ (0, w) ⟨by simp, (rot_zero w).symm⟩
  rintro ⟨i, x⟩ ⟨hi, hx⟩
  dsimp only at hi hx ⊢
  subst hx
  by_cases he : i = n
  · subst he
    exact .inr ⟨_, _, _, _, _, leftExit _ _ _, by simp, trivial⟩
  · refine .inl ⟨_, _, _, _, _, (i + 1, _), leftRound _ _ _, ?_, ⟨by simp only; omega, rot_next w (by omega)⟩, by simp only; omega⟩
    simp only [AllP, inI64, decide_eq_true_eq]
    and_intros <;> first | omega | decide | trivial
theorem ctLeft : CtSOk Try.prog 16 (.fn spRot) := FnS_of_fnS gs0 fol fun ds r cs h hc => by
  unfold spRot at h
  split at h
  case h_2 => simp at h
  rename_i w n
  simp only [Option.some.injEq, Prod.mk.injEq] at h
  obtain ⟨rfl, rfl⟩ := h
  obtain ⟨h0, h1, _⟩ := hc
  obtain ⟨k, rfl⟩ := Int.eq_ofNat_of_zero_le h0
  exact use_run (runLeft w (rot w k) k k) (by rw [Int.toNat_natCast]) ⟨leftLoop w k (by omega), trivial⟩
def tblQ : List (FuncId × CtS) := [(17, .fn spRot), (16, .fn spRot)]
theorem gsQ : GSound Try.prog (upG (lookG tblQ)) := GSound_of_tbl ⟨⟨ctTurn, by kernel_rfl⟩, ⟨ctLeft, by kernel_rfl⟩, trivial⟩
def qL (a b c d : BitVec 32) : List (BitVec 32) := [(qr a b c d).1, (qr a b c d).2.1, (qr a b c d).2.2.1, (qr a b c d).2.2.2]
def qC : List Prop := [(0 : Int) ≤ (16 : Int), (16 : Int) ≤ (32 : Int), (0 : Int) ≤ (12 : Int), (12 : Int) ≤ (32 : Int), (0 : Int) ≤ (8 : Int), (8 : Int) ≤ (32 : Int), (0 : Int) ≤ (7 : Int), (7 : Int) ≤ (32 : Int)]
theorem qC_ok : AllP qC := by
  simp only [qC, AllP]
  and_intros <;> first | omega | trivial
theorem runQ (a b c d : BitVec 32) : fnS Try.prog (lookG tblQ) orc0 [] 10 9 [.val true [.v32 4 [a, b, c, d]]] = some (.val true [.v32 4 (qL a b c d)], qC) := by kernel_rfl
theorem runRQ (a b c d : BitVec 32) : fnS Try.prog (lookG tblQ) orc0 [] 10 8 [sc (.u32 a), sc (.u32 b), sc (.u32 c), sc (.u32 d)] = some (sc (.d32 (qL a b c d)), [(0 : Int) ≤ (16 : Int), (16 : Int) ≤ (32 : Int), (0 : Int) ≤ (12 : Int), (12 : Int) ≤ (32 : Int), (0 : Int) ≤ (8 : Int), (8 : Int) ≤ (32 : Int), (0 : Int) ≤ (7 : Int), (7 : Int) ≤ (32 : Int), 4 ≤ 4]) := by kernel_rfl
def spQ : List AV → Option (AV × List Prop)
  | [.val true [.v32 4 [a, b, c, d]]] => some (.val true [.v32 4 (qL a b c d)], [])
  | _ => none
theorem ctQ : CtSOk Try.prog 9 (.fn spQ) := FnS_of_fnS gsQ fol fun ds r cs h hc => by
  unfold spQ at h
  split at h
  case h_2 => simp at h
  rename_i a b c d
  simp only [Option.some.injEq, Prod.mk.injEq] at h
  obtain ⟨rfl, rfl⟩ := h
  exact use_run (runQ a b c d) rfl qC_ok
def spRQ : List AV → Option (AV × List Prop)
  | [.val false [.u32 a], .val false [.u32 b], .val false [.u32 c], .val false [.u32 d]] => some (sc (.d32 (qL a b c d)), [])
  | _ => none
theorem ctRQ : CtSOk Try.prog 8 (.fn spRQ) := FnS_of_fnS gsQ fol fun ds r cs h hc => by
  unfold spRQ at h
  split at h
  case h_2 => simp at h
  rename_i a b c d
  simp only [Option.some.injEq, Prod.mk.injEq] at h
  obtain ⟨rfl, rfl⟩ := h
  refine use_run (runRQ a b c d) rfl ?_
  simp only [AllP]
  and_intros <;> first | omega | trivial
def tblAwake : List (FuncId × CtS) := [(9, .fn spQ)]
theorem gsAwake : GSound Try.prog (upG (lookG tblAwake)) := GSound_of_tbl ⟨⟨ctQ, by kernel_rfl⟩, trivial⟩
theorem runAwake : fnS Try.prog (lookG tblAwake) orc0 [] 10 10 [] = some (sc (.bool true), []) := by kernel_rfl
def spAwake : List AV → Option (AV × List Prop)
  | [] => some (sc (.bool true), [])
  | _ => none
theorem ctAwake : CtSOk Try.prog 10 (.fn spAwake) := FnS_of_fnS gsAwake fol fun ds r cs h hc => by
  unfold spAwake at h
  split at h
  case h_2 => simp at h
  simp only [Option.some.injEq, Prod.mk.injEq] at h
  obtain ⟨rfl, rfl⟩ := h
  exact use_run runAwake rfl trivial
end Go.Proofs.Ytclngijinhcdpaa
