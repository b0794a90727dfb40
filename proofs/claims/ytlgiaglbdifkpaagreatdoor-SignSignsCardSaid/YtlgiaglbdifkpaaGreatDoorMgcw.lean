/- Texts put together: SgI SgL EvN SgK SgZ. Own work. -/
import Derived.Test.YtlgiaglbdifkpaaGreatDoorMgcv
import Derived.ProofKit
import Derived.OpenShut
import Derived.SizedLaws
import Derived.Test.YtlgiaglbdifkpaaGreatDoorRows
import Derived.Test.YtlgiaglbdifkpaaGreatDoorTie
import Derived.Test.YtlgiaglbdifkpaaGreatDoorCards
import Derived.LaidMore
import Derived.Stop.Joined
import Derived.Lib.LaidTab
import Derived.SevenTiedAt
/- Signatures of the document: Verify, by contract. Own work. -/
namespace Go.Proofs.YtlgiaglbdifkpaaGreatDoor
open Go.Ev Go.Sp Go.RowKit
set_option maxRecDepth 100000
theorem VR48 {ρ : Nat → Pl} {v : Value} (h : VR1 ρ (true, [.vi 48 z48]) v) : VR1 ρ (true, [.fe 0, .fe 0, .fe 0]) v := by
  obtain ⟨vs, ⟨a, b, e1, h1, h2⟩, h3⟩ := h
  have hb : b = [] := h2
  have ha : some (z48.map intVal) = some a := h1
  refine ⟨vs, ⟨(digs16 0).map intVal, (digs16 0).map intVal ++ (digs16 0).map intVal, ?_, rfl, (digs16 0).map intVal, (digs16 0).map intVal, rfl, rfl, (digs16 0).map intVal, [], by rw [List.append_nil], rfl, rfl⟩, h3⟩
  rw [e1, hb, ← Option.some.inj ha]
  kernel_rfl
theorem ResOk48 {B : Nat} {w : World} {e : Int} {v : Value} (h : ResOk B w (.tup [(true, [.vi 48 z48]), (false, [.i64 e])]) v) : ResOk B w (.tup [(true, [.fe 0, .fe 0, .fe 0]), (false, [.i64 e])]) v := fun F => by
  obtain ⟨ρ, h1, h2, ⟨vs, e1, e2⟩, h4⟩ := h F
  refine ⟨ρ, h1, h2, ⟨vs, e1, ?_⟩, h4⟩
  match vs, e2 with
  | [a, b], ⟨p, q, r⟩ => exact ⟨VR48 p, q, r⟩
def spRDeG (X Y Z : BL → Nat) (E : BL → Int) : List AV → Option (AV × List Prop)
  | [.val false [.d8 b]] => some (.tup [(true, [.fe (X b), .fe (Y b), .fe (Z b)]), (false, [.i64 (E b)])], [])
  | _ => none
def uX (b : BL) : Nat := val (decR b).x
def uY (b : BL) : Nat := val (decR b).y
def uZ (b : BL) : Nat := if (decR b).e = 0 then 1 else 0
def uE (b : BL) : Int := (decR b).e
theorem ctRDeU : CtSOk Tryz.prog 27 (.fn (spRDeG uX uY uZ uE)) := FnS_intro fun ds r cs hd _ w vals hv => by
  unfold spRDeG at hd
  split at hd
  case h_2 => simp at hd
  rename_i b
  simp only [Option.some.injEq, Prod.mk.injEq] at hd
  obtain ⟨rfl, rfl⟩ := hd
  by_cases h : dOk b
  · have hX : dX b < Pp := wX_lt _ _
    have hY : dY b < Pp := h.2.1
    have e := decR_T h
    have e1 : uX b = dX b := by rw [uX, e]; exact val_lo hX
    have e2 : uY b = dY b := by rw [uY, e]; exact val_lo hY
    have e3 : uZ b = 1 := by rw [uZ, e]; rfl
    have e4 : uE b = 0 := by rw [uE, e]
    rw [e1, e2, e3, e4]
    exact FnS_use ctRDeT (show spRDeT dX dY [sc (.d8 b)] = some (.tup [(true, [.fe (dX b), .fe (dY b), .fe 1]), (false, [.i64 0])], [dOk b]) from rfl) ⟨h, trivial⟩ w vals hv
  · obtain ⟨e, h0⟩ := decR_E h
    have e1 : uX b = 0 := by rw [uX, e]; rfl
    have e2 : uY b = 0 := by rw [uY, e]; rfl
    have e3 : uZ b = 0 := by rw [uZ, e]; exact if_neg h0
    have e4 : uE b = dE b := by rw [uE, e]; rfl
    rw [e1, e2, e3, e4]
    exact CallsG.mono (FnS_use ctRDeE (show spRDeE dE [sc (.d8 b)] = some (.tup [(true, [.vi 48 z48]), (false, [.i64 (dE b)])], [¬ dOk b]) from rfl) ⟨h, trivial⟩ w vals hv) fun e w' ⟨v, h1, h2, h3⟩ => ⟨v, h1, h2, ResOk48 h3⟩
theorem pt_of {b : BL} (h : uE b = 0) : ∃ A : Pt Ed, decR b = prP A ∧ R3 A ⟨uX b, uY b, uZ b⟩ ∧ uX b < Pp ∧ uY b < Pp ∧ uZ b < Pp ∧ smallD ⟨uX b, uY b, uZ b⟩ = smallR (decR b).x (decR b).y := by
  by_cases hd : dOk b
  · have hon := (dec_back hd).1
    have e := decR_T hd
    have hX : uX b < Pp := by rw [uX, e]; exact (onV_iff.1 hon).1
    have hY : uY b < Pp := by rw [uY, e]; exact (onV_iff.1 hon).2.1
    have hZ : uZ b = 1 := by rw [uZ, e]; rfl
    have h3 := ptV_R3 hon
    have hs := law_small hon
    have x1 : val (ofN (dX b)) % Pp = uX b := by rw [uX, e] at hX ⊢; exact Nat.mod_eq_of_lt hX
    have y1 : val (ofN (dY b)) % Pp = uY b := by rw [uY, e] at hY ⊢; exact Nat.mod_eq_of_lt hY
    rw [x1, y1] at h3 hs
    refine ⟨ptV (ofN (dX b)) (ofN (dY b)) hon, by rw [prP_ptV hon, e], ?_, hX, hY, by rw [hZ]; exact one_lt, ?_⟩
    · rw [hZ]; exact h3
    · rw [hZ, hs, e]
  · exact absurd (show (decR b).e = 0 from h) (by rw [(decR_E hd).1]; exact (decR_E hd).2)
def spSDN (F : BL → Nat × Int) : List AV → Option (AV × List Prop)
  | [.val false [.d8 b]] => some (.tup [(false, [.dN (F b).1]), (false, [.i64 (F b).2])], [b.length ≤ 4000000])
  | _ => none
theorem ctRDecN : CtSOk Tryz.prog 26 (.fn (spSDN rdecV)) := ctRDec4
def tblVD0 : List (FuncId × CtS) := [(30, .fn (nil8 spJn)), (32, .fn spRBase), (34, .fn spRPt)]
theorem okVD0 : TblOk Tryz.prog tblVD0 := ⟨⟨ctJn8, by kernel_rfl⟩, ⟨ctRBase, by kernel_rfl⟩, ⟨ctRPt, by kernel_rfl⟩, trivial⟩
theorem gsVD0 : GSound Tryz.prog (upG (lookG tblVD0)) := GSound_of_tbl okVD0
def tblVD (f : BL → Nat) (F : BL → Nat × Int) (X Y Z : BL → Nat) (E : BL → Int) (s : T3 → Bool) (H : Nat → T3 → T3) (P : T3 → T3 → T3) : List (FuncId × CtS) :=
  (29, .fn (spLeftG f)) :: (26, .fn (spSDN F)) :: (27, .fn (spRDeG X Y Z E)) :: (28, .fn (spRSmG s)) :: (31, .fn (orD (spRTs H))) :: (33, .fn (spRPlusG P)) :: tblVD0
theorem gsVD : GSound Tryz.prog (upG (lookG (tblVD leftN rdecV uX uY uZ uE smallD tsD plusD))) := GSound_of_tbl ⟨⟨ctLeft9, by kernel_rfl⟩, ⟨ctRDecN, by kernel_rfl⟩, ⟨ctRDeU, by kernel_rfl⟩, ⟨ctRSm, by kernel_rfl⟩, ⟨FnS_orD ctRTs, by kernel_rfl⟩, ⟨ctRPlus, by kernel_rfl⟩, okVD0⟩
theorem runWfL (f : BL → Nat) (F : BL → Nat × Int) (X Y Z : BL → Nat) (E : BL → Int) (m : T3 → Bool) (H : Nat → T3 → T3) (P : T3 → T3 → T3) (k b s : BL) : fnS Tryz.prog (lookG (tblVD f F X Y Z E m H P)) (orcP [(1, [(2, true)])] [(3, [2]), (11, [2]), (14, [4])]) [] 20 11 [sc (.d8 k), sc (.d8 b), sc (.d8 s)] =
    some (sc (IV.i64 (1 : Int)), [(!(↑(List.length k) : Int) == (32 : Int)) = true]) := by kernel_rfl
theorem runWfS (f : BL → Nat) (F : BL → Nat × Int) (X Y Z : BL → Nat) (E : BL → Int) (m : T3 → Bool) (H : Nat → T3 → T3) (P : T3 → T3 → T3) (k b s : BL) : fnS Tryz.prog (lookG (tblVD f F X Y Z E m H P)) (orcP [(1, [(2, false), (6, true)])] [(3, [2]), (11, [2]), (14, [4])]) [] 20 11 [sc (.d8 k), sc (.d8 b), sc (.d8 s)] =
    some (sc (IV.i64 (1 : Int)), [(!(↑(List.length k) : Int) == (32 : Int)) = false, (!(↑(List.length s) : Int) == (64 : Int)) = true]) := by kernel_rfl
theorem runWfF (f : BL → Nat) (F : BL → Nat × Int) (X Y Z : BL → Nat) (E : BL → Int) (m : T3 → Bool) (H : Nat → T3 → T3) (P : T3 → T3 → T3) (k b s : BL) : fnS Tryz.prog (lookG (tblVD f F X Y Z E m H P)) (orcP [(1, [(2, false), (6, false)]), (4, [(1, true)])] [(3, [2]), (11, [2]), (14, [4])]) [] 20 11 [sc (.d8 k), sc (.d8 b), sc (.d8 s)] =
    some (sc (IV.i64 (F (cutL s (0 + Int.toNat (32 : Int)) (List.length s - Int.toNat (32 : Int)) (List.length s))).snd), [(!(↑(List.length k) : Int) == (32 : Int)) = false, (!(↑(List.length s) : Int) == (64 : Int)) = false, (0 : Int) ≤ (32 : Int), 32 ≤ List.length s, List.length s ≤ List.length s, 32 + (List.length s - 32) ≤ List.length s, (cutL s 32 (List.length s - 32) (List.length s)).length ≤ 4000000, (!(F (cutL s (0 + Int.toNat (32 : Int)) (List.length s - Int.toNat (32 : Int)) (List.length s))).snd == (0 : Int)) = true]) := by kernel_rfl
theorem runWfK (f : BL → Nat) (F : BL → Nat × Int) (X Y Z : BL → Nat) (E : BL → Int) (m : T3 → Bool) (H : Nat → T3 → T3) (P : T3 → T3 → T3) (k b s : BL) : fnS Tryz.prog (lookG (tblVD f F X Y Z E m H P)) (orcP [(1, [(2, false), (6, false)]), (4, [(1, false)]), (7, [(1, true)])] [(3, [2]), (11, [2]), (14, [4])]) [] 20 11 [sc (.d8 k), sc (.d8 b), sc (.d8 s)] =
    some (sc (IV.i64 (E k)), [(!(↑(List.length k) : Int) == (32 : Int)) = false, (!(↑(List.length s) : Int) == (64 : Int)) = false, (0 : Int) ≤ (32 : Int), 32 ≤ List.length s, List.length s ≤ List.length s, 32 + (List.length s - 32) ≤ List.length s, (cutL s 32 (List.length s - 32) (List.length s)).length ≤ 4000000, (!(F (cutL s (0 + Int.toNat (32 : Int)) (List.length s - Int.toNat (32 : Int)) (List.length s))).snd == (0 : Int)) = false, List.length k = List.length k, (!E k == (0 : Int)) = true]) := by kernel_rfl
theorem runWfM (f : BL → Nat) (F : BL → Nat × Int) (X Y Z : BL → Nat) (E : BL → Int) (m : T3 → Bool) (H : Nat → T3 → T3) (P : T3 → T3 → T3) (k b s : BL) : fnS Tryz.prog (lookG (tblVD f F X Y Z E m H P)) (orcP [(1, [(2, false), (6, false)]), (4, [(1, false)]), (7, [(1, false)]), (9, [(1, true)])] [(3, [2]), (11, [2]), (14, [4])]) [] 20 11 [sc (.d8 k), sc (.d8 b), sc (.d8 s)] =
    some (sc (IV.i64 (7 : Int)), [(!(↑(List.length k) : Int) == (32 : Int)) = false, (!(↑(List.length s) : Int) == (64 : Int)) = false, (0 : Int) ≤ (32 : Int), 32 ≤ List.length s, List.length s ≤ List.length s, 32 + (List.length s - 32) ≤ List.length s, (cutL s 32 (List.length s - 32) (List.length s)).length ≤ 4000000, (!(F (cutL s (0 + Int.toNat (32 : Int)) (List.length s - Int.toNat (32 : Int)) (List.length s))).snd == (0 : Int)) = false, List.length k = List.length k, (!E k == (0 : Int)) = false, X k < Pp, Y k < Pp, Z k < Pp, m (T3.mk (X k) (Y k) (Z k)) = true]) := by kernel_rfl
theorem runWfR (f : BL → Nat) (F : BL → Nat × Int) (X Y Z : BL → Nat) (E : BL → Int) (m : T3 → Bool) (H : Nat → T3 → T3) (P : T3 → T3 → T3) (k b s : BL) : fnS Tryz.prog (lookG (tblVD f F X Y Z E m H P)) (orcP [(1, [(2, false), (6, false)]), (4, [(1, false)]), (7, [(1, false)]), (9, [(1, false)]), (12, [(1, true)])] [(3, [2]), (11, [2]), (14, [4])]) [] 20 11 [sc (.d8 k), sc (.d8 b), sc (.d8 s)] =
    some (sc (IV.i64 (E (cutL s 0 32 (List.length s)))), [(!(↑(List.length k) : Int) == (32 : Int)) = false, (!(↑(List.length s) : Int) == (64 : Int)) = false, (0 : Int) ≤ (32 : Int), 32 ≤ List.length s, List.length s ≤ List.length s, 32 + (List.length s - 32) ≤ List.length s, (cutL s 32 (List.length s - 32) (List.length s)).length ≤ 4000000, (!(F (cutL s (0 + Int.toNat (32 : Int)) (List.length s - Int.toNat (32 : Int)) (List.length s))).snd == (0 : Int)) = false, List.length k = List.length k, (!E k == (0 : Int)) = false, X k < Pp, Y k < Pp, Z k < Pp, m (T3.mk (X k) (Y k) (Z k)) = false, (0 : Int) ≤ (32 : Int), 0 ≤ 32, 32 ≤ List.length s, 32 ≤ List.length s, (!E (cutL s 0 32 (List.length s)) == (0 : Int)) = true]) := by kernel_rfl
theorem runWfN (f : BL → Nat) (F : BL → Nat × Int) (X Y Z : BL → Nat) (E : BL → Int) (m : T3 → Bool) (H : Nat → T3 → T3) (P : T3 → T3 → T3) (k b s : BL) : fnS Tryz.prog (lookG (tblVD f F X Y Z E m H P)) (orcP [(1, [(2, false), (6, false)]), (4, [(1, false)]), (7, [(1, false)]), (9, [(1, false)]), (12, [(1, false)]), (17, [(4, true)])] [(3, [2]), (11, [2]), (14, [4])]) [] 20 11 [sc (.d8 k), sc (.d8 b), sc (.d8 s)] =
    some (sc (IV.i64 (10 : Int)), [(!(↑(List.length k) : Int) == (32 : Int)) = false, (!(↑(List.length s) : Int) == (64 : Int)) = false, (0 : Int) ≤ (32 : Int), 32 ≤ List.length s, List.length s ≤ List.length s, 32 + (List.length s - 32) ≤ List.length s, (cutL s 32 (List.length s - 32) (List.length s)).length ≤ 4000000, (!(F (cutL s (0 + Int.toNat (32 : Int)) (List.length s - Int.toNat (32 : Int)) (List.length s))).snd == (0 : Int)) = false, List.length k = List.length k, (!E k == (0 : Int)) = false, X k < Pp, Y k < Pp, Z k < Pp, m (T3.mk (X k) (Y k) (Z k)) = false, (0 : Int) ≤ (32 : Int), 0 ≤ 32, 32 ≤ List.length s, 32 ≤ List.length s, (!E (cutL s 0 32 (List.length s)) == (0 : Int)) = false, (0 : Int) ≤ (32 : Int), 0 ≤ 32, 32 ≤ List.length s, 32 ≤ List.length s, 0 + List.length k ≤ List.length k, 0 + List.length b ≤ List.length b, (cutL s 0 32 (List.length s)).length + (cutL k 0 (List.length k) (List.length k)).length + (cutL b 0 (List.length b) (List.length b)).length ≤ 100000, (cutL s 0 32 (List.length s) ++ cutL k 0 (List.length k) (List.length k) ++ cutL b 0 (List.length b) (List.length b)).length = (cutL s 0 32 (List.length s) ++ cutL k 0 (List.length k) (List.length k) ++ cutL b 0 (List.length b) (List.length b)).length, (cutL s 0 32 (List.length s) ++ cutL k 0 (List.length k) (List.length k) ++ cutL b 0 (List.length b) (List.length b)).length ≤ 100000, (dg (F (cutL s (0 + Int.toNat (32 : Int)) (List.length s - Int.toNat (32 : Int)) (List.length s))).fst).length = (dg (F (cutL s (0 + Int.toNat (32 : Int)) (List.length s - Int.toNat (32 : Int)) (List.length s))).fst).length, Sm (F (cutL s (0 + Int.toNat (32 : Int)) (List.length s - Int.toNat (32 : Int)) (List.length s))).fst, bxN < Pp, byN < Pp, 1 < Pp, (dg (f (cutL s 0 32 (List.length s) ++ cutL k 0 (List.length k) (List.length k) ++ cutL b 0 (List.length b) (List.length b)))).length = (dg (f (cutL s 0 32 (List.length s) ++ cutL k 0 (List.length k) (List.length k) ++ cutL b 0 (List.length b) (List.length b)))).length, Sm (f (cutL s 0 32 (List.length s) ++ cutL k 0 (List.length k) (List.length k) ++ cutL b 0 (List.length b) (List.length b))), X k < Pp, Y k < Pp, Z k < Pp, X (cutL s 0 32 (List.length s)) < Pp, Y (cutL s 0 32 (List.length s)) < Pp, Z (cutL s 0 32 (List.length s)) < Pp, (H (f (cutL s (0 + 0) (Int.toNat (32 : Int) - 0) (List.length s) ++ cutL k 0 (List.length k) (List.length k) ++ cutL b 0 (List.length b) (List.length b))) (T3.mk (X k) (Y k) (Z k))).x < Pp, (H (f (cutL s (0 + 0) (Int.toNat (32 : Int) - 0) (List.length s) ++ cutL k 0 (List.length k) (List.length k) ++ cutL b 0 (List.length b) (List.length b))) (T3.mk (X k) (Y k) (Z k))).y < Pp, (H (f (cutL s (0 + 0) (Int.toNat (32 : Int) - 0) (List.length s) ++ cutL k 0 (List.length k) (List.length k) ++ cutL b 0 (List.length b) (List.length b))) (T3.mk (X k) (Y k) (Z k))).z < Pp, (H (F (cutL s (0 + Int.toNat (32 : Int)) (List.length s - Int.toNat (32 : Int)) (List.length s))).fst (T3.mk bxN byN 1)).x < Pp, (H (F (cutL s (0 + Int.toNat (32 : Int)) (List.length s - Int.toNat (32 : Int)) (List.length s))).fst (T3.mk bxN byN 1)).y < Pp, (H (F (cutL s (0 + Int.toNat (32 : Int)) (List.length s - Int.toNat (32 : Int)) (List.length s))).fst (T3.mk bxN byN 1)).z < Pp, (P (T3.mk (X (cutL s (0 + 0) (Int.toNat (32 : Int) - 0) (List.length s))) (Y (cutL s (0 + 0) (Int.toNat (32 : Int) - 0) (List.length s))) (Z (cutL s (0 + 0) (Int.toNat (32 : Int) - 0) (List.length s)))) (T3.mk (H (f (cutL s (0 + 0) (Int.toNat (32 : Int) - 0) (List.length s) ++ cutL k 0 (List.length k) (List.length k) ++ cutL b 0 (List.length b) (List.length b))) (T3.mk (X k) (Y k) (Z k))).x (H (f (cutL s (0 + 0) (Int.toNat (32 : Int) - 0) (List.length s) ++ cutL k 0 (List.length k) (List.length k) ++ cutL b 0 (List.length b) (List.length b))) (T3.mk (X k) (Y k) (Z k))).y (H (f (cutL s (0 + 0) (Int.toNat (32 : Int) - 0) (List.length s) ++ cutL k 0 (List.length k) (List.length k) ++ cutL b 0 (List.length b) (List.length b))) (T3.mk (X k) (Y k) (Z k))).z)).x < Pp, (P (T3.mk (X (cutL s (0 + 0) (Int.toNat (32 : Int) - 0) (List.length s))) (Y (cutL s (0 + 0) (Int.toNat (32 : Int) - 0) (List.length s))) (Z (cutL s (0 + 0) (Int.toNat (32 : Int) - 0) (List.length s)))) (T3.mk (H (f (cutL s (0 + 0) (Int.toNat (32 : Int) - 0) (List.length s) ++ cutL k 0 (List.length k) (List.length k) ++ cutL b 0 (List.length b) (List.length b))) (T3.mk (X k) (Y k) (Z k))).x (H (f (cutL s (0 + 0) (Int.toNat (32 : Int) - 0) (List.length s) ++ cutL k 0 (List.length k) (List.length k) ++ cutL b 0 (List.length b) (List.length b))) (T3.mk (X k) (Y k) (Z k))).y (H (f (cutL s (0 + 0) (Int.toNat (32 : Int) - 0) (List.length s) ++ cutL k 0 (List.length k) (List.length k) ++ cutL b 0 (List.length b) (List.length b))) (T3.mk (X k) (Y k) (Z k))).z)).y < Pp, (P (T3.mk (X (cutL s (0 + 0) (Int.toNat (32 : Int) - 0) (List.length s))) (Y (cutL s (0 + 0) (Int.toNat (32 : Int) - 0) (List.length s))) (Z (cutL s (0 + 0) (Int.toNat (32 : Int) - 0) (List.length s)))) (T3.mk (H (f (cutL s (0 + 0) (Int.toNat (32 : Int) - 0) (List.length s) ++ cutL k 0 (List.length k) (List.length k) ++ cutL b 0 (List.length b) (List.length b))) (T3.mk (X k) (Y k) (Z k))).x (H (f (cutL s (0 + 0) (Int.toNat (32 : Int) - 0) (List.length s) ++ cutL k 0 (List.length k) (List.length k) ++ cutL b 0 (List.length b) (List.length b))) (T3.mk (X k) (Y k) (Z k))).y (H (f (cutL s (0 + 0) (Int.toNat (32 : Int) - 0) (List.length s) ++ cutL k 0 (List.length k) (List.length k) ++ cutL b 0 (List.length b) (List.length b))) (T3.mk (X k) (Y k) (Z k))).z)).z < Pp, (!((ofN (fMul (H (F (cutL s (0 + Int.toNat (32 : Int)) (List.length s - Int.toNat (32 : Int)) (List.length s))).fst (T3.mk bxN byN 1)).x (fInv (H (F (cutL s (0 + Int.toNat (32 : Int)) (List.length s - Int.toNat (32 : Int)) (List.length s))).fst (T3.mk bxN byN 1)).z))).eq (ofN (fMul (P (T3.mk (X (cutL s (0 + 0) (Int.toNat (32 : Int) - 0) (List.length s))) (Y (cutL s (0 + 0) (Int.toNat (32 : Int) - 0) (List.length s))) (Z (cutL s (0 + 0) (Int.toNat (32 : Int) - 0) (List.length s)))) (T3.mk (H (f (cutL s (0 + 0) (Int.toNat (32 : Int) - 0) (List.length s) ++ cutL k 0 (List.length k) (List.length k) ++ cutL b 0 (List.length b) (List.length b))) (T3.mk (X k) (Y k) (Z k))).x (H (f (cutL s (0 + 0) (Int.toNat (32 : Int) - 0) (List.length s) ++ cutL k 0 (List.length k) (List.length k) ++ cutL b 0 (List.length b) (List.length b))) (T3.mk (X k) (Y k) (Z k))).y (H (f (cutL s (0 + 0) (Int.toNat (32 : Int) - 0) (List.length s) ++ cutL k 0 (List.length k) (List.length k) ++ cutL b 0 (List.length b) (List.length b))) (T3.mk (X k) (Y k) (Z k))).z)).x (fInv (P (T3.mk (X (cutL s (0 + 0) (Int.toNat (32 : Int) - 0) (List.length s))) (Y (cutL s (0 + 0) (Int.toNat (32 : Int) - 0) (List.length s))) (Z (cutL s (0 + 0) (Int.toNat (32 : Int) - 0) (List.length s)))) (T3.mk (H (f (cutL s (0 + 0) (Int.toNat (32 : Int) - 0) (List.length s) ++ cutL k 0 (List.length k) (List.length k) ++ cutL b 0 (List.length b) (List.length b))) (T3.mk (X k) (Y k) (Z k))).x (H (f (cutL s (0 + 0) (Int.toNat (32 : Int) - 0) (List.length s) ++ cutL k 0 (List.length k) (List.length k) ++ cutL b 0 (List.length b) (List.length b))) (T3.mk (X k) (Y k) (Z k))).y (H (f (cutL s (0 + 0) (Int.toNat (32 : Int) - 0) (List.length s) ++ cutL k 0 (List.length k) (List.length k) ++ cutL b 0 (List.length b) (List.length b))) (T3.mk (X k) (Y k) (Z k))).z)).z))) && ((ofN (fMul (H (F (cutL s (0 + Int.toNat (32 : Int)) (List.length s - Int.toNat (32 : Int)) (List.length s))).fst (T3.mk bxN byN 1)).y (fInv (H (F (cutL s (0 + Int.toNat (32 : Int)) (List.length s - Int.toNat (32 : Int)) (List.length s))).fst (T3.mk bxN byN 1)).z))).eq (ofN (fMul (P (T3.mk (X (cutL s (0 + 0) (Int.toNat (32 : Int) - 0) (List.length s))) (Y (cutL s (0 + 0) (Int.toNat (32 : Int) - 0) (List.length s))) (Z (cutL s (0 + 0) (Int.toNat (32 : Int) - 0) (List.length s)))) (T3.mk (H (f (cutL s (0 + 0) (Int.toNat (32 : Int) - 0) (List.length s) ++ cutL k 0 (List.length k) (List.length k) ++ cutL b 0 (List.length b) (List.length b))) (T3.mk (X k) (Y k) (Z k))).x (H (f (cutL s (0 + 0) (Int.toNat (32 : Int) - 0) (List.length s) ++ cutL k 0 (List.length k) (List.length k) ++ cutL b 0 (List.length b) (List.length b))) (T3.mk (X k) (Y k) (Z k))).y (H (f (cutL s (0 + 0) (Int.toNat (32 : Int) - 0) (List.length s) ++ cutL k 0 (List.length k) (List.length k) ++ cutL b 0 (List.length b) (List.length b))) (T3.mk (X k) (Y k) (Z k))).z)).y (fInv (P (T3.mk (X (cutL s (0 + 0) (Int.toNat (32 : Int) - 0) (List.length s))) (Y (cutL s (0 + 0) (Int.toNat (32 : Int) - 0) (List.length s))) (Z (cutL s (0 + 0) (Int.toNat (32 : Int) - 0) (List.length s)))) (T3.mk (H (f (cutL s (0 + 0) (Int.toNat (32 : Int) - 0) (List.length s) ++ cutL k 0 (List.length k) (List.length k) ++ cutL b 0 (List.length b) (List.length b))) (T3.mk (X k) (Y k) (Z k))).x (H (f (cutL s (0 + 0) (Int.toNat (32 : Int) - 0) (List.length s) ++ cutL k 0 (List.length k) (List.length k) ++ cutL b 0 (List.length b) (List.length b))) (T3.mk (X k) (Y k) (Z k))).y (H (f (cutL s (0 + 0) (Int.toNat (32 : Int) - 0) (List.length s) ++ cutL k 0 (List.length k) (List.length k) ++ cutL b 0 (List.length b) (List.length b))) (T3.mk (X k) (Y k) (Z k))).z)).z))) && true))) = true]) := by kernel_rfl
theorem runWfY (f : BL → Nat) (F : BL → Nat × Int) (X Y Z : BL → Nat) (E : BL → Int) (m : T3 → Bool) (H : Nat → T3 → T3) (P : T3 → T3 → T3) (k b s : BL) : fnS Tryz.prog (lookG (tblVD f F X Y Z E m H P)) (orcP [(1, [(2, false), (6, false)]), (4, [(1, false)]), (7, [(1, false)]), (9, [(1, false)]), (12, [(1, false)]), (17, [(4, false)])] [(3, [2]), (11, [2]), (14, [4])]) [] 20 11 [sc (.d8 k), sc (.d8 b), sc (.d8 s)] =
    some (sc (IV.i64 (0 : Int)), [(!(↑(List.length k) : Int) == (32 : Int)) = false, (!(↑(List.length s) : Int) == (64 : Int)) = false, (0 : Int) ≤ (32 : Int), 32 ≤ List.length s, List.length s ≤ List.length s, 32 + (List.length s - 32) ≤ List.length s, (cutL s 32 (List.length s - 32) (List.length s)).length ≤ 4000000, (!(F (cutL s (0 + Int.toNat (32 : Int)) (List.length s - Int.toNat (32 : Int)) (List.length s))).snd == (0 : Int)) = false, List.length k = List.length k, (!E k == (0 : Int)) = false, X k < Pp, Y k < Pp, Z k < Pp, m (T3.mk (X k) (Y k) (Z k)) = false, (0 : Int) ≤ (32 : Int), 0 ≤ 32, 32 ≤ List.length s, 32 ≤ List.length s, (!E (cutL s 0 32 (List.length s)) == (0 : Int)) = false, (0 : Int) ≤ (32 : Int), 0 ≤ 32, 32 ≤ List.length s, 32 ≤ List.length s, 0 + List.length k ≤ List.length k, 0 + List.length b ≤ List.length b, (cutL s 0 32 (List.length s)).length + (cutL k 0 (List.length k) (List.length k)).length + (cutL b 0 (List.length b) (List.length b)).length ≤ 100000, (cutL s 0 32 (List.length s) ++ cutL k 0 (List.length k) (List.length k) ++ cutL b 0 (List.length b) (List.length b)).length = (cutL s 0 32 (List.length s) ++ cutL k 0 (List.length k) (List.length k) ++ cutL b 0 (List.length b) (List.length b)).length, (cutL s 0 32 (List.length s) ++ cutL k 0 (List.length k) (List.length k) ++ cutL b 0 (List.length b) (List.length b)).length ≤ 100000, (dg (F (cutL s (0 + Int.toNat (32 : Int)) (List.length s - Int.toNat (32 : Int)) (List.length s))).fst).length = (dg (F (cutL s (0 + Int.toNat (32 : Int)) (List.length s - Int.toNat (32 : Int)) (List.length s))).fst).length, Sm (F (cutL s (0 + Int.toNat (32 : Int)) (List.length s - Int.toNat (32 : Int)) (List.length s))).fst, bxN < Pp, byN < Pp, 1 < Pp, (dg (f (cutL s 0 32 (List.length s) ++ cutL k 0 (List.length k) (List.length k) ++ cutL b 0 (List.length b) (List.length b)))).length = (dg (f (cutL s 0 32 (List.length s) ++ cutL k 0 (List.length k) (List.length k) ++ cutL b 0 (List.length b) (List.length b)))).length, Sm (f (cutL s 0 32 (List.length s) ++ cutL k 0 (List.length k) (List.length k) ++ cutL b 0 (List.length b) (List.length b))), X k < Pp, Y k < Pp, Z k < Pp, X (cutL s 0 32 (List.length s)) < Pp, Y (cutL s 0 32 (List.length s)) < Pp, Z (cutL s 0 32 (List.length s)) < Pp, (H (f (cutL s (0 + 0) (Int.toNat (32 : Int) - 0) (List.length s) ++ cutL k 0 (List.length k) (List.length k) ++ cutL b 0 (List.length b) (List.length b))) (T3.mk (X k) (Y k) (Z k))).x < Pp, (H (f (cutL s (0 + 0) (Int.toNat (32 : Int) - 0) (List.length s) ++ cutL k 0 (List.length k) (List.length k) ++ cutL b 0 (List.length b) (List.length b))) (T3.mk (X k) (Y k) (Z k))).y < Pp, (H (f (cutL s (0 + 0) (Int.toNat (32 : Int) - 0) (List.length s) ++ cutL k 0 (List.length k) (List.length k) ++ cutL b 0 (List.length b) (List.length b))) (T3.mk (X k) (Y k) (Z k))).z < Pp, (H (F (cutL s (0 + Int.toNat (32 : Int)) (List.length s - Int.toNat (32 : Int)) (List.length s))).fst (T3.mk bxN byN 1)).x < Pp, (H (F (cutL s (0 + Int.toNat (32 : Int)) (List.length s - Int.toNat (32 : Int)) (List.length s))).fst (T3.mk bxN byN 1)).y < Pp, (H (F (cutL s (0 + Int.toNat (32 : Int)) (List.length s - Int.toNat (32 : Int)) (List.length s))).fst (T3.mk bxN byN 1)).z < Pp, (P (T3.mk (X (cutL s (0 + 0) (Int.toNat (32 : Int) - 0) (List.length s))) (Y (cutL s (0 + 0) (Int.toNat (32 : Int) - 0) (List.length s))) (Z (cutL s (0 + 0) (Int.toNat (32 : Int) - 0) (List.length s)))) (T3.mk (H (f (cutL s (0 + 0) (Int.toNat (32 : Int) - 0) (List.length s) ++ cutL k 0 (List.length k) (List.length k) ++ cutL b 0 (List.length b) (List.length b))) (T3.mk (X k) (Y k) (Z k))).x (H (f (cutL s (0 + 0) (Int.toNat (32 : Int) - 0) (List.length s) ++ cutL k 0 (List.length k) (List.length k) ++ cutL b 0 (List.length b) (List.length b))) (T3.mk (X k) (Y k) (Z k))).y (H (f (cutL s (0 + 0) (Int.toNat (32 : Int) - 0) (List.length s) ++ cutL k 0 (List.length k) (List.length k) ++ cutL b 0 (List.length b) (List.length b))) (T3.mk (X k) (Y k) (Z k))).z)).x < Pp, (P (T3.mk (X (cutL s (0 + 0) (Int.toNat (32 : Int) - 0) (List.length s))) (Y (cutL s (0 + 0) (Int.toNat (32 : Int) - 0) (List.length s))) (Z (cutL s (0 + 0) (Int.toNat (32 : Int) - 0) (List.length s)))) (T3.mk (H (f (cutL s (0 + 0) (Int.toNat (32 : Int) - 0) (List.length s) ++ cutL k 0 (List.length k) (List.length k) ++ cutL b 0 (List.length b) (List.length b))) (T3.mk (X k) (Y k) (Z k))).x (H (f (cutL s (0 + 0) (Int.toNat (32 : Int) - 0) (List.length s) ++ cutL k 0 (List.length k) (List.length k) ++ cutL b 0 (List.length b) (List.length b))) (T3.mk (X k) (Y k) (Z k))).y (H (f (cutL s (0 + 0) (Int.toNat (32 : Int) - 0) (List.length s) ++ cutL k 0 (List.length k) (List.length k) ++ cutL b 0 (List.length b) (List.length b))) (T3.mk (X k) (Y k) (Z k))).z)).y < Pp, (P (T3.mk (X (cutL s (0 + 0) (Int.toNat (32 : Int) - 0) (List.length s))) (Y (cutL s (0 + 0) (Int.toNat (32 : Int) - 0) (List.length s))) (Z (cutL s (0 + 0) (Int.toNat (32 : Int) - 0) (List.length s)))) (T3.mk (H (f (cutL s (0 + 0) (Int.toNat (32 : Int) - 0) (List.length s) ++ cutL k 0 (List.length k) (List.length k) ++ cutL b 0 (List.length b) (List.length b))) (T3.mk (X k) (Y k) (Z k))).x (H (f (cutL s (0 + 0) (Int.toNat (32 : Int) - 0) (List.length s) ++ cutL k 0 (List.length k) (List.length k) ++ cutL b 0 (List.length b) (List.length b))) (T3.mk (X k) (Y k) (Z k))).y (H (f (cutL s (0 + 0) (Int.toNat (32 : Int) - 0) (List.length s) ++ cutL k 0 (List.length k) (List.length k) ++ cutL b 0 (List.length b) (List.length b))) (T3.mk (X k) (Y k) (Z k))).z)).z < Pp, (!((ofN (fMul (H (F (cutL s (0 + Int.toNat (32 : Int)) (List.length s - Int.toNat (32 : Int)) (List.length s))).fst (T3.mk bxN byN 1)).x (fInv (H (F (cutL s (0 + Int.toNat (32 : Int)) (List.length s - Int.toNat (32 : Int)) (List.length s))).fst (T3.mk bxN byN 1)).z))).eq (ofN (fMul (P (T3.mk (X (cutL s (0 + 0) (Int.toNat (32 : Int) - 0) (List.length s))) (Y (cutL s (0 + 0) (Int.toNat (32 : Int) - 0) (List.length s))) (Z (cutL s (0 + 0) (Int.toNat (32 : Int) - 0) (List.length s)))) (T3.mk (H (f (cutL s (0 + 0) (Int.toNat (32 : Int) - 0) (List.length s) ++ cutL k 0 (List.length k) (List.length k) ++ cutL b 0 (List.length b) (List.length b))) (T3.mk (X k) (Y k) (Z k))).x (H (f (cutL s (0 + 0) (Int.toNat (32 : Int) - 0) (List.length s) ++ cutL k 0 (List.length k) (List.length k) ++ cutL b 0 (List.length b) (List.length b))) (T3.mk (X k) (Y k) (Z k))).y (H (f (cutL s (0 + 0) (Int.toNat (32 : Int) - 0) (List.length s) ++ cutL k 0 (List.length k) (List.length k) ++ cutL b 0 (List.length b) (List.length b))) (T3.mk (X k) (Y k) (Z k))).z)).x (fInv (P (T3.mk (X (cutL s (0 + 0) (Int.toNat (32 : Int) - 0) (List.length s))) (Y (cutL s (0 + 0) (Int.toNat (32 : Int) - 0) (List.length s))) (Z (cutL s (0 + 0) (Int.toNat (32 : Int) - 0) (List.length s)))) (T3.mk (H (f (cutL s (0 + 0) (Int.toNat (32 : Int) - 0) (List.length s) ++ cutL k 0 (List.length k) (List.length k) ++ cutL b 0 (List.length b) (List.length b))) (T3.mk (X k) (Y k) (Z k))).x (H (f (cutL s (0 + 0) (Int.toNat (32 : Int) - 0) (List.length s) ++ cutL k 0 (List.length k) (List.length k) ++ cutL b 0 (List.length b) (List.length b))) (T3.mk (X k) (Y k) (Z k))).y (H (f (cutL s (0 + 0) (Int.toNat (32 : Int) - 0) (List.length s) ++ cutL k 0 (List.length k) (List.length k) ++ cutL b 0 (List.length b) (List.length b))) (T3.mk (X k) (Y k) (Z k))).z)).z))) && ((ofN (fMul (H (F (cutL s (0 + Int.toNat (32 : Int)) (List.length s - Int.toNat (32 : Int)) (List.length s))).fst (T3.mk bxN byN 1)).y (fInv (H (F (cutL s (0 + Int.toNat (32 : Int)) (List.length s - Int.toNat (32 : Int)) (List.length s))).fst (T3.mk bxN byN 1)).z))).eq (ofN (fMul (P (T3.mk (X (cutL s (0 + 0) (Int.toNat (32 : Int) - 0) (List.length s))) (Y (cutL s (0 + 0) (Int.toNat (32 : Int) - 0) (List.length s))) (Z (cutL s (0 + 0) (Int.toNat (32 : Int) - 0) (List.length s)))) (T3.mk (H (f (cutL s (0 + 0) (Int.toNat (32 : Int) - 0) (List.length s) ++ cutL k 0 (List.length k) (List.length k) ++ cutL b 0 (List.length b) (List.length b))) (T3.mk (X k) (Y k) (Z k))).x (H (f (cutL s (0 + 0) (Int.toNat (32 : Int) - 0) (List.length s) ++ cutL k 0 (List.length k) (List.length k) ++ cutL b 0 (List.length b) (List.length b))) (T3.mk (X k) (Y k) (Z k))).y (H (f (cutL s (0 + 0) (Int.toNat (32 : Int) - 0) (List.length s) ++ cutL k 0 (List.length k) (List.length k) ++ cutL b 0 (List.length b) (List.length b))) (T3.mk (X k) (Y k) (Z k))).z)).y (fInv (P (T3.mk (X (cutL s (0 + 0) (Int.toNat (32 : Int) - 0) (List.length s))) (Y (cutL s (0 + 0) (Int.toNat (32 : Int) - 0) (List.length s))) (Z (cutL s (0 + 0) (Int.toNat (32 : Int) - 0) (List.length s)))) (T3.mk (H (f (cutL s (0 + 0) (Int.toNat (32 : Int) - 0) (List.length s) ++ cutL k 0 (List.length k) (List.length k) ++ cutL b 0 (List.length b) (List.length b))) (T3.mk (X k) (Y k) (Z k))).x (H (f (cutL s (0 + 0) (Int.toNat (32 : Int) - 0) (List.length s) ++ cutL k 0 (List.length k) (List.length k) ++ cutL b 0 (List.length b) (List.length b))) (T3.mk (X k) (Y k) (Z k))).y (H (f (cutL s (0 + 0) (Int.toNat (32 : Int) - 0) (List.length s) ++ cutL k 0 (List.length k) (List.length k) ++ cutL b 0 (List.length b) (List.length b))) (T3.mk (X k) (Y k) (Z k))).z)).z))) && true))) = false]) := by kernel_rfl
theorem rs_e (b : BL) : (rdecV b).2 = (sdecV b).2 := by
  unfold rdecV sdecV
  split
  · split <;> rfl
  · rfl
theorem rs_v {b : BL} (hb : b.length = 32) (h : (sdecV b).2 = 0) : (rdecV b).1 < Lp ∧ sdecV b = (ofN (rdecV b).1, 0) := by
  obtain ⟨h1, h2⟩ := sdec_ok hb h
  have e : rdecV b = (bv b, 0) := by rw [rdecV, if_pos hb, if_pos (by rw [Lo_Lp]; exact h1)]
  rw [e]
  exact ⟨h1, Prod.ext h2 h⟩
theorem Sm_Lp {n : Nat} (h : n < Lp) : Sm n := Sm_lt (k := 32) (Nat.lt_trans h Lp_256) (by omega)
theorem uE_eq (b : BL) : uE b = (decR b).e := rfl
theorem ctVerD : CtSOk Tryz.prog 11 (.fn (spVerG verE)) := FnS_of_fnS gsVD fol fun ds r cs h hc => by
  unfold spVerG at h
  split at h
  case h_2 => simp at h
  rename_i k b s
  simp only [Option.some.injEq, Prod.mk.injEq] at h
  obtain ⟨rfl, rfl⟩ := h
  have hb : b.length ≤ 4000 := hc.1
  by_cases h1 : k.length ≠ 32
  · rw [verE, if_pos h1]
    exact use_run (runWfL leftN rdecV uX uY uZ uE smallD tsD plusD k b s) rfl ⟨lnT (m := 32) h1, trivial⟩
  by_cases h2 : s.length ≠ 64
  · rw [verE, if_neg h1, if_pos h2]
    exact use_run (runWfS leftN rdecV uX uY uZ uE smallD tsD plusD k b s) rfl ⟨lnF (m := 32) h1, lnT (m := 64) h2, trivial⟩
  have a1 : (!((k.length : Int) == (32 : Int))) = false := lnF (m := 32) h1
  have a2 : (!((s.length : Int) == (64 : Int))) = false := lnF (m := 64) h2
  have hk : k.length = 32 := Decidable.not_not.1 h1
  have hs : s.length = 64 := Decidable.not_not.1 h2
  have c1 : cutL s (0 + Int.toNat (32 : Int)) (s.length - Int.toNat (32 : Int)) s.length = s.drop 32 := by
    rw [cutL_eq rfl, toNat32, Nat.zero_add, List.take_of_length_le (by rw [List.length_drop]; omega)]
  have c1' : cutL s 32 (s.length - 32) s.length = s.drop 32 := by
    rw [cutL_eq rfl, List.take_of_length_le (by rw [List.length_drop]; omega)]
  have c2 : cutL s (0 + 0) (Int.toNat (32 : Int) - 0) s.length = s.take 32 := by rw [cutL_eq rfl, toNat32]; rfl
  have c3 : cutL s 0 32 s.length = s.take 32 := by rw [cutL_eq rfl]; rfl
  have d1 : (s.drop 32).length = 32 := by rw [List.length_drop]; omega
  have d2 : (s.take 32).length = 32 := by rw [List.length_take]; omega
  by_cases h3 : (sdecV (s.drop 32)).2 ≠ 0
  · have r0 := runWfF leftN rdecV uX uY uZ uE smallD tsD plusD k b s
    rw [c1, c1'] at r0
    have b3 : (!((rdecV (s.drop 32)).2 == (0 : Int))) = true := by rw [rs_e]; exact neT h3
    rw [verE, if_neg h1, if_neg h2, if_pos h3, ← rs_e]
    refine use_run r0 rfl ?_
    clear r0 c1 c1' c2 c3
    simp only [AllP]
    and_intros <;> first | exact True.intro | with_reducible assumption | with_reducible rfl | omega
  have b3 : (!((rdecV (s.drop 32)).2 == (0 : Int))) = false := by rw [rs_e]; exact neF h3
  by_cases h4 : (decR k).e ≠ 0
  · have r0 := runWfK leftN rdecV uX uY uZ uE smallD tsD plusD k b s
    rw [c1, c1'] at r0
    have b4 : (!(uE k == (0 : Int))) = true := neT h4
    rw [verE, if_neg h1, if_neg h2, if_neg h3, if_pos h4, ← uE_eq]
    refine use_run r0 rfl ?_
    clear r0 c1 c1' c2 c3
    simp only [AllP]
    and_intros <;> first | exact True.intro | with_reducible assumption | with_reducible rfl | omega
  have b4 : (!(uE k == (0 : Int))) = false := neF h4
  obtain ⟨A, hA, hRA, kX, kY, kZ, hsm⟩ := pt_of (b := k) (Decidable.not_not.1 h4)
  by_cases h5 : smallR (decR k).x (decR k).y = true
  · have r0 := runWfM leftN rdecV uX uY uZ uE smallD tsD plusD k b s
    rw [c1, c1'] at r0
    rw [h5] at hsm
    rw [verE, if_neg h1, if_neg h2, if_neg h3, if_neg h4, if_pos h5]
    refine use_run r0 rfl ?_
    clear r0 c1 c1' c2 c3
    simp only [AllP]
    and_intros <;> first | exact True.intro | with_reducible assumption | with_reducible rfl | omega
  rw [eqF' h5] at hsm
  by_cases h6 : (decR (s.take 32)).e ≠ 0
  · have r0 := runWfR leftN rdecV uX uY uZ uE smallD tsD plusD k b s
    rw [c1, c1', c3] at r0
    have b6 : (!(uE (s.take 32) == (0 : Int))) = true := neT h6
    rw [verE, if_neg h1, if_neg h2, if_neg h3, if_neg h4, if_neg h5, if_pos h6, ← uE_eq]
    refine use_run r0 rfl ?_
    clear r0 c1 c1' c2 c3
    simp only [AllP]
    and_intros <;> first | exact True.intro | with_reducible assumption | with_reducible rfl | omega
  have b6 : (!(uE (s.take 32) == (0 : Int))) = false := neF h6
  obtain ⟨R, hR, hRR, rX, rY, rZ, _⟩ := pt_of (b := s.take 32) (Decidable.not_not.1 h6)
  obtain ⟨hS1, hS2⟩ := rs_v d1 (Decidable.not_not.1 h3)
  have h8 : Pt.times 8 A ≠ Pt.nought := fun h => h5 (by rw [hA, small_P]; exact h)
  have hv := ver_iff (b := b) hk hs hA hR hS2 hS1 h8
  rw [verE, if_neg h1, if_neg h2, if_neg h3, if_neg h4, if_neg h5, if_neg h6, ← leftN_val] at hv
  rw [verE, if_neg h1, if_neg h2, if_neg h3, if_neg h4, if_neg h5, if_neg h6]
  have q1t : R3 (Pt.times (rdecV (s.drop 32)).1 Bp) (tsD (rdecV (s.drop 32)).1 ⟨bxN, byN, 1⟩) := ts_B _
  have q2t : R3 (Pt.times (leftN (s.take 32 ++ k ++ b)) A) (tsD (leftN (s.take 32 ++ k ++ b)) ⟨uX k, uY k, uZ k⟩) := hRA.ts _
  have q3t : R3 (R.add (Pt.times (leftN (s.take 32 ++ k ++ b)) A)) (plusD ⟨uX (s.take 32), uY (s.take 32), uZ (s.take 32)⟩ (tsD (leftN (s.take 32 ++ k ++ b)) ⟨uX k, uY k, uZ k⟩)) := hRR.add q2t
  have q1l : (tsD (rdecV (s.drop 32)).1 ⟨bxN, byN, 1⟩).Lt := tsD_lt _ _
  have q2l : (tsD (leftN (s.take 32 ++ k ++ b)) ⟨uX k, uY k, uZ k⟩).Lt := tsD_lt _ _
  have q3l : (plusD ⟨uX (s.take 32), uY (s.take 32), uZ (s.take 32)⟩ (tsD (leftN (s.take 32 ++ k ++ b)) ⟨uX k, uY k, uZ k⟩)).Lt := plus3_lt _ _ _
  have sm1 := Sm_Lp hS1
  have sm2 : Sm (leftN (s.take 32 ++ k ++ b)) := Sm_Lo' _
  have hl : (s.take 32).length + k.length + b.length ≤ 100000 := by omega
  have hl2 : (s.take 32 ++ k ++ b).length ≤ 100000 := by rw [List.length_append, List.length_append]; omega
  have w1 := bx_lt
  have w2 := by_lt
  have w3 := one_lt
  have rN := runWfN leftN rdecV uX uY uZ uE smallD tsD plusD k b s
  have rY' := runWfY leftN rdecV uX uY uZ uE smallD tsD plusD k b s
  rw [c1, c1', c2, c3, cutW, cutW] at rN rY'
  clear c1 c1' c2 c3 q2t hRR hRA
  have hvv : (if ((verR s k b).x.eq (decR (s.take 32)).x && ((verR s k b).y.eq (decR (s.take 32)).y && true)) = true then (0 : Int) else 10) = 0 ∨ (if ((verR s k b).x.eq (decR (s.take 32)).x && ((verR s k b).y.eq (decR (s.take 32)).y && true)) = true then (0 : Int) else 10) = 10 := by
    split
    · exact .inl rfl
    · exact .inr rfl
  generalize (if ((verR s k b).x.eq (decR (s.take 32)).x && ((verR s k b).y.eq (decR (s.take 32)).y && true)) = true then (0 : Int) else 10) = vv at hv hvv ⊢
  generalize tsD (rdecV (s.drop 32)).1 ⟨bxN, byN, 1⟩ = q1 at *
  generalize tsD (leftN (s.take 32 ++ k ++ b)) ⟨uX k, uY k, uZ k⟩ = q2 at *
  have e2 : T3.mk q2.x q2.y q2.z = q2 := rfl
  rw [e2] at rN rY'
  generalize plusD ⟨uX (s.take 32), uY (s.take 32), uZ (s.take 32)⟩ q2 = q3 at *
  obtain ⟨x1, y1⟩ := q1t.pr q1l.2.2
  obtain ⟨x3, y3⟩ := q3t.pr q3l.2.2
  rw [x1, y1, x3, y3] at rN rY'
  clear x1 y1 x3 y3 q1t q3t e2
  obtain ⟨u1, u2, u3⟩ := q1l
  obtain ⟨u4, u5, u6⟩ := q2l
  obtain ⟨u7, u8, u9⟩ := q3l
  generalize R.add (Pt.times (leftN (s.take 32 ++ k ++ b)) A) = P2 at *
  generalize Pt.times (rdecV (s.drop 32)).1 Bp = P1 at *
  by_cases hp : P1 = P2
  · rw [hv.2 hp]
    refine use_run rY' rfl ?_
    have z1 : (!((prP P1).x.eq (prP P2).x && ((prP P1).y.eq (prP P2).y && true))) = false := by rw [hp, eqq9]; rfl
    clear rN rY' hv hvv hp
    simp only [AllP]
    and_intros <;> first | exact True.intro | with_reducible assumption | with_reducible rfl | omega
  · have hv2 : vv = 10 := by
      rcases hvv with h | h
      · exact absurd (hv.1 h) hp
      · exact h
    rw [hv2]
    refine use_run rN rfl ?_
    have z1 : (!((prP P1).x.eq (prP P2).x && ((prP P1).y.eq (prP P2).y && true))) = true := by
      rw [Bool.not_eq_true']
      refine eqF' fun h => hp ?_
      obtain ⟨h1, h2⟩ := eq_of_eqN h
      exact prP_inj h1 h2
    clear rN rY' hv hvv hp
    simp only [AllP]
    and_intros <;> first | exact True.intro | with_reducible assumption | with_reducible rfl | omega
end Go.Proofs.YtlgiaglbdifkpaaGreatDoor
/- Layer 9's laws of program and document, by contract. Own work. -/
namespace Go.Proofs.YtlgiaglbdifkpaaGreatDoor
open Go.Ev Go.Sp Go.RowKit
set_option maxRecDepth 100000
def tblLz (p p' : BL → BL) (e e' : BL → Int) (v v' : BL → BL → BL → Int) (g g' : BL → BL → BL) : List (FuncId × CtS) :=
  (7, .fn (spPubG p e)) :: (10, .fn (spVerG v)) :: (12, .fn (spSigG g e)) :: (8, .fn (spPubG p' e')) :: (11, .fn (spVerG v')) :: (13, .fn (spSigG g' e')) :: (6, .fn spOwn9) :: (9, .fn spTr) :: []
theorem gsLz : GSound Tryz.prog (upG (lookG (tblLz pubB pubB eL eL verE verE sgB sgB))) := GSound_of_tbl ⟨⟨ctPub, by kernel_rfl⟩, ⟨ctVer, by kernel_rfl⟩, ⟨ctSig, by kernel_rfl⟩, ⟨ctPuD, by kernel_rfl⟩, ⟨ctVerD, by kernel_rfl⟩, ⟨ctSgD, by kernel_rfl⟩, ⟨ctOwn9, by kernel_rfl⟩, ⟨ctAw9, by kernel_rfl⟩, trivial⟩
theorem runLzP (p p' : BL → BL) (e e' : BL → Int) (v v' : BL → BL → BL → Int) (g g' : BL → BL → BL) (l : BL) : fnS Tryz.prog (lookG (tblLz p p' e e' v v' g g')) (orcA [(4, [(4, true), (8, true), (15, true)])]) [] 40 3 [sc (.d8 l)] =
    some (sc (IV.bool true), [List.length l = List.length l, List.length l ≤ 140737488355328, List.length l = List.length l, List.length l = List.length l, List.length (p l) = List.length (p l), List.length (p' l) = List.length (p' l), (p l == p' l) = true, (e l == e' l) = true, List.length l = List.length l, List.length l = List.length l, (l == l) = true]) := by kernel_rfl
theorem runLzVA (p p' : BL → BL) (e e' : BL → Int) (v v' : BL → BL → BL → Int) (g g' : BL → BL → BL) (k b s : BL) : fnS Tryz.prog (lookG (tblLz p p' e e' v v' g g')) (orcA [(1, [(2, true)])]) [] 40 4 [sc (.d8 k), sc (.d8 b), sc (.d8 s)] =
    some (sc (IV.bool true), [decide ((4000 : Int) < (↑(List.length b) : Int)) = true]) := by kernel_rfl
theorem runLzV (p p' : BL → BL) (e e' : BL → Int) (v v' : BL → BL → BL → Int) (g g' : BL → BL → BL) (k b s : BL) : fnS Tryz.prog (lookG (tblLz p p' e e' v v' g g')) (orcA [(1, [(2, false)]), (5, [(5, true), (11, true), (18, true), (25, true)])]) [] 40 4 [sc (.d8 k), sc (.d8 b), sc (.d8 s)] =
    some (sc (IV.bool true), [decide ((4000 : Int) < (↑(List.length b) : Int)) = false, List.length k = List.length k, List.length k ≤ 140737488355328, List.length b = List.length b, List.length b ≤ 140737488355328, List.length s = List.length s, List.length s ≤ 140737488355328, List.length k = List.length k, List.length b = List.length b, List.length s = List.length s, List.length b ≤ 4000, List.length k = List.length k, List.length b = List.length b, List.length s = List.length s, List.length b ≤ 4000, (v k b s == v' k b s) = true, List.length k = List.length k, List.length k = List.length k, (k == k) = true, List.length b = List.length b, List.length b = List.length b, (b == b) = true, List.length s = List.length s, List.length s = List.length s, (s == s) = true]) := by kernel_rfl
theorem runLzSA (p p' : BL → BL) (e e' : BL → Int) (v v' : BL → BL → BL → Int) (g g' : BL → BL → BL) (l b : BL) : fnS Tryz.prog (lookG (tblLz p p' e e' v v' g g')) (orcA [(1, [(2, true)])]) [] 40 5 [sc (.d8 l), sc (.d8 b)] =
    some (sc (IV.bool true), [decide ((4000 : Int) < (↑(List.length b) : Int)) = true]) := by kernel_rfl
theorem runLzS (p p' : BL → BL) (e e' : BL → Int) (v v' : BL → BL → BL → Int) (g g' : BL → BL → BL) (l b : BL) : fnS Tryz.prog (lookG (tblLz p p' e e' v v' g g')) (orcA [(1, [(2, false)]), (6, [(4, true), (8, true), (15, true), (22, true)])]) [] 40 5 [sc (.d8 l), sc (.d8 b)] =
    some (sc (IV.bool true), [decide ((4000 : Int) < (↑(List.length b) : Int)) = false, List.length l = List.length l, List.length l ≤ 140737488355328, List.length b = List.length b, List.length b ≤ 140737488355328, List.length l = List.length l, List.length b = List.length b, List.length b ≤ 4000, List.length l = List.length l, List.length b = List.length b, List.length b ≤ 4000, List.length (g l b) = List.length (g l b), List.length (g' l b) = List.length (g' l b), (g l b == g' l b) = true, (e l == e' l) = true, List.length l = List.length l, List.length l = List.length l, (l == l) = true, List.length b = List.length b, List.length b = List.length b, (b == b) = true]) := by kernel_rfl
theorem ltT {n : Nat} (h : 4000 < n) : decide ((4000 : Int) < (n : Int)) = true := decide_eq_true (by omega)
theorem ltF {n : Nat} (h : ¬ 4000 < n) : decide ((4000 : Int) < (n : Int)) = false := decide_eq_false (by omega)
theorem beqB (b : BL) : (b == b) = true := beq_self_eq_true b
theorem beqZ (n : Int) : (n == n) = true := beq_self_eq_true n
def spLz1 : List AV → Option (AV × List Prop)
  | [.val false [.d8 l]] => some (sc (.bool true), [l.length ≤ 140737488355328])
  | _ => none
def spLz2 : List AV → Option (AV × List Prop)
  | [.val false [.d8 l], .val false [.d8 b]] => some (sc (.bool true), [l.length ≤ 140737488355328, b.length ≤ 140737488355328])
  | _ => none
def spLz3 : List AV → Option (AV × List Prop)
  | [.val false [.d8 l], .val false [.d8 b], .val false [.d8 o]] => some (sc (.bool true), [l.length ≤ 140737488355328, b.length ≤ 140737488355328, o.length ≤ 140737488355328])
  | _ => none
theorem ctLzP : CtSOk Tryz.prog 3 (.fn spLz1) := FnS_of_fnS gsLz fol fun ds r cs h hc => by
  unfold spLz1 at h
  split at h
  case h_2 => simp at h
  rename_i l
  simp only [Option.some.injEq, Prod.mk.injEq] at h
  obtain ⟨rfl, rfl⟩ := h
  obtain ⟨hl, _⟩ := hc
  refine use_run (runLzP pubB pubB eL eL verE verE sgB sgB l) rfl ?_
  have h1 := beqB (pubB l)
  have h2 := beqZ (eL l)
  have h3 := beqB l
  simp only [AllP]
  and_intros <;> first | exact True.intro | with_reducible assumption | with_reducible rfl | omega
theorem ctLzV : CtSOk Tryz.prog 4 (.fn spLz3) := FnS_of_fnS gsLz fol fun ds r cs h hc => by
  unfold spLz3 at h
  split at h
  case h_2 => simp at h
  rename_i k b s
  simp only [Option.some.injEq, Prod.mk.injEq] at h
  obtain ⟨rfl, rfl⟩ := h
  obtain ⟨hk, hb, hs, _⟩ := hc
  by_cases h1 : 4000 < b.length
  · exact use_run (runLzVA pubB pubB eL eL verE verE sgB sgB k b s) rfl ⟨ltT h1, trivial⟩
  have b1 := ltF h1
  refine use_run (runLzV pubB pubB eL eL verE verE sgB sgB k b s) rfl ?_
  have h2 := beqZ (verE k b s)
  have h3 := beqB k
  have h4 := beqB b
  have h5 := beqB s
  simp only [AllP]
  and_intros <;> first | exact True.intro | with_reducible assumption | with_reducible rfl | omega
theorem ctLzS : CtSOk Tryz.prog 5 (.fn spLz2) := FnS_of_fnS gsLz fol fun ds r cs h hc => by
  unfold spLz2 at h
  split at h
  case h_2 => simp at h
  rename_i l b
  simp only [Option.some.injEq, Prod.mk.injEq] at h
  obtain ⟨rfl, rfl⟩ := h
  obtain ⟨hl, hb, _⟩ := hc
  by_cases h1 : 4000 < b.length
  · exact use_run (runLzSA pubB pubB eL eL verE verE sgB sgB l b) rfl ⟨ltT h1, trivial⟩
  have b1 := ltF h1
  refine use_run (runLzS pubB pubB eL eL verE verE sgB sgB l b) rfl ?_
  have h2 := beqB (sgB l b)
  have h3 := beqZ (eL l)
  have h4 := beqB l
  have h5 := beqB b
  simp only [AllP]
  and_intros <;> first | exact True.intro | with_reducible assumption | with_reducible rfl | omega
end Go.Proofs.YtlgiaglbdifkpaaGreatDoor
/- From a row's arguments to the evaluator's data, and from its result to the row. Own work; no statement of the seat is proved here. -/
namespace Go.Ev
open Go.ChangeShapes Go.WideShapes Go.RowKit

theorem trodAll_below {H : Type} {enc : TypeId × Value → H} {P : Program} (hl : laidOutB P = true) {W W' : World} (hb : Below W.heap.size W W') :
    ∀ (ts : List TypeId) (vs : List Value) (ds : List (DataW H)) (ps : List MemPlace), (∀ t ∈ ts, P.readableRec t = true ∧ t < P.types.size) → (∀ x ∈ ps, x.block < W.heap.size) →
      DataW.TrodAll enc P W 0 (fun _ => true) true ts vs ds ps → DataW.TrodAll enc P W' 0 (fun b => decide (b < W.heap.size)) true ts vs ds ps := by
  intro ts
  induction ts with
  | nil =>
    intro vs ds ps _ _ h
    obtain ⟨rfl, rfl, rfl⟩ := trodAll_nil h
    exact rfl
  | cons t ts ih =>
    intro vs ds ps hr hlt h
    obtain ⟨v, vs', d, ds', p, q, rfl, rfl, rfl, h1, h2⟩ := trodAll_cons h
    obtain ⟨r1, r2⟩ := hr t (List.mem_cons_self ..)
    exact ⟨p, q, Below.trod hl r1 r2 h1 hb (fun x hx => hlt x (List.mem_append_left _ hx)), ih vs' ds' q (fun t ht => hr t (List.mem_cons_of_mem _ ht)) (fun x hx => hlt x (List.mem_append_right _ hx)) h2, rfl⟩

/-- THE ROW: 'true; each argument reads as it did', of a call that only made memory. -/
theorem law_post {H : Type} {enc : TypeId × Value → H} {P : Program} {f : Func} {s : ChangeSpec} {W W' : World} {args : Array Value} {ds gs : List (DataW H)} {before : List MemPlace} {tb : TypeId}
    (hl : laidOutB P = true) (hr : ∀ t ∈ f.params.toList, P.readableRec t = true ∧ t < P.types.size) (hvars : s.vars = []) (hres : f.resultTypes = #[tb]) (htb : P.underlying tb = some .bool)
    (hW : DataW.Whole enc P f.params.toList s.vars false W args.toList ds gs before)
    (hsp : s.fn H (ds ++ gs) = { results := [.lit (.bool true)], args := ds }) (hb : Below W.heap.size W W') :
    s.post enc P f false true false false W args (.bool true) W' := by
  have hW' := hW
  obtain ⟨p, q, hA, hV, rfl, _, _⟩ := hW
  rw [hvars] at hV
  obtain ⟨rfl, rfl⟩ := trodVars_none hV
  rw [List.append_nil] at hsp hW'
  refine ⟨ds, [], _, [], p, [], hW', ?_, ?_, ?_, hb.frame _, fun h => by simp at h⟩
  · rw [List.append_nil, hsp, hres]
    exact ⟨[], [], ⟨1, by simp [DataW.trod, htb, Value.cells]⟩, rfl, rfl⟩
  · rw [List.append_nil, hsp]
    exact trodAll_below hl hb _ _ _ _ hr (fun x hx => by have := hW'.lt x hx; simpa using this) hA
  · rw [List.append_nil, hsp, hvars]
    exact rfl

/-! ### Arguments opened -/
section
variable {H : Type} {enc : TypeId × Value → H} {P : Program} {W : World} {t e : TypeId} {v : Value} {d : DataW H} {ps : List MemPlace} {base : Nat} {spare : Nat → Bool} {held : Bool}

theorem wf_u8 {n : Int} (h : (Lit.int .u8 n).wf = true) : ∃ x : BitVec 8, n = (x.toNat : Int) := by
  simp [Lit.wf, IntKind.min, IntKind.max, IntKind.signed, IntKind.bits] at h
  refine ⟨BitVec.ofNat 8 n.toNat, ?_⟩
  simp
  omega
theorem bytes_of {zs : List Int} (h : ∀ z ∈ zs, (Lit.int .u8 z).wf = true) : ∃ l : List (BitVec 8), zs.map (Value.int .u8) = l.map byteVal ∧ l.length = zs.length := by
  induction zs with
  | nil => exact ⟨[], rfl, rfl⟩
  | cons z zs ih =>
    obtain ⟨l, h1, h2⟩ := ih fun y hy => h y (List.mem_cons_of_mem _ hy)
    obtain ⟨x, hx⟩ := wf_u8 (h z (List.mem_cons_self ..))
    exact ⟨x :: l, by simp [h1, hx, byteVal], by simp [h2]⟩

theorem cell_addr {a : Addr} {u : Value} (h : W.cell? a = some u) : a.block < W.heap.size ∧ a.spot = none := by
  unfold World.cell? at h
  split at h
  case h_2 => simp at h
  rename_i hb
  refine ⟨(Array.getElem?_eq_some_iff.1 hb).1, ?_⟩
  cases hs : a.spot with
  | none => rfl
  | some x => simp [hs] at h

/-- Bytes. -/
theorem open_d8 (ht : P.underlying t = some (.slice e)) (he : P.underlying e = some (.int .u8)) (hce : P.cellsOf e = 1) (hby : P.bytesOf e = 1)
    (hval : Value.okWide P W .any base t v) (hd : DataW.Trod enc P W 0 (fun _ => true) true t v d ps) : ∃ l : List (BitVec 8), DV W (sc (.d8 l)) v ∧ (∀ N, (∀ x ∈ d.weights P t, x ≤ N) → l.length ≤ N) ∧ (l = [] ∨ ∃ elems spare, d = .slice elems spare ∧ l.length ≤ elems.length) := by
  obtain ⟨a1, len, cap, rfl⟩ := okWide_slice ht hval
  obtain ⟨fuel, hf⟩ := hd
  rcases open_ints ht he hce hf with ⟨hcs, hx⟩ | ⟨a, len', cap', zs, hcs, _, hl, hm, hz, hx, hcell, hwz⟩
  · simp [Value.cells] at hcs
    obtain ⟨rfl, rfl, rfl⟩ := hcs
    exact ⟨[], ⟨[.slice none 0 0], ⟨_, [], rfl, ⟨_, rfl, .inr ⟨rfl, rfl, none, rfl⟩⟩, rfl⟩, rfl⟩, fun N _ => by simp, .inl rfl⟩
  · simp [Value.cells] at hcs
    obtain ⟨rfl, rfl, rfl⟩ := hcs
    simp at hz
    obtain ⟨l, h1, h2⟩ := bytes_of hwz
    have hlen : (l.take len).length = len := by simp; omega
    have hmax : maxLen = 9223372036854775807 := rfl
    have hcell0 : ∀ i u, ((l.take len).map byteVal)[i]? = some u → W.cell? (a.add i) = some u := by
      intro i u hu
      rw [List.getElem?_map, List.getElem?_take] at hu
      split at hu
      case isFalse => simp at hu
      have hi : i < zs.length := by omega
      rw [hcell i hi]
      have hg : (zs.map (Value.int .u8))[i]? = (l.map byteVal)[i]? := by rw [h1]
      rw [List.getElem?_map, List.getElem?_map, List.getElem?_eq_getElem hi] at hg
      rw [← List.getElem?_map] at hu
      simp only [List.getElem?_map] at hu
      rw [← hg] at hu
      simp at hu
      subst hu
      simp [List.getD, List.getElem?_eq_getElem hi]
    refine ⟨l.take len, ⟨[_], ⟨[_], [], rfl, ⟨_, rfl, ?_⟩, rfl⟩, rfl⟩, fun N hN => ?_, ?_⟩
    case refine_3 =>
      simp only [Prod.mk.injEq] at hx
      obtain ⟨rfl, rfl⟩ := hx
      exact .inr ⟨_, _, rfl, by simp [lits]; omega⟩
    case refine_2 =>
      simp only [Prod.mk.injEq] at hx
      obtain ⟨rfl, rfl⟩ := hx
      have h3 := hN (((lits (H := H) .u8 (zs.take len)).length + (lits (H := H) .u8 (zs.drop len)).length) * P.bytesOf e) (by simp [DataW.weights, ht])
      simp only [hby, Nat.mul_one, lits, List.length_map, List.length_take, List.length_drop] at h3
      omega
    rw [hlen]
    by_cases h0 : cap = 0
    · subst h0
      have : len = 0 := by omega
      subst this
      exact .inr ⟨rfl, by simp, some a, rfl⟩
    · have hc0 := hcell 0 (by omega)
      obtain ⟨hb, hs⟩ := cell_addr hc0
      obtain ⟨blk, off, sub⟩ := a
      simp [Addr.add] at hb hs
      subst hs
      exact .inl ⟨blk, off, cap, rfl, hl, hb, fun i u hu => (congrArg W.cell? (Addr_add_at blk off i)).symm.trans (hcell0 i u hu)⟩

end
end Go.Ev
/- What the rows of this layer share: the listed variables hold what the evaluator takes them to hold. Own work; no statement of the seat is proved here. -/
namespace Go.Proofs.YtlgiaglbdifkpaaGreatDoor
open Go.Ev Go.ChangeShapes Go.WideShapes Go.RowKit
set_option maxRecDepth 100000
theorem own : ownKnob Tryz.prog.godebug = none := by kernel_rfl
theorem laidOut : laidOutB Tryz.prog = true := by kernel_rfl
theorem resBool {B : Nat} {w : World} {v : Value} {b : Bool} (h : ResOk B w (sc (.bool b)) v) : v = .bool b := by
  obtain ⟨ρ, _, _, h1, _⟩ := h 0
  have := VRepr_sc.1 h1
  simp [ICells, PCells] at this
  exact this.symm
def laid2 : List (String × DataW Unit) := [("sealwax/sha.great", Rows.laid_sealwax_sha_great), ("sealwax/sha.k512", Rows.laid_sealwax_sha_k512)]
theorem gGreat : Tryz.prog.globalNamed "sealwax/sha.great" = some 0 := by kernel_rfl
theorem gK512 : Tryz.prog.globalNamed "sealwax/sha.k512" = some 1 := by kernel_rfl
theorem tGreat : (Tryz.prog.globals[0]?).map (·.type) = some 117 := by kernel_rfl
theorem tK512 : (Tryz.prog.globals[1]?).map (·.type) = some 140 := by kernel_rfl
theorem door_met (os : Os) (args : Array Value) : laidMetH Tryz.prog laid2 ((World.doorLaid Tryz.prog 400 os).forCall (fun _ _ => 0) ⟨#[], args, []⟩).memory :=
  laidMetH_of_parts3 (fuel := 8) (laidMet_of_run' 8 (by kernel_rfl) (by kernel_rfl)) (by kernel_rfl) (by kernel_rfl)
def fldsOf (P : Program) (t : TypeId) : Option (List (TypeId × Nat)) :=
  match P.underlying t with
  | some (.struct fs) => some (fs.toList.map fun f => (f.type, f.offset))
  | _ => none
theorem fldsOf_ok {P : Program} {t : TypeId} {l : List (TypeId × Nat)} (h : fldsOf P t = some l) : ∃ fs : Array Field, P.underlying t = some (.struct fs) ∧ fs.size = l.length ∧
    ∀ (i : Nat) (ty : TypeId) (o : Nat), l[i]? = some (ty, o) → ∃ f, fs[i]? = some f ∧ f.type = ty ∧ f.offset = o := by
  unfold fldsOf at h
  split at h
  case h_2 => simp at h
  rename_i fs hfs
  simp only [Option.some.injEq] at h
  subst h
  refine ⟨fs, hfs, by simp, fun i ty o hi => ?_⟩
  rw [List.getElem?_map, Option.map_eq_some_iff] at hi
  obtain ⟨f, h1, h2⟩ := hi
  simp only [Prod.mk.injEq] at h2
  exact ⟨f, by simpa using h1, h2.1, h2.2⟩
theorem great_cells {W : World} {fuel : Nat} {cs : List Value} {p : List MemPlace} (h : DataW.trod (fun _ => ()) Tryz.prog W 0 (fun _ => true) false fuel 117 cs = some (Rows.laid_sealwax_sha_great, p)) :
    cs = [64, 80, 28, 34, 39, 14, 18, 41, 1, 8, 7, 19, 61, 6].map intVal := by
  obtain ⟨fs, hu, hsz, hfl⟩ := fldsOf_ok (P := Tryz.prog) (t := 117) (l := [(3, 0), (3, 1), (115, 2), (115, 5), (115, 8), (115, 11)]) (by kernel_rfl)
  obtain ⟨xs, n, _, hx, hl, hn, hf⟩ := DataW.trod_struct hu h
  rw [hsz] at hn
  have hl14 : cs.length = 14 := by rw [hl]; kernel_rfl
  have ci : Tryz.prog.cellsOf 3 = 1 := by kernel_rfl
  have ca : Tryz.prog.cellsOf 115 = 3 := by kernel_rfl
  have ui : Tryz.prog.underlying 3 = some (.int .i64) := by kernel_rfl
  have ua : Tryz.prog.underlying 115 = some (.array 3 3) := by kernel_rfl
  match cs, hl14 with
  | [c0, c1, c2, c3, c4, c5, c6, c7, c8, c9, c10, c11, c12, c13], _ =>
  match xs, hn with
  | [x0, x1, x2, x3, x4, x5], _ =>
  simp only [Prod.mk.injEq, Rows.laid_sealwax_sha_great, DataW.agg.injEq, List.map_cons, List.map_nil, List.cons.injEq, and_true] at hx
  obtain ⟨⟨e0, e1, e2, e3, e4, e5⟩, _⟩ := hx
  have hi : ∀ (i o : Nat) (x : DataW Unit × List MemPlace) (k : Int), [(3, 0), (3, 1), (115, 2), (115, 5), (115, 8), (115, 11)][i]? = some (3, o) → [x0, x1, x2, x3, x4, x5][i]? = some x → .lit (.int .i64 k) = x.1 →
      ([c0, c1, c2, c3, c4, c5, c6, c7, c8, c9, c10, c11, c12, c13].drop o).take 1 = [Value.int .i64 k] := fun i o x k h1 h2 h3 => by
    obtain ⟨f, hf1, hf2, hf3⟩ := hfl i _ _ h1
    have h4 := hf i f hf1
    rw [hf2, hf3, ci, h2] at h4
    obtain ⟨z, h5, h6, _⟩ := DataW.trod_int ui h4
    rw [h6] at h3
    simp only [DataW.lit.injEq, Lit.int.injEq, true_and] at h3
    rw [h5, h3]
  have ha : ∀ (i o : Nat) (x : DataW Unit × List MemPlace) (zs : List Int), [(3, 0), (3, 1), (115, 2), (115, 5), (115, 8), (115, 11)][i]? = some (115, o) → [x0, x1, x2, x3, x4, x5][i]? = some x → Lib.tabData .i64 zs = x.1 →
      ([c0, c1, c2, c3, c4, c5, c6, c7, c8, c9, c10, c11, c12, c13].drop o).take 3 = zs.map fun z => Value.int .i64 z := fun i o x zs h1 h2 h3 => by
    obtain ⟨f, hf1, hf2, hf3⟩ := hfl i _ _ h1
    have h4 := hf i f hf1
    rw [hf2, hf3, ca, h2, show x = (Lib.tabData .i64 zs, x.2) from Prod.ext h3.symm rfl] at h4
    exact Lib.cells_of_tab ua ui ci ca h4
  have q0 := hi 0 0 x0 64 rfl rfl e0
  have q1 := hi 1 1 x1 80 rfl rfl e1
  have q2 := ha 2 2 x2 [28, 34, 39] rfl rfl e2
  have q3 := ha 3 5 x3 [14, 18, 41] rfl rfl e3
  have q4 := ha 4 8 x4 [1, 8, 7] rfl rfl e4
  have q5 := ha 5 11 x5 [19, 61, 6] rfl rfl e5
  simp only [List.drop_zero, List.drop_succ_cons, List.take_succ_cons, List.take_zero, List.map_cons, List.map_nil, List.cons.injEq, and_true] at q0 q1 q2 q3 q4 q5
  obtain ⟨q6, q7, q8⟩ := q2
  obtain ⟨q9, q10, q11⟩ := q3
  obtain ⟨q12, q13, q14⟩ := q4
  obtain ⟨q15, q16, q17⟩ := q5
  subst q0 q1 q6 q7 q8 q9 q10 q11 q12 q13 q14 q15 q16 q17
  rfl
def k512Z : List Int := k512L.map fun x => (x.toNat : Int)
theorem laidK : (Rows.laid_sealwax_sha_k512 : DataW Unit) = Lib.tabData .u64 k512Z := by kernel_rfl
theorem of_laid {W : World} (h : laidMetH Tryz.prog laid2 W) : GlobOk W := by
  rw [MakeChecks.laidMetH_plain _ _ _ (by kernel_rfl)] at h
  obtain ⟨ps, ⟨g0, t0, cs0, f0, p0, q0, hg0, ht0, hv0, hd0, ⟨g1, t1, cs1, f1, p1, q1, hg1, ht1, hv1, hd1, _, _⟩, _⟩, _, _⟩ := h
  obtain rfl := Option.some.inj (gGreat.symm.trans hg0)
  obtain rfl := Option.some.inj (gK512.symm.trans hg1)
  obtain rfl := Option.some.inj (tGreat.symm.trans ht0)
  obtain rfl := Option.some.inj (tK512.symm.trans ht1)
  have c0 := great_cells hd0
  rw [laidK] at hd1
  have c1 := Lib.cells_of_tab (n := 80) (e := 33) (by kernel_rfl) (by kernel_rfl) (by kernel_rfl) (by kernel_rfl) hd1
  intro g items hg
  by_cases e0 : g = 0
  · subst e0
    have hi : items = greatL := (Option.some.inj (show some greatL = some items from hg)).symm
    subst hi
    refine ⟨cs0.toList, fun ρ => ?_, fun i v hv => ?_⟩
    · rw [c0]
      exact ⟨[intVal 64], _, rfl, rfl, [intVal 80], _, rfl, rfl, [intVal 28, intVal 34, intVal 39], _, rfl, rfl, [intVal 14, intVal 18, intVal 41], _, rfl, rfl, [intVal 1, intVal 8, intVal 7], _, rfl, rfl, [intVal 19, intVal 61, intVal 6], _, rfl, rfl, rfl⟩
    · rw [World.var?_cell gGreat hv0 i]
      simpa using hv
  · by_cases e1 : g = 1
    · subst e1
      have hi : items = [.v64 80 k512L] := (Option.some.inj (show some [IV.v64 80 k512L] = some items from hg)).symm
      subst hi
      refine ⟨cs1.toList, fun ρ => ?_, fun i v hv => ?_⟩
      · rw [c1]
        refine ⟨k512L.map wordVal, [], by simp [k512Z, wordVal, Function.comp_def], ?_, rfl⟩
        show PCells (.v64 80 k512L) = _
        rw [PCells, if_pos (by kernel_rfl)]
      · rw [World.var?_cell gK512 hv1 i]
        simpa using hv
    · exfalso
      have he : globAt globT g = (if 0 = g then some greatL else if 1 = g then some [.v64 80 k512L] else none) := rfl
      rw [he, if_neg (fun h => e0 h.symm), if_neg (fun h => e1 h.symm)] at hg
      cases hg
end Go.Proofs.YtlgiaglbdifkpaaGreatDoor
/- What stands ahead of the rows of seat ZD. Own work; no statement of the seat is proved here. -/
