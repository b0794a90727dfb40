/- Texts put together: CuG CuH CuI CuJ CuL CuM CuN CuO CuS CuP CuT CuU CuV CuK. Own work. -/
import Derived.Test.YtfhopbeieoffnaaXMgas
import Derived.Test.YtfhopbeieoffnaaRows
/- Contracts of layer 8: the document's points: Point, with, Base, Small; bytes. Own work. -/
namespace Go.Proofs.Ytfhopbeieoffnaa
open Go.Ev Go.Sp Go.RowKit
set_option maxRecDepth 100000
def spRRtG (g : Nat → Nat × Bool) : List AV → Option (AV × List Prop)
  | [.val true [.fe a]] => some (.tup [(true, [.fe (g a).1]), (false, [.bool (g a).2])], [a < Pp])
  | _ => none
def tblDd (g : Nat → Nat × Bool) (v : Nat → Nat) : List (FuncId × CtS) :=
  (82, .fn (spRRtG g)) :: (49, .fn (sp1F v)) :: tblDb0
theorem gsDd : GSound Try.prog (upG (lookG (tblDd rtV fInv))) := GSound_of_tbl ⟨⟨ctRoot, by kernel_rfl⟩, ⟨ctFInv, by kernel_rfl⟩, okDb0⟩
theorem runRPt (g : Nat → Nat × Bool) (v : Nat → Nat) (a b c : Nat) : fnS Try.prog (lookG (tblDd g v)) (orcA []) [] 10 19 [.val true [.fe a, .fe b, .fe c]] =
    some (AV.val true [IV.n4 (ofN (fMul a (v c))), IV.n4 (ofN (fMul b (v c)))], [c < Pp, a < Pp, v c < Pp, fMul a (v c) < p256, b < Pp, v c < Pp, fMul b (v c) < p256]) := by kernel_rfl
theorem runWiN (g : Nat → Nat × Bool) (v : Nat → Nat) (y : Nat) (s : Int) : fnS Try.prog (lookG (tblDd g v)) (orcA [(3, [(2, true)])]) [] 10 51 [.val true [.fe y], sc (.i64 s)] =
    some (AV.tup [(true, [IV.vi 48 [(0 : Int), (0 : Int), (0 : Int), (0 : Int), (0 : Int), (0 : Int), (0 : Int), (0 : Int), (0 : Int), (0 : Int), (0 : Int), (0 : Int), (0 : Int), (0 : Int), (0 : Int), (0 : Int), (0 : Int), (0 : Int), (0 : Int), (0 : Int), (0 : Int), (0 : Int), (0 : Int), (0 : Int), (0 : Int), (0 : Int), (0 : Int), (0 : Int), (0 : Int), (0 : Int), (0 : Int), (0 : Int), (0 : Int), (0 : Int), (0 : Int), (0 : Int), (0 : Int), (0 : Int), (0 : Int), (0 : Int), (0 : Int), (0 : Int), (0 : Int), (0 : Int), (0 : Int), (0 : Int), (0 : Int), (0 : Int)]]), (false, [IV.bool false])], [y < Pp, y < Pp, (0 : Int) ≤ (1 : Int), (1 : Int) < (65536 : Int), fMul y y < Pp, 1 < Pp, (0 : Int) ≤ (1 : Int), (1 : Int) < (65536 : Int), dN < Pp, fMul y y < Pp, 1 < Pp, fMul dN (fMul y y) < Pp, fAdd 1 (fMul dN (fMul y y)) < Pp, fSub (fMul y y) 1 < Pp, v (fAdd 1 (fMul dN (fMul y y))) < Pp, fMul (fSub (fMul y y) 1) (v (fAdd 1 (fMul dN (fMul y y)))) < Pp, (!(g (fMul (fSub (fMul y y) (Int.toNat (1 : Int))) (v (fAdd (Int.toNat (1 : Int)) (fMul dN (fMul y y)))))).snd) = true]) := by kernel_rfl
theorem runWiZ (g : Nat → Nat × Bool) (v : Nat → Nat) (y : Nat) (s : Int) : fnS Try.prog (lookG (tblDd g v)) (orcA [(3, [(2, false), (6, true), (8, true), (10, true)])]) [] 10 51 [.val true [.fe y], sc (.i64 s)] =
    some (AV.tup [(true, [IV.vi 48 [(0 : Int), (0 : Int), (0 : Int), (0 : Int), (0 : Int), (0 : Int), (0 : Int), (0 : Int), (0 : Int), (0 : Int), (0 : Int), (0 : Int), (0 : Int), (0 : Int), (0 : Int), (0 : Int), (0 : Int), (0 : Int), (0 : Int), (0 : Int), (0 : Int), (0 : Int), (0 : Int), (0 : Int), (0 : Int), (0 : Int), (0 : Int), (0 : Int), (0 : Int), (0 : Int), (0 : Int), (0 : Int), (0 : Int), (0 : Int), (0 : Int), (0 : Int), (0 : Int), (0 : Int), (0 : Int), (0 : Int), (0 : Int), (0 : Int), (0 : Int), (0 : Int), (0 : Int), (0 : Int), (0 : Int), (0 : Int)]]), (false, [IV.bool false])], [y < Pp, y < Pp, (0 : Int) ≤ (1 : Int), (1 : Int) < (65536 : Int), fMul y y < Pp, 1 < Pp, (0 : Int) ≤ (1 : Int), (1 : Int) < (65536 : Int), dN < Pp, fMul y y < Pp, 1 < Pp, fMul dN (fMul y y) < Pp, fAdd 1 (fMul dN (fMul y y)) < Pp, fSub (fMul y y) 1 < Pp, v (fAdd 1 (fMul dN (fMul y y))) < Pp, fMul (fSub (fMul y y) 1) (v (fAdd 1 (fMul dN (fMul y y)))) < Pp, (!(g (fMul (fSub (fMul y y) (Int.toNat (1 : Int))) (v (fAdd (Int.toNat (1 : Int)) (fMul dN (fMul y y)))))).snd) = false, (0 : Int) ≤ (0 : Int), (0 : Int) < (65536 : Int), (digs16 (g (fMul (fSub (fMul y y) (Int.toNat (1 : Int))) (v (fAdd (Int.toNat (1 : Int)) (fMul dN (fMul y y)))))).fst == digs16 0 && true) = true, (s == (1 : Int)) = true, true = true]) := by kernel_rfl
theorem runWiZ0 (g : Nat → Nat × Bool) (v : Nat → Nat) (y : Nat) (s : Int) : fnS Try.prog (lookG (tblDd g v)) (orcA [(3, [(2, false), (6, true), (8, false), (10, false)]), (5, [(1, false)])]) [] 10 51 [.val true [.fe y], sc (.i64 s)] =
    some (AV.tup [(true, [IV.fe (g (fMul (fSub (fMul y y) (Int.toNat (1 : Int))) (v (fAdd (Int.toNat (1 : Int)) (fMul dN (fMul y y)))))).fst, IV.fe y, IV.fe 1]), (false, [IV.bool true])], [y < Pp, y < Pp, (0 : Int) ≤ (1 : Int), (1 : Int) < (65536 : Int), fMul y y < Pp, 1 < Pp, (0 : Int) ≤ (1 : Int), (1 : Int) < (65536 : Int), dN < Pp, fMul y y < Pp, 1 < Pp, fMul dN (fMul y y) < Pp, fAdd 1 (fMul dN (fMul y y)) < Pp, fSub (fMul y y) 1 < Pp, v (fAdd 1 (fMul dN (fMul y y))) < Pp, fMul (fSub (fMul y y) 1) (v (fAdd 1 (fMul dN (fMul y y)))) < Pp, (!(g (fMul (fSub (fMul y y) (Int.toNat (1 : Int))) (v (fAdd (Int.toNat (1 : Int)) (fMul dN (fMul y y)))))).snd) = false, (0 : Int) ≤ (0 : Int), (0 : Int) < (65536 : Int), (digs16 (g (fMul (fSub (fMul y y) (Int.toNat (1 : Int))) (v (fAdd (Int.toNat (1 : Int)) (fMul dN (fMul y y)))))).fst == digs16 0 && true) = true, (s == (1 : Int)) = false, false = false, (s == (1 : Int)) = false, (0 : Int) ≤ (1 : Int), (1 : Int) < (65536 : Int)]) := by kernel_rfl
theorem runWiT (g : Nat → Nat × Bool) (v : Nat → Nat) (y : Nat) (s : Int) : fnS Try.prog (lookG (tblDd g v)) (orcA [(3, [(2, false), (6, false), (10, false)]), (5, [(1, true)])]) [] 10 51 [.val true [.fe y], sc (.i64 s)] =
    some (AV.tup [(true, [IV.fe (fNeg (g (fMul (fSub (fMul y y) (Int.toNat (1 : Int))) (v (fAdd (Int.toNat (1 : Int)) (fMul dN (fMul y y)))))).fst), IV.fe y, IV.fe 1]), (false, [IV.bool true])], [y < Pp, y < Pp, (0 : Int) ≤ (1 : Int), (1 : Int) < (65536 : Int), fMul y y < Pp, 1 < Pp, (0 : Int) ≤ (1 : Int), (1 : Int) < (65536 : Int), dN < Pp, fMul y y < Pp, 1 < Pp, fMul dN (fMul y y) < Pp, fAdd 1 (fMul dN (fMul y y)) < Pp, fSub (fMul y y) 1 < Pp, v (fAdd 1 (fMul dN (fMul y y))) < Pp, fMul (fSub (fMul y y) 1) (v (fAdd 1 (fMul dN (fMul y y)))) < Pp, (!(g (fMul (fSub (fMul y y) (Int.toNat (1 : Int))) (v (fAdd (Int.toNat (1 : Int)) (fMul dN (fMul y y)))))).snd) = false, (0 : Int) ≤ (0 : Int), (0 : Int) < (65536 : Int), (digs16 (g (fMul (fSub (fMul y y) (Int.toNat (1 : Int))) (v (fAdd (Int.toNat (1 : Int)) (fMul dN (fMul y y)))))).fst == digs16 0 && true) = false, false = false, (s == (1 : Int)) = true, (g (fMul (fSub (fMul y y) (Int.toNat (1 : Int))) (v (fAdd (Int.toNat (1 : Int)) (fMul dN (fMul y y)))))).fst < Pp, (0 : Int) ≤ (1 : Int), (1 : Int) < (65536 : Int)]) := by kernel_rfl
theorem runWiF (g : Nat → Nat × Bool) (v : Nat → Nat) (y : Nat) (s : Int) : fnS Try.prog (lookG (tblDd g v)) (orcA [(3, [(2, false), (6, false), (10, false)]), (5, [(1, false)])]) [] 10 51 [.val true [.fe y], sc (.i64 s)] =
    some (AV.tup [(true, [IV.fe (g (fMul (fSub (fMul y y) (Int.toNat (1 : Int))) (v (fAdd (Int.toNat (1 : Int)) (fMul dN (fMul y y)))))).fst, IV.fe y, IV.fe 1]), (false, [IV.bool true])], [y < Pp, y < Pp, (0 : Int) ≤ (1 : Int), (1 : Int) < (65536 : Int), fMul y y < Pp, 1 < Pp, (0 : Int) ≤ (1 : Int), (1 : Int) < (65536 : Int), dN < Pp, fMul y y < Pp, 1 < Pp, fMul dN (fMul y y) < Pp, fAdd 1 (fMul dN (fMul y y)) < Pp, fSub (fMul y y) 1 < Pp, v (fAdd 1 (fMul dN (fMul y y))) < Pp, fMul (fSub (fMul y y) 1) (v (fAdd 1 (fMul dN (fMul y y)))) < Pp, (!(g (fMul (fSub (fMul y y) (Int.toNat (1 : Int))) (v (fAdd (Int.toNat (1 : Int)) (fMul dN (fMul y y)))))).snd) = false, (0 : Int) ≤ (0 : Int), (0 : Int) < (65536 : Int), (digs16 (g (fMul (fSub (fMul y y) (Int.toNat (1 : Int))) (v (fAdd (Int.toNat (1 : Int)) (fMul dN (fMul y y)))))).fst == digs16 0 && true) = false, false = false, (s == (1 : Int)) = false, (0 : Int) ≤ (1 : Int), (1 : Int) < (65536 : Int)]) := by kernel_rfl
def spRPt : List AV → Option (AV × List Prop)
  | [.val true [.fe a, .fe b, .fe c]] => some (.val true [.n4 (ofN (fMul a (fInv c))), .n4 (ofN (fMul b (fInv c)))], [a < Pp, b < Pp, c < Pp])
  | _ => none
theorem ctRPt : CtSOk Try.prog 19 (.fn spRPt) := FnS_of_fnS gsDd fol fun ds r cs h hc => by
  unfold spRPt at h
  split at h
  case h_2 => simp at h
  rename_i a b c
  simp only [Option.some.injEq, Prod.mk.injEq] at h
  obtain ⟨rfl, rfl⟩ := h
  obtain ⟨h1, h2, h3, _⟩ := hc
  exact use_run (runRPt rtV fInv a b c) rfl ⟨h3, h1, fInv_lt c, lt256 (fMul_lt _ _), h2, fInv_lt c, lt256 (fMul_lt _ _), trivial⟩
/-- The point of that y, and an x of that lowest bit. -/
def wOk (y : Nat) (s : Int) : Prop := (prV (xxV y)).2 = true ∧ ¬ ((prV (xxV y)).1 = 0 ∧ s = 1)
def wX (y : Nat) (s : Int) : Nat := if s = 1 then fNeg (prV (xxV y)).1 else (prV (xxV y)).1
def spWiT (G : Nat → Int → Nat) : List AV → Option (AV × List Prop)
  | [.val true [.fe y], .val false [.i64 s]] => some (.tup [(true, [.fe (G y s), .fe y, .fe 1]), (false, [.bool true])], [y < Pp, wOk y s])
  | _ => none
def spWiN : List AV → Option (AV × List Prop)
  | [.val true [.fe y], .val false [.i64 s]] => some (.tup [(true, [.vi 48 z48]), (false, [.bool false])], [y < Pp, ¬ wOk y s])
  | _ => none
theorem i1N : Int.toNat (1 : Int) = 1 := rfl
theorem xxV_lt (y : Nat) : xxV y < Pp := fMul_lt _ _
theorem xx_def (y : Nat) : fMul (fSub (fMul y y) 1) (fInv (fAdd 1 (fMul dN (fMul y y)))) = xxV y := rfl
theorem d0_beq (x : Nat) : (digs16 (prV x).1 == digs16 0 && true) = ((prV x).1 == 0) := digs16_beq (lt256 (prV_lt x)) (lt256 Pp_pos)
theorem ctWiT : CtSOk Try.prog 51 (.fn (spWiT wX)) := FnS_of_fnS gsDd fol fun ds r cs h hc => by
  unfold spWiT at h
  split at h
  case h_2 => simp at h
  rename_i y s
  simp only [Option.some.injEq, Prod.mk.injEq] at h
  obtain ⟨rfl, rfl⟩ := h
  obtain ⟨hy, ⟨h1, h2⟩, _⟩ := hc
  by_cases hz : (prV (xxV y)).1 = 0
  · have hs : s ≠ 1 := fun e => h2 ⟨hz, e⟩
    have r0 := runWiZ0 rtV fInv y s
    simp only [i1N, xx_def, rtV_eq (xxV_lt y), d0_beq] at r0
    have e : wX y s = (prV (xxV y)).1 := by rw [wX, if_neg hs]
    refine use_run r0 (by rw [e]) ?_
    clear r0
    rw [h1]
    simp only [AllP]
    and_intros <;> first | with_reducible exact True.intro | with_reducible assumption | with_reducible exact fMul_lt _ _ | with_reducible exact fAdd_lt _ _ | with_reducible exact f_Sub_lt _ _ | with_reducible exact fInv_lt _ | with_reducible exact one_lt | with_reducible exact dN_lt | with_reducible exact xxV_lt _ | with_reducible exact beq_iff_eq.2 hz | with_reducible exact beq_eq_false_iff_ne.2 hs | with_reducible rfl | with_reducible exact Bool.not_true | with_reducible exact Bool.not_false | omega
  · by_cases hs : s = 1
    · have r0 := runWiT rtV fInv y s
      simp only [i1N, xx_def, rtV_eq (xxV_lt y), d0_beq] at r0
      have e : wX y s = fNeg (prV (xxV y)).1 := by rw [wX, if_pos hs]
      refine use_run r0 (by rw [e]) ?_
      clear r0
      rw [h1]
      simp only [AllP]
      and_intros <;> first | with_reducible exact True.intro | with_reducible assumption | with_reducible exact fMul_lt _ _ | with_reducible exact fAdd_lt _ _ | with_reducible exact f_Sub_lt _ _ | with_reducible exact fInv_lt _ | with_reducible exact one_lt | with_reducible exact dN_lt | with_reducible exact xxV_lt _ | with_reducible exact prV_lt _ | with_reducible exact beq_eq_false_iff_ne.2 hz | with_reducible exact beq_iff_eq.2 hs | with_reducible rfl | with_reducible exact Bool.not_true | with_reducible exact Bool.not_false | omega
    · have r0 := runWiF rtV fInv y s
      simp only [i1N, xx_def, rtV_eq (xxV_lt y), d0_beq] at r0
      have e : wX y s = (prV (xxV y)).1 := by rw [wX, if_neg hs]
      refine use_run r0 (by rw [e]) ?_
      clear r0
      rw [h1]
      simp only [AllP]
      and_intros <;> first | with_reducible exact True.intro | with_reducible assumption | with_reducible exact fMul_lt _ _ | with_reducible exact fAdd_lt _ _ | with_reducible exact f_Sub_lt _ _ | with_reducible exact fInv_lt _ | with_reducible exact one_lt | with_reducible exact dN_lt | with_reducible exact xxV_lt _ | with_reducible exact prV_lt _ | with_reducible exact beq_eq_false_iff_ne.2 hz | with_reducible exact beq_eq_false_iff_ne.2 hs | with_reducible rfl | with_reducible exact Bool.not_true | with_reducible exact Bool.not_false | omega
theorem ctWiN : CtSOk Try.prog 51 (.fn spWiN) := FnS_of_fnS gsDd fol fun ds r cs h hc => by
  unfold spWiN at h
  split at h
  case h_2 => simp at h
  rename_i y s
  simp only [Option.some.injEq, Prod.mk.injEq] at h
  obtain ⟨rfl, rfl⟩ := h
  obtain ⟨hy, hn, _⟩ := hc
  cases h1 : (prV (xxV y)).2 with
  | false =>
    have r0 := runWiN rtV fInv y s
    simp only [i1N, xx_def, rtV_eq (xxV_lt y)] at r0
    refine use_run r0 rfl ?_
    clear r0
    rw [h1]
    simp only [AllP]
    and_intros <;> first | with_reducible exact True.intro | with_reducible assumption | with_reducible exact fMul_lt _ _ | with_reducible exact fAdd_lt _ _ | with_reducible exact f_Sub_lt _ _ | with_reducible exact fInv_lt _ | with_reducible exact one_lt | with_reducible exact dN_lt | with_reducible exact xxV_lt _ | with_reducible rfl | with_reducible exact Bool.not_true | with_reducible exact Bool.not_false | omega
  | true =>
    have hzs : (prV (xxV y)).1 = 0 ∧ s = 1 := Decidable.byContradiction fun q => hn ⟨h1, q⟩
    have r0 := runWiZ rtV fInv y s
    simp only [i1N, xx_def, rtV_eq (xxV_lt y), d0_beq] at r0
    refine use_run r0 rfl ?_
    clear r0
    rw [h1]
    simp only [AllP]
    and_intros <;> first | with_reducible exact True.intro | with_reducible assumption | with_reducible exact fMul_lt _ _ | with_reducible exact fAdd_lt _ _ | with_reducible exact f_Sub_lt _ _ | with_reducible exact fInv_lt _ | with_reducible exact one_lt | with_reducible exact dN_lt | with_reducible exact xxV_lt _ | with_reducible exact beq_iff_eq.2 hzs.1 | with_reducible exact beq_iff_eq.2 hzs.2 | with_reducible rfl | with_reducible exact Bool.not_true | with_reducible exact Bool.not_false | omega
end Go.Proofs.Ytfhopbeieoffnaa
/- Contracts of layer 8: the document's Base, Decode, Point of bytes, Encode, Small. Own work. -/
namespace Go.Proofs.Ytfhopbeieoffnaa
open Go.Ev Go.Sp Go.RowKit
set_option maxRecDepth 100000
def tblDe (G : Nat → Int → Nat) (v : Nat → Nat) : List (FuncId × CtS) :=
  (51, .fn (spWiT G)) :: (86, .fn spRDec) :: (67, .fn spREnc) :: (49, .fn (sp1F v)) :: tblDb0
def tblDeN : List (FuncId × CtS) :=
  (51, .fn spWiN) :: (86, .fn spRDec) :: tblDb0
theorem gsDe : GSound Try.prog (upG (lookG (tblDe wX fInv))) := GSound_of_tbl ⟨⟨ctWiT, by kernel_rfl⟩, ⟨ctRDec, by kernel_rfl⟩, ⟨ctREnc, by kernel_rfl⟩, ⟨ctFInv, by kernel_rfl⟩, okDb0⟩
theorem gsDeN : GSound Try.prog (upG (lookG tblDeN)) := GSound_of_tbl ⟨⟨ctWiN, by kernel_rfl⟩, ⟨ctRDec, by kernel_rfl⟩, okDb0⟩
theorem runRBase (G : Nat → Int → Nat) (v : Nat → Nat) : fnS Try.prog (lookG (tblDe G v)) (orcA []) [] 10 18 [] =
    some (AV.val true [IV.fe (G (fMul 4 (v 5)) (0 : Int)), IV.fe (fMul 4 (v 5)), IV.fe 1], [(0 : Int) ≤ (4 : Int), (4 : Int) < (65536 : Int), (0 : Int) ≤ (5 : Int), (5 : Int) < (65536 : Int), 5 < Pp, 4 < Pp, v 5 < Pp, fMul 4 (v 5) < Pp, wOk (fMul 4 (v 5)) (0 : Int)]) := by kernel_rfl
theorem runREncT (G : Nat → Int → Nat) (v : Nat → Nat) (x y : N4) : fnS Try.prog (lookG (tblDe G v)) (orcA [(2, [(4, true)])]) [] 10 37 [.val true [.n4 x, .n4 y]] =
    some (sc (IV.d8 (cutL ((bl (val y % Pp) 32).set 31 ((bl (val y % Pp) 32).getD 31 (BitVec.ofNat 8 0) + BitVec.ofNat 8 128)) 0 (bl (val y % Pp) 32).length (bl (val y % Pp) 32).length)), [val y % Pp < p256, (0 : Int) ≤ (0 : Int), 0 < 4, 0 < 8, 2 ≠ 0, (x.get 0 % BitVec.ofNat 64 2 == BitVec.ofNat 64 1) = true, (0 : Int) ≤ (31 : Int), 31 < (bl (val y % Pp) 32).length, 31 < (bl (val y % Pp) 32).length, (0 : Int) ≤ (31 : Int), 31 < (bl (val y % Pp) 32).length, 31 < (bl (val y % Pp) 32).length, 0 + (bl (val y % Pp) 32).length ≤ (bl (val y % Pp) 32).length]) := by kernel_rfl
theorem runREncF (G : Nat → Int → Nat) (v : Nat → Nat) (x y : N4) : fnS Try.prog (lookG (tblDe G v)) (orcA [(2, [(4, false)])]) [] 10 37 [.val true [.n4 x, .n4 y]] =
    some (sc (IV.d8 (cutL (bl (val y % Pp) 32) 0 (bl (val y % Pp) 32).length (bl (val y % Pp) 32).length)), [val y % Pp < p256, (0 : Int) ≤ (0 : Int), 0 < 4, 0 < 8, 2 ≠ 0, (x.get 0 % BitVec.ofNat 64 2 == BitVec.ofNat 64 1) = false, 0 + (bl (val y % Pp) 32).length ≤ (bl (val y % Pp) 32).length]) := by kernel_rfl
theorem runRDe1 (b : BL) : fnS Try.prog (lookG tblDeN) (orcA [(1, [(2, true)])]) [] 10 65 [sc (.d8 b)] =
    some (AV.tup [(true, [IV.vi 48 [(0 : Int), (0 : Int), (0 : Int), (0 : Int), (0 : Int), (0 : Int), (0 : Int), (0 : Int), (0 : Int), (0 : Int), (0 : Int), (0 : Int), (0 : Int), (0 : Int), (0 : Int), (0 : Int), (0 : Int), (0 : Int), (0 : Int), (0 : Int), (0 : Int), (0 : Int), (0 : Int), (0 : Int), (0 : Int), (0 : Int), (0 : Int), (0 : Int), (0 : Int), (0 : Int), (0 : Int), (0 : Int), (0 : Int), (0 : Int), (0 : Int), (0 : Int), (0 : Int), (0 : Int), (0 : Int), (0 : Int), (0 : Int), (0 : Int), (0 : Int), (0 : Int), (0 : Int), (0 : Int), (0 : Int), (0 : Int)]]), (false, [IV.i64 (1 : Int)])], [(!(↑(List.length b) : Int) == (32 : Int)) = true]) := by kernel_rfl
theorem runRDe6 (b : BL) : fnS Try.prog (lookG tblDeN) (orcA [(1, [(2, false)]), (6, [(1, true)])]) [] 10 65 [sc (.d8 b)] =
    some (AV.tup [(true, [IV.vi 48 [(0 : Int), (0 : Int), (0 : Int), (0 : Int), (0 : Int), (0 : Int), (0 : Int), (0 : Int), (0 : Int), (0 : Int), (0 : Int), (0 : Int), (0 : Int), (0 : Int), (0 : Int), (0 : Int), (0 : Int), (0 : Int), (0 : Int), (0 : Int), (0 : Int), (0 : Int), (0 : Int), (0 : Int), (0 : Int), (0 : Int), (0 : Int), (0 : Int), (0 : Int), (0 : Int), (0 : Int), (0 : Int), (0 : Int), (0 : Int), (0 : Int), (0 : Int), (0 : Int), (0 : Int), (0 : Int), (0 : Int), (0 : Int), (0 : Int), (0 : Int), (0 : Int), (0 : Int), (0 : Int), (0 : Int), (0 : Int)]]), (false, [IV.i64 (decV (List.set b 31 (List.getD b 31 (BitVec.ofNat 8 0) % BitVec.ofNat 8 128))).snd])], [(!(↑(List.length b) : Int) == (32 : Int)) = false, List.length b = List.length b, 0 = 0, (0 + List.length b) * 1 ≤ 140737488355328 ∧ 0 + List.length b ≤ 9223372036854775807, (0 : Int) ≤ (31 : Int), 31 < 0 + List.length b, 31 < List.length b, (0 : Int) ≤ (31 : Int), 31 < 0 + List.length b, 31 < List.length b, 0 + List.length b = List.length b, (!(decV (List.set b 31 (List.getD b 31 (BitVec.ofNat 8 0) % BitVec.ofNat 8 128))).snd == (0 : Int)) = true]) := by kernel_rfl
theorem runRDe7 (b : BL) : fnS Try.prog (lookG tblDeN) (orcA [(1, [(2, false)]), (6, [(1, false)]), (9, [(1, true)])]) [] 10 65 [sc (.d8 b)] =
    some (AV.tup [(true, [IV.vi 48 [(0 : Int), (0 : Int), (0 : Int), (0 : Int), (0 : Int), (0 : Int), (0 : Int), (0 : Int), (0 : Int), (0 : Int), (0 : Int), (0 : Int), (0 : Int), (0 : Int), (0 : Int), (0 : Int), (0 : Int), (0 : Int), (0 : Int), (0 : Int), (0 : Int), (0 : Int), (0 : Int), (0 : Int), (0 : Int), (0 : Int), (0 : Int), (0 : Int), (0 : Int), (0 : Int), (0 : Int), (0 : Int), (0 : Int), (0 : Int), (0 : Int), (0 : Int), (0 : Int), (0 : Int), (0 : Int), (0 : Int), (0 : Int), (0 : Int), (0 : Int), (0 : Int), (0 : Int), (0 : Int), (0 : Int), (0 : Int)]]), (false, [IV.i64 (7 : Int)])], [(!(↑(List.length b) : Int) == (32 : Int)) = false, List.length b = List.length b, 0 = 0, (0 + List.length b) * 1 ≤ 140737488355328 ∧ 0 + List.length b ≤ 9223372036854775807, (0 : Int) ≤ (31 : Int), 31 < 0 + List.length b, 31 < List.length b, (0 : Int) ≤ (31 : Int), 31 < 0 + List.length b, 31 < List.length b, 0 + List.length b = List.length b, (!(decV (List.set b 31 (List.getD b 31 (BitVec.ofNat 8 0) % BitVec.ofNat 8 128))).snd == (0 : Int)) = false, (0 : Int) ≤ (31 : Int), 31 < List.length b, 31 < List.length b, (decV (List.set b 31 (List.getD b 31 (BitVec.ofNat 8 0) % BitVec.ofNat 8 128))).fst < Pp, ¬wOk (decV (List.set b 31 (List.getD b 31 (BitVec.ofNat 8 0) % BitVec.ofNat 8 128))).fst (↑(List.getD b 31 (BitVec.ofNat 8 0) / BitVec.ofNat 8 128).toNat : Int), true = true]) := by kernel_rfl
theorem runRDeT (G : Nat → Int → Nat) (v : Nat → Nat) (b : BL) : fnS Try.prog (lookG (tblDe G v)) (orcA [(1, [(2, false)]), (6, [(1, false)]), (9, [(1, false)])]) [] 10 65 [sc (.d8 b)] =
    some (AV.tup [(true, [IV.fe (G (decV (List.set b 31 (List.getD b 31 (BitVec.ofNat 8 0) % BitVec.ofNat 8 128))).fst (↑(List.getD b 31 (BitVec.ofNat 8 0) / BitVec.ofNat 8 128).toNat : Int)), IV.fe (decV (List.set b 31 (List.getD b 31 (BitVec.ofNat 8 0) % BitVec.ofNat 8 128))).fst, IV.fe 1]), (false, [IV.i64 (0 : Int)])], [(!(↑(List.length b) : Int) == (32 : Int)) = false, List.length b = List.length b, 0 = 0, (0 + List.length b) * 1 ≤ 140737488355328 ∧ 0 + List.length b ≤ 9223372036854775807, (0 : Int) ≤ (31 : Int), 31 < 0 + List.length b, 31 < List.length b, (0 : Int) ≤ (31 : Int), 31 < 0 + List.length b, 31 < List.length b, 0 + List.length b = List.length b, (!(decV (List.set b 31 (List.getD b 31 (BitVec.ofNat 8 0) % BitVec.ofNat 8 128))).snd == (0 : Int)) = false, (0 : Int) ≤ (31 : Int), 31 < List.length b, 31 < List.length b, (decV (List.set b 31 (List.getD b 31 (BitVec.ofNat 8 0) % BitVec.ofNat 8 128))).fst < Pp, wOk (decV (List.set b 31 (List.getD b 31 (BitVec.ofNat 8 0) % BitVec.ofNat 8 128))).fst (↑(List.getD b 31 (BitVec.ofNat 8 0) / BitVec.ofNat 8 128).toNat : Int), false = false]) := by kernel_rfl
theorem fNeg0 : fNeg 0 = 0 := Nat.mod_self _
theorem prV_eta {x r : Nat} (a : (prV x).1 = r) (b : (prV x).2 = true) : prV x = (r, true) := Prod.ext a b
/-- The even root is told. -/
theorem prV_even {r x : Nat} (hr : r < Pp) (h2 : r % 2 = 0) (h : fMul r r = x) : prV x = (r, true) := by
  have hx : x < Pp := h ▸ fMul_lt _ _
  have h1 : (prV x).2 = true := prV_of hx (sqV_of hr h)
  obtain ⟨a, b, c⟩ := prV_sq h1
  have e : (prV x).1 = r := by
    rcases sq_eq b hr (a.trans h.symm) with e | e
    · exact e
    · by_cases h0 : r = 0
      · rw [e, h0]
        exact fNeg0
      · have hp : Pp % 2 = 1 := by decide
        rw [e, fNeg_pos h0 hr] at c
        generalize Pp = p at *
        omega
  exact prV_eta e h1
theorem xxV_of {y D r : Nat} (hD : D = fAdd 1 (fMul dN (fMul y y))) (h0 : D ≠ 0) (h : fMul (fMul r r) D = fSub (fMul y y) 1) : xxV y = fMul r r := by
  have hl : D < Pp := hD ▸ fAdd_lt _ _
  unfold xxV
  rw [← hD, ← h, fMul_assoc, inv_mul h0 hl, fMul_one (fMul_lt _ _)]
theorem y45 : fMul 4 (fInv 5) = byN := by
  have h : fMul byN 5 = 4 := by kernel_rfl
  rw [← h, fMul_assoc, inv_mul (by decide) (by decide), fMul_one (by decide)]
def baseDn : Nat := fAdd 1 (fMul dN (fMul byN byN))
theorem baseDn_ne : (baseDn == 0) = false := by kernel_rfl
theorem base_xx : xxV byN = fMul bxN bxN := by
  have h1 : fMul (fMul bxN bxN) baseDn = fSub (fMul byN byN) 1 := by kernel_rfl
  exact xxV_of rfl (beq_eq_false_iff_ne.1 baseDn_ne) h1
theorem base_pr : prV (xxV byN) = (bxN, true) := prV_even (by decide) (by decide) base_xx.symm
def spRBase : List AV → Option (AV × List Prop)
  | [] => some (.val true [.fe bxN, .fe byN, .fe 1], [])
  | _ => none
theorem ctRBase : CtSOk Try.prog 18 (.fn spRBase) := FnS_of_fnS gsDe fol fun ds r cs h hc => by
  unfold spRBase at h
  split at h
  case h_2 => simp at h
  simp only [Option.some.injEq, Prod.mk.injEq] at h
  obtain ⟨rfl, rfl⟩ := h
  have r0 := runRBase wX fInv
  have e : wX byN 0 = bxN := by
    rw [wX, if_neg (by decide), base_pr]
  have ok : wOk byN 0 := ⟨by rw [base_pr], fun q => absurd q.2 (by decide)⟩
  rw [y45, e] at r0
  exact use_run r0 rfl ⟨by omega, by omega, by omega, by omega, by decide, by decide, fInv_lt _, by decide, ok, trivial⟩
def spREnB : List AV → Option (AV × List Prop)
  | [.val true [.n4 x, .n4 y]] => some (sc (.d8 (encB (val x) (val y))), [val y < Pp])
  | _ => none
theorem ctREn8 : CtSOk Try.prog 37 (.fn spREnB) := FnS_of_fnS gsDe fol fun ds r cs h hc => by
  unfold spREnB at h
  split at h
  case h_2 => simp at h
  rename_i x y
  simp only [Option.some.injEq, Prod.mk.injEq] at h
  obtain ⟨rfl, rfl⟩ := h
  have hy := hc.1
  have hm : val y % Pp = val y := Nat.mod_eq_of_lt hy
  have hl : (bl (val y) 32).length = 32 := bl_length _ _
  have hq : val y < q255 := Nat.lt_trans hy (by decide)
  have l2 := (lowbit x).2
  by_cases h : val x % 2 = 1
  · have r0 := runREncT wX fInv x y
    have e := (enc_set (val x) (val y) hq (BitVec.ofNat 8 128) (by rw [h])).2
    rw [hm, bl_get31, e, hl] at r0
    have el : (encB (val x) (val y)).length = 32 := bl_length _ _
    refine use_run r0 (by rw [← el, cutL_all]) ?_
    rw [l2, decide_eq_true h]
    clear r0
    simp only [AllP]
    and_intros <;> first | exact True.intro | with_reducible rfl | with_reducible exact lt256 hy | omega
  · have r0 := runREncF wX fInv x y
    have e : bl (val y) 32 = encB (val x) (val y) := by
      have h0 : val x % 2 = 0 := by omega
      unfold encB
      rw [h0, Nat.mul_zero, Nat.add_zero]
    rw [hm] at r0
    refine use_run r0 (by rw [cutL_all, e]) ?_
    rw [l2, decide_eq_false h, hl]
    clear r0
    simp only [AllP]
    and_intros <;> first | exact True.intro | with_reducible rfl | with_reducible exact lt256 hy | omega
theorem bvS31 {u : BL} (hu : u.length = 32) : bv (u.set 31 (u.getD 31 (BitVec.ofNat 8 0) % BitVec.ofNat 8 128)) = bv u % q255 ∧ (u.getD 31 (BitVec.ofNat 8 0) / BitVec.ofNat 8 128).toNat = bv u / q255 := by
  have e : u = u.take 31 ++ [u.getD 31 (BitVec.ofNat 8 0)] := by
    have h : u.drop 31 = [u.getD 31 (BitVec.ofNat 8 0)] := by
      rw [List.drop_eq_getElem_cons (by omega), List.drop_of_length_le (by omega), List.getD_eq_getElem?_getD, List.getElem?_eq_getElem (by omega)]
      rfl
    rw [← h, List.take_append_drop]
  have l31 : (u.take 31).length = 31 := by rw [List.length_take]; omega
  generalize u.getD 31 (BitVec.ofNat 8 0) = y at *
  have hp : (256 : Nat) ^ 31 = 452312848583266388373324160190187140051835877600158453279131187530910662656 := by decide
  have hlt := bv_lt (u.take 31)
  rw [l31, hp] at hlt
  generalize u.take 31 = m at *
  subst e
  rw [List.set_append_right _ _ (by omega), l31]
  have hm : (y % BitVec.ofNat 8 128).toNat = y.toNat % 128 := by rw [BitVec.toNat_umod]; rfl
  have hd : (y / BitVec.ofNat 8 128).toNat = y.toNat / 128 := by rw [BitVec.toNat_udiv]; rfl
  have hy := y.isLt
  have g1 : bv (m ++ [y]) = bv m + 452312848583266388373324160190187140051835877600158453279131187530910662656 * y.toNat := by
    rw [bv_append, l31, hp]
    simp only [bv, Nat.mul_zero, Nat.add_zero]
  have g2 : bv (m ++ [y % BitVec.ofNat 8 128]) = bv m + 452312848583266388373324160190187140051835877600158453279131187530910662656 * (y.toNat % 128) := by
    rw [bv_append, l31, hp]
    simp only [bv, Nat.mul_zero, Nat.add_zero, hm]
  constructor
  · show bv (m ++ [y % BitVec.ofNat 8 128]) = _
    rw [g1, g2]
    unfold q255
    generalize bv m = z at *
    generalize y.toNat = s at *
    omega
  · rw [g1, hd]
    unfold q255
    generalize bv m = z at *
    generalize y.toNat = s at *
    omega
end Go.Proofs.Ytfhopbeieoffnaa
/- Contracts of layer 8: the document's Decode and Point of bytes. Own work. -/
namespace Go.Proofs.Ytfhopbeieoffnaa
open Go.Ev Go.Sp Go.RowKit
set_option maxRecDepth 100000
def dX (b : BL) : Nat := wX (bv b % q255) ((bv b / q255 : Nat) : Int)
def dOk (b : BL) : Prop := b.length = 32 ∧ bv b % q255 < Pp ∧ wOk (bv b % q255) ((bv b / q255 : Nat) : Int)
def spRDeT (X Y : BL → Nat) : List AV → Option (AV × List Prop)
  | [.val false [.d8 b]] => some (.tup [(true, [.fe (X b), .fe (Y b), .fe 1]), (false, [.i64 0])], [dOk b])
  | _ => none
def spRDeE (E : BL → Int) : List AV → Option (AV × List Prop)
  | [.val false [.d8 b]] => some (.tup [(true, [.vi 48 z48]), (false, [.i64 (E b)])], [¬ dOk b])
  | _ => none
def dY (b : BL) : Nat := bv b % q255
def dE (b : BL) : Int := if b.length = 32 then if bv b % q255 < Pp then 7 else 6 else 1
theorem dec31 {b : BL} (h : b.length = 32) : decV (b.set 31 (b.getD 31 (BitVec.ofNat 8 0) % BitVec.ofNat 8 128)) = if bv b % q255 < Pp then (bv b % q255, 0) else (0, 6) := by
  unfold decV
  rw [List.length_set, if_pos h, (bvS31 h).1]
theorem ctRDeT : CtSOk Try.prog 65 (.fn (spRDeT dX dY)) := FnS_of_fnS gsDe fol fun ds r cs h hc => by
  unfold spRDeT at h
  split at h
  case h_2 => simp at h
  rename_i b
  simp only [Option.some.injEq, Prod.mk.injEq] at h
  obtain ⟨rfl, rfl⟩ := h
  obtain ⟨⟨h1, h2, h3⟩, _⟩ := hc
  have r0 := runRDeT wX fInv b
  simp only [dec31 h1, if_pos h2, (bvS31 h1).2] at r0
  refine use_run r0 rfl ?_
  clear r0
  have h4 := h3.1
  have h5 := h3.2
  simp only [AllP]
  and_intros <;> first | exact True.intro | with_reducible assumption | exact lcT h1 | with_reducible rfl | omega | rfl
theorem ctRDeE : CtSOk Try.prog 65 (.fn (spRDeE dE)) := FnS_of_fnS gsDeN fol fun ds r cs h hc => by
  unfold spRDeE at h
  split at h
  case h_2 => simp at h
  rename_i b
  simp only [Option.some.injEq, Prod.mk.injEq] at h
  obtain ⟨rfl, rfl⟩ := h
  have hn := hc.1
  by_cases h1 : b.length = 32
  · by_cases h2 : bv b % q255 < Pp
    · have h3 : ¬ wOk (bv b % q255) ((bv b / q255 : Nat) : Int) := fun q => hn ⟨h1, h2, q⟩
      have r0 := runRDe7 b
      simp only [dec31 h1, if_pos h2, (bvS31 h1).2] at r0
      refine use_run r0 (by rw [dE, if_pos h1, if_pos h2]; rfl) ?_
      clear r0
      simp only [AllP]
      and_intros <;> first | exact True.intro | with_reducible assumption | exact lcT h1 | with_reducible rfl | omega | rfl
    · have r0 := runRDe6 b
      simp only [dec31 h1, if_neg h2] at r0
      refine use_run r0 (by rw [dE, if_pos h1, if_neg h2]; rfl) ?_
      clear r0
      simp only [AllP]
      and_intros <;> first | exact True.intro | with_reducible assumption | exact lcT h1 | with_reducible rfl | omega | rfl
  · exact use_run (runRDe1 b) (by rw [dE, if_neg h1]; rfl) ⟨lcF h1, trivial⟩
/-- The two tables: what is read, what is none. -/
def tblDg (X Y : BL → Nat) : List (FuncId × CtS) :=
  (65, .fn (spRDeT X Y)) :: (19, .fn spRPt) :: []
def tblDh (E : BL → Int) : List (FuncId × CtS) :=
  (65, .fn (spRDeE E)) :: (19, .fn spRPt) :: []
theorem gsDg : GSound Try.prog (upG (lookG (tblDg dX dY))) := GSound_of_tbl ⟨⟨ctRDeT, by kernel_rfl⟩, ⟨ctRPt, by kernel_rfl⟩, trivial⟩
theorem gsDh : GSound Try.prog (upG (lookG (tblDh dE))) := GSound_of_tbl ⟨⟨ctRDeE, by kernel_rfl⟩, ⟨ctRPt, by kernel_rfl⟩, trivial⟩
theorem runRPoT (X Y : BL → Nat) (b : BL) : fnS Try.prog (lookG (tblDg X Y)) (orcA [(2, [(1, false)])]) [] 10 35 [sc (.d8 b)] =
    some (AV.tup [(true, [IV.n4 (ofN (fMul (X b) (fInv 1))), IV.n4 (ofN (fMul (Y b) (fInv 1)))]), (false, [IV.i64 (0 : Int)])], [List.length b = List.length b, dOk b, false = false, X b < Pp, Y b < Pp, 1 < Pp]) := by kernel_rfl
theorem runRPoE (E : BL → Int) (b : BL) : fnS Try.prog (lookG (tblDh E)) (orcA [(2, [(1, true)])]) [] 10 35 [sc (.d8 b)] =
    some (AV.tup [(true, [IV.n4 (N4.mk (BitVec.ofNat 64 0) (BitVec.ofNat 64 0) (BitVec.ofNat 64 0) (BitVec.ofNat 64 0)), IV.n4 (N4.mk (BitVec.ofNat 64 0) (BitVec.ofNat 64 0) (BitVec.ofNat 64 0) (BitVec.ofNat 64 0))]), (false, [IV.i64 (E b)])], [List.length b = List.length b, ¬dOk b, (!E b == (0 : Int)) = true]) := by kernel_rfl
theorem inv1 : fInv 1 = 1 := by
  have h := inv_mul (x := 1) (by decide) (by decide)
  rwa [fMul_comm, fMul_one (fInv_lt 1)] at h
theorem wX_lt (y : Nat) (s : Int) : wX y s < Pp := by
  unfold wX
  split
  · exact fNeg_lt _
  · exact prV_lt _
theorem top01 {b : BL} (h : b.length = 32) : bv b / q255 = 0 ∨ bv b / q255 = 1 := by
  have := bv_p256 h
  unfold p256 at this
  unfold q255
  omega
theorem wOk_nat (y s : Nat) : wOk y (s : Int) ↔ (prV (xxV y)).2 = true ∧ ¬ ((prV (xxV y)).1 = 0 ∧ s = 1) := by
  have e : ((s : Int) = 1) ↔ s = 1 := by omega
  unfold wOk
  rw [e]
theorem decR_T {b : BL} (h : dOk b) : decR b = ⟨ofN (dX b), ofN (dY b), 0⟩ := by
  obtain ⟨h1, h2, h3⟩ := h
  rw [decR, if_pos h1, if_pos h2, if_pos ((wOk_nat _ _).1 h3), dX, dY, wX]
  congr 2
  rcases top01 h1 with e | e <;> rw [e]
  · rw [if_pos rfl, if_neg (by decide)]
  · rw [if_neg (by decide), if_pos (by decide)]
theorem decR_E {b : BL} (h : ¬ dOk b) : decR b = prE (dE b) ∧ dE b ≠ 0 := by
  unfold decR dE
  by_cases h1 : b.length = 32
  · rw [if_pos h1, if_pos h1]
    by_cases h2 : bv b % q255 < Pp
    · rw [if_pos h2, if_pos h2, if_neg (fun q => h ⟨h1, h2, (wOk_nat _ _).2 q⟩)]
      exact ⟨rfl, by decide⟩
    · rw [if_neg h2, if_neg h2]
      exact ⟨rfl, by decide⟩
  · rw [if_neg h1, if_neg h1]
    exact ⟨rfl, by decide⟩
theorem ctRPo : CtSOk Try.prog 35 (.fn (spDecCG decR)) := FnS_intro fun ds r cs hd _ w vals hv => by
  unfold spDecCG at hd
  split at hd
  case h_2 => simp at hd
  rename_i b
  simp only [Option.some.injEq, Prod.mk.injEq] at hd
  obtain ⟨rfl, rfl⟩ := hd
  by_cases h : dOk b
  · have hX : dX b < Pp := wX_lt _ _
    have hY : dY b < Pp := h.2.1
    have r0 := runRPoT dX dY b
    rw [inv1, fMul_one hX, fMul_one hY] at r0
    rw [decR_T h]
    exact calls_of_fnS gsDg fol r0 ⟨rfl, h, rfl, wX_lt _ _, h.2.1, one_lt, trivial⟩ w vals hv
  · obtain ⟨e, h0⟩ := decR_E h
    have r0 := runRPoE dE b
    rw [zeroN] at r0
    rw [e]
    exact calls_of_fnS gsDh fol r0 ⟨rfl, h, by rw [beq_eq_false_iff_ne.2 h0]; rfl, trivial⟩ w vals hv
end Go.Proofs.Ytfhopbeieoffnaa
/- Contracts of layer 8: the document's Small and Digits; the law's nought and awake. Own work. -/
namespace Go.Proofs.Ytfhopbeieoffnaa
open Go.Ev Go.Sp Go.RowKit
set_option maxRecDepth 100000
def tblDi (H : Nat → T3 → T3) : List (FuncId × CtS) :=
  (25, .fn (orD (spRTs H))) :: (19, .fn spRPt) :: (52, .fn spRNo8) :: []
theorem gsDi : GSound Try.prog (upG (lookG (tblDi tsD))) := GSound_of_tbl ⟨⟨FnS_orD ctRTs, by kernel_rfl⟩, ⟨ctRPt, by kernel_rfl⟩, ⟨ctRNo8, by kernel_rfl⟩, trivial⟩
theorem runRSm (H : Nat → T3 → T3) (a b c : Nat) : fnS Try.prog (lookG (tblDi H)) (orcA []) [] 10 22 [.val true [.fe a, .fe b, .fe c]] =
    some (sc (IV.bool ((ofN (fMul (H (nv ((List.replicate 1 (0 : Int)).set ((0, Operand.const (Value.int IntKind.i64 (8 : Int))).fst * (fun x => x.size) Try.prog.types[3]) (8 : Int))) (T3.mk a b c)).x (fInv (H (nv ((List.replicate 1 (0 : Int)).set ((0, Operand.const (Value.int IntKind.i64 (8 : Int))).fst * (fun x => x.size) Try.prog.types[3]) (8 : Int))) (T3.mk a b c)).z))).eq (ofN (fMul 0 (fInv 1))) && ((ofN (fMul (H (nv ((List.replicate 1 (0 : Int)).set ((0, Operand.const (Value.int IntKind.i64 (8 : Int))).fst * (fun x => x.size) Try.prog.types[3]) (8 : Int))) (T3.mk a b c)).y (fInv (H (nv ((List.replicate 1 (0 : Int)).set ((0, Operand.const (Value.int IntKind.i64 (8 : Int))).fst * (fun x => x.size) Try.prog.types[3]) (8 : Int))) (T3.mk a b c)).z))).eq (ofN (fMul 1 (fInv 1))) && true))), [1 = 1, Sm 8, a < Pp, b < Pp, c < Pp, (List.replicate 1 (0 : Int)).set 0 (8 : Int) = dg 8, (H (nv ((List.replicate 1 (0 : Int)).set ((0, Operand.const (Value.int IntKind.i64 (8 : Int))).fst * (fun x => x.size) Try.prog.types[3]) (8 : Int))) (T3.mk a b c)).x < Pp, (H (nv ((List.replicate 1 (0 : Int)).set ((0, Operand.const (Value.int IntKind.i64 (8 : Int))).fst * (fun x => x.size) Try.prog.types[3]) (8 : Int))) (T3.mk a b c)).y < Pp, (H (nv ((List.replicate 1 (0 : Int)).set ((0, Operand.const (Value.int IntKind.i64 (8 : Int))).fst * (fun x => x.size) Try.prog.types[3]) (8 : Int))) (T3.mk a b c)).z < Pp, 0 < Pp, 1 < Pp, 1 < Pp]) := by kernel_rfl
theorem gsDj : GSound Try.prog (upG (lookG [(57, .fn spDigits)])) := GSound_of_tbl ⟨⟨ctDigits, by kernel_rfl⟩, trivial⟩
theorem runRDg (n : N4) : fnS Try.prog (lookG [(57, .fn spDigits)]) (orcA []) [] 10 26 [.val true [.n4 n]] =
    some (sc (IV.dI (cutL (dg (val n)) 0 (dg (val n)).length (dg (val n)).length)), [0 + (dg (val n)).length ≤ (dg (val n)).length]) := by kernel_rfl
theorem runNo8  : fnS Try.prog (lookG []) (orcA []) [] 10 30 [] =
    some (AV.val true [IV.n4 (N4.mk (BitVec.ofNat 64 0) (BitVec.ofNat 64 0) (BitVec.ofNat 64 0) (BitVec.ofNat 64 0)), IV.n4 (N4.mk (BitVec.ofNat 64 1) (BitVec.ofNat 64 0) (BitVec.ofNat 64 0) (BitVec.ofNat 64 0))], []) := by kernel_rfl
def spNo : List AV → Option (AV × List Prop)
  | [] => some (.val true [.n4 (ofN 0), .n4 (ofN 1)], [])
  | _ => none
def onW (x y : N4) : Bool := onV (val x) (val y)
theorem ctOnW : CtSOk Try.prog 12 (.fn (spSmG onW)) := ctOnC
theorem ctNo8 : CtSOk Try.prog 30 (.fn spNo) := FnS_of_fnS gs0 fol fun ds r cs h hc => by
  unfold spNo at h
  split at h
  case h_2 => simp at h
  simp only [Option.some.injEq, Prod.mk.injEq] at h
  obtain ⟨rfl, rfl⟩ := h
  exact use_run runNo8 (by kernel_rfl) trivial
def tblAw8 (G : N4 → N4 → BL × Int) (o s : N4 → N4 → Bool) : List (FuncId × CtS) :=
  (17, .fn spCBase) :: (36, .fn (spEncCG G)) :: (12, .fn (spSmG o)) :: (21, .fn (spSmG s)) :: (30, .fn spNo) :: []
theorem gsAw8 : GSound Try.prog (upG (lookG (tblAw8 encR onW smallR))) := GSound_of_tbl ⟨⟨ctCBase, by kernel_rfl⟩, ⟨ctEncC, by kernel_rfl⟩, ⟨ctOnW, by kernel_rfl⟩, ⟨ctSmallC, by kernel_rfl⟩, ⟨ctNo8, by kernel_rfl⟩, trivial⟩
theorem runAw8 (G : N4 → N4 → BL × Int) (o s : N4 → N4 → Bool) : fnS Try.prog (lookG (tblAw8 G o s)) (orcA [(2, [(2, true), (7, true), (13, true), (19, true), (23, true)])]) [] 10 20 [] =
    some (sc (IV.bool (s (ofN 0) (ofN 1))), [((G (ofN bxN) (ofN byN)).snd == (0 : Int)) = true, ((↑(List.length (G (ofN bxN) (ofN byN)).fst) : Int) == (32 : Int)) = true, (0 : Int) ≤ (0 : Int), 0 < List.length (G (ofN bxN) (ofN byN)).fst, 0 < List.length (G (ofN bxN) (ofN byN)).fst, (List.getD (G (ofN bxN) (ofN byN)).fst 0 (BitVec.ofNat 8 0) == BitVec.ofNat 8 88) = true, (0 : Int) ≤ (31 : Int), 31 < List.length (G (ofN bxN) (ofN byN)).fst, 31 < List.length (G (ofN bxN) (ofN byN)).fst, (List.getD (G (ofN bxN) (ofN byN)).fst 31 (BitVec.ofNat 8 0) == BitVec.ofNat 8 102) = true, o (ofN 0) (ofN 1) = true]) := by kernel_rfl
theorem ctRDg : CtSOk Try.prog 26 (.fn spDigits) := FnS_of_fnS gsDj fol fun ds r cs h hc => by
  unfold spDigits at h
  split at h
  case h_2 => simp at h
  rename_i n
  simp only [Option.some.injEq, Prod.mk.injEq] at h
  obtain ⟨rfl, rfl⟩ := h
  exact use_run (runRDg n) (by rw [cutL_all]) ⟨by omega, trivial⟩
theorem base_onV : onV (val (ofN bxN)) (val (ofN byN)) = true := by
  have h1 : bxN < Pp := by decide
  have h2 : byN < Pp := by decide
  rw [val_lo h1, val_lo h2]
  exact onV_iff.2 ⟨h1, h2, bON⟩
theorem base_enc : encR (ofN bxN) (ofN byN) = (encB bxN byN, 0) := by
  have h1 : bxN < Pp := by decide
  have h2 : byN < Pp := by decide
  rw [encR, if_pos base_onV, val_lo h1, val_lo h2]
theorem no_On : OnN 0 1 := by unfold OnN; kernel_rfl
theorem no_val : val (ofN 0) = 0 ∧ val (ofN 1) = 1 := ⟨by kernel_rfl, by kernel_rfl⟩
theorem no_onV : onV (val (ofN 0)) (val (ofN 1)) = true := by
  rw [no_val.1, no_val.2]
  exact onV_iff.2 ⟨Pp_pos, one_lt, no_On⟩
theorem no_pt : ptV (ofN 0) (ofN 1) no_onV = Pt.nought := by
  have h : ∀ x y (h : onV x y = true), x = 0 → y = 1 → ptN x y (onV_iff.1 h).2.2 = Pt.nought := by
    rintro x y h rfl rfl
    unfold ptN Pt.nought
    simp only [tF_zero, tF_one]
  exact h _ _ no_onV no_val.1 no_val.2
theorem no_pr : prP (Pt.nought : Pt Ed) = ⟨ofN 0, ofN 1, 0⟩ := by
  have h1 : (Pt.nought : Pt Ed).x.val = 0 := rfl
  have h2 : (Pt.nought : Pt Ed).y.val = 1 := by
    show (1 : Fin Pp).val = 1
    rw [← tF_one]
    kernel_rfl
  rw [prP, h1, h2]
theorem no_small : smallR (ofN 0) (ofN 1) = true := by
  have h : multR eightN (ofN 0) (ofN 1) = ⟨ofN 0, ofN 1, 0⟩ := by
    rw [multR, dif_pos no_onV, no_pt, Pt.times_nought, no_pr]
  have h0 : ∀ a : N4, a.eq a = true := fun a => by
    have h := eq_N4 a a
    rwa [Bool.and_true, beq_self_eq_true] at h
  unfold smallR smallM
  rw [h]
  show (((0 : Int) == 0) && ((ofN 0).eq (ofN 0) && ((ofN 1).eq (ofN 1) && true))) = true
  rw [h0, h0]
  rfl
def spTrue0 : List AV → Option (AV × List Prop)
  | [] => some (sc (.bool true), [])
  | _ => none
theorem base_len : (encB bxN byN).length = 32 := bl_length _ _
theorem ctAw8 : CtSOk Try.prog 20 (.fn spTrue0) := FnS_of_fnS gsAw8 fol fun ds r cs h hc => by
  unfold spTrue0 at h
  split at h
  case h_2 => simp at h
  simp only [Option.some.injEq, Prod.mk.injEq] at h
  obtain ⟨rfl, rfl⟩ := h
  have r0 := runAw8 encR onW smallR
  rw [base_enc, no_small] at r0
  refine use_run r0 rfl ⟨rfl, ?_, by omega, ?_, ?_, by kernel_rfl, by omega, ?_, ?_, by kernel_rfl, no_onV, trivial⟩ <;> rw [base_len] <;> decide
theorem eight_set : (List.replicate 1 (0 : Int)).set ((0, Operand.const (Value.int IntKind.i64 (8 : Int))).fst * (fun x => x.size) Try.prog.types[3]) (8 : Int) = [8] := by kernel_rfl
theorem eight_nv : nv [(8 : Int)] = 8 := by kernel_rfl
theorem eight_dg : (List.replicate 1 (0 : Int)).set 0 (8 : Int) = dg 8 := by kernel_rfl
def smD (H : Nat → T3 → T3) (p : T3) : Bool := (ofN (fMul (H 8 p).x (fInv (H 8 p).z))).eq (ofN (fMul 0 (fInv 1))) && ((ofN (fMul (H 8 p).y (fInv (H 8 p).z))).eq (ofN (fMul 1 (fInv 1))) && true)
def smallD (p : T3) : Bool := smD tsD p
def spRSmG (s : T3 → Bool) : List AV → Option (AV × List Prop)
  | [.val true [.fe a, .fe b, .fe c]] => some (sc (.bool (s ⟨a, b, c⟩)), [a < Pp, b < Pp, c < Pp])
  | _ => none
theorem ctRSm : CtSOk Try.prog 22 (.fn (spRSmG smallD)) := FnS_of_fnS gsDi fol fun ds r cs h hc => by
  unfold spRSmG at h
  split at h
  case h_2 => simp at h
  rename_i a b c
  simp only [Option.some.injEq, Prod.mk.injEq] at h
  obtain ⟨rfl, rfl⟩ := h
  obtain ⟨h1, h2, h3, _⟩ := hc
  have r0 := runRSm tsD a b c
  rw [eight_set, eight_nv] at r0
  have hl : (tsD 8 ⟨a, b, c⟩).Lt := tO_lt _ _
  obtain ⟨l1, l2, l3⟩ := hl
  have hs : Sm 8 := Sm_lt (k := 40) (by decide) (by omega)
  refine use_run r0 rfl ?_
  clear r0
  generalize tsD 8 ⟨a, b, c⟩ = q at *
  simp only [AllP]
  and_intros <;> first | exact True.intro | with_reducible assumption | with_reducible exact eight_dg | with_reducible rfl | with_reducible exact one_lt | with_reducible exact Pp_pos
end Go.Proofs.Ytfhopbeieoffnaa
/- Layer 8, plain: the document's multiples and points as the group's. Own work. -/
namespace Go.Proofs.Ytfhopbeieoffnaa
open Go.Ev Go.Sp Go.RowKit
theorem R3.ts {P : Pt Ed} {p : T3} (h : R3 P p) (n : Nat) : R3 (Pt.times n P) (tsD n p) := by
  have h1 := h.tO n (8 * (dg n).length)
  have h2 : n < 2 ^ (8 * (dg n).length) := by
    rw [Nat.pow_mul]
    exact lt_of_dg n
  rw [Nat.mod_eq_of_lt h2] at h1
  exact h1
theorem tsD_lt (n : Nat) (p : T3) : (tsD n p).Lt := tO_lt _ _
theorem R3.pr {P : Pt Ed} {p : T3} (h : R3 P p) (hz : p.z < Pp) : ofN (fMul p.x (fInv p.z)) = (prP P).x ∧ ofN (fMul p.y (fInv p.z)) = (prP P).y := by
  obtain ⟨h1, h2⟩ := h.point hz
  rw [h1, h2]
  exact ⟨rfl, rfl⟩
theorem ptV_R3 {x y : N4} (h : onV (val x) (val y) = true) : R3 (ptV x y h) ⟨val x % Pp, val y % Pp, 1⟩ := by
  obtain ⟨h1, h2, h3⟩ := onV_iff.1 h
  rw [Nat.mod_eq_of_lt h1, Nat.mod_eq_of_lt h2]
  exact R3.of h3
theorem law_mult {n x y : N4} (h : onV (val x) (val y) = true) : multR n x y = ⟨ofN (fMul (tsD (val n) ⟨val x % Pp, val y % Pp, 1⟩).x (fInv (tsD (val n) ⟨val x % Pp, val y % Pp, 1⟩).z)), ofN (fMul (tsD (val n) ⟨val x % Pp, val y % Pp, 1⟩).y (fInv (tsD (val n) ⟨val x % Pp, val y % Pp, 1⟩).z)), 0⟩ := by
  obtain ⟨e1, e2⟩ := ((ptV_R3 h).ts (val n)).pr (tsD_lt _ _).2.2
  rw [multR, dif_pos h, e1, e2]
  rfl
theorem law_small {x y : N4} (h : onV (val x) (val y) = true) : smallD ⟨val x % Pp, val y % Pp, 1⟩ = smallR x y := by
  have hm := law_mult (n := eightN) h
  rw [show val eightN = 8 by kernel_rfl] at hm
  unfold smallR smallM smallD smD
  rw [hm, inv1, fMul_one Pp_pos, fMul_one one_lt]
  generalize tsD 8 ⟨val x % Pp, val y % Pp, 1⟩ = q
  generalize fMul q.x (fInv q.z) = u
  generalize fMul q.y (fInv q.z) = v
  show _ = (((0 : Int) == 0) && ((ofN u).eq (ofN 0) && ((ofN v).eq (ofN 1) && true)))
  rw [beq_self_eq_true, Bool.true_and]
theorem law_add {x y x' y' : N4} (h : onV (val x) (val y) = true) (h' : onV (val x') (val y') = true) : addR x y x' y' = ⟨ofN (fMul (plusD ⟨val x % Pp, val y % Pp, 1⟩ ⟨val x' % Pp, val y' % Pp, 1⟩).x (fInv (plusD ⟨val x % Pp, val y % Pp, 1⟩ ⟨val x' % Pp, val y' % Pp, 1⟩).z)), ofN (fMul (plusD ⟨val x % Pp, val y % Pp, 1⟩ ⟨val x' % Pp, val y' % Pp, 1⟩).y (fInv (plusD ⟨val x % Pp, val y % Pp, 1⟩ ⟨val x' % Pp, val y' % Pp, 1⟩).z)), 0⟩ := by
  have hr : R3 _ (plusD ⟨val x % Pp, val y % Pp, 1⟩ ⟨val x' % Pp, val y' % Pp, 1⟩) := (ptV_R3 h).add (ptV_R3 h')
  obtain ⟨e1, e2⟩ := hr.pr (plus3_lt _ _ _).2.2
  rw [addR, dif_pos h, dif_pos h', e1, e2]
  rfl
theorem law_both {n x y m x' y' : N4} (h : onV (val x) (val y) = true) (h' : onV (val x') (val y') = true) (q : T3) (hq : q = plusD (tsD (val n) ⟨val x % Pp, val y % Pp, 1⟩) (tsD (val m) ⟨val x' % Pp, val y' % Pp, 1⟩)) : bothR n x y m x' y' = ⟨ofN (fMul q.x (fInv q.z)), ofN (fMul q.y (fInv q.z)), 0⟩ := by
  have hr : R3 ((Pt.times (val n) (ptV x y h)).add (Pt.times (val m) (ptV x' y' h'))) q := hq ▸ ((ptV_R3 h).ts (val n)).add ((ptV_R3 h').ts (val m))
  have hz : q.z < Pp := hq ▸ (plus3_lt _ _ _).2.2
  obtain ⟨e1, e2⟩ := hr.pr hz
  rw [bothR, dif_pos h, dif_pos h', e1, e2]
  rfl
end Go.Proofs.Ytfhopbeieoffnaa
/- Layer 8: the laws' runs over generic functions. Own work. -/
namespace Go.Proofs.Ytfhopbeieoffnaa
open Go.Ev Go.Sp Go.RowKit
set_option maxRecDepth 100000
def tblMl (M : N4 → N4 → N4 → PR) (o : N4 → N4 → Bool) (H : Nat → T3 → T3) : List (FuncId × CtS) :=
  (24, .fn (spMulCG M)) :: (13, .fn (spSmG o)) :: (20, .fn spTrue0) :: (26, .fn spDigits) :: (23, .fn spROf8) :: (25, .fn (orD (spRTs H))) :: (19, .fn spRPt) :: []
theorem runMlT (M : N4 → N4 → N4 → PR) (o : N4 → N4 → Bool) (H : Nat → T3 → T3) (n x y : N4) : fnS Try.prog (lookG (tblMl M o H)) (orcA [(2, [(2, false)]), (4, [(8, true), (12, true)])]) [] 10 5 [.val true [.n4 n], .val true [.n4 x, .n4 y]] =
    some (sc (IV.bool true), [(!o x y) = false, (dg (val n)).length = (dg (val n)).length, Sm (nv (dg (val n))), val x % Pp < Pp, val y % Pp < Pp, 1 < Pp, dg (val n) = dg (nv (dg (val n))), (H (nv (dg (val n))) (T3.mk (val x % Pp) (val y % Pp) 1)).x < Pp, (H (nv (dg (val n))) (T3.mk (val x % Pp) (val y % Pp) 1)).y < Pp, (H (nv (dg (val n))) (T3.mk (val x % Pp) (val y % Pp) 1)).z < Pp, ((M n x y).x.eq (ofN (fMul (H (nv (dg (val n))) (T3.mk (val x % Pp) (val y % Pp) 1)).x (fInv (H (nv (dg (val n))) (T3.mk (val x % Pp) (val y % Pp) 1)).z))) && ((M n x y).y.eq (ofN (fMul (H (nv (dg (val n))) (T3.mk (val x % Pp) (val y % Pp) 1)).y (fInv (H (nv (dg (val n))) (T3.mk (val x % Pp) (val y % Pp) 1)).z))) && true)) = true, ((M n x y).e == (0 : Int)) = true]) := by kernel_rfl
theorem runMlF (M : N4 → N4 → N4 → PR) (o : N4 → N4 → Bool) (H : Nat → T3 → T3) (n x y : N4) : fnS Try.prog (lookG (tblMl M o H)) (orcA [(2, [(2, true)]), (3, [(3, true), (7, true)])]) [] 10 5 [.val true [.n4 n], .val true [.n4 x, .n4 y]] =
    some (sc (IV.bool true), [(!o x y) = true, ((M n x y).x.eq (N4.mk (BitVec.ofNat 64 0) (BitVec.ofNat 64 0) (BitVec.ofNat 64 0) (BitVec.ofNat 64 0)) && ((M n x y).y.eq (N4.mk (BitVec.ofNat 64 0) (BitVec.ofNat 64 0) (BitVec.ofNat 64 0) (BitVec.ofNat 64 0)) && true)) = true, ((M n x y).e == (7 : Int)) = true]) := by kernel_rfl
theorem ctOnDW : CtSOk Try.prog 13 (.fn (spSmG onW)) := ctROnD
theorem gsMl : GSound Try.prog (upG (lookG (tblMl multR onW tsD))) := GSound_of_tbl ⟨⟨ctMulC, by kernel_rfl⟩, ⟨ctOnDW, by kernel_rfl⟩, ⟨ctAw8, by kernel_rfl⟩, ⟨ctRDg, by kernel_rfl⟩, ⟨ctROf8, by kernel_rfl⟩, ⟨FnS_orD ctRTs, by kernel_rfl⟩, ⟨ctRPt, by kernel_rfl⟩, trivial⟩
theorem eq_selfN (a : N4) : a.eq a = true := by
  have h := eq_N4 a a
  rwa [Bool.and_true, beq_self_eq_true] at h
def spLawM : List AV → Option (AV × List Prop)
  | [.val true [.n4 _], .val true [.n4 _, .n4 _]] => some (sc (.bool true), [])
  | _ => none
theorem ctLawM : CtSOk Try.prog 5 (.fn spLawM) := FnS_of_fnS gsMl fol fun ds r cs h hc => by
  unfold spLawM at h
  split at h
  case h_2 => simp at h
  rename_i n x y
  simp only [Option.some.injEq, Prod.mk.injEq] at h
  obtain ⟨rfl, rfl⟩ := h
  by_cases h : onV (val x) (val y) = true
  · have r0 := runMlT multR onW tsD n x y
    rw [nv_dg, law_mult h] at r0
    have hq : (tsD (val n) ⟨val x % Pp, val y % Pp, 1⟩).Lt := tsD_lt _ _
    generalize tsD (val n) ⟨val x % Pp, val y % Pp, 1⟩ = q at *
    obtain ⟨q1, q2, q3⟩ := hq
    refine use_run r0 rfl ⟨?_, rfl, Sm_val n, Nat.mod_lt _ Pp_pos, Nat.mod_lt _ Pp_pos, one_lt, rfl, q1, q2, q3, ?_, rfl, trivial⟩
    · show (!onV (val x) (val y)) = false
      rw [h]; rfl
    · show ((ofN _).eq (ofN _) && ((ofN _).eq (ofN _) && true)) = true
      rw [eq_selfN, eq_selfN]; rfl
  · have r0 := runMlF multR onW tsD n x y
    have e : multR n x y = prE 7 := by rw [multR, dif_neg h]
    rw [e, zeroN] at r0
    refine use_run r0 rfl ⟨?_, ?_, rfl, trivial⟩
    · show (!onV (val x) (val y)) = true
      rw [Bool.eq_false_iff.2 h]; rfl
    · show ((ofN 0).eq (ofN 0) && ((ofN 0).eq (ofN 0) && true)) = true
      rw [eq_selfN]; rfl
end Go.Proofs.Ytfhopbeieoffnaa
/- Layer 8: the law CurveSmalls. Own work. -/
namespace Go.Proofs.Ytfhopbeieoffnaa
open Go.Ev Go.Sp Go.RowKit
set_option maxRecDepth 100000
def tblSl (s o : N4 → N4 → Bool) (S : T3 → Bool) : List (FuncId × CtS) :=
  (21, .fn (spSmG s)) :: (13, .fn (spSmG o)) :: (20, .fn spTrue0) :: (23, .fn spROf8) :: (22, .fn (spRSmG S)) :: []
theorem gsSl : GSound Try.prog (upG (lookG (tblSl smallR onW smallD))) := GSound_of_tbl ⟨⟨ctSmallC, by kernel_rfl⟩, ⟨ctOnDW, by kernel_rfl⟩, ⟨ctAw8, by kernel_rfl⟩, ⟨ctROf8, by kernel_rfl⟩, ⟨ctRSm, by kernel_rfl⟩, trivial⟩
theorem runSlT (s o : N4 → N4 → Bool) (S : T3 → Bool) (x y : N4) : fnS Try.prog (lookG (tblSl s o S)) (orcA [(1, [(4, true), (10, true)])]) [] 10 4 [.val true [.n4 x, .n4 y]] =
    some (sc (IV.bool true), [o x y = true, val x % Pp < Pp, val y % Pp < Pp, 1 < Pp, (s x y == S (T3.mk (val x % Pp) (val y % Pp) 1)) = true]) := by kernel_rfl
theorem runSlF (s o : N4 → N4 → Bool) (S : T3 → Bool) (x y : N4) : fnS Try.prog (lookG (tblSl s o S)) (orcA [(1, [(4, false), (10, true)])]) [] 10 4 [.val true [.n4 x, .n4 y]] =
    some (sc (IV.bool true), [o x y = false, (s x y == false) = true]) := by kernel_rfl
theorem small_off {x y : N4} (h : ¬ onV (val x) (val y) = true) : smallR x y = false := by
  have e : multR eightN x y = prE 7 := by rw [multR, dif_neg h]
  unfold smallR smallM
  rw [e]
  rfl
def spLawS : List AV → Option (AV × List Prop)
  | [.val true [.n4 _, .n4 _]] => some (sc (.bool true), [])
  | _ => none
theorem ctLawS : CtSOk Try.prog 4 (.fn spLawS) := FnS_of_fnS gsSl fol fun ds r cs h hc => by
  unfold spLawS at h
  split at h
  case h_2 => simp at h
  rename_i x y
  simp only [Option.some.injEq, Prod.mk.injEq] at h
  obtain ⟨rfl, rfl⟩ := h
  by_cases h : onV (val x) (val y) = true
  · have r0 := runSlT smallR onW smallD x y
    rw [law_small h, beq_self_eq_true] at r0
    exact use_run r0 rfl ⟨h, Nat.mod_lt _ Pp_pos, Nat.mod_lt _ Pp_pos, one_lt, rfl, trivial⟩
  · have r0 := runSlF smallR onW smallD x y
    rw [small_off h] at r0
    exact use_run r0 rfl ⟨Bool.eq_false_iff.2 h, rfl, trivial⟩
end Go.Proofs.Ytfhopbeieoffnaa
/- Layer 8, plain: sums of points as the group's. Own work. -/
namespace Go.Proofs.Ytfhopbeieoffnaa
open Go.Ev Go.Sp Go.RowKit
theorem val_xP (P : Pt Ed) : val (prP P).x = P.x.val := val_lo P.x.isLt
theorem val_yP (P : Pt Ed) : val (prP P).y = P.y.val := val_lo P.y.isLt
theorem prP_on (P : Pt Ed) : onV (val (prP P).x) (val (prP P).y) = true := by
  rw [val_xP, val_yP]
  refine onV_iff.2 ⟨P.x.isLt, P.y.isLt, on_OnN ?_⟩
  rw [tF_val, tF_val]
  exact P.on
theorem ptV_prP (P : Pt Ed) (h : onV (val (prP P).x) (val (prP P).y) = true) : ptV (prP P).x (prP P).y h = P := by
  refine Pt.ext ?_ ?_
  · show tF (val (prP P).x) = P.x
    rw [val_xP, tF_val]
  · show tF (val (prP P).y) = P.y
    rw [val_yP, tF_val]
theorem prP_ptV {x y : N4} (h : onV (val x) (val y) = true) : prP (ptV x y h) = ⟨x, y, 0⟩ := by
  obtain ⟨h1, h2, _⟩ := onV_iff.1 h
  have e1 : ofN (ptV x y h).x.val = x := by
    show ofN (tF (val x)).val = x
    rw [val_tF h1, ofN_val]
  have e2 : ofN (ptV x y h).y.val = y := by
    show ofN (tF (val y)).val = y
    rw [val_tF h2, ofN_val]
  rw [prP, e1, e2]
theorem addR_P {x y x' y' : N4} (h : onV (val x) (val y) = true) (h' : onV (val x') (val y') = true) : addR x y x' y' = prP ((ptV x y h).add (ptV x' y' h')) := by rw [addR, dif_pos h, dif_pos h']
theorem addR_PP (P Q : Pt Ed) : addR (prP P).x (prP P).y (prP Q).x (prP Q).y = prP (P.add Q) := by
  rw [addR_P (prP_on P) (prP_on Q), ptV_prP, ptV_prP]
theorem addR_PV (P : Pt Ed) {x y : N4} (h : onV (val x) (val y) = true) : addR (prP P).x (prP P).y x y = prP (P.add (ptV x y h)) := by
  rw [addR_P (prP_on P) h, ptV_prP]
theorem addR_VP (P : Pt Ed) {x y : N4} (h : onV (val x) (val y) = true) : addR x y (prP P).x (prP P).y = prP ((ptV x y h).add P) := by
  rw [addR_P h (prP_on P), ptV_prP]
theorem negR_P {x y : N4} (h : onV (val x) (val y) = true) : negR x y = prP (ptV x y h).neg := by rw [negR, dif_pos h]
theorem multR_P {n x y : N4} (h : onV (val x) (val y) = true) : multR n x y = prP (Pt.times (val n) (ptV x y h)) := by rw [multR, dif_pos h]
theorem addR_off {x y x' y' : N4} (h : ¬ onV (val x) (val y) = true) : addR x y x' y' = prE 7 := by rw [addR, dif_neg h]
theorem addR_off' {x y x' y' : N4} (h : ¬ onV (val x') (val y') = true) : addR x y x' y' = prE 7 := by
  unfold addR
  split
  · rfl
  · rfl
theorem negR_off {x y : N4} (h : ¬ onV (val x) (val y) = true) : negR x y = prE 7 := by rw [negR, dif_neg h]
theorem neg_y {x y : N4} (h : onV (val x) (val y) = true) : (negR x y).y = y := by
  obtain ⟨_, h2, _⟩ := onV_iff.1 h
  rw [negR_P h]
  show ofN (tF (val y)).val = y
  rw [val_tF h2, ofN_val]
theorem neg_on {x y : N4} (h : onV (val x) (val y) = true) : onV (val (negR x y).x) (val (negR x y).y) = true := by
  rw [negR_P h]
  exact prP_on _
theorem neg_sum {x y : N4} (h : onV (val x) (val y) = true) : addR x y (negR x y).x (negR x y).y = ⟨ofN 0, ofN 1, 0⟩ := by
  rw [negR_P h, addR_VP _ h, Pt.add_neg, no_pr]
theorem add_comm8 {x y x' y' : N4} (h : onV (val x) (val y) = true) (h' : onV (val x') (val y') = true) : addR x y x' y' = addR x' y' x y := by
  rw [addR_P h h', addR_P h' h, Pt.add_comm]
theorem add_on8 {x y x' y' : N4} (h : onV (val x) (val y) = true) (h' : onV (val x') (val y') = true) : onV (val (addR x y x' y').x) (val (addR x y x' y').y) = true ∧ (addR x y x' y').e = 0 := by
  rw [addR_P h h']
  exact ⟨prP_on _, rfl⟩
theorem add_assoc8 {x y x' y' x'' y'' : N4} (h : onV (val x) (val y) = true) (h' : onV (val x') (val y') = true) (h'' : onV (val x'') (val y'') = true) : addR (addR x y x' y').x (addR x y x' y').y x'' y'' = addR x y (addR x' y' x'' y'').x (addR x' y' x'' y'').y ∧ (addR x y (addR x' y' x'' y'').x (addR x' y' x'' y'').y).e = 0 := by
  rw [addR_P h h', addR_P h' h'', addR_PV _ h'', addR_VP _ h, Pt.add_assoc]
  exact ⟨rfl, rfl⟩
theorem add_no8 {x y : N4} (h : onV (val x) (val y) = true) : addR x y (ofN 0) (ofN 1) = ⟨x, y, 0⟩ := by
  rw [addR_P h no_onV, no_pt, Pt.add_nought, prP_ptV h]
theorem mult_add {n m k x y : N4} (h : onV (val x) (val y) = true) (e : val k = val n + val m) : addR (multR n x y).x (multR n x y).y (multR m x y).x (multR m x y).y = multR k x y ∧ (multR n x y).e = 0 ∧ (multR k x y).e = 0 := by
  rw [multR_P h, multR_P h, multR_P h, addR_PP, e, Pt.times_add]
  exact ⟨rfl, rfl, rfl⟩
theorem ptV_B : ptV (ofN bxN) (ofN byN) base_onV = Bp := by
  have h1 : bxN < Pp := by decide
  have h2 : byN < Pp := by decide
  refine Pt.ext ?_ ?_
  · show tF (val (ofN bxN)) = tF bxN
    rw [val_lo h1]
  · show tF (val (ofN byN)) = tF byN
    rw [val_lo h2]
theorem order_mult {l : N4} (h : val l = Lp) : multR l (ofN bxN) (ofN byN) = ⟨ofN 0, ofN 1, 0⟩ := by
  rw [multR_P base_onV, ptV_B, h, order_B, no_pr]
end Go.Proofs.Ytfhopbeieoffnaa
/- Layer 8: the laws CurveOrder and CurveMultiples: their table and runs. Own work. -/
namespace Go.Proofs.Ytfhopbeieoffnaa
open Go.Ev Go.Sp Go.RowKit
set_option maxRecDepth 100000
def LpL : List Int := [237, 211, 245, 92, 26, 99, 18, 88, 214, 156, 247, 162, 222, 249, 222, 20, 0, 0, 0, 0, 0, 0, 0, 0, 0, 0, 0, 0, 0, 0, 0, 16]
theorem LpL_dg : LpL = dg Lp := by
  have h1 : IsD LpL := by
    intro d hd
    have : LpL.all (fun d => decide (0 ≤ d) && decide (d < 256)) = true := by decide
    have := List.all_eq_true.1 this d hd
    simpa using this
  have h2 : nv LpL = Lp := by decide
  rw [← h2]
  exact eq_dg h1 (.inr (by decide))
def spROrd8 : List AV → Option (AV × List Prop)
  | [] => some (sc (.dN Lp), [])
  | _ => none
def spROrd8L : List AV → Option (AV × List Prop)
  | [] => some (sc (.dI LpL), [])
  | _ => none
theorem runROrd8 : fnS Try.prog (lookG []) orc0 [] 40 32 [] = some (sc (.dI LpL), [32 ≤ 32]) := by kernel_rfl
theorem ctROrd8L : CtSOk Try.prog 32 (.fn spROrd8L) := FnS_of_fnS gs0 fol fun ds r cs h hc => by
  unfold spROrd8L at h
  split at h
  case h_2 => simp at h
  simp only [Option.some.injEq, Prod.mk.injEq] at h
  obtain ⟨rfl, rfl⟩ := h
  exact use_run runROrd8 rfl ⟨by omega, trivial⟩
theorem ctROrd8 : CtSOk Try.prog 32 (.fn spROrd8) := FnS_num ctROrd8L fun ds r cs h hc => by
  unfold spROrd8 at h
  split at h
  case h_2 => simp at h
  simp only [Option.some.injEq, Prod.mk.injEq] at h
  obtain ⟨rfl, rfl⟩ := h
  exact ⟨[], by rw [show ([] : List AV).map exA = [] from rfl, spROrd8L, LpL_dg]; rfl, trivial⟩
def tblSO (A : N4 → N4 → N4 → N4 → PR) (M : N4 → N4 → N4 → PR) (o : N4 → N4 → Bool) : List (FuncId × CtS) :=
  (29, .fn (spAddCG A)) :: (24, .fn (spMulCG M)) :: (12, .fn (spSmG o)) :: (17, .fn spCBase) :: (30, .fn spNo) :: (20, .fn spTrue0) :: (32, .fn spROrd8) :: (31, .fn (orD spNOf)) :: []
theorem gsSO : GSound Try.prog (upG (lookG (tblSO addR multR onW))) := GSound_of_tbl ⟨⟨ctAddC, by kernel_rfl⟩, ⟨ctMulC, by kernel_rfl⟩, ⟨ctOnW, by kernel_rfl⟩, ⟨ctCBase, by kernel_rfl⟩, ⟨ctNo8, by kernel_rfl⟩, ⟨ctAw8, by kernel_rfl⟩, ⟨ctROrd8, by kernel_rfl⟩, ⟨FnS_orD nOf, by kernel_rfl⟩, trivial⟩
theorem runOrP (A : N4 → N4 → N4 → N4 → PR) (M : N4 → N4 → N4 → PR) (o : N4 → N4 → Bool) (x y x' y' x'' y'' : N4) : fnS Try.prog (lookG (tblSO A M o)) (orcA [(1, [(3, true), (8, true), (12, true)])]) [] 10 7 [.val true [.n4 x, .n4 y], .val true [.n4 x', .n4 y'], .val true [.n4 x'', .n4 y'']] =
    some (sc (IV.bool true), [(!o x y) = true, true = true, true = true]) := by kernel_rfl
theorem runOrQ (A : N4 → N4 → N4 → N4 → PR) (M : N4 → N4 → N4 → PR) (o : N4 → N4 → Bool) (x y x' y' x'' y'' : N4) : fnS Try.prog (lookG (tblSO A M o)) (orcA [(1, [(3, false), (8, true), (12, true)])]) [] 10 7 [.val true [.n4 x, .n4 y], .val true [.n4 x', .n4 y'], .val true [.n4 x'', .n4 y'']] =
    some (sc (IV.bool true), [(!o x y) = false, (!o x' y') = true, true = true]) := by kernel_rfl
theorem runOrR (A : N4 → N4 → N4 → N4 → PR) (M : N4 → N4 → N4 → PR) (o : N4 → N4 → Bool) (x y x' y' x'' y'' : N4) : fnS Try.prog (lookG (tblSO A M o)) (orcA [(1, [(3, false), (8, false), (12, true)])]) [] 10 7 [.val true [.n4 x, .n4 y], .val true [.n4 x', .n4 y'], .val true [.n4 x'', .n4 y'']] =
    some (sc (IV.bool true), [(!o x y) = false, (!o x' y') = false, (!o x'' y'') = true]) := by kernel_rfl
theorem runOrT (A : N4 → N4 → N4 → N4 → PR) (M : N4 → N4 → N4 → PR) (o : N4 → N4 → Bool) (x y x' y' x'' y'' : N4) : fnS Try.prog (lookG (tblSO A M o)) (orcA [(1, [(3, false), (8, false), (12, false)]), (9, [(2, true), (7, true), (12, true), (17, true), (21, true), (25, true), (29, true)])]) [] 10 7 [.val true [.n4 x, .n4 y], .val true [.n4 x', .n4 y'], .val true [.n4 x'', .n4 y'']] =
    some (sc (IV.bool true), [(!o x y) = false, (!o x' y') = false, (!o x'' y'') = false, o (A x y x' y').x (A x y x' y').y = true, ((A x y x' y').x.eq (A x' y' x y).x && ((A x y x' y').y.eq (A x' y' x y).y && true)) = true, ((A (A x y x' y').x (A x y x' y').y x'' y'').x.eq (A x y (A x' y' x'' y'').x (A x' y' x'' y'').y).x && ((A (A x y x' y').x (A x y x' y').y x'' y'').y.eq (A x y (A x' y' x'' y'').x (A x' y' x'' y'').y).y && true)) = true, ((A x y (ofN 0) (ofN 1)).x.eq x && ((A x y (ofN 0) (ofN 1)).y.eq y && true)) = true, ((A (A x y x' y').x (A x y x' y').y x'' y'').e == (0 : Int)) = true, ((A x y (A x' y' x'' y'').x (A x' y' x'' y'').y).e == (0 : Int)) = true, ((A x y (ofN 0) (ofN 1)).e == (0 : Int)) = true]) := by kernel_rfl
theorem runMuF (A : N4 → N4 → N4 → N4 → PR) (M : N4 → N4 → N4 → PR) (o : N4 → N4 → Bool) (a b : BitVec 64) (x y : N4) : fnS Try.prog (lookG (tblSO A M o)) (orcA [(1, [(2, true)])]) [] 10 8 [sc (.u64 a), sc (.u64 b), .val true [.n4 x, .n4 y]] =
    some (sc (IV.bool true), [(!o x y) = true]) := by kernel_rfl
theorem runMu1 (A : N4 → N4 → N4 → N4 → PR) (M : N4 → N4 → N4 → PR) (o : N4 → N4 → Bool) (a b : BitVec 64) (x y : N4) : fnS Try.prog (lookG (tblSO A M o)) (orcA [(1, [(2, false)]), (7, [(2, true)]), (11, [(3, true), (8, true), (12, true), (16, true), (20, true), (24, true), (28, true)])]) [] 10 8 [sc (.u64 a), sc (.u64 b), .val true [.n4 x, .n4 y]] =
    some (sc (IV.bool true), [(!o x y) = false, decide ((a + b).toNat < a.toNat) = true, 32 = 32, ((A (M ((N4.mk (BitVec.ofInt 64 (0 : Int)) (BitVec.ofInt 64 (0 : Int)) (BitVec.ofInt 64 (0 : Int)) (BitVec.ofInt 64 (0 : Int))).set ((0, Operand.tmp 24).fst * Try.prog.types[22].size) a) x y).x (M ((N4.mk (BitVec.ofInt 64 (0 : Int)) (BitVec.ofInt 64 (0 : Int)) (BitVec.ofInt 64 (0 : Int)) (BitVec.ofInt 64 (0 : Int))).set ((0, Operand.tmp 24).fst * Try.prog.types[22].size) a) x y).y (M ((N4.mk (BitVec.ofInt 64 (0 : Int)) (BitVec.ofInt 64 (0 : Int)) (BitVec.ofInt 64 (0 : Int)) (BitVec.ofInt 64 (0 : Int))).set ((0, Operand.tmp 31).fst * Try.prog.types[22].size) b) x y).x (M ((N4.mk (BitVec.ofInt 64 (0 : Int)) (BitVec.ofInt 64 (0 : Int)) (BitVec.ofInt 64 (0 : Int)) (BitVec.ofInt 64 (0 : Int))).set ((0, Operand.tmp 31).fst * Try.prog.types[22].size) b) x y).y).x.eq (M (((N4.mk (BitVec.ofInt 64 (0 : Int)) (BitVec.ofInt 64 (0 : Int)) (BitVec.ofInt 64 (0 : Int)) (BitVec.ofInt 64 (0 : Int))).set ((0, Operand.tmp 50).fst * Try.prog.types[22].size) (a + b)).set ((1, Operand.tmp 51).fst * Try.prog.types[22].size) (BitVec.ofInt 64 (1 : Int))) x y).x && ((A (M ((N4.mk (BitVec.ofInt 64 (0 : Int)) (BitVec.ofInt 64 (0 : Int)) (BitVec.ofInt 64 (0 : Int)) (BitVec.ofInt 64 (0 : Int))).set ((0, Operand.tmp 24).fst * Try.prog.types[22].size) a) x y).x (M ((N4.mk (BitVec.ofInt 64 (0 : Int)) (BitVec.ofInt 64 (0 : Int)) (BitVec.ofInt 64 (0 : Int)) (BitVec.ofInt 64 (0 : Int))).set ((0, Operand.tmp 24).fst * Try.prog.types[22].size) a) x y).y (M ((N4.mk (BitVec.ofInt 64 (0 : Int)) (BitVec.ofInt 64 (0 : Int)) (BitVec.ofInt 64 (0 : Int)) (BitVec.ofInt 64 (0 : Int))).set ((0, Operand.tmp 31).fst * Try.prog.types[22].size) b) x y).x (M ((N4.mk (BitVec.ofInt 64 (0 : Int)) (BitVec.ofInt 64 (0 : Int)) (BitVec.ofInt 64 (0 : Int)) (BitVec.ofInt 64 (0 : Int))).set ((0, Operand.tmp 31).fst * Try.prog.types[22].size) b) x y).y).y.eq (M (((N4.mk (BitVec.ofInt 64 (0 : Int)) (BitVec.ofInt 64 (0 : Int)) (BitVec.ofInt 64 (0 : Int)) (BitVec.ofInt 64 (0 : Int))).set ((0, Operand.tmp 50).fst * Try.prog.types[22].size) (a + b)).set ((1, Operand.tmp 51).fst * Try.prog.types[22].size) (BitVec.ofInt 64 (1 : Int))) x y).y && true)) = true, ((M (ofN Lp) (ofN bxN) (ofN byN)).x.eq (ofN 0) && ((M (ofN Lp) (ofN bxN) (ofN byN)).y.eq (ofN 1) && true)) = true, ((M ((N4.mk (BitVec.ofInt 64 (0 : Int)) (BitVec.ofInt 64 (0 : Int)) (BitVec.ofInt 64 (0 : Int)) (BitVec.ofInt 64 (0 : Int))).set ((0, Operand.tmp 24).fst * Try.prog.types[22].size) a) x y).e == (0 : Int)) = true, ((M ((N4.mk (BitVec.ofInt 64 (0 : Int)) (BitVec.ofInt 64 (0 : Int)) (BitVec.ofInt 64 (0 : Int)) (BitVec.ofInt 64 (0 : Int))).set ((0, Operand.tmp 31).fst * Try.prog.types[22].size) b) x y).e == (0 : Int)) = true, ((A (M ((N4.mk (BitVec.ofInt 64 (0 : Int)) (BitVec.ofInt 64 (0 : Int)) (BitVec.ofInt 64 (0 : Int)) (BitVec.ofInt 64 (0 : Int))).set ((0, Operand.tmp 24).fst * Try.prog.types[22].size) a) x y).x (M ((N4.mk (BitVec.ofInt 64 (0 : Int)) (BitVec.ofInt 64 (0 : Int)) (BitVec.ofInt 64 (0 : Int)) (BitVec.ofInt 64 (0 : Int))).set ((0, Operand.tmp 24).fst * Try.prog.types[22].size) a) x y).y (M ((N4.mk (BitVec.ofInt 64 (0 : Int)) (BitVec.ofInt 64 (0 : Int)) (BitVec.ofInt 64 (0 : Int)) (BitVec.ofInt 64 (0 : Int))).set ((0, Operand.tmp 31).fst * Try.prog.types[22].size) b) x y).x (M ((N4.mk (BitVec.ofInt 64 (0 : Int)) (BitVec.ofInt 64 (0 : Int)) (BitVec.ofInt 64 (0 : Int)) (BitVec.ofInt 64 (0 : Int))).set ((0, Operand.tmp 31).fst * Try.prog.types[22].size) b) x y).y).e == (0 : Int)) = true, ((M (((N4.mk (BitVec.ofInt 64 (0 : Int)) (BitVec.ofInt 64 (0 : Int)) (BitVec.ofInt 64 (0 : Int)) (BitVec.ofInt 64 (0 : Int))).set ((0, Operand.tmp 50).fst * Try.prog.types[22].size) (a + b)).set ((1, Operand.tmp 51).fst * Try.prog.types[22].size) (BitVec.ofInt 64 (1 : Int))) x y).e == (0 : Int)) = true, ((M (ofN Lp) (ofN bxN) (ofN byN)).e == (0 : Int)) = true]) := by kernel_rfl
theorem runMu0 (A : N4 → N4 → N4 → N4 → PR) (M : N4 → N4 → N4 → PR) (o : N4 → N4 → Bool) (a b : BitVec 64) (x y : N4) : fnS Try.prog (lookG (tblSO A M o)) (orcA [(1, [(2, false)]), (7, [(2, false)]), (11, [(3, true), (8, true), (12, true), (16, true), (20, true), (24, true), (28, true)])]) [] 10 8 [sc (.u64 a), sc (.u64 b), .val true [.n4 x, .n4 y]] =
    some (sc (IV.bool true), [(!o x y) = false, decide ((a + b).toNat < a.toNat) = false, 32 = 32, ((A (M ((N4.mk (BitVec.ofInt 64 (0 : Int)) (BitVec.ofInt 64 (0 : Int)) (BitVec.ofInt 64 (0 : Int)) (BitVec.ofInt 64 (0 : Int))).set ((0, Operand.tmp 24).fst * Try.prog.types[22].size) a) x y).x (M ((N4.mk (BitVec.ofInt 64 (0 : Int)) (BitVec.ofInt 64 (0 : Int)) (BitVec.ofInt 64 (0 : Int)) (BitVec.ofInt 64 (0 : Int))).set ((0, Operand.tmp 24).fst * Try.prog.types[22].size) a) x y).y (M ((N4.mk (BitVec.ofInt 64 (0 : Int)) (BitVec.ofInt 64 (0 : Int)) (BitVec.ofInt 64 (0 : Int)) (BitVec.ofInt 64 (0 : Int))).set ((0, Operand.tmp 31).fst * Try.prog.types[22].size) b) x y).x (M ((N4.mk (BitVec.ofInt 64 (0 : Int)) (BitVec.ofInt 64 (0 : Int)) (BitVec.ofInt 64 (0 : Int)) (BitVec.ofInt 64 (0 : Int))).set ((0, Operand.tmp 31).fst * Try.prog.types[22].size) b) x y).y).x.eq (M (((N4.mk (BitVec.ofInt 64 (0 : Int)) (BitVec.ofInt 64 (0 : Int)) (BitVec.ofInt 64 (0 : Int)) (BitVec.ofInt 64 (0 : Int))).set ((0, Operand.tmp 50).fst * Try.prog.types[22].size) (a + b)).set ((1, Operand.tmp 51).fst * Try.prog.types[22].size) (BitVec.ofInt 64 (0 : Int))) x y).x && ((A (M ((N4.mk (BitVec.ofInt 64 (0 : Int)) (BitVec.ofInt 64 (0 : Int)) (BitVec.ofInt 64 (0 : Int)) (BitVec.ofInt 64 (0 : Int))).set ((0, Operand.tmp 24).fst * Try.prog.types[22].size) a) x y).x (M ((N4.mk (BitVec.ofInt 64 (0 : Int)) (BitVec.ofInt 64 (0 : Int)) (BitVec.ofInt 64 (0 : Int)) (BitVec.ofInt 64 (0 : Int))).set ((0, Operand.tmp 24).fst * Try.prog.types[22].size) a) x y).y (M ((N4.mk (BitVec.ofInt 64 (0 : Int)) (BitVec.ofInt 64 (0 : Int)) (BitVec.ofInt 64 (0 : Int)) (BitVec.ofInt 64 (0 : Int))).set ((0, Operand.tmp 31).fst * Try.prog.types[22].size) b) x y).x (M ((N4.mk (BitVec.ofInt 64 (0 : Int)) (BitVec.ofInt 64 (0 : Int)) (BitVec.ofInt 64 (0 : Int)) (BitVec.ofInt 64 (0 : Int))).set ((0, Operand.tmp 31).fst * Try.prog.types[22].size) b) x y).y).y.eq (M (((N4.mk (BitVec.ofInt 64 (0 : Int)) (BitVec.ofInt 64 (0 : Int)) (BitVec.ofInt 64 (0 : Int)) (BitVec.ofInt 64 (0 : Int))).set ((0, Operand.tmp 50).fst * Try.prog.types[22].size) (a + b)).set ((1, Operand.tmp 51).fst * Try.prog.types[22].size) (BitVec.ofInt 64 (0 : Int))) x y).y && true)) = true, ((M (ofN Lp) (ofN bxN) (ofN byN)).x.eq (ofN 0) && ((M (ofN Lp) (ofN bxN) (ofN byN)).y.eq (ofN 1) && true)) = true, ((M ((N4.mk (BitVec.ofInt 64 (0 : Int)) (BitVec.ofInt 64 (0 : Int)) (BitVec.ofInt 64 (0 : Int)) (BitVec.ofInt 64 (0 : Int))).set ((0, Operand.tmp 24).fst * Try.prog.types[22].size) a) x y).e == (0 : Int)) = true, ((M ((N4.mk (BitVec.ofInt 64 (0 : Int)) (BitVec.ofInt 64 (0 : Int)) (BitVec.ofInt 64 (0 : Int)) (BitVec.ofInt 64 (0 : Int))).set ((0, Operand.tmp 31).fst * Try.prog.types[22].size) b) x y).e == (0 : Int)) = true, ((A (M ((N4.mk (BitVec.ofInt 64 (0 : Int)) (BitVec.ofInt 64 (0 : Int)) (BitVec.ofInt 64 (0 : Int)) (BitVec.ofInt 64 (0 : Int))).set ((0, Operand.tmp 24).fst * Try.prog.types[22].size) a) x y).x (M ((N4.mk (BitVec.ofInt 64 (0 : Int)) (BitVec.ofInt 64 (0 : Int)) (BitVec.ofInt 64 (0 : Int)) (BitVec.ofInt 64 (0 : Int))).set ((0, Operand.tmp 24).fst * Try.prog.types[22].size) a) x y).y (M ((N4.mk (BitVec.ofInt 64 (0 : Int)) (BitVec.ofInt 64 (0 : Int)) (BitVec.ofInt 64 (0 : Int)) (BitVec.ofInt 64 (0 : Int))).set ((0, Operand.tmp 31).fst * Try.prog.types[22].size) b) x y).x (M ((N4.mk (BitVec.ofInt 64 (0 : Int)) (BitVec.ofInt 64 (0 : Int)) (BitVec.ofInt 64 (0 : Int)) (BitVec.ofInt 64 (0 : Int))).set ((0, Operand.tmp 31).fst * Try.prog.types[22].size) b) x y).y).e == (0 : Int)) = true, ((M (((N4.mk (BitVec.ofInt 64 (0 : Int)) (BitVec.ofInt 64 (0 : Int)) (BitVec.ofInt 64 (0 : Int)) (BitVec.ofInt 64 (0 : Int))).set ((0, Operand.tmp 50).fst * Try.prog.types[22].size) (a + b)).set ((1, Operand.tmp 51).fst * Try.prog.types[22].size) (BitVec.ofInt 64 (0 : Int))) x y).e == (0 : Int)) = true, ((M (ofN Lp) (ofN bxN) (ofN byN)).e == (0 : Int)) = true]) := by kernel_rfl
end Go.Proofs.Ytfhopbeieoffnaa
/- Layer 8: the laws' table and runs over generic functions: CurveIs, CurveAdds, CurveBoths, CurveBytes. Own work. -/
namespace Go.Proofs.Ytfhopbeieoffnaa
open Go.Ev Go.Sp Go.RowKit
set_option maxRecDepth 100000
def tblPl (A : N4 → N4 → N4 → N4 → PR) (N : N4 → N4 → PR) (o o' : N4 → N4 → Bool) (P : T3 → T3 → T3) : List (FuncId × CtS) :=
  (29, .fn (spAddCG A)) :: (33, .fn (spNegCG N)) :: (12, .fn (spSmG o)) :: (13, .fn (spSmG o')) :: (14, .fn spCD) :: (17, .fn spCBase) :: (15, .fn spRD) :: (16, .fn spRNum) :: (18, .fn spRBase) :: (20, .fn spTrue0) :: (30, .fn spNo) :: (23, .fn spROf8) :: (28, .fn (spRPlusG P)) :: (19, .fn spRPt) :: []
theorem gsPl : GSound Try.prog (upG (lookG (tblPl addR negR onW onW plusD))) := GSound_of_tbl ⟨⟨ctAddC, by kernel_rfl⟩, ⟨ctNegC, by kernel_rfl⟩, ⟨ctOnW, by kernel_rfl⟩, ⟨ctOnDW, by kernel_rfl⟩, ⟨ctCD, by kernel_rfl⟩, ⟨ctCBase, by kernel_rfl⟩, ⟨ctRDn, by kernel_rfl⟩, ⟨ctRNum, by kernel_rfl⟩, ⟨ctRBase, by kernel_rfl⟩, ⟨ctAw8, by kernel_rfl⟩, ⟨ctNo8, by kernel_rfl⟩, ⟨ctROf8, by kernel_rfl⟩, ⟨ctRPlus, by kernel_rfl⟩, ⟨ctRPt, by kernel_rfl⟩, trivial⟩
theorem runIs (A : N4 → N4 → N4 → N4 → PR) (N : N4 → N4 → PR) (o o' : N4 → N4 → Bool) (P : T3 → T3 → T3) (x y : N4) : fnS Try.prog (lookG (tblPl A N o o' P)) (orcA [(1, [(5, true), (11, true), (17, true)])]) [] 10 3 [.val true [.n4 x, .n4 y]] =
    some (sc (IV.bool true), [(o x y == o' x y) = true, dN < p256, true = true, bxN < Pp, byN < Pp, 1 < Pp, ((ofN bxN).eq (ofN (fMul bxN (fInv 1))) && ((ofN byN).eq (ofN (fMul byN (fInv 1))) && true)) = true]) := by kernel_rfl
theorem runAdE (A : N4 → N4 → N4 → N4 → PR) (N : N4 → N4 → PR) (o o' : N4 → N4 → Bool) (P : T3 → T3 → T3) (x y x' y' : N4) : fnS Try.prog (lookG (tblPl A N o o' P)) (orcA [(3, [(2, true)]), (4, [(3, true), (7, true), (12, true), (16, true)])]) [] 10 9 [.val true [.n4 x, .n4 y], .val true [.n4 x', .n4 y']] =
    some (sc (IV.bool true), [(!o' x y) = true, ((A x y x' y').x.eq (N4.mk (BitVec.ofNat 64 0) (BitVec.ofNat 64 0) (BitVec.ofNat 64 0) (BitVec.ofNat 64 0)) && ((A x y x' y').y.eq (N4.mk (BitVec.ofNat 64 0) (BitVec.ofNat 64 0) (BitVec.ofNat 64 0) (BitVec.ofNat 64 0)) && true)) = true, ((A x y x' y').e == (7 : Int)) = true, ((N x y).x.eq (N4.mk (BitVec.ofNat 64 0) (BitVec.ofNat 64 0) (BitVec.ofNat 64 0) (BitVec.ofNat 64 0)) && ((N x y).y.eq (N4.mk (BitVec.ofNat 64 0) (BitVec.ofNat 64 0) (BitVec.ofNat 64 0) (BitVec.ofNat 64 0)) && true)) = true, ((N x y).e == (7 : Int)) = true]) := by kernel_rfl
theorem runAdQ (A : N4 → N4 → N4 → N4 → PR) (N : N4 → N4 → PR) (o o' : N4 → N4 → Bool) (P : T3 → T3 → T3) (x y x' y' : N4) : fnS Try.prog (lookG (tblPl A N o o' P)) (orcA [(3, [(2, false)]), (6, [(2, false), (7, false), (14, false), (19, false), (22, false)]), (8, [(2, true)]), (9, [(3, true), (7, true)])]) [] 10 9 [.val true [.n4 x, .n4 y], .val true [.n4 x', .n4 y']] =
    some (sc (IV.bool true), [(!o' x y) = false, (!(N x y).e == (0 : Int)) = false, (!o' (N x y).x (N x y).y) = false, (!((N x y).y.eq y && true)) = false, (!((A x y (N x y).x (N x y).y).x.eq (ofN 0) && ((A x y (N x y).x (N x y).y).y.eq (ofN 1) && true))) = false, (!(A x y (N x y).x (N x y).y).e == (0 : Int)) = false, (!o' x' y') = true, ((A x y x' y').x.eq (N4.mk (BitVec.ofNat 64 0) (BitVec.ofNat 64 0) (BitVec.ofNat 64 0) (BitVec.ofNat 64 0)) && ((A x y x' y').y.eq (N4.mk (BitVec.ofNat 64 0) (BitVec.ofNat 64 0) (BitVec.ofNat 64 0) (BitVec.ofNat 64 0)) && true)) = true, ((A x y x' y').e == (7 : Int)) = true]) := by kernel_rfl
theorem runAdT (A : N4 → N4 → N4 → N4 → PR) (N : N4 → N4 → PR) (o o' : N4 → N4 → Bool) (P : T3 → T3 → T3) (x y x' y' : N4) : fnS Try.prog (lookG (tblPl A N o o' P)) (orcA [(3, [(2, false)]), (6, [(2, false), (7, false), (14, false), (19, false), (22, false)]), (8, [(2, false)]), (10, [(8, true), (12, true)])]) [] 10 9 [.val true [.n4 x, .n4 y], .val true [.n4 x', .n4 y']] =
    some (sc (IV.bool true), [(!o' x y) = false, (!(N x y).e == (0 : Int)) = false, (!o' (N x y).x (N x y).y) = false, (!((N x y).y.eq y && true)) = false, (!((A x y (N x y).x (N x y).y).x.eq (ofN 0) && ((A x y (N x y).x (N x y).y).y.eq (ofN 1) && true))) = false, (!(A x y (N x y).x (N x y).y).e == (0 : Int)) = false, (!o' x' y') = false, val x % Pp < Pp, val y % Pp < Pp, 1 < Pp, val x' % Pp < Pp, val y' % Pp < Pp, 1 < Pp, (P (T3.mk (val x % Pp) (val y % Pp) 1) (T3.mk (val x' % Pp) (val y' % Pp) 1)).x < Pp, (P (T3.mk (val x % Pp) (val y % Pp) 1) (T3.mk (val x' % Pp) (val y' % Pp) 1)).y < Pp, (P (T3.mk (val x % Pp) (val y % Pp) 1) (T3.mk (val x' % Pp) (val y' % Pp) 1)).z < Pp, ((A x y x' y').x.eq (ofN (fMul (P (T3.mk (val x % Pp) (val y % Pp) 1) (T3.mk (val x' % Pp) (val y' % Pp) 1)).x (fInv (P (T3.mk (val x % Pp) (val y % Pp) 1) (T3.mk (val x' % Pp) (val y' % Pp) 1)).z))) && ((A x y x' y').y.eq (ofN (fMul (P (T3.mk (val x % Pp) (val y % Pp) 1) (T3.mk (val x' % Pp) (val y' % Pp) 1)).y (fInv (P (T3.mk (val x % Pp) (val y % Pp) 1) (T3.mk (val x' % Pp) (val y' % Pp) 1)).z))) && true)) = true, ((A x y x' y').e == (0 : Int)) = true]) := by kernel_rfl
def tblQl (B : N4 → N4 → N4 → N4 → N4 → N4 → PR) (o' : N4 → N4 → Bool) (H : Nat → T3 → T3) (P : T3 → T3 → T3) : List (FuncId × CtS) :=
  (27, .fn (spBothCG B)) :: (13, .fn (spSmG o')) :: (20, .fn spTrue0) :: (26, .fn spDigits) :: (23, .fn spROf8) :: (25, .fn (orD (spRTs H))) :: (28, .fn (spRPlusG P)) :: (19, .fn spRPt) :: []
theorem gsQl : GSound Try.prog (upG (lookG (tblQl bothR onW tsD plusD))) := GSound_of_tbl ⟨⟨ctBothC, by kernel_rfl⟩, ⟨ctOnDW, by kernel_rfl⟩, ⟨ctAw8, by kernel_rfl⟩, ⟨ctRDg, by kernel_rfl⟩, ⟨ctROf8, by kernel_rfl⟩, ⟨FnS_orD ctRTs, by kernel_rfl⟩, ⟨ctRPlus, by kernel_rfl⟩, ⟨ctRPt, by kernel_rfl⟩, trivial⟩
theorem runBoP (B : N4 → N4 → N4 → N4 → N4 → N4 → PR) (o' : N4 → N4 → Bool) (H : Nat → T3 → T3) (P : T3 → T3 → T3) (n m x y x' y' : N4) : fnS Try.prog (lookG (tblQl B o' H P)) (orcA [(2, [(4, true), (9, true)]), (3, [(3, true), (7, true)])]) [] 10 6 [.val true [.n4 n, .n4 m, .n4 x, .n4 y, .n4 x', .n4 y']] =
    some (sc (IV.bool true), [(!o' x y) = true, true = true, ((B n x y m x' y').x.eq (N4.mk (BitVec.ofNat 64 0) (BitVec.ofNat 64 0) (BitVec.ofNat 64 0) (BitVec.ofNat 64 0)) && ((B n x y m x' y').y.eq (N4.mk (BitVec.ofNat 64 0) (BitVec.ofNat 64 0) (BitVec.ofNat 64 0) (BitVec.ofNat 64 0)) && true)) = true, ((B n x y m x' y').e == (7 : Int)) = true]) := by kernel_rfl
theorem runBoQ (B : N4 → N4 → N4 → N4 → N4 → N4 → PR) (o' : N4 → N4 → Bool) (H : Nat → T3 → T3) (P : T3 → T3 → T3) (n m x y x' y' : N4) : fnS Try.prog (lookG (tblQl B o' H P)) (orcA [(2, [(4, false), (9, true)]), (3, [(3, true), (7, true)])]) [] 10 6 [.val true [.n4 n, .n4 m, .n4 x, .n4 y, .n4 x', .n4 y']] =
    some (sc (IV.bool true), [(!o' x y) = false, (!o' x' y') = true, ((B n x y m x' y').x.eq (N4.mk (BitVec.ofNat 64 0) (BitVec.ofNat 64 0) (BitVec.ofNat 64 0) (BitVec.ofNat 64 0)) && ((B n x y m x' y').y.eq (N4.mk (BitVec.ofNat 64 0) (BitVec.ofNat 64 0) (BitVec.ofNat 64 0) (BitVec.ofNat 64 0)) && true)) = true, ((B n x y m x' y').e == (7 : Int)) = true]) := by kernel_rfl
theorem runBoT (B : N4 → N4 → N4 → N4 → N4 → N4 → PR) (o' : N4 → N4 → Bool) (H : Nat → T3 → T3) (P : T3 → T3 → T3) (n m x y x' y' : N4) : fnS Try.prog (lookG (tblQl B o' H P)) (orcA [(2, [(4, false), (9, false)]), (4, [(18, true), (22, true)])]) [] 10 6 [.val true [.n4 n, .n4 m, .n4 x, .n4 y, .n4 x', .n4 y']] =
    some (sc (IV.bool true), [(!o' x y) = false, (!o' x' y') = false, (dg (val n)).length = (dg (val n)).length, Sm (nv (dg (val n))), val x % Pp < Pp, val y % Pp < Pp, 1 < Pp, dg (val n) = dg (nv (dg (val n))), (dg (val m)).length = (dg (val m)).length, Sm (nv (dg (val m))), val x' % Pp < Pp, val y' % Pp < Pp, 1 < Pp, dg (val m) = dg (nv (dg (val m))), (H (nv (dg (val n))) (T3.mk (val x % Pp) (val y % Pp) 1)).x < Pp, (H (nv (dg (val n))) (T3.mk (val x % Pp) (val y % Pp) 1)).y < Pp, (H (nv (dg (val n))) (T3.mk (val x % Pp) (val y % Pp) 1)).z < Pp, (H (nv (dg (val m))) (T3.mk (val x' % Pp) (val y' % Pp) 1)).x < Pp, (H (nv (dg (val m))) (T3.mk (val x' % Pp) (val y' % Pp) 1)).y < Pp, (H (nv (dg (val m))) (T3.mk (val x' % Pp) (val y' % Pp) 1)).z < Pp, (P (T3.mk (H (nv (dg (val n))) (T3.mk (val x % Pp) (val y % Pp) 1)).x (H (nv (dg (val n))) (T3.mk (val x % Pp) (val y % Pp) 1)).y (H (nv (dg (val n))) (T3.mk (val x % Pp) (val y % Pp) 1)).z) (T3.mk (H (nv (dg (val m))) (T3.mk (val x' % Pp) (val y' % Pp) 1)).x (H (nv (dg (val m))) (T3.mk (val x' % Pp) (val y' % Pp) 1)).y (H (nv (dg (val m))) (T3.mk (val x' % Pp) (val y' % Pp) 1)).z)).x < Pp, (P (T3.mk (H (nv (dg (val n))) (T3.mk (val x % Pp) (val y % Pp) 1)).x (H (nv (dg (val n))) (T3.mk (val x % Pp) (val y % Pp) 1)).y (H (nv (dg (val n))) (T3.mk (val x % Pp) (val y % Pp) 1)).z) (T3.mk (H (nv (dg (val m))) (T3.mk (val x' % Pp) (val y' % Pp) 1)).x (H (nv (dg (val m))) (T3.mk (val x' % Pp) (val y' % Pp) 1)).y (H (nv (dg (val m))) (T3.mk (val x' % Pp) (val y' % Pp) 1)).z)).y < Pp, (P (T3.mk (H (nv (dg (val n))) (T3.mk (val x % Pp) (val y % Pp) 1)).x (H (nv (dg (val n))) (T3.mk (val x % Pp) (val y % Pp) 1)).y (H (nv (dg (val n))) (T3.mk (val x % Pp) (val y % Pp) 1)).z) (T3.mk (H (nv (dg (val m))) (T3.mk (val x' % Pp) (val y' % Pp) 1)).x (H (nv (dg (val m))) (T3.mk (val x' % Pp) (val y' % Pp) 1)).y (H (nv (dg (val m))) (T3.mk (val x' % Pp) (val y' % Pp) 1)).z)).z < Pp, ((B n x y m x' y').x.eq (ofN (fMul (P (T3.mk (H (nv (dg (val n))) (T3.mk (val x % Pp) (val y % Pp) 1)).x (H (nv (dg (val n))) (T3.mk (val x % Pp) (val y % Pp) 1)).y (H (nv (dg (val n))) (T3.mk (val x % Pp) (val y % Pp) 1)).z) (T3.mk (H (nv (dg (val m))) (T3.mk (val x' % Pp) (val y' % Pp) 1)).x (H (nv (dg (val m))) (T3.mk (val x' % Pp) (val y' % Pp) 1)).y (H (nv (dg (val m))) (T3.mk (val x' % Pp) (val y' % Pp) 1)).z)).x (fInv (P (T3.mk (H (nv (dg (val n))) (T3.mk (val x % Pp) (val y % Pp) 1)).x (H (nv (dg (val n))) (T3.mk (val x % Pp) (val y % Pp) 1)).y (H (nv (dg (val n))) (T3.mk (val x % Pp) (val y % Pp) 1)).z) (T3.mk (H (nv (dg (val m))) (T3.mk (val x' % Pp) (val y' % Pp) 1)).x (H (nv (dg (val m))) (T3.mk (val x' % Pp) (val y' % Pp) 1)).y (H (nv (dg (val m))) (T3.mk (val x' % Pp) (val y' % Pp) 1)).z)).z))) && ((B n x y m x' y').y.eq (ofN (fMul (P (T3.mk (H (nv (dg (val n))) (T3.mk (val x % Pp) (val y % Pp) 1)).x (H (nv (dg (val n))) (T3.mk (val x % Pp) (val y % Pp) 1)).y (H (nv (dg (val n))) (T3.mk (val x % Pp) (val y % Pp) 1)).z) (T3.mk (H (nv (dg (val m))) (T3.mk (val x' % Pp) (val y' % Pp) 1)).x (H (nv (dg (val m))) (T3.mk (val x' % Pp) (val y' % Pp) 1)).y (H (nv (dg (val m))) (T3.mk (val x' % Pp) (val y' % Pp) 1)).z)).y (fInv (P (T3.mk (H (nv (dg (val n))) (T3.mk (val x % Pp) (val y % Pp) 1)).x (H (nv (dg (val n))) (T3.mk (val x % Pp) (val y % Pp) 1)).y (H (nv (dg (val n))) (T3.mk (val x % Pp) (val y % Pp) 1)).z) (T3.mk (H (nv (dg (val m))) (T3.mk (val x' % Pp) (val y' % Pp) 1)).x (H (nv (dg (val m))) (T3.mk (val x' % Pp) (val y' % Pp) 1)).y (H (nv (dg (val m))) (T3.mk (val x' % Pp) (val y' % Pp) 1)).z)).z))) && true)) = true, ((B n x y m x' y').e == (0 : Int)) = true]) := by kernel_rfl
def tblRl (G : N4 → N4 → BL × Int) (C : BL → PR) (o o' : N4 → N4 → Bool) : List (FuncId × CtS) :=
  (36, .fn (spEncCG G)) :: (34, .fn (spDecCG C)) :: (35, .fn (spDecCG C)) :: (12, .fn (spSmG o)) :: (13, .fn (spSmG o')) :: (37, .fn spREnB) :: (20, .fn spTrue0) :: []
theorem gsRl : GSound Try.prog (upG (lookG (tblRl encR decR onW onW))) := GSound_of_tbl ⟨⟨ctEncC, by kernel_rfl⟩, ⟨ctDecC, by kernel_rfl⟩, ⟨ctRPo, by kernel_rfl⟩, ⟨ctOnW, by kernel_rfl⟩, ⟨ctOnDW, by kernel_rfl⟩, ⟨ctREn8, by kernel_rfl⟩, ⟨ctAw8, by kernel_rfl⟩, trivial⟩
theorem runByE (G : N4 → N4 → BL × Int) (C : BL → PR) (o o' : N4 → N4 → Bool) (b : BL) (x y : N4) : fnS Try.prog (lookG (tblRl G C o o')) (orcA [(4, [(3, false), (8, false), (14, false)]), (7, [(2, true)]), (8, [(3, true), (7, true)])]) [] 10 10 [sc (.d8 b), .val true [.n4 x, .n4 y]] =
    some (sc (IV.bool true), [List.length b = List.length b, 0 = 0, (0 + List.length b) * 1 ≤ 140737488355328 ∧ 0 + List.length b ≤ 9223372036854775807, 0 + List.length b = List.length b, List.length b = List.length b, (!((C (List.replicate 0 (BitVec.ofInt 8 (0 : Int)) ++ b)).x.eq (C b).x && ((C (List.replicate 0 (BitVec.ofInt 8 (0 : Int)) ++ b)).y.eq (C b).y && true))) = false, (!(C (List.replicate 0 (BitVec.ofInt 8 (0 : Int)) ++ b)).e == (C b).e) = false, 0 + List.length b = List.length b, List.length b = List.length b, (!b == b) = false, (!o' x y) = true, ((↑(List.length (G x y).fst) : Int) == (0 : Int)) = true, ((G x y).snd == (7 : Int)) = true]) := by kernel_rfl
theorem runByT (G : N4 → N4 → BL × Int) (C : BL → PR) (o o' : N4 → N4 → Bool) (b : BL) (x y : N4) : fnS Try.prog (lookG (tblRl G C o o')) (orcA [(4, [(3, false), (8, false), (14, false)]), (7, [(2, false)]), (9, [(6, true), (10, true)])]) [] 10 10 [sc (.d8 b), .val true [.n4 x, .n4 y]] =
    some (sc (IV.bool true), [List.length b = List.length b, 0 = 0, (0 + List.length b) * 1 ≤ 140737488355328 ∧ 0 + List.length b ≤ 9223372036854775807, 0 + List.length b = List.length b, List.length b = List.length b, (!((C (List.replicate 0 (BitVec.ofInt 8 (0 : Int)) ++ b)).x.eq (C b).x && ((C (List.replicate 0 (BitVec.ofInt 8 (0 : Int)) ++ b)).y.eq (C b).y && true))) = false, (!(C (List.replicate 0 (BitVec.ofInt 8 (0 : Int)) ++ b)).e == (C b).e) = false, 0 + List.length b = List.length b, List.length b = List.length b, (!b == b) = false, (!o' x y) = false, List.length (G x y).fst = List.length (G x y).fst, val y < Pp, List.length (encB (val x) (val y)) = List.length (encB (val x) (val y)), ((G x y).fst == encB (val x) (val y)) = true, ((G x y).snd == (0 : Int)) = true]) := by kernel_rfl
theorem runFoTT (G : N4 → N4 → BL × Int) (C : BL → PR) (o o' : N4 → N4 → Bool) (b : BL) (x y : N4) : fnS Try.prog (lookG (tblRl G C o o')) (orcA [(2, [(1, true)]), (4, [(3, false), (6, false)]), (7, [(1, false)]), (10, [(2, true), (6, true), (13, true)])]) [] 10 11 [.val true [.n4 x, .n4 y], sc (.d8 b)] =
    some (sc (IV.bool true), [((G x y).snd == (0 : Int)) = true, List.length (G x y).fst = List.length (G x y).fst, (!((C (G x y).fst).x.eq x && ((C (G x y).fst).y.eq y && true))) = false, (!(C (G x y).fst).e == (0 : Int)) = false, List.length b = List.length b, 0 = 0, (0 + List.length b) * 1 ≤ 140737488355328 ∧ 0 + List.length b ≤ 9223372036854775807, 0 + List.length b = List.length b, (!(C (List.replicate 0 (BitVec.ofInt 8 (0 : Int)) ++ b)).e == (0 : Int)) = false, o (C (List.replicate 0 (BitVec.ofInt 8 (0 : Int)) ++ b)).x (C (List.replicate 0 (BitVec.ofInt 8 (0 : Int)) ++ b)).y = true, ((G (C (List.replicate 0 (BitVec.ofInt 8 (0 : Int)) ++ b)).x (C (List.replicate 0 (BitVec.ofInt 8 (0 : Int)) ++ b)).y).snd == (0 : Int)) = true, List.length (G (C (List.replicate 0 (BitVec.ofInt 8 (0 : Int)) ++ b)).x (C (List.replicate 0 (BitVec.ofInt 8 (0 : Int)) ++ b)).y).fst = List.length (G (C (List.replicate 0 (BitVec.ofInt 8 (0 : Int)) ++ b)).x (C (List.replicate 0 (BitVec.ofInt 8 (0 : Int)) ++ b)).y).fst, List.length b = List.length b, ((G (C (List.replicate 0 (BitVec.ofInt 8 (0 : Int)) ++ b)).x (C (List.replicate 0 (BitVec.ofInt 8 (0 : Int)) ++ b)).y).fst == b) = true]) := by kernel_rfl
theorem runFoTF (G : N4 → N4 → BL × Int) (C : BL → PR) (o o' : N4 → N4 → Bool) (b : BL) (x y : N4) : fnS Try.prog (lookG (tblRl G C o o')) (orcA [(2, [(1, true)]), (4, [(3, false), (6, false)]), (7, [(1, true)]), (8, [(3, true)])]) [] 10 11 [.val true [.n4 x, .n4 y], sc (.d8 b)] =
    some (sc (IV.bool true), [((G x y).snd == (0 : Int)) = true, List.length (G x y).fst = List.length (G x y).fst, (!((C (G x y).fst).x.eq x && ((C (G x y).fst).y.eq y && true))) = false, (!(C (G x y).fst).e == (0 : Int)) = false, List.length b = List.length b, 0 = 0, (0 + List.length b) * 1 ≤ 140737488355328 ∧ 0 + List.length b ≤ 9223372036854775807, 0 + List.length b = List.length b, (!(C (List.replicate 0 (BitVec.ofInt 8 (0 : Int)) ++ b)).e == (0 : Int)) = true, ((C (List.replicate 0 (BitVec.ofInt 8 (0 : Int)) ++ b)).x.eq (N4.mk (BitVec.ofNat 64 0) (BitVec.ofNat 64 0) (BitVec.ofNat 64 0) (BitVec.ofNat 64 0)) && ((C (List.replicate 0 (BitVec.ofInt 8 (0 : Int)) ++ b)).y.eq (N4.mk (BitVec.ofNat 64 0) (BitVec.ofNat 64 0) (BitVec.ofNat 64 0) (BitVec.ofNat 64 0)) && true)) = true]) := by kernel_rfl
theorem runFoFT (G : N4 → N4 → BL × Int) (C : BL → PR) (o o' : N4 → N4 → Bool) (b : BL) (x y : N4) : fnS Try.prog (lookG (tblRl G C o o')) (orcA [(2, [(1, false)]), (7, [(1, false)]), (10, [(2, true), (6, true), (13, true)])]) [] 10 11 [.val true [.n4 x, .n4 y], sc (.d8 b)] =
    some (sc (IV.bool true), [((G x y).snd == (0 : Int)) = false, List.length b = List.length b, 0 = 0, (0 + List.length b) * 1 ≤ 140737488355328 ∧ 0 + List.length b ≤ 9223372036854775807, 0 + List.length b = List.length b, (!(C (List.replicate 0 (BitVec.ofInt 8 (0 : Int)) ++ b)).e == (0 : Int)) = false, o (C (List.replicate 0 (BitVec.ofInt 8 (0 : Int)) ++ b)).x (C (List.replicate 0 (BitVec.ofInt 8 (0 : Int)) ++ b)).y = true, ((G (C (List.replicate 0 (BitVec.ofInt 8 (0 : Int)) ++ b)).x (C (List.replicate 0 (BitVec.ofInt 8 (0 : Int)) ++ b)).y).snd == (0 : Int)) = true, List.length (G (C (List.replicate 0 (BitVec.ofInt 8 (0 : Int)) ++ b)).x (C (List.replicate 0 (BitVec.ofInt 8 (0 : Int)) ++ b)).y).fst = List.length (G (C (List.replicate 0 (BitVec.ofInt 8 (0 : Int)) ++ b)).x (C (List.replicate 0 (BitVec.ofInt 8 (0 : Int)) ++ b)).y).fst, List.length b = List.length b, ((G (C (List.replicate 0 (BitVec.ofInt 8 (0 : Int)) ++ b)).x (C (List.replicate 0 (BitVec.ofInt 8 (0 : Int)) ++ b)).y).fst == b) = true]) := by kernel_rfl
theorem runFoFF (G : N4 → N4 → BL × Int) (C : BL → PR) (o o' : N4 → N4 → Bool) (b : BL) (x y : N4) : fnS Try.prog (lookG (tblRl G C o o')) (orcA [(2, [(1, false)]), (7, [(1, true)]), (8, [(3, true)])]) [] 10 11 [.val true [.n4 x, .n4 y], sc (.d8 b)] =
    some (sc (IV.bool true), [((G x y).snd == (0 : Int)) = false, List.length b = List.length b, 0 = 0, (0 + List.length b) * 1 ≤ 140737488355328 ∧ 0 + List.length b ≤ 9223372036854775807, 0 + List.length b = List.length b, (!(C (List.replicate 0 (BitVec.ofInt 8 (0 : Int)) ++ b)).e == (0 : Int)) = true, ((C (List.replicate 0 (BitVec.ofInt 8 (0 : Int)) ++ b)).x.eq (N4.mk (BitVec.ofNat 64 0) (BitVec.ofNat 64 0) (BitVec.ofNat 64 0) (BitVec.ofNat 64 0)) && ((C (List.replicate 0 (BitVec.ofInt 8 (0 : Int)) ++ b)).y.eq (N4.mk (BitVec.ofNat 64 0) (BitVec.ofNat 64 0) (BitVec.ofNat 64 0) (BitVec.ofNat 64 0)) && true)) = true]) := by kernel_rfl
end Go.Proofs.Ytfhopbeieoffnaa
/- Layer 8, plain: a point's bytes are read as the point, and what is read is told as it stood. Own work. -/
namespace Go.Proofs.Ytfhopbeieoffnaa
open Go.Ev Go.Sp Go.RowKit
section
variable {n : Nat} [NeZero n]
theorem r_xx {d x y : Fin n} (h : y*y - x*x = 1 + d*(x*x*(y*y))) : x*x*(1 + d*(y*y)) = y*y - 1 := by grind
theorem r_xx' {d x y : Fin n} (h : x*x*(1 + d*(y*y)) = y*y - 1) : y*y - x*x = 1 + d*(x*x*(y*y)) := by grind
/-- What is divided by is never nought. -/
theorem den_neG (C : Cv n) (y : Fin n) : 1 + C.d * (y * y) ≠ 0 := fun h => by
  by_cases h0 : y = 0
  · subst h0
    refine C.one ?_
    grind
  · have h1 := C.inv_mul y h0
    have h2 := C.i2
    refine C.nsq (C.i * C.inv y) ?_
    grind
end
def denN (y : Nat) : Nat := fAdd 1 (fMul dN (fMul y y))
theorem denN_ne (y : Nat) : denN y ≠ 0 := fun h => by
  refine den_neG Ed (tF y) ?_
  have h1 := congrArg tF h
  unfold denN at h1
  simp only [tF_add, tF_mul, tF_one, tF_zero] at h1
  exact h1
theorem xxV_den (y : Nat) : fMul (xxV y) (denN y) = fSub (fMul y y) 1 := by
  have hl : denN y < Pp := fAdd_lt _ _
  have e : xxV y = fMul (fSub (fMul y y) 1) (fInv (denN y)) := rfl
  rw [e, fMul_assoc, fMul_comm (fInv _), inv_mul (denN_ne y) hl, fMul_one (f_Sub_lt _ _)]
theorem on_xx {x y : Nat} (h : OnN x y) : fMul x x = xxV y := by
  have h1 := h.on
  unfold Cv.On at h1
  refine (xxV_of rfl (denN_ne y) ?_).symm
  refine tF_inj (fMul_lt _ _) (f_Sub_lt _ _) ?_
  rw [tF_sub _ one_lt]
  simp only [tF_add, tF_mul, tF_one]
  exact r_xx h1
theorem xx_on {x y : Nat} (h : fMul x x = xxV y) : OnN x y := by
  refine on_OnN ?_
  have h1 := congrArg tF (xxV_den y)
  rw [← h, tF_sub _ one_lt] at h1
  simp only [denN, tF_add, tF_mul, tF_one] at h1
  exact r_xx' h1
theorem even_fNeg {r : Nat} (hr : r < Pp) (h0 : r ≠ 0) (h : r % 2 = 0) : fNeg r % 2 = 1 := by
  have hp : Pp % 2 = 1 := by decide
  rw [fNeg_pos h0 hr]
  generalize Pp = p at *
  omega
/-- The root of a point's x times itself. -/
theorem root_of {x y : Nat} (hx : x < Pp) (h : OnN x y) : prV (xxV y) = (if x % 2 = 0 then x else fNeg x, true) := by
  rw [← on_xx h]
  by_cases h2 : x % 2 = 0
  · rw [if_pos h2]
    exact prV_even hx h2 rfl
  · rw [if_neg h2]
    exact prV_even (fNeg_lt _) (neg_even hx h2) (fNeg_sq hx)
theorem encB_bv {x y : Nat} (hy : y < Pp) : bv (encB x y) % q255 = y ∧ bv (encB x y) / q255 = x % 2 := by
  have hq : y < q255 := Nat.lt_trans hy Pp_q255
  have h2 : x % 2 < 2 := Nat.mod_lt _ (by decide)
  have hp : (256 : Nat) ^ 32 = 115792089237316195423570985008687907853269984665640564039457584007913129639936 := by decide
  have e : bv (encB x y) = y + q255 * (x % 2) := by
    unfold encB
    rw [bv_bl, hp]
    refine Nat.mod_eq_of_lt ?_
    unfold q255 at *
    generalize x % 2 = s at *
    omega
  rw [e]
  unfold q255 at *
  generalize x % 2 = s at *
  omega
theorem enc_len (x y : Nat) : (encB x y).length = 32 := bl_length _ _
theorem wX_of {x y : Nat} (hx : x < Pp) (h : OnN x y) : wOk y ((x % 2 : Nat) : Int) ∧ wX y ((x % 2 : Nat) : Int) = x := by
  have hr := root_of hx h
  by_cases h2 : x % 2 = 0
  · rw [if_pos h2] at hr
    rw [wOk_nat, wX, hr, h2]
    exact ⟨⟨rfl, fun q => absurd q.2 (by decide)⟩, if_neg (by decide)⟩
  · rw [if_neg h2] at hr
    have h1 : x % 2 = 1 := by omega
    have h0 : x ≠ 0 := by rintro rfl; exact h2 rfl
    have hn : fNeg x ≠ 0 := fun q => h0 (by rw [← fNeg_neg hx, q, fNeg_zero])
    rw [wOk_nat, wX, hr, h1]
    refine ⟨⟨rfl, fun q => hn q.1⟩, ?_⟩
    rw [if_pos (by decide)]
    exact fNeg_neg hx
theorem dec_enc {x y : N4} (h : onV (val x) (val y) = true) : decR (encB (val x) (val y)) = ⟨x, y, 0⟩ := by
  obtain ⟨h1, h2, h3⟩ := onV_iff.1 h
  obtain ⟨e1, e2⟩ := encB_bv (x := val x) h2
  obtain ⟨w1, w2⟩ := wX_of h1 h3
  have hd : dOk (encB (val x) (val y)) := by
    unfold dOk
    rw [e1, e2]
    exact ⟨enc_len _ _, h2, w1⟩
  rw [decR_T hd]
  unfold dX dY
  rw [e1, e2, w2, ofN_val, ofN_val]
theorem wX_on {y s : Nat} (h : wOk y (s : Int)) : OnN (wX y (s : Int)) y := by
  obtain ⟨h1, _⟩ := (wOk_nat _ _).1 h
  obtain ⟨r1, r2, _⟩ := prV_sq h1
  refine xx_on ?_
  unfold wX
  split
  · rw [fNeg_sq r2, r1]
  · exact r1
theorem wX_bit {y s : Nat} (h : wOk y (s : Int)) (hs : s = 0 ∨ s = 1) : wX y (s : Int) % 2 = s := by
  obtain ⟨h1, h2⟩ := (wOk_nat _ _).1 h
  obtain ⟨_, r2, r3⟩ := prV_sq h1
  unfold wX
  rcases hs with rfl | rfl
  · rw [if_neg (by decide)]; exact r3
  · rw [if_pos (by decide)]
    exact even_fNeg r2 (fun q => h2 ⟨q, rfl⟩) r3
theorem dec_back {b : BL} (h : dOk b) : onV (val (ofN (dX b))) (val (ofN (dY b))) = true ∧ encB (val (ofN (dX b))) (val (ofN (dY b))) = b := by
  obtain ⟨h1, h2, h3⟩ := h
  have hX : dX b < Pp := wX_lt _ _
  have hY : dY b < Pp := h2
  rw [val_lo hX, val_lo hY]
  refine ⟨onV_iff.2 ⟨hX, hY, wX_on h3⟩, ?_⟩
  have hb := wX_bit h3 (top01 h1)
  have e : dY b + q255 * (dX b % 2) = bv b := by
    unfold dY dX
    rw [hb]
    exact Nat.mod_add_div _ _
  unfold encB
  rw [e, ← h1]
  exact bl_bv b
end Go.Proofs.Ytfhopbeieoffnaa
/- Layer 8: the laws CurveIs, CurveAdds, CurveBoths, CurveBytes, CurveForm by contract. Own work. -/
namespace Go.Proofs.Ytfhopbeieoffnaa
open Go.Ev Go.Sp Go.RowKit
set_option maxRecDepth 100000
theorem eqq (a b : N4) : (a.eq a && (b.eq b && true)) = true := by rw [eq_selfN, eq_selfN]; rfl
theorem neg_e {x y : N4} (h : onV (val x) (val y) = true) : (negR x y).e = 0 := by rw [negR_P h]; rfl
def spLawI : List AV → Option (AV × List Prop)
  | [.val true [.n4 _, .n4 _]] => some (sc (.bool true), [])
  | _ => none
theorem ctLawI : CtSOk Try.prog 3 (.fn spLawI) := FnS_of_fnS gsPl fol fun ds r cs h hc => by
  unfold spLawI at h
  split at h
  case h_2 => simp at h
  rename_i x y
  simp only [Option.some.injEq, Prod.mk.injEq] at h
  obtain ⟨rfl, rfl⟩ := h
  have r0 := runIs addR negR onW onW plusD x y
  have h1 : bxN < Pp := by decide
  have h2 : byN < Pp := by decide
  rw [beq_self_eq_true, inv1, fMul_one h1, fMul_one h2] at r0
  exact use_run r0 rfl ⟨rfl, lt256 dN_lt, rfl, h1, h2, one_lt, eqq _ _, trivial⟩
def spLawA : List AV → Option (AV × List Prop)
  | [.val true [.n4 _, .n4 _], .val true [.n4 _, .n4 _]] => some (sc (.bool true), [])
  | _ => none
theorem ctLawA : CtSOk Try.prog 9 (.fn spLawA) := FnS_of_fnS gsPl fol fun ds r cs h hc => by
  unfold spLawA at h
  split at h
  case h_2 => simp at h
  rename_i x y x' y'
  simp only [Option.some.injEq, Prod.mk.injEq] at h
  obtain ⟨rfl, rfl⟩ := h
  by_cases h : onV (val x) (val y) = true
  · by_cases h' : onV (val x') (val y') = true
    · have r0 := runAdT addR negR onW onW plusD x y x' y'
      rw [law_add h h'] at r0
      have hq : (plusD ⟨val x % Pp, val y % Pp, 1⟩ ⟨val x' % Pp, val y' % Pp, 1⟩).Lt := plus3_lt _ _ _
      generalize plusD ⟨val x % Pp, val y % Pp, 1⟩ ⟨val x' % Pp, val y' % Pp, 1⟩ = q at *
      obtain ⟨q1, q2, q3⟩ := hq
      exact use_run r0 rfl ⟨bnT h, bnT (by rw [neg_e h]; rfl), bnT (neg_on h), bnT (by rw [neg_y h, eq_selfN]; rfl), bnT (by rw [neg_sum h]; exact eqq _ _), bnT (by rw [neg_sum h]; rfl), bnT h', Nat.mod_lt _ Pp_pos, Nat.mod_lt _ Pp_pos, one_lt, Nat.mod_lt _ Pp_pos, Nat.mod_lt _ Pp_pos, one_lt, q1, q2, q3, eqq _ _, rfl, trivial⟩
    · have r0 := runAdQ addR negR onW onW plusD x y x' y'
      rw [addR_off' h', zeroN] at r0
      exact use_run r0 rfl ⟨bnT h, bnT (by rw [neg_e h]; rfl), bnT (neg_on h), bnT (by rw [neg_y h, eq_selfN]; rfl), bnT (by rw [neg_sum h]; exact eqq _ _), bnT (by rw [neg_sum h]; rfl), bnF h', eqq _ _, rfl, trivial⟩
  · have r0 := runAdE addR negR onW onW plusD x y x' y'
    rw [addR_off h, negR_off h, zeroN] at r0
    exact use_run r0 rfl ⟨bnF h, eqq _ _, rfl, eqq _ _, rfl, trivial⟩
theorem bothR_off {n x y m x' y' : N4} (h : ¬ onV (val x) (val y) = true) : bothR n x y m x' y' = prE 7 := by rw [bothR, dif_neg h]
theorem bothR_off' {n x y m x' y' : N4} (h : ¬ onV (val x') (val y') = true) : bothR n x y m x' y' = prE 7 := by
  unfold bothR
  split
  · rfl
  · rfl
def spLawB : List AV → Option (AV × List Prop)
  | [.val true [.n4 _, .n4 _, .n4 _, .n4 _, .n4 _, .n4 _]] => some (sc (.bool true), [])
  | _ => none
theorem ctLawB : CtSOk Try.prog 6 (.fn spLawB) := FnS_of_fnS gsQl fol fun ds r cs h hc => by
  unfold spLawB at h
  split at h
  case h_2 => simp at h
  rename_i n m x y x' y'
  simp only [Option.some.injEq, Prod.mk.injEq] at h
  obtain ⟨rfl, rfl⟩ := h
  by_cases h : onV (val x) (val y) = true
  · by_cases h' : onV (val x') (val y') = true
    · have r0 := runBoT bothR onW tsD plusD n m x y x' y'
      rw [nv_dg, nv_dg, law_both (n := n) (m := m) h h' _ rfl] at r0
      have ha : (tsD (val n) ⟨val x % Pp, val y % Pp, 1⟩).Lt := tsD_lt _ _
      have hb : (tsD (val m) ⟨val x' % Pp, val y' % Pp, 1⟩).Lt := tsD_lt _ _
      generalize tsD (val n) ⟨val x % Pp, val y % Pp, 1⟩ = a at *
      generalize tsD (val m) ⟨val x' % Pp, val y' % Pp, 1⟩ = b at *
      obtain ⟨a1, a2, a3⟩ := a
      obtain ⟨b1, b2, b3⟩ := b
      dsimp only at r0
      have hq : (plusD ⟨a1, a2, a3⟩ ⟨b1, b2, b3⟩).Lt := plus3_lt _ _ _
      generalize plusD ⟨a1, a2, a3⟩ ⟨b1, b2, b3⟩ = q at *
      obtain ⟨q1, q2, q3⟩ := hq
      obtain ⟨l1, l2, l3⟩ := ha
      obtain ⟨l4, l5, l6⟩ := hb
      exact use_run r0 rfl ⟨bnT h, bnT h', rfl, Sm_val n, Nat.mod_lt _ Pp_pos, Nat.mod_lt _ Pp_pos, one_lt, rfl, rfl, Sm_val m, Nat.mod_lt _ Pp_pos, Nat.mod_lt _ Pp_pos, one_lt, rfl, l1, l2, l3, l4, l5, l6, q1, q2, q3, eqq _ _, rfl, trivial⟩
    · have r0 := runBoQ bothR onW tsD plusD n m x y x' y'
      rw [bothR_off' h', zeroN] at r0
      exact use_run r0 rfl ⟨bnT h, bnF h', eqq _ _, rfl, trivial⟩
  · have r0 := runBoP bothR onW tsD plusD n m x y x' y'
    rw [bothR_off h, zeroN] at r0
    exact use_run r0 rfl ⟨bnF h, rfl, eqq _ _, rfl, trivial⟩
theorem rep0 (b : BL) : List.replicate 0 (BitVec.ofInt 8 (0 : Int)) ++ b = b := rfl
theorem beqF {b : BL} : (!(b == b)) = false := by rw [beq_self_eq_true]; rfl
theorem beqI (n : Int) : (!(n == n)) = false := by rw [beq_self_eq_true]; rfl
def spLawY : List AV → Option (AV × List Prop)
  | [.val false [.d8 b], .val true [.n4 _, .n4 _]] => some (sc (.bool true), [b.length ≤ 140737488351232])
  | _ => none
theorem ctLawY : CtSOk Try.prog 10 (.fn spLawY) := FnS_of_fnS gsRl fol fun ds r cs h hc => by
  unfold spLawY at h
  split at h
  case h_2 => simp at h
  rename_i b x y
  simp only [Option.some.injEq, Prod.mk.injEq] at h
  obtain ⟨rfl, rfl⟩ := h
  have lb := hc.1
  have e0 : 0 + b.length = b.length := Nat.zero_add _
  have hz : (0 + b.length) * 1 ≤ 140737488355328 ∧ 0 + b.length ≤ 9223372036854775807 := by omega
  by_cases h : onV (val x) (val y) = true
  · have r0 := runByT encR decR onW onW b x y
    have e : encR x y = (encB (val x) (val y), 0) := by rw [encR, if_pos h]
    rw [rep0, e, e0] at r0
    rw [e0] at hz
    have hy := (onV_iff.1 h).2.1
    generalize encB (val x) (val y) = c at *
    exact use_run r0 rfl ⟨rfl, rfl, hz, rfl, rfl, bnT (eqq _ _), beqI _, rfl, rfl, beqF, bnT h, rfl, hy, rfl, beq_self_eq_true _, rfl, trivial⟩
  · have r0 := runByE encR decR onW onW b x y
    have e : encR x y = ([], 7) := by rw [encR, if_neg h]
    rw [rep0, e, e0] at r0
    rw [e0] at hz
    exact use_run r0 rfl ⟨rfl, rfl, hz, rfl, rfl, bnT (eqq _ _), beqI _, rfl, rfl, beqF, bnF h, rfl, rfl, trivial⟩
def spLawF : List AV → Option (AV × List Prop)
  | [.val true [.n4 _, .n4 _], .val false [.d8 b]] => some (sc (.bool true), [b.length ≤ 140737488351232])
  | _ => none
theorem ctLawF : CtSOk Try.prog 11 (.fn spLawF) := FnS_of_fnS gsRl fol fun ds r cs h hc => by
  unfold spLawF at h
  split at h
  case h_2 => simp at h
  rename_i x y b
  simp only [Option.some.injEq, Prod.mk.injEq] at h
  obtain ⟨rfl, rfl⟩ := h
  have lb := hc.1
  have e0 : 0 + b.length = b.length := Nat.zero_add _
  have hz : b.length * 1 ≤ 140737488355328 ∧ b.length ≤ 9223372036854775807 := by omega
  by_cases hd : dOk b
  · obtain ⟨d1, d2⟩ := dec_back hd
    have ed := decR_T hd
    have eb : encR (ofN (dX b)) (ofN (dY b)) = (b, 0) := by rw [encR, if_pos d1, d2]
    by_cases h : onV (val x) (val y) = true
    · have e : encR x y = (encB (val x) (val y), 0) := by rw [encR, if_pos h]
      have r0 := runFoTT encR decR onW onW b x y
      rw [rep0, e, e0, ed] at r0
      dsimp only at r0
      rw [eb, dec_enc h] at r0
      dsimp only at r0
      exact use_run r0 rfl ⟨rfl, rfl, bnT (eqq _ _), rfl, rfl, rfl, hz, rfl, rfl, d1, rfl, rfl, rfl, beq_self_eq_true _, trivial⟩
    · have e : encR x y = ([], 7) := by rw [encR, if_neg h]
      have r0 := runFoFT encR decR onW onW b x y
      rw [rep0, e, e0, ed] at r0
      dsimp only at r0
      rw [eb] at r0
      dsimp only at r0
      exact use_run r0 rfl ⟨rfl, rfl, rfl, hz, rfl, rfl, d1, rfl, rfl, rfl, beq_self_eq_true _, trivial⟩
  · obtain ⟨ed, h0⟩ := decR_E hd
    have h1 : (!((prE (dE b)).e == 0)) = true := by
      show (!(dE b == 0)) = true
      rw [beq_eq_false_iff_ne.2 h0]; rfl
    by_cases h : onV (val x) (val y) = true
    · have e : encR x y = (encB (val x) (val y), 0) := by rw [encR, if_pos h]
      have r0 := runFoTF encR decR onW onW b x y
      rw [rep0, e, e0, ed, zeroN] at r0
      dsimp only at r0
      rw [dec_enc h] at r0
      exact use_run r0 rfl ⟨rfl, rfl, bnT (eqq _ _), rfl, rfl, rfl, hz, rfl, h1, eqq _ _, trivial⟩
    · have e : encR x y = ([], 7) := by rw [encR, if_neg h]
      have r0 := runFoFF encR decR onW onW b x y
      rw [rep0, e, e0, ed, zeroN] at r0
      exact use_run r0 rfl ⟨rfl, rfl, rfl, hz, rfl, h1, eqq _ _, trivial⟩
end Go.Proofs.Ytfhopbeieoffnaa
/- Layer 8: the laws CurveOrder and CurveMultiples by contract. Own work. -/
namespace Go.Proofs.Ytfhopbeieoffnaa
open Go.Ev Go.Sp Go.RowKit
set_option maxRecDepth 100000
def spLawO : List AV → Option (AV × List Prop)
  | [.val true [.n4 _, .n4 _], .val true [.n4 _, .n4 _], .val true [.n4 _, .n4 _]] => some (sc (.bool true), [])
  | _ => none
theorem ctLawO : CtSOk Try.prog 7 (.fn spLawO) := FnS_of_fnS gsSO fol fun ds r cs h hc => by
  unfold spLawO at h
  split at h
  case h_2 => simp at h
  rename_i x y x' y' x'' y''
  simp only [Option.some.injEq, Prod.mk.injEq] at h
  obtain ⟨rfl, rfl⟩ := h
  by_cases h : onV (val x) (val y) = true
  · by_cases h' : onV (val x') (val y') = true
    · by_cases h'' : onV (val x'') (val y'') = true
      · have r0 := runOrT addR multR onW x y x' y' x'' y''
        obtain ⟨a1, a2⟩ := add_assoc8 h h' h''
        rw [a1, add_no8 h, ← add_comm8 h h'] at r0
        exact use_run r0 rfl ⟨bnT h, bnT h', bnT h'', (add_on8 h h').1, eqq _ _, eqq _ _, eqq _ _, beq_iff_eq.2 a2, beq_iff_eq.2 a2, rfl, trivial⟩
      · exact use_run (runOrR addR multR onW x y x' y' x'' y'') rfl ⟨bnT h, bnT h', bnF h'', trivial⟩
    · exact use_run (runOrQ addR multR onW x y x' y' x'' y'') rfl ⟨bnT h, bnF h', rfl, trivial⟩
  · exact use_run (runOrP addR multR onW x y x' y' x'' y'') rfl ⟨bnF h, rfl, rfl, trivial⟩
def w1 (a : BitVec 64) : N4 := ⟨a, 0#64, 0#64, 0#64⟩
def w2 (a c : BitVec 64) : N4 := ⟨a, c, 0#64, 0#64⟩
def muCs (A : N4 → N4 → N4 → N4 → PR) (M : N4 → N4 → N4 → PR) (o : N4 → N4 → Bool) (a b c : BitVec 64) (t : Bool) (x y : N4) : List Prop :=
  [(!o x y) = false, decide ((a + b).toNat < a.toNat) = t, 32 = 32, ((A (M (w1 a) x y).x (M (w1 a) x y).y (M (w1 b) x y).x (M (w1 b) x y).y).x.eq (M (w2 (a + b) c) x y).x && ((A (M (w1 a) x y).x (M (w1 a) x y).y (M (w1 b) x y).x (M (w1 b) x y).y).y.eq (M (w2 (a + b) c) x y).y && true)) = true, ((M (ofN Lp) (ofN bxN) (ofN byN)).x.eq (ofN 0) && ((M (ofN Lp) (ofN bxN) (ofN byN)).y.eq (ofN 1) && true)) = true, ((M (w1 a) x y).e == 0) = true, ((M (w1 b) x y).e == 0) = true, ((A (M (w1 a) x y).x (M (w1 a) x y).y (M (w1 b) x y).x (M (w1 b) x y).y).e == 0) = true, ((M (w2 (a + b) c) x y).e == 0) = true, ((M (ofN Lp) (ofN bxN) (ofN byN)).e == 0) = true]
theorem runMu1N (A : N4 → N4 → N4 → N4 → PR) (M : N4 → N4 → N4 → PR) (o : N4 → N4 → Bool) (a b : BitVec 64) (x y : N4) : fnS Try.prog (lookG (tblSO A M o)) (orcA [(1, [(2, false)]), (7, [(2, true)]), (11, [(3, true), (8, true), (12, true), (16, true), (20, true), (24, true), (28, true)])]) [] 10 8 [sc (.u64 a), sc (.u64 b), .val true [.n4 x, .n4 y]] = some (sc (.bool true), muCs A M o a b 1#64 true x y) := by kernel_rfl
theorem runMu0N (A : N4 → N4 → N4 → N4 → PR) (M : N4 → N4 → N4 → PR) (o : N4 → N4 → Bool) (a b : BitVec 64) (x y : N4) : fnS Try.prog (lookG (tblSO A M o)) (orcA [(1, [(2, false)]), (7, [(2, false)]), (11, [(3, true), (8, true), (12, true), (16, true), (20, true), (24, true), (28, true)])]) [] 10 8 [sc (.u64 a), sc (.u64 b), .val true [.n4 x, .n4 y]] = some (sc (.bool true), muCs A M o a b 0#64 false x y) := by kernel_rfl
theorem val_w1 (a : BitVec 64) : val (w1 a) = a.toNat := by
  show a.toNat + 2 ^ 64 * 0 + 2 ^ 128 * 0 + 2 ^ 192 * 0 = a.toNat
  omega
theorem val_w2 (a c : BitVec 64) : val (w2 a c) = a.toNat + 2 ^ 64 * c.toNat := by
  show a.toNat + 2 ^ 64 * c.toNat + 2 ^ 128 * 0 + 2 ^ 192 * 0 = _
  omega
theorem carry_t {a b : BitVec 64} (h : (a + b).toNat < a.toNat) : val (w2 (a + b) 1#64) = val (w1 a) + val (w1 b) := by
  rw [val_w1, val_w1, val_w2, BitVec.toNat_add]
  rw [BitVec.toNat_add] at h
  have := a.isLt
  have := b.isLt
  show (a.toNat + b.toNat) % 2 ^ 64 + 2 ^ 64 * 1 = _
  omega
theorem carry_f {a b : BitVec 64} (h : ¬ (a + b).toNat < a.toNat) : val (w2 (a + b) 0#64) = val (w1 a) + val (w1 b) := by
  rw [val_w1, val_w1, val_w2, BitVec.toNat_add]
  rw [BitVec.toNat_add] at h
  have := a.isLt
  have := b.isLt
  show (a.toNat + b.toNat) % 2 ^ 64 + 2 ^ 64 * 0 = _
  omega
theorem val_Lp : val (ofN Lp) = Lp := by kernel_rfl
theorem mu_ok {a b c : BitVec 64} {t : Bool} {x y : N4} (h : onV (val x) (val y) = true) (ht : decide ((a + b).toNat < a.toNat) = t) (hv : val (w2 (a + b) c) = val (w1 a) + val (w1 b)) : AllP (muCs addR multR onW a b c t x y) := by
  obtain ⟨m1, m2, m3⟩ := mult_add (n := w1 a) (m := w1 b) h hv
  have m4 : (multR (w1 b) x y).e = 0 := by rw [multR_P h]; rfl
  have mo := order_mult val_Lp
  unfold muCs
  rw [m1, mo]
  exact ⟨bnT h, ht, rfl, eqq _ _, eqq _ _, beq_iff_eq.2 m2, beq_iff_eq.2 m4, beq_iff_eq.2 m3, beq_iff_eq.2 m3, rfl, trivial⟩
def spLawP : List AV → Option (AV × List Prop)
  | [.val false [.u64 _], .val false [.u64 _], .val true [.n4 _, .n4 _]] => some (sc (.bool true), [])
  | _ => none
theorem ctLawP : CtSOk Try.prog 8 (.fn spLawP) := FnS_of_fnS gsSO fol fun ds r cs h hc => by
  unfold spLawP at h
  split at h
  case h_2 => simp at h
  rename_i a b x y
  simp only [Option.some.injEq, Prod.mk.injEq] at h
  obtain ⟨rfl, rfl⟩ := h
  by_cases h : onV (val x) (val y) = true
  · by_cases ht : (a + b).toNat < a.toNat
    · exact use_run (runMu1N addR multR onW a b x y) rfl (mu_ok h (decide_eq_true ht) (carry_t ht))
    · exact use_run (runMu0N addR multR onW a b x y) rfl (mu_ok h (decide_eq_false ht) (carry_f ht))
  · exact use_run (runMuF addR multR onW a b x y) rfl ⟨bnF h, trivial⟩
end Go.Proofs.Ytfhopbeieoffnaa
/- What the rows of this layer share. Own work; no statement of the seat is proved here. -/
namespace Go.Proofs.Ytfhopbeieoffnaa
open Go.Ev Go.Sp Go.ChangeShapes Go.WideShapes Go.RowKit
set_option maxRecDepth 100000
theorem own : ownKnob Try.prog.godebug = none := by kernel_rfl
theorem laidOut : laidOutB Try.prog = true := by kernel_rfl
theorem resBool {B : Nat} {w : World} {v : Value} {b : Bool} (h : ResOk B w (sc (.bool b)) v) : v = .bool b := by
  obtain ⟨ρ, _, _, h1, _⟩ := h 0
  have := VRepr_sc.1 h1
  simp [ICells, PCells] at this
  exact this.symm
theorem opensNum {H : Type} {enc : TypeId × Value → H} {W : World} {N : Nat} : Opens enc Try.prog W N 24 (fun its => ∃ a : N4, its = [.n4 a]) := opens_num (e := 22) (by kernel_rfl) (by kernel_rfl) (by kernel_rfl) (by kernel_rfl)
theorem opensPoint {H : Type} {enc : TypeId × Value → H} {W : World} {N : Nat} : Opens enc Try.prog W N 26 (fun its => ∃ a b : N4, its = [.n4 a, .n4 b]) := fun fuel cs x h1 h2 => by
  obtain ⟨its, ⟨itss, h3, rfl⟩, h4⟩ := opens_st (ts := [24, 24]) (e := 8) (Rs := [_, _]) (by kernel_rfl) (by kernel_rfl) (by kernel_rfl) (by kernel_rfl) ⟨opensNum, opensNum, trivial⟩ fuel cs x h1 h2
  match itss, h3 with
  | [_, _], ⟨⟨a, e1⟩, ⟨b, e2⟩, _⟩ =>
    subst e1 e2
    exact ⟨_, ⟨a, b, rfl⟩, h4⟩
theorem openPoint {H : Type} {enc : TypeId × Value → H} {W : World} {v : Value} {d : DataW H} {ps : List MemPlace} {base N : Nat} (hval : Value.okWide Try.prog W .any base 26 v) (hd : DataW.Trod enc Try.prog W 0 (fun _ => true) true 26 v d ps) (hN : ∀ y ∈ d.weights Try.prog 26, y ≤ N) :
    ∃ a b : N4, DV W (.val true [.n4 a, .n4 b]) v := by
  obtain ⟨itss, h1, h2⟩ := open_st (ts := [24, 24]) (e := 8) (Rs := [_, _]) (by kernel_rfl) (by kernel_rfl) (by kernel_rfl) (by kernel_rfl) ⟨opensNum, opensNum, trivial⟩ hval hd hN
  match itss, h1 with
  | [_, _], ⟨⟨a, e1⟩, ⟨b, e2⟩, _⟩ =>
    subst e1 e2
    exact ⟨a, b, h2⟩
theorem openPair {H : Type} {enc : TypeId × Value → H} {W : World} {v : Value} {d : DataW H} {ps : List MemPlace} {base N : Nat} (hval : Value.okWide Try.prog W .any base 47 v) (hd : DataW.Trod enc Try.prog W 0 (fun _ => true) true 47 v d ps) (hN : ∀ y ∈ d.weights Try.prog 47, y ≤ N) :
    ∃ n m x y x' y' : N4, DV W (.val true [.n4 n, .n4 m, .n4 x, .n4 y, .n4 x', .n4 y']) v := by
  obtain ⟨itss, h1, h2⟩ := open_st (ts := [24, 24, 26, 26]) (e := 24) (Rs := [_, _, _, _]) (by kernel_rfl) (by kernel_rfl) (by kernel_rfl) (by kernel_rfl) ⟨opensNum, opensNum, opensPoint, opensPoint, trivial⟩ hval hd hN
  match itss, h1 with
  | [_, _, _, _], ⟨⟨n, e1⟩, ⟨m, e2⟩, ⟨x, y, e3⟩, ⟨x', y', e4⟩, _⟩ =>
    subst e1 e2 e3 e4
    exact ⟨n, m, x, y, x', y', h2⟩
end Go.Proofs.Ytfhopbeieoffnaa
