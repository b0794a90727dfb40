/- Texts put together: CuG CuH CuI CuJ CuL SgA ShA ShP ShB ShC ShD ShE. Own work. -/
import Derived.Test.YtlgiaglbdifkpaaDoorMgas
/- Contracts of layer 8: the document's points: Point, with, Base, Small; bytes. Own work. -/
namespace Go.Proofs.YtlgiaglbdifkpaaDoor
open Go.Ev Go.Sp Go.RowKit
set_option maxRecDepth 100000
def spRRtG (g : Nat → Nat × Bool) : List AV → Option (AV × List Prop)
  | [.val true [.fe a]] => some (.tup [(true, [.fe (g a).1]), (false, [.bool (g a).2])], [a < Pp])
  | _ => none
def tblDd (g : Nat → Nat × Bool) (v : Nat → Nat) : List (FuncId × CtS) :=
  tblDb0
theorem gsDd : GSound Tryd.prog (upG (lookG (tblDd rtV fInv))) := GSound_of_tbl okDb0
def spRPt : List AV → Option (AV × List Prop)
  | [.val true [.fe a, .fe b, .fe c]] => some (.val true [.n4 (ofN (fMul a (fInv c))), .n4 (ofN (fMul b (fInv c)))], [a < Pp, b < Pp, c < Pp])
  | _ => none
/-- The point of that y, and an x of that lowest bit. -/
def wOk (y : Nat) (s : Int) : Prop := (prV (xxV y)).2 = true ∧ ¬ ((prV (xxV y)).1 = 0 ∧ s = 1)
def wX (y : Nat) (s : Int) : Nat := if s = 1 then fNeg (prV (xxV y)).1 else (prV (xxV y)).1
def spWiT (G : Nat → Int → Nat) : List AV → Option (AV × List Prop)
  | [.val true [.fe y], .val false [.i64 s]] => some (.tup [(true, [.fe (G y s), .fe y, .fe 1]), (false, [.bool true])], [y < Pp, wOk y s])
  | _ => none
def spWiN : List AV → Option (AV × List Prop)
  | [.val true [.fe y], .val false [.i64 s]] => some (.tup [(true, [.vi 48 z48]), (false, [.bool false])], [y < Pp, ¬ wOk y s])
  | _ => none
theorem i1N : Int.toNat (1 : Int) = 1 := rfl
theorem xxV_lt (y : Nat) : xxV y < Pp := fMul_lt _ _
theorem xx_def (y : Nat) : fMul (fSub (fMul y y) 1) (fInv (fAdd 1 (fMul dN (fMul y y)))) = xxV y := rfl
theorem d0_beq (x : Nat) : (digs16 (prV x).1 == digs16 0 && true) = ((prV x).1 == 0) := digs16_beq (lt256 (prV_lt x)) (lt256 Pp_pos)
end Go.Proofs.YtlgiaglbdifkpaaDoor
/- Contracts of layer 8: the document's Base, Decode, Point of bytes, Encode, Small. Own work. -/
namespace Go.Proofs.YtlgiaglbdifkpaaDoor
open Go.Ev Go.Sp Go.RowKit
set_option maxRecDepth 100000
def tblDe (G : Nat → Int → Nat) (v : Nat → Nat) : List (FuncId × CtS) :=
  tblDb0
def tblDeN : List (FuncId × CtS) :=
  tblDb0
theorem gsDe : GSound Tryd.prog (upG (lookG (tblDe wX fInv))) := GSound_of_tbl okDb0
theorem gsDeN : GSound Tryd.prog (upG (lookG tblDeN)) := GSound_of_tbl okDb0
theorem fNeg0 : fNeg 0 = 0 := Nat.mod_self _
theorem prV_eta {x r : Nat} (a : (prV x).1 = r) (b : (prV x).2 = true) : prV x = (r, true) := Prod.ext a b
/-- The even root is told. -/
theorem prV_even {r x : Nat} (hr : r < Pp) (h2 : r % 2 = 0) (h : fMul r r = x) : prV x = (r, true) := by
  have hx : x < Pp := h ▸ fMul_lt _ _
  have h1 : (prV x).2 = true := prV_of hx (sqV_of hr h)
  obtain ⟨a, b, c⟩ := prV_sq h1
  have e : (prV x).1 = r := by
    rcases sq_eq b hr (a.trans h.symm) with e | e
    · exact e
    · by_cases h0 : r = 0
      · rw [e, h0]
        exact fNeg0
      · have hp : Pp % 2 = 1 := by decide
        rw [e, fNeg_pos h0 hr] at c
        generalize Pp = p at *
        omega
  exact prV_eta e h1
theorem xxV_of {y D r : Nat} (hD : D = fAdd 1 (fMul dN (fMul y y))) (h0 : D ≠ 0) (h : fMul (fMul r r) D = fSub (fMul y y) 1) : xxV y = fMul r r := by
  have hl : D < Pp := hD ▸ fAdd_lt _ _
  unfold xxV
  rw [← hD, ← h, fMul_assoc, inv_mul h0 hl, fMul_one (fMul_lt _ _)]
theorem y45 : fMul 4 (fInv 5) = byN := by
  have h : fMul byN 5 = 4 := by kernel_rfl
  rw [← h, fMul_assoc, inv_mul (by decide) (by decide), fMul_one (by decide)]
def baseDn : Nat := fAdd 1 (fMul dN (fMul byN byN))
theorem baseDn_ne : (baseDn == 0) = false := by kernel_rfl
theorem base_xx : xxV byN = fMul bxN bxN := by
  have h1 : fMul (fMul bxN bxN) baseDn = fSub (fMul byN byN) 1 := by kernel_rfl
  exact xxV_of rfl (beq_eq_false_iff_ne.1 baseDn_ne) h1
theorem base_pr : prV (xxV byN) = (bxN, true) := prV_even (by decide) (by decide) base_xx.symm
def spRBase : List AV → Option (AV × List Prop)
  | [] => some (.val true [.fe bxN, .fe byN, .fe 1], [])
  | _ => none
def spREnB : List AV → Option (AV × List Prop)
  | [.val true [.n4 x, .n4 y]] => some (sc (.d8 (encB (val x) (val y))), [val y < Pp])
  | _ => none
theorem bvS31 {u : BL} (hu : u.length = 32) : bv (u.set 31 (u.getD 31 (BitVec.ofNat 8 0) % BitVec.ofNat 8 128)) = bv u % q255 ∧ (u.getD 31 (BitVec.ofNat 8 0) / BitVec.ofNat 8 128).toNat = bv u / q255 := by
  have e : u = u.take 31 ++ [u.getD 31 (BitVec.ofNat 8 0)] := by
    have h : u.drop 31 = [u.getD 31 (BitVec.ofNat 8 0)] := by
      rw [List.drop_eq_getElem_cons (by omega), List.drop_of_length_le (by omega), List.getD_eq_getElem?_getD, List.getElem?_eq_getElem (by omega)]
      rfl
    rw [← h, List.take_append_drop]
  have l31 : (u.take 31).length = 31 := by rw [List.length_take]; omega
  generalize u.getD 31 (BitVec.ofNat 8 0) = y at *
  have hp : (256 : Nat) ^ 31 = 452312848583266388373324160190187140051835877600158453279131187530910662656 := by decide
  have hlt := bv_lt (u.take 31)
  rw [l31, hp] at hlt
  generalize u.take 31 = m at *
  subst e
  rw [List.set_append_right _ _ (by omega), l31]
  have hm : (y % BitVec.ofNat 8 128).toNat = y.toNat % 128 := by rw [BitVec.toNat_umod]; rfl
  have hd : (y / BitVec.ofNat 8 128).toNat = y.toNat / 128 := by rw [BitVec.toNat_udiv]; rfl
  have hy := y.isLt
  have g1 : bv (m ++ [y]) = bv m + 452312848583266388373324160190187140051835877600158453279131187530910662656 * y.toNat := by
    rw [bv_append, l31, hp]
    simp only [bv, Nat.mul_zero, Nat.add_zero]
  have g2 : bv (m ++ [y % BitVec.ofNat 8 128]) = bv m + 452312848583266388373324160190187140051835877600158453279131187530910662656 * (y.toNat % 128) := by
    rw [bv_append, l31, hp]
    simp only [bv, Nat.mul_zero, Nat.add_zero, hm]
  constructor
  · show bv (m ++ [y % BitVec.ofNat 8 128]) = _
    rw [g1, g2]
    unfold q255
    generalize bv m = z at *
    generalize y.toNat = s at *
    omega
  · rw [g1, hd]
    unfold q255
    generalize bv m = z at *
    generalize y.toNat = s at *
    omega
end Go.Proofs.YtlgiaglbdifkpaaDoor
/- Contracts of layer 8: the document's Decode and Point of bytes. Own work. -/
namespace Go.Proofs.YtlgiaglbdifkpaaDoor
open Go.Ev Go.Sp Go.RowKit
set_option maxRecDepth 100000
def dX (b : BL) : Nat := wX (bv b % q255) ((bv b / q255 : Nat) : Int)
def dOk (b : BL) : Prop := b.length = 32 ∧ bv b % q255 < Pp ∧ wOk (bv b % q255) ((bv b / q255 : Nat) : Int)
def spRDeT (X Y : BL → Nat) : List AV → Option (AV × List Prop)
  | [.val false [.d8 b]] => some (.tup [(true, [.fe (X b), .fe (Y b), .fe 1]), (false, [.i64 0])], [dOk b])
  | _ => none
def spRDeE (E : BL → Int) : List AV → Option (AV × List Prop)
  | [.val false [.d8 b]] => some (.tup [(true, [.vi 48 z48]), (false, [.i64 (E b)])], [¬ dOk b])
  | _ => none
def dY (b : BL) : Nat := bv b % q255
def dE (b : BL) : Int := if b.length = 32 then if bv b % q255 < Pp then 7 else 6 else 1
theorem dec31 {b : BL} (h : b.length = 32) : decV (b.set 31 (b.getD 31 (BitVec.ofNat 8 0) % BitVec.ofNat 8 128)) = if bv b % q255 < Pp then (bv b % q255, 0) else (0, 6) := by
  unfold decV
  rw [List.length_set, if_pos h, (bvS31 h).1]
/-- The two tables: what is read, what is none. -/
def tblDg (X Y : BL → Nat) : List (FuncId × CtS) :=
  []
def tblDh (E : BL → Int) : List (FuncId × CtS) :=
  []
theorem gsDg : GSound Tryd.prog (upG (lookG (tblDg dX dY))) := GSound_of_tbl trivial
theorem gsDh : GSound Tryd.prog (upG (lookG (tblDh dE))) := GSound_of_tbl trivial
theorem inv1 : fInv 1 = 1 := by
  have h := inv_mul (x := 1) (by decide) (by decide)
  rwa [fMul_comm, fMul_one (fInv_lt 1)] at h
theorem wX_lt (y : Nat) (s : Int) : wX y s < Pp := by
  unfold wX
  split
  · exact fNeg_lt _
  · exact prV_lt _
theorem top01 {b : BL} (h : b.length = 32) : bv b / q255 = 0 ∨ bv b / q255 = 1 := by
  have := bv_p256 h
  unfold p256 at this
  unfold q255
  omega
theorem wOk_nat (y s : Nat) : wOk y (s : Int) ↔ (prV (xxV y)).2 = true ∧ ¬ ((prV (xxV y)).1 = 0 ∧ s = 1) := by
  have e : ((s : Int) = 1) ↔ s = 1 := by omega
  unfold wOk
  rw [e]
theorem decR_T {b : BL} (h : dOk b) : decR b = ⟨ofN (dX b), ofN (dY b), 0⟩ := by
  obtain ⟨h1, h2, h3⟩ := h
  rw [decR, if_pos h1, if_pos h2, if_pos ((wOk_nat _ _).1 h3), dX, dY, wX]
  congr 2
  rcases top01 h1 with e | e <;> rw [e]
  · rw [if_pos rfl, if_neg (by decide)]
  · rw [if_neg (by decide), if_pos (by decide)]
theorem decR_E {b : BL} (h : ¬ dOk b) : decR b = prE (dE b) ∧ dE b ≠ 0 := by
  unfold decR dE
  by_cases h1 : b.length = 32
  · rw [if_pos h1, if_pos h1]
    by_cases h2 : bv b % q255 < Pp
    · rw [if_pos h2, if_pos h2, if_neg (fun q => h ⟨h1, h2, (wOk_nat _ _).2 q⟩)]
      exact ⟨rfl, by decide⟩
    · rw [if_neg h2, if_neg h2]
      exact ⟨rfl, by decide⟩
  · rw [if_neg h1, if_neg h1]
    exact ⟨rfl, by decide⟩
end Go.Proofs.YtlgiaglbdifkpaaDoor
/- Contracts of layer 8: the document's Small and Digits; the law's nought and awake. Own work. -/
namespace Go.Proofs.YtlgiaglbdifkpaaDoor
open Go.Ev Go.Sp Go.RowKit
set_option maxRecDepth 100000
def tblDi (H : Nat → T3 → T3) : List (FuncId × CtS) :=
  []
theorem gsDi : GSound Tryd.prog (upG (lookG (tblDi tsD))) := GSound_of_tbl trivial
def spNo : List AV → Option (AV × List Prop)
  | [] => some (.val true [.n4 (ofN 0), .n4 (ofN 1)], [])
  | _ => none
def onW (x y : N4) : Bool := onV (val x) (val y)
theorem ctOnW : CtSOk Tryd.prog 46 (.fn (spSmG onW)) := ctOnC
def tblAw8 (G : N4 → N4 → BL × Int) (o s : N4 → N4 → Bool) : List (FuncId × CtS) :=
  (24, .fn spCBase) :: (30, .fn (spEncCG G)) :: (46, .fn (spSmG o)) :: (21, .fn (spSmG s)) :: []
theorem gsAw8 : GSound Tryd.prog (upG (lookG (tblAw8 encR onW smallR))) := GSound_of_tbl ⟨⟨ctCBase, by kernel_rfl⟩, ⟨ctEncC, by kernel_rfl⟩, ⟨ctOnW, by kernel_rfl⟩, ⟨ctSmallC, by kernel_rfl⟩, trivial⟩
theorem base_onV : onV (val (ofN bxN)) (val (ofN byN)) = true := by
  have h1 : bxN < Pp := by decide
  have h2 : byN < Pp := by decide
  rw [val_lo h1, val_lo h2]
  exact onV_iff.2 ⟨h1, h2, bON⟩
theorem base_enc : encR (ofN bxN) (ofN byN) = (encB bxN byN, 0) := by
  have h1 : bxN < Pp := by decide
  have h2 : byN < Pp := by decide
  rw [encR, if_pos base_onV, val_lo h1, val_lo h2]
theorem no_On : OnN 0 1 := by unfold OnN; kernel_rfl
theorem no_val : val (ofN 0) = 0 ∧ val (ofN 1) = 1 := ⟨by kernel_rfl, by kernel_rfl⟩
theorem no_onV : onV (val (ofN 0)) (val (ofN 1)) = true := by
  rw [no_val.1, no_val.2]
  exact onV_iff.2 ⟨Pp_pos, one_lt, no_On⟩
theorem no_pt : ptV (ofN 0) (ofN 1) no_onV = Pt.nought := by
  have h : ∀ x y (h : onV x y = true), x = 0 → y = 1 → ptN x y (onV_iff.1 h).2.2 = Pt.nought := by
    rintro x y h rfl rfl
    unfold ptN Pt.nought
    simp only [tF_zero, tF_one]
  exact h _ _ no_onV no_val.1 no_val.2
theorem no_pr : prP (Pt.nought : Pt Ed) = ⟨ofN 0, ofN 1, 0⟩ := by
  have h1 : (Pt.nought : Pt Ed).x.val = 0 := rfl
  have h2 : (Pt.nought : Pt Ed).y.val = 1 := by
    show (1 : Fin Pp).val = 1
    rw [← tF_one]
    kernel_rfl
  rw [prP, h1, h2]
theorem no_small : smallR (ofN 0) (ofN 1) = true := by
  have h : multR eightN (ofN 0) (ofN 1) = ⟨ofN 0, ofN 1, 0⟩ := by
    rw [multR, dif_pos no_onV, no_pt, Pt.times_nought, no_pr]
  have h0 : ∀ a : N4, a.eq a = true := fun a => by
    have h := eq_N4 a a
    rwa [Bool.and_true, beq_self_eq_true] at h
  unfold smallR smallM
  rw [h]
  show (((0 : Int) == 0) && ((ofN 0).eq (ofN 0) && ((ofN 1).eq (ofN 1) && true))) = true
  rw [h0, h0]
  rfl
def spTrue0 : List AV → Option (AV × List Prop)
  | [] => some (sc (.bool true), [])
  | _ => none
theorem base_len : (encB bxN byN).length = 32 := bl_length _ _
theorem eight_set : (List.replicate 1 (0 : Int)).set ((0, Operand.const (Value.int IntKind.i64 (8 : Int))).fst * (fun x => x.size) Tryd.prog.types[3]) (8 : Int) = [8] := by kernel_rfl
theorem eight_nv : nv [(8 : Int)] = 8 := by kernel_rfl
theorem eight_dg : (List.replicate 1 (0 : Int)).set 0 (8 : Int) = dg 8 := by kernel_rfl
def smD (H : Nat → T3 → T3) (p : T3) : Bool := (ofN (fMul (H 8 p).x (fInv (H 8 p).z))).eq (ofN (fMul 0 (fInv 1))) && ((ofN (fMul (H 8 p).y (fInv (H 8 p).z))).eq (ofN (fMul 1 (fInv 1))) && true)
def smallD (p : T3) : Bool := smD tsD p
def spRSmG (s : T3 → Bool) : List AV → Option (AV × List Prop)
  | [.val true [.fe a, .fe b, .fe c]] => some (sc (.bool (s ⟨a, b, c⟩)), [a < Pp, b < Pp, c < Pp])
  | _ => none
end Go.Proofs.YtlgiaglbdifkpaaDoor
/- Layer 8, plain: the document's multiples and points as the group's. Own work. -/
namespace Go.Proofs.YtlgiaglbdifkpaaDoor
open Go.Ev Go.Sp Go.RowKit
theorem R3.ts {P : Pt Ed} {p : T3} (h : R3 P p) (n : Nat) : R3 (Pt.times n P) (tsD n p) := by
  have h1 := h.tO n (8 * (dg n).length)
  have h2 : n < 2 ^ (8 * (dg n).length) := by
    rw [Nat.pow_mul]
    exact lt_of_dg n
  rw [Nat.mod_eq_of_lt h2] at h1
  exact h1
theorem tsD_lt (n : Nat) (p : T3) : (tsD n p).Lt := tO_lt _ _
theorem R3.pr {P : Pt Ed} {p : T3} (h : R3 P p) (hz : p.z < Pp) : ofN (fMul p.x (fInv p.z)) = (prP P).x ∧ ofN (fMul p.y (fInv p.z)) = (prP P).y := by
  obtain ⟨h1, h2⟩ := h.point hz
  rw [h1, h2]
  exact ⟨rfl, rfl⟩
theorem ptV_R3 {x y : N4} (h : onV (val x) (val y) = true) : R3 (ptV x y h) ⟨val x % Pp, val y % Pp, 1⟩ := by
  obtain ⟨h1, h2, h3⟩ := onV_iff.1 h
  rw [Nat.mod_eq_of_lt h1, Nat.mod_eq_of_lt h2]
  exact R3.of h3
theorem law_mult {n x y : N4} (h : onV (val x) (val y) = true) : multR n x y = ⟨ofN (fMul (tsD (val n) ⟨val x % Pp, val y % Pp, 1⟩).x (fInv (tsD (val n) ⟨val x % Pp, val y % Pp, 1⟩).z)), ofN (fMul (tsD (val n) ⟨val x % Pp, val y % Pp, 1⟩).y (fInv (tsD (val n) ⟨val x % Pp, val y % Pp, 1⟩).z)), 0⟩ := by
  obtain ⟨e1, e2⟩ := ((ptV_R3 h).ts (val n)).pr (tsD_lt _ _).2.2
  rw [multR, dif_pos h, e1, e2]
  rfl
theorem law_small {x y : N4} (h : onV (val x) (val y) = true) : smallD ⟨val x % Pp, val y % Pp, 1⟩ = smallR x y := by
  have hm := law_mult (n := eightN) h
  rw [show val eightN = 8 by kernel_rfl] at hm
  unfold smallR smallM smallD smD
  rw [hm, inv1, fMul_one Pp_pos, fMul_one one_lt]
  generalize tsD 8 ⟨val x % Pp, val y % Pp, 1⟩ = q
  generalize fMul q.x (fInv q.z) = u
  generalize fMul q.y (fInv q.z) = v
  show _ = (((0 : Int) == 0) && ((ofN u).eq (ofN 0) && ((ofN v).eq (ofN 1) && true)))
  rw [beq_self_eq_true, Bool.true_and]
theorem law_add {x y x' y' : N4} (h : onV (val x) (val y) = true) (h' : onV (val x') (val y') = true) : addR x y x' y' = ⟨ofN (fMul (plusD ⟨val x % Pp, val y % Pp, 1⟩ ⟨val x' % Pp, val y' % Pp, 1⟩).x (fInv (plusD ⟨val x % Pp, val y % Pp, 1⟩ ⟨val x' % Pp, val y' % Pp, 1⟩).z)), ofN (fMul (plusD ⟨val x % Pp, val y % Pp, 1⟩ ⟨val x' % Pp, val y' % Pp, 1⟩).y (fInv (plusD ⟨val x % Pp, val y % Pp, 1⟩ ⟨val x' % Pp, val y' % Pp, 1⟩).z)), 0⟩ := by
  have hr : R3 _ (plusD ⟨val x % Pp, val y % Pp, 1⟩ ⟨val x' % Pp, val y' % Pp, 1⟩) := (ptV_R3 h).add (ptV_R3 h')
  obtain ⟨e1, e2⟩ := hr.pr (plus3_lt _ _ _).2.2
  rw [addR, dif_pos h, dif_pos h', e1, e2]
  rfl
theorem law_both {n x y m x' y' : N4} (h : onV (val x) (val y) = true) (h' : onV (val x') (val y') = true) (q : T3) (hq : q = plusD (tsD (val n) ⟨val x % Pp, val y % Pp, 1⟩) (tsD (val m) ⟨val x' % Pp, val y' % Pp, 1⟩)) : bothR n x y m x' y' = ⟨ofN (fMul q.x (fInv q.z)), ofN (fMul q.y (fInv q.z)), 0⟩ := by
  have hr : R3 ((Pt.times (val n) (ptV x y h)).add (Pt.times (val m) (ptV x' y' h'))) q := hq ▸ ((ptV_R3 h).ts (val n)).add ((ptV_R3 h').ts (val m))
  have hz : q.z < Pp := hq ▸ (plus3_lt _ _ _).2.2
  obtain ⟨e1, e2⟩ := hr.pr hz
  rw [bothR, dif_pos h, dif_pos h', e1, e2]
  rfl
end Go.Proofs.YtlgiaglbdifkpaaDoor
/- Secrets clamped (layer 5's contracts). Own work. -/
namespace Go.Proofs.YtlgiaglbdifkpaaDoor
open Go.Ev Go.Sp Go.RowKit
set_option maxRecDepth 100000
theorem runClamp (k : BL) : fnS Tryd.prog (lookG []) (orcA [(1, [(2, false)])]) [] 10 26 [sc (.d8 k)] =
    some (AV.tup [(false, [IV.d8 (cutL ((List.set k 0 (List.getD k 0 (BitVec.ofNat 8 0) &&& BitVec.ofNat 8 248)).set 31 ((List.set k 0 (List.getD k 0 (BitVec.ofNat 8 0) &&& BitVec.ofNat 8 248)).getD 31 (BitVec.ofNat 8 0) &&& BitVec.ofNat 8 63 ||| BitVec.ofNat 8 64)) 0 (0 + List.length k) (List.length k))]), (false, [IV.i64 (0 : Int)])], [(!(↑(List.length k) : Int) == (32 : Int)) = false, List.length k = List.length k, 0 = 0, (0 + List.length k) * 1 ≤ 140737488355328 ∧ 0 + List.length k ≤ 9223372036854775807, (0 : Int) ≤ (0 : Int), 0 < 0 + List.length k, 0 < List.length k, (0 : Int) ≤ (0 : Int), 0 < 0 + List.length k, 0 < List.length k, (0 : Int) ≤ (31 : Int), 31 < 0 + List.length k, 31 < List.length k, (0 : Int) ≤ (31 : Int), 31 < 0 + List.length k, 31 < List.length k, 0 + (0 + List.length k) ≤ List.length k]) := by kernel_rfl
theorem runClamp1 (k : BL) : fnS Tryd.prog (lookG []) (orcA [(1, [(2, true)])]) [] 10 26 [sc (.d8 k)] =
    some (AV.tup [(false, [IV.d8 (cutL [] 0 0 0)]), (false, [IV.i64 (1 : Int)])], [(!(↑(List.length k) : Int) == (32 : Int)) = true, 0 ≤ 0]) := by kernel_rfl
def clampL (k : BL) : BL := (k.set 0 (k.getD 0 0#8 &&& 248#8)).set 31 ((k.set 0 (k.getD 0 0#8 &&& 248#8)).getD 31 0#8 &&& 63#8 ||| 64#8)
def clampV (k : BL) : BL × Int := if k.length = 32 then (clampL k, 0) else ([], 1)
theorem clampL_len (k : BL) : (clampL k).length = k.length := by simp [clampL]
theorem c248 : ∀ x : BitVec 8, x - x % 8#8 = x &&& 248#8 := by decide
theorem c63 : ∀ x : BitVec 8, x % 64#8 + 64#8 = x &&& 63#8 ||| 64#8 := by decide
theorem lcTk {n : Nat} (h : n = 32) : (!((n : Int) == (32 : Int))) = false := by rw [h]; rfl
theorem lcFk {n : Nat} (h : n ≠ 32) : (!((n : Int) == (32 : Int))) = true := by
  rw [Bool.not_eq_true', beq_eq_false_iff_ne]; omega
def spClamp : List AV → Option (AV × List Prop)
  | [.val false [.d8 k]] => some (.tup [(false, [.d8 (clampV k).1]), (false, [.i64 (clampV k).2])], [])
  | _ => none
theorem ctClamp : CtSOk Tryd.prog 26 (.fn spClamp) := FnS_of_fnS gs0 fol fun ds r cs h hc => by
  unfold spClamp at h
  split at h
  case h_2 => simp at h
  rename_i k
  simp only [Option.some.injEq, Prod.mk.injEq] at h
  obtain ⟨rfl, rfl⟩ := h
  by_cases h : k.length = 32
  · have r0 := runClamp k
    rw [Nat.zero_add] at r0
    refine use_run r0 (by rw [clampV, if_pos h, cutL_eq (by simp)]; simp only [List.drop_zero]; rw [List.take_of_length_le (by simp)]; rfl) ?_
    clear r0
    simp only [AllP]
    and_intros <;> first | exact True.intro | exact lcTk h | with_reducible rfl | omega
  · exact use_run (runClamp1 k) (by rw [clampV, if_neg h]; rfl) ⟨lcFk h, by omega, trivial⟩
/-! ### A secret's bits -/
end Go.Proofs.YtlgiaglbdifkpaaDoor
/- SHA-512 of the program: words turned, the rounds' numbers. Own work. -/
namespace Go.Proofs.YtlgiaglbdifkpaaDoor
open Go.Ev Go.Sp Go.RowKit
set_option maxRecDepth 100000
abbrev W6 := BitVec 64
/-- A word turned to the right. -/
def tR (w : W6) (n : Nat) : W6 := w >>> n ||| w <<< (64 - n)
theorem runTurnP (w : W6) (n b : Int) : fnS Tryd.prog (lookG []) (orcA []) [] 10 67 [sc (.u64 w), sc (.i64 n), sc (.i64 b)] =
    some (sc (IV.u64 (w >>> n.toNat ||| w <<< (b - n).toNat)), [(0 : Int) ≤ n, inI64 (b - n), (0 : Int) ≤ b - n]) := by kernel_rfl
def spTurnP : List AV → Option (AV × List Prop)
  | [.val false [.u64 w], .val false [.i64 n], .val false [.i64 b]] => some (sc (.u64 (tR w n.toNat)), [0 ≤ n, n ≤ 64, b = 64])
  | _ => none
theorem ctTurnP : CtSOk Tryd.prog 67 (.fn spTurnP) := FnS_of_fnS gs0 fol fun ds r cs h hc => by
  unfold spTurnP at h
  split at h
  case h_2 => simp at h
  rename_i w n b
  simp only [Option.some.injEq, Prod.mk.injEq] at h
  obtain ⟨rfl, rfl⟩ := h
  obtain ⟨h0, h1, h2, _⟩ := hc
  subst h2
  refine use_run (runTurnP w n 64) ?_ ?_
  · have e : ((64 : Int) - n).toNat = 64 - n.toNat := by omega
    rw [e]
    rfl
  · simp only [AllP, inI64]
    and_intros <;> first | omega | trivial
def tblTu : List (FuncId × CtS) := [(67, .fn spTurnP)]
theorem okTu : TblOk Tryd.prog tblTu := ⟨⟨ctTurnP, by kernel_rfl⟩, trivial⟩
theorem gsTu : GSound Tryd.prog (upG (lookG tblTu)) := GSound_of_tbl okTu
theorem runTurnedP (w : W6) (a b c : Int) : fnS Tryd.prog (lookG tblTu) orc0 [] 10 65 [sc (.u64 w), .val true [.vi 3 [a, b, c]], sc (.i64 64)] =
    some (sc (IV.u64 (tR w a.toNat ^^^ tR w b.toNat ^^^ tR w c.toNat)), [(0 : Int) ≤ a, a ≤ (64 : Int), (64 : Int) = (64 : Int), (0 : Int) ≤ b, b ≤ (64 : Int), (64 : Int) = (64 : Int), (0 : Int) ≤ c, c ≤ (64 : Int), (64 : Int) = (64 : Int)]) := by kernel_rfl
theorem runShiftedP (w : W6) (a b c : Int) : fnS Tryd.prog (lookG tblTu) (orcA []) [] 10 64 [sc (.u64 w), .val true [.vi 3 [a, b, c]], sc (.i64 64)] =
    some (sc (IV.u64 (tR w a.toNat ^^^ tR w b.toNat ^^^ w >>> c.toNat)), [(0 : Int) ≤ (0 : Int), 0 < 3, 0 < 3, (0 : Int) ≤ a, a ≤ (64 : Int), (64 : Int) = (64 : Int), (0 : Int) ≤ (1 : Int), 1 < 3, 1 < 3, (0 : Int) ≤ b, b ≤ (64 : Int), (64 : Int) = (64 : Int), (0 : Int) ≤ (2 : Int), 2 < 3, 2 < 3, (0 : Int) ≤ c]) := by kernel_rfl
def tR3 (w : W6) (a b c : Int) : W6 := tR w a.toNat ^^^ tR w b.toNat ^^^ tR w c.toNat
def sR3 (w : W6) (a b c : Int) : W6 := tR w a.toNat ^^^ tR w b.toNat ^^^ w >>> c.toNat
def spTurnedP : List AV → Option (AV × List Prop)
  | [.val false [.u64 w], .val true [.vi 3 [a, b, c]], .val false [.i64 64]] => some (sc (.u64 (tR3 w a b c)), [0 ≤ a, a ≤ 64, 0 ≤ b, b ≤ 64, 0 ≤ c, c ≤ 64])
  | _ => none
def spShiftedP : List AV → Option (AV × List Prop)
  | [.val false [.u64 w], .val true [.vi 3 [a, b, c]], .val false [.i64 64]] => some (sc (.u64 (sR3 w a b c)), [0 ≤ a, a ≤ 64, 0 ≤ b, b ≤ 64, 0 ≤ c])
  | _ => none
theorem ctTurnedP : CtSOk Tryd.prog 65 (.fn spTurnedP) := FnS_of_fnS gsTu fol fun ds r cs h hc => by
  unfold spTurnedP at h
  split at h
  case h_2 => simp at h
  rename_i w a b c
  simp only [Option.some.injEq, Prod.mk.injEq] at h
  obtain ⟨rfl, rfl⟩ := h
  obtain ⟨h0, h1, h2, h3, h4, h5, _⟩ := hc
  refine use_run (runTurnedP w a b c) rfl ?_
  simp only [AllP]
  and_intros <;> first | omega | trivial
theorem ctShiftedP : CtSOk Tryd.prog 64 (.fn spShiftedP) := FnS_of_fnS gsTu fol fun ds r cs h hc => by
  unfold spShiftedP at h
  split at h
  case h_2 => simp at h
  rename_i w a b c
  simp only [Option.some.injEq, Prod.mk.injEq] at h
  obtain ⟨rfl, rfl⟩ := h
  obtain ⟨h0, h1, h2, h3, h4, _⟩ := hc
  refine use_run (runShiftedP w a b c) rfl ?_
  simp only [AllP]
  and_intros <;> first | omega | trivial
theorem runKey (t : Int) : fnS Tryd.prog (lookG []) (orcA []) [] 10 54 [sc (.i64 t)] = some (sc (.u64 (k512L.getD (0 + t.toNat * 1) 0#64)), [(0 : Int) ≤ t, t.toNat < 80, 0 + t.toNat * 1 < 80]) := by kernel_rfl
/-- The word of a round, by whatever function. -/
def spKeyG (kk : Nat → W6) : List AV → Option (AV × List Prop)
  | [.val false [.i64 t]] => some (sc (.u64 (kk t.toNat)), [0 ≤ t, t < 80])
  | _ => none
def kW (t : Nat) : W6 := k512L.getD t 0#64
theorem ctKey : CtSOk Tryd.prog 54 (.fn (spKeyG kW)) := FnS_of_fnS gs0 fol fun ds r cs h hc => by
  unfold spKeyG at h
  split at h
  case h_2 => simp at h
  rename_i t
  simp only [Option.some.injEq, Prod.mk.injEq] at h
  obtain ⟨rfl, rfl⟩ := h
  obtain ⟨h0, h1, _⟩ := hc
  refine use_run (runKey t) (by rw [Nat.zero_add, Nat.mul_one, kW]) ?_
  simp only [AllP]
  and_intros <;> first | omega | trivial
def tblBl0 : List (FuncId × CtS) := [(65, .fn spTurnedP), (64, .fn spShiftedP)]
theorem okBl0 : TblOk Tryd.prog tblBl0 := ⟨⟨ctTurnedP, by kernel_rfl⟩, ⟨ctShiftedP, by kernel_rfl⟩, trivial⟩
theorem gsBl0 : GSound Tryd.prog (upG (lookG tblBl0)) := GSound_of_tbl okBl0
def tblBl (kk : Nat → W6) : List (FuncId × CtS) :=
  (54, .fn (spKeyG kk)) :: tblBl0
theorem gsBl : GSound Tryd.prog (upG (lookG (tblBl kW))) := GSound_of_tbl ⟨⟨ctKey, by kernel_rfl⟩, okBl0⟩
end Go.Proofs.YtlgiaglbdifkpaaDoor
/- SHA-512, plain: words, rounds, blocks. Own work. -/
namespace Go.Proofs.YtlgiaglbdifkpaaDoor
open Go.Ev Go.Sp Go.RowKit
set_option maxRecDepth 100000
/-- Eight words. -/
structure E8 where
  a : W6
  b : W6
  c : W6
  d : W6
  e : W6
  f : W6
  g : W6
  h : W6
def E8.lo (s : E8) : N4 := ⟨s.a, s.b, s.c, s.d⟩
def E8.hi (s : E8) : N4 := ⟨s.e, s.f, s.g, s.h⟩
def E8.of (x y : N4) : E8 := ⟨x.w0, x.w1, x.w2, x.w3, y.w0, y.w1, y.w2, y.w3⟩
def E8.list (s : E8) : List W6 := [s.a, s.b, s.c, s.d, s.e, s.f, s.g, s.h]
def E8.add (s t : E8) : E8 := ⟨s.a + t.a, s.b + t.b, s.c + t.c, s.d + t.d, s.e + t.e, s.f + t.f, s.g + t.g, s.h + t.h⟩
/-- One round. -/
def rnd (s : E8) (k w : W6) : E8 :=
  let one := s.h + tR3 s.e 14 18 41 + (s.e &&& s.f ^^^ ~~~s.e &&& s.g) + k + w
  let two := tR3 s.a 28 34 39 + (s.a &&& s.b ^^^ s.a &&& s.c ^^^ s.b &&& s.c)
  ⟨one + two, s.a, s.b, s.c, s.d + one, s.e, s.f, s.g⟩
/-- A block's first words. -/
def upB (x : W6) (b : BitVec 8) : W6 := x <<< 8 ||| b.setWidth 64
def partW (l : List (BitVec 8)) (j n : Nat) : W6 := (List.range n).foldl (fun x i => upB x (l.getD (8 * j + i) 0)) 0
def words16 (l : List (BitVec 8)) : List W6 := (List.range 16).map fun j => partW l j 8
/-- One word more. -/
def nextW (w : List W6) (n : Nat) : W6 := sR3 (w.getD (n - 2) 0) 19 61 6 + w.getD (n - 7) 0 + sR3 (w.getD (n - 15) 0) 1 8 7 + w.getD (n - 16) 0
def sched (l : List (BitVec 8)) : Nat → List W6
  | 0 => words16 l
  | n + 1 => sched l n ++ [nextW (sched l n) (16 + n)]
theorem partW_succ (l : List (BitVec 8)) (j n : Nat) : partW l j (n + 1) = upB (partW l j n) (l.getD (8 * j + n) 0) := by
  simp [partW, List.range_succ]
theorem words16_len (l : List (BitVec 8)) : (words16 l).length = 16 := by simp [words16]
theorem sched_len (l : List (BitVec 8)) : ∀ n, (sched l n).length = 16 + n
  | 0 => words16_len l
  | n + 1 => by rw [sched, List.length_append, sched_len l n]; rfl
/-- The word of a place. -/
def wd (l : List (BitVec 8)) (t : Nat) : W6 := (sched l t).getD t 0
theorem getD_app (a b : List W6) (i : Nat) (h : i < a.length) : (a ++ b).getD i 0 = a.getD i 0 := by
  simp [List.getD_eq_getElem?_getD, List.getElem?_append_left h]
theorem getD_app_end (a : List W6) (x : W6) : (a ++ [x]).getD a.length 0 = x := by simp
theorem sched_get (l : List (BitVec 8)) (t : Nat) : ∀ n, t < 16 + n → (sched l n).getD t 0 = (sched l (t - 15)).getD t 0
  | 0, h => by
    have : t - 15 = 0 := by omega
    rw [this]
  | n + 1, h => by
    by_cases e : t < 16 + n
    · rw [← sched_get l t n e, sched, getD_app _ _ _ (by rw [sched_len]; exact e)]
    · have : t - 15 = n + 1 := by omega
      rw [this]
theorem wd_get (l : List (BitVec 8)) (t n : Nat) (h : t < 16 + n) : (sched l n).getD t 0 = wd l t := by
  rw [wd, sched_get l t n h, sched_get l t t (by omega)]
theorem wd_low (l : List (BitVec 8)) (t : Nat) (h : t < 16) : (words16 l).getD t 0 = wd l t := wd_get l t 0 h
theorem wd_next (l : List (BitVec 8)) (t : Nat) (h : 16 ≤ t) : wd l t = sR3 (wd l (t - 2)) 19 61 6 + wd l (t - 7) + sR3 (wd l (t - 15)) 1 8 7 + wd l (t - 16) := by
  obtain ⟨n, rfl⟩ := Nat.exists_eq_add_of_le h
  have e := getD_app_end (sched l n) (nextW (sched l n) (16 + n))
  rw [sched_len] at e
  rw [← wd_get l (16 + n) (n + 1) (by omega), sched, e, nextW, wd_get l _ n (by omega), wd_get l _ n (by omega), wd_get l _ n (by omega), wd_get l _ n (by omega)]
/-- So many rounds. -/
def rnds (l : List (BitVec 8)) (v : E8) : Nat → E8
  | 0 => v
  | t + 1 => rnd (rnds l v t) (kW t) (wd l t)
def blk8 (v : E8) (l : List (BitVec 8)) : E8 := v.add (rnds l v 80)
/-- The program's ring of words ahead of round t. -/
def ri (t j : Nat) : Nat := max t 16 - 1 - (max t 16 + 15 - j) % 16
def ring (l : List (BitVec 8)) (t : Nat) : List W6 := (List.range 16).map fun j => wd l (ri t j)
theorem ring_len (l : List (BitVec 8)) (t : Nat) : (ring l t).length = 16 := by simp [ring]
theorem ring_get (l : List (BitVec 8)) (t j : Nat) (h : j < 16) : (ring l t).getD j 0 = wd l (ri t j) := by simp [ring, h]
theorem ring_zero (l : List (BitVec 8)) : ring l 0 = words16 l := by
  apply List.ext_getElem
  · rw [ring_len, words16_len]
  · intro j h1 h2
    rw [ring_len] at h1
    have e := wd_low l j h1
    rw [List.getD_eq_getElem?_getD, List.getElem?_eq_getElem h2, Option.getD_some] at e
    rw [e]
    simp only [ring, List.getElem_map, List.getElem_range]
    have : ri 0 j = j := by unfold ri; omega
    rw [this]
theorem ring_low (l : List (BitVec 8)) (t : Nat) (h : t < 16) : ring l (t + 1) = ring l t := by
  have : ∀ j, ri (t + 1) j = ri t j := fun j => by unfold ri; rw [show max (t + 1) 16 = 16 by omega, show max t 16 = 16 by omega]
  simp only [ring, this]
theorem ring_next (l : List (BitVec 8)) (t : Nat) (h : 16 ≤ t) : ring l (t + 1) = (ring l t).set (t % 16) (wd l t) := by
  apply List.ext_getElem
  · rw [List.length_set, ring_len, ring_len]
  · intro j h1 h2
    rw [ring_len] at h1
    rw [List.getElem_set]
    simp only [ring, List.getElem_map, List.getElem_range]
    split
    · rename_i e
      subst e
      congr 1
      unfold ri
      omega
    · rename_i e
      congr 1
      unfold ri
      omega
theorem fill_step (l : List (BitVec 8)) (i : Nat) (h : i < 128) : (List.range 16).map (fun j => partW l j (min 8 (i + 1 - 8 * j))) =
    ((List.range 16).map (fun j => partW l j (min 8 (i - 8 * j)))).set (i / 8) (upB (((List.range 16).map (fun j => partW l j (min 8 (i - 8 * j)))).getD (i / 8) 0) (l.getD i 0)) := by
  apply List.ext_getElem
  · simp
  · intro j h1 h2
    simp only [List.length_map, List.length_range] at h1
    rw [List.getElem_set]
    have e0 : i / 8 < 16 := by omega
    simp only [List.getElem_map, List.getElem_range, List.getD_eq_getElem?_getD, List.getElem?_map, List.getElem?_range, e0, Option.map_some, Option.getD_some]
    split
    · rename_i e
      subst e
      have e1 : min 8 (i + 1 - 8 * (i / 8)) = min 8 (i - 8 * (i / 8)) + 1 := by omega
      rw [e1, partW_succ, List.getD_eq_getElem?_getD]
      congr 4
      omega
    · rename_i e
      congr 1
      omega
/-- The words ahead of byte i. -/
def filled (l : List (BitVec 8)) (i : Nat) : List W6 := (List.range 16).map fun j => partW l j (min 8 (i - 8 * j))
theorem filled_len (l : List (BitVec 8)) (i : Nat) : (filled l i).length = 16 := by simp [filled]
theorem filled_all (l : List (BitVec 8)) : filled l 128 = words16 l := by
  unfold filled words16
  apply List.map_congr_left
  intro j hj
  rw [List.mem_range] at hj
  congr 1
  omega
theorem filled_zero (l : List (BitVec 8)) : filled l 0 = List.replicate 16 0 := by
  unfold filled
  simp [partW, List.range, List.range.loop]
end Go.Proofs.YtlgiaglbdifkpaaDoor
/- SHA-512 of the program: one block. Own work. -/
namespace Go.Proofs.YtlgiaglbdifkpaaDoor
open Go.Ev Go.Sp Go.RowKit
set_option maxRecDepth 100000
def keyF : AV := .fn 54 [] []
def zN4 : N4 := ⟨0#64, 0#64, 0#64, 0#64⟩
def b1Td : List Nat := [1, 3, 4, 6, 8, 9, 10, 24, 25]
def b1Inv (a b : N4) (l : List (BitVec 8)) (w : List W6) (n i : Int) : St := ⟨slotsOf 174 [(1, sc (.sl 0 0 l.length)), (3, keyF), (4, sc (.ptr 1 0)), (6, sc (.ptr 2 0)), (8, sc (.ptr 3 0)), (9, sc (.ptr 4 0)), (10, sc (.i64 8)), (24, sc (.i64 n)), (25, sc (.i64 i))],
  [(0, ⟨false, [.v8 l.length l]⟩), (1, ⟨true, [.n4 a, .n4 b]⟩), (2, ⟨true, greatL⟩), (3, ⟨true, [.n4 zN4, .n4 zN4]⟩), (4, ⟨true, [.v64 16 w]⟩)], 16⟩
def b1W (l : List (BitVec 8)) (w : List W6) (i : Int) : List W6 := w.set (0 + (i.tdiv 8).toNat * 1) (upB (w.getD (0 + (i.tdiv 8).toNat * 1) 0#64) (l.getD (0 + i.toNat * 1) 0#8))
theorem b1Round (kk : Nat → W6) (a b : N4) (l : List (BitVec 8)) (w : List W6) (n i : Int) : roundS Tryd.prog (lookG (tblBl kk)) (orcA [(4, [(0, true)])]) [] 10 b1Td (bodyAt Tryd.prog 53 4) (b1Inv a b l w n i) =
    some (.normal, b1Inv a b l (b1W l w i) n (i + 1), [decide (i < n) = true, (8 : Int) ≠ (0 : Int), inI64 (i.tdiv (8 : Int)), (8 : Int) ≠ (0 : Int), inI64 (i.tdiv (8 : Int)), (0 : Int) ≤ i.tdiv (8 : Int), (i.tdiv (8 : Int)).toNat < 16, 0 + (i.tdiv (8 : Int)).toNat * 1 < 16, (0 : Int) ≤ i, i.toNat < l.length, 0 + i.toNat * 1 < l.length, (0 : Int) ≤ i.tdiv (8 : Int), (i.tdiv (8 : Int)).toNat < 16, 0 + (i.tdiv (8 : Int)).toNat * 1 < 16, inI64 (i + (1 : Int))]) := by kernel_rfl
theorem b1Exit (kk : Nat → W6) (a b : N4) (l : List (BitVec 8)) (w : List W6) (n i : Int) : roundS Tryd.prog (lookG (tblBl kk)) (orcA [(4, [(0, false)])]) [] 10 b1Td (bodyAt Tryd.prog 53 4) (b1Inv a b l w n i) = some (.exit 0, b1Inv a b l w n i, [decide (i < n) = false]) := by kernel_rfl
def b2Td : List Nat := [3, 4, 6, 8, 9, 12, 47, 48]
def b2Inv (v : E8) (w : List W6) (s : E8) (i : Int) : St := ⟨slotsOf 174 [(3, keyF), (4, sc (.ptr 0 0)), (6, sc (.ptr 1 0)), (8, sc (.ptr 2 0)), (9, sc (.ptr 3 0)), (12, sc (.ptr 4 0)), (47, sc (.i64 80)), (48, sc (.i64 i))],
  [(0, ⟨true, [.n4 v.lo, .n4 v.hi]⟩), (1, ⟨true, greatL⟩), (2, ⟨true, [.n4 zN4, .n4 zN4]⟩), (3, ⟨true, [.v64 16 w]⟩), (4, ⟨true, [.n4 s.lo, .n4 s.hi]⟩)], 16⟩
def b2At (w : List W6) (i : Int) : W6 := w.getD (0 + (i.tmod 16).toNat * 1) 0#64
def b2X (w : List W6) (i : Int) : W6 := b2At w i + (sR3 (b2At w (i + 1)) 1 8 7 + b2At w (i + 9) + sR3 (b2At w (i + 14)) 19 61 6)
theorem b2Low (kk : Nat → W6) (v : E8) (w : List W6) (s : E8) (i : Int) : resOf (roundS Tryd.prog (lookG (tblBl kk)) (orcA [(10, [(0, true)]), (13, [(1, false)])]) [] 10 b2Td (bodyAt Tryd.prog 53 10) (b2Inv v w s i)) =
    some (.normal, b2Inv v w (rnd s (kk i.toNat) (b2At w i)) (i + 1)) := by kernel_rfl
theorem b2High (kk : Nat → W6) (v : E8) (w : List W6) (s : E8) (i : Int) : resOf (roundS Tryd.prog (lookG (tblBl kk)) (orcA [(10, [(0, true)]), (13, [(1, true)])]) [] 10 b2Td (bodyAt Tryd.prog 53 10) (b2Inv v w s i)) =
    some (.normal, b2Inv v (w.set (0 + (i.tmod 16).toNat * 1) (b2X w i)) (rnd s (kk i.toNat) (b2X w i)) (i + 1)) := by kernel_rfl
theorem b2LowC (kk : Nat → W6) (v : E8) (w : List W6) (s : E8) (i : Int) : csOf (roundS Tryd.prog (lookG (tblBl kk)) (orcA [(10, [(0, true)]), (13, [(1, false)])]) [] 10 b2Td (bodyAt Tryd.prog 53 10) (b2Inv v w s i)) =
    [decide (i < (80 : Int)) = true, (16 : Int) ≠ (0 : Int), (0 : Int) ≤ i.tmod (16 : Int), (i.tmod (16 : Int)).toNat < 16, 0 + (i.tmod (16 : Int)).toNat * 1 < 16, decide ((15 : Int) < i) = false, (0 : Int) ≤ (0 : Int), 0 < 8, 0 < 8, (0 : Int) ≤ (4 : Int), 4 < 8, 4 < 8, (0 : Int) ≤ (7 : Int), 7 < 8, 7 < 8, (0 : Int) ≤ (14 : Int), (14 : Int) ≤ (64 : Int), (0 : Int) ≤ (18 : Int), (18 : Int) ≤ (64 : Int), (0 : Int) ≤ (41 : Int), (41 : Int) ≤ (64 : Int), (0 : Int) ≤ (5 : Int), 5 < 8, 5 < 8, (0 : Int) ≤ (6 : Int), 6 < 8, 6 < 8, (0 : Int) ≤ i, i < (80 : Int), (0 : Int) ≤ (28 : Int), (28 : Int) ≤ (64 : Int), (0 : Int) ≤ (34 : Int), (34 : Int) ≤ (64 : Int), (0 : Int) ≤ (39 : Int), (39 : Int) ≤ (64 : Int), (0 : Int) ≤ (1 : Int), 1 < 8, 1 < 8, (0 : Int) ≤ (2 : Int), 2 < 8, 2 < 8, (0 : Int) ≤ (1 : Int), 1 < 8, 1 < 8, (0 : Int) ≤ (2 : Int), 2 < 8, 2 < 8, (0 : Int) ≤ (1 : Int), 1 < 8, 1 < 8, (0 : Int) ≤ (2 : Int), 2 < 8, 2 < 8, (0 : Int) ≤ (3 : Int), 3 < 8, 3 < 8, (0 : Int) ≤ (5 : Int), 5 < 8, 5 < 8, (0 : Int) ≤ (6 : Int), 6 < 8, 6 < 8, inI64 (i + (1 : Int))] := by kernel_rfl
theorem b2HighC (kk : Nat → W6) (v : E8) (w : List W6) (s : E8) (i : Int) : csOf (roundS Tryd.prog (lookG (tblBl kk)) (orcA [(10, [(0, true)]), (13, [(1, true)])]) [] 10 b2Td (bodyAt Tryd.prog 53 10) (b2Inv v w s i)) =
    [decide (i < (80 : Int)) = true, (16 : Int) ≠ (0 : Int), (0 : Int) ≤ i.tmod (16 : Int), (i.tmod (16 : Int)).toNat < 16, 0 + (i.tmod (16 : Int)).toNat * 1 < 16, decide ((15 : Int) < i) = true, inI64 (i + (1 : Int)), (16 : Int) ≠ (0 : Int), (0 : Int) ≤ (i + (1 : Int)).tmod (16 : Int), ((i + (1 : Int)).tmod (16 : Int)).toNat < 16, 0 + ((i + (1 : Int)).tmod (16 : Int)).toNat * 1 < 16, (0 : Int) ≤ (1 : Int), (1 : Int) ≤ (64 : Int), (0 : Int) ≤ (8 : Int), (8 : Int) ≤ (64 : Int), (0 : Int) ≤ (7 : Int), inI64 (i + (9 : Int)), (16 : Int) ≠ (0 : Int), (0 : Int) ≤ (i + (9 : Int)).tmod (16 : Int), ((i + (9 : Int)).tmod (16 : Int)).toNat < 16, 0 + ((i + (9 : Int)).tmod (16 : Int)).toNat * 1 < 16, inI64 (i + (14 : Int)), (16 : Int) ≠ (0 : Int), (0 : Int) ≤ (i + (14 : Int)).tmod (16 : Int), ((i + (14 : Int)).tmod (16 : Int)).toNat < 16, 0 + ((i + (14 : Int)).tmod (16 : Int)).toNat * 1 < 16, (0 : Int) ≤ (19 : Int), (19 : Int) ≤ (64 : Int), (0 : Int) ≤ (61 : Int), (61 : Int) ≤ (64 : Int), (0 : Int) ≤ (6 : Int), (16 : Int) ≠ (0 : Int), (0 : Int) ≤ i.tmod (16 : Int), (i.tmod (16 : Int)).toNat < 16, 0 + (i.tmod (16 : Int)).toNat * 1 < 16, (0 : Int) ≤ (0 : Int), 0 < 8, 0 < 8, (0 : Int) ≤ (4 : Int), 4 < 8, 4 < 8, (0 : Int) ≤ (7 : Int), 7 < 8, 7 < 8, (0 : Int) ≤ (14 : Int), (14 : Int) ≤ (64 : Int), (0 : Int) ≤ (18 : Int), (18 : Int) ≤ (64 : Int), (0 : Int) ≤ (41 : Int), (41 : Int) ≤ (64 : Int), (0 : Int) ≤ (5 : Int), 5 < 8, 5 < 8, (0 : Int) ≤ (6 : Int), 6 < 8, 6 < 8, (0 : Int) ≤ i, i < (80 : Int), (0 : Int) ≤ (28 : Int), (28 : Int) ≤ (64 : Int), (0 : Int) ≤ (34 : Int), (34 : Int) ≤ (64 : Int), (0 : Int) ≤ (39 : Int), (39 : Int) ≤ (64 : Int), (0 : Int) ≤ (1 : Int), 1 < 8, 1 < 8, (0 : Int) ≤ (2 : Int), 2 < 8, 2 < 8, (0 : Int) ≤ (1 : Int), 1 < 8, 1 < 8, (0 : Int) ≤ (2 : Int), 2 < 8, 2 < 8, (0 : Int) ≤ (1 : Int), 1 < 8, 1 < 8, (0 : Int) ≤ (2 : Int), 2 < 8, 2 < 8, (0 : Int) ≤ (3 : Int), 3 < 8, 3 < 8, (0 : Int) ≤ (5 : Int), 5 < 8, 5 < 8, (0 : Int) ≤ (6 : Int), 6 < 8, 6 < 8, inI64 (i + (1 : Int))] := by kernel_rfl
theorem b2Exit (kk : Nat → W6) (v : E8) (w : List W6) (s : E8) (i : Int) : roundS Tryd.prog (lookG (tblBl kk)) (orcA [(10, [(0, false)])]) [] 10 b2Td (bodyAt Tryd.prog 53 10) (b2Inv v w s i) = some (.exit 2, b2Inv v w s i, [decide (i < (80 : Int)) = false]) := by kernel_rfl
theorem blkRes (kk : Nat → W6) (v s : E8) (l : List (BitVec 8)) (w w' : List W6) (n i : Int) : fnS Tryd.prog (lookG (tblBl kk)) orc0 [⟨4, b1Td, .exit 0, b1Inv v.lo v.hi l w n i⟩, ⟨10, b2Td, .exit 2, b2Inv v w' s 80⟩] 10 53 [.val true [.n4 v.lo, .n4 v.hi], sc (.d8 l), .val true greatL, keyF] =
    some (.val true [.n4 (v.add s).lo, .n4 (v.add s).hi], [LoopTo Tryd.prog (bodyAt Tryd.prog 53 4) (b1Inv v.lo v.hi l (List.replicate 16 0#64) l.length 0) (.exit 0) (b1Inv v.lo v.hi l w n i), LoopTo Tryd.prog (bodyAt Tryd.prog 53 10) (b2Inv v w v 0) (.exit 2) (b2Inv v w' s 80)]) := by kernel_rfl
end Go.Proofs.YtlgiaglbdifkpaaDoor
/- SHA-512 of the program: a block's contract. Own work. -/
namespace Go.Proofs.YtlgiaglbdifkpaaDoor
open Go.Ev Go.Sp Go.RowKit
set_option maxRecDepth 100000
theorem td8 (k : Nat) : ((k : Nat) : Int).tdiv 8 = ((k / 8 : Nat) : Int) := (Int.ofNat_tdiv k 8).symm
theorem tm16 (k : Nat) : ((k : Nat) : Int).tmod 16 = ((k % 16 : Nat) : Int) := (Int.ofNat_tmod k 16).symm
theorem b1Loop (v : E8) (l : List (BitVec 8)) (hl : l.length = 128) : LoopTo Tryd.prog (bodyAt Tryd.prog 53 4) (b1Inv v.lo v.hi l (List.replicate 16 0#64) l.length 0) (.exit 0) (b1Inv v.lo v.hi l (words16 l) l.length 128) := by
  have h0 := LoopTo.intro (P := Tryd.prog) (α := Nat) gsBl fol (c := bodyAt Tryd.prog 53 4) (e := .exit 0) (σ' := b1Inv v.lo v.hi l (words16 l) l.length 128) (fun k => b1Inv v.lo v.hi l (filled l k) l.length (k : Nat)) (fun k => k ≤ 128) (fun k => 128 - k) (by simp) ?_ 0 (by omega)
  · rw [filled_zero] at h0
    exact h0
  intro k hk
  by_cases he : k = 128
  · subst he
    refine .inr ⟨_, _, _, _, _, by rw [filled_all]; exact b1Exit kW v.lo v.hi l (words16 l) l.length 128, ?_⟩
    refine ⟨decide_eq_false (by omega), trivial⟩
  · have r0 := b1Round kW v.lo v.hi l (filled l k) l.length k
    have e : b1W l (filled l k) k = filled l (k + 1) := by
      unfold b1W
      rw [td8, Int.toNat_natCast, Int.toNat_natCast, Nat.zero_add, Nat.mul_one, Nat.zero_add, Nat.mul_one]
      exact (fill_step l k (by omega)).symm
    rw [e] at r0
    refine .inl ⟨_, _, _, _, _, k + 1, r0, ?_, by omega, by omega⟩
    clear r0 e
    rw [td8]
    simp only [AllP, inI64]
    and_intros <;> first | exact True.intro | exact decide_eq_true (by omega) | omega
theorem b2At_ring (l : List (BitVec 8)) (t j : Nat) (h : j % 16 < 16) : b2At (ring l t) ((j : Nat) : Int) = wd l (ri t (j % 16)) := by
  unfold b2At
  rw [tm16, Int.toNat_natCast, Nat.zero_add, Nat.mul_one]
  exact ring_get l t _ h
theorem b2X_ring (l : List (BitVec 8)) (t : Nat) (h : 16 ≤ t) : b2X (ring l t) ((t : Nat) : Int) = wd l t := by
  unfold b2X
  rw [show ((t : Nat) : Int) + 1 = ((t + 1 : Nat) : Int) by omega, show ((t : Nat) : Int) + 9 = ((t + 9 : Nat) : Int) by omega, show ((t : Nat) : Int) + 14 = ((t + 14 : Nat) : Int) by omega,
    b2At_ring l t t (by omega), b2At_ring l t _ (by omega), b2At_ring l t _ (by omega), b2At_ring l t _ (by omega)]
  have e0 : ri t (t % 16) = t - 16 := by unfold ri; omega
  have e1 : ri t ((t + 1) % 16) = t - 15 := by unfold ri; omega
  have e2 : ri t ((t + 9) % 16) = t - 7 := by unfold ri; omega
  have e3 : ri t ((t + 14) % 16) = t - 2 := by unfold ri; omega
  rw [e0, e1, e2, e3, wd_next l t h]
  generalize sR3 (wd l (t - 15)) 1 8 7 = p
  generalize sR3 (wd l (t - 2)) 19 61 6 = q
  generalize wd l (t - 7) = r
  generalize wd l (t - 16) = x
  ac_rfl
theorem castS (t : Nat) : ((t + 1 : Nat) : Int) = (t : Int) + 1 := by omega
theorem rnds_succ (l : List (BitVec 8)) (v : E8) (t : Nat) : rnds l v (t + 1) = rnd (rnds l v t) (kW t) (wd l t) := rfl
theorem b2Loop (v : E8) (l : List (BitVec 8)) : LoopTo Tryd.prog (bodyAt Tryd.prog 53 10) (b2Inv v (words16 l) v 0) (.exit 2) (b2Inv v (ring l 80) (rnds l v 80) 80) := by
  have h0 := LoopTo.intro (P := Tryd.prog) (α := Nat) gsBl fol (c := bodyAt Tryd.prog 53 10) (e := .exit 2) (σ' := b2Inv v (ring l 80) (rnds l v 80) 80) (fun t => b2Inv v (ring l t) (rnds l v t) (t : Nat)) (fun t => t ≤ 80) (fun t => 80 - t) (by simp) ?_ 0 (by omega)
  · rw [ring_zero] at h0
    exact h0
  intro t ht
  by_cases he : t = 80
  · subst he
    exact .inr ⟨_, _, _, _, _, b2Exit kW v (ring l 80) (rnds l v 80) 80, ⟨rfl, trivial⟩⟩
  · by_cases h16 : t < 16
    · have r1 := b2Low kW v (ring l t) (rnds l v t) (t : Nat)
      have r2 := b2LowC kW v (ring l t) (rnds l v t) (t : Nat)
      have e : b2At (ring l t) ((t : Nat) : Int) = wd l t := by
        rw [b2At_ring l t t (by omega), show ri t (t % 16) = t by unfold ri; omega]
      have q : b2Inv v (ring l t) (rnd (rnds l v t) (kW t) (wd l t)) ((t : Nat) + 1) = b2Inv v (ring l (t + 1)) (rnds l v (t + 1)) ((t + 1 : Nat) : Int) := by
        rw [ring_low l t h16, rnds_succ, castS]
      rw [e, Int.toNat_natCast, q] at r1
      refine .inl ⟨_, _, _, _, _, t + 1, parts_eq r1 r2, ?_, by omega, by omega⟩
      clear r1 r2 e q
      rw [tm16]
      simp only [AllP, inI64]
      and_intros <;> first | exact True.intro | exact decide_eq_true (by omega) | exact decide_eq_false (by omega) | omega
    · have r1 := b2High kW v (ring l t) (rnds l v t) (t : Nat)
      have r2 := b2HighC kW v (ring l t) (rnds l v t) (t : Nat)
      rw [b2X_ring l t (by omega), tm16, Int.toNat_natCast, Int.toNat_natCast, Nat.zero_add, Nat.mul_one, ← ring_next l t (by omega)] at r1
      have q : b2Inv v (ring l (t + 1)) (rnd (rnds l v t) (kW t) (wd l t)) ((t : Nat) + 1) = b2Inv v (ring l (t + 1)) (rnds l v (t + 1)) ((t + 1 : Nat) : Int) := by
        rw [rnds_succ, castS]
      rw [q] at r1
      refine .inl ⟨_, _, _, _, _, t + 1, parts_eq r1 r2, ?_, by omega, by omega⟩
      clear r1 r2 q
      rw [show ((t : Nat) : Int) + 1 = ((t + 1 : Nat) : Int) by omega, show ((t : Nat) : Int) + 9 = ((t + 9 : Nat) : Int) by omega, show ((t : Nat) : Int) + 14 = ((t + 14 : Nat) : Int) by omega, tm16, tm16, tm16, tm16]
      simp only [AllP, inI64]
      and_intros <;> first | exact True.intro | exact decide_eq_true (by omega) | exact decide_eq_false (by omega) | omega
def spBlkP : List AV → Option (AV × List Prop)
  | [.val true [.n4 x, .n4 y], .val false [.d8 l], .val true k, .fn f [] []] => some (.val true [.n4 (blk8 (E8.of x y) l).lo, .n4 (blk8 (E8.of x y) l).hi], [l.length = 128, k = greatL, f = 54])
  | _ => none
theorem ctBlkP : CtSOk Tryd.prog 53 (.fn spBlkP) := FnS_of_fnS gsBl fol fun ds r cs h hc => by
  unfold spBlkP at h
  split at h
  case h_2 => simp at h
  rename_i x y l k f
  simp only [Option.some.injEq, Prod.mk.injEq] at h
  obtain ⟨rfl, rfl⟩ := h
  obtain ⟨hl, rfl, rfl, _⟩ := hc
  exact use_run (blkRes kW (E8.of x y) (rnds l (E8.of x y) 80) l (words16 l) (ring l 80) l.length 128) rfl ⟨b1Loop _ l hl, b2Loop _ l, trivial⟩
end Go.Proofs.YtlgiaglbdifkpaaDoor
/- SHA-512 of the program: what stands behind the bytes; words told. Own work. -/
namespace Go.Proofs.YtlgiaglbdifkpaaDoor
open Go.Ev Go.Sp Go.RowKit
set_option maxRecDepth 100000
def p1Td : List Nat := [1, 2, 7]
def p1Inv (l : List (BitVec 8)) (k : Nat) (n : Int) : St := ⟨slotsOf 49 [(1, sc (.i64 n)), (2, sc (.i64 128)), (7, sc (.sl 0 0 k))], [(0, ⟨true, [.v8 l.length l]⟩)], 16⟩
theorem p1Round (l : List (BitVec 8)) (k : Nat) (n : Int) : roundS Tryd.prog (lookG []) (orcA [(2, [(8, true)])]) [] 10 p1Td (bodyAt Tryd.prog 52 2) (p1Inv l k n) =
    some (Ex.normal, St.mk (slotsOf 49 [(1, sc (IV.i64 n)), (2, sc (IV.i64 (128 : Int))), (7, sc (IV.sl 0 0 (k + 1)))]) [(0, Blk.mk true [IV.v8 (l ++ (List.replicate 1 (BitVec.ofNat 8 0)).set 0 (BitVec.ofNat 8 0)).length (l ++ (List.replicate 1 (BitVec.ofNat 8 0)).set 0 (BitVec.ofNat 8 0))])] 16, [(128 : Int) ≠ (0 : Int), (8 : Int) ≠ (0 : Int), inI64 (16 : Int), inI64 (112 : Int), (!(↑k : Int).tmod (128 : Int) == (112 : Int)) = true, 1 = 1, k = l.length, (k + 1) * 1 ≤ 140737488355328 ∧ k + 1 ≤ 9223372036854775807]) := by kernel_rfl
theorem p1Exit (l : List (BitVec 8)) (k : Nat) (n : Int) : roundS Tryd.prog (lookG []) (orcA [(2, [(8, false)])]) [] 10 p1Td (bodyAt Tryd.prog 52 2) (p1Inv l k n) =
    some (Ex.exit 0, St.mk (slotsOf 49 [(1, sc (IV.i64 n)), (2, sc (IV.i64 (128 : Int))), (7, sc (IV.sl 0 0 k))]) [(0, Blk.mk true [IV.v8 l.length l])] 16, [(128 : Int) ≠ (0 : Int), (8 : Int) ≠ (0 : Int), inI64 (16 : Int), inI64 (112 : Int), (!(↑k : Int).tmod (128 : Int) == (112 : Int)) = false]) := by kernel_rfl
theorem runPad (l m : List (BitVec 8)) (k : Nat) (n : Int) : fnS Tryd.prog (lookG []) (orcA [(7, [])]) [⟨2, p1Td, .exit 0, p1Inv m k n⟩] 10 52 [sc (.d8 l), sc (.i64 n), sc (.i64 128)] =
    some (sc (IV.d8 (cutL (m ++ List.replicate 8 (BitVec.ofNat 8 0) ++ (List.replicate 1 (BitVec.ofNat 8 0)).set 0 (BitVec.setWidth 8 ((BitVec.ofInt 64 n * BitVec.ofNat 64 8) >>> 56)) ++ (List.replicate 1 (BitVec.ofNat 8 0)).set 0 (BitVec.setWidth 8 ((BitVec.ofInt 64 n * BitVec.ofNat 64 8) >>> 48)) ++ (List.replicate 1 (BitVec.ofNat 8 0)).set 0 (BitVec.setWidth 8 ((BitVec.ofInt 64 n * BitVec.ofNat 64 8) >>> 40)) ++ (List.replicate 1 (BitVec.ofNat 8 0)).set 0 (BitVec.setWidth 8 ((BitVec.ofInt 64 n * BitVec.ofNat 64 8) >>> 32)) ++ (List.replicate 1 (BitVec.ofNat 8 0)).set 0 (BitVec.setWidth 8 ((BitVec.ofInt 64 n * BitVec.ofNat 64 8) >>> 24)) ++ (List.replicate 1 (BitVec.ofNat 8 0)).set 0 (BitVec.setWidth 8 ((BitVec.ofInt 64 n * BitVec.ofNat 64 8) >>> 16)) ++ (List.replicate 1 (BitVec.ofNat 8 0)).set 0 (BitVec.setWidth 8 ((BitVec.ofInt 64 n * BitVec.ofNat 64 8) >>> 8)) ++ (List.replicate 1 (BitVec.ofNat 8 0)).set 0 (BitVec.setWidth 8 ((BitVec.ofInt 64 n * BitVec.ofNat 64 8) >>> 0))) 0 (k + 8 + 1 + 1 + 1 + 1 + 1 + 1 + 1 + 1) (m ++ List.replicate 8 (BitVec.ofNat 8 0) ++ (List.replicate 1 (BitVec.ofNat 8 0)).set 0 (BitVec.setWidth 8 ((BitVec.ofInt 64 n * BitVec.ofNat 64 8) >>> 56)) ++ (List.replicate 1 (BitVec.ofNat 8 0)).set 0 (BitVec.setWidth 8 ((BitVec.ofInt 64 n * BitVec.ofNat 64 8) >>> 48)) ++ (List.replicate 1 (BitVec.ofNat 8 0)).set 0 (BitVec.setWidth 8 ((BitVec.ofInt 64 n * BitVec.ofNat 64 8) >>> 40)) ++ (List.replicate 1 (BitVec.ofNat 8 0)).set 0 (BitVec.setWidth 8 ((BitVec.ofInt 64 n * BitVec.ofNat 64 8) >>> 32)) ++ (List.replicate 1 (BitVec.ofNat 8 0)).set 0 (BitVec.setWidth 8 ((BitVec.ofInt 64 n * BitVec.ofNat 64 8) >>> 24)) ++ (List.replicate 1 (BitVec.ofNat 8 0)).set 0 (BitVec.setWidth 8 ((BitVec.ofInt 64 n * BitVec.ofNat 64 8) >>> 16)) ++ (List.replicate 1 (BitVec.ofNat 8 0)).set 0 (BitVec.setWidth 8 ((BitVec.ofInt 64 n * BitVec.ofNat 64 8) >>> 8)) ++ (List.replicate 1 (BitVec.ofNat 8 0)).set 0 (BitVec.setWidth 8 ((BitVec.ofInt 64 n * BitVec.ofNat 64 8) >>> 0))).length)), [l.length = l.length, 0 = 0, (0 + l.length) * 1 ≤ 140737488355328 ∧ 0 + l.length ≤ 9223372036854775807, 1 = 1, 0 + l.length = l.length, (0 + l.length + 1) * 1 ≤ 140737488355328 ∧ 0 + l.length + 1 ≤ 9223372036854775807, LoopTo Tryd.prog (bodyAt Tryd.prog 52 2) (St.mk (slotsOf 49 [(1, sc (IV.i64 n)), (2, sc (IV.i64 (128 : Int))), (7, sc (IV.sl 0 0 (0 + l.length + 1)))]) [(0, Blk.mk true [IV.v8 (l ++ (List.replicate 1 (BitVec.ofNat 8 0)).set 0 (BitVec.ofNat 8 128)).length (l ++ (List.replicate 1 (BitVec.ofNat 8 0)).set 0 (BitVec.ofNat 8 128))])] 16) (Ex.exit 0) (St.mk (slotsOf 49 [(1, sc (IV.i64 n)), (2, sc (IV.i64 (128 : Int))), (7, sc (IV.sl 0 0 k))]) [(0, Blk.mk true [IV.v8 m.length m])] 16), (8 : Int) ≠ (0 : Int), inI64 (16 : Int), inI64 (8 : Int), (0 : Int) ≤ (8 : Int), k = m.length, 0 < 8 ∧ (k + 8) * 1 ≤ 140737488355328 ∧ k + 8 ≤ 9223372036854775807, inI64 (0 : Int), inI64 (56 : Int), (0 : Int) ≤ (56 : Int), 1 = 1, k + 8 = (m ++ List.replicate 8 (BitVec.ofNat 8 0)).length, (k + 8 + 1) * 1 ≤ 140737488355328 ∧ k + 8 + 1 ≤ 9223372036854775807, inI64 (1 : Int), inI64 (8 : Int), inI64 (48 : Int), (0 : Int) ≤ (48 : Int), 1 = 1, k + 8 + 1 = (m ++ List.replicate 8 (BitVec.ofNat 8 0) ++ (List.replicate 1 (BitVec.ofNat 8 0)).set 0 (BitVec.setWidth 8 ((BitVec.ofInt 64 n * BitVec.ofNat 64 8) >>> 56))).length, (k + 8 + 1 + 1) * 1 ≤ 140737488355328 ∧ k + 8 + 1 + 1 ≤ 9223372036854775807, inI64 (2 : Int), inI64 (16 : Int), inI64 (40 : Int), (0 : Int) ≤ (40 : Int), 1 = 1, k + 8 + 1 + 1 = (m ++ List.replicate 8 (BitVec.ofNat 8 0) ++ (List.replicate 1 (BitVec.ofNat 8 0)).set 0 (BitVec.setWidth 8 ((BitVec.ofInt 64 n * BitVec.ofNat 64 8) >>> 56)) ++ (List.replicate 1 (BitVec.ofNat 8 0)).set 0 (BitVec.setWidth 8 ((BitVec.ofInt 64 n * BitVec.ofNat 64 8) >>> 48))).length, (k + 8 + 1 + 1 + 1) * 1 ≤ 140737488355328 ∧ k + 8 + 1 + 1 + 1 ≤ 9223372036854775807, inI64 (3 : Int), inI64 (24 : Int), inI64 (32 : Int), (0 : Int) ≤ (32 : Int), 1 = 1, k + 8 + 1 + 1 + 1 = (m ++ List.replicate 8 (BitVec.ofNat 8 0) ++ (List.replicate 1 (BitVec.ofNat 8 0)).set 0 (BitVec.setWidth 8 ((BitVec.ofInt 64 n * BitVec.ofNat 64 8) >>> 56)) ++ (List.replicate 1 (BitVec.ofNat 8 0)).set 0 (BitVec.setWidth 8 ((BitVec.ofInt 64 n * BitVec.ofNat 64 8) >>> 48)) ++ (List.replicate 1 (BitVec.ofNat 8 0)).set 0 (BitVec.setWidth 8 ((BitVec.ofInt 64 n * BitVec.ofNat 64 8) >>> 40))).length, (k + 8 + 1 + 1 + 1 + 1) * 1 ≤ 140737488355328 ∧ k + 8 + 1 + 1 + 1 + 1 ≤ 9223372036854775807, inI64 (4 : Int), inI64 (32 : Int), inI64 (24 : Int), (0 : Int) ≤ (24 : Int), 1 = 1, k + 8 + 1 + 1 + 1 + 1 = (m ++ List.replicate 8 (BitVec.ofNat 8 0) ++ (List.replicate 1 (BitVec.ofNat 8 0)).set 0 (BitVec.setWidth 8 ((BitVec.ofInt 64 n * BitVec.ofNat 64 8) >>> 56)) ++ (List.replicate 1 (BitVec.ofNat 8 0)).set 0 (BitVec.setWidth 8 ((BitVec.ofInt 64 n * BitVec.ofNat 64 8) >>> 48)) ++ (List.replicate 1 (BitVec.ofNat 8 0)).set 0 (BitVec.setWidth 8 ((BitVec.ofInt 64 n * BitVec.ofNat 64 8) >>> 40)) ++ (List.replicate 1 (BitVec.ofNat 8 0)).set 0 (BitVec.setWidth 8 ((BitVec.ofInt 64 n * BitVec.ofNat 64 8) >>> 32))).length, (k + 8 + 1 + 1 + 1 + 1 + 1) * 1 ≤ 140737488355328 ∧ k + 8 + 1 + 1 + 1 + 1 + 1 ≤ 9223372036854775807, inI64 (5 : Int), inI64 (40 : Int), inI64 (16 : Int), (0 : Int) ≤ (16 : Int), 1 = 1, k + 8 + 1 + 1 + 1 + 1 + 1 = (m ++ List.replicate 8 (BitVec.ofNat 8 0) ++ (List.replicate 1 (BitVec.ofNat 8 0)).set 0 (BitVec.setWidth 8 ((BitVec.ofInt 64 n * BitVec.ofNat 64 8) >>> 56)) ++ (List.replicate 1 (BitVec.ofNat 8 0)).set 0 (BitVec.setWidth 8 ((BitVec.ofInt 64 n * BitVec.ofNat 64 8) >>> 48)) ++ (List.replicate 1 (BitVec.ofNat 8 0)).set 0 (BitVec.setWidth 8 ((BitVec.ofInt 64 n * BitVec.ofNat 64 8) >>> 40)) ++ (List.replicate 1 (BitVec.ofNat 8 0)).set 0 (BitVec.setWidth 8 ((BitVec.ofInt 64 n * BitVec.ofNat 64 8) >>> 32)) ++ (List.replicate 1 (BitVec.ofNat 8 0)).set 0 (BitVec.setWidth 8 ((BitVec.ofInt 64 n * BitVec.ofNat 64 8) >>> 24))).length, (k + 8 + 1 + 1 + 1 + 1 + 1 + 1) * 1 ≤ 140737488355328 ∧ k + 8 + 1 + 1 + 1 + 1 + 1 + 1 ≤ 9223372036854775807, inI64 (6 : Int), inI64 (48 : Int), inI64 (8 : Int), (0 : Int) ≤ (8 : Int), 1 = 1, k + 8 + 1 + 1 + 1 + 1 + 1 + 1 = (m ++ List.replicate 8 (BitVec.ofNat 8 0) ++ (List.replicate 1 (BitVec.ofNat 8 0)).set 0 (BitVec.setWidth 8 ((BitVec.ofInt 64 n * BitVec.ofNat 64 8) >>> 56)) ++ (List.replicate 1 (BitVec.ofNat 8 0)).set 0 (BitVec.setWidth 8 ((BitVec.ofInt 64 n * BitVec.ofNat 64 8) >>> 48)) ++ (List.replicate 1 (BitVec.ofNat 8 0)).set 0 (BitVec.setWidth 8 ((BitVec.ofInt 64 n * BitVec.ofNat 64 8) >>> 40)) ++ (List.replicate 1 (BitVec.ofNat 8 0)).set 0 (BitVec.setWidth 8 ((BitVec.ofInt 64 n * BitVec.ofNat 64 8) >>> 32)) ++ (List.replicate 1 (BitVec.ofNat 8 0)).set 0 (BitVec.setWidth 8 ((BitVec.ofInt 64 n * BitVec.ofNat 64 8) >>> 24)) ++ (List.replicate 1 (BitVec.ofNat 8 0)).set 0 (BitVec.setWidth 8 ((BitVec.ofInt 64 n * BitVec.ofNat 64 8) >>> 16))).length, (k + 8 + 1 + 1 + 1 + 1 + 1 + 1 + 1) * 1 ≤ 140737488355328 ∧ k + 8 + 1 + 1 + 1 + 1 + 1 + 1 + 1 ≤ 9223372036854775807, inI64 (7 : Int), inI64 (56 : Int), inI64 (0 : Int), (0 : Int) ≤ (0 : Int), 1 = 1, k + 8 + 1 + 1 + 1 + 1 + 1 + 1 + 1 = (m ++ List.replicate 8 (BitVec.ofNat 8 0) ++ (List.replicate 1 (BitVec.ofNat 8 0)).set 0 (BitVec.setWidth 8 ((BitVec.ofInt 64 n * BitVec.ofNat 64 8) >>> 56)) ++ (List.replicate 1 (BitVec.ofNat 8 0)).set 0 (BitVec.setWidth 8 ((BitVec.ofInt 64 n * BitVec.ofNat 64 8) >>> 48)) ++ (List.replicate 1 (BitVec.ofNat 8 0)).set 0 (BitVec.setWidth 8 ((BitVec.ofInt 64 n * BitVec.ofNat 64 8) >>> 40)) ++ (List.replicate 1 (BitVec.ofNat 8 0)).set 0 (BitVec.setWidth 8 ((BitVec.ofInt 64 n * BitVec.ofNat 64 8) >>> 32)) ++ (List.replicate 1 (BitVec.ofNat 8 0)).set 0 (BitVec.setWidth 8 ((BitVec.ofInt 64 n * BitVec.ofNat 64 8) >>> 24)) ++ (List.replicate 1 (BitVec.ofNat 8 0)).set 0 (BitVec.setWidth 8 ((BitVec.ofInt 64 n * BitVec.ofNat 64 8) >>> 16)) ++ (List.replicate 1 (BitVec.ofNat 8 0)).set 0 (BitVec.setWidth 8 ((BitVec.ofInt 64 n * BitVec.ofNat 64 8) >>> 8))).length, (k + 8 + 1 + 1 + 1 + 1 + 1 + 1 + 1 + 1) * 1 ≤ 140737488355328 ∧ k + 8 + 1 + 1 + 1 + 1 + 1 + 1 + 1 + 1 ≤ 9223372036854775807, inI64 (8 : Int), 0 + (k + 8 + 1 + 1 + 1 + 1 + 1 + 1 + 1 + 1) ≤ (m ++ List.replicate 8 (BitVec.ofNat 8 0) ++ (List.replicate 1 (BitVec.ofNat 8 0)).set 0 (BitVec.setWidth 8 ((BitVec.ofInt 64 n * BitVec.ofNat 64 8) >>> 56)) ++ (List.replicate 1 (BitVec.ofNat 8 0)).set 0 (BitVec.setWidth 8 ((BitVec.ofInt 64 n * BitVec.ofNat 64 8) >>> 48)) ++ (List.replicate 1 (BitVec.ofNat 8 0)).set 0 (BitVec.setWidth 8 ((BitVec.ofInt 64 n * BitVec.ofNat 64 8) >>> 40)) ++ (List.replicate 1 (BitVec.ofNat 8 0)).set 0 (BitVec.setWidth 8 ((BitVec.ofInt 64 n * BitVec.ofNat 64 8) >>> 32)) ++ (List.replicate 1 (BitVec.ofNat 8 0)).set 0 (BitVec.setWidth 8 ((BitVec.ofInt 64 n * BitVec.ofNat 64 8) >>> 24)) ++ (List.replicate 1 (BitVec.ofNat 8 0)).set 0 (BitVec.setWidth 8 ((BitVec.ofInt 64 n * BitVec.ofNat 64 8) >>> 16)) ++ (List.replicate 1 (BitVec.ofNat 8 0)).set 0 (BitVec.setWidth 8 ((BitVec.ofInt 64 n * BitVec.ofNat 64 8) >>> 8)) ++ (List.replicate 1 (BitVec.ofNat 8 0)).set 0 (BitVec.setWidth 8 ((BitVec.ofInt 64 n * BitVec.ofNat 64 8) >>> 0))).length]) := by kernel_rfl
def lenB (x : W6) : List (BitVec 8) := (List.range 8).map fun i => (x >>> (56 - 8 * i)).setWidth 8
def toldP (v : E8) : List (BitVec 8) := v.list.flatMap lenB
theorem runToldH (v : E8) : fnS Tryd.prog (lookG []) orc0 [] 10 55 [.val true [.n4 v.lo, .n4 v.hi], sc (.i64 64)] = some (sc (.d8 (toldP v)), [0 + 64 ≤ 64]) := by kernel_rfl
def spToldP : List AV → Option (AV × List Prop)
  | [.val true [.n4 x, .n4 y], .val false [.i64 64]] => some (sc (.d8 (toldP (E8.of x y))), [])
  | _ => none
theorem ctToldP : CtSOk Tryd.prog 55 (.fn spToldP) := FnS_of_fnS gs0 fol fun ds r cs h hc => by
  unfold spToldP at h
  split at h
  case h_2 => simp at h
  rename_i x y
  simp only [Option.some.injEq, Prod.mk.injEq] at h
  obtain ⟨rfl, rfl⟩ := h
  exact use_run (runToldH (E8.of x y)) rfl ⟨by omega, trivial⟩
/-- As many noughts as there must be. -/
def zN (k : Nat) : Nat := (240 - k % 128) % 128
def padZ (l : List (BitVec 8)) : List (BitVec 8) := l ++ List.replicate (zN l.length) 0
def padP (l : List (BitVec 8)) : List (BitVec 8) := padZ (l ++ [128#8]) ++ List.replicate 8 0#8 ++ lenB (BitVec.ofNat 64 l.length * 8#64)
theorem padZ_len (l : List (BitVec 8)) : (padZ l).length = l.length + zN l.length := by simp [padZ]
theorem padP_len (l : List (BitVec 8)) : (padP l).length % 128 = 0 := by
  simp only [padP, padZ_len, List.length_append, List.length_replicate, lenB, List.length_map, List.length_range, List.length_cons, List.length_nil, zN]
  omega
theorem padP_lt (l : List (BitVec 8)) : (padP l).length < l.length + 200 := by
  simp only [padP, padZ_len, List.length_append, List.length_replicate, lenB, List.length_map, List.length_range, List.length_cons, List.length_nil, zN]
  omega
theorem padZ_end (l : List (BitVec 8)) (h : l.length % 128 = 112) : padZ l = l := by
  have : zN l.length = 0 := by unfold zN; omega
  rw [padZ, this, List.replicate_zero, List.append_nil]
theorem padZ_step (l : List (BitVec 8)) (h : l.length % 128 ≠ 112) : padZ (l ++ [0#8]) = padZ l := by
  have : zN l.length = zN (l.length + 1) + 1 := by unfold zN; omega
  rw [padZ, padZ, List.length_append, List.length_cons, List.length_nil, this, List.append_assoc]
  congr 1
theorem tm128 (k : Nat) : ((k : Nat) : Int).tmod 128 = ((k % 128 : Nat) : Int) := (Int.ofNat_tmod k 128).symm
theorem p1Loop (n : Int) (l : List (BitVec 8)) (hl : l.length ≤ 1000000) : LoopTo Tryd.prog (bodyAt Tryd.prog 52 2) (p1Inv l l.length n) (.exit 0) (p1Inv (padZ l) (padZ l).length n) := by
  refine LoopTo.intro (P := Tryd.prog) (α := List (BitVec 8)) gs0 fol (fun m => p1Inv m m.length n) (fun m => m.length + zN m.length ≤ 1000200 ∧ padZ m = padZ l) (fun m => zN m.length) (by simp) ?_ l ⟨by unfold zN; omega, rfl⟩
  rintro m ⟨hm, he⟩
  by_cases h : m.length % 128 = 112
  · have r0 := p1Exit m m.length n
    rw [← he, padZ_end m h]
    refine .inr ⟨_, _, _, _, _, r0, ?_⟩
    clear r0
    rw [tm128, h]
    simp only [AllP, inI64]
    and_intros <;> first | exact True.intro | rfl | omega
  · have r0 := p1Round m m.length n
    have q : p1Inv (m ++ [0#8]) (m.length + 1) n = p1Inv (m ++ [0#8]) (m ++ [0#8]).length n := by rw [List.length_append]; rfl
    have r1 := r0.trans (congrArg (fun x => some (Ex.normal, x, _)) q)
    have hz : zN (m ++ [0#8]).length < zN m.length := by rw [List.length_append, List.length_cons, List.length_nil]; unfold zN; omega
    refine .inl ⟨_, _, _, _, _, m ++ [0#8], r1, ?_, ⟨?_, by rw [padZ_step m h, he]⟩, hz⟩
    · clear r0 r1 q
      have h2 : (!((m.length : Int)).tmod (128 : Int) == (112 : Int)) = true := by
        rw [tm128, Bool.not_eq_true', beq_eq_false_iff_ne]
        omega
      simp only [AllP, inI64]
      and_intros <;> first | exact True.intro | exact h2 | rfl | omega
    · rw [List.length_append, List.length_cons, List.length_nil] at hz ⊢
      unfold zN at hm hz ⊢
      omega
def spPad : List AV → Option (AV × List Prop)
  | [.val false [.d8 l], .val false [.i64 n], .val false [.i64 128]] => some (sc (.d8 (padP l)), [n = l.length, l.length ≤ 100000])
  | _ => none
theorem ctPad : CtSOk Tryd.prog 52 (.fn spPad) := FnS_of_fnS gs0 fol fun ds r cs h hc => by
  unfold spPad at h
  split at h
  case h_2 => simp at h
  rename_i l n
  simp only [Option.some.injEq, Prod.mk.injEq] at h
  obtain ⟨rfl, rfl⟩ := h
  obtain ⟨rfl, hl, _⟩ := hc
  have hm := padZ_len (l ++ [128#8])
  have hlo := p1Loop (l.length : Int) (l ++ [128#8]) (by simp; omega)
  have hz : zN (l ++ [128#8]).length < 128 := by unfold zN; omega
  rw [List.length_append, List.length_cons, List.length_nil] at hm hz
  obtain ⟨m, hM⟩ : ∃ m, padZ (l ++ [128#8]) = m := ⟨_, rfl⟩
  rw [hM] at hm hlo
  refine use_run (runPad l m m.length l.length) ?_ ?_
  · rw [padP, hM, cutL_eq rfl, List.drop_zero]
    refine congrArg (fun x => sc (IV.d8 x)) ((List.take_of_length_le (by simp)).trans ?_)
    simp only [List.append_assoc]
    rfl
  · have e0 : (0 + l.length + 1) = (l ++ [128#8]).length := by simp
    simp only [AllP]
    have hL : LoopTo Tryd.prog (bodyAt Tryd.prog 52 2) (p1Inv (l ++ [128#8]) (0 + l.length + 1) l.length) (.exit 0) (p1Inv m m.length l.length) := by rw [e0]; exact hlo
    clear hlo e0
    and_intros <;> first | exact True.intro | exact hL | with_reducible rfl | omega | (unfold inI64; omega) | (simp only [List.length_append, List.length_replicate, List.length_set] <;> omega)
end Go.Proofs.YtlgiaglbdifkpaaDoor
/- SHA-512 of the program: its contract. Own work. -/
namespace Go.Proofs.YtlgiaglbdifkpaaDoor
open Go.Ev Go.Sp Go.RowKit
set_option maxRecDepth 100000
def fst8 : E8 := ⟨0x6a09e667f3bcc908#64, 0xbb67ae8584caa73b#64, 0x3c6ef372fe94f82b#64, 0xa54ff53a5f1d36f1#64, 0x510e527fade682d1#64, 0x9b05688c2b3e6c1f#64, 0x1f83d9abfb41bd6b#64, 0x5be0cd19137e2179#64⟩
theorem runFst : fnS Tryd.prog (lookG []) (orcA []) [] 10 51 [] = some (.val true [.n4 fst8.lo, .n4 fst8.hi], []) := by kernel_rfl
def spFst : List AV → Option (AV × List Prop)
  | [] => some (.val true [.n4 fst8.lo, .n4 fst8.hi], [])
  | _ => none
theorem ctFst : CtSOk Tryd.prog 51 (.fn spFst) := FnS_of_fnS gs0 fol fun ds r cs h hc => by
  unfold spFst at h
  split at h
  case h_2 => simp at h
  simp only [Option.some.injEq, Prod.mk.injEq] at h
  obtain ⟨rfl, rfl⟩ := h
  exact use_run runFst rfl trivial
/-- A block's words by whatever function, bytes with their end, words told. -/
def spBlkG (B : E8 → List (BitVec 8) → E8) : List AV → Option (AV × List Prop)
  | [.val true [.n4 x, .n4 y], .val false [.d8 l], .val true k, .fn f [] []] => some (.val true [.n4 (B (E8.of x y) l).lo, .n4 (B (E8.of x y) l).hi], [l.length = 128, k = greatL, f = 54])
  | _ => none
def spPadG (p : List (BitVec 8) → List (BitVec 8)) : List AV → Option (AV × List Prop)
  | [.val false [.d8 l], .val false [.i64 n], .val false [.i64 128]] => some (sc (.d8 (p l)), [n = l.length, l.length ≤ 100000])
  | _ => none
def spToldG (t : E8 → List (BitVec 8)) : List AV → Option (AV × List Prop)
  | [.val true [.n4 x, .n4 y], .val false [.i64 64]] => some (sc (.d8 (t (E8.of x y))), [])
  | _ => none
def tblSh0 : List (FuncId × CtS) := [(51, .fn spFst)]
theorem okSh0 : TblOk Tryd.prog tblSh0 := ⟨⟨ctFst, by kernel_rfl⟩, trivial⟩
theorem gsSh0 : GSound Tryd.prog (upG (lookG tblSh0)) := GSound_of_tbl okSh0
def tblSh (B : E8 → List (BitVec 8) → E8) (p : List (BitVec 8) → List (BitVec 8)) (t : E8 → List (BitVec 8)) : List (FuncId × CtS) :=
  (53, .fn (spBlkG B)) :: (52, .fn (spPadG p)) :: (55, .fn (spToldG t)) :: tblSh0
theorem ctBlkP' : CtSOk Tryd.prog 53 (.fn (spBlkG blk8)) := ctBlkP
theorem ctPad' : CtSOk Tryd.prog 52 (.fn (spPadG padP)) := ctPad
theorem ctToldP' : CtSOk Tryd.prog 55 (.fn (spToldG toldP)) := ctToldP
theorem gsSh : GSound Tryd.prog (upG (lookG (tblSh blk8 padP toldP))) := GSound_of_tbl ⟨⟨ctBlkP', by kernel_rfl⟩, ⟨ctPad', by kernel_rfl⟩, ⟨ctToldP', by kernel_rfl⟩, okSh0⟩
def smTd : List Nat := [3, 4]
def smInv (v : E8) (q : List (BitVec 8)) (o k : Nat) : St := ⟨slotsOf 22 [(3, sc (.ptr 0 0)), (4, sc (.sl 1 o k))], [(0, ⟨true, [.n4 v.lo, .n4 v.hi]⟩), (1, ⟨true, [.v8 q.length q]⟩)], 16⟩
theorem smRound (B : E8 → List (BitVec 8) → E8) (p : List (BitVec 8) → List (BitVec 8)) (t : E8 → List (BitVec 8)) (v : E8) (q : List (BitVec 8)) (o k : Nat) : roundS Tryd.prog (lookG (tblSh B p t)) (orcP [(3, [(2, true)])] [(5, [4])]) [] 10 smTd (bodyAt Tryd.prog 25 3) (smInv v q o k) =
    some (Ex.normal, St.mk (slotsOf 22 [(3, sc (IV.ptr 0 0)), (4, sc (IV.sl 1 (o + 128) (k - 128)))]) [(0, Blk.mk true [IV.n4 (B (E8.of v.lo v.hi) (cutL q (o + 0) 128 q.length)).lo, IV.n4 (B (E8.of v.lo v.hi) (cutL q (o + 0) 128 q.length)).hi]), (1, Blk.mk true [IV.v8 q.length q])] 16, [decide ((0 : Int) < (↑k : Int)) = true, (0 : Int) ≤ (128 : Int), 0 ≤ 128, 128 ≤ k, o + 0 + 128 ≤ q.length, (cutL q (o + 0) 128 q.length).length = 128, [IV.i64 (64 : Int), IV.i64 (80 : Int), IV.vi 3 [(28 : Int), (34 : Int), (39 : Int)], IV.vi 3 [(14 : Int), (18 : Int), (41 : Int)], IV.vi 3 [(1 : Int), (8 : Int), (7 : Int)], IV.vi 3 [(19 : Int), (61 : Int), (6 : Int)]] = [IV.i64 (64 : Int), IV.i64 (80 : Int), IV.vi 3 [(28 : Int), (34 : Int), (39 : Int)], IV.vi 3 [(14 : Int), (18 : Int), (41 : Int)], IV.vi 3 [(1 : Int), (8 : Int), (7 : Int)], IV.vi 3 [(19 : Int), (61 : Int), (6 : Int)]], 54 = 54, (0 : Int) ≤ (128 : Int), 128 ≤ k, k ≤ k]) := by kernel_rfl
theorem smExit (B : E8 → List (BitVec 8) → E8) (p : List (BitVec 8) → List (BitVec 8)) (t : E8 → List (BitVec 8)) (v : E8) (q : List (BitVec 8)) (o k : Nat) : roundS Tryd.prog (lookG (tblSh B p t)) (orcA [(3, [(2, false)])]) [] 10 smTd (bodyAt Tryd.prog 25 3) (smInv v q o k) =
    some (Ex.exit 0, St.mk (slotsOf 22 [(3, sc (IV.ptr 0 0)), (4, sc (IV.sl 1 o k))]) [(0, Blk.mk true [IV.n4 v.lo, IV.n4 v.hi]), (1, Blk.mk true [IV.v8 q.length q])] 16, [decide ((0 : Int) < (↑k : Int)) = false]) := by kernel_rfl
theorem runSumH (B : E8 → List (BitVec 8) → E8) (p : List (BitVec 8) → List (BitVec 8)) (t : E8 → List (BitVec 8)) (v : E8) (l q : List (BitVec 8)) (o k : Nat) : fnS Tryd.prog (lookG (tblSh B p t)) (orcA []) [⟨3, smTd, .exit 0, smInv v q o k⟩] 10 25 [sc (.d8 l)] =
    some (sc (IV.d8 (cutL (t (E8.of v.lo v.hi)) 0 (t (E8.of v.lo v.hi)).length (t (E8.of v.lo v.hi)).length)), [l.length = l.length, (↑l.length : Int) = (↑l.length : Int), l.length ≤ 100000, LoopTo Tryd.prog (bodyAt Tryd.prog 25 3) (St.mk (slotsOf 22 [(3, sc (IV.ptr 0 0)), (4, sc (IV.sl 1 0 (p l).length))]) [(0, Blk.mk true [IV.n4 fst8.lo, IV.n4 fst8.hi]), (1, Blk.mk true [IV.v8 (p l).length (p l)])] 16) (Ex.exit 0) (St.mk (slotsOf 22 [(3, sc (IV.ptr 0 0)), (4, sc (IV.sl 1 o k))]) [(0, Blk.mk true [IV.n4 v.lo, IV.n4 v.hi]), (1, Blk.mk true [IV.v8 q.length q])] 16), 0 + (t (E8.of v.lo v.hi)).length ≤ (t (E8.of v.lo v.hi)).length]) := by kernel_rfl
/-- So many blocks. -/
def sumH (v : E8) (q : List (BitVec 8)) : Nat → E8
  | 0 => v
  | j + 1 => blk8 (sumH v q j) ((q.drop (128 * j)).take 128)
def shaL (l : List (BitVec 8)) : List (BitVec 8) := toldP (sumH fst8 (padP l) ((padP l).length / 128))
theorem E8_of (v : E8) : E8.of v.lo v.hi = v := rfl
theorem smLoop (q : List (BitVec 8)) (hq : q.length % 128 = 0) : LoopTo Tryd.prog (bodyAt Tryd.prog 25 3) (smInv fst8 q 0 q.length) (.exit 0) (smInv (sumH fst8 q (q.length / 128)) q q.length 0) := by
  have h0 := LoopTo.intro (P := Tryd.prog) (α := Nat) gsSh fol (c := bodyAt Tryd.prog 25 3) (e := .exit 0) (σ' := smInv (sumH fst8 q (q.length / 128)) q q.length 0) (fun j => smInv (sumH fst8 q j) q (128 * j) (q.length - 128 * j)) (fun j => j ≤ q.length / 128) (fun j => q.length / 128 - j) (by simp) ?_ 0 (by omega)
  · rw [Nat.mul_zero, Nat.sub_zero] at h0
    exact h0
  intro j hj
  by_cases he : j = q.length / 128
  · have e1 : 128 * j = q.length := by omega
    have r0 := smExit blk8 padP toldP (sumH fst8 q j) q q.length 0
    rw [e1, Nat.sub_self]
    rw [he] at r0 ⊢
    exact .inr ⟨_, _, _, _, _, r0, ⟨by decide, trivial⟩⟩
  · have r0 := smRound blk8 padP toldP (sumH fst8 q j) q (128 * j) (q.length - 128 * j)
    rw [E8_of, cutL_eq rfl, Nat.add_zero] at r0
    have q1 : smInv (blk8 (sumH fst8 q j) ((q.drop (128 * j)).take 128)) q (128 * j + 128) (q.length - 128 * j - 128) = smInv (sumH fst8 q (j + 1)) q (128 * (j + 1)) (q.length - 128 * (j + 1)) := by
      rw [sumH, show 128 * (j + 1) = 128 * j + 128 by omega, Nat.sub_sub]
    have r1 := r0.trans (congrArg (fun x => some (Ex.normal, x, _)) q1)
    refine .inl ⟨_, _, _, _, _, j + 1, r1, ?_, by omega, by omega⟩
    clear r0 r1 q1
    simp only [AllP]
    and_intros <;> first | exact True.intro | with_reducible rfl | omega | exact decide_eq_true (by omega) | (simp; omega)
def spSha : List AV → Option (AV × List Prop)
  | [.val false [.d8 l]] => some (sc (.d8 (shaL l)), [l.length ≤ 100000])
  | _ => none
theorem ctSha : CtSOk Tryd.prog 25 (.fn spSha) := FnS_of_fnS gsSh fol fun ds r cs h hc => by
  unfold spSha at h
  split at h
  case h_2 => simp at h
  rename_i l
  simp only [Option.some.injEq, Prod.mk.injEq] at h
  obtain ⟨rfl, rfl⟩ := h
  obtain ⟨hl, _⟩ := hc
  refine use_run (runSumH blk8 padP toldP (sumH fst8 (padP l) ((padP l).length / 128)) l (padP l) (padP l).length 0) ?_ ⟨rfl, rfl, hl, smLoop (padP l) (padP_len l), by omega, trivial⟩
  rw [E8_of, cutL_eq rfl, List.drop_zero, List.take_of_length_le (Nat.le_refl _)]
  rfl
end Go.Proofs.YtlgiaglbdifkpaaDoor
