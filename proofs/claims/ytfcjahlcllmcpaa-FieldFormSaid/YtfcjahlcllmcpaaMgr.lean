/- Texts put together: FdQ FdN FdO FdK. Own work. -/
import Derived.Test.YtfcjahlcllmcpaaMgq
import Derived.Test.YtfcjahlcllmcpaaRows
/- Contracts of the program's field: roots, inverses, bytes. Own work. -/
namespace Go.Proofs.Ytfcjahlcllmcpaa
open Go.Ev Go.Sp Go.RowKit
set_option maxRecDepth 100000
/-- Powers by whatever function: no big power is to be evaluated. -/
def spPwG (f : Nat → Nat → Nat) : List AV → Option (AV × List Prop)
  | [.val true [.n4 a], .val true [.n4 e]] => some (.val true [.n4 (ofN (f (val a % Pp) (val e)))], [])
  | _ => none
theorem spPwG_pw : spPwG pw = spPPow := rfl
def tblP4 (f : Nat → Nat → Nat) : List (FuncId × CtS) := (18, .fn (spPwG f)) :: tblP3
theorem gsP4 : GSound Try.prog (upG (lookG (tblP4 pw))) := GSound_of_tbl ⟨⟨ctPPow, by kernel_rfl⟩, ⟨ctPAdd, by kernel_rfl⟩, ⟨ctPNeg, by kernel_rfl⟩, ⟨ctPMul, by kernel_rfl⟩, ⟨ctRed, by kernel_rfl⟩, ⟨ctRight, by kernel_rfl⟩, ⟨ctFPrime, by kernel_rfl⟩, okW3⟩
theorem runPInv (f : Nat → Nat → Nat) (a : N4) : fnS Try.prog (lookG (tblP4 f)) orc0 [] 10 26 [.val true [.n4 a]] =
    some (AV.val true [IV.n4 (ofN (f (val a % Pp) 57896044618658097711785492504343953926634992332820282019728792003956564819947))], []) := by kernel_rfl
theorem runPRt0 (f : Nat → Nat → Nat) (a : N4) : fnS Try.prog (lookG (tblP4 f)) (orcA [(5, [(4, false)]), (7, [(4, false)])]) [] 10 21 [.val true [.n4 a]] =
    some (AV.tup [(true, [IV.n4 (if (ofN (f (val (ofN (val a % Pp)) % Pp) 7237005577332262213973186563042994240829374041602535252466099000494570602494)).get 0 &&& BitVec.ofNat 64 1 = BitVec.ofNat 64 0 then ofN (f (val (ofN (val a % Pp)) % Pp) 7237005577332262213973186563042994240829374041602535252466099000494570602494) else ofN (fNeg (val (ofN (f (val (ofN (val a % Pp)) % Pp) 7237005577332262213973186563042994240829374041602535252466099000494570602494)) % Pp)))]), (false, [IV.bool true])], [(!((ofN (fMul (val (ofN (f (val (ofN (val a % Pp)) % Pp) 7237005577332262213973186563042994240829374041602535252466099000494570602494)) % Pp) (val (ofN (f (val (ofN (val a % Pp)) % Pp) 7237005577332262213973186563042994240829374041602535252466099000494570602494)) % Pp))).eq (ofN (val a % Pp)) && true)) = false, (!((ofN (fMul (val (ofN (f (val (ofN (val a % Pp)) % Pp) 7237005577332262213973186563042994240829374041602535252466099000494570602494)) % Pp) (val (ofN (f (val (ofN (val a % Pp)) % Pp) 7237005577332262213973186563042994240829374041602535252466099000494570602494)) % Pp))).eq (ofN (val a % Pp)) && true)) = false, (0 : Int) ≤ (0 : Int), 0 < 4, 0 < 4]) := by kernel_rfl
theorem runPRt1 (f : Nat → Nat → Nat) (a : N4) : fnS Try.prog (lookG (tblP4 f)) (orcA [(5, [(4, true)]), (7, [(4, false)])]) [] 10 21 [.val true [.n4 a]] =
    some (AV.tup [(true, [IV.n4 (if (ofN (fMul (val (ofN (f (val (ofN (val a % Pp)) % Pp) 7237005577332262213973186563042994240829374041602535252466099000494570602494)) % Pp) (val (ofN (f 2 14474011154664524427946373126085988481658748083205070504932198000989141204987)) % Pp))).get 0 &&& BitVec.ofNat 64 1 = BitVec.ofNat 64 0 then ofN (fMul (val (ofN (f (val (ofN (val a % Pp)) % Pp) 7237005577332262213973186563042994240829374041602535252466099000494570602494)) % Pp) (val (ofN (f 2 14474011154664524427946373126085988481658748083205070504932198000989141204987)) % Pp)) else ofN (fNeg (val (ofN (fMul (val (ofN (f (val (ofN (val a % Pp)) % Pp) 7237005577332262213973186563042994240829374041602535252466099000494570602494)) % Pp) (val (ofN (f 2 14474011154664524427946373126085988481658748083205070504932198000989141204987)) % Pp))) % Pp)))]), (false, [IV.bool true])], [(!((ofN (fMul (val (ofN (f (val (ofN (val a % Pp)) % Pp) 7237005577332262213973186563042994240829374041602535252466099000494570602494)) % Pp) (val (ofN (f (val (ofN (val a % Pp)) % Pp) 7237005577332262213973186563042994240829374041602535252466099000494570602494)) % Pp))).eq (ofN (val a % Pp)) && true)) = true, (!((ofN (fMul (val (ofN (fMul (val (ofN (f (val (ofN (val a % Pp)) % Pp) 7237005577332262213973186563042994240829374041602535252466099000494570602494)) % Pp) (val (ofN (f 2 14474011154664524427946373126085988481658748083205070504932198000989141204987)) % Pp))) % Pp) (val (ofN (fMul (val (ofN (f (val (ofN (val a % Pp)) % Pp) 7237005577332262213973186563042994240829374041602535252466099000494570602494)) % Pp) (val (ofN (f 2 14474011154664524427946373126085988481658748083205070504932198000989141204987)) % Pp))) % Pp))).eq (ofN (val a % Pp)) && true)) = false, (0 : Int) ≤ (0 : Int), 0 < 4, 0 < 4]) := by kernel_rfl
theorem runPRtN (f : Nat → Nat → Nat) (a : N4) : fnS Try.prog (lookG (tblP4 f)) (orcA [(5, [(4, true)]), (7, [(4, true)])]) [] 10 21 [.val true [.n4 a]] =
    some (AV.tup [(true, [IV.n4 (N4.mk (BitVec.ofNat 64 0) (BitVec.ofNat 64 0) (BitVec.ofNat 64 0) (BitVec.ofNat 64 0))]), (false, [IV.bool false])], [(!((ofN (fMul (val (ofN (f (val (ofN (val a % Pp)) % Pp) 7237005577332262213973186563042994240829374041602535252466099000494570602494)) % Pp) (val (ofN (f (val (ofN (val a % Pp)) % Pp) 7237005577332262213973186563042994240829374041602535252466099000494570602494)) % Pp))).eq (ofN (val a % Pp)) && true)) = true, (!((ofN (fMul (val (ofN (fMul (val (ofN (f (val (ofN (val a % Pp)) % Pp) 7237005577332262213973186563042994240829374041602535252466099000494570602494)) % Pp) (val (ofN (f 2 14474011154664524427946373126085988481658748083205070504932198000989141204987)) % Pp))) % Pp) (val (ofN (fMul (val (ofN (f (val (ofN (val a % Pp)) % Pp) 7237005577332262213973186563042994240829374041602535252466099000494570602494)) % Pp) (val (ofN (f 2 14474011154664524427946373126085988481658748083205070504932198000989141204987)) % Pp))) % Pp))).eq (ofN (val a % Pp)) && true)) = true]) := by kernel_rfl
theorem eq_N4 (a b : N4) : (a.eq b && true) = (val a == val b) := by
  rw [Bool.and_true]
  by_cases h : a = b
  · subst h; unfold N4.eq; simp
  · have h1 : ¬ val a = val b := fun e => h (val_inj e)
    rw [beq_eq_false_iff_ne.2 h1]
    cases hc : N4.eq a b with
    | false => rfl
    | true =>
      unfold N4.eq at hc
      simp only [Bool.and_eq_true, beq_iff_eq] at hc
      exact absurd (N4_ext hc.1 hc.2.1 hc.2.2.1 hc.2.2.2) h
theorem val_lo {x : Nat} (h : x < Pp) : val (ofN x) = x := by rw [val_ofN, Nat.mod_eq_of_lt (lt256 h)]
theorem odd_get (x : Nat) : ((ofN x).get 0 &&& BitVec.ofNat 64 1 = BitVec.ofNat 64 0) = (x % 2 = 0) := by
  show (BitVec.ofNat 64 x &&& BitVec.ofNat 64 1 = BitVec.ofNat 64 0) = _
  apply propext
  rw [← BitVec.toNat_inj]
  simp only [BitVec.toNat_and, BitVec.toNat_ofNat]
  rw [show (1 : Nat) % 2 ^ 64 = 1 by decide, Nat.and_one_is_mod]
  simp only [Nat.zero_mod]
  omega
theorem even_if (x : Nat) : (if (ofN x).get 0 &&& BitVec.ofNat 64 1 = BitVec.ofNat 64 0 then ofN x else ofN (fNeg x)) = ofN (if x % 2 = 0 then x else fNeg x) := by
  by_cases h : x % 2 = 0
  · rw [if_pos h, if_pos ((odd_get x).mpr h)]
  · rw [if_neg h, if_neg fun e => h ((odd_get x).mp e)]
theorem ctPInv : CtSOk Try.prog 26 (.fn (sp1N fInv)) := FnS_of_fnS gsP4 fol fun ds r cs h hc => by
  unfold sp1N at h
  split at h
  case h_2 => simp at h
  rename_i a
  simp only [Option.some.injEq, Prod.mk.injEq] at h
  obtain ⟨rfl, rfl⟩ := h
  exact use_run (runPInv pw a) rfl trivial
theorem ctPSub : CtSOk Try.prog 33 (.fn (sp2N fSub)) := FnS_of_fnS gsP3 fol fun ds r cs h hc => by
  unfold sp2N at h
  split at h
  case h_2 => simp at h
  rename_i a b
  simp only [Option.some.injEq, Prod.mk.injEq] at h
  obtain ⟨rfl, rfl⟩ := h
  refine use_run (runPSub a b) ?_ trivial
  have h1 : val (ofN (fNeg (val b % Pp))) = fNeg (val b % Pp) := val_lo (fNeg_lt _)
  rw [h1, Nat.mod_eq_of_lt (fNeg_lt _)]
  rfl
def P38 : Nat := 7237005577332262213973186563042994240829374041602535252466099000494570602494
def turnQ : Nat := pw 2 14474011154664524427946373126085988481658748083205070504932198000989141204987
theorem turnQ_lt : turnQ < Pp := pw_lt _ _
theorem turnQ_def : pw 2 14474011154664524427946373126085988481658748083205070504932198000989141204987 = turnQ := by unfold turnQ; with_reducible rfl
def evenV (r : Nat) : Nat := if r % 2 = 0 then r else fNeg r
def prV (x : Nat) : Nat × Bool :=
  if fMul (pw x P38) (pw x P38) = x then (evenV (pw x P38), true) else if fMul (fMul (pw x P38) turnQ) (fMul (pw x P38) turnQ) = x then (evenV (fMul (pw x P38) turnQ), true) else (0, false)
def spPRt : List AV → Option (AV × List Prop)
  | [.val true [.n4 a]] => some (.tup [(true, [.n4 (ofN (prV (val a % Pp)).1)]), (false, [.bool (prV (val a % Pp)).2])], [])
  | _ => none
theorem bT {x y : Nat} (h : x ≠ y) : (!(x == y)) = true := by simp [h]
theorem bF {x y : Nat} (h : x = y) : (!(x == y)) = false := by simp [h]
theorem ctPRt : CtSOk Try.prog 21 (.fn spPRt) := FnS_of_fnS gsP4 fol fun ds r cs h hc => by
  unfold spPRt at h
  split at h
  case h_2 => simp at h
  rename_i a
  simp only [Option.some.injEq, Prod.mk.injEq] at h
  obtain ⟨rfl, rfl⟩ := h
  have hx : val a % Pp < Pp := Nat.mod_lt _ Pp_pos
  have h0 := runPRt0 pw a
  have h1 := runPRt1 pw a
  have hN := runPRtN pw a
  have m1 : ∀ x, x < Pp → x % Pp = x := fun x h => Nat.mod_eq_of_lt h
  have v1 : val (ofN (val a % Pp)) = val a % Pp := val_lo hx
  have v3 : ∀ x y, val (ofN (fMul x y)) = fMul x y := fun x y => val_lo (fMul_lt x y)
  have v4 : ∀ x y, fMul x y % Pp = fMul x y := fun x y => m1 _ (fMul_lt x y)
  have v5 : val (ofN turnQ) = turnQ := val_lo turnQ_lt
  have v6 : turnQ % Pp = turnQ := m1 _ turnQ_lt
  simp only [eq_N4, v1, m1 _ hx, turnQ_def, v5, v6, val_pw, pw_mod, v3, v4, even_if] at h0 h1 hN
  by_cases e1 : fMul (pw (val a % Pp) P38) (pw (val a % Pp) P38) = val a % Pp
  · exact use_run h0 (by rw [prV, if_pos e1]; unfold evenV P38; with_reducible rfl) ⟨bF e1, bF e1, by omega, by omega, by omega, trivial⟩
  · by_cases e2 : fMul (fMul (pw (val a % Pp) P38) turnQ) (fMul (pw (val a % Pp) P38) turnQ) = val a % Pp
    · exact use_run h1 (by rw [prV, if_neg e1, if_pos e2]; unfold evenV P38; with_reducible rfl) ⟨bT e1, bF e2, by omega, by omega, by omega, trivial⟩
    · exact use_run hN (by rw [prV, if_neg e1, if_neg e2]; rfl) ⟨bT e1, bT e2, trivial⟩
def spPEnc : List AV → Option (AV × List Prop)
  | [.val true [.n4 a]] => some (sc (.d8 (bl (val a % Pp) 32)), [])
  | _ => none
theorem ctPEnc : CtSOk Try.prog 38 (.fn spPEnc) := FnS_of_fnS gsP2 fol fun ds r cs h hc => by
  unfold spPEnc at h
  split at h
  case h_2 => simp at h
  rename_i a
  simp only [Option.some.injEq, Prod.mk.injEq] at h
  obtain ⟨rfl, rfl⟩ := h
  have h := runPEnc a
  have hx : val a % Pp < Pp := Nat.mod_lt _ Pp_pos
  rw [val_lo hx, cutL_all] at h
  exact use_run h rfl ⟨by omega, trivial⟩
def spPDec : List AV → Option (AV × List Prop)
  | [.val false [.d8 b]] => some (.tup [(true, [.n4 (ofN (decV b).1)]), (false, [.i64 (decV b).2])], [])
  | _ => none
theorem ctPDec : CtSOk Try.prog 36 (.fn spPDec) := FnS_of_fnS gsP2 fol fun ds r cs h hc => by
  unfold spPDec at h
  split at h
  case h_2 => simp at h
  rename_i b
  simp only [Option.some.injEq, Prod.mk.injEq] at h
  obtain ⟨rfl, rfl⟩ := h
  by_cases h : b.length = 32
  · have hl := bv_lt b
    rw [h, show (256 : Nat) ^ 32 = p256 by decide] at hl
    have hf : (fromV b).1 = ofN (bv b) := by rw [fromV, if_pos (by omega)]
    have hv : val (fromV b).1 = bv b := by rw [hf, val_ofN, Nat.mod_eq_of_lt hl]
    have r0 := runPDec b
    have r6 := runPDec6 b
    rw [hv] at r0 r6
    by_cases hp : bv b < Pp
    · exact use_run r0 (by rw [decV, if_pos h, if_pos hp, hf]) ⟨by rw [h]; rfl, rfl, by rw [decide_eq_true hp]; rfl, trivial⟩
    · exact use_run r6 (by rw [decV, if_pos h, if_neg hp]; rfl) ⟨by rw [h]; rfl, rfl, by rw [decide_eq_false hp]; rfl, trivial⟩
  · exact use_run (runPDec1 b) (by rw [decV, if_neg h]; rfl) ⟨neqB (by omega), trivial⟩
def tblP5 : List (FuncId × CtS) := (21, .fn spPRt) :: (26, .fn (sp1N fInv)) :: (33, .fn (sp2N fSub)) :: (38, .fn spPEnc) :: (36, .fn spPDec) :: (tblP4 pw)
theorem okP5 : TblOk Try.prog tblP5 := ⟨⟨ctPRt, by kernel_rfl⟩, ⟨ctPInv, by kernel_rfl⟩, ⟨ctPSub, by kernel_rfl⟩, ⟨ctPEnc, by kernel_rfl⟩, ⟨ctPDec, by kernel_rfl⟩, ⟨ctPPow, by kernel_rfl⟩, ⟨ctPAdd, by kernel_rfl⟩, ⟨ctPNeg, by kernel_rfl⟩, ⟨ctPMul, by kernel_rfl⟩, ⟨ctRed, by kernel_rfl⟩, ⟨ctRight, by kernel_rfl⟩, ⟨ctFPrime, by kernel_rfl⟩, okW3⟩
end Go.Proofs.Ytfcjahlcllmcpaa
/- Laws of the field, plainly. Own work; no program in sight. -/
namespace Go.Proofs.Ytfcjahlcllmcpaa
open Go.Ev Go.Sp Go.RowKit
set_option maxRecDepth 100000
theorem fMul_comm (x y : Nat) : fMul x y = fMul y x := by unfold fMul; rw [Nat.mul_comm]
theorem fMul_assoc (x y z : Nat) : fMul (fMul x y) z = fMul x (fMul y z) := by unfold fMul; rw [Nat.mod_mul_mod, Nat.mul_mod_mod, Nat.mul_assoc]
theorem fAdd_comm (x y : Nat) : fAdd x y = fAdd y x := by unfold fAdd; rw [Nat.add_comm]
theorem fAdd_assoc (x y z : Nat) : fAdd (fAdd x y) z = fAdd x (fAdd y z) := by unfold fAdd; rw [Nat.mod_add_mod, Nat.add_mod_mod, Nat.add_assoc]
theorem fMul_add (x y z : Nat) : fMul x (fAdd y z) = fAdd (fMul x y) (fMul x z) := by unfold fMul fAdd; rw [Nat.mul_mod_mod, Nat.mul_add, ← Nat.add_mod]
theorem fMul_one {x : Nat} (h : x < Pp) : fMul x 1 = x := by unfold fMul; rw [Nat.mul_one, Nat.mod_eq_of_lt h]
theorem fNeg_zero : fNeg 0 = 0 := by unfold fNeg; rw [Nat.sub_zero, Nat.mod_self]
theorem fNeg_pos {x : Nat} (h0 : x ≠ 0) (h : x < Pp) : fNeg x = Pp - x := Nat.mod_eq_of_lt (by omega)
theorem fNeg_neg {x : Nat} (h : x < Pp) : fNeg (fNeg x) = x := by
  by_cases h0 : x = 0
  · subst h0; rw [fNeg_zero, fNeg_zero]
  · rw [fNeg_pos h0 h, fNeg_pos (by omega) (by omega)]; omega
theorem fAdd_neg {x : Nat} (h : x < Pp) : fAdd x (fNeg x) = 0 := by
  by_cases h0 : x = 0
  · subst h0; rw [fNeg_zero]; rfl
  · rw [fNeg_pos h0 h, fAdd, show x + (Pp - x) = Pp by omega, Nat.mod_self]
theorem fAdd_zero {x : Nat} (h : x < Pp) : fAdd x 0 = x := Nat.mod_eq_of_lt h
theorem fNeg_mul {x : Nat} (h : x < Pp) : fMul x (Pp - 1) = fNeg x := by
  by_cases h0 : x = 0
  · subst h0; rw [fNeg_zero, fMul, Nat.zero_mul, Nat.zero_mod]
  · rw [fNeg_pos h0 h, fMul]
    have e : x * (Pp - 1) = Pp - x + Pp * (x - 1) := by
      have hx : x * (Pp - 1) + x = x * Pp := by rw [← Nat.mul_succ, show (Pp - 1).succ = Pp by decide]
      have hy : Pp * (x - 1) + Pp = Pp * x := by rw [← Nat.mul_succ, show (x - 1).succ = x by omega]
      rw [Nat.mul_comm Pp x] at hy
      generalize x * (Pp - 1) = u at *
      generalize Pp * (x - 1) = v at *
      generalize x * Pp = w at *
      omega
    rw [e, Nat.add_mul_mod_self_left, Nat.mod_eq_of_lt (by omega)]
theorem fNeg_sq {x : Nat} (h : x < Pp) : fMul (fNeg x) (fNeg x) = fMul x x := by
  have h1 : fMul (Pp - 1) (Pp - 1) = 1 := by kernel_rfl
  rw [← fNeg_mul h, fMul_assoc, ← fMul_assoc (Pp - 1), fMul_comm (Pp - 1) x, fMul_assoc x, h1, ← fMul_assoc, fMul_one (fMul_lt _ _)]
theorem fNeg_mul2 {x y : Nat} (h : x < Pp) : fMul (fNeg x) y = fNeg (fMul x y) := by
  rw [← fNeg_mul h, fMul_assoc, fMul_comm (Pp - 1), ← fMul_assoc, fNeg_mul (fMul_lt _ _)]
theorem fMul_zero (x : Nat) : fMul x 0 = 0 := rfl
theorem dom {x y : Nat} (hx : x < Pp) (hy : y < Pp) (h : fMul x y = 0) : x = 0 ∨ y = 0 := by
  rcases euclid h with h | h
  · rw [Nat.mod_eq_of_lt hx] at h; exact .inl h
  · rw [Nat.mod_eq_of_lt hy] at h; exact .inr h
/-- Two numbers of one square. -/
theorem sq_eq {x y : Nat} (hx : x < Pp) (hy : y < Pp) (h : fMul x x = fMul y y) : x = y ∨ x = fNeg y := by
  have h1 : fMul (fAdd x (fNeg y)) (fAdd x y) = 0 := by
    rw [fMul_add, fMul_comm _ x, fMul_comm _ y, fMul_add, fMul_add, h, fMul_comm x (fNeg y), fMul_comm y (fNeg y), fNeg_mul2 hy, fNeg_mul2 hy, fMul_comm y x, fAdd_assoc]
    rw [← fAdd_assoc (fNeg _) (fMul x y), fAdd_comm (fNeg _) (fMul x y), fAdd_neg (fMul_lt _ _), fAdd_comm 0, fAdd_zero (fNeg_lt _), fAdd_neg (fMul_lt _ _)]
  have add0 : ∀ {a b : Nat}, a < Pp → b < Pp → fAdd a b = 0 → a = fNeg b := by
    intro a b ha hb h
    have : fAdd (fAdd a b) (fNeg b) = fNeg b := by rw [h, fAdd_comm, fAdd_zero (fNeg_lt _)]
    rw [fAdd_assoc, fAdd_neg hb, fAdd_zero ha] at this
    exact this
  rcases dom (fAdd_lt _ _) (fAdd_lt _ _) h1 with h | h
  · left; have := add0 hx (fNeg_lt _) h; rwa [fNeg_neg hy] at this
  · exact .inr (add0 hx hy h)
/-! ### Powers -/
theorem pw_one {x : Nat} (h : x < Pp) : pw x 1 = x := by unfold pw; rw [Nat.pow_one, Nat.mod_eq_of_lt h]
theorem pw_pw (x m n : Nat) : pw (pw x m) n = pw x (m * n) := by unfold pw; rw [← Nat.pow_mod, Nat.pow_mul]
theorem pw_fmul (x y n : Nat) : pw (fMul x y) n = fMul (pw x n) (pw y n) := by unfold pw fMul; rw [← Nat.pow_mod, Nat.mul_pow, Nat.mul_mod]
theorem pw_fermat {x : Nat} (h0 : x ≠ 0) (h : x < Pp) : pw x (Pp - 1) = 1 := fermat h0 h
theorem pw_fast (a e : Nat) (he : e < p256) : pw a e = pm Pp 256 a e 1 % Pp := by
  rw [pm_ok Pp 256 a e 1 (by rw [show (2 : Nat) ^ 256 = p256 by decide]; exact he), Nat.one_mul]; rfl
theorem turn_sq : fMul turnQ turnQ = Pp - 1 := by
  unfold turnQ
  rw [pw_fast _ _ (by decide)]
  kernel_rfl
theorem pw_zero {n : Nat} (h : n ≠ 0) : pw 0 n = 0 := by unfold pw; rw [Nat.zero_pow (by omega)]; rfl
theorem one_lt : 1 < Pp := by decide
end Go.Proofs.Ytfcjahlcllmcpaa
/- Roots, plainly. Own work; no program in sight. -/
namespace Go.Proofs.Ytfcjahlcllmcpaa
open Go.Ev Go.Sp Go.RowKit
set_option maxRecDepth 100000
theorem turnN_Q : turnN = turnQ := by unfold turnN turnQ P14; with_reducible rfl
theorem rt0 {x : Nat} (hx : x < Pp) : rtX x 0 = pw x P38 := by
  rw [rtX]
  have := pw_mul x P58 1
  rw [pw_one hx] at this
  rw [this]
  rfl
theorem turn_mul {x : Nat} (hx : x < Pp) : fMul (fMul x turnQ) turnQ = fNeg x := by rw [fMul_assoc, turn_sq, fNeg_mul hx]
theorem rt1 {x : Nat} (hx : x < Pp) : rtX x 1 = fMul (pw x P38) turnQ := by rw [rtX, rt0 hx, turnN_Q]
theorem rt2 {x : Nat} (hx : x < Pp) : rtX x 2 = fNeg (pw x P38) := by rw [rtX, rt1 hx, turnN_Q, turn_mul (pw_lt _ _)]
theorem rt3 {x : Nat} (hx : x < Pp) : rtX x 3 = fNeg (fMul (pw x P38) turnQ) := by rw [rtX, rt2 hx, turnN_Q, fNeg_mul2 (pw_lt _ _)]
theorem turn_sq2 {r : Nat} : fMul (fMul r turnQ) (fMul r turnQ) = fNeg (fMul r r) := by
  rw [fMul_comm r turnQ, ← fMul_assoc, fMul_comm (fMul turnQ r) turnQ, ← fMul_assoc turnQ turnQ r, turn_sq, fMul_assoc, fMul_comm, fNeg_mul (fMul_lt _ _)]
theorem neg_even {r : Nat} (hr : r < Pp) (h : ¬ r % 2 = 0) : fNeg r % 2 = 0 := by
  have hp : Pp % 2 = 1 := by decide
  rw [fNeg_pos (by rintro rfl; exact h rfl) hr]
  generalize Pp = p at *
  omega
theorem neg_self {x : Nat} (hx : x < Pp) (h : fNeg x = x) : x = 0 := by
  by_cases h0 : x = 0
  · exact h0
  · have hp : Pp % 2 = 1 := by decide
    rw [fNeg_pos h0 hx] at h
    generalize Pp = p at *
    omega
theorem evT {r a : Nat} (h1 : r % 2 = 0) (h2 : fMul r r = a) : evV r a = true := by unfold evV; rw [h1, h2]; simp
theorem evF1 {r a : Nat} (h1 : ¬ r % 2 = 0) : evV r a = false := by unfold evV; rw [beq_eq_false_iff_ne.2 h1]; rfl
theorem evF2 {r a : Nat} (h1 : fMul r r ≠ a) : evV r a = false := by unfold evV; rw [beq_eq_false_iff_ne.2 h1, Bool.and_false]
theorem rtV_eq {x : Nat} (hx : x < Pp) : rtV x = prV x := by
  have hr : pw x P38 < Pp := pw_lt _ _
  have h0 := rt0 hx
  have h1 := rt1 hx
  have h2 := rt2 hx
  have h3 := rt3 hx
  have hsq : fMul (fMul (pw x P38) turnQ) (fMul (pw x P38) turnQ) = fNeg (fMul (pw x P38) (pw x P38)) := turn_sq2
  unfold prV rtV
  generalize pw x P38 = r at *
  have ho : fMul r turnQ < Pp := fMul_lt _ _
  have s2 := fNeg_sq hr
  have s3 := fNeg_sq ho
  by_cases e1 : fMul r r = x
  · rw [if_pos e1]
    by_cases p : r % 2 = 0
    · rw [rtS_at x 4 0 0 (by omega) (by omega) (by rw [h0]; exact evT p e1) (fun j h h' => by omega), h0, evenV, if_pos p]
    · have hx0 : x ≠ 0 := by
        rintro rfl
        rcases dom hr hr e1 with e | e <;> (subst e; exact p rfl)
      have n1 : evV (rtX x 1) x = false := by
        rw [h1]
        exact evF2 fun e => hx0 (neg_self hx (by rw [hsq, e1] at e; exact e))
      rw [rtS_at x 4 0 2 (by omega) (by omega) (by rw [h2]; exact evT (neg_even hr p) (s2.trans e1)) (fun j h h' => by
        have : j = 0 ∨ j = 1 := by omega
        rcases this with rfl | rfl
        · rw [h0]; exact evF1 p
        · exact n1), h2, evenV, if_neg p]
  · rw [if_neg e1]
    have n0 : evV (rtX x 0) x = false := by rw [h0]; exact evF2 e1
    have n2 : evV (rtX x 2) x = false := by rw [h2]; exact evF2 (by rw [s2]; exact e1)
    by_cases e2 : fMul (fMul r turnQ) (fMul r turnQ) = x
    · rw [if_pos e2]
      by_cases p : fMul r turnQ % 2 = 0
      · rw [rtS_at x 4 0 1 (by omega) (by omega) (by rw [h1]; exact evT p e2) (fun j h h' => by
          have : j = 0 := by omega
          rw [this]; exact n0), h1, evenV, if_pos p]
      · rw [rtS_at x 4 0 3 (by omega) (by omega) (by rw [h3]; exact evT (neg_even ho p) (s3.trans e2)) (fun j h h' => by
          have : j = 0 ∨ j = 1 ∨ j = 2 := by omega
          rcases this with rfl | rfl | rfl
          · exact n0
          · rw [h1]; exact evF1 p
          · exact n2), h3, evenV, if_neg p]
    · rw [if_neg e2, rtS_all x 4 0 fun j h h' => ?_]
      have : j = 0 ∨ j = 1 ∨ j = 2 ∨ j = 3 := by omega
      rcases this with rfl | rfl | rfl | rfl
      · exact n0
      · rw [h1]; exact evF2 e2
      · exact n2
      · rw [h3]; exact evF2 (by rw [s3]; exact e2)
/-! ### Which numbers have roots -/
def Pq : Nat := 14474011154664524427946373126085988481658748083205070504932198000989141204987
theorem sqV_iff {x : Nat} : sqV x = true ↔ pw x Ph = 1 ∨ x = 0 := by unfold sqV; simp
theorem sqV_of {x y : Nat} (hy : y < Pp) (h : fMul y y = x) : sqV x = true := by
  rw [sqV_iff]
  by_cases h0 : y = 0
  · subst h0; exact .inr h.symm
  · left
    rw [← h, pw_fmul, pw_mul, show Ph + Ph = Pp - 1 by decide]
    exact pw_fermat h0 hy
theorem rr {x : Nat} (hx : x < Pp) : fMul (pw x P38) (pw x P38) = fMul x (pw x Pq) := by
  have := pw_mul x 1 Pq
  rw [pw_one hx] at this
  rw [pw_mul, this, show P38 + P38 = 1 + Pq by decide]
theorem prV_of {x : Nat} (hx : x < Pp) (h : sqV x = true) : (prV x).2 = true := by
  have h1 := rr hx
  have h2 : fMul (fMul (pw x P38) turnQ) (fMul (pw x P38) turnQ) = fNeg (fMul (pw x P38) (pw x P38)) := turn_sq2
  unfold prV
  by_cases e1 : fMul (pw x P38) (pw x P38) = x
  · rw [if_pos e1]
  · rw [if_neg e1]
    rcases sqV_iff.1 h with h | h
    · have hs : fMul (pw x Pq) (pw x Pq) = fMul 1 1 := by rw [pw_mul, show Pq + Pq = Ph by decide, h]; rfl
      rcases sq_eq (pw_lt _ _) one_lt hs with e | e
      · rw [e, fMul_one hx] at h1
        exact absurd h1 e1
      · rw [e, show fNeg 1 = Pp - 1 by decide, fNeg_mul hx] at h1
        rw [h1, fNeg_neg hx] at h2
        rw [if_pos h2]
    · subst h
      refine absurd ?_ e1
      rw [pw_zero (n := P38) (by decide)]; exact fMul_zero 0
theorem evenV_sq {r : Nat} (hr : r < Pp) : fMul (evenV r) (evenV r) = fMul r r := by
  unfold evenV
  split
  · rfl
  · exact fNeg_sq hr
theorem evenV_lt {r : Nat} (hr : r < Pp) : evenV r < Pp := by
  unfold evenV
  split
  · exact hr
  · exact fNeg_lt _
theorem evenV_even {r : Nat} (hr : r < Pp) : evenV r % 2 = 0 := by
  unfold evenV
  split
  · assumption
  · exact neg_even hr ‹_›
theorem prV_sq {x : Nat} (h : (prV x).2 = true) : fMul (prV x).1 (prV x).1 = x ∧ (prV x).1 < Pp ∧ (prV x).1 % 2 = 0 := by
  unfold prV at *
  generalize turnQ = t at *
  by_cases e1 : fMul (pw x P38) (pw x P38) = x
  · rw [if_pos e1] at *
    exact ⟨(evenV_sq (pw_lt _ _)).trans e1, evenV_lt (pw_lt _ _), evenV_even (pw_lt _ _)⟩
  · rw [if_neg e1] at *
    by_cases e2 : fMul (fMul (pw x P38) t) (fMul (pw x P38) t) = x
    · rw [if_pos e2] at *
      exact ⟨(evenV_sq (fMul_lt _ _)).trans e2, evenV_lt (fMul_lt _ _), evenV_even (fMul_lt _ _)⟩
    · rw [if_neg e2] at h; simp at h
theorem prV_no {x : Nat} (h : (prV x).2 = false) : (prV x).1 = 0 := by
  unfold prV at *
  generalize turnQ = t at *
  by_cases e1 : fMul (pw x P38) (pw x P38) = x
  · rw [if_pos e1] at h; simp at h
  · rw [if_neg e1] at *
    by_cases e2 : fMul (fMul (pw x P38) t) (fMul (pw x P38) t) = x
    · rw [if_pos e2] at h; simp at h
    · rw [if_neg e2]
theorem prV_sqV {x : Nat} (hx : x < Pp) : (prV x).2 = sqV x := by
  cases h : sqV x with
  | true => exact prV_of hx h
  | false =>
    cases h2 : (prV x).2 with
    | false => rfl
    | true =>
      obtain ⟨a, b, _⟩ := prV_sq h2
      rw [sqV_of b a] at h
      simp at h
theorem sqV_neg {x : Nat} (hx : x < Pp) : sqV (fNeg x) = sqV x := by
  have key : ∀ {x}, x < Pp → sqV x = true → sqV (fNeg x) = true := by
    intro x hx h
    have h1 := prV_of hx h
    obtain ⟨a, b, _⟩ := prV_sq h1
    refine sqV_of (y := fMul (prV x).1 turnQ) (fMul_lt _ _) ?_
    rw [turn_sq2, a]
  cases h : sqV x with
  | true => exact key hx h
  | false =>
    cases h2 : sqV (fNeg x) with
    | false => rfl
    | true =>
      have := key (fNeg_lt x) h2
      rw [fNeg_neg hx, h] at this
      simp at this
theorem sqV_mul {x y : Nat} (hx : x < Pp) (hy : y < Pp) (h1 : sqV x = true) (h2 : sqV y = true) : sqV (fMul x y) = true := by
  obtain ⟨a, a2, _⟩ := prV_sq (prV_of hx h1)
  obtain ⟨b, b2, _⟩ := prV_sq (prV_of hy h2)
  refine sqV_of (y := fMul (prV x).1 (prV y).1) (fMul_lt _ _) ?_
  generalize (prV x).1 = u at *
  generalize (prV y).1 = v at *
  rw [fMul_assoc, ← fMul_assoc v, fMul_comm v u, fMul_assoc u v v, ← fMul_assoc, a, b]
/-! ### Inverses -/
theorem inv_mul {x : Nat} (h0 : x ≠ 0) (hx : x < Pp) : fMul x (fInv x) = 1 := by
  have := pw_mul x 1 Pe
  rw [pw_one hx, show 1 + Pe = Pp - 1 by decide, pw_fermat h0 hx] at this
  exact this
theorem inv_lt (x : Nat) : fInv x < Pp := pw_lt _ _
theorem inv_zero : fInv 0 = 0 := pw_zero (by decide)
theorem inv_ne {x : Nat} (h0 : x ≠ 0) (hx : x < Pp) : fInv x ≠ 0 := by
  intro e
  have := inv_mul h0 hx
  rw [e] at this
  simp [fMul_zero] at this
theorem inv_inv {x : Nat} (hx : x < Pp) : fInv (fInv x) = x := by
  by_cases h0 : x = 0
  · subst h0; rw [inv_zero, inv_zero]
  · have h1 := inv_mul h0 hx
    have h2 := inv_mul (inv_ne h0 hx) (inv_lt x)
    rw [← fMul_one (inv_lt (fInv x)), ← h1, fMul_comm x, ← fMul_assoc, fMul_comm (fInv (fInv x)), h2, fMul_comm, fMul_one hx]
end Go.Proofs.Ytfcjahlcllmcpaa
/- What the rows of this layer share. Own work; no statement of the seat is proved here. -/
namespace Go.Proofs.Ytfcjahlcllmcpaa
open Go.Ev Go.Sp Go.ChangeShapes Go.WideShapes Go.RowKit
set_option maxRecDepth 100000

theorem own : ownKnob Try.prog.godebug = none := by kernel_rfl
theorem laidOut : laidOutB Try.prog = true := by kernel_rfl
theorem resBool {B : Nat} {w : World} {v : Value} {b : Bool} (h : ResOk B w (sc (.bool b)) v) : v = .bool b := by
  obtain ⟨ρ, _, _, h1, _⟩ := h 0
  have := VRepr_sc.1 h1
  simp [ICells, PCells] at this
  exact this.symm
theorem openNum {H : Type} {enc : TypeId × Value → H} {W : World} {v : Value} {d : DataW H} {ps : List MemPlace} {base : Nat} (hval : Value.okWide Try.prog W .any base 24 v) (hd : DataW.Trod enc Try.prog W 0 (fun _ => true) true 24 v d ps) :
    ∃ a : N4, DV W (.val true [.n4 a]) v := open_num (e := 22) (by kernel_rfl) (by kernel_rfl) (by kernel_rfl) (by kernel_rfl) hval hd
/-- The root by whatever function. -/
def spPRtG (g : Nat → Nat × Bool) : List AV → Option (AV × List Prop)
  | [.val true [.n4 a]] => some (.tup [(true, [.n4 (ofN (g (val a % Pp)).1)]), (false, [.bool (g (val a % Pp)).2])], [])
  | _ => none
def spPowG (f : Nat → Nat → Nat) : List AV → Option (AV × List Prop)
  | [.val true [.fe a], .val false [.dN e]] => some (.val true [.fe (f a e)], [a < Pp, Sm e])
  | _ => none
def tblX (f : Nat → Nat → Nat) (g : Nat → Nat × Bool) (v : Nat → Nat) : List (FuncId × CtS) :=
  (21, .fn (spPRtG g)) :: (18, .fn (spPwG f)) :: (19, .fn (spPowG f)) :: (26, .fn (sp1N v)) :: (27, .fn (sp1F v)) ::
  (33, .fn (sp2N fSub)) :: (38, .fn spPEnc) :: (36, .fn spPDec) :: (13, .fn (sp2N fMul)) :: (28, .fn (sp2N fAdd)) :: (25, .fn (sp1N fNeg)) ::
  (24, .fn spRed) :: (31, .fn spRight) :: (29, .fn spFPrime) ::
  (15, .fn spROf) :: (16, .fn spRNum) :: (30, .fn spRPrime) :: (32, .fn (sp2F fAdd)) :: (34, .fn (sp2F fSub)) :: (35, .fn (sp1F fNeg)) :: (14, .fn (sp2F fMul)) ::
  (20, .fn spNDigits) :: (37, .fn spRDec) :: (39, .fn spREnc) :: []
theorem okX : TblOk Try.prog (tblX pw prV fInv) := ⟨⟨ctPRt, by kernel_rfl⟩, ⟨ctPPow, by kernel_rfl⟩, ⟨ctPow, by kernel_rfl⟩, ⟨ctPInv, by kernel_rfl⟩, ⟨ctFInv, by kernel_rfl⟩, ⟨ctPSub, by kernel_rfl⟩, ⟨ctPEnc, by kernel_rfl⟩, ⟨ctPDec, by kernel_rfl⟩, ⟨ctPMul, by kernel_rfl⟩, ⟨ctPAdd, by kernel_rfl⟩, ⟨ctPNeg, by kernel_rfl⟩,
  ⟨ctRed, by kernel_rfl⟩, ⟨ctRight, by kernel_rfl⟩, ⟨ctFPrime, by kernel_rfl⟩, ⟨ctROf, by kernel_rfl⟩, ⟨ctRNum, by kernel_rfl⟩, ⟨ctRPrime, by kernel_rfl⟩, ⟨ctFAdd, by kernel_rfl⟩, ⟨ctFSub, by kernel_rfl⟩, ⟨ctFNeg, by kernel_rfl⟩, ⟨ctFMul, by kernel_rfl⟩, ⟨nDigits, by kernel_rfl⟩, ⟨ctRDec, by kernel_rfl⟩, ⟨ctREnc, by kernel_rfl⟩, trivial⟩
theorem runAwake (f : Nat → Nat → Nat) (g : Nat → Nat × Bool) (v : Nat → Nat) : fnS Try.prog (lookG (tblX f g v)) (orcA [(3, [(5, true), (10, true), (13, true)])]) [] 10 17 [] =
    some (sc (IV.bool !(g 2).2), [true = true, ((ofN (g 4).1).eq (N4.mk (BitVec.ofNat 64 2) (BitVec.ofNat 64 0) (BitVec.ofNat 64 0) (BitVec.ofNat 64 0)) && true) = true, (g 4).2 = true]) := by kernel_rfl
def pwm (x e : Nat) : Nat := pm Pp 256 x e 1 % Pp
def prVm (x : Nat) : Nat × Bool :=
  if fMul (pwm x P38) (pwm x P38) = x then (evenV (pwm x P38), true) else if fMul (fMul (pwm x P38) (pwm 2 Pq)) (fMul (pwm x P38) (pwm 2 Pq)) = x then (evenV (fMul (pwm x P38) (pwm 2 Pq)), true) else (0, false)
theorem prV_fast (x : Nat) : prV x = prVm x := by
  have h1 : pw x P38 = pwm x P38 := pw_fast x P38 (by decide)
  have h2 : turnQ = pwm 2 Pq := pw_fast 2 Pq (by decide)
  unfold prV prVm
  rw [h1, h2]
theorem root4 : prV 4 = (2, true) := by rw [prV_fast]; kernel_rfl
theorem root2 : prV 2 = (0, false) := by rw [prV_fast]; kernel_rfl
def spAwake : List AV → Option (AV × List Prop)
  | [] => some (sc (.bool true), [])
  | _ => none
theorem ctAwake : CtSOk Try.prog 17 (.fn spAwake) := FnS_of_fnS (GSound_of_tbl okX) fol fun ds r cs h hc => by
  unfold spAwake at h
  split at h
  case h_2 => simp at h
  simp only [Option.some.injEq, Prod.mk.injEq] at h
  obtain ⟨rfl, rfl⟩ := h
  have r0 := runAwake pw prV fInv
  rw [root2, root4] at r0
  exact use_run r0 rfl ⟨rfl, by kernel_rfl, rfl, trivial⟩
def tblY (f : Nat → Nat → Nat) (g : Nat → Nat × Bool) (v : Nat → Nat) : List (FuncId × CtS) := (17, .fn spAwake) :: tblX f g v
theorem okY : TblOk Try.prog (tblY pw prV fInv) := ⟨⟨ctAwake, by kernel_rfl⟩, okX⟩
theorem gsY : GSound Try.prog (upG (lookG (tblY pw prV fInv))) := GSound_of_tbl okY
theorem eqN {x y : N4} (h : x = y) : (x.eq y && true) = true := by rw [eq_N4, h, beq_self_eq_true]
theorem val_f (x y : Nat) : val (ofN (fMul x y)) = fMul x y := val_lo (fMul_lt x y)
end Go.Proofs.Ytfcjahlcllmcpaa
