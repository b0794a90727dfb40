/- Texts put together: FdP FdQ FdN FdO GlA GlB GlC. Own work. -/
import Derived.Test.YtlgiaglbdifkpaaDoorMgaq
import Derived.KernelRfl
/- Contracts of the program's field. Own work. -/
namespace Go.Proofs.YtlgiaglbdifkpaaDoor
open Go.Ev Go.Sp Go.RowKit
set_option maxRecDepth 100000
def tblW3 : List (FuncId × CtS) := [(31, .fn (sp2 addV)), (35, .fn (sp2 subV)), (33, .fn spMul), (44, .fn spPick), (63, .fn spBit), (27, .fn spFrom), (34, .fn spBytes)]
theorem okW3 : TblOk Tryd.prog tblW3 := ⟨⟨ctAdd, by kernel_rfl⟩, ⟨ctSub, by kernel_rfl⟩, ⟨ctMul, by kernel_rfl⟩, ⟨ctPick, by kernel_rfl⟩, ⟨ctBit, by kernel_rfl⟩, ⟨ctFrom, by kernel_rfl⟩, ⟨ctBytes, by kernel_rfl⟩, trivial⟩
theorem gsW3 : GSound Tryd.prog (upG (lookG tblW3)) := GSound_of_tbl okW3
theorem runFPrime  : fnS Tryd.prog (lookG tblW3) orc0 [] 10 60 [] =
    some (AV.val true [IV.n4 (N4.mk (BitVec.ofNat 64 18446744073709551597) (BitVec.ofNat 64 18446744073709551615) (BitVec.ofNat 64 18446744073709551615) (BitVec.ofNat 64 9223372036854775807))], []) := by kernel_rfl
def spFPrime : List AV → Option (AV × List Prop)
  | [] => some (.val true [.n4 (ofN Pp)], [])
  | _ => none
theorem ctFPrime : CtSOk Tryd.prog 60 (.fn spFPrime) := FnS_of_fnS gsW3 fol fun ds r cs h hc => by
  unfold spFPrime at h
  split at h
  case h_2 => simp at h
  simp only [Option.some.injEq, Prod.mk.injEq] at h
  obtain ⟨rfl, rfl⟩ := h
  exact use_run runFPrime rfl trivial
def tblP1 : List (FuncId × CtS) :=
  (60, .fn spFPrime) :: tblW3
theorem gsP1 : GSound Tryd.prog (upG (lookG tblP1)) := GSound_of_tbl ⟨⟨ctFPrime, by kernel_rfl⟩, okW3⟩
theorem runRight (a : N4) : fnS Tryd.prog (lookG tblP1) orc0 [] 10 37 [.val true [.n4 a]] =
    some (sc (IV.bool ((if val a < 57896044618658097711785492504343953926634992332820282019728792003956564819949 then BitVec.ofNat 64 1 else BitVec.ofNat 64 0) == BitVec.ofNat 64 1)), []) := by kernel_rfl
theorem runRed (a : N4) : fnS Tryd.prog (lookG tblP1) orc0 [] 10 61 [.val true [.n4 a]] =
    some (AV.val true [IV.n4 (if (if val (if (if val a < 57896044618658097711785492504343953926634992332820282019728792003956564819949 then BitVec.ofNat 64 1 else BitVec.ofNat 64 0) = BitVec.ofNat 64 0 then ofN (val a + p256 - 57896044618658097711785492504343953926634992332820282019728792003956564819949) else a) < 57896044618658097711785492504343953926634992332820282019728792003956564819949 then BitVec.ofNat 64 1 else BitVec.ofNat 64 0) = BitVec.ofNat 64 0 then ofN (val (if (if val a < 57896044618658097711785492504343953926634992332820282019728792003956564819949 then BitVec.ofNat 64 1 else BitVec.ofNat 64 0) = BitVec.ofNat 64 0 then ofN (val a + p256 - 57896044618658097711785492504343953926634992332820282019728792003956564819949) else a) + p256 - 57896044618658097711785492504343953926634992332820282019728792003956564819949) else if (if val a < 57896044618658097711785492504343953926634992332820282019728792003956564819949 then BitVec.ofNat 64 1 else BitVec.ofNat 64 0) = BitVec.ofNat 64 0 then ofN (val a + p256 - 57896044618658097711785492504343953926634992332820282019728792003956564819949) else a)], []) := by kernel_rfl
def spRight : List AV → Option (AV × List Prop)
  | [.val true [.n4 a]] => some (sc (.bool (decide (val a < Pp))), [])
  | _ => none
theorem ctRight : CtSOk Tryd.prog 37 (.fn spRight) := FnS_of_fnS gsP1 fol fun ds r cs h hc => by
  unfold spRight at h
  split at h
  case h_2 => simp at h
  rename_i a
  simp only [Option.some.injEq, Prod.mk.injEq] at h
  obtain ⟨rfl, rfl⟩ := h
  refine use_run (runRight a) ?_ trivial
  show sc (.bool ((if val a < Pp then BitVec.ofNat 64 1 else BitVec.ofNat 64 0) == BitVec.ofNat 64 1)) = _
  by_cases h : val a < Pp
  · rw [if_pos h, decide_eq_true h]; rfl
  · rw [if_neg h, decide_eq_false h]; rfl
def pk (a : N4) : N4 := if (if val a < Pp then BitVec.ofNat 64 1 else BitVec.ofNat 64 0) = BitVec.ofNat 64 0 then ofN (val a + p256 - Pp) else a
theorem pk_val (a : N4) : val (pk a) = if val a < Pp then val a else val a - Pp := by
  have h := val_lt a
  have hp := Pp_lt
  unfold pk
  by_cases ha : val a < Pp
  · rw [if_pos ha, if_pos ha, if_neg (by decide)]
  · rw [if_neg ha, if_neg ha, if_pos rfl, val_ofN]
    generalize val a = x at *
    generalize p256 = q at *
    generalize Pp = p at *
    rw [show x + q - p = x - p + q by omega, Nat.add_mod_right, Nat.mod_eq_of_lt (by omega)]
theorem pk2 (a : N4) : pk (pk a) = ofN (val a % Pp) := by
  apply val_inj
  have hlt := Nat.mod_lt (val a) Pp_pos
  rw [val_ofN, Nat.mod_eq_of_lt (lt256 hlt), pk_val, pk_val]
  have h := val_lt a
  rw [show p256 = 2 * Pp + 38 by decide] at h
  have h38 : 38 < Pp := by decide
  generalize val a = x at *
  generalize Pp = p at *
  by_cases h1 : x < p
  · simp only [if_pos h1]; rw [Nat.mod_eq_of_lt h1]
  · simp only [if_neg h1]
    by_cases h2 : x - p < p
    · rw [if_pos h2, Nat.mod_eq_sub_mod (by omega), Nat.mod_eq_of_lt h2]
    · rw [if_neg h2, Nat.mod_eq_sub_mod (by omega), Nat.mod_eq_sub_mod (by omega), Nat.mod_eq_of_lt (by omega)]
def spRed : List AV → Option (AV × List Prop)
  | [.val true [.n4 a]] => some (.val true [.n4 (ofN (val a % Pp))], [])
  | _ => none
theorem ctRed : CtSOk Tryd.prog 61 (.fn spRed) := FnS_of_fnS gsP1 fol fun ds r cs h hc => by
  unfold spRed at h
  split at h
  case h_2 => simp at h
  rename_i a
  simp only [Option.some.injEq, Prod.mk.injEq] at h
  obtain ⟨rfl, rfl⟩ := h
  refine use_run (runRed a) ?_ trivial
  show AV.val true [.n4 (pk (pk a))] = _
  rw [pk2]
def tblP2 : List (FuncId × CtS) :=
  (61, .fn spRed) :: (37, .fn spRight) :: tblP1
theorem gsP2 : GSound Tryd.prog (upG (lookG tblP2)) := GSound_of_tbl ⟨⟨ctRed, by kernel_rfl⟩, ⟨ctRight, by kernel_rfl⟩, ⟨ctFPrime, by kernel_rfl⟩, okW3⟩
def sp2N (f : Nat → Nat → Nat) : List AV → Option (AV × List Prop)
  | [.val true [.n4 a], .val true [.n4 b]] => some (.val true [.n4 (ofN (f (val a % Pp) (val b % Pp)))], [])
  | _ => none
def sp1N (f : Nat → Nat) : List AV → Option (AV × List Prop)
  | [.val true [.n4 a]] => some (.val true [.n4 (ofN (f (val a % Pp)))], [])
  | _ => none
theorem runPAdd (a b : N4) : fnS Tryd.prog (lookG tblP2) orc0 [] 10 42 [.val true [.n4 a], .val true [.n4 b]] =
    some (AV.val true [IV.n4 (ofN (val (ofN (val (ofN (val a % Pp)) + val (ofN (val b % Pp)))) % Pp))], []) := by kernel_rfl
theorem runPNeg (a : N4) : fnS Tryd.prog (lookG tblP2) orc0 [] 10 45 [.val true [.n4 a]] =
    some (AV.val true [IV.n4 (ofN (val (ofN (173688133855974293135356477513031861779904976998460846059186376011869694459885 - val (ofN (val a % Pp)))) % Pp))], []) := by kernel_rfl
theorem step38 (x k : Nat) : (x + p256 * k) % Pp = (x + 38 * k) % Pp := by
  rw [show p256 = Pp * 2 + 38 by decide, Nat.add_mul, Nat.mul_assoc, show x + (Pp * (2 * k) + 38 * k) = x + 38 * k + Pp * (2 * k) by omega, Nat.add_mul_mod_self_left]
theorem mulLaw {n lo hi m s1 c s2 s3 : Nat} (hn : n < p256 * p256) (h0 : lo = n % p256) (h1 : hi = n / p256) (h2 : m = hi * 38) (h3 : s1 = lo + m % p256) (h4 : c = 38 * (m / p256 + s1 / p256)) (h5 : s2 = s1 % p256 + c)
    (h6 : s3 = s2 % p256 + 38 * (s2 / p256)) : hi < p256 ∧ m / p256 < 38 ∧ s1 / p256 < 2 ∧ s2 / p256 < 2 ∧ s3 < p256 ∧ s3 % Pp = n % Pp := by
  have a1 : hi < p256 := by rw [h1]; exact Nat.div_lt_of_lt_mul hn
  have hp : 0 < p256 := by decide
  have hpb : 100000 < p256 := by decide
  have a2 : m / p256 < 38 := by rw [h2]; exact Nat.div_lt_of_lt_mul (Nat.mul_lt_mul_of_pos_right a1 (by decide))
  have b1 : lo < p256 := by rw [h0]; exact Nat.mod_lt _ hp
  have b2 := Nat.mod_lt m hp
  have b3 := Nat.mod_lt s1 hp
  have b4 := Nat.mod_lt s2 hp
  have a3 : s1 / p256 < 2 := Nat.div_lt_of_lt_mul (by omega)
  have a4 : s2 / p256 < 2 := Nat.div_lt_of_lt_mul (by omega)
  have d0 := Nat.mod_add_div n p256
  have d1 := Nat.mod_add_div m p256
  have d2 := Nat.mod_add_div s1 p256
  have d3 := Nat.mod_add_div s2 p256
  have a5 : s3 < p256 := by
    have hq : s2 / p256 = 0 ∨ s2 / p256 = 1 := by omega
    rcases hq with e | e
    · rw [e] at h6; omega
    · rw [e] at h6 d3; omega
  refine ⟨a1, a2, a3, a4, a5, ?_⟩
  have e1 : n % Pp = (lo + m) % Pp := by rw [← d0, step38, ← h0, ← h1, h2, Nat.mul_comm 38 hi]
  have e2 : (lo + m) % Pp = (s1 % p256 + p256 * (s1 / p256 + m / p256)) % Pp := by rw [Nat.mul_add]; congr 1; omega
  rw [e1, e2, step38, show s1 % p256 + 38 * (s1 / p256 + m / p256) = s2 by omega, h6, ← step38, d3]
theorem val_w (x : BitVec 64) : val (N4.mk x (BitVec.ofNat 64 0) (BitVec.ofNat 64 0) (BitVec.ofNat 64 0)) = x.toNat := by
  rw [val_mk]; simp
theorem val_gets (x : N4) : N4.mk (x.get (4 - 4)) (x.get (5 - 4)) (x.get (6 - 4)) (x.get (7 - 4)) = x := rfl
theorem get0_ofN (n : Nat) : (ofN n).get (4 - 4) = BitVec.ofNat 64 n := rfl
theorem w38 {x y : Nat} (hx : x < 38) (hy : y < 2) : (BitVec.ofNat 64 38 * (BitVec.ofNat 64 x + BitVec.ofNat 64 y)).toNat = 38 * (x + y) := by
  simp only [BitVec.toNat_mul, BitVec.toNat_add, BitVec.toNat_ofNat]; omega
theorem w38' {y : Nat} (hy : y < 2) : (BitVec.ofNat 64 38 * BitVec.ofNat 64 y).toNat = 38 * y := by
  simp only [BitVec.toNat_mul, BitVec.toNat_ofNat]; omega
theorem runPMul (a b : N4) : fnS Tryd.prog (lookG tblP2) orc0 [] 10 38 [.val true [.n4 a], .val true [.n4 b]] =
    some (AV.val true [IV.n4 (ofN (val (ofN (val (ofN (val (ofN (val (ofN (val a * val b)) + val (ofN (val (N4.mk ((ofN (val a * val b / p256)).get (4 - 4)) ((ofN (val a * val b / p256)).get (5 - 4)) ((ofN (val a * val b / p256)).get (6 - 4)) ((ofN (val a * val b / p256)).get (7 - 4))) * 38)))) + val (N4.mk (BitVec.ofNat 64 38 * ((ofN (val (N4.mk ((ofN (val a * val b / p256)).get (4 - 4)) ((ofN (val a * val b / p256)).get (5 - 4)) ((ofN (val a * val b / p256)).get (6 - 4)) ((ofN (val a * val b / p256)).get (7 - 4))) * 38 / p256)).get (4 - 4) + BitVec.ofNat 64 ((val (ofN (val a * val b)) + val (ofN (val (N4.mk ((ofN (val a * val b / p256)).get (4 - 4)) ((ofN (val a * val b / p256)).get (5 - 4)) ((ofN (val a * val b / p256)).get (6 - 4)) ((ofN (val a * val b / p256)).get (7 - 4))) * 38))) / p256))) (BitVec.ofNat 64 0) (BitVec.ofNat 64 0) (BitVec.ofNat 64 0)))) + val (N4.mk (BitVec.ofNat 64 38 * BitVec.ofNat 64 ((val (ofN (val (ofN (val a * val b)) + val (ofN (val (N4.mk ((ofN (val a * val b / p256)).get (4 - 4)) ((ofN (val a * val b / p256)).get (5 - 4)) ((ofN (val a * val b / p256)).get (6 - 4)) ((ofN (val a * val b / p256)).get (7 - 4))) * 38)))) + val (N4.mk (BitVec.ofNat 64 38 * ((ofN (val (N4.mk ((ofN (val a * val b / p256)).get (4 - 4)) ((ofN (val a * val b / p256)).get (5 - 4)) ((ofN (val a * val b / p256)).get (6 - 4)) ((ofN (val a * val b / p256)).get (7 - 4))) * 38 / p256)).get (4 - 4) + BitVec.ofNat 64 ((val (ofN (val a * val b)) + val (ofN (val (N4.mk ((ofN (val a * val b / p256)).get (4 - 4)) ((ofN (val a * val b / p256)).get (5 - 4)) ((ofN (val a * val b / p256)).get (6 - 4)) ((ofN (val a * val b / p256)).get (7 - 4))) * 38))) / p256))) (BitVec.ofNat 64 0) (BitVec.ofNat 64 0) (BitVec.ofNat 64 0))) / p256)) (BitVec.ofNat 64 0) (BitVec.ofNat 64 0) (BitVec.ofNat 64 0)))) % Pp))], []) := by kernel_rfl
theorem ctPMul : CtSOk Tryd.prog 38 (.fn (sp2N fMul)) := FnS_of_fnS gsP2 fol fun ds r cs h hc => by
  unfold sp2N at h
  split at h
  case h_2 => simp at h
  rename_i a b
  simp only [Option.some.injEq, Prod.mk.injEq] at h
  obtain ⟨rfl, rfl⟩ := h
  refine use_run (runPMul a b) ?_ trivial
  have hn : val a * val b < p256 * p256 := Nat.mul_lt_mul'' (val_lt a) (val_lt b)
  obtain ⟨q1, q2, q3, q4, q5, q6⟩ := mulLaw hn rfl rfl rfl rfl rfl rfl rfl
  simp only [val_gets, val_ofN, Nat.mod_eq_of_lt q1]
  rw [get0_ofN]
  simp only [val_w, w38 q2 q3, w38' q4, Nat.mod_eq_of_lt q5, q6]
  unfold fMul
  rw [← Nat.mul_mod]
theorem modP (x : Nat) : x % Pp % p256 = x % Pp := Nat.mod_eq_of_lt (lt256 (Nat.mod_lt _ Pp_pos))
theorem ctPAdd : CtSOk Tryd.prog 42 (.fn (sp2N fAdd)) := FnS_of_fnS gsP2 fol fun ds r cs h hc => by
  unfold sp2N at h
  split at h
  case h_2 => simp at h
  rename_i a b
  simp only [Option.some.injEq, Prod.mk.injEq] at h
  obtain ⟨rfl, rfl⟩ := h
  refine use_run (runPAdd a b) ?_ trivial
  have h1 := Nat.mod_lt (val a) Pp_pos
  have h2 := Nat.mod_lt (val b) Pp_pos
  simp only [val_ofN, modP]
  rw [Nat.mod_eq_of_lt (show val a % Pp + val b % Pp < p256 by rw [show p256 = 2 * Pp + 38 by decide]; omega)]
  rfl
theorem ctPNeg : CtSOk Tryd.prog 45 (.fn (sp1N fNeg)) := FnS_of_fnS gsP2 fol fun ds r cs h hc => by
  unfold sp1N at h
  split at h
  case h_2 => simp at h
  rename_i a
  simp only [Option.some.injEq, Prod.mk.injEq] at h
  obtain ⟨rfl, rfl⟩ := h
  refine use_run (runPNeg a) ?_ trivial
  have h1 := Nat.mod_lt (val a) Pp_pos
  simp only [val_ofN, modP]
  rw [show (173688133855974293135356477513031861779904976998460846059186376011869694459885 : Nat) = p256 + Pp by decide]
  rw [show p256 + Pp - val a % Pp = Pp - val a % Pp + p256 by omega, Nat.add_mod_right, Nat.mod_eq_of_lt (Nat.lt_of_le_of_lt (Nat.sub_le _ _) Pp_lt)]
  rfl
def tblP3 : List (FuncId × CtS) :=
  (42, .fn (sp2N fAdd)) :: (45, .fn (sp1N fNeg)) :: (38, .fn (sp2N fMul)) :: tblP2
theorem gsP3 : GSound Tryd.prog (upG (lookG tblP3)) := GSound_of_tbl ⟨⟨ctPAdd, by kernel_rfl⟩, ⟨ctPNeg, by kernel_rfl⟩, ⟨ctPMul, by kernel_rfl⟩, ⟨ctRed, by kernel_rfl⟩, ⟨ctRight, by kernel_rfl⟩, ⟨ctFPrime, by kernel_rfl⟩, okW3⟩
theorem runPSub (a b : N4) : fnS Tryd.prog (lookG tblP3) orc0 [] 10 40 [.val true [.n4 a], .val true [.n4 b]] =
    some (AV.val true [IV.n4 (ofN (fAdd (val a % Pp) (val (ofN (fNeg (val b % Pp))) % Pp)))], []) := by kernel_rfl
def pwH (a e o : N4) : Heap := [(0, ⟨true, [.n4 (ofN 0)]⟩), (1, ⟨true, [.n4 o]⟩), (2, ⟨true, [.n4 e]⟩), (3, ⟨true, [.n4 a]⟩)]
def ppTd : List Nat := [4, 5, 6, 10]
def ppInv (a e o : N4) (i : Int) : St := ⟨slotsOf 19 [(4, sc (.ptr 0 0)), (5, sc (.ptr 1 0)), (6, .fn 66 [] [(1, 0), (2, 0), (3, 0)]), (10, sc (.i64 i))], pwH a e o, 16⟩
theorem runStep (a e o : N4) (i : Int) : cloS Tryd.prog (lookG tblP3) orc0 10 66 [sc (.i64 i), sc (.ptr 1 0), sc (.ptr 2 0), sc (.ptr 3 0)] (pwH a e o) 128 =
    some (AV.tup [], [(0, Blk.mk true [IV.n4 (ofN 0)]), (1, Blk.mk true [IV.n4 (if bitN e i = BitVec.ofNat 64 0 then ofN (fMul (val o % Pp) (val o % Pp)) else ofN (fMul (val (ofN (fMul (val o % Pp) (val o % Pp))) % Pp) (val a % Pp)))]), (2, Blk.mk true [IV.n4 e]), (3, Blk.mk true [IV.n4 a])], 336, []) := by kernel_rfl
theorem ppRound (a e o o' : N4) (i : Int) : roundS Tryd.prog (lookG tblP3) (orcI [(4, [(0, true)])] [] [(6, ⟨3, .tup [], pwH a e o', 336⟩)]) [] 10 ppTd (bodyAt Tryd.prog 62 4) (ppInv a e o i) =
    some (Ex.normal, St.mk (slotsOf 19 [(4, sc (IV.ptr 0 0)), (5, sc (IV.ptr 1 0)), (6, AV.fn 66 [] [(1, 0), (2, 0), (3, 0)]), (10, sc (IV.i64 (i + (1 : Int))))]) [(0, Blk.mk true [IV.n4 (ofN 0)]), (1, Blk.mk true [IV.n4 o']), (2, Blk.mk true [IV.n4 e]), (3, Blk.mk true [IV.n4 a])] 16, [decide (i < (256 : Int)) = true, CloTo Tryd.prog 66 [sc (IV.i64 ((255 : Int) - i)), sc (IV.ptr 1 0), sc (IV.ptr 2 0), sc (IV.ptr 3 0)] [(0, Blk.mk true [IV.n4 (ofN 0)]), (1, Blk.mk true [IV.n4 o]), (2, Blk.mk true [IV.n4 e]), (3, Blk.mk true [IV.n4 a])] 128 (AV.tup []) [(0, Blk.mk true [IV.n4 (ofN 0)]), (1, Blk.mk true [IV.n4 o']), (2, Blk.mk true [IV.n4 e]), (3, Blk.mk true [IV.n4 a])] 336, inI64 ((255 : Int) - i), inI64 (i + (1 : Int))]) := by kernel_rfl
theorem ppEx (a e o : N4) (i : Int) : roundS Tryd.prog (lookG tblP3) (orcA [(4, [(0, false)])]) [] 10 ppTd (bodyAt Tryd.prog 62 4) (ppInv a e o i) =
    some (Ex.exit 0, St.mk (slotsOf 19 [(4, sc (IV.ptr 0 0)), (5, sc (IV.ptr 1 0)), (6, AV.fn 66 [] [(1, 0), (2, 0), (3, 0)]), (10, sc (IV.i64 i))]) [(0, Blk.mk true [IV.n4 (ofN 0)]), (1, Blk.mk true [IV.n4 o]), (2, Blk.mk true [IV.n4 e]), (3, Blk.mk true [IV.n4 a])] 16, [decide (i < (256 : Int)) = false]) := by kernel_rfl
theorem runPPw (a e o : N4) (i : Int) : fnS Tryd.prog (lookG tblP3) (orcA []) [⟨4, ppTd, .exit 0, ppInv a e o i⟩] 10 62 [.val true [.n4 a], .val true [.n4 e]] =
    some (AV.val true [IV.n4 o], [LoopTo Tryd.prog (bodyAt Tryd.prog 62 4) (St.mk (slotsOf 19 [(4, sc (IV.ptr 0 0)), (5, sc (IV.ptr 1 0)), (6, AV.fn 66 [] [(1, 0), (2, 0), (3, 0)]), (10, sc (IV.i64 (0 : Int)))]) [(0, Blk.mk true [IV.n4 (N4.mk (BitVec.ofNat 64 0) (BitVec.ofNat 64 0) (BitVec.ofNat 64 0) (BitVec.ofNat 64 0))]), (1, Blk.mk true [IV.n4 (N4.mk (BitVec.ofNat 64 1) (BitVec.ofNat 64 0) (BitVec.ofNat 64 0) (BitVec.ofNat 64 0))]), (2, Blk.mk true [IV.n4 e]), (3, Blk.mk true [IV.n4 a])] 16) (Ex.exit 0) (St.mk (slotsOf 19 [(4, sc (IV.ptr 0 0)), (5, sc (IV.ptr 1 0)), (6, AV.fn 66 [] [(1, 0), (2, 0), (3, 0)]), (10, sc (IV.i64 i))]) [(0, Blk.mk true [IV.n4 (ofN 0)]), (1, Blk.mk true [IV.n4 o]), (2, Blk.mk true [IV.n4 e]), (3, Blk.mk true [IV.n4 a])] 16)]) := by kernel_rfl
theorem runZ : N4.mk (BitVec.ofNat 64 0) (BitVec.ofNat 64 0) (BitVec.ofNat 64 0) (BitVec.ofNat 64 0) = ofN 0 := rfl
theorem pwB (A E : Nat) (hA : A < Pp) (e : N4) (he : val e = E) (j : Nat) (hj : j < 256) :
    (if bitN e ((255 : Int) - (j : Nat)) = BitVec.ofNat 64 0 then ofN (fMul (pw A (E / 2 ^ (256 - j))) (pw A (E / 2 ^ (256 - j)))) else ofN (fMul (fMul (pw A (E / 2 ^ (256 - j))) (pw A (E / 2 ^ (256 - j)))) A)) = ofN (pw A (E / 2 ^ (256 - (j + 1)))) := by
  have hi : ((255 : Int) - (j : Nat)).toNat = 255 - j := by omega
  have hb : bitN e ((255 : Int) - (j : Nat)) = BitVec.ofNat 64 (E / 2 ^ (255 - j) % 2) := by
    unfold bitN
    rw [if_neg (by omega), hi, he]
  have hm : E / 2 ^ (256 - j) = E / 2 ^ (255 - j) / 2 := by
    rw [Nat.div_div_eq_div_mul, ← Nat.pow_succ, show (255 - j).succ = 256 - j by omega]
  have hA1 : pw A 1 = A := by unfold pw; rw [Nat.pow_one, Nat.mod_eq_of_lt hA]
  rw [hb, hm, show 256 - (j + 1) = 255 - j by omega, pw_mul]
  generalize E / 2 ^ (255 - j) = m
  have hmod := Nat.mod_two_eq_zero_or_one m
  rcases hmod with e0 | e0
  · rw [e0, if_pos rfl, show m / 2 + m / 2 = m by omega]
  · rw [e0, if_neg (by decide)]
    have := pw_mul A (m / 2 + m / 2) 1
    rw [hA1] at this
    rw [this, show m / 2 + m / 2 + 1 = m by omega]
theorem val_pw (A m : Nat) : val (ofN (pw A m)) = pw A m := by rw [val_ofN, Nat.mod_eq_of_lt (lt256 (pw_lt A m))]
theorem pw_mod (A m : Nat) : pw A m % Pp = pw A m := Nat.mod_eq_of_lt (pw_lt A m)
theorem ppLoop (a e : N4) : LoopTo Tryd.prog (bodyAt Tryd.prog 62 4) (ppInv a e (ofN 1) 0) (.exit 0) (ppInv a e (ofN (pw (val a % Pp) (val e))) ((256 : Nat) : Int)) := by
  have h0 : ppInv a e (ofN 1) 0 = ppInv a e (ofN (pw (val a % Pp) (val e / 2 ^ (256 - 0)))) ((0 : Nat) : Int) := by
    have h1 : pw (val a % Pp) (val e / 2 ^ (256 - 0)) = 1 := by
      rw [show (2 : Nat) ^ (256 - 0) = p256 by decide, Nat.div_eq_of_lt (val_lt e)]
      unfold pw
      rw [Nat.pow_zero]
      decide
    rw [h1]; rfl
  have hn : ppInv a e (ofN (pw (val a % Pp) (val e))) ((256 : Nat) : Int) = ppInv a e (ofN (pw (val a % Pp) (val e / 2 ^ (256 - 256)))) ((256 : Nat) : Int) := by rw [Nat.sub_self, Nat.pow_zero, Nat.div_one]
  rw [h0, hn]
  refine LoopTo.intro (α := Nat) gsP3 fol (fun i => ppInv a e (ofN (pw (val a % Pp) (val e / 2 ^ (256 - i)))) (i : Nat)) (fun i => i ≤ 256) (fun i => 256 - i) (by simp) ?_ 0 (by simp)
  intro i hi
  by_cases hl : i = 256
  · rw [hl]
    exact .inr ⟨_, _, _, _, _, ppEx _ _ _ _, decide_eq_false (by omega), trivial⟩
  · have r1 := runStep a e (ofN (pw (val a % Pp) (val e / 2 ^ (256 - i)))) ((255 : Int) - (i : Nat))
    have hA := Nat.mod_lt (val a) Pp_pos
    have hf : ∀ x y, val (ofN (fMul x y)) = fMul x y := fun x y => by rw [val_ofN, Nat.mod_eq_of_lt (lt256 (fMul_lt x y))]
    have hf2 : ∀ x y, fMul x y % Pp = fMul x y := fun x y => Nat.mod_eq_of_lt (fMul_lt x y)
    simp only [val_pw, pw_mod, hf, hf2] at r1
    rw [pwB (val a % Pp) (val e) hA e rfl i (by omega)] at r1
    have c1 := CloTo_of_cloS gsP3 fol (fun _ => rfl) r1 trivial
    have r0 := ppRound a e (ofN (pw (val a % Pp) (val e / 2 ^ (256 - i)))) (ofN (pw (val a % Pp) (val e / 2 ^ (256 - (i + 1))))) (i : Nat)
    have e4 : ((i : Nat) : Int) + 1 = ((i + 1 : Nat) : Int) := by omega
    rw [e4] at r0
    refine .inl ⟨_, _, _, _, _, i + 1, r0, ?_, by omega, by omega⟩
    exact ⟨decide_eq_true (by omega), c1, by unfold inI64; omega, by unfold inI64; omega, trivial⟩
def spPPow : List AV → Option (AV × List Prop)
  | [.val true [.n4 a], .val true [.n4 e]] => some (.val true [.n4 (ofN (pw (val a % Pp) (val e)))], [])
  | _ => none
theorem ctPPow : CtSOk Tryd.prog 62 (.fn spPPow) := FnS_of_fnS gsP3 fol fun ds r cs h hc => by
  unfold spPPow at h
  split at h
  case h_2 => simp at h
  rename_i a e
  simp only [Option.some.injEq, Prod.mk.injEq] at h
  obtain ⟨rfl, rfl⟩ := h
  exact use_run (runPPw a e (ofN (pw (val a % Pp) (val e))) ((256 : Nat) : Int)) rfl ⟨ppLoop a e, trivial⟩
theorem runPEnc (a : N4) : fnS Tryd.prog (lookG tblP2) (orcA []) [] 10 57 [.val true [.n4 a]] =
    some (sc (IV.d8 (cutL (bl (val (ofN (val a % Pp))) 32) 0 (bl (val (ofN (val a % Pp))) 32).length (bl (val (ofN (val a % Pp))) 32).length)), [0 + (bl (val (ofN (val a % Pp))) 32).length ≤ (bl (val (ofN (val a % Pp))) 32).length]) := by kernel_rfl
end Go.Proofs.YtlgiaglbdifkpaaDoor
/- Contracts of the program's field: roots, inverses, bytes. Own work. -/
namespace Go.Proofs.YtlgiaglbdifkpaaDoor
open Go.Ev Go.Sp Go.RowKit
set_option maxRecDepth 100000
/-- Powers by whatever function: no big power is to be evaluated. -/
def spPwG (f : Nat → Nat → Nat) : List AV → Option (AV × List Prop)
  | [.val true [.n4 a], .val true [.n4 e]] => some (.val true [.n4 (ofN (f (val a % Pp) (val e)))], [])
  | _ => none
theorem spPwG_pw : spPwG pw = spPPow := rfl
def tblP4 (f : Nat → Nat → Nat) : List (FuncId × CtS) :=
  (62, .fn (spPwG f)) :: tblP3
theorem gsP4 : GSound Tryd.prog (upG (lookG (tblP4 pw))) := GSound_of_tbl ⟨⟨ctPPow, by kernel_rfl⟩, ⟨ctPAdd, by kernel_rfl⟩, ⟨ctPNeg, by kernel_rfl⟩, ⟨ctPMul, by kernel_rfl⟩, ⟨ctRed, by kernel_rfl⟩, ⟨ctRight, by kernel_rfl⟩, ⟨ctFPrime, by kernel_rfl⟩, okW3⟩
theorem runPInv (f : Nat → Nat → Nat) (a : N4) : fnS Tryd.prog (lookG (tblP4 f)) orc0 [] 10 41 [.val true [.n4 a]] =
    some (AV.val true [IV.n4 (ofN (f (val a % Pp) 57896044618658097711785492504343953926634992332820282019728792003956564819947))], []) := by kernel_rfl
theorem runPRt0 (f : Nat → Nat → Nat) (a : N4) : fnS Tryd.prog (lookG (tblP4 f)) (orcA [(5, [(4, false)]), (7, [(4, false)])]) [] 10 39 [.val true [.n4 a]] =
    some (AV.tup [(true, [IV.n4 (if (ofN (f (val (ofN (val a % Pp)) % Pp) 7237005577332262213973186563042994240829374041602535252466099000494570602494)).get 0 &&& BitVec.ofNat 64 1 = BitVec.ofNat 64 0 then ofN (f (val (ofN (val a % Pp)) % Pp) 7237005577332262213973186563042994240829374041602535252466099000494570602494) else ofN (fNeg (val (ofN (f (val (ofN (val a % Pp)) % Pp) 7237005577332262213973186563042994240829374041602535252466099000494570602494)) % Pp)))]), (false, [IV.bool true])], [(!((ofN (fMul (val (ofN (f (val (ofN (val a % Pp)) % Pp) 7237005577332262213973186563042994240829374041602535252466099000494570602494)) % Pp) (val (ofN (f (val (ofN (val a % Pp)) % Pp) 7237005577332262213973186563042994240829374041602535252466099000494570602494)) % Pp))).eq (ofN (val a % Pp)) && true)) = false, (!((ofN (fMul (val (ofN (f (val (ofN (val a % Pp)) % Pp) 7237005577332262213973186563042994240829374041602535252466099000494570602494)) % Pp) (val (ofN (f (val (ofN (val a % Pp)) % Pp) 7237005577332262213973186563042994240829374041602535252466099000494570602494)) % Pp))).eq (ofN (val a % Pp)) && true)) = false, (0 : Int) ≤ (0 : Int), 0 < 4, 0 < 4]) := by kernel_rfl
theorem runPRt1 (f : Nat → Nat → Nat) (a : N4) : fnS Tryd.prog (lookG (tblP4 f)) (orcA [(5, [(4, true)]), (7, [(4, false)])]) [] 10 39 [.val true [.n4 a]] =
    some (AV.tup [(true, [IV.n4 (if (ofN (fMul (val (ofN (f (val (ofN (val a % Pp)) % Pp) 7237005577332262213973186563042994240829374041602535252466099000494570602494)) % Pp) (val (ofN (f 2 14474011154664524427946373126085988481658748083205070504932198000989141204987)) % Pp))).get 0 &&& BitVec.ofNat 64 1 = BitVec.ofNat 64 0 then ofN (fMul (val (ofN (f (val (ofN (val a % Pp)) % Pp) 7237005577332262213973186563042994240829374041602535252466099000494570602494)) % Pp) (val (ofN (f 2 14474011154664524427946373126085988481658748083205070504932198000989141204987)) % Pp)) else ofN (fNeg (val (ofN (fMul (val (ofN (f (val (ofN (val a % Pp)) % Pp) 7237005577332262213973186563042994240829374041602535252466099000494570602494)) % Pp) (val (ofN (f 2 14474011154664524427946373126085988481658748083205070504932198000989141204987)) % Pp))) % Pp)))]), (false, [IV.bool true])], [(!((ofN (fMul (val (ofN (f (val (ofN (val a % Pp)) % Pp) 7237005577332262213973186563042994240829374041602535252466099000494570602494)) % Pp) (val (ofN (f (val (ofN (val a % Pp)) % Pp) 7237005577332262213973186563042994240829374041602535252466099000494570602494)) % Pp))).eq (ofN (val a % Pp)) && true)) = true, (!((ofN (fMul (val (ofN (fMul (val (ofN (f (val (ofN (val a % Pp)) % Pp) 7237005577332262213973186563042994240829374041602535252466099000494570602494)) % Pp) (val (ofN (f 2 14474011154664524427946373126085988481658748083205070504932198000989141204987)) % Pp))) % Pp) (val (ofN (fMul (val (ofN (f (val (ofN (val a % Pp)) % Pp) 7237005577332262213973186563042994240829374041602535252466099000494570602494)) % Pp) (val (ofN (f 2 14474011154664524427946373126085988481658748083205070504932198000989141204987)) % Pp))) % Pp))).eq (ofN (val a % Pp)) && true)) = false, (0 : Int) ≤ (0 : Int), 0 < 4, 0 < 4]) := by kernel_rfl
theorem runPRtN (f : Nat → Nat → Nat) (a : N4) : fnS Tryd.prog (lookG (tblP4 f)) (orcA [(5, [(4, true)]), (7, [(4, true)])]) [] 10 39 [.val true [.n4 a]] =
    some (AV.tup [(true, [IV.n4 (N4.mk (BitVec.ofNat 64 0) (BitVec.ofNat 64 0) (BitVec.ofNat 64 0) (BitVec.ofNat 64 0))]), (false, [IV.bool false])], [(!((ofN (fMul (val (ofN (f (val (ofN (val a % Pp)) % Pp) 7237005577332262213973186563042994240829374041602535252466099000494570602494)) % Pp) (val (ofN (f (val (ofN (val a % Pp)) % Pp) 7237005577332262213973186563042994240829374041602535252466099000494570602494)) % Pp))).eq (ofN (val a % Pp)) && true)) = true, (!((ofN (fMul (val (ofN (fMul (val (ofN (f (val (ofN (val a % Pp)) % Pp) 7237005577332262213973186563042994240829374041602535252466099000494570602494)) % Pp) (val (ofN (f 2 14474011154664524427946373126085988481658748083205070504932198000989141204987)) % Pp))) % Pp) (val (ofN (fMul (val (ofN (f (val (ofN (val a % Pp)) % Pp) 7237005577332262213973186563042994240829374041602535252466099000494570602494)) % Pp) (val (ofN (f 2 14474011154664524427946373126085988481658748083205070504932198000989141204987)) % Pp))) % Pp))).eq (ofN (val a % Pp)) && true)) = true]) := by kernel_rfl
theorem eq_N4 (a b : N4) : (a.eq b && true) = (val a == val b) := by
  rw [Bool.and_true]
  by_cases h : a = b
  · subst h; unfold N4.eq; simp
  · have h1 : ¬ val a = val b := fun e => h (val_inj e)
    rw [beq_eq_false_iff_ne.2 h1]
    cases hc : N4.eq a b with
    | false => rfl
    | true =>
      unfold N4.eq at hc
      simp only [Bool.and_eq_true, beq_iff_eq] at hc
      exact absurd (N4_ext hc.1 hc.2.1 hc.2.2.1 hc.2.2.2) h
theorem val_lo {x : Nat} (h : x < Pp) : val (ofN x) = x := by rw [val_ofN, Nat.mod_eq_of_lt (lt256 h)]
theorem odd_get (x : Nat) : ((ofN x).get 0 &&& BitVec.ofNat 64 1 = BitVec.ofNat 64 0) = (x % 2 = 0) := by
  show (BitVec.ofNat 64 x &&& BitVec.ofNat 64 1 = BitVec.ofNat 64 0) = _
  apply propext
  rw [← BitVec.toNat_inj]
  simp only [BitVec.toNat_and, BitVec.toNat_ofNat]
  rw [show (1 : Nat) % 2 ^ 64 = 1 by decide, Nat.and_one_is_mod]
  simp only [Nat.zero_mod]
  omega
theorem even_if (x : Nat) : (if (ofN x).get 0 &&& BitVec.ofNat 64 1 = BitVec.ofNat 64 0 then ofN x else ofN (fNeg x)) = ofN (if x % 2 = 0 then x else fNeg x) := by
  by_cases h : x % 2 = 0
  · rw [if_pos h, if_pos ((odd_get x).mpr h)]
  · rw [if_neg h, if_neg fun e => h ((odd_get x).mp e)]
theorem ctPInv : CtSOk Tryd.prog 41 (.fn (sp1N fInv)) := FnS_of_fnS gsP4 fol fun ds r cs h hc => by
  unfold sp1N at h
  split at h
  case h_2 => simp at h
  rename_i a
  simp only [Option.some.injEq, Prod.mk.injEq] at h
  obtain ⟨rfl, rfl⟩ := h
  exact use_run (runPInv pw a) rfl trivial
theorem ctPSub : CtSOk Tryd.prog 40 (.fn (sp2N fSub)) := FnS_of_fnS gsP3 fol fun ds r cs h hc => by
  unfold sp2N at h
  split at h
  case h_2 => simp at h
  rename_i a b
  simp only [Option.some.injEq, Prod.mk.injEq] at h
  obtain ⟨rfl, rfl⟩ := h
  refine use_run (runPSub a b) ?_ trivial
  have h1 : val (ofN (fNeg (val b % Pp))) = fNeg (val b % Pp) := val_lo (fNeg_lt _)
  rw [h1, Nat.mod_eq_of_lt (fNeg_lt _)]
  rfl
def P38 : Nat := 7237005577332262213973186563042994240829374041602535252466099000494570602494
def turnQ : Nat := pw 2 14474011154664524427946373126085988481658748083205070504932198000989141204987
theorem turnQ_lt : turnQ < Pp := pw_lt _ _
theorem turnQ_def : pw 2 14474011154664524427946373126085988481658748083205070504932198000989141204987 = turnQ := by unfold turnQ; with_reducible rfl
def evenV (r : Nat) : Nat := if r % 2 = 0 then r else fNeg r
def prV (x : Nat) : Nat × Bool :=
  if fMul (pw x P38) (pw x P38) = x then (evenV (pw x P38), true) else if fMul (fMul (pw x P38) turnQ) (fMul (pw x P38) turnQ) = x then (evenV (fMul (pw x P38) turnQ), true) else (0, false)
def spPRt : List AV → Option (AV × List Prop)
  | [.val true [.n4 a]] => some (.tup [(true, [.n4 (ofN (prV (val a % Pp)).1)]), (false, [.bool (prV (val a % Pp)).2])], [])
  | _ => none
theorem bT {x y : Nat} (h : x ≠ y) : (!(x == y)) = true := by simp [h]
theorem bF {x y : Nat} (h : x = y) : (!(x == y)) = false := by simp [h]
theorem ctPRt : CtSOk Tryd.prog 39 (.fn spPRt) := FnS_of_fnS gsP4 fol fun ds r cs h hc => by
  unfold spPRt at h
  split at h
  case h_2 => simp at h
  rename_i a
  simp only [Option.some.injEq, Prod.mk.injEq] at h
  obtain ⟨rfl, rfl⟩ := h
  have hx : val a % Pp < Pp := Nat.mod_lt _ Pp_pos
  have h0 := runPRt0 pw a
  have h1 := runPRt1 pw a
  have hN := runPRtN pw a
  have m1 : ∀ x, x < Pp → x % Pp = x := fun x h => Nat.mod_eq_of_lt h
  have v1 : val (ofN (val a % Pp)) = val a % Pp := val_lo hx
  have v3 : ∀ x y, val (ofN (fMul x y)) = fMul x y := fun x y => val_lo (fMul_lt x y)
  have v4 : ∀ x y, fMul x y % Pp = fMul x y := fun x y => m1 _ (fMul_lt x y)
  have v5 : val (ofN turnQ) = turnQ := val_lo turnQ_lt
  have v6 : turnQ % Pp = turnQ := m1 _ turnQ_lt
  simp only [eq_N4, v1, m1 _ hx, turnQ_def, v5, v6, val_pw, pw_mod, v3, v4, even_if] at h0 h1 hN
  by_cases e1 : fMul (pw (val a % Pp) P38) (pw (val a % Pp) P38) = val a % Pp
  · exact use_run h0 (by rw [prV, if_pos e1]; unfold evenV P38; with_reducible rfl) ⟨bF e1, bF e1, by omega, by omega, by omega, trivial⟩
  · by_cases e2 : fMul (fMul (pw (val a % Pp) P38) turnQ) (fMul (pw (val a % Pp) P38) turnQ) = val a % Pp
    · exact use_run h1 (by rw [prV, if_neg e1, if_pos e2]; unfold evenV P38; with_reducible rfl) ⟨bT e1, bF e2, by omega, by omega, by omega, trivial⟩
    · exact use_run hN (by rw [prV, if_neg e1, if_neg e2]; rfl) ⟨bT e1, bT e2, trivial⟩
def spPEnc : List AV → Option (AV × List Prop)
  | [.val true [.n4 a]] => some (sc (.d8 (bl (val a % Pp) 32)), [])
  | _ => none
theorem ctPEnc : CtSOk Tryd.prog 57 (.fn spPEnc) := FnS_of_fnS gsP2 fol fun ds r cs h hc => by
  unfold spPEnc at h
  split at h
  case h_2 => simp at h
  rename_i a
  simp only [Option.some.injEq, Prod.mk.injEq] at h
  obtain ⟨rfl, rfl⟩ := h
  have h := runPEnc a
  have hx : val a % Pp < Pp := Nat.mod_lt _ Pp_pos
  rw [val_lo hx, cutL_all] at h
  exact use_run h rfl ⟨by omega, trivial⟩
def spPDec : List AV → Option (AV × List Prop)
  | [.val false [.d8 b]] => some (.tup [(true, [.n4 (ofN (decV b).1)]), (false, [.i64 (decV b).2])], [])
  | _ => none
def tblP5 : List (FuncId × CtS) :=
  (39, .fn spPRt) :: (41, .fn (sp1N fInv)) :: (40, .fn (sp2N fSub)) :: (57, .fn spPEnc) :: (tblP4 pw)
theorem okP5 : TblOk Tryd.prog tblP5 := ⟨⟨ctPRt, by kernel_rfl⟩, ⟨ctPInv, by kernel_rfl⟩, ⟨ctPSub, by kernel_rfl⟩, ⟨ctPEnc, by kernel_rfl⟩, ⟨ctPPow, by kernel_rfl⟩, ⟨ctPAdd, by kernel_rfl⟩, ⟨ctPNeg, by kernel_rfl⟩, ⟨ctPMul, by kernel_rfl⟩, ⟨ctRed, by kernel_rfl⟩, ⟨ctRight, by kernel_rfl⟩, ⟨ctFPrime, by kernel_rfl⟩, okW3⟩
end Go.Proofs.YtlgiaglbdifkpaaDoor
/- Laws of the field, plainly. Own work; no program in sight. -/
namespace Go.Proofs.YtlgiaglbdifkpaaDoor
open Go.Ev Go.Sp Go.RowKit
set_option maxRecDepth 100000
theorem fMul_comm (x y : Nat) : fMul x y = fMul y x := by unfold fMul; rw [Nat.mul_comm]
theorem fMul_assoc (x y z : Nat) : fMul (fMul x y) z = fMul x (fMul y z) := by unfold fMul; rw [Nat.mod_mul_mod, Nat.mul_mod_mod, Nat.mul_assoc]
theorem fAdd_comm (x y : Nat) : fAdd x y = fAdd y x := by unfold fAdd; rw [Nat.add_comm]
theorem fAdd_assoc (x y z : Nat) : fAdd (fAdd x y) z = fAdd x (fAdd y z) := by unfold fAdd; rw [Nat.mod_add_mod, Nat.add_mod_mod, Nat.add_assoc]
theorem fMul_add (x y z : Nat) : fMul x (fAdd y z) = fAdd (fMul x y) (fMul x z) := by unfold fMul fAdd; rw [Nat.mul_mod_mod, Nat.mul_add, ← Nat.add_mod]
theorem fMul_one {x : Nat} (h : x < Pp) : fMul x 1 = x := by unfold fMul; rw [Nat.mul_one, Nat.mod_eq_of_lt h]
theorem fNeg_zero : fNeg 0 = 0 := by unfold fNeg; rw [Nat.sub_zero, Nat.mod_self]
theorem fNeg_pos {x : Nat} (h0 : x ≠ 0) (h : x < Pp) : fNeg x = Pp - x := Nat.mod_eq_of_lt (by omega)
theorem fNeg_neg {x : Nat} (h : x < Pp) : fNeg (fNeg x) = x := by
  by_cases h0 : x = 0
  · subst h0; rw [fNeg_zero, fNeg_zero]
  · rw [fNeg_pos h0 h, fNeg_pos (by omega) (by omega)]; omega
theorem fAdd_neg {x : Nat} (h : x < Pp) : fAdd x (fNeg x) = 0 := by
  by_cases h0 : x = 0
  · subst h0; rw [fNeg_zero]; rfl
  · rw [fNeg_pos h0 h, fAdd, show x + (Pp - x) = Pp by omega, Nat.mod_self]
theorem fAdd_zero {x : Nat} (h : x < Pp) : fAdd x 0 = x := Nat.mod_eq_of_lt h
theorem fNeg_mul {x : Nat} (h : x < Pp) : fMul x (Pp - 1) = fNeg x := by
  by_cases h0 : x = 0
  · subst h0; rw [fNeg_zero, fMul, Nat.zero_mul, Nat.zero_mod]
  · rw [fNeg_pos h0 h, fMul]
    have e : x * (Pp - 1) = Pp - x + Pp * (x - 1) := by
      have hx : x * (Pp - 1) + x = x * Pp := by rw [← Nat.mul_succ, show (Pp - 1).succ = Pp by decide]
      have hy : Pp * (x - 1) + Pp = Pp * x := by rw [← Nat.mul_succ, show (x - 1).succ = x by omega]
      rw [Nat.mul_comm Pp x] at hy
      generalize x * (Pp - 1) = u at *
      generalize Pp * (x - 1) = v at *
      generalize x * Pp = w at *
      omega
    rw [e, Nat.add_mul_mod_self_left, Nat.mod_eq_of_lt (by omega)]
theorem fNeg_sq {x : Nat} (h : x < Pp) : fMul (fNeg x) (fNeg x) = fMul x x := by
  have h1 : fMul (Pp - 1) (Pp - 1) = 1 := by kernel_rfl
  rw [← fNeg_mul h, fMul_assoc, ← fMul_assoc (Pp - 1), fMul_comm (Pp - 1) x, fMul_assoc x, h1, ← fMul_assoc, fMul_one (fMul_lt _ _)]
theorem fNeg_mul2 {x y : Nat} (h : x < Pp) : fMul (fNeg x) y = fNeg (fMul x y) := by
  rw [← fNeg_mul h, fMul_assoc, fMul_comm (Pp - 1), ← fMul_assoc, fNeg_mul (fMul_lt _ _)]
theorem fMul_zero (x : Nat) : fMul x 0 = 0 := rfl
theorem dom {x y : Nat} (hx : x < Pp) (hy : y < Pp) (h : fMul x y = 0) : x = 0 ∨ y = 0 := by
  rcases euclid h with h | h
  · rw [Nat.mod_eq_of_lt hx] at h; exact .inl h
  · rw [Nat.mod_eq_of_lt hy] at h; exact .inr h
/-- Two numbers of one square. -/
theorem sq_eq {x y : Nat} (hx : x < Pp) (hy : y < Pp) (h : fMul x x = fMul y y) : x = y ∨ x = fNeg y := by
  have h1 : fMul (fAdd x (fNeg y)) (fAdd x y) = 0 := by
    rw [fMul_add, fMul_comm _ x, fMul_comm _ y, fMul_add, fMul_add, h, fMul_comm x (fNeg y), fMul_comm y (fNeg y), fNeg_mul2 hy, fNeg_mul2 hy, fMul_comm y x, fAdd_assoc]
    rw [← fAdd_assoc (fNeg _) (fMul x y), fAdd_comm (fNeg _) (fMul x y), fAdd_neg (fMul_lt _ _), fAdd_comm 0, fAdd_zero (fNeg_lt _), fAdd_neg (fMul_lt _ _)]
  have add0 : ∀ {a b : Nat}, a < Pp → b < Pp → fAdd a b = 0 → a = fNeg b := by
    intro a b ha hb h
    have : fAdd (fAdd a b) (fNeg b) = fNeg b := by rw [h, fAdd_comm, fAdd_zero (fNeg_lt _)]
    rw [fAdd_assoc, fAdd_neg hb, fAdd_zero ha] at this
    exact this
  rcases dom (fAdd_lt _ _) (fAdd_lt _ _) h1 with h | h
  · left; have := add0 hx (fNeg_lt _) h; rwa [fNeg_neg hy] at this
  · exact .inr (add0 hx hy h)
/-! ### Powers -/
theorem pw_one {x : Nat} (h : x < Pp) : pw x 1 = x := by unfold pw; rw [Nat.pow_one, Nat.mod_eq_of_lt h]
theorem pw_pw (x m n : Nat) : pw (pw x m) n = pw x (m * n) := by unfold pw; rw [← Nat.pow_mod, Nat.pow_mul]
theorem pw_fmul (x y n : Nat) : pw (fMul x y) n = fMul (pw x n) (pw y n) := by unfold pw fMul; rw [← Nat.pow_mod, Nat.mul_pow, Nat.mul_mod]
theorem pw_fermat {x : Nat} (h0 : x ≠ 0) (h : x < Pp) : pw x (Pp - 1) = 1 := fermat h0 h
theorem pw_fast (a e : Nat) (he : e < p256) : pw a e = pm Pp 256 a e 1 % Pp := by
  rw [pm_ok Pp 256 a e 1 (by rw [show (2 : Nat) ^ 256 = p256 by decide]; exact he), Nat.one_mul]; rfl
theorem turn_sq : fMul turnQ turnQ = Pp - 1 := by
  unfold turnQ
  rw [pw_fast _ _ (by decide)]
  kernel_rfl
theorem pw_zero {n : Nat} (h : n ≠ 0) : pw 0 n = 0 := by unfold pw; rw [Nat.zero_pow (by omega)]; rfl
theorem one_lt : 1 < Pp := by decide
end Go.Proofs.YtlgiaglbdifkpaaDoor
/- Roots, plainly. Own work; no program in sight. -/
namespace Go.Proofs.YtlgiaglbdifkpaaDoor
open Go.Ev Go.Sp Go.RowKit
set_option maxRecDepth 100000
theorem turnN_Q : turnN = turnQ := by unfold turnN turnQ P14; with_reducible rfl
theorem rt0 {x : Nat} (hx : x < Pp) : rtX x 0 = pw x P38 := by
  rw [rtX]
  have := pw_mul x P58 1
  rw [pw_one hx] at this
  rw [this]
  rfl
theorem turn_mul {x : Nat} (hx : x < Pp) : fMul (fMul x turnQ) turnQ = fNeg x := by rw [fMul_assoc, turn_sq, fNeg_mul hx]
theorem rt1 {x : Nat} (hx : x < Pp) : rtX x 1 = fMul (pw x P38) turnQ := by rw [rtX, rt0 hx, turnN_Q]
theorem rt2 {x : Nat} (hx : x < Pp) : rtX x 2 = fNeg (pw x P38) := by rw [rtX, rt1 hx, turnN_Q, turn_mul (pw_lt _ _)]
theorem rt3 {x : Nat} (hx : x < Pp) : rtX x 3 = fNeg (fMul (pw x P38) turnQ) := by rw [rtX, rt2 hx, turnN_Q, fNeg_mul2 (pw_lt _ _)]
theorem turn_sq2 {r : Nat} : fMul (fMul r turnQ) (fMul r turnQ) = fNeg (fMul r r) := by
  rw [fMul_comm r turnQ, ← fMul_assoc, fMul_comm (fMul turnQ r) turnQ, ← fMul_assoc turnQ turnQ r, turn_sq, fMul_assoc, fMul_comm, fNeg_mul (fMul_lt _ _)]
theorem neg_even {r : Nat} (hr : r < Pp) (h : ¬ r % 2 = 0) : fNeg r % 2 = 0 := by
  have hp : Pp % 2 = 1 := by decide
  rw [fNeg_pos (by rintro rfl; exact h rfl) hr]
  generalize Pp = p at *
  omega
theorem neg_self {x : Nat} (hx : x < Pp) (h : fNeg x = x) : x = 0 := by
  by_cases h0 : x = 0
  · exact h0
  · have hp : Pp % 2 = 1 := by decide
    rw [fNeg_pos h0 hx] at h
    generalize Pp = p at *
    omega
theorem evT {r a : Nat} (h1 : r % 2 = 0) (h2 : fMul r r = a) : evV r a = true := by unfold evV; rw [h1, h2]; simp
theorem evF1 {r a : Nat} (h1 : ¬ r % 2 = 0) : evV r a = false := by unfold evV; rw [beq_eq_false_iff_ne.2 h1]; rfl
theorem evF2 {r a : Nat} (h1 : fMul r r ≠ a) : evV r a = false := by unfold evV; rw [beq_eq_false_iff_ne.2 h1, Bool.and_false]
theorem rtV_eq {x : Nat} (hx : x < Pp) : rtV x = prV x := by
  have hr : pw x P38 < Pp := pw_lt _ _
  have h0 := rt0 hx
  have h1 := rt1 hx
  have h2 := rt2 hx
  have h3 := rt3 hx
  have hsq : fMul (fMul (pw x P38) turnQ) (fMul (pw x P38) turnQ) = fNeg (fMul (pw x P38) (pw x P38)) := turn_sq2
  unfold prV rtV
  generalize pw x P38 = r at *
  have ho : fMul r turnQ < Pp := fMul_lt _ _
  have s2 := fNeg_sq hr
  have s3 := fNeg_sq ho
  by_cases e1 : fMul r r = x
  · rw [if_pos e1]
    by_cases p : r % 2 = 0
    · rw [rtS_at x 4 0 0 (by omega) (by omega) (by rw [h0]; exact evT p e1) (fun j h h' => by omega), h0, evenV, if_pos p]
    · have hx0 : x ≠ 0 := by
        rintro rfl
        rcases dom hr hr e1 with e | e <;> (subst e; exact p rfl)
      have n1 : evV (rtX x 1) x = false := by
        rw [h1]
        exact evF2 fun e => hx0 (neg_self hx (by rw [hsq, e1] at e; exact e))
      rw [rtS_at x 4 0 2 (by omega) (by omega) (by rw [h2]; exact evT (neg_even hr p) (s2.trans e1)) (fun j h h' => by
        have : j = 0 ∨ j = 1 := by omega
        rcases this with rfl | rfl
        · rw [h0]; exact evF1 p
        · exact n1), h2, evenV, if_neg p]
  · rw [if_neg e1]
    have n0 : evV (rtX x 0) x = false := by rw [h0]; exact evF2 e1
    have n2 : evV (rtX x 2) x = false := by rw [h2]; exact evF2 (by rw [s2]; exact e1)
    by_cases e2 : fMul (fMul r turnQ) (fMul r turnQ) = x
    · rw [if_pos e2]
      by_cases p : fMul r turnQ % 2 = 0
      · rw [rtS_at x 4 0 1 (by omega) (by omega) (by rw [h1]; exact evT p e2) (fun j h h' => by
          have : j = 0 := by omega
          rw [this]; exact n0), h1, evenV, if_pos p]
      · rw [rtS_at x 4 0 3 (by omega) (by omega) (by rw [h3]; exact evT (neg_even ho p) (s3.trans e2)) (fun j h h' => by
          have : j = 0 ∨ j = 1 ∨ j = 2 := by omega
          rcases this with rfl | rfl | rfl
          · exact n0
          · rw [h1]; exact evF1 p
          · exact n2), h3, evenV, if_neg p]
    · rw [if_neg e2, rtS_all x 4 0 fun j h h' => ?_]
      have : j = 0 ∨ j = 1 ∨ j = 2 ∨ j = 3 := by omega
      rcases this with rfl | rfl | rfl | rfl
      · exact n0
      · rw [h1]; exact evF2 e2
      · exact n2
      · rw [h3]; exact evF2 (by rw [s3]; exact e2)
/-! ### Which numbers have roots -/
def Pq : Nat := 14474011154664524427946373126085988481658748083205070504932198000989141204987
theorem sqV_iff {x : Nat} : sqV x = true ↔ pw x Ph = 1 ∨ x = 0 := by unfold sqV; simp
theorem sqV_of {x y : Nat} (hy : y < Pp) (h : fMul y y = x) : sqV x = true := by
  rw [sqV_iff]
  by_cases h0 : y = 0
  · subst h0; exact .inr h.symm
  · left
    rw [← h, pw_fmul, pw_mul, show Ph + Ph = Pp - 1 by decide]
    exact pw_fermat h0 hy
theorem rr {x : Nat} (hx : x < Pp) : fMul (pw x P38) (pw x P38) = fMul x (pw x Pq) := by
  have := pw_mul x 1 Pq
  rw [pw_one hx] at this
  rw [pw_mul, this, show P38 + P38 = 1 + Pq by decide]
theorem prV_of {x : Nat} (hx : x < Pp) (h : sqV x = true) : (prV x).2 = true := by
  have h1 := rr hx
  have h2 : fMul (fMul (pw x P38) turnQ) (fMul (pw x P38) turnQ) = fNeg (fMul (pw x P38) (pw x P38)) := turn_sq2
  unfold prV
  by_cases e1 : fMul (pw x P38) (pw x P38) = x
  · rw [if_pos e1]
  · rw [if_neg e1]
    rcases sqV_iff.1 h with h | h
    · have hs : fMul (pw x Pq) (pw x Pq) = fMul 1 1 := by rw [pw_mul, show Pq + Pq = Ph by decide, h]; rfl
      rcases sq_eq (pw_lt _ _) one_lt hs with e | e
      · rw [e, fMul_one hx] at h1
        exact absurd h1 e1
      · rw [e, show fNeg 1 = Pp - 1 by decide, fNeg_mul hx] at h1
        rw [h1, fNeg_neg hx] at h2
        rw [if_pos h2]
    · subst h
      refine absurd ?_ e1
      rw [pw_zero (n := P38) (by decide)]; exact fMul_zero 0
theorem evenV_sq {r : Nat} (hr : r < Pp) : fMul (evenV r) (evenV r) = fMul r r := by
  unfold evenV
  split
  · rfl
  · exact fNeg_sq hr
theorem evenV_lt {r : Nat} (hr : r < Pp) : evenV r < Pp := by
  unfold evenV
  split
  · exact hr
  · exact fNeg_lt _
theorem evenV_even {r : Nat} (hr : r < Pp) : evenV r % 2 = 0 := by
  unfold evenV
  split
  · assumption
  · exact neg_even hr ‹_›
theorem prV_sq {x : Nat} (h : (prV x).2 = true) : fMul (prV x).1 (prV x).1 = x ∧ (prV x).1 < Pp ∧ (prV x).1 % 2 = 0 := by
  unfold prV at *
  generalize turnQ = t at *
  by_cases e1 : fMul (pw x P38) (pw x P38) = x
  · rw [if_pos e1] at *
    exact ⟨(evenV_sq (pw_lt _ _)).trans e1, evenV_lt (pw_lt _ _), evenV_even (pw_lt _ _)⟩
  · rw [if_neg e1] at *
    by_cases e2 : fMul (fMul (pw x P38) t) (fMul (pw x P38) t) = x
    · rw [if_pos e2] at *
      exact ⟨(evenV_sq (fMul_lt _ _)).trans e2, evenV_lt (fMul_lt _ _), evenV_even (fMul_lt _ _)⟩
    · rw [if_neg e2] at h; simp at h
theorem prV_no {x : Nat} (h : (prV x).2 = false) : (prV x).1 = 0 := by
  unfold prV at *
  generalize turnQ = t at *
  by_cases e1 : fMul (pw x P38) (pw x P38) = x
  · rw [if_pos e1] at h; simp at h
  · rw [if_neg e1] at *
    by_cases e2 : fMul (fMul (pw x P38) t) (fMul (pw x P38) t) = x
    · rw [if_pos e2] at h; simp at h
    · rw [if_neg e2]
theorem prV_sqV {x : Nat} (hx : x < Pp) : (prV x).2 = sqV x := by
  cases h : sqV x with
  | true => exact prV_of hx h
  | false =>
    cases h2 : (prV x).2 with
    | false => rfl
    | true =>
      obtain ⟨a, b, _⟩ := prV_sq h2
      rw [sqV_of b a] at h
      simp at h
theorem sqV_neg {x : Nat} (hx : x < Pp) : sqV (fNeg x) = sqV x := by
  have key : ∀ {x}, x < Pp → sqV x = true → sqV (fNeg x) = true := by
    intro x hx h
    have h1 := prV_of hx h
    obtain ⟨a, b, _⟩ := prV_sq h1
    refine sqV_of (y := fMul (prV x).1 turnQ) (fMul_lt _ _) ?_
    rw [turn_sq2, a]
  cases h : sqV x with
  | true => exact key hx h
  | false =>
    cases h2 : sqV (fNeg x) with
    | false => rfl
    | true =>
      have := key (fNeg_lt x) h2
      rw [fNeg_neg hx, h] at this
      simp at this
theorem sqV_mul {x y : Nat} (hx : x < Pp) (hy : y < Pp) (h1 : sqV x = true) (h2 : sqV y = true) : sqV (fMul x y) = true := by
  obtain ⟨a, a2, _⟩ := prV_sq (prV_of hx h1)
  obtain ⟨b, b2, _⟩ := prV_sq (prV_of hy h2)
  refine sqV_of (y := fMul (prV x).1 (prV y).1) (fMul_lt _ _) ?_
  generalize (prV x).1 = u at *
  generalize (prV y).1 = v at *
  rw [fMul_assoc, ← fMul_assoc v, fMul_comm v u, fMul_assoc u v v, ← fMul_assoc, a, b]
/-! ### Inverses -/
theorem inv_mul {x : Nat} (h0 : x ≠ 0) (hx : x < Pp) : fMul x (fInv x) = 1 := by
  have := pw_mul x 1 Pe
  rw [pw_one hx, show 1 + Pe = Pp - 1 by decide, pw_fermat h0 hx] at this
  exact this
theorem inv_lt (x : Nat) : fInv x < Pp := pw_lt _ _
theorem inv_zero : fInv 0 = 0 := pw_zero (by decide)
theorem inv_ne {x : Nat} (h0 : x ≠ 0) (hx : x < Pp) : fInv x ≠ 0 := by
  intro e
  have := inv_mul h0 hx
  rw [e] at this
  simp [fMul_zero] at this
theorem inv_inv {x : Nat} (hx : x < Pp) : fInv (fInv x) = x := by
  by_cases h0 : x = 0
  · subst h0; rw [inv_zero, inv_zero]
  · have h1 := inv_mul h0 hx
    have h2 := inv_mul (inv_ne h0 hx) (inv_lt x)
    rw [← fMul_one (inv_lt (fInv x)), ← h1, fMul_comm x, ← fMul_assoc, fMul_comm (fInv (fInv x)), h2, fMul_comm, fMul_one hx]
end Go.Proofs.YtlgiaglbdifkpaaDoor
/- The law of the curve -x^2 + y^2 = 1 + d x^2 y^2 over a field whose -1 is a square and whose d is none: sums are points, and hang on no order and no brackets. Own work; no program in sight. -/
namespace Go.Sp
/-- A field's numbers, and a curve's. -/
structure Cv (n : Nat) [NeZero n] where
  d : Fin n
  i : Fin n
  inv : Fin n → Fin n
  i2 : i * i = -1
  dom : ∀ a b : Fin n, a * b = 0 → a = 0 ∨ b = 0
  nsq : ∀ r : Fin n, r * r ≠ d
  inv_mul : ∀ a : Fin n, a ≠ 0 → a * inv a = 1
  one : (1 : Fin n) ≠ 0
  two : (2 : Fin n) ≠ 0
section
variable {n : Nat} [NeZero n]
theorem r_assoc_x (d x1 y1 x2 y2 x3 y3 : Fin n) (h1 : y1*y1 - x1*x1 = 1 + d*(x1*x1*(y1*y1))) (h2 : y2*y2 - x2*x2 = 1 + d*(x2*x2*(y2*y2))) (h3 : y3*y3 - x3*x3 = 1 + d*(x3*x3*(y3*y3))) :
    ((x1*y2+y1*x2)*(1 - d*(x1*x2*(y1*y2)))*y3 + (y1*y2+x1*x2)*(1 + d*(x1*x2*(y1*y2)))*x3) * ((1 - d*(x2*x3*(y2*y3)))*(1 + d*(x2*x3*(y2*y3))) + d * (x2*y3+y2*x3)*(y2*y3+x2*x3)*(x1*y1)) = (x1*(y2*y3+x2*x3)*(1 + d*(x2*x3*(y2*y3))) + y1*(x2*y3+y2*x3)*(1 - d*(x2*x3*(y2*y3)))) * ((1 - d*(x1*x2*(y1*y2)))*(1 + d*(x1*x2*(y1*y2))) + d * (x1*y2+y1*x2)*(y1*y2+x1*x2)*(x3*y3)) := by
  grind
theorem r_assoc_y (d x1 y1 x2 y2 x3 y3 : Fin n) (h1 : y1*y1 - x1*x1 = 1 + d*(x1*x1*(y1*y1))) (h2 : y2*y2 - x2*x2 = 1 + d*(x2*x2*(y2*y2))) (h3 : y3*y3 - x3*x3 = 1 + d*(x3*x3*(y3*y3))) :
    ((y1*y2+x1*x2)*(1 + d*(x1*x2*(y1*y2)))*y3 + (x1*y2+y1*x2)*(1 - d*(x1*x2*(y1*y2)))*x3) * ((1 - d*(x2*x3*(y2*y3)))*(1 + d*(x2*x3*(y2*y3))) - d * (x2*y3+y2*x3)*(y2*y3+x2*x3)*(x1*y1)) = (y1*(y2*y3+x2*x3)*(1 + d*(x2*x3*(y2*y3))) + x1*(x2*y3+y2*x3)*(1 - d*(x2*x3*(y2*y3)))) * ((1 - d*(x1*x2*(y1*y2)))*(1 + d*(x1*x2*(y1*y2))) - d * (x1*y2+y1*x2)*(y1*y2+x1*x2)*(x3*y3)) := by
  grind
theorem r_on (d x1 y1 x2 y2 : Fin n) (h1 : y1*y1 - x1*x1 = 1 + d*(x1*x1*(y1*y1))) (h2 : y2*y2 - x2*x2 = 1 + d*(x2*x2*(y2*y2))) :
    (y1*y2+x1*x2)*(y1*y2+x1*x2)*((1 + d*(x1*x2*(y1*y2)))*(1 + d*(x1*x2*(y1*y2)))) - (x1*y2+y1*x2)*(x1*y2+y1*x2)*((1 - d*(x1*x2*(y1*y2)))*(1 - d*(x1*x2*(y1*y2)))) = (1 + d*(x1*x2*(y1*y2)))*(1 + d*(x1*x2*(y1*y2)))*((1 - d*(x1*x2*(y1*y2)))*(1 - d*(x1*x2*(y1*y2)))) + d*((x1*y2+y1*x2)*(x1*y2+y1*x2)*((y1*y2+x1*x2)*(y1*y2+x1*x2))) := by
  grind
/-- What is behind the sum's being told everywhere. -/
theorem r_comp (d i e x1 y1 x2 y2 : Fin n) (hi : i * i = -1) (he : d*(x1*x2*(y1*y2)) = e) (h2e : e * e = 1) (h1 : y1*y1 - x1*x1 = 1 + d*(x1*x1*(y1*y1))) (h2 : y2*y2 - x2*x2 = 1 + d*(x2*x2*(y2*y2))) :
    (i*x1 + e*y1)*(i*x1 + e*y1) = d*((x1*y1*(i*x2 + y2))*(x1*y1*(i*x2 + y2))) := by
  grind
theorem r_comp' (d i e x1 y1 x2 y2 : Fin n) (hi : i * i = -1) (he : d*(x1*x2*(y1*y2)) = e) (h2e : e * e = 1) (h1 : y1*y1 - x1*x1 = 1 + d*(x1*x1*(y1*y1))) (h2 : y2*y2 - x2*x2 = 1 + d*(x2*x2*(y2*y2))) :
    (i*x1 - e*y1)*(i*x1 - e*y1) = d*((x1*y1*(i*x2 - y2))*(x1*y1*(i*x2 - y2))) := by
  grind
variable (C : Cv n)
def Cv.On (x y : Fin n) : Prop := y*y - x*x = 1 + C.d*(x*x*(y*y))
theorem Cv.mul_ne (C : Cv n) {a b : Fin n} (ha : a ≠ 0) (hb : b ≠ 0) : a * b ≠ 0 := fun h => (C.dom a b h).elim ha hb
theorem Cv.cancel (C : Cv n) {a b c : Fin n} (hc : c ≠ 0) (h : a * c = b * c) : a = b := by
  have h0 : (a - b) * c = 0 := by grind
  rcases C.dom _ _ h0 with h1 | h1
  · grind
  · exact absurd h1 hc
theorem Cv.notSq {w r : Fin n} (hw : w ≠ 0) : r * r ≠ C.d * (w * w) := fun h => by
  have h1 := C.inv_mul w hw
  exact C.nsq (r * C.inv w) (by grind)
theorem Cv.comp {x1 y1 x2 y2 : Fin n} (h1 : C.On x1 y1) (h2 : C.On x2 y2) : C.d*(x1*x2*(y1*y2)) * (C.d*(x1*x2*(y1*y2))) ≠ 1 := fun h => by
  obtain ⟨e, he⟩ : ∃ e, C.d*(x1*x2*(y1*y2)) = e := ⟨_, rfl⟩
  rw [he] at h
  have e0 : e ≠ 0 := fun h0 => C.one (by rw [h0] at h; grind)
  have xy : x1 * y1 ≠ 0 := fun h0 => e0 (by grind)
  have y20 : y2 ≠ 0 := fun h0 => e0 (by grind)
  have k1 := r_comp C.d C.i e x1 y1 x2 y2 C.i2 he h h1 h2
  have k2 := r_comp' C.d C.i e x1 y1 x2 y2 C.i2 he h h1 h2
  by_cases z1 : C.i*x2 + y2 = 0
  · by_cases z2 : C.i*x2 - y2 = 0
    · have : (2 : Fin n) * y2 = 0 := by grind
      exact (C.dom _ _ this).elim C.two y20
    · exact C.notSq (C.mul_ne xy z2) k2
  · exact C.notSq (C.mul_ne xy z1) k1
theorem Cv.nzA {x1 y1 x2 y2 : Fin n} (h1 : C.On x1 y1) (h2 : C.On x2 y2) : 1 + C.d*(x1*x2*(y1*y2)) ≠ 0 := fun h => C.comp h1 h2 (by grind)
theorem Cv.nzB {x1 y1 x2 y2 : Fin n} (h1 : C.On x1 y1) (h2 : C.On x2 y2) : 1 - C.d*(x1*x2*(y1*y2)) ≠ 0 := fun h => C.comp h1 h2 (by grind)
def Cv.ax (x1 y1 x2 y2 : Fin n) : Fin n := (x1*y2 + y1*x2) * C.inv (1 + C.d*(x1*x2*(y1*y2)))
def Cv.ay (x1 y1 x2 y2 : Fin n) : Fin n := (y1*y2 + x1*x2) * C.inv (1 - C.d*(x1*x2*(y1*y2)))
theorem Cv.ax_mul {x1 y1 x2 y2 : Fin n} (h1 : C.On x1 y1) (h2 : C.On x2 y2) : C.ax x1 y1 x2 y2 * (1 + C.d*(x1*x2*(y1*y2))) = x1*y2 + y1*x2 := by
  have := C.inv_mul _ (C.nzA h1 h2)
  unfold Cv.ax
  grind
theorem Cv.ay_mul {x1 y1 x2 y2 : Fin n} (h1 : C.On x1 y1) (h2 : C.On x2 y2) : C.ay x1 y1 x2 y2 * (1 - C.d*(x1*x2*(y1*y2))) = y1*y2 + x1*x2 := by
  have := C.inv_mul _ (C.nzB h1 h2)
  unfold Cv.ay
  grind
theorem r_on2 (d A B X Y u v : Fin n) (hu : u * A = X) (hv : v * B = Y) (h : Y*Y*(A*A) - X*X*(B*B) = A*A*(B*B) + d*(X*X*(Y*Y))) : (v*v - u*u) * (A*A*(B*B)) = (1 + d*(u*u*(v*v))) * (A*A*(B*B)) := by
  grind
theorem Cv.add_on {x1 y1 x2 y2 : Fin n} (h1 : C.On x1 y1) (h2 : C.On x2 y2) : C.On (C.ax x1 y1 x2 y2) (C.ay x1 y1 x2 y2) := by
  have a0 := C.nzA h1 h2
  have b0 := C.nzB h1 h2
  have hx := C.ax_mul h1 h2
  have hy := C.ay_mul h1 h2
  have hr := r_on C.d x1 y1 x2 y2 h1 h2
  generalize C.ax x1 y1 x2 y2 = u at *
  generalize C.ay x1 y1 x2 y2 = v at *
  exact C.cancel (C.mul_ne (C.mul_ne a0 a0) (C.mul_ne b0 b0)) (r_on2 C.d _ _ _ _ u v hx hy hr)
theorem r_cross_x (d A B X Y u v w x3 y3 : Fin n) (hu : u * A = X) (hv : v * B = Y) (hw : w * (1 + d*(u*x3*(v*y3))) = u*y3 + v*x3) : w * (B*A + d*X*Y*(x3*y3)) = X*B*y3 + Y*A*x3 ∧ B*A + d*X*Y*(x3*y3) = B*A*(1 + d*(u*x3*(v*y3))) := by
  grind
theorem r_cross_y (d A B X Y u v w x3 y3 : Fin n) (hu : u * A = X) (hv : v * B = Y) (hw : w * (1 - d*(u*x3*(v*y3))) = v*y3 + u*x3) : w * (B*A - d*X*Y*(x3*y3)) = Y*A*y3 + X*B*x3 ∧ B*A - d*X*Y*(x3*y3) = B*A*(1 - d*(u*x3*(v*y3))) := by
  grind
theorem r_cross_x' (d A B X Y u v w x3 y3 : Fin n) (hu : u * A = X) (hv : v * B = Y) (hw : w * (1 + d*(x3*u*(y3*v))) = x3*v + y3*u) : w * (B*A + d*X*Y*(x3*y3)) = x3*Y*A + y3*X*B ∧ B*A + d*X*Y*(x3*y3) = B*A*(1 + d*(x3*u*(y3*v))) := by
  grind
theorem r_cross_y' (d A B X Y u v w x3 y3 : Fin n) (hu : u * A = X) (hv : v * B = Y) (hw : w * (1 - d*(x3*u*(y3*v))) = y3*v + x3*u) : w * (B*A - d*X*Y*(x3*y3)) = y3*Y*A + x3*X*B ∧ B*A - d*X*Y*(x3*y3) = B*A*(1 - d*(x3*u*(y3*v))) := by
  grind
theorem Cv.eq_of_cross (C : Cv n) {u v N D N' D' : Fin n} (hD : D ≠ 0) (hD' : D' ≠ 0) (hu : u * D = N) (hv : v * D' = N') (h : N * D' = N' * D) : u = v := by
  refine C.cancel (C.mul_ne hD hD') ?_
  grind
theorem Cv.assoc_x {x1 y1 x2 y2 x3 y3 : Fin n} (h1 : C.On x1 y1) (h2 : C.On x2 y2) (h3 : C.On x3 y3) : C.ax (C.ax x1 y1 x2 y2) (C.ay x1 y1 x2 y2) x3 y3 = C.ax x1 y1 (C.ax x2 y2 x3 y3) (C.ay x2 y2 x3 y3) := by
  have k1 := C.ax_mul (C.add_on h1 h2) h3
  have k2 := C.ax_mul h1 (C.add_on h2 h3)
  have n1 := C.nzA (C.add_on h1 h2) h3
  have n2 := C.nzA h1 (C.add_on h2 h3)
  obtain ⟨p1, q1⟩ := r_cross_x C.d _ _ _ _ _ _ _ x3 y3 (C.ax_mul h1 h2) (C.ay_mul h1 h2) k1
  obtain ⟨p2, q2⟩ := r_cross_x' C.d _ _ _ _ _ _ _ x1 y1 (C.ax_mul h2 h3) (C.ay_mul h2 h3) k2
  refine C.eq_of_cross ?_ ?_ p1 p2 (r_assoc_x C.d x1 y1 x2 y2 x3 y3 h1 h2 h3)
  · rw [q1]; exact C.mul_ne (C.mul_ne (C.nzB h1 h2) (C.nzA h1 h2)) n1
  · rw [q2]; exact C.mul_ne (C.mul_ne (C.nzB h2 h3) (C.nzA h2 h3)) n2
theorem Cv.assoc_y {x1 y1 x2 y2 x3 y3 : Fin n} (h1 : C.On x1 y1) (h2 : C.On x2 y2) (h3 : C.On x3 y3) : C.ay (C.ax x1 y1 x2 y2) (C.ay x1 y1 x2 y2) x3 y3 = C.ay x1 y1 (C.ax x2 y2 x3 y3) (C.ay x2 y2 x3 y3) := by
  have k1 := C.ay_mul (C.add_on h1 h2) h3
  have k2 := C.ay_mul h1 (C.add_on h2 h3)
  have n1 := C.nzB (C.add_on h1 h2) h3
  have n2 := C.nzB h1 (C.add_on h2 h3)
  obtain ⟨p1, q1⟩ := r_cross_y C.d _ _ _ _ _ _ _ x3 y3 (C.ax_mul h1 h2) (C.ay_mul h1 h2) k1
  obtain ⟨p2, q2⟩ := r_cross_y' C.d _ _ _ _ _ _ _ x1 y1 (C.ax_mul h2 h3) (C.ay_mul h2 h3) k2
  refine C.eq_of_cross ?_ ?_ p1 p2 (r_assoc_y C.d x1 y1 x2 y2 x3 y3 h1 h2 h3)
  · rw [q1]; exact C.mul_ne (C.mul_ne (C.nzB h1 h2) (C.nzA h1 h2)) n1
  · rw [q2]; exact C.mul_ne (C.mul_ne (C.nzB h2 h3) (C.nzA h2 h3)) n2
end
/-- The curve's points. -/
structure Pt {n : Nat} [NeZero n] (C : Cv n) where
  x : Fin n
  y : Fin n
  on : C.On x y
section
variable {n : Nat} [NeZero n] {C : Cv n}
theorem Pt.ext {P Q : Pt C} (hx : P.x = Q.x) (hy : P.y = Q.y) : P = Q := by
  cases P; cases Q; cases hx; cases hy; rfl
def Pt.add (P Q : Pt C) : Pt C := ⟨C.ax P.x P.y Q.x Q.y, C.ay P.x P.y Q.x Q.y, C.add_on P.on Q.on⟩
def Pt.nought : Pt C := ⟨0, 1, by unfold Cv.On; grind⟩
def Pt.neg (P : Pt C) : Pt C := ⟨-P.x, P.y, by have := P.on; unfold Cv.On at *; grind⟩
theorem Pt.add_assoc (P Q R : Pt C) : (P.add Q).add R = P.add (Q.add R) := Pt.ext (C.assoc_x P.on Q.on R.on) (C.assoc_y P.on Q.on R.on)
theorem Pt.add_comm (P Q : Pt C) : P.add Q = Q.add P := by
  refine Pt.ext ?_ ?_
  · show C.ax _ _ _ _ = C.ax _ _ _ _
    unfold Cv.ax
    rw [show P.x * Q.x * (P.y * Q.y) = Q.x * P.x * (Q.y * P.y) by grind, show P.x * Q.y + P.y * Q.x = Q.x * P.y + Q.y * P.x by grind]
  · show C.ay _ _ _ _ = C.ay _ _ _ _
    unfold Cv.ay
    rw [show P.x * Q.x * (P.y * Q.y) = Q.x * P.x * (Q.y * P.y) by grind, show P.y * Q.y + P.x * Q.x = Q.y * P.y + Q.x * P.x by grind]
theorem Cv.inv_one (C : Cv n) : C.inv 1 = 1 := by
  have := C.inv_mul 1 C.one
  grind
theorem Pt.add_nought (P : Pt C) : P.add Pt.nought = P := by
  have h1 := C.inv_one
  refine Pt.ext ?_ ?_
  · show C.ax _ _ 0 1 = _
    unfold Cv.ax
    rw [show (1 : Fin n) + C.d*(P.x*0*(P.y*1)) = 1 by grind, h1]
    grind
  · show C.ay _ _ 0 1 = _
    unfold Cv.ay
    rw [show (1 : Fin n) - C.d*(P.x*0*(P.y*1)) = 1 by grind, h1]
    grind
theorem Pt.nought_add (P : Pt C) : Pt.nought.add P = P := by rw [Pt.add_comm, Pt.add_nought]
theorem Pt.add_neg (P : Pt C) : P.add P.neg = Pt.nought := by
  have hx := C.ax_mul P.on P.neg.on
  have hy := C.ay_mul P.on P.neg.on
  have a0 := C.nzA P.on P.neg.on
  have b0 := C.nzB P.on P.neg.on
  have hon : P.y*P.y - P.x*P.x = 1 + C.d*(P.x*P.x*(P.y*P.y)) := P.on
  refine Pt.ext (C.cancel a0 ?_) (C.cancel b0 ?_)
  · show C.ax _ _ _ _ * _ = 0 * _
    rw [hx]
    show P.x * P.y + P.y * -P.x = _
    grind
  · show C.ay _ _ _ _ * _ = 1 * _
    rw [hy]
    show P.y * P.y + P.x * -P.x = 1 * (1 - C.d*(P.x*(-P.x)*(P.y*P.y)))
    clear hx hy a0 b0
    generalize P.x = x at *
    generalize P.y = y at *
    have : y * y + x * -x = y * y - x * x := by grind
    rw [this, hon]
    grind
theorem Pt.neg_add (P : Pt C) : P.neg.add P = Pt.nought := by rw [Pt.add_comm, Pt.add_neg]
theorem Pt.cancel_right {P Q R : Pt C} (h : P.add R = Q.add R) : P = Q := by
  have := congrArg (·.add R.neg) h
  simpa only [Pt.add_assoc, Pt.add_neg, Pt.add_nought] using this
theorem Pt.neg_neg (P : Pt C) : P.neg.neg = P := Pt.ext (by show - -P.x = P.x; grind) rfl
theorem Pt.add_left_comm (P Q R : Pt C) : P.add (Q.add R) = Q.add (P.add R) := by rw [← Pt.add_assoc, Pt.add_comm P Q, Pt.add_assoc]
/-- A point so many times. -/
def Pt.times : Nat → Pt C → Pt C
  | 0, _ => Pt.nought
  | k + 1, P => (Pt.times k P).add P
theorem Pt.times_zero (P : Pt C) : Pt.times 0 P = Pt.nought := rfl
theorem Pt.times_one (P : Pt C) : Pt.times 1 P = P := Pt.nought_add P
theorem Pt.times_add (a b : Nat) (P : Pt C) : Pt.times (a + b) P = (Pt.times a P).add (Pt.times b P) := by
  induction b with
  | zero => exact (Pt.add_nought _).symm
  | succ b ih => show (Pt.times (a + b) P).add P = _; rw [ih, Pt.add_assoc]; rfl
theorem Pt.times_nought (a : Nat) : Pt.times a (Pt.nought : Pt C) = Pt.nought := by
  induction a with
  | zero => rfl
  | succ a ih => show (Pt.times a Pt.nought).add Pt.nought = _; rw [ih, Pt.add_nought]
theorem Pt.times_sum (a : Nat) (P Q : Pt C) : Pt.times a (P.add Q) = (Pt.times a P).add (Pt.times a Q) := by
  induction a with
  | zero => exact (Pt.add_nought _).symm
  | succ a ih =>
    show (Pt.times a (P.add Q)).add (P.add Q) = ((Pt.times a P).add P).add ((Pt.times a Q).add Q)
    rw [ih, Pt.add_assoc, Pt.add_assoc, Pt.add_left_comm (Pt.times a Q)]
theorem Pt.times_mul (a b : Nat) (P : Pt C) : Pt.times (a * b) P = Pt.times a (Pt.times b P) := by
  induction a with
  | zero => rw [Nat.zero_mul]; rfl
  | succ a ih => rw [Nat.succ_mul, Pt.times_add, ih]; rfl
theorem Pt.times_two (P : Pt C) : Pt.times 2 P = P.add P := by show ((Pt.nought : Pt C).add P).add P = _; rw [Pt.nought_add]
theorem Pt.neg_sum (P Q : Pt C) : (P.add Q).neg = P.neg.add Q.neg := by
  refine Pt.cancel_right (R := P.add Q) ?_
  rw [Pt.neg_add, Pt.add_assoc, Pt.add_left_comm Q.neg, Pt.neg_add, Pt.add_nought, Pt.neg_add]
theorem Pt.times_neg (a : Nat) (P : Pt C) : Pt.times a P.neg = (Pt.times a P).neg := by
  refine Pt.cancel_right (R := Pt.times a P) ?_
  rw [← Pt.times_sum, Pt.neg_add, Pt.neg_add, Pt.times_nought]
end
end Go.Sp
/- The curve's points over numbers of their own: sums with four numbers and with three, multiples bit by bit; the ladder's steps. Own work; no program in sight. -/
namespace Go.Sp
section
variable {n : Nat} [NeZero n] {C : Cv n}
structure Rep4 (P : Pt C) (X Y Z T : Fin n) : Prop where
  z : Z ≠ 0
  hx : X = P.x * Z
  hy : Y = P.y * Z
  ht : T = P.x * P.y * Z
theorem m_assoc (a b c : Fin n) : a * b * c = a * (b * c) := by grind
theorem r4_EG (x1 y1 z1 x2 y2 z2 d u A : Fin n) (hA : A = 1 + d*(x1*x2*(y1*y2))) (hu : u * A = x1*y2 + y1*x2) :
    (y1*z1 + x1*z1)*(y2*z2 + x2*z2) - (y1*z1 - x1*z1)*(y2*z2 - x2*z2) = u * (z1*(z2+z2) + x1*y1*z1*((d+d)*(x2*y2*z2))) := by
  subst hA
  grind
theorem r4_HF (x1 y1 z1 x2 y2 z2 d v B : Fin n) (hB : B = 1 - d*(x1*x2*(y1*y2))) (hv : v * B = y1*y2 + x1*x2) :
    (y1*z1 + x1*z1)*(y2*z2 + x2*z2) + (y1*z1 - x1*z1)*(y2*z2 - x2*z2) = v * (z1*(z2+z2) - x1*y1*z1*((d+d)*(x2*y2*z2))) := by
  subst hB
  grind
theorem r4_F (x1 y1 z1 x2 y2 z2 d : Fin n) : z1*(z2+z2) - x1*y1*z1*((d+d)*(x2*y2*z2)) = 2*(z1*z2)*(1 - d*(x1*x2*(y1*y2))) := by grind
theorem r4_G (x1 y1 z1 x2 y2 z2 d : Fin n) : z1*(z2+z2) + x1*y1*z1*((d+d)*(x2*y2*z2)) = 2*(z1*z2)*(1 + d*(x1*x2*(y1*y2))) := by grind
theorem r4_fin (u v F G : Fin n) : u*G*F = u*(F*G) ∧ G*(v*F) = v*(F*G) ∧ u*G*(v*F) = u*v*(F*G) := by grind
theorem Rep4.add {P Q : Pt C} {X1 Y1 Z1 T1 X2 Y2 Z2 T2 : Fin n} (h1 : Rep4 P X1 Y1 Z1 T1) (h2 : Rep4 Q X2 Y2 Z2 T2) :
    Rep4 (P.add Q) (((Y1 + X1)*(Y2 + X2) - (Y1 - X1)*(Y2 - X2)) * (Z1*(Z2+Z2) - T1*((C.d+C.d)*T2))) ((Z1*(Z2+Z2) + T1*((C.d+C.d)*T2)) * ((Y1 + X1)*(Y2 + X2) + (Y1 - X1)*(Y2 - X2)))
      ((Z1*(Z2+Z2) - T1*((C.d+C.d)*T2)) * (Z1*(Z2+Z2) + T1*((C.d+C.d)*T2))) (((Y1 + X1)*(Y2 + X2) - (Y1 - X1)*(Y2 - X2)) * ((Y1 + X1)*(Y2 + X2) + (Y1 - X1)*(Y2 - X2))) := by
  obtain ⟨z1, rfl, rfl, rfl⟩ := h1
  obtain ⟨z2, rfl, rfl, rfl⟩ := h2
  have hu := C.ax_mul P.on Q.on
  have hv := C.ay_mul P.on Q.on
  have e1 := r4_EG P.x P.y Z1 Q.x Q.y Z2 C.d _ _ rfl hu
  have e2 := r4_HF P.x P.y Z1 Q.x Q.y Z2 C.d _ _ rfl hv
  rw [e1, e2]
  have eF := r4_F P.x P.y Z1 Q.x Q.y Z2 C.d
  have eG := r4_G P.x P.y Z1 Q.x Q.y Z2 C.d
  have nz := C.mul_ne C.two (C.mul_ne z1 z2)
  have nF := C.mul_ne nz (C.nzB P.on Q.on)
  have nG := C.mul_ne nz (C.nzA P.on Q.on)
  rw [← eF] at nF
  rw [← eG] at nG
  obtain ⟨q1, q2, q3⟩ := r4_fin (C.ax P.x P.y Q.x Q.y) (C.ay P.x P.y Q.x Q.y) (Z1*(Z2+Z2) - P.x*P.y*Z1*((C.d+C.d)*(Q.x*Q.y*Z2))) (Z1*(Z2+Z2) + P.x*P.y*Z1*((C.d+C.d)*(Q.x*Q.y*Z2)))
  exact ⟨C.mul_ne nF nG, q1, q2, q3⟩
theorem Rep4.of (P : Pt C) : Rep4 P P.x P.y 1 (P.x * P.y) := ⟨C.one, by grind, by grind, by grind⟩
theorem Rep4.nought : Rep4 (Pt.nought : Pt C) 0 1 1 0 := ⟨C.one, by show (0 : Fin n) = 0 * 1; grind, by show (1 : Fin n) = 1 * 1; grind, by show (0 : Fin n) = 0 * 1 * 1; grind⟩
theorem r_point (x Z i : Fin n) (h : Z * i = 1) : x * Z * i = x := by grind
theorem Rep4.point {P : Pt C} {X Y Z T : Fin n} (h : Rep4 P X Y Z T) : X * C.inv Z = P.x ∧ Y * C.inv Z = P.y := by
  obtain ⟨z, rfl, rfl, rfl⟩ := h
  exact ⟨r_point _ _ _ (C.inv_mul _ z), r_point _ _ _ (C.inv_mul _ z)⟩
structure Rep3 (P : Pt C) (X Y Z : Fin n) : Prop where
  z : Z ≠ 0
  hx : X = P.x * Z
  hy : Y = P.y * Z
theorem r3_low (x1 y1 z1 x2 y2 z2 d : Fin n) : z1*z2*(z1*z2) - d*(x1*z1*(x2*z2)*(y1*z1*(y2*z2))) = z1*z2*(z1*z2)*(1 - d*(x1*x2*(y1*y2))) := by grind
theorem r3_high (x1 y1 z1 x2 y2 z2 d : Fin n) : z1*z2*(z1*z2) + d*(x1*z1*(x2*z2)*(y1*z1*(y2*z2))) = z1*z2*(z1*z2)*(1 + d*(x1*x2*(y1*y2))) := by grind
theorem r3_x (x1 y1 z1 x2 y2 z2 A u L : Fin n) (hu : u * A = x1*y2 + y1*x2) : z1*z2*(L*(x1*z1*(y2*z2) + y1*z1*(x2*z2))) = u*(L*(z1*z2*(z1*z2)*A)) := by grind
theorem r3_y (x1 y1 z1 x2 y2 z2 B v H : Fin n) (hv : v * B = y1*y2 + x1*x2) : z1*z2*(H*(y1*z1*(y2*z2) + x1*z1*(x2*z2))) = v*(z1*z2*(z1*z2)*B*H) := by grind
theorem Rep3.add {P Q : Pt C} {X1 Y1 Z1 X2 Y2 Z2 : Fin n} (h1 : Rep3 P X1 Y1 Z1) (h2 : Rep3 Q X2 Y2 Z2) :
    Rep3 (P.add Q) (Z1*Z2*((Z1*Z2*(Z1*Z2) - C.d*(X1*X2*(Y1*Y2)))*(X1*Y2 + Y1*X2))) (Z1*Z2*((Z1*Z2*(Z1*Z2) + C.d*(X1*X2*(Y1*Y2)))*(Y1*Y2 + X1*X2))) ((Z1*Z2*(Z1*Z2) - C.d*(X1*X2*(Y1*Y2)))*(Z1*Z2*(Z1*Z2) + C.d*(X1*X2*(Y1*Y2)))) := by
  obtain ⟨z1, rfl, rfl⟩ := h1
  obtain ⟨z2, rfl, rfl⟩ := h2
  have hu := C.ax_mul P.on Q.on
  have hv := C.ay_mul P.on Q.on
  rw [r3_low, r3_high]
  have nz := C.mul_ne (C.mul_ne z1 z2) (C.mul_ne z1 z2)
  exact ⟨C.mul_ne (C.mul_ne nz (C.nzB P.on Q.on)) (C.mul_ne nz (C.nzA P.on Q.on)), r3_x _ _ _ _ _ _ _ _ _ hu, r3_y _ _ _ _ _ _ _ _ _ hv⟩
theorem Rep3.of (P : Pt C) : Rep3 P P.x P.y 1 := ⟨C.one, by grind, by grind⟩
theorem Rep3.nought : Rep3 (Pt.nought : Pt C) 0 1 1 := ⟨C.one, by show (0 : Fin n) = 0 * 1; grind, by show (1 : Fin n) = 1 * 1; grind⟩
theorem Rep3.point {P : Pt C} {X Y Z : Fin n} (h : Rep3 P X Y Z) : X * C.inv Z = P.x ∧ Y * C.inv Z = P.y := by
  obtain ⟨z, rfl, rfl⟩ := h
  exact ⟨r_point _ _ _ (C.inv_mul _ z), r_point _ _ _ (C.inv_mul _ z)⟩
/-! ### The ladder: y told as 1 + y over 1 - y -/
structure RepL (P : Pt C) (X Z : Fin n) : Prop where
  ex : ∃ t : Fin n, t ≠ 0 ∧ X = t * (1 + P.y) ∧ Z = t * (1 - P.y)
theorem Cv.nzD (C : Cv n) (y : Fin n) : 1 + C.d*(y*y) ≠ 0 := fun h => by
  have y0 : y ≠ 0 := fun h0 => C.one (by rw [h0] at h; grind)
  have hi := C.i2
  exact C.notSq y0 (r := C.i) (by grind)
/-- The curve's number by the ladder's. -/
def Cv.Mont (C : Cv n) (a : Fin n) : Prop := a + 1 ≠ 0 ∧ C.d * (a + 1) = -a
theorem l_dbl (d a x y v A : Fin n) (hd : d * (a + 1) = -a) (hon : y*y - x*x = 1 + d*(x*x*(y*y))) (hA : A = 1 - d*(x*x*(y*y))) (hv : v * A = y*y + x*x) :
    (v + 1)*(A*(1 + d*(y*y)))*(a+1) = 2*(y*y) ∧ (1 - v)*(A*(1 + d*(y*y)))*(a+1) = 2*((1 - y*y)*(1 + a*(1 - y*y))) := by
  subst hA
  grind
theorem l_dbl2 (t y a K v : Fin n) (h1 : (v + 1)*K = 2*(y*y)) (h2 : (1 - v)*K = 2*((1 - y*y)*(1 + a*(1 - y*y)))) :
    (t*(1+y) + t*(1-y))*(t*(1+y) + t*(1-y))*((t*(1+y) - t*(1-y))*(t*(1+y) - t*(1-y))) = 8*(t*t*(t*t))*K*(1 + v) ∧
    ((t*(1+y) + t*(1-y))*(t*(1+y) + t*(1-y)) - (t*(1+y) - t*(1-y))*(t*(1+y) - t*(1-y)))*((t*(1+y) + t*(1-y))*(t*(1+y) + t*(1-y)) + a*((t*(1+y) + t*(1-y))*(t*(1+y) + t*(1-y)) - (t*(1+y) - t*(1-y))*(t*(1+y) - t*(1-y)))) = 8*(t*t*(t*t))*K*(1 - v) := by
  grind
theorem RepL.dbl {a : Fin n} (ha : C.Mont a) {P : Pt C} {X Z : Fin n} (h : RepL P X Z) :
    RepL (P.add P) ((X+Z)*(X+Z)*((X-Z)*(X-Z))) (((X+Z)*(X+Z) - (X-Z)*(X-Z))*((X+Z)*(X+Z) + a*((X+Z)*(X+Z) - (X-Z)*(X-Z)))) := by
  obtain ⟨t, ht, rfl, rfl⟩ := h.ex
  have hv := C.ay_mul P.on P.on
  have nB := C.nzB P.on P.on
  obtain ⟨h1, h2⟩ := l_dbl C.d a P.x P.y _ _ ha.2 P.on rfl hv
  obtain ⟨q1, q2⟩ := l_dbl2 t P.y a ((1 - C.d*(P.x*P.x*(P.y*P.y)))*(1 + C.d*(P.y*P.y))*(a+1)) (C.ay P.x P.y P.x P.y) ((m_assoc _ _ _).symm.trans h1) ((m_assoc _ _ _).symm.trans h2)
  refine ⟨⟨8*(t*t*(t*t))*((1 - C.d*(P.x*P.x*(P.y*P.y)))*(1 + C.d*(P.y*P.y))*(a+1)), ?_, q1, q2⟩⟩
  have h8 : (8 : Fin n) ≠ 0 := by
    have : (8 : Fin n) = 2*(2*2) := by grind
    rw [this]; exact C.mul_ne C.two (C.mul_ne C.two C.two)
  exact C.mul_ne (C.mul_ne h8 (C.mul_ne (C.mul_ne ht ht) (C.mul_ne ht ht))) (C.mul_ne (C.mul_ne nB (C.nzD _)) ha.1)
theorem l_p1 (s B S : Fin n) (h : s * B = S) : (1 + s) * B = B + S := by grind
theorem l_m1 (s B S : Fin n) (h : s * B = S) : (1 - s) * B = B - S := by grind
theorem l_prod (s b A B S T W : Fin n) (hs : s * B = S) (hb : b * A = T) : s * b * (A * B * W) = S * T * W := by grind
theorem l_sumB (d xp yp xq yq : Fin n) (hp : yp*yp - xp*xp = 1 + d*(xp*xp*(yp*yp))) (hq : yq*yq - xq*xq = 1 + d*(xq*xq*(yq*yq))) :
    (1 - d*(xp*xq*(yp*yq)) + (yp*yq + xp*xq))*(1 + d*(xp*xq*(yp*yq)) + (yp*yq - xp*xq))*((1 + d*(yp*yp))*(1 + d*(yq*yq))) = (1+d)*((yp+yq)*(yp+yq))*(1 + d*(yp*yq*(yp*yq))) := by grind
theorem l_sumB' (d xp yp xq yq : Fin n) (hp : yp*yp - xp*xp = 1 + d*(xp*xp*(yp*yp))) (hq : yq*yq - xq*xq = 1 + d*(xq*xq*(yq*yq))) :
    (1 - d*(xp*xq*(yp*yq)) - (yp*yq + xp*xq))*(1 + d*(xp*xq*(yp*yq)) - (yp*yq - xp*xq))*((1 + d*(yp*yp))*(1 + d*(yq*yq))) = (1+d)*((yp-yq)*(yp-yq))*(1 + d*(yp*yq*(yp*yq))) := by grind
theorem l_sum (d xp yp xq yq s b : Fin n) (hp : yp*yp - xp*xp = 1 + d*(xp*xp*(yp*yp))) (hq : yq*yq - xq*xq = 1 + d*(xq*xq*(yq*yq)))
    (hs : s * (1 - d*(xp*xq*(yp*yq))) = yp*yq + xp*xq) (hb : b * (1 + d*(xp*xq*(yp*yq))) = yp*yq - xp*xq) :
    (1+s)*(1+b)*((1 + d*(xp*xq*(yp*yq)))*(1 - d*(xp*xq*(yp*yq)))*((1 + d*(yp*yp))*(1 + d*(yq*yq)))) = (1+d)*((yp+yq)*(yp+yq))*(1 + d*(yp*yq*(yp*yq))) :=
  (l_prod _ _ _ _ _ _ _ (l_p1 _ _ _ hs) (l_p1 _ _ _ hb)).trans (l_sumB d xp yp xq yq hp hq)
theorem l_sum' (d xp yp xq yq s b : Fin n) (hp : yp*yp - xp*xp = 1 + d*(xp*xp*(yp*yp))) (hq : yq*yq - xq*xq = 1 + d*(xq*xq*(yq*yq)))
    (hs : s * (1 - d*(xp*xq*(yp*yq))) = yp*yq + xp*xq) (hb : b * (1 + d*(xp*xq*(yp*yq))) = yp*yq - xp*xq) :
    (1-s)*(1-b)*((1 + d*(xp*xq*(yp*yq)))*(1 - d*(xp*xq*(yp*yq)))*((1 + d*(yp*yp))*(1 + d*(yq*yq)))) = (1+d)*((yp-yq)*(yp-yq))*(1 + d*(yp*yq*(yp*yq))) :=
  (l_prod _ _ _ _ _ _ _ (l_m1 _ _ _ hs) (l_m1 _ _ _ hb)).trans (l_sumB' d xp yp xq yq hp hq)
theorem l_dif (tp yp tq yq : Fin n) :
    ((tq*(1+yq) - tq*(1-yq))*(tp*(1+yp) + tp*(1-yp)) + (tq*(1+yq) + tq*(1-yq))*(tp*(1+yp) - tp*(1-yp)))*((tq*(1+yq) - tq*(1-yq))*(tp*(1+yp) + tp*(1-yp)) + (tq*(1+yq) + tq*(1-yq))*(tp*(1+yp) - tp*(1-yp))) = 16*(tp*tp*(tq*tq))*((yp+yq)*(yp+yq)) ∧
    ((tq*(1+yq) - tq*(1-yq))*(tp*(1+yp) + tp*(1-yp)) - (tq*(1+yq) + tq*(1-yq))*(tp*(1+yp) - tp*(1-yp)))*((tq*(1+yq) - tq*(1-yq))*(tp*(1+yp) + tp*(1-yp)) - (tq*(1+yq) + tq*(1-yq))*(tp*(1+yp) - tp*(1-yp))) = 16*(tp*tp*(tq*tq))*((yp-yq)*(yp-yq)) := by
  grind
theorem l_kk (S k ik D : Fin n) (hk : k * ik = 1) (h : D = k * S) : S = D * ik := by grind
theorem l_fin (T S W k ik s b : Fin n) (hk : k * ik = 1) (h : (1+s)*(1+b)*W = k*S) : 16*T*S = 16*T*(1+b)*W*ik*(1+s) := by
  have e := l_kk S k ik _ hk h
  rw [e]
  clear e h hk
  grind
theorem l_fin' (T S W k ik s b u : Fin n) (hk : k * ik = 1) (h : (1-s)*(1-b)*W = k*S) (hu : u * (1 - b) = 1 + b) : u*(16*T*S) = 16*T*(1+b)*W*ik*(1-s) := by
  have e := l_kk S k ik _ hk h
  rw [e, ← hu]
  clear e h hk hu
  grind
theorem l_mm (D S M : Fin n) : D * S * M = D * M * S := by grind
theorem l_neg (d a b c e : Fin n) : 1 - d*(a*(-b)*(c*e)) = 1 + d*(b*a*(e*c)) ∧ c*e + a*(-b) = e*c - b*a := by grind
theorem l_d1 (d a : Fin n) (h : d*(a+1) = -a) (h0 : 1 + d = 0) : (1 : Fin n) = 0 := by grind
theorem l_16 : (16 : Fin n) = 2*2*(2*2) := by grind
theorem l_z (k i : Fin n) (h : k * i = 1) (h0 : i = 0) : (1 : Fin n) = 0 := by grind
theorem RepL.sum {a : Fin n} (ha : C.Mont a) {P Q : Pt C} {X Z X' Z' u : Fin n} (h : RepL P X Z) (h' : RepL Q X' Z') (hu : u * (1 - (Q.add P.neg).y) = 1 + (Q.add P.neg).y) (hb : 1 + (Q.add P.neg).y ≠ 0) :
    RepL (P.add Q) (((X'-Z')*(X+Z) + (X'+Z')*(X-Z))*((X'-Z')*(X+Z) + (X'+Z')*(X-Z))) (u*(((X'-Z')*(X+Z) - (X'+Z')*(X-Z))*((X'-Z')*(X+Z) - (X'+Z')*(X-Z)))) := by
  obtain ⟨p, hp, rfl, rfl⟩ := h.ex
  obtain ⟨q, hq, rfl, rfl⟩ := h'.ex
  obtain ⟨d1, d2⟩ := l_dif p P.y q Q.y
  rw [d1, d2]
  have hs := C.ay_mul P.on Q.on
  have hn := C.ay_mul Q.on P.neg.on
  obtain ⟨hA, hN⟩ := l_neg C.d Q.x P.x Q.y P.y
  have hn' : C.ay Q.x Q.y P.neg.x P.neg.y * (1 + C.d*(P.x*Q.x*(P.y*Q.y))) = P.y*Q.y - P.x*Q.x := by
    rw [← hA, ← hN]; exact hn
  have e1 := l_sum C.d P.x P.y Q.x Q.y (C.ay P.x P.y Q.x Q.y) (C.ay Q.x Q.y P.neg.x P.neg.y) P.on Q.on hs hn'
  have e2 := l_sum' C.d P.x P.y Q.x Q.y (C.ay P.x P.y Q.x Q.y) (C.ay Q.x Q.y P.neg.x P.neg.y) P.on Q.on hs hn'
  replace e1 := e1.trans (l_mm (1 + C.d) _ _)
  replace e2 := e2.trans (l_mm (1 + C.d) _ _)
  have d1n : 1 + C.d ≠ 0 := fun h0 => C.one (l_d1 _ _ ha.2 h0)
  have kn : (1 + C.d)*(1 + C.d*(P.y*Q.y*(P.y*Q.y))) ≠ 0 := C.mul_ne d1n (C.nzD _)
  have ki := C.inv_mul _ kn
  have wn := C.mul_ne (C.mul_ne (C.nzA P.on Q.on) (C.nzB P.on Q.on)) (C.mul_ne (C.nzD P.y) (C.nzD Q.y))
  have h16 : (16 : Fin n) ≠ 0 := by rw [l_16]; exact C.mul_ne (C.mul_ne C.two C.two) (C.mul_ne C.two C.two)
  have in0 := fun h0 => C.one (l_z _ _ ki h0)
  exact ⟨⟨_, C.mul_ne (C.mul_ne (C.mul_ne (C.mul_ne h16 (C.mul_ne (C.mul_ne hp hp) (C.mul_ne hq hq))) hb) wn) in0, l_fin _ _ _ _ _ _ _ ki e1, l_fin' _ _ _ _ _ _ _ u ki e2 hu⟩⟩
theorem fin_mul_comm' (a b : Fin n) : a * b = b * a := by grind
theorem fin_mul_one' (a : Fin n) : a * 1 = a := by grind
theorem g_y1 (y : Fin n) (h : 1 - y = 0) : y = 1 := by grind
theorem g_y2 (y : Fin n) (h : 1 + y = 0) : y = -1 := by grind
theorem g_x0 (x d : Fin n) (h : (1 : Fin n)*1 - x*x = 1 + d*(x*x*(1*1))) : x*x*(1 + d) = 0 := by grind
theorem g_x0' (x d : Fin n) (h : (-1 : Fin n)*(-1) - x*x = 1 + d*(x*x*((-1)*(-1)))) : x*x*(1 + d) = 0 := by grind
theorem g_neg0 : (0 : Fin n) = -0 := by grind
theorem l_ji (t z i j : Fin n) (h1 : z * i = 1) (h2 : t * z * j = 1) : j * t * z = i * z := by grind
theorem l_tj (t a j : Fin n) : t * a * j = a * (j * t) := by grind
/-- What the ladder comes to: 1 + y over 1 - y, 0 if 1 - y is 0. -/
theorem RepL.out {P : Pt C} {X Z : Fin n} (h : RepL P X Z) (h0 : C.inv 0 = 0) : X * C.inv Z = (1 + P.y) * C.inv (1 - P.y) := by
  obtain ⟨t, ht, rfl, rfl⟩ := h.ex
  by_cases hz : 1 - P.y = 0
  · rw [hz, show t * (0 : Fin n) = 0 by grind, h0]; grind
  · have h1 := C.inv_mul _ hz
    have h2 := C.inv_mul _ (C.mul_ne ht hz)
    generalize C.inv (1 - P.y) = i at *
    generalize C.inv (t * (1 - P.y)) = j at *
    have : j * t = i := C.cancel hz (l_ji _ _ _ _ h1 h2)
    rw [← this]
    exact l_tj _ _ _
theorem RepL.nought : RepL (Pt.nought : Pt C) 1 0 := by
  have h2 := C.inv_mul _ C.two
  refine ⟨⟨C.inv 2, fun h0 => C.one (by rw [h0] at h2; grind), ?_, ?_⟩⟩
  · show (1 : Fin n) = C.inv 2 * (1 + 1); grind
  · show (0 : Fin n) = C.inv 2 * (1 - 1); grind
theorem RepL.base {P : Pt C} {u : Fin n} (hu : u * (1 - P.y) = 1 + P.y) (h1 : 1 - P.y ≠ 0) : RepL P u 1 := by
  have hi := C.inv_mul _ h1
  refine ⟨⟨C.inv (1 - P.y), fun h0 => C.one (by rw [h0] at hi; grind), ?_, ?_⟩⟩
  · rw [← hu]; grind
  · grind
end
end Go.Sp
/- The field's numbers as a field, and the curve's numbers: the points of edwards25519. Own work; no program in sight. -/
namespace Go.Proofs.YtlgiaglbdifkpaaDoor
open Go.Ev Go.Sp Go.RowKit
set_option maxRecDepth 100000
instance instNeZeroPp : NeZero Pp := ⟨by decide⟩
def tF (x : Nat) : Fin Pp := ⟨x % Pp, Nat.mod_lt _ Pp_pos⟩
theorem fin_mul {n : Nat} (a b : Fin n) : (a * b).val = a.val * b.val % n := rfl
theorem fin_add {n : Nat} (a b : Fin n) : (a + b).val = (a.val + b.val) % n := rfl
theorem fin_neg {n : Nat} [NeZero n] (a : Fin n) : (-a).val = (n - a.val) % n := rfl
theorem fin_sub {n : Nat} [NeZero n] (a b : Fin n) : a - b = a + -b := by grind
theorem tF_mul (x y : Nat) : tF (fMul x y) = tF x * tF y := by
  apply Fin.ext
  rw [fin_mul]
  show x * y % Pp % Pp = x % Pp * (y % Pp) % Pp
  rw [Nat.mod_mod, ← Nat.mul_mod]
theorem tF_add (x y : Nat) : tF (fAdd x y) = tF x + tF y := by
  apply Fin.ext
  rw [fin_add]
  show (x + y) % Pp % Pp = (x % Pp + y % Pp) % Pp
  rw [Nat.mod_mod, ← Nat.add_mod]
theorem tF_neg {x : Nat} (h : x < Pp) : tF (fNeg x) = -tF x := by
  apply Fin.ext
  rw [fin_neg]
  show (Pp - x) % Pp % Pp = (Pp - x % Pp) % Pp
  rw [Nat.mod_mod, Nat.mod_eq_of_lt h]
theorem tF_sub (x : Nat) {y : Nat} (h : y < Pp) : tF (fSub x y) = tF x - tF y := by
  unfold fSub
  rw [tF_add, tF_neg h, fin_sub]
theorem tF_val (a : Fin Pp) : tF a.val = a := Fin.ext (Nat.mod_eq_of_lt a.isLt)
theorem val_tF {x : Nat} (h : x < Pp) : (tF x).val = x := Nat.mod_eq_of_lt h
theorem tF_inj {x y : Nat} (hx : x < Pp) (hy : y < Pp) (h : tF x = tF y) : x = y := by
  rw [← val_tF hx, ← val_tF hy, h]
theorem tF_zero : tF 0 = 0 := Fin.ext (by kernel_rfl)
theorem tF_one : tF 1 = 1 := Fin.ext (by kernel_rfl)
theorem tF_two : tF 2 = 2 := Fin.ext (by kernel_rfl)
theorem tF_mod (x : Nat) : tF (x % Pp) = tF x := Fin.ext (Nat.mod_mod x Pp)
theorem fInv_mul {x : Nat} (h0 : x ≠ 0) (h : x < Pp) : fMul x (fInv x) = 1 := by
  unfold fInv
  have h1 : pw x 1 = x := pw_one h
  have h2 := pw_mul x 1 Pe
  rw [h1, show 1 + Pe = Pp - 1 by decide, pw_fermat h0 h] at h2
  exact h2
theorem fInv_lt (x : Nat) : fInv x < Pp := pw_lt _ _
/-- The curve's number. -/
def dN : Nat := 37095705934669439343138083508754565189542113879843219016388785533085940283555
theorem dN_lt : dN < Pp := by decide
theorem dN_sq : sqV dN = false := by
  unfold sqV
  rw [pw_fast dN Ph (by decide)]
  kernel_rfl
def Ed : Cv Pp where
  d := tF dN
  i := tF turnQ
  inv a := tF (fInv a.val)
  i2 := by
    rw [← tF_mul, turn_sq]
    have h : Pp - 1 = fNeg 1 := (Nat.mod_eq_of_lt (by decide)).symm
    rw [h, tF_neg (by decide), tF_one]
  dom a b h := by
    rw [← tF_val a, ← tF_val b, ← tF_mul, ← tF_zero] at h
    have := tF_inj (fMul_lt _ _) Pp_pos h
    rcases Go.Proofs.YtlgiaglbdifkpaaDoor.dom a.isLt b.isLt this with h0 | h0
    · left; rw [← tF_val a, h0, tF_zero]
    · right; rw [← tF_val b, h0, tF_zero]
  nsq r h := by
    rw [← tF_val r, ← tF_mul] at h
    have h1 := tF_inj (fMul_lt _ _) dN_lt h
    have h2 := sqV_of r.isLt h1
    rw [dN_sq] at h2
    exact Bool.noConfusion h2
  inv_mul a h := by
    have h0 : a.val ≠ 0 := fun e => h (by rw [← tF_val a, e, tF_zero])
    have := fInv_mul h0 a.isLt
    calc a * tF (fInv a.val) = tF a.val * tF (fInv a.val) := by rw [tF_val]
      _ = tF (fMul a.val (fInv a.val)) := (tF_mul _ _).symm
      _ = 1 := by rw [this, tF_one]
  one := by
    rw [← tF_one, ← tF_zero]
    exact fun h => absurd (tF_inj (by decide) Pp_pos h) (by decide)
  two := by
    rw [← tF_two, ← tF_zero]
    exact fun h => absurd (tF_inj (by decide) Pp_pos h) (by decide)
theorem tF_inv {x : Nat} (h : x < Pp) : tF (fInv x) = Ed.inv (tF x) := by
  show tF (fInv x) = tF (fInv (tF x).val)
  rw [val_tF h]
theorem Ed_inv0 : Ed.inv 0 = 0 := by
  rw [← tF_zero, ← tF_inv Pp_pos]
  unfold fInv
  rw [pw_zero (by decide)]
theorem Ed_mont : Ed.Mont (tF 121665) := by
  have h1 : fAdd 121665 1 = 121666 := by kernel_rfl
  have h2 : fMul dN 121666 = fNeg 121665 := by kernel_rfl
  constructor
  · rw [← tF_one, ← tF_add, h1, ← tF_zero]
    exact fun h => absurd (tF_inj (by decide) Pp_pos h) (by decide)
  · show tF dN * (tF 121665 + 1) = _
    rw [← tF_one, ← tF_add, h1, ← tF_mul, h2, tF_neg (by decide)]
end Go.Proofs.YtlgiaglbdifkpaaDoor
