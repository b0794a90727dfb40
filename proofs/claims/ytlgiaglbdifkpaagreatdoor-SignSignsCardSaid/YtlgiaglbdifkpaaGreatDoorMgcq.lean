/- Texts put together: FdF FdE FdG FdH FdI FdP FdQ. Own work. -/
import Derived.Test.YtlgiaglbdifkpaaGreatDoorMgcp
/- Products of sixteen digits, plainly. Own work. -/
namespace Go.Sp
open Go.Ev
def cvF (x y : Nat) (d : List Int) (i : Nat) : Nat → List Int
  | 0 => d
  | k + 1 => (cvF x y d i k).set (i + k) ((cvF x y d i k).getD (i + k) 0 + dig16 x i * dig16 y k)
structure CvOk (x y : Nat) (d : List Int) (B : Int) (i k : Nat) (e : List Int) : Prop where
  len : e.length = 31
  val : V e = V d + 65536 ^ i * (dig16 x i * ((y % 65536 ^ k : Nat) : Int))
  bnd : ∀ j, j < 31 → 0 ≤ e.getD j 0 ∧ e.getD j 0 ≤ B + 4294836225
  high : ∀ j, i + k ≤ j → e.getD j 0 = d.getD j 0
theorem dig_mul (x y i k : Nat) : 0 ≤ dig16 x i * dig16 y k ∧ dig16 x i * dig16 y k ≤ 4294836225 := by
  have h1 := dig16_D x i
  have h2 := dig16_D y k
  refine ⟨Int.mul_nonneg h1.1 h2.1, ?_⟩
  exact Int.le_trans (Int.mul_le_mul (show dig16 x i ≤ 65535 by omega) (show dig16 y k ≤ 65535 by omega) h2.1 (by omega)) (by omega)
theorem cv_ok (x y : Nat) {d : List Int} {B : Int} (hB : 0 ≤ B) (hn : d.length = 31) (hd : ∀ j, j < 31 → 0 ≤ d.getD j 0 ∧ d.getD j 0 ≤ B) {i : Nat} (hi : i < 16) : ∀ k, k ≤ 16 → CvOk x y d B i k (cvF x y d i k)
  | 0, _ => ⟨hn, by simp [cvF, Nat.mod_one], fun j hj => by have := hd j hj; show 0 ≤ d.getD j 0 ∧ _; exact ⟨this.1, by show d.getD j 0 ≤ _; omega⟩, fun j _ => rfl⟩
  | k + 1, hk => by
    obtain ⟨h1, h2, h3, h4⟩ := cv_ok x y hB hn hd hi k (by omega)
    have hm := dig_mul x y i k
    have e := h4 (i + k) (by omega)
    have hb := hd (i + k) (by omega)
    unfold cvF
    refine ⟨by rw [List.length_set, h1], ?_, fun j hj => ?_, fun j hj => ?_⟩
    · rw [V_set _ (by rw [h1]; omega), h2]
      have e1 : (cvF x y d i k).getD (i + k) 0 + dig16 x i * dig16 y k - (cvF x y d i k).getD (i + k) 0 = dig16 x i * dig16 y k := by omega
      have e2 : ((y % 65536 ^ (k + 1) : Nat) : Int) = ((y % 65536 ^ k : Nat) : Int) + 65536 ^ k * dig16 y k := by
        rw [Nat.mod_pow_succ, Int.natCast_add, Int.natCast_mul, Int.natCast_pow]; rfl
      rw [e1, e2, Int.pow_add, Int.mul_add, Int.mul_add, Int.add_assoc]
      congr 2
      rw [Int.mul_assoc, Int.mul_left_comm (65536 ^ k)]
    · rw [getD_setI _ _ _ _ (by rw [h1]; omega)]
      split
      · rw [e]; omega
      · exact h3 j hj
    · rw [getD_setI _ _ _ _ (by rw [h1]; omega), if_neg (by omega)]
      exact h4 j (by omega)
def z31 : List Int := List.replicate 31 0
def cvO (x y : Nat) : Nat → List Int
  | 0 => z31
  | i + 1 => cvF x y (cvO x y i) i 16
theorem cvO_ok (x y : Nat) (hy : y < p256) : ∀ i, i ≤ 16 → (cvO x y i).length = 31 ∧ V (cvO x y i) = ((x % 65536 ^ i * y : Nat) : Int) ∧ ∀ j, j < 31 → 0 ≤ (cvO x y i).getD j 0 ∧ (cvO x y i).getD j 0 ≤ 4294836225 * (i : Int)
  | 0, _ => ⟨rfl, by rw [Nat.pow_zero, Nat.mod_one, Nat.zero_mul]; rfl, fun j hj => by
      have : z31.getD j 0 = 0 := getD_mem (Q := fun d => d = 0) (fun d hd => List.eq_of_mem_replicate hd) j (by simp; exact hj)
      show 0 ≤ z31.getD j 0 ∧ z31.getD j 0 ≤ _
      rw [this]; omega⟩
  | i + 1, hi => by
    obtain ⟨h1, h2, h3⟩ := cvO_ok x y hy i (by omega)
    obtain ⟨a, b, c, _⟩ := cv_ok x y (show (0 : Int) ≤ 4294836225 * (i : Int) by omega) h1 h3 (show i < 16 by omega) 16 (Nat.le_refl _)
    refine ⟨a, ?_, fun j hj => ?_⟩
    · show V (cvF x y (cvO x y i) i 16) = _
      have e : (65536 : Int) ^ i * (dig16 x i * (y : Int)) = ((65536 ^ i * (x / 65536 ^ i % 65536) * y : Nat) : Int) := by
        rw [Int.natCast_mul, Int.natCast_mul, Int.natCast_pow, Int.mul_assoc]; rfl
      rw [b, h2, ← p256_eq, Nat.mod_eq_of_lt hy, Nat.mod_pow_succ, Nat.add_mul, Int.natCast_add, e]
    · have := c j hj
      show 0 ≤ (cvF x y (cvO x y i) i 16).getD j 0 ∧ _
      refine ⟨this.1, ?_⟩
      show (cvF x y (cvO x y i) i 16).getD j 0 ≤ _
      omega
theorem cvO_all (x y : Nat) (hx : x < p256) (hy : y < p256) : (cvO x y 16).length = 31 ∧ V (cvO x y 16) = ((x * y : Nat) : Int) ∧ ∀ j, j < 31 → 0 ≤ (cvO x y 16).getD j 0 ∧ (cvO x y 16).getD j 0 ≤ 68717379600 := by
  obtain ⟨a, b, c⟩ := cvO_ok x y hy 16 (Nat.le_refl _)
  rw [← p256_eq, Nat.mod_eq_of_lt hx] at b
  exact ⟨a, b, fun j hj => by have := c j hj; omega⟩
def outD (d : List Int) : List Int := (List.range 16).map fun i => if i + 16 < 31 then d.getD i 0 + 38 * d.getD (i + 16) 0 else d.getD i 0
theorem list31 {d : List Int} (h : d.length = 31) : ∃ d0 d1 d2 d3 d4 d5 d6 d7 d8 d9 d10 d11 d12 d13 d14 d15 d16 d17 d18 d19 d20 d21 d22 d23 d24 d25 d26 d27 d28 d29 d30, d = [d0, d1, d2, d3, d4, d5, d6, d7, d8, d9, d10, d11, d12, d13, d14, d15, d16, d17, d18, d19, d20, d21, d22, d23, d24, d25, d26, d27, d28, d29, d30] := by
  match d, h with
  | [_, _, _, _, _, _, _, _, _, _, _, _, _, _, _, _, _, _, _, _, _, _, _, _, _, _, _, _, _, _, _], _ => exact ⟨_, _, _, _, _, _, _, _, _, _, _, _, _, _, _, _, _, _, _, _, _, _, _, _, _, _, _, _, _, _, _, rfl⟩
theorem out_V {d : List Int} (h : d.length = 31) : V (outD d) = V (d.take 16) + 38 * V (d.drop 16) := by
  obtain ⟨d0, d1, d2, d3, d4, d5, d6, d7, d8, d9, d10, d11, d12, d13, d14, d15, d16, d17, d18, d19, d20, d21, d22, d23, d24, d25, d26, d27, d28, d29, d30, rfl⟩ := list31 h
  show V [d0 + 38 * d16, d1 + 38 * d17, d2 + 38 * d18, d3 + 38 * d19, d4 + 38 * d20, d5 + 38 * d21, d6 + 38 * d22, d7 + 38 * d23, d8 + 38 * d24, d9 + 38 * d25, d10 + 38 * d26, d11 + 38 * d27, d12 + 38 * d28, d13 + 38 * d29, d14 + 38 * d30, d15] = V [d0, d1, d2, d3, d4, d5, d6, d7, d8, d9, d10, d11, d12, d13, d14, d15] + 38 * V [d16, d17, d18, d19, d20, d21, d22, d23, d24, d25, d26, d27, d28, d29, d30]
  simp only [V]
  omega
theorem out_mod {d : List Int} {n : Nat} (h : d.length = 31) (h0 : ∀ j, j < 31 → 0 ≤ d.getD j 0) (hv : V d = (n : Int)) : ∃ m : Nat, V (outD d) = (m : Int) ∧ m % Pp = n % Pp := by
  have hnn : ∀ x ∈ d, 0 ≤ x := mem_getD fun i hi => h0 i (by rw [← h]; exact hi)
  have hlo := V_nonneg (l := d.take 16) fun x hx => hnn x (List.mem_of_mem_take hx)
  have hhi := V_nonneg (l := d.drop 16) fun x hx => hnn x (List.mem_of_mem_drop hx)
  have hs := V_append (d.take 16) (d.drop 16)
  rw [List.take_append_drop, List.length_take, h, hv] at hs
  have ho := out_V h
  obtain ⟨lo, hlo'⟩ := Int.eq_ofNat_of_zero_le hlo
  obtain ⟨hi, hhi'⟩ := Int.eq_ofNat_of_zero_le hhi
  rw [hlo', hhi'] at hs ho
  have hp : ((65536 : Int) ^ (min 16 31)) = ((p256 : Nat) : Int) := by decide
  rw [hp] at hs
  have hs' : n = lo + p256 * hi := by
    have : (n : Int) = ((lo + p256 * hi : Nat) : Int) := by rw [hs, Int.natCast_add, Int.natCast_mul]
    omega
  refine ⟨lo + 38 * hi, by rw [ho]; omega, ?_⟩
  have e : n = (lo + 38 * hi) + Pp * (2 * hi) := by
    rw [hs', show p256 = 2 * Pp + 38 by decide, Nat.add_mul, Nat.mul_assoc, Nat.mul_left_comm 2 Pp hi]
    omega
  rw [e, Nat.add_mul_mod_self_left]
theorem out_Sd {d : List Int} (h : ∀ j, j < 31 → 0 ≤ d.getD j 0 ∧ d.getD j 0 ≤ 68717379600) : Sd (outD d) := by
  refine ⟨by simp [outD], fun j hj => ?_⟩
  rw [outD, List.getD_eq_getElem?_getD, List.getElem?_map, List.getElem?_range hj]
  show 0 ≤ (if j + 16 < 31 then d.getD j 0 + 38 * d.getD (j + 16) 0 else d.getD j 0) ∧ _
  have h1 := h j (by omega)
  split
  · have h2 := h (j + 16) (by omega)
    simp only [Option.map_some, Option.getD_some]
    rw [if_pos (by assumption)]
    omega
  · simp only [Option.map_some, Option.getD_some]
    rw [if_neg (by assumption)]
    omega
def addL (x y : Nat) : List Int := (List.range 16).map fun i => dig16 x i + dig16 y i
theorem V_map_add (x y : Nat) : ∀ n s, V ((List.range' s n).map fun i => dig16 x i + dig16 y i) = V ((List.range' s n).map (dig16 x)) + V ((List.range' s n).map (dig16 y))
  | 0, _ => rfl
  | n + 1, s => by
    rw [List.range'_succ]
    simp only [List.map_cons, V]
    rw [V_map_add x y n (s + 1)]
    omega
theorem add_V (x y : Nat) (hx : x < p256) (hy : y < p256) : V (addL x y) = ((x + y : Nat) : Int) := by
  have h := V_map_add x y 16 0
  rw [← List.range_eq_range'] at h
  have h1 := digs16_V x
  have h2 := digs16_V y
  rw [Nat.mod_eq_of_lt hx] at h1
  rw [Nat.mod_eq_of_lt hy] at h2
  unfold addL
  rw [h]
  unfold digs16 at h1 h2
  rw [h1, h2]
  omega
theorem add_Sd (x y : Nat) : Sd (addL x y) := by
  refine ⟨by simp [addL], fun j hj => ?_⟩
  have h1 := dig16_D x j
  have h2 := dig16_D y j
  rw [addL, List.getD_eq_getElem?_getD, List.getElem?_map, List.getElem?_range hj]
  simp only [Option.map_some, Option.getD_some]
  omega
end Go.Sp
/- Contracts of the document's field: sums, negatives, products. Own work. -/
namespace Go.Proofs.YtlgiaglbdifkpaaGreatDoor
open Go.Ev Go.Sp Go.RowKit
set_option maxRecDepth 100000
/-- A contract over digits that takes numbers, too. -/
def orFe (spec : List AV → Option (AV × List Prop)) (ds : List AV) : Option (AV × List Prop) := spec (ds.map feA)
theorem FnS_orFe {P : Program} {f : FuncId} {spec : List AV → Option (AV × List Prop)} (h : FnS P f spec) : FnS P f (orFe spec) :=
  FnS_intro fun _ _ _ hd hc w vals hv => FnS_use h hd hc w vals (F2_DV_fe hv)
def tblE : List (FuncId × CtS) := [(111, .fn (orFe spSettled)), (106, .fn (orD spPairs)), (115, .fn spBytesF), (105, .fn spPr), (118, .fn (orD spNMinus)), (87, .fn (orD spNLeft)), (124, .fn spNDigits), (114, .fn (orD spNOf)), (51, .fn spNRead), (43, .fn (orD spNTold)), (70, .fn (orD spNLess))]
theorem okE : TblOk Tryz.prog tblE := ⟨⟨FnS_orFe ctSettled, by kernel_rfl⟩, ⟨FnS_orD ctPairs, by kernel_rfl⟩, ⟨ctBytesF, by kernel_rfl⟩, ⟨ctPr, by kernel_rfl⟩, ⟨FnS_orD nMinus, by kernel_rfl⟩, ⟨FnS_orD nLeft, by kernel_rfl⟩, ⟨nDigits, by kernel_rfl⟩, ⟨FnS_orD nOf, by kernel_rfl⟩, ⟨nRead, by kernel_rfl⟩, ⟨FnS_orD nTold, by kernel_rfl⟩, ⟨FnS_orD nLess, by kernel_rfl⟩, trivial⟩
theorem gsE : GSound Tryz.prog (upG (lookG tblE)) := GSound_of_tbl okE
def addW (x y : Nat) : List Int := (List.range 16).map fun i => IntKind.i64.wrap (dig16 x i + dig16 y i)
theorem runRAdd (x y : Nat) : fnS Tryz.prog (lookG tblE) orc0 [] 20 109 [.val true [.fe x], .val true [.fe y]] = some (.val true [.vi 16 (digs16 (vl (addW x y) % Pp))], [Sd (addW x y)]) := by kernel_rfl
theorem runInt (n : Int) : fnS Tryz.prog (lookG tblE) orc0 [] 20 78 [sc (.i64 n)] =
    some (AV.val true [IV.vi 16 ([(0 : Int), (0 : Int), (0 : Int), (0 : Int), (0 : Int), (0 : Int), (0 : Int), (0 : Int), (0 : Int), (0 : Int), (0 : Int), (0 : Int), (0 : Int), (0 : Int), (0 : Int), (0 : Int)].set 0 n)], []) := by kernel_rfl
theorem runFB (x : Nat) : fnS Tryz.prog (lookG tblE) (orcA []) [] 20 127 [sc (.dN x)] =
    some (AV.val true [IV.fe x], [(dg x).length = (dg x).length, x < p256]) := by kernel_rfl
theorem runROf (a : N4) : fnS Tryz.prog (lookG tblE) (orcA []) [] 20 99 [.val true [.n4 a]] =
    some (AV.val true [IV.fe (val a % Pp)], [(dg (val a)).length = (dg (val a)).length, 32 = 32, 0 < Pp, Sm (val a), Sm Pp, 32 ≤ 3999990, (dg (val a % Pp)).length = (dg (val a % Pp)).length, val a % Pp < p256]) := by kernel_rfl
theorem runRNum (x : Nat) : fnS Tryz.prog (lookG tblE) (orcA []) [] 20 80 [.val true [.fe x]] =
    some (AV.val true [IV.n4 (ofN x)], [x < p256, (dg x).length = (dg x).length]) := by kernel_rfl
def cvTd : List Nat := [2, 3, 4, 5, 6]
def cvTdI : List Nat := [2, 3, 4, 5, 6, 7]
def cvInv (x y : Nat) (d : List Int) (i : Int) : St := ⟨slotsOf 56 [(2, sc (.ptr 0 0)), (3, sc (.ptr 1 0)), (4, sc (.ptr 2 0)), (5, sc (.ptr 3 0)), (6, sc (.i64 i))], [(0, ⟨true, [.fe x]⟩), (1, ⟨true, [.fe y]⟩), (2, ⟨true, [.vi 16 z16]⟩), (3, ⟨true, [.vi 31 d]⟩)], 16⟩
def cvInvI (x y : Nat) (d : List Int) (i k : Int) : St := ⟨slotsOf 56 [(2, sc (.ptr 0 0)), (3, sc (.ptr 1 0)), (4, sc (.ptr 2 0)), (5, sc (.ptr 3 0)), (6, sc (.i64 i)), (7, sc (.i64 k))], [(0, ⟨true, [.fe x]⟩), (1, ⟨true, [.fe y]⟩), (2, ⟨true, [.vi 16 z16]⟩), (3, ⟨true, [.vi 31 d]⟩)], 16⟩
theorem cvIn (x y : Nat) (d : List Int) (i k : Int) : roundS Tryz.prog (lookG tblE) (orcA [(6, [(1, true)])]) [] 10 cvTdI (bodyAt Tryz.prog 77 6) (cvInvI x y d i k) =
    some (Ex.normal, St.mk (slotsOf 56 [(2, sc (IV.ptr 0 0)), (3, sc (IV.ptr 1 0)), (4, sc (IV.ptr 2 0)), (5, sc (IV.ptr 3 0)), (6, sc (IV.i64 i)), (7, sc (IV.i64 (k + (1 : Int))))]) [(0, Blk.mk true [IV.fe x]), (1, Blk.mk true [IV.fe y]), (2, Blk.mk true [IV.vi 16 z16]), (3, Blk.mk true [IV.vi 31 (d.set (0 + (i + k).toNat * 1) (d.getD (0 + (i + k).toNat * 1) (0 : Int) + dig16 x (0 + i.toNat * 1) * dig16 y (0 + k.toNat * 1)))])] 16, [decide (k < (16 : Int)) = true, inI64 (i + k), (0 : Int) ≤ i + k, (i + k).toNat < 31, 0 + (i + k).toNat * 1 < 31, (0 : Int) ≤ i, i.toNat < 16, 0 + i.toNat * 1 < 16, (0 : Int) ≤ k, k.toNat < 16, 0 + k.toNat * 1 < 16, inI64 (dig16 x (0 + i.toNat * 1) * dig16 y (0 + k.toNat * 1)), inI64 (d.getD (0 + (i + k).toNat * 1) (0 : Int) + dig16 x (0 + i.toNat * 1) * dig16 y (0 + k.toNat * 1)), (0 : Int) ≤ i + k, (i + k).toNat < 31, 0 + (i + k).toNat * 1 < 31, inI64 (k + (1 : Int))]) := by kernel_rfl
theorem cvInEx (x y : Nat) (d : List Int) (i k : Int) : roundS Tryz.prog (lookG tblE) (orcA [(6, [(1, false)])]) [] 10 cvTdI (bodyAt Tryz.prog 77 6) (cvInvI x y d i k) =
    some (Ex.exit 2, St.mk (slotsOf 56 [(2, sc (IV.ptr 0 0)), (3, sc (IV.ptr 1 0)), (4, sc (IV.ptr 2 0)), (5, sc (IV.ptr 3 0)), (6, sc (IV.i64 i)), (7, sc (IV.i64 k))]) [(0, Blk.mk true [IV.fe x]), (1, Blk.mk true [IV.fe y]), (2, Blk.mk true [IV.vi 16 z16]), (3, Blk.mk true [IV.vi 31 d])] 16, [decide (k < (16 : Int)) = false]) := by kernel_rfl
theorem cvRound (x y : Nat) (d e : List Int) (i k : Int) : roundS Tryz.prog (lookG tblE) (orcA [(3, [(1, true)])]) [⟨6, cvTdI, .exit 2, cvInvI x y e i k⟩] 10 cvTd (bodyAt Tryz.prog 77 3) (cvInv x y d i) =
    some (Ex.normal, St.mk (slotsOf 56 [(2, sc (IV.ptr 0 0)), (3, sc (IV.ptr 1 0)), (4, sc (IV.ptr 2 0)), (5, sc (IV.ptr 3 0)), (6, sc (IV.i64 (i + (1 : Int))))]) [(0, Blk.mk true [IV.fe x]), (1, Blk.mk true [IV.fe y]), (2, Blk.mk true [IV.vi 16 z16]), (3, Blk.mk true [IV.vi 31 e])] 16, [decide (i < (16 : Int)) = true, LoopTo Tryz.prog (bodyAt Tryz.prog 77 6) (St.mk (slotsOf 56 [(2, sc (IV.ptr 0 0)), (3, sc (IV.ptr 1 0)), (4, sc (IV.ptr 2 0)), (5, sc (IV.ptr 3 0)), (6, sc (IV.i64 i)), (7, sc (IV.i64 (0 : Int)))]) [(0, Blk.mk true [IV.fe x]), (1, Blk.mk true [IV.fe y]), (2, Blk.mk true [IV.vi 16 z16]), (3, Blk.mk true [IV.vi 31 d])] 16) (Ex.exit 2) (St.mk (slotsOf 56 [(2, sc (IV.ptr 0 0)), (3, sc (IV.ptr 1 0)), (4, sc (IV.ptr 2 0)), (5, sc (IV.ptr 3 0)), (6, sc (IV.i64 i)), (7, sc (IV.i64 k))]) [(0, Blk.mk true [IV.fe x]), (1, Blk.mk true [IV.fe y]), (2, Blk.mk true [IV.vi 16 z16]), (3, Blk.mk true [IV.vi 31 e])] 16), inI64 (i + (1 : Int))]) := by kernel_rfl
theorem cvEx (x y : Nat) (d : List Int) (i : Int) : roundS Tryz.prog (lookG tblE) (orcA [(3, [(1, false)])]) [] 10 cvTd (bodyAt Tryz.prog 77 3) (cvInv x y d i) =
    some (Ex.exit 0, St.mk (slotsOf 56 [(2, sc (IV.ptr 0 0)), (3, sc (IV.ptr 1 0)), (4, sc (IV.ptr 2 0)), (5, sc (IV.ptr 3 0)), (6, sc (IV.i64 i))]) [(0, Blk.mk true [IV.fe x]), (1, Blk.mk true [IV.fe y]), (2, Blk.mk true [IV.vi 16 z16]), (3, Blk.mk true [IV.vi 31 d])] 16, [decide (i < (16 : Int)) = false]) := by kernel_rfl
def outW (d : List Int) : List Int := (List.range 16).map fun i => if i + 16 < 31 then IntKind.i64.wrap (d.getD i 0 + IntKind.i64.wrap (38 * d.getD (i + 16) 0)) else d.getD i 0
theorem runRMul (x y : Nat) (d : List Int) (i : Int) : fnS Tryz.prog (lookG tblE) orc0 [⟨3, cvTd, .exit 0, cvInv x y d i⟩] 20 77 [.val true [.fe x], .val true [.fe y]] =
    some (.val true [.vi 16 (digs16 (vl (outW d) % Pp))], [LoopTo Tryz.prog (bodyAt Tryz.prog 77 3) (cvInv x y z31 0) (.exit 0) (cvInv x y d i), Sd (outW d)]) := by kernel_rfl
theorem wrap_id {z : Int} (h0 : 0 ≤ z) (h1 : z < 9223372036854775808) : IntKind.i64.wrap z = z := by
  rw [IntKind.wrap_i64]; omega
theorem addW_eq (x y : Nat) : addW x y = addL x y := by
  unfold addW addL
  apply List.map_congr_left
  intro i _
  have h1 := dig16_D x i
  have h2 := dig16_D y i
  exact wrap_id (by omega) (by omega)
theorem outW_eq {d : List Int} (h : ∀ j, j < 31 → 0 ≤ d.getD j 0 ∧ d.getD j 0 ≤ 68717379600) : outW d = outD d := by
  unfold outW outD
  apply List.map_congr_left
  intro i hi
  have hi := List.mem_range.1 hi
  have h1 := h i (by omega)
  split
  · rename_i h16
    have h2 := h (i + 16) h16
    rw [wrap_id (z := 38 * d.getD (i + 16) 0) (by omega) (by omega), wrap_id (by omega) (by omega)]
  · rfl
/-- Two elements. -/
def sp2F (f : Nat → Nat → Nat) : List AV → Option (AV × List Prop)
  | [.val true [.fe x], .val true [.fe y]] => some (.val true [.fe (f x y)], [x < Pp, y < Pp])
  | _ => none
def sp1F (f : Nat → Nat) : List AV → Option (AV × List Prop)
  | [.val true [.fe x]] => some (.val true [.fe (f x)], [x < Pp])
  | _ => none
/-- From an answer over digits. -/
theorem ct2F {f : FuncId} {g : Nat → Nat → Nat} {Γ : FuncId → Option CtS} (hΓ : GSound Tryz.prog (upG Γ)) (h : ∀ x y, x < Pp → y < Pp → ∃ orc sums fuel cs, fnS Tryz.prog Γ orc sums fuel f [.val true [.fe x], .val true [.fe y]] = some (.val true [.vi 16 (digs16 (g x y))], cs) ∧ AllP cs) : CtSOk Tryz.prog f (.fn (sp2F g)) := by
  refine FnS_intro fun ds r cs hd hc w vals hv => ?_
  unfold sp2F at hd
  split at hd
  case h_2 => simp at hd
  rename_i x y
  simp only [Option.some.injEq, Prod.mk.injEq] at hd
  obtain ⟨rfl, rfl⟩ := hd
  obtain ⟨orc, sums, fuel, cs, h1, h2⟩ := h x y hc.1 hc.2.1
  refine (calls_of_fnS hΓ fol h1 h2 w vals hv).mono ?_
  rintro e w' ⟨v, a, b, c⟩
  exact ⟨v, a, b, ResOk_fe c⟩
theorem ct1F {f : FuncId} {g : Nat → Nat} {Γ : FuncId → Option CtS} (hΓ : GSound Tryz.prog (upG Γ)) (h : ∀ x, x < Pp → ∃ orc sums fuel cs, fnS Tryz.prog Γ orc sums fuel f [.val true [.fe x]] = some (.val true [.vi 16 (digs16 (g x))], cs) ∧ AllP cs) : CtSOk Tryz.prog f (.fn (sp1F g)) := by
  refine FnS_intro fun ds r cs hd hc w vals hv => ?_
  unfold sp1F at hd
  split at hd
  case h_2 => simp at hd
  rename_i x
  simp only [Option.some.injEq, Prod.mk.injEq] at hd
  obtain ⟨rfl, rfl⟩ := hd
  obtain ⟨orc, sums, fuel, cs, h1, h2⟩ := h x hc.1
  refine (calls_of_fnS hΓ fol h1 h2 w vals hv).mono ?_
  rintro e w' ⟨v, a, b, c⟩
  exact ⟨v, a, b, ResOk_fe c⟩
def fAdd (x y : Nat) : Nat := (x + y) % Pp
def fMul (x y : Nat) : Nat := x * y % Pp
def fNeg (x : Nat) : Nat := (Pp - x) % Pp
theorem fAdd_lt (x y : Nat) : fAdd x y < Pp := Nat.mod_lt _ Pp_pos
theorem fMul_lt (x y : Nat) : fMul x y < Pp := Nat.mod_lt _ Pp_pos
theorem fNeg_lt (x : Nat) : fNeg x < Pp := Nat.mod_lt _ Pp_pos
theorem lt256 {x : Nat} (h : x < Pp) : x < p256 := Nat.lt_trans h Pp_lt
theorem ctFAdd : CtSOk Tryz.prog 109 (.fn (sp2F fAdd)) := ct2F gsE fun x y hx hy => by
  have r0 := runRAdd x y
  rw [addW_eq] at r0
  have hv : vl (addL x y) = x + y := by unfold vl; rw [add_V x y (lt256 hx) (lt256 hy)]; omega
  rw [hv] at r0
  exact ⟨_, _, _, _, r0, add_Sd x y, trivial⟩
theorem cvLoopI (x y : Nat) (d : List Int) (hd : d.length = 31) (hb : ∀ j, j < 31 → 0 ≤ d.getD j 0 ∧ d.getD j 0 ≤ 68717379600) (i : Nat) (hi : i < 16) :
    LoopTo Tryz.prog (bodyAt Tryz.prog 77 6) (cvInvI x y d (i : Nat) 0) (.exit 2) (cvInvI x y (cvF x y d i 16) (i : Nat) ((16 : Nat) : Int)) := by
  refine LoopTo.intro (α := Nat) gsE fol (fun k => cvInvI x y (cvF x y d i k) (i : Nat) (k : Nat)) (fun k => k ≤ 16) (fun k => 16 - k) (by simp) ?_ 0 (by simp)
  intro k hk
  by_cases he : k = 16
  · subst he
    exact .inr ⟨_, _, _, _, _, cvInEx _ _ _ _ _, rfl, trivial⟩
  · have ok := cv_ok x y (B := 68717379600) (by omega) hd hb hi k hk
    have hm := dig_mul x y i k
    have hg := ok.bnd (i + k) (by omega)
    have r0 := cvIn x y (cvF x y d i k) (i : Nat) (k : Nat)
    have e1 : 0 + (((i : Nat) : Int) + ((k : Nat) : Int)).toNat * 1 = i + k := by omega
    have e2 : 0 + ((k : Nat) : Int).toNat * 1 = k := by omega
    have e3 : 0 + ((i : Nat) : Int).toNat * 1 = i := by omega
    have e4 : ((k : Nat) : Int) + 1 = ((k + 1 : Nat) : Int) := by omega
    rw [e1, e2, e3] at r0
    have e5 : (cvF x y d i k).set (i + k) ((cvF x y d i k).getD (i + k) 0 + dig16 x i * dig16 y k) = cvF x y d i (k + 1) := rfl
    rw [e5] at r0
    simp only [e4] at r0
    refine .inl ⟨_, _, _, _, _, k + 1, r0, ?_, by omega, by omega⟩
    clear r0 ok e5
    generalize (cvF x y d i k).getD (i + k) 0 = g at *
    generalize dig16 x i * dig16 y k = p at *
    simp only [AllP, inI64]
    and_intros <;> first | exact True.intro | exact decide_eq_true (by omega) | omega
theorem cvLoop (x y : Nat) (hy : y < p256) : LoopTo Tryz.prog (bodyAt Tryz.prog 77 3) (cvInv x y z31 0) (.exit 0) (cvInv x y (cvO x y 16) ((16 : Nat) : Int)) := by
  refine LoopTo.intro (α := Nat) gsE fol (fun i => cvInv x y (cvO x y i) (i : Nat)) (fun i => i ≤ 16) (fun i => 16 - i) (by simp) ?_ 0 (by simp)
  intro i hi
  by_cases he : i = 16
  · subst he
    exact .inr ⟨_, _, _, _, _, cvEx _ _ _ _, rfl, trivial⟩
  · obtain ⟨a, _, c⟩ := cvO_ok x y hy i hi
    have lp := cvLoopI x y (cvO x y i) a (fun j hj => by have := c j hj; omega) i (by omega)
    have r0 := cvRound x y (cvO x y i) (cvO x y (i + 1)) (i : Nat) ((16 : Nat) : Int)
    have e4 : ((i : Nat) : Int) + 1 = ((i + 1 : Nat) : Int) := by omega
    simp only [e4] at r0
    exact .inl ⟨_, _, _, _, _, i + 1, r0, ⟨decide_eq_true (by omega), lp, by unfold inI64; omega, trivial⟩, by omega, by omega⟩
theorem ctFMul : CtSOk Tryz.prog 77 (.fn (sp2F fMul)) := ct2F gsE fun x y hx hy => by
  obtain ⟨a, b, c⟩ := cvO_all x y (lt256 hx) (lt256 hy)
  have r0 := runRMul x y (cvO x y 16) ((16 : Nat) : Int)
  rw [outW_eq c] at r0
  obtain ⟨m, hm, hmod⟩ := out_mod a (fun j hj => (c j hj).1) b
  have hv : vl (outD (cvO x y 16)) = m := by unfold vl; rw [hm]; omega
  rw [hv, hmod] at r0
  exact ⟨_, _, _, _, r0, cvLoop x y (lt256 hy), out_Sd c, trivial⟩
def spInt : List AV → Option (AV × List Prop)
  | [.val false [.i64 n]] => some (.val true [.fe n.toNat], [0 ≤ n, n < 65536])
  | _ => none
theorem int_digs (n : Nat) (h : n < 65536) : [(n : Int), 0, 0, 0, 0, 0, 0, 0, 0, 0, 0, 0, 0, 0, 0, 0] = digs16 n := by
  refine eq_digs16 (fun d hd => ?_) rfl (Nat.lt_trans h (by decide)) ?_
  · simp only [List.mem_cons, List.not_mem_nil, or_false] at hd
    omega
  · simp [V]
theorem ctInt : CtSOk Tryz.prog 78 (.fn spInt) := FnS_intro fun ds r cs hd hc w vals hv => by
  unfold spInt at hd
  split at hd
  case h_2 => simp at hd
  rename_i n
  simp only [Option.some.injEq, Prod.mk.injEq] at hd
  obtain ⟨rfl, rfl⟩ := hd
  obtain ⟨h0, h1, _⟩ := hc
  obtain ⟨m, rfl⟩ := Int.eq_ofNat_of_zero_le h0
  have e := int_digs m (by omega)
  have r0 := runInt (m : Int)
  have e2 : [(0 : Int), (0 : Int), (0 : Int), (0 : Int), (0 : Int), (0 : Int), (0 : Int), (0 : Int), (0 : Int), (0 : Int), (0 : Int), (0 : Int), (0 : Int), (0 : Int), (0 : Int), (0 : Int)].set 0 (m : Int) = digs16 m := by rw [← e]; rfl
  rw [e2] at r0
  refine (calls_of_fnS gsE fol r0 trivial w vals hv).mono ?_
  rintro e w' ⟨v, a, b, c⟩
  exact ⟨v, a, b, ResOk_fe c⟩
def spFB : List AV → Option (AV × List Prop)
  | [.val false [.dN x]] => some (.val true [.fe x], [x < p256])
  | _ => none
theorem ctFB : CtSOk Tryz.prog 127 (.fn spFB) := FnS_of_fnS gsE fol fun ds r cs h hc => by
  unfold spFB at h
  split at h
  case h_2 => simp at h
  rename_i x
  simp only [Option.some.injEq, Prod.mk.injEq] at h
  obtain ⟨rfl, rfl⟩ := h
  exact use_run (runFB x) rfl ⟨rfl, hc⟩
def spROf : List AV → Option (AV × List Prop)
  | [.val true [.n4 a]] => some (.val true [.fe (val a % Pp)], [])
  | _ => none
theorem Sm_Pp : Sm Pp := Sm_lt (k := 40) (by decide) (by omega)
theorem ctROf : CtSOk Tryz.prog 99 (.fn spROf) := FnS_of_fnS gsE fol fun ds r cs h hc => by
  unfold spROf at h
  split at h
  case h_2 => simp at h
  rename_i a
  simp only [Option.some.injEq, Prod.mk.injEq] at h
  obtain ⟨rfl, rfl⟩ := h
  have h1 := Nat.mod_lt (val a) Pp_pos
  refine use_run (runROf a) rfl ⟨rfl, rfl, Pp_pos, Sm_val a, Sm_Pp, ?_, rfl, lt256 h1, trivial⟩
  omega
def spRNum : List AV → Option (AV × List Prop)
  | [.val true [.fe x]] => some (.val true [.n4 (ofN x)], [x < p256])
  | _ => none
theorem ctRNum : CtSOk Tryz.prog 80 (.fn spRNum) := FnS_of_fnS gsE fol fun ds r cs h hc => by
  unfold spRNum at h
  split at h
  case h_2 => simp at h
  rename_i x
  simp only [Option.some.injEq, Prod.mk.injEq] at h
  obtain ⟨rfl, rfl⟩ := h
  exact use_run (runRNum x) rfl ⟨hc.1, rfl, trivial⟩
def tblE2 : List (FuncId × CtS) :=
  (127, .fn (orD spFB)) :: tblE
theorem gsE2 : GSound Tryz.prog (upG (lookG tblE2)) := GSound_of_tbl ⟨⟨FnS_orD ctFB, by kernel_rfl⟩, okE⟩
theorem runRNeg (x : Nat) : fnS Tryz.prog (lookG tblE2) (orcA []) [] 20 110 [.val true [.fe x]] =
    some (AV.val true [IV.vi 16 (digs16 (vl (digs16 (Pp - x)) % Pp))], [32 = 32, Pp < p256, Pp < p256, x < p256, 32 = 32, (dg x).length = (dg x).length, x ≤ Pp, Sm Pp, (dg (Pp - x)).length = (dg (Pp - x)).length, Pp - x < p256, Sd (digs16 (Pp - x))]) := by kernel_rfl
end Go.Proofs.YtlgiaglbdifkpaaGreatDoor
/- Contracts of the document's field: powers, roots, bytes. Own work. -/
namespace Go.Proofs.YtlgiaglbdifkpaaGreatDoor
open Go.Ev Go.Sp Go.RowKit
set_option maxRecDepth 100000
theorem ctFNeg : CtSOk Tryz.prog 110 (.fn (sp1F fNeg)) := ct1F gsE2 fun x hx => by
  have r0 := runRNeg x
  have hlt : Pp - x < p256 := Nat.lt_of_le_of_lt (Nat.sub_le _ _) Pp_lt
  have hv : vl (digs16 (Pp - x)) = Pp - x := by unfold vl; rw [digs16_V, Nat.mod_eq_of_lt hlt]; omega
  rw [hv] at r0
  have hs : Sd (digs16 (Pp - x)) := ⟨digs16_len _, fun j hj => by
    have := getD_mem (digs16_D (Pp - x)) j (by rw [digs16_len]; exact hj)
    omega⟩
  exact ⟨_, _, _, _, r0, rfl, Pp_lt, Pp_lt, lt256 hx, rfl, rfl, Nat.le_of_lt hx, Sm_Pp, rfl, hlt, hs, trivial⟩
def tblE3 : List (FuncId × CtS) :=
  (109, .fn (sp2F fAdd)) :: (110, .fn (sp1F fNeg)) :: (77, .fn (sp2F fMul)) :: (78, .fn spInt) :: tblE2
theorem gsE3 : GSound Tryz.prog (upG (lookG tblE3)) := GSound_of_tbl ⟨⟨ctFAdd, by kernel_rfl⟩, ⟨ctFNeg, by kernel_rfl⟩, ⟨ctFMul, by kernel_rfl⟩, ⟨ctInt, by kernel_rfl⟩, ⟨FnS_orD ctFB, by kernel_rfl⟩, okE⟩
theorem runRSub (x y : Nat) : fnS Tryz.prog (lookG tblE3) (orcA []) [] 20 108 [.val true [.fe x], .val true [.fe y]] =
    some (AV.val true [IV.fe (fAdd x (fNeg y))], [y < Pp, x < Pp, fNeg y < Pp]) := by kernel_rfl
def tblL3 : List (FuncId × CtS) :=
  (97, .pre preTrim) :: tblE3
theorem gsL3 : GSound Tryz.prog (upG (lookG tblL3)) := GSound_of_tbl ⟨⟨ctTrim, by kernel_rfl⟩, ⟨ctFAdd, by kernel_rfl⟩, ⟨ctFNeg, by kernel_rfl⟩, ⟨ctFMul, by kernel_rfl⟩, ⟨ctInt, by kernel_rfl⟩, ⟨FnS_orD ctFB, by kernel_rfl⟩, okE⟩
def pw (a e : Nat) : Nat := a ^ e % Pp
theorem pw_mul (a m n : Nat) : fMul (pw a m) (pw a n) = pw a (m + n) := by
  unfold fMul pw
  rw [← Nat.mul_mod, Nat.pow_add]
theorem pw_lt (a e : Nat) : pw a e < Pp := Nat.mod_lt _ Pp_pos
def pwTd : List Nat := [1, 2, 4, 5, 6]
def pwTdI : List Nat := [1, 2, 4, 5, 6, 7, 8]
def pwInv (e a o : Nat) (i : Int) : St := ⟨slotsOf 36 [(1, sc (.sl 0 0 (dg e).length)), (2, sc (.ptr 1 0)), (4, sc (.ptr 2 0)), (5, sc (.ptr 3 0)), (6, sc (.i64 i))], [(0, ⟨false, [.vd e]⟩), (1, ⟨true, [.fe a]⟩), (2, ⟨true, [.vi 16 z16]⟩), (3, ⟨true, [.fe o]⟩)], 16⟩
def pwInvI (e a o : Nat) (i d k : Int) : St := ⟨slotsOf 36 [(1, sc (.sl 0 0 (dg e).length)), (2, sc (.ptr 1 0)), (4, sc (.ptr 2 0)), (5, sc (.ptr 3 0)), (6, sc (.i64 i)), (7, sc (.i64 d)), (8, sc (.i64 k))], [(0, ⟨false, [.vd e]⟩), (1, ⟨true, [.fe a]⟩), (2, ⟨true, [.vi 16 z16]⟩), (3, ⟨true, [.fe o]⟩)], 16⟩
theorem pwOne (e a o : Nat) (i d k : Int) : roundS Tryz.prog (lookG tblL3) (orcA [(7, [(1, true)]), (9, [(2, true)])]) [] 10 pwTdI (bodyAt Tryz.prog 112 7) (pwInvI e a o i d k) =
    some (Ex.normal, St.mk (slotsOf 36 [(1, sc (IV.sl 0 0 (dg e).length)), (2, sc (IV.ptr 1 0)), (4, sc (IV.ptr 2 0)), (5, sc (IV.ptr 3 0)), (6, sc (IV.i64 i)), (7, sc (IV.i64 (d.tdiv (2 : Int)))), (8, sc (IV.i64 (k + (1 : Int))))]) [(0, Blk.mk false [IV.vd e]), (1, Blk.mk true [IV.fe (fMul a a)]), (2, Blk.mk true [IV.vi 16 z16]), (3, Blk.mk true [IV.fe (fMul o a)])] 16, [decide (k < (8 : Int)) = true, (2 : Int) ≠ (0 : Int), (d.tmod (2 : Int) == (1 : Int)) = true, o < Pp, a < Pp, a < Pp, a < Pp, (2 : Int) ≠ (0 : Int), inI64 (d.tdiv (2 : Int)), inI64 (k + (1 : Int))]) := by kernel_rfl
theorem pwNil (e a o : Nat) (i d k : Int) : roundS Tryz.prog (lookG tblL3) (orcA [(7, [(1, true)]), (9, [(2, false)])]) [] 10 pwTdI (bodyAt Tryz.prog 112 7) (pwInvI e a o i d k) =
    some (Ex.normal, St.mk (slotsOf 36 [(1, sc (IV.sl 0 0 (dg e).length)), (2, sc (IV.ptr 1 0)), (4, sc (IV.ptr 2 0)), (5, sc (IV.ptr 3 0)), (6, sc (IV.i64 i)), (7, sc (IV.i64 (d.tdiv (2 : Int)))), (8, sc (IV.i64 (k + (1 : Int))))]) [(0, Blk.mk false [IV.vd e]), (1, Blk.mk true [IV.fe (fMul a a)]), (2, Blk.mk true [IV.vi 16 z16]), (3, Blk.mk true [IV.fe o])] 16, [decide (k < (8 : Int)) = true, (2 : Int) ≠ (0 : Int), (d.tmod (2 : Int) == (1 : Int)) = false, a < Pp, a < Pp, (2 : Int) ≠ (0 : Int), inI64 (d.tdiv (2 : Int)), inI64 (k + (1 : Int))]) := by kernel_rfl
theorem pwInEx (e a o : Nat) (i d k : Int) : roundS Tryz.prog (lookG tblL3) (orcA [(7, [(1, false)])]) [] 10 pwTdI (bodyAt Tryz.prog 112 7) (pwInvI e a o i d k) =
    some (Ex.exit 2, St.mk (slotsOf 36 [(1, sc (IV.sl 0 0 (dg e).length)), (2, sc (IV.ptr 1 0)), (4, sc (IV.ptr 2 0)), (5, sc (IV.ptr 3 0)), (6, sc (IV.i64 i)), (7, sc (IV.i64 d)), (8, sc (IV.i64 k))]) [(0, Blk.mk false [IV.vd e]), (1, Blk.mk true [IV.fe a]), (2, Blk.mk true [IV.vi 16 z16]), (3, Blk.mk true [IV.fe o])] 16, [decide (k < (8 : Int)) = false]) := by kernel_rfl
theorem pwRound (e a o a2 o2 : Nat) (i d k : Int) : roundS Tryz.prog (lookG tblL3) (orcA [(3, [(3, true)])]) [⟨7, pwTdI, .exit 2, pwInvI e a2 o2 i d k⟩] 10 pwTd (bodyAt Tryz.prog 112 3) (pwInv e a o i) =
    some (Ex.normal, St.mk (slotsOf 36 [(1, sc (IV.sl 0 0 (dg e).length)), (2, sc (IV.ptr 1 0)), (4, sc (IV.ptr 2 0)), (5, sc (IV.ptr 3 0)), (6, sc (IV.i64 (i + (1 : Int))))]) [(0, Blk.mk false [IV.vd e]), (1, Blk.mk true [IV.fe a2]), (2, Blk.mk true [IV.vi 16 z16]), (3, Blk.mk true [IV.fe o2])] 16, [decide (i < (↑(dg e).length : Int)) = true, (0 : Int) ≤ i, i.toNat < (dg e).length, 0 + i.toNat * 1 < (dg e).length, LoopTo Tryz.prog (bodyAt Tryz.prog 112 7) (St.mk (slotsOf 36 [(1, sc (IV.sl 0 0 (dg e).length)), (2, sc (IV.ptr 1 0)), (4, sc (IV.ptr 2 0)), (5, sc (IV.ptr 3 0)), (6, sc (IV.i64 i)), (7, sc (IV.i64 ((dg e).getD (0 + i.toNat * 1) (0 : Int)))), (8, sc (IV.i64 (0 : Int)))]) [(0, Blk.mk false [IV.vd e]), (1, Blk.mk true [IV.fe a]), (2, Blk.mk true [IV.vi 16 z16]), (3, Blk.mk true [IV.fe o])] 16) (Ex.exit 2) (St.mk (slotsOf 36 [(1, sc (IV.sl 0 0 (dg e).length)), (2, sc (IV.ptr 1 0)), (4, sc (IV.ptr 2 0)), (5, sc (IV.ptr 3 0)), (6, sc (IV.i64 i)), (7, sc (IV.i64 d)), (8, sc (IV.i64 k))]) [(0, Blk.mk false [IV.vd e]), (1, Blk.mk true [IV.fe a2]), (2, Blk.mk true [IV.vi 16 z16]), (3, Blk.mk true [IV.fe o2])] 16), inI64 (i + (1 : Int))]) := by kernel_rfl
theorem pwEx (e a o : Nat) (i : Int) : roundS Tryz.prog (lookG tblL3) (orcA [(3, [(3, false)])]) [] 10 pwTd (bodyAt Tryz.prog 112 3) (pwInv e a o i) =
    some (Ex.exit 0, St.mk (slotsOf 36 [(1, sc (IV.sl 0 0 (dg e).length)), (2, sc (IV.ptr 1 0)), (4, sc (IV.ptr 2 0)), (5, sc (IV.ptr 3 0)), (6, sc (IV.i64 i))]) [(0, Blk.mk false [IV.vd e]), (1, Blk.mk true [IV.fe a]), (2, Blk.mk true [IV.vi 16 z16]), (3, Blk.mk true [IV.fe o])] 16, [decide (i < (↑(dg e).length : Int)) = false]) := by kernel_rfl
theorem runPw (e a a2 o : Nat) (i : Int) : fnS Tryz.prog (lookG tblL3) (orcA []) [⟨3, pwTd, .exit 0, pwInv e a2 o i⟩] 10 112 [.val true [.fe a], sc (.dN e)] =
    some (AV.val true [IV.fe o], [(0 : Int) ≤ (1 : Int), (1 : Int) < (65536 : Int), LoopTo Tryz.prog (bodyAt Tryz.prog 112 3) (St.mk (slotsOf 36 [(1, sc (IV.sl 0 0 (dg e).length)), (2, sc (IV.ptr 1 0)), (4, sc (IV.ptr 2 0)), (5, sc (IV.ptr 3 0)), (6, sc (IV.i64 (0 : Int)))]) [(0, Blk.mk false [IV.vd e]), (1, Blk.mk true [IV.fe a]), (2, Blk.mk true [IV.vi 16 [(0 : Int), (0 : Int), (0 : Int), (0 : Int), (0 : Int), (0 : Int), (0 : Int), (0 : Int), (0 : Int), (0 : Int), (0 : Int), (0 : Int), (0 : Int), (0 : Int), (0 : Int), (0 : Int)]]), (3, Blk.mk true [IV.fe 1])] 16) (Ex.exit 0) (St.mk (slotsOf 36 [(1, sc (IV.sl 0 0 (dg e).length)), (2, sc (IV.ptr 1 0)), (4, sc (IV.ptr 2 0)), (5, sc (IV.ptr 3 0)), (6, sc (IV.i64 i))]) [(0, Blk.mk false [IV.vd e]), (1, Blk.mk true [IV.fe a2]), (2, Blk.mk true [IV.vi 16 z16]), (3, Blk.mk true [IV.fe o])] 16)]) := by kernel_rfl
def lsL21 : List Int := [235, 255, 255, 255, 255, 255, 255, 255, 255, 255, 255, 255, 255, 255, 255, 255, 255, 255, 255, 255, 255, 255, 255, 255, 255, 255, 255, 255, 255, 255, 255, 127]
theorem runLess21 : ansOf (fnS Tryz.prog (lookG tblL3) orc0 [] 40 113 [sc (.i64 2), sc (.i64 1)]) = some (sc (.dI lsL21)) := by kernel_rfl
theorem runLessC21 : acsOf (fnS Tryz.prog (lookG tblL3) orc0 [] 40 113 [sc (.i64 2), sc (.i64 1)]) = [32 = 32, 1 = 1, 2 ≤ Pp, Sm Pp, (List.replicate 1 (0 : Int)).set 0 (2 : Int) = dg 2, 32 = 32, 32 ≤ 1000000000, 32 ≤ 32, 32 ≤ 32] := by kernel_rfl
def lsL12 : List Int := [246, 255, 255, 255, 255, 255, 255, 255, 255, 255, 255, 255, 255, 255, 255, 255, 255, 255, 255, 255, 255, 255, 255, 255, 255, 255, 255, 255, 255, 255, 255, 63]
theorem runLess12 : ansOf (fnS Tryz.prog (lookG tblL3) orc0 [] 40 113 [sc (.i64 1), sc (.i64 2)]) = some (sc (.dI lsL12)) := by kernel_rfl
theorem runLessC12 : acsOf (fnS Tryz.prog (lookG tblL3) orc0 [] 40 113 [sc (.i64 1), sc (.i64 2)]) = [32 = 32, 1 = 1, 1 ≤ Pp, Sm Pp, (List.replicate 1 (0 : Int)).set 0 (1 : Int) = dg 1, 32 = 32, 32 ≤ 1000000000, 32 ≤ 32, 32 ≤ 32] := by kernel_rfl
def lsL14 : List Int := [251, 255, 255, 255, 255, 255, 255, 255, 255, 255, 255, 255, 255, 255, 255, 255, 255, 255, 255, 255, 255, 255, 255, 255, 255, 255, 255, 255, 255, 255, 255, 31]
theorem runLess14 : ansOf (fnS Tryz.prog (lookG tblL3) orc0 [] 40 113 [sc (.i64 1), sc (.i64 4)]) = some (sc (.dI lsL14)) := by kernel_rfl
theorem runLessC14 : acsOf (fnS Tryz.prog (lookG tblL3) orc0 [] 40 113 [sc (.i64 1), sc (.i64 4)]) = [32 = 32, 1 = 1, 1 ≤ Pp, Sm Pp, (List.replicate 1 (0 : Int)).set 0 (1 : Int) = dg 1, 32 = 32, 32 ≤ 1000000000, 32 ≤ 32, 32 ≤ 32] := by kernel_rfl
def lsL58 : List Int := [253, 255, 255, 255, 255, 255, 255, 255, 255, 255, 255, 255, 255, 255, 255, 255, 255, 255, 255, 255, 255, 255, 255, 255, 255, 255, 255, 255, 255, 255, 255, 15]
theorem runLess58 : ansOf (fnS Tryz.prog (lookG tblL3) orc0 [] 40 113 [sc (.i64 5), sc (.i64 8)]) = some (sc (.dI lsL58)) := by kernel_rfl
theorem runLessC58 : acsOf (fnS Tryz.prog (lookG tblL3) orc0 [] 40 113 [sc (.i64 5), sc (.i64 8)]) = [32 = 32, 1 = 1, 5 ≤ Pp, Sm Pp, (List.replicate 1 (0 : Int)).set 0 (5 : Int) = dg 5, 32 = 32, 32 ≤ 1000000000, 32 ≤ 32, 32 ≤ 32] := by kernel_rfl
theorem lsL21_dg : lsL21 = dg ((Pp - 2) / 1) := by
  have h1 : IsD lsL21 := by
    intro d hd
    have : lsL21.all (fun d => decide (0 ≤ d) && decide (d < 256)) = true := by decide
    have := List.all_eq_true.1 this d hd
    simpa using this
  have h2 : nv lsL21 = (Pp - 2) / 1 := by decide
  rw [← h2]
  exact eq_dg h1 (.inr (by decide))
theorem lsL12_dg : lsL12 = dg ((Pp - 1) / 2) := by
  have h1 : IsD lsL12 := by
    intro d hd
    have : lsL12.all (fun d => decide (0 ≤ d) && decide (d < 256)) = true := by decide
    have := List.all_eq_true.1 this d hd
    simpa using this
  have h2 : nv lsL12 = (Pp - 1) / 2 := by decide
  rw [← h2]
  exact eq_dg h1 (.inr (by decide))
theorem lsL14_dg : lsL14 = dg ((Pp - 1) / 4) := by
  have h1 : IsD lsL14 := by
    intro d hd
    have : lsL14.all (fun d => decide (0 ≤ d) && decide (d < 256)) = true := by decide
    have := List.all_eq_true.1 this d hd
    simpa using this
  have h2 : nv lsL14 = (Pp - 1) / 4 := by decide
  rw [← h2]
  exact eq_dg h1 (.inr (by decide))
theorem lsL58_dg : lsL58 = dg ((Pp - 5) / 8) := by
  have h1 : IsD lsL58 := by
    intro d hd
    have : lsL58.all (fun d => decide (0 ≤ d) && decide (d < 256)) = true := by decide
    have := List.all_eq_true.1 this d hd
    simpa using this
  have h2 : nv lsL58 = (Pp - 5) / 8 := by decide
  rw [← h2]
  exact eq_dg h1 (.inr (by decide))
/-- The prime less a number, divided. -/
def spLs3L : List AV → Option (AV × List Prop)
  | [.val false [.i64 2], .val false [.i64 1]] => some (sc (.dI (dg ((Pp - 2) / 1))), [])
  | [.val false [.i64 1], .val false [.i64 2]] => some (sc (.dI (dg ((Pp - 1) / 2))), [])
  | [.val false [.i64 1], .val false [.i64 4]] => some (sc (.dI (dg ((Pp - 1) / 4))), [])
  | [.val false [.i64 5], .val false [.i64 8]] => some (sc (.dI (dg ((Pp - 5) / 8))), [])
  | _ => none
def spLs3 : List AV → Option (AV × List Prop)
  | [.val false [.i64 2], .val false [.i64 1]] => some (sc (.dN ((Pp - 2) / 1)), [])
  | [.val false [.i64 1], .val false [.i64 2]] => some (sc (.dN ((Pp - 1) / 2)), [])
  | [.val false [.i64 1], .val false [.i64 4]] => some (sc (.dN ((Pp - 1) / 4)), [])
  | [.val false [.i64 5], .val false [.i64 8]] => some (sc (.dN ((Pp - 5) / 8)), [])
  | _ => none
theorem dg1 (n : Nat) (h : n < 256) (h0 : n ≠ 0) : (List.replicate 1 (0 : Int)).set 0 (n : Int) = dg n := by
  rw [dg_pos h0, Nat.mod_eq_of_lt h, Nat.div_eq_of_lt h, dg_zero]; rfl
theorem ctLs3L : CtSOk Tryz.prog 113 (.fn spLs3L) := FnS_of_fnS gsL3 fol fun ds r cs h hc => by
  unfold spLs3L at h
  split at h
  · simp only [Option.some.injEq, Prod.mk.injEq] at h
    obtain ⟨rfl, rfl⟩ := h
    exact use_run (ans_eq runLess21 runLessC21) (by rw [lsL21_dg]) ⟨rfl, rfl, by decide, Sm_Pp, dg1 2 (by omega) (by omega), rfl, by omega, by omega, by omega, trivial⟩
  · simp only [Option.some.injEq, Prod.mk.injEq] at h
    obtain ⟨rfl, rfl⟩ := h
    exact use_run (ans_eq runLess12 runLessC12) (by rw [lsL12_dg]) ⟨rfl, rfl, by decide, Sm_Pp, dg1 1 (by omega) (by omega), rfl, by omega, by omega, by omega, trivial⟩
  · simp only [Option.some.injEq, Prod.mk.injEq] at h
    obtain ⟨rfl, rfl⟩ := h
    exact use_run (ans_eq runLess14 runLessC14) (by rw [lsL14_dg]) ⟨rfl, rfl, by decide, Sm_Pp, dg1 1 (by omega) (by omega), rfl, by omega, by omega, by omega, trivial⟩
  · simp only [Option.some.injEq, Prod.mk.injEq] at h
    obtain ⟨rfl, rfl⟩ := h
    exact use_run (ans_eq runLess58 runLessC58) (by rw [lsL58_dg]) ⟨rfl, rfl, by decide, Sm_Pp, dg1 5 (by omega) (by omega), rfl, by omega, by omega, by omega, trivial⟩
  · simp at h
theorem ctLs3 : CtSOk Tryz.prog 113 (.fn spLs3) := FnS_num ctLs3L fun ds r cs h hc => by
  unfold spLs3 at h
  split at h
  · simp only [Option.some.injEq, Prod.mk.injEq] at h
    obtain ⟨rfl, rfl⟩ := h
    exact ⟨[], rfl, trivial⟩
  · simp only [Option.some.injEq, Prod.mk.injEq] at h
    obtain ⟨rfl, rfl⟩ := h
    exact ⟨[], rfl, trivial⟩
  · simp only [Option.some.injEq, Prod.mk.injEq] at h
    obtain ⟨rfl, rfl⟩ := h
    exact ⟨[], rfl, trivial⟩
  · simp only [Option.some.injEq, Prod.mk.injEq] at h
    obtain ⟨rfl, rfl⟩ := h
    exact ⟨[], rfl, trivial⟩
  · simp at h
/-- One digit's bits. -/
theorem pwLoopI (A e m n : Nat) (D : Nat) (hD : D < 256) (i : Int) :
    LoopTo Tryz.prog (bodyAt Tryz.prog 112 7) (pwInvI e (pw A n) (pw A m) i (D : Nat) 0) (.exit 2) (pwInvI e (pw A (n * 256)) (pw A (m + n * D)) i ((0 : Nat) : Int) ((8 : Nat) : Int)) := by
  have h0 : pwInvI e (pw A n) (pw A m) i (D : Nat) 0 = pwInvI e (pw A (n * 2 ^ 0)) (pw A (m + n * (D % 2 ^ 0))) i ((D / 2 ^ 0 : Nat) : Int) ((0 : Nat) : Int) := by
    simp [Nat.mod_one]
  have h8 : pwInvI e (pw A (n * 256)) (pw A (m + n * D)) i ((0 : Nat) : Int) ((8 : Nat) : Int) = pwInvI e (pw A (n * 2 ^ 8)) (pw A (m + n * (D % 2 ^ 8))) i ((D / 2 ^ 8 : Nat) : Int) ((8 : Nat) : Int) := by
    rw [show (2 : Nat) ^ 8 = 256 from rfl, Nat.mod_eq_of_lt hD, Nat.div_eq_of_lt hD]
  rw [h0, h8]
  refine LoopTo.intro (α := Nat) gsL3 fol (fun k => pwInvI e (pw A (n * 2 ^ k)) (pw A (m + n * (D % 2 ^ k))) i ((D / 2 ^ k : Nat) : Int) (k : Nat)) (fun k => k ≤ 8) (fun k => 8 - k) (by simp) ?_ 0 (by simp)
  intro k hk
  have hle : D / 2 ^ k ≤ D := Nat.div_le_self _ _
  have hsq : fMul (pw A (n * 2 ^ k)) (pw A (n * 2 ^ k)) = pw A (n * 2 ^ (k + 1)) := by
    rw [pw_mul, Nat.pow_succ, ← Nat.mul_assoc]; congr 1; omega
  have hdv : ((D / 2 ^ k : Nat) : Int).tdiv (2 : Int) = ((D / 2 ^ (k + 1) : Nat) : Int) := by
    rw [tdiv2, Nat.pow_succ, Nat.div_div_eq_div_mul]
  have e4 : ((k : Nat) : Int) + 1 = ((k + 1 : Nat) : Int) := by omega
  have hmod : D % 2 ^ (k + 1) = D % 2 ^ k + 2 ^ k * (D / 2 ^ k % 2) := Nat.mod_pow_succ
  by_cases he : k = 8
  · subst he
    exact .inr ⟨_, _, _, _, _, pwInEx _ _ _ _ _ _, rfl, trivial⟩
  · by_cases hb : D / 2 ^ k % 2 = 1
    · have r0 := pwOne e (pw A (n * 2 ^ k)) (pw A (m + n * (D % 2 ^ k))) i ((D / 2 ^ k : Nat) : Int) (k : Nat)
      have hm : fMul (pw A (m + n * (D % 2 ^ k))) (pw A (n * 2 ^ k)) = pw A (m + n * (D % 2 ^ (k + 1))) := by
        rw [pw_mul, hmod, hb, Nat.mul_one, Nat.mul_add, Nat.add_assoc]
      rw [hsq, hdv, hm, e4] at r0
      refine .inl ⟨_, _, _, _, _, k + 1, r0, ?_, by omega, by omega⟩
      have hle2 : inI64 ((D / 2 ^ (k + 1) : Nat) : Int) := by
        have h3 : D / 2 ^ (k + 1) ≤ D := Nat.div_le_self _ _
        generalize D / 2 ^ (k + 1) = q at h3
        unfold inI64
        omega
      rw [tmod2, hb]
      exact ⟨decide_eq_true (by omega), by omega, rfl, pw_lt _ _, pw_lt _ _, pw_lt _ _, pw_lt _ _, by omega, hle2, by unfold inI64; omega, trivial⟩
    · have r0 := pwNil e (pw A (n * 2 ^ k)) (pw A (m + n * (D % 2 ^ k))) i ((D / 2 ^ k : Nat) : Int) (k : Nat)
      have hb0 : D / 2 ^ k % 2 = 0 := by omega
      have hm : pw A (m + n * (D % 2 ^ k)) = pw A (m + n * (D % 2 ^ (k + 1))) := by
        rw [hmod, hb0, Nat.mul_zero, Nat.add_zero]
      rw [hsq, hdv, e4] at r0
      rw [hm] at r0 ⊢
      refine .inl ⟨_, _, _, _, _, k + 1, r0, ?_, by omega, by omega⟩
      have hle2 : inI64 ((D / 2 ^ (k + 1) : Nat) : Int) := by
        have h3 : D / 2 ^ (k + 1) ≤ D := Nat.div_le_self _ _
        generalize D / 2 ^ (k + 1) = q at h3
        unfold inI64
        omega
      rw [tmod2, hb0]
      exact ⟨decide_eq_true (by omega), by omega, rfl, pw_lt _ _, pw_lt _ _, by omega, hle2, by unfold inI64; omega, trivial⟩
theorem pwLoop (A e : Nat) (hA : A < Pp) (he : Sm e) : LoopTo Tryz.prog (bodyAt Tryz.prog 112 3) (pwInv e A 1 0) (.exit 0) (pwInv e (pw A (256 ^ (dg e).length)) (pw A e) ((dg e).length : Nat)) := by
  have h0 : pwInv e A 1 0 = pwInv e (pw A (256 ^ 0)) (pw A (e % 256 ^ 0)) ((0 : Nat) : Int) := by
    have h1 : pw A (256 ^ 0) = A := by unfold pw; rw [Nat.pow_zero, Nat.pow_one, Nat.mod_eq_of_lt hA]
    have h2 : pw A (e % 256 ^ 0) = 1 := by unfold pw; rw [Nat.pow_zero, Nat.mod_one, Nat.pow_zero]; decide
    rw [h1, h2]; rfl
  have hn : pw A e = pw A (e % 256 ^ (dg e).length) := by rw [Nat.mod_eq_of_lt (lt_of_dg e)]
  rw [h0, hn]
  refine LoopTo.intro (α := Nat) gsL3 fol (fun i => pwInv e (pw A (256 ^ i)) (pw A (e % 256 ^ i)) (i : Nat)) (fun i => i ≤ (dg e).length) (fun i => (dg e).length - i) (by simp) ?_ 0 (by simp)
  intro i hi
  have hs : (dg e).length ≤ 4000000 := he
  by_cases hl : i = (dg e).length
  · rw [hl]
    exact .inr ⟨_, _, _, _, _, pwEx _ _ _ _, decide_eq_false (by omega), trivial⟩
  · have r0 := pwRound e (pw A (256 ^ i)) (pw A (e % 256 ^ i)) (pw A (256 ^ (i + 1))) (pw A (e % 256 ^ (i + 1))) (i : Nat) ((0 : Nat) : Int) ((8 : Nat) : Int)
    have e2 : 0 + ((i : Nat) : Int).toNat * 1 = i := by omega
    have e4 : ((i : Nat) : Int) + 1 = ((i + 1 : Nat) : Int) := by omega
    have lp := pwLoopI A e (e % 256 ^ i) (256 ^ i) (dig e i) (dig_lt e i) (i : Nat)
    rw [← Nat.pow_succ, ← mod_succ] at lp
    rw [e2, e4, dg_getD] at r0
    refine .inl ⟨_, _, _, _, _, i + 1, r0, ?_, by omega, by omega⟩
    exact ⟨decide_eq_true (by omega), by omega, by omega, by omega, lp, by unfold inI64; omega, trivial⟩
def spPow : List AV → Option (AV × List Prop)
  | [.val true [.fe a], .val false [.dN e]] => some (.val true [.fe (pw a e)], [a < Pp, Sm e])
  | _ => none
theorem ctPow : CtSOk Tryz.prog 112 (.fn spPow) := FnS_of_fnS gsL3 fol fun ds r cs h hc => by
  unfold spPow at h
  split at h
  case h_2 => simp at h
  rename_i a e
  simp only [Option.some.injEq, Prod.mk.injEq] at h
  obtain ⟨rfl, rfl⟩ := h
  obtain ⟨ha, he, _⟩ := hc
  exact use_run (runPw e a (pw a (256 ^ (dg e).length)) (pw a e) ((dg e).length : Nat)) rfl ⟨by omega, by omega, pwLoop a e ha he, trivial⟩
def fSub (x y : Nat) : Nat := fAdd x (fNeg y)
theorem ctFSub : CtSOk Tryz.prog 108 (.fn (sp2F fSub)) := FnS_of_fnS gsE3 fol fun ds r cs h hc => by
  unfold sp2F at h
  split at h
  case h_2 => simp at h
  rename_i x y
  simp only [Option.some.injEq, Prod.mk.injEq] at h
  obtain ⟨rfl, rfl⟩ := h
  exact use_run (runRSub x y) rfl ⟨hc.2.1, hc.1, fNeg_lt y, trivial⟩
end Go.Proofs.YtlgiaglbdifkpaaGreatDoor
/- Contracts of the document's field: inverses, roots, bytes. Own work. -/
namespace Go.Proofs.YtlgiaglbdifkpaaGreatDoor
open Go.Ev Go.Sp Go.RowKit
set_option maxRecDepth 100000
def tblH : List (FuncId × CtS) :=
  (113, .fn (orD spLs3)) :: (112, .fn (orD spPow)) :: tblL3
theorem gsH : GSound Tryz.prog (upG (lookG tblH)) := GSound_of_tbl ⟨⟨FnS_orD ctLs3, by kernel_rfl⟩, ⟨FnS_orD ctPow, by kernel_rfl⟩, ⟨ctTrim, by kernel_rfl⟩, ⟨ctFAdd, by kernel_rfl⟩, ⟨ctFNeg, by kernel_rfl⟩, ⟨ctFMul, by kernel_rfl⟩, ⟨ctInt, by kernel_rfl⟩, ⟨FnS_orD ctFB, by kernel_rfl⟩, okE⟩
theorem runRInv (x : Nat) : fnS Tryz.prog (lookG tblH) (orcA []) [] 20 79 [.val true [.fe x]] =
    some (AV.val true [IV.fe (pw x 57896044618658097711785492504343953926634992332820282019728792003956564819947)], [32 = 32, x < Pp, Sm 57896044618658097711785492504343953926634992332820282019728792003956564819947]) := by kernel_rfl
theorem runEvT (x y : Nat) : fnS Tryz.prog (lookG tblH) (orcA [(1, [(3, true)])]) [] 20 126 [.val true [.fe x], .val true [.fe y]] =
    some (sc (IV.bool (digs16 (fMul x x) == digs16 y && true)), [(0 : Int) ≤ (0 : Int), 0 < 16, 0 < 16, (2 : Int) ≠ (0 : Int), ((dig16 x 0).tmod (2 : Int) == (0 : Int)) = true, x < Pp, x < Pp]) := by kernel_rfl
theorem runEvF (x y : Nat) : fnS Tryz.prog (lookG tblH) (orcA [(1, [(3, false)])]) [] 20 126 [.val true [.fe x], .val true [.fe y]] =
    some (sc (IV.bool false), [(0 : Int) ≤ (0 : Int), 0 < 16, 0 < 16, (2 : Int) ≠ (0 : Int), ((dig16 x 0).tmod (2 : Int) == (0 : Int)) = false]) := by kernel_rfl
theorem runRDec (b : List (BitVec 8)) : fnS Tryz.prog (lookG tblH) (orcA [(1, [(2, false)]), (4, [(3, false)])]) [] 20 72 [sc (.d8 b)] =
    some (AV.tup [(true, [IV.fe (bv b)]), (false, [IV.i64 (0 : Int)])], [(!(↑b.length : Int) == (32 : Int)) = false, b.length = b.length, b.length ≤ 4000000, (dg (bv b)).length = (dg (bv b)).length, 32 = 32, Sm (bv b), Sm Pp, (!decide (bv b < Pp)) = false, (dg (bv b)).length = (dg (bv b)).length, bv b < p256]) := by kernel_rfl
theorem runRDec1 (b : List (BitVec 8)) : fnS Tryz.prog (lookG tblH) (orcA [(1, [(2, true)])]) [] 20 72 [sc (.d8 b)] =
    some (AV.tup [(true, [IV.fe 0]), (false, [IV.i64 (1 : Int)])], [(!(↑b.length : Int) == (32 : Int)) = true, (0 : Int) ≤ (0 : Int), (0 : Int) < (65536 : Int)]) := by kernel_rfl
theorem runRDec6 (b : List (BitVec 8)) : fnS Tryz.prog (lookG tblH) (orcA [(1, [(2, false)]), (4, [(3, true)])]) [] 20 72 [sc (.d8 b)] =
    some (AV.tup [(true, [IV.fe 0]), (false, [IV.i64 (6 : Int)])], [(!(↑b.length : Int) == (32 : Int)) = false, b.length = b.length, b.length ≤ 4000000, (dg (bv b)).length = (dg (bv b)).length, 32 = 32, Sm (bv b), Sm Pp, (!decide (bv b < Pp)) = true, (0 : Int) ≤ (0 : Int), (0 : Int) < (65536 : Int)]) := by kernel_rfl
theorem runREnc (x : Nat) : fnS Tryz.prog (lookG tblH) (orcA []) [] 20 98 [.val true [.fe x]] =
    some (sc (IV.d8 (cutL (bl x 32) 0 (bl x 32).length (bl x 32).length)), [x < p256, (dg x).length = (dg x).length, (0 : Int) ≤ (32 : Int), (32 : Int) ≤ (4000000 : Int), 0 + (bl x 32).length ≤ (bl x 32).length]) := by kernel_rfl
theorem digs16_inj {x y : Nat} (hx : x < p256) (hy : y < p256) (h : digs16 x = digs16 y) : x = y := by
  have := congrArg V h
  rw [digs16_V, digs16_V, Nat.mod_eq_of_lt hx, Nat.mod_eq_of_lt hy] at this
  omega
theorem digs16_beq {x y : Nat} (hx : x < p256) (hy : y < p256) : (digs16 x == digs16 y && true) = (x == y) := by
  rw [Bool.and_true]
  by_cases h : x = y
  · subst h; rw [beq_self_eq_true, beq_self_eq_true]
  · rw [beq_eq_false_iff_ne.2 h, beq_eq_false_iff_ne.2 fun e => h (digs16_inj hx hy e)]
def Pe : Nat := 57896044618658097711785492504343953926634992332820282019728792003956564819947
def Ph : Nat := 28948022309329048855892746252171976963317496166410141009864396001978282409974
def fInv (x : Nat) : Nat := pw x Pe
theorem Sm_Pe : Sm Pe := Sm_lt (k := 40) (by decide) (by omega)
theorem ctFInv : CtSOk Tryz.prog 79 (.fn (sp1F fInv)) := FnS_of_fnS gsH fol fun ds r cs h hc => by
  unfold sp1F at h
  split at h
  case h_2 => simp at h
  rename_i x
  simp only [Option.some.injEq, Prod.mk.injEq] at h
  obtain ⟨rfl, rfl⟩ := h
  exact use_run (runRInv x) rfl ⟨rfl, hc.1, Sm_Pe, trivial⟩
def sqV (x : Nat) : Bool := pw x Ph == 1 || x == 0
def evV (r a : Nat) : Bool := r % 2 == 0 && fMul r r == a
def spEv : List AV → Option (AV × List Prop)
  | [.val true [.fe r], .val true [.fe a]] => some (sc (.bool (evV r a)), [r < Pp, a < Pp])
  | _ => none
theorem dig0_mod (x : Nat) : ((dig16 x 0).tmod (2 : Int) == (0 : Int)) = (x % 2 == 0) := by
  unfold dig16
  rw [tmod2, Nat.pow_zero, Nat.div_one]
  by_cases h : x % 2 = 0
  · rw [show x % 65536 % 2 = 0 by omega, h]; rfl
  · rw [show x % 65536 % 2 = 1 by omega, show x % 2 = 1 by omega]; rfl
theorem ctEv : CtSOk Tryz.prog 126 (.fn spEv) := FnS_of_fnS gsH fol fun ds r cs h hc => by
  unfold spEv at h
  split at h
  case h_2 => simp at h
  rename_i r a
  simp only [Option.some.injEq, Prod.mk.injEq] at h
  obtain ⟨rfl, rfl⟩ := h
  obtain ⟨hr, ha, _⟩ := hc
  have e := digs16_beq (lt256 (fMul_lt r r)) (lt256 ha)
  by_cases h : (r % 2 == 0) = true
  · exact use_run (runEvT r a) (by rw [evV, h, e]; rfl) ⟨by omega, by omega, by omega, by omega, (dig0_mod r).trans h, hr, hr, trivial⟩
  · have h' : (r % 2 == 0) = false := by simpa using h
    exact use_run (runEvF r a) (by rw [evV, h']; rfl) ⟨by omega, by omega, by omega, by omega, (dig0_mod r).trans h', trivial⟩
def decV (b : List (BitVec 8)) : Nat × Int := if b.length = 32 then if bv b < Pp then (bv b, 0) else (0, 6) else (0, 1)
def spRDec : List AV → Option (AV × List Prop)
  | [.val false [.d8 b]] => some (.tup [(true, [.fe (decV b).1]), (false, [.i64 (decV b).2])], [])
  | _ => none
theorem decF {p : Prop} [Decidable p] (h : p) : (!decide p) = false := by simp [h]
theorem decT {p : Prop} [Decidable p] (h : ¬p) : (!decide p) = true := by simp [h]
theorem ctRDec : CtSOk Tryz.prog 72 (.fn spRDec) := FnS_of_fnS gsH fol fun ds r cs h hc => by
  unfold spRDec at h
  split at h
  case h_2 => simp at h
  rename_i b
  simp only [Option.some.injEq, Prod.mk.injEq] at h
  obtain ⟨rfl, rfl⟩ := h
  by_cases h : b.length = 32
  · have hl := bv_lt b
    rw [h, ← show p256 = 256 ^ 32 by decide] at hl
    have sb : Sm (bv b) := Sm_lt (bv_lt b) (by omega)
    by_cases hp : bv b < Pp
    · exact use_run (runRDec b) (by rw [decV, if_pos h, if_pos hp]) ⟨neqF (by omega), rfl, by omega, rfl, rfl, sb, Sm_Pp, decF hp, rfl, hl, trivial⟩
    · exact use_run (runRDec6 b) (by rw [decV, if_pos h, if_neg hp]) ⟨neqF (by omega), rfl, by omega, rfl, rfl, sb, Sm_Pp, decT hp, by omega, by omega, trivial⟩
  · exact use_run (runRDec1 b) (by rw [decV, if_neg h]) ⟨neqB (by omega), by omega, by omega, trivial⟩
def spREnc : List AV → Option (AV × List Prop)
  | [.val true [.fe x]] => some (sc (.d8 (bl x 32)), [x < p256])
  | _ => none
theorem ctREnc : CtSOk Tryz.prog 98 (.fn spREnc) := FnS_of_fnS gsH fol fun ds r cs h hc => by
  unfold spREnc at h
  split at h
  case h_2 => simp at h
  rename_i x
  simp only [Option.some.injEq, Prod.mk.injEq] at h
  obtain ⟨rfl, rfl⟩ := h
  exact use_run (runREnc x) (by rw [cutL_all]) ⟨hc.1, rfl, by omega, by omega, by omega, trivial⟩
def tblR3 : List (FuncId × CtS) :=
  (126, .fn spEv) :: tblH
theorem gsR3 : GSound Tryz.prog (upG (lookG tblR3)) := GSound_of_tbl ⟨⟨ctEv, by kernel_rfl⟩, ⟨FnS_orD ctLs3, by kernel_rfl⟩, ⟨FnS_orD ctPow, by kernel_rfl⟩, ⟨ctTrim, by kernel_rfl⟩, ⟨ctFAdd, by kernel_rfl⟩, ⟨ctFNeg, by kernel_rfl⟩, ⟨ctFMul, by kernel_rfl⟩, ⟨ctInt, by kernel_rfl⟩, ⟨FnS_orD ctFB, by kernel_rfl⟩, okE⟩
def rtTd : List Nat := [1, 2, 3, 4, 5, 6]
def rtInv (a t x : Nat) (n : Int) (m : List Int) (b : Bool) : St := ⟨slotsOf 27 [(1, sc (.ptr 0 0)), (2, sc (.ptr 1 0)), (3, sc (.bool b)), (4, sc (.ptr 2 0)), (5, sc (.ptr 3 0)), (6, sc (.i64 n))], [(0, ⟨true, [.fe a]⟩), (1, ⟨true, [.vi 16 m]⟩), (2, ⟨true, [.fe t]⟩), (3, ⟨true, [.fe x]⟩)], 16⟩
def rtOut (a t x : Nat) (n : Int) : St := ⟨slotsOf 27 [(1, sc (.ptr 0 0)), (2, sc (.ptr 1 0)), (3, sc (.bool true)), (4, sc (.ptr 2 0)), (5, sc (.ptr 3 0)), (6, sc (.i64 n))], [(0, ⟨true, [.fe a]⟩), (1, ⟨true, [.fe x]⟩), (2, ⟨true, [.fe t]⟩), (3, ⟨true, [.fe x]⟩)], 16⟩
theorem rtNext (a t x : Nat) (n : Int) : roundS Tryz.prog (lookG tblR3) (orcA [(4, [(1, true)]), (6, [(2, false)])]) [] 10 rtTd (bodyAt Tryz.prog 107 4) (rtInv a t x n z16 false) =
    some (Ex.normal, St.mk (slotsOf 27 [(1, sc (IV.ptr 0 0)), (2, sc (IV.ptr 1 0)), (3, sc (IV.bool false)), (4, sc (IV.ptr 2 0)), (5, sc (IV.ptr 3 0)), (6, sc (IV.i64 (n + (1 : Int))))]) [(0, Blk.mk true [IV.fe a]), (1, Blk.mk true [IV.vi 16 z16]), (2, Blk.mk true [IV.fe t]), (3, Blk.mk true [IV.fe (fMul x t)])] 16, [decide (n < (4 : Int)) = true, x < Pp, a < Pp, evV x a = false, x < Pp, t < Pp, inI64 (n + (1 : Int))]) := by kernel_rfl
theorem rtRet (a t x : Nat) (n : Int) : roundS Tryz.prog (lookG tblR3) (orcA [(4, [(1, true)]), (6, [(2, true)])]) [] 10 rtTd (bodyAt Tryz.prog 107 4) (rtInv a t x n z16 false) =
    some (Ex.ret, St.mk (slotsOf 27 [(1, sc (IV.ptr 0 0)), (2, sc (IV.ptr 1 0)), (3, sc (IV.bool true)), (4, sc (IV.ptr 2 0)), (5, sc (IV.ptr 3 0)), (6, sc (IV.i64 n))]) [(0, Blk.mk true [IV.fe a]), (1, Blk.mk true [IV.fe x]), (2, Blk.mk true [IV.fe t]), (3, Blk.mk true [IV.fe x])] 16, [decide (n < (4 : Int)) = true, x < Pp, a < Pp, evV x a = true]) := by kernel_rfl
theorem rtExit (a t x : Nat) (n : Int) : roundS Tryz.prog (lookG tblR3) (orcA [(4, [(1, false)])]) [] 10 rtTd (bodyAt Tryz.prog 107 4) (rtInv a t x n z16 false) =
    some (Ex.exit 0, St.mk (slotsOf 27 [(1, sc (IV.ptr 0 0)), (2, sc (IV.ptr 1 0)), (3, sc (IV.bool false)), (4, sc (IV.ptr 2 0)), (5, sc (IV.ptr 3 0)), (6, sc (IV.i64 n))]) [(0, Blk.mk true [IV.fe a]), (1, Blk.mk true [IV.vi 16 z16]), (2, Blk.mk true [IV.fe t]), (3, Blk.mk true [IV.fe x])] 16, [decide (n < (4 : Int)) = false]) := by kernel_rfl
theorem runRtR (a t x : Nat) (n : Int) : fnS Tryz.prog (lookG tblR3) (orcA []) [⟨4, rtTd, .ret, rtOut a t x n⟩] 10 107 [.val true [.fe a]] =
    some (AV.tup [(true, [IV.fe x]), (false, [IV.bool true])], [(0 : Int) ≤ (2 : Int), (2 : Int) < (65536 : Int), 32 = 32, 2 < Pp, Sm 14474011154664524427946373126085988481658748083205070504932198000989141204987, 32 = 32, a < Pp, Sm 7237005577332262213973186563042994240829374041602535252466099000494570602493, pw a 7237005577332262213973186563042994240829374041602535252466099000494570602493 < Pp, a < Pp, LoopTo Tryz.prog (bodyAt Tryz.prog 107 4) (St.mk (slotsOf 27 [(1, sc (IV.ptr 0 0)), (2, sc (IV.ptr 1 0)), (3, sc (IV.bool false)), (4, sc (IV.ptr 2 0)), (5, sc (IV.ptr 3 0)), (6, sc (IV.i64 (0 : Int)))]) [(0, Blk.mk true [IV.fe a]), (1, Blk.mk true [IV.vi 16 [(0 : Int), (0 : Int), (0 : Int), (0 : Int), (0 : Int), (0 : Int), (0 : Int), (0 : Int), (0 : Int), (0 : Int), (0 : Int), (0 : Int), (0 : Int), (0 : Int), (0 : Int), (0 : Int)]]), (2, Blk.mk true [IV.fe (pw 2 14474011154664524427946373126085988481658748083205070504932198000989141204987)]), (3, Blk.mk true [IV.fe (fMul (pw a 7237005577332262213973186563042994240829374041602535252466099000494570602493) a)])] 16) Ex.ret (St.mk (slotsOf 27 [(1, sc (IV.ptr 0 0)), (2, sc (IV.ptr 1 0)), (3, sc (IV.bool true)), (4, sc (IV.ptr 2 0)), (5, sc (IV.ptr 3 0)), (6, sc (IV.i64 n))]) [(0, Blk.mk true [IV.fe a]), (1, Blk.mk true [IV.fe x]), (2, Blk.mk true [IV.fe t]), (3, Blk.mk true [IV.fe x])] 16)]) := by kernel_rfl
theorem runRtE (a t x : Nat) (n : Int) : fnS Tryz.prog (lookG tblR3) (orcA []) [⟨4, rtTd, .exit 0, rtInv a t x n z16 false⟩] 10 107 [.val true [.fe a]] =
    some (AV.tup [(true, [IV.fe 0]), (false, [IV.bool false])], [(0 : Int) ≤ (2 : Int), (2 : Int) < (65536 : Int), 32 = 32, 2 < Pp, Sm 14474011154664524427946373126085988481658748083205070504932198000989141204987, 32 = 32, a < Pp, Sm 7237005577332262213973186563042994240829374041602535252466099000494570602493, pw a 7237005577332262213973186563042994240829374041602535252466099000494570602493 < Pp, a < Pp, LoopTo Tryz.prog (bodyAt Tryz.prog 107 4) (St.mk (slotsOf 27 [(1, sc (IV.ptr 0 0)), (2, sc (IV.ptr 1 0)), (3, sc (IV.bool false)), (4, sc (IV.ptr 2 0)), (5, sc (IV.ptr 3 0)), (6, sc (IV.i64 (0 : Int)))]) [(0, Blk.mk true [IV.fe a]), (1, Blk.mk true [IV.vi 16 [(0 : Int), (0 : Int), (0 : Int), (0 : Int), (0 : Int), (0 : Int), (0 : Int), (0 : Int), (0 : Int), (0 : Int), (0 : Int), (0 : Int), (0 : Int), (0 : Int), (0 : Int), (0 : Int)]]), (2, Blk.mk true [IV.fe (pw 2 14474011154664524427946373126085988481658748083205070504932198000989141204987)]), (3, Blk.mk true [IV.fe (fMul (pw a 7237005577332262213973186563042994240829374041602535252466099000494570602493) a)])] 16) (Ex.exit 0) (St.mk (slotsOf 27 [(1, sc (IV.ptr 0 0)), (2, sc (IV.ptr 1 0)), (3, sc (IV.bool false)), (4, sc (IV.ptr 2 0)), (5, sc (IV.ptr 3 0)), (6, sc (IV.i64 n))]) [(0, Blk.mk true [IV.fe a]), (1, Blk.mk true [IV.vi 16 z16]), (2, Blk.mk true [IV.fe t]), (3, Blk.mk true [IV.fe x])] 16), (0 : Int) ≤ (0 : Int), (0 : Int) < (65536 : Int)]) := by kernel_rfl
end Go.Proofs.YtlgiaglbdifkpaaGreatDoor
/- Contracts of the document's field: the root. Own work. -/
namespace Go.Proofs.YtlgiaglbdifkpaaGreatDoor
open Go.Ev Go.Sp Go.RowKit
set_option maxRecDepth 100000
def P58 : Nat := 7237005577332262213973186563042994240829374041602535252466099000494570602493
def P14 : Nat := 14474011154664524427946373126085988481658748083205070504932198000989141204987
def turnN : Nat := pw 2 P14
def rtX (a : Nat) : Nat → Nat
  | 0 => fMul (pw a P58) a
  | n + 1 => fMul (rtX a n) turnN
theorem rtX_lt (a : Nat) : ∀ n, rtX a n < Pp
  | 0 => fMul_lt _ _
  | _ + 1 => fMul_lt _ _
def rtS (a : Nat) : Nat → Nat → Nat × Bool
  | 0, _ => (0, false)
  | m + 1, n => if evV (rtX a n) a then (rtX a n, true) else rtS a m (n + 1)
def rtV (a : Nat) : Nat × Bool := rtS a 4 0
theorem rtS_all (a : Nat) : ∀ m n, (∀ j, n ≤ j → j < n + m → evV (rtX a j) a = false) → rtS a m n = (0, false)
  | 0, _, _ => rfl
  | m + 1, n, h => by
    rw [rtS, h n (by omega) (by omega)]
    exact rtS_all a m (n + 1) fun j h1 h2 => h j (by omega) (by omega)
theorem rtS_at (a : Nat) : ∀ m n k, n ≤ k → k < n + m → evV (rtX a k) a = true → (∀ j, n ≤ j → j < k → evV (rtX a j) a = false) → rtS a m n = (rtX a k, true)
  | 0, n, k, h1, h2, _, _ => by omega
  | m + 1, n, k, h1, h2, h3, h4 => by
    by_cases e : n = k
    · subst e; rw [rtS, h3]; rfl
    · rw [rtS, h4 n (by omega) (by omega)]
      exact rtS_at a m (n + 1) k (by omega) (by omega) h3 fun j h5 h6 => h4 j (by omega) h6
theorem first_even (a : Nat) : ∀ n, (∀ j, j < n → evV (rtX a j) a = false) ∨ ∃ m, m < n ∧ evV (rtX a m) a = true ∧ ∀ j, j < m → evV (rtX a j) a = false
  | 0 => .inl fun j h => by omega
  | n + 1 => by
    rcases first_even a n with h | ⟨m, h1, h2, h3⟩
    · cases hv : evV (rtX a n) a with
      | true => exact .inr ⟨n, by omega, hv, h⟩
      | false =>
        refine .inl fun j hj => ?_
        by_cases e : j = n
        · subst e; exact hv
        · exact h j (by omega)
    · exact .inr ⟨m, by omega, h2, h3⟩
theorem turn_lt : turnN < Pp := pw_lt _ _
theorem rtLoopR (a k : Nat) (ha : a < Pp) (hk : k < 4) (h : evV (rtX a k) a = true) (hf : ∀ j, j < k → evV (rtX a j) a = false) :
    LoopTo Tryz.prog (bodyAt Tryz.prog 107 4) (rtInv a turnN (rtX a 0) 0 z16 false) .ret (rtOut a turnN (rtX a k) (k : Nat)) := by
  refine LoopTo.intro (α := Nat) gsR3 fol (fun n => rtInv a turnN (rtX a n) (n : Nat) z16 false) (fun n => n ≤ k) (fun n => k - n) (by simp) ?_ 0 (by simp)
  intro n hn
  by_cases he : n = k
  · subst he
    exact .inr ⟨_, _, _, _, _, rtRet _ _ _ _, decide_eq_true (by omega), rtX_lt a n, ha, h, trivial⟩
  · have r0 := rtNext a turnN (rtX a n) (n : Nat)
    have e4 : ((n : Nat) : Int) + 1 = ((n + 1 : Nat) : Int) := by omega
    rw [e4] at r0
    exact .inl ⟨_, _, _, _, _, n + 1, r0, ⟨decide_eq_true (by omega), rtX_lt a n, ha, hf n (by omega), rtX_lt a n, turn_lt, by unfold inI64; omega, trivial⟩, by omega, by omega⟩
theorem rtLoopE (a : Nat) (ha : a < Pp) (hf : ∀ j, j < 4 → evV (rtX a j) a = false) :
    LoopTo Tryz.prog (bodyAt Tryz.prog 107 4) (rtInv a turnN (rtX a 0) 0 z16 false) (.exit 0) (rtInv a turnN (rtX a 4) ((4 : Nat) : Int) z16 false) := by
  refine LoopTo.intro (α := Nat) gsR3 fol (fun n => rtInv a turnN (rtX a n) (n : Nat) z16 false) (fun n => n ≤ 4) (fun n => 4 - n) (by simp) ?_ 0 (by simp)
  intro n hn
  by_cases he : n = 4
  · subst he
    exact .inr ⟨_, _, _, _, _, rtExit _ _ _ _, rfl, trivial⟩
  · have r0 := rtNext a turnN (rtX a n) (n : Nat)
    have e4 : ((n : Nat) : Int) + 1 = ((n + 1 : Nat) : Int) := by omega
    rw [e4] at r0
    exact .inl ⟨_, _, _, _, _, n + 1, r0, ⟨decide_eq_true (by omega), rtX_lt a n, ha, hf n (by omega), rtX_lt a n, turn_lt, by unfold inI64; omega, trivial⟩, by omega, by omega⟩
def spRoot : List AV → Option (AV × List Prop)
  | [.val true [.fe a]] => some (.tup [(true, [.fe (rtV a).1]), (false, [.bool (rtV a).2])], [a < Pp])
  | _ => none
theorem Sm_P14 : Sm P14 := Sm_lt (k := 40) (by decide) (by omega)
theorem Sm_P58 : Sm P58 := Sm_lt (k := 40) (by decide) (by omega)
theorem two_lt : 2 < Pp := by decide
theorem ctRoot : CtSOk Tryz.prog 107 (.fn spRoot) := FnS_of_fnS gsR3 fol fun ds r cs h hc => by
  unfold spRoot at h
  split at h
  case h_2 => simp at h
  rename_i a
  simp only [Option.some.injEq, Prod.mk.injEq] at h
  obtain ⟨rfl, rfl⟩ := h
  have ha := hc.1
  rcases first_even a 4 with h | ⟨k, h1, h2, h3⟩
  · exact use_run (runRtE a turnN (rtX a 4) ((4 : Nat) : Int)) (by rw [rtV, rtS_all a 4 0 fun j _ hj => h j (by omega)]) ⟨by omega, by omega, rfl, two_lt, Sm_P14, rfl, ha, Sm_P58, pw_lt _ _, ha, rtLoopE a ha h, by omega, by omega, trivial⟩
  · exact use_run (runRtR a turnN (rtX a k) (k : Nat)) (by rw [rtV, rtS_at a 4 0 k (by omega) (by omega) h2 fun j _ hj => h3 j hj]) ⟨by omega, by omega, rfl, two_lt, Sm_P14, rfl, ha, Sm_P58, pw_lt _ _, ha, rtLoopR a k ha h1 h2 h3, trivial⟩
end Go.Proofs.YtlgiaglbdifkpaaGreatDoor
/- Contracts of the program's field. Own work. -/
namespace Go.Proofs.YtlgiaglbdifkpaaGreatDoor
open Go.Ev Go.Sp Go.RowKit
set_option maxRecDepth 100000
def tblW3 : List (FuncId × CtS) := [(81, .fn (sp2 addV)), (53, .fn (sp2 subV)), (83, .fn spMul), (62, .fn spPick), (103, .fn spBit), (46, .fn spFrom), (84, .fn spBytes)]
theorem okW3 : TblOk Tryz.prog tblW3 := ⟨⟨ctAdd, by kernel_rfl⟩, ⟨ctSub, by kernel_rfl⟩, ⟨ctMul, by kernel_rfl⟩, ⟨ctPick, by kernel_rfl⟩, ⟨ctBit, by kernel_rfl⟩, ⟨ctFrom, by kernel_rfl⟩, ⟨ctBytes, by kernel_rfl⟩, trivial⟩
theorem gsW3 : GSound Tryz.prog (upG (lookG tblW3)) := GSound_of_tbl okW3
theorem runFPrime  : fnS Tryz.prog (lookG tblW3) orc0 [] 10 100 [] =
    some (AV.val true [IV.n4 (N4.mk (BitVec.ofNat 64 18446744073709551597) (BitVec.ofNat 64 18446744073709551615) (BitVec.ofNat 64 18446744073709551615) (BitVec.ofNat 64 9223372036854775807))], []) := by kernel_rfl
def spFPrime : List AV → Option (AV × List Prop)
  | [] => some (.val true [.n4 (ofN Pp)], [])
  | _ => none
theorem ctFPrime : CtSOk Tryz.prog 100 (.fn spFPrime) := FnS_of_fnS gsW3 fol fun ds r cs h hc => by
  unfold spFPrime at h
  split at h
  case h_2 => simp at h
  simp only [Option.some.injEq, Prod.mk.injEq] at h
  obtain ⟨rfl, rfl⟩ := h
  exact use_run runFPrime rfl trivial
def tblP1 : List (FuncId × CtS) :=
  (100, .fn spFPrime) :: tblW3
theorem gsP1 : GSound Tryz.prog (upG (lookG tblP1)) := GSound_of_tbl ⟨⟨ctFPrime, by kernel_rfl⟩, okW3⟩
theorem runRight (a : N4) : fnS Tryz.prog (lookG tblP1) orc0 [] 10 55 [.val true [.n4 a]] =
    some (sc (IV.bool ((if val a < 57896044618658097711785492504343953926634992332820282019728792003956564819949 then BitVec.ofNat 64 1 else BitVec.ofNat 64 0) == BitVec.ofNat 64 1)), []) := by kernel_rfl
theorem runRed (a : N4) : fnS Tryz.prog (lookG tblP1) orc0 [] 10 101 [.val true [.n4 a]] =
    some (AV.val true [IV.n4 (if (if val (if (if val a < 57896044618658097711785492504343953926634992332820282019728792003956564819949 then BitVec.ofNat 64 1 else BitVec.ofNat 64 0) = BitVec.ofNat 64 0 then ofN (val a + p256 - 57896044618658097711785492504343953926634992332820282019728792003956564819949) else a) < 57896044618658097711785492504343953926634992332820282019728792003956564819949 then BitVec.ofNat 64 1 else BitVec.ofNat 64 0) = BitVec.ofNat 64 0 then ofN (val (if (if val a < 57896044618658097711785492504343953926634992332820282019728792003956564819949 then BitVec.ofNat 64 1 else BitVec.ofNat 64 0) = BitVec.ofNat 64 0 then ofN (val a + p256 - 57896044618658097711785492504343953926634992332820282019728792003956564819949) else a) + p256 - 57896044618658097711785492504343953926634992332820282019728792003956564819949) else if (if val a < 57896044618658097711785492504343953926634992332820282019728792003956564819949 then BitVec.ofNat 64 1 else BitVec.ofNat 64 0) = BitVec.ofNat 64 0 then ofN (val a + p256 - 57896044618658097711785492504343953926634992332820282019728792003956564819949) else a)], []) := by kernel_rfl
def spRight : List AV → Option (AV × List Prop)
  | [.val true [.n4 a]] => some (sc (.bool (decide (val a < Pp))), [])
  | _ => none
theorem ctRight : CtSOk Tryz.prog 55 (.fn spRight) := FnS_of_fnS gsP1 fol fun ds r cs h hc => by
  unfold spRight at h
  split at h
  case h_2 => simp at h
  rename_i a
  simp only [Option.some.injEq, Prod.mk.injEq] at h
  obtain ⟨rfl, rfl⟩ := h
  refine use_run (runRight a) ?_ trivial
  show sc (.bool ((if val a < Pp then BitVec.ofNat 64 1 else BitVec.ofNat 64 0) == BitVec.ofNat 64 1)) = _
  by_cases h : val a < Pp
  · rw [if_pos h, decide_eq_true h]; rfl
  · rw [if_neg h, decide_eq_false h]; rfl
def pk (a : N4) : N4 := if (if val a < Pp then BitVec.ofNat 64 1 else BitVec.ofNat 64 0) = BitVec.ofNat 64 0 then ofN (val a + p256 - Pp) else a
theorem pk_val (a : N4) : val (pk a) = if val a < Pp then val a else val a - Pp := by
  have h := val_lt a
  have hp := Pp_lt
  unfold pk
  by_cases ha : val a < Pp
  · rw [if_pos ha, if_pos ha, if_neg (by decide)]
  · rw [if_neg ha, if_neg ha, if_pos rfl, val_ofN]
    generalize val a = x at *
    generalize p256 = q at *
    generalize Pp = p at *
    rw [show x + q - p = x - p + q by omega, Nat.add_mod_right, Nat.mod_eq_of_lt (by omega)]
theorem pk2 (a : N4) : pk (pk a) = ofN (val a % Pp) := by
  apply val_inj
  have hlt := Nat.mod_lt (val a) Pp_pos
  rw [val_ofN, Nat.mod_eq_of_lt (lt256 hlt), pk_val, pk_val]
  have h := val_lt a
  rw [show p256 = 2 * Pp + 38 by decide] at h
  have h38 : 38 < Pp := by decide
  generalize val a = x at *
  generalize Pp = p at *
  by_cases h1 : x < p
  · simp only [if_pos h1]; rw [Nat.mod_eq_of_lt h1]
  · simp only [if_neg h1]
    by_cases h2 : x - p < p
    · rw [if_pos h2, Nat.mod_eq_sub_mod (by omega), Nat.mod_eq_of_lt h2]
    · rw [if_neg h2, Nat.mod_eq_sub_mod (by omega), Nat.mod_eq_sub_mod (by omega), Nat.mod_eq_of_lt (by omega)]
def spRed : List AV → Option (AV × List Prop)
  | [.val true [.n4 a]] => some (.val true [.n4 (ofN (val a % Pp))], [])
  | _ => none
theorem ctRed : CtSOk Tryz.prog 101 (.fn spRed) := FnS_of_fnS gsP1 fol fun ds r cs h hc => by
  unfold spRed at h
  split at h
  case h_2 => simp at h
  rename_i a
  simp only [Option.some.injEq, Prod.mk.injEq] at h
  obtain ⟨rfl, rfl⟩ := h
  refine use_run (runRed a) ?_ trivial
  show AV.val true [.n4 (pk (pk a))] = _
  rw [pk2]
def tblP2 : List (FuncId × CtS) :=
  (101, .fn spRed) :: (55, .fn spRight) :: tblP1
theorem gsP2 : GSound Tryz.prog (upG (lookG tblP2)) := GSound_of_tbl ⟨⟨ctRed, by kernel_rfl⟩, ⟨ctRight, by kernel_rfl⟩, ⟨ctFPrime, by kernel_rfl⟩, okW3⟩
def sp2N (f : Nat → Nat → Nat) : List AV → Option (AV × List Prop)
  | [.val true [.n4 a], .val true [.n4 b]] => some (.val true [.n4 (ofN (f (val a % Pp) (val b % Pp)))], [])
  | _ => none
def sp1N (f : Nat → Nat) : List AV → Option (AV × List Prop)
  | [.val true [.n4 a]] => some (.val true [.n4 (ofN (f (val a % Pp)))], [])
  | _ => none
theorem runPAdd (a b : N4) : fnS Tryz.prog (lookG tblP2) orc0 [] 10 60 [.val true [.n4 a], .val true [.n4 b]] =
    some (AV.val true [IV.n4 (ofN (val (ofN (val (ofN (val a % Pp)) + val (ofN (val b % Pp)))) % Pp))], []) := by kernel_rfl
theorem runPNeg (a : N4) : fnS Tryz.prog (lookG tblP2) orc0 [] 10 63 [.val true [.n4 a]] =
    some (AV.val true [IV.n4 (ofN (val (ofN (173688133855974293135356477513031861779904976998460846059186376011869694459885 - val (ofN (val a % Pp)))) % Pp))], []) := by kernel_rfl
theorem step38 (x k : Nat) : (x + p256 * k) % Pp = (x + 38 * k) % Pp := by
  rw [show p256 = Pp * 2 + 38 by decide, Nat.add_mul, Nat.mul_assoc, show x + (Pp * (2 * k) + 38 * k) = x + 38 * k + Pp * (2 * k) by omega, Nat.add_mul_mod_self_left]
theorem mulLaw {n lo hi m s1 c s2 s3 : Nat} (hn : n < p256 * p256) (h0 : lo = n % p256) (h1 : hi = n / p256) (h2 : m = hi * 38) (h3 : s1 = lo + m % p256) (h4 : c = 38 * (m / p256 + s1 / p256)) (h5 : s2 = s1 % p256 + c)
    (h6 : s3 = s2 % p256 + 38 * (s2 / p256)) : hi < p256 ∧ m / p256 < 38 ∧ s1 / p256 < 2 ∧ s2 / p256 < 2 ∧ s3 < p256 ∧ s3 % Pp = n % Pp := by
  have a1 : hi < p256 := by rw [h1]; exact Nat.div_lt_of_lt_mul hn
  have hp : 0 < p256 := by decide
  have hpb : 100000 < p256 := by decide
  have a2 : m / p256 < 38 := by rw [h2]; exact Nat.div_lt_of_lt_mul (Nat.mul_lt_mul_of_pos_right a1 (by decide))
  have b1 : lo < p256 := by rw [h0]; exact Nat.mod_lt _ hp
  have b2 := Nat.mod_lt m hp
  have b3 := Nat.mod_lt s1 hp
  have b4 := Nat.mod_lt s2 hp
  have a3 : s1 / p256 < 2 := Nat.div_lt_of_lt_mul (by omega)
  have a4 : s2 / p256 < 2 := Nat.div_lt_of_lt_mul (by omega)
  have d0 := Nat.mod_add_div n p256
  have d1 := Nat.mod_add_div m p256
  have d2 := Nat.mod_add_div s1 p256
  have d3 := Nat.mod_add_div s2 p256
  have a5 : s3 < p256 := by
    have hq : s2 / p256 = 0 ∨ s2 / p256 = 1 := by omega
    rcases hq with e | e
    · rw [e] at h6; omega
    · rw [e] at h6 d3; omega
  refine ⟨a1, a2, a3, a4, a5, ?_⟩
  have e1 : n % Pp = (lo + m) % Pp := by rw [← d0, step38, ← h0, ← h1, h2, Nat.mul_comm 38 hi]
  have e2 : (lo + m) % Pp = (s1 % p256 + p256 * (s1 / p256 + m / p256)) % Pp := by rw [Nat.mul_add]; congr 1; omega
  rw [e1, e2, step38, show s1 % p256 + 38 * (s1 / p256 + m / p256) = s2 by omega, h6, ← step38, d3]
theorem val_w (x : BitVec 64) : val (N4.mk x (BitVec.ofNat 64 0) (BitVec.ofNat 64 0) (BitVec.ofNat 64 0)) = x.toNat := by
  rw [val_mk]; simp
theorem val_gets (x : N4) : N4.mk (x.get (4 - 4)) (x.get (5 - 4)) (x.get (6 - 4)) (x.get (7 - 4)) = x := rfl
theorem get0_ofN (n : Nat) : (ofN n).get (4 - 4) = BitVec.ofNat 64 n := rfl
theorem w38 {x y : Nat} (hx : x < 38) (hy : y < 2) : (BitVec.ofNat 64 38 * (BitVec.ofNat 64 x + BitVec.ofNat 64 y)).toNat = 38 * (x + y) := by
  simp only [BitVec.toNat_mul, BitVec.toNat_add, BitVec.toNat_ofNat]; omega
theorem w38' {y : Nat} (hy : y < 2) : (BitVec.ofNat 64 38 * BitVec.ofNat 64 y).toNat = 38 * y := by
  simp only [BitVec.toNat_mul, BitVec.toNat_ofNat]; omega
theorem runPMul (a b : N4) : fnS Tryz.prog (lookG tblP2) orc0 [] 10 56 [.val true [.n4 a], .val true [.n4 b]] =
    some (AV.val true [IV.n4 (ofN (val (ofN (val (ofN (val (ofN (val (ofN (val a * val b)) + val (ofN (val (N4.mk ((ofN (val a * val b / p256)).get (4 - 4)) ((ofN (val a * val b / p256)).get (5 - 4)) ((ofN (val a * val b / p256)).get (6 - 4)) ((ofN (val a * val b / p256)).get (7 - 4))) * 38)))) + val (N4.mk (BitVec.ofNat 64 38 * ((ofN (val (N4.mk ((ofN (val a * val b / p256)).get (4 - 4)) ((ofN (val a * val b / p256)).get (5 - 4)) ((ofN (val a * val b / p256)).get (6 - 4)) ((ofN (val a * val b / p256)).get (7 - 4))) * 38 / p256)).get (4 - 4) + BitVec.ofNat 64 ((val (ofN (val a * val b)) + val (ofN (val (N4.mk ((ofN (val a * val b / p256)).get (4 - 4)) ((ofN (val a * val b / p256)).get (5 - 4)) ((ofN (val a * val b / p256)).get (6 - 4)) ((ofN (val a * val b / p256)).get (7 - 4))) * 38))) / p256))) (BitVec.ofNat 64 0) (BitVec.ofNat 64 0) (BitVec.ofNat 64 0)))) + val (N4.mk (BitVec.ofNat 64 38 * BitVec.ofNat 64 ((val (ofN (val (ofN (val a * val b)) + val (ofN (val (N4.mk ((ofN (val a * val b / p256)).get (4 - 4)) ((ofN (val a * val b / p256)).get (5 - 4)) ((ofN (val a * val b / p256)).get (6 - 4)) ((ofN (val a * val b / p256)).get (7 - 4))) * 38)))) + val (N4.mk (BitVec.ofNat 64 38 * ((ofN (val (N4.mk ((ofN (val a * val b / p256)).get (4 - 4)) ((ofN (val a * val b / p256)).get (5 - 4)) ((ofN (val a * val b / p256)).get (6 - 4)) ((ofN (val a * val b / p256)).get (7 - 4))) * 38 / p256)).get (4 - 4) + BitVec.ofNat 64 ((val (ofN (val a * val b)) + val (ofN (val (N4.mk ((ofN (val a * val b / p256)).get (4 - 4)) ((ofN (val a * val b / p256)).get (5 - 4)) ((ofN (val a * val b / p256)).get (6 - 4)) ((ofN (val a * val b / p256)).get (7 - 4))) * 38))) / p256))) (BitVec.ofNat 64 0) (BitVec.ofNat 64 0) (BitVec.ofNat 64 0))) / p256)) (BitVec.ofNat 64 0) (BitVec.ofNat 64 0) (BitVec.ofNat 64 0)))) % Pp))], []) := by kernel_rfl
theorem ctPMul : CtSOk Tryz.prog 56 (.fn (sp2N fMul)) := FnS_of_fnS gsP2 fol fun ds r cs h hc => by
  unfold sp2N at h
  split at h
  case h_2 => simp at h
  rename_i a b
  simp only [Option.some.injEq, Prod.mk.injEq] at h
  obtain ⟨rfl, rfl⟩ := h
  refine use_run (runPMul a b) ?_ trivial
  have hn : val a * val b < p256 * p256 := Nat.mul_lt_mul'' (val_lt a) (val_lt b)
  obtain ⟨q1, q2, q3, q4, q5, q6⟩ := mulLaw hn rfl rfl rfl rfl rfl rfl rfl
  simp only [val_gets, val_ofN, Nat.mod_eq_of_lt q1]
  rw [get0_ofN]
  simp only [val_w, w38 q2 q3, w38' q4, Nat.mod_eq_of_lt q5, q6]
  unfold fMul
  rw [← Nat.mul_mod]
theorem modP (x : Nat) : x % Pp % p256 = x % Pp := Nat.mod_eq_of_lt (lt256 (Nat.mod_lt _ Pp_pos))
theorem ctPAdd : CtSOk Tryz.prog 60 (.fn (sp2N fAdd)) := FnS_of_fnS gsP2 fol fun ds r cs h hc => by
  unfold sp2N at h
  split at h
  case h_2 => simp at h
  rename_i a b
  simp only [Option.some.injEq, Prod.mk.injEq] at h
  obtain ⟨rfl, rfl⟩ := h
  refine use_run (runPAdd a b) ?_ trivial
  have h1 := Nat.mod_lt (val a) Pp_pos
  have h2 := Nat.mod_lt (val b) Pp_pos
  simp only [val_ofN, modP]
  rw [Nat.mod_eq_of_lt (show val a % Pp + val b % Pp < p256 by rw [show p256 = 2 * Pp + 38 by decide]; omega)]
  rfl
theorem ctPNeg : CtSOk Tryz.prog 63 (.fn (sp1N fNeg)) := FnS_of_fnS gsP2 fol fun ds r cs h hc => by
  unfold sp1N at h
  split at h
  case h_2 => simp at h
  rename_i a
  simp only [Option.some.injEq, Prod.mk.injEq] at h
  obtain ⟨rfl, rfl⟩ := h
  refine use_run (runPNeg a) ?_ trivial
  have h1 := Nat.mod_lt (val a) Pp_pos
  simp only [val_ofN, modP]
  rw [show (173688133855974293135356477513031861779904976998460846059186376011869694459885 : Nat) = p256 + Pp by decide]
  rw [show p256 + Pp - val a % Pp = Pp - val a % Pp + p256 by omega, Nat.add_mod_right, Nat.mod_eq_of_lt (Nat.lt_of_le_of_lt (Nat.sub_le _ _) Pp_lt)]
  rfl
def tblP3 : List (FuncId × CtS) :=
  (60, .fn (sp2N fAdd)) :: (63, .fn (sp1N fNeg)) :: (56, .fn (sp2N fMul)) :: tblP2
theorem gsP3 : GSound Tryz.prog (upG (lookG tblP3)) := GSound_of_tbl ⟨⟨ctPAdd, by kernel_rfl⟩, ⟨ctPNeg, by kernel_rfl⟩, ⟨ctPMul, by kernel_rfl⟩, ⟨ctRed, by kernel_rfl⟩, ⟨ctRight, by kernel_rfl⟩, ⟨ctFPrime, by kernel_rfl⟩, okW3⟩
theorem runPSub (a b : N4) : fnS Tryz.prog (lookG tblP3) orc0 [] 10 58 [.val true [.n4 a], .val true [.n4 b]] =
    some (AV.val true [IV.n4 (ofN (fAdd (val a % Pp) (val (ofN (fNeg (val b % Pp))) % Pp)))], []) := by kernel_rfl
def pwH (a e o : N4) : Heap := [(0, ⟨true, [.n4 (ofN 0)]⟩), (1, ⟨true, [.n4 o]⟩), (2, ⟨true, [.n4 e]⟩), (3, ⟨true, [.n4 a]⟩)]
def ppTd : List Nat := [4, 5, 6, 10]
def ppInv (a e o : N4) (i : Int) : St := ⟨slotsOf 19 [(4, sc (.ptr 0 0)), (5, sc (.ptr 1 0)), (6, .fn 125 [] [(1, 0), (2, 0), (3, 0)]), (10, sc (.i64 i))], pwH a e o, 16⟩
theorem runStep (a e o : N4) (i : Int) : cloS Tryz.prog (lookG tblP3) orc0 10 125 [sc (.i64 i), sc (.ptr 1 0), sc (.ptr 2 0), sc (.ptr 3 0)] (pwH a e o) 128 =
    some (AV.tup [], [(0, Blk.mk true [IV.n4 (ofN 0)]), (1, Blk.mk true [IV.n4 (if bitN e i = BitVec.ofNat 64 0 then ofN (fMul (val o % Pp) (val o % Pp)) else ofN (fMul (val (ofN (fMul (val o % Pp) (val o % Pp))) % Pp) (val a % Pp)))]), (2, Blk.mk true [IV.n4 e]), (3, Blk.mk true [IV.n4 a])], 336, []) := by kernel_rfl
theorem ppRound (a e o o' : N4) (i : Int) : roundS Tryz.prog (lookG tblP3) (orcI [(4, [(0, true)])] [] [(6, ⟨3, .tup [], pwH a e o', 336⟩)]) [] 10 ppTd (bodyAt Tryz.prog 102 4) (ppInv a e o i) =
    some (Ex.normal, St.mk (slotsOf 19 [(4, sc (IV.ptr 0 0)), (5, sc (IV.ptr 1 0)), (6, AV.fn 125 [] [(1, 0), (2, 0), (3, 0)]), (10, sc (IV.i64 (i + (1 : Int))))]) [(0, Blk.mk true [IV.n4 (ofN 0)]), (1, Blk.mk true [IV.n4 o']), (2, Blk.mk true [IV.n4 e]), (3, Blk.mk true [IV.n4 a])] 16, [decide (i < (256 : Int)) = true, CloTo Tryz.prog 125 [sc (IV.i64 ((255 : Int) - i)), sc (IV.ptr 1 0), sc (IV.ptr 2 0), sc (IV.ptr 3 0)] [(0, Blk.mk true [IV.n4 (ofN 0)]), (1, Blk.mk true [IV.n4 o]), (2, Blk.mk true [IV.n4 e]), (3, Blk.mk true [IV.n4 a])] 128 (AV.tup []) [(0, Blk.mk true [IV.n4 (ofN 0)]), (1, Blk.mk true [IV.n4 o']), (2, Blk.mk true [IV.n4 e]), (3, Blk.mk true [IV.n4 a])] 336, inI64 ((255 : Int) - i), inI64 (i + (1 : Int))]) := by kernel_rfl
theorem ppEx (a e o : N4) (i : Int) : roundS Tryz.prog (lookG tblP3) (orcA [(4, [(0, false)])]) [] 10 ppTd (bodyAt Tryz.prog 102 4) (ppInv a e o i) =
    some (Ex.exit 0, St.mk (slotsOf 19 [(4, sc (IV.ptr 0 0)), (5, sc (IV.ptr 1 0)), (6, AV.fn 125 [] [(1, 0), (2, 0), (3, 0)]), (10, sc (IV.i64 i))]) [(0, Blk.mk true [IV.n4 (ofN 0)]), (1, Blk.mk true [IV.n4 o]), (2, Blk.mk true [IV.n4 e]), (3, Blk.mk true [IV.n4 a])] 16, [decide (i < (256 : Int)) = false]) := by kernel_rfl
theorem runPPw (a e o : N4) (i : Int) : fnS Tryz.prog (lookG tblP3) (orcA []) [⟨4, ppTd, .exit 0, ppInv a e o i⟩] 10 102 [.val true [.n4 a], .val true [.n4 e]] =
    some (AV.val true [IV.n4 o], [LoopTo Tryz.prog (bodyAt Tryz.prog 102 4) (St.mk (slotsOf 19 [(4, sc (IV.ptr 0 0)), (5, sc (IV.ptr 1 0)), (6, AV.fn 125 [] [(1, 0), (2, 0), (3, 0)]), (10, sc (IV.i64 (0 : Int)))]) [(0, Blk.mk true [IV.n4 (N4.mk (BitVec.ofNat 64 0) (BitVec.ofNat 64 0) (BitVec.ofNat 64 0) (BitVec.ofNat 64 0))]), (1, Blk.mk true [IV.n4 (N4.mk (BitVec.ofNat 64 1) (BitVec.ofNat 64 0) (BitVec.ofNat 64 0) (BitVec.ofNat 64 0))]), (2, Blk.mk true [IV.n4 e]), (3, Blk.mk true [IV.n4 a])] 16) (Ex.exit 0) (St.mk (slotsOf 19 [(4, sc (IV.ptr 0 0)), (5, sc (IV.ptr 1 0)), (6, AV.fn 125 [] [(1, 0), (2, 0), (3, 0)]), (10, sc (IV.i64 i))]) [(0, Blk.mk true [IV.n4 (ofN 0)]), (1, Blk.mk true [IV.n4 o]), (2, Blk.mk true [IV.n4 e]), (3, Blk.mk true [IV.n4 a])] 16)]) := by kernel_rfl
theorem pwB (A E : Nat) (hA : A < Pp) (e : N4) (he : val e = E) (j : Nat) (hj : j < 256) :
    (if bitN e ((255 : Int) - (j : Nat)) = BitVec.ofNat 64 0 then ofN (fMul (pw A (E / 2 ^ (256 - j))) (pw A (E / 2 ^ (256 - j)))) else ofN (fMul (fMul (pw A (E / 2 ^ (256 - j))) (pw A (E / 2 ^ (256 - j)))) A)) = ofN (pw A (E / 2 ^ (256 - (j + 1)))) := by
  have hi : ((255 : Int) - (j : Nat)).toNat = 255 - j := by omega
  have hb : bitN e ((255 : Int) - (j : Nat)) = BitVec.ofNat 64 (E / 2 ^ (255 - j) % 2) := by
    unfold bitN
    rw [if_neg (by omega), hi, he]
  have hm : E / 2 ^ (256 - j) = E / 2 ^ (255 - j) / 2 := by
    rw [Nat.div_div_eq_div_mul, ← Nat.pow_succ, show (255 - j).succ = 256 - j by omega]
  have hA1 : pw A 1 = A := by unfold pw; rw [Nat.pow_one, Nat.mod_eq_of_lt hA]
  rw [hb, hm, show 256 - (j + 1) = 255 - j by omega, pw_mul]
  generalize E / 2 ^ (255 - j) = m
  have hmod := Nat.mod_two_eq_zero_or_one m
  rcases hmod with e0 | e0
  · rw [e0, if_pos rfl, show m / 2 + m / 2 = m by omega]
  · rw [e0, if_neg (by decide)]
    have := pw_mul A (m / 2 + m / 2) 1
    rw [hA1] at this
    rw [this, show m / 2 + m / 2 + 1 = m by omega]
theorem val_pw (A m : Nat) : val (ofN (pw A m)) = pw A m := by rw [val_ofN, Nat.mod_eq_of_lt (lt256 (pw_lt A m))]
theorem pw_mod (A m : Nat) : pw A m % Pp = pw A m := Nat.mod_eq_of_lt (pw_lt A m)
theorem ppLoop (a e : N4) : LoopTo Tryz.prog (bodyAt Tryz.prog 102 4) (ppInv a e (ofN 1) 0) (.exit 0) (ppInv a e (ofN (pw (val a % Pp) (val e))) ((256 : Nat) : Int)) := by
  have h0 : ppInv a e (ofN 1) 0 = ppInv a e (ofN (pw (val a % Pp) (val e / 2 ^ (256 - 0)))) ((0 : Nat) : Int) := by
    have h1 : pw (val a % Pp) (val e / 2 ^ (256 - 0)) = 1 := by
      rw [show (2 : Nat) ^ (256 - 0) = p256 by decide, Nat.div_eq_of_lt (val_lt e)]
      unfold pw
      rw [Nat.pow_zero]
      decide
    rw [h1]; rfl
  have hn : ppInv a e (ofN (pw (val a % Pp) (val e))) ((256 : Nat) : Int) = ppInv a e (ofN (pw (val a % Pp) (val e / 2 ^ (256 - 256)))) ((256 : Nat) : Int) := by rw [Nat.sub_self, Nat.pow_zero, Nat.div_one]
  rw [h0, hn]
  refine LoopTo.intro (α := Nat) gsP3 fol (fun i => ppInv a e (ofN (pw (val a % Pp) (val e / 2 ^ (256 - i)))) (i : Nat)) (fun i => i ≤ 256) (fun i => 256 - i) (by simp) ?_ 0 (by simp)
  intro i hi
  by_cases hl : i = 256
  · rw [hl]
    exact .inr ⟨_, _, _, _, _, ppEx _ _ _ _, decide_eq_false (by omega), trivial⟩
  · have r1 := runStep a e (ofN (pw (val a % Pp) (val e / 2 ^ (256 - i)))) ((255 : Int) - (i : Nat))
    have hA := Nat.mod_lt (val a) Pp_pos
    have hf : ∀ x y, val (ofN (fMul x y)) = fMul x y := fun x y => by rw [val_ofN, Nat.mod_eq_of_lt (lt256 (fMul_lt x y))]
    have hf2 : ∀ x y, fMul x y % Pp = fMul x y := fun x y => Nat.mod_eq_of_lt (fMul_lt x y)
    simp only [val_pw, pw_mod, hf, hf2] at r1
    rw [pwB (val a % Pp) (val e) hA e rfl i (by omega)] at r1
    have c1 := CloTo_of_cloS gsP3 fol (fun _ => rfl) r1 trivial
    have r0 := ppRound a e (ofN (pw (val a % Pp) (val e / 2 ^ (256 - i)))) (ofN (pw (val a % Pp) (val e / 2 ^ (256 - (i + 1))))) (i : Nat)
    have e4 : ((i : Nat) : Int) + 1 = ((i + 1 : Nat) : Int) := by omega
    rw [e4] at r0
    refine .inl ⟨_, _, _, _, _, i + 1, r0, ?_, by omega, by omega⟩
    exact ⟨decide_eq_true (by omega), c1, by unfold inI64; omega, by unfold inI64; omega, trivial⟩
def spPPow : List AV → Option (AV × List Prop)
  | [.val true [.n4 a], .val true [.n4 e]] => some (.val true [.n4 (ofN (pw (val a % Pp) (val e)))], [])
  | _ => none
theorem ctPPow : CtSOk Tryz.prog 102 (.fn spPPow) := FnS_of_fnS gsP3 fol fun ds r cs h hc => by
  unfold spPPow at h
  split at h
  case h_2 => simp at h
  rename_i a e
  simp only [Option.some.injEq, Prod.mk.injEq] at h
  obtain ⟨rfl, rfl⟩ := h
  exact use_run (runPPw a e (ofN (pw (val a % Pp) (val e))) ((256 : Nat) : Int)) rfl ⟨ppLoop a e, trivial⟩
theorem runPEnc (a : N4) : fnS Tryz.prog (lookG tblP2) (orcA []) [] 10 94 [.val true [.n4 a]] =
    some (sc (IV.d8 (cutL (bl (val (ofN (val a % Pp))) 32) 0 (bl (val (ofN (val a % Pp))) 32).length (bl (val (ofN (val a % Pp))) 32).length)), [0 + (bl (val (ofN (val a % Pp))) 32).length ≤ (bl (val (ofN (val a % Pp))) 32).length]) := by kernel_rfl
end Go.Proofs.YtlgiaglbdifkpaaGreatDoor
/- Contracts of the program's field: roots, inverses, bytes. Own work. -/
namespace Go.Proofs.YtlgiaglbdifkpaaGreatDoor
open Go.Ev Go.Sp Go.RowKit
set_option maxRecDepth 100000
/-- Powers by whatever function: no big power is to be evaluated. -/
def spPwG (f : Nat → Nat → Nat) : List AV → Option (AV × List Prop)
  | [.val true [.n4 a], .val true [.n4 e]] => some (.val true [.n4 (ofN (f (val a % Pp) (val e)))], [])
  | _ => none
def tblP4 (f : Nat → Nat → Nat) : List (FuncId × CtS) :=
  (102, .fn (spPwG f)) :: tblP3
theorem gsP4 : GSound Tryz.prog (upG (lookG (tblP4 pw))) := GSound_of_tbl ⟨⟨ctPPow, by kernel_rfl⟩, ⟨ctPAdd, by kernel_rfl⟩, ⟨ctPNeg, by kernel_rfl⟩, ⟨ctPMul, by kernel_rfl⟩, ⟨ctRed, by kernel_rfl⟩, ⟨ctRight, by kernel_rfl⟩, ⟨ctFPrime, by kernel_rfl⟩, okW3⟩
theorem runPInv (f : Nat → Nat → Nat) (a : N4) : fnS Tryz.prog (lookG (tblP4 f)) orc0 [] 10 59 [.val true [.n4 a]] =
    some (AV.val true [IV.n4 (ofN (f (val a % Pp) 57896044618658097711785492504343953926634992332820282019728792003956564819947))], []) := by kernel_rfl
theorem runPRt0 (f : Nat → Nat → Nat) (a : N4) : fnS Tryz.prog (lookG (tblP4 f)) (orcA [(5, [(4, false)]), (7, [(4, false)])]) [] 10 57 [.val true [.n4 a]] =
    some (AV.tup [(true, [IV.n4 (if (ofN (f (val (ofN (val a % Pp)) % Pp) 7237005577332262213973186563042994240829374041602535252466099000494570602494)).get 0 &&& BitVec.ofNat 64 1 = BitVec.ofNat 64 0 then ofN (f (val (ofN (val a % Pp)) % Pp) 7237005577332262213973186563042994240829374041602535252466099000494570602494) else ofN (fNeg (val (ofN (f (val (ofN (val a % Pp)) % Pp) 7237005577332262213973186563042994240829374041602535252466099000494570602494)) % Pp)))]), (false, [IV.bool true])], [(!((ofN (fMul (val (ofN (f (val (ofN (val a % Pp)) % Pp) 7237005577332262213973186563042994240829374041602535252466099000494570602494)) % Pp) (val (ofN (f (val (ofN (val a % Pp)) % Pp) 7237005577332262213973186563042994240829374041602535252466099000494570602494)) % Pp))).eq (ofN (val a % Pp)) && true)) = false, (!((ofN (fMul (val (ofN (f (val (ofN (val a % Pp)) % Pp) 7237005577332262213973186563042994240829374041602535252466099000494570602494)) % Pp) (val (ofN (f (val (ofN (val a % Pp)) % Pp) 7237005577332262213973186563042994240829374041602535252466099000494570602494)) % Pp))).eq (ofN (val a % Pp)) && true)) = false, (0 : Int) ≤ (0 : Int), 0 < 4, 0 < 4]) := by kernel_rfl
theorem runPRt1 (f : Nat → Nat → Nat) (a : N4) : fnS Tryz.prog (lookG (tblP4 f)) (orcA [(5, [(4, true)]), (7, [(4, false)])]) [] 10 57 [.val true [.n4 a]] =
    some (AV.tup [(true, [IV.n4 (if (ofN (fMul (val (ofN (f (val (ofN (val a % Pp)) % Pp) 7237005577332262213973186563042994240829374041602535252466099000494570602494)) % Pp) (val (ofN (f 2 14474011154664524427946373126085988481658748083205070504932198000989141204987)) % Pp))).get 0 &&& BitVec.ofNat 64 1 = BitVec.ofNat 64 0 then ofN (fMul (val (ofN (f (val (ofN (val a % Pp)) % Pp) 7237005577332262213973186563042994240829374041602535252466099000494570602494)) % Pp) (val (ofN (f 2 14474011154664524427946373126085988481658748083205070504932198000989141204987)) % Pp)) else ofN (fNeg (val (ofN (fMul (val (ofN (f (val (ofN (val a % Pp)) % Pp) 7237005577332262213973186563042994240829374041602535252466099000494570602494)) % Pp) (val (ofN (f 2 14474011154664524427946373126085988481658748083205070504932198000989141204987)) % Pp))) % Pp)))]), (false, [IV.bool true])], [(!((ofN (fMul (val (ofN (f (val (ofN (val a % Pp)) % Pp) 7237005577332262213973186563042994240829374041602535252466099000494570602494)) % Pp) (val (ofN (f (val (ofN (val a % Pp)) % Pp) 7237005577332262213973186563042994240829374041602535252466099000494570602494)) % Pp))).eq (ofN (val a % Pp)) && true)) = true, (!((ofN (fMul (val (ofN (fMul (val (ofN (f (val (ofN (val a % Pp)) % Pp) 7237005577332262213973186563042994240829374041602535252466099000494570602494)) % Pp) (val (ofN (f 2 14474011154664524427946373126085988481658748083205070504932198000989141204987)) % Pp))) % Pp) (val (ofN (fMul (val (ofN (f (val (ofN (val a % Pp)) % Pp) 7237005577332262213973186563042994240829374041602535252466099000494570602494)) % Pp) (val (ofN (f 2 14474011154664524427946373126085988481658748083205070504932198000989141204987)) % Pp))) % Pp))).eq (ofN (val a % Pp)) && true)) = false, (0 : Int) ≤ (0 : Int), 0 < 4, 0 < 4]) := by kernel_rfl
theorem runPRtN (f : Nat → Nat → Nat) (a : N4) : fnS Tryz.prog (lookG (tblP4 f)) (orcA [(5, [(4, true)]), (7, [(4, true)])]) [] 10 57 [.val true [.n4 a]] =
    some (AV.tup [(true, [IV.n4 (N4.mk (BitVec.ofNat 64 0) (BitVec.ofNat 64 0) (BitVec.ofNat 64 0) (BitVec.ofNat 64 0))]), (false, [IV.bool false])], [(!((ofN (fMul (val (ofN (f (val (ofN (val a % Pp)) % Pp) 7237005577332262213973186563042994240829374041602535252466099000494570602494)) % Pp) (val (ofN (f (val (ofN (val a % Pp)) % Pp) 7237005577332262213973186563042994240829374041602535252466099000494570602494)) % Pp))).eq (ofN (val a % Pp)) && true)) = true, (!((ofN (fMul (val (ofN (fMul (val (ofN (f (val (ofN (val a % Pp)) % Pp) 7237005577332262213973186563042994240829374041602535252466099000494570602494)) % Pp) (val (ofN (f 2 14474011154664524427946373126085988481658748083205070504932198000989141204987)) % Pp))) % Pp) (val (ofN (fMul (val (ofN (f (val (ofN (val a % Pp)) % Pp) 7237005577332262213973186563042994240829374041602535252466099000494570602494)) % Pp) (val (ofN (f 2 14474011154664524427946373126085988481658748083205070504932198000989141204987)) % Pp))) % Pp))).eq (ofN (val a % Pp)) && true)) = true]) := by kernel_rfl
theorem eq_N4 (a b : N4) : (a.eq b && true) = (val a == val b) := by
  rw [Bool.and_true]
  by_cases h : a = b
  · subst h; unfold N4.eq; simp
  · have h1 : ¬ val a = val b := fun e => h (val_inj e)
    rw [beq_eq_false_iff_ne.2 h1]
    cases hc : N4.eq a b with
    | false => rfl
    | true =>
      unfold N4.eq at hc
      simp only [Bool.and_eq_true, beq_iff_eq] at hc
      exact absurd (N4_ext hc.1 hc.2.1 hc.2.2.1 hc.2.2.2) h
theorem val_lo {x : Nat} (h : x < Pp) : val (ofN x) = x := by rw [val_ofN, Nat.mod_eq_of_lt (lt256 h)]
theorem odd_get (x : Nat) : ((ofN x).get 0 &&& BitVec.ofNat 64 1 = BitVec.ofNat 64 0) = (x % 2 = 0) := by
  show (BitVec.ofNat 64 x &&& BitVec.ofNat 64 1 = BitVec.ofNat 64 0) = _
  apply propext
  rw [← BitVec.toNat_inj]
  simp only [BitVec.toNat_and, BitVec.toNat_ofNat]
  rw [show (1 : Nat) % 2 ^ 64 = 1 by decide, Nat.and_one_is_mod]
  simp only [Nat.zero_mod]
  omega
theorem even_if (x : Nat) : (if (ofN x).get 0 &&& BitVec.ofNat 64 1 = BitVec.ofNat 64 0 then ofN x else ofN (fNeg x)) = ofN (if x % 2 = 0 then x else fNeg x) := by
  by_cases h : x % 2 = 0
  · rw [if_pos h, if_pos ((odd_get x).mpr h)]
  · rw [if_neg h, if_neg fun e => h ((odd_get x).mp e)]
theorem ctPInv : CtSOk Tryz.prog 59 (.fn (sp1N fInv)) := FnS_of_fnS gsP4 fol fun ds r cs h hc => by
  unfold sp1N at h
  split at h
  case h_2 => simp at h
  rename_i a
  simp only [Option.some.injEq, Prod.mk.injEq] at h
  obtain ⟨rfl, rfl⟩ := h
  exact use_run (runPInv pw a) rfl trivial
theorem ctPSub : CtSOk Tryz.prog 58 (.fn (sp2N fSub)) := FnS_of_fnS gsP3 fol fun ds r cs h hc => by
  unfold sp2N at h
  split at h
  case h_2 => simp at h
  rename_i a b
  simp only [Option.some.injEq, Prod.mk.injEq] at h
  obtain ⟨rfl, rfl⟩ := h
  refine use_run (runPSub a b) ?_ trivial
  have h1 : val (ofN (fNeg (val b % Pp))) = fNeg (val b % Pp) := val_lo (fNeg_lt _)
  rw [h1, Nat.mod_eq_of_lt (fNeg_lt _)]
  rfl
def P38 : Nat := 7237005577332262213973186563042994240829374041602535252466099000494570602494
def turnQ : Nat := pw 2 14474011154664524427946373126085988481658748083205070504932198000989141204987
theorem turnQ_lt : turnQ < Pp := pw_lt _ _
theorem turnQ_def : pw 2 14474011154664524427946373126085988481658748083205070504932198000989141204987 = turnQ := by unfold turnQ; with_reducible rfl
def evenV (r : Nat) : Nat := if r % 2 = 0 then r else fNeg r
def prV (x : Nat) : Nat × Bool :=
  if fMul (pw x P38) (pw x P38) = x then (evenV (pw x P38), true) else if fMul (fMul (pw x P38) turnQ) (fMul (pw x P38) turnQ) = x then (evenV (fMul (pw x P38) turnQ), true) else (0, false)
def spPRt : List AV → Option (AV × List Prop)
  | [.val true [.n4 a]] => some (.tup [(true, [.n4 (ofN (prV (val a % Pp)).1)]), (false, [.bool (prV (val a % Pp)).2])], [])
  | _ => none
theorem bT {x y : Nat} (h : x ≠ y) : (!(x == y)) = true := by simp [h]
theorem bF {x y : Nat} (h : x = y) : (!(x == y)) = false := by simp [h]
theorem ctPRt : CtSOk Tryz.prog 57 (.fn spPRt) := FnS_of_fnS gsP4 fol fun ds r cs h hc => by
  unfold spPRt at h
  split at h
  case h_2 => simp at h
  rename_i a
  simp only [Option.some.injEq, Prod.mk.injEq] at h
  obtain ⟨rfl, rfl⟩ := h
  have hx : val a % Pp < Pp := Nat.mod_lt _ Pp_pos
  have h0 := runPRt0 pw a
  have h1 := runPRt1 pw a
  have hN := runPRtN pw a
  have m1 : ∀ x, x < Pp → x % Pp = x := fun x h => Nat.mod_eq_of_lt h
  have v1 : val (ofN (val a % Pp)) = val a % Pp := val_lo hx
  have v3 : ∀ x y, val (ofN (fMul x y)) = fMul x y := fun x y => val_lo (fMul_lt x y)
  have v4 : ∀ x y, fMul x y % Pp = fMul x y := fun x y => m1 _ (fMul_lt x y)
  have v5 : val (ofN turnQ) = turnQ := val_lo turnQ_lt
  have v6 : turnQ % Pp = turnQ := m1 _ turnQ_lt
  simp only [eq_N4, v1, m1 _ hx, turnQ_def, v5, v6, val_pw, pw_mod, v3, v4, even_if] at h0 h1 hN
  by_cases e1 : fMul (pw (val a % Pp) P38) (pw (val a % Pp) P38) = val a % Pp
  · exact use_run h0 (by rw [prV, if_pos e1]; unfold evenV P38; with_reducible rfl) ⟨bF e1, bF e1, by omega, by omega, by omega, trivial⟩
  · by_cases e2 : fMul (fMul (pw (val a % Pp) P38) turnQ) (fMul (pw (val a % Pp) P38) turnQ) = val a % Pp
    · exact use_run h1 (by rw [prV, if_neg e1, if_pos e2]; unfold evenV P38; with_reducible rfl) ⟨bT e1, bF e2, by omega, by omega, by omega, trivial⟩
    · exact use_run hN (by rw [prV, if_neg e1, if_neg e2]; rfl) ⟨bT e1, bT e2, trivial⟩
def spPEnc : List AV → Option (AV × List Prop)
  | [.val true [.n4 a]] => some (sc (.d8 (bl (val a % Pp) 32)), [])
  | _ => none
theorem ctPEnc : CtSOk Tryz.prog 94 (.fn spPEnc) := FnS_of_fnS gsP2 fol fun ds r cs h hc => by
  unfold spPEnc at h
  split at h
  case h_2 => simp at h
  rename_i a
  simp only [Option.some.injEq, Prod.mk.injEq] at h
  obtain ⟨rfl, rfl⟩ := h
  have h := runPEnc a
  have hx : val a % Pp < Pp := Nat.mod_lt _ Pp_pos
  rw [val_lo hx, cutL_all] at h
  exact use_run h rfl ⟨by omega, trivial⟩
end Go.Proofs.YtlgiaglbdifkpaaGreatDoor
