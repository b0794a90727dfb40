/- Texts put together: FdD FdF FdE FdG FdH FdI. Own work. -/
import Derived.Test.YtlgiaglbdifkpaaDoorMgap
/- Contracts of the document's field: digits to the base 256 and to the base 65536. Own work. -/
namespace Go.Proofs.YtlgiaglbdifkpaaDoor
open Go.Ev Go.Sp Go.RowKit
set_option maxRecDepth 100000
def prTd : List Nat := [0, 2, 3, 4]
def prInv (x : Nat) (l : List Int) (i : Int) : St := ⟨slotsOf 36 [(0, sc (.sl 0 0 (dg x).length)), (2, sc (.ptr 1 0)), (3, sc (.ptr 2 0)), (4, sc (.i64 i))], [(0, ⟨false, [.vd x]⟩), (1, ⟨true, [.vi 16 z16]⟩), (2, ⟨true, [.vi 16 l]⟩)], 16⟩
def byTd : List Nat := [1, 3, 4]
def byInv (x : Nat) (o : List Int) (i : Int) : St := ⟨slotsOf 22 [(1, sc (.ptr 0 0)), (3, sc (.sl 1 0 o.length)), (4, sc (.i64 i))], [(0, ⟨true, [.fe x]⟩), (1, ⟨true, [.vi o.length o]⟩)], 16⟩
def PpL : List Int := [237, 255, 255, 255, 255, 255, 255, 255, 255, 255, 255, 255, 255, 255, 255, 255, 255, 255, 255, 255, 255, 255, 255, 255, 255, 255, 255, 255, 255, 255, 255, 127]
theorem tdiv2 (i : Nat) : ((i : Nat) : Int).tdiv (2 : Int) = ((i / 2 : Nat) : Int) := by
  rw [show (2 : Int) = ((2 : Nat) : Int) from rfl, ← Int.ofNat_tdiv]
theorem tmod2 (i : Nat) : ((i : Nat) : Int).tmod (2 : Int) = ((i % 2 : Nat) : Int) := by
  rw [show (2 : Int) = ((2 : Nat) : Int) from rfl, ← Int.ofNat_tmod]
theorem pow_even (k : Nat) : 256 ^ (2 * k) = 65536 ^ k := by rw [Nat.pow_mul]
theorem dg_getD (x i : Nat) : (dg x).getD i 0 = ((dig x i : Nat) : Int) := by
  have := getD_dig (dg_D x) i
  rw [nv_dg] at this
  exact this
theorem low_lt (x i : Nat) (hi : i ≤ 32) : x % 256 ^ i < p256 := by
  refine Nat.lt_of_lt_of_le (Nat.mod_lt _ (Nat.pow_pos (by omega))) ?_
  rw [show p256 = 256 ^ 32 by decide]
  exact Nat.pow_le_pow_right (by omega) hi
/-- One digit more. -/
theorem pr_step (x i k : Nat) (c : Nat) (hi : i < 32) (hk : k = i / 2) (hc : c = if i % 2 = 0 then 1 else 256) :
    (digs16 (x % 256 ^ i)).set k ((digs16 (x % 256 ^ i)).getD k 0 + (c : Int) * ((dig x i : Nat) : Int)) = digs16 (x % 256 ^ (i + 1)) := by
  have hk16 : k < 16 := by omega
  have hl := digs16_len (x % 256 ^ i)
  have hd := digs16_D (x % 256 ^ i)
  have hb := low_lt x i (by omega)
  have hdig := dig_lt x i
  have hg : (digs16 (x % 256 ^ i)).getD k 0 = if i % 2 = 0 then 0 else ((x % 256 ^ i / 65536 ^ k : Nat) : Int) := by
    rw [digs16_getD _ _ hk16]
    unfold dig16
    by_cases h2 : i % 2 = 0
    · have e : i = 2 * k := by omega
      rw [if_pos h2, e, pow_even, Nat.div_eq_of_lt (Nat.mod_lt _ (Nat.pow_pos (by omega)))]
      rfl
    · have e : i = 2 * k + 1 := by omega
      rw [if_neg h2, Nat.mod_eq_of_lt]
      have h3 : x % 256 ^ i < 65536 ^ k * 256 := by rw [← pow_even, e, ← Nat.pow_succ]; exact Nat.mod_lt _ (Nat.pow_pos (by omega))
      rw [Nat.mul_comm] at h3
      have := (Nat.div_lt_iff_lt_mul (Nat.pow_pos (n := k) (show 0 < 65536 by omega))).2 h3
      omega
  have hglt : 0 ≤ (digs16 (x % 256 ^ i)).getD k 0 ∧ (digs16 (x % 256 ^ i)).getD k 0 + (c : Int) * ((dig x i : Nat) : Int) < 65536 := by
    have h0 := (getD_mem hd k (by rw [hl]; exact hk16)).1
    refine ⟨h0, ?_⟩
    by_cases h2 : i % 2 = 0
    · rw [hg, if_pos h2, hc, if_pos h2]; omega
    · have e : i = 2 * k + 1 := by omega
      have h3 : x % 256 ^ i < 65536 ^ k * 256 := by rw [← pow_even, e, ← Nat.pow_succ]; exact Nat.mod_lt _ (Nat.pow_pos (by omega))
      rw [Nat.mul_comm] at h3
      have h4 := (Nat.div_lt_iff_lt_mul (Nat.pow_pos (n := k) (show 0 < 65536 by omega))).2 h3
      rw [hg, if_neg h2, hc, if_neg h2]
      generalize x % 256 ^ i / 65536 ^ k = q at *
      omega
  refine eq_digs16 (mem_getD fun j hj => ?_) (by rw [List.length_set, hl]) (low_lt x (i + 1) (by omega)) ?_
  · rw [List.length_set, hl] at hj
    rw [getD_setI _ _ _ _ (by rw [hl]; exact hk16)]
    split
    · have : 0 ≤ (c : Int) * ((dig x i : Nat) : Int) := Int.mul_nonneg (by omega) (by omega)
      omega
    · exact getD_mem hd j (by rw [hl]; exact hj)
  · rw [V_set _ (by rw [hl]; exact hk16), digs16_V, Nat.mod_eq_of_lt hb, mod_succ]
    have hp : 65536 ^ k * c = 256 ^ i := by
      rw [← pow_even, hc]
      by_cases h2 : i % 2 = 0
      · rw [if_pos h2, Nat.mul_one, show 2 * k = i by omega]
      · rw [if_neg h2, ← Nat.pow_succ]
        congr 1
        omega
    have e : (digs16 (x % 256 ^ i)).getD k 0 + (c : Int) * ((dig x i : Nat) : Int) - (digs16 (x % 256 ^ i)).getD k 0 = (c : Int) * ((dig x i : Nat) : Int) := by omega
    rw [e, ← hp, Int.natCast_add, Int.natCast_mul, Int.natCast_mul, Int.natCast_pow, Int.mul_assoc]
    rfl
def spPairsL : List AV → Option (AV × List Prop)
  | [.val false [.dN x]] => some (.val true [.vi 16 (digs16 x)], [x < p256])
  | _ => none
def spPairs : List AV → Option (AV × List Prop)
  | [.val false [.dN x]] => some (.val true [.fe x], [x < p256])
  | _ => none
theorem dl_two (x i : Nat) : dl x (2 * i) ++ ((List.replicate 2 (0 : Int)).set 0 ((dig16 x i).tmod (256 : Int))).set 1 ((dig16 x i).tdiv (256 : Int)) = dl x (2 * (i + 1)) := by
  have h := Nat.mod_lt (x / 65536 ^ i) (show 0 < 65536 by omega)
  have e1 : (dig16 x i).tmod 256 = ((dig x (2 * i) : Nat) : Int) := by
    unfold dig16
    rw [tmod_cast]
    unfold dig
    rw [pow_even]
    congr 1
    omega
  have e2 : (dig16 x i).tdiv 256 = ((dig x (2 * i + 1) : Nat) : Int) := by
    unfold dig16
    rw [tdiv_cast]
    unfold dig
    rw [Nat.pow_succ, pow_even, ← Nat.div_div_eq_div_mul]
    congr 1
    omega
  rw [e1, e2, show 2 * (i + 1) = 2 * i + 1 + 1 by omega]
  show _ = (dl x (2 * i) ++ [_]) ++ [_]
  rw [List.append_assoc]
  rfl
def spBytesL : List AV → Option (AV × List Prop)
  | [.val true [.fe x]] => some (sc (.dI (dg x)), [x < p256])
  | _ => none
def spBytesF : List AV → Option (AV × List Prop)
  | [.val true [.fe x]] => some (sc (.dN x), [x < p256])
  | _ => none
theorem PpL_dg : PpL = dg Pp := by
  have h1 : IsD PpL := by
    intro d hd
    have : PpL.all (fun d => decide (0 ≤ d) && decide (d < 256)) = true := by decide
    have := List.all_eq_true.1 this d hd
    simpa using this
  have h2 : nv PpL = Pp := by decide
  rw [← h2]
  exact eq_dg h1 (.inr (by decide))
def spPrL : List AV → Option (AV × List Prop)
  | [] => some (sc (.dI PpL), [])
  | _ => none
def spPr : List AV → Option (AV × List Prop)
  | [] => some (sc (.dN Pp), [])
  | _ => none
end Go.Proofs.YtlgiaglbdifkpaaDoor
/- Products of sixteen digits, plainly. Own work. -/
namespace Go.Sp
open Go.Ev
def cvF (x y : Nat) (d : List Int) (i : Nat) : Nat → List Int
  | 0 => d
  | k + 1 => (cvF x y d i k).set (i + k) ((cvF x y d i k).getD (i + k) 0 + dig16 x i * dig16 y k)
structure CvOk (x y : Nat) (d : List Int) (B : Int) (i k : Nat) (e : List Int) : Prop where
  len : e.length = 31
  val : V e = V d + 65536 ^ i * (dig16 x i * ((y % 65536 ^ k : Nat) : Int))
  bnd : ∀ j, j < 31 → 0 ≤ e.getD j 0 ∧ e.getD j 0 ≤ B + 4294836225
  high : ∀ j, i + k ≤ j → e.getD j 0 = d.getD j 0
theorem dig_mul (x y i k : Nat) : 0 ≤ dig16 x i * dig16 y k ∧ dig16 x i * dig16 y k ≤ 4294836225 := by
  have h1 := dig16_D x i
  have h2 := dig16_D y k
  refine ⟨Int.mul_nonneg h1.1 h2.1, ?_⟩
  exact Int.le_trans (Int.mul_le_mul (show dig16 x i ≤ 65535 by omega) (show dig16 y k ≤ 65535 by omega) h2.1 (by omega)) (by omega)
theorem cv_ok (x y : Nat) {d : List Int} {B : Int} (hB : 0 ≤ B) (hn : d.length = 31) (hd : ∀ j, j < 31 → 0 ≤ d.getD j 0 ∧ d.getD j 0 ≤ B) {i : Nat} (hi : i < 16) : ∀ k, k ≤ 16 → CvOk x y d B i k (cvF x y d i k)
  | 0, _ => ⟨hn, by simp [cvF, Nat.mod_one], fun j hj => by have := hd j hj; show 0 ≤ d.getD j 0 ∧ _; exact ⟨this.1, by show d.getD j 0 ≤ _; omega⟩, fun j _ => rfl⟩
  | k + 1, hk => by
    obtain ⟨h1, h2, h3, h4⟩ := cv_ok x y hB hn hd hi k (by omega)
    have hm := dig_mul x y i k
    have e := h4 (i + k) (by omega)
    have hb := hd (i + k) (by omega)
    unfold cvF
    refine ⟨by rw [List.length_set, h1], ?_, fun j hj => ?_, fun j hj => ?_⟩
    · rw [V_set _ (by rw [h1]; omega), h2]
      have e1 : (cvF x y d i k).getD (i + k) 0 + dig16 x i * dig16 y k - (cvF x y d i k).getD (i + k) 0 = dig16 x i * dig16 y k := by omega
      have e2 : ((y % 65536 ^ (k + 1) : Nat) : Int) = ((y % 65536 ^ k : Nat) : Int) + 65536 ^ k * dig16 y k := by
        rw [Nat.mod_pow_succ, Int.natCast_add, Int.natCast_mul, Int.natCast_pow]; rfl
      rw [e1, e2, Int.pow_add, Int.mul_add, Int.mul_add, Int.add_assoc]
      congr 2
      rw [Int.mul_assoc, Int.mul_left_comm (65536 ^ k)]
    · rw [getD_setI _ _ _ _ (by rw [h1]; omega)]
      split
      · rw [e]; omega
      · exact h3 j hj
    · rw [getD_setI _ _ _ _ (by rw [h1]; omega), if_neg (by omega)]
      exact h4 j (by omega)
def z31 : List Int := List.replicate 31 0
def cvO (x y : Nat) : Nat → List Int
  | 0 => z31
  | i + 1 => cvF x y (cvO x y i) i 16
theorem cvO_ok (x y : Nat) (hy : y < p256) : ∀ i, i ≤ 16 → (cvO x y i).length = 31 ∧ V (cvO x y i) = ((x % 65536 ^ i * y : Nat) : Int) ∧ ∀ j, j < 31 → 0 ≤ (cvO x y i).getD j 0 ∧ (cvO x y i).getD j 0 ≤ 4294836225 * (i : Int)
  | 0, _ => ⟨rfl, by rw [Nat.pow_zero, Nat.mod_one, Nat.zero_mul]; rfl, fun j hj => by
      have : z31.getD j 0 = 0 := getD_mem (Q := fun d => d = 0) (fun d hd => List.eq_of_mem_replicate hd) j (by simp; exact hj)
      show 0 ≤ z31.getD j 0 ∧ z31.getD j 0 ≤ _
      rw [this]; omega⟩
  | i + 1, hi => by
    obtain ⟨h1, h2, h3⟩ := cvO_ok x y hy i (by omega)
    obtain ⟨a, b, c, _⟩ := cv_ok x y (show (0 : Int) ≤ 4294836225 * (i : Int) by omega) h1 h3 (show i < 16 by omega) 16 (Nat.le_refl _)
    refine ⟨a, ?_, fun j hj => ?_⟩
    · show V (cvF x y (cvO x y i) i 16) = _
      have e : (65536 : Int) ^ i * (dig16 x i * (y : Int)) = ((65536 ^ i * (x / 65536 ^ i % 65536) * y : Nat) : Int) := by
        rw [Int.natCast_mul, Int.natCast_mul, Int.natCast_pow, Int.mul_assoc]; rfl
      rw [b, h2, ← p256_eq, Nat.mod_eq_of_lt hy, Nat.mod_pow_succ, Nat.add_mul, Int.natCast_add, e]
    · have := c j hj
      show 0 ≤ (cvF x y (cvO x y i) i 16).getD j 0 ∧ _
      refine ⟨this.1, ?_⟩
      show (cvF x y (cvO x y i) i 16).getD j 0 ≤ _
      omega
theorem cvO_all (x y : Nat) (hx : x < p256) (hy : y < p256) : (cvO x y 16).length = 31 ∧ V (cvO x y 16) = ((x * y : Nat) : Int) ∧ ∀ j, j < 31 → 0 ≤ (cvO x y 16).getD j 0 ∧ (cvO x y 16).getD j 0 ≤ 68717379600 := by
  obtain ⟨a, b, c⟩ := cvO_ok x y hy 16 (Nat.le_refl _)
  rw [← p256_eq, Nat.mod_eq_of_lt hx] at b
  exact ⟨a, b, fun j hj => by have := c j hj; omega⟩
def outD (d : List Int) : List Int := (List.range 16).map fun i => if i + 16 < 31 then d.getD i 0 + 38 * d.getD (i + 16) 0 else d.getD i 0
theorem list31 {d : List Int} (h : d.length = 31) : ∃ d0 d1 d2 d3 d4 d5 d6 d7 d8 d9 d10 d11 d12 d13 d14 d15 d16 d17 d18 d19 d20 d21 d22 d23 d24 d25 d26 d27 d28 d29 d30, d = [d0, d1, d2, d3, d4, d5, d6, d7, d8, d9, d10, d11, d12, d13, d14, d15, d16, d17, d18, d19, d20, d21, d22, d23, d24, d25, d26, d27, d28, d29, d30] := by
  match d, h with
  | [_, _, _, _, _, _, _, _, _, _, _, _, _, _, _, _, _, _, _, _, _, _, _, _, _, _, _, _, _, _, _], _ => exact ⟨_, _, _, _, _, _, _, _, _, _, _, _, _, _, _, _, _, _, _, _, _, _, _, _, _, _, _, _, _, _, _, rfl⟩
theorem out_V {d : List Int} (h : d.length = 31) : V (outD d) = V (d.take 16) + 38 * V (d.drop 16) := by
  obtain ⟨d0, d1, d2, d3, d4, d5, d6, d7, d8, d9, d10, d11, d12, d13, d14, d15, d16, d17, d18, d19, d20, d21, d22, d23, d24, d25, d26, d27, d28, d29, d30, rfl⟩ := list31 h
  show V [d0 + 38 * d16, d1 + 38 * d17, d2 + 38 * d18, d3 + 38 * d19, d4 + 38 * d20, d5 + 38 * d21, d6 + 38 * d22, d7 + 38 * d23, d8 + 38 * d24, d9 + 38 * d25, d10 + 38 * d26, d11 + 38 * d27, d12 + 38 * d28, d13 + 38 * d29, d14 + 38 * d30, d15] = V [d0, d1, d2, d3, d4, d5, d6, d7, d8, d9, d10, d11, d12, d13, d14, d15] + 38 * V [d16, d17, d18, d19, d20, d21, d22, d23, d24, d25, d26, d27, d28, d29, d30]
  simp only [V]
  omega
theorem out_mod {d : List Int} {n : Nat} (h : d.length = 31) (h0 : ∀ j, j < 31 → 0 ≤ d.getD j 0) (hv : V d = (n : Int)) : ∃ m : Nat, V (outD d) = (m : Int) ∧ m % Pp = n % Pp := by
  have hnn : ∀ x ∈ d, 0 ≤ x := mem_getD fun i hi => h0 i (by rw [← h]; exact hi)
  have hlo := V_nonneg (l := d.take 16) fun x hx => hnn x (List.mem_of_mem_take hx)
  have hhi := V_nonneg (l := d.drop 16) fun x hx => hnn x (List.mem_of_mem_drop hx)
  have hs := V_append (d.take 16) (d.drop 16)
  rw [List.take_append_drop, List.length_take, h, hv] at hs
  have ho := out_V h
  obtain ⟨lo, hlo'⟩ := Int.eq_ofNat_of_zero_le hlo
  obtain ⟨hi, hhi'⟩ := Int.eq_ofNat_of_zero_le hhi
  rw [hlo', hhi'] at hs ho
  have hp : ((65536 : Int) ^ (min 16 31)) = ((p256 : Nat) : Int) := by decide
  rw [hp] at hs
  have hs' : n = lo + p256 * hi := by
    have : (n : Int) = ((lo + p256 * hi : Nat) : Int) := by rw [hs, Int.natCast_add, Int.natCast_mul]
    omega
  refine ⟨lo + 38 * hi, by rw [ho]; omega, ?_⟩
  have e : n = (lo + 38 * hi) + Pp * (2 * hi) := by
    rw [hs', show p256 = 2 * Pp + 38 by decide, Nat.add_mul, Nat.mul_assoc, Nat.mul_left_comm 2 Pp hi]
    omega
  rw [e, Nat.add_mul_mod_self_left]
theorem out_Sd {d : List Int} (h : ∀ j, j < 31 → 0 ≤ d.getD j 0 ∧ d.getD j 0 ≤ 68717379600) : Sd (outD d) := by
  refine ⟨by simp [outD], fun j hj => ?_⟩
  rw [outD, List.getD_eq_getElem?_getD, List.getElem?_map, List.getElem?_range hj]
  show 0 ≤ (if j + 16 < 31 then d.getD j 0 + 38 * d.getD (j + 16) 0 else d.getD j 0) ∧ _
  have h1 := h j (by omega)
  split
  · have h2 := h (j + 16) (by omega)
    simp only [Option.map_some, Option.getD_some]
    rw [if_pos (by assumption)]
    omega
  · simp only [Option.map_some, Option.getD_some]
    rw [if_neg (by assumption)]
    omega
def addL (x y : Nat) : List Int := (List.range 16).map fun i => dig16 x i + dig16 y i
theorem V_map_add (x y : Nat) : ∀ n s, V ((List.range' s n).map fun i => dig16 x i + dig16 y i) = V ((List.range' s n).map (dig16 x)) + V ((List.range' s n).map (dig16 y))
  | 0, _ => rfl
  | n + 1, s => by
    rw [List.range'_succ]
    simp only [List.map_cons, V]
    rw [V_map_add x y n (s + 1)]
    omega
theorem add_V (x y : Nat) (hx : x < p256) (hy : y < p256) : V (addL x y) = ((x + y : Nat) : Int) := by
  have h := V_map_add x y 16 0
  rw [← List.range_eq_range'] at h
  have h1 := digs16_V x
  have h2 := digs16_V y
  rw [Nat.mod_eq_of_lt hx] at h1
  rw [Nat.mod_eq_of_lt hy] at h2
  unfold addL
  rw [h]
  unfold digs16 at h1 h2
  rw [h1, h2]
  omega
theorem add_Sd (x y : Nat) : Sd (addL x y) := by
  refine ⟨by simp [addL], fun j hj => ?_⟩
  have h1 := dig16_D x j
  have h2 := dig16_D y j
  rw [addL, List.getD_eq_getElem?_getD, List.getElem?_map, List.getElem?_range hj]
  simp only [Option.map_some, Option.getD_some]
  omega
end Go.Sp
/- Contracts of the document's field: sums, negatives, products. Own work. -/
namespace Go.Proofs.YtlgiaglbdifkpaaDoor
open Go.Ev Go.Sp Go.RowKit
set_option maxRecDepth 100000
/-- A contract over digits that takes numbers, too. -/
def orFe (spec : List AV → Option (AV × List Prop)) (ds : List AV) : Option (AV × List Prop) := spec (ds.map feA)
theorem FnS_orFe {P : Program} {f : FuncId} {spec : List AV → Option (AV × List Prop)} (h : FnS P f spec) : FnS P f (orFe spec) :=
  FnS_intro fun _ _ _ hd hc w vals hv => FnS_use h hd hc w vals (F2_DV_fe hv)
def tblE : List (FuncId × CtS) := []
theorem okE : TblOk Tryd.prog tblE := trivial
theorem gsE : GSound Tryd.prog (upG (lookG tblE)) := GSound_of_tbl okE
def addW (x y : Nat) : List Int := (List.range 16).map fun i => IntKind.i64.wrap (dig16 x i + dig16 y i)
def cvTd : List Nat := [2, 3, 4, 5, 6]
def cvTdI : List Nat := [2, 3, 4, 5, 6, 7]
def cvInv (x y : Nat) (d : List Int) (i : Int) : St := ⟨slotsOf 56 [(2, sc (.ptr 0 0)), (3, sc (.ptr 1 0)), (4, sc (.ptr 2 0)), (5, sc (.ptr 3 0)), (6, sc (.i64 i))], [(0, ⟨true, [.fe x]⟩), (1, ⟨true, [.fe y]⟩), (2, ⟨true, [.vi 16 z16]⟩), (3, ⟨true, [.vi 31 d]⟩)], 16⟩
def cvInvI (x y : Nat) (d : List Int) (i k : Int) : St := ⟨slotsOf 56 [(2, sc (.ptr 0 0)), (3, sc (.ptr 1 0)), (4, sc (.ptr 2 0)), (5, sc (.ptr 3 0)), (6, sc (.i64 i)), (7, sc (.i64 k))], [(0, ⟨true, [.fe x]⟩), (1, ⟨true, [.fe y]⟩), (2, ⟨true, [.vi 16 z16]⟩), (3, ⟨true, [.vi 31 d]⟩)], 16⟩
def outW (d : List Int) : List Int := (List.range 16).map fun i => if i + 16 < 31 then IntKind.i64.wrap (d.getD i 0 + IntKind.i64.wrap (38 * d.getD (i + 16) 0)) else d.getD i 0
theorem wrap_id {z : Int} (h0 : 0 ≤ z) (h1 : z < 9223372036854775808) : IntKind.i64.wrap z = z := by
  rw [IntKind.wrap_i64]; omega
theorem addW_eq (x y : Nat) : addW x y = addL x y := by
  unfold addW addL
  apply List.map_congr_left
  intro i _
  have h1 := dig16_D x i
  have h2 := dig16_D y i
  exact wrap_id (by omega) (by omega)
theorem outW_eq {d : List Int} (h : ∀ j, j < 31 → 0 ≤ d.getD j 0 ∧ d.getD j 0 ≤ 68717379600) : outW d = outD d := by
  unfold outW outD
  apply List.map_congr_left
  intro i hi
  have hi := List.mem_range.1 hi
  have h1 := h i (by omega)
  split
  · rename_i h16
    have h2 := h (i + 16) h16
    rw [wrap_id (z := 38 * d.getD (i + 16) 0) (by omega) (by omega), wrap_id (by omega) (by omega)]
  · rfl
/-- Two elements. -/
def sp2F (f : Nat → Nat → Nat) : List AV → Option (AV × List Prop)
  | [.val true [.fe x], .val true [.fe y]] => some (.val true [.fe (f x y)], [x < Pp, y < Pp])
  | _ => none
def sp1F (f : Nat → Nat) : List AV → Option (AV × List Prop)
  | [.val true [.fe x]] => some (.val true [.fe (f x)], [x < Pp])
  | _ => none
/-- From an answer over digits. -/
theorem ct2F {f : FuncId} {g : Nat → Nat → Nat} {Γ : FuncId → Option CtS} (hΓ : GSound Tryd.prog (upG Γ)) (h : ∀ x y, x < Pp → y < Pp → ∃ orc sums fuel cs, fnS Tryd.prog Γ orc sums fuel f [.val true [.fe x], .val true [.fe y]] = some (.val true [.vi 16 (digs16 (g x y))], cs) ∧ AllP cs) : CtSOk Tryd.prog f (.fn (sp2F g)) := by
  refine FnS_intro fun ds r cs hd hc w vals hv => ?_
  unfold sp2F at hd
  split at hd
  case h_2 => simp at hd
  rename_i x y
  simp only [Option.some.injEq, Prod.mk.injEq] at hd
  obtain ⟨rfl, rfl⟩ := hd
  obtain ⟨orc, sums, fuel, cs, h1, h2⟩ := h x y hc.1 hc.2.1
  refine (calls_of_fnS hΓ fol h1 h2 w vals hv).mono ?_
  rintro e w' ⟨v, a, b, c⟩
  exact ⟨v, a, b, ResOk_fe c⟩
theorem ct1F {f : FuncId} {g : Nat → Nat} {Γ : FuncId → Option CtS} (hΓ : GSound Tryd.prog (upG Γ)) (h : ∀ x, x < Pp → ∃ orc sums fuel cs, fnS Tryd.prog Γ orc sums fuel f [.val true [.fe x]] = some (.val true [.vi 16 (digs16 (g x))], cs) ∧ AllP cs) : CtSOk Tryd.prog f (.fn (sp1F g)) := by
  refine FnS_intro fun ds r cs hd hc w vals hv => ?_
  unfold sp1F at hd
  split at hd
  case h_2 => simp at hd
  rename_i x
  simp only [Option.some.injEq, Prod.mk.injEq] at hd
  obtain ⟨rfl, rfl⟩ := hd
  obtain ⟨orc, sums, fuel, cs, h1, h2⟩ := h x hc.1
  refine (calls_of_fnS hΓ fol h1 h2 w vals hv).mono ?_
  rintro e w' ⟨v, a, b, c⟩
  exact ⟨v, a, b, ResOk_fe c⟩
def fAdd (x y : Nat) : Nat := (x + y) % Pp
def fMul (x y : Nat) : Nat := x * y % Pp
def fNeg (x : Nat) : Nat := (Pp - x) % Pp
theorem fAdd_lt (x y : Nat) : fAdd x y < Pp := Nat.mod_lt _ Pp_pos
theorem fMul_lt (x y : Nat) : fMul x y < Pp := Nat.mod_lt _ Pp_pos
theorem fNeg_lt (x : Nat) : fNeg x < Pp := Nat.mod_lt _ Pp_pos
theorem lt256 {x : Nat} (h : x < Pp) : x < p256 := Nat.lt_trans h Pp_lt
def spInt : List AV → Option (AV × List Prop)
  | [.val false [.i64 n]] => some (.val true [.fe n.toNat], [0 ≤ n, n < 65536])
  | _ => none
theorem int_digs (n : Nat) (h : n < 65536) : [(n : Int), 0, 0, 0, 0, 0, 0, 0, 0, 0, 0, 0, 0, 0, 0, 0] = digs16 n := by
  refine eq_digs16 (fun d hd => ?_) rfl (Nat.lt_trans h (by decide)) ?_
  · simp only [List.mem_cons, List.not_mem_nil, or_false] at hd
    omega
  · simp [V]
def spFB : List AV → Option (AV × List Prop)
  | [.val false [.dN x]] => some (.val true [.fe x], [x < p256])
  | _ => none
def spROf : List AV → Option (AV × List Prop)
  | [.val true [.n4 a]] => some (.val true [.fe (val a % Pp)], [])
  | _ => none
theorem Sm_Pp : Sm Pp := Sm_lt (k := 40) (by decide) (by omega)
theorem lenPp : (dg Pp).length = 32 := by rw [← PpL_dg]; rfl
def spRNum : List AV → Option (AV × List Prop)
  | [.val true [.fe x]] => some (.val true [.n4 (ofN x)], [x < p256])
  | _ => none
def spRPrime : List AV → Option (AV × List Prop)
  | [] => some (.val true [.n4 (ofN Pp)], [])
  | _ => none
def tblE2 : List (FuncId × CtS) :=
  tblE
theorem gsE2 : GSound Tryd.prog (upG (lookG tblE2)) := GSound_of_tbl okE
end Go.Proofs.YtlgiaglbdifkpaaDoor
/- Contracts of the document's field: powers, roots, bytes. Own work. -/
namespace Go.Proofs.YtlgiaglbdifkpaaDoor
open Go.Ev Go.Sp Go.RowKit
set_option maxRecDepth 100000
def tblE3 : List (FuncId × CtS) :=
  tblE2
theorem gsE3 : GSound Tryd.prog (upG (lookG tblE3)) := GSound_of_tbl okE
def tblL3 : List (FuncId × CtS) :=
  tblE3
theorem gsL3 : GSound Tryd.prog (upG (lookG tblL3)) := GSound_of_tbl okE
def pw (a e : Nat) : Nat := a ^ e % Pp
theorem pw_mul (a m n : Nat) : fMul (pw a m) (pw a n) = pw a (m + n) := by
  unfold fMul pw
  rw [← Nat.mul_mod, Nat.pow_add]
theorem pw_lt (a e : Nat) : pw a e < Pp := Nat.mod_lt _ Pp_pos
def pwTd : List Nat := [1, 2, 4, 5, 6]
def pwTdI : List Nat := [1, 2, 4, 5, 6, 7, 8]
def pwInv (e a o : Nat) (i : Int) : St := ⟨slotsOf 36 [(1, sc (.sl 0 0 (dg e).length)), (2, sc (.ptr 1 0)), (4, sc (.ptr 2 0)), (5, sc (.ptr 3 0)), (6, sc (.i64 i))], [(0, ⟨false, [.vd e]⟩), (1, ⟨true, [.fe a]⟩), (2, ⟨true, [.vi 16 z16]⟩), (3, ⟨true, [.fe o]⟩)], 16⟩
def pwInvI (e a o : Nat) (i d k : Int) : St := ⟨slotsOf 36 [(1, sc (.sl 0 0 (dg e).length)), (2, sc (.ptr 1 0)), (4, sc (.ptr 2 0)), (5, sc (.ptr 3 0)), (6, sc (.i64 i)), (7, sc (.i64 d)), (8, sc (.i64 k))], [(0, ⟨false, [.vd e]⟩), (1, ⟨true, [.fe a]⟩), (2, ⟨true, [.vi 16 z16]⟩), (3, ⟨true, [.fe o]⟩)], 16⟩
def lsL21 : List Int := [235, 255, 255, 255, 255, 255, 255, 255, 255, 255, 255, 255, 255, 255, 255, 255, 255, 255, 255, 255, 255, 255, 255, 255, 255, 255, 255, 255, 255, 255, 255, 127]
def lsL12 : List Int := [246, 255, 255, 255, 255, 255, 255, 255, 255, 255, 255, 255, 255, 255, 255, 255, 255, 255, 255, 255, 255, 255, 255, 255, 255, 255, 255, 255, 255, 255, 255, 63]
def lsL14 : List Int := [251, 255, 255, 255, 255, 255, 255, 255, 255, 255, 255, 255, 255, 255, 255, 255, 255, 255, 255, 255, 255, 255, 255, 255, 255, 255, 255, 255, 255, 255, 255, 31]
def lsL58 : List Int := [253, 255, 255, 255, 255, 255, 255, 255, 255, 255, 255, 255, 255, 255, 255, 255, 255, 255, 255, 255, 255, 255, 255, 255, 255, 255, 255, 255, 255, 255, 255, 15]
theorem lsL21_dg : lsL21 = dg ((Pp - 2) / 1) := by
  have h1 : IsD lsL21 := by
    intro d hd
    have : lsL21.all (fun d => decide (0 ≤ d) && decide (d < 256)) = true := by decide
    have := List.all_eq_true.1 this d hd
    simpa using this
  have h2 : nv lsL21 = (Pp - 2) / 1 := by decide
  rw [← h2]
  exact eq_dg h1 (.inr (by decide))
theorem lsL12_dg : lsL12 = dg ((Pp - 1) / 2) := by
  have h1 : IsD lsL12 := by
    intro d hd
    have : lsL12.all (fun d => decide (0 ≤ d) && decide (d < 256)) = true := by decide
    have := List.all_eq_true.1 this d hd
    simpa using this
  have h2 : nv lsL12 = (Pp - 1) / 2 := by decide
  rw [← h2]
  exact eq_dg h1 (.inr (by decide))
theorem lsL14_dg : lsL14 = dg ((Pp - 1) / 4) := by
  have h1 : IsD lsL14 := by
    intro d hd
    have : lsL14.all (fun d => decide (0 ≤ d) && decide (d < 256)) = true := by decide
    have := List.all_eq_true.1 this d hd
    simpa using this
  have h2 : nv lsL14 = (Pp - 1) / 4 := by decide
  rw [← h2]
  exact eq_dg h1 (.inr (by decide))
theorem lsL58_dg : lsL58 = dg ((Pp - 5) / 8) := by
  have h1 : IsD lsL58 := by
    intro d hd
    have : lsL58.all (fun d => decide (0 ≤ d) && decide (d < 256)) = true := by decide
    have := List.all_eq_true.1 this d hd
    simpa using this
  have h2 : nv lsL58 = (Pp - 5) / 8 := by decide
  rw [← h2]
  exact eq_dg h1 (.inr (by decide))
/-- The prime less a number, divided. -/
def spLs3L : List AV → Option (AV × List Prop)
  | [.val false [.i64 2], .val false [.i64 1]] => some (sc (.dI (dg ((Pp - 2) / 1))), [])
  | [.val false [.i64 1], .val false [.i64 2]] => some (sc (.dI (dg ((Pp - 1) / 2))), [])
  | [.val false [.i64 1], .val false [.i64 4]] => some (sc (.dI (dg ((Pp - 1) / 4))), [])
  | [.val false [.i64 5], .val false [.i64 8]] => some (sc (.dI (dg ((Pp - 5) / 8))), [])
  | _ => none
def spLs3 : List AV → Option (AV × List Prop)
  | [.val false [.i64 2], .val false [.i64 1]] => some (sc (.dN ((Pp - 2) / 1)), [])
  | [.val false [.i64 1], .val false [.i64 2]] => some (sc (.dN ((Pp - 1) / 2)), [])
  | [.val false [.i64 1], .val false [.i64 4]] => some (sc (.dN ((Pp - 1) / 4)), [])
  | [.val false [.i64 5], .val false [.i64 8]] => some (sc (.dN ((Pp - 5) / 8)), [])
  | _ => none
theorem dg1 (n : Nat) (h : n < 256) (h0 : n ≠ 0) : (List.replicate 1 (0 : Int)).set 0 (n : Int) = dg n := by
  rw [dg_pos h0, Nat.mod_eq_of_lt h, Nat.div_eq_of_lt h, dg_zero]; rfl
/-- One digit's bits. -/
def spPow : List AV → Option (AV × List Prop)
  | [.val true [.fe a], .val false [.dN e]] => some (.val true [.fe (pw a e)], [a < Pp, Sm e])
  | _ => none
def fSub (x y : Nat) : Nat := fAdd x (fNeg y)
end Go.Proofs.YtlgiaglbdifkpaaDoor
/- Contracts of the document's field: inverses, roots, bytes. Own work. -/
namespace Go.Proofs.YtlgiaglbdifkpaaDoor
open Go.Ev Go.Sp Go.RowKit
set_option maxRecDepth 100000
def tblH : List (FuncId × CtS) :=
  tblL3
theorem gsH : GSound Tryd.prog (upG (lookG tblH)) := GSound_of_tbl okE
theorem digs16_inj {x y : Nat} (hx : x < p256) (hy : y < p256) (h : digs16 x = digs16 y) : x = y := by
  have := congrArg V h
  rw [digs16_V, digs16_V, Nat.mod_eq_of_lt hx, Nat.mod_eq_of_lt hy] at this
  omega
theorem digs16_beq {x y : Nat} (hx : x < p256) (hy : y < p256) : (digs16 x == digs16 y && true) = (x == y) := by
  rw [Bool.and_true]
  by_cases h : x = y
  · subst h; rw [beq_self_eq_true, beq_self_eq_true]
  · rw [beq_eq_false_iff_ne.2 h, beq_eq_false_iff_ne.2 fun e => h (digs16_inj hx hy e)]
def Pe : Nat := 57896044618658097711785492504343953926634992332820282019728792003956564819947
def Ph : Nat := 28948022309329048855892746252171976963317496166410141009864396001978282409974
def fInv (x : Nat) : Nat := pw x Pe
theorem Sm_Pe : Sm Pe := Sm_lt (k := 40) (by decide) (by omega)
theorem Sm_Ph : Sm Ph := Sm_lt (k := 40) (by decide) (by omega)
def sqV (x : Nat) : Bool := pw x Ph == 1 || x == 0
def spSq : List AV → Option (AV × List Prop)
  | [.val true [.fe x]] => some (sc (.bool (sqV x)), [x < Pp])
  | _ => none
theorem one256 : 1 < p256 := by decide
theorem zero256 : 0 < p256 := by decide
def evV (r a : Nat) : Bool := r % 2 == 0 && fMul r r == a
def spEv : List AV → Option (AV × List Prop)
  | [.val true [.fe r], .val true [.fe a]] => some (sc (.bool (evV r a)), [r < Pp, a < Pp])
  | _ => none
theorem dig0_mod (x : Nat) : ((dig16 x 0).tmod (2 : Int) == (0 : Int)) = (x % 2 == 0) := by
  unfold dig16
  rw [tmod2, Nat.pow_zero, Nat.div_one]
  by_cases h : x % 2 = 0
  · rw [show x % 65536 % 2 = 0 by omega, h]; rfl
  · rw [show x % 65536 % 2 = 1 by omega, show x % 2 = 1 by omega]; rfl
def decV (b : List (BitVec 8)) : Nat × Int := if b.length = 32 then if bv b < Pp then (bv b, 0) else (0, 6) else (0, 1)
def spRDec : List AV → Option (AV × List Prop)
  | [.val false [.d8 b]] => some (.tup [(true, [.fe (decV b).1]), (false, [.i64 (decV b).2])], [])
  | _ => none
theorem decF {p : Prop} [Decidable p] (h : p) : (!decide p) = false := by simp [h]
theorem decT {p : Prop} [Decidable p] (h : ¬p) : (!decide p) = true := by simp [h]
def spREnc : List AV → Option (AV × List Prop)
  | [.val true [.fe x]] => some (sc (.d8 (bl x 32)), [x < p256])
  | _ => none
def tblR3 : List (FuncId × CtS) :=
  tblH
theorem gsR3 : GSound Tryd.prog (upG (lookG tblR3)) := GSound_of_tbl okE
def rtTd : List Nat := [1, 2, 3, 4, 5, 6]
def rtInv (a t x : Nat) (n : Int) (m : List Int) (b : Bool) : St := ⟨slotsOf 27 [(1, sc (.ptr 0 0)), (2, sc (.ptr 1 0)), (3, sc (.bool b)), (4, sc (.ptr 2 0)), (5, sc (.ptr 3 0)), (6, sc (.i64 n))], [(0, ⟨true, [.fe a]⟩), (1, ⟨true, [.vi 16 m]⟩), (2, ⟨true, [.fe t]⟩), (3, ⟨true, [.fe x]⟩)], 16⟩
def rtOut (a t x : Nat) (n : Int) : St := ⟨slotsOf 27 [(1, sc (.ptr 0 0)), (2, sc (.ptr 1 0)), (3, sc (.bool true)), (4, sc (.ptr 2 0)), (5, sc (.ptr 3 0)), (6, sc (.i64 n))], [(0, ⟨true, [.fe a]⟩), (1, ⟨true, [.fe x]⟩), (2, ⟨true, [.fe t]⟩), (3, ⟨true, [.fe x]⟩)], 16⟩
end Go.Proofs.YtlgiaglbdifkpaaDoor
/- Contracts of the document's field: the root. Own work. -/
namespace Go.Proofs.YtlgiaglbdifkpaaDoor
open Go.Ev Go.Sp Go.RowKit
set_option maxRecDepth 100000
def P58 : Nat := 7237005577332262213973186563042994240829374041602535252466099000494570602493
def P14 : Nat := 14474011154664524427946373126085988481658748083205070504932198000989141204987
def turnN : Nat := pw 2 P14
def rtX (a : Nat) : Nat → Nat
  | 0 => fMul (pw a P58) a
  | n + 1 => fMul (rtX a n) turnN
theorem rtX_lt (a : Nat) : ∀ n, rtX a n < Pp
  | 0 => fMul_lt _ _
  | _ + 1 => fMul_lt _ _
def rtS (a : Nat) : Nat → Nat → Nat × Bool
  | 0, _ => (0, false)
  | m + 1, n => if evV (rtX a n) a then (rtX a n, true) else rtS a m (n + 1)
def rtV (a : Nat) : Nat × Bool := rtS a 4 0
theorem rtS_all (a : Nat) : ∀ m n, (∀ j, n ≤ j → j < n + m → evV (rtX a j) a = false) → rtS a m n = (0, false)
  | 0, _, _ => rfl
  | m + 1, n, h => by
    rw [rtS, h n (by omega) (by omega)]
    exact rtS_all a m (n + 1) fun j h1 h2 => h j (by omega) (by omega)
theorem rtS_at (a : Nat) : ∀ m n k, n ≤ k → k < n + m → evV (rtX a k) a = true → (∀ j, n ≤ j → j < k → evV (rtX a j) a = false) → rtS a m n = (rtX a k, true)
  | 0, n, k, h1, h2, _, _ => by omega
  | m + 1, n, k, h1, h2, h3, h4 => by
    by_cases e : n = k
    · subst e; rw [rtS, h3]; rfl
    · rw [rtS, h4 n (by omega) (by omega)]
      exact rtS_at a m (n + 1) k (by omega) (by omega) h3 fun j h5 h6 => h4 j (by omega) h6
theorem first_even (a : Nat) : ∀ n, (∀ j, j < n → evV (rtX a j) a = false) ∨ ∃ m, m < n ∧ evV (rtX a m) a = true ∧ ∀ j, j < m → evV (rtX a j) a = false
  | 0 => .inl fun j h => by omega
  | n + 1 => by
    rcases first_even a n with h | ⟨m, h1, h2, h3⟩
    · cases hv : evV (rtX a n) a with
      | true => exact .inr ⟨n, by omega, hv, h⟩
      | false =>
        refine .inl fun j hj => ?_
        by_cases e : j = n
        · subst e; exact hv
        · exact h j (by omega)
    · exact .inr ⟨m, by omega, h2, h3⟩
theorem turn_lt : turnN < Pp := pw_lt _ _
def spRoot : List AV → Option (AV × List Prop)
  | [.val true [.fe a]] => some (.tup [(true, [.fe (rtV a).1]), (false, [.bool (rtV a).2])], [a < Pp])
  | _ => none
theorem Sm_P14 : Sm P14 := Sm_lt (k := 40) (by decide) (by omega)
theorem Sm_P58 : Sm P58 := Sm_lt (k := 40) (by decide) (by omega)
theorem two_lt : 2 < Pp := by decide
end Go.Proofs.YtlgiaglbdifkpaaDoor
